/-
 The plain law of a box, file by file: firm and soft bytes.
-/
import Derived.Test.YtgpmoonnachoaaaGreatDoorLfU2ToS3
import Derived.Test.YtgpmoonnachoaaaGreatDoorLfX2ToS5
import Derived.Test.YtgpmoonnachoaaaGreatDoorLfAToN1
import Derived.Lib.AppendZerosOnto
import Derived.Lib.Overlaps
import Derived.Laws.IdiomCopy
import Derived.Laws.Externs
set_option maxRecDepth 100000
set_option linter.unusedVariables false
set_option linter.unusedSimpArgs false
open Go.IntKind renaming i64→J9,wrap→J8
open Go.Value renaming string→J7,int→J6,pointer→J5,slice→J4,bool→J3,tuple→J1
open Go.Obj renaming cells→J2
open Go renaming Value→J0,Addr→Q6,TypeId→Q7,FuncId→Q8,Program→Q1
open Go.Addr renaming add→Q9,mk→Q5
namespace Go.Lf
open Go
def ff(m:Bx)(a:A2P):Option (A2P×A2P):=(Cn a m.files).map λf=>(f.cj,f.soft)
theorem VL {m:Bx}{a:A2P}:(Cn a m.files).isSome=(ff m a).isSome:=by unfold ff;cases Cn a m.files<;>rfl
theorem qT {m:Bx}(hd:m.down=false)(a:A2P):UM m a=match ff m a with|none=>(bG,31)|some p=>(p.1++p.2,0):=by unfold UM ff;rw[if_neg (by simp[hd])];cases Cn a m.files<;>rfl
theorem qU(m:Bx)(l:List Fi)(a:A2P):ff {IL m with files:=l} a=(Cn a l).map λf=>(f.cj,f.soft):=rfl
theorem AKs {a x:A2P}(l:List Fi):Cn x (UH a l)=if x=a then some ((Cn a l).getD ⟨a,bG,bG⟩) else Cn x l:=by
 unfold UH;cases c:Cn a l with
 |some f=>
  simp only[Option.isSome_some,if_true];by_cases b:x=a
  ·subst b;simp[c]
  ·rw[if_neg b]
 |none=>
  rw[if_neg (by simp),wH (λd e=>Rx c d e)];by_cases b:x=a
  ·subst b;simp
  ·rw[if_neg b,if_neg (λg=>b g.symm)]
def km(m:Bx):Prop:=m.down=false/\m.fuel≠0
theorem AM8 {m:Bx}(g:km m){a d:A2P}(e:LU a=false):(EM m a d).1=0/\ ∀x,ff (EM m a d).2 x=if x=a then some (((ff m a).getD (bG,bG)).1,((ff m a).getD (bG,bG)).2++d) else ff m x:=by
 unfold EM;rw[if_neg (by simp[g.1]),if_neg (by simp[e]),if_neg g.2];refine⟨rfl,λx=>?_⟩;rw[qU,Zw (g:=Rp d) (λ_=>rfl),AKs];unfold ff;by_cases b:x=a
 ·subst b;rw[if_pos rfl,if_pos rfl];cases c:Cn x m.files with
  |none=>simp[Rp]
  |some f=>
   have:=(KH c).1;simp[Rp,this]
 ·rw[if_neg b,if_neg b];cases c:Cn x m.files with
  |none=>rfl
  |some f=>
   have:=(KH c).1;simp only[HP];rw[if_neg (by rw[this];exact b)]
theorem ARR {m:Bx}(g:km m){b:A2P}{p:A2P×A2P}(c:ff m b=some p):(Hg m b).1=0/\ ∀x,ff (Hg m b).2 x=if x=b then some (p.1++p.2,bG) else ff m x:=by
 have a: ∃f,Cn b m.files=some f/\(f.cj,f.soft)=p:=by
  unfold ff at c;cases a:Cn b m.files with
  |none=>rw[a] at c;cases c
  |some f=>rw[a] at c;exact⟨f,rfl,BY c⟩
 obtain⟨f,a,rfl⟩:=a;unfold Hg;rw[if_neg (by simp[g.1]),if_neg (by simp[a]),if_neg g.2];refine⟨rfl,λx=>?_⟩;rw[qU,Zw (g:=SH) (λ_=>rfl)];by_cases d:x=b
 ·subst d;have:=(KH a).1;rw[if_pos rfl,a];simp[SH,this]
 ·rw[if_neg d];unfold ff;cases e:Cn x m.files with
  |none=>rfl
  |some h=>
   have:=(KH e).1;simp only[HP];rw[if_neg (by rw[this];exact d)]
theorem ANp {m:Bx}(g:km m){a:A2P}(b:(ff m a).isSome=true):(Gr m a).1=0/\ ∀x,ff (Gr m a).2 x=if x=a then none else ff m x:=by
 have c:(Cn a m.files).isNone=false:=by
  rw[<- VL] at b;cases c:Cn a m.files with
  |none=>rw[c] at b;cases b
  |some f=>rfl
 unfold Gr;rw[if_neg (by simp[g.1]),if_neg (by simp[c]),if_neg g.2];refine⟨rfl,λx=>?_⟩;rw[qU,Zm];split<;>rfl
theorem AMb {m:Bx}(l:List Fi):({IL m with files:=l}:Bx).down=m.down:=by show(IL m).down=m.down;unfold IL;split<;>rfl
theorem wv: ∀ {l f:List Nat},l.Pairwise (· < ·)->f.Pairwise (· < ·)->(∀ e,e∈l↔e∈f)->l=f
 | [],[],_,_,_=>rfl
 | [],b::f,_,_,d=>by have:=(d b).2 (by simp);cases this
 |a::l,[],_,_,d=>by have:=(d a).1 (by simp);cases this
 |a::l,b::f,h,i,d=>by
  rw[RK] at h i;have k:a=b:=by
   rcases List.mem_cons.1 ((d a).1 (by simp)) with c|c
   ·exact c
   ·rcases List.mem_cons.1 ((d b).2 (by simp)) with j|j
    ·exact j.symm
    ·have:=i.1 a c;have:=h.1 b j;omega
  subst k;have:l=f:=wv h.2 i.2 λe=>by
   constructor
   ·intro g;rcases List.mem_cons.1 ((d e).1 (AF _ g)) with c|c
    ·have:=h.1 e g;omega
    ·exact c
   ·intro g;rcases List.mem_cons.1 ((d e).2 (AF _ g)) with c|c
    ·have:=i.1 e g;omega
    ·exact c
  rw[this]
end Go.Lf
namespace Go.Lf.G
open Go
theorem AQm {b:A2P}{m:Bx}{l:List Nat}{c:Nat->List A2P}(hd:m.down=false)(d: ∀a∈l,∃p,ff m (aD b a)=some p/\NS (bl (p.1++p.2)) ((c a).map bl)):Sr b m l=l.flatMap c:=by
 unfold Sr
 induction l with
 |nil=>rfl
 |cons a l e=>
  obtain⟨p,f,g⟩:=d a (by simp);rw[AH,AH,e λh i=>d h (AF _ i)];congr 1;have j:iP m b a=p.1++p.2:=by unfold iP;rw[qT hd,f]
  rw[j,APY g,AT]
  conv=>rhs;rw[<- Ks (c a)]
  exact CD λx _=>Kv x
theorem yJ {nm:A2P}{a:Nat}(e:nm.size<=8)(b:a<=99999999):LU (aD nm a)=false:=by have c:=APf (nm:=nm) b;unfold LU;rw[Hk,decide_eq_false_iff_not,decide_eq_false_iff_not];refine⟨λd=>?_,by omega⟩;rw[d] at c;have:bG.size=0:=rfl;omega
theorem AQM {i:A2P}{m:Bx}{l:List Nat}(g:mE i m l):l.length<=99999999:=by
 have j: ∀(l:List Nat) (d:Nat),l.Pairwise (· < ·)->(∀ b∈l,d<b/\b<=99999999)->l.length+d<=99999999\/l= []:=by
  intro l
  induction l with
  |nil=>intro d _ _;exact .inr rfl
  |cons a l k=>
   intro d f h;rw[RK] at f;have n:=h a (by simp);rcases k a f.2 (λb e=>⟨f.1 b e,(h b (AF _ e)).2⟩) with c|c
   ·left;simp only[A5];omega
   ·subst c;left;simp;omega
 rcases j l 0 g.inc (λb e=>by have:=(g.mem b).1 e;omega) with c|c
 ·omega
 ·subst c;simp
structure Lw (h:aa) (lg b:Nat) (nm:A2P) (hh:aa) (S:Nat->Prop) (m:Bx) (seg:Nat) (made:Bool):Prop where
 box:Cu hh b S m
 log:ES hh lg b nm seg made
 ext:Ext h hh
 fresh: ∀c,S c->h.size<=c/\c≠lg
 lgn:h.size<=lg
def aW(rec:A2P):A2P:=AX (Ct (bl rec))
abbrev nx:A2P:=⟨#[120]⟩
open M (Sorted Af CY A9 Ag Ar BU Ai bC BH)
abbrev bQ:=A2P->Option (A2P×A2P)
abbrev nl:A2P:=⟨#[108]⟩
abbrev nn:A2P:=⟨#[110]⟩
abbrev nt:A2P:=⟨#[116]⟩
def aY(a:Nat):A2P:=nt++AX (Lib.decDigits a)
theorem XF(a:Nat):bl (aY a)=116::Lib.decDigits a:=by show(nt++AX (Lib.decDigits a)).data.toList=_;rw[JT,N5];show [116]++(AX (Lib.decDigits a)).data.toList=_;rw[show(AX (Lib.decDigits a)).data.toList=Lib.decDigits a from Bh _];rfl
theorem JR {a b:Nat}(e:aY a=aY b):a=b:=by
 have c:=congrArg bl e;rw[XF,XF] at c;have f:Lib.decDigits a=Lib.decDigits b:=by injection c
 have d:=(Y9 a).2;rw[f,(Y9 b).2] at d;exact d.symm
theorem UG(a:Nat):(bl (aD nl a)).head? =some 108:=by rw[RP];rfl
theorem Xf(a:Nat):(bl (aD nn a)).head? =some 110:=by rw[RP];rfl
theorem rF(a:Nat):(bl (aY a)).head? =some 116:=by rw[XF];rfl
theorem V9(a b:Nat):aD nl a≠aD nn b:=λc=>by have:=UG a;rw[c,Xf] at this;cases this
theorem Lu(a b:Nat):aD nl a≠aY b:=λc=>by have:=UG a;rw[c,rF] at this;cases this
theorem QY(a b:Nat):aD nn a≠aY b:=λc=>by have:=Xf a;rw[c,rF] at this;cases this
def di(x:A2P):Prop:=(∃ a,x=aD nl a)\/(∃ a,x=aD nn a)\/ ∃a,x=aY a
def Mc(b G:bQ):Prop:= ∀x,match b x with
 |none=>G x=none
 |some p=> ∃a,G x=if p.1++p.2.extract 0 a=bG then none else some (p.1++p.2.extract 0 a,bG)
theorem AQl(a:Nat):bG.extract 0 a=bG:=by
 have:(bG.extract 0 a).size=0:=by have:bG.size=0:=rfl;rw[A0N];omega
 have b:=Kv (bG.extract 0 a);have c:bl (bG.extract 0 a)= []:=Tz this;rw[c] at b;exact b.symm
def Nk(a b:Option (A2P×A2P)):Prop:=b=a\/(a=some (bG,bG)/\b=none)
theorem Mc.cj {b G:bQ}(c:Mc b G){x:A2P}(g: ∀p,b x=some p->p.2=bG):Nk (b x) (G x):=by
 have:=c x;cases d:b x with
 |none=>rw[d] at this;exact .inl this
 |some p=>
  rw[d] at this;obtain⟨i,a⟩:=this;have e:=g p d;obtain⟨h,j⟩:=p;simp only at e;subst e;simp only[AQl,YW] at a;by_cases f:h=bG
  ·subst f;rw[if_pos rfl] at a;exact .inr ⟨rfl,a⟩
  ·rw[if_neg f] at a;exact .inl a
structure gw (F:bQ) (nm:A2P) (top:Nat) (R:Nat->List (List UInt8)):Prop where
 has: ∀n p,1<=n->n<=99999999->F (aD nm n)=some p->p.2=bG/\NS (bl p.1) (R n)
 iu: ∀n,1<=n->n<=99999999->F (aD nm n)=none->R n= []
 out: ∀n,top<=n->n<=99999999->F (aD nm n)=none
 lx: ∀n,(n=0\/top<=n)->R n= []
def KN {a:Type}(c:Nat->a)(s:Nat)(v:a):Nat->a:=λb=>if b=s then v else c b
theorem EK {a:Type}{b:Nat->a}{s:Nat}{v:a}:KN b s v s=v:=if_pos rfl
theorem F4 {b:Type}{c:Nat->b}{s a:Nat}{v:b}(d:a≠s):KN c s v a=c a:=if_neg d
theorem rG {a:List (List UInt8)}(b:NS [] a):a= []:=b.uniq (.stop UD)
theorem gw.put {k G:bQ}{f:A2P}{l eY:Nat}{m:Nat->List (List UInt8)}(i:gw k f l m){s:Nat}{v:List (List UInt8)}(r:1<=s/\s<=99999999)(t:s<eY)(j: ∀a,1<=a->a<=99999999->a≠s->Nk (k (aD f a)) (G (aD f a)))
  (n:(G (aD f s)=none/\v= [])\/ ∃x,G (aD f s)=some (x,bG)/\NS (bl x) v) (u:l<=eY):gw G f eY (KN m s v):=by
 refine⟨λa p g e c=>?_,λa g e c=>?_,λa o e=>?_,λa o=>?_⟩
 ·by_cases d:a=s
  ·subst d;rw[EK];rcases n with⟨b,_⟩|⟨x,b,h⟩
   ·rw[b] at c;cases c
   ·rw[b] at c;cases c;exact⟨rfl,h⟩
  ·rw[F4 d];rcases j a g e d with b|⟨b,h⟩
   ·exact i.has a p g e (b▸c)
   ·rw[h] at c;cases c
 ·by_cases d:a=s
  ·subst d;rw[EK];rcases n with⟨_,b⟩|⟨x,b,_⟩
   ·exact b
   ·rw[b] at c;cases c
  ·rw[F4 d];rcases j a g e d with b|⟨b,h⟩
   ·exact i.iu a g e (b▸c)
   ·obtain⟨_,q⟩:=i.has a _ g e b;exact rG q
 ·have d:a≠s:=by omega
  rcases j a (by omega) e d with b|⟨b,h⟩
  ·rw[b];exact i.out a (by omega) e
  ·exact h
 ·have d:a≠s:=by omega
  rw[F4 d];exact i.lx a (by omega)
theorem gw.aN {k G:bQ}{f:A2P}{i:Nat}{l:Nat->List (List UInt8)}(d:gw k f i l)(o:1<=i)(j: ∀a,1<=a->a<=99999999->Nk (k (aD f a)) (G (aD f a))):gw G f i l:=by
 refine⟨λa p g b e=>?_,λa g b e=>?_,λa m b=>?_,d.lx⟩
 ·rcases j a (by omega) b with c|⟨c,h⟩
  ·exact d.has a p g b (c▸e)
  ·rw[h] at e;cases e
 ·rcases j a (by omega) b with c|⟨c,h⟩
  ·exact d.iu a g b (c▸e)
  ·obtain⟨_,n⟩:=d.has a _ g b c;exact rG n
 ·rcases j a (by omega) b with c|⟨c,h⟩
  ·rw[c];exact d.out a m b
  ·exact h
theorem gw.drop {l G:bQ}{e:A2P}{h:Nat}{m g:Nat->List (List UInt8)}(i:gw l e h m)(j: ∀a,a<=99999999->(G (aD e a)=l (aD e a)/\g a=m a)\/(G (aD e a)=none/\g a= []))(n: ∀a,(a=0\/h<=a)->g a= []):gw G e h g:=by
 refine⟨λa p k c f=>?_,λa k c f=>?_,λa o c=>?_,n⟩
 ·rcases j a c with⟨b,d⟩|⟨b,d⟩
  ·rw[d];exact i.has a p k c (b▸f)
  ·rw[b] at f;cases f
 ·rcases j a c with⟨b,d⟩|⟨b,d⟩
  ·rw[d];exact i.iu a k c (b▸f)
  ·exact d
 ·rcases j a c with⟨b,d⟩|⟨b,d⟩
  ·rw[b];exact i.out a o c
  ·exact b
theorem zf {rs:List (List UInt8)}{r:List UInt8}(b: ∀x∈rs++ [r],x.length<=1048576)(a:Nat):NS (bl (AX (aK rs)++(AX (Ct r)).extract 0 a)) rs\/NS (bl (AX (aK rs)++(AX (Ct r)).extract 0 a)) (rs++ [r]):=by
 have c:bl (AX (aK rs)++(AX (Ct r)).extract 0 a)=aK rs++(Ct r).take a:=by show(AX (aK rs)++(AX (Ct r)).extract 0 a).data.toList=_;rw[JT,N5,SM,SO];rw[show(AX (aK rs)).data.toList=aK rs from Bh _,show(AX (Ct r)).data.toList=Ct r from Bh _];simp
 rw[c];by_cases d:a<(Ct r).length
 ·exact .inl (RY (λx e=>b x (by simp[e])) (AM7 (b r (by simp)) d))
 ·right;rw[AG (by omega)];have:=RY (rs:=rs++ [r]) b (t:= []) UD;simpa using this
structure Nt where
 next:Nat
 aW:Nat
 names:List Nat
def EF(x:Nt):List UInt8:=Bc x.next++Bc x.aW++Bc x.names.length++x.names.flatMap Bc
structure gZ (x:Nt):Prop where
 next:x.next<=99999999
 aW:1<=x.aW/\x.aW<=99999999
 cp:x.names.length<=60000
 below: ∀n∈x.names,n<x.next
 nd:x.names.Nodup
structure YS (b:List Pr):Prop where
 len:b.length<=64
 ok: ∀x∈b,La x
theorem Uu: ∀ {l:List Nat},(∀ n∈l,n<=99999999)->(l.flatMap Bc).length<=l.length*10
 | [],_=>by simp
 |n::l,a=>by
  have d:=AV (n:=n) (by have:=a n (by simp);omega);have e:=Uu (l:=l) λb c=>a b (AF _ c)
  simp only[AH,A1,A5];omega
theorem zg {x:Nt}(a:gZ x):(EF x).length<=30+x.names.length*10:=by
 have c:=AV (n:=x.next) (by have:=a.next;omega);have d:=AV (n:=x.aW) (by have:=a.aW;omega);have e:=AV (n:=x.names.length) (by have:=a.cp;omega);have f:=Uu (l:=x.names) λn b=>by have:=a.below n b;have:=a.next;omega
 simp only[EF,A1];omega
theorem ZH {s:Nat}{b:List Pr}(d:s<=99999999)(a:YS b):(BV s b).length<=20+64*8276:=by have e:=AV (n:=s) (by omega);have f:=AV (n:=b.length) (by have:=a.len;omega);have g:=Lt a.ok;have c:=a.len;have h:b.length*8276<=64*8276:=AN _ c;simp only[BV,A1];omega
structure Br where
 L:Nat->List (List Pr)
 N:Nat->List Nt
 T:Nat->List Pr
 aR:Nat
 aX:Nat
def NV(a:Br):List Nt:=(List.range a.aX).flatMap a.N
def Ao(a:Br):Nt:=(NV a).getLast?.getD ⟨1,1,[]⟩
def IP(a:Br):List (List Pr):=(List.range a.aR).flatMap λb=>if b<(Ao a).aW then [] else a.L b
def Em(a:Br):List Pr:=A9 [] (IP a).flatten
def cC(a:Br):List Pr:=BH (Ag (Em a::(Ao a).names.map a.T))
structure BJ (F:bQ) (D:Br):Prop where
 log:gw F nl D.aR λn=>(D.L n).map (BV n)
 note:gw F nn D.aX λn=>(D.N n).map EF
 cO: ∀n∈(Ao D).names,F (aY n)=some (AX (Jd (D.T n)),bG)/\G6 (D.T n)
 gl: ∀n b,b∈D.L n->YS b
 dP: ∀n x,x∈D.N n->gZ x
 dA: ∀x,F x≠none->(bl x).head? =some 116-> ∃n,x=aY n
 cE:1<=D.aR/\D.aR<=99999999/\1<=D.aX/\D.aX<=99999999
theorem zi {b:bQ}{a:Br}(c:BJ b a):gZ (Ao a):=by
 unfold Ao;cases d:(NV a).getLast? with
 |none=>exact⟨by simp,by simp,by simp,by simp,by simp⟩
 |some x=>
  have:=SZ d;obtain⟨e,_,f⟩:=List.mem_flatMap.1 this;exact c.dP e x f
theorem ATC {l:List Pr}(t:G6 l):AX (Jd l)≠bG:=λd=>by
 have a:Jd l= []:=by have:=congrArg bl d;rw[EN] at this;exact this
 have e:aU l (NE l)≠ []:=by simp[aU]
 unfold Jd at a;cases b:aU l (NE l) with
 |nil=>exact e b
 |cons r f=>
  rw[b] at a;have g:(Ct r).length=0:=by have c:=congrArg List.length a;rw[XO,A1] at c;simp at c;simp[c.1]
  have h:=(JM (r:=r) (Nq t.eM r (by rw[b];simp))).1;omega
theorem VM {a b:Option (A2P×A2P)}{l:List Pr}(e:Nk a b)(t:G6 l)(d:a=some (AX (Jd l),bG)):b=some (AX (Jd l),bG):=by
 rcases e with c|⟨c,_⟩
 ·exact c.trans d
 ·rw[d] at c;injection c with c;exact absurd (Prod.mk.inj c).1 (ATC t)
theorem BJ.same {c G:bQ}{e:Br}(b:BJ c e)(h: ∀a,1<=a->a<=99999999->Nk (c (aD nl a)) (G (aD nl a)))(i: ∀a,1<=a->a<=99999999->Nk (c (aD nn a)) (G (aD nn a)))(j: ∀a∈(Ao e).names,Nk (c (aY a)) (G (aY a)))
  (k: ∀x,G x≠none->c x≠none\/ ∃a,x=aY a):BJ G e:=by
 refine⟨b.log.aN b.cE.1 h,b.note.aN b.cE.2.2.1 i,λa f=>?_,b.gl,b.dP,λx l hd=>?_,b.cE⟩
 ·obtain⟨d,g⟩:=b.cO a f;exact⟨VM (j a f) g d,g⟩
 ·rcases k x l with d|d
  ·exact b.dA x d hd
  ·exact d
theorem BJ.dQ {g G:bQ}{h:Br}(d:BJ g h)(c:Mc g G):BJ G h:=by
 refine d.same (λb e f=>c.cj λp a=>(d.log.has b p e f a).1) (λb e f=>c.cj λp a=>(d.note.has b p e f a).1) (λb i=>c.cj λp a=>?_) λx j=> .inl λk=>j ?_
 ·rw[(d.cO b i).1] at a;cases a;rfl
 ·have:=c x;rw[k] at this;exact this
open M (Sorted Af CY A9 Ag Ar BU Ai bC BH aQ BF X8)
theorem AP5 {x:Pr}(a:La x):Ai x=0:=by
 have c:x.key≠(⟨#[]⟩:A2P):=λd=>a.key (by rw[d];rfl)
 have f:=a.bL;have g:=a.cq;unfold M.Ai;rw[if_neg ?_,if_neg ?_]
 ·simp only[DA,decide_eq_true_eq];omega
 ·simp only[DA,A4,decide_eq_true_eq,CI,decide_eq_false_iff_not];rintro(b|⟨b,e⟩)
  ·exact c b
  ·exact e (Zv (a.gone b))
theorem oL {x:Pr}(a:Ai x=0):La x:=by
 unfold M.Ai at a;split at a
 ·cases a
 ·rename_i b;split at a
  ·cases a
  ·rename_i c;simp only[DA,A4,decide_eq_true_eq,CI,decide_eq_false_iff_not,not_or,not_and,Decidable.not_not] at b c;refine⟨λd=>b.1 (Zv d),by omega,by omega,λe=>?_⟩;rw[b.2 e];rfl
theorem zy {l:List Pr}(a: ∀x∈l,La x):BU l:=λx b=>AP5 (a x b)
theorem zA(a:A2P): ∀ {b t:List Pr},Sorted t->BU b->Af a (A9 t b)=(Af a b.reverse).or (Af a t)
 | [],t,_,_=>rfl
 |x::b,t,s,g=>by
  have d:=g x (by simp);show Af a (A9 (CY x t) b)=_;rw[zA a (M.PZ s) λe f=>g e (AF _ f),Sp,M.LP,M.Ql d,M.Xh x a s,M.BD];cases Af a b.reverse with
  |some p=>rfl
  |none=>
   by_cases c:x.key=a
   ·rw[if_pos c,if_pos c];rfl
   ·rw[if_neg c,if_neg c];rfl
def alive(a:Option Pr):Option Pr:=a.filter λp=> !p.gone
theorem Hw(x:Pr):alive (some x)=if x.gone then none else some x:=by unfold alive;cases a:x.gone<;>simp[Option.filter,a]
theorem ZU(a:A2P): ∀ {l:List Pr},Sorted l->Af a (BH l)=alive (Af a l)
 | [],_=>rfl
 |x::l,s=>by
  have e:=List.pairwise_cons.1 s;have c:=ZU a e.2;unfold M.BH at c ⊢;rw[AS,M.BD];by_cases b:x.key=a
  ·rw[if_pos b];cases d:x.gone with
   |false=>rw[if_pos (by rfl),M.BD,if_pos b,Hw,d];rfl
   |true=>
    rw[if_neg (by simp),c];have:Af a l=none:=M.EI λf g h=>M.Lj (e.1 f g) (b.trans h.symm)
    rw[this,Hw,d];rfl
  ·rw[if_neg b];cases d:x.gone with
   |false=>rw[if_pos (by rfl),M.BD,if_neg b];exact c
   |true=>rw[if_neg (by simp)];exact c
theorem Uq {l:List Pr}(s:Sorted l):Sorted (BH l):=s.sublist Gk
def Ls(fr:List Pr)(ts:List (List Pr)):List Pr:=BH (Ag (fr::ts))
theorem Ew(fr:List Pr)(ts:List (List Pr)):Sorted (Ls fr ts):=Uq (M.Dz _)
theorem Gf(a:A2P){fr:List Pr}{ts:List (List Pr)}(b:bC (fr::ts)):Af a (Ls fr ts)=alive ((Af a fr).or (Ar a ts)):=by unfold Ls;rw[ZU a (M.Dz _),M.Ko a b,M.EL]
def fh(m:List Pr)(p:Pr):List Pr:=m.take (aQ p.key m)++(if p.gone then [] else [p])++m.drop (if BF p.key m then aQ p.key m+1 else aQ p.key m)
def cz(m b:List Pr):List Pr:=b.foldl fh m
theorem UK(a:A2P)(x:Pr)(l:List Pr):aQ a (x::l)=if aO x.key a then aQ a l+1 else 0:=by unfold M.aQ M.ic;rw[Mz];split<;>simp
theorem zB(a:A2P)(x:Pr)(l:List Pr):BF a (x::l)=if aO x.key a then BF a l else decide (x.key=a):=by unfold M.BF;rw[UK];by_cases b:aO x.key a=true<;>simp[b]
def kA(a:A2P)(l:List Pr):List Pr:=l.filter λb=> !decide (b.key=a)
theorem zC {k:A2P}: ∀ {l:List Pr},Sorted l->l.take (aQ k l)++l.drop (if BF k l then aQ k l+1 else aQ k l)=kA k l
 | [],_=>by simp[kA]
 |x::l,s=>by
  have c:=List.pairwise_cons.1 s;have d:=zC (k:=k) c.2;unfold kA at d ⊢;rw[UK,zB,AS];by_cases a:aO x.key k=true
  ·have i:x.key≠k:=M.Lj a;have j:(!decide (x.key=k))=true:=by simp[i]
   simp only[a,if_true,j,I0,Dd];rw[<- d];cases o:BF k l<;>simp
  ·rw[if_neg a,if_neg a,I3,CT];have e:l.filter (λm=> !decide (m.key=k))=l:=by
    refine List.filter_eq_self.2 λf n=>?_
    have g:=c.1 f n;by_cases h:f.key=k
    ·rw[h] at g;exact absurd g a
    ·simp[h]
   by_cases b:x.key=k
   ·rw[if_pos (by simp[b]),if_neg (by simp[b]),e];rfl
   ·rw[if_neg (by simp[b]),if_pos (by simp[b]),e];rfl
theorem rH {m:List Pr}(s:Sorted m)(p:Pr):fh m p=if p.gone then kA p.key m else M.ins p m:=by
 unfold fh;cases a:p.gone with
 |true=>simp only[if_true,AK];exact zC s
 |false=>
  simp only[Cp,if_false];have:=M.mY p m;unfold M.X8 at this;exact this
theorem AN1(b c:A2P)(m:List Pr):Af b (kA c m)=if c=b then none else Af b m:=by
 unfold kA
 induction m with
 |nil=>split<;>rfl
 |cons x m f=>
  rw[AS,M.BD];by_cases d:x.key=c
  ·rw[if_neg (by simp[d]),f];by_cases a:c=b
   ·rw[if_pos a,if_pos a]
   ·rw[if_neg a,if_neg a,if_neg (λe=>a (d.symm.trans e))]
  ·rw[if_pos (by simp[d]),M.BD,f];by_cases a:x.key=b
   ·rw[if_pos a,if_pos a,if_neg (λe=>d (a.trans e.symm))]
   ·rw[if_neg a,if_neg a]
theorem KD {m:List Pr}(s:Sorted m)(p:Pr):Sorted (fh m p):=by
 rw[rH s];split
 ·exact s.sublist Gk
 ·exact M.XC p s
theorem PH {m:List Pr}(s:Sorted m)(p:Pr)(a:A2P):Af a (fh m p)=if p.key=a then alive (some p) else Af a m:=by
 rw[rH s];cases b:p.gone with
 |true=>rw[if_pos rfl,AN1,Hw,b];rfl
 |false=>rw[if_neg (by simp),M.Xh p a s,Hw,b];rfl
theorem zD: ∀ {b m:List Pr},Sorted m->Sorted (cz m b)
 | [],_,s=>s
 |p::b,m,s=>zD (b:=b) (KD s p)
theorem YI(a:A2P): ∀ {b m:List Pr},Sorted m->Af a (cz m b)=match Af a b.reverse with|some p=>alive (some p)|none=>Af a m
 | [],_,_=>rfl
 |p::b,m,s=>by
  show Af a (cz (fh m p) b)=_;rw[YI a (KD s p),Sp,M.LP,M.BD];cases Af a b.reverse with
  |some d=>rfl
  |none=>
   rw[PH s];by_cases c:p.key=a
   ·rw[if_pos c,if_pos c];rfl
   ·rw[if_neg c,if_neg c];rfl
theorem zE {fr b:List Pr}{ts:List (List Pr)}(c:bC (fr::ts))(g:BU b):Ls (A9 fr b) ts=cz (Ls fr ts) b:=by
 have e:=c.sorted fr (by simp);have f:bC (A9 fr b::ts):=⟨λl a=>by
   rcases List.mem_cons.1 a with rfl|a
   ·exact M.Q4 e
   ·exact c.sorted l (by simp[a]),λl a=>by
   rcases List.mem_cons.1 a with rfl|a
   ·exact M.XT (c.aT fr (by simp))
   ·exact c.aT l (by simp[a])⟩
 refine(Ew _ _).ext (zD (Ew _ _)) λd=>?_
 rw[Gf d f,zA d e g,YI d (Ew _ _),Gf d c];cases Af d b.reverse with
 |some p=>rfl
 |none=>rfl
theorem bC.gI {ts:List (List Pr)}(b:bC ts):bC ([]::ts):=⟨λl a=>by
  rcases List.mem_cons.1 a with rfl|a
  ·exact List.Pairwise.nil
  ·exact b.sorted l a,λl a=>by
  rcases List.mem_cons.1 a with rfl|a
  ·exact λ_ c=>by cases c
  ·exact b.aT l a⟩
theorem bC.tail {l:List Pr}{ts:List (List Pr)}(b:bC (l::ts)):bC ts:=⟨λx a=>b.sorted x (by simp[a]),λx a=>b.aT x (by simp[a])⟩
theorem AHu {fr:List Pr}{ts:List (List Pr)}(a:bC (fr::ts)):Ls [] (fr::ts)=Ls fr ts:=by
 refine(Ew _ _).ext (Ew _ _) λb=>?_
 rw[Gf b (bC.gI a),Gf b a,M.EL];rfl
theorem AHX(a b:Option Pr):alive (a.or (alive b))=alive (a.or b):=by
 cases a with
 |some p=>rfl
 |none=>
  cases b with
  |none=>rfl
  |some c=>cases d:c.gone<;>simp[Hw,d,alive]
def GR(ts:List (List Pr)):List Pr:=BH (Ag ts)
theorem oM {ts:List (List Pr)}:Sorted (GR ts)/\BU (GR ts):=⟨Uq (M.Dz _),λx a=>M.Xq _ x (List.mem_filter.1 a).1⟩
theorem bC.left {fr:List Pr}{ts:List (List Pr)}(b:bC (fr::ts)):bC [fr,GR ts]:=⟨λl a=>by
  rcases List.mem_cons.1 a with rfl|a
  ·exact b.sorted _ (by simp)
  ·rw[List.mem_singleton.1 a];exact oM.1,λl a=>by
  rcases List.mem_cons.1 a with rfl|a
  ·exact b.aT _ (by simp)
  ·rw[List.mem_singleton.1 a];exact oM.2⟩
theorem WF {fr:List Pr}{ts:List (List Pr)}(b:bC (fr::ts)):Ls fr [GR ts]=Ls fr ts:=by
 refine(Ew _ _).ext (Ew _ _) λa=>?_
 rw[Gf a (bC.left b),Gf a b,M.EL];have:Af a (GR ts)=alive (Ar a ts):=by unfold GR;rw[ZU a (M.Dz _),M.Ko a (bC.tail b)]
 rw[this];have c:Ar a ([]:List (List Pr))=none:=rfl;rw[c,Option.or_none,AHX]
theorem ABq {fr:List Pr}{ts:List (List Pr)}(a:bC (fr::ts))(c:GR ts= []):Ls fr []=Ls fr ts:=by
 rw[<- WF a,c];have e:bC [fr]:=⟨λl b=>by rw[List.mem_singleton.1 b];exact a.sorted _ (by simp),λl b=>by rw[List.mem_singleton.1 b];exact a.aT _ (by simp)⟩;have f:bC [fr,[]]:=by have:=bC.left a;rw[c] at this;exact this
 refine(Ew _ _).ext (Ew _ _) λd=>?_
 rw[Gf d e,Gf d f,M.EL];rfl
theorem rI(l:List Pr):(BH l).length<=l.length:=(Gk).length_le
theorem Tg {c:Type}{b:Nat->List c}{t:Nat}: ∀ {t':Nat},t<=t'->(∀ a,t<=a->a<t'->b a= [])->(List.range t').flatMap b=(List.range t).flatMap b
 |0,d,_=>by
  simp_all
 |t'+1,d,e=>by
  by_cases f:t=t'+1
  ·rw[f]
  ·rw[N6,Ge,Tg (t':=t') (by omega) λa g h=>e a g (by omega)]
   grind
theorem Zg {c:Type}{a:Nat->List c}{s t:Nat}(e:s<t)(d: ∀b,s<b->a b= []):(List.range t).flatMap a=(List.range s).flatMap a++a s:=by rw[Tg (t:=s+1) (by omega) λb f _=>d b (by omega),N6,Ge];simp
theorem zI {d:Type}{b c:Nat->List d}{t:Nat}(e: ∀a,a<t->b a=c a):(List.range t).flatMap b=(List.range t).flatMap c:=by grind [List.flatMap,List.map_congr_left]
theorem rK {a:Br}{s:Nat}{l:List Nt}{x:Nt}(c:a.N s=l++ [x])(d: ∀b,s<b->a.N b= [])(e:s<a.aX):Ao a=x:=by unfold Ao NV;rw[Zg e d,c,<-A3,SW];rfl
theorem BJ.gG {c:bQ}{b:Br}(d:BJ c b){a:Nat}(e:a=0\/b.aR<=a):b.L a= []:=by simpa using d.log.lx a e
theorem BJ.gJ {c:bQ}{b:Br}(d:BJ c b){a:Nat}(e:a=0\/b.aX<=a):b.N a= []:=by simpa using d.note.lx a e
theorem BJ.jF {b:bQ}{c:Br}(d:BJ b c){a:Nat}(e:a<=99999999)(f:b (aD nl a)=none):c.L a= []:=by
 by_cases g:a=0
 ·exact d.gG (.inl g)
 ·simpa using d.log.iu a (by omega) e f
theorem BJ.jK {b:bQ}{c:Br}(d:BJ b c){a:Nat}(e:a<=99999999)(f:b (aD nn a)=none):c.N a= []:=by
 by_cases g:a=0
 ·exact d.gJ (.inl g)
 ·simpa using d.note.iu a (by omega) e f
theorem zJ(t a b:List Pr):A9 t (a++b)=A9 (A9 t a) b:=Hi
theorem zK:BU ([]:List Pr):=λ_ a=>by cases a
theorem AKk:Sorted ([]:List Pr):=List.Pairwise.nil
theorem zL(a:Br):Sorted (Em a)/\BU (Em a):=⟨M.Q4 AKk,M.XT zK⟩
theorem G6.aT {l:List Pr}(t:G6 l):Sorted l/\BU l:=⟨t.inc,zy t.ok⟩
theorem BJ.fW {f:bQ}{a:Br}(e:BJ f a):bC (Em a::(Ao a).names.map a.T):=by
 refine⟨λl b=>?_,λl b=>?_⟩<;>rcases List.mem_cons.1 b with rfl|b
 ·exact(zL a).1
 ·obtain⟨c,d,rfl⟩:=List.mem_map.1 b;exact(e.cO c d).2.aT.1
 ·exact(zL a).2
 ·obtain⟨c,d,rfl⟩:=List.mem_map.1 b;exact(e.cO c d).2.aT.2
def TA(a:Br)(s:Nat)(b:List Pr):Br:= {a with L:=KN a.L s (a.L s++ [b]),aR:=max a.aR (s+1)}
theorem zM {e:bQ}{a:Br}(f:BJ e a){s:Nat}{b:List Pr}(l:(Ao a).aW<=s)(m: ∀c,s<c->a.L c= []):IP (TA a s b)=IP a++ [b]:=by
 have d:s<max a.aR (s+1):=by omega
 have g:IP a=(List.range s).flatMap (λc=>if c<(Ao a).aW then [] else a.L c)++a.L s:=by
  have h:IP a=(List.range (max a.aR (s+1))).flatMap λc=>if c<(Ao a).aW then [] else a.L c:=by
   refine(Tg (by omega) λc i n=>?_).symm;split
   ·rfl
   ·exact f.gG (.inr i)
  rw[h,Zg (s:=s) d (λc j=>by
   simp_all),if_neg (by omega)]
 have k:IP (TA a s b)=(List.range s).flatMap (λc=>if c<(Ao a).aW then [] else KN a.L s (a.L s++ [b]) c)++KN a.L s (a.L s++ [b]) s:=by
  show(List.range (max a.aR (s+1))).flatMap (λc=>if c<(Ao a).aW then [] else KN a.L s (a.L s++ [b]) c)=_;rw[Zg (s:=s) d (λc j=>by
   grind [F4]),if_neg (by omega)]
 rw[g,k,EK,A3];congr 1
 grind [zI,F4]
theorem APQ {e:bQ}{a:Br}(f:BJ e a){s:Nat}{b:List Pr}(h:(Ao a).aW<=s)(i: ∀c,s<c->a.L c= [])(g:YS b):Em (TA a s b)=A9 (Em a) b/\cC (TA a s b)=cz (cC a) b:=by
 have d:Em (TA a s b)=A9 (Em a) b:=by grind [Em,zM,List.flatten_append,zJ]
 refine⟨d,?_⟩;have:=zE f.fW (zy g.ok);unfold cC;rw[d];exact this
theorem AQj {g G:bQ}{d:Br}(f:BJ g d){s:Nat}{b:List Pr}(j:1<=s/\s+1<=99999999)(k:YS b)(l: ∀a,1<=a->a<=99999999->a≠s->Nk (g (aD nl a)) (G (aD nl a)))(m: ∀a,1<=a->a<=99999999->Nk (g (aD nn a)) (G (aD nn a)))
  (n: ∀a,Nk (g (aY a)) (G (aY a))) (o: ∀x,(∀ a,x≠aD nl a)->G x≠none->g x≠none) (p: ∃x,G (aD nl s)=some (x,bG)/\NS (bl x) ((d.L s++ [b]).map (BV s))):BJ G (TA d s b):=by
 have q: ∀a∈(Ao d).names,G (aY a)=some (AX (Jd (d.T a)),bG)/\G6 (d.T a):=λa r=>
  let ⟨t,i⟩:=f.cO a r
  ⟨VM (n a) i t,i⟩
 refine⟨?_,?_,q,λa c e=>?_,f.dP,λx u hd=>?_,by have:=f.cE;refine⟨?_,?_,this.2.2.1,this.2.2.2⟩<;>simp only[TA]<;>omega⟩
 ·have:=f.log.put (G:=G) (eY:=max d.aR (s+1)) (s:=s) (v:=(d.L s++ [b]).map (BV s)) ⟨j.1,by omega⟩ (by omega) (λa w y z=>l a w y z) (.inr p) (by omega);have h:(KN (λa=>(d.L a).map (BV a)) s ((d.L s++ [b]).map (BV s)))=λa=>((TA d s b).L a).map (BV a):=by
   funext a;show _=(KN d.L s (d.L s++ [b]) a).map (BV a)
   grind [EK,F4]
  rw[h] at this;exact this
 ·exact f.note.aN f.cE.2.2.1 m
 ·by_cases h:a=s
  ·subst h;have e:c∈KN d.L a (d.L a++ [b]) a:=e;rw[EK] at e;rcases List.mem_append.1 e with e|e
   ·exact f.gl a c e
   ·rw[List.mem_singleton.1 e];exact k
  ·have e:c∈KN d.L s (d.L s++ [b]) a:=e;rw[F4 h] at e;exact f.gl a c e
 ·exact f.dA x (o x (λa h=>by grind [UG]) u) hd
def addN(a:Br)(s:Nat)(x:Nt)(T:Nat->List Pr):Br:= {a with N:=KN a.N s [x],T:=T,aX:=max a.aX (s+1)}
theorem zN {a:Br}{s:Nat}{x:Nt}{T:Nat->List Pr}(c: ∀b,s<b->a.N b= []):Ao (addN a s x T)=x:=by
 refine rK (s:=s) (l:= []) ?_ (λb d=>?_) ?_
 ·show KN a.N s [x] s=_;rw[EK];rfl
 ·show KN a.N s [x] b= []
  grind [F4]
 ·show s<max a.aX (s+1);omega
theorem zP {g G:bQ}{c:Br}(f:BJ g c){s:Nat}{x:Nt}{T:Nat->List Pr}(i:1<=s/\s+1<=99999999)(j:gZ x)(k: ∀a,s<a->c.N a= [])(l: ∀a,1<=a->a<=99999999->Nk (g (aD nl a)) (G (aD nl a)))(m: ∀a,1<=a->a<=99999999->a≠s->Nk (g (aD nn a)) (G (aD nn a)))
  (n: ∀a∈x.names,G (aY a)=some (AX (Jd (T a)),bG)/\G6 (T a)) (o: ∀x,(∀ a,x≠aD nn a)->(∀ a,x≠aY a)->G x≠none->g x≠none) (p: ∃b,G (aD nn s)=some (b,bG)/\NS (bl b) [EF x]):BJ G (addN c s x T):=by
 refine⟨f.log.aN f.cE.1 l,?_,λa h=>?_,f.gl,λa b d=>?_,λb d hd=>?_,by have:=f.cE;refine⟨this.1,this.2.1,?_,?_⟩<;>simp only[addN]<;>omega⟩
 ·have:=f.note.put (G:=G) (eY:=max c.aX (s+1)) (s:=s) (v:= [EF x]) ⟨i.1,by omega⟩ (by omega) (λa q r t=>m a q r t) (.inr p) (by omega);have e:(KN (λa=>(c.N a).map EF) s [EF x])=λa=>((addN c s x T).N a).map EF:=by
   funext a;show _=(KN c.N s [x] a).map EF
   grind [EK,F4]
  rw[e] at this;exact this
 ·rw[zN k] at h;exact n a h
 ·have d:b∈KN c.N s [x] a:=d;by_cases e:a=s
  ·rw[e,EK] at d;rw[List.mem_singleton.1 d];exact j
  ·rw[F4 e] at d;exact f.dP a b d
 ·by_cases e: ∃a,b=aY a
  ·exact e
  ·exact f.dA b (o b (λa e=>by grind [Xf]) (λa u=>e ⟨a,u⟩) d) hd
theorem BJ.fX {e G:bQ}{c:Br}(f:BJ e c)(d: ∀x,(∀ a,a∉(Ao c).names->x≠aY a)->G x=e x):BJ G c:=by
 refine f.same (λa _ _=> .inl (d _ λb _=>Lu a b)) (λa _ _=> .inl (d _ λb _=>QY a b)) (λa g=> .inl (d _ λb h i=>h (by rw[<- JR i];exact g))) λx j=>?_
 grind
open Classical in
noncomputable def Ng (b:Br) (G:bQ):Br:= {b with L:=λa=>if a<=99999999/\G (aD nl a)=none then [] else b.L a}
open Classical in
noncomputable def oQ (b:Br) (G:bQ):Br:= {b with N:=λa=>if a<=99999999/\G (aD nn a)=none then [] else b.N a}
theorem AJv {b:Br}{f G:bQ}(g:BJ f b)(h: ∀a,a<=99999999->G (aD nl a)=f (aD nl a)\/(G (aD nl a)=none/\a<(Ao b).aW)):IP (Ng b G)=IP b:=by
 unfold IP;refine zI λa i=>?_
 show(if a<(Ao b).aW then [] else if a<=99999999/\G (aD nl a)=none then [] else b.L a)=_;by_cases c:a<(Ao b).aW
 ·rw[if_pos c,if_pos c]
 ·rw[if_neg c,if_neg c];split
  ·rename_i d;rcases h a d.1 with e|e
   ·rw[e] at d;exact(g.jF d.1 d.2).symm
   ·exact absurd e.2 c
  ·rfl
theorem APT {f G:bQ}{d:Br}(c:BJ f d)(m: ∀a,a<=99999999->G (aD nl a)=f (aD nl a)\/(G (aD nl a)=none/\a<(Ao d).aW))(j: ∀x,(∀ a,a<=99999999->x≠aD nl a)->G x=f x):BJ G (Ng d G):=by
 refine⟨c.log.drop (λa k=>?_) (λa g=>?_),c.note.aN c.cE.2.2.1 λa n k=> .inl (j _ λh _ i=>V9 h a i.symm),λa g=>?_,λa b e=>?_,c.dP,λx o hd=>?_,c.cE⟩
 ·show _\/(G (aD nl a)=none/\((if a<=99999999/\G (aD nl a)=none then [] else d.L a).map (BV a))= []);rcases m a k with l|l
  ·by_cases p:G (aD nl a)=none
   ·simp_all
   ·left;refine⟨l,?_⟩;show((if a<=99999999/\G (aD nl a)=none then [] else d.L a).map (BV a))=_
    simp_all
  simp_all
 ·show((if a<=99999999/\G (aD nl a)=none then [] else d.L a).map (BV a))= [];split
  ·rfl
  ·rw[c.gG g];rfl
 ·rw[j _ λh _ i=>Lu h a i.symm];exact c.cO a g
 ·have e:b∈(if a<=99999999/\G (aD nl a)=none then [] else d.L a):=e;split at e
  ·cases e
  ·exact c.gl a b e
 ·exact c.dA x (by grind) hd
theorem zQ {a:Br}{G:bQ}{s:Nat}{x:Nt}(d:a.N s= [x])(e: ∀b,s<b->a.N b= [])(c:s<a.aX)(f:G (aD nn s)≠none):Ao (oQ a G)=x:=by
 refine rK (s:=s) (l:= []) ?_ (λb g=>?_) c
 ·show(if s<=99999999/\G (aD nn s)=none then [] else a.N s)=_
  simp_all
 ·show(if b<=99999999/\G (aD nn b)=none then [] else a.N b)= []
  simp_all
theorem APo {g G:bQ}{c:Br}(d:BJ g c){s:Nat}{x:Nt}(k:c.N s= [x])(f: ∀a,s<a->c.N a= [])(m:s<c.aX)(q:G (aD nn s)≠none)(r: ∀a,a<=99999999->G (aD nn a)=g (aD nn a)\/G (aD nn a)=none)(n: ∀x,(∀ a,a<=99999999->x≠aD nn a)->G x=g x):BJ G (oQ c G):=by
 have t:Ao (oQ c G)=Ao c:=by rw[zQ k f m q,rK (l:= []) k f m]
 refine⟨d.log.aN d.cE.1 λa v o=> .inl (n _ λh _ i=>V9 a h i),d.note.drop (λa o=>?_) (λa f=>?_),λa p=>?_,d.gl,λa b e=>?_,λx w hd=>?_,d.cE⟩
 ·rcases r a o with j|j
  ·by_cases u:G (aD nn a)=none
   ·right;refine⟨u,?_⟩;show((if a<=99999999/\G (aD nn a)=none then [] else c.N a).map EF)= []
    simp_all
   ·left;refine⟨j,?_⟩;show((if a<=99999999/\G (aD nn a)=none then [] else c.N a).map EF)=_
    simp_all
  ·right;refine⟨j,?_⟩;show((if a<=99999999/\G (aD nn a)=none then [] else c.N a).map EF)= []
   simp_all
 ·show((if a<=99999999/\G (aD nn a)=none then [] else c.N a).map EF)= [];split
  ·rfl
  ·rw[d.gJ f];rfl
 ·rw[t] at p;rw[n _ λh _ i=>QY h a i.symm];exact d.cO a p
 ·have e:b∈(if a<=99999999/\G (aD nn a)=none then [] else c.N a):=e;split at e
  ·cases e
  ·exact d.dP a b e
 ·exact d.dA x (by grind) hd
structure mK (D:Br) (s:Nat) (x:Nt) (T:Nat->List Pr) (D':Br):Prop where
 L:D'.L=D.L
 aR:D'.aR=D.aR
 aX:D'.aX<=max D.aX (s+1)
 last:(Ao D'=Ao D/\D'.T=D.T)\/(Ao D'=x/\D'.T=T)
theorem AOe {a:Br}{s:Nat}{x:Nt}{T:Nat->List Pr}(c: ∀b,s<b->a.N b= []):mK a s x T (addN a s x T):=⟨rfl,rfl,A0 _,.inr ⟨zN c,rfl⟩⟩
theorem APe {a:Br}{s:Nat}{x:Nt}{T:Nat->List Pr}:mK a s x T a:=⟨rfl,rfl,by omega,.inl ⟨rfl,rfl⟩⟩
theorem ANj {x:Nt}(a:gZ x)(b:(EF x).length<=1048576):NS (bl (AX (Ct (EF x)))) [EF x]:=by rw[EN];have:=RY (rs:= [EF x]) (λc d=>by simp_all) (t:= []) UD;simpa using this
theorem ANV {b g:bQ}{c:Br}{s:Nat}{x:Nt}{T:Nat->List Pr}(d:BJ b c)(k:1<=s/\s+1<=99999999)(h:gZ x)(l:(EF x).length<=1048576)(m: ∀a,s<=a->a<=99999999->b (aD nn a)=none)
  (q: ∀a∈x.names,b (aY a)=some (AX (Jd (T a)),bG)/\G6 (T a)) (f: ∀e,g e=if e=aD nn s then some (AX (Ct (EF x)),bG) else b e):BJ g (addN c s x T)/\ ∀a,s<a->c.N a= []:=by
 have i: ∀a,s<a->c.N a= []:=λa n=>by
  by_cases j:a<=99999999
  ·exact d.jK j (m a (by omega) j)
  ·exact d.gJ (.inr (by have:=d.cE;omega))
 refine⟨zP d k h i (λa _ _=> .inl ?_) (λa _ _ o=> .inl ?_) (λa n=>?_) (λe r _ t=>?_) ⟨_,by rw[f,if_pos rfl],ANj h l⟩,i⟩
 ·rw[f,if_neg (V9 a s)]
 ·rw[f,if_neg λp=>o (Ih p)]
 ·grind
 simp_all
theorem AMg {g F1 G:bQ}{d:Br}{s:Nat}{x:Nt}{T:Nat->List Pr}(b:BJ g d)(B:1<=s/\s+1<=99999999)(N:gZ x)(V:(EF x).length<=1048576)(C: ∀a,s<=a->a<=99999999->g (aD nn a)=none)
  (y: ∀a∈x.names,g (aY a)=some (AX (Jd (T a)),bG)/\G6 (T a)) (n: ∀e,F1 e=if e=aD nn s then some (bG,AX (Ct (EF x))) else g e) (c:Mc F1 G): ∃i,BJ G i/\mK d s x T i:=by
 have D: ∀a,s<a->d.N a= []:=λa o=>by
  by_cases E:a<=99999999
  ·exact b.jK E (C a (by omega) E)
  ·exact b.gJ (.inr (by have:=b.cE;omega))
 have W:d.N s= []:=b.jK (by omega) (C s (A0 _) (by omega));have F: ∀a,1<=a->a<=99999999->Nk (g (aD nl a)) (G (aD nl a)):=λa j k=>by
  have f:F1 (aD nl a)=g (aD nl a):=by rw[n,if_neg (V9 a s)]
  have:=c.cj (x:=aD nl a) λp q=>(b.log.has a p j k (f▸q)).1
  rwa [f] at this
 have H: ∀a,1<=a->a<=99999999->a≠s->Nk (g (aD nn a)) (G (aD nn a)):=λa j k z=>by
  have f:F1 (aD nn a)=g (aD nn a):=by rw[n,if_neg λf=>z (Ih f)]
  have:=c.cj (x:=aD nn a) λp q=>(b.note.has a p j k (f▸q)).1
  rwa [f] at this
 have O: ∀a l,g (aY a)=some (AX (Jd l),bG)->G6 l->G (aY a)=some (AX (Jd l),bG):=λa l A t=>by
  have f:F1 (aY a)=g (aY a):=by grind
  have:=c.cj (x:=aY a) λp q=>by grind
  rw[f] at this;exact VM this t A
 have I: ∀e,(∀ a,e≠aD nn a)->G e≠none->g e≠none:=λe m P A=>P (by
  have:=c e;rw[n,if_neg (m s),A] at this;exact this)
 have J:=c (aD nn s);rw[n,if_pos rfl] at J;obtain⟨Q,u⟩:=J;have h:=zf (rs:= []) (r:=EF x) (λr X=>by simp_all) Q;have R:AX (aK [])=bG:=rfl;rw[R] at h;have K:(G (aD nn s)=none\/ ∃e,G (aD nn s)=some (e,bG)/\NS (bl e) [])-> ∃i,BJ G i/\mK d s x T i:=λS=>by
  have U:NV {d with aX:=max d.aX (s+1)}=NV d:=Tg (by show d.aX<=max d.aX (s+1);omega) λa w _=>b.gJ (.inr w)
  have L:Ao {d with aX:=max d.aX (s+1)}=Ao d:=by unfold Ao;rw[U]
  refine⟨{d with aX:=max d.aX (s+1)},⟨b.log.aN b.cE.1 F,?_,λa M=>?_,b.gl,b.dP,λe m hd=>?_,by have:=b.cE;refine⟨this.1,this.2.1,?_,?_⟩<;>simp only[]<;>omega⟩,⟨rfl,rfl,A0 _,.inl ⟨L,rfl⟩⟩⟩
  ·have:=b.note.put (G:=G) (eY:=max d.aX (s+1)) (s:=s) (v:= []) ⟨B.1,by omega⟩ (by omega) (λa j k z=>H a j k z) (S.imp (λb=>⟨b,rfl⟩) λb=>b) (by omega);have f:(KN (λa=>(d.N a).map EF) s [])=λa=>(d.N a).map EF:=by
    funext a
    grind [EK,F4]
   rw[f] at this;exact this
  ·rw[L] at M;obtain⟨w,Y⟩:=b.cO a M
   grind
  ·exact b.dA e (I e (λa f=>by grind [Xf]) m) hd
 split at u
 ·exact K (.inl u)
 ·rcases h with h|h
  ·exact K (.inr ⟨_,u,h⟩)
  ·exact⟨_,zP b B N D F H (λa o=>⟨O a _ (y a o).1 (y a o).2,(y a o).2⟩) (λe w _ m=>I e w m) ⟨_,u,h⟩,AOe D⟩
theorem zR {e G:bQ}{b:Br}{s:Nat}{x:Nt}{T:Nat->List Pr}(k:BJ e (addN b s x T))(o: ∀a,s<a->b.N a= [])(l:e (aD nn s)≠none)(m: ∀d,G d=e d\/(G d=none/\ ∃a,a<s/\a<=99999999/\d=aD nn a)): ∃c,BJ G c/\Ao c=x/\c.T=T/\c.L=b.L/\c.aR=b.aR/\c.aX=max b.aX (s+1):=by
 have f:(addN b s x T).N s= [x]:=by show KN b.N s [x] s=_;rw[EK]
 have g: ∀a,s<a->(addN b s x T).N a= []:=λa p=>by show KN b.N s [x] a=_;grind [F4]
 have h:s<(addN b s x T).aX:=by show s<max b.aX (s+1);omega
 have i:G (aD nn s)≠none:=by
  rcases m (aD nn s) with j|⟨_,a,j,_,n⟩
  ·rw[j];exact l
  ·have:=Ih n;omega
 refine⟨oQ (addN b s x T) G,APo k f g h i (λa q=>?_) λd r=>?_,zQ f g h i,rfl,rfl,rfl,rfl⟩
 ·grind
 grind
end Go.Lf.G
namespace Go.Lf
open Go
variable {α : Type} {E : cF α} {A : ar} {P : Q1}
def gY(a:Array J0):Nat->List J0->Array J0
 |_,[]=>a
 |o,v::b=>gY (a.setIfInBounds o v) (o+1) b
theorem IQ: ∀(c:List J0) (a:Array J0) (b:Nat),(gY a b c).size=a.size
 | [],_,_=>rfl
 |v::d,a,b=>by unfold gY;rw[IQ d];simp
theorem OL: ∀(c:List J0) (b:Array J0) (a:Nat),a+c.length<=b.size->(gY b a c).toList=b.toList.take a++c++b.toList.drop (a+c.length)
 | [],b,a,e=>by simp[gY]
 |v::d,b,a,e=>by
  have f:b.size=b.toList.length:=by simp
  simp only[A5] at e;unfold gY;rw[OL d _ (a+1) (by simp;omega)];rw[DS,AD,List.take_set_of_le (A0 _),HN (by omega),List.drop_set_of_lt (by omega)];simp only[DB,A3,List.singleton_append,A5,Dd,CT];rw[show a+1+d.length=a+(d.length+1) by omega]
theorem cV {A:ar}: ∀(h:List J0) (c:Nat) {d:aa} {n b:Nat} {f:Array J0} {T:Q7},d[b]? =some (.cells f T (0,0))-> ∃e,(A.at d n).setCells b c h=A.at e n/\e[b]? =some (.cells (gY f c h) T (0,0))/\Mod (· =b) d e/\e.size=d.size
 | [],c,d,n,b,f,T,g=>⟨d,rfl,g,Mod.refl,rfl⟩
 |v::i,c,d,n,b,f,T,g=>by
  have j:(dh d ⟨b,c,none⟩ v)[b]? =some (.cells (f.setIfInBounds c v) T (0,0)):=vx g;obtain⟨e,k,l,m,o⟩:=cV (A:=A) i (c+1) (n:=n) j;refine⟨e,?_,l,(Mod.set (S:=(· =b)) (a:=⟨b,c,none⟩) rfl).trans m,by rw[o,Zi]⟩;show((A.at d n).setCell ⟨b,c,none⟩ v).setCells b (c+1) i=_;rw[<- k];rfl
theorem APU {t h j T:Q7}{i:TypeInfo}{f:J0}(n:P.underlying t=some (.slice T))(o:P.underlying h=some (.int J9))(q:P.info? T=some i)(r:i.zero=some f)(D:i.size=1)(s:f.cells= #[f]){a:aa}{p:Q2}{cap b:Nat}{K:Sl->aa->Prop}
  (u:0<b) (F:cap<b) (w:b*i.bytes<=140737488355328) (k:b<=maxLen) (G:0<i.bytes)
  (x: ∀e c l,e[a.size]? =some (.cells l T (0,0))->l.size=c->b<=c->c<=maxLen->Ext a e->e.size=a.size+1->K ⟨some ⟨a.size,0,none⟩,b,c⟩ e):
  BI A P (Builtin.append_ #[t,h] j #[.slice p 0 cap,.int J9 (b:Int)]) a λv e=> ∃g:Sl,v= .slice g.p g.len g.cap/\K g e:=by
 intro d;have y:(Builtin.firstCells i.size 0 (.slice p 0 cap)).run P (A.at a d).drew= .ok ([]:List J0).toArray (A.at a d).drew:=by cases p<;>simp[Builtin.firstCells,loadCells,loadCellsFrom]
 have z:Builtin.nextslicecap (0+b) cap*i.bytes<=281474976710656:=by rw[AI];exact growslice_fits (by omega) w
 have m:=Lib.run_append_grow_zeros (A.at a d) t h j T i f J9 J9 n o q r p 0 cap [] y b u (by omega) (by omega) (by simp only[maxLen] at k;omega) (by omega) z;simp only[AI] at m;have B:=grownCap_ge (A.at a d) b cap T;have C:=grownCap_le_maxLen (A.at a d) b cap T k;generalize grownCap (A.at a d) b cap T=c at*
 refine⟨_,_,d+1,m,⟨some ⟨a.size,0,none⟩,b,c⟩,rfl,x _ c _ (PF ..) ?_ B C (Mod.push a _) (by show(a.push _).size=a.size+1;simp)⟩;simp[Builtin.zeroCells,s];omega
theorem og {t k T:Q7}(q:P.underlying t=some (.slice T))(r:(P.info? T).map (·.size)=some 1){d:aa}{b e g l h m:Nat}{a:Q6}{i:Array J0}{vs:List J0}{K:Int->aa->Prop}
  (j:d[b]? =some (.cells i T (0,0))) (s:vs.length=min h g) (u: ∀f v,vs[f]? =some v->ah d (a.add f)=some v) (G:e+vs.length<=i.size) (w: ∀v∈vs,MC v=true)
  (x: ∀c,c[b]? =some (.cells (gY i e vs) T (0,0))->Mod (· =b) d c->c.size=d.size->K (vs.length:Int) c):
  BI A P (Builtin.copy_ #[t,t] k #[.slice (some ⟨b,e,none⟩) g l,.slice (some a) h m]) d λv c=> ∃o:Int,v= .int J9 o/\K o c:=by
 intro n;have p:=run_copy_cells (P:=P) (A.at d n) t t k T b e g l a h m vs q r s u
  (λf y=>by
   show(ah d ⟨b,e+f,none⟩).isSome=true;rw[Hr j,Fm (by omega)];rfl)
  (λf y=>PI j) (λv z=>PS (w v z))
 obtain⟨c,B,C,D,F⟩:=cV (A:=A) vs e (n:=n) j;rw[B] at p;exact⟨_,c,n,p,_,rfl,x c C D F⟩
def oh(A:ar)(P:Q1)(t b:Q7)(h fr:Q8)(s:Sl)(i:Int)(v:Sl)(e:aa)(d:A2O):Prop:=
 aI ((0:Int)<=i/\i<=((s.len:Nat):Int))<|
 ag (((v.len:Nat):Int)==(0:Int)) (
  d (.slice s.p s.len s.cap) e) (
  ag (i==((s.len:Nat):Int)) (
   BI A P (Builtin.append_ #[t,t] t #[.slice s.p s.len s.cap,.slice v.p v.len v.cap]) e λv1 j=> ∃c:Sl,v1= .slice c.p c.len c.cap/\(
   d (.slice c.p c.len c.cap) j)) (
   ag (decide ((J8 J9 (((s.len:Nat):Int)+((v.len:Nat):Int)))>((s.cap:Nat):Int))) (
    aI ((0:Int)<=i/\i<=((s.cap:Nat):Int))<|
    BI A P (Builtin.append_ #[t,b] t #[.slice (BB s.p s.cap 0 1) (i.toNat-0) (s.cap-0),.int J9 (J8 J9 ((J8 J9 (((s.len:Nat):Int)+((v.len:Nat):Int)))-i))]) e λv2 k=> ∃a:Sl,v2= .slice a.p a.len a.cap/\(
    aI ((0:Int)<=i/\i<=((a.len:Nat):Int))<|
    BI A P (Builtin.copy_ #[t,t] b #[.slice (BB a.p a.cap i.toNat 1) (a.len-i.toNat) (a.cap-i.toNat),.slice v.p v.len v.cap]) k λl m=> ∃n:Int,l= .int J9 n/\(
    aI ((0:Int)<=(J8 J9 (i+((v.len:Nat):Int)))/\(J8 J9 (i+((v.len:Nat):Int)))<=((a.len:Nat):Int))<|
    aI ((0:Int)<=i/\i<=((s.len:Nat):Int))<|
    BI A P (Builtin.copy_ #[t,t] b #[.slice (BB a.p a.cap ((J8 J9 (i+((v.len:Nat):Int))).toNat) 1) (a.len-((J8 J9 (i+((v.len:Nat):Int))).toNat)) (a.cap-((J8 J9 (i+((v.len:Nat):Int))).toNat)),.slice (BB s.p s.cap i.toNat 1) (s.len-i.toNat) (s.cap-i.toNat)]) m λo p=> ∃q:Int,o= .int J9 q/\(
    d (.slice a.p a.len a.cap) p)))) (
    aI ((0:Int)<=(J8 J9 (((s.len:Nat):Int)+((v.len:Nat):Int)))/\(J8 J9 (((s.len:Nat):Int)+((v.len:Nat):Int)))<=((s.cap:Nat):Int))<|
    aI ((0:Int)<=(J8 J9 (i+((v.len:Nat):Int)))/\(J8 J9 (i+((v.len:Nat):Int)))<=(((((J8 J9 (((s.len:Nat):Int)+((v.len:Nat):Int))).toNat)-0):Nat):Int))<|
    nF A P h #[.slice v.p v.len v.cap,.slice (BB (BB s.p s.cap 0 1) (s.cap-0) ((J8 J9 (i+((v.len:Nat):Int))).toNat) 1) ((((J8 J9 (((s.len:Nat):Int)+((v.len:Nat):Int))).toNat)-0)-((J8 J9 (i+((v.len:Nat):Int))).toNat)) ((s.cap-0)-((J8 J9 (i+((v.len:Nat):Int))).toNat))] e λr f=> ∃g:Bool,r= .bool g/\(
    ag (!g) (
     aI ((0:Int)<=(J8 J9 (i+((v.len:Nat):Int)))/\(J8 J9 (i+((v.len:Nat):Int)))<=(((((J8 J9 (((s.len:Nat):Int)+((v.len:Nat):Int))).toNat)-0):Nat):Int))<|
     aI ((0:Int)<=i/\i<=(((((J8 J9 (((s.len:Nat):Int)+((v.len:Nat):Int))).toNat)-0):Nat):Int))<|
     BI A P (Builtin.copy_ #[t,t] b #[.slice (BB (BB s.p s.cap 0 1) (s.cap-0) ((J8 J9 (i+((v.len:Nat):Int))).toNat) 1) ((((J8 J9 (((s.len:Nat):Int)+((v.len:Nat):Int))).toNat)-0)-((J8 J9 (i+((v.len:Nat):Int))).toNat)) ((s.cap-0)-((J8 J9 (i+((v.len:Nat):Int))).toNat)),.slice (BB (BB s.p s.cap 0 1) (s.cap-0) i.toNat 1) ((((J8 J9 (((s.len:Nat):Int)+((v.len:Nat):Int))).toNat)-0)-i.toNat) ((s.cap-0)-i.toNat)]) f λu w=> ∃x:Int,u= .int J9 x/\(
     aI ((0:Int)<=i/\i<=(((((J8 J9 (((s.len:Nat):Int)+((v.len:Nat):Int))).toNat)-0):Nat):Int))<|
     BI A P (Builtin.copy_ #[t,t] b #[.slice (BB (BB s.p s.cap 0 1) (s.cap-0) i.toNat 1) ((((J8 J9 (((s.len:Nat):Int)+((v.len:Nat):Int))).toNat)-0)-i.toNat) ((s.cap-0)-i.toNat),.slice v.p v.len v.cap]) w λy z=> ∃B:Int,y= .int J9 B/\(
     d (.slice (BB s.p s.cap 0 1) (((J8 J9 (((s.len:Nat):Int)+((v.len:Nat):Int))).toNat)-0) (s.cap-0)) z))) (
     aI ((0:Int)<=((s.len:Nat):Int)/\((s.len:Nat):Int)<=(((((J8 J9 (((s.len:Nat):Int)+((v.len:Nat):Int))).toNat)-0):Nat):Int))<|
     BI A P (Builtin.copy_ #[t,t] b #[.slice (BB (BB s.p s.cap 0 1) (s.cap-0) (((s.len:Nat):Int).toNat) 1) ((((J8 J9 (((s.len:Nat):Int)+((v.len:Nat):Int))).toNat)-0)-(((s.len:Nat):Int).toNat)) ((s.cap-0)-(((s.len:Nat):Int).toNat)),.slice v.p v.len v.cap]) f λC D=> ∃F:Int,C= .int J9 F/\(
     aI ((0:Int)<=i/\i<=(((((J8 J9 (((s.len:Nat):Int)+((v.len:Nat):Int))).toNat)-0):Nat):Int))<|
     AA A P fr #[.slice (BB (BB s.p s.cap 0 1) (s.cap-0) i.toNat 1) ((((J8 J9 (((s.len:Nat):Int)+((v.len:Nat):Int))).toNat)-0)-i.toNat) ((s.cap-0)-i.toNat),.int J9 ((v.len:Nat):Int)] D λG H=>G= .tuple #[]/\(
     d (.slice (BB s.p s.cap 0 1) (((J8 J9 (((s.len:Nat):Int)+((v.len:Nat):Int))).toNat)-0) (s.cap-0)) H)))))))
theorem Wj {e:aa}{b:Nat}{f:Array J0}{T:Q7}{fr:Nat×Nat}(h:e[b]? =some (.cells f T fr)){a:List J0}{g:Nat}(i:(f.toList.drop g).take a.length=a): ∀c v,a[c]? =some v->ah e ((⟨b,g,none⟩:Q6).add c)=some v:=λc v d=>by
 rw[Bf,Hr h];have j:=(List.getElem?_eq_some_iff.1 d).1;rw[<- i,Ek,if_pos j,C5] at d;simpa using d
theorem wV {t ae T af:Q7}{ai fr:Q8}{G:J0}{H:Nat}(aj:QE P t T 1 H=true)(k:E.w=1)(aD:P.underlying ae=some (.int J9))(I:(P.info? T).bind (·.zero)=some G)(aE:G.cells= #[G])(hB:0<H)
  (aF: ∀args J,(callFunc ai args).run P J=((Extern.SlicesOverlaps.overlaps #[t,t] #[af] args).run P J).andThen λv aG=> .ok (.value v) aG)
  {a:aa} {s:Sl} {l:List α} {x:α} {e:J0} {f:Nat} (S:Own E T a s l) (K:E.enc x= [e]) (o:a[f]? =some (.cells #[e] T (0,0))) (aH:s.ai≠some f) (ak:l.length+1<=maxLen) (al:(l.length+1)*H<=140737488355328) {am:A2O}
  (U: ∀m r,Own E T r m (x::l)->Mod (λb=>s.ai=some b) a r->(∀ b,m.ai=some b->s.ai=some b\/a.size<=b)->am (.slice m.p m.len m.cap) r):
  oh A P t ae ai fr s (0:Int) ⟨some ⟨f,0,none⟩,1,1⟩ a am:=by
 unfold oh;have V:=S.len;have bh:maxLen<=9223372036854775807:=by simp[maxLen]
 obtain⟨q,i,z,w,an,W,aI,bi⟩:=qC aj;have aJ:z=G:=by rw[w] at I;simp only[PB] at I;rw[an] at I;exact BY I
 subst aJ;have ao:MC e=true:=E.one x e (by rw[K];simp);have bj:=Ah o;refine⟨⟨GS _,by omega⟩,ag.no rfl ?_⟩;refine ag.intro (λy=>?_) (λy=>?_)
 ·have y:l= []:=by
   have:(0:Int)=((s.len:Nat):Int):=by simpa using y
   exact CC (by omega)
  subst y;have aK:View E a ⟨some ⟨f,0,none⟩,1,1⟩ [x]:=⟨rfl,A0 _,λj ap n=>⟨_,rfl,λaL u L=>by
   have aM:j=0:=by have:=(List.getElem?_eq_some_iff.1 n).1;simpa using this
   subst aM;simp only[Hv,BE] at n;subst n;rw[K] at L;have aN:aL=0:=by have:=(List.getElem?_eq_some_iff.1 L).1;simpa using this
   subst aN;simp only[Hv,BE] at L;subst L;rw[HT,Bf,Bf];exact AO o rfl⟩⟩
  have aO:QE P t T E.w H=true:=by rw[k];exact aj
  exact Fx (s:=s) (src:=⟨some ⟨f,0,none⟩,1,1⟩) aO S aK (by simpa using al) (by simpa using ak) λm r aP aQ aR _=>U m r aP aQ aR
 ·have aS:0<l.length:=by
   have: ¬(0:Int)=((s.len:Nat):Int):=by simpa using y
   omega
  rcases S.row with⟨rfl,rfl⟩|⟨g,M,B,C,bk,aT,N,X⟩
  ·simp at aS
  ·rw[k,Bk] at N X;have d:(l.flatMap E.enc).length=l.length:=by rw[Jm,k,Bk]
   have aq: ∀v∈l.flatMap E.enc,MC v=true:=λv D=>by
    obtain⟨ap,_,aU⟩:=List.mem_flatMap.1 D;exact E.one ap v aU
   have ar:g≠f:=λh=>aH (by rw[Sl.ai,B,h];rfl)
   have bm:=Ah C;have aW:J8 J9 (((s.len:Nat):Int)+(((1:Nat)):Int))=((l.length+1:Nat):Int):=by rw[V];exact Aa (by omega)
   have w2:J8 J9 ((0:Int)+(((1:Nat)):Int))=((1:Nat):Int):=by decide
   have w3:J8 J9 (((l.length+1:Nat):Int)-(0:Int))=((l.length+1:Nat):Int):=by rw[Int.sub_zero];exact Fa (by omega)
   have O:(P.info? T).map (·.size)=some 1:=by rw[w];simp[W]
   dsimp only;rw[aW,w2,w3];have aX:((1:Nat):Int).toNat=1:=rfl;have aY:(0:Int).toNat=0:=rfl;have aZ:((l.length+1:Nat):Int).toNat=l.length+1:=by omega
   rw[aX,aY,aZ];have au: ∀j v,[e][j]? =some v->ah a ((⟨f,0,none⟩:Q6).add j)=some v:=Wj o (by simp);refine ag.intro (λY=>?_) (λY=>?_)
   ·have Z:s.cap<l.length+1:=by
     have:((s.cap:Nat):Int)<((l.length+1:Nat):Int):=by simpa using Y
     omega
    refine⟨⟨GS _,by omega⟩,?_⟩;refine APU (p:=BB s.p s.cap 0 1) (cap:=s.cap) q aD w an W aE (by omega) Z (by rw[aI];exact al) ak (by omega) λbn c av a0 aw a1 a2 ab bo=>⟨⟨GS _,by dsimp only;omega⟩,?_⟩
    have a3:BB (some (⟨a.size,0,none⟩:Q6)) c 0 1=some ⟨a.size,0,none⟩:=by unfold BB;rw[if_neg (by omega)];rfl
    have a4:BB (some (⟨a.size,0,none⟩:Q6)) c 1 1=some ⟨a.size,1,none⟩:=by unfold BB;rw[if_neg (by omega)];rfl
    dsimp only;rw[a3];refine og (vs:= [e]) q O a0 (by simp) (λj v n=>ab.ah (au j v n)) (by simp;omega) (λv D=>by rw[List.mem_singleton.1 D];exact ao) λa5 a6 ax bp=>⟨⟨by omega,by omega⟩,⟨GS _,by omega⟩,?_⟩
    rw[a4,B];have Q:BB (some (⟨g,0,none⟩:Q6)) s.cap 0 1=some ⟨g,0,none⟩:=by unfold BB;rw[if_neg (by omega)];rfl
    rw[Q];have a7:a5[g]? =some (.cells M T (0,0)):=ax.ai (ab.ai C (λa=>a)) (by omega);refine og (vs:=l.flatMap E.enc) q O a6 (by rw[d];omega) (Wj a7 (by rw[d,IT,<-V];exact X)) (by rw[IQ,d];omega) aq λay ac R a8=>?_
    refine U ⟨some ⟨a.size,0,none⟩,l.length+1,c⟩ ay ⟨rfl,.inr ⟨a.size,_,rfl,ac,a1,a2,by rw[IQ,IQ,k,Bk];exact aw,?_⟩⟩ ?_ (λb F=> .inr (by simp[Sl.ai] at F;omega))
    ·rw[OL _ _ _ (by rw[IQ,d];omega),OL _ _ _ (by simp;omega)];rw[k,Bk,AH,K];have a9:av.toList.length=c:=by simp[aw]
     simp only[I3,CT,Cd];have ba:(([e]++av.toList.drop (0+1)).take 1)= [e]:=by simp
     rw[ba,Nx (by simp[d])];rw[AG (by simp[d])]
    ·refine((Ext.mod ab).trans ((ax.trans R).ak (S':=λb=>s.ai=some b\/b=a.size) λc az h=> .inr h)) |> λaA=>?_
     exact⟨aA.size,λb F bb=>aA.get b F (λbc=>bc.elim bb (by omega))⟩
   ·have Z:l.length+1<=s.cap:=by
     have: ¬((s.cap:Nat):Int)<((l.length+1:Nat):Int):=by simpa using Y
     omega
    have Q: ∀c,0<c->BB (some (⟨g,0,none⟩:Q6)) c 0 1=some ⟨g,0,none⟩:=λc az=>by
     unfold BB;rw[if_neg (by omega)];rfl
    have bd: ∀c,1<c->BB (some (⟨g,0,none⟩:Q6)) c 1 1=some ⟨g,1,none⟩:=λc az=>by
     unfold BB;rw[if_neg (by omega)];rfl
    refine⟨⟨by omega,by omega⟩,⟨by omega,by omega⟩,?_⟩;rw[B,Q _ (by omega),HA,HA,HA,Q _ (by omega),bd _ (by omega)];intro aC;refine⟨.bool false,a,aC,?_,false,rfl,ag.yes rfl ⟨⟨by omega,by omega⟩,⟨GS _,by omega⟩,?_⟩⟩
    ·rw[aF,Lib.run_overlaps_apart (A.at a aC) t af T q 1 (λJ=>by rw[Go.run_sizeOf J w];simp[Program.cellsOf,w,W]) ⟨f,0,none⟩ ⟨g,1,none⟩ 1 1 _ _ (λh=>ar h.symm) T T 1 s.cap
      (by show(match a[f]? with|some (.cells c ad _)=>some (ad,c.size)|_=>none)=_;rw[o];rfl) (by show(match a[g]? with|some (.cells c ad _)=>some (ad,c.size)|_=>none)=_;rw[C];simp[N]) (by omega) (PI o) (PI o)]
     rfl
    ·refine og (vs:=l.flatMap E.enc) q O C (by rw[d];omega) (Wj C (by rw[d,IT,<-V];exact X)) (by rw[d];omega) aq λay ac R a8=>⟨⟨GS _,by omega⟩,?_⟩
     refine og (vs:= [e]) q O ac (by simp) (λj v n=>R.ah (au j v n) (by rw[aV];exact λh=>ar h.symm)) (by rw[IQ];simp;omega) (λv D=>by rw[List.mem_singleton.1 D];exact ao) λbe bf bg bq=>?_
     refine U ⟨some ⟨g,0,none⟩,l.length+1,s.cap⟩ be ⟨rfl,.inr ⟨g,_,rfl,bf,Z,aT,by rw[IQ,IQ,k,Bk];exact N,?_⟩⟩ ((R.trans bg).ak λb _ h=>by rw[Sl.ai,B,h];rfl) (λb F=> .inl (by rw[Sl.ai,B];exact F));rw[OL _ _ _ (by rw[IQ];simp;omega),OL _ _ _ (by rw[d];omega)];rw[k,Bk,AH,K];have a9:M.toList.length=s.cap:=by simp[N]
     have br:(M.toList.take 1).length=1:=by simp;omega
     simp only[I3,CT,Cd,AI];rw[A3 (M.toList.take 1),A0r (by omega),HD (by omega),CT];rw[<- A3,Nx (by simp[d])];rw[AG (by simp[d])]
end Go.Lf
namespace Go.Lf.G
open Go
def fM:cF Nat where
 enc t:= [Aq t]
 w:=1
 len _:=rfl
 pos:=by omega
 one x v a:=by simp at a;subst a;rfl
theorem Cells.pt {b:aa}{a:Q6}{x:Nat}(c:Cells b a (fM.enc x)):ah b a=some (Aq x):=by have d:=c 0 _ rfl;rwa [add_zero] at d
theorem vU:QE P Aw BK fM.w 8=true:=by kernel_rfl
theorem ovT(args:Array J0)(a:World):(callFunc EO args).run P a=((Extern.SlicesOverlaps.overlaps #[Aw,Aw] #[lY] args).run P a).andThen λv b=> .ok (.value v) b:=
 run_callFunc_extern (fn:=Proofs.Tryz.f231) Proofs.Tryz.func231 (by kernel_rfl) (by kernel_rfl) (by kernel_rfl) (by kernel_rfl) args a
theorem ovI(args:Array J0)(a:World):(callFunc Gh args).run P a=((Extern.SlicesOverlaps.overlaps #[DJ,DJ] #[lY] args).run P a).andThen λv b=> .ok (.value v) b:=
 run_callFunc_extern (fn:=Proofs.Tryz.f233) Proofs.Tryz.func233 (by kernel_rfl) (by kernel_rfl) (by kernel_rfl) (by kernel_rfl) args a
theorem ATf:(P.info? BK).bind (·.zero)=some (J5 none):=by kernel_rfl
theorem ATu:(P.info? Bp).bind (·.zero)=some (J6 J9 0):=by kernel_rfl
theorem vV:P.underlying Bp=some (.int J9):=by kernel_rfl
theorem AR8(a:ar)(s v:Sl)(i:Int)(b:aa)(c:A2O):Dx a s i v b c=oh a P Aw Bp EO FU s i v b c:=rfl
theorem ASu(a:ar)(s v:Sl)(i:Int)(b:aa)(c:A2O):IE a s i v b c=oh a P DJ Bp Gh Il s i v b c:=rfl
theorem qI {g:ar}{a:aa}{s:Sl}{l:List Nat}{x d:Nat}{f:A2O}(h:Own fM BK a s l)(i:a[d]? =some (J2 #[Aq x] BK (0,0)))(j:s.ai≠some d)(m:l.length<=1000000)
  (k: ∀c e,Own fM BK e c (x::l)->Mod (λb=>s.ai=some b) a e->(∀ b,c.ai=some b->s.ai=some b\/a.size<=b)->f (J4 c.p c.len c.cap) e):
  AA g P BO #[J4 s.p s.len s.cap,J6 J9 0,J4 (some (⟨d,0,none⟩:Q6)) 1 1] a f:=by
 refine GX (v:=⟨some ⟨d,0,none⟩,1,1⟩) ?_;rw[AR8];exact wV vU rfl vV ATf rfl (by decide) ovT h rfl i j (by simp[maxLen];omega) (by omega) k
theorem qJ {g:ar}{a:aa}{s:Sl}{l:List Int}{x:Int}{d:Nat}{f:A2O}(h:Own IJ Bp a s l)(i:a[d]? =some (J2 #[J6 J9 x] Bp (0,0)))(j:s.ai≠some d)(m:l.length<=1000000)
  (k: ∀c e,Own IJ Bp e c (x::l)->Mod (λb=>s.ai=some b) a e->(∀ b,c.ai=some b->s.ai=some b\/a.size<=b)->f (J4 c.p c.len c.cap) e):
  AA g P DK #[J4 s.p s.len s.cap,J6 J9 0,J4 (some (⟨d,0,none⟩:Q6)) 1 1] a f:=by
 refine NI (v:=⟨some ⟨d,0,none⟩,1,1⟩) ?_;rw[ASu];exact wV rA rfl vV ATu rfl (by decide) ovI h rfl i j (by simp[maxLen];omega) (by omega) k
structure Db where
 fr:List Pr
 ts:List (Nat×List Pr)
 next:Nat
 aW:Nat
 az:Nat
 aL:Nat
 br:Bool
structure Hp where
 d:Nat
 b:Nat
 lg:Nat
 nt:Nat
 ft:Nat
 Sb:Nat->Prop
 ns:List M.DX
 tp:Sl
 np:Sl
 ps:List Nat
abbrev eB(q:Hp)(st:Db)(down:Bool):Array J0:= #[Aq q.b,Aq q.lg,Aq q.nt,Aq q.ft,J4 q.tp.p q.tp.len q.tp.cap,J4 q.np.p q.np.len q.np.cap,J6 J9 (st.next:Int),J6 J9 (st.aW:Int),J3 down]
abbrev eE(st:Db):List Int:=st.ts.map λp=>(p.1:Int)
def mL(h:aa)(k:Nat->Nat)(t:Nat)(l:List Pr):Prop:= ∃b a,bS h t l (NE l) b a/\a<=h.size/\(∀ c,b<=c->c<a->k c=8)/\G6 l
structure bN (g h:aa) (q:Hp) (k:Nat->Nat) (st:Db) (m:Bx):Prop where
 cell:h[q.d]? =some (J2 (eB q st false) FH (0,0))
 box:Cu h q.b q.Sb m
 log:ES h q.lg q.b nl st.az st.br
 dP:ES h q.nt q.b nn st.aL false
 fresh:M.cW h q.ft q.ns st.fr
 cm:Own fM BK h q.tp q.ps
 dd:q.ps.length=st.ts.length
 cO: ∀(i:Nat) (t:Nat) (p:Nat×List Pr),q.ps[i]? =some t->st.ts[i]? =some p->mL h k t p.2
 names:Own IJ Bp h q.np (eE st)
 kd:k q.d=1
 kb: ∀c,q.Sb c->k c=2
 kl:k q.lg=3
 kn:k q.nt=4
 kf: ∀c,M.cT q.ft q.ns c->k c=5
 kt: ∀c,q.tp.ai=some c->k c=6
 kx: ∀c,q.np.ai=some c->k c=7
 own: ∀c,k c≠0->g.size<=c/\c<h.size
 ext:Ext g h
theorem TN {b:Type}{d:cF b}{T:Q7}{h:aa}{s:Sl}{l:List b}(e:Own d T h s l){c:Nat}(a:s.ai=some c):c<h.size:=by
 rcases e.row with⟨rfl,_⟩|⟨g,j,f,i,_⟩
 ·simp[Sl.ai] at a
 ·rw[Sl.ai,f] at a;have:g=c:=by simpa using a
  subst this;exact Ah i
theorem mL.mod {h h':aa}{k b:Nat->Nat}{t:Nat}{l:List Pr}{d:Nat->Prop}(T:mL h k t l)(x:Mod d h h')(f: ∀c,k c=8-> ¬d c)(i: ∀c,c<h.size->b c=k c):mL h' b t l:=by obtain⟨j,n,o,p,e,r⟩:=T;exact⟨j,n,o.mod x λc a c2=>f c (e c a c2),AE p x.size,λc a c2=>by rw[i c (by omega)];exact e c a c2,r⟩
structure DbR (C:Nat->Prop) (g h h':aa) (q:Hp) (k:Nat->Nat) (st:Db) (m:Bx):Prop where
 ext:Ext g h'
 size:h.size<=h'.size
 cell: ¬C 1->h'[q.d]? =some (J2 (eB q st false) FH (0,0))
 box: ¬C 2->Cu h' q.b q.Sb m
 log: ¬C 3->ES h' q.lg q.b nl st.az st.br
 dP: ¬C 4->ES h' q.nt q.b nn st.aL false
 fresh: ¬C 5->M.cW h' q.ft q.ns st.fr
 cm: ¬C 6->Own fM BK h' q.tp q.ps
 names: ¬C 7->Own IJ Bp h' q.np (eE st)
 cO: ¬C 8-> ∀k',(∀ c,c<h.size->k' c=k c)-> ∀(i:Nat) (t:Nat) (p:Nat×List Pr),q.ps[i]? =some t->st.ts[i]? =some p->mL h' k' t p.2
theorem bN.rest {C:Nat->Prop}{g h h':aa}{q:Hp}{k:Nat->Nat}{st:Db}{m:Bx}(a:bN g h q k st m)(x:Mod (λc=>C (k c)) h h')(f: ¬C 0):DbR C g h h' q k st m:=by
 refine⟨⟨AE a.ext.size x.size,λc d _=>?_⟩,x.size,λb=>x.ai a.cell (by rw[a.kd];exact b),λb=>a.box.mod x λc d=>by rw[a.kb c d];exact b,λb=>a.log.mod x (by rw[a.kl];exact b),λb=>a.dP.mod x (by rw[a.kn];exact b),
  λb=>a.fresh.mod x λc d=>by rw[a.kf c d];exact b,λb=>a.cm.mod x λc d=>by rw[a.kt c d];exact b,λb=>a.names.mod x λc d=>by rw[a.kx c d];exact b,
  λb n e i t p j l=>(a.cO i t p j l).mod x (λc d=>by rw[d];exact b) e⟩
 have e:k c=0:=Decidable.byContradiction λh=>by have:=(a.own c h).1;omega
 exact(x.get c (F2 d a.ext.size) (by rw[e];exact f)).trans (a.ext.get c d (λh=>h))
section
variable {g h h' : aa} {q : Hp} {k : Nat -> Nat} {st : Db} {m : Bx}
theorem bN.ia(a:bN g h q k st m):q.d<h.size:=Ah a.cell
theorem bN.pa(a:bN g h q k st m):q.lg<h.size:=Ah a.log
theorem bN.pb(a:bN g h q k st m):q.nt<h.size:=Ah a.dP
theorem bN.lA(a:bN g h q k st m): ¬q.Sb q.lg:=λb=>by have:=a.kb _ b;rw[a.kl] at this;cases this
theorem bN.sx(a:bN g h q k st m): ¬q.Sb q.nt:=λb=>by have:=a.kb _ b;rw[a.kn] at this;cases this
theorem bN.mW(a:bN g h q k st m): ¬q.Sb q.d:=λb=>by have:=a.kb _ b;rw[a.kd] at this;cases this
theorem bN.dl(a:bN g h q k st m):q.d≠q.lg:=λb=>by have:=a.kd;rw[b,a.kl] at this;cases this
theorem bN.dn(a:bN g h q k st m):q.d≠q.nt:=λb=>by have:=a.kd;rw[b,a.kn] at this;cases this
theorem bN.on(a:bN g h q k st m)(x:Ext h h'):bN g h' q k st m:=by
 have b:=a.rest (C:=λ_=>False) x (λh=>h);exact⟨b.cell λh=>h,b.box λh=>h,b.log λh=>h,b.dP λh=>h,b.fresh λh=>h,b.cm λh=>h,a.dd,b.cO (λh=>h) k (λ_ _=>rfl),b.names λh=>h,a.kd,a.kb,a.kl,a.kn,a.kf,a.kt,a.kx,
  λc d=>⟨(a.own c d).1,F2 (a.own c d).2 x.size⟩,b.ext⟩
theorem bN.beside {e:Nat->Prop}(a:bN g h q k st m)(x:Mod e h h')(f: ∀c,e c->k c=0/\g.size<=c):bN g h' q k st m:=by
 have j:Ext g h':=⟨AE a.ext.size x.size,λc b _=>(x.get c (F2 b a.ext.size) λh=>by have:=(f c h).2;omega).trans (a.ext.get c b (λh=>h))⟩;have d: ∀ {c},k c≠0-> ¬e c:=λb l=>b (f _ l).1
 exact⟨x.ai a.cell (d (by rw[a.kd];decide)),a.box.mod x λc b=>d (by rw[a.kb c b];decide),a.log.mod x (d (by rw[a.kl];decide)),a.dP.mod x (d (by rw[a.kn];decide)),a.fresh.mod x λc b=>d (by rw[a.kf c b];decide),
  a.cm.mod x λc b=>d (by rw[a.kt c b];decide),a.dd,λi t p n o=>(a.cO i t p n o).mod x (λc b=>d (by rw[b];decide)) (λ_ _=>rfl),a.names.mod x λc b=>d (by rw[a.kx c b];decide),a.kd,a.kb,a.kl,a.kn,a.kf,a.kt,a.kx,
  λc b=>⟨(a.own c b).1,F2 (a.own c b).2 x.size⟩,j⟩
open Classical in
noncomputable def Ld (k:Nat->Nat) (a:Nat) (b:Nat->Prop) (d:Nat):Nat->Nat:=λc=>if c<a then k c else if b c then d else 0
theorem GK {a b c:Nat}{d:Nat->Prop}(e:c<a):Ld k a d b c=k c:=by unfold Ld;rw[if_pos e]
theorem rL {a b c:Nat}{d:Nat->Prop}(f:a<=c)(e:d c):Ld k a d b c=b:=by unfold Ld;rw[if_neg (by omega),if_pos e]
theorem VV {a b c:Nat}{S:Nat->Prop}(e:a<=c)(d: ¬S c):Ld k a S b c=0:=by unfold Ld;rw[if_neg (by omega),if_neg d]
theorem bN.boxed(b:bN g h q k st m){S':Nat->Prop}{p:Bx}{j:Nat}{bI:Db}(r:Cu h' q.b S' p)(x:Mod (λc=>q.Sb c\/(j=3/\c=q.lg)\/(j=4/\c=q.nt)) h h')(s: ∀c,S' c->q.Sb c\/h.size<=c)
  (u:bI.fr=st.fr) (i:bI.ts=st.ts) (v:bI.next=st.next) (w:bI.aW=st.aW)
  (l:(j≠3/\bI.az=st.az/\bI.br=st.br)\/ES h' q.lg q.b nl bI.az bI.br) (y:(j≠4/\bI.aL=st.aL)\/ES h' q.nt q.b nn bI.aL false):
  bN g h' {q with Sb:=S'} (Ld k h.size S' 2) bI p:=by
 have e:=b.rest (C:=λc=>c=2\/(j=3/\c=3)\/(j=4/\c=4)) (h':=h') (x.ak λc _ a=>by
  rcases a with a|⟨d,rfl⟩|⟨d,rfl⟩
  ·exact .inl (b.kb c a)
  ·exact .inr (.inl ⟨d,b.kl⟩)
  ·exact .inr (.inr ⟨d,b.kn⟩)) (by rintro(h|⟨_,h⟩|⟨_,h⟩)<;>cases h)
 have f: ∀ {c},c<h.size->Ld k h.size S' 2 c=k c:=λa=>GK a
 have z:eB {q with Sb:=S'} bI false=eB q st false:=by simp only[eB,v,w]
 refine⟨by rw[z];exact e.cell (by omega),r,?_,?_,by rw[u];exact e.fresh (by omega),e.cm (by omega),by rw[i];exact b.dd,by rw[i];exact e.cO (by omega) _ (λc a=>f a),by rw[eE,i];exact e.names (by omega),
  by rw[f b.ia];exact b.kd,λc a=>?_,by rw[f b.pa];exact b.kl,by rw[f b.pb];exact b.kn,λc a=>by rw[f (b.fresh.lt a)];exact b.kf c a,λc a=>by rw[f (TN b.cm a)];exact b.kt c a,
  λc a=>by rw[f (TN b.names a)];exact b.kx c a,λc a=>?_,e.ext⟩
 ·rcases l with⟨d,n,A⟩|d
  ·rw[n,A];exact e.log (by omega)
  ·exact d
 ·rcases y with⟨d,n⟩|d
  ·rw[n];exact e.dP (by omega)
  ·exact d
 ·by_cases o:c<h.size
  ·rw[f o];rcases s c a with d|d
   ·exact b.kb c d
   ·omega
  ·exact rL (by omega) a
 ·by_cases o:c<h.size
  ·rw[f o] at a;exact⟨(b.own c a).1,by have:=e.size;omega⟩
  ·by_cases t:S' c
   ·exact⟨by have:=b.ext.size;omega,r.lt t⟩
   ·exact absurd (VV (by omega) t) a
theorem bN.p9(b:bN g h q k st m){f:List M.DX}{j:List Pr}(T:M.cW h' q.ft f j)(x:Mod (M.cT q.ft q.ns) h h')(s: ∀c,M.cT q.ft f c->M.cT q.ft q.ns c\/h.size<=c):
  bN g h' {q with ns:=f} (Ld k h.size (M.cT q.ft f) 5) {st with fr:=j} m:=by
 have d:=b.rest (C:=λc=>c=5) (h':=h') (x.ak λc _ a=>b.kf c a) (by decide);have e: ∀ {c},c<h.size->Ld k h.size (M.cT q.ft f) 5 c=k c:=λa=>GK a
 refine⟨d.cell (by decide),d.box (by decide),d.log (by decide),d.dP (by decide),T,d.cm (by decide),b.dd,d.cO (by decide) _ (λc a=>e a),d.names (by decide),
  by rw[e b.ia];exact b.kd,λc a=>by rw[e (b.box.lt a)];exact b.kb c a,by rw[e b.pa];exact b.kl,by rw[e b.pb];exact b.kn,λc a=>?_,λc a=>by rw[e (TN b.cm a)];exact b.kt c a,
  λc a=>by rw[e (TN b.names a)];exact b.kx c a,λc a=>?_,d.ext⟩
 ·by_cases i:c<h.size
  ·rw[e i];rcases s c a with l|l
   ·exact b.kf c l
   ·omega
  ·exact rL (by omega) a
 ·by_cases i:c<h.size
  ·rw[e i] at a;exact⟨(b.own c a).1,by have:=d.size;omega⟩
  ·by_cases n:M.cT q.ft f c
   ·exact⟨by have:=b.ext.size;omega,T.lt n⟩
   ·exact absurd (VV (by omega) n) a
theorem bN.renew(b:bN g h q k st m){gH:Nat}(T:M.cW h' gH [] [])(i:h.size<=gH)(a:h'[q.d]? =some (J2 (eB {q with ft:=gH} st false) FH (0,0)))(x:Mod (λc=>c=q.d) h h'):
  bN g h' {q with ft:=gH,ns:= []} (Ld k h.size (· =gH) 5) {st with fr:= []} m:=by
 have d:=b.rest (C:=λc=>c=1) (h':=h') (x.ak λc _ a=>by rw[a];exact b.kd) (by decide);have e: ∀ {c},c<h.size->Ld k h.size (· =gH) 5 c=k c:=λa=>GK a
 have j: ∀c,M.cT gH [] c->c=gH:=λc a=>by
  rcases a with rfl|⟨x,l,_⟩
  ·rfl
  ·cases l
 refine⟨a,d.box (by decide),d.log (by decide),d.dP (by decide),T,d.cm (by decide),b.dd,d.cO (by decide) _ (λc a=>e a),d.names (by decide),
  by rw[e b.ia];exact b.kd,λc a=>by rw[e (b.box.lt a)];exact b.kb c a,by rw[e b.pa];exact b.kl,by rw[e b.pb];exact b.kn,λc a=>by rw[j c a];exact rL i rfl,λc a=>by rw[e (TN b.cm a)];exact b.kt c a,
  λc a=>by rw[e (TN b.names a)];exact b.kx c a,λc a=>?_,d.ext⟩
 by_cases n:c<h.size
 ·rw[e n] at a;exact⟨(b.own c a).1,by have:=d.size;omega⟩
 ·by_cases f:c=gH
  ·subst f;exact⟨by have:=b.ext.size;omega,T.lt (.inl rfl)⟩
  ·exact absurd (VV (S:=(· =gH)) (by omega) f) a
open Classical in
noncomputable def LY (k:Nat->Nat) (b:Nat) (tp np:Sl) (a:Nat->Prop):Nat->Nat:=λc=>if k c≠0 then k c else if tp.ai=some c then 6 else if np.ai=some c then 7 else if a c then 8 else 0
theorem bN.eX(d:bN g h q k st m){tp np:Sl}{ps:List Nat}{ts:List (Nat×List Pr)}{next aW:Nat}{S:Nat->Prop}
  (a:h'[q.d]? =some (J2 (eB {q with tp:=tp,np:=np} {st with next:=next,aW:=aW} false) FH (0,0))) (x:Mod (λc=>c=q.d\/q.tp.ai=some c\/q.np.ai=some c) h h')
  (H:Own fM BK h' tp ps) (on:Own IJ Bp h' np (ts.map λp=>(p.1:Int))) (J:ps.length=ts.length)
  (r: ∀c,tp.ai=some c->q.tp.ai=some c\/(k c=0/\g.size<=c/\np.ai≠some c/\ ¬S c)) (s: ∀c,np.ai=some c->q.np.ai=some c\/(k c=0/\g.size<=c/\tp.ai≠some c/\ ¬S c)) (K: ∀c,S c->g.size<=c/\c<h'.size)
  (L: ∀(i:Nat) (t:Nat) (p:Nat×List Pr),ps[i]? =some t->ts[i]? =some p->(∃ e:Nat,q.ps[e]? =some t/\st.ts[e]? =some p)\/ ∃n j,bS h' t p.2 (NE p.2) n j/\j<=h'.size/\(∀ c,n<=c->c<j->S c/\k c=0)/\G6 p.2):
  bN g h' {q with tp:=tp,np:=np,ps:=ps} (LY k h.size tp np S) {st with ts:=ts,next:=next,aW:=aW} m:=by
 have l:=d.rest (C:=λc=>c=1\/c=6\/c=7) (h':=h') (x.ak λc _ a=>by
  rcases a with rfl|a|a
  ·exact .inl d.kd
  ·exact .inr (.inl (d.kt c a))
  ·exact .inr (.inr (d.kx c a))) (by decide)
 have f: ∀ {c e},k c=e->e≠0->LY k h.size tp np S c=e:=λb u=>by unfold LY;rw[if_pos (by rw[b];exact u)];exact b
 refine⟨a,l.box (by decide),l.log (by decide),l.dP (by decide),l.fresh (by decide),H,J,λi t p b u=>?_,on,f d.kd (by decide),λc a=>f (d.kb c a) (by decide),f d.kl (by decide),f d.kn (by decide),λc a=>f (d.kf c a) (by decide),λc a=>?_,λc a=>?_,λc a=>?_,l.ext⟩
 ·rcases L i t p b u with⟨e,M,N⟩|⟨n,j,v,w,y,z⟩
  ·obtain⟨n,j,v,w,y,z⟩:=l.cO (by decide) k (λ_ _=>rfl) e t p M N;exact⟨n,j,v,w,λc A c2=>f (y c A c2) (by decide),z⟩
  ·refine⟨n,j,v,w,λc A c2=>?_,z⟩;obtain⟨B,D⟩:=y c A c2;have O:tp.ai≠some c:=λE=>by
    rcases r c E with h|h
    ·have:=d.kt c h;rw[D] at this;cases this
    ·exact h.2.2.2 B
   have P:np.ai≠some c:=λE=>by
    rcases s c E with h|h
    ·have:=d.kx c h;rw[D] at this;cases this
    ·exact h.2.2.2 B
   unfold LY;rw[if_neg (by simp[D]),if_neg O,if_neg P,if_pos B]
 ·rcases r c a with b|b
  ·exact f (d.kt c b) (by decide)
  ·unfold LY;rw[if_neg (by simp[b.1]),if_pos a]
 ·rcases s c a with b|b
  ·exact f (d.kx c b) (by decide)
  ·unfold LY;rw[if_neg (by simp[b.1]),if_neg b.2.2.1,if_pos a]
 ·by_cases o:k c=0
  ·unfold LY at a;rw[if_neg (by simp[o])] at a;by_cases F:tp.ai=some c
   ·refine⟨?_,TN H F⟩;rcases r c F with b|b
    ·have:=d.kt c b;rw[o] at this;cases this
    ·exact b.2.1
   ·rw[if_neg F] at a;by_cases G:np.ai=some c
    ·refine⟨?_,TN on G⟩;rcases s c G with b|b
     ·have:=d.kx c b;rw[o] at this;cases this
     ·exact b.2.1
    ·rw[if_neg G] at a;by_cases I:S c
     ·exact K c I
     ·rw[if_neg I] at a;exact absurd rfl a
  ·exact⟨(d.own c o).1,by have:=(d.own c o).2;have:=l.size;omega⟩
end
structure JP (m m':Bx):Prop where
 up:m'.down=false
 calm:m.fuel= -1->m'.fuel= -1
theorem JP.refl {m:Bx}(a:m.down=false):JP m m:=⟨a,λa=>a⟩
theorem JP.trans {m c d:Bx}(a:JP m c)(b:JP c d):JP m d:=⟨b.up,λe=>b.calm (a.calm e)⟩
theorem ZN {m:Bx}(hd:m.down=false)(l:List Fi):JP m {IL m with files:=l}:=by refine⟨(AMb l).trans hd,λa=>?_⟩;show(IL m).fuel= -1;unfold IL;rw[if_neg (by rw[a];decide)];exact a
theorem Ri {m:Bx}{k d:A2P}(hd:m.down=false)(b:LU k=false):(m.fuel=0/\EM m k d=(30,NQ m))\/((EM m k d).1=0/\JP m (EM m k d).2/\
  ∀x,ff (EM m k d).2 x=if x=k then some (((ff m k).getD (bG,bG)).1,((ff m k).getD (bG,bG)).2++d) else ff m x):=by
 by_cases a:m.fuel=0
 ·left;refine⟨a,?_⟩;unfold EM;rw[if_neg (by simp[hd]),if_neg (by simp[b]),if_pos a]
 ·right;obtain⟨c,e⟩:=AM8 ⟨hd,a⟩ (d:=d) b;refine⟨c,?_,e⟩;unfold EM;rw[if_neg (by simp[hd]),if_neg (by simp[b]),if_neg a];exact ZN hd _
theorem OX {m:Bx}{a:A2P}{p:A2P×A2P}(hd:m.down=false)(c:ff m a=some p):(m.fuel=0/\Hg m a=(30,NQ m))\/((Hg m a).1=0/\JP m (Hg m a).2/\ ∀x,ff (Hg m a).2 x=if x=a then some (p.1++p.2,bG) else ff m x):=by
 have d:(Cn a m.files).isNone=false:=by
  cases b:Cn a m.files with
  |none=>unfold ff at c;rw[b] at c;cases c
  |some f=>rfl
 by_cases b:m.fuel=0
 ·left;refine⟨b,?_⟩;unfold Hg;rw[if_neg (by simp[hd]),if_neg (by simp[d]),if_pos b]
 ·right;obtain⟨e,g⟩:=ARR ⟨hd,b⟩ c;refine⟨e,?_,g⟩;unfold Hg;rw[if_neg (by simp[hd]),if_neg (by simp[d]),if_neg b];exact ZN hd _
theorem RB {m:Bx}{k:A2P}(hd:m.down=false)(b:(ff m k).isSome=true):(m.fuel=0/\Gr m k=(30,NQ m))\/((Gr m k).1=0/\JP m (Gr m k).2/\ ∀x,ff (Gr m k).2 x=if x=k then none else ff m x):=by
 have c:(Cn k m.files).isNone=false:=by
  rw[<- VL] at b;cases a:Cn k m.files with
  |none=>rw[a] at b;cases b
  |some f=>rfl
 by_cases a:m.fuel=0
 ·left;refine⟨a,?_⟩;unfold Gr;rw[if_neg (by simp[hd]),if_neg (by simp[c]),if_pos a]
 ·right;obtain⟨d,e⟩:=ANp ⟨hd,a⟩ b;refine⟨d,?_,e⟩;unfold Gr;rw[if_neg (by simp[hd]),if_neg (by simp[c]),if_neg a];exact ZN hd _
theorem oR(m:Bx)(x:A2P):ff (NQ m) x=ff m x:=rfl
theorem rM(m:Bx):bj (NQ m).files=bj m.files:=rfl
theorem zS {an:ar}{g:aa}{H b z:Nat}{h:A2P}{made:Bool}{n:Nat->Prop}{m:Bx}{upto:Int}{I:A2O}(ao:bZ g)(ap: ∀j,Mod n g j->bZ j)(L:ES g H b h z made)(N:Cu g b n m)(hd:m.down=false)(aq: ¬n H)(a0:h.size<=8)(au:bj m.files<=8000000000000)
  (av:upto>=(z:Int)->I (J6 J9 1) g)
  (aw:m.fuel≠ -1-> ∀j S' f,Cu j b S' f->f.down=true->Mod n g j->(∀ c,S' c->n c)->bj f.files<=bj m.files->(∀ x,ff f x=ff m x\/(ff f x=none/\ ∃d:Nat,1<=d/\d<=99999999/\(d:Int)<=upto/\x=aD h d))->I (J6 J9 30) j)
  (ax:upto<(z:Int)-> ∀j S' f,Cu j b S' f->JP m f->Mod n g j->(∀ c,S' c->n c)->bj f.files<=bj m.files->(∀ d:Nat,1<=d->d<=99999999->(d:Int)<=upto->ff f (aD h d)=none)->
   (∀ x,(∀ d:Nat,1<=d->d<=99999999->(d:Int)<=upto->x≠aD h d)->ff f x=ff m x)->I (J6 J9 0) j):AA an P JI #[Aq H,J6 J9 upto] g I:=by
 refine ABO ?_;unfold UO;refine aj.mk λK ay=>ag.no rfl (aE (AC.mk (AB L rfl) (ay _ _ ?_)))
 refine ag.intro (λq=>av (by simpa using q)) (λq=>?_);have az:upto<(z:Int):=by simpa using q
 refine aE (AY.mk (AO L rfl) (aE (AJ.mk (AB L rfl) ?_)));refine yC ao N hd (by omega) au λX Y l A v2 Z O=>⟨Y,_,rfl,ag.no rfl ?_⟩
 have ab:(l.map λd:Nat=>(d:Int)).length=l.length:=Bs ..;have J: ∀d∈l,1<=d/\d<=99999999/\(ff m (aD h d)).isSome=true:=λd e=>by
  have:=(A.mem d).1 e;rw[VL] at this;exact this
 have a1:l.Nodup:=List.nodup_iff_pairwise_ne.2 (A.inc.imp λg=>Nat.ne_of_lt g);have a2:=AQM A;refine Loop.rule (λac x s=> ∃(i:Nat) (B:Nat->Prop) (r:Bx),x=((i:Int),())/\Cu s b B r/\JP m r/\Mod n g s/\Mod n X s/\(∀ c,B c->n c)/\bj r.files<=bj m.files/\(∀ d∈l.take i,(d:Int)<=upto->ff r (aD h d)=none)/\(∀ x,(∀ d∈l.take i,(d:Int)<=upto->x≠aD h d)->ff r x=ff m x)/\i<=l.length/\ac=l.length-i) ?_
  ⟨0,n,m,rfl,N.ext Z,JP.refl hd,Ext.mod Z,Mod.refl,λ_ g=>g,A0 _,by simp,λ_ _=>rfl,An _,rfl⟩
 rintro a3 ac _ s ⟨i,B,r,rfl,Q,C,w,R,D,M,E,u,a4,rfl⟩ aA;have aC:View IJ s Y (l.map λd:Nat=>(d:Int)):=v2.mod R λc v aF=>by have:=O c v;have:=N.lt aF;omega
 rw[v2.len,ab];refine ag.intro (λS=>?_) (λS=>?_)
 ·have F:i<l.length:=by simpa using S
  have ah:l[i]? =some l[i]:=A2 F;obtain⟨ad,ae,aG⟩:=J l[i] (AW F);have y:l.take (i+1)=l.take i++ [l[i]]:=by rw[AD,ah];rfl
  have aH: ∀d∈l.take i,d<l[i]:=λd e=>by
   have:=A.inc;rw[<- CN (i+1) l,y] at this;have aI:=(List.pairwise_append.1 (List.pairwise_append.1 this).1).2.2 d e l[i] (by simp);exact aI
  refine aj.mk λaJ aK=>?_
  have fin: ∀S' f j,Cu j b S' f->JP m f->Mod n g j->Mod n X j->(∀ c,S' c->n c)->bj f.files<=bj m.files->(∀ d∈l.take (i+1),(d:Int)<=upto->ff f (aD h d)=none)->(∀ x,(∀ d∈l.take (i+1),(d:Int)<=upto->x≠aD h d)->ff f x=ff m x)->aJ () j:=λS' f j aL aM aN aO aP aQ aR O=>by
   refine aK _ _ ?_;dsimp only;rw[Aa (by omega)];exact aA (l.length-(i+1)) _ _ (by omega) ⟨i+1,S',f,rfl,aL,aM,aN,aO,aP,aQ,aR,O,F,rfl⟩
  rw[<- ab,<-v2.len];refine aC.idx (i:=i) (x:=(l[i]:Int)) (by rw[C2,ah];rfl) λa _ c=>?_
  refine AC.mk c.int ?_;refine ag.intro (λq=>?_) (λq=>?_)
  ·have q:(l[i]:Int)<=upto:=by simpa using q
   have T:ES s H b h z made:=L.mod w aq;refine aE (AY.mk (AO T rfl) (aE (AJ.mk (AB T rfl) ?_)));refine YR (ap s w) (by omega) (by omega) λa5 U=>⟨_,rfl,⟨AO (T.ext U) rfl,?_⟩⟩
   refine XE (Q.ext U) λaf ai V aS ak=>⟨_,rfl,?_⟩
   have aT:(ff r (aD h l[i])).isSome=true:=by rw[u (aD h l[i]) λd e _ G=>by have:=aH d e;have:=Ih G;omega];exact aG
   have W:=(Ext.mod U).trans (aS.ak λc _ v=>D c v);rcases RB (k:=aD h l[i]) C.up aT with⟨aU,aV⟩|⟨aW,ds,al⟩
   ·rw[aV] at V ⊢;refine ag.yes rfl (aw (λg=>by have:=C.calm g;rw[aU] at this;cases this) af ai _ V rfl (w.trans W) (λc v=>D c (ak c v)) M λx=>?_);show ff r x=_\/(ff r x=_/\_);by_cases t: ∃d,d∈l.take i/\(d:Int)<=upto/\x=aD h d
    ·obtain⟨d,e,o,rfl⟩:=t;have am:=J d (DM e);exact .inr ⟨E d e o,d,am.1,am.2.1,o,rfl⟩
    ·exact .inl (u x λd e o G=>t ⟨d,e,o,G⟩)
   rw[aW];refine ag.no rfl (fin ai _ af V (C.trans ds) (w.trans W) (R.trans W) (λc v=>D c (ak c v)) (AE (Zb _) M) ?_ ?_)
   ·intro d e o;rw[al];split
    ·rfl
    ·rename_i aX;rw[y] at e;rcases List.mem_append.1 e with e|e
     ·exact E d e o
     ·exact absurd (by rw[List.mem_singleton.1 e]) aX
   ·intro x t;rw[al,if_neg (t l[i] (by rw[y];exact List.mem_append.2 (.inr (List.mem_singleton.2 rfl))) q)];exact u x λd e=>t d (by rw[y];exact List.mem_append.2 (.inl e))
  ·have q: ¬(l[i]:Int)<=upto:=by simpa using q
   refine fin B r s Q C w R D M ?_ ?_
   ·intro d e o;rw[y] at e;rcases List.mem_append.1 e with e|e
    ·exact E d e o
    ·rw[List.mem_singleton.1 e] at o;exact absurd o q
   ·intro x t;exact u x λd e=>t d (by rw[y];exact List.mem_append.2 (.inl e))
 ·have F:i=l.length:=by simp at S;omega
  subst F;rw[BT] at E u;refine ax az s B r Q C w D M ?_ ?_
  ·intro d ad ae o;by_cases e:d∈l
   ·exact E d e o
   ·rw[u (aD h d) λk aY _ G=>e (by rw[Ih G];exact aY)];have: ¬((ff m (aD h d)).isSome=true):=λg=>e ((A.mem d).2 ⟨ad,ae,by rw[VL];exact g⟩)
    cases aZ:ff m (aD h d) with
    |none=>rfl
    |some p=>rw[aZ] at this;exact absurd rfl this
  ·intro x t;exact u x λd e o=>t d (J d e).1 (J d e).2.1 o
theorem ARl {a:Nat}(h:a<=99999999):LU (aY a)=false:=by
 have b:(aY a).size=1+(Lib.decDigits a).length:=by have:=A7 (aY a);rw[XF] at this;rw[<- this];simp;omega
 have c:(Lib.decDigits a).length<=20:=by rw[Lib.decDigits_length];exact Lib.nDigits_le20 a (by omega)
 unfold LU;rw[Hk,decide_eq_false_iff_not,decide_eq_false_iff_not];refine⟨λh=>?_,by omega⟩;rw[h] at b;have:bG.size=0:=rfl;omega
theorem QU {A:ar}{h:aa}{a:Nat}{R:A2O}(c:bZ h)(l:a<=1099511627776)(d: ∀b,Ext h b->R (J7 (aY a)) b):AA A P JB #[J6 J9 a] h R:=by
 refine AIw ?_;unfold uY;refine yy c.cO (by omega) (by omega) λe f=>⟨_,rfl,?_⟩
 have i:Lib.itoa (a:Int)=Lib.decDigits a:=Lib.itoa_nonneg a;rw[i];have n:(Lib.decDigits a).length<=20:=by rw[Lib.decDigits_length];exact Lib.nDigits_le20 a (by omega)
 have j:(⟨(Lib.decDigits a).toArray⟩:A2P).size=(Lib.decDigits a).length:=by simp[ByteArray.size]
 refine⟨?_,?_⟩
 ·rw[j,max_i64];have:(⟨#[116]⟩:A2P).size=1:=rfl;omega
 ·exact d e f
def rN(h:aa)(a:Nat):Prop:= ∃b c c2 d c4 e f i,h[a]? =some (J2 #[b,c,c2,d,c4,e,f,i,J3 true] FH (0,0))
theorem ARf {A:ar}{h:aa}{q:Hp}{st:Db}{R:A2O}(hd:h[q.d]? =some (J2 (eB q st false) FH (0,0)))(b: ∀a,rN a q.d->Mod (· =q.d) h a->a.size=h.size->R (J6 J9 30) a):AA A P Cg #[Aq q.d,J6 J9 30] h R:=by
 refine ACD ?_;unfold WU;refine aj.mk λK c=>ag.yes rfl (aE (af.dt hd (by simp) λd e f i=>c _ _ (b d ?_ f i)))
 exact⟨_,_,_,_,_,_,_,_,by simpa using e⟩
section
variable {A : ar} {g h : aa} {q : Hp} {k : Nat -> Nat} {st : Db} {m : Bx} {R : A2O}
theorem bN.ib(a:bN g h q k st m)(b:bZ g):bZ h:=b.ext a.ext
def Grow(k a:Nat->Nat)(b:Nat):Prop:= ∀c,c<b->a c=k c
theorem Grow.refl {k:Nat->Nat}{a:Nat}:Grow k k a:=λ_ _=>rfl
theorem rO {k:Nat->Nat}{a b:Nat}{d:Nat->Prop}:Grow k (Ld k a d b) a:=λc e=>GK e
theorem AQ2(b:bN g h q k st m)(t:st.next<=99999999)(L:st.aW<=99999999)(M:st.ts.length<=60000)(u: ∀p∈st.ts,p.1<=99999999)(D: ∀v,Ext h v->R (J7 (AX (EF ⟨st.next,st.aW,st.ts.map (·.1)⟩))) v):AA A P Pw #[Aq q.d] h R:=by
 refine AED ?_;unfold WC;refine aE (AC.mk (AB b.cell rfl) (aE (AC.mk (AB b.cell rfl) (aE (AZ.mk (s:=q.np) (AB b.cell rfl) ?_)))));rw[CF (by omega)];refine Cc (by omega) λN w=>⟨_,rfl,?_⟩
 have f:=Am w b.cell;refine⟨AB f rfl,AB f rfl,?_⟩;rw[CF (by omega)];refine Cc (by omega) λO y=>⟨_,rfl,?_⟩
 have c2:=Am y f;have Q:=AV (n:=st.next) (by omega);have S:=AV (n:=st.aW) (by omega);have j:q.np.len=st.ts.length:=by rw[b.names.len];simp
 refine⟨AB c2 rfl,by rw[AP,AP,max_i64];omega,?_⟩;rw[j,CF (by omega),Aj];refine Cc (by omega) λE z=>⟨_,rfl,?_⟩
 have F:=Am z c2;have T:=AV (n:=st.ts.length) (by omega);refine⟨by rw[AP,AP,A1,max_i64];omega,?_⟩;refine aE (AZ.mk (s:=q.np) (AB F rfl) ?_);rw[Aj];have B:=(w.trans y).trans z;have G:=(b.names.ext B).view;have U: ∀i,((st.ts.map (·.1)).take i).flatMap Bc=((st.ts.map (·.1)).take i).flatMap Bc:=λ_=>rfl
 refine Loop.rule (λC x o=> ∃i:Nat,x=(AX (Bc st.next++Bc st.aW++Bc st.ts.length++((st.ts.map (·.1)).take i).flatMap Bc),(i:Int),())/\C=st.ts.length-i/\i<=st.ts.length/\Ext E o) ?_ ⟨0,by simp,rfl,by omega,Mod.refl⟩;rintro K C _ o ⟨i,rfl,rfl,V,r⟩ H;dsimp only;refine ag.intro (λe=>?_) (λe=>?_)
 ·have d:i<st.ts.length:=by rw[<- j];simpa using e
  have ah:st.ts[i]? =some st.ts[i]:=A2 d;have W:=u st.ts[i] (AW d);refine(G.ext r).idx (i:=i) (x:=(st.ts[i].1:Int)) (by rw[eE,C2,ah];rfl) λa _ c=>AC.mk c.int ?_
  rw[CF (by omega)];refine Cc (by omega) λX I=>⟨_,rfl,?_⟩
  have Y:=AV (n:=st.ts[i].1) (by omega);have Z:=Uu (l:=(st.ts.map (·.1)).take i) λn t=>by
   obtain⟨p,J,rfl⟩:=List.mem_map.1 (DM t);exact u p J
  have aa:((st.ts.map (·.1)).take i).length<=60000:=by simp;omega
  refine⟨by rw[AP,AP,max_i64];simp only[A1];omega,?_⟩;rw[Aj,Aa (by omega)];refine H (st.ts.length-(i+1)) _ _ (by omega) ⟨i+1,?_,rfl,d,r.trans I⟩;rw[AD,C2,ah];simp
 ·have d:i=st.ts.length:=by rw[j] at e;simp at e;omega
  subst d;have:=D o (B.trans r);rw[AG (by simp)];simpa [EF] using this
theorem zT {n:Nat}{s:Sl}{l:List Pr}(z:bZ g)(Q:bN g h q k st m)(hd:m.down=false)(T:G6 l)(an:View BQ h s l)(B: ∀c,s.ai=some c->c<h.size)(ao:n<=99999999)(ap:ff m (aY n)=none)(aq:bj m.files+(Jd l).length+1<=8796093022208)
  (S:m.fuel≠ -1-> ∀b S' e,Cu b q.b S' e->e.down=true->Mod q.Sb h b->(∀ c,S' c->q.Sb c\/h.size<=c)->(∀ x,x≠aY n->ff e x=ff m x)->bj e.files<=bj m.files+(Jd l).length+1->R (J1 #[J5 none,J6 J9 30]) b)
  (ar: ∀b S' C e t D U,bN g b {q with Sb:=S'} C st e->JP m e->(∀ x,ff e x=if x=aY n then some (AX (Jd l),bG) else ff m x)->bj e.files<=bj m.files+(Jd l).length+1->bS b t l (NE l) D U->h.size<=D->U<=b.size->(∀ c,D<=c->C c=0)->
   Mod q.Sb h b->Grow k C h.size->R (J1 #[Aq t,J6 J9 0]) b):AA A P Nl #[Aq q.d,J6 J9 (n:Int),J4 s.p s.len s.cap] h R:=by
 refine AEL ?_;unfold YP;refine AO2 T an B λaC V=>⟨_,_,rfl,ag.no rfl ?_⟩
 have p:=Q.on V;refine aE (AY.mk (AO p.cell rfl) ?_);refine QU (p.ib z) (by omega) λE F=>⟨_,rfl,⟨AO (p.on F).cell rfl,?_⟩⟩
 have W:=p.on F;have X:=V.trans F;have aD:=X.size;refine sE W.box (by rw[AP];exact aq) λY f G H Z=>⟨_,rfl,?_⟩
 have I:=Za Q.box.aT (aY n) (AX (Jd l));rw[AP] at I;have aa:Mod q.Sb h Y:=(Ext.mod X).trans H;have J: ∀c,f c->q.Sb c\/h.size<=c:=λc a=>(Z c a).imp id λh=>by omega
 rcases Ri (k:=aY n) (d:=AX (Jd l)) hd (ARl ao) with⟨K,L⟩|⟨L,M,r⟩
 ·rw[L] at G ⊢;refine ag.yes rfl ?_;exact S (by rw[K];decide) Y f _ G rfl aa J (λx _=>rfl) (by rw[rM,HJ];exact Iv _ _)
 rw[L];refine ag.no rfl ?_;have o:=W.boxed (j:=2) (bI:=st) G (H.ak λc _ a=> .inl a) Z rfl rfl rfl rfl (.inl ⟨by decide,rfl,rfl⟩) (.inl ⟨by decide,rfl⟩);generalize (EM m (aY n) (AX (Jd l))).2=ab at*
 have aF:Grow k (Ld k E.size f 2) E.size:=rO;refine aE (AY.mk (AO o.cell rfl) ?_);refine QU (o.ib z) (by omega) λau u=>⟨_,rfl,⟨AO (o.on u).cell rfl,?_⟩⟩
 have ac:=o.on u;rw[ap] at r;have av:ff ab (aY n)=some (bG,bG++AX (Jd l)):=by rw[r,if_pos rfl];rfl
 refine sF ac.box λad v N=>⟨_,rfl,?_⟩
 have aw:=od o.box.aT (aY n);have ae:Mod q.Sb h ad:=by refine aa.then ((Ext.mod u).trans N |>.ak λc _ a=>?_);exact(J c a)
 rcases OX M.up av with⟨K,O⟩|⟨O,af,ah⟩
 ·rw[O] at v ⊢;refine ag.yes rfl ?_;exact S (λax=>by have:=M.calm ax;rw[K] at this;cases this) ad f _ v rfl ae J (λx i=>by
   rw[oR,r,if_neg i]) I
 rw[O];refine ag.no rfl ?_;have w:=ac.boxed (j:=2) (bI:=st) v (N.ak λc _ a=> .inl a) (λc a=> .inl a) rfl rfl rfl rfl (.inl ⟨by decide,rfl,rfl⟩) (.inl ⟨by decide,rfl⟩);generalize (Hg ab (aY n)).2=ai at*
 refine aE (AY.mk (AO w.cell rfl) ?_);refine QU (w.ib z) (by omega) λaj y=>⟨_,rfl,⟨AO (w.on y).cell rfl,?_⟩⟩
 have ak:=w.on y;refine pj ak.box ⟨_,_,rfl,?_⟩;have ay:ff ai (aY n)=some (AX (Jd l),bG):=by rw[ah,if_pos rfl,RX,RX]
 rw[qT af.up,ay];dsimp only;rw[YW];refine ag.no rfl ?_;refine yX T.eM λal t am az=>⟨_,_,rfl,?_⟩
 have aG:=u.size;have aH:=H.size;have aI:=N.size;have aJ:=y.size;have aA: ∀c,aj.size<=c->Ld (Ld k E.size f 2) au.size f 2 c=0:=λc a=>by
  have: ¬f c:=λB=>by have:=v.lt B;omega
  exact VV (by omega) this
 refine ar al f _ ai t aj.size al.size (ak.on am) (M.trans af) (λx=>?_) (AE aw I) az (by omega) (A0 _) (λc a=>aA c a) ?_ ?_
 ·rw[ah];by_cases i:x=aY n
  ·rw[if_pos i,if_pos i,RX,RX]
  ·rw[if_neg i,if_neg i,r,if_neg i]
 ·exact(ae.trans (Ext.mod y)).trans (Ext.mod am)
 ·exact λc a=>by
   rw[GK (by omega),GK (by omega)]
end
section
variable {A : ar} {g h : aa} {q : Hp} {k : Nat -> Nat} {st : Db} {m : Bx} {R : A2O}
theorem bN.fY(a:bN g h q k st m)(e:bZ g){d:aa}(x:Mod (λc=>q.Sb c\/c=q.lg\/c=q.nt) h d):bZ d:=
 e.ext (a.rest (C:=λc=>c=2\/c=3\/c=4) (x.ak λc _ b=>by
  rcases b with b|rfl|rfl
  ·exact .inl (a.kb c b)
  ·exact .inr (.inl a.kl)
  ·exact .inr (.inr a.kn)) (by decide)).ext
def cQ(st:Db):Nt:=⟨st.next,st.aW,st.ts.map (·.1)⟩
theorem zU {B:Br}{T:Nat->List Pr}(I:bZ g)(f:bN g h q k st m)(hd:m.down=false)(ac:BJ (ff m) B)(u:gZ (cQ st))(ax: ∀a∈(cQ st).names,ff m (aY a)=some (AX (Jd (T a)),bG)/\G6 (T a))(ay:1<=st.aL/\st.aL+2<=99999999)
  (S: ∀a,st.aL<=a->a<=99999999->ff m (aD nn a)=none) (be:bj m.files+1000000<=8000000000000)
  (ad:m.fuel≠ -1-> ∀n S' o,Cu n q.b S' o->o.down=true->Mod (λc=>q.Sb c\/c=q.nt) h n->(∀ c,S' c->q.Sb c\/h.size<=c)->(∀ G,Mc (ff o) G-> ∃l,BJ G l/\mK B st.aL (cQ st) T l)->(∀ b,(∀ a,b≠aD nn a)->ff o b=ff m b)->bj o.files<=bj m.files+700000->R (J6 J9 30) n)
  (aM: ∀n S' az o l,bN g n {q with Sb:=S'} az {st with aL:=st.aL+1} o->JP m o->BJ (ff o) l->Ao l=cQ st->l.T=T->l.L=B.L->l.aR=B.aR->l.aX<=max B.aX (st.aL+1)->(∀ b,(∀ a,b≠aD nn a)->ff o b=ff m b)->
   (∀ a,st.aL+1<=a->a<=99999999->ff o (aD nn a)=none)->bj o.files<=bj m.files+700000->Mod (λc=>q.Sb c\/c=q.nt) h n->Grow k az h.size->R (J6 J9 0) n):AA A P Js #[Aq q.d] h R:=by
 have aN: ∀p∈st.ts,p.1<=99999999:=λp aO=>by
  have v:=u.below p.1 (List.mem_map.2 ⟨p,aO,rfl⟩);have r:=u.next;simp only[cQ] at v r;omega
 have aP:st.ts.length<=60000:=by have:=u.cp;simpa [cQ] using this
 have aQ:=zg u;have aR:(cQ st).names.length=st.ts.length:=by simp[cQ]
 rw[aR] at aQ;have ae:(EF (cQ st)).length<=1048576:=by omega
 refine ADM ?_;unfold Vy;refine aE (AY.mk (AB f.cell rfl) ?_);refine AQ2 f u.next u.aW.2 aP aN λv U=>⟨_,rfl,⟨AB (f.on U).cell rfl,?_⟩⟩
 have J:=f.on U;have bf:=U.size;have aS:(AX (EF ⟨st.next,st.aW,st.ts.map (·.1)⟩)).size=(EF (cQ st)).length:=by rw[AP];rfl
 refine yH (J.ib I) J.dP J.box J.sx (λn x=>J.fY I (x.ak λc _ e=> .inl e)) (by decide) (by omega) (by rw[aS];omega) (by omega) λr C K V aT aA=>⟨_,rfl,?_⟩
 rw[show bl (AX (EF ⟨st.next,st.aW,st.ts.map (·.1)⟩))=EF (cQ st) from EN _] at K V ⊢;have aU:=Za f.box.aT (aD nn st.aL) (AX (Ct (EF (cQ st))));have bg:=(JM ae).2;rw[AP] at aU;have L:Mod (λc=>q.Sb c\/c=q.nt) h r:=(Ext.mod U).trans aT;have s: ∀c,C c->q.Sb c\/h.size<=c:=λc e=>(aA c e).imp id λh=>by omega
 rcases Ri (k:=aD nn st.aL) (d:=AX (Ct (EF (cQ st)))) hd (yJ (by decide) (by omega)) with⟨W,af⟩|⟨af,M,aC⟩
 ·rw[af] at K ⊢;refine ag.yes rfl ?_;exact ad (by rw[W];decide) r C _ K rfl L s (λG c=>⟨B,ac.dQ c,APe⟩) (λb _=>rfl) (by rw[rM];omega)
 rw[af] at V ⊢;refine ag.no rfl ?_;rw[decide_eq_true rfl,IF] at V;generalize (EM m (aD nn st.aL) (AX (Ct (EF (cQ st))))).2=t at*
 rw[S st.aL (A0 _) (by omega)] at aC;have X: ∀b,ff t b=if b=aD nn st.aL then some (bG,AX (Ct (EF (cQ st)))) else ff m b:=λb=>by
  rw[aC];split<;>simp only[Option.getD_none,RX]
 have ah: ¬C q.nt:=λe=>by
  rcases aA _ e with h|h
  ·exact f.sx h
  ·exact h.2 rfl
 have aV:r[q.d]? =some (J2 (eB q st false) FH (0,0)):=L.ai f.cell (by rintro(h|h);exact f.mW h;exact f.dn h);refine aE (AY.mk (AB aV rfl) ?_);have aF:ff t (aD nn st.aL)=some (bG,AX (Ct (EF (cQ st)))):=by rw[X,if_pos rfl]
 have aW:bZ r:=f.fY I (L.ak λc _ e=>e.imp id .inr);refine Wu aW V K ah (by decide) (by omega) (λaX w D ai aj=>⟨_,_,rfl,?_⟩) λaZ w D ai aj=>⟨_,_,rfl,?_⟩
 ·
  have a0:(Hg t (aD nn st.aL)).1≠0:=aX;rcases OX M.up aF with⟨W,E⟩|⟨E,_,_⟩
  ·have a1:NG t (aD nn st.aL) true=(30,NQ t):=E;rw[a1] at D ⊢;refine ag.yes rfl ?_;have z:Mod (λc=>q.Sb c\/c=q.nt) h w:=L.then (aj.ak λc _ e=>(s c e).imp .inl id);exact ad (λak=>by have:=M.calm ak;rw[W] at this;cases this) w C _ D rfl z s (λG c=>AMg ac ⟨ay.1,by omega⟩ u ae S ax (F1:=ff (NQ t)) X c) (λb i=>by
    rw[oR,X,if_neg (i _)]) (by rw[rM];omega)
  ·exact absurd E a0
 ·rcases OX M.up aF with⟨W,E⟩|⟨E,al,a2⟩
  ·have aG:(Hg t (aD nn st.aL)).1=0:=aZ;rw[E] at aG;cases aG
  have D:Cu w q.b C (Hg t (aD nn st.aL)).2:=D;have bh:=od K.aT (aD nn st.aL);generalize (Hg t (aD nn st.aL)).2=aH at*
  refine ag.no rfl ?_;have N: ∀b,ff aH b=if b=aD nn st.aL then some (AX (Ct (EF (cQ st))),bG) else ff m b:=λb=>by
   rw[a2];by_cases i:b=aD nn st.aL
   ·rw[if_pos i,if_pos i];simp only[RX]
   ·rw[if_neg i,if_neg i,X,if_neg i]
  obtain⟨aI,aJ⟩:=ANV ac ⟨ay.1,by omega⟩ u ae S ax N;have z:Mod (λc=>q.Sb c\/c=q.nt) h w:=L.then (aj.ak λc _ e=>by
   rcases e with e|rfl
   ·exact(s c e).imp .inl id
   ·exact .inl (.inr rfl))
  have a3:w[q.d]? =some (J2 (eB q st false) FH (0,0)):=z.ai f.cell (by rintro(h|h);exact f.mW h;exact f.dn h);refine aE (AY.mk (AB a3 rfl) ?_);have a4:J8 J9 (((st.aL:Nat):Int)-(1:Int))=(st.aL:Int)-1:=wrap_i64 (by omega) (by omega);rw[a4];have a5:bZ w:=f.fY I (z.ak λc _ e=>e.imp id .inr);have a6: ∀n,Mod C w n->bZ n:=λn x=>f.fY I ((z.then (x.ak λc _ e=>(s c e).imp .inl id)).ak λc _ e=>e.imp id .inr)
  have aK:ff aH (aD nn st.aL)≠none:=by rw[N,if_pos rfl];simp
  refine zS a5 a6 ai D al.up ah (by decide) (by omega) (λh=>absurd h (by omega)) (λa7 F am H an a8 Y ao w4 Z=>⟨_,rfl,?_⟩) λ_ F am H an a9 Y ao w4 Z ap=>⟨_,rfl,?_⟩
  ·have aa:Mod (λc=>q.Sb c\/c=q.nt) h F:=z.then (Y.ak λc _ e=>(s c e).imp .inl id);obtain⟨l,aq,ar,au,av,aw,ba⟩:=zR (G:=ff H) aI aJ aK λb=>by
    rcases Z b with v|⟨v,a,O,y,ab,r⟩
    ·exact .inl v
    ·exact .inr ⟨v,a,by omega,y,r⟩
   refine ad (λak=>a7 (al.calm (M.calm ak))) F am H an a8 aa (λc e=>s c (ao c e)) (λG c=>⟨l,aq.dQ c,av,aw,by omega,.inr ⟨ar,au⟩⟩) (λb i=>?_) (by omega);rcases Z b with v|⟨_,a,_,_,_,r⟩
   ·rw[v,N,if_neg (i _)]
   ·exact absurd r (i a)
  ·have aa:Mod (λc=>q.Sb c\/c=q.nt) h F:=z.then (Y.ak λc _ e=>(s c e).imp .inl id);obtain⟨l,aq,ar,au,av,aw,ba⟩:=zR (G:=ff H) aI aJ aK λb=>by
    by_cases i: ∃a:Nat,1<=a/\a<=99999999/\(a:Int)<=(st.aL:Int)-1/\b=aD nn a
    ·obtain⟨a,O,y,ab,rfl⟩:=i;exact .inr ⟨Z a O y ab,a,by omega,y,rfl⟩
    ·exact .inl (ap b λa O y ab Q=>i ⟨a,O,y,ab,Q⟩)
   have bb: ∀b,(∀ a,b≠aD nn a)->ff H b=ff m b:=λb i=>by
    rw[ap b λa _ _ _=>i a,N,if_neg (i _)]
   have bc:ES F q.nt q.b nn (st.aL+1) false:=ai.mod Y ah;have bd:=f.boxed (j:=4) (bI:= {st with aL:=st.aL+1}) an (aa.ak λc _ e=>e.imp id λh=> .inr ⟨rfl,h⟩) (λc e=>s c (ao c e)) rfl rfl rfl rfl (.inl ⟨by decide,rfl,rfl⟩) (.inr bc);refine aM F am _ H l bd ((M.trans al).trans a9) aq ar au av aw (by omega) bb (λa O y=>?_) (by omega) aa rO;rw[ap (aD nn a) λk _ _ bi Q=>by have:=Ih Q;omega,N,if_neg λQ=>by have:=Ih Q;omega];exact S a (by omega) y
end
end Go.Lf.G
namespace Go.Lf.G.M
open Go Go.Lf Go.Lf.G
theorem AKy {O:ar}{n:aa}{b:Nat}{T:Q7}{fr:Nat×Nat}{s:Sl}{l:List Pr}(f:n[b]? =some (J2 #[J4 s.p s.len s.cap] T fr))(v:View BQ n s l)(af:l.length<=1099511627776):
  EQ O P (.func (.func DU) #[] #[J5 (some ⟨b,0,none⟩)]) (λc=>c<n.size/\(c=b\/s.ai=some c)) n l:=by
 refine⟨λc o=>o.1,_,_,rfl,λQ=>by kernel_rfl,λe E Q R h ah hd hB S U=>?_⟩;rw[qE];refine IK ?_;unfold Ef;have F:=Ah f;have V: ∀d,Mod h e d->d[b]? =some (J2 #[J4 s.p s.len s.cap] T fr):=λd m=>by
  have w:=E b ⟨F,.inl rfl⟩;exact m.ai (w.trans f) (hd b ⟨F,.inl rfl⟩)
 have W: ∀i x,l[i]? =some x-> ∃a,s.p=some a/\ ∀d,Mod h e d->Cells d (a.add (i*3)) (BQ.enc x):=λi x G=>by
  obtain⟨a,q,o⟩:=v.cells i x G;refine⟨a,q,λd m X u r=>?_⟩;have H:=o X u r;have I:=VD H;rw[aV,aV] at I;have J:a.block<n.size/\(a.block=b\/s.ai=some a.block):=⟨I,.inr (by simp[Sl.ai,q])⟩;have w:=E _ J;refine m.ah ((Qa ?_).trans H) ?_
  ·rw[aV,aV];exact w
  ·rw[aV,aV];exact hd _ J
 refine AZ.mk (AO (V e Mod.refl) rfl) ?_;refine Loop.rule (λm x d=> ∃(i:Nat) (k:Nat->Prop),x=((i:Int),())/\m=l.length-i/\i<=l.length/\Mod h e d/\(∀ b,k b->h b\/e.size<=b)/\R i true k d) ?_ ⟨0,h,rfl,rfl,by omega,Mod.refl,λb f=> .inl f,U⟩;rintro K m _ d ⟨i,k,rfl,rfl,G,t,y,r⟩ Y;refine ag.intro (λj=>?_) (λj=>?_)
 ·have p:i<l.length:=by simp[v.len] at j;omega
  obtain⟨a,q,o⟩:=W i _ (A2 p);have z:=o d t;refine bJ.mk q (by rw[v.len];exact p) ?_;refine AJ.mk (z.pair.1) (AJ.mk z.pair.2.1 (Ac.mk z.pair.2.2 ?_));refine ao.pair λai Z aj A B ak=>?_
  refine AJ.mk (AO A rfl) (AJ.mk (AB A rfl) (Ac.mk (AB A rfl) ?_));have ab:=hB.bd _ _ _ _ _ r (B.ak (S':=λb=>¬k b/\e.size<=b) λ_ _ e=>e.elim);refine Eb.mono (S i _ k Z (A2 p) ab) ?_;rintro _ ac ⟨g,C,rfl,ad,ae,L⟩;have M: ∀b,C b->h b\/e.size<=b:=λb f=>(ad b f).elim (y b) λal=> .inr (by have:=t.size;have:=B.size;omega)
  have N:Mod h e ac:=(t.trans B.mod).then (ae.ak λb _ f=>(y b f));refine⟨g,rfl,?_⟩;refine ag.intro (λj=>?_) (λj=>?_)
  ·refine⟨rfl,i+1,g,C,N,M,L,λD=>?_,by omega⟩;subst D;cases j
  ·have D:g=true:=by simpa using j
   subst D;exact Y _ _ _ (by omega) ⟨i+1,C,by rw[Aa (by omega)],rfl,by omega,N,M,L⟩
 ·have p:i=l.length:=by simp[v.len] at j;omega
  exact⟨rfl,i,true,k,t,y,r,λ_=>p,by omega⟩
theorem sA {d:ar}{a:aa}{s:Sl}{l:List Pr}{e:A2O}(v:View BQ a s l)(g:l.length<=1099511627776)
  (h: ∀fv b,EQ d P fv (λc=>c<b.size/\(c=a.size\/s.ai=some c)) b l->Ext a b->b.size=a.size+1->e fv b):AA d P Cf #[J4 s.p s.len s.cap] a e:=by
 refine Iz ?_;unfold Ez;refine ao.mk λi _ j f k=>?_
 exact h _ i (AKy j (v.ext f) g) f k
theorem pd {ap:ar}{t:aa}{fv:J0}{S:Nat->Prop}{l:List Pr}{e:A2P}{n:Int}{aq:A2O}(A:(fv= .nilFunc/\l= [])\/EQ ap P fv S t l)(bh:l.length<=1099511627776)
  (W: ∀G o,Own BQ AR o G (Po e n l)->(∀ c,G.ai=some c->t.size<=c)->Ext t o->aq (J4 G.p G.len G.cap) o):AA ap P LV #[fv,J7 e,J6 J9 n] t aq:=by
 refine AEb ?_;unfold YQ;refine ao.mk λau _ aX aY aZ=>ao.mk λq _ a0 av bi=>ao.mk λd _ a1 X bj=>?_
 have Y:Ext t d:=(aY.trans av).trans X;have a2:d[t.size]? =some (J2 #[J7 e] BC (0,0)):=X.ai (av.ai aX (by simp)) (by simp);have aw:d[au.size]? =some (J2 #[J6 J9 n] Bp (0,0)):=X.ai a0 (by simp);refine aj.mk λK ax=>?_
 have ay:Po e n l= []->K (true,()) d:=λf=>ax _ _ (ag.yes rfl (W ⟨none,0,0⟩ d (f▸Own.nil) (λc j=>by simp[Sl.ai] at j) Y))
 rcases A with⟨rfl,rfl⟩|A
 ·exact⟨trivial,ag.yes rfl (ay (by simp[Po]))⟩
 refine⟨A.one.2.1,ag.no A.one.2.2 ?_⟩;refine AC.mk (AO aw rfl) ?_;cases Q:decide (n<=0)
 ·refine ax _ _ (ag.no rfl ?_);have Q:0<n:=by simpa using Q
  have az: ∀o:aa,Mod (λc=>c=q.size) d o->Ext t o:=λo m=>Y.then (m.ak λc _ j=> .inr (by omega))
  have bk:=(Ys (l:=l) (Q3 e)).length_le;refine XP A (λb a=>Y.get b (A.1 b a) (by simp))
   (λi c Z r=>r[t.size]? =some (J2 #[J7 e] BC (0,0))/\r[au.size]? =some (J2 #[J6 J9 n] Bp (0,0))/\ ∃(s:Sl) (u:List Pr),r[q.size]? =some (J2 #[J4 s.p s.len s.cap] AQ (0,0))/\Own BQ AR r s u/\(∀ b,Z b↔(b=q.size\/s.ai=some b))/\(∀ b,s.ai=some b->b<r.size/\q.size<b)/\match c with
    |none=>u=l.take i/\i<=(l.takeWhile (Q3 e)).length/\(i:Int)<n
    |some aA=>aA=some 0/\u=Po e n l)
   (λb=>b=q.size) (λb a f=>by have:=A.1 b a;omega) ?_ ?_ ?_ ?_ ?_ ?_
  ·rintro i c Z r ⟨_,_,s,u,q,v,h,k,_⟩ b a;rcases(h b).1 a with rfl|d
   ·exact Ah q
   ·exact(k b d).1
  ·rintro i c Z r o ⟨H,I,s,u,w,v,h,k,a3⟩ m;refine⟨m.ai H (λt=>by omega),m.ai I (λt=>by omega),s,u,m.ai w (λab=>ab.1 ((h _).2 (.inl rfl))),v.mod m (λc j ab=>ab.1 ((h _).2 (.inr j))),h,λb a=>⟨?_,(k b a).2⟩,a3⟩;have:=m.size;have:=(k b a).1;omega
  ·exact⟨a2,aw,⟨none,0,0⟩,[],a1,Own.nil,λb=>by simp[Sl.ai],λb a=>by simp[Sl.ai] at a,by simp,by omega,by simpa using Q⟩
  ·rintro i x ac r rec bm bn J ⟨H,I,s,u,w,v,h,k,rfl,R,a4⟩ aC aZ a5 a6 a7 aD;have bo:=(List.getElem?_eq_some_iff.1 J).1;have aE:=Ut (p:=Q3 e) (l:=l) R;refine ao.pair λbp aF bq a8 C br=>?_
   refine⟨rec,C.ai a5 (by simp),a6,?_⟩;generalize aG:aF.setIfInBounds (d.size+1) (.loop {rec with state:= .busy})=D;have B:Mod (λb=>b=d.size+1) aF D:=aG▸Mod.setObj rfl;have aH:D[d.size+1]? =some (.loop {rec with state:= .busy}):=by rw[<- aG];exact Cb (by omega)
   have T:=B.ai a8 (by omega);have U:=B.ai (C.ai H (by simp)) (by omega);have aI:=B.ai (C.ai I (by simp)) (by omega);have aJ:Mod (λb=>b=d.size+1) r D:=(Ext.mod C).trans B;have ad:=B.ai (C.ai w (by simp)) (by omega);have bs:=Ah w;have aK:=(v.ext C).mod B (λc j f=>aC ((h _).2 (.inr (f▸j))));have bt:=B.size;have aL:(l.take i).length=i:=by simp;omega
   refine aj.mk λae aM=>?_
   have a9:Q3 e x=false->ae (true,()) D:=λL=>aM _ _ (ag.yes rfl (aD _ _ (by
    refine⟨ac,λb a=> .inl a,aJ.ak λb _ a=> .inr a,aH,U,aI,s,l.take i,ad,aK,h,λb a=>⟨?_,(k b a).2⟩,rfl,?_⟩
    ·have:=(k b a).1;omega
    ·have:=aE.2.1 _ J L;have H:(l.takeWhile (Q3 e)).take i=l.takeWhile (Q3 e):=AG (by omega);have I:(l.takeWhile (Q3 e)).take n.toNat=l.takeWhile (Q3 e):=AG (by omega);unfold Po;rw[I,<-nQ R,H])))
   have aN:Q3 e x=true->ae (false,()) D:=λL=>aM _ _ (ag.no rfl (by
    have bu:=aE.1 _ J L;refine AZ.mk (AO ad rfl) (AJ.mk (AO T rfl) (AJ.mk (AB T rfl) (Ac.mk (AB T rfl) ?_)));refine ao.aZ (E:=BQ) (x:=x) rfl G5 aK (by rw[aL];omega) (by rw[aL];simp[maxLen];omega) λy ba aP F ah _=>?_
    have bb:s.ai≠some q.size:=λf=>by have:=k _ f;omega
    refine af.mk (F.ai ad bb) (by simp) λai bc M bv=>?_
    have bw:=F.size;have ak:ai[q.size]? =some (J2 #[J4 y.p y.len y.cap] AQ (0,0)):=by simpa using bc
    have V:=aP.mod M (λc j f=>by
     rcases ah c j with d|d
     ·have:=k _ d;omega
     ·omega)
    have aQ:=M.ai (F.ai U (λf=>by have:=k _ f;omega)) (by omega);have al:=M.ai (F.ai aI (λf=>by have:=k _ f;omega)) (by omega);have bd:l.take i++ [x]=l.take (i+1):=by rw[AD,J];rfl
    rw[bd] at V;have aR: ∀b,(b=q.size\/y.ai=some b)->ac b\/r.size<=b:=by
     rintro b (rfl|a)
     ·exact .inl ((h _).2 (.inl rfl))
     ·rcases ah b a with d|d
      ·exact .inl ((h _).2 (.inr d))
      ·exact .inr (by omega)
    have aS:Mod (λb=>ac b\/b=d.size+1) r ai:=
     ((aJ.ak λb _ a=> .inr a).trans (F.ak λb _ a=> .inl ((h _).2 (.inr a)))).trans (M.ak λb _ a=> .inl ((h _).2 (.inl a)))
    have aT:=M.ai (F.ai aH (λf=>aC ((h _).2 (.inr f)))) (by omega);have aU: ∀b,y.ai=some b->b<ai.size/\q.size<b:=by
     intro b a;have bx:b<ba.size:=by
      rcases aP.row with⟨rfl,_⟩|⟨g,bz,L,be,_⟩
      ·simp[Sl.ai] at a
      ·simp[Sl.ai,L] at a;subst a;exact Ah be
     refine⟨by omega,?_⟩;rcases ah b a with d|d
     ·exact(k _ d).2
     ·omega
    refine AZ.mk (AO ak rfl) (AC.mk (AO al rfl) ?_);have aV:y.len=i+1:=by rw[V.len];simp;omega
    refine ag.intro (λz=>aD _ _ ?_) (λz=>a7 _ ?_)
    ·refine⟨_,aR,aS,aT,aQ,al,y,_,ak,V,λ_=>CM,aU,rfl,?_⟩;have z:((i+1:Nat):Int)=n:=by rw[aV] at z;simpa using z
     unfold Po;rw[<- z,A6,nQ (by omega)]
    ·refine⟨_,aR,aS,aT,aQ,al,y,_,ak,V,λ_=>CM,aU,rfl,by omega,?_⟩;have z:((i+1:Nat):Int)≠n:=by rw[aV] at z;simpa using z
     omega))
   refine AJ.mk (AO U rfl) ?_;rw[Ca];refine ag.intro (λN=>?_) (λN=>?_)
   ·refine AJ.mk (AO T rfl) (AJ.mk (AO U rfl) ?_);show ae (!aO x.key e,()) D;cases aW:aO x.key e
    ·exact a9 (by simp at N;simp[Q3,N,aW])
    ·exact aN (by simp[Q3,aW])
   ·exact aN (by simp at N;simp[Q3,N])
  ·rintro O' o ⟨_,_,s,u,w,v,h,k,rfl,R,a4⟩ O am bf an;have bg:=O.size;refine AZ.mk (AO w rfl) ⟨an,?_⟩;have:Po e n l=l.take l.length:=by unfold Po;rw[AG (by omega),<-nQ R,AG (by omega)]
   rw[<- this] at v;refine W s _ (v.mod (Mod.setObj (S:=λc=>c=d.size) rfl) λc j f=>am ((h _).2 (.inr (f▸j)))) (λc j=>by have:=k _ j;omega) ?_;exact(az o O).then (Mod.setObj (.inr (by omega)))
  ·rintro i aA O' o ⟨_,_,s,u,w,v,h,k,rfl,rfl⟩ J O am bf an;have bg:=O.size;refine AZ.mk (AO w rfl) ⟨an,?_⟩;refine W s _ (v.mod (Mod.setObj (S:=λc=>c=d.size) rfl) λc j f=>am ((h _).2 (.inr (f▸j)))) (λc j=>by have:=k _ j;omega) ?_;exact(az o O).then (Mod.setObj (.inr (by omega)))
 ·refine ay ?_;have:n.toNat=0:=by simp at Q;omega
  simp[Po,this]
end Go.Lf.G.M
namespace Go.Lf.G
open Go
open M (Sorted Af CY A9 Ag Ar BU Ai bC BH aQ Po Q3)
def kB(f t k:A2P):Bool:= !aO k f&&(decide (t=⟨#[]⟩)||aO k t)
def Qt(f t:A2P)(l:List Pr):List Pr:=l.filter λx=>kB f t x.key
def mM(m:List Pr)(f t:A2P)(a:Int):List Pr:=(Qt f t m).take a.toNat
theorem zV {p:Pr->Bool}{a:A2P->Bool}(b: ∀x,p x=a x.key)(k:A2P): ∀l:List Pr,Af k (l.filter p)=if a k then Af k l else none
 | []=>by split<;>rfl
 |x::l=>by
  have c:=zV b k l;rw[AS,M.BD];by_cases h:x.key=k
  ·rw[if_pos h];cases d:a k with
   |true=>rw[if_pos (by rw[b,h];exact d),M.BD,if_pos h];rfl
   |false=>
    rw[if_neg (by rw[b,h,d];decide),c,d];rfl
  ·rw[if_neg h];split
   ·rw[M.BD,if_neg h];exact c
   ·exact c
theorem fR(k:A2P): ∀ {l:List Pr},Sorted l->l.drop (aQ k l)=l.filter λx=> !aO x.key k
 | [],_=>by simp
 |x::l,s=>by
  have b:=List.pairwise_cons.1 s;rw[UK,AS];by_cases h:aO x.key k=true
  ·rw[if_pos h,if_neg (by simp[h]),HU];exact fR k b.2
  ·have c: ∀a∈l,(!aO a.key k)=true:=λa d=>by
    grind [aO,absurd,M.Da]
   rw[if_neg h,if_pos (by simp[h]),IT,List.filter_eq_self.2 c]
theorem rP(t:A2P): ∀ {l:List Pr},Sorted l->l.takeWhile (Q3 t)=l.filter (Q3 t)
 | [],_=>rfl
 |x::l,s=>by
  have a:=List.pairwise_cons.1 s;rw[Mz,AS];by_cases h:Q3 t x=true
  ·rw[if_pos h,if_pos h,rP t a.2]
  ·rw[if_neg h,if_neg h];refine(List.filter_eq_nil_iff.2 λc d b=>h ?_).symm;have e:=a.1 c d;unfold M.Q3 at b ⊢;rw[DA] at b ⊢
   grind [M.Da]
theorem zW {f t:A2P}{l:List Pr}(s:Sorted l)(b:l.length<=1099511627776):Po t 1099511627776 (l.drop (aQ f l))=Qt f t l:=by
 unfold M.Po;have a:Sorted (l.drop (aQ f l)):=s.sublist (List.drop_sublist _ _);rw[rP t a,fR f s,List.filter_filter,AG]
 ·unfold Qt;exact HG λx _=>by unfold kB M.Q3;rw[Bool.and_comm]
 grind
theorem Wv {f t:A2P}{l:List Pr}(s:Sorted l):Sorted (Qt f t l):=s.sublist Gk
theorem zX(k f t:A2P)(l:List Pr):Af k (Qt f t l)=if kB f t k then Af k l else none:=zV (λ_=>rfl) k l
theorem zY(k f t:A2P): ∀a:List (List Pr),Ar k (a.map (Qt f t))=if kB f t k then Ar k a else none
 | []=>by split<;>rfl
 |l::a=>by
  rw[B9,M.EL,M.EL,zY k f t a,zX];split<;>rfl
theorem zZ {f t:A2P}{c:List (List Pr)}(d:bC c):bC (c.map (Qt f t)):=⟨λl a=>by
  obtain⟨x,b,rfl⟩:=List.mem_map.1 a;exact Wv (d.sorted x b),λl a=>by
  obtain⟨x,b,rfl⟩:=List.mem_map.1 a;exact λe i=>d.aT x b e (List.mem_filter.1 i).1⟩
theorem ALd {f t:A2P}{a:List (List Pr)}(b:bC a):Ag (a.map (Qt f t))=Qt f t (Ag a):=
 (M.Dz _).ext (Wv (M.Dz _)) λk=>by simp_all [M.Ko,zZ,zY,zX]
theorem AQn {f t:A2P}{a:List (List Pr)}(c:bC a)(b:Int):Po t b (BH (Ag (a.map (Qt f t))))=mM (BH (Ag a)) f t b:=by
 rw[ALd c];have d:BH (Qt f t (Ag a))=Qt f t (BH (Ag a)):=by simp_all [M.BH,Qt,List.filter_filter,HG,Bool.and_comm]
 rw[d];unfold M.Po mM;have h: ∀x∈Qt f t (BH (Ag a)),Q3 t x=true:=λx e=>by
  have:=(List.mem_filter.1 e).2;unfold kB at this;rw[A4] at this;exact this.2
 rw[rP t (Wv (Uq (M.Dz _))),List.filter_eq_self.2 h]
def TF(A:ar)(h:aa)(s:Sl)(b:List (List Pr)):Prop:=
 ∃a,Own jY Bj h s a/\a.length=b.length/\ ∀(i:Nat) (v:ig) (l:List Pr),a[i]? =some v->b[i]? =some l->(∃ d,EQ A P v.v d h l/\ ∀c,d c->s.ai≠some c)/\l.length<=1099511627776
theorem EQ.at {A:ar}{fv:J0}{b T:Nat->Prop}{h e:aa}{l:List Pr}(d:EQ A P fv b h l)(x:Mod T h e)(f: ∀c,b c-> ¬T c):EQ A P fv b e l:=
 EQ.ak d (λ_ h=>h) (λc a=>by have:=d.1 c a;have:=x.size;omega) λc a=>x.get c (d.1 c a) (f c a)
theorem TF.ext {A:ar}{h a:aa}{s:Sl}{b:List (List Pr)}(q:TF A h s b)(x:Ext h a):TF A a s b:=by obtain⟨c,d,e,f⟩:=q;refine⟨c,d.ext x,e,λi v l j n=>?_⟩;obtain⟨⟨o,p,r⟩,t⟩:=f i v l j n;exact⟨⟨o,EQ.at p x (λ_ _ h=>h),r⟩,t⟩
theorem TF.nil {A:ar}{h:aa}:TF A h ⟨none,0,0⟩ []:=⟨[],Own.nil,rfl,λi v l h=>by simp at h⟩
theorem TF.ly {A:ar}{h:aa}{s:Sl}{b:List (List Pr)}(q:TF A h s b):M.sy A (λ_=>False) h s b:=by obtain⟨f,d,j,n⟩:=q;refine⟨f,d.view,λc a=>⟨d.lt a,λh=>h⟩,j,λi v l o p=> .inr ?_⟩;obtain⟨⟨t,e,u⟩,r⟩:=n i v l o p;exact⟨e.ak (λc a=>⟨e.1 c a,λh=>h⟩) (λc a=>a.1) (λ_ _=>rfl),r⟩
theorem TF.one {A:ar}{h a:aa}{fv:J0}{l:List Pr}{e:Nat->Prop}{b:Nat}(d:EQ A P fv e h l)(j:l.length<=1099511627776)(n:a[b]? =some (J2 #[fv] Bj (0,0)))(x:Ext h a)(s:h.size<=b):TF A a ⟨some ⟨b,0,none⟩,1,1⟩ [l]:=by
 refine⟨[⟨fv,d.one.1⟩],Own.lit (l:= [(⟨fv,d.one.1⟩:ig)]) n rfl (by simp[maxLen]),rfl,λi v t a f=>?_⟩;have o:i=0:=by grind
 subst o;simp only[Hv,BE] at a f;subst a f;exact⟨⟨e,EQ.at d x (λ_ _ h=>h),λc p r=>by have:=d.1 c p;simp[Sl.ai] at r;omega⟩,j⟩
theorem TF.add {A:ar}{h:aa}{s:Sl}{p:List (List Pr)}{fv:J0}{l:List Pr}{e:Nat->Prop}{K:Sl->aa->Prop}{z:Q7}(q:TF A h s p)(f:EQ A P fv e h l)(H: ∀c,e c->s.ai≠some c)(I:l.length<=1099511627776)(J:p.length<=1000000)
  (B: ∀a d,TF A d a (p++ [l])->Mod (λb=>s.ai=some b) h d->(∀ b,a.ai=some b->s.ai=some b\/h.size<=b)->K a d):
  ao h (J2 #[fv] Bj) λb j=>BI A P (Builtin.append_ #[BG,BG] z #[J4 s.p s.len s.cap,J4 (some ⟨b,0,none⟩) 1 1]) j λv d=> ∃a:Sl,v=J4 a.p a.len a.cap/\K a d:=by
 obtain⟨r,C,D,L⟩:=q;refine ao.aZ (E:=jY) (x:=⟨fv,f.one.1⟩) (s:=s) (l:=r) rfl M.ARh C (by omega) (by simp[maxLen];omega) λa d F u w _=>?_
 have N: ∀ {T:Nat->Prop} {t:J0} {n:List Pr},EQ A P t T h n->(∀ c,T c->s.ai≠some c)-> ∃e,EQ A P t e d n/\ ∀c,e c->a.ai≠some c:=λ{T} t n f y=>⟨T,EQ.at f u (λc o=>y c o),λc o G=>by
  rcases w c G with j|j
  ·exact y c o j
  ·have:=f.1 c o;omega⟩
 refine B a d ⟨r++ [⟨fv,f.one.1⟩],F,by simp[D],λi v n j O=>?_⟩ u w;by_cases Q:i<r.length
 ·grind
 grind
section
variable {A : ar} {g h : aa} {q : Hp} {k : Nat -> Nat} {st : Db} {m : Bx} {R : A2O}
def aG(st:Db):List (List Pr):=st.ts.map (·.2)
def Cm(st:Db):List Pr:=Ls st.fr (aG st)
theorem bN.iX(a:bN g h q k st m): ∀p∈st.ts,G6 p.2:=λp c=>by
 obtain⟨i,b,rfl⟩:=Ds c;have d:i<q.ps.length:=by rw[a.dd];exact b
 obtain⟨e,f,_,_,_,t⟩:=a.cO i q.ps[i] st.ts[i] (A2 d) (A2 b);exact t
theorem bN.fW(b:bN g h q k st m):bC (st.fr::aG st):=by
 refine⟨λl a=>?_,λl a=>?_⟩<;>rcases List.mem_cons.1 a with rfl|a
 ·exact b.fresh.sorted
 ·obtain⟨p,c,rfl⟩:=List.mem_map.1 a;exact(b.iX p c).aT.1
 ·exact b.fresh.aT
 ·obtain⟨p,c,rfl⟩:=List.mem_map.1 a;exact(b.iX p c).aT.2
theorem rQ(f t:A2P)(l:List Pr):(Qt f t l).length<=l.length:=A0s ..
theorem ASL {f t:A2P}(d:bN g h q k st m)(ap:st.fr.length<=1000000)(aq:st.ts.length<=100000)
  (O: ∀fv e,EQ A P fv (λc=>c<e.size) e (Ag ((st.fr::aG st).map (Qt f t)))->Ext h e->R fv e):AA A P R6 #[Aq q.d,J7 f,J7 t] h R:=by
 refine AEn ?_;unfold Xo;refine aE (AY.mk (AB d.cell rfl) ?_);refine M.sq d.fresh λfv j Q w ar=>⟨_,rfl,?_⟩
 refine M.pd (.inr Q) (by grind) λsl au y av z=>⟨_,rfl,?_⟩
 rw[zW d.fresh.sorted (by omega)] at y;have aw:=rQ f t st.fr;refine M.sA y.view (by omega) λax S B C ay=>⟨_,rfl,Yx.mk B.one.1 (ao.mk λaz _ T D aA=>?_)⟩
 have U:=TF.one B (by omega) T D (A0 _);have E:=((w.trans z).trans C).trans D;have V:=d.on E;refine aE (AZ.mk (s:=q.tp) (AB V.cell rfl) ?_);have aC:=d.dd;have aD:=d.cm.len;refine Loop.rule (λF x p=> ∃(i:Nat) (sl:Sl),x=(sl,(i:Int),())/\F=q.ps.length-i/\i<=q.ps.length/\Ext h p/\(∀ c,sl.ai=some c->h.size<=c)/\TF A p sl ((st.fr::(aG st).take i).map (Qt f t))) ?_ ⟨0,⟨some ⟨S.size,0,none⟩,1,1⟩,rfl,rfl,by omega,E,λc b=>by
  simp[Sl.ai] at b;have:=((w.trans z).trans C).size;omega,by simpa using U⟩
 rintro K F _ p ⟨i,sl,rfl,rfl,aF,l,G,n⟩ W;dsimp only;refine ag.intro (λX=>?_) (λX=>?_)
 ·have o:i<q.ps.length:=by grind
  have Y:i<st.ts.length:=by omega
  have H:q.ps[i]? =some q.ps[i]:=A2 o;have Z:st.ts[i]? =some st.ts[i]:=A2 Y;have aa:(aG st)[i]? =some st.ts[i].2:=by unfold aG;grind
  have I:=d.on l;refine I.cm.view.idx H λa _ c=>AY.mk (Cells.pt c) ?_
  obtain⟨aH,aI,ab,ac,aJ,r⟩:=I.cO i _ _ H Z;refine ze ab ac r.eM λaK aL ad u aM=>⟨_,rfl,?_⟩
  have aN:=r.many;refine M.pd (.inr ad) (by grind) λaO aP J ae L=>⟨_,rfl,?_⟩
  rw[zW r.aT.1 (by omega)] at J;have aQ:=rQ f t st.ts[i].2;refine M.sA J.view (by omega) λaR aS N af aT=>⟨_,rfl,Yx.mk N.one.1 ?_⟩
  have v:=(u.trans L).trans af;refine TF.add (n.ext v) N (λc b ah=>?_) (by omega) (by simp[aG];omega) λai e aj ak al=>?_
  ·obtain⟨aU,am,_,_⟩:=n;have aV:=am.lt ah;rcases b.2 with j|j
   ·have:=(u.trans L).size;omega
   ·have:=ae c j;have:=u.size;omega
  ·rw[Aa (by omega)];refine W (q.ps.length-(i+1)) _ _ (by omega) ⟨i+1,ai,rfl,rfl,o,?_,λc b=>?_,?_⟩
   ·exact(l.trans v).then (ak.ak λc _ b=> .inr (G c b))
   ·rcases al c b with j|j
    ·exact G c j
    ·have:=l.size;have:=v.size;omega
   ·rw[AD,aa];simpa using aj
 ·have o:i=q.ps.length:=by grind
  subst o;rw[AG (by simp[aG];omega)] at n;refine M.si n.ly (λc h=>h.elim) (by simp[aG];omega) (zZ d.fW) λfv e an x _=>⟨_,rfl,O fv e (an.ak (λc b=>b.1) (λc b=>b) (λ_ _=>rfl)) (l.trans x)⟩
theorem Yy(b:bN g h q k st m){K:Bool×Unit->aa->Prop}(c:K (false,()) h):ag ((some (⟨q.d,0,none⟩:Q6)).isNone) (K (true,()) h) (At (some (⟨q.d,0,none⟩:Q6)) λa=>Ac h (a.add 8) λt=>K (t,()) h):=
 ag.no rfl (aE (Ac.mk (AB b.cell rfl) c))
theorem AQv {f t:A2P}{d:Int}(a:bN g h q k st m)(n:st.fr.length<=1000000)(o:st.ts.length<=100000)(C:(Ag (st.fr::aG st)).length<=1099511627776)
  (p: ∀s b,Own BQ AR b s (mM (Cm st) f t d)->(∀ c,s.ai=some c->h.size<=c)->Ext h b->R (J1 #[J4 s.p s.len s.cap,J6 J9 0]) b):AA A P Pt #[Aq q.d,J7 f,J7 t,J6 J9 d] h R:=by
 refine AC7 ?_;unfold Vr;refine aj.mk λK r=>Yy a (r _ _ (ag.no rfl ?_))
 refine ASL a n o λfv D u e=>⟨_,rfl,?_⟩
 refine M.sj (.inr u) λE F v i G=>⟨_,rfl,?_⟩
 have w:(BH (Ag ((st.fr::aG st).map (Qt f t)))).length<=1099511627776:=by
  rw[ALd a.fW]
  grind [rI,Qt,Ag,aG,rQ]
 refine M.pd (.inr v) w λj x l y z=>⟨j,rfl,?_⟩
 rw[AQn a.fW] at l;exact p j x l (λc B=>by have:=y c B;have:=(e.trans i).size;omega) ((e.trans i).trans z)
theorem AE0(key:A2P): ∀ {l:List Pr},Sorted l->M.NL key l=Ve key l
 | [],_=>rfl
 |x::l,s=>by
  have c:=List.pairwise_cons.1 s;have a:=AE0 key c.2;unfold M.NL Ve at a ⊢;rw[UK,M.BD];by_cases h:aO x.key key=true
  ·rw[if_pos h,if_neg (M.Lj h),WD];exact a
  ·rw[if_neg h,Hv];by_cases b:x.key=key
   ·simp[b]
   ·have d:Af key l=none:=M.EI λe f i=>h (by
     grind)
    simp[b,d]
def Iy(m:List Pr)(key:A2P):A2P×Bool:=match Af key m with|some p=>(p.val,true)|none=>(⟨#[]⟩,false)
theorem AO4 {key:A2P}(d:bN g h q k st m)(al:st.ts.length<=100000)(I:key.size<=1099511627776)
  (v: ∀B,Ext h B->R (J1 #[J7 (Iy (Cm st) key).1,J3 (Iy (Cm st) key).2,J6 J9 0]) B):AA A P OE #[Aq q.d,J7 key] h R:=by
 refine AEf ?_;unfold XV;refine aj.mk λK J=>Yy d (J _ _ (ag.no rfl ?_))
 refine aE (AY.mk (AB d.cell rfl) ?_);have C: ∀p,(Af key st.fr).or (Ar key (aG st))=some p->Iy (Cm st) key=(p.val, !p.gone):=λp f=>by
  have e:Af key (Cm st)=alive (some p):=by unfold Cm;rw[Gf key d.fW,f]
  unfold Iy;rw[e,Hw];cases L:p.gone with
  |false=>rfl
  |true=>
   have N:Ai p=0:=by
    cases j:Af key st.fr with
    |some x=>
     rw[j] at f;simp only[Option.some_or,BE] at f;subst f;exact d.fresh.aT x (M.MN j).2
    |none=>
     rw[j,LN] at f;unfold M.Ar at f;obtain⟨l,O,Q⟩:=A0b f;exact d.fW.aT l (AF _ O) p (M.MN Q).2
   have S:=(oL N).gone L;show((⟨#[]⟩:A2P),false)=(p.val, !true);rw[Zv S];rfl
 have T:(Af key st.fr).or (Ar key (aG st))=none->Iy (Cm st) key=(⟨#[]⟩,false):=λf=>by
  have e:Af key (Cm st)=alive none:=by unfold Cm;rw[Gf key d.fW,f]
  unfold Iy;rw[e];rfl
 refine M.AQT d.fresh λam U=>⟨_,_,_,_,rfl,?_⟩
 rw[AE0 key d.fresh.sorted];refine ao.pair λb V _ n W an=>?_
 have w:=U.trans W;cases j:Af key st.fr with
 |some p=>
  have e:Ve key st.fr=(p,true):=by unfold Ve;rw[j]
  rw[e] at n ⊢;refine ag.yes rfl (AJ.mk (AB n rfl) (Ac.mk (AB n rfl) ?_));have:=v V w;rw[C p (by rw[j];rfl)] at this;exact this
 |none=>
  have e:Ve key st.fr=(M.UX,false):=by unfold Ve;rw[j]
  rw[e] at n ⊢;refine ag.no rfl ?_;have X:=d.on w;refine aE (AZ.mk (s:=q.tp) (AB X.cell rfl) ?_);have ap:=d.dd;have aq:=d.cm.len;refine Loop.rule (λD x y=> ∃i:Nat,x=((i:Int),())/\D=q.ps.length-i/\i<=q.ps.length/\Ext h y/\Ar key ((aG st).take i)=none) ?_ ⟨0,rfl,rfl,by omega,w,rfl⟩;rintro ar D _ y ⟨i,rfl,rfl,au,z,o⟩ Y;dsimp only;refine ag.intro (λZ=>?_) (λZ=>?_)
  ·have r:i<q.ps.length:=by grind
   have aa:i<st.ts.length:=by omega
   have E:q.ps[i]? =some q.ps[i]:=A2 r;have ab:st.ts[i]? =some st.ts[i]:=A2 aa;have ac:(aG st)[i]? =some st.ts[i].2:=by unfold aG;grind
   have F:=d.on z;refine F.cm.view.idx E λa _ c=>AY.mk (Cells.pt c) ?_
   obtain⟨av,aw,ad,ax,ay,ae⟩:=F.cO i _ _ E ab;refine ARO ad ae.eM I λaz af=>⟨_,_,_,_,rfl,?_⟩
   refine ao.pair λaA ah _ t ai aC=>?_
   have G:=(z.trans af).trans ai;have H:(aG st).take (i+1)=(aG st).take i++ [st.ts[i].2]:=by rw[AD,ac];rfl
   have ak:Ar key (aG st)=(Af key st.ts[i].2).or (Ar key ((aG st).drop (i+1))):=by
    conv=>lhs;rw[<- CN (i+1) (aG st),H]
    rw[M.QD,M.QD,o,M.EL];have:Ar key ([]:List (List Pr))=none:=rfl;rw[this,Option.or_none,LN]
   cases u:Af key st.ts[i].2 with
   |some p=>
    have e:Ve key st.ts[i].2=(p,true):=by unfold Ve;rw[u]
    rw[e] at t ⊢;refine ag.yes rfl (AJ.mk (AB t rfl) (Ac.mk (AB t rfl) ?_));have:=v ah G;rw[C p (by rw[j,ak,u];rfl)] at this;exact this
   |none=>
    have e:Ve key st.ts[i].2=(M.UX,false):=by unfold Ve;rw[u]
    rw[e] at t ⊢;refine ag.no rfl ?_;rw[Aa (by omega)];refine Y (q.ps.length-(i+1)) _ _ (by omega) ⟨i+1,rfl,rfl,r,G,?_⟩;rw[H,M.QD,o,M.EL,u];rfl
  ·have r:i=q.ps.length:=by grind
   subst r;rw[AG (by simp[aG];omega)] at o;have:=v y z;rw[T (by rw[j,o];rfl)] at this;exact this
end
open M (Sorted Af CY A9 Ag Ar BU Ai bC BH)
def rR(a:Nat):Nat:=20000*a+10000000
structure cI where
 C:Nat
 W0:Nat
 A:Nat
 hC:C<=100000
 hA:A<=60000
 hW:W0+A*rR C<=8000000000000
def cI.K(a:cI):Nat:=rR a.C
theorem cI.wt(b:cI){a:Nat}(c:a<=b.A):b.W0+a*b.K<=8000000000000:=by
 have d:=b.hW;have f:a*b.K<=b.A*b.K:=AN _ c;have e:b.A*rR b.C=b.A*b.K:=rfl;rw[e] at d;generalize a*b.K=x at*
 generalize b.A*b.K=g at*
 omega
theorem AFf: ∀a:List (List UInt8),(∀ r∈a,r.length<=1048576)->(aK a).length<=(a.map List.length).sum+a.length*14
 | [],_=>by simp
 |r::a,b=>by
  have d:=(JM (b r Cl)).2;have e:=AFf a λx c=>b x (AF _ c)
  rw[XO];simp only[A1,B9,GP,A5];omega
theorem AFV: ∀a:List (List Pr),((a.map BP).map List.length).sum=(BP a.flatten).length
 | []=>rfl
 |b::a=>by
  simp only[B9,GP,List.flatten_cons,AFV a];simp[BP]
theorem ANs {a b s c f p:Nat}(d:b<=s+c*14)(e:s=p+f)(g:p<=a*8276)(h:f<=1048576)(i:c<=a+2):b<=8400*a+1100000:=by omega
theorem ALw {l:List Pr}(t:G6 l):(Jd l).length<=8400*l.length+1100000:=by
 have c:=AFf (aU l (NE l)) (Nq t.eM);have d:((aU l (NE l)).map List.length).sum=(BP l).length+(Vj l (NE l)).length:=by have a:=AFV (KZ l);rw[AM6] at a;rw[<- a];simp only[aU,Bm,List.sum_append,B9,RW,GP,List.sum_nil,G0]
 have b:(aU l (NE l)).length<=l.length+2:=by
  have b:(aU l (NE l)).length=Bt l+1:=by simp[aU,I7]
  have e:Bt l<=l.length+1:=by unfold Bt;omega
  omega
 exact ANs c d (Lt t.ok) (X9 t.eM) b
def N7(a:Br):Nat:=((Ao a).names.map λb=>(a.T b).length).sum+(IP a).flatten.length
structure Es (F:bQ) (st:Db) (D:Br):Prop where
 ok:BJ F D
 names:(Ao D).names=st.ts.map (·.1)
 cm: ∀p∈st.ts,D.T p.1=p.2
 aW:(Ao D).aW=st.aW
 next:(Ao D).next<=st.next
 below: ∀p∈st.ts,p.1<st.next
 fr:st.fr=Em D
 gF: ∀n,st.az<=n->n<=99999999->(st.br=true->n≠st.az)->F (aD nl n)=none
 jD:st.br=true->F (aD nl st.az)=some (AX (aK ((D.L st.az).map (BV st.az))),bG)
 jC: ∀n,st.aL<=n->n<=99999999->F (aD nn n)=none
 eN:1<=st.aW/\st.aW<=st.az
 aL:1<=st.aL
 clean: ∀n,F (aY n)≠none->n∈st.ts.map (·.1)
structure Sv (st:Db) (D:Br) (aJ c:Nat):Prop where
 az:st.az<=8*aJ+4
 aL:st.aL<=8*aJ+4
 next:st.next<=8*aJ+4
 cp:st.ts.length<=aJ
 bY:N7 D<=c
 aR:D.aR<=8*aJ+6
 aX:D.aX<=8*aJ+6
structure ji (F:bQ) (D:Br) (aJ c:Nat):Prop where
 aR:D.aR<=8*aJ+8
 aX:D.aX<=8*aJ+8
 next:(Ao D).next<=8*aJ+8
 aW:(Ao D).aW<=8*aJ+8
 cp:(Ao D).names.length<=aJ
 bY:N7 D<=c
 mX: ∀n,F (aY n)≠none->n<8*aJ+8
def Rec(b:bQ)(aJ c:Nat)(d:List Pr):Prop:= ∃a,BJ b a/\ji b a aJ c/\cC a=d
def kC(a:bQ)(aJ c:Nat)(b:List Pr):Prop:= ∀G,Mc a G->Rec G aJ c b
theorem Sv.mono {st:Db}{a:Br}{aJ b c d:Nat}(l:Sv st a aJ c)(e:aJ<=b)(f:c<=d):Sv st a b d:=
 ⟨by have:=l.az;omega,by have:=l.aL;omega,by have:=l.next;omega,by have:=l.cp;omega,by have:=l.bY;omega,by have:=l.aR;omega,by have:=l.aX;omega⟩
theorem ji.mono {a:bQ}{b:Br}{aJ d c e:Nat}(l:ji a b aJ c)(h:aJ<=d)(i:c<=e):ji a b d e:=
 ⟨by have:=l.aR;omega,by have:=l.aX;omega,by have:=l.next;omega,by have:=l.aW;omega,by have:=l.cp;omega,by have:=l.bY;omega,λf g=>by have:=l.mX f g;omega⟩
theorem Rec.mono {a:bQ}{aJ b c d:Nat}{e:List Pr}(f:Rec a aJ c e)(g:aJ<=b)(h:c<=d):Rec a b d e:=by obtain⟨i,j,k,l⟩:=f;exact⟨i,j,k.mono g h,l⟩
theorem Mc.some {a G:bQ}(c:Mc a G){x:A2P}(b:G x≠none):a x≠none:=λd=>b (by
 have:=c x;rw[d] at this;exact this)
theorem Es.iD {b:bQ}{st:Db}{a:Br}(L:Es b st a):(Ao a).names.length=st.ts.length:=by rw[L.names];simp
theorem Es.aG {b:bQ}{st:Db}{a:Br}(L:Es b st a):(Ao a).names.map a.T=G.aG st:=by rw[L.names,AT];exact CD λp c=>L.cm p c
theorem Es.map {b:bQ}{st:Db}{a:Br}(L:Es b st a):cC a=Cm st:=by unfold cC Cm Ls;rw[L.aG,<-L.fr]
theorem Es.lB {b:bQ}{st:Db}{a:Br}(L:Es b st a):gZ (Ao a):=zi L.ok
theorem Es.nd {a:bQ}{st:Db}{b:Br}(L:Es a st b):(st.ts.map (·.1)).Nodup:=by rw[<- L.names];exact L.lB.nd
theorem Es.jG {d F':bQ}{st:Db}{a:Br}{aJ c:Nat}(L:Es d st a)(l:Sv st a aJ c)(e: ∀b,F' (aY b)≠none->b<8*aJ+8):ji F' a aJ c:=by have:=L.next;have:=l.next;have:=L.eN;have:=l.az;exact⟨by have:=l.aR;omega,by have:=l.aX;omega,by omega,by rw[L.aW];omega,by rw[L.iD];exact l.cp,l.bY,e⟩
theorem Es.fB {a:bQ}{st:Db}{b:Br}{aJ c:Nat}(L:Es a st b)(l:Sv st b aJ c){n:Nat}(d:a (aY n)≠none):n<st.next:=by obtain⟨p,e,rfl⟩:=List.mem_map.1 (L.clean n d);exact L.below p e
theorem Es.iW {a:bQ}{st:Db}{b:Br}{aJ c:Nat}(L:Es a st b)(l:Sv st b aJ c):a (aY st.next)=none:=by
 cases d:a (aY st.next) with
 |none=>rfl
 |some p=>exact absurd (L.fB l (n:=st.next) (by rw[d];simp)) (by omega)
theorem Es.p7 {b:bQ}{st:Db}{a:Br}{aJ c:Nat}(L:Es b st a)(l:Sv st a aJ c):kC b aJ c (Cm st):=λG d=>by
 refine⟨a,L.ok.dQ d,L.jG l λf e=>?_,L.map⟩;have g:=L.fB l (d.some e);have:=l.next;omega
theorem Es.jE {e F':bQ}{st:Db}{b:Br}{aJ c:Nat}(L:Es e st b)(l:Sv st b aJ c)(h: ∀x,(∀ a,a∉st.ts.map (·.1)->x≠aY a)->F' x=e x)(i: ∀a,F' (aY a)≠none->a<8*aJ+8):BJ F' b/\kC F' aJ c (Cm st):=by
 have f:BJ F' b:=L.ok.fX λx j=>h x λa d=>j a (by rw[L.names];exact d)
 exact⟨f,λG g=>⟨b,f.dQ g,L.jG l λa d=>i a (g.some d),L.map⟩⟩
theorem ALG {a b:Br}{f:Nat}(d:b.L=a.L)(e:b.aR=a.aR)(g:(Ao b).aW=f):IP b=(List.range a.aR).flatMap λc=>if c<f then [] else a.L c:=by unfold IP;rw[d,e,g]
theorem AFS {a b:Br}(c:b.L=a.L)(d:b.aR=a.aR)(e:(Ao b).aW=(Ao a).aW):IP b=IP a:=by rw[ALG c d e];rfl
theorem ANO {c a:Br}{f:Nat}(d:a.L=c.L)(e:a.aR=c.aR)(g:(Ao a).aW=f)(h: ∀b,f<=b->c.L b= []):IP a= []:=by
 rw[ALG d e g,List.flatMap_eq_nil_iff];intro b _;split
 ·rfl
 ·exact h b (by omega)
theorem AHf {a b:Br}(d:b.L=a.L)(e:b.aR=a.aR)(c:Ao b=Ao a)(f:b.T=a.T):cC b=cC a/\N7 b=N7 a:=by have g:=AFS d e (congrArg Nt.aW c);unfold cC Em N7;rw[g,c,f];exact⟨rfl,rfl⟩
structure Bw (B:cI) (g h:aa) (q:Hp) (k:Nat->Nat) (st:Db) (m:Bx) (D:Br) (aJ c:Nat):Prop where
 mem:bN g h q k st m
 up:m.down=false
 eZ:Es (ff m) st D
 lim:Sv st D aJ c
 wt:bj m.files<=B.W0+aJ*B.K
 hc:c<=B.C
theorem Bw.aJ {b:cI}{g d:aa}{e:Hp}{f:Nat->Nat}{st:Db}{m:Bx}{h:Br}{aJ i c:Nat}(a:Bw b g d e f st m h aJ c)(j:aJ<=i):Bw b g d e f st m h i c:=
 ⟨a.mem,a.up,a.eZ,a.lim.mono j (A0 _),AE a.wt (Lk (AN _ j) _),a.hc⟩
theorem AOd(l:List (List Pr)):M.total l=(l.map List.length).sum:=rfl
theorem Es.cp {b:bQ}{st:Db}{a:Br}(L:Es b st a):N7 a=M.total (G.aG st)+(IP a).flatten.length:=by unfold N7;rw[<- L.aG,AOd,AT];rfl
theorem AMa(a:Br):(Em a).length<=(IP a).flatten.length:=by have:=M.Qs (l:=(IP a).flatten) (t:= []);unfold Em;simpa using this
theorem Es.dm {b:bQ}{st:Db}{a:Br}{aJ c:Nat}(L:Es b st a)(l:Sv st a aJ c):st.fr.length+M.total (G.aG st)<=c:=by have d:=L.cp;have e:=AMa a;have f:=l.bY;rw[L.fr];omega
theorem Es.jI {b:bQ}{st:Db}{a:Br}{aJ c:Nat}(L:Es b st a)(l:Sv st a aJ c):(Ag (st.fr::G.aG st)).length<=c:=by have d:=M.TU (st.fr::G.aG st);rw[M.AJu] at d;have:=L.dm l;omega
theorem Es.fL {b:bQ}{st:Db}{a:Br}{aJ c:Nat}(L:Es b st a)(l:Sv st a aJ c):(GR (G.aG st)).length<=M.total (G.aG st):=by have d:=M.TU (G.aG st);have e:=rI (Ag (G.aG st));unfold GR;omega
structure oJ (B:cI) (h h':aa) (q:Hp) (k:Nat->Nat) (m m':Bx) (aJ:Nat):Prop where
 fuel:m.fuel≠ -1
 dn:rN h' q.d
 box: ∃S',Cu h' q.b S' m'/\ ∀c,S' c->k c≠0\/h.size<=c
 down:m'.down=true
 mod:Mod (λc=>k c≠0) h h'
 fw: ∀y,¬di y->ff m' y=ff m y
 wt:bj m'.files<=B.W0+aJ*B.K
section
variable {A : ar} {B : cI} {g h : aa} {q : Hp} {k : Nat -> Nat} {st : Db} {m : Bx} {D : Br} {aJ c : Nat} {R : A2O}
theorem JW {f:aa}{e:Nat->Prop}{i:Bx}(a:bN g h q k st m)(o:Cu f q.b e i)(j:Mod (λc=>q.Sb c\/c=q.lg\/c=q.nt) h f)(l: ∀c,e c->q.Sb c\/h.size<=c)
  (p: ∀d,rN d q.d->Cu d q.b e i->Mod (λc=>k c≠0) h d->(∀ c,e c->k c≠0\/h.size<=c)->R (J6 J9 30) d):AA A P Cg #[Aq q.d,J6 J9 30] f R:=by
 have u:=a.ia;have r:f[q.d]? =some (J2 (eB q st false) FH (0,0)):=j.ai a.cell (by
  rintro(h|h|h)
  ·exact a.mW h
  ·exact a.dl h
  ·exact a.dn h)
 have nd: ¬e q.d:=λb=>by
  rcases l _ b with h|h
  ·exact a.mW h
  ·omega
 refine ARf r λd s n v=>p d s (o.mod n λc b t=>nd (t▸b)) ((j.ak λc _ b=>?_).trans (n.ak λc _ b=>?_)) λc b=>(l c b).imp (λh=>by rw[a.kb c h];decide) id
 ·rcases b with b|rfl|rfl
  ·rw[a.kb c b];decide
  ·rw[a.kl];decide
  ·rw[a.kn];decide
 ·rw[b,a.kd];decide
theorem ASw(a:Nat):di (aY a):= .inr (.inr ⟨a,rfl⟩)
theorem ASm(a:Nat):di (aD nn a):= .inr (.inl ⟨a,rfl⟩)
theorem ATB(a:Nat):di (aD nl a):= .inl ⟨a,rfl⟩
theorem Qr {a:A2P}(h: ¬di a)(b:Nat):a≠aY b:=λd=>h (d▸ASw b)
theorem l9 {a:A2P}(h: ¬di a)(b:Nat):a≠aD nn b:=λd=>h (d▸ASm b)
theorem oK {a:A2P}(h: ¬di a)(b:Nat):a≠aD nl b:=λd=>h (d▸ATB b)
theorem APN(d:bN g h q k st m)(L:Es (ff m) st D)(l:Sv st D aJ c)(e:c<=B.C)(a:GR (aG st)≠ []):G6 (GR (aG st)):=by have f:=L.fL l;have i:=L.dm l;have j:=B.hC;exact⟨a,λx b=>oL (oM.2 x b),oM.1,by omega⟩
theorem cI.step(B:cI){a w' aJ d:Nat}(h:a<=B.W0+aJ*B.K)(e:w'<=a+d)(hd:d<=20000*B.C+10000000):w'<=B.W0+(aJ+1)*B.K:=by
 have b:(aJ+1)*B.K=aJ*B.K+B.K:=Nat.succ_mul _ _;have f:B.K=20000*B.C+10000000:=rfl;rw[b];generalize aJ*B.K=x at*
 omega
theorem ASZ {t b a c:Nat}(d:t<=8400*c+1100000)(e:b<=a)(f:a<=8000000000000)(i:c<=100000):b+t+1<=8796093022208:=by omega
theorem AR7 {a b d x:Nat}(e:b<=a+x)(f:d<=b+700000):d<=a+(x+700000):=by grind
theorem AOp(a:Nat):8400*a+1100001+700000<=20000*a+10000000:=by omega
theorem cI.step2(B:cI){a b d aJ:Nat}(h:a<=B.W0+aJ*B.K)(e:b<=a+(8400*B.C+1100001))(f:d<=b+700000):d<=B.W0+(aJ+1)*B.K:=
 B.step h (AR7 e f) (AOp B.C)
theorem AJ9(br:bZ g)(S:Bw B g h q k st m D aJ c)(hA:aJ+1<=B.A)
  (bs: ∀h' ab,oJ B h h' q k m ab (aJ+1)->kC (ff ab) (aJ+1) c (Cm st)->R (J6 J9 30) h')
  (b4: ∀h' aH b5 bI ab r,aH.d=q.d->aH.b=q.b->Bw B g h' aH b5 bI ab r (aJ+1) c->JP m ab->bI.fr=st.fr->Cm bI=Cm st->bI.ts.length<=1->(∀ E,¬di E->ff ab E=ff m E)->Mod (λc=>k c≠0) h h'->(∀ c,b5 c≠0->k c≠0\/h.size<=c)->R (J6 J9 0) h'):
  AA A P JZ #[Aq q.d] h R:=by
 have cO:=S;obtain⟨u,hd,L,l,a7,b⟩:=S;have eu:=B.hA;have ev:=B.hC;have ew:=B.wt (a:=aJ) (by omega);refine Yw ?_;unfold Qf;refine aj.mk λK cP=>Yy u (cP _ _ (ag.no rfl ?_))
 refine aE (AZ.mk (s:=q.tp) (AB u.cell rfl) ?_);have ex:=u.dd;have cR:=u.cm.len;have ey:=l.cp;refine ag.intro (λI=>?_) (λI=>?_)
 ·have f:st.ts.length<=1:=by grind
  exact b4 h q k st m D rfl rfl (cO.aJ (by omega)) (JP.refl hd) rfl rfl f (λ_ _=>rfl) Mod.refl (λc b=> .inl b)
 refine aE (AZ.mk (s:=q.tp) (AB u.cell rfl) ?_);refine Loop.rule (λaI x F=> ∃(i:Nat) (sl:Sl),x=(sl,(i:Int),())/\aI=q.ps.length-i/\i<=q.ps.length/\Ext h F/\(∀ c,sl.ai=some c->h.size<=c)/\TF A F sl ((aG st).take i)) ?_ ⟨0,⟨none,0,0⟩,rfl,rfl,by omega,Mod.refl,λc b=>by simp[Sl.ai] at b,TF.nil⟩;rintro ez aI _ F ⟨i,sl,rfl,rfl,a8,aK,bt,a9⟩ b6;dsimp only;refine ag.intro (λI=>?_) (λI=>?_)
 ·have V:i<q.ps.length:=by rw[<- cR];simpa using I
  have cS:i<st.ts.length:=by omega
  have b7:q.ps[i]? =some q.ps[i]:=A2 V;have aM:st.ts[i]? =some st.ts[i]:=A2 cS;have cT:(aG st)[i]? =some st.ts[i].2:=by unfold aG;rw[C2,aM];rfl
  have b8:=u.on aK;refine b8.cm.view.idx b7 λa _ c=>AY.mk (Cells.pt c) ?_
  obtain⟨bu,eA,cU,cV,cW,b9⟩:=b8.cO i _ _ b7 aM;refine ze cU cV b9.eM λeC bv bw N eD=>⟨_,rfl,Yx.mk bw.one.1 ?_⟩
  rw[M.se] at bw;have v:=b9.many;refine TF.add (a9.ext N) bw (λc b e=>?_) (by omega) (by simp[aG];omega) λcX h' aH ab cY=>?_
  ·obtain⟨eF,cZ,_,_⟩:=a9;have ac:=cZ.lt e;have eG:=bt c e;rcases b with f|f|f
   ·have:=cW c f.1 f.2;have:=(u.own c (by rw[this];decide)).2;omega
   ·omega
   ·omega
  ·rw[Aa (by omega)];refine b6 (q.ps.length-(i+1)) _ _ (by omega) ⟨i+1,cX,rfl,rfl,V,?_,λc b=>?_,?_⟩
   ·exact(aK.trans N).then (ab.ak λc _ b=> .inr (bt c b))
   ·rcases cY c b with f|f
    ·exact bt c f
    ·have:=aK.size;have:=N.size;omega
   ·rw[AD,cT];exact aH
 have V:i=q.ps.length:=by
  have: ¬i<q.tp.len:=by simpa using I
  omega
 subst V;rw[AG (by simp[aG];omega)] at a9;clear b6;have c0:=bC.tail u.fW;refine M.si a9.ly (λc h=>h.elim) (by simp[aG];omega) c0 λeH ca c1 cb _=>⟨_,rfl,?_⟩
 refine M.sj (.inr c1) λeI ba c3 cc _=>⟨_,rfl,?_⟩
 have eJ:=L.fL l;have eK:=L.dm l;have c4:(BH (Ag (aG st))).length<=1099511627776:=by have:(BH (Ag (aG st))).length=(GR (aG st)).length:=rfl;omega
 refine M.Wd c3 (λ_ _=>rfl) c4 λbx aN aw c5 c6=>⟨bx,rfl,?_⟩
 have bz:Ext h aN:=((aK.trans cb).trans cc).trans c6;have aw:Own BQ AR aN bx (GR (aG st)):=aw;have bb:=u.on bz;have eL:=bz.size;refine aE (AZ.mk (s:=q.np) (AB bb.cell rfl) ?_);refine aE (af.dt bb.cell (by simp) λeM c7 c8 eN=>?_);refine aE (af.dt c7 (by simp) λX bA c9 eO=>?_);have bA:X[q.d]? =some (J2 (eB {q with tp:=⟨none,0,0⟩,np:=⟨none,0,0⟩} {st with next:=st.next,aW:=st.aW} false) FH (0,0)):=by simpa using bA
 have aO:Mod (· =q.d) aN X:=c8.trans c9;have am:=bb.eX (tp:=⟨none,0,0⟩) (np:=⟨none,0,0⟩) (ps:= []) (ts:= []) (next:=st.next) (aW:=st.aW) (S:=λ_=>False) bA (aO.ak λc _ b=> .inl b) Own.nil Own.nil rfl
  (λc b=>by simp[Sl.ai] at b) (λc b=>by simp[Sl.ai] at b) (λc h=>h.elim) (λi t p f=>by simp at f)
 have da: ∀c,LY k aN.size ⟨none,0,0⟩ ⟨none,0,0⟩ (λ_=>False) c=k c:=λc=>by
  unfold LY;split
  ·rfl
  ·rename_i f;simp[Sl.ai];omega
 have db:LY k aN.size ⟨none,0,0⟩ ⟨none,0,0⟩ (λ_=>False)=k:=funext da;rw[db] at am;have ax:Mod (λc=>k c≠0) h X:=(Ext.mod bz).trans (aO.ak λc _ b=>by rw[b,u.kd];decide);have dc:=bb.names.view;have cd:View IJ X q.np (eE st):=dc.mod aO λc b e=>by have:=u.kx c b;rw[e,u.kd] at this;cases this
 have ce:=L.iW l;have eP:=l.next;have eQ:=l.aL;have bc:st.next∉st.ts.map (·.1):=λv=>by
  obtain⟨p,W,e⟩:=List.mem_map.1 v;have:=L.below p W;omega
 refine aj.mk λdd de=>?_
 have fin: ∀(F:aa) (an:Hp) (bd:Nat->Nat) (y:Bx) (z:Nat) (w:List (Nat×List Pr)),bN g F an bd {st with ts:=w,next:=z} y->an.d=q.d->an.b=q.b->JP m y->
   (∀ x,x≠aY st.next->ff y x=ff m x)->((w= []/\z=st.next/\GR (aG st)= []/\ff y (aY st.next)=none)\/(w= [(st.next,GR (aG st))]/\z=st.next+1/\ff y (aY st.next)=some (AX (Jd (GR (aG st))),bG)/\G6 (GR (aG st))))->
   bj y.files<=bj m.files+(8400*B.C+1100001)->Mod (λc=>k c≠0) h F->(∀ c,bd c≠0->k c≠0\/h.size<=c)->View IJ F q.np (eE st)->(∀ c,q.np.ai=some c->bd c=7)->dd () F:=by
  intro F an bd y z w ap be ay bB Y O cf bf aP df ba;refine de _ _ ?_;have dg: ∀x,(∀ n,x≠aY n)->ff y x=ff m x:=λx J=>Y x (J _)
  have dh:BJ (ff y) D:=L.ok.fX λx J=>Y x (J st.next (by rw[L.names];exact bc))
  have dj:gZ (cQ {st with ts:=w,next:=z}):=by
   have eR:=L.eN;have eS:=l.az;rcases O with⟨rfl,rfl,_,_⟩|⟨rfl,rfl,_,_⟩
   ·exact⟨by show st.next<=_;omega,by show 1<=st.aW/\st.aW<=_;omega,by simp[cQ],by simp[cQ],by simp[cQ]⟩
   ·exact⟨by show st.next+1<=_;omega,by show 1<=st.aW/\st.aW<=_;omega,by simp[cQ],by simp[cQ],by simp[cQ]⟩
  have dk: ∀n∈(cQ {st with ts:=w,next:=z}).names,ff y (aY n)=some (AX (Jd ((λ_=>GR (aG st)) n)),bG)/\G6 ((λ_=>GR (aG st)) n):=λn o=>by
   rcases O with⟨rfl,rfl,_,_⟩|⟨rfl,rfl,f,H⟩
   ·simp[cQ] at o
   ·have o:n=st.next:=by simpa [cQ] using o
    subst o;exact⟨f,H⟩
  have cg: ∀r:Br,r.L=D.L->r.aR=D.aR->Ao r=cQ {st with ts:=w,next:=z}->r.T=(λ_=>GR (aG st))->cC r=Cm st/\N7 r<=c/\Em r=st.fr:=λr bD bE ad bg=>by
   have ay:=AFS bD bE (by rw[ad];exact L.aW.symm);have ch:Em r=st.fr:=by unfold Em;rw[ay];exact L.fr.symm
   have eT:=L.cp;have eU:=l.bY;refine⟨?_,?_,ch⟩
   ·unfold cC;rw[ch,ad,bg];rcases O with⟨rfl,rfl,f,_⟩|⟨rfl,rfl,_,_⟩
    ·exact ABq u.fW f
    ·exact WF u.fW
   ·unfold N7;rw[ay,ad,bg];rcases O with⟨rfl,rfl,f,_⟩|⟨rfl,rfl,_,_⟩
    ·show 0+(IP D).flatten.length<=c;omega
    ·show((GR (aG st)).length+0)+(IP D).flatten.length<=c;omega
  have ci: ∀ {aq:bQ},(∀ n,aq (aY n)≠none->ff y (aY n)≠none)-> ∀n,aq (aY n)≠none->n<8*(aJ+1)+8:=λbF n o=>by
   by_cases e:n=st.next
   ·omega
   ·have f:=bF n o;rw[Y _ λaQ=>e (JR aQ)] at f;have:=L.fB l f;omega
  have cj: ∀(r:Br) (aq:bQ),BJ aq r->r.L=D.L->r.aR=D.aR->r.aX<=max D.aX (st.aL+1)->Ao r=cQ {st with ts:=w,next:=z}->r.T=(λ_=>GR (aG st))->(∀ n,aq (aY n)≠none->ff y (aY n)≠none)->Rec aq (aJ+1) c (Cm st):=λr aq f bD bE o ad bg bF=>by
   obtain⟨aR,aS,_⟩:=cg r bD bE ad bg;have:=l.aR;have:=l.aX;have:=L.eN;have:=l.az;refine⟨r,f,⟨by omega,by omega,?_,?_,?_,aS,ci bF⟩,aR⟩
   ·rw[ad];show z<=_;omega
   ·rw[ad];show st.aW<=_;omega
   ·rw[ad];rcases O with⟨rfl,_⟩|⟨rfl,_⟩<;>simp[cQ]
  rw[<- be];have dl:bj y.files+1000000<=8000000000000:=by have f:=B.wt (a:=aJ+1) hA;have H:=B.step (d:=8400*B.C+1100001+1000000) a7 (w':=bj y.files+1000000) (by omega) (by omega);omega
  refine zU (T:=λ_=>GR (aG st)) br ap bB.up dh dj dk ⟨L.aL,by show st.aL+2<=_;omega⟩ (λn aT aU=>by rw[dg _ λk=>QY n k];exact L.jC n aT aU) dl
   (λbH aV bJ ae dm dn bh dp dq Z bK=>⟨_,rfl,ag.yes rfl ?_⟩) λaV bJ ck ae D3 dr bL cl ar bM bO bP cm Z ds bK bh cn=>⟨_,rfl,ag.no rfl ?_⟩
  ·refine JW ap dm (bh.ak λc _ b=>b.imp id .inr) dp λco dt du dv dw=>⟨_,rfl,?_⟩
   have dx:Mod (λc=>k c≠0) h co:=bf.then (dv.ak λc _ b=>aP c b);have bi:bj ae.files<=B.W0+(aJ+1)*B.K:=B.step2 a7 cf bK;refine bs co ae ⟨λF=>bH (bB.calm F),by rw[<- be];exact dt,⟨bJ,by rw[<- ay];exact du,λc b=>?_⟩,dn,dx,λE Q=>?_,bi⟩ λG aX=>?_
   ·rcases dw c b with f|f
    ·exact aP c f
    ·exact .inr (by have:=bf.size;omega)
   ·rw[Z E λn=>l9 Q n,Y E (Qr Q _)]
   ·obtain⟨r,cp,nx⟩:=dq G aX;have cq: ∀n,G (aY n)≠none->ff y (aY n)≠none:=λn o=>by
     have:=aX.some o;rwa [Z _ λj e=>QY j n e.symm] at this
    rcases nx.last with⟨ah,bk⟩|⟨ah,bk⟩
    ·obtain⟨aR,aS⟩:=AHf nx.L nx.aR ah bk;have:=l.aR;have:=l.aX;have:=L.eN;have:=l.az;have:=L.next;have dy:=nx.aX;have bR:({st with ts:=w,next:=z}:Db).aL=st.aL:=rfl;rw[bR] at dy;exact⟨r,cp,⟨by rw[nx.aR];omega,by omega,by rw[ah];omega,by rw[ah,L.aW];omega,by rw[ah,L.iD];omega,by rw[aS];exact l.bY,ci cq⟩,by rw[aR];exact L.map⟩
    ·exact cj r G cp nx.L nx.aR nx.aX ah bk cq
  ·
   have bi: ∀ {cr},cr<=bj ae.files->cr<=B.W0+(aJ+1)*B.K:=λdz=>B.step2 a7 cf (AE dz bK)
   have dA:View IJ aV q.np (eE st):=df.mod bh λc b e=>by
    have f:=ba c b;rcases e with e|e
    ·rw[ap.kb c e] at f;cases f
    ·rw[e,ap.kn] at f;cases f
   have dB: ∀c,q.np.ai=some c->c<F.size:=λc b=>(ap.own c (by rw[ba c b];decide)).2
   have eV:q.np.len=st.ts.length:=by rw[u.names.len];simp
   have dC:Mod (λc=>k c≠0) h aV:=bf.then (bh.ak λc _ b=>by
    rcases b with b|b
    ·exact aP c (by rw[ap.kb c b];decide)
    ·exact aP c (by rw[b,ap.kn];decide))
   have dD: ∀c,ck c≠0->k c≠0\/h.size<=c:=λc b=>by
    by_cases ac:c<F.size
    ·rw[cn c ac] at b;exact aP c b
    ·exact .inr (by have:=bf.size;omega)
   have dE: ∀n,(∃ p∈st.ts,p.1=n)->(ff ae (aY n)).isSome=true/\n≠st.next:=λn o=>by
    obtain⟨p,W,rfl⟩:=o;have ac:=L.below p W;have ai:p.1≠st.next:=by omega
    have f:=(L.ok.cO p.1 (by rw[L.names];exact List.mem_map.2 ⟨p,W,rfl⟩)).1;rw[Z _ λj e=>QY j _ e.symm,Y _ λe=>ai (JR e),f];exact⟨rfl,ai⟩
   have dF:=L.nd;obtain⟨aR,aS,dG⟩:=cg D3 bO bP ar bM;have eW:bL.up=bL.up:=rfl;refine Loop.rule (λaI x J=> ∃(i:Nat) (bm:Nat->Prop) (aZ:Nat->Nat) (C:Bx),x=((i:Int),())/\aI=st.ts.length-i/\i<=st.ts.length/\bN g J {an with Sb:=bm} aZ {st with ts:=w,next:=z,aL:=st.aL+1} C/\JP m C/\bj C.files<=bj ae.files/\
     (∀ x,(∀ n∈(st.ts.map (·.1)).take i,x≠aY n)->ff C x=ff ae x)/\(∀ n∈(st.ts.map (·.1)).take i,ff C (aY n)=none)/\Mod (λc=>k c≠0) h J/\(∀ c,aZ c≠0->k c≠0\/h.size<=c)/\View IJ J q.np (eE st)/\(∀ c,q.np.ai=some c->aZ c=7)) ?_
    ⟨0,bJ,ck,ae,rfl,rfl,by omega,dr,bB.trans bL,A0 _,λx _=>rfl,by simp,dC,dD,dA,λc b=>by rw[cn c (dB c b)];exact ba c b⟩
   rintro eX aI _ J ⟨i,bm,aZ,C,rfl,rfl,a8,ak,a0,bS,U,bn,a1,a2,cs,bT⟩ dH;dsimp only;refine ag.intro (λI=>?_) (λI=>?_)
   ·have V:i<st.ts.length:=by have:=of_decide_eq_true I;omega
    have aM:st.ts[i]? =some st.ts[i]:=A2 V;have ct:(st.ts.map (·.1))[i]? =some st.ts[i].1:=by rw[C2,aM];rfl
    have cu:st.ts[i]∈st.ts:=AW V;have eY:=L.below _ cu;refine cs.idx (i:=i) (x:=(st.ts[i].1:Int)) (by rw[eE,C2,aM];rfl) λa _ dI=>AC.mk dI.int ?_
    refine aE (AY.mk (AO ak.cell rfl) ?_);refine QU (ak.ib br) (by omega) λbv N=>⟨_,rfl,⟨AO (ak.on N).cell rfl,?_⟩⟩
    have bU:=ak.on N;refine XE bU.box λca cv bV bo cw=>⟨_,rfl,?_⟩
    have dJ:st.ts[i].1∉(st.ts.map (·.1)).take i:=λv=>by
     obtain⟨j,a3,e⟩:=Ds v;have eZ:j<i:=by have:=a3;simp at this;omega
     rw[List.getElem_take] at e;have f:=(List.getElem?_eq_some_iff.1 ct);have H:=(LI (h₀:=by simp;omega) (h₁:=f.1) dF).1 (e.trans f.2.symm);omega
    have dK:(ff C (aY st.ts[i].1)).isSome=true:=by rw[U _ λn o e=>dJ (by rw[JR e];exact o)];exact(dE _ ⟨_,cu,rfl⟩).1
    have bW:(st.ts.map (·.1)).take (i+1)=(st.ts.map (·.1)).take i++ [st.ts[i].1]:=by rw[AD,ct];rfl
    have dL:Mod (λc=>k c≠0) h ca:=a1.then (((Ext.mod N).trans bo).ak λc _ b=>a2 c (by rw[ak.kb c b];decide));rcases RB (k:=aY st.ts[i].1) a0.up dK with⟨dM,bX⟩|⟨bX,dN,cx⟩
    ·rw[bX] at bV ⊢;refine ag.yes rfl ?_;refine JW (q:= {an with Sb:=bm}) bU bV (bo.ak λc _ b=> .inl b) (λc b=> .inl (cw c b)) λcy dO dP dQ dR=>⟨_,rfl,?_⟩
     have dS:Mod (λc=>k c≠0) h cy:=(a1.trans (Ext.mod N)).then (dQ.ak λc _ b=>a2 c b);have dT: ∀n,ff C (aY n)≠none->ff y (aY n)≠none:=λn o=>by
      by_cases v:n∈(st.ts.map (·.1)).take i
      ·exact absurd (bn n v) o
      ·rw[U _ λj a3 e=>v (by rw[JR e];exact a3),Z _ λj e=>QY j n e.symm] at o;exact o
     have bY:BJ (ff C) D3:=cl.fX λx az=>U x λn o e=>az n (by
      rw[ar];intro v;rcases O with⟨rfl,_⟩|⟨rfl,_⟩
      ·simp[cQ] at v
      ·have:n=st.next:=by simpa [cQ] using v
       have cz:n∈st.ts.map (·.1):=DM o;rw[this] at cz;exact bc cz) e
     refine bs cy (NQ C) ⟨(λF=>by have:=a0.calm F;rw[dM] at this;cases this),by rw[<- be];exact dO,⟨cv,by rw[<- ay];exact dP,λc b=>?_⟩,rfl,dS,λE Q=>?_,bi bS⟩ λG aX=>?_
     ·rcases dR c b with f|f
      ·exact a2 c f
      ·exact .inr (by have:=(a1.trans (Ext.mod N)).size;omega)
     ·rw[oR,U E λn _=>Qr Q n,Z E λn=>l9 Q n,Y E (Qr Q _)]
     ·exact cj D3 G (bY.dQ aX) bO bP cm ar bM λn o=>dT n (aX.some o)
    ·rw[bX];refine ag.no rfl ?_;have dU:=bU.boxed (j:=2) (bI:= {st with ts:=w,next:=z,aL:=st.aL+1}) bV (bo.ak λc _ b=> .inl b) (λc b=> .inl (cw c b)) rfl rfl rfl rfl (.inl ⟨by decide,rfl,rfl⟩) (.inl ⟨by decide,rfl⟩);have dV:=Zb (m:=C) (aY st.ts[i].1);rw[Aa (by omega)];refine dH (st.ts.length-(i+1)) _ _ (by omega) ⟨i+1,cv,_,_,rfl,rfl,V,dU,a0.trans dN,AE dV bS,λx az=>?_,λn o=>?_,dL,λc b=>?_,?_,λc b=>?_⟩
     ·rw[cx,if_neg (az _ (by rw[bW];simp))];exact U x λn o=>az n (by rw[bW];exact List.mem_append.2 (.inl o))
     ·rw[cx];split
      ·rfl
      ·rename_i ai;rw[bW] at o;rcases List.mem_append.1 o with o|o
       ·exact bn n o
       ·exact absurd (by rw[List.mem_singleton.1 o]) ai
     ·by_cases ac:c<bv.size
      ·rw[GK ac] at b;exact a2 c b
      ·exact .inr (by have:=(a1.trans (Ext.mod N)).size;omega)
     ·exact(cs.ext N).mod bo λc b e=>by
       have f:=bT c b;rw[ak.kb c e] at f;cases f
     ·have ac:c<bv.size:=by have:=(ak.own c (by rw[bT c b];decide)).2;have:=N.size;omega
      rw[GK ac];exact bT c b
   ·have V:i=st.ts.length:=by have: ¬(i:Int)<((q.np.len:Nat):Int):=of_decide_eq_false I;omega
    subst V;rw[AG (by simp)] at U bn;have dW: ∀n,ff C (aY n)≠none->n=st.next/\ff y (aY n)≠none:=λn o=>by
     by_cases v:n∈st.ts.map (·.1)
     ·exact absurd (bn n v) o
     ·rw[U _ λj a3 e=>v (by rw[JR e];exact a3),Z _ λj e=>QY j n e.symm] at o;refine⟨?_,o⟩;by_cases e:n=st.next
      ·exact e
      ·rw[Y _ λaQ=>e (JR aQ)] at o;exact absurd (L.clean n o) v
    have cB: ∀n,ff C (aD nl n)=ff m (aD nl n):=λn=>by
     rw[U _ λj _=>Lu n j,Z _ λj=>V9 n j,Y _ (Lu n _)]
    have bY:BJ (ff C) D3:=cl.fX λx az=>U x λn o e=>az n (by
     rw[ar];intro v;rcases O with⟨rfl,_⟩|⟨rfl,_⟩
     ·simp[cQ] at v
     ·have:n=st.next:=by simpa [cQ] using v
      rw[this] at o;exact bc o) e
    have dX: ∀p∈w,D3.T p.1=p.2:=λp W=>by
     rw[bM];rcases O with⟨rfl,_⟩|⟨rfl,_⟩
     ·cases W
     ·rw[List.mem_singleton.1 W]
    have dY: ∀p∈w,p.1<z:=λp W=>by
     rcases O with⟨rfl,_⟩|⟨rfl,rfl,_⟩
     ·cases W
     ·rw[List.mem_singleton.1 W];exact Hj _
    have dZ: ∀n,ff C (aY n)≠none->n∈w.map (·.1):=λn o=>by
     obtain⟨e,H⟩:=dW n o;rcases O with⟨rfl,_,_,aV⟩|⟨rfl,_⟩
     ·rw[e] at H;exact absurd aV H
     ·simp[e]
    have cD:Es (ff C) {st with ts:=w,next:=z,aL:=st.aL+1} D3:=
     ⟨bY,by rw[ar];rfl,dX,by rw[ar];rfl,by rw[ar];exact A0 _,dY,dG.symm,λn aT aU ai=>by rw[cB];exact L.gF n aT aU ai,λv=>by rw[cB,bO];exact L.jD v,
      λn aT aU=>by rw[U _ λj _=>QY n j];exact ds n aT aU,L.eN,by show 1<=st.aL+1;omega,dZ⟩
    have d0:Sv {st with ts:=w,next:=z,aL:=st.aL+1} D3 (aJ+1) c:=by
     have:=l.az;have:=l.aR;have:=l.aX;have bR:({st with ts:=w,next:=z}:Db).aL=st.aL:=rfl;rw[bR] at cm;refine⟨by show st.az<=_;omega,by show st.aL+1<=_;omega,?_,?_,aS,by rw[bP];omega,by omega⟩
     ·show z<=_;omega
     ·show w.length<=_;rcases O with⟨rfl,_⟩|⟨rfl,_⟩<;>simp
    refine b4 J {an with Sb:=bm} aZ _ C D3 be ay ⟨ak,a0.up,cD,d0,bi bS,b⟩ a0 rfl ?_ ?_ (λE Q=>?_) a1 a2
    ·rw[<- aR];exact cD.map.symm
    ·show w.length<=1;rcases O with⟨rfl,_⟩|⟨rfl,_⟩<;>simp
    ·rw[U E λn _=>Qr Q n,Z E λn=>l9 Q n,Y E (Qr Q _)]
 refine ag.intro (λI=>?_) (λI=>?_)
 ·have ai:GR (aG st)≠ []:=λe=>by
   have f:=of_decide_eq_true I;have H:=aw.len;rw[e] at H;simp at H;omega
  have bp:=APN (B:=B) u L l b ai;have e0:=ALw bp;refine aE (AC.mk (AB am.cell rfl) ?_);have d1:View BQ X bx (GR (aG st)):=aw.view.mod aO λc b e=>by have:=c5 c b;have:=u.ia;have:=(aK.trans cb).size;have:=cc.size;omega
  have e1:(Jd (GR (aG st))).length<=8400*B.C+1100000:=by omega
  refine zT (q:= {q with tp:=⟨none,0,0⟩,np:=⟨none,0,0⟩,ps:= []}) (n:=st.next) br am hd bp d1 (λc b=>by have:=aw.lt b;have:=aO.size;omega) (by omega) ce (by omega) (λbH au cE aA d2 d3 a4 d4 aC d5=>⟨_,_,rfl,ag.yes rfl ?_⟩) λau cE cF aA t bu a8 b0 d6 aC d5 cG e2 e3 cH a4 cI=>⟨_,_,rfl,ag.no rfl ?_⟩
  ·refine JW (q:= {q with tp:=⟨none,0,0⟩,np:=⟨none,0,0⟩,ps:= []}) am d2 (a4.ak λc _ b=> .inl b) d4 λav d7 d8 d9 ea=>⟨_,rfl,?_⟩
   have eb:BJ (ff aA) D/\kC (ff aA) (aJ+1) c (Cm st):=by
    refine L.jE (l.mono (BW _) (A0 _)) (λx J=>aC x (J _ bc)) λn o=>?_
    by_cases e:n=st.next
    ·omega
    ·rw[aC _ λaQ=>e (JR aQ)] at o;have:=L.fB l o;omega
   have ec:bj aA.files<=bj m.files+(8400*B.C+1100001):=by omega
   exact bs av aA ⟨bH,d7,⟨cE,d8,λc b=>(ea c b).imp id λh=>by have:=ax.size;omega⟩,d3,ax.then (d9.ak λc _ b=> .inl b),λE Q=>aC E (Qr Q _),B.step2 a7 ec (Iv _ _)⟩ eb.2
  ·refine ao.mk λav _ ed a5 e4=>?_
   have bq:=b0.on a5;refine aE (AC.mk (AB bq.cell rfl) (ao.mk λee _ ef a6 e5=>?_));have cJ:=bq.on a6;refine aE (af.dt cJ.cell (by simp) λe6 eg eh e7=>aE (af.dt eg (by simp) λe8 cK ei e9=>?_));refine aE (AC.mk (AB cK rfl) (aE (af.dt cK (by simp) λal cL ej fa=>?_)));have ek:J8 J9 (((st.next:Nat):Int)+(1:Int))=((st.next+1:Nat):Int):=Aa (by omega);have aF:Mod (· =q.d) ee al:=(eh.trans ei).trans ej;have el:al[au.size]? =some (J2 #[Aq t] BK (0,0)):=aF.ai (a6.ai ed λh=>h) (by have:=b0.ia;show ¬_=q.d;have e:(q.d:Nat)<au.size:=this;omega);have en:al[av.size]? =some (J2 #[J6 J9 (st.next:Int)] Bp (0,0)):=aF.ai ef (by have:=bq.ia;have e:(q.d:Nat)<av.size:=this;show ¬_=q.d;omega);have eo:Own fM BK al ⟨some ⟨au.size,0,none⟩,1,1⟩ [t]:=Own.lit (l:= [t]) el rfl (by simp[maxLen]);have on:Own IJ Bp al ⟨some ⟨av.size,0,none⟩,1,1⟩ (([(st.next,GR (aG st))]:List (Nat×List Pr)).map λp=>(p.1:Int)):=Own.lit (l:= [((st.next:Nat):Int)]) en rfl (by simp[maxLen]);have fb:=a4.size;have cM: ∀c,au.size<=c->cF c=0:=λc b=>cH c (by have:=cG.fB;omega)
   have ep:=cJ.eX (h':=al) (tp:=⟨some ⟨au.size,0,none⟩,1,1⟩) (np:=⟨some ⟨av.size,0,none⟩,1,1⟩) (ps:= [t]) (ts:= [(st.next,GR (aG st))]) (next:=st.next+1) (aW:=st.aW) (S:=λc=>bu<=c/\c<a8)
    (by rw[ek] at cL;simpa [eB] using cL) (aF.ak λc _ b=> .inl b) eo on rfl
    (λc b=> .inr (by
     have e:au.size=c:=by simpa [Sl.ai] using b
     subst e;have b1:=b0.ext.size;refine⟨cM _ (A0 _),b1,by simp[Sl.ai];omega,by omega⟩))
    (λc b=> .inr (by
     have e:av.size=c:=by simpa [Sl.ai] using b
     subst e;have b1:=bq.ext.size;refine⟨cM _ (by omega),b1,by simp[Sl.ai];omega,by omega⟩))
    (λc b=>⟨by have:=am.ext.size;omega,by omega⟩)
    (λi t' p f H=>by
     have eq:i=0:=by have:=(List.getElem?_eq_some_iff.1 f).1;simpa using this
     subst eq;simp only[Hv,BE] at f H;subst f H;refine .inr ⟨bu,a8,(cG.ext (a5.trans a6)).mod aF (λc b2 c2 e=>?_),by omega,λc b2 c2=>⟨⟨b2,c2⟩,cH c b2⟩,bp⟩;have:=am.ia;have bk:(q.d:Nat)<X.size:=this;omega)
   have er:Mod (λc=>k c≠0) h al:=by
    refine(ax.trans ((a4.ak λc _ b=>?_))).trans ((Ext.mod (a5.trans a6)).trans (aF.ak λc _ b=>?_))
    ·rw[u.kb c b];decide
    ·rw[b,u.kd];decide
   have b3: ∀c,q.np.ai=some c->c<X.size/\k c=7:=λc b=>⟨by have:=u.names.lt b;have:=ax.size;omega,u.kx c b⟩
   refine fin al _ _ aA (st.next+1) _ ep rfl rfl d6 (λx J=>by rw[aC,if_neg J]) (.inr ⟨rfl,rfl,by rw[aC,if_pos rfl],bp⟩) (by omega) er (λc b=>?_) ?_ λc b=>?_
   ·by_cases ac:c<h.size
    ·left;intro es;have cN:c<X.size:=by have:=ax.size;omega
     have ah:cF c=0:=by rw[cI c cN];exact es
     have fc:=cN;apply b;unfold LY;rw[if_neg (by simp[ah]),if_neg (by simp[Sl.ai];omega),if_neg (by simp[Sl.ai];have:=a5.size;omega),if_neg (by omega)]
    ·exact .inr (by omega)
   ·refine((cd.mod a4 λc b e=>?_).ext (a5.trans a6)).mod aF λc b e=>?_
    ·have:=(b3 c b).2;rw[u.kb c e] at this;cases this
    ·have:=(b3 c b).2;rw[e,u.kd] at this;cases this
   ·obtain⟨f,H⟩:=b3 c b;unfold LY;rw[cI c f,H];rfl
 ·have et:GR (aG st)= []:=by have f:=of_decide_eq_false I;have H:=aw.len;exact CC (by omega)
  refine fin X _ k m st.next [] am rfl rfl (JP.refl hd) (λx _=>rfl) (.inl ⟨rfl,rfl,et,ce⟩) (by omega) ax (λc b=> .inl b) cd λc b=>u.kx c b
end
end Go.Lf.G
