/-
 Plain law: a box of files (chapter 3).
-/
import Derived.Test.YtgpmoonnachoaaaGreatDoorLfKToGA
import Derived.Test.YtgpmoonnachoaaaGreatDoorLfG1
import Derived.Shelf.Strings.Repeat
import Derived.Shelf.Small.Wraps
import Derived.Shelf.Pu.ParseUintPublic10
import Derived.Shelf.Strconv.Itoa3
import Derived.Shelf.Strconv.AtoiAll
import Derived.Shelf.Strings.BuilderK
import Derived.Test.YtgpmoonnachoaaaGreatDoorLfAToN1
import Derived.Test.YtgpmoonnachoaaaGreatDoorProg
import Derived.Lib.ItoaNum
import Derived.Lib.Repeat
import Derived.Lib.ParseIntB
import Derived.Test.YtgpmoonnachoaaaGreatDoorRows
import Derived.Lib.ItoaLen
import Derived.Lib.AppendIntMem
import Derived.WalkKit
import Derived.ProofKit
import Derived.OpenShut
import Derived.JoinedCond
import Derived.Deep.Slices
import Derived.Carry
import Derived.Shelf.SlGeneric
import Derived.Shelf.SlIter.Nil
import Derived.Shelf.SlIter.Sorted
import Derived.Shelf.SortM.Plain
import Derived.Shelf.SortM.SortNone
set_option maxRecDepth 100000
set_option linter.unusedVariables false
set_option linter.unusedSimpArgs false
open Go.IntKind renaming i64→J9,wrap→J8
open Go.Value renaming string→J7,int→J6,pointer→J5,slice→J4,bool→J3,tuple→J1
open Go.Obj renaming cells→J2
open Go renaming Value→J0,Addr→Q6,TypeId→Q7,FuncId→Q8,Program→Q1
open Go.Addr renaming add→Q9,mk→Q5
namespace Go.Lf
open Go
abbrev bF:A2L:=⟨#[]⟩
theorem nU:ByteArray.size ⟨#[]⟩=0:=rfl
structure Fi where
 name:A2L
 bY:A2L
 soft:A2L
deriving DecidableEq
def Gn(l:List Fi):Prop:=l.Pairwise λa b=>aM a.name b.name=true
def Cq(a:A2L)(l:List Fi):Option Fi:=l.find? λf=>decide (f.name=a)
def P9(a:A2L)(g:Fi->Fi)(l:List Fi):List Fi:=l.map λf=>if f.name=a then g f else f
def P8(a:A2L)(l:List Fi):List Fi:=l.filter λf=> !decide (f.name=a)
def gW(x:Fi):List Fi->List Fi
 | []=> [x]
 |q::l=>if aM q.name x.name then q::gW x l else x::q::l
def bj(l:List Fi):Nat:=(l.map λf=>f.bY.size+f.soft.size+1).sum
theorem GZ(a:A2L)(x:Fi)(l:List Fi):Cq a (x::l)=if x.name=a then some x else Cq a l:=by unfold Cq;rw[F0];by_cases b:x.name=a<;>simp[b]
theorem KO {b:A2L}{l:List Fi}{x:Fi}(a:Cq b l=some x):x.name=b/\x∈l:=by unfold Cq at a;exact⟨by simpa using RC a,LI a⟩
theorem R5 {b:A2L}{l:List Fi}(a:Cq b l=none): ∀x∈l,x.name≠b:=by unfold Cq at a;rw[Hb] at a;simpa using a
theorem AIa {a:A2L}{l:List Fi}(b: ∀x∈l,x.name≠a):Cq a l=none:=by unfold Cq;rw[Hb];simpa using b
theorem Gn.find {l:List Fi}(s:Gn l){x:Fi}(a:x∈l):Cq x.name l=some x:=by
 induction l with
 |nil=>cases a
 |cons d l c=>
  rw[GZ];have b:=List.pairwise_cons.1 s;rcases List.mem_cons.1 a with rfl|a
  ·simp
  ·rw[if_neg (Lp (b.1 x a))];exact c b.2 a
theorem OO(x:Fi): ∀l,(gW x l).Perm (x::l)
 | []=>GW _
 |q::l=>by
  unfold gW;split
  ·exact((OO x l).cons q).trans (List.Perm.swap x q l)
  ·exact GW _
theorem Uc {x:Fi}: ∀ {l:List Fi},Gn l->(∀ b∈l,b.name≠x.name)->Gn (gW x l)
 | [],_,_=>P3 _ _
 |q::l,s,e=>by
  have c:=List.pairwise_cons.1 s;unfold gW;split
  ·rename_i d;refine List.pairwise_cons.2 ⟨λb a=>?_,Uc c.2 λb a=>e b (AG _ a)⟩;rcases List.mem_cons.1 ((OO x l).subset a) with rfl|a
   ·exact d
   ·exact c.1 b a
  ·rename_i d;have f:aM x.name q.name=true:=by
    cases g:aM x.name q.name
    ·exact absurd (N7 (by simpa using d) g) (e q Cl)
    ·rfl
   refine List.pairwise_cons.2 ⟨λb a=>?_,s⟩;rcases List.mem_cons.1 a with rfl|a
   ·exact f
   ·exact Da f (c.1 b a)
theorem AJ6 {a:A2L}{g:Fi->Fi}(b: ∀f,(g f).name=f.name)(l:List Fi):(P9 a g l).map (·.name)=l.map (·.name):=by
 unfold P9;rw[AT];refine CA λf _=>?_
 simp only[Function.comp];split<;>simp[b]
theorem UF {l:List Fi}:Gn l↔nR (l.map (·.name)):=by unfold Gn nR;rw[Nx]
theorem wz {k:A2L}{g:Fi->Fi}(a: ∀f,(g f).name=f.name){l:List Fi}(s:Gn l):Gn (P9 k g l):=by rw[UF,AJ6 a];exact UF.1 s
theorem AI6 {a:A2L}{l:List Fi}(s:Gn l):Gn (P8 a l):=s.sublist G4
theorem qT {a c:A2L}{g:Fi->Fi}(b: ∀f,(g f).name=f.name): ∀l:List Fi,Cq c (P9 a g l)=(Cq c l).map λf=>if f.name=a then g f else f
 | []=>rfl
 |x::l=>by
  show Cq c ((if x.name=a then g x else x)::P9 a g l)=_;rw[GZ,GZ,qT b l];have:(if x.name=a then g x else x).name=x.name:=by split<;>simp[b]
  rw[this];by_cases d:x.name=c<;>simp[d]
theorem Zu {k c:A2L}: ∀l:List Fi,Cq c (P8 k l)=if c=k then none else Cq c l
 | []=>by simp[P8,Cq]
 |x::l=>by
  have b:=Zu (k:=k) (c:=c) l;unfold P8 at b ⊢;rw[AS,GZ];by_cases d:x.name=k
  ·simp only[d,decide_true,Ly,Cp,if_false];rw[b];by_cases a:c=k
   ·simp[a]
   ·simp[a,Ne.symm a]
  ·simp only[d,decide_false,Lq,if_true];rw[GZ,b];by_cases a:c=k
   ·subst a;simp[d]
   ·simp[a]
theorem wA {x:Fi}{c:A2L}: ∀ {l:List Fi},(∀ a∈l,a.name≠x.name)->Cq c (gW x l)=if x.name=c then some x else Cq c l
 | [],_=>by show Cq c [x]=_;rw[GZ]
 |q::l,d=>by
  unfold gW;split
  ·rw[GZ,wA λa e=>d a (AG _ e),GZ];by_cases b:q.name=c
   ·simp[b];intro f;exact absurd (b.trans f.symm) (d q Cl)
   ·simp[b]
  ·rw[GZ]
theorem Ml(x:Fi)(l:List Fi):bj (x::l)=x.bY.size+x.soft.size+1+bj l:=by simp[bj]
theorem AN9 {l m:List Fi}(a:l.Perm m):bj l=bj m:=(a.map _).sum_nat
theorem wB(x:Fi)(l:List Fi):bj (gW x l)=x.bY.size+x.soft.size+1+bj l:=by rw[AN9 (OO x l),Ml]
theorem VP: ∀l:List Fi,l.length<=bj l
 | []=>by simp[bj]
 |x::l=>by rw[Ml,A5];have:=VP l;omega
theorem nV {x:Fi}: ∀ {l:List Fi},x∈l->x.bY.size+x.soft.size<=bj l
 | [],a=>by cases a
 |y::l,a=>by
  rw[Ml];rcases List.mem_cons.1 a with rfl|a
  ·omega
  ·have:=nV a;omega
theorem qU {k:A2L}: ∀l:List Fi,bj (P8 k l)<=bj l
 | []=>by simp[P8,bj]
 |x::l=>by
  have:=qU (k:=k) l;unfold P8 at this ⊢;rw[AS];split
  ·rw[Ml,Ml];omega
  ·rw[Ml];omega
theorem ZH {k:A2L}{g:Fi->Fi}{d:Nat}(a: ∀f,(g f).bY.size+(g f).soft.size<=f.bY.size+f.soft.size+d): ∀ {l:List Fi},Gn l->bj (P9 k g l)<=bj l+d
 | [],_=>by simp[P9,bj]
 |x::l,s=>by
  have b:=List.pairwise_cons.1 s;show bj ((if x.name=k then g x else x)::P9 k g l)<=_;rw[Ml,Ml];split
  ·rename_i c;have:P9 k g l=l:=by unfold P9;rw[CA (g:=id) λe h=>?_,Kx];have:=Lp (b.1 e h);rw[if_neg (λi=>this (c.trans i.symm))];rfl
   rw[this];have:=a x;omega
  ·have:=ZH a (k:=k) b.2;omega
structure Bx where
 files:List Fi
 fuel:Int
 down:Bool
def kU:Bx:=⟨[],-1,false⟩
def LY(a:A2L):Bool:=decide (a=bF)||decide (a.size>32)
def IQ(m:Bx):Bx:=if m.fuel>0 then {m with fuel:=m.fuel-1} else m
def NN(m:Bx):Bx:= {m with down:=true}
def UN(name:A2L)(l:List Fi):List Fi:=if(Cq name l).isSome then l else gW ⟨name,bF,bF⟩ l
def Rw(a:A2L)(f:Fi):Fi:= {f with soft:=f.soft++a}
def SQ(f:Fi):Fi:=⟨f.name,f.bY++f.soft,bF⟩
def EM(m:Bx)(name a:A2L):Int×Bx:=
 if m.down then(30,m) else if LY name then(1,m) else if m.fuel=0 then(30,NN m) else(0,{IQ m with files:=P9 name (Rw a) (UN name m.files)})
def Hm(m:Bx)(name:A2L):Int×Bx:=
 if m.down then(30,m) else if(Cq name m.files).isNone then(31,m) else if m.fuel=0 then(30,NN m) else(0,{IQ m with files:=P9 name SQ m.files})
def Gs(m:Bx)(name:A2L):Int×Bx:=
 if m.down then(30,m) else if(Cq name m.files).isNone then(31,m) else if m.fuel=0 then(30,NN m) else(0,{IQ m with files:=P8 name m.files})
def UU(m:Bx)(name:A2L):A2L×Int:=
 if m.down then(bF,30) else match Cq name m.files with|none=>(bF,31)|some f=>(f.bY++f.soft,0)
structure HV (m:Bx):Prop where
 sorted:Gn m.files
 names: ∀f∈m.files,f.name.size<=32
 lo: -1<=m.fuel
 hi:m.fuel<=9223372036854775807
 wt:bj m.files<=8796093022208
theorem AQL(a b:A2L):(a++b).size=a.size+b.size:=Kp
theorem Ya(a:A2L):a++bF=a:=by simp[Mz,bF]
theorem Rf(a:A2L):bF++a=a:=by simp[Mz,bF]
theorem ANN:HV kU:=⟨List.Pairwise.nil,by simp[kU],by simp[kU],by simp[kU],by simp[kU,bj]⟩
theorem HV.tick {m:Bx}(g:HV m)(l:List Fi)(a:Gn l)(b: ∀f∈l,f.name.size<=32)(c:bj l<=8796093022208):HV {IQ m with files:=l}:=by
 have:=g.lo;have:=g.hi;refine⟨a,b,?_,?_,c⟩
 ·show -1<=(IQ m).fuel;unfold IQ;split<;>(try simp only[])<;>omega
 ·show(IQ m).fuel<=_;unfold IQ;split<;>(try simp only[])<;>omega
theorem HV.off {m:Bx}(g:HV m):HV (NN m):=⟨g.sorted,g.names,g.lo,g.hi,g.wt⟩
theorem wC {name:A2L}{l:List Fi}(s:Gn l):Gn (UN name l)/\bj (UN name l)<=bj l+1/\(∀ f∈UN name l,f∈l\/f.name=name):=by
 unfold UN;split
 ·exact⟨s,by omega,λf a=> .inl a⟩
 ·rename_i b;have c:=R5 (by simpa using b);refine⟨Uc s c,by rw[wB];simp[nU];omega,λf a=>?_⟩;rcases List.mem_cons.1 ((OO _ l).subset a) with rfl|a
  ·exact .inr rfl
  ·exact .inl a
theorem wE {c:A2L}{g:Fi->Fi}(d: ∀f,(g f).name=f.name){l:List Fi}{f:Fi}(b:f∈P9 c g l): ∃a∈l,a.name=f.name:=by unfold P9 at b;obtain⟨a,e,rfl⟩:=List.mem_map.1 b;exact⟨a,e,by split<;>simp[d]⟩
theorem HV.append {m:Bx}(g:HV m){name data:A2L}(n:bj m.files+data.size+1<=8796093022208):HV (EM m name data).2:=by
 unfold EM;split
 ·exact g
 ·split
  ·exact g
  ·rename_i e;split
   ·exact g.off
   ·obtain⟨b,o,h⟩:=wC (name:=name) g.sorted;refine g.tick _ (wz (k:=name) (g:=Rw data) (λ_=>rfl) b) (λf i=>?_) ?_
    ·obtain⟨c,j,l⟩:=wE (g:=Rw data) (λ_=>rfl) i;rw[<- l];rcases h c j with a|a
     ·exact g.names c a
     ·rw[a];simp[LY] at e;omega
    ·have:=ZH (k:=name) (g:=Rw data) (d:=data.size) (λf=>by simp[Rw];omega) b;omega
theorem HV.sync {m:Bx}(g:HV m){name:A2L}:HV (Hm m name).2:=by
 unfold Hm;split
 ·exact g
 ·split
  ·exact g
  ·split
   ·exact g.off
   ·refine g.tick _ (wz (k:=name) (g:=SQ) (λ_=>rfl) g.sorted) (λf a=>?_) ?_
    ·obtain⟨b,c,e⟩:=wE (g:=SQ) (λ_=>rfl) a;rw[<- e];exact g.names b c
    ·have:=ZH (k:=name) (g:=SQ) (d:=0) (λf=>by simp[SQ,nU]) g.sorted;have:=g.wt;omega
theorem HV.delete {m:Bx}(g:HV m){name:A2L}:HV (Gs m name).2:=by
 unfold Gs;split
 ·exact g
 ·split
  ·exact g
  ·split
   ·exact g.off
   ·exact g.tick _ (AI6 g.sorted) (λf a=>g.names f (List.mem_filter.1 a).1) (AE (qU _) g.wt)
theorem Zh {m:Bx}(g:HV m)(name a:A2L):bj (EM m name a).2.files<=bj m.files+a.size+1:=by
 unfold EM;split
 ·simp;omega
 ·split
  ·simp;omega
  ·split
   ·simp[NN];omega
   ·obtain⟨b,c,_⟩:=wC (name:=name) g.sorted;have:=ZH (k:=name) (g:=Rw a) (d:=a.size) (λf=>by simp[Rw];omega) b;simp;omega
theorem nW {m:Bx}(g:HV m)(name:A2L):bj (Hm m name).2.files<=bj m.files:=by
 unfold Hm;split
 ·simp
 ·split
  ·simp
  ·split
   ·simp[NN]
   ·have:=ZH (k:=name) (g:=SQ) (d:=0) (λf=>by simp[SQ,nU]) g.sorted;simpa using this
theorem Zi {m:Bx}(name:A2L):bj (Gs m name).2.files<=bj m.files:=by
 unfold Gs;split
 ·simp
 ·split
  ·simp
  ·split
   ·simp[NN]
   ·exact qU _
theorem xq {d:Type}{a:cD d}{x e:d}{c:Nat}{v:J0}(f:a.enc e=(a.enc x).set c v)(g:c<a.w): ∀ {l:List d} {i:Nat},l[i]? =some x->(l.set i e).flatMap a.enc=(l.flatMap a.enc).set (i*a.w+c) v
 | [],_,b=>by simp at b
 |y::l,0,b=>by
  simp at b;subst b;rw[List.set_cons_zero,AH,AH,f,HT,AI,ZS _ _ (by rw[a.len];exact g)]
 |y::l,i+1,b=>by
  rw[List.set_cons_succ,AH,AH,xq f g (l:=l) (i:=i) (by simpa using b),HM _ _ (by rw[a.len,By];omega),a.len];rw[show(i+1)*a.w+c-a.w=i*a.w+c by rw[By];omega]
theorem Own.store {e:Type}{E:cD e}{T:Q7}{d:aa}{s:Sl}{l:List e}{i j:Nat}{x x':e}{v:J0}{K:aa->Prop}(f:Own E T d s l)(h:l[i]? =some x)(q:E.enc x'=(E.enc x).set j v)(r:j<E.w)
  (t: ∀b,Own E T b s (l.set i x')->Mod (λc=>s.ah=some c) d b->b.size=d.size->K b): ∀a,s.p=some a->ae d ((a.add (i*E.w)).add j) v K:=by
 intro a n;rcases f.row with⟨rfl,rfl⟩|⟨g,u,k,w,o,y,p,z⟩
 ·simp at h
 ·rw[k] at n;cases n;rw[add_add,Bf,AI];have A:i<l.length:=(List.getElem?_eq_some_iff.1 h).1;have F:i*E.w+j<s.len*E.w:=by have:(i+1)*E.w<=s.len*E.w:=AN _ (by rw[f.len];exact A);rw[By] at this;omega
  have G:s.len*E.w<=u.size:=by rw[p];exact AN _ o
  refine ae.mk w (by omega) λb B m C=>t b ⟨by rw[Rr];exact f.len,.inr ⟨g,_,k,B,o,y,by simpa using p,?_⟩⟩ (m.aj λc _ D=>by simp[Sl.ah,k,D]) C
  rw[Ek,List.take_set,z,xq q r h]
theorem Own.ne {d:Type}{h:cD d}{T e:Q7}{f:aa}{s:Sl}{l:List d}(i:Own h T f s l){b:Nat}{j:Array J0}{fr:Nat×Nat}(a:f[b]? =some (J2 j e fr))(k:T≠e):s.ah≠some b:=by
 intro c;rcases i.row with⟨rfl,_⟩|⟨g,p,m,n,_⟩
 ·simp[Sl.ah] at c
 ·simp[Sl.ah,m] at c;subst c;rw[n] at a;injection a with a;injection a with _ o _;exact k o
end Go.Lf
namespace Go.Lf.G
open Go
theorem PW:P.underlying BF=some .string:=by kernel_rfl
theorem kX:P.underlying EE=some (.int .u8):=by kernel_rfl
theorem Za:P.underlying DU=some (.slice EE):=by kernel_rfl
theorem xZ:QF P DU EE HY.w 1=true:=by kernel_rfl
theorem Cc {y:aq}{d:aa}{n:Nat}{q:A2K}(z:n<18446744073709551616)(A: ∀e,Ext d e->q (.string (AY (Bc n))) e):AA y P Aw #[.int .u64 (n:Int)] d q:=by
 refine AIN ?_;unfold uI;have r:=AV z;refine Loop.rule (λm x f=> ∃(a:Nat) (s:Sl) (c:List UInt8),x=((a:Int),s,())/\Own HY EE f s c/\Ext d f/\(∀ b,s.ah=some b->d.size<=b)/\Bc n=c++Bc a/\m=a) ?_
  ⟨n,⟨none,0,0⟩,[],rfl,Own.nil,Mod.refl,λb g=>by simp[Sl.ah] at g,rfl,rfl⟩
 rintro K m _ f ⟨a,s,c,rfl,t,x,h,i,F⟩ B;have hd:c.length<=10:=by rw[i] at r;simp at r;omega
 refine af.intro (λj=>?_) (λj=>?_)
 ·have k: ¬a<128:=by simp at j;omega
  refine ao.aY (E:=HY) (x:=CL (a % 128+128)) (s:=s) (l:=c) (by dsimp only[HY];rw[AQR]) xZ t (by simp;omega) (by simp[maxLen];omega) λu e o p v C=>?_
  refine B (a / 128) _ _ (by omega) ⟨a / 128,u,c++ [CL (a % 128+128)],?_,o,x.more p h,λb g=>?_,?_,rfl⟩
  ·dsimp only;rw[Qg a 7]
  ·rcases v b g with w|w
   ·exact h b w
   ·have:=x.size;omega
  ·rw[i,Xv k];simp
 ·have k:a<128:=by simp at j;omega
  refine ao.aY (E:=HY) (x:=CL a) (s:=s) (l:=c) (by dsimp only[HY];rw[Dc (show a<256 by omega),wrap_u8,An (show a<256 by omega)]) xZ t (by simp;omega) (by simp[maxLen];omega) λu e o p v C=>?_
  refine Ka Za kX PW o.view ⟨_,rfl,?_⟩;have D:c++ [CL a]=Bc n:=by rw[i,FX k]
  rw[D];exact A _ (x.more p h)
theorem AON(a:Nat):(if(10:Int)<(a:Int) then(10:Int) else(a:Int))=((min a 10:Nat):Int):=by split<;>omega
theorem y4 {D:aq}{e:aa}{s:A2L}{n:A2K}(V:s.size<=8796093022208)
  (v:Mh 0 0 s.data.toList=none->n (.tuple #[.int .u64 0,.string ⟨#[]⟩,.bool false]) e)
  (E: ∀w t,Mh 0 0 s.data.toList=some (w,t)->n (.tuple #[.int .u64 (w:Int),.string (AY t),.bool true]) e):AA D P Rk #[.string s] e n:=by
 refine AHU ?_;unfold uS;have W:s.data.toList.length=s.size:=by rw[DO];rfl
 refine Loop.rule (λm x o=> ∃(i a:Nat),x=((a:Int),(i:Int),())/\o=e/\i<=s.size/\i<=10/\a<128^i/\Mh 0 0 s.data.toList=Mh i a (s.data.toList.drop i)/\m=10-i) ?_
  ⟨0,0,rfl,rfl,by omega,by omega,by simp,rfl,rfl⟩
 rintro K m _ o ⟨i,a,rfl,y,X,Y,F,p,Z⟩ G;subst o;dsimp only;rw[AON];refine af.intro (λd=>?_) (λd=>?_)
 ·have z:i<s.size/\i<10:=by simp at d;omega
  have q:i<s.data.toList.length:=by omega
  refine⟨⟨by omega,by omega⟩,?_⟩;obtain⟨c,r⟩: ∃c,s.data.toList[i]? =some c:=⟨_,A2 q⟩;have A:s.data.toList.drop i=c::s.data.toList.drop (i+1):=by rw[E0 q];rw[A2 q] at r;rw[BY r]
  have B:c.toNat<256:=c.toNat_lt;rw[Nu r];have H:((i=9/\1<c.toNat)\/(0<i/\c.toNat=0))->Mh 0 0 s.data.toList=none:=λg=>by
   rw[p,A,Mh,if_pos (.inr g)]
  have I: ¬((i=9/\1<c.toNat)\/(0<i/\c.toNat=0))->Mh 0 0 s.data.toList=if c.toNat<128 then some (a+c.toNat*128^i,s.data.toList.drop (i+1)) else Mh (i+1) (a+c.toNat % 128*128^i) (s.data.toList.drop (i+1)):=λg=>by
   rw[p,A,Mh,if_neg (λe=>e.elim (by omega) g)]
  refine ai.mk λJ L=>?_
  have key: ∀(b:Bool),(b=true↔((i=9/\1<c.toNat)\/(0<i/\c.toNat=0)))->J (b,()) e:=λb g=>by
   refine L _ _ ?_;refine af.intro (λM=>v (H (g.1 M))) (λC=>?_);have N: ¬((i=9/\1<c.toNat)\/(0<i/\c.toNat=0)):=λe=>by rw[g.2 e] at C;cases C
   have j:=I N;have O:J8 J9 ((7:Int)*(i:Int))=((7*i:Nat):Int):=by rw[show(7:Int)*(i:Int)=((7*i:Nat):Int) by simp];exact GY (by omega)
   have Q:Gd .u8 (c.toNat:Int) (127:Int)=((c.toNat % 128:Nat):Int):=by have:=xY (a:=c.toNat) (b:=127) B (by decide);rw[ASq _ B] at this;exact this
   have R:J8 .u64 ((c.toNat % 128:Nat):Int)=((c.toNat % 128:Nat):Int):=by rw[wrap_u64,An (by omega)]
   rw[O,Q,R,ATA (by omega) (CC _ (by decide)),AQ2 (by omega) F (CC _ (by decide)),Ae (by omega)];have ab:=ML (show i<=9 by omega);have S:(128:Nat)^9=9223372036854775808:=by decide
   have T:c.toNat % 128*128^i % 18446744073709551616=c.toNat % 128*128^i:=by
    refine An ?_;by_cases k:i=9
    ·subst k;have:c.toNat<=1:=by omega
     rw[S];omega
    ·have ac:=ML (show i<=8 by omega);have ad:(128:Nat)^8=72057594037927936:=by decide
     have:c.toNat % 128*128^i<=127*128^i:=AN _ (by omega);omega
   rw[T];refine⟨by omega,?_⟩;refine af.intro (λd=>?_) (λd=>?_)
   ·have l:c.toNat<128:=by simp at d;omega
    rw[if_pos l] at j;refine⟨⟨by omega,by omega⟩,?_⟩;have:=E _ _ j;rw[An l];have y:s.extract ((i+1:Nat):Int).toNat s.size=AY (s.data.toList.drop (i+1)):=rh _ _;rw[y];exact this
   ·have l: ¬c.toNat<128:=by simp at d;omega
    rw[if_neg l] at j;refine G (10-(i+1)) _ _ (by omega) ⟨i+1,a+c.toNat % 128*128^i,rfl,rfl,by omega,by omega,?_,j,rfl⟩;have:(c.toNat % 128+1)*128^i<=128*128^i:=AN _ (by omega);rw[By] at this;rw[DH,CD (128^i)];omega
  refine af.intro (λd=>?_) (λd=>?_)
  ·have k:i=9:=by simp at d;omega
   refine af.intro (λu=>key _ ⟨λ_=> .inl ⟨k,by simp at u;omega⟩,λ_=>rfl⟩) (λu=>?_);refine af.intro (λh=>key _ ⟨λf=> .inr ⟨by omega,by simp at f;omega⟩,λf=>by simp at u ⊢;omega⟩) (λh=>?_);simp at h;omega
  ·have k:i≠9:=by simp at d;omega
   refine af.intro (λh=>key _ ⟨λf=> .inr ⟨by simp at h;omega,by simp at f;omega⟩,λf=>(by simp;omega)⟩) (λh=>key _ ⟨(λf=>(by cases f)),λf=>(by simp at h;omega)⟩)
 ·have z:s.size=i\/i=10:=by simp at d;omega
  refine v ?_;rw[p];rcases z with U|U
  ·rw[HD (by omega)];rfl
  ·cases hd:s.data.toList.drop i with
   |nil=>rfl
   |cons c t=>rw[Mh,if_pos (.inl (by omega))]
theorem aD {a:Q6}{K:Q6->Prop}(b:K a):At (some a) K:=b
theorem ae.dq {a:aa}{b d:Nat}{v:J0}{e:Array J0}{T:Q7}{K:aa->Prop}(f:a[b]? =some (J2 e T (0,0)))(g:d<e.size)
  (h: ∀c,c[b]? =some (J2 (e.setIfInBounds d v) T (0,0))->Mod (· =b) a c->c.size=a.size->K c):ae a ((⟨b,0,none⟩:Q6).add d) v K:=by
 rw[Bf,AI];exact ae.mk f g h
theorem max_i64:IntKind.max J9=9223372036854775807:=by simp_all
theorem wrap_i64 {n:Int}(a: -9223372036854775808<=n)(b:n<=9223372036854775807):J8 J9 n=n:=by grind [J8,IntKind.bits,IntKind.signed]
theorem CF {a:Nat}(b:a<18446744073709551616):J8 .u64 (a:Int)=(a:Int):=by rw[wrap_u64,An b]
abbrev Am(b:Nat):J0:=J5 (some ⟨b,0,none⟩)
def Ie(c:aa)(b:Nat)(a:Rd):Prop:=c[b]? =some (J2 #[J7 (AY a.rest),J3 a.bad] WJ (0,0))
theorem y5:AY []=⟨#[]⟩:=rfl
theorem y6(l:List UInt8)(a:Nat):(AY l).extract 0 a=AY (l.take a):=by rw[AOH,Bh]
theorem VO(l:List UInt8)(a:Nat):(AY l).extract a (AY l).size=AY (l.drop a):=by rw[rh,Bh]
theorem AOw(l:List UInt8)(i a:Nat):(AY l).extract i a=AY ((l.take a).drop i):=by rw[dU,Bh]
theorem Ak(a b:List UInt8):AY a++AY b=AY (a++b):=by apply SO;simp[AY,Kd]
theorem RB {A:aq}{h:aa}{l:List UInt8}{R:A2K}(d:l.length<=1099511627776)(b: ∀a,Ext h a->R (J7 (AY (BQ l))) a):AA A P CB #[J7 (AY l)] h R:=by
 refine AGs ?_;unfold uH;rw[AP,CF (by omega)];have:=AV (n:=l.length) (by omega);refine Cc (by omega) λe c=>⟨_,rfl,⟨by rw[AP,max_i64];omega,?_⟩⟩
 rw[Ak];exact b _ c
theorem Js {d:aq}{a:aa}{l:List UInt8}{c:A2K}(e: ∀b,Ie b a.size ⟨l,false⟩->Ext a b->c (Am a.size) b):AA d P EZ #[J7 (AY l)] a c:=by refine AHD ?_;unfold uM;exact ao.mk λf _ g x _=>e f g x
theorem y7 {j:aq}{d:aa}{b:Nat}{a:Rd}{h:A2K}(e:Ie d b a)(q:a.rest.length<=1099511627776)
  (i: ∀f,Ie f b (Hl a).2->Mod (· =b) d f->h (.int .u64 ((Hl a).1:Int)) f):AA j P Iw #[Am b] d h:=by
 refine Wp ?_;unfold PX;refine ai.mk λK k=>af.no rfl (aD (Aa.mk (AB e rfl) (k _ _ ?_)))
 refine af.intro (λc=>?_) (λc=>?_)
 ·have:=i d;rw[AOI c] at this;exact this e Mod.refl
 ·refine aD (AJ.mk (AO e rfl) ?_);have c:a.bad=false:=c;refine y4 (by grind [AP,Nat.le_trans]) (λg=>⟨_,_,_,rfl,?_⟩) (λr t g=>⟨_,_,_,rfl,?_⟩)
  all_goals
   rw[Bh] at g;refine aD (ae.mk e (by simp) λs l m u=>aD (ae.dq l (by simp) λn o p v=>?_));have:=i n;simp only[Hl,c,g] at this;exact this o (m.trans p)
theorem ANu {m:Nat}(a:m<=9223372036854775807):J8 .u64 (m:Int)=(m:Int):=CF (by omega)
theorem DN {l:aq}{e:aa}{b:Nat}{c:Rd}{most:Nat}{j:A2K}(m:Ie e b c)(n:c.rest.length<=1099511627776)(o:most<=9223372036854775807)
  (f: ∀g,Ie g b (CS most c).2->Mod (· =b) e g->j (J6 J9 ((CS most c).1:Int)) g):AA l P Ac #[Am b,J6 J9 (most:Int)] e j:=by
 refine XM ?_;unfold PN;refine y7 m n λk d h=>⟨_,rfl,?_⟩
 refine ai.mk λK p=>af.no rfl (aD (Aa.mk (AB d rfl) (p _ _ ?_)))
 refine af.intro (λa=>?_) (λa=>?_)
 ·have:=f k;have a:(Hl c).2.bad=true:=a;simp only[CS,a,if_true] at this;exact this d h
 ·have a:(Hl c).2.bad=false:=a;refine ai.mk λw q=>af.no (by simp) (q _ _ ?_)
  rw[ANu o];refine af.intro (λi=>?_) (λi=>?_)
  ·refine aD (ae.mk d (by simp) λx r s y=>aD (ae.dq r (by simp) λt u v z=>?_));have:=f t;simp only[CS,a] at this;rw[if_neg (by simp),if_pos (by simp at i;omega)] at this;exact this u ((h.trans s).trans v)
  ·have:=f k;simp at i;simp only[CS,a] at this;rw[if_neg (by simp),if_neg (by omega)] at this;rw[GY (by omega)];exact this d h
theorem rj {n:aq}{f:aa}{b g:Nat}{d:Rd}{l:A2K}(c:Ie f b d)
  (h: ∀i,Ie i b (KV g d).2->Mod (· =b) f i->l (J7 (AY (KV g d).1)) i):AA n P Fy #[Am b,J6 J9 (g:Int)] f l:=by
 refine Vi ?_;unfold Oy;refine ai.mk λK o=>af.no rfl (aD (Aa.mk (AB c rfl) (o _ _ ?_)))
 refine af.intro (λa=>?_) (λa=>?_)
 ·have:=h f;have a:d.bad=true:=a;simp only[KV,a,if_true] at this;exact this c Mod.refl
 ·have a:d.bad=false:=a;refine ai.mk λu p=>af.no (by simp) (aD (AJ.mk (AO c rfl) (p _ _ ?_)))
  rw[AP];refine af.intro (λj=>?_) (λj=>?_)
  ·refine aD (ae.mk c (by simp) λm e k q=>aD (ae.dq e (by simp) λr s t v=>?_));have:=h r;simp only[KV,a] at this;rw[if_neg (by simp),if_pos (by simp at j;omega)] at this;exact this s (k.trans t)
  ·simp at j;refine aD (AJ.mk (AO c rfl) ⟨⟨by omega,by rw[AP];omega⟩,aD (AJ.mk (AO c rfl) ⟨⟨by omega,by rw[AP];omega⟩,aD (ae.mk c (by simp) λm e k q=>?_)⟩)⟩);have:=h m;simp only[KV,a] at this;rw[if_neg (by simp),if_neg (by omega)] at this;simp only[A6,y6,VO] at e ⊢;rw[a] at e;exact this e k
theorem G8 {k:aq}{d:aa}{b:Nat}{a:Rd}{g:A2K}(l:Ie d b a)(v:a.rest.length<1099511627776)
  (h: ∀e,Ie e b (GV a).2->Mod (· =b) d e->g (J7 (AY (GV a).1)) e):AA k P Be #[Am b] d g:=by
 refine Vg ?_;unfold Oz;refine y7 l (by omega) λm f i=>⟨_,rfl,?_⟩
 have w:=Tu a;refine ai.mk λK n=>af.no rfl (aD (Aa.mk (AB f rfl) (n _ _ ?_)))
 refine af.intro (λc=>?_) (λc=>?_)
 ·have:=h m;have c:(Hl a).2.bad=true:=c;simp only[GV,c,if_true] at this;exact this f i
 ·have c:(Hl a).2.bad=false:=c;have o:J8 J9 (if(1099511627776:Int)<((Hl a).1:Int) then 1099511627776 else((Hl a).1:Int))=((min (Hl a).1 1099511627776:Nat):Int):=by grind [wrap_i64]
  rw[o];refine rj f λp j q=>⟨_,rfl,?_⟩
  have:=h p;simp only[GV,c] at this;rw[if_neg (by simp)] at this;have r:KV (min (Hl a).1 1099511627776) (Hl a).2=KV (Hl a).1 (Hl a).2:=by
   by_cases s:(Hl a).1<=1099511627776
   ·rw[Fm s]
   ·have t:(Hl a).2.rest.length<min (Hl a).1 1099511627776:=by omega
    have u:(Hl a).2.rest.length<(Hl a).1:=by omega
    simp only[KV,c,Cp,if_false,if_pos t,if_pos u]
  rw[r] at j ⊢;exact this j (i.trans q)
theorem MU {g:aq}{c:aa}{b:Nat}{r:Rd}{e:A2K}(f:Ie c b r)(a:e (J3 (Yf r)) c):AA g P CJ #[Am b] c e:=by
 refine Wu ?_;unfold Pi;refine af.yes rfl (aD (Aa.mk (AB f rfl) ?_));unfold Yf at a;refine af.intro (λd=>?_) (λd=>?_)
 ·refine aD (AJ.mk (AO f rfl) ?_);rw[d] at a;have h:bO (AY r.rest) (⟨#[]⟩:A2L)=r.rest.isEmpty:=by grind [Bw,y5,Ob]
  rw[h];simpa using a
 ·rw[d] at a;exact a
theorem APj {c:Nat}(e:c<4294967296):ZX .u32 ((c:Int).fdiv ((2:Int)^(1:Nat))) (Gd .u32 (3988292384:Int) (J8 .u32 (0-(Gd .u32 (c:Int) (1:Int)))))=((mo c:Nat):Int):=by
 have f:Gd .u32 (c:Int) (1:Int)=((c % 2:Nat):Int):=by rw[<- Nat.and_one_is_mod];exact ARN e (by decide)
 rw[Qg c 1,f];unfold mo;have hd:c / 2^1<4294967296:=by omega
 by_cases a:c % 2=1
 ·rw[if_pos a,a];have b:J8 .u32 (0-((1:Nat):Int))=((4294967295:Nat):Int):=by decide
  have d:Gd .u32 (3988292384:Int) ((4294967295:Nat):Int)=((3988292384:Nat):Int):=by decide
  rw[b,d,VH hd (by decide)]
 ·rw[if_neg a,show c % 2=0 by omega];have b:J8 .u32 (0-((0:Nat):Int))=((0:Nat):Int):=by decide
  have d:Gd .u32 (3988292384:Int) ((0:Nat):Int)=((0:Nat):Int):=by decide
  rw[b,d,VH hd (by decide)];simp
theorem ARj {c:Nat}(d:c<4294967296):ZX .u32 (if IntKind.signed .u32 then -1 else IntKind.max .u32) (c:Int)=((4294967295-c:Nat):Int):=by
 have e:(if IntKind.signed .u32 then -1 else IntKind.max .u32)=((4294967295:Nat):Int):=by decide
 rw[e,VH (by decide) d];congr 1;have f:4294967295-c=2^32-(c+1):=by omega
 have g:(4294967295:Nat)=2^32-1:=by decide
 have a:c<2^32:=by omega
 rw[f,g];apply Nat.eq_of_testBit_eq;intro i;rw[Nat.testBit_xor,Nat.testBit_two_pow_sub_one,Nat.testBit_two_pow_sub_succ a];by_cases b:i<32
 ·simp[b]
 ·have:c.testBit i=false:=Nat.testBit_lt_two_pow (Fl a (RM (by decide) (by omega)));simp[b,this]
theorem y8 {q:aq}{d:aa}{l:List UInt8}{k:A2K}(v:l.length<=1099511627776)(r:k (.int .u32 (jd l:Int)) d):AA q P Pd #[J7 (AY l)] d k:=by
 refine AGt ?_;unfold uQ;rw[AP];refine Loop.rule (λm x b=> ∃i:Nat,x=((iL (l.take i):Int),(i:Int),())/\b=d/\m=l.length-i/\i<=l.length) ?_ ⟨0,rfl,rfl,rfl,by omega⟩;rintro K m _ b ⟨i,rfl,e,rfl,w⟩ s;subst b;refine af.intro (λf=>?_) (λf=>?_)
 ·have g:i<l.length:=by simpa using f
  obtain⟨c,o⟩: ∃c,l[i]? =some c:=⟨_,A2 g⟩;have y:c.toNat<256:=c.toNat_lt;refine⟨⟨by dsimp only;omega,by dsimp only;omega⟩,?_⟩;have p:=xQ (l.take i);dsimp only;rw[Nu (c:=c) (by rw[Bh];exact o),wrap_u32,An (show c.toNat<4294967296 by omega),VH p (by omega)];have t:iL (l.take i) ^^^ c.toNat<4294967296:=Lk (n:=32) p (by omega);refine Loop.rule (λm x b=> ∃a:Nat,x=((oy a (iL (l.take i) ^^^ c.toNat):Int),(a:Int),())/\b=d/\m=8-a/\a<=8) ?_ ⟨0,rfl,rfl,rfl,by omega⟩;rintro z A _ b ⟨a,rfl,e,rfl,B⟩ u;subst b;refine af.intro (λh=>?_) (λh=>?_)
  ·have j:a<8:=by simp at h;omega
   dsimp only;rw[APj (rf t a),Ae (by omega)];exact u (8-(a+1)) _ _ (by omega) ⟨a+1,rfl,rfl,rfl,j⟩
  ·have j:a=8:=by simp at h;omega
   subst j;dsimp only;rw[Ae (by omega)];refine s (l.length-(i+1)) _ _ (by omega) ⟨i+1,?_,rfl,rfl,g⟩;rw[As,o,CT,ANl];rfl
 ·have g:i=l.length:=by simp at f;omega
  have e:l.take i=l:=AF (by omega);dsimp only;rw[e,ARj (xQ l)];exact r
theorem rk(a b:Nat):J8 .u8 ((a:Int).fdiv ((2:Int)^b))=(((CL (a / 2^b % 256)).toNat:Nat):Int):=by rw[Qg,wrap_u8,Dc (CC _ (by decide))]
theorem y9 {f:aq}{b:aa}{a:Nat}{c:A2K}(g: ∀d,Ext b d->c (J7 (AY (Q4 a))) d):AA f P Nz #[.int .u32 (a:Int)] b c:=by
 refine AEh ?_;unfold ZG;refine ao.mk λh _ e x _=>?_
 have i:J8 .u8 (a:Int)=(((CL (a % 256)).toNat:Nat):Int):=by rw[wrap_u8,Dc (CC _ (by decide))]
 rw[rk,rk,rk,i] at e;have j:Own HY EE h ⟨some ⟨b.size,0,none⟩,4,4⟩ (Q4 a):=Own.lit (E:=HY) (l:=Q4 a) e rfl (by simp[maxLen,Q4]);exact Ka (s:=⟨some ⟨b.size,0,none⟩,4,4⟩) Za kX PW j.view ⟨_,rfl,g _ x⟩
theorem rm {e:aq}{a:aa}{l:List UInt8}{b:A2K}(f:l.length<=1099511627776)(g:1048576<l.length->b (J1 #[J7 ⟨#[]⟩,J6 J9 2]) a)
  (h:l.length<=1048576-> ∀d,Ext a d->b (J1 #[J7 (AY (Cv l)),J6 J9 0]) d):AA e P Ht #[J7 (AY l)] a b:=by
 refine AEa ?_;unfold Yg;rw[AP];refine af.intro (λc=>g (by simp at c;omega)) (λc=>?_);have i:l.length<=1048576:=by simp at c;omega
 have:=AV (n:=l.length) (by omega);rw[CF (by omega)];refine Cc (by omega) λm j=>⟨_,rfl,?_⟩
 refine y8 f ⟨_,rfl,?_⟩;refine y9 λo k=>⟨_,rfl,⟨?_,?_,?_⟩⟩
 ·grind [AP,max_i64,Kc]
 ·rw[Ak,AP,max_i64,A1,Kc];omega
 ·rw[Ak,Ak];exact h i _ (j.trans k)
theorem ya {B:aq}{f:aa}{l:List UInt8}{w:A2K}(C:l.length<=8796093022208)
  (g: ∀y,Ext f y->w (J1 #[J7 (AY (Gv l).2.1),J7 (AY (Gv l).2.2),J6 J9 ((Gv l).1:Int)]) y):AA B P Rz #[J7 (AY l)] f w:=by
 refine AEW ?_;unfold YY;rw[AP];have d:=g f Mod.refl;refine y4 (by rw[AP];exact C) (λh=>⟨_,_,_,rfl,?_⟩) (λb t h=>⟨_,_,_,rfl,?_⟩)<;>rw[Bh] at h
 ·have k:Gv l=if l.length<10/\ ∀c∈l,128<=c.toNat then(20,[],[]) else(21,[],[]):=by unfold Gv;rw[h]
  rw[k] at d;refine ai.mk λK n=>af.yes rfl (n _ _ ?_)
  refine af.intro (λa=>?_) (λa=>?_)
  ·have o:l.length<10:=by simp at a;omega
   refine Loop.rule (λm x e=> ∃i:Nat,x=((i:Int),())/\e=f/\m=l.length-i/\i<=l.length/\ ∀c∈l.take i,128<=c.toNat) ?_ ⟨0,rfl,rfl,rfl,by omega,by simp⟩;rintro Q m _ e ⟨i,rfl,R,rfl,S,z⟩ D;subst e;refine af.intro (λp=>?_) (λp=>?_)
   ·have q:i<l.length:=by simpa using p
    obtain⟨c,E⟩: ∃c,l[i]? =some c:=⟨_,A2 q⟩;refine⟨⟨by dsimp only;omega,by dsimp only;omega⟩,?_⟩;dsimp only;rw[Nu (c:=c) (by rw[Bh];exact E)];refine af.intro (λF=>?_) (λF=>?_)
    ·rw[if_neg] at d
     ·exact d
     grind
    ·rw[Ae (by omega)];refine D (l.length-(i+1)) _ _ (by omega) ⟨i+1,rfl,rfl,rfl,q,λx T=>?_⟩
     grind [List.take_add_one,Option.toList_some]
   ·have q:i=l.length:=by simp at p;omega
    rw[AF (by omega)] at z;rw[if_pos ⟨o,z⟩] at d;exact d
  ·have o: ¬l.length<10:=by simp at a;omega
   rw[if_neg (λe=>o e.1)] at d;refine ai.mk λG r=>af.yes rfl (r _ _ (af.yes rfl d))
 ·obtain⟨U,V⟩:=mj h;have W:t.length<=8796093022208:=by grind
  have k:Gv l=if 1048576<b then(21,[],[]) else if t.length<4+b then(20,[],[])
    else if t.take 4=Q4 (jd ((t.drop 4).take b)) then(0,(t.drop 4).take b,t.drop (4+b)) else(21,[],[]):=by unfold Gv;rw[h]
  rw[k] at d g;refine ai.mk λK n=>af.no rfl (n _ _ (af.no rfl ?_))
  refine ai.mk λG r=>af.no rfl (r _ _ ?_)
  refine af.intro (λa=>?_) (λa=>?_)
  ·have s:1048576<b:=by simp at a;omega
   rw[if_pos s] at d;exact d
  have s: ¬1048576<b:=by simp at a;omega
  rw[if_neg s] at d g;rw[AP];refine ai.mk λH I=>?_
  have key: ∀u:Bool,(u=true↔t.length<4+b)->H (u,()) f:=λu J=>by
   refine I _ _ ?_;refine af.intro (λa=>?_) (λa=>?_)
   ·rw[if_pos (J.1 a)] at d;exact d
   have v: ¬t.length<4+b:=λe=>by grind
   rw[if_neg v] at d g;have L:J8 .u64 ((4:Int)+(b:Int))=((4+b:Nat):Int):=by grind [CF]
   rw[L];refine⟨⟨by omega,by omega⟩,⟨by omega,by omega⟩,⟨by omega,by omega⟩,?_⟩;have M:(AY t).extract (4:Int).toNat ((4+b:Nat):Int).toNat=AY ((t.drop 4).take b):=by rw[show(4:Int).toNat=4 from rfl,A6,AOw,List.drop_take];congr 2;omega
   have em:(AY t).extract 0 (4:Int).toNat=AY (t.take 4):=y6 _ _;have A:(AY t).extract ((4+b:Nat):Int).toNat (AY t).size=AY (t.drop (4+b)):=by rw[A6,VO]
   rw[AP] at A;rw[M,em,A];refine y8 (by simp;omega) ⟨_,rfl,?_⟩;refine y9 λv N=>⟨_,rfl,?_⟩
   have j:=g v N;rw[Bw];refine af.intro (λa=>?_) (λa=>?_)
   ·rw[if_neg (by grind)] at j;exact j
   ·rw[if_pos (by grind [Ob])] at j;exact⟨⟨by omega,by omega⟩,j⟩
  refine af.intro (λa=>key _ ⟨λ_=>by simp at a;omega,λ_=>rfl⟩) (λa=>key _ ?_);have X:4<=t.length:=by simp at a;omega
  have O:J8 .u64 (J8 J9 ((t.length:Int)-(4:Int)))=((t.length-4:Nat):Int):=by grind [GY,CF]
  rw[O];simp;omega
theorem Fa.mk {b:aa}{a:Q6}{K:Option Nat->Prop}{n:Option Nat}(c:ag b a=some (.map n))(d:K n):Fa b a K:=⟨n,c,d⟩
theorem jJ:P.underlying CP=some (.map BF vJ):=by kernel_rfl
theorem lA:(zeroValue vJ).calc P=some (J5 none):=by kernel_rfl
abbrev fh(a:List (Fi×Nat)):List (A2L×J0):=a.map λp=>(p.1.name,Am p.2)
structure FM (h:aa) (b r:Nat) (kv:List (Fi×Nat)) (m:Bx):Prop where
 head:h[b]? =some (J2 #[.map (some r),J6 J9 m.fuel,J3 m.down] Zf (0,0))
 map:Ve h r (fh kv)
 cells: ∀p∈kv,h[p.2]? =some (J2 #[J7 p.1.bY,J7 p.1.soft] XT (0,0))
 perm:(kv.map (·.1)).Perm m.files
 nodup:(kv.map (·.2)).Nodup
 aS:HV m
def KZ(b a:Nat)(d:List (Fi×Nat))(c:Nat):Prop:=c=b\/c=a\/ ∃p∈d,p.2=c
def Cw(e:aa)(b:Nat)(f:Nat->Prop)(m:Bx):Prop:= ∃a d,FM e b a d m/\ ∀c,f c↔KZ b a d c
theorem FM.gw {e:aa}{b a:Nat}{f:List (Fi×Nat)}{m:Bx}(c:FM e b a f m):a≠b:=by rintro rfl;obtain⟨g,h,d,_⟩:=c.map;rw[c.head] at d;cases d
theorem FM.eQ {g:aa}{b c:Nat}{d:List (Fi×Nat)}{m:Bx}(a:FM g b c d m){p:Fi×Nat}(h:p∈d):p.2≠b/\p.2≠c:=by
 have e:=a.cells p h;constructor
 ·intro f;rw[f,a.head] at e;cases e
 ·intro f;obtain⟨i,j,k,_⟩:=a.map
  simp_all
theorem FM.lt {d:aa}{b e:Nat}{f:List (Fi×Nat)}{m:Bx}(a:FM d b e f m){c:Nat}(g:KZ b e f c):c<d.size:=by
 rcases g with rfl|rfl|⟨p,h,rfl⟩
 ·exact Ai a.head
 ·exact a.map.lt
 ·exact Ai (a.cells p h)
theorem Cw.lt {d:aa}{b:Nat}{e:Nat->Prop}{m:Bx}(a:Cw d b e m){c:Nat}(f:e c):c<d.size:=by obtain⟨h,i,a,g⟩:=a;exact a.lt ((g c).1 f)
theorem Cw.aS {c:aa}{b:Nat}{d:Nat->Prop}{m:Bx}(a:Cw c b d m):HV m:=by obtain⟨e,f,a,g⟩:=a;exact a.aS
theorem FM.mod {g h:aa}{b d:Nat}{e:List (Fi×Nat)}{m:Bx}{T:Nat->Prop}(a:FM g b d e m)(x:Mod T g h)(f: ∀c,KZ b d e c-> ¬T c):FM h b d e m:=
 ⟨x.ah a.head (f _ (.inl rfl)),a.map.mod x (f _ (.inr (.inl rfl))),λp i=>x.ah (a.cells p i) (f _ (.inr (.inr ⟨p,i,rfl⟩))),a.perm,a.nodup,a.aS⟩
theorem Cw.mod {e f:aa}{b:Nat}{a T:Nat->Prop}{m:Bx}(d:Cw e b a m)(x:Mod T e f)(h: ∀c,a c-> ¬T c):Cw f b a m:=by obtain⟨i,j,d,g⟩:=d;exact⟨i,j,d.mod x λc k=>h c ((g c).2 k),g⟩
theorem Cw.ext {a c:aa}{b:Nat}{d:Nat->Prop}{m:Bx}(e:Cw a b d m)(x:Ext a c):Cw c b d m:=e.mod x λ_ _ a=>a
theorem FM.hd {f d:aa}{b e:Nat}{h:List (Fi×Nat)}{m c:Bx}(a:FM f b e h m)(j:d[b]? =some (J2 #[.map (some e),J6 J9 c.fuel,J3 c.down] Zf (0,0)))(x:Mod (· =b) f d)(k:c.files=m.files)(g:HV c):FM d b e h c:=
 ⟨j,a.map.mod x a.gw,λp i=>x.ah (a.cells p i) (a.eQ i).1,by rw[k];exact a.perm,a.nodup,g⟩
theorem sB(b:A2L): ∀a:List (Fi×Nat),UM b (fh a)=(a.find? λp=>decide (p.1.name=b)).map λp=>Am p.2
 | []=>rfl
 |p::a=>by
  show UM b ((p.1.name,Am p.2)::fh a)=_;rw[OY,sB b a,F0]
  grind
theorem FM.mem {d:aa}{b e:Nat}{a:List (Fi×Nat)}{m:Bx}(g:FM d b e a m){f:Fi}:f∈m.files↔ ∃c,(f,c)∈a:=by
 rw[<- g.perm.mem_iff]
 simp_all
theorem FM.look {i:aa}{b j:Nat}{d:List (Fi×Nat)}{m:Bx}(e:FM i b j d m)(a:A2L):
  (UM a (fh d)=none/\Cq a m.files=none)\/ ∃p∈d,UM a (fh d)=some (Am p.2)/\Cq a m.files=some p.1/\p.1.name=a:=by
 rw[sB];cases k:d.find? λp=>decide (p.1.name=a) with
 |none=>
  refine .inl ⟨rfl,AIa λf l=>?_⟩;obtain⟨c,n⟩:=e.mem.1 l
  grind
 |some p=>
  have g:p.1.name=a:=by grind
  have h:=LI k;refine .inr ⟨p,h,rfl,?_,g⟩;rw[<- g];exact e.aS.sorted.find (e.mem.2 ⟨p.2,h⟩)
theorem AID {a:List (Fi×Nat)}{l:List Fi}(p:(a.map (·.1)).Perm l)(s:Gn l):(a.map λb=>b.1.name).Nodup:=by
 have c:(l.map (·.name)).Nodup:=by refine List.pairwise_map.2 (s.imp λd=>Lp d)
 have e:(a.map λb=>b.1.name).Perm (l.map (·.name)):=by have:=p.map (·.name);simpa [AT,FG] using this
 exact(e.nodup_iff).2 c
theorem FM.inj {f:aa}{b g:Nat}{c:List (Fi×Nat)}{m:Bx}(d:FM f b g c m){p a:Fi×Nat}(h:p∈c)(j:a∈c)(k:p.1.name=a.1.name):p=a:=by
 have l:=AID d.perm d.aS.sorted;obtain⟨i,n,rfl⟩:=Ds h;obtain⟨e,o,rfl⟩:=Ds j;have:i=e:=by
  have q:i<(c.map λa=>a.1.name).length:=by simpa using n
  have r:e<(c.map λa=>a.1.name).length:=by simpa using o
  refine(LN (h₀:=q) (h₁:=r) l).1 ?_;simpa using k
 subst this;rfl
theorem FM.set {k h':aa}{b l:Nat}{d:List (Fi×Nat)}{m:Bx}(c:FM k b l d m){p:Fi×Nat}(h:p∈d){g:Fi->Fi}(B: ∀f,(g f).name=f.name)
  (q:h'[p.2]? =some (J2 #[J7 (g p.1).bY,J7 (g p.1).soft] XT (0,0))) (x:Mod (· =p.2) k h') (r:HV {m with files:=P9 p.1.name g m.files}):
  FM h' b l (d.map λa=>(if a.1.name=p.1.name then g a.1 else a.1,a.2)) {m with files:=P9 p.1.name g m.files}:=by
 refine⟨x.ah c.head (c.eQ h).1.symm,?_,?_,?_,?_,r⟩
 ·have e:fh (d.map λa=>(if a.1.name=p.1.name then g a.1 else a.1,a.2))=fh d:=by
   simp only[fh,AT];refine CA λa _=>?_
   grind
  rw[e];exact c.map.mod x (c.eQ h).2.symm
 ·intro a s;obtain⟨n,j,rfl⟩:=List.mem_map.1 s;simp only;by_cases e:n.1.name=p.1.name
  ·rw[if_pos e];have:=c.inj j h e;subst this;exact q
  ·rw[if_neg e];refine x.ah (c.cells n j) λt=>e ?_
   have u:=c.nodup;obtain⟨i,v,rfl⟩:=Ds h;obtain⟨o,w,rfl⟩:=Ds j;have:o=i:=by
    have y:i<(d.map (·.2)).length:=by simpa using v
    have z:o<(d.map (·.2)).length:=by simpa using w
    refine(LN (h₀:=z) (h₁:=y) u).1 ?_;simpa using t
   subst this;rfl
 ·have A:=c.perm.map λf=>if f.name=p.1.name then g f else f
  simpa [P9,AT,FG] using A
 ·simpa [AT,FG] using c.nodup
theorem sC {b d:Nat}{e:List (Fi×Nat)}{g:Fi×Nat->Fi}(c:Nat):KZ b d (e.map λf=>(g f,f.2)) c↔KZ b d e c:=by
 unfold KZ;constructor
 ·grind
 ·rintro(a|a|⟨p,h,rfl⟩)
  ·exact .inl a
  ·exact .inr (.inl a)
  ·exact .inr (.inr ⟨_,List.mem_map.2 ⟨p,h,rfl⟩,rfl⟩)
theorem sD {b:A2L}{v:J0}: ∀ {m:List (A2L×J0)},UM b m=none->Zw b v m=m++ [(b,v)]
 | [],_=>rfl
 |p::m,a=>by
  rw[OY] at a;split at a
  ·cases a
  ·rename_i c;unfold Zw;rw[if_neg c,sD a];rfl
theorem lB {d:aq}{a:aa}{b:Nat}{e f:J0}{down:Bool}{T:Q7}{c:A2K}(g:a[b]? =some (J2 #[e,f,J3 down] T (0,0)))(h:c (J3 down) a):
  AA d P Gi #[Am b] a c:=by
 refine ACi ?_;unfold WV;exact af.no rfl (aD (Aa.mk (AB g rfl) h))
theorem APK {e:aq}{c:aa}{name:A2L}{d:A2K}(a:d (J3 (LY name)) c):AA e P UA #[J7 name] c d:=by
 refine AGS ?_;unfold uR;unfold LY at a;rw[Bw];refine af.intro (λb=>?_) (λb=>?_)
 ·rw[b] at a;exact a
 ·rw[b] at a;have f:decide ((name.size:Int)>(32:Int))=decide (name.size>32):=by grind
  rw[f];simpa using a
def mU(fuel:Int):Int:=if fuel>0 then fuel-1 else fuel
theorem ARW {o:aq}{d:aa}{b:Nat}{h:J0}{fuel:Int}{down:Bool}{T:Q7}{i:A2K}(f:d[b]? =some (J2 #[h,J6 J9 fuel,J3 down] T (0,0)))(q: -1<=fuel)(r:fuel<=9223372036854775807)
  (p:fuel=0-> ∀a,a[b]? =some (J2 #[h,J6 J9 fuel,J3 true] T (0,0))->Mod (· =b) d a->a.size=d.size->i (J3 false) a)
  (e:fuel≠0-> ∀a,a[b]? =some (J2 #[h,J6 J9 (mU fuel),J3 down] T (0,0))->Mod (· =b) d a->a.size=d.size->i (J3 true) a):AA o P Hg #[Am b] d i:=by
 refine ABQ ?_;unfold Te;refine aD (AC.mk (AB f rfl) ?_);refine af.intro (λc=>?_) (λc=>?_)
 ·refine aD (ae.dq f (by simp) λj g k l=>?_);exact p (by simpa using c) j (by simpa using g) k l
 ·have c:fuel≠0:=by simpa using c
  have e:=e c;unfold mU at e;refine ai.mk λK n=>?_
  refine aD (AC.mk (AB f rfl) ?_);refine af.intro (λc=>?_) (λc=>?_)
  ·have m:fuel>0:=by simpa using c
   rw[if_pos m] at e;refine aD (AC.mk (AB f rfl) (aD (ae.dq f (by simp) λj g k l=>n _ _ ?_)));rw[wrap_i64 (by omega) (by omega)] at g;exact e j (by simpa using g) k l
  ·have m: ¬fuel>0:=by simpa using c
   rw[if_neg m] at e;exact n _ _ (e d f Mod.refl rfl)
theorem JR(m:Bx):(IQ m).fuel=mU m.fuel/\(IQ m).down=m.down/\(IQ m).files=m.files:=by grind [IQ,mU]
theorem AKA {m:Bx}(g:HV m):HV (IQ m):=by have:=g.tick m.files g.sorted g.names g.wt;rwa [<- (JR m).2.2] at this
theorem FM.ji {p:aq}{e:aa}{b f:Nat}{g:List (Fi×Nat)}{m:Bx}(d:FM e b f g m){i:A2K}
  (q:m.fuel=0-> ∀a,FM a b f g (NN m)->Mod (KZ b f g) e a->i (J3 false) a)
  (r:m.fuel≠0-> ∀a,FM a b f g (IQ m)->Mod (KZ b f g) e a->a.size=e.size->i (J3 true) a):AA p P Hg #[Am b] e i:=by
 refine ARW d.head d.aS.lo d.aS.hi (λj k l h o=>?_) (λj k l h o=>?_)
 ·exact q j k (d.hd l h rfl d.aS.off) (h.aj λc _ n=> .inl n)
 ·obtain⟨s,t,u⟩:=JR m;refine r j k (d.hd ?_ h u (AKA d.aS)) (h.aj λc _ n=> .inl n) o;rw[s,t];exact l
theorem FM.fH {d:aa}{b a:Nat}{e:List (Fi×Nat)}{m:Bx}(i:FM d b a e m){p:Fi×Nat}(f:p∈e){data:A2L}(l:HV {m with files:=P9 p.1.name (Rw data) m.files}){K:aa->Prop}
  (r: ∀j n,FM j b a n {m with files:=P9 p.1.name (Rw data) m.files}->Mod (KZ b a e) d j->(∀ c,KZ b a n c↔KZ b a e c)->K j):
  At (some ⟨p.2,0,none⟩) λs=>AJ d (s.add 1) λt=>aH (((t.size+data.size:Nat):Int)<=IntKind.i64.max)<|At (some ⟨p.2,0,none⟩) λu=>ae d (u.add 1) (J7 (t++data)) K:=by
 have h:=i.cells p f;refine aD (AJ.mk (AB h rfl) ⟨?_,aD (ae.dq h (by simp) λo v q y=>?_)⟩)
 ·have o:bj (P9 p.1.name (Rw data) m.files)<=8796093022208:=l.wt;have w:Rw data p.1∈P9 p.1.name (Rw data) m.files:=by refine List.mem_map.2 ⟨p.1,i.mem.2 ⟨p.2,f⟩,by simp⟩
  have x:=nV w;simp only[Rw,AQL] at x;simp[IntKind.max,IntKind.bits,IntKind.signed];omega
 ·exact r o _ (i.set f (g:=Rw data) (λ_=>rfl) (by simpa [Rw] using v) q l) (q.aj λc _ h=> .inr (.inr ⟨p,f,h.symm⟩)) (λc=>sC (g:=λk=>if k.1.name=p.1.name then Rw data k.1 else k.1) c)
theorem sE {S:aq}{e:aa}{b:Nat}{l:Nat->Prop}{m:Bx}{name data:A2L}{L:A2K}(k:Cw e b l m)(T:bj m.files+data.size+1<=8796093022208)
  (g: ∀B S',Cw B b S' (EM m name data).2->Mod l e B->(∀ c,S' c->l c\/e.size<=c)->L (J6 J9 (EM m name data).1) B):AA S P Jf #[Am b,J7 name,J7 data] e L:=by
 have n:=k.aS.append (name:=name) (data:=data) T;obtain⟨j,o,k,r⟩:=k;refine X8 ?_;unfold Qs;refine lB k.head ⟨_,rfl,?_⟩;unfold EM at g n;refine af.intro (λhd=>?_) (λhd=>?_)
 ·rw[if_pos hd] at g;exact g e l ⟨j,o,k,r⟩ Mod.refl (λc d=> .inl d)
 rw[if_neg (by simp[hd])] at g n;refine APK ⟨_,rfl,?_⟩;refine af.intro (λw=>?_) (λw=>?_)
 ·rw[if_pos w] at g;exact g e l ⟨j,o,k,r⟩ Mod.refl (λc d=> .inl d)
 rw[if_neg (by simp[w])] at g n;have C: ∀ {q:aa},Mod (KZ b j o) e q->Mod l e q:=λs=>s.aj λc _ d=>(r c).2 d
 refine k.ji (λD q i s=>⟨_,rfl,?_⟩) (λD q i s ae=>⟨_,rfl,?_⟩)
 ·rw[if_pos D] at g;exact af.yes rfl (g q l ⟨j,o,i,r⟩ (C s) (λc d=> .inl d))
 rw[if_neg D] at g n;refine af.no rfl ?_;refine aD (Fa.mk (AO i.head rfl) (Q3 jJ PW lA i.map ?_));rcases i.look name with⟨x,E⟩|⟨p,h,x,E,U⟩
 ·
  rw[x];refine⟨none,rfl,ai.mk λK F=>af.yes rfl ?_⟩;refine ao.mk λag _ V M ah=>?_
  have t:=i.mod M (λ_ _ e=>e);refine aD (Fa.mk (AO t.head rfl) ?_);have W:name.size<=32:=by simp[LY] at w;omega
  have aj:=VP (IQ m).files;have X:o.length=(IQ m).files.length:=by rw[<- i.perm.length_eq];simp
  rw[(JR m).2.2] at X;have ak:=VP m.files;refine ANC jJ PW t.map (by simp[maxLen];omega) (by simp[fh,maxLen];omega) λN O y al=>?_
  rw[sD x] at O;have am:=y.ah V (by have:=i.map.lt;omega);have u:=E;rw[(JR m).2.2] at u;have G:UN name m.files=gW ⟨name,bF,bF⟩ m.files:=by unfold UN;rw[u];rfl
  have Y:=R5 u;have Z:=wB ⟨name,bF,bF⟩ m.files;simp only[nU] at Z;have ab:FM N b j (o++ [(⟨name,bF,bF⟩,q.size)]) {IQ m with files:=gW ⟨name,bF,bF⟩ m.files}:=by
   refine⟨y.ah t.head t.gw.symm,?_,?_,?_,?_,?_⟩
   ·rw[fh,Bm];exact O
   ·intro p h;rcases List.mem_append.1 h with h|h
    ·exact y.ah (t.cells p h) (t.eQ h).2
    simp_all
   ·rw[Bm];refine(List.perm_append_singleton _ _).trans (((i.perm.trans (List.Perm.of_eq (JR m).2.2)).cons _).trans (OO _ _).symm)
   ·rw[Bm];refine List.nodup_append.2 ⟨i.nodup,by simp,?_⟩;intro a ac c d;obtain⟨p,h,rfl⟩:=List.mem_map.1 ac;simp at d;subst d;have:=Ai (i.cells p h);omega
   ·refine k.aS.tick _ (Uc k.aS.sorted Y) (λf H=>?_) (by omega);rcases List.mem_cons.1 ((OO _ _).subset H) with rfl|H
    ·exact W
    ·exact k.aS.names f H
  refine F _ _ ?_;rw[G] at g n;refine ab.fH (p:=(⟨name,bF,bF⟩,q.size)) (by simp) (data:=data) n λI v z J A=>?_
  have Q: ∀c,KZ b j v c->KZ b j o c\/e.size<=c:=λc d=>by
   rcases(A c).1 d with e|e|⟨p,h,rfl⟩
   ·exact .inl (.inl e)
   ·exact .inl (.inr (.inl e))
   ·rcases List.mem_append.1 h with h|h
    ·exact .inl (.inr (.inr ⟨p,h,rfl⟩))
    simp_all
  refine g I (KZ b j v) ⟨j,v,z,λ_=>CI⟩ ?_ (λc d=>(Q c d).imp (r c).2 id);have ad:Mod (KZ b j o) q N:=M.mod.trans (y.aj λc _ d=> .inr (.inl d));refine C ((s.trans ad).then (J.aj λc _ d=>Q c ((A c).2 d)))
 ·
  rw[x];refine⟨some ⟨p.2,0,none⟩,rfl,ai.mk λK F=>af.no rfl (F _ _ ?_)⟩;have u:=E;rw[(JR m).2.2] at u;have G:UN name m.files=m.files:=by unfold UN;rw[u];rfl
  rw[G] at g n;subst U;have R:=(JR m).2.2;refine i.fH h (data:=data) (by rw[R];exact n) λI v z J A=>?_
  refine g I l ⟨j,v,by rw[R] at z;exact z,λc=>(r c).trans (A c).symm⟩ (C (s.trans J)) (λc d=> .inl d)
theorem sF {D:aq}{e:aa}{b:Nat}{o:Nat->Prop}{m:Bx}{name:A2L}{x:A2K}(a:Cw e b o m)
  (d: ∀h',Cw h' b o (Hm m name).2->Mod o e h'->x (J6 J9 (Hm m name).1) h'):AA D P LA #[Am b,J7 name] e x:=by
 have i:=a.aS.sync (name:=name);obtain⟨j,q,a,k⟩:=a;refine ABd ?_;unfold Ux;refine lB a.head ⟨_,rfl,?_⟩;unfold Hm at d i;have y: ∀ {l:aa},Mod (KZ b j q) e l->Mod o e l:=λn=>n.aj λc _ f=>(k c).2 f
 refine af.intro (λhd=>?_) (λhd=>?_)
 ·rw[if_pos hd] at d;exact d e ⟨j,q,a,k⟩ Mod.refl
 rw[if_neg (by simp[hd])] at d i;refine aD (Fa.mk (AO a.head rfl) (Q3 jJ PW lA a.map ?_));rcases a.look name with⟨r,s⟩|⟨p,t,r,s,E⟩
 ·rw[r];rw[s] at d;exact⟨none,rfl,af.yes rfl (d e ⟨j,q,a,k⟩ Mod.refl)⟩
 rw[r];rw[s,if_neg (by simp)] at d i;refine⟨some ⟨p.2,0,none⟩,rfl,af.no rfl ?_⟩;refine a.ji (λu l h n=>⟨_,rfl,?_⟩) (λu l h n H=>⟨_,rfl,?_⟩)
 ·rw[if_pos u] at d;exact af.yes rfl (d l ⟨j,q,h,k⟩ (y n))
 rw[if_neg u] at d i;refine af.no rfl ?_;refine aD (Fa.mk (AO h.head rfl) (Q3 jJ PW lA h.map ?_));rw[r];refine⟨some ⟨p.2,0,none⟩,rfl,?_⟩;have f:=h.cells p t;refine aD (AJ.mk (AO f rfl) (aD (AJ.mk (AB f rfl) ⟨?_,?_⟩)))
 ·have v:=nV (KO s).2;have:=a.aS.wt;simp[IntKind.max,IntKind.bits,IntKind.signed];omega
 refine aD (ae.mk f (by simp) λI F z J=>aD (ae.dq F (by simp) λv G A K=>?_));subst E;have B:=(JR m).2.2;have C:=h.set t (h':=v) (g:=SQ) (λ_=>rfl) (by simpa [SQ] using G) (z.trans A) (by rw[B];exact i);rw[B] at C;refine d v ⟨j,_,C,λc=>(k c).trans (sC (g:=λw=>if w.1.name=p.1.name then SQ w.1 else w.1) c).symm⟩ (y (n.trans ((z.trans A).aj λc _ f=> .inr (.inr ⟨p,t,f.symm⟩))))
theorem p8 {i:aq}{e:aa}{b:Nat}{j:Nat->Prop}{m:Bx}{name:A2L}{g:A2K}(a:Cw e b j m)
  (c:g (J1 #[J7 (UU m name).1,J6 J9 (UU m name).2]) e):AA i P I6 #[Am b,J7 name] e g:=by
 obtain⟨l,n,a,o⟩:=a;refine ABB ?_;unfold TY;refine lB a.head ⟨_,rfl,?_⟩;unfold UU at c;refine af.intro (λhd=>?_) (λhd=>?_)
 ·rw[if_pos hd] at c;exact c
 rw[if_neg (by simp[hd])] at c;refine aD (Fa.mk (AO a.head rfl) (Q3 jJ PW lA a.map ?_));rcases a.look name with⟨f,d⟩|⟨p,k,f,d,q⟩
 ·rw[f];rw[d] at c;exact⟨none,rfl,af.yes rfl c⟩
 rw[f];rw[d] at c;refine⟨some ⟨p.2,0,none⟩,rfl,af.no rfl ?_⟩;have h:=a.cells p k;refine aD (AJ.mk (AO h rfl) (aD (AJ.mk (AB h rfl) ⟨?_,c⟩)));have r:=nV (KO d).2;have:=a.aS.wt;simp[IntKind.max,IntKind.bits,IntKind.signed];omega
theorem AQv(a:A2L)(b:List (Fi×Nat)):iH a (fh b)=fh (b.filter λp=> !decide (p.1.name=a)):=by unfold iH fh;rw[OS];rfl
theorem XK {C:aq}{a:aa}{b:Nat}{i:Nat->Prop}{m:Bx}{name:A2L}{x:A2K}(d:Cw a b i m)
  (e: ∀s S',Cw s b S' (Gs m name).2->Mod i a s->(∀ c,S' c->i c)->x (J6 J9 (Gs m name).1) s):AA C P Ha #[Am b,J7 name] a x:=by
 have k:=d.aS.delete (name:=name);obtain⟨j,l,d,n⟩:=d;refine Yx ?_;unfold Qk;refine lB d.head ⟨_,rfl,?_⟩;unfold Gs at e k;have y: ∀ {g:aa},Mod (KZ b j l) a g->Mod i a g:=λo=>o.aj λc _ q=>(n c).2 q
 refine af.intro (λhd=>?_) (λhd=>?_)
 ·rw[if_pos hd] at e;exact e a i ⟨j,l,d,n⟩ Mod.refl (λ_ a=>a)
 rw[if_neg (by simp[hd])] at e k;refine aD (Fa.mk (AO d.head rfl) (Q3 jJ PW lA d.map ?_));rcases d.look name with⟨t,u⟩|⟨p,z,t,u,F⟩
 ·rw[t];rw[u] at e;exact⟨none,rfl,af.yes rfl (e a i ⟨j,l,d,n⟩ Mod.refl (λ_ a=>a))⟩
 rw[t];rw[u,if_neg (by simp)] at e k;refine⟨some ⟨p.2,0,none⟩,rfl,af.no rfl ?_⟩;refine d.ji (λv g h o=>⟨_,rfl,?_⟩) (λv g h o G=>⟨_,rfl,?_⟩)
 ·rw[if_pos v] at e;exact af.yes rfl (e g i ⟨j,l,h,n⟩ (y o) (λ_ a=>a))
 rw[if_neg v] at e k;refine af.no rfl ?_;refine aD (Fa.mk (AO h.head rfl) (AMj jJ PW h.map λA B w H=>⟨rfl,?_⟩));rw[AQv] at B;have I:=(JR m).2.2;have D:FM A b j (l.filter λp=> !decide (p.1.name=name)) {IQ m with files:=P8 name m.files}:=by
  refine⟨w.ah h.head h.gw.symm,B,λE r=>?_,?_,?_,k⟩
  ·have r:=(List.mem_filter.1 r).1;exact w.ah (h.cells E r) (h.eQ r).2
  ·have g:=d.perm.filter λf=> !decide (f.name=name)
   rw[OS] at g;exact g
  ·exact(List.filter_sublist.map _).nodup d.nodup
 refine e A (KZ b j _) ⟨j,_,D,λ_=>CI⟩ (y (o.trans (w.aj λc _ q=> .inr (.inl q)))) (λc q=>(n c).2 ?_);rcases q with a|a|⟨p,z,rfl⟩
 ·exact .inl a
 ·exact .inr (.inl a)
 ·exact .inr (.inr ⟨p,(List.mem_filter.1 z).1,rfl⟩)
theorem AQ0 {h:aq}{a:aa}{e:A2K}(i: ∀b d f,Cw d b f kU->Ext a d->(∀ c,f c->a.size<=c)->e (Am b) d):AA h P Zl #[] a e:=by
 refine AK4 ?_;unfold uC;refine ao.mk λj _ k l q=>ao.mk λm _ n g r=>?_
 refine i _ m (KZ j.size a.size []) ⟨_,[],⟨n,Ve.empty (g.ah k (by simp)),by simp,GW _,by simp,ANN⟩,λ_=>CI⟩ (l.trans g) ?_;rintro c (rfl|rfl|⟨p,o,_⟩)
 ·omega
 ·exact A0 _
 ·cases o
end Go.Lf.G
namespace Go.Proofs
open Go.Shelf
def Tryz.cA:Go.Shelf.Ren:=⟨λ|105=>220|212=>245|99=>246|165=>247|166=>248|170=>249|169=>250|263=>274|264=>275|206=>276|240=>277|241=>278|276=>294|277=>295|a=>a,λ|9=>9|3=>3|4=>4|20=>20|0=>0|46=>153|109=>339|5=>5|72=>343|76=>294|51=>150|146=>151|53=>140|148=>365|70=>341|37=>69|75=>293|127=>367|164=>380|80=>120|a=>a,λ|a=>a⟩
theorem Tryz.eI:Go.Proofs.Lays.n105 Tryz.prog Tryz.cA:=by repeat' first|exact Lf.Dh (by kernel_rfl)|kernel_rfl|decide|constructor
theorem Tryz.dL:Builder.Extra Tryz.prog Tryz.cA:=by repeat' first|exact Lf.Dh (by kernel_rfl)|kernel_rfl|decide|constructor
theorem Tryz.iy:Lays.n166 Tryz.prog Tryz.cA:= {Tryz.eI with}
theorem Tryz.iz:Lays.n169 Tryz.prog Tryz.cA:= {Tryz.eI with}
def Tryz.eV:Go.Shelf.Ren:=⟨λ|103=>242|210=>263|206=>276|a=>a,λ|9=>9|4=>4|24=>156|3=>3|a=>a,λ|a=>a⟩
theorem Tryz.iA:Go.Proofs.Lays.n103 Tryz.prog Tryz.eV:=by repeat' first|exact Lf.Dh (by kernel_rfl)|kernel_rfl|decide|constructor
def Tryz.cJ:Go.Shelf.Ren:=⟨λ|14=>243|16=>264|17=>224|19=>288|20=>289|21=>253|22=>254|23=>255|24=>256|25=>283|27=>179|26=>284|28=>221|29=>251|30=>279|31=>280|32=>281|33=>282|35=>217|34=>296|36=>297|37=>298|38=>299|39=>301|40=>302|a=>a,λ|9=>9|3=>3|22=>140|24=>293|25=>336|4=>4|34=>345|5=>5|36=>153|37=>69|0=>0|39=>348|21=>21|44=>373|47=>367|50=>388|48=>386|2=>2|52=>368|55=>370|59=>384|60=>150|20=>20|61=>385|65=>390|66=>391|67=>120|a=>a,λ|0=>0|1=>1|2=>2|3=>4|4=>5|a=>a⟩
theorem Tryz.dM:Go.Proofs.LaysPu.n14 Tryz.prog Tryz.cJ:=by repeat' first|exact Lf.Dh (by kernel_rfl)|kernel_rfl|decide|constructor
def Tryz.eJ:Go.Shelf.Ren:=⟨λ|171=>179|243=>221|246=>251|283=>279|284=>280|285=>281|286=>282|129=>217|317=>296|318=>297|319=>298|320=>299|337=>301|338=>302|a=>a,λ|3=>3|9=>9|2=>2|4=>4|171=>368|0=>0|53=>140|37=>69|5=>5|173=>370|212=>384|51=>150|20=>20|213=>385|46=>153|232=>390|233=>391|a=>a,λ|17=>2|18=>4|19=>5|a=>a⟩
theorem Tryz.gA:Go.Proofs.LaysM.n171 Tryz.prog Tryz.eJ:=by repeat' first|exact Lf.Dh (by kernel_rfl)|kernel_rfl|decide|constructor
def Tryz.eK:Go.Shelf.Ren:=⟨λ|172=>185|244=>223|245=>224|247=>252|279=>253|280=>254|281=>255|282=>256|287=>264|316=>283|171=>179|205=>284|321=>288|322=>289|243=>221|246=>251|283=>279|284=>280|285=>281|286=>282|129=>217|317=>296|318=>297|319=>298|320=>299|337=>301|338=>302|a=>a,λ|9=>9|3=>3|75=>293|76=>294|4=>4|5=>5|167=>345|37=>69|0=>0|85=>346|2=>2|168=>348|53=>140|175=>336|46=>153|210=>373|127=>367|145=>388|143=>386|21=>21|171=>368|173=>370|212=>384|51=>150|20=>20|213=>385|232=>390|233=>391|80=>120|a=>a,λ|15=>0|16=>1|17=>2|18=>4|19=>5|a=>a⟩
theorem Tryz.gB:Go.Proofs.LaysC.n172 Tryz.prog Tryz.eK:=by repeat' first|exact Lf.Dh (by kernel_rfl)|kernel_rfl|decide|constructor
end Go.Proofs
namespace Go.Lf
open Go
def OV(a:Nat):List UInt8:=Lib.repeatL [48] (8-(Lib.decDigits a).length)++Lib.decDigits a
def TP(a:Nat)(l:List UInt8):Nat:=l.foldl (λa c=>a*10+(c.toNat-48)) a
def lV(l:List UInt8):Prop:= ∀c∈l,48<=c.toNat/\c.toNat<=57
theorem nS {a:Nat}(b:a<10):(UInt8.ofNat (48+a)).toNat=48+a:=by simp only[UInt8.toNat_ofNat'];omega
theorem ZF: ∀a:Nat,lV (Lib.decDigits a)/\TP 0 (Lib.decDigits a)=a:=by
 intro a
 induction a using Nat.strongRecOn with
 |ind a g=>
  by_cases d:a<10
  ·rw[Lib.decDigits,dif_pos d];refine⟨λc b=>?_,?_⟩
   ·rw[List.mem_singleton.1 b,nS d];omega
   ·simp only[TP,I2,N4,nS d];omega
  ·rw[Lib.decDigits,dif_neg d];obtain⟨h,e⟩:=g (a / 10) (by omega);have f:a % 10<10:=CC _ (by decide);refine⟨λc b=>?_,?_⟩
   ·rcases List.mem_append.1 b with b|b
    ·exact h c b
    ·rw[List.mem_singleton.1 b,nS f];omega
   ·unfold TP at e ⊢;rw[Hi,e];simp only[I2,N4,nS f];omega
theorem qJ: ∀k:Nat,lV (Lib.repeatL [48] k)/\ ∀l,TP 0 (Lib.repeatL [48] k++l)=TP 0 l
 |0=>⟨λc a=>(by cases a),λl=>rfl⟩
 |k+1=>by
  obtain⟨b,d⟩:=qJ k;refine⟨λc a=>?_,λl=>?_⟩
  ·rcases List.mem_append.1 a with a|a
   ·rw[List.mem_singleton.1 a];decide
   ·exact b c a
  ·show TP 0 (([48]++Lib.repeatL [48] k)++l)=_;rw[A3];exact d l
theorem qK(a:Nat):lV (OV a)/\TP 0 (OV a)=a:=by
 refine⟨λc b=>?_,?_⟩
 ·rcases List.mem_append.1 b with b|b
  ·exact(qJ _).1 c b
  ·exact(ZF a).1 c b
 ·exact((qJ _).2 _).trans (ZF a).2
theorem qL: ∀(l:List UInt8) (a:Nat),a<=TP a l
 | [],a=>A0 _
 |c::l,a=>by
  have:=qL l (a*10+(c.toNat-48));have b:TP a (c::l)=TP (a*10+(c.toNat-48)) l:=rfl;rw[b];omega
theorem w9: ∀(l:List UInt8) (a:Nat),lV l->TP a l<=4294967295->Lib.parseUintM 4294967295 a l= .ok (TP a l)
 | [],a,_,_=>rfl
 |c::l,a,hd,b=>by
  have d:TP a (c::l)=TP (a*10+(c.toNat-48)) l:=rfl;rw[d] at b ⊢;have e:=hd c (by simp);have g:=qL l (a*10+(c.toNat-48));unfold Lib.parseUintM;rw[if_pos e,if_neg (by omega),if_neg (by omega)];exact w9 l _ (λx f=>hd x (AG _ f)) b
theorem wc: ∀(l:List UInt8) (a:Nat) {u:Nat},a<=4294967295->Lib.parseUintM 4294967295 a l= .ok u->u<=4294967295
 | [],a,u,d,b=>by
  unfold Lib.parseUintM at b;injection b with b;omega
 |c::l,a,u,d,b=>by
  unfold Lib.parseUintM at b;split at b
  ·split at b
   ·cases b
   ·split at b
    ·cases b
    ·exact wc l _ (by omega) b
  ·cases b
theorem we {a:Nat}(d:a<=4294967295):Lib.parseUintB 32 (OV a)= .ok a:=by
 obtain⟨e,b⟩:=qK a;have f:OV a≠ []:=by intro g;have h:Lib.decDigits a= []:=(List.append_eq_nil_iff.1 g).2;have c:=congrArg List.length h;rw[Lib.decDigits_length] at c;have:=Lib.nDigits_pos a;simp at c;omega
 unfold Lib.parseUintB;rw[if_neg f];have:=w9 (OV a) 0 e (by rw[b];exact d);rw[b] at this;exact this
theorem AP7 {a b:Nat}(d:OV a=OV b):a=b:=by have c:=(qK a).2;rw[d,(qK b).2] at c;exact c.symm
theorem AJb {k:Nat}: ∀ {n:Nat},n<10^(k+1)->Lib.nDigits n<=k+1:=by
 induction k with
 |zero=>intro n a;rw[Lib.nDigits_small (by simpa using a)];omega
 |succ k c=>
  intro n a;by_cases b:n<10
  ·rw[Lib.nDigits_small b];omega
  ·rw[Lib.nDigits_big b];have:=c (n:=n / 10) (by rw[DH] at a;omega);omega
theorem wg {n:Nat}(a:n<=99999999):(OV n).length=8:=by have b:=AJb (k:=7) (n:=n) (by have:(10:Nat)^(7+1)=100000000:=(by decide);omega);simp only[OV,A1,Lib.repeatL_length,Lib.decDigits_length,Cd];omega
theorem AJ0 {a:Nat}(b:(OV a).length=8):a<=99999999:=by
 have c:Lib.nDigits a<=8:=by simp only[OV,A1,Lib.repeatL_length,Lib.decDigits_length,Cd] at b;omega
 have d:=Lib.lt_pow_nDigits a;have e:(10:Nat)^Lib.nDigits a<=10^8:=RM (by decide) c;have:(10:Nat)^8=100000000:=by decide
 omega
def aC(a:A2L)(b:Nat):A2L:=a++AY (OV b)
theorem RZ(a:A2L)(b:Nat):bl (aC a b)=bl a++OV b:=by show(a++AY (OV b)).data.toList=a.data.toList++OV b;rw[Kd,N6];exact congrArg _ (Bh _)
theorem Ij {a:A2L}{b c:Nat}(e:aC a b=aC a c):b=c:=by have d:=congrArg bl e;rw[RZ,RZ] at d;exact AP7 (Kf d)
theorem APi {nm:A2L}{a:Nat}(b:a<=99999999):(aC nm a).size=nm.size+8:=by rw[aC,Kp,AP,wg b]
inductive NQ:List UInt8->List (List UInt8)->Prop
 |stop {l:List UInt8} (h:(Gv l).1≠0):NQ l []
 |step {l:List UInt8} {rs:List (List UInt8)} (h:(Gv l).1=0) (s:NQ (Gv l).2.2 rs):NQ l ((Gv l).2.1::rs)
theorem qM {l:List UInt8}(a:(Gv l).1=0):(Gv l).2.1.length+(Gv l).2.2.length<l.length:=by
 unfold Gv at a ⊢;cases b:Mh 0 0 l with
 |none=>rw[b] at a;dsimp only at a;split at a<;>cases a
 |some p=>
  obtain⟨g,t⟩:=p;rw[b] at a;obtain⟨c,_⟩:=mj b;have h:t.length<=l.length:=by rw[c];simp
  dsimp only at a ⊢;split at a
  ·cases a
  ·rename_i d;split at a
   ·cases a
   ·rename_i e;split at a
    ·rename_i f;rw[if_neg d,if_neg e,if_pos f];simp only[Ax,DQ];omega
    ·cases a
theorem qN: ∀(k:Nat) (l:List UInt8),l.length<=k-> ∃a,NQ l a/\(a.map (·.length+1)).sum<=l.length
 |0,l,c=>by
  have:l= []:=Dd (by omega);subst this;exact⟨[],.stop (by decide),by simp⟩
 |k+1,l,c=>by
  by_cases b:(Gv l).1=0
  ·have e:=qM b;obtain⟨a,d,f⟩:=qN k (Gv l).2.2 (by omega);exact⟨_,.step b d,by simp only[B9,GO];omega⟩
  ·exact⟨[],.stop b,by simp⟩
theorem NQ.uniq {l:List UInt8}{d ts:List (List UInt8)}(a:NQ l d):NQ l ts->d=ts:=by
 induction a generalizing ts with
 |stop a=>
  intro c;cases c with
  |stop=>rfl
  |step b=>exact absurd b a
 |step a s e=>
  intro c;cases c with
  |stop b=>exact absurd a b
  |step b f=>rw[e f]
noncomputable def kT (l:List UInt8):List (List UInt8):=(qN l.length l (A0 _)).choose
theorem qO(l:List UInt8):NQ l (kT l):=(qN l.length l (A0 _)).choose_spec.1
theorem APb {l:List UInt8}{a:List (List UInt8)}(b:NQ l a):kT l=a:=(qO l).uniq b
abbrev aJ(a:List (List UInt8)):List UInt8:=a.flatMap Cv
theorem Rh {rs:List (List UInt8)}(c: ∀a∈rs,a.length<=1048576){t:List UInt8}(d:(Gv t).1≠0):NQ (aJ rs++t) rs:=by
 induction rs with
 |nil=>exact .stop d
 |cons a rs e=>
  have b:=xR (l:=a) (c a (by simp)) (aJ rs++t);have f:aJ (a::rs)++t=Cv a++(aJ rs++t):=by simp
  rw[f];have:=NQ.step (l:=Cv a++(aJ rs++t)) (rs:=rs) (by rw[b]) (by rw[b];exact e λx g=>c x (AG _ g));rw[b] at this;exact this
theorem UI:(Gv []).1≠0:=by decide
theorem AM7 {a:List UInt8}(m:a.length<=1048576){b:Nat}(n:b<(Cv a).length):(Gv ((Cv a).take b)).1≠0:=by
 have d:(Cv a).take b++(Cv a).drop b=Cv a:=DA _ _;have o:((Cv a).drop b).length≠0:=by rw[DQ];omega
 generalize (Cv a).take b=p at*
 generalize (Cv a).drop b=e at*
 unfold Gv;cases f:Mh 0 0 p with
 |none=>dsimp only;split<;>simp
 |some z=>
  obtain⟨g,t⟩:=z;obtain⟨h,i⟩:=mj f;have j:Mh 0 0 (Cv a)=some (g,t++e):=by rw[<- d,h,A3];exact VN i _
  have c:Mh 0 0 (Cv a)=some (a.length,Q4 (jd a)++a):=by unfold Cv;rw[A3];exact VN (by omega) _
  rw[j] at c;obtain⟨rfl,k⟩:=Prod.mk.inj (BY c);have l:=congrArg List.length k;simp only[A1,Kc] at l;dsimp only;rw[if_neg (by omega),if_pos (by omega)];simp
theorem JQ {r:List UInt8}(a:r.length<=1048576):r.length+5<=(Cv r).length/\(Cv r).length<=r.length+14:=by
 have b:=AV (n:=r.length) (by omega);have c:1<=(Bc r.length).length:=by rw[Bc];split<;>simp
 simp only[Cv,A1,Kc];omega
end Go.Lf
namespace Go.Lf.G
open Go
def oD:String:=Proofs.YtgpmoonnachoaaaGreatDoor.Rows.archiveMovesRow.named.getD 2 (String.ofList [])
def cT(a:aa):Prop:= ∀(b:aq) (c:Nat),Lib.TabIs P (b.at a c) oD .u64 Lib.pow10Tab
theorem cT.ext {a b:aa}(t:cT a)(x:Ext a b):cT b:=by intro c d;have e:=(Lib.tabBelow_of_tabIs (t c d)) (c.at b d) ⟨rfl,rfl,rfl,x.size,λf g=>x.get f g (λa=>a)⟩;exact e
def kY(b:aa)(g:Nat):Prop:= ∃a,ag b ⟨g,0,none⟩=some a/\(a= .nilIface\/ ∃c d,a= .iface c d)
theorem kY.ext {a b:aa}{g:Nat}(c:kY a g)(x:Ext a b):kY b g:=by obtain⟨d,e,f⟩:=c;exact⟨d,x.ag e,f⟩
structure bZ (h:aa):Prop where
 cN:cT h
 rY:kY h (Proofs.Tryz.cJ.g 0)
 rZ:kY h (Proofs.Tryz.cJ.g 1)
theorem bZ.ext {b c:aa}(a:bZ b)(x:Ext b c):bZ c:=⟨a.cN.ext x,a.rY.ext x,a.rZ.ext x⟩
theorem rv {e:aq}{d:aa}{i:Nat}{a:World}(b:RowKit.Below d.size (e.at d i) a):a=e.at a.heap a.drawn/\Ext d a.heap:=by obtain⟨f,g,h,j,k⟩:=b;refine⟨?_,⟨j,λc l _=>k c l⟩⟩;cases a;simp only[aq.at] at f g h ⊢;subst f g h;rfl
theorem yo {d:aq}{b:aa}{e:Nat}{a:Q6}{v:J0}(c:ag b a=some v):(d.at b e).cell? a=some v:=by unfold ag at c;unfold World.cell?;exact c
theorem yp {d:aq}{a:aa}{c:Int}{e:A2K}(t:cT a)(g: -9223372036854775808<=c)(h:c<=9223372036854775807)(i: ∀f,Ext a f->e (J7 ⟨(Lib.itoa c).toArray⟩) f):
  AA d P Ou #[J6 J9 c] a e:=by
 intro m;refine Calls.mono (Proofs.Any.strconv_Itoa Proofs.Tryz.gA c g h (d.at a m) (t d m)) ?_;rintro l n ⟨rfl,j,os,rfl⟩;refine⟨_,rfl,a++os,m+j,rfl,i _ ⟨by simp,λb k _=>by rw[My k]⟩⟩
theorem ANQ {b:aq}{a:aa}{s:A2L}{c:Nat}{d:A2K}(g:c<=8)(h:s.size<=8)(i: ∀e,Ext a e->d (J7 (AY (Lib.repeatL (bl s) c))) e):
  AA b P Qd #[J7 s,J6 J9 c] a d:=by
 intro m;have k:s.size*c<=8*8:=Nat.mul_le_mul h g;refine Calls.mono (Proofs.Any.strings_Repeat Proofs.Tryz.eI Proofs.Tryz.dL s c (b.at a m) (by omega) (by omega)) ?_;rintro l f ⟨rfl,hB⟩;obtain⟨j,x⟩:=rv hB;exact⟨_,rfl,f.heap,f.drawn,j,i _ x⟩
theorem AGV {b:aq}{a:aa}{s p:A2L}{c:A2K}(d:c (J1 #[J7 (AY (Lib.trimPrefix (bl s) (bl p))),J3 (Lib.hasPrefix (bl s) (bl p))]) a):
  AA b P NU #[J7 s,J7 p] a c:=by
 intro m;refine Calls.mono (Proofs.Any.strings_CutPrefix Proofs.Tryz.iA s p (b.at a m)) ?_;rintro e f ⟨rfl,rfl⟩;exact⟨_,rfl,a,m,rfl,d⟩
theorem AOz {g:aq}{a:aa}{s:A2L}{h:A2K}(o:bZ a)(y:s.size<=8)
  (p: ∀u:Nat,Lib.parseUintB 32 (bl s)= .ok u-> ∀e,Ext a e->h (J1 #[.int .u64 u,.nilIface]) e)
  (q:(∀ u,Lib.parseUintB 32 (bl s)≠ .ok u)-> ∀e (w:Int) t v,Ext a e->h (J1 #[.int .u64 w,.iface t v]) e):
  AA g P Ni #[J7 s,J6 J9 10,J6 J9 32] a h:=by
 intro m;cases c:Lib.parseUintB 32 (bl s)
 ·rename_i u;refine Calls.mono (Proofs.Any.strconv_ParseUint_10_at32_ok Proofs.Tryz.dM s (by omega) u c (g.at a m)) ?_;rintro r d ⟨rfl,i|i⟩
  ·subst i;exact⟨_,rfl,a,m,rfl,p u c a Mod.refl⟩
  ·subst i;refine⟨_,rfl,_,_,rfl,p u c _ ?_⟩;refine⟨?_,λb z _=>?_⟩
   ·simp[Lib.bytesWorld,World.freeze,World.alloc,World.drew,aq.at]
   ·simp[Lib.bytesWorld,World.freeze,World.alloc,World.drew,aq.at,GC,Array.getElem?_push];rw[if_neg (by omega),if_neg (by omega)]
 ·obtain⟨j,k,l⟩:=o.rY;refine Calls.mono (Proofs.Any.strconv_ParseUint_10_at32_syntax Proofs.Tryz.dM s (by omega) c j (g.at a m) (yo k) l) ?_;rintro r d ⟨N,rfl,_,_,hB⟩;obtain⟨n,x⟩:=rv hB;exact⟨_,rfl,d.heap,d.drawn,n,q (λu f=>by rw[c] at f;cases f) _ _ _ _ x⟩
 ·obtain⟨j,k,l⟩:=o.rZ;refine Calls.mono (Proofs.Any.strconv_ParseUint_10_at32_range Proofs.Tryz.dM s (by omega) c j (g.at a m) (yo k) l) ?_;rintro r d ⟨N,rfl,_,_,hB⟩;obtain⟨n,x⟩:=rv hB;exact⟨_,rfl,d.heap,d.drawn,n,q (λu f=>by rw[c] at f;cases f) _ _ _ _ x⟩
theorem YV {g:aq}{c:aa}{b:A2L}{a:Nat}{d:A2K}(h:bZ c)(p:a<=4294967295)(q:b.size<=1099511627776)(i: ∀e,Ext c e->d (J7 (aC b a)) e):
  AA g P KS #[J7 b,J6 J9 a] c d:=by
 refine AHu ?_;unfold ur;refine yp h.cN (by omega) (by omega) λr j=>⟨_,rfl,?_⟩
 have k:Lib.itoa (a:Int)=Lib.decDigits a:=Lib.itoa_nonneg a;rw[k];have f:(⟨(Lib.decDigits a).toArray⟩:A2L).size=(Lib.decDigits a).length:=by simp[ByteArray.size]
 have s:(Lib.decDigits a).length<=20:=by rw[Lib.decDigits_length];exact Lib.nDigits_le20 a (by omega)
 have l:(if((J8 J9 ((8:Int)-(((⟨(Lib.decDigits a).toArray⟩:A2L).size:Nat):Int))):Int)>0 then(J8 J9 ((8:Int)-(((⟨(Lib.decDigits a).toArray⟩:A2L).size:Nat):Int))) else 0)=((8-(Lib.decDigits a).length:Nat):Int):=by rw[f,wrap_i64 (by omega) (by omega)];split<;>omega
 rw[l];refine ANQ (by omega) (by decide) λm n=>⟨_,rfl,?_,?_,?_⟩
 ·have:(AY (Lib.repeatL (bl ⟨#[48]⟩) (8-(Lib.decDigits a).length))).size<=8:=by rw[AP,Lib.repeatL_length];simp[bl]
  rw[max_i64];omega
 ·have:(AY (Lib.repeatL (bl ⟨#[48]⟩) (8-(Lib.decDigits a).length))).size<=8:=by rw[AP,Lib.repeatL_length];simp[bl]
  rw[Kp,max_i64,f];omega
 ·have:=i m (j.trans n);have o:aC b a=(b++AY (Lib.repeatL (bl ⟨#[48]⟩) (8-(Lib.decDigits a).length)))++⟨(Lib.decDigits a).toArray⟩:=by rw[aC,OV,<-Ak,ByteArray.append_assoc];rfl
  rw[o] at this;exact this
theorem AMu {I:aq}{h:aa}{c s:A2L}{q:A2K}(C:bZ h)(J:c.size<=1099511627776)(U:s.size<=1099511627776)
  (D: ∀i (k:Nat),Ext h i->(k=0-> ∀a:Nat,1<=a->a<=99999999->s≠aC c a)->(k≠0->k<=99999999/\s=aC c k)->q (J6 J9 k) i):
  AA I P Rx #[J7 c,J7 s] h q:=by
 refine AEj ?_;unfold Xp;have m: ∀i,Ext h i->(∀ a:Nat,1<=a->a<=99999999->s≠aC c a)->q (J6 J9 0) i:=λi x r=>D i 0 x (λ_=>r) (λh=>absurd rfl h)
 refine AGV ⟨_,_,rfl,?_⟩;cases l:Lib.hasPrefix (bl s) (bl c) with
 |false=>
  refine ai.mk λK o=>af.yes rfl (o _ _ (af.yes rfl (m h Mod.refl λa _ _ g=>?_)))
  subst g;rw[RZ] at l;unfold Lib.hasPrefix at l;rw[OK] at l;exact l (List.isPrefixOf_iff_prefix.2 (List.prefix_append _ _))
 |true=>
  have E:=l;unfold Lib.hasPrefix at E;obtain⟨f,hd⟩:=List.isPrefixOf_iff_prefix.1 E;have L:Lib.trimPrefix (bl s) (bl c)=f:=by unfold Lib.trimPrefix;rw[if_pos l,<-hd];simp
  rw[L];refine ai.mk λK o=>af.no rfl ?_
  have M: ∀b:Bool,b=true->(∀ a:Nat,1<=a->a<=99999999->s≠aC c a)->K (b,()) h:=λb N r=>o _ _ (af.yes N (m h Mod.refl r))
  have F:(AY f).size=f.length:=AP f;by_cases w:f.length=8
  ·refine o _ _ (af.no (by simp[F,w]) ?_);have G:bl (AY f)=f:=EN f;refine AOz C (by omega) (λu j e p=>⟨_,_,rfl,?_⟩) (λj e k t v p=>⟨_,_,rfl,ai.mk λO y=>?_⟩)
   ·rw[G] at j;have Q:u<=4294967295:=by
     have:Lib.parseUintB 32 f= .ok u:=j;unfold Lib.parseUintB at this;split at this
     ·cases this
     ·exact wc f 0 (by omega) this
    have R:J8 J9 (u:Int)=(u:Int):=wrap_i64 (by omega) (by omega);rw[R];refine ai.mk λO y=>?_
    refine⟨trivial,af.no rfl ?_⟩;refine YV (C.ext p) Q J λz S=>⟨_,rfl,y _ _ ?_⟩
    have A:=p.trans S;refine af.intro (λd=>?_) (λd=>?_)
    ·have d:aC c u≠s:=by
      intro g;have:bO (aC c u) s=true:=by rw[Bw];exact decide_eq_true g
      dsimp only at d;rw[this] at d;cases d
     refine m z A λa _ B g=>d ?_
     have e:bl s=bl c++OV a:=by rw[g,RZ]
     rw[<- hd] at e;have n:f=OV a:=Kf e;rw[n,we (by omega)] at j;have:a=u:=by injection j
     rw[<- this];exact g.symm
    ·have d:aC c u=s:=by
      have d:(!bO (aC c u) s)=false:=d;have d:bO (aC c u) s=true:=by simpa using d
      rw[Bw] at d;exact of_decide_eq_true d
     have e:bl s=bl c++OV u:=by rw[<- d,RZ]
     rw[<- hd] at e;have n:f=OV u:=Kf e;have T:u<=99999999:=AJ0 (by rw[<- n];exact w);by_cases H:u=0
     ·subst H;refine m z A λa V _ g=>?_
      have:=Ij (g.symm.trans d.symm);omega
     ·exact D z u A (λh=>absurd h H) λ_=>⟨T,d.symm⟩
   ·rw[G] at j;refine⟨trivial,af.yes rfl (y _ _ (af.yes rfl (m e p λa _ B g=>?_)))⟩;have e:bl s=bl c++OV a:=by rw[g,RZ]
    rw[<- hd] at e;have n:f=OV a:=Kf e;exact j a (by rw[n];exact we (by omega))
  ·refine M _ (by simp[F];omega) λa _ B g=>w ?_
   have e:bl s=bl c++OV a:=by rw[g,RZ]
   rw[<- hd] at e;rw[Kf e,wg B]
open Go Go.ChangeShapes Go.WideShapes Go.ChangeAt Go.RowKit Go.Proofs.YtgpmoonnachoaaaGreatDoor
theorem vL {H:Type}{enc:Q7×J0->H}{P:Q1}(d:laidOutB P=true){e f:World}{g:Nat->Bool}: ∀ {ts:List Q7} {c:List J0} {ds:List (DataW H)} {ps:List MemPlace},
  (ts.all λt=>P.readableRec t&&decide (t<P.types.size))=true->DataW.TrodAll enc P e 0 (λ_=>true) true ts c ds ps->(∀ p∈ps,e.sameAt f p)->(∀ p∈ps,g p.block=true)->DataW.TrodAll enc P f 0 g true ts c ds ps
 | [],[],[],_,_,j,_,_=>j
 |t::ts,v::c,o::ds,_,b,⟨p,k,l,m,n⟩,h,i=>by
  simp only[N5,A4,decide_eq_true_eq] at b;subst n;exact⟨p,k,WideElems.Trod_stays d b.1.1 b.1.2 l (λx a=>h x (Hc _ a)) (λx a=>i x (Hc _ a)),
   vL d (by simpa using b.2) m (λx a=>h x (ID _ a)) (λx a=>i x (ID _ a)),rfl⟩
def lS(a:World):aq:=⟨a.tape,a.os,a.output⟩
theorem AO8 {H:Type}{enc:Q7×J0->H}{P:Q1}{f:Func}{s:ChangeSpec}{a:World}{args:Array J0}{ds d:List (DataW H)}{j:List MemPlace}{q:Q7}{e:aa}{k:Nat}
  (l:DataW.Whole enc P f.params.toList s.vars false a args.toList ds d j) (r:s.vars= []) (y:(s.fn H (ds++d)).results= [.lit (.bool true)]) (z:(s.fn H (ds++d)).args=ds) (A:(s.fn H (ds++d)).vars= [])
  (B:laidOutB P=true) (g:(f.params.toList.all λt=>P.readableRec t&&decide (t<P.types.size))=true) (C:f.resultTypes= #[q]) (D:P.underlying q=some .bool) (x:Ext a.heap e):
  s.post enc P f false true false false a args (.bool true) ((lS a).at e k):=by
 have u:=λp (g:p∈j)=>l.lt p g
 have E: ∀p∈j,a.sameAt ((lS a).at e k) p:=λp g=>by
  have v:e[p.block]? =a.heap[p.block]? :=x.get _ (u p g) (λh=>h);cases p with
  |cell b off=>
   show ag e ⟨b,off,none⟩=ag a.heap ⟨b,off,none⟩;exact Qh v
  |map b=>exact v
 obtain⟨p,F,hA,m,rfl,L,M⟩:=id l;rw[r] at m;have G:d= []/\F= []:=by
  cases d with
  |nil=>exact⟨rfl,m⟩
  |cons _ _=>exact m.elim
 obtain⟨rfl,rfl⟩:=G;refine⟨ds,[],p++ [],[],p,[],l,?_,?_,?_,?_,λh=>by cases h⟩
 ·rw[y,C];exact⟨[],[],⟨1,by simp[DataW.trod,Value.cells,D]⟩,rfl,rfl⟩
 ·rw[z];exact vL B g hA (λn o=>E n (Hc _ o)) (λn o=>by simpa using u n (Hc _ o))
 ·rw[r,A];rfl
 ·refine⟨rfl,rfl,λi I=>?_⟩;have J:((lS a).at e k).heap[i]? =a.heap[i]? :=x.get i I (λh=>h);rw[J];cases N:a.heap[i]? with
  |none=>trivial
  |some K=>
   cases K with
   |cells c t fr=>exact⟨rfl,rfl,rfl,λ_ _=>rfl⟩
   |map O Q=>exact .inr ⟨rfl,rfl⟩
   |_=>rfl
theorem laid:laidOutB P=true:=by kernel_rfl
section
variable {H : Type} {enc : Q7 × J0 -> H} {w : World} {base : Nat} {spare : Nat -> Bool} {held : Bool}
end
theorem vM:P.underlying Bp=some (.int J9):=by kernel_rfl
theorem ASP:P.underlying qz=some .bool:=by kernel_rfl
theorem qB:P.underlying BF=some .string:=by kernel_rfl
theorem AT0:P.cellsOf BF=1:=by kernel_rfl
theorem wf_i64 {a:Int}(b:(Lit.int J9 a).wf=true): -9223372036854775808<=a/\a<=9223372036854775807:=by simp[Lit.wf,IntKind.min,IntKind.max,IntKind.bits,IntKind.signed] at b;omega
section
variable {H : Type} {enc : Q7 × J0 -> H} {w : World} {base : Nat} {spare : Nat -> Bool} {held : Bool}
end
theorem ARQ {H:Type}{enc:Q7×J0->H}{b:World}{base:Nat}{v:J0}{a:DataW H}{ps:List MemPlace}(d:Value.okWide P b .any base BF v)(e:DataW.Trod enc P b 0 (λ_=>true) true BF v a ps):
  ∃s:A2L,v= .string s/\s.size+1<=Rows.uptoBulk a:=by
 obtain⟨s,rfl⟩:=okWide_string qB d;obtain⟨h,f⟩:=e;obtain⟨i,c,g,j⟩:=DataW.trod_string qB f;simp[Value.cells] at c;subst c;refine⟨s,rfl,?_⟩;rw[show a=_ from congrArg Prod.fst g];have:s.data.toList.length=s.size:=by rw[DO];rfl
 simp only[Rows.uptoBulk];omega
end Go.Lf.G
namespace Go.Lf
open Go
def xK(a:A2L)(i:Nat):Nat:=(mg a+i*ox a) % 4294967296
def cM(a:A2L)(m i:Nat):Nat:=xK a i % (8*m)
def TM(f:List UInt8)(a:Nat):Bool:=((f[a / 8]?).getD 0).toNat.testBit (a % 8)
def gq(f:List UInt8)(a:Nat):List UInt8:=f.set (a / 8) (CL (((f[a / 8]?).getD 0).toNat ||| 2^(a % 8)))
theorem AQU(f:List UInt8)(a:Nat):(gq f a).length=f.length:=by simp[gq]
theorem wq {c a:Nat}(b:c<256)(d:a<8):c ||| 2^a<256:=by have e:2^a<2^8:=Nat.pow_lt_pow_right (by decide) d;have:c ||| 2^a<2^8:=Ks (by simpa using b) e;simpa using this
theorem ARP {f:List UInt8}{a:Nat}(c:a / 8<f.length)(x:Nat):TM (gq f a) x=(TM f x||decide (x=a)):=by
 unfold TM gq;have d:a % 8<8:=CC _ (by decide);by_cases b:x / 8=a / 8
 ·rw[b,HN c,HI,Dc (wq (UInt8.toNat_lt _) d),Nat.testBit_or,Nat.testBit_two_pow];congr 1;rw[DS,decide_eq_true_iff,decide_eq_true_iff];omega
 ·rw[JT (by omega)];have:x≠a:=λe=>b (by rw[e])
  simp[this]
def Yv(m:Nat)(f:List UInt8)(a:A2L):List UInt8:=(List.range 4).foldl (λf i=>gq f (cM a m i)) f
theorem qR {k:A2L}{m i:Nat}(a:1<=m):cM k m i<8*m:=CC _ (by omega)
theorem Uk {k:A2L}{m:Nat}(b:1<=m): ∀(l:List Nat) (f:List UInt8),f.length=m->(l.foldl (λf i=>gq f (cM k m i)) f).length=m/\ ∀x,TM (l.foldl (λf i=>gq f (cM k m i)) f) x=(TM f x||l.any λi=>decide (x=cM k m i))
 | [],f,a=>⟨a,λx=>by simp⟩
 |i::l,f,a=>by
  have c:cM k m i / 8<f.length:=by have:=qR (k:=k) (i:=i) b;omega
  obtain⟨d,e⟩:=Uk (k:=k) b l (gq f (cM k m i)) (by rw[AQU,a]);refine⟨d,λx=>?_⟩;rw[I2,e,ARP c,List.any_cons,Bool.or_assoc]
theorem AN5 {k:A2L}{m:Nat}(a:1<=m){f:List UInt8}(b:f.length=m):(Yv m f k).length=m:=(Uk a _ f b).1
theorem APd {a:A2L}{m:Nat}(b:1<=m){f:List UInt8}(c:f.length=m){x:Nat}(d:TM f x=true):TM (Yv m f a) x=true:=by unfold Yv;rw[(Uk b _ f c).2,d];rfl
theorem AOL {a:A2L}{m:Nat}(b:1<=m){f:List UInt8}(c:f.length=m){i:Nat}(d:i<4):TM (Yv m f a) (cM a m i)=true:=by unfold Yv;rw[(Uk b _ f c).2,DE];right;rw[List.any_eq_true];exact⟨i,List.mem_range.2 d,by simp⟩
def NL(m:Nat):List UInt8:=List.replicate m 0
def kg(a:List A2L)(m:Nat):List UInt8:=a.foldl (Yv m) (NL m)
def nT(f:List UInt8)(a:A2L):Bool:=(List.range 4).all λi=>TM f (cM a f.length i)
def gU(f:List UInt8)(a:A2L):Bool:=decide (f≠ [])&&decide (f.length<=8192)&&nT f a
theorem VZ {m:Nat}(c:1<=m): ∀(a:List A2L) (f:List UInt8),f.length=m->(a.foldl (Yv m) f).length=m/\(∀ x,TM f x=true->TM (a.foldl (Yv m) f) x=true)/\ ∀k∈a,∀i,i<4->TM (a.foldl (Yv m) f) (cM k m i)=true
 | [],f,b=>⟨b,λx d=>d,λk j=>by cases j⟩
 |k::a,f,b=>by
  have l:=AN5 (k:=k) c b;obtain⟨n,g,o⟩:=VZ c a (Yv m f k) l;refine⟨n,λx d=>g x (APd c b d),λp e i h=>?_⟩;rcases List.mem_cons.1 e with rfl|e
  ·exact g _ (AOL c b h)
  ·exact o p e i h
theorem APE {b:List A2L}{m:Nat}(d:1<=m)(e:m<=8192){c:A2L}(f:c∈b):gU (kg b m) c=true:=by obtain⟨a,_,g⟩:=VZ d b (NL m) (by simp[NL]);have a:(kg b m).length=m:=a;unfold gU nT;rw[a,A4,A4,decide_eq_true_iff,decide_eq_true_iff,Fo];refine⟨⟨λh=>?_,e⟩,λi j=>g c f i (List.mem_range.1 j)⟩;rw[h] at a;simp at a;omega
theorem APs {a:List A2L}{m:Nat}(b:1<=m):(kg a m).length=m:=(VZ b a (NL m) (by simp[NL])).1
theorem AOM(v:J0)(a:Nat):(madeCells #[v] a).toList=List.replicate a v:=by
 apply List.ext_getElem
 ·simp[madeCells]
 ·intro i b c;simp[madeCells,Nat.mod_one]
theorem wF {a:Type}{b:cD a}{c:a}{v:J0}(d:b.enc c= [v]): ∀n,(List.replicate n c).flatMap b.enc=List.replicate n v
 |0=>rfl
 |n+1=>by rw[List.replicate_succ,List.replicate_succ,AH,d,wF d n];rfl
theorem wG {e:aq}{P:Q1}{f:Type}{E:cD f}{x0:f}{v z:J0}{t T:Q7}{g:Nat}(p:P.underlying t=some (.slice T))(c:(P.info? T).map (λi=>(i.zero,i.size,i.bytes))=some (some z,1,g))
  (q:z.cells= #[v]) (h:E.w=1) (r:E.enc x0= [v]) {a:aa} {n:Nat} {j k:IntKind} (A:n*g<=140737488355328) (l:n<=maxLen) {K:Sl->aa->Prop}
  (u: ∀b,Own E T b ⟨some ⟨a.size,0,none⟩,n,n⟩ (List.replicate n x0)->Ext a b->b.size=a.size+1->K ⟨some ⟨a.size,0,none⟩,n,n⟩ b):
  BJ e P (Instr.makeSlice t (.int j (n:Int)) (.int k (n:Int))) a λv b=> ∃s:Sl,v= .slice s.p s.len s.cap/\K s b:=by
 intro m;cases d:P.info? T with
 |none=>rw[d] at c;simp at c
 |some i=>
  rw[d] at c;simp only[HP,BE,LR] at c;obtain⟨w,x,y⟩:=c;have hB:((i.bytes:Nat):Int)*((n:Nat):Int)<=281474976710656:=by rw[y,<-Int.natCast_mul,CD];omega
  have o:=run_make (P:=P) (e.at a m) t T i z p d w j k (n:Int) (n:Int) (by omega) (GP _) hB (by simp only[maxLen] at l;omega);simp only[A6,x,Bk,q] at o;refine⟨_,a.push (.cells (madeCells #[v] n) T),m,o,⟨some ⟨a.size,0,none⟩,n,n⟩,rfl,u _ ⟨by simp,.inr ⟨a.size,madeCells #[v] n,rfl,by simp,A0 _,l,by simp[size_madeCells,h],?_⟩⟩ (Mod.push a _) (by simp)⟩;show(madeCells #[v] n).toList.take (n*E.w)=_;rw[AOM,h,Bk,AF (by simp),wF r]
theorem wH {m:Nat}(a:m<=8192):J8 .u32 (J8 J9 ((8:Int)*((m:Nat):Int)))=((8*m:Nat):Int):=by rw[show(8:Int)*((m:Nat):Int)=((8*m:Nat):Int) by omega,GY (by omega),wrap_u32,An (by omega)]
theorem ATN(a:A2L)(i:Nat):xK a i<4294967296:=CC _ (by decide)
theorem wI(a:A2L)(i:Nat):J8 .u32 (((xK a i:Nat):Int)+((ox a:Nat):Int))=((xK a (i+1):Nat):Int):=by rw[<- Int.natCast_add,wrap_u32];congr 1;unfold xK;rw[Nat.mod_add_mod,By,IS,HJ]
theorem wJ(a:A2L):xK a 0=mg a:=by unfold xK;rw[HT,G0,An (xM a)]
theorem wK(x m:Nat):((x:Nat):Int).tmod ((m:Nat):Int)=((x % m:Nat):Int):=(Int.ofNat_tmod x m).symm
theorem wL(x:Nat):((x:Nat):Int).tdiv (8:Int)=((x / 8:Nat):Int):=(Int.ofNat_tdiv x 8).symm
theorem wM(x:Nat):((x:Nat):Int).tmod (8:Int)=((x % 8:Nat):Int):=(Int.ofNat_tmod x 8).symm
theorem wN(x:Nat):min (((x % 8:Nat):Int).toNat) (IntKind.bits .u8)=x % 8:=by rw[A6];show min (x % 8) 8=_;omega
theorem AQk {c a:Nat}(d:c<256):(Gd .u8 (((c:Nat):Int).fdiv ((2:Int)^a)) (1:Int)==(0:Int))= !(c.testBit a):=by have e:c / 2^a<256:=RT (RW _ _) d;rw[Qg,show(1:Int)=((1:Nat):Int) from rfl,xY e (by decide),Nat.and_one_is_mod,Nat.testBit_eq_decide_div_mod_eq];generalize c / 2^a=f;rcases Nat.mod_two_eq_zero_or_one f with b|b<;>rw[b]<;>rfl
theorem ASp {c a:Nat}(d:c<256)(e:a<8):ey .u8 ((c:Nat):Int) (J8 .u8 ((1:Int)*((2:Int)^a)))=((c ||| 2^a:Nat):Int):=by
 have b:2^a<256:=by have:2^a<2^8:=Nat.pow_lt_pow_right (by decide) e;simpa using this
 have f:(1:Int)*((2:Int)^a)=((2^a:Nat):Int):=by rw[Int.one_mul,Int.natCast_pow];rfl
 rw[f,wrap_u8,An b,xX d b]
end Go.Lf
namespace Go.Lf.G
open Go
theorem ANL {a:A2L}{i:Nat}(b:i<a.size): ∃c,a.data.toList[i]? =some c:=by
 have:i<a.data.toList.length:=by simpa using b
 exact⟨_,A2 this⟩
theorem rB {o:aq}{d:aa}{key:A2L}{h:A2K}(r:key.size<=1099511627776)(p:h (.tuple #[.int .u32 (mg key:Int),.int .u32 (ox key:Int)]) d):AA o P LJ #[.string key] d h:=by
 refine AEf ?_;unfold Yw;refine Loop.rule (λm x j=> ∃i:Nat,x=(((UZ (key.data.toList.take i)).1:Int),((UZ (key.data.toList.take i)).2:Int),(i:Int),())/\j=d/\m=key.size-i/\i<=key.size) ?_ ⟨0,rfl,rfl,rfl,by omega⟩;rintro K m _ j ⟨i,rfl,e,rfl,s⟩ q;subst e;obtain⟨k,f⟩:=xL (key.data.toList.take i);refine af.intro (λg=>?_) (λg=>?_)
 ·have a:i<key.size:=by simpa using g
  obtain⟨c,l⟩:=ANL a;have n:c.toNat<256:=c.toNat_lt;refine⟨⟨by dsimp only;omega,by dsimp only;omega⟩,⟨by dsimp only;omega,by dsimp only;omega⟩,?_⟩;dsimp only;rw[Nu l,jN k n,ATd f n,Ae (by omega)];refine q (key.size-(i+1)) _ _ (by omega) ⟨i+1,?_,rfl,rfl,a⟩;rw[As,l,CT,xJ]
 ·have a:i=key.size:=by simp at g;omega
  have e:key.data.toList.take i=key.data.toList:=AF (by simp[a]);dsimp only;rw[e] at k f ⊢;have:ey .u32 (((UZ key.data.toList).2:Nat):Int) (1:Int)=((ox key:Nat):Int):=ASN f (b:=1) (by decide);rw[this];exact p
theorem Xd {f:A2L}:bO f (⟨#[]⟩:A2L)=decide (bl f= []):=by
 rw[DS,Bw];constructor
 ·intro a;have a:=of_decide_eq_true a;subst a;rfl
 ·intro a;have a:=of_decide_eq_true a;cases f with
  |mk b=>
   have:b= #[]:=by apply Array.toList_inj.1;exact a
   rw[this];rfl
theorem ASL {f:A2L}{i:Nat}{c:UInt8}(a:(bl f)[i]? =some c):f.data.toList[i]? =some c:=a
theorem yE {u:aq}{l:aa}{f key:A2L}{q:A2K}(v:key.size<=1099511627776)(a:q (.bool (gU (bl f) key)) l):AA u P Pf #[.string f,.string key] l q:=by
 refine AGQ ?_;unfold uu;refine ai.mk λK r=>?_
 have g:=Ay f;refine af.intro (λe=>?_) (λe=>?_)
 ·refine r _ _ (af.yes rfl ?_);rw[Xd,decide_eq_true_iff] at e;rw[e] at a;exact a
 ·refine r _ _ ?_;rw[Xd,decide_eq_false_iff_not] at e;refine af.intro (λn=>?_) (λn=>?_)
  ·have h: ¬(bl f).length<=8192:=by simp at n;omega
   have:gU (bl f) key=false:=by unfold gU;rw[decide_eq_false h,ON,DG]
   rw[this] at a;exact a
  ·have h:f.size<=8192:=by simp at n;omega
   have w:1<=f.size:=by rw[<- g];exact List.length_pos_iff.2 e
   refine rB v ⟨_,_,rfl,?_⟩;refine Loop.rule (λm x s=> ∃i:Nat,x=(((xK key i:Nat):Int),(i:Int),())/\s=l/\m=4-i/\i<=4/\ ∀b,b<i->TM (bl f) (cM key f.size b)=true) ?_ ⟨0,by rw[wJ];rfl,rfl,rfl,by omega,λb o=>by omega⟩;rintro E m _ s ⟨i,rfl,y,rfl,F,t⟩ z;subst y;dsimp only;refine af.intro (λp=>?_) (λp=>?_)
   ·have j:i<4:=by simp at p;omega
    have G:cM key f.size i<8*f.size:=qR w;have H:=ATN key i;rw[wH h,wK];have A:xK key i % (8*f.size)=cM key f.size i:=rfl;rw[A,wL,wM,wN,wrap_u32,An (show cM key f.size i / 8<4294967296 by omega)];have B:cM key f.size i / 8<(bl f).length:=by rw[g];omega
    have k:(bl f)[cM key f.size i / 8]? =some (bl f)[cM key f.size i / 8]:=A2 B;obtain⟨c,k⟩: ∃c,(bl f)[cM key f.size i / 8]? =some c:=⟨_,k⟩;rw[Nu (ASL k),AQk c.toNat_lt];have C:TM (bl f) (cM key f.size i)=c.toNat.testBit (cM key f.size i % 8):=by unfold TM;rw[k];rfl
    refine⟨by omega,⟨by omega,by omega⟩,by omega,?_⟩;rw[<- C];refine af.intro (λd=>?_) (λd=>?_)
    ·have d:TM (bl f) (cM key f.size i)=false:=by simpa using d
     have:gU (bl f) key=false:=by
      unfold gU nT;rw[g];have:((List.range 4).all λi=>TM (bl f) (cM key f.size i))=false:=by rw[List.all_eq_false];exact⟨i,List.mem_range.2 j,by simp[d]⟩
      simp[this]
     rw[this] at a;exact a
    ·have d:TM (bl f) (cM key f.size i)=true:=by simpa using d
     rw[wI,Ae (by omega)];refine z (4-(i+1)) _ _ (by omega) ⟨i+1,rfl,rfl,rfl,j,λb o=>?_⟩;by_cases D:b=i
     ·subst D;exact d
     ·exact t b (by omega)
   ·have j:i=4:=by simp at p;omega
    have:gU (bl f) key=true:=by unfold gU nT;rw[g,A4,A4,decide_eq_true_iff,decide_eq_true_iff,Fo];exact⟨⟨e,h⟩,λb o=>t b (by rw[j];exact List.mem_range.1 o)⟩
    rw[this] at a;exact a
theorem yF:(P.info? EE).map (λi=>(i.zero,i.size,i.bytes))=some (some (.int .u8 0),1,1):=by kernel_rfl
theorem VW:P.underlying DU=some (.slice EE):=by kernel_rfl
theorem yG:P.underlying EE=some (.int .u8):=by kernel_rfl
theorem yH:P.underlying BF=some .string:=by kernel_rfl
theorem AQV {Q:aq}{e:aa}{s:Sl}{ks:List A2L}{m:Nat}{G:A2K}(y:View IY e s ks)(R: ∀d∈ks,d.size<=1099511627776)(z:1<=m)(S:m<=8192)(ar:ks.length<=1099511627776)(g: ∀b,s.ah=some b->b<e.size)
  (T: ∀H,Ext e H->G (.tuple #[.string (AY (kg ks m)),.int J9 0]) H):AA Q P OC #[.slice s.p s.len s.cap,.int J9 (m:Int)] e G:=by
 refine AEV ?_;unfold Yd;refine ai.mk λK U=>?_
 refine af.no (by simp;omega) ?_;refine U _ _ (af.no (by simp;omega) ?_);refine wG (E:=HY) (x0:=0) (v:= .int .u8 0) VW yF rfl rfl rfl (by omega) (by simp only[maxLen];omega) λI J t au=>?_
 have V:List.replicate m (0:UInt8)=NL m:=rfl;rw[V] at J;dsimp only;refine Loop.rule (λk x n=> ∃i:Nat,x=((i:Int),())/\k=ks.length-i/\i<=ks.length/\Mod (λc=>c=e.size) I n/\Own HY EE n ⟨some ⟨e.size,0,none⟩,m,m⟩ ((ks.take i).foldl (Yv m) (NL m))) ?_ ⟨0,rfl,rfl,by omega,Mod.refl,J⟩;rintro av k _ n ⟨i,rfl,rfl,aw,u,o⟩ W;have X:View IY n s ks:=(y.ext t).mod u λb Y=>by have:=g b Y;omega
 dsimp only;refine af.intro (λp=>?_) (λp=>?_)
 ·have q:i<ks.length:=by rw[y.len] at p;simp at p;omega
  have A:ks[i]? =some ks[i]:=A2 q;refine X.idx A λa ax h=>?_
  refine AJ.mk h.str ?_;refine rB (R _ (AW q)) ⟨_,_,rfl,?_⟩;have L:ks.take (i+1)=ks.take i++ [ks[i]]:=by rw[As,A];rfl
  generalize ks[i]=d at A L;have M:((ks.take i).foldl (Yv m) (NL m)).length=m:=(VZ z (ks.take i) (NL m) (by simp[NL])).1;generalize Z:(ks.take i).foldl (Yv m) (NL m)=w at o M;refine Loop.rule (λk x B=> ∃j:Nat,x=(((xK d j:Nat):Int),(j:Int),())/\k=4-j/\j<=4/\Mod (λc=>c=e.size) I B/\Own HY EE B ⟨some ⟨e.size,0,none⟩,m,m⟩ ((List.range j).foldl (λf i=>gq f (cM d m i)) w)) ?_ ⟨0,by rw[wJ];rfl,rfl,by omega,u,o⟩;rintro ay k _ B ⟨j,rfl,rfl,az,N,r⟩ ab;dsimp only;refine af.intro (λC=>?_) (λC=>?_)
  ·have D:j<4:=by simp at C;omega
   have aA:cM d m j<8*m:=qR z;have ac:xK d j % (8*m)=cM d m j:=rfl;rw[wH S,wK,ac,wL,wM,wN,wrap_u32,An (show cM d m j / 8<4294967296 by omega)];have ad:((List.range j).foldl (λf i=>gq f (cM d m i)) w).length=m:=(Uk z _ w M).1;generalize ae:(List.range j).foldl (λf i=>gq f (cM d m i)) w=F at r ad;have ag:F[cM d m j / 8]? =some F[cM d m j / 8]:=A2 (by omega);obtain⟨c,h⟩: ∃c,F[cM d m j / 8]? =some c:=⟨_,ag⟩;refine⟨by omega,?_⟩;refine r.view.idx h λaC aD ah=>?_
   rw[A6];refine AC.mk ah.byte ⟨by omega,?_⟩;refine r.view.idx h λO aj aE=>?_
   have ak:=ASp c.toNat_lt (show cM d m j % 8<8 by omega);rw[ak];have al:=wq c.toNat_lt (show cM d m j % 8<8 by omega);rw[wI,Ae (by omega),<-add_zero (O.add (cM d m j / 8*1))];refine Own.store (E:=HY) (i:=cM d m j / 8) (j:=0) (x:=c) (x':=CL (c.toNat ||| 2^(cM d m j % 8))) (v:= .int .u8 ((c.toNat ||| 2^(cM d m j % 8):Nat):Int)) r h (by show [Value.int .u8 _]=_;rw[Dc al];rfl) (by decide) (λaF am an aG=>?_) O aj;refine ab (4-(j+1)) _ _ (by omega) ⟨j+1,rfl,rfl,D,N.trans (an.aj λb _ g=>?_),?_⟩
   ·simp[Sl.ah] at g;exact g.symm
   ·rw[Nd,Hi,ae,I2,N4];unfold gq;rw[h];exact am
  ·have D:j=4:=by simp at C;omega
   subst D;rw[Ae (by omega)];refine W (ks.length-(i+1)) _ _ (by omega) ⟨i+1,rfl,rfl,q,N,?_⟩;rw[L,Hi,Z];exact r
 ·have q:i=ks.length:=by rw[y.len] at p;simp at p;omega
  have ao:ks.take i=ks:=by rw[q];simp
  rw[ao] at o;have ap:((ks.foldl (Yv m) (NL m)))=kg ks m:=rfl;rw[ap] at o;refine Ka VW yG yH (s:=⟨some ⟨e.size,0,none⟩,m,m⟩) (l:=kg ks m) o.view ⟨_,rfl,?_⟩;exact T n ⟨by have:=t.size;have:=u.size;omega,λb g _=>(u.get b (by have:=t.size;omega) (by omega)).trans (t.get b g (by simp))⟩
end Go.Lf.G
namespace Go.Lf
open Go
structure Lg (p:Pr):Prop where
 key:p.key.size≠0
 bK:p.key.size<=64
 cp:p.val.size<=8192
 gone:p.gone=true->p.val.size=0
def Ik(p:Pr):Nat:=if p.gone then 0 else p.val.size+1
def Il(p:Pr):List UInt8:=BQ (bl p.key)++(Bc (Ik p)++bl p.val)
abbrev BP(l:List Pr):List UInt8:=l.flatMap Il
theorem UD {s:A2L}(a:s.size=0):bl s= []:=Dd (by rw[Ay];exact a)
theorem wk {p:Pr}(a:Lg p)(t:List UInt8):GV ⟨Il p++t,false⟩=(bl p.key,⟨Bc (Ik p)++bl p.val++t,false⟩):=by
 have c:=a.bK;have b:Il p++t=BQ (bl p.key)++(Bc (Ik p)++bl p.val++t):=by simp[Il,A3]
 rw[b];exact IW (by rw[Ay];omega) _
theorem ZI {p:Pr}(a:Lg p):Ik p<=8193:=by have:=a.cp;unfold Ik;split<;>omega
theorem wm {p:Pr}(a:Lg p)(t:List UInt8):CS 8193 ⟨Bc (Ik p)++bl p.val++t,false⟩=(Ik p,⟨bl p.val++t,false⟩):=by rw[A3];have:=ZI a;exact CQ (by omega) this _
theorem wo {p:Pr}(a:Lg p)(t:List UInt8):KV (Ik p-1) ⟨bl p.val++t,false⟩=(bl p.val,⟨t,false⟩):=by
 have b:Ik p-1=(bl p.val).length:=by
  rw[Ay];unfold Ik;split
  ·rename_i c;rw[a.gone c]
  ·omega
 rw[b];exact xT _ _
theorem QP {p:Pr}(a:Lg p):1<=(Il p).length/\(Il p).length<=p.key.size+p.val.size+20:=by have b:=a.bK;have c:=a.cp;have d:=AV (n:=(bl p.key).length) (by rw[Ay];omega);have e:=ZI a;have f:=AV (n:=Ik p) (by omega);have g:=a.key;have h:=Ay p.key;have i:=Ay p.val;simp only[Il,BQ,A1];omega
end Go.Lf
namespace Go.Lf.G
open Go
theorem G6:QF P AQ AR BR.w 40=true:=by kernel_rfl
theorem ART {e:aq}{a:aa}{b:Nat}{c:Rd}{d:A2K}(f:Ie a b c)(g:d (J3 c.bad) a):AA e P Ku #[Am b] a d:=by refine Wt ?_;unfold Pp;refine af.no rfl (aD ?_);exact Aa.mk (AB f rfl) g
theorem Vb {A:aq}{h:aa}{s:A2L}{R:A2K}(b:s.size<=1099511627776)(c: ∀a,Ext h a->R (J7 (AY (BQ (bl s)))) a):AA A P CB #[J7 s] h R:=by have:=RB (A:=A) (h:=h) (l:=bl s) (R:=R) (by rw[Ay];exact b) c;rwa [ED] at this
theorem yI {a:Nat}(b:a<=1099511627776):J8 .u64 ((J8 .u64 (a:Int))+(1:Int))=((a+1:Nat):Int):=by rw[CF (by omega),show((a:Int)+1)=((a+1:Nat):Int) by omega,CF (by omega)]
theorem rC {s:A2L}(a:s.size=0):s=⟨#[]⟩:=by have:=ED s;rw[<- this,show s.data.toList= [] from UD a];rfl
theorem Ao {a c:aa}{b:Nat}{d:Array J0}{T:Q7}(x:Ext a c)(e:a[b]? =some (J2 d T (0,0))):c[b]? =some (J2 d T (0,0)):=x.ah e (λa=>a)
theorem AOk {l:aq}{e:aa}{x:Pr}{f:A2K}(h:Lg x)(m: ∀o,Ext e o->f (J7 (AY (Il x))) o):AA l P Ny #[x.agg] e f:=by
 obtain⟨a,v,g⟩:=x;have r:=h.bK;have s:=h.cp;have p:=h.gone;dsimp only at r s p;show AA l P Ny #[.agg #[J7 a,J7 v,J3 g]] e f;refine AES ?_;unfold Xi;refine ao.mk λz _ b q A=>?_
 refine Aa.mk (AB b rfl) ?_;have B:=AV (n:=(bl a).length) (by rw[Ay];omega);have C:=Ay a;have D:=Ay v;refine af.intro (λi=>?_) (λi=>?_)
 ·subst i;refine AJ.mk (AO b rfl) ?_;refine Vb (by omega) λt c=>⟨_,rfl,?_⟩
  refine Cc (n:=0) (by omega) λu d=>⟨_,rfl,?_⟩
  have w:=AV (n:=0) (by omega);refine⟨by rw[AP,AP,max_i64];simp only[BQ,A1];omega,?_⟩;rw[Ak];have j:Il ⟨a,v,true⟩=BQ (bl a)++Bc 0:=by unfold Il Ik;rw[UD (p rfl)];simp
  rw[<- j];exact m _ ((q.trans c).trans d)
 ·subst i;refine AJ.mk (AO b rfl) (AJ.mk (AB b rfl) (AJ.mk (AB b rfl) ?_));refine Vb (by omega) λt c=>⟨_,rfl,?_⟩
  have k:=Ao c b;refine⟨AB k rfl,AB k rfl,?_⟩;rw[yI (by omega)];refine Cc (by omega) λu d=>⟨_,rfl,?_⟩
  have y:=Ao d k;have w:=AV (n:=v.size+1) (by omega);refine⟨AB y rfl,by rw[AP,AP,max_i64];simp only[BQ,A1];omega,?_,?_⟩
  ·rw[Ak,AP,max_i64];simp only[BQ,A1];omega
  ·rw[Ak];have j:AY (BQ (bl a)++Bc (v.size+1))++v=AY (Il ⟨a,v,false⟩):=by
    have:v=AY (bl v):=(ED v).symm
    conv=>lhs;arg 2;rw[this]
    rw[Ak];unfold Il Ik;simp[A3]
   rw[j];exact m _ ((q.trans c).trans d)
theorem yJ {s:A2L}(a:s.size≠0):bO s (⟨#[]⟩:A2L)=false:=by rw[Xd,decide_eq_false_iff_not];intro b;have:=Ay s;rw[b] at this;exact a this.symm
theorem yK {a:Nat}(b:a<=100000):(if((J8 J9 (((a:Nat):Int)-(1:Int))):Int)>0 then(J8 J9 (((a:Nat):Int)-(1:Int))) else 0)=((a-1:Nat):Int):=by rw[wrap_i64 (by omega) (by omega)];split<;>omega
theorem ZL {l:List Pr}(a: ∀x∈l,Lg x):l.length<=(BP l).length:=by
 induction l with
 |nil=>simp
 |cons x l b=>
  have:=(QP (a x Cl)).1;have:=b λc d=>a c (AG _ d)
  simp only[BP,AH,A1,A5] at this ⊢;omega
theorem rD {ag:aq}{c:aa}{l:List Pr}{I:A2K}(J: ∀x∈l,Lg x)(aN:(BP l).length<1099511627776)
  (ah: ∀s z,Own BR AR z s l->Ext c z->(∀ b,s.ah=some b->c.size<=b)->I (J1 #[J4 s.p s.len s.cap,J3 true]) z):AA ag P Jy #[J7 (AY (BP l))] c I:=by
 refine ADL ?_;unfold WG;refine Js λaO aj ak=>⟨_,rfl,?_⟩
 have aP:=ZL J;refine Loop.rule (λm x f=> ∃(i:Nat) (s:Sl),x=(s,())/\m=l.length-i/\i<=l.length/\Ie f c.size ⟨BP (l.drop i),false⟩/\Ext c f/\Own BR AR f s (l.take i)/\ ∀b,s.ah=some b->c.size<=b) ?_ ⟨0,⟨none,0,0⟩,rfl,rfl,by omega,aj,ak,Own.nil,λb a=>by simp[Sl.ah] at a⟩;rintro K m _ f ⟨i,s,rfl,rfl,aQ,rd,t,p,A⟩ al;dsimp only;refine MU rd ⟨_,rfl,?_⟩;by_cases g:i<l.length
 ·have L:l[i]? =some l[i]:=A2 g;have M:l[i]∈l:=AW g;have hd:l.drop i=l[i]::l.drop (i+1):=E0 g;have N:l.take (i+1)=l.take i++ [l[i]]:=by rw[As,L];rfl
  generalize l[i]=x at L M hd N;have h:=J x M;have O:BP (l.drop i)=Il x++BP (l.drop (i+1)):=by rw[hd];rfl
  have Q:(Il x++BP (l.drop (i+1))).length<1099511627776:=by
   have e:BP l=BP (l.take i)++BP (l.drop i):=by rw[<- G3,DA]
   have:=congrArg List.length e;rw[O,A1] at this;omega
  have aR:=QP h;rw[O] at rd ⊢;refine af.yes ?_ ?_
  ·unfold Yf;have:(Il x++BP (l.drop (i+1)))≠ []:=by intro e;have:=congrArg List.length e;simp only[A1,GF] at this;omega
   simp only[Lq,DB,CH,List.isEmpty_eq_false_iff];exact this
  ·refine G8 rd Q λd u B=>⟨_,rfl,?_⟩
   rw[wk h] at u ⊢;dsimp only at u ⊢;rw[ED];refine ao.mk λam _ an R aS=>?_
   refine ae.mk an (by simp) λaT ap S aU=>?_
   rw[Bf,Bf];refine ae.mk ap (by simp) λaV ar T aW=>?_
   refine ae.mk ar (by simp) λau av U aX=>?_
   have aY:c.size<d.size:=by have:=Ai u;exact this
   have j:c.size≠d.size:=by omega
   have aw:Ie au c.size ⟨Bc (Ik x)++bl x.val++BP (l.drop (i+1)),false⟩:=U.ah (T.ah (S.ah (R.ah u (λc=>c)) j) j) j;have ax:(Bc (Ik x)++bl x.val++BP (l.drop (i+1))).length<=1099511627776:=by simp only[Il,A1] at Q ⊢;omega
   refine DN (most:=8193) aw ax (by decide) λC v V=>⟨_,rfl,?_⟩
   rw[wm h] at v ⊢;dsimp only at v ⊢;have W:C[d.size]? =some (J2 #[J7 x.key,J7 ⟨#[]⟩,J3 false] AR (0,0)):=V.ah (by simpa using av) (Ne.symm j);refine ai.mk λay az=>?_
   have aZ:=ZI h;have key: ∀q,Ie q c.size ⟨bl x.val++BP (l.drop (i+1)),false⟩->q[d.size]? =some (J2 #[J7 x.key,J7 ⟨#[]⟩,J3 x.gone] AR (0,0))->Mod (λb=>b=c.size\/b=d.size) d q->ay () q:=by
    intro q aA aC aD;refine az () q ?_;rw[yK (by omega)];refine rj aA λa0 D X=>⟨_,rfl,?_⟩
    rw[wo h] at D ⊢;dsimp only at D ⊢;rw[ED];have aE:=X.ah aC (Ne.symm j);refine ae.mk aE (by simp) λr k Y a1=>?_
    have F:Ie r c.size ⟨BP (l.drop (i+1)),false⟩:=Y.ah D j;have k:r[d.size]? =some (J2 #[J7 x.key,J7 x.val,J3 x.gone] AR (0,0)):=by simpa using k
    refine ai.mk λa2 aF=>?_
    refine ART F ⟨_,rfl,?_⟩;refine af.no rfl ?_;refine AJ.mk (AO k rfl) ?_;refine af.no (yJ h.key) ?_;refine AJ.mk (AO k rfl) ?_;have a3:=h.bK;refine aF _ _ (af.no (by simp;omega) ?_);refine AJ.mk (AO k rfl) ?_;refine AJ.mk (AO k rfl) ?_;refine Aa.mk (AO k rfl) ?_;have w:Mod (λb=>b=c.size\/b=d.size) f r:=by
     have G:Mod (λb=>b=c.size\/b=d.size) f d:=B.aj λb _ a=> .inl a
     exact((G.trans aD).trans (X.aj λb _ a=> .inl a)).trans (Y.aj λb _ a=> .inr a)
    have Z: ∀b,s.ah=some b-> ¬(b=c.size\/b=d.size):=by
     intro b a;have a4:=p.lt a;have aG:=B.size;rintro(rfl|rfl)
     ·exact p.ne rd (by decide) a
     ·omega
    refine ao.aY (E:=BR) (x:=x) rfl G6 (p.mod w Z) ?_ ?_ λaH a5 ab H aI a6=>?_
    ·rw[Ax];omega
    ·simp only[maxLen];rw[Ax];omega
    ·rw[<- N] at ab;have y:Ext c r:=by refine⟨by have:=t.size;have:=w.size;omega,λb a _=>?_⟩;have aG:=B.size;have:=t.size;exact(w.get b (by omega) (by omega)).trans (t.get b a (λc=>c))
     refine al (l.length-(i+1)) _ _ (by omega) ⟨i+1,aH,rfl,rfl,g,?_,?_,ab,?_⟩
     ·refine H.ah F λe=>?_
      have:Own BR AR r s (l.take i):=p.mod w Z;exact this.ne F (by decide) e
     ·refine⟨by have:=y.size;have:=H.size;omega,λb a _=>?_⟩;have:=y.size;exact(H.get b (by omega) (λe=>by have:=A b e;omega)).trans (y.get b a (λc=>c))
     ·intro b a;rcases aI b a with e|e
      ·exact A b e
      ·have:=y.size;omega
   have ac:Mod (λb=>b=c.size\/b=d.size) d C:=by have G:Mod (λb=>b=c.size\/b=d.size) d am:=R.mod;exact(((G.trans (S.aj λb _ a=> .inr a)).trans (T.aj λb _ a=> .inr a)).trans (U.aj λb _ a=> .inr a)).trans (V.aj λb _ a=> .inl a)
   refine af.intro (λn=>?_) (λn=>?_)
   ·have o:x.gone=true:=by
     unfold Ik at n;split at n
     ·rename_i o;exact o
     ·simp at n;omega
    refine ae.mk W (by simp) λaJ aK ad a7=>?_
    refine key aJ (ad.ah v j) (by rw[o];simpa using aK) (ac.trans (ad.aj λb _ a=> .inr a))
   ·have o:x.gone=false:=by
     cases o:x.gone with
     |false=>rfl
     |true=>unfold Ik at n;rw[o] at n;simp at n
    exact key C v (by rw[o];exact W) ac
 ·have g:i=l.length:=by omega
  have aL:l.drop i= []:=by rw[g];simp
  have aM:l.take i=l:=by rw[g];simp
  rw[aL];rw[aM] at p;exact af.no rfl (ah s f p t A)
def BV(a:Nat)(l:List Pr):List UInt8:=Bc a++Bc l.length++BP l
theorem Lu {l:List Pr}(b: ∀x∈l,Lg x):(BP l).length<=l.length*8276:=by
 induction l with
 |nil=>simp
 |cons x l c=>
  have a:=b x Cl;have f:=(QP a).2;have g:=a.bK;have h:=a.cp;have:=c λd e=>b d (AG _ e)
  simp only[BP,AH,A1,A5] at this ⊢;omega
theorem ARb {l:List Pr}(a: ∀x∈l,Lg x)(i:Nat): ∀x∈l.take i,Lg x:=λx b=>a x (DM b)
theorem APH {C:aq}{f:aa}{s:Sl}{l:List Pr}{c:Nat}{t:A2K}(X:c<=99999999)(Y:l.length<=64)(u: ∀x∈l,Lg x)(v:View BR f s l)(Z: ∀b,s.ah=some b->b<f.size)
  (D: ∀d,Ext f d->t (J7 (AY (BV c l))) d):AA C P Ta #[J6 J9 (c:Int),J4 s.p s.len s.cap] f t:=by
 refine AG2 ?_;unfold uq;rw[CF (by omega)];refine Cc (by omega) λab E=>⟨_,rfl,?_⟩
 rw[v.len,CF (by omega)];refine Cc (by omega) λac F=>⟨_,rfl,?_⟩
 have ad:=AV (n:=c) (by omega);have ae:=AV (n:=l.length) (by omega);refine⟨by rw[AP,AP,max_i64];omega,?_⟩;rw[Ak];refine Loop.rule (λm x o=> ∃i:Nat,x=(AY (Bc c++Bc l.length++BP (l.take i)),(i:Int),())/\m=l.length-i/\i<=l.length/\Ext f o) ?_ ⟨0,by simp,rfl,by omega,E.trans F⟩;rintro K m _ o ⟨i,rfl,rfl,ag,p⟩ G;dsimp only;refine af.intro (λq=>?_) (λq=>?_)
 ·have e:i<l.length:=by simp at q;omega
  have r:l[i]? =some l[i]:=A2 e;have w:l.take (i+1)=l.take i++ [l[i]]:=by rw[As,r];rfl
  have h:=u _ (AW e);generalize l[i]=x at r w h;have ah:=h.bK;have aj:=h.cp;have H:=h.gone;have lt:=Lu (ARb u i);rw[Ax] at lt;have ak:=AV (n:=(bl x.key).length) (by rw[Ay];omega);have al:=Ay x.key;have am:=Ay x.val;refine ai.mk λI J=>?_
  obtain⟨a,L,M⟩:=(v.ext p).cells i x r;refine bI.mk L e ?_;obtain⟨N,O,c2⟩:=M.pair;rw[A6];refine AJ.mk N (AJ.mk O (Aa.mk c2 ?_));refine ao.pair λb an ap y Q ar=>?_
  refine AJ.mk (AO y rfl) ?_;refine Vb (by omega) λR z=>⟨_,rfl,⟨by rw[AP,AP,max_i64];simp only[BQ,A1];omega,?_⟩⟩
  have j:=Ao z y;refine Aa.mk (AB j rfl) ?_;rw[Ak];have fin: ∀d,Ext R d->I (AY (Bc c++Bc l.length++BP (l.take (i+1))),()) d:=by intro d S;refine J _ _ ?_;dsimp only;rw[Ae (by omega)];exact G (l.length-(i+1)) _ _ (by omega) ⟨i+1,rfl,rfl,e,((p.trans Q).trans z).trans S⟩
  have A:BP (l.take (i+1))=BP (l.take i)++Il x:=by rw[w];simp[BP]
  refine af.intro (λk=>?_) (λk=>?_)
  ·refine Cc (n:=0) (by omega) λT U=>⟨_,rfl,?_⟩
   have V:=AV (n:=0) (by omega);refine⟨by rw[AP,AP,max_i64];simp only[BQ,A1];omega,?_⟩;rw[Ak];have g:Il x=BQ (bl x.key)++Bc 0:=by unfold Il Ik;rw[k,UD (H k)];simp
   have:=fin T U;rw[A,g] at this;simpa only[A3] using this
  ·refine AJ.mk (AB j rfl) (AJ.mk (AB j rfl) ?_);rw[yI (by omega)];refine Cc (by omega) λW B=>⟨_,rfl,?_⟩
   have V:=AV (n:=x.val.size+1) (by omega);refine⟨AB (Ao B j) rfl,?_,?_,?_⟩
   ·rw[AP,max_i64];omega
   ·have au:x.val=AY (bl x.val):=(ED _).symm;rw[Kp,AP,AP,max_i64];simp only[BQ,A1];omega
   ·have g:AY (Bc (x.val.size+1))++x.val=AY (Bc (Ik x)++bl x.val):=by
     conv=>lhs;arg 2;rw[(ED x.val).symm]
     rw[Ak];unfold Ik;rw[k];rfl
    rw[g,Ak];have:=fin W B;rw[A] at this;unfold Il at this;simpa only[A3] using this
 ·have e:i=l.length:=by simp at q;omega
  have g:l.take i=l:=by rw[e];simp
  rw[g];exact D o p
theorem AKC {ah:aq}{c:aa}{l:List Pr}{o:Nat}{I:A2K}(aM:o<=99999999)(aN:l.length<=64)(J: ∀x∈l,Lg x)
  (ai: ∀s y,Own BR AR y s l->Ext c y->(∀ b,s.ah=some b->c.size<=b)->I (J1 #[J6 J9 (o:Int),J4 s.p s.len s.cap,J3 true]) y):AA ah P QB #[J7 (AY (BV o l))] c I:=by
 refine AEH ?_;unfold Wd;have aO:=AV (n:=o) (by omega);have aP:=AV (n:=l.length) (by omega);have aQ:=Lu J;refine Js λaR L z=>⟨_,rfl,?_⟩
 have A:BV o l=Bc o++(Bc l.length++BP l):=by simp[BV,A3]
 rw[A] at L;refine DN (most:=99999999) L (by simp only[A1];omega) (by decide) λd e g=>⟨_,rfl,?_⟩
 rw[CQ (by omega) (by omega)] at e ⊢;dsimp only at e ⊢;refine DN (most:=64) e (by simp only[A1];omega) (by decide) λaj B M=>⟨_,rfl,?_⟩
 rw[CQ (by omega) (by omega)] at B ⊢;dsimp only at B ⊢;have ak:Ext c aj:=by refine⟨by have:=z.size;have:=g.size;have:=M.size;omega,λb a _=>?_⟩;have:=z.size;have:=g.size;exact((M.get b (by omega) (by omega)).trans (g.get b (by omega) (by omega))).trans (z.get b a (λc=>c))
 refine Loop.rule (λm x h=> ∃(i:Nat) (s:Sl),x=(s,(i:Int),())/\m=l.length-i/\i<=l.length/\Ie h c.size ⟨BP (l.drop i),false⟩/\Ext c h/\Own BR AR h s (l.take i)/\ ∀b,s.ah=some b->c.size<=b) ?_ ⟨0,⟨none,0,0⟩,rfl,rfl,by omega,B,ak,Own.nil,λb a=>by simp[Sl.ah] at a⟩;rintro K m _ h ⟨i,s,rfl,rfl,aS,rd,t,p,C⟩ al;dsimp only;refine af.intro (λD=>?_) (λD=>?_)
 ·have j:i<l.length:=by simp at D;omega
  have N:l[i]? =some l[i]:=A2 j;have O:l[i]∈l:=AW j;have hd:l.drop i=l[i]::l.drop (i+1):=E0 j;have Q:l.take (i+1)=l.take i++ [l[i]]:=by rw[As,N];rfl
  generalize l[i]=x at N O hd Q;have u:=J x O;have R:BP (l.drop i)=Il x++BP (l.drop (i+1)):=by rw[hd];rfl
  have S:(Il x++BP (l.drop (i+1))).length<1099511627776:=by
   have f:BP l=BP (l.take i)++BP (l.drop i):=by rw[<- G3,DA]
   have:=congrArg List.length f;rw[R,A1] at this;omega
  rw[R] at rd;refine G8 rd S λd e g=>⟨_,rfl,?_⟩
  rw[wk u] at e ⊢;dsimp only at e ⊢;rw[ED];refine ao.mk λam _ an T aT=>?_
  refine ae.mk an (by simp) λaU ap U aV=>?_
  rw[Bf,Bf];refine ae.mk ap (by simp) λaW ar V aX=>?_
  refine ae.mk ar (by simp) λau av W aY=>?_
  have aZ:c.size<d.size:=by have:=Ai e;exact this
  have k:c.size≠d.size:=by omega
  have aw:Ie au c.size ⟨Bc (Ik x)++bl x.val++BP (l.drop (i+1)),false⟩:=W.ah (V.ah (U.ah (T.ah e (λc=>c)) k) k) k;have ax:(Bc (Ik x)++bl x.val++BP (l.drop (i+1))).length<=1099511627776:=by simp only[Il,A1] at S ⊢;omega
  refine DN (most:=8193) aw ax (by decide) λay F X=>⟨_,rfl,?_⟩
  rw[wm u] at F ⊢;dsimp only at F ⊢;have az:ay[d.size]? =some (J2 #[J7 x.key,J7 ⟨#[]⟩,J3 false] AR (0,0)):=X.ah (by simpa using av) (Ne.symm k);have a0:=ZI u;have aA:(((Ik x:Nat):Int)==(0:Int))=x.gone:=by
   unfold Ik;cases x.gone
   ·simp;omega
   ·simp
  rw[aA];refine ae.mk az (by simp) λaC aD Y a1=>?_
  rw[yK (by omega)];have aE:Ie aC c.size ⟨bl x.val++BP (l.drop (i+1)),false⟩:=Y.ah F k;refine rj aE λa2 G Z=>⟨_,rfl,?_⟩
  rw[wo u] at G ⊢;dsimp only at G ⊢;rw[ED];have aF:=Z.ah aD (Ne.symm k);refine ae.mk aF (by simp) λq r ab a3=>?_
  have ac:Ie q c.size ⟨BP (l.drop (i+1)),false⟩:=ab.ah G k;have r:q[d.size]? =some (J2 #[J7 x.key,J7 x.val,J3 x.gone] AR (0,0)):=by simpa using r
  refine AJ.mk (AO r rfl) ?_;refine AJ.mk (AO r rfl) ?_;refine Aa.mk (AO r rfl) ?_;have v:Mod (λb=>b=c.size\/b=d.size) h q:=by
   have aG:Mod (λb=>b=c.size\/b=d.size) h d:=g.aj λb _ a=> .inl a
   have aH:Mod (λb=>b=c.size\/b=d.size) d am:=T.mod;exact((((((((aG.trans aH).trans (U.aj λb _ a=> .inr a)).trans (V.aj λb _ a=> .inr a)).trans (W.aj λb _ a=> .inr a)).trans (X.aj λb _ a=> .inl a)).trans (Y.aj λb _ a=> .inr a)).trans (Z.aj λb _ a=> .inl a))).trans (ab.aj λb _ a=> .inr a)
  have ad: ∀b,s.ah=some b-> ¬(b=c.size\/b=d.size):=by
   intro b a;have a4:=p.lt a;have aI:=g.size;rintro(rfl|rfl)
   ·exact p.ne rd (by decide) a
   ·omega
  refine ao.aY (E:=BR) (x:=x) rfl G6 (p.mod v ad) ?_ ?_ λaJ a5 ag H aK a6=>?_
  ·rw[Ax];omega
  ·simp only[maxLen];rw[Ax];omega
  ·rw[<- Q] at ag;have w:Ext c q:=by refine⟨by have:=t.size;have:=v.size;omega,λb a _=>?_⟩;have aI:=g.size;have:=t.size;exact(v.get b (by omega) (by omega)).trans (t.get b a (λc=>c))
   rw[Ae (by omega)];refine al (l.length-(i+1)) _ _ (by omega) ⟨i+1,aJ,rfl,rfl,j,?_,?_,ag,?_⟩
   ·refine H.ah ac λf=>?_
    have:Own BR AR q s (l.take i):=p.mod v ad;exact this.ne ac (by decide) f
   ·refine⟨by have:=w.size;have:=H.size;omega,λb a _=>?_⟩;have:=w.size;exact(H.get b (by omega) (λf=>by have:=C b f;omega)).trans (w.get b a (λc=>c))
   ·intro b a;rcases aK b a with f|f
    ·exact C b f
    ·have:=w.size;omega
 ·have j:i=l.length:=by simp at D;omega
  have A:l.drop i= []:=by rw[j];simp
  have aL:l.take i=l:=by rw[j];simp
  rw[A] at rd;rw[aL] at p;refine MU rd ⟨_,rfl,?_⟩;exact ai s h p t C
end Go.Lf.G
namespace Go.Lf
open Go
def CG(l:List Pr)(i:Nat):List Pr:=(l.drop (8*i)).take 8
def Br(l:List Pr):Nat:=(l.length+7) / 8
def Kj(l:List Pr):List (List Pr):=(List.range (Br l)).map (CG l)
def Iy(l:List Pr)(i:Nat):A2L:=match l[i]? with|some p=>p.key|none=>⟨#[]⟩
def CV(l:List Pr):List A2L:=(List.range (Br l)).map λi=>Iy l (8*i)
def Vq(l:List Pr)(f:List UInt8):List UInt8:=Bc (Br l)++((CV l).flatMap λa=>BQ (bl a))++(Bc l.length++BQ f)
def aT(l:List Pr)(f:List UInt8):List (List UInt8):=(Kj l).map BP++ [Vq l f]
theorem Qn {l:List Pr}{i:Nat}(a:i<Br l):1<=(CG l i).length/\(CG l i).length<=8/\(i+1<Br l->(CG l i).length=8):=by
 unfold CG Br at*
 rw[Ax,DQ];omega
theorem QN {l:List Pr}{i j:Nat}(a:j<8):(CG l i)[j]? =l[8*i+j]? :=by unfold CG;rw[Fc,if_pos a,C5]
theorem wu {l:List Pr}: ∀i,l.take (8*i)++CG l i=l.take (8*(i+1)):=λi=>by
 unfold CG;rw[show 8*(i+1)=8*i+8 by omega,List.take_add]
theorem wv(l:List Pr): ∀n,((List.range n).map (CG l)).flatten=l.take (8*n)
 |0=>by simp
 |n+1=>by rw[Nd,Bm,No,wv l n];simpa using wu n
theorem AM6(l:List Pr):(Kj l).flatten=l:=by unfold Kj;rw[wv,AF];unfold Br;omega
theorem JB(l:List Pr):(Kj l).length=Br l:=by simp[Kj]
theorem Hq(l:List Pr):(CV l).length=Br l:=by simp[CV]
theorem wx {l:List Pr}(a:l≠ []):1<=Br l:=by have:=List.length_pos_iff.2 a;unfold Br;omega
structure gV (s:List UInt8) (l:List Pr) (f:List UInt8):Prop where
 bytes:s=aJ (aT l f)
 ne:l≠ []
 ok: ∀p∈l,Lg p
 inc:l.Pairwise λp q=>aM p.key q.key=true
 jx:1<=f.length/\f.length<=8192
 has: ∀p∈l,gU f p.key=true
 many:l.length<=100000
theorem ZL {l:List Pr}(a: ∀p∈l,Lg p):(BP l).length<=l.length*8276:=by
 induction l with
 |nil=>simp
 |cons p l b=>
  have f:=(QP (a p (by simp))).2;have c:=b λd e=>a d (AG _ e)
  have g:=(a p (by simp)).bK;have h:=(a p (by simp)).cp;simp only[BP,AH,A1,A5] at c ⊢;omega
theorem Po {l:List Pr}{i:Nat}{p:Pr}(a:p∈CG l i):p∈l:=HX (DM a)
theorem YF {s:List UInt8}{l:List Pr}{f:List UInt8}(T:gV s l f):(Vq l f).length<=1048576:=by
 have r:=T.many;have t:=T.jx.2;have u:=AV (n:=Br l) (by unfold Br;omega);have v:=AV (n:=l.length) (by omega);have w:=AV (n:=f.length) (by omega);have c: ∀a∈CV l,a.size<=64:=λa c=>by
  obtain⟨i,_,rfl⟩:=List.mem_map.1 c;unfold Iy;split
  ·rename_i p e;exact(T.ok p (AK e)).bK
  ·exact AD _
 have g: ∀b:List A2L,(∀ a∈b,a.size<=64)->(b.flatMap λa=>BQ (bl a)).length<=b.length*65:=by
  intro b
  induction b with
  |nil=>intro _;simp
  |cons a b h=>
   intro d;have j:=h λx k=>d x (AG _ k)
   have y:=d a (by simp);have m:(Bc a.size).length=1:=by rw[FX (by omega)];rfl
   have o:(BQ (bl a)).length=1+a.size:=by simp only[BQ,A1,Ay,m]
   simp only[AH,A1,A5,o] at j ⊢;omega
 have q:=g (CV l) c;rw[Hq] at q;have z:Br l<=12501:=by unfold Br;omega
 have A:(BQ f).length=(Bc f.length).length+f.length:=by simp[BQ]
 simp only[Vq,A1];omega
theorem Np {s:List UInt8}{l:List Pr}{f:List UInt8}(T:gV s l f): ∀c∈aT l f,c.length<=1048576:=λc a=>by
 rcases List.mem_append.1 a with a|a
 ·obtain⟨b,d,rfl⟩:=List.mem_map.1 a;obtain⟨i,e,rfl⟩:=List.mem_map.1 d;have j:=ZL (l:=CG l i) λp g=>T.ok p (Po g)
  have h:=(Qn (List.mem_range.1 e)).2.1;have:(CG l i).length*8276<=8*8276:=AN _ h;omega
 ·rw[List.mem_singleton.1 a];exact YF T
def wy(s:Sl):J0:=J4 s.p s.len s.cap
def qS(x:Sl):iG [.one .sl]:=(x,())
def wO(j:aq)(P:Q1)(fv:J0)(m:Nat->Prop)(n:aa)(l:List Sl):Prop:=
 ∃f e,fv= .func (.func f) #[] e/\(∀ a,(callFunc f (#[]++ #[a]++e)).calc P=some (.enter f (#[]++ #[a]++e)))/\
  ∀(k:aa) (a:J0) (c:Nat->Bool->aa->Prop),ME a=true->(∀ i g d,c i g d-> ∀b,m b->d[b]? =n[b]?)->
   (∀ i x d,l[i]? =some x->c i true d->Ed j P a #[wy x] d λv h=> ∃g,v=J3 g/\c (i+1) g h)->c 0 true k->
   AA j P f (#[]++ #[a]++e) k λv h=>v=J1 #[]/\ ∃i g,c i g h/\(g=true->i=l.length)/\i<=l.length
theorem ATC {o:aq}{P:Q1}{fv:J0}{p:Nat->Prop}{q c:aa}{l:List Sl}(z:wO o P fv p q l)
  (Inv:Nat->aa->Prop) {body:iG [.one .sl]->Nat->aa->(aa->Prop)->(Option Nat->aa->Prop)->Prop} {r:aa->Prop} {A:Option Nat->aa->Prop}
  (B: ∀i a,Inv i a-> ∀b,p b->a[b]? =q[b]?)
  (s: ∀i a C,Inv i a->a[c.size]? =some (.deferred (some []))->(∃ D,a[c.size+1]? =some (.loop D))->Inv i (a.setIfInBounds (c.size+1) (.loop C)))
  (E: ∀rec,Inv 0 ((c.push (.deferred (some []))).push (.loop rec)))
  (round: ∀i x a rec t F,l[i]? =some x->Inv i a->a[c.size]? =some (.deferred (some []))->a[c.size+1]? =some (.loop rec)->rec.state= .ready->
   (∀ d,Inv (i+1) d->d[c.size]? =some (.deferred (some []))->d[c.size+1]? =some (.loop {rec with state:= .busy})->t d)->body (qS x) (c.size+1) a t F)
  (fin: ∀d,Inv l.length d->d[c.size]? =some (.deferred (some []))->r d):XI o P fv [.one .sl] body c r A:=by
 intro rec h k R G;obtain⟨f,u,rfl,H,I⟩:=z;refine⟨f,_,?_,AA.mono (I ((c.push (.deferred (some []))).push (.loop rec)) (.func (.yield (c.size+1)) #[] #[])
  (λi g a=>Inv i a/\g=true/\a[c.size]? =some (.deferred (some []))/\a[c.size+1]? =some (.loop rec)) rfl (λi g a J=>B i a J.1) ?_ ?_) ?_⟩
 ·have K:(do let w <-Deferred.ofValue (.func (.func f) #[] u) #[.func (.yield (c.size+1)) #[] #[]];invoke w.target w.args:Sem Next).calc P=(callFunc f (#[]++ #[.func (.yield (c.size+1)) #[] #[]]++u)).calc P:=rfl;unfold Sa;rw[K,H]
 ·rintro i x a L ⟨m,_,j,e⟩;refine G (qS x) a _ e (round i x a rec _ _ L m j e h ?_);intro d M y n;have N:c.size+1<d.size:=Ai n;refine⟨_,n,true,rfl,s _ _ _ M y ⟨_,n⟩,rfl,?_,?_⟩
  ·rw[DP (by omega)];exact y
  ·rw[Cb N];cases rec;simp at h k;simp[h,k]
 ·refine⟨E rec,rfl,?_,?_⟩
  ·rw[PJ (by simp)];simp
  ·have O:c.size+1=(c.push (.deferred (some []))).size:=by simp
   rw[O];exact R0
 ·rintro v S ⟨_,i,g,⟨m,rfl,j,e⟩,Q,T⟩;refine⟨rec,e,by simp[h],.inl ⟨k,fin _ ?_ ?_⟩⟩
  ·have:=Q rfl;subst this;exact s _ _ _ m j ⟨_,e⟩
  ·rw[DP (by omega)];exact j
end Go.Lf
namespace Go.Lf.G
open Go
def U8(a:aa)(c:Nat):Prop:= ∃b d,a[c]? =some (J2 b EE d)
def fP(a:Nat)(c:aa)(b:Nat)(l:List UInt8):Prop:= ∀(d:aq) (e:Nat),Lib.IsBuilderF ET EE a b (Lib.byteCells l) (d.at c e)
theorem yL {A:aq}{n a b:Nat}{c:aa}{l:List UInt8}(d:Lib.IsBuilderF ET EE a b (Lib.byteCells l) (A.at c n)):fP a c b l:=λ_ _=>d
theorem Vu {g:aq}{a:aa}{j e b:Nat}{d:World}(hB:e<=a.size)(n:RowKit.Below e (g.at a j) d)(o:Lib.OthersKept EE (some b) (g.at a j) d):
  d=g.at d.heap d.drawn/\Mod (λc=>c=b\/(e<=c/\U8 a c)) a d.heap:=by
 obtain⟨f,k,l,p,q⟩:=n;refine⟨?_,⟨p,λc r m=>?_⟩⟩
 ·cases d;simp only[aq.at] at f k l ⊢;subst f k l;rfl
 ·by_cases s:c<e
  ·exact q c s
  ·have h:a[c]? =some a[c]:=Ft r;have f:=o c a[c] h (by intro i;exact m (.inl (BY i))) (λt u i=>m (.inr ⟨by omega,t,u,by rw[h,i]⟩));rw[f];exact h.symm
theorem fP.mod {a b:Nat}{e f:aa}{l:List UInt8}{h:Nat->Prop}(t:fP a e b l)(m:Mod h e f)(u: ¬h b)(w: ∀c,a<=c->U8 e c-> ¬h c):fP a f b l:=by
 intro i j;have n: ∀p,Lib.BuilderAtF ET EE a b p (Lib.byteCells l) (i.at e j)->Lib.BuilderAtF ET EE a b p (Lib.byteCells l) (i.at f j):=by
  rintro p ⟨d,v,x,⟨y,k⟩,z⟩;refine⟨d,v,m.ah x u,⟨y,?_⟩,z⟩;rcases k with k|⟨g,A,o,q,B,r,s,rest⟩
  ·exact .inl k
  ·exact .inr ⟨g,A,o,q,B,r,m.ah s (w g r ⟨o,q,s⟩),rest⟩
 rcases t i j with d|d
 ·exact .inl (n _ d)
 ·exact .inr (n _ d)
theorem fP.ext {c b:Nat}{a d:aa}{l:List UInt8}(e:fP c a b l)(m:Ext a d):fP c d b l:=e.mod m (λa=>a) (λ_ _ _ a=>a)
theorem AQW {a b:Nat}{c:aa}(d:c[b]? =some (J2 #[J5 none,J4 none 0 0] ET (0,0)))(hB:a<=b):fP a c b []:=by intro e f;exact .inl ⟨hB,_,d,⟨rfl,.inl ⟨rfl,rfl⟩⟩,by simp[Value.ownBlock]⟩
theorem Uo {A:aq}{a:aa}{d b:Nat}{l:List UInt8}{s:A2L}{g:A2K}(j:fP d a b l)(hB:d<=a.size)(q:l.length+s.size<=1099511627776)
  (k: ∀e,fP d e b (l++bl s)->Mod (λc=>c=b\/(d<=c/\U8 a c)) a e->g (J1 #[J6 J9 s.size,.nilIface]) e):AA A P Dr #[Am b,J7 s] a g:=by
 intro n;refine Calls.mono (Proofs.Any.Builder_WriteString_k Proofs.Tryz.iy Proofs.Tryz.dL d b (Lib.byteCells l) s (A.at a n) (j A n) (by rw[Lib.byteCells_length];omega) hB) ?_;rintro r f ⟨rfl,h,o,p⟩;obtain⟨i,m⟩:=Vu hB o p;refine⟨_,rfl,f.heap,f.drawn,i,k _ ?_ m⟩;rw[Lib.strCells_eq,<-Lib.byteCells_append,i] at h;exact yL (A:=A) (n:=f.drawn) (.inr h)
theorem AJr {A:aq}{a:aa}{d b:Nat}{l:List UInt8}{g:A2K}(j:fP d a b l)(hB:d<=a.size)
  (k: ∀e,fP d e b l->Mod (λc=>c=b\/(d<=c/\U8 a c)) a e->g (J7 (AY l)) e):AA A P Gb #[Am b] a g:=by
 intro n;refine Calls.mono (Proofs.Any.Builder_String_any_k Proofs.Tryz.iz Proofs.Tryz.dL d b l (A.at a n) (j A n) hB) ?_;rintro q f ⟨rfl,h,o,p⟩;obtain⟨i,m⟩:=Vu hB o p;refine⟨_,rfl,f.heap,f.drawn,i,k _ ?_ m⟩;rw[i] at h;exact yL (A:=A) (n:=f.drawn) h
def Pz(s:Sl)(i:Nat):Sl:=⟨BA s.p (min (8*i+8) s.len) (8*i) 3,min (8*i+8) s.len-8*i,min (8*i+8) s.len-8*i⟩
def chunks(s:Sl):List Sl:=(List.range ((s.len+7) / 8)).map (Pz s)
theorem RQ(s:Sl):(chunks s).length=(s.len+7) / 8:=by simp[chunks]
theorem yM {s:Sl}{i:Nat}(a:i<(s.len+7) / 8):(chunks s)[i]? =some (Pz s i):=by simp[chunks,a]
theorem View.chunk {d:aa}{s:Sl}{l:List Pr}(v:View BR d s l){i:Nat}(e:i<Br l):View BR d (Pz s i) (CG l i):=by
 have f:=v.len;unfold Br at e;refine⟨?_,A0 _,λb x c=>?_⟩
 ·show min (8*i+8) s.len-8*i=(CG l i).length;unfold CG;rw[Ax,DQ,f];omega
 ·have g:b<8:=by have:=(List.getElem?_eq_some_iff.1 c).1;unfold CG at this;rw[Ax] at this;omega
  rw[QN g] at c;obtain⟨a,h,j⟩:=v.cells _ _ c;have m:=(List.getElem?_eq_some_iff.1 c).1;refine⟨a.add (8*i*3),?_,?_⟩
  ·unfold Pz BA;simp only[h];rw[if_neg (by omega)];rfl
  ·rw[add_add];have k:8*i*3+b*BR.w=(8*i+b)*BR.w:=by show 8*i*3+b*3=(8*i+b)*3;omega
   rw[k];exact j
theorem ANm {a i:Nat}(b:a<=1099511627776)(c:8*i<a):J8 J9 (((8*i:Nat):Int)+(if((((a-((8*i:Nat):Int).toNat):Nat):Int):Int)<(8:Int) then(((a-((8*i:Nat):Int).toNat):Nat):Int) else(8:Int)))=((min (8*i+8) a:Nat):Int):=by
 rw[A6];split
 ·rw[wrap_i64 (by omega) (by omega)];omega
 ·rw[wrap_i64 (by omega) (by omega)];omega
abbrev APk:Q8:=DZ
theorem APG {n:aq}{a:aa}{s:Sl}{o:A2K}(p:s.len<=s.cap)(w:s.len<=1099511627776)
  (y: ∀fv b,Ext a b->b.size=a.size+2->b[a.size]? =some (J2 #[J4 s.p s.len s.cap] AQ (0,0))->b[a.size+1]? =some (J2 #[J6 J9 8] Bp (0,0))->
   wO n P fv (λc=>c=a.size\/c=a.size+1) b (chunks s)->o fv b):AA n P Dj #[J4 s.p s.len s.cap,J6 J9 8] a o:=by
 refine JK ?_;unfold FQ;refine ao.mk λJ _ z A B=>?_
 refine ao.mk λC _ d q L=>?_
 refine ai.mk λK h=>?_
 refine AC.mk (AO d rfl) ?_;refine af.no rfl (h _ _ ?_);have r:=Ao q z;rw[B] at d ⊢;refine y _ C (A.trans q) (by omega) r d ⟨APk,#[Am a.size,Am (a.size+1)],rfl,λD=>by kernel_rfl,?_⟩;intro M D E N j F G;refine IZ ?_;unfold Eu;refine Loop.rule (λm x e=> ∃i:Nat,x=(((8*i:Nat):Int),())/\m=(s.len+7) / 8-i/\i<=(s.len+7) / 8/\E i true e) ?_ ⟨0,rfl,rfl,by omega,G⟩;rintro K m _ e ⟨i,rfl,rfl,O,f⟩ h;have hA:e[a.size]? =some (J2 #[J4 s.p s.len s.cap] AQ (0,0)):=(j _ _ _ f _ (.inl rfl)).trans r;have hB:e[a.size+1]? =some (J2 #[J6 J9 8] Bp (0,0)):=(j _ _ _ f _ (.inr rfl)).trans d;refine aD (AZ.mk (AO hA rfl) ?_);dsimp only;refine af.intro (λk=>?_) (λk=>?_)
 ·have t:8*i<s.len:=by simp at k;omega
  refine aD (AC.mk (AO hB rfl) ?_);refine aD (AZ.mk (AO hA rfl) ⟨by omega,?_⟩);refine aD (AZ.mk (AO hA rfl) ?_);rw[ANm w t,A6,A6];refine⟨by omega,by omega,by omega,?_⟩;have p:=yM (s:=s) (i:=i) (by omega);have u:=F i _ e p f;simp only[wy,Pz] at u;refine Ed.mono u ?_;rintro v b ⟨g,rfl,l⟩;refine⟨g,rfl,?_⟩;cases g with
  |false=>exact af.yes rfl ⟨rfl,i+1,false,l,(λa=>by cases a),by rw[RQ];omega⟩
  |true=>
   refine af.no rfl (aD ?_);have H:b[a.size+1]? =some (J2 #[J6 J9 8] Bp (0,0)):=(j _ _ _ l _ (.inr rfl)).trans d;refine AC.mk (AO H rfl) ?_;have I:J8 J9 (((8*i:Nat):Int)+(8:Int))=((8*(i+1):Nat):Int):=by rw[wrap_i64 (by omega) (by omega)];omega
   rw[I];exact h ((s.len+7) / 8-(i+1)) _ _ (by omega) ⟨i+1,rfl,rfl,by omega,l⟩
 ·have t:s.len<=8*i:=by simp at k;omega
  have:i=(s.len+7) / 8:=by omega
  exact⟨rfl,i,true,f,λ_=>by rw[RQ];exact this,by rw[RQ];omega⟩
theorem rE:QF P CK BF IY.w 16=true:=by kernel_rfl
structure BS (h1:aa) (B:Nat) (E:Nat->Obj->Prop) (out:List UInt8) (kl:List A2L) (ix:List UInt8) (n:Nat) (hh:aa):Prop where
 gC:fP B hh B out
 keys: ∃ks:Sl,hh[B+1]? =some (J2 #[J4 ks.p ks.len ks.cap] CK (0,0))/\Own IY BF hh ks kl/\ ∀c,ks.ah=some c->B+3<c
 ix:hh[B+2]? =some (J2 #[J7 (AY ix)] BF (0,0))
 cn:hh[B+3]? =some (J2 #[J6 J9 (n:Int)] Bp (0,0))
 fix: ∀c o,E c o->hh[c]? =some o
 dN:Mod (λc=>B<=c) h1 hh
structure km (B:Nat) (E:Nat->Obj->Prop):Prop where
 u8: ∀c o,E c o-> ∀cs fz,o≠ J2 cs EE fz
 str: ∀c o,E c o-> ∀cs fz,o≠ J2 cs BF fz
 lt: ∀c o,E c o->B+3<c
theorem my {d:aa}{c:Nat}{e:Obj}(g:d[c]? =some e)(h: ∀a b,e≠ J2 a EE b): ¬U8 d c:=by rintro⟨a,b,f⟩;rw[g] at f;exact h a b (BY f)
theorem Mq {e:Array J0}{T b:Q7}{fr:Nat×Nat}(f:T≠b): ∀c d,(Obj.cells e T fr)≠ J2 c b d:=λc d a=>by injection a with _ a _;exact f a
theorem yN {a:aa}{b:Sl}{d:List A2L}(e:Own IY BF a b d){c:Nat}(f:U8 a c):b.ah≠some c:=by obtain⟨h,i,g⟩:=f;exact e.ne g (by decide)
theorem BS.ext {a d e:aa}{f:Nat}{g:Nat->Obj->Prop}{out:List UInt8}{h:List A2L}{i:List UInt8}{j:Nat}(b:BS a f g out h i j d)(x:Ext d e):BS a f g out h i j e:=by obtain⟨k,l,m,n⟩:=b.keys;exact⟨b.gC.ext x,⟨k,Ao x l,m.ext x,n⟩,Ao x b.ix,Ao x b.cn,λc o p=>x.ah (b.fix c o p) (λq=>q),b.dN.trans x.mod⟩
theorem BS.write {j g h:aa}{e:Nat}{i:Nat->Obj->Prop}{out k:List UInt8}{l:List A2L}{n:List UInt8}{o:Nat}(ok:km e i)(b:BS j e i out l n o g)(r:fP e h e k)
  (m:Mod (λc=>c=e\/(e<=c/\U8 g c)) g h):BS j e i k l n o h:=by
 obtain⟨s,t,p,q⟩:=b.keys;have aR: ∀ {c:Nat} {f:Obj},g[c]? =some f->c≠e->(∀ u v,f≠ J2 u EE v)->h[c]? =some f:=λa w x=>m.ah a (λd=>d.elim w (λd=>my a x d.2))
 refine⟨r,⟨s,aR t (by omega) (Mq (by decide)),p.mod m (λc a d=>?_),q⟩,aR b.ix (by omega) (Mq (by decide)),aR b.cn (by omega) (Mq (by decide)),λc f a=>aR (b.fix c f a) (by have:=ok.lt c f a;omega) (ok.u8 c f a),b.dN.trans (m.aj λc _ a=>by rcases a with d|d<;>omega)⟩;rcases d with d|d
 ·have:=q c a;omega
 ·exact yN p d.2 a
theorem BS.key {l h i:aa}{d:Nat}{j:Nat->Obj->Prop}{out:List UInt8}{n p:List A2L}{q:List UInt8}{r:Nat}(ok:km d j)(b:BS l d j out n q r h){f jy:Sl}(v:h[d+1]? =some (J2 #[J4 f.p f.len f.cap] CK (0,0)))
  (s:Own IY BF h f n) (k: ∀c,f.ah=some c->d+3<c) (m:Mod (λc=>f.ah=some c\/c=d+1) h i) (w:i[d+1]? =some (J2 #[J4 jy.p jy.len jy.cap] CK (0,0)))
  (x:Own IY BF i jy p) (y: ∀c,jy.ah=some c->d+3<c):BS l d j out p q r i:=by
 have hB: ∀c,f.ah=some c\/c=d+1->d+1<=c:=λc e=>by
  rcases e with a|a
  ·have:=k c a;omega
  ·omega
 refine⟨b.gC.mod m (λa=>by have:=hB _ a;omega) (λc e t a=>?_),⟨jy,w,x,y⟩,m.ah b.ix (λa=>?_),m.ah b.cn (λa=>?_),λc o e=>m.ah (b.fix c o e) (λa=>?_),b.dN.trans (m.aj λc _ e=>by have:=hB _ e;omega)⟩
 ·rcases a with a|a
  ·exact yN s t a
  ·subst a;exact my v (Mq (by decide)) t
 ·rcases a with a|a
  ·have:=k _ a;omega
  ·omega
 ·rcases a with a|a
  ·have:=k _ a;omega
  ·omega
 ·rcases a with a|a
  ·rcases s.row with⟨rfl,_⟩|⟨g,z,A,u,_⟩
   ·simp[Sl.ah] at a
   ·simp[Sl.ah,A] at a;subst a;rw[b.fix _ o e] at u;exact ok.str _ o e z (0,0) (BY u)
  ·have:=ok.lt c o e;omega
theorem BS.ixs {h i e:aa}{d:Nat}{f:Nat->Obj->Prop}{out:List UInt8}{j:List A2L}{o oU:List UInt8}{k:Nat}(ok:km d f)(b:BS h d f out j o k i)(m:Mod (λc=>c=d+2) i e)(p:e[d+2]? =some (J2 #[J7 (AY oU)] BF (0,0))):BS h d f out j oU k e:=by
 obtain⟨q,r,s,l⟩:=b.keys;exact⟨b.gC.mod m (λg=>by omega) (λc a t g=>by subst g;exact my b.ix (Mq (by decide)) t),⟨q,m.ah r (by omega),s.mod m (λc a g=>by have:=l c a;omega),l⟩,p,m.ah b.cn (by omega),
  λc n a=>m.ah (b.fix c n a) (by have:=ok.lt c n a;omega),b.dN.trans (m.aj λc _ a=>by omega)⟩
theorem BS.oT {h i e:aa}{d:Nat}{f:Nat->Obj->Prop}{out:List UInt8}{j:List A2L}{k:List UInt8}{o n':Nat}(ok:km d f)(b:BS h d f out j k o i)(m:Mod (λc=>c=d+3) i e)(p:e[d+3]? =some (J2 #[J6 J9 (n':Int)] Bp (0,0))):BS h d f out j k n' e:=by
 obtain⟨q,r,s,l⟩:=b.keys;exact⟨b.gC.mod m (λg=>by omega) (λc a t g=>by subst g;exact my b.cn (Mq (by decide)) t),⟨q,m.ah r (by omega),s.mod m (λc a g=>by have:=l c a;omega),l⟩,m.ah b.ix (by omega),p,
  λc n a=>m.ah (b.fix c n a) (by have:=ok.lt c n a;omega),b.dN.trans (m.aj λc _ a=>by omega)⟩
theorem BS.lp {k h:aa}{i d:Nat}{j:Nat->Obj->Prop}{out:List UInt8}{l:List A2L}{n:List UInt8}{o:Nat}(b:BS k i j out l n o h)(hd:i+3<d)(s: ∀e,¬j d e){t:Go.Loop}(p:h[d]? =some (.loop t))(e:Go.Loop):BS k i j out l n o (h.setIfInBounds d (.loop e)):=by
 obtain⟨u,v,q,w⟩:=b.keys;have m:Mod (λc=>c=d) h (h.setIfInBounds d (.loop e)):=Mod.setObj rfl;refine⟨b.gC.mod m (λf=>by omega) (λc a x f=>by subst f;exact my p (λ_ _ y=>by cases y) x),⟨u,m.ah v (by omega),q.mod m (λc a f=>?_),w⟩,m.ah b.ix (by omega),m.ah b.cn (by omega),
  λc e a=>m.ah (b.fix c e a) (λf=>by subst f;exact s _ a),b.dN.trans (m.aj λc _ a=>by omega)⟩
 subst f;rcases q.row with⟨rfl,_⟩|⟨g,A,z,r,_⟩
 ·simp[Sl.ah] at a
 ·simp[Sl.ah,z] at a;subst a;rw[p] at r;cases r
def Iz(l:List Pr):List A2L:=l.map (·.key)
def je(l:List Pr):Nat:=min (l.length+8) 8192
def NA(l:List Pr):List UInt8:=kg (Iz l) (je l)
def Jh(l:List Pr):List UInt8:=aJ (aT l (NA l))
def Gu(a:List A2L):List UInt8:=a.flatMap λb=>BQ (bl b)
structure G7 (l:List Pr):Prop where
 ne:l≠ []
 ok: ∀p∈l,Lg p
 inc:l.Pairwise λp q=>aM p.key q.key=true
 many:l.length<=100000
theorem G7.eL {l:List Pr}(T:G7 l):gV (Jh l) l (NA l):=by
 have a:1<=je l/\je l<=8192:=by unfold je;omega
 refine⟨rfl,T.ne,T.ok,T.inc,?_,λp b=>APE a.1 a.2 (IN b),T.many⟩;unfold NA;rw[APs a.1];exact a
theorem VE: ∀ {rs:List (List UInt8)},(∀ r∈rs,r.length<=1048576)->(aJ rs).length<=rs.length*1048590
 | [],_=>by simp
 |r::rs,a=>by
  have d:=(JQ (a r Cl)).2;have e:=a r Cl;have b:=VE (rs:=rs) λx c=>a x (AG _ c)
  simp only[aJ,AH,A1,A5] at b ⊢;omega
theorem Qu: ∀ {ks:List A2L},(∀ k∈ks,k.size<=64)->(Gu ks).length<=ks.length*74
 | [],_=>by simp[Gu]
 |k::ks,a=>by
  have d:=a k Cl;have e:=AV (n:=(bl k).length) (by rw[Ay];omega);have b:=Qu (ks:=ks) λx c=>a x (AG _ c)
  have f:=Ay k;simp only[Gu,AH,A1,A5,BQ] at b ⊢;omega
theorem PD {l:List Pr}(b: ∀p∈l,Lg p): ∀a∈CV l,a.size<=64:=λa c=>by
 obtain⟨i,_,rfl⟩:=List.mem_map.1 c;unfold Iy;split
 ·rename_i p d;exact(b p (AK d)).bK
 ·exact AD _
theorem Qt {l:List Pr}(a: ∀p∈l,Lg p){i:Nat}(b:i<Br l):(BP (CG l i)).length<=8*8276:=by
 have e:=Lu (l:=CG l i) λp c=>a p (Po c)
 have d:=(Qn b).2.1;have:(CG l i).length*8276<=8*8276:=AN _ d;omega
theorem yO {l:List Pr}(c: ∀p∈l,Lg p): ∀a∈(Kj l).map BP,a.length<=1048576:=λa d=>by
 obtain⟨b,e,rfl⟩:=List.mem_map.1 d;obtain⟨i,f,rfl⟩:=List.mem_map.1 e;have:=Qt c (List.mem_range.1 f);omega
theorem AOs {l:List Pr}{i:Nat}(a:i<Br l):((Kj l).map BP)[i]? =some (BP (CG l i)):=by simp[Kj,a]
theorem RX {l:List Pr}{i:Nat}(a:i<Br l):(CV l)[i]? =some (Iy l (8*i)):=by simp[CV,a]
theorem UE {a:Type}{l:List a}{i:Nat}{x:a}(b:l[i]? =some x):l.take (i+1)=l.take i++ [x]:=by rw[As,b];rfl
theorem yP(a b:List Pr):Iz (a++b)=Iz a++Iz b:=by simp[Iz]
theorem yQ {l:List Pr}(b:l.Pairwise λp a=>aM p.key a.key=true){i:Nat}{p a:Pr}(c:l[i]? =some p)(d:l[i+1]? =some a):aM p.key a.key=true:=by obtain⟨e,rfl⟩:=List.getElem?_eq_some_iff.1 c;obtain⟨f,rfl⟩:=List.getElem?_eq_some_iff.1 d;exact List.pairwise_iff_getElem.1 b _ _ e f (by omega)
theorem AKv(a:Nat)(b:a<=100000):(if(8192:Int)<(J8 J9 (((a:Nat):Int)+(8:Int))) then(8192:Int) else(J8 J9 (((a:Nat):Int)+(8:Int))))=((min (a+8) 8192:Nat):Int):=by rw[wrap_i64 (by omega) (by omega)];split<;>omega
theorem AO2 {bw:aq}{e:aa}{s:Sl}{l:List Pr}{aX:A2K}(T:G7 l)(X:View BR e s l)(au: ∀b,s.ah=some b->b<e.size)
  (bx: ∀aY,Ext e aY->aX (J1 #[J7 (AY (Jh l)),J6 J9 0]) aY):AA bw P P6 #[J4 s.p s.len s.cap] e aX:=by
 refine ACH ?_;unfold WR;have cR:=List.length_pos_iff.2 T.ne;have cS:=T.many;refine af.no (by rw[X.len];simp;exact T.ne) ?_;refine Loop.rule (λm x t=> ∃i:Nat,x=(⟨#[]⟩,0,(i:Int),())/\m=l.length-i/\i<=l.length/\Ext e t) ?_ ⟨0,rfl,rfl,by omega,Mod.refl⟩;rintro K m _ g ⟨i,rfl,rfl,cT,M⟩ aZ;dsimp only;have av:=X.ext M;refine af.intro (λw=>?_) (λw=>?_)
 ·have aw:i<l.length:=by rw[X.len] at w;simp at w;omega
  have y:l[i]? =some l[i]:=A2 aw;have z:=T.ok _ (AW aw);generalize l[i]=x at y z;have a0:=z.bK;have bz:=z.cp;refine av.idx y λa bA f=>?_
  obtain⟨ax,ay,c2⟩:=f.pair;rw[A6];refine AJ.mk ax (AJ.mk ay (Aa.mk c2 ?_));refine ao.pair λb Y bB B a1 cU=>?_
  refine ai.mk λaz bC=>?_
  refine AJ.mk (AO B rfl) (af.no (yJ z.key) ?_);have a2:az (false,()) Y:=by
   refine bC _ _ (af.no rfl ?_);refine ai.mk λcV bD=>?_
   refine AJ.mk (AO B rfl) (af.no (by simp;omega) ?_);refine AJ.mk (AB B rfl) ?_;refine bD _ _ (af.no (by simp;omega) ?_);rw[Ae (by omega)];exact aZ (l.length-(i+1)) _ _ (by omega) ⟨i+1,rfl,rfl,aw,M.trans a1⟩
  have a3:af (decide (((i:Nat):Int)>(0:Int))) (AJ Y (⟨b,0,none⟩:Q6) λa4=>
     bI s.p s.len (J8 J9 (((i:Nat):Int)-(1:Int))) λa5=>
     AJ Y (a5.add ((J8 J9 (((i:Nat):Int)-(1:Int))).toNat*3)) λa6=>
     az ((aM a4 a6||bO a4 a6),()) Y) (az (false,()) Y):=by
   refine af.intro (λbE=>?_) (λ_=>a2);have cW:0<i:=by simp at bE;omega
   obtain⟨k,rfl⟩: ∃k,i=k+1:=⟨i-1,by omega⟩;have aA:J8 J9 (((k+1:Nat):Int)-(1:Int))=(k:Int):=by rw[wrap_i64 (by omega) (by omega)];omega
   have N:l[k]? =some l[k]:=A2 (by omega);refine AJ.mk (AO B rfl) ?_;rw[aA];refine(av.ext a1).idx N λa5 cX Z=>?_
   rw[A6];refine AJ.mk Z.pair.1 ?_;have aC:=yQ T.inc N y;have q:(aM x.key l[k].key||bO x.key l[k].key)=false:=by
    rw[Hk];refine⟨?_,?_⟩
    ·cases bG:aM x.key l[k].key with
     |false=>rfl
     |true=>have:=Da aC bG;rw[Ca] at this;cases this
    ·rw[Bw,decide_eq_false_iff_not];intro q;rw[q,Ca] at aC;cases aC
   rw[q];exact a2
  refine Aa.mk (AB B rfl) (af.intro (λbH=>?_) (λ_=>a3));refine AJ.mk (AB B rfl) (af.no ?_ a3);rw[Xd,UD (z.gone bH)];rfl
 ·clear aZ;have aD:=X.len;refine ao.mk λbJ _ bK bL bM=>?_
  refine ao.mk λbN _ a7 a8 cY=>?_
  refine ao.mk λcZ _ a9 aE c0=>?_
  refine ae.mk a9 (by simp) λba bb ak c1=>?_
  refine ao.mk λc3 _ bc al c4=>?_
  refine ae.mk bc (by simp) λbd be ab c5=>?_
  have bf:bJ.size=g.size+1:=bM;have bg:bN.size=g.size+2:=by omega
  have bh:ba.size=g.size+3:=by omega
  have bP:bd.size=g.size+4:=by omega
  rw[bf] at a7;rw[bg] at a9 ak bb;rw[bh] at bc ab be;rw[bf,bg,bh];refine APG X.cap (by omega) λfv G O bQ aF Z bi=>⟨_,rfl,?_⟩
  rw[bP] at bQ aF Z bi;generalize bR:g.size=o at*
  have bS: ∃E:Nat->Obj->Prop,E=λc h=>(c=o+4/\h=J2 #[J4 s.p s.len s.cap] AQ (0,0))\/(c=o+5/\h=J2 #[J6 J9 8] Bp (0,0)):=⟨_,rfl⟩
  obtain⟨E,am⟩:=bS;have bT:Ext g G:=by refine⟨by have:=O.size;omega,λc f _=>?_⟩;rw[bR] at f;exact(O.get c (by omega) (λe=>e)).trans ((ab.get c (by omega) (by omega)).trans ((al.get c (by omega) (λe=>e)).trans ((ak.get c (by omega) (by omega)).trans ((aE.get c (by omega) (λe=>e)).trans ((a8.get c (by omega) (λe=>e)).trans (bL.get c (by omega) (λe=>e)))))))
  have bU:G[o]? =some (J2 #[J5 none,J4 none 0 0] ET (0,0)):=
   O.ah (ab.ah (al.ah (ak.ah (aE.ah (a8.ah bK (λe=>e)) (λe=>e)) (by omega)) (λe=>e)) (by omega)) (λe=>e)
  have bV:G[o+1]? =some (J2 #[J4 none 0 0] CK (0,0)):=
   O.ah (ab.ah (al.ah (ak.ah (aE.ah a7 (λe=>e)) (by omega)) (λe=>e)) (by omega)) (λe=>e)
  have bW:G[o+2]? =some (J2 #[J7 (AY [])] BF (0,0)):=by
   have bX:ba[o+2]? =some (J2 #[J7 (AY [])] BF (0,0)):=by rw[y5];simpa using bb
   exact O.ah (ab.ah (al.ah bX (λe=>e)) (by omega)) (λe=>e)
  have bY:G[o+3]? =some (J2 #[J6 J9 ((0:Nat):Int)] Bp (0,0)):=by
   have bZ:bd[o+3]? =some (J2 #[J6 J9 ((0:Nat):Int)] Bp (0,0)):=by simpa using be
   exact O.ah bZ (λe=>e)
  have bF:BS g o E [] [] [] 0 G:=by
   refine⟨AQW bU (A0 _),⟨⟨none,0,0⟩,bV,Own.nil,λc f=>by simp[Sl.ah] at f⟩,bW,bY,λc h f=>?_,bT.mod⟩;subst am;rcases f with⟨rfl,rfl⟩|⟨rfl,rfl⟩
   ·exact aF
   ·exact Z
  have Q:km o E:=by
   subst am;refine⟨λc h f C D=>?_,λc h f C D=>?_,λc h f=>?_⟩
   ·rcases f with⟨rfl,rfl⟩|⟨rfl,rfl⟩<;>exact Mq (by decide) _ _
   ·rcases f with⟨rfl,rfl⟩|⟨rfl,rfl⟩<;>exact Mq (by decide) _ _
   ·rcases f with⟨rfl,rfl⟩|⟨rfl,rfl⟩<;>omega
  have bj: ∀d h,o+6<=d-> ¬E d h:=by subst am;rintro d h hd (⟨rfl,_⟩|⟨rfl,_⟩)<;>omega
  have b0:(chunks s).length=Br l:=by rw[RQ,aD];rfl
  have c6:Br l<=12501:=by unfold Br;omega
  have an:G.size=o+6:=by omega
  have b1: ∀b,s.ah=some b->b<o:=λb b2=>by have:=au b b2;have:=M.size;omega
  refine ATC bi (λi t=>BS g o E (aJ (((Kj l).map BP).take i)) (Iz (l.take (8*i))) (Gu ((CV l).take i)) i t) ?_ ?_ ?_ ?_ ?_
  ·intro i t r c f;subst am;rcases f with rfl|rfl
   ·exact(r.fix _ _ (.inl ⟨rfl,rfl⟩)).trans aF.symm
   ·exact(r.fix _ _ (.inr ⟨rfl,rfl⟩)).trans Z.symm
  ·rintro i t h r R ⟨c7,b3⟩;exact r.lp (by omega) (λh=>bj _ _ (by omega)) b3 h
  ·intro rec;exact bF.ext ((Mod.push G _).trans (Mod.push _ _))
  ·intro i x t rec c8 c9 y r R ap b4 b5;have S:i<Br l:=by have:=(List.getElem?_eq_some_iff.1 y).1;omega
   have b6:x=Pz s i:=by have:=yM (s:=s) (i:=i) (by rw[aD];exact S);rw[this] at y;exact(BY y).symm
   subst b6;rw[an] at R ap ⊢;refine⟨rec,ap,b4,?_⟩;obtain⟨u,J⟩: ∃u:Nat->Obj->Prop,u=λc h=>E c h\/(c=o+6/\h= .deferred (some []))\/(c=o+6+1/\h= .loop {rec with state:= .busy}):=⟨_,rfl⟩
   have L:km o u:=by
    subst J;refine⟨λc h f C D=>?_,λc h f C D=>?_,λc h f=>?_⟩
    ·rcases f with e|⟨rfl,rfl⟩|⟨rfl,rfl⟩
     ·exact Q.u8 c h e C D
     ·intro q;cases q
     ·intro q;cases q
    ·rcases f with e|⟨rfl,rfl⟩|⟨rfl,rfl⟩
     ·exact Q.str c h e C D
     ·intro q;cases q
     ·intro q;cases q
    ·rcases f with e|⟨rfl,rfl⟩|⟨rfl,rfl⟩
     ·exact Q.lt c h e
     ·omega
     ·omega
   have U:=r.lp (d:=o+6+1) (by omega) (λh=>bj _ _ (by omega)) ap {rec with state:= .busy};have aG:BS g o u (aJ (((Kj l).map BP).take i)) (Iz (l.take (8*i))) (Gu ((CV l).take i)) i (t.setIfInBounds (o+6+1) (.loop {rec with state:= .busy})):=by
    refine⟨U.gC,U.keys,U.ix,U.cn,λc h f=>?_,U.dN⟩;subst J;rcases f with e|⟨rfl,rfl⟩|⟨rfl,rfl⟩
    ·exact U.fix c h e
    ·rw[DP (by omega)];exact R
    ·exact Cb (Ai ap)
   generalize t.setIfInBounds (o+6+1) (.loop {rec with state:= .busy})=da at aG;have db:=Qn S;have aH: ∀p∈CG l i,Lg p:=λp aI=>T.ok p (Po aI)
   have aK: ∀ {t:aa} {out:List UInt8} {b7:List A2L} {b8:List UInt8} {n:Nat},BS g o u out b7 b8 n t->View BR t (Pz s i) (CG l i):=λb=>
    View.chunk (av.mod b.dN (λc f=>by have:=b1 c f;omega)) S
   have b9:(Pz s i).len=(CG l i).length:=(aK aG).len;have aL:=VE (rs:=((Kj l).map BP).take i) λca cb=>yO T.ok ca (DM cb)
   have aN:=Qu (ks:=(CV l).take i) λk N=>PD T.ok k (DM N)
   rw[Ax] at aL aN;have dc:=Qt T.ok S;refine Loop.rule (λm x t=> ∃j:Nat,x=(AY (BP ((CG l i).take j)),(j:Int),())/\m=(CG l i).length-j/\j<=(CG l i).length/\
    BS g o u (aJ (((Kj l).map BP).take i)) (Iz (l.take (8*i))++Iz ((CG l i).take j)) (Gu ((CV l).take i)) i t) ?_ ⟨0,rfl,rfl,by omega,by simpa [Iz] using aG⟩
   rintro dd m _ de ⟨j,rfl,rfl,df,H⟩ cc;dsimp only[qS];refine af.intro (λw=>?_) (λw=>?_)
   ·have ac:j<(CG l i).length:=by have w:((j:Nat):Int)<(((Pz s i).len:Nat):Int):=of_decide_eq_true w;omega
    have y:(CG l i)[j]? =some (CG l i)[j]:=A2 ac;have z:=aH _ (AW ac);generalize (CG l i)[j]=p at y z;have bk:=UE y;refine(aK H).idx y λa bA f=>?_
    obtain⟨ax,ay,c2⟩:=f.pair;rw[A6];refine AJ.mk ax (AJ.mk ay (Aa.mk c2 ?_));refine ao.pair λbm dg bB B cd dh=>?_
    have A:=H.ext cd;obtain⟨ks,ad,ah,aj⟩:=A.keys;refine AZ.mk (s:=ks) (AO ad rfl) ?_;refine AJ.mk (AO B rfl) ?_;have di:o+3<bm:=by have:=Ai H.cn;omega
    have aO:(Iz (l.take (8*i))++Iz ((CG l i).take j)).length<=100010:=by rw[A1];simp only[Iz,Bs,Ax];omega
    refine ao.aY (E:=IY) (x:=p.key) rfl rE ah (by omega) (by simp only[maxLen];omega) λbn ce cf aP cg dj=>?_
    have ch:ce[o+1]? =some (J2 #[J4 ks.p ks.len ks.cap] CK (0,0)):=aP.ah ad (λe=>by have:=aj _ e;omega);refine ae.mk ch (by simp) λbo ci aQ dk=>?_
    have bp: ∀c,bn.ah=some c->o+3<c:=λc f=>by
     rcases cg c f with e|e
     ·exact aj c e
     ·have:=Ai A.cn;omega
    have F:BS g o u _ (Iz (l.take (8*i))++Iz ((CG l i).take j)++ [p.key]) _ i bo:=
     A.key L (jy:=bn) ad ah aj ((aP.aj λc _ f=> .inl f).trans (aQ.aj λc _ f=> .inr f)) (by simpa using ci) (cf.mod aQ (λc f e=>by have:=bp c f;omega)) bp
    have aR:bo[bm]? =some (J2 #[J7 p.key,J7 p.val,J3 p.gone] AR (0,0)):=aQ.ah (aP.ah B (λe=>ah.ne B (by decide) e)) (by omega);refine AJ.mk (AO aR rfl) (AJ.mk (AB aR rfl) (Aa.mk (AB aR rfl) ?_));refine AOk (x:=p) z λdl cj=>⟨_,rfl,?_⟩
    have ck:BP ((CG l i).take (j+1))=BP ((CG l i).take j)++Il p:=by rw[bk];simp[BP]
    have lt:=Lu (l:=(CG l i).take j) λcl w=>aH cl (DM w)
    rw[Ax] at lt;have lp:=(QP z).2;have a0:=z.bK;have bz:=z.cp;refine⟨by rw[AP,AP,max_i64];omega,?_⟩;rw[Ak,<-ck,Ae (by omega)];refine cc ((CG l i).length-(j+1)) _ _ (by omega) ⟨j+1,rfl,rfl,ac,?_⟩;have I:=F.ext cj;have:Iz ((CG l i).take (j+1))=Iz ((CG l i).take j)++ [p.key]:=by rw[bk,yP];rfl
    rw[this,<-A3];exact I
   ·have ac:j=(CG l i).length:=by have w: ¬((j:Nat):Int)<(((Pz s i).len:Nat):Int):=of_decide_eq_false w;omega
    have cm:(CG l i).take j=CG l i:=by rw[ac];simp
    rw[cm] at H ⊢;refine rm (by omega) (λe=>by omega) λaS dm cn=>⟨_,_,rfl,?_⟩
    have A:=H.ext cn;have co:=JQ aS;refine Uo A.gC (by have:=Ai A.cn;omega) (by rw[AP];omega) λcp cq cr=>⟨_,_,rfl,?_⟩
    have F:=A.write L cq cr;rw[EN] at F;refine AJ.mk (AO F.ix rfl) ?_;have aU:(CG l i)[0]? =some (CG l i)[0]:=A2 (by omega);have bq:Iy l (8*i)=(CG l i)[0].key:=by have:=QN (l:=l) (i:=i) (j:=0) (by omega);rw[aU] at this;unfold Iy;rw[G0] at this;rw[<- this]
    have br:=aH _ (AW (show 0<(CG l i).length by omega));generalize (CG l i)[0]=V at aU bq br;obtain⟨cs,ct,bs⟩:=(aK F).cells 0 V aU;refine bI.mk (k:=0) ct (by rw[b9];omega) ?_;rw[HT,add_zero] at bs;refine AJ.mk (n:=V.key) (by show ag cp (cs.add 0)=_;rw[add_zero];exact bs.pair.1) ?_;have a0:=br.bK;refine Vb (by omega) λdn cu=>⟨_,rfl,?_⟩
    have I:=F.ext cu;refine⟨AO I.ix rfl,?_⟩;have dp:=AV (n:=(bl V.key).length) (by rw[Ay];omega);have dq:=Ay V.key;refine⟨by rw[AP,AP,max_i64];simp only[BQ,A1];omega,?_⟩;rw[Ak];refine ae.mk I.ix (by simp) λdr cv cw ds=>?_
    have W:=I.ixs L (oU:=Gu ((CV l).take i)++BQ (bl V.key)) cw (by simpa using cv);refine AC.mk (AO W.cn rfl) ?_;rw[Ae (by omega)];refine ae.mk W.cn (by simp) λcx cy cz dt=>?_
    have v:=W.oT L (n':=i+1) cz (by simpa using cy);have aA:aJ (((Kj l).map BP).take (i+1))=aJ (((Kj l).map BP).take i)++Cv (BP (CG l i)):=by rw[UE (AOs S)];simp[aJ]
    have cB:Iz (l.take (8*(i+1)))=Iz (l.take (8*i))++Iz (CG l i):=by rw[<- yP,wu]
    have cC:Gu ((CV l).take (i+1))=Gu ((CV l).take i)++BQ (bl V.key):=by rw[UE (RX S),bq];simp[Gu]
    subst J;refine b5 cx ?_ ?_ ?_
    ·rw[aA,cB,cC];exact⟨v.gC,v.keys,v.ix,v.cn,λc h f=>v.fix c h (.inl f),v.dN⟩
    ·rw[an];exact v.fix _ _ (.inr (.inl ⟨rfl,rfl⟩))
    ·rw[an];exact v.fix _ _ (.inr (.inr ⟨rfl,rfl⟩))
  ·intro cD r R;rw[b0] at r;have ad:((Kj l).map BP).take (Br l)=(Kj l).map BP:=AF (by simp[JB]);have ah:l.take (8*Br l)=l:=AF (by unfold Br;omega);have aj:(CV l).take (Br l)=CV l:=AF (by simp[Hq]);rw[ad,ah,aj] at r;rw[an] at R ⊢;obtain⟨u,J⟩: ∃u:Nat->Obj->Prop,u=λc h=>E c h\/(c=o+6/\h= .deferred (some [])):=⟨_,rfl⟩
   have L:km o u:=by
    subst J;refine⟨λc h f C D=>?_,λc h f C D=>?_,λc h f=>?_⟩
    ·rcases f with e|⟨rfl,rfl⟩
     ·exact Q.u8 c h e C D
     ·intro q;cases q
    ·rcases f with e|⟨rfl,rfl⟩
     ·exact Q.str c h e C D
     ·intro q;cases q
    ·rcases f with e|⟨rfl,rfl⟩
     ·exact Q.lt c h e
     ·omega
   have H:BS g o u (aJ ((Kj l).map BP)) (Iz l) (Gu (CV l)) (Br l) cD:=by
    refine⟨r.gC,r.keys,r.ix,r.cn,λc h f=>?_,r.dN⟩;subst J;rcases f with e|⟨rfl,rfl⟩
    ·exact r.fix c h e
    ·exact R
   obtain⟨ks,bt,aV,du⟩:=H.keys;refine AZ.mk (s:=ks) (AO bt rfl) (AZ.mk (s:=ks) (AO bt rfl) ?_);have aO:ks.len=l.length:=by rw[aV.len];simp[Iz]
   have bu:1<=je l/\je l<=8192:=by unfold je;omega
   have bv:=T.eL;have dv:=bv.jx;rw[aO,AKv _ T.many];rw[show((min (l.length+8) 8192:Nat):Int)=((je l:Nat):Int) from rfl,<-aO];refine AQV (ks:=Iz l) aV.view (λk N=>?_) bu.1 bu.2 (by simp[Iz];omega) (λb au=>aV.lt au) λdw cE=>⟨_,_,rfl,?_⟩
   ·obtain⟨p,aI,rfl⟩:=List.mem_map.1 N;have:=(T.ok p aI).bK;omega
   have A:=H.ext cE;refine AC.mk (AO A.cn rfl) (AJ.mk (AO A.ix rfl) ?_);rw[CF (by omega)];refine Cc (by omega) λdx cF=>⟨_,rfl,?_⟩
   have F:=A.ext cF;refine⟨AO F.ix rfl,?_⟩;have dy:=AV (n:=Br l) (by omega);have aN:=Qu (ks:=CV l) (PD T.ok);rw[Hq] at aN;refine⟨by rw[AP,AP,max_i64];omega,?_⟩;rw[aD,CF (by omega)];refine Cc (by omega) λdz cG=>⟨_,rfl,?_⟩
   have I:=F.ext cG;have dA:=AV (n:=l.length) (by omega);refine⟨AO I.ix rfl,?_⟩;rw[Ak];refine⟨by rw[AP,AP,max_i64];simp only[A1];omega,?_⟩;refine RB (l:=NA l) (by omega) λdB cH=>⟨_,rfl,?_⟩
   have W:=I.ext cH;have dC:=AV (n:=(NA l).length) (by omega);refine⟨AO W.ix rfl,?_⟩;rw[Ak,Ak];have dD:(BQ (NA l)).length=(Bc (NA l).length).length+(NA l).length:=by simp[BQ]
   refine⟨by rw[AP,AP,max_i64];simp only[A1];omega,?_⟩;have cI:Bc (Br l)++Gu (CV l)++Bc l.length++BQ (NA l)=Vq l (NA l):=by unfold Vq Gu;simp only[A3]
   rw[cI];have dE:=YF bv;refine rm (by omega) (λe=>by omega) λaS dF cJ=>⟨_,_,rfl,af.no rfl ?_⟩
   have v:=W.ext cJ;have aL:=VE (rs:=(Kj l).map BP) (yO T.ok);rw[Bs,JB] at aL;have co:=JQ aS;refine Uo v.gC (by have:=Ai v.cn;omega) (by rw[AP];omega) λdG cK cL=>⟨_,_,rfl,?_⟩
   have ar:=v.write L cK cL;rw[EN] at ar;refine AJr ar.gC (by have:=Ai ar.cn;omega) λcM cN cO=>⟨_,rfl,?_⟩
   have aW:=ar.write L cN cO;have cP:aJ ((Kj l).map BP)++Cv (Vq l (NA l))=Jh l:=by unfold Jh aT;simp[aJ]
   have cQ:cM[o+6]? =some (.deferred (some [])):=aW.fix _ _ (by subst J;exact .inr ⟨rfl,rfl⟩);refine⟨cQ,?_⟩;rw[cP];refine bx _ ⟨?_,λc f _=>?_⟩
   ·have:=aW.dN.size;have:=M.size;simp;omega
   ·have:=M.size;rw[DP (by omega)];exact(aW.dN.get c (by omega) (by omega)).trans (M.get c f (λe=>e))
end Go.Lf.G
namespace Go.Proofs
open Go.Shelf
theorem bears {P : Program} {f : FuncId} {b : Func} (a : (P.funcs[f]?).map (λx => { x with name := "" }) = some { b with name := "" }) (d : ((P.funcs[f]?).all λx => !(x.name == "runtime.NumGoroutine")) = true) : Bears P f b := by
 cases c:P.funcs[f]? with
 |none=>rw[c] at a;cases a
 |some x=>
  rw[c] at a d;simp only[Option.map_some,Option.some.injEq] at a;refine⟨x.name,by simpa using d,c.trans (congrArg some ?_)⟩;cases x;cases b
  simp_all
def Tryz.cE:Go.Shelf.Ren:=⟨λ|7=>76|10=>118|a=>a,λ|23=>102|26=>9|3=>165|28=>163|0=>0|27=>162|33=>71|4=>4|a=>a,λ|a=>a⟩
theorem Tryz.iQ:Go.Proofs.SlLaysZ.n7 Tryz.prog Tryz.cE:=by repeat' first|exact Lf.Dh (by kernel_rfl)|kernel_rfl|exact bears (by kernel_rfl) (by kernel_rfl)|decide|constructor
def Tryz.dF:Go.Shelf.Ren:=⟨λ|6=>75|8=>116|9=>117|11=>169|13=>171|12=>170|23=>216|24=>217|14=>207|15=>208|16=>209|17=>210|18=>211|19=>212|20=>213|21=>214|22=>215|25=>236|26=>237|27=>238|28=>239|29=>240|30=>241|31=>262|a=>a,λ|26=>9|28=>163|24=>66|0=>0|3=>3|37=>153|48=>150|50=>140|4=>4|40=>312|39=>311|45=>270|5=>5|9=>9|51=>330|55=>333|57=>356|58=>263|33=>71|a=>a,λ|a=>a⟩
theorem Tryz.iw:Go.Proofs.SlLaysZ.n6 Tryz.prog Tryz.dF:=by repeat' first|exact Lf.Dh (by kernel_rfl)|kernel_rfl|exact bears (by kernel_rfl) (by kernel_rfl)|decide|constructor
def Tryz.fT:Go.Shelf.Ren:=⟨λ|6=>117|8=>171|9=>170|19=>216|20=>217|21=>207|22=>208|23=>209|24=>210|25=>211|26=>212|27=>213|28=>214|29=>215|36=>236|31=>237|32=>238|37=>239|38=>240|39=>241|41=>262|a=>a,λ|27=>66|29=>9|3=>3|32=>153|26=>66|0=>0|44=>150|46=>140|4=>4|36=>312|35=>311|41=>270|5=>5|9=>9|53=>330|57=>333|63=>356|64=>263|a=>a,λ|a=>a⟩
theorem Tryz.iR:Go.Proofs.SlLaysM.n6 Tryz.prog Tryz.fT:=by repeat' first|exact Lf.Dh (by kernel_rfl)|kernel_rfl|exact bears (by kernel_rfl) (by kernel_rfl)|decide|constructor
def Tryz.fU:Go.Shelf.Ren:=⟨λ|5=>219|8=>171|7=>244|19=>216|20=>217|10=>265|11=>266|12=>267|13=>268|14=>269|15=>270|16=>271|17=>272|18=>273|30=>290|31=>237|32=>238|33=>291|34=>292|35=>293|40=>300|a=>a,λ|23=>86|25=>3|3=>3|32=>153|22=>86|0=>0|44=>150|46=>140|4=>4|36=>312|35=>311|41=>270|5=>5|9=>9|53=>330|57=>333|63=>356|64=>263|a=>a,λ|a=>a⟩
theorem Tryz.iS:Go.Proofs.SlLaysM.n5 Tryz.prog Tryz.fU:=by repeat' first|exact Lf.Dh (by kernel_rfl)|kernel_rfl|exact bears (by kernel_rfl) (by kernel_rfl)|decide|constructor
end Go.Proofs
namespace Go.Lf.G
open Go
abbrev nP:Q8:=FW
theorem AQe {d:aq}{a:aa}{b:Option Nat}{e:A2K}(g: ∀T c,c[a.size]? =some (J2 #[.map b] T (0,0))->Ext a c->c.size=a.size+1->e (.func (.func nP) #[] #[Am a.size]) c):
  AA d P Bz #[.map b] a e:=by
 intro f;have h:=Proofs.AnyZ.keys_in Proofs.Tryz.iQ Fence.wide 5 trivial rfl b (d.at a f);have i:=callsIn_wide.1 h;refine Calls.mono i ?_;rintro j k ⟨rfl,rfl⟩;refine⟨_,rfl,a.push (J2 #[.map b] (Proofs.Tryz.cE.t 23)),f,rfl,?_⟩;exact g (Proofs.Tryz.cE.t 23) (a.push (J2 #[.map b] (Proofs.Tryz.cE.t 23))) (by simp) (Mod.push a _) (by simp)
theorem ASx(m:Nat):Proofs.AnyZ.SortsIn P Proofs.Tryz.dF Fence.wide m:=
 ⟨λah off a c b d e f=>callsIn_wide.2 (Proofs.AnyM.slices_Sort_string Proofs.Tryz.iR ah off a c b d e f),
 λp a b=>callsIn_wide.2 (Proofs.AnyM.slices_Sort_string_none Proofs.Tryz.iR p a b)⟩
theorem AMa {A:aq}{h:aa}{c i:Nat}{T:Q7}{m:List (A2L×J0)}{l:List A2L}{o:A2K}(p:h[c]? =some (J2 #[.map (some i)] T (0,0)))(M:Ve h i m)
  (B:nR l) (C:(m.map (·.1)).Perm l) (d:m.length<=8796093022208)
  (q: ∀s j,Own IY BF j s l->Ext h j->(∀ b,s.ah=some b->h.size<=b)->o (J4 s.p s.len s.cap) j):
  AA A P F8 #[.func (.func nP) #[] #[Am c]] h o:=by
 intro n;obtain⟨k,D,E,r⟩:=AKk (P:=P) (kt:=BF) PW (w:=A.at h n) M;have F:SeqGives Fence.wide 2 P nP #[Am c] Proofs.encStr (λe=>e.Perm (strKeys k)) (Maps.size k) (A.at h n):=
  Proofs.AnyZ.keys_gives (ρ:=Proofs.Tryz.cE) {Proofs.Tryz.iQ with} Fence.wide _ trivial rfl (by omega) c i _ k _ (show c<h.size from Ai p) (by show ag h ⟨c,0,none⟩=_;rw[Hw p];rfl) D
 have G:=Proofs.AnyZ.sorted_in Proofs.Tryz.iw Fence.wide 5 trivial trivial trivial trivial rfl (by omega) (ASx _) (Proofs.enters_of Proofs.Tryz.func117 (by kernel_rfl) rfl) nP #[Am c] trivial (Proofs.enters_of Proofs.Tryz.func118 (by kernel_rfl) rfl) _ _ (by rw[r];simp[maxLen];omega) (by rw[r];omega) _ F;have H:=callsIn_wide.1 G;refine Calls.mono H ?_;rintro V a ⟨v,e,rfl,I,t,W,f⟩;have u:a=A.at a.heap a.drawn:=vu (A:=A) (h:=h) (n:=n) rfl f.os f.tape f.output;have y:e.Perm (l.map λx=>x.data.toList):=by
  refine(I.trans E).trans ?_;have:=C.map λx:A2L=>x.data.toList
  simpa [AT,FG] using this
 have J:e.length=l.length:=by have:=y.length_eq;simpa using this
 rw[AJn B y,AMv] at t;have z:Ext h a.heap:=⟨f.size,λb d _=>f.block b d⟩;rcases t.2 with⟨rfl,X⟩|⟨g,K,L,rfl,N,O,Q,R,S,U⟩
 ·have:l= []:=Dd (by omega);subst this;exact⟨_,rfl,a.heap,a.drawn,u,q ⟨none,0,0⟩ _ Own.nil z (λb d=>by simp[Sl.ah] at d)⟩
 ·refine⟨_,rfl,a.heap,a.drawn,u,q ⟨some ⟨g,0,none⟩,e.length,K⟩ _ ⟨J,.inr ⟨g,L,rfl,O,Q,R,S,U⟩⟩ z (λb d=>?_)⟩;simp[Sl.ah] at d;subst d;exact N
def jX(m:Bx):List A2L×Int:=if m.down then([],30) else(m.files.map (·.name),0)
theorem FM.names {d:aa}{b e:Nat}{a:List (Fi×Nat)}{m:Bx}(c:FM d b e a m):((fh a).map (·.1)).Perm (m.files.map (·.name))/\(fh a).length<=8796093022208:=by
 refine⟨?_,?_⟩
 ·have:=c.perm.map (·.name);simpa [fh,AT,FG] using this
 ·have f:=c.perm.length_eq;have g:=VP m.files;have h:=c.aS.wt;simp at f ⊢;omega
theorem FM.fx {h:aq}{a:aa}{b i:Nat}{n:List (Fi×Nat)}{m:Bx}(d:FM a b i n m){j:Sl->aa->Prop}
  (o: ∀s f,Own IY BF f s (m.files.map (·.name))->Ext a f->(∀ c,s.ah=some c->a.size<=c)->j s f):
  AA h P Bz #[.map (some i)] a λv1 g=> ∃k:J0,v1=k/\(
   AA h P F8 #[k] g λv2 p=> ∃e:Sl,v2=J4 e.p e.len e.cap/\j e p):=by
 refine AQe λT w q l x=>⟨_,rfl,?_⟩
 refine AMa q (d.map.mod l (λa=>a)) (UF.1 d.aS.sorted) d.names.1 d.names.2 λs g r t u=>⟨s,rfl,?_⟩
 exact o s g r (l.trans t) (λc v=>by have:=u c v;omega)
theorem vQ {i:aq}{a:aa}{b:Nat}{j:Nat->Prop}{m:Bx}{h:A2K}(d:Cw a b j m)
  (e: ∀s g,Own IY BF g s (jX m).1->Ext a g->(∀ c,s.ah=some c->a.size<=c)->h (J1 #[J4 s.p s.len s.cap,J6 J9 (jX m).2]) g):AA i P LK #[Am b] a h:=by
 obtain⟨n,o,d,p⟩:=d;refine ABO ?_;unfold Uu;refine lB d.head ⟨_,rfl,?_⟩;unfold jX at e;refine af.intro (λhd=>?_) (λhd=>?_)
 ·rw[if_pos hd] at e;exact e ⟨none,0,0⟩ a Own.nil Mod.refl (λc k=>by simp[Sl.ah] at k)
 rw[if_neg (by simp[hd])] at e;exact aD (Fa.mk (AO d.head rfl) (d.fx λs g l x f=>e s g l x f))
end Go.Lf.G
