/-
 Plain law: a box of files (chapter 3).
-/
import Derived.Test.YtecomiijolnjpaaGreatDoorLfJToGA
import Derived.Test.YtecomiijolnjpaaGreatDoorLfG1
import Derived.Shelf.Strings.Repeat
import Derived.Shelf.Small.Wraps
import Derived.Shelf.Pu.ParseUintPublic10
import Derived.Shelf.Strconv.Itoa3
import Derived.Shelf.Strconv.AtoiAll
import Derived.Shelf.Strings.BuilderK
import Derived.Test.YtecomiijolnjpaaGreatDoorProg
import Derived.Lib.ItoaNum
import Derived.Lib.Repeat
import Derived.Lib.ParseIntB
import Derived.Test.YtecomiijolnjpaaGreatDoorRows
import Derived.Lib.ItoaLen
import Derived.Lib.AppendIntMem
import Derived.WalkKit
import Derived.ProofKit
import Derived.OpenShut
import Derived.JoinedCond
import Derived.Deep.Slices
import Derived.Carry
import Derived.Shelf.SlGeneric
import Derived.Shelf.SlIter.Nil
import Derived.Shelf.SlIter.Sorted
import Derived.Shelf.SortM.Plain
import Derived.Shelf.SortM.SortNone
set_option maxRecDepth 100000
set_option linter.unusedVariables false
set_option linter.unusedSimpArgs false
open Go.IntKind renaming i64→J9,wrap→J8
open Go.Value renaming string→J7,int→J6,pointer→J5,slice→J4,bool→J3,tuple→J1
open Go.Obj renaming cells→J2
open Go renaming Value→J0,Addr→Q6,TypeId→Q7,FuncId→Q8,Program→Q1
open Go.Addr renaming add→Q9,mk→Q5
namespace Go.Lf
open Go
abbrev bD:A2P:=⟨#[]⟩
theorem nP:ByteArray.size ⟨#[]⟩=0:=rfl
structure Fi where
 name:A2P
 bX:A2P
 soft:A2P
deriving DecidableEq
def Gd(l:List Fi):Prop:=l.Pairwise λa b=>aO a.name b.name=true
def Cb(a:A2P)(l:List Fi):Option Fi:=l.find? λf=>decide (f.name=a)
def Pe(a:A2P)(g:Fi->Fi)(l:List Fi):List Fi:=l.map λf=>if f.name=a then g f else f
def Pd(a:A2P)(l:List Fi):List Fi:=l.filter λf=> !decide (f.name=a)
def gQ(x:Fi):List Fi->List Fi
 | []=> [x]
 |q::l=>if aO q.name x.name then q::gQ x l else x::q::l
def bg(l:List Fi):Nat:=(l.map λf=>f.bX.size+f.soft.size+1).sum
theorem GL(a:A2P)(x:Fi)(l:List Fi):Cb a (x::l)=if x.name=a then some x else Cb a l:=by unfold Cb;rw[DO];by_cases b:x.name=a<;>simp[b]
theorem Jy {b:A2P}{l:List Fi}{x:Fi}(a:Cb b l=some x):x.name=b/\x∈l:=by unfold Cb at a;exact⟨by simpa using IN a,IS a⟩
theorem RY {b:A2P}{l:List Fi}(a:Cb b l=none): ∀x∈l,x.name≠b:=by unfold Cb at a;rw[HI] at a;simpa using a
theorem AHs {a:A2P}{l:List Fi}(b: ∀x∈l,x.name≠a):Cb a l=none:=by unfold Cb;rw[HI];simpa using b
theorem Gd.find {l:List Fi}(s:Gd l){x:Fi}(a:x∈l):Cb x.name l=some x:=by
 induction l with
 |nil=>cases a
 |cons d l c=>
  rw[GL];have b:=List.pairwise_cons.1 s;rcases List.mem_cons.1 a with rfl|a
  ·simp
  ·rw[if_neg (OD (b.1 x a))];exact c b.2 a
theorem Nk(x:Fi): ∀l,(gQ x l).Perm (x::l)
 | []=>IT _
 |q::l=>by
  unfold gQ;split
  ·exact((Nk x l).cons q).trans (List.Perm.swap x q l)
  ·exact IT _
theorem Tm {x:Fi}: ∀ {l:List Fi},Gd l->(∀ b∈l,b.name≠x.name)->Gd (gQ x l)
 | [],_,_=>A0f _ _
 |q::l,s,e=>by
  have c:=List.pairwise_cons.1 s;unfold gQ;split
  ·rename_i d;refine List.pairwise_cons.2 ⟨λb a=>?_,Tm c.2 λb a=>e b (An _ a)⟩;rcases List.mem_cons.1 ((Nk x l).subset a) with rfl|a
   ·exact d
   ·exact c.1 b a
  ·rename_i d;have f:aO x.name q.name=true:=by
    cases g:aO x.name q.name
    ·exact absurd (NU (by simpa using d) g) (e q AN)
    ·rfl
   refine List.pairwise_cons.2 ⟨λb a=>?_,s⟩;rcases List.mem_cons.1 a with rfl|a
   ·exact f
   ·exact DJ f (c.1 b a)
theorem AJG {a:A2P}{g:Fi->Fi}(b: ∀f,(g f).name=f.name)(l:List Fi):(Pe a g l).map (·.name)=l.map (·.name):=by
 unfold Pe;rw[AT];refine CM λf _=>?_
 simp only[Function.comp];split<;>simp[b]
theorem TR {l:List Fi}:Gd l↔nL (l.map (·.name)):=by unfold Gd nL;rw[NX]
theorem vA {k:A2P}{g:Fi->Fi}(a: ∀f,(g f).name=f.name){l:List Fi}(s:Gd l):Gd (Pe k g l):=by rw[TR,AJG a];exact TR.1 s
theorem AIM {a:A2P}{l:List Fi}(s:Gd l):Gd (Pd a l):=s.sublist Hi
theorem Zg {a c:A2P}{g:Fi->Fi}(b: ∀f,(g f).name=f.name): ∀l:List Fi,Cb c (Pe a g l)=(Cb c l).map λf=>if f.name=a then g f else f
 | []=>rfl
 |x::l=>by
  show Cb c ((if x.name=a then g x else x)::Pe a g l)=_;rw[GL,GL,Zg b l];have:(if x.name=a then g x else x).name=x.name:=by split<;>simp[b]
  rw[this];by_cases d:x.name=c<;>simp[d]
theorem ZV {k c:A2P}: ∀l:List Fi,Cb c (Pd k l)=if c=k then none else Cb c l
 | []=>by simp[Pd,Cb]
 |x::l=>by
  have b:=ZV (k:=k) (c:=c) l;unfold Pd at b ⊢;rw[B9,GL];by_cases d:x.name=k
  ·simp only[d,decide_true,LR,Cl,if_false];rw[b];by_cases a:c=k
   ·simp[a]
   ·simp[a,Ne.symm a]
  ·simp only[d,decide_false,Pa,if_true];rw[GL,b];by_cases a:c=k
   ·subst a;simp[d]
   ·simp[a]
theorem vB {x:Fi}{c:A2P}: ∀ {l:List Fi},(∀ a∈l,a.name≠x.name)->Cb c (gQ x l)=if x.name=c then some x else Cb c l
 | [],_=>by show Cb c [x]=_;rw[GL]
 |q::l,d=>by
  unfold gQ;split
  ·rw[GL,vB λa e=>d a (An _ e),GL];by_cases b:q.name=c
   ·simp[b];intro f;exact absurd (b.trans f.symm) (d q AN)
   ·simp[b]
  ·rw[GL]
theorem MH(x:Fi)(l:List Fi):bg (x::l)=x.bX.size+x.soft.size+1+bg l:=by simp[bg]
theorem AM8 {l m:List Fi}(a:l.Perm m):bg l=bg m:=(a.map _).sum_nat
theorem vC(x:Fi)(l:List Fi):bg (gQ x l)=x.bX.size+x.soft.size+1+bg l:=by rw[AM8 (Nk x l),MH]
theorem Uc: ∀l:List Fi,l.length<=bg l
 | []=>by simp[bg]
 |x::l=>by rw[MH,A5];have:=Uc l;omega
theorem nQ {x:Fi}: ∀ {l:List Fi},x∈l->x.bX.size+x.soft.size<=bg l
 | [],a=>by cases a
 |y::l,a=>by
  rw[MH];rcases List.mem_cons.1 a with rfl|a
  ·omega
  ·have:=nQ a;omega
theorem qH {k:A2P}: ∀l:List Fi,bg (Pd k l)<=bg l
 | []=>by simp[Pd,bg]
 |x::l=>by
  have:=qH (k:=k) l;unfold Pd at this ⊢;rw[B9];split
  ·rw[MH,MH];omega
  ·rw[MH];omega
theorem YZ {k:A2P}{g:Fi->Fi}{d:Nat}(a: ∀f,(g f).bX.size+(g f).soft.size<=f.bX.size+f.soft.size+d): ∀ {l:List Fi},Gd l->bg (Pe k g l)<=bg l+d
 | [],_=>by simp[Pe,bg]
 |x::l,s=>by
  have b:=List.pairwise_cons.1 s;show bg ((if x.name=k then g x else x)::Pe k g l)<=_;rw[MH,MH];split
  ·rename_i c;have:Pe k g l=l:=by unfold Pe;rw[CM (g:=id) λe h=>?_,Lo];have:=OD (b.1 e h);rw[if_neg (λi=>this (c.trans i.symm))];rfl
   rw[this];have:=a x;omega
  ·have:=YZ a (k:=k) b.2;omega
structure Bx where
 files:List Fi
 fuel:Int
 down:Bool
def kI:Bx:=⟨[],-1,false⟩
def Kn(a:A2P):Bool:=decide (a=bD)||decide (a.size>32)
def IK(m:Bx):Bx:=if m.fuel>0 then {m with fuel:=m.fuel-1} else m
def Mg(m:Bx):Bx:= {m with down:=true}
def TZ(name:A2P)(l:List Fi):List Fi:=if(Cb name l).isSome then l else gQ ⟨name,bD,bD⟩ l
def RP(a:A2P)(f:Fi):Fi:= {f with soft:=f.soft++a}
def Ri(f:Fi):Fi:=⟨f.name,f.bX++f.soft,bD⟩
def EF(m:Bx)(name a:A2P):Int×Bx:=
 if m.down then(30,m) else if Kn name then(1,m) else if m.fuel=0 then(30,Mg m) else(0,{IK m with files:=Pe name (RP a) (TZ name m.files)})
def G6(m:Bx)(name:A2P):Int×Bx:=
 if m.down then(30,m) else if(Cb name m.files).isNone then(31,m) else if m.fuel=0 then(30,Mg m) else(0,{IK m with files:=Pe name Ri m.files})
def Gi(m:Bx)(name:A2P):Int×Bx:=
 if m.down then(30,m) else if(Cb name m.files).isNone then(31,m) else if m.fuel=0 then(30,Mg m) else(0,{IK m with files:=Pd name m.files})
def Te(m:Bx)(name:A2P):A2P×Int:=
 if m.down then(bD,30) else match Cb name m.files with|none=>(bD,31)|some f=>(f.bX++f.soft,0)
structure Gu (m:Bx):Prop where
 sorted:Gd m.files
 names: ∀f∈m.files,f.name.size<=32
 lo: -1<=m.fuel
 hi:m.fuel<=9223372036854775807
 wt:bg m.files<=8796093022208
theorem APK(a b:A2P):(a++b).size=a.size+b.size:=Hn
theorem Xv(a:A2P):a++bD=a:=by simp[MD,bD]
theorem Qw(a:A2P):bD++a=a:=by simp[MD,bD]
theorem AMO:Gu kI:=⟨List.Pairwise.nil,by simp[kI],by simp[kI],by simp[kI],by simp[kI,bg]⟩
theorem Gu.tick {m:Bx}(g:Gu m)(l:List Fi)(a:Gd l)(b: ∀f∈l,f.name.size<=32)(c:bg l<=8796093022208):Gu {IK m with files:=l}:=by
 have:=g.lo;have:=g.hi;refine⟨a,b,?_,?_,c⟩
 ·show -1<=(IK m).fuel;unfold IK;split<;>(try simp only[])<;>omega
 ·show(IK m).fuel<=_;unfold IK;split<;>(try simp only[])<;>omega
theorem Gu.off {m:Bx}(g:Gu m):Gu (Mg m):=⟨g.sorted,g.names,g.lo,g.hi,g.wt⟩
theorem vD {name:A2P}{l:List Fi}(s:Gd l):Gd (TZ name l)/\bg (TZ name l)<=bg l+1/\(∀ f∈TZ name l,f∈l\/f.name=name):=by
 unfold TZ;split
 ·exact⟨s,by omega,λf a=> .inl a⟩
 ·rename_i b;have c:=RY (by simpa using b);refine⟨Tm s c,by rw[vC];simp[nP];omega,λf a=>?_⟩;rcases List.mem_cons.1 ((Nk _ l).subset a) with rfl|a
  ·exact .inr rfl
  ·exact .inl a
theorem vE {c:A2P}{g:Fi->Fi}(d: ∀f,(g f).name=f.name){l:List Fi}{f:Fi}(b:f∈Pe c g l): ∃a∈l,a.name=f.name:=by unfold Pe at b;obtain⟨a,e,rfl⟩:=List.mem_map.1 b;exact⟨a,e,by split<;>simp[d]⟩
theorem Gu.append {m:Bx}(g:Gu m){name data:A2P}(n:bg m.files+data.size+1<=8796093022208):Gu (EF m name data).2:=by
 unfold EF;split
 ·exact g
 ·split
  ·exact g
  ·rename_i e;split
   ·exact g.off
   ·obtain⟨b,o,h⟩:=vD (name:=name) g.sorted;refine g.tick _ (vA (k:=name) (g:=RP data) (λ_=>rfl) b) (λf i=>?_) ?_
    ·obtain⟨c,j,l⟩:=vE (g:=RP data) (λ_=>rfl) i;rw[<- l];rcases h c j with a|a
     ·exact g.names c a
     ·rw[a];simp[Kn] at e;omega
    ·have:=YZ (k:=name) (g:=RP data) (d:=data.size) (λf=>by simp[RP];omega) b;omega
theorem Gu.sync {m:Bx}(g:Gu m){name:A2P}:Gu (G6 m name).2:=by
 unfold G6;split
 ·exact g
 ·split
  ·exact g
  ·split
   ·exact g.off
   ·refine g.tick _ (vA (k:=name) (g:=Ri) (λ_=>rfl) g.sorted) (λf a=>?_) ?_
    ·obtain⟨b,c,e⟩:=vE (g:=Ri) (λ_=>rfl) a;rw[<- e];exact g.names b c
    ·have:=YZ (k:=name) (g:=Ri) (d:=0) (λf=>by simp[Ri,nP]) g.sorted;have:=g.wt;omega
theorem Gu.delete {m:Bx}(g:Gu m){name:A2P}:Gu (Gi m name).2:=by
 unfold Gi;split
 ·exact g
 ·split
  ·exact g
  ·split
   ·exact g.off
   ·exact g.tick _ (AIM g.sorted) (λf a=>g.names f (List.mem_filter.1 a).1) (AF (qH _) g.wt)
theorem Yw {m:Bx}(g:Gu m)(name a:A2P):bg (EF m name a).2.files<=bg m.files+a.size+1:=by
 unfold EF;split
 ·simp;omega
 ·split
  ·simp;omega
  ·split
   ·simp[Mg];omega
   ·obtain⟨b,c,_⟩:=vD (name:=name) g.sorted;have:=YZ (k:=name) (g:=RP a) (d:=a.size) (λf=>by simp[RP];omega) b;simp;omega
theorem nR {m:Bx}(g:Gu m)(name:A2P):bg (G6 m name).2.files<=bg m.files:=by
 unfold G6;split
 ·simp
 ·split
  ·simp
  ·split
   ·simp[Mg]
   ·have:=YZ (k:=name) (g:=Ri) (d:=0) (λf=>by simp[Ri,nP]) g.sorted;simpa using this
theorem Yz {m:Bx}(name:A2P):bg (Gi m name).2.files<=bg m.files:=by
 unfold Gi;split
 ·simp
 ·split
  ·simp
  ·split
   ·simp[Mg]
   ·exact qH _
theorem w9 {d:Type}{a:cz d}{x e:d}{c:Nat}{v:J0}(f:a.enc e=(a.enc x).set c v)(g:c<a.w): ∀ {l:List d} {i:Nat},l[i]? =some x->(l.set i e).flatMap a.enc=(l.flatMap a.enc).set (i*a.w+c) v
 | [],_,b=>by simp at b
 |y::l,0,b=>by
  simp at b;subst b;rw[List.set_cons_zero,AH,AH,f,HQ,AI,List.set_append_left _ _ (by rw[a.len];exact g)]
 |y::l,i+1,b=>by
  rw[List.set_cons_succ,AH,AH,w9 f g (l:=l) (i:=i) (by simpa using b),HL _ _ (by rw[a.len,BW];omega),a.len];rw[show(i+1)*a.w+c-a.w=i*a.w+c by rw[BW];omega]
theorem Own.store {e:Type}{E:cz e}{T:Q7}{d:aa}{s:Sl}{l:List e}{i j:Nat}{x x':e}{v:J0}{K:aa->Prop}(f:Own E T d s l)(h:l[i]? =some x)(q:E.enc x'=(E.enc x).set j v)(r:j<E.w)
  (t: ∀b,Own E T b s (l.set i x')->Mod (λc=>s.af=some c) d b->b.size=d.size->K b): ∀a,s.p=some a->ab d ((a.add (i*E.w)).add j) v K:=by
 intro a n;rcases f.row with⟨rfl,rfl⟩|⟨g,u,k,w,o,y,p,z⟩
 ·simp at h
 ·rw[k] at n;cases n;rw[add_add,Ba,AI];have A:i<l.length:=(List.getElem?_eq_some_iff.1 h).1;have F:i*E.w+j<s.len*E.w:=by have:(i+1)*E.w<=s.len*E.w:=AS _ (by rw[f.len];exact A);rw[BW] at this;omega
  have G:s.len*E.w<=u.size:=by rw[p];exact AS _ o
  refine ab.mk w (by omega) λb B m C=>t b ⟨by rw[RC];exact f.len,.inr ⟨g,_,k,B,o,y,by simpa using p,?_⟩⟩ (m.ai λc _ D=>by simp[Sl.af,k,D]) C
  rw[Fm,List.take_set,z,w9 q r h]
theorem Own.ne {d:Type}{h:cz d}{T e:Q7}{f:aa}{s:Sl}{l:List d}(i:Own h T f s l){b:Nat}{j:Array J0}{fr:Nat×Nat}(a:f[b]? =some (J2 j e fr))(k:T≠e):s.af≠some b:=by
 intro c;rcases i.row with⟨rfl,_⟩|⟨g,p,m,n,_⟩
 ·simp[Sl.af] at c
 ·simp[Sl.af,m] at c;subst c;rw[n] at a;injection a with a;injection a with _ o _;exact k o
end Go.Lf
namespace Go.Lf.G
open Go
theorem QB:P.underlying Az=some .string:=by kernel_rfl
theorem lY:P.underlying EG=some (.int .u8):=by kernel_rfl
theorem lZ:P.underlying DN=some (.slice EG):=by kernel_rfl
theorem wQ:Pi P DN EG H7.w 1=true:=by kernel_rfl
theorem CR {y:al}{d:aa}{n:Nat}{q:A2O}(z:n<18446744073709551616)(A: ∀e,Ext d e->q (.string (AX (BX n))) e):AA y P Av #[.int .u64 (n:Int)] d q:=by
 refine AHf ?_;unfold tO;have r:=AV z;refine Loop.rule (λm x f=> ∃(a:Nat) (s:Sl) (c:List UInt8),x=((a:Int),s,())/\Own H7 EG f s c/\Ext d f/\(∀ b,s.af=some b->d.size<=b)/\BX n=c++BX a/\m=a) ?_
  ⟨n,⟨none,0,0⟩,[],rfl,Own.nil,Mod.refl,λb g=>by simp[Sl.af] at g,rfl,rfl⟩
 rintro K m _ f ⟨a,s,c,rfl,t,x,h,i,F⟩ B;have hd:c.length<=10:=by rw[i] at r;simp at r;omega
 refine ae.intro (λj=>?_) (λj=>?_)
 ·have k: ¬a<128:=by simp at j;omega
  refine ak.aY (E:=H7) (x:=Cq (a % 128+128)) (s:=s) (l:=c) (by dsimp only[H7];rw[APQ]) wQ t (by simp;omega) (by simp[maxLen];omega) λu e o p v C=>?_
  refine B (a / 128) _ _ (by omega) ⟨a / 128,u,c++ [Cq (a % 128+128)],?_,o,x.more p h,λb g=>?_,?_,rfl⟩
  ·dsimp only;rw[QC a 7]
  ·rcases v b g with w|w
   ·exact h b w
   ·have:=x.size;omega
  ·rw[i,XK k];simp
 ·have k:a<128:=by simp at j;omega
  refine ak.aY (E:=H7) (x:=Cq a) (s:=s) (l:=c) (by dsimp only[H7];rw[EA (show a<256 by omega),wrap_u8,As (show a<256 by omega)]) wQ t (by simp;omega) (by simp[maxLen];omega) λu e o p v C=>?_
  refine LU lZ lY QB o.view ⟨_,rfl,?_⟩;have D:c++ [Cq a]=BX n:=by rw[i,Fg k]
  rw[D];exact A _ (x.more p h)
theorem ANL(a:Nat):(if(10:Int)<(a:Int) then(10:Int) else(a:Int))=((min a 10:Nat):Int):=by split<;>omega
theorem wR {D:al}{e:aa}{s:A2P}{n:A2O}(V:s.size<=8796093022208)
  (v:MB 0 0 s.data.toList=none->n (.tuple #[.int .u64 0,.string ⟨#[]⟩,.bool false]) e)
  (E: ∀w t,MB 0 0 s.data.toList=some (w,t)->n (.tuple #[.int .u64 (w:Int),.string (AX t),.bool true]) e):AA D P Q4 #[.string s] e n:=by
 refine AGp ?_;unfold tD;have W:s.data.toList.length=s.size:=by rw[DS];rfl
 refine Loop.rule (λm x o=> ∃(i a:Nat),x=((a:Int),(i:Int),())/\o=e/\i<=s.size/\i<=10/\a<128^i/\MB 0 0 s.data.toList=MB i a (s.data.toList.drop i)/\m=10-i) ?_
  ⟨0,0,rfl,rfl,by omega,by omega,by simp,rfl,rfl⟩
 rintro K m _ o ⟨i,a,rfl,y,X,Y,F,p,Z⟩ G;subst o;dsimp only;rw[ANL];refine ae.intro (λd=>?_) (λd=>?_)
 ·have z:i<s.size/\i<10:=by simp at d;omega
  have q:i<s.data.toList.length:=by omega
  refine⟨⟨by omega,by omega⟩,?_⟩;obtain⟨c,r⟩: ∃c,s.data.toList[i]? =some c:=⟨_,A2 q⟩;have A:s.data.toList.drop i=c::s.data.toList.drop (i+1):=by rw[FF q];rw[A2 q] at r;rw[BT r]
  have B:c.toNat<256:=c.toNat_lt;rw[O7 r];have H:((i=9/\1<c.toNat)\/(0<i/\c.toNat=0))->MB 0 0 s.data.toList=none:=λg=>by
   rw[p,A,MB,if_pos (.inr g)]
  have I: ¬((i=9/\1<c.toNat)\/(0<i/\c.toNat=0))->MB 0 0 s.data.toList=if c.toNat<128 then some (a+c.toNat*128^i,s.data.toList.drop (i+1)) else MB (i+1) (a+c.toNat % 128*128^i) (s.data.toList.drop (i+1)):=λg=>by
   rw[p,A,MB,if_neg (λe=>e.elim (by omega) g)]
  refine ah.mk λJ L=>?_
  have key: ∀(b:Bool),(b=true↔((i=9/\1<c.toNat)\/(0<i/\c.toNat=0)))->J (b,()) e:=λb g=>by
   refine L _ _ ?_;refine ae.intro (λM=>v (H (g.1 M))) (λC=>?_);have N: ¬((i=9/\1<c.toNat)\/(0<i/\c.toNat=0)):=λe=>by rw[g.2 e] at C;cases C
   have j:=I N;have O:J8 J9 ((7:Int)*(i:Int))=((7*i:Nat):Int):=by rw[show(7:Int)*(i:Int)=((7*i:Nat):Int) by simp];exact Gz (by omega)
   have Q:GU .u8 (c.toNat:Int) (127:Int)=((c.toNat % 128:Nat):Int):=by have:=wP (a:=c.toNat) (b:=127) B (by decide);rw[ARY _ B] at this;exact this
   have R:J8 .u64 ((c.toNat % 128:Nat):Int)=((c.toNat % 128:Nat):Int):=by rw[wrap_u64,As (by omega)]
   rw[O,Q,R,ARv (by omega) (CT _ (by decide)),AP1 (by omega) F (CT _ (by decide)),Ab (by omega)];have ab:=Ld (show i<=9 by omega);have S:(128:Nat)^9=9223372036854775808:=by decide
   have T:c.toNat % 128*128^i % 18446744073709551616=c.toNat % 128*128^i:=by
    refine As ?_;by_cases k:i=9
    ·subst k;have:c.toNat<=1:=by omega
     rw[S];omega
    ·have ac:=Ld (show i<=8 by omega);have ad:(128:Nat)^8=72057594037927936:=by decide
     have:c.toNat % 128*128^i<=127*128^i:=AS _ (by omega);omega
   rw[T];refine⟨by omega,?_⟩;refine ae.intro (λd=>?_) (λd=>?_)
   ·have l:c.toNat<128:=by simp at d;omega
    rw[if_pos l] at j;refine⟨⟨by omega,by omega⟩,?_⟩;have:=E _ _ j;rw[As l];have y:s.extract ((i+1:Nat):Int).toNat s.size=AX (s.data.toList.drop (i+1)):=ACM _ _;rw[y];exact this
   ·have l: ¬c.toNat<128:=by simp at d;omega
    rw[if_neg l] at j;refine G (10-(i+1)) _ _ (by omega) ⟨i+1,a+c.toNat % 128*128^i,rfl,rfl,by omega,by omega,?_,j,rfl⟩;have:(c.toNat % 128+1)*128^i<=128*128^i:=AS _ (by omega);rw[BW] at this;rw[Fc,Dd (128^i)];omega
  refine ae.intro (λd=>?_) (λd=>?_)
  ·have k:i=9:=by simp at d;omega
   refine ae.intro (λu=>key _ ⟨λ_=> .inl ⟨k,by simp at u;omega⟩,λ_=>rfl⟩) (λu=>?_);refine ae.intro (λh=>key _ ⟨λf=> .inr ⟨by omega,by simp at f;omega⟩,λf=>by simp at u ⊢;omega⟩) (λh=>?_);simp at h;omega
  ·have k:i≠9:=by simp at d;omega
   refine ae.intro (λh=>key _ ⟨λf=> .inr ⟨by simp at h;omega,by simp at f;omega⟩,λf=>(by simp;omega)⟩) (λh=>key _ ⟨(λf=>(by cases f)),λf=>(by simp at h;omega)⟩)
 ·have z:s.size=i\/i=10:=by simp at d;omega
  refine v ?_;rw[p];rcases z with U|U
  ·rw[HE (by omega)];rfl
  ·cases hd:s.data.toList.drop i with
   |nil=>rfl
   |cons c t=>rw[MB,if_pos (.inl (by omega))]
theorem aE {a:Q6}{K:Q6->Prop}(b:K a):At (some a) K:=b
theorem ab.dm {a:aa}{b d:Nat}{v:J0}{e:Array J0}{T:Q7}{K:aa->Prop}(f:a[b]? =some (J2 e T (0,0)))(g:d<e.size)
  (h: ∀c,c[b]? =some (J2 (e.setIfInBounds d v) T (0,0))->Mod (· =b) a c->c.size=a.size->K c):ab a ((⟨b,0,none⟩:Q6).add d) v K:=by
 rw[Ba,AI];exact ab.mk f g h
theorem max_i64:IntKind.max J9=9223372036854775807:=by simp[IntKind.max,IntKind.bits,IntKind.signed]
theorem wrap_i64 {n:Int}(a: -9223372036854775808<=n)(b:n<=9223372036854775807):J8 J9 n=n:=by simp only[J8,IntKind.bits,IntKind.signed];simp;omega
theorem Bv {a:Nat}(b:a<18446744073709551616):J8 .u64 (a:Int)=(a:Int):=by rw[wrap_u64,As b]
abbrev Ap(b:Nat):J0:=J5 (some ⟨b,0,none⟩)
def Ir(c:aa)(b:Nat)(a:Rd):Prop:=c[b]? =some (J2 #[J7 (AX a.rest),J3 a.bad] VX (0,0))
theorem wS:AX []=⟨#[]⟩:=rfl
theorem wT(l:List UInt8)(a:Nat):(AX l).extract 0 a=AX (l.take a):=by rw[ANF,Ce]
theorem ZP(l:List UInt8)(a:Nat):(AX l).extract a (AX l).size=AX (l.drop a):=by rw[ACM,Ce]
theorem ANy(l:List UInt8)(i a:Nat):(AX l).extract i a=AX ((l.take a).drop i):=by rw[dR,Ce]
theorem Ak(a b:List UInt8):AX a++AX b=AX (a++b):=by apply SP;simp[AX,I3]
theorem Qa {A:al}{h:aa}{l:List UInt8}{R:A2O}(d:l.length<=1099511627776)(b: ∀a,Ext h a->R (J7 (AX (BP l))) a):AA A P Bz #[J7 (AX l)] h R:=by
 refine AGD ?_;unfold tN;rw[AP,Bv (by omega)];have:=AV (n:=l.length) (by omega);refine CR (by omega) λe c=>⟨_,rfl,⟨by rw[AP,max_i64];omega,?_⟩⟩
 rw[Ak];exact b _ c
theorem KY {d:al}{a:aa}{l:List UInt8}{c:A2O}(e: ∀b,Ir b a.size ⟨l,false⟩->Ext a b->c (Ap a.size) b):AA d P Es #[J7 (AX l)] a c:=by refine AGY ?_;unfold tV;exact ak.mk λf _ g x _=>e f g x
theorem wU {j:al}{d:aa}{b:Nat}{a:Rd}{h:A2O}(e:Ir d b a)(k:a.rest.length<=1099511627776)
  (i: ∀f,Ir f b (G5 a).2->Mod (· =b) d f->h (.int .u64 ((G5 a).1:Int)) f):AA j P Im #[Ap b] d h:=by
 refine Vw ?_;unfold Oy;refine ah.mk λK l=>ae.no rfl (aE (Aa.mk (AB e rfl) (l _ _ ?_)))
 refine ae.intro (λc=>?_) (λc=>?_)
 ·have:=i d;rw[ANG c] at this;exact this e Mod.refl
 ·refine aE (AJ.mk (AL e rfl) ?_);have c:a.bad=false:=c;refine wR (by rw[AP];exact AF k (by decide)) (λg=>⟨_,_,_,rfl,?_⟩) (λr t g=>⟨_,_,_,rfl,?_⟩)
  all_goals
   rw[Ce] at g;refine aE (ab.mk e (by simp) λs m n u=>aE (ab.dm m (by simp) λo p q v=>?_));have:=i o;simp only[G5,c,g] at this;exact this p (n.trans q)
theorem AMs {m:Nat}(a:m<=9223372036854775807):J8 .u64 (m:Int)=(m:Int):=Bv (by omega)
theorem DW {l:al}{e:aa}{b:Nat}{c:Rd}{most:Nat}{j:A2O}(m:Ir e b c)(n:c.rest.length<=1099511627776)(o:most<=9223372036854775807)
  (f: ∀g,Ir g b (Bu most c).2->Mod (· =b) e g->j (J6 J9 ((Bu most c).1:Int)) g):AA l P Ad #[Ap b,J6 J9 (most:Int)] e j:=by
 refine WQ ?_;unfold Oo;refine wU m n λk d h=>⟨_,rfl,?_⟩
 refine ah.mk λK p=>ae.no rfl (aE (Aa.mk (AB d rfl) (p _ _ ?_)))
 refine ae.intro (λa=>?_) (λa=>?_)
 ·have:=f k;have a:(G5 c).2.bad=true:=a;simp only[Bu,a,if_true] at this;exact this d h
 ·have a:(G5 c).2.bad=false:=a;refine ah.mk λw q=>ae.no (by simp) (q _ _ ?_)
  rw[AMs o];refine ae.intro (λi=>?_) (λi=>?_)
  ·refine aE (ab.mk d (by simp) λx r s y=>aE (ab.dm r (by simp) λt u v z=>?_));have:=f t;simp only[Bu,a] at this;rw[if_neg (by simp),if_pos (by simp at i;omega)] at this;exact this u ((h.trans s).trans v)
  ·have:=f k;simp at i;simp only[Bu,a] at this;rw[if_neg (by simp),if_neg (by omega)] at this;rw[Gz (by omega)];exact this d h
theorem qT {n:al}{f:aa}{b g:Nat}{d:Rd}{l:A2O}(c:Ir f b d)
  (h: ∀i,Ir i b (KF g d).2->Mod (· =b) f i->l (J7 (AX (KF g d).1)) i):AA n P Ff #[Ap b,J6 J9 (g:Int)] f l:=by
 refine Uu ?_;unfold OV;refine ah.mk λK o=>ae.no rfl (aE (Aa.mk (AB c rfl) (o _ _ ?_)))
 refine ae.intro (λa=>?_) (λa=>?_)
 ·have:=h f;have a:d.bad=true:=a;simp only[KF,a,if_true] at this;exact this c Mod.refl
 ·have a:d.bad=false:=a;refine ah.mk λu p=>ae.no (by simp) (aE (AJ.mk (AL c rfl) (p _ _ ?_)))
  rw[AP];refine ae.intro (λj=>?_) (λj=>?_)
  ·refine aE (ab.mk c (by simp) λm e k q=>aE (ab.dm e (by simp) λr s t v=>?_));have:=h r;simp only[KF,a] at this;rw[if_neg (by simp),if_pos (by simp at j;omega)] at this;exact this s (k.trans t)
  ·simp at j;refine aE (AJ.mk (AL c rfl) ⟨⟨by omega,by rw[AP];omega⟩,aE (AJ.mk (AL c rfl) ⟨⟨by omega,by rw[AP];omega⟩,aE (ab.mk c (by simp) λm e k q=>?_)⟩)⟩);have:=h m;simp only[KF,a] at this;rw[if_neg (by simp),if_neg (by omega)] at this;simp only[A6,wT,ZP] at e ⊢;rw[a] at e;exact this e k
theorem IP {k:al}{d:aa}{b:Nat}{a:Rd}{g:A2O}(l:Ir d b a)(v:a.rest.length<1099511627776)
  (h: ∀e,Ir e b (FW a).2->Mod (· =b) d e->g (J7 (AX (FW a).1)) e):AA k P Bj #[Ap b] d g:=by
 refine Us ?_;unfold OX;refine wU l (by omega) λm f i=>⟨_,rfl,?_⟩
 have w:=TE a;refine ah.mk λK n=>ae.no rfl (aE (Aa.mk (AB f rfl) (n _ _ ?_)))
 refine ae.intro (λc=>?_) (λc=>?_)
 ·have:=h m;have c:(G5 a).2.bad=true:=c;simp only[FW,c,if_true] at this;exact this f i
 ·have c:(G5 a).2.bad=false:=c;have o:J8 J9 (if(1099511627776:Int)<((G5 a).1:Int) then 1099511627776 else((G5 a).1:Int))=((min (G5 a).1 1099511627776:Nat):Int):=by rw[wrap_i64 (by split<;>omega) (by split<;>omega)];split<;>omega
  rw[o];refine qT f λp j q=>⟨_,rfl,?_⟩
  have:=h p;simp only[FW,c] at this;rw[if_neg (by simp)] at this;have r:KF (min (G5 a).1 1099511627776) (G5 a).2=KF (G5 a).1 (G5 a).2:=by
   by_cases s:(G5 a).1<=1099511627776
   ·rw[GO s]
   ·have t:(G5 a).2.rest.length<min (G5 a).1 1099511627776:=by omega
    have u:(G5 a).2.rest.length<(G5 a).1:=by omega
    simp only[KF,c,Cl,if_false,if_pos t,if_pos u]
  rw[r] at j ⊢;exact this j (i.trans q)
theorem NM {h:al}{d:aa}{b:Nat}{r:Rd}{f:A2O}(g:Ir d b r)(a:f (J3 (X8 r)) d):AA h P CO #[Ap b] d f:=by
 refine Vz ?_;unfold PH;refine ae.yes rfl (aE (Aa.mk (AB g rfl) ?_));unfold X8 at a;refine ae.intro (λe=>?_) (λe=>?_)
 ·refine aE (AJ.mk (AL g rfl) ?_);rw[e] at a;have i:bL (AX r.rest) (⟨#[]⟩:A2P)=r.rest.isEmpty:=by
   rw[CY,<-wS];cases j:r.rest with
   |nil=>simp
   |cons c t=>simp[N7]
  rw[i];simpa using a
 ·rw[e] at a;exact a
theorem AOk {c:Nat}(g:c<4294967296):Yo .u32 ((c:Int).fdiv ((2:Int)^(1:Nat))) (GU .u32 (3988292384:Int) (J8 .u32 (0-(GU .u32 (c:Int) (1:Int)))))=((lX c:Nat):Int):=by
 have h:GU .u32 (c:Int) (1:Int)=((c % 2:Nat):Int):=by have:=AQJ (a:=c) (b:=1) g (by decide);rw[Nat.and_one_is_mod] at this;exact this
 rw[QC c 1,h];unfold lX;have hd:c / 2^1<4294967296:=by omega
 by_cases d:c % 2=1
 ·rw[if_pos d,d];have e:J8 .u32 (0-((1:Nat):Int))=((4294967295:Nat):Int):=by decide
  have f:GU .u32 (3988292384:Int) ((4294967295:Nat):Int)=((3988292384:Nat):Int):=by decide
  rw[e,f,UU hd (by decide)]
 ·rw[if_neg d,show c % 2=0 by omega];have e:J8 .u32 (0-((0:Nat):Int))=((0:Nat):Int):=by decide
  have f:GU .u32 (3988292384:Int) ((0:Nat):Int)=((0:Nat):Int):=by decide
  rw[e,f,UU hd (by decide)];simp
theorem AQa {c:Nat}(d:c<4294967296):Yo .u32 (if IntKind.signed .u32 then -1 else IntKind.max .u32) (c:Int)=((4294967295-c:Nat):Int):=by
 have e:(if IntKind.signed .u32 then -1 else IntKind.max .u32)=((4294967295:Nat):Int):=by decide
 rw[e,UU (by decide) d];congr 1;have f:4294967295-c=2^32-(c+1):=by omega
 have g:(4294967295:Nat)=2^32-1:=by decide
 have a:c<2^32:=by omega
 rw[f,g];apply Nat.eq_of_testBit_eq;intro i;rw[Nat.testBit_xor,Nat.testBit_two_pow_sub_one,Nat.testBit_two_pow_sub_succ a];by_cases b:i<32
 ·simp[b]
 ·have:c.testBit i=false:=Nat.testBit_lt_two_pow (GF a (RM (by decide) (by omega)));simp[b,this]
theorem wV {q:al}{d:aa}{l:List UInt8}{k:A2O}(v:l.length<=1099511627776)(r:k (.int .u32 (j5 l:Int)) d):AA q P PD #[J7 (AX l)] d k:=by
 refine AGE ?_;unfold tF;rw[AP];refine Loop.rule (λm x b=> ∃i:Nat,x=((iE (l.take i):Int),(i:Int),())/\b=d/\m=l.length-i/\i<=l.length) ?_ ⟨0,rfl,rfl,rfl,by omega⟩;rintro K m _ b ⟨i,rfl,e,rfl,w⟩ s;subst b;refine ae.intro (λf=>?_) (λf=>?_)
 ·have g:i<l.length:=by simpa using f
  obtain⟨c,o⟩: ∃c,l[i]? =some c:=⟨_,A2 g⟩;have y:c.toNat<256:=c.toNat_lt;refine⟨⟨by dsimp only;omega,by dsimp only;omega⟩,?_⟩;have p:=wH (l.take i);dsimp only;rw[O7 (c:=c) (by rw[Ce];exact o),wrap_u32,As (show c.toNat<4294967296 by omega),UU p (by omega)];have t:iE (l.take i) ^^^ c.toNat<4294967296:=Lz (n:=32) p (by omega);refine Loop.rule (λm x b=> ∃a:Nat,x=((nZ a (iE (l.take i) ^^^ c.toNat):Int),(a:Int),())/\b=d/\m=8-a/\a<=8) ?_ ⟨0,rfl,rfl,rfl,by omega⟩;rintro z A _ b ⟨a,rfl,e,rfl,B⟩ u;subst b;refine ae.intro (λh=>?_) (λh=>?_)
  ·have j:a<8:=by simp at h;omega
   dsimp only;rw[AOk (qR t a),Ab (by omega)];exact u (8-(a+1)) _ _ (by omega) ⟨a+1,rfl,rfl,rfl,j⟩
  ·have j:a=8:=by simp at h;omega
   subst j;dsimp only;rw[Ab (by omega)];refine s (l.length-(i+1)) _ _ (by omega) ⟨i+1,?_,rfl,rfl,g⟩;rw[Ax,o,DM,AMj];rfl
 ·have g:i=l.length:=by simp at f;omega
  have e:l.take i=l:=AG (by omega);dsimp only;rw[e,AQa (wH l)];exact r
theorem Zq(a b:Nat):J8 .u8 ((a:Int).fdiv ((2:Int)^b))=(((Cq (a / 2^b % 256)).toNat:Nat):Int):=by rw[QC,wrap_u8,EA (CT _ (by decide))]
theorem wW {f:al}{b:aa}{a:Nat}{c:A2O}(g: ∀d,Ext b d->c (J7 (AX (QX a))) d):AA f P NT #[.int .u32 (a:Int)] b c:=by
 refine AD6 ?_;unfold YY;refine ak.mk λh _ e x _=>?_
 have i:J8 .u8 (a:Int)=(((Cq (a % 256)).toNat:Nat):Int):=by rw[wrap_u8,EA (CT _ (by decide))]
 rw[Zq,Zq,Zq,i] at e;have j:Own H7 EG h ⟨some ⟨b.size,0,none⟩,4,4⟩ (QX a):=Own.lit (E:=H7) (l:=QX a) e rfl (by simp[maxLen,QX]);exact LU (s:=⟨some ⟨b.size,0,none⟩,4,4⟩) lZ lY QB j.view ⟨_,rfl,g _ x⟩
theorem qU {e:al}{a:aa}{l:List UInt8}{b:A2O}(f:l.length<=1099511627776)(g:1048576<l.length->b (J1 #[J7 ⟨#[]⟩,J6 J9 2]) a)
  (h:l.length<=1048576-> ∀d,Ext a d->b (J1 #[J7 (AX (Cj l)),J6 J9 0]) d):AA e P Hg #[J7 (AX l)] a b:=by
 refine AD0 ?_;unfold YA;rw[AP];refine ae.intro (λc=>g (by simp at c;omega)) (λc=>?_);have i:l.length<=1048576:=by simp at c;omega
 have:=AV (n:=l.length) (by omega);rw[Bv (by omega)];refine CR (by omega) λm j=>⟨_,rfl,?_⟩
 refine wV f ⟨_,rfl,?_⟩;refine wW λo k=>⟨_,rfl,⟨?_,?_,?_⟩⟩
 ·rw[AP,AP,max_i64,KM];omega
 ·rw[Ak,AP,max_i64,A1,KM];omega
 ·rw[Ak,Ak];exact h i _ (j.trans k)
theorem wX {G:al}{g:aa}{l:List UInt8}{C:A2O}(p:l.length<=8796093022208)
  (h: ∀D,Ext g D->C (J1 #[J7 (AX (Gp l).2.1),J7 (AX (Gp l).2.2),J6 J9 ((Gp l).1:Int)]) D):AA G P RU #[J7 (AX l)] g C:=by
 refine ADw ?_;unfold Xt;rw[AP];have d:=h g Mod.refl;refine wR (by rw[AP];exact p) (λj=>⟨_,_,_,rfl,?_⟩) (λb t j=>⟨_,_,_,rfl,?_⟩)<;>rw[Ce] at j
 ·have q:Gp l=if l.length<10/\ ∀c∈l,128<=c.toNat then(20,[],[]) else(21,[],[]):=by unfold Gp;rw[j]
  rw[q] at d;refine ah.mk λK r=>ae.yes rfl (r _ _ ?_)
  refine ae.intro (λa=>?_) (λa=>?_)
  ·have s:l.length<10:=by simp at a;omega
   refine Loop.rule (λm x e=> ∃i:Nat,x=((i:Int),())/\e=g/\m=l.length-i/\i<=l.length/\ ∀c∈l.take i,128<=c.toNat) ?_ ⟨0,rfl,rfl,rfl,by omega,by simp⟩;rintro S m _ e ⟨i,rfl,T,rfl,U,u⟩ H;subst e;refine ae.intro (λv=>?_) (λv=>?_)
   ·have w:i<l.length:=by simpa using v
    obtain⟨c,y⟩: ∃c,l[i]? =some c:=⟨_,A2 w⟩;refine⟨⟨by dsimp only;omega,by dsimp only;omega⟩,?_⟩;dsimp only;rw[O7 (c:=c) (by rw[Ce];exact y)];refine ae.intro (λz=>?_) (λz=>?_)
    ·rw[if_neg] at d
     ·exact d
     ·rintro⟨_,k⟩;have:=k c (AK y);simp at z;omega
    ·rw[Ab (by omega)];refine H (l.length-(i+1)) _ _ (by omega) ⟨i+1,rfl,rfl,rfl,w,λx f=>?_⟩;rw[Ax,y,DM] at f;rcases List.mem_append.1 f with f|f
     ·exact u x f
     ·simp at f;subst f;simp at z;omega
   ·have w:i=l.length:=by simp at v;omega
    rw[AG (by omega)] at u;rw[if_pos ⟨s,u⟩] at d;exact d
  ·have s: ¬l.length<10:=by simp at a;omega
   rw[if_neg (λe=>s e.1)] at d;refine ah.mk λI A=>ae.yes rfl (A _ _ (ae.yes rfl d))
 ·obtain⟨J,V⟩:=lW j;have W:t.length<=8796093022208:=by rw[J] at p;simp at p;omega
  have q:Gp l=if 1048576<b then(21,[],[]) else if t.length<4+b then(20,[],[])
    else if t.take 4=QX (j5 ((t.drop 4).take b)) then(0,(t.drop 4).take b,t.drop (4+b)) else(21,[],[]):=by unfold Gp;rw[j]
  rw[q] at d h;refine ah.mk λK r=>ae.no rfl (r _ _ (ae.no rfl ?_))
  refine ah.mk λI A=>ae.no rfl (A _ _ ?_)
  refine ae.intro (λa=>?_) (λa=>?_)
  ·have B:1048576<b:=by simp at a;omega
   rw[if_pos B] at d;exact d
  have B: ¬1048576<b:=by simp at a;omega
  rw[if_neg B] at d h;rw[AP];refine ah.mk λL M=>?_
  have key: ∀n:Bool,(n=true↔t.length<4+b)->L (n,()) g:=λn E=>by
   refine M _ _ ?_;refine ae.intro (λa=>?_) (λa=>?_)
   ·rw[if_pos (E.1 a)] at d;exact d
   have k: ¬t.length<4+b:=λe=>by have a:n=false:=a;rw[E.2 e] at a;cases a
   rw[if_neg k] at d h;have N:J8 .u64 ((4:Int)+(b:Int))=((4+b:Nat):Int):=by rw[show(4:Int)+(b:Int)=((4+b:Nat):Int) by simp];exact Bv (by omega)
   rw[N];refine⟨⟨by omega,by omega⟩,⟨by omega,by omega⟩,⟨by omega,by omega⟩,?_⟩;have O:(AX t).extract (4:Int).toNat ((4+b:Nat):Int).toNat=AX ((t.drop 4).take b):=by rw[show(4:Int).toNat=4 from rfl,A6,ANy,List.drop_take];congr 2;omega
   have em:(AX t).extract 0 (4:Int).toNat=AX (t.take 4):=wT _ _;have F:(AX t).extract ((4+b:Nat):Int).toNat (AX t).size=AX (t.drop (4+b)):=by rw[A6,ZP]
   rw[AP] at F;rw[O,em,F];refine wV (by simp;omega) ⟨_,rfl,?_⟩;refine wW λk Q=>⟨_,rfl,?_⟩
   have o:=h k Q;rw[CY];refine ae.intro (λa=>?_) (λa=>?_)
   ·rw[if_neg (by simp[N7] at a;exact a)] at o;exact o
   ·rw[if_pos (by simp[N7] at a;exact a)] at o;exact⟨⟨by omega,by omega⟩,o⟩
  refine ae.intro (λa=>key _ ⟨λ_=>by simp at a;omega,λ_=>rfl⟩) (λa=>key _ ?_);have X:4<=t.length:=by simp at a;omega
  have R:J8 .u64 (J8 J9 ((t.length:Int)-(4:Int)))=((t.length-4:Nat):Int):=by rw[show(t.length:Int)-(4:Int)=((t.length-4:Nat):Int) by omega,Gz (by omega),Bv (by omega)]
  rw[R];simp;omega
theorem FM.mk {b:aa}{a:Q6}{K:Option Nat->Prop}{n:Option Nat}(c:ag b a=some (.map n))(d:K n):FM b a K:=⟨n,c,d⟩
theorem jz:P.underlying CE=some (.map Az uB):=by kernel_rfl
theorem lj:(zeroValue uB).calc P=some (J5 none):=by kernel_rfl
abbrev eX(a:List (Fi×Nat)):List (A2P×J0):=a.map λp=>(p.1.name,Ap p.2)
structure Ez (h:aa) (b r:Nat) (kv:List (Fi×Nat)) (m:Bx):Prop where
 head:h[b]? =some (J2 #[.map (some r),J6 J9 m.fuel,J3 m.down] Yv (0,0))
 map:Uo h r (eX kv)
 cells: ∀p∈kv,h[p.2]? =some (J2 #[J7 p.1.bX,J7 p.1.soft] WV (0,0))
 perm:(kv.map (·.1)).Perm m.files
 nodup:(kv.map (·.2)).Nodup
 aC:Gu m
def KJ(b a:Nat)(d:List (Fi×Nat))(c:Nat):Prop:=c=b\/c=a\/ ∃p∈d,p.2=c
def Cm(e:aa)(b:Nat)(f:Nat->Prop)(m:Bx):Prop:= ∃a d,Ez e b a d m/\ ∀c,f c↔KJ b a d c
theorem Ez.gr {e:aa}{b a:Nat}{f:List (Fi×Nat)}{m:Bx}(c:Ez e b a f m):a≠b:=by rintro rfl;obtain⟨g,h,d,_⟩:=c.map;rw[c.head] at d;cases d
theorem Ez.eM {g:aa}{b e:Nat}{f:List (Fi×Nat)}{m:Bx}(c:Ez g b e f m){p:Fi×Nat}(h:p∈f):p.2≠b/\p.2≠e:=by
 have a:=c.cells p h;constructor
 ·intro d;rw[d,c.head] at a;cases a
 ·intro d;obtain⟨j,k,i,_⟩:=c.map;rw[d,i] at a;cases a
theorem Ez.lt {d:aa}{b e:Nat}{f:List (Fi×Nat)}{m:Bx}(a:Ez d b e f m){c:Nat}(g:KJ b e f c):c<d.size:=by
 rcases g with rfl|rfl|⟨p,h,rfl⟩
 ·exact Af a.head
 ·exact a.map.lt
 ·exact Af (a.cells p h)
theorem Cm.lt {d:aa}{b:Nat}{e:Nat->Prop}{m:Bx}(a:Cm d b e m){c:Nat}(f:e c):c<d.size:=by obtain⟨h,i,a,g⟩:=a;exact a.lt ((g c).1 f)
theorem Cm.aC {c:aa}{b:Nat}{d:Nat->Prop}{m:Bx}(a:Cm c b d m):Gu m:=by obtain⟨e,f,a,g⟩:=a;exact a.aC
theorem Ez.mod {g h:aa}{b d:Nat}{e:List (Fi×Nat)}{m:Bx}{T:Nat->Prop}(a:Ez g b d e m)(x:Mod T g h)(f: ∀c,KJ b d e c-> ¬T c):Ez h b d e m:=
 ⟨x.af a.head (f _ (.inl rfl)),a.map.mod x (f _ (.inr (.inl rfl))),λp i=>x.af (a.cells p i) (f _ (.inr (.inr ⟨p,i,rfl⟩))),a.perm,a.nodup,a.aC⟩
theorem Cm.mod {e f:aa}{b:Nat}{a T:Nat->Prop}{m:Bx}(d:Cm e b a m)(x:Mod T e f)(h: ∀c,a c-> ¬T c):Cm f b a m:=by obtain⟨i,j,d,g⟩:=d;exact⟨i,j,d.mod x λc k=>h c ((g c).2 k),g⟩
theorem Cm.ext {a c:aa}{b:Nat}{d:Nat->Prop}{m:Bx}(e:Cm a b d m)(x:Ext a c):Cm c b d m:=e.mod x λ_ _ a=>a
theorem Ez.hd {f d:aa}{b e:Nat}{h:List (Fi×Nat)}{m c:Bx}(a:Ez f b e h m)(j:d[b]? =some (J2 #[.map (some e),J6 J9 c.fuel,J3 c.down] Yv (0,0)))(x:Mod (· =b) f d)(k:c.files=m.files)(g:Gu c):Ez d b e h c:=
 ⟨j,a.map.mod x a.gr,λp i=>x.af (a.cells p i) (a.eM i).1,by rw[k];exact a.perm,a.nodup,g⟩
theorem si(a:A2P): ∀b:List (Fi×Nat),TY a (eX b)=(b.find? λp=>decide (p.1.name=a)).map λp=>Ap p.2
 | []=>rfl
 |p::b=>by
  show TY a ((p.1.name,Ap p.2)::eX b)=_;rw[Nw,si a b,DO];by_cases c:p.1.name=a<;>simp[c]
theorem Ez.mem {a:aa}{b e:Nat}{d:List (Fi×Nat)}{m:Bx}(g:Ez a b e d m){f:Fi}:f∈m.files↔ ∃c,(f,c)∈d:=by
 rw[<- g.perm.mem_iff];constructor
 ·intro a;obtain⟨p,h,rfl⟩:=List.mem_map.1 a;exact⟨p.2,h⟩
 ·rintro⟨c,i⟩;exact List.mem_map.2 ⟨_,i,rfl⟩
theorem Ez.look {j:aa}{b k:Nat}{d:List (Fi×Nat)}{m:Bx}(g:Ez j b k d m)(a:A2P):
  (TY a (eX d)=none/\Cb a m.files=none)\/ ∃p∈d,TY a (eX d)=some (Ap p.2)/\Cb a m.files=some p.1/\p.1.name=a:=by
 rw[si];cases e:d.find? λp=>decide (p.1.name=a) with
 |none=>
  refine .inl ⟨rfl,AHs λf l=>?_⟩;obtain⟨c,n⟩:=g.mem.1 l;rw[HI] at e;simpa using e _ n
 |some p=>
  have h:p.1.name=a:=by simpa using IN e
  have i:=IS e;refine .inr ⟨p,i,rfl,?_,h⟩;rw[<- h];exact g.aC.sorted.find (g.mem.2 ⟨p.2,i⟩)
theorem zK {a:List (Fi×Nat)}{l:List Fi}(p:(a.map (·.1)).Perm l)(s:Gd l):(a.map λb=>b.1.name).Nodup:=by
 have c:(l.map (·.name)).Nodup:=by refine List.pairwise_map.2 (s.imp λd=>OD d)
 have e:(a.map λb=>b.1.name).Perm (l.map (·.name)):=by have:=p.map (·.name);simpa [AT,G4] using this
 exact(e.nodup_iff).2 c
theorem Ez.inj {f:aa}{b g:Nat}{c:List (Fi×Nat)}{m:Bx}(d:Ez f b g c m){p a:Fi×Nat}(h:p∈c)(j:a∈c)(k:p.1.name=a.1.name):p=a:=by
 have l:=zK d.perm d.aC.sorted;obtain⟨i,n,rfl⟩:=DB h;obtain⟨e,o,rfl⟩:=DB j;have:i=e:=by
  have q:i<(c.map λa=>a.1.name).length:=by simpa using n
  have r:e<(c.map λa=>a.1.name).length:=by simpa using o
  refine(Mb (h₀:=q) (h₁:=r) l).1 ?_;simpa using k
 subst this;rfl
theorem Ez.set {k h':aa}{b l:Nat}{d:List (Fi×Nat)}{m:Bx}(c:Ez k b l d m){p:Fi×Nat}(h:p∈d){g:Fi->Fi}(q: ∀f,(g f).name=f.name)
  (r:h'[p.2]? =some (J2 #[J7 (g p.1).bX,J7 (g p.1).soft] WV (0,0))) (x:Mod (· =p.2) k h') (s:Gu {m with files:=Pe p.1.name g m.files}):
  Ez h' b l (d.map λa=>(if a.1.name=p.1.name then g a.1 else a.1,a.2)) {m with files:=Pe p.1.name g m.files}:=by
 refine⟨x.af c.head (c.eM h).1.symm,?_,?_,?_,?_,s⟩
 ·have e:eX (d.map λa=>(if a.1.name=p.1.name then g a.1 else a.1,a.2))=eX d:=by
   simp only[eX,AT];refine CM λa _=>?_
   simp only[Function.comp];split<;>simp[q]
  rw[e];exact c.map.mod x (c.eM h).2.symm
 ·intro a t;obtain⟨n,j,rfl⟩:=List.mem_map.1 t;simp only;by_cases e:n.1.name=p.1.name
  ·rw[if_pos e];have:=c.inj j h e;subst this;exact r
  ·rw[if_neg e];refine x.af (c.cells n j) λu=>e ?_
   have v:=c.nodup;obtain⟨i,w,rfl⟩:=DB h;obtain⟨o,y,rfl⟩:=DB j;have:o=i:=by
    have z:i<(d.map (·.2)).length:=by simpa using w
    have A:o<(d.map (·.2)).length:=by simpa using y
    refine(Mb (h₀:=A) (h₁:=z) v).1 ?_;simpa using u
   subst this;rfl
 ·have B:=c.perm.map λf=>if f.name=p.1.name then g f else f
  simpa [Pe,AT,G4] using B
 ·simpa [AT,G4] using c.nodup
theorem sk {b f:Nat}{h:List (Fi×Nat)}{g:Fi×Nat->Fi}(c:Nat):KJ b f (h.map λd=>(g d,d.2)) c↔KJ b f h c:=by
 unfold KJ;constructor
 ·rintro(a|a|⟨p,e,rfl⟩)
  ·exact .inl a
  ·exact .inr (.inl a)
  ·obtain⟨d,i,rfl⟩:=List.mem_map.1 e;exact .inr (.inr ⟨d,i,rfl⟩)
 ·rintro(a|a|⟨p,e,rfl⟩)
  ·exact .inl a
  ·exact .inr (.inl a)
  ·exact .inr (.inr ⟨_,List.mem_map.2 ⟨p,e,rfl⟩,rfl⟩)
theorem sn {b:A2P}{v:J0}: ∀ {m:List (A2P×J0)},TY b m=none->ZY b v m=m++ [(b,v)]
 | [],_=>rfl
 |p::m,a=>by
  rw[Nw] at a;split at a
  ·cases a
  ·rename_i c;unfold ZY;rw[if_neg c,sn a];rfl
theorem ll {d:al}{a:aa}{b:Nat}{e f:J0}{down:Bool}{T:Q7}{c:A2O}(g:a[b]? =some (J2 #[e,f,J3 down] T (0,0)))(h:c (J3 down) a):
  AA d P Ga #[Ap b] a c:=by
 refine ACD ?_;unfold Vh;exact ae.no rfl (aE (Aa.mk (AB g rfl) h))
theorem zL {e:al}{c:aa}{name:A2P}{d:A2O}(a:d (J3 (Kn name)) c):AA e P TL #[J7 name] c d:=by
 refine AFo ?_;unfold Zx;unfold Kn at a;rw[CY];refine ae.intro (λb=>?_) (λb=>?_)
 ·rw[b] at a;exact a
 ·rw[b] at a;have f:decide ((name.size:Int)>(32:Int))=decide (name.size>32):=by rw[decide_eq_decide];omega
  rw[f];simpa using a
def mN(fuel:Int):Int:=if fuel>0 then fuel-1 else fuel
theorem zM {o:al}{d:aa}{b:Nat}{h:J0}{fuel:Int}{down:Bool}{T:Q7}{i:A2O}(f:d[b]? =some (J2 #[h,J6 J9 fuel,J3 down] T (0,0)))(q: -1<=fuel)(r:fuel<=9223372036854775807)
  (p:fuel=0-> ∀a,a[b]? =some (J2 #[h,J6 J9 fuel,J3 true] T (0,0))->Mod (· =b) d a->a.size=d.size->i (J3 false) a)
  (e:fuel≠0-> ∀a,a[b]? =some (J2 #[h,J6 J9 (mN fuel),J3 down] T (0,0))->Mod (· =b) d a->a.size=d.size->i (J3 true) a):AA o P Gy #[Ap b] d i:=by
 refine AA4 ?_;unfold Sq;refine aE (AC.mk (AB f rfl) ?_);refine ae.intro (λc=>?_) (λc=>?_)
 ·refine aE (ab.dm f (by simp) λj g k l=>?_);exact p (by simpa using c) j (by simpa using g) k l
 ·have c:fuel≠0:=by simpa using c
  have e:=e c;unfold mN at e;refine ah.mk λK n=>?_
  refine aE (AC.mk (AB f rfl) ?_);refine ae.intro (λc=>?_) (λc=>?_)
  ·have m:fuel>0:=by simpa using c
   rw[if_pos m] at e;refine aE (AC.mk (AB f rfl) (aE (ab.dm f (by simp) λj g k l=>n _ _ ?_)));rw[wrap_i64 (by omega) (by omega)] at g;exact e j (by simpa using g) k l
  ·have m: ¬fuel>0:=by simpa using c
   rw[if_neg m] at e;exact n _ _ (e d f Mod.refl rfl)
theorem JM(m:Bx):(IK m).fuel=mN m.fuel/\(IK m).down=m.down/\(IK m).files=m.files:=by unfold IK mN;split<;>simp
theorem zN {m:Bx}(g:Gu m):Gu (IK m):=by have:=g.tick m.files g.sorted g.names g.wt;rwa [<- (JM m).2.2] at this
theorem Ez.jb {p:al}{e:aa}{b f:Nat}{g:List (Fi×Nat)}{m:Bx}(d:Ez e b f g m){i:A2O}
  (q:m.fuel=0-> ∀a,Ez a b f g (Mg m)->Mod (KJ b f g) e a->i (J3 false) a)
  (r:m.fuel≠0-> ∀a,Ez a b f g (IK m)->Mod (KJ b f g) e a->a.size=e.size->i (J3 true) a):AA p P Gy #[Ap b] e i:=by
 refine zM d.head d.aC.lo d.aC.hi (λj k l h o=>?_) (λj k l h o=>?_)
 ·exact q j k (d.hd l h rfl d.aC.off) (h.ai λc _ n=> .inl n)
 ·obtain⟨s,t,u⟩:=JM m;refine r j k (d.hd ?_ h u (zN d.aC)) (h.ai λc _ n=> .inl n) o;rw[s,t];exact l
theorem Ez.fB {d:aa}{b a:Nat}{e:List (Fi×Nat)}{m:Bx}(i:Ez d b a e m){p:Fi×Nat}(f:p∈e){data:A2P}(l:Gu {m with files:=Pe p.1.name (RP data) m.files}){K:aa->Prop}
  (r: ∀j n,Ez j b a n {m with files:=Pe p.1.name (RP data) m.files}->Mod (KJ b a e) d j->(∀ c,KJ b a n c↔KJ b a e c)->K j):
  At (some ⟨p.2,0,none⟩) λs=>AJ d (s.add 1) λt=>aH (((t.size+data.size:Nat):Int)<=IntKind.i64.max)<|At (some ⟨p.2,0,none⟩) λu=>ab d (u.add 1) (J7 (t++data)) K:=by
 have h:=i.cells p f;refine aE (AJ.mk (AB h rfl) ⟨?_,aE (ab.dm h (by simp) λo v q y=>?_)⟩)
 ·have o:bg (Pe p.1.name (RP data) m.files)<=8796093022208:=l.wt;have w:RP data p.1∈Pe p.1.name (RP data) m.files:=by refine List.mem_map.2 ⟨p.1,i.mem.2 ⟨p.2,f⟩,by simp⟩
  have x:=nQ w;simp only[RP,APK] at x;simp[IntKind.max,IntKind.bits,IntKind.signed];omega
 ·exact r o _ (i.set f (g:=RP data) (λ_=>rfl) (by simpa [RP] using v) q l) (q.ai λc _ h=> .inr (.inr ⟨p,f,h.symm⟩)) (λc=>sk (g:=λk=>if k.1.name=p.1.name then RP data k.1 else k.1) c)
theorem sq {S:al}{g:aa}{b:Nat}{l:Nat->Prop}{m:Bx}{name data:A2P}{L:A2O}(k:Cm g b l m)(T:bg m.files+data.size+1<=8796093022208)
  (h: ∀B S',Cm B b S' (EF m name data).2->Mod l g B->(∀ c,S' c->l c\/g.size<=c)->L (J6 J9 (EF m name data).1) B):AA S P JX #[Ap b,J7 name,J7 data] g L:=by
 have n:=k.aC.append (name:=name) (data:=data) T;obtain⟨j,o,k,s⟩:=k;refine XT ?_;unfold QL;refine ll k.head ⟨_,rfl,?_⟩;unfold EF at h n;refine ae.intro (λhd=>?_) (λhd=>?_)
 ·rw[if_pos hd] at h;exact h g l ⟨j,o,k,s⟩ Mod.refl (λc d=> .inl d)
 rw[if_neg (by simp[hd])] at h n;refine zL ⟨_,rfl,?_⟩;refine ae.intro (λw=>?_) (λw=>?_)
 ·rw[if_pos w] at h;exact h g l ⟨j,o,k,s⟩ Mod.refl (λc d=> .inl d)
 rw[if_neg (by simp[w])] at h n;have C: ∀ {q:aa},Mod (KJ b j o) g q->Mod l g q:=λr=>r.ai λc _ d=>(s c).2 d
 refine k.jb (λD q i r=>⟨_,rfl,?_⟩) (λD q i r ag=>⟨_,rfl,?_⟩)
 ·rw[if_pos D] at h;exact ae.yes rfl (h q l ⟨j,o,i,s⟩ (C r) (λc d=> .inl d))
 rw[if_neg D] at h n;refine ae.no rfl ?_;refine aE (FM.mk (AL i.head rfl) (QW jz QB lj i.map ?_));rcases i.look name with⟨x,E⟩|⟨p,e,x,E,U⟩
 ·
  rw[x];refine⟨none,rfl,ah.mk λK F=>ae.yes rfl ?_⟩;refine ak.mk λai _ V M aj=>?_
  have t:=i.mod M (λ_ _ g=>g);refine aE (FM.mk (AL t.head rfl) ?_);have W:name.size<=32:=by simp[Kn] at w;omega
  have am:=Uc (IK m).files;have X:o.length=(IK m).files.length:=by rw[<- i.perm.length_eq];simp
  rw[(JM m).2.2] at X;have an:=Uc m.files;refine AMG jz QB t.map (by simp[maxLen];omega) (by simp[eX,maxLen];omega) λN O y ao=>?_
  rw[sn x] at O;have Y:=y.af V (by have:=i.map.lt;omega);have u:=E;rw[(JM m).2.2] at u;have G:TZ name m.files=gQ ⟨name,bD,bD⟩ m.files:=by unfold TZ;rw[u];rfl
  have Z:=RY u;have ab:=vC ⟨name,bD,bD⟩ m.files;simp only[nP] at ab;have ac:Ez N b j (o++ [(⟨name,bD,bD⟩,q.size)]) {IK m with files:=gQ ⟨name,bD,bD⟩ m.files}:=by
   refine⟨y.af t.head t.gr.symm,?_,?_,?_,?_,?_⟩
   ·rw[eX,CH];exact O
   ·intro p e;rcases List.mem_append.1 e with e|e
    ·exact y.af (t.cells p e) (t.eM e).2
    ·simp at e;subst e;exact Y
   ·rw[CH];refine(List.perm_append_singleton _ _).trans (((i.perm.trans (List.Perm.of_eq (JM m).2.2)).cons _).trans (Nk _ _).symm)
   ·rw[CH];refine List.nodup_append.2 ⟨i.nodup,by simp,?_⟩;intro a ad c d;obtain⟨p,e,rfl⟩:=List.mem_map.1 ad;simp at d;subst d;have:=Af (i.cells p e);omega
   ·refine k.aC.tick _ (Tm k.aC.sorted Z) (λf H=>?_) (by omega);rcases List.mem_cons.1 ((Nk _ _).subset H) with rfl|H
    ·exact W
    ·exact k.aC.names f H
  refine F _ _ ?_;rw[G] at h n;refine ac.fB (p:=(⟨name,bD,bD⟩,q.size)) (by simp) (data:=data) n λI v z J A=>?_
  have Q: ∀c,KJ b j v c->KJ b j o c\/g.size<=c:=λc d=>by
   rcases(A c).1 d with g|g|⟨p,e,rfl⟩
   ·exact .inl (.inl g)
   ·exact .inl (.inr (.inl g))
   ·rcases List.mem_append.1 e with e|e
    ·exact .inl (.inr (.inr ⟨p,e,rfl⟩))
    ·simp at e;subst e;exact .inr (by have:=r.size;simpa using this)
  refine h I (KJ b j v) ⟨j,v,z,λ_=>Ds⟩ ?_ (λc d=>(Q c d).imp (s c).2 id);have af:Mod (KJ b j o) q N:=M.mod.trans (y.ai λc _ d=> .inr (.inl d));refine C ((r.trans af).then (J.ai λc _ d=>Q c ((A c).2 d)))
 ·
  rw[x];refine⟨some ⟨p.2,0,none⟩,rfl,ah.mk λK F=>ae.no rfl (F _ _ ?_)⟩;have u:=E;rw[(JM m).2.2] at u;have G:TZ name m.files=m.files:=by unfold TZ;rw[u];rfl
  rw[G] at h n;subst U;have R:=(JM m).2.2;refine i.fB e (data:=data) (by rw[R];exact n) λI v z J A=>?_
  refine h I l ⟨j,v,by rw[R] at z;exact z,λc=>(s c).trans (A c).symm⟩ (C (r.trans J)) (λc d=> .inl d)
theorem sr {D:al}{e:aa}{b:Nat}{o:Nat->Prop}{m:Bx}{name:A2P}{x:A2O}(a:Cm e b o m)
  (d: ∀h',Cm h' b o (G6 m name).2->Mod o e h'->x (J6 J9 (G6 m name).1) h'):AA D P KW #[Ap b,J7 name] e x:=by
 have i:=a.aC.sync (name:=name);obtain⟨j,q,a,k⟩:=a;refine ABB ?_;unfold UI;refine ll a.head ⟨_,rfl,?_⟩;unfold G6 at d i;have y: ∀ {l:aa},Mod (KJ b j q) e l->Mod o e l:=λn=>n.ai λc _ f=>(k c).2 f
 refine ae.intro (λhd=>?_) (λhd=>?_)
 ·rw[if_pos hd] at d;exact d e ⟨j,q,a,k⟩ Mod.refl
 rw[if_neg (by simp[hd])] at d i;refine aE (FM.mk (AL a.head rfl) (QW jz QB lj a.map ?_));rcases a.look name with⟨r,s⟩|⟨p,t,r,s,E⟩
 ·rw[r];rw[s] at d;exact⟨none,rfl,ae.yes rfl (d e ⟨j,q,a,k⟩ Mod.refl)⟩
 rw[r];rw[s,if_neg (by simp)] at d i;refine⟨some ⟨p.2,0,none⟩,rfl,ae.no rfl ?_⟩;refine a.jb (λu l h n=>⟨_,rfl,?_⟩) (λu l h n H=>⟨_,rfl,?_⟩)
 ·rw[if_pos u] at d;exact ae.yes rfl (d l ⟨j,q,h,k⟩ (y n))
 rw[if_neg u] at d i;refine ae.no rfl ?_;refine aE (FM.mk (AL h.head rfl) (QW jz QB lj h.map ?_));rw[r];refine⟨some ⟨p.2,0,none⟩,rfl,?_⟩;have f:=h.cells p t;refine aE (AJ.mk (AL f rfl) (aE (AJ.mk (AB f rfl) ⟨?_,?_⟩)))
 ·have v:=nQ (Jy s).2;have:=a.aC.wt;simp[IntKind.max,IntKind.bits,IntKind.signed];omega
 refine aE (ab.mk f (by simp) λI F z J=>aE (ab.dm F (by simp) λv G A K=>?_));subst E;have B:=(JM m).2.2;have C:=h.set t (h':=v) (g:=Ri) (λ_=>rfl) (by simpa [Ri] using G) (z.trans A) (by rw[B];exact i);rw[B] at C;refine d v ⟨j,_,C,λc=>(k c).trans (sk (g:=λw=>if w.1.name=p.1.name then Ri w.1 else w.1) c).symm⟩ (y (n.trans ((z.trans A).ai λc _ f=> .inr (.inr ⟨p,t,f.symm⟩))))
theorem oU {i:al}{e:aa}{b:Nat}{j:Nat->Prop}{m:Bx}{name:A2P}{g:A2O}(a:Cm e b j m)
  (c:g (J1 #[J7 (Te m name).1,J6 J9 (Te m name).2]) e):AA i P Iw #[Ap b,J7 name] e g:=by
 obtain⟨l,n,a,o⟩:=a;refine AAt ?_;unfold Sa;refine ll a.head ⟨_,rfl,?_⟩;unfold Te at c;refine ae.intro (λhd=>?_) (λhd=>?_)
 ·rw[if_pos hd] at c;exact c
 rw[if_neg (by simp[hd])] at c;refine aE (FM.mk (AL a.head rfl) (QW jz QB lj a.map ?_));rcases a.look name with⟨f,d⟩|⟨p,k,f,d,q⟩
 ·rw[f];rw[d] at c;exact⟨none,rfl,ae.yes rfl c⟩
 rw[f];rw[d] at c;refine⟨some ⟨p.2,0,none⟩,rfl,ae.no rfl ?_⟩;have h:=a.cells p k;refine aE (AJ.mk (AL h rfl) (aE (AJ.mk (AB h rfl) ⟨?_,c⟩)));have r:=nQ (Jy d).2;have:=a.aC.wt;simp[IntKind.max,IntKind.bits,IntKind.signed];omega
theorem zP(a:A2P)(b:List (Fi×Nat)):iC a (eX b)=eX (b.filter λp=> !decide (p.1.name=a)):=by unfold iC eX;rw[PA];rfl
theorem WO {C:al}{a:aa}{b:Nat}{i:Nat->Prop}{m:Bx}{name:A2P}{x:A2O}(d:Cm a b i m)
  (e: ∀s S',Cm s b S' (Gi m name).2->Mod i a s->(∀ c,S' c->i c)->x (J6 J9 (Gi m name).1) s):AA C P Gx #[Ap b,J7 name] a x:=by
 have k:=d.aC.delete (name:=name);obtain⟨j,l,d,n⟩:=d;refine YP ?_;unfold QF;refine ll d.head ⟨_,rfl,?_⟩;unfold Gi at e k;have y: ∀ {g:aa},Mod (KJ b j l) a g->Mod i a g:=λo=>o.ai λc _ q=>(n c).2 q
 refine ae.intro (λhd=>?_) (λhd=>?_)
 ·rw[if_pos hd] at e;exact e a i ⟨j,l,d,n⟩ Mod.refl (λ_ a=>a)
 rw[if_neg (by simp[hd])] at e k;refine aE (FM.mk (AL d.head rfl) (QW jz QB lj d.map ?_));rcases d.look name with⟨t,u⟩|⟨p,z,t,u,F⟩
 ·rw[t];rw[u] at e;exact⟨none,rfl,ae.yes rfl (e a i ⟨j,l,d,n⟩ Mod.refl (λ_ a=>a))⟩
 rw[t];rw[u,if_neg (by simp)] at e k;refine⟨some ⟨p.2,0,none⟩,rfl,ae.no rfl ?_⟩;refine d.jb (λv g h o=>⟨_,rfl,?_⟩) (λv g h o G=>⟨_,rfl,?_⟩)
 ·rw[if_pos v] at e;exact ae.yes rfl (e g i ⟨j,l,h,n⟩ (y o) (λ_ a=>a))
 rw[if_neg v] at e k;refine ae.no rfl ?_;refine aE (FM.mk (AL h.head rfl) (ALn jz QB h.map λA B w H=>⟨rfl,?_⟩));rw[zP] at B;have I:=(JM m).2.2;have D:Ez A b j (l.filter λp=> !decide (p.1.name=name)) {IK m with files:=Pd name m.files}:=by
  refine⟨w.af h.head h.gr.symm,B,λE r=>?_,?_,?_,k⟩
  ·have r:=(List.mem_filter.1 r).1;exact w.af (h.cells E r) (h.eM r).2
  ·have g:=d.perm.filter λf=> !decide (f.name=name)
   rw[PA] at g;exact g
  ·exact(List.filter_sublist.map _).nodup d.nodup
 refine e A (KJ b j _) ⟨j,_,D,λ_=>Ds⟩ (y (o.trans (w.ai λc _ q=> .inr (.inl q)))) (λc q=>(n c).2 ?_);rcases q with a|a|⟨p,z,rfl⟩
 ·exact .inl a
 ·exact .inr (.inl a)
 ·exact .inr (.inr ⟨p,(List.mem_filter.1 z).1,rfl⟩)
theorem zQ {h:al}{a:aa}{e:A2O}(i: ∀b d f,Cm d b f kI->Ext a d->(∀ c,f c->a.size<=c)->e (Ap b) d):AA h P ZB #[] a e:=by
 refine AKE ?_;unfold tL;refine ak.mk λj _ k l q=>ak.mk λm _ n g r=>?_
 refine i _ m (KJ j.size a.size []) ⟨_,[],⟨n,Uo.empty (g.af k (by simp)),by simp,IT _,by simp,AMO⟩,λ_=>Ds⟩ (l.trans g) ?_;rintro c (rfl|rfl|⟨p,o,_⟩)
 ·omega
 ·exact A0 _
 ·cases o
end Go.Lf.G
namespace Go.Proofs
open Go.Shelf
def Tryz.cw:Go.Shelf.Ren:=⟨λ|105=>162|212=>189|99=>190|165=>191|166=>192|170=>193|169=>194|263=>227|264=>228|206=>229|240=>230|241=>231|276=>253|277=>254|a=>a,λ|9=>9|3=>3|4=>4|20=>20|0=>0|46=>158|109=>286|5=>5|72=>290|76=>247|51=>155|146=>156|53=>112|148=>319|70=>288|37=>69|75=>246|127=>321|164=>342|80=>131|a=>a,λ|a=>a⟩
theorem Tryz.ey:Go.Proofs.Lays.n105 Tryz.prog Tryz.cw:=by repeat' first|exact Lf.DR (by kernel_rfl)|kernel_rfl|decide|constructor
theorem Tryz.dJ:Builder.Extra Tryz.prog Tryz.cw:=by repeat' first|exact Lf.DR (by kernel_rfl)|kernel_rfl|decide|constructor
theorem Tryz.ir:Lays.n166 Tryz.prog Tryz.cw:= {Tryz.ey with}
theorem Tryz.iu:Lays.n169 Tryz.prog Tryz.cw:= {Tryz.ey with}
def Tryz.eT:Go.Shelf.Ren:=⟨λ|103=>185|210=>214|206=>229|a=>a,λ|9=>9|4=>4|24=>280|3=>3|a=>a,λ|a=>a⟩
theorem Tryz.iv:Go.Proofs.Lays.n103 Tryz.prog Tryz.eT:=by repeat' first|exact Lf.DR (by kernel_rfl)|kernel_rfl|decide|constructor
def Tryz.cG:Go.Shelf.Ren:=⟨λ|14=>186|16=>215|17=>169|19=>245|20=>246|21=>202|22=>203|23=>204|24=>205|25=>238|27=>138|26=>239|28=>164|29=>197|30=>232|31=>233|32=>234|33=>235|35=>226|34=>255|36=>256|37=>257|38=>258|39=>272|40=>273|a=>a,λ|9=>9|3=>3|22=>112|24=>246|25=>282|4=>4|34=>296|5=>5|36=>158|37=>69|0=>0|39=>299|21=>21|44=>329|47=>321|50=>355|48=>353|2=>2|52=>322|55=>324|59=>346|60=>155|20=>20|61=>347|65=>362|66=>363|67=>131|a=>a,λ|0=>0|1=>1|2=>2|3=>4|4=>5|a=>a⟩
theorem Tryz.dK:Go.Proofs.LaysPu.n14 Tryz.prog Tryz.cG:=by repeat' first|exact Lf.DR (by kernel_rfl)|kernel_rfl|decide|constructor
def Tryz.eA:Go.Shelf.Ren:=⟨λ|171=>138|243=>164|246=>197|283=>232|284=>233|285=>234|286=>235|129=>226|317=>255|318=>256|319=>257|320=>258|337=>272|338=>273|a=>a,λ|3=>3|9=>9|2=>2|4=>4|171=>322|0=>0|53=>112|37=>69|5=>5|173=>324|212=>346|51=>155|20=>20|213=>347|46=>158|232=>362|233=>363|a=>a,λ|17=>2|18=>4|19=>5|a=>a⟩
theorem Tryz.gw:Go.Proofs.LaysM.n171 Tryz.prog Tryz.eA:=by repeat' first|exact Lf.DR (by kernel_rfl)|kernel_rfl|decide|constructor
def Tryz.eB:Go.Shelf.Ren:=⟨λ|172=>142|244=>168|245=>169|247=>201|279=>202|280=>203|281=>204|282=>205|287=>215|316=>238|171=>138|205=>239|321=>245|322=>246|243=>164|246=>197|283=>232|284=>233|285=>234|286=>235|129=>226|317=>255|318=>256|319=>257|320=>258|337=>272|338=>273|a=>a,λ|9=>9|3=>3|75=>246|76=>247|4=>4|5=>5|167=>296|37=>69|0=>0|85=>297|2=>2|168=>299|53=>112|175=>282|46=>158|210=>329|127=>321|145=>355|143=>353|21=>21|171=>322|173=>324|212=>346|51=>155|20=>20|213=>347|232=>362|233=>363|80=>131|a=>a,λ|15=>0|16=>1|17=>2|18=>4|19=>5|a=>a⟩
theorem Tryz.gy:Go.Proofs.LaysC.n172 Tryz.prog Tryz.eB:=by repeat' first|exact Lf.DR (by kernel_rfl)|kernel_rfl|decide|constructor
end Go.Proofs
namespace Go.Lf
open Go
def Nu(a:Nat):List UInt8:=Lib.repeatL [48] (8-(Lib.decDigits a).length)++Lib.decDigits a
def SH(a:Nat)(l:List UInt8):Nat:=l.foldl (λa c=>a*10+(c.toNat-48)) a
def lR(l:List UInt8):Prop:= ∀c∈l,48<=c.toNat/\c.toNat<=57
theorem nM {a:Nat}(b:a<10):(UInt8.ofNat (48+a)).toNat=48+a:=by simp only[UInt8.toNat_ofNat'];omega
theorem YX: ∀a:Nat,lR (Lib.decDigits a)/\SH 0 (Lib.decDigits a)=a:=by
 intro a
 induction a using Nat.strongRecOn with
 |ind a g=>
  by_cases d:a<10
  ·rw[Lib.decDigits,dif_pos d];refine⟨λc b=>?_,?_⟩
   ·rw[List.mem_singleton.1 b,nM d];omega
   ·simp only[SH,I2,N6,nM d];omega
  ·rw[Lib.decDigits,dif_neg d];obtain⟨h,e⟩:=g (a / 10) (by omega);have f:a % 10<10:=CT _ (by decide);refine⟨λc b=>?_,?_⟩
   ·rcases List.mem_append.1 b with b|b
    ·exact h c b
    ·rw[List.mem_singleton.1 b,nM f];omega
   ·unfold SH at e ⊢;rw[I0,e];simp only[I2,N6,nM f];omega
theorem Zt: ∀k:Nat,lR (Lib.repeatL [48] k)/\ ∀l,SH 0 (Lib.repeatL [48] k++l)=SH 0 l
 |0=>⟨λc a=>(by cases a),λl=>rfl⟩
 |k+1=>by
  obtain⟨b,d⟩:=Zt k;refine⟨λc a=>?_,λl=>?_⟩
  ·rcases List.mem_append.1 a with a|a
   ·rw[List.mem_singleton.1 a];decide
   ·exact b c a
  ·show SH 0 (([48]++Lib.repeatL [48] k)++l)=_;rw[A4];exact d l
theorem qz(a:Nat):lR (Nu a)/\SH 0 (Nu a)=a:=by
 refine⟨λc b=>?_,?_⟩
 ·rcases List.mem_append.1 b with b|b
  ·exact(Zt _).1 c b
  ·exact(YX a).1 c b
 ·exact((Zt _).2 _).trans (YX a).2
theorem qA: ∀(l:List UInt8) (a:Nat),a<=SH a l
 | [],a=>A0 _
 |c::l,a=>by
  have:=qA l (a*10+(c.toNat-48));have b:SH a (c::l)=SH (a*10+(c.toNat-48)) l:=rfl;rw[b];omega
theorem uX: ∀(l:List UInt8) (a:Nat),lR l->SH a l<=4294967295->Lib.parseUintM 4294967295 a l= .ok (SH a l)
 | [],a,_,_=>rfl
 |c::l,a,hd,b=>by
  have d:SH a (c::l)=SH (a*10+(c.toNat-48)) l:=rfl;rw[d] at b ⊢;have e:=hd c (by simp);have g:=qA l (a*10+(c.toNat-48));unfold Lib.parseUintM;rw[if_pos e,if_neg (by omega),if_neg (by omega)];exact uX l _ (λx f=>hd x (An _ f)) b
theorem uY: ∀(l:List UInt8) (a:Nat) {u:Nat},a<=4294967295->Lib.parseUintM 4294967295 a l= .ok u->u<=4294967295
 | [],a,u,d,b=>by
  unfold Lib.parseUintM at b;injection b with b;omega
 |c::l,a,u,d,b=>by
  unfold Lib.parseUintM at b;split at b
  ·split at b
   ·cases b
   ·split at b
    ·cases b
    ·exact uY l _ (by omega) b
  ·cases b
theorem uZ {a:Nat}(d:a<=4294967295):Lib.parseUintB 32 (Nu a)= .ok a:=by
 obtain⟨e,b⟩:=qz a;have f:Nu a≠ []:=by intro g;have h:Lib.decDigits a= []:=(List.append_eq_nil_iff.1 g).2;have c:=congrArg List.length h;rw[Lib.decDigits_length] at c;have:=Lib.nDigits_pos a;simp at c;omega
 unfold Lib.parseUintB;rw[if_neg f];have:=uX (Nu a) 0 e (by rw[b];exact d);rw[b] at this;exact this
theorem AO7 {a b:Nat}(d:Nu a=Nu b):a=b:=by have c:=(qz a).2;rw[d,(qz b).2] at c;exact c.symm
theorem AIo {k:Nat}: ∀ {n:Nat},n<10^(k+1)->Lib.nDigits n<=k+1:=by
 induction k with
 |zero=>intro n a;rw[Lib.nDigits_small (by simpa using a)];omega
 |succ k c=>
  intro n a;by_cases b:n<10
  ·rw[Lib.nDigits_small b];omega
  ·rw[Lib.nDigits_big b];have:=c (n:=n / 10) (by rw[Fc] at a;omega);omega
theorem vd {n:Nat}(a:n<=99999999):(Nu n).length=8:=by have b:=AIo (k:=7) (n:=n) (by have:(10:Nat)^(7+1)=100000000:=(by decide);omega);simp only[Nu,A1,Lib.repeatL_length,Lib.decDigits_length,CN];omega
theorem AJB {a:Nat}(b:(Nu a).length=8):a<=99999999:=by
 have c:Lib.nDigits a<=8:=by simp only[Nu,A1,Lib.repeatL_length,Lib.decDigits_length,CN] at b;omega
 have d:=Lib.lt_pow_nDigits a;have e:(10:Nat)^Lib.nDigits a<=10^8:=RM (by decide) c;have:(10:Nat)^8=100000000:=by decide
 omega
def aD(a:A2P)(b:Nat):A2P:=a++AX (Nu b)
theorem Qq(a:A2P)(b:Nat):bl (aD a b)=bl a++Nu b:=by show(a++AX (Nu b)).data.toList=a.data.toList++Nu b;rw[I3,KB];exact congrArg _ (Ce _)
theorem Ib {a:A2P}{b c:Nat}(e:aD a b=aD a c):b=c:=by have d:=congrArg bl e;rw[Qq,Qq] at d;exact AO7 (Lk d)
theorem AOi {nm:A2P}{a:Nat}(b:a<=99999999):(aD nm a).size=nm.size+8:=by rw[aD,Hn,AP,vd b]
inductive Mi:List UInt8->List (List UInt8)->Prop
 |stop {l:List UInt8} (h:(Gp l).1≠0):Mi l []
 |step {l:List UInt8} {rs:List (List UInt8)} (h:(Gp l).1=0) (s:Mi (Gp l).2.2 rs):Mi l ((Gp l).2.1::rs)
theorem Zj {l:List UInt8}(a:(Gp l).1=0):(Gp l).2.1.length+(Gp l).2.2.length<l.length:=by
 unfold Gp at a ⊢;cases b:MB 0 0 l with
 |none=>rw[b] at a;dsimp only at a;split at a<;>cases a
 |some p=>
  obtain⟨g,t⟩:=p;rw[b] at a;obtain⟨c,_⟩:=lW b;have h:t.length<=l.length:=by rw[c];simp
  dsimp only at a ⊢;split at a
  ·cases a
  ·rename_i d;split at a
   ·cases a
   ·rename_i e;split at a
    ·rename_i f;rw[if_neg d,if_neg e,if_pos f];simp only[AE,DG];omega
    ·cases a
theorem qB: ∀(k:Nat) (l:List UInt8),l.length<=k-> ∃a,Mi l a/\(a.map (·.length+1)).sum<=l.length
 |0,l,c=>by
  have:l= []:=CC (by omega);subst this;exact⟨[],.stop (by decide),by simp⟩
 |k+1,l,c=>by
  by_cases b:(Gp l).1=0
  ·have e:=Zj b;obtain⟨a,d,f⟩:=qB k (Gp l).2.2 (by omega);exact⟨_,.step b d,by simp only[By,GS];omega⟩
  ·exact⟨[],.stop b,by simp⟩
theorem Mi.uniq {l:List UInt8}{d ts:List (List UInt8)}(a:Mi l d):Mi l ts->d=ts:=by
 induction a generalizing ts with
 |stop a=>
  intro c;cases c with
  |stop=>rfl
  |step b=>exact absurd b a
 |step a s e=>
  intro c;cases c with
  |stop b=>exact absurd a b
  |step b f=>rw[e f]
noncomputable def kH (l:List UInt8):List (List UInt8):=(qB l.length l (A0 _)).choose
theorem qC(l:List UInt8):Mi l (kH l):=(qB l.length l (A0 _)).choose_spec.1
theorem AOb {l:List UInt8}{a:List (List UInt8)}(b:Mi l a):kH l=a:=(qC l).uniq b
abbrev aI(a:List (List UInt8)):List UInt8:=a.flatMap Cj
theorem Qy {rs:List (List UInt8)}(c: ∀a∈rs,a.length<=1048576){t:List UInt8}(d:(Gp t).1≠0):Mi (aI rs++t) rs:=by
 induction rs with
 |nil=>exact .stop d
 |cons a rs e=>
  have b:=wI (l:=a) (c a (by simp)) (aI rs++t);have f:aI (a::rs)++t=Cj a++(aI rs++t):=by simp
  rw[f];have:=Mi.step (l:=Cj a++(aI rs++t)) (rs:=rs) (by rw[b]) (by rw[b];exact e λx g=>c x (An _ g));rw[b] at this;exact this
theorem TT:(Gp []).1≠0:=by decide
theorem AMB {a:List UInt8}(m:a.length<=1048576){b:Nat}(n:b<(Cj a).length):(Gp ((Cj a).take b)).1≠0:=by
 have d:(Cj a).take b++(Cj a).drop b=Cj a:=DP _ _;have o:((Cj a).drop b).length≠0:=by rw[DG];omega
 generalize (Cj a).take b=p at*
 generalize (Cj a).drop b=e at*
 unfold Gp;cases f:MB 0 0 p with
 |none=>dsimp only;split<;>simp
 |some z=>
  obtain⟨g,t⟩:=z;obtain⟨h,i⟩:=lW f;have j:MB 0 0 (Cj a)=some (g,t++e):=by rw[<- d,h,A4];exact UZ i _
  have c:MB 0 0 (Cj a)=some (a.length,QX (j5 a)++a):=by unfold Cj;rw[A4];exact UZ (by omega) _
  rw[j] at c;obtain⟨rfl,k⟩:=Prod.mk.inj (BT c);have l:=congrArg List.length k;simp only[A1,KM] at l;dsimp only;rw[if_neg (by omega),if_pos (by omega)];simp
theorem JK {r:List UInt8}(a:r.length<=1048576):r.length+5<=(Cj r).length/\(Cj r).length<=r.length+14:=by
 have b:=AV (n:=r.length) (by omega);have c:1<=(BX r.length).length:=by rw[BX];split<;>simp
 simp only[Cj,A1,KM];omega
end Go.Lf
namespace Go.Lf.G
open Go
def ox:String:=Proofs.YtecomiijolnjpaaGreatDoor.Rows.engineOnceRow.named.getD 2 (String.ofList [])
def cU(a:aa):Prop:= ∀(b:al) (c:Nat),Lib.TabIs P (b.at a c) ox .u64 Lib.pow10Tab
theorem cU.ext {a b:aa}(t:cU a)(x:Ext a b):cU b:=by intro c d;have e:=(Lib.tabBelow_of_tabIs (t c d)) (c.at b d) ⟨rfl,rfl,rfl,x.size,λf g=>x.get f g (λa=>a)⟩;exact e
def kL(b:aa)(g:Nat):Prop:= ∃a,ag b ⟨g,0,none⟩=some a/\(a= .nilIface\/ ∃c d,a= .iface c d)
theorem kL.ext {a b:aa}{g:Nat}(c:kL a g)(x:Ext a b):kL b g:=by obtain⟨d,e,f⟩:=c;exact⟨d,x.ag e,f⟩
structure cj (h:aa):Prop where
 cL:cU h
 rK:kL h (Proofs.Tryz.cG.g 0)
 rL:kL h (Proofs.Tryz.cG.g 1)
theorem cj.ext {b c:aa}(a:cj b)(x:Ext b c):cj c:=⟨a.cL.ext x,a.rK.ext x,a.rL.ext x⟩
theorem qZ {e:al}{d:aa}{i:Nat}{a:World}(b:RowKit.Below d.size (e.at d i) a):a=e.at a.heap a.drawn/\Ext d a.heap:=by obtain⟨f,g,h,j,k⟩:=b;refine⟨?_,⟨j,λc l _=>k c l⟩⟩;cases a;simp only[al.at] at f g h ⊢;subst f g h;rfl
theorem xy {d:al}{b:aa}{e:Nat}{a:Q6}{v:J0}(c:ag b a=some v):(d.at b e).cell? a=some v:=by unfold ag at c;unfold World.cell?;exact c
theorem xz {d:al}{a:aa}{c:Int}{e:A2O}(t:cU a)(g: -9223372036854775808<=c)(h:c<=9223372036854775807)(i: ∀f,Ext a f->e (J7 ⟨(Lib.itoa c).toArray⟩) f):
  AA d P OO #[J6 J9 c] a e:=by
 intro m;refine Calls.mono (Proofs.Any.strconv_Itoa Proofs.Tryz.gw c g h (d.at a m) (t d m)) ?_;rintro l n ⟨rfl,j,os,rfl⟩;refine⟨_,rfl,a++os,m+j,rfl,i _ ⟨by simp,λb k _=>by rw[MA k]⟩⟩
theorem AMR {b:al}{a:aa}{s:A2P}{c:Nat}{d:A2O}(g:c<=8)(h:s.size<=8)(i: ∀e,Ext a e->d (J7 (AX (Lib.repeatL (bl s) c))) e):
  AA b P P8 #[J7 s,J6 J9 c] a d:=by
 intro m;have k:s.size*c<=8*8:=Nat.mul_le_mul h g;refine Calls.mono (Proofs.Any.strings_Repeat Proofs.Tryz.ey Proofs.Tryz.dJ s c (b.at a m) (by omega) (by omega)) ?_;rintro l f ⟨rfl,hB⟩;obtain⟨j,x⟩:=qZ hB;exact⟨_,rfl,f.heap,f.drawn,j,i _ x⟩
theorem AFq {b:al}{a:aa}{s p:A2P}{c:A2O}(d:c (J1 #[J7 (AX (Lib.trimPrefix (bl s) (bl p))),J3 (Lib.hasPrefix (bl s) (bl p))]) a):
  AA b P Mo #[J7 s,J7 p] a c:=by
 intro m;refine Calls.mono (Proofs.Any.strings_CutPrefix Proofs.Tryz.iv s p (b.at a m)) ?_;rintro e f ⟨rfl,rfl⟩;exact⟨_,rfl,a,m,rfl,d⟩
theorem AN1 {g:al}{a:aa}{s:A2P}{h:A2O}(o:cj a)(y:s.size<=8)
  (p: ∀u:Nat,Lib.parseUintB 32 (bl s)= .ok u-> ∀e,Ext a e->h (J1 #[.int .u64 u,.nilIface]) e)
  (q:(∀ u,Lib.parseUintB 32 (bl s)≠ .ok u)-> ∀e (w:Int) t v,Ext a e->h (J1 #[.int .u64 w,.iface t v]) e):
  AA g P NE #[J7 s,J6 J9 10,J6 J9 32] a h:=by
 intro m;cases c:Lib.parseUintB 32 (bl s)
 ·rename_i u;refine Calls.mono (Proofs.Any.strconv_ParseUint_10_at32_ok Proofs.Tryz.dK s (by omega) u c (g.at a m)) ?_;rintro r d ⟨rfl,i|i⟩
  ·subst i;exact⟨_,rfl,a,m,rfl,p u c a Mod.refl⟩
  ·subst i;refine⟨_,rfl,_,_,rfl,p u c _ ?_⟩;refine⟨?_,λb z _=>?_⟩
   ·simp[Lib.bytesWorld,World.freeze,World.alloc,World.drew,al.at]
   ·simp[Lib.bytesWorld,World.freeze,World.alloc,World.drew,al.at,GP,Array.getElem?_push];rw[if_neg (by omega),if_neg (by omega)]
 ·obtain⟨j,k,l⟩:=o.rK;refine Calls.mono (Proofs.Any.strconv_ParseUint_10_at32_syntax Proofs.Tryz.dK s (by omega) c j (g.at a m) (xy k) l) ?_;rintro r d ⟨N,rfl,_,_,hB⟩;obtain⟨n,x⟩:=qZ hB;exact⟨_,rfl,d.heap,d.drawn,n,q (λu f=>by rw[c] at f;cases f) _ _ _ _ x⟩
 ·obtain⟨j,k,l⟩:=o.rL;refine Calls.mono (Proofs.Any.strconv_ParseUint_10_at32_range Proofs.Tryz.dK s (by omega) c j (g.at a m) (xy k) l) ?_;rintro r d ⟨N,rfl,_,_,hB⟩;obtain⟨n,x⟩:=qZ hB;exact⟨_,rfl,d.heap,d.drawn,n,q (λu f=>by rw[c] at f;cases f) _ _ _ _ x⟩
theorem Xp {g:al}{c:aa}{b:A2P}{a:Nat}{d:A2O}(h:cj c)(p:a<=4294967295)(q:b.size<=1099511627776)(i: ∀e,Ext c e->d (J7 (aD b a)) e):
  AA g P KC #[J7 b,J6 J9 a] c d:=by
 refine AHC ?_;unfold u6;refine xz h.cL (by omega) (by omega) λr j=>⟨_,rfl,?_⟩
 have k:Lib.itoa (a:Int)=Lib.decDigits a:=Lib.itoa_nonneg a;rw[k];have f:(⟨(Lib.decDigits a).toArray⟩:A2P).size=(Lib.decDigits a).length:=by simp[ByteArray.size]
 have s:(Lib.decDigits a).length<=20:=by rw[Lib.decDigits_length];exact Lib.nDigits_le20 a (by omega)
 have l:(if((J8 J9 ((8:Int)-(((⟨(Lib.decDigits a).toArray⟩:A2P).size:Nat):Int))):Int)>0 then(J8 J9 ((8:Int)-(((⟨(Lib.decDigits a).toArray⟩:A2P).size:Nat):Int))) else 0)=((8-(Lib.decDigits a).length:Nat):Int):=by rw[f,wrap_i64 (by omega) (by omega)];split<;>omega
 rw[l];refine AMR (by omega) (by decide) λm n=>⟨_,rfl,?_,?_,?_⟩
 ·have:(AX (Lib.repeatL (bl ⟨#[48]⟩) (8-(Lib.decDigits a).length))).size<=8:=by rw[AP,Lib.repeatL_length];simp[bl]
  rw[max_i64];omega
 ·have:(AX (Lib.repeatL (bl ⟨#[48]⟩) (8-(Lib.decDigits a).length))).size<=8:=by rw[AP,Lib.repeatL_length];simp[bl]
  rw[Hn,max_i64,f];omega
 ·have:=i m (j.trans n);have o:aD b a=(b++AX (Lib.repeatL (bl ⟨#[48]⟩) (8-(Lib.decDigits a).length)))++⟨(Lib.decDigits a).toArray⟩:=by rw[aD,Nu,<-Ak,ByteArray.append_assoc];rfl
  rw[o] at this;exact this
theorem ALy {I:al}{h:aa}{c s:A2P}{q:A2O}(C:cj h)(J:c.size<=1099511627776)(U:s.size<=1099511627776)
  (D: ∀i (k:Nat),Ext h i->(k=0-> ∀a:Nat,1<=a->a<=99999999->s≠aD c a)->(k≠0->k<=99999999/\s=aD c k)->q (J6 J9 k) i):
  AA I P RQ #[J7 c,J7 s] h q:=by
 refine AD8 ?_;unfold XD;have m: ∀i,Ext h i->(∀ a:Nat,1<=a->a<=99999999->s≠aD c a)->q (J6 J9 0) i:=λi x r=>D i 0 x (λ_=>r) (λh=>absurd rfl h)
 refine AFq ⟨_,_,rfl,?_⟩;cases l:Lib.hasPrefix (bl s) (bl c) with
 |false=>
  refine ah.mk λK o=>ae.yes rfl (o _ _ (ae.yes rfl (m h Mod.refl λa _ _ g=>?_)))
  subst g;rw[Qq] at l;unfold Lib.hasPrefix at l;rw[SW] at l;exact l (List.isPrefixOf_iff_prefix.2 (List.prefix_append _ _))
 |true=>
  have E:=l;unfold Lib.hasPrefix at E;obtain⟨f,hd⟩:=List.isPrefixOf_iff_prefix.1 E;have L:Lib.trimPrefix (bl s) (bl c)=f:=by unfold Lib.trimPrefix;rw[if_pos l,<-hd];simp
  rw[L];refine ah.mk λK o=>ae.no rfl ?_
  have M: ∀b:Bool,b=true->(∀ a:Nat,1<=a->a<=99999999->s≠aD c a)->K (b,()) h:=λb N r=>o _ _ (ae.yes N (m h Mod.refl r))
  have F:(AX f).size=f.length:=AP f;by_cases w:f.length=8
  ·refine o _ _ (ae.no (by simp[F,w]) ?_);have G:bl (AX f)=f:=EP f;refine AN1 C (by omega) (λu j e p=>⟨_,_,rfl,?_⟩) (λj e k t v p=>⟨_,_,rfl,ah.mk λO y=>?_⟩)
   ·rw[G] at j;have Q:u<=4294967295:=by
     have:Lib.parseUintB 32 f= .ok u:=j;unfold Lib.parseUintB at this;split at this
     ·cases this
     ·exact uY f 0 (by omega) this
    have R:J8 J9 (u:Int)=(u:Int):=wrap_i64 (by omega) (by omega);rw[R];refine ah.mk λO y=>?_
    refine⟨trivial,ae.no rfl ?_⟩;refine Xp (C.ext p) Q J λz S=>⟨_,rfl,y _ _ ?_⟩
    have A:=p.trans S;refine ae.intro (λd=>?_) (λd=>?_)
    ·have d:aD c u≠s:=by
      intro g;have:bL (aD c u) s=true:=by rw[CY];exact decide_eq_true g
      dsimp only at d;rw[this] at d;cases d
     refine m z A λa _ B g=>d ?_
     have e:bl s=bl c++Nu a:=by rw[g,Qq]
     rw[<- hd] at e;have n:f=Nu a:=Lk e;rw[n,uZ (by omega)] at j;have:a=u:=by injection j
     rw[<- this];exact g.symm
    ·have d:aD c u=s:=by
      have d:(!bL (aD c u) s)=false:=d;have d:bL (aD c u) s=true:=by simpa using d
      rw[CY] at d;exact of_decide_eq_true d
     have e:bl s=bl c++Nu u:=by rw[<- d,Qq]
     rw[<- hd] at e;have n:f=Nu u:=Lk e;have T:u<=99999999:=AJB (by rw[<- n];exact w);by_cases H:u=0
     ·subst H;refine m z A λa V _ g=>?_
      have:=Ib (g.symm.trans d.symm);omega
     ·exact D z u A (λh=>absurd h H) λ_=>⟨T,d.symm⟩
   ·rw[G] at j;refine⟨trivial,ae.yes rfl (y _ _ (ae.yes rfl (m e p λa _ B g=>?_)))⟩;have e:bl s=bl c++Nu a:=by rw[g,Qq]
    rw[<- hd] at e;have n:f=Nu a:=Lk e;exact j a (by rw[n];exact uZ (by omega))
  ·refine M _ (by simp[F];omega) λa _ B g=>w ?_
   have e:bl s=bl c++Nu a:=by rw[g,Qq]
   rw[<- hd] at e;rw[Lk e,vd B]
open Go Go.ChangeShapes Go.WideShapes Go.ChangeAt Go.RowKit Go.Proofs.YtecomiijolnjpaaGreatDoor
theorem uC {H:Type}{enc:Q7×J0->H}{P:Q1}(d:laidOutB P=true){e f:World}{g:Nat->Bool}: ∀ {ts:List Q7} {c:List J0} {ds:List (DataW H)} {ps:List MemPlace},
  (ts.all λt=>P.readableRec t&&decide (t<P.types.size))=true->DataW.TrodAll enc P e 0 (λ_=>true) true ts c ds ps->(∀ p∈ps,e.sameAt f p)->(∀ p∈ps,g p.block=true)->DataW.TrodAll enc P f 0 g true ts c ds ps
 | [],[],[],_,_,j,_,_=>j
 |t::ts,v::c,o::ds,_,b,⟨p,k,l,m,n⟩,h,i=>by
  simp only[Nd,A3,decide_eq_true_eq] at b;subst n;exact⟨p,k,WideElems.Trod_stays d b.1.1 b.1.2 l (λx a=>h x (HJ _ a)) (λx a=>i x (HJ _ a)),
   uC d (by simpa using b.2) m (λx a=>h x (Kd _ a)) (λx a=>i x (Kd _ a)),rfl⟩
def lM(a:World):al:=⟨a.tape,a.os,a.output⟩
theorem AN7 {H:Type}{enc:Q7×J0->H}{P:Q1}{f:Func}{s:ChangeSpec}{a:World}{args:Array J0}{ds d:List (DataW H)}{j:List MemPlace}{q:Q7}{e:aa}{k:Nat}
  (l:DataW.Whole enc P f.params.toList s.vars false a args.toList ds d j) (r:s.vars= []) (y:(s.fn H (ds++d)).results= [.lit (.bool true)]) (z:(s.fn H (ds++d)).args=ds) (A:(s.fn H (ds++d)).vars= [])
  (B:laidOutB P=true) (g:(f.params.toList.all λt=>P.readableRec t&&decide (t<P.types.size))=true) (C:f.resultTypes= #[q]) (D:P.underlying q=some .bool) (x:Ext a.heap e):
  s.post enc P f false true false false a args (.bool true) ((lM a).at e k):=by
 have u:=λp (g:p∈j)=>l.lt p g
 have E: ∀p∈j,a.sameAt ((lM a).at e k) p:=λp g=>by
  have v:e[p.block]? =a.heap[p.block]? :=x.get _ (u p g) (λh=>h);cases p with
  |cell b off=>
   show ag e ⟨b,off,none⟩=ag a.heap ⟨b,off,none⟩;exact QD v
  |map b=>exact v
 obtain⟨p,F,hA,m,rfl,L,M⟩:=id l;rw[r] at m;have G:d= []/\F= []:=by
  cases d with
  |nil=>exact⟨rfl,m⟩
  |cons _ _=>exact m.elim
 obtain⟨rfl,rfl⟩:=G;refine⟨ds,[],p++ [],[],p,[],l,?_,?_,?_,?_,λh=>by cases h⟩
 ·rw[y,C];exact⟨[],[],⟨1,by simp[DataW.trod,Value.cells,D]⟩,rfl,rfl⟩
 ·rw[z];exact uC B g hA (λn o=>E n (HJ _ o)) (λn o=>by simpa using u n (HJ _ o))
 ·rw[r,A];rfl
 ·refine⟨rfl,rfl,λi I=>?_⟩;have J:((lM a).at e k).heap[i]? =a.heap[i]? :=x.get i I (λh=>h);rw[J];cases N:a.heap[i]? with
  |none=>trivial
  |some K=>
   cases K with
   |cells c t fr=>exact⟨rfl,rfl,rfl,λ_ _=>rfl⟩
   |map O Q=>exact .inr ⟨rfl,rfl⟩
   |_=>rfl
theorem laid:laidOutB P=true:=by kernel_rfl
section
variable {H : Type} {enc : Q7 × J0 -> H} {w : World} {base : Nat} {spare : Nat -> Bool} {held : Bool}
end
theorem uD:P.underlying Bb=some (.int J9):=by kernel_rfl
theorem uE:P.underlying lN=some .bool:=by kernel_rfl
theorem qm:P.underlying Az=some .string:=by kernel_rfl
theorem uF:P.cellsOf Az=1:=by kernel_rfl
theorem ASr:P.cellsOf Bb=1:=by kernel_rfl
section
variable {H : Type} {enc : Q7 × J0 -> H} {w : World} {base : Nat} {spare : Nat -> Bool} {held : Bool}
end
end Go.Lf.G
namespace Go.Lf
open Go
def xK(a:A2P)(i:Nat):Nat:=(lV a+i*nY a) % 4294967296
def cJ(a:A2P)(m i:Nat):Nat:=xK a i % (8*m)
def SE(f:List UInt8)(a:Nat):Bool:=((f[a / 8]?).getD 0).toNat.testBit (a % 8)
def gj(f:List UInt8)(a:Nat):List UInt8:=f.set (a / 8) (Cq (((f[a / 8]?).getD 0).toNat ||| 2^(a % 8)))
theorem APT(f:List UInt8)(a:Nat):(gj f a).length=f.length:=by simp[gj]
theorem vt {c a:Nat}(b:c<256)(d:a<8):c ||| 2^a<256:=by have e:2^a<2^8:=Nat.pow_lt_pow_right (by decide) d;have:c ||| 2^a<2^8:=Ln (by simpa using b) e;simpa using this
theorem AQL {f:List UInt8}{a:Nat}(c:a / 8<f.length)(x:Nat):SE (gj f a) x=(SE f x||decide (x=a)):=by
 unfold SE gj;have d:a % 8<8:=CT _ (by decide);by_cases b:x / 8=a / 8
 ·rw[b,HM c,JT,EA (vt (UInt8.toNat_lt _) d),Nat.testBit_or,Nat.testBit_two_pow];congr 1;rw[DH,decide_eq_true_iff,decide_eq_true_iff];omega
 ·rw[Ks (by omega)];have:x≠a:=λe=>b (by rw[e])
  simp[this]
def YM(m:Nat)(f:List UInt8)(a:A2P):List UInt8:=(List.range 4).foldl (λf i=>gj f (cJ a m i)) f
theorem qF {k:A2P}{m i:Nat}(a:1<=m):cJ k m i<8*m:=CT _ (by omega)
theorem Tx {k:A2P}{m:Nat}(b:1<=m): ∀(l:List Nat) (f:List UInt8),f.length=m->(l.foldl (λf i=>gj f (cJ k m i)) f).length=m/\ ∀x,SE (l.foldl (λf i=>gj f (cJ k m i)) f) x=(SE f x||l.any λi=>decide (x=cJ k m i))
 | [],f,a=>⟨a,λx=>by simp⟩
 |i::l,f,a=>by
  have c:cJ k m i / 8<f.length:=by have:=qF (k:=k) (i:=i) b;omega
  obtain⟨d,e⟩:=Tx (k:=k) b l (gj f (cJ k m i)) (by rw[APT,a]);refine⟨d,λx=>?_⟩;rw[I2,e,AQL c,List.any_cons,Bool.or_assoc]
theorem AM3 {k:A2P}{m:Nat}(a:1<=m){f:List UInt8}(b:f.length=m):(YM m f k).length=m:=(Tx a _ f b).1
theorem AOd {a:A2P}{m:Nat}(b:1<=m){f:List UInt8}(c:f.length=m){x:Nat}(d:SE f x=true):SE (YM m f a) x=true:=by unfold YM;rw[(Tx b _ f c).2,d];rfl
theorem ANJ {a:A2P}{m:Nat}(b:1<=m){f:List UInt8}(c:f.length=m){i:Nat}(d:i<4):SE (YM m f a) (cJ a m i)=true:=by unfold YM;rw[(Tx b _ f c).2,Cp];right;rw[Pc];exact⟨i,List.mem_range.2 d,by simp⟩
def Md(m:Nat):List UInt8:=List.replicate m 0
def jR(a:List A2P)(m:Nat):List UInt8:=a.foldl (YM m) (Md m)
def nN(f:List UInt8)(a:A2P):Bool:=(List.range 4).all λi=>SE f (cJ a f.length i)
def gO(f:List UInt8)(a:A2P):Bool:=decide (f≠ [])&&decide (f.length<=8192)&&nN f a
theorem Uk {m:Nat}(c:1<=m): ∀(a:List A2P) (f:List UInt8),f.length=m->(a.foldl (YM m) f).length=m/\(∀ x,SE f x=true->SE (a.foldl (YM m) f) x=true)/\ ∀k∈a,∀i,i<4->SE (a.foldl (YM m) f) (cJ k m i)=true
 | [],f,b=>⟨b,λx d=>d,λk j=>by cases j⟩
 |k::a,f,b=>by
  have l:=AM3 (k:=k) c b;obtain⟨n,g,o⟩:=Uk c a (YM m f k) l;refine⟨n,λx d=>g x (AOd c b d),λp e i h=>?_⟩;rcases List.mem_cons.1 e with rfl|e
  ·exact g _ (ANJ c b h)
  ·exact o p e i h
theorem AOF {b:List A2P}{m:Nat}(d:1<=m)(e:m<=8192){c:A2P}(f:c∈b):gO (jR b m) c=true:=by obtain⟨a,_,g⟩:=Uk d b (Md m) (by simp[Md]);have a:(jR b m).length=m:=a;unfold gO nN;rw[a,A3,A3,decide_eq_true_iff,decide_eq_true_iff,CI];refine⟨⟨λh=>?_,e⟩,λi j=>g c f i (List.mem_range.1 j)⟩;rw[h] at a;simp at a;omega
theorem AOs {a:List A2P}{m:Nat}(b:1<=m):(jR a m).length=m:=(Uk b a (Md m) (by simp[Md])).1
theorem ANK(v:J0)(a:Nat):(madeCells #[v] a).toList=List.replicate a v:=by
 apply List.ext_getElem
 ·simp[madeCells]
 ·intro i b c;simp[madeCells,Nat.mod_one]
theorem AIG {a:Type}{b:cz a}{c:a}{v:J0}(d:b.enc c= [v]): ∀n,(List.replicate n c).flatMap b.enc=List.replicate n v
 |0=>rfl
 |n+1=>by rw[List.replicate_succ,List.replicate_succ,AH,d,AIG d n];rfl
theorem vF {e:al}{P:Q1}{f:Type}{E:cz f}{x0:f}{v z:J0}{t T:Q7}{g:Nat}(p:P.underlying t=some (.slice T))(c:(P.info? T).map (λi=>(i.zero,i.size,i.bytes))=some (some z,1,g))
  (q:z.cells= #[v]) (h:E.w=1) (r:E.enc x0= [v]) {a:aa} {n:Nat} {j k:IntKind} (A:n*g<=140737488355328) (l:n<=maxLen) {K:Sl->aa->Prop}
  (u: ∀b,Own E T b ⟨some ⟨a.size,0,none⟩,n,n⟩ (List.replicate n x0)->Ext a b->b.size=a.size+1->K ⟨some ⟨a.size,0,none⟩,n,n⟩ b):
  BI e P (Instr.makeSlice t (.int j (n:Int)) (.int k (n:Int))) a λv b=> ∃s:Sl,v= .slice s.p s.len s.cap/\K s b:=by
 intro m;cases d:P.info? T with
 |none=>rw[d] at c;simp at c
 |some i=>
  rw[d] at c;simp only[HN,BY,Kx] at c;obtain⟨w,x,y⟩:=c;have hB:((i.bytes:Nat):Int)*((n:Nat):Int)<=281474976710656:=by rw[y,<-Int.natCast_mul,Dd];omega
  have o:=run_make (P:=P) (e.at a m) t T i z p d w j k (n:Int) (n:Int) (by omega) (GW _) hB (by simp only[maxLen] at l;omega);simp only[A6,x,Bk,q] at o;refine⟨_,a.push (.cells (madeCells #[v] n) T),m,o,⟨some ⟨a.size,0,none⟩,n,n⟩,rfl,u _ ⟨by simp,.inr ⟨a.size,madeCells #[v] n,rfl,by simp,A0 _,l,by simp[size_madeCells,h],?_⟩⟩ (Mod.push a _) (by simp)⟩;show(madeCells #[v] n).toList.take (n*E.w)=_;rw[ANK,h,Bk,AG (by simp),AIG r]
theorem vG {m:Nat}(a:m<=8192):J8 .u32 (J8 J9 ((8:Int)*((m:Nat):Int)))=((8*m:Nat):Int):=by rw[show(8:Int)*((m:Nat):Int)=((8*m:Nat):Int) by omega,Gz (by omega),wrap_u32,As (by omega)]
theorem ASB(a:A2P)(i:Nat):xK a i<4294967296:=CT _ (by decide)
theorem vH(a:A2P)(i:Nat):J8 .u32 (((xK a i:Nat):Int)+((nY a:Nat):Int))=((xK a (i+1):Nat):Int):=by rw[<- Int.natCast_add,wrap_u32];congr 1;unfold xK;rw[Nat.mod_add_mod,BW,Of,GB]
theorem vI(a:A2P):xK a 0=lV a:=by unfold xK;rw[HQ,Gk,As (wC a)]
theorem vJ(x m:Nat):((x:Nat):Int).tmod ((m:Nat):Int)=((x % m:Nat):Int):=(Int.ofNat_tmod x m).symm
theorem vK(x:Nat):((x:Nat):Int).tdiv (8:Int)=((x / 8:Nat):Int):=(Int.ofNat_tdiv x 8).symm
theorem vL(x:Nat):((x:Nat):Int).tmod (8:Int)=((x % 8:Nat):Int):=(Int.ofNat_tmod x 8).symm
theorem vM(x:Nat):min (((x % 8:Nat):Int).toNat) (IntKind.bits .u8)=x % 8:=by rw[A6];show min (x % 8) 8=_;omega
theorem APi {c a:Nat}(d:c<256):(GU .u8 (((c:Nat):Int).fdiv ((2:Int)^a)) (1:Int)==(0:Int))= !(c.testBit a):=by have e:c / 2^a<256:=RT (RW _ _) d;rw[QC,show(1:Int)=((1:Nat):Int) from rfl,wP e (by decide),Nat.and_one_is_mod,Nat.testBit_eq_decide_div_mod_eq];generalize c / 2^a=f;rcases Nat.mod_two_eq_zero_or_one f with b|b<;>rw[b]<;>rfl
theorem ARX {c a:Nat}(d:c<256)(e:a<8):dY .u8 ((c:Nat):Int) (J8 .u8 ((1:Int)*((2:Int)^a)))=((c ||| 2^a:Nat):Int):=by
 have b:2^a<256:=by have:2^a<2^8:=Nat.pow_lt_pow_right (by decide) e;simpa using this
 have f:(1:Int)*((2:Int)^a)=((2^a:Nat):Int):=by rw[Int.one_mul,Int.natCast_pow];rfl
 rw[f,wrap_u8,As b,wO d b]
end Go.Lf
namespace Go.Lf.G
open Go
theorem AMN {a:A2P}{i:Nat}(b:i<a.size): ∃c,a.data.toList[i]? =some c:=by
 have:i<a.data.toList.length:=by simpa using b
 exact⟨_,A2 this⟩
theorem rh {o:al}{d:aa}{key:A2P}{h:A2O}(r:key.size<=1099511627776)(p:h (.tuple #[.int .u32 (lV key:Int),.int .u32 (nY key:Int)]) d):AA o P Kb #[.string key] d h:=by
 refine AD4 ?_;unfold YN;refine Loop.rule (λm x j=> ∃i:Nat,x=(((Ti (key.data.toList.take i)).1:Int),((Ti (key.data.toList.take i)).2:Int),(i:Int),())/\j=d/\m=key.size-i/\i<=key.size) ?_ ⟨0,rfl,rfl,rfl,by omega⟩;rintro K m _ j ⟨i,rfl,e,rfl,s⟩ q;subst e;obtain⟨k,f⟩:=wB (key.data.toList.take i);refine ae.intro (λg=>?_) (λg=>?_)
 ·have a:i<key.size:=by simpa using g
  obtain⟨c,l⟩:=AMN a;have n:c.toNat<256:=c.toNat_lt;refine⟨⟨by dsimp only;omega,by dsimp only;omega⟩,⟨by dsimp only;omega,by dsimp only;omega⟩,?_⟩;dsimp only;rw[O7 l,PK k n,AST f n,Ab (by omega)];refine q (key.size-(i+1)) _ _ (by omega) ⟨i+1,?_,rfl,rfl,a⟩;rw[Ax,l,DM,wA]
 ·have a:i=key.size:=by simp at g;omega
  have e:key.data.toList.take i=key.data.toList:=AG (by simp[a]);dsimp only;rw[e] at k f ⊢;have:dY .u32 (((Ti key.data.toList).2:Nat):Int) (1:Int)=((nY key:Nat):Int):=AQ6 f (b:=1) (by decide);rw[this];exact p
theorem Wo {f:A2P}:bL f (⟨#[]⟩:A2P)=decide (bl f= []):=by
 rw[DH,CY];constructor
 ·intro a;have a:=of_decide_eq_true a;subst a;rfl
 ·intro a;have a:=of_decide_eq_true a;cases f with
  |mk b=>
   have:b= #[]:=by apply Array.toList_inj.1;exact a
   rw[this];rfl
theorem AQ4 {f:A2P}{i:Nat}{c:UInt8}(a:(bl f)[i]? =some c):f.data.toList[i]? =some c:=a
theorem xN {u:al}{l:aa}{f key:A2P}{q:A2O}(v:key.size<=1099511627776)(a:q (.bool (gO (bl f) key)) l):AA u P PG #[.string f,.string key] l q:=by
 refine AFm ?_;unfold Zz;refine ah.mk λK r=>?_
 have g:=BA f;refine ae.intro (λe=>?_) (λe=>?_)
 ·refine r _ _ (ae.yes rfl ?_);rw[Wo,decide_eq_true_iff] at e;rw[e] at a;exact a
 ·refine r _ _ ?_;rw[Wo,decide_eq_false_iff_not] at e;refine ae.intro (λn=>?_) (λn=>?_)
  ·have h: ¬(bl f).length<=8192:=by simp at n;omega
   have:gO (bl f) key=false:=by unfold gO;rw[decide_eq_false h,LI,Ft]
   rw[this] at a;exact a
  ·have h:f.size<=8192:=by simp at n;omega
   have w:1<=f.size:=by rw[<- g];exact List.length_pos_iff.2 e
   refine rh v ⟨_,_,rfl,?_⟩;refine Loop.rule (λm x s=> ∃i:Nat,x=(((xK key i:Nat):Int),(i:Int),())/\s=l/\m=4-i/\i<=4/\ ∀b,b<i->SE (bl f) (cJ key f.size b)=true) ?_ ⟨0,by rw[vI];rfl,rfl,rfl,by omega,λb o=>by omega⟩;rintro E m _ s ⟨i,rfl,y,rfl,F,t⟩ z;subst y;dsimp only;refine ae.intro (λp=>?_) (λp=>?_)
   ·have j:i<4:=by simp at p;omega
    have G:cJ key f.size i<8*f.size:=qF w;have H:=ASB key i;rw[vG h,vJ];have A:xK key i % (8*f.size)=cJ key f.size i:=rfl;rw[A,vK,vL,vM,wrap_u32,As (show cJ key f.size i / 8<4294967296 by omega)];have B:cJ key f.size i / 8<(bl f).length:=by rw[g];omega
    have k:(bl f)[cJ key f.size i / 8]? =some (bl f)[cJ key f.size i / 8]:=A2 B;obtain⟨c,k⟩: ∃c,(bl f)[cJ key f.size i / 8]? =some c:=⟨_,k⟩;rw[O7 (AQ4 k),APi c.toNat_lt];have C:SE (bl f) (cJ key f.size i)=c.toNat.testBit (cJ key f.size i % 8):=by unfold SE;rw[k];rfl
    refine⟨by omega,⟨by omega,by omega⟩,by omega,?_⟩;rw[<- C];refine ae.intro (λd=>?_) (λd=>?_)
    ·have d:SE (bl f) (cJ key f.size i)=false:=by simpa using d
     have:gO (bl f) key=false:=by
      unfold gO nN;rw[g];have:((List.range 4).all λi=>SE (bl f) (cJ key f.size i))=false:=by rw[List.all_eq_false];exact⟨i,List.mem_range.2 j,by simp[d]⟩
      simp[this]
     rw[this] at a;exact a
    ·have d:SE (bl f) (cJ key f.size i)=true:=by simpa using d
     rw[vH,Ab (by omega)];refine z (4-(i+1)) _ _ (by omega) ⟨i+1,rfl,rfl,rfl,j,λb o=>?_⟩;by_cases D:b=i
     ·subst D;exact d
     ·exact t b (by omega)
   ·have j:i=4:=by simp at p;omega
    have:gO (bl f) key=true:=by unfold gO nN;rw[g,A3,A3,decide_eq_true_iff,decide_eq_true_iff,CI];exact⟨⟨e,h⟩,λb o=>t b (by rw[j];exact List.mem_range.1 o)⟩
    rw[this] at a;exact a
theorem xO:(P.info? EG).map (λi=>(i.zero,i.size,i.bytes))=some (some (.int .u8 0),1,1):=by kernel_rfl
theorem Ui:P.underlying DN=some (.slice EG):=by kernel_rfl
theorem xP:P.underlying EG=some (.int .u8):=by kernel_rfl
theorem xQ:P.underlying Az=some .string:=by kernel_rfl
theorem APU {Q:al}{e:aa}{s:Sl}{ks:List A2P}{m:Nat}{G:A2O}(y:View IV e s ks)(R: ∀d∈ks,d.size<=1099511627776)(z:1<=m)(S:m<=8192)(ar:ks.length<=1099511627776)(g: ∀b,s.af=some b->b<e.size)
  (T: ∀H,Ext e H->G (.tuple #[.string (AX (jR ks m)),.int J9 0]) H):AA Q P NZ #[.slice s.p s.len s.cap,.int J9 (m:Int)] e G:=by
 refine ADv ?_;unfold X6;refine ah.mk λK U=>?_
 refine ae.no (by simp;omega) ?_;refine U _ _ (ae.no (by simp;omega) ?_);refine vF (E:=H7) (x0:=0) (v:= .int .u8 0) Ui xO rfl rfl rfl (by omega) (by simp only[maxLen];omega) λI J t au=>?_
 have V:List.replicate m (0:UInt8)=Md m:=rfl;rw[V] at J;dsimp only;refine Loop.rule (λk x n=> ∃i:Nat,x=((i:Int),())/\k=ks.length-i/\i<=ks.length/\Mod (λc=>c=e.size) I n/\Own H7 EG n ⟨some ⟨e.size,0,none⟩,m,m⟩ ((ks.take i).foldl (YM m) (Md m))) ?_ ⟨0,rfl,rfl,by omega,Mod.refl,J⟩;rintro av k _ n ⟨i,rfl,rfl,aw,u,o⟩ W;have X:View IV n s ks:=(y.ext t).mod u λb Y=>by have:=g b Y;omega
 dsimp only;refine ae.intro (λp=>?_) (λp=>?_)
 ·have q:i<ks.length:=by rw[y.len] at p;simp at p;omega
  have A:ks[i]? =some ks[i]:=A2 q;refine X.idx A λa ax h=>?_
  refine AJ.mk h.str ?_;refine rh (R _ (AW q)) ⟨_,_,rfl,?_⟩;have L:ks.take (i+1)=ks.take i++ [ks[i]]:=by rw[Ax,A];rfl
  generalize ks[i]=d at A L;have M:((ks.take i).foldl (YM m) (Md m)).length=m:=(Uk z (ks.take i) (Md m) (by simp[Md])).1;generalize Z:(ks.take i).foldl (YM m) (Md m)=w at o M;refine Loop.rule (λk x B=> ∃j:Nat,x=(((xK d j:Nat):Int),(j:Int),())/\k=4-j/\j<=4/\Mod (λc=>c=e.size) I B/\Own H7 EG B ⟨some ⟨e.size,0,none⟩,m,m⟩ ((List.range j).foldl (λf i=>gj f (cJ d m i)) w)) ?_ ⟨0,by rw[vI];rfl,rfl,by omega,u,o⟩;rintro ay k _ B ⟨j,rfl,rfl,az,N,r⟩ ab;dsimp only;refine ae.intro (λC=>?_) (λC=>?_)
  ·have D:j<4:=by simp at C;omega
   have aA:cJ d m j<8*m:=qF z;have ac:xK d j % (8*m)=cJ d m j:=rfl;rw[vG S,vJ,ac,vK,vL,vM,wrap_u32,As (show cJ d m j / 8<4294967296 by omega)];have ad:((List.range j).foldl (λf i=>gj f (cJ d m i)) w).length=m:=(Tx z _ w M).1;generalize af:(List.range j).foldl (λf i=>gj f (cJ d m i)) w=F at r ad;have ag:F[cJ d m j / 8]? =some F[cJ d m j / 8]:=A2 (by omega);obtain⟨c,h⟩: ∃c,F[cJ d m j / 8]? =some c:=⟨_,ag⟩;refine⟨by omega,?_⟩;refine r.view.idx h λaC aD ai=>?_
   rw[A6];refine AC.mk ai.byte ⟨by omega,?_⟩;refine r.view.idx h λO aj aE=>?_
   have ak:=ARX c.toNat_lt (show cJ d m j % 8<8 by omega);rw[ak];have am:=vt c.toNat_lt (show cJ d m j % 8<8 by omega);rw[vH,Ab (by omega),<-add_zero (O.add (cJ d m j / 8*1))];refine Own.store (E:=H7) (i:=cJ d m j / 8) (j:=0) (x:=c) (x':=Cq (c.toNat ||| 2^(cJ d m j % 8))) (v:= .int .u8 ((c.toNat ||| 2^(cJ d m j % 8):Nat):Int)) r h (by show [Value.int .u8 _]=_;rw[EA am];rfl) (by decide) (λaF an ao aG=>?_) O aj;refine ab (4-(j+1)) _ _ (by omega) ⟨j+1,rfl,rfl,D,N.trans (ao.ai λb _ g=>?_),?_⟩
   ·simp[Sl.af] at g;exact g.symm
   ·rw[Nx,I0,af,I2,N6];unfold gj;rw[h];exact an
  ·have D:j=4:=by simp at C;omega
   subst D;rw[Ab (by omega)];refine W (ks.length-(i+1)) _ _ (by omega) ⟨i+1,rfl,rfl,q,N,?_⟩;rw[L,I0,Z];exact r
 ·have q:i=ks.length:=by rw[y.len] at p;simp at p;omega
  have ap:ks.take i=ks:=by rw[q];simp
  rw[ap] at o;have aq:((ks.foldl (YM m) (Md m)))=jR ks m:=rfl;rw[aq] at o;refine LU Ui xP xQ (s:=⟨some ⟨e.size,0,none⟩,m,m⟩) (l:=jR ks m) o.view ⟨_,rfl,?_⟩;exact T n ⟨by have:=t.size;have:=u.size;omega,λb g _=>(u.get b (by have:=t.size;omega) (by omega)).trans (t.get b g (by simp))⟩
end Go.Lf.G
namespace Go.Lf
open Go
structure Kw (p:Pr):Prop where
 key:p.key.size≠0
 bI:p.key.size<=64
 cq:p.val.size<=8192
 gone:p.gone=true->p.val.size=0
def Ic(p:Pr):Nat:=if p.gone then 0 else p.val.size+1
def Ie(p:Pr):List UInt8:=BP (bl p.key)++(BX (Ic p)++bl p.val)
abbrev BK(l:List Pr):List UInt8:=l.flatMap Ie
theorem TP {s:A2P}(a:s.size=0):bl s= []:=CC (by rw[BA];exact a)
theorem vm {p:Pr}(a:Kw p)(t:List UInt8):FW ⟨Ie p++t,false⟩=(bl p.key,⟨BX (Ic p)++bl p.val++t,false⟩):=by
 have c:=a.bI;have b:Ie p++t=BP (bl p.key)++(BX (Ic p)++bl p.val++t):=by simp[Ie,A4]
 rw[b];exact JQ (by rw[BA];omega) _
theorem Ya {p:Pr}(a:Kw p):Ic p<=8193:=by have:=a.cq;unfold Ic;split<;>omega
theorem vo {p:Pr}(a:Kw p)(t:List UInt8):Bu 8193 ⟨BX (Ic p)++bl p.val++t,false⟩=(Ic p,⟨bl p.val++t,false⟩):=by rw[A4];have:=Ya a;exact Ci (by omega) this _
theorem vq {p:Pr}(a:Kw p)(t:List UInt8):KF (Ic p-1) ⟨bl p.val++t,false⟩=(bl p.val,⟨t,false⟩):=by
 have b:Ic p-1=(bl p.val).length:=by
  rw[BA];unfold Ic;split
  ·rename_i c;rw[a.gone c]
  ·omega
 rw[b];exact wK _ _
theorem Pt {p:Pr}(a:Kw p):1<=(Ie p).length/\(Ie p).length<=p.key.size+p.val.size+20:=by have b:=a.bI;have c:=a.cq;have d:=AV (n:=(bl p.key).length) (by rw[BA];omega);have e:=Ya a;have f:=AV (n:=Ic p) (by omega);have g:=a.key;have h:=BA p.key;have i:=BA p.val;simp only[Ie,BP,A1];omega
end Go.Lf
namespace Go.Lf.G
open Go
theorem Hy:Pi P AQ AR BZ.w 40=true:=by kernel_rfl
theorem AQO {e:al}{a:aa}{b:Nat}{c:Rd}{d:A2O}(f:Ir a b c)(g:d (J3 c.bad) a):AA e P KS #[Ap b] a d:=by refine Vy ?_;unfold PO;refine ae.no rfl (aE ?_);exact Aa.mk (AB f rfl) g
theorem Um {A:al}{h:aa}{s:A2P}{R:A2O}(b:s.size<=1099511627776)(c: ∀a,Ext h a->R (J7 (AX (BP (bl s)))) a):AA A P Bz #[J7 s] h R:=by have:=Qa (A:=A) (h:=h) (l:=bl s) (R:=R) (by rw[BA];exact b) c;rwa [EE] at this
theorem xR {a:Nat}(b:a<=1099511627776):J8 .u64 ((J8 .u64 (a:Int))+(1:Int))=((a+1:Nat):Int):=by rw[Bv (by omega),show((a:Int)+1)=((a+1:Nat):Int) by omega,Bv (by omega)]
theorem Zf {s:A2P}(a:s.size=0):s=⟨#[]⟩:=by have:=EE s;rw[<- this,show s.data.toList= [] from TP a];rfl
theorem Ai {a c:aa}{b:Nat}{d:Array J0}{T:Q7}(x:Ext a c)(e:a[b]? =some (J2 d T (0,0))):c[b]? =some (J2 d T (0,0)):=x.af e (λa=>a)
theorem ANl {l:al}{e:aa}{x:Pr}{f:A2O}(h:Kw x)(m: ∀o,Ext e o->f (J7 (AX (Ie x))) o):AA l P NS #[x.agg] e f:=by
 obtain⟨a,v,g⟩:=x;have r:=h.bI;have s:=h.cq;have p:=h.gone;dsimp only at r s p;show AA l P NS #[.agg #[J7 a,J7 v,J3 g]] e f;refine ADs ?_;unfold Wu;refine ak.mk λz _ b q A=>?_
 refine Aa.mk (AB b rfl) ?_;have B:=AV (n:=(bl a).length) (by rw[BA];omega);have C:=BA a;have D:=BA v;refine ae.intro (λi=>?_) (λi=>?_)
 ·subst i;refine AJ.mk (AL b rfl) ?_;refine Um (by omega) λt c=>⟨_,rfl,?_⟩
  refine CR (n:=0) (by omega) λu d=>⟨_,rfl,?_⟩
  have w:=AV (n:=0) (by omega);refine⟨by rw[AP,AP,max_i64];simp only[BP,A1];omega,?_⟩;rw[Ak];have j:Ie ⟨a,v,true⟩=BP (bl a)++BX 0:=by unfold Ie Ic;rw[TP (p rfl)];simp
  rw[<- j];exact m _ ((q.trans c).trans d)
 ·subst i;refine AJ.mk (AL b rfl) ?_;refine Um (by omega) λt c=>⟨_,rfl,?_⟩
  have k:=Ai c b;refine AJ.mk (AB k rfl) ⟨AB b rfl,?_⟩;rw[xR (by omega)];refine CR (by omega) λu d=>⟨_,rfl,?_⟩
  have y:=Ai d k;have w:=AV (n:=v.size+1) (by omega);refine⟨by rw[AP,AP,max_i64];simp only[BP,A1];omega,?_⟩;refine AJ.mk (AB y rfl) ⟨AB k rfl,AB b rfl,?_,?_⟩
  ·rw[Ak,AP,max_i64];simp only[BP,A1];omega
  ·rw[Ak];have j:AX (BP (bl a)++BX (v.size+1))++v=AX (Ie ⟨a,v,false⟩):=by
    have:v=AX (bl v):=(EE v).symm
    conv=>lhs;arg 2;rw[this]
    rw[Ak];unfold Ie Ic;simp[A4]
   rw[j];exact m _ ((q.trans c).trans d)
theorem xS {s:A2P}(a:s.size≠0):bL s (⟨#[]⟩:A2P)=false:=by rw[Wo,decide_eq_false_iff_not];intro b;have:=BA s;rw[b] at this;exact a this.symm
theorem xT {a:Nat}(b:a<=100000):(if((J8 J9 (((a:Nat):Int)-(1:Int))):Int)>0 then(J8 J9 (((a:Nat):Int)-(1:Int))) else 0)=((a-1:Nat):Int):=by rw[wrap_i64 (by omega) (by omega)];split<;>omega
theorem Yb {l:List Pr}(a: ∀x∈l,Kw x):l.length<=(BK l).length:=by
 induction l with
 |nil=>simp
 |cons x l b=>
  have:=(Pt (a x AN)).1;have:=b λc d=>a c (An _ d)
  simp only[BK,AH,A1,A5] at this ⊢;omega
theorem ri {ag:al}{c:aa}{l:List Pr}{I:A2O}(J: ∀x∈l,Kw x)(aN:(BK l).length<1099511627776)
  (ai: ∀s z,Own BZ AR z s l->Ext c z->(∀ b,s.af=some b->c.size<=b)->I (J1 #[J4 s.p s.len s.cap,J3 true]) z):AA ag P Jn #[J7 (AX (BK l))] c I:=by
 refine ACn ?_;unfold VU;refine KY λaO aj am=>⟨_,rfl,?_⟩
 have aP:=Yb J;refine Loop.rule (λm x f=> ∃(i:Nat) (s:Sl),x=(s,())/\m=l.length-i/\i<=l.length/\Ir f c.size ⟨BK (l.drop i),false⟩/\Ext c f/\Own BZ AR f s (l.take i)/\ ∀b,s.af=some b->c.size<=b) ?_ ⟨0,⟨none,0,0⟩,rfl,rfl,by omega,aj,am,Own.nil,λb a=>by simp[Sl.af] at a⟩;rintro K m _ f ⟨i,s,rfl,rfl,aQ,rd,t,p,A⟩ an;dsimp only;refine NM rd ⟨_,rfl,?_⟩;by_cases g:i<l.length
 ·have L:l[i]? =some l[i]:=A2 g;have M:l[i]∈l:=AW g;have hd:l.drop i=l[i]::l.drop (i+1):=FF g;have N:l.take (i+1)=l.take i++ [l[i]]:=by rw[Ax,L];rfl
  generalize l[i]=x at L M hd N;have h:=J x M;have O:BK (l.drop i)=Ie x++BK (l.drop (i+1)):=by rw[hd];rfl
  have Q:(Ie x++BK (l.drop (i+1))).length<1099511627776:=by
   have e:BK l=BK (l.take i)++BK (l.drop i):=by rw[<- GC,DP]
   have:=congrArg List.length e;rw[O,A1] at this;omega
  have aR:=Pt h;rw[O] at rd ⊢;refine ae.yes ?_ ?_
  ·unfold X8;have:(Ie x++BK (l.drop (i+1)))≠ []:=by intro e;have:=congrArg List.length e;simp only[A1,FG] at this;omega
   simp only[Pa,Ek,CA,List.isEmpty_eq_false_iff];exact this
  ·refine IP rd Q λd u B=>⟨_,rfl,?_⟩
   rw[vm h] at u ⊢;dsimp only at u ⊢;rw[EE];refine ak.mk λao _ ap R aS=>?_
   refine ab.mk ap (by simp) λaT aq S aU=>?_
   rw[Ba,Ba];refine ab.mk aq (by simp) λaV ar T aW=>?_
   refine ab.mk ar (by simp) λau av U aX=>?_
   have aY:c.size<d.size:=by have:=Af u;exact this
   have j:c.size≠d.size:=by omega
   have aw:Ir au c.size ⟨BX (Ic x)++bl x.val++BK (l.drop (i+1)),false⟩:=U.af (T.af (S.af (R.af u (λc=>c)) j) j) j;have ax:(BX (Ic x)++bl x.val++BK (l.drop (i+1))).length<=1099511627776:=by simp only[Ie,A1] at Q ⊢;omega
   refine DW (most:=8193) aw ax (by decide) λC v V=>⟨_,rfl,?_⟩
   rw[vo h] at v ⊢;dsimp only at v ⊢;have W:C[d.size]? =some (J2 #[J7 x.key,J7 ⟨#[]⟩,J3 false] AR (0,0)):=V.af (by simpa using av) (Ne.symm j);refine ah.mk λay az=>?_
   have aZ:=Ya h;have key: ∀q,Ir q c.size ⟨bl x.val++BK (l.drop (i+1)),false⟩->q[d.size]? =some (J2 #[J7 x.key,J7 ⟨#[]⟩,J3 x.gone] AR (0,0))->Mod (λb=>b=c.size\/b=d.size) d q->ay () q:=by
    intro q aA aC aD;refine az () q ?_;rw[xT (by omega)];refine qT aA λa0 D X=>⟨_,rfl,?_⟩
    rw[vq h] at D ⊢;dsimp only at D ⊢;rw[EE];have aE:=X.af aC (Ne.symm j);refine ab.mk aE (by simp) λr k Y a1=>?_
    have F:Ir r c.size ⟨BK (l.drop (i+1)),false⟩:=Y.af D j;have k:r[d.size]? =some (J2 #[J7 x.key,J7 x.val,J3 x.gone] AR (0,0)):=by simpa using k
    refine ah.mk λa2 aF=>?_
    refine AQO F ⟨_,rfl,?_⟩;refine ae.no rfl ?_;refine AJ.mk (AL k rfl) ?_;refine ae.no (xS h.key) ?_;refine AJ.mk (AL k rfl) ?_;have a3:=h.bI;refine aF _ _ (ae.no (by simp;omega) ?_);refine AJ.mk (AL k rfl) ?_;refine AJ.mk (AL k rfl) ?_;refine Aa.mk (AL k rfl) ?_;have w:Mod (λb=>b=c.size\/b=d.size) f r:=by
     have G:Mod (λb=>b=c.size\/b=d.size) f d:=B.ai λb _ a=> .inl a
     exact((G.trans aD).trans (X.ai λb _ a=> .inl a)).trans (Y.ai λb _ a=> .inr a)
    have Z: ∀b,s.af=some b-> ¬(b=c.size\/b=d.size):=by
     intro b a;have a4:=p.lt a;have aG:=B.size;rintro(rfl|rfl)
     ·exact p.ne rd (by decide) a
     ·omega
    refine ak.aY (E:=BZ) (x:=x) rfl Hy (p.mod w Z) ?_ ?_ λaH a5 ac H aI a6=>?_
    ·rw[AE];omega
    ·simp only[maxLen];rw[AE];omega
    ·rw[<- N] at ac;have y:Ext c r:=by refine⟨by have:=t.size;have:=w.size;omega,λb a _=>?_⟩;have aG:=B.size;have:=t.size;exact(w.get b (by omega) (by omega)).trans (t.get b a (λc=>c))
     refine an (l.length-(i+1)) _ _ (by omega) ⟨i+1,aH,rfl,rfl,g,?_,?_,ac,?_⟩
     ·refine H.af F λe=>?_
      have:Own BZ AR r s (l.take i):=p.mod w Z;exact this.ne F (by decide) e
     ·refine⟨by have:=y.size;have:=H.size;omega,λb a _=>?_⟩;have:=y.size;exact(H.get b (by omega) (λe=>by have:=A b e;omega)).trans (y.get b a (λc=>c))
     ·intro b a;rcases aI b a with e|e
      ·exact A b e
      ·have:=y.size;omega
   have ad:Mod (λb=>b=c.size\/b=d.size) d C:=by have G:Mod (λb=>b=c.size\/b=d.size) d ao:=R.mod;exact(((G.trans (S.ai λb _ a=> .inr a)).trans (T.ai λb _ a=> .inr a)).trans (U.ai λb _ a=> .inr a)).trans (V.ai λb _ a=> .inl a)
   refine ae.intro (λn=>?_) (λn=>?_)
   ·have o:x.gone=true:=by
     unfold Ic at n;split at n
     ·rename_i o;exact o
     ·simp at n;omega
    refine ab.mk W (by simp) λaJ aK af a7=>?_
    refine key aJ (af.af v j) (by rw[o];simpa using aK) (ad.trans (af.ai λb _ a=> .inr a))
   ·have o:x.gone=false:=by
     cases o:x.gone with
     |false=>rfl
     |true=>unfold Ic at n;rw[o] at n;simp at n
    exact key C v (by rw[o];exact W) ad
 ·have g:i=l.length:=by omega
  have aL:l.drop i= []:=by rw[g];simp
  have aM:l.take i=l:=by rw[g];simp
  rw[aL];rw[aM] at p;exact ae.no rfl (ai s f p t A)
def BM(a:Nat)(l:List Pr):List UInt8:=BX a++BX l.length++BK l
theorem LJ {l:List Pr}(b: ∀x∈l,Kw x):(BK l).length<=l.length*8276:=by
 induction l with
 |nil=>simp
 |cons x l c=>
  have a:=b x AN;have f:=(Pt a).2;have g:=a.bI;have h:=a.cq;have:=c λd e=>b d (An _ e)
  simp only[BK,AH,A1,A5] at this ⊢;omega
theorem AQV {l:List Pr}(a: ∀x∈l,Kw x)(i:Nat): ∀x∈l.take i,Kw x:=λx b=>a x (DQ b)
theorem AOJ {D:al}{f:aa}{s:Sl}{l:List Pr}{c:Nat}{t:A2O}(Z:c<=99999999)(ab:l.length<=64)(u: ∀x∈l,Kw x)(v:View BZ f s l)(ac: ∀b,s.af=some b->b<f.size)
  (E: ∀d,Ext f d->t (J7 (AX (BM c l))) d):AA D P Sj #[J6 J9 (c:Int),J4 s.p s.len s.cap] f t:=by
 refine AGN ?_;unfold tC;rw[Bv (by omega)];refine CR (by omega) λad F=>⟨_,rfl,?_⟩
 rw[v.len,Bv (by omega)];refine CR (by omega) λaf G=>⟨_,rfl,?_⟩
 have ag:=AV (n:=c) (by omega);have ai:=AV (n:=l.length) (by omega);refine⟨by rw[AP,AP,max_i64];omega,?_⟩;rw[Ak];refine Loop.rule (λm x o=> ∃i:Nat,x=(AX (BX c++BX l.length++BK (l.take i)),(i:Int),())/\m=l.length-i/\i<=l.length/\Ext f o) ?_ ⟨0,by simp,rfl,by omega,F.trans G⟩;rintro K m _ o ⟨i,rfl,rfl,aj,p⟩ H;dsimp only;refine ae.intro (λq=>?_) (λq=>?_)
 ·have e:i<l.length:=by simp at q;omega
  have r:l[i]? =some l[i]:=A2 e;have w:l.take (i+1)=l.take i++ [l[i]]:=by rw[Ax,r];rfl
  have h:=u _ (AW e);generalize l[i]=x at r w h;have am:=h.bI;have an:=h.cq;have I:=h.gone;have lt:=LJ (AQV u i);rw[AE] at lt;have ao:=AV (n:=(bl x.key).length) (by rw[BA];omega);have ap:=BA x.key;have aq:=BA x.val;refine ah.mk λJ L=>?_
  obtain⟨a,M,N⟩:=(v.ext p).cells i x r;refine bH.mk M e ?_;obtain⟨O,Q,R⟩:=N.pair;rw[A6];refine AJ.mk O (AJ.mk Q (Aa.mk R ?_));refine ak.pair λb ar au y S av=>?_
  refine AJ.mk (AL y rfl) ?_;refine Um (by omega) λT z=>⟨_,rfl,⟨by rw[AP,AP,max_i64];simp only[BP,A1];omega,?_⟩⟩
  have j:=Ai z y;refine Aa.mk (AB j rfl) ?_;rw[Ak];have A: ∀d,Ext T d->J (AX (BX c++BX l.length++BK (l.take (i+1))),()) d:=by intro d U;refine L _ _ ?_;dsimp only;rw[Ab (by omega)];exact H (l.length-(i+1)) _ _ (by omega) ⟨i+1,rfl,rfl,e,((p.trans S).trans z).trans U⟩
  have B:BK (l.take (i+1))=BK (l.take i)++Ie x:=by rw[w];simp[BK]
  refine ae.intro (λk=>?_) (λk=>?_)
  ·refine CR (n:=0) (by omega) λV W=>⟨_,rfl,?_⟩
   have X:=AV (n:=0) (by omega);refine⟨by rw[AP,AP,max_i64];simp only[BP,A1];omega,?_⟩;rw[Ak];have g:Ie x=BP (bl x.key)++BX 0:=by unfold Ie Ic;rw[k,TP (I k)];simp
   have:=A V W;rw[B,g] at this;simpa only[A4] using this
  ·refine AJ.mk (AB j rfl) ?_;rw[xR (by omega)];refine CR (by omega) λY C=>⟨_,rfl,?_⟩
   have X:=AV (n:=x.val.size+1) (by omega);refine AJ.mk (AB (Ai C j) rfl) ⟨AB j rfl,?_,?_,?_⟩
   ·rw[AP,max_i64];omega
   ·have aw:x.val=AX (bl x.val):=(EE _).symm;rw[Hn,AP,AP,max_i64];simp only[BP,A1];omega
   ·have g:AX (BX (x.val.size+1))++x.val=AX (BX (Ic x)++bl x.val):=by
     conv=>lhs;arg 2;rw[(EE x.val).symm]
     rw[Ak];unfold Ic;rw[k];rfl
    rw[g,Ak];have:=A Y C;rw[B] at this;unfold Ie at this;simpa only[A4] using this
 ·have e:i=l.length:=by simp at q;omega
  have g:l.take i=l:=by rw[e];simp
  rw[g];exact E o p
theorem AJO {ah:al}{c:aa}{l:List Pr}{o:Nat}{I:A2O}(aM:o<=99999999)(aN:l.length<=64)(J: ∀x∈l,Kw x)
  (ai: ∀s y,Own BZ AR y s l->Ext c y->(∀ b,s.af=some b->c.size<=b)->I (J1 #[J6 J9 (o:Int),J4 s.p s.len s.cap,J3 true]) y):AA ah P Pf #[J7 (AX (BM o l))] c I:=by
 refine ADi ?_;unfold Vn;have aO:=AV (n:=o) (by omega);have aP:=AV (n:=l.length) (by omega);have aQ:=LJ J;refine KY λaR L z=>⟨_,rfl,?_⟩
 have A:BM o l=BX o++(BX l.length++BK l):=by simp[BM,A4]
 rw[A] at L;refine DW (most:=99999999) L (by simp only[A1];omega) (by decide) λd e g=>⟨_,rfl,?_⟩
 rw[Ci (by omega) (by omega)] at e ⊢;dsimp only at e ⊢;refine DW (most:=64) e (by simp only[A1];omega) (by decide) λaj B M=>⟨_,rfl,?_⟩
 rw[Ci (by omega) (by omega)] at B ⊢;dsimp only at B ⊢;have am:Ext c aj:=by refine⟨by have:=z.size;have:=g.size;have:=M.size;omega,λb a _=>?_⟩;have:=z.size;have:=g.size;exact((M.get b (by omega) (by omega)).trans (g.get b (by omega) (by omega))).trans (z.get b a (λc=>c))
 refine Loop.rule (λm x h=> ∃(i:Nat) (s:Sl),x=(s,(i:Int),())/\m=l.length-i/\i<=l.length/\Ir h c.size ⟨BK (l.drop i),false⟩/\Ext c h/\Own BZ AR h s (l.take i)/\ ∀b,s.af=some b->c.size<=b) ?_ ⟨0,⟨none,0,0⟩,rfl,rfl,by omega,B,am,Own.nil,λb a=>by simp[Sl.af] at a⟩;rintro K m _ h ⟨i,s,rfl,rfl,aS,rd,t,p,C⟩ an;dsimp only;refine ae.intro (λD=>?_) (λD=>?_)
 ·have j:i<l.length:=by simp at D;omega
  have N:l[i]? =some l[i]:=A2 j;have O:l[i]∈l:=AW j;have hd:l.drop i=l[i]::l.drop (i+1):=FF j;have Q:l.take (i+1)=l.take i++ [l[i]]:=by rw[Ax,N];rfl
  generalize l[i]=x at N O hd Q;have u:=J x O;have R:BK (l.drop i)=Ie x++BK (l.drop (i+1)):=by rw[hd];rfl
  have S:(Ie x++BK (l.drop (i+1))).length<1099511627776:=by
   have f:BK l=BK (l.take i)++BK (l.drop i):=by rw[<- GC,DP]
   have:=congrArg List.length f;rw[R,A1] at this;omega
  rw[R] at rd;refine IP rd S λd e g=>⟨_,rfl,?_⟩
  rw[vm u] at e ⊢;dsimp only at e ⊢;rw[EE];refine ak.mk λao _ ap T aT=>?_
  refine ab.mk ap (by simp) λaU aq U aV=>?_
  rw[Ba,Ba];refine ab.mk aq (by simp) λaW ar V aX=>?_
  refine ab.mk ar (by simp) λau av W aY=>?_
  have aZ:c.size<d.size:=by have:=Af e;exact this
  have k:c.size≠d.size:=by omega
  have aw:Ir au c.size ⟨BX (Ic x)++bl x.val++BK (l.drop (i+1)),false⟩:=W.af (V.af (U.af (T.af e (λc=>c)) k) k) k;have ax:(BX (Ic x)++bl x.val++BK (l.drop (i+1))).length<=1099511627776:=by simp only[Ie,A1] at S ⊢;omega
  refine DW (most:=8193) aw ax (by decide) λay F X=>⟨_,rfl,?_⟩
  rw[vo u] at F ⊢;dsimp only at F ⊢;have az:ay[d.size]? =some (J2 #[J7 x.key,J7 ⟨#[]⟩,J3 false] AR (0,0)):=X.af (by simpa using av) (Ne.symm k);have a0:=Ya u;have aA:(((Ic x:Nat):Int)==(0:Int))=x.gone:=by
   unfold Ic;cases x.gone
   ·simp;omega
   ·simp
  rw[aA];refine ab.mk az (by simp) λaC aD Y a1=>?_
  rw[xT (by omega)];have aE:Ir aC c.size ⟨bl x.val++BK (l.drop (i+1)),false⟩:=Y.af F k;refine qT aE λa2 G Z=>⟨_,rfl,?_⟩
  rw[vq u] at G ⊢;dsimp only at G ⊢;rw[EE];have aF:=Z.af aD (Ne.symm k);refine ab.mk aF (by simp) λq r ac a3=>?_
  have ad:Ir q c.size ⟨BK (l.drop (i+1)),false⟩:=ac.af G k;have r:q[d.size]? =some (J2 #[J7 x.key,J7 x.val,J3 x.gone] AR (0,0)):=by simpa using r
  refine AJ.mk (AL r rfl) ?_;refine AJ.mk (AL r rfl) ?_;refine Aa.mk (AL r rfl) ?_;have v:Mod (λb=>b=c.size\/b=d.size) h q:=by
   have aG:Mod (λb=>b=c.size\/b=d.size) h d:=g.ai λb _ a=> .inl a
   have aH:Mod (λb=>b=c.size\/b=d.size) d ao:=T.mod;exact((((((((aG.trans aH).trans (U.ai λb _ a=> .inr a)).trans (V.ai λb _ a=> .inr a)).trans (W.ai λb _ a=> .inr a)).trans (X.ai λb _ a=> .inl a)).trans (Y.ai λb _ a=> .inr a)).trans (Z.ai λb _ a=> .inl a))).trans (ac.ai λb _ a=> .inr a)
  have af: ∀b,s.af=some b-> ¬(b=c.size\/b=d.size):=by
   intro b a;have a4:=p.lt a;have aI:=g.size;rintro(rfl|rfl)
   ·exact p.ne rd (by decide) a
   ·omega
  refine ak.aY (E:=BZ) (x:=x) rfl Hy (p.mod v af) ?_ ?_ λaJ a5 ag H aK a6=>?_
  ·rw[AE];omega
  ·simp only[maxLen];rw[AE];omega
  ·rw[<- Q] at ag;have w:Ext c q:=by refine⟨by have:=t.size;have:=v.size;omega,λb a _=>?_⟩;have aI:=g.size;have:=t.size;exact(v.get b (by omega) (by omega)).trans (t.get b a (λc=>c))
   rw[Ab (by omega)];refine an (l.length-(i+1)) _ _ (by omega) ⟨i+1,aJ,rfl,rfl,j,?_,?_,ag,?_⟩
   ·refine H.af ad λf=>?_
    have:Own BZ AR q s (l.take i):=p.mod v af;exact this.ne ad (by decide) f
   ·refine⟨by have:=w.size;have:=H.size;omega,λb a _=>?_⟩;have:=w.size;exact(H.get b (by omega) (λf=>by have:=C b f;omega)).trans (w.get b a (λc=>c))
   ·intro b a;rcases aK b a with f|f
    ·exact C b f
    ·have:=w.size;omega
 ·have j:i=l.length:=by simp at D;omega
  have A:l.drop i= []:=by rw[j];simp
  have aL:l.take i=l:=by rw[j];simp
  rw[A] at rd;rw[aL] at p;refine NM rd ⟨_,rfl,?_⟩;exact ai s h p t C
end Go.Lf.G
namespace Go.Lf
open Go
def Bw(l:List Pr)(i:Nat):List Pr:=(l.drop (8*i)).take 8
def Bn(l:List Pr):Nat:=(l.length+7) / 8
def KP(l:List Pr):List (List Pr):=(List.range (Bn l)).map (Bw l)
def Ip(l:List Pr)(i:Nat):A2P:=match l[i]? with|some p=>p.key|none=>⟨#[]⟩
def CG(l:List Pr):List A2P:=(List.range (Bn l)).map λi=>Ip l (8*i)
def VB(l:List Pr)(f:List UInt8):List UInt8:=BX (Bn l)++((CG l).flatMap λa=>BP (bl a))++(BX l.length++BP f)
def aR(l:List Pr)(f:List UInt8):List (List UInt8):=(KP l).map BK++ [VB l f]
theorem QI {l:List Pr}{i:Nat}(a:i<Bn l):1<=(Bw l i).length/\(Bw l i).length<=8/\(i+1<Bn l->(Bw l i).length=8):=by
 unfold Bw Bn at*
 rw[AE,DG];omega
theorem Pq {l:List Pr}{i j:Nat}(a:j<8):(Bw l i)[j]? =l[8*i+j]? :=by unfold Bw;rw[Fo,if_pos a,Bs]
theorem vu {l:List Pr}: ∀i,l.take (8*i)++Bw l i=l.take (8*(i+1)):=λi=>by
 unfold Bw;rw[show 8*(i+1)=8*i+8 by omega,List.take_add]
theorem vv(l:List Pr): ∀n,((List.range n).map (Bw l)).flatten=l.take (8*n)
 |0=>by simp
 |n+1=>by rw[Nx,CH,NO,vv l n];simpa using vu n
theorem AMA(l:List Pr):(KP l).flatten=l:=by unfold KP;rw[vv,AG];unfold Bn;omega
theorem Gr(l:List Pr):(KP l).length=Bn l:=by simp[KP]
theorem HZ(l:List Pr):(CG l).length=Bn l:=by simp[CG]
theorem vx {l:List Pr}(a:l≠ []):1<=Bn l:=by have:=List.length_pos_iff.2 a;unfold Bn;omega
structure gP (s:List UInt8) (l:List Pr) (f:List UInt8):Prop where
 bytes:s=aI (aR l f)
 ne:l≠ []
 ok: ∀p∈l,Kw p
 inc:l.Pairwise λp q=>aO p.key q.key=true
 jm:1<=f.length/\f.length<=8192
 has: ∀p∈l,gO f p.key=true
 many:l.length<=100000
theorem Yb {l:List Pr}(a: ∀p∈l,Kw p):(BK l).length<=l.length*8276:=by
 induction l with
 |nil=>simp
 |cons p l b=>
  have f:=(Pt (a p (by simp))).2;have c:=b λd e=>a d (An _ e)
  have g:=(a p (by simp)).bI;have h:=(a p (by simp)).cq;simp only[BK,AH,A1,A5] at c ⊢;omega
theorem PN {l:List Pr}{i:Nat}{p:Pr}(a:p∈Bw l i):p∈l:=HW (DQ a)
theorem XZ {s:List UInt8}{l:List Pr}{f:List UInt8}(T:gP s l f):(VB l f).length<=1048576:=by
 have r:=T.many;have t:=T.jm.2;have u:=AV (n:=Bn l) (by unfold Bn;omega);have v:=AV (n:=l.length) (by omega);have w:=AV (n:=f.length) (by omega);have c: ∀a∈CG l,a.size<=64:=λa c=>by
  obtain⟨i,_,rfl⟩:=List.mem_map.1 c;unfold Ip;split
  ·rename_i p e;exact(T.ok p (AK e)).bI
  ·exact AD _
 have g: ∀b:List A2P,(∀ a∈b,a.size<=64)->(b.flatMap λa=>BP (bl a)).length<=b.length*65:=by
  intro b
  induction b with
  |nil=>intro _;simp
  |cons a b h=>
   intro d;have j:=h λx k=>d x (An _ k)
   have y:=d a (by simp);have m:(BX a.size).length=1:=by rw[Fg (by omega)];rfl
   have o:(BP (bl a)).length=1+a.size:=by simp only[BP,A1,BA,m]
   simp only[AH,A1,A5,o] at j ⊢;omega
 have q:=g (CG l) c;rw[HZ] at q;have z:Bn l<=12501:=by unfold Bn;omega
 have A:(BP f).length=(BX f.length).length+f.length:=by simp[BP]
 simp only[VB,A1];omega
theorem NK {s:List UInt8}{l:List Pr}{f:List UInt8}(T:gP s l f): ∀c∈aR l f,c.length<=1048576:=λc a=>by
 rcases List.mem_append.1 a with a|a
 ·obtain⟨b,d,rfl⟩:=List.mem_map.1 a;obtain⟨i,e,rfl⟩:=List.mem_map.1 d;have j:=Yb (l:=Bw l i) λp g=>T.ok p (PN g)
  have h:=(QI (List.mem_range.1 e)).2.1;have:(Bw l i).length*8276<=8*8276:=AS _ h;omega
 ·rw[List.mem_singleton.1 a];exact XZ T
def vz(s:Sl):J0:=J4 s.p s.len s.cap
def qG(x:Sl):iB [.one .sl]:=(x,())
def vN(j:al)(P:Q1)(fv:J0)(m:Nat->Prop)(n:aa)(l:List Sl):Prop:=
 ∃f e,fv= .func (.func f) #[] e/\(∀ a,(callFunc f (#[]++ #[a]++e)).calc P=some (.enter f (#[]++ #[a]++e)))/\
  ∀(k:aa) (a:J0) (c:Nat->Bool->aa->Prop),LP a=true->(∀ i g d,c i g d-> ∀b,m b->d[b]? =n[b]?)->
   (∀ i x d,l[i]? =some x->c i true d->Du j P a #[vz x] d λv h=> ∃g,v=J3 g/\c (i+1) g h)->c 0 true k->
   AA j P f (#[]++ #[a]++e) k λv h=>v=J1 #[]/\ ∃i g,c i g h/\(g=true->i=l.length)/\i<=l.length
theorem ARz {o:al}{P:Q1}{fv:J0}{p:Nat->Prop}{q c:aa}{l:List Sl}(z:vN o P fv p q l)
  (Inv:Nat->aa->Prop) {body:iB [.one .sl]->Nat->aa->(aa->Prop)->(Option Nat->aa->Prop)->Prop} {r:aa->Prop} {A:Option Nat->aa->Prop}
  (B: ∀i a,Inv i a-> ∀b,p b->a[b]? =q[b]?)
  (s: ∀i a C,Inv i a->a[c.size]? =some (.deferred (some []))->(∃ D,a[c.size+1]? =some (.loop D))->Inv i (a.setIfInBounds (c.size+1) (.loop C)))
  (E: ∀rec,Inv 0 ((c.push (.deferred (some []))).push (.loop rec)))
  (round: ∀i x a rec t F,l[i]? =some x->Inv i a->a[c.size]? =some (.deferred (some []))->a[c.size+1]? =some (.loop rec)->rec.state= .ready->
   (∀ d,Inv (i+1) d->d[c.size]? =some (.deferred (some []))->d[c.size+1]? =some (.loop {rec with state:= .busy})->t d)->body (qG x) (c.size+1) a t F)
  (G: ∀d,Inv l.length d->d[c.size]? =some (.deferred (some []))->r d):WM o P fv [.one .sl] body c r A:=by
 intro rec h k S H;obtain⟨f,u,rfl,I,J⟩:=z;refine⟨f,_,?_,AA.mono (J ((c.push (.deferred (some []))).push (.loop rec)) (.func (.yield (c.size+1)) #[] #[])
  (λi g a=>Inv i a/\g=true/\a[c.size]? =some (.deferred (some []))/\a[c.size+1]? =some (.loop rec)) rfl (λi g a K=>B i a K.1) ?_ ?_) ?_⟩
 ·have L:(do let w <-Deferred.ofValue (.func (.func f) #[] u) #[.func (.yield (c.size+1)) #[] #[]];invoke w.target w.args:Sem Next).calc P=(callFunc f (#[]++ #[.func (.yield (c.size+1)) #[] #[]]++u)).calc P:=rfl;unfold Ro;rw[L,I]
 ·rintro i x a M ⟨m,_,j,e⟩;refine H (qG x) a _ e (round i x a rec _ _ M m j e h ?_);intro d N y n;have O:c.size+1<d.size:=Af n;refine⟨_,n,true,rfl,s _ _ _ N y ⟨_,n⟩,rfl,?_,?_⟩
  ·rw[E0 (by omega)];exact y
  ·rw[CQ O];cases rec;simp at h k;simp[h,k]
 ·refine⟨E rec,rfl,?_,?_⟩
  ·rw[R0 (by simp)];simp
  ·have Q:c.size+1=(c.push (.deferred (some []))).size:=by simp
   rw[Q];exact R1
 ·rintro v T ⟨_,i,g,⟨m,rfl,j,e⟩,R,U⟩;refine⟨rec,e,by simp[h],.inl ⟨k,G _ ?_ ?_⟩⟩
  ·have:=R rfl;subst this;exact s _ _ _ m j ⟨_,e⟩
  ·rw[E0 (by omega)];exact j
end Go.Lf
namespace Go.Lf.G
open Go
def U8(a:aa)(c:Nat):Prop:= ∃b d,a[c]? =some (J2 b EG d)
def fO(a:Nat)(c:aa)(b:Nat)(l:List UInt8):Prop:= ∀(d:al) (e:Nat),Lib.IsBuilderF EN EG a b (Lib.byteCells l) (d.at c e)
theorem xU {A:al}{n a b:Nat}{c:aa}{l:List UInt8}(d:Lib.IsBuilderF EN EG a b (Lib.byteCells l) (A.at c n)):fO a c b l:=λ_ _=>d
theorem VF {g:al}{a:aa}{j e b:Nat}{d:World}(hB:e<=a.size)(n:RowKit.Below e (g.at a j) d)(o:Lib.OthersKept EG (some b) (g.at a j) d):
  d=g.at d.heap d.drawn/\Mod (λc=>c=b\/(e<=c/\U8 a c)) a d.heap:=by
 obtain⟨f,k,l,p,q⟩:=n;refine⟨?_,⟨p,λc r m=>?_⟩⟩
 ·cases d;simp only[al.at] at f k l ⊢;subst f k l;rfl
 ·by_cases s:c<e
  ·exact q c s
  ·have h:a[c]? =some a[c]:=CD r;have f:=o c a[c] h (by intro i;exact m (.inl (BT i))) (λt u i=>m (.inr ⟨by omega,t,u,by rw[h,i]⟩));rw[f];exact h.symm
theorem fO.mod {a b:Nat}{e f:aa}{l:List UInt8}{h:Nat->Prop}(t:fO a e b l)(m:Mod h e f)(u: ¬h b)(w: ∀c,a<=c->U8 e c-> ¬h c):fO a f b l:=by
 intro i j;have n: ∀p,Lib.BuilderAtF EN EG a b p (Lib.byteCells l) (i.at e j)->Lib.BuilderAtF EN EG a b p (Lib.byteCells l) (i.at f j):=by
  rintro p ⟨d,v,x,⟨y,k⟩,z⟩;refine⟨d,v,m.af x u,⟨y,?_⟩,z⟩;rcases k with k|⟨g,A,o,q,B,r,s,rest⟩
  ·exact .inl k
  ·exact .inr ⟨g,A,o,q,B,r,m.af s (w g r ⟨o,q,s⟩),rest⟩
 rcases t i j with d|d
 ·exact .inl (n _ d)
 ·exact .inr (n _ d)
theorem fO.ext {c b:Nat}{a d:aa}{l:List UInt8}(e:fO c a b l)(m:Ext a d):fO c d b l:=e.mod m (λa=>a) (λ_ _ _ a=>a)
theorem APV {a b:Nat}{c:aa}(d:c[b]? =some (J2 #[J5 none,J4 none 0 0] EN (0,0)))(hB:a<=b):fO a c b []:=by intro e f;exact .inl ⟨hB,_,d,⟨rfl,.inl ⟨rfl,rfl⟩⟩,by simp[Value.ownBlock]⟩
theorem UB {A:al}{a:aa}{d b:Nat}{l:List UInt8}{s:A2P}{g:A2O}(j:fO d a b l)(hB:d<=a.size)(q:l.length+s.size<=1099511627776)
  (k: ∀e,fO d e b (l++bl s)->Mod (λc=>c=b\/(d<=c/\U8 a c)) a e->g (J1 #[J6 J9 s.size,.nilIface]) e):AA A P Dh #[Ap b,J7 s] a g:=by
 intro n;refine Calls.mono (Proofs.Any.Builder_WriteString_k Proofs.Tryz.ir Proofs.Tryz.dJ d b (Lib.byteCells l) s (A.at a n) (j A n) (by rw[Lib.byteCells_length];omega) hB) ?_;rintro r f ⟨rfl,h,o,p⟩;obtain⟨i,m⟩:=VF hB o p;refine⟨_,rfl,f.heap,f.drawn,i,k _ ?_ m⟩;rw[Lib.strCells_eq,<-Lib.byteCells_append,i] at h;exact xU (A:=A) (n:=f.drawn) (.inr h)
theorem AI3 {A:al}{a:aa}{d b:Nat}{l:List UInt8}{g:A2O}(j:fO d a b l)(hB:d<=a.size)
  (k: ∀e,fO d e b l->Mod (λc=>c=b\/(d<=c/\U8 a c)) a e->g (J7 (AX l)) e):AA A P GN #[Ap b] a g:=by
 intro n;refine Calls.mono (Proofs.Any.Builder_String_any_k Proofs.Tryz.iu Proofs.Tryz.dJ d b l (A.at a n) (j A n) hB) ?_;rintro q f ⟨rfl,h,o,p⟩;obtain⟨i,m⟩:=VF hB o p;refine⟨_,rfl,f.heap,f.drawn,i,k _ ?_ m⟩;rw[i] at h;exact xU (A:=A) (n:=f.drawn) h
def PX(s:Sl)(i:Nat):Sl:=⟨A7 s.p (min (8*i+8) s.len) (8*i) 3,min (8*i+8) s.len-8*i,min (8*i+8) s.len-8*i⟩
def chunks(s:Sl):List Sl:=(List.range ((s.len+7) / 8)).map (PX s)
theorem Ql(s:Sl):(chunks s).length=(s.len+7) / 8:=by simp[chunks]
theorem xV {s:Sl}{i:Nat}(a:i<(s.len+7) / 8):(chunks s)[i]? =some (PX s i):=by simp[chunks,a]
theorem View.chunk {d:aa}{s:Sl}{l:List Pr}(v:View BZ d s l){i:Nat}(e:i<Bn l):View BZ d (PX s i) (Bw l i):=by
 have f:=v.len;unfold Bn at e;refine⟨?_,A0 _,λb x c=>?_⟩
 ·show min (8*i+8) s.len-8*i=(Bw l i).length;unfold Bw;rw[AE,DG,f];omega
 ·have g:b<8:=by have:=(List.getElem?_eq_some_iff.1 c).1;unfold Bw at this;rw[AE] at this;omega
  rw[Pq g] at c;obtain⟨a,h,j⟩:=v.cells _ _ c;have m:=(List.getElem?_eq_some_iff.1 c).1;refine⟨a.add (8*i*3),?_,?_⟩
  ·unfold PX A7;simp only[h];rw[if_neg (by omega)];rfl
  ·rw[add_add];have k:8*i*3+b*BZ.w=(8*i+b)*BZ.w:=by show 8*i*3+b*3=(8*i+b)*3;omega
   rw[k];exact j
theorem AMk {a i:Nat}(b:a<=1099511627776)(c:8*i<a):J8 J9 (((8*i:Nat):Int)+(if((((a-((8*i:Nat):Int).toNat):Nat):Int):Int)<(8:Int) then(((a-((8*i:Nat):Int).toNat):Nat):Int) else(8:Int)))=((min (8*i+8) a:Nat):Int):=by
 rw[A6];split
 ·rw[wrap_i64 (by omega) (by omega)];omega
 ·rw[wrap_i64 (by omega) (by omega)];omega
abbrev AOm:Q8:=DI
theorem AOI {n:al}{a:aa}{s:Sl}{o:A2O}(p:s.len<=s.cap)(w:s.len<=1099511627776)
  (y: ∀fv b,Ext a b->b.size=a.size+2->b[a.size]? =some (J2 #[J4 s.p s.len s.cap] AQ (0,0))->b[a.size+1]? =some (J2 #[J6 J9 8] Bb (0,0))->
   vN n P fv (λc=>c=a.size\/c=a.size+1) b (chunks s)->o fv b):AA n P DX #[J4 s.p s.len s.cap,J6 J9 8] a o:=by
 refine JF ?_;unfold FJ;refine ak.mk λJ _ z A B=>?_
 refine ak.mk λC _ d q L=>?_
 refine ah.mk λK h=>?_
 refine AC.mk (AL d rfl) ?_;refine ae.no rfl (h _ _ ?_);have r:=Ai q z;rw[B] at d ⊢;refine y _ C (A.trans q) (by omega) r d ⟨AOm,#[Ap a.size,Ap (a.size+1)],rfl,λD=>by kernel_rfl,?_⟩;intro M D E N j F G;refine IW ?_;unfold Ei;refine Loop.rule (λm x e=> ∃i:Nat,x=(((8*i:Nat):Int),())/\m=(s.len+7) / 8-i/\i<=(s.len+7) / 8/\E i true e) ?_ ⟨0,rfl,rfl,by omega,G⟩;rintro K m _ e ⟨i,rfl,rfl,O,f⟩ h;have hA:e[a.size]? =some (J2 #[J4 s.p s.len s.cap] AQ (0,0)):=(j _ _ _ f _ (.inl rfl)).trans r;have hB:e[a.size+1]? =some (J2 #[J6 J9 8] Bb (0,0)):=(j _ _ _ f _ (.inr rfl)).trans d;refine aE (AY.mk (AL hA rfl) ?_);dsimp only;refine ae.intro (λk=>?_) (λk=>?_)
 ·have t:8*i<s.len:=by simp at k;omega
  refine aE (AC.mk (AL hB rfl) ?_);refine aE (AY.mk (AL hA rfl) ⟨by omega,?_⟩);refine aE (AY.mk (AL hA rfl) ?_);rw[AMk w t,A6,A6];refine⟨by omega,by omega,by omega,?_⟩;have p:=xV (s:=s) (i:=i) (by omega);have u:=F i _ e p f;simp only[vz,PX] at u;refine Du.mono u ?_;rintro v b ⟨g,rfl,l⟩;refine⟨g,rfl,?_⟩;cases g with
  |false=>exact ae.yes rfl ⟨rfl,i+1,false,l,(λa=>by cases a),by rw[Ql];omega⟩
  |true=>
   refine ae.no rfl (aE ?_);have H:b[a.size+1]? =some (J2 #[J6 J9 8] Bb (0,0)):=(j _ _ _ l _ (.inr rfl)).trans d;refine AC.mk (AL H rfl) ?_;have I:J8 J9 (((8*i:Nat):Int)+(8:Int))=((8*(i+1):Nat):Int):=by rw[wrap_i64 (by omega) (by omega)];omega
   rw[I];exact h ((s.len+7) / 8-(i+1)) _ _ (by omega) ⟨i+1,rfl,rfl,by omega,l⟩
 ·have t:s.len<=8*i:=by simp at k;omega
  have:i=(s.len+7) / 8:=by omega
  exact⟨rfl,i,true,f,λ_=>by rw[Ql];exact this,by rw[Ql];omega⟩
theorem rj:Pi P CB Az IV.w 16=true:=by kernel_rfl
structure BS (h1:aa) (B:Nat) (E:Nat->Obj->Prop) (out:List UInt8) (kl:List A2P) (ix:List UInt8) (n:Nat) (hh:aa):Prop where
 gz:fO B hh B out
 keys: ∃ks:Sl,hh[B+1]? =some (J2 #[J4 ks.p ks.len ks.cap] CB (0,0))/\Own IV Az hh ks kl/\ ∀c,ks.af=some c->B+3<c
 ix:hh[B+2]? =some (J2 #[J7 (AX ix)] Az (0,0))
 cp:hh[B+3]? =some (J2 #[J6 J9 (n:Int)] Bb (0,0))
 fix: ∀c o,E c o->hh[c]? =some o
 dV:Mod (λc=>B<=c) h1 hh
structure jS (B:Nat) (E:Nat->Obj->Prop):Prop where
 u8: ∀c o,E c o-> ∀cs fz,o≠ J2 cs EG fz
 str: ∀c o,E c o-> ∀cs fz,o≠ J2 cs Az fz
 lt: ∀c o,E c o->B+3<c
theorem mh {d:aa}{c:Nat}{e:Obj}(g:d[c]? =some e)(h: ∀a b,e≠ J2 a EG b): ¬U8 d c:=by rintro⟨a,b,f⟩;rw[g] at f;exact h a b (BT f)
theorem ML {e:Array J0}{T b:Q7}{fr:Nat×Nat}(f:T≠b): ∀c d,(Obj.cells e T fr)≠ J2 c b d:=λc d a=>by injection a with _ a _;exact f a
theorem xW {a:aa}{b:Sl}{d:List A2P}(e:Own IV Az a b d){c:Nat}(f:U8 a c):b.af≠some c:=by obtain⟨h,i,g⟩:=f;exact e.ne g (by decide)
theorem BS.ext {a d e:aa}{f:Nat}{g:Nat->Obj->Prop}{out:List UInt8}{h:List A2P}{i:List UInt8}{j:Nat}(b:BS a f g out h i j d)(x:Ext d e):BS a f g out h i j e:=by obtain⟨k,l,m,n⟩:=b.keys;exact⟨b.gz.ext x,⟨k,Ai x l,m.ext x,n⟩,Ai x b.ix,Ai x b.cp,λc o p=>x.af (b.fix c o p) (λq=>q),b.dV.trans x.mod⟩
theorem BS.write {j g h:aa}{e:Nat}{i:Nat->Obj->Prop}{out k:List UInt8}{l:List A2P}{n:List UInt8}{o:Nat}(ok:jS e i)(b:BS j e i out l n o g)(r:fO e h e k)
  (m:Mod (λc=>c=e\/(e<=c/\U8 g c)) g h):BS j e i k l n o h:=by
 obtain⟨s,t,p,q⟩:=b.keys;have aW: ∀ {c:Nat} {f:Obj},g[c]? =some f->c≠e->(∀ u v,f≠ J2 u EG v)->h[c]? =some f:=λa w x=>m.af a (λd=>d.elim w (λd=>mh a x d.2))
 refine⟨r,⟨s,aW t (by omega) (ML (by decide)),p.mod m (λc a d=>?_),q⟩,aW b.ix (by omega) (ML (by decide)),aW b.cp (by omega) (ML (by decide)),λc f a=>aW (b.fix c f a) (by have:=ok.lt c f a;omega) (ok.u8 c f a),b.dV.trans (m.ai λc _ a=>by rcases a with d|d<;>omega)⟩;rcases d with d|d
 ·have:=q c a;omega
 ·exact xW p d.2 a
theorem BS.key {l h i:aa}{d:Nat}{j:Nat->Obj->Prop}{out:List UInt8}{n p:List A2P}{q:List UInt8}{r:Nat}(ok:jS d j)(b:BS l d j out n q r h){f jn:Sl}(v:h[d+1]? =some (J2 #[J4 f.p f.len f.cap] CB (0,0)))
  (s:Own IV Az h f n) (k: ∀c,f.af=some c->d+3<c) (m:Mod (λc=>f.af=some c\/c=d+1) h i) (w:i[d+1]? =some (J2 #[J4 jn.p jn.len jn.cap] CB (0,0)))
  (x:Own IV Az i jn p) (y: ∀c,jn.af=some c->d+3<c):BS l d j out p q r i:=by
 have hB: ∀c,f.af=some c\/c=d+1->d+1<=c:=λc e=>by
  rcases e with a|a
  ·have:=k c a;omega
  ·omega
 refine⟨b.gz.mod m (λa=>by have:=hB _ a;omega) (λc e t a=>?_),⟨jn,w,x,y⟩,m.af b.ix (λa=>?_),m.af b.cp (λa=>?_),λc o e=>m.af (b.fix c o e) (λa=>?_),b.dV.trans (m.ai λc _ e=>by have:=hB _ e;omega)⟩
 ·rcases a with a|a
  ·exact xW s t a
  ·subst a;exact mh v (ML (by decide)) t
 ·rcases a with a|a
  ·have:=k _ a;omega
  ·omega
 ·rcases a with a|a
  ·have:=k _ a;omega
  ·omega
 ·rcases a with a|a
  ·rcases s.row with⟨rfl,_⟩|⟨g,z,A,u,_⟩
   ·simp[Sl.af] at a
   ·simp[Sl.af,A] at a;subst a;rw[b.fix _ o e] at u;exact ok.str _ o e z (0,0) (BT u)
  ·have:=ok.lt c o e;omega
theorem BS.zE {h i e:aa}{d:Nat}{f:Nat->Obj->Prop}{out:List UInt8}{j:List A2P}{o oN:List UInt8}{k:Nat}(ok:jS d f)(b:BS h d f out j o k i)(m:Mod (λc=>c=d+2) i e)(p:e[d+2]? =some (J2 #[J7 (AX oN)] Az (0,0))):BS h d f out j oN k e:=by
 obtain⟨q,r,s,l⟩:=b.keys;exact⟨b.gz.mod m (λg=>by omega) (λc a t g=>by subst g;exact mh b.ix (ML (by decide)) t),⟨q,m.af r (by omega),s.mod m (λc a g=>by have:=l c a;omega),l⟩,p,m.af b.cp (by omega),
  λc n a=>m.af (b.fix c n a) (by have:=ok.lt c n a;omega),b.dV.trans (m.ai λc _ a=>by omega)⟩
theorem BS.oM {h i e:aa}{d:Nat}{f:Nat->Obj->Prop}{out:List UInt8}{j:List A2P}{k:List UInt8}{o n':Nat}(ok:jS d f)(b:BS h d f out j k o i)(m:Mod (λc=>c=d+3) i e)(p:e[d+3]? =some (J2 #[J6 J9 (n':Int)] Bb (0,0))):BS h d f out j k n' e:=by
 obtain⟨q,r,s,l⟩:=b.keys;exact⟨b.gz.mod m (λg=>by omega) (λc a t g=>by subst g;exact mh b.cp (ML (by decide)) t),⟨q,m.af r (by omega),s.mod m (λc a g=>by have:=l c a;omega),l⟩,m.af b.ix (by omega),p,
  λc n a=>m.af (b.fix c n a) (by have:=ok.lt c n a;omega),b.dV.trans (m.ai λc _ a=>by omega)⟩
theorem BS.lp {k h:aa}{i d:Nat}{j:Nat->Obj->Prop}{out:List UInt8}{l:List A2P}{n:List UInt8}{o:Nat}(b:BS k i j out l n o h)(hd:i+3<d)(s: ∀e,¬j d e){t:Go.Loop}(p:h[d]? =some (.loop t))(e:Go.Loop):BS k i j out l n o (h.setIfInBounds d (.loop e)):=by
 obtain⟨u,v,q,w⟩:=b.keys;have m:Mod (λc=>c=d) h (h.setIfInBounds d (.loop e)):=Mod.setObj rfl;refine⟨b.gz.mod m (λf=>by omega) (λc a x f=>by subst f;exact mh p (λ_ _ y=>by cases y) x),⟨u,m.af v (by omega),q.mod m (λc a f=>?_),w⟩,m.af b.ix (by omega),m.af b.cp (by omega),
  λc e a=>m.af (b.fix c e a) (λf=>by subst f;exact s _ a),b.dV.trans (m.ai λc _ a=>by omega)⟩
 subst f;rcases q.row with⟨rfl,_⟩|⟨g,A,z,r,_⟩
 ·simp[Sl.af] at a
 ·simp[Sl.af,z] at a;subst a;rw[p] at r;cases r
def Iq(l:List Pr):List A2P:=l.map (·.key)
def j6(l:List Pr):Nat:=min (l.length+8) 8192
def MR(l:List Pr):List UInt8:=jR (Iq l) (j6 l)
def JZ(l:List Pr):List UInt8:=aI (aR l (MR l))
def Gn(a:List A2P):List UInt8:=a.flatMap λb=>BP (bl b)
structure Gs (l:List Pr):Prop where
 ne:l≠ []
 ok: ∀p∈l,Kw p
 inc:l.Pairwise λp q=>aO p.key q.key=true
 many:l.length<=100000
theorem Gs.eE {l:List Pr}(T:Gs l):gP (JZ l) l (MR l):=by
 have a:1<=j6 l/\j6 l<=8192:=by unfold j6;omega
 refine⟨rfl,T.ne,T.ok,T.inc,?_,λp b=>AOF a.1 a.2 (No b),T.many⟩;unfold MR;rw[AOs a.1];exact a
theorem UQ: ∀ {rs:List (List UInt8)},(∀ r∈rs,r.length<=1048576)->(aI rs).length<=rs.length*1048590
 | [],_=>by simp
 |r::rs,a=>by
  have d:=(JK (a r AN)).2;have e:=a r AN;have b:=UQ (rs:=rs) λx c=>a x (An _ c)
  simp only[aI,AH,A1,A5] at b ⊢;omega
theorem QN: ∀ {ks:List A2P},(∀ k∈ks,k.size<=64)->(Gn ks).length<=ks.length*74
 | [],_=>by simp[Gn]
 |k::ks,a=>by
  have d:=a k AN;have e:=AV (n:=(bl k).length) (by rw[BA];omega);have b:=QN (ks:=ks) λx c=>a x (An _ c)
  have f:=BA k;simp only[Gn,AH,A1,A5,BP] at b ⊢;omega
theorem Oc {l:List Pr}(b: ∀p∈l,Kw p): ∀a∈CG l,a.size<=64:=λa c=>by
 obtain⟨i,_,rfl⟩:=List.mem_map.1 c;unfold Ip;split
 ·rename_i p d;exact(b p (AK d)).bI
 ·exact AD _
theorem QM {l:List Pr}(a: ∀p∈l,Kw p){i:Nat}(b:i<Bn l):(BK (Bw l i)).length<=8*8276:=by
 have e:=LJ (l:=Bw l i) λp c=>a p (PN c)
 have d:=(QI b).2.1;have:(Bw l i).length*8276<=8*8276:=AS _ d;omega
theorem xX {l:List Pr}(c: ∀p∈l,Kw p): ∀a∈(KP l).map BK,a.length<=1048576:=λa d=>by
 obtain⟨b,e,rfl⟩:=List.mem_map.1 d;obtain⟨i,f,rfl⟩:=List.mem_map.1 e;have:=QM c (List.mem_range.1 f);omega
theorem ANu {l:List Pr}{i:Nat}(a:i<Bn l):((KP l).map BK)[i]? =some (BK (Bw l i)):=by simp[KP,a]
theorem Qo {l:List Pr}{i:Nat}(a:i<Bn l):(CG l)[i]? =some (Ip l (8*i)):=by simp[CG,a]
theorem TQ {a:Type}{l:List a}{i:Nat}{x:a}(b:l[i]? =some x):l.take (i+1)=l.take i++ [x]:=by rw[Ax,b];rfl
theorem xY(a b:List Pr):Iq (a++b)=Iq a++Iq b:=by simp[Iq]
theorem xZ {l:List Pr}(b:l.Pairwise λp a=>aO p.key a.key=true){i:Nat}{p a:Pr}(c:l[i]? =some p)(d:l[i+1]? =some a):aO p.key a.key=true:=by obtain⟨e,rfl⟩:=List.getElem?_eq_some_iff.1 c;obtain⟨f,rfl⟩:=List.getElem?_eq_some_iff.1 d;exact List.pairwise_iff_getElem.1 b _ _ e f (by omega)
theorem AJ5(a:Nat)(b:a<=100000):(if(8192:Int)<(J8 J9 (((a:Nat):Int)+(8:Int))) then(8192:Int) else(J8 J9 (((a:Nat):Int)+(8:Int))))=((min (a+8) 8192:Nat):Int):=by rw[wrap_i64 (by omega) (by omega)];split<;>omega
theorem AN3 {bx:al}{e:aa}{s:Sl}{l:List Pr}{aY:A2O}(T:Gs l)(X:View BZ e s l)(au: ∀b,s.af=some b->b<e.size)
  (bz: ∀aZ,Ext e aZ->aY (J1 #[J7 (AX (JZ l)),J6 J9 0]) aZ):AA bx P PZ #[J4 s.p s.len s.cap] e aY:=by
 refine ABn ?_;unfold Vb;have cS:=List.length_pos_iff.2 T.ne;have cT:=T.many;refine ae.no (by rw[X.len];simp;exact T.ne) ?_;refine Loop.rule (λm x t=> ∃i:Nat,x=(⟨#[]⟩,0,(i:Int),())/\m=l.length-i/\i<=l.length/\Ext e t) ?_ ⟨0,rfl,rfl,by omega,Mod.refl⟩;rintro K m _ g ⟨i,rfl,rfl,cU,M⟩ a0;dsimp only;have av:=X.ext M;refine ae.intro (λw=>?_) (λw=>?_)
 ·have aw:i<l.length:=by rw[X.len] at w;simp at w;omega
  have y:l[i]? =some l[i]:=A2 aw;have z:=T.ok _ (AW aw);generalize l[i]=x at y z;have a1:=z.bI;have bA:=z.cq;refine av.idx y λa bB f=>?_
  obtain⟨ax,ay,az⟩:=f.pair;rw[A6];refine AJ.mk ax (AJ.mk ay (Aa.mk az ?_));refine ak.pair λb Y bC B a2 cV=>?_
  refine ah.mk λaA bE=>?_
  refine AJ.mk (AL B rfl) (ae.no (xS z.key) ?_);have a3:aA (false,()) Y:=by
   refine bE _ _ (ae.no rfl ?_);refine ah.mk λcW bF=>?_
   refine AJ.mk (AL B rfl) (ae.no (by simp;omega) ?_);refine AJ.mk (AB B rfl) ?_;refine bF _ _ (ae.no (by simp;omega) ?_);rw[Ab (by omega)];exact a0 (l.length-(i+1)) _ _ (by omega) ⟨i+1,rfl,rfl,aw,M.trans a2⟩
  have a4:ae (decide (((i:Nat):Int)>(0:Int))) (AJ Y (⟨b,0,none⟩:Q6) λa5=>
     bH s.p s.len (J8 J9 (((i:Nat):Int)-(1:Int))) λa6=>
     AJ Y (a6.add ((J8 J9 (((i:Nat):Int)-(1:Int))).toNat*3)) λa7=>
     aA ((aO a5 a7||bL a5 a7),()) Y) (aA (false,()) Y):=by
   refine ae.intro (λbG=>?_) (λ_=>a3);have cX:0<i:=by simp at bG;omega
   obtain⟨k,rfl⟩: ∃k,i=k+1:=⟨i-1,by omega⟩;have aC:J8 J9 (((k+1:Nat):Int)-(1:Int))=(k:Int):=by rw[wrap_i64 (by omega) (by omega)];omega
   have N:l[k]? =some l[k]:=A2 (by omega);refine AJ.mk (AL B rfl) ?_;rw[aC];refine(av.ext a2).idx N λa6 cY Z=>?_
   rw[A6];refine AJ.mk Z.pair.1 ?_;have aD:=xZ T.inc N y;have q:(aO x.key l[k].key||bL x.key l[k].key)=false:=by
    rw[Hk];refine⟨?_,?_⟩
    ·cases bI:aO x.key l[k].key with
     |false=>rfl
     |true=>have:=DJ aD bI;rw[Bo] at this;cases this
    ·rw[CY,decide_eq_false_iff_not];intro q;rw[q,Bo] at aD;cases aD
   rw[q];exact a3
  refine Aa.mk (AB B rfl) (ae.intro (λbJ=>?_) (λ_=>a4));refine AJ.mk (AB B rfl) (ae.no ?_ a4);rw[Wo,TP (z.gone bJ)];rfl
 ·clear a0;have aE:=X.len;refine ak.mk λbK _ bM bN bO=>?_
  refine ak.mk λbP _ a8 a9 cZ=>?_
  refine ak.mk λc0 _ ba aF c1=>?_
  refine ab.mk ba (by simp) λbb bc am c2=>?_
  refine ak.mk λc3 _ bd an c4=>?_
  refine ab.mk bd (by simp) λbe bf ac c5=>?_
  have bg:bK.size=g.size+1:=bO;have bh:bP.size=g.size+2:=by omega
  have bi:bb.size=g.size+3:=by omega
  have bQ:be.size=g.size+4:=by omega
  rw[bg] at a8;rw[bh] at ba am bc;rw[bi] at bd ac bf;rw[bg,bh,bi];refine AOI X.cap (by omega) λfv G O bR aG Z bj=>⟨_,rfl,?_⟩
  rw[bQ] at bR aG Z bj;generalize bS:g.size=o at*
  have bT: ∃E:Nat->Obj->Prop,E=λc h=>(c=o+4/\h=J2 #[J4 s.p s.len s.cap] AQ (0,0))\/(c=o+5/\h=J2 #[J6 J9 8] Bb (0,0)):=⟨_,rfl⟩
  obtain⟨E,ao⟩:=bT;have bU:Ext g G:=by refine⟨by have:=O.size;omega,λc f _=>?_⟩;rw[bS] at f;exact(O.get c (by omega) (λe=>e)).trans ((ac.get c (by omega) (by omega)).trans ((an.get c (by omega) (λe=>e)).trans ((am.get c (by omega) (by omega)).trans ((aF.get c (by omega) (λe=>e)).trans ((a9.get c (by omega) (λe=>e)).trans (bN.get c (by omega) (λe=>e)))))))
  have bV:G[o]? =some (J2 #[J5 none,J4 none 0 0] EN (0,0)):=
   O.af (ac.af (an.af (am.af (aF.af (a9.af bM (λe=>e)) (λe=>e)) (by omega)) (λe=>e)) (by omega)) (λe=>e)
  have bW:G[o+1]? =some (J2 #[J4 none 0 0] CB (0,0)):=
   O.af (ac.af (an.af (am.af (aF.af a8 (λe=>e)) (by omega)) (λe=>e)) (by omega)) (λe=>e)
  have bX:G[o+2]? =some (J2 #[J7 (AX [])] Az (0,0)):=by
   have bY:bb[o+2]? =some (J2 #[J7 (AX [])] Az (0,0)):=by rw[wS];simpa using bc
   exact O.af (ac.af (an.af bY (λe=>e)) (by omega)) (λe=>e)
  have bZ:G[o+3]? =some (J2 #[J6 J9 ((0:Nat):Int)] Bb (0,0)):=by
   have b0:be[o+3]? =some (J2 #[J6 J9 ((0:Nat):Int)] Bb (0,0)):=by simpa using bf
   exact O.af b0 (λe=>e)
  have bD:BS g o E [] [] [] 0 G:=by
   refine⟨APV bV (A0 _),⟨⟨none,0,0⟩,bW,Own.nil,λc f=>by simp[Sl.af] at f⟩,bX,bZ,λc h f=>?_,bU.mod⟩;subst ao;rcases f with⟨rfl,rfl⟩|⟨rfl,rfl⟩
   ·exact aG
   ·exact Z
  have Q:jS o E:=by
   subst ao;refine⟨λc h f C D=>?_,λc h f C D=>?_,λc h f=>?_⟩
   ·rcases f with⟨rfl,rfl⟩|⟨rfl,rfl⟩<;>exact ML (by decide) _ _
   ·rcases f with⟨rfl,rfl⟩|⟨rfl,rfl⟩<;>exact ML (by decide) _ _
   ·rcases f with⟨rfl,rfl⟩|⟨rfl,rfl⟩<;>omega
  have bk: ∀d h,o+6<=d-> ¬E d h:=by subst ao;rintro d h hd (⟨rfl,_⟩|⟨rfl,_⟩)<;>omega
  have b1:(chunks s).length=Bn l:=by rw[Ql,aE];rfl
  have c6:Bn l<=12501:=by unfold Bn;omega
  have ap:G.size=o+6:=by omega
  have b2: ∀b,s.af=some b->b<o:=λb b3=>by have:=au b b3;have:=M.size;omega
  refine ARz bj (λi t=>BS g o E (aI (((KP l).map BK).take i)) (Iq (l.take (8*i))) (Gn ((CG l).take i)) i t) ?_ ?_ ?_ ?_ ?_
  ·intro i t r c f;subst ao;rcases f with rfl|rfl
   ·exact(r.fix _ _ (.inl ⟨rfl,rfl⟩)).trans aG.symm
   ·exact(r.fix _ _ (.inr ⟨rfl,rfl⟩)).trans Z.symm
  ·rintro i t h r R ⟨c7,b4⟩;exact r.lp (by omega) (λh=>bk _ _ (by omega)) b4 h
  ·intro rec;exact bD.ext ((Mod.push G _).trans (Mod.push _ _))
  ·intro i x t rec c8 c9 y r R aq b5 b6;have S:i<Bn l:=by have:=(List.getElem?_eq_some_iff.1 y).1;omega
   have b7:x=PX s i:=by have:=xV (s:=s) (i:=i) (by rw[aE];exact S);rw[this] at y;exact(BT y).symm
   subst b7;rw[ap] at R aq ⊢;refine⟨rec,aq,b5,?_⟩;obtain⟨u,J⟩: ∃u:Nat->Obj->Prop,u=λc h=>E c h\/(c=o+6/\h= .deferred (some []))\/(c=o+6+1/\h= .loop {rec with state:= .busy}):=⟨_,rfl⟩
   have L:jS o u:=by
    subst J;refine⟨λc h f C D=>?_,λc h f C D=>?_,λc h f=>?_⟩
    ·rcases f with e|⟨rfl,rfl⟩|⟨rfl,rfl⟩
     ·exact Q.u8 c h e C D
     ·intro q;cases q
     ·intro q;cases q
    ·rcases f with e|⟨rfl,rfl⟩|⟨rfl,rfl⟩
     ·exact Q.str c h e C D
     ·intro q;cases q
     ·intro q;cases q
    ·rcases f with e|⟨rfl,rfl⟩|⟨rfl,rfl⟩
     ·exact Q.lt c h e
     ·omega
     ·omega
   have U:=r.lp (d:=o+6+1) (by omega) (λh=>bk _ _ (by omega)) aq {rec with state:= .busy};have aH:BS g o u (aI (((KP l).map BK).take i)) (Iq (l.take (8*i))) (Gn ((CG l).take i)) i (t.setIfInBounds (o+6+1) (.loop {rec with state:= .busy})):=by
    refine⟨U.gz,U.keys,U.ix,U.cp,λc h f=>?_,U.dV⟩;subst J;rcases f with e|⟨rfl,rfl⟩|⟨rfl,rfl⟩
    ·exact U.fix c h e
    ·rw[E0 (by omega)];exact R
    ·exact CQ (Af aq)
   generalize t.setIfInBounds (o+6+1) (.loop {rec with state:= .busy})=da at aH;have db:=QI S;have aJ: ∀p∈Bw l i,Kw p:=λp aK=>T.ok p (PN aK)
   have aL: ∀ {t:aa} {out:List UInt8} {b8:List A2P} {b9:List UInt8} {n:Nat},BS g o u out b8 b9 n t->View BZ t (PX s i) (Bw l i):=λb=>
    View.chunk (av.mod b.dV (λc f=>by have:=b2 c f;omega)) S
   have ca:(PX s i).len=(Bw l i).length:=(aL aH).len;have aM:=UQ (rs:=((KP l).map BK).take i) λcb cc=>xX T.ok cb (DQ cc)
   have aN:=QN (ks:=(CG l).take i) λk N=>Oc T.ok k (DQ N)
   rw[AE] at aM aN;have dc:=QM T.ok S;refine Loop.rule (λm x t=> ∃j:Nat,x=(AX (BK ((Bw l i).take j)),(j:Int),())/\m=(Bw l i).length-j/\j<=(Bw l i).length/\
    BS g o u (aI (((KP l).map BK).take i)) (Iq (l.take (8*i))++Iq ((Bw l i).take j)) (Gn ((CG l).take i)) i t) ?_ ⟨0,rfl,rfl,by omega,by simpa [Iq] using aH⟩
   rintro dd m _ de ⟨j,rfl,rfl,df,H⟩ cd;dsimp only[qG];refine ae.intro (λw=>?_) (λw=>?_)
   ·have ad:j<(Bw l i).length:=by have w:((j:Nat):Int)<(((PX s i).len:Nat):Int):=of_decide_eq_true w;omega
    have y:(Bw l i)[j]? =some (Bw l i)[j]:=A2 ad;have z:=aJ _ (AW ad);generalize (Bw l i)[j]=p at y z;have bm:=TQ y;refine(aL H).idx y λa bB f=>?_
    obtain⟨ax,ay,az⟩:=f.pair;rw[A6];refine AJ.mk ax (AJ.mk ay (Aa.mk az ?_));refine ak.pair λbn dg bC B ce dh=>?_
    have A:=H.ext ce;obtain⟨ks,af,ai,aj⟩:=A.keys;refine AY.mk (s:=ks) (AL af rfl) ?_;refine AJ.mk (AL B rfl) ?_;have di:o+3<bn:=by have:=Af H.cp;omega
    have aP:(Iq (l.take (8*i))++Iq ((Bw l i).take j)).length<=100010:=by rw[A1];simp only[Iq,BE,AE];omega
    refine ak.aY (E:=IV) (x:=p.key) rfl rj ai (by omega) (by simp only[maxLen];omega) λbo cf cg aQ ch dj=>?_
    have ci:cf[o+1]? =some (J2 #[J4 ks.p ks.len ks.cap] CB (0,0)):=aQ.af af (λe=>by have:=aj _ e;omega);refine ab.mk ci (by simp) λbp cj aS dk=>?_
    have bq: ∀c,bo.af=some c->o+3<c:=λc f=>by
     rcases ch c f with e|e
     ·exact aj c e
     ·have:=Af A.cp;omega
    have F:BS g o u _ (Iq (l.take (8*i))++Iq ((Bw l i).take j)++ [p.key]) _ i bp:=
     A.key L (jn:=bo) af ai aj ((aQ.ai λc _ f=> .inl f).trans (aS.ai λc _ f=> .inr f)) (by simpa using cj) (cg.mod aS (λc f e=>by have:=bq c f;omega)) bq
    have aT:bp[bn]? =some (J2 #[J7 p.key,J7 p.val,J3 p.gone] AR (0,0)):=aS.af (aQ.af B (λe=>ai.ne B (by decide) e)) (by omega);refine AJ.mk (AL aT rfl) (AJ.mk (AB aT rfl) (Aa.mk (AB aT rfl) ?_));refine ANl (x:=p) z λdl ck=>⟨_,rfl,?_⟩
    have cl:BK ((Bw l i).take (j+1))=BK ((Bw l i).take j)++Ie p:=by rw[bm];simp[BK]
    have lt:=LJ (l:=(Bw l i).take j) λcm w=>aJ cm (DQ w)
    rw[AE] at lt;have lp:=(Pt z).2;have a1:=z.bI;have bA:=z.cq;refine⟨by rw[AP,AP,max_i64];omega,?_⟩;rw[Ak,<-cl,Ab (by omega)];refine cd ((Bw l i).length-(j+1)) _ _ (by omega) ⟨j+1,rfl,rfl,ad,?_⟩;have I:=F.ext ck;have:Iq ((Bw l i).take (j+1))=Iq ((Bw l i).take j)++ [p.key]:=by rw[bm,xY];rfl
    rw[this,<-A4];exact I
   ·have ad:j=(Bw l i).length:=by have w: ¬((j:Nat):Int)<(((PX s i).len:Nat):Int):=of_decide_eq_false w;omega
    have cn:(Bw l i).take j=Bw l i:=by rw[ad];simp
    rw[cn] at H ⊢;refine qU (by omega) (λe=>by omega) λaU dm co=>⟨_,_,rfl,?_⟩
    have A:=H.ext co;have cp:=JK aU;refine UB A.gz (by have:=Af A.cp;omega) (by rw[AP];omega) λcq cr cs=>⟨_,_,rfl,?_⟩
    have F:=A.write L cr cs;rw[EP] at F;refine AJ.mk (AL F.ix rfl) ?_;have aV:(Bw l i)[0]? =some (Bw l i)[0]:=A2 (by omega);have br:Ip l (8*i)=(Bw l i)[0].key:=by have:=Pq (l:=l) (i:=i) (j:=0) (by omega);rw[aV] at this;unfold Ip;rw[Gk] at this;rw[<- this]
    have bs:=aJ _ (AW (show 0<(Bw l i).length by omega));generalize (Bw l i)[0]=V at aV br bs;obtain⟨ct,cu,bt⟩:=(aL F).cells 0 V aV;refine bH.mk (k:=0) cu (by rw[ca];omega) ?_;rw[HQ,add_zero] at bt;refine AJ.mk (n:=V.key) (by show ag cq (ct.add 0)=_;rw[add_zero];exact bt.pair.1) ?_;have a1:=bs.bI;refine Um (by omega) λdn cv=>⟨_,rfl,?_⟩
    have I:=F.ext cv;refine⟨AL I.ix rfl,?_⟩;have dp:=AV (n:=(bl V.key).length) (by rw[BA];omega);have dq:=BA V.key;refine⟨by rw[AP,AP,max_i64];simp only[BP,A1];omega,?_⟩;rw[Ak];refine ab.mk I.ix (by simp) λdr cw cx ds=>?_
    have W:=I.zE L (oN:=Gn ((CG l).take i)++BP (bl V.key)) cx (by simpa using cw);refine AC.mk (AL W.cp rfl) ?_;rw[Ab (by omega)];refine ab.mk W.cp (by simp) λcy cz cB dt=>?_
    have v:=W.oM L (n':=i+1) cB (by simpa using cz);have aC:aI (((KP l).map BK).take (i+1))=aI (((KP l).map BK).take i)++Cj (BK (Bw l i)):=by rw[TQ (ANu S)];simp[aI]
    have cC:Iq (l.take (8*(i+1)))=Iq (l.take (8*i))++Iq (Bw l i):=by rw[<- xY,vu]
    have cD:Gn ((CG l).take (i+1))=Gn ((CG l).take i)++BP (bl V.key):=by rw[TQ (Qo S),br];simp[Gn]
    subst J;refine b6 cy ?_ ?_ ?_
    ·rw[aC,cC,cD];exact⟨v.gz,v.keys,v.ix,v.cp,λc h f=>v.fix c h (.inl f),v.dV⟩
    ·rw[ap];exact v.fix _ _ (.inr (.inl ⟨rfl,rfl⟩))
    ·rw[ap];exact v.fix _ _ (.inr (.inr ⟨rfl,rfl⟩))
  ·intro cE r R;rw[b1] at r;have af:((KP l).map BK).take (Bn l)=(KP l).map BK:=AG (by simp[Gr]);have ai:l.take (8*Bn l)=l:=AG (by unfold Bn;omega);have aj:(CG l).take (Bn l)=CG l:=AG (by simp[HZ]);rw[af,ai,aj] at r;rw[ap] at R ⊢;obtain⟨u,J⟩: ∃u:Nat->Obj->Prop,u=λc h=>E c h\/(c=o+6/\h= .deferred (some [])):=⟨_,rfl⟩
   have L:jS o u:=by
    subst J;refine⟨λc h f C D=>?_,λc h f C D=>?_,λc h f=>?_⟩
    ·rcases f with e|⟨rfl,rfl⟩
     ·exact Q.u8 c h e C D
     ·intro q;cases q
    ·rcases f with e|⟨rfl,rfl⟩
     ·exact Q.str c h e C D
     ·intro q;cases q
    ·rcases f with e|⟨rfl,rfl⟩
     ·exact Q.lt c h e
     ·omega
   have H:BS g o u (aI ((KP l).map BK)) (Iq l) (Gn (CG l)) (Bn l) cE:=by
    refine⟨r.gz,r.keys,r.ix,r.cp,λc h f=>?_,r.dV⟩;subst J;rcases f with e|⟨rfl,rfl⟩
    ·exact r.fix c h e
    ·exact R
   obtain⟨ks,bu,aW,du⟩:=H.keys;refine AY.mk (s:=ks) (AL bu rfl) (AY.mk (s:=ks) (AL bu rfl) ?_);have aP:ks.len=l.length:=by rw[aW.len];simp[Iq]
   have bv:1<=j6 l/\j6 l<=8192:=by unfold j6;omega
   have bw:=T.eE;have dv:=bw.jm;rw[aP,AJ5 _ T.many];rw[show((min (l.length+8) 8192:Nat):Int)=((j6 l:Nat):Int) from rfl,<-aP];refine APU (ks:=Iq l) aW.view (λk N=>?_) bv.1 bv.2 (by simp[Iq];omega) (λb au=>aW.lt au) λdw cF=>⟨_,_,rfl,?_⟩
   ·obtain⟨p,aK,rfl⟩:=List.mem_map.1 N;have:=(T.ok p aK).bI;omega
   have A:=H.ext cF;refine AC.mk (AL A.cp rfl) ?_;rw[Bv (by omega)];refine CR (by omega) λdx cG=>⟨_,rfl,?_⟩
   have F:=A.ext cG;refine AJ.mk (AL F.ix rfl) ⟨AL A.ix rfl,?_⟩;have dy:=AV (n:=Bn l) (by omega);have aN:=QN (ks:=CG l) (Oc T.ok);rw[HZ] at aN;refine⟨by rw[AP,AP,max_i64];omega,?_⟩;rw[aE,Bv (by omega)];refine CR (by omega) λdz cH=>⟨_,rfl,?_⟩
   have I:=F.ext cH;have dA:=AV (n:=l.length) (by omega);refine⟨AL I.ix rfl,?_⟩;rw[Ak];refine⟨by rw[AP,AP,max_i64];simp only[A1];omega,?_⟩;refine Qa (l:=MR l) (by omega) λdB cI=>⟨_,rfl,?_⟩
   have W:=I.ext cI;have dC:=AV (n:=(MR l).length) (by omega);refine⟨AL W.ix rfl,?_⟩;rw[Ak,Ak];have dD:(BP (MR l)).length=(BX (MR l).length).length+(MR l).length:=by simp[BP]
   refine⟨by rw[AP,AP,max_i64];simp only[A1];omega,?_⟩;have cJ:BX (Bn l)++Gn (CG l)++BX l.length++BP (MR l)=VB l (MR l):=by unfold VB Gn;simp only[A4]
   rw[cJ];have dE:=XZ bw;refine qU (by omega) (λe=>by omega) λaU dF cK=>⟨_,_,rfl,ae.no rfl ?_⟩
   have v:=W.ext cK;have aM:=UQ (rs:=(KP l).map BK) (xX T.ok);rw[BE,Gr] at aM;have cp:=JK aU;refine UB v.gz (by have:=Af v.cp;omega) (by rw[AP];omega) λdG cL cM=>⟨_,_,rfl,?_⟩
   have ar:=v.write L cL cM;rw[EP] at ar;refine AI3 ar.gz (by have:=Af ar.cp;omega) λcN cO cP=>⟨_,rfl,?_⟩
   have aX:=ar.write L cO cP;have cQ:aI ((KP l).map BK)++Cj (VB l (MR l))=JZ l:=by unfold JZ aR;simp[aI]
   have cR:cN[o+6]? =some (.deferred (some [])):=aX.fix _ _ (by subst J;exact .inr ⟨rfl,rfl⟩);refine⟨cR,?_⟩;rw[cQ];refine bz _ ⟨?_,λc f _=>?_⟩
   ·have:=aX.dV.size;have:=M.size;simp;omega
   ·have:=M.size;rw[E0 (by omega)];exact(aX.dV.get c (by omega) (by omega)).trans (M.get c f (λe=>e))
end Go.Lf.G
namespace Go.Proofs
open Go.Shelf
theorem bears {P : Program} {f : FuncId} {b : Func} (a : (P.funcs[f]?).map (λx => { x with name := "" }) = some { b with name := "" }) (d : ((P.funcs[f]?).all λx => !(x.name == "runtime.NumGoroutine")) = true) : Bears P f b := by
 cases c:P.funcs[f]? with
 |none=>rw[c] at a;cases a
 |some x=>
  rw[c] at a d;simp only[Option.map_some,Option.some.injEq] at a;refine⟨x.name,by simpa using d,c.trans (congrArg some ?_)⟩;cases x;cases b
  simp_all
def Tryz.cC:Go.Shelf.Ren:=⟨λ|7=>167|10=>200|a=>a,λ|23=>142|26=>9|3=>240|28=>269|0=>0|27=>268|33=>115|4=>4|a=>a,λ|a=>a⟩
theorem Tryz.iI:Go.Proofs.SlLaysZ.n7 Tryz.prog Tryz.cC:=by repeat' first|exact Lf.DR (by kernel_rfl)|kernel_rfl|exact bears (by kernel_rfl) (by kernel_rfl)|decide|constructor
def Tryz.dA:Go.Shelf.Ren:=⟨λ|6=>166|8=>198|9=>199|11=>236|13=>188|12=>237|23=>225|24=>226|14=>259|15=>260|16=>261|17=>262|18=>263|19=>264|20=>265|21=>266|22=>267|25=>274|26=>248|27=>249|28=>275|29=>276|30=>277|31=>278|a=>a,λ|26=>9|28=>269|24=>189|0=>0|3=>3|37=>158|48=>155|50=>112|4=>4|40=>310|39=>309|45=>212|5=>5|9=>9|51=>337|55=>340|57=>358|58=>253|33=>115|a=>a,λ|a=>a⟩
theorem Tryz.iq:Go.Proofs.SlLaysZ.n6 Tryz.prog Tryz.dA:=by repeat' first|exact Lf.DR (by kernel_rfl)|kernel_rfl|exact bears (by kernel_rfl) (by kernel_rfl)|decide|constructor
def Tryz.fR:Go.Shelf.Ren:=⟨λ|6=>199|8=>188|9=>237|19=>225|20=>226|21=>259|22=>260|23=>261|24=>262|25=>263|26=>264|27=>265|28=>266|29=>267|36=>274|31=>248|32=>249|37=>275|38=>276|39=>277|41=>278|a=>a,λ|27=>189|29=>9|3=>3|32=>158|26=>189|0=>0|44=>155|46=>112|4=>4|36=>310|35=>309|41=>212|5=>5|9=>9|53=>337|57=>340|63=>358|64=>253|a=>a,λ|a=>a⟩
theorem Tryz.iJ:Go.Proofs.SlLaysM.n6 Tryz.prog Tryz.fR:=by repeat' first|exact Lf.DR (by kernel_rfl)|kernel_rfl|exact bears (by kernel_rfl) (by kernel_rfl)|decide|constructor
def Tryz.fS:Go.Shelf.Ren:=⟨λ|5=>161|8=>188|7=>187|19=>225|20=>226|10=>216|11=>217|12=>218|13=>219|14=>220|15=>221|16=>222|17=>223|18=>224|30=>247|31=>248|32=>249|33=>250|34=>251|35=>252|40=>271|a=>a,λ|23=>68|25=>3|3=>3|32=>158|22=>68|0=>0|44=>155|46=>112|4=>4|36=>310|35=>309|41=>212|5=>5|9=>9|53=>337|57=>340|63=>358|64=>253|a=>a,λ|a=>a⟩
theorem Tryz.iK:Go.Proofs.SlLaysM.n5 Tryz.prog Tryz.fS:=by repeat' first|exact Lf.DR (by kernel_rfl)|kernel_rfl|exact bears (by kernel_rfl) (by kernel_rfl)|decide|constructor
end Go.Proofs
namespace Go.Lf.G
open Go
abbrev nJ:Q8:=FK
theorem APb {d:al}{a:aa}{b:Option Nat}{e:A2O}(g: ∀T c,c[a.size]? =some (J2 #[.map b] T (0,0))->Ext a c->c.size=a.size+1->e (.func (.func nJ) #[] #[Ap a.size]) c):
  AA d P Bq #[.map b] a e:=by
 intro f;have h:=Proofs.AnyZ.keys_in Proofs.Tryz.iI Fence.wide 5 trivial rfl b (d.at a f);have i:=callsIn_wide.1 h;refine Calls.mono i ?_;rintro j k ⟨rfl,rfl⟩;refine⟨_,rfl,a.push (J2 #[.map b] (Proofs.Tryz.cC.t 23)),f,rfl,?_⟩;exact g (Proofs.Tryz.cC.t 23) (a.push (J2 #[.map b] (Proofs.Tryz.cC.t 23))) (by simp) (Mod.push a _) (by simp)
theorem ARf(m:Nat):Proofs.AnyZ.SortsIn P Proofs.Tryz.dA Fence.wide m:=
 ⟨λaf off a c b d e f=>callsIn_wide.2 (Proofs.AnyM.slices_Sort_string Proofs.Tryz.iJ af off a c b d e f),
 λp a b=>callsIn_wide.2 (Proofs.AnyM.slices_Sort_string_none Proofs.Tryz.iJ p a b)⟩
theorem ALf {A:al}{h:aa}{c i:Nat}{T:Q7}{m:List (A2P×J0)}{l:List A2P}{o:A2O}(p:h[c]? =some (J2 #[.map (some i)] T (0,0)))(M:Uo h i m)
  (B:nL l) (C:(m.map (·.1)).Perm l) (d:m.length<=8796093022208)
  (q: ∀s j,Own IV Az j s l->Ext h j->(∀ b,s.af=some b->h.size<=b)->o (J4 s.p s.len s.cap) j):
  AA A P Fy #[.func (.func nJ) #[] #[Ap c]] h o:=by
 intro n;obtain⟨k,D,E,r⟩:=AJt (P:=P) (kt:=Az) QB (w:=A.at h n) M;have F:SeqGives Fence.wide 2 P nJ #[Ap c] Proofs.encStr (λe=>e.Perm (strKeys k)) (Maps.size k) (A.at h n):=
  Proofs.AnyZ.keys_gives (ρ:=Proofs.Tryz.cC) {Proofs.Tryz.iI with} Fence.wide _ trivial rfl (by omega) c i _ k _ (show c<h.size from Af p) (by show ag h ⟨c,0,none⟩=_;rw[Hl p];rfl) D
 have G:=Proofs.AnyZ.sorted_in Proofs.Tryz.iq Fence.wide 5 trivial trivial trivial trivial rfl (by omega) (ARf _) (Proofs.enters_of Proofs.Tryz.func199 (by kernel_rfl) rfl) nJ #[Ap c] trivial (Proofs.enters_of Proofs.Tryz.func200 (by kernel_rfl) rfl) _ _ (by rw[r];simp[maxLen];omega) (by rw[r];omega) _ F;have H:=callsIn_wide.1 G;refine Calls.mono H ?_;rintro V a ⟨v,e,rfl,I,t,W,f⟩;have u:a=A.at a.heap a.drawn:=ui (A:=A) (h:=h) (n:=n) rfl f.os f.tape f.output;have y:e.Perm (l.map λx=>x.data.toList):=by
  refine(I.trans E).trans ?_;have:=C.map λx:A2P=>x.data.toList
  simpa [AT,G4] using this
 have J:e.length=l.length:=by have:=y.length_eq;simpa using this
 rw[AIz B y,ALz] at t;have z:Ext h a.heap:=⟨f.size,λb d _=>f.block b d⟩;rcases t.2 with⟨rfl,X⟩|⟨g,K,L,rfl,N,O,Q,R,S,U⟩
 ·have:l= []:=CC (by omega);subst this;exact⟨_,rfl,a.heap,a.drawn,u,q ⟨none,0,0⟩ _ Own.nil z (λb d=>by simp[Sl.af] at d)⟩
 ·refine⟨_,rfl,a.heap,a.drawn,u,q ⟨some ⟨g,0,none⟩,e.length,K⟩ _ ⟨J,.inr ⟨g,L,rfl,O,Q,R,S,U⟩⟩ z (λb d=>?_)⟩;simp[Sl.af] at d;subst d;exact N
def jN(m:Bx):List A2P×Int:=if m.down then([],30) else(m.files.map (·.name),0)
theorem Ez.names {d:aa}{b e:Nat}{a:List (Fi×Nat)}{m:Bx}(c:Ez d b e a m):((eX a).map (·.1)).Perm (m.files.map (·.name))/\(eX a).length<=8796093022208:=by
 refine⟨?_,?_⟩
 ·have:=c.perm.map (·.name);simpa [eX,AT,G4] using this
 ·have f:=c.perm.length_eq;have g:=Uc m.files;have h:=c.aC.wt;simp at f ⊢;omega
theorem Ez.fj {h:al}{a:aa}{b i:Nat}{n:List (Fi×Nat)}{m:Bx}(d:Ez a b i n m){j:Sl->aa->Prop}
  (o: ∀s f,Own IV Az f s (m.files.map (·.name))->Ext a f->(∀ c,s.af=some c->a.size<=c)->j s f):
  AA h P Bq #[.map (some i)] a λv1 g=> ∃k:J0,v1=k/\(
   AA h P Fy #[k] g λv2 p=> ∃e:Sl,v2=J4 e.p e.len e.cap/\j e p):=by
 refine APb λT w q l x=>⟨_,rfl,?_⟩
 refine ALf q (d.map.mod l (λa=>a)) (TR.1 d.aC.sorted) d.names.1 d.names.2 λs g r t u=>⟨s,rfl,?_⟩
 exact o s g r (l.trans t) (λc v=>by have:=u c v;omega)
theorem uK {i:al}{a:aa}{b:Nat}{j:Nat->Prop}{m:Bx}{h:A2O}(d:Cm a b j m)
  (e: ∀s g,Own IV Az g s (jN m).1->Ext a g->(∀ c,s.af=some c->a.size<=c)->h (J1 #[J4 s.p s.len s.cap,J6 J9 (jN m).2]) g):AA i P Kc #[Ap b] a h:=by
 obtain⟨n,o,d,p⟩:=d;refine AA2 ?_;unfold UF;refine ll d.head ⟨_,rfl,?_⟩;unfold jN at e;refine ae.intro (λhd=>?_) (λhd=>?_)
 ·rw[if_pos hd] at e;exact e ⟨none,0,0⟩ a Own.nil Mod.refl (λc k=>by simp[Sl.af] at k)
 rw[if_neg (by simp[hd])] at e;exact aE (FM.mk (AL d.head rfl) (d.fj λs g l x f=>e s g l x f))
end Go.Lf.G
