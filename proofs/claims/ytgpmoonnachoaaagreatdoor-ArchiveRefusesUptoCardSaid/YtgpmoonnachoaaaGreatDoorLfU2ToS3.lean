/-
 Plain law: a box of files (chapter 3).
-/
import Derived.Test.YtgpmoonnachoaaaGreatDoorLfKToGA
import Derived.Test.YtgpmoonnachoaaaGreatDoorLfG1
import Derived.Shelf.Strings.Repeat
import Derived.Shelf.Small.Wraps
import Derived.Shelf.Pu.ParseUintPublic10
import Derived.Shelf.Strconv.Itoa3
import Derived.Shelf.Strconv.AtoiAll
import Derived.Shelf.Strings.BuilderK
import Derived.Test.YtgpmoonnachoaaaGreatDoorLfAToN1
import Derived.Test.YtgpmoonnachoaaaGreatDoorProg
import Derived.Lib.ItoaNum
import Derived.Lib.Repeat
import Derived.Lib.ParseIntB
import Derived.Test.YtgpmoonnachoaaaGreatDoorRows
import Derived.Lib.ItoaLen
import Derived.Lib.AppendIntMem
import Derived.WalkKit
import Derived.ProofKit
import Derived.OpenShut
import Derived.JoinedCond
import Derived.Deep.Slices
import Derived.Carry
import Derived.Shelf.SlGeneric
import Derived.Shelf.SlIter.Nil
import Derived.Shelf.SlIter.Sorted
import Derived.Shelf.SortM.Plain
import Derived.Shelf.SortM.SortNone
set_option maxRecDepth 100000
set_option linter.unusedVariables false
set_option linter.unusedSimpArgs false
open Go.IntKind renaming i64→J9,wrap→J8
open Go.Value renaming string→J7,int→J6,pointer→J5,slice→J4,bool→J3,tuple→J1
open Go.Obj renaming cells→J2
open Go renaming Value→J0,Addr→Q6,TypeId→Q7,FuncId→Q8,Program→Q1
open Go.Addr renaming add→Q9,mk→Q5
namespace Go.Lf
open Go
abbrev bq:A2K:=⟨#[]⟩
theorem oB:ByteArray.size ⟨#[]⟩=0:=rfl
structure Fi where
 name:A2K
 bX:A2K
 soft:A2K
deriving DecidableEq
def Gu(l:List Fi):Prop:=l.Pairwise λa b=>aN a.name b.name=true
def Cc(a:A2K)(l:List Fi):Option Fi:=l.find? λf=>decide (f.name=a)
def QF(a:A2K)(g:Fi->Fi)(l:List Fi):List Fi:=l.map λf=>if f.name=a then g f else f
def QE(a:A2K)(l:List Fi):List Fi:=l.filter λf=> !decide (f.name=a)
def gV(x:Fi):List Fi->List Fi
 | []=> [x]
 |q::l=>if aN q.name x.name then q::gV x l else x::q::l
def ba(l:List Fi):Nat:=(l.map λf=>f.bX.size+f.soft.size+1).sum
theorem Gg(a:A2K)(x:Fi)(l:List Fi):Cc a (x::l)=if x.name=a then some x else Cc a l:=by unfold Cc;rw[DS];by_cases b:x.name=a<;>simp[b]
theorem JJ {b:A2K}{l:List Fi}{x:Fi}(a:Cc b l=some x):x.name=b/\x∈l:=by unfold Cc at a;exact⟨by simpa using PA a,Lo a⟩
theorem SH {b:A2K}{l:List Fi}(a:Cc b l=none): ∀x∈l,x.name≠b:=by unfold Cc at a;rw[GW] at a;simpa using a
theorem AIV {a:A2K}{l:List Fi}(b: ∀x∈l,x.name≠a):Cc a l=none:=by unfold Cc;rw[GW];simpa using b
theorem Gu.find {l:List Fi}(s:Gu l){x:Fi}(a:x∈l):Cc x.name l=some x:=by
 induction l with
 |nil=>cases a
 |cons d l c=>
  rw[Gg];have b:=List.pairwise_cons.1 s;rcases List.mem_cons.1 a with rfl|a
  ·simp
  ·rw[if_neg (Nl (b.1 x a))];exact c b.2 a
theorem OV(x:Fi): ∀l,(gV x l).Perm (x::l)
 | []=>ID _
 |q::l=>by
  unfold gV;split
  ·exact((OV x l).cons q).trans (List.Perm.swap x q l)
  ·exact ID _
theorem Uf {x:Fi}: ∀ {l:List Fi},Gu l->(∀ b∈l,b.name≠x.name)->Gu (gV x l)
 | [],_,_=>A04 _ _
 |q::l,s,e=>by
  have c:=List.pairwise_cons.1 s;unfold gV;split
  ·rename_i d;refine List.pairwise_cons.2 ⟨λb a=>?_,Uf c.2 λb a=>e b (AG _ a)⟩;rcases List.mem_cons.1 ((OV x l).subset a) with rfl|a
   ·exact d
   ·exact c.1 b a
  ·rename_i d;have f:aN x.name q.name=true:=by
    cases g:aN x.name q.name
    ·exact absurd (OD (by simpa using d) g) (e q CC)
    ·rfl
   refine List.pairwise_cons.2 ⟨λb a=>?_,s⟩;rcases List.mem_cons.1 a with rfl|a
   ·exact f
   ·exact DX f (c.1 b a)
theorem AJ1 {a:A2K}{g:Fi->Fi}(b: ∀f,(g f).name=f.name)(l:List Fi):(QF a g l).map (·.name)=l.map (·.name):=by
 unfold QF;rw[AT];refine CH λf _=>?_
 simp only[Function.comp];split<;>simp[b]
theorem UQ {l:List Fi}:Gu l↔om (l.map (·.name)):=by unfold Gu om;rw[N3]
theorem wG {k:A2K}{g:Fi->Fi}(a: ∀f,(g f).name=f.name){l:List Fi}(s:Gu l):Gu (QF k g l):=by rw[UQ,AJ1 a];exact UQ.1 s
theorem AIz {a:A2K}{l:List Fi}(s:Gu l):Gu (QE a l):=s.sublist G4
theorem rp {a c:A2K}{g:Fi->Fi}(b: ∀f,(g f).name=f.name): ∀l:List Fi,Cc c (QF a g l)=(Cc c l).map λf=>if f.name=a then g f else f
 | []=>rfl
 |x::l=>by
  show Cc c ((if x.name=a then g x else x)::QF a g l)=_;rw[Gg,Gg,rp b l];have:(if x.name=a then g x else x).name=x.name:=by split<;>simp[b]
  rw[this];by_cases d:x.name=c<;>simp[d]
theorem rq {k c:A2K}: ∀l:List Fi,Cc c (QE k l)=if c=k then none else Cc c l
 | []=>by simp[QE,Cc]
 |x::l=>by
  have b:=rq (k:=k) (c:=c) l;unfold QE at b ⊢;rw[AS,Gg];by_cases d:x.name=k
  ·simp only[d,decide_true,Lk,Cd,if_false];rw[b];by_cases a:c=k
   ·simp[a]
   ·simp[a,Ne.symm a]
  ·simp only[d,decide_false,KK,if_true];rw[Gg,b];by_cases a:c=k
   ·subst a;simp[d]
   ·simp[a]
theorem wH {x:Fi}{c:A2K}: ∀ {l:List Fi},(∀ a∈l,a.name≠x.name)->Cc c (gV x l)=if x.name=c then some x else Cc c l
 | [],_=>by show Cc c [x]=_;rw[Gg]
 |q::l,d=>by
  unfold gV;split
  ·rw[Gg,wH λa e=>d a (AG _ e),Gg];by_cases b:q.name=c
   ·simp[b];intro f;exact absurd (b.trans f.symm) (d q CC)
   ·simp[b]
  ·rw[Gg]
theorem Mq(x:Fi)(l:List Fi):ba (x::l)=x.bX.size+x.soft.size+1+ba l:=by simp[ba]
theorem AN5 {l m:List Fi}(a:l.Perm m):ba l=ba m:=(a.map _).sum_nat
theorem wI(x:Fi)(l:List Fi):ba (gV x l)=x.bX.size+x.soft.size+1+ba l:=by rw[AN5 (OV x l),Mq]
theorem VU: ∀l:List Fi,l.length<=ba l
 | []=>by simp[ba]
 |x::l=>by rw[Mq,A6];have:=VU l;omega
theorem Yv {x:Fi}: ∀ {l:List Fi},x∈l->x.bX.size+x.soft.size<=ba l
 | [],a=>by cases a
 |y::l,a=>by
  rw[Mq];rcases List.mem_cons.1 a with rfl|a
  ·omega
  ·have:=Yv a;omega
theorem rr {k:A2K}: ∀l:List Fi,ba (QE k l)<=ba l
 | []=>by simp[QE,ba]
 |x::l=>by
  have:=rr (k:=k) l;unfold QE at this ⊢;rw[AS];split
  ·rw[Mq,Mq];omega
  ·rw[Mq];omega
theorem Zg {k:A2K}{g:Fi->Fi}{d:Nat}(a: ∀f,(g f).bX.size+(g f).soft.size<=f.bX.size+f.soft.size+d): ∀ {l:List Fi},Gu l->ba (QF k g l)<=ba l+d
 | [],_=>by simp[QF,ba]
 |x::l,s=>by
  have b:=List.pairwise_cons.1 s;show ba ((if x.name=k then g x else x)::QF k g l)<=_;rw[Mq,Mq];split
  ·rename_i c;have:QF k g l=l:=by unfold QF;rw[CH (g:=id) λe h=>?_,Kd];have:=Nl (b.1 e h);rw[if_neg (λi=>this (c.trans i.symm))];rfl
   rw[this];have:=a x;omega
  ·have:=Zg a (k:=k) b.2;omega
structure Bx where
 files:List Fi
 fuel:Int
 down:Bool
def gW:Bx:=⟨[],-1,false⟩
def Jr(a:A2K):Bool:=decide (a=bq)||decide (a.size>32)
def Hy(m:Bx):Bx:=if m.fuel>0 then {m with fuel:=m.fuel-1} else m
def NU(m:Bx):Bx:= {m with down:=true}
def UX(name:A2K)(l:List Fi):List Fi:=if(Cc name l).isSome then l else gV ⟨name,bq,bq⟩ l
def SA(a:A2K)(f:Fi):Fi:= {f with soft:=f.soft++a}
def Sj(f:Fi):Fi:=⟨f.name,f.bX++f.soft,bq⟩
def CS(m:Bx)(name a:A2K):Int×Bx:=
 if m.down then(30,m) else if Jr name then(1,m) else if m.fuel=0 then(30,NU m) else(0,{Hy m with files:=QF name (SA a) (UX name m.files)})
def FR(m:Bx)(name:A2K):Int×Bx:=
 if m.down then(30,m) else if(Cc name m.files).isNone then(31,m) else if m.fuel=0 then(30,NU m) else(0,{Hy m with files:=QF name Sj m.files})
def Cj(m:Bx)(name:A2K):Int×Bx:=
 if m.down then(30,m) else if(Cc name m.files).isNone then(31,m) else if m.fuel=0 then(30,NU m) else(0,{Hy m with files:=QE name m.files})
def FD(m:Bx)(name:A2K):A2K×Int:=
 if m.down then(bq,30) else match Cc name m.files with|none=>(bq,31)|some f=>(f.bX++f.soft,0)
structure Hm (m:Bx):Prop where
 sorted:Gu m.files
 names: ∀f∈m.files,f.name.size<=32
 lo: -1<=m.fuel
 hi:m.fuel<=9223372036854775807
 wt:ba m.files<=8796093022208
theorem AQB(a b:A2K):(a++b).size=a.size+b.size:=Hk
theorem VT(a:A2K):a++bq=a:=by simp[LS,bq]
theorem MV(a:A2K):bq++a=a:=by simp[LS,bq]
theorem ANB:Hm gW:=⟨List.Pairwise.nil,by simp[gW],by simp[gW],by simp[gW],by simp[gW,ba]⟩
theorem Hm.tick {m:Bx}(g:Hm m)(l:List Fi)(a:Gu l)(b: ∀f∈l,f.name.size<=32)(c:ba l<=8796093022208):Hm {Hy m with files:=l}:=by
 have:=g.lo;have:=g.hi;refine⟨a,b,?_,?_,c⟩
 ·show -1<=(Hy m).fuel;unfold Hy;split<;>(try simp only[])<;>omega
 ·show(Hy m).fuel<=_;unfold Hy;split<;>(try simp only[])<;>omega
theorem Hm.off {m:Bx}(g:Hm m):Hm (NU m):=⟨g.sorted,g.names,g.lo,g.hi,g.wt⟩
theorem wJ {name:A2K}{l:List Fi}(s:Gu l):Gu (UX name l)/\ba (UX name l)<=ba l+1/\(∀ f∈UX name l,f∈l\/f.name=name):=by
 unfold UX;split
 ·exact⟨s,by omega,λf a=> .inl a⟩
 ·rename_i b;have c:=SH (by simpa using b);refine⟨Uf s c,by rw[wI];simp[oB];omega,λf a=>?_⟩;rcases List.mem_cons.1 ((OV _ l).subset a) with rfl|a
  ·exact .inr rfl
  ·exact .inl a
theorem wK {c:A2K}{g:Fi->Fi}(d: ∀f,(g f).name=f.name){l:List Fi}{f:Fi}(b:f∈QF c g l): ∃a∈l,a.name=f.name:=by unfold QF at b;obtain⟨a,e,rfl⟩:=List.mem_map.1 b;exact⟨a,e,by split<;>simp[d]⟩
theorem Hm.append {m:Bx}(g:Hm m){name data:A2K}(n:ba m.files+data.size+1<=8796093022208):Hm (CS m name data).2:=by
 unfold CS;split
 ·exact g
 ·split
  ·exact g
  ·rename_i e;split
   ·exact g.off
   ·obtain⟨b,o,h⟩:=wJ (name:=name) g.sorted;refine g.tick _ (wG (k:=name) (g:=SA data) (λ_=>rfl) b) (λf i=>?_) ?_
    ·obtain⟨c,j,l⟩:=wK (g:=SA data) (λ_=>rfl) i;rw[<- l];rcases h c j with a|a
     ·exact g.names c a
     ·rw[a];simp[Jr] at e;omega
    ·have:=Zg (k:=name) (g:=SA data) (d:=data.size) (λf=>by simp[SA];omega) b;omega
theorem Hm.sync {m:Bx}(g:Hm m){name:A2K}:Hm (FR m name).2:=by
 unfold FR;split
 ·exact g
 ·split
  ·exact g
  ·split
   ·exact g.off
   ·refine g.tick _ (wG (k:=name) (g:=Sj) (λ_=>rfl) g.sorted) (λf a=>?_) ?_
    ·obtain⟨b,c,e⟩:=wK (g:=Sj) (λ_=>rfl) a;rw[<- e];exact g.names b c
    ·have:=Zg (k:=name) (g:=Sj) (d:=0) (λf=>by simp[Sj,oB]) g.sorted;have:=g.wt;omega
theorem Hm.delete {m:Bx}(g:Hm m){name:A2K}:Hm (Cj m name).2:=by
 unfold Cj;split
 ·exact g
 ·split
  ·exact g
  ·split
   ·exact g.off
   ·exact g.tick _ (AIz g.sorted) (λf a=>g.names f (List.mem_filter.1 a).1) (AH (rr _) g.wt)
theorem VK {m:Bx}(g:Hm m)(name a:A2K):ba (CS m name a).2.files<=ba m.files+a.size+1:=by
 unfold CS;split
 ·simp;omega
 ·split
  ·simp;omega
  ·split
   ·simp[NU];omega
   ·obtain⟨b,c,_⟩:=wJ (name:=name) g.sorted;have:=Zg (k:=name) (g:=SA a) (d:=a.size) (λf=>by simp[SA];omega) b;simp;omega
theorem YO {m:Bx}(g:Hm m)(name:A2K):ba (FR m name).2.files<=ba m.files:=by
 unfold FR;split
 ·simp
 ·split
  ·simp
  ·split
   ·simp[NU]
   ·have:=Zg (k:=name) (g:=Sj) (d:=0) (λf=>by simp[Sj,oB]) g.sorted;simpa using this
theorem VL {m:Bx}(name:A2K):ba (Cj m name).2.files<=ba m.files:=by
 unfold Cj;split
 ·simp
 ·split
  ·simp
  ·split
   ·simp[NU]
   ·exact rr _
theorem xC {d:Type}{a:cE d}{x e:d}{c:Nat}{v:J0}(f:a.enc e=(a.enc x).set c v)(g:c<a.w): ∀ {l:List d} {i:Nat},l[i]? =some x->(l.set i e).flatMap a.enc=(l.flatMap a.enc).set (i*a.w+c) v
 | [],_,b=>by simp at b
 |y::l,0,b=>by
  simp at b;subst b;rw[List.set_cons_zero,AF,AF,f,HT,AI,Wk _ _ (by rw[a.len];exact g)]
 |y::l,i+1,b=>by
  rw[List.set_cons_succ,AF,AF,xC f g (l:=l) (i:=i) (by simpa using b),HK _ _ (by rw[a.len,Bm];omega),a.len];rw[show(i+1)*a.w+c-a.w=i*a.w+c by rw[Bm];omega]
theorem Own.store {e:Type}{E:cE e}{T:Q7}{d:aa}{s:Sl}{l:List e}{i j:Nat}{x x':e}{v:J0}{K:aa->Prop}(f:Own E T d s l)(h:l[i]? =some x)(q:E.enc x'=(E.enc x).set j v)(r:j<E.w)
  (t: ∀b,Own E T b s (l.set i x')->Mod (λc=>s.ag=some c) d b->b.size=d.size->K b): ∀a,s.p=some a->ae d ((a.add (i*E.w)).add j) v K:=by
 intro a n;rcases f.row with⟨rfl,rfl⟩|⟨g,u,k,w,o,y,p,z⟩
 ·simp at h
 ·rw[k] at n;cases n;rw[add_add,Be,AI];have A:i<l.length:=(List.getElem?_eq_some_iff.1 h).1;have F:i*E.w+j<s.len*E.w:=by have:(i+1)*E.w<=s.len*E.w:=AN _ (by rw[f.len];exact A);rw[Bm] at this;omega
  have G:s.len*E.w<=u.size:=by rw[p];exact AN _ o
  refine ae.mk w (by omega) λb B m C=>t b ⟨by rw[Pl];exact f.len,.inr ⟨g,_,k,B,o,y,by simpa using p,?_⟩⟩ (m.aj λc _ D=>by simp[Sl.ag,k,D]) C
  rw[DQ,List.take_set,z,xC q r h]
theorem Own.ne {d:Type}{h:cE d}{T e:Q7}{f:aa}{s:Sl}{l:List d}(i:Own h T f s l){b:Nat}{j:Array J0}{fr:Nat×Nat}(a:f[b]? =some (J2 j e fr))(k:T≠e):s.ag≠some b:=by
 intro c;rcases i.row with⟨rfl,_⟩|⟨g,p,m,n,_⟩
 ·simp[Sl.ag] at c
 ·simp[Sl.ag,m] at c;subst c;rw[n] at a;injection a with a;injection a with _ o _;exact k o
end Go.Lf
namespace Go.Lf.G
open Go
theorem Pg:P.underlying BI=some .string:=by kernel_rfl
theorem l9:P.underlying EE=some (.int .u8):=by kernel_rfl
theorem Zx:P.underlying DJ=some (.slice EE):=by kernel_rfl
theorem ya:QP P DJ EE Ho.w 1=true:=by kernel_rfl
theorem CU {y:al}{d:aa}{n:Nat}{q:A2J}(z:n<18446744073709551616)(A: ∀e,Ext d e->q (.string (AY (BU n))) e):AA y P Aw #[.int .u64 (n:Int)] d q:=by
 refine AIG ?_;unfold uK;have r:=AV z;refine Loop.rule (λm x f=> ∃(a:Nat) (s:Sl) (c:List UInt8),x=((a:Int),s,())/\Own Ho EE f s c/\Ext d f/\(∀ b,s.ag=some b->d.size<=b)/\BU n=c++BU a/\m=a) ?_
  ⟨n,⟨none,0,0⟩,[],rfl,Own.nil,Mod.refl,λb g=>by simp[Sl.ag] at g,rfl,rfl⟩
 rintro K m _ f ⟨a,s,c,rfl,t,x,h,i,F⟩ B;have hd:c.length<=10:=by rw[i] at r;simp at r;omega
 refine af.intro (λj=>?_) (λj=>?_)
 ·have k: ¬a<128:=by simp at j;omega
  refine ao.aZ (E:=Ho) (x:=Bn (a % 128+128)) (s:=s) (l:=c) (by dsimp only[Ho];rw[AQG]) ya t (by simp;omega) (by simp[maxLen];omega) λu e o p v C=>?_
  refine B (a / 128) _ _ (by omega) ⟨a / 128,u,c++ [Bn (a % 128+128)],?_,o,x.more p h,λb g=>?_,?_,rfl⟩
  ·dsimp only;rw[Qm a 7]
  ·rcases v b g with w|w
   ·exact h b w
   ·have:=x.size;omega
  ·rw[i,YB k];simp
 ·have k:a<128:=by simp at j;omega
  refine ao.aZ (E:=Ho) (x:=Bn a) (s:=s) (l:=c) (by dsimp only[Ho];rw[Dr (show a<256 by omega),wrap_u8,AE (show a<256 by omega)]) ya t (by simp;omega) (by simp[maxLen];omega) λu e o p v C=>?_
  refine Km Zx l9 Pg o.view ⟨_,rfl,?_⟩;have D:c++ [Bn a]=BU n:=by rw[i,Fb k]
  rw[D];exact A _ (x.more p h)
theorem AOJ(a:Nat):(if(10:Int)<(a:Int) then(10:Int) else(a:Int))=((min a 10:Nat):Int):=by split<;>omega
theorem yb {D:al}{e:aa}{s:A2K}{n:A2J}(V:s.size<=8796093022208)
  (v:MK 0 0 s.data.toList=none->n (.tuple #[.int .u64 0,.string ⟨#[]⟩,.bool false]) e)
  (E: ∀w t,MK 0 0 s.data.toList=some (w,t)->n (.tuple #[.int .u64 (w:Int),.string (AY t),.bool true]) e):AA D P Ru #[.string s] e n:=by
 refine AHT ?_;unfold uT;have W:s.data.toList.length=s.size:=by rw[DP];rfl
 refine Loop.rule (λm x o=> ∃(i a:Nat),x=((a:Int),(i:Int),())/\o=e/\i<=s.size/\i<=10/\a<128^i/\MK 0 0 s.data.toList=MK i a (s.data.toList.drop i)/\m=10-i) ?_
  ⟨0,0,rfl,rfl,by omega,by omega,by simp,rfl,rfl⟩
 rintro K m _ o ⟨i,a,rfl,y,X,Y,F,p,Z⟩ G;subst o;dsimp only;rw[AOJ];refine af.intro (λd=>?_) (λd=>?_)
 ·have z:i<s.size/\i<10:=by simp at d;omega
  have q:i<s.data.toList.length:=by omega
  refine⟨⟨by omega,by omega⟩,?_⟩;obtain⟨c,r⟩: ∃c,s.data.toList[i]? =some c:=⟨_,A2 q⟩;have A:s.data.toList.drop i=c::s.data.toList.drop (i+1):=by rw[Fl q];rw[A2 q] at r;rw[By r]
  have B:c.toNat<256:=c.toNat_lt;rw[N8 r];have H:((i=9/\1<c.toNat)\/(0<i/\c.toNat=0))->MK 0 0 s.data.toList=none:=λg=>by
   rw[p,A,MK,if_pos (.inr g)]
  have I: ¬((i=9/\1<c.toNat)\/(0<i/\c.toNat=0))->MK 0 0 s.data.toList=if c.toNat<128 then some (a+c.toNat*128^i,s.data.toList.drop (i+1)) else MK (i+1) (a+c.toNat % 128*128^i) (s.data.toList.drop (i+1)):=λg=>by
   rw[p,A,MK,if_neg (λe=>e.elim (by omega) g)]
  refine ai.mk λJ L=>?_
  have key: ∀(b:Bool),(b=true↔((i=9/\1<c.toNat)\/(0<i/\c.toNat=0)))->J (b,()) e:=λb g=>by
   refine L _ _ ?_;refine af.intro (λM=>v (H (g.1 M))) (λC=>?_);have N: ¬((i=9/\1<c.toNat)\/(0<i/\c.toNat=0)):=λe=>by rw[g.2 e] at C;cases C
   have j:=I N;have O:J8 J9 ((7:Int)*(i:Int))=((7*i:Nat):Int):=by rw[show(7:Int)*(i:Int)=((7*i:Nat):Int) by simp];exact Eb (by omega)
   have Q:Gm .u8 (c.toNat:Int) (127:Int)=((c.toNat % 128:Nat):Int):=by have:=y9 (a:=c.toNat) (b:=127) B (by decide);rw[ASo _ B] at this;exact this
   have R:J8 .u64 ((c.toNat % 128:Nat):Int)=((c.toNat % 128:Nat):Int):=by rw[wrap_u64,AE (by omega)]
   rw[O,Q,R,ATB (by omega) (Cp _ (by decide)),AQ4 (by omega) F (Cp _ (by decide)),Ab (by omega)];have ab:=MQ (show i<=9 by omega);have S:(128:Nat)^9=9223372036854775808:=by decide
   have T:c.toNat % 128*128^i % 18446744073709551616=c.toNat % 128*128^i:=by
    refine AE ?_;by_cases k:i=9
    ·subst k;have:c.toNat<=1:=by omega
     rw[S];omega
    ·have ac:=MQ (show i<=8 by omega);have ad:(128:Nat)^8=72057594037927936:=by decide
     have:c.toNat % 128*128^i<=127*128^i:=AN _ (by omega);omega
   rw[T];refine⟨by omega,?_⟩;refine af.intro (λd=>?_) (λd=>?_)
   ·have l:c.toNat<128:=by simp at d;omega
    rw[if_pos l] at j;refine⟨⟨by omega,by omega⟩,?_⟩;have:=E _ _ j;rw[AE l];have y:s.extract ((i+1:Nat):Int).toNat s.size=AY (s.data.toList.drop (i+1)):=rI _ _;rw[y];exact this
   ·have l: ¬c.toNat<128:=by simp at d;omega
    rw[if_neg l] at j;refine G (10-(i+1)) _ _ (by omega) ⟨i+1,a+c.toNat % 128*128^i,rfl,rfl,by omega,by omega,?_,j,rfl⟩;have:(c.toNat % 128+1)*128^i<=128*128^i:=AN _ (by omega);rw[Bm] at this;rw[DM,CM (128^i)];omega
  refine af.intro (λd=>?_) (λd=>?_)
  ·have k:i=9:=by simp at d;omega
   refine af.intro (λu=>key _ ⟨λ_=> .inl ⟨k,by simp at u;omega⟩,λ_=>rfl⟩) (λu=>?_);refine af.intro (λh=>key _ ⟨λf=> .inr ⟨by omega,by simp at f;omega⟩,λf=>by simp at u ⊢;omega⟩) (λh=>?_);simp at h;omega
  ·have k:i≠9:=by simp at d;omega
   refine af.intro (λh=>key _ ⟨λf=> .inr ⟨by simp at h;omega,by simp at f;omega⟩,λf=>(by simp;omega)⟩) (λh=>key _ ⟨(λf=>(by cases f)),λf=>(by simp at h;omega)⟩)
 ·have z:s.size=i\/i=10:=by simp at d;omega
  refine v ?_;rw[p];rcases z with U|U
  ·rw[HA (by omega)];rfl
  ·cases hd:s.data.toList.drop i with
   |nil=>rfl
   |cons c t=>rw[MK,if_pos (.inl (by omega))]
theorem aD {a:Q6}{K:Q6->Prop}(b:K a):At (some a) K:=b
theorem ae.dt {a:aa}{b d:Nat}{v:J0}{e:Array J0}{T:Q7}{K:aa->Prop}(f:a[b]? =some (J2 e T (0,0)))(g:d<e.size)
  (h: ∀c,c[b]? =some (J2 (e.setIfInBounds d v) T (0,0))->Mod (· =b) a c->c.size=a.size->K c):ae a ((⟨b,0,none⟩:Q6).add d) v K:=by
 rw[Be,AI];exact ae.mk f g h
theorem max_i64:IntKind.max J9=9223372036854775807:=by simp_all
theorem wrap_i64 {n:Int}(a: -9223372036854775808<=n)(b:n<=9223372036854775807):J8 J9 n=n:=by grind [J8,IntKind.bits,IntKind.signed]
theorem Bu {a:Nat}(b:a<18446744073709551616):J8 .u64 (a:Int)=(a:Int):=by rw[wrap_u64,AE b]
abbrev Ap(b:Nat):J0:=J5 (some ⟨b,0,none⟩)
def Ip(c:aa)(b:Nat)(a:Rd):Prop:=c[b]? =some (J2 #[J7 (AY a.rest),J3 a.bad] WQ (0,0))
theorem ye:AY []=⟨#[]⟩:=rfl
theorem yf(l:List UInt8)(a:Nat):(AY l).extract 0 a=AY (l.take a):=by rw[AOE,Bl]
theorem rL(l:List UInt8)(a:Nat):(AY l).extract a (AY l).size=AY (l.drop a):=by rw[rI,Bl]
theorem AOs(l:List UInt8)(i a:Nat):(AY l).extract i a=AY ((l.take a).drop i):=by rw[dU,Bl]
theorem Ak(a b:List UInt8):AY a++AY b=AY (a++b):=by apply NO;simp[AY,Hb]
theorem PO {A:al}{h:aa}{l:List UInt8}{R:A2J}(d:l.length<=1099511627776)(b: ∀a,Ext h a->R (J7 (AY (BF l))) a):AA A P Bz #[J7 (AY l)] h R:=by
 refine AGv ?_;unfold uJ;rw[AP,Bu (by omega)];have:=AV (n:=l.length) (by omega);refine CU (by omega) λe c=>⟨_,rfl,⟨by rw[AP,max_i64];omega,?_⟩⟩
 rw[Ak];exact b _ c
theorem KI {d:al}{a:aa}{l:List UInt8}{c:A2J}(e: ∀b,Ip b a.size ⟨l,false⟩->Ext a b->c (Ap a.size) b):AA d P Ed #[J7 (AY l)] a c:=by refine AHG ?_;unfold uN;exact ao.mk λf _ g x _=>e f g x
theorem yg {j:al}{d:aa}{b:Nat}{a:Rd}{h:A2J}(e:Ip d b a)(q:a.rest.length<=1099511627776)
  (i: ∀f,Ip f b (H7 a).2->Mod (· =b) d f->h (.int .u64 ((H7 a).1:Int)) f):AA j P I9 #[Ap b] d h:=by
 refine Wu ?_;unfold Ph;refine ai.mk λK k=>af.no rfl (aD (AZ.mk (AB e rfl) (k _ _ ?_)))
 refine af.intro (λc=>?_) (λc=>?_)
 ·have:=i d;rw[AOF c] at this;exact this e Mod.refl
 ·refine aD (AJ.mk (AL e rfl) ?_);have c:a.bad=false:=c;refine yb (by grind [AP,Nat.le_trans]) (λg=>⟨_,_,_,rfl,?_⟩) (λr t g=>⟨_,_,_,rfl,?_⟩)
  all_goals
   rw[Bl] at g;refine aD (ae.mk e (by simp) λs l m u=>aD (ae.dt l (by simp) λn o p v=>?_));have:=i n;simp only[H7,c,g] at this;exact this o (m.trans p)
theorem ANp {m:Nat}(a:m<=9223372036854775807):J8 .u64 (m:Int)=(m:Int):=Bu (by omega)
theorem DY {l:al}{e:aa}{b:Nat}{c:Rd}{most:Nat}{j:A2J}(m:Ip e b c)(n:c.rest.length<=1099511627776)(o:most<=9223372036854775807)
  (f: ∀g,Ip g b (CB most c).2->Mod (· =b) e g->j (J6 J9 ((CB most c).1:Int)) g):AA l P Ad #[Ap b,J6 J9 (most:Int)] e j:=by
 refine XQ ?_;unfold PW;refine yg m n λk d h=>⟨_,rfl,?_⟩
 refine ai.mk λK p=>af.no rfl (aD (AZ.mk (AB d rfl) (p _ _ ?_)))
 refine af.intro (λa=>?_) (λa=>?_)
 ·have:=f k;have a:(H7 c).2.bad=true:=a;simp only[CB,a,if_true] at this;exact this d h
 ·have a:(H7 c).2.bad=false:=a;refine ai.mk λw q=>af.no (by simp) (q _ _ ?_)
  rw[ANp o];refine af.intro (λi=>?_) (λi=>?_)
  ·refine aD (ae.mk d (by simp) λx r s y=>aD (ae.dt r (by simp) λt u v z=>?_));have:=f t;simp only[CB,a] at this;rw[if_neg (by simp),if_pos (by simp at i;omega)] at this;exact this u ((h.trans s).trans v)
  ·have:=f k;simp at i;simp only[CB,a] at this;rw[if_neg (by simp),if_neg (by omega)] at this;rw[Eb (by omega)];exact this d h
theorem rM {n:al}{f:aa}{b g:Nat}{d:Rd}{l:A2J}(c:Ip f b d)
  (h: ∀i,Ip i b (Kh g d).2->Mod (· =b) f i->l (J7 (AY (Kh g d).1)) i):AA n P F9 #[Ap b,J6 J9 (g:Int)] f l:=by
 refine Vm ?_;unfold O9;refine ai.mk λK o=>af.no rfl (aD (AZ.mk (AB c rfl) (o _ _ ?_)))
 refine af.intro (λa=>?_) (λa=>?_)
 ·have:=h f;have a:d.bad=true:=a;simp only[Kh,a,if_true] at this;exact this c Mod.refl
 ·have a:d.bad=false:=a;refine ai.mk λu p=>af.no (by simp) (aD (AJ.mk (AL c rfl) (p _ _ ?_)))
  rw[AP];refine af.intro (λj=>?_) (λj=>?_)
  ·refine aD (ae.mk c (by simp) λm e k q=>aD (ae.dt e (by simp) λr s t v=>?_));have:=h r;simp only[Kh,a] at this;rw[if_neg (by simp),if_pos (by simp at j;omega)] at this;exact this s (k.trans t)
  ·simp at j;refine aD (AJ.mk (AL c rfl) ⟨⟨by omega,by rw[AP];omega⟩,aD (AJ.mk (AL c rfl) ⟨⟨by omega,by rw[AP];omega⟩,aD (ae.mk c (by simp) λm e k q=>?_)⟩)⟩);have:=h m;simp only[Kh,a] at this;rw[if_neg (by simp),if_neg (by omega)] at this;simp only[An,yf,rL] at e ⊢;rw[a] at e;exact this e k
theorem Hg {k:al}{d:aa}{b:Nat}{a:Rd}{g:A2J}(l:Ip d b a)(v:a.rest.length<1099511627776)
  (h: ∀e,Ip e b (FE a).2->Mod (· =b) d e->g (J7 (AY (FE a).1)) e):AA k P Bd #[Ap b] d g:=by
 refine Vk ?_;unfold PE;refine yg l (by omega) λm f i=>⟨_,rfl,?_⟩
 have w:=UE a;refine ai.mk λK n=>af.no rfl (aD (AZ.mk (AB f rfl) (n _ _ ?_)))
 refine af.intro (λc=>?_) (λc=>?_)
 ·have:=h m;have c:(H7 a).2.bad=true:=c;simp only[FE,c,if_true] at this;exact this f i
 ·have c:(H7 a).2.bad=false:=c;have o:J8 J9 (if(1099511627776:Int)<((H7 a).1:Int) then 1099511627776 else((H7 a).1:Int))=((min (H7 a).1 1099511627776:Nat):Int):=by grind [wrap_i64]
  rw[o];refine rM f λp j q=>⟨_,rfl,?_⟩
  have:=h p;simp only[FE,c] at this;rw[if_neg (by simp)] at this;have r:Kh (min (H7 a).1 1099511627776) (H7 a).2=Kh (H7 a).1 (H7 a).2:=by
   by_cases s:(H7 a).1<=1099511627776
   ·rw[Fk s]
   ·have t:(H7 a).2.rest.length<min (H7 a).1 1099511627776:=by omega
    have u:(H7 a).2.rest.length<(H7 a).1:=by omega
    simp only[Kh,c,Cd,if_false,if_pos t,if_pos u]
  rw[r] at j ⊢;exact this j (i.trans q)
theorem MU {g:al}{c:aa}{b:Nat}{r:Rd}{e:A2J}(f:Ip c b r)(a:e (J3 (SK r)) c):AA g P CF #[Ap b] c e:=by
 refine Wx ?_;unfold Pp;refine af.yes rfl (aD (AZ.mk (AB f rfl) ?_));unfold SK at a;refine af.intro (λd=>?_) (λd=>?_)
 ·refine aD (AJ.mk (AL f rfl) ?_);rw[d] at a;have h:bQ (AY r.rest) (⟨#[]⟩:A2K)=r.rest.isEmpty:=by grind [Cn,ye,K9]
  rw[h];simpa using a
 ·rw[d] at a;exact a
theorem APc {c:Nat}(e:c<4294967296):Zu .u32 ((c:Int).fdiv ((2:Int)^(1:Nat))) (Gm .u32 (3988292384:Int) (J8 .u32 (0-(Gm .u32 (c:Int) (1:Int)))))=((mE c:Nat):Int):=by
 have f:Gm .u32 (c:Int) (1:Int)=((c % 2:Nat):Int):=by rw[<- Nat.and_one_is_mod];exact ARR e (by decide)
 rw[Qm c 1,f];unfold mE;have hd:c / 2^1<4294967296:=by omega
 by_cases a:c % 2=1
 ·rw[if_pos a,a];have b:J8 .u32 (0-((1:Nat):Int))=((4294967295:Nat):Int):=by decide
  have d:Gm .u32 (3988292384:Int) ((4294967295:Nat):Int)=((3988292384:Nat):Int):=by decide
  rw[b,d,VM hd (by decide)]
 ·rw[if_neg a,show c % 2=0 by omega];have b:J8 .u32 (0-((0:Nat):Int))=((0:Nat):Int):=by decide
  have d:Gm .u32 (3988292384:Int) ((0:Nat):Int)=((0:Nat):Int):=by decide
  rw[b,d,VM hd (by decide)];simp
theorem ARi {c:Nat}(d:c<4294967296):Zu .u32 (if IntKind.signed .u32 then -1 else IntKind.max .u32) (c:Int)=((4294967295-c:Nat):Int):=by
 have e:(if IntKind.signed .u32 then -1 else IntKind.max .u32)=((4294967295:Nat):Int):=by decide
 rw[e,VM (by decide) d];congr 1;have f:4294967295-c=2^32-(c+1):=by omega
 have g:(4294967295:Nat)=2^32-1:=by decide
 have a:c<2^32:=by omega
 rw[f,g];apply Nat.eq_of_testBit_eq;intro i;rw[Nat.testBit_xor,Nat.testBit_two_pow_sub_one,Nat.testBit_two_pow_sub_succ a];by_cases b:i<32
 ·simp[b]
 ·have:c.testBit i=false:=Nat.testBit_lt_two_pow (Fc a (PF (by decide) (by omega)));simp[b,this]
theorem yh {q:al}{d:aa}{l:List UInt8}{k:A2J}(v:l.length<=1099511627776)(r:k (.int .u32 (jf l:Int)) d):AA q P Pk #[J7 (AY l)] d k:=by
 refine AGw ?_;unfold uR;rw[AP];refine Loop.rule (λm x b=> ∃i:Nat,x=((iQ (l.take i):Int),(i:Int),())/\b=d/\m=l.length-i/\i<=l.length) ?_ ⟨0,rfl,rfl,rfl,by omega⟩;rintro K m _ b ⟨i,rfl,e,rfl,w⟩ s;subst b;refine af.intro (λf=>?_) (λf=>?_)
 ·have g:i<l.length:=by simpa using f
  obtain⟨c,o⟩: ∃c,l[i]? =some c:=⟨_,A2 g⟩;have y:c.toNat<256:=c.toNat_lt;refine⟨⟨by dsimp only;omega,by dsimp only;omega⟩,?_⟩;have p:=xX (l.take i);dsimp only;rw[N8 (c:=c) (by rw[Bl];exact o),wrap_u32,AE (show c.toNat<4294967296 by omega),VM p (by omega)];have t:iQ (l.take i) ^^^ c.toNat<4294967296:=Ks (n:=32) p (by omega);refine Loop.rule (λm x b=> ∃a:Nat,x=((oM a (iQ (l.take i) ^^^ c.toNat):Int),(a:Int),())/\b=d/\m=8-a/\a<=8) ?_ ⟨0,rfl,rfl,rfl,by omega⟩;rintro z A _ b ⟨a,rfl,e,rfl,B⟩ u;subst b;refine af.intro (λh=>?_) (λh=>?_)
  ·have j:a<8:=by simp at h;omega
   dsimp only;rw[APc (rG t a),Ab (by omega)];exact u (8-(a+1)) _ _ (by omega) ⟨a+1,rfl,rfl,rfl,j⟩
  ·have j:a=8:=by simp at h;omega
   subst j;dsimp only;rw[Ab (by omega)];refine s (l.length-(i+1)) _ _ (by omega) ⟨i+1,?_,rfl,rfl,g⟩;rw[AD,o,CA,ANe];rfl
 ·have g:i=l.length:=by simp at f;omega
  have e:l.take i=l:=Ax (by omega);dsimp only;rw[e,ARi (xX l)];exact r
theorem rN(a b:Nat):J8 .u8 ((a:Int).fdiv ((2:Int)^b))=(((Bn (a / 2^b % 256)).toNat:Nat):Int):=by rw[Qm,wrap_u8,Dr (Cp _ (by decide))]
theorem yi {f:al}{b:aa}{a:Nat}{c:A2J}(g: ∀d,Ext b d->c (J7 (AY (RI a))) d):AA f P OC #[.int .u32 (a:Int)] b c:=by
 refine AEm ?_;unfold Zf;refine ao.mk λh _ e x _=>?_
 have i:J8 .u8 (a:Int)=(((Bn (a % 256)).toNat:Nat):Int):=by rw[wrap_u8,Dr (Cp _ (by decide))]
 rw[rN,rN,rN,i] at e;have j:Own Ho EE h ⟨some ⟨b.size,0,none⟩,4,4⟩ (RI a):=Own.lit (E:=Ho) (l:=RI a) e rfl (by simp[maxLen,RI]);exact Km (s:=⟨some ⟨b.size,0,none⟩,4,4⟩) Zx l9 Pg j.view ⟨_,rfl,g _ x⟩
theorem YX {e:al}{a:aa}{l:List UInt8}{b:A2J}(f:l.length<=1099511627776)(g:1048576<l.length->b (J1 #[J7 ⟨#[]⟩,J6 J9 2]) a)
  (h:l.length<=1048576-> ∀d,Ext a d->b (J1 #[J7 (AY (CY l)),J6 J9 0]) d):AA e P Fp #[J7 (AY l)] a b:=by
 refine AEf ?_;unfold Yz;rw[AP];refine af.intro (λc=>g (by simp at c;omega)) (λc=>?_);have i:l.length<=1048576:=by simp at c;omega
 have:=AV (n:=l.length) (by omega);rw[Bu (by omega)];refine CU (by omega) λm j=>⟨_,rfl,?_⟩
 refine yh f ⟨_,rfl,?_⟩;refine yi λo k=>⟨_,rfl,⟨?_,?_,?_⟩⟩
 ·grind [AP,max_i64,Jj]
 ·rw[Ak,AP,max_i64,A1,Jj];omega
 ·rw[Ak,Ak];exact h i _ (j.trans k)
theorem rO {A:al}{h:aa}{l:List UInt8}{R:A2J}(B:l.length<=8796093022208)
  (f: ∀w,Ext h w->R (J1 #[J7 (AY (Dc l).2.1),J7 (AY (Dc l).2.2),J6 J9 ((Dc l).1:Int)]) w):AA A P LY #[J7 (AY l)] h R:=by
 refine AEb ?_;unfold Yp;rw[AP];have d:=f h Mod.refl;refine yb (by rw[AP];exact B) (λg=>⟨_,_,_,rfl,?_⟩) (λb t g=>⟨_,_,_,rfl,?_⟩)<;>rw[Bl] at g
 ·have k:Dc l=if l.length<10/\ ∀c∈l,128<=c.toNat then(20,[],[]) else(21,[],[]):=by unfold Dc;rw[g]
  rw[k] at d;refine ai.mk λK n=>af.yes rfl (n _ _ ?_)
  refine af.intro (λa=>?_) (λa=>?_)
  ·have o:l.length<10:=by simp at a;omega
   refine Loop.rule (λm x e=> ∃i:Nat,x=((i:Int),())/\e=h/\m=l.length-i/\i<=l.length/\ ∀c∈l.take i,128<=c.toNat) ?_ ⟨0,rfl,rfl,rfl,by omega,by simp⟩;rintro O m _ e ⟨i,rfl,Q,rfl,S,y⟩ C;subst e;refine af.intro (λp=>?_) (λp=>?_)
   ·have q:i<l.length:=by simpa using p
    obtain⟨c,D⟩: ∃c,l[i]? =some c:=⟨_,A2 q⟩;refine⟨⟨by dsimp only;omega,by dsimp only;omega⟩,?_⟩;dsimp only;rw[N8 (c:=c) (by rw[Bl];exact D)];refine af.intro (λE=>?_) (λE=>?_)
    ·rw[if_neg] at d
     ·exact d
     grind
    ·rw[Ab (by omega)];refine C (l.length-(i+1)) _ _ (by omega) ⟨i+1,rfl,rfl,rfl,q,λx T=>?_⟩
     grind [List.take_add_one,Option.toList_some]
   ·have q:i=l.length:=by simp at p;omega
    rw[Ax (by omega)] at y;rw[if_pos ⟨o,y⟩] at d;exact d
  ·have o: ¬l.length<10:=by simp at a;omega
   rw[if_neg (λe=>o e.1)] at d;refine ai.mk λF r=>af.yes rfl (r _ _ (af.yes rfl d))
 ·obtain⟨U,V⟩:=kZ g;have W:t.length<=8796093022208:=by grind
  have k:Dc l=if 1048576<b then(21,[],[]) else if t.length<4+b then(20,[],[])
    else if t.take 4=RI (jf ((t.drop 4).take b)) then(0,(t.drop 4).take b,t.drop (4+b)) else(21,[],[]):=by unfold Dc;rw[g]
  rw[k] at d f;refine ai.mk λK n=>af.no rfl (n _ _ (af.no rfl ?_))
  refine ai.mk λF r=>af.no rfl (r _ _ ?_)
  refine af.intro (λa=>?_) (λa=>?_)
  ·have s:1048576<b:=by simp at a;omega
   rw[if_pos s] at d;exact d
  have s: ¬1048576<b:=by simp at a;omega
  rw[if_neg s] at d f;rw[AP];refine ai.mk λG H=>?_
  have key: ∀u:Bool,(u=true↔t.length<4+b)->G (u,()) h:=λu I=>by
   refine H _ _ ?_;refine af.intro (λa=>?_) (λa=>?_)
   ·rw[if_pos (I.1 a)] at d;exact d
   have v: ¬t.length<4+b:=λe=>by grind
   rw[if_neg v] at d f;have J:J8 .u64 ((4:Int)+(b:Int))=((4+b:Nat):Int):=by grind [Bu]
   rw[J];refine⟨⟨by omega,by omega⟩,⟨by omega,by omega⟩,⟨by omega,by omega⟩,?_⟩;have L:(AY t).extract (4:Int).toNat ((4+b:Nat):Int).toNat=AY ((t.drop 4).take b):=by rw[show(4:Int).toNat=4 from rfl,An,AOs,List.drop_take];congr 2;omega
   have em:(AY t).extract 0 (4:Int).toNat=AY (t.take 4):=yf _ _;have z:(AY t).extract ((4+b:Nat):Int).toNat (AY t).size=AY (t.drop (4+b)):=by rw[An,rL]
   rw[AP] at z;rw[L,em,z];refine yh (by simp;omega) ⟨_,rfl,?_⟩;refine yi λv M=>⟨_,rfl,?_⟩
   have j:=f v M;rw[Cn];refine af.intro (λa=>?_) (λa=>?_)
   ·rw[if_neg (by grind)] at j;exact j
   ·rw[if_pos (by grind [K9])] at j;exact⟨⟨by omega,by omega⟩,j⟩
  refine af.intro (λa=>key _ ⟨λ_=>by simp at a;omega,λ_=>rfl⟩) (λa=>key _ ?_);have X:4<=t.length:=by simp at a;omega
  have N:J8 .u64 (J8 J9 ((t.length:Int)-(4:Int)))=((t.length-4:Nat):Int):=by grind [Eb,Bu]
  rw[N];simp;omega
theorem Fg.mk {b:aa}{a:Q6}{K:Option Nat->Prop}{n:Option Nat}(c:ah b a=some (.map n))(d:K n):Fg b a K:=⟨n,c,d⟩
theorem jH:P.underlying CP=some (.map BI vJ):=by kernel_rfl
theorem lH:(zeroValue vJ).calc P=some (J5 none):=by kernel_rfl
abbrev fi(a:List (Fi×Nat)):List (A2K×J0):=a.map λp=>(p.1.name,Ap p.2)
structure FQ (h:aa) (b r:Nat) (kv:List (Fi×Nat)) (m:Bx):Prop where
 head:h[b]? =some (J2 #[.map (some r),J6 J9 m.fuel,J3 m.down] qP (0,0))
 map:Vh h r (fi kv)
 cells: ∀p∈kv,h[p.2]? =some (J2 #[J7 p.1.bX,J7 p.1.soft] XY (0,0))
 perm:(kv.map (·.1)).Perm m.files
 nodup:(kv.map (·.2)).Nodup
 aQ:Hm m
def Kk(b a:Nat)(d:List (Fi×Nat))(c:Nat):Prop:=c=b\/c=a\/ ∃p∈d,p.2=c
def Cf(e:aa)(b:Nat)(f:Nat->Prop)(m:Bx):Prop:= ∃a d,FQ e b a d m/\ ∀c,f c↔Kk b a d c
theorem FQ.gy {e:aa}{b a:Nat}{f:List (Fi×Nat)}{m:Bx}(c:FQ e b a f m):a≠b:=by rintro rfl;obtain⟨g,h,d,_⟩:=c.map;rw[c.head] at d;cases d
theorem FQ.eT {g:aa}{b c:Nat}{d:List (Fi×Nat)}{m:Bx}(a:FQ g b c d m){p:Fi×Nat}(h:p∈d):p.2≠b/\p.2≠c:=by
 have e:=a.cells p h;constructor
 ·intro f;rw[f,a.head] at e;cases e
 ·intro f;obtain⟨i,j,k,_⟩:=a.map
  simp_all
theorem FQ.lt {d:aa}{b e:Nat}{f:List (Fi×Nat)}{m:Bx}(a:FQ d b e f m){c:Nat}(g:Kk b e f c):c<d.size:=by
 rcases g with rfl|rfl|⟨p,h,rfl⟩
 ·exact Ai a.head
 ·exact a.map.lt
 ·exact Ai (a.cells p h)
theorem Cf.lt {d:aa}{b:Nat}{e:Nat->Prop}{m:Bx}(a:Cf d b e m){c:Nat}(f:e c):c<d.size:=by obtain⟨h,i,a,g⟩:=a;exact a.lt ((g c).1 f)
theorem Cf.aQ {c:aa}{b:Nat}{d:Nat->Prop}{m:Bx}(a:Cf c b d m):Hm m:=by obtain⟨e,f,a,g⟩:=a;exact a.aQ
theorem FQ.mod {g h:aa}{b d:Nat}{e:List (Fi×Nat)}{m:Bx}{T:Nat->Prop}(a:FQ g b d e m)(x:Mod T g h)(f: ∀c,Kk b d e c-> ¬T c):FQ h b d e m:=
 ⟨x.ag a.head (f _ (.inl rfl)),a.map.mod x (f _ (.inr (.inl rfl))),λp i=>x.ag (a.cells p i) (f _ (.inr (.inr ⟨p,i,rfl⟩))),a.perm,a.nodup,a.aQ⟩
theorem Cf.mod {e f:aa}{b:Nat}{a T:Nat->Prop}{m:Bx}(d:Cf e b a m)(x:Mod T e f)(h: ∀c,a c-> ¬T c):Cf f b a m:=by obtain⟨i,j,d,g⟩:=d;exact⟨i,j,d.mod x λc k=>h c ((g c).2 k),g⟩
theorem Cf.ext {a c:aa}{b:Nat}{d:Nat->Prop}{m:Bx}(e:Cf a b d m)(x:Ext a c):Cf c b d m:=e.mod x λ_ _ a=>a
theorem FQ.hd {f d:aa}{b e:Nat}{h:List (Fi×Nat)}{m c:Bx}(a:FQ f b e h m)(j:d[b]? =some (J2 #[.map (some e),J6 J9 c.fuel,J3 c.down] qP (0,0)))(x:Mod (· =b) f d)(k:c.files=m.files)(g:Hm c):FQ d b e h c:=
 ⟨j,a.map.mod x a.gy,λp i=>x.ag (a.cells p i) (a.eT i).1,by rw[k];exact a.perm,a.nodup,g⟩
theorem ta(b:A2K): ∀a:List (Fi×Nat),UW b (fi a)=(a.find? λp=>decide (p.1.name=b)).map λp=>Ap p.2
 | []=>rfl
 |p::a=>by
  show UW b ((p.1.name,Ap p.2)::fi a)=_;rw[Oe,ta b a,DS]
  grind
theorem FQ.mem {d:aa}{b e:Nat}{a:List (Fi×Nat)}{m:Bx}(g:FQ d b e a m){f:Fi}:f∈m.files↔ ∃c,(f,c)∈a:=by
 rw[<- g.perm.mem_iff]
 simp_all
theorem FQ.look {i:aa}{b j:Nat}{d:List (Fi×Nat)}{m:Bx}(e:FQ i b j d m)(a:A2K):
  (UW a (fi d)=none/\Cc a m.files=none)\/ ∃p∈d,UW a (fi d)=some (Ap p.2)/\Cc a m.files=some p.1/\p.1.name=a:=by
 rw[ta];cases k:d.find? λp=>decide (p.1.name=a) with
 |none=>
  refine .inl ⟨rfl,AIV λf l=>?_⟩;obtain⟨c,n⟩:=e.mem.1 l
  grind
 |some p=>
  have g:p.1.name=a:=by grind
  have h:=Lo k;refine .inr ⟨p,h,rfl,?_,g⟩;rw[<- g];exact e.aQ.sorted.find (e.mem.2 ⟨p.2,h⟩)
theorem AH6 {a:List (Fi×Nat)}{l:List Fi}(p:(a.map (·.1)).Perm l)(s:Gu l):(a.map λb=>b.1.name).Nodup:=by
 have c:(l.map (·.name)).Nodup:=by refine List.pairwise_map.2 (s.imp λd=>Nl d)
 have e:(a.map λb=>b.1.name).Perm (l.map (·.name)):=by have:=p.map (·.name);simpa [AT,FF] using this
 exact(e.nodup_iff).2 c
theorem FQ.inj {f:aa}{b g:Nat}{c:List (Fi×Nat)}{m:Bx}(d:FQ f b g c m){p a:Fi×Nat}(h:p∈c)(j:a∈c)(k:p.1.name=a.1.name):p=a:=by
 have l:=AH6 d.perm d.aQ.sorted;obtain⟨i,n,rfl⟩:=Dd h;obtain⟨e,o,rfl⟩:=Dd j;have:i=e:=by
  have q:i<(c.map λa=>a.1.name).length:=by simpa using n
  have r:e<(c.map λa=>a.1.name).length:=by simpa using o
  refine(Lq (h₀:=q) (h₁:=r) l).1 ?_;simpa using k
 subst this;rfl
theorem FQ.set {k h':aa}{b l:Nat}{d:List (Fi×Nat)}{m:Bx}(c:FQ k b l d m){p:Fi×Nat}(h:p∈d){g:Fi->Fi}(B: ∀f,(g f).name=f.name)
  (q:h'[p.2]? =some (J2 #[J7 (g p.1).bX,J7 (g p.1).soft] XY (0,0))) (x:Mod (· =p.2) k h') (r:Hm {m with files:=QF p.1.name g m.files}):
  FQ h' b l (d.map λa=>(if a.1.name=p.1.name then g a.1 else a.1,a.2)) {m with files:=QF p.1.name g m.files}:=by
 refine⟨x.ag c.head (c.eT h).1.symm,?_,?_,?_,?_,r⟩
 ·have e:fi (d.map λa=>(if a.1.name=p.1.name then g a.1 else a.1,a.2))=fi d:=by
   simp only[fi,AT];refine CH λa _=>?_
   grind
  rw[e];exact c.map.mod x (c.eT h).2.symm
 ·intro a s;obtain⟨n,j,rfl⟩:=List.mem_map.1 s;simp only;by_cases e:n.1.name=p.1.name
  ·rw[if_pos e];have:=c.inj j h e;subst this;exact q
  ·rw[if_neg e];refine x.ag (c.cells n j) λt=>e ?_
   have u:=c.nodup;obtain⟨i,v,rfl⟩:=Dd h;obtain⟨o,w,rfl⟩:=Dd j;have:o=i:=by
    have y:i<(d.map (·.2)).length:=by simpa using v
    have z:o<(d.map (·.2)).length:=by simpa using w
    refine(Lq (h₀:=z) (h₁:=y) u).1 ?_;simpa using t
   subst this;rfl
 ·have A:=c.perm.map λf=>if f.name=p.1.name then g f else f
  simpa [QF,AT,FF] using A
 ·simpa [AT,FF] using c.nodup
theorem tc {b d:Nat}{e:List (Fi×Nat)}{g:Fi×Nat->Fi}(c:Nat):Kk b d (e.map λf=>(g f,f.2)) c↔Kk b d e c:=by
 unfold Kk;constructor
 ·grind
 ·rintro(a|a|⟨p,h,rfl⟩)
  ·exact .inl a
  ·exact .inr (.inl a)
  ·exact .inr (.inr ⟨_,List.mem_map.2 ⟨p,h,rfl⟩,rfl⟩)
theorem td {b:A2K}{v:J0}: ∀ {m:List (A2K×J0)},UW b m=none->ga b v m=m++ [(b,v)]
 | [],_=>rfl
 |p::m,a=>by
  rw[Oe] at a;split at a
  ·cases a
  ·rename_i c;unfold ga;rw[if_neg c,td a];rfl
theorem lI {d:al}{a:aa}{b:Nat}{e c1:J0}{down:Bool}{T:Q7}{c:A2J}(f:a[b]? =some (J2 #[e,c1,J3 down] T (0,0)))(g:c (J3 down) a):
  AA d P Gr #[Ap b] a c:=by
 refine ACs ?_;unfold Wd;exact af.no rfl (aD (AZ.mk (AB f rfl) g))
theorem APF {e:al}{c:aa}{name:A2K}{d:A2J}(a:d (J3 (Jr name)) c):AA e P UJ #[J7 name] c d:=by
 refine AGW ?_;unfold uS;unfold Jr at a;rw[Cn];refine af.intro (λb=>?_) (λb=>?_)
 ·rw[b] at a;exact a
 ·rw[b] at a;have f:decide ((name.size:Int)>(32:Int))=decide (name.size>32):=by grind
  rw[f];simpa using a
def nh(fuel:Int):Int:=if fuel>0 then fuel-1 else fuel
theorem ARa {o:al}{d:aa}{b:Nat}{h:J0}{fuel:Int}{down:Bool}{T:Q7}{i:A2J}(f:d[b]? =some (J2 #[h,J6 J9 fuel,J3 down] T (0,0)))(q: -1<=fuel)(r:fuel<=9223372036854775807)
  (p:fuel=0-> ∀a,a[b]? =some (J2 #[h,J6 J9 fuel,J3 true] T (0,0))->Mod (· =b) d a->a.size=d.size->i (J3 false) a)
  (e:fuel≠0-> ∀a,a[b]? =some (J2 #[h,J6 J9 (nh fuel),J3 down] T (0,0))->Mod (· =b) d a->a.size=d.size->i (J3 true) a):AA o P Hz #[Ap b] d i:=by
 refine ABk ?_;unfold Tp;refine aD (AC.mk (AB f rfl) ?_);refine af.intro (λc=>?_) (λc=>?_)
 ·refine aD (ae.dt f (by simp) λj g k l=>?_);exact p (by simpa using c) j (by simpa using g) k l
 ·have c:fuel≠0:=by simpa using c
  have e:=e c;unfold nh at e;refine ai.mk λK n=>?_
  refine aD (AC.mk (AB f rfl) ?_);refine af.intro (λc=>?_) (λc=>?_)
  ·have m:fuel>0:=by simpa using c
   rw[if_pos m] at e;refine aD (AC.mk (AB f rfl) (aD (ae.dt f (by simp) λj g k l=>n _ _ ?_)));rw[wrap_i64 (by omega) (by omega)] at g;exact e j (by simpa using g) k l
  ·have m: ¬fuel>0:=by simpa using c
   rw[if_neg m] at e;exact n _ _ (e d f Mod.refl rfl)
theorem Jd(m:Bx):(Hy m).fuel=nh m.fuel/\(Hy m).down=m.down/\(Hy m).files=m.files:=by grind [Hy,nh]
theorem AJ6 {m:Bx}(g:Hm m):Hm (Hy m):=by have:=g.tick m.files g.sorted g.names g.wt;rwa [<- (Jd m).2.2] at this
theorem FQ.jk {p:al}{e:aa}{b f:Nat}{g:List (Fi×Nat)}{m:Bx}(d:FQ e b f g m){i:A2J}
  (q:m.fuel=0-> ∀a,FQ a b f g (NU m)->Mod (Kk b f g) e a->i (J3 false) a)
  (r:m.fuel≠0-> ∀a,FQ a b f g (Hy m)->Mod (Kk b f g) e a->a.size=e.size->i (J3 true) a):AA p P Hz #[Ap b] e i:=by
 refine ARa d.head d.aQ.lo d.aQ.hi (λj k l h o=>?_) (λj k l h o=>?_)
 ·exact q j k (d.hd l h rfl d.aQ.off) (h.aj λc _ n=> .inl n)
 ·obtain⟨s,t,u⟩:=Jd m;refine r j k (d.hd ?_ h u (AJ6 d.aQ)) (h.aj λc _ n=> .inl n) o;rw[s,t];exact l
theorem FQ.fG {d:aa}{b a:Nat}{e:List (Fi×Nat)}{m:Bx}(i:FQ d b a e m){p:Fi×Nat}(f:p∈e){data:A2K}(l:Hm {m with files:=QF p.1.name (SA data) m.files}){K:aa->Prop}
  (r: ∀j n,FQ j b a n {m with files:=QF p.1.name (SA data) m.files}->Mod (Kk b a e) d j->(∀ c,Kk b a n c↔Kk b a e c)->K j):
  At (some ⟨p.2,0,none⟩) λs=>AJ d (s.add 1) λt=>aG (((t.size+data.size:Nat):Int)<=IntKind.i64.max)<|At (some ⟨p.2,0,none⟩) λu=>ae d (u.add 1) (J7 (t++data)) K:=by
 have h:=i.cells p f;refine aD (AJ.mk (AB h rfl) ⟨?_,aD (ae.dt h (by simp) λo v q y=>?_)⟩)
 ·have o:ba (QF p.1.name (SA data) m.files)<=8796093022208:=l.wt;have w:SA data p.1∈QF p.1.name (SA data) m.files:=by refine List.mem_map.2 ⟨p.1,i.mem.2 ⟨p.2,f⟩,by simp⟩
  have x:=Yv w;simp only[SA,AQB] at x;simp[IntKind.max,IntKind.bits,IntKind.signed];omega
 ·exact r o _ (i.set f (g:=SA data) (λ_=>rfl) (by simpa [SA] using v) q l) (q.aj λc _ h=> .inr (.inr ⟨p,f,h.symm⟩)) (λc=>tc (g:=λk=>if k.1.name=p.1.name then SA data k.1 else k.1) c)
theorem Xe {S:al}{e:aa}{b:Nat}{l:Nat->Prop}{m:Bx}{name data:A2K}{L:A2J}(k:Cf e b l m)(T:ba m.files+data.size+1<=8796093022208)
  (g: ∀B S',Cf B b S' (CS m name data).2->Mod l e B->(∀ c,S' c->l c\/e.size<=c)->L (J6 J9 (CS m name data).1) B):AA S P Hw #[Ap b,J7 name,J7 data] e L:=by
 have n:=k.aQ.append (name:=name) (data:=data) T;obtain⟨j,o,k,r⟩:=k;refine YJ ?_;unfold Qv;refine lI k.head ⟨_,rfl,?_⟩;unfold CS at g n;refine af.intro (λhd=>?_) (λhd=>?_)
 ·rw[if_pos hd] at g;exact g e l ⟨j,o,k,r⟩ Mod.refl (λc d=> .inl d)
 rw[if_neg (by simp[hd])] at g n;refine APF ⟨_,rfl,?_⟩;refine af.intro (λw=>?_) (λw=>?_)
 ·rw[if_pos w] at g;exact g e l ⟨j,o,k,r⟩ Mod.refl (λc d=> .inl d)
 rw[if_neg (by simp[w])] at g n;have C: ∀ {q:aa},Mod (Kk b j o) e q->Mod l e q:=λs=>s.aj λc _ d=>(r c).2 d
 refine k.jk (λD q i s=>⟨_,rfl,?_⟩) (λD q i s ae=>⟨_,rfl,?_⟩)
 ·rw[if_pos D] at g;exact af.yes rfl (g q l ⟨j,o,i,r⟩ (C s) (λc d=> .inl d))
 rw[if_neg D] at g n;refine af.no rfl ?_;refine aD (Fg.mk (AL i.head rfl) (RG jH Pg lH i.map ?_));rcases i.look name with⟨x,E⟩|⟨p,h,x,E,U⟩
 ·
  rw[x];refine⟨none,rfl,ai.mk λK F=>af.yes rfl ?_⟩;refine ao.mk λag _ V M ah=>?_
  have t:=i.mod M (λ_ _ e=>e);refine aD (Fg.mk (AL t.head rfl) ?_);have W:name.size<=32:=by simp[Jr] at w;omega
  have aj:=VU (Hy m).files;have X:o.length=(Hy m).files.length:=by rw[<- i.perm.length_eq];simp
  rw[(Jd m).2.2] at X;have ak:=VU m.files;refine AM2 jH Pg t.map (by simp[maxLen];omega) (by simp[fi,maxLen];omega) λN O y am=>?_
  rw[td x] at O;have an:=y.ag V (by have:=i.map.lt;omega);have u:=E;rw[(Jd m).2.2] at u;have G:UX name m.files=gV ⟨name,bq,bq⟩ m.files:=by unfold UX;rw[u];rfl
  have Y:=SH u;have Z:=wI ⟨name,bq,bq⟩ m.files;simp only[oB] at Z;have ab:FQ N b j (o++ [(⟨name,bq,bq⟩,q.size)]) {Hy m with files:=gV ⟨name,bq,bq⟩ m.files}:=by
   refine⟨y.ag t.head t.gy.symm,?_,?_,?_,?_,?_⟩
   ·rw[fi,C2];exact O
   ·intro p h;rcases List.mem_append.1 h with h|h
    ·exact y.ag (t.cells p h) (t.eT h).2
    simp_all
   ·rw[C2];refine(List.perm_append_singleton _ _).trans (((i.perm.trans (List.Perm.of_eq (Jd m).2.2)).cons _).trans (OV _ _).symm)
   ·rw[C2];refine List.nodup_append.2 ⟨i.nodup,by simp,?_⟩;intro a ac c d;obtain⟨p,h,rfl⟩:=List.mem_map.1 ac;simp at d;subst d;have:=Ai (i.cells p h);omega
   ·refine k.aQ.tick _ (Uf k.aQ.sorted Y) (λf H=>?_) (by omega);rcases List.mem_cons.1 ((OV _ _).subset H) with rfl|H
    ·exact W
    ·exact k.aQ.names f H
  refine F _ _ ?_;rw[G] at g n;refine ab.fG (p:=(⟨name,bq,bq⟩,q.size)) (by simp) (data:=data) n λI v z J A=>?_
  have Q: ∀c,Kk b j v c->Kk b j o c\/e.size<=c:=λc d=>by
   rcases(A c).1 d with e|e|⟨p,h,rfl⟩
   ·exact .inl (.inl e)
   ·exact .inl (.inr (.inl e))
   ·rcases List.mem_append.1 h with h|h
    ·exact .inl (.inr (.inr ⟨p,h,rfl⟩))
    simp_all
  refine g I (Kk b j v) ⟨j,v,z,λ_=>CI⟩ ?_ (λc d=>(Q c d).imp (r c).2 id);have ad:Mod (Kk b j o) q N:=M.mod.trans (y.aj λc _ d=> .inr (.inl d));refine C ((s.trans ad).then (J.aj λc _ d=>Q c ((A c).2 d)))
 ·
  rw[x];refine⟨some ⟨p.2,0,none⟩,rfl,ai.mk λK F=>af.no rfl (F _ _ ?_)⟩;have u:=E;rw[(Jd m).2.2] at u;have G:UX name m.files=m.files:=by unfold UX;rw[u];rfl
  rw[G] at g n;subst U;have R:=(Jd m).2.2;refine i.fG h (data:=data) (by rw[R];exact n) λI v z J A=>?_
  refine g I l ⟨j,v,by rw[R] at z;exact z,λc=>(r c).trans (A c).symm⟩ (C (s.trans J)) (λc d=> .inl d)
theorem pA {D:al}{e:aa}{b:Nat}{o:Nat->Prop}{m:Bx}{name:A2K}{x:A2J}(a:Cf e b o m)
  (d: ∀h',Cf h' b o (FR m name).2->Mod o e h'->x (J6 J9 (FR m name).1) h'):AA D P JM #[Ap b,J7 name] e x:=by
 have i:=a.aQ.sync (name:=name);obtain⟨j,q,a,k⟩:=a;refine ABt ?_;unfold Uz;refine lI a.head ⟨_,rfl,?_⟩;unfold FR at d i;have y: ∀ {l:aa},Mod (Kk b j q) e l->Mod o e l:=λn=>n.aj λc _ f=>(k c).2 f
 refine af.intro (λhd=>?_) (λhd=>?_)
 ·rw[if_pos hd] at d;exact d e ⟨j,q,a,k⟩ Mod.refl
 rw[if_neg (by simp[hd])] at d i;refine aD (Fg.mk (AL a.head rfl) (RG jH Pg lH a.map ?_));rcases a.look name with⟨r,s⟩|⟨p,t,r,s,E⟩
 ·rw[r];rw[s] at d;exact⟨none,rfl,af.yes rfl (d e ⟨j,q,a,k⟩ Mod.refl)⟩
 rw[r];rw[s,if_neg (by simp)] at d i;refine⟨some ⟨p.2,0,none⟩,rfl,af.no rfl ?_⟩;refine a.jk (λu l h n=>⟨_,rfl,?_⟩) (λu l h n H=>⟨_,rfl,?_⟩)
 ·rw[if_pos u] at d;exact af.yes rfl (d l ⟨j,q,h,k⟩ (y n))
 rw[if_neg u] at d i;refine af.no rfl ?_;refine aD (Fg.mk (AL h.head rfl) (RG jH Pg lH h.map ?_));rw[r];refine⟨some ⟨p.2,0,none⟩,rfl,?_⟩;have f:=h.cells p t;refine aD (AJ.mk (AL f rfl) (aD (AJ.mk (AB f rfl) ⟨?_,?_⟩)))
 ·have v:=Yv (JJ s).2;have:=a.aQ.wt;simp[IntKind.max,IntKind.bits,IntKind.signed];omega
 refine aD (ae.mk f (by simp) λI F z J=>aD (ae.dt F (by simp) λv G A K=>?_));subst E;have B:=(Jd m).2.2;have C:=h.set t (h':=v) (g:=Sj) (λ_=>rfl) (by simpa [Sj] using G) (z.trans A) (by rw[B];exact i);rw[B] at C;refine d v ⟨j,_,C,λc=>(k c).trans (tc (g:=λw=>if w.1.name=p.1.name then Sj w.1 else w.1) c).symm⟩ (y (n.trans ((z.trans A).aj λc _ f=> .inr (.inr ⟨p,t,f.symm⟩))))
theorem YZ {i:al}{e:aa}{b:Nat}{j:Nat->Prop}{m:Bx}{name:A2K}{g:A2J}(a:Cf e b j m)
  (c:g (J1 #[J7 (FD m name).1,J6 J9 (FD m name).2]) e):AA i P G5 #[Ap b,J7 name] e g:=by
 obtain⟨l,n,a,o⟩:=a;refine ABZ ?_;unfold Tf;refine lI a.head ⟨_,rfl,?_⟩;unfold FD at c;refine af.intro (λhd=>?_) (λhd=>?_)
 ·rw[if_pos hd] at c;exact c
 rw[if_neg (by simp[hd])] at c;refine aD (Fg.mk (AL a.head rfl) (RG jH Pg lH a.map ?_));rcases a.look name with⟨f,d⟩|⟨p,k,f,d,q⟩
 ·rw[f];rw[d] at c;exact⟨none,rfl,af.yes rfl c⟩
 rw[f];rw[d] at c;refine⟨some ⟨p.2,0,none⟩,rfl,af.no rfl ?_⟩;have h:=a.cells p k;refine aD (AJ.mk (AL h rfl) (aD (AJ.mk (AB h rfl) ⟨?_,c⟩)));have r:=Yv (JJ d).2;have:=a.aQ.wt;simp[IntKind.max,IntKind.bits,IntKind.signed];omega
theorem AQv(a:A2K)(b:List (Fi×Nat)):iM a (fi b)=fi (b.filter λp=> !decide (p.1.name=a)):=by unfold iM fi;rw[On];rfl
theorem R8 {C:al}{a:aa}{b:Nat}{i:Nat->Prop}{m:Bx}{name:A2K}{x:A2J}(d:Cf a b i m)
  (e: ∀s S',Cf s b S' (Cj m name).2->Mod i a s->(∀ c,S' c->i c)->x (J6 J9 (Cj m name).1) s):AA C P F5 #[Ap b,J7 name] a x:=by
 have k:=d.aQ.delete (name:=name);obtain⟨j,l,d,n⟩:=d;refine ZR ?_;unfold Qp;refine lI d.head ⟨_,rfl,?_⟩;unfold Cj at e k;have y: ∀ {g:aa},Mod (Kk b j l) a g->Mod i a g:=λo=>o.aj λc _ q=>(n c).2 q
 refine af.intro (λhd=>?_) (λhd=>?_)
 ·rw[if_pos hd] at e;exact e a i ⟨j,l,d,n⟩ Mod.refl (λ_ a=>a)
 rw[if_neg (by simp[hd])] at e k;refine aD (Fg.mk (AL d.head rfl) (RG jH Pg lH d.map ?_));rcases d.look name with⟨t,u⟩|⟨p,z,t,u,F⟩
 ·rw[t];rw[u] at e;exact⟨none,rfl,af.yes rfl (e a i ⟨j,l,d,n⟩ Mod.refl (λ_ a=>a))⟩
 rw[t];rw[u,if_neg (by simp)] at e k;refine⟨some ⟨p.2,0,none⟩,rfl,af.no rfl ?_⟩;refine d.jk (λv g h o=>⟨_,rfl,?_⟩) (λv g h o G=>⟨_,rfl,?_⟩)
 ·rw[if_pos v] at e;exact af.yes rfl (e g i ⟨j,l,h,n⟩ (y o) (λ_ a=>a))
 rw[if_neg v] at e k;refine af.no rfl ?_;refine aD (Fg.mk (AL h.head rfl) (AMa jH Pg h.map λA B w H=>⟨rfl,?_⟩));rw[AQv] at B;have I:=(Jd m).2.2;have D:FQ A b j (l.filter λp=> !decide (p.1.name=name)) {Hy m with files:=QE name m.files}:=by
  refine⟨w.ag h.head h.gy.symm,B,λE r=>?_,?_,?_,k⟩
  ·have r:=(List.mem_filter.1 r).1;exact w.ag (h.cells E r) (h.eT r).2
  ·have g:=d.perm.filter λf=> !decide (f.name=name)
   rw[On] at g;exact g
  ·exact(List.filter_sublist.map _).nodup d.nodup
 refine e A (Kk b j _) ⟨j,_,D,λ_=>CI⟩ (y (o.trans (w.aj λc _ q=> .inr (.inl q)))) (λc q=>(n c).2 ?_);rcases q with a|a|⟨p,z,rfl⟩
 ·exact .inl a
 ·exact .inr (.inl a)
 ·exact .inr (.inr ⟨p,(List.mem_filter.1 z).1,rfl⟩)
theorem tf {h:al}{a:aa}{e:A2J}(i: ∀b d f,Cf d b f gW->Ext a d->(∀ c,f c->a.size<=c)->e (Ap b) d):AA h P VP #[] a e:=by
 refine AK0 ?_;unfold uD;refine ao.mk λj _ k l q=>ao.mk λm _ n g r=>?_
 refine i _ m (Kk j.size a.size []) ⟨_,[],⟨n,Vh.empty (g.ag k (by simp)),by simp,ID _,by simp,ANB⟩,λ_=>CI⟩ (l.trans g) ?_;rintro c (rfl|rfl|⟨p,o,_⟩)
 ·omega
 ·exact A0 _
 ·cases o
end Go.Lf.G
namespace Go.Proofs
open Go.Shelf
def Tryz.cD:Go.Shelf.Ren:=⟨λ|105=>220|212=>245|99=>246|165=>247|166=>248|170=>249|169=>250|263=>274|264=>275|206=>276|240=>277|241=>278|276=>294|277=>295|a=>a,λ|9=>9|3=>3|4=>4|20=>20|0=>0|46=>153|109=>339|5=>5|72=>343|76=>294|51=>150|146=>151|53=>140|148=>365|70=>341|37=>69|75=>293|127=>367|164=>380|80=>120|a=>a,λ|a=>a⟩
theorem Tryz.eI:Go.Proofs.Lays.n105 Tryz.prog Tryz.cD:=by repeat' first|exact Lf.Da (by kernel_rfl)|kernel_rfl|decide|constructor
theorem Tryz.dN:Builder.Extra Tryz.prog Tryz.cD:=by repeat' first|exact Lf.Da (by kernel_rfl)|kernel_rfl|decide|constructor
theorem Tryz.iB:Lays.n166 Tryz.prog Tryz.cD:= {Tryz.eI with}
theorem Tryz.iC:Lays.n169 Tryz.prog Tryz.cD:= {Tryz.eI with}
def Tryz.eX:Go.Shelf.Ren:=⟨λ|103=>242|210=>263|206=>276|a=>a,λ|9=>9|4=>4|24=>156|3=>3|a=>a,λ|a=>a⟩
theorem Tryz.iD:Go.Proofs.Lays.n103 Tryz.prog Tryz.eX:=by repeat' first|exact Lf.Da (by kernel_rfl)|kernel_rfl|decide|constructor
def Tryz.cK:Go.Shelf.Ren:=⟨λ|14=>243|16=>264|17=>224|19=>288|20=>289|21=>253|22=>254|23=>255|24=>256|25=>283|27=>179|26=>284|28=>221|29=>251|30=>279|31=>280|32=>281|33=>282|35=>217|34=>296|36=>297|37=>298|38=>299|39=>301|40=>302|a=>a,λ|9=>9|3=>3|22=>140|24=>293|25=>336|4=>4|34=>345|5=>5|36=>153|37=>69|0=>0|39=>348|21=>21|44=>373|47=>367|50=>388|48=>386|2=>2|52=>368|55=>370|59=>384|60=>150|20=>20|61=>385|65=>390|66=>391|67=>120|a=>a,λ|0=>0|1=>1|2=>2|3=>4|4=>5|a=>a⟩
theorem Tryz.dO:Go.Proofs.LaysPu.n14 Tryz.prog Tryz.cK:=by repeat' first|exact Lf.Da (by kernel_rfl)|kernel_rfl|decide|constructor
def Tryz.eJ:Go.Shelf.Ren:=⟨λ|171=>179|243=>221|246=>251|283=>279|284=>280|285=>281|286=>282|129=>217|317=>296|318=>297|319=>298|320=>299|337=>301|338=>302|a=>a,λ|3=>3|9=>9|2=>2|4=>4|171=>368|0=>0|53=>140|37=>69|5=>5|173=>370|212=>384|51=>150|20=>20|213=>385|46=>153|232=>390|233=>391|a=>a,λ|17=>2|18=>4|19=>5|a=>a⟩
theorem Tryz.gB:Go.Proofs.LaysM.n171 Tryz.prog Tryz.eJ:=by repeat' first|exact Lf.Da (by kernel_rfl)|kernel_rfl|decide|constructor
def Tryz.eK:Go.Shelf.Ren:=⟨λ|172=>185|244=>223|245=>224|247=>252|279=>253|280=>254|281=>255|282=>256|287=>264|316=>283|171=>179|205=>284|321=>288|322=>289|243=>221|246=>251|283=>279|284=>280|285=>281|286=>282|129=>217|317=>296|318=>297|319=>298|320=>299|337=>301|338=>302|a=>a,λ|9=>9|3=>3|75=>293|76=>294|4=>4|5=>5|167=>345|37=>69|0=>0|85=>346|2=>2|168=>348|53=>140|175=>336|46=>153|210=>373|127=>367|145=>388|143=>386|21=>21|171=>368|173=>370|212=>384|51=>150|20=>20|213=>385|232=>390|233=>391|80=>120|a=>a,λ|15=>0|16=>1|17=>2|18=>4|19=>5|a=>a⟩
theorem Tryz.gC:Go.Proofs.LaysC.n172 Tryz.prog Tryz.eK:=by repeat' first|exact Lf.Da (by kernel_rfl)|kernel_rfl|decide|constructor
end Go.Proofs
namespace Go.Lf
open Go
def Oc(a:Nat):List UInt8:=Lib.repeatL [48] (8-(Lib.decDigits a).length)++Lib.decDigits a
def TV(a:Nat)(l:List UInt8):Nat:=l.foldl (λa c=>a*10+(c.toNat-48)) a
def mu(l:List UInt8):Prop:= ∀c∈l,48<=c.toNat/\c.toNat<=57
theorem oy {a:Nat}(b:a<10):(UInt8.ofNat (48+a)).toNat=48+a:=by simp only[UInt8.toNat_ofNat'];omega
theorem Ze: ∀a:Nat,mu (Lib.decDigits a)/\TV 0 (Lib.decDigits a)=a:=by
 intro a
 induction a using Nat.strongRecOn with
 |ind a g=>
  by_cases d:a<10
  ·rw[Lib.decDigits,dif_pos d];refine⟨λc b=>?_,?_⟩
   ·rw[List.mem_singleton.1 b,oy d];omega
   ·simp only[TV,I3,MD,oy d];omega
  ·rw[Lib.decDigits,dif_neg d];obtain⟨h,e⟩:=g (a / 10) (by omega);have f:a % 10<10:=Cp _ (by decide);refine⟨λc b=>?_,?_⟩
   ·rcases List.mem_append.1 b with b|b
    ·exact h c b
    ·rw[List.mem_singleton.1 b,oy f];omega
   ·unfold TV at e ⊢;rw[I2,e];simp only[I3,MD,oy f];omega
theorem qZ: ∀k:Nat,mu (Lib.repeatL [48] k)/\ ∀l,TV 0 (Lib.repeatL [48] k++l)=TV 0 l
 |0=>⟨λc a=>(by cases a),λl=>rfl⟩
 |k+1=>by
  obtain⟨b,d⟩:=qZ k;refine⟨λc a=>?_,λl=>?_⟩
  ·rcases List.mem_append.1 a with a|a
   ·rw[List.mem_singleton.1 a];decide
   ·exact b c a
  ·show TV 0 (([48]++Lib.repeatL [48] k)++l)=_;rw[A4];exact d l
theorem ra(a:Nat):mu (Oc a)/\TV 0 (Oc a)=a:=by
 refine⟨λc b=>?_,?_⟩
 ·rcases List.mem_append.1 b with b|b
  ·exact(qZ _).1 c b
  ·exact(Ze a).1 c b
 ·exact((qZ _).2 _).trans (Ze a).2
theorem re: ∀(l:List UInt8) (a:Nat),a<=TV a l
 | [],a=>A0 _
 |c::l,a=>by
  have:=re l (a*10+(c.toNat-48));have b:TV a (c::l)=TV (a*10+(c.toNat-48)) l:=rfl;rw[b];omega
theorem we: ∀(l:List UInt8) (a:Nat),mu l->TV a l<=4294967295->Lib.parseUintM 4294967295 a l= .ok (TV a l)
 | [],a,_,_=>rfl
 |c::l,a,hd,b=>by
  have d:TV a (c::l)=TV (a*10+(c.toNat-48)) l:=rfl;rw[d] at b ⊢;have e:=hd c (by simp);have g:=re l (a*10+(c.toNat-48));unfold Lib.parseUintM;rw[if_pos e,if_neg (by omega),if_neg (by omega)];exact we l _ (λx f=>hd x (AG _ f)) b
theorem wg: ∀(l:List UInt8) (a:Nat) {u:Nat},a<=4294967295->Lib.parseUintM 4294967295 a l= .ok u->u<=4294967295
 | [],a,u,d,b=>by
  unfold Lib.parseUintM at b;injection b with b;omega
 |c::l,a,u,d,b=>by
  unfold Lib.parseUintM at b;split at b
  ·split at b
   ·cases b
   ·split at b
    ·cases b
    ·exact wg l _ (by omega) b
  ·cases b
theorem wh {a:Nat}(d:a<=4294967295):Lib.parseUintB 32 (Oc a)= .ok a:=by
 obtain⟨e,b⟩:=ra a;have f:Oc a≠ []:=by intro g;have h:Lib.decDigits a= []:=(List.append_eq_nil_iff.1 g).2;have c:=congrArg List.length h;rw[Lib.decDigits_length] at c;have:=Lib.nDigits_pos a;simp at c;omega
 unfold Lib.parseUintB;rw[if_neg f];have:=we (Oc a) 0 e (by rw[b];exact d);rw[b] at this;exact this
theorem APx {a b:Nat}(d:Oc a=Oc b):a=b:=by have c:=(ra a).2;rw[d,(ra b).2] at c;exact c.symm
theorem AJT {k:Nat}: ∀ {n:Nat},n<10^(k+1)->Lib.nDigits n<=k+1:=by
 induction k with
 |zero=>intro n a;rw[Lib.nDigits_small (by simpa using a)];omega
 |succ k c=>
  intro n a;by_cases b:n<10
  ·rw[Lib.nDigits_small b];omega
  ·rw[Lib.nDigits_big b];have:=c (n:=n / 10) (by rw[DM] at a;omega);omega
theorem wk {n:Nat}(a:n<=99999999):(Oc n).length=8:=by have b:=AJT (k:=7) (n:=n) (by have:(10:Nat)^(7+1)=100000000:=(by decide);omega);simp only[Oc,A1,Lib.repeatL_length,Lib.decDigits_length,CN];omega
theorem AJu {a:Nat}(b:(Oc a).length=8):a<=99999999:=by
 have c:Lib.nDigits a<=8:=by simp only[Oc,A1,Lib.repeatL_length,Lib.decDigits_length,CN] at b;omega
 have d:=Lib.lt_pow_nDigits a;have e:(10:Nat)^Lib.nDigits a<=10^8:=PF (by decide) c;have:(10:Nat)^8=100000000:=by decide
 omega
def aC(a:A2K)(b:Nat):A2K:=a++AY (Oc b)
theorem Rk(a:A2K)(b:Nat):bl (aC a b)=bl a++Oc b:=by show(a++AY (Oc b)).data.toList=a.data.toList++Oc b;rw[Hb,IN];exact congrArg _ (Bl _)
theorem Iw {a:A2K}{b c:Nat}(e:aC a b=aC a c):b=c:=by have d:=congrArg bl e;rw[Rk,Rk] at d;exact APx (Jx d)
theorem APa {nm:A2K}{a:Nat}(b:a<=99999999):(aC nm a).size=nm.size+8:=by rw[aC,Hk,AP,wk b]
inductive NW:List UInt8->List (List UInt8)->Prop
 |stop {l:List UInt8} (h:(Dc l).1≠0):NW l []
 |step {l:List UInt8} {rs:List (List UInt8)} (h:(Dc l).1=0) (s:NW (Dc l).2.2 rs):NW l ((Dc l).2.1::rs)
theorem rf {l:List UInt8}(a:(Dc l).1=0):(Dc l).2.1.length+(Dc l).2.2.length<l.length:=by
 unfold Dc at a ⊢;cases b:MK 0 0 l with
 |none=>rw[b] at a;dsimp only at a;split at a<;>cases a
 |some p=>
  obtain⟨g,t⟩:=p;rw[b] at a;obtain⟨c,_⟩:=kZ b;have h:t.length<=l.length:=by rw[c];simp
  dsimp only at a ⊢;split at a
  ·cases a
  ·rename_i d;split at a
   ·cases a
   ·rename_i e;split at a
    ·rename_i f;rw[if_neg d,if_neg e,if_pos f];simp only[As,Cl];omega
    ·cases a
theorem rh: ∀(k:Nat) (l:List UInt8),l.length<=k-> ∃a,NW l a/\(a.map (·.length+1)).sum<=l.length
 |0,l,c=>by
  have:l= []:=CT (by omega);subst this;exact⟨[],.stop (by decide),by simp⟩
 |k+1,l,c=>by
  by_cases b:(Dc l).1=0
  ·have e:=rf b;obtain⟨a,d,f⟩:=rh k (Dc l).2.2 (by omega);exact⟨_,.step b d,by simp only[BT,GF];omega⟩
  ·exact⟨[],.stop b,by simp⟩
theorem NW.uniq {l:List UInt8}{d ts:List (List UInt8)}(a:NW l d):NW l ts->d=ts:=by
 induction a generalizing ts with
 |stop a=>
  intro c;cases c with
  |stop=>rfl
  |step b=>exact absurd b a
 |step a s e=>
  intro c;cases c with
  |stop b=>exact absurd a b
  |step b f=>rw[e f]
noncomputable def kW (l:List UInt8):List (List UInt8):=(rh l.length l (A0 _)).choose
theorem ri(l:List UInt8):NW l (kW l):=(rh l.length l (A0 _)).choose_spec.1
theorem APT {l:List UInt8}{a:List (List UInt8)}(b:NW l a):kW l=a:=(ri l).uniq b
abbrev aI(a:List (List UInt8)):List UInt8:=a.flatMap CY
theorem Rq {rs:List (List UInt8)}(c: ∀a∈rs,a.length<=1048576){t:List UInt8}(d:(Dc t).1≠0):NW (aI rs++t) rs:=by
 induction rs with
 |nil=>exact .stop d
 |cons a rs e=>
  have b:=rH (l:=a) (c a (by simp)) (aI rs++t);have f:aI (a::rs)++t=CY a++(aI rs++t):=by simp
  rw[f];have:=NW.step (l:=CY a++(aI rs++t)) (rs:=rs) (by rw[b]) (by rw[b];exact e λx g=>c x (AG _ g));rw[b] at this;exact this
theorem UT:(Dc []).1≠0:=by decide
theorem AMy {a:List UInt8}(m:a.length<=1048576){b:Nat}(n:b<(CY a).length):(Dc ((CY a).take b)).1≠0:=by
 have d:(CY a).take b++(CY a).drop b=CY a:=DE _ _;have o:((CY a).drop b).length≠0:=by rw[Cl];omega
 generalize (CY a).take b=p at*
 generalize (CY a).drop b=e at*
 unfold Dc;cases f:MK 0 0 p with
 |none=>dsimp only;split<;>simp
 |some z=>
  obtain⟨g,t⟩:=z;obtain⟨h,i⟩:=kZ f;have j:MK 0 0 (CY a)=some (g,t++e):=by rw[<- d,h,A4];exact OW i _
  have c:MK 0 0 (CY a)=some (a.length,RI (jf a)++a):=by unfold CY;rw[A4];exact OW (by omega) _
  rw[j] at c;obtain⟨rfl,k⟩:=Prod.mk.inj (By c);have l:=congrArg List.length k;simp only[A1,Jj] at l;dsimp only;rw[if_neg (by omega),if_pos (by omega)];simp
theorem Jc {r:List UInt8}(a:r.length<=1048576):r.length+5<=(CY r).length/\(CY r).length<=r.length+14:=by
 have b:=AV (n:=r.length) (by omega);have c:1<=(BU r.length).length:=by rw[BU];split<;>simp
 simp only[CY,A1,Jj];omega
end Go.Lf
namespace Go.Lf.G
open Go
def oQ:String:=Proofs.YtgpmoonnachoaaaGreatDoor.Rows.archiveMovesRow.named.getD 2 (String.ofList [])
def cY(a:aa):Prop:= ∀(b:al) (c:Nat),Lib.TabIs P (b.at a c) oQ .u64 Lib.pow10Tab
theorem cY.ext {a b:aa}(t:cY a)(x:Ext a b):cY b:=by intro c d;have e:=(Lib.tabBelow_of_tabIs (t c d)) (c.at b d) ⟨rfl,rfl,rfl,x.size,λf g=>x.get f g (λa=>a)⟩;exact e
def lh(b:aa)(g:Nat):Prop:= ∃a,ah b ⟨g,0,none⟩=some a/\(a= .nilIface\/ ∃c d,a= .iface c d)
theorem lh.ext {a b:aa}{g:Nat}(c:lh a g)(x:Ext a b):lh b g:=by obtain⟨d,e,f⟩:=c;exact⟨d,x.ah e,f⟩
structure cp (h:aa):Prop where
 cO:cY h
 sI:lh h (Proofs.Tryz.cK.g 0)
 sJ:lh h (Proofs.Tryz.cK.g 1)
theorem cp.ext {b c:aa}(a:cp b)(x:Ext b c):cp c:=⟨a.cO.ext x,a.sI.ext x,a.sJ.ext x⟩
theorem rV {e:al}{d:aa}{i:Nat}{a:World}(b:RowKit.Below d.size (e.at d i) a):a=e.at a.heap a.drawn/\Ext d a.heap:=by obtain⟨f,g,h,j,k⟩:=b;refine⟨?_,⟨j,λc l _=>k c l⟩⟩;cases a;simp only[al.at] at f g h ⊢;subst f g h;rfl
theorem yD {d:al}{b:aa}{e:Nat}{a:Q6}{v:J0}(c:ah b a=some v):(d.at b e).cell? a=some v:=by unfold ah at c;unfold World.cell?;exact c
theorem yE {d:al}{a:aa}{c:Int}{e:A2J}(t:cY a)(g: -9223372036854775808<=c)(h:c<=9223372036854775807)(i: ∀f,Ext a f->e (J7 ⟨(Lib.itoa c).toArray⟩) f):
  AA d P Oy #[J6 J9 c] a e:=by
 intro m;refine Calls.mono (Proofs.Any.strconv_Itoa Proofs.Tryz.gB c g h (d.at a m) (t d m)) ?_;rintro l n ⟨rfl,j,os,rfl⟩;refine⟨_,rfl,a++os,m+j,rfl,i _ ⟨by simp,λb k _=>by rw[LR k]⟩⟩
theorem ANF {b:al}{a:aa}{s:A2K}{c:Nat}{d:A2J}(g:c<=8)(h:s.size<=8)(i: ∀e,Ext a e->d (J7 (AY (Lib.repeatL (bl s) c))) e):
  AA b P Qk #[J7 s,J6 J9 c] a d:=by
 intro m;have k:s.size*c<=8*8:=Nat.mul_le_mul h g;refine Calls.mono (Proofs.Any.strings_Repeat Proofs.Tryz.eI Proofs.Tryz.dN s c (b.at a m) (by omega) (by omega)) ?_;rintro l f ⟨rfl,hB⟩;obtain⟨j,x⟩:=rV hB;exact⟨_,rfl,f.heap,f.drawn,j,i _ x⟩
theorem AGZ {b:al}{a:aa}{s p:A2K}{c:A2J}(d:c (J1 #[J7 (AY (Lib.trimPrefix (bl s) (bl p))),J3 (Lib.hasPrefix (bl s) (bl p))]) a):
  AA b P Ng #[J7 s,J7 p] a c:=by
 intro m;refine Calls.mono (Proofs.Any.strings_CutPrefix Proofs.Tryz.iD s p (b.at a m)) ?_;rintro e f ⟨rfl,rfl⟩;exact⟨_,rfl,a,m,rfl,d⟩
theorem AOv {g:al}{a:aa}{s:A2K}{h:A2J}(o:cp a)(y:s.size<=8)
  (p: ∀u:Nat,Lib.parseUintB 32 (bl s)= .ok u-> ∀e,Ext a e->h (J1 #[.int .u64 u,.nilIface]) e)
  (q:(∀ u,Lib.parseUintB 32 (bl s)≠ .ok u)-> ∀e (w:Int) t v,Ext a e->h (J1 #[.int .u64 w,.iface t v]) e):
  AA g P Nq #[J7 s,J6 J9 10,J6 J9 32] a h:=by
 intro m;cases c:Lib.parseUintB 32 (bl s)
 ·rename_i u;refine Calls.mono (Proofs.Any.strconv_ParseUint_10_at32_ok Proofs.Tryz.dO s (by omega) u c (g.at a m)) ?_;rintro r d ⟨rfl,i|i⟩
  ·subst i;exact⟨_,rfl,a,m,rfl,p u c a Mod.refl⟩
  ·subst i;refine⟨_,rfl,_,_,rfl,p u c _ ?_⟩;refine⟨?_,λb z _=>?_⟩
   ·simp[Lib.bytesWorld,World.freeze,World.alloc,World.drew,al.at]
   ·simp[Lib.bytesWorld,World.freeze,World.alloc,World.drew,al.at,Gk,Array.getElem?_push];rw[if_neg (by omega),if_neg (by omega)]
 ·obtain⟨j,k,l⟩:=o.sI;refine Calls.mono (Proofs.Any.strconv_ParseUint_10_at32_syntax Proofs.Tryz.dO s (by omega) c j (g.at a m) (yD k) l) ?_;rintro r d ⟨N,rfl,_,_,hB⟩;obtain⟨n,x⟩:=rV hB;exact⟨_,rfl,d.heap,d.drawn,n,q (λu f=>by rw[c] at f;cases f) _ _ _ _ x⟩
 ·obtain⟨j,k,l⟩:=o.sJ;refine Calls.mono (Proofs.Any.strconv_ParseUint_10_at32_range Proofs.Tryz.dO s (by omega) c j (g.at a m) (yD k) l) ?_;rintro r d ⟨N,rfl,_,_,hB⟩;obtain⟨n,x⟩:=rV hB;exact⟨_,rfl,d.heap,d.drawn,n,q (λu f=>by rw[c] at f;cases f) _ _ _ _ x⟩
theorem Ym {g:al}{c:aa}{b:A2K}{a:Nat}{d:A2J}(h:cp c)(p:a<=4294967295)(q:b.size<=1099511627776)(i: ∀e,Ext c e->d (J7 (aC b a)) e):
  AA g P Kb #[J7 b,J6 J9 a] c d:=by
 refine AHq ?_;unfold uq;refine yE h.cO (by omega) (by omega) λr j=>⟨_,rfl,?_⟩
 have k:Lib.itoa (a:Int)=Lib.decDigits a:=Lib.itoa_nonneg a;rw[k];have f:(⟨(Lib.decDigits a).toArray⟩:A2K).size=(Lib.decDigits a).length:=by simp[ByteArray.size]
 have s:(Lib.decDigits a).length<=20:=by rw[Lib.decDigits_length];exact Lib.nDigits_le20 a (by omega)
 have l:(if((J8 J9 ((8:Int)-(((⟨(Lib.decDigits a).toArray⟩:A2K).size:Nat):Int))):Int)>0 then(J8 J9 ((8:Int)-(((⟨(Lib.decDigits a).toArray⟩:A2K).size:Nat):Int))) else 0)=((8-(Lib.decDigits a).length:Nat):Int):=by rw[f,wrap_i64 (by omega) (by omega)];split<;>omega
 rw[l];refine ANF (by omega) (by decide) λm n=>⟨_,rfl,?_,?_,?_⟩
 ·have:(AY (Lib.repeatL (bl ⟨#[48]⟩) (8-(Lib.decDigits a).length))).size<=8:=by rw[AP,Lib.repeatL_length];simp[bl]
  rw[max_i64];omega
 ·have:(AY (Lib.repeatL (bl ⟨#[48]⟩) (8-(Lib.decDigits a).length))).size<=8:=by rw[AP,Lib.repeatL_length];simp[bl]
  rw[Hk,max_i64,f];omega
 ·have:=i m (j.trans n);have o:aC b a=(b++AY (Lib.repeatL (bl ⟨#[48]⟩) (8-(Lib.decDigits a).length)))++⟨(Lib.decDigits a).toArray⟩:=by rw[aC,Oc,<-Ak,ByteArray.append_assoc];rfl
  rw[o] at this;exact this
theorem AMm {I:al}{h:aa}{c s:A2K}{q:A2J}(C:cp h)(J:c.size<=1099511627776)(U:s.size<=1099511627776)
  (D: ∀i (k:Nat),Ext h i->(k=0-> ∀a:Nat,1<=a->a<=99999999->s≠aC c a)->(k≠0->k<=99999999/\s=aC c k)->q (J6 J9 k) i):
  AA I P SB #[J7 c,J7 s] h q:=by
 refine AEo ?_;unfold X6;have m: ∀i,Ext h i->(∀ a:Nat,1<=a->a<=99999999->s≠aC c a)->q (J6 J9 0) i:=λi x r=>D i 0 x (λ_=>r) (λh=>absurd rfl h)
 refine AGZ ⟨_,_,rfl,?_⟩;cases l:Lib.hasPrefix (bl s) (bl c) with
 |false=>
  refine ai.mk λK o=>af.yes rfl (o _ _ (af.yes rfl (m h Mod.refl λa _ _ g=>?_)))
  subst g;rw[Rk] at l;unfold Lib.hasPrefix at l;rw[Sf] at l;exact l (List.isPrefixOf_iff_prefix.2 (List.prefix_append _ _))
 |true=>
  have E:=l;unfold Lib.hasPrefix at E;obtain⟨f,hd⟩:=List.isPrefixOf_iff_prefix.1 E;have L:Lib.trimPrefix (bl s) (bl c)=f:=by unfold Lib.trimPrefix;rw[if_pos l,<-hd];simp
  rw[L];refine ai.mk λK o=>af.no rfl ?_
  have M: ∀b:Bool,b=true->(∀ a:Nat,1<=a->a<=99999999->s≠aC c a)->K (b,()) h:=λb N r=>o _ _ (af.yes N (m h Mod.refl r))
  have F:(AY f).size=f.length:=AP f;by_cases w:f.length=8
  ·refine o _ _ (af.no (by simp[F,w]) ?_);have G:bl (AY f)=f:=EF f;refine AOv C (by omega) (λu j e p=>⟨_,_,rfl,?_⟩) (λj e k t v p=>⟨_,_,rfl,ai.mk λO y=>?_⟩)
   ·rw[G] at j;have Q:u<=4294967295:=by
     have:Lib.parseUintB 32 f= .ok u:=j;unfold Lib.parseUintB at this;split at this
     ·cases this
     ·exact wg f 0 (by omega) this
    have R:J8 J9 (u:Int)=(u:Int):=wrap_i64 (by omega) (by omega);rw[R];refine ai.mk λO y=>?_
    refine⟨trivial,af.no rfl ?_⟩;refine Ym (C.ext p) Q J λz S=>⟨_,rfl,y _ _ ?_⟩
    have A:=p.trans S;refine af.intro (λd=>?_) (λd=>?_)
    ·have d:aC c u≠s:=by
      intro g;have:bQ (aC c u) s=true:=by rw[Cn];exact decide_eq_true g
      dsimp only at d;rw[this] at d;cases d
     refine m z A λa _ B g=>d ?_
     have e:bl s=bl c++Oc a:=by rw[g,Rk]
     rw[<- hd] at e;have n:f=Oc a:=Jx e;rw[n,wh (by omega)] at j;have:a=u:=by injection j
     rw[<- this];exact g.symm
    ·have d:aC c u=s:=by
      have d:(!bQ (aC c u) s)=false:=d;have d:bQ (aC c u) s=true:=by simpa using d
      rw[Cn] at d;exact of_decide_eq_true d
     have e:bl s=bl c++Oc u:=by rw[<- d,Rk]
     rw[<- hd] at e;have n:f=Oc u:=Jx e;have T:u<=99999999:=AJu (by rw[<- n];exact w);by_cases H:u=0
     ·subst H;refine m z A λa V _ g=>?_
      have:=Iw (g.symm.trans d.symm);omega
     ·exact D z u A (λh=>absurd h H) λ_=>⟨T,d.symm⟩
   ·rw[G] at j;refine⟨trivial,af.yes rfl (y _ _ (af.yes rfl (m e p λa _ B g=>?_)))⟩;have e:bl s=bl c++Oc a:=by rw[g,Rk]
    rw[<- hd] at e;have n:f=Oc a:=Jx e;exact j a (by rw[n];exact wh (by omega))
  ·refine M _ (by simp[F];omega) λa _ B g=>w ?_
   have e:bl s=bl c++Oc a:=by rw[g,Rk]
   rw[<- hd] at e;rw[Jx e,wk B]
open Go Go.ChangeShapes Go.WideShapes Go.ChangeAt Go.RowKit Go.Proofs.YtgpmoonnachoaaaGreatDoor
theorem vL {H:Type}{enc:Q7×J0->H}{P:Q1}(d:laidOutB P=true){e f:World}{g:Nat->Bool}: ∀ {ts:List Q7} {c:List J0} {ds:List (DataW H)} {ps:List MemPlace},
  (ts.all λt=>P.readableRec t&&decide (t<P.types.size))=true->DataW.TrodAll enc P e 0 (λ_=>true) true ts c ds ps->(∀ p∈ps,e.sameAt f p)->(∀ p∈ps,g p.block=true)->DataW.TrodAll enc P f 0 g true ts c ds ps
 | [],[],[],_,_,j,_,_=>j
 |t::ts,v::c,o::ds,_,b,⟨p,k,l,m,n⟩,h,i=>by
  simp only[Hi,A3,decide_eq_true_eq] at b;subst n;exact⟨p,k,WideElems.Trod_stays d b.1.1 b.1.2 l (λx a=>h x (HE _ a)) (λx a=>i x (HE _ a)),
   vL d (by simpa using b.2) m (λx a=>h x (IH _ a)) (λx a=>i x (IH _ a)),rfl⟩
def mj(a:World):al:=⟨a.tape,a.os,a.output⟩
theorem AO3 {H:Type}{enc:Q7×J0->H}{P:Q1}{f:Func}{s:ChangeSpec}{a:World}{args:Array J0}{ds d:List (DataW H)}{j:List MemPlace}{q:Q7}{e:aa}{k:Nat}
  (l:DataW.Whole enc P f.params.toList s.vars false a args.toList ds d j) (r:s.vars= []) (y:(s.fn H (ds++d)).results= [.lit (.bool true)]) (z:(s.fn H (ds++d)).args=ds) (A:(s.fn H (ds++d)).vars= [])
  (B:laidOutB P=true) (g:(f.params.toList.all λt=>P.readableRec t&&decide (t<P.types.size))=true) (C:f.resultTypes= #[q]) (D:P.underlying q=some .bool) (x:Ext a.heap e):
  s.post enc P f false true false false a args (.bool true) ((mj a).at e k):=by
 have u:=λp (g:p∈j)=>l.lt p g
 have E: ∀p∈j,a.sameAt ((mj a).at e k) p:=λp g=>by
  have v:e[p.block]? =a.heap[p.block]? :=x.get _ (u p g) (λh=>h);cases p with
  |cell b off=>
   show ah e ⟨b,off,none⟩=ah a.heap ⟨b,off,none⟩;exact Qn v
  |map b=>exact v
 obtain⟨p,F,hA,m,rfl,L,M⟩:=id l;rw[r] at m;have G:d= []/\F= []:=by
  cases d with
  |nil=>exact⟨rfl,m⟩
  |cons _ _=>exact m.elim
 obtain⟨rfl,rfl⟩:=G;refine⟨ds,[],p++ [],[],p,[],l,?_,?_,?_,?_,λh=>by cases h⟩
 ·rw[y,C];exact⟨[],[],⟨1,by simp[DataW.trod,Value.cells,D]⟩,rfl,rfl⟩
 ·rw[z];exact vL B g hA (λn o=>E n (HE _ o)) (λn o=>by simpa using u n (HE _ o))
 ·rw[r,A];rfl
 ·refine⟨rfl,rfl,λi I=>?_⟩;have J:((mj a).at e k).heap[i]? =a.heap[i]? :=x.get i I (λh=>h);rw[J];cases N:a.heap[i]? with
  |none=>trivial
  |some K=>
   cases K with
   |cells c t fr=>exact⟨rfl,rfl,rfl,λ_ _=>rfl⟩
   |map O Q=>exact .inr ⟨rfl,rfl⟩
   |_=>rfl
theorem laid:laidOutB P=true:=by kernel_rfl
section
variable {H : Type} {enc : Q7 × J0 -> H} {w : World} {base : Nat} {spare : Nat -> Bool} {held : Bool}
end
theorem ATp:P.underlying Bq=some (.int J9):=by kernel_rfl
theorem ASO:P.underlying qO=some .bool:=by kernel_rfl
theorem ASw:P.underlying BI=some .string:=by kernel_rfl
theorem AUD:P.cellsOf BI=1:=by kernel_rfl
theorem wf_i64 {a:Int}(b:(Lit.int J9 a).wf=true): -9223372036854775808<=a/\a<=9223372036854775807:=by simp[Lit.wf,IntKind.min,IntKind.max,IntKind.bits,IntKind.signed] at b;omega
section
variable {H : Type} {enc : Q7 × J0 -> H} {w : World} {base : Nat} {spare : Nat -> Bool} {held : Bool}
end
end Go.Lf.G
namespace Go.Lf
open Go
def xK(a:A2K)(i:Nat):Nat:=(mD a+i*oL a) % 4294967296
def cP(a:A2K)(m i:Nat):Nat:=xK a i % (8*m)
def TT(f:List UInt8)(a:Nat):Bool:=((f[a / 8]?).getD 0).toNat.testBit (a % 8)
def gk(f:List UInt8)(a:Nat):List UInt8:=f.set (a / 8) (Bn (((f[a / 8]?).getD 0).toNat ||| 2^(a % 8)))
theorem AQK(f:List UInt8)(a:Nat):(gk f a).length=f.length:=by simp[gk]
theorem wA {c a:Nat}(b:c<256)(d:a<8):c ||| 2^a<256:=by have e:2^a<2^8:=Nat.pow_lt_pow_right (by decide) d;have:c ||| 2^a<2^8:=JT (by simpa using b) e;simpa using this
theorem ART {f:List UInt8}{a:Nat}(c:a / 8<f.length)(x:Nat):TT (gk f a) x=(TT f x||decide (x=a)):=by
 unfold TT gk;have d:a % 8<8:=Cp _ (by decide);by_cases b:x / 8=a / 8
 ·rw[b,HN c,GS,Dr (wA (UInt8.toNat_lt _) d),Nat.testBit_or,Nat.testBit_two_pow];congr 1;rw[G0,decide_eq_true_iff,decide_eq_true_iff];omega
 ·rw[IT (by omega)];have:x≠a:=λe=>b (by rw[e])
  simp[this]
def ZO(m:Nat)(f:List UInt8)(a:A2K):List UInt8:=(List.range 4).foldl (λf i=>gk f (cP a m i)) f
theorem rm {k:A2K}{m i:Nat}(a:1<=m):cP k m i<8*m:=Cp _ (by omega)
theorem Um {k:A2K}{m:Nat}(b:1<=m): ∀(l:List Nat) (f:List UInt8),f.length=m->(l.foldl (λf i=>gk f (cP k m i)) f).length=m/\ ∀x,TT (l.foldl (λf i=>gk f (cP k m i)) f) x=(TT f x||l.any λi=>decide (x=cP k m i))
 | [],f,a=>⟨a,λx=>by simp⟩
 |i::l,f,a=>by
  have c:cP k m i / 8<f.length:=by have:=rm (k:=k) (i:=i) b;omega
  obtain⟨d,e⟩:=Um (k:=k) b l (gk f (cP k m i)) (by rw[AQK,a]);refine⟨d,λx=>?_⟩;rw[I3,e,ART c,List.any_cons,Bool.or_assoc]
theorem AN0 {k:A2K}{m:Nat}(a:1<=m){f:List UInt8}(b:f.length=m):(ZO m f k).length=m:=(Um a _ f b).1
theorem APV {a:A2K}{m:Nat}(b:1<=m){f:List UInt8}(c:f.length=m){x:Nat}(d:TT f x=true):TT (ZO m f a) x=true:=by unfold ZO;rw[(Um b _ f c).2,d];rfl
theorem AOH {a:A2K}{m:Nat}(b:1<=m){f:List UInt8}(c:f.length=m){i:Nat}(d:i<4):TT (ZO m f a) (cP a m i)=true:=by unfold ZO;rw[(Um b _ f c).2,Ds];right;rw[List.any_eq_true];exact⟨i,List.mem_range.2 d,by simp⟩
def NR(m:Nat):List UInt8:=List.replicate m 0
def jW(a:List A2K)(m:Nat):List UInt8:=a.foldl (ZO m) (NR m)
def oA(f:List UInt8)(a:A2K):Bool:=(List.range 4).all λi=>TT f (cP a f.length i)
def gT(f:List UInt8)(a:A2K):Bool:=decide (f≠ [])&&decide (f.length<=8192)&&oA f a
theorem Vb {m:Nat}(c:1<=m): ∀(a:List A2K) (f:List UInt8),f.length=m->(a.foldl (ZO m) f).length=m/\(∀ x,TT f x=true->TT (a.foldl (ZO m) f) x=true)/\ ∀k∈a,∀i,i<4->TT (a.foldl (ZO m) f) (cP k m i)=true
 | [],f,b=>⟨b,λx d=>d,λk j=>by cases j⟩
 |k::a,f,b=>by
  have l:=AN0 (k:=k) c b;obtain⟨n,g,o⟩:=Vb c a (ZO m f k) l;refine⟨n,λx d=>g x (APV c b d),λp e i h=>?_⟩;rcases List.mem_cons.1 e with rfl|e
  ·exact g _ (AOH c b h)
  ·exact o p e i h
theorem AO9 {b:List A2K}{m:Nat}(d:1<=m)(e:m<=8192){c:A2K}(f:c∈b):gT (jW b m) c=true:=by obtain⟨a,_,g⟩:=Vb d b (NR m) (by simp[NR]);have a:(jW b m).length=m:=a;unfold gT oA;rw[a,A3,A3,decide_eq_true_iff,decide_eq_true_iff,DO];refine⟨⟨λh=>?_,e⟩,λi j=>g c f i (List.mem_range.1 j)⟩;rw[h] at a;simp at a;omega
theorem APk {a:List A2K}{m:Nat}(b:1<=m):(jW a m).length=m:=(Vb b a (NR m) (by simp[NR])).1
theorem AOI(v:J0)(a:Nat):(madeCells #[v] a).toList=List.replicate a v:=by
 apply List.ext_getElem
 ·simp[madeCells]
 ·intro i b c;simp[madeCells,Nat.mod_one]
theorem wL {a:Type}{b:cE a}{c:a}{v:J0}(d:b.enc c= [v]): ∀n,(List.replicate n c).flatMap b.enc=List.replicate n v
 |0=>rfl
 |n+1=>by rw[List.replicate_succ,List.replicate_succ,AF,d,wL d n];rfl
theorem wM {e:al}{P:Q1}{f:Type}{E:cE f}{x0:f}{v z:J0}{t T:Q7}{g:Nat}(p:P.underlying t=some (.slice T))(c:(P.info? T).map (λi=>(i.zero,i.size,i.bytes))=some (some z,1,g))
  (q:z.cells= #[v]) (h:E.w=1) (r:E.enc x0= [v]) {a:aa} {n:Nat} {j k:IntKind} (A:n*g<=140737488355328) (l:n<=maxLen) {K:Sl->aa->Prop}
  (u: ∀b,Own E T b ⟨some ⟨a.size,0,none⟩,n,n⟩ (List.replicate n x0)->Ext a b->b.size=a.size+1->K ⟨some ⟨a.size,0,none⟩,n,n⟩ b):
  BD e P (Instr.makeSlice t (.int j (n:Int)) (.int k (n:Int))) a λv b=> ∃s:Sl,v= .slice s.p s.len s.cap/\K s b:=by
 intro m;cases d:P.info? T with
 |none=>rw[d] at c;simp at c
 |some i=>
  rw[d] at c;simp only[HP,BE,LL] at c;obtain⟨w,x,y⟩:=c;have hB:((i.bytes:Nat):Int)*((n:Nat):Int)<=281474976710656:=by rw[y,<-Int.natCast_mul,CM];omega
  have o:=run_make (P:=P) (e.at a m) t T i z p d w j k (n:Int) (n:Int) (by omega) (GO _) hB (by simp only[maxLen] at l;omega);simp only[An,x,Bs,q] at o;refine⟨_,a.push (.cells (madeCells #[v] n) T),m,o,⟨some ⟨a.size,0,none⟩,n,n⟩,rfl,u _ ⟨by simp,.inr ⟨a.size,madeCells #[v] n,rfl,by simp,A0 _,l,by simp[size_madeCells,h],?_⟩⟩ (Mod.push a _) (by simp)⟩;show(madeCells #[v] n).toList.take (n*E.w)=_;rw[AOI,h,Bs,Ax (by simp),wL r]
theorem wN {m:Nat}(a:m<=8192):J8 .u32 (J8 J9 ((8:Int)*((m:Nat):Int)))=((8*m:Nat):Int):=by rw[show(8:Int)*((m:Nat):Int)=((8*m:Nat):Int) by omega,Eb (by omega),wrap_u32,AE (by omega)]
theorem ATQ(a:A2K)(i:Nat):xK a i<4294967296:=Cp _ (by decide)
theorem wO(a:A2K)(i:Nat):J8 .u32 (((xK a i:Nat):Int)+((oL a:Nat):Int))=((xK a (i+1):Nat):Int):=by rw[<- Int.natCast_add,wrap_u32];congr 1;unfold xK;rw[Nat.mod_add_mod,Bm,N4,HG]
theorem wP(a:A2K):xK a 0=mD a:=by unfold xK;rw[HT,FG,AE (xT a)]
theorem wQ(x m:Nat):((x:Nat):Int).tmod ((m:Nat):Int)=((x % m:Nat):Int):=(LO x m).symm
theorem wR(x:Nat):((x:Nat):Int).tdiv (8:Int)=((x / 8:Nat):Int):=(Int.ofNat_tdiv x 8).symm
theorem wS(x:Nat):((x:Nat):Int).tmod (8:Int)=((x % 8:Nat):Int):=(LO x 8).symm
theorem wT(x:Nat):min (((x % 8:Nat):Int).toNat) (IntKind.bits .u8)=x % 8:=by rw[An];show min (x % 8) 8=_;omega
theorem AQh {c a:Nat}(d:c<256):(Gm .u8 (((c:Nat):Int).fdiv ((2:Int)^a)) (1:Int)==(0:Int))= !(c.testBit a):=by have e:c / 2^a<256:=R0 (R1 _ _) d;rw[Qm,show(1:Int)=((1:Nat):Int) from rfl,y9 e (by decide),Nat.and_one_is_mod,Nat.testBit_eq_decide_div_mod_eq];generalize c / 2^a=f;rcases Nat.mod_two_eq_zero_or_one f with b|b<;>rw[b]<;>rfl
theorem ASn {c a:Nat}(d:c<256)(e:a<8):dS .u8 ((c:Nat):Int) (J8 .u8 ((1:Int)*((2:Int)^a)))=((c ||| 2^a:Nat):Int):=by
 have b:2^a<256:=by have:2^a<2^8:=Nat.pow_lt_pow_right (by decide) e;simpa using this
 have f:(1:Int)*((2:Int)^a)=((2^a:Nat):Int):=by rw[Int.one_mul,Int.natCast_pow];rfl
 rw[f,wrap_u8,AE b,y7 d b]
end Go.Lf
namespace Go.Lf.G
open Go
theorem ANA {a:A2K}{i:Nat}(b:i<a.size): ∃c,a.data.toList[i]? =some c:=by
 have:i<a.data.toList.length:=by simpa using b
 exact⟨_,A2 this⟩
theorem rZ {o:al}{d:aa}{key:A2K}{h:A2J}(r:key.size<=1099511627776)(p:h (.tuple #[.int .u32 (mD key:Int),.int .u32 (oL key:Int)]) d):AA o P La #[.string key] d h:=by
 refine AEj ?_;unfold ZQ;refine Loop.rule (λm x j=> ∃i:Nat,x=(((Ud (key.data.toList.take i)).1:Int),((Ud (key.data.toList.take i)).2:Int),(i:Int),())/\j=d/\m=key.size-i/\i<=key.size) ?_ ⟨0,rfl,rfl,rfl,by omega⟩;rintro K m _ j ⟨i,rfl,e,rfl,s⟩ q;subst e;obtain⟨k,f⟩:=xS (key.data.toList.take i);refine af.intro (λg=>?_) (λg=>?_)
 ·have a:i<key.size:=by simpa using g
  obtain⟨c,l⟩:=ANA a;have n:c.toNat<256:=c.toNat_lt;refine⟨⟨by dsimp only;omega,by dsimp only;omega⟩,⟨by dsimp only;omega,by dsimp only;omega⟩,?_⟩;dsimp only;rw[N8 l,tG k n,ATk f n,Ab (by omega)];refine q (key.size-(i+1)) _ _ (by omega) ⟨i+1,?_,rfl,rfl,a⟩;rw[AD,l,CA,xR]
 ·have a:i=key.size:=by simp at g;omega
  have e:key.data.toList.take i=key.data.toList:=Ax (by simp[a]);dsimp only;rw[e] at k f ⊢;have:dS .u32 (((Ud key.data.toList).2:Nat):Int) (1:Int)=((oL key:Nat):Int):=ASM f (b:=1) (by decide);rw[this];exact p
theorem Xl {f:A2K}:bQ f (⟨#[]⟩:A2K)=decide (bl f= []):=by
 rw[G0,Cn];constructor
 ·intro a;have a:=of_decide_eq_true a;subst a;rfl
 ·intro a;have a:=of_decide_eq_true a;cases f with
  |mk b=>
   have:b= #[]:=by apply Array.toList_inj.1;exact a
   rw[this];rfl
theorem ASJ {f:A2K}{i:Nat}{c:UInt8}(a:(bl f)[i]? =some c):f.data.toList[i]? =some c:=a
theorem yQ {u:al}{l:aa}{f key:A2K}{q:A2J}(v:key.size<=1099511627776)(a:q (.bool (gT (bl f) key)) l):AA u P Pn #[.string f,.string key] l q:=by
 refine AGU ?_;unfold ur;refine ai.mk λK r=>?_
 have g:=A8 f;refine af.intro (λe=>?_) (λe=>?_)
 ·refine r _ _ (af.yes rfl ?_);rw[Xl,decide_eq_true_iff] at e;rw[e] at a;exact a
 ·refine r _ _ ?_;rw[Xl,decide_eq_false_iff_not] at e;refine af.intro (λn=>?_) (λn=>?_)
  ·have h: ¬(bl f).length<=8192:=by simp at n;omega
   have:gT (bl f) key=false:=by unfold gT;rw[decide_eq_false h,NX,G3]
   rw[this] at a;exact a
  ·have h:f.size<=8192:=by simp at n;omega
   have w:1<=f.size:=by rw[<- g];exact List.length_pos_iff.2 e
   refine rZ v ⟨_,_,rfl,?_⟩;refine Loop.rule (λm x s=> ∃i:Nat,x=(((xK key i:Nat):Int),(i:Int),())/\s=l/\m=4-i/\i<=4/\ ∀b,b<i->TT (bl f) (cP key f.size b)=true) ?_ ⟨0,by rw[wP];rfl,rfl,rfl,by omega,λb o=>by omega⟩;rintro E m _ s ⟨i,rfl,y,rfl,F,t⟩ z;subst y;dsimp only;refine af.intro (λp=>?_) (λp=>?_)
   ·have j:i<4:=by simp at p;omega
    have G:cP key f.size i<8*f.size:=rm w;have H:=ATQ key i;rw[wN h,wQ];have A:xK key i % (8*f.size)=cP key f.size i:=rfl;rw[A,wR,wS,wT,wrap_u32,AE (show cP key f.size i / 8<4294967296 by omega)];have B:cP key f.size i / 8<(bl f).length:=by rw[g];omega
    have k:(bl f)[cP key f.size i / 8]? =some (bl f)[cP key f.size i / 8]:=A2 B;obtain⟨c,k⟩: ∃c,(bl f)[cP key f.size i / 8]? =some c:=⟨_,k⟩;rw[N8 (ASJ k),AQh c.toNat_lt];have C:TT (bl f) (cP key f.size i)=c.toNat.testBit (cP key f.size i % 8):=by unfold TT;rw[k];rfl
    refine⟨by omega,⟨by omega,by omega⟩,by omega,?_⟩;rw[<- C];refine af.intro (λd=>?_) (λd=>?_)
    ·have d:TT (bl f) (cP key f.size i)=false:=by simpa using d
     have:gT (bl f) key=false:=by
      unfold gT oA;rw[g];have:((List.range 4).all λi=>TT (bl f) (cP key f.size i))=false:=by rw[List.all_eq_false];exact⟨i,List.mem_range.2 j,by simp[d]⟩
      simp[this]
     rw[this] at a;exact a
    ·have d:TT (bl f) (cP key f.size i)=true:=by simpa using d
     rw[wO,Ab (by omega)];refine z (4-(i+1)) _ _ (by omega) ⟨i+1,rfl,rfl,rfl,j,λb o=>?_⟩;by_cases D:b=i
     ·subst D;exact d
     ·exact t b (by omega)
   ·have j:i=4:=by simp at p;omega
    have:gT (bl f) key=true:=by unfold gT oA;rw[g,A3,A3,decide_eq_true_iff,decide_eq_true_iff,DO];exact⟨⟨e,h⟩,λb o=>t b (by rw[j];exact List.mem_range.1 o)⟩
    rw[this] at a;exact a
theorem yR:(P.info? EE).map (λi=>(i.zero,i.size,i.bytes))=some (some (.int .u8 0),1,1):=by kernel_rfl
theorem VZ:P.underlying DJ=some (.slice EE):=by kernel_rfl
theorem yS:P.underlying EE=some (.int .u8):=by kernel_rfl
theorem yT:P.underlying BI=some .string:=by kernel_rfl
theorem AQN {Q:al}{e:aa}{s:Sl}{ks:List A2K}{m:Nat}{G:A2J}(y:View Ik e s ks)(R: ∀d∈ks,d.size<=1099511627776)(z:1<=m)(S:m<=8192)(ar:ks.length<=1099511627776)(g: ∀b,s.ag=some b->b<e.size)
  (T: ∀H,Ext e H->G (.tuple #[.string (AY (jW ks m)),.int J9 0]) H):AA Q P OI #[.slice s.p s.len s.cap,.int J9 (m:Int)] e G:=by
 refine AEa ?_;unfold Yx;refine ai.mk λK U=>?_
 refine af.no (by simp;omega) ?_;refine U _ _ (af.no (by simp;omega) ?_);refine wM (E:=Ho) (x0:=0) (v:= .int .u8 0) VZ yR rfl rfl rfl (by omega) (by simp only[maxLen];omega) λI J t au=>?_
 have V:List.replicate m (0:UInt8)=NR m:=rfl;rw[V] at J;dsimp only;refine Loop.rule (λk x n=> ∃i:Nat,x=((i:Int),())/\k=ks.length-i/\i<=ks.length/\Mod (λc=>c=e.size) I n/\Own Ho EE n ⟨some ⟨e.size,0,none⟩,m,m⟩ ((ks.take i).foldl (ZO m) (NR m))) ?_ ⟨0,rfl,rfl,by omega,Mod.refl,J⟩;rintro av k _ n ⟨i,rfl,rfl,aw,u,o⟩ W;have X:View Ik n s ks:=(y.ext t).mod u λb Y=>by have:=g b Y;omega
 dsimp only;refine af.intro (λp=>?_) (λp=>?_)
 ·have q:i<ks.length:=by rw[y.len] at p;simp at p;omega
  have A:ks[i]? =some ks[i]:=A2 q;refine X.idx A λa ax h=>?_
  refine AJ.mk h.str ?_;refine rZ (R _ (AW q)) ⟨_,_,rfl,?_⟩;have L:ks.take (i+1)=ks.take i++ [ks[i]]:=by rw[AD,A];rfl
  generalize ks[i]=d at A L;have M:((ks.take i).foldl (ZO m) (NR m)).length=m:=(Vb z (ks.take i) (NR m) (by simp[NR])).1;generalize Z:(ks.take i).foldl (ZO m) (NR m)=w at o M;refine Loop.rule (λk x B=> ∃j:Nat,x=(((xK d j:Nat):Int),(j:Int),())/\k=4-j/\j<=4/\Mod (λc=>c=e.size) I B/\Own Ho EE B ⟨some ⟨e.size,0,none⟩,m,m⟩ ((List.range j).foldl (λf i=>gk f (cP d m i)) w)) ?_ ⟨0,by rw[wP];rfl,rfl,by omega,u,o⟩;rintro ay k _ B ⟨j,rfl,rfl,az,N,r⟩ ab;dsimp only;refine af.intro (λC=>?_) (λC=>?_)
  ·have D:j<4:=by simp at C;omega
   have aA:cP d m j<8*m:=rm z;have ac:xK d j % (8*m)=cP d m j:=rfl;rw[wN S,wQ,ac,wR,wS,wT,wrap_u32,AE (show cP d m j / 8<4294967296 by omega)];have ad:((List.range j).foldl (λf i=>gk f (cP d m i)) w).length=m:=(Um z _ w M).1;generalize ae:(List.range j).foldl (λf i=>gk f (cP d m i)) w=F at r ad;have ah:F[cP d m j / 8]? =some F[cP d m j / 8]:=A2 (by omega);obtain⟨c,h⟩: ∃c,F[cP d m j / 8]? =some c:=⟨_,ah⟩;refine⟨by omega,?_⟩;refine r.view.idx h λaC aD ag=>?_
   rw[An];refine AC.mk ag.byte ⟨by omega,?_⟩;refine r.view.idx h λO aj aE=>?_
   have ak:=ASn c.toNat_lt (show cP d m j % 8<8 by omega);rw[ak];have am:=wA c.toNat_lt (show cP d m j % 8<8 by omega);rw[wO,Ab (by omega),<-add_zero (O.add (cP d m j / 8*1))];refine Own.store (E:=Ho) (i:=cP d m j / 8) (j:=0) (x:=c) (x':=Bn (c.toNat ||| 2^(cP d m j % 8))) (v:= .int .u8 ((c.toNat ||| 2^(cP d m j % 8):Nat):Int)) r h (by show [Value.int .u8 _]=_;rw[Dr am];rfl) (by decide) (λaF an ao aG=>?_) O aj;refine ab (4-(j+1)) _ _ (by omega) ⟨j+1,rfl,rfl,D,N.trans (ao.aj λb _ g=>?_),?_⟩
   ·simp[Sl.ag] at g;exact g.symm
   ·rw[MY,I2,ae,I3,MD];unfold gk;rw[h];exact an
  ·have D:j=4:=by simp at C;omega
   subst D;rw[Ab (by omega)];refine W (ks.length-(i+1)) _ _ (by omega) ⟨i+1,rfl,rfl,q,N,?_⟩;rw[L,I2,Z];exact r
 ·have q:i=ks.length:=by rw[y.len] at p;simp at p;omega
  have ap:ks.take i=ks:=by rw[q];simp
  rw[ap] at o;have aq:((ks.foldl (ZO m) (NR m)))=jW ks m:=rfl;rw[aq] at o;refine Km VZ yS yT (s:=⟨some ⟨e.size,0,none⟩,m,m⟩) (l:=jW ks m) o.view ⟨_,rfl,?_⟩;exact T n ⟨by have:=t.size;have:=u.size;omega,λb g _=>(u.get b (by have:=t.size;omega) (by omega)).trans (t.get b g (by simp))⟩
end Go.Lf.G
namespace Go.Lf
open Go
structure Ls (p:Pr):Prop where
 key:p.key.size≠0
 bI:p.key.size<=64
 ct:p.val.size<=8192
 gone:p.gone=true->p.val.size=0
def Iy(p:Pr):Nat:=if p.gone then 0 else p.val.size+1
def I1(p:Pr):List UInt8:=BF (bl p.key)++(BU (Iy p)++bl p.val)
abbrev BO(l:List Pr):List UInt8:=l.flatMap I1
theorem UN {s:A2K}(a:s.size=0):bl s= []:=CT (by rw[A8];exact a)
theorem wv {p:Pr}(a:Ls p)(t:List UInt8):FE ⟨I1 p++t,false⟩=(bl p.key,⟨BU (Iy p)++bl p.val++t,false⟩):=by
 have c:=a.bI;have b:I1 p++t=BF (bl p.key)++(BU (Iy p)++bl p.val++t):=by simp[I1,A4]
 rw[b];exact Ih (by rw[A8];omega) _
theorem Zi {p:Pr}(a:Ls p):Iy p<=8193:=by have:=a.ct;unfold Iy;split<;>omega
theorem wy {p:Pr}(a:Ls p)(t:List UInt8):CB 8193 ⟨BU (Iy p)++bl p.val++t,false⟩=(Iy p,⟨bl p.val++t,false⟩):=by rw[A4];have:=Zi a;exact Co (by omega) this _
theorem wz {p:Pr}(a:Ls p)(t:List UInt8):Kh (Iy p-1) ⟨bl p.val++t,false⟩=(bl p.val,⟨t,false⟩):=by
 have b:Iy p-1=(bl p.val).length:=by
  rw[A8];unfold Iy;split
  ·rename_i c;rw[a.gone c]
  ·omega
 rw[b];exact xZ _ _
theorem QY {p:Pr}(a:Ls p):1<=(I1 p).length/\(I1 p).length<=p.key.size+p.val.size+20:=by have b:=a.bI;have c:=a.ct;have d:=AV (n:=(bl p.key).length) (by rw[A8];omega);have e:=Zi a;have f:=AV (n:=Iy p) (by omega);have g:=a.key;have h:=A8 p.key;have i:=A8 p.val;simp only[I1,BF,A1];omega
end Go.Lf
namespace Go.Lf.G
open Go
theorem GX:QP P AR AQ BM.w 40=true:=by kernel_rfl
theorem ARW {e:al}{a:aa}{b:Nat}{c:Rd}{d:A2J}(f:Ip a b c)(g:d (J3 c.bad) a):AA e P LA #[Ap b] a d:=by refine Ww ?_;unfold Pw;refine af.no rfl (aD ?_);exact AZ.mk (AB f rfl) g
theorem Ve {A:al}{h:aa}{s:A2K}{R:A2J}(b:s.size<=1099511627776)(c: ∀a,Ext h a->R (J7 (AY (BF (bl s)))) a):AA A P Bz #[J7 s] h R:=by have:=PO (A:=A) (h:=h) (l:=bl s) (R:=R) (by rw[A8];exact b) c;rwa [EC] at this
theorem yU {a:Nat}(b:a<=1099511627776):J8 .u64 ((J8 .u64 (a:Int))+(1:Int))=((a+1:Nat):Int):=by rw[Bu (by omega),show((a:Int)+1)=((a+1:Nat):Int) by omega,Bu (by omega)]
theorem sd {s:A2K}(a:s.size=0):s=⟨#[]⟩:=by have:=EC s;rw[<- this,show s.data.toList= [] from UN a];rfl
theorem Am {a c:aa}{b:Nat}{d:Array J0}{T:Q7}(x:Ext a c)(e:a[b]? =some (J2 d T (0,0))):c[b]? =some (J2 d T (0,0)):=x.ag e (λa=>a)
theorem AOf {l:al}{e:aa}{x:Pr}{f:A2J}(h:Ls x)(m: ∀o,Ext e o->f (J7 (AY (I1 x))) o):AA l P OA #[x.agg] e f:=by
 obtain⟨a,v,g⟩:=x;have r:=h.bI;have s:=h.ct;have p:=h.gone;dsimp only at r s p;show AA l P OA #[.agg #[J7 a,J7 v,J3 g]] e f;refine AEX ?_;unfold Xr;refine ao.mk λz _ b q A=>?_
 refine AZ.mk (AB b rfl) ?_;have B:=AV (n:=(bl a).length) (by rw[A8];omega);have C:=A8 a;have D:=A8 v;refine af.intro (λi=>?_) (λi=>?_)
 ·subst i;refine AJ.mk (AL b rfl) ?_;refine Ve (by omega) λt c=>⟨_,rfl,?_⟩
  refine CU (n:=0) (by omega) λu d=>⟨_,rfl,?_⟩
  have w:=AV (n:=0) (by omega);refine⟨by rw[AP,AP,max_i64];simp only[BF,A1];omega,?_⟩;rw[Ak];have j:I1 ⟨a,v,true⟩=BF (bl a)++BU 0:=by unfold I1 Iy;rw[UN (p rfl)];simp
  rw[<- j];exact m _ ((q.trans c).trans d)
 ·subst i;refine AJ.mk (AL b rfl) (AJ.mk (AB b rfl) (AJ.mk (AB b rfl) ?_));refine Ve (by omega) λt c=>⟨_,rfl,?_⟩
  have k:=Am c b;refine⟨AB k rfl,AB k rfl,?_⟩;rw[yU (by omega)];refine CU (by omega) λu d=>⟨_,rfl,?_⟩
  have y:=Am d k;have w:=AV (n:=v.size+1) (by omega);refine⟨AB y rfl,by rw[AP,AP,max_i64];simp only[BF,A1];omega,?_,?_⟩
  ·rw[Ak,AP,max_i64];simp only[BF,A1];omega
  ·rw[Ak];have j:AY (BF (bl a)++BU (v.size+1))++v=AY (I1 ⟨a,v,false⟩):=by
    have:v=AY (bl v):=(EC v).symm
    conv=>lhs;arg 2;rw[this]
    rw[Ak];unfold I1 Iy;simp[A4]
   rw[j];exact m _ ((q.trans c).trans d)
theorem yV {s:A2K}(a:s.size≠0):bQ s (⟨#[]⟩:A2K)=false:=by rw[Xl,decide_eq_false_iff_not];intro b;have:=A8 s;rw[b] at this;exact a this.symm
theorem yW {a:Nat}(b:a<=100000):(if((J8 J9 (((a:Nat):Int)-(1:Int))):Int)>0 then(J8 J9 (((a:Nat):Int)-(1:Int))) else 0)=((a-1:Nat):Int):=by rw[wrap_i64 (by omega) (by omega)];split<;>omega
theorem Zj {l:List Pr}(a: ∀x∈l,Ls x):l.length<=(BO l).length:=by
 induction l with
 |nil=>simp
 |cons x l b=>
  have:=(QY (a x CC)).1;have:=b λc d=>a c (AG _ d)
  simp only[BO,AF,A1,A6] at this ⊢;omega
theorem se {ag:al}{c:aa}{l:List Pr}{I:A2J}(J: ∀x∈l,Ls x)(aN:(BO l).length<1099511627776)
  (ah: ∀s z,Own BM AQ z s l->Ext c z->(∀ b,s.ag=some b->c.size<=b)->I (J1 #[J4 s.p s.len s.cap,J3 true]) z):AA ag P KN #[J7 (AY (BO l))] c I:=by
 refine ADS ?_;unfold WM;refine KI λaO aj ak=>⟨_,rfl,?_⟩
 have aP:=Zj J;refine Loop.rule (λm x f=> ∃(i:Nat) (s:Sl),x=(s,())/\m=l.length-i/\i<=l.length/\Ip f c.size ⟨BO (l.drop i),false⟩/\Ext c f/\Own BM AQ f s (l.take i)/\ ∀b,s.ag=some b->c.size<=b) ?_ ⟨0,⟨none,0,0⟩,rfl,rfl,by omega,aj,ak,Own.nil,λb a=>by simp[Sl.ag] at a⟩;rintro K m _ f ⟨i,s,rfl,rfl,aQ,rd,t,p,A⟩ am;dsimp only;refine MU rd ⟨_,rfl,?_⟩;by_cases g:i<l.length
 ·have L:l[i]? =some l[i]:=A2 g;have M:l[i]∈l:=AW g;have hd:l.drop i=l[i]::l.drop (i+1):=Fl g;have N:l.take (i+1)=l.take i++ [l[i]]:=by rw[AD,L];rfl
  generalize l[i]=x at L M hd N;have h:=J x M;have O:BO (l.drop i)=I1 x++BO (l.drop (i+1)):=by rw[hd];rfl
  have Q:(I1 x++BO (l.drop (i+1))).length<1099511627776:=by
   have e:BO l=BO (l.take i)++BO (l.drop i):=by rw[<- Fm,DE]
   have:=congrArg List.length e;rw[O,A1] at this;omega
  have aR:=QY h;rw[O] at rd ⊢;refine af.yes ?_ ?_
  ·unfold SK;have:(I1 x++BO (l.drop (i+1)))≠ []:=by intro e;have:=congrArg List.length e;simp only[A1,GB] at this;omega
   simp only[KK,E0,CD,List.isEmpty_eq_false_iff];exact this
  ·refine Hg rd Q λd u B=>⟨_,rfl,?_⟩
   rw[wv h] at u ⊢;dsimp only at u ⊢;rw[EC];refine ao.mk λan _ ap R aS=>?_
   refine ae.mk ap (by simp) λaT aq S aU=>?_
   rw[Be,Be];refine ae.mk aq (by simp) λaV ar T aW=>?_
   refine ae.mk ar (by simp) λau av U aX=>?_
   have aY:c.size<d.size:=by have:=Ai u;exact this
   have j:c.size≠d.size:=by omega
   have aw:Ip au c.size ⟨BU (Iy x)++bl x.val++BO (l.drop (i+1)),false⟩:=U.ag (T.ag (S.ag (R.ag u (λc=>c)) j) j) j;have ax:(BU (Iy x)++bl x.val++BO (l.drop (i+1))).length<=1099511627776:=by simp only[I1,A1] at Q ⊢;omega
   refine DY (most:=8193) aw ax (by decide) λC v V=>⟨_,rfl,?_⟩
   rw[wy h] at v ⊢;dsimp only at v ⊢;have W:C[d.size]? =some (J2 #[J7 x.key,J7 ⟨#[]⟩,J3 false] AQ (0,0)):=V.ag (by simpa using av) (Ne.symm j);refine ai.mk λay az=>?_
   have aZ:=Zi h;have key: ∀q,Ip q c.size ⟨bl x.val++BO (l.drop (i+1)),false⟩->q[d.size]? =some (J2 #[J7 x.key,J7 ⟨#[]⟩,J3 x.gone] AQ (0,0))->Mod (λb=>b=c.size\/b=d.size) d q->ay () q:=by
    intro q aA aC aD;refine az () q ?_;rw[yW (by omega)];refine rM aA λa0 D X=>⟨_,rfl,?_⟩
    rw[wz h] at D ⊢;dsimp only at D ⊢;rw[EC];have aE:=X.ag aC (Ne.symm j);refine ae.mk aE (by simp) λr k Y a1=>?_
    have F:Ip r c.size ⟨BO (l.drop (i+1)),false⟩:=Y.ag D j;have k:r[d.size]? =some (J2 #[J7 x.key,J7 x.val,J3 x.gone] AQ (0,0)):=by simpa using k
    refine ai.mk λa2 aF=>?_
    refine ARW F ⟨_,rfl,?_⟩;refine af.no rfl ?_;refine AJ.mk (AL k rfl) ?_;refine af.no (yV h.key) ?_;refine AJ.mk (AL k rfl) ?_;have a3:=h.bI;refine aF _ _ (af.no (by simp;omega) ?_);refine AJ.mk (AL k rfl) ?_;refine AJ.mk (AL k rfl) ?_;refine AZ.mk (AL k rfl) ?_;have w:Mod (λb=>b=c.size\/b=d.size) f r:=by
     have G:Mod (λb=>b=c.size\/b=d.size) f d:=B.aj λb _ a=> .inl a
     exact((G.trans aD).trans (X.aj λb _ a=> .inl a)).trans (Y.aj λb _ a=> .inr a)
    have Z: ∀b,s.ag=some b-> ¬(b=c.size\/b=d.size):=by
     intro b a;have a4:=p.lt a;have aG:=B.size;rintro(rfl|rfl)
     ·exact p.ne rd (by decide) a
     ·omega
    refine ao.aZ (E:=BM) (x:=x) rfl GX (p.mod w Z) ?_ ?_ λaH a5 ab H aI a6=>?_
    ·rw[As];omega
    ·simp only[maxLen];rw[As];omega
    ·rw[<- N] at ab;have y:Ext c r:=by refine⟨by have:=t.size;have:=w.size;omega,λb a _=>?_⟩;have aG:=B.size;have:=t.size;exact(w.get b (by omega) (by omega)).trans (t.get b a (λc=>c))
     refine am (l.length-(i+1)) _ _ (by omega) ⟨i+1,aH,rfl,rfl,g,?_,?_,ab,?_⟩
     ·refine H.ag F λe=>?_
      have:Own BM AQ r s (l.take i):=p.mod w Z;exact this.ne F (by decide) e
     ·refine⟨by have:=y.size;have:=H.size;omega,λb a _=>?_⟩;have:=y.size;exact(H.get b (by omega) (λe=>by have:=A b e;omega)).trans (y.get b a (λc=>c))
     ·intro b a;rcases aI b a with e|e
      ·exact A b e
      ·have:=y.size;omega
   have ac:Mod (λb=>b=c.size\/b=d.size) d C:=by have G:Mod (λb=>b=c.size\/b=d.size) d an:=R.mod;exact(((G.trans (S.aj λb _ a=> .inr a)).trans (T.aj λb _ a=> .inr a)).trans (U.aj λb _ a=> .inr a)).trans (V.aj λb _ a=> .inl a)
   refine af.intro (λn=>?_) (λn=>?_)
   ·have o:x.gone=true:=by
     unfold Iy at n;split at n
     ·rename_i o;exact o
     ·simp at n;omega
    refine ae.mk W (by simp) λaJ aK ad a7=>?_
    refine key aJ (ad.ag v j) (by rw[o];simpa using aK) (ac.trans (ad.aj λb _ a=> .inr a))
   ·have o:x.gone=false:=by
     cases o:x.gone with
     |false=>rfl
     |true=>unfold Iy at n;rw[o] at n;simp at n
    exact key C v (by rw[o];exact W) ac
 ·have g:i=l.length:=by omega
  have aL:l.drop i= []:=by rw[g];simp
  have aM:l.take i=l:=by rw[g];simp
  rw[aL];rw[aM] at p;exact af.no rfl (ah s f p t A)
def BX(a:Nat)(l:List Pr):List UInt8:=BU a++BU l.length++BO l
theorem ME {l:List Pr}(b: ∀x∈l,Ls x):(BO l).length<=l.length*8276:=by
 induction l with
 |nil=>simp
 |cons x l c=>
  have a:=b x CC;have f:=(QY a).2;have g:=a.bI;have h:=a.ct;have:=c λd e=>b d (AG _ e)
  simp only[BO,AF,A1,A6] at this ⊢;omega
theorem ARf {l:List Pr}(a: ∀x∈l,Ls x)(i:Nat): ∀x∈l.take i,Ls x:=λx b=>a x (DB b)
theorem APC {D:al}{f:aa}{s:Sl}{l:List Pr}{c:Nat}{t:A2J}(X:c<=99999999)(Y:l.length<=64)(u: ∀x∈l,Ls x)(v:View BM f s l)(Z: ∀b,s.ag=some b->b<f.size)
  (E: ∀d,Ext f d->t (J7 (AY (BX c l))) d):AA D P Tj #[J6 J9 (c:Int),J4 s.p s.len s.cap] f t:=by
 refine AG6 ?_;unfold uo;rw[Bu (by omega)];refine CU (by omega) λab F=>⟨_,rfl,?_⟩
 rw[v.len,Bu (by omega)];refine CU (by omega) λac G=>⟨_,rfl,?_⟩
 have ad:=AV (n:=c) (by omega);have ae:=AV (n:=l.length) (by omega);refine⟨by rw[AP,AP,max_i64];omega,?_⟩;rw[Ak];refine Loop.rule (λm x o=> ∃i:Nat,x=(AY (BU c++BU l.length++BO (l.take i)),(i:Int),())/\m=l.length-i/\i<=l.length/\Ext f o) ?_ ⟨0,by simp,rfl,by omega,F.trans G⟩;rintro K m _ o ⟨i,rfl,rfl,ag,p⟩ H;dsimp only;refine af.intro (λq=>?_) (λq=>?_)
 ·have e:i<l.length:=by simp at q;omega
  have r:l[i]? =some l[i]:=A2 e;have w:l.take (i+1)=l.take i++ [l[i]]:=by rw[AD,r];rfl
  have h:=u _ (AW e);generalize l[i]=x at r w h;have ah:=h.bI;have aj:=h.ct;have I:=h.gone;have lt:=ME (ARf u i);rw[As] at lt;have ak:=AV (n:=(bl x.key).length) (by rw[A8];omega);have am:=A8 x.key;have an:=A8 x.val;refine ai.mk λJ L=>?_
  obtain⟨a,M,N⟩:=(v.ext p).cells i x r;refine bE.mk M e ?_;obtain⟨O,c1,c2⟩:=N.pair;rw[An];refine AJ.mk O (AJ.mk c1 (AZ.mk c2 ?_));refine ao.pair λb ap aq y Q ar=>?_
  refine AJ.mk (AL y rfl) ?_;refine Ve (by omega) λR z=>⟨_,rfl,⟨by rw[AP,AP,max_i64];simp only[BF,A1];omega,?_⟩⟩
  have j:=Am z y;refine AZ.mk (AB j rfl) ?_;rw[Ak];have A: ∀d,Ext R d->J (AY (BU c++BU l.length++BO (l.take (i+1))),()) d:=by intro d S;refine L _ _ ?_;dsimp only;rw[Ab (by omega)];exact H (l.length-(i+1)) _ _ (by omega) ⟨i+1,rfl,rfl,e,((p.trans Q).trans z).trans S⟩
  have B:BO (l.take (i+1))=BO (l.take i)++I1 x:=by rw[w];simp[BO]
  refine af.intro (λk=>?_) (λk=>?_)
  ·refine CU (n:=0) (by omega) λT U=>⟨_,rfl,?_⟩
   have V:=AV (n:=0) (by omega);refine⟨by rw[AP,AP,max_i64];simp only[BF,A1];omega,?_⟩;rw[Ak];have g:I1 x=BF (bl x.key)++BU 0:=by unfold I1 Iy;rw[k,UN (I k)];simp
   have:=A T U;rw[B,g] at this;simpa only[A4] using this
  ·refine AJ.mk (AB j rfl) (AJ.mk (AB j rfl) ?_);rw[yU (by omega)];refine CU (by omega) λW C=>⟨_,rfl,?_⟩
   have V:=AV (n:=x.val.size+1) (by omega);refine⟨AB (Am C j) rfl,?_,?_,?_⟩
   ·rw[AP,max_i64];omega
   ·have au:x.val=AY (bl x.val):=(EC _).symm;rw[Hk,AP,AP,max_i64];simp only[BF,A1];omega
   ·have g:AY (BU (x.val.size+1))++x.val=AY (BU (Iy x)++bl x.val):=by
     conv=>lhs;arg 2;rw[(EC x.val).symm]
     rw[Ak];unfold Iy;rw[k];rfl
    rw[g,Ak];have:=A W C;rw[B] at this;unfold I1 at this;simpa only[A4] using this
 ·have e:i=l.length:=by simp at q;omega
  have g:l.take i=l:=by rw[e];simp
  rw[g];exact E o p
theorem AJ8 {ah:al}{c:aa}{l:List Pr}{o:Nat}{I:A2J}(aM:o<=99999999)(aN:l.length<=64)(J: ∀x∈l,Ls x)
  (ai: ∀s y,Own BM AQ y s l->Ext c y->(∀ b,s.ag=some b->c.size<=b)->I (J1 #[J6 J9 (o:Int),J4 s.p s.len s.cap,J3 true]) y):AA ah P QK #[J7 (AY (BX o l))] c I:=by
 refine AEN ?_;unfold Wn;have aO:=AV (n:=o) (by omega);have aP:=AV (n:=l.length) (by omega);have aQ:=ME J;refine KI λaR L z=>⟨_,rfl,?_⟩
 have A:BX o l=BU o++(BU l.length++BO l):=by simp[BX,A4]
 rw[A] at L;refine DY (most:=99999999) L (by simp only[A1];omega) (by decide) λd e g=>⟨_,rfl,?_⟩
 rw[Co (by omega) (by omega)] at e ⊢;dsimp only at e ⊢;refine DY (most:=64) e (by simp only[A1];omega) (by decide) λaj B M=>⟨_,rfl,?_⟩
 rw[Co (by omega) (by omega)] at B ⊢;dsimp only at B ⊢;have ak:Ext c aj:=by refine⟨by have:=z.size;have:=g.size;have:=M.size;omega,λb a _=>?_⟩;have:=z.size;have:=g.size;exact((M.get b (by omega) (by omega)).trans (g.get b (by omega) (by omega))).trans (z.get b a (λc=>c))
 refine Loop.rule (λm x h=> ∃(i:Nat) (s:Sl),x=(s,(i:Int),())/\m=l.length-i/\i<=l.length/\Ip h c.size ⟨BO (l.drop i),false⟩/\Ext c h/\Own BM AQ h s (l.take i)/\ ∀b,s.ag=some b->c.size<=b) ?_ ⟨0,⟨none,0,0⟩,rfl,rfl,by omega,B,ak,Own.nil,λb a=>by simp[Sl.ag] at a⟩;rintro K m _ h ⟨i,s,rfl,rfl,aS,rd,t,p,C⟩ am;dsimp only;refine af.intro (λD=>?_) (λD=>?_)
 ·have j:i<l.length:=by simp at D;omega
  have N:l[i]? =some l[i]:=A2 j;have O:l[i]∈l:=AW j;have hd:l.drop i=l[i]::l.drop (i+1):=Fl j;have Q:l.take (i+1)=l.take i++ [l[i]]:=by rw[AD,N];rfl
  generalize l[i]=x at N O hd Q;have u:=J x O;have R:BO (l.drop i)=I1 x++BO (l.drop (i+1)):=by rw[hd];rfl
  have S:(I1 x++BO (l.drop (i+1))).length<1099511627776:=by
   have f:BO l=BO (l.take i)++BO (l.drop i):=by rw[<- Fm,DE]
   have:=congrArg List.length f;rw[R,A1] at this;omega
  rw[R] at rd;refine Hg rd S λd e g=>⟨_,rfl,?_⟩
  rw[wv u] at e ⊢;dsimp only at e ⊢;rw[EC];refine ao.mk λan _ ap T aT=>?_
  refine ae.mk ap (by simp) λaU aq U aV=>?_
  rw[Be,Be];refine ae.mk aq (by simp) λaW ar V aX=>?_
  refine ae.mk ar (by simp) λau av W aY=>?_
  have aZ:c.size<d.size:=by have:=Ai e;exact this
  have k:c.size≠d.size:=by omega
  have aw:Ip au c.size ⟨BU (Iy x)++bl x.val++BO (l.drop (i+1)),false⟩:=W.ag (V.ag (U.ag (T.ag e (λc=>c)) k) k) k;have ax:(BU (Iy x)++bl x.val++BO (l.drop (i+1))).length<=1099511627776:=by simp only[I1,A1] at S ⊢;omega
  refine DY (most:=8193) aw ax (by decide) λay F X=>⟨_,rfl,?_⟩
  rw[wy u] at F ⊢;dsimp only at F ⊢;have az:ay[d.size]? =some (J2 #[J7 x.key,J7 ⟨#[]⟩,J3 false] AQ (0,0)):=X.ag (by simpa using av) (Ne.symm k);have a0:=Zi u;have aA:(((Iy x:Nat):Int)==(0:Int))=x.gone:=by
   unfold Iy;cases x.gone
   ·simp;omega
   ·simp
  rw[aA];refine ae.mk az (by simp) λaC aD Y a1=>?_
  rw[yW (by omega)];have aE:Ip aC c.size ⟨bl x.val++BO (l.drop (i+1)),false⟩:=Y.ag F k;refine rM aE λa2 G Z=>⟨_,rfl,?_⟩
  rw[wz u] at G ⊢;dsimp only at G ⊢;rw[EC];have aF:=Z.ag aD (Ne.symm k);refine ae.mk aF (by simp) λq r ab a3=>?_
  have ac:Ip q c.size ⟨BO (l.drop (i+1)),false⟩:=ab.ag G k;have r:q[d.size]? =some (J2 #[J7 x.key,J7 x.val,J3 x.gone] AQ (0,0)):=by simpa using r
  refine AJ.mk (AL r rfl) ?_;refine AJ.mk (AL r rfl) ?_;refine AZ.mk (AL r rfl) ?_;have v:Mod (λb=>b=c.size\/b=d.size) h q:=by
   have aG:Mod (λb=>b=c.size\/b=d.size) h d:=g.aj λb _ a=> .inl a
   have aH:Mod (λb=>b=c.size\/b=d.size) d an:=T.mod;exact((((((((aG.trans aH).trans (U.aj λb _ a=> .inr a)).trans (V.aj λb _ a=> .inr a)).trans (W.aj λb _ a=> .inr a)).trans (X.aj λb _ a=> .inl a)).trans (Y.aj λb _ a=> .inr a)).trans (Z.aj λb _ a=> .inl a))).trans (ab.aj λb _ a=> .inr a)
  have ad: ∀b,s.ag=some b-> ¬(b=c.size\/b=d.size):=by
   intro b a;have a4:=p.lt a;have aI:=g.size;rintro(rfl|rfl)
   ·exact p.ne rd (by decide) a
   ·omega
  refine ao.aZ (E:=BM) (x:=x) rfl GX (p.mod v ad) ?_ ?_ λaJ a5 ag H aK a6=>?_
  ·rw[As];omega
  ·simp only[maxLen];rw[As];omega
  ·rw[<- Q] at ag;have w:Ext c q:=by refine⟨by have:=t.size;have:=v.size;omega,λb a _=>?_⟩;have aI:=g.size;have:=t.size;exact(v.get b (by omega) (by omega)).trans (t.get b a (λc=>c))
   rw[Ab (by omega)];refine am (l.length-(i+1)) _ _ (by omega) ⟨i+1,aJ,rfl,rfl,j,?_,?_,ag,?_⟩
   ·refine H.ag ac λf=>?_
    have:Own BM AQ q s (l.take i):=p.mod v ad;exact this.ne ac (by decide) f
   ·refine⟨by have:=w.size;have:=H.size;omega,λb a _=>?_⟩;have:=w.size;exact(H.get b (by omega) (λf=>by have:=C b f;omega)).trans (w.get b a (λc=>c))
   ·intro b a;rcases aK b a with f|f
    ·exact C b f
    ·have:=w.size;omega
 ·have j:i=l.length:=by simp at D;omega
  have A:l.drop i= []:=by rw[j];simp
  have aL:l.take i=l:=by rw[j];simp
  rw[A] at rd;rw[aL] at p;refine MU rd ⟨_,rfl,?_⟩;exact ai s h p t C
end Go.Lf.G
namespace Go.Lf
open Go
def CE(l:List Pr)(i:Nat):List Pr:=(l.drop (8*i)).take 8
def Bt(l:List Pr):Nat:=(l.length+7) / 8
def Ku(l:List Pr):List (List Pr):=(List.range (Bt l)).map (CE l)
def JA(l:List Pr)(i:Nat):A2K:=match l[i]? with|some p=>p.key|none=>⟨#[]⟩
def CV(l:List Pr):List A2K:=(List.range (Bt l)).map λi=>JA l (8*i)
def Vt(l:List Pr)(f:List UInt8):List UInt8:=BU (Bt l)++((CV l).flatMap λa=>BF (bl a))++(BU l.length++BF f)
def aT(l:List Pr)(f:List UInt8):List (List UInt8):=(Ku l).map BO++ [Vt l f]
theorem Qt {l:List Pr}{i:Nat}(a:i<Bt l):1<=(CE l i).length/\(CE l i).length<=8/\(i+1<Bt l->(CE l i).length=8):=by
 unfold CE Bt at*
 rw[As,Cl];omega
theorem QW {l:List Pr}{i j:Nat}(a:j<8):(CE l i)[j]? =l[8*i+j]? :=by unfold CE;rw[F0,if_pos a,BY]
theorem wB {l:List Pr}: ∀i,l.take (8*i)++CE l i=l.take (8*(i+1)):=λi=>by
 unfold CE;rw[show 8*(i+1)=8*i+8 by omega,List.take_add]
theorem wC(l:List Pr): ∀n,((List.range n).map (CE l)).flatten=l.take (8*n)
 |0=>by simp
 |n+1=>by rw[MY,C2,N2,wC l n];simpa using wB n
theorem AMx(l:List Pr):(Ku l).flatten=l:=by unfold Ku;rw[wC,Ax];unfold Bt;omega
theorem JH(l:List Pr):(Ku l).length=Bt l:=by simp[Ku]
theorem IE(l:List Pr):(CV l).length=Bt l:=by simp[CV]
theorem wE {l:List Pr}(a:l≠ []):1<=Bt l:=by have:=List.length_pos_iff.2 a;unfold Bt;omega
structure gU (s:List UInt8) (l:List Pr) (f:List UInt8):Prop where
 bytes:s=aI (aT l f)
 ne:l≠ []
 ok: ∀p∈l,Ls p
 inc:l.Pairwise λp q=>aN p.key q.key=true
 jw:1<=f.length/\f.length<=8192
 has: ∀p∈l,gT f p.key=true
 many:l.length<=100000
theorem Zj {l:List Pr}(a: ∀p∈l,Ls p):(BO l).length<=l.length*8276:=by
 induction l with
 |nil=>simp
 |cons p l b=>
  have f:=(QY (a p (by simp))).2;have c:=b λd e=>a d (AG _ e)
  have g:=(a p (by simp)).bI;have h:=(a p (by simp)).ct;simp only[BO,AF,A1,A6] at c ⊢;omega
theorem Pv {l:List Pr}{i:Nat}{p:Pr}(a:p∈CE l i):p∈l:=HX (DB a)
theorem YR {s:List UInt8}{l:List Pr}{f:List UInt8}(T:gU s l f):(Vt l f).length<=1048576:=by
 have r:=T.many;have t:=T.jw.2;have u:=AV (n:=Bt l) (by unfold Bt;omega);have v:=AV (n:=l.length) (by omega);have w:=AV (n:=f.length) (by omega);have c: ∀a∈CV l,a.size<=64:=λa c=>by
  obtain⟨i,_,rfl⟩:=List.mem_map.1 c;unfold JA;split
  ·rename_i p e;exact(T.ok p (AK e)).bI
  ·exact A5 _
 have g: ∀b:List A2K,(∀ a∈b,a.size<=64)->(b.flatMap λa=>BF (bl a)).length<=b.length*65:=by
  intro b
  induction b with
  |nil=>intro _;simp
  |cons a b h=>
   intro d;have j:=h λx k=>d x (AG _ k)
   have y:=d a (by simp);have m:(BU a.size).length=1:=by rw[Fb (by omega)];rfl
   have o:(BF (bl a)).length=1+a.size:=by simp only[BF,A1,A8,m]
   simp only[AF,A1,A6,o] at j ⊢;omega
 have q:=g (CV l) c;rw[IE] at q;have z:Bt l<=12501:=by unfold Bt;omega
 have A:(BF f).length=(BU f.length).length+f.length:=by simp[BF]
 simp only[Vt,A1];omega
theorem Nw {s:List UInt8}{l:List Pr}{f:List UInt8}(T:gU s l f): ∀c∈aT l f,c.length<=1048576:=λc a=>by
 rcases List.mem_append.1 a with a|a
 ·obtain⟨b,d,rfl⟩:=List.mem_map.1 a;obtain⟨i,e,rfl⟩:=List.mem_map.1 d;have j:=Zj (l:=CE l i) λp g=>T.ok p (Pv g)
  have h:=(Qt (List.mem_range.1 e)).2.1;have:(CE l i).length*8276<=8*8276:=AN _ h;omega
 ·rw[List.mem_singleton.1 a];exact YR T
def wF(s:Sl):J0:=J4 s.p s.len s.cap
def rn(x:Sl):iL [.one .sl]:=(x,())
def wU(j:al)(P:Q1)(fv:J0)(m:Nat->Prop)(n:aa)(l:List Sl):Prop:=
 ∃f e,fv= .func (.func f) #[] e/\(∀ a,(callFunc f (#[]++ #[a]++e)).calc P=some (.enter f (#[]++ #[a]++e)))/\
  ∀(k:aa) (a:J0) (c:Nat->Bool->aa->Prop),ML a=true->(∀ i g d,c i g d-> ∀b,m b->d[b]? =n[b]?)->
   (∀ i x d,l[i]? =some x->c i true d->Eh j P a #[wF x] d λv h=> ∃g,v=J3 g/\c (i+1) g h)->c 0 true k->
   AA j P f (#[]++ #[a]++e) k λv h=>v=J1 #[]/\ ∃i g,c i g h/\(g=true->i=l.length)/\i<=l.length
theorem ATG {o:al}{P:Q1}{fv:J0}{p:Nat->Prop}{q c:aa}{l:List Sl}(z:wU o P fv p q l)
  (Inv:Nat->aa->Prop) {body:iL [.one .sl]->Nat->aa->(aa->Prop)->(Option Nat->aa->Prop)->Prop} {r:aa->Prop} {A:Option Nat->aa->Prop}
  (B: ∀i a,Inv i a-> ∀b,p b->a[b]? =q[b]?)
  (s: ∀i a C,Inv i a->a[c.size]? =some (.deferred (some []))->(∃ D,a[c.size+1]? =some (.loop D))->Inv i (a.setIfInBounds (c.size+1) (.loop C)))
  (E: ∀rec,Inv 0 ((c.push (.deferred (some []))).push (.loop rec)))
  (round: ∀i x a rec t F,l[i]? =some x->Inv i a->a[c.size]? =some (.deferred (some []))->a[c.size+1]? =some (.loop rec)->rec.state= .ready->
   (∀ d,Inv (i+1) d->d[c.size]? =some (.deferred (some []))->d[c.size+1]? =some (.loop {rec with state:= .busy})->t d)->body (rn x) (c.size+1) a t F)
  (G: ∀d,Inv l.length d->d[c.size]? =some (.deferred (some []))->r d):XN o P fv [.one .sl] body c r A:=by
 intro rec h k S H;obtain⟨f,u,rfl,I,J⟩:=z;refine⟨f,_,?_,AA.mono (J ((c.push (.deferred (some []))).push (.loop rec)) (.func (.yield (c.size+1)) #[] #[])
  (λi g a=>Inv i a/\g=true/\a[c.size]? =some (.deferred (some []))/\a[c.size+1]? =some (.loop rec)) rfl (λi g a K=>B i a K.1) ?_ ?_) ?_⟩
 ·have L:(do let w <-Deferred.ofValue (.func (.func f) #[] u) #[.func (.yield (c.size+1)) #[] #[]];invoke w.target w.args:Sem Next).calc P=(callFunc f (#[]++ #[.func (.yield (c.size+1)) #[] #[]]++u)).calc P:=rfl;unfold Sr;rw[L,I]
 ·rintro i x a M ⟨m,_,j,e⟩;refine H (rn x) a _ e (round i x a rec _ _ M m j e h ?_);intro d N y n;have O:c.size+1<d.size:=Ai n;refine⟨_,n,true,rfl,s _ _ _ N y ⟨_,n⟩,rfl,?_,?_⟩
  ·rw[DH (by omega)];exact y
  ·rw[Cg O];cases rec;simp at h k;simp[h,k]
 ·refine⟨E rec,rfl,?_,?_⟩
  ·rw[P2 (by simp)];simp
  ·have Q:c.size+1=(c.push (.deferred (some []))).size:=by simp
   rw[Q];exact P3
 ·rintro v T ⟨_,i,g,⟨m,rfl,j,e⟩,R,U⟩;refine⟨rec,e,by simp[h],.inl ⟨k,G _ ?_ ?_⟩⟩
  ·have:=R rfl;subst this;exact s _ _ _ m j ⟨_,e⟩
  ·rw[DH (by omega)];exact j
end Go.Lf
namespace Go.Lf.G
open Go
def U8(a:aa)(c:Nat):Prop:= ∃b d,a[c]? =some (J2 b EE d)
def fO(a:Nat)(c:aa)(b:Nat)(l:List UInt8):Prop:= ∀(d:al) (e:Nat),Lib.IsBuilderF EZ EE a b (Lib.byteCells l) (d.at c e)
theorem yX {A:al}{n a b:Nat}{c:aa}{l:List UInt8}(d:Lib.IsBuilderF EZ EE a b (Lib.byteCells l) (A.at c n)):fO a c b l:=λ_ _=>d
theorem Vz {g:al}{a:aa}{j e b:Nat}{d:World}(hB:e<=a.size)(n:RowKit.Below e (g.at a j) d)(o:Lib.OthersKept EE (some b) (g.at a j) d):
  d=g.at d.heap d.drawn/\Mod (λc=>c=b\/(e<=c/\U8 a c)) a d.heap:=by
 obtain⟨f,k,l,p,q⟩:=n;refine⟨?_,⟨p,λc r m=>?_⟩⟩
 ·cases d;simp only[al.at] at f k l ⊢;subst f k l;rfl
 ·by_cases s:c<e
  ·exact q c s
  ·have h:a[c]? =some a[c]:=Fo r;have f:=o c a[c] h (by intro i;exact m (.inl (By i))) (λt u i=>m (.inr ⟨by omega,t,u,by rw[h,i]⟩));rw[f];exact h.symm
theorem fO.mod {a b:Nat}{e f:aa}{l:List UInt8}{h:Nat->Prop}(t:fO a e b l)(m:Mod h e f)(u: ¬h b)(w: ∀c,a<=c->U8 e c-> ¬h c):fO a f b l:=by
 intro i j;have n: ∀p,Lib.BuilderAtF EZ EE a b p (Lib.byteCells l) (i.at e j)->Lib.BuilderAtF EZ EE a b p (Lib.byteCells l) (i.at f j):=by
  rintro p ⟨d,v,x,⟨y,k⟩,z⟩;refine⟨d,v,m.ag x u,⟨y,?_⟩,z⟩;rcases k with k|⟨g,A,o,q,B,r,s,rest⟩
  ·exact .inl k
  ·exact .inr ⟨g,A,o,q,B,r,m.ag s (w g r ⟨o,q,s⟩),rest⟩
 rcases t i j with d|d
 ·exact .inl (n _ d)
 ·exact .inr (n _ d)
theorem fO.ext {c b:Nat}{a d:aa}{l:List UInt8}(e:fO c a b l)(m:Ext a d):fO c d b l:=e.mod m (λa=>a) (λ_ _ _ a=>a)
theorem AQQ {a b:Nat}{c:aa}(d:c[b]? =some (J2 #[J5 none,J4 none 0 0] EZ (0,0)))(hB:a<=b):fO a c b []:=by intro e f;exact .inl ⟨hB,_,d,⟨rfl,.inl ⟨rfl,rfl⟩⟩,by simp[Value.ownBlock]⟩
theorem Ur {A:al}{a:aa}{d b:Nat}{l:List UInt8}{s:A2K}{g:A2J}(j:fO d a b l)(hB:d<=a.size)(q:l.length+s.size<=1099511627776)
  (k: ∀e,fO d e b (l++bl s)->Mod (λc=>c=b\/(d<=c/\U8 a c)) a e->g (J1 #[J6 J9 s.size,.nilIface]) e):AA A P Dp #[Ap b,J7 s] a g:=by
 intro n;refine Calls.mono (Proofs.Any.Builder_WriteString_k Proofs.Tryz.iB Proofs.Tryz.dN d b (Lib.byteCells l) s (A.at a n) (j A n) (by rw[Lib.byteCells_length];omega) hB) ?_;rintro r f ⟨rfl,h,o,p⟩;obtain⟨i,m⟩:=Vz hB o p;refine⟨_,rfl,f.heap,f.drawn,i,k _ ?_ m⟩;rw[Lib.strCells_eq,<-Lib.byteCells_append,i] at h;exact yX (A:=A) (n:=f.drawn) (.inr h)
theorem AJk {A:al}{a:aa}{d b:Nat}{l:List UInt8}{g:A2J}(j:fO d a b l)(hB:d<=a.size)
  (k: ∀e,fO d e b l->Mod (λc=>c=b\/(d<=c/\U8 a c)) a e->g (J7 (AY l)) e):AA A P Gl #[Ap b] a g:=by
 intro n;refine Calls.mono (Proofs.Any.Builder_String_any_k Proofs.Tryz.iC Proofs.Tryz.dN d b l (A.at a n) (j A n) hB) ?_;rintro q f ⟨rfl,h,o,p⟩;obtain⟨i,m⟩:=Vz hB o p;refine⟨_,rfl,f.heap,f.drawn,i,k _ ?_ m⟩;rw[i] at h;exact yX (A:=A) (n:=f.drawn) h
def P9(s:Sl)(i:Nat):Sl:=⟨Az s.p (min (8*i+8) s.len) (8*i) 3,min (8*i+8) s.len-8*i,min (8*i+8) s.len-8*i⟩
def chunks(s:Sl):List Sl:=(List.range ((s.len+7) / 8)).map (P9 s)
theorem Re(s:Sl):(chunks s).length=(s.len+7) / 8:=by simp[chunks]
theorem yY {s:Sl}{i:Nat}(a:i<(s.len+7) / 8):(chunks s)[i]? =some (P9 s i):=by simp[chunks,a]
theorem View.chunk {d:aa}{s:Sl}{l:List Pr}(v:View BM d s l){i:Nat}(e:i<Bt l):View BM d (P9 s i) (CE l i):=by
 have f:=v.len;unfold Bt at e;refine⟨?_,A0 _,λb x c=>?_⟩
 ·show min (8*i+8) s.len-8*i=(CE l i).length;unfold CE;rw[As,Cl,f];omega
 ·have g:b<8:=by have:=(List.getElem?_eq_some_iff.1 c).1;unfold CE at this;rw[As] at this;omega
  rw[QW g] at c;obtain⟨a,h,j⟩:=v.cells _ _ c;have m:=(List.getElem?_eq_some_iff.1 c).1;refine⟨a.add (8*i*3),?_,?_⟩
  ·unfold P9 Az;simp only[h];rw[if_neg (by omega)];rfl
  ·rw[add_add];have k:8*i*3+b*BM.w=(8*i+b)*BM.w:=by show 8*i*3+b*3=(8*i+b)*3;omega
   rw[k];exact j
theorem ANf {a i:Nat}(b:a<=1099511627776)(c:8*i<a):J8 J9 (((8*i:Nat):Int)+(if((((a-((8*i:Nat):Int).toNat):Nat):Int):Int)<(8:Int) then(((a-((8*i:Nat):Int).toNat):Nat):Int) else(8:Int)))=((min (8*i+8) a:Nat):Int):=by
 rw[An];split
 ·rw[wrap_i64 (by omega) (by omega)];omega
 ·rw[wrap_i64 (by omega) (by omega)];omega
abbrev APd:Q8:=DW
theorem APB {n:al}{a:aa}{s:Sl}{o:A2J}(p:s.len<=s.cap)(w:s.len<=1099511627776)
  (y: ∀fv b,Ext a b->b.size=a.size+2->b[a.size]? =some (J2 #[J4 s.p s.len s.cap] AR (0,0))->b[a.size+1]? =some (J2 #[J6 J9 8] Bq (0,0))->
   wU n P fv (λc=>c=a.size\/c=a.size+1) b (chunks s)->o fv b):AA n P Dg #[J4 s.p s.len s.cap,J6 J9 8] a o:=by
 refine JX ?_;unfold FY;refine ao.mk λJ _ z A B=>?_
 refine ao.mk λC _ d q L=>?_
 refine ai.mk λK h=>?_
 refine AC.mk (AL d rfl) ?_;refine af.no rfl (h _ _ ?_);have r:=Am q z;rw[B] at d ⊢;refine y _ C (A.trans q) (by omega) r d ⟨APd,#[Ap a.size,Ap (a.size+1)],rfl,λD=>by kernel_rfl,?_⟩;intro M D E N j F G;refine Il ?_;unfold Ex;refine Loop.rule (λm x e=> ∃i:Nat,x=(((8*i:Nat):Int),())/\m=(s.len+7) / 8-i/\i<=(s.len+7) / 8/\E i true e) ?_ ⟨0,rfl,rfl,by omega,G⟩;rintro K m _ e ⟨i,rfl,rfl,O,f⟩ h;have hA:e[a.size]? =some (J2 #[J4 s.p s.len s.cap] AR (0,0)):=(j _ _ _ f _ (.inl rfl)).trans r;have hB:e[a.size+1]? =some (J2 #[J6 J9 8] Bq (0,0)):=(j _ _ _ f _ (.inr rfl)).trans d;refine aD (Aa.mk (AL hA rfl) ?_);dsimp only;refine af.intro (λk=>?_) (λk=>?_)
 ·have t:8*i<s.len:=by simp at k;omega
  refine aD (AC.mk (AL hB rfl) ?_);refine aD (Aa.mk (AL hA rfl) ⟨by omega,?_⟩);refine aD (Aa.mk (AL hA rfl) ?_);rw[ANf w t,An,An];refine⟨by omega,by omega,by omega,?_⟩;have p:=yY (s:=s) (i:=i) (by omega);have u:=F i _ e p f;simp only[wF,P9] at u;refine Eh.mono u ?_;rintro v b ⟨g,rfl,l⟩;refine⟨g,rfl,?_⟩;cases g with
  |false=>exact af.yes rfl ⟨rfl,i+1,false,l,(λa=>by cases a),by rw[Re];omega⟩
  |true=>
   refine af.no rfl (aD ?_);have H:b[a.size+1]? =some (J2 #[J6 J9 8] Bq (0,0)):=(j _ _ _ l _ (.inr rfl)).trans d;refine AC.mk (AL H rfl) ?_;have I:J8 J9 (((8*i:Nat):Int)+(8:Int))=((8*(i+1):Nat):Int):=by rw[wrap_i64 (by omega) (by omega)];omega
   rw[I];exact h ((s.len+7) / 8-(i+1)) _ _ (by omega) ⟨i+1,rfl,rfl,by omega,l⟩
 ·have t:s.len<=8*i:=by simp at k;omega
  have:i=(s.len+7) / 8:=by omega
  exact⟨rfl,i,true,f,λ_=>by rw[Re];exact this,by rw[Re];omega⟩
theorem si:QP P CL BI Ik.w 16=true:=by kernel_rfl
structure BS (h1:aa) (B:Nat) (E:Nat->Obj->Prop) (out:List UInt8) (kl:List A2K) (ix:List UInt8) (n:Nat) (hh:aa):Prop where
 gD:fO B hh B out
 keys: ∃ks:Sl,hh[B+1]? =some (J2 #[J4 ks.p ks.len ks.cap] CL (0,0))/\Own Ik BI hh ks kl/\ ∀c,ks.ag=some c->B+3<c
 ix:hh[B+2]? =some (J2 #[J7 (AY ix)] BI (0,0))
 cn:hh[B+3]? =some (J2 #[J6 J9 (n:Int)] Bq (0,0))
 fix: ∀c o,E c o->hh[c]? =some o
 ey:Mod (λc=>B<=c) h1 hh
structure jY (B:Nat) (E:Nat->Obj->Prop):Prop where
 u8: ∀c o,E c o-> ∀cs fz,o≠ J2 cs EE fz
 str: ∀c o,E c o-> ∀cs fz,o≠ J2 cs BI fz
 lt: ∀c o,E c o->B+3<c
theorem mJ {d:aa}{c:Nat}{e:Obj}(g:d[c]? =some e)(h: ∀a b,e≠ J2 a EE b): ¬U8 d c:=by rintro⟨a,b,f⟩;rw[g] at f;exact h a b (By f)
theorem Mv {e:Array J0}{T b:Q7}{fr:Nat×Nat}(f:T≠b): ∀c d,(Obj.cells e T fr)≠ J2 c b d:=λc d a=>by injection a with _ a _;exact f a
theorem yZ {a:aa}{b:Sl}{d:List A2K}(e:Own Ik BI a b d){c:Nat}(f:U8 a c):b.ag≠some c:=by obtain⟨h,i,g⟩:=f;exact e.ne g (by decide)
theorem BS.ext {a d e:aa}{f:Nat}{g:Nat->Obj->Prop}{out:List UInt8}{h:List A2K}{i:List UInt8}{j:Nat}(b:BS a f g out h i j d)(x:Ext d e):BS a f g out h i j e:=by obtain⟨k,l,m,n⟩:=b.keys;exact⟨b.gD.ext x,⟨k,Am x l,m.ext x,n⟩,Am x b.ix,Am x b.cn,λc o p=>x.ag (b.fix c o p) (λq=>q),b.ey.trans x.mod⟩
theorem BS.write {j g h:aa}{e:Nat}{i:Nat->Obj->Prop}{out k:List UInt8}{l:List A2K}{n:List UInt8}{o:Nat}(ok:jY e i)(b:BS j e i out l n o g)(r:fO e h e k)
  (m:Mod (λc=>c=e\/(e<=c/\U8 g c)) g h):BS j e i k l n o h:=by
 obtain⟨s,t,p,q⟩:=b.keys;have aS: ∀ {c:Nat} {f:Obj},g[c]? =some f->c≠e->(∀ u v,f≠ J2 u EE v)->h[c]? =some f:=λa w x=>m.ag a (λd=>d.elim w (λd=>mJ a x d.2))
 refine⟨r,⟨s,aS t (by omega) (Mv (by decide)),p.mod m (λc a d=>?_),q⟩,aS b.ix (by omega) (Mv (by decide)),aS b.cn (by omega) (Mv (by decide)),λc f a=>aS (b.fix c f a) (by have:=ok.lt c f a;omega) (ok.u8 c f a),b.ey.trans (m.aj λc _ a=>by rcases a with d|d<;>omega)⟩;rcases d with d|d
 ·have:=q c a;omega
 ·exact yZ p d.2 a
theorem BS.key {l h i:aa}{d:Nat}{j:Nat->Obj->Prop}{out:List UInt8}{n p:List A2K}{q:List UInt8}{r:Nat}(ok:jY d j)(b:BS l d j out n q r h){f jx:Sl}(v:h[d+1]? =some (J2 #[J4 f.p f.len f.cap] CL (0,0)))
  (s:Own Ik BI h f n) (k: ∀c,f.ag=some c->d+3<c) (m:Mod (λc=>f.ag=some c\/c=d+1) h i) (w:i[d+1]? =some (J2 #[J4 jx.p jx.len jx.cap] CL (0,0)))
  (x:Own Ik BI i jx p) (y: ∀c,jx.ag=some c->d+3<c):BS l d j out p q r i:=by
 have hB: ∀c,f.ag=some c\/c=d+1->d+1<=c:=λc e=>by
  rcases e with a|a
  ·have:=k c a;omega
  ·omega
 refine⟨b.gD.mod m (λa=>by have:=hB _ a;omega) (λc e t a=>?_),⟨jx,w,x,y⟩,m.ag b.ix (λa=>?_),m.ag b.cn (λa=>?_),λc o e=>m.ag (b.fix c o e) (λa=>?_),b.ey.trans (m.aj λc _ e=>by have:=hB _ e;omega)⟩
 ·rcases a with a|a
  ·exact yZ s t a
  ·subst a;exact mJ v (Mv (by decide)) t
 ·rcases a with a|a
  ·have:=k _ a;omega
  ·omega
 ·rcases a with a|a
  ·have:=k _ a;omega
  ·omega
 ·rcases a with a|a
  ·rcases s.row with⟨rfl,_⟩|⟨g,z,A,u,_⟩
   ·simp[Sl.ag] at a
   ·simp[Sl.ag,A] at a;subst a;rw[b.fix _ o e] at u;exact ok.str _ o e z (0,0) (By u)
  ·have:=ok.lt c o e;omega
theorem BS.ixs {h i e:aa}{d:Nat}{f:Nat->Obj->Prop}{out:List UInt8}{j:List A2K}{o pj:List UInt8}{k:Nat}(ok:jY d f)(b:BS h d f out j o k i)(m:Mod (λc=>c=d+2) i e)(p:e[d+2]? =some (J2 #[J7 (AY pj)] BI (0,0))):BS h d f out j pj k e:=by
 obtain⟨q,r,s,l⟩:=b.keys;exact⟨b.gD.mod m (λg=>by omega) (λc a t g=>by subst g;exact mJ b.ix (Mv (by decide)) t),⟨q,m.ag r (by omega),s.mod m (λc a g=>by have:=l c a;omega),l⟩,p,m.ag b.cn (by omega),
  λc n a=>m.ag (b.fix c n a) (by have:=ok.lt c n a;omega),b.ey.trans (m.aj λc _ a=>by omega)⟩
theorem BS.ph {h i e:aa}{d:Nat}{f:Nat->Obj->Prop}{out:List UInt8}{j:List A2K}{k:List UInt8}{o n':Nat}(ok:jY d f)(b:BS h d f out j k o i)(m:Mod (λc=>c=d+3) i e)(p:e[d+3]? =some (J2 #[J6 J9 (n':Int)] Bq (0,0))):BS h d f out j k n' e:=by
 obtain⟨q,r,s,l⟩:=b.keys;exact⟨b.gD.mod m (λg=>by omega) (λc a t g=>by subst g;exact mJ b.cn (Mv (by decide)) t),⟨q,m.ag r (by omega),s.mod m (λc a g=>by have:=l c a;omega),l⟩,m.ag b.ix (by omega),p,
  λc n a=>m.ag (b.fix c n a) (by have:=ok.lt c n a;omega),b.ey.trans (m.aj λc _ a=>by omega)⟩
theorem BS.lp {k h:aa}{i d:Nat}{j:Nat->Obj->Prop}{out:List UInt8}{l:List A2K}{n:List UInt8}{o:Nat}(b:BS k i j out l n o h)(hd:i+3<d)(s: ∀e,¬j d e){t:Go.Loop}(p:h[d]? =some (.loop t))(e:Go.Loop):BS k i j out l n o (h.setIfInBounds d (.loop e)):=by
 obtain⟨u,v,q,w⟩:=b.keys;have m:Mod (λc=>c=d) h (h.setIfInBounds d (.loop e)):=Mod.setObj rfl;refine⟨b.gD.mod m (λf=>by omega) (λc a x f=>by subst f;exact mJ p (λ_ _ y=>by cases y) x),⟨u,m.ag v (by omega),q.mod m (λc a f=>?_),w⟩,m.ag b.ix (by omega),m.ag b.cn (by omega),
  λc e a=>m.ag (b.fix c e a) (λf=>by subst f;exact s _ a),b.ey.trans (m.aj λc _ a=>by omega)⟩
 subst f;rcases q.row with⟨rfl,_⟩|⟨g,A,z,r,_⟩
 ·simp[Sl.ag] at a
 ·simp[Sl.ag,z] at a;subst a;rw[p] at r;cases r
def JB(l:List Pr):List A2K:=l.map (·.key)
def jg(l:List Pr):Nat:=min (l.length+8) 8192
def NG(l:List Pr):List UInt8:=jW (JB l) (jg l)
def Js(l:List Pr):List UInt8:=aI (aT l (NG l))
def G6(a:List A2K):List UInt8:=a.flatMap λb=>BF (bl b)
structure Ha (l:List Pr):Prop where
 ne:l≠ []
 ok: ∀p∈l,Ls p
 inc:l.Pairwise λp q=>aN p.key q.key=true
 many:l.length<=100000
theorem Ha.eL {l:List Pr}(T:Ha l):gU (Js l) l (NG l):=by
 have a:1<=jg l/\jg l<=8192:=by unfold jg;omega
 refine⟨rfl,T.ne,T.ok,T.inc,?_,λp b=>AO9 a.1 a.2 (MT b),T.many⟩;unfold NG;rw[APk a.1];exact a
theorem VH: ∀ {rs:List (List UInt8)},(∀ r∈rs,r.length<=1048576)->(aI rs).length<=rs.length*1048590
 | [],_=>by simp
 |r::rs,a=>by
  have d:=(Jc (a r CC)).2;have e:=a r CC;have b:=VH (rs:=rs) λx c=>a x (AG _ c)
  simp only[aI,AF,A1,A6] at b ⊢;omega
theorem Qx: ∀ {ks:List A2K},(∀ k∈ks,k.size<=64)->(G6 ks).length<=ks.length*74
 | [],_=>by simp[G6]
 |k::ks,a=>by
  have d:=a k CC;have e:=AV (n:=(bl k).length) (by rw[A8];omega);have b:=Qx (ks:=ks) λx c=>a x (AG _ c)
  have f:=A8 k;simp only[G6,AF,A1,A6,BF] at b ⊢;omega
theorem PL {l:List Pr}(b: ∀p∈l,Ls p): ∀a∈CV l,a.size<=64:=λa c=>by
 obtain⟨i,_,rfl⟩:=List.mem_map.1 c;unfold JA;split
 ·rename_i p d;exact(b p (AK d)).bI
 ·exact A5 _
theorem Qw {l:List Pr}(a: ∀p∈l,Ls p){i:Nat}(b:i<Bt l):(BO (CE l i)).length<=8*8276:=by
 have e:=ME (l:=CE l i) λp c=>a p (Pv c)
 have d:=(Qt b).2.1;have:(CE l i).length*8276<=8*8276:=AN _ d;omega
theorem za {l:List Pr}(c: ∀p∈l,Ls p): ∀a∈(Ku l).map BO,a.length<=1048576:=λa d=>by
 obtain⟨b,e,rfl⟩:=List.mem_map.1 d;obtain⟨i,f,rfl⟩:=List.mem_map.1 e;have:=Qw c (List.mem_range.1 f);omega
theorem AOo {l:List Pr}{i:Nat}(a:i<Bt l):((Ku l).map BO)[i]? =some (BO (CE l i)):=by simp[Ku,a]
theorem Ri {l:List Pr}{i:Nat}(a:i<Bt l):(CV l)[i]? =some (JA l (8*i)):=by simp[CV,a]
theorem UO {a:Type}{l:List a}{i:Nat}{x:a}(b:l[i]? =some x):l.take (i+1)=l.take i++ [x]:=by rw[AD,b];rfl
theorem zd(a b:List Pr):JB (a++b)=JB a++JB b:=by simp[JB]
theorem ze {l:List Pr}(b:l.Pairwise λp a=>aN p.key a.key=true){i:Nat}{p a:Pr}(c:l[i]? =some p)(d:l[i+1]? =some a):aN p.key a.key=true:=by obtain⟨e,rfl⟩:=List.getElem?_eq_some_iff.1 c;obtain⟨f,rfl⟩:=List.getElem?_eq_some_iff.1 d;exact List.pairwise_iff_getElem.1 b _ _ e f (by omega)
theorem AKs(a:Nat)(b:a<=100000):(if(8192:Int)<(J8 J9 (((a:Nat):Int)+(8:Int))) then(8192:Int) else(J8 J9 (((a:Nat):Int)+(8:Int))))=((min (a+8) 8192:Nat):Int):=by rw[wrap_i64 (by omega) (by omega)];split<;>omega
theorem AOy {bw:al}{e:aa}{s:Sl}{l:List Pr}{aW:A2J}(T:Ha l)(X:View BM e s l)(au: ∀b,s.ag=some b->b<e.size)
  (bx: ∀aX,Ext e aX->aW (J1 #[J7 (AY (Js l)),J6 J9 0]) aX):AA bw P QB #[J4 s.p s.len s.cap] e aW:=by
 refine ACY ?_;unfold WW;have cQ:=List.length_pos_iff.2 T.ne;have cR:=T.many;refine af.no (by rw[X.len];simp;exact T.ne) ?_;refine Loop.rule (λm x t=> ∃i:Nat,x=(⟨#[]⟩,0,(i:Int),())/\m=l.length-i/\i<=l.length/\Ext e t) ?_ ⟨0,rfl,rfl,by omega,Mod.refl⟩;rintro K m _ g ⟨i,rfl,rfl,cS,M⟩ aY;dsimp only;have av:=X.ext M;refine af.intro (λw=>?_) (λw=>?_)
 ·have aw:i<l.length:=by rw[X.len] at w;simp at w;omega
  have y:l[i]? =some l[i]:=A2 aw;have z:=T.ok _ (AW aw);generalize l[i]=x at y z;have aZ:=z.bI;have bz:=z.ct;refine av.idx y λa bA f=>?_
  obtain⟨ax,c1,c2⟩:=f.pair;rw[An];refine AJ.mk ax (AJ.mk c1 (AZ.mk c2 ?_));refine ao.pair λb Y bB B a0 cT=>?_
  refine ai.mk λay bC=>?_
  refine AJ.mk (AL B rfl) (af.no (yV z.key) ?_);have a1:ay (false,()) Y:=by
   refine bC _ _ (af.no rfl ?_);refine ai.mk λcU bD=>?_
   refine AJ.mk (AL B rfl) (af.no (by simp;omega) ?_);refine AJ.mk (AB B rfl) ?_;refine bD _ _ (af.no (by simp;omega) ?_);rw[Ab (by omega)];exact aY (l.length-(i+1)) _ _ (by omega) ⟨i+1,rfl,rfl,aw,M.trans a0⟩
  have a2:af (decide (((i:Nat):Int)>(0:Int))) (AJ Y (⟨b,0,none⟩:Q6) λa3=>
     bE s.p s.len (J8 J9 (((i:Nat):Int)-(1:Int))) λa4=>
     AJ Y (a4.add ((J8 J9 (((i:Nat):Int)-(1:Int))).toNat*3)) λa5=>
     ay ((aN a3 a5||bQ a3 a5),()) Y) (ay (false,()) Y):=by
   refine af.intro (λbF=>?_) (λ_=>a1);have cV:0<i:=by simp at bF;omega
   obtain⟨k,rfl⟩: ∃k,i=k+1:=⟨i-1,by omega⟩;have az:J8 J9 (((k+1:Nat):Int)-(1:Int))=(k:Int):=by rw[wrap_i64 (by omega) (by omega)];omega
   have N:l[k]? =some l[k]:=A2 (by omega);refine AJ.mk (AL B rfl) ?_;rw[az];refine(av.ext a0).idx N λa4 cW Z=>?_
   rw[An];refine AJ.mk Z.pair.1 ?_;have aA:=ze T.inc N y;have q:(aN x.key l[k].key||bQ x.key l[k].key)=false:=by
    rw[GC];refine⟨?_,?_⟩
    ·cases bG:aN x.key l[k].key with
     |false=>rfl
     |true=>have:=DX aA bG;rw[CX] at this;cases this
    ·rw[Cn,decide_eq_false_iff_not];intro q;rw[q,CX] at aA;cases aA
   rw[q];exact a1
  refine AZ.mk (AB B rfl) (af.intro (λbH=>?_) (λ_=>a2));refine AJ.mk (AB B rfl) (af.no ?_ a2);rw[Xl,UN (z.gone bH)];rfl
 ·clear aY;have aC:=X.len;refine ao.mk λbI _ bJ bK bL=>?_
  refine ao.mk λbM _ a6 a7 cX=>?_
  refine ao.mk λcY _ a8 aD cZ=>?_
  refine ae.mk a8 (by simp) λa9 ba ak c0=>?_
  refine ao.mk λc3 _ bb am c4=>?_
  refine ae.mk bb (by simp) λbc bd ab c5=>?_
  have be:bI.size=g.size+1:=bL;have bf:bM.size=g.size+2:=by omega
  have bg:a9.size=g.size+3:=by omega
  have bN:bc.size=g.size+4:=by omega
  rw[be] at a6;rw[bf] at a8 ak ba;rw[bg] at bb ab bd;rw[be,bf,bg];refine APB X.cap (by omega) λfv G O bO aE Z bh=>⟨_,rfl,?_⟩
  rw[bN] at bO aE Z bh;generalize bP:g.size=o at*
  have bR: ∃E:Nat->Obj->Prop,E=λc h=>(c=o+4/\h=J2 #[J4 s.p s.len s.cap] AR (0,0))\/(c=o+5/\h=J2 #[J6 J9 8] Bq (0,0)):=⟨_,rfl⟩
  obtain⟨E,an⟩:=bR;have bS:Ext g G:=by refine⟨by have:=O.size;omega,λc f _=>?_⟩;rw[bP] at f;exact(O.get c (by omega) (λe=>e)).trans ((ab.get c (by omega) (by omega)).trans ((am.get c (by omega) (λe=>e)).trans ((ak.get c (by omega) (by omega)).trans ((aD.get c (by omega) (λe=>e)).trans ((a7.get c (by omega) (λe=>e)).trans (bK.get c (by omega) (λe=>e)))))))
  have bT:G[o]? =some (J2 #[J5 none,J4 none 0 0] EZ (0,0)):=
   O.ag (ab.ag (am.ag (ak.ag (aD.ag (a7.ag bJ (λe=>e)) (λe=>e)) (by omega)) (λe=>e)) (by omega)) (λe=>e)
  have bU:G[o+1]? =some (J2 #[J4 none 0 0] CL (0,0)):=
   O.ag (ab.ag (am.ag (ak.ag (aD.ag a6 (λe=>e)) (by omega)) (λe=>e)) (by omega)) (λe=>e)
  have bV:G[o+2]? =some (J2 #[J7 (AY [])] BI (0,0)):=by
   have bW:a9[o+2]? =some (J2 #[J7 (AY [])] BI (0,0)):=by rw[ye];simpa using ba
   exact O.ag (ab.ag (am.ag bW (λe=>e)) (by omega)) (λe=>e)
  have bX:G[o+3]? =some (J2 #[J6 J9 ((0:Nat):Int)] Bq (0,0)):=by
   have bY:bc[o+3]? =some (J2 #[J6 J9 ((0:Nat):Int)] Bq (0,0)):=by simpa using bd
   exact O.ag bY (λe=>e)
  have bq:BS g o E [] [] [] 0 G:=by
   refine⟨AQQ bT (A0 _),⟨⟨none,0,0⟩,bU,Own.nil,λc f=>by simp[Sl.ag] at f⟩,bV,bX,λc h f=>?_,bS.mod⟩;subst an;rcases f with⟨rfl,rfl⟩|⟨rfl,rfl⟩
   ·exact aE
   ·exact Z
  have Q:jY o E:=by
   subst an;refine⟨λc h f C D=>?_,λc h f C D=>?_,λc h f=>?_⟩
   ·rcases f with⟨rfl,rfl⟩|⟨rfl,rfl⟩<;>exact Mv (by decide) _ _
   ·rcases f with⟨rfl,rfl⟩|⟨rfl,rfl⟩<;>exact Mv (by decide) _ _
   ·rcases f with⟨rfl,rfl⟩|⟨rfl,rfl⟩<;>omega
  have bi: ∀d h,o+6<=d-> ¬E d h:=by subst an;rintro d h hd (⟨rfl,_⟩|⟨rfl,_⟩)<;>omega
  have bZ:(chunks s).length=Bt l:=by rw[Re,aC];rfl
  have c6:Bt l<=12501:=by unfold Bt;omega
  have ap:G.size=o+6:=by omega
  have b0: ∀b,s.ag=some b->b<o:=λb b1=>by have:=au b b1;have:=M.size;omega
  refine ATG bh (λi t=>BS g o E (aI (((Ku l).map BO).take i)) (JB (l.take (8*i))) (G6 ((CV l).take i)) i t) ?_ ?_ ?_ ?_ ?_
  ·intro i t r c f;subst an;rcases f with rfl|rfl
   ·exact(r.fix _ _ (.inl ⟨rfl,rfl⟩)).trans aE.symm
   ·exact(r.fix _ _ (.inr ⟨rfl,rfl⟩)).trans Z.symm
  ·rintro i t h r R ⟨c7,b2⟩;exact r.lp (by omega) (λh=>bi _ _ (by omega)) b2 h
  ·intro rec;exact bq.ext ((Mod.push G _).trans (Mod.push _ _))
  ·intro i x t rec c8 c9 y r R aq b3 b4;have S:i<Bt l:=by have:=(List.getElem?_eq_some_iff.1 y).1;omega
   have b5:x=P9 s i:=by have:=yY (s:=s) (i:=i) (by rw[aC];exact S);rw[this] at y;exact(By y).symm
   subst b5;rw[ap] at R aq ⊢;refine⟨rec,aq,b3,?_⟩;obtain⟨u,J⟩: ∃u:Nat->Obj->Prop,u=λc h=>E c h\/(c=o+6/\h= .deferred (some []))\/(c=o+6+1/\h= .loop {rec with state:= .busy}):=⟨_,rfl⟩
   have L:jY o u:=by
    subst J;refine⟨λc h f C D=>?_,λc h f C D=>?_,λc h f=>?_⟩
    ·rcases f with e|⟨rfl,rfl⟩|⟨rfl,rfl⟩
     ·exact Q.u8 c h e C D
     ·intro q;cases q
     ·intro q;cases q
    ·rcases f with e|⟨rfl,rfl⟩|⟨rfl,rfl⟩
     ·exact Q.str c h e C D
     ·intro q;cases q
     ·intro q;cases q
    ·rcases f with e|⟨rfl,rfl⟩|⟨rfl,rfl⟩
     ·exact Q.lt c h e
     ·omega
     ·omega
   have U:=r.lp (d:=o+6+1) (by omega) (λh=>bi _ _ (by omega)) aq {rec with state:= .busy};have aF:BS g o u (aI (((Ku l).map BO).take i)) (JB (l.take (8*i))) (G6 ((CV l).take i)) i (t.setIfInBounds (o+6+1) (.loop {rec with state:= .busy})):=by
    refine⟨U.gD,U.keys,U.ix,U.cn,λc h f=>?_,U.ey⟩;subst J;rcases f with e|⟨rfl,rfl⟩|⟨rfl,rfl⟩
    ·exact U.fix c h e
    ·rw[DH (by omega)];exact R
    ·exact Cg (Ai aq)
   generalize t.setIfInBounds (o+6+1) (.loop {rec with state:= .busy})=da at aF;have db:=Qt S;have aG: ∀p∈CE l i,Ls p:=λp aH=>T.ok p (Pv aH)
   have aJ: ∀ {t:aa} {out:List UInt8} {b6:List A2K} {b7:List UInt8} {n:Nat},BS g o u out b6 b7 n t->View BM t (P9 s i) (CE l i):=λb=>
    View.chunk (av.mod b.ey (λc f=>by have:=b0 c f;omega)) S
   have b8:(P9 s i).len=(CE l i).length:=(aJ aF).len;have aK:=VH (rs:=((Ku l).map BO).take i) λb9 ca=>za T.ok b9 (DB ca)
   have aL:=Qx (ks:=(CV l).take i) λk N=>PL T.ok k (DB N)
   rw[As] at aK aL;have dc:=Qw T.ok S;refine Loop.rule (λm x t=> ∃j:Nat,x=(AY (BO ((CE l i).take j)),(j:Int),())/\m=(CE l i).length-j/\j<=(CE l i).length/\
    BS g o u (aI (((Ku l).map BO).take i)) (JB (l.take (8*i))++JB ((CE l i).take j)) (G6 ((CV l).take i)) i t) ?_ ⟨0,rfl,rfl,by omega,by simpa [JB] using aF⟩
   rintro dd m _ de ⟨j,rfl,rfl,df,H⟩ cb;dsimp only[rn];refine af.intro (λw=>?_) (λw=>?_)
   ·have ac:j<(CE l i).length:=by have w:((j:Nat):Int)<(((P9 s i).len:Nat):Int):=of_decide_eq_true w;omega
    have y:(CE l i)[j]? =some (CE l i)[j]:=A2 ac;have z:=aG _ (AW ac);generalize (CE l i)[j]=p at y z;have bj:=UO y;refine(aJ H).idx y λa bA f=>?_
    obtain⟨ax,c1,c2⟩:=f.pair;rw[An];refine AJ.mk ax (AJ.mk c1 (AZ.mk c2 ?_));refine ao.pair λbk dg bB B cc dh=>?_
    have A:=H.ext cc;obtain⟨ks,ad,ag,aj⟩:=A.keys;refine Aa.mk (s:=ks) (AL ad rfl) ?_;refine AJ.mk (AL B rfl) ?_;have di:o+3<bk:=by have:=Ai H.cn;omega
    have aM:(JB (l.take (8*i))++JB ((CE l i).take j)).length<=100010:=by rw[A1];simp only[JB,B9,As];omega
    refine ao.aZ (E:=Ik) (x:=p.key) rfl si ag (by omega) (by simp only[maxLen];omega) λbm cd ce aO cf dj=>?_
    have cg:cd[o+1]? =some (J2 #[J4 ks.p ks.len ks.cap] CL (0,0)):=aO.ag ad (λe=>by have:=aj _ e;omega);refine ae.mk cg (by simp) λbn ch aP dk=>?_
    have bo: ∀c,bm.ag=some c->o+3<c:=λc f=>by
     rcases cf c f with e|e
     ·exact aj c e
     ·have:=Ai A.cn;omega
    have F:BS g o u _ (JB (l.take (8*i))++JB ((CE l i).take j)++ [p.key]) _ i bn:=
     A.key L (jx:=bm) ad ag aj ((aO.aj λc _ f=> .inl f).trans (aP.aj λc _ f=> .inr f)) (by simpa using ch) (ce.mod aP (λc f e=>by have:=bo c f;omega)) bo
    have aQ:bn[bk]? =some (J2 #[J7 p.key,J7 p.val,J3 p.gone] AQ (0,0)):=aP.ag (aO.ag B (λe=>ag.ne B (by decide) e)) (by omega);refine AJ.mk (AL aQ rfl) (AJ.mk (AB aQ rfl) (AZ.mk (AB aQ rfl) ?_));refine AOf (x:=p) z λdl ci=>⟨_,rfl,?_⟩
    have cj:BO ((CE l i).take (j+1))=BO ((CE l i).take j)++I1 p:=by rw[bj];simp[BO]
    have lt:=ME (l:=(CE l i).take j) λck w=>aG ck (DB w)
    rw[As] at lt;have lp:=(QY z).2;have aZ:=z.bI;have bz:=z.ct;refine⟨by rw[AP,AP,max_i64];omega,?_⟩;rw[Ak,<-cj,Ab (by omega)];refine cb ((CE l i).length-(j+1)) _ _ (by omega) ⟨j+1,rfl,rfl,ac,?_⟩;have I:=F.ext ci;have:JB ((CE l i).take (j+1))=JB ((CE l i).take j)++ [p.key]:=by rw[bj,zd];rfl
    rw[this,<-A4];exact I
   ·have ac:j=(CE l i).length:=by have w: ¬((j:Nat):Int)<(((P9 s i).len:Nat):Int):=of_decide_eq_false w;omega
    have cl:(CE l i).take j=CE l i:=by rw[ac];simp
    rw[cl] at H ⊢;refine YX (by omega) (λe=>by omega) λaR dm cm=>⟨_,_,rfl,?_⟩
    have A:=H.ext cm;have cn:=Jc aR;refine Ur A.gD (by have:=Ai A.cn;omega) (by rw[AP];omega) λco cp cq=>⟨_,_,rfl,?_⟩
    have F:=A.write L cp cq;rw[EF] at F;refine AJ.mk (AL F.ix rfl) ?_;have aS:(CE l i)[0]? =some (CE l i)[0]:=A2 (by omega);have bp:JA l (8*i)=(CE l i)[0].key:=by have:=QW (l:=l) (i:=i) (j:=0) (by omega);rw[aS] at this;unfold JA;rw[FG] at this;rw[<- this]
    have br:=aG _ (AW (show 0<(CE l i).length by omega));generalize (CE l i)[0]=V at aS bp br;obtain⟨cr,cs,bs⟩:=(aJ F).cells 0 V aS;refine bE.mk (k:=0) cs (by rw[b8];omega) ?_;rw[HT,add_zero] at bs;refine AJ.mk (n:=V.key) (by show ah co (cr.add 0)=_;rw[add_zero];exact bs.pair.1) ?_;have aZ:=br.bI;refine Ve (by omega) λdn ct=>⟨_,rfl,?_⟩
    have I:=F.ext ct;refine⟨AL I.ix rfl,?_⟩;have dp:=AV (n:=(bl V.key).length) (by rw[A8];omega);have dq:=A8 V.key;refine⟨by rw[AP,AP,max_i64];simp only[BF,A1];omega,?_⟩;rw[Ak];refine ae.mk I.ix (by simp) λdr cu cv ds=>?_
    have W:=I.ixs L (pj:=G6 ((CV l).take i)++BF (bl V.key)) cv (by simpa using cu);refine AC.mk (AL W.cn rfl) ?_;rw[Ab (by omega)];refine ae.mk W.cn (by simp) λcw cx cy dt=>?_
    have v:=W.ph L (n':=i+1) cy (by simpa using cx);have az:aI (((Ku l).map BO).take (i+1))=aI (((Ku l).map BO).take i)++CY (BO (CE l i)):=by rw[UO (AOo S)];simp[aI]
    have cz:JB (l.take (8*(i+1)))=JB (l.take (8*i))++JB (CE l i):=by rw[<- zd,wB]
    have cB:G6 ((CV l).take (i+1))=G6 ((CV l).take i)++BF (bl V.key):=by rw[UO (Ri S),bp];simp[G6]
    subst J;refine b4 cw ?_ ?_ ?_
    ·rw[az,cz,cB];exact⟨v.gD,v.keys,v.ix,v.cn,λc h f=>v.fix c h (.inl f),v.ey⟩
    ·rw[ap];exact v.fix _ _ (.inr (.inl ⟨rfl,rfl⟩))
    ·rw[ap];exact v.fix _ _ (.inr (.inr ⟨rfl,rfl⟩))
  ·intro cC r R;rw[bZ] at r;have ad:((Ku l).map BO).take (Bt l)=(Ku l).map BO:=Ax (by simp[JH]);have ag:l.take (8*Bt l)=l:=Ax (by unfold Bt;omega);have aj:(CV l).take (Bt l)=CV l:=Ax (by simp[IE]);rw[ad,ag,aj] at r;rw[ap] at R ⊢;obtain⟨u,J⟩: ∃u:Nat->Obj->Prop,u=λc h=>E c h\/(c=o+6/\h= .deferred (some [])):=⟨_,rfl⟩
   have L:jY o u:=by
    subst J;refine⟨λc h f C D=>?_,λc h f C D=>?_,λc h f=>?_⟩
    ·rcases f with e|⟨rfl,rfl⟩
     ·exact Q.u8 c h e C D
     ·intro q;cases q
    ·rcases f with e|⟨rfl,rfl⟩
     ·exact Q.str c h e C D
     ·intro q;cases q
    ·rcases f with e|⟨rfl,rfl⟩
     ·exact Q.lt c h e
     ·omega
   have H:BS g o u (aI ((Ku l).map BO)) (JB l) (G6 (CV l)) (Bt l) cC:=by
    refine⟨r.gD,r.keys,r.ix,r.cn,λc h f=>?_,r.ey⟩;subst J;rcases f with e|⟨rfl,rfl⟩
    ·exact r.fix c h e
    ·exact R
   obtain⟨ks,bt,aU,du⟩:=H.keys;refine Aa.mk (s:=ks) (AL bt rfl) (Aa.mk (s:=ks) (AL bt rfl) ?_);have aM:ks.len=l.length:=by rw[aU.len];simp[JB]
   have bu:1<=jg l/\jg l<=8192:=by unfold jg;omega
   have bv:=T.eL;have dv:=bv.jw;rw[aM,AKs _ T.many];rw[show((min (l.length+8) 8192:Nat):Int)=((jg l:Nat):Int) from rfl,<-aM];refine AQN (ks:=JB l) aU.view (λk N=>?_) bu.1 bu.2 (by simp[JB];omega) (λb au=>aU.lt au) λdw cD=>⟨_,_,rfl,?_⟩
   ·obtain⟨p,aH,rfl⟩:=List.mem_map.1 N;have:=(T.ok p aH).bI;omega
   have A:=H.ext cD;refine AC.mk (AL A.cn rfl) (AJ.mk (AL A.ix rfl) ?_);rw[Bu (by omega)];refine CU (by omega) λdx cE=>⟨_,rfl,?_⟩
   have F:=A.ext cE;refine⟨AL F.ix rfl,?_⟩;have dy:=AV (n:=Bt l) (by omega);have aL:=Qx (ks:=CV l) (PL T.ok);rw[IE] at aL;refine⟨by rw[AP,AP,max_i64];omega,?_⟩;rw[aC,Bu (by omega)];refine CU (by omega) λdz cF=>⟨_,rfl,?_⟩
   have I:=F.ext cF;have dA:=AV (n:=l.length) (by omega);refine⟨AL I.ix rfl,?_⟩;rw[Ak];refine⟨by rw[AP,AP,max_i64];simp only[A1];omega,?_⟩;refine PO (l:=NG l) (by omega) λdB cG=>⟨_,rfl,?_⟩
   have W:=I.ext cG;have dC:=AV (n:=(NG l).length) (by omega);refine⟨AL W.ix rfl,?_⟩;rw[Ak,Ak];have dD:(BF (NG l)).length=(BU (NG l).length).length+(NG l).length:=by simp[BF]
   refine⟨by rw[AP,AP,max_i64];simp only[A1];omega,?_⟩;have cH:BU (Bt l)++G6 (CV l)++BU l.length++BF (NG l)=Vt l (NG l):=by unfold Vt G6;simp only[A4]
   rw[cH];have dE:=YR bv;refine YX (by omega) (λe=>by omega) λaR dF cI=>⟨_,_,rfl,af.no rfl ?_⟩
   have v:=W.ext cI;have aK:=VH (rs:=(Ku l).map BO) (za T.ok);rw[B9,JH] at aK;have cn:=Jc aR;refine Ur v.gD (by have:=Ai v.cn;omega) (by rw[AP];omega) λdG cJ cK=>⟨_,_,rfl,?_⟩
   have ar:=v.write L cJ cK;rw[EF] at ar;refine AJk ar.gD (by have:=Ai ar.cn;omega) λcL cM cN=>⟨_,rfl,?_⟩
   have aV:=ar.write L cM cN;have cO:aI ((Ku l).map BO)++CY (Vt l (NG l))=Js l:=by unfold Js aT;simp[aI]
   have cP:cL[o+6]? =some (.deferred (some [])):=aV.fix _ _ (by subst J;exact .inr ⟨rfl,rfl⟩);refine⟨cP,?_⟩;rw[cO];refine bx _ ⟨?_,λc f _=>?_⟩
   ·have:=aV.ey.size;have:=M.size;simp;omega
   ·have:=M.size;rw[DH (by omega)];exact(aV.ey.get c (by omega) (by omega)).trans (M.get c f (λe=>e))
end Go.Lf.G
namespace Go.Proofs
open Go.Shelf
theorem bears {P : Program} {f : FuncId} {b : Func} (a : (P.funcs[f]?).map (λx => { x with name := "" }) = some { b with name := "" }) (d : ((P.funcs[f]?).all λx => !(x.name == "runtime.NumGoroutine")) = true) : Bears P f b := by
 cases c:P.funcs[f]? with
 |none=>rw[c] at a;cases a
 |some x=>
  rw[c] at a d;simp only[Option.map_some,Option.some.injEq] at a;refine⟨x.name,by simpa using d,c.trans (congrArg some ?_)⟩;cases x;cases b
  simp_all
def Tryz.cH:Go.Shelf.Ren:=⟨λ|7=>76|10=>118|a=>a,λ|23=>102|26=>9|3=>165|28=>163|0=>0|27=>162|33=>71|4=>4|a=>a,λ|a=>a⟩
theorem Tryz.iU:Go.Proofs.SlLaysZ.n7 Tryz.prog Tryz.cH:=by repeat' first|exact Lf.Da (by kernel_rfl)|kernel_rfl|exact bears (by kernel_rfl) (by kernel_rfl)|decide|constructor
def Tryz.dF:Go.Shelf.Ren:=⟨λ|6=>75|8=>116|9=>117|11=>169|13=>171|12=>170|23=>216|24=>217|14=>207|15=>208|16=>209|17=>210|18=>211|19=>212|20=>213|21=>214|22=>215|25=>236|26=>237|27=>238|28=>239|29=>240|30=>241|31=>262|a=>a,λ|26=>9|28=>163|24=>66|0=>0|3=>3|37=>153|48=>150|50=>140|4=>4|40=>312|39=>311|45=>270|5=>5|9=>9|51=>330|55=>333|57=>356|58=>263|33=>71|a=>a,λ|a=>a⟩
theorem Tryz.iA:Go.Proofs.SlLaysZ.n6 Tryz.prog Tryz.dF:=by repeat' first|exact Lf.Da (by kernel_rfl)|kernel_rfl|exact bears (by kernel_rfl) (by kernel_rfl)|decide|constructor
def Tryz.fS:Go.Shelf.Ren:=⟨λ|6=>117|8=>171|9=>170|19=>216|20=>217|21=>207|22=>208|23=>209|24=>210|25=>211|26=>212|27=>213|28=>214|29=>215|36=>236|31=>237|32=>238|37=>239|38=>240|39=>241|41=>262|a=>a,λ|27=>66|29=>9|3=>3|32=>153|26=>66|0=>0|44=>150|46=>140|4=>4|36=>312|35=>311|41=>270|5=>5|9=>9|53=>330|57=>333|63=>356|64=>263|a=>a,λ|a=>a⟩
theorem Tryz.iV:Go.Proofs.SlLaysM.n6 Tryz.prog Tryz.fS:=by repeat' first|exact Lf.Da (by kernel_rfl)|kernel_rfl|exact bears (by kernel_rfl) (by kernel_rfl)|decide|constructor
def Tryz.fT:Go.Shelf.Ren:=⟨λ|5=>219|8=>171|7=>244|19=>216|20=>217|10=>265|11=>266|12=>267|13=>268|14=>269|15=>270|16=>271|17=>272|18=>273|30=>290|31=>237|32=>238|33=>291|34=>292|35=>293|40=>300|a=>a,λ|23=>86|25=>3|3=>3|32=>153|22=>86|0=>0|44=>150|46=>140|4=>4|36=>312|35=>311|41=>270|5=>5|9=>9|53=>330|57=>333|63=>356|64=>263|a=>a,λ|a=>a⟩
theorem Tryz.iW:Go.Proofs.SlLaysM.n5 Tryz.prog Tryz.fT:=by repeat' first|exact Lf.Da (by kernel_rfl)|kernel_rfl|exact bears (by kernel_rfl) (by kernel_rfl)|decide|constructor
end Go.Proofs
namespace Go.Lf.G
open Go
abbrev od:Q8:=Fa
theorem AQZ {d:al}{a:aa}{b:Option Nat}{e:A2J}(g: ∀T c,c[a.size]? =some (J2 #[.map b] T (0,0))->Ext a c->c.size=a.size+1->e (.func (.func od) #[] #[Ap a.size]) c):
  AA d P Bw #[.map b] a e:=by
 intro f;have h:=Proofs.AnyZ.keys_in Proofs.Tryz.iU Fence.wide 5 trivial rfl b (d.at a f);have i:=callsIn_wide.1 h;refine Calls.mono i ?_;rintro j k ⟨rfl,rfl⟩;refine⟨_,rfl,a.push (J2 #[.map b] (Proofs.Tryz.cH.t 23)),f,rfl,?_⟩;exact g (Proofs.Tryz.cH.t 23) (a.push (J2 #[.map b] (Proofs.Tryz.cH.t 23))) (by simp) (Mod.push a _) (by simp)
theorem ASv(m:Nat):Proofs.AnyZ.SortsIn P Proofs.Tryz.dF Fence.wide m:=
 ⟨λag off a c b d e f=>callsIn_wide.2 (Proofs.AnyM.slices_Sort_string Proofs.Tryz.iV ag off a c b d e f),
 λp a b=>callsIn_wide.2 (Proofs.AnyM.slices_Sort_string_none Proofs.Tryz.iV p a b)⟩
theorem AMS {A:al}{h:aa}{c i:Nat}{T:Q7}{m:List (A2K×J0)}{l:List A2K}{o:A2J}(p:h[c]? =some (J2 #[.map (some i)] T (0,0)))(M:Vh h i m)
  (B:om l) (C:(m.map (·.1)).Perm l) (d:m.length<=8796093022208)
  (q: ∀s j,Own Ik BI j s l->Ext h j->(∀ b,s.ag=some b->h.size<=b)->o (J4 s.p s.len s.cap) j):
  AA A P GN #[.func (.func od) #[] #[Ap c]] h o:=by
 intro n;obtain⟨k,D,E,r⟩:=AKi (P:=P) (kt:=BI) Pg (w:=A.at h n) M;have F:SeqGives Fence.wide 2 P od #[Ap c] Proofs.encStr (λe=>e.Perm (strKeys k)) (Maps.size k) (A.at h n):=
  Proofs.AnyZ.keys_gives (ρ:=Proofs.Tryz.cH) {Proofs.Tryz.iU with} Fence.wide _ trivial rfl (by omega) c i _ k _ (show c<h.size from Ai p) (by show ah h ⟨c,0,none⟩=_;rw[IG p];rfl) D
 have G:=Proofs.AnyZ.sorted_in Proofs.Tryz.iA Fence.wide 5 trivial trivial trivial trivial rfl (by omega) (ASv _) (Proofs.enters_of Proofs.Tryz.func117 (by kernel_rfl) rfl) od #[Ap c] trivial (Proofs.enters_of Proofs.Tryz.func118 (by kernel_rfl) rfl) _ _ (by rw[r];simp[maxLen];omega) (by rw[r];omega) _ F;have H:=callsIn_wide.1 G;refine Calls.mono H ?_;rintro V a ⟨v,e,rfl,I,t,W,f⟩;have u:a=A.at a.heap a.drawn:=vv (A:=A) (h:=h) (n:=n) rfl f.os f.tape f.output;have y:e.Perm (l.map λx=>x.data.toList):=by
  refine(I.trans E).trans ?_;have:=C.map λx:A2K=>x.data.toList
  simpa [AT,FF] using this
 have J:e.length=l.length:=by have:=y.length_eq;simpa using this
 rw[AJg B y,AMn] at t;have z:Ext h a.heap:=⟨f.size,λb d _=>f.block b d⟩;rcases t.2 with⟨rfl,X⟩|⟨g,K,L,rfl,N,O,Q,R,S,U⟩
 ·have:l= []:=CT (by omega);subst this;exact⟨_,rfl,a.heap,a.drawn,u,q ⟨none,0,0⟩ _ Own.nil z (λb d=>by simp[Sl.ag] at d)⟩
 ·refine⟨_,rfl,a.heap,a.drawn,u,q ⟨some ⟨g,0,none⟩,e.length,K⟩ _ ⟨J,.inr ⟨g,L,rfl,O,Q,R,S,U⟩⟩ z (λb d=>?_)⟩;simp[Sl.ag] at d;subst d;exact N
def jU(m:Bx):List A2K×Int:=if m.down then([],30) else(m.files.map (·.name),0)
theorem FQ.names {d:aa}{b e:Nat}{a:List (Fi×Nat)}{m:Bx}(c:FQ d b e a m):((fi a).map (·.1)).Perm (m.files.map (·.name))/\(fi a).length<=8796093022208:=by
 refine⟨?_,?_⟩
 ·have:=c.perm.map (·.name);simpa [fi,AT,FF] using this
 ·have f:=c.perm.length_eq;have g:=VU m.files;have h:=c.aQ.wt;simp at f ⊢;omega
theorem FQ.fw {h:al}{a:aa}{b i:Nat}{n:List (Fi×Nat)}{m:Bx}(d:FQ a b i n m){j:Sl->aa->Prop}
  (o: ∀s f,Own Ik BI f s (m.files.map (·.name))->Ext a f->(∀ c,s.ag=some c->a.size<=c)->j s f):
  AA h P Bw #[.map (some i)] a λv1 g=> ∃k:J0,v1=k/\(
   AA h P GN #[k] g λv2 p=> ∃e:Sl,v2=J4 e.p e.len e.cap/\j e p):=by
 refine AQZ λT w q l x=>⟨_,rfl,?_⟩
 refine AMS q (d.map.mod l (λa=>a)) (UQ.1 d.aQ.sorted) d.names.1 d.names.2 λs g r t u=>⟨s,rfl,?_⟩
 exact o s g r (l.trans t) (λc v=>by have:=u c v;omega)
theorem vQ {i:al}{a:aa}{b:Nat}{j:Nat->Prop}{m:Bx}{h:A2J}(d:Cf a b j m)
  (e: ∀s g,Own Ik BI g s (jU m).1->Ext a g->(∀ c,s.ag=some c->a.size<=c)->h (J1 #[J4 s.p s.len s.cap,J6 J9 (jU m).2]) g):AA i P Ld #[Ap b] a h:=by
 obtain⟨n,o,d,p⟩:=d;refine ABj ?_;unfold Uw;refine lI d.head ⟨_,rfl,?_⟩;unfold jU at e;refine af.intro (λhd=>?_) (λhd=>?_)
 ·rw[if_pos hd] at e;exact e ⟨none,0,0⟩ a Own.nil Mod.refl (λc k=>by simp[Sl.ag] at k)
 rw[if_neg (by simp[hd])] at e;exact aD (Fg.mk (AL d.head rfl) (d.fw λs g l x f=>e s g l x f))
end Go.Lf.G
