/-
 Plain law: a box of files (chapter 3).
-/
import Derived.Test.YtgpmoonnachoaaaGreatDoorLfKToGA
import Derived.Test.YtgpmoonnachoaaaGreatDoorLfG1
import Derived.Shelf.Strings.Repeat
import Derived.Shelf.Small.Wraps
import Derived.Shelf.Pu.ParseUintPublic10
import Derived.Shelf.Strconv.Itoa3
import Derived.Shelf.Strconv.AtoiAll
import Derived.Shelf.Strings.BuilderK
import Derived.Test.YtgpmoonnachoaaaGreatDoorLfAToN1
import Derived.Test.YtgpmoonnachoaaaGreatDoorProg
import Derived.Lib.ItoaNum
import Derived.Lib.Repeat
import Derived.Lib.ParseIntB
import Derived.Test.YtgpmoonnachoaaaGreatDoorRows
import Derived.Lib.ItoaLen
import Derived.Lib.AppendIntMem
import Derived.WalkKit
import Derived.ProofKit
import Derived.OpenShut
import Derived.JoinedCond
import Derived.Deep.Slices
import Derived.Carry
import Derived.Shelf.SlGeneric
import Derived.Shelf.SlIter.Nil
import Derived.Shelf.SlIter.Sorted
import Derived.Shelf.SortM.Plain
import Derived.Shelf.SortM.SortNone
set_option maxRecDepth 100000
set_option linter.unusedVariables false
set_option linter.unusedSimpArgs false
open Go.IntKind renaming i64→J9,wrap→J8
open Go.Value renaming string→J7,int→J6,pointer→J5,slice→J4,bool→J3,tuple→J1
open Go.Obj renaming cells→J2
open Go renaming Value→J0,Addr→Q6,TypeId→Q7,FuncId→Q8,Program→Q1
open Go.Addr renaming add→Q9,mk→Q5
namespace Go.Lf
open Go
abbrev bg:A2I:=⟨#[]⟩
theorem mX:ByteArray.size ⟨#[]⟩=0:=rfl
structure Fi where
 name:A2I
 bM:A2I
 soft:A2I
deriving DecidableEq
def Fu(l:List Fi):Prop:=l.Pairwise λa b=>aR a.name b.name=true
def CE(a:A2I)(l:List Fi):Option Fi:=l.find? λf=>decide (f.name=a)
def QV(a:A2I)(g:Fi->Fi)(l:List Fi):List Fi:=l.map λf=>if f.name=a then g f else f
def QU(a:A2I)(l:List Fi):List Fi:=l.filter λf=> !decide (f.name=a)
def im(x:Fi):List Fi->List Fi
 | []=> [x]
 |q::l=>if aR q.name x.name then q::im x l else x::q::l
def aY(l:List Fi):Nat:=(l.map λf=>f.bM.size+f.soft.size+1).sum
theorem Ez(a:A2I)(x:Fi)(l:List Fi):CE a (x::l)=if x.name=a then some x else CE a l:=by unfold CE;rw[E0];by_cases b:x.name=a<;>simp[b]
theorem IE {b:A2I}{l:List Fi}{x:Fi}(a:CE b l=some x):x.name=b/\x∈l:=by unfold CE at a;exact⟨by simpa using PB a,Lk a⟩
theorem PX {b:A2I}{l:List Fi}(a:CE b l=none): ∀x∈l,x.name≠b:=by unfold CE at a;rw[GO] at a;simpa using a
theorem Ul {a:A2I}{l:List Fi}(b: ∀x∈l,x.name≠a):CE a l=none:=by unfold CE;rw[GO];simpa using b
theorem Fu.find {l:List Fi}(s:Fu l){x:Fi}(a:x∈l):CE x.name l=some x:=by
 induction l with
 |nil=>cases a
 |cons d l c=>
  rw[Ez];have b:=List.pairwise_cons.1 s;rcases List.mem_cons.1 a with rfl|a
  ·simp
  ·rw[if_neg (Lx (b.1 x a))];exact c b.2 a
theorem Oi(x:Fi): ∀l,(im x l).Perm (x::l)
 | []=>Is _
 |q::l=>by
  unfold im;split
  ·exact((Oi x l).cons q).trans (List.Perm.swap x q l)
  ·exact Is _
theorem Uz {x:Fi}: ∀ {l:List Fi},Fu l->(∀ b∈l,b.name≠x.name)->Fu (im x l)
 | [],_,_=>LL _ _
 |q::l,s,e=>by
  have c:=List.pairwise_cons.1 s;unfold im;split
  ·rename_i d;refine List.pairwise_cons.2 ⟨λb a=>?_,Uz c.2 λb a=>e b (AG _ a)⟩;rcases List.mem_cons.1 ((Oi x l).subset a) with rfl|a
   ·exact d
   ·exact c.1 b a
  ·rename_i d;have f:aR x.name q.name=true:=by
    cases g:aR x.name q.name
    ·exact absurd (OQ (by simpa using d) g) (e q Cd)
    ·rfl
   refine List.pairwise_cons.2 ⟨λb a=>?_,s⟩;rcases List.mem_cons.1 a with rfl|a
   ·exact f
   ·exact DY f (c.1 b a)
theorem AJ5 {a:A2I}{g:Fi->Fi}(b: ∀f,(g f).name=f.name)(l:List Fi):(QV a g l).map (·.name)=l.map (·.name):=by
 unfold QV;rw[B9];refine CD λf _=>?_
 simp only[Function.comp];split<;>simp[b]
theorem Ug {l:List Fi}:Fu l↔oW (l.map (·.name)):=by unfold Fu oW;rw[MY]
theorem xN {k:A2I}{g:Fi->Fi}(a: ∀f,(g f).name=f.name){l:List Fi}(s:Fu l):Fu (QV k g l):=by rw[Ug,AJ5 a];exact Ug.1 s
theorem AI6 {a:A2I}{l:List Fi}(s:Fu l):Fu (QU a l):=s.sublist FA
theorem rP {a c:A2I}{g:Fi->Fi}(b: ∀f,(g f).name=f.name): ∀l:List Fi,CE c (QV a g l)=(CE c l).map λf=>if f.name=a then g f else f
 | []=>rfl
 |x::l=>by
  show CE c ((if x.name=a then g x else x)::QV a g l)=_;rw[Ez,Ez,rP b l];have:(if x.name=a then g x else x).name=x.name:=by split<;>simp[b]
  rw[this];by_cases d:x.name=c<;>simp[d]
theorem rQ {k c:A2I}: ∀l:List Fi,CE c (QU k l)=if c=k then none else CE c l
 | []=>by simp[QU,CE]
 |x::l=>by
  have b:=rQ (k:=k) (c:=c) l;unfold QU at b ⊢;rw[AT,Ez];by_cases d:x.name=k
  ·simp only[d,decide_true,KB,Cl,if_false];rw[b];by_cases a:c=k
   ·simp[a]
   ·simp[a,Ne.symm a]
  ·simp only[d,decide_false,Kx,if_true];rw[Ez,b];by_cases a:c=k
   ·subst a;simp[d]
   ·simp[a]
theorem xO {x:Fi}{c:A2I}: ∀ {l:List Fi},(∀ a∈l,a.name≠x.name)->CE c (im x l)=if x.name=c then some x else CE c l
 | [],_=>by show CE c [x]=_;rw[Ez]
 |q::l,d=>by
  unfold im;split
  ·rw[Ez,xO λa e=>d a (AG _ e),Ez];by_cases b:q.name=c
   ·simp[b];intro f;exact absurd (b.trans f.symm) (d q Cd)
   ·simp[b]
  ·rw[Ez]
theorem IV(x:Fi)(l:List Fi):aY (x::l)=x.bM.size+x.soft.size+1+aY l:=by simp[aY]
theorem AOE {l m:List Fi}(a:l.Perm m):aY l=aY m:=(a.map _).sum_nat
theorem xP(x:Fi)(l:List Fi):aY (im x l)=x.bM.size+x.soft.size+1+aY l:=by rw[AOE (Oi x l),IV]
theorem Sq: ∀l:List Fi,l.length<=aY l
 | []=>by simp[aY]
 |x::l=>by rw[IV,A6];have:=Sq l;omega
theorem Vq {x:Fi}: ∀ {l:List Fi},x∈l->x.bM.size+x.soft.size<=aY l
 | [],a=>by cases a
 |y::l,a=>by
  rw[IV];rcases List.mem_cons.1 a with rfl|a
  ·omega
  ·have:=Vq a;omega
theorem rR {k:A2I}: ∀l:List Fi,aY (QU k l)<=aY l
 | []=>by simp[QU,aY]
 |x::l=>by
  have:=rR (k:=k) l;unfold QU at this ⊢;rw[AT];split
  ·rw[IV,IV];omega
  ·rw[IV];omega
theorem Zq {k:A2I}{g:Fi->Fi}{d:Nat}(a: ∀f,(g f).bM.size+(g f).soft.size<=f.bM.size+f.soft.size+d): ∀ {l:List Fi},Fu l->aY (QV k g l)<=aY l+d
 | [],_=>by simp[QV,aY]
 |x::l,s=>by
  have b:=List.pairwise_cons.1 s;show aY ((if x.name=k then g x else x)::QV k g l)<=_;rw[IV,IV];split
  ·rename_i c;have:QV k g l=l:=by unfold QV;rw[CD (g:=id) λe h=>?_,Jx];have:=Lx (b.1 e h);rw[if_neg (λi=>this (c.trans i.symm))];rfl
   rw[this];have:=a x;omega
  ·have:=Zq a (k:=k) b.2;omega
structure Bx where
 files:List Fi
 fuel:Int
 down:Bool
def iq:Bx:=⟨[],-1,false⟩
def Jr(a:A2I):Bool:=decide (a=bg)||decide (a.size>32)
def Ie(m:Bx):Bx:=if m.fuel>0 then {m with fuel:=m.fuel-1} else m
def LQ(m:Bx):Bx:= {m with down:=true}
def Uo(name:A2I)(l:List Fi):List Fi:=if(CE name l).isSome then l else im ⟨name,bg,bg⟩ l
def Sd(a:A2I)(f:Fi):Fi:= {f with soft:=f.soft++a}
def TG(f:Fi):Fi:=⟨f.name,f.bM++f.soft,bg⟩
def Dp(m:Bx)(name a:A2I):Int×Bx:=
 if m.down then(30,m) else if Jr name then(1,m) else if m.fuel=0 then(30,LQ m) else(0,{Ie m with files:=QV name (Sd a) (Uo name m.files)})
def G8(m:Bx)(name:A2I):Int×Bx:=
 if m.down then(30,m) else if(CE name m.files).isNone then(31,m) else if m.fuel=0 then(30,LQ m) else(0,{Ie m with files:=QV name TG m.files})
def EU(m:Bx)(name:A2I):Int×Bx:=
 if m.down then(30,m) else if(CE name m.files).isNone then(31,m) else if m.fuel=0 then(30,LQ m) else(0,{Ie m with files:=QU name m.files})
def FN(m:Bx)(name:A2I):A2I×Int:=
 if m.down then(bg,30) else match CE name m.files with|none=>(bg,31)|some f=>(f.bM++f.soft,0)
def kN(m:Bx)(a:Int):Bx:= {m with fuel:=if(-1:Int)>a then -1 else a}
def Qr(aw:List Int)(a:Nat)(f:Fi):A2I:=
 if f.soft=bg then f.bM else match aw[a]? with|some b=>f.bM++f.soft.extract 0 (min b.toNat f.soft.size)|none=>f.bM
def QC(a:Nat)(f:Fi):Nat:=if f.soft=bg then a else a+1
def iI(aw:List Int)(a:Nat)(f:Fi):List Fi:=if Qr aw a f=bg then [] else [⟨f.name,Qr aw a f,bg⟩]
def Dx(aw:List Int):Nat->List Fi->List Fi
 |_,[]=> []
 |k,f::l=>iI aw k f++Dx aw (QC k f) l
def R7(m:Bx)(aw:List Int):Bx:=⟨Dx aw 0 m.files,-1,false⟩
structure Es (m:Bx):Prop where
 sorted:Fu m.files
 names: ∀f∈m.files,f.name.size<=32
 lo: -1<=m.fuel
 hi:m.fuel<=9223372036854775807
 wt:aY m.files<=8796093022208
theorem xQ(a b:A2I):(a++b).size=a.size+b.size:=Hv
theorem OY(a:A2I):a++bg=a:=by simp[LR,bg]
theorem OE(a:A2I):bg++a=a:=by simp[LR,bg]
theorem ANM:Es iq:=⟨List.Pairwise.nil,by simp[iq],by simp[iq],by simp[iq],by simp[iq,aY]⟩
theorem Es.tick {m:Bx}(g:Es m)(l:List Fi)(a:Fu l)(b: ∀f∈l,f.name.size<=32)(c:aY l<=8796093022208):Es {Ie m with files:=l}:=by
 have:=g.lo;have:=g.hi;refine⟨a,b,?_,?_,c⟩
 ·show -1<=(Ie m).fuel;unfold Ie;split<;>(try simp only[])<;>omega
 ·show(Ie m).fuel<=_;unfold Ie;split<;>(try simp only[])<;>omega
theorem Es.off {m:Bx}(g:Es m):Es (LQ m):=⟨g.sorted,g.names,g.lo,g.hi,g.wt⟩
theorem xR {name:A2I}{l:List Fi}(s:Fu l):Fu (Uo name l)/\aY (Uo name l)<=aY l+1/\(∀ f∈Uo name l,f∈l\/f.name=name):=by
 unfold Uo;split
 ·exact⟨s,by omega,λf a=> .inl a⟩
 ·rename_i b;have c:=PX (by simpa using b);refine⟨Uz s c,by rw[xP];simp[mX];omega,λf a=>?_⟩;rcases List.mem_cons.1 ((Oi _ l).subset a) with rfl|a
  ·exact .inr rfl
  ·exact .inl a
theorem xS {c:A2I}{g:Fi->Fi}(d: ∀f,(g f).name=f.name){l:List Fi}{f:Fi}(b:f∈QV c g l): ∃a∈l,a.name=f.name:=by unfold QV at b;obtain⟨a,e,rfl⟩:=List.mem_map.1 b;exact⟨a,e,by split<;>simp[d]⟩
theorem Es.append {m:Bx}(g:Es m){name data:A2I}(n:aY m.files+data.size+1<=8796093022208):Es (Dp m name data).2:=by
 unfold Dp;split
 ·exact g
 ·split
  ·exact g
  ·rename_i e;split
   ·exact g.off
   ·obtain⟨b,o,h⟩:=xR (name:=name) g.sorted;refine g.tick _ (xN (k:=name) (g:=Sd data) (λ_=>rfl) b) (λf i=>?_) ?_
    ·obtain⟨c,j,l⟩:=xS (g:=Sd data) (λ_=>rfl) i;rw[<- l];rcases h c j with a|a
     ·exact g.names c a
     ·rw[a];simp[Jr] at e;omega
    ·have:=Zq (k:=name) (g:=Sd data) (d:=data.size) (λf=>by simp[Sd];omega) b;omega
theorem Es.sync {m:Bx}(g:Es m){name:A2I}:Es (G8 m name).2:=by
 unfold G8;split
 ·exact g
 ·split
  ·exact g
  ·split
   ·exact g.off
   ·refine g.tick _ (xN (k:=name) (g:=TG) (λ_=>rfl) g.sorted) (λf a=>?_) ?_
    ·obtain⟨b,c,e⟩:=xS (g:=TG) (λ_=>rfl) a;rw[<- e];exact g.names b c
    ·have:=Zq (k:=name) (g:=TG) (d:=0) (λf=>by simp[TG,mX]) g.sorted;have:=g.wt;omega
theorem Es.delete {m:Bx}(g:Es m){name:A2I}:Es (EU m name).2:=by
 unfold EU;split
 ·exact g
 ·split
  ·exact g
  ·split
   ·exact g.off
   ·exact g.tick _ (AI6 g.sorted) (λf a=>g.names f (List.mem_filter.1 a).1) (As (rR _) g.wt)
theorem Es.fuel {m:Bx}(g:Es m){a:Int}(b:a<=9223372036854775807):Es (kN m a):=by refine⟨g.sorted,g.names,?_,?_,g.wt⟩<;>(simp only[kN];split<;>omega)
theorem Pf {aw:List Int}: ∀ {l:List Fi} {c:Nat} {f:Fi},f∈Dx aw c l-> ∃b∈l,b.name=f.name
 | [],_,_,a=>by simp[Dx] at a
 |x::l,c,f,a=>by
  unfold Dx at a;rcases List.mem_append.1 a with a|a
  ·unfold iI at a;split at a
   ·cases a
   ·simp at a;exact⟨x,Cd,by rw[a]⟩
  ·obtain⟨b,d,e⟩:=Pf a;exact⟨b,AG _ d,e⟩
theorem WT {aw:List Int}: ∀ {l:List Fi} {d:Nat},Fu l->Fu (Dx aw d l)
 | [],_,_=>List.Pairwise.nil
 |x::l,d,s=>by
  have e:=List.pairwise_cons.1 s;unfold Dx;refine List.pairwise_append.2 ⟨?_,WT e.2,?_⟩
  ·unfold iI;split
   ·exact List.Pairwise.nil
   ·exact LL _ _
  ·intro a c b f;have:a.name=x.name:=by
    unfold iI at c;split at c
    ·cases c
    ·simp at c;rw[c]
   obtain⟨g,h,i⟩:=Pf f;rw[this,<-i];exact e.1 g h
theorem AMq(aw:List Int)(a:Nat)(f:Fi):(Qr aw a f).size<=f.bM.size+f.soft.size:=by
 unfold Qr;split
 ·omega
 ·split
  ·rw[xQ,LN];omega
  ·omega
theorem rS {aw:List Int}: ∀ {l:List Fi} {k:Nat},aY (Dx aw k l)<=aY l
 | [],_=>by simp[Dx]
 |x::l,k=>by
  unfold Dx;have:=rS (aw:=aw) (l:=l) (k:=QC k x);have:=AMq aw k x;unfold iI;rw[IV];split
  ·simp;omega
  ·rw[N2,IV];simp[mX];omega
theorem Es.dj {m:Bx}(g:Es m){aw:List Int}:Es (R7 m aw):=
 ⟨WT g.sorted,λf a=>by obtain⟨b,c,d⟩:=Pf a;rw[<- d];exact g.names b c,by simp[R7],by simp[R7],As rS g.wt⟩
theorem Vg {m:Bx}(g:Es m)(name a:A2I):aY (Dp m name a).2.files<=aY m.files+a.size+1:=by
 unfold Dp;split
 ·simp;omega
 ·split
  ·simp;omega
  ·split
   ·simp[LQ];omega
   ·obtain⟨b,c,_⟩:=xR (name:=name) g.sorted;have:=Zq (k:=name) (g:=Sd a) (d:=a.size) (λf=>by simp[Sd];omega) b;simp;omega
theorem YZ {m:Bx}(g:Es m)(name:A2I):aY (G8 m name).2.files<=aY m.files:=by
 unfold G8;split
 ·simp
 ·split
  ·simp
  ·split
   ·simp[LQ]
   ·have:=Zq (k:=name) (g:=TG) (d:=0) (λf=>by simp[TG,mX]) g.sorted;simpa using this
theorem Vi {m:Bx}(name:A2I):aY (EU m name).2.files<=aY m.files:=by
 unfold EU;split
 ·simp
 ·split
  ·simp
  ·split
   ·simp[LQ]
   ·exact rR _
theorem AOg {m:Bx}{aw:List Int}:aY (R7 m aw).files<=aY m.files:=rS
theorem yp {d:Type}{a:cL d}{x e:d}{c:Nat}{v:J0}(f:a.enc e=(a.enc x).set c v)(g:c<a.w): ∀ {l:List d} {i:Nat},l[i]? =some x->(l.set i e).flatMap a.enc=(l.flatMap a.enc).set (i*a.w+c) v
 | [],_,b=>by simp at b
 |y::l,0,b=>by
  simp at b;subst b;rw[List.set_cons_zero,AH,AH,f,HT,AI,Wr _ _ (by rw[a.len];exact g)]
 |y::l,i+1,b=>by
  rw[List.set_cons_succ,AH,AH,yp f g (l:=l) (i:=i) (by simpa using b),HL _ _ (by rw[a.len,Dd];omega),a.len];rw[show(i+1)*a.w+c-a.w=i*a.w+c by rw[Dd];omega]
theorem Own.store {e:Type}{E:cL e}{T:Q7}{d:aa}{s:Sl}{l:List e}{i j:Nat}{x x':e}{v:J0}{K:aa->Prop}(f:Own E T d s l)(h:l[i]? =some x)(q:E.enc x'=(E.enc x).set j v)(r:j<E.w)
  (t: ∀b,Own E T b s (l.set i x')->Mod (λc=>s.ag=some c) d b->b.size=d.size->K b): ∀a,s.p=some a->ae d ((a.add (i*E.w)).add j) v K:=by
 intro a n;rcases f.row with⟨rfl,rfl⟩|⟨g,u,k,w,o,y,p,z⟩
 ·simp at h
 ·rw[k] at n;cases n;rw[add_add,Bq,AI];have A:i<l.length:=(List.getElem?_eq_some_iff.1 h).1;have F:i*E.w+j<s.len*E.w:=by have:(i+1)*E.w<=s.len*E.w:=AK _ (by rw[f.len];exact A);rw[Dd] at this;omega
  have G:s.len*E.w<=u.size:=by rw[p];exact AK _ o
  refine ae.mk w (by omega) λb B m C=>t b ⟨by rw[PA];exact f.len,.inr ⟨g,_,k,B,o,y,by simpa using p,?_⟩⟩ (m.aj λc _ D=>by simp[Sl.ag,k,D]) C
  rw[DS,List.take_set,z,yp q r h]
theorem Own.ne {d:Type}{h:cL d}{T e:Q7}{f:aa}{s:Sl}{l:List d}(i:Own h T f s l){b:Nat}{j:Array J0}{fr:Nat×Nat}(a:f[b]? =some (J2 j e fr))(k:T≠e):s.ag≠some b:=by
 intro c;rcases i.row with⟨rfl,_⟩|⟨g,p,m,n,_⟩
 ·simp[Sl.ag] at c
 ·simp[Sl.ag,m] at c;subst c;rw[n] at a;injection a with a;injection a with _ o _;exact k o
def cU(a:Nat)(l:List Fi):Nat:=l.foldl QC a
theorem yq(aw:List Int): ∀(a c:List Fi) (b:Nat),Dx aw b (a++c)=Dx aw b a++Dx aw (cU b a) c
 | [],_,_=>rfl
 |x::a,c,b=>by
  show iI aw b x++Dx aw (QC b x) (a++c)=_;rw[yq aw a c,<-A4];rfl
theorem yt {aw:List Int}: ∀ {l:List Fi} {k:Nat},(Dx aw k l).length<=l.length
 | [],_=>by simp[Dx]
 |x::l,k=>by
  have:=yt (aw:=aw) (l:=l) (k:=QC k x);unfold Dx iI;split<;>simp<;>omega
theorem yu: ∀(n:Nat) (l:List Fi),aY (l.take n)<=aY l
 |0,l=>by simp[aY]
 |n+1,[]=>by simp
 |n+1,x::l=>by rw[HU,IV,IV];have:=yu n l;omega
theorem Mod.lS {d S':Nat->Prop}{c e:aa}(a:Mod d c e)(f: ∀b,b<c.size-> ¬d b):Mod S' c e:=a.aj λb g c=>(f b g c).elim
theorem ANZ(a:Nat)(l:List Fi)(x:Fi):cU a (l++ [x])=QC (cU a l) x:=by simp[cU]
theorem yw: ∀(l:List Fi) (a:Nat),cU a l<=a+l.length
 | [],a=>by simp[cU]
 |x::l,a=>by
  show cU (QC a x) l<=_;have:=yw l (QC a x);have:QC a x<=a+1:=by unfold QC;split<;>omega
  rw[A6];omega
theorem AHh(aw:List Int)(l:List Fi)(x:Fi):Dx aw 0 (l++ [x])=Dx aw 0 l++iI aw (cU 0 l) x:=by rw[yq];simp[Dx]
theorem ao.lX {a:aa}{T:Q7}{h i d v1:J0}{K:Nat->aa->Prop}
  (j: ∀b c,b=a.size->c[b]? =some (J2 #[d,v1] T (0,0))->Ext a c->c.size=a.size+1->K b c):
  ao a (J2 #[h,i] T) λb e=>ae e ⟨b,0,none⟩ d λf=>ae f ((⟨b,0,none⟩:Q6).add 1) v1 λg=>K b g:=by
 refine ao.mk λe _ k l s=>?_
 simp only[Bq,AI];refine ae.mk k (by simp) λf n o t=>?_
 refine ae.mk n (by simp) λg p q u=>?_
 refine j _ _ rfl (by simpa using p) ?_ (by omega);have m:=(o.trans q);exact⟨by omega,λb r _=>(m.get b (by omega) (by omega)).trans (l.get b r (by simp))⟩
end Go.Lf
namespace Go.Lf.G
open Go
theorem Ns:P.underlying BD=some .string:=by kernel_rfl
theorem lM:P.underlying EE=some (.int .u8):=by kernel_rfl
theorem lN:P.underlying DN=some (.slice EE):=by kernel_rfl
theorem yU:Ra P DN EE Ho.w 1=true:=by kernel_rfl
theorem Ca {y:ak}{d:aa}{n:Nat}{q:A2H}(z:n<18446744073709551616)(A: ∀e,Ext d e->q (.string (AX (BX n))) e):AA y P Aw #[.int .u64 (n:Int)] d q:=by
 refine AIO ?_;unfold vK;have r:=AV z;refine Loop.rule (λm x f=> ∃(a:Nat) (s:Sl) (c:List UInt8),x=((a:Int),s,())/\Own Ho EE f s c/\Ext d f/\(∀ b,s.ag=some b->d.size<=b)/\BX n=c++BX a/\m=a) ?_
  ⟨n,⟨none,0,0⟩,[],rfl,Own.nil,Mod.refl,λb g=>by simp[Sl.ag] at g,rfl,rfl⟩
 rintro K m _ f ⟨a,s,c,rfl,t,x,h,i,F⟩ B;have hd:c.length<=10:=by rw[i] at r;simp at r;omega
 refine af.intro (λj=>?_) (λj=>?_)
 ·have k: ¬a<128:=by simp at j;omega
  refine ao.bq (E:=Ho) (x:=Bu (a % 128+128)) (s:=s) (l:=c) (by dsimp only[Ho];rw[AQQ]) yU t (by simp;omega) (by simp[maxLen];omega) λu e o p v C=>?_
  refine B (a / 128) _ _ (by omega) ⟨a / 128,u,c++ [Bu (a % 128+128)],?_,o,x.more p h,λb g=>?_,?_,rfl⟩
  ·dsimp only;rw[Qx a 7]
  ·rcases v b g with w|w
   ·exact h b w
   ·have:=x.size;omega
  ·rw[i,YO k];simp
 ·have k:a<128:=by simp at j;omega
  refine ao.bq (E:=Ho) (x:=Bu a) (s:=s) (l:=c) (by dsimp only[Ho];rw[Dt (show a<256 by omega),wrap_u8,AD (show a<256 by omega)]) yU t (by simp;omega) (by simp[maxLen];omega) λu e o p v C=>?_
  refine Kn lN lM Ns o.view ⟨_,rfl,?_⟩;have D:c++ [Bu a]=BX n:=by rw[i,Ff k]
  rw[D];exact A _ (x.more p h)
theorem AOR(a:Nat):(if(10:Int)<(a:Int) then(10:Int) else(a:Int))=((min a 10:Nat):Int):=by split<;>omega
theorem yV {D:ak}{e:aa}{s:A2I}{n:A2H}(V:s.size<=8796093022208)
  (v:MJ 0 0 s.data.toList=none->n (.tuple #[.int .u64 0,.string ⟨#[]⟩,.bool false]) e)
  (E: ∀w t,MJ 0 0 s.data.toList=some (w,t)->n (.tuple #[.int .u64 (w:Int),.string (AX t),.bool true]) e):AA D P SI #[.string s] e n:=by
 refine AHW ?_;unfold vT;have W:s.data.toList.length=s.size:=by rw[Hk];rfl
 refine Loop.rule (λm x o=> ∃(i a:Nat),x=((a:Int),(i:Int),())/\o=e/\i<=s.size/\i<=10/\a<128^i/\MJ 0 0 s.data.toList=MJ i a (s.data.toList.drop i)/\m=10-i) ?_
  ⟨0,0,rfl,rfl,by omega,by omega,by simp,rfl,rfl⟩
 rintro K m _ o ⟨i,a,rfl,y,X,Y,F,p,Z⟩ G;subst o;dsimp only;rw[AOR];refine af.intro (λd=>?_) (λd=>?_)
 ·have z:i<s.size/\i<10:=by simp at d;omega
  have q:i<s.data.toList.length:=by omega
  refine⟨⟨by omega,by omega⟩,?_⟩;obtain⟨c,r⟩: ∃c,s.data.toList[i]? =some c:=⟨_,A2 q⟩;have A:s.data.toList.drop i=c::s.data.toList.drop (i+1):=by rw[F2 q];rw[A2 q] at r;rw[Bm r]
  have B:c.toNat<256:=c.toNat_lt;rw[OI r];have H:((i=9/\1<c.toNat)\/(0<i/\c.toNat=0))->MJ 0 0 s.data.toList=none:=λg=>by
   rw[p,A,MJ,if_pos (.inr g)]
  have I: ¬((i=9/\1<c.toNat)\/(0<i/\c.toNat=0))->MJ 0 0 s.data.toList=if c.toNat<128 then some (a+c.toNat*128^i,s.data.toList.drop (i+1)) else MJ (i+1) (a+c.toNat % 128*128^i) (s.data.toList.drop (i+1)):=λg=>by
   rw[p,A,MJ,if_neg (λe=>e.elim (by omega) g)]
  refine ai.mk λJ L=>?_
  have key: ∀(b:Bool),(b=true↔((i=9/\1<c.toNat)\/(0<i/\c.toNat=0)))->J (b,()) e:=λb g=>by
   refine L _ _ ?_;refine af.intro (λM=>v (H (g.1 M))) (λC=>?_);have N: ¬((i=9/\1<c.toNat)\/(0<i/\c.toNat=0)):=λe=>by rw[g.2 e] at C;cases C
   have j:=I N;have O:J8 J9 ((7:Int)*(i:Int))=((7*i:Nat):Int):=by rw[show(7:Int)*(i:Int)=((7*i:Nat):Int) by simp];exact El (by omega)
   have Q:Gn .u8 (c.toNat:Int) (127:Int)=((c.toNat % 128:Nat):Int):=by have:=yT (a:=c.toNat) (b:=127) B (by decide);rw[ASw _ B] at this;exact this
   have R:J8 .u64 ((c.toNat % 128:Nat):Int)=((c.toNat % 128:Nat):Int):=by rw[wrap_u64,AD (by omega)]
   rw[O,Q,R,ATH (by omega) (Cp _ (by decide)),ARD (by omega) F (Cp _ (by decide)),Aa (by omega)];have ab:=MR (show i<=9 by omega);have S:(128:Nat)^9=9223372036854775808:=by decide
   have T:c.toNat % 128*128^i % 18446744073709551616=c.toNat % 128*128^i:=by
    refine AD ?_;by_cases k:i=9
    ·subst k;have:c.toNat<=1:=by omega
     rw[S];omega
    ·have ac:=MR (show i<=8 by omega);have ae:(128:Nat)^8=72057594037927936:=by decide
     have:c.toNat % 128*128^i<=127*128^i:=AK _ (by omega);omega
   rw[T];refine⟨by omega,?_⟩;refine af.intro (λd=>?_) (λd=>?_)
   ·have l:c.toNat<128:=by simp at d;omega
    rw[if_pos l] at j;refine⟨⟨by omega,by omega⟩,?_⟩;have:=E _ _ j;rw[AD l];have y:s.extract ((i+1:Nat):Int).toNat s.size=AX (s.data.toList.drop (i+1)):=sr _ _;rw[y];exact this
   ·have l: ¬c.toNat<128:=by simp at d;omega
    rw[if_neg l] at j;refine G (10-(i+1)) _ _ (by omega) ⟨i+1,a+c.toNat % 128*128^i,rfl,rfl,by omega,by omega,?_,j,rfl⟩;have:(c.toNat % 128+1)*128^i<=128*128^i:=AK _ (by omega);rw[Dd] at this;rw[DP,CM (128^i)];omega
  refine af.intro (λd=>?_) (λd=>?_)
  ·have k:i=9:=by simp at d;omega
   refine af.intro (λu=>key _ ⟨λ_=> .inl ⟨k,by simp at u;omega⟩,λ_=>rfl⟩) (λu=>?_);refine af.intro (λh=>key _ ⟨λf=> .inr ⟨by omega,by simp at f;omega⟩,λf=>by simp at u ⊢;omega⟩) (λh=>?_);simp at h;omega
  ·have k:i≠9:=by simp at d;omega
   refine af.intro (λh=>key _ ⟨λf=> .inr ⟨by simp at h;omega,by simp at f;omega⟩,λf=>(by simp;omega)⟩) (λh=>key _ ⟨(λf=>(by cases f)),λf=>(by simp at h;omega)⟩)
 ·have z:s.size=i\/i=10:=by simp at d;omega
  refine v ?_;rw[p];rcases z with U|U
  ·rw[I0 (by omega)];rfl
  ·cases hd:s.data.toList.drop i with
   |nil=>rfl
   |cons c t=>rw[MJ,if_pos (.inl (by omega))]
theorem aE {a:Q6}{K:Q6->Prop}(b:K a):At (some a) K:=b
theorem ae.dy {a:aa}{b d:Nat}{v:J0}{e:Array J0}{T:Q7}{K:aa->Prop}(f:a[b]? =some (J2 e T (0,0)))(g:d<e.size)
  (h: ∀c,c[b]? =some (J2 (e.setIfInBounds d v) T (0,0))->Mod (· =b) a c->c.size=a.size->K c):ae a ((⟨b,0,none⟩:Q6).add d) v K:=by
 rw[Bq,AI];exact ae.mk f g h
theorem max_i64:IntKind.max J9=9223372036854775807:=by simp_all
theorem wrap_i64 {n:Int}(a: -9223372036854775808<=n)(b:n<=9223372036854775807):J8 J9 n=n:=by grind [J8,IntKind.bits,IntKind.signed]
theorem CJ {a:Nat}(b:a<18446744073709551616):J8 .u64 (a:Int)=(a:Int):=by rw[wrap_u64,AD b]
abbrev Ak(b:Nat):J0:=J5 (some ⟨b,0,none⟩)
def Iw(c:aa)(b:Nat)(a:Rd):Prop:=c[b]? =some (J2 #[J7 (AX a.rest),J3 a.bad] Wn (0,0))
theorem yX:AX []=⟨#[]⟩:=rfl
theorem yY(l:List UInt8)(a:Nat):(AX l).extract 0 a=AX (l.take a):=by rw[AOM,Be]
theorem sw(l:List UInt8)(a:Nat):(AX l).extract a (AX l).size=AX (l.drop a):=by rw[sr,Be]
theorem AO0(l:List UInt8)(i a:Nat):(AX l).extract i a=AX ((l.take a).drop i):=by rw[eI,Be]
theorem Aq(a b:List UInt8):AX a++AX b=AX (a++b):=by apply NO;simp[AX,GP]
theorem Pk {A:ak}{h:aa}{l:List UInt8}{R:A2H}(d:l.length<=1099511627776)(b: ∀a,Ext h a->R (J7 (AX (BG l))) a):AA A P CP #[J7 (AX l)] h R:=by
 refine AGy ?_;unfold vJ;rw[AP,CJ (by omega)];have:=AV (n:=l.length) (by omega);refine Ca (by omega) λe c=>⟨_,rfl,⟨by rw[AP,max_i64];omega,?_⟩⟩
 rw[Aq];exact b _ c
theorem KG {d:ak}{a:aa}{l:List UInt8}{c:A2H}(e: ∀b,Iw b a.size ⟨l,false⟩->Ext a b->c (Ak a.size) b):AA d P Em #[J7 (AX l)] a c:=by refine AHI ?_;unfold vN;exact ao.mk λf _ g x _=>e f g x
theorem yZ {j:ak}{d:aa}{b:Nat}{a:Rd}{h:A2H}(e:Iw d b a)(q:a.rest.length<=1099511627776)
  (i: ∀f,Iw f b (Hw a).2->Mod (· =b) d f->h (.int .u64 ((Hw a).1:Int)) f):AA j P JC #[Ak b] d h:=by
 refine XL ?_;unfold P5;refine ai.mk λK k=>af.no rfl (aE (AZ.mk (AB e rfl) (k _ _ ?_)))
 refine af.intro (λc=>?_) (λc=>?_)
 ·have:=i d;rw[AON c] at this;exact this e Mod.refl
 ·refine aE (AJ.mk (AL e rfl) ?_);have c:a.bad=false:=c;refine yV (by grind [AP,Nat.le_trans]) (λg=>⟨_,_,_,rfl,?_⟩) (λr t g=>⟨_,_,_,rfl,?_⟩)
  all_goals
   rw[Be] at g;refine aE (ae.mk e (by simp) λs l m u=>aE (ae.dy l (by simp) λn o p v=>?_));have:=i n;simp only[Hw,c,g] at this;exact this o (m.trans p)
theorem ANw {m:Nat}(a:m<=9223372036854775807):J8 .u64 (m:Int)=(m:Int):=CJ (by omega)
theorem DZ {l:ak}{e:aa}{b:Nat}{c:Rd}{most:Nat}{j:A2H}(m:Iw e b c)(n:c.rest.length<=1099511627776)(o:most<=9223372036854775807)
  (f: ∀g,Iw g b (CQ most c).2->Mod (· =b) e g->j (J6 J9 ((CQ most c).1:Int)) g):AA l P Af #[Ak b,J6 J9 (most:Int)] e j:=by
 refine Xi ?_;unfold Pt;refine yZ m n λk d h=>⟨_,rfl,?_⟩
 refine ai.mk λK p=>af.no rfl (aE (AZ.mk (AB d rfl) (p _ _ ?_)))
 refine af.intro (λa=>?_) (λa=>?_)
 ·have:=f k;have a:(Hw c).2.bad=true:=a;simp only[CQ,a,if_true] at this;exact this d h
 ·have a:(Hw c).2.bad=false:=a;refine ai.mk λw q=>af.no (by simp) (q _ _ ?_)
  rw[ANw o];refine af.intro (λi=>?_) (λi=>?_)
  ·refine aE (ae.mk d (by simp) λx r s y=>aE (ae.dy r (by simp) λt u v z=>?_));have:=f t;simp only[CQ,a] at this;rw[if_neg (by simp),if_pos (by simp at i;omega)] at this;exact this u ((h.trans s).trans v)
  ·have:=f k;simp at i;simp only[CQ,a] at this;rw[if_neg (by simp),if_neg (by omega)] at this;rw[El (by omega)];exact this d h
theorem sx {n:ak}{f:aa}{b g:Nat}{d:Rd}{l:A2H}(c:Iw f b d)
  (h: ∀i,Iw i b (Kk g d).2->Mod (· =b) f i->l (J7 (AX (Kk g d).1)) i):AA n P GI #[Ak b,J6 J9 (g:Int)] f l:=by
 refine WF ?_;unfold PV;refine ai.mk λK o=>af.no rfl (aE (AZ.mk (AB c rfl) (o _ _ ?_)))
 refine af.intro (λa=>?_) (λa=>?_)
 ·have:=h f;have a:d.bad=true:=a;simp only[Kk,a,if_true] at this;exact this c Mod.refl
 ·have a:d.bad=false:=a;refine ai.mk λu p=>af.no (by simp) (aE (AJ.mk (AL c rfl) (p _ _ ?_)))
  rw[AP];refine af.intro (λj=>?_) (λj=>?_)
  ·refine aE (ae.mk c (by simp) λm e k q=>aE (ae.dy e (by simp) λr s t v=>?_));have:=h r;simp only[Kk,a] at this;rw[if_neg (by simp),if_pos (by simp at j;omega)] at this;exact this s (k.trans t)
  ·simp at j;refine aE (AJ.mk (AL c rfl) ⟨⟨by omega,by rw[AP];omega⟩,aE (AJ.mk (AL c rfl) ⟨⟨by omega,by rw[AP];omega⟩,aE (ae.mk c (by simp) λm e k q=>?_)⟩)⟩);have:=h m;simp only[Kk,a] at this;rw[if_neg (by simp),if_neg (by omega)] at this;simp only[AF,yY,sw] at e ⊢;rw[a] at e;exact this e k
theorem Hl {k:ak}{d:aa}{b:Nat}{a:Rd}{g:A2H}(l:Iw d b a)(v:a.rest.length<1099511627776)
  (h: ∀e,Iw e b (FO a).2->Mod (· =b) d e->g (J7 (AX (FO a).1)) e):AA k P Bf #[Ak b] d g:=by
 refine WC ?_;unfold PY;refine yZ l (by omega) λm f i=>⟨_,rfl,?_⟩
 have w:=UW a;refine ai.mk λK n=>af.no rfl (aE (AZ.mk (AB f rfl) (n _ _ ?_)))
 refine af.intro (λc=>?_) (λc=>?_)
 ·have:=h m;have c:(Hw a).2.bad=true:=c;simp only[FO,c,if_true] at this;exact this f i
 ·have c:(Hw a).2.bad=false:=c;have o:J8 J9 (if(1099511627776:Int)<((Hw a).1:Int) then 1099511627776 else((Hw a).1:Int))=((min (Hw a).1 1099511627776:Nat):Int):=by grind [wrap_i64]
  rw[o];refine sx f λp j q=>⟨_,rfl,?_⟩
  have:=h p;simp only[FO,c] at this;rw[if_neg (by simp)] at this;have r:Kk (min (Hw a).1 1099511627776) (Hw a).2=Kk (Hw a).1 (Hw a).2:=by
   by_cases s:(Hw a).1<=1099511627776
   ·rw[GS s]
   ·have t:(Hw a).2.rest.length<min (Hw a).1 1099511627776:=by omega
    have u:(Hw a).2.rest.length<(Hw a).1:=by omega
    simp only[Kk,c,Cl,if_false,if_pos t,if_pos u]
  rw[r] at j ⊢;exact this j (i.trans q)
theorem MZ {g:ak}{c:aa}{b:Nat}{r:Rd}{e:A2H}(f:Iw c b r)(a:e (J3 (Su r)) c):AA g P CV #[Ak b] c e:=by
 refine XO ?_;unfold QE;refine af.yes rfl (aE (AZ.mk (AB f rfl) ?_));unfold Su at a;refine af.intro (λd=>?_) (λd=>?_)
 ·refine aE (AJ.mk (AL f rfl) ?_);rw[d] at a;have h:bU (AX r.rest) (⟨#[]⟩:A2I)=r.rest.isEmpty:=by grind [CZ,yX,Mq]
  rw[h];simpa using a
 ·rw[d] at a;exact a
theorem APm {c:Nat}(e:c<4294967296):gz .u32 ((c:Int).fdiv ((2:Int)^(1:Nat))) (Gn .u32 (3988292384:Int) (J8 .u32 (0-(Gn .u32 (c:Int) (1:Int)))))=((nh c:Nat):Int):=by
 have f:Gn .u32 (c:Int) (1:Int)=((c % 2:Nat):Int):=by rw[<- Nat.and_one_is_mod];exact ARW e (by decide)
 rw[Qx c 1,f];unfold nh;have hd:c / 2^1<4294967296:=by omega
 by_cases a:c % 2=1
 ·rw[if_pos a,a];have b:J8 .u32 (0-((1:Nat):Int))=((4294967295:Nat):Int):=by decide
  have d:Gn .u32 (3988292384:Int) ((4294967295:Nat):Int)=((3988292384:Nat):Int):=by decide
  rw[b,d,Vj hd (by decide)]
 ·rw[if_neg a,show c % 2=0 by omega];have b:J8 .u32 (0-((0:Nat):Int))=((0:Nat):Int):=by decide
  have d:Gn .u32 (3988292384:Int) ((0:Nat):Int)=((0:Nat):Int):=by decide
  rw[b,d,Vj hd (by decide)];simp
theorem ARo {c:Nat}(d:c<4294967296):gz .u32 (if IntKind.signed .u32 then -1 else IntKind.max .u32) (c:Int)=((4294967295-c:Nat):Int):=by
 have e:(if IntKind.signed .u32 then -1 else IntKind.max .u32)=((4294967295:Nat):Int):=by decide
 rw[e,Vj (by decide) d];congr 1;have f:4294967295-c=2^32-(c+1):=by omega
 have g:(4294967295:Nat)=2^32-1:=by decide
 have a:c<2^32:=by omega
 rw[f,g];apply Nat.eq_of_testBit_eq;intro i;rw[Nat.testBit_xor,Nat.testBit_two_pow_sub_one,Nat.testBit_two_pow_sub_succ a];by_cases b:i<32
 ·simp[b]
 ·have:c.testBit i=false:=Nat.testBit_lt_two_pow (F0 a (R0 (by decide) (by omega)));simp[b,this]
theorem za {q:ak}{d:aa}{l:List UInt8}{k:A2H}(v:l.length<=1099511627776)(r:k (.int .u32 (jw l:Int)) d):AA q P P9 #[J7 (AX l)] d k:=by
 refine AGz ?_;unfold vR;rw[AP];refine Loop.rule (λm x b=> ∃i:Nat,x=((jb (l.take i):Int),(i:Int),())/\b=d/\m=l.length-i/\i<=l.length) ?_ ⟨0,rfl,rfl,rfl,by omega⟩;rintro K m _ b ⟨i,rfl,e,rfl,w⟩ s;subst b;refine af.intro (λf=>?_) (λf=>?_)
 ·have g:i<l.length:=by simpa using f
  obtain⟨c,o⟩: ∃c,l[i]? =some c:=⟨_,A2 g⟩;have y:c.toNat<256:=c.toNat_lt;refine⟨⟨by dsimp only;omega,by dsimp only;omega⟩,?_⟩;have p:=yM (l.take i);dsimp only;rw[OI (c:=c) (by rw[Be];exact o),wrap_u32,AD (show c.toNat<4294967296 by omega),Vj p (by omega)];have t:jb (l.take i) ^^^ c.toNat<4294967296:=Kp (n:=32) p (by omega);refine Loop.rule (λm x b=> ∃a:Nat,x=((px a (jb (l.take i) ^^^ c.toNat):Int),(a:Int),())/\b=d/\m=8-a/\a<=8) ?_ ⟨0,rfl,rfl,rfl,by omega⟩;rintro z A _ b ⟨a,rfl,e,rfl,B⟩ u;subst b;refine af.intro (λh=>?_) (λh=>?_)
  ·have j:a<8:=by simp at h;omega
   dsimp only;rw[APm (sn t a),Aa (by omega)];exact u (8-(a+1)) _ _ (by omega) ⟨a+1,rfl,rfl,rfl,j⟩
  ·have j:a=8:=by simp at h;omega
   subst j;dsimp only;rw[Aa (by omega)];refine s (l.length-(i+1)) _ _ (by omega) ⟨i+1,?_,rfl,rfl,g⟩;rw[Ax,o,Ds,ANm];rfl
 ·have g:i=l.length:=by simp at f;omega
  have e:l.take i=l:=AE (by omega);dsimp only;rw[e,ARo (yM l)];exact r
theorem sy(a b:Nat):J8 .u8 ((a:Int).fdiv ((2:Int)^b))=(((Bu (a / 2^b % 256)).toNat:Nat):Int):=by rw[Qx,wrap_u8,Dt (Cp _ (by decide))]
theorem zd {f:ak}{b:aa}{a:Nat}{c:A2H}(g: ∀d,Ext b d->c (J7 (AX (Rh a))) d):AA f P OP #[.int .u32 (a:Int)] b c:=by
 refine AEo ?_;unfold Zp;refine ao.mk λh _ e x _=>?_
 have i:J8 .u8 (a:Int)=(((Bu (a % 256)).toNat:Nat):Int):=by rw[wrap_u8,Dt (Cp _ (by decide))]
 rw[sy,sy,sy,i] at e;have j:Own Ho EE h ⟨some ⟨b.size,0,none⟩,4,4⟩ (Rh a):=Own.lit (E:=Ho) (l:=Rh a) e rfl (by simp[maxLen,Rh]);exact Kn (s:=⟨some ⟨b.size,0,none⟩,4,4⟩) lN lM Ns j.view ⟨_,rfl,g _ x⟩
theorem Yi {e:ak}{a:aa}{l:List UInt8}{b:A2H}(f:l.length<=1099511627776)(g:1048576<l.length->b (J1 #[J7 ⟨#[]⟩,J6 J9 2]) a)
  (h:l.length<=1048576-> ∀d,Ext a d->b (J1 #[J7 (AX (Cg l)),J6 J9 0]) d):AA e P Fx #[J7 (AX l)] a b:=by
 refine AEh ?_;unfold ZJ;rw[AP];refine af.intro (λc=>g (by simp at c;omega)) (λc=>?_);have i:l.length<=1048576:=by simp at c;omega
 have:=AV (n:=l.length) (by omega);rw[CJ (by omega)];refine Ca (by omega) λm j=>⟨_,rfl,?_⟩
 refine za f ⟨_,rfl,?_⟩;refine zd λo k=>⟨_,rfl,⟨?_,?_,?_⟩⟩
 ·grind [AP,max_i64,Jl]
 ·rw[Aq,AP,max_i64,A1,Jl];omega
 ·rw[Aq,Aq];exact h i _ (j.trans k)
theorem sA {A:ak}{h:aa}{l:List UInt8}{R:A2H}(B:l.length<=8796093022208)
  (f: ∀w,Ext h w->R (J1 #[J7 (AX (De l).2.1),J7 (AX (De l).2.2),J6 J9 ((De l).1:Int)]) w):AA A P LY #[J7 (AX l)] h R:=by
 refine AEd ?_;unfold ZA;rw[AP];have d:=f h Mod.refl;refine yV (by rw[AP];exact B) (λg=>⟨_,_,_,rfl,?_⟩) (λb t g=>⟨_,_,_,rfl,?_⟩)<;>rw[Be] at g
 ·have k:De l=if l.length<10/\ ∀c∈l,128<=c.toNat then(20,[],[]) else(21,[],[]):=by unfold De;rw[g]
  rw[k] at d;refine ai.mk λK n=>af.yes rfl (n _ _ ?_)
  refine af.intro (λa=>?_) (λa=>?_)
  ·have o:l.length<10:=by simp at a;omega
   refine Loop.rule (λm x e=> ∃i:Nat,x=((i:Int),())/\e=h/\m=l.length-i/\i<=l.length/\ ∀c∈l.take i,128<=c.toNat) ?_ ⟨0,rfl,rfl,rfl,by omega,by simp⟩;rintro O m _ e ⟨i,rfl,Q,rfl,S,y⟩ C;subst e;refine af.intro (λp=>?_) (λp=>?_)
   ·have q:i<l.length:=by simpa using p
    obtain⟨c,D⟩: ∃c,l[i]? =some c:=⟨_,A2 q⟩;refine⟨⟨by dsimp only;omega,by dsimp only;omega⟩,?_⟩;dsimp only;rw[OI (c:=c) (by rw[Be];exact D)];refine af.intro (λE=>?_) (λE=>?_)
    ·rw[if_neg] at d
     ·exact d
     grind
    ·rw[Aa (by omega)];refine C (l.length-(i+1)) _ _ (by omega) ⟨i+1,rfl,rfl,rfl,q,λx T=>?_⟩
     grind [List.take_add_one,Option.toList_some]
   ·have q:i=l.length:=by simp at p;omega
    rw[AE (by omega)] at y;rw[if_pos ⟨o,y⟩] at d;exact d
  ·have o: ¬l.length<10:=by simp at a;omega
   rw[if_neg (λe=>o e.1)] at d;refine ai.mk λF r=>af.yes rfl (r _ _ (af.yes rfl d))
 ·obtain⟨U,V⟩:=lL g;have W:t.length<=8796093022208:=by grind
  have k:De l=if 1048576<b then(21,[],[]) else if t.length<4+b then(20,[],[])
    else if t.take 4=Rh (jw ((t.drop 4).take b)) then(0,(t.drop 4).take b,t.drop (4+b)) else(21,[],[]):=by unfold De;rw[g]
  rw[k] at d f;refine ai.mk λK n=>af.no rfl (n _ _ (af.no rfl ?_))
  refine ai.mk λF r=>af.no rfl (r _ _ ?_)
  refine af.intro (λa=>?_) (λa=>?_)
  ·have s:1048576<b:=by simp at a;omega
   rw[if_pos s] at d;exact d
  have s: ¬1048576<b:=by simp at a;omega
  rw[if_neg s] at d f;rw[AP];refine ai.mk λG H=>?_
  have key: ∀u:Bool,(u=true↔t.length<4+b)->G (u,()) h:=λu I=>by
   refine H _ _ ?_;refine af.intro (λa=>?_) (λa=>?_)
   ·rw[if_pos (I.1 a)] at d;exact d
   have v: ¬t.length<4+b:=λe=>by grind
   rw[if_neg v] at d f;have J:J8 .u64 ((4:Int)+(b:Int))=((4+b:Nat):Int):=by grind [CJ]
   rw[J];refine⟨⟨by omega,by omega⟩,⟨by omega,by omega⟩,⟨by omega,by omega⟩,?_⟩;have L:(AX t).extract (4:Int).toNat ((4+b:Nat):Int).toNat=AX ((t.drop 4).take b):=by rw[show(4:Int).toNat=4 from rfl,AF,AO0,List.drop_take];congr 2;omega
   have em:(AX t).extract 0 (4:Int).toNat=AX (t.take 4):=yY _ _;have z:(AX t).extract ((4+b:Nat):Int).toNat (AX t).size=AX (t.drop (4+b)):=by rw[AF,sw]
   rw[AP] at z;rw[L,em,z];refine za (by simp;omega) ⟨_,rfl,?_⟩;refine zd λv M=>⟨_,rfl,?_⟩
   have j:=f v M;rw[CZ];refine af.intro (λa=>?_) (λa=>?_)
   ·rw[if_neg (by grind)] at j;exact j
   ·rw[if_pos (by grind [Mq])] at j;exact⟨⟨by omega,by omega⟩,j⟩
  refine af.intro (λa=>key _ ⟨λ_=>by simp at a;omega,λ_=>rfl⟩) (λa=>key _ ?_);have X:4<=t.length:=by simp at a;omega
  have N:J8 .u64 (J8 J9 ((t.length:Int)-(4:Int)))=((t.length-4:Nat):Int):=by grind [El,CJ]
  rw[N];simp;omega
theorem Ef.mk {b:aa}{a:Q6}{K:Option Nat->Prop}{n:Option Nat}(c:ah b a=some (.map n))(d:K n):Ef b a K:=⟨n,c,d⟩
theorem YD:P.underlying Bb=some (.map BD wG):=by kernel_rfl
theorem kY:(zeroValue wG).calc P=some (J5 none):=by kernel_rfl
abbrev fg(a:List (Fi×Nat)):List (A2I×J0):=a.map λp=>(p.1.name,Ak p.2)
structure ES (h:aa) (b r:Nat) (kv:List (Fi×Nat)) (m:Bx):Prop where
 head:h[b]? =some (J2 #[.map (some r),J6 J9 m.fuel,J3 m.down] rq (0,0))
 map:UA h r (fg kv)
 cells: ∀p∈kv,h[p.2]? =some (J2 #[J7 p.1.bM,J7 p.1.soft] Pe (0,0))
 perm:(kv.map (·.1)).Perm m.files
 nodup:(kv.map (·.2)).Nodup
 aO:Es m
def Gu(b a:Nat)(d:List (Fi×Nat))(c:Nat):Prop:=c=b\/c=a\/ ∃p∈d,p.2=c
def Bl(e:aa)(b:Nat)(f:Nat->Prop)(m:Bx):Prop:= ∃a d,ES e b a d m/\ ∀c,f c↔Gu b a d c
theorem ES.fU {e:aa}{b a:Nat}{f:List (Fi×Nat)}{m:Bx}(c:ES e b a f m):a≠b:=by rintro rfl;obtain⟨g,h,d,_⟩:=c.map;rw[c.head] at d;cases d
theorem ES.eW {g:aa}{b c:Nat}{d:List (Fi×Nat)}{m:Bx}(a:ES g b c d m){p:Fi×Nat}(h:p∈d):p.2≠b/\p.2≠c:=by
 have e:=a.cells p h;constructor
 ·intro f;rw[f,a.head] at e;cases e
 ·intro f;obtain⟨i,j,k,_⟩:=a.map
  simp_all
theorem ES.lt {d:aa}{b e:Nat}{f:List (Fi×Nat)}{m:Bx}(a:ES d b e f m){c:Nat}(g:Gu b e f c):c<d.size:=by
 rcases g with rfl|rfl|⟨p,h,rfl⟩
 ·exact Ag a.head
 ·exact a.map.lt
 ·exact Ag (a.cells p h)
theorem Bl.lt {d:aa}{b:Nat}{e:Nat->Prop}{m:Bx}(a:Bl d b e m){c:Nat}(f:e c):c<d.size:=by obtain⟨h,i,a,g⟩:=a;exact a.lt ((g c).1 f)
theorem Bl.aO {c:aa}{b:Nat}{d:Nat->Prop}{m:Bx}(a:Bl c b d m):Es m:=by obtain⟨e,f,a,g⟩:=a;exact a.aO
theorem ES.mod {g h:aa}{b d:Nat}{e:List (Fi×Nat)}{m:Bx}{T:Nat->Prop}(a:ES g b d e m)(x:Mod T g h)(f: ∀c,Gu b d e c-> ¬T c):ES h b d e m:=
 ⟨x.ag a.head (f _ (.inl rfl)),a.map.mod x (f _ (.inr (.inl rfl))),λp i=>x.ag (a.cells p i) (f _ (.inr (.inr ⟨p,i,rfl⟩))),a.perm,a.nodup,a.aO⟩
theorem Bl.mod {e f:aa}{b:Nat}{a T:Nat->Prop}{m:Bx}(d:Bl e b a m)(x:Mod T e f)(h: ∀c,a c-> ¬T c):Bl f b a m:=by obtain⟨i,j,d,g⟩:=d;exact⟨i,j,d.mod x λc k=>h c ((g c).2 k),g⟩
theorem Bl.ext {a c:aa}{b:Nat}{d:Nat->Prop}{m:Bx}(e:Bl a b d m)(x:Ext a c):Bl c b d m:=e.mod x λ_ _ a=>a
theorem ES.hd {e c:aa}{b d:Nat}{f:List (Fi×Nat)}{m m':Bx}(a:ES e b d f m)(i:c[b]? =some (J2 #[.map (some d),J6 J9 m'.fuel,J3 m'.down] rq (0,0)))(x:Mod (· =b) e c)(j:m'.files=m.files)(g:Es m'):ES c b d f m':=
 ⟨i,a.map.mod x a.fU,λp h=>x.ag (a.cells p h) (a.eW h).1,by rw[j];exact a.perm,a.nodup,g⟩
theorem tQ(b:A2I): ∀a:List (Fi×Nat),TR b (fg a)=(a.find? λp=>decide (p.1.name=b)).map λp=>Ak p.2
 | []=>rfl
 |p::a=>by
  show TR b ((p.1.name,Ak p.2)::fg a)=_;rw[Oy,tQ b a,E0]
  grind
theorem ES.mem {d:aa}{b e:Nat}{a:List (Fi×Nat)}{m:Bx}(g:ES d b e a m){f:Fi}:f∈m.files↔ ∃c,(f,c)∈a:=by
 rw[<- g.perm.mem_iff]
 simp_all
theorem ES.look {i:aa}{b j:Nat}{d:List (Fi×Nat)}{m:Bx}(e:ES i b j d m)(a:A2I):
  (TR a (fg d)=none/\CE a m.files=none)\/ ∃p∈d,TR a (fg d)=some (Ak p.2)/\CE a m.files=some p.1/\p.1.name=a:=by
 rw[tQ];cases k:d.find? λp=>decide (p.1.name=a) with
 |none=>
  refine .inl ⟨rfl,Ul λf l=>?_⟩;obtain⟨c,n⟩:=e.mem.1 l
  grind
 |some p=>
  have g:p.1.name=a:=by grind
  have h:=Lk k;refine .inr ⟨p,h,rfl,?_,g⟩;rw[<- g];exact e.aO.sorted.find (e.mem.2 ⟨p.2,h⟩)
theorem AIF {a:List (Fi×Nat)}{l:List Fi}(p:(a.map (·.1)).Perm l)(s:Fu l):(a.map λb=>b.1.name).Nodup:=by
 have c:(l.map (·.name)).Nodup:=by refine List.pairwise_map.2 (s.imp λd=>Lx d)
 have e:(a.map λb=>b.1.name).Perm (l.map (·.name)):=by have:=p.map (·.name);simpa [B9,Fl] using this
 exact(e.nodup_iff).2 c
theorem ES.inj {f:aa}{b g:Nat}{c:List (Fi×Nat)}{m:Bx}(d:ES f b g c m){p a:Fi×Nat}(h:p∈c)(j:a∈c)(k:p.1.name=a.1.name):p=a:=by
 have l:=AIF d.perm d.aO.sorted;obtain⟨i,n,rfl⟩:=CC h;obtain⟨e,o,rfl⟩:=CC j;have:i=e:=by
  have q:i<(c.map λa=>a.1.name).length:=by simpa using n
  have r:e<(c.map λa=>a.1.name).length:=by simpa using o
  refine(Ln (h₀:=q) (h₁:=r) l).1 ?_;simpa using k
 subst this;rfl
theorem ES.set {k h':aa}{b l:Nat}{d:List (Fi×Nat)}{m:Bx}(c:ES k b l d m){p:Fi×Nat}(h:p∈d){g:Fi->Fi}(B: ∀f,(g f).name=f.name)
  (q:h'[p.2]? =some (J2 #[J7 (g p.1).bM,J7 (g p.1).soft] Pe (0,0))) (x:Mod (· =p.2) k h') (r:Es {m with files:=QV p.1.name g m.files}):
  ES h' b l (d.map λa=>(if a.1.name=p.1.name then g a.1 else a.1,a.2)) {m with files:=QV p.1.name g m.files}:=by
 refine⟨x.ag c.head (c.eW h).1.symm,?_,?_,?_,?_,r⟩
 ·have e:fg (d.map λa=>(if a.1.name=p.1.name then g a.1 else a.1,a.2))=fg d:=by
   simp only[fg,B9];refine CD λa _=>?_
   grind
  rw[e];exact c.map.mod x (c.eW h).2.symm
 ·intro a s;obtain⟨n,j,rfl⟩:=List.mem_map.1 s;simp only;by_cases e:n.1.name=p.1.name
  ·rw[if_pos e];have:=c.inj j h e;subst this;exact q
  ·rw[if_neg e];refine x.ag (c.cells n j) λt=>e ?_
   have u:=c.nodup;obtain⟨i,v,rfl⟩:=CC h;obtain⟨o,w,rfl⟩:=CC j;have:o=i:=by
    have y:i<(d.map (·.2)).length:=by simpa using v
    have z:o<(d.map (·.2)).length:=by simpa using w
    refine(Ln (h₀:=z) (h₁:=y) u).1 ?_;simpa using t
   subst this;rfl
 ·have A:=c.perm.map λf=>if f.name=p.1.name then g f else f
  simpa [QV,B9,Fl] using A
 ·simpa [B9,Fl] using c.nodup
theorem tT {b d:Nat}{e:List (Fi×Nat)}{g:Fi×Nat->Fi}(c:Nat):Gu b d (e.map λf=>(g f,f.2)) c↔Gu b d e c:=by
 unfold Gu;constructor
 ·grind
 ·rintro(a|a|⟨p,h,rfl⟩)
  ·exact .inl a
  ·exact .inr (.inl a)
  ·exact .inr (.inr ⟨_,List.mem_map.2 ⟨p,h,rfl⟩,rfl⟩)
theorem pY {b:A2I}{v:J0}: ∀ {m:List (A2I×J0)},TR b m=none->gC b v m=m++ [(b,v)]
 | [],_=>rfl
 |p::m,a=>by
  rw[Oy] at a;split at a
  ·cases a
  ·rename_i c;unfold gC;rw[if_neg c,pY a];rfl
theorem mq {d:ak}{a:aa}{b:Nat}{e c1:J0}{down:Bool}{T:Q7}{c:A2H}(f:a[b]? =some (J2 #[e,c1,J3 down] T (0,0)))(g:c (J3 down) a):
  AA d P Gs #[Ak b] a c:=by
 refine ACx ?_;unfold Wy;exact af.no rfl (aE (AZ.mk (AB f rfl) g))
theorem APN {e:ak}{c:aa}{name:A2I}{d:A2H}(a:d (J3 (Jr name)) c):AA e P Uc #[J7 name] c d:=by
 refine AGW ?_;unfold vS;unfold Jr at a;rw[CZ];refine af.intro (λb=>?_) (λb=>?_)
 ·rw[b] at a;exact a
 ·rw[b] at a;have f:decide ((name.size:Int)>(32:Int))=decide (name.size>32):=by grind
  rw[f];simpa using a
def nT(fuel:Int):Int:=if fuel>0 then fuel-1 else fuel
theorem ARf {o:ak}{d:aa}{b:Nat}{h:J0}{fuel:Int}{down:Bool}{T:Q7}{i:A2H}(f:d[b]? =some (J2 #[h,J6 J9 fuel,J3 down] T (0,0)))(q: -1<=fuel)(r:fuel<=9223372036854775807)
  (p:fuel=0-> ∀a,a[b]? =some (J2 #[h,J6 J9 fuel,J3 true] T (0,0))->Mod (· =b) d a->a.size=d.size->i (J3 false) a)
  (e:fuel≠0-> ∀a,a[b]? =some (J2 #[h,J6 J9 (nT fuel),J3 down] T (0,0))->Mod (· =b) d a->a.size=d.size->i (J3 true) a):AA o P Ht #[Ak b] d i:=by
 refine ABs ?_;unfold UI;refine aE (AC.mk (AB f rfl) ?_);refine af.intro (λc=>?_) (λc=>?_)
 ·refine aE (ae.dy f (by simp) λj g k l=>?_);exact p (by simpa using c) j (by simpa using g) k l
 ·have c:fuel≠0:=by simpa using c
  have e:=e c;unfold nT at e;refine ai.mk λK n=>?_
  refine aE (AC.mk (AB f rfl) ?_);refine af.intro (λc=>?_) (λc=>?_)
  ·have m:fuel>0:=by simpa using c
   rw[if_pos m] at e;refine aE (AC.mk (AB f rfl) (aE (ae.dy f (by simp) λj g k l=>n _ _ ?_)));rw[wrap_i64 (by omega) (by omega)] at g;exact e j (by simpa using g) k l
  ·have m: ¬fuel>0:=by simpa using c
   rw[if_neg m] at e;exact n _ _ (e d f Mod.refl rfl)
theorem Jg(m:Bx):(Ie m).fuel=nT m.fuel/\(Ie m).down=m.down/\(Ie m).files=m.files:=by grind [Ie,nT]
theorem AKA {m:Bx}(g:Es m):Es (Ie m):=by have:=g.tick m.files g.sorted g.names g.wt;rwa [<- (Jg m).2.2] at this
theorem ES.jC {p:ak}{e:aa}{b f:Nat}{g:List (Fi×Nat)}{m:Bx}(d:ES e b f g m){i:A2H}
  (q:m.fuel=0-> ∀a,ES a b f g (LQ m)->Mod (Gu b f g) e a->i (J3 false) a)
  (r:m.fuel≠0-> ∀a,ES a b f g (Ie m)->Mod (Gu b f g) e a->a.size=e.size->i (J3 true) a):AA p P Ht #[Ak b] e i:=by
 refine ARf d.head d.aO.lo d.aO.hi (λj k l h o=>?_) (λj k l h o=>?_)
 ·exact q j k (d.hd l h rfl d.aO.off) (h.aj λc _ n=> .inl n)
 ·obtain⟨s,t,u⟩:=Jg m;refine r j k (d.hd ?_ h u (AKA d.aO)) (h.aj λc _ n=> .inl n) o;rw[s,t];exact l
theorem ES.fV {d:aa}{b a:Nat}{e:List (Fi×Nat)}{m:Bx}(i:ES d b a e m){p:Fi×Nat}(f:p∈e){data:A2I}(l:Es {m with files:=QV p.1.name (Sd data) m.files}){K:aa->Prop}
  (r: ∀j n,ES j b a n {m with files:=QV p.1.name (Sd data) m.files}->Mod (Gu b a e) d j->(∀ c,Gu b a n c↔Gu b a e c)->K j):
  At (some ⟨p.2,0,none⟩) λs=>AJ d (s.add 1) λt=>aN (((t.size+data.size:Nat):Int)<=IntKind.i64.max)<|At (some ⟨p.2,0,none⟩) λu=>ae d (u.add 1) (J7 (t++data)) K:=by
 have h:=i.cells p f;refine aE (AJ.mk (AB h rfl) ⟨?_,aE (ae.dy h (by simp) λo v q y=>?_)⟩)
 ·have o:aY (QV p.1.name (Sd data) m.files)<=8796093022208:=l.wt;have w:Sd data p.1∈QV p.1.name (Sd data) m.files:=by refine List.mem_map.2 ⟨p.1,i.mem.2 ⟨p.2,f⟩,by simp⟩
  have x:=Vq w;simp only[Sd,xQ] at x;simp[IntKind.max,IntKind.bits,IntKind.signed];omega
 ·exact r o _ (i.set f (g:=Sd data) (λ_=>rfl) (by simpa [Sd] using v) q l) (q.aj λc _ h=> .inr (.inr ⟨p,f,h.symm⟩)) (λc=>tT (g:=λk=>if k.1.name=p.1.name then Sd data k.1 else k.1) c)
theorem Xv {S:ak}{e:aa}{b:Nat}{l:Nat->Prop}{m:Bx}{name data:A2I}{L:A2H}(k:Bl e b l m)(T:aY m.files+data.size+1<=8796093022208)
  (g: ∀B S',Bl B b S' (Dp m name data).2->Mod l e B->(∀ c,S' c->l c\/e.size<=c)->L (J6 J9 (Dp m name data).1) B):AA S P Hr #[Ak b,J7 name,J7 data] e L:=by
 have n:=k.aO.append (name:=name) (data:=data) T;obtain⟨j,o,k,r⟩:=k;refine YV ?_;unfold RL;refine mq k.head ⟨_,rfl,?_⟩;unfold Dp at g n;refine af.intro (λhd=>?_) (λhd=>?_)
 ·rw[if_pos hd] at g;exact g e l ⟨j,o,k,r⟩ Mod.refl (λc d=> .inl d)
 rw[if_neg (by simp[hd])] at g n;refine APN ⟨_,rfl,?_⟩;refine af.intro (λw=>?_) (λw=>?_)
 ·rw[if_pos w] at g;exact g e l ⟨j,o,k,r⟩ Mod.refl (λc d=> .inl d)
 rw[if_neg (by simp[w])] at g n;have C: ∀ {q:aa},Mod (Gu b j o) e q->Mod l e q:=λs=>s.aj λc _ d=>(r c).2 d
 refine k.jC (λD q i s=>⟨_,rfl,?_⟩) (λD q i s ag=>⟨_,rfl,?_⟩)
 ·rw[if_pos D] at g;exact af.yes rfl (g q l ⟨j,o,i,r⟩ (C s) (λc d=> .inl d))
 rw[if_neg D] at g n;refine af.no rfl ?_;refine aE (Ef.mk (AL i.head rfl) (Oj YD Ns kY i.map ?_));rcases i.look name with⟨x,E⟩|⟨p,h,x,E,U⟩
 ·
  rw[x];refine⟨none,rfl,ai.mk λK F=>af.yes rfl ?_⟩;refine ao.mk λah _ V M aj=>?_
  have t:=i.mod M (λ_ _ e=>e);refine aE (Ef.mk (AL t.head rfl) ?_);have W:name.size<=32:=by simp[Jr] at w;omega
  have al:=Sq (Ie m).files;have X:o.length=(Ie m).files.length:=by rw[<- i.perm.length_eq];simp
  rw[(Jg m).2.2] at X;have am:=Sq m.files;refine xf YD Ns t.map (by simp[maxLen];omega) (by simp[fg,maxLen];omega) λN O y an=>?_
  rw[pY x] at O;have ap:=y.ag V (by have:=i.map.lt;omega);have u:=E;rw[(Jg m).2.2] at u;have G:Uo name m.files=im ⟨name,bg,bg⟩ m.files:=by unfold Uo;rw[u];rfl
  have Y:=PX u;have Z:=xP ⟨name,bg,bg⟩ m.files;simp only[mX] at Z;have ab:ES N b j (o++ [(⟨name,bg,bg⟩,q.size)]) {Ie m with files:=im ⟨name,bg,bg⟩ m.files}:=by
   refine⟨y.ag t.head t.fU.symm,?_,?_,?_,?_,?_⟩
   ·rw[fg,By];exact O
   ·intro p h;rcases List.mem_append.1 h with h|h
    ·exact y.ag (t.cells p h) (t.eW h).2
    simp_all
   ·rw[By];refine(On _ _).trans (((i.perm.trans (List.Perm.of_eq (Jg m).2.2)).cons _).trans (Oi _ _).symm)
   ·rw[By];refine List.nodup_append.2 ⟨i.nodup,by simp,?_⟩;intro a ac c d;obtain⟨p,h,rfl⟩:=List.mem_map.1 ac;simp at d;subst d;have:=Ag (i.cells p h);omega
   ·refine k.aO.tick _ (Uz k.aO.sorted Y) (λf H=>?_) (by omega);rcases List.mem_cons.1 ((Oi _ _).subset H) with rfl|H
    ·exact W
    ·exact k.aO.names f H
  refine F _ _ ?_;rw[G] at g n;refine ab.fV (p:=(⟨name,bg,bg⟩,q.size)) (by simp) (data:=data) n λI v z J A=>?_
  have Q: ∀c,Gu b j v c->Gu b j o c\/e.size<=c:=λc d=>by
   rcases(A c).1 d with e|e|⟨p,h,rfl⟩
   ·exact .inl (.inl e)
   ·exact .inl (.inr (.inl e))
   ·rcases List.mem_append.1 h with h|h
    ·exact .inl (.inr (.inr ⟨p,h,rfl⟩))
    simp_all
  refine g I (Gu b j v) ⟨j,v,z,λ_=>CH⟩ ?_ (λc d=>(Q c d).imp (r c).2 id);have ae:Mod (Gu b j o) q N:=M.mod.trans (y.aj λc _ d=> .inr (.inl d));refine C ((s.trans ae).then (J.aj λc _ d=>Q c ((A c).2 d)))
 ·
  rw[x];refine⟨some ⟨p.2,0,none⟩,rfl,ai.mk λK F=>af.no rfl (F _ _ ?_)⟩;have u:=E;rw[(Jg m).2.2] at u;have G:Uo name m.files=m.files:=by unfold Uo;rw[u];rfl
  rw[G] at g n;subst U;have R:=(Jg m).2.2;refine i.fV h (data:=data) (by rw[R];exact n) λI v z J A=>?_
  refine g I l ⟨j,v,by rw[R] at z;exact z,λc=>(r c).trans (A c).symm⟩ (C (s.trans J)) (λc d=> .inl d)
theorem pZ {D:ak}{e:aa}{b:Nat}{o:Nat->Prop}{m:Bx}{name:A2I}{x:A2H}(a:Bl e b o m)
  (d: ∀h',Bl h' b o (G8 m name).2->Mod o e h'->x (J6 J9 (G8 m name).1) h'):AA D P JP #[Ak b,J7 name] e x:=by
 have i:=a.aO.sync (name:=name);obtain⟨j,q,a,k⟩:=a;refine AB1 ?_;unfold VT;refine mq a.head ⟨_,rfl,?_⟩;unfold G8 at d i;have y: ∀ {l:aa},Mod (Gu b j q) e l->Mod o e l:=λn=>n.aj λc _ f=>(k c).2 f
 refine af.intro (λhd=>?_) (λhd=>?_)
 ·rw[if_pos hd] at d;exact d e ⟨j,q,a,k⟩ Mod.refl
 rw[if_neg (by simp[hd])] at d i;refine aE (Ef.mk (AL a.head rfl) (Oj YD Ns kY a.map ?_));rcases a.look name with⟨r,s⟩|⟨p,t,r,s,E⟩
 ·rw[r];rw[s] at d;exact⟨none,rfl,af.yes rfl (d e ⟨j,q,a,k⟩ Mod.refl)⟩
 rw[r];rw[s,if_neg (by simp)] at d i;refine⟨some ⟨p.2,0,none⟩,rfl,af.no rfl ?_⟩;refine a.jC (λu l h n=>⟨_,rfl,?_⟩) (λu l h n H=>⟨_,rfl,?_⟩)
 ·rw[if_pos u] at d;exact af.yes rfl (d l ⟨j,q,h,k⟩ (y n))
 rw[if_neg u] at d i;refine af.no rfl ?_;refine aE (Ef.mk (AL h.head rfl) (Oj YD Ns kY h.map ?_));rw[r];refine⟨some ⟨p.2,0,none⟩,rfl,?_⟩;have f:=h.cells p t;refine aE (AJ.mk (AL f rfl) (aE (AJ.mk (AB f rfl) ⟨?_,?_⟩)))
 ·have v:=Vq (IE s).2;have:=a.aO.wt;simp[IntKind.max,IntKind.bits,IntKind.signed];omega
 refine aE (ae.mk f (by simp) λI F z J=>aE (ae.dy F (by simp) λv G A K=>?_));subst E;have B:=(Jg m).2.2;have C:=h.set t (h':=v) (g:=TG) (λ_=>rfl) (by simpa [TG] using G) (z.trans A) (by rw[B];exact i);rw[B] at C;refine d v ⟨j,_,C,λc=>(k c).trans (tT (g:=λw=>if w.1.name=p.1.name then TG w.1 else w.1) c).symm⟩ (y (n.trans ((z.trans A).aj λc _ f=> .inr (.inr ⟨p,t,f.symm⟩))))
theorem Yk {i:ak}{e:aa}{b:Nat}{j:Nat->Prop}{m:Bx}{name:A2I}{g:A2H}(a:Bl e b j m)
  (c:g (J1 #[J7 (FN m name).1,J6 J9 (FN m name).2]) e):AA i P G5 #[Ak b,J7 name] e g:=by
 obtain⟨l,n,a,o⟩:=a;refine ABi ?_;unfold UB;refine mq a.head ⟨_,rfl,?_⟩;unfold FN at c;refine af.intro (λhd=>?_) (λhd=>?_)
 ·rw[if_pos hd] at c;exact c
 rw[if_neg (by simp[hd])] at c;refine aE (Ef.mk (AL a.head rfl) (Oj YD Ns kY a.map ?_));rcases a.look name with⟨f,d⟩|⟨p,k,f,d,q⟩
 ·rw[f];rw[d] at c;exact⟨none,rfl,af.yes rfl c⟩
 rw[f];rw[d] at c;refine⟨some ⟨p.2,0,none⟩,rfl,af.no rfl ?_⟩;have h:=a.cells p k;refine aE (AJ.mk (AL h rfl) (aE (AJ.mk (AB h rfl) ⟨?_,c⟩)));have r:=Vq (IE d).2;have:=a.aO.wt;simp[IntKind.max,IntKind.bits,IntKind.signed];omega
theorem AQ4(a:A2I)(b:List (Fi×Nat)):j7 a (fg b)=fg (b.filter λp=> !decide (p.1.name=a)):=by unfold j7 fg;rw[OF];rfl
theorem SX {C:ak}{a:aa}{b:Nat}{i:Nat->Prop}{m:Bx}{name:A2I}{x:A2H}(d:Bl a b i m)
  (e: ∀s S',Bl s b S' (EU m name).2->Mod i a s->(∀ c,S' c->i c)->x (J6 J9 (EU m name).1) s):AA C P GD #[Ak b,J7 name] a x:=by
 have k:=d.aO.delete (name:=name);obtain⟨j,l,d,n⟩:=d;refine Ze ?_;unfold Q3;refine mq d.head ⟨_,rfl,?_⟩;unfold EU at e k;have y: ∀ {g:aa},Mod (Gu b j l) a g->Mod i a g:=λo=>o.aj λc _ q=>(n c).2 q
 refine af.intro (λhd=>?_) (λhd=>?_)
 ·rw[if_pos hd] at e;exact e a i ⟨j,l,d,n⟩ Mod.refl (λ_ a=>a)
 rw[if_neg (by simp[hd])] at e k;refine aE (Ef.mk (AL d.head rfl) (Oj YD Ns kY d.map ?_));rcases d.look name with⟨t,u⟩|⟨p,z,t,u,F⟩
 ·rw[t];rw[u] at e;exact⟨none,rfl,af.yes rfl (e a i ⟨j,l,d,n⟩ Mod.refl (λ_ a=>a))⟩
 rw[t];rw[u,if_neg (by simp)] at e k;refine⟨some ⟨p.2,0,none⟩,rfl,af.no rfl ?_⟩;refine d.jC (λv g h o=>⟨_,rfl,?_⟩) (λv g h o G=>⟨_,rfl,?_⟩)
 ·rw[if_pos v] at e;exact af.yes rfl (e g i ⟨j,l,h,n⟩ (y o) (λ_ a=>a))
 rw[if_neg v] at e k;refine af.no rfl ?_;refine aE (Ef.mk (AL h.head rfl) (AMk YD Ns h.map λA B w H=>⟨rfl,?_⟩));rw[AQ4] at B;have I:=(Jg m).2.2;have D:ES A b j (l.filter λp=> !decide (p.1.name=name)) {Ie m with files:=QU name m.files}:=by
  refine⟨w.ag h.head h.fU.symm,B,λE r=>?_,?_,?_,k⟩
  ·have r:=(List.mem_filter.1 r).1;exact w.ag (h.cells E r) (h.eW r).2
  ·have g:=d.perm.filter λf=> !decide (f.name=name)
   rw[OF] at g;exact g
  ·exact(List.filter_sublist.map _).nodup d.nodup
 refine e A (Gu b j _) ⟨j,_,D,λ_=>CH⟩ (y (o.trans (w.aj λc _ q=> .inr (.inl q)))) (λc q=>(n c).2 ?_);rcases q with a|a|⟨p,z,rfl⟩
 ·exact .inl a
 ·exact .inr (.inl a)
 ·exact .inr (.inr ⟨p,(List.mem_filter.1 z).1,rfl⟩)
theorem qa {h:ak}{a:aa}{e:A2H}(i: ∀b d f,Bl d b f iq->Ext a d->(∀ c,f c->a.size<=c)->e (Ak b) d):AA h P RA #[] a e:=by
 refine AK4 ?_;unfold vD;refine ao.mk λj _ k l q=>ao.mk λm _ n g r=>?_
 refine i _ m (Gu j.size a.size []) ⟨_,[],⟨n,UA.empty (g.ag k (by simp)),by simp,Is _,by simp,ANM⟩,λ_=>CH⟩ (l.trans g) ?_;rintro c (rfl|rfl|⟨p,o,_⟩)
 ·omega
 ·exact A0 _
 ·cases o
end Go.Lf.G
namespace Go.Proofs
open Go.Shelf
def Tryz.cO:Go.Shelf.Ren:=⟨λ|105=>220|212=>245|99=>246|165=>247|166=>248|170=>249|169=>250|263=>274|264=>275|206=>276|240=>277|241=>278|276=>294|277=>295|a=>a,λ|9=>9|3=>3|4=>4|20=>20|0=>0|46=>153|109=>339|5=>5|72=>343|76=>294|51=>150|146=>151|53=>140|148=>365|70=>341|37=>69|75=>293|127=>367|164=>380|80=>120|a=>a,λ|a=>a⟩
theorem Tryz.fq:Go.Proofs.Lays.n105 Tryz.prog Tryz.cO:=by repeat' first|exact Lf.Da (by kernel_rfl)|kernel_rfl|decide|constructor
theorem Tryz.ey:Builder.Extra Tryz.prog Tryz.cO:=by repeat' first|exact Lf.Da (by kernel_rfl)|kernel_rfl|decide|constructor
theorem Tryz.iR:Lays.n166 Tryz.prog Tryz.cO:= {Tryz.fq with}
theorem Tryz.iS:Lays.n169 Tryz.prog Tryz.cO:= {Tryz.fq with}
def Tryz.fE:Go.Shelf.Ren:=⟨λ|103=>242|210=>263|206=>276|a=>a,λ|9=>9|4=>4|24=>156|3=>3|a=>a,λ|a=>a⟩
theorem Tryz.iT:Go.Proofs.Lays.n103 Tryz.prog Tryz.fE:=by repeat' first|exact Lf.Da (by kernel_rfl)|kernel_rfl|decide|constructor
def Tryz.cS:Go.Shelf.Ren:=⟨λ|14=>243|16=>264|17=>224|19=>288|20=>289|21=>253|22=>254|23=>255|24=>256|25=>283|27=>179|26=>284|28=>221|29=>251|30=>279|31=>280|32=>281|33=>282|35=>217|34=>296|36=>297|37=>298|38=>299|39=>301|40=>302|a=>a,λ|9=>9|3=>3|22=>140|24=>293|25=>336|4=>4|34=>345|5=>5|36=>153|37=>69|0=>0|39=>348|21=>21|44=>373|47=>367|50=>388|48=>386|2=>2|52=>368|55=>370|59=>384|60=>150|20=>20|61=>385|65=>390|66=>391|67=>120|a=>a,λ|0=>0|1=>1|2=>2|3=>4|4=>5|a=>a⟩
theorem Tryz.eB:Go.Proofs.LaysPu.n14 Tryz.prog Tryz.cS:=by repeat' first|exact Lf.Da (by kernel_rfl)|kernel_rfl|decide|constructor
def Tryz.fu:Go.Shelf.Ren:=⟨λ|171=>179|243=>221|246=>251|283=>279|284=>280|285=>281|286=>282|129=>217|317=>296|318=>297|319=>298|320=>299|337=>301|338=>302|a=>a,λ|3=>3|9=>9|2=>2|4=>4|171=>368|0=>0|53=>140|37=>69|5=>5|173=>370|212=>384|51=>150|20=>20|213=>385|46=>153|232=>390|233=>391|a=>a,λ|17=>2|18=>4|19=>5|a=>a⟩
theorem Tryz.gR:Go.Proofs.LaysM.n171 Tryz.prog Tryz.fu:=by repeat' first|exact Lf.Da (by kernel_rfl)|kernel_rfl|decide|constructor
def Tryz.fw:Go.Shelf.Ren:=⟨λ|172=>185|244=>223|245=>224|247=>252|279=>253|280=>254|281=>255|282=>256|287=>264|316=>283|171=>179|205=>284|321=>288|322=>289|243=>221|246=>251|283=>279|284=>280|285=>281|286=>282|129=>217|317=>296|318=>297|319=>298|320=>299|337=>301|338=>302|a=>a,λ|9=>9|3=>3|75=>293|76=>294|4=>4|5=>5|167=>345|37=>69|0=>0|85=>346|2=>2|168=>348|53=>140|175=>336|46=>153|210=>373|127=>367|145=>388|143=>386|21=>21|171=>368|173=>370|212=>384|51=>150|20=>20|213=>385|232=>390|233=>391|80=>120|a=>a,λ|15=>0|16=>1|17=>2|18=>4|19=>5|a=>a⟩
theorem Tryz.gS:Go.Proofs.LaysC.n172 Tryz.prog Tryz.fw:=by repeat' first|exact Lf.Da (by kernel_rfl)|kernel_rfl|decide|constructor
end Go.Proofs
namespace Go.Lf
open Go
def Ou(a:Nat):List UInt8:=Lib.repeatL [48] (8-(Lib.decDigits a).length)++Lib.decDigits a
def Tp(a:Nat)(l:List UInt8):Nat:=l.foldl (λa c=>a*10+(c.toNat-48)) a
def mW(l:List UInt8):Prop:= ∀c∈l,48<=c.toNat/\c.toNat<=57
theorem oX {a:Nat}(b:a<10):(UInt8.ofNat (48+a)).toNat=48+a:=by simp only[UInt8.toNat_ofNat'];omega
theorem Zo: ∀a:Nat,mW (Lib.decDigits a)/\Tp 0 (Lib.decDigits a)=a:=by
 intro a
 induction a using Nat.strongRecOn with
 |ind a g=>
  by_cases d:a<10
  ·rw[Lib.decDigits,dif_pos d];refine⟨λc b=>?_,?_⟩
   ·rw[List.mem_singleton.1 b,oX d];omega
   ·simp only[Tp,HX,Mz,oX d];omega
  ·rw[Lib.decDigits,dif_neg d];obtain⟨h,e⟩:=g (a / 10) (by omega);have f:a % 10<10:=Cp _ (by decide);refine⟨λc b=>?_,?_⟩
   ·rcases List.mem_append.1 b with b|b
    ·exact h c b
    ·rw[List.mem_singleton.1 b,oX f];omega
   ·unfold Tp at e ⊢;rw[HW,e];simp only[HX,Mz,oX f];omega
theorem rG: ∀k:Nat,mW (Lib.repeatL [48] k)/\ ∀l,Tp 0 (Lib.repeatL [48] k++l)=Tp 0 l
 |0=>⟨λc a=>(by cases a),λl=>rfl⟩
 |k+1=>by
  obtain⟨b,d⟩:=rG k;refine⟨λc a=>?_,λl=>?_⟩
  ·rcases List.mem_append.1 a with a|a
   ·rw[List.mem_singleton.1 a];decide
   ·exact b c a
  ·show Tp 0 (([48]++Lib.repeatL [48] k)++l)=_;rw[A4];exact d l
theorem rH(a:Nat):mW (Ou a)/\Tp 0 (Ou a)=a:=by
 refine⟨λc b=>?_,?_⟩
 ·rcases List.mem_append.1 b with b|b
  ·exact(rG _).1 c b
  ·exact(Zo a).1 c b
 ·exact((rG _).2 _).trans (Zo a).2
theorem rI: ∀(l:List UInt8) (a:Nat),a<=Tp a l
 | [],a=>A0 _
 |c::l,a=>by
  have:=rI l (a*10+(c.toNat-48));have b:Tp a (c::l)=Tp (a*10+(c.toNat-48)) l:=rfl;rw[b];omega
theorem xy: ∀(l:List UInt8) (a:Nat),mW l->Tp a l<=4294967295->Lib.parseUintM 4294967295 a l= .ok (Tp a l)
 | [],a,_,_=>rfl
 |c::l,a,hd,b=>by
  have d:Tp a (c::l)=Tp (a*10+(c.toNat-48)) l:=rfl;rw[d] at b ⊢;have e:=hd c (by simp);have g:=rI l (a*10+(c.toNat-48));unfold Lib.parseUintM;rw[if_pos e,if_neg (by omega),if_neg (by omega)];exact xy l _ (λx f=>hd x (AG _ f)) b
theorem xA: ∀(l:List UInt8) (a:Nat) {u:Nat},a<=4294967295->Lib.parseUintM 4294967295 a l= .ok u->u<=4294967295
 | [],a,u,d,b=>by
  unfold Lib.parseUintM at b;injection b with b;omega
 |c::l,a,u,d,b=>by
  unfold Lib.parseUintM at b;split at b
  ·split at b
   ·cases b
   ·split at b
    ·cases b
    ·exact xA l _ (by omega) b
  ·cases b
theorem xC {a:Nat}(d:a<=4294967295):Lib.parseUintB 32 (Ou a)= .ok a:=by
 obtain⟨e,b⟩:=rH a;have f:Ou a≠ []:=by intro g;have h:Lib.decDigits a= []:=(List.append_eq_nil_iff.1 g).2;have c:=congrArg List.length h;rw[Lib.decDigits_length] at c;have:=Lib.nDigits_pos a;simp at c;omega
 unfold Lib.parseUintB;rw[if_neg f];have:=xy (Ou a) 0 e (by rw[b];exact d);rw[b] at this;exact this
theorem AP9 {a b:Nat}(d:Ou a=Ou b):a=b:=by have c:=(rH a).2;rw[d,(rH b).2] at c;exact c.symm
theorem AJb {k:Nat}: ∀ {n:Nat},n<10^(k+1)->Lib.nDigits n<=k+1:=by
 induction k with
 |zero=>intro n a;rw[Lib.nDigits_small (by simpa using a)];omega
 |succ k c=>
  intro n a;by_cases b:n<10
  ·rw[Lib.nDigits_small b];omega
  ·rw[Lib.nDigits_big b];have:=c (n:=n / 10) (by rw[DP] at a;omega);omega
theorem xD {n:Nat}(a:n<=99999999):(Ou n).length=8:=by have b:=AJb (k:=7) (n:=n) (by have:(10:Nat)^(7+1)=100000000:=(by decide);omega);simp only[Ou,A1,Lib.repeatL_length,Lib.decDigits_length,CN];omega
theorem AJ2 {a:Nat}(b:(Ou a).length=8):a<=99999999:=by
 have c:Lib.nDigits a<=8:=by simp only[Ou,A1,Lib.repeatL_length,Lib.decDigits_length,CN] at b;omega
 have d:=Lib.lt_pow_nDigits a;have e:(10:Nat)^Lib.nDigits a<=10^8:=R0 (by decide) c;have:(10:Nat)^8=100000000:=by decide
 omega
def aD(a:A2I)(b:Nat):A2I:=a++AX (Ou b)
theorem R8(a:A2I)(b:Nat):bl (aD a b)=bl a++Ou b:=by show(a++AX (Ou b)).data.toList=a.data.toList++Ou b;rw[GP,Ix];exact congrArg _ (Be _)
theorem Iz {a:A2I}{b c:Nat}(e:aD a b=aD a c):b=c:=by have d:=congrArg bl e;rw[R8,R8] at d;exact AP9 (IS d)
theorem APk {nm:A2I}{a:Nat}(b:a<=99999999):(aD nm a).size=nm.size+8:=by rw[aD,Hv,AP,xD b]
inductive Nf:List UInt8->List (List UInt8)->Prop
 |stop {l:List UInt8} (h:(De l).1≠0):Nf l []
 |step {l:List UInt8} {rs:List (List UInt8)} (h:(De l).1=0) (s:Nf (De l).2.2 rs):Nf l ((De l).2.1::rs)
theorem rJ {l:List UInt8}(a:(De l).1=0):(De l).2.1.length+(De l).2.2.length<l.length:=by
 unfold De at a ⊢;cases b:MJ 0 0 l with
 |none=>rw[b] at a;dsimp only at a;split at a<;>cases a
 |some p=>
  obtain⟨g,t⟩:=p;rw[b] at a;obtain⟨c,_⟩:=lL b;have h:t.length<=l.length:=by rw[c];simp
  dsimp only at a ⊢;split at a
  ·cases a
  ·rename_i d;split at a
   ·cases a
   ·rename_i e;split at a
    ·rename_i f;rw[if_neg d,if_neg e,if_pos f];simp only[An,CI];omega
    ·cases a
theorem rK: ∀(k:Nat) (l:List UInt8),l.length<=k-> ∃a,Nf l a/\(a.map (·.length+1)).sum<=l.length
 |0,l,c=>by
  have:l= []:=DA (by omega);subst this;exact⟨[],.stop (by decide),by simp⟩
 |k+1,l,c=>by
  by_cases b:(De l).1=0
  ·have e:=rJ b;obtain⟨a,d,f⟩:=rK k (De l).2.2 (by omega);exact⟨_,.step b d,by simp only[BW,GB];omega⟩
  ·exact⟨[],.stop b,by simp⟩
theorem Nf.uniq {l:List UInt8}{d ts:List (List UInt8)}(a:Nf l d):Nf l ts->d=ts:=by
 induction a generalizing ts with
 |stop a=>
  intro c;cases c with
  |stop=>rfl
  |step b=>exact absurd b a
 |step a s e=>
  intro c;cases c with
  |stop b=>exact absurd a b
  |step b f=>rw[e f]
noncomputable def lJ (l:List UInt8):List (List UInt8):=(rK l.length l (A0 _)).choose
theorem rL(l:List UInt8):Nf l (lJ l):=(rK l.length l (A0 _)).choose_spec.1
theorem APd {l:List UInt8}{a:List (List UInt8)}(b:Nf l a):lJ l=a:=(rL l).uniq b
abbrev aL(a:List (List UInt8)):List UInt8:=a.flatMap Cg
theorem SE {rs:List (List UInt8)}(c: ∀a∈rs,a.length<=1048576){t:List UInt8}(d:(De t).1≠0):Nf (aL rs++t) rs:=by
 induction rs with
 |nil=>exact .stop d
 |cons a rs e=>
  have b:=sq (l:=a) (c a (by simp)) (aL rs++t);have f:aL (a::rs)++t=Cg a++(aL rs++t):=by simp
  rw[f];have:=Nf.step (l:=Cg a++(aL rs++t)) (rs:=rs) (by rw[b]) (by rw[b];exact e λx g=>c x (AG _ g));rw[b] at this;exact this
theorem Uj:(De []).1≠0:=by decide
theorem AM7 {a:List UInt8}(m:a.length<=1048576){b:Nat}(n:b<(Cg a).length):(De ((Cg a).take b)).1≠0:=by
 have d:(Cg a).take b++(Cg a).drop b=Cg a:=DH _ _;have o:((Cg a).drop b).length≠0:=by rw[CI];omega
 generalize (Cg a).take b=p at*
 generalize (Cg a).drop b=e at*
 unfold De;cases f:MJ 0 0 p with
 |none=>dsimp only;split<;>simp
 |some z=>
  obtain⟨g,t⟩:=z;obtain⟨h,i⟩:=lL f;have j:MJ 0 0 (Cg a)=some (g,t++e):=by rw[<- d,h,A4];exact Vo i _
  have c:MJ 0 0 (Cg a)=some (a.length,Rh (jw a)++a):=by unfold Cg;rw[A4];exact Vo (by omega) _
  rw[j] at c;obtain⟨rfl,k⟩:=Prod.mk.inj (Bm c);have l:=congrArg List.length k;simp only[A1,Jl] at l;dsimp only;rw[if_neg (by omega),if_pos (by omega)];simp
theorem Ij {r:List UInt8}(a:r.length<=1048576):r.length+5<=(Cg r).length/\(Cg r).length<=r.length+14:=by
 have b:=AV (n:=r.length) (by omega);have c:1<=(BX r.length).length:=by rw[BX];split<;>simp
 simp only[Cg,A1,Jl];omega
end Go.Lf
namespace Go.Lf.G
open Go
def pC:String:=Proofs.YtgpmoonnachoaaaGreatDoor.Rows.archiveMovesRow.named.getD 2 (String.ofList [])
def dt(a:aa):Prop:= ∀(b:ak) (c:Nat),Lib.TabIs P (b.at a c) pC .u64 Lib.pow10Tab
theorem dt.ext {a b:aa}(t:dt a)(x:Ext a b):dt b:=by intro c d;have e:=(Lib.tabBelow_of_tabIs (t c d)) (c.at b d) ⟨rfl,rfl,rfl,x.size,λf g=>x.get f g (λa=>a)⟩;exact e
def lO(b:aa)(g:Nat):Prop:= ∃a,ah b ⟨g,0,none⟩=some a/\(a= .nilIface\/ ∃c d,a= .iface c d)
theorem lO.ext {a b:aa}{g:Nat}(c:lO a g)(x:Ext a b):lO b g:=by obtain⟨d,e,f⟩:=c;exact⟨d,x.ah e,f⟩
structure cu (h:aa):Prop where
 cW:dt h
 tA:lO h (Proofs.Tryz.cS.g 0)
 tB:lO h (Proofs.Tryz.cS.g 1)
theorem cu.ext {b c:aa}(a:cu b)(x:Ext b c):cu c:=⟨a.cW.ext x,a.tA.ext x,a.tB.ext x⟩
theorem sH {e:ak}{d:aa}{i:Nat}{a:World}(b:RowKit.Below d.size (e.at d i) a):a=e.at a.heap a.drawn/\Ext d a.heap:=by obtain⟨f,g,h,j,k⟩:=b;refine⟨?_,⟨j,λc l _=>k c l⟩⟩;cases a;simp only[ak.at] at f g h ⊢;subst f g h;rfl
theorem zE {d:ak}{b:aa}{e:Nat}{a:Q6}{v:J0}(c:ah b a=some v):(d.at b e).cell? a=some v:=by unfold ah at c;unfold World.cell?;exact c
theorem zF {d:ak}{a:aa}{c:Int}{e:A2H}(t:dt a)(g: -9223372036854775808<=c)(h:c<=9223372036854775807)(i: ∀f,Ext a f->e (J7 ⟨(Lib.itoa c).toArray⟩) f):
  AA d P PS #[J6 J9 c] a e:=by
 intro m;refine Calls.mono (Proofs.Any.strconv_Itoa Proofs.Tryz.gR c g h (d.at a m) (t d m)) ?_;rintro l n ⟨rfl,j,os,rfl⟩;refine⟨_,rfl,a++os,m+j,rfl,i _ ⟨by simp,λb k _=>by rw[ID k]⟩⟩
theorem ANP {b:ak}{a:aa}{s:A2I}{c:Nat}{d:A2H}(g:c<=8)(h:s.size<=8)(i: ∀e,Ext a e->d (J7 (AX (Lib.repeatL (bl s) c))) e):
  AA b P Qv #[J7 s,J6 J9 c] a d:=by
 intro m;have k:s.size*c<=8*8:=Nat.mul_le_mul h g;refine Calls.mono (Proofs.Any.strings_Repeat Proofs.Tryz.fq Proofs.Tryz.ey s c (b.at a m) (by omega) (by omega)) ?_;rintro l f ⟨rfl,hB⟩;obtain⟨j,x⟩:=sH hB;exact⟨_,rfl,f.heap,f.drawn,j,i _ x⟩
theorem AGZ {b:ak}{a:aa}{s p:A2I}{c:A2H}(d:c (J1 #[J7 (AX (Lib.trimPrefix (bl s) (bl p))),J3 (Lib.hasPrefix (bl s) (bl p))]) a):
  AA b P Nl #[J7 s,J7 p] a c:=by
 intro m;refine Calls.mono (Proofs.Any.strings_CutPrefix Proofs.Tryz.iT s p (b.at a m)) ?_;rintro e f ⟨rfl,rfl⟩;exact⟨_,rfl,a,m,rfl,d⟩
theorem AO4 {g:ak}{a:aa}{s:A2I}{h:A2H}(o:cu a)(y:s.size<=8)
  (p: ∀u:Nat,Lib.parseUintB 32 (bl s)= .ok u-> ∀e,Ext a e->h (J1 #[.int .u64 u,.nilIface]) e)
  (q:(∀ u,Lib.parseUintB 32 (bl s)≠ .ok u)-> ∀e (w:Int) t v,Ext a e->h (J1 #[.int .u64 w,.iface t v]) e):
  AA g P Nw #[J7 s,J6 J9 10,J6 J9 32] a h:=by
 intro m;cases c:Lib.parseUintB 32 (bl s)
 ·rename_i u;refine Calls.mono (Proofs.Any.strconv_ParseUint_10_at32_ok Proofs.Tryz.eB s (by omega) u c (g.at a m)) ?_;rintro r d ⟨rfl,i|i⟩
  ·subst i;exact⟨_,rfl,a,m,rfl,p u c a Mod.refl⟩
  ·subst i;refine⟨_,rfl,_,_,rfl,p u c _ ?_⟩;refine⟨?_,λb z _=>?_⟩
   ·simp[Lib.bytesWorld,World.freeze,World.alloc,World.drew,ak.at]
   ·simp[Lib.bytesWorld,World.freeze,World.alloc,World.drew,ak.at,HS,Array.getElem?_push];rw[if_neg (by omega),if_neg (by omega)]
 ·obtain⟨j,k,l⟩:=o.tA;refine Calls.mono (Proofs.Any.strconv_ParseUint_10_at32_syntax Proofs.Tryz.eB s (by omega) c j (g.at a m) (zE k) l) ?_;rintro r d ⟨N,rfl,_,_,hB⟩;obtain⟨n,x⟩:=sH hB;exact⟨_,rfl,d.heap,d.drawn,n,q (λu f=>by rw[c] at f;cases f) _ _ _ _ x⟩
 ·obtain⟨j,k,l⟩:=o.tB;refine Calls.mono (Proofs.Any.strconv_ParseUint_10_at32_range Proofs.Tryz.eB s (by omega) c j (g.at a m) (zE k) l) ?_;rintro r d ⟨N,rfl,_,_,hB⟩;obtain⟨n,x⟩:=sH hB;exact⟨_,rfl,d.heap,d.drawn,n,q (λu f=>by rw[c] at f;cases f) _ _ _ _ x⟩
theorem Yz {g:ak}{c:aa}{b:A2I}{a:Nat}{d:A2H}(h:cu c)(p:a<=4294967295)(q:b.size<=1099511627776)(i: ∀e,Ext c e->d (J7 (aD b a)) e):
  AA g P Kc #[J7 b,J6 J9 a] c d:=by
 refine AHx ?_;unfold vq;refine zF h.cW (by omega) (by omega) λr j=>⟨_,rfl,?_⟩
 have k:Lib.itoa (a:Int)=Lib.decDigits a:=Lib.itoa_nonneg a;rw[k];have f:(⟨(Lib.decDigits a).toArray⟩:A2I).size=(Lib.decDigits a).length:=by simp[ByteArray.size]
 have s:(Lib.decDigits a).length<=20:=by rw[Lib.decDigits_length];exact Lib.nDigits_le20 a (by omega)
 have l:(if((J8 J9 ((8:Int)-(((⟨(Lib.decDigits a).toArray⟩:A2I).size:Nat):Int))):Int)>0 then(J8 J9 ((8:Int)-(((⟨(Lib.decDigits a).toArray⟩:A2I).size:Nat):Int))) else 0)=((8-(Lib.decDigits a).length:Nat):Int):=by rw[f,wrap_i64 (by omega) (by omega)];split<;>omega
 rw[l];refine ANP (by omega) (by decide) λm n=>⟨_,rfl,?_,?_,?_⟩
 ·have:(AX (Lib.repeatL (bl ⟨#[48]⟩) (8-(Lib.decDigits a).length))).size<=8:=by rw[AP,Lib.repeatL_length];simp[bl]
  rw[max_i64];omega
 ·have:(AX (Lib.repeatL (bl ⟨#[48]⟩) (8-(Lib.decDigits a).length))).size<=8:=by rw[AP,Lib.repeatL_length];simp[bl]
  rw[Hv,max_i64,f];omega
 ·have:=i m (j.trans n);have o:aD b a=(b++AX (Lib.repeatL (bl ⟨#[48]⟩) (8-(Lib.decDigits a).length)))++⟨(Lib.decDigits a).toArray⟩:=by rw[aD,Ou,<-Aq,ByteArray.append_assoc];rfl
  rw[o] at this;exact this
theorem AMw {I:ak}{h:aa}{c s:A2I}{q:A2H}(C:cu h)(J:c.size<=1099511627776)(U:s.size<=1099511627776)
  (D: ∀i (k:Nat),Ext h i->(k=0-> ∀a:Nat,1<=a->a<=99999999->s≠aD c a)->(k≠0->k<=99999999/\s=aD c k)->q (J6 J9 k) i):
  AA I P Sg #[J7 c,J7 s] h q:=by
 refine AEp ?_;unfold YJ;have m: ∀i,Ext h i->(∀ a:Nat,1<=a->a<=99999999->s≠aD c a)->q (J6 J9 0) i:=λi x r=>D i 0 x (λ_=>r) (λh=>absurd rfl h)
 refine AGZ ⟨_,_,rfl,?_⟩;cases l:Lib.hasPrefix (bl s) (bl c) with
 |false=>
  refine ai.mk λK o=>af.yes rfl (o _ _ (af.yes rfl (m h Mod.refl λa _ _ g=>?_)))
  subst g;rw[R8] at l;unfold Lib.hasPrefix at l;rw[Sh] at l;exact l (List.isPrefixOf_iff_prefix.2 (List.prefix_append _ _))
 |true=>
  have E:=l;unfold Lib.hasPrefix at E;obtain⟨f,hd⟩:=List.isPrefixOf_iff_prefix.1 E;have L:Lib.trimPrefix (bl s) (bl c)=f:=by unfold Lib.trimPrefix;rw[if_pos l,<-hd];simp
  rw[L];refine ai.mk λK o=>af.no rfl ?_
  have M: ∀b:Bool,b=true->(∀ a:Nat,1<=a->a<=99999999->s≠aD c a)->K (b,()) h:=λb N r=>o _ _ (af.yes N (m h Mod.refl r))
  have F:(AX f).size=f.length:=AP f;by_cases w:f.length=8
  ·refine o _ _ (af.no (by simp[F,w]) ?_);have G:bl (AX f)=f:=EF f;refine AO4 C (by omega) (λu j e p=>⟨_,_,rfl,?_⟩) (λj e k t v p=>⟨_,_,rfl,ai.mk λO y=>?_⟩)
   ·rw[G] at j;have Q:u<=4294967295:=by
     have:Lib.parseUintB 32 f= .ok u:=j;unfold Lib.parseUintB at this;split at this
     ·cases this
     ·exact xA f 0 (by omega) this
    have R:J8 J9 (u:Int)=(u:Int):=wrap_i64 (by omega) (by omega);rw[R];refine ai.mk λO y=>?_
    refine⟨trivial,af.no rfl ?_⟩;refine Yz (C.ext p) Q J λz S=>⟨_,rfl,y _ _ ?_⟩
    have A:=p.trans S;refine af.intro (λd=>?_) (λd=>?_)
    ·have d:aD c u≠s:=by
      intro g;have:bU (aD c u) s=true:=by rw[CZ];exact decide_eq_true g
      dsimp only at d;rw[this] at d;cases d
     refine m z A λa _ B g=>d ?_
     have e:bl s=bl c++Ou a:=by rw[g,R8]
     rw[<- hd] at e;have n:f=Ou a:=IS e;rw[n,xC (by omega)] at j;have:a=u:=by injection j
     rw[<- this];exact g.symm
    ·have d:aD c u=s:=by
      have d:(!bU (aD c u) s)=false:=d;have d:bU (aD c u) s=true:=by simpa using d
      rw[CZ] at d;exact of_decide_eq_true d
     have e:bl s=bl c++Ou u:=by rw[<- d,R8]
     rw[<- hd] at e;have n:f=Ou u:=IS e;have T:u<=99999999:=AJ2 (by rw[<- n];exact w);by_cases H:u=0
     ·subst H;refine m z A λa V _ g=>?_
      have:=Iz (g.symm.trans d.symm);omega
     ·exact D z u A (λh=>absurd h H) λ_=>⟨T,d.symm⟩
   ·rw[G] at j;refine⟨trivial,af.yes rfl (y _ _ (af.yes rfl (m e p λa _ B g=>?_)))⟩;have e:bl s=bl c++Ou a:=by rw[g,R8]
    rw[<- hd] at e;have n:f=Ou a:=IS e;exact j a (by rw[n];exact xC (by omega))
  ·refine M _ (by simp[F];omega) λa _ B g=>w ?_
   have e:bl s=bl c++Ou a:=by rw[g,R8]
   rw[<- hd] at e;rw[IS e,xD B]
open Go Go.ChangeShapes Go.WideShapes Go.ChangeAt Go.RowKit Go.Proofs.YtgpmoonnachoaaaGreatDoor
theorem AOw {H:Type}(a:DataW H):1<=Rows.uptoBulk a:=by
 cases a with
 |lit l=>cases l<;>simp[Rows.uptoBulk]
 |nil=>simp[Rows.uptoBulk]
 |ptr a=>simp[Rows.uptoBulk]
 |slice b spare=>simp[Rows.uptoBulk]
 |agg c=>simp[Rows.uptoBulk]
 |iface t a=>simp[Rows.uptoBulk]
 |map d=>simp[Rows.uptoBulk]
 |held e=>simp[Rows.uptoBulk]
theorem AN9 {H:Type}(l:List (DataW H)):l.length<=Rows.uptoBulkAll l:=by
 induction l with
 |nil=>simp[Rows.uptoBulkAll]
 |cons x a b=>have:=AOw x;simp only[Rows.uptoBulkAll,A6];omega
theorem wI {H:Type}{enc:Q7×J0->H}{P:Q1}(d:laidOutB P=true){e f:World}{g:Nat->Bool}: ∀ {ts:List Q7} {c:List J0} {ds:List (DataW H)} {ps:List MemPlace},
  (ts.all λt=>P.readableRec t&&decide (t<P.types.size))=true->DataW.TrodAll enc P e 0 (λ_=>true) true ts c ds ps->(∀ p∈ps,e.sameAt f p)->(∀ p∈ps,g p.block=true)->DataW.TrodAll enc P f 0 g true ts c ds ps
 | [],[],[],_,_,j,_,_=>j
 |t::ts,v::c,o::ds,_,b,⟨p,k,l,m,n⟩,h,i=>by
  simp only[DG,A3,decide_eq_true_eq] at b;subst n;exact⟨p,k,WideElems.Trod_stays d b.1.1 b.1.2 l (λx a=>h x (HI _ a)) (λx a=>i x (HI _ a)),
   wI d (by simpa using b.2) m (λx a=>h x (Iv _ a)) (λx a=>i x (Iv _ a)),rfl⟩
def mS(a:World):ak:=⟨a.tape,a.os,a.output⟩
theorem APA {H:Type}{enc:Q7×J0->H}{P:Q1}{f:Func}{s:ChangeSpec}{a:World}{args:Array J0}{ds d:List (DataW H)}{j:List MemPlace}{q:Q7}{e:aa}{k:Nat}
  (l:DataW.Whole enc P f.params.toList s.vars false a args.toList ds d j) (r:s.vars= []) (y:(s.fn H (ds++d)).results= [.lit (.bool true)]) (z:(s.fn H (ds++d)).args=ds) (A:(s.fn H (ds++d)).vars= [])
  (B:laidOutB P=true) (g:(f.params.toList.all λt=>P.readableRec t&&decide (t<P.types.size))=true) (C:f.resultTypes= #[q]) (D:P.underlying q=some .bool) (x:Ext a.heap e):
  s.post enc P f false true false false a args (.bool true) ((mS a).at e k):=by
 have u:=λp (g:p∈j)=>l.lt p g
 have E: ∀p∈j,a.sameAt ((mS a).at e k) p:=λp g=>by
  have v:e[p.block]? =a.heap[p.block]? :=x.get _ (u p g) (λh=>h);cases p with
  |cell b off=>
   show ah e ⟨b,off,none⟩=ah a.heap ⟨b,off,none⟩;exact Qy v
  |map b=>exact v
 obtain⟨p,F,hA,m,rfl,L,M⟩:=id l;rw[r] at m;have G:d= []/\F= []:=by
  cases d with
  |nil=>exact⟨rfl,m⟩
  |cons _ _=>exact m.elim
 obtain⟨rfl,rfl⟩:=G;refine⟨ds,[],p++ [],[],p,[],l,?_,?_,?_,?_,λh=>by cases h⟩
 ·rw[y,C];exact⟨[],[],⟨1,by simp[DataW.trod,Value.cells,D]⟩,rfl,rfl⟩
 ·rw[z];exact wI B g hA (λn o=>E n (HI _ o)) (λn o=>by simpa using u n (HI _ o))
 ·rw[r,A];rfl
 ·refine⟨rfl,rfl,λi I=>?_⟩;have J:((mS a).at e k).heap[i]? =a.heap[i]? :=x.get i I (λh=>h);rw[J];cases N:a.heap[i]? with
  |none=>trivial
  |some K=>
   cases K with
   |cells c t fr=>exact⟨rfl,rfl,rfl,λ_ _=>rfl⟩
   |map O Q=>exact .inr ⟨rfl,rfl⟩
   |_=>rfl
theorem laid:laidOutB P=true:=by kernel_rfl
section
variable {H : Type} {enc : Q7 × J0 -> H} {w : World} {base : Nat} {spare : Nat -> Bool} {held : Bool}
theorem wJ {e:Type}{E:cL e}{Q:e->DataW H->Prop}{q t:Q7}(D:P.underlying q=some (.slice t))(F:P.cellsOf t=E.w)
  (G: ∀k r x,DataW.trod enc P w base spare held k t r=some x-> ∃b:e,r=E.enc b/\Q b x.1) {k:Nat} {p:Q2} {len s:Nat} {x:DataW H×List MemPlace} (I:DataW.trod enc P w base spare held k q [.slice p len s]=some x):
  ∃(l:List e) (ds:List (DataW H)),View E w.heap ⟨p,len,s⟩ l/\l.length=ds.length/\(∀ (i:Nat) b n,l[i]? =some b->ds[i]? =some n->Q b n)/\Rows.uptoBulkAll ds+1<=Rows.uptoBulk x.1:=by
 rcases Deep.open_slice D I with⟨h,rfl⟩|⟨a,O,R,m,S,o,T,h,_,u,_,J,rfl,y⟩
 ·simp at h;obtain⟨rfl,rfl,rfl⟩:=h;exact⟨[],[],View.nil,rfl,by simp,by simp[Rows.uptoBulk,Rows.uptoBulkAll]⟩
 ·simp at h;obtain⟨rfl,rfl,rfl⟩:=h;have U:len<=m:=by rw[J];split<;>omega
  rw[F] at y;have: ∀i,i<len-> ∃b:e,Cells w.heap (a.add (i*E.w)) (E.enc b)/\Q b (o i):=λi c=>by
   obtain⟨V,g,j⟩:=y i (by omega);obtain⟨b,rfl,K⟩:=G _ _ _ j;obtain⟨_,z,L⟩:=World.cells?_some g;refine⟨b,λA v B=>?_,K⟩;have M:A<E.w:=by rw[<- E.len b];exact(List.getElem?_eq_some_iff.1 B).1
   have:=L A M;rw[B] at this;exact this
  by_cases z:len=0
  ·subst z;refine⟨[],[],⟨rfl,u,λi b c=>by simp at c⟩,rfl,by simp,?_⟩;simp[Rows.uptoBulk,Rows.uptoBulkAll]
  ·obtain⟨N,_⟩:=this 0 (by omega);have: ∃f:Nat->e,∀i,i<len->Cells w.heap (a.add (i*E.w)) (E.enc (f i))/\Q (f i) (o i):=
    ⟨λi=>if c:i<len then Classical.choose (this i c) else N,λi c=>by simp only[dif_pos c];exact Classical.choose_spec (this i c)⟩
   obtain⟨f,C⟩:=this;refine⟨(List.range len).map f,(List.range len).map o,⟨by simp,u,λi b c=>?_⟩,by simp,λi b n g j=>?_,?_⟩
   ·simp only[BE] at c;by_cases d:i<len
    ·simp[d] at c;subst c;exact⟨a,rfl,(C i d).1⟩
    ·simp[Nat.not_lt.1 d] at c
   ·simp only[BE] at g j;by_cases d:i<len
    ·simp[d] at g j;subst g;subst j;exact(C i d).2
    ·simp[Nat.not_lt.1 d] at g
   ·simp only[Rows.uptoBulk];omega
end
theorem wK {H c:Type}{d:c->DataW H->Prop}{l:List c}{ds:List (DataW H)}(j:l.length=ds.length)(f: ∀(i:Nat) a b,l[i]? =some a->ds[i]? =some b->d a b){a:c}(g:a∈l): ∃b∈ds,d a b:=by
 obtain⟨i,h,rfl⟩:=CC g;have e:i<ds.length:=by omega
 exact⟨ds[i],AS e,f i _ _ (A2 h) (A2 e)⟩
theorem ry:P.underlying Bp=some (.int J9):=by kernel_rfl
theorem AST:P.underlying rp=some .bool:=by kernel_rfl
theorem AS4:P.underlying BD=some .string:=by kernel_rfl
theorem wL:P.underlying Cj=some (.slice Bp):=by kernel_rfl
theorem AUI:P.cellsOf BD=1:=by kernel_rfl
theorem wM:P.cellsOf Bp=1:=by kernel_rfl
theorem wf_i64 {a:Int}(b:(Lit.int J9 a).wf=true): -9223372036854775808<=a/\a<=9223372036854775807:=by simp[Lit.wf,IntKind.min,IntKind.max,IntKind.bits,IntKind.signed] at b;omega
section
variable {H : Type} {enc : Q7 × J0 -> H} {w : World} {base : Nat} {spare : Nat -> Bool} {held : Bool}
theorem open_ints {a:Nat}{p:Q2}{len cap:Nat}{x:DataW H×List MemPlace}(b:DataW.trod enc P w base spare held a Cj [.slice p len cap]=some x):
  ∃l:List Int,View GV w.heap ⟨p,len,cap⟩ l/\l.length+1<=Rows.uptoBulk x.1/\ ∀a∈l,-9223372036854775808<=a/\a<=9223372036854775807:=by
 obtain⟨l,ds,V,d,e,j⟩:=wJ (E:=GV) (Q:=λc k=> -9223372036854775808<=c/\c<=9223372036854775807) wL wM (λa m x f=>by
  obtain⟨s,g,n,h⟩:=DataW.trod_int ry f;exact⟨s,g,wf_i64 h⟩) b
 have:=AN9 ds;exact⟨l,V,by omega,λa i=>by obtain⟨_,_,b⟩:=wK d e i;exact b⟩
end
end Go.Lf.G
namespace Go.Lf
open Go
def xK(a:A2I)(i:Nat):Nat:=(ng a+i*pw a) % 4294967296
def cY(a:A2I)(m i:Nat):Nat:=xK a i % (8*m)
def Tm(f:List UInt8)(a:Nat):Bool:=((f[a / 8]?).getD 0).toNat.testBit (a % 8)
def gK(f:List UInt8)(a:Nat):List UInt8:=f.set (a / 8) (Bu (((f[a / 8]?).getD 0).toNat ||| 2^(a % 8)))
theorem AQU(f:List UInt8)(a:Nat):(gK f a).length=f.length:=by simp[gK]
theorem xI {c a:Nat}(b:c<256)(d:a<8):c ||| 2^a<256:=by have e:2^a<2^8:=Nat.pow_lt_pow_right (by decide) d;have:c ||| 2^a<2^8:=IT (by simpa using b) e;simpa using this
theorem ARY {f:List UInt8}{a:Nat}(c:a / 8<f.length)(x:Nat):Tm (gK f a) x=(Tm f x||decide (x=a)):=by
 unfold Tm gK;have d:a % 8<8:=Cp _ (by decide);by_cases b:x / 8=a / 8
 ·rw[b,HN c,FG,Dt (xI (UInt8.toNat_lt _) d),Nat.testBit_or,Nat.testBit_two_pow];congr 1;rw[Ge,decide_eq_true_iff,decide_eq_true_iff];omega
 ·rw[IN (by omega)];have:x≠a:=λe=>b (by rw[e])
  simp[this]
def Zb(m:Nat)(f:List UInt8)(a:A2I):List UInt8:=(List.range 4).foldl (λf i=>gK f (cY a m i)) f
theorem rN {k:A2I}{m i:Nat}(a:1<=m):cY k m i<8*m:=Cp _ (by omega)
theorem VG {k:A2I}{m:Nat}(b:1<=m): ∀(l:List Nat) (f:List UInt8),f.length=m->(l.foldl (λf i=>gK f (cY k m i)) f).length=m/\ ∀x,Tm (l.foldl (λf i=>gK f (cY k m i)) f) x=(Tm f x||l.any λi=>decide (x=cY k m i))
 | [],f,a=>⟨a,λx=>by simp⟩
 |i::l,f,a=>by
  have c:cY k m i / 8<f.length:=by have:=rN (k:=k) (i:=i) b;omega
  obtain⟨d,e⟩:=VG (k:=k) b l (gK f (cY k m i)) (by rw[AQU,a]);refine⟨d,λx=>?_⟩;rw[HX,e,ARY c,List.any_cons,Bool.or_assoc]
theorem AN7 {k:A2I}{m:Nat}(a:1<=m){f:List UInt8}(b:f.length=m):(Zb m f k).length=m:=(VG a _ f b).1
theorem APf {a:A2I}{m:Nat}(b:1<=m){f:List UInt8}(c:f.length=m){x:Nat}(d:Tm f x=true):Tm (Zb m f a) x=true:=by unfold Zb;rw[(VG b _ f c).2,d];rfl
theorem AOP {a:A2I}{m:Nat}(b:1<=m){f:List UInt8}(c:f.length=m){i:Nat}(d:i<4):Tm (Zb m f a) (cY a m i)=true:=by unfold Zb;rw[(VG b _ f c).2,DE];right;rw[List.any_eq_true];exact⟨i,List.mem_range.2 d,by simp⟩
def NY(m:Nat):List UInt8:=List.replicate m 0
def kL(a:List A2I)(m:Nat):List UInt8:=a.foldl (Zb m) (NY m)
def oY(f:List UInt8)(a:A2I):Bool:=(List.range 4).all λi=>Tm f (cY a f.length i)
def ij(f:List UInt8)(a:A2I):Bool:=decide (f≠ [])&&decide (f.length<=8192)&&oY f a
theorem Vx {m:Nat}(c:1<=m): ∀(a:List A2I) (f:List UInt8),f.length=m->(a.foldl (Zb m) f).length=m/\(∀ x,Tm f x=true->Tm (a.foldl (Zb m) f) x=true)/\ ∀k∈a,∀i,i<4->Tm (a.foldl (Zb m) f) (cY k m i)=true
 | [],f,b=>⟨b,λx d=>d,λk j=>by cases j⟩
 |k::a,f,b=>by
  have l:=AN7 (k:=k) c b;obtain⟨n,g,o⟩:=Vx c a (Zb m f k) l;refine⟨n,λx d=>g x (APf c b d),λp e i h=>?_⟩;rcases List.mem_cons.1 e with rfl|e
  ·exact g _ (AOP c b h)
  ·exact o p e i h
theorem APG {b:List A2I}{m:Nat}(d:1<=m)(e:m<=8192){c:A2I}(f:c∈b):ij (kL b m) c=true:=by obtain⟨a,_,g⟩:=Vx d b (NY m) (by simp[NY]);have a:(kL b m).length=m:=a;unfold ij oY;rw[a,A3,A3,decide_eq_true_iff,decide_eq_true_iff,DQ];refine⟨⟨λh=>?_,e⟩,λi j=>g c f i (List.mem_range.1 j)⟩;rw[h] at a;simp at a;omega
theorem APw {a:List A2I}{m:Nat}(b:1<=m):(kL a m).length=m:=(Vx b a (NY m) (by simp[NY])).1
theorem AOQ(v:J0)(a:Nat):(madeCells #[v] a).toList=List.replicate a v:=by
 apply List.ext_getElem
 ·simp[madeCells]
 ·intro i b c;simp[madeCells,Nat.mod_one]
theorem xT {a:Type}{b:cL a}{c:a}{v:J0}(d:b.enc c= [v]): ∀n,(List.replicate n c).flatMap b.enc=List.replicate n v
 |0=>rfl
 |n+1=>by rw[List.replicate_succ,List.replicate_succ,AH,d,xT d n];rfl
theorem xU {e:ak}{P:Q1}{f:Type}{E:cL f}{x0:f}{v z:J0}{t T:Q7}{g:Nat}(p:P.underlying t=some (.slice T))(c:(P.info? T).map (λi=>(i.zero,i.size,i.bytes))=some (some z,1,g))
  (q:z.cells= #[v]) (h:E.w=1) (r:E.enc x0= [v]) {a:aa} {n:Nat} {j k:IntKind} (A:n*g<=140737488355328) (l:n<=maxLen) {K:Sl->aa->Prop}
  (u: ∀b,Own E T b ⟨some ⟨a.size,0,none⟩,n,n⟩ (List.replicate n x0)->Ext a b->b.size=a.size+1->K ⟨some ⟨a.size,0,none⟩,n,n⟩ b):
  BK e P (Instr.makeSlice t (.int j (n:Int)) (.int k (n:Int))) a λv b=> ∃s:Sl,v= .slice s.p s.len s.cap/\K s b:=by
 intro m;cases d:P.info? T with
 |none=>rw[d] at c;simp at c
 |some i=>
  rw[d] at c;simp only[HP,BT,Lq] at c;obtain⟨w,x,y⟩:=c;have hB:((i.bytes:Nat):Int)*((n:Nat):Int)<=281474976710656:=by rw[y,<-Int.natCast_mul,CM];omega
  have o:=run_make (P:=P) (e.at a m) t T i z p d w j k (n:Int) (n:Int) (by omega) (GC _) hB (by simp only[maxLen] at l;omega);simp only[AF,x,Bs,q] at o;refine⟨_,a.push (.cells (madeCells #[v] n) T),m,o,⟨some ⟨a.size,0,none⟩,n,n⟩,rfl,u _ ⟨by simp,.inr ⟨a.size,madeCells #[v] n,rfl,by simp,A0 _,l,by simp[size_madeCells,h],?_⟩⟩ (Mod.push a _) (by simp)⟩;show(madeCells #[v] n).toList.take (n*E.w)=_;rw[AOQ,h,Bs,AE (by simp),xT r]
theorem xV {m:Nat}(a:m<=8192):J8 .u32 (J8 J9 ((8:Int)*((m:Nat):Int)))=((8*m:Nat):Int):=by rw[show(8:Int)*((m:Nat):Int)=((8*m:Nat):Int) by omega,El (by omega),wrap_u32,AD (by omega)]
theorem ATT(a:A2I)(i:Nat):xK a i<4294967296:=Cp _ (by decide)
theorem xW(a:A2I)(i:Nat):J8 .u32 (((xK a i:Nat):Int)+((pw a:Nat):Int))=((xK a (i+1):Nat):Int):=by rw[<- Int.natCast_add,wrap_u32];congr 1;unfold xK;rw[Nat.mod_add_mod,Dd,Nat.one_mul,HJ]
theorem xX(a:A2I):xK a 0=ng a:=by unfold xK;rw[HT,G0,AD (yI a)]
theorem xY(x m:Nat):((x:Nat):Int).tmod ((m:Nat):Int)=((x % m:Nat):Int):=(LI x m).symm
theorem xZ(x:Nat):((x:Nat):Int).tdiv (8:Int)=((x / 8:Nat):Int):=(Int.ofNat_tdiv x 8).symm
theorem y4(x:Nat):((x:Nat):Int).tmod (8:Int)=((x % 8:Nat):Int):=(LI x 8).symm
theorem y5(x:Nat):min (((x % 8:Nat):Int).toNat) (IntKind.bits .u8)=x % 8:=by rw[AF];show min (x % 8) 8=_;omega
theorem AQn {c a:Nat}(d:c<256):(Gn .u8 (((c:Nat):Int).fdiv ((2:Int)^a)) (1:Int)==(0:Int))= !(c.testBit a):=by have e:c / 2^a<256:=R2 (Rg _ _) d;rw[Qx,show(1:Int)=((1:Nat):Int) from rfl,yT e (by decide),Nat.and_one_is_mod,Nat.testBit_eq_decide_div_mod_eq];generalize c / 2^a=f;rcases Nat.mod_two_eq_zero_or_one f with b|b<;>rw[b]<;>rfl
theorem ASv {c a:Nat}(d:c<256)(e:a<8):eF .u8 ((c:Nat):Int) (J8 .u8 ((1:Int)*((2:Int)^a)))=((c ||| 2^a:Nat):Int):=by
 have b:2^a<256:=by have:2^a<2^8:=Nat.pow_lt_pow_right (by decide) e;simpa using this
 have f:(1:Int)*((2:Int)^a)=((2^a:Nat):Int):=by rw[Int.one_mul,Int.natCast_pow];rfl
 rw[f,wrap_u8,AD b,yS d b]
end Go.Lf
namespace Go.Lf.G
open Go
theorem ANK {a:A2I}{i:Nat}(b:i<a.size): ∃c,a.data.toList[i]? =some c:=by
 have:i<a.data.toList.length:=by simpa using b
 exact⟨_,A2 this⟩
theorem sL {o:ak}{d:aa}{key:A2I}{h:A2H}(r:key.size<=1099511627776)(p:h (.tuple #[.int .u32 (ng key:Int),.int .u32 (pw key:Int)]) d):AA o P La #[.string key] d h:=by
 refine AEl ?_;unfold Zd;refine Loop.rule (λm x j=> ∃i:Nat,x=(((Ux (key.data.toList.take i)).1:Int),((Ux (key.data.toList.take i)).2:Int),(i:Int),())/\j=d/\m=key.size-i/\i<=key.size) ?_ ⟨0,rfl,rfl,rfl,by omega⟩;rintro K m _ j ⟨i,rfl,e,rfl,s⟩ q;subst e;obtain⟨k,f⟩:=yH (key.data.toList.take i);refine af.intro (λg=>?_) (λg=>?_)
 ·have a:i<key.size:=by simpa using g
  obtain⟨c,l⟩:=ANK a;have n:c.toNat<256:=c.toNat_lt;refine⟨⟨by dsimp only;omega,by dsimp only;omega⟩,⟨by dsimp only;omega,by dsimp only;omega⟩,?_⟩;dsimp only;rw[OI l,uj k n,ATm f n,Aa (by omega)];refine q (key.size-(i+1)) _ _ (by omega) ⟨i+1,?_,rfl,rfl,a⟩;rw[Ax,l,Ds,yG]
 ·have a:i=key.size:=by simp at g;omega
  have e:key.data.toList.take i=key.data.toList:=AE (by simp[a]);dsimp only;rw[e] at k f ⊢;have:eF .u32 (((Ux key.data.toList).2:Nat):Int) (1:Int)=((pw key:Nat):Int):=ASQ f (b:=1) (by decide);rw[this];exact p
theorem X7 {f:A2I}:bU f (⟨#[]⟩:A2I)=decide (bl f= []):=by
 rw[Ge,CZ];constructor
 ·intro a;have a:=of_decide_eq_true a;subst a;rfl
 ·intro a;have a:=of_decide_eq_true a;cases f with
  |mk b=>
   have:b= #[]:=by apply Array.toList_inj.1;exact a
   rw[this];rfl
theorem ASO {f:A2I}{i:Nat}{c:UInt8}(a:(bl f)[i]? =some c):f.data.toList[i]? =some c:=a
theorem zS {u:ak}{l:aa}{f key:A2I}{q:A2H}(v:key.size<=1099511627776)(a:q (.bool (ij (bl f) key)) l):AA u P QB #[.string f,.string key] l q:=by
 refine AGU ?_;unfold vt;refine ai.mk λK r=>?_
 have g:=A7 f;refine af.intro (λe=>?_) (λe=>?_)
 ·refine r _ _ (af.yes rfl ?_);rw[X7,decide_eq_true_iff] at e;rw[e] at a;exact a
 ·refine r _ _ ?_;rw[X7,decide_eq_false_iff_not] at e;refine af.intro (λn=>?_) (λn=>?_)
  ·have h: ¬(bl f).length<=8192:=by simp at n;omega
   have:ij (bl f) key=false:=by unfold ij;rw[decide_eq_false h,NX,HE]
   rw[this] at a;exact a
  ·have h:f.size<=8192:=by simp at n;omega
   have w:1<=f.size:=by rw[<- g];exact List.length_pos_iff.2 e
   refine sL v ⟨_,_,rfl,?_⟩;refine Loop.rule (λm x s=> ∃i:Nat,x=(((xK key i:Nat):Int),(i:Int),())/\s=l/\m=4-i/\i<=4/\ ∀b,b<i->Tm (bl f) (cY key f.size b)=true) ?_ ⟨0,by rw[xX];rfl,rfl,rfl,by omega,λb o=>by omega⟩;rintro E m _ s ⟨i,rfl,y,rfl,F,t⟩ z;subst y;dsimp only;refine af.intro (λp=>?_) (λp=>?_)
   ·have j:i<4:=by simp at p;omega
    have G:cY key f.size i<8*f.size:=rN w;have H:=ATT key i;rw[xV h,xY];have A:xK key i % (8*f.size)=cY key f.size i:=rfl;rw[A,xZ,y4,y5,wrap_u32,AD (show cY key f.size i / 8<4294967296 by omega)];have B:cY key f.size i / 8<(bl f).length:=by rw[g];omega
    have k:(bl f)[cY key f.size i / 8]? =some (bl f)[cY key f.size i / 8]:=A2 B;obtain⟨c,k⟩: ∃c,(bl f)[cY key f.size i / 8]? =some c:=⟨_,k⟩;rw[OI (ASO k),AQn c.toNat_lt];have C:Tm (bl f) (cY key f.size i)=c.toNat.testBit (cY key f.size i % 8):=by unfold Tm;rw[k];rfl
    refine⟨by omega,⟨by omega,by omega⟩,by omega,?_⟩;rw[<- C];refine af.intro (λd=>?_) (λd=>?_)
    ·have d:Tm (bl f) (cY key f.size i)=false:=by simpa using d
     have:ij (bl f) key=false:=by
      unfold ij oY;rw[g];have:((List.range 4).all λi=>Tm (bl f) (cY key f.size i))=false:=by rw[List.all_eq_false];exact⟨i,List.mem_range.2 j,by simp[d]⟩
      simp[this]
     rw[this] at a;exact a
    ·have d:Tm (bl f) (cY key f.size i)=true:=by simpa using d
     rw[xW,Aa (by omega)];refine z (4-(i+1)) _ _ (by omega) ⟨i+1,rfl,rfl,rfl,j,λb o=>?_⟩;by_cases D:b=i
     ·subst D;exact d
     ·exact t b (by omega)
   ·have j:i=4:=by simp at p;omega
    have:ij (bl f) key=true:=by unfold ij oY;rw[g,A3,A3,decide_eq_true_iff,decide_eq_true_iff,DQ];exact⟨⟨e,h⟩,λb o=>t b (by rw[j];exact List.mem_range.1 o)⟩
    rw[this] at a;exact a
theorem zT:(P.info? EE).map (λi=>(i.zero,i.size,i.bytes))=some (some (.int .u8 0),1,1):=by kernel_rfl
theorem Vv:P.underlying DN=some (.slice EE):=by kernel_rfl
theorem zU:P.underlying EE=some (.int .u8):=by kernel_rfl
theorem zV:P.underlying BD=some .string:=by kernel_rfl
theorem AQX {Q:ak}{e:aa}{s:Sl}{ks:List A2I}{m:Nat}{G:A2H}(y:View IR e s ks)(R: ∀d∈ks,d.size<=1099511627776)(z:1<=m)(S:m<=8192)(au:ks.length<=1099511627776)(g: ∀b,s.ag=some b->b<e.size)
  (T: ∀H,Ext e H->G (.tuple #[.string (AX (kL ks m)),.int J9 0]) H):AA Q P OW #[.slice s.p s.len s.cap,.int J9 (m:Int)] e G:=by
 refine AEc ?_;unfold ZH;refine ai.mk λK U=>?_
 refine af.no (by simp;omega) ?_;refine U _ _ (af.no (by simp;omega) ?_);refine xU (E:=Ho) (x0:=0) (v:= .int .u8 0) Vv zT rfl rfl rfl (by omega) (by simp only[maxLen];omega) λI J t av=>?_
 have V:List.replicate m (0:UInt8)=NY m:=rfl;rw[V] at J;dsimp only;refine Loop.rule (λk x n=> ∃i:Nat,x=((i:Int),())/\k=ks.length-i/\i<=ks.length/\Mod (λc=>c=e.size) I n/\Own Ho EE n ⟨some ⟨e.size,0,none⟩,m,m⟩ ((ks.take i).foldl (Zb m) (NY m))) ?_ ⟨0,rfl,rfl,by omega,Mod.refl,J⟩;rintro aw k _ n ⟨i,rfl,rfl,ax,u,o⟩ W;have X:View IR n s ks:=(y.ext t).mod u λb Y=>by have:=g b Y;omega
 dsimp only;refine af.intro (λp=>?_) (λp=>?_)
 ·have q:i<ks.length:=by rw[y.len] at p;simp at p;omega
  have A:ks[i]? =some ks[i]:=A2 q;refine X.idx A λa ay h=>?_
  refine AJ.mk h.str ?_;refine sL (R _ (AS q)) ⟨_,_,rfl,?_⟩;have L:ks.take (i+1)=ks.take i++ [ks[i]]:=by rw[Ax,A];rfl
  generalize ks[i]=d at A L;have M:((ks.take i).foldl (Zb m) (NY m)).length=m:=(Vx z (ks.take i) (NY m) (by simp[NY])).1;generalize Z:(ks.take i).foldl (Zb m) (NY m)=w at o M;refine Loop.rule (λk x B=> ∃j:Nat,x=(((xK d j:Nat):Int),(j:Int),())/\k=4-j/\j<=4/\Mod (λc=>c=e.size) I B/\Own Ho EE B ⟨some ⟨e.size,0,none⟩,m,m⟩ ((List.range j).foldl (λf i=>gK f (cY d m i)) w)) ?_ ⟨0,by rw[xX];rfl,rfl,by omega,u,o⟩;rintro az k _ B ⟨j,rfl,rfl,aA,N,r⟩ ab;dsimp only;refine af.intro (λC=>?_) (λC=>?_)
  ·have D:j<4:=by simp at C;omega
   have aC:cY d m j<8*m:=rN z;have ac:xK d j % (8*m)=cY d m j:=rfl;rw[xV S,xY,ac,xZ,y4,y5,wrap_u32,AD (show cY d m j / 8<4294967296 by omega)];have ae:((List.range j).foldl (λf i=>gK f (cY d m i)) w).length=m:=(VG z _ w M).1;generalize ag:(List.range j).foldl (λf i=>gK f (cY d m i)) w=F at r ae;have ah:F[cY d m j / 8]? =some F[cY d m j / 8]:=A2 (by omega);obtain⟨c,h⟩: ∃c,F[cY d m j / 8]? =some c:=⟨_,ah⟩;refine⟨by omega,?_⟩;refine r.view.idx h λaD aE aj=>?_
   rw[AF];refine AC.mk aj.byte ⟨by omega,?_⟩;refine r.view.idx h λO al aF=>?_
   have am:=ASv c.toNat_lt (show cY d m j % 8<8 by omega);rw[am];have an:=xI c.toNat_lt (show cY d m j % 8<8 by omega);rw[xW,Aa (by omega),<-add_zero (O.add (cY d m j / 8*1))];refine Own.store (E:=Ho) (i:=cY d m j / 8) (j:=0) (x:=c) (x':=Bu (c.toNat ||| 2^(cY d m j % 8))) (v:= .int .u8 ((c.toNat ||| 2^(cY d m j % 8):Nat):Int)) r h (by show [Value.int .u8 _]=_;rw[Dt an];rfl) (by decide) (λaG ao ap aH=>?_) O al;refine ab (4-(j+1)) _ _ (by omega) ⟨j+1,rfl,rfl,D,N.trans (ap.aj λb _ g=>?_),?_⟩
   ·simp[Sl.ag] at g;exact g.symm
   ·rw[MD,HW,ag,HX,Mz];unfold gK;rw[h];exact ao
  ·have D:j=4:=by simp at C;omega
   subst D;rw[Aa (by omega)];refine W (ks.length-(i+1)) _ _ (by omega) ⟨i+1,rfl,rfl,q,N,?_⟩;rw[L,HW,Z];exact r
 ·have q:i=ks.length:=by rw[y.len] at p;simp at p;omega
  have aq:ks.take i=ks:=by rw[q];simp
  rw[aq] at o;have ar:((ks.foldl (Zb m) (NY m)))=kL ks m:=rfl;rw[ar] at o;refine Kn Vv zU zV (s:=⟨some ⟨e.size,0,none⟩,m,m⟩) (l:=kL ks m) o.view ⟨_,rfl,?_⟩;exact T n ⟨by have:=t.size;have:=u.size;omega,λb g _=>(u.get b (by have:=t.size;omega) (by omega)).trans (t.get b g (by simp))⟩
end Go.Lf.G
namespace Go.Lf
open Go
structure Lr (p:Pr):Prop where
 key:p.key.size≠0
 bL:p.key.size<=64
 cG:p.val.size<=8192
 gone:p.gone=true->p.val.size=0
def I4(p:Pr):Nat:=if p.gone then 0 else p.val.size+1
def I5(p:Pr):List UInt8:=BG (bl p.key)++(BX (I4 p)++bl p.val)
abbrev BN(l:List Pr):List UInt8:=l.flatMap I5
theorem RD {s:A2I}(a:s.size=0):bl s= []:=DA (by rw[A7];exact a)
theorem xF {p:Pr}(a:Lr p)(t:List UInt8):FO ⟨I5 p++t,false⟩=(bl p.key,⟨BX (I4 p)++bl p.val++t,false⟩):=by
 have c:=a.bL;have b:I5 p++t=BG (bl p.key)++(BX (I4 p)++bl p.val++t):=by simp[I5,A4]
 rw[b];exact Ik (by rw[A7];omega) _
theorem Zt {p:Pr}(a:Lr p):I4 p<=8193:=by have:=a.cG;unfold I4;split<;>omega
theorem xG {p:Pr}(a:Lr p)(t:List UInt8):CQ 8193 ⟨BX (I4 p)++bl p.val++t,false⟩=(I4 p,⟨bl p.val++t,false⟩):=by rw[A4];have:=Zt a;exact Cr (by omega) this _
theorem xH {p:Pr}(a:Lr p)(t:List UInt8):Kk (I4 p-1) ⟨bl p.val++t,false⟩=(bl p.val,⟨t,false⟩):=by
 have b:I4 p-1=(bl p.val).length:=by
  rw[A7];unfold I4;split
  ·rename_i c;rw[a.gone c]
  ·omega
 rw[b];exact yO _ _
theorem Qm {p:Pr}(a:Lr p):1<=(I5 p).length/\(I5 p).length<=p.key.size+p.val.size+20:=by have b:=a.bL;have c:=a.cG;have d:=AV (n:=(bl p.key).length) (by rw[A7];omega);have e:=Zt a;have f:=AV (n:=I4 p) (by omega);have g:=a.key;have h:=A7 p.key;have i:=A7 p.val;simp only[I5,BG,A1];omega
end Go.Lf
namespace Go.Lf.G
open Go
theorem GZ:Ra P AR AQ BO.w 40=true:=by kernel_rfl
theorem ARb {e:ak}{a:aa}{b:Nat}{c:Rd}{d:A2H}(f:Iw a b c)(g:d (J3 c.bad) a):AA e P LA #[Ak b] a d:=by refine XN ?_;unfold QJ;refine af.no rfl (aE ?_);exact AZ.mk (AB f rfl) g
theorem Vz {A:ak}{h:aa}{s:A2I}{R:A2H}(b:s.size<=1099511627776)(c: ∀a,Ext h a->R (J7 (AX (BG (bl s)))) a):AA A P CP #[J7 s] h R:=by have:=Pk (A:=A) (h:=h) (l:=bl s) (R:=R) (by rw[A7];exact b) c;rwa [ED] at this
theorem zW {a:Nat}(b:a<=1099511627776):J8 .u64 ((J8 .u64 (a:Int))+(1:Int))=((a+1:Nat):Int):=by rw[CJ (by omega),show((a:Int)+1)=((a+1:Nat):Int) by omega,CJ (by omega)]
theorem sM {s:A2I}(a:s.size=0):s=⟨#[]⟩:=by have:=ED s;rw[<- this,show s.data.toList= [] from RD a];rfl
theorem Ap {a c:aa}{b:Nat}{d:Array J0}{T:Q7}(x:Ext a c)(e:a[b]? =some (J2 d T (0,0))):c[b]? =some (J2 d T (0,0)):=x.ag e (λa=>a)
theorem AOl {l:ak}{e:aa}{x:Pr}{f:A2H}(h:Lr x)(m: ∀o,Ext e o->f (J7 (AX (I5 x))) o):AA l P OO #[x.agg] e f:=by
 obtain⟨a,v,g⟩:=x;have r:=h.bL;have s:=h.cG;have p:=h.gone;dsimp only at r s p;show AA l P OO #[.agg #[J7 a,J7 v,J3 g]] e f;refine AEZ ?_;unfold YA;refine ao.mk λz _ b q A=>?_
 refine AZ.mk (AB b rfl) ?_;have B:=AV (n:=(bl a).length) (by rw[A7];omega);have C:=A7 a;have D:=A7 v;refine af.intro (λi=>?_) (λi=>?_)
 ·subst i;refine AJ.mk (AL b rfl) ?_;refine Vz (by omega) λt c=>⟨_,rfl,?_⟩
  refine Ca (n:=0) (by omega) λu d=>⟨_,rfl,?_⟩
  have w:=AV (n:=0) (by omega);refine⟨by rw[AP,AP,max_i64];simp only[BG,A1];omega,?_⟩;rw[Aq];have j:I5 ⟨a,v,true⟩=BG (bl a)++BX 0:=by unfold I5 I4;rw[RD (p rfl)];simp
  rw[<- j];exact m _ ((q.trans c).trans d)
 ·subst i;refine AJ.mk (AL b rfl) (AJ.mk (AB b rfl) (AJ.mk (AB b rfl) ?_));refine Vz (by omega) λt c=>⟨_,rfl,?_⟩
  have k:=Ap c b;refine⟨AB k rfl,AB k rfl,?_⟩;rw[zW (by omega)];refine Ca (by omega) λu d=>⟨_,rfl,?_⟩
  have y:=Ap d k;have w:=AV (n:=v.size+1) (by omega);refine⟨AB y rfl,by rw[AP,AP,max_i64];simp only[BG,A1];omega,?_,?_⟩
  ·rw[Aq,AP,max_i64];simp only[BG,A1];omega
  ·rw[Aq];have j:AX (BG (bl a)++BX (v.size+1))++v=AX (I5 ⟨a,v,false⟩):=by
    have:v=AX (bl v):=(ED v).symm
    conv=>lhs;arg 2;rw[this]
    rw[Aq];unfold I5 I4;simp[A4]
   rw[j];exact m _ ((q.trans c).trans d)
theorem zX {s:A2I}(a:s.size≠0):bU s (⟨#[]⟩:A2I)=false:=by rw[X7,decide_eq_false_iff_not];intro b;have:=A7 s;rw[b] at this;exact a this.symm
theorem zY {a:Nat}(b:a<=100000):(if((J8 J9 (((a:Nat):Int)-(1:Int))):Int)>0 then(J8 J9 (((a:Nat):Int)-(1:Int))) else 0)=((a-1:Nat):Int):=by rw[wrap_i64 (by omega) (by omega)];split<;>omega
theorem Zu {l:List Pr}(a: ∀x∈l,Lr x):l.length<=(BN l).length:=by
 induction l with
 |nil=>simp
 |cons x l b=>
  have:=(Qm (a x Cd)).1;have:=b λc d=>a c (AG _ d)
  simp only[BN,AH,A1,A6] at this ⊢;omega
theorem sN {ah:ak}{c:aa}{l:List Pr}{I:A2H}(J: ∀x∈l,Lr x)(aO:(BN l).length<1099511627776)
  (aj: ∀s z,Own BO AQ z s l->Ext c z->(∀ b,s.ag=some b->c.size<=b)->I (J1 #[J4 s.p s.len s.cap,J3 true]) z):AA ah P KL #[J7 (AX (BN l))] c I:=by
 refine ADV ?_;unfold Wj;refine KG λaP al am=>⟨_,rfl,?_⟩
 have aQ:=Zu J;refine Loop.rule (λm x f=> ∃(i:Nat) (s:Sl),x=(s,())/\m=l.length-i/\i<=l.length/\Iw f c.size ⟨BN (l.drop i),false⟩/\Ext c f/\Own BO AQ f s (l.take i)/\ ∀b,s.ag=some b->c.size<=b) ?_ ⟨0,⟨none,0,0⟩,rfl,rfl,by omega,al,am,Own.nil,λb a=>by simp[Sl.ag] at a⟩;rintro K m _ f ⟨i,s,rfl,rfl,aR,rd,t,p,A⟩ an;dsimp only;refine MZ rd ⟨_,rfl,?_⟩;by_cases g:i<l.length
 ·have L:l[i]? =some l[i]:=A2 g;have M:l[i]∈l:=AS g;have hd:l.drop i=l[i]::l.drop (i+1):=F2 g;have N:l.take (i+1)=l.take i++ [l[i]]:=by rw[Ax,L];rfl
  generalize l[i]=x at L M hd N;have h:=J x M;have O:BN (l.drop i)=I5 x++BN (l.drop (i+1)):=by rw[hd];rfl
  have Q:(I5 x++BN (l.drop (i+1))).length<1099511627776:=by
   have e:BN l=BN (l.take i)++BN (l.drop i):=by rw[<- Fo,DH]
   have:=congrArg List.length e;rw[O,A1] at this;omega
  have aS:=Qm h;rw[O] at rd ⊢;refine af.yes ?_ ?_
  ·unfold Su;have:(I5 x++BN (l.drop (i+1)))≠ []:=by intro e;have:=congrArg List.length e;simp only[A1,G4] at this;omega
   simp only[Kx,FF,CA,List.isEmpty_eq_false_iff];exact this
  ·refine Hl rd Q λd u B=>⟨_,rfl,?_⟩
   rw[xF h] at u ⊢;dsimp only at u ⊢;rw[ED];refine ao.mk λap _ aq R aT=>?_
   refine ae.mk aq (by simp) λaU ar S aV=>?_
   rw[Bq,Bq];refine ae.mk ar (by simp) λaW au T aX=>?_
   refine ae.mk au (by simp) λav aw U aY=>?_
   have aZ:c.size<d.size:=by have:=Ag u;exact this
   have j:c.size≠d.size:=by omega
   have ax:Iw av c.size ⟨BX (I4 x)++bl x.val++BN (l.drop (i+1)),false⟩:=U.ag (T.ag (S.ag (R.ag u (λc=>c)) j) j) j;have ay:(BX (I4 x)++bl x.val++BN (l.drop (i+1))).length<=1099511627776:=by simp only[I5,A1] at Q ⊢;omega
   refine DZ (most:=8193) ax ay (by decide) λC v V=>⟨_,rfl,?_⟩
   rw[xG h] at v ⊢;dsimp only at v ⊢;have W:C[d.size]? =some (J2 #[J7 x.key,J7 ⟨#[]⟩,J3 false] AQ (0,0)):=V.ag (by simpa using aw) (Ne.symm j);refine ai.mk λaz aA=>?_
   have a0:=Zt h;have key: ∀q,Iw q c.size ⟨bl x.val++BN (l.drop (i+1)),false⟩->q[d.size]? =some (J2 #[J7 x.key,J7 ⟨#[]⟩,J3 x.gone] AQ (0,0))->Mod (λb=>b=c.size\/b=d.size) d q->az () q:=by
    intro q aC aD aE;refine aA () q ?_;rw[zY (by omega)];refine sx aC λa1 D X=>⟨_,rfl,?_⟩
    rw[xH h] at D ⊢;dsimp only at D ⊢;rw[ED];have aF:=X.ag aD (Ne.symm j);refine ae.mk aF (by simp) λr k Y a2=>?_
    have F:Iw r c.size ⟨BN (l.drop (i+1)),false⟩:=Y.ag D j;have k:r[d.size]? =some (J2 #[J7 x.key,J7 x.val,J3 x.gone] AQ (0,0)):=by simpa using k
    refine ai.mk λa3 aG=>?_
    refine ARb F ⟨_,rfl,?_⟩;refine af.no rfl ?_;refine AJ.mk (AL k rfl) ?_;refine af.no (zX h.key) ?_;refine AJ.mk (AL k rfl) ?_;have a4:=h.bL;refine aG _ _ (af.no (by simp;omega) ?_);refine AJ.mk (AL k rfl) ?_;refine AJ.mk (AL k rfl) ?_;refine AZ.mk (AL k rfl) ?_;have w:Mod (λb=>b=c.size\/b=d.size) f r:=by
     have G:Mod (λb=>b=c.size\/b=d.size) f d:=B.aj λb _ a=> .inl a
     exact((G.trans aE).trans (X.aj λb _ a=> .inl a)).trans (Y.aj λb _ a=> .inr a)
    have Z: ∀b,s.ag=some b-> ¬(b=c.size\/b=d.size):=by
     intro b a;have a5:=p.lt a;have aH:=B.size;rintro(rfl|rfl)
     ·exact p.ne rd (by decide) a
     ·omega
    refine ao.bq (E:=BO) (x:=x) rfl GZ (p.mod w Z) ?_ ?_ λaI a6 ab H aJ a7=>?_
    ·rw[An];omega
    ·simp only[maxLen];rw[An];omega
    ·rw[<- N] at ab;have y:Ext c r:=by refine⟨by have:=t.size;have:=w.size;omega,λb a _=>?_⟩;have aH:=B.size;have:=t.size;exact(w.get b (by omega) (by omega)).trans (t.get b a (λc=>c))
     refine an (l.length-(i+1)) _ _ (by omega) ⟨i+1,aI,rfl,rfl,g,?_,?_,ab,?_⟩
     ·refine H.ag F λe=>?_
      have:Own BO AQ r s (l.take i):=p.mod w Z;exact this.ne F (by decide) e
     ·refine⟨by have:=y.size;have:=H.size;omega,λb a _=>?_⟩;have:=y.size;exact(H.get b (by omega) (λe=>by have:=A b e;omega)).trans (y.get b a (λc=>c))
     ·intro b a;rcases aJ b a with e|e
      ·exact A b e
      ·have:=y.size;omega
   have ac:Mod (λb=>b=c.size\/b=d.size) d C:=by have G:Mod (λb=>b=c.size\/b=d.size) d ap:=R.mod;exact(((G.trans (S.aj λb _ a=> .inr a)).trans (T.aj λb _ a=> .inr a)).trans (U.aj λb _ a=> .inr a)).trans (V.aj λb _ a=> .inl a)
   refine af.intro (λn=>?_) (λn=>?_)
   ·have o:x.gone=true:=by
     unfold I4 at n;split at n
     ·rename_i o;exact o
     ·simp at n;omega
    refine ae.mk W (by simp) λaK aL ag a8=>?_
    refine key aK (ag.ag v j) (by rw[o];simpa using aL) (ac.trans (ag.aj λb _ a=> .inr a))
   ·have o:x.gone=false:=by
     cases o:x.gone with
     |false=>rfl
     |true=>unfold I4 at n;rw[o] at n;simp at n
    exact key C v (by rw[o];exact W) ac
 ·have g:i=l.length:=by omega
  have aM:l.drop i= []:=by rw[g];simp
  have aN:l.take i=l:=by rw[g];simp
  rw[aM];rw[aN] at p;exact af.no rfl (aj s f p t A)
def BU(a:Nat)(l:List Pr):List UInt8:=BX a++BX l.length++BN l
theorem ME {l:List Pr}(b: ∀x∈l,Lr x):(BN l).length<=l.length*8276:=by
 induction l with
 |nil=>simp
 |cons x l c=>
  have a:=b x Cd;have f:=(Qm a).2;have g:=a.bL;have h:=a.cG;have:=c λd e=>b d (AG _ e)
  simp only[BN,AH,A1,A6] at this ⊢;omega
theorem ARl {l:List Pr}(a: ∀x∈l,Lr x)(i:Nat): ∀x∈l.take i,Lr x:=λx b=>a x (C2 b)
theorem APK {D:ak}{f:aa}{s:Sl}{l:List Pr}{c:Nat}{t:A2H}(X:c<=99999999)(Y:l.length<=64)(u: ∀x∈l,Lr x)(v:View BO f s l)(Z: ∀b,s.ag=some b->b<f.size)
  (E: ∀d,Ext f d->t (J7 (AX (BU c l))) d):AA D P UE #[J6 J9 (c:Int),J4 s.p s.len s.cap] f t:=by
 refine AG8 ?_;unfold vo;rw[CJ (by omega)];refine Ca (by omega) λab F=>⟨_,rfl,?_⟩
 rw[v.len,CJ (by omega)];refine Ca (by omega) λac G=>⟨_,rfl,?_⟩
 have ae:=AV (n:=c) (by omega);have ag:=AV (n:=l.length) (by omega);refine⟨by rw[AP,AP,max_i64];omega,?_⟩;rw[Aq];refine Loop.rule (λm x o=> ∃i:Nat,x=(AX (BX c++BX l.length++BN (l.take i)),(i:Int),())/\m=l.length-i/\i<=l.length/\Ext f o) ?_ ⟨0,by simp,rfl,by omega,F.trans G⟩;rintro K m _ o ⟨i,rfl,rfl,ah,p⟩ H;dsimp only;refine af.intro (λq=>?_) (λq=>?_)
 ·have e:i<l.length:=by simp at q;omega
  have r:l[i]? =some l[i]:=A2 e;have w:l.take (i+1)=l.take i++ [l[i]]:=by rw[Ax,r];rfl
  have h:=u _ (AS e);generalize l[i]=x at r w h;have aj:=h.bL;have al:=h.cG;have I:=h.gone;have lt:=ME (ARl u i);rw[An] at lt;have am:=AV (n:=(bl x.key).length) (by rw[A7];omega);have an:=A7 x.key;have ap:=A7 x.val;refine ai.mk λJ L=>?_
  obtain⟨a,M,N⟩:=(v.ext p).cells i x r;refine bJ.mk M e ?_;obtain⟨O,c1,c2⟩:=N.pair;rw[AF];refine AJ.mk O (AJ.mk c1 (AZ.mk c2 ?_));refine ao.pair λb aq ar y Q au=>?_
  refine AJ.mk (AL y rfl) ?_;refine Vz (by omega) λR z=>⟨_,rfl,⟨by rw[AP,AP,max_i64];simp only[BG,A1];omega,?_⟩⟩
  have j:=Ap z y;refine AZ.mk (AB j rfl) ?_;rw[Aq];have A: ∀d,Ext R d->J (AX (BX c++BX l.length++BN (l.take (i+1))),()) d:=by intro d S;refine L _ _ ?_;dsimp only;rw[Aa (by omega)];exact H (l.length-(i+1)) _ _ (by omega) ⟨i+1,rfl,rfl,e,((p.trans Q).trans z).trans S⟩
  have B:BN (l.take (i+1))=BN (l.take i)++I5 x:=by rw[w];simp[BN]
  refine af.intro (λk=>?_) (λk=>?_)
  ·refine Ca (n:=0) (by omega) λT U=>⟨_,rfl,?_⟩
   have V:=AV (n:=0) (by omega);refine⟨by rw[AP,AP,max_i64];simp only[BG,A1];omega,?_⟩;rw[Aq];have g:I5 x=BG (bl x.key)++BX 0:=by unfold I5 I4;rw[k,RD (I k)];simp
   have:=A T U;rw[B,g] at this;simpa only[A4] using this
  ·refine AJ.mk (AB j rfl) (AJ.mk (AB j rfl) ?_);rw[zW (by omega)];refine Ca (by omega) λW C=>⟨_,rfl,?_⟩
   have V:=AV (n:=x.val.size+1) (by omega);refine⟨AB (Ap C j) rfl,?_,?_,?_⟩
   ·rw[AP,max_i64];omega
   ·have av:x.val=AX (bl x.val):=(ED _).symm;rw[Hv,AP,AP,max_i64];simp only[BG,A1];omega
   ·have g:AX (BX (x.val.size+1))++x.val=AX (BX (I4 x)++bl x.val):=by
     conv=>lhs;arg 2;rw[(ED x.val).symm]
     rw[Aq];unfold I4;rw[k];rfl
    rw[g,Aq];have:=A W C;rw[B] at this;unfold I5 at this;simpa only[A4] using this
 ·have e:i=l.length:=by simp at q;omega
  have g:l.take i=l:=by rw[e];simp
  rw[g];exact E o p
theorem AKC {ai:ak}{c:aa}{l:List Pr}{o:Nat}{I:A2H}(aN:o<=99999999)(aO:l.length<=64)(J: ∀x∈l,Lr x)
  (aj: ∀s y,Own BO AQ y s l->Ext c y->(∀ b,s.ag=some b->c.size<=b)->I (J1 #[J6 J9 (o:Int),J4 s.p s.len s.cap,J3 true]) y):AA ai P Qa #[J7 (AX (BU o l))] c I:=by
 refine AEQ ?_;unfold XF;have aP:=AV (n:=o) (by omega);have aQ:=AV (n:=l.length) (by omega);have aR:=ME J;refine KG λaS L z=>⟨_,rfl,?_⟩
 have A:BU o l=BX o++(BX l.length++BN l):=by simp[BU,A4]
 rw[A] at L;refine DZ (most:=99999999) L (by simp only[A1];omega) (by decide) λd e g=>⟨_,rfl,?_⟩
 rw[Cr (by omega) (by omega)] at e ⊢;dsimp only at e ⊢;refine DZ (most:=64) e (by simp only[A1];omega) (by decide) λal B M=>⟨_,rfl,?_⟩
 rw[Cr (by omega) (by omega)] at B ⊢;dsimp only at B ⊢;have am:Ext c al:=by refine⟨by have:=z.size;have:=g.size;have:=M.size;omega,λb a _=>?_⟩;have:=z.size;have:=g.size;exact((M.get b (by omega) (by omega)).trans (g.get b (by omega) (by omega))).trans (z.get b a (λc=>c))
 refine Loop.rule (λm x h=> ∃(i:Nat) (s:Sl),x=(s,(i:Int),())/\m=l.length-i/\i<=l.length/\Iw h c.size ⟨BN (l.drop i),false⟩/\Ext c h/\Own BO AQ h s (l.take i)/\ ∀b,s.ag=some b->c.size<=b) ?_ ⟨0,⟨none,0,0⟩,rfl,rfl,by omega,B,am,Own.nil,λb a=>by simp[Sl.ag] at a⟩;rintro K m _ h ⟨i,s,rfl,rfl,aT,rd,t,p,C⟩ an;dsimp only;refine af.intro (λD=>?_) (λD=>?_)
 ·have j:i<l.length:=by simp at D;omega
  have N:l[i]? =some l[i]:=A2 j;have O:l[i]∈l:=AS j;have hd:l.drop i=l[i]::l.drop (i+1):=F2 j;have Q:l.take (i+1)=l.take i++ [l[i]]:=by rw[Ax,N];rfl
  generalize l[i]=x at N O hd Q;have u:=J x O;have R:BN (l.drop i)=I5 x++BN (l.drop (i+1)):=by rw[hd];rfl
  have S:(I5 x++BN (l.drop (i+1))).length<1099511627776:=by
   have f:BN l=BN (l.take i)++BN (l.drop i):=by rw[<- Fo,DH]
   have:=congrArg List.length f;rw[R,A1] at this;omega
  rw[R] at rd;refine Hl rd S λd e g=>⟨_,rfl,?_⟩
  rw[xF u] at e ⊢;dsimp only at e ⊢;rw[ED];refine ao.mk λap _ aq T aU=>?_
  refine ae.mk aq (by simp) λaV ar U aW=>?_
  rw[Bq,Bq];refine ae.mk ar (by simp) λaX au V aY=>?_
  refine ae.mk au (by simp) λav aw W aZ=>?_
  have a0:c.size<d.size:=by have:=Ag e;exact this
  have k:c.size≠d.size:=by omega
  have ax:Iw av c.size ⟨BX (I4 x)++bl x.val++BN (l.drop (i+1)),false⟩:=W.ag (V.ag (U.ag (T.ag e (λc=>c)) k) k) k;have ay:(BX (I4 x)++bl x.val++BN (l.drop (i+1))).length<=1099511627776:=by simp only[I5,A1] at S ⊢;omega
  refine DZ (most:=8193) ax ay (by decide) λaz F X=>⟨_,rfl,?_⟩
  rw[xG u] at F ⊢;dsimp only at F ⊢;have aA:az[d.size]? =some (J2 #[J7 x.key,J7 ⟨#[]⟩,J3 false] AQ (0,0)):=X.ag (by simpa using aw) (Ne.symm k);have a1:=Zt u;have aC:(((I4 x:Nat):Int)==(0:Int))=x.gone:=by
   unfold I4;cases x.gone
   ·simp;omega
   ·simp
  rw[aC];refine ae.mk aA (by simp) λaD aE Y a2=>?_
  rw[zY (by omega)];have aF:Iw aD c.size ⟨bl x.val++BN (l.drop (i+1)),false⟩:=Y.ag F k;refine sx aF λa3 G Z=>⟨_,rfl,?_⟩
  rw[xH u] at G ⊢;dsimp only at G ⊢;rw[ED];have aG:=Z.ag aE (Ne.symm k);refine ae.mk aG (by simp) λq r ab a4=>?_
  have ac:Iw q c.size ⟨BN (l.drop (i+1)),false⟩:=ab.ag G k;have r:q[d.size]? =some (J2 #[J7 x.key,J7 x.val,J3 x.gone] AQ (0,0)):=by simpa using r
  refine AJ.mk (AL r rfl) ?_;refine AJ.mk (AL r rfl) ?_;refine AZ.mk (AL r rfl) ?_;have v:Mod (λb=>b=c.size\/b=d.size) h q:=by
   have aH:Mod (λb=>b=c.size\/b=d.size) h d:=g.aj λb _ a=> .inl a
   have aI:Mod (λb=>b=c.size\/b=d.size) d ap:=T.mod;exact((((((((aH.trans aI).trans (U.aj λb _ a=> .inr a)).trans (V.aj λb _ a=> .inr a)).trans (W.aj λb _ a=> .inr a)).trans (X.aj λb _ a=> .inl a)).trans (Y.aj λb _ a=> .inr a)).trans (Z.aj λb _ a=> .inl a))).trans (ab.aj λb _ a=> .inr a)
  have ag: ∀b,s.ag=some b-> ¬(b=c.size\/b=d.size):=by
   intro b a;have a5:=p.lt a;have aJ:=g.size;rintro(rfl|rfl)
   ·exact p.ne rd (by decide) a
   ·omega
  refine ao.bq (E:=BO) (x:=x) rfl GZ (p.mod v ag) ?_ ?_ λaK a6 ah H aL a7=>?_
  ·rw[An];omega
  ·simp only[maxLen];rw[An];omega
  ·rw[<- Q] at ah;have w:Ext c q:=by refine⟨by have:=t.size;have:=v.size;omega,λb a _=>?_⟩;have aJ:=g.size;have:=t.size;exact(v.get b (by omega) (by omega)).trans (t.get b a (λc=>c))
   rw[Aa (by omega)];refine an (l.length-(i+1)) _ _ (by omega) ⟨i+1,aK,rfl,rfl,j,?_,?_,ah,?_⟩
   ·refine H.ag ac λf=>?_
    have:Own BO AQ q s (l.take i):=p.mod v ag;exact this.ne ac (by decide) f
   ·refine⟨by have:=w.size;have:=H.size;omega,λb a _=>?_⟩;have:=w.size;exact(H.get b (by omega) (λf=>by have:=C b f;omega)).trans (w.get b a (λc=>c))
   ·intro b a;rcases aL b a with f|f
    ·exact C b f
    ·have:=w.size;omega
 ·have j:i=l.length:=by simp at D;omega
  have A:l.drop i= []:=by rw[j];simp
  have aM:l.take i=l:=by rw[j];simp
  rw[A] at rd;rw[aM] at p;refine MZ rd ⟨_,rfl,?_⟩;exact aj s h p t C
end Go.Lf.G
namespace Go.Lf
open Go
def CU(l:List Pr)(i:Nat):List Pr:=(l.drop (8*i)).take 8
def CG(l:List Pr):Nat:=(l.length+7) / 8
def Kv(l:List Pr):List (List Pr):=(List.range (CG l)).map (CU l)
def JD(l:List Pr)(i:Nat):A2I:=match l[i]? with|some p=>p.key|none=>⟨#[]⟩
def Cb(l:List Pr):List A2I:=(List.range (CG l)).map λi=>JD l (8*i)
def WL(l:List Pr)(f:List UInt8):List UInt8:=BX (CG l)++((Cb l).flatMap λa=>BG (bl a))++(BX l.length++BG f)
def aT(l:List Pr)(f:List UInt8):List (List UInt8):=(Kv l).map BN++ [WL l f]
theorem RG {l:List Pr}{i:Nat}(a:i<CG l):1<=(CU l i).length/\(CU l i).length<=8/\(i+1<CG l->(CU l i).length=8):=by
 unfold CU CG at*
 rw[An,CI];omega
theorem Qk {l:List Pr}{i j:Nat}(a:j<8):(CU l i)[j]? =l[8*i+j]? :=by unfold CU;rw[Fm,if_pos a,C5]
theorem xJ {l:List Pr}: ∀i,l.take (8*i)++CU l i=l.take (8*(i+1)):=λi=>by
 unfold CU;rw[show 8*(i+1)=8*i+8 by omega,List.take_add]
theorem xL(l:List Pr): ∀n,((List.range n).map (CU l)).flatten=l.take (8*n)
 |0=>by simp
 |n+1=>by rw[MD,By,MT,xL l n];simpa using xJ n
theorem AM6(l:List Pr):(Kv l).flatten=l:=by unfold Kv;rw[xL,AE];unfold CG;omega
theorem JK(l:List Pr):(Kv l).length=CG l:=by simp[Kv]
theorem IB(l:List Pr):(Cb l).length=CG l:=by simp[Cb]
theorem AIG {l:List Pr}(a:l≠ []):1<=CG l:=by have:=List.length_pos_iff.2 a;unfold CG;omega
structure ik (s:List UInt8) (l:List Pr) (f:List UInt8):Prop where
 bytes:s=aL (aT l f)
 ne:l≠ []
 ok: ∀p∈l,Lr p
 inc:l.Pairwise λp q=>aR p.key q.key=true
 jM:1<=f.length/\f.length<=8192
 has: ∀p∈l,ij f p.key=true
 many:l.length<=100000
theorem Zu {l:List Pr}(a: ∀p∈l,Lr p):(BN l).length<=l.length*8276:=by
 induction l with
 |nil=>simp
 |cons p l b=>
  have f:=(Qm (a p (by simp))).2;have c:=b λd e=>a d (AG _ e)
  have g:=(a p (by simp)).bL;have h:=(a p (by simp)).cG;simp only[BN,AH,A1,A6] at c ⊢;omega
theorem QI {l:List Pr}{i:Nat}{p:Pr}(a:p∈CU l i):p∈l:=Hc (C2 a)
theorem Yc {s:List UInt8}{l:List Pr}{f:List UInt8}(T:ik s l f):(WL l f).length<=1048576:=by
 have r:=T.many;have t:=T.jM.2;have u:=AV (n:=CG l) (by unfold CG;omega);have v:=AV (n:=l.length) (by omega);have w:=AV (n:=f.length) (by omega);have c: ∀a∈Cb l,a.size<=64:=λa c=>by
  obtain⟨i,_,rfl⟩:=List.mem_map.1 c;unfold JD;split
  ·rename_i p e;exact(T.ok p (AM e)).bL
  ·exact A5 _
 have g: ∀b:List A2I,(∀ a∈b,a.size<=64)->(b.flatMap λa=>BG (bl a)).length<=b.length*65:=by
  intro b
  induction b with
  |nil=>intro _;simp
  |cons a b h=>
   intro d;have j:=h λx k=>d x (AG _ k)
   have y:=d a (by simp);have m:(BX a.size).length=1:=by rw[Ff (by omega)];rfl
   have o:(BG (bl a)).length=1+a.size:=by simp only[BG,A1,A7,m]
   simp only[AH,A1,A6,o] at j ⊢;omega
 have q:=g (Cb l) c;rw[IB] at q;have z:CG l<=12501:=by unfold CG;omega
 have A:(BG f).length=(BX f.length).length+f.length:=by simp[BG]
 simp only[WL,A1];omega
theorem OC {s:List UInt8}{l:List Pr}{f:List UInt8}(T:ik s l f): ∀c∈aT l f,c.length<=1048576:=λc a=>by
 rcases List.mem_append.1 a with a|a
 ·obtain⟨b,d,rfl⟩:=List.mem_map.1 a;obtain⟨i,e,rfl⟩:=List.mem_map.1 d;have j:=Zu (l:=CU l i) λp g=>T.ok p (QI g)
  have h:=(RG (List.mem_range.1 e)).2.1;have:(CU l i).length*8276<=8*8276:=AK _ h;omega
 ·rw[List.mem_singleton.1 a];exact Yc T
def xM(s:Sl):J0:=J4 s.p s.len s.cap
def rO(x:Sl):j6 [.one .sl]:=(x,())
def y6(j:ak)(P:Q1)(fv:J0)(m:Nat->Prop)(n:aa)(l:List Sl):Prop:=
 ∃f e,fv= .func (.func f) #[] e/\(∀ a,(callFunc f (#[]++ #[a]++e)).calc P=some (.enter f (#[]++ #[a]++e)))/\
  ∀(k:aa) (a:J0) (c:Nat->Bool->aa->Prop),NW a=true->(∀ i g d,c i g d-> ∀b,m b->d[b]? =n[b]?)->
   (∀ i x d,l[i]? =some x->c i true d->F4 j P a #[xM x] d λv h=> ∃g,v=J3 g/\c (i+1) g h)->c 0 true k->
   AA j P f (#[]++ #[a]++e) k λv h=>v=J1 #[]/\ ∃i g,c i g h/\(g=true->i=l.length)/\i<=l.length
theorem ATK {o:ak}{P:Q1}{fv:J0}{p:Nat->Prop}{q c:aa}{l:List Sl}(z:y6 o P fv p q l)
  (Inv:Nat->aa->Prop) {body:j6 [.one .sl]->Nat->aa->(aa->Prop)->(Option Nat->aa->Prop)->Prop} {r:aa->Prop} {A:Option Nat->aa->Prop}
  (B: ∀i a,Inv i a-> ∀b,p b->a[b]? =q[b]?)
  (s: ∀i a C,Inv i a->a[c.size]? =some (.deferred (some []))->(∃ D,a[c.size+1]? =some (.loop D))->Inv i (a.setIfInBounds (c.size+1) (.loop C)))
  (E: ∀rec,Inv 0 ((c.push (.deferred (some []))).push (.loop rec)))
  (round: ∀i x a rec t F,l[i]? =some x->Inv i a->a[c.size]? =some (.deferred (some []))->a[c.size+1]? =some (.loop rec)->rec.state= .ready->
   (∀ d,Inv (i+1) d->d[c.size]? =some (.deferred (some []))->d[c.size+1]? =some (.loop {rec with state:= .busy})->t d)->body (rO x) (c.size+1) a t F)
  (G: ∀d,Inv l.length d->d[c.size]? =some (.deferred (some []))->r d):Xe o P fv [.one .sl] body c r A:=by
 intro rec h k S H;obtain⟨f,u,rfl,I,J⟩:=z;refine⟨f,_,?_,AA.mono (J ((c.push (.deferred (some []))).push (.loop rec)) (.func (.yield (c.size+1)) #[] #[])
  (λi g a=>Inv i a/\g=true/\a[c.size]? =some (.deferred (some []))/\a[c.size+1]? =some (.loop rec)) rfl (λi g a K=>B i a K.1) ?_ ?_) ?_⟩
 ·have L:(do let w <-Deferred.ofValue (.func (.func f) #[] u) #[.func (.yield (c.size+1)) #[] #[]];invoke w.target w.args:Sem Next).calc P=(callFunc f (#[]++ #[.func (.yield (c.size+1)) #[] #[]]++u)).calc P:=rfl;unfold TL;rw[L,I]
 ·rintro i x a M ⟨m,_,j,e⟩;refine H (rO x) a _ e (round i x a rec _ _ M m j e h ?_);intro d N y n;have O:c.size+1<d.size:=Ag n;refine⟨_,n,true,rfl,s _ _ _ N y ⟨_,n⟩,rfl,?_,?_⟩
  ·rw[DM (by omega)];exact y
  ·rw[Ci O];cases rec;simp at h k;simp[h,k]
 ·refine⟨E rec,rfl,?_,?_⟩
  ·rw[P3 (by simp)];simp
  ·have Q:c.size+1=(c.push (.deferred (some []))).size:=by simp
   rw[Q];exact P4
 ·rintro v T ⟨_,i,g,⟨m,rfl,j,e⟩,R,U⟩;refine⟨rec,e,by simp[h],.inl ⟨k,G _ ?_ ?_⟩⟩
  ·have:=R rfl;subst this;exact s _ _ _ m j ⟨_,e⟩
  ·rw[DM (by omega)];exact j
end Go.Lf
namespace Go.Lf.G
open Go
def U8(a:aa)(c:Nat):Prop:= ∃b d,a[c]? =some (J2 b EE d)
def gg(a:Nat)(c:aa)(b:Nat)(l:List UInt8):Prop:= ∀(d:ak) (e:Nat),Lib.IsBuilderF Ei EE a b (Lib.byteCells l) (d.at c e)
theorem zZ {A:ak}{n a b:Nat}{c:aa}{l:List UInt8}(d:Lib.IsBuilderF Ei EE a b (Lib.byteCells l) (A.at c n)):gg a c b l:=λ_ _=>d
theorem WR {g:ak}{a:aa}{j e b:Nat}{d:World}(hB:e<=a.size)(n:RowKit.Below e (g.at a j) d)(o:Lib.OthersKept EE (some b) (g.at a j) d):
  d=g.at d.heap d.drawn/\Mod (λc=>c=b\/(e<=c/\U8 a c)) a d.heap:=by
 obtain⟨f,k,l,p,q⟩:=n;refine⟨?_,⟨p,λc r m=>?_⟩⟩
 ·cases d;simp only[ak.at] at f k l ⊢;subst f k l;rfl
 ·by_cases s:c<e
  ·exact q c s
  ·have h:a[c]? =some a[c]:=Ft r;have f:=o c a[c] h (by intro i;exact m (.inl (Bm i))) (λt u i=>m (.inr ⟨by omega,t,u,by rw[h,i]⟩));rw[f];exact h.symm
theorem gg.mod {a b:Nat}{e f:aa}{l:List UInt8}{h:Nat->Prop}(t:gg a e b l)(m:Mod h e f)(u: ¬h b)(w: ∀c,a<=c->U8 e c-> ¬h c):gg a f b l:=by
 intro i j;have n: ∀p,Lib.BuilderAtF Ei EE a b p (Lib.byteCells l) (i.at e j)->Lib.BuilderAtF Ei EE a b p (Lib.byteCells l) (i.at f j):=by
  rintro p ⟨d,v,x,⟨y,k⟩,z⟩;refine⟨d,v,m.ag x u,⟨y,?_⟩,z⟩;rcases k with k|⟨g,A,o,q,B,r,s,rest⟩
  ·exact .inl k
  ·exact .inr ⟨g,A,o,q,B,r,m.ag s (w g r ⟨o,q,s⟩),rest⟩
 rcases t i j with d|d
 ·exact .inl (n _ d)
 ·exact .inr (n _ d)
theorem gg.ext {c b:Nat}{a d:aa}{l:List UInt8}(e:gg c a b l)(m:Ext a d):gg c d b l:=e.mod m (λa=>a) (λ_ _ _ a=>a)
theorem AQZ {a b:Nat}{c:aa}(d:c[b]? =some (J2 #[J5 none,J4 none 0 0] Ei (0,0)))(hB:a<=b):gg a c b []:=by intro e f;exact .inl ⟨hB,_,d,⟨rfl,.inl ⟨rfl,rfl⟩⟩,by simp[Value.ownBlock]⟩
theorem VL {A:ak}{a:aa}{d b:Nat}{l:List UInt8}{s:A2I}{g:A2H}(j:gg d a b l)(hB:d<=a.size)(q:l.length+s.size<=1099511627776)
  (k: ∀e,gg d e b (l++bl s)->Mod (λc=>c=b\/(d<=c/\U8 a c)) a e->g (J1 #[J6 J9 s.size,.nilIface]) e):AA A P Dr #[Ak b,J7 s] a g:=by
 intro n;refine Calls.mono (Proofs.Any.Builder_WriteString_k Proofs.Tryz.iR Proofs.Tryz.ey d b (Lib.byteCells l) s (A.at a n) (j A n) (by rw[Lib.byteCells_length];omega) hB) ?_;rintro r f ⟨rfl,h,o,p⟩;obtain⟨i,m⟩:=WR hB o p;refine⟨_,rfl,f.heap,f.drawn,i,k _ ?_ m⟩;rw[Lib.strCells_eq,<-Lib.byteCells_append,i] at h;exact zZ (A:=A) (n:=f.drawn) (.inr h)
theorem AJt {A:ak}{a:aa}{d b:Nat}{l:List UInt8}{g:A2H}(j:gg d a b l)(hB:d<=a.size)
  (k: ∀e,gg d e b l->Mod (λc=>c=b\/(d<=c/\U8 a c)) a e->g (J7 (AX l)) e):AA A P Gm #[Ak b] a g:=by
 intro n;refine Calls.mono (Proofs.Any.Builder_String_any_k Proofs.Tryz.iS Proofs.Tryz.ey d b l (A.at a n) (j A n) hB) ?_;rintro q f ⟨rfl,h,o,p⟩;obtain⟨i,m⟩:=WR hB o p;refine⟨_,rfl,f.heap,f.drawn,i,k _ ?_ m⟩;rw[i] at h;exact zZ (A:=A) (n:=f.drawn) h
def QQ(s:Sl)(i:Nat):Sl:=⟨BI s.p (min (8*i+8) s.len) (8*i) 3,min (8*i+8) s.len-8*i,min (8*i+8) s.len-8*i⟩
def chunks(s:Sl):List Sl:=(List.range ((s.len+7) / 8)).map (QQ s)
theorem Rz(s:Sl):(chunks s).length=(s.len+7) / 8:=by simp[chunks]
theorem ACq {s:Sl}{i:Nat}(a:i<(s.len+7) / 8):(chunks s)[i]? =some (QQ s i):=by simp[chunks,a]
theorem View.chunk {d:aa}{s:Sl}{l:List Pr}(v:View BO d s l){i:Nat}(e:i<CG l):View BO d (QQ s i) (CU l i):=by
 have f:=v.len;unfold CG at e;refine⟨?_,A0 _,λb x c=>?_⟩
 ·show min (8*i+8) s.len-8*i=(CU l i).length;unfold CU;rw[An,CI,f];omega
 ·have g:b<8:=by have:=(List.getElem?_eq_some_iff.1 c).1;unfold CU at this;rw[An] at this;omega
  rw[Qk g] at c;obtain⟨a,h,j⟩:=v.cells _ _ c;have m:=(List.getElem?_eq_some_iff.1 c).1;refine⟨a.add (8*i*3),?_,?_⟩
  ·unfold QQ BI;simp only[h];rw[if_neg (by omega)];rfl
  ·rw[add_add];have k:8*i*3+b*BO.w=(8*i+b)*BO.w:=by show 8*i*3+b*3=(8*i+b)*3;omega
   rw[k];exact j
theorem ANn {a i:Nat}(b:a<=1099511627776)(c:8*i<a):J8 J9 (((8*i:Nat):Int)+(if((((a-((8*i:Nat):Int).toNat):Nat):Int):Int)<(8:Int) then(((a-((8*i:Nat):Int).toNat):Nat):Int) else(8:Int)))=((min (8*i+8) a:Nat):Int):=by
 rw[AF];split
 ·rw[wrap_i64 (by omega) (by omega)];omega
 ·rw[wrap_i64 (by omega) (by omega)];omega
abbrev APn:Q8:=DX
theorem APJ {n:ak}{a:aa}{s:Sl}{o:A2H}(p:s.len<=s.cap)(w:s.len<=1099511627776)
  (y: ∀fv b,Ext a b->b.size=a.size+2->b[a.size]? =some (J2 #[J4 s.p s.len s.cap] AR (0,0))->b[a.size+1]? =some (J2 #[J6 J9 8] Bp (0,0))->
   y6 n P fv (λc=>c=a.size\/c=a.size+1) b (chunks s)->o fv b):AA n P Dg #[J4 s.p s.len s.cap,J6 J9 8] a o:=by
 refine Jc ?_;unfold FZ;refine ao.mk λJ _ z A B=>?_
 refine ao.mk λC _ d q L=>?_
 refine ai.mk λK h=>?_
 refine AC.mk (AL d rfl) ?_;refine af.no rfl (h _ _ ?_);have r:=Ap q z;rw[B] at d ⊢;refine y _ C (A.trans q) (by omega) r d ⟨APn,#[Ak a.size,Ak (a.size+1)],rfl,λD=>by kernel_rfl,?_⟩;intro M D E N j F G;refine Ip ?_;unfold FJ;refine Loop.rule (λm x e=> ∃i:Nat,x=(((8*i:Nat):Int),())/\m=(s.len+7) / 8-i/\i<=(s.len+7) / 8/\E i true e) ?_ ⟨0,rfl,rfl,by omega,G⟩;rintro K m _ e ⟨i,rfl,rfl,O,f⟩ h;have hA:e[a.size]? =some (J2 #[J4 s.p s.len s.cap] AR (0,0)):=(j _ _ _ f _ (.inl rfl)).trans r;have hB:e[a.size+1]? =some (J2 #[J6 J9 8] Bp (0,0)):=(j _ _ _ f _ (.inr rfl)).trans d;refine aE (Ad.mk (AL hA rfl) ?_);dsimp only;refine af.intro (λk=>?_) (λk=>?_)
 ·have t:8*i<s.len:=by simp at k;omega
  refine aE (AC.mk (AL hB rfl) ?_);refine aE (Ad.mk (AL hA rfl) ⟨by omega,?_⟩);refine aE (Ad.mk (AL hA rfl) ?_);rw[ANn w t,AF,AF];refine⟨by omega,by omega,by omega,?_⟩;have p:=ACq (s:=s) (i:=i) (by omega);have u:=F i _ e p f;simp only[xM,QQ] at u;refine F4.mono u ?_;rintro v b ⟨g,rfl,l⟩;refine⟨g,rfl,?_⟩;cases g with
  |false=>exact af.yes rfl ⟨rfl,i+1,false,l,(λa=>by cases a),by rw[Rz];omega⟩
  |true=>
   refine af.no rfl (aE ?_);have H:b[a.size+1]? =some (J2 #[J6 J9 8] Bp (0,0)):=(j _ _ _ l _ (.inr rfl)).trans d;refine AC.mk (AL H rfl) ?_;have I:J8 J9 (((8*i:Nat):Int)+(8:Int))=((8*(i+1):Nat):Int):=by rw[wrap_i64 (by omega) (by omega)];omega
   rw[I];exact h ((s.len+7) / 8-(i+1)) _ _ (by omega) ⟨i+1,rfl,rfl,by omega,l⟩
 ·have t:s.len<=8*i:=by simp at k;omega
  have:i=(s.len+7) / 8:=by omega
  exact⟨rfl,i,true,f,λ_=>by rw[Rz];exact this,by rw[Rz];omega⟩
theorem sP:Ra P CX BD IR.w 16=true:=by kernel_rfl
structure BS (h1:aa) (B:Nat) (E:Nat->Obj->Prop) (out:List UInt8) (kl:List A2I) (ix:List UInt8) (n:Nat) (hh:aa):Prop where
 gT:gg B hh B out
 keys: ∃ks:Sl,hh[B+1]? =some (J2 #[J4 ks.p ks.len ks.cap] CX (0,0))/\Own IR BD hh ks kl/\ ∀c,ks.ag=some c->B+3<c
 ix:hh[B+2]? =some (J2 #[J7 (AX ix)] BD (0,0))
 cw:hh[B+3]? =some (J2 #[J6 J9 (n:Int)] Bp (0,0))
 fix: ∀c o,E c o->hh[c]? =some o
 eZ:Mod (λc=>B<=c) h1 hh
structure kP (B:Nat) (E:Nat->Obj->Prop):Prop where
 u8: ∀c o,E c o-> ∀cs fz,o≠ J2 cs EE fz
 str: ∀c o,E c o-> ∀cs fz,o≠ J2 cs BD fz
 lt: ∀c o,E c o->B+3<c
theorem nv {d:aa}{c:Nat}{e:Obj}(g:d[c]? =some e)(h: ∀a b,e≠ J2 a EE b): ¬U8 d c:=by rintro⟨a,b,f⟩;rw[g] at f;exact h a b (Bm f)
theorem Mx {e:Array J0}{T b:Q7}{fr:Nat×Nat}(f:T≠b): ∀c d,(Obj.cells e T fr)≠ J2 c b d:=λc d a=>by injection a with _ a _;exact f a
theorem ALW {a:aa}{b:Sl}{d:List A2I}(e:Own IR BD a b d){c:Nat}(f:U8 a c):b.ag≠some c:=by obtain⟨h,i,g⟩:=f;exact e.ne g (by decide)
theorem BS.ext {a d e:aa}{f:Nat}{g:Nat->Obj->Prop}{out:List UInt8}{h:List A2I}{i:List UInt8}{j:Nat}(b:BS a f g out h i j d)(x:Ext d e):BS a f g out h i j e:=by obtain⟨k,l,m,n⟩:=b.keys;exact⟨b.gT.ext x,⟨k,Ap x l,m.ext x,n⟩,Ap x b.ix,Ap x b.cw,λc o p=>x.ag (b.fix c o p) (λq=>q),b.eZ.trans x.mod⟩
theorem BS.write {j g h:aa}{e:Nat}{i:Nat->Obj->Prop}{out k:List UInt8}{l:List A2I}{n:List UInt8}{o:Nat}(ok:kP e i)(b:BS j e i out l n o g)(r:gg e h e k)
  (m:Mod (λc=>c=e\/(e<=c/\U8 g c)) g h):BS j e i k l n o h:=by
 obtain⟨s,t,p,q⟩:=b.keys;have aw: ∀ {c:Nat} {f:Obj},g[c]? =some f->c≠e->(∀ u v,f≠ J2 u EE v)->h[c]? =some f:=λa w x=>m.ag a (λd=>d.elim w (λd=>nv a x d.2))
 refine⟨r,⟨s,aw t (by omega) (Mx (by decide)),p.mod m (λc a d=>?_),q⟩,aw b.ix (by omega) (Mx (by decide)),aw b.cw (by omega) (Mx (by decide)),λc f a=>aw (b.fix c f a) (by have:=ok.lt c f a;omega) (ok.u8 c f a),b.eZ.trans (m.aj λc _ a=>by rcases a with d|d<;>omega)⟩;rcases d with d|d
 ·have:=q c a;omega
 ·exact ALW p d.2 a
theorem BS.key {l h i:aa}{d:Nat}{j:Nat->Obj->Prop}{out:List UInt8}{n p:List A2I}{q:List UInt8}{r:Nat}(ok:kP d j)(b:BS l d j out n q r h){f jN:Sl}(v:h[d+1]? =some (J2 #[J4 f.p f.len f.cap] CX (0,0)))
  (s:Own IR BD h f n) (k: ∀c,f.ag=some c->d+3<c) (m:Mod (λc=>f.ag=some c\/c=d+1) h i) (w:i[d+1]? =some (J2 #[J4 jN.p jN.len jN.cap] CX (0,0)))
  (x:Own IR BD i jN p) (y: ∀c,jN.ag=some c->d+3<c):BS l d j out p q r i:=by
 have hB: ∀c,f.ag=some c\/c=d+1->d+1<=c:=λc e=>by
  rcases e with a|a
  ·have:=k c a;omega
  ·omega
 refine⟨b.gT.mod m (λa=>by have:=hB _ a;omega) (λc e t a=>?_),⟨jN,w,x,y⟩,m.ag b.ix (λa=>?_),m.ag b.cw (λa=>?_),λc o e=>m.ag (b.fix c o e) (λa=>?_),b.eZ.trans (m.aj λc _ e=>by have:=hB _ e;omega)⟩
 ·rcases a with a|a
  ·exact ALW s t a
  ·subst a;exact nv v (Mx (by decide)) t
 ·rcases a with a|a
  ·have:=k _ a;omega
  ·omega
 ·rcases a with a|a
  ·have:=k _ a;omega
  ·omega
 ·rcases a with a|a
  ·rcases s.row with⟨rfl,_⟩|⟨g,z,A,u,_⟩
   ·simp[Sl.ag] at a
   ·simp[Sl.ag,A] at a;subst a;rw[b.fix _ o e] at u;exact ok.str _ o e z (0,0) (Bm u)
  ·have:=ok.lt c o e;omega
theorem BS.ixs {h i e:aa}{d:Nat}{f:Nat->Obj->Prop}{out:List UInt8}{j:List A2I}{o pR:List UInt8}{k:Nat}(ok:kP d f)(b:BS h d f out j o k i)(m:Mod (λc=>c=d+2) i e)(p:e[d+2]? =some (J2 #[J7 (AX pR)] BD (0,0))):BS h d f out j pR k e:=by
 obtain⟨q,r,s,l⟩:=b.keys;exact⟨b.gT.mod m (λg=>by omega) (λc a t g=>by subst g;exact nv b.ix (Mx (by decide)) t),⟨q,m.ag r (by omega),s.mod m (λc a g=>by have:=l c a;omega),l⟩,p,m.ag b.cw (by omega),
  λc n a=>m.ag (b.fix c n a) (by have:=ok.lt c n a;omega),b.eZ.trans (m.aj λc _ a=>by omega)⟩
theorem BS.pQ {h i e:aa}{d:Nat}{f:Nat->Obj->Prop}{out:List UInt8}{j:List A2I}{k:List UInt8}{o n':Nat}(ok:kP d f)(b:BS h d f out j k o i)(m:Mod (λc=>c=d+3) i e)(p:e[d+3]? =some (J2 #[J6 J9 (n':Int)] Bp (0,0))):BS h d f out j k n' e:=by
 obtain⟨q,r,s,l⟩:=b.keys;exact⟨b.gT.mod m (λg=>by omega) (λc a t g=>by subst g;exact nv b.cw (Mx (by decide)) t),⟨q,m.ag r (by omega),s.mod m (λc a g=>by have:=l c a;omega),l⟩,m.ag b.ix (by omega),p,
  λc n a=>m.ag (b.fix c n a) (by have:=ok.lt c n a;omega),b.eZ.trans (m.aj λc _ a=>by omega)⟩
theorem BS.lp {k h:aa}{i d:Nat}{j:Nat->Obj->Prop}{out:List UInt8}{l:List A2I}{n:List UInt8}{o:Nat}(b:BS k i j out l n o h)(hd:i+3<d)(s: ∀e,¬j d e){t:Go.Loop}(p:h[d]? =some (.loop t))(e:Go.Loop):BS k i j out l n o (h.setIfInBounds d (.loop e)):=by
 obtain⟨u,v,q,w⟩:=b.keys;have m:Mod (λc=>c=d) h (h.setIfInBounds d (.loop e)):=Mod.setObj rfl;refine⟨b.gT.mod m (λf=>by omega) (λc a x f=>by subst f;exact nv p (λ_ _ y=>by cases y) x),⟨u,m.ag v (by omega),q.mod m (λc a f=>?_),w⟩,m.ag b.ix (by omega),m.ag b.cw (by omega),
  λc e a=>m.ag (b.fix c e a) (λf=>by subst f;exact s _ a),b.eZ.trans (m.aj λc _ a=>by omega)⟩
 subst f;rcases q.row with⟨rfl,_⟩|⟨g,A,z,r,_⟩
 ·simp[Sl.ag] at a
 ·simp[Sl.ag,z] at a;subst a;rw[p] at r;cases r
def JE(l:List Pr):List A2I:=l.map (·.key)
def jx(l:List Pr):Nat:=min (l.length+8) 8192
def NJ(l:List Pr):List UInt8:=kL (JE l) (jx l)
def Js(l:List Pr):List UInt8:=aL (aT l (NJ l))
def G6(a:List A2I):List UInt8:=a.flatMap λb=>BG (bl b)
structure Hg (l:List Pr):Prop where
 ne:l≠ []
 ok: ∀p∈l,Lr p
 inc:l.Pairwise λp q=>aR p.key q.key=true
 many:l.length<=100000
theorem Hg.fx {l:List Pr}(T:Hg l):ik (Js l) l (NJ l):=by
 have a:1<=jx l/\jx l<=8192:=by unfold jx;omega
 refine⟨rfl,T.ne,T.ok,T.inc,?_,λp b=>APG a.1 a.2 (MA b),T.many⟩;unfold NJ;rw[APw a.1];exact a
theorem Vd: ∀ {rs:List (List UInt8)},(∀ r∈rs,r.length<=1048576)->(aL rs).length<=rs.length*1048590
 | [],_=>by simp
 |r::rs,a=>by
  have d:=(Ij (a r Cd)).2;have e:=a r Cd;have b:=Vd (rs:=rs) λx c=>a x (AG _ c)
  simp only[aL,AH,A1,A6] at b ⊢;omega
theorem RO: ∀ {ks:List A2I},(∀ k∈ks,k.size<=64)->(G6 ks).length<=ks.length*74
 | [],_=>by simp[G6]
 |k::ks,a=>by
  have d:=a k Cd;have e:=AV (n:=(bl k).length) (by rw[A7];omega);have b:=RO (ks:=ks) λx c=>a x (AG _ c)
  have f:=A7 k;simp only[G6,AH,A1,A6,BG] at b ⊢;omega
theorem Pi {l:List Pr}(b: ∀p∈l,Lr p): ∀a∈Cb l,a.size<=64:=λa c=>by
 obtain⟨i,_,rfl⟩:=List.mem_map.1 c;unfold JD;split
 ·rename_i p d;exact(b p (AM d)).bL
 ·exact A5 _
theorem RN {l:List Pr}(a: ∀p∈l,Lr p){i:Nat}(b:i<CG l):(BN (CU l i)).length<=8*8276:=by
 have e:=ME (l:=CU l i) λp c=>a p (QI c)
 have d:=(RG b).2.1;have:(CU l i).length*8276<=8*8276:=AK _ d;omega
theorem ACM {l:List Pr}(c: ∀p∈l,Lr p): ∀a∈(Kv l).map BN,a.length<=1048576:=λa d=>by
 obtain⟨b,e,rfl⟩:=List.mem_map.1 d;obtain⟨i,f,rfl⟩:=List.mem_map.1 e;have:=RN c (List.mem_range.1 f);omega
theorem AOv {l:List Pr}{i:Nat}(a:i<CG l):((Kv l).map BN)[i]? =some (BN (CU l i)):=by simp[Kv,a]
theorem R5 {l:List Pr}{i:Nat}(a:i<CG l):(Cb l)[i]? =some (JD l (8*i)):=by simp[Cb,a]
theorem Uf {a:Type}{l:List a}{i:Nat}{x:a}(b:l[i]? =some x):l.take (i+1)=l.take i++ [x]:=by rw[Ax,b];rfl
theorem AFP(a b:List Pr):JE (a++b)=JE a++JE b:=by simp[JE]
theorem AFR {l:List Pr}(b:l.Pairwise λp a=>aR p.key a.key=true){i:Nat}{p a:Pr}(c:l[i]? =some p)(d:l[i+1]? =some a):aR p.key a.key=true:=by obtain⟨e,rfl⟩:=List.getElem?_eq_some_iff.1 c;obtain⟨f,rfl⟩:=List.getElem?_eq_some_iff.1 d;exact List.pairwise_iff_getElem.1 b _ _ e f (by omega)
theorem AKw(a:Nat)(b:a<=100000):(if(8192:Int)<(J8 J9 (((a:Nat):Int)+(8:Int))) then(8192:Int) else(J8 J9 (((a:Nat):Int)+(8:Int))))=((min (a+8) 8192:Nat):Int):=by rw[wrap_i64 (by omega) (by omega)];split<;>omega
theorem AO6 {bw:ak}{e:aa}{s:Sl}{l:List Pr}{aX:A2H}(T:Hg l)(X:View BO e s l)(av: ∀b,s.ag=some b->b<e.size)
  (bx: ∀aY,Ext e aY->aX (J1 #[J7 (AX (Js l)),J6 J9 0]) aY):AA bw P QR #[J4 s.p s.len s.cap] e aX:=by
 refine ACc ?_;unfold Wu;have cQ:=List.length_pos_iff.2 T.ne;have cR:=T.many;refine af.no (by rw[X.len];simp;exact T.ne) ?_;refine Loop.rule (λm x t=> ∃i:Nat,x=(⟨#[]⟩,0,(i:Int),())/\m=l.length-i/\i<=l.length/\Ext e t) ?_ ⟨0,rfl,rfl,by omega,Mod.refl⟩;rintro K m _ g ⟨i,rfl,rfl,cS,M⟩ aZ;dsimp only;have aw:=X.ext M;refine af.intro (λw=>?_) (λw=>?_)
 ·have ax:i<l.length:=by rw[X.len] at w;simp at w;omega
  have y:l[i]? =some l[i]:=A2 ax;have z:=T.ok _ (AS ax);generalize l[i]=x at y z;have a0:=z.bL;have bz:=z.cG;refine aw.idx y λa bA f=>?_
  obtain⟨ay,c1,c2⟩:=f.pair;rw[AF];refine AJ.mk ay (AJ.mk c1 (AZ.mk c2 ?_));refine ao.pair λb Y bB B a1 cT=>?_
  refine ai.mk λaz bC=>?_
  refine AJ.mk (AL B rfl) (af.no (zX z.key) ?_);have last:az (false,()) Y:=by
   refine bC _ _ (af.no rfl ?_);refine ai.mk λcU bD=>?_
   refine AJ.mk (AL B rfl) (af.no (by simp;omega) ?_);refine AJ.mk (AB B rfl) ?_;refine bD _ _ (af.no (by simp;omega) ?_);rw[Aa (by omega)];exact aZ (l.length-(i+1)) _ _ (by omega) ⟨i+1,rfl,rfl,ax,M.trans a1⟩
  have a2:af (decide (((i:Nat):Int)>(0:Int))) (AJ Y (⟨b,0,none⟩:Q6) λa3=>
     bJ s.p s.len (J8 J9 (((i:Nat):Int)-(1:Int))) λa4=>
     AJ Y (a4.add ((J8 J9 (((i:Nat):Int)-(1:Int))).toNat*3)) λa5=>
     az ((aR a3 a5||bU a3 a5),()) Y) (az (false,()) Y):=by
   refine af.intro (λbE=>?_) (λ_=>last);have cV:0<i:=by simp at bE;omega
   obtain⟨k,rfl⟩: ∃k,i=k+1:=⟨i-1,by omega⟩;have aA:J8 J9 (((k+1:Nat):Int)-(1:Int))=(k:Int):=by rw[wrap_i64 (by omega) (by omega)];omega
   have N:l[k]? =some l[k]:=A2 (by omega);refine AJ.mk (AL B rfl) ?_;rw[aA];refine(aw.ext a1).idx N λa4 cW Z=>?_
   rw[AF];refine AJ.mk Z.pair.1 ?_;have aC:=AFR T.inc N y;have q:(aR x.key l[k].key||bU x.key l[k].key)=false:=by
    rw[Gk];refine⟨?_,?_⟩
    ·cases bF:aR x.key l[k].key with
     |false=>rfl
     |true=>have:=DY aC bF;rw[Cf] at this;cases this
    ·rw[CZ,decide_eq_false_iff_not];intro q;rw[q,Cf] at aC;cases aC
   rw[q];exact last
  refine AZ.mk (AB B rfl) (af.intro (λbG=>?_) (λ_=>a2));refine AJ.mk (AB B rfl) (af.no ?_ a2);rw[X7,RD (z.gone bG)];rfl
 ·clear aZ;have aD:=X.len;refine ao.mk λbH _ bI bK bL=>?_
  refine ao.mk λbM _ a6 a7 cX=>?_
  refine ao.mk λcY _ a8 aE cZ=>?_
  refine ae.mk a8 (by simp) λa9 ba am c0=>?_
  refine ao.mk λc3 _ bb an c4=>?_
  refine ae.mk bb (by simp) λbc bd ab c5=>?_
  have be:bH.size=g.size+1:=bL;have bf:bM.size=g.size+2:=by omega
  have bh:a9.size=g.size+3:=by omega
  have bN:bc.size=g.size+4:=by omega
  rw[be] at a6;rw[bf] at a8 am ba;rw[bh] at bb ab bd;rw[be,bf,bh];refine APJ X.cap (by omega) λfv G O bO aF Z bi=>⟨_,rfl,?_⟩
  rw[bN] at bO aF Z bi;generalize bP:g.size=o at*
  have bQ: ∃E:Nat->Obj->Prop,E=λc h=>(c=o+4/\h=J2 #[J4 s.p s.len s.cap] AR (0,0))\/(c=o+5/\h=J2 #[J6 J9 8] Bp (0,0)):=⟨_,rfl⟩
  obtain⟨E,ap⟩:=bQ;have bR:Ext g G:=by refine⟨by have:=O.size;omega,λc f _=>?_⟩;rw[bP] at f;exact(O.get c (by omega) (λe=>e)).trans ((ab.get c (by omega) (by omega)).trans ((an.get c (by omega) (λe=>e)).trans ((am.get c (by omega) (by omega)).trans ((aE.get c (by omega) (λe=>e)).trans ((a7.get c (by omega) (λe=>e)).trans (bK.get c (by omega) (λe=>e)))))))
  have bS:G[o]? =some (J2 #[J5 none,J4 none 0 0] Ei (0,0)):=
   O.ag (ab.ag (an.ag (am.ag (aE.ag (a7.ag bI (λe=>e)) (λe=>e)) (by omega)) (λe=>e)) (by omega)) (λe=>e)
  have bT:G[o+1]? =some (J2 #[J4 none 0 0] CX (0,0)):=
   O.ag (ab.ag (an.ag (am.ag (aE.ag a6 (λe=>e)) (by omega)) (λe=>e)) (by omega)) (λe=>e)
  have bV:G[o+2]? =some (J2 #[J7 (AX [])] BD (0,0)):=by
   have bW:a9[o+2]? =some (J2 #[J7 (AX [])] BD (0,0)):=by rw[yX];simpa using ba
   exact O.ag (ab.ag (an.ag bW (λe=>e)) (by omega)) (λe=>e)
  have bX:G[o+3]? =some (J2 #[J6 J9 ((0:Nat):Int)] Bp (0,0)):=by
   have bY:bc[o+3]? =some (J2 #[J6 J9 ((0:Nat):Int)] Bp (0,0)):=by simpa using bd
   exact O.ag bY (λe=>e)
  have bg:BS g o E [] [] [] 0 G:=by
   refine⟨AQZ bS (A0 _),⟨⟨none,0,0⟩,bT,Own.nil,λc f=>by simp[Sl.ag] at f⟩,bV,bX,λc h f=>?_,bR.mod⟩;subst ap;rcases f with⟨rfl,rfl⟩|⟨rfl,rfl⟩
   ·exact aF
   ·exact Z
  have Q:kP o E:=by
   subst ap;refine⟨λc h f C D=>?_,λc h f C D=>?_,λc h f=>?_⟩
   ·rcases f with⟨rfl,rfl⟩|⟨rfl,rfl⟩<;>exact Mx (by decide) _ _
   ·rcases f with⟨rfl,rfl⟩|⟨rfl,rfl⟩<;>exact Mx (by decide) _ _
   ·rcases f with⟨rfl,rfl⟩|⟨rfl,rfl⟩<;>omega
  have bj: ∀d h,o+6<=d-> ¬E d h:=by subst ap;rintro d h hd (⟨rfl,_⟩|⟨rfl,_⟩)<;>omega
  have bZ:(chunks s).length=CG l:=by rw[Rz,aD];rfl
  have c6:CG l<=12501:=by unfold CG;omega
  have aq:G.size=o+6:=by omega
  have b0: ∀b,s.ag=some b->b<o:=λb b1=>by have:=av b b1;have:=M.size;omega
  refine ATK bi (λi t=>BS g o E (aL (((Kv l).map BN).take i)) (JE (l.take (8*i))) (G6 ((Cb l).take i)) i t) ?_ ?_ ?_ ?_ ?_
  ·intro i t r c f;subst ap;rcases f with rfl|rfl
   ·exact(r.fix _ _ (.inl ⟨rfl,rfl⟩)).trans aF.symm
   ·exact(r.fix _ _ (.inr ⟨rfl,rfl⟩)).trans Z.symm
  ·rintro i t h r R ⟨c7,b2⟩;exact r.lp (by omega) (λh=>bj _ _ (by omega)) b2 h
  ·intro rec;exact bg.ext ((Mod.push G _).trans (Mod.push _ _))
  ·intro i x t rec c8 c9 y r R ar b3 b4;have S:i<CG l:=by have:=(List.getElem?_eq_some_iff.1 y).1;omega
   have b5:x=QQ s i:=by have:=ACq (s:=s) (i:=i) (by rw[aD];exact S);rw[this] at y;exact(Bm y).symm
   subst b5;rw[aq] at R ar ⊢;refine⟨rec,ar,b3,?_⟩;obtain⟨u,J⟩: ∃u:Nat->Obj->Prop,u=λc h=>E c h\/(c=o+6/\h= .deferred (some []))\/(c=o+6+1/\h= .loop {rec with state:= .busy}):=⟨_,rfl⟩
   have L:kP o u:=by
    subst J;refine⟨λc h f C D=>?_,λc h f C D=>?_,λc h f=>?_⟩
    ·rcases f with e|⟨rfl,rfl⟩|⟨rfl,rfl⟩
     ·exact Q.u8 c h e C D
     ·intro q;cases q
     ·intro q;cases q
    ·rcases f with e|⟨rfl,rfl⟩|⟨rfl,rfl⟩
     ·exact Q.str c h e C D
     ·intro q;cases q
     ·intro q;cases q
    ·rcases f with e|⟨rfl,rfl⟩|⟨rfl,rfl⟩
     ·exact Q.lt c h e
     ·omega
     ·omega
   have U:=r.lp (d:=o+6+1) (by omega) (λh=>bj _ _ (by omega)) ar {rec with state:= .busy};have aG:BS g o u (aL (((Kv l).map BN).take i)) (JE (l.take (8*i))) (G6 ((Cb l).take i)) i (t.setIfInBounds (o+6+1) (.loop {rec with state:= .busy})):=by
    refine⟨U.gT,U.keys,U.ix,U.cw,λc h f=>?_,U.eZ⟩;subst J;rcases f with e|⟨rfl,rfl⟩|⟨rfl,rfl⟩
    ·exact U.fix c h e
    ·rw[DM (by omega)];exact R
    ·exact Ci (Ag ar)
   generalize t.setIfInBounds (o+6+1) (.loop {rec with state:= .busy})=da at aG;have db:=RG S;have aH: ∀p∈CU l i,Lr p:=λp aI=>T.ok p (QI aI)
   have aJ: ∀ {t:aa} {out:List UInt8} {b6:List A2I} {b7:List UInt8} {n:Nat},BS g o u out b6 b7 n t->View BO t (QQ s i) (CU l i):=λb=>
    View.chunk (aw.mod b.eZ (λc f=>by have:=b0 c f;omega)) S
   have b8:(QQ s i).len=(CU l i).length:=(aJ aG).len;have aK:=Vd (rs:=((Kv l).map BN).take i) λb9 ca=>ACM T.ok b9 (C2 ca)
   have aM:=RO (ks:=(Cb l).take i) λk N=>Pi T.ok k (C2 N)
   rw[An] at aK aM;have dc:=RN T.ok S;refine Loop.rule (λm x t=> ∃j:Nat,x=(AX (BN ((CU l i).take j)),(j:Int),())/\m=(CU l i).length-j/\j<=(CU l i).length/\
    BS g o u (aL (((Kv l).map BN).take i)) (JE (l.take (8*i))++JE ((CU l i).take j)) (G6 ((Cb l).take i)) i t) ?_ ⟨0,rfl,rfl,by omega,by simpa [JE] using aG⟩
   rintro dd m _ de ⟨j,rfl,rfl,df,H⟩ cb;dsimp only[rO];refine af.intro (λw=>?_) (λw=>?_)
   ·have ac:j<(CU l i).length:=by have w:((j:Nat):Int)<(((QQ s i).len:Nat):Int):=of_decide_eq_true w;omega
    have y:(CU l i)[j]? =some (CU l i)[j]:=A2 ac;have z:=aH _ (AS ac);generalize (CU l i)[j]=p at y z;have bk:=Uf y;refine(aJ H).idx y λa bA f=>?_
    obtain⟨ay,c1,c2⟩:=f.pair;rw[AF];refine AJ.mk ay (AJ.mk c1 (AZ.mk c2 ?_));refine ao.pair λbm dg bB B cc dh=>?_
    have A:=H.ext cc;obtain⟨ks,ag,aj,al⟩:=A.keys;refine Ad.mk (s:=ks) (AL ag rfl) ?_;refine AJ.mk (AL B rfl) ?_;have di:o+3<bm:=by have:=Ag H.cw;omega
    have aN:(JE (l.take (8*i))++JE ((CU l i).take j)).length<=100010:=by rw[A1];simp only[JE,AW,An];omega
    refine ao.bq (E:=IR) (x:=p.key) rfl sP aj (by omega) (by simp only[maxLen];omega) λbn cd ce aO cf dj=>?_
    have cg:cd[o+1]? =some (J2 #[J4 ks.p ks.len ks.cap] CX (0,0)):=aO.ag ag (λe=>by have:=al _ e;omega);refine ae.mk cg (by simp) λbo ch aP dk=>?_
    have bp: ∀c,bn.ag=some c->o+3<c:=λc f=>by
     rcases cf c f with e|e
     ·exact al c e
     ·have:=Ag A.cw;omega
    have F:BS g o u _ (JE (l.take (8*i))++JE ((CU l i).take j)++ [p.key]) _ i bo:=
     A.key L (jN:=bn) ag aj al ((aO.aj λc _ f=> .inl f).trans (aP.aj λc _ f=> .inr f)) (by simpa using ch) (ce.mod aP (λc f e=>by have:=bp c f;omega)) bp
    have aQ:bo[bm]? =some (J2 #[J7 p.key,J7 p.val,J3 p.gone] AQ (0,0)):=aP.ag (aO.ag B (λe=>aj.ne B (by decide) e)) (by omega);refine AJ.mk (AL aQ rfl) (AJ.mk (AB aQ rfl) (AZ.mk (AB aQ rfl) ?_));refine AOl (x:=p) z λdl ci=>⟨_,rfl,?_⟩
    have cj:BN ((CU l i).take (j+1))=BN ((CU l i).take j)++I5 p:=by rw[bk];simp[BN]
    have lt:=ME (l:=(CU l i).take j) λck w=>aH ck (C2 w)
    rw[An] at lt;have lp:=(Qm z).2;have a0:=z.bL;have bz:=z.cG;refine⟨by rw[AP,AP,max_i64];omega,?_⟩;rw[Aq,<-cj,Aa (by omega)];refine cb ((CU l i).length-(j+1)) _ _ (by omega) ⟨j+1,rfl,rfl,ac,?_⟩;have I:=F.ext ci;have:JE ((CU l i).take (j+1))=JE ((CU l i).take j)++ [p.key]:=by rw[bk,AFP];rfl
    rw[this,<-A4];exact I
   ·have ac:j=(CU l i).length:=by have w: ¬((j:Nat):Int)<(((QQ s i).len:Nat):Int):=of_decide_eq_false w;omega
    have cl:(CU l i).take j=CU l i:=by rw[ac];simp
    rw[cl] at H ⊢;refine Yi (by omega) (λe=>by omega) λaS dm cm=>⟨_,_,rfl,?_⟩
    have A:=H.ext cm;have cn:=Ij aS;refine VL A.gT (by have:=Ag A.cw;omega) (by rw[AP];omega) λco cp cq=>⟨_,_,rfl,?_⟩
    have F:=A.write L cp cq;rw[EF] at F;refine AJ.mk (AL F.ix rfl) ?_;have aU:(CU l i)[0]? =some (CU l i)[0]:=A2 (by omega);have bq:JD l (8*i)=(CU l i)[0].key:=by have:=Qk (l:=l) (i:=i) (j:=0) (by omega);rw[aU] at this;unfold JD;rw[G0] at this;rw[<- this]
    have br:=aH _ (AS (show 0<(CU l i).length by omega));generalize (CU l i)[0]=V at aU bq br;obtain⟨cr,cs,bs⟩:=(aJ F).cells 0 V aU;refine bJ.mk (k:=0) cs (by rw[b8];omega) ?_;rw[HT,add_zero] at bs;refine AJ.mk (n:=V.key) (by show ah co (cr.add 0)=_;rw[add_zero];exact bs.pair.1) ?_;have a0:=br.bL;refine Vz (by omega) λdn ct=>⟨_,rfl,?_⟩
    have I:=F.ext ct;refine⟨AL I.ix rfl,?_⟩;have dp:=AV (n:=(bl V.key).length) (by rw[A7];omega);have dq:=A7 V.key;refine⟨by rw[AP,AP,max_i64];simp only[BG,A1];omega,?_⟩;rw[Aq];refine ae.mk I.ix (by simp) λdr cu cv ds=>?_
    have W:=I.ixs L (pR:=G6 ((Cb l).take i)++BG (bl V.key)) cv (by simpa using cu);refine AC.mk (AL W.cw rfl) ?_;rw[Aa (by omega)];refine ae.mk W.cw (by simp) λcw cx cy dt=>?_
    have v:=W.pQ L (n':=i+1) cy (by simpa using cx);have aA:aL (((Kv l).map BN).take (i+1))=aL (((Kv l).map BN).take i)++Cg (BN (CU l i)):=by rw[Uf (AOv S)];simp[aL]
    have cz:JE (l.take (8*(i+1)))=JE (l.take (8*i))++JE (CU l i):=by rw[<- AFP,xJ]
    have cB:G6 ((Cb l).take (i+1))=G6 ((Cb l).take i)++BG (bl V.key):=by rw[Uf (R5 S),bq];simp[G6]
    subst J;refine b4 cw ?_ ?_ ?_
    ·rw[aA,cz,cB];exact⟨v.gT,v.keys,v.ix,v.cw,λc h f=>v.fix c h (.inl f),v.eZ⟩
    ·rw[aq];exact v.fix _ _ (.inr (.inl ⟨rfl,rfl⟩))
    ·rw[aq];exact v.fix _ _ (.inr (.inr ⟨rfl,rfl⟩))
  ·intro cC r R;rw[bZ] at r;have ag:((Kv l).map BN).take (CG l)=(Kv l).map BN:=AE (by simp[JK]);have aj:l.take (8*CG l)=l:=AE (by unfold CG;omega);have al:(Cb l).take (CG l)=Cb l:=AE (by simp[IB]);rw[ag,aj,al] at r;rw[aq] at R ⊢;obtain⟨u,J⟩: ∃u:Nat->Obj->Prop,u=λc h=>E c h\/(c=o+6/\h= .deferred (some [])):=⟨_,rfl⟩
   have L:kP o u:=by
    subst J;refine⟨λc h f C D=>?_,λc h f C D=>?_,λc h f=>?_⟩
    ·rcases f with e|⟨rfl,rfl⟩
     ·exact Q.u8 c h e C D
     ·intro q;cases q
    ·rcases f with e|⟨rfl,rfl⟩
     ·exact Q.str c h e C D
     ·intro q;cases q
    ·rcases f with e|⟨rfl,rfl⟩
     ·exact Q.lt c h e
     ·omega
   have H:BS g o u (aL ((Kv l).map BN)) (JE l) (G6 (Cb l)) (CG l) cC:=by
    refine⟨r.gT,r.keys,r.ix,r.cw,λc h f=>?_,r.eZ⟩;subst J;rcases f with e|⟨rfl,rfl⟩
    ·exact r.fix c h e
    ·exact R
   obtain⟨ks,bt,aV,du⟩:=H.keys;refine Ad.mk (s:=ks) (AL bt rfl) (Ad.mk (s:=ks) (AL bt rfl) ?_);have aN:ks.len=l.length:=by rw[aV.len];simp[JE]
   have bu:1<=jx l/\jx l<=8192:=by unfold jx;omega
   have bv:=T.fx;have dv:=bv.jM;rw[aN,AKw _ T.many];rw[show((min (l.length+8) 8192:Nat):Int)=((jx l:Nat):Int) from rfl,<-aN];refine AQX (ks:=JE l) aV.view (λk N=>?_) bu.1 bu.2 (by simp[JE];omega) (λb av=>aV.lt av) λdw cD=>⟨_,_,rfl,?_⟩
   ·obtain⟨p,aI,rfl⟩:=List.mem_map.1 N;have:=(T.ok p aI).bL;omega
   have A:=H.ext cD;refine AC.mk (AL A.cw rfl) (AJ.mk (AL A.ix rfl) ?_);rw[CJ (by omega)];refine Ca (by omega) λdx cE=>⟨_,rfl,?_⟩
   have F:=A.ext cE;refine⟨AL F.ix rfl,?_⟩;have dy:=AV (n:=CG l) (by omega);have aM:=RO (ks:=Cb l) (Pi T.ok);rw[IB] at aM;refine⟨by rw[AP,AP,max_i64];omega,?_⟩;rw[aD,CJ (by omega)];refine Ca (by omega) λdz cF=>⟨_,rfl,?_⟩
   have I:=F.ext cF;have dA:=AV (n:=l.length) (by omega);refine⟨AL I.ix rfl,?_⟩;rw[Aq];refine⟨by rw[AP,AP,max_i64];simp only[A1];omega,?_⟩;refine Pk (l:=NJ l) (by omega) λdB cG=>⟨_,rfl,?_⟩
   have W:=I.ext cG;have dC:=AV (n:=(NJ l).length) (by omega);refine⟨AL W.ix rfl,?_⟩;rw[Aq,Aq];have dD:(BG (NJ l)).length=(BX (NJ l).length).length+(NJ l).length:=by simp[BG]
   refine⟨by rw[AP,AP,max_i64];simp only[A1];omega,?_⟩;have cH:BX (CG l)++G6 (Cb l)++BX l.length++BG (NJ l)=WL l (NJ l):=by unfold WL G6;simp only[A4]
   rw[cH];have dE:=Yc bv;refine Yi (by omega) (λe=>by omega) λaS dF cI=>⟨_,_,rfl,af.no rfl ?_⟩
   have v:=W.ext cI;have aK:=Vd (rs:=(Kv l).map BN) (ACM T.ok);rw[AW,JK] at aK;have cn:=Ij aS;refine VL v.gT (by have:=Ag v.cw;omega) (by rw[AP];omega) λdG cJ cK=>⟨_,_,rfl,?_⟩
   have au:=v.write L cJ cK;rw[EF] at au;refine AJt au.gT (by have:=Ag au.cw;omega) λcL cM cN=>⟨_,rfl,?_⟩
   have aW:=au.write L cM cN;have cO:aL ((Kv l).map BN)++Cg (WL l (NJ l))=Js l:=by unfold Js aT;simp[aL]
   have cP:cL[o+6]? =some (.deferred (some [])):=aW.fix _ _ (by subst J;exact .inr ⟨rfl,rfl⟩);refine⟨cP,?_⟩;rw[cO];refine bx _ ⟨?_,λc f _=>?_⟩
   ·have:=aW.eZ.size;have:=M.size;simp;omega
   ·have:=M.size;rw[DM (by omega)];exact(aW.eZ.get c (by omega) (by omega)).trans (M.get c f (λe=>e))
end Go.Lf.G
namespace Go.Proofs
open Go.Shelf
theorem bears {P : Program} {f : FuncId} {b : Func} (a : (P.funcs[f]?).map (λx => { x with name := "" }) = some { b with name := "" }) (d : ((P.funcs[f]?).all λx => !(x.name == "runtime.NumGoroutine")) = true) : Bears P f b := by
 cases c:P.funcs[f]? with
 |none=>rw[c] at a;cases a
 |some x=>
  rw[c] at a d;simp only[Option.map_some,Option.some.injEq] at a;refine⟨x.name,by simpa using d,c.trans (congrArg some ?_)⟩;cases x;cases b
  simp_all
def Tryz.cQ:Go.Shelf.Ren:=⟨λ|7=>76|10=>118|a=>a,λ|23=>102|26=>9|3=>165|28=>163|0=>0|27=>162|33=>71|4=>4|a=>a,λ|a=>a⟩
theorem Tryz.jg:Go.Proofs.SlLaysZ.n7 Tryz.prog Tryz.cQ:=by repeat' first|exact Lf.Da (by kernel_rfl)|kernel_rfl|exact bears (by kernel_rfl) (by kernel_rfl)|decide|constructor
def Tryz.dQ:Go.Shelf.Ren:=⟨λ|6=>75|8=>116|9=>117|11=>169|13=>171|12=>170|23=>216|24=>217|14=>207|15=>208|16=>209|17=>210|18=>211|19=>212|20=>213|21=>214|22=>215|25=>236|26=>237|27=>238|28=>239|29=>240|30=>241|31=>262|a=>a,λ|26=>9|28=>163|24=>66|0=>0|3=>3|37=>153|48=>150|50=>140|4=>4|40=>312|39=>311|45=>270|5=>5|9=>9|51=>330|55=>333|57=>356|58=>263|33=>71|a=>a,λ|a=>a⟩
theorem Tryz.iQ:Go.Proofs.SlLaysZ.n6 Tryz.prog Tryz.dQ:=by repeat' first|exact Lf.Da (by kernel_rfl)|kernel_rfl|exact bears (by kernel_rfl) (by kernel_rfl)|decide|constructor
def Tryz.gl:Go.Shelf.Ren:=⟨λ|6=>117|8=>171|9=>170|19=>216|20=>217|21=>207|22=>208|23=>209|24=>210|25=>211|26=>212|27=>213|28=>214|29=>215|36=>236|31=>237|32=>238|37=>239|38=>240|39=>241|41=>262|a=>a,λ|27=>66|29=>9|3=>3|32=>153|26=>66|0=>0|44=>150|46=>140|4=>4|36=>312|35=>311|41=>270|5=>5|9=>9|53=>330|57=>333|63=>356|64=>263|a=>a,λ|a=>a⟩
theorem Tryz.jh:Go.Proofs.SlLaysM.n6 Tryz.prog Tryz.gl:=by repeat' first|exact Lf.Da (by kernel_rfl)|kernel_rfl|exact bears (by kernel_rfl) (by kernel_rfl)|decide|constructor
def Tryz.gq:Go.Shelf.Ren:=⟨λ|5=>219|8=>171|7=>244|19=>216|20=>217|10=>265|11=>266|12=>267|13=>268|14=>269|15=>270|16=>271|17=>272|18=>273|30=>290|31=>237|32=>238|33=>291|34=>292|35=>293|40=>300|a=>a,λ|23=>86|25=>3|3=>3|32=>153|22=>86|0=>0|44=>150|46=>140|4=>4|36=>312|35=>311|41=>270|5=>5|9=>9|53=>330|57=>333|63=>356|64=>263|a=>a,λ|a=>a⟩
theorem Tryz.ji:Go.Proofs.SlLaysM.n5 Tryz.prog Tryz.gq:=by repeat' first|exact Lf.Da (by kernel_rfl)|kernel_rfl|exact bears (by kernel_rfl) (by kernel_rfl)|decide|constructor
end Go.Proofs
