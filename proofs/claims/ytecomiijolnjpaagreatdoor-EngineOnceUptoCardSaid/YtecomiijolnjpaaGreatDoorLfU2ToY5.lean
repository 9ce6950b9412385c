/-
 Plain law: a box of files (chapter 3).
-/
import Derived.Test.YtecomiijolnjpaaGreatDoorLfIToU29
import Derived.Test.YtecomiijolnjpaaGreatDoorLfG1
import Derived.Shelf.Strings.Repeat
import Derived.Shelf.Small.Wraps
import Derived.Shelf.Pu.ParseUintPublic10
import Derived.Shelf.Strconv.Itoa3
import Derived.Shelf.Strconv.AtoiAll
import Derived.Shelf.Strings.BuilderK
import Derived.Test.YtecomiijolnjpaaGreatDoorProg
import Derived.Lib.ItoaNum
import Derived.Lib.Repeat
import Derived.Lib.ParseIntB
import Derived.Test.YtecomiijolnjpaaGreatDoorRows
import Derived.Lib.ItoaLen
import Derived.Lib.AppendIntMem
import Derived.WalkKit
import Derived.ProofKit
import Derived.OpenShut
import Derived.JoinedCond
import Derived.Deep.Slices
import Derived.Carry
set_option maxRecDepth 100000
set_option linter.unusedVariables false
set_option linter.unusedSimpArgs false
open Go.IntKind renaming i64→J9,wrap→J8
open Go.Value renaming string→J7,int→J6,pointer→J5,slice→J4,bool→J3,tuple→J1
open Go.Obj renaming cells→J2
open Go renaming Value→J0,Addr→Q6,TypeId→Q7,FuncId→Q8,Program→Q1
open Go.Addr renaming add→Q9,mk→Q5
namespace Go.Lf
open Go
abbrev bo:A2P:=⟨#[]⟩
theorem lI:ByteArray.size ⟨#[]⟩=0:=rfl
structure Fi where
 name:A2P
 bU:A2P
 soft:A2P
deriving DecidableEq
def Ex(l:List Fi):Prop:=l.Pairwise λa b=>aQ a.name b.name=true
def CZ(a:A2P)(l:List Fi):Option Fi:=l.find? λf=>decide (f.name=a)
def Pw(a:A2P)(g:Fi->Fi)(l:List Fi):List Fi:=l.map λf=>if f.name=a then g f else f
def Pv(a:A2P)(l:List Fi):List Fi:=l.filter λf=> !decide (f.name=a)
def gE(x:Fi):List Fi->List Fi
 | []=> [x]
 |q::l=>if aQ q.name x.name then q::gE x l else x::q::l
def bd(l:List Fi):Nat:=(l.map λf=>f.bU.size+f.soft.size+1).sum
theorem GX(a:A2P)(x:Fi)(l:List Fi):CZ a (x::l)=if x.name=a then some x else CZ a l:=by unfold CZ;rw[DO];by_cases b:x.name=a<;>simp[b]
theorem KF {b:A2P}{l:List Fi}{x:Fi}(a:CZ b l=some x):x.name=b/\x∈l:=by unfold CZ at a;exact⟨by simpa using Ix a,ID a⟩
theorem Rt {b:A2P}{l:List Fi}(a:CZ b l=none): ∀x∈l,x.name≠b:=by unfold CZ at a;rw[HE] at a;simpa using a
theorem AIM {a:A2P}{l:List Fi}(b: ∀x∈l,x.name≠a):CZ a l=none:=by unfold CZ;rw[HE];simpa using b
theorem Ex.find {l:List Fi}(s:Ex l){x:Fi}(a:x∈l):CZ x.name l=some x:=by
 induction l with
 |nil=>cases a
 |cons d l c=>
  rw[GX];have b:=List.pairwise_cons.1 s;rcases List.mem_cons.1 a with rfl|a
  ·simp
  ·rw[if_neg (OU (b.1 x a))];exact c b.2 a
theorem N7(x:Fi): ∀l,(gE x l).Perm (x::l)
 | []=>IF _
 |q::l=>by
  unfold gE;split
  ·exact((N7 x l).cons q).trans (List.Perm.swap x q l)
  ·exact IF _
theorem UJ {x:Fi}: ∀ {l:List Fi},Ex l->(∀ b∈l,b.name≠x.name)->Ex (gE x l)
 | [],_,_=>Rr _ _
 |q::l,s,e=>by
  have c:=List.pairwise_cons.1 s;unfold gE;split
  ·rename_i d;refine List.pairwise_cons.2 ⟨λb a=>?_,UJ c.2 λb a=>e b (An _ a)⟩;rcases List.mem_cons.1 ((N7 x l).subset a) with rfl|a
   ·exact d
   ·exact c.1 b a
  ·rename_i d;have f:aQ x.name q.name=true:=by
    cases g:aQ x.name q.name
    ·exact absurd (Nk (by simpa using d) g) (e q AM)
    ·rfl
   refine List.pairwise_cons.2 ⟨λb a=>?_,s⟩;rcases List.mem_cons.1 a with rfl|a
   ·exact f
   ·exact DJ f (c.1 b a)
theorem AJj {a:A2P}{g:Fi->Fi}(b: ∀f,(g f).name=f.name)(l:List Fi):(Pw a g l).map (·.name)=l.map (·.name):=by
 unfold Pw;rw[B9];refine CT λf _=>?_
 simp only[Function.comp];split<;>simp[b]
theorem Tp {l:List Fi}:Ex l↔nC (l.map (·.name)):=by unfold Ex nC;rw[Nd]
theorem vF {k:A2P}{g:Fi->Fi}(a: ∀f,(g f).name=f.name){l:List Fi}(s:Ex l):Ex (Pw k g l):=by rw[Tp,AJj a];exact Tp.1 s
theorem AIp {a:A2P}{l:List Fi}(s:Ex l):Ex (Pv a l):=s.sublist Hc
theorem Zr {a c:A2P}{g:Fi->Fi}(b: ∀f,(g f).name=f.name): ∀l:List Fi,CZ c (Pw a g l)=(CZ c l).map λf=>if f.name=a then g f else f
 | []=>rfl
 |x::l=>by
  show CZ c ((if x.name=a then g x else x)::Pw a g l)=_;rw[GX,GX,Zr b l];have:(if x.name=a then g x else x).name=x.name:=by split<;>simp[b]
  rw[this];by_cases d:x.name=c<;>simp[d]
theorem Zl {k c:A2P}: ∀l:List Fi,CZ c (Pv k l)=if c=k then none else CZ c l
 | []=>by simp[Pv,CZ]
 |x::l=>by
  have b:=Zl (k:=k) (c:=c) l;unfold Pv at b ⊢;rw[AW,GX];by_cases d:x.name=k
  ·simp only[d,decide_true,LI,Cl,if_false];rw[b];by_cases a:c=k
   ·simp[a]
   ·simp[a,Ne.symm a]
  ·simp only[d,decide_false,P2,if_true];rw[GX,b];by_cases a:c=k
   ·subst a;simp[d]
   ·simp[a]
theorem vG {x:Fi}{c:A2P}: ∀ {l:List Fi},(∀ a∈l,a.name≠x.name)->CZ c (gE x l)=if x.name=c then some x else CZ c l
 | [],_=>by show CZ c [x]=_;rw[GX]
 |q::l,d=>by
  unfold gE;split
  ·rw[GX,vG λa e=>d a (An _ e),GX];by_cases b:q.name=c
   ·simp[b];intro f;exact absurd (b.trans f.symm) (d q AM)
   ·simp[b]
  ·rw[GX]
theorem Jm(x:Fi)(l:List Fi):bd (x::l)=x.bU.size+x.soft.size+1+bd l:=by simp[bd]
theorem ANn {l m:List Fi}(a:l.Perm m):bd l=bd m:=(a.map _).sum_nat
theorem vH(x:Fi)(l:List Fi):bd (gE x l)=x.bU.size+x.soft.size+1+bd l:=by rw[ANn (N7 x l),Jm]
theorem Uw: ∀l:List Fi,l.length<=bd l
 | []=>by simp[bd]
 |x::l=>by rw[Jm,A6];have:=Uw l;omega
theorem nF {x:Fi}: ∀ {l:List Fi},x∈l->x.bU.size+x.soft.size<=bd l
 | [],a=>by cases a
 |y::l,a=>by
  rw[Jm];rcases List.mem_cons.1 a with rfl|a
  ·omega
  ·have:=nF a;omega
theorem qB {k:A2P}: ∀l:List Fi,bd (Pv k l)<=bd l
 | []=>by simp[Pv,bd]
 |x::l=>by
  have:=qB (k:=k) l;unfold Pv at this ⊢;rw[AW];split
  ·rw[Jm,Jm];omega
  ·rw[Jm];omega
theorem Yq {k:A2P}{g:Fi->Fi}{d:Nat}(a: ∀f,(g f).bU.size+(g f).soft.size<=f.bU.size+f.soft.size+d): ∀ {l:List Fi},Ex l->bd (Pw k g l)<=bd l+d
 | [],_=>by simp[Pw,bd]
 |x::l,s=>by
  have b:=List.pairwise_cons.1 s;show bd ((if x.name=k then g x else x)::Pw k g l)<=_;rw[Jm,Jm];split
  ·rename_i c;have:Pw k g l=l:=by unfold Pw;rw[CT (g:=id) λe h=>?_,KK];have:=OU (b.1 e h);rw[if_neg (λi=>this (c.trans i.symm))];rfl
   rw[this];have:=a x;omega
  ·have:=Yq a (k:=k) b.2;omega
structure Bx where
 files:List Fi
 fuel:Int
 down:Bool
def kg:Bx:=⟨[],-1,false⟩
def LD(a:A2P):Bool:=decide (a=bo)||decide (a.size>32)
def G5(m:Bx):Bx:=if m.fuel>0 then {m with fuel:=m.fuel-1} else m
def Mv(m:Bx):Bx:= {m with down:=true}
def T9(a:A2P)(l:List Fi):List Fi:=if(CZ a l).isSome then l else gE ⟨a,bo,bo⟩ l
def Rk(a:A2P)(f:Fi):Fi:= {f with soft:=f.soft++a}
def R5(f:Fi):Fi:=⟨f.name,f.bU++f.soft,bo⟩
def DY(m:Bx)(a b:A2P):Int×Bx:=
 if m.down then(30,m) else if LD a then(1,m) else if m.fuel=0 then(30,Mv m) else(0,{G5 m with files:=Pw a (Rk b) (T9 a m.files)})
def F9(m:Bx)(a:A2P):Int×Bx:=
 if m.down then(30,m) else if(CZ a m.files).isNone then(31,m) else if m.fuel=0 then(30,Mv m) else(0,{G5 m with files:=Pw a R5 m.files})
def Gl(m:Bx)(a:A2P):Int×Bx:=
 if m.down then(30,m) else if(CZ a m.files).isNone then(31,m) else if m.fuel=0 then(30,Mv m) else(0,{G5 m with files:=Pv a m.files})
def UD(m:Bx)(a:A2P):A2P×Int:=
 if m.down then(bo,30) else match CZ a m.files with|none=>(bo,31)|some f=>(f.bU++f.soft,0)
def vI(m:Bx)(a:Int):Bx:= {m with fuel:=if(-1:Int)>a then -1 else a}
def nG(aM:List Int)(a:Nat)(f:Fi):A2P:=
 if f.soft=bo then f.bU else match aM[a]? with|some b=>f.bU++f.soft.extract 0 (min b.toNat f.soft.size)|none=>f.bU
def vJ(a:Nat)(f:Fi):Nat:=if f.soft=bo then a else a+1
def lJ(aM:List Int)(a:Nat)(f:Fi):List Fi:=if nG aM a f=bo then [] else [⟨f.name,nG aM a f,bo⟩]
def P5(aM:List Int):Nat->List Fi->List Fi
 |_,[]=> []
 |k,f::l=>lJ aM k f++P5 aM (vJ k f) l
def qC(m:Bx)(aM:List Int):Bx:=⟨P5 aM 0 m.files,-1,false⟩
structure FB (m:Bx):Prop where
 sorted:Ex m.files
 names: ∀f∈m.files,f.name.size<=32
 lo: -1<=m.fuel
 hi:m.fuel<=9223372036854775807
 wt:bd m.files<=8796093022208
theorem vK(a b:A2P):(a++b).size=a.size+b.size:=Kx
theorem YK(a:A2P):a++bo=a:=by simp[Mn,bo]
theorem RQ(a:A2P):bo++a=a:=by simp[Mn,bo]
theorem AMu:FB kg:=⟨List.Pairwise.nil,by simp[kg],by simp[kg],by simp[kg],by simp[kg,bd]⟩
theorem FB.tick {m:Bx}(g:FB m)(l:List Fi)(a:Ex l)(b: ∀f∈l,f.name.size<=32)(c:bd l<=8796093022208):FB {G5 m with files:=l}:=by
 have:=g.lo;have:=g.hi;refine⟨a,b,?_,?_,c⟩
 ·show -1<=(G5 m).fuel;unfold G5;split<;>(try simp only[])<;>omega
 ·show(G5 m).fuel<=_;unfold G5;split<;>(try simp only[])<;>omega
theorem FB.off {m:Bx}(g:FB m):FB (Mv m):=⟨g.sorted,g.names,g.lo,g.hi,g.wt⟩
theorem vL {name:A2P}{l:List Fi}(s:Ex l):Ex (T9 name l)/\bd (T9 name l)<=bd l+1/\(∀ f∈T9 name l,f∈l\/f.name=name):=by
 unfold T9;split
 ·exact⟨s,by omega,λf a=> .inl a⟩
 ·rename_i b;have c:=Rt (by simpa using b);refine⟨UJ s c,by rw[vH];simp[lI];omega,λf a=>?_⟩;rcases List.mem_cons.1 ((N7 _ l).subset a) with rfl|a
  ·exact .inr rfl
  ·exact .inl a
theorem vM {c:A2P}{g:Fi->Fi}(d: ∀f,(g f).name=f.name){l:List Fi}{f:Fi}(b:f∈Pw c g l): ∃a∈l,a.name=f.name:=by unfold Pw at b;obtain⟨a,e,rfl⟩:=List.mem_map.1 b;exact⟨a,e,by split<;>simp[d]⟩
theorem FB.append {m:Bx}(g:FB m){name data:A2P}(n:bd m.files+data.size+1<=8796093022208):FB (DY m name data).2:=by
 unfold DY;split
 ·exact g
 ·split
  ·exact g
  ·rename_i e;split
   ·exact g.off
   ·obtain⟨b,o,h⟩:=vL (name:=name) g.sorted;refine g.tick _ (vF (k:=name) (g:=Rk data) (λ_=>rfl) b) (λf i=>?_) ?_
    ·obtain⟨c,j,l⟩:=vM (g:=Rk data) (λ_=>rfl) i;rw[<- l];rcases h c j with a|a
     ·exact g.names c a
     ·rw[a];simp[LD] at e;omega
    ·have:=Yq (k:=name) (g:=Rk data) (d:=data.size) (λf=>by simp[Rk];omega) b;omega
theorem FB.sync {m:Bx}(g:FB m){name:A2P}:FB (F9 m name).2:=by
 unfold F9;split
 ·exact g
 ·split
  ·exact g
  ·split
   ·exact g.off
   ·refine g.tick _ (vF (k:=name) (g:=R5) (λ_=>rfl) g.sorted) (λf a=>?_) ?_
    ·obtain⟨b,c,e⟩:=vM (g:=R5) (λ_=>rfl) a;rw[<- e];exact g.names b c
    ·have:=Yq (k:=name) (g:=R5) (d:=0) (λf=>by simp[R5,lI]) g.sorted;have:=g.wt;omega
theorem FB.delete {m:Bx}(g:FB m){name:A2P}:FB (Gl m name).2:=by
 unfold Gl;split
 ·exact g
 ·split
  ·exact g
  ·split
   ·exact g.off
   ·exact g.tick _ (AIp g.sorted) (λf a=>g.names f (List.mem_filter.1 a).1) (A5 (qB _) g.wt)
theorem FB.fuel {m:Bx}(g:FB m){a:Int}(b:a<=9223372036854775807):FB (vI m a):=by refine⟨g.sorted,g.names,?_,?_,g.wt⟩<;>(simp only[vI];split<;>omega)
theorem Wy {aM:List Int}: ∀ {l:List Fi} {c:Nat} {f:Fi},f∈P5 aM c l-> ∃b∈l,b.name=f.name
 | [],_,_,a=>by simp[P5] at a
 |x::l,c,f,a=>by
  unfold P5 at a;rcases List.mem_append.1 a with a|a
  ·unfold lJ at a;split at a
   ·cases a
   ·simp at a;exact⟨x,AM,by rw[a]⟩
  ·obtain⟨b,d,e⟩:=Wy a;exact⟨b,An _ d,e⟩
theorem Vb {aM:List Int}: ∀ {l:List Fi} {d:Nat},Ex l->Ex (P5 aM d l)
 | [],_,_=>List.Pairwise.nil
 |x::l,d,s=>by
  have e:=List.pairwise_cons.1 s;unfold P5;refine List.pairwise_append.2 ⟨?_,Vb e.2,?_⟩
  ·unfold lJ;split
   ·exact List.Pairwise.nil
   ·exact Rr _ _
  ·intro a c b f;have:a.name=x.name:=by
    unfold lJ at c;split at c
    ·cases c
    ·simp at c;rw[c]
   obtain⟨g,h,i⟩:=Wy f;rw[this,<-i];exact e.1 g h
theorem AMP(aM:List Int)(a:Nat)(f:Fi):(nG aM a f).size<=f.bU.size+f.soft.size:=by
 unfold nG;split
 ·omega
 ·split
  ·rw[vK,RR];omega
  ·omega
theorem vN {aM:List Int}: ∀ {l:List Fi} {k:Nat},bd (P5 aM k l)<=bd l
 | [],_=>by simp[P5]
 |x::l,k=>by
  unfold P5;have:=vN (aM:=aM) (l:=l) (k:=vJ k x);have:=AMP aM k x;unfold lJ;rw[Jm];split
  ·simp;omega
  ·rw[A0t,Jm];simp[lI];omega
theorem FB.dB {m:Bx}(g:FB m){aM:List Int}:FB (qC m aM):=
 ⟨Vb g.sorted,λf a=>by obtain⟨b,c,d⟩:=Wy a;rw[<- d];exact g.names b c,by simp[qC],by simp[qC],A5 vN g.wt⟩
theorem Uo {m:Bx}(g:FB m)(name a:A2P):bd (DY m name a).2.files<=bd m.files+a.size+1:=by
 unfold DY;split
 ·simp;omega
 ·split
  ·simp;omega
  ·split
   ·simp[Mv];omega
   ·obtain⟨b,c,_⟩:=vL (name:=name) g.sorted;have:=Yq (k:=name) (g:=Rk a) (d:=a.size) (λf=>by simp[Rk];omega) b;simp;omega
theorem Xn {m:Bx}(g:FB m)(a:A2P):bd (F9 m a).2.files<=bd m.files:=by
 unfold F9;split
 ·simp
 ·split
  ·simp
  ·split
   ·simp[Mv]
   ·have:=Yq (k:=a) (g:=R5) (d:=0) (λf=>by simp[R5,lI]) g.sorted;simpa using this
theorem ZT {m:Bx}(a:A2P):bd (Gl m a).2.files<=bd m.files:=by
 unfold Gl;split
 ·simp
 ·split
  ·simp
  ·split
   ·simp[Mv]
   ·exact qB _
theorem wx {d:Type}{a:cy d}{x e:d}{c:Nat}{v:J0}(f:a.enc e=(a.enc x).set c v)(g:c<a.w): ∀ {l:List d} {i:Nat},l[i]? =some x->(l.set i e).flatMap a.enc=(l.flatMap a.enc).set (i*a.w+c) v
 | [],_,b=>by simp at b
 |y::l,0,b=>by
  simp at b;subst b;rw[List.set_cons_zero,AI,AI,f,HL,AK,List.set_append_left _ _ (by rw[a.len];exact g)]
 |y::l,i+1,b=>by
  rw[List.set_cons_succ,AI,AI,wx f g (l:=l) (i:=i) (by simpa using b),HI _ _ (by rw[a.len,BW];omega),a.len];rw[show(i+1)*a.w+c-a.w=i*a.w+c by rw[BW];omega]
theorem Own.store {e:Type}{E:cy e}{T:Q7}{d:aa}{s:Sl}{l:List e}{i j:Nat}{x x':e}{v:J0}{K:aa->Prop}(f:Own E T d s l)(h:l[i]? =some x)(q:E.enc x'=(E.enc x).set j v)(r:j<E.w)
  (t: ∀b,Own E T b s (l.set i x')->Mod (λc=>s.af=some c) d b->b.size=d.size->K b): ∀a,s.p=some a->ab d ((a.add (i*E.w)).add j) v K:=by
 intro a n;rcases f.row with⟨rfl,rfl⟩|⟨g,u,k,w,o,y,p,z⟩
 ·simp at h
 ·rw[k] at n;cases n;rw[add_add,BZ,AK];have A:i<l.length:=(List.getElem?_eq_some_iff.1 h).1;have F:i*E.w+j<s.len*E.w:=by have:(i+1)*E.w<=s.len*E.w:=AS _ (by rw[f.len];exact A);rw[BW] at this;omega
  have G:s.len*E.w<=u.size:=by rw[p];exact AS _ o
  refine ab.mk w (by omega) λb B m C=>t b ⟨by rw[Rg];exact f.len,.inr ⟨g,_,k,B,o,y,by simpa using p,?_⟩⟩ (m.ai λc _ D=>by simp[Sl.af,k,D]) C
  rw[Fm,List.take_set,z,wx q r h]
theorem Own.ne {d:Type}{h:cy d}{T e:Q7}{f:aa}{s:Sl}{l:List d}(i:Own h T f s l){b:Nat}{j:Array J0}{fr:Nat×Nat}(a:f[b]? =some (J2 j e fr))(k:T≠e):s.af≠some b:=by
 intro c;rcases i.row with⟨rfl,_⟩|⟨g,p,m,n,_⟩
 ·simp[Sl.af] at c
 ·simp[Sl.af,m] at c;subst c;rw[n] at a;injection a with a;injection a with _ o _;exact k o
theorem max_i64:IntKind.max J9=9223372036854775807:=by simp[IntKind.max,IntKind.bits,IntKind.signed]
end Go.Lf
namespace Go.Lf.G
open Go
theorem Kj:P.underlying Ar=some .string:=by kernel_rfl
theorem kq:P.underlying DZ=some (.int .u8):=by kernel_rfl
theorem ZJ:P.underlying Bp=some (.slice DZ):=by kernel_rfl
theorem nW:P7 P Bp DZ Fy.w 1=true:=by kernel_rfl
theorem CR {y:ak}{d:aa}{n:Nat}{q:A2O}(z:n<18446744073709551616)(A: ∀e,Ext d e->q (.string (AX (BH n))) e):AA y P Aq #[.int .u64 (n:Int)] d q:=by
 refine AH7 ?_;unfold tL;have r:=AV z;refine Loop.rule (λm x f=> ∃(a:Nat) (s:Sl) (c:List UInt8),x=((a:Int),s,())/\Own Fy DZ f s c/\Ext d f/\(∀ b,s.af=some b->d.size<=b)/\BH n=c++BH a/\m=a) ?_
  ⟨n,⟨none,0,0⟩,[],rfl,Own.nil,Mod.refl,λb g=>by simp[Sl.af] at g,rfl,rfl⟩
 rintro K m _ f ⟨a,s,c,rfl,t,x,h,i,F⟩ B;have hd:c.length<=10:=by rw[i] at r;simp at r;omega
 refine ae.intro (λj=>?_) (λj=>?_)
 ·have k: ¬a<128:=by simp at j;omega
  refine al.aZ (E:=Fy) (x:=CX (a % 128+128)) (s:=s) (l:=c) (by dsimp only[Fy];rw[APy]) nW t (by simp;omega) (by simp[maxLen];omega) λu e o p v C=>?_
  refine B (a / 128) _ _ (by omega) ⟨a / 128,u,c++ [CX (a % 128+128)],?_,o,x.more p h,λb g=>?_,?_,rfl⟩
  ·dsimp only;rw[QR a 7]
  ·rcases v b g with w|w
   ·exact h b w
   ·have:=x.size;omega
  ·rw[i,TW k];simp
 ·have k:a<128:=by simp at j;omega
  refine al.aZ (E:=Fy) (x:=CX a) (s:=s) (l:=c) (by dsimp only[Fy];rw[Df (show a<256 by omega),wrap_u8,Ax (show a<256 by omega)]) nW t (by simp;omega) (by simp[maxLen];omega) λu e o p v C=>?_
  refine KS ZJ kq Kj o.view ⟨_,rfl,?_⟩;have D:c++ [CX a]=BH n:=by rw[i,FN k]
  rw[D];exact A _ (x.more p h)
theorem AN0(a:Nat):(if(10:Int)<(a:Int) then(10:Int) else(a:Int))=((min a 10:Nat):Int):=by split<;>omega
theorem xt {D:ak}{e:aa}{s:A2P}{n:A2O}(V:s.size<=8796093022208)
  (v:MR 0 0 s.data.toList=none->n (.tuple #[.int .u64 0,.string ⟨#[]⟩,.bool false]) e)
  (E: ∀w t,MR 0 0 s.data.toList=some (w,t)->n (.tuple #[.int .u64 (w:Int),.string (AX t),.bool true]) e):AA D P RX #[.string s] e n:=by
 refine AHF ?_;unfold tw;have W:s.data.toList.length=s.size:=by rw[DQ];rfl
 refine Loop.rule (λm x o=> ∃(i a:Nat),x=((a:Int),(i:Int),())/\o=e/\i<=s.size/\i<=10/\a<128^i/\MR 0 0 s.data.toList=MR i a (s.data.toList.drop i)/\m=10-i) ?_
  ⟨0,0,rfl,rfl,by omega,by omega,by simp,rfl,rfl⟩
 rintro K m _ o ⟨i,a,rfl,y,X,Y,F,p,Z⟩ G;subst o;dsimp only;rw[AN0];refine ae.intro (λd=>?_) (λd=>?_)
 ·have z:i<s.size/\i<10:=by simp at d;omega
  have q:i<s.data.toList.length:=by omega
  refine⟨⟨by omega,by omega⟩,?_⟩;obtain⟨c,r⟩: ∃c,s.data.toList[i]? =some c:=⟨_,A2 q⟩;have A:s.data.toList.drop i=c::s.data.toList.drop (i+1):=by rw[Fk q];rw[A2 q] at r;rw[Bs r]
  have B:c.toNat<256:=c.toNat_lt;rw[Ng r];have H:((i=9/\1<c.toNat)\/(0<i/\c.toNat=0))->MR 0 0 s.data.toList=none:=λg=>by
   rw[p,A,MR,if_pos (.inr g)]
  have I: ¬((i=9/\1<c.toNat)\/(0<i/\c.toNat=0))->MR 0 0 s.data.toList=if c.toNat<128 then some (a+c.toNat*128^i,s.data.toList.drop (i+1)) else MR (i+1) (a+c.toNat % 128*128^i) (s.data.toList.drop (i+1)):=λg=>by
   rw[p,A,MR,if_neg (λe=>e.elim (by omega) g)]
  refine ah.mk λJ L=>?_
  have key: ∀(b:Bool),(b=true↔((i=9/\1<c.toNat)\/(0<i/\c.toNat=0)))->J (b,()) e:=λb g=>by
   refine L _ _ ?_;refine ae.intro (λM=>v (H (g.1 M))) (λC=>?_);have N: ¬((i=9/\1<c.toNat)\/(0<i/\c.toNat=0)):=λe=>by rw[g.2 e] at C;cases C
   have j:=I N;have O:J8 J9 ((7:Int)*(i:Int))=((7*i:Nat):Int):=by rw[show(7:Int)*(i:Int)=((7*i:Nat):Int) by simp];exact Fu (by omega)
   have Q:Gb .u8 (c.toNat:Int) (127:Int)=((c.toNat % 128:Nat):Int):=by have:=xq (a:=c.toNat) (b:=127) B (by decide);rw[ASb _ B] at this;exact this
   have R:J8 .u64 ((c.toNat % 128:Nat):Int)=((c.toNat % 128:Nat):Int):=by rw[wrap_u64,Ax (by omega)]
   rw[O,Q,R,ASy (by omega) (CM _ (by decide)),AQf (by omega) F (CM _ (by decide)),AZ (by omega)];have ab:=MB (show i<=9 by omega);have S:(128:Nat)^9=9223372036854775808:=by decide
   have T:c.toNat % 128*128^i % 18446744073709551616=c.toNat % 128*128^i:=by
    refine Ax ?_;by_cases k:i=9
    ·subst k;have:c.toNat<=1:=by omega
     rw[S];omega
    ·have ac:=MB (show i<=8 by omega);have ad:(128:Nat)^8=72057594037927936:=by decide
     have:c.toNat % 128*128^i<=127*128^i:=AS _ (by omega);omega
   rw[T];refine⟨by omega,?_⟩;refine ae.intro (λd=>?_) (λd=>?_)
   ·have l:c.toNat<128:=by simp at d;omega
    rw[if_pos l] at j;refine⟨⟨by omega,by omega⟩,?_⟩;have:=E _ _ j;rw[Ax l];have y:s.extract ((i+1:Nat):Int).toNat s.size=AX (s.data.toList.drop (i+1)):=qL _ _;rw[y];exact this
   ·have l: ¬c.toNat<128:=by simp at d;omega
    rw[if_neg l] at j;refine G (10-(i+1)) _ _ (by omega) ⟨i+1,a+c.toNat % 128*128^i,rfl,rfl,by omega,by omega,?_,j,rfl⟩;have:(c.toNat % 128+1)*128^i<=128*128^i:=AS _ (by omega);rw[BW] at this;rw[F2,Ds (128^i)];omega
  refine ae.intro (λd=>?_) (λd=>?_)
  ·have k:i=9:=by simp at d;omega
   refine ae.intro (λu=>key _ ⟨λ_=> .inl ⟨k,by simp at u;omega⟩,λ_=>rfl⟩) (λu=>?_);refine ae.intro (λh=>key _ ⟨λf=> .inr ⟨by omega,by simp at f;omega⟩,λf=>by simp at u ⊢;omega⟩) (λh=>?_);simp at h;omega
  ·have k:i≠9:=by simp at d;omega
   refine ae.intro (λh=>key _ ⟨λf=> .inr ⟨by simp at h;omega,by simp at f;omega⟩,λf=>(by simp;omega)⟩) (λh=>key _ ⟨(λf=>(by cases f)),λf=>(by simp at h;omega)⟩)
 ·have z:s.size=i\/i=10:=by simp at d;omega
  refine v ?_;rw[p];rcases z with U|U
  ·rw[HA (by omega)];rfl
  ·cases hd:s.data.toList.drop i with
   |nil=>rfl
   |cons c t=>rw[MR,if_pos (.inl (by omega))]
theorem aF {a:Q6}{K:Q6->Prop}(b:K a):At (some a) K:=b
theorem ab.dj {a:aa}{b d:Nat}{v:J0}{e:Array J0}{T:Q7}{K:aa->Prop}(f:a[b]? =some (J2 e T (0,0)))(g:d<e.size)
  (h: ∀c,c[b]? =some (J2 (e.setIfInBounds d v) T (0,0))->Mod (· =b) a c->c.size=a.size->K c):ab a ((⟨b,0,none⟩:Q6).add d) v K:=by
 rw[BZ,AK];exact ab.mk f g h
theorem max_i64:IntKind.max J9=9223372036854775807:=by simp[IntKind.max,IntKind.bits,IntKind.signed]
theorem wrap_i64 {n:Int}(a: -9223372036854775808<=n)(b:n<=9223372036854775807):J8 J9 n=n:=by simp only[J8,IntKind.bits,IntKind.signed];simp;omega
theorem Ba {a:Nat}(b:a<18446744073709551616):J8 .u64 (a:Int)=(a:Int):=by rw[wrap_u64,Ax b]
abbrev Az(b:Nat):J0:=J5 (some ⟨b,0,none⟩)
def Io(c:aa)(b:Nat)(a:Rd):Prop:=c[b]? =some (J2 #[J7 (AX a.rest),J3 a.bad] Vs (0,0))
theorem xu:AX []=⟨#[]⟩:=rfl
theorem xw(l:List UInt8)(a:Nat):(AX l).extract 0 a=AX (l.take a):=by rw[ANu,Cc]
theorem Zh(l:List UInt8)(a:Nat):(AX l).extract a (AX l).size=AX (l.drop a):=by rw[qL,Cc]
theorem AOa(l:List UInt8)(i a:Nat):(AX l).extract i a=AX ((l.take a).drop i):=by rw[dQ,Cc]
theorem Ae(a b:List UInt8):AX a++AX b=AX (a++b):=by apply SR;simp[AX,Kp]
theorem Qu {A:ak}{h:aa}{l:List UInt8}{R:A2O}(d:l.length<=1099511627776)(b: ∀a,Ext h a->R (J7 (AX (BG l))) a):AA A P Bv #[J7 (AX l)] h R:=by
 refine AGd ?_;unfold tK;rw[AP,Ba (by omega)];have:=AV (n:=l.length) (by omega);refine CR (by omega) λe c=>⟨_,rfl,⟨by rw[AP,max_i64];omega,?_⟩⟩
 rw[Ae];exact b _ c
theorem Kq {d:ak}{a:aa}{l:List UInt8}{c:A2O}(e: ∀b,Io b a.size ⟨l,false⟩->Ext a b->c (Az a.size) b):AA d P El #[J7 (AX l)] a c:=by refine AGz ?_;unfold tQ;exact al.mk λf _ g x _=>e f g x
theorem xy {j:ak}{d:aa}{b:Nat}{a:Rd}{h:A2O}(e:Io d b a)(k:a.rest.length<=1099511627776)
  (i: ∀f,Io f b (G7 a).2->Mod (· =b) d f->h (.int .u64 ((G7 a).1:Int)) f):AA j P Ik #[Az b] d h:=by
 refine WO ?_;unfold PN;refine ah.mk λK l=>ae.no rfl (aF (Ac.mk (AB e rfl) (l _ _ ?_)))
 refine ae.intro (λc=>?_) (λc=>?_)
 ·have:=i d;rw[ANv c] at this;exact this e Mod.refl
 ·refine aF (AJ.mk (AL e rfl) ?_);have c:a.bad=false:=c;refine xt (by rw[AP];exact A5 k (by decide)) (λg=>⟨_,_,_,rfl,?_⟩) (λr t g=>⟨_,_,_,rfl,?_⟩)
  all_goals
   rw[Cc] at g;refine aF (ab.mk e (by simp) λs m n u=>aF (ab.dj m (by simp) λo p q v=>?_));have:=i o;simp only[G7,c,g] at this;exact this p (n.trans q)
theorem ANU {m:Nat}(a:m<=9223372036854775807):J8 .u64 (m:Int)=(m:Int):=Ba (by omega)
theorem DX {l:ak}{e:aa}{b:Nat}{c:Rd}{most:Nat}{j:A2O}(m:Io e b c)(n:c.rest.length<=1099511627776)(o:most<=9223372036854775807)
  (f: ∀g,Io g b (Bt most c).2->Mod (· =b) e g->j (J6 J9 ((Bt most c).1:Int)) g):AA l P Ad #[Az b,J6 J9 (most:Int)] e j:=by
 refine Ws ?_;unfold PE;refine xy m n λk d h=>⟨_,rfl,?_⟩
 refine ah.mk λK p=>ae.no rfl (aF (Ac.mk (AB d rfl) (p _ _ ?_)))
 refine ae.intro (λa=>?_) (λa=>?_)
 ·have:=f k;have a:(G7 c).2.bad=true:=a;simp only[Bt,a,if_true] at this;exact this d h
 ·have a:(G7 c).2.bad=false:=a;refine ah.mk λw q=>ae.no (by simp) (q _ _ ?_)
  rw[ANU o];refine ae.intro (λi=>?_) (λi=>?_)
  ·refine aF (ab.mk d (by simp) λx r s y=>aF (ab.dj r (by simp) λt u v z=>?_));have:=f t;simp only[Bt,a] at this;rw[if_neg (by simp),if_pos (by simp at i;omega)] at this;exact this u ((h.trans s).trans v)
  ·have:=f k;simp at i;simp only[Bt,a] at this;rw[if_neg (by simp),if_neg (by omega)] at this;rw[Fu (by omega)];exact this d h
theorem qN {n:ak}{f:aa}{b g:Nat}{d:Rd}{l:A2O}(c:Io f b d)
  (h: ∀i,Io i b (KN g d).2->Mod (· =b) f i->l (J7 (AX (KN g d).1)) i):AA n P Fh #[Az b,J6 J9 (g:Int)] f l:=by
 refine VM ?_;unfold Oi;refine ah.mk λK o=>ae.no rfl (aF (Ac.mk (AB c rfl) (o _ _ ?_)))
 refine ae.intro (λa=>?_) (λa=>?_)
 ·have:=h f;have a:d.bad=true:=a;simp only[KN,a,if_true] at this;exact this c Mod.refl
 ·have a:d.bad=false:=a;refine ah.mk λu p=>ae.no (by simp) (aF (AJ.mk (AL c rfl) (p _ _ ?_)))
  rw[AP];refine ae.intro (λj=>?_) (λj=>?_)
  ·refine aF (ab.mk c (by simp) λm e k q=>aF (ab.dj e (by simp) λr s t v=>?_));have:=h r;simp only[KN,a] at this;rw[if_neg (by simp),if_pos (by simp at j;omega)] at this;exact this s (k.trans t)
  ·simp at j;refine aF (AJ.mk (AL c rfl) ⟨⟨by omega,by rw[AP];omega⟩,aF (AJ.mk (AL c rfl) ⟨⟨by omega,by rw[AP];omega⟩,aF (ab.mk c (by simp) λm e k q=>?_)⟩)⟩);have:=h m;simp only[KN,a] at this;rw[if_neg (by simp),if_neg (by omega)] at this;simp only[As,xw,Zh] at e ⊢;rw[a] at e;exact this e k
theorem IL {k:ak}{d:aa}{b:Nat}{a:Rd}{g:A2O}(l:Io d b a)(v:a.rest.length<1099511627776)
  (h: ∀e,Io e b (FY a).2->Mod (· =b) d e->g (J7 (AX (FY a).1)) e):AA k P Bf #[Az b] d g:=by
 refine VJ ?_;unfold Om;refine xy l (by omega) λm f i=>⟨_,rfl,?_⟩
 have w:=Tc a;refine ah.mk λK n=>ae.no rfl (aF (Ac.mk (AB f rfl) (n _ _ ?_)))
 refine ae.intro (λc=>?_) (λc=>?_)
 ·have:=h m;have c:(G7 a).2.bad=true:=c;simp only[FY,c,if_true] at this;exact this f i
 ·have c:(G7 a).2.bad=false:=c;have o:J8 J9 (if(1099511627776:Int)<((G7 a).1:Int) then 1099511627776 else((G7 a).1:Int))=((min (G7 a).1 1099511627776:Nat):Int):=by rw[wrap_i64 (by split<;>omega) (by split<;>omega)];split<;>omega
  rw[o];refine qN f λp j q=>⟨_,rfl,?_⟩
  have:=h p;simp only[FY,c] at this;rw[if_neg (by simp)] at this;have r:KN (min (G7 a).1 1099511627776) (G7 a).2=KN (G7 a).1 (G7 a).2:=by
   by_cases s:(G7 a).1<=1099511627776
   ·rw[GF s]
   ·have t:(G7 a).2.rest.length<min (G7 a).1 1099511627776:=by omega
    have u:(G7 a).2.rest.length<(G7 a).1:=by omega
    simp only[KN,c,Cl,if_false,if_pos t,if_pos u]
  rw[r] at j ⊢;exact this j (i.trans q)
theorem NZ {h:ak}{d:aa}{b:Nat}{r:Rd}{f:A2O}(g:Io d b r)(a:f (J3 (YR r)) d):AA h P CL #[Az b] d f:=by
 refine WR ?_;unfold PX;refine ae.yes rfl (aF (Ac.mk (AB g rfl) ?_));unfold YR at a;refine ae.intro (λe=>?_) (λe=>?_)
 ·refine aF (AJ.mk (AL g rfl) ?_);rw[e] at a;have i:bM (AX r.rest) (⟨#[]⟩:A2P)=r.rest.isEmpty:=by
   rw[CP,<-xu];cases j:r.rest with
   |nil=>simp
   |cons c t=>simp[Kc]
  rw[i];simpa using a
 ·rw[e] at a;exact a
theorem APL {c:Nat}(g:c<4294967296):ZG .u32 ((c:Int).fdiv ((2:Int)^(1:Nat))) (Gb .u32 (3988292384:Int) (J8 .u32 (0-(Gb .u32 (c:Int) (1:Int)))))=((lQ c:Nat):Int):=by
 have h:Gb .u32 (c:Int) (1:Int)=((c % 2:Nat):Int):=by have:=AQ2 (a:=c) (b:=1) g (by decide);rw[Nat.and_one_is_mod] at this;exact this
 rw[QR c 1,h];unfold lQ;have hd:c / 2^1<4294967296:=by omega
 by_cases d:c % 2=1
 ·rw[if_pos d,d];have e:J8 .u32 (0-((1:Nat):Int))=((4294967295:Nat):Int):=by decide
  have f:Gb .u32 (3988292384:Int) ((4294967295:Nat):Int)=((3988292384:Nat):Int):=by decide
  rw[e,f,Uq hd (by decide)]
 ·rw[if_neg d,show c % 2=0 by omega];have e:J8 .u32 (0-((0:Nat):Int))=((0:Nat):Int):=by decide
  have f:Gb .u32 (3988292384:Int) ((0:Nat):Int)=((0:Nat):Int):=by decide
  rw[e,f,Uq hd (by decide)];simp
theorem ARK {c:Nat}(d:c<4294967296):ZG .u32 (if IntKind.signed .u32 then -1 else IntKind.max .u32) (c:Int)=((4294967295-c:Nat):Int):=by
 have e:(if IntKind.signed .u32 then -1 else IntKind.max .u32)=((4294967295:Nat):Int):=by decide
 rw[e,Uq (by decide) d];congr 1;have f:4294967295-c=2^32-(c+1):=by omega
 have g:(4294967295:Nat)=2^32-1:=by decide
 have a:c<2^32:=by omega
 rw[f,g];apply Nat.eq_of_testBit_eq;intro i;rw[Nat.testBit_xor,Nat.testBit_two_pow_sub_one,Nat.testBit_two_pow_sub_succ a];by_cases b:i<32
 ·simp[b]
 ·have:c.testBit i=false:=Nat.testBit_lt_two_pow (GC a (RK (by decide) (by omega)));simp[b,this]
theorem xA {q:ak}{d:aa}{l:List UInt8}{k:A2O}(v:l.length<=1099511627776)(r:k (.int .u32 (iS l:Int)) d):AA q P PT #[J7 (AX l)] d k:=by
 refine AGe ?_;unfold tz;rw[AP];refine Loop.rule (λm x b=> ∃i:Nat,x=((iw (l.take i):Int),(i:Int),())/\b=d/\m=l.length-i/\i<=l.length) ?_ ⟨0,rfl,rfl,rfl,by omega⟩;rintro K m _ b ⟨i,rfl,e,rfl,w⟩ s;subst b;refine ae.intro (λf=>?_) (λf=>?_)
 ·have g:i<l.length:=by simpa using f
  obtain⟨c,o⟩: ∃c,l[i]? =some c:=⟨_,A2 g⟩;have y:c.toNat<256:=c.toNat_lt;refine⟨⟨by dsimp only;omega,by dsimp only;omega⟩,?_⟩;have p:=wY (l.take i);dsimp only;rw[Ng (c:=c) (by rw[Cc];exact o),wrap_u32,Ax (show c.toNat<4294967296 by omega),Uq p (by omega)];have t:iw (l.take i) ^^^ c.toNat<4294967296:=Lo (n:=32) p (by omega);refine Loop.rule (λm x b=> ∃a:Nat,x=((nU a (iw (l.take i) ^^^ c.toNat):Int),(a:Int),())/\b=d/\m=8-a/\a<=8) ?_ ⟨0,rfl,rfl,rfl,by omega⟩;rintro z A _ b ⟨a,rfl,e,rfl,B⟩ u;subst b;refine ae.intro (λh=>?_) (λh=>?_)
  ·have j:a<8:=by simp at h;omega
   dsimp only;rw[APL (qK t a),AZ (by omega)];exact u (8-(a+1)) _ _ (by omega) ⟨a+1,rfl,rfl,rfl,j⟩
  ·have j:a=8:=by simp at h;omega
   subst j;dsimp only;rw[AZ (by omega)];refine s (l.length-(i+1)) _ _ (by omega) ⟨i+1,?_,rfl,rfl,g⟩;rw[AD,o,CN,ANG];rfl
 ·have g:i=l.length:=by simp at f;omega
  have e:l.take i=l:=AE (by omega);dsimp only;rw[e,ARK (wY l)];exact r
theorem qO(a b:Nat):J8 .u8 ((a:Int).fdiv ((2:Int)^b))=(((CX (a / 2^b % 256)).toNat:Nat):Int):=by rw[QR,wrap_u8,Df (CM _ (by decide))]
theorem xC {f:ak}{b:aa}{a:Nat}{c:A2O}(g: ∀d,Ext b d->c (J7 (AX (Qr a))) d):AA f P Nj #[.int .u32 (a:Int)] b c:=by
 refine AEP ?_;unfold Yp;refine al.mk λh _ e x _=>?_
 have i:J8 .u8 (a:Int)=(((CX (a % 256)).toNat:Nat):Int):=by rw[wrap_u8,Df (CM _ (by decide))]
 rw[qO,qO,qO,i] at e;have j:Own Fy DZ h ⟨some ⟨b.size,0,none⟩,4,4⟩ (Qr a):=Own.lit (E:=Fy) (l:=Qr a) e rfl (by simp[maxLen,Qr]);exact KS (s:=⟨some ⟨b.size,0,none⟩,4,4⟩) ZJ kq Kj j.view ⟨_,rfl,g _ x⟩
theorem qP {e:ak}{a:aa}{l:List UInt8}{b:A2O}(f:l.length<=1099511627776)(g:1048576<l.length->b (J1 #[J7 ⟨#[]⟩,J6 J9 2]) a)
  (h:l.length<=1048576-> ∀d,Ext a d->b (J1 #[J7 (AX (Cb l)),J6 J9 0]) d):AA e P HZ #[J7 (AX l)] a b:=by
 refine AED ?_;unfold YS;rw[AP];refine ae.intro (λc=>g (by simp at c;omega)) (λc=>?_);have i:l.length<=1048576:=by simp at c;omega
 have:=AV (n:=l.length) (by omega);rw[Ba (by omega)];refine CR (by omega) λm j=>⟨_,rfl,?_⟩
 refine xA f ⟨_,rfl,?_⟩;refine xC λo k=>⟨_,rfl,⟨?_,?_,?_⟩⟩
 ·rw[AP,AP,max_i64,KU];omega
 ·rw[Ae,AP,max_i64,A1,KU];omega
 ·rw[Ae,Ae];exact h i _ (j.trans k)
theorem xD {G:ak}{g:aa}{l:List UInt8}{C:A2O}(p:l.length<=8796093022208)
  (h: ∀D,Ext g D->C (J1 #[J7 (AX (Gq l).2.1),J7 (AX (Gq l).2.2),J6 J9 ((Gq l).1:Int)]) D):AA G P Rp #[J7 (AX l)] g C:=by
 refine AD9 ?_;unfold YH;rw[AP];have d:=h g Mod.refl;refine xt (by rw[AP];exact p) (λj=>⟨_,_,_,rfl,?_⟩) (λb t j=>⟨_,_,_,rfl,?_⟩)<;>rw[Cc] at j
 ·have q:Gq l=if l.length<10/\ ∀c∈l,128<=c.toNat then(20,[],[]) else(21,[],[]):=by unfold Gq;rw[j]
  rw[q] at d;refine ah.mk λK r=>ae.yes rfl (r _ _ ?_)
  refine ae.intro (λa=>?_) (λa=>?_)
  ·have s:l.length<10:=by simp at a;omega
   refine Loop.rule (λm x e=> ∃i:Nat,x=((i:Int),())/\e=g/\m=l.length-i/\i<=l.length/\ ∀c∈l.take i,128<=c.toNat) ?_ ⟨0,rfl,rfl,rfl,by omega,by simp⟩;rintro S m _ e ⟨i,rfl,T,rfl,U,u⟩ H;subst e;refine ae.intro (λv=>?_) (λv=>?_)
   ·have w:i<l.length:=by simpa using v
    obtain⟨c,y⟩: ∃c,l[i]? =some c:=⟨_,A2 w⟩;refine⟨⟨by dsimp only;omega,by dsimp only;omega⟩,?_⟩;dsimp only;rw[Ng (c:=c) (by rw[Cc];exact y)];refine ae.intro (λz=>?_) (λz=>?_)
    ·rw[if_neg] at d
     ·exact d
     ·rintro⟨_,k⟩;have:=k c (AF y);simp at z;omega
    ·rw[AZ (by omega)];refine H (l.length-(i+1)) _ _ (by omega) ⟨i+1,rfl,rfl,rfl,w,λx f=>?_⟩;rw[AD,y,CN] at f;rcases List.mem_append.1 f with f|f
     ·exact u x f
     ·simp at f;subst f;simp at z;omega
   ·have w:i=l.length:=by simp at v;omega
    rw[AE (by omega)] at u;rw[if_pos ⟨s,u⟩] at d;exact d
  ·have s: ¬l.length<10:=by simp at a;omega
   rw[if_neg (λe=>s e.1)] at d;refine ah.mk λI A=>ae.yes rfl (A _ _ (ae.yes rfl d))
 ·obtain⟨J,V⟩:=lP j;have W:t.length<=8796093022208:=by rw[J] at p;simp at p;omega
  have q:Gq l=if 1048576<b then(21,[],[]) else if t.length<4+b then(20,[],[])
    else if t.take 4=Qr (iS ((t.drop 4).take b)) then(0,(t.drop 4).take b,t.drop (4+b)) else(21,[],[]):=by unfold Gq;rw[j]
  rw[q] at d h;refine ah.mk λK r=>ae.no rfl (r _ _ (ae.no rfl ?_))
  refine ah.mk λI A=>ae.no rfl (A _ _ ?_)
  refine ae.intro (λa=>?_) (λa=>?_)
  ·have B:1048576<b:=by simp at a;omega
   rw[if_pos B] at d;exact d
  have B: ¬1048576<b:=by simp at a;omega
  rw[if_neg B] at d h;rw[AP];refine ah.mk λL M=>?_
  have key: ∀n:Bool,(n=true↔t.length<4+b)->L (n,()) g:=λn E=>by
   refine M _ _ ?_;refine ae.intro (λa=>?_) (λa=>?_)
   ·rw[if_pos (E.1 a)] at d;exact d
   have k: ¬t.length<4+b:=λe=>by have a:n=false:=a;rw[E.2 e] at a;cases a
   rw[if_neg k] at d h;have N:J8 .u64 ((4:Int)+(b:Int))=((4+b:Nat):Int):=by rw[show(4:Int)+(b:Int)=((4+b:Nat):Int) by simp];exact Ba (by omega)
   rw[N];refine⟨⟨by omega,by omega⟩,⟨by omega,by omega⟩,⟨by omega,by omega⟩,?_⟩;have O:(AX t).extract (4:Int).toNat ((4+b:Nat):Int).toNat=AX ((t.drop 4).take b):=by rw[show(4:Int).toNat=4 from rfl,As,AOa,List.drop_take];congr 2;omega
   have em:(AX t).extract 0 (4:Int).toNat=AX (t.take 4):=xw _ _;have F:(AX t).extract ((4+b:Nat):Int).toNat (AX t).size=AX (t.drop (4+b)):=by rw[As,Zh]
   rw[AP] at F;rw[O,em,F];refine xA (by simp;omega) ⟨_,rfl,?_⟩;refine xC λk Q=>⟨_,rfl,?_⟩
   have o:=h k Q;rw[CP];refine ae.intro (λa=>?_) (λa=>?_)
   ·rw[if_neg (by simp[Kc] at a;exact a)] at o;exact o
   ·rw[if_pos (by simp[Kc] at a;exact a)] at o;exact⟨⟨by omega,by omega⟩,o⟩
  refine ae.intro (λa=>key _ ⟨λ_=>by simp at a;omega,λ_=>rfl⟩) (λa=>key _ ?_);have X:4<=t.length:=by simp at a;omega
  have R:J8 .u64 (J8 J9 ((t.length:Int)-(4:Int)))=((t.length-4:Nat):Int):=by rw[show(t.length:Int)-(4:Int)=((t.length-4:Nat):Int) by omega,Fu (by omega),Ba (by omega)]
  rw[R];simp;omega
theorem FP.mk {b:aa}{a:Q6}{K:Option Nat->Prop}{n:Option Nat}(c:ag b a=some (.map n))(d:K n):FP b a K:=⟨n,c,d⟩
theorem jn:P.underlying Bz=some (.map Ar uy):=by kernel_rfl
theorem kR:(zeroValue uy).calc P=some (J5 none):=by kernel_rfl
abbrev eV(a:List (Fi×Nat)):List (A2P×J0):=a.map λp=>(p.1.name,Az p.2)
structure EQ (h:aa) (b r:Nat) (kv:List (Fi×Nat)) (m:Bx):Prop where
 head:h[b]? =some (J2 #[.map (some r),J6 J9 m.fuel,J3 m.down] ZP (0,0))
 map:MO h r (eV kv)
 cells: ∀p∈kv,h[p.2]? =some (J2 #[J7 p.1.bU,J7 p.1.soft] Rv (0,0))
 perm:(kv.map (·.1)).Perm m.files
 nodup:(kv.map (·.2)).Nodup
 aO:FB m
def KR(b a:Nat)(d:List (Fi×Nat))(c:Nat):Prop:=c=b\/c=a\/ ∃p∈d,p.2=c
def Cf(e:aa)(b:Nat)(f:Nat->Prop)(m:Bx):Prop:= ∃a d,EQ e b a d m/\ ∀c,f c↔KR b a d c
theorem EQ.fy {e:aa}{b a:Nat}{f:List (Fi×Nat)}{m:Bx}(c:EQ e b a f m):a≠b:=by rintro rfl;obtain⟨g,h,d,_⟩:=c.map;rw[c.head] at d;cases d
theorem EQ.eg {g:aa}{b e:Nat}{f:List (Fi×Nat)}{m:Bx}(c:EQ g b e f m){p:Fi×Nat}(h:p∈f):p.2≠b/\p.2≠e:=by
 have a:=c.cells p h;constructor
 ·intro d;rw[d,c.head] at a;cases a
 ·intro d;obtain⟨j,k,i,_⟩:=c.map;rw[d,i] at a;cases a
theorem EQ.lt {d:aa}{b e:Nat}{f:List (Fi×Nat)}{m:Bx}(a:EQ d b e f m){c:Nat}(g:KR b e f c):c<d.size:=by
 rcases g with rfl|rfl|⟨p,h,rfl⟩
 ·exact Af a.head
 ·exact a.map.lt
 ·exact Af (a.cells p h)
theorem Cf.lt {d:aa}{b:Nat}{e:Nat->Prop}{m:Bx}(a:Cf d b e m){c:Nat}(f:e c):c<d.size:=by obtain⟨h,i,a,g⟩:=a;exact a.lt ((g c).1 f)
theorem Cf.aO {c:aa}{b:Nat}{d:Nat->Prop}{m:Bx}(a:Cf c b d m):FB m:=by obtain⟨e,f,a,g⟩:=a;exact a.aO
theorem EQ.mod {g h:aa}{b d:Nat}{e:List (Fi×Nat)}{m:Bx}{T:Nat->Prop}(a:EQ g b d e m)(x:Mod T g h)(f: ∀c,KR b d e c-> ¬T c):EQ h b d e m:=
 ⟨x.af a.head (f _ (.inl rfl)),a.map.mod x (f _ (.inr (.inl rfl))),λp i=>x.af (a.cells p i) (f _ (.inr (.inr ⟨p,i,rfl⟩))),a.perm,a.nodup,a.aO⟩
theorem Cf.mod {e f:aa}{b:Nat}{a T:Nat->Prop}{m:Bx}(d:Cf e b a m)(x:Mod T e f)(h: ∀c,a c-> ¬T c):Cf f b a m:=by obtain⟨i,j,d,g⟩:=d;exact⟨i,j,d.mod x λc k=>h c ((g c).2 k),g⟩
theorem Cf.ext {a c:aa}{b:Nat}{d:Nat->Prop}{m:Bx}(e:Cf a b d m)(x:Ext a c):Cf c b d m:=e.mod x λ_ _ a=>a
theorem EQ.hd {f d:aa}{b e:Nat}{h:List (Fi×Nat)}{m c:Bx}(a:EQ f b e h m)(j:d[b]? =some (J2 #[.map (some e),J6 J9 c.fuel,J3 c.down] ZP (0,0)))(x:Mod (· =b) f d)(k:c.files=m.files)(g:FB c):EQ d b e h c:=
 ⟨j,a.map.mod x a.fy,λp i=>x.af (a.cells p i) (a.eg i).1,by rw[k];exact a.perm,a.nodup,g⟩
theorem rZ(a:A2P): ∀b:List (Fi×Nat),Ld a (eV b)=(b.find? λp=>decide (p.1.name=a)).map λp=>Az p.2
 | []=>rfl
 |p::b=>by
  show Ld a ((p.1.name,Az p.2)::eV b)=_;rw[GV,rZ a b,DO];by_cases c:p.1.name=a<;>simp[c]
theorem EQ.mem {a:aa}{b e:Nat}{d:List (Fi×Nat)}{m:Bx}(g:EQ a b e d m){f:Fi}:f∈m.files↔ ∃c,(f,c)∈d:=by
 rw[<- g.perm.mem_iff];constructor
 ·intro a;obtain⟨p,h,rfl⟩:=List.mem_map.1 a;exact⟨p.2,h⟩
 ·rintro⟨c,i⟩;exact List.mem_map.2 ⟨_,i,rfl⟩
theorem EQ.look {j:aa}{b k:Nat}{d:List (Fi×Nat)}{m:Bx}(g:EQ j b k d m)(a:A2P):
  (Ld a (eV d)=none/\CZ a m.files=none)\/ ∃p∈d,Ld a (eV d)=some (Az p.2)/\CZ a m.files=some p.1/\p.1.name=a:=by
 rw[rZ];cases e:d.find? λp=>decide (p.1.name=a) with
 |none=>
  refine .inl ⟨rfl,AIM λf l=>?_⟩;obtain⟨c,n⟩:=g.mem.1 l;rw[HE] at e;simpa using e _ n
 |some p=>
  have h:p.1.name=a:=by simpa using Ix e
  have i:=ID e;refine .inr ⟨p,i,rfl,?_,h⟩;rw[<- h];exact g.aO.sorted.find (g.mem.2 ⟨p.2,i⟩)
theorem Ex.uniq {l:List Fi}(s:Ex l){x a:Fi}(c:x∈l)(d:a∈l)(e:x.name=a.name):x=a:=by have b:=s.find c;rw[e,s.find d] at b;exact(Bs b).symm
theorem AHw {a:List (Fi×Nat)}{l:List Fi}(p:(a.map (·.1)).Perm l)(s:Ex l):(a.map λb=>b.1.name).Nodup:=by
 have c:(l.map (·.name)).Nodup:=by refine List.pairwise_map.2 (s.imp λd=>OU d)
 have e:(a.map λb=>b.1.name).Perm (l.map (·.name)):=by have:=p.map (·.name);simpa [B9,G4] using this
 exact(e.nodup_iff).2 c
theorem EQ.inj {f:aa}{b g:Nat}{c:List (Fi×Nat)}{m:Bx}(d:EQ f b g c m){p a:Fi×Nat}(h:p∈c)(j:a∈c)(k:p.1.name=a.1.name):p=a:=by
 have l:=AHw d.perm d.aO.sorted;obtain⟨i,n,rfl⟩:=DA h;obtain⟨e,o,rfl⟩:=DA j;have:i=e:=by
  have q:i<(c.map λa=>a.1.name).length:=by simpa using n
  have r:e<(c.map λa=>a.1.name).length:=by simpa using o
  refine(LN (h₀:=q) (h₁:=r) l).1 ?_;simpa using k
 subst this;rfl
theorem EQ.set {k h':aa}{b l:Nat}{d:List (Fi×Nat)}{m:Bx}(c:EQ k b l d m){p:Fi×Nat}(h:p∈d){g:Fi->Fi}(q: ∀f,(g f).name=f.name)
  (r:h'[p.2]? =some (J2 #[J7 (g p.1).bU,J7 (g p.1).soft] Rv (0,0))) (x:Mod (· =p.2) k h') (s:FB {m with files:=Pw p.1.name g m.files}):
  EQ h' b l (d.map λa=>(if a.1.name=p.1.name then g a.1 else a.1,a.2)) {m with files:=Pw p.1.name g m.files}:=by
 refine⟨x.af c.head (c.eg h).1.symm,?_,?_,?_,?_,s⟩
 ·have e:eV (d.map λa=>(if a.1.name=p.1.name then g a.1 else a.1,a.2))=eV d:=by
   simp only[eV,B9];refine CT λa _=>?_
   simp only[Function.comp];split<;>simp[q]
  rw[e];exact c.map.mod x (c.eg h).2.symm
 ·intro a t;obtain⟨n,j,rfl⟩:=List.mem_map.1 t;simp only;by_cases e:n.1.name=p.1.name
  ·rw[if_pos e];have:=c.inj j h e;subst this;exact r
  ·rw[if_neg e];refine x.af (c.cells n j) λu=>e ?_
   have v:=c.nodup;obtain⟨i,w,rfl⟩:=DA h;obtain⟨o,y,rfl⟩:=DA j;have:o=i:=by
    have z:i<(d.map (·.2)).length:=by simpa using w
    have A:o<(d.map (·.2)).length:=by simpa using y
    refine(LN (h₀:=A) (h₁:=z) v).1 ?_;simpa using u
   subst this;rfl
 ·have B:=c.perm.map λf=>if f.name=p.1.name then g f else f
  simpa [Pw,B9,G4] using B
 ·simpa [B9,G4] using c.nodup
theorem sd {b f:Nat}{h:List (Fi×Nat)}{g:Fi×Nat->Fi}(c:Nat):KR b f (h.map λd=>(g d,d.2)) c↔KR b f h c:=by
 unfold KR;constructor
 ·rintro(a|a|⟨p,e,rfl⟩)
  ·exact .inl a
  ·exact .inr (.inl a)
  ·obtain⟨d,i,rfl⟩:=List.mem_map.1 e;exact .inr (.inr ⟨d,i,rfl⟩)
 ·rintro(a|a|⟨p,e,rfl⟩)
  ·exact .inl a
  ·exact .inr (.inl a)
  ·exact .inr (.inr ⟨_,List.mem_map.2 ⟨p,e,rfl⟩,rfl⟩)
theorem se {b:A2P}{v:J0}: ∀ {m:List (A2P×J0)},Ld b m=none->Rs b v m=m++ [(b,v)]
 | [],_=>rfl
 |p::m,a=>by
  rw[GV] at a;split at a
  ·cases a
  ·rename_i c;unfold Rs;rw[if_neg c,se a];rfl
theorem kS {d:ak}{a:aa}{b:Nat}{e f:J0}{down:Bool}{T:Q7}{c:A2O}(g:a[b]? =some (J2 #[e,f,J3 down] T (0,0)))(h:c (J3 down) a):
  AA d P Gg #[Az b] a c:=by
 refine ACN ?_;unfold V9;exact ae.no rfl (aF (Ac.mk (AB g rfl) h))
theorem AOx {f:ak}{d:aa}{b:A2P}{e:A2O}(a:e (J3 (LD b)) d):AA f P Ti #[J7 b] d e:=by
 refine AGA ?_;unfold tA;unfold LD at a;rw[CP];refine ae.intro (λc=>?_) (λc=>?_)
 ·rw[c] at a;exact a
 ·rw[c] at a;have g:decide ((b.size:Int)>(32:Int))=decide (b.size>32):=by rw[decide_eq_decide];omega
  rw[g];simpa using a
def mF(fuel:Int):Int:=if fuel>0 then fuel-1 else fuel
theorem ARA {o:ak}{d:aa}{b:Nat}{h:J0}{fuel:Int}{down:Bool}{T:Q7}{i:A2O}(f:d[b]? =some (J2 #[h,J6 J9 fuel,J3 down] T (0,0)))(q: -1<=fuel)(r:fuel<=9223372036854775807)
  (p:fuel=0-> ∀a,a[b]? =some (J2 #[h,J6 J9 fuel,J3 true] T (0,0))->Mod (· =b) d a->a.size=d.size->i (J3 false) a)
  (e:fuel≠0-> ∀a,a[b]? =some (J2 #[h,J6 J9 (mF fuel),J3 down] T (0,0))->Mod (· =b) d a->a.size=d.size->i (J3 true) a):AA o P G6 #[Az b] d i:=by
 refine ABE ?_;unfold TP;refine aF (AC.mk (AB f rfl) ?_);refine ae.intro (λc=>?_) (λc=>?_)
 ·refine aF (ab.dj f (by simp) λj g k l=>?_);exact p (by simpa using c) j (by simpa using g) k l
 ·have c:fuel≠0:=by simpa using c
  have e:=e c;unfold mF at e;refine ah.mk λK n=>?_
  refine aF (AC.mk (AB f rfl) ?_);refine ae.intro (λc=>?_) (λc=>?_)
  ·have m:fuel>0:=by simpa using c
   rw[if_pos m] at e;refine aF (AC.mk (AB f rfl) (aF (ab.dj f (by simp) λj g k l=>n _ _ ?_)));rw[wrap_i64 (by omega) (by omega)] at g;exact e j (by simpa using g) k l
  ·have m: ¬fuel>0:=by simpa using c
   rw[if_neg m] at e;exact n _ _ (e d f Mod.refl rfl)
theorem JM(m:Bx):(G5 m).fuel=mF m.fuel/\(G5 m).down=m.down/\(G5 m).files=m.files:=by unfold G5 mF;split<;>simp
theorem AJo {m:Bx}(g:FB m):FB (G5 m):=by have:=g.tick m.files g.sorted g.names g.wt;rwa [<- (JM m).2.2] at this
theorem EQ.iX {p:ak}{e:aa}{b f:Nat}{g:List (Fi×Nat)}{m:Bx}(d:EQ e b f g m){i:A2O}
  (q:m.fuel=0-> ∀a,EQ a b f g (Mv m)->Mod (KR b f g) e a->i (J3 false) a)
  (r:m.fuel≠0-> ∀a,EQ a b f g (G5 m)->Mod (KR b f g) e a->a.size=e.size->i (J3 true) a):AA p P G6 #[Az b] e i:=by
 refine ARA d.head d.aO.lo d.aO.hi (λj k l h o=>?_) (λj k l h o=>?_)
 ·exact q j k (d.hd l h rfl d.aO.off) (h.ai λc _ n=> .inl n)
 ·obtain⟨s,t,u⟩:=JM m;refine r j k (d.hd ?_ h u (AJo d.aO)) (h.ai λc _ n=> .inl n) o;rw[s,t];exact l
theorem EQ.fA {d:aa}{b a:Nat}{e:List (Fi×Nat)}{m:Bx}(i:EQ d b a e m){p:Fi×Nat}(f:p∈e){data:A2P}(l:FB {m with files:=Pw p.1.name (Rk data) m.files}){K:aa->Prop}
  (r: ∀j n,EQ j b a n {m with files:=Pw p.1.name (Rk data) m.files}->Mod (KR b a e) d j->(∀ c,KR b a n c↔KR b a e c)->K j):
  At (some ⟨p.2,0,none⟩) λs=>AJ d (s.add 1) λt=>aH (((t.size+data.size:Nat):Int)<=IntKind.i64.max)<|At (some ⟨p.2,0,none⟩) λu=>ab d (u.add 1) (J7 (t++data)) K:=by
 have h:=i.cells p f;refine aF (AJ.mk (AB h rfl) ⟨?_,aF (ab.dj h (by simp) λo v q y=>?_)⟩)
 ·have o:bd (Pw p.1.name (Rk data) m.files)<=8796093022208:=l.wt;have w:Rk data p.1∈Pw p.1.name (Rk data) m.files:=by refine List.mem_map.2 ⟨p.1,i.mem.2 ⟨p.2,f⟩,by simp⟩
  have x:=nF w;simp only[Rk,vK] at x;simp[IntKind.max,IntKind.bits,IntKind.signed];omega
 ·exact r o _ (i.set f (g:=Rk data) (λ_=>rfl) (by simpa [Rk] using v) q l) (q.ai λc _ h=> .inr (.inr ⟨p,f,h.symm⟩)) (λc=>sd (g:=λk=>if k.1.name=p.1.name then Rk data k.1 else k.1) c)
theorem si {S:ak}{g:aa}{b:Nat}{l:Nat->Prop}{m:Bx}{name data:A2P}{L:A2O}(k:Cf g b l m)(T:bd m.files+data.size+1<=8796093022208)
  (h: ∀B S',Cf B b S' (DY m name data).2->Mod l g B->(∀ c,S' c->l c\/g.size<=c)->L (J6 J9 (DY m name data).1) B):AA S P JY #[Az b,J7 name,J7 data] g L:=by
 have n:=k.aO.append (name:=name) (data:=data) T;obtain⟨j,o,k,s⟩:=k;refine Xk ?_;unfold Qb;refine kS k.head ⟨_,rfl,?_⟩;unfold DY at h n;refine ae.intro (λhd=>?_) (λhd=>?_)
 ·rw[if_pos hd] at h;exact h g l ⟨j,o,k,s⟩ Mod.refl (λc d=> .inl d)
 rw[if_neg (by simp[hd])] at h n;refine AOx ⟨_,rfl,?_⟩;refine ae.intro (λw=>?_) (λw=>?_)
 ·rw[if_pos w] at h;exact h g l ⟨j,o,k,s⟩ Mod.refl (λc d=> .inl d)
 rw[if_neg (by simp[w])] at h n;have C: ∀ {q:aa},Mod (KR b j o) g q->Mod l g q:=λr=>r.ai λc _ d=>(s c).2 d
 refine k.iX (λD q i r=>⟨_,rfl,?_⟩) (λD q i r ag=>⟨_,rfl,?_⟩)
 ·rw[if_pos D] at h;exact ae.yes rfl (h q l ⟨j,o,i,s⟩ (C r) (λc d=> .inl d))
 rw[if_neg D] at h n;refine ae.no rfl ?_;refine aF (FP.mk (AL i.head rfl) (N9 jn Kj kR i.map ?_));rcases i.look name with⟨x,E⟩|⟨p,e,x,E,U⟩
 ·
  rw[x];refine⟨none,rfl,ah.mk λK F=>ae.yes rfl ?_⟩;refine al.mk λai _ V M aj=>?_
  have t:=i.mod M (λ_ _ g=>g);refine aF (FP.mk (AL t.head rfl) ?_);have W:name.size<=32:=by simp[LD] at w;omega
  have am:=Uw (G5 m).files;have X:o.length=(G5 m).files.length:=by rw[<- i.perm.length_eq];simp
  rw[(JM m).2.2] at X;have an:=Uw m.files;refine ZW jn Kj t.map (by simp[maxLen];omega) (by simp[eV,maxLen];omega) λN O y ao=>?_
  rw[se x] at O;have Y:=y.af V (by have:=i.map.lt;omega);have u:=E;rw[(JM m).2.2] at u;have G:T9 name m.files=gE ⟨name,bo,bo⟩ m.files:=by unfold T9;rw[u];rfl
  have Z:=Rt u;have ab:=vH ⟨name,bo,bo⟩ m.files;simp only[lI] at ab;have ac:EQ N b j (o++ [(⟨name,bo,bo⟩,q.size)]) {G5 m with files:=gE ⟨name,bo,bo⟩ m.files}:=by
   refine⟨y.af t.head t.fy.symm,?_,?_,?_,?_,?_⟩
   ·rw[eV,Cd];exact O
   ·intro p e;rcases List.mem_append.1 e with e|e
    ·exact y.af (t.cells p e) (t.eg e).2
    ·simp at e;subst e;exact Y
   ·rw[Cd];refine(UP _ _).trans (((i.perm.trans (List.Perm.of_eq (JM m).2.2)).cons _).trans (N7 _ _).symm)
   ·rw[Cd];refine List.nodup_append.2 ⟨i.nodup,by simp,?_⟩;intro a ad c d;obtain⟨p,e,rfl⟩:=List.mem_map.1 ad;simp at d;subst d;have:=Af (i.cells p e);omega
   ·refine k.aO.tick _ (UJ k.aO.sorted Z) (λf H=>?_) (by omega);rcases List.mem_cons.1 ((N7 _ _).subset H) with rfl|H
    ·exact W
    ·exact k.aO.names f H
  refine F _ _ ?_;rw[G] at h n;refine ac.fA (p:=(⟨name,bo,bo⟩,q.size)) (by simp) (data:=data) n λI v z J A=>?_
  have Q: ∀c,KR b j v c->KR b j o c\/g.size<=c:=λc d=>by
   rcases(A c).1 d with g|g|⟨p,e,rfl⟩
   ·exact .inl (.inl g)
   ·exact .inl (.inr (.inl g))
   ·rcases List.mem_append.1 e with e|e
    ·exact .inl (.inr (.inr ⟨p,e,rfl⟩))
    ·simp at e;subst e;exact .inr (by have:=r.size;simpa using this)
  refine h I (KR b j v) ⟨j,v,z,λ_=>DB⟩ ?_ (λc d=>(Q c d).imp (s c).2 id);have af:Mod (KR b j o) q N:=M.mod.trans (y.ai λc _ d=> .inr (.inl d));refine C ((r.trans af).then (J.ai λc _ d=>Q c ((A c).2 d)))
 ·
  rw[x];refine⟨some ⟨p.2,0,none⟩,rfl,ah.mk λK F=>ae.no rfl (F _ _ ?_)⟩;have u:=E;rw[(JM m).2.2] at u;have G:T9 name m.files=m.files:=by unfold T9;rw[u];rfl
  rw[G] at h n;subst U;have R:=(JM m).2.2;refine i.fA e (data:=data) (by rw[R];exact n) λI v z J A=>?_
  refine h I l ⟨j,v,by rw[R] at z;exact z,λc=>(s c).trans (A c).symm⟩ (C (r.trans J)) (λc d=> .inl d)
theorem sj {D:ak}{e:aa}{b:Nat}{o:Nat->Prop}{m:Bx}{name:A2P}{x:A2O}(a:Cf e b o m)
  (d: ∀h',Cf h' b o (F9 m name).2->Mod o e h'->x (J6 J9 (F9 m name).1) h'):AA D P Kn #[Az b,J7 name] e x:=by
 have i:=a.aO.sync (name:=name);obtain⟨j,q,a,k⟩:=a;refine ABM ?_;unfold Ud;refine kS a.head ⟨_,rfl,?_⟩;unfold F9 at d i;have y: ∀ {l:aa},Mod (KR b j q) e l->Mod o e l:=λn=>n.ai λc _ f=>(k c).2 f
 refine ae.intro (λhd=>?_) (λhd=>?_)
 ·rw[if_pos hd] at d;exact d e ⟨j,q,a,k⟩ Mod.refl
 rw[if_neg (by simp[hd])] at d i;refine aF (FP.mk (AL a.head rfl) (N9 jn Kj kR a.map ?_));rcases a.look name with⟨r,s⟩|⟨p,t,r,s,E⟩
 ·rw[r];rw[s] at d;exact⟨none,rfl,ae.yes rfl (d e ⟨j,q,a,k⟩ Mod.refl)⟩
 rw[r];rw[s,if_neg (by simp)] at d i;refine⟨some ⟨p.2,0,none⟩,rfl,ae.no rfl ?_⟩;refine a.iX (λu l h n=>⟨_,rfl,?_⟩) (λu l h n H=>⟨_,rfl,?_⟩)
 ·rw[if_pos u] at d;exact ae.yes rfl (d l ⟨j,q,h,k⟩ (y n))
 rw[if_neg u] at d i;refine ae.no rfl ?_;refine aF (FP.mk (AL h.head rfl) (N9 jn Kj kR h.map ?_));rw[r];refine⟨some ⟨p.2,0,none⟩,rfl,?_⟩;have f:=h.cells p t;refine aF (AJ.mk (AL f rfl) (aF (AJ.mk (AB f rfl) ⟨?_,?_⟩)))
 ·have v:=nF (KF s).2;have:=a.aO.wt;simp[IntKind.max,IntKind.bits,IntKind.signed];omega
 refine aF (ab.mk f (by simp) λI F z J=>aF (ab.dj F (by simp) λv G A K=>?_));subst E;have B:=(JM m).2.2;have C:=h.set t (h':=v) (g:=R5) (λ_=>rfl) (by simpa [R5] using G) (z.trans A) (by rw[B];exact i);rw[B] at C;refine d v ⟨j,_,C,λc=>(k c).trans (sd (g:=λw=>if w.1.name=p.1.name then R5 w.1 else w.1) c).symm⟩ (y (n.trans ((z.trans A).ai λc _ f=> .inr (.inr ⟨p,t,f.symm⟩))))
theorem oQ {j:ak}{f:aa}{b:Nat}{k:Nat->Prop}{m:Bx}{d:A2P}{h:A2O}(a:Cf f b k m)
  (c:h (J1 #[J7 (UD m d).1,J6 J9 (UD m d).2]) f):AA j P Iq #[Az b,J7 d] f h:=by
 obtain⟨n,o,a,q⟩:=a;refine AA3 ?_;unfold TI;refine kS a.head ⟨_,rfl,?_⟩;unfold UD at c;refine ae.intro (λhd=>?_) (λhd=>?_)
 ·rw[if_pos hd] at c;exact c
 rw[if_neg (by simp[hd])] at c;refine aF (FP.mk (AL a.head rfl) (N9 jn Kj kR a.map ?_));rcases a.look d with⟨g,e⟩|⟨p,l,g,e,r⟩
 ·rw[g];rw[e] at c;exact⟨none,rfl,ae.yes rfl c⟩
 rw[g];rw[e] at c;refine⟨some ⟨p.2,0,none⟩,rfl,ae.no rfl ?_⟩;have i:=a.cells p l;refine aF (AJ.mk (AL i rfl) (aF (AJ.mk (AB i rfl) ⟨?_,c⟩)));have s:=nF (KF e).2;have:=a.aO.wt;simp[IntKind.max,IntKind.bits,IntKind.signed];omega
theorem AQV(a:A2P)(b:List (Fi×Nat)):ir a (eV b)=eV (b.filter λp=> !decide (p.1.name=a)):=by unfold ir eV;rw[Pa];rfl
theorem Wp {C:ak}{a:aa}{b:Nat}{i:Nat->Prop}{m:Bx}{name:A2P}{x:A2O}(d:Cf a b i m)
  (e: ∀s S',Cf s b S' (Gl m name).2->Mod i a s->(∀ c,S' c->i c)->x (J6 J9 (Gl m name).1) s):AA C P Gz #[Az b,J7 name] a x:=by
 have k:=d.aO.delete (name:=name);obtain⟨j,l,d,n⟩:=d;refine Yg ?_;unfold QT;refine kS d.head ⟨_,rfl,?_⟩;unfold Gl at e k;have y: ∀ {g:aa},Mod (KR b j l) a g->Mod i a g:=λo=>o.ai λc _ q=>(n c).2 q
 refine ae.intro (λhd=>?_) (λhd=>?_)
 ·rw[if_pos hd] at e;exact e a i ⟨j,l,d,n⟩ Mod.refl (λ_ a=>a)
 rw[if_neg (by simp[hd])] at e k;refine aF (FP.mk (AL d.head rfl) (N9 jn Kj kR d.map ?_));rcases d.look name with⟨t,u⟩|⟨p,z,t,u,F⟩
 ·rw[t];rw[u] at e;exact⟨none,rfl,ae.yes rfl (e a i ⟨j,l,d,n⟩ Mod.refl (λ_ a=>a))⟩
 rw[t];rw[u,if_neg (by simp)] at e k;refine⟨some ⟨p.2,0,none⟩,rfl,ae.no rfl ?_⟩;refine d.iX (λv g h o=>⟨_,rfl,?_⟩) (λv g h o G=>⟨_,rfl,?_⟩)
 ·rw[if_pos v] at e;exact ae.yes rfl (e g i ⟨j,l,h,n⟩ (y o) (λ_ a=>a))
 rw[if_neg v] at e k;refine ae.no rfl ?_;refine aF (FP.mk (AL h.head rfl) (AMI jn Kj h.map λA B w H=>⟨rfl,?_⟩));rw[AQV] at B;have I:=(JM m).2.2;have D:EQ A b j (l.filter λp=> !decide (p.1.name=name)) {G5 m with files:=Pv name m.files}:=by
  refine⟨w.af h.head h.fy.symm,B,λE r=>?_,?_,?_,k⟩
  ·have r:=(List.mem_filter.1 r).1;exact w.af (h.cells E r) (h.eg r).2
  ·have g:=d.perm.filter λf=> !decide (f.name=name)
   rw[Pa] at g;exact g
  ·exact(List.filter_sublist.map _).nodup d.nodup
 refine e A (KR b j _) ⟨j,_,D,λ_=>DB⟩ (y (o.trans (w.ai λc _ q=> .inr (.inl q)))) (λc q=>(n c).2 ?_);rcases q with a|a|⟨p,z,rfl⟩
 ·exact .inl a
 ·exact .inr (.inl a)
 ·exact .inr (.inr ⟨p,(List.mem_filter.1 z).1,rfl⟩)
theorem AQc {h:ak}{a:aa}{e:A2O}(i: ∀b d f,Cf d b f kg->Ext a d->(∀ c,f c->a.size<=c)->e (Az b) d):AA h P ZZ #[] a e:=by
 refine AKf ?_;unfold tI;refine al.mk λj _ k l q=>al.mk λm _ n g r=>?_
 refine i _ m (KR j.size a.size []) ⟨_,[],⟨n,MO.empty (g.af k (by simp)),by simp,IF _,by simp,AMu⟩,λ_=>DB⟩ (l.trans g) ?_;rintro c (rfl|rfl|⟨p,o,_⟩)
 ·omega
 ·exact A0 _
 ·cases o
end Go.Lf.G
namespace Go.Proofs
open Go.Shelf
def Tryz.cA:Go.Shelf.Ren:=⟨λ|105=>162|212=>189|99=>190|165=>191|166=>192|170=>193|169=>194|263=>227|264=>228|206=>229|240=>230|241=>231|276=>253|277=>254|a=>a,λ|9=>9|3=>3|4=>4|20=>20|0=>0|46=>158|109=>286|5=>5|72=>290|76=>247|51=>155|146=>156|53=>112|148=>319|70=>288|37=>69|75=>246|127=>321|164=>342|80=>131|a=>a,λ|a=>a⟩
theorem Tryz.cG:Go.Proofs.Lays.n105 Tryz.prog Tryz.cA:= {
 mixed:=by kernel_rfl
 f99:=Tryz.func190.trans (congrArg some (by kernel_rfl))
 f105:=Tryz.func162.trans (congrArg some (by kernel_rfl))
 f165:=Tryz.func191.trans (congrArg some (by kernel_rfl))
 f166:=Tryz.func192.trans (congrArg some (by kernel_rfl))
 f169:=Tryz.func194.trans (congrArg some (by kernel_rfl))
 f170:=Tryz.func193.trans (congrArg some (by kernel_rfl))
 f206:=Tryz.func229.trans (congrArg some (by kernel_rfl))
 f212:=Tryz.func189.trans (congrArg some (by kernel_rfl))
 f240:=Tryz.func230.trans (congrArg some (by kernel_rfl))
 f241:=Tryz.func231.trans (congrArg some (by kernel_rfl))
 f263:=Tryz.func227.trans (congrArg some (by kernel_rfl))
 f264:=Tryz.func228.trans (congrArg some (by kernel_rfl))
 f276:=Tryz.func253.trans (congrArg some (by kernel_rfl))
 f277:=Tryz.func254.trans (congrArg some (by kernel_rfl))
 t0:=Tryz.underlying0
 a0:=Tryz.isAgg0
 z0:=Tryz.sizeOf0
 v0:=Tryz.zeroValue0
 t3:=Tryz.underlying3
 a3:=Tryz.isAgg3
 z3:=Tryz.sizeOf3
 v3:=Tryz.zeroValue3
 t4:=Tryz.underlying4
 a4:=Tryz.isAgg4
 z4:=Tryz.sizeOf4
 v4:=Tryz.zeroValue4
 t5:=Tryz.underlying5
 a5:=Tryz.isAgg5
 z5:=Tryz.sizeOf5
 v5:=Tryz.zeroValue5
 t9:=Tryz.underlying9
 a9:=Tryz.isAgg9
 z9:=Tryz.sizeOf9
 v9:=Tryz.zeroValue9
 t20:=Tryz.underlying20
 a20:=Tryz.isAgg20
 z20:=Tryz.sizeOf20
 v20:=Tryz.zeroValue20
 t37:=Tryz.underlying69
 a37:=Tryz.isAgg69
 z37:=Tryz.sizeOf69
 v37:=Tryz.zeroValue69
 t46:=Tryz.underlying158
 a46:=Tryz.isAgg158
 z46:=Tryz.sizeOf158
 v46:=Tryz.zeroValue158
 t51:=Tryz.underlying155
 a51:=Tryz.isAgg155
 z51:=Tryz.sizeOf155
 v51:=Tryz.zeroValue155
 t53:=Tryz.underlying112
 a53:=Tryz.isAgg112
 z53:=Tryz.sizeOf112
 v53:=Tryz.zeroValue112
 t70:=Tryz.underlying288
 a70:=Tryz.isAgg288
 z70:=Tryz.sizeOf288
 v70:=Tryz.zeroValue288
 t72:=Tryz.underlying290
 a72:=Tryz.isAgg290
 z72:=Tryz.sizeOf290
 v72:=Tryz.zeroValue290
 t75:=Tryz.underlying246
 a75:=Tryz.isAgg246
 z75:=Tryz.sizeOf246
 v75:=Tryz.zeroValue246
 t76:=Tryz.underlying247
 a76:=Tryz.isAgg247
 z76:=Tryz.sizeOf247
 v76:=Tryz.zeroValue247
 t109:=Tryz.underlying286
 a109:=Tryz.isAgg286
 z109:=Tryz.sizeOf286
 v109:=Tryz.zeroValue286
 t127:=Tryz.underlying321
 a127:=Tryz.isAgg321
 z127:=Tryz.sizeOf321
 v127:=Tryz.zeroValue321
 t146:=Tryz.underlying156
 a146:=Tryz.isAgg156
 z146:=Tryz.sizeOf156
 v146:=Tryz.zeroValue156
 t148:=Tryz.underlying319
 a148:=Tryz.isAgg319
 z148:=Tryz.sizeOf319
 v148:=Tryz.zeroValue319
 t164:=Tryz.underlying342
 a164:=Tryz.isAgg342
 z164:=Tryz.sizeOf342
 v164:=Tryz.zeroValue342}
theorem Tryz.dJ:Builder.Extra Tryz.prog Tryz.cA:= {
 sizeBuilder:=by kernel_rfl
 liesBuilder:=by kernel_rfl
 t5:=Tryz.cG.t5
 a5:=Tryz.cG.a5
 z5:=Tryz.cG.z5
 v5:=Tryz.cG.v5
 infoByte:=by kernel_rfl
 cellsByte:=by kernel_rfl
 sizeByte:=by kernel_rfl
 neB5:=by decide}
theorem Tryz.hZ:Lays.n166 Tryz.prog Tryz.cA:= {Tryz.cG with}
theorem Tryz.ia:Lays.n169 Tryz.prog Tryz.cA:= {Tryz.cG with}
def Tryz.eN:Go.Shelf.Ren:=⟨λ|103=>185|210=>214|206=>229|a=>a,λ|9=>9|4=>4|24=>280|3=>3|a=>a,λ|a=>a⟩
theorem Tryz.ib:Go.Proofs.Lays.n103 Tryz.prog Tryz.eN:= {
 mixed:=by kernel_rfl
 f103:=Tryz.func185.trans (congrArg some (by kernel_rfl))
 f206:=Tryz.func229.trans (congrArg some (by kernel_rfl))
 f210:=Tryz.func214.trans (congrArg some (by kernel_rfl))
 t3:=Tryz.underlying3
 a3:=Tryz.isAgg3
 z3:=Tryz.sizeOf3
 v3:=Tryz.zeroValue3
 t4:=Tryz.underlying4
 a4:=Tryz.isAgg4
 z4:=Tryz.sizeOf4
 v4:=Tryz.zeroValue4
 t9:=Tryz.underlying9
 a9:=Tryz.isAgg9
 z9:=Tryz.sizeOf9
 v9:=Tryz.zeroValue9
 t24:=Tryz.underlying280
 a24:=Tryz.isAgg280
 z24:=Tryz.sizeOf280
 v24:=Tryz.zeroValue280}
def Tryz.cH:Go.Shelf.Ren:=⟨λ|14=>186|16=>215|17=>169|19=>245|20=>246|21=>202|22=>203|23=>204|24=>205|25=>238|27=>138|26=>239|28=>164|29=>197|30=>232|31=>233|32=>234|33=>235|35=>226|34=>255|36=>256|37=>257|38=>258|39=>272|40=>273|a=>a,λ|9=>9|3=>3|22=>112|24=>246|25=>282|4=>4|34=>296|5=>5|36=>158|37=>69|0=>0|39=>299|21=>21|44=>329|47=>321|50=>355|48=>353|2=>2|52=>322|55=>324|59=>346|60=>155|20=>20|61=>347|65=>362|66=>363|67=>131|a=>a,λ|0=>0|1=>1|2=>2|3=>4|4=>5|a=>a⟩
theorem Tryz.dK:Go.Proofs.LaysPu.n14 Tryz.prog Tryz.cH:= {
 mixed:=by kernel_rfl
 f14:=Tryz.func186.trans (congrArg some (by kernel_rfl))
 f16:=Tryz.func215.trans (congrArg some (by kernel_rfl))
 f17:=Tryz.func169.trans (congrArg some (by kernel_rfl))
 f19:=Tryz.func245.trans (congrArg some (by kernel_rfl))
 f20:=Tryz.func246.trans (congrArg some (by kernel_rfl))
 f21:=Tryz.func202.trans (congrArg some (by kernel_rfl))
 f22:=Tryz.func203.trans (congrArg some (by kernel_rfl))
 f23:=Tryz.func204.trans (congrArg some (by kernel_rfl))
 f24:=Tryz.func205.trans (congrArg some (by kernel_rfl))
 f25:=Tryz.func238.trans (congrArg some (by kernel_rfl))
 f26:=Tryz.func239.trans (congrArg some (by kernel_rfl))
 f27:=Tryz.func138.trans (congrArg some (by kernel_rfl))
 f28:=Tryz.func164.trans (congrArg some (by kernel_rfl))
 f29:=Tryz.func197.trans (congrArg some (by kernel_rfl))
 f30:=Tryz.func232.trans (congrArg some (by kernel_rfl))
 f31:=Tryz.func233.trans (congrArg some (by kernel_rfl))
 f32:=Tryz.func234.trans (congrArg some (by kernel_rfl))
 f33:=Tryz.func235.trans (congrArg some (by kernel_rfl))
 f34:=Tryz.func255.trans (congrArg some (by kernel_rfl))
 f35:=Tryz.func226.trans (congrArg some (by kernel_rfl))
 f36:=Tryz.func256.trans (congrArg some (by kernel_rfl))
 f37:=Tryz.func257.trans (congrArg some (by kernel_rfl))
 f38:=Tryz.func258.trans (congrArg some (by kernel_rfl))
 f39:=Tryz.func272.trans (congrArg some (by kernel_rfl))
 f40:=Tryz.func273.trans (congrArg some (by kernel_rfl))
 t0:=Tryz.underlying0
 a0:=Tryz.isAgg0
 z0:=Tryz.sizeOf0
 v0:=Tryz.zeroValue0
 i0:=by kernel_rfl
 t2:=Tryz.underlying2
 a2:=Tryz.isAgg2
 z2:=Tryz.sizeOf2
 v2:=Tryz.zeroValue2
 i2:=by kernel_rfl
 t3:=Tryz.underlying3
 a3:=Tryz.isAgg3
 z3:=Tryz.sizeOf3
 v3:=Tryz.zeroValue3
 i3:=by kernel_rfl
 t4:=Tryz.underlying4
 a4:=Tryz.isAgg4
 z4:=Tryz.sizeOf4
 v4:=Tryz.zeroValue4
 i4:=by kernel_rfl
 t5:=Tryz.underlying5
 a5:=Tryz.isAgg5
 z5:=Tryz.sizeOf5
 v5:=Tryz.zeroValue5
 i5:=by kernel_rfl
 t9:=Tryz.underlying9
 a9:=Tryz.isAgg9
 z9:=Tryz.sizeOf9
 v9:=Tryz.zeroValue9
 i9:=by kernel_rfl
 t20:=Tryz.underlying20
 a20:=Tryz.isAgg20
 z20:=Tryz.sizeOf20
 v20:=Tryz.zeroValue20
 i20:=by kernel_rfl
 t21:=Tryz.underlying21
 a21:=Tryz.isAgg21
 z21:=Tryz.sizeOf21
 v21:=Tryz.zeroValue21
 i21:=by kernel_rfl
 t22:=Tryz.underlying112
 a22:=Tryz.isAgg112
 z22:=Tryz.sizeOf112
 v22:=Tryz.zeroValue112
 i22:=by kernel_rfl
 t24:=Tryz.underlying246
 a24:=Tryz.isAgg246
 z24:=Tryz.sizeOf246
 v24:=Tryz.zeroValue246
 i24:=by kernel_rfl
 t25:=Tryz.underlying282
 a25:=Tryz.isAgg282
 z25:=Tryz.sizeOf282
 v25:=Tryz.zeroValue282
 i25:=by kernel_rfl
 t34:=Tryz.underlying296
 a34:=Tryz.isAgg296
 z34:=Tryz.sizeOf296
 v34:=Tryz.zeroValue296
 i34:=by kernel_rfl
 c34:=by kernel_rfl
 t36:=Tryz.underlying158
 a36:=Tryz.isAgg158
 z36:=Tryz.sizeOf158
 v36:=Tryz.zeroValue158
 i36:=by kernel_rfl
 t37:=Tryz.underlying69
 a37:=Tryz.isAgg69
 z37:=Tryz.sizeOf69
 v37:=Tryz.zeroValue69
 i37:=by kernel_rfl
 t39:=Tryz.underlying299
 a39:=Tryz.isAgg299
 z39:=Tryz.sizeOf299
 v39:=Tryz.zeroValue299
 i39:=by kernel_rfl
 t44:=Tryz.underlying329
 a44:=Tryz.isAgg329
 z44:=Tryz.sizeOf329
 v44:=Tryz.zeroValue329
 i44:=by kernel_rfl
 t47:=Tryz.underlying321
 a47:=Tryz.isAgg321
 z47:=Tryz.sizeOf321
 v47:=Tryz.zeroValue321
 i47:=by kernel_rfl
 t48:=Tryz.underlying353
 a48:=Tryz.isAgg353
 z48:=Tryz.sizeOf353
 v48:=Tryz.zeroValue353
 i48:=by kernel_rfl
 t50:=Tryz.underlying355
 a50:=Tryz.isAgg355
 z50:=Tryz.sizeOf355
 v50:=Tryz.zeroValue355
 i50:=by kernel_rfl
 t52:=Tryz.underlying322
 a52:=Tryz.isAgg322
 z52:=Tryz.sizeOf322
 v52:=Tryz.zeroValue322
 i52:=by kernel_rfl
 t55:=Tryz.underlying324
 a55:=Tryz.isAgg324
 z55:=Tryz.sizeOf324
 v55:=Tryz.zeroValue324
 i55:=by kernel_rfl
 t59:=Tryz.underlying346
 a59:=Tryz.isAgg346
 z59:=Tryz.sizeOf346
 v59:=Tryz.zeroValue346
 i59:=by kernel_rfl
 t60:=Tryz.underlying155
 a60:=Tryz.isAgg155
 z60:=Tryz.sizeOf155
 v60:=Tryz.zeroValue155
 i60:=by kernel_rfl
 t61:=Tryz.underlying347
 a61:=Tryz.isAgg347
 z61:=Tryz.sizeOf347
 t65:=Tryz.underlying362
 a65:=Tryz.isAgg362
 z65:=Tryz.sizeOf362
 v65:=Tryz.zeroValue362
 i65:=by kernel_rfl
 t66:=Tryz.underlying363
 a66:=Tryz.isAgg363
 z66:=Tryz.sizeOf363
 v66:=Tryz.zeroValue363
 i66:=by kernel_rfl
 t67:=Tryz.underlying131
 a67:=Tryz.isAgg131
 z67:=Tryz.sizeOf131
 v67:=Tryz.zeroValue131
 i67:=by kernel_rfl
 g0:=by kernel_rfl
 m0:=by kernel_rfl
 g1:=by kernel_rfl
 m1:=by kernel_rfl
 g2:=by kernel_rfl
 m2:=by kernel_rfl
 g3:=by kernel_rfl
 m3:=by kernel_rfl
 g4:=by kernel_rfl
 m4:=by kernel_rfl}
def Tryz.eA:Go.Shelf.Ren:=⟨λ|171=>138|243=>164|246=>197|283=>232|284=>233|285=>234|286=>235|129=>226|317=>255|318=>256|319=>257|320=>258|337=>272|338=>273|a=>a,λ|3=>3|9=>9|2=>2|4=>4|171=>322|0=>0|53=>112|37=>69|5=>5|173=>324|212=>346|51=>155|20=>20|213=>347|46=>158|232=>362|233=>363|a=>a,λ|17=>2|18=>4|19=>5|a=>a⟩
theorem Tryz.gg:Go.Proofs.LaysM.n171 Tryz.prog Tryz.eA:= {
 mixed:=by kernel_rfl
 f129:=Tryz.func226.trans (congrArg some (by kernel_rfl))
 f171:=Tryz.func138.trans (congrArg some (by kernel_rfl))
 f243:=Tryz.func164.trans (congrArg some (by kernel_rfl))
 f246:=Tryz.func197.trans (congrArg some (by kernel_rfl))
 f283:=Tryz.func232.trans (congrArg some (by kernel_rfl))
 f284:=Tryz.func233.trans (congrArg some (by kernel_rfl))
 f285:=Tryz.func234.trans (congrArg some (by kernel_rfl))
 f286:=Tryz.func235.trans (congrArg some (by kernel_rfl))
 f317:=Tryz.func255.trans (congrArg some (by kernel_rfl))
 f318:=Tryz.func256.trans (congrArg some (by kernel_rfl))
 f319:=Tryz.func257.trans (congrArg some (by kernel_rfl))
 f320:=Tryz.func258.trans (congrArg some (by kernel_rfl))
 f337:=Tryz.func272.trans (congrArg some (by kernel_rfl))
 f338:=Tryz.func273.trans (congrArg some (by kernel_rfl))
 t0:=Tryz.underlying0
 a0:=Tryz.isAgg0
 z0:=Tryz.sizeOf0
 v0:=Tryz.zeroValue0
 t2:=Tryz.underlying2
 a2:=Tryz.isAgg2
 z2:=Tryz.sizeOf2
 v2:=Tryz.zeroValue2
 t3:=Tryz.underlying3
 a3:=Tryz.isAgg3
 z3:=Tryz.sizeOf3
 v3:=Tryz.zeroValue3
 t4:=Tryz.underlying4
 a4:=Tryz.isAgg4
 z4:=Tryz.sizeOf4
 v4:=Tryz.zeroValue4
 t5:=Tryz.underlying5
 a5:=Tryz.isAgg5
 z5:=Tryz.sizeOf5
 v5:=Tryz.zeroValue5
 t9:=Tryz.underlying9
 a9:=Tryz.isAgg9
 z9:=Tryz.sizeOf9
 v9:=Tryz.zeroValue9
 t20:=Tryz.underlying20
 a20:=Tryz.isAgg20
 z20:=Tryz.sizeOf20
 v20:=Tryz.zeroValue20
 t37:=Tryz.underlying69
 a37:=Tryz.isAgg69
 z37:=Tryz.sizeOf69
 v37:=Tryz.zeroValue69
 t46:=Tryz.underlying158
 a46:=Tryz.isAgg158
 z46:=Tryz.sizeOf158
 v46:=Tryz.zeroValue158
 t51:=Tryz.underlying155
 a51:=Tryz.isAgg155
 z51:=Tryz.sizeOf155
 v51:=Tryz.zeroValue155
 t53:=Tryz.underlying112
 a53:=Tryz.isAgg112
 z53:=Tryz.sizeOf112
 v53:=Tryz.zeroValue112
 t171:=Tryz.underlying322
 a171:=Tryz.isAgg322
 z171:=Tryz.sizeOf322
 v171:=Tryz.zeroValue322
 t173:=Tryz.underlying324
 a173:=Tryz.isAgg324
 z173:=Tryz.sizeOf324
 v173:=Tryz.zeroValue324
 t212:=Tryz.underlying346
 a212:=Tryz.isAgg346
 z212:=Tryz.sizeOf346
 v212:=Tryz.zeroValue346
 t213:=Tryz.underlying347
 a213:=Tryz.isAgg347
 z213:=Tryz.sizeOf347
 t232:=Tryz.underlying362
 a232:=Tryz.isAgg362
 z232:=Tryz.sizeOf362
 v232:=Tryz.zeroValue362
 t233:=Tryz.underlying363
 a233:=Tryz.isAgg363
 z233:=Tryz.sizeOf363
 v233:=Tryz.zeroValue363
 g17:=by kernel_rfl
 g18:=by kernel_rfl
 g19:=by kernel_rfl
 i0:=by kernel_rfl
 i2:=by kernel_rfl
 i3:=by kernel_rfl
 i4:=by kernel_rfl
 i5:=by kernel_rfl
 i9:=by kernel_rfl
 i20:=by kernel_rfl
 i37:=by kernel_rfl
 i46:=by kernel_rfl
 i51:=by kernel_rfl
 i53:=by kernel_rfl
 i171:=by kernel_rfl
 i173:=by kernel_rfl
 i212:=by kernel_rfl
 i232:=by kernel_rfl
 i233:=by kernel_rfl
 m17:=by kernel_rfl
 m18:=by kernel_rfl
 m19:=by kernel_rfl}
def Tryz.eB:Go.Shelf.Ren:=⟨λ|172=>142|244=>168|245=>169|247=>201|279=>202|280=>203|281=>204|282=>205|287=>215|316=>238|171=>138|205=>239|321=>245|322=>246|243=>164|246=>197|283=>232|284=>233|285=>234|286=>235|129=>226|317=>255|318=>256|319=>257|320=>258|337=>272|338=>273|a=>a,λ|9=>9|3=>3|75=>246|76=>247|4=>4|5=>5|167=>296|37=>69|0=>0|85=>297|2=>2|168=>299|53=>112|175=>282|46=>158|210=>329|127=>321|145=>355|143=>353|21=>21|171=>322|173=>324|212=>346|51=>155|20=>20|213=>347|232=>362|233=>363|80=>131|a=>a,λ|15=>0|16=>1|17=>2|18=>4|19=>5|a=>a⟩
theorem Tryz.gh:Go.Proofs.LaysC.n172 Tryz.prog Tryz.eB:= {
 mixed:=by kernel_rfl
 f129:=Tryz.func226.trans (congrArg some (by kernel_rfl))
 f171:=Tryz.func138.trans (congrArg some (by kernel_rfl))
 f172:=Tryz.func142.trans (congrArg some (by kernel_rfl))
 f205:=Tryz.func239.trans (congrArg some (by kernel_rfl))
 f243:=Tryz.func164.trans (congrArg some (by kernel_rfl))
 f244:=Tryz.func168.trans (congrArg some (by kernel_rfl))
 f245:=Tryz.func169.trans (congrArg some (by kernel_rfl))
 f246:=Tryz.func197.trans (congrArg some (by kernel_rfl))
 f247:=Tryz.func201.trans (congrArg some (by kernel_rfl))
 f279:=Tryz.func202.trans (congrArg some (by kernel_rfl))
 f280:=Tryz.func203.trans (congrArg some (by kernel_rfl))
 f281:=Tryz.func204.trans (congrArg some (by kernel_rfl))
 f282:=Tryz.func205.trans (congrArg some (by kernel_rfl))
 f283:=Tryz.func232.trans (congrArg some (by kernel_rfl))
 f284:=Tryz.func233.trans (congrArg some (by kernel_rfl))
 f285:=Tryz.func234.trans (congrArg some (by kernel_rfl))
 f286:=Tryz.func235.trans (congrArg some (by kernel_rfl))
 f287:=Tryz.func215.trans (congrArg some (by kernel_rfl))
 f316:=Tryz.func238.trans (congrArg some (by kernel_rfl))
 f317:=Tryz.func255.trans (congrArg some (by kernel_rfl))
 f318:=Tryz.func256.trans (congrArg some (by kernel_rfl))
 f319:=Tryz.func257.trans (congrArg some (by kernel_rfl))
 f320:=Tryz.func258.trans (congrArg some (by kernel_rfl))
 f321:=Tryz.func245.trans (congrArg some (by kernel_rfl))
 f322:=Tryz.func246.trans (congrArg some (by kernel_rfl))
 f337:=Tryz.func272.trans (congrArg some (by kernel_rfl))
 f338:=Tryz.func273.trans (congrArg some (by kernel_rfl))
 t0:=Tryz.underlying0
 a0:=Tryz.isAgg0
 z0:=Tryz.sizeOf0
 v0:=Tryz.zeroValue0
 t2:=Tryz.underlying2
 a2:=Tryz.isAgg2
 z2:=Tryz.sizeOf2
 v2:=Tryz.zeroValue2
 t3:=Tryz.underlying3
 a3:=Tryz.isAgg3
 z3:=Tryz.sizeOf3
 v3:=Tryz.zeroValue3
 t4:=Tryz.underlying4
 a4:=Tryz.isAgg4
 z4:=Tryz.sizeOf4
 v4:=Tryz.zeroValue4
 t5:=Tryz.underlying5
 a5:=Tryz.isAgg5
 z5:=Tryz.sizeOf5
 v5:=Tryz.zeroValue5
 t9:=Tryz.underlying9
 a9:=Tryz.isAgg9
 z9:=Tryz.sizeOf9
 v9:=Tryz.zeroValue9
 t20:=Tryz.underlying20
 a20:=Tryz.isAgg20
 z20:=Tryz.sizeOf20
 v20:=Tryz.zeroValue20
 t21:=Tryz.underlying21
 a21:=Tryz.isAgg21
 z21:=Tryz.sizeOf21
 v21:=Tryz.zeroValue21
 t37:=Tryz.underlying69
 a37:=Tryz.isAgg69
 z37:=Tryz.sizeOf69
 v37:=Tryz.zeroValue69
 t46:=Tryz.underlying158
 a46:=Tryz.isAgg158
 z46:=Tryz.sizeOf158
 v46:=Tryz.zeroValue158
 t51:=Tryz.underlying155
 a51:=Tryz.isAgg155
 z51:=Tryz.sizeOf155
 v51:=Tryz.zeroValue155
 t53:=Tryz.underlying112
 a53:=Tryz.isAgg112
 z53:=Tryz.sizeOf112
 v53:=Tryz.zeroValue112
 t75:=Tryz.underlying246
 a75:=Tryz.isAgg246
 z75:=Tryz.sizeOf246
 v75:=Tryz.zeroValue246
 t76:=Tryz.underlying247
 a76:=Tryz.isAgg247
 z76:=Tryz.sizeOf247
 v76:=Tryz.zeroValue247
 t85:=Tryz.underlying297
 a85:=Tryz.isAgg297
 z85:=Tryz.sizeOf297
 v85:=Tryz.zeroValue297
 t127:=Tryz.underlying321
 a127:=Tryz.isAgg321
 z127:=Tryz.sizeOf321
 v127:=Tryz.zeroValue321
 t143:=Tryz.underlying353
 a143:=Tryz.isAgg353
 z143:=Tryz.sizeOf353
 v143:=Tryz.zeroValue353
 t145:=Tryz.underlying355
 a145:=Tryz.isAgg355
 z145:=Tryz.sizeOf355
 v145:=Tryz.zeroValue355
 t167:=Tryz.underlying296
 a167:=Tryz.isAgg296
 z167:=Tryz.sizeOf296
 v167:=Tryz.zeroValue296
 t168:=Tryz.underlying299
 a168:=Tryz.isAgg299
 z168:=Tryz.sizeOf299
 v168:=Tryz.zeroValue299
 t171:=Tryz.underlying322
 a171:=Tryz.isAgg322
 z171:=Tryz.sizeOf322
 v171:=Tryz.zeroValue322
 t173:=Tryz.underlying324
 a173:=Tryz.isAgg324
 z173:=Tryz.sizeOf324
 v173:=Tryz.zeroValue324
 t175:=Tryz.underlying282
 a175:=Tryz.isAgg282
 z175:=Tryz.sizeOf282
 v175:=Tryz.zeroValue282
 t210:=Tryz.underlying329
 a210:=Tryz.isAgg329
 z210:=Tryz.sizeOf329
 v210:=Tryz.zeroValue329
 t212:=Tryz.underlying346
 a212:=Tryz.isAgg346
 z212:=Tryz.sizeOf346
 v212:=Tryz.zeroValue346
 t213:=Tryz.underlying347
 a213:=Tryz.isAgg347
 z213:=Tryz.sizeOf347
 t232:=Tryz.underlying362
 a232:=Tryz.isAgg362
 z232:=Tryz.sizeOf362
 v232:=Tryz.zeroValue362
 t233:=Tryz.underlying363
 a233:=Tryz.isAgg363
 z233:=Tryz.sizeOf363
 v233:=Tryz.zeroValue363
 g15:=by kernel_rfl
 g16:=by kernel_rfl
 g17:=by kernel_rfl
 g18:=by kernel_rfl
 g19:=by kernel_rfl
 t80:=Tryz.underlying131
 a80:=Tryz.isAgg131
 z80:=Tryz.sizeOf131
 v80:=Tryz.zeroValue131
 i0:=by kernel_rfl
 i2:=by kernel_rfl
 i3:=by kernel_rfl
 i4:=by kernel_rfl
 i5:=by kernel_rfl
 i9:=by kernel_rfl
 i20:=by kernel_rfl
 i21:=by kernel_rfl
 i37:=by kernel_rfl
 i46:=by kernel_rfl
 i51:=by kernel_rfl
 i53:=by kernel_rfl
 i75:=by kernel_rfl
 i76:=by kernel_rfl
 i80:=by kernel_rfl
 i85:=by kernel_rfl
 i127:=by kernel_rfl
 i143:=by kernel_rfl
 i145:=by kernel_rfl
 i167:=by kernel_rfl
 i168:=by kernel_rfl
 i171:=by kernel_rfl
 i173:=by kernel_rfl
 i175:=by kernel_rfl
 i210:=by kernel_rfl
 i212:=by kernel_rfl
 i232:=by kernel_rfl
 i233:=by kernel_rfl
 m15:=by kernel_rfl
 m16:=by kernel_rfl
 m17:=by kernel_rfl
 m18:=by kernel_rfl
 m19:=by kernel_rfl
 c0:=by kernel_rfl
 c2:=by kernel_rfl
 c3:=by kernel_rfl
 c4:=by kernel_rfl
 c5:=by kernel_rfl
 c9:=by kernel_rfl
 c20:=by kernel_rfl
 c21:=by kernel_rfl
 c37:=by kernel_rfl
 c46:=by kernel_rfl
 c51:=by kernel_rfl
 c53:=by kernel_rfl
 c75:=by kernel_rfl
 c76:=by kernel_rfl
 c80:=by kernel_rfl
 c85:=by kernel_rfl
 c127:=by kernel_rfl
 c143:=by kernel_rfl
 c145:=by kernel_rfl
 c167:=by kernel_rfl
 c168:=by kernel_rfl
 c171:=by kernel_rfl
 c173:=by kernel_rfl
 c175:=by kernel_rfl
 c210:=by kernel_rfl
 c212:=by kernel_rfl
 c213:=by kernel_rfl
 c232:=by kernel_rfl
 c233:=by kernel_rfl}
end Go.Proofs
namespace Go.Lf
open Go
def OH(a:Nat):List UInt8:=Lib.repeatL [48] (8-(Lib.decDigits a).length)++Lib.decDigits a
def Sw(a:Nat)(l:List UInt8):Nat:=l.foldl (λa c=>a*10+(c.toNat-48)) a
def lG(l:List UInt8):Prop:= ∀c∈l,48<=c.toNat/\c.toNat<=57
theorem nD {a:Nat}(b:a<10):(UInt8.ofNat (48+a)).toNat=48+a:=by simp only[UInt8.toNat_ofNat'];omega
theorem Yo: ∀a:Nat,lG (Lib.decDigits a)/\Sw 0 (Lib.decDigits a)=a:=by
 intro a
 induction a using Nat.strongRecOn with
 |ind a g=>
  by_cases d:a<10
  ·rw[Lib.decDigits,dif_pos d];refine⟨λc b=>?_,?_⟩
   ·rw[List.mem_singleton.1 b,nD d];omega
   ·simp only[Sw,HU,MY,nD d];omega
  ·rw[Lib.decDigits,dif_neg d];obtain⟨h,e⟩:=g (a / 10) (by omega);have f:a % 10<10:=CM _ (by decide);refine⟨λc b=>?_,?_⟩
   ·rcases List.mem_append.1 b with b|b
    ·exact h c b
    ·rw[List.mem_singleton.1 b,nD f];omega
   ·unfold Sw at e ⊢;rw[HT,e];simp only[HU,MY,nD f];omega
theorem qo: ∀k:Nat,lG (Lib.repeatL [48] k)/\ ∀l,Sw 0 (Lib.repeatL [48] k++l)=Sw 0 l
 |0=>⟨λc a=>(by cases a),λl=>rfl⟩
 |k+1=>by
  obtain⟨b,d⟩:=qo k;refine⟨λc a=>?_,λl=>?_⟩
  ·rcases List.mem_append.1 a with a|a
   ·rw[List.mem_singleton.1 a];decide
   ·exact b c a
  ·show Sw 0 (([48]++Lib.repeatL [48] k)++l)=_;rw[A4];exact d l
theorem qp(a:Nat):lG (OH a)/\Sw 0 (OH a)=a:=by
 refine⟨λc b=>?_,?_⟩
 ·rcases List.mem_append.1 b with b|b
  ·exact(qo _).1 c b
  ·exact(Yo a).1 c b
 ·exact((qo _).2 _).trans (Yo a).2
theorem qs: ∀(l:List UInt8) (a:Nat),a<=Sw a l
 | [],a=>A0 _
 |c::l,a=>by
  have:=qs l (a*10+(c.toNat-48));have b:Sw a (c::l)=Sw (a*10+(c.toNat-48)) l:=rfl;rw[b];omega
theorem vd: ∀(l:List UInt8) (a:Nat),lG l->Sw a l<=4294967295->Lib.parseUintM 4294967295 a l= .ok (Sw a l)
 | [],a,_,_=>rfl
 |c::l,a,hd,b=>by
  have d:Sw a (c::l)=Sw (a*10+(c.toNat-48)) l:=rfl;rw[d] at b ⊢;have e:=hd c (by simp);have g:=qs l (a*10+(c.toNat-48));unfold Lib.parseUintM;rw[if_pos e,if_neg (by omega),if_neg (by omega)];exact vd l _ (λx f=>hd x (An _ f)) b
theorem vg: ∀(l:List UInt8) (a:Nat) {u:Nat},a<=4294967295->Lib.parseUintM 4294967295 a l= .ok u->u<=4294967295
 | [],a,u,d,b=>by
  unfold Lib.parseUintM at b;injection b with b;omega
 |c::l,a,u,d,b=>by
  unfold Lib.parseUintM at b;split at b
  ·split at b
   ·cases b
   ·split at b
    ·cases b
    ·exact vg l _ (by omega) b
  ·cases b
theorem vm {a:Nat}(d:a<=4294967295):Lib.parseUintB 32 (OH a)= .ok a:=by
 obtain⟨e,b⟩:=qp a;have f:OH a≠ []:=by intro g;have h:Lib.decDigits a= []:=(List.append_eq_nil_iff.1 g).2;have c:=congrArg List.length h;rw[Lib.decDigits_length] at c;have:=Lib.nDigits_pos a;simp at c;omega
 unfold Lib.parseUintB;rw[if_neg f];have:=vd (OH a) 0 e (by rw[b];exact d);rw[b] at this;exact this
theorem APi {a b:Nat}(d:OH a=OH b):a=b:=by have c:=(qp a).2;rw[d,(qp b).2] at c;exact c.symm
theorem AJG {k:Nat}: ∀ {n:Nat},n<10^(k+1)->Lib.nDigits n<=k+1:=by
 induction k with
 |zero=>intro n a;rw[Lib.nDigits_small (by simpa using a)];omega
 |succ k c=>
  intro n a;by_cases b:n<10
  ·rw[Lib.nDigits_small b];omega
  ·rw[Lib.nDigits_big b];have:=c (n:=n / 10) (by rw[F2] at a;omega);omega
theorem vo {n:Nat}(a:n<=99999999):(OH n).length=8:=by have b:=AJG (k:=7) (n:=n) (by have:(10:Nat)^(7+1)=100000000:=(by decide);omega);simp only[OH,A1,Lib.repeatL_length,Lib.decDigits_length,Dd];omega
theorem AJe {a:Nat}(b:(OH a).length=8):a<=99999999:=by
 have c:Lib.nDigits a<=8:=by simp only[OH,A1,Lib.repeatL_length,Lib.decDigits_length,Dd] at b;omega
 have d:=Lib.lt_pow_nDigits a;have e:(10:Nat)^Lib.nDigits a<=10^8:=RK (by decide) c;have:(10:Nat)^8=100000000:=by decide
 omega
def aC(a:A2P)(b:Nat):A2P:=a++AX (OH b)
theorem RL(a:A2P)(b:Nat):bl (aC a b)=bl a++OH b:=by show(a++AX (OH b)).data.toList=a.data.toList++OH b;rw[Kp,N4];exact congrArg _ (Cc _)
theorem IZ {a:A2P}{b c:Nat}(e:aC a b=aC a c):b=c:=by have d:=congrArg bl e;rw[RL,RL] at d;exact APi (Ks d)
theorem APJ {nm:A2P}{a:Nat}(b:a<=99999999):(aC nm a).size=nm.size+8:=by rw[aC,Kx,AP,vo b]
inductive Mx:List UInt8->List (List UInt8)->Prop
 |stop {l:List UInt8} (h:(Gq l).1≠0):Mx l []
 |step {l:List UInt8} {rs:List (List UInt8)} (h:(Gq l).1=0) (s:Mx (Gq l).2.2 rs):Mx l ((Gq l).2.1::rs)
theorem Zw {l:List UInt8}(a:(Gq l).1=0):(Gq l).2.1.length+(Gq l).2.2.length<l.length:=by
 unfold Gq at a ⊢;cases b:MR 0 0 l with
 |none=>rw[b] at a;dsimp only at a;split at a<;>cases a
 |some p=>
  obtain⟨g,t⟩:=p;rw[b] at a;obtain⟨c,_⟩:=lP b;have h:t.length<=l.length:=by rw[c];simp
  dsimp only at a ⊢;split at a
  ·cases a
  ·rename_i d;split at a
   ·cases a
   ·rename_i e;split at a
    ·rename_i f;rw[if_neg d,if_neg e,if_pos f];simp only[AH,DH];omega
    ·cases a
theorem qt: ∀(k:Nat) (l:List UInt8),l.length<=k-> ∃a,Mx l a/\(a.map (·.length+1)).sum<=l.length
 |0,l,c=>by
  have:l= []:=CD (by omega);subst this;exact⟨[],.stop (by decide),by simp⟩
 |k+1,l,c=>by
  by_cases b:(Gq l).1=0
  ·have e:=Zw b;obtain⟨a,d,f⟩:=qt k (Gq l).2.2 (by omega);exact⟨_,.step b d,by simp only[C2,GP];omega⟩
  ·exact⟨[],.stop b,by simp⟩
theorem Mx.uniq {l:List UInt8}{d ts:List (List UInt8)}(a:Mx l d):Mx l ts->d=ts:=by
 induction a generalizing ts with
 |stop a=>
  intro c;cases c with
  |stop=>rfl
  |step b=>exact absurd b a
 |step a s e=>
  intro c;cases c with
  |stop b=>exact absurd a b
  |step b f=>rw[e f]
noncomputable def ka (l:List UInt8):List (List UInt8):=(qt l.length l (A0 _)).choose
theorem qv(l:List UInt8):Mx l (ka l):=(qt l.length l (A0 _)).choose_spec.1
theorem APC {l:List UInt8}{a:List (List UInt8)}(b:Mx l a):ka l=a:=(qv l).uniq b
abbrev aK(a:List (List UInt8)):List UInt8:=a.flatMap Cb
theorem RS {rs:List (List UInt8)}(c: ∀a∈rs,a.length<=1048576){t:List UInt8}(d:(Gq t).1≠0):Mx (aK rs++t) rs:=by
 induction rs with
 |nil=>exact .stop d
 |cons a rs e=>
  have b:=wZ (l:=a) (c a (by simp)) (aK rs++t);have f:aK (a::rs)++t=Cb a++(aK rs++t):=by simp
  rw[f];have:=Mx.step (l:=Cb a++(aK rs++t)) (rs:=rs) (by rw[b]) (by rw[b];exact e λx g=>c x (An _ g));rw[b] at this;exact this
theorem Tt:(Gq []).1≠0:=by decide
theorem AMi {a:List UInt8}(m:a.length<=1048576){b:Nat}(n:b<(Cb a).length):(Gq ((Cb a).take b)).1≠0:=by
 have d:(Cb a).take b++(Cb a).drop b=Cb a:=DG _ _;have o:((Cb a).drop b).length≠0:=by rw[DH];omega
 generalize (Cb a).take b=p at*
 generalize (Cb a).drop b=e at*
 unfold Gq;cases f:MR 0 0 p with
 |none=>dsimp only;split<;>simp
 |some z=>
  obtain⟨g,t⟩:=z;obtain⟨h,i⟩:=lP f;have j:MR 0 0 (Cb a)=some (g,t++e):=by rw[<- d,h,A4];exact N8 i _
  have c:MR 0 0 (Cb a)=some (a.length,Qr (iS a)++a):=by unfold Cb;rw[A4];exact N8 (by omega) _
  rw[j] at c;obtain⟨rfl,k⟩:=Prod.mk.inj (Bs c);have l:=congrArg List.length k;simp only[A1,KU] at l;dsimp only;rw[if_neg (by omega),if_pos (by omega)];simp
theorem IK {r:List UInt8}(a:r.length<=1048576):r.length+5<=(Cb r).length/\(Cb r).length<=r.length+14:=by
 have b:=AV (n:=r.length) (by omega);have c:1<=(BH r.length).length:=by rw[BH];split<;>simp
 simp only[Cb,A1,KU];omega
end Go.Lf
namespace Go.Lf.G
open Go
def od:String:=Proofs.YtecomiijolnjpaaGreatDoor.Rows.engineOnceRow.named.getD 2 (String.ofList [])
def cT(a:aa):Prop:= ∀(b:ak) (c:Nat),Lib.TabIs P (b.at a c) od .u64 Lib.pow10Tab
theorem cT.ext {a b:aa}(t:cT a)(x:Ext a b):cT b:=by intro c d;have e:=(Lib.tabBelow_of_tabIs (t c d)) (c.at b d) ⟨rfl,rfl,rfl,x.size,λf g=>x.get f g (λa=>a)⟩;exact e
def kA(b:aa)(g:Nat):Prop:= ∃a,ag b ⟨g,0,none⟩=some a/\(a= .nilIface\/ ∃c d,a= .iface c d)
theorem kA.ext {a b:aa}{g:Nat}(c:kA a g)(x:Ext a b):kA b g:=by obtain⟨d,e,f⟩:=c;exact⟨d,x.ag e,f⟩
structure cp (h:aa):Prop where
 cM:cT h
 rH:kA h (Proofs.Tryz.cH.g 0)
 rI:kA h (Proofs.Tryz.cH.g 1)
theorem cp.ext {b c:aa}(a:cp b)(x:Ext b c):cp c:=⟨a.cM.ext x,a.rH.ext x,a.rI.ext x⟩
theorem qV {e:ak}{d:aa}{i:Nat}{a:World}(b:RowKit.Below d.size (e.at d i) a):a=e.at a.heap a.drawn/\Ext d a.heap:=by obtain⟨f,g,h,j,k⟩:=b;refine⟨?_,⟨j,λc l _=>k c l⟩⟩;cases a;simp only[ak.at] at f g h ⊢;subst f g h;rfl
theorem xR {d:ak}{b:aa}{e:Nat}{a:Q6}{v:J0}(c:ag b a=some v):(d.at b e).cell? a=some v:=by unfold ag at c;unfold World.cell?;exact c
theorem xS {d:ak}{a:aa}{c:Int}{e:A2O}(t:cT a)(g: -9223372036854775808<=c)(h:c<=9223372036854775807)(i: ∀f,Ext a f->e (J7 ⟨(Lib.itoa c).toArray⟩) f):
  AA d P Od #[J6 J9 c] a e:=by
 intro m;refine Calls.mono (Proofs.Any.strconv_Itoa Proofs.Tryz.gg c g h (d.at a m) (t d m)) ?_;rintro l n ⟨rfl,j,os,rfl⟩;refine⟨_,rfl,a++os,m+j,rfl,i _ ⟨by simp,λb k _=>by rw[Mb k]⟩⟩
theorem AMx {b:ak}{a:aa}{s:A2P}{c:Nat}{d:A2O}(g:c<=8)(h:s.size<=8)(i: ∀e,Ext a e->d (J7 (AX (Lib.repeatL (bl s) c))) e):
  AA b P QP #[J7 s,J6 J9 c] a d:=by
 intro m;have k:s.size*c<=8*8:=Nat.mul_le_mul h g;refine Calls.mono (Proofs.Any.strings_Repeat Proofs.Tryz.cG Proofs.Tryz.dJ s c (b.at a m) (by omega) (by omega)) ?_;rintro l f ⟨rfl,hB⟩;obtain⟨j,x⟩:=qV hB;exact⟨_,rfl,f.heap,f.drawn,j,i _ x⟩
theorem AGD {b:ak}{a:aa}{s p:A2P}{c:A2O}(d:c (J1 #[J7 (AX (Lib.trimPrefix (bl s) (bl p))),J3 (Lib.hasPrefix (bl s) (bl p))]) a):
  AA b P NG #[J7 s,J7 p] a c:=by
 intro m;refine Calls.mono (Proofs.Any.strings_CutPrefix Proofs.Tryz.ib s p (b.at a m)) ?_;rintro e f ⟨rfl,rfl⟩;exact⟨_,rfl,a,m,rfl,d⟩
theorem AOd {g:ak}{a:aa}{s:A2P}{h:A2O}(o:cp a)(y:s.size<=8)
  (p: ∀u:Nat,Lib.parseUintB 32 (bl s)= .ok u-> ∀e,Ext a e->h (J1 #[.int .u64 u,.nilIface]) e)
  (q:(∀ u,Lib.parseUintB 32 (bl s)≠ .ok u)-> ∀e (w:Int) t v,Ext a e->h (J1 #[.int .u64 w,.iface t v]) e):
  AA g P NR #[J7 s,J6 J9 10,J6 J9 32] a h:=by
 intro m;cases c:Lib.parseUintB 32 (bl s)
 ·rename_i u;refine Calls.mono (Proofs.Any.strconv_ParseUint_10_at32_ok Proofs.Tryz.dK s (by omega) u c (g.at a m)) ?_;rintro r d ⟨rfl,i|i⟩
  ·subst i;exact⟨_,rfl,a,m,rfl,p u c a Mod.refl⟩
  ·subst i;refine⟨_,rfl,_,_,rfl,p u c _ ?_⟩;refine⟨?_,λb z _=>?_⟩
   ·simp[Lib.bytesWorld,World.freeze,World.alloc,World.drew,ak.at]
   ·simp[Lib.bytesWorld,World.freeze,World.alloc,World.drew,ak.at,GO,Array.getElem?_push];rw[if_neg (by omega),if_neg (by omega)]
 ·obtain⟨j,k,l⟩:=o.rH;refine Calls.mono (Proofs.Any.strconv_ParseUint_10_at32_syntax Proofs.Tryz.dK s (by omega) c j (g.at a m) (xR k) l) ?_;rintro r d ⟨N,rfl,_,_,hB⟩;obtain⟨n,x⟩:=qV hB;exact⟨_,rfl,d.heap,d.drawn,n,q (λu f=>by rw[c] at f;cases f) _ _ _ _ x⟩
 ·obtain⟨j,k,l⟩:=o.rI;refine Calls.mono (Proofs.Any.strconv_ParseUint_10_at32_range Proofs.Tryz.dK s (by omega) c j (g.at a m) (xR k) l) ?_;rintro r d ⟨N,rfl,_,_,hB⟩;obtain⟨n,x⟩:=qV hB;exact⟨_,rfl,d.heap,d.drawn,n,q (λu f=>by rw[c] at f;cases f) _ _ _ _ x⟩
theorem YE {g:ak}{c:aa}{b:A2P}{a:Nat}{d:A2O}(h:cp c)(p:a<=4294967295)(q:b.size<=1099511627776)(i: ∀e,Ext c e->d (J7 (aC b a)) e):
  AA g P KJ #[J7 b,J6 J9 a] c d:=by
 refine AHd ?_;unfold tu;refine xS h.cM (by omega) (by omega) λr j=>⟨_,rfl,?_⟩
 have k:Lib.itoa (a:Int)=Lib.decDigits a:=Lib.itoa_nonneg a;rw[k];have f:(⟨(Lib.decDigits a).toArray⟩:A2P).size=(Lib.decDigits a).length:=by simp[ByteArray.size]
 have s:(Lib.decDigits a).length<=20:=by rw[Lib.decDigits_length];exact Lib.nDigits_le20 a (by omega)
 have l:(if((J8 J9 ((8:Int)-(((⟨(Lib.decDigits a).toArray⟩:A2P).size:Nat):Int))):Int)>0 then(J8 J9 ((8:Int)-(((⟨(Lib.decDigits a).toArray⟩:A2P).size:Nat):Int))) else 0)=((8-(Lib.decDigits a).length:Nat):Int):=by rw[f,wrap_i64 (by omega) (by omega)];split<;>omega
 rw[l];refine AMx (by omega) (by decide) λm n=>⟨_,rfl,?_,?_,?_⟩
 ·have:(AX (Lib.repeatL (bl ⟨#[48]⟩) (8-(Lib.decDigits a).length))).size<=8:=by rw[AP,Lib.repeatL_length];simp[bl]
  rw[max_i64];omega
 ·have:(AX (Lib.repeatL (bl ⟨#[48]⟩) (8-(Lib.decDigits a).length))).size<=8:=by rw[AP,Lib.repeatL_length];simp[bl]
  rw[Kx,max_i64,f];omega
 ·have:=i m (j.trans n);have o:aC b a=(b++AX (Lib.repeatL (bl ⟨#[48]⟩) (8-(Lib.decDigits a).length)))++⟨(Lib.decDigits a).toArray⟩:=by rw[aC,OH,<-Ae,ByteArray.append_assoc];rfl
  rw[o] at this;exact this
theorem AMU {I:ak}{h:aa}{c s:A2P}{q:A2O}(C:cp h)(J:c.size<=1099511627776)(U:s.size<=1099511627776)
  (D: ∀i (k:Nat),Ext h i->(k=0-> ∀a:Nat,1<=a->a<=99999999->s≠aC c a)->(k≠0->k<=99999999/\s=aC c k)->q (J6 J9 k) i):
  AA I P Rn #[J7 c,J7 s] h q:=by
 refine AER ?_;unfold XY;have m: ∀i,Ext h i->(∀ a:Nat,1<=a->a<=99999999->s≠aC c a)->q (J6 J9 0) i:=λi x r=>D i 0 x (λ_=>r) (λh=>absurd rfl h)
 refine AGD ⟨_,_,rfl,?_⟩;cases l:Lib.hasPrefix (bl s) (bl c) with
 |false=>
  refine ah.mk λK o=>ae.yes rfl (o _ _ (ae.yes rfl (m h Mod.refl λa _ _ g=>?_)))
  subst g;rw[RL] at l;unfold Lib.hasPrefix at l;rw[I3] at l;exact l (List.isPrefixOf_iff_prefix.2 (List.prefix_append _ _))
 |true=>
  have E:=l;unfold Lib.hasPrefix at E;obtain⟨f,hd⟩:=List.isPrefixOf_iff_prefix.1 E;have L:Lib.trimPrefix (bl s) (bl c)=f:=by unfold Lib.trimPrefix;rw[if_pos l,<-hd];simp
  rw[L];refine ah.mk λK o=>ae.no rfl ?_
  have M: ∀b:Bool,b=true->(∀ a:Nat,1<=a->a<=99999999->s≠aC c a)->K (b,()) h:=λb N r=>o _ _ (ae.yes N (m h Mod.refl r))
  have F:(AX f).size=f.length:=AP f;by_cases w:f.length=8
  ·refine o _ _ (ae.no (by simp[F,w]) ?_);have G:bl (AX f)=f:=EN f;refine AOd C (by omega) (λu j e p=>⟨_,_,rfl,?_⟩) (λj e k t v p=>⟨_,_,rfl,ah.mk λO y=>?_⟩)
   ·rw[G] at j;have Q:u<=4294967295:=by
     have:Lib.parseUintB 32 f= .ok u:=j;unfold Lib.parseUintB at this;split at this
     ·cases this
     ·exact vg f 0 (by omega) this
    have R:J8 J9 (u:Int)=(u:Int):=wrap_i64 (by omega) (by omega);rw[R];refine ah.mk λO y=>?_
    refine⟨trivial,ae.no rfl ?_⟩;refine YE (C.ext p) Q J λz S=>⟨_,rfl,y _ _ ?_⟩
    have A:=p.trans S;refine ae.intro (λd=>?_) (λd=>?_)
    ·have d:aC c u≠s:=by
      intro g;have:bM (aC c u) s=true:=by rw[CP];exact decide_eq_true g
      dsimp only at d;rw[this] at d;cases d
     refine m z A λa _ B g=>d ?_
     have e:bl s=bl c++OH a:=by rw[g,RL]
     rw[<- hd] at e;have n:f=OH a:=Ks e;rw[n,vm (by omega)] at j;have:a=u:=by injection j
     rw[<- this];exact g.symm
    ·have d:aC c u=s:=by
      have d:(!bM (aC c u) s)=false:=d;have d:bM (aC c u) s=true:=by simpa using d
      rw[CP] at d;exact of_decide_eq_true d
     have e:bl s=bl c++OH u:=by rw[<- d,RL]
     rw[<- hd] at e;have n:f=OH u:=Ks e;have T:u<=99999999:=AJe (by rw[<- n];exact w);by_cases H:u=0
     ·subst H;refine m z A λa V _ g=>?_
      have:=IZ (g.symm.trans d.symm);omega
     ·exact D z u A (λh=>absurd h H) λ_=>⟨T,d.symm⟩
   ·rw[G] at j;refine⟨trivial,ae.yes rfl (y _ _ (ae.yes rfl (m e p λa _ B g=>?_)))⟩;have e:bl s=bl c++OH a:=by rw[g,RL]
    rw[<- hd] at e;have n:f=OH a:=Ks e;exact j a (by rw[n];exact vm (by omega))
  ·refine M _ (by simp[F];omega) λa _ B g=>w ?_
   have e:bl s=bl c++OH a:=by rw[g,RL]
   rw[<- hd] at e;rw[Ks e,vo B]
open Go Go.ChangeShapes Go.WideShapes Go.ChangeAt Go.RowKit Go.Proofs.YtecomiijolnjpaaGreatDoor
theorem qf {H:Type}(a:DataW H):1<=Rows.uptoBulk a:=by
 cases a with
 |lit l=>cases l<;>simp[Rows.uptoBulk]
 |nil=>simp[Rows.uptoBulk]
 |ptr a=>simp[Rows.uptoBulk]
 |slice b spare=>simp[Rows.uptoBulk]
 |agg c=>simp[Rows.uptoBulk]
 |iface t a=>simp[Rows.uptoBulk]
 |map d=>simp[Rows.uptoBulk]
 |held e=>simp[Rows.uptoBulk]
theorem uu {H:Type}(l:List (DataW H)):l.length<=Rows.uptoBulkAll l:=by
 induction l with
 |nil=>simp[Rows.uptoBulkAll]
 |cons x a b=>have:=qf x;simp only[Rows.uptoBulkAll,A6];omega
theorem QV {H:Type}{enc:Q7×J0->H}{P:Q1}(d:laidOutB P=true){e f:World}{g:Nat->Bool}: ∀ {ts:List Q7} {c:List J0} {ds:List (DataW H)} {ps:List MemPlace},
  (ts.all λt=>P.readableRec t&&decide (t<P.types.size))=true->DataW.TrodAll enc P e 0 (λ_=>true) true ts c ds ps->(∀ p∈ps,e.sameAt f p)->(∀ p∈ps,g p.block=true)->DataW.TrodAll enc P f 0 g true ts c ds ps
 | [],[],[],_,_,j,_,_=>j
 |t::ts,v::c,o::ds,_,b,⟨p,k,l,m,n⟩,h,i=>by
  simp only[Kf,A3,decide_eq_true_eq] at b;subst n;exact⟨p,k,WideElems.Trod_stays d b.1.1 b.1.2 l (λx a=>h x (Fo _ a)) (λx a=>i x (Fo _ a)),
   QV d (by simpa using b.2) m (λx a=>h x (Hh _ a)) (λx a=>i x (Hh _ a)),rfl⟩
def iM(a:World):ak:=⟨a.tape,a.os,a.output⟩
theorem uv {H:Type}{enc:Q7×J0->H}{P:Q1}{f:Func}{s:ChangeSpec}{a:World}{args:Array J0}{ds d:List (DataW H)}{j:List MemPlace}{q:Q7}{e:aa}{k:Nat}
  (l:DataW.Whole enc P f.params.toList s.vars false a args.toList ds d j) (r:s.vars= []) (y:(s.fn H (ds++d)).results= [.lit (.bool true)]) (z:(s.fn H (ds++d)).args=ds) (A:(s.fn H (ds++d)).vars= [])
  (B:laidOutB P=true) (g:(f.params.toList.all λt=>P.readableRec t&&decide (t<P.types.size))=true) (C:f.resultTypes= #[q]) (D:P.underlying q=some .bool) (x:Ext a.heap e):
  s.post enc P f false true false false a args (.bool true) ((iM a).at e k):=by
 have u:=λp (g:p∈j)=>l.lt p g
 have E: ∀p∈j,a.sameAt ((iM a).at e k) p:=λp g=>by
  have v:e[p.block]? =a.heap[p.block]? :=x.get _ (u p g) (λh=>h);cases p with
  |cell b off=>
   show ag e ⟨b,off,none⟩=ag a.heap ⟨b,off,none⟩;exact OZ v
  |map b=>exact v
 obtain⟨p,F,hA,m,rfl,L,M⟩:=id l;rw[r] at m;have G:d= []/\F= []:=by
  cases d with
  |nil=>exact⟨rfl,m⟩
  |cons _ _=>exact m.elim
 obtain⟨rfl,rfl⟩:=G;refine⟨ds,[],p++ [],[],p,[],l,?_,?_,?_,?_,λh=>by cases h⟩
 ·rw[y,C];exact⟨[],[],⟨1,by simp[DataW.trod,Value.cells,D]⟩,rfl,rfl⟩
 ·rw[z];exact QV B g hA (λn o=>E n (Fo _ o)) (λn o=>by simpa using u n (Fo _ o))
 ·rw[r,A];rfl
 ·refine⟨rfl,rfl,λi I=>?_⟩;have J:((iM a).at e k).heap[i]? =a.heap[i]? :=x.get i I (λh=>h);rw[J];cases N:a.heap[i]? with
  |none=>trivial
  |some K=>
   cases K with
   |cells c t fr=>exact⟨rfl,rfl,rfl,λ_ _=>rfl⟩
   |map O Q=>exact .inr ⟨rfl,rfl⟩
   |_=>rfl
theorem laid:laidOutB P=true:=by kernel_rfl
section
variable {H : Type} {enc : Q7 × J0 -> H} {w : World} {base : Nat} {spare : Nat -> Bool} {held : Bool}
theorem uz {e:Type}{E:cy e}{Q:e->DataW H->Prop}{q t:Q7}(D:P.underlying q=some (.slice t))(F:P.cellsOf t=E.w)
  (G: ∀k r x,DataW.trod enc P w base spare held k t r=some x-> ∃b:e,r=E.enc b/\Q b x.1) {k:Nat} {p:Q2} {len s:Nat} {x:DataW H×List MemPlace} (I:DataW.trod enc P w base spare held k q [.slice p len s]=some x):
  ∃(l:List e) (ds:List (DataW H)),View E w.heap ⟨p,len,s⟩ l/\l.length=ds.length/\(∀ (i:Nat) b n,l[i]? =some b->ds[i]? =some n->Q b n)/\Rows.uptoBulkAll ds+1<=Rows.uptoBulk x.1:=by
 rcases Deep.open_slice D I with⟨h,rfl⟩|⟨a,O,R,m,S,o,T,h,_,u,_,J,rfl,y⟩
 ·simp at h;obtain⟨rfl,rfl,rfl⟩:=h;exact⟨[],[],View.nil,rfl,by simp,by simp[Rows.uptoBulk,Rows.uptoBulkAll]⟩
 ·simp at h;obtain⟨rfl,rfl,rfl⟩:=h;have U:len<=m:=by rw[J];split<;>omega
  rw[F] at y;have: ∀i,i<len-> ∃b:e,Cells w.heap (a.add (i*E.w)) (E.enc b)/\Q b (o i):=λi c=>by
   obtain⟨V,g,j⟩:=y i (by omega);obtain⟨b,rfl,K⟩:=G _ _ _ j;obtain⟨_,z,L⟩:=World.cells?_some g;refine⟨b,λA v B=>?_,K⟩;have M:A<E.w:=by rw[<- E.len b];exact(List.getElem?_eq_some_iff.1 B).1
   have:=L A M;rw[B] at this;exact this
  by_cases z:len=0
  ·subst z;refine⟨[],[],⟨rfl,u,λi b c=>by simp at c⟩,rfl,by simp,?_⟩;simp[Rows.uptoBulk,Rows.uptoBulkAll]
  ·obtain⟨N,_⟩:=this 0 (by omega);have: ∃f:Nat->e,∀i,i<len->Cells w.heap (a.add (i*E.w)) (E.enc (f i))/\Q (f i) (o i):=
    ⟨λi=>if c:i<len then Classical.choose (this i c) else N,λi c=>by simp only[dif_pos c];exact Classical.choose_spec (this i c)⟩
   obtain⟨f,C⟩:=this;refine⟨(List.range len).map f,(List.range len).map o,⟨by simp,u,λi b c=>?_⟩,by simp,λi b n g j=>?_,?_⟩
   ·simp only[Bk] at c;by_cases d:i<len
    ·simp[d] at c;subst c;exact⟨a,rfl,(C i d).1⟩
    ·simp[Nat.not_lt.1 d] at c
   ·simp only[Bk] at g j;by_cases d:i<len
    ·simp[d] at g j;subst g;subst j;exact(C i d).2
    ·simp[Nat.not_lt.1 d] at g
   ·simp only[Rows.uptoBulk];omega
end
theorem uA {H c:Type}{d:c->DataW H->Prop}{l:List c}{ds:List (DataW H)}(j:l.length=ds.length)(f: ∀(i:Nat) a b,l[i]? =some a->ds[i]? =some b->d a b){a:c}(g:a∈l): ∃b∈ds,d a b:=by
 obtain⟨i,h,rfl⟩:=DA g;have e:i<ds.length:=by omega
 exact⟨ds[i],AT e,f i _ _ (A2 h) (A2 e)⟩
theorem QZ:P.underlying BN=some (.int J9):=by kernel_rfl
theorem lA:P.underlying Tu=some .bool:=by kernel_rfl
theorem Zg:P.underlying Ar=some .string:=by kernel_rfl
theorem nq:P.cellsOf Ar=1:=by kernel_rfl
theorem nw:P.cellsOf BN=1:=by kernel_rfl
theorem wf_i64 {a:Int}(b:(Lit.int J9 a).wf=true): -9223372036854775808<=a/\a<=9223372036854775807:=by simp[Lit.wf,IntKind.min,IntKind.max,IntKind.bits,IntKind.signed] at b;omega
section
variable {H : Type} {enc : Q7 × J0 -> H} {w : World} {base : Nat} {spare : Nat -> Bool} {held : Bool}
end
end Go.Lf.G
namespace Go.Lf
open Go
def xK(a:A2P)(i:Nat):Nat:=(lO a+i*nT a) % 4294967296
def cL(a:A2P)(m i:Nat):Nat:=xK a i % (8*m)
def Sr(f:List UInt8)(a:Nat):Bool:=((f[a / 8]?).getD 0).toNat.testBit (a % 8)
def ga(f:List UInt8)(a:Nat):List UInt8:=f.set (a / 8) (CX (((f[a / 8]?).getD 0).toNat ||| 2^(a % 8)))
theorem AP1(f:List UInt8)(a:Nat):(ga f a).length=f.length:=by simp[ga]
theorem vB {c a:Nat}(b:c<256)(d:a<8):c ||| 2^a<256:=by have e:2^a<2^8:=Nat.pow_lt_pow_right (by decide) d;have:c ||| 2^a<2^8:=KB (by simpa using b) e;simpa using this
theorem AQ4 {f:List UInt8}{a:Nat}(c:a / 8<f.length)(x:Nat):Sr (ga f a) x=(Sr f x||decide (x=a)):=by
 unfold Sr ga;have d:a % 8<8:=CM _ (by decide);by_cases b:x / 8=a / 8
 ·rw[b,HJ c,IN,Df (vB (UInt8.toNat_lt _) d),Nat.testBit_or,Nat.testBit_two_pow];congr 1;rw[Ek,decide_eq_true_iff,decide_eq_true_iff];omega
 ·rw[Kd (by omega)];have:x≠a:=λe=>b (by rw[e])
  simp[this]
def Ye(m:Nat)(f:List UInt8)(a:A2P):List UInt8:=(List.range 4).foldl (λf i=>ga f (cL a m i)) f
theorem qy {k:A2P}{m i:Nat}(a:1<=m):cL k m i<8*m:=CM _ (by omega)
theorem UR {k:A2P}{m:Nat}(b:1<=m): ∀(l:List Nat) (f:List UInt8),f.length=m->(l.foldl (λf i=>ga f (cL k m i)) f).length=m/\ ∀x,Sr (l.foldl (λf i=>ga f (cL k m i)) f) x=(Sr f x||l.any λi=>decide (x=cL k m i))
 | [],f,a=>⟨a,λx=>by simp⟩
 |i::l,f,a=>by
  have c:cL k m i / 8<f.length:=by have:=qy (k:=k) (i:=i) b;omega
  obtain⟨d,e⟩:=UR (k:=k) b l (ga f (cL k m i)) (by rw[AP1,a]);refine⟨d,λx=>?_⟩;rw[HU,e,AQ4 c,List.any_cons,Bool.or_assoc]
theorem ANi {k:A2P}{m:Nat}(a:1<=m){f:List UInt8}(b:f.length=m):(Ye m f k).length=m:=(UR a _ f b).1
theorem APE {a:A2P}{m:Nat}(b:1<=m){f:List UInt8}(c:f.length=m){x:Nat}(d:Sr f x=true):Sr (Ye m f a) x=true:=by unfold Ye;rw[(UR b _ f c).2,d];rfl
theorem ANx {a:A2P}{m:Nat}(b:1<=m){f:List UInt8}(c:f.length=m){i:Nat}(d:i<4):Sr (Ye m f a) (cL a m i)=true:=by unfold Ye;rw[(UR b _ f c).2,Cp];right;rw[P3];exact⟨i,List.mem_range.2 d,by simp⟩
def Mr(m:Nat):List UInt8:=List.replicate m 0
def jB(a:List A2P)(m:Nat):List UInt8:=a.foldl (Ye m) (Mr m)
def nE(f:List UInt8)(a:A2P):Bool:=(List.range 4).all λi=>Sr f (cL a f.length i)
def gC(f:List UInt8)(a:A2P):Bool:=decide (f≠ [])&&decide (f.length<=8192)&&nE f a
theorem VC {m:Nat}(c:1<=m): ∀(a:List A2P) (f:List UInt8),f.length=m->(a.foldl (Ye m) f).length=m/\(∀ x,Sr f x=true->Sr (a.foldl (Ye m) f) x=true)/\ ∀k∈a,∀i,i<4->Sr (a.foldl (Ye m) f) (cL k m i)=true
 | [],f,b=>⟨b,λx d=>d,λk j=>by cases j⟩
 |k::a,f,b=>by
  have l:=ANi (k:=k) c b;obtain⟨n,g,o⟩:=VC c a (Ye m f k) l;refine⟨n,λx d=>g x (APE c b d),λp e i h=>?_⟩;rcases List.mem_cons.1 e with rfl|e
  ·exact g _ (ANx c b h)
  ·exact o p e i h
theorem AOq {b:List A2P}{m:Nat}(d:1<=m)(e:m<=8192){c:A2P}(f:c∈b):gC (jB b m) c=true:=by obtain⟨a,_,g⟩:=VC d b (Mr m) (by simp[Mr]);have a:(jB b m).length=m:=a;unfold gC nE;rw[a,A3,A3,decide_eq_true_iff,decide_eq_true_iff,CC];refine⟨⟨λh=>?_,e⟩,λi j=>g c f i (List.mem_range.1 j)⟩;rw[h] at a;simp at a;omega
theorem APU {a:List A2P}{m:Nat}(b:1<=m):(jB a m).length=m:=(VC b a (Mr m) (by simp[Mr])).1
theorem ANz(v:J0)(a:Nat):(madeCells #[v] a).toList=List.replicate a v:=by
 apply List.ext_getElem
 ·simp[madeCells]
 ·intro i b c;simp[madeCells,Nat.mod_one]
theorem vO {a:Type}{b:cy a}{c:a}{v:J0}(d:b.enc c= [v]): ∀n,(List.replicate n c).flatMap b.enc=List.replicate n v
 |0=>rfl
 |n+1=>by rw[List.replicate_succ,List.replicate_succ,AI,d,vO d n];rfl
theorem vP {e:ak}{P:Q1}{f:Type}{E:cy f}{x0:f}{v z:J0}{t T:Q7}{g:Nat}(p:P.underlying t=some (.slice T))(c:(P.info? T).map (λi=>(i.zero,i.size,i.bytes))=some (some z,1,g))
  (q:z.cells= #[v]) (h:E.w=1) (r:E.enc x0= [v]) {a:aa} {n:Nat} {j k:IntKind} (A:n*g<=140737488355328) (l:n<=maxLen) {K:Sl->aa->Prop}
  (u: ∀b,Own E T b ⟨some ⟨a.size,0,none⟩,n,n⟩ (List.replicate n x0)->Ext a b->b.size=a.size+1->K ⟨some ⟨a.size,0,none⟩,n,n⟩ b):
  BB e P (Instr.makeSlice t (.int j (n:Int)) (.int k (n:Int))) a λv b=> ∃s:Sl,v= .slice s.p s.len s.cap/\K s b:=by
 intro m;cases d:P.info? T with
 |none=>rw[d] at c;simp at c
 |some i=>
  rw[d] at c;simp only[IT,BY,N2] at c;obtain⟨w,x,y⟩:=c;have hB:((i.bytes:Nat):Int)*((n:Nat):Int)<=281474976710656:=by rw[y,<-Int.natCast_mul,Ds];omega
  have o:=run_make (P:=P) (e.at a m) t T i z p d w j k (n:Int) (n:Int) (by omega) (GS _) hB (by simp only[maxLen] at l;omega);simp only[As,x,By,q] at o;refine⟨_,a.push (.cells (madeCells #[v] n) T),m,o,⟨some ⟨a.size,0,none⟩,n,n⟩,rfl,u _ ⟨by simp,.inr ⟨a.size,madeCells #[v] n,rfl,by simp,A0 _,l,by simp[size_madeCells,h],?_⟩⟩ (Mod.push a _) (by simp)⟩;show(madeCells #[v] n).toList.take (n*E.w)=_;rw[ANz,h,By,AE (by simp),vO r]
theorem vQ {m:Nat}(a:m<=8192):J8 .u32 (J8 J9 ((8:Int)*((m:Nat):Int)))=((8*m:Nat):Int):=by rw[show(8:Int)*((m:Nat):Int)=((8*m:Nat):Int) by omega,Fu (by omega),wrap_u32,Ax (by omega)]
theorem ATB(a:A2P)(i:Nat):xK a i<4294967296:=CM _ (by decide)
theorem vR(a:A2P)(i:Nat):J8 .u32 (((xK a i:Nat):Int)+((nT a:Nat):Int))=((xK a (i+1):Nat):Int):=by rw[<- Int.natCast_add,wrap_u32];congr 1;unfold xK;rw[Nat.mod_add_mod,BW,No,GB]
theorem vS(a:A2P):xK a 0=lO a:=by unfold xK;rw[HL,Gk,Ax (wU a)]
theorem vT(x m:Nat):((x:Nat):Int).tmod ((m:Nat):Int)=((x % m:Nat):Int):=(Int.ofNat_tmod x m).symm
theorem vU(x:Nat):((x:Nat):Int).tdiv (8:Int)=((x / 8:Nat):Int):=(Int.ofNat_tdiv x 8).symm
theorem vV(x:Nat):((x:Nat):Int).tmod (8:Int)=((x % 8:Nat):Int):=(Int.ofNat_tmod x 8).symm
theorem vW(x:Nat):min (((x % 8:Nat):Int).toNat) (IntKind.bits .u8)=x % 8:=by rw[As];show min (x % 8) 8=_;omega
theorem AQJ {c a:Nat}(d:c<256):(Gb .u8 (((c:Nat):Int).fdiv ((2:Int)^a)) (1:Int)==(0:Int))= !(c.testBit a):=by have e:c / 2^a<256:=RT (RW _ _) d;rw[QR,show(1:Int)=((1:Nat):Int) from rfl,xq e (by decide),Nat.and_one_is_mod,Nat.testBit_eq_decide_div_mod_eq];generalize c / 2^a=f;rcases Nat.mod_two_eq_zero_or_one f with b|b<;>rw[b]<;>rfl
theorem ASa {c a:Nat}(d:c<256)(e:a<8):dX .u8 ((c:Nat):Int) (J8 .u8 ((1:Int)*((2:Int)^a)))=((c ||| 2^a:Nat):Int):=by
 have b:2^a<256:=by have:2^a<2^8:=Nat.pow_lt_pow_right (by decide) e;simpa using this
 have f:(1:Int)*((2:Int)^a)=((2^a:Nat):Int):=by rw[Int.one_mul,Int.natCast_pow];rfl
 rw[f,wrap_u8,Ax b,xp d b]
end Go.Lf
namespace Go.Lf.G
open Go
theorem AMt {a:A2P}{i:Nat}(b:i<a.size): ∃c,a.data.toList[i]? =some c:=by
 have:i<a.data.toList.length:=by simpa using b
 exact⟨_,A2 this⟩
theorem re {o:ak}{d:aa}{key:A2P}{h:A2O}(r:key.size<=1099511627776)(p:h (.tuple #[.int .u32 (lO key:Int),.int .u32 (nT key:Int)]) d):AA o P Ku #[.string key] d h:=by
 refine AEM ?_;unfold Yf;refine Loop.rule (λm x j=> ∃i:Nat,x=(((UH (key.data.toList.take i)).1:Int),((UH (key.data.toList.take i)).2:Int),(i:Int),())/\j=d/\m=key.size-i/\i<=key.size) ?_ ⟨0,rfl,rfl,rfl,by omega⟩;rintro K m _ j ⟨i,rfl,e,rfl,s⟩ q;subst e;obtain⟨k,f⟩:=wT (key.data.toList.take i);refine ae.intro (λg=>?_) (λg=>?_)
 ·have a:i<key.size:=by simpa using g
  obtain⟨c,l⟩:=AMt a;have n:c.toNat<256:=c.toNat_lt;refine⟨⟨by dsimp only;omega,by dsimp only;omega⟩,⟨by dsimp only;omega,by dsimp only;omega⟩,?_⟩;dsimp only;rw[Ng l,PZ k n,ATU f n,AZ (by omega)];refine q (key.size-(i+1)) _ _ (by omega) ⟨i+1,?_,rfl,rfl,a⟩;rw[AD,l,CN,wS]
 ·have a:i=key.size:=by simp at g;omega
  have e:key.data.toList.take i=key.data.toList:=AE (by simp[a]);dsimp only;rw[e] at k f ⊢;have:dX .u32 (((UH key.data.toList).2:Nat):Int) (1:Int)=((nT key:Nat):Int):=AR7 f (b:=1) (by decide);rw[this];exact p
theorem XL {f:A2P}:bM f (⟨#[]⟩:A2P)=decide (bl f= []):=by
 rw[Ek,CP];constructor
 ·intro a;have a:=of_decide_eq_true a;subst a;rfl
 ·intro a;have a:=of_decide_eq_true a;cases f with
  |mk b=>
   have:b= #[]:=by apply Array.toList_inj.1;exact a
   rw[this];rfl
theorem AR5 {f:A2P}{i:Nat}{c:UInt8}(a:(bl f)[i]? =some c):f.data.toList[i]? =some c:=a
theorem y7 {u:ak}{l:aa}{f key:A2P}{q:A2O}(v:key.size<=1099511627776)(a:q (.bool (gC (bl f) key)) l):AA u P PV #[.string f,.string key] l q:=by
 refine AF8 ?_;unfold u0;refine ah.mk λK r=>?_
 have g:=Av f;refine ae.intro (λe=>?_) (λe=>?_)
 ·refine r _ _ (ae.yes rfl ?_);rw[XL,decide_eq_true_iff] at e;rw[e] at a;exact a
 ·refine r _ _ ?_;rw[XL,decide_eq_false_iff_not] at e;refine ae.intro (λn=>?_) (λn=>?_)
  ·have h: ¬(bl f).length<=8192:=by simp at n;omega
   have:gC (bl f) key=false:=by unfold gC;rw[decide_eq_false h,Lq,Ft]
   rw[this] at a;exact a
  ·have h:f.size<=8192:=by simp at n;omega
   have w:1<=f.size:=by rw[<- g];exact List.length_pos_iff.2 e
   refine re v ⟨_,_,rfl,?_⟩;refine Loop.rule (λm x s=> ∃i:Nat,x=(((xK key i:Nat):Int),(i:Int),())/\s=l/\m=4-i/\i<=4/\ ∀b,b<i->Sr (bl f) (cL key f.size b)=true) ?_ ⟨0,by rw[vS];rfl,rfl,rfl,by omega,λb o=>by omega⟩;rintro E m _ s ⟨i,rfl,y,rfl,F,t⟩ z;subst y;dsimp only;refine ae.intro (λp=>?_) (λp=>?_)
   ·have j:i<4:=by simp at p;omega
    have G:cL key f.size i<8*f.size:=qy w;have H:=ATB key i;rw[vQ h,vT];have A:xK key i % (8*f.size)=cL key f.size i:=rfl;rw[A,vU,vV,vW,wrap_u32,Ax (show cL key f.size i / 8<4294967296 by omega)];have B:cL key f.size i / 8<(bl f).length:=by rw[g];omega
    have k:(bl f)[cL key f.size i / 8]? =some (bl f)[cL key f.size i / 8]:=A2 B;obtain⟨c,k⟩: ∃c,(bl f)[cL key f.size i / 8]? =some c:=⟨_,k⟩;rw[Ng (AR5 k),AQJ c.toNat_lt];have C:Sr (bl f) (cL key f.size i)=c.toNat.testBit (cL key f.size i % 8):=by unfold Sr;rw[k];rfl
    refine⟨by omega,⟨by omega,by omega⟩,by omega,?_⟩;rw[<- C];refine ae.intro (λd=>?_) (λd=>?_)
    ·have d:Sr (bl f) (cL key f.size i)=false:=by simpa using d
     have:gC (bl f) key=false:=by
      unfold gC nE;rw[g];have:((List.range 4).all λi=>Sr (bl f) (cL key f.size i))=false:=by rw[List.all_eq_false];exact⟨i,List.mem_range.2 j,by simp[d]⟩
      simp[this]
     rw[this] at a;exact a
    ·have d:Sr (bl f) (cL key f.size i)=true:=by simpa using d
     rw[vR,AZ (by omega)];refine z (4-(i+1)) _ _ (by omega) ⟨i+1,rfl,rfl,rfl,j,λb o=>?_⟩;by_cases D:b=i
     ·subst D;exact d
     ·exact t b (by omega)
   ·have j:i=4:=by simp at p;omega
    have:gC (bl f) key=true:=by unfold gC nE;rw[g,A3,A3,decide_eq_true_iff,decide_eq_true_iff,CC];exact⟨⟨e,h⟩,λb o=>t b (by rw[j];exact List.mem_range.1 o)⟩
    rw[this] at a;exact a
theorem y8:(P.info? DZ).map (λi=>(i.zero,i.size,i.bytes))=some (some (.int .u8 0),1,1):=by kernel_rfl
theorem VA:P.underlying Bp=some (.slice DZ):=by kernel_rfl
theorem ya:P.underlying DZ=some (.int .u8):=by kernel_rfl
theorem yb:P.underlying Ar=some .string:=by kernel_rfl
theorem AP3 {Q:ak}{e:aa}{s:Sl}{ks:List A2P}{m:Nat}{G:A2O}(y:View IQ e s ks)(R: ∀d∈ks,d.size<=1099511627776)(z:1<=m)(S:m<=8192)(ar:ks.length<=1099511627776)(g: ∀b,s.af=some b->b<e.size)
  (T: ∀H,Ext e H->G (.tuple #[.string (AX (jB ks m)),.int J9 0]) H):AA Q P Nq #[.slice s.p s.len s.cap,.int J9 (m:Int)] e G:=by
 refine AD8 ?_;unfold YP;refine ah.mk λK U=>?_
 refine ae.no (by simp;omega) ?_;refine U _ _ (ae.no (by simp;omega) ?_);refine vP (E:=Fy) (x0:=0) (v:= .int .u8 0) VA y8 rfl rfl rfl (by omega) (by simp only[maxLen];omega) λI J t au=>?_
 have V:List.replicate m (0:UInt8)=Mr m:=rfl;rw[V] at J;dsimp only;refine Loop.rule (λk x n=> ∃i:Nat,x=((i:Int),())/\k=ks.length-i/\i<=ks.length/\Mod (λc=>c=e.size) I n/\Own Fy DZ n ⟨some ⟨e.size,0,none⟩,m,m⟩ ((ks.take i).foldl (Ye m) (Mr m))) ?_ ⟨0,rfl,rfl,by omega,Mod.refl,J⟩;rintro av k _ n ⟨i,rfl,rfl,aw,u,o⟩ W;have X:View IQ n s ks:=(y.ext t).mod u λb Y=>by have:=g b Y;omega
 dsimp only;refine ae.intro (λp=>?_) (λp=>?_)
 ·have q:i<ks.length:=by rw[y.len] at p;simp at p;omega
  have A:ks[i]? =some ks[i]:=A2 q;refine X.idx A λa ax h=>?_
  refine AJ.mk h.str ?_;refine re (R _ (AT q)) ⟨_,_,rfl,?_⟩;have L:ks.take (i+1)=ks.take i++ [ks[i]]:=by rw[AD,A];rfl
  generalize ks[i]=d at A L;have M:((ks.take i).foldl (Ye m) (Mr m)).length=m:=(VC z (ks.take i) (Mr m) (by simp[Mr])).1;generalize Z:(ks.take i).foldl (Ye m) (Mr m)=w at o M;refine Loop.rule (λk x B=> ∃j:Nat,x=(((xK d j:Nat):Int),(j:Int),())/\k=4-j/\j<=4/\Mod (λc=>c=e.size) I B/\Own Fy DZ B ⟨some ⟨e.size,0,none⟩,m,m⟩ ((List.range j).foldl (λf i=>ga f (cL d m i)) w)) ?_ ⟨0,by rw[vS];rfl,rfl,by omega,u,o⟩;rintro ay k _ B ⟨j,rfl,rfl,az,N,r⟩ ab;dsimp only;refine ae.intro (λC=>?_) (λC=>?_)
  ·have D:j<4:=by simp at C;omega
   have aA:cL d m j<8*m:=qy z;have ac:xK d j % (8*m)=cL d m j:=rfl;rw[vQ S,vT,ac,vU,vV,vW,wrap_u32,Ax (show cL d m j / 8<4294967296 by omega)];have ad:((List.range j).foldl (λf i=>ga f (cL d m i)) w).length=m:=(UR z _ w M).1;generalize af:(List.range j).foldl (λf i=>ga f (cL d m i)) w=F at r ad;have ag:F[cL d m j / 8]? =some F[cL d m j / 8]:=A2 (by omega);obtain⟨c,h⟩: ∃c,F[cL d m j / 8]? =some c:=⟨_,ag⟩;refine⟨by omega,?_⟩;refine r.view.idx h λaC aD ai=>?_
   rw[As];refine AC.mk ai.byte ⟨by omega,?_⟩;refine r.view.idx h λO aj aE=>?_
   have al:=ASa c.toNat_lt (show cL d m j % 8<8 by omega);rw[al];have am:=vB c.toNat_lt (show cL d m j % 8<8 by omega);rw[vR,AZ (by omega),<-add_zero (O.add (cL d m j / 8*1))];refine Own.store (E:=Fy) (i:=cL d m j / 8) (j:=0) (x:=c) (x':=CX (c.toNat ||| 2^(cL d m j % 8))) (v:= .int .u8 ((c.toNat ||| 2^(cL d m j % 8):Nat):Int)) r h (by show [Value.int .u8 _]=_;rw[Df am];rfl) (by decide) (λaF an ao aG=>?_) O aj;refine ab (4-(j+1)) _ _ (by omega) ⟨j+1,rfl,rfl,D,N.trans (ao.ai λb _ g=>?_),?_⟩
   ·simp[Sl.af] at g;exact g.symm
   ·rw[N5,HT,af,HU,MY];unfold ga;rw[h];exact an
  ·have D:j=4:=by simp at C;omega
   subst D;rw[AZ (by omega)];refine W (ks.length-(i+1)) _ _ (by omega) ⟨i+1,rfl,rfl,q,N,?_⟩;rw[L,HT,Z];exact r
 ·have q:i=ks.length:=by rw[y.len] at p;simp at p;omega
  have ap:ks.take i=ks:=by rw[q];simp
  rw[ap] at o;have aq:((ks.foldl (Ye m) (Mr m)))=jB ks m:=rfl;rw[aq] at o;refine KS VA ya yb (s:=⟨some ⟨e.size,0,none⟩,m,m⟩) (l:=jB ks m) o.view ⟨_,rfl,?_⟩;exact T n ⟨by have:=t.size;have:=u.size;omega,λb g _=>(u.get b (by have:=t.size;omega) (by omega)).trans (t.get b g (by simp))⟩
end Go.Lf.G
namespace Go.Lf
open Go
structure LM (p:Pr):Prop where
 key:p.key.size≠0
 bJ:p.key.size<=64
 cw:p.val.size<=8192
 gone:p.gone=true->p.val.size=0
def Ia(p:Pr):Nat:=if p.gone then 0 else p.val.size+1
def Ib(p:Pr):List UInt8:=BG (bl p.key)++(BH (Ia p)++bl p.val)
abbrev BJ(l:List Pr):List UInt8:=l.flatMap Ib
theorem Tm {s:A2P}(a:s.size=0):bl s= []:=CD (by rw[Av];exact a)
theorem vx {p:Pr}(a:LM p)(t:List UInt8):FY ⟨Ib p++t,false⟩=(bl p.key,⟨BH (Ia p)++bl p.val++t,false⟩):=by
 have c:=a.bJ;have b:Ib p++t=BG (bl p.key)++(BH (Ia p)++bl p.val++t):=by simp[Ib,A4]
 rw[b];exact JQ (by rw[Av];omega) _
theorem Yr {p:Pr}(a:LM p):Ia p<=8193:=by have:=a.cw;unfold Ia;split<;>omega
theorem vz {p:Pr}(a:LM p)(t:List UInt8):Bt 8193 ⟨BH (Ia p)++bl p.val++t,false⟩=(Ia p,⟨bl p.val++t,false⟩):=by rw[A4];have:=Yr a;exact Ci (by omega) this _
theorem vA {p:Pr}(a:LM p)(t:List UInt8):KN (Ia p-1) ⟨bl p.val++t,false⟩=(bl p.val,⟨t,false⟩):=by
 have b:Ia p-1=(bl p.val).length:=by
  rw[Av];unfold Ia;split
  ·rename_i c;rw[a.gone c]
  ·omega
 rw[b];exact xk _ _
theorem QH {p:Pr}(a:LM p):1<=(Ib p).length/\(Ib p).length<=p.key.size+p.val.size+20:=by have b:=a.bJ;have c:=a.cw;have d:=AV (n:=(bl p.key).length) (by rw[Av];omega);have e:=Yr a;have f:=AV (n:=Ia p) (by omega);have g:=a.key;have h:=Av p.key;have i:=Av p.val;simp only[Ib,BG,A1];omega
end Go.Lf
namespace Go.Lf.G
open Go
theorem Hz:P7 P AQ AU BR.w 40=true:=by kernel_rfl
theorem AQ8 {e:ak}{a:aa}{b:Nat}{c:Rd}{d:A2O}(f:Io a b c)(g:d (J3 c.bad) a):AA e P Kg #[Az b] a d:=by refine WQ ?_;unfold Pf;refine ae.no rfl (aF ?_);exact Ac.mk (AB f rfl) g
theorem VE {A:ak}{h:aa}{s:A2P}{R:A2O}(b:s.size<=1099511627776)(c: ∀a,Ext h a->R (J7 (AX (BG (bl s)))) a):AA A P Bv #[J7 s] h R:=by have:=Qu (A:=A) (h:=h) (l:=bl s) (R:=R) (by rw[Av];exact b) c;rwa [DL] at this
theorem yc {a:Nat}(b:a<=1099511627776):J8 .u64 ((J8 .u64 (a:Int))+(1:Int))=((a+1:Nat):Int):=by rw[Ba (by omega),show((a:Int)+1)=((a+1:Nat):Int) by omega,Ba (by omega)]
theorem Zq {s:A2P}(a:s.size=0):s=⟨#[]⟩:=by have:=DL s;rw[<- this,show s.data.toList= [] from Tm a];rfl
theorem Aj {a c:aa}{b:Nat}{d:Array J0}{T:Q7}(x:Ext a c)(e:a[b]? =some (J2 d T (0,0))):c[b]? =some (J2 d T (0,0)):=x.af e (λa=>a)
theorem AOL {l:ak}{e:aa}{x:Pr}{f:A2O}(h:LM x)(m: ∀o,Ext e o->f (J7 (AX (Ib x))) o):AA l P Ni #[x.agg] e f:=by
 obtain⟨a,v,g⟩:=x;have r:=h.bJ;have s:=h.cw;have p:=h.gone;dsimp only at r s p;show AA l P Ni #[.agg #[J7 a,J7 v,J3 g]] e f;refine AD5 ?_;unfold XP;refine al.mk λz _ b q A=>?_
 refine Ac.mk (AB b rfl) ?_;have B:=AV (n:=(bl a).length) (by rw[Av];omega);have C:=Av a;have D:=Av v;refine ae.intro (λi=>?_) (λi=>?_)
 ·subst i;refine AJ.mk (AL b rfl) ?_;refine VE (by omega) λt c=>⟨_,rfl,?_⟩
  refine CR (n:=0) (by omega) λu d=>⟨_,rfl,?_⟩
  have w:=AV (n:=0) (by omega);refine⟨by rw[AP,AP,max_i64];simp only[BG,A1];omega,?_⟩;rw[Ae];have j:Ib ⟨a,v,true⟩=BG (bl a)++BH 0:=by unfold Ib Ia;rw[Tm (p rfl)];simp
  rw[<- j];exact m _ ((q.trans c).trans d)
 ·subst i;refine AJ.mk (AL b rfl) ?_;refine VE (by omega) λt c=>⟨_,rfl,?_⟩
  have k:=Aj c b;refine AJ.mk (AB k rfl) ⟨AB b rfl,?_⟩;rw[yc (by omega)];refine CR (by omega) λu d=>⟨_,rfl,?_⟩
  have y:=Aj d k;have w:=AV (n:=v.size+1) (by omega);refine⟨by rw[AP,AP,max_i64];simp only[BG,A1];omega,?_⟩;refine AJ.mk (AB y rfl) ⟨AB k rfl,AB b rfl,?_,?_⟩
  ·rw[Ae,AP,max_i64];simp only[BG,A1];omega
  ·rw[Ae];have j:AX (BG (bl a)++BH (v.size+1))++v=AX (Ib ⟨a,v,false⟩):=by
    have:v=AX (bl v):=(DL v).symm
    conv=>lhs;arg 2;rw[this]
    rw[Ae];unfold Ib Ia;simp[A4]
   rw[j];exact m _ ((q.trans c).trans d)
theorem yd {s:A2P}(a:s.size≠0):bM s (⟨#[]⟩:A2P)=false:=by rw[XL,decide_eq_false_iff_not];intro b;have:=Av s;rw[b] at this;exact a this.symm
theorem ye {a:Nat}(b:a<=100000):(if((J8 J9 (((a:Nat):Int)-(1:Int))):Int)>0 then(J8 J9 (((a:Nat):Int)-(1:Int))) else 0)=((a-1:Nat):Int):=by rw[wrap_i64 (by omega) (by omega)];split<;>omega
theorem Yt {l:List Pr}(a: ∀x∈l,LM x):l.length<=(BJ l).length:=by
 induction l with
 |nil=>simp
 |cons x l b=>
  have:=(QH (a x AM)).1;have:=b λc d=>a c (An _ d)
  simp only[BJ,AI,A1,A6] at this ⊢;omega
theorem rf {ag:ak}{c:aa}{l:List Pr}{I:A2O}(J: ∀x∈l,LM x)(aN:(BJ l).length<1099511627776)
  (ai: ∀s z,Own BR AU z s l->Ext c z->(∀ b,s.af=some b->c.size<=b)->I (J1 #[J4 s.p s.len s.cap,J3 true]) z):AA ag P Jt #[J7 (AX (BJ l))] c I:=by
 refine ACx ?_;unfold Vp;refine Kq λaO aj am=>⟨_,rfl,?_⟩
 have aP:=Yt J;refine Loop.rule (λm x f=> ∃(i:Nat) (s:Sl),x=(s,())/\m=l.length-i/\i<=l.length/\Io f c.size ⟨BJ (l.drop i),false⟩/\Ext c f/\Own BR AU f s (l.take i)/\ ∀b,s.af=some b->c.size<=b) ?_ ⟨0,⟨none,0,0⟩,rfl,rfl,by omega,aj,am,Own.nil,λb a=>by simp[Sl.af] at a⟩;rintro K m _ f ⟨i,s,rfl,rfl,aQ,rd,t,p,A⟩ an;dsimp only;refine NZ rd ⟨_,rfl,?_⟩;by_cases g:i<l.length
 ·have L:l[i]? =some l[i]:=A2 g;have M:l[i]∈l:=AT g;have hd:l.drop i=l[i]::l.drop (i+1):=Fk g;have N:l.take (i+1)=l.take i++ [l[i]]:=by rw[AD,L];rfl
  generalize l[i]=x at L M hd N;have h:=J x M;have O:BJ (l.drop i)=Ib x++BJ (l.drop (i+1)):=by rw[hd];rfl
  have Q:(Ib x++BJ (l.drop (i+1))).length<1099511627776:=by
   have e:BJ l=BJ (l.take i)++BJ (l.drop i):=by rw[<- FF,DG]
   have:=congrArg List.length e;rw[O,A1] at this;omega
  have aR:=QH h;rw[O] at rd ⊢;refine ae.yes ?_ ?_
  ·unfold YR;have:(Ib x++BJ (l.drop (i+1)))≠ []:=by intro e;have:=congrArg List.length e;simp only[A1,FG] at this;omega
   simp only[P2,DP,CA,List.isEmpty_eq_false_iff];exact this
  ·refine IL rd Q λd u B=>⟨_,rfl,?_⟩
   rw[vx h] at u ⊢;dsimp only at u ⊢;rw[DL];refine al.mk λao _ ap R aS=>?_
   refine ab.mk ap (by simp) λaT aq S aU=>?_
   rw[BZ,BZ];refine ab.mk aq (by simp) λaV ar T aW=>?_
   refine ab.mk ar (by simp) λau av U aX=>?_
   have aY:c.size<d.size:=by have:=Af u;exact this
   have j:c.size≠d.size:=by omega
   have aw:Io au c.size ⟨BH (Ia x)++bl x.val++BJ (l.drop (i+1)),false⟩:=U.af (T.af (S.af (R.af u (λc=>c)) j) j) j;have ax:(BH (Ia x)++bl x.val++BJ (l.drop (i+1))).length<=1099511627776:=by simp only[Ib,A1] at Q ⊢;omega
   refine DX (most:=8193) aw ax (by decide) λC v V=>⟨_,rfl,?_⟩
   rw[vz h] at v ⊢;dsimp only at v ⊢;have W:C[d.size]? =some (J2 #[J7 x.key,J7 ⟨#[]⟩,J3 false] AU (0,0)):=V.af (by simpa using av) (Ne.symm j);refine ah.mk λay az=>?_
   have aZ:=Yr h;have key: ∀q,Io q c.size ⟨bl x.val++BJ (l.drop (i+1)),false⟩->q[d.size]? =some (J2 #[J7 x.key,J7 ⟨#[]⟩,J3 x.gone] AU (0,0))->Mod (λb=>b=c.size\/b=d.size) d q->ay () q:=by
    intro q aA aC aD;refine az () q ?_;rw[ye (by omega)];refine qN aA λa0 D X=>⟨_,rfl,?_⟩
    rw[vA h] at D ⊢;dsimp only at D ⊢;rw[DL];have aE:=X.af aC (Ne.symm j);refine ab.mk aE (by simp) λr k Y a1=>?_
    have F:Io r c.size ⟨BJ (l.drop (i+1)),false⟩:=Y.af D j;have k:r[d.size]? =some (J2 #[J7 x.key,J7 x.val,J3 x.gone] AU (0,0)):=by simpa using k
    refine ah.mk λa2 aF=>?_
    refine AQ8 F ⟨_,rfl,?_⟩;refine ae.no rfl ?_;refine AJ.mk (AL k rfl) ?_;refine ae.no (yd h.key) ?_;refine AJ.mk (AL k rfl) ?_;have a3:=h.bJ;refine aF _ _ (ae.no (by simp;omega) ?_);refine AJ.mk (AL k rfl) ?_;refine AJ.mk (AL k rfl) ?_;refine Ac.mk (AL k rfl) ?_;have w:Mod (λb=>b=c.size\/b=d.size) f r:=by
     have G:Mod (λb=>b=c.size\/b=d.size) f d:=B.ai λb _ a=> .inl a
     exact((G.trans aD).trans (X.ai λb _ a=> .inl a)).trans (Y.ai λb _ a=> .inr a)
    have Z: ∀b,s.af=some b-> ¬(b=c.size\/b=d.size):=by
     intro b a;have a4:=p.lt a;have aG:=B.size;rintro(rfl|rfl)
     ·exact p.ne rd (by decide) a
     ·omega
    refine al.aZ (E:=BR) (x:=x) rfl Hz (p.mod w Z) ?_ ?_ λaH a5 ac H aI a6=>?_
    ·rw[AH];omega
    ·simp only[maxLen];rw[AH];omega
    ·rw[<- N] at ac;have y:Ext c r:=by refine⟨by have:=t.size;have:=w.size;omega,λb a _=>?_⟩;have aG:=B.size;have:=t.size;exact(w.get b (by omega) (by omega)).trans (t.get b a (λc=>c))
     refine an (l.length-(i+1)) _ _ (by omega) ⟨i+1,aH,rfl,rfl,g,?_,?_,ac,?_⟩
     ·refine H.af F λe=>?_
      have:Own BR AU r s (l.take i):=p.mod w Z;exact this.ne F (by decide) e
     ·refine⟨by have:=y.size;have:=H.size;omega,λb a _=>?_⟩;have:=y.size;exact(H.get b (by omega) (λe=>by have:=A b e;omega)).trans (y.get b a (λc=>c))
     ·intro b a;rcases aI b a with e|e
      ·exact A b e
      ·have:=y.size;omega
   have ad:Mod (λb=>b=c.size\/b=d.size) d C:=by have G:Mod (λb=>b=c.size\/b=d.size) d ao:=R.mod;exact(((G.trans (S.ai λb _ a=> .inr a)).trans (T.ai λb _ a=> .inr a)).trans (U.ai λb _ a=> .inr a)).trans (V.ai λb _ a=> .inl a)
   refine ae.intro (λn=>?_) (λn=>?_)
   ·have o:x.gone=true:=by
     unfold Ia at n;split at n
     ·rename_i o;exact o
     ·simp at n;omega
    refine ab.mk W (by simp) λaJ aK af a7=>?_
    refine key aJ (af.af v j) (by rw[o];simpa using aK) (ad.trans (af.ai λb _ a=> .inr a))
   ·have o:x.gone=false:=by
     cases o:x.gone with
     |false=>rfl
     |true=>unfold Ia at n;rw[o] at n;simp at n
    exact key C v (by rw[o];exact W) ad
 ·have g:i=l.length:=by omega
  have aL:l.drop i= []:=by rw[g];simp
  have aM:l.take i=l:=by rw[g];simp
  rw[aL];rw[aM] at p;exact ae.no rfl (ai s f p t A)
def BM(a:Nat)(l:List Pr):List UInt8:=BH a++BH l.length++BJ l
theorem Ll {l:List Pr}(b: ∀x∈l,LM x):(BJ l).length<=l.length*8276:=by
 induction l with
 |nil=>simp
 |cons x l c=>
  have a:=b x AM;have f:=(QH a).2;have g:=a.bJ;have h:=a.cw;have:=c λd e=>b d (An _ e)
  simp only[BJ,AI,A1,A6] at this ⊢;omega
theorem ARF {l:List Pr}(a: ∀x∈l,LM x)(i:Nat): ∀x∈l.take i,LM x:=λx b=>a x (DM b)
theorem AOu {D:ak}{f:aa}{s:Sl}{l:List Pr}{c:Nat}{t:A2O}(Z:c<=99999999)(ab:l.length<=64)(u: ∀x∈l,LM x)(v:View BR f s l)(ac: ∀b,s.af=some b->b<f.size)
  (E: ∀d,Ext f d->t (J7 (AX (BM c l))) d):AA D P TL #[J6 J9 (c:Int),J4 s.p s.len s.cap] f t:=by
 refine AGo ?_;unfold tv;rw[Ba (by omega)];refine CR (by omega) λad F=>⟨_,rfl,?_⟩
 rw[v.len,Ba (by omega)];refine CR (by omega) λaf G=>⟨_,rfl,?_⟩
 have ag:=AV (n:=c) (by omega);have ai:=AV (n:=l.length) (by omega);refine⟨by rw[AP,AP,max_i64];omega,?_⟩;rw[Ae];refine Loop.rule (λm x o=> ∃i:Nat,x=(AX (BH c++BH l.length++BJ (l.take i)),(i:Int),())/\m=l.length-i/\i<=l.length/\Ext f o) ?_ ⟨0,by simp,rfl,by omega,F.trans G⟩;rintro K m _ o ⟨i,rfl,rfl,aj,p⟩ H;dsimp only;refine ae.intro (λq=>?_) (λq=>?_)
 ·have e:i<l.length:=by simp at q;omega
  have r:l[i]? =some l[i]:=A2 e;have w:l.take (i+1)=l.take i++ [l[i]]:=by rw[AD,r];rfl
  have h:=u _ (AT e);generalize l[i]=x at r w h;have am:=h.bJ;have an:=h.cw;have I:=h.gone;have lt:=Ll (ARF u i);rw[AH] at lt;have ao:=AV (n:=(bl x.key).length) (by rw[Av];omega);have ap:=Av x.key;have aq:=Av x.val;refine ah.mk λJ L=>?_
  obtain⟨a,M,N⟩:=(v.ext p).cells i x r;refine bG.mk M e ?_;obtain⟨O,Q,R⟩:=N.pair;rw[As];refine AJ.mk O (AJ.mk Q (Ac.mk R ?_));refine al.pair λb ar au y S av=>?_
  refine AJ.mk (AL y rfl) ?_;refine VE (by omega) λT z=>⟨_,rfl,⟨by rw[AP,AP,max_i64];simp only[BG,A1];omega,?_⟩⟩
  have j:=Aj z y;refine Ac.mk (AB j rfl) ?_;rw[Ae];have A: ∀d,Ext T d->J (AX (BH c++BH l.length++BJ (l.take (i+1))),()) d:=by intro d U;refine L _ _ ?_;dsimp only;rw[AZ (by omega)];exact H (l.length-(i+1)) _ _ (by omega) ⟨i+1,rfl,rfl,e,((p.trans S).trans z).trans U⟩
  have B:BJ (l.take (i+1))=BJ (l.take i)++Ib x:=by rw[w];simp[BJ]
  refine ae.intro (λk=>?_) (λk=>?_)
  ·refine CR (n:=0) (by omega) λV W=>⟨_,rfl,?_⟩
   have X:=AV (n:=0) (by omega);refine⟨by rw[AP,AP,max_i64];simp only[BG,A1];omega,?_⟩;rw[Ae];have g:Ib x=BG (bl x.key)++BH 0:=by unfold Ib Ia;rw[k,Tm (I k)];simp
   have:=A V W;rw[B,g] at this;simpa only[A4] using this
  ·refine AJ.mk (AB j rfl) ?_;rw[yc (by omega)];refine CR (by omega) λY C=>⟨_,rfl,?_⟩
   have X:=AV (n:=x.val.size+1) (by omega);refine AJ.mk (AB (Aj C j) rfl) ⟨AB j rfl,?_,?_,?_⟩
   ·rw[AP,max_i64];omega
   ·have aw:x.val=AX (bl x.val):=(DL _).symm;rw[Kx,AP,AP,max_i64];simp only[BG,A1];omega
   ·have g:AX (BH (x.val.size+1))++x.val=AX (BH (Ia x)++bl x.val):=by
     conv=>lhs;arg 2;rw[(DL x.val).symm]
     rw[Ae];unfold Ia;rw[k];rfl
    rw[g,Ae];have:=A Y C;rw[B] at this;unfold Ib at this;simpa only[A4] using this
 ·have e:i=l.length:=by simp at q;omega
  have g:l.take i=l:=by rw[e];simp
  rw[g];exact E o p
theorem AJq {ah:ak}{c:aa}{l:List Pr}{o:Nat}{I:A2O}(aM:o<=99999999)(aN:l.length<=64)(J: ∀x∈l,LM x)
  (ai: ∀s y,Own BR AU y s l->Ext c y->(∀ b,s.af=some b->c.size<=b)->I (J1 #[J6 J9 (o:Int),J4 s.p s.len s.cap,J3 true]) y):AA ah P Py #[J7 (AX (BM o l))] c I:=by
 refine ADr ?_;unfold WF;have aO:=AV (n:=o) (by omega);have aP:=AV (n:=l.length) (by omega);have aQ:=Ll J;refine Kq λaR L z=>⟨_,rfl,?_⟩
 have A:BM o l=BH o++(BH l.length++BJ l):=by simp[BM,A4]
 rw[A] at L;refine DX (most:=99999999) L (by simp only[A1];omega) (by decide) λd e g=>⟨_,rfl,?_⟩
 rw[Ci (by omega) (by omega)] at e ⊢;dsimp only at e ⊢;refine DX (most:=64) e (by simp only[A1];omega) (by decide) λaj B M=>⟨_,rfl,?_⟩
 rw[Ci (by omega) (by omega)] at B ⊢;dsimp only at B ⊢;have am:Ext c aj:=by refine⟨by have:=z.size;have:=g.size;have:=M.size;omega,λb a _=>?_⟩;have:=z.size;have:=g.size;exact((M.get b (by omega) (by omega)).trans (g.get b (by omega) (by omega))).trans (z.get b a (λc=>c))
 refine Loop.rule (λm x h=> ∃(i:Nat) (s:Sl),x=(s,(i:Int),())/\m=l.length-i/\i<=l.length/\Io h c.size ⟨BJ (l.drop i),false⟩/\Ext c h/\Own BR AU h s (l.take i)/\ ∀b,s.af=some b->c.size<=b) ?_ ⟨0,⟨none,0,0⟩,rfl,rfl,by omega,B,am,Own.nil,λb a=>by simp[Sl.af] at a⟩;rintro K m _ h ⟨i,s,rfl,rfl,aS,rd,t,p,C⟩ an;dsimp only;refine ae.intro (λD=>?_) (λD=>?_)
 ·have j:i<l.length:=by simp at D;omega
  have N:l[i]? =some l[i]:=A2 j;have O:l[i]∈l:=AT j;have hd:l.drop i=l[i]::l.drop (i+1):=Fk j;have Q:l.take (i+1)=l.take i++ [l[i]]:=by rw[AD,N];rfl
  generalize l[i]=x at N O hd Q;have u:=J x O;have R:BJ (l.drop i)=Ib x++BJ (l.drop (i+1)):=by rw[hd];rfl
  have S:(Ib x++BJ (l.drop (i+1))).length<1099511627776:=by
   have f:BJ l=BJ (l.take i)++BJ (l.drop i):=by rw[<- FF,DG]
   have:=congrArg List.length f;rw[R,A1] at this;omega
  rw[R] at rd;refine IL rd S λd e g=>⟨_,rfl,?_⟩
  rw[vx u] at e ⊢;dsimp only at e ⊢;rw[DL];refine al.mk λao _ ap T aT=>?_
  refine ab.mk ap (by simp) λaU aq U aV=>?_
  rw[BZ,BZ];refine ab.mk aq (by simp) λaW ar V aX=>?_
  refine ab.mk ar (by simp) λau av W aY=>?_
  have aZ:c.size<d.size:=by have:=Af e;exact this
  have k:c.size≠d.size:=by omega
  have aw:Io au c.size ⟨BH (Ia x)++bl x.val++BJ (l.drop (i+1)),false⟩:=W.af (V.af (U.af (T.af e (λc=>c)) k) k) k;have ax:(BH (Ia x)++bl x.val++BJ (l.drop (i+1))).length<=1099511627776:=by simp only[Ib,A1] at S ⊢;omega
  refine DX (most:=8193) aw ax (by decide) λay F X=>⟨_,rfl,?_⟩
  rw[vz u] at F ⊢;dsimp only at F ⊢;have az:ay[d.size]? =some (J2 #[J7 x.key,J7 ⟨#[]⟩,J3 false] AU (0,0)):=X.af (by simpa using av) (Ne.symm k);have a0:=Yr u;have aA:(((Ia x:Nat):Int)==(0:Int))=x.gone:=by
   unfold Ia;cases x.gone
   ·simp;omega
   ·simp
  rw[aA];refine ab.mk az (by simp) λaC aD Y a1=>?_
  rw[ye (by omega)];have aE:Io aC c.size ⟨bl x.val++BJ (l.drop (i+1)),false⟩:=Y.af F k;refine qN aE λa2 G Z=>⟨_,rfl,?_⟩
  rw[vA u] at G ⊢;dsimp only at G ⊢;rw[DL];have aF:=Z.af aD (Ne.symm k);refine ab.mk aF (by simp) λq r ac a3=>?_
  have ad:Io q c.size ⟨BJ (l.drop (i+1)),false⟩:=ac.af G k;have r:q[d.size]? =some (J2 #[J7 x.key,J7 x.val,J3 x.gone] AU (0,0)):=by simpa using r
  refine AJ.mk (AL r rfl) ?_;refine AJ.mk (AL r rfl) ?_;refine Ac.mk (AL r rfl) ?_;have v:Mod (λb=>b=c.size\/b=d.size) h q:=by
   have aG:Mod (λb=>b=c.size\/b=d.size) h d:=g.ai λb _ a=> .inl a
   have aH:Mod (λb=>b=c.size\/b=d.size) d ao:=T.mod;exact((((((((aG.trans aH).trans (U.ai λb _ a=> .inr a)).trans (V.ai λb _ a=> .inr a)).trans (W.ai λb _ a=> .inr a)).trans (X.ai λb _ a=> .inl a)).trans (Y.ai λb _ a=> .inr a)).trans (Z.ai λb _ a=> .inl a))).trans (ac.ai λb _ a=> .inr a)
  have af: ∀b,s.af=some b-> ¬(b=c.size\/b=d.size):=by
   intro b a;have a4:=p.lt a;have aI:=g.size;rintro(rfl|rfl)
   ·exact p.ne rd (by decide) a
   ·omega
  refine al.aZ (E:=BR) (x:=x) rfl Hz (p.mod v af) ?_ ?_ λaJ a5 ag H aK a6=>?_
  ·rw[AH];omega
  ·simp only[maxLen];rw[AH];omega
  ·rw[<- Q] at ag;have w:Ext c q:=by refine⟨by have:=t.size;have:=v.size;omega,λb a _=>?_⟩;have aI:=g.size;have:=t.size;exact(v.get b (by omega) (by omega)).trans (t.get b a (λc=>c))
   rw[AZ (by omega)];refine an (l.length-(i+1)) _ _ (by omega) ⟨i+1,aJ,rfl,rfl,j,?_,?_,ag,?_⟩
   ·refine H.af ad λf=>?_
    have:Own BR AU q s (l.take i):=p.mod v af;exact this.ne ad (by decide) f
   ·refine⟨by have:=w.size;have:=H.size;omega,λb a _=>?_⟩;have:=w.size;exact(H.get b (by omega) (λf=>by have:=C b f;omega)).trans (w.get b a (λc=>c))
   ·intro b a;rcases aK b a with f|f
    ·exact C b f
    ·have:=w.size;omega
 ·have j:i=l.length:=by simp at D;omega
  have A:l.drop i= []:=by rw[j];simp
  have aL:l.take i=l:=by rw[j];simp
  rw[A] at rd;rw[aL] at p;refine NZ rd ⟨_,rfl,?_⟩;exact ai s h p t C
end Go.Lf.G
namespace Go.Lf
open Go
def Bu(l:List Pr)(i:Nat):List Pr:=(l.drop (8*i)).take 8
def Bh(l:List Pr):Nat:=(l.length+7) / 8
def KZ(l:List Pr):List (List Pr):=(List.range (Bh l)).map (Bu l)
def Il(l:List Pr)(i:Nat):A2P:=match l[i]? with|some p=>p.key|none=>⟨#[]⟩
def CF(l:List Pr):List A2P:=(List.range (Bh l)).map λi=>Il l (8*i)
def VU(l:List Pr)(f:List UInt8):List UInt8:=BH (Bh l)++((CF l).flatMap λa=>BG (bl a))++(BH l.length++BG f)
def aT(l:List Pr)(f:List UInt8):List (List UInt8):=(KZ l).map BJ++ [VU l f]
theorem QX {l:List Pr}{i:Nat}(a:i<Bh l):1<=(Bu l i).length/\(Bu l i).length<=8/\(i+1<Bh l->(Bu l i).length=8):=by
 unfold Bu Bh at*
 rw[AH,DH];omega
theorem QE {l:List Pr}{i j:Nat}(a:j<8):(Bu l i)[j]? =l[8*i+j]? :=by unfold Bu;rw[E0,if_pos a,Bm]
theorem vC {l:List Pr}: ∀i,l.take (8*i)++Bu l i=l.take (8*(i+1)):=λi=>by
 unfold Bu;rw[show 8*(i+1)=8*i+8 by omega,List.take_add]
theorem vD(l:List Pr): ∀n,((List.range n).map (Bu l)).flatten=l.take (8*n)
 |0=>by simp
 |n+1=>by rw[N5,Cd,N6,vD l n];simpa using vC n
theorem AMh(l:List Pr):(KZ l).flatten=l:=by unfold KZ;rw[vD,AE];unfold Bh;omega
theorem Gt(l:List Pr):(KZ l).length=Bh l:=by simp[KZ]
theorem HY(l:List Pr):(CF l).length=Bh l:=by simp[CF]
theorem vE {l:List Pr}(a:l≠ []):1<=Bh l:=by have:=List.length_pos_iff.2 a;unfold Bh;omega
structure gD (s:List UInt8) (l:List Pr) (f:List UInt8):Prop where
 bytes:s=aK (aT l f)
 ne:l≠ []
 ok: ∀p∈l,LM p
 inc:l.Pairwise λp q=>aQ p.key q.key=true
 jc:1<=f.length/\f.length<=8192
 has: ∀p∈l,gC f p.key=true
 many:l.length<=100000
theorem Yt {l:List Pr}(a: ∀p∈l,LM p):(BJ l).length<=l.length*8276:=by
 induction l with
 |nil=>simp
 |cons p l b=>
  have f:=(QH (a p (by simp))).2;have c:=b λd e=>a d (An _ e)
  have g:=(a p (by simp)).bJ;have h:=(a p (by simp)).cw;simp only[BJ,AI,A1,A6] at c ⊢;omega
theorem Pe {l:List Pr}{i:Nat}{p:Pr}(a:p∈Bu l i):p∈l:=HQ (DM a)
theorem Xq {s:List UInt8}{l:List Pr}{f:List UInt8}(T:gD s l f):(VU l f).length<=1048576:=by
 have r:=T.many;have t:=T.jc.2;have u:=AV (n:=Bh l) (by unfold Bh;omega);have v:=AV (n:=l.length) (by omega);have w:=AV (n:=f.length) (by omega);have c: ∀a∈CF l,a.size<=64:=λa c=>by
  obtain⟨i,_,rfl⟩:=List.mem_map.1 c;unfold Il;split
  ·rename_i p e;exact(T.ok p (AF e)).bJ
  ·exact AG _
 have g: ∀b:List A2P,(∀ a∈b,a.size<=64)->(b.flatMap λa=>BG (bl a)).length<=b.length*65:=by
  intro b
  induction b with
  |nil=>intro _;simp
  |cons a b h=>
   intro d;have j:=h λx k=>d x (An _ k)
   have y:=d a (by simp);have m:(BH a.size).length=1:=by rw[FN (by omega)];rfl
   have o:(BG (bl a)).length=1+a.size:=by simp only[BG,A1,Av,m]
   simp only[AI,A1,A6,o] at j ⊢;omega
 have q:=g (CF l) c;rw[HY] at q;have z:Bh l<=12501:=by unfold Bh;omega
 have A:(BG f).length=(BH f.length).length+f.length:=by simp[BG]
 simp only[VU,A1];omega
theorem NW {s:List UInt8}{l:List Pr}{f:List UInt8}(T:gD s l f): ∀c∈aT l f,c.length<=1048576:=λc a=>by
 rcases List.mem_append.1 a with a|a
 ·obtain⟨b,d,rfl⟩:=List.mem_map.1 a;obtain⟨i,e,rfl⟩:=List.mem_map.1 d;have j:=Yt (l:=Bu l i) λp g=>T.ok p (Pe g)
  have h:=(QX (List.mem_range.1 e)).2.1;have:(Bu l i).length*8276<=8*8276:=AS _ h;omega
 ·rw[List.mem_singleton.1 a];exact Xq T
def qz(s:Sl):J0:=J4 s.p s.len s.cap
def AP9(h:ak)(P:Q1)(j:J0)(l:List Sl)(d:Nat->Bool->(Nat->Prop)->aa->Prop):Prop:=
 ∀i x c a,l[i]? =some x->d i true c a->EL h P j #[qz x] a λv e=> ∃g f,v=J3 g/\(∀ b,f b->c b\/a.size<=b)/\Mod c a e/\d (i+1) g f e
def lH(k:ak)(P:Q1)(fv:J0)(j:Nat->Prop)(m:aa)(l:List Sl):Prop:=
 (∀ b,j b->b<m.size)/\ ∃f d,fv= .func (.func f) #[] d/\(∀ a,(callFunc f (#[]++ #[a]++d)).calc P=some (.enter f (#[]++ #[a]++d)))/\
  ∀(c:aa),(∀ b,j b->c[b]? =m[b]?)-> ∀a e h,Kh a=true->(∀ b,j b-> ¬h b)->Body c e->AP9 k P a l e->e 0 true h c->
   AA k P f (#[]++ #[a]++d) c λv n=>v=J1 #[]/\ ∃i g o,Mod h c n/\(∀ b,o b->h b\/c.size<=b)/\e i g o n/\(g=true->i=l.length)/\i<=l.length
theorem lH.ai {e:ak}{P:Q1}{fv:J0}{c S':Nat->Prop}{g d:aa}{l:List Sl}(i:lH e P fv c g l)(h: ∀b,c b->S' b)(j: ∀b,S' b->b<d.size)(k: ∀b,c b->d[b]? =g[b]?):lH e P fv S' d l:=by obtain⟨_,f,m,n,o,p⟩:=i;refine⟨j,f,m,n,o,λq r s t u v hd=>p q (λb a=>(r b (h b a)).trans (k b a)) s t u v λb a=>hd b (h b a)⟩
theorem lH.one {a:ak}{P:Q1}{fv:J0}{b:Nat->Prop}{c:aa}{l:List Sl}(d:lH a P fv b c l):Kh fv=true/\ie fv/\Tz fv=false:=by obtain⟨_,f,e,rfl,_⟩:=d;exact⟨rfl,by simp[ie],rfl⟩
def qA(x:Sl):im [.one .sl]:=(x,())
def vX(j:ak)(P:Q1)(fv:J0)(m:Nat->Prop)(n:aa)(l:List Sl):Prop:=
 ∃f e,fv= .func (.func f) #[] e/\(∀ a,(callFunc f (#[]++ #[a]++e)).calc P=some (.enter f (#[]++ #[a]++e)))/\
  ∀(k:aa) (a:J0) (c:Nat->Bool->aa->Prop),Kh a=true->(∀ i g d,c i g d-> ∀b,m b->d[b]? =n[b]?)->
   (∀ i x d,l[i]? =some x->c i true d->EL j P a #[qz x] d λv h=> ∃g,v=J3 g/\c (i+1) g h)->c 0 true k->
   AA j P f (#[]++ #[a]++e) k λv h=>v=J1 #[]/\ ∃i g,c i g h/\(g=true->i=l.length)/\i<=l.length
theorem AS1 {o:ak}{P:Q1}{fv:J0}{p:Nat->Prop}{q c:aa}{l:List Sl}(z:vX o P fv p q l)
  (Inv:Nat->aa->Prop) {body:im [.one .sl]->Nat->aa->(aa->Prop)->(Option Nat->aa->Prop)->Prop} {r:aa->Prop} {A:Option Nat->aa->Prop}
  (B: ∀i a,Inv i a-> ∀b,p b->a[b]? =q[b]?)
  (s: ∀i a C,Inv i a->a[c.size]? =some (.deferred (some []))->(∃ D,a[c.size+1]? =some (.loop D))->Inv i (a.setIfInBounds (c.size+1) (.loop C)))
  (E: ∀rec,Inv 0 ((c.push (.deferred (some []))).push (.loop rec)))
  (round: ∀i x a rec t F,l[i]? =some x->Inv i a->a[c.size]? =some (.deferred (some []))->a[c.size+1]? =some (.loop rec)->rec.state= .ready->
   (∀ d,Inv (i+1) d->d[c.size]? =some (.deferred (some []))->d[c.size+1]? =some (.loop {rec with state:= .busy})->t d)->body (qA x) (c.size+1) a t F)
  (G: ∀d,Inv l.length d->d[c.size]? =some (.deferred (some []))->r d):Wo o P fv [.one .sl] body c r A:=by
 intro rec h k S H;obtain⟨f,u,rfl,I,J⟩:=z;refine⟨f,_,?_,AA.mono (J ((c.push (.deferred (some []))).push (.loop rec)) (.func (.yield (c.size+1)) #[] #[])
  (λi g a=>Inv i a/\g=true/\a[c.size]? =some (.deferred (some []))/\a[c.size+1]? =some (.loop rec)) rfl (λi g a K=>B i a K.1) ?_ ?_) ?_⟩
 ·have L:(do let w <-Deferred.ofValue (.func (.func f) #[] u) #[.func (.yield (c.size+1)) #[] #[]];invoke w.target w.args:Sem Next).calc P=(callFunc f (#[]++ #[.func (.yield (c.size+1)) #[] #[]]++u)).calc P:=rfl;unfold Vj;rw[L,I]
 ·rintro i x a M ⟨m,_,j,e⟩;refine H (qA x) a _ e (round i x a rec _ _ M m j e h ?_);intro d N y n;have O:c.size+1<d.size:=Af n;refine⟨_,n,true,rfl,s _ _ _ N y ⟨_,n⟩,rfl,?_,?_⟩
  ·rw[DS (by omega)];exact y
  ·rw[CQ O];cases rec;simp at h k;simp[h,k]
 ·refine⟨E rec,rfl,?_,?_⟩
  ·rw[PF (by simp)];simp
  ·have Q:c.size+1=(c.push (.deferred (some []))).size:=by simp
   rw[Q];exact PJ
 ·rintro v T ⟨_,i,g,⟨m,rfl,j,e⟩,R,U⟩;refine⟨rec,e,by simp[h],.inl ⟨k,G _ ?_ ?_⟩⟩
  ·have:=R rfl;subst this;exact s _ _ _ m j ⟨_,e⟩
  ·rw[DS (by omega)];exact j
end Go.Lf
namespace Go.Lf.G
open Go
def U8(a:aa)(c:Nat):Prop:= ∃b d,a[c]? =some (J2 b DZ d)
def eY(a:Nat)(c:aa)(b:Nat)(l:List UInt8):Prop:= ∀(d:ak) (e:Nat),Lib.IsBuilderF Dm DZ a b (Lib.byteCells l) (d.at c e)
theorem yg {A:ak}{n a b:Nat}{c:aa}{l:List UInt8}(d:Lib.IsBuilderF Dm DZ a b (Lib.byteCells l) (A.at c n)):eY a c b l:=λ_ _=>d
theorem VY {g:ak}{a:aa}{j e b:Nat}{d:World}(hB:e<=a.size)(n:RowKit.Below e (g.at a j) d)(o:Lib.OthersKept DZ (some b) (g.at a j) d):
  d=g.at d.heap d.drawn/\Mod (λc=>c=b\/(e<=c/\U8 a c)) a d.heap:=by
 obtain⟨f,k,l,p,q⟩:=n;refine⟨?_,⟨p,λc r m=>?_⟩⟩
 ·cases d;simp only[ak.at] at f k l ⊢;subst f k l;rfl
 ·by_cases s:c<e
  ·exact q c s
  ·have h:a[c]? =some a[c]:=CH r;have f:=o c a[c] h (by intro i;exact m (.inl (Bs i))) (λt u i=>m (.inr ⟨by omega,t,u,by rw[h,i]⟩));rw[f];exact h.symm
theorem eY.mod {a b:Nat}{e f:aa}{l:List UInt8}{h:Nat->Prop}(t:eY a e b l)(m:Mod h e f)(u: ¬h b)(w: ∀c,a<=c->U8 e c-> ¬h c):eY a f b l:=by
 intro i j;have n: ∀p,Lib.BuilderAtF Dm DZ a b p (Lib.byteCells l) (i.at e j)->Lib.BuilderAtF Dm DZ a b p (Lib.byteCells l) (i.at f j):=by
  rintro p ⟨d,v,x,⟨y,k⟩,z⟩;refine⟨d,v,m.af x u,⟨y,?_⟩,z⟩;rcases k with k|⟨g,A,o,q,B,r,s,rest⟩
  ·exact .inl k
  ·exact .inr ⟨g,A,o,q,B,r,m.af s (w g r ⟨o,q,s⟩),rest⟩
 rcases t i j with d|d
 ·exact .inl (n _ d)
 ·exact .inr (n _ d)
theorem eY.ext {c b:Nat}{a d:aa}{l:List UInt8}(e:eY c a b l)(m:Ext a d):eY c d b l:=e.mod m (λa=>a) (λ_ _ _ a=>a)
theorem eY.cell {a b:Nat}{c:aa}{l:List UInt8}(f:eY a c b l)(g:ak): ∃h,c[b]? =some (J2 h Dm (0,0))/\a<=b:=by rcases f g 0 with⟨d,v,e,_⟩|⟨d,v,e,_⟩<;>exact⟨_,e,d⟩
theorem AP5 {a b:Nat}{c:aa}(d:c[b]? =some (J2 #[J5 none,J4 none 0 0] Dm (0,0)))(hB:a<=b):eY a c b []:=by intro e f;exact .inl ⟨hB,_,d,⟨rfl,.inl ⟨rfl,rfl⟩⟩,by simp[Value.ownBlock]⟩
theorem UX {A:ak}{a:aa}{d b:Nat}{l:List UInt8}{s:A2P}{g:A2O}(j:eY d a b l)(hB:d<=a.size)(q:l.length+s.size<=1099511627776)
  (k: ∀e,eY d e b (l++bl s)->Mod (λc=>c=b\/(d<=c/\U8 a c)) a e->g (J1 #[J6 J9 s.size,.nilIface]) e):AA A P Dl #[Az b,J7 s] a g:=by
 intro n;refine Calls.mono (Proofs.Any.Builder_WriteString_k Proofs.Tryz.hZ Proofs.Tryz.dJ d b (Lib.byteCells l) s (A.at a n) (j A n) (by rw[Lib.byteCells_length];omega) hB) ?_;rintro r f ⟨rfl,h,o,p⟩;obtain⟨i,m⟩:=VY hB o p;refine⟨_,rfl,f.heap,f.drawn,i,k _ ?_ m⟩;rw[Lib.strCells_eq,<-Lib.byteCells_append,i] at h;exact yg (A:=A) (n:=f.drawn) (.inr h)
theorem AJW {A:ak}{a:aa}{d b:Nat}{l:List UInt8}{g:A2O}(j:eY d a b l)(hB:d<=a.size)
  (k: ∀e,eY d e b l->Mod (λc=>c=b\/(d<=c/\U8 a c)) a e->g (J7 (AX l)) e):AA A P Ga #[Az b] a g:=by
 intro n;refine Calls.mono (Proofs.Any.Builder_String_any_k Proofs.Tryz.ia Proofs.Tryz.dJ d b l (A.at a n) (j A n) hB) ?_;rintro q f ⟨rfl,h,o,p⟩;obtain⟨i,m⟩:=VY hB o p;refine⟨_,rfl,f.heap,f.drawn,i,k _ ?_ m⟩;rw[i] at h;exact yg (A:=A) (n:=f.drawn) h
def Pp(s:Sl)(i:Nat):Sl:=⟨Ay s.p (min (8*i+8) s.len) (8*i) 3,min (8*i+8) s.len-8*i,min (8*i+8) s.len-8*i⟩
def chunks(s:Sl):List Sl:=(List.range ((s.len+7) / 8)).map (Pp s)
theorem RG(s:Sl):(chunks s).length=(s.len+7) / 8:=by simp[chunks]
theorem yh {s:Sl}{i:Nat}(a:i<(s.len+7) / 8):(chunks s)[i]? =some (Pp s i):=by simp[chunks,a]
theorem View.chunk {d:aa}{s:Sl}{l:List Pr}(v:View BR d s l){i:Nat}(e:i<Bh l):View BR d (Pp s i) (Bu l i):=by
 have f:=v.len;unfold Bh at e;refine⟨?_,A0 _,λb x c=>?_⟩
 ·show min (8*i+8) s.len-8*i=(Bu l i).length;unfold Bu;rw[AH,DH,f];omega
 ·have g:b<8:=by have:=(List.getElem?_eq_some_iff.1 c).1;unfold Bu at this;rw[AH] at this;omega
  rw[QE g] at c;obtain⟨a,h,j⟩:=v.cells _ _ c;have m:=(List.getElem?_eq_some_iff.1 c).1;refine⟨a.add (8*i*3),?_,?_⟩
  ·unfold Pp Ay;simp only[h];rw[if_neg (by omega)];rfl
  ·rw[add_add];have k:8*i*3+b*BR.w=(8*i+b)*BR.w:=by show 8*i*3+b*3=(8*i+b)*3;omega
   rw[k];exact j
theorem ANI {a i:Nat}(b:a<=1099511627776)(c:8*i<a):J8 J9 (((8*i:Nat):Int)+(if((((a-((8*i:Nat):Int).toNat):Nat):Int):Int)<(8:Int) then(((a-((8*i:Nat):Int).toNat):Nat):Int) else(8:Int)))=((min (8*i+8) a:Nat):Int):=by
 rw[As];split
 ·rw[wrap_i64 (by omega) (by omega)];omega
 ·rw[wrap_i64 (by omega) (by omega)];omega
abbrev APM:Q8:=DI
theorem AOt {n:ak}{a:aa}{s:Sl}{o:A2O}(p:s.len<=s.cap)(w:s.len<=1099511627776)
  (y: ∀fv b,Ext a b->b.size=a.size+2->b[a.size]? =some (J2 #[J4 s.p s.len s.cap] AQ (0,0))->b[a.size+1]? =some (J2 #[J6 J9 8] BN (0,0))->
   vX n P fv (λc=>c=a.size\/c=a.size+1) b (chunks s)->o fv b):AA n P Da #[J4 s.p s.len s.cap,J6 J9 8] a o:=by
 refine JG ?_;unfold FE;refine al.mk λJ _ z A B=>?_
 refine al.mk λC _ d q L=>?_
 refine ah.mk λK h=>?_
 refine AC.mk (AL d rfl) ?_;refine ae.no rfl (h _ _ ?_);have r:=Aj q z;rw[B] at d ⊢;refine y _ C (A.trans q) (by omega) r d ⟨APM,#[Az a.size,Az (a.size+1)],rfl,λD=>by kernel_rfl,?_⟩;intro M D E N j F G;refine IR ?_;unfold Ed;refine Loop.rule (λm x e=> ∃i:Nat,x=(((8*i:Nat):Int),())/\m=(s.len+7) / 8-i/\i<=(s.len+7) / 8/\E i true e) ?_ ⟨0,rfl,rfl,by omega,G⟩;rintro K m _ e ⟨i,rfl,rfl,O,f⟩ h;have hA:e[a.size]? =some (J2 #[J4 s.p s.len s.cap] AQ (0,0)):=(j _ _ _ f _ (.inl rfl)).trans r;have hB:e[a.size+1]? =some (J2 #[J6 J9 8] BN (0,0)):=(j _ _ _ f _ (.inr rfl)).trans d;refine aF (AY.mk (AL hA rfl) ?_);dsimp only;refine ae.intro (λk=>?_) (λk=>?_)
 ·have t:8*i<s.len:=by simp at k;omega
  refine aF (AC.mk (AL hB rfl) ?_);refine aF (AY.mk (AL hA rfl) ⟨by omega,?_⟩);refine aF (AY.mk (AL hA rfl) ?_);rw[ANI w t,As,As];refine⟨by omega,by omega,by omega,?_⟩;have p:=yh (s:=s) (i:=i) (by omega);have u:=F i _ e p f;simp only[qz,Pp] at u;refine EL.mono u ?_;rintro v b ⟨g,rfl,l⟩;refine⟨g,rfl,?_⟩;cases g with
  |false=>exact ae.yes rfl ⟨rfl,i+1,false,l,(λa=>by cases a),by rw[RG];omega⟩
  |true=>
   refine ae.no rfl (aF ?_);have H:b[a.size+1]? =some (J2 #[J6 J9 8] BN (0,0)):=(j _ _ _ l _ (.inr rfl)).trans d;refine AC.mk (AL H rfl) ?_;have I:J8 J9 (((8*i:Nat):Int)+(8:Int))=((8*(i+1):Nat):Int):=by rw[wrap_i64 (by omega) (by omega)];omega
   rw[I];exact h ((s.len+7) / 8-(i+1)) _ _ (by omega) ⟨i+1,rfl,rfl,by omega,l⟩
 ·have t:s.len<=8*i:=by simp at k;omega
  have:i=(s.len+7) / 8:=by omega
  exact⟨rfl,i,true,f,λ_=>by rw[RG];exact this,by rw[RG];omega⟩
theorem rh:P7 P Bw Ar IQ.w 16=true:=by kernel_rfl
structure BS (h1:aa) (B:Nat) (E:Nat->Obj->Prop) (out:List UInt8) (kl:List A2P) (ix:List UInt8) (n:Nat) (hh:aa):Prop where
 gj:eY B hh B out
 keys: ∃ks:Sl,hh[B+1]? =some (J2 #[J4 ks.p ks.len ks.cap] Bw (0,0))/\Own IQ Ar hh ks kl/\ ∀c,ks.af=some c->B+3<c
 ix:hh[B+2]? =some (J2 #[J7 (AX ix)] Ar (0,0))
 ct:hh[B+3]? =some (J2 #[J6 J9 (n:Int)] BN (0,0))
 fix: ∀c o,E c o->hh[c]? =some o
 dT:Mod (λc=>B<=c) h1 hh
structure jD (B:Nat) (E:Nat->Obj->Prop):Prop where
 u8: ∀c o,E c o-> ∀cs fz,o≠ J2 cs DZ fz
 str: ∀c o,E c o-> ∀cs fz,o≠ J2 cs Ar fz
 lt: ∀c o,E c o->B+3<c
theorem lT {d:aa}{c:Nat}{e:Obj}(g:d[c]? =some e)(h: ∀a b,e≠ J2 a DZ b): ¬U8 d c:=by rintro⟨a,b,f⟩;rw[g] at f;exact h a b (Bs f)
theorem Ma {e:Array J0}{T b:Q7}{fr:Nat×Nat}(f:T≠b): ∀c d,(Obj.cells e T fr)≠ J2 c b d:=λc d a=>by injection a with _ a _;exact f a
theorem yi {a:aa}{b:Sl}{d:List A2P}(e:Own IQ Ar a b d){c:Nat}(f:U8 a c):b.af≠some c:=by obtain⟨h,i,g⟩:=f;exact e.ne g (by decide)
theorem BS.ext {a d e:aa}{f:Nat}{g:Nat->Obj->Prop}{out:List UInt8}{h:List A2P}{i:List UInt8}{j:Nat}(b:BS a f g out h i j d)(x:Ext d e):BS a f g out h i j e:=by obtain⟨k,l,m,n⟩:=b.keys;exact⟨b.gj.ext x,⟨k,Aj x l,m.ext x,n⟩,Aj x b.ix,Aj x b.ct,λc o p=>x.af (b.fix c o p) (λq=>q),b.dT.trans x.mod⟩
theorem BS.write {j g h:aa}{e:Nat}{i:Nat->Obj->Prop}{out k:List UInt8}{l:List A2P}{n:List UInt8}{o:Nat}(ok:jD e i)(b:BS j e i out l n o g)(r:eY e h e k)
  (m:Mod (λc=>c=e\/(e<=c/\U8 g c)) g h):BS j e i k l n o h:=by
 obtain⟨s,t,p,q⟩:=b.keys;have aM: ∀ {c:Nat} {f:Obj},g[c]? =some f->c≠e->(∀ u v,f≠ J2 u DZ v)->h[c]? =some f:=λa w x=>m.af a (λd=>d.elim w (λd=>lT a x d.2))
 refine⟨r,⟨s,aM t (by omega) (Ma (by decide)),p.mod m (λc a d=>?_),q⟩,aM b.ix (by omega) (Ma (by decide)),aM b.ct (by omega) (Ma (by decide)),λc f a=>aM (b.fix c f a) (by have:=ok.lt c f a;omega) (ok.u8 c f a),b.dT.trans (m.ai λc _ a=>by rcases a with d|d<;>omega)⟩;rcases d with d|d
 ·have:=q c a;omega
 ·exact yi p d.2 a
theorem BS.key {l h i:aa}{d:Nat}{j:Nat->Obj->Prop}{out:List UInt8}{n p:List A2P}{q:List UInt8}{r:Nat}(ok:jD d j)(b:BS l d j out n q r h){f jd:Sl}(v:h[d+1]? =some (J2 #[J4 f.p f.len f.cap] Bw (0,0)))
  (s:Own IQ Ar h f n) (k: ∀c,f.af=some c->d+3<c) (m:Mod (λc=>f.af=some c\/c=d+1) h i) (w:i[d+1]? =some (J2 #[J4 jd.p jd.len jd.cap] Bw (0,0)))
  (x:Own IQ Ar i jd p) (y: ∀c,jd.af=some c->d+3<c):BS l d j out p q r i:=by
 have hB: ∀c,f.af=some c\/c=d+1->d+1<=c:=λc e=>by
  rcases e with a|a
  ·have:=k c a;omega
  ·omega
 refine⟨b.gj.mod m (λa=>by have:=hB _ a;omega) (λc e t a=>?_),⟨jd,w,x,y⟩,m.af b.ix (λa=>?_),m.af b.ct (λa=>?_),λc o e=>m.af (b.fix c o e) (λa=>?_),b.dT.trans (m.ai λc _ e=>by have:=hB _ e;omega)⟩
 ·rcases a with a|a
  ·exact yi s t a
  ·subst a;exact lT v (Ma (by decide)) t
 ·rcases a with a|a
  ·have:=k _ a;omega
  ·omega
 ·rcases a with a|a
  ·have:=k _ a;omega
  ·omega
 ·rcases a with a|a
  ·rcases s.row with⟨rfl,_⟩|⟨g,z,A,u,_⟩
   ·simp[Sl.af] at a
   ·simp[Sl.af,A] at a;subst a;rw[b.fix _ o e] at u;exact ok.str _ o e z (0,0) (Bs u)
  ·have:=ok.lt c o e;omega
theorem BS.zY {h i e:aa}{d:Nat}{f:Nat->Obj->Prop}{out:List UInt8}{j:List A2P}{o oJ:List UInt8}{k:Nat}(ok:jD d f)(b:BS h d f out j o k i)(m:Mod (λc=>c=d+2) i e)(p:e[d+2]? =some (J2 #[J7 (AX oJ)] Ar (0,0))):BS h d f out j oJ k e:=by
 obtain⟨q,r,s,l⟩:=b.keys;exact⟨b.gj.mod m (λg=>by omega) (λc a t g=>by subst g;exact lT b.ix (Ma (by decide)) t),⟨q,m.af r (by omega),s.mod m (λc a g=>by have:=l c a;omega),l⟩,p,m.af b.ct (by omega),
  λc n a=>m.af (b.fix c n a) (by have:=ok.lt c n a;omega),b.dT.trans (m.ai λc _ a=>by omega)⟩
theorem BS.oI {h i e:aa}{d:Nat}{f:Nat->Obj->Prop}{out:List UInt8}{j:List A2P}{k:List UInt8}{o n':Nat}(ok:jD d f)(b:BS h d f out j k o i)(m:Mod (λc=>c=d+3) i e)(p:e[d+3]? =some (J2 #[J6 J9 (n':Int)] BN (0,0))):BS h d f out j k n' e:=by
 obtain⟨q,r,s,l⟩:=b.keys;exact⟨b.gj.mod m (λg=>by omega) (λc a t g=>by subst g;exact lT b.ct (Ma (by decide)) t),⟨q,m.af r (by omega),s.mod m (λc a g=>by have:=l c a;omega),l⟩,m.af b.ix (by omega),p,
  λc n a=>m.af (b.fix c n a) (by have:=ok.lt c n a;omega),b.dT.trans (m.ai λc _ a=>by omega)⟩
theorem BS.lp {k h:aa}{i d:Nat}{j:Nat->Obj->Prop}{out:List UInt8}{l:List A2P}{n:List UInt8}{o:Nat}(b:BS k i j out l n o h)(hd:i+3<d)(s: ∀e,¬j d e){t:Go.Loop}(p:h[d]? =some (.loop t))(e:Go.Loop):BS k i j out l n o (h.setIfInBounds d (.loop e)):=by
 obtain⟨u,v,q,w⟩:=b.keys;have m:Mod (λc=>c=d) h (h.setIfInBounds d (.loop e)):=Mod.setObj rfl;refine⟨b.gj.mod m (λf=>by omega) (λc a x f=>by subst f;exact lT p (λ_ _ y=>by cases y) x),⟨u,m.af v (by omega),q.mod m (λc a f=>?_),w⟩,m.af b.ix (by omega),m.af b.ct (by omega),
  λc e a=>m.af (b.fix c e a) (λf=>by subst f;exact s _ a),b.dT.trans (m.ai λc _ a=>by omega)⟩
 subst f;rcases q.row with⟨rfl,_⟩|⟨g,A,z,r,_⟩
 ·simp[Sl.af] at a
 ·simp[Sl.af,z] at a;subst a;rw[p] at r;cases r
end Go.Lf.G
