/-
 Plain law: a box of files (chapter 3).
-/
import Derived.Test.YtgpmoonnachoaaaGreatDoorLfKToGA
import Derived.Test.YtgpmoonnachoaaaGreatDoorLfG1
import Derived.Shelf.Strings.Repeat
import Derived.Shelf.Small.Wraps
import Derived.Shelf.Pu.ParseUintPublic10
import Derived.Shelf.Strconv.Itoa3
import Derived.Shelf.Strconv.AtoiAll
import Derived.Shelf.Strings.BuilderK
import Derived.Test.YtgpmoonnachoaaaGreatDoorLfAToN1
import Derived.Test.YtgpmoonnachoaaaGreatDoorProg
import Derived.Lib.ItoaNum
import Derived.Lib.Repeat
import Derived.Lib.ParseIntB
import Derived.Test.YtgpmoonnachoaaaGreatDoorRows
import Derived.Lib.ItoaLen
import Derived.Lib.AppendIntMem
import Derived.WalkKit
import Derived.ProofKit
import Derived.OpenShut
import Derived.JoinedCond
import Derived.Deep.Slices
import Derived.Carry
import Derived.Shelf.SlGeneric
import Derived.Shelf.SlIter.Nil
import Derived.Shelf.SlIter.Sorted
import Derived.Shelf.SortM.Plain
import Derived.Shelf.SortM.SortNone
set_option maxRecDepth 100000
set_option linter.unusedVariables false
set_option linter.unusedSimpArgs false
open Go.IntKind renaming i64→J9,wrap→J8
open Go.Value renaming string→J7,int→J6,pointer→J5,slice→J4,bool→J3,tuple→J1
open Go.Obj renaming cells→J2
open Go renaming Value→J0,Addr→Q6,TypeId→Q7,FuncId→Q8,Program→Q1
open Go.Addr renaming add→Q9,mk→Q5
namespace Go.Lf
open Go
abbrev bG:A2P:=⟨#[]⟩
theorem nZ:ByteArray.size ⟨#[]⟩=0:=rfl
structure Fi where
 name:A2P
 cj:A2P
 soft:A2P
deriving DecidableEq
def Gn(l:List Fi):Prop:=l.Pairwise λa b=>aO a.name b.name=true
def Cn(a:A2P)(l:List Fi):Option Fi:=l.find? λf=>decide (f.name=a)
def P9(a:A2P)(g:Fi->Fi)(l:List Fi):List Fi:=l.map λf=>if f.name=a then g f else f
def P8(a:A2P)(l:List Fi):List Fi:=l.filter λf=> !decide (f.name=a)
def gX(x:Fi):List Fi->List Fi
 | []=> [x]
 |q::l=>if aO q.name x.name then q::gX x l else x::q::l
def bj(l:List Fi):Nat:=(l.map λf=>f.cj.size+f.soft.size+1).sum
theorem GZ(a:A2P)(x:Fi)(l:List Fi):Cn a (x::l)=if x.name=a then some x else Cn a l:=by unfold Cn;rw[DE];by_cases b:x.name=a<;>simp[b]
theorem KH {b:A2P}{l:List Fi}{x:Fi}(a:Cn b l=some x):x.name=b/\x∈l:=by unfold Cn at a;exact⟨by simpa using Rg a,Lz a⟩
theorem Rx {b:A2P}{l:List Fi}(a:Cn b l=none): ∀x∈l,x.name≠b:=by unfold Cn at a;rw[Hb] at a;simpa using a
theorem AIb {a:A2P}{l:List Fi}(b: ∀x∈l,x.name≠a):Cn a l=none:=by unfold Cn;rw[Hb];simpa using b
theorem Gn.find {l:List Fi}(s:Gn l){x:Fi}(a:x∈l):Cn x.name l=some x:=by
 induction l with
 |nil=>cases a
 |cons d l c=>
  rw[GZ];have b:=List.pairwise_cons.1 s;rcases List.mem_cons.1 a with rfl|a
  ·simp
  ·rw[if_neg (Lj (b.1 x a))];exact c b.2 a
theorem OM(x:Fi): ∀l,(gX x l).Perm (x::l)
 | []=>FF _
 |q::l=>by
  unfold gX;split
  ·exact((OM x l).cons q).trans (List.Perm.swap x q l)
  ·exact FF _
theorem UV {x:Fi}: ∀ {l:List Fi},Gn l->(∀ b∈l,b.name≠x.name)->Gn (gX x l)
 | [],_,_=>P0 _ _
 |q::l,s,e=>by
  have c:=List.pairwise_cons.1 s;unfold gX;split
  ·rename_i d;refine List.pairwise_cons.2 ⟨λb a=>?_,UV c.2 λb a=>e b (AF _ a)⟩;rcases List.mem_cons.1 ((OM x l).subset a) with rfl|a
   ·exact d
   ·exact c.1 b a
  ·rename_i d;have f:aO x.name q.name=true:=by
    cases g:aO x.name q.name
    ·exact absurd (Ny (by simpa using d) g) (e q Cl)
    ·rfl
   refine List.pairwise_cons.2 ⟨λb a=>?_,s⟩;rcases List.mem_cons.1 a with rfl|a
   ·exact f
   ·exact Da f (c.1 b a)
theorem AJ6 {a:A2P}{g:Fi->Fi}(b: ∀f,(g f).name=f.name)(l:List Fi):(P9 a g l).map (·.name)=l.map (·.name):=by
 unfold P9;rw[AT];refine CD λf _=>?_
 simp only[Function.comp];split<;>simp[b]
theorem UA {l:List Fi}:Gn l↔nW (l.map (·.name)):=by unfold Gn nW;rw[No]
theorem wG {k:A2P}{g:Fi->Fi}(a: ∀f,(g f).name=f.name){l:List Fi}(s:Gn l):Gn (P9 k g l):=by rw[UA,AJ6 a];exact UA.1 s
theorem AI6 {a:A2P}{l:List Fi}(s:Gn l):Gn (P8 a l):=s.sublist Gk
theorem Zw {a c:A2P}{g:Fi->Fi}(b: ∀f,(g f).name=f.name): ∀l:List Fi,Cn c (P9 a g l)=(Cn c l).map λf=>if f.name=a then g f else f
 | []=>rfl
 |x::l=>by
  show Cn c ((if x.name=a then g x else x)::P9 a g l)=_;rw[GZ,GZ,Zw b l];have:(if x.name=a then g x else x).name=x.name:=by split<;>simp[b]
  rw[this];by_cases d:x.name=c<;>simp[d]
theorem Zm {k c:A2P}: ∀l:List Fi,Cn c (P8 k l)=if c=k then none else Cn c l
 | []=>by simp[P8,Cn]
 |x::l=>by
  have b:=Zm (k:=k) (c:=c) l;unfold P8 at b ⊢;rw[AS,GZ];by_cases d:x.name=k
  ·simp only[d,decide_true,Lq,Cp,if_false];rw[b];by_cases a:c=k
   ·simp[a]
   ·simp[a,Ne.symm a]
  ·simp only[d,decide_false,Lo,if_true];rw[GZ,b];by_cases a:c=k
   ·subst a;simp[d]
   ·simp[a]
theorem wH {x:Fi}{c:A2P}: ∀ {l:List Fi},(∀ a∈l,a.name≠x.name)->Cn c (gX x l)=if x.name=c then some x else Cn c l
 | [],_=>by show Cn c [x]=_;rw[GZ]
 |q::l,d=>by
  unfold gX;split
  ·rw[GZ,wH λa e=>d a (AF _ e),GZ];by_cases b:q.name=c
   ·simp[b];intro f;exact absurd (b.trans f.symm) (d q Cl)
   ·simp[b]
  ·rw[GZ]
theorem Ml(x:Fi)(l:List Fi):bj (x::l)=x.cj.size+x.soft.size+1+bj l:=by simp[bj]
theorem AOA {l m:List Fi}(a:l.Perm m):bj l=bj m:=(a.map _).sum_nat
theorem wI(x:Fi)(l:List Fi):bj (gX x l)=x.cj.size+x.soft.size+1+bj l:=by rw[AOA (OM x l),Ml]
theorem VK: ∀l:List Fi,l.length<=bj l
 | []=>by simp[bj]
 |x::l=>by rw[Ml,A5];have:=VK l;omega
theorem o0 {x:Fi}: ∀ {l:List Fi},x∈l->x.cj.size+x.soft.size<=bj l
 | [],a=>by cases a
 |y::l,a=>by
  rw[Ml];rcases List.mem_cons.1 a with rfl|a
  ·omega
  ·have:=o0 a;omega
theorem qX {k:A2P}: ∀l:List Fi,bj (P8 k l)<=bj l
 | []=>by simp[P8,bj]
 |x::l=>by
  have:=qX (k:=k) l;unfold P8 at this ⊢;rw[AS];split
  ·rw[Ml,Ml];omega
  ·rw[Ml];omega
theorem ZB {k:A2P}{g:Fi->Fi}{d:Nat}(a: ∀f,(g f).cj.size+(g f).soft.size<=f.cj.size+f.soft.size+d): ∀ {l:List Fi},Gn l->bj (P9 k g l)<=bj l+d
 | [],_=>by simp[P9,bj]
 |x::l,s=>by
  have b:=List.pairwise_cons.1 s;show bj ((if x.name=k then g x else x)::P9 k g l)<=_;rw[Ml,Ml];split
  ·rename_i c;have:P9 k g l=l:=by unfold P9;rw[CD (g:=id) λe h=>?_,Ks];have:=Lj (b.1 e h);rw[if_neg (λi=>this (c.trans i.symm))];rfl
   rw[this];have:=a x;omega
  ·have:=ZB a (k:=k) b.2;omega
structure Bx where
 files:List Fi
 fuel:Int
 down:Bool
def kV:Bx:=⟨[],-1,false⟩
def LU(a:A2P):Bool:=decide (a=bG)||decide (a.size>32)
def IL(m:Bx):Bx:=if m.fuel>0 then {m with fuel:=m.fuel-1} else m
def NQ(m:Bx):Bx:= {m with down:=true}
def UH(name:A2P)(l:List Fi):List Fi:=if(Cn name l).isSome then l else gX ⟨name,bG,bG⟩ l
def Rp(a:A2P)(f:Fi):Fi:= {f with soft:=f.soft++a}
def SH(f:Fi):Fi:=⟨f.name,f.cj++f.soft,bG⟩
def EM(m:Bx)(name a:A2P):Int×Bx:=
 if m.down then(30,m) else if LU name then(1,m) else if m.fuel=0 then(30,NQ m) else(0,{IL m with files:=P9 name (Rp a) (UH name m.files)})
def Hg(m:Bx)(name:A2P):Int×Bx:=
 if m.down then(30,m) else if(Cn name m.files).isNone then(31,m) else if m.fuel=0 then(30,NQ m) else(0,{IL m with files:=P9 name SH m.files})
def Gr(m:Bx)(name:A2P):Int×Bx:=
 if m.down then(30,m) else if(Cn name m.files).isNone then(31,m) else if m.fuel=0 then(30,NQ m) else(0,{IL m with files:=P8 name m.files})
def UM(m:Bx)(name:A2P):A2P×Int:=
 if m.down then(bG,30) else match Cn name m.files with|none=>(bG,31)|some f=>(f.cj++f.soft,0)
structure G9 (m:Bx):Prop where
 sorted:Gn m.files
 names: ∀f∈m.files,f.name.size<=32
 lo: -1<=m.fuel
 hi:m.fuel<=9223372036854775807
 wt:bj m.files<=8796093022208
theorem AQH(a b:A2P):(a++b).size=a.size+b.size:=Kf
theorem YW(a:A2P):a++bG=a:=by simp[My,bG]
theorem RX(a:A2P):bG++a=a:=by simp[My,bG]
theorem ANN:G9 kV:=⟨List.Pairwise.nil,by simp[kV],by simp[kV],by simp[kV],by simp[kV,bj]⟩
theorem G9.tick {m:Bx}(g:G9 m)(l:List Fi)(a:Gn l)(b: ∀f∈l,f.name.size<=32)(c:bj l<=8796093022208):G9 {IL m with files:=l}:=by
 have:=g.lo;have:=g.hi;refine⟨a,b,?_,?_,c⟩
 ·show -1<=(IL m).fuel;unfold IL;split<;>(try simp only[])<;>omega
 ·show(IL m).fuel<=_;unfold IL;split<;>(try simp only[])<;>omega
theorem G9.off {m:Bx}(g:G9 m):G9 (NQ m):=⟨g.sorted,g.names,g.lo,g.hi,g.wt⟩
theorem wJ {name:A2P}{l:List Fi}(s:Gn l):Gn (UH name l)/\bj (UH name l)<=bj l+1/\(∀ f∈UH name l,f∈l\/f.name=name):=by
 unfold UH;split
 ·exact⟨s,by omega,λf a=> .inl a⟩
 ·rename_i b;have c:=Rx (by simpa using b);refine⟨UV s c,by rw[wI];simp[nZ];omega,λf a=>?_⟩;rcases List.mem_cons.1 ((OM _ l).subset a) with rfl|a
  ·exact .inr rfl
  ·exact .inl a
theorem wK {c:A2P}{g:Fi->Fi}(d: ∀f,(g f).name=f.name){l:List Fi}{f:Fi}(b:f∈P9 c g l): ∃a∈l,a.name=f.name:=by unfold P9 at b;obtain⟨a,e,rfl⟩:=List.mem_map.1 b;exact⟨a,e,by split<;>simp[d]⟩
theorem G9.append {m:Bx}(g:G9 m){name data:A2P}(n:bj m.files+data.size+1<=8796093022208):G9 (EM m name data).2:=by
 unfold EM;split
 ·exact g
 ·split
  ·exact g
  ·rename_i e;split
   ·exact g.off
   ·obtain⟨b,o,h⟩:=wJ (name:=name) g.sorted;refine g.tick _ (wG (k:=name) (g:=Rp data) (λ_=>rfl) b) (λf i=>?_) ?_
    ·obtain⟨c,j,l⟩:=wK (g:=Rp data) (λ_=>rfl) i;rw[<- l];rcases h c j with a|a
     ·exact g.names c a
     ·rw[a];simp[LU] at e;omega
    ·have:=ZB (k:=name) (g:=Rp data) (d:=data.size) (λf=>by simp[Rp];omega) b;omega
theorem G9.sync {m:Bx}(g:G9 m){name:A2P}:G9 (Hg m name).2:=by
 unfold Hg;split
 ·exact g
 ·split
  ·exact g
  ·split
   ·exact g.off
   ·refine g.tick _ (wG (k:=name) (g:=SH) (λ_=>rfl) g.sorted) (λf a=>?_) ?_
    ·obtain⟨b,c,e⟩:=wK (g:=SH) (λ_=>rfl) a;rw[<- e];exact g.names b c
    ·have:=ZB (k:=name) (g:=SH) (d:=0) (λf=>by simp[SH,nZ]) g.sorted;have:=g.wt;omega
theorem G9.delete {m:Bx}(g:G9 m){name:A2P}:G9 (Gr m name).2:=by
 unfold Gr;split
 ·exact g
 ·split
  ·exact g
  ·split
   ·exact g.off
   ·exact g.tick _ (AI6 g.sorted) (λf a=>g.names f (List.mem_filter.1 a).1) (AE (qX _) g.wt)
theorem Za {m:Bx}(g:G9 m)(name a:A2P):bj (EM m name a).2.files<=bj m.files+a.size+1:=by
 unfold EM;split
 ·simp;omega
 ·split
  ·simp;omega
  ·split
   ·simp[NQ];omega
   ·obtain⟨b,c,_⟩:=wJ (name:=name) g.sorted;have:=ZB (k:=name) (g:=Rp a) (d:=a.size) (λf=>by simp[Rp];omega) b;simp;omega
theorem od {m:Bx}(g:G9 m)(name:A2P):bj (Hg m name).2.files<=bj m.files:=by
 unfold Hg;split
 ·simp
 ·split
  ·simp
  ·split
   ·simp[NQ]
   ·have:=ZB (k:=name) (g:=SH) (d:=0) (λf=>by simp[SH,nZ]) g.sorted;simpa using this
theorem Zb {m:Bx}(name:A2P):bj (Gr m name).2.files<=bj m.files:=by
 unfold Gr;split
 ·simp
 ·split
  ·simp
  ·split
   ·simp[NQ]
   ·exact qX _
theorem xC {d:Type}{a:cF d}{x e:d}{c:Nat}{v:J0}(f:a.enc e=(a.enc x).set c v)(g:c<a.w): ∀ {l:List d} {i:Nat},l[i]? =some x->(l.set i e).flatMap a.enc=(l.flatMap a.enc).set (i*a.w+c) v
 | [],_,b=>by simp at b
 |y::l,0,b=>by
  simp at b;subst b;rw[List.set_cons_zero,AH,AH,f,HT,AI,ZD _ _ (by rw[a.len];exact g)]
 |y::l,i+1,b=>by
  rw[List.set_cons_succ,AH,AH,xC f g (l:=l) (i:=i) (by simpa using b),HM _ _ (by rw[a.len,By];omega),a.len];rw[show(i+1)*a.w+c-a.w=i*a.w+c by rw[By];omega]
theorem Own.store {e:Type}{E:cF e}{T:Q7}{d:aa}{s:Sl}{l:List e}{i j:Nat}{x x':e}{v:J0}{K:aa->Prop}(f:Own E T d s l)(h:l[i]? =some x)(q:E.enc x'=(E.enc x).set j v)(r:j<E.w)
  (t: ∀b,Own E T b s (l.set i x')->Mod (λc=>s.ai=some c) d b->b.size=d.size->K b): ∀a,s.p=some a->af d ((a.add (i*E.w)).add j) v K:=by
 intro a n;rcases f.row with⟨rfl,rfl⟩|⟨g,u,k,w,o,y,p,z⟩
 ·simp at h
 ·rw[k] at n;cases n;rw[add_add,Bf,AI];have A:i<l.length:=(List.getElem?_eq_some_iff.1 h).1;have F:i*E.w+j<s.len*E.w:=by have:(i+1)*E.w<=s.len*E.w:=AN _ (by rw[f.len];exact A);rw[By] at this;omega
  have G:s.len*E.w<=u.size:=by rw[p];exact AN _ o
  refine af.mk w (by omega) λb B m C=>t b ⟨by rw[R2];exact f.len,.inr ⟨g,_,k,B,o,y,by simpa using p,?_⟩⟩ (m.ak λc _ D=>by simp[Sl.ai,k,D]) C
  rw[DS,List.take_set,z,xC q r h]
theorem Own.ne {d:Type}{h:cF d}{T e:Q7}{f:aa}{s:Sl}{l:List d}(i:Own h T f s l){b:Nat}{j:Array J0}{fr:Nat×Nat}(a:f[b]? =some (J2 j e fr))(k:T≠e):s.ai≠some b:=by
 intro c;rcases i.row with⟨rfl,_⟩|⟨g,p,m,n,_⟩
 ·simp[Sl.ai] at c
 ·simp[Sl.ai,m] at c;subst c;rw[n] at a;injection a with a;injection a with _ o _;exact k o
end Go.Lf
namespace Go.Lf.G
open Go
theorem Ll:P.underlying BC=some .string:=by kernel_rfl
theorem kq:P.underlying Di=some (.int .u8):=by kernel_rfl
theorem Ws:P.underlying Cs=some (.slice Di):=by kernel_rfl
theorem y9:QE P Cs Di GL.w 1=true:=by kernel_rfl
theorem Cc {y:ar}{d:aa}{n:Nat}{q:A2O}(z:n<18446744073709551616)(A: ∀e,Ext d e->q (.string (AX (Bc n))) e):AA y P Ay #[.int .u64 (n:Int)] d q:=by
 refine AIO ?_;unfold uL;have r:=AV z;refine Loop.rule (λm x f=> ∃(a:Nat) (s:Sl) (c:List UInt8),x=((a:Int),s,())/\Own GL Di f s c/\Ext d f/\(∀ b,s.ai=some b->d.size<=b)/\Bc n=c++Bc a/\m=a) ?_
  ⟨n,⟨none,0,0⟩,[],rfl,Own.nil,Mod.refl,λb g=>by simp[Sl.ai] at g,rfl,rfl⟩
 rintro K m _ f ⟨a,s,c,rfl,t,x,h,i,F⟩ B;have hd:c.length<=10:=by rw[i] at r;simp at r;omega
 refine ag.intro (λj=>?_) (λj=>?_)
 ·have k: ¬a<128:=by simp at j;omega
  refine ao.aZ (E:=GL) (x:=Bq (a % 128+128)) (s:=s) (l:=c) (by dsimp only[GL];rw[AQN]) y9 t (by simp;omega) (by simp[maxLen];omega) λu e o p v C=>?_
  refine B (a / 128) _ _ (by omega) ⟨a / 128,u,c++ [Bq (a % 128+128)],?_,o,x.more p h,λb g=>?_,?_,rfl⟩
  ·dsimp only;rw[QZ a 7]
  ·rcases v b g with w|w
   ·exact h b w
   ·have:=x.size;omega
  ·rw[i,Xp k];simp
 ·have k:a<128:=by simp at j;omega
  refine ao.aZ (E:=GL) (x:=Bq a) (s:=s) (l:=c) (by dsimp only[GL];rw[DR (show a<256 by omega),wrap_u8,As (show a<256 by omega)]) y9 t (by simp;omega) (by simp[maxLen];omega) λu e o p v C=>?_
  refine JQ Ws kq Ll o.view ⟨_,rfl,?_⟩;have D:c++ [Bq a]=Bc n:=by rw[i,FR k]
  rw[D];exact A _ (x.more p h)
theorem AOO(a:Nat):(if(10:Int)<(a:Int) then(10:Int) else(a:Int))=((min a 10:Nat):Int):=by split<;>omega
theorem ya {D:ar}{e:aa}{s:A2P}{n:A2O}(V:s.size<=8796093022208)
  (v:Mg 0 0 s.data.toList=none->n (.tuple #[.int .u64 0,.string ⟨#[]⟩,.bool false]) e)
  (E: ∀w t,Mg 0 0 s.data.toList=some (w,t)->n (.tuple #[.int .u64 (w:Int),.string (AX t),.bool true]) e):AA D P Rb #[.string s] e n:=by
 refine AHW ?_;unfold uV;have W:s.data.toList.length=s.size:=by rw[DQ];rfl
 refine Loop.rule (λm x o=> ∃(i a:Nat),x=((a:Int),(i:Int),())/\o=e/\i<=s.size/\i<=10/\a<128^i/\Mg 0 0 s.data.toList=Mg i a (s.data.toList.drop i)/\m=10-i) ?_
  ⟨0,0,rfl,rfl,by omega,by omega,by simp,rfl,rfl⟩
 rintro K m _ o ⟨i,a,rfl,y,X,Y,F,p,Z⟩ G;subst o;dsimp only;rw[AOO];refine ag.intro (λd=>?_) (λd=>?_)
 ·have z:i<s.size/\i<10:=by simp at d;omega
  have q:i<s.data.toList.length:=by omega
  refine⟨⟨by omega,by omega⟩,?_⟩;obtain⟨c,r⟩: ∃c,s.data.toList[i]? =some c:=⟨_,A2 q⟩;have A:s.data.toList.drop i=c::s.data.toList.drop (i+1):=by rw[DP q];rw[A2 q] at r;rw[BY r]
  have B:c.toNat<256:=c.toNat_lt;rw[Pd r];have H:((i=9/\1<c.toNat)\/(0<i/\c.toNat=0))->Mg 0 0 s.data.toList=none:=λg=>by
   rw[p,A,Mg,if_pos (.inr g)]
  have I: ¬((i=9/\1<c.toNat)\/(0<i/\c.toNat=0))->Mg 0 0 s.data.toList=if c.toNat<128 then some (a+c.toNat*128^i,s.data.toList.drop (i+1)) else Mg (i+1) (a+c.toNat % 128*128^i) (s.data.toList.drop (i+1)):=λg=>by
   rw[p,A,Mg,if_neg (λe=>e.elim (by omega) g)]
  refine aj.mk λJ L=>?_
  have key: ∀(b:Bool),(b=true↔((i=9/\1<c.toNat)\/(0<i/\c.toNat=0)))->J (b,()) e:=λb g=>by
   refine L _ _ ?_;refine ag.intro (λM=>v (H (g.1 M))) (λC=>?_);have N: ¬((i=9/\1<c.toNat)\/(0<i/\c.toNat=0)):=λe=>by rw[g.2 e] at C;cases C
   have j:=I N;have O:J8 J9 ((7:Int)*(i:Int))=((7*i:Nat):Int):=by rw[show(7:Int)*(i:Int)=((7*i:Nat):Int) by simp];exact Fa (by omega)
   have Q:Gd .u8 (c.toNat:Int) (127:Int)=((c.toNat % 128:Nat):Int):=by have:=y8 (a:=c.toNat) (b:=127) B (by decide);rw[ASj _ B] at this;exact this
   have R:J8 .u64 ((c.toNat % 128:Nat):Int)=((c.toNat % 128:Nat):Int):=by rw[wrap_u64,As (by omega)]
   rw[O,Q,R,AS4 (by omega) (CA _ (by decide)),AQy (by omega) F (CA _ (by decide)),Aa (by omega)];have ab:=MK (show i<=9 by omega);have S:(128:Nat)^9=9223372036854775808:=by decide
   have T:c.toNat % 128*128^i % 18446744073709551616=c.toNat % 128*128^i:=by
    refine As ?_;by_cases k:i=9
    ·subst k;have:c.toNat<=1:=by omega
     rw[S];omega
    ·have ac:=MK (show i<=8 by omega);have ad:(128:Nat)^8=72057594037927936:=by decide
     have:c.toNat % 128*128^i<=127*128^i:=AN _ (by omega);omega
   rw[T];refine⟨by omega,?_⟩;refine ag.intro (λd=>?_) (λd=>?_)
   ·have l:c.toNat<128:=by simp at d;omega
    rw[if_pos l] at j;refine⟨⟨by omega,by omega⟩,?_⟩;have:=E _ _ j;rw[As l];have y:s.extract ((i+1:Nat):Int).toNat s.size=AX (s.data.toList.drop (i+1)):=rk _ _;rw[y];exact this
   ·have l: ¬c.toNat<128:=by simp at d;omega
    rw[if_neg l] at j;refine G (10-(i+1)) _ _ (by omega) ⟨i+1,a+c.toNat % 128*128^i,rfl,rfl,by omega,by omega,?_,j,rfl⟩;have:(c.toNat % 128+1)*128^i<=128*128^i:=AN _ (by omega);rw[By] at this;rw[DH,CH (128^i)];omega
  refine ag.intro (λd=>?_) (λd=>?_)
  ·have k:i=9:=by simp at d;omega
   refine ag.intro (λu=>key _ ⟨λ_=> .inl ⟨k,by simp at u;omega⟩,λ_=>rfl⟩) (λu=>?_);refine ag.intro (λh=>key _ ⟨λf=> .inr ⟨by omega,by simp at f;omega⟩,λf=>by simp at u ⊢;omega⟩) (λh=>?_);simp at h;omega
  ·have k:i≠9:=by simp at d;omega
   refine ag.intro (λh=>key _ ⟨λf=> .inr ⟨by simp at h;omega,by simp at f;omega⟩,λf=>(by simp;omega)⟩) (λh=>key _ ⟨(λf=>(by cases f)),λf=>(by simp at h;omega)⟩)
 ·have z:s.size=i\/i=10:=by simp at d;omega
  refine v ?_;rw[p];rcases z with U|U
  ·rw[HD (by omega)];rfl
  ·cases hd:s.data.toList.drop i with
   |nil=>rfl
   |cons c t=>rw[Mg,if_pos (.inl (by omega))]
theorem aE {a:Q6}{K:Q6->Prop}(b:K a):At (some a) K:=b
theorem af.dt {a:aa}{b d:Nat}{v:J0}{e:Array J0}{T:Q7}{K:aa->Prop}(f:a[b]? =some (J2 e T (0,0)))(g:d<e.size)
  (h: ∀c,c[b]? =some (J2 (e.setIfInBounds d v) T (0,0))->Mod (· =b) a c->c.size=a.size->K c):af a ((⟨b,0,none⟩:Q6).add d) v K:=by
 rw[Bf,AI];exact af.mk f g h
theorem max_i64:IntKind.max J9=9223372036854775807:=by simp_all
theorem wrap_i64 {n:Int}(a: -9223372036854775808<=n)(b:n<=9223372036854775807):J8 J9 n=n:=by grind [J8,IntKind.bits,IntKind.signed]
theorem CF {a:Nat}(b:a<18446744073709551616):J8 .u64 (a:Int)=(a:Int):=by rw[wrap_u64,As b]
abbrev Aq(b:Nat):J0:=J5 (some ⟨b,0,none⟩)
def Ib(c:aa)(b:Nat)(a:Rd):Prop:=c[b]? =some (J2 #[J7 (AX a.rest),J3 a.bad] WB (0,0))
theorem yb:AX []=⟨#[]⟩:=rfl
theorem yc(l:List UInt8)(a:Nat):(AX l).extract 0 a=AX (l.take a):=by rw[AOI,Bh]
theorem VJ(l:List UInt8)(a:Nat):(AX l).extract a (AX l).size=AX (l.drop a):=by rw[rk,Bh]
theorem AOw(l:List UInt8)(i a:Nat):(AX l).extract i a=AX ((l.take a).drop i):=by rw[dW,Bh]
theorem Aj(a b:List UInt8):AX a++AX b=AX (a++b):=by apply SJ;simp[AX,JT]
theorem Qw {A:ar}{h:aa}{l:List UInt8}{R:A2O}(d:l.length<=1099511627776)(b: ∀a,Ext h a->R (J7 (AX (BR l))) a):AA A P CB #[J7 (AX l)] h R:=by
 refine AGs ?_;unfold uK;rw[AP,CF (by omega)];have:=AV (n:=l.length) (by omega);refine Cc (by omega) λe c=>⟨_,rfl,⟨by rw[AP,max_i64];omega,?_⟩⟩
 rw[Aj];exact b _ c
theorem Jo {d:ar}{a:aa}{l:List UInt8}{c:A2O}(e: ∀b,Ib b a.size ⟨l,false⟩->Ext a b->c (Aq a.size) b):AA d P EY #[J7 (AX l)] a c:=by refine AHF ?_;unfold uP;exact ao.mk λf _ g x _=>e f g x
theorem yd {j:ar}{d:aa}{b:Nat}{a:Rd}{h:A2O}(e:Ib d b a)(q:a.rest.length<=1099511627776)
  (i: ∀f,Ib f b (Ha a).2->Mod (· =b) d f->h (.int .u64 ((Ha a).1:Int)) f):AA j P Ir #[Aq b] d h:=by
 refine Wl ?_;unfold PX;refine aj.mk λK k=>ag.no rfl (aE (Ac.mk (AB e rfl) (k _ _ ?_)))
 refine ag.intro (λc=>?_) (λc=>?_)
 ·have:=i d;rw[AOJ c] at this;exact this e Mod.refl
 ·refine aE (AJ.mk (AO e rfl) ?_);have c:a.bad=false:=c;refine ya (by grind [AP,Nat.le_trans]) (λg=>⟨_,_,_,rfl,?_⟩) (λr t g=>⟨_,_,_,rfl,?_⟩)
  all_goals
   rw[Bh] at g;refine aE (af.mk e (by simp) λs l m u=>aE (af.dt l (by simp) λn o p v=>?_));have:=i n;simp only[Ha,c,g] at this;exact this o (m.trans p)
theorem ANu {m:Nat}(a:m<=9223372036854775807):J8 .u64 (m:Int)=(m:Int):=CF (by omega)
theorem DN {l:ar}{e:aa}{b:Nat}{c:Rd}{most:Nat}{j:A2O}(m:Ib e b c)(n:c.rest.length<=1099511627776)(o:most<=9223372036854775807)
  (f: ∀g,Ib g b (CQ most c).2->Mod (· =b) e g->j (J6 J9 ((CQ most c).1:Int)) g):AA l P Ab #[Aq b,J6 J9 (most:Int)] e j:=by
 refine XG ?_;unfold PO;refine yd m n λk d h=>⟨_,rfl,?_⟩
 refine aj.mk λK p=>ag.no rfl (aE (Ac.mk (AB d rfl) (p _ _ ?_)))
 refine ag.intro (λa=>?_) (λa=>?_)
 ·have:=f k;have a:(Ha c).2.bad=true:=a;simp only[CQ,a,if_true] at this;exact this d h
 ·have a:(Ha c).2.bad=false:=a;refine aj.mk λw q=>ag.no (by simp) (q _ _ ?_)
  rw[ANu o];refine ag.intro (λi=>?_) (λi=>?_)
  ·refine aE (af.mk d (by simp) λx r s y=>aE (af.dt r (by simp) λt u v z=>?_));have:=f t;simp only[CQ,a] at this;rw[if_neg (by simp),if_pos (by simp at i;omega)] at this;exact this u ((h.trans s).trans v)
  ·have:=f k;simp at i;simp only[CQ,a] at this;rw[if_neg (by simp),if_neg (by omega)] at this;rw[Fa (by omega)];exact this d h
theorem rn {n:ar}{f:aa}{b g:Nat}{d:Rd}{l:A2O}(c:Ib f b d)
  (h: ∀i,Ib i b (KP g d).2->Mod (· =b) f i->l (J7 (AX (KP g d).1)) i):AA n P Fq #[Aq b,J6 J9 (g:Int)] f l:=by
 refine Vb ?_;unfold Ox;refine aj.mk λK o=>ag.no rfl (aE (Ac.mk (AB c rfl) (o _ _ ?_)))
 refine ag.intro (λa=>?_) (λa=>?_)
 ·have:=h f;have a:d.bad=true:=a;simp only[KP,a,if_true] at this;exact this c Mod.refl
 ·have a:d.bad=false:=a;refine aj.mk λu p=>ag.no (by simp) (aE (AJ.mk (AO c rfl) (p _ _ ?_)))
  rw[AP];refine ag.intro (λj=>?_) (λj=>?_)
  ·refine aE (af.mk c (by simp) λm e k q=>aE (af.dt e (by simp) λr s t v=>?_));have:=h r;simp only[KP,a] at this;rw[if_neg (by simp),if_pos (by simp at j;omega)] at this;exact this s (k.trans t)
  ·simp at j;refine aE (AJ.mk (AO c rfl) ⟨⟨by omega,by rw[AP];omega⟩,aE (AJ.mk (AO c rfl) ⟨⟨by omega,by rw[AP];omega⟩,aE (af.mk c (by simp) λm e k q=>?_)⟩)⟩);have:=h m;simp only[KP,a] at this;rw[if_neg (by simp),if_neg (by omega)] at this;simp only[A6,yc,VJ] at e ⊢;rw[a] at e;exact this e k
theorem G7 {k:ar}{d:aa}{b:Nat}{a:Rd}{g:A2O}(l:Ib d b a)(v:a.rest.length<1099511627776)
  (h: ∀e,Ib e b (GV a).2->Mod (· =b) d e->g (J7 (AX (GV a).1)) e):AA k P Be #[Aq b] d g:=by
 refine VZ ?_;unfold Oy;refine yd l (by omega) λm f i=>⟨_,rfl,?_⟩
 have w:=Tj a;refine aj.mk λK n=>ag.no rfl (aE (Ac.mk (AB f rfl) (n _ _ ?_)))
 refine ag.intro (λc=>?_) (λc=>?_)
 ·have:=h m;have c:(Ha a).2.bad=true:=c;simp only[GV,c,if_true] at this;exact this f i
 ·have c:(Ha a).2.bad=false:=c;have o:J8 J9 (if(1099511627776:Int)<((Ha a).1:Int) then 1099511627776 else((Ha a).1:Int))=((min (Ha a).1 1099511627776:Nat):Int):=by grind [wrap_i64]
  rw[o];refine rn f λp j q=>⟨_,rfl,?_⟩
  have:=h p;simp only[GV,c] at this;rw[if_neg (by simp)] at this;have r:KP (min (Ha a).1 1099511627776) (Ha a).2=KP (Ha a).1 (Ha a).2:=by
   by_cases s:(Ha a).1<=1099511627776
   ·rw[Fk s]
   ·have t:(Ha a).2.rest.length<min (Ha a).1 1099511627776:=by omega
    have u:(Ha a).2.rest.length<(Ha a).1:=by omega
    simp only[KP,c,Cp,if_false,if_pos t,if_pos u]
  rw[r] at j ⊢;exact this j (i.trans q)
theorem MS {g:ar}{c:aa}{b:Nat}{r:Rd}{e:A2O}(f:Ib c b r)(a:e (J3 (Yb r)) c):AA g P CJ #[Aq b] c e:=by
 refine Wo ?_;unfold Pj;refine ag.yes rfl (aE (Ac.mk (AB f rfl) ?_));unfold Yb at a;refine ag.intro (λd=>?_) (λd=>?_)
 ·refine aE (AJ.mk (AO f rfl) ?_);rw[d] at a;have h:bR (AX r.rest) (⟨#[]⟩:A2P)=r.rest.isEmpty:=by grind [Ca,yb,Mj]
  rw[h];simpa using a
 ·rw[d] at a;exact a
theorem APg {c:Nat}(e:c<4294967296):ZR .u32 ((c:Int).fdiv ((2:Int)^(1:Nat))) (Gd .u32 (3988292384:Int) (J8 .u32 (0-(Gd .u32 (c:Int) (1:Int)))))=((mB c:Nat):Int):=by
 have f:Gd .u32 (c:Int) (1:Int)=((c % 2:Nat):Int):=by rw[<- Nat.and_one_is_mod];exact ARJ e (by decide)
 rw[QZ c 1,f];unfold mB;have hd:c / 2^1<4294967296:=by omega
 by_cases a:c % 2=1
 ·rw[if_pos a,a];have b:J8 .u32 (0-((1:Nat):Int))=((4294967295:Nat):Int):=by decide
  have d:Gd .u32 (3988292384:Int) ((4294967295:Nat):Int)=((3988292384:Nat):Int):=by decide
  rw[b,d,VC hd (by decide)]
 ·rw[if_neg a,show c % 2=0 by omega];have b:J8 .u32 (0-((0:Nat):Int))=((0:Nat):Int):=by decide
  have d:Gd .u32 (3988292384:Int) ((0:Nat):Int)=((0:Nat):Int):=by decide
  rw[b,d,VC hd (by decide)];simp
theorem ARe {c:Nat}(d:c<4294967296):ZR .u32 (if IntKind.signed .u32 then -1 else IntKind.max .u32) (c:Int)=((4294967295-c:Nat):Int):=by
 have e:(if IntKind.signed .u32 then -1 else IntKind.max .u32)=((4294967295:Nat):Int):=by decide
 rw[e,VC (by decide) d];congr 1;have f:4294967295-c=2^32-(c+1):=by omega
 have g:(4294967295:Nat)=2^32-1:=by decide
 have a:c<2^32:=by omega
 rw[f,g];apply Nat.eq_of_testBit_eq;intro i;rw[Nat.testBit_xor,Nat.testBit_two_pow_sub_one,Nat.testBit_two_pow_sub_succ a];by_cases b:i<32
 ·simp[b]
 ·have:c.testBit i=false:=Nat.testBit_lt_two_pow (F2 a (RE (by decide) (by omega)));simp[b,this]
theorem ye {q:ar}{d:aa}{l:List UInt8}{k:A2O}(v:l.length<=1099511627776)(r:k (.int .u32 (je l:Int)) d):AA q P Pe #[J7 (AX l)] d k:=by
 refine AGt ?_;unfold uT;rw[AP];refine Loop.rule (λm x b=> ∃i:Nat,x=((iO (l.take i):Int),(i:Int),())/\b=d/\m=l.length-i/\i<=l.length) ?_ ⟨0,rfl,rfl,rfl,by omega⟩;rintro K m _ b ⟨i,rfl,e,rfl,w⟩ s;subst b;refine ag.intro (λf=>?_) (λf=>?_)
 ·have g:i<l.length:=by simpa using f
  obtain⟨c,o⟩: ∃c,l[i]? =some c:=⟨_,A2 g⟩;have y:c.toNat<256:=c.toNat_lt;refine⟨⟨by dsimp only;omega,by dsimp only;omega⟩,?_⟩;have p:=xW (l.take i);dsimp only;rw[Pd (c:=c) (by rw[Bh];exact o),wrap_u32,As (show c.toNat<4294967296 by omega),VC p (by omega)];have t:iO (l.take i) ^^^ c.toNat<4294967296:=KK (n:=32) p (by omega);refine Loop.rule (λm x b=> ∃a:Nat,x=((oD a (iO (l.take i) ^^^ c.toNat):Int),(a:Int),())/\b=d/\m=8-a/\a<=8) ?_ ⟨0,rfl,rfl,rfl,by omega⟩;rintro z A _ b ⟨a,rfl,e,rfl,B⟩ u;subst b;refine ag.intro (λh=>?_) (λh=>?_)
  ·have j:a<8:=by simp at h;omega
   dsimp only;rw[APg (rj t a),Aa (by omega)];exact u (8-(a+1)) _ _ (by omega) ⟨a+1,rfl,rfl,rfl,j⟩
  ·have j:a=8:=by simp at h;omega
   subst j;dsimp only;rw[Aa (by omega)];refine s (l.length-(i+1)) _ _ (by omega) ⟨i+1,?_,rfl,rfl,g⟩;rw[AD,o,DB,ANl];rfl
 ·have g:i=l.length:=by simp at f;omega
  have e:l.take i=l:=AG (by omega);dsimp only;rw[e,ARe (xW l)];exact r
theorem rp(a b:Nat):J8 .u8 ((a:Int).fdiv ((2:Int)^b))=(((Bq (a / 2^b % 256)).toNat:Nat):Int):=by rw[QZ,wrap_u8,DR (CA _ (by decide))]
theorem yf {f:ar}{b:aa}{a:Nat}{c:A2O}(g: ∀d,Ext b d->c (J7 (AX (Qu a))) d):AA f P Nw #[.int .u32 (a:Int)] b c:=by
 refine AEe ?_;unfold ZA;refine ao.mk λh _ e x _=>?_
 have i:J8 .u8 (a:Int)=(((Bq (a % 256)).toNat:Nat):Int):=by rw[wrap_u8,DR (CA _ (by decide))]
 rw[rp,rp,rp,i] at e;have j:Own GL Di h ⟨some ⟨b.size,0,none⟩,4,4⟩ (Qu a):=Own.lit (E:=GL) (l:=Qu a) e rfl (by simp[maxLen,Qu]);exact JQ (s:=⟨some ⟨b.size,0,none⟩,4,4⟩) Ws kq Ll j.view ⟨_,rfl,g _ x⟩
theorem rq {e:ar}{a:aa}{l:List UInt8}{b:A2O}(f:l.length<=1099511627776)(g:1048576<l.length->b (J1 #[J7 ⟨#[]⟩,J6 J9 2]) a)
  (h:l.length<=1048576-> ∀d,Ext a d->b (J1 #[J7 (AX (Ct l)),J6 J9 0]) d):AA e P Hq #[J7 (AX l)] a b:=by
 refine AEY ?_;unfold Yc;rw[AP];refine ag.intro (λc=>g (by simp at c;omega)) (λc=>?_);have i:l.length<=1048576:=by simp at c;omega
 have:=AV (n:=l.length) (by omega);rw[CF (by omega)];refine Cc (by omega) λm j=>⟨_,rfl,?_⟩
 refine ye f ⟨_,rfl,?_⟩;refine yf λo k=>⟨_,rfl,⟨?_,?_,?_⟩⟩
 ·grind [AP,max_i64,KV]
 ·rw[Aj,AP,max_i64,A1,KV];omega
 ·rw[Aj,Aj];exact h i _ (j.trans k)
theorem yg {B:ar}{f:aa}{l:List UInt8}{w:A2O}(C:l.length<=8796093022208)
  (g: ∀y,Ext f y->w (J1 #[J7 (AX (Gu l).2.1),J7 (AX (Gu l).2.2),J6 J9 ((Gu l).1:Int)]) y):AA B P Rt #[J7 (AX l)] f w:=by
 refine AEU ?_;unfold YU;rw[AP];have d:=g f Mod.refl;refine ya (by rw[AP];exact C) (λh=>⟨_,_,_,rfl,?_⟩) (λb t h=>⟨_,_,_,rfl,?_⟩)<;>rw[Bh] at h
 ·have k:Gu l=if l.length<10/\ ∀c∈l,128<=c.toNat then(20,[],[]) else(21,[],[]):=by unfold Gu;rw[h]
  rw[k] at d;refine aj.mk λK n=>ag.yes rfl (n _ _ ?_)
  refine ag.intro (λa=>?_) (λa=>?_)
  ·have o:l.length<10:=by simp at a;omega
   refine Loop.rule (λm x e=> ∃i:Nat,x=((i:Int),())/\e=f/\m=l.length-i/\i<=l.length/\ ∀c∈l.take i,128<=c.toNat) ?_ ⟨0,rfl,rfl,rfl,by omega,by simp⟩;rintro Q m _ e ⟨i,rfl,R,rfl,S,z⟩ D;subst e;refine ag.intro (λp=>?_) (λp=>?_)
   ·have q:i<l.length:=by simpa using p
    obtain⟨c,E⟩: ∃c,l[i]? =some c:=⟨_,A2 q⟩;refine⟨⟨by dsimp only;omega,by dsimp only;omega⟩,?_⟩;dsimp only;rw[Pd (c:=c) (by rw[Bh];exact E)];refine ag.intro (λF=>?_) (λF=>?_)
    ·rw[if_neg] at d
     ·exact d
     grind
    ·rw[Aa (by omega)];refine D (l.length-(i+1)) _ _ (by omega) ⟨i+1,rfl,rfl,rfl,q,λx T=>?_⟩
     grind [List.take_add_one,Option.toList_some]
   ·have q:i=l.length:=by simp at p;omega
    rw[AG (by omega)] at z;rw[if_pos ⟨o,z⟩] at d;exact d
  ·have o: ¬l.length<10:=by simp at a;omega
   rw[if_neg (λe=>o e.1)] at d;refine aj.mk λG r=>ag.yes rfl (r _ _ (ag.yes rfl d))
 ·obtain⟨U,V⟩:=mz h;have W:t.length<=8796093022208:=by grind
  have k:Gu l=if 1048576<b then(21,[],[]) else if t.length<4+b then(20,[],[])
    else if t.take 4=Qu (je ((t.drop 4).take b)) then(0,(t.drop 4).take b,t.drop (4+b)) else(21,[],[]):=by unfold Gu;rw[h]
  rw[k] at d g;refine aj.mk λK n=>ag.no rfl (n _ _ (ag.no rfl ?_))
  refine aj.mk λG r=>ag.no rfl (r _ _ ?_)
  refine ag.intro (λa=>?_) (λa=>?_)
  ·have s:1048576<b:=by simp at a;omega
   rw[if_pos s] at d;exact d
  have s: ¬1048576<b:=by simp at a;omega
  rw[if_neg s] at d g;rw[AP];refine aj.mk λH I=>?_
  have key: ∀u:Bool,(u=true↔t.length<4+b)->H (u,()) f:=λu J=>by
   refine I _ _ ?_;refine ag.intro (λa=>?_) (λa=>?_)
   ·rw[if_pos (J.1 a)] at d;exact d
   have v: ¬t.length<4+b:=λe=>by grind
   rw[if_neg v] at d g;have L:J8 .u64 ((4:Int)+(b:Int))=((4+b:Nat):Int):=by grind [CF]
   rw[L];refine⟨⟨by omega,by omega⟩,⟨by omega,by omega⟩,⟨by omega,by omega⟩,?_⟩;have M:(AX t).extract (4:Int).toNat ((4+b:Nat):Int).toNat=AX ((t.drop 4).take b):=by rw[show(4:Int).toNat=4 from rfl,A6,AOw,List.drop_take];congr 2;omega
   have em:(AX t).extract 0 (4:Int).toNat=AX (t.take 4):=yc _ _;have A:(AX t).extract ((4+b:Nat):Int).toNat (AX t).size=AX (t.drop (4+b)):=by rw[A6,VJ]
   rw[AP] at A;rw[M,em,A];refine ye (by simp;omega) ⟨_,rfl,?_⟩;refine yf λv N=>⟨_,rfl,?_⟩
   have j:=g v N;rw[Ca];refine ag.intro (λa=>?_) (λa=>?_)
   ·rw[if_neg (by grind)] at j;exact j
   ·rw[if_pos (by grind [Mj])] at j;exact⟨⟨by omega,by omega⟩,j⟩
  refine ag.intro (λa=>key _ ⟨λ_=>by simp at a;omega,λ_=>rfl⟩) (λa=>key _ ?_);have X:4<=t.length:=by simp at a;omega
  have O:J8 .u64 (J8 J9 ((t.length:Int)-(4:Int)))=((t.length-4:Nat):Int):=by grind [Fa,CF]
  rw[O];simp;omega
theorem FV.mk {b:aa}{a:Q6}{K:Option Nat->Prop}{n:Option Nat}(c:ah b a=some (.map n))(d:K n):FV b a K:=⟨n,c,d⟩
theorem jL:P.underlying CL=some (.map BC vM):=by kernel_rfl
theorem lD:(zeroValue vM).calc P=some (J5 none):=by kernel_rfl
abbrev fi(a:List (Fi×Nat)):List (A2P×J0):=a.map λp=>(p.1.name,Aq p.2)
structure FI (h:aa) (b r:Nat) (kv:List (Fi×Nat)) (m:Bx):Prop where
 head:h[b]? =some (J2 #[.map (some r),J6 J9 m.fuel,J3 m.down] ZZ (0,0))
 map:PK h r (fi kv)
 cells: ∀p∈kv,h[p.2]? =some (J2 #[J7 p.1.cj,J7 p.1.soft] XM (0,0))
 perm:(kv.map (·.1)).Perm m.files
 nodup:(kv.map (·.2)).Nodup
 aT:G9 m
def KT(b a:Nat)(d:List (Fi×Nat))(c:Nat):Prop:=c=b\/c=a\/ ∃p∈d,p.2=c
def Cu(e:aa)(b:Nat)(f:Nat->Prop)(m:Bx):Prop:= ∃a d,FI e b a d m/\ ∀c,f c↔KT b a d c
theorem FI.gz {e:aa}{b a:Nat}{f:List (Fi×Nat)}{m:Bx}(c:FI e b a f m):a≠b:=by rintro rfl;obtain⟨g,h,d,_⟩:=c.map;rw[c.head] at d;cases d
theorem FI.eT {g:aa}{b c:Nat}{d:List (Fi×Nat)}{m:Bx}(a:FI g b c d m){p:Fi×Nat}(h:p∈d):p.2≠b/\p.2≠c:=by
 have e:=a.cells p h;constructor
 ·intro f;rw[f,a.head] at e;cases e
 ·intro f;obtain⟨i,j,k,_⟩:=a.map
  simp_all
theorem FI.lt {d:aa}{b e:Nat}{f:List (Fi×Nat)}{m:Bx}(a:FI d b e f m){c:Nat}(g:KT b e f c):c<d.size:=by
 rcases g with rfl|rfl|⟨p,h,rfl⟩
 ·exact Ah a.head
 ·exact a.map.lt
 ·exact Ah (a.cells p h)
theorem Cu.lt {d:aa}{b:Nat}{e:Nat->Prop}{m:Bx}(a:Cu d b e m){c:Nat}(f:e c):c<d.size:=by obtain⟨h,i,a,g⟩:=a;exact a.lt ((g c).1 f)
theorem Cu.aT {c:aa}{b:Nat}{d:Nat->Prop}{m:Bx}(a:Cu c b d m):G9 m:=by obtain⟨e,f,a,g⟩:=a;exact a.aT
theorem FI.mod {g h:aa}{b d:Nat}{e:List (Fi×Nat)}{m:Bx}{T:Nat->Prop}(a:FI g b d e m)(x:Mod T g h)(f: ∀c,KT b d e c-> ¬T c):FI h b d e m:=
 ⟨x.ai a.head (f _ (.inl rfl)),a.map.mod x (f _ (.inr (.inl rfl))),λp i=>x.ai (a.cells p i) (f _ (.inr (.inr ⟨p,i,rfl⟩))),a.perm,a.nodup,a.aT⟩
theorem Cu.mod {e f:aa}{b:Nat}{a T:Nat->Prop}{m:Bx}(d:Cu e b a m)(x:Mod T e f)(h: ∀c,a c-> ¬T c):Cu f b a m:=by obtain⟨i,j,d,g⟩:=d;exact⟨i,j,d.mod x λc k=>h c ((g c).2 k),g⟩
theorem Cu.ext {a c:aa}{b:Nat}{d:Nat->Prop}{m:Bx}(e:Cu a b d m)(x:Ext a c):Cu c b d m:=e.mod x λ_ _ a=>a
theorem FI.hd {f d:aa}{b e:Nat}{h:List (Fi×Nat)}{m c:Bx}(a:FI f b e h m)(j:d[b]? =some (J2 #[.map (some e),J6 J9 c.fuel,J3 c.down] ZZ (0,0)))(x:Mod (· =b) f d)(k:c.files=m.files)(g:G9 c):FI d b e h c:=
 ⟨j,a.map.mod x a.gz,λp i=>x.ai (a.cells p i) (a.eT i).1,by rw[k];exact a.perm,a.nodup,g⟩
theorem sB(b:A2P): ∀a:List (Fi×Nat),Mx b (fi a)=(a.find? λp=>decide (p.1.name=b)).map λp=>Aq p.2
 | []=>rfl
 |p::a=>by
  show Mx b ((p.1.name,Aq p.2)::fi a)=_;rw[GY,sB b a,DE]
  grind
theorem FI.mem {d:aa}{b e:Nat}{a:List (Fi×Nat)}{m:Bx}(g:FI d b e a m){f:Fi}:f∈m.files↔ ∃c,(f,c)∈a:=by
 rw[<- g.perm.mem_iff]
 simp_all
theorem FI.look {i:aa}{b j:Nat}{d:List (Fi×Nat)}{m:Bx}(e:FI i b j d m)(a:A2P):
  (Mx a (fi d)=none/\Cn a m.files=none)\/ ∃p∈d,Mx a (fi d)=some (Aq p.2)/\Cn a m.files=some p.1/\p.1.name=a:=by
 rw[sB];cases k:d.find? λp=>decide (p.1.name=a) with
 |none=>
  refine .inl ⟨rfl,AIb λf l=>?_⟩;obtain⟨c,n⟩:=e.mem.1 l
  grind
 |some p=>
  have g:p.1.name=a:=by grind
  have h:=Lz k;refine .inr ⟨p,h,rfl,?_,g⟩;rw[<- g];exact e.aT.sorted.find (e.mem.2 ⟨p.2,h⟩)
theorem AID {a:List (Fi×Nat)}{l:List Fi}(p:(a.map (·.1)).Perm l)(s:Gn l):(a.map λb=>b.1.name).Nodup:=by
 have c:(l.map (·.name)).Nodup:=by refine List.pairwise_map.2 (s.imp λd=>Lj d)
 have e:(a.map λb=>b.1.name).Perm (l.map (·.name)):=by have:=p.map (·.name);simpa [AT,FA] using this
 exact(e.nodup_iff).2 c
theorem FI.inj {f:aa}{b g:Nat}{c:List (Fi×Nat)}{m:Bx}(d:FI f b g c m){p a:Fi×Nat}(h:p∈c)(j:a∈c)(k:p.1.name=a.1.name):p=a:=by
 have l:=AID d.perm d.aT.sorted;obtain⟨i,n,rfl⟩:=Ds h;obtain⟨e,o,rfl⟩:=Ds j;have:i=e:=by
  have q:i<(c.map λa=>a.1.name).length:=by simpa using n
  have r:e<(c.map λa=>a.1.name).length:=by simpa using o
  refine(LI (h₀:=q) (h₁:=r) l).1 ?_;simpa using k
 subst this;rfl
theorem FI.set {k h':aa}{b l:Nat}{d:List (Fi×Nat)}{m:Bx}(c:FI k b l d m){p:Fi×Nat}(h:p∈d){g:Fi->Fi}(B: ∀f,(g f).name=f.name)
  (q:h'[p.2]? =some (J2 #[J7 (g p.1).cj,J7 (g p.1).soft] XM (0,0))) (x:Mod (· =p.2) k h') (r:G9 {m with files:=P9 p.1.name g m.files}):
  FI h' b l (d.map λa=>(if a.1.name=p.1.name then g a.1 else a.1,a.2)) {m with files:=P9 p.1.name g m.files}:=by
 refine⟨x.ai c.head (c.eT h).1.symm,?_,?_,?_,?_,r⟩
 ·have e:fi (d.map λa=>(if a.1.name=p.1.name then g a.1 else a.1,a.2))=fi d:=by
   simp only[fi,AT];refine CD λa _=>?_
   grind
  rw[e];exact c.map.mod x (c.eT h).2.symm
 ·intro a s;obtain⟨n,j,rfl⟩:=List.mem_map.1 s;simp only;by_cases e:n.1.name=p.1.name
  ·rw[if_pos e];have:=c.inj j h e;subst this;exact q
  ·rw[if_neg e];refine x.ai (c.cells n j) λt=>e ?_
   have u:=c.nodup;obtain⟨i,v,rfl⟩:=Ds h;obtain⟨o,w,rfl⟩:=Ds j;have:o=i:=by
    have y:i<(d.map (·.2)).length:=by simpa using v
    have z:o<(d.map (·.2)).length:=by simpa using w
    refine(LI (h₀:=z) (h₁:=y) u).1 ?_;simpa using t
   subst this;rfl
 ·have A:=c.perm.map λf=>if f.name=p.1.name then g f else f
  simpa [P9,AT,FA] using A
 ·simpa [AT,FA] using c.nodup
theorem sC {b d:Nat}{e:List (Fi×Nat)}{g:Fi×Nat->Fi}(c:Nat):KT b d (e.map λf=>(g f,f.2)) c↔KT b d e c:=by
 unfold KT;constructor
 ·grind
 ·rintro(a|a|⟨p,h,rfl⟩)
  ·exact .inl a
  ·exact .inr (.inl a)
  ·exact .inr (.inr ⟨_,List.mem_map.2 ⟨p,h,rfl⟩,rfl⟩)
theorem sD {b:A2P}{v:J0}: ∀ {m:List (A2P×J0)},Mx b m=none->Rw b v m=m++ [(b,v)]
 | [],_=>rfl
 |p::m,a=>by
  rw[GY] at a;split at a
  ·cases a
  ·rename_i c;unfold Rw;rw[if_neg c,sD a];rfl
theorem lE {d:ar}{a:aa}{b:Nat}{e f:J0}{down:Bool}{T:Q7}{c:A2O}(g:a[b]? =some (J2 #[e,f,J3 down] T (0,0)))(h:c (J3 down) a):
  AA d P Gi #[Aq b] a c:=by
 refine ACb ?_;unfold WQ;exact ag.no rfl (aE (Ac.mk (AB g rfl) h))
theorem API {e:ar}{c:aa}{name:A2P}{d:A2O}(a:d (J3 (LU name)) c):AA e P Tu #[J7 name] c d:=by
 refine AGS ?_;unfold uU;unfold LU at a;rw[Ca];refine ag.intro (λb=>?_) (λb=>?_)
 ·rw[b] at a;exact a
 ·rw[b] at a;have f:decide ((name.size:Int)>(32:Int))=decide (name.size>32):=by grind
  rw[f];simpa using a
def na(fuel:Int):Int:=if fuel>0 then fuel-1 else fuel
theorem ARS {o:ar}{d:aa}{b:Nat}{h:J0}{fuel:Int}{down:Bool}{T:Q7}{i:A2O}(f:d[b]? =some (J2 #[h,J6 J9 fuel,J3 down] T (0,0)))(q: -1<=fuel)(r:fuel<=9223372036854775807)
  (p:fuel=0-> ∀a,a[b]? =some (J2 #[h,J6 J9 fuel,J3 true] T (0,0))->Mod (· =b) d a->a.size=d.size->i (J3 false) a)
  (e:fuel≠0-> ∀a,a[b]? =some (J2 #[h,J6 J9 (na fuel),J3 down] T (0,0))->Mod (· =b) d a->a.size=d.size->i (J3 true) a):AA o P HZ #[Aq b] d i:=by
 refine ABF ?_;unfold TZ;refine aE (AC.mk (AB f rfl) ?_);refine ag.intro (λc=>?_) (λc=>?_)
 ·refine aE (af.dt f (by simp) λj g k l=>?_);exact p (by simpa using c) j (by simpa using g) k l
 ·have c:fuel≠0:=by simpa using c
  have e:=e c;unfold na at e;refine aj.mk λK n=>?_
  refine aE (AC.mk (AB f rfl) ?_);refine ag.intro (λc=>?_) (λc=>?_)
  ·have m:fuel>0:=by simpa using c
   rw[if_pos m] at e;refine aE (AC.mk (AB f rfl) (aE (af.dt f (by simp) λj g k l=>n _ _ ?_)));rw[wrap_i64 (by omega) (by omega)] at g;exact e j (by simpa using g) k l
  ·have m: ¬fuel>0:=by simpa using c
   rw[if_neg m] at e;exact n _ _ (e d f Mod.refl rfl)
theorem JN(m:Bx):(IL m).fuel=na m.fuel/\(IL m).down=m.down/\(IL m).files=m.files:=by grind [IL,na]
theorem AKA {m:Bx}(g:G9 m):G9 (IL m):=by have:=g.tick m.files g.sorted g.names g.wt;rwa [<- (JN m).2.2] at this
theorem FI.jj {p:ar}{e:aa}{b f:Nat}{g:List (Fi×Nat)}{m:Bx}(d:FI e b f g m){i:A2O}
  (q:m.fuel=0-> ∀a,FI a b f g (NQ m)->Mod (KT b f g) e a->i (J3 false) a)
  (r:m.fuel≠0-> ∀a,FI a b f g (IL m)->Mod (KT b f g) e a->a.size=e.size->i (J3 true) a):AA p P HZ #[Aq b] e i:=by
 refine ARS d.head d.aT.lo d.aT.hi (λj k l h o=>?_) (λj k l h o=>?_)
 ·exact q j k (d.hd l h rfl d.aT.off) (h.ak λc _ n=> .inl n)
 ·obtain⟨s,t,u⟩:=JN m;refine r j k (d.hd ?_ h u (AKA d.aT)) (h.ak λc _ n=> .inl n) o;rw[s,t];exact l
theorem FI.fI {d:aa}{b a:Nat}{e:List (Fi×Nat)}{m:Bx}(i:FI d b a e m){p:Fi×Nat}(f:p∈e){data:A2P}(l:G9 {m with files:=P9 p.1.name (Rp data) m.files}){K:aa->Prop}
  (r: ∀j n,FI j b a n {m with files:=P9 p.1.name (Rp data) m.files}->Mod (KT b a e) d j->(∀ c,KT b a n c↔KT b a e c)->K j):
  At (some ⟨p.2,0,none⟩) λs=>AJ d (s.add 1) λt=>aI (((t.size+data.size:Nat):Int)<=IntKind.i64.max)<|At (some ⟨p.2,0,none⟩) λu=>af d (u.add 1) (J7 (t++data)) K:=by
 have h:=i.cells p f;refine aE (AJ.mk (AB h rfl) ⟨?_,aE (af.dt h (by simp) λo v q y=>?_)⟩)
 ·have o:bj (P9 p.1.name (Rp data) m.files)<=8796093022208:=l.wt;have w:Rp data p.1∈P9 p.1.name (Rp data) m.files:=by refine List.mem_map.2 ⟨p.1,i.mem.2 ⟨p.2,f⟩,by simp⟩
  have x:=o0 w;simp only[Rp,AQH] at x;simp[IntKind.max,IntKind.bits,IntKind.signed];omega
 ·exact r o _ (i.set f (g:=Rp data) (λ_=>rfl) (by simpa [Rp] using v) q l) (q.ak λc _ h=> .inr (.inr ⟨p,f,h.symm⟩)) (λc=>sC (g:=λk=>if k.1.name=p.1.name then Rp data k.1 else k.1) c)
theorem sE {S:ar}{e:aa}{b:Nat}{l:Nat->Prop}{m:Bx}{name data:A2P}{L:A2O}(k:Cu e b l m)(T:bj m.files+data.size+1<=8796093022208)
  (g: ∀B S',Cu B b S' (EM m name data).2->Mod l e B->(∀ c,S' c->l c\/e.size<=c)->L (J6 J9 (EM m name data).1) B):AA S P Ja #[Aq b,J7 name,J7 data] e L:=by
 have n:=k.aT.append (name:=name) (data:=data) T;obtain⟨j,o,k,r⟩:=k;refine Xy ?_;unfold Qm;refine lE k.head ⟨_,rfl,?_⟩;unfold EM at g n;refine ag.intro (λhd=>?_) (λhd=>?_)
 ·rw[if_pos hd] at g;exact g e l ⟨j,o,k,r⟩ Mod.refl (λc d=> .inl d)
 rw[if_neg (by simp[hd])] at g n;refine API ⟨_,rfl,?_⟩;refine ag.intro (λw=>?_) (λw=>?_)
 ·rw[if_pos w] at g;exact g e l ⟨j,o,k,r⟩ Mod.refl (λc d=> .inl d)
 rw[if_neg (by simp[w])] at g n;have C: ∀ {q:aa},Mod (KT b j o) e q->Mod l e q:=λs=>s.ak λc _ d=>(r c).2 d
 refine k.jj (λD q i s=>⟨_,rfl,?_⟩) (λD q i s ae=>⟨_,rfl,?_⟩)
 ·rw[if_pos D] at g;exact ag.yes rfl (g q l ⟨j,o,i,r⟩ (C s) (λc d=> .inl d))
 rw[if_neg D] at g n;refine ag.no rfl ?_;refine aE (FV.mk (AO i.head rfl) (OO jL Ll lD i.map ?_));rcases i.look name with⟨x,E⟩|⟨p,h,x,E,U⟩
 ·
  rw[x];refine⟨none,rfl,aj.mk λK F=>ag.yes rfl ?_⟩;refine ao.mk λaf _ V M ah=>?_
  have t:=i.mod M (λ_ _ e=>e);refine aE (FV.mk (AO t.head rfl) ?_);have W:name.size<=32:=by simp[LU] at w;omega
  have ai:=VK (IL m).files;have X:o.length=(IL m).files.length:=by rw[<- i.perm.length_eq];simp
  rw[(JN m).2.2] at X;have ak:=VK m.files;refine w6 jL Ll t.map (by simp[maxLen];omega) (by simp[fi,maxLen];omega) λN O y al=>?_
  rw[sD x] at O;have am:=y.ai V (by have:=i.map.lt;omega);have u:=E;rw[(JN m).2.2] at u;have G:UH name m.files=gX ⟨name,bG,bG⟩ m.files:=by unfold UH;rw[u];rfl
  have Y:=Rx u;have Z:=wI ⟨name,bG,bG⟩ m.files;simp only[nZ] at Z;have ab:FI N b j (o++ [(⟨name,bG,bG⟩,q.size)]) {IL m with files:=gX ⟨name,bG,bG⟩ m.files}:=by
   refine⟨y.ai t.head t.gz.symm,?_,?_,?_,?_,?_⟩
   ·rw[fi,Bm];exact O
   ·intro p h;rcases List.mem_append.1 h with h|h
    ·exact y.ai (t.cells p h) (t.eT h).2
    simp_all
   ·rw[Bm];refine(List.perm_append_singleton _ _).trans (((i.perm.trans (List.Perm.of_eq (JN m).2.2)).cons _).trans (OM _ _).symm)
   ·rw[Bm];refine List.nodup_append.2 ⟨i.nodup,by simp,?_⟩;intro a ac c d;obtain⟨p,h,rfl⟩:=List.mem_map.1 ac;simp at d;subst d;have:=Ah (i.cells p h);omega
   ·refine k.aT.tick _ (UV k.aT.sorted Y) (λf H=>?_) (by omega);rcases List.mem_cons.1 ((OM _ _).subset H) with rfl|H
    ·exact W
    ·exact k.aT.names f H
  refine F _ _ ?_;rw[G] at g n;refine ab.fI (p:=(⟨name,bG,bG⟩,q.size)) (by simp) (data:=data) n λI v z J A=>?_
  have Q: ∀c,KT b j v c->KT b j o c\/e.size<=c:=λc d=>by
   rcases(A c).1 d with e|e|⟨p,h,rfl⟩
   ·exact .inl (.inl e)
   ·exact .inl (.inr (.inl e))
   ·rcases List.mem_append.1 h with h|h
    ·exact .inl (.inr (.inr ⟨p,h,rfl⟩))
    simp_all
  refine g I (KT b j v) ⟨j,v,z,λ_=>CM⟩ ?_ (λc d=>(Q c d).imp (r c).2 id);have ad:Mod (KT b j o) q N:=M.mod.trans (y.ak λc _ d=> .inr (.inl d));refine C ((s.trans ad).then (J.ak λc _ d=>Q c ((A c).2 d)))
 ·
  rw[x];refine⟨some ⟨p.2,0,none⟩,rfl,aj.mk λK F=>ag.no rfl (F _ _ ?_)⟩;have u:=E;rw[(JN m).2.2] at u;have G:UH name m.files=m.files:=by unfold UH;rw[u];rfl
  rw[G] at g n;subst U;have R:=(JN m).2.2;refine i.fI h (data:=data) (by rw[R];exact n) λI v z J A=>?_
  refine g I l ⟨j,v,by rw[R] at z;exact z,λc=>(r c).trans (A c).symm⟩ (C (s.trans J)) (λc d=> .inl d)
theorem sF {D:ar}{e:aa}{b:Nat}{o:Nat->Prop}{m:Bx}{name:A2P}{x:A2O}(a:Cu e b o m)
  (d: ∀h',Cu h' b o (Hg m name).2->Mod o e h'->x (J6 J9 (Hg m name).1) h'):AA D P Kw #[Aq b,J7 name] e x:=by
 have i:=a.aT.sync (name:=name);obtain⟨j,q,a,k⟩:=a;refine ABP ?_;unfold Ur;refine lE a.head ⟨_,rfl,?_⟩;unfold Hg at d i;have y: ∀ {l:aa},Mod (KT b j q) e l->Mod o e l:=λn=>n.ak λc _ f=>(k c).2 f
 refine ag.intro (λhd=>?_) (λhd=>?_)
 ·rw[if_pos hd] at d;exact d e ⟨j,q,a,k⟩ Mod.refl
 rw[if_neg (by simp[hd])] at d i;refine aE (FV.mk (AO a.head rfl) (OO jL Ll lD a.map ?_));rcases a.look name with⟨r,s⟩|⟨p,t,r,s,E⟩
 ·rw[r];rw[s] at d;exact⟨none,rfl,ag.yes rfl (d e ⟨j,q,a,k⟩ Mod.refl)⟩
 rw[r];rw[s,if_neg (by simp)] at d i;refine⟨some ⟨p.2,0,none⟩,rfl,ag.no rfl ?_⟩;refine a.jj (λu l h n=>⟨_,rfl,?_⟩) (λu l h n H=>⟨_,rfl,?_⟩)
 ·rw[if_pos u] at d;exact ag.yes rfl (d l ⟨j,q,h,k⟩ (y n))
 rw[if_neg u] at d i;refine ag.no rfl ?_;refine aE (FV.mk (AO h.head rfl) (OO jL Ll lD h.map ?_));rw[r];refine⟨some ⟨p.2,0,none⟩,rfl,?_⟩;have f:=h.cells p t;refine aE (AJ.mk (AO f rfl) (aE (AJ.mk (AB f rfl) ⟨?_,?_⟩)))
 ·have v:=o0 (KH s).2;have:=a.aT.wt;simp[IntKind.max,IntKind.bits,IntKind.signed];omega
 refine aE (af.mk f (by simp) λI F z J=>aE (af.dt F (by simp) λv G A K=>?_));subst E;have B:=(JN m).2.2;have C:=h.set t (h':=v) (g:=SH) (λ_=>rfl) (by simpa [SH] using G) (z.trans A) (by rw[B];exact i);rw[B] at C;refine d v ⟨j,_,C,λc=>(k c).trans (sC (g:=λw=>if w.1.name=p.1.name then SH w.1 else w.1) c).symm⟩ (y (n.trans ((z.trans A).ak λc _ f=> .inr (.inr ⟨p,t,f.symm⟩))))
theorem pj {i:ar}{e:aa}{b:Nat}{j:Nat->Prop}{m:Bx}{name:A2P}{g:A2O}(a:Cu e b j m)
  (c:g (J1 #[J7 (UM m name).1,J6 J9 (UM m name).2]) e):AA i P I1 #[Aq b,J7 name] e g:=by
 obtain⟨l,n,a,o⟩:=a;refine AA3 ?_;unfold TS;refine lE a.head ⟨_,rfl,?_⟩;unfold UM at c;refine ag.intro (λhd=>?_) (λhd=>?_)
 ·rw[if_pos hd] at c;exact c
 rw[if_neg (by simp[hd])] at c;refine aE (FV.mk (AO a.head rfl) (OO jL Ll lD a.map ?_));rcases a.look name with⟨f,d⟩|⟨p,k,f,d,q⟩
 ·rw[f];rw[d] at c;exact⟨none,rfl,ag.yes rfl c⟩
 rw[f];rw[d] at c;refine⟨some ⟨p.2,0,none⟩,rfl,ag.no rfl ?_⟩;have h:=a.cells p k;refine aE (AJ.mk (AO h rfl) (aE (AJ.mk (AB h rfl) ⟨?_,c⟩)));have r:=o0 (KH d).2;have:=a.aT.wt;simp[IntKind.max,IntKind.bits,IntKind.signed];omega
theorem AQr(a:A2P)(b:List (Fi×Nat)):gT a (fi b)=fi (b.filter λp=> !decide (p.1.name=a)):=by unfold gT fi;rw[ON];rfl
theorem XE {C:ar}{a:aa}{b:Nat}{i:Nat->Prop}{m:Bx}{name:A2P}{x:A2O}(d:Cu a b i m)
  (e: ∀s S',Cu s b S' (Gr m name).2->Mod i a s->(∀ c,S' c->i c)->x (J6 J9 (Gr m name).1) s):AA C P HY #[Aq b,J7 name] a x:=by
 have k:=d.aT.delete (name:=name);obtain⟨j,l,d,n⟩:=d;refine Yt ?_;unfold Qd;refine lE d.head ⟨_,rfl,?_⟩;unfold Gr at e k;have y: ∀ {g:aa},Mod (KT b j l) a g->Mod i a g:=λo=>o.ak λc _ q=>(n c).2 q
 refine ag.intro (λhd=>?_) (λhd=>?_)
 ·rw[if_pos hd] at e;exact e a i ⟨j,l,d,n⟩ Mod.refl (λ_ a=>a)
 rw[if_neg (by simp[hd])] at e k;refine aE (FV.mk (AO d.head rfl) (OO jL Ll lD d.map ?_));rcases d.look name with⟨t,u⟩|⟨p,z,t,u,F⟩
 ·rw[t];rw[u] at e;exact⟨none,rfl,ag.yes rfl (e a i ⟨j,l,d,n⟩ Mod.refl (λ_ a=>a))⟩
 rw[t];rw[u,if_neg (by simp)] at e k;refine⟨some ⟨p.2,0,none⟩,rfl,ag.no rfl ?_⟩;refine d.jj (λv g h o=>⟨_,rfl,?_⟩) (λv g h o G=>⟨_,rfl,?_⟩)
 ·rw[if_pos v] at e;exact ag.yes rfl (e g i ⟨j,l,h,n⟩ (y o) (λ_ a=>a))
 rw[if_neg v] at e k;refine ag.no rfl ?_;refine aE (FV.mk (AO h.head rfl) (w7 jL Ll h.map λA B w H=>⟨rfl,?_⟩));rw[AQr] at B;have I:=(JN m).2.2;have D:FI A b j (l.filter λp=> !decide (p.1.name=name)) {IL m with files:=P8 name m.files}:=by
  refine⟨w.ai h.head h.gz.symm,B,λE r=>?_,?_,?_,k⟩
  ·have r:=(List.mem_filter.1 r).1;exact w.ai (h.cells E r) (h.eT r).2
  ·have g:=d.perm.filter λf=> !decide (f.name=name)
   rw[ON] at g;exact g
  ·exact(List.filter_sublist.map _).nodup d.nodup
 refine e A (KT b j _) ⟨j,_,D,λ_=>CM⟩ (y (o.trans (w.ak λc _ q=> .inr (.inl q)))) (λc q=>(n c).2 ?_);rcases q with a|a|⟨p,z,rfl⟩
 ·exact .inl a
 ·exact .inr (.inl a)
 ·exact .inr (.inr ⟨p,(List.mem_filter.1 z).1,rfl⟩)
theorem AQw {h:ar}{a:aa}{e:A2O}(i: ∀b d f,Cu d b f kV->Ext a d->(∀ c,f c->a.size<=c)->e (Aq b) d):AA h P Ze #[] a e:=by
 refine AK3 ?_;unfold uF;refine ao.mk λj _ k l q=>ao.mk λm _ n g r=>?_
 refine i _ m (KT j.size a.size []) ⟨_,[],⟨n,PK.empty (g.ai k (by simp)),by simp,FF _,by simp,ANN⟩,λ_=>CM⟩ (l.trans g) ?_;rintro c (rfl|rfl|⟨p,o,_⟩)
 ·omega
 ·exact A0 _
 ·cases o
end Go.Lf.G
namespace Go.Proofs
open Go.Shelf
def Tryz.cD:Go.Shelf.Ren:=⟨λ|105=>220|212=>245|99=>246|165=>247|166=>248|170=>249|169=>250|263=>274|264=>275|206=>276|240=>277|241=>278|276=>294|277=>295|a=>a,λ|9=>9|3=>3|4=>4|20=>20|0=>0|46=>153|109=>339|5=>5|72=>343|76=>294|51=>150|146=>151|53=>140|148=>365|70=>341|37=>69|75=>293|127=>367|164=>380|80=>120|a=>a,λ|a=>a⟩
theorem Tryz.eJ:Go.Proofs.Lays.n105 Tryz.prog Tryz.cD:=by repeat' first|exact Lf.Df (by kernel_rfl)|kernel_rfl|decide|constructor
theorem Tryz.dM:Builder.Extra Tryz.prog Tryz.cD:=by repeat' first|exact Lf.Df (by kernel_rfl)|kernel_rfl|decide|constructor
theorem Tryz.iz:Lays.n166 Tryz.prog Tryz.cD:= {Tryz.eJ with}
theorem Tryz.iA:Lays.n169 Tryz.prog Tryz.cD:= {Tryz.eJ with}
def Tryz.eW:Go.Shelf.Ren:=⟨λ|103=>242|210=>263|206=>276|a=>a,λ|9=>9|4=>4|24=>156|3=>3|a=>a,λ|a=>a⟩
theorem Tryz.iB:Go.Proofs.Lays.n103 Tryz.prog Tryz.eW:=by repeat' first|exact Lf.Df (by kernel_rfl)|kernel_rfl|decide|constructor
def Tryz.cK:Go.Shelf.Ren:=⟨λ|14=>243|16=>264|17=>224|19=>288|20=>289|21=>253|22=>254|23=>255|24=>256|25=>283|27=>179|26=>284|28=>221|29=>251|30=>279|31=>280|32=>281|33=>282|35=>217|34=>296|36=>297|37=>298|38=>299|39=>301|40=>302|a=>a,λ|9=>9|3=>3|22=>140|24=>293|25=>336|4=>4|34=>345|5=>5|36=>153|37=>69|0=>0|39=>348|21=>21|44=>373|47=>367|50=>388|48=>386|2=>2|52=>368|55=>370|59=>384|60=>150|20=>20|61=>385|65=>390|66=>391|67=>120|a=>a,λ|0=>0|1=>1|2=>2|3=>4|4=>5|a=>a⟩
theorem Tryz.dN:Go.Proofs.LaysPu.n14 Tryz.prog Tryz.cK:=by repeat' first|exact Lf.Df (by kernel_rfl)|kernel_rfl|decide|constructor
def Tryz.eK:Go.Shelf.Ren:=⟨λ|171=>179|243=>221|246=>251|283=>279|284=>280|285=>281|286=>282|129=>217|317=>296|318=>297|319=>298|320=>299|337=>301|338=>302|a=>a,λ|3=>3|9=>9|2=>2|4=>4|171=>368|0=>0|53=>140|37=>69|5=>5|173=>370|212=>384|51=>150|20=>20|213=>385|46=>153|232=>390|233=>391|a=>a,λ|17=>2|18=>4|19=>5|a=>a⟩
theorem Tryz.gC:Go.Proofs.LaysM.n171 Tryz.prog Tryz.eK:=by repeat' first|exact Lf.Df (by kernel_rfl)|kernel_rfl|decide|constructor
def Tryz.eL:Go.Shelf.Ren:=⟨λ|172=>185|244=>223|245=>224|247=>252|279=>253|280=>254|281=>255|282=>256|287=>264|316=>283|171=>179|205=>284|321=>288|322=>289|243=>221|246=>251|283=>279|284=>280|285=>281|286=>282|129=>217|317=>296|318=>297|319=>298|320=>299|337=>301|338=>302|a=>a,λ|9=>9|3=>3|75=>293|76=>294|4=>4|5=>5|167=>345|37=>69|0=>0|85=>346|2=>2|168=>348|53=>140|175=>336|46=>153|210=>373|127=>367|145=>388|143=>386|21=>21|171=>368|173=>370|212=>384|51=>150|20=>20|213=>385|232=>390|233=>391|80=>120|a=>a,λ|15=>0|16=>1|17=>2|18=>4|19=>5|a=>a⟩
theorem Tryz.gD:Go.Proofs.LaysC.n172 Tryz.prog Tryz.eL:=by repeat' first|exact Lf.Df (by kernel_rfl)|kernel_rfl|decide|constructor
end Go.Proofs
namespace Go.Lf
open Go
def OV(a:Nat):List UInt8:=Lib.repeatL [48] (8-(Lib.decDigits a).length)++Lib.decDigits a
def TL(a:Nat)(l:List UInt8):Nat:=l.foldl (λa c=>a*10+(c.toNat-48)) a
def mg(l:List UInt8):Prop:= ∀c∈l,48<=c.toNat/\c.toNat<=57
theorem nX {a:Nat}(b:a<10):(UInt8.ofNat (48+a)).toNat=48+a:=by simp only[UInt8.toNat_ofNat'];omega
theorem Y9: ∀a:Nat,mg (Lib.decDigits a)/\TL 0 (Lib.decDigits a)=a:=by
 intro a
 induction a using Nat.strongRecOn with
 |ind a g=>
  by_cases d:a<10
  ·rw[Lib.decDigits,dif_pos d];refine⟨λc b=>?_,?_⟩
   ·rw[List.mem_singleton.1 b,nX d];omega
   ·simp only[TL,I2,N3,nX d];omega
  ·rw[Lib.decDigits,dif_neg d];obtain⟨h,e⟩:=g (a / 10) (by omega);have f:a % 10<10:=CA _ (by decide);refine⟨λc b=>?_,?_⟩
   ·rcases List.mem_append.1 b with b|b
    ·exact h c b
    ·rw[List.mem_singleton.1 b,nX f];omega
   ·unfold TL at e ⊢;rw[Hi,e];simp only[I2,N3,nX f];omega
theorem qO: ∀k:Nat,mg (Lib.repeatL [48] k)/\ ∀l,TL 0 (Lib.repeatL [48] k++l)=TL 0 l
 |0=>⟨λc a=>(by cases a),λl=>rfl⟩
 |k+1=>by
  obtain⟨b,d⟩:=qO k;refine⟨λc a=>?_,λl=>?_⟩
  ·rcases List.mem_append.1 a with a|a
   ·rw[List.mem_singleton.1 a];decide
   ·exact b c a
  ·show TL 0 (([48]++Lib.repeatL [48] k)++l)=_;rw[A3];exact d l
theorem qP(a:Nat):mg (OV a)/\TL 0 (OV a)=a:=by
 refine⟨λc b=>?_,?_⟩
 ·rcases List.mem_append.1 b with b|b
  ·exact(qO _).1 c b
  ·exact(Y9 a).1 c b
 ·exact((qO _).2 _).trans (Y9 a).2
theorem qQ: ∀(l:List UInt8) (a:Nat),a<=TL a l
 | [],a=>A0 _
 |c::l,a=>by
  have:=qQ l (a*10+(c.toNat-48));have b:TL a (c::l)=TL (a*10+(c.toNat-48)) l:=rfl;rw[b];omega
theorem wm: ∀(l:List UInt8) (a:Nat),mg l->TL a l<=4294967295->Lib.parseUintM 4294967295 a l= .ok (TL a l)
 | [],a,_,_=>rfl
 |c::l,a,hd,b=>by
  have d:TL a (c::l)=TL (a*10+(c.toNat-48)) l:=rfl;rw[d] at b ⊢;have e:=hd c (by simp);have g:=qQ l (a*10+(c.toNat-48));unfold Lib.parseUintM;rw[if_pos e,if_neg (by omega),if_neg (by omega)];exact wm l _ (λx f=>hd x (AF _ f)) b
theorem wo: ∀(l:List UInt8) (a:Nat) {u:Nat},a<=4294967295->Lib.parseUintM 4294967295 a l= .ok u->u<=4294967295
 | [],a,u,d,b=>by
  unfold Lib.parseUintM at b;injection b with b;omega
 |c::l,a,u,d,b=>by
  unfold Lib.parseUintM at b;split at b
  ·split at b
   ·cases b
   ·split at b
    ·cases b
    ·exact wo l _ (by omega) b
  ·cases b
theorem wq {a:Nat}(d:a<=4294967295):Lib.parseUintB 32 (OV a)= .ok a:=by
 obtain⟨e,b⟩:=qP a;have f:OV a≠ []:=by intro g;have h:Lib.decDigits a= []:=(List.append_eq_nil_iff.1 g).2;have c:=congrArg List.length h;rw[Lib.decDigits_length] at c;have:=Lib.nDigits_pos a;simp at c;omega
 unfold Lib.parseUintB;rw[if_neg f];have:=wm (OV a) 0 e (by rw[b];exact d);rw[b] at this;exact this
theorem AP4 {a b:Nat}(d:OV a=OV b):a=b:=by have c:=(qP a).2;rw[d,(qP b).2] at c;exact c.symm
theorem AJc {k:Nat}: ∀ {n:Nat},n<10^(k+1)->Lib.nDigits n<=k+1:=by
 induction k with
 |zero=>intro n a;rw[Lib.nDigits_small (by simpa using a)];omega
 |succ k c=>
  intro n a;by_cases b:n<10
  ·rw[Lib.nDigits_small b];omega
  ·rw[Lib.nDigits_big b];have:=c (n:=n / 10) (by rw[DH] at a;omega);omega
theorem wu {n:Nat}(a:n<=99999999):(OV n).length=8:=by have b:=AJc (k:=7) (n:=n) (by have:(10:Nat)^(7+1)=100000000:=(by decide);omega);simp only[OV,A1,Lib.repeatL_length,Lib.decDigits_length,Cd];omega
theorem AJ0 {a:Nat}(b:(OV a).length=8):a<=99999999:=by
 have c:Lib.nDigits a<=8:=by simp only[OV,A1,Lib.repeatL_length,Lib.decDigits_length,Cd] at b;omega
 have d:=Lib.lt_pow_nDigits a;have e:(10:Nat)^Lib.nDigits a<=10^8:=RE (by decide) c;have:(10:Nat)^8=100000000:=by decide
 omega
def aD(a:A2P)(b:Nat):A2P:=a++AX (OV b)
theorem RP(a:A2P)(b:Nat):bl (aD a b)=bl a++OV b:=by show(a++AX (OV b)).data.toList=a.data.toList++OV b;rw[JT,N5];exact congrArg _ (Bh _)
theorem Ih {a:A2P}{b c:Nat}(e:aD a b=aD a c):b=c:=by have d:=congrArg bl e;rw[RP,RP] at d;exact AP4 (Kd d)
theorem APf {nm:A2P}{a:Nat}(b:a<=99999999):(aD nm a).size=nm.size+8:=by rw[aD,Kf,AP,wu b]
inductive NS:List UInt8->List (List UInt8)->Prop
 |stop {l:List UInt8} (h:(Gu l).1≠0):NS l []
 |step {l:List UInt8} {rs:List (List UInt8)} (h:(Gu l).1=0) (s:NS (Gu l).2.2 rs):NS l ((Gu l).2.1::rs)
theorem Zz {l:List UInt8}(a:(Gu l).1=0):(Gu l).2.1.length+(Gu l).2.2.length<l.length:=by
 unfold Gu at a ⊢;cases b:Mg 0 0 l with
 |none=>rw[b] at a;dsimp only at a;split at a<;>cases a
 |some p=>
  obtain⟨g,t⟩:=p;rw[b] at a;obtain⟨c,_⟩:=mz b;have h:t.length<=l.length:=by rw[c];simp
  dsimp only at a ⊢;split at a
  ·cases a
  ·rename_i d;split at a
   ·cases a
   ·rename_i e;split at a
    ·rename_i f;rw[if_neg d,if_neg e,if_pos f];simp only[Ax,DG];omega
    ·cases a
theorem qR: ∀(k:Nat) (l:List UInt8),l.length<=k-> ∃a,NS l a/\(a.map (·.length+1)).sum<=l.length
 |0,l,c=>by
  have:l= []:=CC (by omega);subst this;exact⟨[],.stop (by decide),by simp⟩
 |k+1,l,c=>by
  by_cases b:(Gu l).1=0
  ·have e:=Zz b;obtain⟨a,d,f⟩:=qR k (Gu l).2.2 (by omega);exact⟨_,.step b d,by simp only[B9,GP];omega⟩
  ·exact⟨[],.stop b,by simp⟩
theorem NS.uniq {l:List UInt8}{d ts:List (List UInt8)}(a:NS l d):NS l ts->d=ts:=by
 induction a generalizing ts with
 |stop a=>
  intro c;cases c with
  |stop=>rfl
  |step b=>exact absurd b a
 |step a s e=>
  intro c;cases c with
  |stop b=>exact absurd a b
  |step b f=>rw[e f]
noncomputable def kU (l:List UInt8):List (List UInt8):=(qR l.length l (A0 _)).choose
theorem qS(l:List UInt8):NS l (kU l):=(qR l.length l (A0 _)).choose_spec.1
theorem APY {l:List UInt8}{a:List (List UInt8)}(b:NS l a):kU l=a:=(qS l).uniq b
abbrev aK(a:List (List UInt8)):List UInt8:=a.flatMap Ct
theorem RY {rs:List (List UInt8)}(c: ∀a∈rs,a.length<=1048576){t:List UInt8}(d:(Gu t).1≠0):NS (aK rs++t) rs:=by
 induction rs with
 |nil=>exact .stop d
 |cons a rs e=>
  have b:=xX (l:=a) (c a (by simp)) (aK rs++t);have f:aK (a::rs)++t=Ct a++(aK rs++t):=by simp
  rw[f];have:=NS.step (l:=Ct a++(aK rs++t)) (rs:=rs) (by rw[b]) (by rw[b];exact e λx g=>c x (AF _ g));rw[b] at this;exact this
theorem UD:(Gu []).1≠0:=by decide
theorem AM7 {a:List UInt8}(m:a.length<=1048576){b:Nat}(n:b<(Ct a).length):(Gu ((Ct a).take b)).1≠0:=by
 have d:(Ct a).take b++(Ct a).drop b=Ct a:=CN _ _;have o:((Ct a).drop b).length≠0:=by rw[DG];omega
 generalize (Ct a).take b=p at*
 generalize (Ct a).drop b=e at*
 unfold Gu;cases f:Mg 0 0 p with
 |none=>dsimp only;split<;>simp
 |some z=>
  obtain⟨g,t⟩:=z;obtain⟨h,i⟩:=mz f;have j:Mg 0 0 (Ct a)=some (g,t++e):=by rw[<- d,h,A3];exact VI i _
  have c:Mg 0 0 (Ct a)=some (a.length,Qu (je a)++a):=by unfold Ct;rw[A3];exact VI (by omega) _
  rw[j] at c;obtain⟨rfl,k⟩:=Prod.mk.inj (BY c);have l:=congrArg List.length k;simp only[A1,KV] at l;dsimp only;rw[if_neg (by omega),if_pos (by omega)];simp
theorem JM {r:List UInt8}(a:r.length<=1048576):r.length+5<=(Ct r).length/\(Ct r).length<=r.length+14:=by
 have b:=AV (n:=r.length) (by omega);have c:1<=(Bc r.length).length:=by rw[Bc];split<;>simp
 simp only[Ct,A1,KV];omega
end Go.Lf
namespace Go.Lf.G
open Go
def oI:String:=Proofs.YtgpmoonnachoaaaGreatDoor.Rows.archiveMovesRow.named.getD 2 (String.ofList [])
def cW(a:aa):Prop:= ∀(b:ar) (c:Nat),Lib.TabIs P (b.at a c) oI .u64 Lib.pow10Tab
theorem cW.ext {a b:aa}(t:cW a)(x:Ext a b):cW b:=by intro c d;have e:=(Lib.tabBelow_of_tabIs (t c d)) (c.at b d) ⟨rfl,rfl,rfl,x.size,λf g=>x.get f g (λa=>a)⟩;exact e
def kZ(b:aa)(g:Nat):Prop:= ∃a,ah b ⟨g,0,none⟩=some a/\(a= .nilIface\/ ∃c d,a= .iface c d)
theorem kZ.ext {a b:aa}{g:Nat}(c:kZ a g)(x:Ext a b):kZ b g:=by obtain⟨d,e,f⟩:=c;exact⟨d,x.ah e,f⟩
structure bZ (h:aa):Prop where
 cO:cW h
 rY:kZ h (Proofs.Tryz.cK.g 0)
 rZ:kZ h (Proofs.Tryz.cK.g 1)
theorem bZ.ext {b c:aa}(a:bZ b)(x:Ext b c):bZ c:=⟨a.cO.ext x,a.rY.ext x,a.rZ.ext x⟩
theorem rz {e:ar}{d:aa}{i:Nat}{a:World}(b:RowKit.Below d.size (e.at d i) a):a=e.at a.heap a.drawn/\Ext d a.heap:=by obtain⟨f,g,h,j,k⟩:=b;refine⟨?_,⟨j,λc l _=>k c l⟩⟩;cases a;simp only[ar.at] at f g h ⊢;subst f g h;rfl
theorem yx {d:ar}{b:aa}{e:Nat}{a:Q6}{v:J0}(c:ah b a=some v):(d.at b e).cell? a=some v:=by unfold ah at c;unfold World.cell?;exact c
theorem yy {d:ar}{a:aa}{c:Int}{e:A2O}(t:cW a)(g: -9223372036854775808<=c)(h:c<=9223372036854775807)(i: ∀f,Ext a f->e (J7 ⟨(Lib.itoa c).toArray⟩) f):
  AA d P Ot #[J6 J9 c] a e:=by
 intro m;refine Calls.mono (Proofs.Any.strconv_Itoa Proofs.Tryz.gC c g h (d.at a m) (t d m)) ?_;rintro l n ⟨rfl,j,os,rfl⟩;refine⟨_,rfl,a++os,m+j,rfl,i _ ⟨by simp,λb k _=>by rw[Mu k]⟩⟩
theorem ANQ {b:ar}{a:aa}{s:A2P}{c:Nat}{d:A2O}(g:c<=8)(h:s.size<=8)(i: ∀e,Ext a e->d (J7 (AX (Lib.repeatL (bl s) c))) e):
  AA b P QX #[J7 s,J6 J9 c] a d:=by
 intro m;have k:s.size*c<=8*8:=Nat.mul_le_mul h g;refine Calls.mono (Proofs.Any.strings_Repeat Proofs.Tryz.eJ Proofs.Tryz.dM s c (b.at a m) (by omega) (by omega)) ?_;rintro l f ⟨rfl,hB⟩;obtain⟨j,x⟩:=rz hB;exact⟨_,rfl,f.heap,f.drawn,j,i _ x⟩
theorem AGV {b:ar}{a:aa}{s p:A2P}{c:A2O}(d:c (J1 #[J7 (AX (Lib.trimPrefix (bl s) (bl p))),J3 (Lib.hasPrefix (bl s) (bl p))]) a):
  AA b P NW #[J7 s,J7 p] a c:=by
 intro m;refine Calls.mono (Proofs.Any.strings_CutPrefix Proofs.Tryz.iB s p (b.at a m)) ?_;rintro e f ⟨rfl,rfl⟩;exact⟨_,rfl,a,m,rfl,d⟩
theorem AOz {g:ar}{a:aa}{s:A2P}{h:A2O}(o:bZ a)(y:s.size<=8)
  (p: ∀u:Nat,Lib.parseUintB 32 (bl s)= .ok u-> ∀e,Ext a e->h (J1 #[.int .u64 u,.nilIface]) e)
  (q:(∀ u,Lib.parseUintB 32 (bl s)≠ .ok u)-> ∀e (w:Int) t v,Ext a e->h (J1 #[.int .u64 w,.iface t v]) e):
  AA g P Nj #[J7 s,J6 J9 10,J6 J9 32] a h:=by
 intro m;cases c:Lib.parseUintB 32 (bl s)
 ·rename_i u;refine Calls.mono (Proofs.Any.strconv_ParseUint_10_at32_ok Proofs.Tryz.dN s (by omega) u c (g.at a m)) ?_;rintro r d ⟨rfl,i|i⟩
  ·subst i;exact⟨_,rfl,a,m,rfl,p u c a Mod.refl⟩
  ·subst i;refine⟨_,rfl,_,_,rfl,p u c _ ?_⟩;refine⟨?_,λb z _=>?_⟩
   ·simp[Lib.bytesWorld,World.freeze,World.alloc,World.drew,ar.at]
   ·simp[Lib.bytesWorld,World.freeze,World.alloc,World.drew,ar.at,GF,Array.getElem?_push];rw[if_neg (by omega),if_neg (by omega)]
 ·obtain⟨j,k,l⟩:=o.rY;refine Calls.mono (Proofs.Any.strconv_ParseUint_10_at32_syntax Proofs.Tryz.dN s (by omega) c j (g.at a m) (yx k) l) ?_;rintro r d ⟨N,rfl,_,_,hB⟩;obtain⟨n,x⟩:=rz hB;exact⟨_,rfl,d.heap,d.drawn,n,q (λu f=>by rw[c] at f;cases f) _ _ _ _ x⟩
 ·obtain⟨j,k,l⟩:=o.rZ;refine Calls.mono (Proofs.Any.strconv_ParseUint_10_at32_range Proofs.Tryz.dN s (by omega) c j (g.at a m) (yx k) l) ?_;rintro r d ⟨N,rfl,_,_,hB⟩;obtain⟨n,x⟩:=rz hB;exact⟨_,rfl,d.heap,d.drawn,n,q (λu f=>by rw[c] at f;cases f) _ _ _ _ x⟩
theorem YR {g:ar}{c:aa}{b:A2P}{a:Nat}{d:A2O}(h:bZ c)(p:a<=4294967295)(q:b.size<=1099511627776)(i: ∀e,Ext c e->d (J7 (aD b a)) e):
  AA g P KM #[J7 b,J6 J9 a] c d:=by
 refine AHv ?_;unfold ux;refine yy h.cO (by omega) (by omega) λr j=>⟨_,rfl,?_⟩
 have k:Lib.itoa (a:Int)=Lib.decDigits a:=Lib.itoa_nonneg a;rw[k];have f:(⟨(Lib.decDigits a).toArray⟩:A2P).size=(Lib.decDigits a).length:=by simp[ByteArray.size]
 have s:(Lib.decDigits a).length<=20:=by rw[Lib.decDigits_length];exact Lib.nDigits_le20 a (by omega)
 have l:(if((J8 J9 ((8:Int)-(((⟨(Lib.decDigits a).toArray⟩:A2P).size:Nat):Int))):Int)>0 then(J8 J9 ((8:Int)-(((⟨(Lib.decDigits a).toArray⟩:A2P).size:Nat):Int))) else 0)=((8-(Lib.decDigits a).length:Nat):Int):=by rw[f,wrap_i64 (by omega) (by omega)];split<;>omega
 rw[l];refine ANQ (by omega) (by decide) λm n=>⟨_,rfl,?_,?_,?_⟩
 ·have:(AX (Lib.repeatL (bl ⟨#[48]⟩) (8-(Lib.decDigits a).length))).size<=8:=by rw[AP,Lib.repeatL_length];simp[bl]
  rw[max_i64];omega
 ·have:(AX (Lib.repeatL (bl ⟨#[48]⟩) (8-(Lib.decDigits a).length))).size<=8:=by rw[AP,Lib.repeatL_length];simp[bl]
  rw[Kf,max_i64,f];omega
 ·have:=i m (j.trans n);have o:aD b a=(b++AX (Lib.repeatL (bl ⟨#[48]⟩) (8-(Lib.decDigits a).length)))++⟨(Lib.decDigits a).toArray⟩:=by rw[aD,OV,<-Aj,ByteArray.append_assoc];rfl
  rw[o] at this;exact this
theorem AMu {I:ar}{h:aa}{c s:A2P}{q:A2O}(C:bZ h)(J:c.size<=1099511627776)(U:s.size<=1099511627776)
  (D: ∀i (k:Nat),Ext h i->(k=0-> ∀a:Nat,1<=a->a<=99999999->s≠aD c a)->(k≠0->k<=99999999/\s=aD c k)->q (J6 J9 k) i):
  AA I P Rq #[J7 c,J7 s] h q:=by
 refine AEg ?_;unfold Xk;have m: ∀i,Ext h i->(∀ a:Nat,1<=a->a<=99999999->s≠aD c a)->q (J6 J9 0) i:=λi x r=>D i 0 x (λ_=>r) (λh=>absurd rfl h)
 refine AGV ⟨_,_,rfl,?_⟩;cases l:Lib.hasPrefix (bl s) (bl c) with
 |false=>
  refine aj.mk λK o=>ag.yes rfl (o _ _ (ag.yes rfl (m h Mod.refl λa _ _ g=>?_)))
  subst g;rw[RP] at l;unfold Lib.hasPrefix at l;rw[SP] at l;exact l (List.isPrefixOf_iff_prefix.2 (List.prefix_append _ _))
 |true=>
  have E:=l;unfold Lib.hasPrefix at E;obtain⟨f,hd⟩:=List.isPrefixOf_iff_prefix.1 E;have L:Lib.trimPrefix (bl s) (bl c)=f:=by unfold Lib.trimPrefix;rw[if_pos l,<-hd];simp
  rw[L];refine aj.mk λK o=>ag.no rfl ?_
  have M: ∀b:Bool,b=true->(∀ a:Nat,1<=a->a<=99999999->s≠aD c a)->K (b,()) h:=λb N r=>o _ _ (ag.yes N (m h Mod.refl r))
  have F:(AX f).size=f.length:=AP f;by_cases w:f.length=8
  ·refine o _ _ (ag.no (by simp[F,w]) ?_);have G:bl (AX f)=f:=EN f;refine AOz C (by omega) (λu j e p=>⟨_,_,rfl,?_⟩) (λj e k t v p=>⟨_,_,rfl,aj.mk λO y=>?_⟩)
   ·rw[G] at j;have Q:u<=4294967295:=by
     have:Lib.parseUintB 32 f= .ok u:=j;unfold Lib.parseUintB at this;split at this
     ·cases this
     ·exact wo f 0 (by omega) this
    have R:J8 J9 (u:Int)=(u:Int):=wrap_i64 (by omega) (by omega);rw[R];refine aj.mk λO y=>?_
    refine⟨trivial,ag.no rfl ?_⟩;refine YR (C.ext p) Q J λz S=>⟨_,rfl,y _ _ ?_⟩
    have A:=p.trans S;refine ag.intro (λd=>?_) (λd=>?_)
    ·have d:aD c u≠s:=by
      intro g;have:bR (aD c u) s=true:=by rw[Ca];exact decide_eq_true g
      dsimp only at d;rw[this] at d;cases d
     refine m z A λa _ B g=>d ?_
     have e:bl s=bl c++OV a:=by rw[g,RP]
     rw[<- hd] at e;have n:f=OV a:=Kd e;rw[n,wq (by omega)] at j;have:a=u:=by injection j
     rw[<- this];exact g.symm
    ·have d:aD c u=s:=by
      have d:(!bR (aD c u) s)=false:=d;have d:bR (aD c u) s=true:=by simpa using d
      rw[Ca] at d;exact of_decide_eq_true d
     have e:bl s=bl c++OV u:=by rw[<- d,RP]
     rw[<- hd] at e;have n:f=OV u:=Kd e;have T:u<=99999999:=AJ0 (by rw[<- n];exact w);by_cases H:u=0
     ·subst H;refine m z A λa V _ g=>?_
      have:=Ih (g.symm.trans d.symm);omega
     ·exact D z u A (λh=>absurd h H) λ_=>⟨T,d.symm⟩
   ·rw[G] at j;refine⟨trivial,ag.yes rfl (y _ _ (ag.yes rfl (m e p λa _ B g=>?_)))⟩;have e:bl s=bl c++OV a:=by rw[g,RP]
    rw[<- hd] at e;have n:f=OV a:=Kd e;exact j a (by rw[n];exact wq (by omega))
  ·refine M _ (by simp[F];omega) λa _ B g=>w ?_
   have e:bl s=bl c++OV a:=by rw[g,RP]
   rw[<- hd] at e;rw[Kd e,wu B]
open Go Go.ChangeShapes Go.WideShapes Go.ChangeAt Go.RowKit Go.Proofs.YtgpmoonnachoaaaGreatDoor
theorem vO {H:Type}{enc:Q7×J0->H}{P:Q1}(d:laidOutB P=true){e f:World}{g:Nat->Bool}: ∀ {ts:List Q7} {c:List J0} {ds:List (DataW H)} {ps:List MemPlace},
  (ts.all λt=>P.readableRec t&&decide (t<P.types.size))=true->DataW.TrodAll enc P e 0 (λ_=>true) true ts c ds ps->(∀ p∈ps,e.sameAt f p)->(∀ p∈ps,g p.block=true)->DataW.TrodAll enc P f 0 g true ts c ds ps
 | [],[],[],_,_,j,_,_=>j
 |t::ts,v::c,o::ds,_,b,⟨p,k,l,m,n⟩,h,i=>by
  simp only[N4,A4,decide_eq_true_eq] at b;subst n;exact⟨p,k,WideElems.Trod_stays d b.1.1 b.1.2 l (λx a=>h x (Hc _ a)) (λx a=>i x (Hc _ a)),
   vO d (by simpa using b.2) m (λx a=>h x (ID _ a)) (λx a=>i x (ID _ a)),rfl⟩
def lX(a:World):ar:=⟨a.tape,a.os,a.output⟩
theorem AO6 {H:Type}{enc:Q7×J0->H}{P:Q1}{f:Func}{s:ChangeSpec}{a:World}{args:Array J0}{ds d:List (DataW H)}{j:List MemPlace}{q:Q7}{e:aa}{k:Nat}
  (l:DataW.Whole enc P f.params.toList s.vars false a args.toList ds d j) (r:s.vars= []) (y:(s.fn H (ds++d)).results= [.lit (.bool true)]) (z:(s.fn H (ds++d)).args=ds) (A:(s.fn H (ds++d)).vars= [])
  (B:laidOutB P=true) (g:(f.params.toList.all λt=>P.readableRec t&&decide (t<P.types.size))=true) (C:f.resultTypes= #[q]) (D:P.underlying q=some .bool) (x:Ext a.heap e):
  s.post enc P f false true false false a args (.bool true) ((lX a).at e k):=by
 have u:=λp (g:p∈j)=>l.lt p g
 have E: ∀p∈j,a.sameAt ((lX a).at e k) p:=λp g=>by
  have v:e[p.block]? =a.heap[p.block]? :=x.get _ (u p g) (λh=>h);cases p with
  |cell b off=>
   show ah e ⟨b,off,none⟩=ah a.heap ⟨b,off,none⟩;exact Qa v
  |map b=>exact v
 obtain⟨p,F,hA,m,rfl,L,M⟩:=id l;rw[r] at m;have G:d= []/\F= []:=by
  cases d with
  |nil=>exact⟨rfl,m⟩
  |cons _ _=>exact m.elim
 obtain⟨rfl,rfl⟩:=G;refine⟨ds,[],p++ [],[],p,[],l,?_,?_,?_,?_,λh=>by cases h⟩
 ·rw[y,C];exact⟨[],[],⟨1,by simp[DataW.trod,Value.cells,D]⟩,rfl,rfl⟩
 ·rw[z];exact vO B g hA (λn o=>E n (Hc _ o)) (λn o=>by simpa using u n (Hc _ o))
 ·rw[r,A];rfl
 ·refine⟨rfl,rfl,λi I=>?_⟩;have J:((lX a).at e k).heap[i]? =a.heap[i]? :=x.get i I (λh=>h);rw[J];cases N:a.heap[i]? with
  |none=>trivial
  |some K=>
   cases K with
   |cells c t fr=>exact⟨rfl,rfl,rfl,λ_ _=>rfl⟩
   |map O Q=>exact .inr ⟨rfl,rfl⟩
   |_=>rfl
theorem laid:laidOutB P=true:=by kernel_rfl
section
variable {H : Type} {enc : Q7 × J0 -> H} {w : World} {base : Nat} {spare : Nat -> Bool} {held : Bool}
end
theorem ATb:P.underlying Bp=some (.int J9):=by kernel_rfl
theorem ASF:P.underlying lY=some .bool:=by kernel_rfl
theorem ASr:P.underlying BC=some .string:=by kernel_rfl
theorem ATw:P.cellsOf BC=1:=by kernel_rfl
theorem wf_i64 {a:Int}(b:(Lit.int J9 a).wf=true): -9223372036854775808<=a/\a<=9223372036854775807:=by simp[Lit.wf,IntKind.min,IntKind.max,IntKind.bits,IntKind.signed] at b;omega
section
variable {H : Type} {enc : Q7 × J0 -> H} {w : World} {base : Nat} {spare : Nat -> Bool} {held : Bool}
end
end Go.Lf.G
namespace Go.Lf
open Go
def xK(a:A2P)(i:Nat):Nat:=(my a+i*oC a) % 4294967296
def cN(a:A2P)(m i:Nat):Nat:=xK a i % (8*m)
def TJ(f:List UInt8)(a:Nat):Bool:=((f[a / 8]?).getD 0).toNat.testBit (a % 8)
def gu(f:List UInt8)(a:Nat):List UInt8:=f.set (a / 8) (Bq (((f[a / 8]?).getD 0).toNat ||| 2^(a % 8)))
theorem AQQ(f:List UInt8)(a:Nat):(gu f a).length=f.length:=by simp[gu]
theorem wA {c a:Nat}(b:c<256)(d:a<8):c ||| 2^a<256:=by have e:2^a<2^8:=Nat.pow_lt_pow_right (by decide) d;have:c ||| 2^a<2^8:=Kp (by simpa using b) e;simpa using this
theorem ARL {f:List UInt8}{a:Nat}(c:a / 8<f.length)(x:Nat):TJ (gu f a) x=(TJ f x||decide (x=a)):=by
 unfold TJ gu;have d:a % 8<8:=CA _ (by decide);by_cases b:x / 8=a / 8
 ·rw[b,HN c,HI,DR (wA (UInt8.toNat_lt _) d),Nat.testBit_or,Nat.testBit_two_pow];congr 1;rw[Fc,decide_eq_true_iff,decide_eq_true_iff];omega
 ·rw[Jx (by omega)];have:x≠a:=λe=>b (by rw[e])
  simp[this]
def Yq(m:Nat)(f:List UInt8)(a:A2P):List UInt8:=(List.range 4).foldl (λf i=>gu f (cN a m i)) f
theorem qV {k:A2P}{m i:Nat}(a:1<=m):cN k m i<8*m:=CA _ (by omega)
theorem Ud {k:A2P}{m:Nat}(b:1<=m): ∀(l:List Nat) (f:List UInt8),f.length=m->(l.foldl (λf i=>gu f (cN k m i)) f).length=m/\ ∀x,TJ (l.foldl (λf i=>gu f (cN k m i)) f) x=(TJ f x||l.any λi=>decide (x=cN k m i))
 | [],f,a=>⟨a,λx=>by simp⟩
 |i::l,f,a=>by
  have c:cN k m i / 8<f.length:=by have:=qV (k:=k) (i:=i) b;omega
  obtain⟨d,e⟩:=Ud (k:=k) b l (gu f (cN k m i)) (by rw[AQQ,a]);refine⟨d,λx=>?_⟩;rw[I2,e,ARL c,List.any_cons,Bool.or_assoc]
theorem AN6 {k:A2P}{m:Nat}(a:1<=m){f:List UInt8}(b:f.length=m):(Yq m f k).length=m:=(Ud a _ f b).1
theorem APa {a:A2P}{m:Nat}(b:1<=m){f:List UInt8}(c:f.length=m){x:Nat}(d:TJ f x=true):TJ (Yq m f a) x=true:=by unfold Yq;rw[(Ud b _ f c).2,d];rfl
theorem AOM {a:A2P}{m:Nat}(b:1<=m){f:List UInt8}(c:f.length=m){i:Nat}(d:i<4):TJ (Yq m f a) (cN a m i)=true:=by unfold Yq;rw[(Ud b _ f c).2,DA];right;rw[List.any_eq_true];exact⟨i,List.mem_range.2 d,by simp⟩
def NN(m:Nat):List UInt8:=List.replicate m 0
def kp(a:List A2P)(m:Nat):List UInt8:=a.foldl (Yq m) (NN m)
def nY(f:List UInt8)(a:A2P):Bool:=(List.range 4).all λi=>TJ f (cN a f.length i)
def gV(f:List UInt8)(a:A2P):Bool:=decide (f≠ [])&&decide (f.length<=8192)&&nY f a
theorem VU {m:Nat}(c:1<=m): ∀(a:List A2P) (f:List UInt8),f.length=m->(a.foldl (Yq m) f).length=m/\(∀ x,TJ f x=true->TJ (a.foldl (Yq m) f) x=true)/\ ∀k∈a,∀i,i<4->TJ (a.foldl (Yq m) f) (cN k m i)=true
 | [],f,b=>⟨b,λx d=>d,λk j=>by cases j⟩
 |k::a,f,b=>by
  have l:=AN6 (k:=k) c b;obtain⟨n,g,o⟩:=VU c a (Yq m f k) l;refine⟨n,λx d=>g x (APa c b d),λp e i h=>?_⟩;rcases List.mem_cons.1 e with rfl|e
  ·exact g _ (AOM c b h)
  ·exact o p e i h
theorem APC {b:List A2P}{m:Nat}(d:1<=m)(e:m<=8192){c:A2P}(f:c∈b):gV (kp b m) c=true:=by obtain⟨a,_,g⟩:=VU d b (NN m) (by simp[NN]);have a:(kp b m).length=m:=a;unfold gV nY;rw[a,A4,A4,decide_eq_true_iff,decide_eq_true_iff,Fl];refine⟨⟨λh=>?_,e⟩,λi j=>g c f i (List.mem_range.1 j)⟩;rw[h] at a;simp at a;omega
theorem APp {a:List A2P}{m:Nat}(b:1<=m):(kp a m).length=m:=(VU b a (NN m) (by simp[NN])).1
theorem AON(v:J0)(a:Nat):(madeCells #[v] a).toList=List.replicate a v:=by
 apply List.ext_getElem
 ·simp[madeCells]
 ·intro i b c;simp[madeCells,Nat.mod_one]
theorem wL {a:Type}{b:cF a}{c:a}{v:J0}(d:b.enc c= [v]): ∀n,(List.replicate n c).flatMap b.enc=List.replicate n v
 |0=>rfl
 |n+1=>by rw[List.replicate_succ,List.replicate_succ,AH,d,wL d n];rfl
theorem wM {e:ar}{P:Q1}{f:Type}{E:cF f}{x0:f}{v z:J0}{t T:Q7}{g:Nat}(p:P.underlying t=some (.slice T))(c:(P.info? T).map (λi=>(i.zero,i.size,i.bytes))=some (some z,1,g))
  (q:z.cells= #[v]) (h:E.w=1) (r:E.enc x0= [v]) {a:aa} {n:Nat} {j k:IntKind} (A:n*g<=140737488355328) (l:n<=maxLen) {K:Sl->aa->Prop}
  (u: ∀b,Own E T b ⟨some ⟨a.size,0,none⟩,n,n⟩ (List.replicate n x0)->Ext a b->b.size=a.size+1->K ⟨some ⟨a.size,0,none⟩,n,n⟩ b):
  BI e P (Instr.makeSlice t (.int j (n:Int)) (.int k (n:Int))) a λv b=> ∃s:Sl,v= .slice s.p s.len s.cap/\K s b:=by
 intro m;cases d:P.info? T with
 |none=>rw[d] at c;simp at c
 |some i=>
  rw[d] at c;simp only[HP,BE,LO] at c;obtain⟨w,x,y⟩:=c;have hB:((i.bytes:Nat):Int)*((n:Nat):Int)<=281474976710656:=by rw[y,<-Int.natCast_mul,CH];omega
  have o:=run_make (P:=P) (e.at a m) t T i z p d w j k (n:Int) (n:Int) (by omega) (GS _) hB (by simp only[maxLen] at l;omega);simp only[A6,x,Bk,q] at o;refine⟨_,a.push (.cells (madeCells #[v] n) T),m,o,⟨some ⟨a.size,0,none⟩,n,n⟩,rfl,u _ ⟨by simp,.inr ⟨a.size,madeCells #[v] n,rfl,by simp,A0 _,l,by simp[size_madeCells,h],?_⟩⟩ (Mod.push a _) (by simp)⟩;show(madeCells #[v] n).toList.take (n*E.w)=_;rw[AON,h,Bk,AG (by simp),wL r]
theorem wN {m:Nat}(a:m<=8192):J8 .u32 (J8 J9 ((8:Int)*((m:Nat):Int)))=((8*m:Nat):Int):=by rw[show(8:Int)*((m:Nat):Int)=((8*m:Nat):Int) by omega,Fa (by omega),wrap_u32,As (by omega)]
theorem ATH(a:A2P)(i:Nat):xK a i<4294967296:=CA _ (by decide)
theorem wO(a:A2P)(i:Nat):J8 .u32 (((xK a i:Nat):Int)+((oC a:Nat):Int))=((xK a (i+1):Nat):Int):=by rw[<- Int.natCast_add,wrap_u32];congr 1;unfold xK;rw[Nat.mod_add_mod,By,IS,HJ]
theorem wP(a:A2P):xK a 0=my a:=by unfold xK;rw[HT,G0,As (xS a)]
theorem wQ(x m:Nat):((x:Nat):Int).tmod ((m:Nat):Int)=((x % m:Nat):Int):=(Int.ofNat_tmod x m).symm
theorem wR(x:Nat):((x:Nat):Int).tdiv (8:Int)=((x / 8:Nat):Int):=(Int.ofNat_tdiv x 8).symm
theorem wS(x:Nat):((x:Nat):Int).tmod (8:Int)=((x % 8:Nat):Int):=(Int.ofNat_tmod x 8).symm
theorem wT(x:Nat):min (((x % 8:Nat):Int).toNat) (IntKind.bits .u8)=x % 8:=by rw[A6];show min (x % 8) 8=_;omega
theorem AQf {c a:Nat}(d:c<256):(Gd .u8 (((c:Nat):Int).fdiv ((2:Int)^a)) (1:Int)==(0:Int))= !(c.testBit a):=by have e:c / 2^a<256:=RM (RR _ _) d;rw[QZ,show(1:Int)=((1:Nat):Int) from rfl,y8 e (by decide),Nat.and_one_is_mod,Nat.testBit_eq_decide_div_mod_eq];generalize c / 2^a=f;rcases Nat.mod_two_eq_zero_or_one f with b|b<;>rw[b]<;>rfl
theorem ASi {c a:Nat}(d:c<256)(e:a<8):eA .u8 ((c:Nat):Int) (J8 .u8 ((1:Int)*((2:Int)^a)))=((c ||| 2^a:Nat):Int):=by
 have b:2^a<256:=by have:2^a<2^8:=Nat.pow_lt_pow_right (by decide) e;simpa using this
 have f:(1:Int)*((2:Int)^a)=((2^a:Nat):Int):=by rw[Int.one_mul,Int.natCast_pow];rfl
 rw[f,wrap_u8,As b,y7 d b]
end Go.Lf
namespace Go.Lf.G
open Go
theorem ANL {a:A2P}{i:Nat}(b:i<a.size): ∃c,a.data.toList[i]? =some c:=by
 have:i<a.data.toList.length:=by simpa using b
 exact⟨_,A2 this⟩
theorem rC {o:ar}{d:aa}{key:A2P}{h:A2O}(r:key.size<=1099511627776)(p:h (.tuple #[.int .u32 (my key:Int),.int .u32 (oC key:Int)]) d):AA o P LF #[.string key] d h:=by
 refine AEc ?_;unfold Yr;refine Loop.rule (λm x j=> ∃i:Nat,x=(((UR (key.data.toList.take i)).1:Int),((UR (key.data.toList.take i)).2:Int),(i:Int),())/\j=d/\m=key.size-i/\i<=key.size) ?_ ⟨0,rfl,rfl,rfl,by omega⟩;rintro K m _ j ⟨i,rfl,e,rfl,s⟩ q;subst e;obtain⟨k,f⟩:=xR (key.data.toList.take i);refine ag.intro (λg=>?_) (λg=>?_)
 ·have a:i<key.size:=by simpa using g
  obtain⟨c,l⟩:=ANL a;have n:c.toNat<256:=c.toNat_lt;refine⟨⟨by dsimp only;omega,by dsimp only;omega⟩,⟨by dsimp only;omega,by dsimp only;omega⟩,?_⟩;dsimp only;rw[Pd l,jP k n,ATX f n,Aa (by omega)];refine q (key.size-(i+1)) _ _ (by omega) ⟨i+1,?_,rfl,rfl,a⟩;rw[AD,l,DB,xQ]
 ·have a:i=key.size:=by simp at g;omega
  have e:key.data.toList.take i=key.data.toList:=AG (by simp[a]);dsimp only;rw[e] at k f ⊢;have:eA .u32 (((UR key.data.toList).2:Nat):Int) (1:Int)=((oC key:Nat):Int):=ASD f (b:=1) (by decide);rw[this];exact p
theorem XY {f:A2P}:bR f (⟨#[]⟩:A2P)=decide (bl f= []):=by
 rw[Fc,Ca];constructor
 ·intro a;have a:=of_decide_eq_true a;subst a;rfl
 ·intro a;have a:=of_decide_eq_true a;cases f with
  |mk b=>
   have:b= #[]:=by apply Array.toList_inj.1;exact a
   rw[this];rfl
theorem ASB {f:A2P}{i:Nat}{c:UInt8}(a:(bl f)[i]? =some c):f.data.toList[i]? =some c:=a
theorem yK {u:ar}{l:aa}{f key:A2P}{q:A2O}(v:key.size<=1099511627776)(a:q (.bool (gV (bl f) key)) l):AA u P Pg #[.string f,.string key] l q:=by
 refine AGQ ?_;unfold uy;refine aj.mk λK r=>?_
 have g:=A7 f;refine ag.intro (λe=>?_) (λe=>?_)
 ·refine r _ _ (ag.yes rfl ?_);rw[XY,decide_eq_true_iff] at e;rw[e] at a;exact a
 ·refine r _ _ ?_;rw[XY,decide_eq_false_iff_not] at e;refine ag.intro (λn=>?_) (λn=>?_)
  ·have h: ¬(bl f).length<=8192:=by simp at n;omega
   have:gV (bl f) key=false:=by unfold gV;rw[decide_eq_false h,OF,G4]
   rw[this] at a;exact a
  ·have h:f.size<=8192:=by simp at n;omega
   have w:1<=f.size:=by rw[<- g];exact List.length_pos_iff.2 e
   refine rC v ⟨_,_,rfl,?_⟩;refine Loop.rule (λm x s=> ∃i:Nat,x=(((xK key i:Nat):Int),(i:Int),())/\s=l/\m=4-i/\i<=4/\ ∀b,b<i->TJ (bl f) (cN key f.size b)=true) ?_ ⟨0,by rw[wP];rfl,rfl,rfl,by omega,λb o=>by omega⟩;rintro E m _ s ⟨i,rfl,y,rfl,F,t⟩ z;subst y;dsimp only;refine ag.intro (λp=>?_) (λp=>?_)
   ·have j:i<4:=by simp at p;omega
    have G:cN key f.size i<8*f.size:=qV w;have H:=ATH key i;rw[wN h,wQ];have A:xK key i % (8*f.size)=cN key f.size i:=rfl;rw[A,wR,wS,wT,wrap_u32,As (show cN key f.size i / 8<4294967296 by omega)];have B:cN key f.size i / 8<(bl f).length:=by rw[g];omega
    have k:(bl f)[cN key f.size i / 8]? =some (bl f)[cN key f.size i / 8]:=A2 B;obtain⟨c,k⟩: ∃c,(bl f)[cN key f.size i / 8]? =some c:=⟨_,k⟩;rw[Pd (ASB k),AQf c.toNat_lt];have C:TJ (bl f) (cN key f.size i)=c.toNat.testBit (cN key f.size i % 8):=by unfold TJ;rw[k];rfl
    refine⟨by omega,⟨by omega,by omega⟩,by omega,?_⟩;rw[<- C];refine ag.intro (λd=>?_) (λd=>?_)
    ·have d:TJ (bl f) (cN key f.size i)=false:=by simpa using d
     have:gV (bl f) key=false:=by
      unfold gV nY;rw[g];have:((List.range 4).all λi=>TJ (bl f) (cN key f.size i))=false:=by rw[List.all_eq_false];exact⟨i,List.mem_range.2 j,by simp[d]⟩
      simp[this]
     rw[this] at a;exact a
    ·have d:TJ (bl f) (cN key f.size i)=true:=by simpa using d
     rw[wO,Aa (by omega)];refine z (4-(i+1)) _ _ (by omega) ⟨i+1,rfl,rfl,rfl,j,λb o=>?_⟩;by_cases D:b=i
     ·subst D;exact d
     ·exact t b (by omega)
   ·have j:i=4:=by simp at p;omega
    have:gV (bl f) key=true:=by unfold gV nY;rw[g,A4,A4,decide_eq_true_iff,decide_eq_true_iff,Fl];exact⟨⟨e,h⟩,λb o=>t b (by rw[j];exact List.mem_range.1 o)⟩
    rw[this] at a;exact a
theorem yL:(P.info? Di).map (λi=>(i.zero,i.size,i.bytes))=some (some (.int .u8 0),1,1):=by kernel_rfl
theorem VQ:P.underlying Cs=some (.slice Di):=by kernel_rfl
theorem yM:P.underlying Di=some (.int .u8):=by kernel_rfl
theorem yN:P.underlying BC=some .string:=by kernel_rfl
theorem AQR {Q:ar}{e:aa}{s:Sl}{ks:List A2P}{m:Nat}{G:A2O}(y:View IW e s ks)(R: ∀d∈ks,d.size<=1099511627776)(z:1<=m)(S:m<=8192)(aq:ks.length<=1099511627776)(g: ∀b,s.ai=some b->b<e.size)
  (T: ∀H,Ext e H->G (.tuple #[.string (AX (kp ks m)),.int J9 0]) H):AA Q P OA #[.slice s.p s.len s.cap,.int J9 (m:Int)] e G:=by
 refine AET ?_;unfold YZ;refine aj.mk λK U=>?_
 refine ag.no (by simp;omega) ?_;refine U _ _ (ag.no (by simp;omega) ?_);refine wM (E:=GL) (x0:=0) (v:= .int .u8 0) VQ yL rfl rfl rfl (by omega) (by simp only[maxLen];omega) λI J t au=>?_
 have V:List.replicate m (0:UInt8)=NN m:=rfl;rw[V] at J;dsimp only;refine Loop.rule (λk x n=> ∃i:Nat,x=((i:Int),())/\k=ks.length-i/\i<=ks.length/\Mod (λc=>c=e.size) I n/\Own GL Di n ⟨some ⟨e.size,0,none⟩,m,m⟩ ((ks.take i).foldl (Yq m) (NN m))) ?_ ⟨0,rfl,rfl,by omega,Mod.refl,J⟩;rintro av k _ n ⟨i,rfl,rfl,aw,u,o⟩ W;have X:View IW n s ks:=(y.ext t).mod u λb Y=>by have:=g b Y;omega
 dsimp only;refine ag.intro (λp=>?_) (λp=>?_)
 ·have q:i<ks.length:=by rw[y.len] at p;simp at p;omega
  have A:ks[i]? =some ks[i]:=A2 q;refine X.idx A λa ax h=>?_
  refine AJ.mk h.str ?_;refine rC (R _ (AW q)) ⟨_,_,rfl,?_⟩;have L:ks.take (i+1)=ks.take i++ [ks[i]]:=by rw[AD,A];rfl
  generalize ks[i]=d at A L;have M:((ks.take i).foldl (Yq m) (NN m)).length=m:=(VU z (ks.take i) (NN m) (by simp[NN])).1;generalize Z:(ks.take i).foldl (Yq m) (NN m)=w at o M;refine Loop.rule (λk x B=> ∃j:Nat,x=(((xK d j:Nat):Int),(j:Int),())/\k=4-j/\j<=4/\Mod (λc=>c=e.size) I B/\Own GL Di B ⟨some ⟨e.size,0,none⟩,m,m⟩ ((List.range j).foldl (λf i=>gu f (cN d m i)) w)) ?_ ⟨0,by rw[wP];rfl,rfl,by omega,u,o⟩;rintro ay k _ B ⟨j,rfl,rfl,az,N,r⟩ ab;dsimp only;refine ag.intro (λC=>?_) (λC=>?_)
  ·have D:j<4:=by simp at C;omega
   have aA:cN d m j<8*m:=qV z;have ac:xK d j % (8*m)=cN d m j:=rfl;rw[wN S,wQ,ac,wR,wS,wT,wrap_u32,As (show cN d m j / 8<4294967296 by omega)];have ad:((List.range j).foldl (λf i=>gu f (cN d m i)) w).length=m:=(Ud z _ w M).1;generalize ae:(List.range j).foldl (λf i=>gu f (cN d m i)) w=F at r ad;have ah:F[cN d m j / 8]? =some F[cN d m j / 8]:=A2 (by omega);obtain⟨c,h⟩: ∃c,F[cN d m j / 8]? =some c:=⟨_,ah⟩;refine⟨by omega,?_⟩;refine r.view.idx h λaC aD af=>?_
   rw[A6];refine AC.mk af.byte ⟨by omega,?_⟩;refine r.view.idx h λO ai aE=>?_
   have ak:=ASi c.toNat_lt (show cN d m j % 8<8 by omega);rw[ak];have al:=wA c.toNat_lt (show cN d m j % 8<8 by omega);rw[wO,Aa (by omega),<-add_zero (O.add (cN d m j / 8*1))];refine Own.store (E:=GL) (i:=cN d m j / 8) (j:=0) (x:=c) (x':=Bq (c.toNat ||| 2^(cN d m j % 8))) (v:= .int .u8 ((c.toNat ||| 2^(cN d m j % 8):Nat):Int)) r h (by show [Value.int .u8 _]=_;rw[DR al];rfl) (by decide) (λaF am an aG=>?_) O ai;refine ab (4-(j+1)) _ _ (by omega) ⟨j+1,rfl,rfl,D,N.trans (an.ak λb _ g=>?_),?_⟩
   ·simp[Sl.ai] at g;exact g.symm
   ·rw[N6,Hi,ae,I2,N3];unfold gu;rw[h];exact am
  ·have D:j=4:=by simp at C;omega
   subst D;rw[Aa (by omega)];refine W (ks.length-(i+1)) _ _ (by omega) ⟨i+1,rfl,rfl,q,N,?_⟩;rw[L,Hi,Z];exact r
 ·have q:i=ks.length:=by rw[y.len] at p;simp at p;omega
  have ao:ks.take i=ks:=by rw[q];simp
  rw[ao] at o;have ap:((ks.foldl (Yq m) (NN m)))=kp ks m:=rfl;rw[ap] at o;refine JQ VQ yM yN (s:=⟨some ⟨e.size,0,none⟩,m,m⟩) (l:=kp ks m) o.view ⟨_,rfl,?_⟩;exact T n ⟨by have:=t.size;have:=u.size;omega,λb g _=>(u.get b (by have:=t.size;omega) (by omega)).trans (t.get b g (by simp))⟩
end Go.Lf.G
namespace Go.Lf
open Go
structure La (p:Pr):Prop where
 key:p.key.size≠0
 bL:p.key.size<=64
 cq:p.val.size<=8192
 gone:p.gone=true->p.val.size=0
def Ii(p:Pr):Nat:=if p.gone then 0 else p.val.size+1
def Ij(p:Pr):List UInt8:=BR (bl p.key)++(Bc (Ii p)++bl p.val)
abbrev BP(l:List Pr):List UInt8:=l.flatMap Ij
theorem Tz {s:A2P}(a:s.size=0):bl s= []:=CC (by rw[A7];exact a)
theorem wx {p:Pr}(a:La p)(t:List UInt8):GV ⟨Ij p++t,false⟩=(bl p.key,⟨Bc (Ii p)++bl p.val++t,false⟩):=by
 have c:=a.bL;have b:Ij p++t=BR (bl p.key)++(Bc (Ii p)++bl p.val++t):=by simp[Ij,A3]
 rw[b];exact IR (by rw[A7];omega) _
theorem ZC {p:Pr}(a:La p):Ii p<=8193:=by have:=a.cq;unfold Ii;split<;>omega
theorem wy {p:Pr}(a:La p)(t:List UInt8):CQ 8193 ⟨Bc (Ii p)++bl p.val++t,false⟩=(Ii p,⟨bl p.val++t,false⟩):=by rw[A3];have:=ZC a;exact CP (by omega) this _
theorem wz {p:Pr}(a:La p)(t:List UInt8):KP (Ii p-1) ⟨bl p.val++t,false⟩=(bl p.val,⟨t,false⟩):=by
 have b:Ii p-1=(bl p.val).length:=by
  rw[A7];unfold Ii;split
  ·rename_i c;rw[a.gone c]
  ·omega
 rw[b];exact xZ _ _
theorem QL {p:Pr}(a:La p):1<=(Ij p).length/\(Ij p).length<=p.key.size+p.val.size+20:=by have b:=a.bL;have c:=a.cq;have d:=AV (n:=(bl p.key).length) (by rw[A7];omega);have e:=ZC a;have f:=AV (n:=Ii p) (by omega);have g:=a.key;have h:=A7 p.key;have i:=A7 p.val;simp only[Ij,BR,A1];omega
end Go.Lf
namespace Go.Lf.G
open Go
theorem G5:QE P AQ AR BQ.w 40=true:=by kernel_rfl
theorem ARP {e:ar}{a:aa}{b:Nat}{c:Rd}{d:A2O}(f:Ib a b c)(g:d (J3 c.bad) a):AA e P Km #[Aq b] a d:=by refine Wn ?_;unfold Pq;refine ag.no rfl (aE ?_);exact Ac.mk (AB f rfl) g
theorem VW {A:ar}{h:aa}{s:A2P}{R:A2O}(b:s.size<=1099511627776)(c: ∀a,Ext h a->R (J7 (AX (BR (bl s)))) a):AA A P CB #[J7 s] h R:=by have:=Qw (A:=A) (h:=h) (l:=bl s) (R:=R) (by rw[A7];exact b) c;rwa [EE] at this
theorem yO {a:Nat}(b:a<=1099511627776):J8 .u64 ((J8 .u64 (a:Int))+(1:Int))=((a+1:Nat):Int):=by rw[CF (by omega),show((a:Int)+1)=((a+1:Nat):Int) by omega,CF (by omega)]
theorem Zv {s:A2P}(a:s.size=0):s=⟨#[]⟩:=by have:=EE s;rw[<- this,show s.data.toList= [] from Tz a];rfl
theorem Am {a c:aa}{b:Nat}{d:Array J0}{T:Q7}(x:Ext a c)(e:a[b]? =some (J2 d T (0,0))):c[b]? =some (J2 d T (0,0)):=x.ai e (λa=>a)
theorem AOk {l:ar}{e:aa}{x:Pr}{f:A2O}(h:La x)(m: ∀o,Ext e o->f (J7 (AX (Ij x))) o):AA l P Nv #[x.agg] e f:=by
 obtain⟨a,v,g⟩:=x;have r:=h.bL;have s:=h.cq;have p:=h.gone;dsimp only at r s p;show AA l P Nv #[.agg #[J7 a,J7 v,J3 g]] e f;refine AEQ ?_;unfold Xd;refine ao.mk λz _ b q A=>?_
 refine Ac.mk (AB b rfl) ?_;have B:=AV (n:=(bl a).length) (by rw[A7];omega);have C:=A7 a;have D:=A7 v;refine ag.intro (λi=>?_) (λi=>?_)
 ·subst i;refine AJ.mk (AO b rfl) ?_;refine VW (by omega) λt c=>⟨_,rfl,?_⟩
  refine Cc (n:=0) (by omega) λu d=>⟨_,rfl,?_⟩
  have w:=AV (n:=0) (by omega);refine⟨by rw[AP,AP,max_i64];simp only[BR,A1];omega,?_⟩;rw[Aj];have j:Ij ⟨a,v,true⟩=BR (bl a)++Bc 0:=by unfold Ij Ii;rw[Tz (p rfl)];simp
  rw[<- j];exact m _ ((q.trans c).trans d)
 ·subst i;refine AJ.mk (AO b rfl) (AJ.mk (AB b rfl) (AJ.mk (AB b rfl) ?_));refine VW (by omega) λt c=>⟨_,rfl,?_⟩
  have k:=Am c b;refine⟨AB k rfl,AB k rfl,?_⟩;rw[yO (by omega)];refine Cc (by omega) λu d=>⟨_,rfl,?_⟩
  have y:=Am d k;have w:=AV (n:=v.size+1) (by omega);refine⟨AB y rfl,by rw[AP,AP,max_i64];simp only[BR,A1];omega,?_,?_⟩
  ·rw[Aj,AP,max_i64];simp only[BR,A1];omega
  ·rw[Aj];have j:AX (BR (bl a)++Bc (v.size+1))++v=AX (Ij ⟨a,v,false⟩):=by
    have:v=AX (bl v):=(EE v).symm
    conv=>lhs;arg 2;rw[this]
    rw[Aj];unfold Ij Ii;simp[A3]
   rw[j];exact m _ ((q.trans c).trans d)
theorem yP {s:A2P}(a:s.size≠0):bR s (⟨#[]⟩:A2P)=false:=by rw[XY,decide_eq_false_iff_not];intro b;have:=A7 s;rw[b] at this;exact a this.symm
theorem yQ {a:Nat}(b:a<=100000):(if((J8 J9 (((a:Nat):Int)-(1:Int))):Int)>0 then(J8 J9 (((a:Nat):Int)-(1:Int))) else 0)=((a-1:Nat):Int):=by rw[wrap_i64 (by omega) (by omega)];split<;>omega
theorem ZG {l:List Pr}(a: ∀x∈l,La x):l.length<=(BP l).length:=by
 induction l with
 |nil=>simp
 |cons x l b=>
  have:=(QL (a x Cl)).1;have:=b λc d=>a c (AF _ d)
  simp only[BP,AH,A1,A5] at this ⊢;omega
theorem rD {ae:ar}{c:aa}{l:List Pr}{I:A2O}(J: ∀x∈l,La x)(aN:(BP l).length<1099511627776)
  (ah: ∀s z,Own BQ AR z s l->Ext c z->(∀ b,s.ai=some b->c.size<=b)->I (J1 #[J4 s.p s.len s.cap,J3 true]) z):AA ae P Jt #[J7 (AX (BP l))] c I:=by
 refine ADG ?_;unfold V8;refine Jo λaO ai ak=>⟨_,rfl,?_⟩
 have aP:=ZG J;refine Loop.rule (λm x f=> ∃(i:Nat) (s:Sl),x=(s,())/\m=l.length-i/\i<=l.length/\Ib f c.size ⟨BP (l.drop i),false⟩/\Ext c f/\Own BQ AR f s (l.take i)/\ ∀b,s.ai=some b->c.size<=b) ?_ ⟨0,⟨none,0,0⟩,rfl,rfl,by omega,ai,ak,Own.nil,λb a=>by simp[Sl.ai] at a⟩;rintro K m _ f ⟨i,s,rfl,rfl,aQ,rd,t,p,A⟩ al;dsimp only;refine MS rd ⟨_,rfl,?_⟩;by_cases g:i<l.length
 ·have L:l[i]? =some l[i]:=A2 g;have M:l[i]∈l:=AW g;have hd:l.drop i=l[i]::l.drop (i+1):=DP g;have N:l.take (i+1)=l.take i++ [l[i]]:=by rw[AD,L];rfl
  generalize l[i]=x at L M hd N;have h:=J x M;have O:BP (l.drop i)=Ij x++BP (l.drop (i+1)):=by rw[hd];rfl
  have Q:(Ij x++BP (l.drop (i+1))).length<1099511627776:=by
   have e:BP l=BP (l.take i)++BP (l.drop i):=by rw[<- Ge,CN]
   have:=congrArg List.length e;rw[O,A1] at this;omega
  have aR:=QL h;rw[O] at rd ⊢;refine ag.yes ?_ ?_
  ·unfold Yb;have:(Ij x++BP (l.drop (i+1)))≠ []:=by intro e;have:=congrArg List.length e;simp only[A1,GO] at this;omega
   simp only[Lo,FG,CI,List.isEmpty_eq_false_iff];exact this
  ·refine G7 rd Q λd u B=>⟨_,rfl,?_⟩
   rw[wx h] at u ⊢;dsimp only at u ⊢;rw[EE];refine ao.mk λam _ an R aS=>?_
   refine af.mk an (by simp) λaT ap S aU=>?_
   rw[Bf,Bf];refine af.mk ap (by simp) λaV aq T aW=>?_
   refine af.mk aq (by simp) λau av U aX=>?_
   have aY:c.size<d.size:=by have:=Ah u;exact this
   have j:c.size≠d.size:=by omega
   have aw:Ib au c.size ⟨Bc (Ii x)++bl x.val++BP (l.drop (i+1)),false⟩:=U.ai (T.ai (S.ai (R.ai u (λc=>c)) j) j) j;have ax:(Bc (Ii x)++bl x.val++BP (l.drop (i+1))).length<=1099511627776:=by simp only[Ij,A1] at Q ⊢;omega
   refine DN (most:=8193) aw ax (by decide) λC v V=>⟨_,rfl,?_⟩
   rw[wy h] at v ⊢;dsimp only at v ⊢;have W:C[d.size]? =some (J2 #[J7 x.key,J7 ⟨#[]⟩,J3 false] AR (0,0)):=V.ai (by simpa using av) (Ne.symm j);refine aj.mk λay az=>?_
   have aZ:=ZC h;have key: ∀q,Ib q c.size ⟨bl x.val++BP (l.drop (i+1)),false⟩->q[d.size]? =some (J2 #[J7 x.key,J7 ⟨#[]⟩,J3 x.gone] AR (0,0))->Mod (λb=>b=c.size\/b=d.size) d q->ay () q:=by
    intro q aA aC aD;refine az () q ?_;rw[yQ (by omega)];refine rn aA λa0 D X=>⟨_,rfl,?_⟩
    rw[wz h] at D ⊢;dsimp only at D ⊢;rw[EE];have aE:=X.ai aC (Ne.symm j);refine af.mk aE (by simp) λr k Y a1=>?_
    have F:Ib r c.size ⟨BP (l.drop (i+1)),false⟩:=Y.ai D j;have k:r[d.size]? =some (J2 #[J7 x.key,J7 x.val,J3 x.gone] AR (0,0)):=by simpa using k
    refine aj.mk λa2 aF=>?_
    refine ARP F ⟨_,rfl,?_⟩;refine ag.no rfl ?_;refine AJ.mk (AO k rfl) ?_;refine ag.no (yP h.key) ?_;refine AJ.mk (AO k rfl) ?_;have a3:=h.bL;refine aF _ _ (ag.no (by simp;omega) ?_);refine AJ.mk (AO k rfl) ?_;refine AJ.mk (AO k rfl) ?_;refine Ac.mk (AO k rfl) ?_;have w:Mod (λb=>b=c.size\/b=d.size) f r:=by
     have G:Mod (λb=>b=c.size\/b=d.size) f d:=B.ak λb _ a=> .inl a
     exact((G.trans aD).trans (X.ak λb _ a=> .inl a)).trans (Y.ak λb _ a=> .inr a)
    have Z: ∀b,s.ai=some b-> ¬(b=c.size\/b=d.size):=by
     intro b a;have a4:=p.lt a;have aG:=B.size;rintro(rfl|rfl)
     ·exact p.ne rd (by decide) a
     ·omega
    refine ao.aZ (E:=BQ) (x:=x) rfl G5 (p.mod w Z) ?_ ?_ λaH a5 ab H aI a6=>?_
    ·rw[Ax];omega
    ·simp only[maxLen];rw[Ax];omega
    ·rw[<- N] at ab;have y:Ext c r:=by refine⟨by have:=t.size;have:=w.size;omega,λb a _=>?_⟩;have aG:=B.size;have:=t.size;exact(w.get b (by omega) (by omega)).trans (t.get b a (λc=>c))
     refine al (l.length-(i+1)) _ _ (by omega) ⟨i+1,aH,rfl,rfl,g,?_,?_,ab,?_⟩
     ·refine H.ai F λe=>?_
      have:Own BQ AR r s (l.take i):=p.mod w Z;exact this.ne F (by decide) e
     ·refine⟨by have:=y.size;have:=H.size;omega,λb a _=>?_⟩;have:=y.size;exact(H.get b (by omega) (λe=>by have:=A b e;omega)).trans (y.get b a (λc=>c))
     ·intro b a;rcases aI b a with e|e
      ·exact A b e
      ·have:=y.size;omega
   have ac:Mod (λb=>b=c.size\/b=d.size) d C:=by have G:Mod (λb=>b=c.size\/b=d.size) d am:=R.mod;exact(((G.trans (S.ak λb _ a=> .inr a)).trans (T.ak λb _ a=> .inr a)).trans (U.ak λb _ a=> .inr a)).trans (V.ak λb _ a=> .inl a)
   refine ag.intro (λn=>?_) (λn=>?_)
   ·have o:x.gone=true:=by
     unfold Ii at n;split at n
     ·rename_i o;exact o
     ·simp at n;omega
    refine af.mk W (by simp) λaJ aK ad a7=>?_
    refine key aJ (ad.ai v j) (by rw[o];simpa using aK) (ac.trans (ad.ak λb _ a=> .inr a))
   ·have o:x.gone=false:=by
     cases o:x.gone with
     |false=>rfl
     |true=>unfold Ii at n;rw[o] at n;simp at n
    exact key C v (by rw[o];exact W) ac
 ·have g:i=l.length:=by omega
  have aL:l.drop i= []:=by rw[g];simp
  have aM:l.take i=l:=by rw[g];simp
  rw[aL];rw[aM] at p;exact ag.no rfl (ah s f p t A)
def BV(a:Nat)(l:List Pr):List UInt8:=Bc a++Bc l.length++BP l
theorem Lt {l:List Pr}(b: ∀x∈l,La x):(BP l).length<=l.length*8276:=by
 induction l with
 |nil=>simp
 |cons x l c=>
  have a:=b x Cl;have f:=(QL a).2;have g:=a.bL;have h:=a.cq;have:=c λd e=>b d (AF _ e)
  simp only[BP,AH,A1,A5] at this ⊢;omega
theorem ARX {l:List Pr}(a: ∀x∈l,La x)(i:Nat): ∀x∈l.take i,La x:=λx b=>a x (DM b)
theorem APF {C:ar}{f:aa}{s:Sl}{l:List Pr}{c:Nat}{t:A2O}(X:c<=99999999)(Y:l.length<=64)(u: ∀x∈l,La x)(v:View BQ f s l)(Z: ∀b,s.ai=some b->b<f.size)
  (D: ∀d,Ext f d->t (J7 (AX (BV c l))) d):AA C P TV #[J6 J9 (c:Int),J4 s.p s.len s.cap] f t:=by
 refine AG3 ?_;unfold uw;rw[CF (by omega)];refine Cc (by omega) λab E=>⟨_,rfl,?_⟩
 rw[v.len,CF (by omega)];refine Cc (by omega) λac F=>⟨_,rfl,?_⟩
 have ad:=AV (n:=c) (by omega);have ae:=AV (n:=l.length) (by omega);refine⟨by rw[AP,AP,max_i64];omega,?_⟩;rw[Aj];refine Loop.rule (λm x o=> ∃i:Nat,x=(AX (Bc c++Bc l.length++BP (l.take i)),(i:Int),())/\m=l.length-i/\i<=l.length/\Ext f o) ?_ ⟨0,by simp,rfl,by omega,E.trans F⟩;rintro K m _ o ⟨i,rfl,rfl,af,p⟩ G;dsimp only;refine ag.intro (λq=>?_) (λq=>?_)
 ·have e:i<l.length:=by simp at q;omega
  have r:l[i]? =some l[i]:=A2 e;have w:l.take (i+1)=l.take i++ [l[i]]:=by rw[AD,r];rfl
  have h:=u _ (AW e);generalize l[i]=x at r w h;have ah:=h.bL;have ai:=h.cq;have H:=h.gone;have lt:=Lt (ARX u i);rw[Ax] at lt;have ak:=AV (n:=(bl x.key).length) (by rw[A7];omega);have al:=A7 x.key;have am:=A7 x.val;refine aj.mk λI J=>?_
  obtain⟨a,L,M⟩:=(v.ext p).cells i x r;refine bJ.mk L e ?_;obtain⟨N,O,c2⟩:=M.pair;rw[A6];refine AJ.mk N (AJ.mk O (Ac.mk c2 ?_));refine ao.pair λb an ap y Q aq=>?_
  refine AJ.mk (AO y rfl) ?_;refine VW (by omega) λR z=>⟨_,rfl,⟨by rw[AP,AP,max_i64];simp only[BR,A1];omega,?_⟩⟩
  have j:=Am z y;refine Ac.mk (AB j rfl) ?_;rw[Aj];have fin: ∀d,Ext R d->I (AX (Bc c++Bc l.length++BP (l.take (i+1))),()) d:=by intro d S;refine J _ _ ?_;dsimp only;rw[Aa (by omega)];exact G (l.length-(i+1)) _ _ (by omega) ⟨i+1,rfl,rfl,e,((p.trans Q).trans z).trans S⟩
  have A:BP (l.take (i+1))=BP (l.take i)++Ij x:=by rw[w];simp[BP]
  refine ag.intro (λk=>?_) (λk=>?_)
  ·refine Cc (n:=0) (by omega) λT U=>⟨_,rfl,?_⟩
   have V:=AV (n:=0) (by omega);refine⟨by rw[AP,AP,max_i64];simp only[BR,A1];omega,?_⟩;rw[Aj];have g:Ij x=BR (bl x.key)++Bc 0:=by unfold Ij Ii;rw[k,Tz (H k)];simp
   have:=fin T U;rw[A,g] at this;simpa only[A3] using this
  ·refine AJ.mk (AB j rfl) (AJ.mk (AB j rfl) ?_);rw[yO (by omega)];refine Cc (by omega) λW B=>⟨_,rfl,?_⟩
   have V:=AV (n:=x.val.size+1) (by omega);refine⟨AB (Am B j) rfl,?_,?_,?_⟩
   ·rw[AP,max_i64];omega
   ·have au:x.val=AX (bl x.val):=(EE _).symm;rw[Kf,AP,AP,max_i64];simp only[BR,A1];omega
   ·have g:AX (Bc (x.val.size+1))++x.val=AX (Bc (Ii x)++bl x.val):=by
     conv=>lhs;arg 2;rw[(EE x.val).symm]
     rw[Aj];unfold Ii;rw[k];rfl
    rw[g,Aj];have:=fin W B;rw[A] at this;unfold Ij at this;simpa only[A3] using this
 ·have e:i=l.length:=by simp at q;omega
  have g:l.take i=l:=by rw[e];simp
  rw[g];exact D o p
theorem AKC {ah:ar}{c:aa}{l:List Pr}{o:Nat}{I:A2O}(aM:o<=99999999)(aN:l.length<=64)(J: ∀x∈l,La x)
  (ai: ∀s y,Own BQ AR y s l->Ext c y->(∀ b,s.ai=some b->c.size<=b)->I (J1 #[J6 J9 (o:Int),J4 s.p s.len s.cap,J3 true]) y):AA ah P QA #[J7 (AX (BV o l))] c I:=by
 refine AEE ?_;unfold WW;have aO:=AV (n:=o) (by omega);have aP:=AV (n:=l.length) (by omega);have aQ:=Lt J;refine Jo λaR L z=>⟨_,rfl,?_⟩
 have A:BV o l=Bc o++(Bc l.length++BP l):=by simp[BV,A3]
 rw[A] at L;refine DN (most:=99999999) L (by simp only[A1];omega) (by decide) λd e g=>⟨_,rfl,?_⟩
 rw[CP (by omega) (by omega)] at e ⊢;dsimp only at e ⊢;refine DN (most:=64) e (by simp only[A1];omega) (by decide) λaj B M=>⟨_,rfl,?_⟩
 rw[CP (by omega) (by omega)] at B ⊢;dsimp only at B ⊢;have ak:Ext c aj:=by refine⟨by have:=z.size;have:=g.size;have:=M.size;omega,λb a _=>?_⟩;have:=z.size;have:=g.size;exact((M.get b (by omega) (by omega)).trans (g.get b (by omega) (by omega))).trans (z.get b a (λc=>c))
 refine Loop.rule (λm x h=> ∃(i:Nat) (s:Sl),x=(s,(i:Int),())/\m=l.length-i/\i<=l.length/\Ib h c.size ⟨BP (l.drop i),false⟩/\Ext c h/\Own BQ AR h s (l.take i)/\ ∀b,s.ai=some b->c.size<=b) ?_ ⟨0,⟨none,0,0⟩,rfl,rfl,by omega,B,ak,Own.nil,λb a=>by simp[Sl.ai] at a⟩;rintro K m _ h ⟨i,s,rfl,rfl,aS,rd,t,p,C⟩ al;dsimp only;refine ag.intro (λD=>?_) (λD=>?_)
 ·have j:i<l.length:=by simp at D;omega
  have N:l[i]? =some l[i]:=A2 j;have O:l[i]∈l:=AW j;have hd:l.drop i=l[i]::l.drop (i+1):=DP j;have Q:l.take (i+1)=l.take i++ [l[i]]:=by rw[AD,N];rfl
  generalize l[i]=x at N O hd Q;have u:=J x O;have R:BP (l.drop i)=Ij x++BP (l.drop (i+1)):=by rw[hd];rfl
  have S:(Ij x++BP (l.drop (i+1))).length<1099511627776:=by
   have f:BP l=BP (l.take i)++BP (l.drop i):=by rw[<- Ge,CN]
   have:=congrArg List.length f;rw[R,A1] at this;omega
  rw[R] at rd;refine G7 rd S λd e g=>⟨_,rfl,?_⟩
  rw[wx u] at e ⊢;dsimp only at e ⊢;rw[EE];refine ao.mk λam _ an T aT=>?_
  refine af.mk an (by simp) λaU ap U aV=>?_
  rw[Bf,Bf];refine af.mk ap (by simp) λaW aq V aX=>?_
  refine af.mk aq (by simp) λau av W aY=>?_
  have aZ:c.size<d.size:=by have:=Ah e;exact this
  have k:c.size≠d.size:=by omega
  have aw:Ib au c.size ⟨Bc (Ii x)++bl x.val++BP (l.drop (i+1)),false⟩:=W.ai (V.ai (U.ai (T.ai e (λc=>c)) k) k) k;have ax:(Bc (Ii x)++bl x.val++BP (l.drop (i+1))).length<=1099511627776:=by simp only[Ij,A1] at S ⊢;omega
  refine DN (most:=8193) aw ax (by decide) λay F X=>⟨_,rfl,?_⟩
  rw[wy u] at F ⊢;dsimp only at F ⊢;have az:ay[d.size]? =some (J2 #[J7 x.key,J7 ⟨#[]⟩,J3 false] AR (0,0)):=X.ai (by simpa using av) (Ne.symm k);have a0:=ZC u;have aA:(((Ii x:Nat):Int)==(0:Int))=x.gone:=by
   unfold Ii;cases x.gone
   ·simp;omega
   ·simp
  rw[aA];refine af.mk az (by simp) λaC aD Y a1=>?_
  rw[yQ (by omega)];have aE:Ib aC c.size ⟨bl x.val++BP (l.drop (i+1)),false⟩:=Y.ai F k;refine rn aE λa2 G Z=>⟨_,rfl,?_⟩
  rw[wz u] at G ⊢;dsimp only at G ⊢;rw[EE];have aF:=Z.ai aD (Ne.symm k);refine af.mk aF (by simp) λq r ab a3=>?_
  have ac:Ib q c.size ⟨BP (l.drop (i+1)),false⟩:=ab.ai G k;have r:q[d.size]? =some (J2 #[J7 x.key,J7 x.val,J3 x.gone] AR (0,0)):=by simpa using r
  refine AJ.mk (AO r rfl) ?_;refine AJ.mk (AO r rfl) ?_;refine Ac.mk (AO r rfl) ?_;have v:Mod (λb=>b=c.size\/b=d.size) h q:=by
   have aG:Mod (λb=>b=c.size\/b=d.size) h d:=g.ak λb _ a=> .inl a
   have aH:Mod (λb=>b=c.size\/b=d.size) d am:=T.mod;exact((((((((aG.trans aH).trans (U.ak λb _ a=> .inr a)).trans (V.ak λb _ a=> .inr a)).trans (W.ak λb _ a=> .inr a)).trans (X.ak λb _ a=> .inl a)).trans (Y.ak λb _ a=> .inr a)).trans (Z.ak λb _ a=> .inl a))).trans (ab.ak λb _ a=> .inr a)
  have ad: ∀b,s.ai=some b-> ¬(b=c.size\/b=d.size):=by
   intro b a;have a4:=p.lt a;have aI:=g.size;rintro(rfl|rfl)
   ·exact p.ne rd (by decide) a
   ·omega
  refine ao.aZ (E:=BQ) (x:=x) rfl G5 (p.mod v ad) ?_ ?_ λaJ a5 ae H aK a6=>?_
  ·rw[Ax];omega
  ·simp only[maxLen];rw[Ax];omega
  ·rw[<- Q] at ae;have w:Ext c q:=by refine⟨by have:=t.size;have:=v.size;omega,λb a _=>?_⟩;have aI:=g.size;have:=t.size;exact(v.get b (by omega) (by omega)).trans (t.get b a (λc=>c))
   rw[Aa (by omega)];refine al (l.length-(i+1)) _ _ (by omega) ⟨i+1,aJ,rfl,rfl,j,?_,?_,ae,?_⟩
   ·refine H.ai ac λf=>?_
    have:Own BQ AR q s (l.take i):=p.mod v ad;exact this.ne ac (by decide) f
   ·refine⟨by have:=w.size;have:=H.size;omega,λb a _=>?_⟩;have:=w.size;exact(H.get b (by omega) (λf=>by have:=C b f;omega)).trans (w.get b a (λc=>c))
   ·intro b a;rcases aK b a with f|f
    ·exact C b f
    ·have:=w.size;omega
 ·have j:i=l.length:=by simp at D;omega
  have A:l.drop i= []:=by rw[j];simp
  have aL:l.take i=l:=by rw[j];simp
  rw[A] at rd;rw[aL] at p;refine MS rd ⟨_,rfl,?_⟩;exact ai s h p t C
end Go.Lf.G
namespace Go.Lf
open Go
def CG(l:List Pr)(i:Nat):List Pr:=(l.drop (8*i)).take 8
def Bt(l:List Pr):Nat:=(l.length+7) / 8
def KZ(l:List Pr):List (List Pr):=(List.range (Bt l)).map (CG l)
def Iu(l:List Pr)(i:Nat):A2P:=match l[i]? with|some p=>p.key|none=>⟨#[]⟩
def CU(l:List Pr):List A2P:=(List.range (Bt l)).map λi=>Iu l (8*i)
def Vj(l:List Pr)(f:List UInt8):List UInt8:=Bc (Bt l)++((CU l).flatMap λa=>BR (bl a))++(Bc l.length++BR f)
def aU(l:List Pr)(f:List UInt8):List (List UInt8):=(KZ l).map BP++ [Vj l f]
theorem Qh {l:List Pr}{i:Nat}(a:i<Bt l):1<=(CG l i).length/\(CG l i).length<=8/\(i+1<Bt l->(CG l i).length=8):=by
 unfold CG Bt at*
 rw[Ax,DG];omega
theorem QJ {l:List Pr}{i j:Nat}(a:j<8):(CG l i)[j]? =l[8*i+j]? :=by unfold CG;rw[Ek,if_pos a,C5]
theorem wB {l:List Pr}: ∀i,l.take (8*i)++CG l i=l.take (8*(i+1)):=λi=>by
 unfold CG;rw[show 8*(i+1)=8*i+8 by omega,List.take_add]
theorem wC(l:List Pr): ∀n,((List.range n).map (CG l)).flatten=l.take (8*n)
 |0=>by simp
 |n+1=>by rw[N6,Bm,Nd,wC l n];simpa using wB n
theorem AM6(l:List Pr):(KZ l).flatten=l:=by unfold KZ;rw[wC,AG];unfold Bt;omega
theorem I7(l:List Pr):(KZ l).length=Bt l:=by simp[KZ]
theorem Hm(l:List Pr):(CU l).length=Bt l:=by simp[CU]
theorem wE {l:List Pr}(a:l≠ []):1<=Bt l:=by have:=List.length_pos_iff.2 a;unfold Bt;omega
structure gW (s:List UInt8) (l:List Pr) (f:List UInt8):Prop where
 bytes:s=aK (aU l f)
 ne:l≠ []
 ok: ∀p∈l,La p
 inc:l.Pairwise λp q=>aO p.key q.key=true
 jz:1<=f.length/\f.length<=8192
 has: ∀p∈l,gV f p.key=true
 many:l.length<=100000
theorem ZG {l:List Pr}(a: ∀p∈l,La p):(BP l).length<=l.length*8276:=by
 induction l with
 |nil=>simp
 |cons p l b=>
  have f:=(QL (a p (by simp))).2;have c:=b λd e=>a d (AF _ e)
  have g:=(a p (by simp)).bL;have h:=(a p (by simp)).cq;simp only[BP,AH,A1,A5] at c ⊢;omega
theorem Pp {l:List Pr}{i:Nat}{p:Pr}(a:p∈CG l i):p∈l:=HX (DM a)
theorem X9 {s:List UInt8}{l:List Pr}{f:List UInt8}(T:gW s l f):(Vj l f).length<=1048576:=by
 have r:=T.many;have t:=T.jz.2;have u:=AV (n:=Bt l) (by unfold Bt;omega);have v:=AV (n:=l.length) (by omega);have w:=AV (n:=f.length) (by omega);have c: ∀a∈CU l,a.size<=64:=λa c=>by
  obtain⟨i,_,rfl⟩:=List.mem_map.1 c;unfold Iu;split
  ·rename_i p e;exact(T.ok p (AM e)).bL
  ·exact An _
 have g: ∀b:List A2P,(∀ a∈b,a.size<=64)->(b.flatMap λa=>BR (bl a)).length<=b.length*65:=by
  intro b
  induction b with
  |nil=>intro _;simp
  |cons a b h=>
   intro d;have j:=h λx k=>d x (AF _ k)
   have y:=d a (by simp);have m:(Bc a.size).length=1:=by rw[FR (by omega)];rfl
   have o:(BR (bl a)).length=1+a.size:=by simp only[BR,A1,A7,m]
   simp only[AH,A1,A5,o] at j ⊢;omega
 have q:=g (CU l) c;rw[Hm] at q;have z:Bt l<=12501:=by unfold Bt;omega
 have A:(BR f).length=(Bc f.length).length+f.length:=by simp[BR]
 simp only[Vj,A1];omega
theorem Nq {s:List UInt8}{l:List Pr}{f:List UInt8}(T:gW s l f): ∀c∈aU l f,c.length<=1048576:=λc a=>by
 rcases List.mem_append.1 a with a|a
 ·obtain⟨b,d,rfl⟩:=List.mem_map.1 a;obtain⟨i,e,rfl⟩:=List.mem_map.1 d;have j:=ZG (l:=CG l i) λp g=>T.ok p (Pp g)
  have h:=(Qh (List.mem_range.1 e)).2.1;have:(CG l i).length*8276<=8*8276:=AN _ h;omega
 ·rw[List.mem_singleton.1 a];exact X9 T
def wF(s:Sl):J0:=J4 s.p s.len s.cap
def qW(x:Sl):iK [.one .sl]:=(x,())
def wU(j:ar)(P:Q1)(fv:J0)(m:Nat->Prop)(n:aa)(l:List Sl):Prop:=
 ∃f e,fv= .func (.func f) #[] e/\(∀ a,(callFunc f (#[]++ #[a]++e)).calc P=some (.enter f (#[]++ #[a]++e)))/\
  ∀(k:aa) (a:J0) (c:Nat->Bool->aa->Prop),MC a=true->(∀ i g d,c i g d-> ∀b,m b->d[b]? =n[b]?)->
   (∀ i x d,l[i]? =some x->c i true d->Eb j P a #[wF x] d λv h=> ∃g,v=J3 g/\c (i+1) g h)->c 0 true k->
   AA j P f (#[]++ #[a]++e) k λv h=>v=J1 #[]/\ ∃i g,c i g h/\(g=true->i=l.length)/\i<=l.length
theorem AS6 {o:ar}{P:Q1}{fv:J0}{p:Nat->Prop}{q c:aa}{l:List Sl}(z:wU o P fv p q l)
  (Inv:Nat->aa->Prop) {body:iK [.one .sl]->Nat->aa->(aa->Prop)->(Option Nat->aa->Prop)->Prop} {r:aa->Prop} {A:Option Nat->aa->Prop}
  (B: ∀i a,Inv i a-> ∀b,p b->a[b]? =q[b]?)
  (s: ∀i a C,Inv i a->a[c.size]? =some (.deferred (some []))->(∃ D,a[c.size+1]? =some (.loop D))->Inv i (a.setIfInBounds (c.size+1) (.loop C)))
  (E: ∀rec,Inv 0 ((c.push (.deferred (some []))).push (.loop rec)))
  (round: ∀i x a rec t F,l[i]? =some x->Inv i a->a[c.size]? =some (.deferred (some []))->a[c.size+1]? =some (.loop rec)->rec.state= .ready->
   (∀ d,Inv (i+1) d->d[c.size]? =some (.deferred (some []))->d[c.size+1]? =some (.loop {rec with state:= .busy})->t d)->body (qW x) (c.size+1) a t F)
  (fin: ∀d,Inv l.length d->d[c.size]? =some (.deferred (some []))->r d):XD o P fv [.one .sl] body c r A:=by
 intro rec h k R G;obtain⟨f,u,rfl,H,I⟩:=z;refine⟨f,_,?_,AA.mono (I ((c.push (.deferred (some []))).push (.loop rec)) (.func (.yield (c.size+1)) #[] #[])
  (λi g a=>Inv i a/\g=true/\a[c.size]? =some (.deferred (some []))/\a[c.size+1]? =some (.loop rec)) rfl (λi g a J=>B i a J.1) ?_ ?_) ?_⟩
 ·have K:(do let w <-Deferred.ofValue (.func (.func f) #[] u) #[.func (.yield (c.size+1)) #[] #[]];invoke w.target w.args:Sem Next).calc P=(callFunc f (#[]++ #[.func (.yield (c.size+1)) #[] #[]]++u)).calc P:=rfl;unfold SV;rw[K,H]
 ·rintro i x a L ⟨m,_,j,e⟩;refine G (qW x) a _ e (round i x a rec _ _ L m j e h ?_);intro d M y n;have N:c.size+1<d.size:=Ah n;refine⟨_,n,true,rfl,s _ _ _ M y ⟨_,n⟩,rfl,?_,?_⟩
  ·rw[DO (by omega)];exact y
  ·rw[Cb N];cases rec;simp at h k;simp[h,k]
 ·refine⟨E rec,rfl,?_,?_⟩
  ·rw[PC (by simp)];simp
  ·have O:c.size+1=(c.push (.deferred (some []))).size:=by simp
   rw[O];exact PF
 ·rintro v S ⟨_,i,g,⟨m,rfl,j,e⟩,Q,T⟩;refine⟨rec,e,by simp[h],.inl ⟨k,fin _ ?_ ?_⟩⟩
  ·have:=Q rfl;subst this;exact s _ _ _ m j ⟨_,e⟩
  ·rw[DO (by omega)];exact j
end Go.Lf
namespace Go.Lf.G
open Go
def U8(a:aa)(c:Nat):Prop:= ∃b d,a[c]? =some (J2 b Di d)
def fQ(a:Nat)(c:aa)(b:Nat)(l:List UInt8):Prop:= ∀(d:ar) (e:Nat),Lib.IsBuilderF ET Di a b (Lib.byteCells l) (d.at c e)
theorem yR {A:ar}{n a b:Nat}{c:aa}{l:List UInt8}(d:Lib.IsBuilderF ET Di a b (Lib.byteCells l) (A.at c n)):fQ a c b l:=λ_ _=>d
theorem Vn {g:ar}{a:aa}{j e b:Nat}{d:World}(hB:e<=a.size)(n:RowKit.Below e (g.at a j) d)(o:Lib.OthersKept Di (some b) (g.at a j) d):
  d=g.at d.heap d.drawn/\Mod (λc=>c=b\/(e<=c/\U8 a c)) a d.heap:=by
 obtain⟨f,k,l,p,q⟩:=n;refine⟨?_,⟨p,λc r m=>?_⟩⟩
 ·cases d;simp only[ar.at] at f k l ⊢;subst f k l;rfl
 ·by_cases s:c<e
  ·exact q c s
  ·have h:a[c]? =some a[c]:=Fm r;have f:=o c a[c] h (by intro i;exact m (.inl (BY i))) (λt u i=>m (.inr ⟨by omega,t,u,by rw[h,i]⟩));rw[f];exact h.symm
theorem fQ.mod {a b:Nat}{e f:aa}{l:List UInt8}{h:Nat->Prop}(t:fQ a e b l)(m:Mod h e f)(u: ¬h b)(w: ∀c,a<=c->U8 e c-> ¬h c):fQ a f b l:=by
 intro i j;have n: ∀p,Lib.BuilderAtF ET Di a b p (Lib.byteCells l) (i.at e j)->Lib.BuilderAtF ET Di a b p (Lib.byteCells l) (i.at f j):=by
  rintro p ⟨d,v,x,⟨y,k⟩,z⟩;refine⟨d,v,m.ai x u,⟨y,?_⟩,z⟩;rcases k with k|⟨g,A,o,q,B,r,s,rest⟩
  ·exact .inl k
  ·exact .inr ⟨g,A,o,q,B,r,m.ai s (w g r ⟨o,q,s⟩),rest⟩
 rcases t i j with d|d
 ·exact .inl (n _ d)
 ·exact .inr (n _ d)
theorem fQ.ext {c b:Nat}{a d:aa}{l:List UInt8}(e:fQ c a b l)(m:Ext a d):fQ c d b l:=e.mod m (λa=>a) (λ_ _ _ a=>a)
theorem AQS {a b:Nat}{c:aa}(d:c[b]? =some (J2 #[J5 none,J4 none 0 0] ET (0,0)))(hB:a<=b):fQ a c b []:=by intro e f;exact .inl ⟨hB,_,d,⟨rfl,.inl ⟨rfl,rfl⟩⟩,by simp[Value.ownBlock]⟩
theorem Ui {A:ar}{a:aa}{d b:Nat}{l:List UInt8}{s:A2P}{g:A2O}(j:fQ d a b l)(hB:d<=a.size)(q:l.length+s.size<=1099511627776)
  (k: ∀e,fQ d e b (l++bl s)->Mod (λc=>c=b\/(d<=c/\U8 a c)) a e->g (J1 #[J6 J9 s.size,.nilIface]) e):AA A P Dt #[Aq b,J7 s] a g:=by
 intro n;refine Calls.mono (Proofs.Any.Builder_WriteString_k Proofs.Tryz.iz Proofs.Tryz.dM d b (Lib.byteCells l) s (A.at a n) (j A n) (by rw[Lib.byteCells_length];omega) hB) ?_;rintro r f ⟨rfl,h,o,p⟩;obtain⟨i,m⟩:=Vn hB o p;refine⟨_,rfl,f.heap,f.drawn,i,k _ ?_ m⟩;rw[Lib.strCells_eq,<-Lib.byteCells_append,i] at h;exact yR (A:=A) (n:=f.drawn) (.inr h)
theorem AJr {A:ar}{a:aa}{d b:Nat}{l:List UInt8}{g:A2O}(j:fQ d a b l)(hB:d<=a.size)
  (k: ∀e,fQ d e b l->Mod (λc=>c=b\/(d<=c/\U8 a c)) a e->g (J7 (AX l)) e):AA A P Gc #[Aq b] a g:=by
 intro n;refine Calls.mono (Proofs.Any.Builder_String_any_k Proofs.Tryz.iA Proofs.Tryz.dM d b l (A.at a n) (j A n) hB) ?_;rintro q f ⟨rfl,h,o,p⟩;obtain⟨i,m⟩:=Vn hB o p;refine⟨_,rfl,f.heap,f.drawn,i,k _ ?_ m⟩;rw[i] at h;exact yR (A:=A) (n:=f.drawn) h
def Pz(s:Sl)(i:Nat):Sl:=⟨BB s.p (min (8*i+8) s.len) (8*i) 3,min (8*i+8) s.len-8*i,min (8*i+8) s.len-8*i⟩
def chunks(s:Sl):List Sl:=(List.range ((s.len+7) / 8)).map (Pz s)
theorem RH(s:Sl):(chunks s).length=(s.len+7) / 8:=by simp[chunks]
theorem yS {s:Sl}{i:Nat}(a:i<(s.len+7) / 8):(chunks s)[i]? =some (Pz s i):=by simp[chunks,a]
theorem View.chunk {d:aa}{s:Sl}{l:List Pr}(v:View BQ d s l){i:Nat}(e:i<Bt l):View BQ d (Pz s i) (CG l i):=by
 have f:=v.len;unfold Bt at e;refine⟨?_,A0 _,λb x c=>?_⟩
 ·show min (8*i+8) s.len-8*i=(CG l i).length;unfold CG;rw[Ax,DG,f];omega
 ·have g:b<8:=by have:=(List.getElem?_eq_some_iff.1 c).1;unfold CG at this;rw[Ax] at this;omega
  rw[QJ g] at c;obtain⟨a,h,j⟩:=v.cells _ _ c;have m:=(List.getElem?_eq_some_iff.1 c).1;refine⟨a.add (8*i*3),?_,?_⟩
  ·unfold Pz BB;simp only[h];rw[if_neg (by omega)];rfl
  ·rw[add_add];have k:8*i*3+b*BQ.w=(8*i+b)*BQ.w:=by show 8*i*3+b*3=(8*i+b)*3;omega
   rw[k];exact j
theorem ANm {a i:Nat}(b:a<=1099511627776)(c:8*i<a):J8 J9 (((8*i:Nat):Int)+(if((((a-((8*i:Nat):Int).toNat):Nat):Int):Int)<(8:Int) then(((a-((8*i:Nat):Int).toNat):Nat):Int) else(8:Int)))=((min (8*i+8) a:Nat):Int):=by
 rw[A6];split
 ·rw[wrap_i64 (by omega) (by omega)];omega
 ·rw[wrap_i64 (by omega) (by omega)];omega
abbrev APh:Q8:=DZ
theorem APE {n:ar}{a:aa}{s:Sl}{o:A2O}(p:s.len<=s.cap)(w:s.len<=1099511627776)
  (y: ∀fv b,Ext a b->b.size=a.size+2->b[a.size]? =some (J2 #[J4 s.p s.len s.cap] AQ (0,0))->b[a.size+1]? =some (J2 #[J6 J9 8] Bp (0,0))->
   wU n P fv (λc=>c=a.size\/c=a.size+1) b (chunks s)->o fv b):AA n P Dj #[J4 s.p s.len s.cap,J6 J9 8] a o:=by
 refine JH ?_;unfold FO;refine ao.mk λJ _ z A B=>?_
 refine ao.mk λC _ d q L=>?_
 refine aj.mk λK h=>?_
 refine AC.mk (AO d rfl) ?_;refine ag.no rfl (h _ _ ?_);have r:=Am q z;rw[B] at d ⊢;refine y _ C (A.trans q) (by omega) r d ⟨APh,#[Aq a.size,Aq (a.size+1)],rfl,λD=>by kernel_rfl,?_⟩;intro M D E N j F G;refine IX ?_;unfold Ep;refine Loop.rule (λm x e=> ∃i:Nat,x=(((8*i:Nat):Int),())/\m=(s.len+7) / 8-i/\i<=(s.len+7) / 8/\E i true e) ?_ ⟨0,rfl,rfl,by omega,G⟩;rintro K m _ e ⟨i,rfl,rfl,O,f⟩ h;have hA:e[a.size]? =some (J2 #[J4 s.p s.len s.cap] AQ (0,0)):=(j _ _ _ f _ (.inl rfl)).trans r;have hB:e[a.size+1]? =some (J2 #[J6 J9 8] Bp (0,0)):=(j _ _ _ f _ (.inr rfl)).trans d;refine aE (AZ.mk (AO hA rfl) ?_);dsimp only;refine ag.intro (λk=>?_) (λk=>?_)
 ·have t:8*i<s.len:=by simp at k;omega
  refine aE (AC.mk (AO hB rfl) ?_);refine aE (AZ.mk (AO hA rfl) ⟨by omega,?_⟩);refine aE (AZ.mk (AO hA rfl) ?_);rw[ANm w t,A6,A6];refine⟨by omega,by omega,by omega,?_⟩;have p:=yS (s:=s) (i:=i) (by omega);have u:=F i _ e p f;simp only[wF,Pz] at u;refine Eb.mono u ?_;rintro v b ⟨g,rfl,l⟩;refine⟨g,rfl,?_⟩;cases g with
  |false=>exact ag.yes rfl ⟨rfl,i+1,false,l,(λa=>by cases a),by rw[RH];omega⟩
  |true=>
   refine ag.no rfl (aE ?_);have H:b[a.size+1]? =some (J2 #[J6 J9 8] Bp (0,0)):=(j _ _ _ l _ (.inr rfl)).trans d;refine AC.mk (AO H rfl) ?_;have I:J8 J9 (((8*i:Nat):Int)+(8:Int))=((8*(i+1):Nat):Int):=by rw[wrap_i64 (by omega) (by omega)];omega
   rw[I];exact h ((s.len+7) / 8-(i+1)) _ _ (by omega) ⟨i+1,rfl,rfl,by omega,l⟩
 ·have t:s.len<=8*i:=by simp at k;omega
  have:i=(s.len+7) / 8:=by omega
  exact⟨rfl,i,true,f,λ_=>by rw[RH];exact this,by rw[RH];omega⟩
theorem rE:QE P CK BC IW.w 16=true:=by kernel_rfl
structure BS (h1:aa) (B:Nat) (E:Nat->Obj->Prop) (out:List UInt8) (kl:List A2P) (ix:List UInt8) (n:Nat) (hh:aa):Prop where
 gE:fQ B hh B out
 keys: ∃ks:Sl,hh[B+1]? =some (J2 #[J4 ks.p ks.len ks.cap] CK (0,0))/\Own IW BC hh ks kl/\ ∀c,ks.ai=some c->B+3<c
 ix:hh[B+2]? =some (J2 #[J7 (AX ix)] BC (0,0))
 cp:hh[B+3]? =some (J2 #[J6 J9 (n:Int)] Bp (0,0))
 fix: ∀c o,E c o->hh[c]? =some o
 dO:Mod (λc=>B<=c) h1 hh
structure ky (B:Nat) (E:Nat->Obj->Prop):Prop where
 u8: ∀c o,E c o-> ∀cs fz,o≠ J2 cs Di fz
 str: ∀c o,E c o-> ∀cs fz,o≠ J2 cs BC fz
 lt: ∀c o,E c o->B+3<c
theorem mF {d:aa}{c:Nat}{e:Obj}(g:d[c]? =some e)(h: ∀a b,e≠ J2 a Di b): ¬U8 d c:=by rintro⟨a,b,f⟩;rw[g] at f;exact h a b (BY f)
theorem Mq {e:Array J0}{T b:Q7}{fr:Nat×Nat}(f:T≠b): ∀c d,(Obj.cells e T fr)≠ J2 c b d:=λc d a=>by injection a with _ a _;exact f a
theorem yT {a:aa}{b:Sl}{d:List A2P}(e:Own IW BC a b d){c:Nat}(f:U8 a c):b.ai≠some c:=by obtain⟨h,i,g⟩:=f;exact e.ne g (by decide)
theorem BS.ext {a d e:aa}{f:Nat}{g:Nat->Obj->Prop}{out:List UInt8}{h:List A2P}{i:List UInt8}{j:Nat}(b:BS a f g out h i j d)(x:Ext d e):BS a f g out h i j e:=by obtain⟨k,l,m,n⟩:=b.keys;exact⟨b.gE.ext x,⟨k,Am x l,m.ext x,n⟩,Am x b.ix,Am x b.cp,λc o p=>x.ai (b.fix c o p) (λq=>q),b.dO.trans x.mod⟩
theorem BS.write {j g h:aa}{e:Nat}{i:Nat->Obj->Prop}{out k:List UInt8}{l:List A2P}{n:List UInt8}{o:Nat}(ok:ky e i)(b:BS j e i out l n o g)(r:fQ e h e k)
  (m:Mod (λc=>c=e\/(e<=c/\U8 g c)) g h):BS j e i k l n o h:=by
 obtain⟨s,t,p,q⟩:=b.keys;have aN: ∀ {c:Nat} {f:Obj},g[c]? =some f->c≠e->(∀ u v,f≠ J2 u Di v)->h[c]? =some f:=λa w x=>m.ai a (λd=>d.elim w (λd=>mF a x d.2))
 refine⟨r,⟨s,aN t (by omega) (Mq (by decide)),p.mod m (λc a d=>?_),q⟩,aN b.ix (by omega) (Mq (by decide)),aN b.cp (by omega) (Mq (by decide)),λc f a=>aN (b.fix c f a) (by have:=ok.lt c f a;omega) (ok.u8 c f a),b.dO.trans (m.ak λc _ a=>by rcases a with d|d<;>omega)⟩;rcases d with d|d
 ·have:=q c a;omega
 ·exact yT p d.2 a
theorem BS.key {l h i:aa}{d:Nat}{j:Nat->Obj->Prop}{out:List UInt8}{n p:List A2P}{q:List UInt8}{r:Nat}(ok:ky d j)(b:BS l d j out n q r h){f jA:Sl}(v:h[d+1]? =some (J2 #[J4 f.p f.len f.cap] CK (0,0)))
  (s:Own IW BC h f n) (k: ∀c,f.ai=some c->d+3<c) (m:Mod (λc=>f.ai=some c\/c=d+1) h i) (w:i[d+1]? =some (J2 #[J4 jA.p jA.len jA.cap] CK (0,0)))
  (x:Own IW BC i jA p) (y: ∀c,jA.ai=some c->d+3<c):BS l d j out p q r i:=by
 have hB: ∀c,f.ai=some c\/c=d+1->d+1<=c:=λc e=>by
  rcases e with a|a
  ·have:=k c a;omega
  ·omega
 refine⟨b.gE.mod m (λa=>by have:=hB _ a;omega) (λc e t a=>?_),⟨jA,w,x,y⟩,m.ai b.ix (λa=>?_),m.ai b.cp (λa=>?_),λc o e=>m.ai (b.fix c o e) (λa=>?_),b.dO.trans (m.ak λc _ e=>by have:=hB _ e;omega)⟩
 ·rcases a with a|a
  ·exact yT s t a
  ·subst a;exact mF v (Mq (by decide)) t
 ·rcases a with a|a
  ·have:=k _ a;omega
  ·omega
 ·rcases a with a|a
  ·have:=k _ a;omega
  ·omega
 ·rcases a with a|a
  ·rcases s.row with⟨rfl,_⟩|⟨g,z,A,u,_⟩
   ·simp[Sl.ai] at a
   ·simp[Sl.ai,A] at a;subst a;rw[b.fix _ o e] at u;exact ok.str _ o e z (0,0) (BY u)
  ·have:=ok.lt c o e;omega
theorem BS.ixs {h i e:aa}{d:Nat}{f:Nat->Obj->Prop}{out:List UInt8}{j:List A2P}{o p5:List UInt8}{k:Nat}(ok:ky d f)(b:BS h d f out j o k i)(m:Mod (λc=>c=d+2) i e)(p:e[d+2]? =some (J2 #[J7 (AX p5)] BC (0,0))):BS h d f out j p5 k e:=by
 obtain⟨q,r,s,l⟩:=b.keys;exact⟨b.gE.mod m (λg=>by omega) (λc a t g=>by subst g;exact mF b.ix (Mq (by decide)) t),⟨q,m.ai r (by omega),s.mod m (λc a g=>by have:=l c a;omega),l⟩,p,m.ai b.cp (by omega),
  λc n a=>m.ai (b.fix c n a) (by have:=ok.lt c n a;omega),b.dO.trans (m.ak λc _ a=>by omega)⟩
theorem BS.oY {h i e:aa}{d:Nat}{f:Nat->Obj->Prop}{out:List UInt8}{j:List A2P}{k:List UInt8}{o n':Nat}(ok:ky d f)(b:BS h d f out j k o i)(m:Mod (λc=>c=d+3) i e)(p:e[d+3]? =some (J2 #[J6 J9 (n':Int)] Bp (0,0))):BS h d f out j k n' e:=by
 obtain⟨q,r,s,l⟩:=b.keys;exact⟨b.gE.mod m (λg=>by omega) (λc a t g=>by subst g;exact mF b.cp (Mq (by decide)) t),⟨q,m.ai r (by omega),s.mod m (λc a g=>by have:=l c a;omega),l⟩,m.ai b.ix (by omega),p,
  λc n a=>m.ai (b.fix c n a) (by have:=ok.lt c n a;omega),b.dO.trans (m.ak λc _ a=>by omega)⟩
theorem BS.lp {k h:aa}{i d:Nat}{j:Nat->Obj->Prop}{out:List UInt8}{l:List A2P}{n:List UInt8}{o:Nat}(b:BS k i j out l n o h)(hd:i+3<d)(s: ∀e,¬j d e){t:Go.Loop}(p:h[d]? =some (.loop t))(e:Go.Loop):BS k i j out l n o (h.setIfInBounds d (.loop e)):=by
 obtain⟨u,v,q,w⟩:=b.keys;have m:Mod (λc=>c=d) h (h.setIfInBounds d (.loop e)):=Mod.setObj rfl;refine⟨b.gE.mod m (λf=>by omega) (λc a x f=>by subst f;exact mF p (λ_ _ y=>by cases y) x),⟨u,m.ai v (by omega),q.mod m (λc a f=>?_),w⟩,m.ai b.ix (by omega),m.ai b.cp (by omega),
  λc e a=>m.ai (b.fix c e a) (λf=>by subst f;exact s _ a),b.dO.trans (m.ak λc _ a=>by omega)⟩
 subst f;rcases q.row with⟨rfl,_⟩|⟨g,A,z,r,_⟩
 ·simp[Sl.ai] at a
 ·simp[Sl.ai,z] at a;subst a;rw[p] at r;cases r
def Iw(l:List Pr):List A2P:=l.map (·.key)
def jf(l:List Pr):Nat:=min (l.length+8) 8192
def NE(l:List Pr):List UInt8:=kp (Iw l) (jf l)
def Jd(l:List Pr):List UInt8:=aK (aU l (NE l))
def Gt(a:List A2P):List UInt8:=a.flatMap λb=>BR (bl b)
structure G6 (l:List Pr):Prop where
 ne:l≠ []
 ok: ∀p∈l,La p
 inc:l.Pairwise λp q=>aO p.key q.key=true
 many:l.length<=100000
theorem G6.eM {l:List Pr}(T:G6 l):gW (Jd l) l (NE l):=by
 have a:1<=jf l/\jf l<=8192:=by unfold jf;omega
 refine⟨rfl,T.ne,T.ok,T.inc,?_,λp b=>APC a.1 a.2 (IN b),T.many⟩;unfold NE;rw[APp a.1];exact a
theorem Uz: ∀ {rs:List (List UInt8)},(∀ r∈rs,r.length<=1048576)->(aK rs).length<=rs.length*1048590
 | [],_=>by simp
 |r::rs,a=>by
  have d:=(JM (a r Cl)).2;have e:=a r Cl;have b:=Uz (rs:=rs) λx c=>a x (AF _ c)
  simp only[aK,AH,A1,A5] at b ⊢;omega
theorem Qo: ∀ {ks:List A2P},(∀ k∈ks,k.size<=64)->(Gt ks).length<=ks.length*74
 | [],_=>by simp[Gt]
 |k::ks,a=>by
  have d:=a k Cl;have e:=AV (n:=(bl k).length) (by rw[A7];omega);have b:=Qo (ks:=ks) λx c=>a x (AF _ c)
  have f:=A7 k;simp only[Gt,AH,A1,A5,BR] at b ⊢;omega
theorem O9 {l:List Pr}(b: ∀p∈l,La p): ∀a∈CU l,a.size<=64:=λa c=>by
 obtain⟨i,_,rfl⟩:=List.mem_map.1 c;unfold Iu;split
 ·rename_i p d;exact(b p (AM d)).bL
 ·exact An _
theorem Qn {l:List Pr}(a: ∀p∈l,La p){i:Nat}(b:i<Bt l):(BP (CG l i)).length<=8*8276:=by
 have e:=Lt (l:=CG l i) λp c=>a p (Pp c)
 have d:=(Qh b).2.1;have:(CG l i).length*8276<=8*8276:=AN _ d;omega
theorem yU {l:List Pr}(c: ∀p∈l,La p): ∀a∈(KZ l).map BP,a.length<=1048576:=λa d=>by
 obtain⟨b,e,rfl⟩:=List.mem_map.1 d;obtain⟨i,f,rfl⟩:=List.mem_map.1 e;have:=Qn c (List.mem_range.1 f);omega
theorem AOs {l:List Pr}{i:Nat}(a:i<Bt l):((KZ l).map BP)[i]? =some (BP (CG l i)):=by simp[KZ,a]
theorem RN {l:List Pr}{i:Nat}(a:i<Bt l):(CU l)[i]? =some (Iu l (8*i)):=by simp[CU,a]
theorem T9 {a:Type}{l:List a}{i:Nat}{x:a}(b:l[i]? =some x):l.take (i+1)=l.take i++ [x]:=by rw[AD,b];rfl
theorem yV(a b:List Pr):Iw (a++b)=Iw a++Iw b:=by simp[Iw]
theorem yW {l:List Pr}(b:l.Pairwise λp a=>aO p.key a.key=true){i:Nat}{p a:Pr}(c:l[i]? =some p)(d:l[i+1]? =some a):aO p.key a.key=true:=by obtain⟨e,rfl⟩:=List.getElem?_eq_some_iff.1 c;obtain⟨f,rfl⟩:=List.getElem?_eq_some_iff.1 d;exact List.pairwise_iff_getElem.1 b _ _ e f (by omega)
theorem AKt(a:Nat)(b:a<=100000):(if(8192:Int)<(J8 J9 (((a:Nat):Int)+(8:Int))) then(8192:Int) else(J8 J9 (((a:Nat):Int)+(8:Int))))=((min (a+8) 8192:Nat):Int):=by rw[wrap_i64 (by omega) (by omega)];split<;>omega
theorem AO2 {bw:ar}{e:aa}{s:Sl}{l:List Pr}{aX:A2O}(T:G6 l)(X:View BQ e s l)(au: ∀b,s.ai=some b->b<e.size)
  (bx: ∀aY,Ext e aY->aX (J1 #[J7 (AX (Jd l)),J6 J9 0]) aY):AA bw P P6 #[J4 s.p s.len s.cap] e aX:=by
 refine AB5 ?_;unfold WJ;have cR:=List.length_pos_iff.2 T.ne;have cS:=T.many;refine ag.no (by rw[X.len];simp;exact T.ne) ?_;refine Loop.rule (λm x t=> ∃i:Nat,x=(⟨#[]⟩,0,(i:Int),())/\m=l.length-i/\i<=l.length/\Ext e t) ?_ ⟨0,rfl,rfl,by omega,Mod.refl⟩;rintro K m _ g ⟨i,rfl,rfl,cT,M⟩ aZ;dsimp only;have av:=X.ext M;refine ag.intro (λw=>?_) (λw=>?_)
 ·have aw:i<l.length:=by rw[X.len] at w;simp at w;omega
  have y:l[i]? =some l[i]:=A2 aw;have z:=T.ok _ (AW aw);generalize l[i]=x at y z;have a0:=z.bL;have bz:=z.cq;refine av.idx y λa bA f=>?_
  obtain⟨ax,ay,c2⟩:=f.pair;rw[A6];refine AJ.mk ax (AJ.mk ay (Ac.mk c2 ?_));refine ao.pair λb Y bB B a1 cU=>?_
  refine aj.mk λaz bC=>?_
  refine AJ.mk (AO B rfl) (ag.no (yP z.key) ?_);have a2:az (false,()) Y:=by
   refine bC _ _ (ag.no rfl ?_);refine aj.mk λcV bD=>?_
   refine AJ.mk (AO B rfl) (ag.no (by simp;omega) ?_);refine AJ.mk (AB B rfl) ?_;refine bD _ _ (ag.no (by simp;omega) ?_);rw[Aa (by omega)];exact aZ (l.length-(i+1)) _ _ (by omega) ⟨i+1,rfl,rfl,aw,M.trans a1⟩
  have a3:ag (decide (((i:Nat):Int)>(0:Int))) (AJ Y (⟨b,0,none⟩:Q6) λa4=>
     bJ s.p s.len (J8 J9 (((i:Nat):Int)-(1:Int))) λa5=>
     AJ Y (a5.add ((J8 J9 (((i:Nat):Int)-(1:Int))).toNat*3)) λa6=>
     az ((aO a4 a6||bR a4 a6),()) Y) (az (false,()) Y):=by
   refine ag.intro (λbE=>?_) (λ_=>a2);have cW:0<i:=by simp at bE;omega
   obtain⟨k,rfl⟩: ∃k,i=k+1:=⟨i-1,by omega⟩;have aA:J8 J9 (((k+1:Nat):Int)-(1:Int))=(k:Int):=by rw[wrap_i64 (by omega) (by omega)];omega
   have N:l[k]? =some l[k]:=A2 (by omega);refine AJ.mk (AO B rfl) ?_;rw[aA];refine(av.ext a1).idx N λa5 cX Z=>?_
   rw[A6];refine AJ.mk Z.pair.1 ?_;have aC:=yW T.inc N y;have q:(aO x.key l[k].key||bR x.key l[k].key)=false:=by
    rw[Hk];refine⟨?_,?_⟩
    ·cases bF:aO x.key l[k].key with
     |false=>rfl
     |true=>have:=Da aC bF;rw[CZ] at this;cases this
    ·rw[Ca,decide_eq_false_iff_not];intro q;rw[q,CZ] at aC;cases aC
   rw[q];exact a2
  refine Ac.mk (AB B rfl) (ag.intro (λbH=>?_) (λ_=>a3));refine AJ.mk (AB B rfl) (ag.no ?_ a3);rw[XY,Tz (z.gone bH)];rfl
 ·clear aZ;have aD:=X.len;refine ao.mk λbI _ bK bL bM=>?_
  refine ao.mk λbN _ a7 a8 cY=>?_
  refine ao.mk λcZ _ a9 aE c0=>?_
  refine af.mk a9 (by simp) λba bb ak c1=>?_
  refine ao.mk λc3 _ bc al c4=>?_
  refine af.mk bc (by simp) λbd be ab c5=>?_
  have bf:bI.size=g.size+1:=bM;have bg:bN.size=g.size+2:=by omega
  have bh:ba.size=g.size+3:=by omega
  have bO:bd.size=g.size+4:=by omega
  rw[bf] at a7;rw[bg] at a9 ak bb;rw[bh] at bc ab be;rw[bf,bg,bh];refine APE X.cap (by omega) λfv G O bP aF Z bi=>⟨_,rfl,?_⟩
  rw[bO] at bP aF Z bi;generalize bQ:g.size=o at*
  have bS: ∃E:Nat->Obj->Prop,E=λc h=>(c=o+4/\h=J2 #[J4 s.p s.len s.cap] AQ (0,0))\/(c=o+5/\h=J2 #[J6 J9 8] Bp (0,0)):=⟨_,rfl⟩
  obtain⟨E,am⟩:=bS;have bT:Ext g G:=by refine⟨by have:=O.size;omega,λc f _=>?_⟩;rw[bQ] at f;exact(O.get c (by omega) (λe=>e)).trans ((ab.get c (by omega) (by omega)).trans ((al.get c (by omega) (λe=>e)).trans ((ak.get c (by omega) (by omega)).trans ((aE.get c (by omega) (λe=>e)).trans ((a8.get c (by omega) (λe=>e)).trans (bL.get c (by omega) (λe=>e)))))))
  have bU:G[o]? =some (J2 #[J5 none,J4 none 0 0] ET (0,0)):=
   O.ai (ab.ai (al.ai (ak.ai (aE.ai (a8.ai bK (λe=>e)) (λe=>e)) (by omega)) (λe=>e)) (by omega)) (λe=>e)
  have bV:G[o+1]? =some (J2 #[J4 none 0 0] CK (0,0)):=
   O.ai (ab.ai (al.ai (ak.ai (aE.ai a7 (λe=>e)) (by omega)) (λe=>e)) (by omega)) (λe=>e)
  have bW:G[o+2]? =some (J2 #[J7 (AX [])] BC (0,0)):=by
   have bX:ba[o+2]? =some (J2 #[J7 (AX [])] BC (0,0)):=by rw[yb];simpa using bb
   exact O.ai (ab.ai (al.ai bX (λe=>e)) (by omega)) (λe=>e)
  have bY:G[o+3]? =some (J2 #[J6 J9 ((0:Nat):Int)] Bp (0,0)):=by
   have bZ:bd[o+3]? =some (J2 #[J6 J9 ((0:Nat):Int)] Bp (0,0)):=by simpa using be
   exact O.ai bZ (λe=>e)
  have bG:BS g o E [] [] [] 0 G:=by
   refine⟨AQS bU (A0 _),⟨⟨none,0,0⟩,bV,Own.nil,λc f=>by simp[Sl.ai] at f⟩,bW,bY,λc h f=>?_,bT.mod⟩;subst am;rcases f with⟨rfl,rfl⟩|⟨rfl,rfl⟩
   ·exact aF
   ·exact Z
  have Q:ky o E:=by
   subst am;refine⟨λc h f C D=>?_,λc h f C D=>?_,λc h f=>?_⟩
   ·rcases f with⟨rfl,rfl⟩|⟨rfl,rfl⟩<;>exact Mq (by decide) _ _
   ·rcases f with⟨rfl,rfl⟩|⟨rfl,rfl⟩<;>exact Mq (by decide) _ _
   ·rcases f with⟨rfl,rfl⟩|⟨rfl,rfl⟩<;>omega
  have bj: ∀d h,o+6<=d-> ¬E d h:=by subst am;rintro d h hd (⟨rfl,_⟩|⟨rfl,_⟩)<;>omega
  have b0:(chunks s).length=Bt l:=by rw[RH,aD];rfl
  have c6:Bt l<=12501:=by unfold Bt;omega
  have an:G.size=o+6:=by omega
  have b1: ∀b,s.ai=some b->b<o:=λb b2=>by have:=au b b2;have:=M.size;omega
  refine AS6 bi (λi t=>BS g o E (aK (((KZ l).map BP).take i)) (Iw (l.take (8*i))) (Gt ((CU l).take i)) i t) ?_ ?_ ?_ ?_ ?_
  ·intro i t r c f;subst am;rcases f with rfl|rfl
   ·exact(r.fix _ _ (.inl ⟨rfl,rfl⟩)).trans aF.symm
   ·exact(r.fix _ _ (.inr ⟨rfl,rfl⟩)).trans Z.symm
  ·rintro i t h r R ⟨c7,b3⟩;exact r.lp (by omega) (λh=>bj _ _ (by omega)) b3 h
  ·intro rec;exact bG.ext ((Mod.push G _).trans (Mod.push _ _))
  ·intro i x t rec c8 c9 y r R ap b4 b5;have S:i<Bt l:=by have:=(List.getElem?_eq_some_iff.1 y).1;omega
   have b6:x=Pz s i:=by have:=yS (s:=s) (i:=i) (by rw[aD];exact S);rw[this] at y;exact(BY y).symm
   subst b6;rw[an] at R ap ⊢;refine⟨rec,ap,b4,?_⟩;obtain⟨u,J⟩: ∃u:Nat->Obj->Prop,u=λc h=>E c h\/(c=o+6/\h= .deferred (some []))\/(c=o+6+1/\h= .loop {rec with state:= .busy}):=⟨_,rfl⟩
   have L:ky o u:=by
    subst J;refine⟨λc h f C D=>?_,λc h f C D=>?_,λc h f=>?_⟩
    ·rcases f with e|⟨rfl,rfl⟩|⟨rfl,rfl⟩
     ·exact Q.u8 c h e C D
     ·intro q;cases q
     ·intro q;cases q
    ·rcases f with e|⟨rfl,rfl⟩|⟨rfl,rfl⟩
     ·exact Q.str c h e C D
     ·intro q;cases q
     ·intro q;cases q
    ·rcases f with e|⟨rfl,rfl⟩|⟨rfl,rfl⟩
     ·exact Q.lt c h e
     ·omega
     ·omega
   have U:=r.lp (d:=o+6+1) (by omega) (λh=>bj _ _ (by omega)) ap {rec with state:= .busy};have aG:BS g o u (aK (((KZ l).map BP).take i)) (Iw (l.take (8*i))) (Gt ((CU l).take i)) i (t.setIfInBounds (o+6+1) (.loop {rec with state:= .busy})):=by
    refine⟨U.gE,U.keys,U.ix,U.cp,λc h f=>?_,U.dO⟩;subst J;rcases f with e|⟨rfl,rfl⟩|⟨rfl,rfl⟩
    ·exact U.fix c h e
    ·rw[DO (by omega)];exact R
    ·exact Cb (Ah ap)
   generalize t.setIfInBounds (o+6+1) (.loop {rec with state:= .busy})=da at aG;have db:=Qh S;have aH: ∀p∈CG l i,La p:=λp aI=>T.ok p (Pp aI)
   have aJ: ∀ {t:aa} {out:List UInt8} {b7:List A2P} {b8:List UInt8} {n:Nat},BS g o u out b7 b8 n t->View BQ t (Pz s i) (CG l i):=λb=>
    View.chunk (av.mod b.dO (λc f=>by have:=b1 c f;omega)) S
   have b9:(Pz s i).len=(CG l i).length:=(aJ aG).len;have aL:=Uz (rs:=((KZ l).map BP).take i) λca cb=>yU T.ok ca (DM cb)
   have aM:=Qo (ks:=(CU l).take i) λk N=>O9 T.ok k (DM N)
   rw[Ax] at aL aM;have dc:=Qn T.ok S;refine Loop.rule (λm x t=> ∃j:Nat,x=(AX (BP ((CG l i).take j)),(j:Int),())/\m=(CG l i).length-j/\j<=(CG l i).length/\
    BS g o u (aK (((KZ l).map BP).take i)) (Iw (l.take (8*i))++Iw ((CG l i).take j)) (Gt ((CU l).take i)) i t) ?_ ⟨0,rfl,rfl,by omega,by simpa [Iw] using aG⟩
   rintro dd m _ de ⟨j,rfl,rfl,df,H⟩ cc;dsimp only[qW];refine ag.intro (λw=>?_) (λw=>?_)
   ·have ac:j<(CG l i).length:=by have w:((j:Nat):Int)<(((Pz s i).len:Nat):Int):=of_decide_eq_true w;omega
    have y:(CG l i)[j]? =some (CG l i)[j]:=A2 ac;have z:=aH _ (AW ac);generalize (CG l i)[j]=p at y z;have bk:=T9 y;refine(aJ H).idx y λa bA f=>?_
    obtain⟨ax,ay,c2⟩:=f.pair;rw[A6];refine AJ.mk ax (AJ.mk ay (Ac.mk c2 ?_));refine ao.pair λbm dg bB B cd dh=>?_
    have A:=H.ext cd;obtain⟨ks,ad,ae,ai⟩:=A.keys;refine AZ.mk (s:=ks) (AO ad rfl) ?_;refine AJ.mk (AO B rfl) ?_;have di:o+3<bm:=by have:=Ah H.cp;omega
    have aN:(Iw (l.take (8*i))++Iw ((CG l i).take j)).length<=100010:=by rw[A1];simp only[Iw,Bs,Ax];omega
    refine ao.aZ (E:=IW) (x:=p.key) rfl rE ae (by omega) (by simp only[maxLen];omega) λbn ce cf aP cg dj=>?_
    have ch:ce[o+1]? =some (J2 #[J4 ks.p ks.len ks.cap] CK (0,0)):=aP.ai ad (λe=>by have:=ai _ e;omega);refine af.mk ch (by simp) λbo ci aQ dk=>?_
    have bp: ∀c,bn.ai=some c->o+3<c:=λc f=>by
     rcases cg c f with e|e
     ·exact ai c e
     ·have:=Ah A.cp;omega
    have F:BS g o u _ (Iw (l.take (8*i))++Iw ((CG l i).take j)++ [p.key]) _ i bo:=
     A.key L (jA:=bn) ad ae ai ((aP.ak λc _ f=> .inl f).trans (aQ.ak λc _ f=> .inr f)) (by simpa using ci) (cf.mod aQ (λc f e=>by have:=bp c f;omega)) bp
    have aR:bo[bm]? =some (J2 #[J7 p.key,J7 p.val,J3 p.gone] AR (0,0)):=aQ.ai (aP.ai B (λe=>ae.ne B (by decide) e)) (by omega);refine AJ.mk (AO aR rfl) (AJ.mk (AB aR rfl) (Ac.mk (AB aR rfl) ?_));refine AOk (x:=p) z λdl cj=>⟨_,rfl,?_⟩
    have ck:BP ((CG l i).take (j+1))=BP ((CG l i).take j)++Ij p:=by rw[bk];simp[BP]
    have lt:=Lt (l:=(CG l i).take j) λcl w=>aH cl (DM w)
    rw[Ax] at lt;have lp:=(QL z).2;have a0:=z.bL;have bz:=z.cq;refine⟨by rw[AP,AP,max_i64];omega,?_⟩;rw[Aj,<-ck,Aa (by omega)];refine cc ((CG l i).length-(j+1)) _ _ (by omega) ⟨j+1,rfl,rfl,ac,?_⟩;have I:=F.ext cj;have:Iw ((CG l i).take (j+1))=Iw ((CG l i).take j)++ [p.key]:=by rw[bk,yV];rfl
    rw[this,<-A3];exact I
   ·have ac:j=(CG l i).length:=by have w: ¬((j:Nat):Int)<(((Pz s i).len:Nat):Int):=of_decide_eq_false w;omega
    have cm:(CG l i).take j=CG l i:=by rw[ac];simp
    rw[cm] at H ⊢;refine rq (by omega) (λe=>by omega) λaS dm cn=>⟨_,_,rfl,?_⟩
    have A:=H.ext cn;have co:=JM aS;refine Ui A.gE (by have:=Ah A.cp;omega) (by rw[AP];omega) λcp cq cr=>⟨_,_,rfl,?_⟩
    have F:=A.write L cq cr;rw[EN] at F;refine AJ.mk (AO F.ix rfl) ?_;have aT:(CG l i)[0]? =some (CG l i)[0]:=A2 (by omega);have bq:Iu l (8*i)=(CG l i)[0].key:=by have:=QJ (l:=l) (i:=i) (j:=0) (by omega);rw[aT] at this;unfold Iu;rw[G0] at this;rw[<- this]
    have br:=aH _ (AW (show 0<(CG l i).length by omega));generalize (CG l i)[0]=V at aT bq br;obtain⟨cs,ct,bs⟩:=(aJ F).cells 0 V aT;refine bJ.mk (k:=0) ct (by rw[b9];omega) ?_;rw[HT,add_zero] at bs;refine AJ.mk (n:=V.key) (by show ah cp (cs.add 0)=_;rw[add_zero];exact bs.pair.1) ?_;have a0:=br.bL;refine VW (by omega) λdn cu=>⟨_,rfl,?_⟩
    have I:=F.ext cu;refine⟨AO I.ix rfl,?_⟩;have dp:=AV (n:=(bl V.key).length) (by rw[A7];omega);have dq:=A7 V.key;refine⟨by rw[AP,AP,max_i64];simp only[BR,A1];omega,?_⟩;rw[Aj];refine af.mk I.ix (by simp) λdr cv cw ds=>?_
    have W:=I.ixs L (p5:=Gt ((CU l).take i)++BR (bl V.key)) cw (by simpa using cv);refine AC.mk (AO W.cp rfl) ?_;rw[Aa (by omega)];refine af.mk W.cp (by simp) λcx cy cz dt=>?_
    have v:=W.oY L (n':=i+1) cz (by simpa using cy);have aA:aK (((KZ l).map BP).take (i+1))=aK (((KZ l).map BP).take i)++Ct (BP (CG l i)):=by rw[T9 (AOs S)];simp[aK]
    have cB:Iw (l.take (8*(i+1)))=Iw (l.take (8*i))++Iw (CG l i):=by rw[<- yV,wB]
    have cC:Gt ((CU l).take (i+1))=Gt ((CU l).take i)++BR (bl V.key):=by rw[T9 (RN S),bq];simp[Gt]
    subst J;refine b5 cx ?_ ?_ ?_
    ·rw[aA,cB,cC];exact⟨v.gE,v.keys,v.ix,v.cp,λc h f=>v.fix c h (.inl f),v.dO⟩
    ·rw[an];exact v.fix _ _ (.inr (.inl ⟨rfl,rfl⟩))
    ·rw[an];exact v.fix _ _ (.inr (.inr ⟨rfl,rfl⟩))
  ·intro cD r R;rw[b0] at r;have ad:((KZ l).map BP).take (Bt l)=(KZ l).map BP:=AG (by simp[I7]);have ae:l.take (8*Bt l)=l:=AG (by unfold Bt;omega);have ai:(CU l).take (Bt l)=CU l:=AG (by simp[Hm]);rw[ad,ae,ai] at r;rw[an] at R ⊢;obtain⟨u,J⟩: ∃u:Nat->Obj->Prop,u=λc h=>E c h\/(c=o+6/\h= .deferred (some [])):=⟨_,rfl⟩
   have L:ky o u:=by
    subst J;refine⟨λc h f C D=>?_,λc h f C D=>?_,λc h f=>?_⟩
    ·rcases f with e|⟨rfl,rfl⟩
     ·exact Q.u8 c h e C D
     ·intro q;cases q
    ·rcases f with e|⟨rfl,rfl⟩
     ·exact Q.str c h e C D
     ·intro q;cases q
    ·rcases f with e|⟨rfl,rfl⟩
     ·exact Q.lt c h e
     ·omega
   have H:BS g o u (aK ((KZ l).map BP)) (Iw l) (Gt (CU l)) (Bt l) cD:=by
    refine⟨r.gE,r.keys,r.ix,r.cp,λc h f=>?_,r.dO⟩;subst J;rcases f with e|⟨rfl,rfl⟩
    ·exact r.fix c h e
    ·exact R
   obtain⟨ks,bt,aV,du⟩:=H.keys;refine AZ.mk (s:=ks) (AO bt rfl) (AZ.mk (s:=ks) (AO bt rfl) ?_);have aN:ks.len=l.length:=by rw[aV.len];simp[Iw]
   have bu:1<=jf l/\jf l<=8192:=by unfold jf;omega
   have bv:=T.eM;have dv:=bv.jz;rw[aN,AKt _ T.many];rw[show((min (l.length+8) 8192:Nat):Int)=((jf l:Nat):Int) from rfl,<-aN];refine AQR (ks:=Iw l) aV.view (λk N=>?_) bu.1 bu.2 (by simp[Iw];omega) (λb au=>aV.lt au) λdw cE=>⟨_,_,rfl,?_⟩
   ·obtain⟨p,aI,rfl⟩:=List.mem_map.1 N;have:=(T.ok p aI).bL;omega
   have A:=H.ext cE;refine AC.mk (AO A.cp rfl) (AJ.mk (AO A.ix rfl) ?_);rw[CF (by omega)];refine Cc (by omega) λdx cF=>⟨_,rfl,?_⟩
   have F:=A.ext cF;refine⟨AO F.ix rfl,?_⟩;have dy:=AV (n:=Bt l) (by omega);have aM:=Qo (ks:=CU l) (O9 T.ok);rw[Hm] at aM;refine⟨by rw[AP,AP,max_i64];omega,?_⟩;rw[aD,CF (by omega)];refine Cc (by omega) λdz cG=>⟨_,rfl,?_⟩
   have I:=F.ext cG;have dA:=AV (n:=l.length) (by omega);refine⟨AO I.ix rfl,?_⟩;rw[Aj];refine⟨by rw[AP,AP,max_i64];simp only[A1];omega,?_⟩;refine Qw (l:=NE l) (by omega) λdB cH=>⟨_,rfl,?_⟩
   have W:=I.ext cH;have dC:=AV (n:=(NE l).length) (by omega);refine⟨AO W.ix rfl,?_⟩;rw[Aj,Aj];have dD:(BR (NE l)).length=(Bc (NE l).length).length+(NE l).length:=by simp[BR]
   refine⟨by rw[AP,AP,max_i64];simp only[A1];omega,?_⟩;have cI:Bc (Bt l)++Gt (CU l)++Bc l.length++BR (NE l)=Vj l (NE l):=by unfold Vj Gt;simp only[A3]
   rw[cI];have dE:=X9 bv;refine rq (by omega) (λe=>by omega) λaS dF cJ=>⟨_,_,rfl,ag.no rfl ?_⟩
   have v:=W.ext cJ;have aL:=Uz (rs:=(KZ l).map BP) (yU T.ok);rw[Bs,I7] at aL;have co:=JM aS;refine Ui v.gE (by have:=Ah v.cp;omega) (by rw[AP];omega) λdG cK cL=>⟨_,_,rfl,?_⟩
   have aq:=v.write L cK cL;rw[EN] at aq;refine AJr aq.gE (by have:=Ah aq.cp;omega) λcM cN cO=>⟨_,rfl,?_⟩
   have aW:=aq.write L cN cO;have cP:aK ((KZ l).map BP)++Ct (Vj l (NE l))=Jd l:=by unfold Jd aU;simp[aK]
   have cQ:cM[o+6]? =some (.deferred (some [])):=aW.fix _ _ (by subst J;exact .inr ⟨rfl,rfl⟩);refine⟨cQ,?_⟩;rw[cP];refine bx _ ⟨?_,λc f _=>?_⟩
   ·have:=aW.dO.size;have:=M.size;simp;omega
   ·have:=M.size;rw[DO (by omega)];exact(aW.dO.get c (by omega) (by omega)).trans (M.get c f (λe=>e))
end Go.Lf.G
namespace Go.Proofs
open Go.Shelf
theorem bears {P : Program} {f : FuncId} {b : Func} (a : (P.funcs[f]?).map (λx => { x with name := "" }) = some { b with name := "" }) (d : ((P.funcs[f]?).all λx => !(x.name == "runtime.NumGoroutine")) = true) : Bears P f b := by
 cases c:P.funcs[f]? with
 |none=>rw[c] at a;cases a
 |some x=>
  rw[c] at a d;simp only[Option.map_some,Option.some.injEq] at a;refine⟨x.name,by simpa using d,c.trans (congrArg some ?_)⟩;cases x;cases b
  simp_all
def Tryz.cG:Go.Shelf.Ren:=⟨λ|7=>76|10=>118|a=>a,λ|23=>102|26=>9|3=>165|28=>163|0=>0|27=>162|33=>71|4=>4|a=>a,λ|a=>a⟩
theorem Tryz.iT:Go.Proofs.SlLaysZ.n7 Tryz.prog Tryz.cG:=by repeat' first|exact Lf.Df (by kernel_rfl)|kernel_rfl|exact bears (by kernel_rfl) (by kernel_rfl)|decide|constructor
def Tryz.dI:Go.Shelf.Ren:=⟨λ|6=>75|8=>116|9=>117|11=>169|13=>171|12=>170|23=>216|24=>217|14=>207|15=>208|16=>209|17=>210|18=>211|19=>212|20=>213|21=>214|22=>215|25=>236|26=>237|27=>238|28=>239|29=>240|30=>241|31=>262|a=>a,λ|26=>9|28=>163|24=>66|0=>0|3=>3|37=>153|48=>150|50=>140|4=>4|40=>312|39=>311|45=>270|5=>5|9=>9|51=>330|55=>333|57=>356|58=>263|33=>71|a=>a,λ|a=>a⟩
theorem Tryz.iy:Go.Proofs.SlLaysZ.n6 Tryz.prog Tryz.dI:=by repeat' first|exact Lf.Df (by kernel_rfl)|kernel_rfl|exact bears (by kernel_rfl) (by kernel_rfl)|decide|constructor
def Tryz.fU:Go.Shelf.Ren:=⟨λ|6=>117|8=>171|9=>170|19=>216|20=>217|21=>207|22=>208|23=>209|24=>210|25=>211|26=>212|27=>213|28=>214|29=>215|36=>236|31=>237|32=>238|37=>239|38=>240|39=>241|41=>262|a=>a,λ|27=>66|29=>9|3=>3|32=>153|26=>66|0=>0|44=>150|46=>140|4=>4|36=>312|35=>311|41=>270|5=>5|9=>9|53=>330|57=>333|63=>356|64=>263|a=>a,λ|a=>a⟩
theorem Tryz.iU:Go.Proofs.SlLaysM.n6 Tryz.prog Tryz.fU:=by repeat' first|exact Lf.Df (by kernel_rfl)|kernel_rfl|exact bears (by kernel_rfl) (by kernel_rfl)|decide|constructor
def Tryz.fV:Go.Shelf.Ren:=⟨λ|5=>219|8=>171|7=>244|19=>216|20=>217|10=>265|11=>266|12=>267|13=>268|14=>269|15=>270|16=>271|17=>272|18=>273|30=>290|31=>237|32=>238|33=>291|34=>292|35=>293|40=>300|a=>a,λ|23=>86|25=>3|3=>3|32=>153|22=>86|0=>0|44=>150|46=>140|4=>4|36=>312|35=>311|41=>270|5=>5|9=>9|53=>330|57=>333|63=>356|64=>263|a=>a,λ|a=>a⟩
theorem Tryz.iV:Go.Proofs.SlLaysM.n5 Tryz.prog Tryz.fV:=by repeat' first|exact Lf.Df (by kernel_rfl)|kernel_rfl|exact bears (by kernel_rfl) (by kernel_rfl)|decide|constructor
end Go.Proofs
namespace Go.Lf.G
open Go
abbrev nU:Q8:=FQ
theorem AQZ {d:ar}{a:aa}{b:Option Nat}{e:A2O}(g: ∀T c,c[a.size]? =some (J2 #[.map b] T (0,0))->Ext a c->c.size=a.size+1->e (.func (.func nU) #[] #[Aq a.size]) c):
  AA d P Bz #[.map b] a e:=by
 intro f;have h:=Proofs.AnyZ.keys_in Proofs.Tryz.iT Fence.wide 5 trivial rfl b (d.at a f);have i:=callsIn_wide.1 h;refine Calls.mono i ?_;rintro j k ⟨rfl,rfl⟩;refine⟨_,rfl,a.push (J2 #[.map b] (Proofs.Tryz.cG.t 23)),f,rfl,?_⟩;exact g (Proofs.Tryz.cG.t 23) (a.push (J2 #[.map b] (Proofs.Tryz.cG.t 23))) (by simp) (Mod.push a _) (by simp)
theorem ASq(m:Nat):Proofs.AnyZ.SortsIn P Proofs.Tryz.dI Fence.wide m:=
 ⟨λai off a c b d e f=>callsIn_wide.2 (Proofs.AnyM.slices_Sort_string Proofs.Tryz.iU ai off a c b d e f),
 λp a b=>callsIn_wide.2 (Proofs.AnyM.slices_Sort_string_none Proofs.Tryz.iU p a b)⟩
theorem AMd {A:ar}{h:aa}{c i:Nat}{T:Q7}{m:List (A2P×J0)}{l:List A2P}{o:A2O}(p:h[c]? =some (J2 #[.map (some i)] T (0,0)))(M:PK h i m)
  (B:nW l) (C:(m.map (·.1)).Perm l) (d:m.length<=8796093022208)
  (q: ∀s j,Own IW BC j s l->Ext h j->(∀ b,s.ai=some b->h.size<=b)->o (J4 s.p s.len s.cap) j):
  AA A P F7 #[.func (.func nU) #[] #[Aq c]] h o:=by
 intro n;obtain⟨k,D,E,r⟩:=AKh (P:=P) (kt:=BC) Ll (w:=A.at h n) M;have F:SeqGives Fence.wide 2 P nU #[Aq c] Proofs.encStr (λe=>e.Perm (strKeys k)) (Maps.size k) (A.at h n):=
  Proofs.AnyZ.keys_gives (ρ:=Proofs.Tryz.cG) {Proofs.Tryz.iT with} Fence.wide _ trivial rfl (by omega) c i _ k _ (show c<h.size from Ah p) (by show ah h ⟨c,0,none⟩=_;rw[Hr p];rfl) D
 have G:=Proofs.AnyZ.sorted_in Proofs.Tryz.iy Fence.wide 5 trivial trivial trivial trivial rfl (by omega) (ASq _) (Proofs.enters_of Proofs.Tryz.func117 (by kernel_rfl) rfl) nU #[Aq c] trivial (Proofs.enters_of Proofs.Tryz.func118 (by kernel_rfl) rfl) _ _ (by rw[r];simp[maxLen];omega) (by rw[r];omega) _ F;have H:=callsIn_wide.1 G;refine Calls.mono H ?_;rintro V a ⟨v,e,rfl,I,t,W,f⟩;have u:a=A.at a.heap a.drawn:=vA (A:=A) (h:=h) (n:=n) rfl f.os f.tape f.output;have y:e.Perm (l.map λx=>x.data.toList):=by
  refine(I.trans E).trans ?_;have:=C.map λx:A2P=>x.data.toList
  simpa [AT,FA] using this
 have J:e.length=l.length:=by have:=y.length_eq;simpa using this
 rw[AJo B y,AMv] at t;have z:Ext h a.heap:=⟨f.size,λb d _=>f.block b d⟩;rcases t.2 with⟨rfl,X⟩|⟨g,K,L,rfl,N,O,Q,R,S,U⟩
 ·have:l= []:=CC (by omega);subst this;exact⟨_,rfl,a.heap,a.drawn,u,q ⟨none,0,0⟩ _ Own.nil z (λb d=>by simp[Sl.ai] at d)⟩
 ·refine⟨_,rfl,a.heap,a.drawn,u,q ⟨some ⟨g,0,none⟩,e.length,K⟩ _ ⟨J,.inr ⟨g,L,rfl,O,Q,R,S,U⟩⟩ z (λb d=>?_)⟩;simp[Sl.ai] at d;subst d;exact N
def ka(m:Bx):List A2P×Int:=if m.down then([],30) else(m.files.map (·.name),0)
theorem FI.names {d:aa}{b e:Nat}{a:List (Fi×Nat)}{m:Bx}(c:FI d b e a m):((fi a).map (·.1)).Perm (m.files.map (·.name))/\(fi a).length<=8796093022208:=by
 refine⟨?_,?_⟩
 ·have:=c.perm.map (·.name);simpa [fi,AT,FA] using this
 ·have f:=c.perm.length_eq;have g:=VK m.files;have h:=c.aT.wt;simp at f ⊢;omega
theorem FI.fy {h:ar}{a:aa}{b i:Nat}{n:List (Fi×Nat)}{m:Bx}(d:FI a b i n m){j:Sl->aa->Prop}
  (o: ∀s f,Own IW BC f s (m.files.map (·.name))->Ext a f->(∀ c,s.ai=some c->a.size<=c)->j s f):
  AA h P Bz #[.map (some i)] a λv1 g=> ∃k:J0,v1=k/\(
   AA h P F7 #[k] g λv2 p=> ∃e:Sl,v2=J4 e.p e.len e.cap/\j e p):=by
 refine AQZ λT w q l x=>⟨_,rfl,?_⟩
 refine AMd q (d.map.mod l (λa=>a)) (UA.1 d.aT.sorted) d.names.1 d.names.2 λs g r t u=>⟨s,rfl,?_⟩
 exact o s g r (l.trans t) (λc v=>by have:=u c v;omega)
theorem vT {i:ar}{a:aa}{b:Nat}{j:Nat->Prop}{m:Bx}{h:A2O}(d:Cu a b j m)
  (e: ∀s g,Own IW BC g s (ka m).1->Ext a g->(∀ c,s.ai=some c->a.size<=c)->h (J1 #[J4 s.p s.len s.cap,J6 J9 (ka m).2]) g):AA i P LG #[Aq b] a h:=by
 obtain⟨n,o,d,p⟩:=d;refine ABE ?_;unfold Un;refine lE d.head ⟨_,rfl,?_⟩;unfold ka at e;refine ag.intro (λhd=>?_) (λhd=>?_)
 ·rw[if_pos hd] at e;exact e ⟨none,0,0⟩ a Own.nil Mod.refl (λc k=>by simp[Sl.ai] at k)
 rw[if_neg (by simp[hd])] at e;exact aE (FV.mk (AO d.head rfl) (d.fy λs g l x f=>e s g l x f))
end Go.Lf.G
