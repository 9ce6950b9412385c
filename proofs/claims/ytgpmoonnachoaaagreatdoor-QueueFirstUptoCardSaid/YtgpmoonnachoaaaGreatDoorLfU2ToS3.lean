/-
 Plain law: a box of files (chapter 3).
-/
import Derived.Test.YtgpmoonnachoaaaGreatDoorLfKToGA
import Derived.Test.YtgpmoonnachoaaaGreatDoorLfG1
import Derived.Shelf.Strings.Repeat
import Derived.Shelf.Small.Wraps
import Derived.Shelf.Pu.ParseUintPublic10
import Derived.Shelf.Strconv.Itoa3
import Derived.Shelf.Strconv.AtoiAll
import Derived.Shelf.Strings.BuilderK
import Derived.Test.YtgpmoonnachoaaaGreatDoorLfAToN1
import Derived.Test.YtgpmoonnachoaaaGreatDoorProg
import Derived.Lib.ItoaNum
import Derived.Lib.Repeat
import Derived.Lib.ParseIntB
import Derived.Test.YtgpmoonnachoaaaGreatDoorRows
import Derived.Lib.ItoaLen
import Derived.Lib.AppendIntMem
import Derived.WalkKit
import Derived.ProofKit
import Derived.OpenShut
import Derived.JoinedCond
import Derived.Deep.Slices
import Derived.Carry
import Derived.Shelf.SlGeneric
import Derived.Shelf.SlIter.Nil
import Derived.Shelf.SlIter.Sorted
import Derived.Shelf.SortM.Plain
import Derived.Shelf.SortM.SortNone
set_option maxRecDepth 100000
set_option linter.unusedVariables false
set_option linter.unusedSimpArgs false
open Go.IntKind renaming i64→J9,wrap→J8
open Go.Value renaming string→J7,int→J6,pointer→J5,slice→J4,bool→J3,tuple→J1
open Go.Obj renaming cells→J2
open Go renaming Value→J0,Addr→Q6,TypeId→Q7,FuncId→Q8,Program→Q1
open Go.Addr renaming add→Q9,mk→Q5
namespace Go.Lf
open Go
abbrev bF:A2Q:=⟨#[]⟩
theorem nY:ByteArray.size ⟨#[]⟩=0:=rfl
structure Fi where
 name:A2Q
 bZ:A2Q
 soft:A2Q
deriving DecidableEq
def Gn(l:List Fi):Prop:=l.Pairwise λa b=>aM a.name b.name=true
def Cn(a:A2Q)(l:List Fi):Option Fi:=l.find? λf=>decide (f.name=a)
def P9(a:A2Q)(g:Fi->Fi)(l:List Fi):List Fi:=l.map λf=>if f.name=a then g f else f
def P8(a:A2Q)(l:List Fi):List Fi:=l.filter λf=> !decide (f.name=a)
def gY(x:Fi):List Fi->List Fi
 | []=> [x]
 |q::l=>if aM q.name x.name then q::gY x l else x::q::l
def bg(l:List Fi):Nat:=(l.map λf=>f.bZ.size+f.soft.size+1).sum
theorem Ga(a:A2Q)(x:Fi)(l:List Fi):Cn a (x::l)=if x.name=a then some x else Cn a l:=by unfold Cn;rw[E0];by_cases b:x.name=a<;>simp[b]
theorem KI {b:A2Q}{l:List Fi}{x:Fi}(a:Cn b l=some x):x.name=b/\x∈l:=by unfold Cn at a;exact⟨by simpa using RE a,LN a⟩
theorem Rx {b:A2Q}{l:List Fi}(a:Cn b l=none): ∀x∈l,x.name≠b:=by unfold Cn at a;rw[Hb] at a;simpa using a
theorem AIa {a:A2Q}{l:List Fi}(b: ∀x∈l,x.name≠a):Cn a l=none:=by unfold Cn;rw[Hb];simpa using b
theorem Gn.find {l:List Fi}(s:Gn l){x:Fi}(a:x∈l):Cn x.name l=some x:=by
 induction l with
 |nil=>cases a
 |cons d l c=>
  rw[Ga];have b:=List.pairwise_cons.1 s;rcases List.mem_cons.1 a with rfl|a
  ·simp
  ·rw[if_neg (Lj (b.1 x a))];exact c b.2 a
theorem OP(x:Fi): ∀l,(gY x l).Perm (x::l)
 | []=>GW _
 |q::l=>by
  unfold gY;split
  ·exact((OP x l).cons q).trans (List.Perm.swap x q l)
  ·exact GW _
theorem UW {x:Fi}: ∀ {l:List Fi},Gn l->(∀ b∈l,b.name≠x.name)->Gn (gY x l)
 | [],_,_=>LS _ _
 |q::l,s,e=>by
  have c:=List.pairwise_cons.1 s;unfold gY;split
  ·rename_i d;refine List.pairwise_cons.2 ⟨λb a=>?_,UW c.2 λb a=>e b (AG _ a)⟩;rcases List.mem_cons.1 ((OP x l).subset a) with rfl|a
   ·exact d
   ·exact c.1 b a
  ·rename_i d;have f:aM x.name q.name=true:=by
    cases g:aM x.name q.name
    ·exact absurd (Nz (by simpa using d) g) (e q Cl)
    ·rfl
   refine List.pairwise_cons.2 ⟨λb a=>?_,s⟩;rcases List.mem_cons.1 a with rfl|a
   ·exact f
   ·exact Da f (c.1 b a)
theorem AJ3 {a:A2Q}{g:Fi->Fi}(b: ∀f,(g f).name=f.name)(l:List Fi):(P9 a g l).map (·.name)=l.map (·.name):=by
 unfold P9;rw[Bk];refine CC λf _=>?_
 simp only[Function.comp];split<;>simp[b]
theorem UA {l:List Fi}:Gn l↔nV (l.map (·.name)):=by unfold Gn nV;rw[NX]
theorem wJ {k:A2Q}{g:Fi->Fi}(a: ∀f,(g f).name=f.name){l:List Fi}(s:Gn l):Gn (P9 k g l):=by rw[UA,AJ3 a];exact UA.1 s
theorem AI4 {a:A2Q}{l:List Fi}(s:Gn l):Gn (P8 a l):=s.sublist Gk
theorem Z0 {a c:A2Q}{g:Fi->Fi}(b: ∀f,(g f).name=f.name): ∀l:List Fi,Cn c (P9 a g l)=(Cn c l).map λf=>if f.name=a then g f else f
 | []=>rfl
 |x::l=>by
  show Cn c ((if x.name=a then g x else x)::P9 a g l)=_;rw[Ga,Ga,Z0 b l];have:(if x.name=a then g x else x).name=x.name:=by split<;>simp[b]
  rw[this];by_cases d:x.name=c<;>simp[d]
theorem Zq {k c:A2Q}: ∀l:List Fi,Cn c (P8 k l)=if c=k then none else Cn c l
 | []=>by simp[P8,Cn]
 |x::l=>by
  have b:=Zq (k:=k) (c:=c) l;unfold P8 at b ⊢;rw[AT,Ga];by_cases d:x.name=k
  ·simp only[d,decide_true,Lz,Cp,if_false];rw[b];by_cases a:c=k
   ·simp[a]
   ·simp[a,Ne.symm a]
  ·simp only[d,decide_false,Ly,if_true];rw[Ga,b];by_cases a:c=k
   ·subst a;simp[d]
   ·simp[a]
theorem wK {x:Fi}{c:A2Q}: ∀ {l:List Fi},(∀ a∈l,a.name≠x.name)->Cn c (gY x l)=if x.name=c then some x else Cn c l
 | [],_=>by show Cn c [x]=_;rw[Ga]
 |q::l,d=>by
  unfold gY;split
  ·rw[Ga,wK λa e=>d a (AG _ e),Ga];by_cases b:q.name=c
   ·simp[b];intro f;exact absurd (b.trans f.symm) (d q Cl)
   ·simp[b]
  ·rw[Ga]
theorem Mk(x:Fi)(l:List Fi):bg (x::l)=x.bZ.size+x.soft.size+1+bg l:=by simp[bg]
theorem AOE {l m:List Fi}(a:l.Perm m):bg l=bg m:=(a.map _).sum_nat
theorem wL(x:Fi)(l:List Fi):bg (gY x l)=x.bZ.size+x.soft.size+1+bg l:=by rw[AOE (OP x l),Mk]
theorem VK: ∀l:List Fi,l.length<=bg l
 | []=>by simp[bg]
 |x::l=>by rw[Mk,A5];have:=VK l;omega
theorem nZ {x:Fi}: ∀ {l:List Fi},x∈l->x.bZ.size+x.soft.size<=bg l
 | [],a=>by cases a
 |y::l,a=>by
  rw[Mk];rcases List.mem_cons.1 a with rfl|a
  ·omega
  ·have:=nZ a;omega
theorem qX {k:A2Q}: ∀l:List Fi,bg (P8 k l)<=bg l
 | []=>by simp[P8,bg]
 |x::l=>by
  have:=qX (k:=k) l;unfold P8 at this ⊢;rw[AT];split
  ·rw[Mk,Mk];omega
  ·rw[Mk];omega
theorem ZB {k:A2Q}{g:Fi->Fi}{d:Nat}(a: ∀f,(g f).bZ.size+(g f).soft.size<=f.bZ.size+f.soft.size+d): ∀ {l:List Fi},Gn l->bg (P9 k g l)<=bg l+d
 | [],_=>by simp[P9,bg]
 |x::l,s=>by
  have b:=List.pairwise_cons.1 s;show bg ((if x.name=k then g x else x)::P9 k g l)<=_;rw[Mk,Mk];split
  ·rename_i c;have:P9 k g l=l:=by unfold P9;rw[CC (g:=id) λe h=>?_,KB];have:=Lj (b.1 e h);rw[if_neg (λi=>this (c.trans i.symm))];rfl
   rw[this];have:=a x;omega
  ·have:=ZB a (k:=k) b.2;omega
structure Bx where
 files:List Fi
 fuel:Int
 down:Bool
def kX:Bx:=⟨[],-1,false⟩
def LU(a:A2Q):Bool:=decide (a=bF)||decide (a.size>32)
def IL(m:Bx):Bx:=if m.fuel>0 then {m with fuel:=m.fuel-1} else m
def NP(m:Bx):Bx:= {m with down:=true}
def UI(name:A2Q)(l:List Fi):List Fi:=if(Cn name l).isSome then l else gY ⟨name,bF,bF⟩ l
def Rq(a:A2Q)(f:Fi):Fi:= {f with soft:=f.soft++a}
def SH(f:Fi):Fi:=⟨f.name,f.bZ++f.soft,bF⟩
def EN(m:Bx)(name a:A2Q):Int×Bx:=
 if m.down then(30,m) else if LU name then(1,m) else if m.fuel=0 then(30,NP m) else(0,{IL m with files:=P9 name (Rq a) (UI name m.files)})
def Hg(m:Bx)(name:A2Q):Int×Bx:=
 if m.down then(30,m) else if(Cn name m.files).isNone then(31,m) else if m.fuel=0 then(30,NP m) else(0,{IL m with files:=P9 name SH m.files})
def Gr(m:Bx)(name:A2Q):Int×Bx:=
 if m.down then(30,m) else if(Cn name m.files).isNone then(31,m) else if m.fuel=0 then(30,NP m) else(0,{IL m with files:=P8 name m.files})
def UN(m:Bx)(name:A2Q):A2Q×Int:=
 if m.down then(bF,30) else match Cn name m.files with|none=>(bF,31)|some f=>(f.bZ++f.soft,0)
structure G9 (m:Bx):Prop where
 sorted:Gn m.files
 names: ∀f∈m.files,f.name.size<=32
 lo: -1<=m.fuel
 hi:m.fuel<=9223372036854775807
 wt:bg m.files<=8796093022208
theorem AQQ(a b:A2Q):(a++b).size=a.size+b.size:=Ks
theorem YV(a:A2Q):a++bF=a:=by simp[MT,bF]
theorem RZ(a:A2Q):bF++a=a:=by simp[MT,bF]
theorem ANP:G9 kX:=⟨List.Pairwise.nil,by simp[kX],by simp[kX],by simp[kX],by simp[kX,bg]⟩
theorem G9.tick {m:Bx}(g:G9 m)(l:List Fi)(a:Gn l)(b: ∀f∈l,f.name.size<=32)(c:bg l<=8796093022208):G9 {IL m with files:=l}:=by
 have:=g.lo;have:=g.hi;refine⟨a,b,?_,?_,c⟩
 ·show -1<=(IL m).fuel;unfold IL;split<;>(try simp only[])<;>omega
 ·show(IL m).fuel<=_;unfold IL;split<;>(try simp only[])<;>omega
theorem G9.off {m:Bx}(g:G9 m):G9 (NP m):=⟨g.sorted,g.names,g.lo,g.hi,g.wt⟩
theorem wM {name:A2Q}{l:List Fi}(s:Gn l):Gn (UI name l)/\bg (UI name l)<=bg l+1/\(∀ f∈UI name l,f∈l\/f.name=name):=by
 unfold UI;split
 ·exact⟨s,by omega,λf a=> .inl a⟩
 ·rename_i b;have c:=Rx (by simpa using b);refine⟨UW s c,by rw[wL];simp[nY];omega,λf a=>?_⟩;rcases List.mem_cons.1 ((OP _ l).subset a) with rfl|a
  ·exact .inr rfl
  ·exact .inl a
theorem wN {c:A2Q}{g:Fi->Fi}(d: ∀f,(g f).name=f.name){l:List Fi}{f:Fi}(b:f∈P9 c g l): ∃a∈l,a.name=f.name:=by unfold P9 at b;obtain⟨a,e,rfl⟩:=List.mem_map.1 b;exact⟨a,e,by split<;>simp[d]⟩
theorem G9.append {m:Bx}(g:G9 m){name data:A2Q}(n:bg m.files+data.size+1<=8796093022208):G9 (EN m name data).2:=by
 unfold EN;split
 ·exact g
 ·split
  ·exact g
  ·rename_i e;split
   ·exact g.off
   ·obtain⟨b,o,h⟩:=wM (name:=name) g.sorted;refine g.tick _ (wJ (k:=name) (g:=Rq data) (λ_=>rfl) b) (λf i=>?_) ?_
    ·obtain⟨c,j,l⟩:=wN (g:=Rq data) (λ_=>rfl) i;rw[<- l];rcases h c j with a|a
     ·exact g.names c a
     ·rw[a];simp[LU] at e;omega
    ·have:=ZB (k:=name) (g:=Rq data) (d:=data.size) (λf=>by simp[Rq];omega) b;omega
theorem G9.sync {m:Bx}(g:G9 m){name:A2Q}:G9 (Hg m name).2:=by
 unfold Hg;split
 ·exact g
 ·split
  ·exact g
  ·split
   ·exact g.off
   ·refine g.tick _ (wJ (k:=name) (g:=SH) (λ_=>rfl) g.sorted) (λf a=>?_) ?_
    ·obtain⟨b,c,e⟩:=wN (g:=SH) (λ_=>rfl) a;rw[<- e];exact g.names b c
    ·have:=ZB (k:=name) (g:=SH) (d:=0) (λf=>by simp[SH,nY]) g.sorted;have:=g.wt;omega
theorem G9.delete {m:Bx}(g:G9 m){name:A2Q}:G9 (Gr m name).2:=by
 unfold Gr;split
 ·exact g
 ·split
  ·exact g
  ·split
   ·exact g.off
   ·exact g.tick _ (AI4 g.sorted) (λf a=>g.names f (List.mem_filter.1 a).1) (AE (qX _) g.wt)
theorem Zc {m:Bx}(g:G9 m)(name a:A2Q):bg (EN m name a).2.files<=bg m.files+a.size+1:=by
 unfold EN;split
 ·simp;omega
 ·split
  ·simp;omega
  ·split
   ·simp[NP];omega
   ·obtain⟨b,c,_⟩:=wM (name:=name) g.sorted;have:=ZB (k:=name) (g:=Rq a) (d:=a.size) (λf=>by simp[Rq];omega) b;simp;omega
theorem o0 {m:Bx}(g:G9 m)(name:A2Q):bg (Hg m name).2.files<=bg m.files:=by
 unfold Hg;split
 ·simp
 ·split
  ·simp
  ·split
   ·simp[NP]
   ·have:=ZB (k:=name) (g:=SH) (d:=0) (λf=>by simp[SH,nY]) g.sorted;simpa using this
theorem Zd {m:Bx}(name:A2Q):bg (Gr m name).2.files<=bg m.files:=by
 unfold Gr;split
 ·simp
 ·split
  ·simp
  ·split
   ·simp[NP]
   ·exact qX _
theorem xG {d:Type}{a:cD d}{x e:d}{c:Nat}{v:J0}(f:a.enc e=(a.enc x).set c v)(g:c<a.w): ∀ {l:List d} {i:Nat},l[i]? =some x->(l.set i e).flatMap a.enc=(l.flatMap a.enc).set (i*a.w+c) v
 | [],_,b=>by simp at b
 |y::l,0,b=>by
  simp at b;subst b;rw[List.set_cons_zero,AH,AH,f,HU,AI,ZS _ _ (by rw[a.len];exact g)]
 |y::l,i+1,b=>by
  rw[List.set_cons_succ,AH,AH,xG f g (l:=l) (i:=i) (by simpa using b),HN _ _ (by rw[a.len,BT];omega),a.len];rw[show(i+1)*a.w+c-a.w=i*a.w+c by rw[BT];omega]
theorem Own.store {e:Type}{E:cD e}{T:Q7}{d:aa}{s:Sl}{l:List e}{i j:Nat}{x x':e}{v:J0}{K:aa->Prop}(f:Own E T d s l)(h:l[i]? =some x)(q:E.enc x'=(E.enc x).set j v)(r:j<E.w)
  (t: ∀b,Own E T b s (l.set i x')->Mod (λc=>s.ah=some c) d b->b.size=d.size->K b): ∀a,s.p=some a->ae d ((a.add (i*E.w)).add j) v K:=by
 intro a n;rcases f.row with⟨rfl,rfl⟩|⟨g,u,k,w,o,y,p,z⟩
 ·simp at h
 ·rw[k] at n;cases n;rw[add_add,Bh,AI];have A:i<l.length:=(List.getElem?_eq_some_iff.1 h).1;have F:i*E.w+j<s.len*E.w:=by have:(i+1)*E.w<=s.len*E.w:=AS _ (by rw[f.len];exact A);rw[BT] at this;omega
  have G:s.len*E.w<=u.size:=by rw[p];exact AS _ o
  refine ae.mk w (by omega) λb B m C=>t b ⟨by rw[RC];exact f.len,.inr ⟨g,_,k,B,o,y,by simpa using p,?_⟩⟩ (m.aj λc _ D=>by simp[Sl.ah,k,D]) C
  rw[DS,List.take_set,z,xG q r h]
theorem Own.ne {d:Type}{h:cD d}{T e:Q7}{f:aa}{s:Sl}{l:List d}(i:Own h T f s l){b:Nat}{j:Array J0}{fr:Nat×Nat}(a:f[b]? =some (J2 j e fr))(k:T≠e):s.ah≠some b:=by
 intro c;rcases i.row with⟨rfl,_⟩|⟨g,p,m,n,_⟩
 ·simp[Sl.ah] at c
 ·simp[Sl.ah,m] at c;subst c;rw[n] at a;injection a with a;injection a with _ o _;exact k o
end Go.Lf
namespace Go.Lf.G
open Go
theorem Ol:P.underlying Az=some .string:=by kernel_rfl
theorem ky:P.underlying Di=some (.int .u8):=by kernel_rfl
theorem Wt:P.underlying Cs=some (.slice Di):=by kernel_rfl
theorem yd:QE P Cs Di GN.w 1=true:=by kernel_rfl
theorem Cc {y:aq}{d:aa}{n:Nat}{q:A2P}(z:n<18446744073709551616)(A: ∀e,Ext d e->q (.string (AX (Bd n))) e):AA y P Ay #[.int .u64 (n:Int)] d q:=by
 refine AIN ?_;unfold uN;have r:=AV z;refine Loop.rule (λm x f=> ∃(a:Nat) (s:Sl) (c:List UInt8),x=((a:Int),s,())/\Own GN Di f s c/\Ext d f/\(∀ b,s.ah=some b->d.size<=b)/\Bd n=c++Bd a/\m=a) ?_
  ⟨n,⟨none,0,0⟩,[],rfl,Own.nil,Mod.refl,λb g=>by simp[Sl.ah] at g,rfl,rfl⟩
 rintro K m _ f ⟨a,s,c,rfl,t,x,h,i,F⟩ B;have hd:c.length<=10:=by rw[i] at r;simp at r;omega
 refine af.intro (λj=>?_) (λj=>?_)
 ·have k: ¬a<128:=by simp at j;omega
  refine al.aY (E:=GN) (x:=Br (a % 128+128)) (s:=s) (l:=c) (by dsimp only[GN];rw[AQW]) yd t (by simp;omega) (by simp[maxLen];omega) λu e o p v C=>?_
  refine B (a / 128) _ _ (by omega) ⟨a / 128,u,c++ [Br (a % 128+128)],?_,o,x.more p h,λb g=>?_,?_,rfl⟩
  ·dsimp only;rw[Qa a 7]
  ·rcases v b g with w|w
   ·exact h b w
   ·have:=x.size;omega
  ·rw[i,Xp k];simp
 ·have k:a<128:=by simp at j;omega
  refine al.aY (E:=GN) (x:=Br a) (s:=s) (l:=c) (by dsimp only[GN];rw[DR (show a<256 by omega),wrap_u8,An (show a<256 by omega)]) yd t (by simp;omega) (by simp[maxLen];omega) λu e o p v C=>?_
  refine JP Wt ky Ol o.view ⟨_,rfl,?_⟩;have D:c++ [Br a]=Bd n:=by rw[i,FU k]
  rw[D];exact A _ (x.more p h)
theorem AOR(a:Nat):(if(10:Int)<(a:Int) then(10:Int) else(a:Int))=((min a 10:Nat):Int):=by split<;>omega
theorem ye {D:aq}{e:aa}{s:A2Q}{n:A2P}(V:s.size<=8796093022208)
  (v:Mf 0 0 s.data.toList=none->n (.tuple #[.int .u64 0,.string ⟨#[]⟩,.bool false]) e)
  (E: ∀w t,Mf 0 0 s.data.toList=some (w,t)->n (.tuple #[.int .u64 (w:Int),.string (AX t),.bool true]) e):AA D P Re #[.string s] e n:=by
 refine AHV ?_;unfold uX;have W:s.data.toList.length=s.size:=by rw[DO];rfl
 refine Loop.rule (λm x o=> ∃(i a:Nat),x=((a:Int),(i:Int),())/\o=e/\i<=s.size/\i<=10/\a<128^i/\Mf 0 0 s.data.toList=Mf i a (s.data.toList.drop i)/\m=10-i) ?_
  ⟨0,0,rfl,rfl,by omega,by omega,by simp,rfl,rfl⟩
 rintro K m _ o ⟨i,a,rfl,y,X,Y,F,p,Z⟩ G;subst o;dsimp only;rw[AOR];refine af.intro (λd=>?_) (λd=>?_)
 ·have z:i<s.size/\i<10:=by simp at d;omega
  have q:i<s.data.toList.length:=by omega
  refine⟨⟨by omega,by omega⟩,?_⟩;obtain⟨c,r⟩: ∃c,s.data.toList[i]? =some c:=⟨_,A2 q⟩;have A:s.data.toList.drop i=c::s.data.toList.drop (i+1):=by rw[DH q];rw[A2 q] at r;rw[C2 r]
  have B:c.toNat<256:=c.toNat_lt;rw[Nu r];have H:((i=9/\1<c.toNat)\/(0<i/\c.toNat=0))->Mf 0 0 s.data.toList=none:=λg=>by
   rw[p,A,Mf,if_pos (.inr g)]
  have I: ¬((i=9/\1<c.toNat)\/(0<i/\c.toNat=0))->Mf 0 0 s.data.toList=if c.toNat<128 then some (a+c.toNat*128^i,s.data.toList.drop (i+1)) else Mf (i+1) (a+c.toNat % 128*128^i) (s.data.toList.drop (i+1)):=λg=>by
   rw[p,A,Mf,if_neg (λe=>e.elim (by omega) g)]
  refine ai.mk λJ L=>?_
  have key: ∀(b:Bool),(b=true↔((i=9/\1<c.toNat)\/(0<i/\c.toNat=0)))->J (b,()) e:=λb g=>by
   refine L _ _ ?_;refine af.intro (λM=>v (H (g.1 M))) (λC=>?_);have N: ¬((i=9/\1<c.toNat)\/(0<i/\c.toNat=0)):=λe=>by rw[g.2 e] at C;cases C
   have j:=I N;have O:J8 J9 ((7:Int)*(i:Int))=((7*i:Nat):Int):=by rw[show(7:Int)*(i:Int)=((7*i:Nat):Int) by simp];exact Fb (by omega)
   have Q:Gd .u8 (c.toNat:Int) (127:Int)=((c.toNat % 128:Nat):Int):=by have:=yc (a:=c.toNat) (b:=127) B (by decide);rw[ASs _ B] at this;exact this
   have R:J8 .u64 ((c.toNat % 128:Nat):Int)=((c.toNat % 128:Nat):Int):=by rw[wrap_u64,An (by omega)]
   rw[O,Q,R,ATC (by omega) (CA _ (by decide)),AQ7 (by omega) F (CA _ (by decide)),Aa (by omega)];have ab:=MJ (show i<=9 by omega);have S:(128:Nat)^9=9223372036854775808:=by decide
   have T:c.toNat % 128*128^i % 18446744073709551616=c.toNat % 128*128^i:=by
    refine An ?_;by_cases k:i=9
    ·subst k;have:c.toNat<=1:=by omega
     rw[S];omega
    ·have ac:=MJ (show i<=8 by omega);have ad:(128:Nat)^8=72057594037927936:=by decide
     have:c.toNat % 128*128^i<=127*128^i:=AS _ (by omega);omega
   rw[T];refine⟨by omega,?_⟩;refine af.intro (λd=>?_) (λd=>?_)
   ·have l:c.toNat<128:=by simp at d;omega
    rw[if_pos l] at j;refine⟨⟨by omega,by omega⟩,?_⟩;have:=E _ _ j;rw[An l];have y:s.extract ((i+1:Nat):Int).toNat s.size=AX (s.data.toList.drop (i+1)):=rk _ _;rw[y];exact this
   ·have l: ¬c.toNat<128:=by simp at d;omega
    rw[if_neg l] at j;refine G (10-(i+1)) _ _ (by omega) ⟨i+1,a+c.toNat % 128*128^i,rfl,rfl,by omega,by omega,?_,j,rfl⟩;have:(c.toNat % 128+1)*128^i<=128*128^i:=AS _ (by omega);rw[BT] at this;rw[DG,CD (128^i)];omega
  refine af.intro (λd=>?_) (λd=>?_)
  ·have k:i=9:=by simp at d;omega
   refine af.intro (λu=>key _ ⟨λ_=> .inl ⟨k,by simp at u;omega⟩,λ_=>rfl⟩) (λu=>?_);refine af.intro (λh=>key _ ⟨λf=> .inr ⟨by omega,by simp at f;omega⟩,λf=>by simp at u ⊢;omega⟩) (λh=>?_);simp at h;omega
  ·have k:i≠9:=by simp at d;omega
   refine af.intro (λh=>key _ ⟨λf=> .inr ⟨by simp at h;omega,by simp at f;omega⟩,λf=>(by simp;omega)⟩) (λh=>key _ ⟨(λf=>(by cases f)),λf=>(by simp at h;omega)⟩)
 ·have z:s.size=i\/i=10:=by simp at d;omega
  refine v ?_;rw[p];rcases z with U|U
  ·rw[HD (by omega)];rfl
  ·cases hd:s.data.toList.drop i with
   |nil=>rfl
   |cons c t=>rw[Mf,if_pos (.inl (by omega))]
theorem aD {a:Q6}{K:Q6->Prop}(b:K a):At (some a) K:=b
theorem ae.dr {a:aa}{b d:Nat}{v:J0}{e:Array J0}{T:Q7}{K:aa->Prop}(f:a[b]? =some (J2 e T (0,0)))(g:d<e.size)
  (h: ∀c,c[b]? =some (J2 (e.setIfInBounds d v) T (0,0))->Mod (· =b) a c->c.size=a.size->K c):ae a ((⟨b,0,none⟩:Q6).add d) v K:=by
 rw[Bh,AI];exact ae.mk f g h
theorem max_i64:IntKind.max J9=9223372036854775807:=by simp_all
theorem wrap_i64 {n:Int}(a: -9223372036854775808<=n)(b:n<=9223372036854775807):J8 J9 n=n:=by grind [J8,IntKind.bits,IntKind.signed]
theorem CG {a:Nat}(b:a<18446744073709551616):J8 .u64 (a:Int)=(a:Int):=by rw[wrap_u64,An b]
abbrev Ar(b:Nat):J0:=J5 (some ⟨b,0,none⟩)
def Ia(c:aa)(b:Nat)(a:Rd):Prop:=c[b]? =some (J2 #[J7 (AX a.rest),J3 a.bad] WC (0,0))
theorem yf:AX []=⟨#[]⟩:=rfl
theorem yg(l:List UInt8)(a:Nat):(AX l).extract 0 a=AX (l.take a):=by rw[AOL,Be]
theorem VJ(l:List UInt8)(a:Nat):(AX l).extract a (AX l).size=AX (l.drop a):=by rw[rk,Be]
theorem AO0(l:List UInt8)(i a:Nat):(AX l).extract i a=AX ((l.take a).drop i):=by rw[dW,Be]
theorem Aj(a b:List UInt8):AX a++AX b=AX (a++b):=by apply SO;simp[AX,Kf]
theorem Qy {A:aq}{h:aa}{l:List UInt8}{R:A2P}(d:l.length<=1099511627776)(b: ∀a,Ext h a->R (J7 (AX (BU l))) a):AA A P CE #[J7 (AX l)] h R:=by
 refine AGs ?_;unfold uM;rw[AP,CG (by omega)];have:=AV (n:=l.length) (by omega);refine Cc (by omega) λe c=>⟨_,rfl,⟨by rw[AP,max_i64];omega,?_⟩⟩
 rw[Aj];exact b _ c
theorem Jp {d:aq}{a:aa}{l:List UInt8}{c:A2P}(e: ∀b,Ia b a.size ⟨l,false⟩->Ext a b->c (Ar a.size) b):AA d P EZ #[J7 (AX l)] a c:=by refine AHE ?_;unfold uR;exact al.mk λf _ g x _=>e f g x
theorem yh {j:aq}{d:aa}{b:Nat}{a:Rd}{h:A2P}(e:Ia d b a)(q:a.rest.length<=1099511627776)
  (i: ∀f,Ia f b (Ha a).2->Mod (· =b) d f->h (.int .u64 ((Ha a).1:Int)) f):AA j P Ip #[Ar b] d h:=by
 refine Wm ?_;unfold PY;refine ai.mk λK k=>af.no rfl (aD (Ac.mk (AB e rfl) (k _ _ ?_)))
 refine af.intro (λc=>?_) (λc=>?_)
 ·have:=i d;rw[AOM c] at this;exact this e Mod.refl
 ·refine aD (AJ.mk (AO e rfl) ?_);have c:a.bad=false:=c;refine ye (by grind [AP,Nat.le_trans]) (λg=>⟨_,_,_,rfl,?_⟩) (λr t g=>⟨_,_,_,rfl,?_⟩)
  all_goals
   rw[Be] at g;refine aD (ae.mk e (by simp) λs l m u=>aD (ae.dr l (by simp) λn o p v=>?_));have:=i n;simp only[Ha,c,g] at this;exact this o (m.trans p)
theorem ANw {m:Nat}(a:m<=9223372036854775807):J8 .u64 (m:Int)=(m:Int):=CG (by omega)
theorem DN {l:aq}{e:aa}{b:Nat}{c:Rd}{most:Nat}{j:A2P}(m:Ia e b c)(n:c.rest.length<=1099511627776)(o:most<=9223372036854775807)
  (f: ∀g,Ia g b (CQ most c).2->Mod (· =b) e g->j (J6 J9 ((CQ most c).1:Int)) g):AA l P Ab #[Ar b,J6 J9 (most:Int)] e j:=by
 refine XI ?_;unfold PP;refine yh m n λk d h=>⟨_,rfl,?_⟩
 refine ai.mk λK p=>af.no rfl (aD (Ac.mk (AB d rfl) (p _ _ ?_)))
 refine af.intro (λa=>?_) (λa=>?_)
 ·have:=f k;have a:(Ha c).2.bad=true:=a;simp only[CQ,a,if_true] at this;exact this d h
 ·have a:(Ha c).2.bad=false:=a;refine ai.mk λw q=>af.no (by simp) (q _ _ ?_)
  rw[ANw o];refine af.intro (λi=>?_) (λi=>?_)
  ·refine aD (ae.mk d (by simp) λx r s y=>aD (ae.dr r (by simp) λt u v z=>?_));have:=f t;simp only[CQ,a] at this;rw[if_neg (by simp),if_pos (by simp at i;omega)] at this;exact this u ((h.trans s).trans v)
  ·have:=f k;simp at i;simp only[CQ,a] at this;rw[if_neg (by simp),if_neg (by omega)] at this;rw[Fb (by omega)];exact this d h
theorem rn {n:aq}{f:aa}{b g:Nat}{d:Rd}{l:A2P}(c:Ia f b d)
  (h: ∀i,Ia i b (KQ g d).2->Mod (· =b) f i->l (J7 (AX (KQ g d).1)) i):AA n P Fx #[Ar b,J6 J9 (g:Int)] f l:=by
 refine Vd ?_;unfold Oz;refine ai.mk λK o=>af.no rfl (aD (Ac.mk (AB c rfl) (o _ _ ?_)))
 refine af.intro (λa=>?_) (λa=>?_)
 ·have:=h f;have a:d.bad=true:=a;simp only[KQ,a,if_true] at this;exact this c Mod.refl
 ·have a:d.bad=false:=a;refine ai.mk λu p=>af.no (by simp) (aD (AJ.mk (AO c rfl) (p _ _ ?_)))
  rw[AP];refine af.intro (λj=>?_) (λj=>?_)
  ·refine aD (ae.mk c (by simp) λm e k q=>aD (ae.dr e (by simp) λr s t v=>?_));have:=h r;simp only[KQ,a] at this;rw[if_neg (by simp),if_pos (by simp at j;omega)] at this;exact this s (k.trans t)
  ·simp at j;refine aD (AJ.mk (AO c rfl) ⟨⟨by omega,by rw[AP];omega⟩,aD (AJ.mk (AO c rfl) ⟨⟨by omega,by rw[AP];omega⟩,aD (ae.mk c (by simp) λm e k q=>?_)⟩)⟩);have:=h m;simp only[KQ,a] at this;rw[if_neg (by simp),if_neg (by omega)] at this;simp only[A6,yg,VJ] at e ⊢;rw[a] at e;exact this e k
theorem G7 {k:aq}{d:aa}{b:Nat}{a:Rd}{g:A2P}(l:Ia d b a)(v:a.rest.length<1099511627776)
  (h: ∀e,Ia e b (GY a).2->Mod (· =b) d e->g (J7 (AX (GY a).1)) e):AA k P Bg #[Ar b] d g:=by
 refine Va ?_;unfold O0;refine yh l (by omega) λm f i=>⟨_,rfl,?_⟩
 have w:=Tk a;refine ai.mk λK n=>af.no rfl (aD (Ac.mk (AB f rfl) (n _ _ ?_)))
 refine af.intro (λc=>?_) (λc=>?_)
 ·have:=h m;have c:(Ha a).2.bad=true:=c;simp only[GY,c,if_true] at this;exact this f i
 ·have c:(Ha a).2.bad=false:=c;have o:J8 J9 (if(1099511627776:Int)<((Ha a).1:Int) then 1099511627776 else((Ha a).1:Int))=((min (Ha a).1 1099511627776:Nat):Int):=by grind [wrap_i64]
  rw[o];refine rn f λp j q=>⟨_,rfl,?_⟩
  have:=h p;simp only[GY,c] at this;rw[if_neg (by simp)] at this;have r:KQ (min (Ha a).1 1099511627776) (Ha a).2=KQ (Ha a).1 (Ha a).2:=by
   by_cases s:(Ha a).1<=1099511627776
   ·rw[Fm s]
   ·have t:(Ha a).2.rest.length<min (Ha a).1 1099511627776:=by omega
    have u:(Ha a).2.rest.length<(Ha a).1:=by omega
    simp only[KQ,c,Cp,if_false,if_pos t,if_pos u]
  rw[r] at j ⊢;exact this j (i.trans q)
theorem MQ {g:aq}{c:aa}{b:Nat}{r:Rd}{e:A2P}(f:Ia c b r)(a:e (J3 (Ya r)) c):AA g P CK #[Ar b] c e:=by
 refine Wp ?_;unfold Pj;refine af.yes rfl (aD (Ac.mk (AB f rfl) ?_));unfold Ya at a;refine af.intro (λd=>?_) (λd=>?_)
 ·refine aD (AJ.mk (AO f rfl) ?_);rw[d] at a;have h:bO (AX r.rest) (⟨#[]⟩:A2Q)=r.rest.isEmpty:=by grind [CU,yf,Mi]
  rw[h];simpa using a
 ·rw[d] at a;exact a
theorem APo {c:Nat}(e:c<4294967296):ZU .u32 ((c:Int).fdiv ((2:Int)^(1:Nat))) (Gd .u32 (3988292384:Int) (J8 .u32 (0-(Gd .u32 (c:Int) (1:Int)))))=((mB c:Nat):Int):=by
 have f:Gd .u32 (c:Int) (1:Int)=((c % 2:Nat):Int):=by rw[<- Nat.and_one_is_mod];exact ARU e (by decide)
 rw[Qa c 1,f];unfold mB;have hd:c / 2^1<4294967296:=by omega
 by_cases a:c % 2=1
 ·rw[if_pos a,a];have b:J8 .u32 (0-((1:Nat):Int))=((4294967295:Nat):Int):=by decide
  have d:Gd .u32 (3988292384:Int) ((4294967295:Nat):Int)=((3988292384:Nat):Int):=by decide
  rw[b,d,VC hd (by decide)]
 ·rw[if_neg a,show c % 2=0 by omega];have b:J8 .u32 (0-((0:Nat):Int))=((0:Nat):Int):=by decide
  have d:Gd .u32 (3988292384:Int) ((0:Nat):Int)=((0:Nat):Int):=by decide
  rw[b,d,VC hd (by decide)];simp
theorem ARq {c:Nat}(d:c<4294967296):ZU .u32 (if IntKind.signed .u32 then -1 else IntKind.max .u32) (c:Int)=((4294967295-c:Nat):Int):=by
 have e:(if IntKind.signed .u32 then -1 else IntKind.max .u32)=((4294967295:Nat):Int):=by decide
 rw[e,VC (by decide) d];congr 1;have f:4294967295-c=2^32-(c+1):=by omega
 have g:(4294967295:Nat)=2^32-1:=by decide
 have a:c<2^32:=by omega
 rw[f,g];apply Nat.eq_of_testBit_eq;intro i;rw[Nat.testBit_xor,Nat.testBit_two_pow_sub_one,Nat.testBit_two_pow_sub_succ a];by_cases b:i<32
 ·simp[b]
 ·have:c.testBit i=false:=Nat.testBit_lt_two_pow (Fk a (RR (by decide) (by omega)));simp[b,this]
theorem yi {q:aq}{d:aa}{l:List UInt8}{k:A2P}(v:l.length<=1099511627776)(r:k (.int .u32 (jh l:Int)) d):AA q P Pe #[J7 (AX l)] d k:=by
 refine AGt ?_;unfold uV;rw[AP];refine Loop.rule (λm x b=> ∃i:Nat,x=((iQ (l.take i):Int),(i:Int),())/\b=d/\m=l.length-i/\i<=l.length) ?_ ⟨0,rfl,rfl,rfl,by omega⟩;rintro K m _ b ⟨i,rfl,e,rfl,w⟩ s;subst b;refine af.intro (λf=>?_) (λf=>?_)
 ·have g:i<l.length:=by simpa using f
  obtain⟨c,o⟩: ∃c,l[i]? =some c:=⟨_,A2 g⟩;have y:c.toNat<256:=c.toNat_lt;refine⟨⟨by dsimp only;omega,by dsimp only;omega⟩,?_⟩;have p:=y4 (l.take i);dsimp only;rw[Nu (c:=c) (by rw[Be];exact o),wrap_u32,An (show c.toNat<4294967296 by omega),VC p (by omega)];have t:iQ (l.take i) ^^^ c.toNat<4294967296:=Ln (n:=32) p (by omega);refine Loop.rule (λm x b=> ∃a:Nat,x=((oD a (iQ (l.take i) ^^^ c.toNat):Int),(a:Int),())/\b=d/\m=8-a/\a<=8) ?_ ⟨0,rfl,rfl,rfl,by omega⟩;rintro z A _ b ⟨a,rfl,e,rfl,B⟩ u;subst b;refine af.intro (λh=>?_) (λh=>?_)
  ·have j:a<8:=by simp at h;omega
   dsimp only;rw[APo (rj t a),Aa (by omega)];exact u (8-(a+1)) _ _ (by omega) ⟨a+1,rfl,rfl,rfl,j⟩
  ·have j:a=8:=by simp at h;omega
   subst j;dsimp only;rw[Aa (by omega)];refine s (l.length-(i+1)) _ _ (by omega) ⟨i+1,?_,rfl,rfl,g⟩;rw[Ax,o,Ds,ANn];rfl
 ·have g:i=l.length:=by simp at f;omega
  have e:l.take i=l:=AF (by omega);dsimp only;rw[e,ARq (y4 l)];exact r
theorem rp(a b:Nat):J8 .u8 ((a:Int).fdiv ((2:Int)^b))=(((Br (a / 2^b % 256)).toNat:Nat):Int):=by rw[Qa,wrap_u8,DR (CA _ (by decide))]
theorem yj {f:aq}{b:aa}{a:Nat}{c:A2P}(g: ∀d,Ext b d->c (J7 (AX (Qw a))) d):AA f P Ny #[.int .u32 (a:Int)] b c:=by
 refine AEe ?_;unfold ZA;refine al.mk λh _ e x _=>?_
 have i:J8 .u8 (a:Int)=(((Br (a % 256)).toNat:Nat):Int):=by rw[wrap_u8,DR (CA _ (by decide))]
 rw[rp,rp,rp,i] at e;have j:Own GN Di h ⟨some ⟨b.size,0,none⟩,4,4⟩ (Qw a):=Own.lit (E:=GN) (l:=Qw a) e rfl (by simp[maxLen,Qw]);exact JP (s:=⟨some ⟨b.size,0,none⟩,4,4⟩) Wt ky Ol j.view ⟨_,rfl,g _ x⟩
theorem rq {e:aq}{a:aa}{l:List UInt8}{b:A2P}(f:l.length<=1099511627776)(g:1048576<l.length->b (J1 #[J7 ⟨#[]⟩,J6 J9 2]) a)
  (h:l.length<=1048576-> ∀d,Ext a d->b (J1 #[J7 (AX (Ct l)),J6 J9 0]) d):AA e P Hq #[J7 (AX l)] a b:=by
 refine AEV ?_;unfold Yb;rw[AP];refine af.intro (λc=>g (by simp at c;omega)) (λc=>?_);have i:l.length<=1048576:=by simp at c;omega
 have:=AV (n:=l.length) (by omega);rw[CG (by omega)];refine Cc (by omega) λm j=>⟨_,rfl,?_⟩
 refine yi f ⟨_,rfl,?_⟩;refine yj λo k=>⟨_,rfl,⟨?_,?_,?_⟩⟩
 ·grind [AP,max_i64,KW]
 ·rw[Aj,AP,max_i64,A1,KW];omega
 ·rw[Aj,Aj];exact h i _ (j.trans k)
theorem yk {B:aq}{f:aa}{l:List UInt8}{w:A2P}(C:l.length<=8796093022208)
  (g: ∀y,Ext f y->w (J1 #[J7 (AX (Gu l).2.1),J7 (AX (Gu l).2.2),J6 J9 ((Gu l).1:Int)]) y):AA B P Ru #[J7 (AX l)] f w:=by
 refine AEQ ?_;unfold YT;rw[AP];have d:=g f Mod.refl;refine ye (by rw[AP];exact C) (λh=>⟨_,_,_,rfl,?_⟩) (λb t h=>⟨_,_,_,rfl,?_⟩)<;>rw[Be] at h
 ·have k:Gu l=if l.length<10/\ ∀c∈l,128<=c.toNat then(20,[],[]) else(21,[],[]):=by unfold Gu;rw[h]
  rw[k] at d;refine ai.mk λK n=>af.yes rfl (n _ _ ?_)
  refine af.intro (λa=>?_) (λa=>?_)
  ·have o:l.length<10:=by simp at a;omega
   refine Loop.rule (λm x e=> ∃i:Nat,x=((i:Int),())/\e=f/\m=l.length-i/\i<=l.length/\ ∀c∈l.take i,128<=c.toNat) ?_ ⟨0,rfl,rfl,rfl,by omega,by simp⟩;rintro Q m _ e ⟨i,rfl,R,rfl,S,z⟩ D;subst e;refine af.intro (λp=>?_) (λp=>?_)
   ·have q:i<l.length:=by simpa using p
    obtain⟨c,E⟩: ∃c,l[i]? =some c:=⟨_,A2 q⟩;refine⟨⟨by dsimp only;omega,by dsimp only;omega⟩,?_⟩;dsimp only;rw[Nu (c:=c) (by rw[Be];exact E)];refine af.intro (λF=>?_) (λF=>?_)
    ·rw[if_neg] at d
     ·exact d
     grind
    ·rw[Aa (by omega)];refine D (l.length-(i+1)) _ _ (by omega) ⟨i+1,rfl,rfl,rfl,q,λx T=>?_⟩
     grind [List.take_add_one,Option.toList_some]
   ·have q:i=l.length:=by simp at p;omega
    rw[AF (by omega)] at z;rw[if_pos ⟨o,z⟩] at d;exact d
  ·have o: ¬l.length<10:=by simp at a;omega
   rw[if_neg (λe=>o e.1)] at d;refine ai.mk λG r=>af.yes rfl (r _ _ (af.yes rfl d))
 ·obtain⟨U,V⟩:=mz h;have W:t.length<=8796093022208:=by grind
  have k:Gu l=if 1048576<b then(21,[],[]) else if t.length<4+b then(20,[],[])
    else if t.take 4=Qw (jh ((t.drop 4).take b)) then(0,(t.drop 4).take b,t.drop (4+b)) else(21,[],[]):=by unfold Gu;rw[h]
  rw[k] at d g;refine ai.mk λK n=>af.no rfl (n _ _ (af.no rfl ?_))
  refine ai.mk λG r=>af.no rfl (r _ _ ?_)
  refine af.intro (λa=>?_) (λa=>?_)
  ·have s:1048576<b:=by simp at a;omega
   rw[if_pos s] at d;exact d
  have s: ¬1048576<b:=by simp at a;omega
  rw[if_neg s] at d g;rw[AP];refine ai.mk λH I=>?_
  have key: ∀u:Bool,(u=true↔t.length<4+b)->H (u,()) f:=λu J=>by
   refine I _ _ ?_;refine af.intro (λa=>?_) (λa=>?_)
   ·rw[if_pos (J.1 a)] at d;exact d
   have v: ¬t.length<4+b:=λe=>by grind
   rw[if_neg v] at d g;have L:J8 .u64 ((4:Int)+(b:Int))=((4+b:Nat):Int):=by grind [CG]
   rw[L];refine⟨⟨by omega,by omega⟩,⟨by omega,by omega⟩,⟨by omega,by omega⟩,?_⟩;have M:(AX t).extract (4:Int).toNat ((4+b:Nat):Int).toNat=AX ((t.drop 4).take b):=by rw[show(4:Int).toNat=4 from rfl,A6,AO0,List.drop_take];congr 2;omega
   have em:(AX t).extract 0 (4:Int).toNat=AX (t.take 4):=yg _ _;have A:(AX t).extract ((4+b:Nat):Int).toNat (AX t).size=AX (t.drop (4+b)):=by rw[A6,VJ]
   rw[AP] at A;rw[M,em,A];refine yi (by simp;omega) ⟨_,rfl,?_⟩;refine yj λv N=>⟨_,rfl,?_⟩
   have j:=g v N;rw[CU];refine af.intro (λa=>?_) (λa=>?_)
   ·rw[if_neg (by grind)] at j;exact j
   ·rw[if_pos (by grind [Mi])] at j;exact⟨⟨by omega,by omega⟩,j⟩
  refine af.intro (λa=>key _ ⟨λ_=>by simp at a;omega,λ_=>rfl⟩) (λa=>key _ ?_);have X:4<=t.length:=by simp at a;omega
  have O:J8 .u64 (J8 J9 ((t.length:Int)-(4:Int)))=((t.length-4:Nat):Int):=by grind [Fb,CG]
  rw[O];simp;omega
theorem FW.mk {b:aa}{a:Q6}{K:Option Nat->Prop}{n:Option Nat}(c:ag b a=some (.map n))(d:K n):FW b a K:=⟨n,c,d⟩
theorem jN:P.underlying CL=some (.map Az vO):=by kernel_rfl
theorem lE:(zeroValue vO).calc P=some (J5 none):=by kernel_rfl
abbrev fi(a:List (Fi×Nat)):List (A2Q×J0):=a.map λp=>(p.1.name,Ar p.2)
structure FI (h:aa) (b r:Nat) (kv:List (Fi×Nat)) (m:Bx):Prop where
 head:h[b]? =some (J2 #[.map (some r),J6 J9 m.fuel,J3 m.down] Zb (0,0))
 map:VX h r (fi kv)
 cells: ∀p∈kv,h[p.2]? =some (J2 #[J7 p.1.bZ,J7 p.1.soft] XN (0,0))
 perm:(kv.map (·.1)).Perm m.files
 nodup:(kv.map (·.2)).Nodup
 aS:G9 m
def KU(b a:Nat)(d:List (Fi×Nat))(c:Nat):Prop:=c=b\/c=a\/ ∃p∈d,p.2=c
def Cu(e:aa)(b:Nat)(f:Nat->Prop)(m:Bx):Prop:= ∃a d,FI e b a d m/\ ∀c,f c↔KU b a d c
theorem FI.gA {e:aa}{b a:Nat}{f:List (Fi×Nat)}{m:Bx}(c:FI e b a f m):a≠b:=by rintro rfl;obtain⟨g,h,d,_⟩:=c.map;rw[c.head] at d;cases d
theorem FI.eT {g:aa}{b c:Nat}{d:List (Fi×Nat)}{m:Bx}(a:FI g b c d m){p:Fi×Nat}(h:p∈d):p.2≠b/\p.2≠c:=by
 have e:=a.cells p h;constructor
 ·intro f;rw[f,a.head] at e;cases e
 ·intro f;obtain⟨i,j,k,_⟩:=a.map
  simp_all
theorem FI.lt {d:aa}{b e:Nat}{f:List (Fi×Nat)}{m:Bx}(a:FI d b e f m){c:Nat}(g:KU b e f c):c<d.size:=by
 rcases g with rfl|rfl|⟨p,h,rfl⟩
 ·exact Ah a.head
 ·exact a.map.lt
 ·exact Ah (a.cells p h)
theorem Cu.lt {d:aa}{b:Nat}{e:Nat->Prop}{m:Bx}(a:Cu d b e m){c:Nat}(f:e c):c<d.size:=by obtain⟨h,i,a,g⟩:=a;exact a.lt ((g c).1 f)
theorem Cu.aS {c:aa}{b:Nat}{d:Nat->Prop}{m:Bx}(a:Cu c b d m):G9 m:=by obtain⟨e,f,a,g⟩:=a;exact a.aS
theorem FI.mod {g h:aa}{b d:Nat}{e:List (Fi×Nat)}{m:Bx}{T:Nat->Prop}(a:FI g b d e m)(x:Mod T g h)(f: ∀c,KU b d e c-> ¬T c):FI h b d e m:=
 ⟨x.ah a.head (f _ (.inl rfl)),a.map.mod x (f _ (.inr (.inl rfl))),λp i=>x.ah (a.cells p i) (f _ (.inr (.inr ⟨p,i,rfl⟩))),a.perm,a.nodup,a.aS⟩
theorem Cu.mod {e f:aa}{b:Nat}{a T:Nat->Prop}{m:Bx}(d:Cu e b a m)(x:Mod T e f)(h: ∀c,a c-> ¬T c):Cu f b a m:=by obtain⟨i,j,d,g⟩:=d;exact⟨i,j,d.mod x λc k=>h c ((g c).2 k),g⟩
theorem Cu.ext {a c:aa}{b:Nat}{d:Nat->Prop}{m:Bx}(e:Cu a b d m)(x:Ext a c):Cu c b d m:=e.mod x λ_ _ a=>a
theorem FI.hd {f d:aa}{b e:Nat}{h:List (Fi×Nat)}{m c:Bx}(a:FI f b e h m)(j:d[b]? =some (J2 #[.map (some e),J6 J9 c.fuel,J3 c.down] Zb (0,0)))(x:Mod (· =b) f d)(k:c.files=m.files)(g:G9 c):FI d b e h c:=
 ⟨j,a.map.mod x a.gA,λp i=>x.ah (a.cells p i) (a.eT i).1,by rw[k];exact a.perm,a.nodup,g⟩
theorem sE(b:A2Q): ∀a:List (Fi×Nat),UH b (fi a)=(a.find? λp=>decide (p.1.name=b)).map λp=>Ar p.2
 | []=>rfl
 |p::a=>by
  show UH b ((p.1.name,Ar p.2)::fi a)=_;rw[OZ,sE b a,E0]
  grind
theorem FI.mem {d:aa}{b e:Nat}{a:List (Fi×Nat)}{m:Bx}(g:FI d b e a m){f:Fi}:f∈m.files↔ ∃c,(f,c)∈a:=by
 rw[<- g.perm.mem_iff]
 simp_all
theorem FI.look {i:aa}{b j:Nat}{d:List (Fi×Nat)}{m:Bx}(e:FI i b j d m)(a:A2Q):
  (UH a (fi d)=none/\Cn a m.files=none)\/ ∃p∈d,UH a (fi d)=some (Ar p.2)/\Cn a m.files=some p.1/\p.1.name=a:=by
 rw[sE];cases k:d.find? λp=>decide (p.1.name=a) with
 |none=>
  refine .inl ⟨rfl,AIa λf l=>?_⟩;obtain⟨c,n⟩:=e.mem.1 l
  grind
 |some p=>
  have g:p.1.name=a:=by grind
  have h:=LN k;refine .inr ⟨p,h,rfl,?_,g⟩;rw[<- g];exact e.aS.sorted.find (e.mem.2 ⟨p.2,h⟩)
theorem AIB {a:List (Fi×Nat)}{l:List Fi}(p:(a.map (·.1)).Perm l)(s:Gn l):(a.map λb=>b.1.name).Nodup:=by
 have c:(l.map (·.name)).Nodup:=by refine List.pairwise_map.2 (s.imp λd=>Lj d)
 have e:(a.map λb=>b.1.name).Perm (l.map (·.name)):=by have:=p.map (·.name);simpa [Bk,G0] using this
 exact(e.nodup_iff).2 c
theorem FI.inj {f:aa}{b g:Nat}{c:List (Fi×Nat)}{m:Bx}(d:FI f b g c m){p a:Fi×Nat}(h:p∈c)(j:a∈c)(k:p.1.name=a.1.name):p=a:=by
 have l:=AIB d.perm d.aS.sorted;obtain⟨i,n,rfl⟩:=DA h;obtain⟨e,o,rfl⟩:=DA j;have:i=e:=by
  have q:i<(c.map λa=>a.1.name).length:=by simpa using n
  have r:e<(c.map λa=>a.1.name).length:=by simpa using o
  refine(LO (h₀:=q) (h₁:=r) l).1 ?_;simpa using k
 subst this;rfl
theorem FI.set {k h':aa}{b l:Nat}{d:List (Fi×Nat)}{m:Bx}(c:FI k b l d m){p:Fi×Nat}(h:p∈d){g:Fi->Fi}(B: ∀f,(g f).name=f.name)
  (q:h'[p.2]? =some (J2 #[J7 (g p.1).bZ,J7 (g p.1).soft] XN (0,0))) (x:Mod (· =p.2) k h') (r:G9 {m with files:=P9 p.1.name g m.files}):
  FI h' b l (d.map λa=>(if a.1.name=p.1.name then g a.1 else a.1,a.2)) {m with files:=P9 p.1.name g m.files}:=by
 refine⟨x.ah c.head (c.eT h).1.symm,?_,?_,?_,?_,r⟩
 ·have e:fi (d.map λa=>(if a.1.name=p.1.name then g a.1 else a.1,a.2))=fi d:=by
   simp only[fi,Bk];refine CC λa _=>?_
   grind
  rw[e];exact c.map.mod x (c.eT h).2.symm
 ·intro a s;obtain⟨n,j,rfl⟩:=List.mem_map.1 s;simp only;by_cases e:n.1.name=p.1.name
  ·rw[if_pos e];have:=c.inj j h e;subst this;exact q
  ·rw[if_neg e];refine x.ah (c.cells n j) λt=>e ?_
   have u:=c.nodup;obtain⟨i,v,rfl⟩:=DA h;obtain⟨o,w,rfl⟩:=DA j;have:o=i:=by
    have y:i<(d.map (·.2)).length:=by simpa using v
    have z:o<(d.map (·.2)).length:=by simpa using w
    refine(LO (h₀:=z) (h₁:=y) u).1 ?_;simpa using t
   subst this;rfl
 ·have A:=c.perm.map λf=>if f.name=p.1.name then g f else f
  simpa [P9,Bk,G0] using A
 ·simpa [Bk,G0] using c.nodup
theorem sF {b d:Nat}{e:List (Fi×Nat)}{g:Fi×Nat->Fi}(c:Nat):KU b d (e.map λf=>(g f,f.2)) c↔KU b d e c:=by
 unfold KU;constructor
 ·grind
 ·rintro(a|a|⟨p,h,rfl⟩)
  ·exact .inl a
  ·exact .inr (.inl a)
  ·exact .inr (.inr ⟨_,List.mem_map.2 ⟨p,h,rfl⟩,rfl⟩)
theorem sG {b:A2Q}{v:J0}: ∀ {m:List (A2Q×J0)},UH b m=none->Zt b v m=m++ [(b,v)]
 | [],_=>rfl
 |p::m,a=>by
  rw[OZ] at a;split at a
  ·cases a
  ·rename_i c;unfold Zt;rw[if_neg c,sG a];rfl
theorem lF {d:aq}{a:aa}{b:Nat}{e f:J0}{down:Bool}{T:Q7}{c:A2P}(g:a[b]? =some (J2 #[e,f,J3 down] T (0,0)))(h:c (J3 down) a):
  AA d P Gi #[Ar b] a c:=by
 refine ACX ?_;unfold WR;exact af.no rfl (aD (Ac.mk (AB g rfl) h))
theorem APN {e:aq}{c:aa}{name:A2Q}{d:A2P}(a:d (J3 (LU name)) c):AA e P Tv #[J7 name] c d:=by
 refine AGS ?_;unfold uW;unfold LU at a;rw[CU];refine af.intro (λb=>?_) (λb=>?_)
 ·rw[b] at a;exact a
 ·rw[b] at a;have f:decide ((name.size:Int)>(32:Int))=decide (name.size>32):=by grind
  rw[f];simpa using a
def na(fuel:Int):Int:=if fuel>0 then fuel-1 else fuel
theorem ARe {o:aq}{d:aa}{b:Nat}{h:J0}{fuel:Int}{down:Bool}{T:Q7}{i:A2P}(f:d[b]? =some (J2 #[h,J6 J9 fuel,J3 down] T (0,0)))(q: -1<=fuel)(r:fuel<=9223372036854775807)
  (p:fuel=0-> ∀a,a[b]? =some (J2 #[h,J6 J9 fuel,J3 true] T (0,0))->Mod (· =b) d a->a.size=d.size->i (J3 false) a)
  (e:fuel≠0-> ∀a,a[b]? =some (J2 #[h,J6 J9 (na fuel),J3 down] T (0,0))->Mod (· =b) d a->a.size=d.size->i (J3 true) a):AA o P HZ #[Ar b] d i:=by
 refine ABL ?_;unfold Ta;refine aD (AC.mk (AB f rfl) ?_);refine af.intro (λc=>?_) (λc=>?_)
 ·refine aD (ae.dr f (by simp) λj g k l=>?_);exact p (by simpa using c) j (by simpa using g) k l
 ·have c:fuel≠0:=by simpa using c
  have e:=e c;unfold na at e;refine ai.mk λK n=>?_
  refine aD (AC.mk (AB f rfl) ?_);refine af.intro (λc=>?_) (λc=>?_)
  ·have m:fuel>0:=by simpa using c
   rw[if_pos m] at e;refine aD (AC.mk (AB f rfl) (aD (ae.dr f (by simp) λj g k l=>n _ _ ?_)));rw[wrap_i64 (by omega) (by omega)] at g;exact e j (by simpa using g) k l
  ·have m: ¬fuel>0:=by simpa using c
   rw[if_neg m] at e;exact n _ _ (e d f Mod.refl rfl)
theorem JM(m:Bx):(IL m).fuel=na m.fuel/\(IL m).down=m.down/\(IL m).files=m.files:=by grind [IL,na]
theorem AJ7 {m:Bx}(g:G9 m):G9 (IL m):=by have:=g.tick m.files g.sorted g.names g.wt;rwa [<- (JM m).2.2] at this
theorem FI.jl {p:aq}{e:aa}{b f:Nat}{g:List (Fi×Nat)}{m:Bx}(d:FI e b f g m){i:A2P}
  (q:m.fuel=0-> ∀a,FI a b f g (NP m)->Mod (KU b f g) e a->i (J3 false) a)
  (r:m.fuel≠0-> ∀a,FI a b f g (IL m)->Mod (KU b f g) e a->a.size=e.size->i (J3 true) a):AA p P HZ #[Ar b] e i:=by
 refine ARe d.head d.aS.lo d.aS.hi (λj k l h o=>?_) (λj k l h o=>?_)
 ·exact q j k (d.hd l h rfl d.aS.off) (h.aj λc _ n=> .inl n)
 ·obtain⟨s,t,u⟩:=JM m;refine r j k (d.hd ?_ h u (AJ7 d.aS)) (h.aj λc _ n=> .inl n) o;rw[s,t];exact l
theorem FI.fI {d:aa}{b a:Nat}{e:List (Fi×Nat)}{m:Bx}(i:FI d b a e m){p:Fi×Nat}(f:p∈e){data:A2Q}(l:G9 {m with files:=P9 p.1.name (Rq data) m.files}){K:aa->Prop}
  (r: ∀j n,FI j b a n {m with files:=P9 p.1.name (Rq data) m.files}->Mod (KU b a e) d j->(∀ c,KU b a n c↔KU b a e c)->K j):
  At (some ⟨p.2,0,none⟩) λs=>AJ d (s.add 1) λt=>aG (((t.size+data.size:Nat):Int)<=IntKind.i64.max)<|At (some ⟨p.2,0,none⟩) λu=>ae d (u.add 1) (J7 (t++data)) K:=by
 have h:=i.cells p f;refine aD (AJ.mk (AB h rfl) ⟨?_,aD (ae.dr h (by simp) λo v q y=>?_)⟩)
 ·have o:bg (P9 p.1.name (Rq data) m.files)<=8796093022208:=l.wt;have w:Rq data p.1∈P9 p.1.name (Rq data) m.files:=by refine List.mem_map.2 ⟨p.1,i.mem.2 ⟨p.2,f⟩,by simp⟩
  have x:=nZ w;simp only[Rq,AQQ] at x;simp[IntKind.max,IntKind.bits,IntKind.signed];omega
 ·exact r o _ (i.set f (g:=Rq data) (λ_=>rfl) (by simpa [Rq] using v) q l) (q.aj λc _ h=> .inr (.inr ⟨p,f,h.symm⟩)) (λc=>sF (g:=λk=>if k.1.name=p.1.name then Rq data k.1 else k.1) c)
theorem sH {S:aq}{e:aa}{b:Nat}{l:Nat->Prop}{m:Bx}{name data:A2Q}{L:A2P}(k:Cu e b l m)(T:bg m.files+data.size+1<=8796093022208)
  (g: ∀B S',Cu B b S' (EN m name data).2->Mod l e B->(∀ c,S' c->l c\/e.size<=c)->L (J6 J9 (EN m name data).1) B):AA S P JZ #[Ar b,J7 name,J7 data] e L:=by
 have n:=k.aS.append (name:=name) (data:=data) T;obtain⟨j,o,k,r⟩:=k;refine Xy ?_;unfold Qn;refine lF k.head ⟨_,rfl,?_⟩;unfold EN at g n;refine af.intro (λhd=>?_) (λhd=>?_)
 ·rw[if_pos hd] at g;exact g e l ⟨j,o,k,r⟩ Mod.refl (λc d=> .inl d)
 rw[if_neg (by simp[hd])] at g n;refine APN ⟨_,rfl,?_⟩;refine af.intro (λw=>?_) (λw=>?_)
 ·rw[if_pos w] at g;exact g e l ⟨j,o,k,r⟩ Mod.refl (λc d=> .inl d)
 rw[if_neg (by simp[w])] at g n;have C: ∀ {q:aa},Mod (KU b j o) e q->Mod l e q:=λs=>s.aj λc _ d=>(r c).2 d
 refine k.jl (λD q i s=>⟨_,rfl,?_⟩) (λD q i s ae=>⟨_,rfl,?_⟩)
 ·rw[if_pos D] at g;exact af.yes rfl (g q l ⟨j,o,i,r⟩ (C s) (λc d=> .inl d))
 rw[if_neg D] at g n;refine af.no rfl ?_;refine aD (FW.mk (AO i.head rfl) (Qv jN Ol lE i.map ?_));rcases i.look name with⟨x,E⟩|⟨p,h,x,E,U⟩
 ·
  rw[x];refine⟨none,rfl,ai.mk λK F=>af.yes rfl ?_⟩;refine al.mk λag _ V M ah=>?_
  have t:=i.mod M (λ_ _ e=>e);refine aD (FW.mk (AO t.head rfl) ?_);have W:name.size<=32:=by simp[LU] at w;omega
  have aj:=VK (IL m).files;have X:o.length=(IL m).files.length:=by rw[<- i.perm.length_eq];simp
  rw[(JM m).2.2] at X;have ak:=VK m.files;refine ANE jN Ol t.map (by simp[maxLen];omega) (by simp[fi,maxLen];omega) λN O y am=>?_
  rw[sG x] at O;have an:=y.ah V (by have:=i.map.lt;omega);have u:=E;rw[(JM m).2.2] at u;have G:UI name m.files=gY ⟨name,bF,bF⟩ m.files:=by unfold UI;rw[u];rfl
  have Y:=Rx u;have Z:=wL ⟨name,bF,bF⟩ m.files;simp only[nY] at Z;have ab:FI N b j (o++ [(⟨name,bF,bF⟩,q.size)]) {IL m with files:=gY ⟨name,bF,bF⟩ m.files}:=by
   refine⟨y.ah t.head t.gA.symm,?_,?_,?_,?_,?_⟩
   ·rw[fi,AW];exact O
   ·intro p h;rcases List.mem_append.1 h with h|h
    ·exact y.ah (t.cells p h) (t.eT h).2
    simp_all
   ·rw[AW];refine(List.perm_append_singleton _ _).trans (((i.perm.trans (List.Perm.of_eq (JM m).2.2)).cons _).trans (OP _ _).symm)
   ·rw[AW];refine List.nodup_append.2 ⟨i.nodup,by simp,?_⟩;intro a ac c d;obtain⟨p,h,rfl⟩:=List.mem_map.1 ac;simp at d;subst d;have:=Ah (i.cells p h);omega
   ·refine k.aS.tick _ (UW k.aS.sorted Y) (λf H=>?_) (by omega);rcases List.mem_cons.1 ((OP _ _).subset H) with rfl|H
    ·exact W
    ·exact k.aS.names f H
  refine F _ _ ?_;rw[G] at g n;refine ab.fI (p:=(⟨name,bF,bF⟩,q.size)) (by simp) (data:=data) n λI v z J A=>?_
  have Q: ∀c,KU b j v c->KU b j o c\/e.size<=c:=λc d=>by
   rcases(A c).1 d with e|e|⟨p,h,rfl⟩
   ·exact .inl (.inl e)
   ·exact .inl (.inr (.inl e))
   ·rcases List.mem_append.1 h with h|h
    ·exact .inl (.inr (.inr ⟨p,h,rfl⟩))
    simp_all
  refine g I (KU b j v) ⟨j,v,z,λ_=>CM⟩ ?_ (λc d=>(Q c d).imp (r c).2 id);have ad:Mod (KU b j o) q N:=M.mod.trans (y.aj λc _ d=> .inr (.inl d));refine C ((s.trans ad).then (J.aj λc _ d=>Q c ((A c).2 d)))
 ·
  rw[x];refine⟨some ⟨p.2,0,none⟩,rfl,ai.mk λK F=>af.no rfl (F _ _ ?_)⟩;have u:=E;rw[(JM m).2.2] at u;have G:UI name m.files=m.files:=by unfold UI;rw[u];rfl
  rw[G] at g n;subst U;have R:=(JM m).2.2;refine i.fI h (data:=data) (by rw[R];exact n) λI v z J A=>?_
  refine g I l ⟨j,v,by rw[R] at z;exact z,λc=>(r c).trans (A c).symm⟩ (C (s.trans J)) (λc d=> .inl d)
theorem sI {D:aq}{e:aa}{b:Nat}{o:Nat->Prop}{m:Bx}{name:A2Q}{x:A2P}(a:Cu e b o m)
  (d: ∀h',Cu h' b o (Hg m name).2->Mod o e h'->x (J6 J9 (Hg m name).1) h'):AA D P Kv #[Ar b,J7 name] e x:=by
 have i:=a.aS.sync (name:=name);obtain⟨j,q,a,k⟩:=a;refine ABT ?_;unfold Ur;refine lF a.head ⟨_,rfl,?_⟩;unfold Hg at d i;have y: ∀ {l:aa},Mod (KU b j q) e l->Mod o e l:=λn=>n.aj λc _ f=>(k c).2 f
 refine af.intro (λhd=>?_) (λhd=>?_)
 ·rw[if_pos hd] at d;exact d e ⟨j,q,a,k⟩ Mod.refl
 rw[if_neg (by simp[hd])] at d i;refine aD (FW.mk (AO a.head rfl) (Qv jN Ol lE a.map ?_));rcases a.look name with⟨r,s⟩|⟨p,t,r,s,E⟩
 ·rw[r];rw[s] at d;exact⟨none,rfl,af.yes rfl (d e ⟨j,q,a,k⟩ Mod.refl)⟩
 rw[r];rw[s,if_neg (by simp)] at d i;refine⟨some ⟨p.2,0,none⟩,rfl,af.no rfl ?_⟩;refine a.jl (λu l h n=>⟨_,rfl,?_⟩) (λu l h n H=>⟨_,rfl,?_⟩)
 ·rw[if_pos u] at d;exact af.yes rfl (d l ⟨j,q,h,k⟩ (y n))
 rw[if_neg u] at d i;refine af.no rfl ?_;refine aD (FW.mk (AO h.head rfl) (Qv jN Ol lE h.map ?_));rw[r];refine⟨some ⟨p.2,0,none⟩,rfl,?_⟩;have f:=h.cells p t;refine aD (AJ.mk (AO f rfl) (aD (AJ.mk (AB f rfl) ⟨?_,?_⟩)))
 ·have v:=nZ (KI s).2;have:=a.aS.wt;simp[IntKind.max,IntKind.bits,IntKind.signed];omega
 refine aD (ae.mk f (by simp) λI F z J=>aD (ae.dr F (by simp) λv G A K=>?_));subst E;have B:=(JM m).2.2;have C:=h.set t (h':=v) (g:=SH) (λ_=>rfl) (by simpa [SH] using G) (z.trans A) (by rw[B];exact i);rw[B] at C;refine d v ⟨j,_,C,λc=>(k c).trans (sF (g:=λw=>if w.1.name=p.1.name then SH w.1 else w.1) c).symm⟩ (y (n.trans ((z.trans A).aj λc _ f=> .inr (.inr ⟨p,t,f.symm⟩))))
theorem pg {i:aq}{e:aa}{b:Nat}{j:Nat->Prop}{m:Bx}{name:A2Q}{g:A2P}(a:Cu e b j m)
  (c:g (J1 #[J7 (UN m name).1,J6 J9 (UN m name).2]) e):AA i P Iy #[Ar b,J7 name] e g:=by
 obtain⟨l,n,a,o⟩:=a;refine AA8 ?_;unfold TU;refine lF a.head ⟨_,rfl,?_⟩;unfold UN at c;refine af.intro (λhd=>?_) (λhd=>?_)
 ·rw[if_pos hd] at c;exact c
 rw[if_neg (by simp[hd])] at c;refine aD (FW.mk (AO a.head rfl) (Qv jN Ol lE a.map ?_));rcases a.look name with⟨f,d⟩|⟨p,k,f,d,q⟩
 ·rw[f];rw[d] at c;exact⟨none,rfl,af.yes rfl c⟩
 rw[f];rw[d] at c;refine⟨some ⟨p.2,0,none⟩,rfl,af.no rfl ?_⟩;have h:=a.cells p k;refine aD (AJ.mk (AO h rfl) (aD (AJ.mk (AB h rfl) ⟨?_,c⟩)));have r:=nZ (KI d).2;have:=a.aS.wt;simp[IntKind.max,IntKind.bits,IntKind.signed];omega
theorem AQ1(a:A2Q)(b:List (Fi×Nat)):iM a (fi b)=fi (b.filter λp=> !decide (p.1.name=a)):=by unfold iM fi;rw[P2];rfl
theorem XG {C:aq}{a:aa}{b:Nat}{i:Nat->Prop}{m:Bx}{name:A2Q}{x:A2P}(d:Cu a b i m)
  (e: ∀s S',Cu s b S' (Gr m name).2->Mod i a s->(∀ c,S' c->i c)->x (J6 J9 (Gr m name).1) s):AA C P HY #[Ar b,J7 name] a x:=by
 have k:=d.aS.delete (name:=name);obtain⟨j,l,d,n⟩:=d;refine Yr ?_;unfold Qf;refine lF d.head ⟨_,rfl,?_⟩;unfold Gr at e k;have y: ∀ {g:aa},Mod (KU b j l) a g->Mod i a g:=λo=>o.aj λc _ q=>(n c).2 q
 refine af.intro (λhd=>?_) (λhd=>?_)
 ·rw[if_pos hd] at e;exact e a i ⟨j,l,d,n⟩ Mod.refl (λ_ a=>a)
 rw[if_neg (by simp[hd])] at e k;refine aD (FW.mk (AO d.head rfl) (Qv jN Ol lE d.map ?_));rcases d.look name with⟨t,u⟩|⟨p,z,t,u,F⟩
 ·rw[t];rw[u] at e;exact⟨none,rfl,af.yes rfl (e a i ⟨j,l,d,n⟩ Mod.refl (λ_ a=>a))⟩
 rw[t];rw[u,if_neg (by simp)] at e k;refine⟨some ⟨p.2,0,none⟩,rfl,af.no rfl ?_⟩;refine d.jl (λv g h o=>⟨_,rfl,?_⟩) (λv g h o G=>⟨_,rfl,?_⟩)
 ·rw[if_pos v] at e;exact af.yes rfl (e g i ⟨j,l,h,n⟩ (y o) (λ_ a=>a))
 rw[if_neg v] at e k;refine af.no rfl ?_;refine aD (FW.mk (AO h.head rfl) (AMk jN Ol h.map λA B w H=>⟨rfl,?_⟩));rw[AQ1] at B;have I:=(JM m).2.2;have D:FI A b j (l.filter λp=> !decide (p.1.name=name)) {IL m with files:=P8 name m.files}:=by
  refine⟨w.ah h.head h.gA.symm,B,λE r=>?_,?_,?_,k⟩
  ·have r:=(List.mem_filter.1 r).1;exact w.ah (h.cells E r) (h.eT r).2
  ·have g:=d.perm.filter λf=> !decide (f.name=name)
   rw[P2] at g;exact g
  ·exact(List.filter_sublist.map _).nodup d.nodup
 refine e A (KU b j _) ⟨j,_,D,λ_=>CM⟩ (y (o.trans (w.aj λc _ q=> .inr (.inl q)))) (λc q=>(n c).2 ?_);rcases q with a|a|⟨p,z,rfl⟩
 ·exact .inl a
 ·exact .inr (.inl a)
 ·exact .inr (.inr ⟨p,(List.mem_filter.1 z).1,rfl⟩)
theorem AQ5 {h:aq}{a:aa}{e:A2P}(i: ∀b d f,Cu d b f kX->Ext a d->(∀ c,f c->a.size<=c)->e (Ar b) d):AA h P Zh #[] a e:=by
 refine AK1 ?_;unfold uH;refine al.mk λj _ k l q=>al.mk λm _ n g r=>?_
 refine i _ m (KU j.size a.size []) ⟨_,[],⟨n,VX.empty (g.ah k (by simp)),by simp,GW _,by simp,ANP⟩,λ_=>CM⟩ (l.trans g) ?_;rintro c (rfl|rfl|⟨p,o,_⟩)
 ·omega
 ·exact A0 _
 ·cases o
end Go.Lf.G
namespace Go.Proofs
open Go.Shelf
def Tryz.cC:Go.Shelf.Ren:=⟨λ|105=>220|212=>245|99=>246|165=>247|166=>248|170=>249|169=>250|263=>274|264=>275|206=>276|240=>277|241=>278|276=>294|277=>295|a=>a,λ|9=>9|3=>3|4=>4|20=>20|0=>0|46=>153|109=>339|5=>5|72=>343|76=>294|51=>150|146=>151|53=>140|148=>365|70=>341|37=>69|75=>293|127=>367|164=>380|80=>120|a=>a,λ|a=>a⟩
theorem Tryz.eJ:Go.Proofs.Lays.n105 Tryz.prog Tryz.cC:=by repeat' first|exact Lf.Df (by kernel_rfl)|kernel_rfl|decide|constructor
theorem Tryz.dM:Builder.Extra Tryz.prog Tryz.cC:=by repeat' first|exact Lf.Df (by kernel_rfl)|kernel_rfl|decide|constructor
theorem Tryz.iC:Lays.n166 Tryz.prog Tryz.cC:= {Tryz.eJ with}
theorem Tryz.iD:Lays.n169 Tryz.prog Tryz.cC:= {Tryz.eJ with}
def Tryz.eW:Go.Shelf.Ren:=⟨λ|103=>242|210=>263|206=>276|a=>a,λ|9=>9|4=>4|24=>156|3=>3|a=>a,λ|a=>a⟩
theorem Tryz.iE:Go.Proofs.Lays.n103 Tryz.prog Tryz.eW:=by repeat' first|exact Lf.Df (by kernel_rfl)|kernel_rfl|decide|constructor
def Tryz.cJ:Go.Shelf.Ren:=⟨λ|14=>243|16=>264|17=>224|19=>288|20=>289|21=>253|22=>254|23=>255|24=>256|25=>283|27=>179|26=>284|28=>221|29=>251|30=>279|31=>280|32=>281|33=>282|35=>217|34=>296|36=>297|37=>298|38=>299|39=>301|40=>302|a=>a,λ|9=>9|3=>3|22=>140|24=>293|25=>336|4=>4|34=>345|5=>5|36=>153|37=>69|0=>0|39=>348|21=>21|44=>373|47=>367|50=>388|48=>386|2=>2|52=>368|55=>370|59=>384|60=>150|20=>20|61=>385|65=>390|66=>391|67=>120|a=>a,λ|0=>0|1=>1|2=>2|3=>4|4=>5|a=>a⟩
theorem Tryz.dN:Go.Proofs.LaysPu.n14 Tryz.prog Tryz.cJ:=by repeat' first|exact Lf.Df (by kernel_rfl)|kernel_rfl|decide|constructor
def Tryz.eK:Go.Shelf.Ren:=⟨λ|171=>179|243=>221|246=>251|283=>279|284=>280|285=>281|286=>282|129=>217|317=>296|318=>297|319=>298|320=>299|337=>301|338=>302|a=>a,λ|3=>3|9=>9|2=>2|4=>4|171=>368|0=>0|53=>140|37=>69|5=>5|173=>370|212=>384|51=>150|20=>20|213=>385|46=>153|232=>390|233=>391|a=>a,λ|17=>2|18=>4|19=>5|a=>a⟩
theorem Tryz.gD:Go.Proofs.LaysM.n171 Tryz.prog Tryz.eK:=by repeat' first|exact Lf.Df (by kernel_rfl)|kernel_rfl|decide|constructor
def Tryz.eL:Go.Shelf.Ren:=⟨λ|172=>185|244=>223|245=>224|247=>252|279=>253|280=>254|281=>255|282=>256|287=>264|316=>283|171=>179|205=>284|321=>288|322=>289|243=>221|246=>251|283=>279|284=>280|285=>281|286=>282|129=>217|317=>296|318=>297|319=>298|320=>299|337=>301|338=>302|a=>a,λ|9=>9|3=>3|75=>293|76=>294|4=>4|5=>5|167=>345|37=>69|0=>0|85=>346|2=>2|168=>348|53=>140|175=>336|46=>153|210=>373|127=>367|145=>388|143=>386|21=>21|171=>368|173=>370|212=>384|51=>150|20=>20|213=>385|232=>390|233=>391|80=>120|a=>a,λ|15=>0|16=>1|17=>2|18=>4|19=>5|a=>a⟩
theorem Tryz.gE:Go.Proofs.LaysC.n172 Tryz.prog Tryz.eL:=by repeat' first|exact Lf.Df (by kernel_rfl)|kernel_rfl|decide|constructor
end Go.Proofs
namespace Go.Lf
open Go
def OW(a:Nat):List UInt8:=Lib.repeatL [48] (8-(Lib.decDigits a).length)++Lib.decDigits a
def TL(a:Nat)(l:List UInt8):Nat:=l.foldl (λa c=>a*10+(c.toNat-48)) a
def mg(l:List UInt8):Prop:= ∀c∈l,48<=c.toNat/\c.toNat<=57
theorem nW {a:Nat}(b:a<10):(UInt8.ofNat (48+a)).toNat=48+a:=by simp only[UInt8.toNat_ofNat'];omega
theorem Y9: ∀a:Nat,mg (Lib.decDigits a)/\TL 0 (Lib.decDigits a)=a:=by
 intro a
 induction a using Nat.strongRecOn with
 |ind a g=>
  by_cases d:a<10
  ·rw[Lib.decDigits,dif_pos d];refine⟨λc b=>?_,?_⟩
   ·rw[List.mem_singleton.1 b,nW d];omega
   ·simp only[TL,I3,N6,nW d];omega
  ·rw[Lib.decDigits,dif_neg d];obtain⟨h,e⟩:=g (a / 10) (by omega);have f:a % 10<10:=CA _ (by decide);refine⟨λc b=>?_,?_⟩
   ·rcases List.mem_append.1 b with b|b
    ·exact h c b
    ·rw[List.mem_singleton.1 b,nW f];omega
   ·unfold TL at e ⊢;rw[Hi,e];simp only[I3,N6,nW f];omega
theorem qN: ∀k:Nat,mg (Lib.repeatL [48] k)/\ ∀l,TL 0 (Lib.repeatL [48] k++l)=TL 0 l
 |0=>⟨λc a=>(by cases a),λl=>rfl⟩
 |k+1=>by
  obtain⟨b,d⟩:=qN k;refine⟨λc a=>?_,λl=>?_⟩
  ·rcases List.mem_append.1 a with a|a
   ·rw[List.mem_singleton.1 a];decide
   ·exact b c a
  ·show TL 0 (([48]++Lib.repeatL [48] k)++l)=_;rw[A3];exact d l
theorem qO(a:Nat):mg (OW a)/\TL 0 (OW a)=a:=by
 refine⟨λc b=>?_,?_⟩
 ·rcases List.mem_append.1 b with b|b
  ·exact(qN _).1 c b
  ·exact(Y9 a).1 c b
 ·exact((qN _).2 _).trans (Y9 a).2
theorem qP: ∀(l:List UInt8) (a:Nat),a<=TL a l
 | [],a=>A0 _
 |c::l,a=>by
  have:=qP l (a*10+(c.toNat-48));have b:TL a (c::l)=TL (a*10+(c.toNat-48)) l:=rfl;rw[b];omega
theorem wu: ∀(l:List UInt8) (a:Nat),mg l->TL a l<=4294967295->Lib.parseUintM 4294967295 a l= .ok (TL a l)
 | [],a,_,_=>rfl
 |c::l,a,hd,b=>by
  have d:TL a (c::l)=TL (a*10+(c.toNat-48)) l:=rfl;rw[d] at b ⊢;have e:=hd c (by simp);have g:=qP l (a*10+(c.toNat-48));unfold Lib.parseUintM;rw[if_pos e,if_neg (by omega),if_neg (by omega)];exact wu l _ (λx f=>hd x (AG _ f)) b
theorem wv: ∀(l:List UInt8) (a:Nat) {u:Nat},a<=4294967295->Lib.parseUintM 4294967295 a l= .ok u->u<=4294967295
 | [],a,u,d,b=>by
  unfold Lib.parseUintM at b;injection b with b;omega
 |c::l,a,u,d,b=>by
  unfold Lib.parseUintM at b;split at b
  ·split at b
   ·cases b
   ·split at b
    ·cases b
    ·exact wv l _ (by omega) b
  ·cases b
theorem wx {a:Nat}(d:a<=4294967295):Lib.parseUintB 32 (OW a)= .ok a:=by
 obtain⟨e,b⟩:=qO a;have f:OW a≠ []:=by intro g;have h:Lib.decDigits a= []:=(List.append_eq_nil_iff.1 g).2;have c:=congrArg List.length h;rw[Lib.decDigits_length] at c;have:=Lib.nDigits_pos a;simp at c;omega
 unfold Lib.parseUintB;rw[if_neg f];have:=wu (OW a) 0 e (by rw[b];exact d);rw[b] at this;exact this
theorem AQC {a b:Nat}(d:OW a=OW b):a=b:=by have c:=(qO a).2;rw[d,(qO b).2] at c;exact c.symm
theorem AJa {k:Nat}: ∀ {n:Nat},n<10^(k+1)->Lib.nDigits n<=k+1:=by
 induction k with
 |zero=>intro n a;rw[Lib.nDigits_small (by simpa using a)];omega
 |succ k c=>
  intro n a;by_cases b:n<10
  ·rw[Lib.nDigits_small b];omega
  ·rw[Lib.nDigits_big b];have:=c (n:=n / 10) (by rw[DG] at a;omega);omega
theorem wy {n:Nat}(a:n<=99999999):(OW n).length=8:=by have b:=AJa (k:=7) (n:=n) (by have:(10:Nat)^(7+1)=100000000:=(by decide);omega);simp only[OW,A1,Lib.repeatL_length,Lib.decDigits_length,Cd];omega
theorem AJx {a:Nat}(b:(OW a).length=8):a<=99999999:=by
 have c:Lib.nDigits a<=8:=by simp only[OW,A1,Lib.repeatL_length,Lib.decDigits_length,Cd] at b;omega
 have d:=Lib.lt_pow_nDigits a;have e:(10:Nat)^Lib.nDigits a<=10^8:=RR (by decide) c;have:(10:Nat)^8=100000000:=by decide
 omega
def aC(a:A2Q)(b:Nat):A2Q:=a++AX (OW b)
theorem RS(a:A2Q)(b:Nat):bl (aC a b)=bl a++OW b:=by show(a++AX (OW b)).data.toList=a.data.toList++OW b;rw[Kf,No];exact congrArg _ (Be _)
theorem Ig {a:A2Q}{b c:Nat}(e:aC a b=aC a c):b=c:=by have d:=congrArg bl e;rw[RS,RS] at d;exact AQC (Kp d)
theorem APn {nm:A2Q}{a:Nat}(b:a<=99999999):(aC nm a).size=nm.size+8:=by rw[aC,Ks,AP,wy b]
inductive NR:List UInt8->List (List UInt8)->Prop
 |stop {l:List UInt8} (h:(Gu l).1≠0):NR l []
 |step {l:List UInt8} {rs:List (List UInt8)} (h:(Gu l).1=0) (s:NR (Gu l).2.2 rs):NR l ((Gu l).2.1::rs)
theorem qQ {l:List UInt8}(a:(Gu l).1=0):(Gu l).2.1.length+(Gu l).2.2.length<l.length:=by
 unfold Gu at a ⊢;cases b:Mf 0 0 l with
 |none=>rw[b] at a;dsimp only at a;split at a<;>cases a
 |some p=>
  obtain⟨g,t⟩:=p;rw[b] at a;obtain⟨c,_⟩:=mz b;have h:t.length<=l.length:=by rw[c];simp
  dsimp only at a ⊢;split at a
  ·cases a
  ·rename_i d;split at a
   ·cases a
   ·rename_i e;split at a
    ·rename_i f;rw[if_neg d,if_neg e,if_pos f];simp only[AD,DE];omega
    ·cases a
theorem qR: ∀(k:Nat) (l:List UInt8),l.length<=k-> ∃a,NR l a/\(a.map (·.length+1)).sum<=l.length
 |0,l,c=>by
  have:l= []:=CH (by omega);subst this;exact⟨[],.stop (by decide),by simp⟩
 |k+1,l,c=>by
  by_cases b:(Gu l).1=0
  ·have e:=qQ b;obtain⟨a,d,f⟩:=qR k (Gu l).2.2 (by omega);exact⟨_,.step b d,by simp only[B9,FF];omega⟩
  ·exact⟨[],.stop b,by simp⟩
theorem NR.uniq {l:List UInt8}{d ts:List (List UInt8)}(a:NR l d):NR l ts->d=ts:=by
 induction a generalizing ts with
 |stop a=>
  intro c;cases c with
  |stop=>rfl
  |step b=>exact absurd b a
 |step a s e=>
  intro c;cases c with
  |stop b=>exact absurd a b
  |step b f=>rw[e f]
noncomputable def kW (l:List UInt8):List (List UInt8):=(qR l.length l (A0 _)).choose
theorem qS(l:List UInt8):NR l (kW l):=(qR l.length l (A0 _)).choose_spec.1
theorem APg {l:List UInt8}{a:List (List UInt8)}(b:NR l a):kW l=a:=(qS l).uniq b
abbrev aJ(a:List (List UInt8)):List UInt8:=a.flatMap Ct
theorem Ra {rs:List (List UInt8)}(c: ∀a∈rs,a.length<=1048576){t:List UInt8}(d:(Gu t).1≠0):NR (aJ rs++t) rs:=by
 induction rs with
 |nil=>exact .stop d
 |cons a rs e=>
  have b:=y5 (l:=a) (c a (by simp)) (aJ rs++t);have f:aJ (a::rs)++t=Ct a++(aJ rs++t):=by simp
  rw[f];have:=NR.step (l:=Ct a++(aJ rs++t)) (rs:=rs) (by rw[b]) (by rw[b];exact e λx g=>c x (AG _ g));rw[b] at this;exact this
theorem UD:(Gu []).1≠0:=by decide
theorem AM8 {a:List UInt8}(m:a.length<=1048576){b:Nat}(n:b<(Ct a).length):(Gu ((Ct a).take b)).1≠0:=by
 have d:(Ct a).take b++(Ct a).drop b=Ct a:=CN _ _;have o:((Ct a).drop b).length≠0:=by rw[DE];omega
 generalize (Ct a).take b=p at*
 generalize (Ct a).drop b=e at*
 unfold Gu;cases f:Mf 0 0 p with
 |none=>dsimp only;split<;>simp
 |some z=>
  obtain⟨g,t⟩:=z;obtain⟨h,i⟩:=mz f;have j:Mf 0 0 (Ct a)=some (g,t++e):=by rw[<- d,h,A3];exact VI i _
  have c:Mf 0 0 (Ct a)=some (a.length,Qw (jh a)++a):=by unfold Ct;rw[A3];exact VI (by omega) _
  rw[j] at c;obtain⟨rfl,k⟩:=Prod.mk.inj (C2 c);have l:=congrArg List.length k;simp only[A1,KW] at l;dsimp only;rw[if_neg (by omega),if_pos (by omega)];simp
theorem JL {r:List UInt8}(a:r.length<=1048576):r.length+5<=(Ct r).length/\(Ct r).length<=r.length+14:=by
 have b:=AV (n:=r.length) (by omega);have c:1<=(Bd r.length).length:=by rw[Bd];split<;>simp
 simp only[Ct,A1,KW];omega
end Go.Lf
namespace Go.Lf.G
open Go
def oI:String:=Proofs.YtgpmoonnachoaaaGreatDoor.Rows.archiveMovesRow.named.getD 2 (String.ofList [])
def cU(a:aa):Prop:= ∀(b:aq) (c:Nat),Lib.TabIs P (b.at a c) oI .u64 Lib.pow10Tab
theorem cU.ext {a b:aa}(t:cU a)(x:Ext a b):cU b:=by intro c d;have e:=(Lib.tabBelow_of_tabIs (t c d)) (c.at b d) ⟨rfl,rfl,rfl,x.size,λf g=>x.get f g (λa=>a)⟩;exact e
def lh(b:aa)(g:Nat):Prop:= ∃a,ag b ⟨g,0,none⟩=some a/\(a= .nilIface\/ ∃c d,a= .iface c d)
theorem lh.ext {a b:aa}{g:Nat}(c:lh a g)(x:Ext a b):lh b g:=by obtain⟨d,e,f⟩:=c;exact⟨d,x.ag e,f⟩
structure bY (h:aa):Prop where
 cO:cU h
 se:lh h (Proofs.Tryz.cJ.g 0)
 si:lh h (Proofs.Tryz.cJ.g 1)
theorem bY.ext {b c:aa}(a:bY b)(x:Ext b c):bY c:=⟨a.cO.ext x,a.se.ext x,a.si.ext x⟩
theorem rA {e:aq}{d:aa}{i:Nat}{a:World}(b:RowKit.Below d.size (e.at d i) a):a=e.at a.heap a.drawn/\Ext d a.heap:=by obtain⟨f,g,h,j,k⟩:=b;refine⟨?_,⟨j,λc l _=>k c l⟩⟩;cases a;simp only[aq.at] at f g h ⊢;subst f g h;rfl
theorem yB {d:aq}{b:aa}{e:Nat}{a:Q6}{v:J0}(c:ag b a=some v):(d.at b e).cell? a=some v:=by unfold ag at c;unfold World.cell?;exact c
theorem yC {d:aq}{a:aa}{c:Int}{e:A2P}(t:cU a)(g: -9223372036854775808<=c)(h:c<=9223372036854775807)(i: ∀f,Ext a f->e (J7 ⟨(Lib.itoa c).toArray⟩) f):
  AA d P Ov #[J6 J9 c] a e:=by
 intro m;refine Calls.mono (Proofs.Any.strconv_Itoa Proofs.Tryz.gD c g h (d.at a m) (t d m)) ?_;rintro l n ⟨rfl,j,os,rfl⟩;refine⟨_,rfl,a++os,m+j,rfl,i _ ⟨by simp,λb k _=>by rw[MD k]⟩⟩
theorem ANT {b:aq}{a:aa}{s:A2Q}{c:Nat}{d:A2P}(g:c<=8)(h:s.size<=8)(i: ∀e,Ext a e->d (J7 (AX (Lib.repeatL (bl s) c))) e):
  AA b P QY #[J7 s,J6 J9 c] a d:=by
 intro m;have k:s.size*c<=8*8:=Nat.mul_le_mul h g;refine Calls.mono (Proofs.Any.strings_Repeat Proofs.Tryz.eJ Proofs.Tryz.dM s c (b.at a m) (by omega) (by omega)) ?_;rintro l f ⟨rfl,hB⟩;obtain⟨j,x⟩:=rA hB;exact⟨_,rfl,f.heap,f.drawn,j,i _ x⟩
theorem AGV {b:aq}{a:aa}{s p:A2Q}{c:A2P}(d:c (J1 #[J7 (AX (Lib.trimPrefix (bl s) (bl p))),J3 (Lib.hasPrefix (bl s) (bl p))]) a):
  AA b P NV #[J7 s,J7 p] a c:=by
 intro m;refine Calls.mono (Proofs.Any.strings_CutPrefix Proofs.Tryz.iE s p (b.at a m)) ?_;rintro e f ⟨rfl,rfl⟩;exact⟨_,rfl,a,m,rfl,d⟩
theorem AO3 {g:aq}{a:aa}{s:A2Q}{h:A2P}(o:bY a)(y:s.size<=8)
  (p: ∀u:Nat,Lib.parseUintB 32 (bl s)= .ok u-> ∀e,Ext a e->h (J1 #[.int .u64 u,.nilIface]) e)
  (q:(∀ u,Lib.parseUintB 32 (bl s)≠ .ok u)-> ∀e (w:Int) t v,Ext a e->h (J1 #[.int .u64 w,.iface t v]) e):
  AA g P Nj #[J7 s,J6 J9 10,J6 J9 32] a h:=by
 intro m;cases c:Lib.parseUintB 32 (bl s)
 ·rename_i u;refine Calls.mono (Proofs.Any.strconv_ParseUint_10_at32_ok Proofs.Tryz.dN s (by omega) u c (g.at a m)) ?_;rintro r d ⟨rfl,i|i⟩
  ·subst i;exact⟨_,rfl,a,m,rfl,p u c a Mod.refl⟩
  ·subst i;refine⟨_,rfl,_,_,rfl,p u c _ ?_⟩;refine⟨?_,λb z _=>?_⟩
   ·simp[Lib.bytesWorld,World.freeze,World.alloc,World.drew,aq.at]
   ·simp[Lib.bytesWorld,World.freeze,World.alloc,World.drew,aq.at,GF,Array.getElem?_push];rw[if_neg (by omega),if_neg (by omega)]
 ·obtain⟨j,k,l⟩:=o.se;refine Calls.mono (Proofs.Any.strconv_ParseUint_10_at32_syntax Proofs.Tryz.dN s (by omega) c j (g.at a m) (yB k) l) ?_;rintro r d ⟨N,rfl,_,_,hB⟩;obtain⟨n,x⟩:=rA hB;exact⟨_,rfl,d.heap,d.drawn,n,q (λu f=>by rw[c] at f;cases f) _ _ _ _ x⟩
 ·obtain⟨j,k,l⟩:=o.si;refine Calls.mono (Proofs.Any.strconv_ParseUint_10_at32_range Proofs.Tryz.dN s (by omega) c j (g.at a m) (yB k) l) ?_;rintro r d ⟨N,rfl,_,_,hB⟩;obtain⟨n,x⟩:=rA hB;exact⟨_,rfl,d.heap,d.drawn,n,q (λu f=>by rw[c] at f;cases f) _ _ _ _ x⟩
theorem YQ {g:aq}{c:aa}{b:A2Q}{a:Nat}{d:A2P}(h:bY c)(p:a<=4294967295)(q:b.size<=1099511627776)(i: ∀e,Ext c e->d (J7 (aC b a)) e):
  AA g P KN #[J7 b,J6 J9 a] c d:=by
 refine AHt ?_;unfold uz;refine yC h.cO (by omega) (by omega) λr j=>⟨_,rfl,?_⟩
 have k:Lib.itoa (a:Int)=Lib.decDigits a:=Lib.itoa_nonneg a;rw[k];have f:(⟨(Lib.decDigits a).toArray⟩:A2Q).size=(Lib.decDigits a).length:=by simp[ByteArray.size]
 have s:(Lib.decDigits a).length<=20:=by rw[Lib.decDigits_length];exact Lib.nDigits_le20 a (by omega)
 have l:(if((J8 J9 ((8:Int)-(((⟨(Lib.decDigits a).toArray⟩:A2Q).size:Nat):Int))):Int)>0 then(J8 J9 ((8:Int)-(((⟨(Lib.decDigits a).toArray⟩:A2Q).size:Nat):Int))) else 0)=((8-(Lib.decDigits a).length:Nat):Int):=by rw[f,wrap_i64 (by omega) (by omega)];split<;>omega
 rw[l];refine ANT (by omega) (by decide) λm n=>⟨_,rfl,?_,?_,?_⟩
 ·have:(AX (Lib.repeatL (bl ⟨#[48]⟩) (8-(Lib.decDigits a).length))).size<=8:=by rw[AP,Lib.repeatL_length];simp[bl]
  rw[max_i64];omega
 ·have:(AX (Lib.repeatL (bl ⟨#[48]⟩) (8-(Lib.decDigits a).length))).size<=8:=by rw[AP,Lib.repeatL_length];simp[bl]
  rw[Ks,max_i64,f];omega
 ·have:=i m (j.trans n);have o:aC b a=(b++AX (Lib.repeatL (bl ⟨#[48]⟩) (8-(Lib.decDigits a).length)))++⟨(Lib.decDigits a).toArray⟩:=by rw[aC,OW,<-Aj,ByteArray.append_assoc];rfl
  rw[o] at this;exact this
theorem AMu {I:aq}{h:aa}{c s:A2Q}{q:A2P}(C:bY h)(J:c.size<=1099511627776)(U:s.size<=1099511627776)
  (D: ∀i (k:Nat),Ext h i->(k=0-> ∀a:Nat,1<=a->a<=99999999->s≠aC c a)->(k≠0->k<=99999999/\s=aC c k)->q (J6 J9 k) i):
  AA I P Rs #[J7 c,J7 s] h q:=by
 refine AEh ?_;unfold Xk;have m: ∀i,Ext h i->(∀ a:Nat,1<=a->a<=99999999->s≠aC c a)->q (J6 J9 0) i:=λi x r=>D i 0 x (λ_=>r) (λh=>absurd rfl h)
 refine AGV ⟨_,_,rfl,?_⟩;cases l:Lib.hasPrefix (bl s) (bl c) with
 |false=>
  refine ai.mk λK o=>af.yes rfl (o _ _ (af.yes rfl (m h Mod.refl λa _ _ g=>?_)))
  subst g;rw[RS] at l;unfold Lib.hasPrefix at l;rw[OR] at l;exact l (List.isPrefixOf_iff_prefix.2 (List.prefix_append _ _))
 |true=>
  have E:=l;unfold Lib.hasPrefix at E;obtain⟨f,hd⟩:=List.isPrefixOf_iff_prefix.1 E;have L:Lib.trimPrefix (bl s) (bl c)=f:=by unfold Lib.trimPrefix;rw[if_pos l,<-hd];simp
  rw[L];refine ai.mk λK o=>af.no rfl ?_
  have M: ∀b:Bool,b=true->(∀ a:Nat,1<=a->a<=99999999->s≠aC c a)->K (b,()) h:=λb N r=>o _ _ (af.yes N (m h Mod.refl r))
  have F:(AX f).size=f.length:=AP f;by_cases w:f.length=8
  ·refine o _ _ (af.no (by simp[F,w]) ?_);have G:bl (AX f)=f:=EO f;refine AO3 C (by omega) (λu j e p=>⟨_,_,rfl,?_⟩) (λj e k t v p=>⟨_,_,rfl,ai.mk λO y=>?_⟩)
   ·rw[G] at j;have Q:u<=4294967295:=by
     have:Lib.parseUintB 32 f= .ok u:=j;unfold Lib.parseUintB at this;split at this
     ·cases this
     ·exact wv f 0 (by omega) this
    have R:J8 J9 (u:Int)=(u:Int):=wrap_i64 (by omega) (by omega);rw[R];refine ai.mk λO y=>?_
    refine⟨trivial,af.no rfl ?_⟩;refine YQ (C.ext p) Q J λz S=>⟨_,rfl,y _ _ ?_⟩
    have A:=p.trans S;refine af.intro (λd=>?_) (λd=>?_)
    ·have d:aC c u≠s:=by
      intro g;have:bO (aC c u) s=true:=by rw[CU];exact decide_eq_true g
      dsimp only at d;rw[this] at d;cases d
     refine m z A λa _ B g=>d ?_
     have e:bl s=bl c++OW a:=by rw[g,RS]
     rw[<- hd] at e;have n:f=OW a:=Kp e;rw[n,wx (by omega)] at j;have:a=u:=by injection j
     rw[<- this];exact g.symm
    ·have d:aC c u=s:=by
      have d:(!bO (aC c u) s)=false:=d;have d:bO (aC c u) s=true:=by simpa using d
      rw[CU] at d;exact of_decide_eq_true d
     have e:bl s=bl c++OW u:=by rw[<- d,RS]
     rw[<- hd] at e;have n:f=OW u:=Kp e;have T:u<=99999999:=AJx (by rw[<- n];exact w);by_cases H:u=0
     ·subst H;refine m z A λa V _ g=>?_
      have:=Ig (g.symm.trans d.symm);omega
     ·exact D z u A (λh=>absurd h H) λ_=>⟨T,d.symm⟩
   ·rw[G] at j;refine⟨trivial,af.yes rfl (y _ _ (af.yes rfl (m e p λa _ B g=>?_)))⟩;have e:bl s=bl c++OW a:=by rw[g,RS]
    rw[<- hd] at e;have n:f=OW a:=Kp e;exact j a (by rw[n];exact wx (by omega))
  ·refine M _ (by simp[F];omega) λa _ B g=>w ?_
   have e:bl s=bl c++OW a:=by rw[g,RS]
   rw[<- hd] at e;rw[Kp e,wy B]
open Go Go.ChangeShapes Go.WideShapes Go.ChangeAt Go.RowKit Go.Proofs.YtgpmoonnachoaaaGreatDoor
theorem vQ {H:Type}{enc:Q7×J0->H}{P:Q1}(d:laidOutB P=true){e f:World}{g:Nat->Bool}: ∀ {ts:List Q7} {c:List J0} {ds:List (DataW H)} {ps:List MemPlace},
  (ts.all λt=>P.readableRec t&&decide (t<P.types.size))=true->DataW.TrodAll enc P e 0 (λ_=>true) true ts c ds ps->(∀ p∈ps,e.sameAt f p)->(∀ p∈ps,g p.block=true)->DataW.TrodAll enc P f 0 g true ts c ds ps
 | [],[],[],_,_,j,_,_=>j
 |t::ts,v::c,o::ds,_,b,⟨p,k,l,m,n⟩,h,i=>by
  simp only[Nd,A4,decide_eq_true_eq] at b;subst n;exact⟨p,k,WideElems.Trod_stays d b.1.1 b.1.2 l (λx a=>h x (Hc _ a)) (λx a=>i x (Hc _ a)),
   vQ d (by simpa using b.2) m (λx a=>h x (HJ _ a)) (λx a=>i x (HJ _ a)),rfl⟩
def lY(a:World):aq:=⟨a.tape,a.os,a.output⟩
theorem APA {H:Type}{enc:Q7×J0->H}{P:Q1}{f:Func}{s:ChangeSpec}{a:World}{args:Array J0}{ds d:List (DataW H)}{j:List MemPlace}{q:Q7}{e:aa}{k:Nat}
  (l:DataW.Whole enc P f.params.toList s.vars false a args.toList ds d j) (r:s.vars= []) (y:(s.fn H (ds++d)).results= [.lit (.bool true)]) (z:(s.fn H (ds++d)).args=ds) (A:(s.fn H (ds++d)).vars= [])
  (B:laidOutB P=true) (g:(f.params.toList.all λt=>P.readableRec t&&decide (t<P.types.size))=true) (C:f.resultTypes= #[q]) (D:P.underlying q=some .bool) (x:Ext a.heap e):
  s.post enc P f false true false false a args (.bool true) ((lY a).at e k):=by
 have u:=λp (g:p∈j)=>l.lt p g
 have E: ∀p∈j,a.sameAt ((lY a).at e k) p:=λp g=>by
  have v:e[p.block]? =a.heap[p.block]? :=x.get _ (u p g) (λh=>h);cases p with
  |cell b off=>
   show ag e ⟨b,off,none⟩=ag a.heap ⟨b,off,none⟩;exact Qb v
  |map b=>exact v
 obtain⟨p,F,hA,m,rfl,L,M⟩:=id l;rw[r] at m;have G:d= []/\F= []:=by
  cases d with
  |nil=>exact⟨rfl,m⟩
  |cons _ _=>exact m.elim
 obtain⟨rfl,rfl⟩:=G;refine⟨ds,[],p++ [],[],p,[],l,?_,?_,?_,?_,λh=>by cases h⟩
 ·rw[y,C];exact⟨[],[],⟨1,by simp[DataW.trod,Value.cells,D]⟩,rfl,rfl⟩
 ·rw[z];exact vQ B g hA (λn o=>E n (Hc _ o)) (λn o=>by simpa using u n (Hc _ o))
 ·rw[r,A];rfl
 ·refine⟨rfl,rfl,λi I=>?_⟩;have J:((lY a).at e k).heap[i]? =a.heap[i]? :=x.get i I (λh=>h);rw[J];cases N:a.heap[i]? with
  |none=>trivial
  |some K=>
   cases K with
   |cells c t fr=>exact⟨rfl,rfl,rfl,λ_ _=>rfl⟩
   |map O Q=>exact .inr ⟨rfl,rfl⟩
   |_=>rfl
theorem laid:laidOutB P=true:=by kernel_rfl
section
variable {H : Type} {enc : Q7 × J0 -> H} {w : World} {base : Nat} {spare : Nat -> Bool} {held : Bool}
theorem ART {e:Type}{E:cD e}{Q:e->DataW H->Prop}{q t:Q7}(D:P.underlying q=some (.slice t))(F:P.cellsOf t=E.w)
  (G: ∀k r x,DataW.trod enc P w base spare held k t r=some x-> ∃b:e,r=E.enc b/\Q b x.1) {k:Nat} {p:Q2} {len s:Nat} {x:DataW H×List MemPlace} (I:DataW.trod enc P w base spare held k q [.slice p len s]=some x):
  ∃(l:List e) (ds:List (DataW H)),View E w.heap ⟨p,len,s⟩ l/\l.length=ds.length/\(∀ (i:Nat) b n,l[i]? =some b->ds[i]? =some n->Q b n)/\Rows.uptoBulkAll ds+1<=Rows.uptoBulk x.1:=by
 rcases Deep.open_slice D I with⟨h,rfl⟩|⟨a,O,R,m,S,o,T,h,_,u,_,J,rfl,y⟩
 ·simp at h;obtain⟨rfl,rfl,rfl⟩:=h;exact⟨[],[],View.nil,rfl,by simp,by simp[Rows.uptoBulk,Rows.uptoBulkAll]⟩
 ·simp at h;obtain⟨rfl,rfl,rfl⟩:=h;have U:len<=m:=by rw[J];split<;>omega
  rw[F] at y;have: ∀i,i<len-> ∃b:e,Cells w.heap (a.add (i*E.w)) (E.enc b)/\Q b (o i):=λi c=>by
   obtain⟨V,g,j⟩:=y i (by omega);obtain⟨b,rfl,K⟩:=G _ _ _ j;obtain⟨_,z,L⟩:=World.cells?_some g;refine⟨b,λA v B=>?_,K⟩;have M:A<E.w:=by rw[<- E.len b];exact(List.getElem?_eq_some_iff.1 B).1
   have:=L A M;rw[B] at this;exact this
  by_cases z:len=0
  ·subst z;refine⟨[],[],⟨rfl,u,λi b c=>by simp at c⟩,rfl,by simp,?_⟩;simp[Rows.uptoBulk,Rows.uptoBulkAll]
  ·obtain⟨N,_⟩:=this 0 (by omega);have: ∃f:Nat->e,∀i,i<len->Cells w.heap (a.add (i*E.w)) (E.enc (f i))/\Q (f i) (o i):=
    ⟨λi=>if c:i<len then Classical.choose (this i c) else N,λi c=>by simp only[dif_pos c];exact Classical.choose_spec (this i c)⟩
   obtain⟨f,C⟩:=this;refine⟨(List.range len).map f,(List.range len).map o,⟨by simp,u,λi b c=>?_⟩,by simp,λi b n g j=>?_,?_⟩
   ·simp only[By] at c;by_cases d:i<len
    ·simp[d] at c;subst c;exact⟨a,rfl,(C i d).1⟩
    ·simp[Nat.not_lt.1 d] at c
   ·simp only[By] at g j;by_cases d:i<len
    ·simp[d] at g j;subst g;subst j;exact(C i d).2
    ·simp[Nat.not_lt.1 d] at g
   ·simp only[Rows.uptoBulk];omega
end
theorem vR {H d:Type}{f:d->Nat}: ∀ {l:List d} {ds:List (DataW H)},l.length=ds.length->(∀ (i:Nat) b a,l[i]? =some b->ds[i]? =some a->f b<=Rows.uptoBulk a)->(l.map f).sum<=Rows.uptoBulkAll ds
 | [],_,_,_=>by simp
 |x::l,[],c,_=>by simp at c
 |x::l,a::ds,c,e=>by
  have g:=e 0 x a rfl rfl;have h:=vR (f:=f) (l:=l) (ds:=ds) (by simpa using c) (λi b a g h=>e (i+1) b a (by simpa using g) (by simpa using h));simp only[B9,FF,Rows.uptoBulkAll];omega
theorem ATl:P.underlying Bq=some (.int J9):=by kernel_rfl
theorem ASR:P.underlying qE=some .bool:=by kernel_rfl
theorem vS:P.underlying Az=some .string:=by kernel_rfl
theorem vT:P.underlying BQ=some (.slice Az):=by kernel_rfl
theorem vU:P.cellsOf Az=1:=by kernel_rfl
theorem wf_i64 {a:Int}(b:(Lit.int J9 a).wf=true): -9223372036854775808<=a/\a<=9223372036854775807:=by simp[Lit.wf,IntKind.min,IntKind.max,IntKind.bits,IntKind.signed] at b;omega
section
variable {H : Type} {enc : Q7 × J0 -> H} {w : World} {base : Nat} {spare : Nat -> Bool} {held : Bool}
theorem gf {a:Nat}{p:Q2}{len b:Nat}{x:DataW H×List MemPlace}(c:DataW.trod enc P w base spare held a BQ [.slice p len b]=some x):
  ∃l:List A2Q,View Fs w.heap ⟨p,len,b⟩ l/\(l.map (·.size+1)).sum+1<=Rows.uptoBulk x.1:=by
 obtain⟨l,ds,V,d,e,k⟩:=ART (E:=Fs) (Q:=λf g=>f.size+1<=Rows.uptoBulk g) vT vU (λa m x h=>by
  obtain⟨s,i,j,n⟩:=DataW.trod_string vS h;refine⟨s,i,?_⟩;rw[j];have:s.data.toList.length=s.size:=by rw[DO];rfl
  simp only[Rows.uptoBulk];omega) c
 have:=vR d e;exact⟨l,V,by omega⟩
end
theorem APb {H:Type}{enc:Q7×J0->H}{a:World}{base:Nat}{v:J0}{b:DataW H}{ps:List MemPlace}(c:Value.okWide P a .any base BQ v)(d:DataW.Trod enc P a 0 (λ_=>true) true BQ v b ps):
  ∃(s:Sl) (l:List A2Q),v= .slice s.p s.len s.cap/\View Fs a.heap s l/\(l.map (·.size+1)).sum+1<=Rows.uptoBulk b:=by
 obtain⟨p,len,e,rfl⟩:=okWide_slice vT c;obtain⟨i,f⟩:=d;obtain⟨l,g,h⟩:=gf f;exact⟨⟨p,len,e⟩,l,rfl,g,h⟩
end Go.Lf.G
namespace Go.Lf
open Go
def xK(a:A2Q)(i:Nat):Nat:=(my a+i*oC a) % 4294967296
def cN(a:A2Q)(m i:Nat):Nat:=xK a i % (8*m)
def TJ(f:List UInt8)(a:Nat):Bool:=((f[a / 8]?).getD 0).toNat.testBit (a % 8)
def gv(f:List UInt8)(a:Nat):List UInt8:=f.set (a / 8) (Br (((f[a / 8]?).getD 0).toNat ||| 2^(a % 8)))
theorem AQZ(f:List UInt8)(a:Nat):(gv f a).length=f.length:=by simp[gv]
theorem wE {c a:Nat}(b:c<256)(d:a<8):c ||| 2^a<256:=by have e:2^a<2^8:=Nat.pow_lt_pow_right (by decide) d;have:c ||| 2^a<2^8:=Kx (by simpa using b) e;simpa using this
theorem ARW {f:List UInt8}{a:Nat}(c:a / 8<f.length)(x:Nat):TJ (gv f a) x=(TJ f x||decide (x=a)):=by
 unfold TJ gv;have d:a % 8<8:=CA _ (by decide);by_cases b:x / 8=a / 8
 ·rw[b,HP c,HI,DR (wE (UInt8.toNat_lt _) d),Nat.testBit_or,Nat.testBit_two_pow];congr 1;rw[DQ,decide_eq_true_iff,decide_eq_true_iff];omega
 ·rw[Kd (by omega)];have:x≠a:=λe=>b (by rw[e])
  simp[this]
def Yo(m:Nat)(f:List UInt8)(a:A2Q):List UInt8:=(List.range 4).foldl (λf i=>gv f (cN a m i)) f
theorem qV {k:A2Q}{m i:Nat}(a:1<=m):cN k m i<8*m:=CA _ (by omega)
theorem Ue {k:A2Q}{m:Nat}(b:1<=m): ∀(l:List Nat) (f:List UInt8),f.length=m->(l.foldl (λf i=>gv f (cN k m i)) f).length=m/\ ∀x,TJ (l.foldl (λf i=>gv f (cN k m i)) f) x=(TJ f x||l.any λi=>decide (x=cN k m i))
 | [],f,a=>⟨a,λx=>by simp⟩
 |i::l,f,a=>by
  have c:cN k m i / 8<f.length:=by have:=qV (k:=k) (i:=i) b;omega
  obtain⟨d,e⟩:=Ue (k:=k) b l (gv f (cN k m i)) (by rw[AQZ,a]);refine⟨d,λx=>?_⟩;rw[I3,e,ARW c,List.any_cons,Bool.or_assoc]
theorem AOA {k:A2Q}{m:Nat}(a:1<=m){f:List UInt8}(b:f.length=m):(Yo m f k).length=m:=(Ue a _ f b).1
theorem APi {a:A2Q}{m:Nat}(b:1<=m){f:List UInt8}(c:f.length=m){x:Nat}(d:TJ f x=true):TJ (Yo m f a) x=true:=by unfold Yo;rw[(Ue b _ f c).2,d];rfl
theorem AOP {a:A2Q}{m:Nat}(b:1<=m){f:List UInt8}(c:f.length=m){i:Nat}(d:i<4):TJ (Yo m f a) (cN a m i)=true:=by unfold Yo;rw[(Ue b _ f c).2,DB];right;rw[List.any_eq_true];exact⟨i,List.mem_range.2 d,by simp⟩
def NM(m:Nat):List UInt8:=List.replicate m 0
def kq(a:List A2Q)(m:Nat):List UInt8:=a.foldl (Yo m) (NM m)
def nX(f:List UInt8)(a:A2Q):Bool:=(List.range 4).all λi=>TJ f (cN a f.length i)
def gW(f:List UInt8)(a:A2Q):Bool:=decide (f≠ [])&&decide (f.length<=8192)&&nX f a
theorem VT {m:Nat}(c:1<=m): ∀(a:List A2Q) (f:List UInt8),f.length=m->(a.foldl (Yo m) f).length=m/\(∀ x,TJ f x=true->TJ (a.foldl (Yo m) f) x=true)/\ ∀k∈a,∀i,i<4->TJ (a.foldl (Yo m) f) (cN k m i)=true
 | [],f,b=>⟨b,λx d=>d,λk j=>by cases j⟩
 |k::a,f,b=>by
  have l:=AOA (k:=k) c b;obtain⟨n,g,o⟩:=VT c a (Yo m f k) l;refine⟨n,λx d=>g x (APi c b d),λp e i h=>?_⟩;rcases List.mem_cons.1 e with rfl|e
  ·exact g _ (AOP c b h)
  ·exact o p e i h
theorem APH {b:List A2Q}{m:Nat}(d:1<=m)(e:m<=8192){c:A2Q}(f:c∈b):gW (kq b m) c=true:=by obtain⟨a,_,g⟩:=VT d b (NM m) (by simp[NM]);have a:(kq b m).length=m:=a;unfold gW nX;rw[a,A4,A4,decide_eq_true_iff,decide_eq_true_iff,Fo];refine⟨⟨λh=>?_,e⟩,λi j=>g c f i (List.mem_range.1 j)⟩;rw[h] at a;simp at a;omega
theorem APx {a:List A2Q}{m:Nat}(b:1<=m):(kq a m).length=m:=(VT b a (NM m) (by simp[NM])).1
theorem AOQ(v:J0)(a:Nat):(madeCells #[v] a).toList=List.replicate a v:=by
 apply List.ext_getElem
 ·simp[madeCells]
 ·intro i b c;simp[madeCells,Nat.mod_one]
theorem wP {a:Type}{b:cD a}{c:a}{v:J0}(d:b.enc c= [v]): ∀n,(List.replicate n c).flatMap b.enc=List.replicate n v
 |0=>rfl
 |n+1=>by rw[List.replicate_succ,List.replicate_succ,AH,d,wP d n];rfl
theorem wQ {e:aq}{P:Q1}{f:Type}{E:cD f}{x0:f}{v z:J0}{t T:Q7}{g:Nat}(p:P.underlying t=some (.slice T))(c:(P.info? T).map (λi=>(i.zero,i.size,i.bytes))=some (some z,1,g))
  (q:z.cells= #[v]) (h:E.w=1) (r:E.enc x0= [v]) {a:aa} {n:Nat} {j k:IntKind} (A:n*g<=140737488355328) (l:n<=maxLen) {K:Sl->aa->Prop}
  (u: ∀b,Own E T b ⟨some ⟨a.size,0,none⟩,n,n⟩ (List.replicate n x0)->Ext a b->b.size=a.size+1->K ⟨some ⟨a.size,0,none⟩,n,n⟩ b):
  BI e P (Instr.makeSlice t (.int j (n:Int)) (.int k (n:Int))) a λv b=> ∃s:Sl,v= .slice s.p s.len s.cap/\K s b:=by
 intro m;cases d:P.info? T with
 |none=>rw[d] at c;simp at c
 |some i=>
  rw[d] at c;simp only[HS,BW,Mb] at c;obtain⟨w,x,y⟩:=c;have hB:((i.bytes:Nat):Int)*((n:Nat):Int)<=281474976710656:=by rw[y,<-Int.natCast_mul,CD];omega
  have o:=run_make (P:=P) (e.at a m) t T i z p d w j k (n:Int) (n:Int) (by omega) (GP _) hB (by simp only[maxLen] at l;omega);simp only[A6,x,Bs,q] at o;refine⟨_,a.push (.cells (madeCells #[v] n) T),m,o,⟨some ⟨a.size,0,none⟩,n,n⟩,rfl,u _ ⟨by simp,.inr ⟨a.size,madeCells #[v] n,rfl,by simp,A0 _,l,by simp[size_madeCells,h],?_⟩⟩ (Mod.push a _) (by simp)⟩;show(madeCells #[v] n).toList.take (n*E.w)=_;rw[AOQ,h,Bs,AF (by simp),wP r]
theorem wR {m:Nat}(a:m<=8192):J8 .u32 (J8 J9 ((8:Int)*((m:Nat):Int)))=((8*m:Nat):Int):=by rw[show(8:Int)*((m:Nat):Int)=((8*m:Nat):Int) by omega,Fb (by omega),wrap_u32,An (by omega)]
theorem ATP(a:A2Q)(i:Nat):xK a i<4294967296:=CA _ (by decide)
theorem wS(a:A2Q)(i:Nat):J8 .u32 (((xK a i:Nat):Int)+((oC a:Nat):Int))=((xK a (i+1):Nat):Int):=by rw[<- Int.natCast_add,wrap_u32];congr 1;unfold xK;rw[Nat.mod_add_mod,BT,Jx,HK]
theorem wT(a:A2Q):xK a 0=my a:=by unfold xK;rw[HU,G3,An (xW a)]
theorem wU(x m:Nat):((x:Nat):Int).tmod ((m:Nat):Int)=((x % m:Nat):Int):=(Int.ofNat_tmod x m).symm
theorem wV(x:Nat):((x:Nat):Int).tdiv (8:Int)=((x / 8:Nat):Int):=(Int.ofNat_tdiv x 8).symm
theorem wW(x:Nat):((x:Nat):Int).tmod (8:Int)=((x % 8:Nat):Int):=(Int.ofNat_tmod x 8).symm
theorem wX(x:Nat):min (((x % 8:Nat):Int).toNat) (IntKind.bits .u8)=x % 8:=by rw[A6];show min (x % 8) 8=_;omega
theorem AQp {c a:Nat}(d:c<256):(Gd .u8 (((c:Nat):Int).fdiv ((2:Int)^a)) (1:Int)==(0:Int))= !(c.testBit a):=by have e:c / 2^a<256:=RW (Se _ _) d;rw[Qa,show(1:Int)=((1:Nat):Int) from rfl,yc e (by decide),Nat.and_one_is_mod,Nat.testBit_eq_decide_div_mod_eq];generalize c / 2^a=f;rcases Nat.mod_two_eq_zero_or_one f with b|b<;>rw[b]<;>rfl
theorem ASr {c a:Nat}(d:c<256)(e:a<8):eA .u8 ((c:Nat):Int) (J8 .u8 ((1:Int)*((2:Int)^a)))=((c ||| 2^a:Nat):Int):=by
 have b:2^a<256:=by have:2^a<2^8:=Nat.pow_lt_pow_right (by decide) e;simpa using this
 have f:(1:Int)*((2:Int)^a)=((2^a:Nat):Int):=by rw[Int.one_mul,Int.natCast_pow];rfl
 rw[f,wrap_u8,An b,yb d b]
end Go.Lf
namespace Go.Lf.G
open Go
theorem ANN {a:A2Q}{i:Nat}(b:i<a.size): ∃c,a.data.toList[i]? =some c:=by
 have:i<a.data.toList.length:=by simpa using b
 exact⟨_,A2 this⟩
theorem rF {o:aq}{d:aa}{key:A2Q}{h:A2P}(r:key.size<=1099511627776)(p:h (.tuple #[.int .u32 (my key:Int),.int .u32 (oC key:Int)]) d):AA o P LD #[.string key] d h:=by
 refine AEc ?_;unfold Yq;refine Loop.rule (λm x j=> ∃i:Nat,x=(((UT (key.data.toList.take i)).1:Int),((UT (key.data.toList.take i)).2:Int),(i:Int),())/\j=d/\m=key.size-i/\i<=key.size) ?_ ⟨0,rfl,rfl,rfl,by omega⟩;rintro K m _ j ⟨i,rfl,e,rfl,s⟩ q;subst e;obtain⟨k,f⟩:=xV (key.data.toList.take i);refine af.intro (λg=>?_) (λg=>?_)
 ·have a:i<key.size:=by simpa using g
  obtain⟨c,l⟩:=ANN a;have n:c.toNat<256:=c.toNat_lt;refine⟨⟨by dsimp only;omega,by dsimp only;omega⟩,⟨by dsimp only;omega,by dsimp only;omega⟩,?_⟩;dsimp only;rw[Nu l,jQ k n,ATg f n,Aa (by omega)];refine q (key.size-(i+1)) _ _ (by omega) ⟨i+1,?_,rfl,rfl,a⟩;rw[Ax,l,Ds,xU]
 ·have a:i=key.size:=by simp at g;omega
  have e:key.data.toList.take i=key.data.toList:=AF (by simp[a]);dsimp only;rw[e] at k f ⊢;have:eA .u32 (((UT key.data.toList).2:Nat):Int) (1:Int)=((oC key:Nat):Int):=ASP f (b:=1) (by decide);rw[this];exact p
theorem XY {f:A2Q}:bO f (⟨#[]⟩:A2Q)=decide (bl f= []):=by
 rw[DQ,CU];constructor
 ·intro a;have a:=of_decide_eq_true a;subst a;rfl
 ·intro a;have a:=of_decide_eq_true a;cases f with
  |mk b=>
   have:b= #[]:=by apply Array.toList_inj.1;exact a
   rw[this];rfl
theorem ASN {f:A2Q}{i:Nat}{c:UInt8}(a:(bl f)[i]? =some c):f.data.toList[i]? =some c:=a
theorem yN {u:aq}{l:aa}{f key:A2Q}{q:A2P}(v:key.size<=1099511627776)(a:q (.bool (gW (bl f) key)) l):AA u P Pg #[.string f,.string key] l q:=by
 refine AGQ ?_;unfold uA;refine ai.mk λK r=>?_
 have g:=A7 f;refine af.intro (λe=>?_) (λe=>?_)
 ·refine r _ _ (af.yes rfl ?_);rw[XY,decide_eq_true_iff] at e;rw[e] at a;exact a
 ·refine r _ _ ?_;rw[XY,decide_eq_false_iff_not] at e;refine af.intro (λn=>?_) (λn=>?_)
  ·have h: ¬(bl f).length<=8192:=by simp at n;omega
   have:gW (bl f) key=false:=by unfold gW;rw[decide_eq_false h,OS,Fl]
   rw[this] at a;exact a
  ·have h:f.size<=8192:=by simp at n;omega
   have w:1<=f.size:=by rw[<- g];exact List.length_pos_iff.2 e
   refine rF v ⟨_,_,rfl,?_⟩;refine Loop.rule (λm x s=> ∃i:Nat,x=(((xK key i:Nat):Int),(i:Int),())/\s=l/\m=4-i/\i<=4/\ ∀b,b<i->TJ (bl f) (cN key f.size b)=true) ?_ ⟨0,by rw[wT];rfl,rfl,rfl,by omega,λb o=>by omega⟩;rintro E m _ s ⟨i,rfl,y,rfl,F,t⟩ z;subst y;dsimp only;refine af.intro (λp=>?_) (λp=>?_)
   ·have j:i<4:=by simp at p;omega
    have G:cN key f.size i<8*f.size:=qV w;have H:=ATP key i;rw[wR h,wU];have A:xK key i % (8*f.size)=cN key f.size i:=rfl;rw[A,wV,wW,wX,wrap_u32,An (show cN key f.size i / 8<4294967296 by omega)];have B:cN key f.size i / 8<(bl f).length:=by rw[g];omega
    have k:(bl f)[cN key f.size i / 8]? =some (bl f)[cN key f.size i / 8]:=A2 B;obtain⟨c,k⟩: ∃c,(bl f)[cN key f.size i / 8]? =some c:=⟨_,k⟩;rw[Nu (ASN k),AQp c.toNat_lt];have C:TJ (bl f) (cN key f.size i)=c.toNat.testBit (cN key f.size i % 8):=by unfold TJ;rw[k];rfl
    refine⟨by omega,⟨by omega,by omega⟩,by omega,?_⟩;rw[<- C];refine af.intro (λd=>?_) (λd=>?_)
    ·have d:TJ (bl f) (cN key f.size i)=false:=by simpa using d
     have:gW (bl f) key=false:=by
      unfold gW nX;rw[g];have:((List.range 4).all λi=>TJ (bl f) (cN key f.size i))=false:=by rw[List.all_eq_false];exact⟨i,List.mem_range.2 j,by simp[d]⟩
      simp[this]
     rw[this] at a;exact a
    ·have d:TJ (bl f) (cN key f.size i)=true:=by simpa using d
     rw[wS,Aa (by omega)];refine z (4-(i+1)) _ _ (by omega) ⟨i+1,rfl,rfl,rfl,j,λb o=>?_⟩;by_cases D:b=i
     ·subst D;exact d
     ·exact t b (by omega)
   ·have j:i=4:=by simp at p;omega
    have:gW (bl f) key=true:=by unfold gW nX;rw[g,A4,A4,decide_eq_true_iff,decide_eq_true_iff,Fo];exact⟨⟨e,h⟩,λb o=>t b (by rw[j];exact List.mem_range.1 o)⟩
    rw[this] at a;exact a
theorem yO:(P.info? Di).map (λi=>(i.zero,i.size,i.bytes))=some (some (.int .u8 0),1,1):=by kernel_rfl
theorem VQ:P.underlying Cs=some (.slice Di):=by kernel_rfl
theorem yP:P.underlying Di=some (.int .u8):=by kernel_rfl
theorem yQ:P.underlying Az=some .string:=by kernel_rfl
theorem AQa {Q:aq}{e:aa}{s:Sl}{ks:List A2Q}{m:Nat}{G:A2P}(y:View Fs e s ks)(R: ∀d∈ks,d.size<=1099511627776)(z:1<=m)(S:m<=8192)(ar:ks.length<=1099511627776)(g: ∀b,s.ah=some b->b<e.size)
  (T: ∀H,Ext e H->G (.tuple #[.string (AX (kq ks m)),.int J9 0]) H):AA Q P OC #[.slice s.p s.len s.cap,.int J9 (m:Int)] e G:=by
 refine AEP ?_;unfold YY;refine ai.mk λK U=>?_
 refine af.no (by simp;omega) ?_;refine U _ _ (af.no (by simp;omega) ?_);refine wQ (E:=GN) (x0:=0) (v:= .int .u8 0) VQ yO rfl rfl rfl (by omega) (by simp only[maxLen];omega) λI J t au=>?_
 have V:List.replicate m (0:UInt8)=NM m:=rfl;rw[V] at J;dsimp only;refine Loop.rule (λk x n=> ∃i:Nat,x=((i:Int),())/\k=ks.length-i/\i<=ks.length/\Mod (λc=>c=e.size) I n/\Own GN Di n ⟨some ⟨e.size,0,none⟩,m,m⟩ ((ks.take i).foldl (Yo m) (NM m))) ?_ ⟨0,rfl,rfl,by omega,Mod.refl,J⟩;rintro av k _ n ⟨i,rfl,rfl,aw,u,o⟩ W;have X:View Fs n s ks:=(y.ext t).mod u λb Y=>by have:=g b Y;omega
 dsimp only;refine af.intro (λp=>?_) (λp=>?_)
 ·have q:i<ks.length:=by rw[y.len] at p;simp at p;omega
  have A:ks[i]? =some ks[i]:=A2 q;refine X.idx A λa ax h=>?_
  refine AJ.mk h.str ?_;refine rF (R _ (Bm q)) ⟨_,_,rfl,?_⟩;have L:ks.take (i+1)=ks.take i++ [ks[i]]:=by rw[Ax,A];rfl
  generalize ks[i]=d at A L;have M:((ks.take i).foldl (Yo m) (NM m)).length=m:=(VT z (ks.take i) (NM m) (by simp[NM])).1;generalize Z:(ks.take i).foldl (Yo m) (NM m)=w at o M;refine Loop.rule (λk x B=> ∃j:Nat,x=(((xK d j:Nat):Int),(j:Int),())/\k=4-j/\j<=4/\Mod (λc=>c=e.size) I B/\Own GN Di B ⟨some ⟨e.size,0,none⟩,m,m⟩ ((List.range j).foldl (λf i=>gv f (cN d m i)) w)) ?_ ⟨0,by rw[wT];rfl,rfl,by omega,u,o⟩;rintro ay k _ B ⟨j,rfl,rfl,az,N,r⟩ ab;dsimp only;refine af.intro (λC=>?_) (λC=>?_)
  ·have D:j<4:=by simp at C;omega
   have aA:cN d m j<8*m:=qV z;have ac:xK d j % (8*m)=cN d m j:=rfl;rw[wR S,wU,ac,wV,wW,wX,wrap_u32,An (show cN d m j / 8<4294967296 by omega)];have ad:((List.range j).foldl (λf i=>gv f (cN d m i)) w).length=m:=(Ue z _ w M).1;generalize ae:(List.range j).foldl (λf i=>gv f (cN d m i)) w=F at r ad;have ag:F[cN d m j / 8]? =some F[cN d m j / 8]:=A2 (by omega);obtain⟨c,h⟩: ∃c,F[cN d m j / 8]? =some c:=⟨_,ag⟩;refine⟨by omega,?_⟩;refine r.view.idx h λaC aD ah=>?_
   rw[A6];refine AC.mk ah.byte ⟨by omega,?_⟩;refine r.view.idx h λO aj aE=>?_
   have ak:=ASr c.toNat_lt (show cN d m j % 8<8 by omega);rw[ak];have al:=wE c.toNat_lt (show cN d m j % 8<8 by omega);rw[wS,Aa (by omega),<-add_zero (O.add (cN d m j / 8*1))];refine Own.store (E:=GN) (i:=cN d m j / 8) (j:=0) (x:=c) (x':=Br (c.toNat ||| 2^(cN d m j % 8))) (v:= .int .u8 ((c.toNat ||| 2^(cN d m j % 8):Nat):Int)) r h (by show [Value.int .u8 _]=_;rw[DR al];rfl) (by decide) (λaF am an aG=>?_) O aj;refine ab (4-(j+1)) _ _ (by omega) ⟨j+1,rfl,rfl,D,N.trans (an.aj λb _ g=>?_),?_⟩
   ·simp[Sl.ah] at g;exact g.symm
   ·rw[Nx,Hi,ae,I3,N6];unfold gv;rw[h];exact am
  ·have D:j=4:=by simp at C;omega
   subst D;rw[Aa (by omega)];refine W (ks.length-(i+1)) _ _ (by omega) ⟨i+1,rfl,rfl,q,N,?_⟩;rw[L,Hi,Z];exact r
 ·have q:i=ks.length:=by rw[y.len] at p;simp at p;omega
  have ao:ks.take i=ks:=by rw[q];simp
  rw[ao] at o;have ap:((ks.foldl (Yo m) (NM m)))=kq ks m:=rfl;rw[ap] at o;refine JP VQ yP yQ (s:=⟨some ⟨e.size,0,none⟩,m,m⟩) (l:=kq ks m) o.view ⟨_,rfl,?_⟩;exact T n ⟨by have:=t.size;have:=u.size;omega,λb g _=>(u.get b (by have:=t.size;omega) (by omega)).trans (t.get b g (by simp))⟩
end Go.Lf.G
namespace Go.Lf
open Go
structure La (p:Pr):Prop where
 key:p.key.size≠0
 bK:p.key.size<=64
 cp:p.val.size<=8192
 gone:p.gone=true->p.val.size=0
def Ih(p:Pr):Nat:=if p.gone then 0 else p.val.size+1
def Ii(p:Pr):List UInt8:=BU (bl p.key)++(Bd (Ih p)++bl p.val)
abbrev BP(l:List Pr):List UInt8:=l.flatMap Ii
theorem Tz {s:A2Q}(a:s.size=0):bl s= []:=CH (by rw[A7];exact a)
theorem wA {p:Pr}(a:La p)(t:List UInt8):GY ⟨Ii p++t,false⟩=(bl p.key,⟨Bd (Ih p)++bl p.val++t,false⟩):=by
 have c:=a.bK;have b:Ii p++t=BU (bl p.key)++(Bd (Ih p)++bl p.val++t):=by simp[Ii,A3]
 rw[b];exact IR (by rw[A7];omega) _
theorem ZC {p:Pr}(a:La p):Ih p<=8193:=by have:=a.cp;unfold Ih;split<;>omega
theorem wB {p:Pr}(a:La p)(t:List UInt8):CQ 8193 ⟨Bd (Ih p)++bl p.val++t,false⟩=(Ih p,⟨bl p.val++t,false⟩):=by rw[A3];have:=ZC a;exact CP (by omega) this _
theorem wC {p:Pr}(a:La p)(t:List UInt8):KQ (Ih p-1) ⟨bl p.val++t,false⟩=(bl p.val,⟨t,false⟩):=by
 have b:Ih p-1=(bl p.val).length:=by
  rw[A7];unfold Ih;split
  ·rename_i c;rw[a.gone c]
  ·omega
 rw[b];exact y7 _ _
theorem QL {p:Pr}(a:La p):1<=(Ii p).length/\(Ii p).length<=p.key.size+p.val.size+20:=by have b:=a.bK;have c:=a.cp;have d:=AV (n:=(bl p.key).length) (by rw[A7];omega);have e:=ZC a;have f:=AV (n:=Ih p) (by omega);have g:=a.key;have h:=A7 p.key;have i:=A7 p.val;simp only[Ii,BU,A1];omega
end Go.Lf
namespace Go.Lf.G
open Go
theorem G5:QE P AQ AR BR.w 40=true:=by kernel_rfl
theorem ARb {e:aq}{a:aa}{b:Nat}{c:Rd}{d:A2P}(f:Ia a b c)(g:d (J3 c.bad) a):AA e P Km #[Ar b] a d:=by refine Wo ?_;unfold Pq;refine af.no rfl (aD ?_);exact Ac.mk (AB f rfl) g
theorem VV {A:aq}{h:aa}{s:A2Q}{R:A2P}(b:s.size<=1099511627776)(c: ∀a,Ext h a->R (J7 (AX (BU (bl s)))) a):AA A P CE #[J7 s] h R:=by have:=Qy (A:=A) (h:=h) (l:=bl s) (R:=R) (by rw[A7];exact b) c;rwa [EE] at this
theorem yR {a:Nat}(b:a<=1099511627776):J8 .u64 ((J8 .u64 (a:Int))+(1:Int))=((a+1:Nat):Int):=by rw[CG (by omega),show((a:Int)+1)=((a+1:Nat):Int) by omega,CG (by omega)]
theorem Zz {s:A2Q}(a:s.size=0):s=⟨#[]⟩:=by have:=EE s;rw[<- this,show s.data.toList= [] from Tz a];rfl
theorem Am {a c:aa}{b:Nat}{d:Array J0}{T:Q7}(x:Ext a c)(e:a[b]? =some (J2 d T (0,0))):c[b]? =some (J2 d T (0,0)):=x.ah e (λa=>a)
theorem AOo {l:aq}{e:aa}{x:Pr}{f:A2P}(h:La x)(m: ∀o,Ext e o->f (J7 (AX (Ii x))) o):AA l P Nw #[x.agg] e f:=by
 obtain⟨a,v,g⟩:=x;have r:=h.bK;have s:=h.cp;have p:=h.gone;dsimp only at r s p;show AA l P Nw #[.agg #[J7 a,J7 v,J3 g]] e f;refine AEL ?_;unfold Xd;refine al.mk λz _ b q A=>?_
 refine Ac.mk (AB b rfl) ?_;have B:=AV (n:=(bl a).length) (by rw[A7];omega);have C:=A7 a;have D:=A7 v;refine af.intro (λi=>?_) (λi=>?_)
 ·subst i;refine AJ.mk (AO b rfl) ?_;refine VV (by omega) λt c=>⟨_,rfl,?_⟩
  refine Cc (n:=0) (by omega) λu d=>⟨_,rfl,?_⟩
  have w:=AV (n:=0) (by omega);refine⟨by rw[AP,AP,max_i64];simp only[BU,A1];omega,?_⟩;rw[Aj];have j:Ii ⟨a,v,true⟩=BU (bl a)++Bd 0:=by unfold Ii Ih;rw[Tz (p rfl)];simp
  rw[<- j];exact m _ ((q.trans c).trans d)
 ·subst i;refine AJ.mk (AO b rfl) (AJ.mk (AB b rfl) (AJ.mk (AB b rfl) ?_));refine VV (by omega) λt c=>⟨_,rfl,?_⟩
  have k:=Am c b;refine⟨AB k rfl,AB k rfl,?_⟩;rw[yR (by omega)];refine Cc (by omega) λu d=>⟨_,rfl,?_⟩
  have y:=Am d k;have w:=AV (n:=v.size+1) (by omega);refine⟨AB y rfl,by rw[AP,AP,max_i64];simp only[BU,A1];omega,?_,?_⟩
  ·rw[Aj,AP,max_i64];simp only[BU,A1];omega
  ·rw[Aj];have j:AX (BU (bl a)++Bd (v.size+1))++v=AX (Ii ⟨a,v,false⟩):=by
    have:v=AX (bl v):=(EE v).symm
    conv=>lhs;arg 2;rw[this]
    rw[Aj];unfold Ii Ih;simp[A3]
   rw[j];exact m _ ((q.trans c).trans d)
theorem yS {s:A2Q}(a:s.size≠0):bO s (⟨#[]⟩:A2Q)=false:=by rw[XY,decide_eq_false_iff_not];intro b;have:=A7 s;rw[b] at this;exact a this.symm
theorem yT {a:Nat}(b:a<=100000):(if((J8 J9 (((a:Nat):Int)-(1:Int))):Int)>0 then(J8 J9 (((a:Nat):Int)-(1:Int))) else 0)=((a-1:Nat):Int):=by rw[wrap_i64 (by omega) (by omega)];split<;>omega
theorem ZH {l:List Pr}(a: ∀x∈l,La x):l.length<=(BP l).length:=by
 induction l with
 |nil=>simp
 |cons x l b=>
  have:=(QL (a x Cl)).1;have:=b λc d=>a c (AG _ d)
  simp only[BP,AH,A1,A5] at this ⊢;omega
theorem rG {ag:aq}{c:aa}{l:List Pr}{I:A2P}(J: ∀x∈l,La x)(aN:(BP l).length<1099511627776)
  (ah: ∀s z,Own BR AR z s l->Ext c z->(∀ b,s.ah=some b->c.size<=b)->I (J1 #[J4 s.p s.len s.cap,J3 true]) z):AA ag P Ju #[J7 (AX (BP l))] c I:=by
 refine ADA ?_;unfold V9;refine Jp λaO aj ak=>⟨_,rfl,?_⟩
 have aP:=ZH J;refine Loop.rule (λm x f=> ∃(i:Nat) (s:Sl),x=(s,())/\m=l.length-i/\i<=l.length/\Ia f c.size ⟨BP (l.drop i),false⟩/\Ext c f/\Own BR AR f s (l.take i)/\ ∀b,s.ah=some b->c.size<=b) ?_ ⟨0,⟨none,0,0⟩,rfl,rfl,by omega,aj,ak,Own.nil,λb a=>by simp[Sl.ah] at a⟩;rintro K m _ f ⟨i,s,rfl,rfl,aQ,rd,t,p,A⟩ am;dsimp only;refine MQ rd ⟨_,rfl,?_⟩;by_cases g:i<l.length
 ·have L:l[i]? =some l[i]:=A2 g;have M:l[i]∈l:=Bm g;have hd:l.drop i=l[i]::l.drop (i+1):=DH g;have N:l.take (i+1)=l.take i++ [l[i]]:=by rw[Ax,L];rfl
  generalize l[i]=x at L M hd N;have h:=J x M;have O:BP (l.drop i)=Ii x++BP (l.drop (i+1)):=by rw[hd];rfl
  have Q:(Ii x++BP (l.drop (i+1))).length<1099511627776:=by
   have e:BP l=BP (l.take i)++BP (l.drop i):=by rw[<- Ge,CN]
   have:=congrArg List.length e;rw[O,A1] at this;omega
  have aR:=QL h;rw[O] at rd ⊢;refine af.yes ?_ ?_
  ·unfold Ya;have:(Ii x++BP (l.drop (i+1)))≠ []:=by intro e;have:=congrArg List.length e;simp only[A1,GO] at this;omega
   simp only[Ly,Ek,CI,List.isEmpty_eq_false_iff];exact this
  ·refine G7 rd Q λd u B=>⟨_,rfl,?_⟩
   rw[wA h] at u ⊢;dsimp only at u ⊢;rw[EE];refine al.mk λan _ ao R aS=>?_
   refine ae.mk ao (by simp) λaT ap S aU=>?_
   rw[Bh,Bh];refine ae.mk ap (by simp) λaV ar T aW=>?_
   refine ae.mk ar (by simp) λau av U aX=>?_
   have aY:c.size<d.size:=by have:=Ah u;exact this
   have j:c.size≠d.size:=by omega
   have aw:Ia au c.size ⟨Bd (Ih x)++bl x.val++BP (l.drop (i+1)),false⟩:=U.ah (T.ah (S.ah (R.ah u (λc=>c)) j) j) j;have ax:(Bd (Ih x)++bl x.val++BP (l.drop (i+1))).length<=1099511627776:=by simp only[Ii,A1] at Q ⊢;omega
   refine DN (most:=8193) aw ax (by decide) λC v V=>⟨_,rfl,?_⟩
   rw[wB h] at v ⊢;dsimp only at v ⊢;have W:C[d.size]? =some (J2 #[J7 x.key,J7 ⟨#[]⟩,J3 false] AR (0,0)):=V.ah (by simpa using av) (Ne.symm j);refine ai.mk λay az=>?_
   have aZ:=ZC h;have key: ∀q,Ia q c.size ⟨bl x.val++BP (l.drop (i+1)),false⟩->q[d.size]? =some (J2 #[J7 x.key,J7 ⟨#[]⟩,J3 x.gone] AR (0,0))->Mod (λb=>b=c.size\/b=d.size) d q->ay () q:=by
    intro q aA aC aD;refine az () q ?_;rw[yT (by omega)];refine rn aA λa0 D X=>⟨_,rfl,?_⟩
    rw[wC h] at D ⊢;dsimp only at D ⊢;rw[EE];have aE:=X.ah aC (Ne.symm j);refine ae.mk aE (by simp) λr k Y a1=>?_
    have F:Ia r c.size ⟨BP (l.drop (i+1)),false⟩:=Y.ah D j;have k:r[d.size]? =some (J2 #[J7 x.key,J7 x.val,J3 x.gone] AR (0,0)):=by simpa using k
    refine ai.mk λa2 aF=>?_
    refine ARb F ⟨_,rfl,?_⟩;refine af.no rfl ?_;refine AJ.mk (AO k rfl) ?_;refine af.no (yS h.key) ?_;refine AJ.mk (AO k rfl) ?_;have a3:=h.bK;refine aF _ _ (af.no (by simp;omega) ?_);refine AJ.mk (AO k rfl) ?_;refine AJ.mk (AO k rfl) ?_;refine Ac.mk (AO k rfl) ?_;have w:Mod (λb=>b=c.size\/b=d.size) f r:=by
     have G:Mod (λb=>b=c.size\/b=d.size) f d:=B.aj λb _ a=> .inl a
     exact((G.trans aD).trans (X.aj λb _ a=> .inl a)).trans (Y.aj λb _ a=> .inr a)
    have Z: ∀b,s.ah=some b-> ¬(b=c.size\/b=d.size):=by
     intro b a;have a4:=p.lt a;have aG:=B.size;rintro(rfl|rfl)
     ·exact p.ne rd (by decide) a
     ·omega
    refine al.aY (E:=BR) (x:=x) rfl G5 (p.mod w Z) ?_ ?_ λaH a5 ab H aI a6=>?_
    ·rw[AD];omega
    ·simp only[maxLen];rw[AD];omega
    ·rw[<- N] at ab;have y:Ext c r:=by refine⟨by have:=t.size;have:=w.size;omega,λb a _=>?_⟩;have aG:=B.size;have:=t.size;exact(w.get b (by omega) (by omega)).trans (t.get b a (λc=>c))
     refine am (l.length-(i+1)) _ _ (by omega) ⟨i+1,aH,rfl,rfl,g,?_,?_,ab,?_⟩
     ·refine H.ah F λe=>?_
      have:Own BR AR r s (l.take i):=p.mod w Z;exact this.ne F (by decide) e
     ·refine⟨by have:=y.size;have:=H.size;omega,λb a _=>?_⟩;have:=y.size;exact(H.get b (by omega) (λe=>by have:=A b e;omega)).trans (y.get b a (λc=>c))
     ·intro b a;rcases aI b a with e|e
      ·exact A b e
      ·have:=y.size;omega
   have ac:Mod (λb=>b=c.size\/b=d.size) d C:=by have G:Mod (λb=>b=c.size\/b=d.size) d an:=R.mod;exact(((G.trans (S.aj λb _ a=> .inr a)).trans (T.aj λb _ a=> .inr a)).trans (U.aj λb _ a=> .inr a)).trans (V.aj λb _ a=> .inl a)
   refine af.intro (λn=>?_) (λn=>?_)
   ·have o:x.gone=true:=by
     unfold Ih at n;split at n
     ·rename_i o;exact o
     ·simp at n;omega
    refine ae.mk W (by simp) λaJ aK ad a7=>?_
    refine key aJ (ad.ah v j) (by rw[o];simpa using aK) (ac.trans (ad.aj λb _ a=> .inr a))
   ·have o:x.gone=false:=by
     cases o:x.gone with
     |false=>rfl
     |true=>unfold Ih at n;rw[o] at n;simp at n
    exact key C v (by rw[o];exact W) ac
 ·have g:i=l.length:=by omega
  have aL:l.drop i= []:=by rw[g];simp
  have aM:l.take i=l:=by rw[g];simp
  rw[aL];rw[aM] at p;exact af.no rfl (ah s f p t A)
def BX(a:Nat)(l:List Pr):List UInt8:=Bd a++Bd l.length++BP l
theorem Ls {l:List Pr}(b: ∀x∈l,La x):(BP l).length<=l.length*8276:=by
 induction l with
 |nil=>simp
 |cons x l c=>
  have a:=b x Cl;have f:=(QL a).2;have g:=a.bK;have h:=a.cp;have:=c λd e=>b d (AG _ e)
  simp only[BP,AH,A1,A5] at this ⊢;omega
theorem ARj {l:List Pr}(a: ∀x∈l,La x)(i:Nat): ∀x∈l.take i,La x:=λx b=>a x (DM b)
theorem APK {C:aq}{f:aa}{s:Sl}{l:List Pr}{c:Nat}{t:A2P}(X:c<=99999999)(Y:l.length<=64)(u: ∀x∈l,La x)(v:View BR f s l)(Z: ∀b,s.ah=some b->b<f.size)
  (D: ∀d,Ext f d->t (J7 (AX (BX c l))) d):AA C P TW #[J6 J9 (c:Int),J4 s.p s.len s.cap] f t:=by
 refine AG2 ?_;unfold uy;rw[CG (by omega)];refine Cc (by omega) λab E=>⟨_,rfl,?_⟩
 rw[v.len,CG (by omega)];refine Cc (by omega) λac F=>⟨_,rfl,?_⟩
 have ad:=AV (n:=c) (by omega);have ae:=AV (n:=l.length) (by omega);refine⟨by rw[AP,AP,max_i64];omega,?_⟩;rw[Aj];refine Loop.rule (λm x o=> ∃i:Nat,x=(AX (Bd c++Bd l.length++BP (l.take i)),(i:Int),())/\m=l.length-i/\i<=l.length/\Ext f o) ?_ ⟨0,by simp,rfl,by omega,E.trans F⟩;rintro K m _ o ⟨i,rfl,rfl,ag,p⟩ G;dsimp only;refine af.intro (λq=>?_) (λq=>?_)
 ·have e:i<l.length:=by simp at q;omega
  have r:l[i]? =some l[i]:=A2 e;have w:l.take (i+1)=l.take i++ [l[i]]:=by rw[Ax,r];rfl
  have h:=u _ (Bm e);generalize l[i]=x at r w h;have ah:=h.bK;have aj:=h.cp;have H:=h.gone;have lt:=Ls (ARj u i);rw[AD] at lt;have ak:=AV (n:=(bl x.key).length) (by rw[A7];omega);have am:=A7 x.key;have an:=A7 x.val;refine ai.mk λI J=>?_
  obtain⟨a,L,M⟩:=(v.ext p).cells i x r;refine bI.mk L e ?_;obtain⟨N,O,c2⟩:=M.pair;rw[A6];refine AJ.mk N (AJ.mk O (Ac.mk c2 ?_));refine al.pair λb ao ap y Q ar=>?_
  refine AJ.mk (AO y rfl) ?_;refine VV (by omega) λR z=>⟨_,rfl,⟨by rw[AP,AP,max_i64];simp only[BU,A1];omega,?_⟩⟩
  have j:=Am z y;refine Ac.mk (AB j rfl) ?_;rw[Aj];have fin: ∀d,Ext R d->I (AX (Bd c++Bd l.length++BP (l.take (i+1))),()) d:=by intro d S;refine J _ _ ?_;dsimp only;rw[Aa (by omega)];exact G (l.length-(i+1)) _ _ (by omega) ⟨i+1,rfl,rfl,e,((p.trans Q).trans z).trans S⟩
  have A:BP (l.take (i+1))=BP (l.take i)++Ii x:=by rw[w];simp[BP]
  refine af.intro (λk=>?_) (λk=>?_)
  ·refine Cc (n:=0) (by omega) λT U=>⟨_,rfl,?_⟩
   have V:=AV (n:=0) (by omega);refine⟨by rw[AP,AP,max_i64];simp only[BU,A1];omega,?_⟩;rw[Aj];have g:Ii x=BU (bl x.key)++Bd 0:=by unfold Ii Ih;rw[k,Tz (H k)];simp
   have:=fin T U;rw[A,g] at this;simpa only[A3] using this
  ·refine AJ.mk (AB j rfl) (AJ.mk (AB j rfl) ?_);rw[yR (by omega)];refine Cc (by omega) λW B=>⟨_,rfl,?_⟩
   have V:=AV (n:=x.val.size+1) (by omega);refine⟨AB (Am B j) rfl,?_,?_,?_⟩
   ·rw[AP,max_i64];omega
   ·have au:x.val=AX (bl x.val):=(EE _).symm;rw[Ks,AP,AP,max_i64];simp only[BU,A1];omega
   ·have g:AX (Bd (x.val.size+1))++x.val=AX (Bd (Ih x)++bl x.val):=by
     conv=>lhs;arg 2;rw[(EE x.val).symm]
     rw[Aj];unfold Ih;rw[k];rfl
    rw[g,Aj];have:=fin W B;rw[A] at this;unfold Ii at this;simpa only[A3] using this
 ·have e:i=l.length:=by simp at q;omega
  have g:l.take i=l:=by rw[e];simp
  rw[g];exact D o p
theorem AJ9 {ah:aq}{c:aa}{l:List Pr}{o:Nat}{I:A2P}(aM:o<=99999999)(aN:l.length<=64)(J: ∀x∈l,La x)
  (ai: ∀s y,Own BR AR y s l->Ext c y->(∀ b,s.ah=some b->c.size<=b)->I (J1 #[J6 J9 (o:Int),J4 s.p s.len s.cap,J3 true]) y):AA ah P QA #[J7 (AX (BX o l))] c I:=by
 refine AD8 ?_;unfold WX;have aO:=AV (n:=o) (by omega);have aP:=AV (n:=l.length) (by omega);have aQ:=Ls J;refine Jp λaR L z=>⟨_,rfl,?_⟩
 have A:BX o l=Bd o++(Bd l.length++BP l):=by simp[BX,A3]
 rw[A] at L;refine DN (most:=99999999) L (by simp only[A1];omega) (by decide) λd e g=>⟨_,rfl,?_⟩
 rw[CP (by omega) (by omega)] at e ⊢;dsimp only at e ⊢;refine DN (most:=64) e (by simp only[A1];omega) (by decide) λaj B M=>⟨_,rfl,?_⟩
 rw[CP (by omega) (by omega)] at B ⊢;dsimp only at B ⊢;have ak:Ext c aj:=by refine⟨by have:=z.size;have:=g.size;have:=M.size;omega,λb a _=>?_⟩;have:=z.size;have:=g.size;exact((M.get b (by omega) (by omega)).trans (g.get b (by omega) (by omega))).trans (z.get b a (λc=>c))
 refine Loop.rule (λm x h=> ∃(i:Nat) (s:Sl),x=(s,(i:Int),())/\m=l.length-i/\i<=l.length/\Ia h c.size ⟨BP (l.drop i),false⟩/\Ext c h/\Own BR AR h s (l.take i)/\ ∀b,s.ah=some b->c.size<=b) ?_ ⟨0,⟨none,0,0⟩,rfl,rfl,by omega,B,ak,Own.nil,λb a=>by simp[Sl.ah] at a⟩;rintro K m _ h ⟨i,s,rfl,rfl,aS,rd,t,p,C⟩ am;dsimp only;refine af.intro (λD=>?_) (λD=>?_)
 ·have j:i<l.length:=by simp at D;omega
  have N:l[i]? =some l[i]:=A2 j;have O:l[i]∈l:=Bm j;have hd:l.drop i=l[i]::l.drop (i+1):=DH j;have Q:l.take (i+1)=l.take i++ [l[i]]:=by rw[Ax,N];rfl
  generalize l[i]=x at N O hd Q;have u:=J x O;have R:BP (l.drop i)=Ii x++BP (l.drop (i+1)):=by rw[hd];rfl
  have S:(Ii x++BP (l.drop (i+1))).length<1099511627776:=by
   have f:BP l=BP (l.take i)++BP (l.drop i):=by rw[<- Ge,CN]
   have:=congrArg List.length f;rw[R,A1] at this;omega
  rw[R] at rd;refine G7 rd S λd e g=>⟨_,rfl,?_⟩
  rw[wA u] at e ⊢;dsimp only at e ⊢;rw[EE];refine al.mk λan _ ao T aT=>?_
  refine ae.mk ao (by simp) λaU ap U aV=>?_
  rw[Bh,Bh];refine ae.mk ap (by simp) λaW ar V aX=>?_
  refine ae.mk ar (by simp) λau av W aY=>?_
  have aZ:c.size<d.size:=by have:=Ah e;exact this
  have k:c.size≠d.size:=by omega
  have aw:Ia au c.size ⟨Bd (Ih x)++bl x.val++BP (l.drop (i+1)),false⟩:=W.ah (V.ah (U.ah (T.ah e (λc=>c)) k) k) k;have ax:(Bd (Ih x)++bl x.val++BP (l.drop (i+1))).length<=1099511627776:=by simp only[Ii,A1] at S ⊢;omega
  refine DN (most:=8193) aw ax (by decide) λay F X=>⟨_,rfl,?_⟩
  rw[wB u] at F ⊢;dsimp only at F ⊢;have az:ay[d.size]? =some (J2 #[J7 x.key,J7 ⟨#[]⟩,J3 false] AR (0,0)):=X.ah (by simpa using av) (Ne.symm k);have a0:=ZC u;have aA:(((Ih x:Nat):Int)==(0:Int))=x.gone:=by
   unfold Ih;cases x.gone
   ·simp;omega
   ·simp
  rw[aA];refine ae.mk az (by simp) λaC aD Y a1=>?_
  rw[yT (by omega)];have aE:Ia aC c.size ⟨bl x.val++BP (l.drop (i+1)),false⟩:=Y.ah F k;refine rn aE λa2 G Z=>⟨_,rfl,?_⟩
  rw[wC u] at G ⊢;dsimp only at G ⊢;rw[EE];have aF:=Z.ah aD (Ne.symm k);refine ae.mk aF (by simp) λq r ab a3=>?_
  have ac:Ia q c.size ⟨BP (l.drop (i+1)),false⟩:=ab.ah G k;have r:q[d.size]? =some (J2 #[J7 x.key,J7 x.val,J3 x.gone] AR (0,0)):=by simpa using r
  refine AJ.mk (AO r rfl) ?_;refine AJ.mk (AO r rfl) ?_;refine Ac.mk (AO r rfl) ?_;have v:Mod (λb=>b=c.size\/b=d.size) h q:=by
   have aG:Mod (λb=>b=c.size\/b=d.size) h d:=g.aj λb _ a=> .inl a
   have aH:Mod (λb=>b=c.size\/b=d.size) d an:=T.mod;exact((((((((aG.trans aH).trans (U.aj λb _ a=> .inr a)).trans (V.aj λb _ a=> .inr a)).trans (W.aj λb _ a=> .inr a)).trans (X.aj λb _ a=> .inl a)).trans (Y.aj λb _ a=> .inr a)).trans (Z.aj λb _ a=> .inl a))).trans (ab.aj λb _ a=> .inr a)
  have ad: ∀b,s.ah=some b-> ¬(b=c.size\/b=d.size):=by
   intro b a;have a4:=p.lt a;have aI:=g.size;rintro(rfl|rfl)
   ·exact p.ne rd (by decide) a
   ·omega
  refine al.aY (E:=BR) (x:=x) rfl G5 (p.mod v ad) ?_ ?_ λaJ a5 ag H aK a6=>?_
  ·rw[AD];omega
  ·simp only[maxLen];rw[AD];omega
  ·rw[<- Q] at ag;have w:Ext c q:=by refine⟨by have:=t.size;have:=v.size;omega,λb a _=>?_⟩;have aI:=g.size;have:=t.size;exact(v.get b (by omega) (by omega)).trans (t.get b a (λc=>c))
   rw[Aa (by omega)];refine am (l.length-(i+1)) _ _ (by omega) ⟨i+1,aJ,rfl,rfl,j,?_,?_,ag,?_⟩
   ·refine H.ah ac λf=>?_
    have:Own BR AR q s (l.take i):=p.mod v ad;exact this.ne ac (by decide) f
   ·refine⟨by have:=w.size;have:=H.size;omega,λb a _=>?_⟩;have:=w.size;exact(H.get b (by omega) (λf=>by have:=C b f;omega)).trans (w.get b a (λc=>c))
   ·intro b a;rcases aK b a with f|f
    ·exact C b f
    ·have:=w.size;omega
 ·have j:i=l.length:=by simp at D;omega
  have A:l.drop i= []:=by rw[j];simp
  have aL:l.take i=l:=by rw[j];simp
  rw[A] at rd;rw[aL] at p;refine MQ rd ⟨_,rfl,?_⟩;exact ai s h p t C
end Go.Lf.G
namespace Go.Lf
open Go
def CJ(l:List Pr)(i:Nat):List Pr:=(l.drop (8*i)).take 8
def Bu(l:List Pr):Nat:=(l.length+7) / 8
def Ka(l:List Pr):List (List Pr):=(List.range (Bu l)).map (CJ l)
def Iq(l:List Pr)(i:Nat):A2Q:=match l[i]? with|some p=>p.key|none=>⟨#[]⟩
def CV(l:List Pr):List A2Q:=(List.range (Bu l)).map λi=>Iq l (8*i)
def Vk(l:List Pr)(f:List UInt8):List UInt8:=Bd (Bu l)++((CV l).flatMap λa=>BU (bl a))++(Bd l.length++BU f)
def aT(l:List Pr)(f:List UInt8):List (List UInt8):=(Ka l).map BP++ [Vk l f]
theorem Qi {l:List Pr}{i:Nat}(a:i<Bu l):1<=(CJ l i).length/\(CJ l i).length<=8/\(i+1<Bu l->(CJ l i).length=8):=by
 unfold CJ Bu at*
 rw[AD,DE];omega
theorem QJ {l:List Pr}{i j:Nat}(a:j<8):(CJ l i)[j]? =l[8*i+j]? :=by unfold CJ;rw[F2,if_pos a,C5]
theorem wF {l:List Pr}: ∀i,l.take (8*i)++CJ l i=l.take (8*(i+1)):=λi=>by
 unfold CJ;rw[show 8*(i+1)=8*i+8 by omega,List.take_add]
theorem wG(l:List Pr): ∀n,((List.range n).map (CJ l)).flatten=l.take (8*n)
 |0=>by simp
 |n+1=>by rw[Nx,AW,NO,wG l n];simpa using wF n
theorem AM7(l:List Pr):(Ka l).flatten=l:=by unfold Ka;rw[wG,AF];unfold Bu;omega
theorem I5(l:List Pr):(Ka l).length=Bu l:=by simp[Ka]
theorem Hm(l:List Pr):(CV l).length=Bu l:=by simp[CV]
theorem wH {l:List Pr}(a:l≠ []):1<=Bu l:=by have:=List.length_pos_iff.2 a;unfold Bu;omega
structure gX (s:List UInt8) (l:List Pr) (f:List UInt8):Prop where
 bytes:s=aJ (aT l f)
 ne:l≠ []
 ok: ∀p∈l,La p
 inc:l.Pairwise λp q=>aM p.key q.key=true
 jB:1<=f.length/\f.length<=8192
 has: ∀p∈l,gW f p.key=true
 many:l.length<=100000
theorem ZH {l:List Pr}(a: ∀p∈l,La p):(BP l).length<=l.length*8276:=by
 induction l with
 |nil=>simp
 |cons p l b=>
  have f:=(QL (a p (by simp))).2;have c:=b λd e=>a d (AG _ e)
  have g:=(a p (by simp)).bK;have h:=(a p (by simp)).cp;simp only[BP,AH,A1,A5] at c ⊢;omega
theorem Pp {l:List Pr}{i:Nat}{p:Pr}(a:p∈CJ l i):p∈l:=I0 (DM a)
theorem X9 {s:List UInt8}{l:List Pr}{f:List UInt8}(T:gX s l f):(Vk l f).length<=1048576:=by
 have r:=T.many;have t:=T.jB.2;have u:=AV (n:=Bu l) (by unfold Bu;omega);have v:=AV (n:=l.length) (by omega);have w:=AV (n:=f.length) (by omega);have c: ∀a∈CV l,a.size<=64:=λa c=>by
  obtain⟨i,_,rfl⟩:=List.mem_map.1 c;unfold Iq;split
  ·rename_i p e;exact(T.ok p (AM e)).bK
  ·exact As _
 have g: ∀b:List A2Q,(∀ a∈b,a.size<=64)->(b.flatMap λa=>BU (bl a)).length<=b.length*65:=by
  intro b
  induction b with
  |nil=>intro _;simp
  |cons a b h=>
   intro d;have j:=h λx k=>d x (AG _ k)
   have y:=d a (by simp);have m:(Bd a.size).length=1:=by rw[FU (by omega)];rfl
   have o:(BU (bl a)).length=1+a.size:=by simp only[BU,A1,A7,m]
   simp only[AH,A1,A5,o] at j ⊢;omega
 have q:=g (CV l) c;rw[Hm] at q;have z:Bu l<=12501:=by unfold Bu;omega
 have A:(BU f).length=(Bd f.length).length+f.length:=by simp[BU]
 simp only[Vk,A1];omega
theorem Nq {s:List UInt8}{l:List Pr}{f:List UInt8}(T:gX s l f): ∀c∈aT l f,c.length<=1048576:=λc a=>by
 rcases List.mem_append.1 a with a|a
 ·obtain⟨b,d,rfl⟩:=List.mem_map.1 a;obtain⟨i,e,rfl⟩:=List.mem_map.1 d;have j:=ZH (l:=CJ l i) λp g=>T.ok p (Pp g)
  have h:=(Qi (List.mem_range.1 e)).2.1;have:(CJ l i).length*8276<=8*8276:=AS _ h;omega
 ·rw[List.mem_singleton.1 a];exact X9 T
def wI(s:Sl):J0:=J4 s.p s.len s.cap
def qW(x:Sl):iL [.one .sl]:=(x,())
def wY(j:aq)(P:Q1)(fv:J0)(m:Nat->Prop)(n:aa)(l:List Sl):Prop:=
 ∃f e,fv= .func (.func f) #[] e/\(∀ a,(callFunc f (#[]++ #[a]++e)).calc P=some (.enter f (#[]++ #[a]++e)))/\
  ∀(k:aa) (a:J0) (c:Nat->Bool->aa->Prop),Lx a=true->(∀ i g d,c i g d-> ∀b,m b->d[b]? =n[b]?)->
   (∀ i x d,l[i]? =some x->c i true d->Ec j P a #[wI x] d λv h=> ∃g,v=J3 g/\c (i+1) g h)->c 0 true k->
   AA j P f (#[]++ #[a]++e) k λv h=>v=J1 #[]/\ ∃i g,c i g h/\(g=true->i=l.length)/\i<=l.length
theorem ATE {o:aq}{P:Q1}{fv:J0}{p:Nat->Prop}{q c:aa}{l:List Sl}(z:wY o P fv p q l)
  (Inv:Nat->aa->Prop) {body:iL [.one .sl]->Nat->aa->(aa->Prop)->(Option Nat->aa->Prop)->Prop} {r:aa->Prop} {A:Option Nat->aa->Prop}
  (B: ∀i a,Inv i a-> ∀b,p b->a[b]? =q[b]?)
  (s: ∀i a C,Inv i a->a[c.size]? =some (.deferred (some []))->(∃ D,a[c.size+1]? =some (.loop D))->Inv i (a.setIfInBounds (c.size+1) (.loop C)))
  (E: ∀rec,Inv 0 ((c.push (.deferred (some []))).push (.loop rec)))
  (round: ∀i x a rec t F,l[i]? =some x->Inv i a->a[c.size]? =some (.deferred (some []))->a[c.size+1]? =some (.loop rec)->rec.state= .ready->
   (∀ d,Inv (i+1) d->d[c.size]? =some (.deferred (some []))->d[c.size+1]? =some (.loop {rec with state:= .busy})->t d)->body (qW x) (c.size+1) a t F)
  (fin: ∀d,Inv l.length d->d[c.size]? =some (.deferred (some []))->r d):XF o P fv [.one .sl] body c r A:=by
 intro rec h k R G;obtain⟨f,u,rfl,H,I⟩:=z;refine⟨f,_,?_,AA.mono (I ((c.push (.deferred (some []))).push (.loop rec)) (.func (.yield (c.size+1)) #[] #[])
  (λi g a=>Inv i a/\g=true/\a[c.size]? =some (.deferred (some []))/\a[c.size+1]? =some (.loop rec)) rfl (λi g a J=>B i a J.1) ?_ ?_) ?_⟩
 ·have K:(do let w <-Deferred.ofValue (.func (.func f) #[] u) #[.func (.yield (c.size+1)) #[] #[]];invoke w.target w.args:Sem Next).calc P=(callFunc f (#[]++ #[.func (.yield (c.size+1)) #[] #[]]++u)).calc P:=rfl;unfold SV;rw[K,H]
 ·rintro i x a L ⟨m,_,j,e⟩;refine G (qW x) a _ e (round i x a rec _ _ L m j e h ?_);intro d M y n;have N:c.size+1<d.size:=Ah n;refine⟨_,n,true,rfl,s _ _ _ M y ⟨_,n⟩,rfl,?_,?_⟩
  ·rw[DP (by omega)];exact y
  ·rw[Cb N];cases rec;simp at h k;simp[h,k]
 ·refine⟨E rec,rfl,?_,?_⟩
  ·rw[R0 (by simp)];simp
  ·have O:c.size+1=(c.push (.deferred (some []))).size:=by simp
   rw[O];exact R1
 ·rintro v S ⟨_,i,g,⟨m,rfl,j,e⟩,Q,T⟩;refine⟨rec,e,by simp[h],.inl ⟨k,fin _ ?_ ?_⟩⟩
  ·have:=Q rfl;subst this;exact s _ _ _ m j ⟨_,e⟩
  ·rw[DP (by omega)];exact j
end Go.Lf
namespace Go.Lf.G
open Go
def U8(a:aa)(c:Nat):Prop:= ∃b d,a[c]? =some (J2 b Di d)
def fQ(a:Nat)(c:aa)(b:Nat)(l:List UInt8):Prop:= ∀(d:aq) (e:Nat),Lib.IsBuilderF EU Di a b (Lib.byteCells l) (d.at c e)
theorem yU {A:aq}{n a b:Nat}{c:aa}{l:List UInt8}(d:Lib.IsBuilderF EU Di a b (Lib.byteCells l) (A.at c n)):fQ a c b l:=λ_ _=>d
theorem Vo {g:aq}{a:aa}{j e b:Nat}{d:World}(hB:e<=a.size)(n:RowKit.Below e (g.at a j) d)(o:Lib.OthersKept Di (some b) (g.at a j) d):
  d=g.at d.heap d.drawn/\Mod (λc=>c=b\/(e<=c/\U8 a c)) a d.heap:=by
 obtain⟨f,k,l,p,q⟩:=n;refine⟨?_,⟨p,λc r m=>?_⟩⟩
 ·cases d;simp only[aq.at] at f k l ⊢;subst f k l;rfl
 ·by_cases s:c<e
  ·exact q c s
  ·have h:a[c]? =some a[c]:=Ft r;have f:=o c a[c] h (by intro i;exact m (.inl (C2 i))) (λt u i=>m (.inr ⟨by omega,t,u,by rw[h,i]⟩));rw[f];exact h.symm
theorem fQ.mod {a b:Nat}{e f:aa}{l:List UInt8}{h:Nat->Prop}(t:fQ a e b l)(m:Mod h e f)(u: ¬h b)(w: ∀c,a<=c->U8 e c-> ¬h c):fQ a f b l:=by
 intro i j;have n: ∀p,Lib.BuilderAtF EU Di a b p (Lib.byteCells l) (i.at e j)->Lib.BuilderAtF EU Di a b p (Lib.byteCells l) (i.at f j):=by
  rintro p ⟨d,v,x,⟨y,k⟩,z⟩;refine⟨d,v,m.ah x u,⟨y,?_⟩,z⟩;rcases k with k|⟨g,A,o,q,B,r,s,rest⟩
  ·exact .inl k
  ·exact .inr ⟨g,A,o,q,B,r,m.ah s (w g r ⟨o,q,s⟩),rest⟩
 rcases t i j with d|d
 ·exact .inl (n _ d)
 ·exact .inr (n _ d)
theorem fQ.ext {c b:Nat}{a d:aa}{l:List UInt8}(e:fQ c a b l)(m:Ext a d):fQ c d b l:=e.mod m (λa=>a) (λ_ _ _ a=>a)
theorem AQb {a b:Nat}{c:aa}(d:c[b]? =some (J2 #[J5 none,J4 none 0 0] EU (0,0)))(hB:a<=b):fQ a c b []:=by intro e f;exact .inl ⟨hB,_,d,⟨rfl,.inl ⟨rfl,rfl⟩⟩,by simp[Value.ownBlock]⟩
theorem Ui {A:aq}{a:aa}{d b:Nat}{l:List UInt8}{s:A2Q}{g:A2P}(j:fQ d a b l)(hB:d<=a.size)(q:l.length+s.size<=1099511627776)
  (k: ∀e,fQ d e b (l++bl s)->Mod (λc=>c=b\/(d<=c/\U8 a c)) a e->g (J1 #[J6 J9 s.size,.nilIface]) e):AA A P Dt #[Ar b,J7 s] a g:=by
 intro n;refine Calls.mono (Proofs.Any.Builder_WriteString_k Proofs.Tryz.iC Proofs.Tryz.dM d b (Lib.byteCells l) s (A.at a n) (j A n) (by rw[Lib.byteCells_length];omega) hB) ?_;rintro r f ⟨rfl,h,o,p⟩;obtain⟨i,m⟩:=Vo hB o p;refine⟨_,rfl,f.heap,f.drawn,i,k _ ?_ m⟩;rw[Lib.strCells_eq,<-Lib.byteCells_append,i] at h;exact yU (A:=A) (n:=f.drawn) (.inr h)
theorem AJo {A:aq}{a:aa}{d b:Nat}{l:List UInt8}{g:A2P}(j:fQ d a b l)(hB:d<=a.size)
  (k: ∀e,fQ d e b l->Mod (λc=>c=b\/(d<=c/\U8 a c)) a e->g (J7 (AX l)) e):AA A P Gc #[Ar b] a g:=by
 intro n;refine Calls.mono (Proofs.Any.Builder_String_any_k Proofs.Tryz.iD Proofs.Tryz.dM d b l (A.at a n) (j A n) hB) ?_;rintro q f ⟨rfl,h,o,p⟩;obtain⟨i,m⟩:=Vo hB o p;refine⟨_,rfl,f.heap,f.drawn,i,k _ ?_ m⟩;rw[i] at h;exact yU (A:=A) (n:=f.drawn) h
def Pz(s:Sl)(i:Nat):Sl:=⟨BC s.p (min (8*i+8) s.len) (8*i) 3,min (8*i+8) s.len-8*i,min (8*i+8) s.len-8*i⟩
def chunks(s:Sl):List Sl:=(List.range ((s.len+7) / 8)).map (Pz s)
theorem RJ(s:Sl):(chunks s).length=(s.len+7) / 8:=by simp[chunks]
theorem yV {s:Sl}{i:Nat}(a:i<(s.len+7) / 8):(chunks s)[i]? =some (Pz s i):=by simp[chunks,a]
theorem View.chunk {d:aa}{s:Sl}{l:List Pr}(v:View BR d s l){i:Nat}(e:i<Bu l):View BR d (Pz s i) (CJ l i):=by
 have f:=v.len;unfold Bu at e;refine⟨?_,A0 _,λb x c=>?_⟩
 ·show min (8*i+8) s.len-8*i=(CJ l i).length;unfold CJ;rw[AD,DE,f];omega
 ·have g:b<8:=by have:=(List.getElem?_eq_some_iff.1 c).1;unfold CJ at this;rw[AD] at this;omega
  rw[QJ g] at c;obtain⟨a,h,j⟩:=v.cells _ _ c;have m:=(List.getElem?_eq_some_iff.1 c).1;refine⟨a.add (8*i*3),?_,?_⟩
  ·unfold Pz BC;simp only[h];rw[if_neg (by omega)];rfl
  ·rw[add_add];have k:8*i*3+b*BR.w=(8*i+b)*BR.w:=by show 8*i*3+b*3=(8*i+b)*3;omega
   rw[k];exact j
theorem ANo {a i:Nat}(b:a<=1099511627776)(c:8*i<a):J8 J9 (((8*i:Nat):Int)+(if((((a-((8*i:Nat):Int).toNat):Nat):Int):Int)<(8:Int) then(((a-((8*i:Nat):Int).toNat):Nat):Int) else(8:Int)))=((min (8*i+8) a:Nat):Int):=by
 rw[A6];split
 ·rw[wrap_i64 (by omega) (by omega)];omega
 ·rw[wrap_i64 (by omega) (by omega)];omega
abbrev APp:Q8:=DZ
theorem APJ {n:aq}{a:aa}{s:Sl}{o:A2P}(p:s.len<=s.cap)(w:s.len<=1099511627776)
  (y: ∀fv b,Ext a b->b.size=a.size+2->b[a.size]? =some (J2 #[J4 s.p s.len s.cap] AQ (0,0))->b[a.size+1]? =some (J2 #[J6 J9 8] Bq (0,0))->
   wY n P fv (λc=>c=a.size\/c=a.size+1) b (chunks s)->o fv b):AA n P Dj #[J4 s.p s.len s.cap,J6 J9 8] a o:=by
 refine JF ?_;unfold FO;refine al.mk λJ _ z A B=>?_
 refine al.mk λC _ d q L=>?_
 refine ai.mk λK h=>?_
 refine AC.mk (AO d rfl) ?_;refine af.no rfl (h _ _ ?_);have r:=Am q z;rw[B] at d ⊢;refine y _ C (A.trans q) (by omega) r d ⟨APp,#[Ar a.size,Ar (a.size+1)],rfl,λD=>by kernel_rfl,?_⟩;intro M D E N j F G;refine IW ?_;unfold Ep;refine Loop.rule (λm x e=> ∃i:Nat,x=(((8*i:Nat):Int),())/\m=(s.len+7) / 8-i/\i<=(s.len+7) / 8/\E i true e) ?_ ⟨0,rfl,rfl,by omega,G⟩;rintro K m _ e ⟨i,rfl,rfl,O,f⟩ h;have hA:e[a.size]? =some (J2 #[J4 s.p s.len s.cap] AQ (0,0)):=(j _ _ _ f _ (.inl rfl)).trans r;have hB:e[a.size+1]? =some (J2 #[J6 J9 8] Bq (0,0)):=(j _ _ _ f _ (.inr rfl)).trans d;refine aD (AZ.mk (AO hA rfl) ?_);dsimp only;refine af.intro (λk=>?_) (λk=>?_)
 ·have t:8*i<s.len:=by simp at k;omega
  refine aD (AC.mk (AO hB rfl) ?_);refine aD (AZ.mk (AO hA rfl) ⟨by omega,?_⟩);refine aD (AZ.mk (AO hA rfl) ?_);rw[ANo w t,A6,A6];refine⟨by omega,by omega,by omega,?_⟩;have p:=yV (s:=s) (i:=i) (by omega);have u:=F i _ e p f;simp only[wI,Pz] at u;refine Ec.mono u ?_;rintro v b ⟨g,rfl,l⟩;refine⟨g,rfl,?_⟩;cases g with
  |false=>exact af.yes rfl ⟨rfl,i+1,false,l,(λa=>by cases a),by rw[RJ];omega⟩
  |true=>
   refine af.no rfl (aD ?_);have H:b[a.size+1]? =some (J2 #[J6 J9 8] Bq (0,0)):=(j _ _ _ l _ (.inr rfl)).trans d;refine AC.mk (AO H rfl) ?_;have I:J8 J9 (((8*i:Nat):Int)+(8:Int))=((8*(i+1):Nat):Int):=by rw[wrap_i64 (by omega) (by omega)];omega
   rw[I];exact h ((s.len+7) / 8-(i+1)) _ _ (by omega) ⟨i+1,rfl,rfl,by omega,l⟩
 ·have t:s.len<=8*i:=by simp at k;omega
  have:i=(s.len+7) / 8:=by omega
  exact⟨rfl,i,true,f,λ_=>by rw[RJ];exact this,by rw[RJ];omega⟩
theorem rH:QE P BQ Az Fs.w 16=true:=by kernel_rfl
structure BS (h1:aa) (B:Nat) (E:Nat->Obj->Prop) (out:List UInt8) (kl:List A2Q) (ix:List UInt8) (n:Nat) (hh:aa):Prop where
 gF:fQ B hh B out
 keys: ∃ks:Sl,hh[B+1]? =some (J2 #[J4 ks.p ks.len ks.cap] BQ (0,0))/\Own Fs Az hh ks kl/\ ∀c,ks.ah=some c->B+3<c
 ix:hh[B+2]? =some (J2 #[J7 (AX ix)] Az (0,0))
 cn:hh[B+3]? =some (J2 #[J6 J9 (n:Int)] Bq (0,0))
 fix: ∀c o,E c o->hh[c]? =some o
 dO:Mod (λc=>B<=c) h1 hh
structure kA (B:Nat) (E:Nat->Obj->Prop):Prop where
 u8: ∀c o,E c o-> ∀cs fz,o≠ J2 cs Di fz
 str: ∀c o,E c o-> ∀cs fz,o≠ J2 cs Az fz
 lt: ∀c o,E c o->B+3<c
theorem mF {d:aa}{c:Nat}{e:Obj}(g:d[c]? =some e)(h: ∀a b,e≠ J2 a Di b): ¬U8 d c:=by rintro⟨a,b,f⟩;rw[g] at f;exact h a b (C2 f)
theorem Mo {e:Array J0}{T b:Q7}{fr:Nat×Nat}(f:T≠b): ∀c d,(Obj.cells e T fr)≠ J2 c b d:=λc d a=>by injection a with _ a _;exact f a
theorem yW {a:aa}{b:Sl}{d:List A2Q}(e:Own Fs Az a b d){c:Nat}(f:U8 a c):b.ah≠some c:=by obtain⟨h,i,g⟩:=f;exact e.ne g (by decide)
theorem BS.ext {a d e:aa}{f:Nat}{g:Nat->Obj->Prop}{out:List UInt8}{h:List A2Q}{i:List UInt8}{j:Nat}(b:BS a f g out h i j d)(x:Ext d e):BS a f g out h i j e:=by obtain⟨k,l,m,n⟩:=b.keys;exact⟨b.gF.ext x,⟨k,Am x l,m.ext x,n⟩,Am x b.ix,Am x b.cn,λc o p=>x.ah (b.fix c o p) (λq=>q),b.dO.trans x.mod⟩
theorem BS.write {j g h:aa}{e:Nat}{i:Nat->Obj->Prop}{out k:List UInt8}{l:List A2Q}{n:List UInt8}{o:Nat}(ok:kA e i)(b:BS j e i out l n o g)(r:fQ e h e k)
  (m:Mod (λc=>c=e\/(e<=c/\U8 g c)) g h):BS j e i k l n o h:=by
 obtain⟨s,t,p,q⟩:=b.keys;have aN: ∀ {c:Nat} {f:Obj},g[c]? =some f->c≠e->(∀ u v,f≠ J2 u Di v)->h[c]? =some f:=λa w x=>m.ah a (λd=>d.elim w (λd=>mF a x d.2))
 refine⟨r,⟨s,aN t (by omega) (Mo (by decide)),p.mod m (λc a d=>?_),q⟩,aN b.ix (by omega) (Mo (by decide)),aN b.cn (by omega) (Mo (by decide)),λc f a=>aN (b.fix c f a) (by have:=ok.lt c f a;omega) (ok.u8 c f a),b.dO.trans (m.aj λc _ a=>by rcases a with d|d<;>omega)⟩;rcases d with d|d
 ·have:=q c a;omega
 ·exact yW p d.2 a
theorem BS.key {l h i:aa}{d:Nat}{j:Nat->Obj->Prop}{out:List UInt8}{n p:List A2Q}{q:List UInt8}{r:Nat}(ok:kA d j)(b:BS l d j out n q r h){f jC:Sl}(v:h[d+1]? =some (J2 #[J4 f.p f.len f.cap] BQ (0,0)))
  (s:Own Fs Az h f n) (k: ∀c,f.ah=some c->d+3<c) (m:Mod (λc=>f.ah=some c\/c=d+1) h i) (w:i[d+1]? =some (J2 #[J4 jC.p jC.len jC.cap] BQ (0,0)))
  (x:Own Fs Az i jC p) (y: ∀c,jC.ah=some c->d+3<c):BS l d j out p q r i:=by
 have hB: ∀c,f.ah=some c\/c=d+1->d+1<=c:=λc e=>by
  rcases e with a|a
  ·have:=k c a;omega
  ·omega
 refine⟨b.gF.mod m (λa=>by have:=hB _ a;omega) (λc e t a=>?_),⟨jC,w,x,y⟩,m.ah b.ix (λa=>?_),m.ah b.cn (λa=>?_),λc o e=>m.ah (b.fix c o e) (λa=>?_),b.dO.trans (m.aj λc _ e=>by have:=hB _ e;omega)⟩
 ·rcases a with a|a
  ·exact yW s t a
  ·subst a;exact mF v (Mo (by decide)) t
 ·rcases a with a|a
  ·have:=k _ a;omega
  ·omega
 ·rcases a with a|a
  ·have:=k _ a;omega
  ·omega
 ·rcases a with a|a
  ·rcases s.row with⟨rfl,_⟩|⟨g,z,A,u,_⟩
   ·simp[Sl.ah] at a
   ·simp[Sl.ah,A] at a;subst a;rw[b.fix _ o e] at u;exact ok.str _ o e z (0,0) (C2 u)
  ·have:=ok.lt c o e;omega
theorem BS.ixs {h i e:aa}{d:Nat}{f:Nat->Obj->Prop}{out:List UInt8}{j:List A2Q}{o oY:List UInt8}{k:Nat}(ok:kA d f)(b:BS h d f out j o k i)(m:Mod (λc=>c=d+2) i e)(p:e[d+2]? =some (J2 #[J7 (AX oY)] Az (0,0))):BS h d f out j oY k e:=by
 obtain⟨q,r,s,l⟩:=b.keys;exact⟨b.gF.mod m (λg=>by omega) (λc a t g=>by subst g;exact mF b.ix (Mo (by decide)) t),⟨q,m.ah r (by omega),s.mod m (λc a g=>by have:=l c a;omega),l⟩,p,m.ah b.cn (by omega),
  λc n a=>m.ah (b.fix c n a) (by have:=ok.lt c n a;omega),b.dO.trans (m.aj λc _ a=>by omega)⟩
theorem BS.oX {h i e:aa}{d:Nat}{f:Nat->Obj->Prop}{out:List UInt8}{j:List A2Q}{k:List UInt8}{o n':Nat}(ok:kA d f)(b:BS h d f out j k o i)(m:Mod (λc=>c=d+3) i e)(p:e[d+3]? =some (J2 #[J6 J9 (n':Int)] Bq (0,0))):BS h d f out j k n' e:=by
 obtain⟨q,r,s,l⟩:=b.keys;exact⟨b.gF.mod m (λg=>by omega) (λc a t g=>by subst g;exact mF b.cn (Mo (by decide)) t),⟨q,m.ah r (by omega),s.mod m (λc a g=>by have:=l c a;omega),l⟩,m.ah b.ix (by omega),p,
  λc n a=>m.ah (b.fix c n a) (by have:=ok.lt c n a;omega),b.dO.trans (m.aj λc _ a=>by omega)⟩
theorem BS.lp {k h:aa}{i d:Nat}{j:Nat->Obj->Prop}{out:List UInt8}{l:List A2Q}{n:List UInt8}{o:Nat}(b:BS k i j out l n o h)(hd:i+3<d)(s: ∀e,¬j d e){t:Go.Loop}(p:h[d]? =some (.loop t))(e:Go.Loop):BS k i j out l n o (h.setIfInBounds d (.loop e)):=by
 obtain⟨u,v,q,w⟩:=b.keys;have m:Mod (λc=>c=d) h (h.setIfInBounds d (.loop e)):=Mod.setObj rfl;refine⟨b.gF.mod m (λf=>by omega) (λc a x f=>by subst f;exact mF p (λ_ _ y=>by cases y) x),⟨u,m.ah v (by omega),q.mod m (λc a f=>?_),w⟩,m.ah b.ix (by omega),m.ah b.cn (by omega),
  λc e a=>m.ah (b.fix c e a) (λf=>by subst f;exact s _ a),b.dO.trans (m.aj λc _ a=>by omega)⟩
 subst f;rcases q.row with⟨rfl,_⟩|⟨g,A,z,r,_⟩
 ·simp[Sl.ah] at a
 ·simp[Sl.ah,z] at a;subst a;rw[p] at r;cases r
def Ir(l:List Pr):List A2Q:=l.map (·.key)
def ji(l:List Pr):Nat:=min (l.length+8) 8192
def Mx(l:List Pr):List UInt8:=kq (Ir l) (ji l)
def Jc(l:List Pr):List UInt8:=aJ (aT l (Mx l))
def Gt(a:List A2Q):List UInt8:=a.flatMap λb=>BU (bl b)
structure G6 (l:List Pr):Prop where
 ne:l≠ []
 ok: ∀p∈l,La p
 inc:l.Pairwise λp q=>aM p.key q.key=true
 many:l.length<=100000
theorem G6.eM {l:List Pr}(T:G6 l):gX (Jc l) l (Mx l):=by
 have a:1<=ji l/\ji l<=8192:=by unfold ji;omega
 refine⟨rfl,T.ne,T.ok,T.inc,?_,λp b=>APH a.1 a.2 (IN b),T.many⟩;unfold Mx;rw[APx a.1];exact a
theorem Uz: ∀ {rs:List (List UInt8)},(∀ r∈rs,r.length<=1048576)->(aJ rs).length<=rs.length*1048590
 | [],_=>by simp
 |r::rs,a=>by
  have d:=(JL (a r Cl)).2;have e:=a r Cl;have b:=Uz (rs:=rs) λx c=>a x (AG _ c)
  simp only[aJ,AH,A1,A5] at b ⊢;omega
theorem Qp: ∀ {ks:List A2Q},(∀ k∈ks,k.size<=64)->(Gt ks).length<=ks.length*74
 | [],_=>by simp[Gt]
 |k::ks,a=>by
  have d:=a k Cl;have e:=AV (n:=(bl k).length) (by rw[A7];omega);have b:=Qp (ks:=ks) λx c=>a x (AG _ c)
  have f:=A7 k;simp only[Gt,AH,A1,A5,BU] at b ⊢;omega
theorem PE {l:List Pr}(b: ∀p∈l,La p): ∀a∈CV l,a.size<=64:=λa c=>by
 obtain⟨i,_,rfl⟩:=List.mem_map.1 c;unfold Iq;split
 ·rename_i p d;exact(b p (AM d)).bK
 ·exact As _
theorem Qo {l:List Pr}(a: ∀p∈l,La p){i:Nat}(b:i<Bu l):(BP (CJ l i)).length<=8*8276:=by
 have e:=Ls (l:=CJ l i) λp c=>a p (Pp c)
 have d:=(Qi b).2.1;have:(CJ l i).length*8276<=8*8276:=AS _ d;omega
theorem yX {l:List Pr}(c: ∀p∈l,La p): ∀a∈(Ka l).map BP,a.length<=1048576:=λa d=>by
 obtain⟨b,e,rfl⟩:=List.mem_map.1 d;obtain⟨i,f,rfl⟩:=List.mem_map.1 e;have:=Qo c (List.mem_range.1 f);omega
theorem AOw {l:List Pr}{i:Nat}(a:i<Bu l):((Ka l).map BP)[i]? =some (BP (CJ l i)):=by simp[Ka,a]
theorem RP {l:List Pr}{i:Nat}(a:i<Bu l):(CV l)[i]? =some (Iq l (8*i)):=by simp[CV,a]
theorem T9 {a:Type}{l:List a}{i:Nat}{x:a}(b:l[i]? =some x):l.take (i+1)=l.take i++ [x]:=by rw[Ax,b];rfl
theorem yY(a b:List Pr):Ir (a++b)=Ir a++Ir b:=by simp[Ir]
theorem yZ {l:List Pr}(b:l.Pairwise λp a=>aM p.key a.key=true){i:Nat}{p a:Pr}(c:l[i]? =some p)(d:l[i+1]? =some a):aM p.key a.key=true:=by obtain⟨e,rfl⟩:=List.getElem?_eq_some_iff.1 c;obtain⟨f,rfl⟩:=List.getElem?_eq_some_iff.1 d;exact List.pairwise_iff_getElem.1 b _ _ e f (by omega)
theorem AKq(a:Nat)(b:a<=100000):(if(8192:Int)<(J8 J9 (((a:Nat):Int)+(8:Int))) then(8192:Int) else(J8 J9 (((a:Nat):Int)+(8:Int))))=((min (a+8) 8192:Nat):Int):=by rw[wrap_i64 (by omega) (by omega)];split<;>omega
theorem AO6 {bw:aq}{e:aa}{s:Sl}{l:List Pr}{aX:A2P}(T:G6 l)(X:View BR e s l)(au: ∀b,s.ah=some b->b<e.size)
  (bx: ∀aY,Ext e aY->aX (J1 #[J7 (AX (Jc l)),J6 J9 0]) aY):AA bw P P6 #[J4 s.p s.len s.cap] e aX:=by
 refine AB6 ?_;unfold WK;have cR:=List.length_pos_iff.2 T.ne;have cS:=T.many;refine af.no (by rw[X.len];simp;exact T.ne) ?_;refine Loop.rule (λm x t=> ∃i:Nat,x=(⟨#[]⟩,0,(i:Int),())/\m=l.length-i/\i<=l.length/\Ext e t) ?_ ⟨0,rfl,rfl,by omega,Mod.refl⟩;rintro K m _ g ⟨i,rfl,rfl,cT,M⟩ aZ;dsimp only;have av:=X.ext M;refine af.intro (λw=>?_) (λw=>?_)
 ·have aw:i<l.length:=by rw[X.len] at w;simp at w;omega
  have y:l[i]? =some l[i]:=A2 aw;have z:=T.ok _ (Bm aw);generalize l[i]=x at y z;have a0:=z.bK;have bz:=z.cp;refine av.idx y λa bA f=>?_
  obtain⟨ax,ay,c2⟩:=f.pair;rw[A6];refine AJ.mk ax (AJ.mk ay (Ac.mk c2 ?_));refine al.pair λb Y bB B a1 cU=>?_
  refine ai.mk λaz bC=>?_
  refine AJ.mk (AO B rfl) (af.no (yS z.key) ?_);have a2:az (false,()) Y:=by
   refine bC _ _ (af.no rfl ?_);refine ai.mk λcV bD=>?_
   refine AJ.mk (AO B rfl) (af.no (by simp;omega) ?_);refine AJ.mk (AB B rfl) ?_;refine bD _ _ (af.no (by simp;omega) ?_);rw[Aa (by omega)];exact aZ (l.length-(i+1)) _ _ (by omega) ⟨i+1,rfl,rfl,aw,M.trans a1⟩
  have a3:af (decide (((i:Nat):Int)>(0:Int))) (AJ Y (⟨b,0,none⟩:Q6) λa4=>
     bI s.p s.len (J8 J9 (((i:Nat):Int)-(1:Int))) λa5=>
     AJ Y (a5.add ((J8 J9 (((i:Nat):Int)-(1:Int))).toNat*3)) λa6=>
     az ((aM a4 a6||bO a4 a6),()) Y) (az (false,()) Y):=by
   refine af.intro (λbE=>?_) (λ_=>a2);have cW:0<i:=by simp at bE;omega
   obtain⟨k,rfl⟩: ∃k,i=k+1:=⟨i-1,by omega⟩;have aA:J8 J9 (((k+1:Nat):Int)-(1:Int))=(k:Int):=by rw[wrap_i64 (by omega) (by omega)];omega
   have N:l[k]? =some l[k]:=A2 (by omega);refine AJ.mk (AO B rfl) ?_;rw[aA];refine(av.ext a1).idx N λa5 cX Z=>?_
   rw[A6];refine AJ.mk Z.pair.1 ?_;have aC:=yZ T.inc N y;have q:(aM x.key l[k].key||bO x.key l[k].key)=false:=by
    rw[Hk];refine⟨?_,?_⟩
    ·cases bG:aM x.key l[k].key with
     |false=>rfl
     |true=>have:=Da aC bG;rw[CZ] at this;cases this
    ·rw[CU,decide_eq_false_iff_not];intro q;rw[q,CZ] at aC;cases aC
   rw[q];exact a2
  refine Ac.mk (AB B rfl) (af.intro (λbH=>?_) (λ_=>a3));refine AJ.mk (AB B rfl) (af.no ?_ a3);rw[XY,Tz (z.gone bH)];rfl
 ·clear aZ;have aD:=X.len;refine al.mk λbJ _ bK bL bM=>?_
  refine al.mk λbN _ a7 a8 cY=>?_
  refine al.mk λcZ _ a9 aE c0=>?_
  refine ae.mk a9 (by simp) λba bb ak c1=>?_
  refine al.mk λc3 _ bc am c4=>?_
  refine ae.mk bc (by simp) λbd be ab c5=>?_
  have bf:bJ.size=g.size+1:=bM;have bg:bN.size=g.size+2:=by omega
  have bh:ba.size=g.size+3:=by omega
  have bP:bd.size=g.size+4:=by omega
  rw[bf] at a7;rw[bg] at a9 ak bb;rw[bh] at bc ab be;rw[bf,bg,bh];refine APJ X.cap (by omega) λfv G O bQ aF Z bi=>⟨_,rfl,?_⟩
  rw[bP] at bQ aF Z bi;generalize bR:g.size=o at*
  have bS: ∃E:Nat->Obj->Prop,E=λc h=>(c=o+4/\h=J2 #[J4 s.p s.len s.cap] AQ (0,0))\/(c=o+5/\h=J2 #[J6 J9 8] Bq (0,0)):=⟨_,rfl⟩
  obtain⟨E,an⟩:=bS;have bT:Ext g G:=by refine⟨by have:=O.size;omega,λc f _=>?_⟩;rw[bR] at f;exact(O.get c (by omega) (λe=>e)).trans ((ab.get c (by omega) (by omega)).trans ((am.get c (by omega) (λe=>e)).trans ((ak.get c (by omega) (by omega)).trans ((aE.get c (by omega) (λe=>e)).trans ((a8.get c (by omega) (λe=>e)).trans (bL.get c (by omega) (λe=>e)))))))
  have bU:G[o]? =some (J2 #[J5 none,J4 none 0 0] EU (0,0)):=
   O.ah (ab.ah (am.ah (ak.ah (aE.ah (a8.ah bK (λe=>e)) (λe=>e)) (by omega)) (λe=>e)) (by omega)) (λe=>e)
  have bV:G[o+1]? =some (J2 #[J4 none 0 0] BQ (0,0)):=
   O.ah (ab.ah (am.ah (ak.ah (aE.ah a7 (λe=>e)) (by omega)) (λe=>e)) (by omega)) (λe=>e)
  have bW:G[o+2]? =some (J2 #[J7 (AX [])] Az (0,0)):=by
   have bX:ba[o+2]? =some (J2 #[J7 (AX [])] Az (0,0)):=by rw[yf];simpa using bb
   exact O.ah (ab.ah (am.ah bX (λe=>e)) (by omega)) (λe=>e)
  have bY:G[o+3]? =some (J2 #[J6 J9 ((0:Nat):Int)] Bq (0,0)):=by
   have bZ:bd[o+3]? =some (J2 #[J6 J9 ((0:Nat):Int)] Bq (0,0)):=by simpa using be
   exact O.ah bZ (λe=>e)
  have bF:BS g o E [] [] [] 0 G:=by
   refine⟨AQb bU (A0 _),⟨⟨none,0,0⟩,bV,Own.nil,λc f=>by simp[Sl.ah] at f⟩,bW,bY,λc h f=>?_,bT.mod⟩;subst an;rcases f with⟨rfl,rfl⟩|⟨rfl,rfl⟩
   ·exact aF
   ·exact Z
  have Q:kA o E:=by
   subst an;refine⟨λc h f C D=>?_,λc h f C D=>?_,λc h f=>?_⟩
   ·rcases f with⟨rfl,rfl⟩|⟨rfl,rfl⟩<;>exact Mo (by decide) _ _
   ·rcases f with⟨rfl,rfl⟩|⟨rfl,rfl⟩<;>exact Mo (by decide) _ _
   ·rcases f with⟨rfl,rfl⟩|⟨rfl,rfl⟩<;>omega
  have bj: ∀d h,o+6<=d-> ¬E d h:=by subst an;rintro d h hd (⟨rfl,_⟩|⟨rfl,_⟩)<;>omega
  have b0:(chunks s).length=Bu l:=by rw[RJ,aD];rfl
  have c6:Bu l<=12501:=by unfold Bu;omega
  have ao:G.size=o+6:=by omega
  have b1: ∀b,s.ah=some b->b<o:=λb b2=>by have:=au b b2;have:=M.size;omega
  refine ATE bi (λi t=>BS g o E (aJ (((Ka l).map BP).take i)) (Ir (l.take (8*i))) (Gt ((CV l).take i)) i t) ?_ ?_ ?_ ?_ ?_
  ·intro i t r c f;subst an;rcases f with rfl|rfl
   ·exact(r.fix _ _ (.inl ⟨rfl,rfl⟩)).trans aF.symm
   ·exact(r.fix _ _ (.inr ⟨rfl,rfl⟩)).trans Z.symm
  ·rintro i t h r R ⟨c7,b3⟩;exact r.lp (by omega) (λh=>bj _ _ (by omega)) b3 h
  ·intro rec;exact bF.ext ((Mod.push G _).trans (Mod.push _ _))
  ·intro i x t rec c8 c9 y r R ap b4 b5;have S:i<Bu l:=by have:=(List.getElem?_eq_some_iff.1 y).1;omega
   have b6:x=Pz s i:=by have:=yV (s:=s) (i:=i) (by rw[aD];exact S);rw[this] at y;exact(C2 y).symm
   subst b6;rw[ao] at R ap ⊢;refine⟨rec,ap,b4,?_⟩;obtain⟨u,J⟩: ∃u:Nat->Obj->Prop,u=λc h=>E c h\/(c=o+6/\h= .deferred (some []))\/(c=o+6+1/\h= .loop {rec with state:= .busy}):=⟨_,rfl⟩
   have L:kA o u:=by
    subst J;refine⟨λc h f C D=>?_,λc h f C D=>?_,λc h f=>?_⟩
    ·rcases f with e|⟨rfl,rfl⟩|⟨rfl,rfl⟩
     ·exact Q.u8 c h e C D
     ·intro q;cases q
     ·intro q;cases q
    ·rcases f with e|⟨rfl,rfl⟩|⟨rfl,rfl⟩
     ·exact Q.str c h e C D
     ·intro q;cases q
     ·intro q;cases q
    ·rcases f with e|⟨rfl,rfl⟩|⟨rfl,rfl⟩
     ·exact Q.lt c h e
     ·omega
     ·omega
   have U:=r.lp (d:=o+6+1) (by omega) (λh=>bj _ _ (by omega)) ap {rec with state:= .busy};have aG:BS g o u (aJ (((Ka l).map BP).take i)) (Ir (l.take (8*i))) (Gt ((CV l).take i)) i (t.setIfInBounds (o+6+1) (.loop {rec with state:= .busy})):=by
    refine⟨U.gF,U.keys,U.ix,U.cn,λc h f=>?_,U.dO⟩;subst J;rcases f with e|⟨rfl,rfl⟩|⟨rfl,rfl⟩
    ·exact U.fix c h e
    ·rw[DP (by omega)];exact R
    ·exact Cb (Ah ap)
   generalize t.setIfInBounds (o+6+1) (.loop {rec with state:= .busy})=da at aG;have db:=Qi S;have aH: ∀p∈CJ l i,La p:=λp aI=>T.ok p (Pp aI)
   have aK: ∀ {t:aa} {out:List UInt8} {b7:List A2Q} {b8:List UInt8} {n:Nat},BS g o u out b7 b8 n t->View BR t (Pz s i) (CJ l i):=λb=>
    View.chunk (av.mod b.dO (λc f=>by have:=b1 c f;omega)) S
   have b9:(Pz s i).len=(CJ l i).length:=(aK aG).len;have aL:=Uz (rs:=((Ka l).map BP).take i) λca cb=>yX T.ok ca (DM cb)
   have aN:=Qp (ks:=(CV l).take i) λk N=>PE T.ok k (DM N)
   rw[AD] at aL aN;have dc:=Qo T.ok S;refine Loop.rule (λm x t=> ∃j:Nat,x=(AX (BP ((CJ l i).take j)),(j:Int),())/\m=(CJ l i).length-j/\j<=(CJ l i).length/\
    BS g o u (aJ (((Ka l).map BP).take i)) (Ir (l.take (8*i))++Ir ((CJ l i).take j)) (Gt ((CV l).take i)) i t) ?_ ⟨0,rfl,rfl,by omega,by simpa [Ir] using aG⟩
   rintro dd m _ de ⟨j,rfl,rfl,df,H⟩ cc;dsimp only[qW];refine af.intro (λw=>?_) (λw=>?_)
   ·have ac:j<(CJ l i).length:=by have w:((j:Nat):Int)<(((Pz s i).len:Nat):Int):=of_decide_eq_true w;omega
    have y:(CJ l i)[j]? =some (CJ l i)[j]:=A2 ac;have z:=aH _ (Bm ac);generalize (CJ l i)[j]=p at y z;have bk:=T9 y;refine(aK H).idx y λa bA f=>?_
    obtain⟨ax,ay,c2⟩:=f.pair;rw[A6];refine AJ.mk ax (AJ.mk ay (Ac.mk c2 ?_));refine al.pair λbm dg bB B cd dh=>?_
    have A:=H.ext cd;obtain⟨ks,ad,ah,aj⟩:=A.keys;refine AZ.mk (s:=ks) (AO ad rfl) ?_;refine AJ.mk (AO B rfl) ?_;have di:o+3<bm:=by have:=Ah H.cn;omega
    have aO:(Ir (l.take (8*i))++Ir ((CJ l i).take j)).length<=100010:=by rw[A1];simp only[Ir,AN,AD];omega
    refine al.aY (E:=Fs) (x:=p.key) rfl rH ah (by omega) (by simp only[maxLen];omega) λbn ce cf aP cg dj=>?_
    have ch:ce[o+1]? =some (J2 #[J4 ks.p ks.len ks.cap] BQ (0,0)):=aP.ah ad (λe=>by have:=aj _ e;omega);refine ae.mk ch (by simp) λbo ci aQ dk=>?_
    have bp: ∀c,bn.ah=some c->o+3<c:=λc f=>by
     rcases cg c f with e|e
     ·exact aj c e
     ·have:=Ah A.cn;omega
    have F:BS g o u _ (Ir (l.take (8*i))++Ir ((CJ l i).take j)++ [p.key]) _ i bo:=
     A.key L (jC:=bn) ad ah aj ((aP.aj λc _ f=> .inl f).trans (aQ.aj λc _ f=> .inr f)) (by simpa using ci) (cf.mod aQ (λc f e=>by have:=bp c f;omega)) bp
    have aR:bo[bm]? =some (J2 #[J7 p.key,J7 p.val,J3 p.gone] AR (0,0)):=aQ.ah (aP.ah B (λe=>ah.ne B (by decide) e)) (by omega);refine AJ.mk (AO aR rfl) (AJ.mk (AB aR rfl) (Ac.mk (AB aR rfl) ?_));refine AOo (x:=p) z λdl cj=>⟨_,rfl,?_⟩
    have ck:BP ((CJ l i).take (j+1))=BP ((CJ l i).take j)++Ii p:=by rw[bk];simp[BP]
    have lt:=Ls (l:=(CJ l i).take j) λcl w=>aH cl (DM w)
    rw[AD] at lt;have lp:=(QL z).2;have a0:=z.bK;have bz:=z.cp;refine⟨by rw[AP,AP,max_i64];omega,?_⟩;rw[Aj,<-ck,Aa (by omega)];refine cc ((CJ l i).length-(j+1)) _ _ (by omega) ⟨j+1,rfl,rfl,ac,?_⟩;have I:=F.ext cj;have:Ir ((CJ l i).take (j+1))=Ir ((CJ l i).take j)++ [p.key]:=by rw[bk,yY];rfl
    rw[this,<-A3];exact I
   ·have ac:j=(CJ l i).length:=by have w: ¬((j:Nat):Int)<(((Pz s i).len:Nat):Int):=of_decide_eq_false w;omega
    have cm:(CJ l i).take j=CJ l i:=by rw[ac];simp
    rw[cm] at H ⊢;refine rq (by omega) (λe=>by omega) λaS dm cn=>⟨_,_,rfl,?_⟩
    have A:=H.ext cn;have co:=JL aS;refine Ui A.gF (by have:=Ah A.cn;omega) (by rw[AP];omega) λcp cq cr=>⟨_,_,rfl,?_⟩
    have F:=A.write L cq cr;rw[EO] at F;refine AJ.mk (AO F.ix rfl) ?_;have aU:(CJ l i)[0]? =some (CJ l i)[0]:=A2 (by omega);have bq:Iq l (8*i)=(CJ l i)[0].key:=by have:=QJ (l:=l) (i:=i) (j:=0) (by omega);rw[aU] at this;unfold Iq;rw[G3] at this;rw[<- this]
    have br:=aH _ (Bm (show 0<(CJ l i).length by omega));generalize (CJ l i)[0]=V at aU bq br;obtain⟨cs,ct,bs⟩:=(aK F).cells 0 V aU;refine bI.mk (k:=0) ct (by rw[b9];omega) ?_;rw[HU,add_zero] at bs;refine AJ.mk (n:=V.key) (by show ag cp (cs.add 0)=_;rw[add_zero];exact bs.pair.1) ?_;have a0:=br.bK;refine VV (by omega) λdn cu=>⟨_,rfl,?_⟩
    have I:=F.ext cu;refine⟨AO I.ix rfl,?_⟩;have dp:=AV (n:=(bl V.key).length) (by rw[A7];omega);have dq:=A7 V.key;refine⟨by rw[AP,AP,max_i64];simp only[BU,A1];omega,?_⟩;rw[Aj];refine ae.mk I.ix (by simp) λdr cv cw ds=>?_
    have W:=I.ixs L (oY:=Gt ((CV l).take i)++BU (bl V.key)) cw (by simpa using cv);refine AC.mk (AO W.cn rfl) ?_;rw[Aa (by omega)];refine ae.mk W.cn (by simp) λcx cy cz dt=>?_
    have v:=W.oX L (n':=i+1) cz (by simpa using cy);have aA:aJ (((Ka l).map BP).take (i+1))=aJ (((Ka l).map BP).take i)++Ct (BP (CJ l i)):=by rw[T9 (AOw S)];simp[aJ]
    have cB:Ir (l.take (8*(i+1)))=Ir (l.take (8*i))++Ir (CJ l i):=by rw[<- yY,wF]
    have cC:Gt ((CV l).take (i+1))=Gt ((CV l).take i)++BU (bl V.key):=by rw[T9 (RP S),bq];simp[Gt]
    subst J;refine b5 cx ?_ ?_ ?_
    ·rw[aA,cB,cC];exact⟨v.gF,v.keys,v.ix,v.cn,λc h f=>v.fix c h (.inl f),v.dO⟩
    ·rw[ao];exact v.fix _ _ (.inr (.inl ⟨rfl,rfl⟩))
    ·rw[ao];exact v.fix _ _ (.inr (.inr ⟨rfl,rfl⟩))
  ·intro cD r R;rw[b0] at r;have ad:((Ka l).map BP).take (Bu l)=(Ka l).map BP:=AF (by simp[I5]);have ah:l.take (8*Bu l)=l:=AF (by unfold Bu;omega);have aj:(CV l).take (Bu l)=CV l:=AF (by simp[Hm]);rw[ad,ah,aj] at r;rw[ao] at R ⊢;obtain⟨u,J⟩: ∃u:Nat->Obj->Prop,u=λc h=>E c h\/(c=o+6/\h= .deferred (some [])):=⟨_,rfl⟩
   have L:kA o u:=by
    subst J;refine⟨λc h f C D=>?_,λc h f C D=>?_,λc h f=>?_⟩
    ·rcases f with e|⟨rfl,rfl⟩
     ·exact Q.u8 c h e C D
     ·intro q;cases q
    ·rcases f with e|⟨rfl,rfl⟩
     ·exact Q.str c h e C D
     ·intro q;cases q
    ·rcases f with e|⟨rfl,rfl⟩
     ·exact Q.lt c h e
     ·omega
   have H:BS g o u (aJ ((Ka l).map BP)) (Ir l) (Gt (CV l)) (Bu l) cD:=by
    refine⟨r.gF,r.keys,r.ix,r.cn,λc h f=>?_,r.dO⟩;subst J;rcases f with e|⟨rfl,rfl⟩
    ·exact r.fix c h e
    ·exact R
   obtain⟨ks,bt,aV,du⟩:=H.keys;refine AZ.mk (s:=ks) (AO bt rfl) (AZ.mk (s:=ks) (AO bt rfl) ?_);have aO:ks.len=l.length:=by rw[aV.len];simp[Ir]
   have bu:1<=ji l/\ji l<=8192:=by unfold ji;omega
   have bv:=T.eM;have dv:=bv.jB;rw[aO,AKq _ T.many];rw[show((min (l.length+8) 8192:Nat):Int)=((ji l:Nat):Int) from rfl,<-aO];refine AQa (ks:=Ir l) aV.view (λk N=>?_) bu.1 bu.2 (by simp[Ir];omega) (λb au=>aV.lt au) λdw cE=>⟨_,_,rfl,?_⟩
   ·obtain⟨p,aI,rfl⟩:=List.mem_map.1 N;have:=(T.ok p aI).bK;omega
   have A:=H.ext cE;refine AC.mk (AO A.cn rfl) (AJ.mk (AO A.ix rfl) ?_);rw[CG (by omega)];refine Cc (by omega) λdx cF=>⟨_,rfl,?_⟩
   have F:=A.ext cF;refine⟨AO F.ix rfl,?_⟩;have dy:=AV (n:=Bu l) (by omega);have aN:=Qp (ks:=CV l) (PE T.ok);rw[Hm] at aN;refine⟨by rw[AP,AP,max_i64];omega,?_⟩;rw[aD,CG (by omega)];refine Cc (by omega) λdz cG=>⟨_,rfl,?_⟩
   have I:=F.ext cG;have dA:=AV (n:=l.length) (by omega);refine⟨AO I.ix rfl,?_⟩;rw[Aj];refine⟨by rw[AP,AP,max_i64];simp only[A1];omega,?_⟩;refine Qy (l:=Mx l) (by omega) λdB cH=>⟨_,rfl,?_⟩
   have W:=I.ext cH;have dC:=AV (n:=(Mx l).length) (by omega);refine⟨AO W.ix rfl,?_⟩;rw[Aj,Aj];have dD:(BU (Mx l)).length=(Bd (Mx l).length).length+(Mx l).length:=by simp[BU]
   refine⟨by rw[AP,AP,max_i64];simp only[A1];omega,?_⟩;have cI:Bd (Bu l)++Gt (CV l)++Bd l.length++BU (Mx l)=Vk l (Mx l):=by unfold Vk Gt;simp only[A3]
   rw[cI];have dE:=X9 bv;refine rq (by omega) (λe=>by omega) λaS dF cJ=>⟨_,_,rfl,af.no rfl ?_⟩
   have v:=W.ext cJ;have aL:=Uz (rs:=(Ka l).map BP) (yX T.ok);rw[AN,I5] at aL;have co:=JL aS;refine Ui v.gF (by have:=Ah v.cn;omega) (by rw[AP];omega) λdG cK cL=>⟨_,_,rfl,?_⟩
   have ar:=v.write L cK cL;rw[EO] at ar;refine AJo ar.gF (by have:=Ah ar.cn;omega) λcM cN cO=>⟨_,rfl,?_⟩
   have aW:=ar.write L cN cO;have cP:aJ ((Ka l).map BP)++Ct (Vk l (Mx l))=Jc l:=by unfold Jc aT;simp[aJ]
   have cQ:cM[o+6]? =some (.deferred (some [])):=aW.fix _ _ (by subst J;exact .inr ⟨rfl,rfl⟩);refine⟨cQ,?_⟩;rw[cP];refine bx _ ⟨?_,λc f _=>?_⟩
   ·have:=aW.dO.size;have:=M.size;simp;omega
   ·have:=M.size;rw[DP (by omega)];exact(aW.dO.get c (by omega) (by omega)).trans (M.get c f (λe=>e))
end Go.Lf.G
namespace Go.Proofs
open Go.Shelf
theorem bears {P : Program} {f : FuncId} {b : Func} (a : (P.funcs[f]?).map (λx => { x with name := "" }) = some { b with name := "" }) (d : ((P.funcs[f]?).all λx => !(x.name == "runtime.NumGoroutine")) = true) : Bears P f b := by
 cases c:P.funcs[f]? with
 |none=>rw[c] at a;cases a
 |some x=>
  rw[c] at a d;simp only[Option.map_some,Option.some.injEq] at a;refine⟨x.name,by simpa using d,c.trans (congrArg some ?_)⟩;cases x;cases b
  simp_all
def Tryz.cF:Go.Shelf.Ren:=⟨λ|7=>76|10=>118|a=>a,λ|23=>102|26=>9|3=>165|28=>163|0=>0|27=>162|33=>71|4=>4|a=>a,λ|a=>a⟩
theorem Tryz.iV:Go.Proofs.SlLaysZ.n7 Tryz.prog Tryz.cF:=by repeat' first|exact Lf.Df (by kernel_rfl)|kernel_rfl|exact bears (by kernel_rfl) (by kernel_rfl)|decide|constructor
def Tryz.dJ:Go.Shelf.Ren:=⟨λ|6=>75|8=>116|9=>117|11=>169|13=>171|12=>170|23=>216|24=>217|14=>207|15=>208|16=>209|17=>210|18=>211|19=>212|20=>213|21=>214|22=>215|25=>236|26=>237|27=>238|28=>239|29=>240|30=>241|31=>262|a=>a,λ|26=>9|28=>163|24=>66|0=>0|3=>3|37=>153|48=>150|50=>140|4=>4|40=>312|39=>311|45=>270|5=>5|9=>9|51=>330|55=>333|57=>356|58=>263|33=>71|a=>a,λ|a=>a⟩
theorem Tryz.iB:Go.Proofs.SlLaysZ.n6 Tryz.prog Tryz.dJ:=by repeat' first|exact Lf.Df (by kernel_rfl)|kernel_rfl|exact bears (by kernel_rfl) (by kernel_rfl)|decide|constructor
def Tryz.fU:Go.Shelf.Ren:=⟨λ|6=>117|8=>171|9=>170|19=>216|20=>217|21=>207|22=>208|23=>209|24=>210|25=>211|26=>212|27=>213|28=>214|29=>215|36=>236|31=>237|32=>238|37=>239|38=>240|39=>241|41=>262|a=>a,λ|27=>66|29=>9|3=>3|32=>153|26=>66|0=>0|44=>150|46=>140|4=>4|36=>312|35=>311|41=>270|5=>5|9=>9|53=>330|57=>333|63=>356|64=>263|a=>a,λ|a=>a⟩
theorem Tryz.iW:Go.Proofs.SlLaysM.n6 Tryz.prog Tryz.fU:=by repeat' first|exact Lf.Df (by kernel_rfl)|kernel_rfl|exact bears (by kernel_rfl) (by kernel_rfl)|decide|constructor
def Tryz.fV:Go.Shelf.Ren:=⟨λ|5=>219|8=>171|7=>244|19=>216|20=>217|10=>265|11=>266|12=>267|13=>268|14=>269|15=>270|16=>271|17=>272|18=>273|30=>290|31=>237|32=>238|33=>291|34=>292|35=>293|40=>300|a=>a,λ|23=>86|25=>3|3=>3|32=>153|22=>86|0=>0|44=>150|46=>140|4=>4|36=>312|35=>311|41=>270|5=>5|9=>9|53=>330|57=>333|63=>356|64=>263|a=>a,λ|a=>a⟩
theorem Tryz.iX:Go.Proofs.SlLaysM.n5 Tryz.prog Tryz.fV:=by repeat' first|exact Lf.Df (by kernel_rfl)|kernel_rfl|exact bears (by kernel_rfl) (by kernel_rfl)|decide|constructor
end Go.Proofs
namespace Go.Lf.G
open Go
abbrev nT:Q8:=FR
theorem AQi {d:aq}{a:aa}{b:Option Nat}{e:A2P}(g: ∀T c,c[a.size]? =some (J2 #[.map b] T (0,0))->Ext a c->c.size=a.size+1->e (.func (.func nT) #[] #[Ar a.size]) c):
  AA d P CB #[.map b] a e:=by
 intro f;have h:=Proofs.AnyZ.keys_in Proofs.Tryz.iV Fence.wide 5 trivial rfl b (d.at a f);have i:=callsIn_wide.1 h;refine Calls.mono i ?_;rintro j k ⟨rfl,rfl⟩;refine⟨_,rfl,a.push (J2 #[.map b] (Proofs.Tryz.cF.t 23)),f,rfl,?_⟩;exact g (Proofs.Tryz.cF.t 23) (a.push (J2 #[.map b] (Proofs.Tryz.cF.t 23))) (by simp) (Mod.push a _) (by simp)
theorem ASz(m:Nat):Proofs.AnyZ.SortsIn P Proofs.Tryz.dJ Fence.wide m:=
 ⟨λah off a c b d e f=>callsIn_wide.2 (Proofs.AnyM.slices_Sort_string Proofs.Tryz.iW ah off a c b d e f),
 λp a b=>callsIn_wide.2 (Proofs.AnyM.slices_Sort_string_none Proofs.Tryz.iW p a b)⟩
theorem AMc {A:aq}{h:aa}{c i:Nat}{T:Q7}{m:List (A2Q×J0)}{l:List A2Q}{o:A2P}(p:h[c]? =some (J2 #[.map (some i)] T (0,0)))(M:VX h i m)
  (B:nV l) (C:(m.map (·.1)).Perm l) (d:m.length<=8796093022208)
  (q: ∀s j,Own Fs Az j s l->Ext h j->(∀ b,s.ah=some b->h.size<=b)->o (J4 s.p s.len s.cap) j):
  AA A P F9 #[.func (.func nT) #[] #[Ar c]] h o:=by
 intro n;obtain⟨k,D,E,r⟩:=AKe (P:=P) (kt:=Az) Ol (w:=A.at h n) M;have F:SeqGives Fence.wide 2 P nT #[Ar c] Proofs.encStr (λe=>e.Perm (strKeys k)) (Maps.size k) (A.at h n):=
  Proofs.AnyZ.keys_gives (ρ:=Proofs.Tryz.cF) {Proofs.Tryz.iV with} Fence.wide _ trivial rfl (by omega) c i _ k _ (show c<h.size from Ah p) (by show ag h ⟨c,0,none⟩=_;rw[Hr p];rfl) D
 have G:=Proofs.AnyZ.sorted_in Proofs.Tryz.iB Fence.wide 5 trivial trivial trivial trivial rfl (by omega) (ASz _) (Proofs.enters_of Proofs.Tryz.func117 (by kernel_rfl) rfl) nT #[Ar c] trivial (Proofs.enters_of Proofs.Tryz.func118 (by kernel_rfl) rfl) _ _ (by rw[r];simp[maxLen];omega) (by rw[r];omega) _ F;have H:=callsIn_wide.1 G;refine Calls.mono H ?_;rintro V a ⟨v,e,rfl,I,t,W,f⟩;have u:a=A.at a.heap a.drawn:=vC (A:=A) (h:=h) (n:=n) rfl f.os f.tape f.output;have y:e.Perm (l.map λx=>x.data.toList):=by
  refine(I.trans E).trans ?_;have:=C.map λx:A2Q=>x.data.toList
  simpa [Bk,G0] using this
 have J:e.length=l.length:=by have:=y.length_eq;simpa using this
 rw[AJm B y,AMv] at t;have z:Ext h a.heap:=⟨f.size,λb d _=>f.block b d⟩;rcases t.2 with⟨rfl,X⟩|⟨g,K,L,rfl,N,O,Q,R,S,U⟩
 ·have:l= []:=CH (by omega);subst this;exact⟨_,rfl,a.heap,a.drawn,u,q ⟨none,0,0⟩ _ Own.nil z (λb d=>by simp[Sl.ah] at d)⟩
 ·refine⟨_,rfl,a.heap,a.drawn,u,q ⟨some ⟨g,0,none⟩,e.length,K⟩ _ ⟨J,.inr ⟨g,L,rfl,O,Q,R,S,U⟩⟩ z (λb d=>?_)⟩;simp[Sl.ah] at d;subst d;exact N
def kg(m:Bx):List A2Q×Int:=if m.down then([],30) else(m.files.map (·.name),0)
theorem FI.names {d:aa}{b e:Nat}{a:List (Fi×Nat)}{m:Bx}(c:FI d b e a m):((fi a).map (·.1)).Perm (m.files.map (·.name))/\(fi a).length<=8796093022208:=by
 refine⟨?_,?_⟩
 ·have:=c.perm.map (·.name);simpa [fi,Bk,G0] using this
 ·have f:=c.perm.length_eq;have g:=VK m.files;have h:=c.aS.wt;simp at f ⊢;omega
theorem FI.fy {h:aq}{a:aa}{b i:Nat}{n:List (Fi×Nat)}{m:Bx}(d:FI a b i n m){j:Sl->aa->Prop}
  (o: ∀s f,Own Fs Az f s (m.files.map (·.name))->Ext a f->(∀ c,s.ah=some c->a.size<=c)->j s f):
  AA h P CB #[.map (some i)] a λv1 g=> ∃k:J0,v1=k/\(
   AA h P F9 #[k] g λv2 p=> ∃e:Sl,v2=J4 e.p e.len e.cap/\j e p):=by
 refine AQi λT w q l x=>⟨_,rfl,?_⟩
 refine AMc q (d.map.mod l (λa=>a)) (UA.1 d.aS.sorted) d.names.1 d.names.2 λs g r t u=>⟨s,rfl,?_⟩
 exact o s g r (l.trans t) (λc v=>by have:=u c v;omega)
theorem vZ {i:aq}{a:aa}{b:Nat}{j:Nat->Prop}{m:Bx}{h:A2P}(d:Cu a b j m)
  (e: ∀s g,Own Fs Az g s (kg m).1->Ext a g->(∀ c,s.ah=some c->a.size<=c)->h (J1 #[J4 s.p s.len s.cap,J6 J9 (kg m).2]) g):AA i P LF #[Ar b] a h:=by
 obtain⟨n,o,d,p⟩:=d;refine ABK ?_;unfold Un;refine lF d.head ⟨_,rfl,?_⟩;unfold kg at e;refine af.intro (λhd=>?_) (λhd=>?_)
 ·rw[if_pos hd] at e;exact e ⟨none,0,0⟩ a Own.nil Mod.refl (λc k=>by simp[Sl.ah] at k)
 rw[if_neg (by simp[hd])] at e;exact aD (FW.mk (AO d.head rfl) (d.fy λs g l x f=>e s g l x f))
end Go.Lf.G
