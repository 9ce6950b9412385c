/-
 Plain law: a box of files (chapter 3).
-/
import Derived.Test.YtecomiijolnjpaaGreatDoorLfJToGA
import Derived.Test.YtecomiijolnjpaaGreatDoorLfG1
import Derived.Shelf.Strings.Repeat
import Derived.Shelf.Small.Wraps
import Derived.Shelf.Pu.ParseUintPublic10
import Derived.Shelf.Strconv.Itoa3
import Derived.Shelf.Strconv.AtoiAll
import Derived.Shelf.Strings.BuilderK
import Derived.Test.YtecomiijolnjpaaGreatDoorProg
import Derived.Lib.ItoaNum
import Derived.Lib.Repeat
import Derived.Lib.ParseIntB
import Derived.Test.YtecomiijolnjpaaGreatDoorRows
import Derived.Lib.ItoaLen
import Derived.Lib.AppendIntMem
import Derived.WalkKit
import Derived.ProofKit
import Derived.OpenShut
import Derived.JoinedCond
import Derived.Deep.Slices
import Derived.Carry
set_option maxRecDepth 100000
set_option linter.unusedVariables false
set_option linter.unusedSimpArgs false
open Go.IntKind renaming i64→J9,wrap→J8
open Go.Value renaming string→J7,int→J6,pointer→J5,slice→J4,bool→J3,tuple→J1
open Go.Obj renaming cells→J2
open Go renaming Value→J0,Addr→Q6,TypeId→Q7,FuncId→Q8,Program→Q1
open Go.Addr renaming add→Q9,mk→Q5
namespace Go.Lf
open Go
abbrev bz:A2O:=⟨#[]⟩
theorem nf:ByteArray.size ⟨#[]⟩=0:=rfl
structure Fi where
 name:A2O
 bY:A2O
 soft:A2O
deriving DecidableEq
def GN(l:List Fi):Prop:=l.Pairwise λa b=>aN a.name b.name=true
def Ca(a:A2O)(l:List Fi):Option Fi:=l.find? λf=>decide (f.name=a)
def PK(a:A2O)(g:Fi->Fi)(l:List Fi):List Fi:=l.map λf=>if f.name=a then g f else f
def PI(a:A2O)(l:List Fi):List Fi:=l.filter λf=> !decide (f.name=a)
def gN(x:Fi):List Fi->List Fi
 | []=> [x]
 |q::l=>if aN q.name x.name then q::gN x l else x::q::l
def bg(l:List Fi):Nat:=(l.map λf=>f.bY.size+f.soft.size+1).sum
theorem F7(a:A2O)(x:Fi)(l:List Fi):Ca a (x::l)=if x.name=a then some x else Ca a l:=by unfold Ca;rw[DH];by_cases b:x.name=a<;>simp[b]
theorem Jk {b:A2O}{l:List Fi}{x:Fi}(a:Ca b l=some x):x.name=b/\x∈l:=by unfold Ca at a;exact⟨by simpa using Ix a,ID a⟩
theorem Qz {b:A2O}{l:List Fi}(a:Ca b l=none): ∀x∈l,x.name≠b:=by unfold Ca at a;rw[HD] at a;simpa using a
theorem AHI {a:A2O}{l:List Fi}(b: ∀x∈l,x.name≠a):Ca a l=none:=by unfold Ca;rw[HD];simpa using b
theorem GN.find {l:List Fi}(s:GN l){x:Fi}(a:x∈l):Ca x.name l=some x:=by
 induction l with
 |nil=>cases a
 |cons d l c=>
  rw[F7];have b:=List.pairwise_cons.1 s;rcases List.mem_cons.1 a with rfl|a
  ·simp
  ·rw[if_neg (Nk (b.1 x a))];exact c b.2 a
theorem NR(x:Fi): ∀l,(gN x l).Perm (x::l)
 | []=>IF _
 |q::l=>by
  unfold gN;split
  ·exact((NR x l).cons q).trans (List.Perm.swap x q l)
  ·exact IF _
theorem TJ {x:Fi}: ∀ {l:List Fi},GN l->(∀ b∈l,b.name≠x.name)->GN (gN x l)
 | [],_,_=>A0d _ _
 |q::l,s,e=>by
  have c:=List.pairwise_cons.1 s;unfold gN;split
  ·rename_i d;refine List.pairwise_cons.2 ⟨λb a=>?_,TJ c.2 λb a=>e b (An _ a)⟩;rcases List.mem_cons.1 ((NR x l).subset a) with rfl|a
   ·exact d
   ·exact c.1 b a
  ·rename_i d;have f:aN x.name q.name=true:=by
    cases g:aN x.name q.name
    ·exact absurd (NF (by simpa using d) g) (e q AN)
    ·rfl
   refine List.pairwise_cons.2 ⟨λb a=>?_,s⟩;rcases List.mem_cons.1 a with rfl|a
   ·exact f
   ·exact DK f (c.1 b a)
theorem AIb {a:A2O}{g:Fi->Fi}(b: ∀f,(g f).name=f.name)(l:List Fi):(PK a g l).map (·.name)=l.map (·.name):=by
 unfold PK;rw[AT];refine CM λf _=>?_
 simp only[Function.comp];split<;>simp[b]
theorem Sg {l:List Fi}:GN l↔mZ (l.map (·.name)):=by unfold GN mZ;rw[Nd]
theorem ZX {k:A2O}{g:Fi->Fi}(a: ∀f,(g f).name=f.name){l:List Fi}(s:GN l):GN (PK k g l):=by rw[Sg,AIb a];exact Sg.1 s
theorem AHk {a:A2O}{l:List Fi}(s:GN l):GN (PI a l):=s.sublist Hc
theorem Yt {a c:A2O}{g:Fi->Fi}(b: ∀f,(g f).name=f.name): ∀l:List Fi,Ca c (PK a g l)=(Ca c l).map λf=>if f.name=a then g f else f
 | []=>rfl
 |x::l=>by
  show Ca c ((if x.name=a then g x else x)::PK a g l)=_;rw[F7,F7,Yt b l];have:(if x.name=a then g x else x).name=x.name:=by split<;>simp[b]
  rw[this];by_cases d:x.name=c<;>simp[d]
theorem Yk {k c:A2O}: ∀l:List Fi,Ca c (PI k l)=if c=k then none else Ca c l
 | []=>by simp[PI,Ca]
 |x::l=>by
  have b:=Yk (k:=k) (c:=c) l;unfold PI at b ⊢;rw[B9,F7];by_cases d:x.name=k
  ·simp only[d,decide_true,Ly,Cd,if_false];rw[b];by_cases a:c=k
   ·simp[a]
   ·simp[a,Ne.symm a]
  ·simp only[d,decide_false,P0,if_true];rw[F7,b];by_cases a:c=k
   ·subst a;simp[d]
   ·simp[a]
theorem ug {x:Fi}{c:A2O}: ∀ {l:List Fi},(∀ a∈l,a.name≠x.name)->Ca c (gN x l)=if x.name=c then some x else Ca c l
 | [],_=>by show Ca c [x]=_;rw[F7]
 |q::l,d=>by
  unfold gN;split
  ·rw[F7,ug λa e=>d a (An _ e),F7];by_cases b:q.name=c
   ·simp[b];intro f;exact absurd (b.trans f.symm) (d q AN)
   ·simp[b]
  ·rw[F7]
theorem Lm(x:Fi)(l:List Fi):bg (x::l)=x.bY.size+x.soft.size+1+bg l:=by simp[bg]
theorem AMQ {l m:List Fi}(a:l.Perm m):bg l=bg m:=(a.map _).sum_nat
theorem uh(x:Fi)(l:List Fi):bg (gN x l)=x.bY.size+x.soft.size+1+bg l:=by rw[AMQ (NR x l),Lm]
theorem T9: ∀l:List Fi,l.length<=bg l
 | []=>by simp[bg]
 |x::l=>by rw[Lm,A5];have:=T9 l;omega
theorem ng {x:Fi}: ∀ {l:List Fi},x∈l->x.bY.size+x.soft.size<=bg l
 | [],a=>by cases a
 |y::l,a=>by
  rw[Lm];rcases List.mem_cons.1 a with rfl|a
  ·omega
  ·have:=ng a;omega
theorem qi {k:A2O}: ∀l:List Fi,bg (PI k l)<=bg l
 | []=>by simp[PI,bg]
 |x::l=>by
  have:=qi (k:=k) l;unfold PI at this ⊢;rw[B9];split
  ·rw[Lm,Lm];omega
  ·rw[Lm];omega
theorem Xw {k:A2O}{g:Fi->Fi}{d:Nat}(a: ∀f,(g f).bY.size+(g f).soft.size<=f.bY.size+f.soft.size+d): ∀ {l:List Fi},GN l->bg (PK k g l)<=bg l+d
 | [],_=>by simp[PK,bg]
 |x::l,s=>by
  have b:=List.pairwise_cons.1 s;show bg ((if x.name=k then g x else x)::PK k g l)<=_;rw[Lm,Lm];split
  ·rename_i c;have:PK k g l=l:=by unfold PK;rw[CM (g:=id) λe h=>?_,Kx];have:=Nk (b.1 e h);rw[if_neg (λi=>this (c.trans i.symm))];rfl
   rw[this];have:=a x;omega
  ·have:=Xw a (k:=k) b.2;omega
structure Bx where
 files:List Fi
 fuel:Int
 down:Bool
def jW:Bx:=⟨[],-1,false⟩
def KZ(a:A2O):Bool:=decide (a=bz)||decide (a.size>32)
def Ht(m:Bx):Bx:=if m.fuel>0 then {m with fuel:=m.fuel-1} else m
def MR(m:Bx):Bx:= {m with down:=true}
def Su(a:A2O)(l:List Fi):List Fi:=if(Ca a l).isSome then l else gN ⟨a,bz,bz⟩ l
def Qu(a:A2O)(f:Fi):Fi:= {f with soft:=f.soft++a}
def RH(f:Fi):Fi:=⟨f.name,f.bY++f.soft,bz⟩
def Dt(m:Bx)(a b:A2O):Int×Bx:=
 if m.down then(30,m) else if KZ a then(1,m) else if m.fuel=0 then(30,MR m) else(0,{Ht m with files:=PK a (Qu b) (Su a m.files)})
def Gr(m:Bx)(a:A2O):Int×Bx:=
 if m.down then(30,m) else if(Ca a m.files).isNone then(31,m) else if m.fuel=0 then(30,MR m) else(0,{Ht m with files:=PK a RH m.files})
def GU(m:Bx)(a:A2O):Int×Bx:=
 if m.down then(30,m) else if(Ca a m.files).isNone then(31,m) else if m.fuel=0 then(30,MR m) else(0,{Ht m with files:=PI a m.files})
def Sz(m:Bx)(a:A2O):A2O×Int:=
 if m.down then(bz,30) else match Ca a m.files with|none=>(bz,31)|some f=>(f.bY++f.soft,0)
structure Gj (m:Bx):Prop where
 sorted:GN m.files
 names: ∀f∈m.files,f.name.size<=32
 lo: -1<=m.fuel
 hi:m.fuel<=9223372036854775807
 wt:bg m.files<=8796093022208
theorem AOU(a b:A2O):(a++b).size=a.size+b.size:=HW
theorem XN(a:A2O):a++bz=a:=by simp[Mb,bz]
theorem Qd(a:A2O):bz++a=a:=by simp[Mb,bz]
theorem ALh:Gj jW:=⟨List.Pairwise.nil,by simp[jW],by simp[jW],by simp[jW],by simp[jW,bg]⟩
theorem Gj.tick {m:Bx}(g:Gj m)(l:List Fi)(a:GN l)(b: ∀f∈l,f.name.size<=32)(c:bg l<=8796093022208):Gj {Ht m with files:=l}:=by
 have:=g.lo;have:=g.hi;refine⟨a,b,?_,?_,c⟩
 ·show -1<=(Ht m).fuel;unfold Ht;split<;>(try simp only[])<;>omega
 ·show(Ht m).fuel<=_;unfold Ht;split<;>(try simp only[])<;>omega
theorem Gj.off {m:Bx}(g:Gj m):Gj (MR m):=⟨g.sorted,g.names,g.lo,g.hi,g.wt⟩
theorem ui {name:A2O}{l:List Fi}(s:GN l):GN (Su name l)/\bg (Su name l)<=bg l+1/\(∀ f∈Su name l,f∈l\/f.name=name):=by
 unfold Su;split
 ·exact⟨s,by omega,λf a=> .inl a⟩
 ·rename_i b;have c:=Qz (by simpa using b);refine⟨TJ s c,by rw[uh];simp[nf];omega,λf a=>?_⟩;rcases List.mem_cons.1 ((NR _ l).subset a) with rfl|a
  ·exact .inr rfl
  ·exact .inl a
theorem uj {c:A2O}{g:Fi->Fi}(d: ∀f,(g f).name=f.name){l:List Fi}{f:Fi}(b:f∈PK c g l): ∃a∈l,a.name=f.name:=by unfold PK at b;obtain⟨a,e,rfl⟩:=List.mem_map.1 b;exact⟨a,e,by split<;>simp[d]⟩
theorem Gj.append {m:Bx}(g:Gj m){name data:A2O}(n:bg m.files+data.size+1<=8796093022208):Gj (Dt m name data).2:=by
 unfold Dt;split
 ·exact g
 ·split
  ·exact g
  ·rename_i e;split
   ·exact g.off
   ·obtain⟨b,o,h⟩:=ui (name:=name) g.sorted;refine g.tick _ (ZX (k:=name) (g:=Qu data) (λ_=>rfl) b) (λf i=>?_) ?_
    ·obtain⟨c,j,l⟩:=uj (g:=Qu data) (λ_=>rfl) i;rw[<- l];rcases h c j with a|a
     ·exact g.names c a
     ·rw[a];simp[KZ] at e;omega
    ·have:=Xw (k:=name) (g:=Qu data) (d:=data.size) (λf=>by simp[Qu];omega) b;omega
theorem Gj.sync {m:Bx}(g:Gj m){name:A2O}:Gj (Gr m name).2:=by
 unfold Gr;split
 ·exact g
 ·split
  ·exact g
  ·split
   ·exact g.off
   ·refine g.tick _ (ZX (k:=name) (g:=RH) (λ_=>rfl) g.sorted) (λf a=>?_) ?_
    ·obtain⟨b,c,e⟩:=uj (g:=RH) (λ_=>rfl) a;rw[<- e];exact g.names b c
    ·have:=Xw (k:=name) (g:=RH) (d:=0) (λf=>by simp[RH,nf]) g.sorted;have:=g.wt;omega
theorem Gj.delete {m:Bx}(g:Gj m){name:A2O}:Gj (GU m name).2:=by
 unfold GU;split
 ·exact g
 ·split
  ·exact g
  ·split
   ·exact g.off
   ·exact g.tick _ (AHk g.sorted) (λf a=>g.names f (List.mem_filter.1 a).1) (AF (qi _) g.wt)
theorem YR {m:Bx}(g:Gj m)(name a:A2O):bg (Dt m name a).2.files<=bg m.files+a.size+1:=by
 unfold Dt;split
 ·simp;omega
 ·split
  ·simp;omega
  ·split
   ·simp[MR];omega
   ·obtain⟨b,c,_⟩:=ui (name:=name) g.sorted;have:=Xw (k:=name) (g:=Qu a) (d:=a.size) (λf=>by simp[Qu];omega) b;simp;omega
theorem ni {m:Bx}(g:Gj m)(a:A2O):bg (Gr m a).2.files<=bg m.files:=by
 unfold Gr;split
 ·simp
 ·split
  ·simp
  ·split
   ·simp[MR]
   ·have:=Xw (k:=a) (g:=RH) (d:=0) (λf=>by simp[RH,nf]) g.sorted;simpa using this
theorem YU {m:Bx}(a:A2O):bg (GU m a).2.files<=bg m.files:=by
 unfold GU;split
 ·simp
 ·split
  ·simp
  ·split
   ·simp[MR]
   ·exact qi _
theorem uM {d:Type}{a:cy d}{x e:d}{c:Nat}{v:J0}(f:a.enc e=(a.enc x).set c v)(g:c<a.w): ∀ {l:List d} {i:Nat},l[i]? =some x->(l.set i e).flatMap a.enc=(l.flatMap a.enc).set (i*a.w+c) v
 | [],_,b=>by simp at b
 |y::l,0,b=>by
  simp at b;subst b;rw[List.set_cons_zero,AH,AH,f,HL,AI,List.set_append_left _ _ (by rw[a.len];exact g)]
 |y::l,i+1,b=>by
  rw[List.set_cons_succ,AH,AH,uM f g (l:=l) (i:=i) (by simpa using b),HI _ _ (by rw[a.len,BE];omega),a.len];rw[show(i+1)*a.w+c-a.w=i*a.w+c by rw[BE];omega]
theorem Own.store {e:Type}{E:cy e}{T:Q7}{d:aa}{s:Sl}{l:List e}{i j:Nat}{x x':e}{v:J0}{K:aa->Prop}(f:Own E T d s l)(h:l[i]? =some x)(q:E.enc x'=(E.enc x).set j v)(r:j<E.w)
  (t: ∀b,Own E T b s (l.set i x')->Mod (λc=>s.af=some c) d b->b.size=d.size->K b): ∀a,s.p=some a->ab d ((a.add (i*E.w)).add j) v K:=by
 intro a n;rcases f.row with⟨rfl,rfl⟩|⟨g,u,k,w,o,y,p,z⟩
 ·simp at h
 ·rw[k] at n;cases n;rw[add_add,Bb,AI];have A:i<l.length:=(List.getElem?_eq_some_iff.1 h).1;have F:i*E.w+j<s.len*E.w:=by have:(i+1)*E.w<=s.len*E.w:=AS _ (by rw[f.len];exact A);rw[BE] at this;omega
  have G:s.len*E.w<=u.size:=by rw[p];exact AS _ o
  refine ab.mk w (by omega) λb B m C=>t b ⟨by rw[R2];exact f.len,.inr ⟨g,_,k,B,o,y,by simpa using p,?_⟩⟩ (m.ai λc _ D=>by simp[Sl.af,k,D]) C
  rw[Fc,List.take_set,z,uM q r h]
theorem Own.ne {d:Type}{h:cy d}{T e:Q7}{f:aa}{s:Sl}{l:List d}(i:Own h T f s l){b:Nat}{j:Array J0}{fr:Nat×Nat}(a:f[b]? =some (J2 j e fr))(k:T≠e):s.af≠some b:=by
 intro c;rcases i.row with⟨rfl,_⟩|⟨g,p,m,n,_⟩
 ·simp[Sl.af] at c
 ·simp[Sl.af,m] at c;subst c;rw[n] at a;injection a with a;injection a with _ o _;exact k o
end Go.Lf
namespace Go.Lf.G
open Go
theorem Oc:P.underlying Ar=some .string:=by kernel_rfl
theorem ka:P.underlying Co=some (.int .u8):=by kernel_rfl
theorem YL:P.underlying BU=some (.slice Co):=by kernel_rfl
theorem vC:PO P BU Co Gs.w 1=true:=by kernel_rfl
theorem CS {y:al}{d:aa}{n:Nat}{q:A2N}(z:n<18446744073709551616)(A: ∀e,Ext d e->q (.string (AX (BZ n))) e):AA y P Au #[.int .u64 (n:Int)] d q:=by
 refine AG6 ?_;unfold sY;have r:=AV z;refine Loop.rule (λm x f=> ∃(a:Nat) (s:Sl) (c:List UInt8),x=((a:Int),s,())/\Own Gs Co f s c/\Ext d f/\(∀ b,s.af=some b->d.size<=b)/\BZ n=c++BZ a/\m=a) ?_
  ⟨n,⟨none,0,0⟩,[],rfl,Own.nil,Mod.refl,λb g=>by simp[Sl.af] at g,rfl,rfl⟩
 rintro K m _ f ⟨a,s,c,rfl,t,x,h,i,F⟩ B;have hd:c.length<=10:=by rw[i] at r;simp at r;omega
 refine ae.intro (λj=>?_) (λj=>?_)
 ·have k: ¬a<128:=by simp at j;omega
  refine ak.aZ (E:=Gs) (x:=Cq (a % 128+128)) (s:=s) (l:=c) (by dsimp only[Gs];rw[AOa]) vC t (by simp;omega) (by simp[maxLen];omega) λu e o p v C=>?_
  refine B (a / 128) _ _ (by omega) ⟨a / 128,u,c++ [Cq (a % 128+128)],?_,o,x.more p h,λb g=>?_,?_,rfl⟩
  ·dsimp only;rw[Pj a 7]
  ·rcases v b g with w|w
   ·exact h b w
   ·have:=x.size;omega
  ·rw[i,WS k];simp
 ·have k:a<128:=by simp at j;omega
  refine ak.aZ (E:=Gs) (x:=Cq a) (s:=s) (l:=c) (by dsimp only[Gs];rw[Dq (show a<256 by omega),wrap_u8,Ax (show a<256 by omega)]) vC t (by simp;omega) (by simp[maxLen];omega) λu e o p v C=>?_
  refine Jy YL ka Oc o.view ⟨_,rfl,?_⟩;have D:c++ [Cq a]=BZ n:=by rw[i,FR k]
  rw[D];exact A _ (x.more p h)
theorem AMc(a:Nat):(if(10:Int)<(a:Int) then(10:Int) else(a:Int))=((min a 10:Nat):Int):=by split<;>omega
theorem vD {D:al}{e:aa}{s:A2O}{n:A2N}(V:s.size<=8796093022208)
  (v:Lg 0 0 s.data.toList=none->n (.tuple #[.int .u64 0,.string ⟨#[]⟩,.bool false]) e)
  (E: ∀w t,Lg 0 0 s.data.toList=some (w,t)->n (.tuple #[.int .u64 (w:Int),.string (AX t),.bool true]) e):AA D P Qi #[.string s] e n:=by
 refine AGF ?_;unfold sR;have W:s.data.toList.length=s.size:=by rw[F0];rfl
 refine Loop.rule (λm x o=> ∃(i a:Nat),x=((a:Int),(i:Int),())/\o=e/\i<=s.size/\i<=10/\a<128^i/\Lg 0 0 s.data.toList=Lg i a (s.data.toList.drop i)/\m=10-i) ?_
  ⟨0,0,rfl,rfl,by omega,by omega,by simp,rfl,rfl⟩
 rintro K m _ o ⟨i,a,rfl,y,X,Y,F,p,Z⟩ G;subst o;dsimp only;rw[AMc];refine ae.intro (λd=>?_) (λd=>?_)
 ·have z:i<s.size/\i<10:=by simp at d;omega
  have q:i<s.data.toList.length:=by omega
  refine⟨⟨by omega,by omega⟩,?_⟩;obtain⟨c,r⟩: ∃c,s.data.toList[i]? =some c:=⟨_,A2 q⟩;have A:s.data.toList.drop i=c::s.data.toList.drop (i+1):=by rw[Fo q];rw[A2 q] at r;rw[C2 r]
  have B:c.toNat<256:=c.toNat_lt;rw[Oh r];have H:((i=9/\1<c.toNat)\/(0<i/\c.toNat=0))->Lg 0 0 s.data.toList=none:=λg=>by
   rw[p,A,Lg,if_pos (.inr g)]
  have I: ¬((i=9/\1<c.toNat)\/(0<i/\c.toNat=0))->Lg 0 0 s.data.toList=if c.toNat<128 then some (a+c.toNat*128^i,s.data.toList.drop (i+1)) else Lg (i+1) (a+c.toNat % 128*128^i) (s.data.toList.drop (i+1)):=λg=>by
   rw[p,A,Lg,if_neg (λe=>e.elim (by omega) g)]
  refine ah.mk λJ L=>?_
  have key: ∀(b:Bool),(b=true↔((i=9/\1<c.toNat)\/(0<i/\c.toNat=0)))->J (b,()) e:=λb g=>by
   refine L _ _ ?_;refine ae.intro (λM=>v (H (g.1 M))) (λC=>?_);have N: ¬((i=9/\1<c.toNat)\/(0<i/\c.toNat=0)):=λe=>by rw[g.2 e] at C;cases C
   have j:=I N;have O:J8 J9 ((7:Int)*(i:Int))=((7*i:Nat):Int):=by rw[show(7:Int)*(i:Int)=((7*i:Nat):Int) by simp];exact F5 (by omega)
   have Q:GG .u8 (c.toNat:Int) (127:Int)=((c.toNat % 128:Nat):Int):=by have:=vB (a:=c.toNat) (b:=127) B (by decide);rw[AQn _ B] at this;exact this
   have R:J8 .u64 ((c.toNat % 128:Nat):Int)=((c.toNat % 128:Nat):Int):=by rw[wrap_u64,Ax (by omega)]
   rw[O,Q,R,AQ9 (by omega) (Cp _ (by decide)),APB (by omega) F (Cp _ (by decide)),Aa (by omega)];have ab:=LK (show i<=9 by omega);have S:(128:Nat)^9=9223372036854775808:=by decide
   have T:c.toNat % 128*128^i % 18446744073709551616=c.toNat % 128*128^i:=by
    refine Ax ?_;by_cases k:i=9
    ·subst k;have:c.toNat<=1:=by omega
     rw[S];omega
    ·have ac:=LK (show i<=8 by omega);have ad:(128:Nat)^8=72057594037927936:=by decide
     have:c.toNat % 128*128^i<=127*128^i:=AS _ (by omega);omega
   rw[T];refine⟨by omega,?_⟩;refine ae.intro (λd=>?_) (λd=>?_)
   ·have l:c.toNat<128:=by simp at d;omega
    rw[if_pos l] at j;refine⟨⟨by omega,by omega⟩,?_⟩;have:=E _ _ j;rw[Ax l];have y:s.extract ((i+1:Nat):Int).toNat s.size=AX (s.data.toList.drop (i+1)):=qt _ _;rw[y];exact this
   ·have l: ¬c.toNat<128:=by simp at d;omega
    rw[if_neg l] at j;refine G (10-(i+1)) _ _ (by omega) ⟨i+1,a+c.toNat % 128*128^i,rfl,rfl,by omega,by omega,?_,j,rfl⟩;have:(c.toNat % 128+1)*128^i<=128*128^i:=AS _ (by omega);rw[BE] at this;rw[DS,CT (128^i)];omega
  refine ae.intro (λd=>?_) (λd=>?_)
  ·have k:i=9:=by simp at d;omega
   refine ae.intro (λu=>key _ ⟨λ_=> .inl ⟨k,by simp at u;omega⟩,λ_=>rfl⟩) (λu=>?_);refine ae.intro (λh=>key _ ⟨λf=> .inr ⟨by omega,by simp at f;omega⟩,λf=>by simp at u ⊢;omega⟩) (λh=>?_);simp at h;omega
  ·have k:i≠9:=by simp at d;omega
   refine ae.intro (λh=>key _ ⟨λf=> .inr ⟨by simp at h;omega,by simp at f;omega⟩,λf=>(by simp;omega)⟩) (λh=>key _ ⟨(λf=>(by cases f)),λf=>(by simp at h;omega)⟩)
 ·have z:s.size=i\/i=10:=by simp at d;omega
  refine v ?_;rw[p];rcases z with U|U
  ·rw[Hv (by omega)];rfl
  ·cases hd:s.data.toList.drop i with
   |nil=>rfl
   |cons c t=>rw[Lg,if_pos (.inl (by omega))]
theorem aD {a:Q6}{K:Q6->Prop}(b:K a):At (some a) K:=b
theorem ab.dk {a:aa}{b d:Nat}{v:J0}{e:Array J0}{T:Q7}{K:aa->Prop}(f:a[b]? =some (J2 e T (0,0)))(g:d<e.size)
  (h: ∀c,c[b]? =some (J2 (e.setIfInBounds d v) T (0,0))->Mod (· =b) a c->c.size=a.size->K c):ab a ((⟨b,0,none⟩:Q6).add d) v K:=by
 rw[Bb,AI];exact ab.mk f g h
theorem max_i64:IntKind.max J9=9223372036854775807:=by simp[IntKind.max,IntKind.bits,IntKind.signed]
theorem wrap_i64 {n:Int}(a: -9223372036854775808<=n)(b:n<=9223372036854775807):J8 J9 n=n:=by simp only[J8,IntKind.bits,IntKind.signed];simp;omega
theorem Bz {a:Nat}(b:a<18446744073709551616):J8 .u64 (a:Int)=(a:Int):=by rw[wrap_u64,Ax b]
abbrev Ay(b:Nat):J0:=J5 (some ⟨b,0,none⟩)
def Ib(a:aa)(b:Nat)(r:Rd):Prop:=a[b]? =some (J2 #[J7 (AX r.rest),J3 r.bad] Ut (0,0))
theorem vE:AX []=⟨#[]⟩:=rfl
theorem vF(l:List UInt8)(a:Nat):(AX l).extract 0 a=AX (l.take a):=by rw[AMW,Ce]
theorem Yg(l:List UInt8)(a:Nat):(AX l).extract a (AX l).size=AX (l.drop a):=by rw[qt,Ce]
theorem ANA(l:List UInt8)(i a:Nat):(AX l).extract i a=AX ((l.take a).drop i):=by rw[dQ,Ce]
theorem Ak(a b:List UInt8):AX a++AX b=AX (a++b):=by apply SM;simp[AX,Kf]
theorem QG {A:al}{h:aa}{l:List UInt8}{R:A2N}(d:l.length<=1099511627776)(b: ∀a,Ext h a->R (J7 (AX (BR l))) a):AA A P CE #[J7 (AX l)] h R:=by
 refine AFf ?_;unfold Zh;rw[AP,Bz (by omega)];have:=AV (n:=l.length) (by omega);refine CS (by omega) λe c=>⟨_,rfl,⟨by rw[AP,max_i64];omega,?_⟩⟩
 rw[Ak];exact b _ c
theorem KP {d:al}{a:aa}{l:List UInt8}{c:A2N}(e: ∀b,Ib b a.size ⟨l,false⟩->Ext a b->c (Ay a.size) b):AA d P Eg #[J7 (AX l)] a c:=by refine AF0 ?_;unfold ZZ;exact ak.mk λf _ g x _=>e f g x
theorem vG {i:al}{c:aa}{b:Nat}{r:Rd}{g:A2N}(d:Ib c b r)(j:r.rest.length<=1099511627776)
  (h: ∀e,Ib e b (Gq r).2->Mod (· =b) c e->g (.int .u64 ((Gq r).1:Int)) e):AA i P IX #[Ay b] c g:=by
 refine VO ?_;unfold Od;refine ah.mk λK k=>ae.no rfl (aD (Ab.mk (AB d rfl) (k _ _ ?_)))
 refine ae.intro (λa=>?_) (λa=>?_)
 ·have:=h c;rw[AMX a] at this;exact this d Mod.refl
 ·refine aD (AJ.mk (AL d rfl) ?_);have a:r.bad=false:=a;refine vD (by rw[AP];exact AF j (by decide)) (λf=>⟨_,_,_,rfl,?_⟩) (λq t f=>⟨_,_,_,rfl,?_⟩)
  all_goals
   rw[Ce] at f;refine aD (ab.mk d (by simp) λs l m u=>aD (ab.dk l (by simp) λn o p v=>?_));have:=h n;simp only[Gq,a,f] at this;exact this o (m.trans p)
theorem AMB {m:Nat}(a:m<=9223372036854775807):J8 .u64 (m:Int)=(m:Int):=Bz (by omega)
theorem DR {k:al}{d:aa}{b:Nat}{r:Rd}{most:Nat}{i:A2N}(l:Ib d b r)(m:r.rest.length<=1099511627776)(n:most<=9223372036854775807)
  (e: ∀f,Ib f b (Bw most r).2->Mod (· =b) d f->i (J6 J9 ((Bw most r).1:Int)) f):AA k P Ad #[Ay b,J6 J9 (most:Int)] d i:=by
 refine Vl ?_;unfold OV;refine vG l m λj c g=>⟨_,rfl,?_⟩
 refine ah.mk λK o=>ae.no rfl (aD (Ab.mk (AB c rfl) (o _ _ ?_)))
 refine ae.intro (λa=>?_) (λa=>?_)
 ·have:=e j;have a:(Gq r).2.bad=true:=a;simp only[Bw,a,if_true] at this;exact this c g
 ·have a:(Gq r).2.bad=false:=a;refine ah.mk λw p=>ae.no (by simp) (p _ _ ?_)
  rw[AMB n];refine ae.intro (λh=>?_) (λh=>?_)
  ·refine aD (ab.mk c (by simp) λx q s y=>aD (ab.dk q (by simp) λt u v z=>?_));have:=e t;simp only[Bw,a] at this;rw[if_neg (by simp),if_pos (by simp at h;omega)] at this;exact this u ((g.trans s).trans v)
  ·have:=e j;simp at h;simp only[Bw,a] at this;rw[if_neg (by simp),if_neg (by omega)] at this;rw[F5 (by omega)];exact this c g
theorem qw {m:al}{e:aa}{b f:Nat}{r:Rd}{k:A2N}(c:Ib e b r)
  (g: ∀h,Ib h b (Jr f r).2->Mod (· =b) e h->k (J7 (AX (Jr f r).1)) h):AA m P FP #[Ay b,J6 J9 (f:Int)] e k:=by
 refine UO ?_;unfold N8;refine ah.mk λK n=>ae.no rfl (aD (Ab.mk (AB c rfl) (n _ _ ?_)))
 refine ae.intro (λa=>?_) (λa=>?_)
 ·have:=g e;have a:r.bad=true:=a;simp only[Jr,a,if_true] at this;exact this c Mod.refl
 ·have a:r.bad=false:=a;refine ah.mk λu o=>ae.no (by simp) (aD (AJ.mk (AL c rfl) (o _ _ ?_)))
  rw[AP];refine ae.intro (λi=>?_) (λi=>?_)
  ·refine aD (ab.mk c (by simp) λl d j p=>aD (ab.dk d (by simp) λq s t v=>?_));have:=g q;simp only[Jr,a] at this;rw[if_neg (by simp),if_pos (by simp at i;omega)] at this;exact this s (j.trans t)
  ·simp at i;refine aD (AJ.mk (AL c rfl) ⟨⟨by omega,by rw[AP];omega⟩,aD (AJ.mk (AL c rfl) ⟨⟨by omega,by rw[AP];omega⟩,aD (ab.mk c (by simp) λl d j p=>?_)⟩)⟩);have:=g l;simp only[Jr,a] at this;rw[if_neg (by simp),if_neg (by omega)] at this;simp only[A6,vF,Yg] at d ⊢;rw[a] at d;exact this d j
theorem Hy {j:al}{c:aa}{b:Nat}{r:Rd}{f:A2N}(k:Ib c b r)(v:r.rest.length<1099511627776)
  (g: ∀d,Ib d b (FK r).2->Mod (· =b) c d->f (J7 (AX (FK r).1)) d):AA j P Bh #[Ay b] c f:=by
 refine UM ?_;unfold OA;refine vG k (by omega) λl e h=>⟨_,rfl,?_⟩
 have w:=SI r;refine ah.mk λK m=>ae.no rfl (aD (Ab.mk (AB e rfl) (m _ _ ?_)))
 refine ae.intro (λa=>?_) (λa=>?_)
 ·have:=g l;have a:(Gq r).2.bad=true:=a;simp only[FK,a,if_true] at this;exact this e h
 ·have a:(Gq r).2.bad=false:=a;have n:J8 J9 (if(1099511627776:Int)<((Gq r).1:Int) then 1099511627776 else((Gq r).1:Int))=((min (Gq r).1 1099511627776:Nat):Int):=by rw[wrap_i64 (by split<;>omega) (by split<;>omega)];split<;>omega
  rw[n];refine qw e λo i p=>⟨_,rfl,?_⟩
  have:=g o;simp only[FK,a] at this;rw[if_neg (by simp)] at this;have q:Jr (min (Gq r).1 1099511627776) (Gq r).2=Jr (Gq r).1 (Gq r).2:=by
   by_cases s:(Gq r).1<=1099511627776
   ·rw[GF s]
   ·have t:(Gq r).2.rest.length<min (Gq r).1 1099511627776:=by omega
    have u:(Gq r).2.rest.length<(Gq r).1:=by omega
    simp only[Jr,a,Cd,if_false,if_pos t,if_pos u]
  rw[q] at i ⊢;exact this i (h.trans p)
theorem Mt {h:al}{d:aa}{b:Nat}{r:Rd}{f:A2N}(g:Ib d b r)(a:f (J3 (XV r)) d):AA h P CO #[Ay b] d f:=by
 refine VS ?_;unfold Oo;refine ae.yes rfl (aD (Ab.mk (AB g rfl) ?_));unfold XV at a;refine ae.intro (λe=>?_) (λe=>?_)
 ·refine aD (AJ.mk (AL g rfl) ?_);rw[e] at a;have i:bS (AX r.rest) (⟨#[]⟩:A2O)=r.rest.isEmpty:=by
   rw[Cb,<-vE];cases j:r.rest with
   |nil=>simp
   |cons c t=>simp[Nf]
  rw[i];simpa using a
 ·rw[e] at a;exact a
theorem ANx {c:Nat}(g:c<4294967296):YI .u32 ((c:Int).fdiv ((2:Int)^(1:Nat))) (GG .u32 (3988292384:Int) (J8 .u32 (0-(GG .u32 (c:Int) (1:Int)))))=((lF c:Nat):Int):=by
 have h:GG .u32 (c:Int) (1:Int)=((c % 2:Nat):Int):=by have:=APT (a:=c) (b:=1) g (by decide);rw[Nat.and_one_is_mod] at this;exact this
 rw[Pj c 1,h];unfold lF;have hd:c / 2^1<4294967296:=by omega
 by_cases d:c % 2=1
 ·rw[if_pos d,d];have e:J8 .u32 (0-((1:Nat):Int))=((4294967295:Nat):Int):=by decide
  have f:GG .u32 (3988292384:Int) ((4294967295:Nat):Int)=((3988292384:Nat):Int):=by decide
  rw[e,f,Tq hd (by decide)]
 ·rw[if_neg d,show c % 2=0 by omega];have e:J8 .u32 (0-((0:Nat):Int))=((0:Nat):Int):=by decide
  have f:GG .u32 (3988292384:Int) ((0:Nat):Int)=((0:Nat):Int):=by decide
  rw[e,f,Tq hd (by decide)];simp
theorem APl {c:Nat}(d:c<4294967296):YI .u32 (if IntKind.signed .u32 then -1 else IntKind.max .u32) (c:Int)=((4294967295-c:Nat):Int):=by
 have e:(if IntKind.signed .u32 then -1 else IntKind.max .u32)=((4294967295:Nat):Int):=by decide
 rw[e,Tq (by decide) d];congr 1;have f:4294967295-c=2^32-(c+1):=by omega
 have g:(4294967295:Nat)=2^32-1:=by decide
 have a:c<2^32:=by omega
 rw[f,g];apply Nat.eq_of_testBit_eq;intro i;rw[Nat.testBit_xor,Nat.testBit_two_pow_sub_one,Nat.testBit_two_pow_sub_succ a];by_cases b:i<32
 ·simp[b]
 ·have:c.testBit i=false:=Nat.testBit_lt_two_pow (GC a (RE (by decide) (by omega)));simp[b,this]
theorem vH {q:al}{d:aa}{l:List UInt8}{k:A2N}(v:l.length<=1099511627776)(r:k (.int .u32 (iQ l:Int)) d):AA q P Oj #[J7 (AX l)] d k:=by
 refine AFg ?_;unfold ZP;rw[AP];refine Loop.rule (λm x b=> ∃i:Nat,x=((iB (l.take i):Int),(i:Int),())/\b=d/\m=l.length-i/\i<=l.length) ?_ ⟨0,rfl,rfl,rfl,by omega⟩;rintro K m _ b ⟨i,rfl,e,rfl,w⟩ s;subst b;refine ae.intro (λf=>?_) (λf=>?_)
 ·have g:i<l.length:=by simpa using f
  obtain⟨c,o⟩: ∃c,l[i]? =some c:=⟨_,A2 g⟩;have y:c.toNat<256:=c.toNat_lt;refine⟨⟨by dsimp only;omega,by dsimp only;omega⟩,?_⟩;have p:=vo (l.take i);dsimp only;rw[Oh (c:=c) (by rw[Ce];exact o),wrap_u32,Ax (show c.toNat<4294967296 by omega),Tq p (by omega)];have t:iB (l.take i) ^^^ c.toNat<4294967296:=Lk (n:=32) p (by omega);refine Loop.rule (λm x b=> ∃a:Nat,x=((nF a (iB (l.take i) ^^^ c.toNat):Int),(a:Int),())/\b=d/\m=8-a/\a<=8) ?_ ⟨0,rfl,rfl,rfl,by omega⟩;rintro z A _ b ⟨a,rfl,e,rfl,B⟩ u;subst b;refine ae.intro (λh=>?_) (λh=>?_)
  ·have j:a<8:=by simp at h;omega
   dsimp only;rw[ANx (qs t a),Aa (by omega)];exact u (8-(a+1)) _ _ (by omega) ⟨a+1,rfl,rfl,rfl,j⟩
  ·have j:a=8:=by simp at h;omega
   subst j;dsimp only;rw[Aa (by omega)];refine s (l.length-(i+1)) _ _ (by omega) ⟨i+1,?_,rfl,rfl,g⟩;rw[AD,o,DG,AL2];rfl
 ·have g:i=l.length:=by simp at f;omega
  have e:l.take i=l:=AG (by omega);dsimp only;rw[e,APl (vo l)];exact r
theorem ZC(a b:Nat):J8 .u8 ((a:Int).fdiv ((2:Int)^b))=(((Cq (a / 2^b % 256)).toNat:Nat):Int):=by rw[Pj,wrap_u8,Dq (Cp _ (by decide))]
theorem vI {f:al}{b:aa}{a:Nat}{c:A2N}(g: ∀d,Ext b d->c (J7 (AX (QD a))) d):AA f P NE #[.int .u32 (a:Int)] b c:=by
 refine ADW ?_;unfold Xv;refine ak.mk λh _ e x _=>?_
 have i:J8 .u8 (a:Int)=(((Cq (a % 256)).toNat:Nat):Int):=by rw[wrap_u8,Dq (Cp _ (by decide))]
 rw[ZC,ZC,ZC,i] at e;have j:Own Gs Co h ⟨some ⟨b.size,0,none⟩,4,4⟩ (QD a):=Own.lit (E:=Gs) (l:=QD a) e rfl (by simp[maxLen,QD]);exact Jy (s:=⟨some ⟨b.size,0,none⟩,4,4⟩) YL ka Oc j.view ⟨_,rfl,g _ x⟩
theorem qx {e:al}{a:aa}{l:List UInt8}{b:A2N}(f:l.length<=1099511627776)(g:1048576<l.length->b (J1 #[J7 ⟨#[]⟩,J6 J9 2]) a)
  (h:l.length<=1048576-> ∀d,Ext a d->b (J1 #[J7 (AX (Cj l)),J6 J9 0]) d):AA e P Gx #[J7 (AX l)] a b:=by
 refine ADP ?_;unfold XX;rw[AP];refine ae.intro (λc=>g (by simp at c;omega)) (λc=>?_);have i:l.length<=1048576:=by simp at c;omega
 have:=AV (n:=l.length) (by omega);rw[Bz (by omega)];refine CS (by omega) λm j=>⟨_,rfl,?_⟩
 refine vH f ⟨_,rfl,?_⟩;refine vI λo k=>⟨_,rfl,⟨?_,?_,?_⟩⟩
 ·rw[AP,AP,max_i64,KA];omega
 ·rw[Ak,AP,max_i64,A1,KA];omega
 ·rw[Ak,Ak];exact h i _ (j.trans k)
theorem vJ {G:al}{g:aa}{l:List UInt8}{C:A2N}(p:l.length<=8796093022208)
  (h: ∀D,Ext g D->C (J1 #[J7 (AX (Ga l).2.1),J7 (AX (Ga l).2.2),J6 J9 ((Ga l).1:Int)]) D):AA G P Qx #[J7 (AX l)] g C:=by
 refine ADL ?_;unfold XL;rw[AP];have d:=h g Mod.refl;refine vD (by rw[AP];exact p) (λj=>⟨_,_,_,rfl,?_⟩) (λb t j=>⟨_,_,_,rfl,?_⟩)<;>rw[Ce] at j
 ·have q:Ga l=if l.length<10/\ ∀c∈l,128<=c.toNat then(20,[],[]) else(21,[],[]):=by unfold Ga;rw[j]
  rw[q] at d;refine ah.mk λK r=>ae.yes rfl (r _ _ ?_)
  refine ae.intro (λa=>?_) (λa=>?_)
  ·have s:l.length<10:=by simp at a;omega
   refine Loop.rule (λm x e=> ∃i:Nat,x=((i:Int),())/\e=g/\m=l.length-i/\i<=l.length/\ ∀c∈l.take i,128<=c.toNat) ?_ ⟨0,rfl,rfl,rfl,by omega,by simp⟩;rintro S m _ e ⟨i,rfl,T,rfl,U,u⟩ H;subst e;refine ae.intro (λv=>?_) (λv=>?_)
   ·have w:i<l.length:=by simpa using v
    obtain⟨c,y⟩: ∃c,l[i]? =some c:=⟨_,A2 w⟩;refine⟨⟨by dsimp only;omega,by dsimp only;omega⟩,?_⟩;dsimp only;rw[Oh (c:=c) (by rw[Ce];exact y)];refine ae.intro (λz=>?_) (λz=>?_)
    ·rw[if_neg] at d
     ·exact d
     ·rintro⟨_,k⟩;have:=k c (AK y);simp at z;omega
    ·rw[Aa (by omega)];refine H (l.length-(i+1)) _ _ (by omega) ⟨i+1,rfl,rfl,rfl,w,λx f=>?_⟩;rw[AD,y,DG] at f;rcases List.mem_append.1 f with f|f
     ·exact u x f
     ·simp at f;subst f;simp at z;omega
   ·have w:i=l.length:=by simp at v;omega
    rw[AG (by omega)] at u;rw[if_pos ⟨s,u⟩] at d;exact d
  ·have s: ¬l.length<10:=by simp at a;omega
   rw[if_neg (λe=>s e.1)] at d;refine ah.mk λI A=>ae.yes rfl (A _ _ (ae.yes rfl d))
 ·obtain⟨J,V⟩:=lE j;have W:t.length<=8796093022208:=by rw[J] at p;simp at p;omega
  have q:Ga l=if 1048576<b then(21,[],[]) else if t.length<4+b then(20,[],[])
    else if t.take 4=QD (iQ ((t.drop 4).take b)) then(0,(t.drop 4).take b,t.drop (4+b)) else(21,[],[]):=by unfold Ga;rw[j]
  rw[q] at d h;refine ah.mk λK r=>ae.no rfl (r _ _ (ae.no rfl ?_))
  refine ah.mk λI A=>ae.no rfl (A _ _ ?_)
  refine ae.intro (λa=>?_) (λa=>?_)
  ·have B:1048576<b:=by simp at a;omega
   rw[if_pos B] at d;exact d
  have B: ¬1048576<b:=by simp at a;omega
  rw[if_neg B] at d h;rw[AP];refine ah.mk λL M=>?_
  have key: ∀n:Bool,(n=true↔t.length<4+b)->L (n,()) g:=λn E=>by
   refine M _ _ ?_;refine ae.intro (λa=>?_) (λa=>?_)
   ·rw[if_pos (E.1 a)] at d;exact d
   have k: ¬t.length<4+b:=λe=>by have a:n=false:=a;rw[E.2 e] at a;cases a
   rw[if_neg k] at d h;have N:J8 .u64 ((4:Int)+(b:Int))=((4+b:Nat):Int):=by rw[show(4:Int)+(b:Int)=((4+b:Nat):Int) by simp];exact Bz (by omega)
   rw[N];refine⟨⟨by omega,by omega⟩,⟨by omega,by omega⟩,⟨by omega,by omega⟩,?_⟩;have O:(AX t).extract (4:Int).toNat ((4+b:Nat):Int).toNat=AX ((t.drop 4).take b):=by rw[show(4:Int).toNat=4 from rfl,A6,ANA,List.drop_take];congr 2;omega
   have em:(AX t).extract 0 (4:Int).toNat=AX (t.take 4):=vF _ _;have F:(AX t).extract ((4+b:Nat):Int).toNat (AX t).size=AX (t.drop (4+b)):=by rw[A6,Yg]
   rw[AP] at F;rw[O,em,F];refine vH (by simp;omega) ⟨_,rfl,?_⟩;refine vI λk Q=>⟨_,rfl,?_⟩
   have o:=h k Q;rw[Cb];refine ae.intro (λa=>?_) (λa=>?_)
   ·rw[if_neg (by simp[Nf] at a;exact a)] at o;exact o
   ·rw[if_pos (by simp[Nf] at a;exact a)] at o;exact⟨⟨by omega,by omega⟩,o⟩
  refine ae.intro (λa=>key _ ⟨λ_=>by simp at a;omega,λ_=>rfl⟩) (λa=>key _ ?_);have X:4<=t.length:=by simp at a;omega
  have R:J8 .u64 (J8 J9 ((t.length:Int)-(4:Int)))=((t.length-4:Nat):Int):=by rw[show(t.length:Int)-(4:Int)=((t.length-4:Nat):Int) by omega,F5 (by omega),Bz (by omega)]
  rw[R];simp;omega
theorem Ez.mk {b:aa}{a:Q6}{K:Option Nat->Prop}{n:Option Nat}(c:ag b a=some (.map n))(d:K n):Ez b a K:=⟨n,c,d⟩
theorem jm:P.underlying CG=some (.map Ar tE):=by kernel_rfl
theorem kL:(zeroValue tE).calc P=some (J5 none):=by kernel_rfl
abbrev fg(a:List (Fi×Nat)):List (A2O×J0):=a.map λp=>(p.1.name,Ay p.2)
structure En (h:aa) (b r:Nat) (kv:List (Fi×Nat)) (m:Bx):Prop where
 head:h[b]? =some (J2 #[.map (some r),J6 J9 m.fuel,J3 m.down] YP (0,0))
 map:UK h r (fg kv)
 cells: ∀p∈kv,h[p.2]? =some (J2 #[J7 p.1.bY,J7 p.1.soft] Vq (0,0))
 perm:(kv.map (·.1)).Perm m.files
 nodup:(kv.map (·.2)).Nodup
 aQ:Gj m
def Jv(b r:Nat)(a:List (Fi×Nat))(c:Nat):Prop:=c=b\/c=r\/ ∃p∈a,p.2=c
def Cm(d:aa)(b:Nat)(e:Nat->Prop)(m:Bx):Prop:= ∃r a,En d b r a m/\ ∀c,e c↔Jv b r a c
theorem En.gl {d:aa}{b r:Nat}{e:List (Fi×Nat)}{m:Bx}(a:En d b r e m):r≠b:=by rintro rfl;obtain⟨f,g,c,_⟩:=a.map;rw[a.head] at c;cases c
theorem En.eN {f:aa}{b r:Nat}{e:List (Fi×Nat)}{m:Bx}(c:En f b r e m){p:Fi×Nat}(g:p∈e):p.2≠b/\p.2≠r:=by
 have a:=c.cells p g;constructor
 ·intro d;rw[d,c.head] at a;cases a
 ·intro d;obtain⟨i,j,h,_⟩:=c.map;rw[d,h] at a;cases a
theorem En.lt {d:aa}{b r:Nat}{e:List (Fi×Nat)}{m:Bx}(a:En d b r e m){c:Nat}(f:Jv b r e c):c<d.size:=by
 rcases f with rfl|rfl|⟨p,g,rfl⟩
 ·exact Af a.head
 ·exact a.map.lt
 ·exact Af (a.cells p g)
theorem Cm.lt {d:aa}{b:Nat}{e:Nat->Prop}{m:Bx}(a:Cm d b e m){c:Nat}(f:e c):c<d.size:=by obtain⟨r,h,a,g⟩:=a;exact a.lt ((g c).1 f)
theorem Cm.aQ {c:aa}{b:Nat}{d:Nat->Prop}{m:Bx}(a:Cm c b d m):Gj m:=by obtain⟨r,e,a,f⟩:=a;exact a.aQ
theorem En.mod {f g:aa}{b r:Nat}{d:List (Fi×Nat)}{m:Bx}{T:Nat->Prop}(a:En f b r d m)(x:Mod T f g)(e: ∀c,Jv b r d c-> ¬T c):En g b r d m:=
 ⟨x.af a.head (e _ (.inl rfl)),a.map.mod x (e _ (.inr (.inl rfl))),λp h=>x.af (a.cells p h) (e _ (.inr (.inr ⟨p,h,rfl⟩))),a.perm,a.nodup,a.aQ⟩
theorem Cm.mod {e f:aa}{b:Nat}{a T:Nat->Prop}{m:Bx}(d:Cm e b a m)(x:Mod T e f)(h: ∀c,a c-> ¬T c):Cm f b a m:=by obtain⟨r,i,d,g⟩:=d;exact⟨r,i,d.mod x λc j=>h c ((g c).2 j),g⟩
theorem Cm.ext {a c:aa}{b:Nat}{d:Nat->Prop}{m:Bx}(e:Cm a b d m)(x:Ext a c):Cm c b d m:=e.mod x λ_ _ a=>a
theorem En.hd {e d:aa}{b r:Nat}{f:List (Fi×Nat)}{m c:Bx}(a:En e b r f m)(i:d[b]? =some (J2 #[.map (some r),J6 J9 c.fuel,J3 c.down] YP (0,0)))(x:Mod (· =b) e d)(j:c.files=m.files)(g:Gj c):En d b r f c:=
 ⟨i,a.map.mod x a.gl,λp h=>x.af (a.cells p h) (a.eN h).1,by rw[j];exact a.perm,a.nodup,g⟩
theorem rF(a:A2O): ∀b:List (Fi×Nat),Sr a (fg b)=(b.find? λp=>decide (p.1.name=a)).map λp=>Ay p.2
 | []=>rfl
 |p::b=>by
  show Sr a ((p.1.name,Ay p.2)::fg b)=_;rw[Na,rF a b,DH];by_cases c:p.1.name=a<;>simp[c]
theorem En.mem {a:aa}{b r:Nat}{d:List (Fi×Nat)}{m:Bx}(e:En a b r d m){f:Fi}:f∈m.files↔ ∃c,(f,c)∈d:=by
 rw[<- e.perm.mem_iff];constructor
 ·intro a;obtain⟨p,g,rfl⟩:=List.mem_map.1 a;exact⟨p.2,g⟩
 ·rintro⟨c,h⟩;exact List.mem_map.2 ⟨_,h,rfl⟩
theorem En.look {j:aa}{b r:Nat}{d:List (Fi×Nat)}{m:Bx}(g:En j b r d m)(a:A2O):
  (Sr a (fg d)=none/\Ca a m.files=none)\/ ∃p∈d,Sr a (fg d)=some (Ay p.2)/\Ca a m.files=some p.1/\p.1.name=a:=by
 rw[rF];cases e:d.find? λp=>decide (p.1.name=a) with
 |none=>
  refine .inl ⟨rfl,AHI λf k=>?_⟩;obtain⟨c,l⟩:=g.mem.1 k;rw[HD] at e;simpa using e _ l
 |some p=>
  have h:p.1.name=a:=by simpa using Ix e
  have i:=ID e;refine .inr ⟨p,i,rfl,?_,h⟩;rw[<- h];exact g.aQ.sorted.find (g.mem.2 ⟨p.2,i⟩)
theorem yt {a:List (Fi×Nat)}{l:List Fi}(p:(a.map (·.1)).Perm l)(s:GN l):(a.map λb=>b.1.name).Nodup:=by
 have c:(l.map (·.name)).Nodup:=by refine List.pairwise_map.2 (s.imp λd=>Nk d)
 have e:(a.map λb=>b.1.name).Perm (l.map (·.name)):=by have:=p.map (·.name);simpa [AT,G0] using this
 exact(e.nodup_iff).2 c
theorem En.inj {f:aa}{b r:Nat}{c:List (Fi×Nat)}{m:Bx}(d:En f b r c m){p a:Fi×Nat}(g:p∈c)(h:a∈c)(j:p.1.name=a.1.name):p=a:=by
 have k:=yt d.perm d.aQ.sorted;obtain⟨i,l,rfl⟩:=DA g;obtain⟨e,n,rfl⟩:=DA h;have:i=e:=by
  have o:i<(c.map λa=>a.1.name).length:=by simpa using l
  have q:e<(c.map λa=>a.1.name).length:=by simpa using n
  refine(LI (h₀:=o) (h₁:=q) k).1 ?_;simpa using j
 subst this;rfl
theorem En.set {k h':aa}{b r:Nat}{d:List (Fi×Nat)}{m:Bx}(c:En k b r d m){p:Fi×Nat}(h:p∈d){g:Fi->Fi}(o: ∀f,(g f).name=f.name)
  (q:h'[p.2]? =some (J2 #[J7 (g p.1).bY,J7 (g p.1).soft] Vq (0,0))) (x:Mod (· =p.2) k h') (s:Gj {m with files:=PK p.1.name g m.files}):
  En h' b r (d.map λa=>(if a.1.name=p.1.name then g a.1 else a.1,a.2)) {m with files:=PK p.1.name g m.files}:=by
 refine⟨x.af c.head (c.eN h).1.symm,?_,?_,?_,?_,s⟩
 ·have e:fg (d.map λa=>(if a.1.name=p.1.name then g a.1 else a.1,a.2))=fg d:=by
   simp only[fg,AT];refine CM λa _=>?_
   simp only[Function.comp];split<;>simp[o]
  rw[e];exact c.map.mod x (c.eN h).2.symm
 ·intro a t;obtain⟨l,j,rfl⟩:=List.mem_map.1 t;simp only;by_cases e:l.1.name=p.1.name
  ·rw[if_pos e];have:=c.inj j h e;subst this;exact q
  ·rw[if_neg e];refine x.af (c.cells l j) λu=>e ?_
   have v:=c.nodup;obtain⟨i,w,rfl⟩:=DA h;obtain⟨n,y,rfl⟩:=DA j;have:n=i:=by
    have z:i<(d.map (·.2)).length:=by simpa using w
    have A:n<(d.map (·.2)).length:=by simpa using y
    refine(LI (h₀:=A) (h₁:=z) v).1 ?_;simpa using u
   subst this;rfl
 ·have B:=c.perm.map λf=>if f.name=p.1.name then g f else f
  simpa [PK,AT,G0] using B
 ·simpa [AT,G0] using c.nodup
theorem rG {b r:Nat}{f:List (Fi×Nat)}{g:Fi×Nat->Fi}(c:Nat):Jv b r (f.map λd=>(g d,d.2)) c↔Jv b r f c:=by
 unfold Jv;constructor
 ·rintro(a|a|⟨p,e,rfl⟩)
  ·exact .inl a
  ·exact .inr (.inl a)
  ·obtain⟨d,h,rfl⟩:=List.mem_map.1 e;exact .inr (.inr ⟨d,h,rfl⟩)
 ·rintro(a|a|⟨p,e,rfl⟩)
  ·exact .inl a
  ·exact .inr (.inl a)
  ·exact .inr (.inr ⟨_,List.mem_map.2 ⟨p,e,rfl⟩,rfl⟩)
theorem rH {b:A2O}{v:J0}: ∀ {m:List (A2O×J0)},Sr b m=none->Ym b v m=m++ [(b,v)]
 | [],_=>rfl
 |p::m,a=>by
  rw[Na] at a;split at a
  ·cases a
  ·rename_i c;unfold Ym;rw[if_neg c,rH a];rfl
theorem kN {d:al}{a:aa}{b:Nat}{e f:J0}{down:Bool}{T:Q7}{c:A2N}(g:a[b]? =some (J2 #[e,f,J3 down] T (0,0)))(h:c (J3 down) a):
  AA d P GL #[Ay b] a c:=by
 refine ABY ?_;unfold VB;exact ae.no rfl (aD (Ab.mk (AB g rfl) h))
theorem yu {f:al}{d:aa}{b:A2O}{e:A2N}(a:e (J3 (KZ b)) d):AA f P SV #[J7 b] d e:=by
 refine AFG ?_;unfold ZI;unfold KZ at a;rw[Cb];refine ae.intro (λc=>?_) (λc=>?_)
 ·rw[c] at a;exact a
 ·rw[c] at a;have g:decide ((b.size:Int)>(32:Int))=decide (b.size>32):=by rw[decide_eq_decide];omega
  rw[g];simpa using a
def mh(fuel:Int):Int:=if fuel>0 then fuel-1 else fuel
theorem yw {o:al}{d:aa}{b:Nat}{h:J0}{fuel:Int}{down:Bool}{T:Q7}{i:A2N}(f:d[b]? =some (J2 #[h,J6 J9 fuel,J3 down] T (0,0)))(q: -1<=fuel)(r:fuel<=9223372036854775807)
  (p:fuel=0-> ∀a,a[b]? =some (J2 #[h,J6 J9 fuel,J3 true] T (0,0))->Mod (· =b) d a->a.size=d.size->i (J3 false) a)
  (e:fuel≠0-> ∀a,a[b]? =some (J2 #[h,J6 J9 (mh fuel),J3 down] T (0,0))->Mod (· =b) d a->a.size=d.size->i (J3 true) a):AA o P Gp #[Ay b] d i:=by
 refine AAP ?_;unfold R8;refine aD (AC.mk (AB f rfl) ?_);refine ae.intro (λc=>?_) (λc=>?_)
 ·refine aD (ab.dk f (by simp) λj g k l=>?_);exact p (by simpa using c) j (by simpa using g) k l
 ·have c:fuel≠0:=by simpa using c
  have e:=e c;unfold mh at e;refine ah.mk λK n=>?_
  refine aD (AC.mk (AB f rfl) ?_);refine ae.intro (λc=>?_) (λc=>?_)
  ·have m:fuel>0:=by simpa using c
   rw[if_pos m] at e;refine aD (AC.mk (AB f rfl) (aD (ab.dk f (by simp) λj g k l=>n _ _ ?_)));rw[wrap_i64 (by omega) (by omega)] at g;exact e j (by simpa using g) k l
  ·have m: ¬fuel>0:=by simpa using c
   rw[if_neg m] at e;exact n _ _ (e d f Mod.refl rfl)
theorem I8(m:Bx):(Ht m).fuel=mh m.fuel/\(Ht m).down=m.down/\(Ht m).files=m.files:=by unfold Ht mh;split<;>simp
theorem yx {m:Bx}(g:Gj m):Gj (Ht m):=by have:=g.tick m.files g.sorted g.names g.wt;rwa [<- (I8 m).2.2] at this
theorem En.iV {o:al}{e:aa}{b r:Nat}{f:List (Fi×Nat)}{m:Bx}(d:En e b r f m){h:A2N}
  (p:m.fuel=0-> ∀a,En a b r f (MR m)->Mod (Jv b r f) e a->h (J3 false) a)
  (q:m.fuel≠0-> ∀a,En a b r f (Ht m)->Mod (Jv b r f) e a->a.size=e.size->h (J3 true) a):AA o P Gp #[Ay b] e h:=by
 refine yw d.head d.aQ.lo d.aQ.hi (λi j k g n=>?_) (λi j k g n=>?_)
 ·exact p i j (d.hd k g rfl d.aQ.off) (g.ai λc _ l=> .inl l)
 ·obtain⟨s,t,u⟩:=I8 m;refine q i j (d.hd ?_ g u (yx d.aQ)) (g.ai λc _ l=> .inl l) n;rw[s,t];exact k
theorem En.fC {a:aa}{b r:Nat}{d:List (Fi×Nat)}{m:Bx}(h:En a b r d m){p:Fi×Nat}(e:p∈d){data:A2O}(k:Gj {m with files:=PK p.1.name (Qu data) m.files}){K:aa->Prop}
  (q: ∀i l,En i b r l {m with files:=PK p.1.name (Qu data) m.files}->Mod (Jv b r d) a i->(∀ c,Jv b r l c↔Jv b r d c)->K i):
  At (some ⟨p.2,0,none⟩) λs=>AJ a (s.add 1) λt=>aG (((t.size+data.size:Nat):Int)<=IntKind.i64.max)<|At (some ⟨p.2,0,none⟩) λu=>ab a (u.add 1) (J7 (t++data)) K:=by
 have f:=h.cells p e;refine aD (AJ.mk (AB f rfl) ⟨?_,aD (ab.dk f (by simp) λn v o y=>?_)⟩)
 ·have n:bg (PK p.1.name (Qu data) m.files)<=8796093022208:=k.wt;have w:Qu data p.1∈PK p.1.name (Qu data) m.files:=by refine List.mem_map.2 ⟨p.1,h.mem.2 ⟨p.2,e⟩,by simp⟩
  have x:=ng w;simp only[Qu,AOU] at x;simp[IntKind.max,IntKind.bits,IntKind.signed];omega
 ·exact q n _ (h.set e (g:=Qu data) (λ_=>rfl) (by simpa [Qu] using v) o k) (o.ai λc _ f=> .inr (.inr ⟨p,e,f.symm⟩)) (λc=>rG (g:=λj=>if j.1.name=p.1.name then Qu data j.1 else j.1) c)
theorem rI {S:al}{g:aa}{b:Nat}{k:Nat->Prop}{m:Bx}{name data:A2O}{L:A2N}(j:Cm g b k m)(T:bg m.files+data.size+1<=8796093022208)
  (h: ∀B S',Cm B b S' (Dt m name data).2->Mod k g B->(∀ c,S' c->k c\/g.size<=c)->L (J6 J9 (Dt m name data).1) B):AA S P JK #[Ay b,J7 name,J7 data] g L:=by
 have l:=j.aQ.append (name:=name) (data:=data) T;obtain⟨r,n,j,s⟩:=j;refine We ?_;unfold Pv;refine kN j.head ⟨_,rfl,?_⟩;unfold Dt at h l;refine ae.intro (λhd=>?_) (λhd=>?_)
 ·rw[if_pos hd] at h;exact h g k ⟨r,n,j,s⟩ Mod.refl (λc d=> .inl d)
 rw[if_neg (by simp[hd])] at h l;refine yu ⟨_,rfl,?_⟩;refine ae.intro (λw=>?_) (λw=>?_)
 ·rw[if_pos w] at h;exact h g k ⟨r,n,j,s⟩ Mod.refl (λc d=> .inl d)
 rw[if_neg (by simp[w])] at h l;have C: ∀ {o:aa},Mod (Jv b r n) g o->Mod k g o:=λq=>q.ai λc _ d=>(s c).2 d
 refine j.iV (λD o i q=>⟨_,rfl,?_⟩) (λD o i q ag=>⟨_,rfl,?_⟩)
 ·rw[if_pos D] at h;exact ae.yes rfl (h o k ⟨r,n,i,s⟩ (C q) (λc d=> .inl d))
 rw[if_neg D] at h l;refine ae.no rfl ?_;refine aD (Ez.mk (AL i.head rfl) (QB jm Oc kL i.map ?_));rcases i.look name with⟨x,E⟩|⟨p,e,x,E,U⟩
 ·
  rw[x];refine⟨none,rfl,ah.mk λK F=>ae.yes rfl ?_⟩;refine ak.mk λai _ V M aj=>?_
  have t:=i.mod M (λ_ _ g=>g);refine aD (Ez.mk (AL t.head rfl) ?_);have W:name.size<=32:=by simp[KZ] at w;omega
  have am:=T9 (Ht m).files;have X:n.length=(Ht m).files.length:=by rw[<- i.perm.length_eq];simp
  rw[(I8 m).2.2] at X;have an:=T9 m.files;refine ALZ jm Oc t.map (by simp[maxLen];omega) (by simp[fg,maxLen];omega) λN O y ao=>?_
  rw[rH x] at O;have Y:=y.af V (by have:=i.map.lt;omega);have u:=E;rw[(I8 m).2.2] at u;have G:Su name m.files=gN ⟨name,bz,bz⟩ m.files:=by unfold Su;rw[u];rfl
  have Z:=Qz u;have ab:=uh ⟨name,bz,bz⟩ m.files;simp only[nf] at ab;have ac:En N b r (n++ [(⟨name,bz,bz⟩,o.size)]) {Ht m with files:=gN ⟨name,bz,bz⟩ m.files}:=by
   refine⟨y.af t.head t.gl.symm,?_,?_,?_,?_,?_⟩
   ·rw[fg,CH];exact O
   ·intro p e;rcases List.mem_append.1 e with e|e
    ·exact y.af (t.cells p e) (t.eN e).2
    ·simp at e;subst e;exact Y
   ·rw[CH];refine(List.perm_append_singleton _ _).trans (((i.perm.trans (List.Perm.of_eq (I8 m).2.2)).cons _).trans (NR _ _).symm)
   ·rw[CH];refine List.nodup_append.2 ⟨i.nodup,by simp,?_⟩;intro a ad c d;obtain⟨p,e,rfl⟩:=List.mem_map.1 ad;simp at d;subst d;have:=Af (i.cells p e);omega
   ·refine j.aQ.tick _ (TJ j.aQ.sorted Z) (λf H=>?_) (by omega);rcases List.mem_cons.1 ((NR _ _).subset H) with rfl|H
    ·exact W
    ·exact j.aQ.names f H
  refine F _ _ ?_;rw[G] at h l;refine ac.fC (p:=(⟨name,bz,bz⟩,o.size)) (by simp) (data:=data) l λI v z J A=>?_
  have Q: ∀c,Jv b r v c->Jv b r n c\/g.size<=c:=λc d=>by
   rcases(A c).1 d with g|g|⟨p,e,rfl⟩
   ·exact .inl (.inl g)
   ·exact .inl (.inr (.inl g))
   ·rcases List.mem_append.1 e with e|e
    ·exact .inl (.inr (.inr ⟨p,e,rfl⟩))
    ·simp at e;subst e;exact .inr (by have:=q.size;simpa using this)
  refine h I (Jv b r v) ⟨r,v,z,λ_=>Dd⟩ ?_ (λc d=>(Q c d).imp (s c).2 id);have af:Mod (Jv b r n) o N:=M.mod.trans (y.ai λc _ d=> .inr (.inl d));refine C ((q.trans af).then (J.ai λc _ d=>Q c ((A c).2 d)))
 ·
  rw[x];refine⟨some ⟨p.2,0,none⟩,rfl,ah.mk λK F=>ae.no rfl (F _ _ ?_)⟩;have u:=E;rw[(I8 m).2.2] at u;have G:Su name m.files=m.files:=by unfold Su;rw[u];rfl
  rw[G] at h l;subst U;have R:=(I8 m).2.2;refine i.fC e (data:=data) (by rw[R];exact l) λI v z J A=>?_
  refine h I k ⟨r,v,by rw[R] at z;exact z,λc=>(s c).trans (A c).symm⟩ (C (q.trans J)) (λc d=> .inl d)
theorem rJ {D:al}{e:aa}{b:Nat}{n:Nat->Prop}{m:Bx}{name:A2O}{x:A2N}(a:Cm e b n m)
  (d: ∀h',Cm h' b n (Gr m name).2->Mod n e h'->x (J6 J9 (Gr m name).1) h'):AA D P KN #[Ay b,J7 name] e x:=by
 have i:=a.aQ.sync (name:=name);obtain⟨r,o,a,j⟩:=a;refine AAW ?_;unfold Td;refine kN a.head ⟨_,rfl,?_⟩;unfold Gr at d i;have y: ∀ {k:aa},Mod (Jv b r o) e k->Mod n e k:=λl=>l.ai λc _ f=>(j c).2 f
 refine ae.intro (λhd=>?_) (λhd=>?_)
 ·rw[if_pos hd] at d;exact d e ⟨r,o,a,j⟩ Mod.refl
 rw[if_neg (by simp[hd])] at d i;refine aD (Ez.mk (AL a.head rfl) (QB jm Oc kL a.map ?_));rcases a.look name with⟨q,s⟩|⟨p,t,q,s,E⟩
 ·rw[q];rw[s] at d;exact⟨none,rfl,ae.yes rfl (d e ⟨r,o,a,j⟩ Mod.refl)⟩
 rw[q];rw[s,if_neg (by simp)] at d i;refine⟨some ⟨p.2,0,none⟩,rfl,ae.no rfl ?_⟩;refine a.iV (λu k h l=>⟨_,rfl,?_⟩) (λu k h l H=>⟨_,rfl,?_⟩)
 ·rw[if_pos u] at d;exact ae.yes rfl (d k ⟨r,o,h,j⟩ (y l))
 rw[if_neg u] at d i;refine ae.no rfl ?_;refine aD (Ez.mk (AL h.head rfl) (QB jm Oc kL h.map ?_));rw[q];refine⟨some ⟨p.2,0,none⟩,rfl,?_⟩;have f:=h.cells p t;refine aD (AJ.mk (AL f rfl) (aD (AJ.mk (AB f rfl) ⟨?_,?_⟩)))
 ·have v:=ng (Jk s).2;have:=a.aQ.wt;simp[IntKind.max,IntKind.bits,IntKind.signed];omega
 refine aD (ab.mk f (by simp) λI F z J=>aD (ab.dk F (by simp) λv G A K=>?_));subst E;have B:=(I8 m).2.2;have C:=h.set t (h':=v) (g:=RH) (λ_=>rfl) (by simpa [RH] using G) (z.trans A) (by rw[B];exact i);rw[B] at C;refine d v ⟨r,_,C,λc=>(j c).trans (rG (g:=λw=>if w.1.name=p.1.name then RH w.1 else w.1) c).symm⟩ (y (l.trans ((z.trans A).ai λc _ f=> .inr (.inr ⟨p,t,f.symm⟩))))
theorem oD {j:al}{f:aa}{b:Nat}{k:Nat->Prop}{m:Bx}{d:A2O}{h:A2N}(a:Cm f b k m)
  (c:h (J1 #[J7 (Sz m d).1,J6 J9 (Sz m d).2]) f):AA j P Ie #[Ay b,J7 d] f h:=by
 obtain⟨r,n,a,o⟩:=a;refine AAF ?_;unfold Rz;refine kN a.head ⟨_,rfl,?_⟩;unfold Sz at c;refine ae.intro (λhd=>?_) (λhd=>?_)
 ·rw[if_pos hd] at c;exact c
 rw[if_neg (by simp[hd])] at c;refine aD (Ez.mk (AL a.head rfl) (QB jm Oc kL a.map ?_));rcases a.look d with⟨g,e⟩|⟨p,l,g,e,q⟩
 ·rw[g];rw[e] at c;exact⟨none,rfl,ae.yes rfl c⟩
 rw[g];rw[e] at c;refine⟨some ⟨p.2,0,none⟩,rfl,ae.no rfl ?_⟩;have i:=a.cells p l;refine aD (AJ.mk (AL i rfl) (aD (AJ.mk (AB i rfl) ⟨?_,c⟩)));have s:=ng (Jk e).2;have:=a.aQ.wt;simp[IntKind.max,IntKind.bits,IntKind.signed];omega
theorem yy(a:A2O)(b:List (Fi×Nat)):iz a (fg b)=fg (b.filter λp=> !decide (p.1.name=a)):=by unfold iz fg;rw[P4];rfl
theorem Vh {C:al}{a:aa}{b:Nat}{i:Nat->Prop}{m:Bx}{name:A2O}{x:A2N}(d:Cm a b i m)
  (e: ∀s S',Cm s b S' (GU m name).2->Mod i a s->(∀ c,S' c->i c)->x (J6 J9 (GU m name).1) s):AA C P Gn #[Ay b,J7 name] a x:=by
 have j:=d.aQ.delete (name:=name);obtain⟨r,k,d,l⟩:=d;refine Xl ?_;unfold Pn;refine kN d.head ⟨_,rfl,?_⟩;unfold GU at e j;have y: ∀ {g:aa},Mod (Jv b r k) a g->Mod i a g:=λn=>n.ai λc _ o=>(l c).2 o
 refine ae.intro (λhd=>?_) (λhd=>?_)
 ·rw[if_pos hd] at e;exact e a i ⟨r,k,d,l⟩ Mod.refl (λ_ a=>a)
 rw[if_neg (by simp[hd])] at e j;refine aD (Ez.mk (AL d.head rfl) (QB jm Oc kL d.map ?_));rcases d.look name with⟨t,u⟩|⟨p,z,t,u,F⟩
 ·rw[t];rw[u] at e;exact⟨none,rfl,ae.yes rfl (e a i ⟨r,k,d,l⟩ Mod.refl (λ_ a=>a))⟩
 rw[t];rw[u,if_neg (by simp)] at e j;refine⟨some ⟨p.2,0,none⟩,rfl,ae.no rfl ?_⟩;refine d.iV (λv g h n=>⟨_,rfl,?_⟩) (λv g h n G=>⟨_,rfl,?_⟩)
 ·rw[if_pos v] at e;exact ae.yes rfl (e g i ⟨r,k,h,l⟩ (y n) (λ_ a=>a))
 rw[if_neg v] at e j;refine ae.no rfl ?_;refine aD (Ez.mk (AL h.head rfl) (AK5 jm Oc h.map λA B w H=>⟨rfl,?_⟩));rw[yy] at B;have I:=(I8 m).2.2;have D:En A b r (k.filter λp=> !decide (p.1.name=name)) {Ht m with files:=PI name m.files}:=by
  refine⟨w.af h.head h.gl.symm,B,λE q=>?_,?_,?_,j⟩
  ·have q:=(List.mem_filter.1 q).1;exact w.af (h.cells E q) (h.eN q).2
  ·have g:=d.perm.filter λf=> !decide (f.name=name)
   rw[P4] at g;exact g
  ·exact(List.filter_sublist.map _).nodup d.nodup
 refine e A (Jv b r _) ⟨r,_,D,λ_=>Dd⟩ (y (n.trans (w.ai λc _ o=> .inr (.inl o)))) (λc o=>(l c).2 ?_);rcases o with a|a|⟨p,z,rfl⟩
 ·exact .inl a
 ·exact .inr (.inl a)
 ·exact .inr (.inr ⟨p,(List.mem_filter.1 z).1,rfl⟩)
theorem yz {h:al}{a:aa}{e:A2N}(i: ∀b d f,Cm d b f jW->Ext a d->(∀ c,f c->a.size<=c)->e (Ay b) d):AA h P YX #[] a e:=by
 refine AJY ?_;unfold sX;refine ak.mk λj _ k l q=>ak.mk λm _ n g r=>?_
 refine i _ m (Jv j.size a.size []) ⟨_,[],⟨n,UK.empty (g.af k (by simp)),by simp,IF _,by simp,ALh⟩,λ_=>Dd⟩ (l.trans g) ?_;rintro c (rfl|rfl|⟨p,o,_⟩)
 ·omega
 ·exact A0 _
 ·cases o
end Go.Lf.G
namespace Go.Proofs
open Go.Shelf
def Tryz.cu:Go.Shelf.Ren:=⟨λ|105=>162|212=>189|99=>190|165=>191|166=>192|170=>193|169=>194|263=>227|264=>228|206=>229|240=>230|241=>231|276=>253|277=>254|a=>a,λ|9=>9|3=>3|4=>4|20=>20|0=>0|46=>158|109=>286|5=>5|72=>290|76=>247|51=>155|146=>156|53=>112|148=>319|70=>288|37=>69|75=>246|127=>321|164=>342|80=>131|a=>a,λ|a=>a⟩
theorem Tryz.cG:Go.Proofs.Lays.n105 Tryz.prog Tryz.cu:= {
 mixed:=by kernel_rfl
 f99:=Tryz.func190.trans (congrArg some (by kernel_rfl))
 f105:=Tryz.func162.trans (congrArg some (by kernel_rfl))
 f165:=Tryz.func191.trans (congrArg some (by kernel_rfl))
 f166:=Tryz.func192.trans (congrArg some (by kernel_rfl))
 f169:=Tryz.func194.trans (congrArg some (by kernel_rfl))
 f170:=Tryz.func193.trans (congrArg some (by kernel_rfl))
 f206:=Tryz.func229.trans (congrArg some (by kernel_rfl))
 f212:=Tryz.func189.trans (congrArg some (by kernel_rfl))
 f240:=Tryz.func230.trans (congrArg some (by kernel_rfl))
 f241:=Tryz.func231.trans (congrArg some (by kernel_rfl))
 f263:=Tryz.func227.trans (congrArg some (by kernel_rfl))
 f264:=Tryz.func228.trans (congrArg some (by kernel_rfl))
 f276:=Tryz.func253.trans (congrArg some (by kernel_rfl))
 f277:=Tryz.func254.trans (congrArg some (by kernel_rfl))
 t0:=Tryz.underlying0
 a0:=Tryz.isAgg0
 z0:=Tryz.sizeOf0
 v0:=Tryz.zeroValue0
 t3:=Tryz.underlying3
 a3:=Tryz.isAgg3
 z3:=Tryz.sizeOf3
 v3:=Tryz.zeroValue3
 t4:=Tryz.underlying4
 a4:=Tryz.isAgg4
 z4:=Tryz.sizeOf4
 v4:=Tryz.zeroValue4
 t5:=Tryz.underlying5
 a5:=Tryz.isAgg5
 z5:=Tryz.sizeOf5
 v5:=Tryz.zeroValue5
 t9:=Tryz.underlying9
 a9:=Tryz.isAgg9
 z9:=Tryz.sizeOf9
 v9:=Tryz.zeroValue9
 t20:=Tryz.underlying20
 a20:=Tryz.isAgg20
 z20:=Tryz.sizeOf20
 v20:=Tryz.zeroValue20
 t37:=Tryz.underlying69
 a37:=Tryz.isAgg69
 z37:=Tryz.sizeOf69
 v37:=Tryz.zeroValue69
 t46:=Tryz.underlying158
 a46:=Tryz.isAgg158
 z46:=Tryz.sizeOf158
 v46:=Tryz.zeroValue158
 t51:=Tryz.underlying155
 a51:=Tryz.isAgg155
 z51:=Tryz.sizeOf155
 v51:=Tryz.zeroValue155
 t53:=Tryz.underlying112
 a53:=Tryz.isAgg112
 z53:=Tryz.sizeOf112
 v53:=Tryz.zeroValue112
 t70:=Tryz.underlying288
 a70:=Tryz.isAgg288
 z70:=Tryz.sizeOf288
 v70:=Tryz.zeroValue288
 t72:=Tryz.underlying290
 a72:=Tryz.isAgg290
 z72:=Tryz.sizeOf290
 v72:=Tryz.zeroValue290
 t75:=Tryz.underlying246
 a75:=Tryz.isAgg246
 z75:=Tryz.sizeOf246
 v75:=Tryz.zeroValue246
 t76:=Tryz.underlying247
 a76:=Tryz.isAgg247
 z76:=Tryz.sizeOf247
 v76:=Tryz.zeroValue247
 t109:=Tryz.underlying286
 a109:=Tryz.isAgg286
 z109:=Tryz.sizeOf286
 v109:=Tryz.zeroValue286
 t127:=Tryz.underlying321
 a127:=Tryz.isAgg321
 z127:=Tryz.sizeOf321
 v127:=Tryz.zeroValue321
 t146:=Tryz.underlying156
 a146:=Tryz.isAgg156
 z146:=Tryz.sizeOf156
 v146:=Tryz.zeroValue156
 t148:=Tryz.underlying319
 a148:=Tryz.isAgg319
 z148:=Tryz.sizeOf319
 v148:=Tryz.zeroValue319
 t164:=Tryz.underlying342
 a164:=Tryz.isAgg342
 z164:=Tryz.sizeOf342
 v164:=Tryz.zeroValue342}
theorem Tryz.dH:Builder.Extra Tryz.prog Tryz.cu:= {
 sizeBuilder:=by kernel_rfl
 liesBuilder:=by kernel_rfl
 t5:=Tryz.cG.t5
 a5:=Tryz.cG.a5
 z5:=Tryz.cG.z5
 v5:=Tryz.cG.v5
 infoByte:=by kernel_rfl
 cellsByte:=by kernel_rfl
 sizeByte:=by kernel_rfl
 neB5:=by decide}
theorem Tryz.ik:Lays.n166 Tryz.prog Tryz.cu:= {Tryz.cG with}
theorem Tryz.im:Lays.n169 Tryz.prog Tryz.cu:= {Tryz.cG with}
def Tryz.eU:Go.Shelf.Ren:=⟨λ|103=>185|210=>214|206=>229|a=>a,λ|9=>9|4=>4|24=>280|3=>3|a=>a,λ|a=>a⟩
theorem Tryz.iq:Go.Proofs.Lays.n103 Tryz.prog Tryz.eU:= {
 mixed:=by kernel_rfl
 f103:=Tryz.func185.trans (congrArg some (by kernel_rfl))
 f206:=Tryz.func229.trans (congrArg some (by kernel_rfl))
 f210:=Tryz.func214.trans (congrArg some (by kernel_rfl))
 t3:=Tryz.underlying3
 a3:=Tryz.isAgg3
 z3:=Tryz.sizeOf3
 v3:=Tryz.zeroValue3
 t4:=Tryz.underlying4
 a4:=Tryz.isAgg4
 z4:=Tryz.sizeOf4
 v4:=Tryz.zeroValue4
 t9:=Tryz.underlying9
 a9:=Tryz.isAgg9
 z9:=Tryz.sizeOf9
 v9:=Tryz.zeroValue9
 t24:=Tryz.underlying280
 a24:=Tryz.isAgg280
 z24:=Tryz.sizeOf280
 v24:=Tryz.zeroValue280}
def Tryz.cH:Go.Shelf.Ren:=⟨λ|14=>186|16=>215|17=>169|19=>245|20=>246|21=>202|22=>203|23=>204|24=>205|25=>238|27=>138|26=>239|28=>164|29=>197|30=>232|31=>233|32=>234|33=>235|35=>226|34=>255|36=>256|37=>257|38=>258|39=>272|40=>273|a=>a,λ|9=>9|3=>3|22=>112|24=>246|25=>282|4=>4|34=>296|5=>5|36=>158|37=>69|0=>0|39=>299|21=>21|44=>329|47=>321|50=>355|48=>353|2=>2|52=>322|55=>324|59=>346|60=>155|20=>20|61=>347|65=>362|66=>363|67=>131|a=>a,λ|0=>0|1=>1|2=>2|3=>4|4=>5|a=>a⟩
theorem Tryz.dI:Go.Proofs.LaysPu.n14 Tryz.prog Tryz.cH:= {
 mixed:=by kernel_rfl
 f14:=Tryz.func186.trans (congrArg some (by kernel_rfl))
 f16:=Tryz.func215.trans (congrArg some (by kernel_rfl))
 f17:=Tryz.func169.trans (congrArg some (by kernel_rfl))
 f19:=Tryz.func245.trans (congrArg some (by kernel_rfl))
 f20:=Tryz.func246.trans (congrArg some (by kernel_rfl))
 f21:=Tryz.func202.trans (congrArg some (by kernel_rfl))
 f22:=Tryz.func203.trans (congrArg some (by kernel_rfl))
 f23:=Tryz.func204.trans (congrArg some (by kernel_rfl))
 f24:=Tryz.func205.trans (congrArg some (by kernel_rfl))
 f25:=Tryz.func238.trans (congrArg some (by kernel_rfl))
 f26:=Tryz.func239.trans (congrArg some (by kernel_rfl))
 f27:=Tryz.func138.trans (congrArg some (by kernel_rfl))
 f28:=Tryz.func164.trans (congrArg some (by kernel_rfl))
 f29:=Tryz.func197.trans (congrArg some (by kernel_rfl))
 f30:=Tryz.func232.trans (congrArg some (by kernel_rfl))
 f31:=Tryz.func233.trans (congrArg some (by kernel_rfl))
 f32:=Tryz.func234.trans (congrArg some (by kernel_rfl))
 f33:=Tryz.func235.trans (congrArg some (by kernel_rfl))
 f34:=Tryz.func255.trans (congrArg some (by kernel_rfl))
 f35:=Tryz.func226.trans (congrArg some (by kernel_rfl))
 f36:=Tryz.func256.trans (congrArg some (by kernel_rfl))
 f37:=Tryz.func257.trans (congrArg some (by kernel_rfl))
 f38:=Tryz.func258.trans (congrArg some (by kernel_rfl))
 f39:=Tryz.func272.trans (congrArg some (by kernel_rfl))
 f40:=Tryz.func273.trans (congrArg some (by kernel_rfl))
 t0:=Tryz.underlying0
 a0:=Tryz.isAgg0
 z0:=Tryz.sizeOf0
 v0:=Tryz.zeroValue0
 i0:=by kernel_rfl
 t2:=Tryz.underlying2
 a2:=Tryz.isAgg2
 z2:=Tryz.sizeOf2
 v2:=Tryz.zeroValue2
 i2:=by kernel_rfl
 t3:=Tryz.underlying3
 a3:=Tryz.isAgg3
 z3:=Tryz.sizeOf3
 v3:=Tryz.zeroValue3
 i3:=by kernel_rfl
 t4:=Tryz.underlying4
 a4:=Tryz.isAgg4
 z4:=Tryz.sizeOf4
 v4:=Tryz.zeroValue4
 i4:=by kernel_rfl
 t5:=Tryz.underlying5
 a5:=Tryz.isAgg5
 z5:=Tryz.sizeOf5
 v5:=Tryz.zeroValue5
 i5:=by kernel_rfl
 t9:=Tryz.underlying9
 a9:=Tryz.isAgg9
 z9:=Tryz.sizeOf9
 v9:=Tryz.zeroValue9
 i9:=by kernel_rfl
 t20:=Tryz.underlying20
 a20:=Tryz.isAgg20
 z20:=Tryz.sizeOf20
 v20:=Tryz.zeroValue20
 i20:=by kernel_rfl
 t21:=Tryz.underlying21
 a21:=Tryz.isAgg21
 z21:=Tryz.sizeOf21
 v21:=Tryz.zeroValue21
 i21:=by kernel_rfl
 t22:=Tryz.underlying112
 a22:=Tryz.isAgg112
 z22:=Tryz.sizeOf112
 v22:=Tryz.zeroValue112
 i22:=by kernel_rfl
 t24:=Tryz.underlying246
 a24:=Tryz.isAgg246
 z24:=Tryz.sizeOf246
 v24:=Tryz.zeroValue246
 i24:=by kernel_rfl
 t25:=Tryz.underlying282
 a25:=Tryz.isAgg282
 z25:=Tryz.sizeOf282
 v25:=Tryz.zeroValue282
 i25:=by kernel_rfl
 t34:=Tryz.underlying296
 a34:=Tryz.isAgg296
 z34:=Tryz.sizeOf296
 v34:=Tryz.zeroValue296
 i34:=by kernel_rfl
 c34:=by kernel_rfl
 t36:=Tryz.underlying158
 a36:=Tryz.isAgg158
 z36:=Tryz.sizeOf158
 v36:=Tryz.zeroValue158
 i36:=by kernel_rfl
 t37:=Tryz.underlying69
 a37:=Tryz.isAgg69
 z37:=Tryz.sizeOf69
 v37:=Tryz.zeroValue69
 i37:=by kernel_rfl
 t39:=Tryz.underlying299
 a39:=Tryz.isAgg299
 z39:=Tryz.sizeOf299
 v39:=Tryz.zeroValue299
 i39:=by kernel_rfl
 t44:=Tryz.underlying329
 a44:=Tryz.isAgg329
 z44:=Tryz.sizeOf329
 v44:=Tryz.zeroValue329
 i44:=by kernel_rfl
 t47:=Tryz.underlying321
 a47:=Tryz.isAgg321
 z47:=Tryz.sizeOf321
 v47:=Tryz.zeroValue321
 i47:=by kernel_rfl
 t48:=Tryz.underlying353
 a48:=Tryz.isAgg353
 z48:=Tryz.sizeOf353
 v48:=Tryz.zeroValue353
 i48:=by kernel_rfl
 t50:=Tryz.underlying355
 a50:=Tryz.isAgg355
 z50:=Tryz.sizeOf355
 v50:=Tryz.zeroValue355
 i50:=by kernel_rfl
 t52:=Tryz.underlying322
 a52:=Tryz.isAgg322
 z52:=Tryz.sizeOf322
 v52:=Tryz.zeroValue322
 i52:=by kernel_rfl
 t55:=Tryz.underlying324
 a55:=Tryz.isAgg324
 z55:=Tryz.sizeOf324
 v55:=Tryz.zeroValue324
 i55:=by kernel_rfl
 t59:=Tryz.underlying346
 a59:=Tryz.isAgg346
 z59:=Tryz.sizeOf346
 v59:=Tryz.zeroValue346
 i59:=by kernel_rfl
 t60:=Tryz.underlying155
 a60:=Tryz.isAgg155
 z60:=Tryz.sizeOf155
 v60:=Tryz.zeroValue155
 i60:=by kernel_rfl
 t61:=Tryz.underlying347
 a61:=Tryz.isAgg347
 z61:=Tryz.sizeOf347
 t65:=Tryz.underlying362
 a65:=Tryz.isAgg362
 z65:=Tryz.sizeOf362
 v65:=Tryz.zeroValue362
 i65:=by kernel_rfl
 t66:=Tryz.underlying363
 a66:=Tryz.isAgg363
 z66:=Tryz.sizeOf363
 v66:=Tryz.zeroValue363
 i66:=by kernel_rfl
 t67:=Tryz.underlying131
 a67:=Tryz.isAgg131
 z67:=Tryz.sizeOf131
 v67:=Tryz.zeroValue131
 i67:=by kernel_rfl
 g0:=by kernel_rfl
 m0:=by kernel_rfl
 g1:=by kernel_rfl
 m1:=by kernel_rfl
 g2:=by kernel_rfl
 m2:=by kernel_rfl
 g3:=by kernel_rfl
 m3:=by kernel_rfl
 g4:=by kernel_rfl
 m4:=by kernel_rfl}
def Tryz.ey:Go.Shelf.Ren:=⟨λ|171=>138|243=>164|246=>197|283=>232|284=>233|285=>234|286=>235|129=>226|317=>255|318=>256|319=>257|320=>258|337=>272|338=>273|a=>a,λ|3=>3|9=>9|2=>2|4=>4|171=>322|0=>0|53=>112|37=>69|5=>5|173=>324|212=>346|51=>155|20=>20|213=>347|46=>158|232=>362|233=>363|a=>a,λ|17=>2|18=>4|19=>5|a=>a⟩
theorem Tryz.gr:Go.Proofs.LaysM.n171 Tryz.prog Tryz.ey:= {
 mixed:=by kernel_rfl
 f129:=Tryz.func226.trans (congrArg some (by kernel_rfl))
 f171:=Tryz.func138.trans (congrArg some (by kernel_rfl))
 f243:=Tryz.func164.trans (congrArg some (by kernel_rfl))
 f246:=Tryz.func197.trans (congrArg some (by kernel_rfl))
 f283:=Tryz.func232.trans (congrArg some (by kernel_rfl))
 f284:=Tryz.func233.trans (congrArg some (by kernel_rfl))
 f285:=Tryz.func234.trans (congrArg some (by kernel_rfl))
 f286:=Tryz.func235.trans (congrArg some (by kernel_rfl))
 f317:=Tryz.func255.trans (congrArg some (by kernel_rfl))
 f318:=Tryz.func256.trans (congrArg some (by kernel_rfl))
 f319:=Tryz.func257.trans (congrArg some (by kernel_rfl))
 f320:=Tryz.func258.trans (congrArg some (by kernel_rfl))
 f337:=Tryz.func272.trans (congrArg some (by kernel_rfl))
 f338:=Tryz.func273.trans (congrArg some (by kernel_rfl))
 t0:=Tryz.underlying0
 a0:=Tryz.isAgg0
 z0:=Tryz.sizeOf0
 v0:=Tryz.zeroValue0
 t2:=Tryz.underlying2
 a2:=Tryz.isAgg2
 z2:=Tryz.sizeOf2
 v2:=Tryz.zeroValue2
 t3:=Tryz.underlying3
 a3:=Tryz.isAgg3
 z3:=Tryz.sizeOf3
 v3:=Tryz.zeroValue3
 t4:=Tryz.underlying4
 a4:=Tryz.isAgg4
 z4:=Tryz.sizeOf4
 v4:=Tryz.zeroValue4
 t5:=Tryz.underlying5
 a5:=Tryz.isAgg5
 z5:=Tryz.sizeOf5
 v5:=Tryz.zeroValue5
 t9:=Tryz.underlying9
 a9:=Tryz.isAgg9
 z9:=Tryz.sizeOf9
 v9:=Tryz.zeroValue9
 t20:=Tryz.underlying20
 a20:=Tryz.isAgg20
 z20:=Tryz.sizeOf20
 v20:=Tryz.zeroValue20
 t37:=Tryz.underlying69
 a37:=Tryz.isAgg69
 z37:=Tryz.sizeOf69
 v37:=Tryz.zeroValue69
 t46:=Tryz.underlying158
 a46:=Tryz.isAgg158
 z46:=Tryz.sizeOf158
 v46:=Tryz.zeroValue158
 t51:=Tryz.underlying155
 a51:=Tryz.isAgg155
 z51:=Tryz.sizeOf155
 v51:=Tryz.zeroValue155
 t53:=Tryz.underlying112
 a53:=Tryz.isAgg112
 z53:=Tryz.sizeOf112
 v53:=Tryz.zeroValue112
 t171:=Tryz.underlying322
 a171:=Tryz.isAgg322
 z171:=Tryz.sizeOf322
 v171:=Tryz.zeroValue322
 t173:=Tryz.underlying324
 a173:=Tryz.isAgg324
 z173:=Tryz.sizeOf324
 v173:=Tryz.zeroValue324
 t212:=Tryz.underlying346
 a212:=Tryz.isAgg346
 z212:=Tryz.sizeOf346
 v212:=Tryz.zeroValue346
 t213:=Tryz.underlying347
 a213:=Tryz.isAgg347
 z213:=Tryz.sizeOf347
 t232:=Tryz.underlying362
 a232:=Tryz.isAgg362
 z232:=Tryz.sizeOf362
 v232:=Tryz.zeroValue362
 t233:=Tryz.underlying363
 a233:=Tryz.isAgg363
 z233:=Tryz.sizeOf363
 v233:=Tryz.zeroValue363
 g17:=by kernel_rfl
 g18:=by kernel_rfl
 g19:=by kernel_rfl
 i0:=by kernel_rfl
 i2:=by kernel_rfl
 i3:=by kernel_rfl
 i4:=by kernel_rfl
 i5:=by kernel_rfl
 i9:=by kernel_rfl
 i20:=by kernel_rfl
 i37:=by kernel_rfl
 i46:=by kernel_rfl
 i51:=by kernel_rfl
 i53:=by kernel_rfl
 i171:=by kernel_rfl
 i173:=by kernel_rfl
 i212:=by kernel_rfl
 i232:=by kernel_rfl
 i233:=by kernel_rfl
 m17:=by kernel_rfl
 m18:=by kernel_rfl
 m19:=by kernel_rfl}
def Tryz.eE:Go.Shelf.Ren:=⟨λ|172=>142|244=>168|245=>169|247=>201|279=>202|280=>203|281=>204|282=>205|287=>215|316=>238|171=>138|205=>239|321=>245|322=>246|243=>164|246=>197|283=>232|284=>233|285=>234|286=>235|129=>226|317=>255|318=>256|319=>257|320=>258|337=>272|338=>273|a=>a,λ|9=>9|3=>3|75=>246|76=>247|4=>4|5=>5|167=>296|37=>69|0=>0|85=>297|2=>2|168=>299|53=>112|175=>282|46=>158|210=>329|127=>321|145=>355|143=>353|21=>21|171=>322|173=>324|212=>346|51=>155|20=>20|213=>347|232=>362|233=>363|80=>131|a=>a,λ|15=>0|16=>1|17=>2|18=>4|19=>5|a=>a⟩
theorem Tryz.gu:Go.Proofs.LaysC.n172 Tryz.prog Tryz.eE:= {
 mixed:=by kernel_rfl
 f129:=Tryz.func226.trans (congrArg some (by kernel_rfl))
 f171:=Tryz.func138.trans (congrArg some (by kernel_rfl))
 f172:=Tryz.func142.trans (congrArg some (by kernel_rfl))
 f205:=Tryz.func239.trans (congrArg some (by kernel_rfl))
 f243:=Tryz.func164.trans (congrArg some (by kernel_rfl))
 f244:=Tryz.func168.trans (congrArg some (by kernel_rfl))
 f245:=Tryz.func169.trans (congrArg some (by kernel_rfl))
 f246:=Tryz.func197.trans (congrArg some (by kernel_rfl))
 f247:=Tryz.func201.trans (congrArg some (by kernel_rfl))
 f279:=Tryz.func202.trans (congrArg some (by kernel_rfl))
 f280:=Tryz.func203.trans (congrArg some (by kernel_rfl))
 f281:=Tryz.func204.trans (congrArg some (by kernel_rfl))
 f282:=Tryz.func205.trans (congrArg some (by kernel_rfl))
 f283:=Tryz.func232.trans (congrArg some (by kernel_rfl))
 f284:=Tryz.func233.trans (congrArg some (by kernel_rfl))
 f285:=Tryz.func234.trans (congrArg some (by kernel_rfl))
 f286:=Tryz.func235.trans (congrArg some (by kernel_rfl))
 f287:=Tryz.func215.trans (congrArg some (by kernel_rfl))
 f316:=Tryz.func238.trans (congrArg some (by kernel_rfl))
 f317:=Tryz.func255.trans (congrArg some (by kernel_rfl))
 f318:=Tryz.func256.trans (congrArg some (by kernel_rfl))
 f319:=Tryz.func257.trans (congrArg some (by kernel_rfl))
 f320:=Tryz.func258.trans (congrArg some (by kernel_rfl))
 f321:=Tryz.func245.trans (congrArg some (by kernel_rfl))
 f322:=Tryz.func246.trans (congrArg some (by kernel_rfl))
 f337:=Tryz.func272.trans (congrArg some (by kernel_rfl))
 f338:=Tryz.func273.trans (congrArg some (by kernel_rfl))
 t0:=Tryz.underlying0
 a0:=Tryz.isAgg0
 z0:=Tryz.sizeOf0
 v0:=Tryz.zeroValue0
 t2:=Tryz.underlying2
 a2:=Tryz.isAgg2
 z2:=Tryz.sizeOf2
 v2:=Tryz.zeroValue2
 t3:=Tryz.underlying3
 a3:=Tryz.isAgg3
 z3:=Tryz.sizeOf3
 v3:=Tryz.zeroValue3
 t4:=Tryz.underlying4
 a4:=Tryz.isAgg4
 z4:=Tryz.sizeOf4
 v4:=Tryz.zeroValue4
 t5:=Tryz.underlying5
 a5:=Tryz.isAgg5
 z5:=Tryz.sizeOf5
 v5:=Tryz.zeroValue5
 t9:=Tryz.underlying9
 a9:=Tryz.isAgg9
 z9:=Tryz.sizeOf9
 v9:=Tryz.zeroValue9
 t20:=Tryz.underlying20
 a20:=Tryz.isAgg20
 z20:=Tryz.sizeOf20
 v20:=Tryz.zeroValue20
 t21:=Tryz.underlying21
 a21:=Tryz.isAgg21
 z21:=Tryz.sizeOf21
 v21:=Tryz.zeroValue21
 t37:=Tryz.underlying69
 a37:=Tryz.isAgg69
 z37:=Tryz.sizeOf69
 v37:=Tryz.zeroValue69
 t46:=Tryz.underlying158
 a46:=Tryz.isAgg158
 z46:=Tryz.sizeOf158
 v46:=Tryz.zeroValue158
 t51:=Tryz.underlying155
 a51:=Tryz.isAgg155
 z51:=Tryz.sizeOf155
 v51:=Tryz.zeroValue155
 t53:=Tryz.underlying112
 a53:=Tryz.isAgg112
 z53:=Tryz.sizeOf112
 v53:=Tryz.zeroValue112
 t75:=Tryz.underlying246
 a75:=Tryz.isAgg246
 z75:=Tryz.sizeOf246
 v75:=Tryz.zeroValue246
 t76:=Tryz.underlying247
 a76:=Tryz.isAgg247
 z76:=Tryz.sizeOf247
 v76:=Tryz.zeroValue247
 t85:=Tryz.underlying297
 a85:=Tryz.isAgg297
 z85:=Tryz.sizeOf297
 v85:=Tryz.zeroValue297
 t127:=Tryz.underlying321
 a127:=Tryz.isAgg321
 z127:=Tryz.sizeOf321
 v127:=Tryz.zeroValue321
 t143:=Tryz.underlying353
 a143:=Tryz.isAgg353
 z143:=Tryz.sizeOf353
 v143:=Tryz.zeroValue353
 t145:=Tryz.underlying355
 a145:=Tryz.isAgg355
 z145:=Tryz.sizeOf355
 v145:=Tryz.zeroValue355
 t167:=Tryz.underlying296
 a167:=Tryz.isAgg296
 z167:=Tryz.sizeOf296
 v167:=Tryz.zeroValue296
 t168:=Tryz.underlying299
 a168:=Tryz.isAgg299
 z168:=Tryz.sizeOf299
 v168:=Tryz.zeroValue299
 t171:=Tryz.underlying322
 a171:=Tryz.isAgg322
 z171:=Tryz.sizeOf322
 v171:=Tryz.zeroValue322
 t173:=Tryz.underlying324
 a173:=Tryz.isAgg324
 z173:=Tryz.sizeOf324
 v173:=Tryz.zeroValue324
 t175:=Tryz.underlying282
 a175:=Tryz.isAgg282
 z175:=Tryz.sizeOf282
 v175:=Tryz.zeroValue282
 t210:=Tryz.underlying329
 a210:=Tryz.isAgg329
 z210:=Tryz.sizeOf329
 v210:=Tryz.zeroValue329
 t212:=Tryz.underlying346
 a212:=Tryz.isAgg346
 z212:=Tryz.sizeOf346
 v212:=Tryz.zeroValue346
 t213:=Tryz.underlying347
 a213:=Tryz.isAgg347
 z213:=Tryz.sizeOf347
 t232:=Tryz.underlying362
 a232:=Tryz.isAgg362
 z232:=Tryz.sizeOf362
 v232:=Tryz.zeroValue362
 t233:=Tryz.underlying363
 a233:=Tryz.isAgg363
 z233:=Tryz.sizeOf363
 v233:=Tryz.zeroValue363
 g15:=by kernel_rfl
 g16:=by kernel_rfl
 g17:=by kernel_rfl
 g18:=by kernel_rfl
 g19:=by kernel_rfl
 t80:=Tryz.underlying131
 a80:=Tryz.isAgg131
 z80:=Tryz.sizeOf131
 v80:=Tryz.zeroValue131
 i0:=by kernel_rfl
 i2:=by kernel_rfl
 i3:=by kernel_rfl
 i4:=by kernel_rfl
 i5:=by kernel_rfl
 i9:=by kernel_rfl
 i20:=by kernel_rfl
 i21:=by kernel_rfl
 i37:=by kernel_rfl
 i46:=by kernel_rfl
 i51:=by kernel_rfl
 i53:=by kernel_rfl
 i75:=by kernel_rfl
 i76:=by kernel_rfl
 i80:=by kernel_rfl
 i85:=by kernel_rfl
 i127:=by kernel_rfl
 i143:=by kernel_rfl
 i145:=by kernel_rfl
 i167:=by kernel_rfl
 i168:=by kernel_rfl
 i171:=by kernel_rfl
 i173:=by kernel_rfl
 i175:=by kernel_rfl
 i210:=by kernel_rfl
 i212:=by kernel_rfl
 i232:=by kernel_rfl
 i233:=by kernel_rfl
 m15:=by kernel_rfl
 m16:=by kernel_rfl
 m17:=by kernel_rfl
 m18:=by kernel_rfl
 m19:=by kernel_rfl
 c0:=by kernel_rfl
 c2:=by kernel_rfl
 c3:=by kernel_rfl
 c4:=by kernel_rfl
 c5:=by kernel_rfl
 c9:=by kernel_rfl
 c20:=by kernel_rfl
 c21:=by kernel_rfl
 c37:=by kernel_rfl
 c46:=by kernel_rfl
 c51:=by kernel_rfl
 c53:=by kernel_rfl
 c75:=by kernel_rfl
 c76:=by kernel_rfl
 c80:=by kernel_rfl
 c85:=by kernel_rfl
 c127:=by kernel_rfl
 c143:=by kernel_rfl
 c145:=by kernel_rfl
 c167:=by kernel_rfl
 c168:=by kernel_rfl
 c171:=by kernel_rfl
 c173:=by kernel_rfl
 c175:=by kernel_rfl
 c210:=by kernel_rfl
 c212:=by kernel_rfl
 c213:=by kernel_rfl
 c232:=by kernel_rfl
 c233:=by kernel_rfl}
end Go.Proofs
namespace Go.Lf
open Go
def NY(a:Nat):List UInt8:=Lib.repeatL [48] (8-(Lib.decDigits a).length)++Lib.decDigits a
def Rs(a:Nat)(l:List UInt8):Nat:=l.foldl (λa c=>a*10+(c.toNat-48)) a
def ly(l:List UInt8):Prop:= ∀c∈l,48<=c.toNat/\c.toNat<=57
theorem na {a:Nat}(b:a<10):(UInt8.ofNat (48+a)).toNat=48+a:=by simp only[UInt8.toNat_ofNat'];omega
theorem Xu: ∀a:Nat,ly (Lib.decDigits a)/\Rs 0 (Lib.decDigits a)=a:=by
 intro a
 induction a using Nat.strongRecOn with
 |ind a g=>
  by_cases d:a<10
  ·rw[Lib.decDigits,dif_pos d];refine⟨λc b=>?_,?_⟩
   ·rw[List.mem_singleton.1 b,na d];omega
   ·simp only[Rs,HU,MT,na d];omega
  ·rw[Lib.decDigits,dif_neg d];obtain⟨h,e⟩:=g (a / 10) (by omega);have f:a % 10<10:=Cp _ (by decide);refine⟨λc b=>?_,?_⟩
   ·rcases List.mem_append.1 b with b|b
    ·exact h c b
    ·rw[List.mem_singleton.1 b,na f];omega
   ·unfold Rs at e ⊢;rw[HT,e];simp only[HU,MT,na f];omega
theorem ZF: ∀k:Nat,ly (Lib.repeatL [48] k)/\ ∀l,Rs 0 (Lib.repeatL [48] k++l)=Rs 0 l
 |0=>⟨λc a=>(by cases a),λl=>rfl⟩
 |k+1=>by
  obtain⟨b,d⟩:=ZF k;refine⟨λc a=>?_,λl=>?_⟩
  ·rcases List.mem_append.1 a with a|a
   ·rw[List.mem_singleton.1 a];decide
   ·exact b c a
  ·show Rs 0 (([48]++Lib.repeatL [48] k)++l)=_;rw[A4];exact d l
theorem pZ(a:Nat):ly (NY a)/\Rs 0 (NY a)=a:=by
 refine⟨λc b=>?_,?_⟩
 ·rcases List.mem_append.1 b with b|b
  ·exact(ZF _).1 c b
  ·exact(Xu a).1 c b
 ·exact((ZF _).2 _).trans (Xu a).2
theorem qa: ∀(l:List UInt8) (a:Nat),a<=Rs a l
 | [],a=>A0 _
 |c::l,a=>by
  have:=qa l (a*10+(c.toNat-48));have b:Rs a (c::l)=Rs (a*10+(c.toNat-48)) l:=rfl;rw[b];omega
theorem tY: ∀(l:List UInt8) (a:Nat),ly l->Rs a l<=4294967295->Lib.parseUintM 4294967295 a l= .ok (Rs a l)
 | [],a,_,_=>rfl
 |c::l,a,hd,b=>by
  have d:Rs a (c::l)=Rs (a*10+(c.toNat-48)) l:=rfl;rw[d] at b ⊢;have e:=hd c (by simp);have g:=qa l (a*10+(c.toNat-48));unfold Lib.parseUintM;rw[if_pos e,if_neg (by omega),if_neg (by omega)];exact tY l _ (λx f=>hd x (An _ f)) b
theorem tZ: ∀(l:List UInt8) (a:Nat) {u:Nat},a<=4294967295->Lib.parseUintM 4294967295 a l= .ok u->u<=4294967295
 | [],a,u,d,b=>by
  unfold Lib.parseUintM at b;injection b with b;omega
 |c::l,a,u,d,b=>by
  unfold Lib.parseUintM at b;split at b
  ·split at b
   ·cases b
   ·split at b
    ·cases b
    ·exact tZ l _ (by omega) b
  ·cases b
theorem u0 {a:Nat}(d:a<=4294967295):Lib.parseUintB 32 (NY a)= .ok a:=by
 obtain⟨e,b⟩:=pZ a;have f:NY a≠ []:=by intro g;have h:Lib.decDigits a= []:=(List.append_eq_nil_iff.1 g).2;have c:=congrArg List.length h;rw[Lib.decDigits_length] at c;have:=Lib.nDigits_pos a;simp at c;omega
 unfold Lib.parseUintB;rw[if_neg f];have:=tY (NY a) 0 e (by rw[b];exact d);rw[b] at this;exact this
theorem AOH {a b:Nat}(d:NY a=NY b):a=b:=by have c:=(pZ a).2;rw[d,(pZ b).2] at c;exact c.symm
theorem AIB {k:Nat}: ∀ {n:Nat},n<10^(k+1)->Lib.nDigits n<=k+1:=by
 induction k with
 |zero=>intro n a;rw[Lib.nDigits_small (by simpa using a)];omega
 |succ k c=>
  intro n a;by_cases b:n<10
  ·rw[Lib.nDigits_small b];omega
  ·rw[Lib.nDigits_big b];have:=c (n:=n / 10) (by rw[DS] at a;omega);omega
theorem u5 {n:Nat}(a:n<=99999999):(NY n).length=8:=by have b:=AIB (k:=7) (n:=n) (by have:(10:Nat)^(7+1)=100000000:=(by decide);omega);simp only[NY,A1,Lib.repeatL_length,Lib.decDigits_length,CN];omega
theorem AIV {a:Nat}(b:(NY a).length=8):a<=99999999:=by
 have c:Lib.nDigits a<=8:=by simp only[NY,A1,Lib.repeatL_length,Lib.decDigits_length,CN] at b;omega
 have d:=Lib.lt_pow_nDigits a;have e:(10:Nat)^Lib.nDigits a<=10^8:=RE (by decide) c;have:(10:Nat)^8=100000000:=by decide
 omega
def aC(a:A2O)(b:Nat):A2O:=a++AX (NY b)
theorem QY(a:A2O)(b:Nat):bl (aC a b)=bl a++NY b:=by show(a++AX (NY b)).data.toList=a.data.toList++NY b;rw[Kf,N4];exact congrArg _ (Ce _)
theorem IK {a:A2O}{b c:Nat}(e:aC a b=aC a c):b=c:=by have d:=congrArg bl e;rw[QY,QY] at d;exact AOH (Kp d)
theorem ANv {nm:A2O}{a:Nat}(b:a<=99999999):(aC nm a).size=nm.size+8:=by rw[aC,HW,AP,u5 b]
inductive MU:List UInt8->List (List UInt8)->Prop
 |stop {l:List UInt8} (h:(Ga l).1≠0):MU l []
 |step {l:List UInt8} {rs:List (List UInt8)} (h:(Ga l).1=0) (s:MU (Ga l).2.2 rs):MU l ((Ga l).2.1::rs)
theorem Yw {l:List UInt8}(a:(Ga l).1=0):(Ga l).2.1.length+(Ga l).2.2.length<l.length:=by
 unfold Ga at a ⊢;cases b:Lg 0 0 l with
 |none=>rw[b] at a;dsimp only at a;split at a<;>cases a
 |some p=>
  obtain⟨g,t⟩:=p;rw[b] at a;obtain⟨c,_⟩:=lE b;have h:t.length<=l.length:=by rw[c];simp
  dsimp only at a ⊢;split at a
  ·cases a
  ·rename_i d;split at a
   ·cases a
   ·rename_i e;split at a
    ·rename_i f;rw[if_neg d,if_neg e,if_pos f];simp only[AE,DE];omega
    ·cases a
theorem qc: ∀(k:Nat) (l:List UInt8),l.length<=k-> ∃a,MU l a/\(a.map (·.length+1)).sum<=l.length
 |0,l,c=>by
  have:l= []:=CC (by omega);subst this;exact⟨[],.stop (by decide),by simp⟩
 |k+1,l,c=>by
  by_cases b:(Ga l).1=0
  ·have e:=Yw b;obtain⟨a,d,f⟩:=qc k (Ga l).2.2 (by omega);exact⟨_,.step b d,by simp only[BT,GP];omega⟩
  ·exact⟨[],.stop b,by simp⟩
theorem MU.uniq {l:List UInt8}{d ts:List (List UInt8)}(a:MU l d):MU l ts->d=ts:=by
 induction a generalizing ts with
 |stop a=>
  intro c;cases c with
  |stop=>rfl
  |step b=>exact absurd b a
 |step a s e=>
  intro c;cases c with
  |stop b=>exact absurd a b
  |step b f=>rw[e f]
noncomputable def jV (l:List UInt8):List (List UInt8):=(qc l.length l (A0 _)).choose
theorem qd(l:List UInt8):MU l (jV l):=(qc l.length l (A0 _)).choose_spec.1
theorem ANo {l:List UInt8}{a:List (List UInt8)}(b:MU l a):jV l=a:=(qd l).uniq b
abbrev aH(a:List (List UInt8)):List UInt8:=a.flatMap Cj
theorem Qf {rs:List (List UInt8)}(b: ∀r∈rs,r.length<=1048576){t:List UInt8}(c:(Ga t).1≠0):MU (aH rs++t) rs:=by
 induction rs with
 |nil=>exact .stop c
 |cons r rs d=>
  have a:=vq (l:=r) (b r (by simp)) (aH rs++t);have e:aH (r::rs)++t=Cj r++(aH rs++t):=by simp
  rw[e];have:=MU.step (l:=Cj r++(aH rs++t)) (rs:=rs) (by rw[a]) (by rw[a];exact d λx f=>b x (An _ f));rw[a] at this;exact this
theorem Sk:(Ga []).1≠0:=by decide
theorem ALU {r:List UInt8}(l:r.length<=1048576){a:Nat}(m:a<(Cj r).length):(Ga ((Cj r).take a)).1≠0:=by
 have c:(Cj r).take a++(Cj r).drop a=Cj r:=DM _ _;have n:((Cj r).drop a).length≠0:=by rw[DE];omega
 generalize (Cj r).take a=p at*
 generalize (Cj r).drop a=d at*
 unfold Ga;cases e:Lg 0 0 p with
 |none=>dsimp only;split<;>simp
 |some z=>
  obtain⟨f,t⟩:=z;obtain⟨g,h⟩:=lE e;have i:Lg 0 0 (Cj r)=some (f,t++d):=by rw[<- c,g,A4];exact Tx h _
  have b:Lg 0 0 (Cj r)=some (r.length,QD (iQ r)++r):=by unfold Cj;rw[A4];exact Tx (by omega) _
  rw[i] at b;obtain⟨rfl,j⟩:=Prod.mk.inj (C2 b);have k:=congrArg List.length j;simp only[A1,KA] at k;dsimp only;rw[if_neg (by omega),if_pos (by omega)];simp
theorem I6 {r:List UInt8}(a:r.length<=1048576):r.length+5<=(Cj r).length/\(Cj r).length<=r.length+14:=by
 have b:=AV (n:=r.length) (by omega);have c:1<=(BZ r.length).length:=by rw[BZ];split<;>simp
 simp only[Cj,A1,KA];omega
end Go.Lf
namespace Go.Lf.G
open Go
def nK:String:=Proofs.YtecomiijolnjpaaGreatDoor.Rows.engineOnceRow.named.getD 2 (String.ofList [])
def cT(a:aa):Prop:= ∀(b:al) (c:Nat),Lib.TabIs P (b.at a c) nK .u64 Lib.pow10Tab
theorem cT.ext {a b:aa}(t:cT a)(x:Ext a b):cT b:=by intro c d;have e:=(Lib.tabBelow_of_tabIs (t c d)) (c.at b d) ⟨rfl,rfl,rfl,x.size,λf g=>x.get f g (λa=>a)⟩;exact e
def kg(b:aa)(g:Nat):Prop:= ∃a,ag b ⟨g,0,none⟩=some a/\(a= .nilIface\/ ∃c d,a= .iface c d)
theorem kg.ext {a b:aa}{g:Nat}(c:kg a g)(x:Ext a b):kg b g:=by obtain⟨d,e,f⟩:=c;exact⟨d,x.ag e,f⟩
structure cm (h:aa):Prop where
 cL:cT h
 rh:kg h (Proofs.Tryz.cH.g 0)
 ri:kg h (Proofs.Tryz.cH.g 1)
theorem cm.ext {b c:aa}(a:cm b)(x:Ext b c):cm c:=⟨a.cL.ext x,a.rh.ext x,a.ri.ext x⟩
theorem qC {e:al}{d:aa}{i:Nat}{a:World}(b:RowKit.Below d.size (e.at d i) a):a=e.at a.heap a.drawn/\Ext d a.heap:=by obtain⟨f,g,h,j,k⟩:=b;refine⟨?_,⟨j,λc l _=>k c l⟩⟩;cases a;simp only[al.at] at f g h ⊢;subst f g h;rfl
theorem vW {d:al}{b:aa}{e:Nat}{a:Q6}{v:J0}(c:ag b a=some v):(d.at b e).cell? a=some v:=by unfold ag at c;unfold World.cell?;exact c
theorem vX {d:al}{a:aa}{c:Int}{e:A2N}(t:cT a)(g: -9223372036854775808<=c)(h:c<=9223372036854775807)(i: ∀f,Ext a f->e (J7 ⟨(Lib.itoa c).toArray⟩) f):
  AA d P Nv #[J6 J9 c] a e:=by
 intro m;refine Calls.mono (Proofs.Any.strconv_Itoa Proofs.Tryz.gr c g h (d.at a m) (t d m)) ?_;rintro l n ⟨rfl,j,os,rfl⟩;refine⟨_,rfl,a++os,m+j,rfl,i _ ⟨by simp,λb k _=>by rw[LS k]⟩⟩
theorem ALk {b:al}{a:aa}{s:A2O}{c:Nat}{d:A2N}(g:c<=8)(h:s.size<=8)(i: ∀e,Ext a e->d (J7 (AX (Lib.repeatL (bl s) c))) e):
  AA b P Pi #[J7 s,J6 J9 c] a d:=by
 intro m;have k:s.size*c<=8*8:=Nat.mul_le_mul h g;refine Calls.mono (Proofs.Any.strings_Repeat Proofs.Tryz.cG Proofs.Tryz.dH s c (b.at a m) (by omega) (by omega)) ?_;rintro l f ⟨rfl,hB⟩;obtain⟨j,x⟩:=qC hB;exact⟨_,rfl,f.heap,f.drawn,j,i _ x⟩
theorem AFI {b:al}{a:aa}{s p:A2O}{c:A2N}(d:c (J1 #[J7 (AX (Lib.trimPrefix (bl s) (bl p))),J3 (Lib.hasPrefix (bl s) (bl p))]) a):
  AA b P MZ #[J7 s,J7 p] a c:=by
 intro m;refine Calls.mono (Proofs.Any.strings_CutPrefix Proofs.Tryz.iq s p (b.at a m)) ?_;rintro e f ⟨rfl,rfl⟩;exact⟨_,rfl,a,m,rfl,d⟩
theorem ANC {g:al}{a:aa}{s:A2O}{h:A2N}(o:cm a)(y:s.size<=8)
  (p: ∀u:Nat,Lib.parseUintB 32 (bl s)= .ok u-> ∀e,Ext a e->h (J1 #[.int .u64 u,.nilIface]) e)
  (q:(∀ u,Lib.parseUintB 32 (bl s)≠ .ok u)-> ∀e (w:Int) t v,Ext a e->h (J1 #[.int .u64 w,.iface t v]) e):
  AA g P Mj #[J7 s,J6 J9 10,J6 J9 32] a h:=by
 intro m;cases c:Lib.parseUintB 32 (bl s)
 ·rename_i u;refine Calls.mono (Proofs.Any.strconv_ParseUint_10_at32_ok Proofs.Tryz.dI s (by omega) u c (g.at a m)) ?_;rintro r d ⟨rfl,i|i⟩
  ·subst i;exact⟨_,rfl,a,m,rfl,p u c a Mod.refl⟩
  ·subst i;refine⟨_,rfl,_,_,rfl,p u c _ ?_⟩;refine⟨?_,λb z _=>?_⟩
   ·simp[Lib.bytesWorld,World.freeze,World.alloc,World.drew,al.at]
   ·simp[Lib.bytesWorld,World.freeze,World.alloc,World.drew,al.at,GO,Array.getElem?_push];rw[if_neg (by omega),if_neg (by omega)]
 ·obtain⟨j,k,l⟩:=o.rh;refine Calls.mono (Proofs.Any.strconv_ParseUint_10_at32_syntax Proofs.Tryz.dI s (by omega) c j (g.at a m) (vW k) l) ?_;rintro r d ⟨N,rfl,_,_,hB⟩;obtain⟨n,x⟩:=qC hB;exact⟨_,rfl,d.heap,d.drawn,n,q (λu f=>by rw[c] at f;cases f) _ _ _ _ x⟩
 ·obtain⟨j,k,l⟩:=o.ri;refine Calls.mono (Proofs.Any.strconv_ParseUint_10_at32_range Proofs.Tryz.dI s (by omega) c j (g.at a m) (vW k) l) ?_;rintro r d ⟨N,rfl,_,_,hB⟩;obtain⟨n,x⟩:=qC hB;exact⟨_,rfl,d.heap,d.drawn,n,q (λu f=>by rw[c] at f;cases f) _ _ _ _ x⟩
theorem XI {g:al}{c:aa}{b:A2O}{a:Nat}{d:A2N}(h:cm c)(p:a<=4294967295)(q:b.size<=1099511627776)(i: ∀e,Ext c e->d (J7 (aC b a)) e):
  AA g P Jo #[J7 b,J6 J9 a] c d:=by
 refine AGd ?_;unfold tf;refine vX h.cL (by omega) (by omega) λr j=>⟨_,rfl,?_⟩
 have k:Lib.itoa (a:Int)=Lib.decDigits a:=Lib.itoa_nonneg a;rw[k];have f:(⟨(Lib.decDigits a).toArray⟩:A2O).size=(Lib.decDigits a).length:=by simp[ByteArray.size]
 have s:(Lib.decDigits a).length<=20:=by rw[Lib.decDigits_length];exact Lib.nDigits_le20 a (by omega)
 have l:(if((J8 J9 ((8:Int)-(((⟨(Lib.decDigits a).toArray⟩:A2O).size:Nat):Int))):Int)>0 then(J8 J9 ((8:Int)-(((⟨(Lib.decDigits a).toArray⟩:A2O).size:Nat):Int))) else 0)=((8-(Lib.decDigits a).length:Nat):Int):=by rw[f,wrap_i64 (by omega) (by omega)];split<;>omega
 rw[l];refine ALk (by omega) (by decide) λm n=>⟨_,rfl,?_,?_,?_⟩
 ·have:(AX (Lib.repeatL (bl ⟨#[48]⟩) (8-(Lib.decDigits a).length))).size<=8:=by rw[AP,Lib.repeatL_length];simp[bl]
  rw[max_i64];omega
 ·have:(AX (Lib.repeatL (bl ⟨#[48]⟩) (8-(Lib.decDigits a).length))).size<=8:=by rw[AP,Lib.repeatL_length];simp[bl]
  rw[HW,max_i64,f];omega
 ·have:=i m (j.trans n);have o:aC b a=(b++AX (Lib.repeatL (bl ⟨#[48]⟩) (8-(Lib.decDigits a).length)))++⟨(Lib.decDigits a).toArray⟩:=by rw[aC,NY,<-Ak,ByteArray.append_assoc];rfl
  rw[o] at this;exact this
theorem ALG {I:al}{h:aa}{c s:A2O}{q:A2N}(C:cm h)(J:c.size<=1099511627776)(U:s.size<=1099511627776)
  (D: ∀i (k:Nat),Ext h i->(k=0-> ∀a:Nat,1<=a->a<=99999999->s≠aC c a)->(k≠0->k<=99999999/\s=aC c k)->q (J6 J9 k) i):
  AA I P Qv #[J7 c,J7 s] h q:=by
 refine ADY ?_;unfold WL;have m: ∀i,Ext h i->(∀ a:Nat,1<=a->a<=99999999->s≠aC c a)->q (J6 J9 0) i:=λi x r=>D i 0 x (λ_=>r) (λh=>absurd rfl h)
 refine AFI ⟨_,_,rfl,?_⟩;cases l:Lib.hasPrefix (bl s) (bl c) with
 |false=>
  refine ah.mk λK o=>ae.yes rfl (o _ _ (ae.yes rfl (m h Mod.refl λa _ _ g=>?_)))
  subst g;rw[QY] at l;unfold Lib.hasPrefix at l;rw[SR] at l;exact l (List.isPrefixOf_iff_prefix.2 (List.prefix_append _ _))
 |true=>
  have E:=l;unfold Lib.hasPrefix at E;obtain⟨f,hd⟩:=List.isPrefixOf_iff_prefix.1 E;have L:Lib.trimPrefix (bl s) (bl c)=f:=by unfold Lib.trimPrefix;rw[if_pos l,<-hd];simp
  rw[L];refine ah.mk λK o=>ae.no rfl ?_
  have M: ∀b:Bool,b=true->(∀ a:Nat,1<=a->a<=99999999->s≠aC c a)->K (b,()) h:=λb N r=>o _ _ (ae.yes N (m h Mod.refl r))
  have F:(AX f).size=f.length:=AP f;by_cases w:f.length=8
  ·refine o _ _ (ae.no (by simp[F,w]) ?_);have G:bl (AX f)=f:=EE f;refine ANC C (by omega) (λu j e p=>⟨_,_,rfl,?_⟩) (λj e k t v p=>⟨_,_,rfl,ah.mk λO y=>?_⟩)
   ·rw[G] at j;have Q:u<=4294967295:=by
     have:Lib.parseUintB 32 f= .ok u:=j;unfold Lib.parseUintB at this;split at this
     ·cases this
     ·exact tZ f 0 (by omega) this
    have R:J8 J9 (u:Int)=(u:Int):=wrap_i64 (by omega) (by omega);rw[R];refine ah.mk λO y=>?_
    refine⟨trivial,ae.no rfl ?_⟩;refine XI (C.ext p) Q J λz S=>⟨_,rfl,y _ _ ?_⟩
    have A:=p.trans S;refine ae.intro (λd=>?_) (λd=>?_)
    ·have d:aC c u≠s:=by
      intro g;have:bS (aC c u) s=true:=by rw[Cb];exact decide_eq_true g
      dsimp only at d;rw[this] at d;cases d
     refine m z A λa _ B g=>d ?_
     have e:bl s=bl c++NY a:=by rw[g,QY]
     rw[<- hd] at e;have n:f=NY a:=Kp e;rw[n,u0 (by omega)] at j;have:a=u:=by injection j
     rw[<- this];exact g.symm
    ·have d:aC c u=s:=by
      have d:(!bS (aC c u) s)=false:=d;have d:bS (aC c u) s=true:=by simpa using d
      rw[Cb] at d;exact of_decide_eq_true d
     have e:bl s=bl c++NY u:=by rw[<- d,QY]
     rw[<- hd] at e;have n:f=NY u:=Kp e;have T:u<=99999999:=AIV (by rw[<- n];exact w);by_cases H:u=0
     ·subst H;refine m z A λa V _ g=>?_
      have:=IK (g.symm.trans d.symm);omega
     ·exact D z u A (λh=>absurd h H) λ_=>⟨T,d.symm⟩
   ·rw[G] at j;refine⟨trivial,ae.yes rfl (y _ _ (ae.yes rfl (m e p λa _ B g=>?_)))⟩;have e:bl s=bl c++NY a:=by rw[g,QY]
    rw[<- hd] at e;have n:f=NY a:=Kp e;exact j a (by rw[n];exact u0 (by omega))
  ·refine M _ (by simp[F];omega) λa _ B g=>w ?_
   have e:bl s=bl c++NY a:=by rw[g,QY]
   rw[<- hd] at e;rw[Kp e,u5 B]
open Go Go.ChangeShapes Go.WideShapes Go.ChangeAt Go.RowKit Go.Proofs.YtecomiijolnjpaaGreatDoor
theorem tF {H:Type}{enc:Q7×J0->H}{P:Q1}(d:laidOutB P=true){e f:World}{g:Nat->Bool}: ∀ {ts:List Q7} {c:List J0} {ds:List (DataW H)} {ps:List MemPlace},
  (ts.all λt=>P.readableRec t&&decide (t<P.types.size))=true->DataW.TrodAll enc P e 0 (λ_=>true) true ts c ds ps->(∀ p∈ps,e.sameAt f p)->(∀ p∈ps,g p.block=true)->DataW.TrodAll enc P f 0 g true ts c ds ps
 | [],[],[],_,_,j,_,_=>j
 |t::ts,v::c,o::ds,_,b,⟨p,k,l,m,n⟩,h,i=>by
  simp only[MY,A3,decide_eq_true_eq] at b;subst n;exact⟨p,k,WideElems.Trod_stays d b.1.1 b.1.2 l (λx a=>h x (HE _ a)) (λx a=>i x (HE _ a)),
   tF d (by simpa using b.2) m (λx a=>h x (IS _ a)) (λx a=>i x (IS _ a)),rfl⟩
def ll(a:World):al:=⟨a.tape,a.os,a.output⟩
theorem ANJ {H:Type}{enc:Q7×J0->H}{P:Q1}{f:Func}{s:ChangeSpec}{a:World}{args:Array J0}{ds d:List (DataW H)}{j:List MemPlace}{q:Q7}{e:aa}{k:Nat}
  (l:DataW.Whole enc P f.params.toList s.vars false a args.toList ds d j) (r:s.vars= []) (y:(s.fn H (ds++d)).results= [.lit (.bool true)]) (z:(s.fn H (ds++d)).args=ds) (A:(s.fn H (ds++d)).vars= [])
  (B:laidOutB P=true) (g:(f.params.toList.all λt=>P.readableRec t&&decide (t<P.types.size))=true) (C:f.resultTypes= #[q]) (D:P.underlying q=some .bool) (x:Ext a.heap e):
  s.post enc P f false true false false a args (.bool true) ((ll a).at e k):=by
 have u:=λp (g:p∈j)=>l.lt p g
 have E: ∀p∈j,a.sameAt ((ll a).at e k) p:=λp g=>by
  have v:e[p.block]? =a.heap[p.block]? :=x.get _ (u p g) (λh=>h);cases p with
  |cell b off=>
   show ag e ⟨b,off,none⟩=ag a.heap ⟨b,off,none⟩;exact Pk v
  |map b=>exact v
 obtain⟨p,F,hA,m,rfl,L,M⟩:=id l;rw[r] at m;have G:d= []/\F= []:=by
  cases d with
  |nil=>exact⟨rfl,m⟩
  |cons _ _=>exact m.elim
 obtain⟨rfl,rfl⟩:=G;refine⟨ds,[],p++ [],[],p,[],l,?_,?_,?_,?_,λh=>by cases h⟩
 ·rw[y,C];exact⟨[],[],⟨1,by simp[DataW.trod,Value.cells,D]⟩,rfl,rfl⟩
 ·rw[z];exact tF B g hA (λn o=>E n (HE _ o)) (λn o=>by simpa using u n (HE _ o))
 ·rw[r,A];rfl
 ·refine⟨rfl,rfl,λi I=>?_⟩;have J:((ll a).at e k).heap[i]? =a.heap[i]? :=x.get i I (λh=>h);rw[J];cases N:a.heap[i]? with
  |none=>trivial
  |some K=>
   cases K with
   |cells c t fr=>exact⟨rfl,rfl,rfl,λ_ _=>rfl⟩
   |map O Q=>exact .inr ⟨rfl,rfl⟩
   |_=>rfl
theorem laid:laidOutB P=true:=by kernel_rfl
section
variable {H : Type} {enc : Q7 × J0 -> H} {w : World} {base : Nat} {spare : Nat -> Bool} {held : Bool}
end
theorem ARl:P.underlying BQ=some (.int J9):=by kernel_rfl
theorem AQO:P.underlying pQ=some .bool:=by kernel_rfl
theorem AQv:P.underlying Ar=some .string:=by kernel_rfl
theorem AR3:P.cellsOf Ar=1:=by kernel_rfl
theorem wf_i64 {a:Int}(b:(Lit.int J9 a).wf=true): -9223372036854775808<=a/\a<=9223372036854775807:=by simp[Lit.wf,IntKind.min,IntKind.max,IntKind.bits,IntKind.signed] at b;omega
section
variable {H : Type} {enc : Q7 × J0 -> H} {w : World} {base : Nat} {spare : Nat -> Bool} {held : Bool}
end
end Go.Lf.G
namespace Go.Lf
open Go
def xK(a:A2O)(i:Nat):Nat:=(lD a+i*nE a) % 4294967296
def cK(a:A2O)(m i:Nat):Nat:=xK a i % (8*m)
def Rp(f:List UInt8)(a:Nat):Bool:=((f[a / 8]?).getD 0).toNat.testBit (a % 8)
def gi(f:List UInt8)(a:Nat):List UInt8:=f.set (a / 8) (Cq (((f[a / 8]?).getD 0).toNat ||| 2^(a % 8)))
theorem AOd(f:List UInt8)(a:Nat):(gi f a).length=f.length:=by simp[gi]
theorem ub {c a:Nat}(b:c<256)(d:a<8):c ||| 2^a<256:=by have e:2^a<2^8:=Nat.pow_lt_pow_right (by decide) d;have:c ||| 2^a<2^8:=Ks (by simpa using b) e;simpa using this
theorem APV {f:List UInt8}{a:Nat}(c:a / 8<f.length)(x:Nat):Rp (gi f a) x=(Rp f x||decide (x=a)):=by
 unfold Rp gi;have d:a % 8<8:=Cp _ (by decide);by_cases b:x / 8=a / 8
 ·rw[b,HJ c,IN,Dq (ub (UInt8.toNat_lt _) d),Nat.testBit_or,Nat.testBit_two_pow];congr 1;rw[Fm,decide_eq_true_iff,decide_eq_true_iff];omega
 ·rw[Kd (by omega)];have:x≠a:=λe=>b (by rw[e])
  simp[this]
def Xj(m:Nat)(f:List UInt8)(a:A2O):List UInt8:=(List.range 4).foldl (λf i=>gi f (cK a m i)) f
theorem qg {k:A2O}{m i:Nat}(a:1<=m):cK k m i<8*m:=Cp _ (by omega)
theorem TR {k:A2O}{m:Nat}(b:1<=m): ∀(l:List Nat) (f:List UInt8),f.length=m->(l.foldl (λf i=>gi f (cK k m i)) f).length=m/\ ∀x,Rp (l.foldl (λf i=>gi f (cK k m i)) f) x=(Rp f x||l.any λi=>decide (x=cK k m i))
 | [],f,a=>⟨a,λx=>by simp⟩
 |i::l,f,a=>by
  have c:cK k m i / 8<f.length:=by have:=qg (k:=k) (i:=i) b;omega
  obtain⟨d,e⟩:=TR (k:=k) b l (gi f (cK k m i)) (by rw[AOd,a]);refine⟨d,λx=>?_⟩;rw[HU,e,APV c,List.any_cons,Bool.or_assoc]
theorem AML {k:A2O}{m:Nat}(a:1<=m){f:List UInt8}(b:f.length=m):(Xj m f k).length=m:=(TR a _ f b).1
theorem ANq {a:A2O}{m:Nat}(b:1<=m){f:List UInt8}(c:f.length=m){x:Nat}(d:Rp f x=true):Rp (Xj m f a) x=true:=by unfold Xj;rw[(TR b _ f c).2,d];rfl
theorem AMa {a:A2O}{m:Nat}(b:1<=m){f:List UInt8}(c:f.length=m){i:Nat}(d:i<4):Rp (Xj m f a) (cK a m i)=true:=by unfold Xj;rw[(TR b _ f c).2,Cl];right;rw[P2];exact⟨i,List.mem_range.2 d,by simp⟩
def MO(m:Nat):List UInt8:=List.replicate m 0
def jB(a:List A2O)(m:Nat):List UInt8:=a.foldl (Xj m) (MO m)
def nc(f:List UInt8)(a:A2O):Bool:=(List.range 4).all λi=>Rp f (cK a f.length i)
def gL(f:List UInt8)(a:A2O):Bool:=decide (f≠ [])&&decide (f.length<=8192)&&nc f a
theorem UG {m:Nat}(c:1<=m): ∀(a:List A2O) (f:List UInt8),f.length=m->(a.foldl (Xj m) f).length=m/\(∀ x,Rp f x=true->Rp (a.foldl (Xj m) f) x=true)/\ ∀k∈a,∀i,i<4->Rp (a.foldl (Xj m) f) (cK k m i)=true
 | [],f,b=>⟨b,λx d=>d,λk j=>by cases j⟩
 |k::a,f,b=>by
  have l:=AML (k:=k) c b;obtain⟨n,g,o⟩:=UG c a (Xj m f k) l;refine⟨n,λx d=>g x (ANq c b d),λp e i h=>?_⟩;rcases List.mem_cons.1 e with rfl|e
  ·exact g _ (AMa c b h)
  ·exact o p e i h
theorem ANR {b:List A2O}{m:Nat}(d:1<=m)(e:m<=8192){c:A2O}(f:c∈b):gL (jB b m) c=true:=by obtain⟨a,_,g⟩:=UG d b (MO m) (by simp[MO]);have a:(jB b m).length=m:=a;unfold gL nc;rw[a,A3,A3,decide_eq_true_iff,decide_eq_true_iff,CI];refine⟨⟨λh=>?_,e⟩,λi j=>g c f i (List.mem_range.1 j)⟩;rw[h] at a;simp at a;omega
theorem AN4 {a:List A2O}{m:Nat}(b:1<=m):(jB a m).length=m:=(UG b a (MO m) (by simp[MO])).1
theorem AMb(v:J0)(a:Nat):(madeCells #[v] a).toList=List.replicate a v:=by
 apply List.ext_getElem
 ·simp[madeCells]
 ·intro i b c;simp[madeCells,Nat.mod_one]
theorem uk {a:Type}{b:cy a}{c:a}{v:J0}(d:b.enc c= [v]): ∀n,(List.replicate n c).flatMap b.enc=List.replicate n v
 |0=>rfl
 |n+1=>by rw[List.replicate_succ,List.replicate_succ,AH,d,uk d n];rfl
theorem uo {e:al}{P:Q1}{f:Type}{E:cy f}{x0:f}{v z:J0}{t T:Q7}{g:Nat}(p:P.underlying t=some (.slice T))(c:(P.info? T).map (λi=>(i.zero,i.size,i.bytes))=some (some z,1,g))
  (q:z.cells= #[v]) (h:E.w=1) (r:E.enc x0= [v]) {a:aa} {n:Nat} {j k:IntKind} (A:n*g<=140737488355328) (l:n<=maxLen) {K:Sl->aa->Prop}
  (u: ∀b,Own E T b ⟨some ⟨a.size,0,none⟩,n,n⟩ (List.replicate n x0)->Ext a b->b.size=a.size+1->K ⟨some ⟨a.size,0,none⟩,n,n⟩ b):
  BF e P (Instr.makeSlice t (.int j (n:Int)) (.int k (n:Int))) a λv b=> ∃s:Sl,v= .slice s.p s.len s.cap/\K s b:=by
 intro m;cases d:P.info? T with
 |none=>rw[d] at c;simp at c
 |some i=>
  rw[d] at c;simp only[IT,C5,N2] at c;obtain⟨w,x,y⟩:=c;have hB:((i.bytes:Nat):Int)*((n:Nat):Int)<=281474976710656:=by rw[y,<-Int.natCast_mul,CT];omega
  have o:=run_make (P:=P) (e.at a m) t T i z p d w j k (n:Int) (n:Int) (by omega) (GS _) hB (by simp only[maxLen] at l;omega);simp only[A6,x,Bk,q] at o;refine⟨_,a.push (.cells (madeCells #[v] n) T),m,o,⟨some ⟨a.size,0,none⟩,n,n⟩,rfl,u _ ⟨by simp,.inr ⟨a.size,madeCells #[v] n,rfl,by simp,A0 _,l,by simp[size_madeCells,h],?_⟩⟩ (Mod.push a _) (by simp)⟩;show(madeCells #[v] n).toList.take (n*E.w)=_;rw[AMb,h,Bk,AG (by simp),uk r]
theorem uq {m:Nat}(a:m<=8192):J8 .u32 (J8 J9 ((8:Int)*((m:Nat):Int)))=((8*m:Nat):Int):=by rw[show(8:Int)*((m:Nat):Int)=((8*m:Nat):Int) by omega,F5 (by omega),wrap_u32,Ax (by omega)]
theorem ARP(a:A2O)(i:Nat):xK a i<4294967296:=Cp _ (by decide)
theorem ur(a:A2O)(i:Nat):J8 .u32 (((xK a i:Nat):Int)+((nE a:Nat):Int))=((xK a (i+1):Nat):Int):=by rw[<- Int.natCast_add,wrap_u32];congr 1;unfold xK;rw[Nat.mod_add_mod,BE,No,Ge]
theorem uu(a:A2O):xK a 0=lD a:=by unfold xK;rw[HL,G4,Ax (uZ a)]
theorem uv(x m:Nat):((x:Nat):Int).tmod ((m:Nat):Int)=((x % m:Nat):Int):=(Int.ofNat_tmod x m).symm
theorem uw(x:Nat):((x:Nat):Int).tdiv (8:Int)=((x / 8:Nat):Int):=(Int.ofNat_tdiv x 8).symm
theorem ux(x:Nat):((x:Nat):Int).tmod (8:Int)=((x % 8:Nat):Int):=(Int.ofNat_tmod x 8).symm
theorem uy(x:Nat):min (((x % 8:Nat):Int).toNat) (IntKind.bits .u8)=x % 8:=by rw[A6];show min (x % 8) 8=_;omega
theorem AOt {c a:Nat}(d:c<256):(GG .u8 (((c:Nat):Int).fdiv ((2:Int)^a)) (1:Int)==(0:Int))= !(c.testBit a):=by have e:c / 2^a<256:=RM (RR _ _) d;rw[Pj,show(1:Int)=((1:Nat):Int) from rfl,vB e (by decide),Nat.and_one_is_mod,Nat.testBit_eq_decide_div_mod_eq];generalize c / 2^a=f;rcases RC f with b|b<;>rw[b]<;>rfl
theorem AQm {c a:Nat}(d:c<256)(e:a<8):dY .u8 ((c:Nat):Int) (J8 .u8 ((1:Int)*((2:Int)^a)))=((c ||| 2^a:Nat):Int):=by
 have b:2^a<256:=by have:2^a<2^8:=Nat.pow_lt_pow_right (by decide) e;simpa using this
 have f:(1:Int)*((2:Int)^a)=((2^a:Nat):Int):=by rw[Int.one_mul,Int.natCast_pow];rfl
 rw[f,wrap_u8,Ax b,vA d b]
end Go.Lf
namespace Go.Lf.G
open Go
theorem ALg {a:A2O}{i:Nat}(b:i<a.size): ∃c,a.data.toList[i]? =some c:=by
 have:i<a.data.toList.length:=by simpa using b
 exact⟨_,A2 this⟩
theorem qG {o:al}{d:aa}{key:A2O}{h:A2N}(r:key.size<=1099511627776)(p:h (.tuple #[.int .u32 (lD key:Int),.int .u32 (nE key:Int)]) d):AA o P KS #[.string key] d h:=by
 refine ADT ?_;unfold Xk;refine Loop.rule (λm x j=> ∃i:Nat,x=(((TG (key.data.toList.take i)).1:Int),((TG (key.data.toList.take i)).2:Int),(i:Int),())/\j=d/\m=key.size-i/\i<=key.size) ?_ ⟨0,rfl,rfl,rfl,by omega⟩;rintro K m _ j ⟨i,rfl,e,rfl,s⟩ q;subst e;obtain⟨k,f⟩:=uY (key.data.toList.take i);refine ae.intro (λg=>?_) (λg=>?_)
 ·have a:i<key.size:=by simpa using g
  obtain⟨c,l⟩:=ALg a;have n:c.toNat<256:=c.toNat_lt;refine⟨⟨by dsimp only;omega,by dsimp only;omega⟩,⟨by dsimp only;omega,by dsimp only;omega⟩,?_⟩;dsimp only;rw[Oh l,Ot k n,ARh f n,Aa (by omega)];refine q (key.size-(i+1)) _ _ (by omega) ⟨i+1,?_,rfl,rfl,a⟩;rw[AD,l,DG,uX]
 ·have a:i=key.size:=by simp at g;omega
  have e:key.data.toList.take i=key.data.toList:=AG (by simp[a]);dsimp only;rw[e] at k f ⊢;have:dY .u32 (((TG key.data.toList).2:Nat):Int) (1:Int)=((nE key:Nat):Int):=AQL f (b:=1) (by decide);rw[this];exact p
theorem Vz {f:A2O}:bS f (⟨#[]⟩:A2O)=decide (bl f= []):=by
 rw[Fm,Cb];constructor
 ·intro a;have a:=of_decide_eq_true a;subst a;rfl
 ·intro a;have a:=of_decide_eq_true a;cases f with
  |mk b=>
   have:b= #[]:=by apply Array.toList_inj.1;exact a
   rw[this];rfl
theorem AQJ {f:A2O}{i:Nat}{c:UInt8}(a:(bl f)[i]? =some c):f.data.toList[i]? =some c:=a
theorem wk {u:al}{l:aa}{f key:A2O}{q:A2N}(v:key.size<=1099511627776)(a:q (.bool (gL (bl f) key)) l):AA u P Om #[.string f,.string key] l q:=by
 refine AFE ?_;unfold ZK;refine ah.mk λK r=>?_
 have g:=BA f;refine ae.intro (λe=>?_) (λe=>?_)
 ·refine r _ _ (ae.yes rfl ?_);rw[Vz,decide_eq_true_iff] at e;rw[e] at a;exact a
 ·refine r _ _ ?_;rw[Vz,decide_eq_false_iff_not] at e;refine ae.intro (λn=>?_) (λn=>?_)
  ·have h: ¬(bl f).length<=8192:=by simp at n;omega
   have:gL (bl f) key=false:=by unfold gL;rw[decide_eq_false h,Ln,Gk]
   rw[this] at a;exact a
  ·have h:f.size<=8192:=by simp at n;omega
   have w:1<=f.size:=by rw[<- g];exact List.length_pos_iff.2 e
   refine qG v ⟨_,_,rfl,?_⟩;refine Loop.rule (λm x s=> ∃i:Nat,x=(((xK key i:Nat):Int),(i:Int),())/\s=l/\m=4-i/\i<=4/\ ∀b,b<i->Rp (bl f) (cK key f.size b)=true) ?_ ⟨0,by rw[uu];rfl,rfl,rfl,by omega,λb o=>by omega⟩;rintro E m _ s ⟨i,rfl,y,rfl,F,t⟩ z;subst y;dsimp only;refine ae.intro (λp=>?_) (λp=>?_)
   ·have j:i<4:=by simp at p;omega
    have G:cK key f.size i<8*f.size:=qg w;have H:=ARP key i;rw[uq h,uv];have A:xK key i % (8*f.size)=cK key f.size i:=rfl;rw[A,uw,ux,uy,wrap_u32,Ax (show cK key f.size i / 8<4294967296 by omega)];have B:cK key f.size i / 8<(bl f).length:=by rw[g];omega
    have k:(bl f)[cK key f.size i / 8]? =some (bl f)[cK key f.size i / 8]:=A2 B;obtain⟨c,k⟩: ∃c,(bl f)[cK key f.size i / 8]? =some c:=⟨_,k⟩;rw[Oh (AQJ k),AOt c.toNat_lt];have C:Rp (bl f) (cK key f.size i)=c.toNat.testBit (cK key f.size i % 8):=by unfold Rp;rw[k];rfl
    refine⟨by omega,⟨by omega,by omega⟩,by omega,?_⟩;rw[<- C];refine ae.intro (λd=>?_) (λd=>?_)
    ·have d:Rp (bl f) (cK key f.size i)=false:=by simpa using d
     have:gL (bl f) key=false:=by
      unfold gL nc;rw[g];have:((List.range 4).all λi=>Rp (bl f) (cK key f.size i))=false:=by rw[List.all_eq_false];exact⟨i,List.mem_range.2 j,by simp[d]⟩
      simp[this]
     rw[this] at a;exact a
    ·have d:Rp (bl f) (cK key f.size i)=true:=by simpa using d
     rw[ur,Aa (by omega)];refine z (4-(i+1)) _ _ (by omega) ⟨i+1,rfl,rfl,rfl,j,λb o=>?_⟩;by_cases D:b=i
     ·subst D;exact d
     ·exact t b (by omega)
   ·have j:i=4:=by simp at p;omega
    have:gL (bl f) key=true:=by unfold gL nc;rw[g,A3,A3,decide_eq_true_iff,decide_eq_true_iff,CI];exact⟨⟨e,h⟩,λb o=>t b (by rw[j];exact List.mem_range.1 o)⟩
    rw[this] at a;exact a
theorem wm:(P.info? Co).map (λi=>(i.zero,i.size,i.bytes))=some (some (.int .u8 0),1,1):=by kernel_rfl
theorem UE:P.underlying BU=some (.slice Co):=by kernel_rfl
theorem wo:P.underlying Co=some (.int .u8):=by kernel_rfl
theorem wq:P.underlying Ar=some .string:=by kernel_rfl
theorem AOe {Q:al}{e:aa}{s:Sl}{ks:List A2O}{m:Nat}{G:A2N}(y:View IB e s ks)(R: ∀d∈ks,d.size<=1099511627776)(z:1<=m)(S:m<=8192)(ar:ks.length<=1099511627776)(g: ∀b,s.af=some b->b<e.size)
  (T: ∀H,Ext e H->G (.tuple #[.string (AX (jB ks m)),.int J9 0]) H):AA Q P NJ #[.slice s.p s.len s.cap,.int J9 (m:Int)] e G:=by
 refine ADK ?_;unfold XT;refine ah.mk λK U=>?_
 refine ae.no (by simp;omega) ?_;refine U _ _ (ae.no (by simp;omega) ?_);refine uo (E:=Gs) (x0:=0) (v:= .int .u8 0) UE wm rfl rfl rfl (by omega) (by simp only[maxLen];omega) λI J t au=>?_
 have V:List.replicate m (0:UInt8)=MO m:=rfl;rw[V] at J;dsimp only;refine Loop.rule (λk x n=> ∃i:Nat,x=((i:Int),())/\k=ks.length-i/\i<=ks.length/\Mod (λc=>c=e.size) I n/\Own Gs Co n ⟨some ⟨e.size,0,none⟩,m,m⟩ ((ks.take i).foldl (Xj m) (MO m))) ?_ ⟨0,rfl,rfl,by omega,Mod.refl,J⟩;rintro av k _ n ⟨i,rfl,rfl,aw,u,o⟩ W;have X:View IB n s ks:=(y.ext t).mod u λb Y=>by have:=g b Y;omega
 dsimp only;refine ae.intro (λp=>?_) (λp=>?_)
 ·have q:i<ks.length:=by rw[y.len] at p;simp at p;omega
  have A:ks[i]? =some ks[i]:=A2 q;refine X.idx A λa ax h=>?_
  refine AJ.mk h.str ?_;refine qG (R _ (AW q)) ⟨_,_,rfl,?_⟩;have L:ks.take (i+1)=ks.take i++ [ks[i]]:=by rw[AD,A];rfl
  generalize ks[i]=d at A L;have M:((ks.take i).foldl (Xj m) (MO m)).length=m:=(UG z (ks.take i) (MO m) (by simp[MO])).1;generalize Z:(ks.take i).foldl (Xj m) (MO m)=w at o M;refine Loop.rule (λk x B=> ∃j:Nat,x=(((xK d j:Nat):Int),(j:Int),())/\k=4-j/\j<=4/\Mod (λc=>c=e.size) I B/\Own Gs Co B ⟨some ⟨e.size,0,none⟩,m,m⟩ ((List.range j).foldl (λf i=>gi f (cK d m i)) w)) ?_ ⟨0,by rw[uu];rfl,rfl,by omega,u,o⟩;rintro ay k _ B ⟨j,rfl,rfl,az,N,r⟩ ab;dsimp only;refine ae.intro (λC=>?_) (λC=>?_)
  ·have D:j<4:=by simp at C;omega
   have aA:cK d m j<8*m:=qg z;have ac:xK d j % (8*m)=cK d m j:=rfl;rw[uq S,uv,ac,uw,ux,uy,wrap_u32,Ax (show cK d m j / 8<4294967296 by omega)];have ad:((List.range j).foldl (λf i=>gi f (cK d m i)) w).length=m:=(TR z _ w M).1;generalize af:(List.range j).foldl (λf i=>gi f (cK d m i)) w=F at r ad;have ag:F[cK d m j / 8]? =some F[cK d m j / 8]:=A2 (by omega);obtain⟨c,h⟩: ∃c,F[cK d m j / 8]? =some c:=⟨_,ag⟩;refine⟨by omega,?_⟩;refine r.view.idx h λaC aD ai=>?_
   rw[A6];refine AC.mk ai.byte ⟨by omega,?_⟩;refine r.view.idx h λO aj aE=>?_
   have ak:=AQm c.toNat_lt (show cK d m j % 8<8 by omega);rw[ak];have am:=ub c.toNat_lt (show cK d m j % 8<8 by omega);rw[ur,Aa (by omega),<-add_zero (O.add (cK d m j / 8*1))];refine Own.store (E:=Gs) (i:=cK d m j / 8) (j:=0) (x:=c) (x':=Cq (c.toNat ||| 2^(cK d m j % 8))) (v:= .int .u8 ((c.toNat ||| 2^(cK d m j % 8):Nat):Int)) r h (by show [Value.int .u8 _]=_;rw[Dq am];rfl) (by decide) (λaF an ao aG=>?_) O aj;refine ab (4-(j+1)) _ _ (by omega) ⟨j+1,rfl,rfl,D,N.trans (ao.ai λb _ g=>?_),?_⟩
   ·simp[Sl.af] at g;exact g.symm
   ·rw[N5,HT,af,HU,MT];unfold gi;rw[h];exact an
  ·have D:j=4:=by simp at C;omega
   subst D;rw[Aa (by omega)];refine W (ks.length-(i+1)) _ _ (by omega) ⟨i+1,rfl,rfl,q,N,?_⟩;rw[L,HT,Z];exact r
 ·have q:i=ks.length:=by rw[y.len] at p;simp at p;omega
  have ap:ks.take i=ks:=by rw[q];simp
  rw[ap] at o;have aq:((ks.foldl (Xj m) (MO m)))=jB ks m:=rfl;rw[aq] at o;refine Jy UE wo wq (s:=⟨some ⟨e.size,0,none⟩,m,m⟩) (l:=jB ks m) o.view ⟨_,rfl,?_⟩;exact T n ⟨by have:=t.size;have:=u.size;omega,λb g _=>(u.get b (by have:=t.size;omega) (by omega)).trans (t.get b g (by simp))⟩
end Go.Lf.G
namespace Go.Lf
open Go
structure Kj (p:Pr):Prop where
 key:p.key.size≠0
 bH:p.key.size<=64
 cp:p.val.size<=8192
 gone:p.gone=true->p.val.size=0
def IM(p:Pr):Nat:=if p.gone then 0 else p.val.size+1
def IP(p:Pr):List UInt8:=BR (bl p.key)++(BZ (IM p)++bl p.val)
abbrev BL(l:List Pr):List UInt8:=l.flatMap IP
theorem Sa {s:A2O}(a:s.size=0):bl s= []:=CC (by rw[BA];exact a)
theorem u7 {p:Pr}(a:Kj p)(t:List UInt8):FK ⟨IP p++t,false⟩=(bl p.key,⟨BZ (IM p)++bl p.val++t,false⟩):=by
 have c:=a.bH;have b:IP p++t=BR (bl p.key)++(BZ (IM p)++bl p.val++t):=by simp[IP,A4]
 rw[b];exact JD (by rw[BA];omega) _
theorem Xy {p:Pr}(a:Kj p):IM p<=8193:=by have:=a.cp;unfold IM;split<;>omega
theorem u9 {p:Pr}(a:Kj p)(t:List UInt8):Bw 8193 ⟨BZ (IM p)++bl p.val++t,false⟩=(IM p,⟨bl p.val++t,false⟩):=by rw[A4];have:=Xy a;exact Ci (by omega) this _
theorem ua {p:Pr}(a:Kj p)(t:List UInt8):Jr (IM p-1) ⟨bl p.val++t,false⟩=(bl p.val,⟨t,false⟩):=by
 have b:IM p-1=(bl p.val).length:=by
  rw[BA];unfold IM;split
  ·rename_i c;rw[a.gone c]
  ·omega
 rw[b];exact vu _ _
theorem PY {p:Pr}(a:Kj p):1<=(IP p).length/\(IP p).length<=p.key.size+p.val.size+20:=by have b:=a.bH;have c:=a.cp;have d:=AV (n:=(bl p.key).length) (by rw[BA];omega);have e:=Xy a;have f:=AV (n:=IM p) (by omega);have g:=a.key;have h:=BA p.key;have i:=BA p.val;simp only[IP,BR,A1];omega
end Go.Lf
namespace Go.Lf.G
open Go
theorem HZ:PO P AQ AR Ba.w 40=true:=by kernel_rfl
theorem APZ {d:al}{a:aa}{b:Nat}{r:Rd}{c:A2N}(e:Ib a b r)(f:c (J3 r.bad) a):AA d P KH #[Ay b] a c:=by refine VQ ?_;unfold Ox;refine ae.no rfl (aD ?_);exact Ab.mk (AB e rfl) f
theorem UI {A:al}{h:aa}{s:A2O}{R:A2N}(b:s.size<=1099511627776)(c: ∀a,Ext h a->R (J7 (AX (BR (bl s)))) a):AA A P CE #[J7 s] h R:=by have:=QG (A:=A) (h:=h) (l:=bl s) (R:=R) (by rw[BA];exact b) c;rwa [Da] at this
theorem wu {a:Nat}(b:a<=1099511627776):J8 .u64 ((J8 .u64 (a:Int))+(1:Int))=((a+1:Nat):Int):=by rw[Bz (by omega),show((a:Int)+1)=((a+1:Nat):Int) by omega,Bz (by omega)]
theorem Yr {s:A2O}(a:s.size=0):s=⟨#[]⟩:=by have:=Da s;rw[<- this,show s.data.toList= [] from Sa a];rfl
theorem Ah {a c:aa}{b:Nat}{d:Array J0}{T:Q7}(x:Ext a c)(e:a[b]? =some (J2 d T (0,0))):c[b]? =some (J2 d T (0,0)):=x.af e (λa=>a)
theorem AMw {l:al}{e:aa}{x:Pr}{f:A2N}(h:Kj x)(m: ∀o,Ext e o->f (J7 (AX (IP x))) o):AA l P NA #[x.agg] e f:=by
 obtain⟨a,v,g⟩:=x;have r:=h.bH;have s:=h.cp;have p:=h.gone;dsimp only at r s p;show AA l P NA #[.agg #[J7 a,J7 v,J3 g]] e f;refine ADH ?_;unfold WC;refine ak.mk λz _ b q A=>?_
 refine Ab.mk (AB b rfl) ?_;have B:=AV (n:=(bl a).length) (by rw[BA];omega);have C:=BA a;have D:=BA v;refine ae.intro (λi=>?_) (λi=>?_)
 ·subst i;refine AJ.mk (AL b rfl) ?_;refine UI (by omega) λt c=>⟨_,rfl,?_⟩
  refine CS (n:=0) (by omega) λu d=>⟨_,rfl,?_⟩
  have w:=AV (n:=0) (by omega);refine⟨by rw[AP,AP,max_i64];simp only[BR,A1];omega,?_⟩;rw[Ak];have j:IP ⟨a,v,true⟩=BR (bl a)++BZ 0:=by unfold IP IM;rw[Sa (p rfl)];simp
  rw[<- j];exact m _ ((q.trans c).trans d)
 ·subst i;refine AJ.mk (AL b rfl) ?_;refine UI (by omega) λt c=>⟨_,rfl,?_⟩
  have k:=Ah c b;refine AJ.mk (AB k rfl) ⟨AB b rfl,?_⟩;rw[wu (by omega)];refine CS (by omega) λu d=>⟨_,rfl,?_⟩
  have y:=Ah d k;have w:=AV (n:=v.size+1) (by omega);refine⟨by rw[AP,AP,max_i64];simp only[BR,A1];omega,?_⟩;refine AJ.mk (AB y rfl) ⟨AB k rfl,AB b rfl,?_,?_⟩
  ·rw[Ak,AP,max_i64];simp only[BR,A1];omega
  ·rw[Ak];have j:AX (BR (bl a)++BZ (v.size+1))++v=AX (IP ⟨a,v,false⟩):=by
    have:v=AX (bl v):=(Da v).symm
    conv=>lhs;arg 2;rw[this]
    rw[Ak];unfold IP IM;simp[A4]
   rw[j];exact m _ ((q.trans c).trans d)
theorem wv {s:A2O}(a:s.size≠0):bS s (⟨#[]⟩:A2O)=false:=by rw[Vz,decide_eq_false_iff_not];intro b;have:=BA s;rw[b] at this;exact a this.symm
theorem wx {a:Nat}(b:a<=100000):(if((J8 J9 (((a:Nat):Int)-(1:Int))):Int)>0 then(J8 J9 (((a:Nat):Int)-(1:Int))) else 0)=((a-1:Nat):Int):=by rw[wrap_i64 (by omega) (by omega)];split<;>omega
theorem X0 {l:List Pr}(a: ∀x∈l,Kj x):l.length<=(BL l).length:=by
 induction l with
 |nil=>simp
 |cons x l b=>
  have:=(PY (a x AN)).1;have:=b λc d=>a c (An _ d)
  simp only[BL,AH,A1,A5] at this ⊢;omega
theorem qH {ag:al}{c:aa}{l:List Pr}{I:A2N}(J: ∀x∈l,Kj x)(aN:(BL l).length<1099511627776)
  (ai: ∀s z,Own Ba AR z s l->Ext c z->(∀ b,s.af=some b->c.size<=b)->I (J1 #[J4 s.p s.len s.cap,J3 true]) z):AA ag P JZ #[J7 (AX (BL l))] c I:=by
 refine AB6 ?_;unfold Uq;refine KP λaO aj am=>⟨_,rfl,?_⟩
 have aP:=X0 J;refine Loop.rule (λm x f=> ∃(i:Nat) (s:Sl),x=(s,())/\m=l.length-i/\i<=l.length/\Ib f c.size ⟨BL (l.drop i),false⟩/\Ext c f/\Own Ba AR f s (l.take i)/\ ∀b,s.af=some b->c.size<=b) ?_ ⟨0,⟨none,0,0⟩,rfl,rfl,by omega,aj,am,Own.nil,λb a=>by simp[Sl.af] at a⟩;rintro K m _ f ⟨i,s,rfl,rfl,aQ,rd,t,p,A⟩ an;dsimp only;refine Mt rd ⟨_,rfl,?_⟩;by_cases g:i<l.length
 ·have L:l[i]? =some l[i]:=A2 g;have M:l[i]∈l:=AW g;have hd:l.drop i=l[i]::l.drop (i+1):=Fo g;have N:l.take (i+1)=l.take i++ [l[i]]:=by rw[AD,L];rfl
  generalize l[i]=x at L M hd N;have h:=J x M;have O:BL (l.drop i)=IP x++BL (l.drop (i+1)):=by rw[hd];rfl
  have Q:(IP x++BL (l.drop (i+1))).length<1099511627776:=by
   have e:BL l=BL (l.take i)++BL (l.drop i):=by rw[<- GB,DM]
   have:=congrArg List.length e;rw[O,A1] at this;omega
  have aR:=PY h;rw[O] at rd ⊢;refine ae.yes ?_ ?_
  ·unfold XV;have:(IP x++BL (l.drop (i+1)))≠ []:=by intro e;have:=congrArg List.length e;simp only[A1,Ft] at this;omega
   simp only[P0,Fk,CA,List.isEmpty_eq_false_iff];exact this
  ·refine Hy rd Q λd u B=>⟨_,rfl,?_⟩
   rw[u7 h] at u ⊢;dsimp only at u ⊢;rw[Da];refine ak.mk λao _ ap R aS=>?_
   refine ab.mk ap (by simp) λaT aq S aU=>?_
   rw[Bb,Bb];refine ab.mk aq (by simp) λaV ar T aW=>?_
   refine ab.mk ar (by simp) λau av U aX=>?_
   have aY:c.size<d.size:=by have:=Af u;exact this
   have j:c.size≠d.size:=by omega
   have aw:Ib au c.size ⟨BZ (IM x)++bl x.val++BL (l.drop (i+1)),false⟩:=U.af (T.af (S.af (R.af u (λc=>c)) j) j) j;have ax:(BZ (IM x)++bl x.val++BL (l.drop (i+1))).length<=1099511627776:=by simp only[IP,A1] at Q ⊢;omega
   refine DR (most:=8193) aw ax (by decide) λC v V=>⟨_,rfl,?_⟩
   rw[u9 h] at v ⊢;dsimp only at v ⊢;have W:C[d.size]? =some (J2 #[J7 x.key,J7 ⟨#[]⟩,J3 false] AR (0,0)):=V.af (by simpa using av) (Ne.symm j);refine ah.mk λay az=>?_
   have aZ:=Xy h;have key: ∀q,Ib q c.size ⟨bl x.val++BL (l.drop (i+1)),false⟩->q[d.size]? =some (J2 #[J7 x.key,J7 ⟨#[]⟩,J3 x.gone] AR (0,0))->Mod (λb=>b=c.size\/b=d.size) d q->ay () q:=by
    intro q aA aC aD;refine az () q ?_;rw[wx (by omega)];refine qw aA λa0 D X=>⟨_,rfl,?_⟩
    rw[ua h] at D ⊢;dsimp only at D ⊢;rw[Da];have aE:=X.af aC (Ne.symm j);refine ab.mk aE (by simp) λr k Y a1=>?_
    have F:Ib r c.size ⟨BL (l.drop (i+1)),false⟩:=Y.af D j;have k:r[d.size]? =some (J2 #[J7 x.key,J7 x.val,J3 x.gone] AR (0,0)):=by simpa using k
    refine ah.mk λa2 aF=>?_
    refine APZ F ⟨_,rfl,?_⟩;refine ae.no rfl ?_;refine AJ.mk (AL k rfl) ?_;refine ae.no (wv h.key) ?_;refine AJ.mk (AL k rfl) ?_;have a3:=h.bH;refine aF _ _ (ae.no (by simp;omega) ?_);refine AJ.mk (AL k rfl) ?_;refine AJ.mk (AL k rfl) ?_;refine Ab.mk (AL k rfl) ?_;have w:Mod (λb=>b=c.size\/b=d.size) f r:=by
     have G:Mod (λb=>b=c.size\/b=d.size) f d:=B.ai λb _ a=> .inl a
     exact((G.trans aD).trans (X.ai λb _ a=> .inl a)).trans (Y.ai λb _ a=> .inr a)
    have Z: ∀b,s.af=some b-> ¬(b=c.size\/b=d.size):=by
     intro b a;have a4:=p.lt a;have aG:=B.size;rintro(rfl|rfl)
     ·exact p.ne rd (by decide) a
     ·omega
    refine ak.aZ (E:=Ba) (x:=x) rfl HZ (p.mod w Z) ?_ ?_ λaH a5 ac H aI a6=>?_
    ·rw[AE];omega
    ·simp only[maxLen];rw[AE];omega
    ·rw[<- N] at ac;have y:Ext c r:=by refine⟨by have:=t.size;have:=w.size;omega,λb a _=>?_⟩;have aG:=B.size;have:=t.size;exact(w.get b (by omega) (by omega)).trans (t.get b a (λc=>c))
     refine an (l.length-(i+1)) _ _ (by omega) ⟨i+1,aH,rfl,rfl,g,?_,?_,ac,?_⟩
     ·refine H.af F λe=>?_
      have:Own Ba AR r s (l.take i):=p.mod w Z;exact this.ne F (by decide) e
     ·refine⟨by have:=y.size;have:=H.size;omega,λb a _=>?_⟩;have:=y.size;exact(H.get b (by omega) (λe=>by have:=A b e;omega)).trans (y.get b a (λc=>c))
     ·intro b a;rcases aI b a with e|e
      ·exact A b e
      ·have:=y.size;omega
   have ad:Mod (λb=>b=c.size\/b=d.size) d C:=by have G:Mod (λb=>b=c.size\/b=d.size) d ao:=R.mod;exact(((G.trans (S.ai λb _ a=> .inr a)).trans (T.ai λb _ a=> .inr a)).trans (U.ai λb _ a=> .inr a)).trans (V.ai λb _ a=> .inl a)
   refine ae.intro (λn=>?_) (λn=>?_)
   ·have o:x.gone=true:=by
     unfold IM at n;split at n
     ·rename_i o;exact o
     ·simp at n;omega
    refine ab.mk W (by simp) λaJ aK af a7=>?_
    refine key aJ (af.af v j) (by rw[o];simpa using aK) (ad.trans (af.ai λb _ a=> .inr a))
   ·have o:x.gone=false:=by
     cases o:x.gone with
     |false=>rfl
     |true=>unfold IM at n;rw[o] at n;simp at n
    exact key C v (by rw[o];exact W) ad
 ·have g:i=l.length:=by omega
  have aL:l.drop i= []:=by rw[g];simp
  have aM:l.take i=l:=by rw[g];simp
  rw[aL];rw[aM] at p;exact ae.no rfl (ai s f p t A)
def BN(a:Nat)(l:List Pr):List UInt8:=BZ a++BZ l.length++BL l
theorem Kw {l:List Pr}(b: ∀x∈l,Kj x):(BL l).length<=l.length*8276:=by
 induction l with
 |nil=>simp
 |cons x l c=>
  have a:=b x AN;have f:=(PY a).2;have g:=a.bH;have h:=a.cp;have:=c λd e=>b d (An _ e)
  simp only[BL,AH,A1,A5] at this ⊢;omega
theorem APg {l:List Pr}(a: ∀x∈l,Kj x)(i:Nat): ∀x∈l.take i,Kj x:=λx b=>a x (DO b)
theorem ANW {D:al}{f:aa}{s:Sl}{l:List Pr}{c:Nat}{t:A2N}(Z:c<=99999999)(ab:l.length<=64)(u: ∀x∈l,Kj x)(v:View Ba f s l)(ac: ∀b,s.af=some b->b<f.size)
  (E: ∀d,Ext f d->t (J7 (AX (BN c l))) d):AA D P R5 #[J6 J9 (c:Int),J4 s.p s.len s.cap] f t:=by
 refine AFq ?_;unfold ZM;rw[Bz (by omega)];refine CS (by omega) λad F=>⟨_,rfl,?_⟩
 rw[v.len,Bz (by omega)];refine CS (by omega) λaf G=>⟨_,rfl,?_⟩
 have ag:=AV (n:=c) (by omega);have ai:=AV (n:=l.length) (by omega);refine⟨by rw[AP,AP,max_i64];omega,?_⟩;rw[Ak];refine Loop.rule (λm x o=> ∃i:Nat,x=(AX (BZ c++BZ l.length++BL (l.take i)),(i:Int),())/\m=l.length-i/\i<=l.length/\Ext f o) ?_ ⟨0,by simp,rfl,by omega,F.trans G⟩;rintro K m _ o ⟨i,rfl,rfl,aj,p⟩ H;dsimp only;refine ae.intro (λq=>?_) (λq=>?_)
 ·have e:i<l.length:=by simp at q;omega
  have r:l[i]? =some l[i]:=A2 e;have w:l.take (i+1)=l.take i++ [l[i]]:=by rw[AD,r];rfl
  have h:=u _ (AW e);generalize l[i]=x at r w h;have am:=h.bH;have an:=h.cp;have I:=h.gone;have lt:=Kw (APg u i);rw[AE] at lt;have ao:=AV (n:=(bl x.key).length) (by rw[BA];omega);have ap:=BA x.key;have aq:=BA x.val;refine ah.mk λJ L=>?_
  obtain⟨a,M,N⟩:=(v.ext p).cells i x r;refine bC.mk M e ?_;obtain⟨O,Q,R⟩:=N.pair;rw[A6];refine AJ.mk O (AJ.mk Q (Ab.mk R ?_));refine ak.pair λb ar au y S av=>?_
  refine AJ.mk (AL y rfl) ?_;refine UI (by omega) λT z=>⟨_,rfl,⟨by rw[AP,AP,max_i64];simp only[BR,A1];omega,?_⟩⟩
  have j:=Ah z y;refine Ab.mk (AB j rfl) ?_;rw[Ak];have A: ∀d,Ext T d->J (AX (BZ c++BZ l.length++BL (l.take (i+1))),()) d:=by intro d U;refine L _ _ ?_;dsimp only;rw[Aa (by omega)];exact H (l.length-(i+1)) _ _ (by omega) ⟨i+1,rfl,rfl,e,((p.trans S).trans z).trans U⟩
  have B:BL (l.take (i+1))=BL (l.take i)++IP x:=by rw[w];simp[BL]
  refine ae.intro (λk=>?_) (λk=>?_)
  ·refine CS (n:=0) (by omega) λV W=>⟨_,rfl,?_⟩
   have X:=AV (n:=0) (by omega);refine⟨by rw[AP,AP,max_i64];simp only[BR,A1];omega,?_⟩;rw[Ak];have g:IP x=BR (bl x.key)++BZ 0:=by unfold IP IM;rw[k,Sa (I k)];simp
   have:=A V W;rw[B,g] at this;simpa only[A4] using this
  ·refine AJ.mk (AB j rfl) ?_;rw[wu (by omega)];refine CS (by omega) λY C=>⟨_,rfl,?_⟩
   have X:=AV (n:=x.val.size+1) (by omega);refine AJ.mk (AB (Ah C j) rfl) ⟨AB j rfl,?_,?_,?_⟩
   ·rw[AP,max_i64];omega
   ·have aw:x.val=AX (bl x.val):=(Da _).symm;rw[HW,AP,AP,max_i64];simp only[BR,A1];omega
   ·have g:AX (BZ (x.val.size+1))++x.val=AX (BZ (IM x)++bl x.val):=by
     conv=>lhs;arg 2;rw[(Da x.val).symm]
     rw[Ak];unfold IM;rw[k];rfl
    rw[g,Ak];have:=A Y C;rw[B] at this;unfold IP at this;simpa only[A4] using this
 ·have e:i=l.length:=by simp at q;omega
  have g:l.take i=l:=by rw[e];simp
  rw[g];exact E o p
theorem AIi {ah:al}{c:aa}{l:List Pr}{o:Nat}{I:A2N}(aM:o<=99999999)(aN:l.length<=64)(J: ∀x∈l,Kj x)
  (ai: ∀s y,Own Ba AR y s l->Ext c y->(∀ b,s.af=some b->c.size<=b)->I (J1 #[J6 J9 (o:Int),J4 s.p s.len s.cap,J3 true]) y):AA ah P PL #[J7 (AX (BN o l))] c I:=by
 refine AC1 ?_;unfold VG;have aO:=AV (n:=o) (by omega);have aP:=AV (n:=l.length) (by omega);have aQ:=Kw J;refine KP λaR L z=>⟨_,rfl,?_⟩
 have A:BN o l=BZ o++(BZ l.length++BL l):=by simp[BN,A4]
 rw[A] at L;refine DR (most:=99999999) L (by simp only[A1];omega) (by decide) λd e g=>⟨_,rfl,?_⟩
 rw[Ci (by omega) (by omega)] at e ⊢;dsimp only at e ⊢;refine DR (most:=64) e (by simp only[A1];omega) (by decide) λaj B M=>⟨_,rfl,?_⟩
 rw[Ci (by omega) (by omega)] at B ⊢;dsimp only at B ⊢;have am:Ext c aj:=by refine⟨by have:=z.size;have:=g.size;have:=M.size;omega,λb a _=>?_⟩;have:=z.size;have:=g.size;exact((M.get b (by omega) (by omega)).trans (g.get b (by omega) (by omega))).trans (z.get b a (λc=>c))
 refine Loop.rule (λm x h=> ∃(i:Nat) (s:Sl),x=(s,(i:Int),())/\m=l.length-i/\i<=l.length/\Ib h c.size ⟨BL (l.drop i),false⟩/\Ext c h/\Own Ba AR h s (l.take i)/\ ∀b,s.af=some b->c.size<=b) ?_ ⟨0,⟨none,0,0⟩,rfl,rfl,by omega,B,am,Own.nil,λb a=>by simp[Sl.af] at a⟩;rintro K m _ h ⟨i,s,rfl,rfl,aS,rd,t,p,C⟩ an;dsimp only;refine ae.intro (λD=>?_) (λD=>?_)
 ·have j:i<l.length:=by simp at D;omega
  have N:l[i]? =some l[i]:=A2 j;have O:l[i]∈l:=AW j;have hd:l.drop i=l[i]::l.drop (i+1):=Fo j;have Q:l.take (i+1)=l.take i++ [l[i]]:=by rw[AD,N];rfl
  generalize l[i]=x at N O hd Q;have u:=J x O;have R:BL (l.drop i)=IP x++BL (l.drop (i+1)):=by rw[hd];rfl
  have S:(IP x++BL (l.drop (i+1))).length<1099511627776:=by
   have f:BL l=BL (l.take i)++BL (l.drop i):=by rw[<- GB,DM]
   have:=congrArg List.length f;rw[R,A1] at this;omega
  rw[R] at rd;refine Hy rd S λd e g=>⟨_,rfl,?_⟩
  rw[u7 u] at e ⊢;dsimp only at e ⊢;rw[Da];refine ak.mk λao _ ap T aT=>?_
  refine ab.mk ap (by simp) λaU aq U aV=>?_
  rw[Bb,Bb];refine ab.mk aq (by simp) λaW ar V aX=>?_
  refine ab.mk ar (by simp) λau av W aY=>?_
  have aZ:c.size<d.size:=by have:=Af e;exact this
  have k:c.size≠d.size:=by omega
  have aw:Ib au c.size ⟨BZ (IM x)++bl x.val++BL (l.drop (i+1)),false⟩:=W.af (V.af (U.af (T.af e (λc=>c)) k) k) k;have ax:(BZ (IM x)++bl x.val++BL (l.drop (i+1))).length<=1099511627776:=by simp only[IP,A1] at S ⊢;omega
  refine DR (most:=8193) aw ax (by decide) λay F X=>⟨_,rfl,?_⟩
  rw[u9 u] at F ⊢;dsimp only at F ⊢;have az:ay[d.size]? =some (J2 #[J7 x.key,J7 ⟨#[]⟩,J3 false] AR (0,0)):=X.af (by simpa using av) (Ne.symm k);have a0:=Xy u;have aA:(((IM x:Nat):Int)==(0:Int))=x.gone:=by
   unfold IM;cases x.gone
   ·simp;omega
   ·simp
  rw[aA];refine ab.mk az (by simp) λaC aD Y a1=>?_
  rw[wx (by omega)];have aE:Ib aC c.size ⟨bl x.val++BL (l.drop (i+1)),false⟩:=Y.af F k;refine qw aE λa2 G Z=>⟨_,rfl,?_⟩
  rw[ua u] at G ⊢;dsimp only at G ⊢;rw[Da];have aF:=Z.af aD (Ne.symm k);refine ab.mk aF (by simp) λq r ac a3=>?_
  have ad:Ib q c.size ⟨BL (l.drop (i+1)),false⟩:=ac.af G k;have r:q[d.size]? =some (J2 #[J7 x.key,J7 x.val,J3 x.gone] AR (0,0)):=by simpa using r
  refine AJ.mk (AL r rfl) ?_;refine AJ.mk (AL r rfl) ?_;refine Ab.mk (AL r rfl) ?_;have v:Mod (λb=>b=c.size\/b=d.size) h q:=by
   have aG:Mod (λb=>b=c.size\/b=d.size) h d:=g.ai λb _ a=> .inl a
   have aH:Mod (λb=>b=c.size\/b=d.size) d ao:=T.mod;exact((((((((aG.trans aH).trans (U.ai λb _ a=> .inr a)).trans (V.ai λb _ a=> .inr a)).trans (W.ai λb _ a=> .inr a)).trans (X.ai λb _ a=> .inl a)).trans (Y.ai λb _ a=> .inr a)).trans (Z.ai λb _ a=> .inl a))).trans (ac.ai λb _ a=> .inr a)
  have af: ∀b,s.af=some b-> ¬(b=c.size\/b=d.size):=by
   intro b a;have a4:=p.lt a;have aI:=g.size;rintro(rfl|rfl)
   ·exact p.ne rd (by decide) a
   ·omega
  refine ak.aZ (E:=Ba) (x:=x) rfl HZ (p.mod v af) ?_ ?_ λaJ a5 ag H aK a6=>?_
  ·rw[AE];omega
  ·simp only[maxLen];rw[AE];omega
  ·rw[<- Q] at ag;have w:Ext c q:=by refine⟨by have:=t.size;have:=v.size;omega,λb a _=>?_⟩;have aI:=g.size;have:=t.size;exact(v.get b (by omega) (by omega)).trans (t.get b a (λc=>c))
   rw[Aa (by omega)];refine an (l.length-(i+1)) _ _ (by omega) ⟨i+1,aJ,rfl,rfl,j,?_,?_,ag,?_⟩
   ·refine H.af ad λf=>?_
    have:Own Ba AR q s (l.take i):=p.mod v af;exact this.ne ad (by decide) f
   ·refine⟨by have:=w.size;have:=H.size;omega,λb a _=>?_⟩;have:=w.size;exact(H.get b (by omega) (λf=>by have:=C b f;omega)).trans (w.get b a (λc=>c))
   ·intro b a;rcases aK b a with f|f
    ·exact C b f
    ·have:=w.size;omega
 ·have j:i=l.length:=by simp at D;omega
  have A:l.drop i= []:=by rw[j];simp
  have aL:l.take i=l:=by rw[j];simp
  rw[A] at rd;rw[aL] at p;refine Mt rd ⟨_,rfl,?_⟩;exact ai s h p t C
end Go.Lf.G
namespace Go.Lf
open Go
def CB(l:List Pr)(i:Nat):List Pr:=(l.drop (8*i)).take 8
def Bo(l:List Pr):Nat:=(l.length+7) / 8
def KE(l:List Pr):List (List Pr):=(List.range (Bo l)).map (CB l)
def IY(l:List Pr)(i:Nat):A2O:=match l[i]? with|some p=>p.key|none=>⟨#[]⟩
def CK(l:List Pr):List A2O:=(List.range (Bo l)).map λi=>IY l (8*i)
def UX(l:List Pr)(f:List UInt8):List UInt8:=BZ (Bo l)++((CK l).flatMap λa=>BR (bl a))++(BZ l.length++BR f)
def aR(l:List Pr)(f:List UInt8):List (List UInt8):=(KE l).map BL++ [UX l f]
theorem Pq {l:List Pr}{i:Nat}(a:i<Bo l):1<=(CB l i).length/\(CB l i).length<=8/\(i+1<Bo l->(CB l i).length=8):=by
 unfold CB Bo at*
 rw[AE,DE];omega
theorem PW {l:List Pr}{i j:Nat}(a:j<8):(CB l i)[j]? =l[8*i+j]? :=by unfold CB;rw[Fl,if_pos a,Bm]
theorem uc {l:List Pr}: ∀i,l.take (8*i)++CB l i=l.take (8*(i+1)):=λi=>by
 unfold CB;rw[show 8*(i+1)=8*i+8 by omega,List.take_add]
theorem ud(l:List Pr): ∀n,((List.range n).map (CB l)).flatten=l.take (8*n)
 |0=>by simp
 |n+1=>by rw[N5,CH,N6,ud l n];simpa using uc n
theorem ALT(l:List Pr):(KE l).flatten=l:=by unfold KE;rw[ud,AG];unfold Bo;omega
theorem Gd(l:List Pr):(KE l).length=Bo l:=by simp[KE]
theorem Gv(l:List Pr):(CK l).length=Bo l:=by simp[CK]
theorem ue {l:List Pr}(a:l≠ []):1<=Bo l:=by have:=List.length_pos_iff.2 a;unfold Bo;omega
structure gM (s:List UInt8) (l:List Pr) (f:List UInt8):Prop where
 bytes:s=aH (aR l f)
 ne:l≠ []
 ok: ∀p∈l,Kj p
 inc:l.Pairwise λp q=>aN p.key q.key=true
 jb:1<=f.length/\f.length<=8192
 has: ∀p∈l,gL f p.key=true
 many:l.length<=100000
theorem X0 {l:List Pr}(a: ∀p∈l,Kj p):(BL l).length<=l.length*8276:=by
 induction l with
 |nil=>simp
 |cons p l b=>
  have f:=(PY (a p (by simp))).2;have c:=b λd e=>a d (An _ e)
  have g:=(a p (by simp)).bH;have h:=(a p (by simp)).cp;simp only[BL,AH,A1,A5] at c ⊢;omega
theorem Ow {l:List Pr}{i:Nat}{p:Pr}(a:p∈CB l i):p∈l:=HQ (DO a)
theorem Ws {s:List UInt8}{l:List Pr}{f:List UInt8}(T:gM s l f):(UX l f).length<=1048576:=by
 have r:=T.many;have t:=T.jb.2;have u:=AV (n:=Bo l) (by unfold Bo;omega);have v:=AV (n:=l.length) (by omega);have w:=AV (n:=f.length) (by omega);have c: ∀a∈CK l,a.size<=64:=λa c=>by
  obtain⟨i,_,rfl⟩:=List.mem_map.1 c;unfold IY;split
  ·rename_i p e;exact(T.ok p (AK e)).bH
  ·exact As _
 have g: ∀b:List A2O,(∀ a∈b,a.size<=64)->(b.flatMap λa=>BR (bl a)).length<=b.length*65:=by
  intro b
  induction b with
  |nil=>intro _;simp
  |cons a b h=>
   intro d;have j:=h λx k=>d x (An _ k)
   have y:=d a (by simp);have m:(BZ a.size).length=1:=by rw[FR (by omega)];rfl
   have o:(BR (bl a)).length=1+a.size:=by simp only[BR,A1,BA,m]
   simp only[AH,A1,A5,o] at j ⊢;omega
 have q:=g (CK l) c;rw[Gv] at q;have z:Bo l<=12501:=by unfold Bo;omega
 have A:(BR f).length=(BZ f.length).length+f.length:=by simp[BR]
 simp only[UX,A1];omega
theorem Mr {s:List UInt8}{l:List Pr}{f:List UInt8}(T:gM s l f): ∀r∈aR l f,r.length<=1048576:=λr a=>by
 rcases List.mem_append.1 a with a|a
 ·obtain⟨b,c,rfl⟩:=List.mem_map.1 a;obtain⟨i,d,rfl⟩:=List.mem_map.1 c;have h:=X0 (l:=CB l i) λp e=>T.ok p (Ow e)
  have g:=(Pq (List.mem_range.1 d)).2.1;have:(CB l i).length*8276<=8*8276:=AS _ g;omega
 ·rw[List.mem_singleton.1 a];exact Ws T
def uf(s:Sl):J0:=J4 s.p s.len s.cap
def qh(x:Sl):iy [.one .sl]:=(x,())
def uz(j:al)(P:Q1)(fv:J0)(m:Nat->Prop)(n:aa)(l:List Sl):Prop:=
 ∃f e,fv= .func (.func f) #[] e/\(∀ a,(callFunc f (#[]++ #[a]++e)).calc P=some (.enter f (#[]++ #[a]++e)))/\
  ∀(k:aa) (a:J0) (c:Nat->Bool->aa->Prop),LA a=true->(∀ i g d,c i g d-> ∀b,m b->d[b]? =n[b]?)->
   (∀ i x d,l[i]? =some x->c i true d->EH j P a #[uf x] d λv h=> ∃g,v=J3 g/\c (i+1) g h)->c 0 true k->
   AA j P f (#[]++ #[a]++e) k λv h=>v=J1 #[]/\ ∃i g,c i g h/\(g=true->i=l.length)/\i<=l.length
theorem ARD {o:al}{P:Q1}{fv:J0}{p:Nat->Prop}{q c:aa}{l:List Sl}(z:uz o P fv p q l)
  (Inv:Nat->aa->Prop) {body:iy [.one .sl]->Nat->aa->(aa->Prop)->(Option Nat->aa->Prop)->Prop} {r:aa->Prop} {A:Option Nat->aa->Prop}
  (B: ∀i a,Inv i a-> ∀b,p b->a[b]? =q[b]?)
  (s: ∀i a C,Inv i a->a[c.size]? =some (.deferred (some []))->(∃ D,a[c.size+1]? =some (.loop D))->Inv i (a.setIfInBounds (c.size+1) (.loop C)))
  (E: ∀rec,Inv 0 ((c.push (.deferred (some []))).push (.loop rec)))
  (round: ∀i x a rec t F,l[i]? =some x->Inv i a->a[c.size]? =some (.deferred (some []))->a[c.size+1]? =some (.loop rec)->rec.state= .ready->
   (∀ d,Inv (i+1) d->d[c.size]? =some (.deferred (some []))->d[c.size+1]? =some (.loop {rec with state:= .busy})->t d)->body (qh x) (c.size+1) a t F)
  (G: ∀d,Inv l.length d->d[c.size]? =some (.deferred (some []))->r d):Vg o P fv [.one .sl] body c r A:=by
 intro rec h k S H;obtain⟨f,u,rfl,I,J⟩:=z;refine⟨f,_,?_,AA.mono (J ((c.push (.deferred (some []))).push (.loop rec)) (.func (.yield (c.size+1)) #[] #[])
  (λi g a=>Inv i a/\g=true/\a[c.size]? =some (.deferred (some []))/\a[c.size+1]? =some (.loop rec)) rfl (λi g a K=>B i a K.1) ?_ ?_) ?_⟩
 ·have L:(do let w <-Deferred.ofValue (.func (.func f) #[] u) #[.func (.yield (c.size+1)) #[] #[]];invoke w.target w.args:Sem Next).calc P=(callFunc f (#[]++ #[.func (.yield (c.size+1)) #[] #[]]++u)).calc P:=rfl;unfold RO;rw[L,I]
 ·rintro i x a M ⟨m,_,j,e⟩;refine H (qh x) a _ e (round i x a rec _ _ M m j e h ?_);intro d N y n;have O:c.size+1<d.size:=Af n;refine⟨_,n,true,rfl,s _ _ _ N y ⟨_,n⟩,rfl,?_,?_⟩
  ·rw[DP (by omega)];exact y
  ·rw[CR O];cases rec;simp at h k;simp[h,k]
 ·refine⟨E rec,rfl,?_,?_⟩
  ·rw[PC (by simp)];simp
  ·have Q:c.size+1=(c.push (.deferred (some []))).size:=by simp
   rw[Q];exact PF
 ·rintro v T ⟨_,i,g,⟨m,rfl,j,e⟩,R,U⟩;refine⟨rec,e,by simp[h],.inl ⟨k,G _ ?_ ?_⟩⟩
  ·have:=R rfl;subst this;exact s _ _ _ m j ⟨_,e⟩
  ·rw[DP (by omega)];exact j
end Go.Lf
namespace Go.Lf.G
open Go
def U8(a:aa)(c:Nat):Prop:= ∃b d,a[c]? =some (J2 b Co d)
def fK(a:Nat)(c:aa)(b:Nat)(l:List UInt8):Prop:= ∀(d:al) (e:Nat),Lib.IsBuilderF EC Co a b (Lib.byteCells l) (d.at c e)
theorem wy {A:al}{n a b:Nat}{c:aa}{l:List UInt8}(d:Lib.IsBuilderF EC Co a b (Lib.byteCells l) (A.at c n)):fK a c b l:=λ_ _=>d
theorem Ub {g:al}{a:aa}{j e b:Nat}{d:World}(hB:e<=a.size)(n:RowKit.Below e (g.at a j) d)(o:Lib.OthersKept Co (some b) (g.at a j) d):
  d=g.at d.heap d.drawn/\Mod (λc=>c=b\/(e<=c/\U8 a c)) a d.heap:=by
 obtain⟨f,k,l,p,q⟩:=n;refine⟨?_,⟨p,λc r m=>?_⟩⟩
 ·cases d;simp only[al.at] at f k l ⊢;subst f k l;rfl
 ·by_cases s:c<e
  ·exact q c s
  ·have h:a[c]? =some a[c]:=CD r;have f:=o c a[c] h (by intro i;exact m (.inl (C2 i))) (λt u i=>m (.inr ⟨by omega,t,u,by rw[h,i]⟩));rw[f];exact h.symm
theorem fK.mod {a b:Nat}{e f:aa}{l:List UInt8}{h:Nat->Prop}(t:fK a e b l)(m:Mod h e f)(u: ¬h b)(w: ∀c,a<=c->U8 e c-> ¬h c):fK a f b l:=by
 intro i j;have n: ∀p,Lib.BuilderAtF EC Co a b p (Lib.byteCells l) (i.at e j)->Lib.BuilderAtF EC Co a b p (Lib.byteCells l) (i.at f j):=by
  rintro p ⟨d,v,x,⟨y,k⟩,z⟩;refine⟨d,v,m.af x u,⟨y,?_⟩,z⟩;rcases k with k|⟨g,A,o,q,B,r,s,rest⟩
  ·exact .inl k
  ·exact .inr ⟨g,A,o,q,B,r,m.af s (w g r ⟨o,q,s⟩),rest⟩
 rcases t i j with d|d
 ·exact .inl (n _ d)
 ·exact .inr (n _ d)
theorem fK.ext {c b:Nat}{a d:aa}{l:List UInt8}(e:fK c a b l)(m:Ext a d):fK c d b l:=e.mod m (λa=>a) (λ_ _ _ a=>a)
theorem AOg {a b:Nat}{c:aa}(d:c[b]? =some (J2 #[J5 none,J4 none 0 0] EC (0,0)))(hB:a<=b):fK a c b []:=by intro e f;exact .inl ⟨hB,_,d,⟨rfl,.inl ⟨rfl,rfl⟩⟩,by simp[Value.ownBlock]⟩
theorem TV {A:al}{a:aa}{d b:Nat}{l:List UInt8}{s:A2O}{g:A2N}(j:fK d a b l)(hB:d<=a.size)(q:l.length+s.size<=1099511627776)
  (k: ∀e,fK d e b (l++bl s)->Mod (λc=>c=b\/(d<=c/\U8 a c)) a e->g (J1 #[J6 J9 s.size,.nilIface]) e):AA A P De #[Ay b,J7 s] a g:=by
 intro n;refine Calls.mono (Proofs.Any.Builder_WriteString_k Proofs.Tryz.ik Proofs.Tryz.dH d b (Lib.byteCells l) s (A.at a n) (j A n) (by rw[Lib.byteCells_length];omega) hB) ?_;rintro r f ⟨rfl,h,o,p⟩;obtain⟨i,m⟩:=Ub hB o p;refine⟨_,rfl,f.heap,f.drawn,i,k _ ?_ m⟩;rw[Lib.strCells_eq,<-Lib.byteCells_append,i] at h;exact wy (A:=A) (n:=f.drawn) (.inr h)
theorem AIO {A:al}{a:aa}{d b:Nat}{l:List UInt8}{g:A2N}(j:fK d a b l)(hB:d<=a.size)
  (k: ∀e,fK d e b l->Mod (λc=>c=b\/(d<=c/\U8 a c)) a e->g (J7 (AX l)) e):AA A P F9 #[Ay b] a g:=by
 intro n;refine Calls.mono (Proofs.Any.Builder_String_any_k Proofs.Tryz.im Proofs.Tryz.dH d b l (A.at a n) (j A n) hB) ?_;rintro q f ⟨rfl,h,o,p⟩;obtain⟨i,m⟩:=Ub hB o p;refine⟨_,rfl,f.heap,f.drawn,i,k _ ?_ m⟩;rw[i] at h;exact wy (A:=A) (n:=f.drawn) h
def PD(s:Sl)(i:Nat):Sl:=⟨A7 s.p (min (8*i+8) s.len) (8*i) 3,min (8*i+8) s.len-8*i,min (8*i+8) s.len-8*i⟩
def chunks(s:Sl):List Sl:=(List.range ((s.len+7) / 8)).map (PD s)
theorem QR(s:Sl):(chunks s).length=(s.len+7) / 8:=by simp[chunks]
theorem wz {s:Sl}{i:Nat}(a:i<(s.len+7) / 8):(chunks s)[i]? =some (PD s i):=by simp[chunks,a]
theorem View.chunk {d:aa}{s:Sl}{l:List Pr}(v:View Ba d s l){i:Nat}(e:i<Bo l):View Ba d (PD s i) (CB l i):=by
 have f:=v.len;unfold Bo at e;refine⟨?_,A0 _,λb x c=>?_⟩
 ·show min (8*i+8) s.len-8*i=(CB l i).length;unfold CB;rw[AE,DE,f];omega
 ·have g:b<8:=by have:=(List.getElem?_eq_some_iff.1 c).1;unfold CB at this;rw[AE] at this;omega
  rw[PW g] at c;obtain⟨a,h,j⟩:=v.cells _ _ c;have m:=(List.getElem?_eq_some_iff.1 c).1;refine⟨a.add (8*i*3),?_,?_⟩
  ·unfold PD A7;simp only[h];rw[if_neg (by omega)];rfl
  ·rw[add_add];have k:8*i*3+b*Ba.w=(8*i+b)*Ba.w:=by show 8*i*3+b*3=(8*i+b)*3;omega
   rw[k];exact j
theorem AL3 {a i:Nat}(b:a<=1099511627776)(c:8*i<a):J8 J9 (((8*i:Nat):Int)+(if((((a-((8*i:Nat):Int).toNat):Nat):Int):Int)<(8:Int) then(((a-((8*i:Nat):Int).toNat):Nat):Int) else(8:Int)))=((min (8*i+8) a:Nat):Int):=by
 rw[A6];split
 ·rw[wrap_i64 (by omega) (by omega)];omega
 ·rw[wrap_i64 (by omega) (by omega)];omega
abbrev ANy:Q8:=DJ
theorem ANV {n:al}{a:aa}{s:Sl}{o:A2N}(p:s.len<=s.cap)(w:s.len<=1099511627776)
  (y: ∀fv b,Ext a b->b.size=a.size+2->b[a.size]? =some (J2 #[J4 s.p s.len s.cap] AQ (0,0))->b[a.size+1]? =some (J2 #[J6 J9 8] BQ (0,0))->
   uz n P fv (λc=>c=a.size\/c=a.size+1) b (chunks s)->o fv b):AA n P DT #[J4 s.p s.len s.cap,J6 J9 8] a o:=by
 refine Iz ?_;unfold Et;refine ak.mk λJ _ z A B=>?_
 refine ak.mk λC _ d q L=>?_
 refine ah.mk λK h=>?_
 refine AC.mk (AL d rfl) ?_;refine ae.no rfl (h _ _ ?_);have r:=Ah q z;rw[B] at d ⊢;refine y _ C (A.trans q) (by omega) r d ⟨ANy,#[Ay a.size,Ay (a.size+1)],rfl,λD=>by kernel_rfl,?_⟩;intro M D E N j F G;refine IC ?_;unfold EX;refine Loop.rule (λm x e=> ∃i:Nat,x=(((8*i:Nat):Int),())/\m=(s.len+7) / 8-i/\i<=(s.len+7) / 8/\E i true e) ?_ ⟨0,rfl,rfl,by omega,G⟩;rintro K m _ e ⟨i,rfl,rfl,O,f⟩ h;have hA:e[a.size]? =some (J2 #[J4 s.p s.len s.cap] AQ (0,0)):=(j _ _ _ f _ (.inl rfl)).trans r;have hB:e[a.size+1]? =some (J2 #[J6 J9 8] BQ (0,0)):=(j _ _ _ f _ (.inr rfl)).trans d;refine aD (AY.mk (AL hA rfl) ?_);dsimp only;refine ae.intro (λk=>?_) (λk=>?_)
 ·have t:8*i<s.len:=by simp at k;omega
  refine aD (AC.mk (AL hB rfl) ?_);refine aD (AY.mk (AL hA rfl) ⟨by omega,?_⟩);refine aD (AY.mk (AL hA rfl) ?_);rw[AL3 w t,A6,A6];refine⟨by omega,by omega,by omega,?_⟩;have p:=wz (s:=s) (i:=i) (by omega);have u:=F i _ e p f;simp only[uf,PD] at u;refine EH.mono u ?_;rintro v b ⟨g,rfl,l⟩;refine⟨g,rfl,?_⟩;cases g with
  |false=>exact ae.yes rfl ⟨rfl,i+1,false,l,(λa=>by cases a),by rw[QR];omega⟩
  |true=>
   refine ae.no rfl (aD ?_);have H:b[a.size+1]? =some (J2 #[J6 J9 8] BQ (0,0)):=(j _ _ _ l _ (.inr rfl)).trans d;refine AC.mk (AL H rfl) ?_;have I:J8 J9 (((8*i:Nat):Int)+(8:Int))=((8*(i+1):Nat):Int):=by rw[wrap_i64 (by omega) (by omega)];omega
   rw[I];exact h ((s.len+7) / 8-(i+1)) _ _ (by omega) ⟨i+1,rfl,rfl,by omega,l⟩
 ·have t:s.len<=8*i:=by simp at k;omega
  have:i=(s.len+7) / 8:=by omega
  exact⟨rfl,i,true,f,λ_=>by rw[QR];exact this,by rw[QR];omega⟩
theorem qI:PO P CF Ar IB.w 16=true:=by kernel_rfl
structure BS (h1:aa) (B:Nat) (E:Nat->Obj->Prop) (out:List UInt8) (kl:List A2O) (ix:List UInt8) (n:Nat) (hh:aa):Prop where
 gv:fK B hh B out
 keys: ∃ks:Sl,hh[B+1]? =some (J2 #[J4 ks.p ks.len ks.cap] CF (0,0))/\Own IB Ar hh ks kl/\ ∀c,ks.af=some c->B+3<c
 ix:hh[B+2]? =some (J2 #[J7 (AX ix)] Ar (0,0))
 cn:hh[B+3]? =some (J2 #[J6 J9 (n:Int)] BQ (0,0))
 fix: ∀c o,E c o->hh[c]? =some o
 dU:Mod (λc=>B<=c) h1 hh
structure jD (B:Nat) (E:Nat->Obj->Prop):Prop where
 u8: ∀c o,E c o-> ∀cs fz,o≠ J2 cs Co fz
 str: ∀c o,E c o-> ∀cs fz,o≠ J2 cs Ar fz
 lt: ∀c o,E c o->B+3<c
theorem lI {d:aa}{c:Nat}{e:Obj}(g:d[c]? =some e)(h: ∀a b,e≠ J2 a Co b): ¬U8 d c:=by rintro⟨a,b,f⟩;rw[g] at f;exact h a b (C2 f)
theorem Ls {e:Array J0}{T b:Q7}{fr:Nat×Nat}(f:T≠b): ∀c d,(Obj.cells e T fr)≠ J2 c b d:=λc d a=>by injection a with _ a _;exact f a
theorem wA {a:aa}{b:Sl}{d:List A2O}(e:Own IB Ar a b d){c:Nat}(f:U8 a c):b.af≠some c:=by obtain⟨h,i,g⟩:=f;exact e.ne g (by decide)
theorem BS.ext {a d e:aa}{f:Nat}{g:Nat->Obj->Prop}{out:List UInt8}{h:List A2O}{i:List UInt8}{j:Nat}(b:BS a f g out h i j d)(x:Ext d e):BS a f g out h i j e:=by obtain⟨k,l,m,n⟩:=b.keys;exact⟨b.gv.ext x,⟨k,Ah x l,m.ext x,n⟩,Ah x b.ix,Ah x b.cn,λc o p=>x.af (b.fix c o p) (λq=>q),b.dU.trans x.mod⟩
theorem BS.write {j g h:aa}{e:Nat}{i:Nat->Obj->Prop}{out k:List UInt8}{l:List A2O}{n:List UInt8}{o:Nat}(ok:jD e i)(b:BS j e i out l n o g)(r:fK e h e k)
  (m:Mod (λc=>c=e\/(e<=c/\U8 g c)) g h):BS j e i k l n o h:=by
 obtain⟨s,t,p,q⟩:=b.keys;have aY: ∀ {c:Nat} {f:Obj},g[c]? =some f->c≠e->(∀ u v,f≠ J2 u Co v)->h[c]? =some f:=λa w x=>m.af a (λd=>d.elim w (λd=>lI a x d.2))
 refine⟨r,⟨s,aY t (by omega) (Ls (by decide)),p.mod m (λc a d=>?_),q⟩,aY b.ix (by omega) (Ls (by decide)),aY b.cn (by omega) (Ls (by decide)),λc f a=>aY (b.fix c f a) (by have:=ok.lt c f a;omega) (ok.u8 c f a),b.dU.trans (m.ai λc _ a=>by rcases a with d|d<;>omega)⟩;rcases d with d|d
 ·have:=q c a;omega
 ·exact wA p d.2 a
theorem BS.key {l h i:aa}{d:Nat}{j:Nat->Obj->Prop}{out:List UInt8}{n p:List A2O}{q:List UInt8}{r:Nat}(ok:jD d j)(b:BS l d j out n q r h){f jc:Sl}(v:h[d+1]? =some (J2 #[J4 f.p f.len f.cap] CF (0,0)))
  (s:Own IB Ar h f n) (k: ∀c,f.af=some c->d+3<c) (m:Mod (λc=>f.af=some c\/c=d+1) h i) (w:i[d+1]? =some (J2 #[J4 jc.p jc.len jc.cap] CF (0,0)))
  (x:Own IB Ar i jc p) (y: ∀c,jc.af=some c->d+3<c):BS l d j out p q r i:=by
 have hB: ∀c,f.af=some c\/c=d+1->d+1<=c:=λc e=>by
  rcases e with a|a
  ·have:=k c a;omega
  ·omega
 refine⟨b.gv.mod m (λa=>by have:=hB _ a;omega) (λc e t a=>?_),⟨jc,w,x,y⟩,m.af b.ix (λa=>?_),m.af b.cn (λa=>?_),λc o e=>m.af (b.fix c o e) (λa=>?_),b.dU.trans (m.ai λc _ e=>by have:=hB _ e;omega)⟩
 ·rcases a with a|a
  ·exact wA s t a
  ·subst a;exact lI v (Ls (by decide)) t
 ·rcases a with a|a
  ·have:=k _ a;omega
  ·omega
 ·rcases a with a|a
  ·have:=k _ a;omega
  ·omega
 ·rcases a with a|a
  ·rcases s.row with⟨rfl,_⟩|⟨g,z,A,u,_⟩
   ·simp[Sl.af] at a
   ·simp[Sl.af,A] at a;subst a;rw[b.fix _ o e] at u;exact ok.str _ o e z (0,0) (C2 u)
  ·have:=ok.lt c o e;omega
theorem BS.yh {h i e:aa}{d:Nat}{f:Nat->Obj->Prop}{out:List UInt8}{j:List A2O}{o om:List UInt8}{k:Nat}(ok:jD d f)(b:BS h d f out j o k i)(m:Mod (λc=>c=d+2) i e)(p:e[d+2]? =some (J2 #[J7 (AX om)] Ar (0,0))):BS h d f out j om k e:=by
 obtain⟨q,r,s,l⟩:=b.keys;exact⟨b.gv.mod m (λg=>by omega) (λc a t g=>by subst g;exact lI b.ix (Ls (by decide)) t),⟨q,m.af r (by omega),s.mod m (λc a g=>by have:=l c a;omega),l⟩,p,m.af b.cn (by omega),
  λc n a=>m.af (b.fix c n a) (by have:=ok.lt c n a;omega),b.dU.trans (m.ai λc _ a=>by omega)⟩
theorem BS.oh {h i e:aa}{d:Nat}{f:Nat->Obj->Prop}{out:List UInt8}{j:List A2O}{k:List UInt8}{o n':Nat}(ok:jD d f)(b:BS h d f out j k o i)(m:Mod (λc=>c=d+3) i e)(p:e[d+3]? =some (J2 #[J6 J9 (n':Int)] BQ (0,0))):BS h d f out j k n' e:=by
 obtain⟨q,r,s,l⟩:=b.keys;exact⟨b.gv.mod m (λg=>by omega) (λc a t g=>by subst g;exact lI b.cn (Ls (by decide)) t),⟨q,m.af r (by omega),s.mod m (λc a g=>by have:=l c a;omega),l⟩,m.af b.ix (by omega),p,
  λc n a=>m.af (b.fix c n a) (by have:=ok.lt c n a;omega),b.dU.trans (m.ai λc _ a=>by omega)⟩
theorem BS.lp {k h:aa}{i d:Nat}{j:Nat->Obj->Prop}{out:List UInt8}{l:List A2O}{n:List UInt8}{o:Nat}(b:BS k i j out l n o h)(hd:i+3<d)(s: ∀e,¬j d e){t:Go.Loop}(p:h[d]? =some (.loop t))(e:Go.Loop):BS k i j out l n o (h.setIfInBounds d (.loop e)):=by
 obtain⟨u,v,q,w⟩:=b.keys;have m:Mod (λc=>c=d) h (h.setIfInBounds d (.loop e)):=Mod.setObj rfl;refine⟨b.gv.mod m (λf=>by omega) (λc a x f=>by subst f;exact lI p (λ_ _ y=>by cases y) x),⟨u,m.af v (by omega),q.mod m (λc a f=>?_),w⟩,m.af b.ix (by omega),m.af b.cn (by omega),
  λc e a=>m.af (b.fix c e a) (λf=>by subst f;exact s _ a),b.dU.trans (m.ai λc _ a=>by omega)⟩
 subst f;rcases q.row with⟨rfl,_⟩|⟨g,A,z,r,_⟩
 ·simp[Sl.af] at a
 ·simp[Sl.af,z] at a;subst a;rw[p] at r;cases r
end Go.Lf.G
