/-
 Plain law: a box of files (chapter 3).
-/
import Derived.Test.YtfiljlifdlfkkaaGreatDoorLfKToGA
import Derived.Test.YtfiljlifdlfkkaaGreatDoorLfG1
import Derived.Shelf.Strings.Repeat
import Derived.Shelf.Small.Wraps
import Derived.Shelf.Pu.ParseUintPublic10
import Derived.Shelf.Strconv.Itoa3
import Derived.Shelf.Strconv.AtoiAll
import Derived.Shelf.Strings.BuilderK
import Derived.Test.YtfiljlifdlfkkaaGreatDoorLfAToN1
import Derived.Test.YtfiljlifdlfkkaaGreatDoorProg
import Derived.Lib.ItoaNum
import Derived.Lib.Repeat
import Derived.Lib.ParseIntB
import Derived.Test.YtfiljlifdlfkkaaGreatDoorRows
import Derived.Lib.ItoaLen
import Derived.Lib.AppendIntMem
import Derived.WalkKit
import Derived.ProofKit
import Derived.OpenShut
import Derived.JoinedCond
import Derived.Deep.Slices
import Derived.Carry
import Derived.Shelf.SlGeneric
import Derived.Shelf.SlIter.Nil
import Derived.Shelf.SlIter.Sorted
import Derived.Shelf.SortM.Plain
import Derived.Shelf.SortM.SortNone
set_option maxRecDepth 100000
set_option linter.unusedVariables false
set_option linter.unusedSimpArgs false
open Go.IntKind renaming i64→J9,wrap→J8
open Go.Value renaming string→J7,int→J6,pointer→J5,slice→J4,bool→J3,tuple→J1
open Go.Obj renaming cells→J2
open Go renaming Value→J0,Addr→Q6,TypeId→Q7,FuncId→Q8,Program→Q1
open Go.Addr renaming add→Q9,mk→Q5
namespace Go.Lf
open Go
abbrev cN:A2Y:=⟨#[]⟩
theorem oH:ByteArray.size ⟨#[]⟩=0:=rfl
structure Fi where
 name:A2Y
 dr:A2Y
 soft:A2Y
deriving DecidableEq
def G8(l:List Fi):Prop:=l.Pairwise λa b=>aI a.name b.name=true
def Dp(a:A2Y)(l:List Fi):Option Fi:=l.find? λf=>decide (f.name=a)
def Rc(a:A2Y)(g:Fi->Fi)(l:List Fi):List Fi:=l.map λf=>if f.name=a then g f else f
def iB(a:A2Y)(l:List Fi):List Fi:=l.filter λf=> !decide (f.name=a)
def gP(x:Fi):List Fi->List Fi
 | []=> [x]
 |q::l=>if aI q.name x.name then q::gP x l else x::q::l
def bJ(l:List Fi):Nat:=(l.map λf=>f.dr.size+f.soft.size+1).sum
theorem IL(a:A2Y)(x:Fi)(l:List Fi):Dp a (x::l)=if x.name=a then some x else Dp a l:=by unfold Dp;rw[E0];by_cases b:x.name=a<;>simp[b]
theorem LB {b:A2Y}{l:List Fi}{x:Fi}(a:Dp b l=some x):x.name=b/\x∈l:=by unfold Dp at a;exact⟨by simpa using LR a,Is a⟩
theorem UB {b:A2Y}{l:List Fi}(a:Dp b l=none): ∀x∈l,x.name≠b:=by unfold Dp at a;rw[GW] at a;simpa using a
theorem AKy {a:A2Y}{l:List Fi}(b: ∀x∈l,x.name≠a):Dp a l=none:=by unfold Dp;rw[GW];simpa using b
theorem G8.find {l:List Fi}(s:G8 l){x:Fi}(a:x∈l):Dp x.name l=some x:=by
 induction l with
 |nil=>cases a
 |cons d l c=>
  rw[IL];have b:=List.pairwise_cons.1 s;rcases List.mem_cons.1 a with rfl|a
  ·simp
  ·rw[if_neg (Mk (b.1 x a))];exact c b.2 a
theorem PV(x:Fi): ∀l,(gP x l).Perm (x::l)
 | []=>HJ _
 |q::l=>by
  unfold gP;split
  ·exact((PV x l).cons q).trans (List.Perm.swap x q l)
  ·exact HJ _
theorem V8 {x:Fi}: ∀ {l:List Fi},G8 l->(∀ b∈l,b.name≠x.name)->G8 (gP x l)
 | [],_,_=>Pa _ _
 |q::l,s,e=>by
  have c:=List.pairwise_cons.1 s;unfold gP;split
  ·rename_i d;refine List.pairwise_cons.2 ⟨λb a=>?_,V8 c.2 λb a=>e b (AH _ a)⟩;rcases List.mem_cons.1 ((PV x l).subset a) with rfl|a
   ·exact d
   ·exact c.1 b a
  ·rename_i d;have f:aI x.name q.name=true:=by
    cases g:aI x.name q.name
    ·exact absurd (NW (by simpa using d) g) (e q B8)
    ·rfl
   refine List.pairwise_cons.2 ⟨λb a=>?_,s⟩;rcases List.mem_cons.1 a with rfl|a
   ·exact f
   ·exact DW f (c.1 b a)
theorem AMJ {a:A2Y}{g:Fi->Fi}(b: ∀f,(g f).name=f.name)(l:List Fi):(Rc a g l).map (·.name)=l.map (·.name):=by
 unfold Rc;rw[CA];refine GO λf _=>?_
 simp only[Function.comp];split<;>simp[b]
theorem Vh {l:List Fi}:G8 l↔oz (l.map (·.name)):=by unfold G8 oz;rw[No]
theorem yZ {k:A2Y}{g:Fi->Fi}(a: ∀f,(g f).name=f.name){l:List Fi}(s:G8 l):G8 (Rc k g l):=by rw[Vh,AMJ a];exact Vh.1 s
theorem ALQ {a:A2Y}{l:List Fi}(s:G8 l):G8 (iB a l):=s.sublist GS
theorem rT {a c:A2Y}{g:Fi->Fi}(b: ∀f,(g f).name=f.name): ∀l:List Fi,Dp c (Rc a g l)=(Dp c l).map λf=>if f.name=a then g f else f
 | []=>rfl
 |x::l=>by
  show Dp c ((if x.name=a then g x else x)::Rc a g l)=_;rw[IL,IL,rT b l];have:(if x.name=a then g x else x).name=x.name:=by split<;>simp[b]
  rw[this];by_cases d:x.name=c<;>simp[d]
theorem za {k c:A2Y}: ∀l:List Fi,Dp c (iB k l)=if c=k then none else Dp c l
 | []=>by simp[iB,Dp]
 |x::l=>by
  have b:=za (k:=k) (c:=c) l;unfold iB at b ⊢;rw[AS,IL];by_cases d:x.name=k
  ·simp only[d,decide_true,LI,BW,if_false];rw[b];by_cases a:c=k
   ·simp[a]
   ·simp[a,Ne.symm a]
  ·simp only[d,decide_false,Lz,if_true];rw[IL,b];by_cases a:c=k
   ·subst a;simp[d]
   ·simp[a]
theorem zd {x:Fi}{c:A2Y}: ∀ {l:List Fi},(∀ a∈l,a.name≠x.name)->Dp c (gP x l)=if x.name=c then some x else Dp c l
 | [],_=>by show Dp c [x]=_;rw[IL]
 |q::l,d=>by
  unfold gP;split
  ·rw[IL,zd λa e=>d a (AH _ e),IL];by_cases b:q.name=c
   ·simp[b];intro f;exact absurd (b.trans f.symm) (d q B8)
   ·simp[b]
  ·rw[IL]
theorem Np(x:Fi)(l:List Fi):bJ (x::l)=x.dr.size+x.soft.size+1+bJ l:=by simp[bJ]
theorem AQi {l m:List Fi}(a:l.Perm m):bJ l=bJ m:=(a.map _).sum_nat
theorem ze(x:Fi)(l:List Fi):bJ (gP x l)=x.dr.size+x.soft.size+1+bJ l:=by rw[AQi (PV x l),Np]
theorem lR: ∀l:List Fi,l.length<=bJ l
 | []=>by simp[bJ]
 |x::l=>by rw[Np,An];have:=lR l;omega
theorem oI {x:Fi}: ∀ {l:List Fi},x∈l->x.dr.size+x.soft.size<=bJ l
 | [],a=>by cases a
 |y::l,a=>by
  rw[Np];rcases List.mem_cons.1 a with rfl|a
  ·omega
  ·have:=oI a;omega
theorem rU {k:A2Y}: ∀l:List Fi,bJ (iB k l)<=bJ l
 | []=>by simp[iB,bJ]
 |x::l=>by
  have:=rU (k:=k) l;unfold iB at this ⊢;rw[AS];split
  ·rw[Np,Np];omega
  ·rw[Np];omega
theorem lS {k:A2Y}{g:Fi->Fi}{d:Nat}(a: ∀f,(g f).dr.size+(g f).soft.size<=f.dr.size+f.soft.size+d): ∀ {l:List Fi},G8 l->bJ (Rc k g l)<=bJ l+d
 | [],_=>by simp[Rc,bJ]
 |x::l,s=>by
  have b:=List.pairwise_cons.1 s;show bJ ((if x.name=k then g x else x)::Rc k g l)<=_;rw[Np,Np];split
  ·rename_i c;have:Rc k g l=l:=by unfold Rc;rw[GO (g:=id) λe h=>?_,List.map_id];have:=Mk (b.1 e h);rw[if_neg (λi=>this (c.trans i.symm))];rfl
   rw[this];have:=a x;omega
  ·have:=lS a (k:=k) b.2;omega
structure Bx where
 files:List Fi
 fuel:Int
 down:Bool
def jQ:Bx:=⟨[],-1,false⟩
def Nb(a:A2Y):Bool:=decide (a=cN)||decide (a.size>32)
def Kh(m:Bx):Bx:=if m.fuel>0 then {m with fuel:=m.fuel-1} else m
def j7(m:Bx):Bx:= {m with down:=true}
def Vq(name:A2Y)(l:List Fi):List Fi:=if(Dp name l).isSome then l else gP ⟨name,cN,cN⟩ l
def Tu(a:A2Y)(f:Fi):Fi:= {f with soft:=f.soft++a}
def UL(f:Fi):Fi:=⟨f.name,f.dr++f.soft,cN⟩
def FY(m:Bx)(name a:A2Y):Int×Bx:=
 if m.down then(30,m) else if Nb name then(1,m) else if m.fuel=0 then(30,j7 m) else(0,{Kh m with files:=Rc name (Tu a) (Vq name m.files)})
def LV(m:Bx)(name:A2Y):Int×Bx:=
 if m.down then(30,m) else if(Dp name m.files).isNone then(31,m) else if m.fuel=0 then(30,j7 m) else(0,{Kh m with files:=Rc name UL m.files})
def Km(m:Bx)(name:A2Y):Int×Bx:=
 if m.down then(30,m) else if(Dp name m.files).isNone then(31,m) else if m.fuel=0 then(30,j7 m) else(0,{Kh m with files:=iB name m.files})
def lT(m:Bx)(name:A2Y):A2Y×Int:=
 if m.down then(cN,30) else match Dp name m.files with|none=>(cN,31)|some f=>(f.dr++f.soft,0)
structure IA (m:Bx):Prop where
 sorted:G8 m.files
 names: ∀f∈m.files,f.name.size<=32
 lo: -1<=m.fuel
 hi:m.fuel<=9223372036854775807
 wt:bJ m.files<=8796093022208
theorem ATJ(a b:A2Y):(a++b).size=a.size+b.size:=Fm
theorem AUZ(a:A2Y):a++cN=a:=by simp[MA,cN]
theorem zf(a:A2Y):cN++a=a:=by simp[MA,cN]
theorem APs:IA jQ:=⟨List.Pairwise.nil,by simp[jQ],by simp[jQ],by simp[jQ],by simp[jQ,bJ]⟩
theorem IA.tick {m:Bx}(g:IA m)(l:List Fi)(a:G8 l)(b: ∀f∈l,f.name.size<=32)(c:bJ l<=8796093022208):IA {Kh m with files:=l}:=by
 have:=g.lo;have:=g.hi;refine⟨a,b,?_,?_,c⟩
 ·show -1<=(Kh m).fuel;unfold Kh;split<;>(try simp only[])<;>omega
 ·show(Kh m).fuel<=_;unfold Kh;split<;>(try simp only[])<;>omega
theorem IA.off {m:Bx}(g:IA m):IA (j7 m):=⟨g.sorted,g.names,g.lo,g.hi,g.wt⟩
theorem zg {name:A2Y}{l:List Fi}(s:G8 l):G8 (Vq name l)/\bJ (Vq name l)<=bJ l+1/\(∀ f∈Vq name l,f∈l\/f.name=name):=by
 unfold Vq;split
 ·exact⟨s,by omega,λf a=> .inl a⟩
 ·rename_i b;have c:=UB (by simpa using b);refine⟨V8 s c,by rw[ze];simp[oH];omega,λf a=>?_⟩;rcases List.mem_cons.1 ((PV _ l).subset a) with rfl|a
  ·exact .inr rfl
  ·exact .inl a
theorem zi {c:A2Y}{g:Fi->Fi}(d: ∀f,(g f).name=f.name){l:List Fi}{f:Fi}(b:f∈Rc c g l): ∃a∈l,a.name=f.name:=by unfold Rc at b;obtain⟨a,e,rfl⟩:=List.mem_map.1 b;exact⟨a,e,by split<;>simp[d]⟩
theorem IA.append {m:Bx}(g:IA m){name data:A2Y}(n:bJ m.files+data.size+1<=8796093022208):IA (FY m name data).2:=by
 unfold FY;split
 ·exact g
 ·split
  ·exact g
  ·rename_i e;split
   ·exact g.off
   ·obtain⟨b,o,h⟩:=zg (name:=name) g.sorted;refine g.tick _ (yZ (k:=name) (g:=Tu data) (λ_=>rfl) b) (λf i=>?_) ?_
    ·obtain⟨c,j,l⟩:=zi (g:=Tu data) (λ_=>rfl) i;rw[<- l];rcases h c j with a|a
     ·exact g.names c a
     ·rw[a];simp[Nb] at e;omega
    ·have:=lS (k:=name) (g:=Tu data) (d:=data.size) (λf=>by simp[Tu];omega) b;omega
theorem IA.sync {m:Bx}(g:IA m){name:A2Y}:IA (LV m name).2:=by
 unfold LV;split
 ·exact g
 ·split
  ·exact g
  ·split
   ·exact g.off
   ·refine g.tick _ (yZ (k:=name) (g:=UL) (λ_=>rfl) g.sorted) (λf a=>?_) ?_
    ·obtain⟨b,c,e⟩:=zi (g:=UL) (λ_=>rfl) a;rw[<- e];exact g.names b c
    ·have:=lS (k:=name) (g:=UL) (d:=0) (λf=>by simp[UL,oH]) g.sorted;have:=g.wt;omega
theorem IA.delete {m:Bx}(g:IA m){name:A2Y}:IA (Km m name).2:=by
 unfold Km;split
 ·exact g
 ·split
  ·exact g
  ·split
   ·exact g.off
   ·exact g.tick _ (ALQ g.sorted) (λf a=>g.names f (List.mem_filter.1 a).1) (AK (rU _) g.wt)
theorem rV {m:Bx}(g:IA m)(name a:A2Y):bJ (FY m name a).2.files<=bJ m.files+a.size+1:=by
 unfold FY;split
 ·simp;omega
 ·split
  ·simp;omega
  ·split
   ·simp[j7];omega
   ·obtain⟨b,c,_⟩:=zg (name:=name) g.sorted;have:=lS (k:=name) (g:=Tu a) (d:=a.size) (λf=>by simp[Tu];omega) b;simp;omega
theorem oJ {m:Bx}(g:IA m)(name:A2Y):bJ (LV m name).2.files<=bJ m.files:=by
 unfold LV;split
 ·simp
 ·split
  ·simp
  ·split
   ·simp[j7]
   ·have:=lS (k:=name) (g:=UL) (d:=0) (λf=>by simp[UL,oH]) g.sorted;simpa using this
theorem zj {m:Bx}(name:A2Y):bJ (Km m name).2.files<=bJ m.files:=by
 unfold Km;split
 ·simp
 ·split
  ·simp
  ·split
   ·simp[j7]
   ·exact rU _
theorem zQ {d:Type}{a:cr d}{x e:d}{c:Nat}{v:J0}(f:a.enc e=(a.enc x).set c v)(g:c<a.w): ∀ {l:List d} {i:Nat},l[i]? =some x->(l.set i e).flatMap a.enc=(l.flatMap a.enc).set (i*a.w+c) v
 | [],_,b=>by simp at b
 |y::l,0,b=>by
  simp at b;subst b;rw[List.set_cons_zero,AM,AM,f,HT,AF,Zs _ _ (by rw[a.len];exact g)]
 |y::l,i+1,b=>by
  rw[List.set_cons_succ,AM,AM,zQ f g (l:=l) (i:=i) (by simpa using b),HS _ _ (by rw[a.len,Bm];omega),a.len];rw[show(i+1)*a.w+c-a.w=i*a.w+c by rw[Bm];omega]
theorem Own.store {e:Type}{E:cr e}{T:Q7}{d:aa}{s:Sl}{l:List e}{i j:Nat}{x x':e}{v:J0}{K:aa->Prop}(f:Own E T d s l)(hi:l[i]? =some x)(p:E.enc x'=(E.enc x).set j v)(q:j<E.w)
  (r: ∀b,Own E T b s (l.set i x')->Mod (λc=>s.ag=some c) d b->b.size=d.size->K b): ∀a,s.p=some a->ae d ((a.add (i*E.w)).add j) v K:=by
 intro a k;rcases f.row with⟨rfl,rfl⟩|⟨g,t,h,u,n,w,o,y⟩
 ·simp at hi
 ·rw[h] at k;cases k;rw[add_add,Bp,AF];have z:i<l.length:=(List.getElem?_eq_some_iff.1 hi).1;have D:i*E.w+j<s.len*E.w:=by have:(i+1)*E.w<=s.len*E.w:=AW _ (by rw[f.len];exact z);rw[Bm] at this;omega
  have F:s.len*E.w<=t.size:=by rw[o];exact AW _ n
  refine ae.mk u (by omega) λb A m B=>r b ⟨by rw[Kx];exact f.len,.inr ⟨g,_,h,A,n,w,by simpa using o,?_⟩⟩ (m.ak λc _ C=>by simp[Sl.ag,h,C]) B
  rw[DQ,List.take_set,y,zQ p q hi]
theorem Own.ne {d:Type}{h:cr d}{T e:Q7}{f:aa}{s:Sl}{l:List d}(i:Own h T f s l){b:Nat}{j:Array J0}{fr:Nat×Nat}(a:f[b]? =some (J2 j e fr))(k:T≠e):s.ag≠some b:=by
 intro c;rcases i.row with⟨rfl,_⟩|⟨g,p,m,n,_⟩
 ·simp[Sl.ag] at c
 ·simp[Sl.ag,m] at c;subst c;rw[n] at a;injection a with a;injection a with _ o _;exact k o
end Go.Lf
namespace Go.Lf.G
open Go
theorem SB:P.underlying BD=some .string:=by kernel_rfl
theorem mq:P.underlying EZ=some (.int .u8):=by kernel_rfl
theorem mu:P.underlying Dn=some (.slice EZ):=by kernel_rfl
theorem AQz:Rj P Dn EZ Ik.w 1=true:=by kernel_rfl
theorem Cj {y:ao}{d:aa}{n:Nat}{q:A2X}(z:n<18446744073709551616)(A: ∀e,Ext d e->q (.string (Ae (Bt n))) e):AA y P A7 #[.int .u64 (n:Int)] d q:=by
 refine AKl ?_;unfold wK;have r:=AZ z;refine Loop.rule (λm x f=> ∃(a:Nat) (s:Sl) (c:List UInt8),x=((a:Int),s,())/\Own Ik EZ f s c/\Ext d f/\(∀ b,s.ag=some b->d.size<=b)/\Bt n=c++Bt a/\m=a) ?_
  ⟨n,⟨none,0,0⟩,[],rfl,Own.nil,Mod.refl,λb g=>by simp[Sl.ag] at g,rfl,rfl⟩
 rintro K m _ f ⟨a,s,c,rfl,t,x,h,i,F⟩ B;have hd:c.length<=10:=by rw[i] at r;simp at r;omega
 refine ab.intro (λj=>?_) (λj=>?_)
 ·have k: ¬a<128:=by simp at j;omega
  refine ai.aV (E:=Ik) (x:=Cu (a % 128+128)) (s:=s) (l:=c) (by dsimp only[Ik];rw[ATP]) AQz t (by simp;omega) (by simp[maxLen];omega) λu e o p v C=>?_
  refine B (a / 128) _ _ (by omega) ⟨a / 128,u,c++ [Cu (a % 128+128)],?_,o,x.more p h,λb g=>?_,?_,rfl⟩
  ·dsimp only;rw[Px a 7]
  ·rcases v b g with w|w
   ·exact h b w
   ·have:=x.size;omega
  ·rw[i,ZZ k];simp
 ·have k:a<128:=by simp at j;omega
  refine ai.aV (E:=Ik) (x:=Cu a) (s:=s) (l:=c) (by dsimp only[Ik];rw[Dv (show a<256 by omega),wrap_u8,As (show a<256 by omega)]) AQz t (by simp;omega) (by simp[maxLen];omega) λu e o p v C=>?_
  refine NC mu mq SB o.view ⟨_,rfl,?_⟩;have D:c++ [Cu a]=Bt n:=by rw[i,Fq k]
  rw[D];exact A _ (x.more p h)
theorem AQv(a:Nat):(if(10:Int)<(a:Int) then(10:Int) else(a:Int))=((min a 10:Nat):Int):=by split<;>omega
theorem ANc {D:ao}{e:aa}{s:A2Y}{n:A2X}(V:s.size<=8796093022208)
  (v:Qa 0 0 s.data.toList=none->n (.tuple #[.int .u64 0,.string ⟨#[]⟩,.bool false]) e)
  (E: ∀w t,Qa 0 0 s.data.toList=some (w,t)->n (.tuple #[.int .u64 (w:Int),.string (Ae t),.bool true]) e):AA D P TZ #[.string s] e n:=by
 refine AJn ?_;unfold xA;have W:s.data.toList.length=s.size:=by rw[Ds];rfl
 refine Loop.rule (λm x o=> ∃(i a:Nat),x=((a:Int),(i:Int),())/\o=e/\i<=s.size/\i<=10/\a<128^i/\Qa 0 0 s.data.toList=Qa i a (s.data.toList.drop i)/\m=10-i) ?_
  ⟨0,0,rfl,rfl,by omega,by omega,by simp,rfl,rfl⟩
 rintro K m _ o ⟨i,a,rfl,y,hi,X,F,p,Y⟩ G;subst o;dsimp only;rw[AQv];refine ab.intro (λd=>?_) (λd=>?_)
 ·have z:i<s.size/\i<10:=by simp at d;omega
  have q:i<s.data.toList.length:=by omega
  refine⟨⟨by omega,by omega⟩,?_⟩;obtain⟨c,r⟩: ∃c,s.data.toList[i]? =some c:=⟨_,A2 q⟩;have A:s.data.toList.drop i=c::s.data.toList.drop (i+1):=by rw[FA q];rw[A2 q] at r;rw[Bk r]
  have B:c.toNat<256:=c.toNat_lt;rw[Ws r];have H:((i=9/\1<c.toNat)\/(0<i/\c.toNat=0))->Qa 0 0 s.data.toList=none:=λg=>by
   rw[p,A,Qa,if_pos (.inr g)]
  have I: ¬((i=9/\1<c.toNat)\/(0<i/\c.toNat=0))->Qa 0 0 s.data.toList=if c.toNat<128 then some (a+c.toNat*128^i,s.data.toList.drop (i+1)) else Qa (i+1) (a+c.toNat % 128*128^i) (s.data.toList.drop (i+1)):=λg=>by
   rw[p,A,Qa,if_neg (λe=>e.elim (by omega) g)]
  refine ah.mk λJ L=>?_
  have key: ∀(b:Bool),(b=true↔((i=9/\1<c.toNat)\/(0<i/\c.toNat=0)))->J (b,()) e:=λb g=>by
   refine L _ _ ?_;refine ab.intro (λM=>v (H (g.1 M))) (λC=>?_);have N: ¬((i=9/\1<c.toNat)\/(0<i/\c.toNat=0)):=λe=>by rw[g.2 e] at C;cases C
   have j:=I N;have O:J8 J9 ((7:Int)*(i:Int))=((7*i:Nat):Int):=by rw[show(7:Int)*(i:Int)=((7*i:Nat):Int) by simp];exact Fz (by omega)
   have Q:Gw .u8 (c.toNat:Int) (127:Int)=((c.toNat % 128:Nat):Int):=by have:=ASI (a:=c.toNat) (b:=127) B (by decide);rw[AV7 _ B] at this;exact this
   have R:J8 .u64 ((c.toNat % 128:Nat):Int)=((c.toNat % 128:Nat):Int):=by rw[wrap_u64,As (by omega)]
   rw[O,Q,R,AWX (by omega) (BY _ (by decide)),AT6 (by omega) F (BY _ (by decide)),Ac (by omega)];have Z:=NJ (show i<=9 by omega);have S:(128:Nat)^9=9223372036854775808:=by decide
   have T:c.toNat % 128*128^i % 18446744073709551616=c.toNat % 128*128^i:=by
    refine As ?_;by_cases k:i=9
    ·subst k;have:c.toNat<=1:=by omega
     rw[S];omega
    ·have ac:=NJ (show i<=8 by omega);have ae:(128:Nat)^8=72057594037927936:=by decide
     have:c.toNat % 128*128^i<=127*128^i:=AW _ (by omega);omega
   rw[T];refine⟨by omega,?_⟩;refine ab.intro (λd=>?_) (λd=>?_)
   ·have l:c.toNat<128:=by simp at d;omega
    rw[if_pos l] at j;refine⟨⟨by omega,by omega⟩,?_⟩;have:=E _ _ j;rw[As l];have y:s.extract ((i+1:Nat):Int).toNat s.size=Ae (s.data.toList.drop (i+1)):=AKV _ _;rw[y];exact this
   ·have l: ¬c.toNat<128:=by simp at d;omega
    rw[if_neg l] at j;refine G (10-(i+1)) _ _ (by omega) ⟨i+1,a+c.toNat % 128*128^i,rfl,rfl,by omega,by omega,?_,j,rfl⟩;have:(c.toNat % 128+1)*128^i<=128*128^i:=AW _ (by omega);rw[Bm] at this;rw[D0,Cp (128^i)];omega
  refine ab.intro (λd=>?_) (λd=>?_)
  ·have k:i=9:=by simp at d;omega
   refine ab.intro (λu=>key _ ⟨λ_=> .inl ⟨k,by simp at u;omega⟩,λ_=>rfl⟩) (λu=>?_);refine ab.intro (λh=>key _ ⟨λf=> .inr ⟨by omega,by simp at f;omega⟩,λf=>by simp at u ⊢;omega⟩) (λh=>?_);simp at h;omega
  ·have k:i≠9:=by simp at d;omega
   refine ab.intro (λh=>key _ ⟨λf=> .inr ⟨by simp at h;omega,by simp at f;omega⟩,λf=>(by simp;omega)⟩) (λh=>key _ ⟨(λf=>(by cases f)),λf=>(by simp at h;omega)⟩)
 ·have z:s.size=i\/i=10:=by simp at d;omega
  refine v ?_;rw[p];rcases z with U|U
  ·rw[HD (by omega)];rfl
  ·cases hd:s.data.toList.drop i with
   |nil=>rfl
   |cons c t=>rw[Qa,if_pos (.inl (by omega))]
theorem aA {a:Q6}{K:Q6->Prop}(b:K a):At (some a) K:=b
theorem ae.dw {a:aa}{b d:Nat}{v:J0}{e:Array J0}{T:Q7}{K:aa->Prop}(f:a[b]? =some (J2 e T (0,0)))(g:d<e.size)
  (h: ∀c,c[b]? =some (J2 (e.setIfInBounds d v) T (0,0))->Mod (· =b) a c->c.size=a.size->K c):ae a ((⟨b,0,none⟩:Q6).add d) v K:=by
 rw[Bp,AF];exact ae.mk f g h
theorem max_i64:IntKind.max J9=9223372036854775807:=by simp_all
theorem wrap_i64 {n:Int}(a: -9223372036854775808<=n)(b:n<=9223372036854775807):J8 J9 n=n:=by grind [J8,IntKind.bits,IntKind.signed]
theorem CL {a:Nat}(b:a<18446744073709551616):J8 .u64 (a:Int)=(a:Int):=by rw[wrap_u64,As b]
abbrev Ap(b:Nat):J0:=J5 (some ⟨b,0,none⟩)
def LF(c:aa)(b:Nat)(a:Rd):Prop:=c[b]? =some (J2 #[J7 (Ae a.rest),J3 a.bad] X9 (0,0))
theorem ALX:Ae []=⟨#[]⟩:=rfl
theorem AHW(l:List UInt8)(a:Nat):(Ae l).extract 0 a=Ae (l.take a):=by rw[AQn,CE]
theorem Wx(l:List UInt8)(a:Nat):(Ae l).extract a (Ae l).size=Ae (l.drop a):=by rw[AKV,CE]
theorem ARd(l:List UInt8)(i a:Nat):(Ae l).extract i a=Ae ((l.take a).drop i):=by rw[dK,CE]
theorem Aq(a b:List UInt8):Ae a++Ae b=Ae (a++b):=by apply Nd;simp[Ae,HK]
theorem Sn {A:ao}{h:aa}{l:List UInt8}{R:A2X}(d:l.length<=1099511627776)(b: ∀a,Ext h a->R (J7 (Ae (BX l))) a):AA A P CK #[J7 (Ae l)] h R:=by
 refine AI8 ?_;unfold wL;rw[AP,CL (by omega)];have:=AZ (n:=l.length) (by omega);refine Cj (by omega) λe c=>⟨_,rfl,⟨by rw[AP,max_i64];omega,?_⟩⟩
 rw[Aq];exact b _ c
theorem N7 {d:ao}{a:aa}{l:List UInt8}{c:A2X}(e: ∀b,LF b a.size ⟨l,false⟩->Ext a b->c (Ap a.size) b):AA d P FO #[J7 (Ae l)] a c:=by refine AJa ?_;unfold wT;exact ai.mk λf _ g x _=>e f g x
theorem AN5 {j:ao}{d:aa}{b:Nat}{a:Rd}{h:A2X}(e:LF d b a)(q:a.rest.length<=1099511627776)
  (i: ∀f,LF f b (II a).2->Mod (· =b) d f->h (.int .u64 ((II a).1:Int)) f):AA j P JJ #[Ap b] d h:=by
 refine YT ?_;unfold Qo;refine ah.mk λK k=>ab.no rfl (aA (Aa.mk (AB e rfl) (k _ _ ?_)))
 refine ab.intro (λc=>?_) (λc=>?_)
 ·have:=i d;rw[AQp c] at this;exact this e Mod.refl
 ·refine aA (AL.mk (AO e rfl) ?_);have c:a.bad=false:=c;refine ANc (by grind [AP,Nat.le_trans]) (λg=>⟨_,_,_,rfl,?_⟩) (λr t g=>⟨_,_,_,rfl,?_⟩)
  all_goals
   rw[CE] at g;refine aA (ae.mk e (by simp) λs l m u=>aA (ae.dw l (by simp) λn o p v=>?_));have:=i n;simp only[II,c,g] at this;exact this o (m.trans p)
theorem AQQ {m:Nat}(a:m<=9223372036854775807):J8 .u64 (m:Int)=(m:Int):=CL (by omega)
theorem Ei {l:ao}{e:aa}{b:Nat}{c:Rd}{most:Nat}{j:A2X}(m:LF e b c)(n:c.rest.length<=1099511627776)(o:most<=9223372036854775807)
  (f: ∀g,LF g b (CZ most c).2->Mod (· =b) e g->j (J6 J9 ((CZ most c).1:Int)) g):AA l P Ag #[Ap b,J6 J9 (most:Int)] e j:=by
 refine Ym ?_;unfold Qd;refine AN5 m n λk d h=>⟨_,rfl,?_⟩
 refine ah.mk λK p=>ab.no rfl (aA (Aa.mk (AB d rfl) (p _ _ ?_)))
 refine ab.intro (λa=>?_) (λa=>?_)
 ·have:=f k;have a:(II c).2.bad=true:=a;simp only[CZ,a,if_true] at this;exact this d h
 ·have a:(II c).2.bad=false:=a;refine ah.mk λw q=>ab.no (by simp) (q _ _ ?_)
  rw[AQQ o];refine ab.intro (λi=>?_) (λi=>?_)
  ·refine aA (ae.mk d (by simp) λx r s y=>aA (ae.dw r (by simp) λt u v z=>?_));have:=f t;simp only[CZ,a] at this;rw[if_neg (by simp),if_pos (by simp at i;omega)] at this;exact this u ((h.trans s).trans v)
  ·have:=f k;simp at i;simp only[CZ,a] at this;rw[if_neg (by simp),if_neg (by omega)] at this;rw[Fz (by omega)];exact this d h
theorem AJw {n:ao}{f:aa}{b g:Nat}{d:Rd}{l:A2X}(c:LF f b d)
  (h: ∀i,LF i b (LP g d).2->Mod (· =b) f i->l (J7 (Ae (LP g d).1)) i):AA n P IR #[Ap b,J6 J9 (g:Int)] f l:=by
 refine XT ?_;unfold QI;refine ah.mk λK o=>ab.no rfl (aA (Aa.mk (AB c rfl) (o _ _ ?_)))
 refine ab.intro (λa=>?_) (λa=>?_)
 ·have:=h f;have a:d.bad=true:=a;simp only[LP,a,if_true] at this;exact this c Mod.refl
 ·have a:d.bad=false:=a;refine ah.mk λu p=>ab.no (by simp) (aA (AL.mk (AO c rfl) (p _ _ ?_)))
  rw[AP];refine ab.intro (λj=>?_) (λj=>?_)
  ·refine aA (ae.mk c (by simp) λm e k q=>aA (ae.dw e (by simp) λr s t v=>?_));have:=h r;simp only[LP,a] at this;rw[if_neg (by simp),if_pos (by simp at j;omega)] at this;exact this s (k.trans t)
  ·simp at j;refine aA (AL.mk (AO c rfl) ⟨⟨by omega,by rw[AP];omega⟩,aA (AL.mk (AO c rfl) ⟨⟨by omega,by rw[AP];omega⟩,aA (ae.mk c (by simp) λm e k q=>?_)⟩)⟩);have:=h m;simp only[LP,a] at this;rw[if_neg (by simp),if_neg (by omega)] at this;simp only[A6,AHW,Wx] at e ⊢;rw[a] at e;exact this e k
theorem Iw {k:ao}{d:aa}{b:Nat}{a:Rd}{g:A2X}(l:LF d b a)(v:a.rest.length<1099511627776)
  (h: ∀e,LF e b (Gq a).2->Mod (· =b) d e->g (J7 (Ae (Gq a).1)) e):AA k P Bv #[Ap b] d g:=by
 refine XQ ?_;unfold QM;refine AN5 l (by omega) λm f i=>⟨_,rfl,?_⟩
 have w:=VW a;refine ah.mk λK n=>ab.no rfl (aA (Aa.mk (AB f rfl) (n _ _ ?_)))
 refine ab.intro (λc=>?_) (λc=>?_)
 ·have:=h m;have c:(II a).2.bad=true:=c;simp only[Gq,c,if_true] at this;exact this f i
 ·have c:(II a).2.bad=false:=c;have o:J8 J9 (if(1099511627776:Int)<((II a).1:Int) then 1099511627776 else((II a).1:Int))=((min (II a).1 1099511627776:Nat):Int):=by grind [wrap_i64]
  rw[o];refine AJw f λp j q=>⟨_,rfl,?_⟩
  have:=h p;simp only[Gq,c] at this;rw[if_neg (by simp)] at this;have r:LP (min (II a).1 1099511627776) (II a).2=LP (II a).1 (II a).2:=by
   by_cases s:(II a).1<=1099511627776
   ·rw[DO s]
   ·have t:(II a).2.rest.length<min (II a).1 1099511627776:=by omega
    have u:(II a).2.rest.length<(II a).1:=by omega
    simp only[LP,c,BW,if_false,if_pos t,if_pos u]
  rw[r] at j ⊢;exact this j (i.trans q)
theorem Qk {g:ao}{c:aa}{b:Nat}{r:Rd}{e:A2X}(f:LF c b r)(a:e (J3 (fY r)) c):AA g P Cg #[Ap b] c e:=by
 refine YX ?_;unfold Qy;refine ab.yes rfl (aA (Aa.mk (AB f rfl) ?_));unfold fY at a;refine ab.intro (λd=>?_) (λd=>?_)
 ·refine aA (AL.mk (AO f rfl) ?_);rw[d] at a;have h:bB (Ae r.rest) (⟨#[]⟩:A2Y)=r.rest.isEmpty:=by grind [Bl,ALX,Pm]
  rw[h];simpa using a
 ·rw[d] at a;exact a
theorem ASX {c:Nat}(e:c<4294967296):Uk .u32 ((c:Int).fdiv ((2:Int)^(1:Nat))) (Gw .u32 (3988292384:Int) (J8 .u32 (0-(Gw .u32 (c:Int) (1:Int)))))=((mo c:Nat):Int):=by
 have f:Gw .u32 (c:Int) (1:Int)=((c % 2:Nat):Int):=by rw[<- Nat.and_one_is_mod];exact AUR e (by decide)
 rw[Px c 1,f];unfold mo;have hd:c / 2^1<4294967296:=by omega
 by_cases a:c % 2=1
 ·rw[if_pos a,a];have b:J8 .u32 (0-((1:Nat):Int))=((4294967295:Nat):Int):=by decide
  have d:Gw .u32 (3988292384:Int) ((4294967295:Nat):Int)=((3988292384:Nat):Int):=by decide
  rw[b,d,Td hd (by decide)]
 ·rw[if_neg a,show c % 2=0 by omega];have b:J8 .u32 (0-((0:Nat):Int))=((0:Nat):Int):=by decide
  have d:Gw .u32 (3988292384:Int) ((0:Nat):Int)=((0:Nat):Int):=by decide
  rw[b,d,Td hd (by decide)];simp
theorem AUl {c:Nat}(b:c<4294967296):Uk .u32 (if IntKind.signed .u32 then -1 else IntKind.max .u32) (c:Int)=((4294967295-c:Nat):Int):=by
 have d:(if IntKind.signed .u32 then -1 else IntKind.max .u32)=((4294967295:Nat):Int):=by decide
 rw[d,Td (by decide) b];congr 1;have e:4294967295-c=2^32-(c+1):=by omega
 have f:(4294967295:Nat)=2^32-1:=by decide
 have a:c<2^32:=by omega
 rw[e,f];apply Nat.eq_of_testBit_eq;intro i;rw[Nat.testBit_xor,Nat.testBit_two_pow_sub_one,Nat.testBit_two_pow_sub_succ a];by_cases hi:i<32
 ·simp[hi]
 ·have:c.testBit i=false:=Nat.testBit_lt_two_pow (Fc a (Se (by decide) (by omega)));simp[hi,this]
theorem AOM {q:ao}{d:aa}{l:List UInt8}{k:A2X}(v:l.length<=1099511627776)(r:k (.int .u32 (jT l:Int)) d):AA q P Qt #[J7 (Ae l)] d k:=by
 refine AI9 ?_;unfold wX;rw[AP];refine Loop.rule (λm x b=> ∃i:Nat,x=((iF (l.take i):Int),(i:Int),())/\b=d/\m=l.length-i/\i<=l.length) ?_ ⟨0,rfl,rfl,rfl,by omega⟩;rintro K m _ b ⟨i,rfl,e,rfl,hi⟩ s;subst b;refine ab.intro (λf=>?_) (λf=>?_)
 ·have g:i<l.length:=by simpa using f
  obtain⟨c,o⟩: ∃c,l[i]? =some c:=⟨_,A2 g⟩;have w:c.toNat<256:=c.toNat_lt;refine⟨⟨by dsimp only;omega,by dsimp only;omega⟩,?_⟩;have p:=AOJ (l.take i);dsimp only;rw[Ws (c:=c) (by rw[CE];exact o),wrap_u32,As (show c.toNat<4294967296 by omega),Td p (by omega)];have t:iF (l.take i) ^^^ c.toNat<4294967296:=Lq (n:=32) p (by omega);refine Loop.rule (λm x b=> ∃a:Nat,x=((oT a (iF (l.take i) ^^^ c.toNat):Int),(a:Int),())/\b=d/\m=8-a/\a<=8) ?_ ⟨0,rfl,rfl,rfl,by omega⟩;rintro y z _ b ⟨a,rfl,e,rfl,A⟩ u;subst b;refine ab.intro (λh=>?_) (λh=>?_)
  ·have j:a<8:=by simp at h;omega
   dsimp only;rw[ASX (sD t a),Ac (by omega)];exact u (8-(a+1)) _ _ (by omega) ⟨a+1,rfl,rfl,rfl,j⟩
  ·have j:a=8:=by simp at h;omega
   subst j;dsimp only;rw[Ac (by omega)];refine s (l.length-(i+1)) _ _ (by omega) ⟨i+1,?_,rfl,rfl,g⟩;rw[AE,o,DM,AQJ];rfl
 ·have g:i=l.length:=by simp at f;omega
  have e:l.take i=l:=AD (by omega);dsimp only;rw[e,AUl (AOJ l)];exact r
theorem sF(a b:Nat):J8 .u8 ((a:Int).fdiv ((2:Int)^b))=(((Cu (a / 2^b % 256)).toNat:Nat):Int):=by rw[Px,wrap_u8,Dv (BY _ (by decide))]
theorem AKO {f:ao}{b:aa}{a:Nat}{c:A2X}(g: ∀d,Ext b d->c (J7 (Ae (Ue a))) d):AA f P PE #[.int .u32 (a:Int)] b c:=by
 refine AGh ?_;unfold wW;refine ai.mk λh _ e x _=>?_
 have i:J8 .u8 (a:Int)=(((Cu (a % 256)).toNat:Nat):Int):=by rw[wrap_u8,Dv (BY _ (by decide))]
 rw[sF,sF,sF,i] at e;have j:Own Ik EZ h ⟨some ⟨b.size,0,none⟩,4,4⟩ (Ue a):=Own.lit (E:=Ik) (l:=Ue a) e rfl (by simp[maxLen,Ue]);exact NC (s:=⟨some ⟨b.size,0,none⟩,4,4⟩) mu mq SB j.view ⟨_,rfl,g _ x⟩
theorem sG {e:ao}{a:aa}{l:List UInt8}{b:A2X}(f:l.length<=1099511627776)(g:1048576<l.length->b (J1 #[J7 ⟨#[]⟩,J6 J9 2]) a)
  (h:l.length<=1048576-> ∀d,Ext a d->b (J1 #[J7 (Ae (Iq l)),J6 J9 0]) d):AA e P IU #[J7 (Ae l)] a b:=by
 refine AGY ?_;unfold wM;rw[AP];refine ab.intro (λc=>g (by simp at c;omega)) (λc=>?_);have i:l.length<=1048576:=by simp at c;omega
 have:=AZ (n:=l.length) (by omega);rw[CL (by omega)];refine Cj (by omega) λm j=>⟨_,rfl,?_⟩
 refine AOM f ⟨_,rfl,?_⟩;refine AKO λo k=>⟨_,rfl,⟨?_,?_,?_⟩⟩
 ·grind [AP,max_i64,NF]
 ·rw[Aq,AP,max_i64,A1,NF];omega
 ·rw[Aq,Aq];exact h i _ (j.trans k)
theorem ARG {B:ao}{f:aa}{l:List UInt8}{w:A2X}(C:l.length<=8796093022208)
  (g: ∀y,Ext f y->w (J1 #[J7 (Ae (Qf l).2.1),J7 (Ae (Qf l).2.2),J6 J9 ((Qf l).1:Int)]) y):AA B P Tx #[J7 (Ae l)] f w:=by
 refine AGT ?_;unfold wY;rw[AP];have d:=g f Mod.refl;refine ANc (by rw[AP];exact C) (λh=>⟨_,_,_,rfl,?_⟩) (λb t h=>⟨_,_,_,rfl,?_⟩)<;>rw[CE] at h
 ·have k:Qf l=if l.length<10/\ ∀c∈l,128<=c.toNat then(20,[],[]) else(21,[],[]):=by unfold Qf;rw[h]
  rw[k] at d;refine ah.mk λK n=>ab.yes rfl (n _ _ ?_)
  refine ab.intro (λa=>?_) (λa=>?_)
  ·have o:l.length<10:=by simp at a;omega
   refine Loop.rule (λm x e=> ∃i:Nat,x=((i:Int),())/\e=f/\m=l.length-i/\i<=l.length/\ ∀c∈l.take i,128<=c.toNat) ?_ ⟨0,rfl,rfl,rfl,by omega,by simp⟩;rintro Q m _ e ⟨i,rfl,R,rfl,hi,z⟩ D;subst e;refine ab.intro (λp=>?_) (λp=>?_)
   ·have q:i<l.length:=by simpa using p
    obtain⟨c,E⟩: ∃c,l[i]? =some c:=⟨_,A2 q⟩;refine⟨⟨by dsimp only;omega,by dsimp only;omega⟩,?_⟩;dsimp only;rw[Ws (c:=c) (by rw[CE];exact E)];refine ab.intro (λF=>?_) (λF=>?_)
    ·rw[if_neg] at d
     ·exact d
     grind
    ·rw[Ac (by omega)];refine D (l.length-(i+1)) _ _ (by omega) ⟨i+1,rfl,rfl,rfl,q,λx S=>?_⟩
     grind [List.take_add_one,Option.toList_some]
   ·have q:i=l.length:=by simp at p;omega
    rw[AD (by omega)] at z;rw[if_pos ⟨o,z⟩] at d;exact d
  ·have o: ¬l.length<10:=by simp at a;omega
   rw[if_neg (λe=>o e.1)] at d;refine ah.mk λG r=>ab.yes rfl (r _ _ (ab.yes rfl d))
 ·obtain⟨T,U⟩:=sC h;have V:t.length<=8796093022208:=by grind
  have k:Qf l=if 1048576<b then(21,[],[]) else if t.length<4+b then(20,[],[])
    else if t.take 4=Ue (jT ((t.drop 4).take b)) then(0,(t.drop 4).take b,t.drop (4+b)) else(21,[],[]):=by unfold Qf;rw[h]
  rw[k] at d g;refine ah.mk λK n=>ab.no rfl (n _ _ (ab.no rfl ?_))
  refine ah.mk λG r=>ab.no rfl (r _ _ ?_)
  refine ab.intro (λa=>?_) (λa=>?_)
  ·have s:1048576<b:=by simp at a;omega
   rw[if_pos s] at d;exact d
  have s: ¬1048576<b:=by simp at a;omega
  rw[if_neg s] at d g;rw[AP];refine ah.mk λH I=>?_
  have key: ∀u:Bool,(u=true↔t.length<4+b)->H (u,()) f:=λu J=>by
   refine I _ _ ?_;refine ab.intro (λa=>?_) (λa=>?_)
   ·rw[if_pos (J.1 a)] at d;exact d
   have v: ¬t.length<4+b:=λe=>by grind
   rw[if_neg v] at d g;have L:J8 .u64 ((4:Int)+(b:Int))=((4+b:Nat):Int):=by grind [CL]
   rw[L];refine⟨⟨by omega,by omega⟩,⟨by omega,by omega⟩,⟨by omega,by omega⟩,?_⟩;have M:(Ae t).extract (4:Int).toNat ((4+b:Nat):Int).toNat=Ae ((t.drop 4).take b):=by rw[show(4:Int).toNat=4 from rfl,A6,ARd,List.drop_take];congr 2;omega
   have em:(Ae t).extract 0 (4:Int).toNat=Ae (t.take 4):=AHW _ _;have A:(Ae t).extract ((4+b:Nat):Int).toNat (Ae t).size=Ae (t.drop (4+b)):=by rw[A6,Wx]
   rw[AP] at A;rw[M,em,A];refine AOM (by simp;omega) ⟨_,rfl,?_⟩;refine AKO λv N=>⟨_,rfl,?_⟩
   have j:=g v N;rw[Bl];refine ab.intro (λa=>?_) (λa=>?_)
   ·rw[if_neg (by grind)] at j;exact j
   ·rw[if_pos (by grind [Pm])] at j;exact⟨⟨by omega,by omega⟩,j⟩
  refine ab.intro (λa=>key _ ⟨λ_=>by simp at a;omega,λ_=>rfl⟩) (λa=>key _ ?_);have W:4<=t.length:=by simp at a;omega
  have O:J8 .u64 (J8 J9 ((t.length:Int)-(4:Int)))=((t.length-4:Nat):Int):=by grind [Fz,CL]
  rw[O];simp;omega
theorem Ex.mk {b:aa}{a:Q6}{K:Option Nat->Prop}{n:Option Nat}(c:af b a=some (.map n))(d:K n):Ex b a K:=⟨n,c,d⟩
theorem jz:P.underlying CY=some (.map BD y5):=by kernel_rfl
theorem kZ:(zeroValue y5).calc P=some (J5 none):=by kernel_rfl
abbrev eO(a:List (Fi×Nat)):List (A2Y×J0):=a.map λp=>(p.1.name,Ap p.2)
structure FU (h:aa) (b r:Nat) (kv:List (Fi×Nat)) (m:Bx):Prop where
 head:h[b]? =some (J2 #[.map (some r),J6 J9 m.fuel,J3 m.down] rn (0,0))
 map:XO h r (eO kv)
 cells: ∀p∈kv,h[p.2]? =some (J2 #[J7 p.1.dr,J7 p.1.soft] Yu (0,0))
 perm:(kv.map (·.1)).Perm m.files
 nodup:(kv.map (·.2)).Nodup
 aJ:IA m
def LY(b a:Nat)(d:List (Fi×Nat))(c:Nat):Prop:=c=b\/c=a\/ ∃p∈d,p.2=c
def Dw(e:aa)(b:Nat)(f:Nat->Prop)(m:Bx):Prop:= ∃a d,FU e b a d m/\ ∀c,f c↔LY b a d c
theorem FU.gi {e:aa}{b a:Nat}{f:List (Fi×Nat)}{m:Bx}(c:FU e b a f m):a≠b:=by rintro rfl;obtain⟨g,h,d,_⟩:=c.map;rw[c.head] at d;cases d
theorem FU.eF {g:aa}{b c:Nat}{d:List (Fi×Nat)}{m:Bx}(a:FU g b c d m){p:Fi×Nat}(h:p∈d):p.2≠b/\p.2≠c:=by
 have e:=a.cells p h;constructor
 ·intro f;rw[f,a.head] at e;cases e
 ·intro f;obtain⟨i,j,k,_⟩:=a.map
  simp_all
theorem FU.lt {d:aa}{b e:Nat}{f:List (Fi×Nat)}{m:Bx}(a:FU d b e f m){c:Nat}(g:LY b e f c):c<d.size:=by
 rcases g with rfl|rfl|⟨p,h,rfl⟩
 ·exact Ai a.head
 ·exact a.map.lt
 ·exact Ai (a.cells p h)
theorem Dw.lt {d:aa}{b:Nat}{e:Nat->Prop}{m:Bx}(a:Dw d b e m){c:Nat}(f:e c):c<d.size:=by obtain⟨h,i,a,g⟩:=a;exact a.lt ((g c).1 f)
theorem Dw.aJ {c:aa}{b:Nat}{d:Nat->Prop}{m:Bx}(a:Dw c b d m):IA m:=by obtain⟨e,f,a,g⟩:=a;exact a.aJ
theorem FU.mod {g h:aa}{b d:Nat}{e:List (Fi×Nat)}{m:Bx}{T:Nat->Prop}(a:FU g b d e m)(x:Mod T g h)(f: ∀c,LY b d e c-> ¬T c):FU h b d e m:=
 ⟨x.ag a.head (f _ (.inl rfl)),a.map.mod x (f _ (.inr (.inl rfl))),λp i=>x.ag (a.cells p i) (f _ (.inr (.inr ⟨p,i,rfl⟩))),a.perm,a.nodup,a.aJ⟩
theorem Dw.mod {e f:aa}{b:Nat}{a T:Nat->Prop}{m:Bx}(d:Dw e b a m)(x:Mod T e f)(h: ∀c,a c-> ¬T c):Dw f b a m:=by obtain⟨i,j,d,g⟩:=d;exact⟨i,j,d.mod x λc k=>h c ((g c).2 k),g⟩
theorem Dw.ext {a c:aa}{b:Nat}{d:Nat->Prop}{m:Bx}(e:Dw a b d m)(x:Ext a c):Dw c b d m:=e.mod x λ_ _ a=>a
theorem FU.hd {f d:aa}{b e:Nat}{h:List (Fi×Nat)}{m c:Bx}(a:FU f b e h m)(j:d[b]? =some (J2 #[.map (some e),J6 J9 c.fuel,J3 c.down] rn (0,0)))(x:Mod (· =b) f d)(k:c.files=m.files)(g:IA c):FU d b e h c:=
 ⟨j,a.map.mod x a.gi,λp i=>x.ag (a.cells p i) (a.eF i).1,by rw[k];exact a.perm,a.nodup,g⟩
theorem tN(b:A2Y): ∀a:List (Fi×Nat),Vp b (eO a)=(a.find? λp=>decide (p.1.name=b)).map λp=>Ap p.2
 | []=>rfl
 |p::a=>by
  show Vp b ((p.1.name,Ap p.2)::eO a)=_;rw[Pg,tN b a,E0]
  grind
theorem FU.mem {d:aa}{b e:Nat}{a:List (Fi×Nat)}{m:Bx}(g:FU d b e a m){f:Fi}:f∈m.files↔ ∃c,(f,c)∈a:=by
 rw[<- g.perm.mem_iff]
 simp_all
theorem FU.look {i:aa}{b j:Nat}{d:List (Fi×Nat)}{m:Bx}(e:FU i b j d m)(a:A2Y):
  (Vp a (eO d)=none/\Dp a m.files=none)\/ ∃p∈d,Vp a (eO d)=some (Ap p.2)/\Dp a m.files=some p.1/\p.1.name=a:=by
 rw[tN];cases k:d.find? λp=>decide (p.1.name=a) with
 |none=>
  refine .inl ⟨rfl,AKy λf l=>?_⟩;obtain⟨c,n⟩:=e.mem.1 l
  grind
 |some p=>
  have g:p.1.name=a:=by grind
  have h:=Is k;refine .inr ⟨p,h,rfl,?_,g⟩;rw[<- g];exact e.aJ.sorted.find (e.mem.2 ⟨p.2,h⟩)
theorem AKb {a:List (Fi×Nat)}{l:List Fi}(p:(a.map (·.1)).Perm l)(s:G8 l):(a.map λq=>q.1.name).Nodup:=by
 have b:(l.map (·.name)).Nodup:=by refine List.pairwise_map.2 (s.imp λc=>Mk c)
 have d:(a.map λq=>q.1.name).Perm (l.map (·.name)):=by have:=p.map (·.name);simpa [CA,GF] using this
 exact(d.nodup_iff).2 b
theorem FU.inj {e:aa}{b f:Nat}{a:List (Fi×Nat)}{m:Bx}(c:FU e b f a m){p q:Fi×Nat}(g:p∈a)(h:q∈a)(j:p.1.name=q.1.name):p=q:=by
 have k:=AKb c.perm c.aJ.sorted;obtain⟨i,hi,rfl⟩:=CM g;obtain⟨d,l,rfl⟩:=CM h;have:i=d:=by
  have n:i<(a.map λq=>q.1.name).length:=by simpa using hi
  have o:d<(a.map λq=>q.1.name).length:=by simpa using l
  refine(OK (h₀:=n) (h₁:=o) k).1 ?_;simpa using j
 subst this;rfl
theorem FU.set {j h':aa}{b k:Nat}{c:List (Fi×Nat)}{m:Bx}(a:FU j b k c m){p:Fi×Nat}(e:p∈c){g:Fi->Fi}(A: ∀f,(g f).name=f.name)
  (o:h'[p.2]? =some (J2 #[J7 (g p.1).dr,J7 (g p.1).soft] Yu (0,0))) (x:Mod (· =p.2) j h') (r:IA {m with files:=Rc p.1.name g m.files}):
  FU h' b k (c.map λq=>(if q.1.name=p.1.name then g q.1 else q.1,q.2)) {m with files:=Rc p.1.name g m.files}:=by
 refine⟨x.ag a.head (a.eF e).1.symm,?_,?_,?_,?_,r⟩
 ·have d:eO (c.map λq=>(if q.1.name=p.1.name then g q.1 else q.1,q.2))=eO c:=by
   simp only[eO,CA];refine GO λq _=>?_
   grind
  rw[d];exact a.map.mod x (a.eF e).2.symm
 ·intro q s;obtain⟨l,h,rfl⟩:=List.mem_map.1 s;simp only;by_cases d:l.1.name=p.1.name
  ·rw[if_pos d];have:=a.inj h e d;subst this;exact o
  ·rw[if_neg d];refine x.ag (a.cells l h) λt=>d ?_
   have u:=a.nodup;obtain⟨i,hi,rfl⟩:=CM e;obtain⟨n,v,rfl⟩:=CM h;have:n=i:=by
    have w:i<(c.map (·.2)).length:=by simpa using hi
    have y:n<(c.map (·.2)).length:=by simpa using v
    refine(OK (h₀:=y) (h₁:=w) u).1 ?_;simpa using t
   subst this;rfl
 ·have z:=a.perm.map λf=>if f.name=p.1.name then g f else f
  simpa [Rc,CA,GF] using z
 ·simpa [CA,GF] using a.nodup
theorem tO {b d:Nat}{e:List (Fi×Nat)}{g:Fi×Nat->Fi}(c:Nat):LY b d (e.map λq=>(g q,q.2)) c↔LY b d e c:=by
 unfold LY;constructor
 ·grind
 ·rintro(a|a|⟨p,f,rfl⟩)
  ·exact .inl a
  ·exact .inr (.inl a)
  ·exact .inr (.inr ⟨_,List.mem_map.2 ⟨p,f,rfl⟩,rfl⟩)
theorem tP {b:A2Y}{v:J0}: ∀ {m:List (A2Y×J0)},Vp b m=none->fS b v m=m++ [(b,v)]
 | [],_=>rfl
 |p::m,a=>by
  rw[Pg] at a;split at a
  ·cases a
  ·rename_i c;unfold fS;rw[if_neg c,tP a];rfl
theorem l9 {d:ao}{a:aa}{b:Nat}{e f:J0}{down:Bool}{T:Q7}{c:A2X}(g:a[b]? =some (J2 #[e,f,J3 down] T (0,0)))(h:c (J3 down) a):
  AA d P G5 #[Ap b] a c:=by
 refine AEW ?_;unfold YJ;exact ab.no rfl (aA (Aa.mk (AB g rfl) h))
theorem AR9 {e:ao}{c:aa}{name:A2Y}{d:A2X}(a:d (J3 (Nb name)) c):AA e P Vb #[J7 name] c d:=by
 refine AIX ?_;unfold w9;unfold Nb at a;rw[Bl];refine ab.intro (λb=>?_) (λb=>?_)
 ·rw[b] at a;exact a
 ·rw[b] at a;have f:decide ((name.size:Int)>(32:Int))=decide (name.size>32):=by grind
  rw[f];simpa using a
def mS(fuel:Int):Int:=if fuel>0 then fuel-1 else fuel
theorem AUa {o:ao}{d:aa}{b:Nat}{h:J0}{fuel:Int}{down:Bool}{T:Q7}{i:A2X}(f:d[b]? =some (J2 #[h,J6 J9 fuel,J3 down] T (0,0)))(lo: -1<=fuel)(hi:fuel<=9223372036854775807)
  (p:fuel=0-> ∀a,a[b]? =some (J2 #[h,J6 J9 fuel,J3 true] T (0,0))->Mod (· =b) d a->a.size=d.size->i (J3 false) a)
  (e:fuel≠0-> ∀a,a[b]? =some (J2 #[h,J6 J9 (mS fuel),J3 down] T (0,0))->Mod (· =b) d a->a.size=d.size->i (J3 true) a):AA o P IG #[Ap b] d i:=by
 refine AC5 ?_;unfold VK;refine aA (AC.mk (AB f rfl) ?_);refine ab.intro (λc=>?_) (λc=>?_)
 ·refine aA (ae.dw f (by simp) λj g k l=>?_);exact p (by simpa using c) j (by simpa using g) k l
 ·have c:fuel≠0:=by simpa using c
  have e:=e c;unfold mS at e;refine ah.mk λK n=>?_
  refine aA (AC.mk (AB f rfl) ?_);refine ab.intro (λc=>?_) (λc=>?_)
  ·have m:fuel>0:=by simpa using c
   rw[if_pos m] at e;refine aA (AC.mk (AB f rfl) (aA (ae.dw f (by simp) λj g k l=>n _ _ ?_)));rw[wrap_i64 (by omega) (by omega)] at g;exact e j (by simpa using g) k l
  ·have m: ¬fuel>0:=by simpa using c
   rw[if_neg m] at e;exact n _ _ (e d f Mod.refl rfl)
theorem Jp(m:Bx):(Kh m).fuel=mS m.fuel/\(Kh m).down=m.down/\(Kh m).files=m.files:=by grind [Kh,mS]
theorem AMR {m:Bx}(g:IA m):IA (Kh m):=by have:=g.tick m.files g.sorted g.names g.wt;rwa [<- (Jp m).2.2] at this
theorem FU.je {p:ao}{e:aa}{b f:Nat}{g:List (Fi×Nat)}{m:Bx}(d:FU e b f g m){i:A2X}
  (q:m.fuel=0-> ∀a,FU a b f g (j7 m)->Mod (LY b f g) e a->i (J3 false) a)
  (r:m.fuel≠0-> ∀a,FU a b f g (Kh m)->Mod (LY b f g) e a->a.size=e.size->i (J3 true) a):AA p P IG #[Ap b] e i:=by
 refine AUa d.head d.aJ.lo d.aJ.hi (λj k l h o=>?_) (λj k l h o=>?_)
 ·exact q j k (d.hd l h rfl d.aJ.off) (h.ak λc _ n=> .inl n)
 ·obtain⟨s,t,u⟩:=Jp m;refine r j k (d.hd ?_ h u (AMR d.aJ)) (h.ak λc _ n=> .inl n) o;rw[s,t];exact l
theorem FU.fj {d:aa}{b a:Nat}{e:List (Fi×Nat)}{m:Bx}(i:FU d b a e m){p:Fi×Nat}(f:p∈e){data:A2Y}(k:IA {m with files:=Rc p.1.name (Tu data) m.files}){K:aa->Prop}
  (r: ∀j l,FU j b a l {m with files:=Rc p.1.name (Tu data) m.files}->Mod (LY b a e) d j->(∀ c,LY b a l c↔LY b a e c)->K j):
  At (some ⟨p.2,0,none⟩) λs=>AL d (s.add 1) λt=>aE (((t.size+data.size:Nat):Int)<=IntKind.i64.max)<|At (some ⟨p.2,0,none⟩) λu=>ae d (u.add 1) (J7 (t++data)) K:=by
 have h:=i.cells p f;refine aA (AL.mk (AB h rfl) ⟨?_,aA (ae.dw h (by simp) λn v o y=>?_)⟩)
 ·have n:bJ (Rc p.1.name (Tu data) m.files)<=8796093022208:=k.wt;have w:Tu data p.1∈Rc p.1.name (Tu data) m.files:=by refine List.mem_map.2 ⟨p.1,i.mem.2 ⟨p.2,f⟩,by simp⟩
  have x:=oI w;simp only[Tu,ATJ] at x;simp[IntKind.max,IntKind.bits,IntKind.signed];omega
 ·exact r n _ (i.set f (g:=Tu data) (λ_=>rfl) (by simpa [Tu] using v) o k) (o.ak λc _ h=> .inr (.inr ⟨p,f,h.symm⟩)) (λc=>tO (g:=λq=>if q.1.name=p.1.name then Tu data q.1 else q.1) c)
theorem tQ {S:ao}{e:aa}{b:Nat}{l:Nat->Prop}{m:Bx}{name data:A2Y}{L:A2X}(k:Dw e b l m)(T:bJ m.files+data.size+1<=8796093022208)
  (g: ∀B S',Dw B b S' (FY m name data).2->Mod l e B->(∀ c,S' c->l c\/e.size<=c)->L (J6 J9 (FY m name data).1) B):AA S P KA #[Ap b,J7 name,J7 data] e L:=by
 have n:=k.aJ.append (name:=name) (data:=data) T;obtain⟨j,o,k,r⟩:=k;refine Zj ?_;unfold SX;refine l9 k.head ⟨_,rfl,?_⟩;unfold FY at g n;refine ab.intro (λhd=>?_) (λhd=>?_)
 ·rw[if_pos hd] at g;exact g e l ⟨j,o,k,r⟩ Mod.refl (λc d=> .inl d)
 rw[if_neg (by simp[hd])] at g n;refine AR9 ⟨_,rfl,?_⟩;refine ab.intro (λw=>?_) (λw=>?_)
 ·rw[if_pos w] at g;exact g e l ⟨j,o,k,r⟩ Mod.refl (λc d=> .inl d)
 rw[if_neg (by simp[w])] at g n;have C: ∀ {q:aa},Mod (LY b j o) e q->Mod l e q:=λs=>s.ak λc _ d=>(r c).2 d
 refine k.je (λD q i s=>⟨_,rfl,?_⟩) (λD q i s ag=>⟨_,rfl,?_⟩)
 ·rw[if_pos D] at g;exact ab.yes rfl (g q l ⟨j,o,i,r⟩ (C s) (λc d=> .inl d))
 rw[if_neg D] at g n;refine ab.no rfl ?_;refine aA (Ex.mk (AO i.head rfl) (Sk jz SB kZ i.map ?_));rcases i.look name with⟨x,E⟩|⟨p,h,x,E,U⟩
 ·
  rw[x];refine⟨none,rfl,ah.mk λK F=>ab.yes rfl ?_⟩;refine ai.mk λaj _ V M ak=>?_
  have t:=i.mod M (λ_ _ e=>e);refine aA (Ex.mk (AO t.head rfl) ?_);have W:name.size<=32:=by simp[Nb] at w;omega
  have al:=lR (Kh m).files;have X:o.length=(Kh m).files.length:=by rw[<- i.perm.length_eq];simp
  rw[(Jp m).2.2] at X;have am:=lR m.files;refine APg jz SB t.map (by simp[maxLen];omega) (by simp[eO,maxLen];omega) λN O y an=>?_
  rw[tP x] at O;have ap:=y.ag V (by have:=i.map.lt;omega);have u:=E;rw[(Jp m).2.2] at u;have G:Vq name m.files=gP ⟨name,cN,cN⟩ m.files:=by unfold Vq;rw[u];rfl
  have Y:=UB u;have Z:=ze ⟨name,cN,cN⟩ m.files;simp only[oH] at Z;have ac:FU N b j (o++ [(⟨name,cN,cN⟩,q.size)]) {Kh m with files:=gP ⟨name,cN,cN⟩ m.files}:=by
   refine⟨y.ag t.head t.gi.symm,?_,?_,?_,?_,?_⟩
   ·rw[eO,Cl];exact O
   ·intro p h;rcases List.mem_append.1 h with h|h
    ·exact y.ag (t.cells p h) (t.eF h).2
    simp_all
   ·rw[Cl];refine(List.perm_append_singleton _ _).trans (((i.perm.trans (List.Perm.of_eq (Jp m).2.2)).cons _).trans (PV _ _).symm)
   ·rw[Cl];refine List.nodup_append.2 ⟨i.nodup,by simp,?_⟩;intro a ae c d;obtain⟨p,h,rfl⟩:=List.mem_map.1 ae;simp at d;subst d;have:=Ai (i.cells p h);omega
   ·refine k.aJ.tick _ (V8 k.aJ.sorted Y) (λf H=>?_) (by omega);rcases List.mem_cons.1 ((PV _ _).subset H) with rfl|H
    ·exact W
    ·exact k.aJ.names f H
  refine F _ _ ?_;rw[G] at g n;refine ac.fj (p:=(⟨name,cN,cN⟩,q.size)) (by simp) (data:=data) n λI v z J A=>?_
  have Q: ∀c,LY b j v c->LY b j o c\/e.size<=c:=λc d=>by
   rcases(A c).1 d with e|e|⟨p,h,rfl⟩
   ·exact .inl (.inl e)
   ·exact .inl (.inr (.inl e))
   ·rcases List.mem_append.1 h with h|h
    ·exact .inl (.inr (.inr ⟨p,h,rfl⟩))
    simp_all
  refine g I (LY b j v) ⟨j,v,z,λ_=>CC⟩ ?_ (λc d=>(Q c d).imp (r c).2 id);have af:Mod (LY b j o) q N:=M.mod.trans (y.ak λc _ d=> .inr (.inl d));refine C ((s.trans af).then (J.ak λc _ d=>Q c ((A c).2 d)))
 ·
  rw[x];refine⟨some ⟨p.2,0,none⟩,rfl,ah.mk λK F=>ab.no rfl (F _ _ ?_)⟩;have u:=E;rw[(Jp m).2.2] at u;have G:Vq name m.files=m.files:=by unfold Vq;rw[u];rfl
  rw[G] at g n;subst U;have R:=(Jp m).2.2;refine i.fj h (data:=data) (by rw[R];exact n) λI v z J A=>?_
  refine g I l ⟨j,v,by rw[R] at z;exact z,λc=>(r c).trans (A c).symm⟩ (C (s.trans J)) (λc d=> .inl d)
theorem tT {D:ao}{e:aa}{b:Nat}{o:Nat->Prop}{m:Bx}{name:A2Y}{x:A2X}(a:Dw e b o m)
  (d: ∀h',Dw h' b o (LV m name).2->Mod o e h'->x (J6 J9 (LV m name).1) h'):AA D P MN #[Ap b,J7 name] e x:=by
 have i:=a.aJ.sync (name:=name);obtain⟨j,r,a,k⟩:=a;refine ADE ?_;unfold WT;refine l9 a.head ⟨_,rfl,?_⟩;unfold LV at d i;have y: ∀ {l:aa},Mod (LY b j r) e l->Mod o e l:=λn=>n.ak λc _ f=>(k c).2 f
 refine ab.intro (λhd=>?_) (λhd=>?_)
 ·rw[if_pos hd] at d;exact d e ⟨j,r,a,k⟩ Mod.refl
 rw[if_neg (by simp[hd])] at d i;refine aA (Ex.mk (AO a.head rfl) (Sk jz SB kZ a.map ?_));rcases a.look name with⟨s,t⟩|⟨p,u,s,t,E⟩
 ·rw[s];rw[t] at d;exact⟨none,rfl,ab.yes rfl (d e ⟨j,r,a,k⟩ Mod.refl)⟩
 rw[s];rw[t,if_neg (by simp)] at d i;refine⟨some ⟨p.2,0,none⟩,rfl,ab.no rfl ?_⟩;refine a.je (λv l h n=>⟨_,rfl,?_⟩) (λv l h n H=>⟨_,rfl,?_⟩)
 ·rw[if_pos v] at d;exact ab.yes rfl (d l ⟨j,r,h,k⟩ (y n))
 rw[if_neg v] at d i;refine ab.no rfl ?_;refine aA (Ex.mk (AO h.head rfl) (Sk jz SB kZ h.map ?_));rw[s];refine⟨some ⟨p.2,0,none⟩,rfl,?_⟩;have f:=h.cells p u;refine aA (AL.mk (AO f rfl) (aA (AL.mk (AB f rfl) ⟨?_,?_⟩)))
 ·have w:=oI (LB t).2;have:=a.aJ.wt;simp[IntKind.max,IntKind.bits,IntKind.signed];omega
 refine aA (ae.mk f (by simp) λI F z J=>aA (ae.dw F (by simp) λw G A K=>?_));subst E;have B:=(Jp m).2.2;have C:=h.set u (h':=w) (g:=UL) (λ_=>rfl) (by simpa [UL] using G) (z.trans A) (by rw[B];exact i);rw[B] at C;refine d w ⟨j,_,C,λc=>(k c).trans (tO (g:=λq=>if q.1.name=p.1.name then UL q.1 else q.1) c).symm⟩ (y (n.trans ((z.trans A).ak λc _ f=> .inr (.inr ⟨p,u,f.symm⟩))))
theorem ARt {i:ao}{e:aa}{b:Nat}{j:Nat->Prop}{m:Bx}{name:A2Y}{g:A2X}(a:Dw e b j m)
  (c:g (J1 #[J7 (lT m name).1,J6 J9 (lT m name).2]) e):AA i P JO #[Ap b,J7 name] e g:=by
 obtain⟨l,n,a,o⟩:=a;refine ACq ?_;unfold VC;refine l9 a.head ⟨_,rfl,?_⟩;unfold lT at c;refine ab.intro (λhd=>?_) (λhd=>?_)
 ·rw[if_pos hd] at c;exact c
 rw[if_neg (by simp[hd])] at c;refine aA (Ex.mk (AO a.head rfl) (Sk jz SB kZ a.map ?_));rcases a.look name with⟨f,d⟩|⟨p,k,f,d,q⟩
 ·rw[f];rw[d] at c;exact⟨none,rfl,ab.yes rfl c⟩
 rw[f];rw[d] at c;refine⟨some ⟨p.2,0,none⟩,rfl,ab.no rfl ?_⟩;have h:=a.cells p k;refine aA (AL.mk (AO h rfl) (aA (AL.mk (AB h rfl) ⟨?_,c⟩)));have r:=oI (LB d).2;have:=a.aJ.wt;simp[IntKind.max,IntKind.bits,IntKind.signed];omega
theorem ATy(a:A2Y)(b:List (Fi×Nat)):iy a (eO b)=eO (b.filter λp=> !decide (p.1.name=a)):=by unfold iy eO;rw[List.filter_map];rfl
theorem tU {D:ao}{a:aa}{b:Nat}{i:Nat->Prop}{m:Bx}{name:A2Y}{y:A2X}(d:Dw a b i m)
  (e: ∀t S',Dw t b S' (Km m name).2->Mod i a t->(∀ c,S' c->i c)->y (J6 J9 (Km m name).1) t):AA D P IE #[Ap b,J7 name] a y:=by
 have k:=d.aJ.delete (name:=name);obtain⟨j,l,d,n⟩:=d;refine AAn ?_;unfold SH;refine l9 d.head ⟨_,rfl,?_⟩;unfold Km at e k;have z: ∀ {g:aa},Mod (LY b j l) a g->Mod i a g:=λo=>o.ak λc _ r=>(n c).2 r
 refine ab.intro (λhd=>?_) (λhd=>?_)
 ·rw[if_pos hd] at e;exact e a i ⟨j,l,d,n⟩ Mod.refl (λ_ a=>a)
 rw[if_neg (by simp[hd])] at e k;refine aA (Ex.mk (AO d.head rfl) (Sk jz SB kZ d.map ?_));rcases d.look name with⟨u,v⟩|⟨p,A,u,v,F⟩
 ·rw[u];rw[v] at e;exact⟨none,rfl,ab.yes rfl (e a i ⟨j,l,d,n⟩ Mod.refl (λ_ a=>a))⟩
 rw[u];rw[v,if_neg (by simp)] at e k;refine⟨some ⟨p.2,0,none⟩,rfl,ab.no rfl ?_⟩;refine d.je (λw g h o=>⟨_,rfl,?_⟩) (λw g h o G=>⟨_,rfl,?_⟩)
 ·rw[if_pos w] at e;exact ab.yes rfl (e g i ⟨j,l,h,n⟩ (z o) (λ_ a=>a))
 rw[if_neg w] at e k;refine ab.no rfl ?_;refine aA (Ex.mk (AO h.head rfl) (APB jz SB h.map λB C x H=>⟨rfl,?_⟩));rw[ATy] at C;have I:=(Jp m).2.2;have E:FU B b j (l.filter λp=> !decide (p.1.name=name)) {Kh m with files:=iB name m.files}:=by
  refine⟨x.ag h.head h.gi.symm,C,λq s=>?_,?_,?_,k⟩
  ·have s:=(List.mem_filter.1 s).1;exact x.ag (h.cells q s) (h.eF s).2
  ·have g:=d.perm.filter λf=> !decide (f.name=name)
   rw[List.filter_map] at g;exact g
  ·exact(List.filter_sublist.map _).nodup d.nodup
 refine e B (LY b j _) ⟨j,_,E,λ_=>CC⟩ (z (o.trans (x.ak λc _ r=> .inr (.inl r)))) (λc r=>(n c).2 ?_);rcases r with a|a|⟨p,A,rfl⟩
 ·exact .inl a
 ·exact .inr (.inl a)
 ·exact .inr (.inr ⟨p,(List.mem_filter.1 A).1,rfl⟩)
theorem tV {h:ao}{a:aa}{e:A2X}(i: ∀b d f,Dw d b f jQ->Ext a d->(∀ c,f c->a.size<=c)->e (Ap b) d):AA h P Wt #[] a e:=by
 refine ANL ?_;unfold wz;refine ai.mk λj _ k l q=>ai.mk λm _ n g r=>?_
 refine i _ m (LY j.size a.size []) ⟨_,[],⟨n,XO.empty (g.ag k (by simp)),by simp,HJ _,by simp,APs⟩,λ_=>CC⟩ (l.trans g) ?_;rintro c (rfl|rfl|⟨p,o,_⟩)
 ·omega
 ·exact A0 _
 ·cases o
end Go.Lf.G
namespace Go.Proofs
open Go.Shelf
def Tryz.cq:Go.Shelf.Ren:=⟨λ|105=>296|212=>322|99=>323|165=>324|166=>288|170=>325|169=>290|263=>347|264=>348|206=>349|240=>316|241=>350|276=>335|277=>358|a=>a,λ|9=>9|3=>3|4=>4|20=>20|0=>0|46=>177|109=>406|5=>5|72=>380|76=>349|51=>174|146=>175|53=>123|148=>424|70=>378|37=>186|75=>348|127=>400|164=>416|80=>140|a=>a,λ|a=>a⟩
theorem Tryz.dW:Go.Proofs.Lays.n105 Tryz.prog Tryz.cq:=by repeat' first|exact Lf.DZ (by kernel_rfl)|kernel_rfl|decide|constructor
theorem Tryz.dE:Builder.Extra Tryz.prog Tryz.cq:=by repeat' first|exact Lf.DZ (by kernel_rfl)|kernel_rfl|decide|constructor
theorem Tryz.ie:Lays.n166 Tryz.prog Tryz.cq:= {Tryz.dW with}
theorem Tryz.ig:Lays.n169 Tryz.prog Tryz.cq:= {Tryz.dW with}
def Tryz.eJ:Go.Shelf.Ren:=⟨λ|103=>319|210=>336|206=>349|a=>a,λ|9=>9|4=>4|24=>221|3=>3|a=>a,λ|a=>a⟩
theorem Tryz.ij:Go.Proofs.Lays.n103 Tryz.prog Tryz.eJ:=by repeat' first|exact Lf.DZ (by kernel_rfl)|kernel_rfl|decide|constructor
def Tryz.cC:Go.Shelf.Ren:=⟨λ|14=>320|16=>337|17=>305|19=>353|20=>354|21=>329|22=>330|23=>331|24=>332|25=>351|27=>54|26=>352|28=>101|29=>176|30=>243|31=>244|32=>245|33=>246|35=>285|34=>300|36=>301|37=>302|38=>303|39=>326|40=>327|a=>a,λ|9=>9|3=>3|22=>123|24=>348|25=>403|4=>4|34=>408|5=>5|36=>177|37=>186|0=>0|39=>411|21=>21|44=>429|47=>400|50=>437|48=>435|2=>2|52=>337|55=>340|59=>389|60=>174|20=>20|61=>390|65=>426|66=>427|67=>140|a=>a,λ|0=>3|1=>4|2=>0|3=>1|4=>2|a=>a⟩
theorem Tryz.dF:Go.Proofs.LaysPu.n14 Tryz.prog Tryz.cC:=by repeat' first|exact Lf.DZ (by kernel_rfl)|kernel_rfl|decide|constructor
def Tryz.dX:Go.Shelf.Ren:=⟨λ|171=>54|243=>101|246=>176|283=>243|284=>244|285=>245|286=>246|129=>285|317=>300|318=>301|319=>302|320=>303|337=>326|338=>327|a=>a,λ|3=>3|9=>9|2=>2|4=>4|171=>337|0=>0|53=>123|37=>186|5=>5|173=>340|212=>389|51=>174|20=>20|213=>390|46=>177|232=>426|233=>427|a=>a,λ|17=>0|18=>1|19=>2|a=>a⟩
theorem Tryz.gq:Go.Proofs.LaysM.n171 Tryz.prog Tryz.dX:=by repeat' first|exact Lf.DZ (by kernel_rfl)|kernel_rfl|decide|constructor
end Go.Proofs
namespace Go.Lf
open Go
def Pd(a:Nat):List UInt8:=Lib.repeatL [48] (8-(Lib.decDigits a).length)++Lib.decDigits a
def fA(a:Nat)(l:List UInt8):Nat:=l.foldl (λa c=>a*10+(c.toNat-48)) a
def oB(l:List UInt8):Prop:= ∀c∈l,48<=c.toNat/\c.toNat<=57
theorem oC {a:Nat}(b:a<10):(UInt8.ofNat (48+a)).toNat=48+a:=by simp only[UInt8.toNat_ofNat'];omega
theorem XJ: ∀a:Nat,oB (Lib.decDigits a)/\fA 0 (Lib.decDigits a)=a:=by
 intro a
 induction a using Nat.strongRecOn with
 |ind a g=>
  by_cases d:a<10
  ·rw[Lib.decDigits,dif_pos d];refine⟨λc b=>?_,?_⟩
   ·rw[List.mem_singleton.1 b,oC d];omega
   ·simp only[fA,Hk,N4,oC d];omega
  ·rw[Lib.decDigits,dif_neg d];obtain⟨h,e⟩:=g (a / 10) (by omega);have f:a % 10<10:=BY _ (by decide);refine⟨λc b=>?_,?_⟩
   ·rcases List.mem_append.1 b with b|b
    ·exact h c b
    ·rw[List.mem_singleton.1 b,oC f];omega
   ·unfold fA at e ⊢;rw[GP,e];simp only[Hk,N4,oC f];omega
theorem rI: ∀k:Nat,oB (Lib.repeatL [48] k)/\ ∀l,fA 0 (Lib.repeatL [48] k++l)=fA 0 l
 |0=>⟨λc a=>(by cases a),λl=>rfl⟩
 |k+1=>by
  obtain⟨b,d⟩:=rI k;refine⟨λc a=>?_,λl=>?_⟩
  ·rcases List.mem_append.1 a with a|a
   ·rw[List.mem_singleton.1 a];decide
   ·exact b c a
  ·show fA 0 (([48]++Lib.repeatL [48] k)++l)=_;rw[A4];exact d l
theorem rJ(a:Nat):oB (Pd a)/\fA 0 (Pd a)=a:=by
 refine⟨λc b=>?_,?_⟩
 ·rcases List.mem_append.1 b with b|b
  ·exact(rI _).1 c b
  ·exact(XJ a).1 c b
 ·exact((rI _).2 _).trans (XJ a).2
theorem yN: ∀(l:List UInt8) (a:Nat),a<=fA a l
 | [],a=>A0 _
 |c::l,a=>by
  have:=yN l (a*10+(c.toNat-48));have b:fA a (c::l)=fA (a*10+(c.toNat-48)) l:=rfl;rw[b];omega
theorem yO: ∀(l:List UInt8) (a:Nat),oB l->fA a l<=4294967295->Lib.parseUintM 4294967295 a l= .ok (fA a l)
 | [],a,_,_=>rfl
 |c::l,a,hd,b=>by
  have d:fA a (c::l)=fA (a*10+(c.toNat-48)) l:=rfl;rw[d] at b ⊢;have e:=hd c (by simp);have g:=yN l (a*10+(c.toNat-48));unfold Lib.parseUintM;rw[if_pos e,if_neg (by omega),if_neg (by omega)];exact yO l _ (λx f=>hd x (AH _ f)) b
theorem yP: ∀(l:List UInt8) (a:Nat) {u:Nat},a<=4294967295->Lib.parseUintM 4294967295 a l= .ok u->u<=4294967295
 | [],a,u,d,b=>by
  unfold Lib.parseUintM at b;injection b with b;omega
 |c::l,a,u,d,b=>by
  unfold Lib.parseUintM at b;split at b
  ·split at b
   ·cases b
   ·split at b
    ·cases b
    ·exact yP l _ (by omega) b
  ·cases b
theorem yQ {a:Nat}(d:a<=4294967295):Lib.parseUintB 32 (Pd a)= .ok a:=by
 obtain⟨e,b⟩:=rJ a;have f:Pd a≠ []:=by intro g;have h:Lib.decDigits a= []:=(List.append_eq_nil_iff.1 g).2;have c:=congrArg List.length h;rw[Lib.decDigits_length] at c;have:=Lib.nDigits_pos a;simp at c;omega
 unfold Lib.parseUintB;rw[if_neg f];have:=yO (Pd a) 0 e (by rw[b];exact d);rw[b] at this;exact this
theorem AS3 {a b:Nat}(d:Pd a=Pd b):a=b:=by have c:=(rJ a).2;rw[d,(rJ b).2] at c;exact c.symm
theorem ALq {k:Nat}: ∀ {n:Nat},n<10^(k+1)->Lib.nDigits n<=k+1:=by
 induction k with
 |zero=>intro n a;rw[Lib.nDigits_small (by simpa using a)];omega
 |succ k c=>
  intro n a;by_cases b:n<10
  ·rw[Lib.nDigits_small b];omega
  ·rw[Lib.nDigits_big b];have:=c (n:=n / 10) (by rw[D0] at a;omega);omega
theorem yR {n:Nat}(a:n<=99999999):(Pd n).length=8:=by have b:=ALq (k:=7) (n:=n) (by have:(10:Nat)^(7+1)=100000000:=(by decide);omega);simp only[Pd,A1,Lib.repeatL_length,Lib.decDigits_length,BE];omega
theorem AME {a:Nat}(b:(Pd a).length=8):a<=99999999:=by
 have c:Lib.nDigits a<=8:=by simp only[Pd,A1,Lib.repeatL_length,Lib.decDigits_length,BE] at b;omega
 have d:=Lib.lt_pow_nDigits a;have e:(10:Nat)^Lib.nDigits a<=10^8:=Se (by decide) c;have:(10:Nat)^8=100000000:=by decide
 omega
def br(a:A2Y)(b:Nat):A2Y:=a++Ae (Pd b)
theorem TK(a:A2Y)(b:Nat):bl (br a b)=bl a++Pd b:=by show(a++Ae (Pd b)).data.toList=a.data.toList++Pd b;rw[HK,LO];exact congrArg _ (CE _)
theorem oD {a:A2Y}{b c:Nat}(e:br a b=br a c):b=c:=by have d:=congrArg bl e;rw[TK,TK] at d;exact AS3 (HL d)
theorem ASW {nm:A2Y}{a:Nat}(b:a<=99999999):(br nm a).size=nm.size+8:=by rw[br,Fm,AP,yR b]
inductive rK:List UInt8->List (List UInt8)->Prop
 |stop {l:List UInt8} (h:(Qf l).1≠0):rK l []
 |step {l:List UInt8} {rs:List (List UInt8)} (h:(Qf l).1=0) (s:rK (Qf l).2.2 rs):rK l ((Qf l).2.1::rs)
abbrev aT(a:List (List UInt8)):List UInt8:=a.flatMap Iq
theorem AR6:(Qf []).1≠0:=by decide
theorem LX {r:List UInt8}(a:r.length<=1048576):r.length+5<=(Iq r).length/\(Iq r).length<=r.length+14:=by
 have b:=AZ (n:=r.length) (by omega);have c:1<=(Bt r.length).length:=by rw[Bt];split<;>simp
 simp only[Iq,A1,NF];omega
end Go.Lf
namespace Go.Lf.G
open Go
def oY:String:=Proofs.YtfiljlifdlfkkaaGreatDoor.Rows.worldSpreadsRow.named.getD 2 (String.ofList [])
def cW(a:aa):Prop:= ∀(b:ao) (c:Nat),Lib.TabIs P (b.at a c) oY .u64 Lib.pow10Tab
theorem cW.ext {a b:aa}(t:cW a)(x:Ext a b):cW b:=by intro c d;have e:=(Lib.tabBelow_of_tabIs (t c d)) (c.at b d) ⟨rfl,rfl,rfl,x.size,λf g=>x.get f g (λa=>a)⟩;exact e
def kO(b:aa)(g:Nat):Prop:= ∃a,af b ⟨g,0,none⟩=some a/\(a= .nilIface\/ ∃c d,a= .iface c d)
theorem kO.ext {a b:aa}{g:Nat}(c:kO a g)(x:Ext a b):kO b g:=by obtain⟨d,e,f⟩:=c;exact⟨d,x.af e,f⟩
structure bR (h:aa):Prop where
 dx:cW h
 tv:kO h (Proofs.Tryz.cC.g 0)
 tw:kO h (Proofs.Tryz.cC.g 1)
theorem bR.ext {b c:aa}(a:bR b)(x:Ext b c):bR c:=⟨a.dx.ext x,a.tv.ext x,a.tw.ext x⟩
theorem sN {e:ao}{d:aa}{i:Nat}{a:World}(b:RowKit.Below d.size (e.at d i) a):a=e.at a.heap a.drawn/\Ext d a.heap:=by obtain⟨f,g,h,j,k⟩:=b;refine⟨?_,⟨j,λc l _=>k c l⟩⟩;cases a;simp only[ao.at] at f g h ⊢;subst f g h;rfl
theorem AHe {d:ao}{b:aa}{e:Nat}{a:Q6}{v:J0}(c:af b a=some v):(d.at b e).cell? a=some v:=by unfold af at c;unfold World.cell?;exact c
theorem Wy {d:ao}{a:aa}{c:Int}{e:A2X}(t:cW a)(g: -9223372036854775808<=c)(h:c<=9223372036854775807)(i: ∀f,Ext a f->e (J7 ⟨(Lib.itoa c).toArray⟩) f):
  AA d P Hz #[J6 J9 c] a e:=by
 intro m;refine Calls.mono (Proofs.Any.strconv_Itoa Proofs.Tryz.gq c g h (d.at a m) (t d m)) ?_;rintro l n ⟨rfl,j,os,rfl⟩;refine⟨_,rfl,a++os,m+j,rfl,i _ ⟨by simp,λb k _=>by rw[Kf k]⟩⟩
theorem APv {b:ao}{a:aa}{s:A2Y}{c:Nat}{d:A2X}(g:c<=8)(h:s.size<=8)(i: ∀e,Ext a e->d (J7 (Ae (Lib.repeatL (bl s) c))) e):
  AA b P R9 #[J7 s,J6 J9 c] a d:=by
 intro m;have k:s.size*c<=8*8:=Nat.mul_le_mul h g;refine Calls.mono (Proofs.Any.strings_Repeat Proofs.Tryz.dW Proofs.Tryz.dE s c (b.at a m) (by omega) (by omega)) ?_;rintro l f ⟨rfl,hB⟩;obtain⟨j,x⟩:=sN hB;exact⟨_,rfl,f.heap,f.drawn,j,i _ x⟩
theorem AIb {b:ao}{a:aa}{s p:A2Y}{c:A2X}(d:c (J1 #[J7 (Ae (Lib.trimPrefix (bl s) (bl p))),J3 (Lib.hasPrefix (bl s) (bl p))]) a):
  AA b P OZ #[J7 s,J7 p] a c:=by
 intro m;refine Calls.mono (Proofs.Any.strings_CutPrefix Proofs.Tryz.ij s p (b.at a m)) ?_;rintro e f ⟨rfl,rfl⟩;exact⟨_,rfl,a,m,rfl,d⟩
theorem ARh {g:ao}{a:aa}{s:A2Y}{h:A2X}(o:bR a)(z:s.size<=8)
  (p: ∀u:Nat,Lib.parseUintB 32 (bl s)= .ok u-> ∀e,Ext a e->h (J1 #[.int .u64 u,.nilIface]) e)
  (q:(∀ u,Lib.parseUintB 32 (bl s)≠ .ok u)-> ∀e (w:Int) t v,Ext a e->h (J1 #[.int .u64 w,.iface t v]) e):
  AA g P Oq #[J7 s,J6 J9 10,J6 J9 32] a h:=by
 intro m;cases c:Lib.parseUintB 32 (bl s)
 ·rename_i u;refine Calls.mono (Proofs.Any.strconv_ParseUint_10_at32_ok Proofs.Tryz.dF s (by omega) u c (g.at a m)) ?_;rintro r d ⟨rfl,i|i⟩
  ·subst i;exact⟨_,rfl,a,m,rfl,p u c a Mod.refl⟩
  ·subst i;refine⟨_,rfl,_,_,rfl,p u c _ ?_⟩;refine⟨?_,λb A _=>?_⟩
   ·simp[Lib.bytesWorld,World.freeze,World.alloc,World.drew,ao.at]
   ·simp[Lib.bytesWorld,World.freeze,World.alloc,World.drew,ao.at,Hi,Array.getElem?_push];rw[if_neg (by omega),if_neg (by omega)]
 ·obtain⟨j,k,l⟩:=o.tv;refine Calls.mono (Proofs.Any.strconv_ParseUint_10_at32_syntax Proofs.Tryz.dF s (by omega) c j (g.at a m) (AHe k) l) ?_;rintro r d ⟨y,rfl,_,_,hB⟩;obtain⟨n,x⟩:=sN hB;exact⟨_,rfl,d.heap,d.drawn,n,q (λu f=>by rw[c] at f;cases f) _ _ _ _ x⟩
 ·obtain⟨j,k,l⟩:=o.tw;refine Calls.mono (Proofs.Any.strconv_ParseUint_10_at32_range Proofs.Tryz.dF s (by omega) c j (g.at a m) (AHe k) l) ?_;rintro r d ⟨y,rfl,_,_,hB⟩;obtain⟨n,x⟩:=sN hB;exact⟨_,rfl,d.heap,d.drawn,n,q (λu f=>by rw[c] at f;cases f) _ _ _ _ x⟩
theorem p5 {g:ao}{c:aa}{b:A2Y}{a:Nat}{d:A2X}(h:bR c)(p:a<=4294967295)(q:b.size<=1099511627776)(i: ∀e,Ext c e->d (J7 (br b a)) e):
  AA g P LK #[J7 b,J6 J9 a] c d:=by
 refine AKF ?_;unfold vU;refine Wy h.dx (by omega) (by omega) λr j=>⟨_,rfl,?_⟩
 have k:Lib.itoa (a:Int)=Lib.decDigits a:=Lib.itoa_nonneg a;rw[k];have f:(⟨(Lib.decDigits a).toArray⟩:A2Y).size=(Lib.decDigits a).length:=by simp[ByteArray.size]
 have s:(Lib.decDigits a).length<=20:=by rw[Lib.decDigits_length];exact Lib.nDigits_le20 a (by omega)
 have l:(if((J8 J9 ((8:Int)-(((⟨(Lib.decDigits a).toArray⟩:A2Y).size:Nat):Int))):Int)>0 then(J8 J9 ((8:Int)-(((⟨(Lib.decDigits a).toArray⟩:A2Y).size:Nat):Int))) else 0)=((8-(Lib.decDigits a).length:Nat):Int):=by rw[f,wrap_i64 (by omega) (by omega)];split<;>omega
 rw[l];refine APv (by omega) (by decide) λm n=>⟨_,rfl,?_,?_,?_⟩
 ·have:(Ae (Lib.repeatL (bl ⟨#[48]⟩) (8-(Lib.decDigits a).length))).size<=8:=by rw[AP,Lib.repeatL_length];simp[bl]
  rw[max_i64];omega
 ·have:(Ae (Lib.repeatL (bl ⟨#[48]⟩) (8-(Lib.decDigits a).length))).size<=8:=by rw[AP,Lib.repeatL_length];simp[bl]
  rw[Fm,max_i64,f];omega
 ·have:=i m (j.trans n);have o:br b a=(b++Ae (Lib.repeatL (bl ⟨#[48]⟩) (8-(Lib.decDigits a).length)))++⟨(Lib.decDigits a).toArray⟩:=by rw[br,Pd,<-Aq,ByteArray.append_assoc];rfl
  rw[o] at this;exact this
theorem APO {I:ao}{g:aa}{c s:A2Y}{p:A2X}(C:bR g)(J:c.size<=1099511627776)(U:s.size<=1099511627776)
  (D: ∀h (j:Nat),Ext g h->(j=0-> ∀a:Nat,1<=a->a<=99999999->s≠br c a)->(j≠0->j<=99999999/\s=br c j)->p (J6 J9 j) h):
  AA I P Tv #[J7 c,J7 s] g p:=by
 refine AGj ?_;unfold ZT;have l: ∀h,Ext g h->(∀ a:Nat,1<=a->a<=99999999->s≠br c a)->p (J6 J9 0) h:=λh x r=>D h 0 x (λ_=>r) (λg=>absurd rfl g)
 refine AIb ⟨_,_,rfl,?_⟩;cases k:Lib.hasPrefix (bl s) (bl c) with
 |false=>
  refine ah.mk λK n=>ab.yes rfl (n _ _ (ab.yes rfl (l g Mod.refl λa _ _ f=>?_)))
  subst f;rw[TK] at k;unfold Lib.hasPrefix at k;rw[SU] at k;exact k (List.isPrefixOf_iff_prefix.2 (List.prefix_append _ _))
 |true=>
  have E:=k;unfold Lib.hasPrefix at E;obtain⟨e,hd⟩:=List.isPrefixOf_iff_prefix.1 E;have L:Lib.trimPrefix (bl s) (bl c)=e:=by unfold Lib.trimPrefix;rw[if_pos k,<-hd];simp
  rw[L];refine ah.mk λK n=>ab.no rfl ?_
  have M: ∀b:Bool,b=true->(∀ a:Nat,1<=a->a<=99999999->s≠br c a)->K (b,()) g:=λb N r=>n _ _ (ab.yes N (l g Mod.refl r))
  have F:(Ae e).size=e.length:=AP e;by_cases w:e.length=8
  ·refine n _ _ (ab.no (by simp[F,w]) ?_);have G:bl (Ae e)=e:=Fg e;refine ARh C (by omega) (λu i d o=>⟨_,_,rfl,?_⟩) (λi d j t v o=>⟨_,_,rfl,ah.mk λO y=>?_⟩)
   ·rw[G] at i;have Q:u<=4294967295:=by
     have:Lib.parseUintB 32 e= .ok u:=i;unfold Lib.parseUintB at this;split at this
     ·cases this
     ·exact yP e 0 (by omega) this
    have R:J8 J9 (u:Int)=(u:Int):=wrap_i64 (by omega) (by omega);rw[R];refine ah.mk λO y=>?_
    refine⟨trivial,ab.no rfl ?_⟩;refine p5 (C.ext o) Q J λz S=>⟨_,rfl,y _ _ ?_⟩
    have A:=o.trans S;refine ab.intro (λq=>?_) (λq=>?_)
    ·have q:br c u≠s:=by
      intro f;have:bB (br c u) s=true:=by rw[Bl];exact decide_eq_true f
      dsimp only at q;rw[this] at q;cases q
     refine l z A λa _ B f=>q ?_
     have d:bl s=bl c++Pd a:=by rw[f,TK]
     rw[<- hd] at d;have m:e=Pd a:=HL d;rw[m,yQ (by omega)] at i;have:a=u:=by injection i
     rw[<- this];exact f.symm
    ·have q:br c u=s:=by
      have q:(!bB (br c u) s)=false:=q;have q:bB (br c u) s=true:=by simpa using q
      rw[Bl] at q;exact of_decide_eq_true q
     have d:bl s=bl c++Pd u:=by rw[<- q,TK]
     rw[<- hd] at d;have m:e=Pd u:=HL d;have T:u<=99999999:=AME (by rw[<- m];exact w);by_cases H:u=0
     ·subst H;refine l z A λa V _ f=>?_
      have:=oD (f.symm.trans q.symm);omega
     ·exact D z u A (λg=>absurd g H) λ_=>⟨T,q.symm⟩
   ·rw[G] at i;refine⟨trivial,ab.yes rfl (y _ _ (ab.yes rfl (l d o λa _ B f=>?_)))⟩;have d:bl s=bl c++Pd a:=by rw[f,TK]
    rw[<- hd] at d;have m:e=Pd a:=HL d;exact i a (by rw[m];exact yQ (by omega))
  ·refine M _ (by simp[F];omega) λa _ B f=>w ?_
   have d:bl s=bl c++Pd a:=by rw[f,TK]
   rw[<- hd] at d;rw[HL d,yR B]
open Go Go.ChangeShapes Go.WideShapes Go.ChangeAt Go.RowKit Go.Proofs.YtfiljlifdlfkkaaGreatDoor
theorem ARX {H:Type}(a:DataW H):1<=Rows.uptoBulk a:=by
 cases a with
 |lit l=>cases l<;>simp[Rows.uptoBulk]
 |nil=>simp[Rows.uptoBulk]
 |ptr a=>simp[Rows.uptoBulk]
 |slice b spare=>simp[Rows.uptoBulk]
 |agg c=>simp[Rows.uptoBulk]
 |iface t a=>simp[Rows.uptoBulk]
 |map d=>simp[Rows.uptoBulk]
 |held e=>simp[Rows.uptoBulk]
theorem AQf {H:Type}(l:List (DataW H)):l.length<=Rows.uptoBulkAll l:=by
 induction l with
 |nil=>simp[Rows.uptoBulkAll]
 |cons x a b=>have:=ARX x;simp only[Rows.uptoBulkAll,An];omega
theorem y9 {H:Type}{enc:Q7×J0->H}{P:Q1}(d:laidOutB P=true){e f:World}{g:Nat->Bool}: ∀ {ts:List Q7} {c:List J0} {ds:List (DataW H)} {ps:List MemPlace},
  (ts.all λt=>P.readableRec t&&decide (t<P.types.size))=true->DataW.TrodAll enc P e 0 (λ_=>true) true ts c ds ps->(∀ p∈ps,e.sameAt f p)->(∀ p∈ps,g p.block=true)->DataW.TrodAll enc P f 0 g true ts c ds ps
 | [],[],[],_,_,j,_,_=>j
 |t::ts,v::c,n::ds,_,b,⟨p,q,k,l,m⟩,h,i=>by
  simp only[N5,A3,decide_eq_true_eq] at b;subst m;exact⟨p,q,WideElems.Trod_stays d b.1.1 b.1.2 k (λx a=>h x (Hb _ a)) (λx a=>i x (Hb _ a)),
   y9 d (by simpa using b.2) l (λx a=>h x (ID _ a)) (λx a=>i x (ID _ a)),rfl⟩
def lJ(a:World):ao:=⟨a.tape,a.os,a.output⟩
theorem ARq {H:Type}{enc:Q7×J0->H}{P:Q1}{f:Func}{s:ChangeSpec}{a:World}{args:Array J0}{ds d:List (DataW H)}{j:List MemPlace}{r:Q7}{e:aa}{k:Nat}
  (l:DataW.Whole enc P f.params.toList s.vars false a args.toList ds d j) (u:s.vars= []) (z:(s.fn H (ds++d)).results= [.lit (.bool true)]) (A:(s.fn H (ds++d)).args=ds) (B:(s.fn H (ds++d)).vars= [])
  (C:laidOutB P=true) (g:(f.params.toList.all λt=>P.readableRec t&&decide (t<P.types.size))=true) (D:f.resultTypes= #[r]) (E:P.underlying r=some .bool) (x:Ext a.heap e):
  s.post enc P f false true false false a args (.bool true) ((lJ a).at e k):=by
 have v:=λp (g:p∈j)=>l.lt p g
 have F: ∀p∈j,a.sameAt ((lJ a).at e k) p:=λp g=>by
  have y:e[p.block]? =a.heap[p.block]? :=x.get _ (v p g) (λh=>h);cases p with
  |cell b off=>
   show af e ⟨b,off,none⟩=af a.heap ⟨b,off,none⟩;exact SE y
  |map b=>exact y
 obtain⟨p,q,hA,m,rfl,K,L⟩:=id l;rw[u] at m;have G:d= []/\q= []:=by
  cases d with
  |nil=>exact⟨rfl,m⟩
  |cons _ _=>exact m.elim
 obtain⟨rfl,rfl⟩:=G;refine⟨ds,[],p++ [],[],p,[],l,?_,?_,?_,?_,λh=>by cases h⟩
 ·rw[z,D];exact⟨[],[],⟨1,by simp[DataW.trod,Value.cells,E]⟩,rfl,rfl⟩
 ·rw[A];exact y9 C g hA (λn o=>F n (Hb _ o)) (λn o=>by simpa using v n (Hb _ o))
 ·rw[u,B];rfl
 ·refine⟨rfl,rfl,λi hi=>?_⟩;have I:((lJ a).at e k).heap[i]? =a.heap[i]? :=x.get i hi (λh=>h);rw[I];cases M:a.heap[i]? with
  |none=>trivial
  |some J=>
   cases J with
   |cells c t fr=>exact⟨rfl,rfl,rfl,λ_ _=>rfl⟩
   |map N O=>exact .inr ⟨rfl,rfl⟩
   |_=>rfl
theorem laid:laidOutB P=true:=by kernel_rfl
section
variable {H : Type} {enc : Q7 × J0 -> H} {w : World} {base : Nat} {spare : Nat -> Bool} {held : Bool}
theorem AUQ {d:Type}{E:cr d}{Q:d->DataW H->Prop}{o t:Q7}(C:P.underlying o=some (.slice t))(D:P.cellsOf t=E.w)
  (F: ∀j q x,DataW.trod enc P w base spare held j t q=some x-> ∃b:d,q=E.enc b/\Q b x.1) {j:Nat} {p:Q2} {len r:Nat} {x:DataW H×List MemPlace} (G:DataW.trod enc P w base spare held j o [.slice p len r]=some x):
  ∃(l:List d) (ds:List (DataW H)),View E w.heap ⟨p,len,r⟩ l/\l.length=ds.length/\(∀ (i:Nat) b k,l[i]? =some b->ds[i]? =some k->Q b k)/\Rows.uptoBulkAll ds+1<=Rows.uptoBulk x.1:=by
 rcases Deep.open_slice C G with⟨g,rfl⟩|⟨a,N,O,m,R,n,S,g,_,s,_,I,rfl,u⟩
 ·simp at g;obtain⟨rfl,rfl,rfl⟩:=g;exact⟨[],[],View.nil,rfl,by simp,by simp[Rows.uptoBulk,Rows.uptoBulkAll]⟩
 ·simp at g;obtain⟨rfl,rfl,rfl⟩:=g;have T:len<=m:=by rw[I];split<;>omega
  rw[D] at u;have: ∀i,i<len-> ∃b:d,Cells w.heap (a.add (i*E.w)) (E.enc b)/\Q b (n i):=λi hi=>by
   obtain⟨U,e,h⟩:=u i (by omega);obtain⟨b,rfl,J⟩:=F _ _ _ h;obtain⟨_,y,K⟩:=World.cells?_some e;refine⟨b,λz v A=>?_,J⟩;have L:z<E.w:=by rw[<- E.len b];exact(List.getElem?_eq_some_iff.1 A).1
   have:=K z L;rw[A] at this;exact this
  by_cases y:len=0
  ·subst y;refine⟨[],[],⟨rfl,s,λi b hi=>by simp at hi⟩,rfl,by simp,?_⟩;simp[Rows.uptoBulk,Rows.uptoBulkAll]
  ·obtain⟨M,_⟩:=this 0 (by omega);have: ∃f:Nat->d,∀i,i<len->Cells w.heap (a.add (i*E.w)) (E.enc (f i))/\Q (f i) (n i):=
    ⟨λi=>if hi:i<len then Classical.choose (this i hi) else M,λi hi=>by simp only[dif_pos hi];exact Classical.choose_spec (this i hi)⟩
   obtain⟨f,B⟩:=this;refine⟨(List.range len).map f,(List.range len).map n,⟨by simp,s,λi b hi=>?_⟩,by simp,λi b k e h=>?_,?_⟩
   ·simp only[B9] at hi;by_cases c:i<len
    ·simp[c] at hi;subst hi;exact⟨a,rfl,(B i c).1⟩
    ·simp[Nat.not_lt.1 c] at hi
   ·simp only[B9] at e h;by_cases c:i<len
    ·simp[c] at e h;subst e;subst h;exact(B i c).2
    ·simp[Nat.not_lt.1 c] at e
   ·simp only[Rows.uptoBulk];omega
end
theorem AQ1 {H c:Type}{d:c->DataW H->Prop}{l:List c}{ds:List (DataW H)}(h:l.length=ds.length)(f: ∀(i:Nat) a b,l[i]? =some a->ds[i]? =some b->d a b){a:c}(g:a∈l): ∃b∈ds,d a b:=by
 obtain⟨i,hi,rfl⟩:=CM g;have e:i<ds.length:=by omega
 exact⟨ds[i],BT e,f i _ _ (A2 hi) (A2 e)⟩
theorem iY:P.underlying BM=some (.int J9):=by kernel_rfl
theorem ya:P.underlying lK=some .bool:=by kernel_rfl
theorem nW:P.underlying BD=some .string:=by kernel_rfl
theorem yb:P.underlying Ar=some (.slice BM):=by kernel_rfl
theorem yc:P.cellsOf BD=1:=by kernel_rfl
theorem rp:P.cellsOf BM=1:=by kernel_rfl
theorem wf_i64 {a:Int}(b:(Lit.int J9 a).wf=true): -9223372036854775808<=a/\a<=9223372036854775807:=by simp[Lit.wf,IntKind.min,IntKind.max,IntKind.bits,IntKind.signed] at b;omega
section
variable {H : Type} {enc : Q7 × J0 -> H} {w : World} {base : Nat} {spare : Nat -> Bool} {held : Bool}
theorem open_ints {a:Nat}{p:Q2}{len c:Nat}{x:DataW H×List MemPlace}(b:DataW.trod enc P w base spare held a Ar [.slice p len c]=some x):
  ∃l:List Int,View Jh w.heap ⟨p,len,c⟩ l/\l.length+1<=Rows.uptoBulk x.1/\ ∀a∈l,-9223372036854775808<=a/\a<=9223372036854775807:=by
 obtain⟨l,ds,V,e,f,k⟩:=AUQ (E:=Jh) (Q:=λd m=> -9223372036854775808<=d/\d<=9223372036854775807) yb rp (λa n x g=>by
  obtain⟨s,h,o,i⟩:=DataW.trod_int iY g;exact⟨s,h,wf_i64 i⟩) b
 have:=AQf ds;exact⟨l,V,by omega,λa j=>by obtain⟨_,_,b⟩:=AQ1 e f j;exact b⟩
end
theorem AR0 {H:Type}{enc:Q7×J0->H}{a:World}{base:Nat}{v:J0}{c:DataW H}{ps:List MemPlace}(d:Value.okWide P a .any base Ar v)(e:DataW.Trod enc P a 0 (λ_=>true) true Ar v c ps):
  ∃(s:Sl) (l:List Int),v= .slice s.p s.len s.cap/\View Jh a.heap s l/\l.length+1<=Rows.uptoBulk c/\ ∀b∈l,-9223372036854775808<=b/\b<=9223372036854775807:=by
 obtain⟨p,len,f,rfl⟩:=okWide_slice yb d;obtain⟨b,g⟩:=e;obtain⟨l,h,i⟩:=open_ints g;exact⟨⟨p,len,f⟩,l,rfl,h,i⟩
end Go.Lf.G
namespace Go.Lf
open Go
def xK(a:A2Y)(i:Nat):Nat:=(Xo a+i*R8 a) % 4294967296
def cF(a:A2Y)(m i:Nat):Nat:=xK a i % (8*m)
def Ut(f:List UInt8)(a:Nat):Bool:=((f[a / 8]?).getD 0).toNat.testBit (a % 8)
def gb(f:List UInt8)(a:Nat):List UInt8:=f.set (a / 8) (Cu (((f[a / 8]?).getD 0).toNat ||| 2^(a % 8)))
theorem ATS(f:List UInt8)(a:Nat):(gb f a).length=f.length:=by simp[gb]
theorem yU {c a:Nat}(b:c<256)(d:a<8):c ||| 2^a<256:=by have e:2^a<2^8:=Nat.pow_lt_pow_right (by decide) d;have:c ||| 2^a<2^8:=I2 (by simpa using b) e;simpa using this
theorem AUT {f:List UInt8}{a:Nat}(c:a / 8<f.length)(x:Nat):Ut (gb f a) x=(Ut f x||decide (x=a)):=by
 unfold Ut gb;have d:a % 8<8:=BY _ (by decide);by_cases b:x / 8=a / 8
 ·rw[b,G4 c,HM,Dv (yU (UInt8.toNat_lt _) d),Nat.testBit_or,Nat.testBit_two_pow];congr 1;rw[DH,decide_eq_true_iff,decide_eq_true_iff];omega
 ·rw[Hj (by omega)];have:x≠a:=λe=>b (by rw[e])
  simp[this]
def fB(m:Nat)(f:List UInt8)(a:A2Y):List UInt8:=(List.range 4).foldl (λf i=>gb f (cF a m i)) f
theorem rQ {k:A2Y}{m i:Nat}(a:1<=m):cF k m i<8*m:=BY _ (by omega)
theorem WG {k:A2Y}{m:Nat}(b:1<=m): ∀(l:List Nat) (f:List UInt8),f.length=m->(l.foldl (λf i=>gb f (cF k m i)) f).length=m/\ ∀x,Ut (l.foldl (λf i=>gb f (cF k m i)) f) x=(Ut f x||l.any λi=>decide (x=cF k m i))
 | [],f,a=>⟨a,λx=>by simp⟩
 |i::l,f,a=>by
  have c:cF k m i / 8<f.length:=by have:=rQ (k:=k) (i:=i) b;omega
  obtain⟨d,e⟩:=WG (k:=k) b l (gb f (cF k m i)) (by rw[ATS,a]);refine⟨d,λx=>?_⟩;rw[Hk,e,AUT c,List.any_cons,Bool.or_assoc]
theorem AQe {k:A2Y}{m:Nat}(a:1<=m){f:List UInt8}(b:f.length=m):(fB m f k).length=m:=(WG a _ f b).1
theorem ASQ {a:A2Y}{m:Nat}(b:1<=m){f:List UInt8}(c:f.length=m){x:Nat}(d:Ut f x=true):Ut (fB m f a) x=true:=by unfold fB;rw[(WG b _ f c).2,d];rfl
theorem AQs {a:A2Y}{m:Nat}(b:1<=m){f:List UInt8}(c:f.length=m){i:Nat}(hi:i<4):Ut (fB m f a) (cF a m i)=true:=by unfold fB;rw[(WG b _ f c).2,CI];right;rw[List.any_eq_true];exact⟨i,List.mem_range.2 hi,by simp⟩
def OP(m:Nat):List UInt8:=List.replicate m 0
def jP(a:List A2Y)(m:Nat):List UInt8:=a.foldl (fB m) (OP m)
def oG(f:List UInt8)(a:A2Y):Bool:=(List.range 4).all λi=>Ut f (cF a f.length i)
def gN(f:List UInt8)(a:A2Y):Bool:=decide (f≠ [])&&decide (f.length<=8192)&&oG f a
theorem XI {m:Nat}(c:1<=m): ∀(a:List A2Y) (f:List UInt8),f.length=m->(a.foldl (fB m) f).length=m/\(∀ x,Ut f x=true->Ut (a.foldl (fB m) f) x=true)/\ ∀k∈a,∀i,i<4->Ut (a.foldl (fB m) f) (cF k m i)=true
 | [],f,b=>⟨b,λx d=>d,λk h=>by cases h⟩
 |k::a,f,b=>by
  have j:=AQe (k:=k) c b;obtain⟨l,g,n⟩:=XI c a (fB m f k) j;refine⟨l,λx d=>g x (ASQ c b d),λo e i hi=>?_⟩;rcases List.mem_cons.1 e with rfl|e
  ·exact g _ (AQs c b hi)
  ·exact n o e i hi
theorem ARz {b:List A2Y}{m:Nat}(d:1<=m)(e:m<=8192){c:A2Y}(f:c∈b):gN (jP b m) c=true:=by obtain⟨a,_,g⟩:=XI d b (OP m) (by simp[OP]);have a:(jP b m).length=m:=a;unfold gN oG;rw[a,A3,A3,decide_eq_true_iff,decide_eq_true_iff,Fk];refine⟨⟨λh=>?_,e⟩,λi hi=>g c f i (List.mem_range.1 hi)⟩;rw[h] at a;simp at a;omega
theorem ASi {a:List A2Y}{m:Nat}(b:1<=m):(jP a m).length=m:=(XI b a (OP m) (by simp[OP])).1
theorem AQu(v:J0)(a:Nat):(madeCells #[v] a).toList=List.replicate a v:=by
 apply List.ext_getElem
 ·simp[madeCells]
 ·intro i b c;simp[madeCells,Nat.mod_one]
theorem rX {a:Type}{b:cr a}{c:a}{v:J0}(d:b.enc c= [v]): ∀n,(List.replicate n c).flatMap b.enc=List.replicate n v
 |0=>rfl
 |n+1=>by rw[S7,S7,AM,d,rX d n];rfl
theorem oK {d:ao}{P:Q1}{e:Type}{E:cr e}{x0:e}{v z:J0}{t T:Q7}{B:Nat}(m:P.underlying t=some (.slice T))(hi:(P.info? T).map (λi=>(i.zero,i.size,i.bytes))=some (some z,1,B))
  (o:z.cells= #[v]) (f:E.w=1) (p:E.enc x0= [v]) {a:aa} {n:Nat} {g h:IntKind} (x:n*B<=140737488355328) (j:n<=maxLen) {K:Sl->aa->Prop}
  (q: ∀b,Own E T b ⟨some ⟨a.size,0,none⟩,n,n⟩ (List.replicate n x0)->Ext a b->b.size=a.size+1->K ⟨some ⟨a.size,0,none⟩,n,n⟩ b):
  Ad d P (Instr.makeSlice t (.int g (n:Int)) (.int h (n:Int))) a λv b=> ∃s:Sl,v= .slice s.p s.len s.cap/\K s b:=by
 intro k;cases c:P.info? T with
 |none=>rw[c] at hi;simp at hi
 |some i=>
  rw[c] at hi;simp only[Hh,Bs,Mb] at hi;obtain⟨r,u,w⟩:=hi;have hB:((i.bytes:Nat):Int)*((n:Nat):Int)<=281474976710656:=by rw[w,<-Int.natCast_mul,Cp];omega
  have l:=run_make (P:=P) (d.at a k) t T i z m c r g h (n:Int) (n:Int) (by omega) (Hv _) hB (by simp only[maxLen] at j;omega);simp only[A6,u,AN,o] at l;refine⟨_,a.push (.cells (madeCells #[v] n) T),k,l,⟨some ⟨a.size,0,none⟩,n,n⟩,rfl,q _ ⟨by simp,.inr ⟨a.size,madeCells #[v] n,rfl,by simp,A0 _,j,by simp[size_madeCells,f],?_⟩⟩ (Mod.push a _) (by simp)⟩;show(madeCells #[v] n).toList.take (n*E.w)=_;rw[AQu,f,AN,AD (by simp),rX p]
theorem zk {m:Nat}(a:m<=8192):J8 .u32 (J8 J9 ((8:Int)*((m:Nat):Int)))=((8*m:Nat):Int):=by rw[show(8:Int)*((m:Nat):Int)=((8*m:Nat):Int) by omega,Fz (by omega),wrap_u32,As (by omega)]
theorem AWi(a:A2Y)(i:Nat):xK a i<4294967296:=BY _ (by decide)
theorem zl(a:A2Y)(i:Nat):J8 .u32 (((xK a i:Nat):Int)+((R8 a:Nat):Int))=((xK a (i+1):Nat):Int):=by rw[<- Int.natCast_add,wrap_u32];congr 1;unfold xK;rw[Nat.mod_add_mod,Bm,Jx,IF]
theorem zn(a:A2Y):xK a 0=Xo a:=by unfold xK;rw[HT,DB,As (sy a)]
theorem zo(x m:Nat):((x:Nat):Int).tmod ((m:Nat):Int)=((x % m:Nat):Int):=(Iv x m).symm
theorem zr(x:Nat):((x:Nat):Int).tdiv (8:Int)=((x / 8:Nat):Int):=(Int.ofNat_tdiv x 8).symm
theorem zt(x:Nat):((x:Nat):Int).tmod (8:Int)=((x % 8:Nat):Int):=(Iv x 8).symm
theorem zu(x:Nat):min (((x % 8:Nat):Int).toNat) (IntKind.bits .u8)=x % 8:=by rw[A6];show min (x % 8) 8=_;omega
theorem ATl {c a:Nat}(d:c<256):(Gw .u8 (((c:Nat):Int).fdiv ((2:Int)^a)) (1:Int)==(0:Int))= !(c.testBit a):=by have e:c / 2^a<256:=Sf (LN _ _) d;rw[Px,show(1:Int)=((1:Nat):Int) from rfl,ASI e (by decide),Nat.and_one_is_mod,Nat.testBit_eq_decide_div_mod_eq];generalize c / 2^a=f;rcases Nat.mod_two_eq_zero_or_one f with b|b<;>rw[b]<;>rfl
theorem AV6 {c a:Nat}(d:c<256)(e:a<8):dS .u8 ((c:Nat):Int) (J8 .u8 ((1:Int)*((2:Int)^a)))=((c ||| 2^a:Nat):Int):=by
 have b:2^a<256:=by have:2^a<2^8:=Nat.pow_lt_pow_right (by decide) e;simpa using this
 have f:(1:Int)*((2:Int)^a)=((2^a:Nat):Int):=by rw[Int.one_mul,Int.natCast_pow];rfl
 rw[f,wrap_u8,As b,AU9 d b]
end Go.Lf
namespace Go.Lf.G
open Go
theorem APp {a:A2Y}{i:Nat}(hi:i<a.size): ∃c,a.data.toList[i]? =some c:=by
 have:i<a.data.toList.length:=by simpa using hi
 exact⟨_,A2 this⟩
theorem p6 {o:ao}{d:aa}{key:A2Y}{h:A2X}(r:key.size<=1099511627776)(p:h (.tuple #[.int .u32 (Xo key:Int),.int .u32 (R8 key:Int)]) d):AA o P Jv #[.string key] d h:=by
 refine AGe ?_;unfold wR;refine Loop.rule (λm x j=> ∃i:Nat,x=(((Vx (key.data.toList.take i)).1:Int),((Vx (key.data.toList.take i)).2:Int),(i:Int),())/\j=d/\m=key.size-i/\i<=key.size) ?_ ⟨0,rfl,rfl,rfl,by omega⟩;rintro K m _ j ⟨i,rfl,e,rfl,hi⟩ q;subst e;obtain⟨k,f⟩:=sx (key.data.toList.take i);refine ab.intro (λg=>?_) (λg=>?_)
 ·have a:i<key.size:=by simpa using g
  obtain⟨c,l⟩:=APp a;have n:c.toNat<256:=c.toNat_lt;refine⟨⟨by dsimp only;omega,by dsimp only;omega⟩,⟨by dsimp only;omega,by dsimp only;omega⟩,?_⟩;dsimp only;rw[Ws l,uK k n,AW7 f n,Ac (by omega)];refine q (key.size-(i+1)) _ _ (by omega) ⟨i+1,?_,rfl,rfl,a⟩;rw[AE,l,DM,AEF]
 ·have a:i=key.size:=by simp at g;omega
  have e:key.data.toList.take i=key.data.toList:=AD (by simp[a]);dsimp only;rw[e] at k f ⊢;have:dS .u32 (((Vx key.data.toList).2:Nat):Int) (1:Int)=((R8 key:Nat):Int):=AVY f (b:=1) (by decide);rw[this];exact p
theorem ZG {f:A2Y}:bB f (⟨#[]⟩:A2Y)=decide (bl f= []):=by
 rw[DH,Bl];constructor
 ·intro a;have a:=of_decide_eq_true a;subst a;rfl
 ·intro a;have a:=of_decide_eq_true a;cases f with
  |mk b=>
   have:b= #[]:=by apply Array.toList_inj.1;exact a
   rw[this];rfl
theorem AVV {f:A2Y}{i:Nat}{c:UInt8}(a:(bl f)[i]? =some c):f.data.toList[i]? =some c:=a
theorem ARY {u:ao}{l:aa}{f key:A2Y}{q:A2X}(v:key.size<=1099511627776)(a:q (.bool (gN (bl f) key)) l):AA u P Qv #[.string f,.string key] l q:=by
 refine AIV ?_;unfold vV;refine ah.mk λK r=>?_
 have g:=BF f;refine ab.intro (λe=>?_) (λe=>?_)
 ·refine r _ _ (ab.yes rfl ?_);rw[ZG,decide_eq_true_iff] at e;rw[e] at a;exact a
 ·refine r _ _ ?_;rw[ZG,decide_eq_false_iff_not] at e;refine ab.intro (λn=>?_) (λn=>?_)
  ·have h: ¬(bl f).length<=8192:=by simp at n;omega
   have:gN (bl f) key=false:=by unfold gN;rw[decide_eq_false h,On,Ft]
   rw[this] at a;exact a
  ·have h:f.size<=8192:=by simp at n;omega
   have w:1<=f.size:=by rw[<- g];exact List.length_pos_iff.2 e
   refine p6 v ⟨_,_,rfl,?_⟩;refine Loop.rule (λm x s=> ∃i:Nat,x=(((xK key i:Nat):Int),(i:Int),())/\s=l/\m=4-i/\i<=4/\ ∀b,b<i->Ut (bl f) (cF key f.size b)=true) ?_ ⟨0,by rw[zn];rfl,rfl,rfl,by omega,λb o=>by omega⟩;rintro E m _ s ⟨i,rfl,y,rfl,hi,t⟩ z;subst y;dsimp only;refine ab.intro (λp=>?_) (λp=>?_)
   ·have j:i<4:=by simp at p;omega
    have F:cF key f.size i<8*f.size:=rQ w;have G:=AWi key i;rw[zk h,zo];have A:xK key i % (8*f.size)=cF key f.size i:=rfl;rw[A,zr,zt,zu,wrap_u32,As (show cF key f.size i / 8<4294967296 by omega)];have B:cF key f.size i / 8<(bl f).length:=by rw[g];omega
    have k:(bl f)[cF key f.size i / 8]? =some (bl f)[cF key f.size i / 8]:=A2 B;obtain⟨c,k⟩: ∃c,(bl f)[cF key f.size i / 8]? =some c:=⟨_,k⟩;rw[Ws (AVV k),ATl c.toNat_lt];have C:Ut (bl f) (cF key f.size i)=c.toNat.testBit (cF key f.size i % 8):=by unfold Ut;rw[k];rfl
    refine⟨by omega,⟨by omega,by omega⟩,by omega,?_⟩;rw[<- C];refine ab.intro (λd=>?_) (λd=>?_)
    ·have d:Ut (bl f) (cF key f.size i)=false:=by simpa using d
     have:gN (bl f) key=false:=by
      unfold gN oG;rw[g];have:((List.range 4).all λi=>Ut (bl f) (cF key f.size i))=false:=by rw[List.all_eq_false];exact⟨i,List.mem_range.2 j,by simp[d]⟩
      simp[this]
     rw[this] at a;exact a
    ·have d:Ut (bl f) (cF key f.size i)=true:=by simpa using d
     rw[zl,Ac (by omega)];refine z (4-(i+1)) _ _ (by omega) ⟨i+1,rfl,rfl,rfl,j,λb o=>?_⟩;by_cases D:b=i
     ·subst D;exact d
     ·exact t b (by omega)
   ·have j:i=4:=by simp at p;omega
    have:gN (bl f) key=true:=by unfold gN oG;rw[g,A3,A3,decide_eq_true_iff,decide_eq_true_iff,Fk];exact⟨⟨e,h⟩,λb o=>t b (by rw[j];exact List.mem_range.1 o)⟩
    rw[this] at a;exact a
theorem AOp:(P.info? EZ).map (λi=>(i.zero,i.size,i.bytes))=some (some (.int .u8 0),1,1):=by kernel_rfl
theorem XE:P.underlying Dn=some (.slice EZ):=by kernel_rfl
theorem ARa:P.underlying EZ=some (.int .u8):=by kernel_rfl
theorem AOd:P.underlying BD=some .string:=by kernel_rfl
theorem ATT {Q:ao}{e:aa}{s:Sl}{ks:List A2Y}{m:Nat}{G:A2X}(y:View Jn e s ks)(R: ∀d∈ks,d.size<=1099511627776)(z:1<=m)(S:m<=8192)(au:ks.length<=1099511627776)(g: ∀b,s.ag=some b->b<e.size)
  (T: ∀H,Ext e H->G (.tuple #[.string (Ae (jP ks m)),.int J9 0]) H):AA Q P PI #[.slice s.p s.len s.cap,.int J9 (m:Int)] e G:=by
 refine AGS ?_;unfold w8;refine ah.mk λK U=>?_
 refine ab.no (by simp;omega) ?_;refine U _ _ (ab.no (by simp;omega) ?_);refine oK (E:=Ik) (x0:=0) (v:= .int .u8 0) XE AOp rfl rfl rfl (by omega) (by simp only[maxLen];omega) λI J t av=>?_
 have V:List.replicate m (0:UInt8)=OP m:=rfl;rw[V] at J;dsimp only;refine Loop.rule (λk x n=> ∃i:Nat,x=((i:Int),())/\k=ks.length-i/\i<=ks.length/\Mod (λc=>c=e.size) I n/\Own Ik EZ n ⟨some ⟨e.size,0,none⟩,m,m⟩ ((ks.take i).foldl (fB m) (OP m))) ?_ ⟨0,rfl,rfl,by omega,Mod.refl,J⟩;rintro aw k _ n ⟨i,rfl,rfl,hi,u,o⟩ W;have X:View Jn n s ks:=(y.ext t).mod u λb Y=>by have:=g b Y;omega
 dsimp only;refine ab.intro (λp=>?_) (λp=>?_)
 ·have q:i<ks.length:=by rw[y.len] at p;simp at p;omega
  have A:ks[i]? =some ks[i]:=A2 q;refine X.idx A λa ax h=>?_
  refine AL.mk h.str ?_;refine p6 (R _ (BT q)) ⟨_,_,rfl,?_⟩;have L:ks.take (i+1)=ks.take i++ [ks[i]]:=by rw[AE,A];rfl
  generalize ks[i]=d at A L;have M:((ks.take i).foldl (fB m) (OP m)).length=m:=(XI z (ks.take i) (OP m) (by simp[OP])).1;generalize Z:(ks.take i).foldl (fB m) (OP m)=w at o M;refine Loop.rule (λk x B=> ∃j:Nat,x=(((xK d j:Nat):Int),(j:Int),())/\k=4-j/\j<=4/\Mod (λc=>c=e.size) I B/\Own Ik EZ B ⟨some ⟨e.size,0,none⟩,m,m⟩ ((List.range j).foldl (λf i=>gb f (cF d m i)) w)) ?_ ⟨0,by rw[zn];rfl,rfl,by omega,u,o⟩;rintro ay k _ B ⟨j,rfl,rfl,az,N,r⟩ ac;dsimp only;refine ab.intro (λC=>?_) (λC=>?_)
  ·have D:j<4:=by simp at C;omega
   have aA:cF d m j<8*m:=rQ z;have ae:xK d j % (8*m)=cF d m j:=rfl;rw[zk S,zo,ae,zr,zt,zu,wrap_u32,As (show cF d m j / 8<4294967296 by omega)];have ag:((List.range j).foldl (λf i=>gb f (cF d m i)) w).length=m:=(WG z _ w M).1;generalize ai:(List.range j).foldl (λf i=>gb f (cF d m i)) w=F at r ag;have af:F[cF d m j / 8]? =some F[cF d m j / 8]:=A2 (by omega);obtain⟨c,h⟩: ∃c,F[cF d m j / 8]? =some c:=⟨_,af⟩;refine⟨by omega,?_⟩;refine r.view.idx h λaC aD aj=>?_
   rw[A6];refine AC.mk aj.byte ⟨by omega,?_⟩;refine r.view.idx h λO ak aE=>?_
   have al:=AV6 c.toNat_lt (show cF d m j % 8<8 by omega);rw[al];have am:=yU c.toNat_lt (show cF d m j % 8<8 by omega);rw[zl,Ac (by omega),<-add_zero (O.add (cF d m j / 8*1))];refine Own.store (E:=Ik) (i:=cF d m j / 8) (j:=0) (x:=c) (x':=Cu (c.toNat ||| 2^(cF d m j % 8))) (v:= .int .u8 ((c.toNat ||| 2^(cF d m j % 8):Nat):Int)) r h (by show [Value.int .u8 _]=_;rw[Dv am];rfl) (by decide) (λaF an ap aG=>?_) O ak;refine ac (4-(j+1)) _ _ (by omega) ⟨j+1,rfl,rfl,D,N.trans (ap.ak λb _ g=>?_),?_⟩
   ·simp[Sl.ag] at g;exact g.symm
   ·rw[RW,GP,ai,Hk,N4];unfold gb;rw[h];exact an
  ·have D:j=4:=by simp at C;omega
   subst D;rw[Ac (by omega)];refine W (ks.length-(i+1)) _ _ (by omega) ⟨i+1,rfl,rfl,q,N,?_⟩;rw[L,GP,Z];exact r
 ·have q:i=ks.length:=by rw[y.len] at p;simp at p;omega
  have aq:ks.take i=ks:=by rw[q];simp
  rw[aq] at o;have ar:((ks.foldl (fB m) (OP m)))=jP ks m:=rfl;rw[ar] at o;refine NC XE ARa AOd (s:=⟨some ⟨e.size,0,none⟩,m,m⟩) (l:=jP ks m) o.view ⟨_,rfl,?_⟩;exact T n ⟨by have:=t.size;have:=u.size;omega,λb g _=>(u.get b (by have:=t.size;omega) (by omega)).trans (t.get b g (by simp))⟩
end Go.Lf.G
namespace Go.Lf
open Go
structure NA (p:Pr):Prop where
 key:p.key.size≠0
 bC:p.key.size<=64
 bY:p.val.size<=8192
 gone:p.gone=true->p.val.size=0
def La(p:Pr):Nat:=if p.gone then 0 else p.val.size+1
def KU(p:Pr):List UInt8:=BX (bl p.key)++(Bt (La p)++bl p.val)
abbrev Br(l:List Pr):List UInt8:=l.flatMap KU
theorem oF {s:A2Y}(a:s.size=0):bl s= []:=CN (by rw[BF];exact a)
theorem AO5 {p:Pr}(a:NA p)(t:List UInt8):Gq ⟨KU p++t,false⟩=(bl p.key,⟨Bt (La p)++bl p.val++t,false⟩):=by
 have c:=a.bC;have b:KU p++t=BX (bl p.key)++(Bt (La p)++bl p.val++t):=by simp[KU,A4]
 rw[b];exact Iz (by rw[BF];omega) _
theorem rP {p:Pr}(a:NA p):La p<=8193:=by have:=a.bY;unfold La;split<;>omega
theorem ASM {p:Pr}(a:NA p)(t:List UInt8):CZ 8193 ⟨Bt (La p)++bl p.val++t,false⟩=(La p,⟨bl p.val++t,false⟩):=by rw[A4];have:=rP a;exact De (by omega) this _
theorem AP1 {p:Pr}(a:NA p)(t:List UInt8):LP (La p-1) ⟨bl p.val++t,false⟩=(bl p.val,⟨t,false⟩):=by
 have b:La p-1=(bl p.val).length:=by
  rw[BF];unfold La;split
  ·rename_i c;rw[a.gone c]
  ·omega
 rw[b];exact AG7 _ _
theorem Ru {p:Pr}(a:NA p):1<=(KU p).length/\(KU p).length<=p.key.size+p.val.size+20:=by have b:=a.bC;have c:=a.bY;have d:=AZ (n:=(bl p.key).length) (by rw[BF];omega);have e:=rP a;have f:=AZ (n:=La p) (by omega);have g:=a.key;have h:=BF p.key;have i:=BF p.val;simp only[KU,BX,A1];omega
end Go.Lf
namespace Go.Lf.G
open Go
theorem Ii:Rj P AR AU Bg.w 40=true:=by kernel_rfl
theorem AUW {e:ao}{a:aa}{b:Nat}{c:Rd}{d:A2X}(f:LF a b c)(g:d (J3 c.bad) a):AA e P MF #[Ap b] a d:=by refine YW ?_;unfold RL;refine ab.no rfl (aA ?_);exact Aa.mk (AB f rfl) g
theorem XL {A:ao}{h:aa}{s:A2Y}{R:A2X}(b:s.size<=1099511627776)(c: ∀a,Ext h a->R (J7 (Ae (BX (bl s)))) a):AA A P CK #[J7 s] h R:=by have:=Sn (A:=A) (h:=h) (l:=bl s) (R:=R) (by rw[BF];exact b) c;rwa [Eh] at this
theorem ANj {a:Nat}(b:a<=1099511627776):J8 .u64 ((J8 .u64 (a:Int))+(1:Int))=((a+1:Nat):Int):=by rw[CL (by omega),show((a:Int)+1)=((a+1:Nat):Int) by omega,CL (by omega)]
theorem sO {s:A2Y}(a:s.size=0):s=⟨#[]⟩:=by have:=Eh s;rw[<- this,show s.data.toList= [] from oF a];rfl
theorem Ay {a c:aa}{b:Nat}{d:Array J0}{T:Q7}(x:Ext a c)(e:a[b]? =some (J2 d T (0,0))):c[b]? =some (J2 d T (0,0)):=x.ag e (λa=>a)
theorem ARO {l:ao}{e:aa}{x:Pr}{f:A2X}(h:NA x)(m: ∀o,Ext e o->f (J7 (Ae (KU x))) o):AA l P PD #[x.agg] e f:=by
 obtain⟨a,v,g⟩:=x;have r:=h.bC;have s:=h.bY;have p:=h.gone;dsimp only at r s p;show AA l P PD #[.agg #[J7 a,J7 v,J3 g]] e f;refine AGP ?_;unfold ZL;refine ai.mk λz _ b q A=>?_
 refine Aa.mk (AB b rfl) ?_;have B:=AZ (n:=(bl a).length) (by rw[BF];omega);have C:=BF a;have D:=BF v;refine ab.intro (λi=>?_) (λi=>?_)
 ·subst i;refine AL.mk (AO b rfl) ?_;refine XL (by omega) λt c=>⟨_,rfl,?_⟩
  refine Cj (n:=0) (by omega) λu d=>⟨_,rfl,?_⟩
  have w:=AZ (n:=0) (by omega);refine⟨by rw[AP,AP,max_i64];simp only[BX,A1];omega,?_⟩;rw[Aq];have j:KU ⟨a,v,true⟩=BX (bl a)++Bt 0:=by unfold KU La;rw[oF (p rfl)];simp
  rw[<- j];exact m _ ((q.trans c).trans d)
 ·subst i;refine AL.mk (AO b rfl) (AL.mk (AB b rfl) (AL.mk (AB b rfl) ?_));refine XL (by omega) λt c=>⟨_,rfl,?_⟩
  have k:=Ay c b;refine⟨AB k rfl,AB k rfl,?_⟩;rw[ANj (by omega)];refine Cj (by omega) λu d=>⟨_,rfl,?_⟩
  have y:=Ay d k;have w:=AZ (n:=v.size+1) (by omega);refine⟨AB y rfl,by rw[AP,AP,max_i64];simp only[BX,A1];omega,?_,?_⟩
  ·rw[Aq,AP,max_i64];simp only[BX,A1];omega
  ·rw[Aq];have j:Ae (BX (bl a)++Bt (v.size+1))++v=Ae (KU ⟨a,v,false⟩):=by
    have:v=Ae (bl v):=(Eh v).symm
    conv=>lhs;arg 2;rw[this]
    rw[Aq];unfold KU La;simp[A4]
   rw[j];exact m _ ((q.trans c).trans d)
theorem AQ5 {s:A2Y}(a:s.size≠0):bB s (⟨#[]⟩:A2Y)=false:=by rw[ZG,decide_eq_false_iff_not];intro b;have:=BF s;rw[b] at this;exact a this.symm
theorem AR1 {a:Nat}(b:a<=100000):(if((J8 J9 (((a:Nat):Int)-(1:Int))):Int)>0 then(J8 J9 (((a:Nat):Int)-(1:Int))) else 0)=((a-1:Nat):Int):=by rw[wrap_i64 (by omega) (by omega)];split<;>omega
theorem rR {l:List Pr}(a: ∀x∈l,NA x):l.length<=(Br l).length:=by
 induction l with
 |nil=>simp
 |cons x l b=>
  have:=(Ru (a x B8)).1;have:=b λc d=>a c (AH _ d)
  simp only[Br,AM,A1,An] at this ⊢;omega
theorem sP {aj:ao}{c:aa}{l:List Pr}{I:A2X}(J: ∀x∈l,NA x)(aO:(Br l).length<1099511627776)
  (ak: ∀s z,Own Bg AU z s l->Ext c z->(∀ b,s.ag=some b->c.size<=b)->I (J1 #[J4 s.p s.len s.cap,J3 true]) z):AA aj P Kb #[J7 (Ae (Br l))] c I:=by
 refine AE4 ?_;unfold X7;refine N7 λaP al am=>⟨_,rfl,?_⟩
 have aQ:=rR J;refine Loop.rule (λm x f=> ∃(i:Nat) (s:Sl),x=(s,())/\m=l.length-i/\i<=l.length/\LF f c.size ⟨Br (l.drop i),false⟩/\Ext c f/\Own Bg AU f s (l.take i)/\ ∀b,s.ag=some b->c.size<=b) ?_ ⟨0,⟨none,0,0⟩,rfl,rfl,by omega,al,am,Own.nil,λb a=>by simp[Sl.ag] at a⟩;rintro K m _ f ⟨i,s,rfl,rfl,hi,rd,t,p,A⟩ an;dsimp only;refine Qk rd ⟨_,rfl,?_⟩;by_cases g:i<l.length
 ·have L:l[i]? =some l[i]:=A2 g;have M:l[i]∈l:=BT g;have hd:l.drop i=l[i]::l.drop (i+1):=FA g;have N:l.take (i+1)=l.take i++ [l[i]]:=by rw[AE,L];rfl
  generalize l[i]=x at L M hd N;have h:=J x M;have O:Br (l.drop i)=KU x++Br (l.drop (i+1)):=by rw[hd];rfl
  have Q:(KU x++Br (l.drop (i+1))).length<1099511627776:=by
   have e:Br l=Br (l.take i)++Br (l.drop i):=by rw[<- JT,F0]
   have:=congrArg List.length e;rw[O,A1] at this;omega
  have aR:=Ru h;rw[O] at rd ⊢;refine ab.yes ?_ ?_
  ·unfold fY;have:(KU x++Br (l.drop (i+1)))≠ []:=by intro e;have:=congrArg List.length e;simp only[A1,HU] at this;omega
   simp only[Lz,Ek,Cd,List.isEmpty_eq_false_iff];exact this
  ·refine Iw rd Q λd u B=>⟨_,rfl,?_⟩
   rw[AO5 h] at u ⊢;dsimp only at u ⊢;rw[Eh];refine ai.mk λap _ aq R aS=>?_
   refine ae.mk aq (by simp) λaT ar S aU=>?_
   rw[Bp,Bp];refine ae.mk ar (by simp) λaV au T aW=>?_
   refine ae.mk au (by simp) λav aw U aX=>?_
   have aY:c.size<d.size:=by have:=Ai u;exact this
   have j:c.size≠d.size:=by omega
   have ax:LF av c.size ⟨Bt (La x)++bl x.val++Br (l.drop (i+1)),false⟩:=U.ag (T.ag (S.ag (R.ag u (λc=>c)) j) j) j;have ay:(Bt (La x)++bl x.val++Br (l.drop (i+1))).length<=1099511627776:=by simp only[KU,A1] at Q ⊢;omega
   refine Ei (most:=8193) ax ay (by decide) λC v V=>⟨_,rfl,?_⟩
   rw[ASM h] at v ⊢;dsimp only at v ⊢;have W:C[d.size]? =some (J2 #[J7 x.key,J7 ⟨#[]⟩,J3 false] AU (0,0)):=V.ag (by simpa using aw) (Ne.symm j);refine ah.mk λaz aA=>?_
   have aZ:=rP h;have key: ∀q,LF q c.size ⟨bl x.val++Br (l.drop (i+1)),false⟩->q[d.size]? =some (J2 #[J7 x.key,J7 ⟨#[]⟩,J3 x.gone] AU (0,0))->Mod (λb=>b=c.size\/b=d.size) d q->az () q:=by
    intro q aC aD aE;refine aA () q ?_;rw[AR1 (by omega)];refine AJw aC λa0 D X=>⟨_,rfl,?_⟩
    rw[AP1 h] at D ⊢;dsimp only at D ⊢;rw[Eh];have aF:=X.ag aD (Ne.symm j);refine ae.mk aF (by simp) λr k Y a1=>?_
    have F:LF r c.size ⟨Br (l.drop (i+1)),false⟩:=Y.ag D j;have k:r[d.size]? =some (J2 #[J7 x.key,J7 x.val,J3 x.gone] AU (0,0)):=by simpa using k
    refine ah.mk λa2 aG=>?_
    refine AUW F ⟨_,rfl,?_⟩;refine ab.no rfl ?_;refine AL.mk (AO k rfl) ?_;refine ab.no (AQ5 h.key) ?_;refine AL.mk (AO k rfl) ?_;have a3:=h.bC;refine aG _ _ (ab.no (by simp;omega) ?_);refine AL.mk (AO k rfl) ?_;refine AL.mk (AO k rfl) ?_;refine Aa.mk (AO k rfl) ?_;have w:Mod (λb=>b=c.size\/b=d.size) f r:=by
     have G:Mod (λb=>b=c.size\/b=d.size) f d:=B.ak λb _ a=> .inl a
     exact((G.trans aE).trans (X.ak λb _ a=> .inl a)).trans (Y.ak λb _ a=> .inr a)
    have Z: ∀b,s.ag=some b-> ¬(b=c.size\/b=d.size):=by
     intro b a;have a4:=p.lt a;have aH:=B.size;rintro(rfl|rfl)
     ·exact p.ne rd (by decide) a
     ·omega
    refine ai.aV (E:=Bg) (x:=x) rfl Ii (p.mod w Z) ?_ ?_ λaI a5 ac H aJ a6=>?_
    ·rw[Ax];omega
    ·simp only[maxLen];rw[Ax];omega
    ·rw[<- N] at ac;have y:Ext c r:=by refine⟨by have:=t.size;have:=w.size;omega,λb a _=>?_⟩;have aH:=B.size;have:=t.size;exact(w.get b (by omega) (by omega)).trans (t.get b a (λc=>c))
     refine an (l.length-(i+1)) _ _ (by omega) ⟨i+1,aI,rfl,rfl,g,?_,?_,ac,?_⟩
     ·refine H.ag F λe=>?_
      have:Own Bg AU r s (l.take i):=p.mod w Z;exact this.ne F (by decide) e
     ·refine⟨by have:=y.size;have:=H.size;omega,λb a _=>?_⟩;have:=y.size;exact(H.get b (by omega) (λe=>by have:=A b e;omega)).trans (y.get b a (λc=>c))
     ·intro b a;rcases aJ b a with e|e
      ·exact A b e
      ·have:=y.size;omega
   have af:Mod (λb=>b=c.size\/b=d.size) d C:=by have G:Mod (λb=>b=c.size\/b=d.size) d ap:=R.mod;exact(((G.trans (S.ak λb _ a=> .inr a)).trans (T.ak λb _ a=> .inr a)).trans (U.ak λb _ a=> .inr a)).trans (V.ak λb _ a=> .inl a)
   refine ab.intro (λn=>?_) (λn=>?_)
   ·have o:x.gone=true:=by
     unfold La at n;split at n
     ·rename_i o;exact o
     ·simp at n;omega
    refine ae.mk W (by simp) λaK aL ag a7=>?_
    refine key aK (ag.ag v j) (by rw[o];simpa using aL) (af.trans (ag.ak λb _ a=> .inr a))
   ·have o:x.gone=false:=by
     cases o:x.gone with
     |false=>rfl
     |true=>unfold La at n;rw[o] at n;simp at n
    exact key C v (by rw[o];exact W) af
 ·have g:i=l.length:=by omega
  have aM:l.drop i= []:=by rw[g];simp
  have aN:l.take i=l:=by rw[g];simp
  rw[aM];rw[aN] at p;exact ab.no rfl (ak s f p t A)
def OL(a:Nat)(l:List Pr):List UInt8:=Bt a++Bt l.length++Br l
theorem Pf {l:List Pr}(b: ∀x∈l,NA x):(Br l).length<=l.length*8276:=by
 induction l with
 |nil=>simp
 |cons x l c=>
  have a:=b x B8;have f:=(Ru a).2;have g:=a.bC;have h:=a.bY;have:=c λd e=>b d (AH _ e)
  simp only[Br,AM,A1,An] at this ⊢;omega
theorem AUf {l:List Pr}(a: ∀x∈l,NA x)(i:Nat): ∀x∈l.take i,NA x:=λx b=>a x (DE b)
theorem AR5 {C:ao}{f:aa}{s:Sl}{l:List Pr}{c:Nat}{t:A2X}(Y:c<=99999999)(Z:l.length<=64)(u: ∀x∈l,NA x)(v:View Bg f s l)(ac: ∀b,s.ag=some b->b<f.size)
  (D: ∀d,Ext f d->t (J7 (Ae (OL c l))) d):AA C P VF #[J6 J9 (c:Int),J4 s.p s.len s.cap] f t:=by
 refine AJM ?_;unfold xw;rw[CL (by omega)];refine Cj (by omega) λae E=>⟨_,rfl,?_⟩
 rw[v.len,CL (by omega)];refine Cj (by omega) λaf F=>⟨_,rfl,?_⟩
 have ag:=AZ (n:=c) (by omega);have aj:=AZ (n:=l.length) (by omega);refine⟨by rw[AP,AP,max_i64];omega,?_⟩;rw[Aq];refine Loop.rule (λm x o=> ∃i:Nat,x=(Ae (Bt c++Bt l.length++Br (l.take i)),(i:Int),())/\m=l.length-i/\i<=l.length/\Ext f o) ?_ ⟨0,by simp,rfl,by omega,E.trans F⟩;rintro K m _ o ⟨i,rfl,rfl,hi,p⟩ G;dsimp only;refine ab.intro (λq=>?_) (λq=>?_)
 ·have e:i<l.length:=by simp at q;omega
  have r:l[i]? =some l[i]:=A2 e;have w:l.take (i+1)=l.take i++ [l[i]]:=by rw[AE,r];rfl
  have h:=u _ (BT e);generalize l[i]=x at r w h;have ak:=h.bC;have al:=h.bY;have H:=h.gone;have lt:=Pf (AUf u i);rw[Ax] at lt;have am:=AZ (n:=(bl x.key).length) (by rw[BF];omega);have an:=BF x.key;have ap:=BF x.val;refine ah.mk λI J=>?_
  obtain⟨a,L,M⟩:=(v.ext p).cells i x r;refine aY.mk L e ?_;obtain⟨N,O,Q⟩:=M.pair;rw[A6];refine AL.mk N (AL.mk O (Aa.mk Q ?_));refine ai.pair λb aq ar y R au=>?_
  refine AL.mk (AO y rfl) ?_;refine XL (by omega) λS z=>⟨_,rfl,⟨by rw[AP,AP,max_i64];simp only[BX,A1];omega,?_⟩⟩
  have j:=Ay z y;refine Aa.mk (AB j rfl) ?_;rw[Aq];have fin: ∀d,Ext S d->I (Ae (Bt c++Bt l.length++Br (l.take (i+1))),()) d:=by intro d T;refine J _ _ ?_;dsimp only;rw[Ac (by omega)];exact G (l.length-(i+1)) _ _ (by omega) ⟨i+1,rfl,rfl,e,((p.trans R).trans z).trans T⟩
  have A:Br (l.take (i+1))=Br (l.take i)++KU x:=by rw[w];simp[Br]
  refine ab.intro (λk=>?_) (λk=>?_)
  ·refine Cj (n:=0) (by omega) λU V=>⟨_,rfl,?_⟩
   have W:=AZ (n:=0) (by omega);refine⟨by rw[AP,AP,max_i64];simp only[BX,A1];omega,?_⟩;rw[Aq];have g:KU x=BX (bl x.key)++Bt 0:=by unfold KU La;rw[k,oF (H k)];simp
   have:=fin U V;rw[A,g] at this;simpa only[A4] using this
  ·refine AL.mk (AB j rfl) (AL.mk (AB j rfl) ?_);rw[ANj (by omega)];refine Cj (by omega) λX B=>⟨_,rfl,?_⟩
   have W:=AZ (n:=x.val.size+1) (by omega);refine⟨AB (Ay B j) rfl,?_,?_,?_⟩
   ·rw[AP,max_i64];omega
   ·have av:x.val=Ae (bl x.val):=(Eh _).symm;rw[Fm,AP,AP,max_i64];simp only[BX,A1];omega
   ·have g:Ae (Bt (x.val.size+1))++x.val=Ae (Bt (La x)++bl x.val):=by
     conv=>lhs;arg 2;rw[(Eh x.val).symm]
     rw[Aq];unfold La;rw[k];rfl
    rw[g,Aq];have:=fin X B;rw[A] at this;unfold KU at this;simpa only[A4] using this
 ·have e:i=l.length:=by simp at q;omega
  have g:l.take i=l:=by rw[e];simp
  rw[g];exact D o p
end Go.Lf.G
namespace Go.Lf
open Go
def CQ(l:List Pr)(i:Nat):List Pr:=(l.drop (8*i)).take 8
def CB(l:List Pr):Nat:=(l.length+7) / 8
def Lr(l:List Pr):List (List Pr):=(List.range (CB l)).map (CQ l)
def JK(l:List Pr)(i:Nat):A2Y:=match l[i]? with|some p=>p.key|none=>⟨#[]⟩
def Cb(l:List Pr):List A2Y:=(List.range (CB l)).map λi=>JK l (8*i)
def Xi(l:List Pr)(f:List UInt8):List UInt8:=Bt (CB l)++((Cb l).flatMap λa=>BX (bl a))++(Bt l.length++BX f)
def aN(l:List Pr)(f:List UInt8):List (List UInt8):=(Lr l).map Br++ [Xi l f]
theorem SN {l:List Pr}{i:Nat}(a:i<CB l):1<=(CQ l i).length/\(CQ l i).length<=8/\(i+1<CB l->(CQ l i).length=8):=by
 unfold CQ CB at*
 rw[Ax,FF];omega
theorem Rs {l:List Pr}{i j:Nat}(a:j<8):(CQ l i)[j]? =l[8*i+j]? :=by unfold CQ;rw[F1,if_pos a,By]
theorem yV {l:List Pr}: ∀i,l.take (8*i)++CQ l i=l.take (8*(i+1)):=λi=>by
 unfold CQ;rw[show 8*(i+1)=8*i+8 by omega,List.take_add]
theorem yW(l:List Pr): ∀n,((List.range n).map (CQ l)).flatten=l.take (8*n)
 |0=>by simp
 |n+1=>by rw[RW,Cl,List.flatten_append,yW l n];simpa using yV n
theorem APb(l:List Pr):(Lr l).flatten=l:=by unfold Lr;rw[yW,AD];unfold CB;omega
theorem JW(l:List Pr):(Lr l).length=CB l:=by simp[Lr]
theorem IP(l:List Pr):(Cb l).length=CB l:=by simp[Cb]
theorem yX {l:List Pr}(a:l≠ []):1<=CB l:=by have:=List.length_pos_iff.2 a;unfold CB;omega
structure gO (s:List UInt8) (l:List Pr) (f:List UInt8):Prop where
 bytes:s=aT (aN l f)
 ne:l≠ []
 ok: ∀p∈l,NA p
 inc:l.Pairwise λp q=>aI p.key q.key=true
 jt:1<=f.length/\f.length<=8192
 has: ∀p∈l,gN f p.key=true
 many:l.length<=100000
theorem rR {l:List Pr}(a: ∀p∈l,NA p):(Br l).length<=l.length*8276:=by
 induction l with
 |nil=>simp
 |cons p l b=>
  have e:=(Ru (a p (by simp))).2;have c:=b λq d=>a q (AH _ d)
  have f:=(a p (by simp)).bC;have g:=(a p (by simp)).bY;simp only[Br,AM,A1,An] at c ⊢;omega
theorem RI {l:List Pr}{i:Nat}{p:Pr}(a:p∈CQ l i):p∈l:=Ks (DE a)
theorem Zr {s:List UInt8}{l:List Pr}{f:List UInt8}(T:gO s l f):(Xi l f).length<=1048576:=by
 have r:=T.many;have t:=T.jt.2;have u:=AZ (n:=CB l) (by unfold CB;omega);have v:=AZ (n:=l.length) (by omega);have w:=AZ (n:=f.length) (by omega);have c: ∀a∈Cb l,a.size<=64:=λa c=>by
  obtain⟨i,_,rfl⟩:=List.mem_map.1 c;unfold JK;split
  ·rename_i p e;exact(T.ok p (AG e)).bC
  ·exact A5 _
 have g: ∀b:List A2Y,(∀ a∈b,a.size<=64)->(b.flatMap λa=>BX (bl a)).length<=b.length*65:=by
  intro b
  induction b with
  |nil=>intro _;simp
  |cons a b h=>
   intro d;have j:=h λx k=>d x (AH _ k)
   have y:=d a (by simp);have m:(Bt a.size).length=1:=by rw[Fq (by omega)];rfl
   have o:(BX (bl a)).length=1+a.size:=by simp only[BX,A1,BF,m]
   simp only[AM,A1,An,o] at j ⊢;omega
 have q:=g (Cb l) c;rw[IP] at q;have z:CB l<=12501:=by unfold CB;omega
 have A:(BX f).length=(Bt f.length).length+f.length:=by simp[BX]
 simp only[Xi,A1];omega
theorem TP {s:List UInt8}{l:List Pr}{f:List UInt8}(T:gO s l f): ∀c∈aN l f,c.length<=1048576:=λc a=>by
 rcases List.mem_append.1 a with a|a
 ·obtain⟨b,d,rfl⟩:=List.mem_map.1 a;obtain⟨i,hi,rfl⟩:=List.mem_map.1 d;have h:=rR (l:=CQ l i) λp e=>T.ok p (RI e)
  have g:=(SN (List.mem_range.1 hi)).2.1;have:(CQ l i).length*8276<=8*8276:=AW _ g;omega
 ·rw[List.mem_singleton.1 a];exact Zr T
def yY(s:Sl):J0:=J4 s.p s.len s.cap
def rS(x:Sl):iv [.one .sl]:=(x,())
def zw(j:ao)(P:Q1)(fv:J0)(m:Nat->Prop)(n:aa)(l:List Sl):Prop:=
 ∃f e,fv= .func (.func f) #[] e/\(∀ a,(callFunc f (#[]++ #[a]++e)).calc P=some (.enter f (#[]++ #[a]++e)))/\
  ∀(k:aa) (a:J0) (c:Nat->Bool->aa->Prop),MH a=true->(∀ i g d,c i g d-> ∀b,m b->d[b]? =n[b]?)->
   (∀ i x d,l[i]? =some x->c i true d->EM j P a #[yY x] d λv h=> ∃g,v=J3 g/\c (i+1) g h)->c 0 true k->
   AA j P f (#[]++ #[a]++e) k λv h=>v=J1 #[]/\ ∃i g,c i g h/\(g=true->i=l.length)/\i<=l.length
theorem AWZ {o:ao}{P:Q1}{fv:J0}{p:Nat->Prop}{q c:aa}{l:List Sl}(z:zw o P fv p q l)
  (Inv:Nat->aa->Prop) {body:iv [.one .sl]->Nat->aa->(aa->Prop)->(Option Nat->aa->Prop)->Prop} {r:aa->Prop} {A:Option Nat->aa->Prop}
  (B: ∀i a,Inv i a-> ∀b,p b->a[b]? =q[b]?)
  (s: ∀i a C,Inv i a->a[c.size]? =some (.deferred (some []))->(∃ D,a[c.size+1]? =some (.loop D))->Inv i (a.setIfInBounds (c.size+1) (.loop C)))
  (E: ∀rec,Inv 0 ((c.push (.deferred (some []))).push (.loop rec)))
  (round: ∀i x a rec t F,l[i]? =some x->Inv i a->a[c.size]? =some (.deferred (some []))->a[c.size+1]? =some (.loop rec)->rec.state= .ready->
   (∀ d,Inv (i+1) d->d[c.size]? =some (.deferred (some []))->d[c.size+1]? =some (.loop {rec with state:= .busy})->t d)->body (rS x) (c.size+1) a t F)
  (fin: ∀d,Inv l.length d->d[c.size]? =some (.deferred (some []))->r d):Yl o P fv [.one .sl] body c r A:=by
 intro rec h k Q G;obtain⟨f,u,rfl,H,I⟩:=z;refine⟨f,_,?_,AA.mono (I ((c.push (.deferred (some []))).push (.loop rec)) (.func (.yield (c.size+1)) #[] #[])
  (λi g a=>Inv i a/\g=true/\a[c.size]? =some (.deferred (some []))/\a[c.size+1]? =some (.loop rec)) rfl (λi g a J=>B i a J.1) ?_ ?_) ?_⟩
 ·have K:(do let w <-Deferred.ofValue (.func (.func f) #[] u) #[.func (.yield (c.size+1)) #[] #[]];invoke w.target w.args:Sem Next).calc P=(callFunc f (#[]++ #[.func (.yield (c.size+1)) #[] #[]]++u)).calc P:=rfl;unfold Oh;rw[K,H]
 ·rintro i x a hi ⟨m,_,j,e⟩;refine G (rS x) a _ e (round i x a rec _ _ hi m j e h ?_);intro d L y n;have M:c.size+1<d.size:=Ai n;refine⟨_,n,true,rfl,s _ _ _ L y ⟨_,n⟩,rfl,?_,?_⟩
  ·rw[DA (by omega)];exact y
  ·rw[Ci M];cases rec;simp at h k;simp[h,k]
 ·refine⟨E rec,rfl,?_,?_⟩
  ·rw[R1 (by simp)];simp
  ·have N:c.size+1=(c.push (.deferred (some []))).size:=by simp
   rw[N];exact Rg
 ·rintro v R ⟨_,i,g,⟨m,rfl,j,e⟩,O,S⟩;refine⟨rec,e,by simp[h],.inl ⟨k,fin _ ?_ ?_⟩⟩
  ·have:=O rfl;subst this;exact s _ _ _ m j ⟨_,e⟩
  ·rw[DA (by omega)];exact j
end Go.Lf
namespace Go.Lf.G
open Go
def U8(a:aa)(c:Nat):Prop:= ∃b d,a[c]? =some (J2 b EZ d)
def fF(a:Nat)(c:aa)(b:Nat)(l:List UInt8):Prop:= ∀(d:ao) (e:Nat),Lib.IsBuilderF Em EZ a b (Lib.byteCells l) (d.at c e)
theorem AN6 {A:ao}{n a b:Nat}{c:aa}{l:List UInt8}(d:Lib.IsBuilderF Em EZ a b (Lib.byteCells l) (A.at c n)):fF a c b l:=λ_ _=>d
theorem Xm {g:ao}{a:aa}{j e b:Nat}{d:World}(hB:e<=a.size)(n:RowKit.Below e (g.at a j) d)(o:Lib.OthersKept EZ (some b) (g.at a j) d):
  d=g.at d.heap d.drawn/\Mod (λc=>c=b\/(e<=c/\U8 a c)) a d.heap:=by
 obtain⟨f,k,l,p,q⟩:=n;refine⟨?_,⟨p,λc r m=>?_⟩⟩
 ·cases d;simp only[ao.at] at f k l ⊢;subst f k l;rfl
 ·by_cases s:c<e
  ·exact q c s
  ·have h:a[c]? =some a[c]:=DP r;have f:=o c a[c] h (by intro i;exact m (.inl (Bk i))) (λt u i=>m (.inr ⟨by omega,t,u,by rw[h,i]⟩));rw[f];exact h.symm
theorem fF.mod {a b:Nat}{e f:aa}{l:List UInt8}{h:Nat->Prop}(t:fF a e b l)(m:Mod h e f)(u: ¬h b)(w: ∀c,a<=c->U8 e c-> ¬h c):fF a f b l:=by
 intro i j;have n: ∀p,Lib.BuilderAtF Em EZ a b p (Lib.byteCells l) (i.at e j)->Lib.BuilderAtF Em EZ a b p (Lib.byteCells l) (i.at f j):=by
  rintro p ⟨d,v,x,⟨y,k⟩,z⟩;refine⟨d,v,m.ag x u,⟨y,?_⟩,z⟩;rcases k with k|⟨g,A,o,q,B,r,s,rest⟩
  ·exact .inl k
  ·exact .inr ⟨g,A,o,q,B,r,m.ag s (w g r ⟨o,q,s⟩),rest⟩
 rcases t i j with d|d
 ·exact .inl (n _ d)
 ·exact .inr (n _ d)
theorem fF.ext {c b:Nat}{a d:aa}{l:List UInt8}(e:fF c a b l)(m:Ext a d):fF c d b l:=e.mod m (λa=>a) (λ_ _ _ a=>a)
theorem ATW {a b:Nat}{c:aa}(d:c[b]? =some (J2 #[J5 none,J4 none 0 0] Em (0,0)))(hB:a<=b):fF a c b []:=by intro e f;exact .inl ⟨hB,_,d,⟨rfl,.inl ⟨rfl,rfl⟩⟩,by simp[Value.ownBlock]⟩
theorem WK {A:ao}{a:aa}{d b:Nat}{l:List UInt8}{s:A2Y}{g:A2X}(j:fF d a b l)(hB:d<=a.size)(q:l.length+s.size<=1099511627776)
  (k: ∀e,fF d e b (l++bl s)->Mod (λc=>c=b\/(d<=c/\U8 a c)) a e->g (J1 #[J6 J9 s.size,.nilIface]) e):AA A P EA #[Ap b,J7 s] a g:=by
 intro n;refine Calls.mono (Proofs.Any.Builder_WriteString_k Proofs.Tryz.ie Proofs.Tryz.dE d b (Lib.byteCells l) s (A.at a n) (j A n) (by rw[Lib.byteCells_length];omega) hB) ?_;rintro r f ⟨rfl,h,o,p⟩;obtain⟨i,m⟩:=Xm hB o p;refine⟨_,rfl,f.heap,f.drawn,i,k _ ?_ m⟩;rw[Lib.strCells_eq,<-Lib.byteCells_append,i] at h;exact AN6 (A:=A) (n:=f.drawn) (.inr h)
theorem AL5 {A:ao}{a:aa}{d b:Nat}{l:List UInt8}{g:A2X}(j:fF d a b l)(hB:d<=a.size)
  (k: ∀e,fF d e b l->Mod (λc=>c=b\/(d<=c/\U8 a c)) a e->g (J7 (Ae l)) e):AA A P Gv #[Ap b] a g:=by
 intro n;refine Calls.mono (Proofs.Any.Builder_String_any_k Proofs.Tryz.ig Proofs.Tryz.dE d b l (A.at a n) (j A n) hB) ?_;rintro q f ⟨rfl,h,o,p⟩;obtain⟨i,m⟩:=Xm hB o p;refine⟨_,rfl,f.heap,f.drawn,i,k _ ?_ m⟩;rw[i] at h;exact AN6 (A:=A) (n:=f.drawn) h
def RX(s:Sl)(i:Nat):Sl:=⟨BC s.p (min (8*i+8) s.len) (8*i) 3,min (8*i+8) s.len-8*i,min (8*i+8) s.len-8*i⟩
def chunks(s:Sl):List Sl:=(List.range ((s.len+7) / 8)).map (RX s)
theorem TE(s:Sl):(chunks s).length=(s.len+7) / 8:=by simp[chunks]
theorem AEG {s:Sl}{i:Nat}(a:i<(s.len+7) / 8):(chunks s)[i]? =some (RX s i):=by simp[chunks,a]
theorem View.chunk {d:aa}{s:Sl}{l:List Pr}(v:View Bg d s l){i:Nat}(hi:i<CB l):View Bg d (RX s i) (CQ l i):=by
 have e:=v.len;unfold CB at hi;refine⟨?_,A0 _,λb x c=>?_⟩
 ·show min (8*i+8) s.len-8*i=(CQ l i).length;unfold CQ;rw[Ax,FF,e];omega
 ·have f:b<8:=by have:=(List.getElem?_eq_some_iff.1 c).1;unfold CQ at this;rw[Ax] at this;omega
  rw[Rs f] at c;obtain⟨a,g,h⟩:=v.cells _ _ c;have k:=(List.getElem?_eq_some_iff.1 c).1;refine⟨a.add (8*i*3),?_,?_⟩
  ·unfold RX BC;simp only[g];rw[if_neg (by omega)];rfl
  ·rw[add_add];have j:8*i*3+b*Bg.w=(8*i+b)*Bg.w:=by show 8*i*3+b*3=(8*i+b)*3;omega
   rw[j];exact h
theorem AQK {a i:Nat}(b:a<=1099511627776)(c:8*i<a):J8 J9 (((8*i:Nat):Int)+(if((((a-((8*i:Nat):Int).toNat):Nat):Int):Int)<(8:Int) then(((a-((8*i:Nat):Int).toNat):Nat):Int) else(8:Int)))=((min (8*i+8) a:Nat):Int):=by
 rw[A6];split
 ·rw[wrap_i64 (by omega) (by omega)];omega
 ·rw[wrap_i64 (by omega) (by omega)];omega
abbrev ASY:Q8:=Dg
theorem AR3 {n:ao}{a:aa}{s:Sl}{o:A2X}(p:s.len<=s.cap)(w:s.len<=1099511627776)
  (y: ∀fv b,Ext a b->b.size=a.size+2->b[a.size]? =some (J2 #[J4 s.p s.len s.cap] AR (0,0))->b[a.size+1]? =some (J2 #[J6 J9 8] BM (0,0))->
   zw n P fv (λc=>c=a.size\/c=a.size+1) b (chunks s)->o fv b):AA n P Dr #[J4 s.p s.len s.cap,J6 J9 8] a o:=by
 refine Jj ?_;unfold Ff;refine ai.mk λJ _ z A B=>?_
 refine ai.mk λC _ d q L=>?_
 refine ah.mk λK h=>?_
 refine AC.mk (AO d rfl) ?_;refine ab.no rfl (h _ _ ?_);have r:=Ay q z;rw[B] at d ⊢;refine y _ C (A.trans q) (by omega) r d ⟨ASY,#[Ap a.size,Ap (a.size+1)],rfl,λD=>by kernel_rfl,?_⟩;intro M D E N j F G;refine I5 ?_;unfold FI;refine Loop.rule (λm x e=> ∃i:Nat,x=(((8*i:Nat):Int),())/\m=(s.len+7) / 8-i/\i<=(s.len+7) / 8/\E i true e) ?_ ⟨0,rfl,rfl,by omega,G⟩;rintro K m _ e ⟨i,rfl,rfl,hi,f⟩ h;have hA:e[a.size]? =some (J2 #[J4 s.p s.len s.cap] AR (0,0)):=(j _ _ _ f _ (.inl rfl)).trans r;have hB:e[a.size+1]? =some (J2 #[J6 J9 8] BM (0,0)):=(j _ _ _ f _ (.inr rfl)).trans d;refine aA (AV.mk (AO hA rfl) ?_);dsimp only;refine ab.intro (λk=>?_) (λk=>?_)
 ·have t:8*i<s.len:=by simp at k;omega
  refine aA (AC.mk (AO hB rfl) ?_);refine aA (AV.mk (AO hA rfl) ⟨by omega,?_⟩);refine aA (AV.mk (AO hA rfl) ?_);rw[AQK w t,A6,A6];refine⟨by omega,by omega,by omega,?_⟩;have p:=AEG (s:=s) (i:=i) (by omega);have u:=F i _ e p f;simp only[yY,RX] at u;refine EM.mono u ?_;rintro v b ⟨g,rfl,l⟩;refine⟨g,rfl,?_⟩;cases g with
  |false=>exact ab.yes rfl ⟨rfl,i+1,false,l,(λa=>by cases a),by rw[TE];omega⟩
  |true=>
   refine ab.no rfl (aA ?_);have H:b[a.size+1]? =some (J2 #[J6 J9 8] BM (0,0)):=(j _ _ _ l _ (.inr rfl)).trans d;refine AC.mk (AO H rfl) ?_;have I:J8 J9 (((8*i:Nat):Int)+(8:Int))=((8*(i+1):Nat):Int):=by rw[wrap_i64 (by omega) (by omega)];omega
   rw[I];exact h ((s.len+7) / 8-(i+1)) _ _ (by omega) ⟨i+1,rfl,rfl,by omega,l⟩
 ·have t:s.len<=8*i:=by simp at k;omega
  have:i=(s.len+7) / 8:=by omega
  exact⟨rfl,i,true,f,λ_=>by rw[TE];exact this,by rw[TE];omega⟩
theorem sQ:Rj P Bo BD Jn.w 16=true:=by kernel_rfl
structure BS (h1:aa) (B:Nat) (E:Nat->Obj->Prop) (out:List UInt8) (kl:List A2Y) (ix:List UInt8) (n:Nat) (hh:aa):Prop where
 gr:fF B hh B out
 keys: ∃ks:Sl,hh[B+1]? =some (J2 #[J4 ks.p ks.len ks.cap] Bo (0,0))/\Own Jn BD hh ks kl/\ ∀c,ks.ag=some c->B+3<c
 ix:hh[B+2]? =some (J2 #[J7 (Ae ix)] BD (0,0))
 cB:hh[B+3]? =some (J2 #[J6 J9 (n:Int)] BM (0,0))
 fix: ∀c o,E c o->hh[c]? =some o
 eK:Mod (λc=>B<=c) h1 hh
structure jU (B:Nat) (E:Nat->Obj->Prop):Prop where
 u8: ∀c o,E c o-> ∀cs fz,o≠ J2 cs EZ fz
 str: ∀c o,E c o-> ∀cs fz,o≠ J2 cs BD fz
 lt: ∀c o,E c o->B+3<c
theorem mz {d:aa}{c:Nat}{e:Obj}(g:d[c]? =some e)(h: ∀a b,e≠ J2 a EZ b): ¬U8 d c:=by rintro⟨a,b,f⟩;rw[g] at f;exact h a b (Bk f)
theorem Ns {e:Array J0}{T b:Q7}{fr:Nat×Nat}(f:T≠b): ∀c d,(Obj.cells e T fr)≠ J2 c b d:=λc d a=>by injection a with _ a _;exact f a
theorem ANo {a:aa}{b:Sl}{d:List A2Y}(e:Own Jn BD a b d){c:Nat}(f:U8 a c):b.ag≠some c:=by obtain⟨h,i,g⟩:=f;exact e.ne g (by decide)
theorem BS.ext {a d e:aa}{f:Nat}{g:Nat->Obj->Prop}{out:List UInt8}{h:List A2Y}{ix:List UInt8}{i:Nat}(b:BS a f g out h ix i d)(x:Ext d e):BS a f g out h ix i e:=by obtain⟨j,k,l,m⟩:=b.keys;exact⟨b.gr.ext x,⟨j,Ay x k,l.ext x,m⟩,Ay x b.ix,Ay x b.cB,λc n o=>x.ag (b.fix c n o) (λp=>p),b.eK.trans x.mod⟩
theorem BS.write {j g h:aa}{e:Nat}{i:Nat->Obj->Prop}{out k:List UInt8}{l:List A2Y}{ix:List UInt8}{n:Nat}(ok:jU e i)(b:BS j e i out l ix n g)(q:fF e h e k)
  (m:Mod (λc=>c=e\/(e<=c/\U8 g c)) g h):BS j e i k l ix n h:=by
 obtain⟨r,s,o,p⟩:=b.keys;have aF: ∀ {c:Nat} {f:Obj},g[c]? =some f->c≠e->(∀ t u,f≠ J2 t EZ u)->h[c]? =some f:=λa v w=>m.ag a (λd=>d.elim v (λd=>mz a w d.2))
 refine⟨q,⟨r,aF s (by omega) (Ns (by decide)),o.mod m (λc a d=>?_),p⟩,aF b.ix (by omega) (Ns (by decide)),aF b.cB (by omega) (Ns (by decide)),λc f a=>aF (b.fix c f a) (by have:=ok.lt c f a;omega) (ok.u8 c f a),b.eK.trans (m.ak λc _ a=>by rcases a with d|d<;>omega)⟩;rcases d with d|d
 ·have:=p c a;omega
 ·exact ANo o d.2 a
theorem BS.key {l h i:aa}{d:Nat}{j:Nat->Obj->Prop}{out:List UInt8}{n p:List A2Y}{ix:List UInt8}{q:Nat}(ok:jU d j)(b:BS l d j out n ix q h){f ju:Sl}(u:h[d+1]? =some (J2 #[J4 f.p f.len f.cap] Bo (0,0)))
  (r:Own Jn BD h f n) (k: ∀c,f.ag=some c->d+3<c) (m:Mod (λc=>f.ag=some c\/c=d+1) h i) (v:i[d+1]? =some (J2 #[J4 ju.p ju.len ju.cap] Bo (0,0)))
  (w:Own Jn BD i ju p) (x: ∀c,ju.ag=some c->d+3<c):BS l d j out p ix q i:=by
 have hB: ∀c,f.ag=some c\/c=d+1->d+1<=c:=λc e=>by
  rcases e with a|a
  ·have:=k c a;omega
  ·omega
 refine⟨b.gr.mod m (λa=>by have:=hB _ a;omega) (λc e s a=>?_),⟨ju,v,w,x⟩,m.ag b.ix (λa=>?_),m.ag b.cB (λa=>?_),λc o e=>m.ag (b.fix c o e) (λa=>?_),b.eK.trans (m.ak λc _ e=>by have:=hB _ e;omega)⟩
 ·rcases a with a|a
  ·exact ANo r s a
  ·subst a;exact mz u (Ns (by decide)) s
 ·rcases a with a|a
  ·have:=k _ a;omega
  ·omega
 ·rcases a with a|a
  ·have:=k _ a;omega
  ·omega
 ·rcases a with a|a
  ·rcases r.row with⟨rfl,_⟩|⟨g,y,z,t,_⟩
   ·simp[Sl.ag] at a
   ·simp[Sl.ag,z] at a;subst a;rw[b.fix _ o e] at t;exact ok.str _ o e y (0,0) (Bk t)
  ·have:=ok.lt c o e;omega
theorem BS.ixs {h i e:aa}{d:Nat}{f:Nat->Obj->Prop}{out:List UInt8}{j:List A2Y}{ix pC:List UInt8}{k:Nat}(ok:jU d f)(b:BS h d f out j ix k i)(m:Mod (λc=>c=d+2) i e)(o:e[d+2]? =some (J2 #[J7 (Ae pC)] BD (0,0))):BS h d f out j pC k e:=by
 obtain⟨p,q,r,l⟩:=b.keys;exact⟨b.gr.mod m (λg=>by omega) (λc a s g=>by subst g;exact mz b.ix (Ns (by decide)) s),⟨p,m.ag q (by omega),r.mod m (λc a g=>by have:=l c a;omega),l⟩,o,m.ag b.cB (by omega),
  λc n a=>m.ag (b.fix c n a) (by have:=ok.lt c n a;omega),b.eK.trans (m.ak λc _ a=>by omega)⟩
theorem BS.pB {h i e:aa}{d:Nat}{f:Nat->Obj->Prop}{out:List UInt8}{j:List A2Y}{ix:List UInt8}{n n':Nat}(ok:jU d f)(b:BS h d f out j ix n i)(m:Mod (λc=>c=d+3) i e)(o:e[d+3]? =some (J2 #[J6 J9 (n':Int)] BM (0,0))):BS h d f out j ix n' e:=by
 obtain⟨p,q,r,k⟩:=b.keys;exact⟨b.gr.mod m (λg=>by omega) (λc a s g=>by subst g;exact mz b.cB (Ns (by decide)) s),⟨p,m.ag q (by omega),r.mod m (λc a g=>by have:=k c a;omega),k⟩,m.ag b.ix (by omega),o,
  λc l a=>m.ag (b.fix c l a) (by have:=ok.lt c l a;omega),b.eK.trans (m.ak λc _ a=>by omega)⟩
theorem BS.lp {k h:aa}{i d:Nat}{j:Nat->Obj->Prop}{out:List UInt8}{l:List A2Y}{ix:List UInt8}{n:Nat}(b:BS k i j out l ix n h)(hd:i+3<d)(r: ∀e,¬j d e){s:Go.Loop}(o:h[d]? =some (.loop s))(e:Go.Loop):BS k i j out l ix n (h.setIfInBounds d (.loop e)):=by
 obtain⟨t,u,p,v⟩:=b.keys;have m:Mod (λc=>c=d) h (h.setIfInBounds d (.loop e)):=Mod.setObj rfl;refine⟨b.gr.mod m (λf=>by omega) (λc a w f=>by subst f;exact mz o (λ_ _ x=>by cases x) w),⟨t,m.ag u (by omega),p.mod m (λc a f=>?_),v⟩,m.ag b.ix (by omega),m.ag b.cB (by omega),
  λc e a=>m.ag (b.fix c e a) (λf=>by subst f;exact r _ a),b.eK.trans (m.ak λc _ a=>by omega)⟩
 subst f;rcases p.row with⟨rfl,_⟩|⟨g,z,y,q,_⟩
 ·simp[Sl.ag] at a
 ·simp[Sl.ag,y] at a;subst a;rw[o] at q;cases q
def JL(l:List Pr):List A2Y:=l.map (·.key)
def ja(l:List Pr):Nat:=min (l.length+8) 8192
def Rh(l:List Pr):List UInt8:=jP (JL l) (ja l)
def ZA(l:List Pr):List UInt8:=aT (aN l (Rh l))
def Ha(a:List A2Y):List UInt8:=a.flatMap λb=>BX (bl b)
structure UU (l:List Pr):Prop where
 ne:l≠ []
 ok: ∀p∈l,NA p
 inc:l.Pairwise λp q=>aI p.key q.key=true
 many:l.length<=100000
theorem UU.eZ {l:List Pr}(T:UU l):gO (ZA l) l (Rh l):=by
 have a:1<=ja l/\ja l<=8192:=by unfold ja;omega
 refine⟨rfl,T.ne,T.ok,T.inc,?_,λp b=>ARz a.1 a.2 (IS b),T.many⟩;unfold Rh;rw[ASi a.1];exact a
theorem Wl: ∀ {rs:List (List UInt8)},(∀ r∈rs,r.length<=1048576)->(aT rs).length<=rs.length*1048590
 | [],_=>by simp
 |r::rs,a=>by
  have d:=(LX (a r B8)).2;have e:=a r B8;have b:=Wl (rs:=rs) λx c=>a x (AH _ c)
  simp only[aT,AM,A1,An] at b ⊢;omega
theorem Sa: ∀ {ks:List A2Y},(∀ k∈ks,k.size<=64)->(Ha ks).length<=ks.length*74
 | [],_=>by simp[Ha]
 |k::ks,a=>by
  have d:=a k B8;have e:=AZ (n:=(bl k).length) (by rw[BF];omega);have b:=Sa (ks:=ks) λx c=>a x (AH _ c)
  have f:=BF k;simp only[Ha,AM,A1,An,BX] at b ⊢;omega
theorem QS {l:List Pr}(b: ∀p∈l,NA p): ∀a∈Cb l,a.size<=64:=λa c=>by
 obtain⟨i,_,rfl⟩:=List.mem_map.1 c;unfold JK;split
 ·rename_i p d;exact(b p (AG d)).bC
 ·exact A5 _
theorem SY {l:List Pr}(a: ∀p∈l,NA p){i:Nat}(hi:i<CB l):(Br (CQ l i)).length<=8*8276:=by
 have d:=Pf (l:=CQ l i) λp b=>a p (RI b)
 have c:=(SN hi).2.1;have:(CQ l i).length*8276<=8*8276:=AW _ c;omega
theorem ADj {l:List Pr}(c: ∀p∈l,NA p): ∀a∈(Lr l).map Br,a.length<=1048576:=λa d=>by
 obtain⟨b,e,rfl⟩:=List.mem_map.1 d;obtain⟨i,hi,rfl⟩:=List.mem_map.1 e;have:=SY c (List.mem_range.1 hi);omega
theorem ARW {l:List Pr}{i:Nat}(hi:i<CB l):((Lr l).map Br)[i]? =some (Br (CQ l i)):=by simp[Lr,hi]
theorem TI {l:List Pr}{i:Nat}(hi:i<CB l):(Cb l)[i]? =some (JK l (8*i)):=by simp[Cb,hi]
theorem Vg {a:Type}{l:List a}{i:Nat}{x:a}(b:l[i]? =some x):l.take (i+1)=l.take i++ [x]:=by rw[AE,b];rfl
theorem AHM(a b:List Pr):JL (a++b)=JL a++JL b:=by simp[JL]
theorem AHN {l:List Pr}(a:l.Pairwise λp q=>aI p.key q.key=true){i:Nat}{p q:Pr}(b:l[i]? =some p)(c:l[i+1]? =some q):aI p.key q.key=true:=by obtain⟨d,rfl⟩:=List.getElem?_eq_some_iff.1 b;obtain⟨e,rfl⟩:=List.getElem?_eq_some_iff.1 c;exact List.pairwise_iff_getElem.1 a _ _ d e (by omega)
theorem AM8(a:Nat)(b:a<=100000):(if(8192:Int)<(J8 J9 (((a:Nat):Int)+(8:Int))) then(8192:Int) else(J8 J9 (((a:Nat):Int)+(8:Int))))=((min (a+8) 8192:Nat):Int):=by rw[wrap_i64 (by omega) (by omega)];split<;>omega
theorem ARj {bC:ao}{e:aa}{s:Sl}{l:List Pr}{a1:A2X}(T:UU l)(Y:View Bg e s l)(aw: ∀b,s.ag=some b->b<e.size)
  (bD: ∀a2,Ext e a2->a1 (J1 #[J7 (Ae (ZA l)),J6 J9 0]) a2):AA bC P RY #[J4 s.p s.len s.cap] e a1:=by
 refine AD1 ?_;unfold YF;have cS:=List.length_pos_iff.2 T.ne;have cT:=T.many;refine ab.no (by rw[Y.len];simp;exact T.ne) ?_;refine Loop.rule (λm x u=> ∃i:Nat,x=(⟨#[]⟩,0,(i:Int),())/\m=l.length-i/\i<=l.length/\Ext e u) ?_ ⟨0,rfl,rfl,by omega,Mod.refl⟩;rintro K m _ g ⟨i,rfl,rfl,hi,N⟩ a3;dsimp only;have ax:=Y.ext N;refine ab.intro (λy=>?_) (λy=>?_)
 ·have ay:i<l.length:=by rw[Y.len] at y;simp at y;omega
  have z:l[i]? =some l[i]:=A2 ay;have A:=T.ok _ (BT ay);generalize l[i]=x at z A;have a4:=A.bC;have bE:=A.bY;refine ax.idx z λa bF f=>?_
  obtain⟨az,aA,aC⟩:=f.pair;rw[A6];refine AL.mk az (AL.mk aA (Aa.mk aC ?_));refine ai.pair λb Z bG C a5 cU=>?_
  refine ah.mk λaD bH=>?_
  refine AL.mk (AO C rfl) (ab.no (AQ5 A.key) ?_);have a6:aD (false,()) Z:=by
   refine bH _ _ (ab.no rfl ?_);refine ah.mk λcV bI=>?_
   refine AL.mk (AO C rfl) (ab.no (by simp;omega) ?_);refine AL.mk (AB C rfl) ?_;refine bI _ _ (ab.no (by simp;omega) ?_);rw[Ac (by omega)];exact a3 (l.length-(i+1)) _ _ (by omega) ⟨i+1,rfl,rfl,ay,N.trans a5⟩
  have a7:ab (decide (((i:Nat):Int)>(0:Int))) (AL Z (⟨b,0,none⟩:Q6) λa8=>
     aY s.p s.len (J8 J9 (((i:Nat):Int)-(1:Int))) λa9=>
     AL Z (a9.add ((J8 J9 (((i:Nat):Int)-(1:Int))).toNat*3)) λba=>
     aD ((aI a8 ba||bB a8 ba),()) Z) (aD (false,()) Z):=by
   refine ab.intro (λbJ=>?_) (λ_=>a6);have cW:0<i:=by simp at bJ;omega
   obtain⟨k,rfl⟩: ∃k,i=k+1:=⟨i-1,by omega⟩;have aE:J8 J9 (((k+1:Nat):Int)-(1:Int))=(k:Int):=by rw[wrap_i64 (by omega) (by omega)];omega
   have O:l[k]? =some l[k]:=A2 (by omega);refine AL.mk (AO C rfl) ?_;rw[aE];refine(ax.ext a5).idx O λa9 cX ac=>?_
   rw[A6];refine AL.mk ac.pair.1 ?_;have aF:=AHN T.inc O z;have r:(aI x.key l[k].key||bB x.key l[k].key)=false:=by
    rw[Ge];refine⟨?_,?_⟩
    ·cases bK:aI x.key l[k].key with
     |false=>rfl
     |true=>have:=DW aF bK;rw[CV] at this;cases this
    ·rw[Bl,decide_eq_false_iff_not];intro r;rw[r,CV] at aF;cases aF
   rw[r];exact a6
  refine Aa.mk (AB C rfl) (ab.intro (λbL=>?_) (λ_=>a7));refine AL.mk (AB C rfl) (ab.no ?_ a7);rw[ZG,oF (A.gone bL)];rfl
 ·clear a3;have aG:=Y.len;refine ai.mk λbM _ bN bO bP=>?_
  refine ai.mk λbQ _ bb bc cY=>?_
  refine ai.mk λcZ _ bd aH c0=>?_
  refine ae.mk bd (by simp) λbe bf an c1=>?_
  refine ai.mk λc2 _ bg ap c3=>?_
  refine ae.mk bg (by simp) λbh bi ag c4=>?_
  have bj:bM.size=g.size+1:=bP;have bk:bQ.size=g.size+2:=by omega
  have bm:be.size=g.size+3:=by omega
  have bR:bh.size=g.size+4:=by omega
  rw[bj] at bb;rw[bk] at bd an bf;rw[bm] at bg ag bi;rw[bj,bk,bm];refine AR3 Y.cap (by omega) λfv H Q bS aJ ac bn=>⟨_,rfl,?_⟩
  rw[bR] at bS aJ ac bn;generalize bT:g.size=o at*
  have bU: ∃E:Nat->Obj->Prop,E=λc h=>(c=o+4/\h=J2 #[J4 s.p s.len s.cap] AR (0,0))\/(c=o+5/\h=J2 #[J6 J9 8] BM (0,0)):=⟨_,rfl⟩
  obtain⟨E,aq⟩:=bU;have bV:Ext g H:=by refine⟨by have:=Q.size;omega,λc f _=>?_⟩;rw[bT] at f;exact(Q.get c (by omega) (λe=>e)).trans ((ag.get c (by omega) (by omega)).trans ((ap.get c (by omega) (λe=>e)).trans ((an.get c (by omega) (by omega)).trans ((aH.get c (by omega) (λe=>e)).trans ((bc.get c (by omega) (λe=>e)).trans (bO.get c (by omega) (λe=>e)))))))
  have bW:H[o]? =some (J2 #[J5 none,J4 none 0 0] Em (0,0)):=
   Q.ag (ag.ag (ap.ag (an.ag (aH.ag (bc.ag bN (λe=>e)) (λe=>e)) (by omega)) (λe=>e)) (by omega)) (λe=>e)
  have bX:H[o+1]? =some (J2 #[J4 none 0 0] Bo (0,0)):=
   Q.ag (ag.ag (ap.ag (an.ag (aH.ag bb (λe=>e)) (by omega)) (λe=>e)) (by omega)) (λe=>e)
  have bY:H[o+2]? =some (J2 #[J7 (Ae [])] BD (0,0)):=by
   have bZ:be[o+2]? =some (J2 #[J7 (Ae [])] BD (0,0)):=by rw[ALX];simpa using bf
   exact Q.ag (ag.ag (ap.ag bZ (λe=>e)) (by omega)) (λe=>e)
  have b0:H[o+3]? =some (J2 #[J6 J9 ((0:Nat):Int)] BM (0,0)):=by
   have b1:bh[o+3]? =some (J2 #[J6 J9 ((0:Nat):Int)] BM (0,0)):=by simpa using bi
   exact Q.ag b1 (λe=>e)
  have cN:BS g o E [] [] [] 0 H:=by
   refine⟨ATW bW (A0 _),⟨⟨none,0,0⟩,bX,Own.nil,λc f=>by simp[Sl.ag] at f⟩,bY,b0,λc h f=>?_,bV.mod⟩;subst aq;rcases f with⟨rfl,rfl⟩|⟨rfl,rfl⟩
   ·exact aJ
   ·exact ac
  have R:jU o E:=by
   subst aq;refine⟨λc h f D F=>?_,λc h f D F=>?_,λc h f=>?_⟩
   ·rcases f with⟨rfl,rfl⟩|⟨rfl,rfl⟩<;>exact Ns (by decide) _ _
   ·rcases f with⟨rfl,rfl⟩|⟨rfl,rfl⟩<;>exact Ns (by decide) _ _
   ·rcases f with⟨rfl,rfl⟩|⟨rfl,rfl⟩<;>omega
  have bo: ∀d h,o+6<=d-> ¬E d h:=by subst aq;rintro d h hd (⟨rfl,_⟩|⟨rfl,_⟩)<;>omega
  have b2:(chunks s).length=CB l:=by rw[TE,aG];rfl
  have c5:CB l<=12501:=by unfold CB;omega
  have ar:H.size=o+6:=by omega
  have b3: ∀b,s.ag=some b->b<o:=λb b4=>by have:=aw b b4;have:=N.size;omega
  refine AWZ bn (λi u=>BS g o E (aT (((Lr l).map Br).take i)) (JL (l.take (8*i))) (Ha ((Cb l).take i)) i u) ?_ ?_ ?_ ?_ ?_
  ·intro i u t c f;subst aq;rcases f with rfl|rfl
   ·exact(t.fix _ _ (.inl ⟨rfl,rfl⟩)).trans aJ.symm
   ·exact(t.fix _ _ (.inr ⟨rfl,rfl⟩)).trans ac.symm
  ·rintro i u h t S ⟨c6,b5⟩;exact t.lp (by omega) (λh=>bo _ _ (by omega)) b5 h
  ·intro rec;exact cN.ext ((Mod.push H _).trans (Mod.push _ _))
  ·intro i x u rec c7 c8 z t S au b6 b7;have U:i<CB l:=by have:=(List.getElem?_eq_some_iff.1 z).1;omega
   have b8:x=RX s i:=by have:=AEG (s:=s) (i:=i) (by rw[aG];exact U);rw[this] at z;exact(Bk z).symm
   subst b8;rw[ar] at S au ⊢;refine⟨rec,au,b6,?_⟩;obtain⟨v,L⟩: ∃v:Nat->Obj->Prop,v=λc h=>E c h\/(c=o+6/\h= .deferred (some []))\/(c=o+6+1/\h= .loop {rec with state:= .busy}):=⟨_,rfl⟩
   have M:jU o v:=by
    subst L;refine⟨λc h f D F=>?_,λc h f D F=>?_,λc h f=>?_⟩
    ·rcases f with e|⟨rfl,rfl⟩|⟨rfl,rfl⟩
     ·exact R.u8 c h e D F
     ·intro r;cases r
     ·intro r;cases r
    ·rcases f with e|⟨rfl,rfl⟩|⟨rfl,rfl⟩
     ·exact R.str c h e D F
     ·intro r;cases r
     ·intro r;cases r
    ·rcases f with e|⟨rfl,rfl⟩|⟨rfl,rfl⟩
     ·exact R.lt c h e
     ·omega
     ·omega
   have V:=t.lp (d:=o+6+1) (by omega) (λh=>bo _ _ (by omega)) au {rec with state:= .busy};have aK:BS g o v (aT (((Lr l).map Br).take i)) (JL (l.take (8*i))) (Ha ((Cb l).take i)) i (u.setIfInBounds (o+6+1) (.loop {rec with state:= .busy})):=by
    refine⟨V.gr,V.keys,V.ix,V.cB,λc h f=>?_,V.eK⟩;subst L;rcases f with e|⟨rfl,rfl⟩|⟨rfl,rfl⟩
    ·exact V.fix c h e
    ·rw[DA (by omega)];exact S
    ·exact Ci (Ai au)
   generalize u.setIfInBounds (o+6+1) (.loop {rec with state:= .busy})=g0 at aK;have c9:=SN U;have aL: ∀p∈CQ l i,NA p:=λp aM=>T.ok p (RI aM)
   have aO: ∀ {u:aa} {out:List UInt8} {b9:List A2Y} {ix:List UInt8} {n:Nat},BS g o v out b9 ix n u->View Bg u (RX s i) (CQ l i):=λb=>
    View.chunk (ax.mod b.eK (λc f=>by have:=b3 c f;omega)) U
   have ca:(RX s i).len=(CQ l i).length:=(aO aK).len;have aP:=Wl (rs:=((Lr l).map Br).take i) λcb cc=>ADj T.ok cb (DE cc)
   have aQ:=Sa (ks:=(Cb l).take i) λk O=>QS T.ok k (DE O)
   rw[Ax] at aP aQ;have da:=SY T.ok U;refine Loop.rule (λm x u=> ∃j:Nat,x=(Ae (Br ((CQ l i).take j)),(j:Int),())/\m=(CQ l i).length-j/\j<=(CQ l i).length/\
    BS g o v (aT (((Lr l).map Br).take i)) (JL (l.take (8*i))++JL ((CQ l i).take j)) (Ha ((Cb l).take i)) i u) ?_ ⟨0,rfl,rfl,by omega,by simpa [JL] using aK⟩
   rintro db m _ dc ⟨j,rfl,rfl,dd,I⟩ cd;dsimp only[rS];refine ab.intro (λy=>?_) (λy=>?_)
   ·have aj:j<(CQ l i).length:=by have y:((j:Nat):Int)<(((RX s i).len:Nat):Int):=of_decide_eq_true y;omega
    have z:(CQ l i)[j]? =some (CQ l i)[j]:=A2 aj;have A:=aL _ (BT aj);generalize (CQ l i)[j]=p at z A;have bp:=Vg z;refine(aO I).idx z λa bF f=>?_
    obtain⟨az,aA,aC⟩:=f.pair;rw[A6];refine AL.mk az (AL.mk aA (Aa.mk aC ?_));refine ai.pair λbq de bG C ce df=>?_
    have B:=I.ext ce;obtain⟨ks,ak,al,am⟩:=B.keys;refine AV.mk (s:=ks) (AO ak rfl) ?_;refine AL.mk (AO C rfl) ?_;have dg:o+3<bq:=by have:=Ai I.cB;omega
    have aR:(JL (l.take (8*i))++JL ((CQ l i).take j)).length<=100010:=by rw[A1];simp only[JL,AT,Ax];omega
    refine ai.aV (E:=Jn) (x:=p.key) rfl sQ al (by omega) (by simp only[maxLen];omega) λbr cf cg aS ch dh=>?_
    have ci:cf[o+1]? =some (J2 #[J4 ks.p ks.len ks.cap] Bo (0,0)):=aS.ag ak (λe=>by have:=am _ e;omega);refine ae.mk ci (by simp) λbs cj aU di=>?_
    have bt: ∀c,br.ag=some c->o+3<c:=λc f=>by
     rcases ch c f with e|e
     ·exact am c e
     ·have:=Ai B.cB;omega
    have G:BS g o v _ (JL (l.take (8*i))++JL ((CQ l i).take j)++ [p.key]) _ i bs:=
     B.key M (ju:=br) ak al am ((aS.ak λc _ f=> .inl f).trans (aU.ak λc _ f=> .inr f)) (by simpa using cj) (cg.mod aU (λc f e=>by have:=bt c f;omega)) bt
    have aV:bs[bq]? =some (J2 #[J7 p.key,J7 p.val,J3 p.gone] AU (0,0)):=aU.ag (aS.ag C (λe=>al.ne C (by decide) e)) (by omega);refine AL.mk (AO aV rfl) (AL.mk (AB aV rfl) (Aa.mk (AB aV rfl) ?_));refine ARO (x:=p) A λdj ck=>⟨_,rfl,?_⟩
    have cl:Br ((CQ l i).take (j+1))=Br ((CQ l i).take j)++KU p:=by rw[bp];simp[Br]
    have lt:=Pf (l:=(CQ l i).take j) λq y=>aL q (DE y)
    rw[Ax] at lt;have lp:=(Ru A).2;have a4:=A.bC;have bE:=A.bY;refine⟨by rw[AP,AP,max_i64];omega,?_⟩;rw[Aq,<-cl,Ac (by omega)];refine cd ((CQ l i).length-(j+1)) _ _ (by omega) ⟨j+1,rfl,rfl,aj,?_⟩;have J:=G.ext ck;have:JL ((CQ l i).take (j+1))=JL ((CQ l i).take j)++ [p.key]:=by rw[bp,AHM];rfl
    rw[this,<-A4];exact J
   ·have aj:j=(CQ l i).length:=by have y: ¬((j:Nat):Int)<(((RX s i).len:Nat):Int):=of_decide_eq_false y;omega
    have cm:(CQ l i).take j=CQ l i:=by rw[aj];simp
    rw[cm] at I ⊢;refine sG (by omega) (λe=>by omega) λaW dk cn=>⟨_,_,rfl,?_⟩
    have B:=I.ext cn;have co:=LX aW;refine WK B.gr (by have:=Ai B.cB;omega) (by rw[AP];omega) λcp cq cr=>⟨_,_,rfl,?_⟩
    have G:=B.write M cq cr;rw[Fg] at G;refine AL.mk (AO G.ix rfl) ?_;have aX:(CQ l i)[0]? =some (CQ l i)[0]:=A2 (by omega);have bu:JK l (8*i)=(CQ l i)[0].key:=by have:=Rs (l:=l) (i:=i) (j:=0) (by omega);rw[aX] at this;unfold JK;rw[DB] at this;rw[<- this]
    have bv:=aL _ (BT (show 0<(CQ l i).length by omega));generalize (CQ l i)[0]=W at aX bu bv;obtain⟨cs,ct,bw⟩:=(aO G).cells 0 W aX;refine aY.mk (k:=0) ct (by rw[ca];omega) ?_;rw[HT,add_zero] at bw;refine AL.mk (n:=W.key) (by show af cp (cs.add 0)=_;rw[add_zero];exact bw.pair.1) ?_;have a4:=bv.bC;refine XL (by omega) λdl cu=>⟨_,rfl,?_⟩
    have J:=G.ext cu;refine⟨AO J.ix rfl,?_⟩;have dm:=AZ (n:=(bl W.key).length) (by rw[BF];omega);have dn:=BF W.key;refine⟨by rw[AP,AP,max_i64];simp only[BX,A1];omega,?_⟩;rw[Aq];refine ae.mk J.ix (by simp) λdp cv cw dq=>?_
    have X:=J.ixs M (pC:=Ha ((Cb l).take i)++BX (bl W.key)) cw (by simpa using cv);refine AC.mk (AO X.cB rfl) ?_;rw[Ac (by omega)];refine ae.mk X.cB (by simp) λcx cy cz dr=>?_
    have w:=X.pB M (n':=i+1) cz (by simpa using cy);have aE:aT (((Lr l).map Br).take (i+1))=aT (((Lr l).map Br).take i)++Iq (Br (CQ l i)):=by rw[Vg (ARW U)];simp[aT]
    have cB:JL (l.take (8*(i+1)))=JL (l.take (8*i))++JL (CQ l i):=by rw[<- AHM,yV]
    have cC:Ha ((Cb l).take (i+1))=Ha ((Cb l).take i)++BX (bl W.key):=by rw[Vg (TI U),bu];simp[Ha]
    subst L;refine b7 cx ?_ ?_ ?_
    ·rw[aE,cB,cC];exact⟨w.gr,w.keys,w.ix,w.cB,λc h f=>w.fix c h (.inl f),w.eK⟩
    ·rw[ar];exact w.fix _ _ (.inr (.inl ⟨rfl,rfl⟩))
    ·rw[ar];exact w.fix _ _ (.inr (.inr ⟨rfl,rfl⟩))
  ·intro cD t S;rw[b2] at t;have ak:((Lr l).map Br).take (CB l)=(Lr l).map Br:=AD (by simp[JW]);have al:l.take (8*CB l)=l:=AD (by unfold CB;omega);have am:(Cb l).take (CB l)=Cb l:=AD (by simp[IP]);rw[ak,al,am] at t;rw[ar] at S ⊢;obtain⟨v,L⟩: ∃v:Nat->Obj->Prop,v=λc h=>E c h\/(c=o+6/\h= .deferred (some [])):=⟨_,rfl⟩
   have M:jU o v:=by
    subst L;refine⟨λc h f D F=>?_,λc h f D F=>?_,λc h f=>?_⟩
    ·rcases f with e|⟨rfl,rfl⟩
     ·exact R.u8 c h e D F
     ·intro r;cases r
    ·rcases f with e|⟨rfl,rfl⟩
     ·exact R.str c h e D F
     ·intro r;cases r
    ·rcases f with e|⟨rfl,rfl⟩
     ·exact R.lt c h e
     ·omega
   have I:BS g o v (aT ((Lr l).map Br)) (JL l) (Ha (Cb l)) (CB l) cD:=by
    refine⟨t.gr,t.keys,t.ix,t.cB,λc h f=>?_,t.eK⟩;subst L;rcases f with e|⟨rfl,rfl⟩
    ·exact t.fix c h e
    ·exact S
   obtain⟨ks,bx,aZ,ds⟩:=I.keys;refine AV.mk (s:=ks) (AO bx rfl) (AV.mk (s:=ks) (AO bx rfl) ?_);have aR:ks.len=l.length:=by rw[aZ.len];simp[JL]
   have bz:1<=ja l/\ja l<=8192:=by unfold ja;omega
   have bA:=T.eZ;have dt:=bA.jt;rw[aR,AM8 _ T.many];rw[show((min (l.length+8) 8192:Nat):Int)=((ja l:Nat):Int) from rfl,<-aR];refine ATT (ks:=JL l) aZ.view (λk O=>?_) bz.1 bz.2 (by simp[JL];omega) (λb aw=>aZ.lt aw) λdu cE=>⟨_,_,rfl,?_⟩
   ·obtain⟨p,aM,rfl⟩:=List.mem_map.1 O;have:=(T.ok p aM).bC;omega
   have B:=I.ext cE;refine AC.mk (AO B.cB rfl) (AL.mk (AO B.ix rfl) ?_);rw[CL (by omega)];refine Cj (by omega) λdv cF=>⟨_,rfl,?_⟩
   have G:=B.ext cF;refine⟨AO G.ix rfl,?_⟩;have dw:=AZ (n:=CB l) (by omega);have aQ:=Sa (ks:=Cb l) (QS T.ok);rw[IP] at aQ;refine⟨by rw[AP,AP,max_i64];omega,?_⟩;rw[aG,CL (by omega)];refine Cj (by omega) λdx cG=>⟨_,rfl,?_⟩
   have J:=G.ext cG;have dy:=AZ (n:=l.length) (by omega);refine⟨AO J.ix rfl,?_⟩;rw[Aq];refine⟨by rw[AP,AP,max_i64];simp only[A1];omega,?_⟩;refine Sn (l:=Rh l) (by omega) λdz cH=>⟨_,rfl,?_⟩
   have X:=J.ext cH;have dA:=AZ (n:=(Rh l).length) (by omega);refine⟨AO X.ix rfl,?_⟩;rw[Aq,Aq];have dB:(BX (Rh l)).length=(Bt (Rh l).length).length+(Rh l).length:=by simp[BX]
   refine⟨by rw[AP,AP,max_i64];simp only[A1];omega,?_⟩;have cI:Bt (CB l)++Ha (Cb l)++Bt l.length++BX (Rh l)=Xi l (Rh l):=by unfold Xi Ha;simp only[A4]
   rw[cI];have dC:=Zr bA;refine sG (by omega) (λe=>by omega) λaW dD cJ=>⟨_,_,rfl,ab.no rfl ?_⟩
   have w:=X.ext cJ;have aP:=Wl (rs:=(Lr l).map Br) (ADj T.ok);rw[AT,JW] at aP;have co:=LX aW;refine WK w.gr (by have:=Ai w.cB;omega) (by rw[AP];omega) λdE cK cL=>⟨_,_,rfl,?_⟩
   have av:=w.write M cK cL;rw[Fg] at av;refine AL5 av.gr (by have:=Ai av.cB;omega) λcM cO cP=>⟨_,rfl,?_⟩
   have a0:=av.write M cO cP;have cQ:aT ((Lr l).map Br)++Iq (Xi l (Rh l))=ZA l:=by unfold ZA aN;simp[aT]
   have cR:cM[o+6]? =some (.deferred (some [])):=a0.fix _ _ (by subst L;exact .inr ⟨rfl,rfl⟩);refine⟨cR,?_⟩;rw[cQ];refine bD _ ⟨?_,λc f _=>?_⟩
   ·have:=a0.eK.size;have:=N.size;simp;omega
   ·have:=N.size;rw[DA (by omega)];exact(a0.eK.get c (by omega) (by omega)).trans (N.get c f (λe=>e))
end Go.Lf.G
namespace Go.Proofs
open Go.Shelf
theorem bears {P : Program} {f : FuncId} {b : Func} (a : (P.funcs[f]?).map (λx => { x with name := "" }) = some { b with name := "" }) (d : ((P.funcs[f]?).all λx => !(x.name == "runtime.NumGoroutine")) = true) : Bears P f b := by
 cases c:P.funcs[f]? with
 |none=>rw[c] at a;cases a
 |some x=>
  rw[c] at a d;simp only[Option.map_some,Option.some.injEq] at a;refine⟨x.name,by simpa using d,c.trans (congrArg some ?_)⟩;cases x;cases b
  simp_all
def Tryz.cz:Go.Shelf.Ren:=⟨λ|7=>98|10=>159|a=>a,λ|23=>94|26=>9|3=>164|28=>162|0=>0|27=>161|33=>104|4=>4|a=>a,λ|a=>a⟩
theorem Tryz.iL:Go.Proofs.SlLaysZ.n7 Tryz.prog Tryz.cz:=by repeat' first|exact Lf.DZ (by kernel_rfl)|kernel_rfl|exact bears (by kernel_rfl) (by kernel_rfl)|decide|constructor
def Tryz.dv:Go.Shelf.Ren:=⟨λ|6=>97|8=>157|9=>158|11=>220|13=>222|12=>221|23=>284|24=>285|14=>275|15=>276|16=>277|17=>278|18=>279|19=>280|20=>281|21=>282|22=>283|25=>310|26=>311|27=>312|28=>313|29=>314|30=>108|31=>334|a=>a,λ|26=>9|28=>162|24=>70|0=>0|3=>3|37=>177|48=>174|50=>123|4=>4|40=>372|39=>371|45=>363|5=>5|9=>9|51=>394|55=>397|57=>414|58=>251|33=>104|a=>a,λ|a=>a⟩
theorem Tryz.ic:Go.Proofs.SlLaysZ.n6 Tryz.prog Tryz.dv:=by repeat' first|exact Lf.DZ (by kernel_rfl)|kernel_rfl|exact bears (by kernel_rfl) (by kernel_rfl)|decide|constructor
def Tryz.fK:Go.Shelf.Ren:=⟨λ|6=>158|8=>222|9=>221|19=>284|20=>285|21=>275|22=>276|23=>277|24=>278|25=>279|26=>280|27=>281|28=>282|29=>283|36=>310|31=>311|32=>312|37=>313|38=>314|39=>108|41=>334|a=>a,λ|27=>70|29=>9|3=>3|32=>177|26=>70|0=>0|44=>174|46=>123|4=>4|36=>372|35=>371|41=>363|5=>5|9=>9|53=>394|57=>397|63=>414|64=>251|a=>a,λ|a=>a⟩
theorem Tryz.iM:Go.Proofs.SlLaysM.n6 Tryz.prog Tryz.fK:=by repeat' first|exact Lf.DZ (by kernel_rfl)|kernel_rfl|exact bears (by kernel_rfl) (by kernel_rfl)|decide|constructor
def Tryz.fL:Go.Shelf.Ren:=⟨λ|5=>295|8=>222|7=>321|19=>284|20=>285|10=>338|11=>339|12=>340|13=>341|14=>342|15=>343|16=>344|17=>345|18=>346|30=>355|31=>311|32=>312|33=>356|34=>357|35=>105|40=>359|a=>a,λ|23=>22|25=>3|3=>3|32=>177|22=>22|0=>0|44=>174|46=>123|4=>4|36=>372|35=>371|41=>363|5=>5|9=>9|53=>394|57=>397|63=>414|64=>251|a=>a,λ|a=>a⟩
theorem Tryz.iN:Go.Proofs.SlLaysM.n5 Tryz.prog Tryz.fL:=by repeat' first|exact Lf.DZ (by kernel_rfl)|kernel_rfl|exact bears (by kernel_rfl) (by kernel_rfl)|decide|constructor
end Go.Proofs
namespace Go.Lf.G
open Go
abbrev ox:Q8:=Fp
theorem ATf {d:ao}{a:aa}{b:Option Nat}{e:A2X}(g: ∀T c,c[a.size]? =some (J2 #[.map b] T (0,0))->Ext a c->c.size=a.size+1->e (.func (.func ox) #[] #[Ap a.size]) c):
  AA d P CJ #[.map b] a e:=by
 intro f;have h:=Proofs.AnyZ.keys_in Proofs.Tryz.iL Fence.wide 5 trivial rfl b (d.at a f);have i:=callsIn_wide.1 h;refine Calls.mono i ?_;rintro j k ⟨rfl,rfl⟩;refine⟨_,rfl,a.push (J2 #[.map b] (Proofs.Tryz.cz.t 23)),f,rfl,?_⟩;exact g (Proofs.Tryz.cz.t 23) (a.push (J2 #[.map b] (Proofs.Tryz.cz.t 23))) (by simp) (Mod.push a _) (by simp)
theorem AWD(m:Nat):Proofs.AnyZ.SortsIn P Proofs.Tryz.dv Fence.wide m:=
 ⟨λag off a c b d e f=>callsIn_wide.2 (Proofs.AnyM.slices_Sort_string Proofs.Tryz.iM ag off a c b d e f),
 λp a b=>callsIn_wide.2 (Proofs.AnyM.slices_Sort_string_none Proofs.Tryz.iM p a b)⟩
theorem AO0 {A:ao}{h:aa}{c i:Nat}{T:Q7}{m:List (A2Y×J0)}{l:List A2Y}{o:A2X}(p:h[c]? =some (J2 #[.map (some i)] T (0,0)))(M:XO h i m)
  (B:oz l) (C:(m.map (·.1)).Perm l) (d:m.length<=8796093022208)
  (q: ∀s j,Own Jn BD j s l->Ext h j->(∀ b,s.ag=some b->h.size<=b)->o (J4 s.p s.len s.cap) j):
  AA A P GY #[.func (.func ox) #[] #[Ap c]] h o:=by
 intro n;obtain⟨k,D,E,r⟩:=AMy (P:=P) (kt:=BD) SB (w:=A.at h n) M;have F:SeqGives Fence.wide 2 P ox #[Ap c] Proofs.encStr (λe=>e.Perm (strKeys k)) (Maps.size k) (A.at h n):=
  Proofs.AnyZ.keys_gives (ρ:=Proofs.Tryz.cz) {Proofs.Tryz.iL with} Fence.wide _ trivial rfl (by omega) c i _ k _ (show c<h.size from Ai p) (by show af h ⟨c,0,none⟩=_;rw[Gs p];rfl) D
 have G:=Proofs.AnyZ.sorted_in Proofs.Tryz.ic Fence.wide 5 trivial trivial trivial trivial rfl (by omega) (AWD _) (Proofs.enters_of Proofs.Tryz.func158 (by kernel_rfl) rfl) ox #[Ap c] trivial (Proofs.enters_of Proofs.Tryz.func159 (by kernel_rfl) rfl) _ _ (by rw[r];simp[maxLen];omega) (by rw[r];omega) _ F;have H:=callsIn_wide.1 G;refine Calls.mono H ?_;rintro V a ⟨v,e,rfl,I,t,W,f⟩;have u:a=A.at a.heap a.drawn:=xO (A:=A) (h:=h) (n:=n) rfl f.os f.tape f.output;have y:e.Perm (l.map λx=>x.data.toList):=by
  refine(I.trans E).trans ?_;have:=C.map λx:A2Y=>x.data.toList
  simpa [CA,GF] using this
 have J:e.length=l.length:=by have:=y.length_eq;simpa using this
 rw[AL4 B y,APP] at t;have z:Ext h a.heap:=⟨f.size,λb d _=>f.block b d⟩;rcases t.2 with⟨rfl,X⟩|⟨g,K,L,rfl,N,O,Q,R,S,U⟩
 ·have:l= []:=CN (by omega);subst this;exact⟨_,rfl,a.heap,a.drawn,u,q ⟨none,0,0⟩ _ Own.nil z (λb d=>by simp[Sl.ag] at d)⟩
 ·refine⟨_,rfl,a.heap,a.drawn,u,q ⟨some ⟨g,0,none⟩,e.length,K⟩ _ ⟨J,.inr ⟨g,L,rfl,O,Q,R,S,U⟩⟩ z (λb d=>?_)⟩;simp[Sl.ag] at d;subst d;exact N
def jM(m:Bx):List A2Y×Int:=if m.down then([],30) else(m.files.map (·.name),0)
theorem FU.names {d:aa}{b e:Nat}{a:List (Fi×Nat)}{m:Bx}(c:FU d b e a m):((eO a).map (·.1)).Perm (m.files.map (·.name))/\(eO a).length<=8796093022208:=by
 refine⟨?_,?_⟩
 ·have:=c.perm.map (·.name);simpa [eO,CA,GF] using this
 ·have f:=c.perm.length_eq;have g:=lR m.files;have h:=c.aJ.wt;simp at f ⊢;omega
theorem FU.eX {h:ao}{a:aa}{b i:Nat}{n:List (Fi×Nat)}{m:Bx}(d:FU a b i n m){j:Sl->aa->Prop}
  (o: ∀s f,Own Jn BD f s (m.files.map (·.name))->Ext a f->(∀ c,s.ag=some c->a.size<=c)->j s f):
  AA h P CJ #[.map (some i)] a λv1 g=> ∃k:J0,v1=k/\(
   AA h P GY #[k] g λv2 p=> ∃e:Sl,v2=J4 e.p e.len e.cap/\j e p):=by
 refine ATf λT w q l x=>⟨_,rfl,?_⟩
 refine AO0 q (d.map.mod l (λa=>a)) (Vh.1 d.aJ.sorted) d.names.1 d.names.2 λs g r t u=>⟨s,rfl,?_⟩
 exact o s g r (l.trans t) (λc v=>by have:=u c v;omega)
theorem yA {i:ao}{a:aa}{b:Nat}{j:Nat->Prop}{m:Bx}{h:A2X}(d:Dw a b j m)
  (e: ∀s g,Own Jn BD g s (jM m).1->Ext a g->(∀ c,s.ag=some c->a.size<=c)->h (J1 #[J4 s.p s.len s.cap,J6 J9 (jM m).2]) g):AA i P MR #[Ap b] a h:=by
 obtain⟨n,o,d,p⟩:=d;refine AC2 ?_;unfold WP;refine l9 d.head ⟨_,rfl,?_⟩;unfold jM at e;refine ab.intro (λhd=>?_) (λhd=>?_)
 ·rw[if_pos hd] at e;exact e ⟨none,0,0⟩ a Own.nil Mod.refl (λc k=>by simp[Sl.ag] at k)
 rw[if_neg (by simp[hd])] at e;exact aA (Ex.mk (AO d.head rfl) (d.eX λs g l x f=>e s g l x f))
theorem AJu:Rj P Ar BM Jh.w 8=true:=by kernel_rfl
theorem AUS {m:ao}{c:aa}{s:Sl}{l:List Int}{r:A2X}(t:Own Jh BM c s l)(N:l.length<=8796093022208)
  (u: ∀n,View Jh n s (l.mergeSort λx d=>decide (x<=d))->Mod (λb=>s.ag=some b) c n->r (J1 #[]) n):AA m P JP #[J4 s.p s.len s.cap] c r:=by
 intro j;have w:=t.len;rcases t.row with⟨rfl,rfl⟩|⟨g,o,p,h,A,O,B,y⟩
 ·refine Calls.mono (Proofs.AnyM.slices_Sort_int_none Proofs.Tryz.iN none 0 (m.at c j)) ?_;rintro k C ⟨rfl,rfl⟩;exact⟨_,rfl,c,j,rfl,u c (by simpa using View.nil) Mod.refl⟩
 ·rw[p,w];have q:Jh.w=1:=rfl;rw[q,AN] at B y;have D: ∀a x,l[a]? =some x->o[a]? =some (Value.int J9 x):=λa x e=>by
   have f:=dk (E:=Jh) e 0 (J6 J9 x) rfl;rw[<- y,q,AN,DB,F1] at f;split at f
   ·simpa using f
   ·cases f
  refine Calls.mono (Proofs.AnyM.slices_Sort_int Proofs.Tryz.iN g 0 s.cap l (m.at c j) ?_ (Ai h) (by omega)) ?_
  ·intro a e;have e:a<l.length:=by simpa using e
   have f:=D a l[a] (A2 e);have F:l.toArray[a]! =l[a]:=by simp[e]
   refine⟨?_,?_⟩
   ·show af c ⟨g,0+a,none⟩=_;unfold af;rw[h];simp only[Option.isSome_none,BW,if_false,AF,F,f]
   ·show fO c ⟨g,0+a,none⟩=false;unfold fO;rw[h];simp
  ·rintro k C ⟨rfl,G,os,rfl⟩;have H:(c.modify g (Sort.onCells (Sort.putCells (Value.int J9) 0 (l.mergeSort λx d=>decide (x<=d)).toArray))++os)[g]? =some (J2 (Sort.putCells (Value.int J9) 0 (l.mergeSort λx d=>decide (x<=d)).toArray o) BM (0,0)):=by rw[Kf (by simpa using Ai h),Hi,if_pos rfl,h];rfl
   refine⟨_,rfl,c.modify g (Sort.onCells (Sort.putCells (Value.int J9) 0 (l.mergeSort λx d=>decide (x<=d)).toArray))++os,j+G,rfl,u _ ⟨?_,A,λa x e=>⟨⟨g,0,none⟩,p,λi v hi=>?_⟩⟩ ⟨by simp,λb I J=>?_⟩⟩
   ·rw[A0K];exact w
   ·have K:i=0:=by have:=(List.getElem?_eq_some_iff.1 hi).1;have k:(Jh.enc x).length=1:=rfl;omega
    subst K;simp only[Jh,HA,Bs] at hi;subst hi;have z:a<(l.mergeSort λx d=>decide (x<=d)).length:=(List.getElem?_eq_some_iff.1 e).1;have L:a<o.size:=by rw[A0K] at z;omega
    rw[q,AN,Bp,Bp,AF,DB];unfold af;rw[H];simp only[Option.isSome_none,BW,if_false,Sort.putCells,Array.getElem?_mapIdx];rw[DP L,Hh,if_pos ⟨A5 _,by simpa using z⟩];have:(l.mergeSort λx d=>decide (x<=d)).toArray[a-0]! =x:=by rw[Gk];simp[e]
    rw[this]
   ·have M:g≠b:=λk=>J (by rw[Sl.ag,p,k];rfl)
    rw[Kf (by simpa using I),Hi,if_neg M]
structure AXQ (nm:A2Y) (m:Bx) (l:List Nat):Prop where
 inc:l.Pairwise (· < ·)
 mem: ∀n,n∈l↔1<=n/\n<=99999999/\(Dp (br nm n) m.files).isSome=true
theorem ALw {a:A2Y}{l:List Fi}:(Dp a l).isSome=true↔a∈l.map (·.name):=by
 constructor
 ·intro b;cases c:Dp a l with
  |none=>rw[c] at b;cases b
  |some f=>
   obtain⟨d,e⟩:=LB c;exact List.mem_map.2 ⟨f,e,d⟩
 ·intro b;obtain⟨f,d,e⟩:=List.mem_map.1 b;cases c:Dp a l with
  |none=>exact absurd e (UB c f d)
  |some f=>rfl
theorem AS2 {m:Bx}(g:IA m):(m.files.map (·.name)).Nodup:=List.pairwise_map.2 (g.sorted.imp λa=>Mk a)
theorem AL2 {ns:List Nat}(o:ns.Nodup): ∃l:List Nat,((ns.map λd:Nat=>(d:Int)).mergeSort λx e=>decide (x<=e))=l.map (λd:Nat=>(d:Int))/\l.Pairwise (· < ·)/\ ∀d,d∈l↔d∈ns:=by
 have g:=List.mergeSort_perm (ns.map λd:Nat=>(d:Int)) (λx e=>decide (x<=e));have m:((ns.map λd:Nat=>(d:Int)).mergeSort λx e=>decide (x<=e)).Pairwise (λx e=>decide (x<=e)=true):=
  List.pairwise_mergeSort (λa b c p i=>by simp at p i ⊢;omega) (λa b=>by simp;omega) _
 generalize (ns.map λd:Nat=>(d:Int)).mergeSort (λx e=>decide (x<=e))=f at g m;have j: ∀x∈f,((x.toNat:Nat):Int)=x:=λx h=>by
  obtain⟨d,_,rfl⟩:=List.mem_map.1 (g.subset h);simp
 have q:f=(f.map Int.toNat).map (λd:Nat=>(d:Int)):=by
  rw[CA]
  conv=>lhs;rw[<- List.map_id f]
  exact GO λx h=>(j x h).symm
 have r:f.Nodup:=g.symm.nodup (by
  rw[SW,No];exact(List.nodup_iff_pairwise_ne.1 o).imp λs t=>s (by exact_mod_cast t))
 refine⟨f.map Int.toNat,q,?_,λd=>?_⟩
 ·rw[No];have i:f.Pairwise λx e=>decide (x<=e)=true/\x≠e:=m.and (List.nodup_iff_pairwise_ne.1 r)
  refine i.imp_of_mem λ{a c} u v n=>?_
  have y:=j a u;have z:=j c v;have A:a<=c:=of_decide_eq_true n.1;have B:=n.2;omega
 ·constructor
  ·intro k;obtain⟨x,h,rfl⟩:=List.mem_map.1 k;obtain⟨C,w,rfl⟩:=List.mem_map.1 (g.subset h);simpa using w
  ·intro k;exact List.mem_map.2 ⟨(d:Int),g.symm.subset (List.mem_map.2 ⟨d,k,rfl⟩),by simp⟩
theorem ACJ {R:ao}{h:aa}{b:Nat}{S:Nat->Prop}{m:Bx}{j:A2Y}{N:A2X}(E:bR h)(D:Dw h b S m)(hd:m.down=false)(T:j.size<=1099511627776)(aK:bJ m.files<=8000000000000)
  (U: ∀k s (l:List Nat),AXQ j m l->View Jh k s (l.map λe:Nat=>(e:Int))->Ext h k->(∀ c,s.ag=some c->h.size<=c)->N (J1 #[J4 s.p s.len s.cap,J6 J9 0]) k):AA R P ML #[Ap b,J7 j] h N:=by
 refine AC1 ?_;unfold V9;refine yA D λs n F y aL=>⟨s,_,rfl,?_⟩
 have V:jM m=(m.files.map (·.name),0):=by unfold jM;rw[if_neg (by simp[hd])]
 rw[V] at F ⊢;refine ab.no rfl ?_;have W:=AS2 D.aJ;have X: ∀d∈m.files.map (·.name),d.size<=32:=λd g=>by
  obtain⟨f,Y,rfl⟩:=List.mem_map.1 g;exact D.aJ.names f Y
 have aM:(m.files.map (·.name)).length<=8000000000000:=by have:=lR m.files;simp;omega
 have Z: ∀d,(Dp d m.files).isSome=true↔d∈m.files.map (·.name):=λd=>ALw
 dsimp only at F;generalize m.files.map (·.name)=names at*
 have v1:=F.view;refine Loop.rule (λO x G=> ∃(i:Nat) (sl:Sl) (ns:List Nat),x=(sl,(i:Int),())/\Ext n G/\Own Jh BM G sl (ns.map λe:Nat=>(e:Int))/\(∀ c,sl.ag=some c->n.size<=c)/\i<=names.length/\ns.length<=i/\(ns.map (br j)).Sublist (names.take i)/\(∀ e∈ns,1<=e/\e<=99999999)/\(∀ d:Nat,1<=d->d<=99999999->br j d∈names.take i->d∈ns)/\O=names.length-i) ?_
  ⟨0,⟨none,0,0⟩,[],rfl,Mod.refl,Own.nil,λc o=>by simp[Sl.ag] at o,A5 _,A0 _,by simp,by simp,by simp,rfl⟩
 rintro K O _ G ⟨i,sl,ns,rfl,r,H,f,hi,aN,u,I,z,rfl⟩ ac;rw[v1.len];refine ab.intro (λJ=>?_) (λJ=>?_)
 ·have v:i<names.length:=by simpa using J
  refine ah.mk λae ag=>?_
  have af:names[i]? =some names[i]:=A2 v;rw[<- v1.len];refine(v1.ext r).idx af λa _ c=>?_
  refine AL.mk c.str ?_;refine APO ((E.ext y).ext r) T (by have:=X names[i] (BT v);omega) λaj e w ak al=>⟨_,rfl,?_⟩
  have A:names.take (i+1)=names.take i++ [names[i]]:=by rw[AE,af];rfl
  have fin: ∀(p:Sl) (q:List Nat) (k:aa),Ext n k->Own Jh BM k p (q.map λe:Nat=>(e:Int))->(∀ c,p.ag=some c->n.size<=c)->q.length<=i+1->(q.map (br j)).Sublist (names.take (i+1))->(∀ e∈q,1<=e/\e<=99999999)->(∀ d:Nat,1<=d->d<=99999999->br j d∈names.take (i+1)->d∈q)->ae (p,()) k:=λp q k am an ap aq ar au av=>by
   refine ag _ _ ?_;dsimp only;rw[Ac (by omega)];exact ac (names.length-(i+1)) _ _ (by omega) ⟨i+1,p,q,rfl,am,an,ap,v,aq,ar,au,av,rfl⟩
  by_cases t:e=0
  ·refine ab.no (by simp[t]) (fin sl ns aj (r.trans w) (H.ext w) f (by omega) ?_ I ?_)
   ·rw[A];exact u.trans (List.sublist_append_left _ _)
   ·intro d B C g;rw[A] at g;rcases List.mem_append.1 g with g|g
    ·exact z d B C g
    ·exact absurd (List.mem_singleton.1 g).symm (ak t d B C)
  ·refine ab.yes (by simp;omega) ?_;obtain⟨aO,ne⟩:=al t;refine ai.aV (E:=Jh) (x:=(e:Int)) (s:=sl) (l:=ns.map λe:Nat=>(e:Int)) rfl AJu (H.ext w) (by simp;omega) (by simp[maxLen];omega) λp aw ax ay az _=>?_
   refine fin p (ns++ [e]) aw ((r.trans w).more ay f) (by rw[Cl];exact ax) (λc o=>?_) (by simp;omega) ?_ ?_ ?_
   ·rcases az c o with h|h
    ·exact f c h
    ·have:=r.size;have:=w.size;omega
   ·rw[A,Cl];have aA: [e].map (br j)= [names[i]]:=by rw[ne];rfl
    rw[aA];exact u.append (List.Sublist.refl _)
   ·intro d g;rcases List.mem_append.1 g with g|g
    ·exact I d g
    ·rw[List.mem_singleton.1 g];omega
   ·intro d B C g;rw[A] at g;rcases List.mem_append.1 g with g|g
    ·exact List.mem_append.2 (.inl (z d B C g))
    ·have:=oD ((List.mem_singleton.1 g).trans ne);exact List.mem_append.2 (.inr (by simp[this]))
 ·have v:i=names.length:=by simp at J;omega
  subst v;rw[CH] at u z;have aC:ns.Nodup:=by have n:=u.nodup W;rw[SW,No] at n;rw[SW];exact n.imp λh aD=>h (by rw[aD])
  obtain⟨l,aE,aF,aG⟩:=AL2 aC;refine AUS H (by simp;omega) λaH Q aI=>⟨rfl,?_⟩
  rw[aE] at Q;refine U aH sl l ⟨aF,λe=>?_⟩ Q ((y.trans r).more aI λc o=>by have:=f c o;have:=y.size;omega) λc o=>by have:=f c o;have:=y.size;omega
  rw[aG,Z];constructor
  ·intro t;obtain⟨L,M⟩:=I e t;exact⟨L,M,u.subset (List.mem_map.2 ⟨e,t,rfl⟩)⟩
  ·rintro⟨L,M,aJ⟩;exact z e L M aJ
end Go.Lf.G
