/-
 Plain law: a box of files (chapter 3).
-/
import Derived.Test.YtgpmoonnachoaaaGreatDoorLfKToGA
import Derived.Test.YtgpmoonnachoaaaGreatDoorLfG1
import Derived.Shelf.Strings.Repeat
import Derived.Shelf.Small.Wraps
import Derived.Shelf.Pu.ParseUintPublic10
import Derived.Shelf.Strconv.Itoa3
import Derived.Shelf.Strconv.AtoiAll
import Derived.Shelf.Strings.BuilderK
import Derived.Test.YtgpmoonnachoaaaGreatDoorLfAToN1
import Derived.Test.YtgpmoonnachoaaaGreatDoorProg
import Derived.Lib.ItoaNum
import Derived.Lib.Repeat
import Derived.Lib.ParseIntB
import Derived.Test.YtgpmoonnachoaaaGreatDoorRows
import Derived.Lib.ItoaLen
import Derived.Lib.AppendIntMem
import Derived.WalkKit
import Derived.ProofKit
import Derived.OpenShut
import Derived.JoinedCond
import Derived.Deep.Slices
import Derived.Carry
import Derived.Shelf.SlGeneric
import Derived.Shelf.SlIter.Nil
import Derived.Shelf.SlIter.Sorted
import Derived.Shelf.SortM.Plain
import Derived.Shelf.SortM.SortNone
set_option maxRecDepth 100000
set_option linter.unusedVariables false
set_option linter.unusedSimpArgs false
open Go.IntKind renaming i64→J9,wrap→J8
open Go.Value renaming string→J7,int→J6,pointer→J5,slice→J4,bool→J3,tuple→J1
open Go.Obj renaming cells→J2
open Go renaming Value→J0,Addr→Q6,TypeId→Q7,FuncId→Q8,Program→Q1
open Go.Addr renaming add→Q9,mk→Q5
namespace Go.Lf
open Go
abbrev bq:A2M:=⟨#[]⟩
theorem oN:ByteArray.size ⟨#[]⟩=0:=rfl
structure Fi where
 name:A2M
 bZ:A2M
 soft:A2M
deriving DecidableEq
def Gx(l:List Fi):Prop:=l.Pairwise λa b=>aO a.name b.name=true
def Cb(a:A2M)(l:List Fi):Option Fi:=l.find? λf=>decide (f.name=a)
def QP(a:A2M)(g:Fi->Fi)(l:List Fi):List Fi:=l.map λf=>if f.name=a then g f else f
def QO(a:A2M)(l:List Fi):List Fi:=l.filter λf=> !decide (f.name=a)
def hU(x:Fi):List Fi->List Fi
 | []=> [x]
 |q::l=>if aO q.name x.name then q::hU x l else x::q::l
def ba(l:List Fi):Nat:=(l.map λf=>f.bZ.size+f.soft.size+1).sum
theorem Gl(a:A2M)(x:Fi)(l:List Fi):Cb a (x::l)=if x.name=a then some x else Cb a l:=by unfold Cb;rw[F2];by_cases b:x.name=a<;>simp[b]
theorem JP {b:A2M}{l:List Fi}{x:Fi}(a:Cb b l=some x):x.name=b/\x∈l:=by unfold Cb at a;exact⟨by simpa using R0 a,Ly a⟩
theorem Sa {b:A2M}{l:List Fi}(a:Cb b l=none): ∀x∈l,x.name≠b:=by unfold Cb at a;rw[Hh] at a;simpa using a
theorem AIu {a:A2M}{l:List Fi}(b: ∀x∈l,x.name≠a):Cb a l=none:=by unfold Cb;rw[Hh];simpa using b
theorem Gx.find {l:List Fi}(s:Gx l){x:Fi}(a:x∈l):Cb x.name l=some x:=by
 induction l with
 |nil=>cases a
 |cons d l c=>
  rw[Gl];have b:=List.pairwise_cons.1 s;rcases List.mem_cons.1 a with rfl|a
  ·simp
  ·rw[if_neg (NI (b.1 x a))];exact c b.2 a
theorem Oh(x:Fi): ∀l,(hU x l).Perm (x::l)
 | []=>IF _
 |q::l=>by
  unfold hU;split
  ·exact((Oh x l).cons q).trans (List.Perm.swap x q l)
  ·exact IF _
theorem Ut {x:Fi}: ∀ {l:List Fi},Gx l->(∀ b∈l,b.name≠x.name)->Gx (hU x l)
 | [],_,_=>LL _ _
 |q::l,s,e=>by
  have c:=List.pairwise_cons.1 s;unfold hU;split
  ·rename_i d;refine List.pairwise_cons.2 ⟨λb a=>?_,Ut c.2 λb a=>e b (AH _ a)⟩;rcases List.mem_cons.1 ((Oh x l).subset a) with rfl|a
   ·exact d
   ·exact c.1 b a
  ·rename_i d;have f:aO x.name q.name=true:=by
    cases g:aO x.name q.name
    ·exact absurd (OP (by simpa using d) g) (e q CH)
    ·rfl
   refine List.pairwise_cons.2 ⟨λb a=>?_,s⟩;rcases List.mem_cons.1 a with rfl|a
   ·exact f
   ·exact Da f (c.1 b a)
theorem AKP {a:A2M}{g:Fi->Fi}(b: ∀f,(g f).name=f.name)(l:List Fi):(QP a g l).map (·.name)=l.map (·.name):=by
 unfold QP;rw[AW];refine CM λf _=>?_
 simp only[Function.comp];split<;>simp[b]
theorem Ud {l:List Fi}:Gx l↔oK (l.map (·.name)):=by unfold Gx oK;rw[N6]
theorem xl {k:A2M}{g:Fi->Fi}(a: ∀f,(g f).name=f.name){l:List Fi}(s:Gx l):Gx (QP k g l):=by rw[Ud,AKP a];exact Ud.1 s
theorem AJO {a:A2M}{l:List Fi}(s:Gx l):Gx (QO a l):=s.sublist Gk
theorem rD {a c:A2M}{g:Fi->Fi}(b: ∀f,(g f).name=f.name): ∀l:List Fi,Cb c (QP a g l)=(Cb c l).map λf=>if f.name=a then g f else f
 | []=>rfl
 |x::l=>by
  show Cb c ((if x.name=a then g x else x)::QP a g l)=_;rw[Gl,Gl,rD b l];have:(if x.name=a then g x else x).name=x.name:=by split<;>simp[b]
  rw[this];by_cases d:x.name=c<;>simp[d]
theorem rE {k c:A2M}: ∀l:List Fi,Cb c (QO k l)=if c=k then none else Cb c l
 | []=>by simp[QO,Cb]
 |x::l=>by
  have b:=rE (k:=k) (c:=c) l;unfold QO at b ⊢;rw[AT,Gl];by_cases d:x.name=k
  ·simp only[d,decide_true,Lo,CA,if_false];rw[b];by_cases a:c=k
   ·simp[a]
   ·simp[a,Ne.symm a]
  ·simp only[d,decide_false,Ln,if_true];rw[Gl,b];by_cases a:c=k
   ·subst a;simp[d]
   ·simp[a]
theorem xn {x:Fi}{c:A2M}: ∀ {l:List Fi},(∀ a∈l,a.name≠x.name)->Cb c (hU x l)=if x.name=c then some x else Cb c l
 | [],_=>by show Cb c [x]=_;rw[Gl]
 |q::l,d=>by
  unfold hU;split
  ·rw[Gl,xn λa e=>d a (AH _ e),Gl];by_cases b:q.name=c
   ·simp[b];intro f;exact absurd (b.trans f.symm) (d q CH)
   ·simp[b]
  ·rw[Gl]
theorem NF(x:Fi)(l:List Fi):ba (x::l)=x.bZ.size+x.soft.size+1+ba l:=by simp[ba]
theorem AON {l m:List Fi}(a:l.Perm m):ba l=ba m:=(a.map _).sum_nat
theorem xo(x:Fi)(l:List Fi):ba (hU x l)=x.bZ.size+x.soft.size+1+ba l:=by rw[AON (Oh x l),NF]
theorem Vj: ∀l:List Fi,l.length<=ba l
 | []=>by simp[ba]
 |x::l=>by rw[NF,A6];have:=Vj l;omega
theorem ZA {x:Fi}: ∀ {l:List Fi},x∈l->x.bZ.size+x.soft.size<=ba l
 | [],a=>by cases a
 |y::l,a=>by
  rw[NF];rcases List.mem_cons.1 a with rfl|a
  ·omega
  ·have:=ZA a;omega
theorem rF {k:A2M}: ∀l:List Fi,ba (QO k l)<=ba l
 | []=>by simp[QO,ba]
 |x::l=>by
  have:=rF (k:=k) l;unfold QO at this ⊢;rw[AT];split
  ·rw[NF,NF];omega
  ·rw[NF];omega
theorem Zj {k:A2M}{g:Fi->Fi}{d:Nat}(a: ∀f,(g f).bZ.size+(g f).soft.size<=f.bZ.size+f.soft.size+d): ∀ {l:List Fi},Gx l->ba (QP k g l)<=ba l+d
 | [],_=>by simp[QP,ba]
 |x::l,s=>by
  have b:=List.pairwise_cons.1 s;show ba ((if x.name=k then g x else x)::QP k g l)<=_;rw[NF,NF];split
  ·rename_i c;have:QP k g l=l:=by unfold QP;rw[CM (g:=id) λe h=>?_,Kp];have:=NI (b.1 e h);rw[if_neg (λi=>this (c.trans i.symm))];rfl
   rw[this];have:=a x;omega
  ·have:=Zj a (k:=k) b.2;omega
structure Bx where
 files:List Fi
 fuel:Int
 down:Bool
def hZ:Bx:=⟨[],-1,false⟩
def Jw(a:A2M):Bool:=decide (a=bq)||decide (a.size>32)
def H7(m:Bx):Bx:=if m.fuel>0 then {m with fuel:=m.fuel-1} else m
def Ng(m:Bx):Bx:= {m with down:=true}
def Uj(name:A2M)(l:List Fi):List Fi:=if(Cb name l).isSome then l else hU ⟨name,bq,bq⟩ l
def SQ(a:A2M)(f:Fi):Fi:= {f with soft:=f.soft++a}
def Sz(f:Fi):Fi:=⟨f.name,f.bZ++f.soft,bq⟩
def CS(m:Bx)(name a:A2M):Int×Bx:=
 if m.down then(30,m) else if Jw name then(1,m) else if m.fuel=0 then(30,Ng m) else(0,{H7 m with files:=QP name (SQ a) (Uj name m.files)})
def FY(m:Bx)(name:A2M):Int×Bx:=
 if m.down then(30,m) else if(Cb name m.files).isNone then(31,m) else if m.fuel=0 then(30,Ng m) else(0,{H7 m with files:=QP name Sz m.files})
def Ci(m:Bx)(name:A2M):Int×Bx:=
 if m.down then(30,m) else if(Cb name m.files).isNone then(31,m) else if m.fuel=0 then(30,Ng m) else(0,{H7 m with files:=QO name m.files})
def FK(m:Bx)(name:A2M):A2M×Int:=
 if m.down then(bq,30) else match Cb name m.files with|none=>(bq,31)|some f=>(f.bZ++f.soft,0)
structure Hq (m:Bx):Prop where
 sorted:Gx m.files
 names: ∀f∈m.files,f.name.size<=32
 lo: -1<=m.fuel
 hi:m.fuel<=9223372036854775807
 wt:ba m.files<=8796093022208
theorem AQW(a b:A2M):(a++b).size=a.size+b.size:=HA
theorem Vi(a:A2M):a++bq=a:=by simp[Mu,bq]
theorem Mh(a:A2M):bq++a=a:=by simp[Mu,bq]
theorem ANb:Hq hZ:=⟨List.Pairwise.nil,by simp[hZ],by simp[hZ],by simp[hZ],by simp[hZ,ba]⟩
theorem Hq.tick {m:Bx}(g:Hq m)(l:List Fi)(a:Gx l)(b: ∀f∈l,f.name.size<=32)(c:ba l<=8796093022208):Hq {H7 m with files:=l}:=by
 have:=g.lo;have:=g.hi;refine⟨a,b,?_,?_,c⟩
 ·show -1<=(H7 m).fuel;unfold H7;split<;>(try simp only[])<;>omega
 ·show(H7 m).fuel<=_;unfold H7;split<;>(try simp only[])<;>omega
theorem Hq.off {m:Bx}(g:Hq m):Hq (Ng m):=⟨g.sorted,g.names,g.lo,g.hi,g.wt⟩
theorem xp {name:A2M}{l:List Fi}(s:Gx l):Gx (Uj name l)/\ba (Uj name l)<=ba l+1/\(∀ f∈Uj name l,f∈l\/f.name=name):=by
 unfold Uj;split
 ·exact⟨s,by omega,λf a=> .inl a⟩
 ·rename_i b;have c:=Sa (by simpa using b);refine⟨Ut s c,by rw[xo];simp[oN];omega,λf a=>?_⟩;rcases List.mem_cons.1 ((Oh _ l).subset a) with rfl|a
  ·exact .inr rfl
  ·exact .inl a
theorem xq {c:A2M}{g:Fi->Fi}(d: ∀f,(g f).name=f.name){l:List Fi}{f:Fi}(b:f∈QP c g l): ∃a∈l,a.name=f.name:=by unfold QP at b;obtain⟨a,e,rfl⟩:=List.mem_map.1 b;exact⟨a,e,by split<;>simp[d]⟩
theorem Hq.append {m:Bx}(g:Hq m){name data:A2M}(n:ba m.files+data.size+1<=8796093022208):Hq (CS m name data).2:=by
 unfold CS;split
 ·exact g
 ·split
  ·exact g
  ·rename_i e;split
   ·exact g.off
   ·obtain⟨b,o,h⟩:=xp (name:=name) g.sorted;refine g.tick _ (xl (k:=name) (g:=SQ data) (λ_=>rfl) b) (λf i=>?_) ?_
    ·obtain⟨c,j,l⟩:=xq (g:=SQ data) (λ_=>rfl) i;rw[<- l];rcases h c j with a|a
     ·exact g.names c a
     ·rw[a];simp[Jw] at e;omega
    ·have:=Zj (k:=name) (g:=SQ data) (d:=data.size) (λf=>by simp[SQ];omega) b;omega
theorem Hq.sync {m:Bx}(g:Hq m){name:A2M}:Hq (FY m name).2:=by
 unfold FY;split
 ·exact g
 ·split
  ·exact g
  ·split
   ·exact g.off
   ·refine g.tick _ (xl (k:=name) (g:=Sz) (λ_=>rfl) g.sorted) (λf a=>?_) ?_
    ·obtain⟨b,c,e⟩:=xq (g:=Sz) (λ_=>rfl) a;rw[<- e];exact g.names b c
    ·have:=Zj (k:=name) (g:=Sz) (d:=0) (λf=>by simp[Sz,oN]) g.sorted;have:=g.wt;omega
theorem Hq.delete {m:Bx}(g:Hq m){name:A2M}:Hq (Ci m name).2:=by
 unfold Ci;split
 ·exact g
 ·split
  ·exact g
  ·split
   ·exact g.off
   ·exact g.tick _ (AJO g.sorted) (λf a=>g.names f (List.mem_filter.1 a).1) (AG (rF _) g.wt)
theorem VY {m:Bx}(g:Hq m)(name a:A2M):ba (CS m name a).2.files<=ba m.files+a.size+1:=by
 unfold CS;split
 ·simp;omega
 ·split
  ·simp;omega
  ·split
   ·simp[Ng];omega
   ·obtain⟨b,c,_⟩:=xp (name:=name) g.sorted;have:=Zj (k:=name) (g:=SQ a) (d:=a.size) (λf=>by simp[SQ];omega) b;simp;omega
theorem YW {m:Bx}(g:Hq m)(name:A2M):ba (FY m name).2.files<=ba m.files:=by
 unfold FY;split
 ·simp
 ·split
  ·simp
  ·split
   ·simp[Ng]
   ·have:=Zj (k:=name) (g:=Sz) (d:=0) (λf=>by simp[Sz,oN]) g.sorted;simpa using this
theorem VZ {m:Bx}(name:A2M):ba (Ci m name).2.files<=ba m.files:=by
 unfold Ci;split
 ·simp
 ·split
  ·simp
  ·split
   ·simp[Ng]
   ·exact rF _
theorem xW {d:Type}{a:cJ d}{x e:d}{c:Nat}{v:J0}(f:a.enc e=(a.enc x).set c v)(g:c<a.w): ∀ {l:List d} {i:Nat},l[i]? =some x->(l.set i e).flatMap a.enc=(l.flatMap a.enc).set (i*a.w+c) v
 | [],_,b=>by simp at b
 |y::l,0,b=>by
  simp at b;subst b;rw[List.set_cons_zero,AF,AF,f,HX,AI,Xs _ _ (by rw[a.len];exact g)]
 |y::l,i+1,b=>by
  rw[List.set_cons_succ,AF,AF,xW f g (l:=l) (i:=i) (by simpa using b),HN _ _ (by rw[a.len,Bs];omega),a.len];rw[show(i+1)*a.w+c-a.w=i*a.w+c by rw[Bs];omega]
theorem Own.store {e:Type}{E:cJ e}{T:Q7}{d:aa}{s:Sl}{l:List e}{i j:Nat}{x x':e}{v:J0}{K:aa->Prop}(f:Own E T d s l)(h:l[i]? =some x)(q:E.enc x'=(E.enc x).set j v)(r:j<E.w)
  (t: ∀b,Own E T b s (l.set i x')->Mod (λc=>s.ag=some c) d b->b.size=d.size->K b): ∀a,s.p=some a->ae d ((a.add (i*E.w)).add j) v K:=by
 intro a n;rcases f.row with⟨rfl,rfl⟩|⟨g,u,k,w,o,y,p,z⟩
 ·simp at h
 ·rw[k] at n;cases n;rw[add_add,Bf,AI];have A:i<l.length:=(List.getElem?_eq_some_iff.1 h).1;have F:i*E.w+j<s.len*E.w:=by have:(i+1)*E.w<=s.len*E.w:=AN _ (by rw[f.len];exact A);rw[Bs] at this;omega
  have G:s.len*E.w<=u.size:=by rw[p];exact AN _ o
  refine ae.mk w (by omega) λb B m C=>t b ⟨by rw[PJ];exact f.len,.inr ⟨g,_,k,B,o,y,by simpa using p,?_⟩⟩ (m.aj λc _ D=>by simp[Sl.ag,k,D]) C
  rw[F0,List.take_set,z,xW q r h]
theorem Own.ne {d:Type}{h:cJ d}{T e:Q7}{f:aa}{s:Sl}{l:List d}(i:Own h T f s l){b:Nat}{j:Array J0}{fr:Nat×Nat}(a:f[b]? =some (J2 j e fr))(k:T≠e):s.ag≠some b:=by
 intro c;rcases i.row with⟨rfl,_⟩|⟨g,p,m,n,_⟩
 ·simp[Sl.ag] at c
 ·simp[Sl.ag,m] at c;subst c;rw[n] at a;injection a with a;injection a with _ o _;exact k o
end Go.Lf
namespace Go.Lf.G
open Go
theorem Pt:P.underlying BK=some .string:=by kernel_rfl
theorem lz:P.underlying EI=some (.int .u8):=by kernel_rfl
theorem lA:P.underlying DL=some (.slice EI):=by kernel_rfl
theorem yx:QZ P DL EI Hr.w 1=true:=by kernel_rfl
theorem CU {y:al}{d:aa}{n:Nat}{q:A2L}(z:n<18446744073709551616)(A: ∀e,Ext d e->q (.string (AX (Bb n))) e):AA y P Aw #[.int .u64 (n:Int)] d q:=by
 refine AIc ?_;unfold vq;have r:=AV z;refine Loop.rule (λm x f=> ∃(a:Nat) (s:Sl) (c:List UInt8),x=((a:Int),s,())/\Own Hr EI f s c/\Ext d f/\(∀ b,s.ag=some b->d.size<=b)/\Bb n=c++Bb a/\m=a) ?_
  ⟨n,⟨none,0,0⟩,[],rfl,Own.nil,Mod.refl,λb g=>by simp[Sl.ag] at g,rfl,rfl⟩
 rintro K m _ f ⟨a,s,c,rfl,t,x,h,i,F⟩ B;have hd:c.length<=10:=by rw[i] at r;simp at r;omega
 refine af.intro (λj=>?_) (λj=>?_)
 ·have k: ¬a<128:=by simp at j;omega
  refine ao.aZ (E:=Hr) (x:=Bl (a % 128+128)) (s:=s) (l:=c) (by dsimp only[Hr];rw[AQb]) yx t (by simp;omega) (by simp[maxLen];omega) λu e o p v C=>?_
  refine B (a / 128) _ _ (by omega) ⟨a / 128,u,c++ [Bl (a % 128+128)],?_,o,x.more p h,λb g=>?_,?_,rfl⟩
  ·dsimp only;rw[Qu a 7]
  ·rcases v b g with w|w
   ·exact h b w
   ·have:=x.size;omega
  ·rw[i,YL k];simp
 ·have k:a<128:=by simp at j;omega
  refine ao.aZ (E:=Hr) (x:=Bl a) (s:=s) (l:=c) (by dsimp only[Hr];rw[Dc (show a<256 by omega),wrap_u8,AE (show a<256 by omega)]) yx t (by simp;omega) (by simp[maxLen];omega) λu e o p v C=>?_
  refine LA lA lz Pt o.view ⟨_,rfl,?_⟩;have D:c++ [Bl a]=Bb n:=by rw[i,Fp k]
  rw[D];exact A _ (x.more p h)
theorem AOb(a:Nat):(if(10:Int)<(a:Int) then(10:Int) else(a:Int))=((min a 10:Nat):Int):=by split<;>omega
theorem yy {D:al}{e:aa}{s:A2M}{n:A2L}(V:s.size<=8796093022208)
  (v:MR 0 0 s.data.toList=none->n (.tuple #[.int .u64 0,.string ⟨#[]⟩,.bool false]) e)
  (E: ∀w t,MR 0 0 s.data.toList=some (w,t)->n (.tuple #[.int .u64 (w:Int),.string (AX t),.bool true]) e):AA D P R8 #[.string s] e n:=by
 refine AHn ?_;unfold vE;have W:s.data.toList.length=s.size:=by rw[Ek];rfl
 refine Loop.rule (λm x o=> ∃(i a:Nat),x=((a:Int),(i:Int),())/\o=e/\i<=s.size/\i<=10/\a<128^i/\MR 0 0 s.data.toList=MR i a (s.data.toList.drop i)/\m=10-i) ?_
  ⟨0,0,rfl,rfl,by omega,by omega,by simp,rfl,rfl⟩
 rintro K m _ o ⟨i,a,rfl,y,X,Y,F,p,Z⟩ G;subst o;dsimp only;rw[AOb];refine af.intro (λd=>?_) (λd=>?_)
 ·have z:i<s.size/\i<10:=by simp at d;omega
  have q:i<s.data.toList.length:=by omega
  refine⟨⟨by omega,by omega⟩,?_⟩;obtain⟨c,r⟩: ∃c,s.data.toList[i]? =some c:=⟨_,A2 q⟩;have A:s.data.toList.drop i=c::s.data.toList.drop (i+1):=by rw[Fo q];rw[A2 q] at r;rw[BE r]
  have B:c.toNat<256:=c.toNat_lt;rw[OH r];have H:((i=9/\1<c.toNat)\/(0<i/\c.toNat=0))->MR 0 0 s.data.toList=none:=λg=>by
   rw[p,A,MR,if_pos (.inr g)]
  have I: ¬((i=9/\1<c.toNat)\/(0<i/\c.toNat=0))->MR 0 0 s.data.toList=if c.toNat<128 then some (a+c.toNat*128^i,s.data.toList.drop (i+1)) else MR (i+1) (a+c.toNat % 128*128^i) (s.data.toList.drop (i+1)):=λg=>by
   rw[p,A,MR,if_neg (λe=>e.elim (by omega) g)]
  refine ai.mk λJ L=>?_
  have key: ∀(b:Bool),(b=true↔((i=9/\1<c.toNat)\/(0<i/\c.toNat=0)))->J (b,()) e:=λb g=>by
   refine L _ _ ?_;refine af.intro (λM=>v (H (g.1 M))) (λC=>?_);have N: ¬((i=9/\1<c.toNat)\/(0<i/\c.toNat=0)):=λe=>by rw[g.2 e] at C;cases C
   have j:=I N;have O:J8 J9 ((7:Int)*(i:Int))=((7*i:Nat):Int):=by rw[show(7:Int)*(i:Int)=((7*i:Nat):Int) by simp];exact ED (by omega)
   have Q:Gr .u8 (c.toNat:Int) (127:Int)=((c.toNat % 128:Nat):Int):=by have:=yw (a:=c.toNat) (b:=127) B (by decide);rw[AS7 _ B] at this;exact this
   have R:J8 .u64 ((c.toNat % 128:Nat):Int)=((c.toNat % 128:Nat):Int):=by rw[wrap_u64,AE (by omega)]
   rw[O,Q,R,ATT (by omega) (CC _ (by decide)),ARQ (by omega) F (CC _ (by decide)),Ab (by omega)];have ab:=Ma (show i<=9 by omega);have S:(128:Nat)^9=9223372036854775808:=by decide
   have T:c.toNat % 128*128^i % 18446744073709551616=c.toNat % 128*128^i:=by
    refine AE ?_;by_cases k:i=9
    ·subst k;have:c.toNat<=1:=by omega
     rw[S];omega
    ·have ac:=Ma (show i<=8 by omega);have ad:(128:Nat)^8=72057594037927936:=by decide
     have:c.toNat % 128*128^i<=127*128^i:=AN _ (by omega);omega
   rw[T];refine⟨by omega,?_⟩;refine af.intro (λd=>?_) (λd=>?_)
   ·have l:c.toNat<128:=by simp at d;omega
    rw[if_pos l] at j;refine⟨⟨by omega,by omega⟩,?_⟩;have:=E _ _ j;rw[AE l];have y:s.extract ((i+1:Nat):Int).toNat s.size=AX (s.data.toList.drop (i+1)):=rR _ _;rw[y];exact this
   ·have l: ¬c.toNat<128:=by simp at d;omega
    rw[if_neg l] at j;refine G (10-(i+1)) _ _ (by omega) ⟨i+1,a+c.toNat % 128*128^i,rfl,rfl,by omega,by omega,?_,j,rfl⟩;have:(c.toNat % 128+1)*128^i<=128*128^i:=AN _ (by omega);rw[Bs] at this;rw[DP,CT (128^i)];omega
  refine af.intro (λd=>?_) (λd=>?_)
  ·have k:i=9:=by simp at d;omega
   refine af.intro (λu=>key _ ⟨λ_=> .inl ⟨k,by simp at u;omega⟩,λ_=>rfl⟩) (λu=>?_);refine af.intro (λh=>key _ ⟨λf=> .inr ⟨by omega,by simp at f;omega⟩,λf=>by simp at u ⊢;omega⟩) (λh=>?_);simp at h;omega
  ·have k:i≠9:=by simp at d;omega
   refine af.intro (λh=>key _ ⟨λf=> .inr ⟨by simp at h;omega,by simp at f;omega⟩,λf=>(by simp;omega)⟩) (λh=>key _ ⟨(λf=>(by cases f)),λf=>(by simp at h;omega)⟩)
 ·have z:s.size=i\/i=10:=by simp at d;omega
  refine v ?_;rw[p];rcases z with U|U
  ·rw[HE (by omega)];rfl
  ·cases hd:s.data.toList.drop i with
   |nil=>rfl
   |cons c t=>rw[MR,if_pos (.inl (by omega))]
theorem aD {a:Q6}{K:Q6->Prop}(b:K a):At (some a) K:=b
theorem ae.dw {a:aa}{b d:Nat}{v:J0}{e:Array J0}{T:Q7}{K:aa->Prop}(f:a[b]? =some (J2 e T (0,0)))(g:d<e.size)
  (h: ∀c,c[b]? =some (J2 (e.setIfInBounds d v) T (0,0))->Mod (· =b) a c->c.size=a.size->K c):ae a ((⟨b,0,none⟩:Q6).add d) v K:=by
 rw[Bf,AI];exact ae.mk f g h
theorem max_i64:IntKind.max J9=9223372036854775807:=by simp_all
theorem wrap_i64 {n:Int}(a: -9223372036854775808<=n)(b:n<=9223372036854775807):J8 J9 n=n:=by grind [J8,IntKind.bits,IntKind.signed]
theorem Bt {a:Nat}(b:a<18446744073709551616):J8 .u64 (a:Int)=(a:Int):=by rw[wrap_u64,AE b]
abbrev Ar(b:Nat):J0:=J5 (some ⟨b,0,none⟩)
def Ir(c:aa)(b:Nat)(a:Rd):Prop:=c[b]? =some (J2 #[J7 (AX a.rest),J3 a.bad] Wm (0,0))
theorem yA:AX []=⟨#[]⟩:=rfl
theorem yB(l:List UInt8)(a:Nat):(AX l).extract 0 a=AX (l.take a):=by rw[AOW,BX]
theorem rU(l:List UInt8)(a:Nat):(AX l).extract a (AX l).size=AX (l.drop a):=by rw[rR,BX]
theorem APA(l:List UInt8)(i a:Nat):(AX l).extract i a=AX ((l.take a).drop i):=by rw[dZ,BX]
theorem Ao(a b:List UInt8):AX a++AX b=AX (a++b):=by apply On;simp[AX,Hi]
theorem PY {A:al}{h:aa}{l:List UInt8}{R:A2L}(d:l.length<=1099511627776)(b: ∀a,Ext h a->R (J7 (AX (BI l))) a):AA A P CB #[J7 (AX l)] h R:=by
 refine AHD ?_;unfold vo;rw[AP,Bt (by omega)];have:=AV (n:=l.length) (by omega);refine CU (by omega) λe c=>⟨_,rfl,⟨by rw[AP,max_i64];omega,?_⟩⟩
 rw[Ao];exact b _ c
theorem KP {d:al}{a:aa}{l:List UInt8}{c:A2L}(e: ∀b,Ir b a.size ⟨l,false⟩->Ext a b->c (Ar a.size) b):AA d P Eh #[J7 (AX l)] a c:=by refine AHY ?_;unfold vv;exact ao.mk λf _ g x _=>e f g x
theorem yC {j:al}{d:aa}{b:Nat}{a:Rd}{h:A2L}(e:Ir d b a)(q:a.rest.length<=1099511627776)
  (i: ∀f,Ir f b (IB a).2->Mod (· =b) d f->h (.int .u64 ((IB a).1:Int)) f):AA j P JC #[Ar b] d h:=by
 refine XI ?_;unfold Pv;refine ai.mk λK k=>af.no rfl (aD (AZ.mk (AB e rfl) (k _ _ ?_)))
 refine af.intro (λc=>?_) (λc=>?_)
 ·have:=i d;rw[AOX c] at this;exact this e Mod.refl
 ·refine aD (AJ.mk (AL e rfl) ?_);have c:a.bad=false:=c;refine yy (by grind [AP,Nat.le_trans]) (λg=>⟨_,_,_,rfl,?_⟩) (λr t g=>⟨_,_,_,rfl,?_⟩)
  all_goals
   rw[BX] at g;refine aD (ae.mk e (by simp) λs l m u=>aD (ae.dw l (by simp) λn o p v=>?_));have:=i n;simp only[IB,c,g] at this;exact this o (m.trans p)
theorem AOA {m:Nat}(a:m<=9223372036854775807):J8 .u64 (m:Int)=(m:Int):=Bt (by omega)
theorem De {l:al}{e:aa}{b:Nat}{c:Rd}{most:Nat}{j:A2L}(m:Ir e b c)(n:c.rest.length<=1099511627776)(o:most<=9223372036854775807)
  (f: ∀g,Ir g b (CE most c).2->Mod (· =b) e g->j (J6 J9 ((CE most c).1:Int)) g):AA l P Af #[Ar b,J6 J9 (most:Int)] e j:=by
 refine Xg ?_;unfold Pk;refine yC m n λk d h=>⟨_,rfl,?_⟩
 refine ai.mk λK p=>af.no rfl (aD (AZ.mk (AB d rfl) (p _ _ ?_)))
 refine af.intro (λa=>?_) (λa=>?_)
 ·have:=f k;have a:(IB c).2.bad=true:=a;simp only[CE,a,if_true] at this;exact this d h
 ·have a:(IB c).2.bad=false:=a;refine ai.mk λw q=>af.no (by simp) (q _ _ ?_)
  rw[AOA o];refine af.intro (λi=>?_) (λi=>?_)
  ·refine aD (ae.mk d (by simp) λx r s y=>aD (ae.dw r (by simp) λt u v z=>?_));have:=f t;simp only[CE,a] at this;rw[if_neg (by simp),if_pos (by simp at i;omega)] at this;exact this u ((h.trans s).trans v)
  ·have:=f k;simp at i;simp only[CE,a] at this;rw[if_neg (by simp),if_neg (by omega)] at this;rw[ED (by omega)];exact this d h
theorem rV {n:al}{f:aa}{b g:Nat}{d:Rd}{l:A2L}(c:Ir f b d)
  (h: ∀i,Ir i b (Ky g d).2->Mod (· =b) f i->l (J7 (AX (Ky g d).1)) i):AA n P GH #[Ar b,J6 J9 (g:Int)] f l:=by
 refine WA ?_;unfold PO;refine ai.mk λK o=>af.no rfl (aD (AZ.mk (AB c rfl) (o _ _ ?_)))
 refine af.intro (λa=>?_) (λa=>?_)
 ·have:=h f;have a:d.bad=true:=a;simp only[Ky,a,if_true] at this;exact this c Mod.refl
 ·have a:d.bad=false:=a;refine ai.mk λu p=>af.no (by simp) (aD (AJ.mk (AL c rfl) (p _ _ ?_)))
  rw[AP];refine af.intro (λj=>?_) (λj=>?_)
  ·refine aD (ae.mk c (by simp) λm e k q=>aD (ae.dw e (by simp) λr s t v=>?_));have:=h r;simp only[Ky,a] at this;rw[if_neg (by simp),if_pos (by simp at j;omega)] at this;exact this s (k.trans t)
  ·simp at j;refine aD (AJ.mk (AL c rfl) ⟨⟨by omega,by rw[AP];omega⟩,aD (AJ.mk (AL c rfl) ⟨⟨by omega,by rw[AP];omega⟩,aD (ae.mk c (by simp) λm e k q=>?_)⟩)⟩);have:=h m;simp only[Ky,a] at this;rw[if_neg (by simp),if_neg (by omega)] at this;simp only[As,yB,rU] at e ⊢;rw[a] at e;exact this e k
theorem Hm {k:al}{d:aa}{b:Nat}{a:Rd}{g:A2L}(l:Ir d b a)(v:a.rest.length<1099511627776)
  (h: ∀e,Ir e b (FL a).2->Mod (· =b) d e->g (J7 (AX (FL a).1)) e):AA k P Be #[Ar b] d g:=by
 refine Vz ?_;unfold PQ;refine yC l (by omega) λm f i=>⟨_,rfl,?_⟩
 have w:=UQ a;refine ai.mk λK n=>af.no rfl (aD (AZ.mk (AB f rfl) (n _ _ ?_)))
 refine af.intro (λc=>?_) (λc=>?_)
 ·have:=h m;have c:(IB a).2.bad=true:=c;simp only[FL,c,if_true] at this;exact this f i
 ·have c:(IB a).2.bad=false:=c;have o:J8 J9 (if(1099511627776:Int)<((IB a).1:Int) then 1099511627776 else((IB a).1:Int))=((min (IB a).1 1099511627776:Nat):Int):=by grind [wrap_i64]
  rw[o];refine rV f λp j q=>⟨_,rfl,?_⟩
  have:=h p;simp only[FL,c] at this;rw[if_neg (by simp)] at this;have r:Ky (min (IB a).1 1099511627776) (IB a).2=Ky (IB a).1 (IB a).2:=by
   by_cases s:(IB a).1<=1099511627776
   ·rw[Fm s]
   ·have t:(IB a).2.rest.length<min (IB a).1 1099511627776:=by omega
    have u:(IB a).2.rest.length<(IB a).1:=by omega
    simp only[Ky,c,CA,if_false,if_pos t,if_pos u]
  rw[r] at j ⊢;exact this j (i.trans q)
theorem Mg {g:al}{c:aa}{b:Nat}{r:Rd}{e:A2L}(f:Ir c b r)(a:e (J3 (Sg r)) c):AA g P CL #[Ar b] c e:=by
 refine XN ?_;unfold P6;refine af.yes rfl (aD (AZ.mk (AB f rfl) ?_));unfold Sg at a;refine af.intro (λd=>?_) (λd=>?_)
 ·refine aD (AJ.mk (AL f rfl) ?_);rw[d] at a;have h:bR (AX r.rest) (⟨#[]⟩:A2M)=r.rest.isEmpty:=by grind [Cn,yA,Mx]
  rw[h];simpa using a
 ·rw[d] at a;exact a
theorem APs {c:Nat}(e:c<4294967296):Zy .u32 ((c:Int).fdiv ((2:Int)^(1:Nat))) (Gr .u32 (3988292384:Int) (J8 .u32 (0-(Gr .u32 (c:Int) (1:Int)))))=((mR c:Nat):Int):=by
 have f:Gr .u32 (c:Int) (1:Int)=((c % 2:Nat):Int):=by rw[<- Nat.and_one_is_mod];exact ARl e (by decide)
 rw[Qu c 1,f];unfold mR;have hd:c / 2^1<4294967296:=by omega
 by_cases a:c % 2=1
 ·rw[if_pos a,a];have b:J8 .u32 (0-((1:Nat):Int))=((4294967295:Nat):Int):=by decide
  have d:Gr .u32 (3988292384:Int) ((4294967295:Nat):Int)=((3988292384:Nat):Int):=by decide
  rw[b,d,Va hd (by decide)]
 ·rw[if_neg a,show c % 2=0 by omega];have b:J8 .u32 (0-((0:Nat):Int))=((0:Nat):Int):=by decide
  have d:Gr .u32 (3988292384:Int) ((0:Nat):Int)=((0:Nat):Int):=by decide
  rw[b,d,Va hd (by decide)];simp
theorem AR2 {c:Nat}(d:c<4294967296):Zy .u32 (if IntKind.signed .u32 then -1 else IntKind.max .u32) (c:Int)=((4294967295-c:Nat):Int):=by
 have e:(if IntKind.signed .u32 then -1 else IntKind.max .u32)=((4294967295:Nat):Int):=by decide
 rw[e,Va (by decide) d];congr 1;have f:4294967295-c=2^32-(c+1):=by omega
 have g:(4294967295:Nat)=2^32-1:=by decide
 have a:c<2^32:=by omega
 rw[f,g];apply Nat.eq_of_testBit_eq;intro i;rw[Nat.testBit_xor,Nat.testBit_two_pow_sub_one,Nat.testBit_two_pow_sub_succ a];by_cases b:i<32
 ·simp[b]
 ·have:c.testBit i=false:=Nat.testBit_lt_two_pow (Fl a (Rg (by decide) (by omega)));simp[b,this]
theorem yD {q:al}{d:aa}{l:List UInt8}{k:A2L}(v:l.length<=1099511627776)(r:k (.int .u32 (jl l:Int)) d):AA q P Py #[J7 (AX l)] d k:=by
 refine AHE ?_;unfold vC;rw[AP];refine Loop.rule (λm x b=> ∃i:Nat,x=((iV (l.take i):Int),(i:Int),())/\b=d/\m=l.length-i/\i<=l.length) ?_ ⟨0,rfl,rfl,rfl,by omega⟩;rintro K m _ b ⟨i,rfl,e,rfl,w⟩ s;subst b;refine af.intro (λf=>?_) (λf=>?_)
 ·have g:i<l.length:=by simpa using f
  obtain⟨c,o⟩: ∃c,l[i]? =some c:=⟨_,A2 g⟩;have y:c.toNat<256:=c.toNat_lt;refine⟨⟨by dsimp only;omega,by dsimp only;omega⟩,?_⟩;have p:=yl (l.take i);dsimp only;rw[OH (c:=c) (by rw[BX];exact o),wrap_u32,AE (show c.toNat<4294967296 by omega),Va p (by omega)];have t:iV (l.take i) ^^^ c.toNat<4294967296:=KB (n:=32) p (by omega);refine Loop.rule (λm x b=> ∃a:Nat,x=((oX a (iV (l.take i) ^^^ c.toNat):Int),(a:Int),())/\b=d/\m=8-a/\a<=8) ?_ ⟨0,rfl,rfl,rfl,by omega⟩;rintro z A _ b ⟨a,rfl,e,rfl,B⟩ u;subst b;refine af.intro (λh=>?_) (λh=>?_)
  ·have j:a<8:=by simp at h;omega
   dsimp only;rw[APs (rP t a),Ab (by omega)];exact u (8-(a+1)) _ _ (by omega) ⟨a+1,rfl,rfl,rfl,j⟩
  ·have j:a=8:=by simp at h;omega
   subst j;dsimp only;rw[Ab (by omega)];refine s (l.length-(i+1)) _ _ (by omega) ⟨i+1,?_,rfl,rfl,g⟩;rw[AD,o,CD,ANz];rfl
 ·have g:i=l.length:=by simp at f;omega
  have e:l.take i=l:=Ax (by omega);dsimp only;rw[e,AR2 (yl l)];exact r
theorem rW(a b:Nat):J8 .u8 ((a:Int).fdiv ((2:Int)^b))=(((Bl (a / 2^b % 256)).toNat:Nat):Int):=by rw[Qu,wrap_u8,Dc (CC _ (by decide))]
theorem yE {f:al}{b:aa}{a:Nat}{c:A2L}(g: ∀d,Ext b d->c (J7 (AX (RY a))) d):AA f P OO #[.int .u32 (a:Int)] b c:=by
 refine AEz ?_;unfold Zi;refine ao.mk λh _ e x _=>?_
 have i:J8 .u8 (a:Int)=(((Bl (a % 256)).toNat:Nat):Int):=by rw[wrap_u8,Dc (CC _ (by decide))]
 rw[rW,rW,rW,i] at e;have j:Own Hr EI h ⟨some ⟨b.size,0,none⟩,4,4⟩ (RY a):=Own.lit (E:=Hr) (l:=RY a) e rfl (by simp[maxLen,RY]);exact LA (s:=⟨some ⟨b.size,0,none⟩,4,4⟩) lA lz Pt j.view ⟨_,rfl,g _ x⟩
theorem Yg {e:al}{a:aa}{l:List UInt8}{b:A2L}(f:l.length<=1099511627776)(g:1048576<l.length->b (J1 #[J7 ⟨#[]⟩,J6 J9 2]) a)
  (h:l.length<=1048576-> ∀d,Ext a d->b (J1 #[J7 (AX (Ca l)),J6 J9 0]) d):AA e P Fy #[J7 (AX l)] a b:=by
 refine AEs ?_;unfold ZG;rw[AP];refine af.intro (λc=>g (by simp at c;omega)) (λc=>?_);have i:l.length<=1048576:=by simp at c;omega
 have:=AV (n:=l.length) (by omega);rw[Bt (by omega)];refine CU (by omega) λm j=>⟨_,rfl,?_⟩
 refine yD f ⟨_,rfl,?_⟩;refine yE λo k=>⟨_,rfl,⟨?_,?_,?_⟩⟩
 ·grind [AP,max_i64,Jp]
 ·rw[Ao,AP,max_i64,A1,Jp];omega
 ·rw[Ao,Ao];exact h i _ (j.trans k)
theorem rX {A:al}{h:aa}{l:List UInt8}{R:A2L}(B:l.length<=8796093022208)
  (f: ∀w,Ext h w->R (J1 #[J7 (AX (Dh l).2.1),J7 (AX (Dh l).2.2),J6 J9 ((Dh l).1:Int)]) w):AA A P Lm #[J7 (AX l)] h R:=by
 refine AEo ?_;unfold Yy;rw[AP];have d:=f h Mod.refl;refine yy (by rw[AP];exact B) (λg=>⟨_,_,_,rfl,?_⟩) (λb t g=>⟨_,_,_,rfl,?_⟩)<;>rw[BX] at g
 ·have k:Dh l=if l.length<10/\ ∀c∈l,128<=c.toNat then(20,[],[]) else(21,[],[]):=by unfold Dh;rw[g]
  rw[k] at d;refine ai.mk λK n=>af.yes rfl (n _ _ ?_)
  refine af.intro (λa=>?_) (λa=>?_)
  ·have o:l.length<10:=by simp at a;omega
   refine Loop.rule (λm x e=> ∃i:Nat,x=((i:Int),())/\e=h/\m=l.length-i/\i<=l.length/\ ∀c∈l.take i,128<=c.toNat) ?_ ⟨0,rfl,rfl,rfl,by omega,by simp⟩;rintro O m _ e ⟨i,rfl,Q,rfl,S,y⟩ C;subst e;refine af.intro (λp=>?_) (λp=>?_)
   ·have q:i<l.length:=by simpa using p
    obtain⟨c,D⟩: ∃c,l[i]? =some c:=⟨_,A2 q⟩;refine⟨⟨by dsimp only;omega,by dsimp only;omega⟩,?_⟩;dsimp only;rw[OH (c:=c) (by rw[BX];exact D)];refine af.intro (λE=>?_) (λE=>?_)
    ·rw[if_neg] at d
     ·exact d
     grind
    ·rw[Ab (by omega)];refine C (l.length-(i+1)) _ _ (by omega) ⟨i+1,rfl,rfl,rfl,q,λx T=>?_⟩
     grind [List.take_add_one,Option.toList_some]
   ·have q:i=l.length:=by simp at p;omega
    rw[Ax (by omega)] at y;rw[if_pos ⟨o,y⟩] at d;exact d
  ·have o: ¬l.length<10:=by simp at a;omega
   rw[if_neg (λe=>o e.1)] at d;refine ai.mk λF r=>af.yes rfl (r _ _ (af.yes rfl d))
 ·obtain⟨U,V⟩:=ly g;have W:t.length<=8796093022208:=by grind
  have k:Dh l=if 1048576<b then(21,[],[]) else if t.length<4+b then(20,[],[])
    else if t.take 4=RY (jl ((t.drop 4).take b)) then(0,(t.drop 4).take b,t.drop (4+b)) else(21,[],[]):=by unfold Dh;rw[g]
  rw[k] at d f;refine ai.mk λK n=>af.no rfl (n _ _ (af.no rfl ?_))
  refine ai.mk λF r=>af.no rfl (r _ _ ?_)
  refine af.intro (λa=>?_) (λa=>?_)
  ·have s:1048576<b:=by simp at a;omega
   rw[if_pos s] at d;exact d
  have s: ¬1048576<b:=by simp at a;omega
  rw[if_neg s] at d f;rw[AP];refine ai.mk λG H=>?_
  have key: ∀u:Bool,(u=true↔t.length<4+b)->G (u,()) h:=λu I=>by
   refine H _ _ ?_;refine af.intro (λa=>?_) (λa=>?_)
   ·rw[if_pos (I.1 a)] at d;exact d
   have v: ¬t.length<4+b:=λe=>by grind
   rw[if_neg v] at d f;have J:J8 .u64 ((4:Int)+(b:Int))=((4+b:Nat):Int):=by grind [Bt]
   rw[J];refine⟨⟨by omega,by omega⟩,⟨by omega,by omega⟩,⟨by omega,by omega⟩,?_⟩;have L:(AX t).extract (4:Int).toNat ((4+b:Nat):Int).toNat=AX ((t.drop 4).take b):=by rw[show(4:Int).toNat=4 from rfl,As,APA,List.drop_take];congr 2;omega
   have em:(AX t).extract 0 (4:Int).toNat=AX (t.take 4):=yB _ _;have z:(AX t).extract ((4+b:Nat):Int).toNat (AX t).size=AX (t.drop (4+b)):=by rw[As,rU]
   rw[AP] at z;rw[L,em,z];refine yD (by simp;omega) ⟨_,rfl,?_⟩;refine yE λv M=>⟨_,rfl,?_⟩
   have j:=f v M;rw[Cn];refine af.intro (λa=>?_) (λa=>?_)
   ·rw[if_neg (by grind)] at j;exact j
   ·rw[if_pos (by grind [Mx])] at j;exact⟨⟨by omega,by omega⟩,j⟩
  refine af.intro (λa=>key _ ⟨λ_=>by simp at a;omega,λ_=>rfl⟩) (λa=>key _ ?_);have X:4<=t.length:=by simp at a;omega
  have N:J8 .u64 (J8 J9 ((t.length:Int)-(4:Int)))=((t.length-4:Nat):Int):=by grind [ED,Bt]
  rw[N];simp;omega
theorem Fs.mk {b:aa}{a:Q6}{K:Option Nat->Prop}{n:Option Nat}(c:ah b a=some (.map n))(d:K n):Fs b a K:=⟨n,c,d⟩
theorem jM:P.underlying CQ=some (.map BK wc):=by kernel_rfl
theorem lP:(zeroValue wc).calc P=some (J5 none):=by kernel_rfl
abbrev fA(a:List (Fi×Nat)):List (A2M×J0):=a.map λp=>(p.1.name,Ar p.2)
structure FX (h:aa) (b r:Nat) (kv:List (Fi×Nat)) (m:Bx):Prop where
 head:h[b]? =some (J2 #[.map (some r),J6 J9 m.fuel,J3 m.down] qZ (0,0))
 map:Vx h r (fA kv)
 cells: ∀p∈kv,h[p.2]? =some (J2 #[J7 p.1.bZ,J7 p.1.soft] Xn (0,0))
 perm:(kv.map (·.1)).Perm m.files
 nodup:(kv.map (·.2)).Nodup
 aR:Hq m
def K9(b a:Nat)(d:List (Fi×Nat))(c:Nat):Prop:=c=b\/c=a\/ ∃p∈d,p.2=c
def Ce(e:aa)(b:Nat)(f:Nat->Prop)(m:Bx):Prop:= ∃a d,FX e b a d m/\ ∀c,f c↔K9 b a d c
theorem FX.gF {e:aa}{b a:Nat}{f:List (Fi×Nat)}{m:Bx}(c:FX e b a f m):a≠b:=by rintro rfl;obtain⟨g,h,d,_⟩:=c.map;rw[c.head] at d;cases d
theorem FX.eX {g:aa}{b c:Nat}{d:List (Fi×Nat)}{m:Bx}(a:FX g b c d m){p:Fi×Nat}(h:p∈d):p.2≠b/\p.2≠c:=by
 have e:=a.cells p h;constructor
 ·intro f;rw[f,a.head] at e;cases e
 ·intro f;obtain⟨i,j,k,_⟩:=a.map
  simp_all
theorem FX.lt {d:aa}{b e:Nat}{f:List (Fi×Nat)}{m:Bx}(a:FX d b e f m){c:Nat}(g:K9 b e f c):c<d.size:=by
 rcases g with rfl|rfl|⟨p,h,rfl⟩
 ·exact Aj a.head
 ·exact a.map.lt
 ·exact Aj (a.cells p h)
theorem Ce.lt {d:aa}{b:Nat}{e:Nat->Prop}{m:Bx}(a:Ce d b e m){c:Nat}(f:e c):c<d.size:=by obtain⟨h,i,a,g⟩:=a;exact a.lt ((g c).1 f)
theorem Ce.aR {c:aa}{b:Nat}{d:Nat->Prop}{m:Bx}(a:Ce c b d m):Hq m:=by obtain⟨e,f,a,g⟩:=a;exact a.aR
theorem FX.mod {g h:aa}{b d:Nat}{e:List (Fi×Nat)}{m:Bx}{T:Nat->Prop}(a:FX g b d e m)(x:Mod T g h)(f: ∀c,K9 b d e c-> ¬T c):FX h b d e m:=
 ⟨x.ag a.head (f _ (.inl rfl)),a.map.mod x (f _ (.inr (.inl rfl))),λp i=>x.ag (a.cells p i) (f _ (.inr (.inr ⟨p,i,rfl⟩))),a.perm,a.nodup,a.aR⟩
theorem Ce.mod {e f:aa}{b:Nat}{a T:Nat->Prop}{m:Bx}(d:Ce e b a m)(x:Mod T e f)(h: ∀c,a c-> ¬T c):Ce f b a m:=by obtain⟨i,j,d,g⟩:=d;exact⟨i,j,d.mod x λc k=>h c ((g c).2 k),g⟩
theorem Ce.ext {a c:aa}{b:Nat}{d:Nat->Prop}{m:Bx}(e:Ce a b d m)(x:Ext a c):Ce c b d m:=e.mod x λ_ _ a=>a
theorem FX.hd {f d:aa}{b e:Nat}{h:List (Fi×Nat)}{m c:Bx}(a:FX f b e h m)(j:d[b]? =some (J2 #[.map (some e),J6 J9 c.fuel,J3 c.down] qZ (0,0)))(x:Mod (· =b) f d)(k:c.files=m.files)(g:Hq c):FX d b e h c:=
 ⟨j,a.map.mod x a.gF,λp i=>x.ag (a.cells p i) (a.eX i).1,by rw[k];exact a.perm,a.nodup,g⟩
theorem tu(b:A2M): ∀a:List (Fi×Nat),Ui b (fA a)=(a.find? λp=>decide (p.1.name=b)).map λp=>Ar p.2
 | []=>rfl
 |p::a=>by
  show Ui b ((p.1.name,Ar p.2)::fA a)=_;rw[Ou,tu b a,F2]
  grind
theorem FX.mem {d:aa}{b e:Nat}{a:List (Fi×Nat)}{m:Bx}(g:FX d b e a m){f:Fi}:f∈m.files↔ ∃c,(f,c)∈a:=by
 rw[<- g.perm.mem_iff]
 simp_all
theorem FX.look {i:aa}{b j:Nat}{d:List (Fi×Nat)}{m:Bx}(e:FX i b j d m)(a:A2M):
  (Ui a (fA d)=none/\Cb a m.files=none)\/ ∃p∈d,Ui a (fA d)=some (Ar p.2)/\Cb a m.files=some p.1/\p.1.name=a:=by
 rw[tu];cases k:d.find? λp=>decide (p.1.name=a) with
 |none=>
  refine .inl ⟨rfl,AIu λf l=>?_⟩;obtain⟨c,n⟩:=e.mem.1 l
  grind
 |some p=>
  have g:p.1.name=a:=by grind
  have h:=Ly k;refine .inr ⟨p,h,rfl,?_,g⟩;rw[<- g];exact e.aR.sorted.find (e.mem.2 ⟨p.2,h⟩)
theorem AIS {a:List (Fi×Nat)}{l:List Fi}(p:(a.map (·.1)).Perm l)(s:Gx l):(a.map λb=>b.1.name).Nodup:=by
 have c:(l.map (·.name)).Nodup:=by refine List.pairwise_map.2 (s.imp λd=>NI d)
 have e:(a.map λb=>b.1.name).Perm (l.map (·.name)):=by have:=p.map (·.name);simpa [AW,G0] using this
 exact(e.nodup_iff).2 c
theorem FX.inj {f:aa}{b g:Nat}{c:List (Fi×Nat)}{m:Bx}(d:FX f b g c m){p a:Fi×Nat}(h:p∈c)(j:a∈c)(k:p.1.name=a.1.name):p=a:=by
 have l:=AIS d.perm d.aR.sorted;obtain⟨i,n,rfl⟩:=DB h;obtain⟨e,o,rfl⟩:=DB j;have:i=e:=by
  have q:i<(c.map λa=>a.1.name).length:=by simpa using n
  have r:e<(c.map λa=>a.1.name).length:=by simpa using o
  refine(Lz (h₀:=q) (h₁:=r) l).1 ?_;simpa using k
 subst this;rfl
theorem FX.set {k h':aa}{b l:Nat}{d:List (Fi×Nat)}{m:Bx}(c:FX k b l d m){p:Fi×Nat}(h:p∈d){g:Fi->Fi}(B: ∀f,(g f).name=f.name)
  (q:h'[p.2]? =some (J2 #[J7 (g p.1).bZ,J7 (g p.1).soft] Xn (0,0))) (x:Mod (· =p.2) k h') (r:Hq {m with files:=QP p.1.name g m.files}):
  FX h' b l (d.map λa=>(if a.1.name=p.1.name then g a.1 else a.1,a.2)) {m with files:=QP p.1.name g m.files}:=by
 refine⟨x.ag c.head (c.eX h).1.symm,?_,?_,?_,?_,r⟩
 ·have e:fA (d.map λa=>(if a.1.name=p.1.name then g a.1 else a.1,a.2))=fA d:=by
   simp only[fA,AW];refine CM λa _=>?_
   grind
  rw[e];exact c.map.mod x (c.eX h).2.symm
 ·intro a s;obtain⟨n,j,rfl⟩:=List.mem_map.1 s;simp only;by_cases e:n.1.name=p.1.name
  ·rw[if_pos e];have:=c.inj j h e;subst this;exact q
  ·rw[if_neg e];refine x.ag (c.cells n j) λt=>e ?_
   have u:=c.nodup;obtain⟨i,v,rfl⟩:=DB h;obtain⟨o,w,rfl⟩:=DB j;have:o=i:=by
    have y:i<(d.map (·.2)).length:=by simpa using v
    have z:o<(d.map (·.2)).length:=by simpa using w
    refine(Lz (h₀:=z) (h₁:=y) u).1 ?_;simpa using t
   subst this;rfl
 ·have A:=c.perm.map λf=>if f.name=p.1.name then g f else f
  simpa [QP,AW,G0] using A
 ·simpa [AW,G0] using c.nodup
theorem tw {b d:Nat}{e:List (Fi×Nat)}{g:Fi×Nat->Fi}(c:Nat):K9 b d (e.map λf=>(g f,f.2)) c↔K9 b d e c:=by
 unfold K9;constructor
 ·grind
 ·rintro(a|a|⟨p,h,rfl⟩)
  ·exact .inl a
  ·exact .inr (.inl a)
  ·exact .inr (.inr ⟨_,List.mem_map.2 ⟨p,h,rfl⟩,rfl⟩)
theorem tx {b:A2M}{v:J0}: ∀ {m:List (A2M×J0)},Ui b m=none->gl b v m=m++ [(b,v)]
 | [],_=>rfl
 |p::m,a=>by
  rw[Ou] at a;split at a
  ·cases a
  ·rename_i c;unfold gl;rw[if_neg c,tx a];rfl
theorem lQ {d:al}{a:aa}{b:Nat}{e c1:J0}{down:Bool}{T:Q7}{c:A2L}(f:a[b]? =some (J2 #[e,c1,J3 down] T (0,0)))(g:c (J3 down) a):
  AA d P Gv #[Ar b] a c:=by
 refine AC7 ?_;unfold Ww;exact af.no rfl (aD (AZ.mk (AB f rfl) g))
theorem APV {e:al}{c:aa}{name:A2M}{d:A2L}(a:d (J3 (Jw name)) c):AA e P UY #[J7 name] c d:=by
 refine AGj ?_;unfold vD;unfold Jw at a;rw[Cn];refine af.intro (λb=>?_) (λb=>?_)
 ·rw[b] at a;exact a
 ·rw[b] at a;have f:decide ((name.size:Int)>(32:Int))=decide (name.size>32):=by grind
  rw[f];simpa using a
def nG(fuel:Int):Int:=if fuel>0 then fuel-1 else fuel
theorem ARu {o:al}{d:aa}{b:Nat}{h:J0}{fuel:Int}{down:Bool}{T:Q7}{i:A2L}(f:d[b]? =some (J2 #[h,J6 J9 fuel,J3 down] T (0,0)))(q: -1<=fuel)(r:fuel<=9223372036854775807)
  (p:fuel=0-> ∀a,a[b]? =some (J2 #[h,J6 J9 fuel,J3 true] T (0,0))->Mod (· =b) d a->a.size=d.size->i (J3 false) a)
  (e:fuel≠0-> ∀a,a[b]? =some (J2 #[h,J6 J9 (nG fuel),J3 down] T (0,0))->Mod (· =b) d a->a.size=d.size->i (J3 true) a):AA o P IA #[Ar b] d i:=by
 refine ABw ?_;unfold UC;refine aD (AC.mk (AB f rfl) ?_);refine af.intro (λc=>?_) (λc=>?_)
 ·refine aD (ae.dw f (by simp) λj g k l=>?_);exact p (by simpa using c) j (by simpa using g) k l
 ·have c:fuel≠0:=by simpa using c
  have e:=e c;unfold nG at e;refine ai.mk λK n=>?_
  refine aD (AC.mk (AB f rfl) ?_);refine af.intro (λc=>?_) (λc=>?_)
  ·have m:fuel>0:=by simpa using c
   rw[if_pos m] at e;refine aD (AC.mk (AB f rfl) (aD (ae.dw f (by simp) λj g k l=>n _ _ ?_)));rw[wrap_i64 (by omega) (by omega)] at g;exact e j (by simpa using g) k l
  ·have m: ¬fuel>0:=by simpa using c
   rw[if_neg m] at e;exact n _ _ (e d f Mod.refl rfl)
theorem Ji(m:Bx):(H7 m).fuel=nG m.fuel/\(H7 m).down=m.down/\(H7 m).files=m.files:=by grind [H7,nG]
theorem AKU {m:Bx}(g:Hq m):Hq (H7 m):=by have:=g.tick m.files g.sorted g.names g.wt;rwa [<- (Ji m).2.2] at this
theorem FX.jr {p:al}{e:aa}{b f:Nat}{g:List (Fi×Nat)}{m:Bx}(d:FX e b f g m){i:A2L}
  (q:m.fuel=0-> ∀a,FX a b f g (Ng m)->Mod (K9 b f g) e a->i (J3 false) a)
  (r:m.fuel≠0-> ∀a,FX a b f g (H7 m)->Mod (K9 b f g) e a->a.size=e.size->i (J3 true) a):AA p P IA #[Ar b] e i:=by
 refine ARu d.head d.aR.lo d.aR.hi (λj k l h o=>?_) (λj k l h o=>?_)
 ·exact q j k (d.hd l h rfl d.aR.off) (h.aj λc _ n=> .inl n)
 ·obtain⟨s,t,u⟩:=Ji m;refine r j k (d.hd ?_ h u (AKU d.aR)) (h.aj λc _ n=> .inl n) o;rw[s,t];exact l
theorem FX.fO {d:aa}{b a:Nat}{e:List (Fi×Nat)}{m:Bx}(i:FX d b a e m){p:Fi×Nat}(f:p∈e){data:A2M}(l:Hq {m with files:=QP p.1.name (SQ data) m.files}){K:aa->Prop}
  (r: ∀j n,FX j b a n {m with files:=QP p.1.name (SQ data) m.files}->Mod (K9 b a e) d j->(∀ c,K9 b a n c↔K9 b a e c)->K j):
  At (some ⟨p.2,0,none⟩) λs=>AJ d (s.add 1) λt=>aG (((t.size+data.size:Nat):Int)<=IntKind.i64.max)<|At (some ⟨p.2,0,none⟩) λu=>ae d (u.add 1) (J7 (t++data)) K:=by
 have h:=i.cells p f;refine aD (AJ.mk (AB h rfl) ⟨?_,aD (ae.dw h (by simp) λo v q y=>?_)⟩)
 ·have o:ba (QP p.1.name (SQ data) m.files)<=8796093022208:=l.wt;have w:SQ data p.1∈QP p.1.name (SQ data) m.files:=by refine List.mem_map.2 ⟨p.1,i.mem.2 ⟨p.2,f⟩,by simp⟩
  have x:=ZA w;simp only[SQ,AQW] at x;simp[IntKind.max,IntKind.bits,IntKind.signed];omega
 ·exact r o _ (i.set f (g:=SQ data) (λ_=>rfl) (by simpa [SQ] using v) q l) (q.aj λc _ h=> .inr (.inr ⟨p,f,h.symm⟩)) (λc=>tw (g:=λk=>if k.1.name=p.1.name then SQ data k.1 else k.1) c)
theorem Xt {S:al}{e:aa}{b:Nat}{l:Nat->Prop}{m:Bx}{name data:A2M}{L:A2L}(k:Ce e b l m)(T:ba m.files+data.size+1<=8796093022208)
  (g: ∀B S',Ce B b S' (CS m name data).2->Mod l e B->(∀ c,S' c->l c\/e.size<=c)->L (J6 J9 (CS m name data).1) B):AA S P Hz #[Ar b,J7 name,J7 data] e L:=by
 have n:=k.aR.append (name:=name) (data:=data) T;obtain⟨j,o,k,r⟩:=k;refine YR ?_;unfold RG;refine lQ k.head ⟨_,rfl,?_⟩;unfold CS at g n;refine af.intro (λhd=>?_) (λhd=>?_)
 ·rw[if_pos hd] at g;exact g e l ⟨j,o,k,r⟩ Mod.refl (λc d=> .inl d)
 rw[if_neg (by simp[hd])] at g n;refine APV ⟨_,rfl,?_⟩;refine af.intro (λw=>?_) (λw=>?_)
 ·rw[if_pos w] at g;exact g e l ⟨j,o,k,r⟩ Mod.refl (λc d=> .inl d)
 rw[if_neg (by simp[w])] at g n;have C: ∀ {q:aa},Mod (K9 b j o) e q->Mod l e q:=λs=>s.aj λc _ d=>(r c).2 d
 refine k.jr (λD q i s=>⟨_,rfl,?_⟩) (λD q i s ae=>⟨_,rfl,?_⟩)
 ·rw[if_pos D] at g;exact af.yes rfl (g q l ⟨j,o,i,r⟩ (C s) (λc d=> .inl d))
 rw[if_neg D] at g n;refine af.no rfl ?_;refine aD (Fs.mk (AL i.head rfl) (RV jM Pt lP i.map ?_));rcases i.look name with⟨x,E⟩|⟨p,h,x,E,U⟩
 ·
  rw[x];refine⟨none,rfl,ai.mk λK F=>af.yes rfl ?_⟩;refine ao.mk λag _ V M ah=>?_
  have t:=i.mod M (λ_ _ e=>e);refine aD (Fs.mk (AL t.head rfl) ?_);have W:name.size<=32:=by simp[Jw] at w;omega
  have aj:=Vj (H7 m).files;have X:o.length=(H7 m).files.length:=by rw[<- i.perm.length_eq];simp
  rw[(Ji m).2.2] at X;have ak:=Vj m.files;refine ANP jM Pt t.map (by simp[maxLen];omega) (by simp[fA,maxLen];omega) λN O y am=>?_
  rw[tx x] at O;have an:=y.ag V (by have:=i.map.lt;omega);have u:=E;rw[(Ji m).2.2] at u;have G:Uj name m.files=hU ⟨name,bq,bq⟩ m.files:=by unfold Uj;rw[u];rfl
  have Y:=Sa u;have Z:=xo ⟨name,bq,bq⟩ m.files;simp only[oN] at Z;have ab:FX N b j (o++ [(⟨name,bq,bq⟩,q.size)]) {H7 m with files:=hU ⟨name,bq,bq⟩ m.files}:=by
   refine⟨y.ag t.head t.gF.symm,?_,?_,?_,?_,?_⟩
   ·rw[fA,C2];exact O
   ·intro p h;rcases List.mem_append.1 h with h|h
    ·exact y.ag (t.cells p h) (t.eX h).2
    simp_all
   ·rw[C2];refine(List.perm_append_singleton _ _).trans (((i.perm.trans (List.Perm.of_eq (Ji m).2.2)).cons _).trans (Oh _ _).symm)
   ·rw[C2];refine List.nodup_append.2 ⟨i.nodup,by simp,?_⟩;intro a ac c d;obtain⟨p,h,rfl⟩:=List.mem_map.1 ac;simp at d;subst d;have:=Aj (i.cells p h);omega
   ·refine k.aR.tick _ (Ut k.aR.sorted Y) (λf H=>?_) (by omega);rcases List.mem_cons.1 ((Oh _ _).subset H) with rfl|H
    ·exact W
    ·exact k.aR.names f H
  refine F _ _ ?_;rw[G] at g n;refine ab.fO (p:=(⟨name,bq,bq⟩,q.size)) (by simp) (data:=data) n λI v z J A=>?_
  have Q: ∀c,K9 b j v c->K9 b j o c\/e.size<=c:=λc d=>by
   rcases(A c).1 d with e|e|⟨p,h,rfl⟩
   ·exact .inl (.inl e)
   ·exact .inl (.inr (.inl e))
   ·rcases List.mem_append.1 h with h|h
    ·exact .inl (.inr (.inr ⟨p,h,rfl⟩))
    simp_all
  refine g I (K9 b j v) ⟨j,v,z,λ_=>Dd⟩ ?_ (λc d=>(Q c d).imp (r c).2 id);have ad:Mod (K9 b j o) q N:=M.mod.trans (y.aj λc _ d=> .inr (.inl d));refine C ((s.trans ad).then (J.aj λc _ d=>Q c ((A c).2 d)))
 ·
  rw[x];refine⟨some ⟨p.2,0,none⟩,rfl,ai.mk λK F=>af.no rfl (F _ _ ?_)⟩;have u:=E;rw[(Ji m).2.2] at u;have G:Uj name m.files=m.files:=by unfold Uj;rw[u];rfl
  rw[G] at g n;subst U;have R:=(Ji m).2.2;refine i.fO h (data:=data) (by rw[R];exact n) λI v z J A=>?_
  refine g I l ⟨j,v,by rw[R] at z;exact z,λc=>(r c).trans (A c).symm⟩ (C (s.trans J)) (λc d=> .inl d)
theorem pL {D:al}{e:aa}{b:Nat}{o:Nat->Prop}{m:Bx}{name:A2M}{x:A2L}(a:Ce e b o m)
  (d: ∀h',Ce h' b o (FY m name).2->Mod o e h'->x (J6 J9 (FY m name).1) h'):AA D P JS #[Ar b,J7 name] e x:=by
 have i:=a.aR.sync (name:=name);obtain⟨j,q,a,k⟩:=a;refine AB8 ?_;unfold VL;refine lQ a.head ⟨_,rfl,?_⟩;unfold FY at d i;have y: ∀ {l:aa},Mod (K9 b j q) e l->Mod o e l:=λn=>n.aj λc _ f=>(k c).2 f
 refine af.intro (λhd=>?_) (λhd=>?_)
 ·rw[if_pos hd] at d;exact d e ⟨j,q,a,k⟩ Mod.refl
 rw[if_neg (by simp[hd])] at d i;refine aD (Fs.mk (AL a.head rfl) (RV jM Pt lP a.map ?_));rcases a.look name with⟨r,s⟩|⟨p,t,r,s,E⟩
 ·rw[r];rw[s] at d;exact⟨none,rfl,af.yes rfl (d e ⟨j,q,a,k⟩ Mod.refl)⟩
 rw[r];rw[s,if_neg (by simp)] at d i;refine⟨some ⟨p.2,0,none⟩,rfl,af.no rfl ?_⟩;refine a.jr (λu l h n=>⟨_,rfl,?_⟩) (λu l h n H=>⟨_,rfl,?_⟩)
 ·rw[if_pos u] at d;exact af.yes rfl (d l ⟨j,q,h,k⟩ (y n))
 rw[if_neg u] at d i;refine af.no rfl ?_;refine aD (Fs.mk (AL h.head rfl) (RV jM Pt lP h.map ?_));rw[r];refine⟨some ⟨p.2,0,none⟩,rfl,?_⟩;have f:=h.cells p t;refine aD (AJ.mk (AL f rfl) (aD (AJ.mk (AB f rfl) ⟨?_,?_⟩)))
 ·have v:=ZA (JP s).2;have:=a.aR.wt;simp[IntKind.max,IntKind.bits,IntKind.signed];omega
 refine aD (ae.mk f (by simp) λI F z J=>aD (ae.dw F (by simp) λv G A K=>?_));subst E;have B:=(Ji m).2.2;have C:=h.set t (h':=v) (g:=Sz) (λ_=>rfl) (by simpa [Sz] using G) (z.trans A) (by rw[B];exact i);rw[B] at C;refine d v ⟨j,_,C,λc=>(k c).trans (tw (g:=λw=>if w.1.name=p.1.name then Sz w.1 else w.1) c).symm⟩ (y (n.trans ((z.trans A).aj λc _ f=> .inr (.inr ⟨p,t,f.symm⟩))))
theorem Yi {i:al}{e:aa}{b:Nat}{j:Nat->Prop}{m:Bx}{name:A2M}{g:A2L}(a:Ce e b j m)
  (c:g (J1 #[J7 (FK m name).1,J6 J9 (FK m name).2]) e):AA i P G8 #[Ar b,J7 name] e g:=by
 obtain⟨l,n,a,o⟩:=a;refine ABg ?_;unfold Tv;refine lQ a.head ⟨_,rfl,?_⟩;unfold FK at c;refine af.intro (λhd=>?_) (λhd=>?_)
 ·rw[if_pos hd] at c;exact c
 rw[if_neg (by simp[hd])] at c;refine aD (Fs.mk (AL a.head rfl) (RV jM Pt lP a.map ?_));rcases a.look name with⟨f,d⟩|⟨p,k,f,d,q⟩
 ·rw[f];rw[d] at c;exact⟨none,rfl,af.yes rfl c⟩
 rw[f];rw[d] at c;refine⟨some ⟨p.2,0,none⟩,rfl,af.no rfl ?_⟩;have h:=a.cells p k;refine aD (AJ.mk (AL h rfl) (aD (AJ.mk (AB h rfl) ⟨?_,c⟩)));have r:=ZA (JP d).2;have:=a.aR.wt;simp[IntKind.max,IntKind.bits,IntKind.signed];omega
theorem ARF(a:A2M)(b:List (Fi×Nat)):iR a (fA b)=fA (b.filter λp=> !decide (p.1.name=a)):=by unfold iR fA;rw[ON];rfl
theorem SK {C:al}{a:aa}{b:Nat}{i:Nat->Prop}{m:Bx}{name:A2M}{x:A2L}(d:Ce a b i m)
  (e: ∀s S',Ce s b S' (Ci m name).2->Mod i a s->(∀ c,S' c->i c)->x (J6 J9 (Ci m name).1) s):AA C P GD #[Ar b,J7 name] a x:=by
 have k:=d.aR.delete (name:=name);obtain⟨j,l,d,n⟩:=d;refine ZY ?_;unfold Qy;refine lQ d.head ⟨_,rfl,?_⟩;unfold Ci at e k;have y: ∀ {g:aa},Mod (K9 b j l) a g->Mod i a g:=λo=>o.aj λc _ q=>(n c).2 q
 refine af.intro (λhd=>?_) (λhd=>?_)
 ·rw[if_pos hd] at e;exact e a i ⟨j,l,d,n⟩ Mod.refl (λ_ a=>a)
 rw[if_neg (by simp[hd])] at e k;refine aD (Fs.mk (AL d.head rfl) (RV jM Pt lP d.map ?_));rcases d.look name with⟨t,u⟩|⟨p,z,t,u,F⟩
 ·rw[t];rw[u] at e;exact⟨none,rfl,af.yes rfl (e a i ⟨j,l,d,n⟩ Mod.refl (λ_ a=>a))⟩
 rw[t];rw[u,if_neg (by simp)] at e k;refine⟨some ⟨p.2,0,none⟩,rfl,af.no rfl ?_⟩;refine d.jr (λv g h o=>⟨_,rfl,?_⟩) (λv g h o G=>⟨_,rfl,?_⟩)
 ·rw[if_pos v] at e;exact af.yes rfl (e g i ⟨j,l,h,n⟩ (y o) (λ_ a=>a))
 rw[if_neg v] at e k;refine af.no rfl ?_;refine aD (Fs.mk (AL h.head rfl) (AMy jM Pt h.map λA B w H=>⟨rfl,?_⟩));rw[ARF] at B;have I:=(Ji m).2.2;have D:FX A b j (l.filter λp=> !decide (p.1.name=name)) {H7 m with files:=QO name m.files}:=by
  refine⟨w.ag h.head h.gF.symm,B,λE r=>?_,?_,?_,k⟩
  ·have r:=(List.mem_filter.1 r).1;exact w.ag (h.cells E r) (h.eX r).2
  ·have g:=d.perm.filter λf=> !decide (f.name=name)
   rw[ON] at g;exact g
  ·exact(List.filter_sublist.map _).nodup d.nodup
 refine e A (K9 b j _) ⟨j,_,D,λ_=>Dd⟩ (y (o.trans (w.aj λc _ q=> .inr (.inl q)))) (λc q=>(n c).2 ?_);rcases q with a|a|⟨p,z,rfl⟩
 ·exact .inl a
 ·exact .inr (.inl a)
 ·exact .inr (.inr ⟨p,(List.mem_filter.1 z).1,rfl⟩)
theorem tz {h:al}{a:aa}{e:A2L}(i: ∀b d f,Ce d b f hZ->Ext a d->(∀ c,f c->a.size<=c)->e (Ar b) d):AA h P Ve #[] a e:=by
 refine ALO ?_;unfold uX;refine ao.mk λj _ k l q=>ao.mk λm _ n g r=>?_
 refine i _ m (K9 j.size a.size []) ⟨_,[],⟨n,Vx.empty (g.ag k (by simp)),by simp,IF _,by simp,ANb⟩,λ_=>Dd⟩ (l.trans g) ?_;rintro c (rfl|rfl|⟨p,o,_⟩)
 ·omega
 ·exact A0 _
 ·cases o
end Go.Lf.G
namespace Go.Proofs
open Go.Shelf
def Tryz.cI:Go.Shelf.Ren:=⟨λ|105=>220|212=>245|99=>246|165=>247|166=>248|170=>249|169=>250|263=>274|264=>275|206=>276|240=>277|241=>278|276=>294|277=>295|a=>a,λ|9=>9|3=>3|4=>4|20=>20|0=>0|46=>153|109=>339|5=>5|72=>343|76=>294|51=>150|146=>151|53=>140|148=>365|70=>341|37=>69|75=>293|127=>367|164=>380|80=>120|a=>a,λ|a=>a⟩
theorem Tryz.eL:Go.Proofs.Lays.n105 Tryz.prog Tryz.cI:=by repeat' first|exact Lf.DN (by kernel_rfl)|kernel_rfl|decide|constructor
theorem Tryz.dT:Builder.Extra Tryz.prog Tryz.cI:=by repeat' first|exact Lf.DN (by kernel_rfl)|kernel_rfl|decide|constructor
theorem Tryz.iG:Lays.n166 Tryz.prog Tryz.cI:= {Tryz.eL with}
theorem Tryz.iH:Lays.n169 Tryz.prog Tryz.cI:= {Tryz.eL with}
def Tryz.fi:Go.Shelf.Ren:=⟨λ|103=>242|210=>263|206=>276|a=>a,λ|9=>9|4=>4|24=>156|3=>3|a=>a,λ|a=>a⟩
theorem Tryz.iI:Go.Proofs.Lays.n103 Tryz.prog Tryz.fi:=by repeat' first|exact Lf.DN (by kernel_rfl)|kernel_rfl|decide|constructor
def Tryz.cN:Go.Shelf.Ren:=⟨λ|14=>243|16=>264|17=>224|19=>288|20=>289|21=>253|22=>254|23=>255|24=>256|25=>283|27=>179|26=>284|28=>221|29=>251|30=>279|31=>280|32=>281|33=>282|35=>217|34=>296|36=>297|37=>298|38=>299|39=>301|40=>302|a=>a,λ|9=>9|3=>3|22=>140|24=>293|25=>336|4=>4|34=>345|5=>5|36=>153|37=>69|0=>0|39=>348|21=>21|44=>373|47=>367|50=>388|48=>386|2=>2|52=>368|55=>370|59=>384|60=>150|20=>20|61=>385|65=>390|66=>391|67=>120|a=>a,λ|0=>0|1=>1|2=>2|3=>4|4=>5|a=>a⟩
theorem Tryz.dU:Go.Proofs.LaysPu.n14 Tryz.prog Tryz.cN:=by repeat' first|exact Lf.DN (by kernel_rfl)|kernel_rfl|decide|constructor
def Tryz.eM:Go.Shelf.Ren:=⟨λ|171=>179|243=>221|246=>251|283=>279|284=>280|285=>281|286=>282|129=>217|317=>296|318=>297|319=>298|320=>299|337=>301|338=>302|a=>a,λ|3=>3|9=>9|2=>2|4=>4|171=>368|0=>0|53=>140|37=>69|5=>5|173=>370|212=>384|51=>150|20=>20|213=>385|46=>153|232=>390|233=>391|a=>a,λ|17=>2|18=>4|19=>5|a=>a⟩
theorem Tryz.gI:Go.Proofs.LaysM.n171 Tryz.prog Tryz.eM:=by repeat' first|exact Lf.DN (by kernel_rfl)|kernel_rfl|decide|constructor
def Tryz.eN:Go.Shelf.Ren:=⟨λ|172=>185|244=>223|245=>224|247=>252|279=>253|280=>254|281=>255|282=>256|287=>264|316=>283|171=>179|205=>284|321=>288|322=>289|243=>221|246=>251|283=>279|284=>280|285=>281|286=>282|129=>217|317=>296|318=>297|319=>298|320=>299|337=>301|338=>302|a=>a,λ|9=>9|3=>3|75=>293|76=>294|4=>4|5=>5|167=>345|37=>69|0=>0|85=>346|2=>2|168=>348|53=>140|175=>336|46=>153|210=>373|127=>367|145=>388|143=>386|21=>21|171=>368|173=>370|212=>384|51=>150|20=>20|213=>385|232=>390|233=>391|80=>120|a=>a,λ|15=>0|16=>1|17=>2|18=>4|19=>5|a=>a⟩
theorem Tryz.gJ:Go.Proofs.LaysC.n172 Tryz.prog Tryz.eN:=by repeat' first|exact Lf.DN (by kernel_rfl)|kernel_rfl|decide|constructor
end Go.Proofs
namespace Go.Lf
open Go
def Oq(a:Nat):List UInt8:=Lib.repeatL [48] (8-(Lib.decDigits a).length)++Lib.decDigits a
def Ti(a:Nat)(l:List UInt8):Nat:=l.foldl (λa c=>a*10+(c.toNat-48)) a
def mK(l:List UInt8):Prop:= ∀c∈l,48<=c.toNat/\c.toNat<=57
theorem oL {a:Nat}(b:a<10):(UInt8.ofNat (48+a)).toNat=48+a:=by simp only[UInt8.toNat_ofNat'];omega
theorem Zh: ∀a:Nat,mK (Lib.decDigits a)/\Ti 0 (Lib.decDigits a)=a:=by
 intro a
 induction a using Nat.strongRecOn with
 |ind a g=>
  by_cases d:a<10
  ·rw[Lib.decDigits,dif_pos d];refine⟨λc b=>?_,?_⟩
   ·rw[List.mem_singleton.1 b,oL d];omega
   ·simp only[Ti,Is,N2,oL d];omega
  ·rw[Lib.decDigits,dif_neg d];obtain⟨h,e⟩:=g (a / 10) (by omega);have f:a % 10<10:=CC _ (by decide);refine⟨λc b=>?_,?_⟩
   ·rcases List.mem_append.1 b with b|b
    ·exact h c b
    ·rw[List.mem_singleton.1 b,oL f];omega
   ·unfold Ti at e ⊢;rw[I3,e];simp only[Is,N2,oL f];omega
theorem rn: ∀k:Nat,mK (Lib.repeatL [48] k)/\ ∀l,Ti 0 (Lib.repeatL [48] k++l)=Ti 0 l
 |0=>⟨λc a=>(by cases a),λl=>rfl⟩
 |k+1=>by
  obtain⟨b,d⟩:=rn k;refine⟨λc a=>?_,λl=>?_⟩
  ·rcases List.mem_append.1 a with a|a
   ·rw[List.mem_singleton.1 a];decide
   ·exact b c a
  ·show Ti 0 (([48]++Lib.repeatL [48] k)++l)=_;rw[A4];exact d l
theorem rp(a:Nat):mK (Oq a)/\Ti 0 (Oq a)=a:=by
 refine⟨λc b=>?_,?_⟩
 ·rcases List.mem_append.1 b with b|b
  ·exact(rn _).1 c b
  ·exact(Zh a).1 c b
 ·exact((rn _).2 _).trans (Zh a).2
theorem rq: ∀(l:List UInt8) (a:Nat),a<=Ti a l
 | [],a=>A0 _
 |c::l,a=>by
  have:=rq l (a*10+(c.toNat-48));have b:Ti a (c::l)=Ti (a*10+(c.toNat-48)) l:=rfl;rw[b];omega
theorem wK: ∀(l:List UInt8) (a:Nat),mK l->Ti a l<=4294967295->Lib.parseUintM 4294967295 a l= .ok (Ti a l)
 | [],a,_,_=>rfl
 |c::l,a,hd,b=>by
  have d:Ti a (c::l)=Ti (a*10+(c.toNat-48)) l:=rfl;rw[d] at b ⊢;have e:=hd c (by simp);have g:=rq l (a*10+(c.toNat-48));unfold Lib.parseUintM;rw[if_pos e,if_neg (by omega),if_neg (by omega)];exact wK l _ (λx f=>hd x (AH _ f)) b
theorem wL: ∀(l:List UInt8) (a:Nat) {u:Nat},a<=4294967295->Lib.parseUintM 4294967295 a l= .ok u->u<=4294967295
 | [],a,u,d,b=>by
  unfold Lib.parseUintM at b;injection b with b;omega
 |c::l,a,u,d,b=>by
  unfold Lib.parseUintM at b;split at b
  ·split at b
   ·cases b
   ·split at b
    ·cases b
    ·exact wL l _ (by omega) b
  ·cases b
theorem wM {a:Nat}(d:a<=4294967295):Lib.parseUintB 32 (Oq a)= .ok a:=by
 obtain⟨e,b⟩:=rp a;have f:Oq a≠ []:=by intro g;have h:Lib.decDigits a= []:=(List.append_eq_nil_iff.1 g).2;have c:=congrArg List.length h;rw[Lib.decDigits_length] at c;have:=Lib.nDigits_pos a;simp at c;omega
 unfold Lib.parseUintB;rw[if_neg f];have:=wK (Oq a) 0 e (by rw[b];exact d);rw[b] at this;exact this
theorem AQG {a b:Nat}(d:Oq a=Oq b):a=b:=by have c:=(rp a).2;rw[d,(rp b).2] at c;exact c.symm
theorem AJs {k:Nat}: ∀ {n:Nat},n<10^(k+1)->Lib.nDigits n<=k+1:=by
 induction k with
 |zero=>intro n a;rw[Lib.nDigits_small (by simpa using a)];omega
 |succ k c=>
  intro n a;by_cases b:n<10
  ·rw[Lib.nDigits_small b];omega
  ·rw[Lib.nDigits_big b];have:=c (n:=n / 10) (by rw[DP] at a;omega);omega
theorem wN {n:Nat}(a:n<=99999999):(Oq n).length=8:=by have b:=AJs (k:=7) (n:=n) (by have:(10:Nat)^(7+1)=100000000:=(by decide);omega);simp only[Oq,A1,Lib.repeatL_length,Lib.decDigits_length,Ds];omega
theorem AKJ {a:Nat}(b:(Oq a).length=8):a<=99999999:=by
 have c:Lib.nDigits a<=8:=by simp only[Oq,A1,Lib.repeatL_length,Lib.decDigits_length,Ds] at b;omega
 have d:=Lib.lt_pow_nDigits a;have e:(10:Nat)^Lib.nDigits a<=10^8:=Rg (by decide) c;have:(10:Nat)^8=100000000:=by decide
 omega
def aC(a:A2M)(b:Nat):A2M:=a++AX (Oq b)
theorem Rv(a:A2M)(b:Nat):bl (aC a b)=bl a++Oq b:=by show(a++AX (Oq b)).data.toList=a.data.toList++Oq b;rw[Hi,IS];exact congrArg _ (BX _)
theorem Iz {a:A2M}{b c:Nat}(e:aC a b=aC a c):b=c:=by have d:=congrArg bl e;rw[Rv,Rv] at d;exact AQG (Kd d)
theorem APq {nm:A2M}{a:Nat}(b:a<=99999999):(aC nm a).size=nm.size+8:=by rw[aC,HA,AP,wN b]
inductive Ni:List UInt8->List (List UInt8)->Prop
 |stop {l:List UInt8} (h:(Dh l).1≠0):Ni l []
 |step {l:List UInt8} {rs:List (List UInt8)} (h:(Dh l).1=0) (s:Ni (Dh l).2.2 rs):Ni l ((Dh l).2.1::rs)
theorem rr {l:List UInt8}(a:(Dh l).1=0):(Dh l).2.1.length+(Dh l).2.2.length<l.length:=by
 unfold Dh at a ⊢;cases b:MR 0 0 l with
 |none=>rw[b] at a;dsimp only at a;split at a<;>cases a
 |some p=>
  obtain⟨g,t⟩:=p;rw[b] at a;obtain⟨c,_⟩:=ly b;have h:t.length<=l.length:=by rw[c];simp
  dsimp only at a ⊢;split at a
  ·cases a
  ·rename_i d;split at a
   ·cases a
   ·rename_i e;split at a
    ·rename_i f;rw[if_neg d,if_neg e,if_pos f];simp only[An,Cp];omega
    ·cases a
theorem ru: ∀(k:Nat) (l:List UInt8),l.length<=k-> ∃a,Ni l a/\(a.map (·.length+1)).sum<=l.length
 |0,l,c=>by
  have:l= []:=DA (by omega);subst this;exact⟨[],.stop (by decide),by simp⟩
 |k+1,l,c=>by
  by_cases b:(Dh l).1=0
  ·have e:=rr b;obtain⟨a,d,f⟩:=ru k (Dh l).2.2 (by omega);exact⟨_,.step b d,by simp only[BW,GW];omega⟩
  ·exact⟨[],.stop b,by simp⟩
theorem Ni.uniq {l:List UInt8}{d ts:List (List UInt8)}(a:Ni l d):Ni l ts->d=ts:=by
 induction a generalizing ts with
 |stop a=>
  intro c;cases c with
  |stop=>rfl
  |step b=>exact absurd b a
 |step a s e=>
  intro c;cases c with
  |stop b=>exact absurd a b
  |step b f=>rw[e f]
noncomputable def lq (l:List UInt8):List (List UInt8):=(ru l.length l (A0 _)).choose
theorem ry(l:List UInt8):Ni l (lq l):=(ru l.length l (A0 _)).choose_spec.1
theorem APj {l:List UInt8}{a:List (List UInt8)}(b:Ni l a):lq l=a:=(ry l).uniq b
abbrev aI(a:List (List UInt8)):List UInt8:=a.flatMap Ca
theorem R4 {rs:List (List UInt8)}(c: ∀a∈rs,a.length<=1048576){t:List UInt8}(d:(Dh t).1≠0):Ni (aI rs++t) rs:=by
 induction rs with
 |nil=>exact .stop d
 |cons a rs e=>
  have b:=rQ (l:=a) (c a (by simp)) (aI rs++t);have f:aI (a::rs)++t=Ca a++(aI rs++t):=by simp
  rw[f];have:=Ni.step (l:=Ca a++(aI rs++t)) (rs:=rs) (by rw[b]) (by rw[b];exact e λx g=>c x (AH _ g));rw[b] at this;exact this
theorem Uf:(Dh []).1≠0:=by decide
theorem ANL {a:List UInt8}(m:a.length<=1048576){b:Nat}(n:b<(Ca a).length):(Dh ((Ca a).take b)).1≠0:=by
 have d:(Ca a).take b++(Ca a).drop b=Ca a:=DO _ _;have o:((Ca a).drop b).length≠0:=by rw[Cp];omega
 generalize (Ca a).take b=p at*
 generalize (Ca a).drop b=e at*
 unfold Dh;cases f:MR 0 0 p with
 |none=>dsimp only;split<;>simp
 |some z=>
  obtain⟨g,t⟩:=z;obtain⟨h,i⟩:=ly f;have j:MR 0 0 (Ca a)=some (g,t++e):=by rw[<- d,h,A4];exact Vh i _
  have c:MR 0 0 (Ca a)=some (a.length,RY (jl a)++a):=by unfold Ca;rw[A4];exact Vh (by omega) _
  rw[j] at c;obtain⟨rfl,k⟩:=Prod.mk.inj (BE c);have l:=congrArg List.length k;simp only[A1,Jp] at l;dsimp only;rw[if_neg (by omega),if_pos (by omega)];simp
theorem Jh {r:List UInt8}(a:r.length<=1048576):r.length+5<=(Ca r).length/\(Ca r).length<=r.length+14:=by
 have b:=AV (n:=r.length) (by omega);have c:1<=(Bb r.length).length:=by rw[Bb];split<;>simp
 simp only[Ca,A1,Jp];omega
end Go.Lf
namespace Go.Lf.G
open Go
def ACM:String:=Proofs.YtgpmoonnachoaaaGreatDoor.Rows.archiveMovesRow.named.getD 2 (String.ofList [])
def dh(a:aa):Prop:= ∀(b:al) (c:Nat),Lib.TabIs P (b.at a c) ACM .u64 Lib.pow10Tab
theorem dh.ext {a b:aa}(t:dh a)(x:Ext a b):dh b:=by intro c d;have e:=(Lib.tabBelow_of_tabIs (t c d)) (c.at b d) ⟨rfl,rfl,rfl,x.size,λf g=>x.get f g (λa=>a)⟩;exact e
def lB(b:aa)(g:Nat):Prop:= ∃a,ah b ⟨g,0,none⟩=some a/\(a= .nilIface\/ ∃c d,a= .iface c d)
theorem lB.ext {a b:aa}{g:Nat}(c:lB a g)(x:Ext a b):lB b g:=by obtain⟨d,e,f⟩:=c;exact⟨d,x.ah e,f⟩
structure cy (h:aa):Prop where
 cS:dh h
 sR:lB h (Proofs.Tryz.cN.g 0)
 sS:lB h (Proofs.Tryz.cN.g 1)
theorem cy.ext {b c:aa}(a:cy b)(x:Ext b c):cy c:=⟨a.cS.ext x,a.sR.ext x,a.sS.ext x⟩
theorem sk {e:al}{d:aa}{i:Nat}{a:World}(b:RowKit.Below d.size (e.at d i) a):a=e.at a.heap a.drawn/\Ext d a.heap:=by obtain⟨f,g,h,j,k⟩:=b;refine⟨?_,⟨j,λc l _=>k c l⟩⟩;cases a;simp only[al.at] at f g h ⊢;subst f g h;rfl
theorem yV {d:al}{b:aa}{e:Nat}{a:Q6}{v:J0}(c:ah b a=some v):(d.at b e).cell? a=some v:=by unfold ah at c;unfold World.cell?;exact c
theorem yW {d:al}{a:aa}{c:Int}{e:A2L}(t:dh a)(g: -9223372036854775808<=c)(h:c<=9223372036854775807)(i: ∀f,Ext a f->e (J7 ⟨(Lib.itoa c).toArray⟩) f):
  AA d P PI #[J6 J9 c] a e:=by
 intro m;refine Calls.mono (Proofs.Any.strconv_Itoa Proofs.Tryz.gI c g h (d.at a m) (t d m)) ?_;rintro l n ⟨rfl,j,os,rfl⟩;refine⟨_,rfl,a++os,m+j,rfl,i _ ⟨by simp,λb k _=>by rw[IT k]⟩⟩
theorem ANe {b:al}{a:aa}{s:A2M}{c:Nat}{d:A2L}(g:c<=8)(h:s.size<=8)(i: ∀e,Ext a e->d (J7 (AX (Lib.repeatL (bl s) c))) e):
  AA b P Qs #[J7 s,J6 J9 c] a d:=by
 intro m;have k:s.size*c<=8*8:=Nat.mul_le_mul h g;refine Calls.mono (Proofs.Any.strings_Repeat Proofs.Tryz.eL Proofs.Tryz.dT s c (b.at a m) (by omega) (by omega)) ?_;rintro l f ⟨rfl,hB⟩;obtain⟨j,x⟩:=sk hB;exact⟨_,rfl,f.heap,f.drawn,j,i _ x⟩
theorem AGm {b:al}{a:aa}{s p:A2M}{c:A2L}(d:c (J1 #[J7 (AX (Lib.trimPrefix (bl s) (bl p))),J3 (Lib.hasPrefix (bl s) (bl p))]) a):
  AA b P Nq #[J7 s,J7 p] a c:=by
 intro m;refine Calls.mono (Proofs.Any.strings_CutPrefix Proofs.Tryz.iI s p (b.at a m)) ?_;rintro e f ⟨rfl,rfl⟩;exact⟨_,rfl,a,m,rfl,d⟩
theorem APD {g:al}{a:aa}{s:A2M}{h:A2L}(o:cy a)(y:s.size<=8)
  (p: ∀u:Nat,Lib.parseUintB 32 (bl s)= .ok u-> ∀e,Ext a e->h (J1 #[.int .u64 u,.nilIface]) e)
  (q:(∀ u,Lib.parseUintB 32 (bl s)≠ .ok u)-> ∀e (w:Int) t v,Ext a e->h (J1 #[.int .u64 w,.iface t v]) e):
  AA g P N7 #[J7 s,J6 J9 10,J6 J9 32] a h:=by
 intro m;cases c:Lib.parseUintB 32 (bl s)
 ·rename_i u;refine Calls.mono (Proofs.Any.strconv_ParseUint_10_at32_ok Proofs.Tryz.dU s (by omega) u c (g.at a m)) ?_;rintro r d ⟨rfl,i|i⟩
  ·subst i;exact⟨_,rfl,a,m,rfl,p u c a Mod.refl⟩
  ·subst i;refine⟨_,rfl,_,_,rfl,p u c _ ?_⟩;refine⟨?_,λb z _=>?_⟩
   ·simp[Lib.bytesWorld,World.freeze,World.alloc,World.drew,al.at]
   ·simp[Lib.bytesWorld,World.freeze,World.alloc,World.drew,al.at,GO,Array.getElem?_push];rw[if_neg (by omega),if_neg (by omega)]
 ·obtain⟨j,k,l⟩:=o.sR;refine Calls.mono (Proofs.Any.strconv_ParseUint_10_at32_syntax Proofs.Tryz.dU s (by omega) c j (g.at a m) (yV k) l) ?_;rintro r d ⟨N,rfl,_,_,hB⟩;obtain⟨n,x⟩:=sk hB;exact⟨_,rfl,d.heap,d.drawn,n,q (λu f=>by rw[c] at f;cases f) _ _ _ _ x⟩
 ·obtain⟨j,k,l⟩:=o.sS;refine Calls.mono (Proofs.Any.strconv_ParseUint_10_at32_range Proofs.Tryz.dU s (by omega) c j (g.at a m) (yV k) l) ?_;rintro r d ⟨N,rfl,_,_,hB⟩;obtain⟨n,x⟩:=sk hB;exact⟨_,rfl,d.heap,d.drawn,n,q (λu f=>by rw[c] at f;cases f) _ _ _ _ x⟩
theorem Yv {g:al}{c:aa}{b:A2M}{a:Nat}{d:A2L}(h:cy c)(p:a<=4294967295)(q:b.size<=1099511627776)(i: ∀e,Ext c e->d (J7 (aC b a)) e):
  AA g P Ku #[J7 b,J6 J9 a] c d:=by
 refine AIA ?_;unfold uN;refine yW h.cS (by omega) (by omega) λr j=>⟨_,rfl,?_⟩
 have k:Lib.itoa (a:Int)=Lib.decDigits a:=Lib.itoa_nonneg a;rw[k];have f:(⟨(Lib.decDigits a).toArray⟩:A2M).size=(Lib.decDigits a).length:=by simp[ByteArray.size]
 have s:(Lib.decDigits a).length<=20:=by rw[Lib.decDigits_length];exact Lib.nDigits_le20 a (by omega)
 have l:(if((J8 J9 ((8:Int)-(((⟨(Lib.decDigits a).toArray⟩:A2M).size:Nat):Int))):Int)>0 then(J8 J9 ((8:Int)-(((⟨(Lib.decDigits a).toArray⟩:A2M).size:Nat):Int))) else 0)=((8-(Lib.decDigits a).length:Nat):Int):=by rw[f,wrap_i64 (by omega) (by omega)];split<;>omega
 rw[l];refine ANe (by omega) (by decide) λm n=>⟨_,rfl,?_,?_,?_⟩
 ·have:(AX (Lib.repeatL (bl ⟨#[48]⟩) (8-(Lib.decDigits a).length))).size<=8:=by rw[AP,Lib.repeatL_length];simp[bl]
  rw[max_i64];omega
 ·have:(AX (Lib.repeatL (bl ⟨#[48]⟩) (8-(Lib.decDigits a).length))).size<=8:=by rw[AP,Lib.repeatL_length];simp[bl]
  rw[HA,max_i64,f];omega
 ·have:=i m (j.trans n);have o:aC b a=(b++AX (Lib.repeatL (bl ⟨#[48]⟩) (8-(Lib.decDigits a).length)))++⟨(Lib.decDigits a).toArray⟩:=by rw[aC,Oq,<-Ao,ByteArray.append_assoc];rfl
  rw[o] at this;exact this
theorem AM9 {I:al}{h:aa}{c s:A2M}{q:A2L}(C:cy h)(J:c.size<=1099511627776)(U:s.size<=1099511627776)
  (D: ∀i (k:Nat),Ext h i->(k=0-> ∀a:Nat,1<=a->a<=99999999->s≠aC c a)->(k≠0->k<=99999999/\s=aC c k)->q (J6 J9 k) i):
  AA I P SS #[J7 c,J7 s] h q:=by
 refine AE1 ?_;unfold YG;have m: ∀i,Ext h i->(∀ a:Nat,1<=a->a<=99999999->s≠aC c a)->q (J6 J9 0) i:=λi x r=>D i 0 x (λ_=>r) (λh=>absurd rfl h)
 refine AGm ⟨_,_,rfl,?_⟩;cases l:Lib.hasPrefix (bl s) (bl c) with
 |false=>
  refine ai.mk λK o=>af.yes rfl (o _ _ (af.yes rfl (m h Mod.refl λa _ _ g=>?_)))
  subst g;rw[Rv] at l;unfold Lib.hasPrefix at l;rw[SD] at l;exact l (List.isPrefixOf_iff_prefix.2 (List.prefix_append _ _))
 |true=>
  have E:=l;unfold Lib.hasPrefix at E;obtain⟨f,hd⟩:=List.isPrefixOf_iff_prefix.1 E;have L:Lib.trimPrefix (bl s) (bl c)=f:=by unfold Lib.trimPrefix;rw[if_pos l,<-hd];simp
  rw[L];refine ai.mk λK o=>af.no rfl ?_
  have M: ∀b:Bool,b=true->(∀ a:Nat,1<=a->a<=99999999->s≠aC c a)->K (b,()) h:=λb N r=>o _ _ (af.yes N (m h Mod.refl r))
  have F:(AX f).size=f.length:=AP f;by_cases w:f.length=8
  ·refine o _ _ (af.no (by simp[F,w]) ?_);have G:bl (AX f)=f:=EJ f;refine APD C (by omega) (λu j e p=>⟨_,_,rfl,?_⟩) (λj e k t v p=>⟨_,_,rfl,ai.mk λO y=>?_⟩)
   ·rw[G] at j;have Q:u<=4294967295:=by
     have:Lib.parseUintB 32 f= .ok u:=j;unfold Lib.parseUintB at this;split at this
     ·cases this
     ·exact wL f 0 (by omega) this
    have R:J8 J9 (u:Int)=(u:Int):=wrap_i64 (by omega) (by omega);rw[R];refine ai.mk λO y=>?_
    refine⟨trivial,af.no rfl ?_⟩;refine Yv (C.ext p) Q J λz S=>⟨_,rfl,y _ _ ?_⟩
    have A:=p.trans S;refine af.intro (λd=>?_) (λd=>?_)
    ·have d:aC c u≠s:=by
      intro g;have:bR (aC c u) s=true:=by rw[Cn];exact decide_eq_true g
      dsimp only at d;rw[this] at d;cases d
     refine m z A λa _ B g=>d ?_
     have e:bl s=bl c++Oq a:=by rw[g,Rv]
     rw[<- hd] at e;have n:f=Oq a:=Kd e;rw[n,wM (by omega)] at j;have:a=u:=by injection j
     rw[<- this];exact g.symm
    ·have d:aC c u=s:=by
      have d:(!bR (aC c u) s)=false:=d;have d:bR (aC c u) s=true:=by simpa using d
      rw[Cn] at d;exact of_decide_eq_true d
     have e:bl s=bl c++Oq u:=by rw[<- d,Rv]
     rw[<- hd] at e;have n:f=Oq u:=Kd e;have T:u<=99999999:=AKJ (by rw[<- n];exact w);by_cases H:u=0
     ·subst H;refine m z A λa V _ g=>?_
      have:=Iz (g.symm.trans d.symm);omega
     ·exact D z u A (λh=>absurd h H) λ_=>⟨T,d.symm⟩
   ·rw[G] at j;refine⟨trivial,af.yes rfl (y _ _ (af.yes rfl (m e p λa _ B g=>?_)))⟩;have e:bl s=bl c++Oq a:=by rw[g,Rv]
    rw[<- hd] at e;have n:f=Oq a:=Kd e;exact j a (by rw[n];exact wM (by omega))
  ·refine M _ (by simp[F];omega) λa _ B g=>w ?_
   have e:bl s=bl c++Oq a:=by rw[g,Rv]
   rw[<- hd] at e;rw[Kd e,wN B]
open Go Go.ChangeShapes Go.WideShapes Go.ChangeAt Go.RowKit Go.Proofs.YtgpmoonnachoaaaGreatDoor
theorem wg {H:Type}{enc:Q7×J0->H}{P:Q1}(d:laidOutB P=true){e f:World}{g:Nat->Bool}: ∀ {ts:List Q7} {c:List J0} {ds:List (DataW H)} {ps:List MemPlace},
  (ts.all λt=>P.readableRec t&&decide (t<P.types.size))=true->DataW.TrodAll enc P e 0 (λ_=>true) true ts c ds ps->(∀ p∈ps,e.sameAt f p)->(∀ p∈ps,g p.block=true)->DataW.TrodAll enc P f 0 g true ts c ds ps
 | [],[],[],_,_,j,_,_=>j
 |t::ts,v::c,o::ds,_,b,⟨p,k,l,m,n⟩,h,i=>by
  simp only[DM,A3,decide_eq_true_eq] at b;subst n;exact⟨p,k,WideElems.Trod_stays d b.1.1 b.1.2 l (λx a=>h x (HJ _ a)) (λx a=>i x (HJ _ a)),
   wg d (by simpa using b.2) m (λx a=>h x (IN _ a)) (λx a=>i x (IN _ a)),rfl⟩
def mH(a:World):al:=⟨a.tape,a.os,a.output⟩
theorem APJ {H:Type}{enc:Q7×J0->H}{P:Q1}{f:Func}{s:ChangeSpec}{a:World}{args:Array J0}{ds d:List (DataW H)}{j:List MemPlace}{q:Q7}{e:aa}{k:Nat}
  (l:DataW.Whole enc P f.params.toList s.vars false a args.toList ds d j) (r:s.vars= []) (y:(s.fn H (ds++d)).results= [.lit (.bool true)]) (z:(s.fn H (ds++d)).args=ds) (A:(s.fn H (ds++d)).vars= [])
  (B:laidOutB P=true) (g:(f.params.toList.all λt=>P.readableRec t&&decide (t<P.types.size))=true) (C:f.resultTypes= #[q]) (D:P.underlying q=some .bool) (x:Ext a.heap e):
  s.post enc P f false true false false a args (.bool true) ((mH a).at e k):=by
 have u:=λp (g:p∈j)=>l.lt p g
 have E: ∀p∈j,a.sameAt ((mH a).at e k) p:=λp g=>by
  have v:e[p.block]? =a.heap[p.block]? :=x.get _ (u p g) (λh=>h);cases p with
  |cell b off=>
   show ah e ⟨b,off,none⟩=ah a.heap ⟨b,off,none⟩;exact Qw v
  |map b=>exact v
 obtain⟨p,F,hA,m,rfl,L,M⟩:=id l;rw[r] at m;have G:d= []/\F= []:=by
  cases d with
  |nil=>exact⟨rfl,m⟩
  |cons _ _=>exact m.elim
 obtain⟨rfl,rfl⟩:=G;refine⟨ds,[],p++ [],[],p,[],l,?_,?_,?_,?_,λh=>by cases h⟩
 ·rw[y,C];exact⟨[],[],⟨1,by simp[DataW.trod,Value.cells,D]⟩,rfl,rfl⟩
 ·rw[z];exact wg B g hA (λn o=>E n (HJ _ o)) (λn o=>by simpa using u n (HJ _ o))
 ·rw[r,A];rfl
 ·refine⟨rfl,rfl,λi I=>?_⟩;have J:((mH a).at e k).heap[i]? =a.heap[i]? :=x.get i I (λh=>h);rw[J];cases N:a.heap[i]? with
  |none=>trivial
  |some K=>
   cases K with
   |cells c t fr=>exact⟨rfl,rfl,rfl,λ_ _=>rfl⟩
   |map O Q=>exact .inr ⟨rfl,rfl⟩
   |_=>rfl
theorem laid:laidOutB P=true:=by kernel_rfl
section
variable {H : Type} {enc : Q7 × J0 -> H} {w : World} {base : Nat} {spare : Nat -> Bool} {held : Bool}
end
theorem AT5:P.underlying Bp=some (.int J9):=by kernel_rfl
theorem ASg:P.underlying qY=some .bool:=by kernel_rfl
theorem ATF:P.underlying BK=some .string:=by kernel_rfl
theorem AUV:P.cellsOf BK=1:=by kernel_rfl
theorem wf_i64 {a:Int}(b:(Lit.int J9 a).wf=true): -9223372036854775808<=a/\a<=9223372036854775807:=by simp[Lit.wf,IntKind.min,IntKind.max,IntKind.bits,IntKind.signed] at b;omega
section
variable {H : Type} {enc : Q7 × J0 -> H} {w : World} {base : Nat} {spare : Nat -> Bool} {held : Bool}
end
end Go.Lf.G
namespace Go.Lf
open Go
def xK(a:A2M)(i:Nat):Nat:=(mQ a+i*oW a) % 4294967296
def cU(a:A2M)(m i:Nat):Nat:=xK a i % (8*m)
def Tf(f:List UInt8)(a:Nat):Bool:=((f[a / 8]?).getD 0).toNat.testBit (a % 8)
def gz(f:List UInt8)(a:Nat):List UInt8:=f.set (a / 8) (Bl (((f[a / 8]?).getD 0).toNat ||| 2^(a % 8)))
theorem AQf(f:List UInt8)(a:Nat):(gz f a).length=f.length:=by simp[gz]
theorem wX {c a:Nat}(b:c<256)(d:a<8):c ||| 2^a<256:=by have e:2^a<2^8:=Nat.pow_lt_pow_right (by decide) d;have:c ||| 2^a<2^8:=Kf (by simpa using b) e;simpa using this
theorem ARn {f:List UInt8}{a:Nat}(c:a / 8<f.length)(x:Nat):Tf (gz f a) x=(Tf f x||decide (x=a)):=by
 unfold Tf gz;have d:a % 8<8:=CC _ (by decide);by_cases b:x / 8=a / 8
 ·rw[b,HT c,GB,Dc (wX (UInt8.toNat_lt _) d),Nat.testBit_or,Nat.testBit_two_pow];congr 1;rw[DS,decide_eq_true_iff,decide_eq_true_iff];omega
 ·rw[JT (by omega)];have:x≠a:=λe=>b (by rw[e])
  simp[this]
def ZV(m:Nat)(f:List UInt8)(a:A2M):List UInt8:=(List.range 4).foldl (λf i=>gz f (cU a m i)) f
theorem rB {k:A2M}{m i:Nat}(a:1<=m):cU k m i<8*m:=CC _ (by omega)
theorem U0 {k:A2M}{m:Nat}(b:1<=m): ∀(l:List Nat) (f:List UInt8),f.length=m->(l.foldl (λf i=>gz f (cU k m i)) f).length=m/\ ∀x,Tf (l.foldl (λf i=>gz f (cU k m i)) f) x=(Tf f x||l.any λi=>decide (x=cU k m i))
 | [],f,a=>⟨a,λx=>by simp⟩
 |i::l,f,a=>by
  have c:cU k m i / 8<f.length:=by have:=rB (k:=k) (i:=i) b;omega
  obtain⟨d,e⟩:=U0 (k:=k) b l (gz f (cU k m i)) (by rw[AQf,a]);refine⟨d,λx=>?_⟩;rw[Is,e,ARn c,List.any_cons,Bool.or_assoc]
theorem AOJ {k:A2M}{m:Nat}(a:1<=m){f:List UInt8}(b:f.length=m):(ZV m f k).length=m:=(U0 a _ f b).1
theorem APl {a:A2M}{m:Nat}(b:1<=m){f:List UInt8}(c:f.length=m){x:Nat}(d:Tf f x=true):Tf (ZV m f a) x=true:=by unfold ZV;rw[(U0 b _ f c).2,d];rfl
theorem AOZ {a:A2M}{m:Nat}(b:1<=m){f:List UInt8}(c:f.length=m){i:Nat}(d:i<4):Tf (ZV m f a) (cU a m i)=true:=by unfold ZV;rw[(U0 b _ f c).2,DG];right;rw[List.any_eq_true];exact⟨i,List.mem_range.2 d,by simp⟩
def Nb(m:Nat):List UInt8:=List.replicate m 0
def km(a:List A2M)(m:Nat):List UInt8:=a.foldl (ZV m) (Nb m)
def oM(f:List UInt8)(a:A2M):Bool:=(List.range 4).all λi=>Tf f (cU a f.length i)
def gZ(f:List UInt8)(a:A2M):Bool:=decide (f≠ [])&&decide (f.length<=8192)&&oM f a
theorem Vs {m:Nat}(c:1<=m): ∀(a:List A2M) (f:List UInt8),f.length=m->(a.foldl (ZV m) f).length=m/\(∀ x,Tf f x=true->Tf (a.foldl (ZV m) f) x=true)/\ ∀k∈a,∀i,i<4->Tf (a.foldl (ZV m) f) (cU k m i)=true
 | [],f,b=>⟨b,λx d=>d,λk j=>by cases j⟩
 |k::a,f,b=>by
  have l:=AOJ (k:=k) c b;obtain⟨n,g,o⟩:=Vs c a (ZV m f k) l;refine⟨n,λx d=>g x (APl c b d),λp e i h=>?_⟩;rcases List.mem_cons.1 e with rfl|e
  ·exact g _ (AOZ c b h)
  ·exact o p e i h
theorem APP {b:List A2M}{m:Nat}(d:1<=m)(e:m<=8192){c:A2M}(f:c∈b):gZ (km b m) c=true:=by obtain⟨a,_,g⟩:=Vs d b (Nb m) (by simp[Nb]);have a:(km b m).length=m:=a;unfold gZ oM;rw[a,A3,A3,decide_eq_true_iff,decide_eq_true_iff,E0];refine⟨⟨λh=>?_,e⟩,λi j=>g c f i (List.mem_range.1 j)⟩;rw[h] at a;simp at a;omega
theorem AP3 {a:List A2M}{m:Nat}(b:1<=m):(km a m).length=m:=(Vs b a (Nb m) (by simp[Nb])).1
theorem AOa(v:J0)(a:Nat):(madeCells #[v] a).toList=List.replicate a v:=by
 apply List.ext_getElem
 ·simp[madeCells]
 ·intro i b c;simp[madeCells,Nat.mod_one]
theorem xt {a:Type}{b:cJ a}{c:a}{v:J0}(d:b.enc c= [v]): ∀n,(List.replicate n c).flatMap b.enc=List.replicate n v
 |0=>rfl
 |n+1=>by rw[List.replicate_succ,List.replicate_succ,AF,d,xt d n];rfl
theorem xu {e:al}{P:Q1}{f:Type}{E:cJ f}{x0:f}{v z:J0}{t T:Q7}{g:Nat}(p:P.underlying t=some (.slice T))(c:(P.info? T).map (λi=>(i.zero,i.size,i.bytes))=some (some z,1,g))
  (q:z.cells= #[v]) (h:E.w=1) (r:E.enc x0= [v]) {a:aa} {n:Nat} {j k:IntKind} (A:n*g<=140737488355328) (l:n<=maxLen) {K:Sl->aa->Prop}
  (u: ∀b,Own E T b ⟨some ⟨a.size,0,none⟩,n,n⟩ (List.replicate n x0)->Ext a b->b.size=a.size+1->K ⟨some ⟨a.size,0,none⟩,n,n⟩ b):
  BG e P (Instr.makeSlice t (.int j (n:Int)) (.int k (n:Int))) a λv b=> ∃s:Sl,v= .slice s.p s.len s.cap/\K s b:=by
 intro m;cases d:P.info? T with
 |none=>rw[d] at c;simp at c
 |some i=>
  rw[d] at c;simp only[HU,BT,LR] at c;obtain⟨w,x,y⟩:=c;have hB:((i.bytes:Nat):Int)*((n:Nat):Int)<=281474976710656:=by rw[y,<-Int.natCast_mul,CT];omega
  have o:=run_make (P:=P) (e.at a m) t T i z p d w j k (n:Int) (n:Int) (by omega) (Hb _) hB (by simp only[maxLen] at l;omega);simp only[As,x,By,q] at o;refine⟨_,a.push (.cells (madeCells #[v] n) T),m,o,⟨some ⟨a.size,0,none⟩,n,n⟩,rfl,u _ ⟨by simp,.inr ⟨a.size,madeCells #[v] n,rfl,by simp,A0 _,l,by simp[size_madeCells,h],?_⟩⟩ (Mod.push a _) (by simp)⟩;show(madeCells #[v] n).toList.take (n*E.w)=_;rw[AOa,h,By,Ax (by simp),xt r]
theorem xw {m:Nat}(a:m<=8192):J8 .u32 (J8 J9 ((8:Int)*((m:Nat):Int)))=((8*m:Nat):Int):=by rw[show(8:Int)*((m:Nat):Int)=((8*m:Nat):Int) by omega,ED (by omega),wrap_u32,AE (by omega)]
theorem ATh(a:A2M)(i:Nat):xK a i<4294967296:=CC _ (by decide)
theorem xy(a:A2M)(i:Nat):J8 .u32 (((xK a i:Nat):Int)+((oW a:Nat):Int))=((xK a (i+1):Nat):Int):=by rw[<- Int.natCast_add,wrap_u32];congr 1;unfold xK;rw[Nat.mod_add_mod,Bs,Nd,HK]
theorem xA(a:A2M):xK a 0=mQ a:=by unfold xK;rw[HX,G4,AE (yh a)]
theorem xC(x m:Nat):((x:Nat):Int).tmod ((m:Nat):Int)=((x % m:Nat):Int):=(Mb x m).symm
theorem xD(x:Nat):((x:Nat):Int).tdiv (8:Int)=((x / 8:Nat):Int):=(P2 x 8).symm
theorem xE(x:Nat):((x:Nat):Int).tmod (8:Int)=((x % 8:Nat):Int):=(Mb x 8).symm
theorem xF(x:Nat):min (((x % 8:Nat):Int).toNat) (IntKind.bits .u8)=x % 8:=by rw[As];show min (x % 8) 8=_;omega
theorem AQ0 {c a:Nat}(d:c<256):(Gr .u8 (((c:Nat):Int).fdiv ((2:Int)^a)) (1:Int)==(0:Int))= !(c.testBit a):=by have e:c / 2^a<256:=RC (RE _ _) d;rw[Qu,show(1:Int)=((1:Nat):Int) from rfl,yw e (by decide),Nat.and_one_is_mod,Nat.testBit_eq_decide_div_mod_eq];generalize c / 2^a=f;rcases Nat.mod_two_eq_zero_or_one f with b|b<;>rw[b]<;>rfl
theorem AS6 {c a:Nat}(d:c<256)(e:a<8):dX .u8 ((c:Nat):Int) (J8 .u8 ((1:Int)*((2:Int)^a)))=((c ||| 2^a:Nat):Int):=by
 have b:2^a<256:=by have:2^a<2^8:=Nat.pow_lt_pow_right (by decide) e;simpa using this
 have f:(1:Int)*((2:Int)^a)=((2^a:Nat):Int):=by rw[Int.one_mul,Int.natCast_pow];rfl
 rw[f,wrap_u8,AE b,yu d b]
end Go.Lf
namespace Go.Lf.G
open Go
theorem ANa {a:A2M}{i:Nat}(b:i<a.size): ∃c,a.data.toList[i]? =some c:=by
 have:i<a.data.toList.length:=by simpa using b
 exact⟨_,A2 this⟩
theorem su {o:al}{d:aa}{key:A2M}{h:A2L}(r:key.size<=1099511627776)(p:h (.tuple #[.int .u32 (mQ key:Int),.int .u32 (oW key:Int)]) d):AA o P Lr #[.string key] d h:=by
 refine AEw ?_;unfold ZW;refine Loop.rule (λm x j=> ∃i:Nat,x=(((Ur (key.data.toList.take i)).1:Int),((Ur (key.data.toList.take i)).2:Int),(i:Int),())/\j=d/\m=key.size-i/\i<=key.size) ?_ ⟨0,rfl,rfl,rfl,by omega⟩;rintro K m _ j ⟨i,rfl,e,rfl,s⟩ q;subst e;obtain⟨k,f⟩:=yg (key.data.toList.take i);refine af.intro (λg=>?_) (λg=>?_)
 ·have a:i<key.size:=by simpa using g
  obtain⟨c,l⟩:=ANa a;have n:c.toNat<256:=c.toNat_lt;refine⟨⟨by dsimp only;omega,by dsimp only;omega⟩,⟨by dsimp only;omega,by dsimp only;omega⟩,?_⟩;dsimp only;rw[OH l,tV k n,AT0 f n,Ab (by omega)];refine q (key.size-(i+1)) _ _ (by omega) ⟨i+1,?_,rfl,rfl,a⟩;rw[AD,l,CD,yf]
 ·have a:i=key.size:=by simp at g;omega
  have e:key.data.toList.take i=key.data.toList:=Ax (by simp[a]);dsimp only;rw[e] at k f ⊢;have:dX .u32 (((Ur key.data.toList).2:Nat):Int) (1:Int)=((oW key:Nat):Int):=ASe f (b:=1) (by decide);rw[this];exact p
theorem X0 {f:A2M}:bR f (⟨#[]⟩:A2M)=decide (bl f= []):=by
 rw[DS,Cn];constructor
 ·intro a;have a:=of_decide_eq_true a;subst a;rfl
 ·intro a;have a:=of_decide_eq_true a;cases f with
  |mk b=>
   have:b= #[]:=by apply Array.toList_inj.1;exact a
   rw[this];rfl
theorem ASc {f:A2M}{i:Nat}{c:UInt8}(a:(bl f)[i]? =some c):f.data.toList[i]? =some c:=a
theorem zo {u:al}{l:aa}{f key:A2M}{q:A2L}(v:key.size<=1099511627776)(a:q (.bool (gZ (bl f) key)) l):AA u P P5 #[.string f,.string key] l q:=by
 refine AGh ?_;unfold uO;refine ai.mk λK r=>?_
 have g:=BB f;refine af.intro (λe=>?_) (λe=>?_)
 ·refine r _ _ (af.yes rfl ?_);rw[X0,decide_eq_true_iff] at e;rw[e] at a;exact a
 ·refine r _ _ ?_;rw[X0,decide_eq_false_iff_not] at e;refine af.intro (λn=>?_) (λn=>?_)
  ·have h: ¬(bl f).length<=8192:=by simp at n;omega
   have:gZ (bl f) key=false:=by unfold gZ;rw[decide_eq_false h,OF,Ge]
   rw[this] at a;exact a
  ·have h:f.size<=8192:=by simp at n;omega
   have w:1<=f.size:=by rw[<- g];exact List.length_pos_iff.2 e
   refine su v ⟨_,_,rfl,?_⟩;refine Loop.rule (λm x s=> ∃i:Nat,x=(((xK key i:Nat):Int),(i:Int),())/\s=l/\m=4-i/\i<=4/\ ∀b,b<i->Tf (bl f) (cU key f.size b)=true) ?_ ⟨0,by rw[xA];rfl,rfl,rfl,by omega,λb o=>by omega⟩;rintro E m _ s ⟨i,rfl,y,rfl,F,t⟩ z;subst y;dsimp only;refine af.intro (λp=>?_) (λp=>?_)
   ·have j:i<4:=by simp at p;omega
    have G:cU key f.size i<8*f.size:=rB w;have H:=ATh key i;rw[xw h,xC];have A:xK key i % (8*f.size)=cU key f.size i:=rfl;rw[A,xD,xE,xF,wrap_u32,AE (show cU key f.size i / 8<4294967296 by omega)];have B:cU key f.size i / 8<(bl f).length:=by rw[g];omega
    have k:(bl f)[cU key f.size i / 8]? =some (bl f)[cU key f.size i / 8]:=A2 B;obtain⟨c,k⟩: ∃c,(bl f)[cU key f.size i / 8]? =some c:=⟨_,k⟩;rw[OH (ASc k),AQ0 c.toNat_lt];have C:Tf (bl f) (cU key f.size i)=c.toNat.testBit (cU key f.size i % 8):=by unfold Tf;rw[k];rfl
    refine⟨by omega,⟨by omega,by omega⟩,by omega,?_⟩;rw[<- C];refine af.intro (λd=>?_) (λd=>?_)
    ·have d:Tf (bl f) (cU key f.size i)=false:=by simpa using d
     have:gZ (bl f) key=false:=by
      unfold gZ oM;rw[g];have:((List.range 4).all λi=>Tf (bl f) (cU key f.size i))=false:=by rw[List.all_eq_false];exact⟨i,List.mem_range.2 j,by simp[d]⟩
      simp[this]
     rw[this] at a;exact a
    ·have d:Tf (bl f) (cU key f.size i)=true:=by simpa using d
     rw[xy,Ab (by omega)];refine z (4-(i+1)) _ _ (by omega) ⟨i+1,rfl,rfl,rfl,j,λb o=>?_⟩;by_cases D:b=i
     ·subst D;exact d
     ·exact t b (by omega)
   ·have j:i=4:=by simp at p;omega
    have:gZ (bl f) key=true:=by unfold gZ oM;rw[g,A3,A3,decide_eq_true_iff,decide_eq_true_iff,E0];exact⟨⟨e,h⟩,λb o=>t b (by rw[j];exact List.mem_range.1 o)⟩
    rw[this] at a;exact a
theorem zr:(P.info? EI).map (λi=>(i.zero,i.size,i.bytes))=some (some (.int .u8 0),1,1):=by kernel_rfl
theorem Vp:P.underlying DL=some (.slice EI):=by kernel_rfl
theorem zt:P.underlying EI=some (.int .u8):=by kernel_rfl
theorem zu:P.underlying BK=some .string:=by kernel_rfl
theorem AQi {Q:al}{e:aa}{s:Sl}{ks:List A2M}{m:Nat}{G:A2L}(y:View Im e s ks)(R: ∀d∈ks,d.size<=1099511627776)(z:1<=m)(S:m<=8192)(ar:ks.length<=1099511627776)(g: ∀b,s.ag=some b->b<e.size)
  (T: ∀H,Ext e H->G (.tuple #[.string (AX (km ks m)),.int J9 0]) H):AA Q P OV #[.slice s.p s.len s.cap,.int J9 (m:Int)] e G:=by
 refine AEn ?_;unfold ZC;refine ai.mk λK U=>?_
 refine af.no (by simp;omega) ?_;refine U _ _ (af.no (by simp;omega) ?_);refine xu (E:=Hr) (x0:=0) (v:= .int .u8 0) Vp zr rfl rfl rfl (by omega) (by simp only[maxLen];omega) λI J t au=>?_
 have V:List.replicate m (0:UInt8)=Nb m:=rfl;rw[V] at J;dsimp only;refine Loop.rule (λk x n=> ∃i:Nat,x=((i:Int),())/\k=ks.length-i/\i<=ks.length/\Mod (λc=>c=e.size) I n/\Own Hr EI n ⟨some ⟨e.size,0,none⟩,m,m⟩ ((ks.take i).foldl (ZV m) (Nb m))) ?_ ⟨0,rfl,rfl,by omega,Mod.refl,J⟩;rintro av k _ n ⟨i,rfl,rfl,aw,u,o⟩ W;have X:View Im n s ks:=(y.ext t).mod u λb Y=>by have:=g b Y;omega
 dsimp only;refine af.intro (λp=>?_) (λp=>?_)
 ·have q:i<ks.length:=by rw[y.len] at p;simp at p;omega
  have A:ks[i]? =some ks[i]:=A2 q;refine X.idx A λa ax h=>?_
  refine AJ.mk h.str ?_;refine su (R _ (B9 q)) ⟨_,_,rfl,?_⟩;have L:ks.take (i+1)=ks.take i++ [ks[i]]:=by rw[AD,A];rfl
  generalize ks[i]=d at A L;have M:((ks.take i).foldl (ZV m) (Nb m)).length=m:=(Vs z (ks.take i) (Nb m) (by simp[Nb])).1;generalize Z:(ks.take i).foldl (ZV m) (Nb m)=w at o M;refine Loop.rule (λk x B=> ∃j:Nat,x=(((xK d j:Nat):Int),(j:Int),())/\k=4-j/\j<=4/\Mod (λc=>c=e.size) I B/\Own Hr EI B ⟨some ⟨e.size,0,none⟩,m,m⟩ ((List.range j).foldl (λf i=>gz f (cU d m i)) w)) ?_ ⟨0,by rw[xA];rfl,rfl,by omega,u,o⟩;rintro ay k _ B ⟨j,rfl,rfl,az,N,r⟩ ab;dsimp only;refine af.intro (λC=>?_) (λC=>?_)
  ·have D:j<4:=by simp at C;omega
   have aA:cU d m j<8*m:=rB z;have ac:xK d j % (8*m)=cU d m j:=rfl;rw[xw S,xC,ac,xD,xE,xF,wrap_u32,AE (show cU d m j / 8<4294967296 by omega)];have ad:((List.range j).foldl (λf i=>gz f (cU d m i)) w).length=m:=(U0 z _ w M).1;generalize ae:(List.range j).foldl (λf i=>gz f (cU d m i)) w=F at r ad;have ah:F[cU d m j / 8]? =some F[cU d m j / 8]:=A2 (by omega);obtain⟨c,h⟩: ∃c,F[cU d m j / 8]? =some c:=⟨_,ah⟩;refine⟨by omega,?_⟩;refine r.view.idx h λaC aD ag=>?_
   rw[As];refine AC.mk ag.byte ⟨by omega,?_⟩;refine r.view.idx h λO aj aE=>?_
   have ak:=AS6 c.toNat_lt (show cU d m j % 8<8 by omega);rw[ak];have am:=wX c.toNat_lt (show cU d m j % 8<8 by omega);rw[xy,Ab (by omega),<-add_zero (O.add (cU d m j / 8*1))];refine Own.store (E:=Hr) (i:=cU d m j / 8) (j:=0) (x:=c) (x':=Bl (c.toNat ||| 2^(cU d m j % 8))) (v:= .int .u8 ((c.toNat ||| 2^(cU d m j % 8):Nat):Int)) r h (by show [Value.int .u8 _]=_;rw[Dc am];rfl) (by decide) (λaF an ao aG=>?_) O aj;refine ab (4-(j+1)) _ _ (by omega) ⟨j+1,rfl,rfl,D,N.trans (ao.aj λb _ g=>?_),?_⟩
   ·simp[Sl.ag] at g;exact g.symm
   ·rw[N4,I3,ae,Is,N2];unfold gz;rw[h];exact an
  ·have D:j=4:=by simp at C;omega
   subst D;rw[Ab (by omega)];refine W (ks.length-(i+1)) _ _ (by omega) ⟨i+1,rfl,rfl,q,N,?_⟩;rw[L,I3,Z];exact r
 ·have q:i=ks.length:=by rw[y.len] at p;simp at p;omega
  have ap:ks.take i=ks:=by rw[q];simp
  rw[ap] at o;have aq:((ks.foldl (ZV m) (Nb m)))=km ks m:=rfl;rw[aq] at o;refine LA Vp zt zu (s:=⟨some ⟨e.size,0,none⟩,m,m⟩) (l:=km ks m) o.view ⟨_,rfl,?_⟩;exact T n ⟨by have:=t.size;have:=u.size;omega,λb g _=>(u.get b (by have:=t.size;omega) (by omega)).trans (t.get b g (by simp))⟩
end Go.Lf.G
namespace Go.Lf
open Go
structure MG (p:Pr):Prop where
 key:p.key.size≠0
 bI:p.key.size<=64
 cA:p.val.size<=8192
 gone:p.gone=true->p.val.size=0
def I4(p:Pr):Nat:=if p.gone then 0 else p.val.size+1
def I5(p:Pr):List UInt8:=BI (bl p.key)++(Bb (I4 p)++bl p.val)
abbrev BQ(l:List Pr):List UInt8:=l.flatMap I5
theorem Ub {s:A2M}(a:s.size=0):bl s= []:=DA (by rw[BB];exact a)
theorem wT {p:Pr}(a:MG p)(t:List UInt8):FL ⟨I5 p++t,false⟩=(bl p.key,⟨Bb (I4 p)++bl p.val++t,false⟩):=by
 have c:=a.bI;have b:I5 p++t=BI (bl p.key)++(Bb (I4 p)++bl p.val++t):=by simp[I5,A4]
 rw[b];exact Ij (by rw[BB];omega) _
theorem Zl {p:Pr}(a:MG p):I4 p<=8193:=by have:=a.cA;unfold I4;split<;>omega
theorem wU {p:Pr}(a:MG p)(t:List UInt8):CE 8193 ⟨Bb (I4 p)++bl p.val++t,false⟩=(I4 p,⟨bl p.val++t,false⟩):=by rw[A4];have:=Zl a;exact Co (by omega) this _
theorem wV {p:Pr}(a:MG p)(t:List UInt8):Ky (I4 p-1) ⟨bl p.val++t,false⟩=(bl p.val,⟨t,false⟩):=by
 have b:I4 p-1=(bl p.val).length:=by
  rw[BB];unfold I4;split
  ·rename_i c;rw[a.gone c]
  ·omega
 rw[b];exact yo _ _
theorem Qi {p:Pr}(a:MG p):1<=(I5 p).length/\(I5 p).length<=p.key.size+p.val.size+20:=by have b:=a.bI;have c:=a.cA;have d:=AV (n:=(bl p.key).length) (by rw[BB];omega);have e:=Zl a;have f:=AV (n:=I4 p) (by omega);have g:=a.key;have h:=BB p.key;have i:=BB p.val;simp only[I5,BI,A1];omega
end Go.Lf
namespace Go.Lf.G
open Go
theorem Gc:QZ P AR AQ BO.w 40=true:=by kernel_rfl
theorem ARq {e:al}{a:aa}{b:Nat}{c:Rd}{d:A2L}(f:Ir a b c)(g:d (J3 c.bad) a):AA e P LQ #[Ar b] a d:=by refine XK ?_;unfold QB;refine af.no rfl (aD ?_);exact AZ.mk (AB f rfl) g
theorem Vu {A:al}{h:aa}{s:A2M}{R:A2L}(b:s.size<=1099511627776)(c: ∀a,Ext h a->R (J7 (AX (BI (bl s)))) a):AA A P CB #[J7 s] h R:=by have:=PY (A:=A) (h:=h) (l:=bl s) (R:=R) (by rw[BB];exact b) c;rwa [EG] at this
theorem zw {a:Nat}(b:a<=1099511627776):J8 .u64 ((J8 .u64 (a:Int))+(1:Int))=((a+1:Nat):Int):=by rw[Bt (by omega),show((a:Int)+1)=((a+1:Nat):Int) by omega,Bt (by omega)]
theorem sv {s:A2M}(a:s.size=0):s=⟨#[]⟩:=by have:=EG s;rw[<- this,show s.data.toList= [] from Ub a];rfl
theorem Ap {a c:aa}{b:Nat}{d:Array J0}{T:Q7}(x:Ext a c)(e:a[b]? =some (J2 d T (0,0))):c[b]? =some (J2 d T (0,0)):=x.ag e (λa=>a)
theorem AOy {l:al}{e:aa}{x:Pr}{f:A2L}(h:MG x)(m: ∀o,Ext e o->f (J7 (AX (I5 x))) o):AA l P OM #[x.agg] e f:=by
 obtain⟨a,v,g⟩:=x;have r:=h.bI;have s:=h.cA;have p:=h.gone;dsimp only at r s p;show AA l P OM #[.agg #[J7 a,J7 v,J3 g]] e f;refine AEk ?_;unfold X9;refine ao.mk λz _ b q A=>?_
 refine AZ.mk (AB b rfl) ?_;have B:=AV (n:=(bl a).length) (by rw[BB];omega);have C:=BB a;have D:=BB v;refine af.intro (λi=>?_) (λi=>?_)
 ·subst i;refine AJ.mk (AL b rfl) ?_;refine Vu (by omega) λt c=>⟨_,rfl,?_⟩
  refine CU (n:=0) (by omega) λu d=>⟨_,rfl,?_⟩
  have w:=AV (n:=0) (by omega);refine⟨by rw[AP,AP,max_i64];simp only[BI,A1];omega,?_⟩;rw[Ao];have j:I5 ⟨a,v,true⟩=BI (bl a)++Bb 0:=by unfold I5 I4;rw[Ub (p rfl)];simp
  rw[<- j];exact m _ ((q.trans c).trans d)
 ·subst i;refine AJ.mk (AL b rfl) (AJ.mk (AB b rfl) (AJ.mk (AB b rfl) ?_));refine Vu (by omega) λt c=>⟨_,rfl,?_⟩
  have k:=Ap c b;refine⟨AB k rfl,AB k rfl,?_⟩;rw[zw (by omega)];refine CU (by omega) λu d=>⟨_,rfl,?_⟩
  have y:=Ap d k;have w:=AV (n:=v.size+1) (by omega);refine⟨AB y rfl,by rw[AP,AP,max_i64];simp only[BI,A1];omega,?_,?_⟩
  ·rw[Ao,AP,max_i64];simp only[BI,A1];omega
  ·rw[Ao];have j:AX (BI (bl a)++Bb (v.size+1))++v=AX (I5 ⟨a,v,false⟩):=by
    have:v=AX (bl v):=(EG v).symm
    conv=>lhs;arg 2;rw[this]
    rw[Ao];unfold I5 I4;simp[A4]
   rw[j];exact m _ ((q.trans c).trans d)
theorem zx {s:A2M}(a:s.size≠0):bR s (⟨#[]⟩:A2M)=false:=by rw[X0,decide_eq_false_iff_not];intro b;have:=BB s;rw[b] at this;exact a this.symm
theorem zy {a:Nat}(b:a<=100000):(if((J8 J9 (((a:Nat):Int)-(1:Int))):Int)>0 then(J8 J9 (((a:Nat):Int)-(1:Int))) else 0)=((a-1:Nat):Int):=by rw[wrap_i64 (by omega) (by omega)];split<;>omega
theorem Zm {l:List Pr}(a: ∀x∈l,MG x):l.length<=(BQ l).length:=by
 induction l with
 |nil=>simp
 |cons x l b=>
  have:=(Qi (a x CH)).1;have:=b λc d=>a c (AH _ d)
  simp only[BQ,AF,A1,A6] at this ⊢;omega
theorem sw {ag:al}{c:aa}{l:List Pr}{I:A2L}(J: ∀x∈l,MG x)(aN:(BQ l).length<1099511627776)
  (ah: ∀s z,Own BO AQ z s l->Ext c z->(∀ b,s.ag=some b->c.size<=b)->I (J1 #[J4 s.p s.len s.cap,J3 true]) z):AA ag P KW #[J7 (AX (BQ l))] c I:=by
 refine ADh ?_;unfold We;refine KP λaO aj ak=>⟨_,rfl,?_⟩
 have aP:=Zm J;refine Loop.rule (λm x f=> ∃(i:Nat) (s:Sl),x=(s,())/\m=l.length-i/\i<=l.length/\Ir f c.size ⟨BQ (l.drop i),false⟩/\Ext c f/\Own BO AQ f s (l.take i)/\ ∀b,s.ag=some b->c.size<=b) ?_ ⟨0,⟨none,0,0⟩,rfl,rfl,by omega,aj,ak,Own.nil,λb a=>by simp[Sl.ag] at a⟩;rintro K m _ f ⟨i,s,rfl,rfl,aQ,rd,t,p,A⟩ am;dsimp only;refine Mg rd ⟨_,rfl,?_⟩;by_cases g:i<l.length
 ·have L:l[i]? =some l[i]:=A2 g;have M:l[i]∈l:=B9 g;have hd:l.drop i=l[i]::l.drop (i+1):=Fo g;have N:l.take (i+1)=l.take i++ [l[i]]:=by rw[AD,L];rfl
  generalize l[i]=x at L M hd N;have h:=J x M;have O:BQ (l.drop i)=I5 x++BQ (l.drop (i+1)):=by rw[hd];rfl
  have Q:(I5 x++BQ (l.drop (i+1))).length<1099511627776:=by
   have e:BQ l=BQ (l.take i)++BQ (l.drop i):=by rw[<- Ft,DO]
   have:=congrArg List.length e;rw[O,A1] at this;omega
  have aR:=Qi h;rw[O] at rd ⊢;refine af.yes ?_ ?_
  ·unfold Sg;have:(I5 x++BQ (l.drop (i+1)))≠ []:=by intro e;have:=congrArg List.length e;simp only[A1,GP] at this;omega
   simp only[Ln,G3,CI,List.isEmpty_eq_false_iff];exact this
  ·refine Hm rd Q λd u B=>⟨_,rfl,?_⟩
   rw[wT h] at u ⊢;dsimp only at u ⊢;rw[EG];refine ao.mk λan _ ap R aS=>?_
   refine ae.mk ap (by simp) λaT aq S aU=>?_
   rw[Bf,Bf];refine ae.mk aq (by simp) λaV ar T aW=>?_
   refine ae.mk ar (by simp) λau av U aX=>?_
   have aY:c.size<d.size:=by have:=Aj u;exact this
   have j:c.size≠d.size:=by omega
   have aw:Ir au c.size ⟨Bb (I4 x)++bl x.val++BQ (l.drop (i+1)),false⟩:=U.ag (T.ag (S.ag (R.ag u (λc=>c)) j) j) j;have ax:(Bb (I4 x)++bl x.val++BQ (l.drop (i+1))).length<=1099511627776:=by simp only[I5,A1] at Q ⊢;omega
   refine De (most:=8193) aw ax (by decide) λC v V=>⟨_,rfl,?_⟩
   rw[wU h] at v ⊢;dsimp only at v ⊢;have W:C[d.size]? =some (J2 #[J7 x.key,J7 ⟨#[]⟩,J3 false] AQ (0,0)):=V.ag (by simpa using av) (Ne.symm j);refine ai.mk λay az=>?_
   have aZ:=Zl h;have key: ∀q,Ir q c.size ⟨bl x.val++BQ (l.drop (i+1)),false⟩->q[d.size]? =some (J2 #[J7 x.key,J7 ⟨#[]⟩,J3 x.gone] AQ (0,0))->Mod (λb=>b=c.size\/b=d.size) d q->ay () q:=by
    intro q aA aC aD;refine az () q ?_;rw[zy (by omega)];refine rV aA λa0 D X=>⟨_,rfl,?_⟩
    rw[wV h] at D ⊢;dsimp only at D ⊢;rw[EG];have aE:=X.ag aC (Ne.symm j);refine ae.mk aE (by simp) λr k Y a1=>?_
    have F:Ir r c.size ⟨BQ (l.drop (i+1)),false⟩:=Y.ag D j;have k:r[d.size]? =some (J2 #[J7 x.key,J7 x.val,J3 x.gone] AQ (0,0)):=by simpa using k
    refine ai.mk λa2 aF=>?_
    refine ARq F ⟨_,rfl,?_⟩;refine af.no rfl ?_;refine AJ.mk (AL k rfl) ?_;refine af.no (zx h.key) ?_;refine AJ.mk (AL k rfl) ?_;have a3:=h.bI;refine aF _ _ (af.no (by simp;omega) ?_);refine AJ.mk (AL k rfl) ?_;refine AJ.mk (AL k rfl) ?_;refine AZ.mk (AL k rfl) ?_;have w:Mod (λb=>b=c.size\/b=d.size) f r:=by
     have G:Mod (λb=>b=c.size\/b=d.size) f d:=B.aj λb _ a=> .inl a
     exact((G.trans aD).trans (X.aj λb _ a=> .inl a)).trans (Y.aj λb _ a=> .inr a)
    have Z: ∀b,s.ag=some b-> ¬(b=c.size\/b=d.size):=by
     intro b a;have a4:=p.lt a;have aG:=B.size;rintro(rfl|rfl)
     ·exact p.ne rd (by decide) a
     ·omega
    refine ao.aZ (E:=BO) (x:=x) rfl Gc (p.mod w Z) ?_ ?_ λaH a5 ab H aI a6=>?_
    ·rw[An];omega
    ·simp only[maxLen];rw[An];omega
    ·rw[<- N] at ab;have y:Ext c r:=by refine⟨by have:=t.size;have:=w.size;omega,λb a _=>?_⟩;have aG:=B.size;have:=t.size;exact(w.get b (by omega) (by omega)).trans (t.get b a (λc=>c))
     refine am (l.length-(i+1)) _ _ (by omega) ⟨i+1,aH,rfl,rfl,g,?_,?_,ab,?_⟩
     ·refine H.ag F λe=>?_
      have:Own BO AQ r s (l.take i):=p.mod w Z;exact this.ne F (by decide) e
     ·refine⟨by have:=y.size;have:=H.size;omega,λb a _=>?_⟩;have:=y.size;exact(H.get b (by omega) (λe=>by have:=A b e;omega)).trans (y.get b a (λc=>c))
     ·intro b a;rcases aI b a with e|e
      ·exact A b e
      ·have:=y.size;omega
   have ac:Mod (λb=>b=c.size\/b=d.size) d C:=by have G:Mod (λb=>b=c.size\/b=d.size) d an:=R.mod;exact(((G.trans (S.aj λb _ a=> .inr a)).trans (T.aj λb _ a=> .inr a)).trans (U.aj λb _ a=> .inr a)).trans (V.aj λb _ a=> .inl a)
   refine af.intro (λn=>?_) (λn=>?_)
   ·have o:x.gone=true:=by
     unfold I4 at n;split at n
     ·rename_i o;exact o
     ·simp at n;omega
    refine ae.mk W (by simp) λaJ aK ad a7=>?_
    refine key aJ (ad.ag v j) (by rw[o];simpa using aK) (ac.trans (ad.aj λb _ a=> .inr a))
   ·have o:x.gone=false:=by
     cases o:x.gone with
     |false=>rfl
     |true=>unfold I4 at n;rw[o] at n;simp at n
    exact key C v (by rw[o];exact W) ac
 ·have g:i=l.length:=by omega
  have aL:l.drop i= []:=by rw[g];simp
  have aM:l.take i=l:=by rw[g];simp
  rw[aL];rw[aM] at p;exact af.no rfl (ah s f p t A)
def BZ(a:Nat)(l:List Pr):List UInt8:=Bb a++Bb l.length++BQ l
theorem MN {l:List Pr}(b: ∀x∈l,MG x):(BQ l).length<=l.length*8276:=by
 induction l with
 |nil=>simp
 |cons x l c=>
  have a:=b x CH;have f:=(Qi a).2;have g:=a.bI;have h:=a.cA;have:=c λd e=>b d (AH _ e)
  simp only[BQ,AF,A1,A6] at this ⊢;omega
theorem ARz {l:List Pr}(a: ∀x∈l,MG x)(i:Nat): ∀x∈l.take i,MG x:=λx b=>a x (Cd b)
theorem APS {D:al}{f:aa}{s:Sl}{l:List Pr}{c:Nat}{t:A2L}(X:c<=99999999)(Y:l.length<=64)(u: ∀x∈l,MG x)(v:View BO f s l)(Z: ∀b,s.ag=some b->b<f.size)
  (E: ∀d,Ext f d->t (J7 (AX (BZ c l))) d):AA D P Tz #[J6 J9 (c:Int),J4 s.p s.len s.cap] f t:=by
 refine AHO ?_;unfold uM;rw[Bt (by omega)];refine CU (by omega) λab F=>⟨_,rfl,?_⟩
 rw[v.len,Bt (by omega)];refine CU (by omega) λac G=>⟨_,rfl,?_⟩
 have ad:=AV (n:=c) (by omega);have ae:=AV (n:=l.length) (by omega);refine⟨by rw[AP,AP,max_i64];omega,?_⟩;rw[Ao];refine Loop.rule (λm x o=> ∃i:Nat,x=(AX (Bb c++Bb l.length++BQ (l.take i)),(i:Int),())/\m=l.length-i/\i<=l.length/\Ext f o) ?_ ⟨0,by simp,rfl,by omega,F.trans G⟩;rintro K m _ o ⟨i,rfl,rfl,ag,p⟩ H;dsimp only;refine af.intro (λq=>?_) (λq=>?_)
 ·have e:i<l.length:=by simp at q;omega
  have r:l[i]? =some l[i]:=A2 e;have w:l.take (i+1)=l.take i++ [l[i]]:=by rw[AD,r];rfl
  have h:=u _ (B9 e);generalize l[i]=x at r w h;have ah:=h.bI;have aj:=h.cA;have I:=h.gone;have lt:=MN (ARz u i);rw[An] at lt;have ak:=AV (n:=(bl x.key).length) (by rw[BB];omega);have am:=BB x.key;have an:=BB x.val;refine ai.mk λJ L=>?_
  obtain⟨a,M,N⟩:=(v.ext p).cells i x r;refine bE.mk M e ?_;obtain⟨O,c1,c2⟩:=N.pair;rw[As];refine AJ.mk O (AJ.mk c1 (AZ.mk c2 ?_));refine ao.pair λb ap aq y Q ar=>?_
  refine AJ.mk (AL y rfl) ?_;refine Vu (by omega) λR z=>⟨_,rfl,⟨by rw[AP,AP,max_i64];simp only[BI,A1];omega,?_⟩⟩
  have j:=Ap z y;refine AZ.mk (AB j rfl) ?_;rw[Ao];have A: ∀d,Ext R d->J (AX (Bb c++Bb l.length++BQ (l.take (i+1))),()) d:=by intro d S;refine L _ _ ?_;dsimp only;rw[Ab (by omega)];exact H (l.length-(i+1)) _ _ (by omega) ⟨i+1,rfl,rfl,e,((p.trans Q).trans z).trans S⟩
  have B:BQ (l.take (i+1))=BQ (l.take i)++I5 x:=by rw[w];simp[BQ]
  refine af.intro (λk=>?_) (λk=>?_)
  ·refine CU (n:=0) (by omega) λT U=>⟨_,rfl,?_⟩
   have V:=AV (n:=0) (by omega);refine⟨by rw[AP,AP,max_i64];simp only[BI,A1];omega,?_⟩;rw[Ao];have g:I5 x=BI (bl x.key)++Bb 0:=by unfold I5 I4;rw[k,Ub (I k)];simp
   have:=A T U;rw[B,g] at this;simpa only[A4] using this
  ·refine AJ.mk (AB j rfl) (AJ.mk (AB j rfl) ?_);rw[zw (by omega)];refine CU (by omega) λW C=>⟨_,rfl,?_⟩
   have V:=AV (n:=x.val.size+1) (by omega);refine⟨AB (Ap C j) rfl,?_,?_,?_⟩
   ·rw[AP,max_i64];omega
   ·have au:x.val=AX (bl x.val):=(EG _).symm;rw[HA,AP,AP,max_i64];simp only[BI,A1];omega
   ·have g:AX (Bb (x.val.size+1))++x.val=AX (Bb (I4 x)++bl x.val):=by
     conv=>lhs;arg 2;rw[(EG x.val).symm]
     rw[Ao];unfold I4;rw[k];rfl
    rw[g,Ao];have:=A W C;rw[B] at this;unfold I5 at this;simpa only[A4] using this
 ·have e:i=l.length:=by simp at q;omega
  have g:l.take i=l:=by rw[e];simp
  rw[g];exact E o p
theorem AKW {ah:al}{c:aa}{l:List Pr}{o:Nat}{I:A2L}(aM:o<=99999999)(aN:l.length<=64)(J: ∀x∈l,MG x)
  (ai: ∀s y,Own BO AQ y s l->Ext c y->(∀ b,s.ag=some b->c.size<=b)->I (J1 #[J6 J9 (o:Int),J4 s.p s.len s.cap,J3 true]) y):AA ah P QT #[J7 (AX (BZ o l))] c I:=by
 refine AEa ?_;unfold XC;have aO:=AV (n:=o) (by omega);have aP:=AV (n:=l.length) (by omega);have aQ:=MN J;refine KP λaR L z=>⟨_,rfl,?_⟩
 have A:BZ o l=Bb o++(Bb l.length++BQ l):=by simp[BZ,A4]
 rw[A] at L;refine De (most:=99999999) L (by simp only[A1];omega) (by decide) λd e g=>⟨_,rfl,?_⟩
 rw[Co (by omega) (by omega)] at e ⊢;dsimp only at e ⊢;refine De (most:=64) e (by simp only[A1];omega) (by decide) λaj B M=>⟨_,rfl,?_⟩
 rw[Co (by omega) (by omega)] at B ⊢;dsimp only at B ⊢;have ak:Ext c aj:=by refine⟨by have:=z.size;have:=g.size;have:=M.size;omega,λb a _=>?_⟩;have:=z.size;have:=g.size;exact((M.get b (by omega) (by omega)).trans (g.get b (by omega) (by omega))).trans (z.get b a (λc=>c))
 refine Loop.rule (λm x h=> ∃(i:Nat) (s:Sl),x=(s,(i:Int),())/\m=l.length-i/\i<=l.length/\Ir h c.size ⟨BQ (l.drop i),false⟩/\Ext c h/\Own BO AQ h s (l.take i)/\ ∀b,s.ag=some b->c.size<=b) ?_ ⟨0,⟨none,0,0⟩,rfl,rfl,by omega,B,ak,Own.nil,λb a=>by simp[Sl.ag] at a⟩;rintro K m _ h ⟨i,s,rfl,rfl,aS,rd,t,p,C⟩ am;dsimp only;refine af.intro (λD=>?_) (λD=>?_)
 ·have j:i<l.length:=by simp at D;omega
  have N:l[i]? =some l[i]:=A2 j;have O:l[i]∈l:=B9 j;have hd:l.drop i=l[i]::l.drop (i+1):=Fo j;have Q:l.take (i+1)=l.take i++ [l[i]]:=by rw[AD,N];rfl
  generalize l[i]=x at N O hd Q;have u:=J x O;have R:BQ (l.drop i)=I5 x++BQ (l.drop (i+1)):=by rw[hd];rfl
  have S:(I5 x++BQ (l.drop (i+1))).length<1099511627776:=by
   have f:BQ l=BQ (l.take i)++BQ (l.drop i):=by rw[<- Ft,DO]
   have:=congrArg List.length f;rw[R,A1] at this;omega
  rw[R] at rd;refine Hm rd S λd e g=>⟨_,rfl,?_⟩
  rw[wT u] at e ⊢;dsimp only at e ⊢;rw[EG];refine ao.mk λan _ ap T aT=>?_
  refine ae.mk ap (by simp) λaU aq U aV=>?_
  rw[Bf,Bf];refine ae.mk aq (by simp) λaW ar V aX=>?_
  refine ae.mk ar (by simp) λau av W aY=>?_
  have aZ:c.size<d.size:=by have:=Aj e;exact this
  have k:c.size≠d.size:=by omega
  have aw:Ir au c.size ⟨Bb (I4 x)++bl x.val++BQ (l.drop (i+1)),false⟩:=W.ag (V.ag (U.ag (T.ag e (λc=>c)) k) k) k;have ax:(Bb (I4 x)++bl x.val++BQ (l.drop (i+1))).length<=1099511627776:=by simp only[I5,A1] at S ⊢;omega
  refine De (most:=8193) aw ax (by decide) λay F X=>⟨_,rfl,?_⟩
  rw[wU u] at F ⊢;dsimp only at F ⊢;have az:ay[d.size]? =some (J2 #[J7 x.key,J7 ⟨#[]⟩,J3 false] AQ (0,0)):=X.ag (by simpa using av) (Ne.symm k);have a0:=Zl u;have aA:(((I4 x:Nat):Int)==(0:Int))=x.gone:=by
   unfold I4;cases x.gone
   ·simp;omega
   ·simp
  rw[aA];refine ae.mk az (by simp) λaC aD Y a1=>?_
  rw[zy (by omega)];have aE:Ir aC c.size ⟨bl x.val++BQ (l.drop (i+1)),false⟩:=Y.ag F k;refine rV aE λa2 G Z=>⟨_,rfl,?_⟩
  rw[wV u] at G ⊢;dsimp only at G ⊢;rw[EG];have aF:=Z.ag aD (Ne.symm k);refine ae.mk aF (by simp) λq r ab a3=>?_
  have ac:Ir q c.size ⟨BQ (l.drop (i+1)),false⟩:=ab.ag G k;have r:q[d.size]? =some (J2 #[J7 x.key,J7 x.val,J3 x.gone] AQ (0,0)):=by simpa using r
  refine AJ.mk (AL r rfl) ?_;refine AJ.mk (AL r rfl) ?_;refine AZ.mk (AL r rfl) ?_;have v:Mod (λb=>b=c.size\/b=d.size) h q:=by
   have aG:Mod (λb=>b=c.size\/b=d.size) h d:=g.aj λb _ a=> .inl a
   have aH:Mod (λb=>b=c.size\/b=d.size) d an:=T.mod;exact((((((((aG.trans aH).trans (U.aj λb _ a=> .inr a)).trans (V.aj λb _ a=> .inr a)).trans (W.aj λb _ a=> .inr a)).trans (X.aj λb _ a=> .inl a)).trans (Y.aj λb _ a=> .inr a)).trans (Z.aj λb _ a=> .inl a))).trans (ab.aj λb _ a=> .inr a)
  have ad: ∀b,s.ag=some b-> ¬(b=c.size\/b=d.size):=by
   intro b a;have a4:=p.lt a;have aI:=g.size;rintro(rfl|rfl)
   ·exact p.ne rd (by decide) a
   ·omega
  refine ao.aZ (E:=BO) (x:=x) rfl Gc (p.mod v ad) ?_ ?_ λaJ a5 ag H aK a6=>?_
  ·rw[An];omega
  ·simp only[maxLen];rw[An];omega
  ·rw[<- Q] at ag;have w:Ext c q:=by refine⟨by have:=t.size;have:=v.size;omega,λb a _=>?_⟩;have aI:=g.size;have:=t.size;exact(v.get b (by omega) (by omega)).trans (t.get b a (λc=>c))
   rw[Ab (by omega)];refine am (l.length-(i+1)) _ _ (by omega) ⟨i+1,aJ,rfl,rfl,j,?_,?_,ag,?_⟩
   ·refine H.ag ac λf=>?_
    have:Own BO AQ q s (l.take i):=p.mod v ad;exact this.ne ac (by decide) f
   ·refine⟨by have:=w.size;have:=H.size;omega,λb a _=>?_⟩;have:=w.size;exact(H.get b (by omega) (λf=>by have:=C b f;omega)).trans (w.get b a (λc=>c))
   ·intro b a;rcases aK b a with f|f
    ·exact C b f
    ·have:=w.size;omega
 ·have j:i=l.length:=by simp at D;omega
  have A:l.drop i= []:=by rw[j];simp
  have aL:l.take i=l:=by rw[j];simp
  rw[A] at rd;rw[aL] at p;refine Mg rd ⟨_,rfl,?_⟩;exact ai s h p t C
end Go.Lf.G
namespace Go.Lf
open Go
def CK(l:List Pr)(i:Nat):List Pr:=(l.drop (8*i)).take 8
def Br(l:List Pr):Nat:=(l.length+7) / 8
def LJ(l:List Pr):List (List Pr):=(List.range (Br l)).map (CK l)
def JD(l:List Pr)(i:Nat):A2M:=match l[i]? with|some p=>p.key|none=>⟨#[]⟩
def CV(l:List Pr):List A2M:=(List.range (Br l)).map λi=>JD l (8*i)
def WI(l:List Pr)(f:List UInt8):List UInt8:=Bb (Br l)++((CV l).flatMap λa=>BI (bl a))++(Bb l.length++BI f)
def aT(l:List Pr)(f:List UInt8):List (List UInt8):=(LJ l).map BQ++ [WI l f]
theorem RA {l:List Pr}{i:Nat}(a:i<Br l):1<=(CK l i).length/\(CK l i).length<=8/\(i+1<Br l->(CK l i).length=8):=by
 unfold CK Br at*
 rw[An,Cp];omega
theorem Qg {l:List Pr}{i j:Nat}(a:j<8):(CK l i)[j]? =l[8*i+j]? :=by unfold CK;rw[Fc,if_pos a,C5]
theorem wY {l:List Pr}: ∀i,l.take (8*i)++CK l i=l.take (8*(i+1)):=λi=>by
 unfold CK;rw[show 8*(i+1)=8*i+8 by omega,List.take_add]
theorem wZ(l:List Pr): ∀n,((List.range n).map (CK l)).flatten=l.take (8*n)
 |0=>by simp
 |n+1=>by rw[N4,C2,N5,wZ l n];simpa using wY n
theorem ANK(l:List Pr):(LJ l).flatten=l:=by unfold LJ;rw[wZ,Ax];unfold Br;omega
theorem JM(l:List Pr):(LJ l).length=Br l:=by simp[LJ]
theorem II(l:List Pr):(CV l).length=Br l:=by simp[CV]
theorem xf {l:List Pr}(a:l≠ []):1<=Br l:=by have:=List.length_pos_iff.2 a;unfold Br;omega
structure hG (s:List UInt8) (l:List Pr) (f:List UInt8):Prop where
 bytes:s=aI (aT l f)
 ne:l≠ []
 ok: ∀p∈l,MG p
 inc:l.Pairwise λp q=>aO p.key q.key=true
 jB:1<=f.length/\f.length<=8192
 has: ∀p∈l,gZ f p.key=true
 many:l.length<=100000
theorem Zm {l:List Pr}(a: ∀p∈l,MG p):(BQ l).length<=l.length*8276:=by
 induction l with
 |nil=>simp
 |cons p l b=>
  have f:=(Qi (a p (by simp))).2;have c:=b λd e=>a d (AH _ e)
  have g:=(a p (by simp)).bI;have h:=(a p (by simp)).cA;simp only[BQ,AF,A1,A6] at c ⊢;omega
theorem QA {l:List Pr}{i:Nat}{p:Pr}(a:p∈CK l i):p∈l:=Hj (Cd a)
theorem Ya {s:List UInt8}{l:List Pr}{f:List UInt8}(T:hG s l f):(WI l f).length<=1048576:=by
 have r:=T.many;have t:=T.jB.2;have u:=AV (n:=Br l) (by unfold Br;omega);have v:=AV (n:=l.length) (by omega);have w:=AV (n:=f.length) (by omega);have c: ∀a∈CV l,a.size<=64:=λa c=>by
  obtain⟨i,_,rfl⟩:=List.mem_map.1 c;unfold JD;split
  ·rename_i p e;exact(T.ok p (AM e)).bI
  ·exact A5 _
 have g: ∀b:List A2M,(∀ a∈b,a.size<=64)->(b.flatMap λa=>BI (bl a)).length<=b.length*65:=by
  intro b
  induction b with
  |nil=>intro _;simp
  |cons a b h=>
   intro d;have j:=h λx k=>d x (AH _ k)
   have y:=d a (by simp);have m:(Bb a.size).length=1:=by rw[Fp (by omega)];rfl
   have o:(BI (bl a)).length=1+a.size:=by simp only[BI,A1,BB,m]
   simp only[AF,A1,A6,o] at j ⊢;omega
 have q:=g (CV l) c;rw[II] at q;have z:Br l<=12501:=by unfold Br;omega
 have A:(BI f).length=(Bb f.length).length+f.length:=by simp[BI]
 simp only[WI,A1];omega
theorem OD {s:List UInt8}{l:List Pr}{f:List UInt8}(T:hG s l f): ∀c∈aT l f,c.length<=1048576:=λc a=>by
 rcases List.mem_append.1 a with a|a
 ·obtain⟨b,d,rfl⟩:=List.mem_map.1 a;obtain⟨i,e,rfl⟩:=List.mem_map.1 d;have j:=Zm (l:=CK l i) λp g=>T.ok p (QA g)
  have h:=(RA (List.mem_range.1 e)).2.1;have:(CK l i).length*8276<=8*8276:=AN _ h;omega
 ·rw[List.mem_singleton.1 a];exact Ya T
def xk(s:Sl):J0:=J4 s.p s.len s.cap
def rC(x:Sl):iQ [.one .sl]:=(x,())
def xG(j:al)(P:Q1)(fv:J0)(m:Nat->Prop)(n:aa)(l:List Sl):Prop:=
 ∃f e,fv= .func (.func f) #[] e/\(∀ a,(callFunc f (#[]++ #[a]++e)).calc P=some (.enter f (#[]++ #[a]++e)))/\
  ∀(k:aa) (a:J0) (c:Nat->Bool->aa->Prop),MS a=true->(∀ i g d,c i g d-> ∀b,m b->d[b]? =n[b]?)->
   (∀ i x d,l[i]? =some x->c i true d->Em j P a #[xk x] d λv h=> ∃g,v=J3 g/\c (i+1) g h)->c 0 true k->
   AA j P f (#[]++ #[a]++e) k λv h=>v=J1 #[]/\ ∃i g,c i g h/\(g=true->i=l.length)/\i<=l.length
theorem ATX {o:al}{P:Q1}{fv:J0}{p:Nat->Prop}{q c:aa}{l:List Sl}(z:xG o P fv p q l)
  (Inv:Nat->aa->Prop) {body:iQ [.one .sl]->Nat->aa->(aa->Prop)->(Option Nat->aa->Prop)->Prop} {r:aa->Prop} {A:Option Nat->aa->Prop}
  (B: ∀i a,Inv i a-> ∀b,p b->a[b]? =q[b]?)
  (s: ∀i a C,Inv i a->a[c.size]? =some (.deferred (some []))->(∃ D,a[c.size+1]? =some (.loop D))->Inv i (a.setIfInBounds (c.size+1) (.loop C)))
  (E: ∀rec,Inv 0 ((c.push (.deferred (some []))).push (.loop rec)))
  (round: ∀i x a rec t F,l[i]? =some x->Inv i a->a[c.size]? =some (.deferred (some []))->a[c.size+1]? =some (.loop rec)->rec.state= .ready->
   (∀ d,Inv (i+1) d->d[c.size]? =some (.deferred (some []))->d[c.size+1]? =some (.loop {rec with state:= .busy})->t d)->body (rC x) (c.size+1) a t F)
  (G: ∀d,Inv l.length d->d[c.size]? =some (.deferred (some []))->r d):Xc o P fv [.one .sl] body c r A:=by
 intro rec h k S H;obtain⟨f,u,rfl,I,J⟩:=z;refine⟨f,_,?_,AA.mono (J ((c.push (.deferred (some []))).push (.loop rec)) (.func (.yield (c.size+1)) #[] #[])
  (λi g a=>Inv i a/\g=true/\a[c.size]? =some (.deferred (some []))/\a[c.size+1]? =some (.loop rec)) rfl (λi g a K=>B i a K.1) ?_ ?_) ?_⟩
 ·have L:(do let w <-Deferred.ofValue (.func (.func f) #[] u) #[.func (.yield (c.size+1)) #[] #[]];invoke w.target w.args:Sem Next).calc P=(callFunc f (#[]++ #[.func (.yield (c.size+1)) #[] #[]]++u)).calc P:=rfl;unfold TG;rw[L,I]
 ·rintro i x a M ⟨m,_,j,e⟩;refine H (rC x) a _ e (round i x a rec _ _ M m j e h ?_);intro d N y n;have O:c.size+1<d.size:=Aj n;refine⟨_,n,true,rfl,s _ _ _ N y ⟨_,n⟩,rfl,?_,?_⟩
  ·rw[DQ (by omega)];exact y
  ·rw[Cf O];cases rec;simp at h k;simp[h,k]
 ·refine⟨E rec,rfl,?_,?_⟩
  ·rw[Pc (by simp)];simp
  ·have Q:c.size+1=(c.push (.deferred (some []))).size:=by simp
   rw[Q];exact Pl
 ·rintro v T ⟨_,i,g,⟨m,rfl,j,e⟩,R,U⟩;refine⟨rec,e,by simp[h],.inl ⟨k,G _ ?_ ?_⟩⟩
  ·have:=R rfl;subst this;exact s _ _ _ m j ⟨_,e⟩
  ·rw[DQ (by omega)];exact j
end Go.Lf
namespace Go.Lf.G
open Go
def U8(a:aa)(c:Nat):Prop:= ∃b d,a[c]? =some (J2 b EI d)
def fU(a:Nat)(c:aa)(b:Nat)(l:List UInt8):Prop:= ∀(d:al) (e:Nat),Lib.IsBuilderF Ee EI a b (Lib.byteCells l) (d.at c e)
theorem zz {A:al}{n a b:Nat}{c:aa}{l:List UInt8}(d:Lib.IsBuilderF Ee EI a b (Lib.byteCells l) (A.at c n)):fU a c b l:=λ_ _=>d
theorem WP {g:al}{a:aa}{j e b:Nat}{d:World}(hB:e<=a.size)(n:RowKit.Below e (g.at a j) d)(o:Lib.OthersKept EI (some b) (g.at a j) d):
  d=g.at d.heap d.drawn/\Mod (λc=>c=b\/(e<=c/\U8 a c)) a d.heap:=by
 obtain⟨f,k,l,p,q⟩:=n;refine⟨?_,⟨p,λc r m=>?_⟩⟩
 ·cases d;simp only[al.at] at f k l ⊢;subst f k l;rfl
 ·by_cases s:c<e
  ·exact q c s
  ·have h:a[c]? =some a[c]:=FA r;have f:=o c a[c] h (by intro i;exact m (.inl (BE i))) (λt u i=>m (.inr ⟨by omega,t,u,by rw[h,i]⟩));rw[f];exact h.symm
theorem fU.mod {a b:Nat}{e f:aa}{l:List UInt8}{h:Nat->Prop}(t:fU a e b l)(m:Mod h e f)(u: ¬h b)(w: ∀c,a<=c->U8 e c-> ¬h c):fU a f b l:=by
 intro i j;have n: ∀p,Lib.BuilderAtF Ee EI a b p (Lib.byteCells l) (i.at e j)->Lib.BuilderAtF Ee EI a b p (Lib.byteCells l) (i.at f j):=by
  rintro p ⟨d,v,x,⟨y,k⟩,z⟩;refine⟨d,v,m.ag x u,⟨y,?_⟩,z⟩;rcases k with k|⟨g,A,o,q,B,r,s,rest⟩
  ·exact .inl k
  ·exact .inr ⟨g,A,o,q,B,r,m.ag s (w g r ⟨o,q,s⟩),rest⟩
 rcases t i j with d|d
 ·exact .inl (n _ d)
 ·exact .inr (n _ d)
theorem fU.ext {c b:Nat}{a d:aa}{l:List UInt8}(e:fU c a b l)(m:Ext a d):fU c d b l:=e.mod m (λa=>a) (λ_ _ _ a=>a)
theorem AQl {a b:Nat}{c:aa}(d:c[b]? =some (J2 #[J5 none,J4 none 0 0] Ee (0,0)))(hB:a<=b):fU a c b []:=by intro e f;exact .inl ⟨hB,_,d,⟨rfl,.inl ⟨rfl,rfl⟩⟩,by simp[Value.ownBlock]⟩
theorem VE {A:al}{a:aa}{d b:Nat}{l:List UInt8}{s:A2M}{g:A2L}(j:fU d a b l)(hB:d<=a.size)(q:l.length+s.size<=1099511627776)
  (k: ∀e,fU d e b (l++bl s)->Mod (λc=>c=b\/(d<=c/\U8 a c)) a e->g (J1 #[J6 J9 s.size,.nilIface]) e):AA A P Du #[Ar b,J7 s] a g:=by
 intro n;refine Calls.mono (Proofs.Any.Builder_WriteString_k Proofs.Tryz.iG Proofs.Tryz.dT d b (Lib.byteCells l) s (A.at a n) (j A n) (by rw[Lib.byteCells_length];omega) hB) ?_;rintro r f ⟨rfl,h,o,p⟩;obtain⟨i,m⟩:=WP hB o p;refine⟨_,rfl,f.heap,f.drawn,i,k _ ?_ m⟩;rw[Lib.strCells_eq,<-Lib.byteCells_append,i] at h;exact zz (A:=A) (n:=f.drawn) (.inr h)
theorem AKA {A:al}{a:aa}{d b:Nat}{l:List UInt8}{g:A2L}(j:fU d a b l)(hB:d<=a.size)
  (k: ∀e,fU d e b l->Mod (λc=>c=b\/(d<=c/\U8 a c)) a e->g (J7 (AX l)) e):AA A P Gq #[Ar b] a g:=by
 intro n;refine Calls.mono (Proofs.Any.Builder_String_any_k Proofs.Tryz.iH Proofs.Tryz.dT d b l (A.at a n) (j A n) hB) ?_;rintro q f ⟨rfl,h,o,p⟩;obtain⟨i,m⟩:=WP hB o p;refine⟨_,rfl,f.heap,f.drawn,i,k _ ?_ m⟩;rw[i] at h;exact zz (A:=A) (n:=f.drawn) h
def QJ(s:Sl)(i:Nat):Sl:=⟨A7 s.p (min (8*i+8) s.len) (8*i) 3,min (8*i+8) s.len-8*i,min (8*i+8) s.len-8*i⟩
def chunks(s:Sl):List Sl:=(List.range ((s.len+7) / 8)).map (QJ s)
theorem Rp(s:Sl):(chunks s).length=(s.len+7) / 8:=by simp[chunks]
theorem zA {s:Sl}{i:Nat}(a:i<(s.len+7) / 8):(chunks s)[i]? =some (QJ s i):=by simp[chunks,a]
theorem View.chunk {d:aa}{s:Sl}{l:List Pr}(v:View BO d s l){i:Nat}(e:i<Br l):View BO d (QJ s i) (CK l i):=by
 have f:=v.len;unfold Br at e;refine⟨?_,A0 _,λb x c=>?_⟩
 ·show min (8*i+8) s.len-8*i=(CK l i).length;unfold CK;rw[An,Cp,f];omega
 ·have g:b<8:=by have:=(List.getElem?_eq_some_iff.1 c).1;unfold CK at this;rw[An] at this;omega
  rw[Qg g] at c;obtain⟨a,h,j⟩:=v.cells _ _ c;have m:=(List.getElem?_eq_some_iff.1 c).1;refine⟨a.add (8*i*3),?_,?_⟩
  ·unfold QJ A7;simp only[h];rw[if_neg (by omega)];rfl
  ·rw[add_add];have k:8*i*3+b*BO.w=(8*i+b)*BO.w:=by show 8*i*3+b*3=(8*i+b)*3;omega
   rw[k];exact j
theorem AN0 {a i:Nat}(b:a<=1099511627776)(c:8*i<a):J8 J9 (((8*i:Nat):Int)+(if((((a-((8*i:Nat):Int).toNat):Nat):Int):Int)<(8:Int) then(((a-((8*i:Nat):Int).toNat):Nat):Int) else(8:Int)))=((min (8*i+8) a:Nat):Int):=by
 rw[As];split
 ·rw[wrap_i64 (by omega) (by omega)];omega
 ·rw[wrap_i64 (by omega) (by omega)];omega
abbrev APt:Q8:=DZ
theorem APR {n:al}{a:aa}{s:Sl}{o:A2L}(p:s.len<=s.cap)(w:s.len<=1099511627776)
  (y: ∀fv b,Ext a b->b.size=a.size+2->b[a.size]? =some (J2 #[J4 s.p s.len s.cap] AR (0,0))->b[a.size+1]? =some (J2 #[J6 J9 8] Bp (0,0))->
   xG n P fv (λc=>c=a.size\/c=a.size+1) b (chunks s)->o fv b):AA n P Dj #[J4 s.p s.len s.cap,J6 J9 8] a o:=by
 refine Jd ?_;unfold Fe;refine ao.mk λJ _ z A B=>?_
 refine ao.mk λC _ d q L=>?_
 refine ai.mk λK h=>?_
 refine AC.mk (AL d rfl) ?_;refine af.no rfl (h _ _ ?_);have r:=Ap q z;rw[B] at d ⊢;refine y _ C (A.trans q) (by omega) r d ⟨APt,#[Ar a.size,Ar (a.size+1)],rfl,λD=>by kernel_rfl,?_⟩;intro M D E N j F G;refine Io ?_;unfold FD;refine Loop.rule (λm x e=> ∃i:Nat,x=(((8*i:Nat):Int),())/\m=(s.len+7) / 8-i/\i<=(s.len+7) / 8/\E i true e) ?_ ⟨0,rfl,rfl,by omega,G⟩;rintro K m _ e ⟨i,rfl,rfl,O,f⟩ h;have hA:e[a.size]? =some (J2 #[J4 s.p s.len s.cap] AR (0,0)):=(j _ _ _ f _ (.inl rfl)).trans r;have hB:e[a.size+1]? =some (J2 #[J6 J9 8] Bp (0,0)):=(j _ _ _ f _ (.inr rfl)).trans d;refine aD (Aa.mk (AL hA rfl) ?_);dsimp only;refine af.intro (λk=>?_) (λk=>?_)
 ·have t:8*i<s.len:=by simp at k;omega
  refine aD (AC.mk (AL hB rfl) ?_);refine aD (Aa.mk (AL hA rfl) ⟨by omega,?_⟩);refine aD (Aa.mk (AL hA rfl) ?_);rw[AN0 w t,As,As];refine⟨by omega,by omega,by omega,?_⟩;have p:=zA (s:=s) (i:=i) (by omega);have u:=F i _ e p f;simp only[xk,QJ] at u;refine Em.mono u ?_;rintro v b ⟨g,rfl,l⟩;refine⟨g,rfl,?_⟩;cases g with
  |false=>exact af.yes rfl ⟨rfl,i+1,false,l,(λa=>by cases a),by rw[Rp];omega⟩
  |true=>
   refine af.no rfl (aD ?_);have H:b[a.size+1]? =some (J2 #[J6 J9 8] Bp (0,0)):=(j _ _ _ l _ (.inr rfl)).trans d;refine AC.mk (AL H rfl) ?_;have I:J8 J9 (((8*i:Nat):Int)+(8:Int))=((8*(i+1):Nat):Int):=by rw[wrap_i64 (by omega) (by omega)];omega
   rw[I];exact h ((s.len+7) / 8-(i+1)) _ _ (by omega) ⟨i+1,rfl,rfl,by omega,l⟩
 ·have t:s.len<=8*i:=by simp at k;omega
  have:i=(s.len+7) / 8:=by omega
  exact⟨rfl,i,true,f,λ_=>by rw[Rp];exact this,by rw[Rp];omega⟩
theorem sx:QZ P CP BK Im.w 16=true:=by kernel_rfl
structure BS (h1:aa) (B:Nat) (E:Nat->Obj->Prop) (out:List UInt8) (kl:List A2M) (ix:List UInt8) (n:Nat) (hh:aa):Prop where
 gK:fU B hh B out
 keys: ∃ks:Sl,hh[B+1]? =some (J2 #[J4 ks.p ks.len ks.cap] CP (0,0))/\Own Im BK hh ks kl/\ ∀c,ks.ag=some c->B+3<c
 ix:hh[B+2]? =some (J2 #[J7 (AX ix)] BK (0,0))
 ct:hh[B+3]? =some (J2 #[J6 J9 (n:Int)] Bp (0,0))
 fix: ∀c o,E c o->hh[c]? =some o
 eG:Mod (λc=>B<=c) h1 hh
structure ky (B:Nat) (E:Nat->Obj->Prop):Prop where
 u8: ∀c o,E c o-> ∀cs fz,o≠ J2 cs EI fz
 str: ∀c o,E c o-> ∀cs fz,o≠ J2 cs BK fz
 lt: ∀c o,E c o->B+3<c
theorem mW {d:aa}{c:Nat}{e:Obj}(g:d[c]? =some e)(h: ∀a b,e≠ J2 a EI b): ¬U8 d c:=by rintro⟨a,b,f⟩;rw[g] at f;exact h a b (BE f)
theorem NJ {e:Array J0}{T b:Q7}{fr:Nat×Nat}(f:T≠b): ∀c d,(Obj.cells e T fr)≠ J2 c b d:=λc d a=>by injection a with _ a _;exact f a
theorem zB {a:aa}{b:Sl}{d:List A2M}(e:Own Im BK a b d){c:Nat}(f:U8 a c):b.ag≠some c:=by obtain⟨h,i,g⟩:=f;exact e.ne g (by decide)
theorem BS.ext {a d e:aa}{f:Nat}{g:Nat->Obj->Prop}{out:List UInt8}{h:List A2M}{i:List UInt8}{j:Nat}(b:BS a f g out h i j d)(x:Ext d e):BS a f g out h i j e:=by obtain⟨k,l,m,n⟩:=b.keys;exact⟨b.gK.ext x,⟨k,Ap x l,m.ext x,n⟩,Ap x b.ix,Ap x b.ct,λc o p=>x.ag (b.fix c o p) (λq=>q),b.eG.trans x.mod⟩
theorem BS.write {j g h:aa}{e:Nat}{i:Nat->Obj->Prop}{out k:List UInt8}{l:List A2M}{n:List UInt8}{o:Nat}(ok:ky e i)(b:BS j e i out l n o g)(r:fU e h e k)
  (m:Mod (λc=>c=e\/(e<=c/\U8 g c)) g h):BS j e i k l n o h:=by
 obtain⟨s,t,p,q⟩:=b.keys;have aS: ∀ {c:Nat} {f:Obj},g[c]? =some f->c≠e->(∀ u v,f≠ J2 u EI v)->h[c]? =some f:=λa w x=>m.ag a (λd=>d.elim w (λd=>mW a x d.2))
 refine⟨r,⟨s,aS t (by omega) (NJ (by decide)),p.mod m (λc a d=>?_),q⟩,aS b.ix (by omega) (NJ (by decide)),aS b.ct (by omega) (NJ (by decide)),λc f a=>aS (b.fix c f a) (by have:=ok.lt c f a;omega) (ok.u8 c f a),b.eG.trans (m.aj λc _ a=>by rcases a with d|d<;>omega)⟩;rcases d with d|d
 ·have:=q c a;omega
 ·exact zB p d.2 a
theorem BS.key {l h i:aa}{d:Nat}{j:Nat->Obj->Prop}{out:List UInt8}{n p:List A2M}{q:List UInt8}{r:Nat}(ok:ky d j)(b:BS l d j out n q r h){f jC:Sl}(v:h[d+1]? =some (J2 #[J4 f.p f.len f.cap] CP (0,0)))
  (s:Own Im BK h f n) (k: ∀c,f.ag=some c->d+3<c) (m:Mod (λc=>f.ag=some c\/c=d+1) h i) (w:i[d+1]? =some (J2 #[J4 jC.p jC.len jC.cap] CP (0,0)))
  (x:Own Im BK i jC p) (y: ∀c,jC.ag=some c->d+3<c):BS l d j out p q r i:=by
 have hB: ∀c,f.ag=some c\/c=d+1->d+1<=c:=λc e=>by
  rcases e with a|a
  ·have:=k c a;omega
  ·omega
 refine⟨b.gK.mod m (λa=>by have:=hB _ a;omega) (λc e t a=>?_),⟨jC,w,x,y⟩,m.ag b.ix (λa=>?_),m.ag b.ct (λa=>?_),λc o e=>m.ag (b.fix c o e) (λa=>?_),b.eG.trans (m.aj λc _ e=>by have:=hB _ e;omega)⟩
 ·rcases a with a|a
  ·exact zB s t a
  ·subst a;exact mW v (NJ (by decide)) t
 ·rcases a with a|a
  ·have:=k _ a;omega
  ·omega
 ·rcases a with a|a
  ·have:=k _ a;omega
  ·omega
 ·rcases a with a|a
  ·rcases s.row with⟨rfl,_⟩|⟨g,z,A,u,_⟩
   ·simp[Sl.ag] at a
   ·simp[Sl.ag,A] at a;subst a;rw[b.fix _ o e] at u;exact ok.str _ o e z (0,0) (BE u)
  ·have:=ok.lt c o e;omega
theorem BS.ixs {h i e:aa}{d:Nat}{f:Nat->Obj->Prop}{out:List UInt8}{j:List A2M}{o pD:List UInt8}{k:Nat}(ok:ky d f)(b:BS h d f out j o k i)(m:Mod (λc=>c=d+2) i e)(p:e[d+2]? =some (J2 #[J7 (AX pD)] BK (0,0))):BS h d f out j pD k e:=by
 obtain⟨q,r,s,l⟩:=b.keys;exact⟨b.gK.mod m (λg=>by omega) (λc a t g=>by subst g;exact mW b.ix (NJ (by decide)) t),⟨q,m.ag r (by omega),s.mod m (λc a g=>by have:=l c a;omega),l⟩,p,m.ag b.ct (by omega),
  λc n a=>m.ag (b.fix c n a) (by have:=ok.lt c n a;omega),b.eG.trans (m.aj λc _ a=>by omega)⟩
theorem BS.pC {h i e:aa}{d:Nat}{f:Nat->Obj->Prop}{out:List UInt8}{j:List A2M}{k:List UInt8}{o n':Nat}(ok:ky d f)(b:BS h d f out j k o i)(m:Mod (λc=>c=d+3) i e)(p:e[d+3]? =some (J2 #[J6 J9 (n':Int)] Bp (0,0))):BS h d f out j k n' e:=by
 obtain⟨q,r,s,l⟩:=b.keys;exact⟨b.gK.mod m (λg=>by omega) (λc a t g=>by subst g;exact mW b.ct (NJ (by decide)) t),⟨q,m.ag r (by omega),s.mod m (λc a g=>by have:=l c a;omega),l⟩,m.ag b.ix (by omega),p,
  λc n a=>m.ag (b.fix c n a) (by have:=ok.lt c n a;omega),b.eG.trans (m.aj λc _ a=>by omega)⟩
theorem BS.lp {k h:aa}{i d:Nat}{j:Nat->Obj->Prop}{out:List UInt8}{l:List A2M}{n:List UInt8}{o:Nat}(b:BS k i j out l n o h)(hd:i+3<d)(s: ∀e,¬j d e){t:Go.Loop}(p:h[d]? =some (.loop t))(e:Go.Loop):BS k i j out l n o (h.setIfInBounds d (.loop e)):=by
 obtain⟨u,v,q,w⟩:=b.keys;have m:Mod (λc=>c=d) h (h.setIfInBounds d (.loop e)):=Mod.setObj rfl;refine⟨b.gK.mod m (λf=>by omega) (λc a x f=>by subst f;exact mW p (λ_ _ y=>by cases y) x),⟨u,m.ag v (by omega),q.mod m (λc a f=>?_),w⟩,m.ag b.ix (by omega),m.ag b.ct (by omega),
  λc e a=>m.ag (b.fix c e a) (λf=>by subst f;exact s _ a),b.eG.trans (m.aj λc _ a=>by omega)⟩
 subst f;rcases q.row with⟨rfl,_⟩|⟨g,A,z,r,_⟩
 ·simp[Sl.ag] at a
 ·simp[Sl.ag,z] at a;subst a;rw[p] at r;cases r
def JE(l:List Pr):List A2M:=l.map (·.key)
def jm(l:List Pr):Nat:=min (l.length+8) 8192
def NQ(l:List Pr):List UInt8:=km (JE l) (jm l)
def Jy(l:List Pr):List UInt8:=aI (aT l (NQ l))
def G9(a:List A2M):List UInt8:=a.flatMap λb=>BI (bl b)
structure Hl (l:List Pr):Prop where
 ne:l≠ []
 ok: ∀p∈l,MG p
 inc:l.Pairwise λp q=>aO p.key q.key=true
 many:l.length<=100000
theorem Hl.eQ {l:List Pr}(T:Hl l):hG (Jy l) l (NQ l):=by
 have a:1<=jm l/\jm l<=8192:=by unfold jm;omega
 refine⟨rfl,T.ne,T.ok,T.inc,?_,λp b=>APP a.1 a.2 (N3 b),T.many⟩;unfold NQ;rw[AP3 a.1];exact a
theorem VU: ∀ {rs:List (List UInt8)},(∀ r∈rs,r.length<=1048576)->(aI rs).length<=rs.length*1048590
 | [],_=>by simp
 |r::rs,a=>by
  have d:=(Jh (a r CH)).2;have e:=a r CH;have b:=VU (rs:=rs) λx c=>a x (AH _ c)
  simp only[aI,AF,A1,A6] at b ⊢;omega
theorem RI: ∀ {ks:List A2M},(∀ k∈ks,k.size<=64)->(G9 ks).length<=ks.length*74
 | [],_=>by simp[G9]
 |k::ks,a=>by
  have d:=a k CH;have e:=AV (n:=(bl k).length) (by rw[BB];omega);have b:=RI (ks:=ks) λx c=>a x (AH _ c)
  have f:=BB k;simp only[G9,AF,A1,A6,BI] at b ⊢;omega
theorem PW {l:List Pr}(b: ∀p∈l,MG p): ∀a∈CV l,a.size<=64:=λa c=>by
 obtain⟨i,_,rfl⟩:=List.mem_map.1 c;unfold JD;split
 ·rename_i p d;exact(b p (AM d)).bI
 ·exact A5 _
theorem RH {l:List Pr}(a: ∀p∈l,MG p){i:Nat}(b:i<Br l):(BQ (CK l i)).length<=8*8276:=by
 have e:=MN (l:=CK l i) λp c=>a p (QA c)
 have d:=(RA b).2.1;have:(CK l i).length*8276<=8*8276:=AN _ d;omega
theorem zC {l:List Pr}(c: ∀p∈l,MG p): ∀a∈(LJ l).map BQ,a.length<=1048576:=λa d=>by
 obtain⟨b,e,rfl⟩:=List.mem_map.1 d;obtain⟨i,f,rfl⟩:=List.mem_map.1 e;have:=RH c (List.mem_range.1 f);omega
theorem AO6 {l:List Pr}{i:Nat}(a:i<Br l):((LJ l).map BQ)[i]? =some (BQ (CK l i)):=by simp[LJ,a]
theorem Rt {l:List Pr}{i:Nat}(a:i<Br l):(CV l)[i]? =some (JD l (8*i)):=by simp[CV,a]
theorem Uc {a:Type}{l:List a}{i:Nat}{x:a}(b:l[i]? =some x):l.take (i+1)=l.take i++ [x]:=by rw[AD,b];rfl
theorem zD(a b:List Pr):JE (a++b)=JE a++JE b:=by simp[JE]
theorem zE {l:List Pr}(b:l.Pairwise λp a=>aO p.key a.key=true){i:Nat}{p a:Pr}(c:l[i]? =some p)(d:l[i+1]? =some a):aO p.key a.key=true:=by obtain⟨e,rfl⟩:=List.getElem?_eq_some_iff.1 c;obtain⟨f,rfl⟩:=List.getElem?_eq_some_iff.1 d;exact List.pairwise_iff_getElem.1 b _ _ e f (by omega)
theorem ALF(a:Nat)(b:a<=100000):(if(8192:Int)<(J8 J9 (((a:Nat):Int)+(8:Int))) then(8192:Int) else(J8 J9 (((a:Nat):Int)+(8:Int))))=((min (a+8) 8192:Nat):Int):=by rw[wrap_i64 (by omega) (by omega)];split<;>omega
theorem APF {bv:al}{e:aa}{s:Sl}{l:List Pr}{aW:A2L}(T:Hl l)(X:View BO e s l)(au: ∀b,s.ag=some b->b<e.size)
  (bw: ∀aX,Ext e aX->aW (J1 #[J7 (AX (Jy l)),J6 J9 0]) aX):AA bv P QL #[J4 s.p s.len s.cap] e aW:=by
 refine ACn ?_;unfold Ws;have cP:=List.length_pos_iff.2 T.ne;have cQ:=T.many;refine af.no (by rw[X.len];simp;exact T.ne) ?_;refine Loop.rule (λm x t=> ∃i:Nat,x=(⟨#[]⟩,0,(i:Int),())/\m=l.length-i/\i<=l.length/\Ext e t) ?_ ⟨0,rfl,rfl,by omega,Mod.refl⟩;rintro K m _ g ⟨i,rfl,rfl,cR,M⟩ aY;dsimp only;have av:=X.ext M;refine af.intro (λw=>?_) (λw=>?_)
 ·have aw:i<l.length:=by rw[X.len] at w;simp at w;omega
  have y:l[i]? =some l[i]:=A2 aw;have z:=T.ok _ (B9 aw);generalize l[i]=x at y z;have aZ:=z.bI;have bx:=z.cA;refine av.idx y λa bz f=>?_
  obtain⟨ax,c1,c2⟩:=f.pair;rw[As];refine AJ.mk ax (AJ.mk c1 (AZ.mk c2 ?_));refine ao.pair λb Y bA B a0 cS=>?_
  refine ai.mk λay bB=>?_
  refine AJ.mk (AL B rfl) (af.no (zx z.key) ?_);have last:ay (false,()) Y:=by
   refine bB _ _ (af.no rfl ?_);refine ai.mk λcT bC=>?_
   refine AJ.mk (AL B rfl) (af.no (by simp;omega) ?_);refine AJ.mk (AB B rfl) ?_;refine bC _ _ (af.no (by simp;omega) ?_);rw[Ab (by omega)];exact aY (l.length-(i+1)) _ _ (by omega) ⟨i+1,rfl,rfl,aw,M.trans a0⟩
  have a1:af (decide (((i:Nat):Int)>(0:Int))) (AJ Y (⟨b,0,none⟩:Q6) λa2=>
     bE s.p s.len (J8 J9 (((i:Nat):Int)-(1:Int))) λa3=>
     AJ Y (a3.add ((J8 J9 (((i:Nat):Int)-(1:Int))).toNat*3)) λa4=>
     ay ((aO a2 a4||bR a2 a4),()) Y) (ay (false,()) Y):=by
   refine af.intro (λbD=>?_) (λ_=>last);have cU:0<i:=by simp at bD;omega
   obtain⟨k,rfl⟩: ∃k,i=k+1:=⟨i-1,by omega⟩;have az:J8 J9 (((k+1:Nat):Int)-(1:Int))=(k:Int):=by rw[wrap_i64 (by omega) (by omega)];omega
   have N:l[k]? =some l[k]:=A2 (by omega);refine AJ.mk (AL B rfl) ?_;rw[az];refine(av.ext a0).idx N λa3 cV Z=>?_
   rw[As];refine AJ.mk Z.pair.1 ?_;have aA:=zE T.inc N y;have q:(aO x.key l[k].key||bR x.key l[k].key)=false:=by
    rw[GS];refine⟨?_,?_⟩
    ·cases bF:aO x.key l[k].key with
     |false=>rfl
     |true=>have:=Da aA bF;rw[CY] at this;cases this
    ·rw[Cn,decide_eq_false_iff_not];intro q;rw[q,CY] at aA;cases aA
   rw[q];exact last
  refine AZ.mk (AB B rfl) (af.intro (λbG=>?_) (λ_=>a1));refine AJ.mk (AB B rfl) (af.no ?_ a1);rw[X0,Ub (z.gone bG)];rfl
 ·clear aY;have aC:=X.len;refine ao.mk λbH _ bI bJ bK=>?_
  refine ao.mk λbL _ a5 a6 cW=>?_
  refine ao.mk λcX _ a7 aD cY=>?_
  refine ae.mk a7 (by simp) λa8 a9 ak cZ=>?_
  refine ao.mk λc0 _ ba am c3=>?_
  refine ae.mk ba (by simp) λbb bc ab c4=>?_
  have bd:bH.size=g.size+1:=bK;have be:bL.size=g.size+2:=by omega
  have bf:a8.size=g.size+3:=by omega
  have bM:bb.size=g.size+4:=by omega
  rw[bd] at a5;rw[be] at a7 ak a9;rw[bf] at ba ab bc;rw[bd,be,bf];refine APR X.cap (by omega) λfv G O bN aE Z bg=>⟨_,rfl,?_⟩
  rw[bM] at bN aE Z bg;generalize bO:g.size=o at*
  have bP: ∃E:Nat->Obj->Prop,E=λc h=>(c=o+4/\h=J2 #[J4 s.p s.len s.cap] AR (0,0))\/(c=o+5/\h=J2 #[J6 J9 8] Bp (0,0)):=⟨_,rfl⟩
  obtain⟨E,an⟩:=bP;have bQ:Ext g G:=by refine⟨by have:=O.size;omega,λc f _=>?_⟩;rw[bO] at f;exact(O.get c (by omega) (λe=>e)).trans ((ab.get c (by omega) (by omega)).trans ((am.get c (by omega) (λe=>e)).trans ((ak.get c (by omega) (by omega)).trans ((aD.get c (by omega) (λe=>e)).trans ((a6.get c (by omega) (λe=>e)).trans (bJ.get c (by omega) (λe=>e)))))))
  have bS:G[o]? =some (J2 #[J5 none,J4 none 0 0] Ee (0,0)):=
   O.ag (ab.ag (am.ag (ak.ag (aD.ag (a6.ag bI (λe=>e)) (λe=>e)) (by omega)) (λe=>e)) (by omega)) (λe=>e)
  have bT:G[o+1]? =some (J2 #[J4 none 0 0] CP (0,0)):=
   O.ag (ab.ag (am.ag (ak.ag (aD.ag a5 (λe=>e)) (by omega)) (λe=>e)) (by omega)) (λe=>e)
  have bU:G[o+2]? =some (J2 #[J7 (AX [])] BK (0,0)):=by
   have bV:a8[o+2]? =some (J2 #[J7 (AX [])] BK (0,0)):=by rw[yA];simpa using a9
   exact O.ag (ab.ag (am.ag bV (λe=>e)) (by omega)) (λe=>e)
  have bW:G[o+3]? =some (J2 #[J6 J9 ((0:Nat):Int)] Bp (0,0)):=by
   have bX:bb[o+3]? =some (J2 #[J6 J9 ((0:Nat):Int)] Bp (0,0)):=by simpa using bc
   exact O.ag bX (λe=>e)
  have bq:BS g o E [] [] [] 0 G:=by
   refine⟨AQl bS (A0 _),⟨⟨none,0,0⟩,bT,Own.nil,λc f=>by simp[Sl.ag] at f⟩,bU,bW,λc h f=>?_,bQ.mod⟩;subst an;rcases f with⟨rfl,rfl⟩|⟨rfl,rfl⟩
   ·exact aE
   ·exact Z
  have Q:ky o E:=by
   subst an;refine⟨λc h f C D=>?_,λc h f C D=>?_,λc h f=>?_⟩
   ·rcases f with⟨rfl,rfl⟩|⟨rfl,rfl⟩<;>exact NJ (by decide) _ _
   ·rcases f with⟨rfl,rfl⟩|⟨rfl,rfl⟩<;>exact NJ (by decide) _ _
   ·rcases f with⟨rfl,rfl⟩|⟨rfl,rfl⟩<;>omega
  have bh: ∀d h,o+6<=d-> ¬E d h:=by subst an;rintro d h hd (⟨rfl,_⟩|⟨rfl,_⟩)<;>omega
  have bY:(chunks s).length=Br l:=by rw[Rp,aC];rfl
  have c5:Br l<=12501:=by unfold Br;omega
  have ap:G.size=o+6:=by omega
  have bZ: ∀b,s.ag=some b->b<o:=λb b0=>by have:=au b b0;have:=M.size;omega
  refine ATX bg (λi t=>BS g o E (aI (((LJ l).map BQ).take i)) (JE (l.take (8*i))) (G9 ((CV l).take i)) i t) ?_ ?_ ?_ ?_ ?_
  ·intro i t r c f;subst an;rcases f with rfl|rfl
   ·exact(r.fix _ _ (.inl ⟨rfl,rfl⟩)).trans aE.symm
   ·exact(r.fix _ _ (.inr ⟨rfl,rfl⟩)).trans Z.symm
  ·rintro i t h r R ⟨c6,b1⟩;exact r.lp (by omega) (λh=>bh _ _ (by omega)) b1 h
  ·intro rec;exact bq.ext ((Mod.push G _).trans (Mod.push _ _))
  ·intro i x t rec c7 c8 y r R aq b2 b3;have S:i<Br l:=by have:=(List.getElem?_eq_some_iff.1 y).1;omega
   have b4:x=QJ s i:=by have:=zA (s:=s) (i:=i) (by rw[aC];exact S);rw[this] at y;exact(BE y).symm
   subst b4;rw[ap] at R aq ⊢;refine⟨rec,aq,b2,?_⟩;obtain⟨u,J⟩: ∃u:Nat->Obj->Prop,u=λc h=>E c h\/(c=o+6/\h= .deferred (some []))\/(c=o+6+1/\h= .loop {rec with state:= .busy}):=⟨_,rfl⟩
   have L:ky o u:=by
    subst J;refine⟨λc h f C D=>?_,λc h f C D=>?_,λc h f=>?_⟩
    ·rcases f with e|⟨rfl,rfl⟩|⟨rfl,rfl⟩
     ·exact Q.u8 c h e C D
     ·intro q;cases q
     ·intro q;cases q
    ·rcases f with e|⟨rfl,rfl⟩|⟨rfl,rfl⟩
     ·exact Q.str c h e C D
     ·intro q;cases q
     ·intro q;cases q
    ·rcases f with e|⟨rfl,rfl⟩|⟨rfl,rfl⟩
     ·exact Q.lt c h e
     ·omega
     ·omega
   have U:=r.lp (d:=o+6+1) (by omega) (λh=>bh _ _ (by omega)) aq {rec with state:= .busy};have aF:BS g o u (aI (((LJ l).map BQ).take i)) (JE (l.take (8*i))) (G9 ((CV l).take i)) i (t.setIfInBounds (o+6+1) (.loop {rec with state:= .busy})):=by
    refine⟨U.gK,U.keys,U.ix,U.ct,λc h f=>?_,U.eG⟩;subst J;rcases f with e|⟨rfl,rfl⟩|⟨rfl,rfl⟩
    ·exact U.fix c h e
    ·rw[DQ (by omega)];exact R
    ·exact Cf (Aj aq)
   generalize t.setIfInBounds (o+6+1) (.loop {rec with state:= .busy})=c9 at aF;have da:=RA S;have aG: ∀p∈CK l i,MG p:=λp aH=>T.ok p (QA aH)
   have aJ: ∀ {t:aa} {out:List UInt8} {b5:List A2M} {b6:List UInt8} {n:Nat},BS g o u out b5 b6 n t->View BO t (QJ s i) (CK l i):=λb=>
    View.chunk (av.mod b.eG (λc f=>by have:=bZ c f;omega)) S
   have b7:(QJ s i).len=(CK l i).length:=(aJ aF).len;have aK:=VU (rs:=((LJ l).map BQ).take i) λb8 b9=>zC T.ok b8 (Cd b9)
   have aL:=RI (ks:=(CV l).take i) λk N=>PW T.ok k (Cd N)
   rw[An] at aK aL;have db:=RH T.ok S;refine Loop.rule (λm x t=> ∃j:Nat,x=(AX (BQ ((CK l i).take j)),(j:Int),())/\m=(CK l i).length-j/\j<=(CK l i).length/\
    BS g o u (aI (((LJ l).map BQ).take i)) (JE (l.take (8*i))++JE ((CK l i).take j)) (G9 ((CV l).take i)) i t) ?_ ⟨0,rfl,rfl,by omega,by simpa [JE] using aF⟩
   rintro dc m _ dd ⟨j,rfl,rfl,de,H⟩ ca;dsimp only[rC];refine af.intro (λw=>?_) (λw=>?_)
   ·have ac:j<(CK l i).length:=by have w:((j:Nat):Int)<(((QJ s i).len:Nat):Int):=of_decide_eq_true w;omega
    have y:(CK l i)[j]? =some (CK l i)[j]:=A2 ac;have z:=aG _ (B9 ac);generalize (CK l i)[j]=p at y z;have bi:=Uc y;refine(aJ H).idx y λa bz f=>?_
    obtain⟨ax,c1,c2⟩:=f.pair;rw[As];refine AJ.mk ax (AJ.mk c1 (AZ.mk c2 ?_));refine ao.pair λbj df bA B cb dg=>?_
    have A:=H.ext cb;obtain⟨ks,ad,ag,aj⟩:=A.keys;refine Aa.mk (s:=ks) (AL ad rfl) ?_;refine AJ.mk (AL B rfl) ?_;have dh:o+3<bj:=by have:=Aj H.ct;omega
    have aM:(JE (l.take (8*i))++JE ((CK l i).take j)).length<=100010:=by rw[A1];simp only[JE,AS,An];omega
    refine ao.aZ (E:=Im) (x:=p.key) rfl sx ag (by omega) (by simp only[maxLen];omega) λbk cc cd aN ce di=>?_
    have cf:cc[o+1]? =some (J2 #[J4 ks.p ks.len ks.cap] CP (0,0)):=aN.ag ad (λe=>by have:=aj _ e;omega);refine ae.mk cf (by simp) λbm cg aP dj=>?_
    have bn: ∀c,bk.ag=some c->o+3<c:=λc f=>by
     rcases ce c f with e|e
     ·exact aj c e
     ·have:=Aj A.ct;omega
    have F:BS g o u _ (JE (l.take (8*i))++JE ((CK l i).take j)++ [p.key]) _ i bm:=
     A.key L (jC:=bk) ad ag aj ((aN.aj λc _ f=> .inl f).trans (aP.aj λc _ f=> .inr f)) (by simpa using cg) (cd.mod aP (λc f e=>by have:=bn c f;omega)) bn
    have aQ:bm[bj]? =some (J2 #[J7 p.key,J7 p.val,J3 p.gone] AQ (0,0)):=aP.ag (aN.ag B (λe=>ag.ne B (by decide) e)) (by omega);refine AJ.mk (AL aQ rfl) (AJ.mk (AB aQ rfl) (AZ.mk (AB aQ rfl) ?_));refine AOy (x:=p) z λdk ch=>⟨_,rfl,?_⟩
    have ci:BQ ((CK l i).take (j+1))=BQ ((CK l i).take j)++I5 p:=by rw[bi];simp[BQ]
    have lt:=MN (l:=(CK l i).take j) λcj w=>aG cj (Cd w)
    rw[An] at lt;have lp:=(Qi z).2;have aZ:=z.bI;have bx:=z.cA;refine⟨by rw[AP,AP,max_i64];omega,?_⟩;rw[Ao,<-ci,Ab (by omega)];refine ca ((CK l i).length-(j+1)) _ _ (by omega) ⟨j+1,rfl,rfl,ac,?_⟩;have I:=F.ext ch;have:JE ((CK l i).take (j+1))=JE ((CK l i).take j)++ [p.key]:=by rw[bi,zD];rfl
    rw[this,<-A4];exact I
   ·have ac:j=(CK l i).length:=by have w: ¬((j:Nat):Int)<(((QJ s i).len:Nat):Int):=of_decide_eq_false w;omega
    have ck:(CK l i).take j=CK l i:=by rw[ac];simp
    rw[ck] at H ⊢;refine Yg (by omega) (λe=>by omega) λaR dl cl=>⟨_,_,rfl,?_⟩
    have A:=H.ext cl;have cm:=Jh aR;refine VE A.gK (by have:=Aj A.ct;omega) (by rw[AP];omega) λcn co cp=>⟨_,_,rfl,?_⟩
    have F:=A.write L co cp;rw[EJ] at F;refine AJ.mk (AL F.ix rfl) ?_;have aS:(CK l i)[0]? =some (CK l i)[0]:=A2 (by omega);have bo:JD l (8*i)=(CK l i)[0].key:=by have:=Qg (l:=l) (i:=i) (j:=0) (by omega);rw[aS] at this;unfold JD;rw[G4] at this;rw[<- this]
    have bp:=aG _ (B9 (show 0<(CK l i).length by omega));generalize (CK l i)[0]=V at aS bo bp;obtain⟨cq,cr,br⟩:=(aJ F).cells 0 V aS;refine bE.mk (k:=0) cr (by rw[b7];omega) ?_;rw[HX,add_zero] at br;refine AJ.mk (n:=V.key) (by show ah cn (cq.add 0)=_;rw[add_zero];exact br.pair.1) ?_;have aZ:=bp.bI;refine Vu (by omega) λdm cs=>⟨_,rfl,?_⟩
    have I:=F.ext cs;refine⟨AL I.ix rfl,?_⟩;have dn:=AV (n:=(bl V.key).length) (by rw[BB];omega);have dp:=BB V.key;refine⟨by rw[AP,AP,max_i64];simp only[BI,A1];omega,?_⟩;rw[Ao];refine ae.mk I.ix (by simp) λdq ct cu dr=>?_
    have W:=I.ixs L (pD:=G9 ((CV l).take i)++BI (bl V.key)) cu (by simpa using ct);refine AC.mk (AL W.ct rfl) ?_;rw[Ab (by omega)];refine ae.mk W.ct (by simp) λcv cw cx ds=>?_
    have v:=W.pC L (n':=i+1) cx (by simpa using cw);have az:aI (((LJ l).map BQ).take (i+1))=aI (((LJ l).map BQ).take i)++Ca (BQ (CK l i)):=by rw[Uc (AO6 S)];simp[aI]
    have cy:JE (l.take (8*(i+1)))=JE (l.take (8*i))++JE (CK l i):=by rw[<- zD,wY]
    have cz:G9 ((CV l).take (i+1))=G9 ((CV l).take i)++BI (bl V.key):=by rw[Uc (Rt S),bo];simp[G9]
    subst J;refine b3 cv ?_ ?_ ?_
    ·rw[az,cy,cz];exact⟨v.gK,v.keys,v.ix,v.ct,λc h f=>v.fix c h (.inl f),v.eG⟩
    ·rw[ap];exact v.fix _ _ (.inr (.inl ⟨rfl,rfl⟩))
    ·rw[ap];exact v.fix _ _ (.inr (.inr ⟨rfl,rfl⟩))
  ·intro cB r R;rw[bY] at r;have ad:((LJ l).map BQ).take (Br l)=(LJ l).map BQ:=Ax (by simp[JM]);have ag:l.take (8*Br l)=l:=Ax (by unfold Br;omega);have aj:(CV l).take (Br l)=CV l:=Ax (by simp[II]);rw[ad,ag,aj] at r;rw[ap] at R ⊢;obtain⟨u,J⟩: ∃u:Nat->Obj->Prop,u=λc h=>E c h\/(c=o+6/\h= .deferred (some [])):=⟨_,rfl⟩
   have L:ky o u:=by
    subst J;refine⟨λc h f C D=>?_,λc h f C D=>?_,λc h f=>?_⟩
    ·rcases f with e|⟨rfl,rfl⟩
     ·exact Q.u8 c h e C D
     ·intro q;cases q
    ·rcases f with e|⟨rfl,rfl⟩
     ·exact Q.str c h e C D
     ·intro q;cases q
    ·rcases f with e|⟨rfl,rfl⟩
     ·exact Q.lt c h e
     ·omega
   have H:BS g o u (aI ((LJ l).map BQ)) (JE l) (G9 (CV l)) (Br l) cB:=by
    refine⟨r.gK,r.keys,r.ix,r.ct,λc h f=>?_,r.eG⟩;subst J;rcases f with e|⟨rfl,rfl⟩
    ·exact r.fix c h e
    ·exact R
   obtain⟨ks,bs,aU,dt⟩:=H.keys;refine Aa.mk (s:=ks) (AL bs rfl) (Aa.mk (s:=ks) (AL bs rfl) ?_);have aM:ks.len=l.length:=by rw[aU.len];simp[JE]
   have bt:1<=jm l/\jm l<=8192:=by unfold jm;omega
   have bu:=T.eQ;have du:=bu.jB;rw[aM,ALF _ T.many];rw[show((min (l.length+8) 8192:Nat):Int)=((jm l:Nat):Int) from rfl,<-aM];refine AQi (ks:=JE l) aU.view (λk N=>?_) bt.1 bt.2 (by simp[JE];omega) (λb au=>aU.lt au) λdv cC=>⟨_,_,rfl,?_⟩
   ·obtain⟨p,aH,rfl⟩:=List.mem_map.1 N;have:=(T.ok p aH).bI;omega
   have A:=H.ext cC;refine AC.mk (AL A.ct rfl) (AJ.mk (AL A.ix rfl) ?_);rw[Bt (by omega)];refine CU (by omega) λdw cD=>⟨_,rfl,?_⟩
   have F:=A.ext cD;refine⟨AL F.ix rfl,?_⟩;have dx:=AV (n:=Br l) (by omega);have aL:=RI (ks:=CV l) (PW T.ok);rw[II] at aL;refine⟨by rw[AP,AP,max_i64];omega,?_⟩;rw[aC,Bt (by omega)];refine CU (by omega) λdy cE=>⟨_,rfl,?_⟩
   have I:=F.ext cE;have dz:=AV (n:=l.length) (by omega);refine⟨AL I.ix rfl,?_⟩;rw[Ao];refine⟨by rw[AP,AP,max_i64];simp only[A1];omega,?_⟩;refine PY (l:=NQ l) (by omega) λdA cF=>⟨_,rfl,?_⟩
   have W:=I.ext cF;have dB:=AV (n:=(NQ l).length) (by omega);refine⟨AL W.ix rfl,?_⟩;rw[Ao,Ao];have dC:(BI (NQ l)).length=(Bb (NQ l).length).length+(NQ l).length:=by simp[BI]
   refine⟨by rw[AP,AP,max_i64];simp only[A1];omega,?_⟩;have cG:Bb (Br l)++G9 (CV l)++Bb l.length++BI (NQ l)=WI l (NQ l):=by unfold WI G9;simp only[A4]
   rw[cG];have dD:=Ya bu;refine Yg (by omega) (λe=>by omega) λaR dE cH=>⟨_,_,rfl,af.no rfl ?_⟩
   have v:=W.ext cH;have aK:=VU (rs:=(LJ l).map BQ) (zC T.ok);rw[AS,JM] at aK;have cm:=Jh aR;refine VE v.gK (by have:=Aj v.ct;omega) (by rw[AP];omega) λdF cI cJ=>⟨_,_,rfl,?_⟩
   have ar:=v.write L cI cJ;rw[EJ] at ar;refine AKA ar.gK (by have:=Aj ar.ct;omega) λcK cL cM=>⟨_,rfl,?_⟩
   have aV:=ar.write L cL cM;have cN:aI ((LJ l).map BQ)++Ca (WI l (NQ l))=Jy l:=by unfold Jy aT;simp[aI]
   have cO:cK[o+6]? =some (.deferred (some [])):=aV.fix _ _ (by subst J;exact .inr ⟨rfl,rfl⟩);refine⟨cO,?_⟩;rw[cN];refine bw _ ⟨?_,λc f _=>?_⟩
   ·have:=aV.eG.size;have:=M.size;simp;omega
   ·have:=M.size;rw[DQ (by omega)];exact(aV.eG.get c (by omega) (by omega)).trans (M.get c f (λe=>e))
end Go.Lf.G
namespace Go.Proofs
open Go.Shelf
theorem bears {P : Program} {f : FuncId} {b : Func} (a : (P.funcs[f]?).map (λx => { x with name := "" }) = some { b with name := "" }) (d : ((P.funcs[f]?).all λx => !(x.name == "runtime.NumGoroutine")) = true) : Bears P f b := by
 cases c:P.funcs[f]? with
 |none=>rw[c] at a;cases a
 |some x=>
  rw[c] at a d;simp only[Option.map_some,Option.some.injEq] at a;refine⟨x.name,by simpa using d,c.trans (congrArg some ?_)⟩;cases x;cases b
  simp_all
def Tryz.cL:Go.Shelf.Ren:=⟨λ|7=>76|10=>118|a=>a,λ|23=>102|26=>9|3=>165|28=>163|0=>0|27=>162|33=>71|4=>4|a=>a,λ|a=>a⟩
theorem Tryz.j3:Go.Proofs.SlLaysZ.n7 Tryz.prog Tryz.cL:=by repeat' first|exact Lf.DN (by kernel_rfl)|kernel_rfl|exact bears (by kernel_rfl) (by kernel_rfl)|decide|constructor
def Tryz.dJ:Go.Shelf.Ren:=⟨λ|6=>75|8=>116|9=>117|11=>169|13=>171|12=>170|23=>216|24=>217|14=>207|15=>208|16=>209|17=>210|18=>211|19=>212|20=>213|21=>214|22=>215|25=>236|26=>237|27=>238|28=>239|29=>240|30=>241|31=>262|a=>a,λ|26=>9|28=>163|24=>66|0=>0|3=>3|37=>153|48=>150|50=>140|4=>4|40=>312|39=>311|45=>270|5=>5|9=>9|51=>330|55=>333|57=>356|58=>263|33=>71|a=>a,λ|a=>a⟩
theorem Tryz.iF:Go.Proofs.SlLaysZ.n6 Tryz.prog Tryz.dJ:=by repeat' first|exact Lf.DN (by kernel_rfl)|kernel_rfl|exact bears (by kernel_rfl) (by kernel_rfl)|decide|constructor
def Tryz.fZ:Go.Shelf.Ren:=⟨λ|6=>117|8=>171|9=>170|19=>216|20=>217|21=>207|22=>208|23=>209|24=>210|25=>211|26=>212|27=>213|28=>214|29=>215|36=>236|31=>237|32=>238|37=>239|38=>240|39=>241|41=>262|a=>a,λ|27=>66|29=>9|3=>3|32=>153|26=>66|0=>0|44=>150|46=>140|4=>4|36=>312|35=>311|41=>270|5=>5|9=>9|53=>330|57=>333|63=>356|64=>263|a=>a,λ|a=>a⟩
theorem Tryz.j4:Go.Proofs.SlLaysM.n6 Tryz.prog Tryz.fZ:=by repeat' first|exact Lf.DN (by kernel_rfl)|kernel_rfl|exact bears (by kernel_rfl) (by kernel_rfl)|decide|constructor
def Tryz.ga:Go.Shelf.Ren:=⟨λ|5=>219|8=>171|7=>244|19=>216|20=>217|10=>265|11=>266|12=>267|13=>268|14=>269|15=>270|16=>271|17=>272|18=>273|30=>290|31=>237|32=>238|33=>291|34=>292|35=>293|40=>300|a=>a,λ|23=>86|25=>3|3=>3|32=>153|22=>86|0=>0|44=>150|46=>140|4=>4|36=>312|35=>311|41=>270|5=>5|9=>9|53=>330|57=>333|63=>356|64=>263|a=>a,λ|a=>a⟩
theorem Tryz.j6:Go.Proofs.SlLaysM.n5 Tryz.prog Tryz.ga:=by repeat' first|exact Lf.DN (by kernel_rfl)|kernel_rfl|exact bears (by kernel_rfl) (by kernel_rfl)|decide|constructor
end Go.Proofs
namespace Go.Lf.G
open Go
abbrev oI:Q8:=Fj
theorem AQt {d:al}{a:aa}{b:Option Nat}{e:A2L}(g: ∀T c,c[a.size]? =some (J2 #[.map b] T (0,0))->Ext a c->c.size=a.size+1->e (.func (.func oI) #[] #[Ar a.size]) c):
  AA d P Bw #[.map b] a e:=by
 intro f;have h:=Proofs.AnyZ.keys_in Proofs.Tryz.j3 Fence.wide 5 trivial rfl b (d.at a f);have i:=callsIn_wide.1 h;refine Calls.mono i ?_;rintro j k ⟨rfl,rfl⟩;refine⟨_,rfl,a.push (J2 #[.map b] (Proofs.Tryz.cL.t 23)),f,rfl,?_⟩;exact g (Proofs.Tryz.cL.t 23) (a.push (J2 #[.map b] (Proofs.Tryz.cL.t 23))) (by simp) (Mod.push a _) (by simp)
theorem ATE(m:Nat):Proofs.AnyZ.SortsIn P Proofs.Tryz.dJ Fence.wide m:=
 ⟨λag off a c b d e f=>callsIn_wide.2 (Proofs.AnyM.slices_Sort_string Proofs.Tryz.j4 ag off a c b d e f),
 λp a b=>callsIn_wide.2 (Proofs.AnyM.slices_Sort_string_none Proofs.Tryz.j4 p a b)⟩
theorem AMp {A:al}{h:aa}{c i:Nat}{T:Q7}{m:List (A2M×J0)}{l:List A2M}{o:A2L}(p:h[c]? =some (J2 #[.map (some i)] T (0,0)))(M:Vx h i m)
  (B:oK l) (C:(m.map (·.1)).Perm l) (d:m.length<=8796093022208)
  (q: ∀s j,Own Im BK j s l->Ext h j->(∀ b,s.ag=some b->h.size<=b)->o (J4 s.p s.len s.cap) j):
  AA A P GU #[.func (.func oI) #[] #[Ar c]] h o:=by
 intro n;obtain⟨k,D,E,r⟩:=AK5 (P:=P) (kt:=BK) Pt (w:=A.at h n) M;have F:SeqGives Fence.wide 2 P oI #[Ar c] Proofs.encStr (λe=>e.Perm (strKeys k)) (Maps.size k) (A.at h n):=
  Proofs.AnyZ.keys_gives (ρ:=Proofs.Tryz.cL) {Proofs.Tryz.j3 with} Fence.wide _ trivial rfl (by omega) c i _ k _ (show c<h.size from Aj p) (by show ah h ⟨c,0,none⟩=_;rw[IJ p];rfl) D
 have G:=Proofs.AnyZ.sorted_in Proofs.Tryz.iF Fence.wide 5 trivial trivial trivial trivial rfl (by omega) (ATE _) (Proofs.enters_of Proofs.Tryz.func117 (by kernel_rfl) rfl) oI #[Ar c] trivial (Proofs.enters_of Proofs.Tryz.func118 (by kernel_rfl) rfl) _ _ (by rw[r];simp[maxLen];omega) (by rw[r];omega) _ F;have H:=callsIn_wide.1 G;refine Calls.mono H ?_;rintro V a ⟨v,e,rfl,I,t,W,f⟩;have u:a=A.at a.heap a.drawn:=vS (A:=A) (h:=h) (n:=n) rfl f.os f.tape f.output;have y:e.Perm (l.map λx=>x.data.toList):=by
  refine(I.trans E).trans ?_;have:=C.map λx:A2M=>x.data.toList
  simpa [AW,G0] using this
 have J:e.length=l.length:=by have:=y.length_eq;simpa using this
 rw[AJ6 B y,ANA] at t;have z:Ext h a.heap:=⟨f.size,λb d _=>f.block b d⟩;rcases t.2 with⟨rfl,X⟩|⟨g,K,L,rfl,N,O,Q,R,S,U⟩
 ·have:l= []:=DA (by omega);subst this;exact⟨_,rfl,a.heap,a.drawn,u,q ⟨none,0,0⟩ _ Own.nil z (λb d=>by simp[Sl.ag] at d)⟩
 ·refine⟨_,rfl,a.heap,a.drawn,u,q ⟨some ⟨g,0,none⟩,e.length,K⟩ _ ⟨J,.inr ⟨g,L,rfl,O,Q,R,S,U⟩⟩ z (λb d=>?_)⟩;simp[Sl.ag] at d;subst d;exact N
def kg(m:Bx):List A2M×Int:=if m.down then([],30) else(m.files.map (·.name),0)
theorem FX.names {d:aa}{b e:Nat}{a:List (Fi×Nat)}{m:Bx}(c:FX d b e a m):((fA a).map (·.1)).Perm (m.files.map (·.name))/\(fA a).length<=8796093022208:=by
 refine⟨?_,?_⟩
 ·have:=c.perm.map (·.name);simpa [fA,AW,G0] using this
 ·have f:=c.perm.length_eq;have g:=Vj m.files;have h:=c.aR.wt;simp at f ⊢;omega
theorem FX.fG {h:al}{a:aa}{b i:Nat}{n:List (Fi×Nat)}{m:Bx}(d:FX a b i n m){j:Sl->aa->Prop}
  (o: ∀s f,Own Im BK f s (m.files.map (·.name))->Ext a f->(∀ c,s.ag=some c->a.size<=c)->j s f):
  AA h P Bw #[.map (some i)] a λv1 g=> ∃k:J0,v1=k/\(
   AA h P GU #[k] g λv2 p=> ∃e:Sl,v2=J4 e.p e.len e.cap/\j e p):=by
 refine AQt λT w q l x=>⟨_,rfl,?_⟩
 refine AMp q (d.map.mod l (λa=>a)) (Ud.1 d.aR.sorted) d.names.1 d.names.2 λs g r t u=>⟨s,rfl,?_⟩
 exact o s g r (l.trans t) (λc v=>by have:=u c v;omega)
theorem wo {i:al}{a:aa}{b:Nat}{j:Nat->Prop}{m:Bx}{h:A2L}(d:Ce a b j m)
  (e: ∀s g,Own Im BK g s (kg m).1->Ext a g->(∀ c,s.ag=some c->a.size<=c)->h (J1 #[J4 s.p s.len s.cap,J6 J9 (kg m).2]) g):AA i P Ls #[Ar b] a h:=by
 obtain⟨n,o,d,p⟩:=d;refine ABv ?_;unfold VI;refine lQ d.head ⟨_,rfl,?_⟩;unfold kg at e;refine af.intro (λhd=>?_) (λhd=>?_)
 ·rw[if_pos hd] at e;exact e ⟨none,0,0⟩ a Own.nil Mod.refl (λc k=>by simp[Sl.ag] at k)
 rw[if_neg (by simp[hd])] at e;exact aD (Fs.mk (AL d.head rfl) (d.fG λs g l x f=>e s g l x f))
end Go.Lf.G
