/-
 Plain law: a box of files (chapter 3).
-/
import Derived.Test.YtfiljlifdlfkkaaGreatDoorLfKToGA
import Derived.Test.YtfiljlifdlfkkaaGreatDoorLfG1
import Derived.Shelf.Strings.Repeat
import Derived.Shelf.Small.Wraps
import Derived.Shelf.Pu.ParseUintPublic10
import Derived.Shelf.Strconv.Itoa3
import Derived.Shelf.Strconv.AtoiAll
import Derived.Shelf.Strings.BuilderK
import Derived.Test.YtfiljlifdlfkkaaGreatDoorLfAToN1
import Derived.Test.YtfiljlifdlfkkaaGreatDoorProg
import Derived.Lib.ItoaNum
import Derived.Lib.Repeat
import Derived.Lib.ParseIntB
import Derived.Test.YtfiljlifdlfkkaaGreatDoorRows
import Derived.Lib.ItoaLen
import Derived.Lib.AppendIntMem
import Derived.WalkKit
import Derived.ProofKit
import Derived.OpenShut
import Derived.JoinedCond
import Derived.Deep.Slices
import Derived.Carry
import Derived.Shelf.SlGeneric
import Derived.Shelf.SlIter.Nil
import Derived.Shelf.SlIter.Sorted
import Derived.Shelf.SortM.Plain
import Derived.Shelf.SortM.SortNone
set_option maxRecDepth 100000
set_option linter.unusedVariables false
set_option linter.unusedSimpArgs false
open Go.IntKind renaming i64→J9,wrap→J8
open Go.Value renaming string→J7,int→J6,pointer→J5,slice→J4,bool→J3,tuple→J1
open Go.Obj renaming cells→J2
open Go renaming Value→J0,Addr→Q6,TypeId→Q7,FuncId→Q8,Program→Q1
open Go.Addr renaming add→Q9,mk→Q5
namespace Go.Lf
open Go
abbrev cN:A31:=⟨#[]⟩
theorem nR:ByteArray.size ⟨#[]⟩=0:=rfl
structure Fi where
 name:A31
 dr:A31
 soft:A31
deriving DecidableEq
def Gq(l:List Fi):Prop:=l.Pairwise λa b=>aG a.name b.name=true
def Dg(a:A31)(l:List Fi):Option Fi:=l.find? λf=>decide (f.name=a)
def Qm(a:A31)(g:Fi->Fi)(l:List Fi):List Fi:=l.map λf=>if f.name=a then g f else f
def iw(a:A31)(l:List Fi):List Fi:=l.filter λf=> !decide (f.name=a)
def gJ(x:Fi):List Fi->List Fi
 | []=> [x]
 |q::l=>if aG q.name x.name then q::gJ x l else x::q::l
def bH(l:List Fi):Nat:=(l.map λf=>f.dr.size+f.soft.size+1).sum
theorem Hw(a:A31)(x:Fi)(l:List Fi):Dg a (x::l)=if x.name=a then some x else Dg a l:=by unfold Dg;rw[DS];by_cases b:x.name=a<;>simp[b]
theorem KT {b:A31}{l:List Fi}{x:Fi}(a:Dg b l=some x):x.name=b/\x∈l:=by unfold Dg at a;exact⟨by simpa using LS a,IH a⟩
theorem TA {b:A31}{l:List Fi}(a:Dg b l=none): ∀x∈l,x.name≠b:=by unfold Dg at a;rw[Hi] at a;simpa using a
theorem AJv {a:A31}{l:List Fi}(b: ∀x∈l,x.name≠a):Dg a l=none:=by unfold Dg;rw[Hi];simpa using b
theorem Gq.find {l:List Fi}(s:Gq l){x:Fi}(a:x∈l):Dg x.name l=some x:=by
 induction l with
 |nil=>cases a
 |cons d l c=>
  rw[Hw];have b:=List.pairwise_cons.1 s;rcases List.mem_cons.1 a with rfl|a
  ·simp
  ·rw[if_neg (Lu (b.1 x a))];exact c b.2 a
theorem Og(x:Fi): ∀l,(gJ x l).Perm (x::l)
 | []=>HM _
 |q::l=>by
  unfold gJ;split
  ·exact((Og x l).cons q).trans (List.Perm.swap x q l)
  ·exact HM _
theorem VP {x:Fi}: ∀ {l:List Fi},Gq l->(∀ b∈l,b.name≠x.name)->Gq (gJ x l)
 | [],_,_=>Pa _ _
 |q::l,s,e=>by
  have c:=List.pairwise_cons.1 s;unfold gJ;split
  ·rename_i d;refine List.pairwise_cons.2 ⟨λb a=>?_,VP c.2 λb a=>e b (AI _ a)⟩;rcases List.mem_cons.1 ((Og x l).subset a) with rfl|a
   ·exact d
   ·exact c.1 b a
  ·rename_i d;have f:aG x.name q.name=true:=by
    cases g:aG x.name q.name
    ·exact absurd (Mf (by simpa using d) g) (e q B8)
    ·rfl
   refine List.pairwise_cons.2 ⟨λb a=>?_,s⟩;rcases List.mem_cons.1 a with rfl|a
   ·exact f
   ·exact DK f (c.1 b a)
theorem ALB {a:A31}{g:Fi->Fi}(b: ∀f,(g f).name=f.name)(l:List Fi):(Qm a g l).map (·.name)=l.map (·.name):=by
 unfold Qm;rw[Cp];refine GS λf _=>?_
 simp only[Function.comp];split<;>simp[b]
theorem Ut {l:List Fi}:Gq l↔nK (l.map (·.name)):=by unfold Gq nK;rw[Nd]
theorem yi {k:A31}{g:Fi->Fi}(a: ∀f,(g f).name=f.name){l:List Fi}(s:Gq l):Gq (Qm k g l):=by rw[Ut,ALB a];exact Ut.1 s
theorem AKM {a:A31}{l:List Fi}(s:Gq l):Gq (iw a l):=s.sublist Hh
theorem rr {a c:A31}{g:Fi->Fi}(b: ∀f,(g f).name=f.name): ∀l:List Fi,Dg c (Qm a g l)=(Dg c l).map λf=>if f.name=a then g f else f
 | []=>rfl
 |x::l=>by
  show Dg c ((if x.name=a then g x else x)::Qm a g l)=_;rw[Hw,Hw,rr b l];have:(if x.name=a then g x else x).name=x.name:=by split<;>simp[b]
  rw[this];by_cases d:x.name=c<;>simp[d]
theorem yj {k c:A31}: ∀l:List Fi,Dg c (iw k l)=if c=k then none else Dg c l
 | []=>by simp[iw,Dg]
 |x::l=>by
  have b:=yj (k:=k) (c:=c) l;unfold iw at b ⊢;rw[AT,Hw];by_cases d:x.name=k
  ·simp only[d,decide_true,LN,BW,if_false];rw[b];by_cases a:c=k
   ·simp[a]
   ·simp[a,Ne.symm a]
  ·simp only[d,decide_false,LI,if_true];rw[Hw,b];by_cases a:c=k
   ·subst a;simp[d]
   ·simp[a]
theorem yk {x:Fi}{c:A31}: ∀ {l:List Fi},(∀ a∈l,a.name≠x.name)->Dg c (gJ x l)=if x.name=c then some x else Dg c l
 | [],_=>by show Dg c [x]=_;rw[Hw]
 |q::l,d=>by
  unfold gJ;split
  ·rw[Hw,yk λa e=>d a (AI _ e),Hw];by_cases b:q.name=c
   ·simp[b];intro f;exact absurd (b.trans f.symm) (d q B8)
   ·simp[b]
  ·rw[Hw]
theorem Mw(x:Fi)(l:List Fi):bH (x::l)=x.dr.size+x.soft.size+1+bH l:=by simp[bH]
theorem APa {l m:List Fi}(a:l.Perm m):bH l=bH m:=(a.map _).sum_nat
theorem yl(x:Fi)(l:List Fi):bH (gJ x l)=x.dr.size+x.soft.size+1+bH l:=by rw[APa (Og x l),Mw]
theorem Zl: ∀l:List Fi,l.length<=bH l
 | []=>by simp[bH]
 |x::l=>by rw[Mw,Ax];have:=Zl l;omega
theorem nT {x:Fi}: ∀ {l:List Fi},x∈l->x.dr.size+x.soft.size<=bH l
 | [],a=>by cases a
 |y::l,a=>by
  rw[Mw];rcases List.mem_cons.1 a with rfl|a
  ·omega
  ·have:=nT a;omega
theorem ru {k:A31}: ∀l:List Fi,bH (iw k l)<=bH l
 | []=>by simp[iw,bH]
 |x::l=>by
  have:=ru (k:=k) l;unfold iw at this ⊢;rw[AT];split
  ·rw[Mw,Mw];omega
  ·rw[Mw];omega
theorem lI {k:A31}{g:Fi->Fi}{d:Nat}(a: ∀f,(g f).dr.size+(g f).soft.size<=f.dr.size+f.soft.size+d): ∀ {l:List Fi},Gq l->bH (Qm k g l)<=bH l+d
 | [],_=>by simp[Qm,bH]
 |x::l,s=>by
  have b:=List.pairwise_cons.1 s;show bH ((if x.name=k then g x else x)::Qm k g l)<=_;rw[Mw,Mw];split
  ·rename_i c;have:Qm k g l=l:=by unfold Qm;rw[GS (g:=id) λe h=>?_,List.map_id];have:=Lu (b.1 e h);rw[if_neg (λi=>this (c.trans i.symm))];rfl
   rw[this];have:=a x;omega
  ·have:=lI a (k:=k) b.2;omega
structure Bx where
 files:List Fi
 fuel:Int
 down:Bool
def jM:Bx:=⟨[],-1,false⟩
def Mj(a:A31):Bool:=decide (a=cN)||decide (a.size>32)
def KE(m:Bx):Bx:=if m.fuel>0 then {m with fuel:=m.fuel-1} else m
def iW(m:Bx):Bx:= {m with down:=true}
def VD(name:A31)(l:List Fi):List Fi:=if(Dg name l).isSome then l else gJ ⟨name,cN,cN⟩ l
def Sr(a:A31)(f:Fi):Fi:= {f with soft:=f.soft++a}
def TK(f:Fi):Fi:=⟨f.name,f.dr++f.soft,cN⟩
def FI(m:Bx)(name a:A31):Int×Bx:=
 if m.down then(30,m) else if Mj name then(1,m) else if m.fuel=0 then(30,iW m) else(0,{KE m with files:=Qm name (Sr a) (VD name m.files)})
def Kh(m:Bx)(name:A31):Int×Bx:=
 if m.down then(30,m) else if(Dg name m.files).isNone then(31,m) else if m.fuel=0 then(30,iW m) else(0,{KE m with files:=Qm name TK m.files})
def KI(m:Bx)(name:A31):Int×Bx:=
 if m.down then(30,m) else if(Dg name m.files).isNone then(31,m) else if m.fuel=0 then(30,iW m) else(0,{KE m with files:=iw name m.files})
def lJ(m:Bx)(name:A31):A31×Int:=
 if m.down then(cN,30) else match Dg name m.files with|none=>(cN,31)|some f=>(f.dr++f.soft,0)
structure Hg (m:Bx):Prop where
 sorted:Gq m.files
 names: ∀f∈m.files,f.name.size<=32
 lo: -1<=m.fuel
 hi:m.fuel<=9223372036854775807
 wt:bH m.files<=8796093022208
theorem AR6(a b:A31):(a++b).size=a.size+b.size:=F0
theorem ATE(a:A31):a++cN=a:=by simp[MD,cN]
theorem yn(a:A31):cN++a=a:=by simp[MD,cN]
theorem AOs:Hg jM:=⟨List.Pairwise.nil,by simp[jM],by simp[jM],by simp[jM],by simp[jM,bH]⟩
theorem Hg.tick {m:Bx}(g:Hg m)(l:List Fi)(a:Gq l)(b: ∀f∈l,f.name.size<=32)(c:bH l<=8796093022208):Hg {KE m with files:=l}:=by
 have:=g.lo;have:=g.hi;refine⟨a,b,?_,?_,c⟩
 ·show -1<=(KE m).fuel;unfold KE;split<;>(try simp only[])<;>omega
 ·show(KE m).fuel<=_;unfold KE;split<;>(try simp only[])<;>omega
theorem Hg.off {m:Bx}(g:Hg m):Hg (iW m):=⟨g.sorted,g.names,g.lo,g.hi,g.wt⟩
theorem yo {name:A31}{l:List Fi}(s:Gq l):Gq (VD name l)/\bH (VD name l)<=bH l+1/\(∀ f∈VD name l,f∈l\/f.name=name):=by
 unfold VD;split
 ·exact⟨s,by omega,λf a=> .inl a⟩
 ·rename_i b;have c:=TA (by simpa using b);refine⟨VP s c,by rw[yl];simp[nR];omega,λf a=>?_⟩;rcases List.mem_cons.1 ((Og _ l).subset a) with rfl|a
  ·exact .inr rfl
  ·exact .inl a
theorem yp {c:A31}{g:Fi->Fi}(d: ∀f,(g f).name=f.name){l:List Fi}{f:Fi}(b:f∈Qm c g l): ∃a∈l,a.name=f.name:=by unfold Qm at b;obtain⟨a,e,rfl⟩:=List.mem_map.1 b;exact⟨a,e,by split<;>simp[d]⟩
theorem Hg.append {m:Bx}(g:Hg m){name data:A31}(n:bH m.files+data.size+1<=8796093022208):Hg (FI m name data).2:=by
 unfold FI;split
 ·exact g
 ·split
  ·exact g
  ·rename_i e;split
   ·exact g.off
   ·obtain⟨b,o,h⟩:=yo (name:=name) g.sorted;refine g.tick _ (yi (k:=name) (g:=Sr data) (λ_=>rfl) b) (λf i=>?_) ?_
    ·obtain⟨c,j,l⟩:=yp (g:=Sr data) (λ_=>rfl) i;rw[<- l];rcases h c j with a|a
     ·exact g.names c a
     ·rw[a];simp[Mj] at e;omega
    ·have:=lI (k:=name) (g:=Sr data) (d:=data.size) (λf=>by simp[Sr];omega) b;omega
theorem Hg.sync {m:Bx}(g:Hg m){name:A31}:Hg (Kh m name).2:=by
 unfold Kh;split
 ·exact g
 ·split
  ·exact g
  ·split
   ·exact g.off
   ·refine g.tick _ (yi (k:=name) (g:=TK) (λ_=>rfl) g.sorted) (λf a=>?_) ?_
    ·obtain⟨b,c,e⟩:=yp (g:=TK) (λ_=>rfl) a;rw[<- e];exact g.names b c
    ·have:=lI (k:=name) (g:=TK) (d:=0) (λf=>by simp[TK,nR]) g.sorted;have:=g.wt;omega
theorem Hg.delete {m:Bx}(g:Hg m){name:A31}:Hg (KI m name).2:=by
 unfold KI;split
 ·exact g
 ·split
  ·exact g
  ·split
   ·exact g.off
   ·exact g.tick _ (AKM g.sorted) (λf a=>g.names f (List.mem_filter.1 a).1) (AK (ru _) g.wt)
theorem ry {m:Bx}(g:Hg m)(name a:A31):bH (FI m name a).2.files<=bH m.files+a.size+1:=by
 unfold FI;split
 ·simp;omega
 ·split
  ·simp;omega
  ·split
   ·simp[iW];omega
   ·obtain⟨b,c,_⟩:=yo (name:=name) g.sorted;have:=lI (k:=name) (g:=Sr a) (d:=a.size) (λf=>by simp[Sr];omega) b;simp;omega
theorem nU {m:Bx}(g:Hg m)(name:A31):bH (Kh m name).2.files<=bH m.files:=by
 unfold Kh;split
 ·simp
 ·split
  ·simp
  ·split
   ·simp[iW]
   ·have:=lI (k:=name) (g:=TK) (d:=0) (λf=>by simp[TK,nR]) g.sorted;simpa using this
theorem yq {m:Bx}(name:A31):bH (KI m name).2.files<=bH m.files:=by
 unfold KI;split
 ·simp
 ·split
  ·simp
  ·split
   ·simp[iW]
   ·exact ru _
theorem yV {d:Type}{a:cr d}{x e:d}{c:Nat}{v:J0}(f:a.enc e=(a.enc x).set c v)(g:c<a.w): ∀ {l:List d} {i:Nat},l[i]? =some x->(l.set i e).flatMap a.enc=(l.flatMap a.enc).set (i*a.w+c) v
 | [],_,b=>by simp at b
 |y::l,0,b=>by
  simp at b;subst b;rw[List.set_cons_zero,AW,AW,f,HX,AH,Ys _ _ (by rw[a.len];exact g)]
 |y::l,i+1,b=>by
  rw[List.set_cons_succ,AW,AW,yV f g (l:=l) (i:=i) (by simpa using b),HW _ _ (by rw[a.len,CN];omega),a.len];rw[show(i+1)*a.w+c-a.w=i*a.w+c by rw[CN];omega]
theorem Own.store {e:Type}{E:cr e}{T:Q7}{d:aa}{s:Sl}{l:List e}{i j:Nat}{x x':e}{v:J0}{K:aa->Prop}(f:Own E T d s l)(hi:l[i]? =some x)(p:E.enc x'=(E.enc x).set j v)(q:j<E.w)
  (r: ∀b,Own E T b s (l.set i x')->Mod (λc=>s.ag=some c) d b->b.size=d.size->K b): ∀a,s.p=some a->ab d ((a.add (i*E.w)).add j) v K:=by
 intro a k;rcases f.row with⟨rfl,rfl⟩|⟨g,t,h,u,n,w,o,y⟩
 ·simp at hi
 ·rw[h] at k;cases k;rw[add_add,CE,AH];have z:i<l.length:=(List.getElem?_eq_some_iff.1 hi).1;have D:i*E.w+j<s.len*E.w:=by have:(i+1)*E.w<=s.len*E.w:=Bm _ (by rw[f.len];exact z);rw[CN] at this;omega
  have F:s.len*E.w<=t.size:=by rw[o];exact Bm _ n
  refine ab.mk u (by omega) λb A m B=>r b ⟨by rw[G0];exact f.len,.inr ⟨g,_,h,A,n,w,by simpa using o,?_⟩⟩ (m.ak λc _ C=>by simp[Sl.ag,h,C]) B
  rw[DO,List.take_set,y,yV p q hi]
theorem Own.ne {d:Type}{h:cr d}{T e:Q7}{f:aa}{s:Sl}{l:List d}(i:Own h T f s l){b:Nat}{j:Array J0}{fr:Nat×Nat}(a:f[b]? =some (J2 j e fr))(k:T≠e):s.ag≠some b:=by
 intro c;rcases i.row with⟨rfl,_⟩|⟨g,p,m,n,_⟩
 ·simp[Sl.ag] at c
 ·simp[Sl.ag,m] at c;subst c;rw[n] at a;injection a with a;injection a with _ o _;exact k o
end Go.Lf
namespace Go.Lf.G
open Go
theorem RN:P.underlying A9=some .string:=by kernel_rfl
theorem lR:P.underlying EL=some (.int .u8):=by kernel_rfl
theorem lS:P.underlying Dc=some (.slice EL):=by kernel_rfl
theorem zJ:Qr P Dc EL IU.w 1=true:=by kernel_rfl
theorem Cf {y:ao}{d:aa}{n:Nat}{q:A30}(z:n<18446744073709551616)(A: ∀e,Ext d e->q (.string (Ad (Bp n))) e):AA y P Ay #[.int .u64 (n:Int)] d q:=by
 refine AJi ?_;unfold vZ;have r:=AX z;refine Loop.rule (λm x f=> ∃(a:Nat) (s:Sl) (c:List UInt8),x=((a:Int),s,())/\Own IU EL f s c/\Ext d f/\(∀ b,s.ag=some b->d.size<=b)/\Bp n=c++Bp a/\m=a) ?_
  ⟨n,⟨none,0,0⟩,[],rfl,Own.nil,Mod.refl,λb g=>by simp[Sl.ag] at g,rfl,rfl⟩
 rintro K m _ f ⟨a,s,c,rfl,t,x,h,i,F⟩ B;have hd:c.length<=10:=by rw[i] at r;simp at r;omega
 refine ae.intro (λj=>?_) (λj=>?_)
 ·have k: ¬a<128:=by simp at j;omega
  refine aj.aU (E:=IU) (x:=Cq (a % 128+128)) (s:=s) (l:=c) (by dsimp only[IU];rw[ASC]) zJ t (by simp;omega) (by simp[maxLen];omega) λu e o p v C=>?_
  refine B (a / 128) _ _ (by omega) ⟨a / 128,u,c++ [Cq (a % 128+128)],?_,o,x.more p h,λb g=>?_,?_,rfl⟩
  ·dsimp only;rw[PG a 7]
  ·rcases v b g with w|w
   ·exact h b w
   ·have:=x.size;omega
  ·rw[i,Yq k];simp
 ·have k:a<128:=by simp at j;omega
  refine aj.aU (E:=IU) (x:=Cq a) (s:=s) (l:=c) (by dsimp only[IU];rw[Dk (show a<256 by omega),wrap_u8,A5 (show a<256 by omega)]) zJ t (by simp;omega) (by simp[maxLen];omega) λu e o p v C=>?_
  refine MK lS lR RN o.view ⟨_,rfl,?_⟩;have D:c++ [Cq a]=Bp n:=by rw[i,FU k]
  rw[D];exact A _ (x.more p h)
theorem APm(a:Nat):(if(10:Int)<(a:Int) then(10:Int) else(a:Int))=((min a 10:Nat):Int):=by split<;>omega
theorem zK {D:ao}{e:aa}{s:A31}{n:A30}(V:s.size<=8796093022208)
  (v:Pp 0 0 s.data.toList=none->n (.tuple #[.int .u64 0,.string ⟨#[]⟩,.bool false]) e)
  (E: ∀w t,Pp 0 0 s.data.toList=some (w,t)->n (.tuple #[.int .u64 (w:Int),.string (Ad t),.bool true]) e):AA D P SS #[.string s] e n:=by
 refine AIl ?_;unfold wB;have W:s.data.toList.length=s.size:=by rw[FG];rfl
 refine Loop.rule (λm x o=> ∃(i a:Nat),x=((a:Int),(i:Int),())/\o=e/\i<=s.size/\i<=10/\a<128^i/\Pp 0 0 s.data.toList=Pp i a (s.data.toList.drop i)/\m=10-i) ?_
  ⟨0,0,rfl,rfl,by omega,by omega,by simp,rfl,rfl⟩
 rintro K m _ o ⟨i,a,rfl,y,hi,X,F,p,Y⟩ G;subst o;dsimp only;rw[APm];refine ae.intro (λd=>?_) (λd=>?_)
 ·have z:i<s.size/\i<10:=by simp at d;omega
  have q:i<s.data.toList.length:=by omega
  refine⟨⟨by omega,by omega⟩,?_⟩;obtain⟨c,r⟩: ∃c,s.data.toList[i]? =some c:=⟨_,A2 q⟩;have A:s.data.toList.drop i=c::s.data.toList.drop (i+1):=by rw[FA q];rw[A2 q] at r;rw[B9 r]
  have B:c.toNat<256:=c.toNat_lt;rw[Sg r];have H:((i=9/\1<c.toNat)\/(0<i/\c.toNat=0))->Pp 0 0 s.data.toList=none:=λg=>by
   rw[p,A,Pp,if_pos (.inr g)]
  have I: ¬((i=9/\1<c.toNat)\/(0<i/\c.toNat=0))->Pp 0 0 s.data.toList=if c.toNat<128 then some (a+c.toNat*128^i,s.data.toList.drop (i+1)) else Pp (i+1) (a+c.toNat % 128*128^i) (s.data.toList.drop (i+1)):=λg=>by
   rw[p,A,Pp,if_neg (λe=>e.elim (by omega) g)]
  refine ah.mk λJ L=>?_
  have key: ∀(b:Bool),(b=true↔((i=9/\1<c.toNat)\/(0<i/\c.toNat=0)))->J (b,()) e:=λb g=>by
   refine L _ _ ?_;refine ae.intro (λM=>v (H (g.1 M))) (λC=>?_);have N: ¬((i=9/\1<c.toNat)\/(0<i/\c.toNat=0)):=λe=>by rw[g.2 e] at C;cases C
   have j:=I N;have O:J8 J9 ((7:Int)*(i:Int))=((7*i:Nat):Int):=by rw[show(7:Int)*(i:Int)=((7*i:Nat):Int) by simp];exact FD (by omega)
   have Q:Ec .u8 (c.toNat:Int) (127:Int)=((c.toNat % 128:Nat):Int):=by have:=zI (a:=c.toNat) (b:=127) B (by decide);rw[AUf _ B] at this;exact this
   have R:J8 .u64 ((c.toNat % 128:Nat):Int)=((c.toNat % 128:Nat):Int):=by rw[wrap_u64,A5 (by omega)]
   rw[O,Q,R,AU4 (by omega) (By _ (by decide)),ASs (by omega) F (By _ (by decide)),Ab (by omega)];have Z:=MS (show i<=9 by omega);have S:(128:Nat)^9=9223372036854775808:=by decide
   have T:c.toNat % 128*128^i % 18446744073709551616=c.toNat % 128*128^i:=by
    refine A5 ?_;by_cases k:i=9
    ·subst k;have:c.toNat<=1:=by omega
     rw[S];omega
    ·have ab:=MS (show i<=8 by omega);have ac:(128:Nat)^8=72057594037927936:=by decide
     have:c.toNat % 128*128^i<=127*128^i:=Bm _ (by omega);omega
   rw[T];refine⟨by omega,?_⟩;refine ae.intro (λd=>?_) (λd=>?_)
   ·have l:c.toNat<128:=by simp at d;omega
    rw[if_pos l] at j;refine⟨⟨by omega,by omega⟩,?_⟩;have:=E _ _ j;rw[A5 l];have y:s.extract ((i+1:Nat):Int).toNat s.size=Ad (s.data.toList.drop (i+1)):=zG _ _;rw[y];exact this
   ·have l: ¬c.toNat<128:=by simp at d;omega
    rw[if_neg l] at j;refine G (10-(i+1)) _ _ (by omega) ⟨i+1,a+c.toNat % 128*128^i,rfl,rfl,by omega,by omega,?_,j,rfl⟩;have:(c.toNat % 128+1)*128^i<=128*128^i:=Bm _ (by omega);rw[CN] at this;rw[D0,Cl (128^i)];omega
  refine ae.intro (λd=>?_) (λd=>?_)
  ·have k:i=9:=by simp at d;omega
   refine ae.intro (λu=>key _ ⟨λ_=> .inl ⟨k,by simp at u;omega⟩,λ_=>rfl⟩) (λu=>?_);refine ae.intro (λh=>key _ ⟨λf=> .inr ⟨by omega,by simp at f;omega⟩,λf=>by simp at u ⊢;omega⟩) (λh=>?_);simp at h;omega
  ·have k:i≠9:=by simp at d;omega
   refine ae.intro (λh=>key _ ⟨λf=> .inr ⟨by simp at h;omega,by simp at f;omega⟩,λf=>(by simp;omega)⟩) (λh=>key _ ⟨(λf=>(by cases f)),λf=>(by simp at h;omega)⟩)
 ·have z:s.size=i\/i=10:=by simp at d;omega
  refine v ?_;rw[p];rcases z with U|U
  ·rw[IF (by omega)];rfl
  ·cases hd:s.data.toList.drop i with
   |nil=>rfl
   |cons c t=>rw[Pp,if_pos (.inl (by omega))]
theorem aA {a:Q6}{K:Q6->Prop}(b:K a):At (some a) K:=b
theorem ab.dx {a:aa}{b d:Nat}{v:J0}{e:Array J0}{T:Q7}{K:aa->Prop}(f:a[b]? =some (J2 e T (0,0)))(g:d<e.size)
  (h: ∀c,c[b]? =some (J2 (e.setIfInBounds d v) T (0,0))->Mod (· =b) a c->c.size=a.size->K c):ab a ((⟨b,0,none⟩:Q6).add d) v K:=by
 rw[CE,AH];exact ab.mk f g h
theorem max_i64:IntKind.max J9=9223372036854775807:=by simp_all
theorem wrap_i64 {n:Int}(a: -9223372036854775808<=n)(b:n<=9223372036854775807):J8 J9 n=n:=by grind [J8,IntKind.bits,IntKind.signed]
theorem CJ {a:Nat}(b:a<18446744073709551616):J8 .u64 (a:Int)=(a:Int):=by rw[wrap_u64,A5 b]
abbrev Ar(b:Nat):J0:=J5 (some ⟨b,0,none⟩)
def KU(c:aa)(b:Nat)(a:Rd):Prop:=c[b]? =some (J2 #[J7 (Ad a.rest),J3 a.bad] XT (0,0))
theorem zL:Ad []=⟨#[]⟩:=rfl
theorem zM(l:List UInt8)(a:Nat):(Ad l).extract 0 a=Ad (l.take a):=by rw[APf,Bw]
theorem WB(l:List UInt8)(a:Nat):(Ad l).extract a (Ad l).size=Ad (l.drop a):=by rw[zG,Bw]
theorem AQO(l:List UInt8)(i a:Nat):(Ad l).extract i a=Ad ((l.take a).drop i):=by rw[dO,Bw]
theorem Aq(a b:List UInt8):Ad a++Ad b=Ad (a++b):=by apply SP;simp[Ad,IS]
theorem Ro {A:ao}{h:aa}{l:List UInt8}{R:A30}(d:l.length<=1099511627776)(b: ∀a,Ext h a->R (J7 (Ad (BU l))) a):AA A P CF #[J7 (Ad l)] h R:=by
 refine AH9 ?_;unfold w6;rw[AP,CJ (by omega)];have:=AX (n:=l.length) (by omega);refine Cf (by omega) λe c=>⟨_,rfl,⟨by rw[AP,max_i64];omega,?_⟩⟩
 rw[Aq];exact b _ c
theorem NI {d:ao}{a:aa}{l:List UInt8}{c:A30}(e: ∀b,KU b a.size ⟨l,false⟩->Ext a b->c (Ar a.size) b):AA d P Eu #[J7 (Ad l)] a c:=by refine AIX ?_;unfold wg;exact aj.mk λf _ g x _=>e f g x
theorem zN {j:ao}{d:aa}{b:Nat}{a:Rd}{h:A30}(e:KU d b a)(q:a.rest.length<=1099511627776)
  (i: ∀f,KU f b (Ht a).2->Mod (· =b) d f->h (.int .u64 ((Ht a).1:Int)) f):AA j P Iw #[Ar b] d h:=by
 refine Xm ?_;unfold QE;refine ah.mk λK k=>ae.no rfl (aA (Aa.mk (AB e rfl) (k _ _ ?_)))
 refine ae.intro (λc=>?_) (λc=>?_)
 ·have:=i d;rw[APg c] at this;exact this e Mod.refl
 ·refine aA (AL.mk (AO e rfl) ?_);have c:a.bad=false:=c;refine zK (by grind [AP,Nat.le_trans]) (λg=>⟨_,_,_,rfl,?_⟩) (λr t g=>⟨_,_,_,rfl,?_⟩)
  all_goals
   rw[Bw] at g;refine aA (ab.mk e (by simp) λs l m u=>aA (ab.dx l (by simp) λn o p v=>?_));have:=i n;simp only[Ht,c,g] at this;exact this o (m.trans p)
theorem APK {m:Nat}(a:m<=9223372036854775807):J8 .u64 (m:Int)=(m:Int):=CJ (by omega)
theorem EQ {l:ao}{e:aa}{b:Nat}{c:Rd}{most:Nat}{j:A30}(m:KU e b c)(n:c.rest.length<=1099511627776)(o:most<=9223372036854775807)
  (f: ∀g,KU g b (CX most c).2->Mod (· =b) e g->j (J6 J9 ((CX most c).1:Int)) g):AA l P Ag #[Ar b,J6 J9 (most:Int)] e j:=by
 refine YD ?_;unfold Pt;refine zN m n λk d h=>⟨_,rfl,?_⟩
 refine ah.mk λK p=>ae.no rfl (aA (Aa.mk (AB d rfl) (p _ _ ?_)))
 refine ae.intro (λa=>?_) (λa=>?_)
 ·have:=f k;have a:(Ht c).2.bad=true:=a;simp only[CX,a,if_true] at this;exact this d h
 ·have a:(Ht c).2.bad=false:=a;refine ah.mk λw q=>ae.no (by simp) (q _ _ ?_)
  rw[APK o];refine ae.intro (λi=>?_) (λi=>?_)
  ·refine aA (ab.mk d (by simp) λx r s y=>aA (ab.dx r (by simp) λt u v z=>?_));have:=f t;simp only[CX,a] at this;rw[if_neg (by simp),if_pos (by simp at i;omega)] at this;exact this u ((h.trans s).trans v)
  ·have:=f k;simp at i;simp only[CX,a] at this;rw[if_neg (by simp),if_neg (by omega)] at this;rw[FD (by omega)];exact this d h
theorem zP {n:ao}{f:aa}{b g:Nat}{d:Rd}{l:A30}(c:KU f b d)
  (h: ∀i,KU i b (Kb g d).2->Mod (· =b) f i->l (J7 (Ad (Kb g d).1)) i):AA n P H7 #[Ar b,J6 J9 (g:Int)] f l:=by
 refine Wl ?_;unfold PU;refine ah.mk λK o=>ae.no rfl (aA (Aa.mk (AB c rfl) (o _ _ ?_)))
 refine ae.intro (λa=>?_) (λa=>?_)
 ·have:=h f;have a:d.bad=true:=a;simp only[Kb,a,if_true] at this;exact this c Mod.refl
 ·have a:d.bad=false:=a;refine ah.mk λu p=>ae.no (by simp) (aA (AL.mk (AO c rfl) (p _ _ ?_)))
  rw[AP];refine ae.intro (λj=>?_) (λj=>?_)
  ·refine aA (ab.mk c (by simp) λm e k q=>aA (ab.dx e (by simp) λr s t v=>?_));have:=h r;simp only[Kb,a] at this;rw[if_neg (by simp),if_pos (by simp at j;omega)] at this;exact this s (k.trans t)
  ·simp at j;refine aA (AL.mk (AO c rfl) ⟨⟨by omega,by rw[AP];omega⟩,aA (AL.mk (AO c rfl) ⟨⟨by omega,by rw[AP];omega⟩,aA (ab.mk c (by simp) λm e k q=>?_)⟩)⟩);have:=h m;simp only[Kb,a] at this;rw[if_neg (by simp),if_neg (by omega)] at this;simp only[An,zM,WB] at e ⊢;rw[a] at e;exact this e k
theorem Ic {k:ao}{d:aa}{b:Nat}{a:Rd}{g:A30}(l:KU d b a)(v:a.rest.length<1099511627776)
  (h: ∀e,KU e b (GZ a).2->Mod (· =b) d e->g (J7 (Ad (GZ a).1)) e):AA k P Br #[Ar b] d g:=by
 refine Wd ?_;unfold PX;refine zN l (by omega) λm f i=>⟨_,rfl,?_⟩
 have w:=Ui a;refine ah.mk λK n=>ae.no rfl (aA (Aa.mk (AB f rfl) (n _ _ ?_)))
 refine ae.intro (λc=>?_) (λc=>?_)
 ·have:=h m;have c:(Ht a).2.bad=true:=c;simp only[GZ,c,if_true] at this;exact this f i
 ·have c:(Ht a).2.bad=false:=c;have o:J8 J9 (if(1099511627776:Int)<((Ht a).1:Int) then 1099511627776 else((Ht a).1:Int))=((min (Ht a).1 1099511627776:Nat):Int):=by grind [wrap_i64]
  rw[o];refine zP f λp j q=>⟨_,rfl,?_⟩
  have:=h p;simp only[GZ,c] at this;rw[if_neg (by simp)] at this;have r:Kb (min (Ht a).1 1099511627776) (Ht a).2=Kb (Ht a).1 (Ht a).2:=by
   by_cases s:(Ht a).1<=1099511627776
   ·rw[Ft s]
   ·have t:(Ht a).2.rest.length<min (Ht a).1 1099511627776:=by omega
    have u:(Ht a).2.rest.length<(Ht a).1:=by omega
    simp only[Kb,c,BW,if_false,if_pos t,if_pos u]
  rw[r] at j ⊢;exact this j (i.trans q)
theorem QA {g:ao}{c:aa}{b:Nat}{r:Rd}{e:A30}(f:KU c b r)(a:e (J3 (fU r)) c):AA g P Cc #[Ar b] c e:=by
 refine Xq ?_;unfold QO;refine ae.yes rfl (aA (Aa.mk (AB f rfl) ?_));unfold fU at a;refine ae.intro (λd=>?_) (λd=>?_)
 ·refine aA (AL.mk (AO f rfl) ?_);rw[d] at a;have h:bD (Ad r.rest) (⟨#[]⟩:A31)=r.rest.isEmpty:=by grind [Bj,zL,Oy]
  rw[h];simpa using a
 ·rw[d] at a;exact a
theorem ARH {c:Nat}(e:c<4294967296):Mr .u32 ((c:Int).fdiv ((2:Int)^(1:Nat))) (Ec .u32 (3988292384:Int) (J8 .u32 (0-(Ec .u32 (c:Int) (1:Int)))))=((lQ c:Nat):Int):=by
 have f:Ec .u32 (c:Int) (1:Int)=((c % 2:Nat):Int):=by rw[<- Nat.and_one_is_mod];exact AS7 e (by decide)
 rw[PG c 1,f];unfold lQ;have hd:c / 2^1<4294967296:=by omega
 by_cases a:c % 2=1
 ·rw[if_pos a,a];have b:J8 .u32 (0-((1:Nat):Int))=((4294967295:Nat):Int):=by decide
  have d:Ec .u32 (3988292384:Int) ((4294967295:Nat):Int)=((3988292384:Nat):Int):=by decide
  rw[b,d,QF hd (by decide)]
 ·rw[if_neg a,show c % 2=0 by omega];have b:J8 .u32 (0-((0:Nat):Int))=((0:Nat):Int):=by decide
  have d:Ec .u32 (3988292384:Int) ((0:Nat):Int)=((0:Nat):Int):=by decide
  rw[b,d,QF hd (by decide)];simp
theorem ATO {c:Nat}(b:c<4294967296):Mr .u32 (if IntKind.signed .u32 then -1 else IntKind.max .u32) (c:Int)=((4294967295-c:Nat):Int):=by
 have d:(if IntKind.signed .u32 then -1 else IntKind.max .u32)=((4294967295:Nat):Int):=by decide
 rw[d,QF (by decide) b];congr 1;have e:4294967295-c=2^32-(c+1):=by omega
 have f:(4294967295:Nat)=2^32-1:=by decide
 have a:c<2^32:=by omega
 rw[e,f];apply Nat.eq_of_testBit_eq;intro i;rw[Nat.testBit_xor,Nat.testBit_two_pow_sub_one,Nat.testBit_two_pow_sub_succ a];by_cases hi:i<32
 ·simp[hi]
 ·have:c.testBit i=false:=Nat.testBit_lt_two_pow (Fc a (S7 (by decide) (by omega)));simp[hi,this]
theorem zQ {q:ao}{d:aa}{l:List UInt8}{k:A30}(v:l.length<=1099511627776)(r:k (.int .u32 (jP l:Int)) d):AA q P QK #[J7 (Ad l)] d k:=by
 refine AIA ?_;unfold wm;rw[AP];refine Loop.rule (λm x b=> ∃i:Nat,x=((iB (l.take i):Int),(i:Int),())/\b=d/\m=l.length-i/\i<=l.length) ?_ ⟨0,rfl,rfl,rfl,by omega⟩;rintro K m _ b ⟨i,rfl,e,rfl,hi⟩ s;subst b;refine ae.intro (λf=>?_) (λf=>?_)
 ·have g:i<l.length:=by simpa using f
  obtain⟨c,o⟩: ∃c,l[i]? =some c:=⟨_,A2 g⟩;have w:c.toNat<256:=c.toNat_lt;refine⟨⟨by dsimp only;omega,by dsimp only;omega⟩,?_⟩;have p:=zA (l.take i);dsimp only;rw[Sg (c:=c) (by rw[Bw];exact o),wrap_u32,A5 (show c.toNat<4294967296 by omega),QF p (by omega)];have t:iB (l.take i) ^^^ c.toNat<4294967296:=HJ (n:=32) p (by omega);refine Loop.rule (λm x b=> ∃a:Nat,x=((oz a (iB (l.take i) ^^^ c.toNat):Int),(a:Int),())/\b=d/\m=8-a/\a<=8) ?_ ⟨0,rfl,rfl,rfl,by omega⟩;rintro y z _ b ⟨a,rfl,e,rfl,A⟩ u;subst b;refine ae.intro (λh=>?_) (λh=>?_)
  ·have j:a<8:=by simp at h;omega
   dsimp only;rw[ARH (rS t a),Ab (by omega)];exact u (8-(a+1)) _ _ (by omega) ⟨a+1,rfl,rfl,rfl,j⟩
  ·have j:a=8:=by simp at h;omega
   subst j;dsimp only;rw[Ab (by omega)];refine s (l.length-(i+1)) _ _ (by omega) ⟨i+1,?_,rfl,rfl,g⟩;rw[AE,o,E0,APD];rfl
 ·have g:i=l.length:=by simp at f;omega
  have e:l.take i=l:=As (by omega);dsimp only;rw[e,ATO (zA l)];exact r
theorem rU(a b:Nat):J8 .u8 ((a:Int).fdiv ((2:Int)^b))=(((Cq (a / 2^b % 256)).toNat:Nat):Int):=by rw[PG,wrap_u8,Dk (By _ (by decide))]
theorem zR {f:ao}{b:aa}{a:Nat}{c:A30}(g: ∀d,Ext b d->c (J7 (Ad (Te a))) d):AA f P OQ #[.int .u32 (a:Int)] b c:=by
 refine AFq ?_;unfold wk;refine aj.mk λh _ e x _=>?_
 have i:J8 .u8 (a:Int)=(((Cq (a % 256)).toNat:Nat):Int):=by rw[wrap_u8,Dk (By _ (by decide))]
 rw[rU,rU,rU,i] at e;have j:Own IU EL h ⟨some ⟨b.size,0,none⟩,4,4⟩ (Te a):=Own.lit (E:=IU) (l:=Te a) e rfl (by simp[maxLen,Te]);exact MK (s:=⟨some ⟨b.size,0,none⟩,4,4⟩) lS lR RN j.view ⟨_,rfl,g _ x⟩
theorem rV {e:ao}{a:aa}{l:List UInt8}{b:A30}(f:l.length<=1099511627776)(g:1048576<l.length->b (J1 #[J7 ⟨#[]⟩,J6 J9 2]) a)
  (h:l.length<=1048576-> ∀d,Ext a d->b (J1 #[J7 (Ad (IZ l)),J6 J9 0]) d):AA e P IA #[J7 (Ad l)] a b:=by
 refine AFh ?_;unfold Zo;rw[AP];refine ae.intro (λc=>g (by simp at c;omega)) (λc=>?_);have i:l.length<=1048576:=by simp at c;omega
 have:=AX (n:=l.length) (by omega);rw[CJ (by omega)];refine Cf (by omega) λm j=>⟨_,rfl,?_⟩
 refine zQ f ⟨_,rfl,?_⟩;refine zR λo k=>⟨_,rfl,⟨?_,?_,?_⟩⟩
 ·grind [AP,max_i64,MN]
 ·rw[Aq,AP,max_i64,A1,MN];omega
 ·rw[Aq,Aq];exact h i _ (j.trans k)
theorem AP1 {B:ao}{f:aa}{l:List UInt8}{w:A30}(C:l.length<=8796093022208)
  (g: ∀y,Ext f y->w (J1 #[J7 (Ad (Pv l).2.1),J7 (Ad (Pv l).2.2),J6 J9 ((Pv l).1:Int)]) y):AA B P Sw #[J7 (Ad l)] f w:=by
 refine AFd ?_;unfold Zg;rw[AP];have d:=g f Mod.refl;refine zK (by rw[AP];exact C) (λh=>⟨_,_,_,rfl,?_⟩) (λb t h=>⟨_,_,_,rfl,?_⟩)<;>rw[Bw] at h
 ·have k:Pv l=if l.length<10/\ ∀c∈l,128<=c.toNat then(20,[],[]) else(21,[],[]):=by unfold Pv;rw[h]
  rw[k] at d;refine ah.mk λK n=>ae.yes rfl (n _ _ ?_)
  refine ae.intro (λa=>?_) (λa=>?_)
  ·have o:l.length<10:=by simp at a;omega
   refine Loop.rule (λm x e=> ∃i:Nat,x=((i:Int),())/\e=f/\m=l.length-i/\i<=l.length/\ ∀c∈l.take i,128<=c.toNat) ?_ ⟨0,rfl,rfl,rfl,by omega,by simp⟩;rintro Q m _ e ⟨i,rfl,R,rfl,hi,z⟩ D;subst e;refine ae.intro (λp=>?_) (λp=>?_)
   ·have q:i<l.length:=by simpa using p
    obtain⟨c,E⟩: ∃c,l[i]? =some c:=⟨_,A2 q⟩;refine⟨⟨by dsimp only;omega,by dsimp only;omega⟩,?_⟩;dsimp only;rw[Sg (c:=c) (by rw[Bw];exact E)];refine ae.intro (λF=>?_) (λF=>?_)
    ·rw[if_neg] at d
     ·exact d
     grind
    ·rw[Ab (by omega)];refine D (l.length-(i+1)) _ _ (by omega) ⟨i+1,rfl,rfl,rfl,q,λx S=>?_⟩
     grind [List.take_add_one,Option.toList_some]
   ·have q:i=l.length:=by simp at p;omega
    rw[As (by omega)] at z;rw[if_pos ⟨o,z⟩] at d;exact d
  ·have o: ¬l.length<10:=by simp at a;omega
   rw[if_neg (λe=>o e.1)] at d;refine ah.mk λG r=>ae.yes rfl (r _ _ (ae.yes rfl d))
 ·obtain⟨T,U⟩:=rR h;have V:t.length<=8796093022208:=by grind
  have k:Pv l=if 1048576<b then(21,[],[]) else if t.length<4+b then(20,[],[])
    else if t.take 4=Te (jP ((t.drop 4).take b)) then(0,(t.drop 4).take b,t.drop (4+b)) else(21,[],[]):=by unfold Pv;rw[h]
  rw[k] at d g;refine ah.mk λK n=>ae.no rfl (n _ _ (ae.no rfl ?_))
  refine ah.mk λG r=>ae.no rfl (r _ _ ?_)
  refine ae.intro (λa=>?_) (λa=>?_)
  ·have s:1048576<b:=by simp at a;omega
   rw[if_pos s] at d;exact d
  have s: ¬1048576<b:=by simp at a;omega
  rw[if_neg s] at d g;rw[AP];refine ah.mk λH I=>?_
  have key: ∀u:Bool,(u=true↔t.length<4+b)->H (u,()) f:=λu J=>by
   refine I _ _ ?_;refine ae.intro (λa=>?_) (λa=>?_)
   ·rw[if_pos (J.1 a)] at d;exact d
   have v: ¬t.length<4+b:=λe=>by grind
   rw[if_neg v] at d g;have L:J8 .u64 ((4:Int)+(b:Int))=((4+b:Nat):Int):=by grind [CJ]
   rw[L];refine⟨⟨by omega,by omega⟩,⟨by omega,by omega⟩,⟨by omega,by omega⟩,?_⟩;have M:(Ad t).extract (4:Int).toNat ((4+b:Nat):Int).toNat=Ad ((t.drop 4).take b):=by rw[show(4:Int).toNat=4 from rfl,An,AQO,List.drop_take];congr 2;omega
   have em:(Ad t).extract 0 (4:Int).toNat=Ad (t.take 4):=zM _ _;have A:(Ad t).extract ((4+b:Nat):Int).toNat (Ad t).size=Ad (t.drop (4+b)):=by rw[An,WB]
   rw[AP] at A;rw[M,em,A];refine zQ (by simp;omega) ⟨_,rfl,?_⟩;refine zR λv N=>⟨_,rfl,?_⟩
   have j:=g v N;rw[Bj];refine ae.intro (λa=>?_) (λa=>?_)
   ·rw[if_neg (by grind)] at j;exact j
   ·rw[if_pos (by grind [Oy])] at j;exact⟨⟨by omega,by omega⟩,j⟩
  refine ae.intro (λa=>key _ ⟨λ_=>by simp at a;omega,λ_=>rfl⟩) (λa=>key _ ?_);have W:4<=t.length:=by simp at a;omega
  have O:J8 .u64 (J8 J9 ((t.length:Int)-(4:Int)))=((t.length-4:Nat):Int):=by grind [FD,CJ]
  rw[O];simp;omega
theorem Ed.mk {b:aa}{a:Q6}{K:Option Nat->Prop}{n:Option Nat}(c:af b a=some (.map n))(d:K n):Ed b a K:=⟨n,c,d⟩
theorem jr:P.underlying CV=some (.map A9 wZ):=by kernel_rfl
theorem kR:(zeroValue wZ).calc P=some (J5 none):=by kernel_rfl
abbrev eM(a:List (Fi×Nat)):List (A31×J0):=a.map λp=>(p.1.name,Ar p.2)
structure FB (h:aa) (b r:Nat) (kv:List (Fi×Nat)) (m:Bx):Prop where
 head:h[b]? =some (J2 #[.map (some r),J6 J9 m.fuel,J3 m.down] qH (0,0))
 map:WX h r (eM kv)
 cells: ∀p∈kv,h[p.2]? =some (J2 #[J7 p.1.dr,J7 p.1.soft] YK (0,0))
 perm:(kv.map (·.1)).Perm m.files
 nodup:(kv.map (·.2)).Nodup
 aL:Hg m
def Kj(b a:Nat)(d:List (Fi×Nat))(c:Nat):Prop:=c=b\/c=a\/ ∃p∈d,p.2=c
def Dl(e:aa)(b:Nat)(f:Nat->Prop)(m:Bx):Prop:= ∃a d,FB e b a d m/\ ∀c,f c↔Kj b a d c
theorem FB.fY {e:aa}{b a:Nat}{f:List (Fi×Nat)}{m:Bx}(c:FB e b a f m):a≠b:=by rintro rfl;obtain⟨g,h,d,_⟩:=c.map;rw[c.head] at d;cases d
theorem FB.eF {g:aa}{b c:Nat}{d:List (Fi×Nat)}{m:Bx}(a:FB g b c d m){p:Fi×Nat}(h:p∈d):p.2≠b/\p.2≠c:=by
 have e:=a.cells p h;constructor
 ·intro f;rw[f,a.head] at e;cases e
 ·intro f;obtain⟨i,j,k,_⟩:=a.map
  simp_all
theorem FB.lt {d:aa}{b e:Nat}{f:List (Fi×Nat)}{m:Bx}(a:FB d b e f m){c:Nat}(g:Kj b e f c):c<d.size:=by
 rcases g with rfl|rfl|⟨p,h,rfl⟩
 ·exact Aj a.head
 ·exact a.map.lt
 ·exact Aj (a.cells p h)
theorem Dl.lt {d:aa}{b:Nat}{e:Nat->Prop}{m:Bx}(a:Dl d b e m){c:Nat}(f:e c):c<d.size:=by obtain⟨h,i,a,g⟩:=a;exact a.lt ((g c).1 f)
theorem Dl.aL {c:aa}{b:Nat}{d:Nat->Prop}{m:Bx}(a:Dl c b d m):Hg m:=by obtain⟨e,f,a,g⟩:=a;exact a.aL
theorem FB.mod {g h:aa}{b d:Nat}{e:List (Fi×Nat)}{m:Bx}{T:Nat->Prop}(a:FB g b d e m)(x:Mod T g h)(f: ∀c,Kj b d e c-> ¬T c):FB h b d e m:=
 ⟨x.ag a.head (f _ (.inl rfl)),a.map.mod x (f _ (.inr (.inl rfl))),λp i=>x.ag (a.cells p i) (f _ (.inr (.inr ⟨p,i,rfl⟩))),a.perm,a.nodup,a.aL⟩
theorem Dl.mod {e f:aa}{b:Nat}{a T:Nat->Prop}{m:Bx}(d:Dl e b a m)(x:Mod T e f)(h: ∀c,a c-> ¬T c):Dl f b a m:=by obtain⟨i,j,d,g⟩:=d;exact⟨i,j,d.mod x λc k=>h c ((g c).2 k),g⟩
theorem Dl.ext {a c:aa}{b:Nat}{d:Nat->Prop}{m:Bx}(e:Dl a b d m)(x:Ext a c):Dl c b d m:=e.mod x λ_ _ a=>a
theorem FB.hd {f d:aa}{b e:Nat}{h:List (Fi×Nat)}{m c:Bx}(a:FB f b e h m)(j:d[b]? =some (J2 #[.map (some e),J6 J9 c.fuel,J3 c.down] qH (0,0)))(x:Mod (· =b) f d)(k:c.files=m.files)(g:Hg c):FB d b e h c:=
 ⟨j,a.map.mod x a.fY,λp i=>x.ag (a.cells p i) (a.eF i).1,by rw[k];exact a.perm,a.nodup,g⟩
theorem th(b:A31): ∀a:List (Fi×Nat),VB b (eM a)=(a.find? λp=>decide (p.1.name=b)).map λp=>Ar p.2
 | []=>rfl
 |p::a=>by
  show VB b ((p.1.name,Ar p.2)::eM a)=_;rw[Ov,th b a,DS]
  grind
theorem FB.mem {d:aa}{b e:Nat}{a:List (Fi×Nat)}{m:Bx}(g:FB d b e a m){f:Fi}:f∈m.files↔ ∃c,(f,c)∈a:=by
 rw[<- g.perm.mem_iff]
 simp_all
theorem FB.look {i:aa}{b j:Nat}{d:List (Fi×Nat)}{m:Bx}(e:FB i b j d m)(a:A31):
  (VB a (eM d)=none/\Dg a m.files=none)\/ ∃p∈d,VB a (eM d)=some (Ar p.2)/\Dg a m.files=some p.1/\p.1.name=a:=by
 rw[th];cases k:d.find? λp=>decide (p.1.name=a) with
 |none=>
  refine .inl ⟨rfl,AJv λf l=>?_⟩;obtain⟨c,n⟩:=e.mem.1 l
  grind
 |some p=>
  have g:p.1.name=a:=by grind
  have h:=IH k;refine .inr ⟨p,h,rfl,?_,g⟩;rw[<- g];exact e.aL.sorted.find (e.mem.2 ⟨p.2,h⟩)
theorem AJY {a:List (Fi×Nat)}{l:List Fi}(p:(a.map (·.1)).Perm l)(s:Gq l):(a.map λq=>q.1.name).Nodup:=by
 have b:(l.map (·.name)).Nodup:=by refine List.pairwise_map.2 (s.imp λc=>Lu c)
 have d:(a.map λq=>q.1.name).Perm (l.map (·.name)):=by have:=p.map (·.name);simpa [Cp,GP] using this
 exact(d.nodup_iff).2 b
theorem FB.inj {e:aa}{b f:Nat}{a:List (Fi×Nat)}{m:Bx}(c:FB e b f a m){p q:Fi×Nat}(g:p∈a)(h:q∈a)(j:p.1.name=q.1.name):p=q:=by
 have k:=AJY c.perm c.aL.sorted;obtain⟨i,hi,rfl⟩:=CI g;obtain⟨d,l,rfl⟩:=CI h;have:i=d:=by
  have n:i<(a.map λq=>q.1.name).length:=by simpa using hi
  have o:d<(a.map λq=>q.1.name).length:=by simpa using l
  refine(OK (h₀:=n) (h₁:=o) k).1 ?_;simpa using j
 subst this;rfl
theorem FB.set {j h':aa}{b k:Nat}{c:List (Fi×Nat)}{m:Bx}(a:FB j b k c m){p:Fi×Nat}(e:p∈c){g:Fi->Fi}(A: ∀f,(g f).name=f.name)
  (o:h'[p.2]? =some (J2 #[J7 (g p.1).dr,J7 (g p.1).soft] YK (0,0))) (x:Mod (· =p.2) j h') (r:Hg {m with files:=Qm p.1.name g m.files}):
  FB h' b k (c.map λq=>(if q.1.name=p.1.name then g q.1 else q.1,q.2)) {m with files:=Qm p.1.name g m.files}:=by
 refine⟨x.ag a.head (a.eF e).1.symm,?_,?_,?_,?_,r⟩
 ·have d:eM (c.map λq=>(if q.1.name=p.1.name then g q.1 else q.1,q.2))=eM c:=by
   simp only[eM,Cp];refine GS λq _=>?_
   grind
  rw[d];exact a.map.mod x (a.eF e).2.symm
 ·intro q s;obtain⟨l,h,rfl⟩:=List.mem_map.1 s;simp only;by_cases d:l.1.name=p.1.name
  ·rw[if_pos d];have:=a.inj h e d;subst this;exact o
  ·rw[if_neg d];refine x.ag (a.cells l h) λt=>d ?_
   have u:=a.nodup;obtain⟨i,hi,rfl⟩:=CI e;obtain⟨n,v,rfl⟩:=CI h;have:n=i:=by
    have w:i<(c.map (·.2)).length:=by simpa using hi
    have y:n<(c.map (·.2)).length:=by simpa using v
    refine(OK (h₀:=y) (h₁:=w) u).1 ?_;simpa using t
   subst this;rfl
 ·have z:=a.perm.map λf=>if f.name=p.1.name then g f else f
  simpa [Qm,Cp,GP] using z
 ·simpa [Cp,GP] using a.nodup
theorem tj {b d:Nat}{e:List (Fi×Nat)}{g:Fi×Nat->Fi}(c:Nat):Kj b d (e.map λq=>(g q,q.2)) c↔Kj b d e c:=by
 unfold Kj;constructor
 ·grind
 ·rintro(a|a|⟨p,f,rfl⟩)
  ·exact .inl a
  ·exact .inr (.inl a)
  ·exact .inr (.inr ⟨_,List.mem_map.2 ⟨p,f,rfl⟩,rfl⟩)
theorem tn {b:A31}{v:J0}: ∀ {m:List (A31×J0)},VB b m=none->fQ b v m=m++ [(b,v)]
 | [],_=>rfl
 |p::m,a=>by
  rw[Ov] at a;split at a
  ·cases a
  ·rename_i c;unfold fQ;rw[if_neg c,tn a];rfl
theorem kS {d:ao}{a:aa}{b:Nat}{e f:J0}{down:Bool}{T:Q7}{c:A30}(g:a[b]? =some (J2 #[e,f,J3 down] T (0,0)))(h:c (J3 down) a):
  AA d P Gl #[Ar b] a c:=by
 refine ADj ?_;unfold Xc;exact ae.no rfl (aA (Aa.mk (AB g rfl) h))
theorem AQu {e:ao}{c:aa}{name:A31}{d:A30}(a:d (J3 (Mj name)) c):AA e P Un #[J7 name] c d:=by
 refine AHd ?_;unfold vH;unfold Mj at a;rw[Bj];refine ae.intro (λb=>?_) (λb=>?_)
 ·rw[b] at a;exact a
 ·rw[b] at a;have f:decide ((name.size:Int)>(32:Int))=decide (name.size>32):=by grind
  rw[f];simpa using a
def mF(fuel:Int):Int:=if fuel>0 then fuel-1 else fuel
theorem ATF {o:ao}{d:aa}{b:Nat}{h:J0}{fuel:Int}{down:Bool}{T:Q7}{i:A30}(f:d[b]? =some (J2 #[h,J6 J9 fuel,J3 down] T (0,0)))(lo: -1<=fuel)(hi:fuel<=9223372036854775807)
  (p:fuel=0-> ∀a,a[b]? =some (J2 #[h,J6 J9 fuel,J3 true] T (0,0))->Mod (· =b) d a->a.size=d.size->i (J3 false) a)
  (e:fuel≠0-> ∀a,a[b]? =some (J2 #[h,J6 J9 (mF fuel),J3 down] T (0,0))->Mod (· =b) d a->a.size=d.size->i (J3 true) a):AA o P Hr #[Ar b] d i:=by
 refine ACW ?_;unfold UX;refine aA (AC.mk (AB f rfl) ?_);refine ae.intro (λc=>?_) (λc=>?_)
 ·refine aA (ab.dx f (by simp) λj g k l=>?_);exact p (by simpa using c) j (by simpa using g) k l
 ·have c:fuel≠0:=by simpa using c
  have e:=e c;unfold mF at e;refine ah.mk λK n=>?_
  refine aA (AC.mk (AB f rfl) ?_);refine ae.intro (λc=>?_) (λc=>?_)
  ·have m:fuel>0:=by simpa using c
   rw[if_pos m] at e;refine aA (AC.mk (AB f rfl) (aA (ab.dx f (by simp) λj g k l=>n _ _ ?_)));rw[wrap_i64 (by omega) (by omega)] at g;exact e j (by simpa using g) k l
  ·have m: ¬fuel>0:=by simpa using c
   rw[if_neg m] at e;exact n _ _ (e d f Mod.refl rfl)
theorem JV(m:Bx):(KE m).fuel=mF m.fuel/\(KE m).down=m.down/\(KE m).files=m.files:=by grind [KE,mF]
theorem ALI {m:Bx}(g:Hg m):Hg (KE m):=by have:=g.tick m.files g.sorted g.names g.wt;rwa [<- (JV m).2.2] at this
theorem FB.j6 {p:ao}{e:aa}{b f:Nat}{g:List (Fi×Nat)}{m:Bx}(d:FB e b f g m){i:A30}
  (q:m.fuel=0-> ∀a,FB a b f g (iW m)->Mod (Kj b f g) e a->i (J3 false) a)
  (r:m.fuel≠0-> ∀a,FB a b f g (KE m)->Mod (Kj b f g) e a->a.size=e.size->i (J3 true) a):AA p P Hr #[Ar b] e i:=by
 refine ATF d.head d.aL.lo d.aL.hi (λj k l h o=>?_) (λj k l h o=>?_)
 ·exact q j k (d.hd l h rfl d.aL.off) (h.ak λc _ n=> .inl n)
 ·obtain⟨s,t,u⟩:=JV m;refine r j k (d.hd ?_ h u (ALI d.aL)) (h.ak λc _ n=> .inl n) o;rw[s,t];exact l
theorem FB.fg {d:aa}{b a:Nat}{e:List (Fi×Nat)}{m:Bx}(i:FB d b a e m){p:Fi×Nat}(f:p∈e){data:A31}(k:Hg {m with files:=Qm p.1.name (Sr data) m.files}){K:aa->Prop}
  (r: ∀j l,FB j b a l {m with files:=Qm p.1.name (Sr data) m.files}->Mod (Kj b a e) d j->(∀ c,Kj b a l c↔Kj b a e c)->K j):
  At (some ⟨p.2,0,none⟩) λs=>AL d (s.add 1) λt=>aE (((t.size+data.size:Nat):Int)<=IntKind.i64.max)<|At (some ⟨p.2,0,none⟩) λu=>ab d (u.add 1) (J7 (t++data)) K:=by
 have h:=i.cells p f;refine aA (AL.mk (AB h rfl) ⟨?_,aA (ab.dx h (by simp) λn v o y=>?_)⟩)
 ·have n:bH (Qm p.1.name (Sr data) m.files)<=8796093022208:=k.wt;have w:Sr data p.1∈Qm p.1.name (Sr data) m.files:=by refine List.mem_map.2 ⟨p.1,i.mem.2 ⟨p.2,f⟩,by simp⟩
  have x:=nT w;simp only[Sr,AR6] at x;simp[IntKind.max,IntKind.bits,IntKind.signed];omega
 ·exact r n _ (i.set f (g:=Sr data) (λ_=>rfl) (by simpa [Sr] using v) o k) (o.ak λc _ h=> .inr (.inr ⟨p,f,h.symm⟩)) (λc=>tj (g:=λq=>if q.1.name=p.1.name then Sr data q.1 else q.1) c)
theorem tq {S:ao}{e:aa}{b:Nat}{l:Nat->Prop}{m:Bx}{name data:A31}{L:A30}(k:Dl e b l m)(T:bH m.files+data.size+1<=8796093022208)
  (g: ∀B S',Dl B b S' (FI m name data).2->Mod l e B->(∀ c,S' c->l c\/e.size<=c)->L (J6 J9 (FI m name data).1) B):AA S P Jf #[Ar b,J7 name,J7 data] e L:=by
 have n:=k.aL.append (name:=name) (data:=data) T;obtain⟨j,o,k,r⟩:=k;refine Y0 ?_;unfold Rf;refine kS k.head ⟨_,rfl,?_⟩;unfold FI at g n;refine ae.intro (λhd=>?_) (λhd=>?_)
 ·rw[if_pos hd] at g;exact g e l ⟨j,o,k,r⟩ Mod.refl (λc d=> .inl d)
 rw[if_neg (by simp[hd])] at g n;refine AQu ⟨_,rfl,?_⟩;refine ae.intro (λw=>?_) (λw=>?_)
 ·rw[if_pos w] at g;exact g e l ⟨j,o,k,r⟩ Mod.refl (λc d=> .inl d)
 rw[if_neg (by simp[w])] at g n;have C: ∀ {q:aa},Mod (Kj b j o) e q->Mod l e q:=λs=>s.ak λc _ d=>(r c).2 d
 refine k.j6 (λD q i s=>⟨_,rfl,?_⟩) (λD q i s ag=>⟨_,rfl,?_⟩)
 ·rw[if_pos D] at g;exact ae.yes rfl (g q l ⟨j,o,i,r⟩ (C s) (λc d=> .inl d))
 rw[if_neg D] at g n;refine ae.no rfl ?_;refine aA (Ed.mk (AO i.head rfl) (Rm jr RN kR i.map ?_));rcases i.look name with⟨x,E⟩|⟨p,h,x,E,U⟩
 ·
  rw[x];refine⟨none,rfl,ah.mk λK F=>ae.yes rfl ?_⟩;refine aj.mk λai _ V M ak=>?_
  have t:=i.mod M (λ_ _ e=>e);refine aA (Ed.mk (AO t.head rfl) ?_);have W:name.size<=32:=by simp[Mj] at w;omega
  have al:=Zl (KE m).files;have X:o.length=(KE m).files.length:=by rw[<- i.perm.length_eq];simp
  rw[(JV m).2.2] at X;have am:=Zl m.files;refine AOf jr RN t.map (by simp[maxLen];omega) (by simp[eM,maxLen];omega) λN O y an=>?_
  rw[tn x] at O;have ap:=y.ag V (by have:=i.map.lt;omega);have u:=E;rw[(JV m).2.2] at u;have G:VD name m.files=gJ ⟨name,cN,cN⟩ m.files:=by unfold VD;rw[u];rfl
  have Y:=TA u;have Z:=yl ⟨name,cN,cN⟩ m.files;simp only[nR] at Z;have ab:FB N b j (o++ [(⟨name,cN,cN⟩,q.size)]) {KE m with files:=gJ ⟨name,cN,cN⟩ m.files}:=by
   refine⟨y.ag t.head t.fY.symm,?_,?_,?_,?_,?_⟩
   ·rw[eM,Bs];exact O
   ·intro p h;rcases List.mem_append.1 h with h|h
    ·exact y.ag (t.cells p h) (t.eF h).2
    simp_all
   ·rw[Bs];refine(List.perm_append_singleton _ _).trans (((i.perm.trans (List.Perm.of_eq (JV m).2.2)).cons _).trans (Og _ _).symm)
   ·rw[Bs];refine List.nodup_append.2 ⟨i.nodup,by simp,?_⟩;intro a ac c d;obtain⟨p,h,rfl⟩:=List.mem_map.1 ac;simp at d;subst d;have:=Aj (i.cells p h);omega
   ·refine k.aL.tick _ (VP k.aL.sorted Y) (λf H=>?_) (by omega);rcases List.mem_cons.1 ((Og _ _).subset H) with rfl|H
    ·exact W
    ·exact k.aL.names f H
  refine F _ _ ?_;rw[G] at g n;refine ab.fg (p:=(⟨name,cN,cN⟩,q.size)) (by simp) (data:=data) n λI v z J A=>?_
  have Q: ∀c,Kj b j v c->Kj b j o c\/e.size<=c:=λc d=>by
   rcases(A c).1 d with e|e|⟨p,h,rfl⟩
   ·exact .inl (.inl e)
   ·exact .inl (.inr (.inl e))
   ·rcases List.mem_append.1 h with h|h
    ·exact .inl (.inr (.inr ⟨p,h,rfl⟩))
    simp_all
  refine g I (Kj b j v) ⟨j,v,z,λ_=>CA⟩ ?_ (λc d=>(Q c d).imp (r c).2 id);have af:Mod (Kj b j o) q N:=M.mod.trans (y.ak λc _ d=> .inr (.inl d));refine C ((s.trans af).then (J.ak λc _ d=>Q c ((A c).2 d)))
 ·
  rw[x];refine⟨some ⟨p.2,0,none⟩,rfl,ah.mk λK F=>ae.no rfl (F _ _ ?_)⟩;have u:=E;rw[(JV m).2.2] at u;have G:VD name m.files=m.files:=by unfold VD;rw[u];rfl
  rw[G] at g n;subst U;have R:=(JV m).2.2;refine i.fg h (data:=data) (by rw[R];exact n) λI v z J A=>?_
  refine g I l ⟨j,v,by rw[R] at z;exact z,λc=>(r c).trans (A c).symm⟩ (C (s.trans J)) (λc d=> .inl d)
theorem tt {D:ao}{e:aa}{b:Nat}{o:Nat->Prop}{m:Bx}{name:A31}{x:A30}(a:Dl e b o m)
  (d: ∀h',Dl h' b o (Kh m name).2->Mod o e h'->x (J6 J9 (Kh m name).1) h'):AA D P LU #[Ar b,J7 name] e x:=by
 have i:=a.aL.sync (name:=name);obtain⟨j,r,a,k⟩:=a;refine ACc ?_;unfold Vk;refine kS a.head ⟨_,rfl,?_⟩;unfold Kh at d i;have y: ∀ {l:aa},Mod (Kj b j r) e l->Mod o e l:=λn=>n.ak λc _ f=>(k c).2 f
 refine ae.intro (λhd=>?_) (λhd=>?_)
 ·rw[if_pos hd] at d;exact d e ⟨j,r,a,k⟩ Mod.refl
 rw[if_neg (by simp[hd])] at d i;refine aA (Ed.mk (AO a.head rfl) (Rm jr RN kR a.map ?_));rcases a.look name with⟨s,t⟩|⟨p,u,s,t,E⟩
 ·rw[s];rw[t] at d;exact⟨none,rfl,ae.yes rfl (d e ⟨j,r,a,k⟩ Mod.refl)⟩
 rw[s];rw[t,if_neg (by simp)] at d i;refine⟨some ⟨p.2,0,none⟩,rfl,ae.no rfl ?_⟩;refine a.j6 (λv l h n=>⟨_,rfl,?_⟩) (λv l h n H=>⟨_,rfl,?_⟩)
 ·rw[if_pos v] at d;exact ae.yes rfl (d l ⟨j,r,h,k⟩ (y n))
 rw[if_neg v] at d i;refine ae.no rfl ?_;refine aA (Ed.mk (AO h.head rfl) (Rm jr RN kR h.map ?_));rw[s];refine⟨some ⟨p.2,0,none⟩,rfl,?_⟩;have f:=h.cells p u;refine aA (AL.mk (AO f rfl) (aA (AL.mk (AB f rfl) ⟨?_,?_⟩)))
 ·have w:=nT (KT t).2;have:=a.aL.wt;simp[IntKind.max,IntKind.bits,IntKind.signed];omega
 refine aA (ab.mk f (by simp) λI F z J=>aA (ab.dx F (by simp) λw G A K=>?_));subst E;have B:=(JV m).2.2;have C:=h.set u (h':=w) (g:=TK) (λ_=>rfl) (by simpa [TK] using G) (z.trans A) (by rw[B];exact i);rw[B] at C;refine d w ⟨j,_,C,λc=>(k c).trans (tj (g:=λq=>if q.1.name=p.1.name then TK q.1 else q.1) c).symm⟩ (y (n.trans ((z.trans A).ak λc _ f=> .inr (.inr ⟨p,u,f.symm⟩))))
theorem AQd {i:ao}{e:aa}{b:Nat}{j:Nat->Prop}{m:Bx}{name:A31}{g:A30}(a:Dl e b j m)
  (c:g (J1 #[J7 (lJ m name).1,J6 J9 (lJ m name).2]) e):AA i P I7 #[Ar b,J7 name] e g:=by
 obtain⟨l,n,a,o⟩:=a;refine ACB ?_;unfold UL;refine kS a.head ⟨_,rfl,?_⟩;unfold lJ at c;refine ae.intro (λhd=>?_) (λhd=>?_)
 ·rw[if_pos hd] at c;exact c
 rw[if_neg (by simp[hd])] at c;refine aA (Ed.mk (AO a.head rfl) (Rm jr RN kR a.map ?_));rcases a.look name with⟨f,d⟩|⟨p,k,f,d,q⟩
 ·rw[f];rw[d] at c;exact⟨none,rfl,ae.yes rfl c⟩
 rw[f];rw[d] at c;refine⟨some ⟨p.2,0,none⟩,rfl,ae.no rfl ?_⟩;have h:=a.cells p k;refine aA (AL.mk (AO h rfl) (aA (AL.mk (AB h rfl) ⟨?_,c⟩)));have r:=nT (KT d).2;have:=a.aL.wt;simp[IntKind.max,IntKind.bits,IntKind.signed];omega
theorem ASk(a:A31)(b:List (Fi×Nat)):iu a (eM b)=eM (b.filter λp=> !decide (p.1.name=a)):=by unfold iu eM;rw[List.filter_map];rfl
theorem tu {D:ao}{a:aa}{b:Nat}{i:Nat->Prop}{m:Bx}{name:A31}{y:A30}(d:Dl a b i m)
  (e: ∀t S',Dl t b S' (KI m name).2->Mod i a t->(∀ c,S' c->i c)->y (J6 J9 (KI m name).1) t):AA D P Hq #[Ar b,J7 name] a y:=by
 have k:=d.aL.delete (name:=name);obtain⟨j,l,d,n⟩:=d;refine AAH ?_;unfold RU;refine kS d.head ⟨_,rfl,?_⟩;unfold KI at e k;have z: ∀ {g:aa},Mod (Kj b j l) a g->Mod i a g:=λo=>o.ak λc _ r=>(n c).2 r
 refine ae.intro (λhd=>?_) (λhd=>?_)
 ·rw[if_pos hd] at e;exact e a i ⟨j,l,d,n⟩ Mod.refl (λ_ a=>a)
 rw[if_neg (by simp[hd])] at e k;refine aA (Ed.mk (AO d.head rfl) (Rm jr RN kR d.map ?_));rcases d.look name with⟨u,v⟩|⟨p,A,u,v,F⟩
 ·rw[u];rw[v] at e;exact⟨none,rfl,ae.yes rfl (e a i ⟨j,l,d,n⟩ Mod.refl (λ_ a=>a))⟩
 rw[u];rw[v,if_neg (by simp)] at e k;refine⟨some ⟨p.2,0,none⟩,rfl,ae.no rfl ?_⟩;refine d.j6 (λw g h o=>⟨_,rfl,?_⟩) (λw g h o G=>⟨_,rfl,?_⟩)
 ·rw[if_pos w] at e;exact ae.yes rfl (e g i ⟨j,l,h,n⟩ (z o) (λ_ a=>a))
 rw[if_neg w] at e k;refine ae.no rfl ?_;refine aA (Ed.mk (AO h.head rfl) (AN7 jr RN h.map λB C x H=>⟨rfl,?_⟩));rw[ASk] at C;have I:=(JV m).2.2;have E:FB B b j (l.filter λp=> !decide (p.1.name=name)) {KE m with files:=iw name m.files}:=by
  refine⟨x.ag h.head h.fY.symm,C,λq s=>?_,?_,?_,k⟩
  ·have s:=(List.mem_filter.1 s).1;exact x.ag (h.cells q s) (h.eF s).2
  ·have g:=d.perm.filter λf=> !decide (f.name=name)
   rw[List.filter_map] at g;exact g
  ·exact(List.filter_sublist.map _).nodup d.nodup
 refine e B (Kj b j _) ⟨j,_,E,λ_=>CA⟩ (z (o.trans (x.ak λc _ r=> .inr (.inl r)))) (λc r=>(n c).2 ?_);rcases r with a|a|⟨p,A,rfl⟩
 ·exact .inl a
 ·exact .inr (.inl a)
 ·exact .inr (.inr ⟨p,(List.mem_filter.1 A).1,rfl⟩)
theorem tv {h:ao}{a:aa}{e:A30}(i: ∀b d f,Dl d b f jM->Ext a d->(∀ c,f c->a.size<=c)->e (Ar b) d):AA h P Vz #[] a e:=by
 refine AME ?_;unfold vS;refine aj.mk λj _ k l q=>aj.mk λm _ n g r=>?_
 refine i _ m (Kj j.size a.size []) ⟨_,[],⟨n,WX.empty (g.ag k (by simp)),by simp,HM _,by simp,AOs⟩,λ_=>CA⟩ (l.trans g) ?_;rintro c (rfl|rfl|⟨p,o,_⟩)
 ·omega
 ·exact A0 _
 ·cases o
end Go.Lf.G
namespace Go.Proofs
open Go.Shelf
def Tryz.ct:Go.Shelf.Ren:=⟨λ|105=>296|212=>322|99=>323|165=>324|166=>288|170=>325|169=>290|263=>347|264=>348|206=>349|240=>316|241=>350|276=>335|277=>358|a=>a,λ|9=>9|3=>3|4=>4|20=>20|0=>0|46=>177|109=>406|5=>5|72=>380|76=>349|51=>174|146=>175|53=>123|148=>424|70=>378|37=>186|75=>348|127=>400|164=>416|80=>140|a=>a,λ|a=>a⟩
theorem Tryz.dY:Go.Proofs.Lays.n105 Tryz.prog Tryz.ct:=by repeat' first|exact Lf.De (by kernel_rfl)|kernel_rfl|decide|constructor
theorem Tryz.dH:Builder.Extra Tryz.prog Tryz.ct:=by repeat' first|exact Lf.De (by kernel_rfl)|kernel_rfl|decide|constructor
theorem Tryz.ib:Lays.n166 Tryz.prog Tryz.ct:= {Tryz.dY with}
theorem Tryz.ic:Lays.n169 Tryz.prog Tryz.ct:= {Tryz.dY with}
def Tryz.eI:Go.Shelf.Ren:=⟨λ|103=>319|210=>336|206=>349|a=>a,λ|9=>9|4=>4|24=>221|3=>3|a=>a,λ|a=>a⟩
theorem Tryz.ie:Go.Proofs.Lays.n103 Tryz.prog Tryz.eI:=by repeat' first|exact Lf.De (by kernel_rfl)|kernel_rfl|decide|constructor
def Tryz.cB:Go.Shelf.Ren:=⟨λ|14=>320|16=>337|17=>305|19=>353|20=>354|21=>329|22=>330|23=>331|24=>332|25=>351|27=>54|26=>352|28=>101|29=>176|30=>243|31=>244|32=>245|33=>246|35=>285|34=>300|36=>301|37=>302|38=>303|39=>326|40=>327|a=>a,λ|9=>9|3=>3|22=>123|24=>348|25=>403|4=>4|34=>408|5=>5|36=>177|37=>186|0=>0|39=>411|21=>21|44=>429|47=>400|50=>437|48=>435|2=>2|52=>337|55=>340|59=>389|60=>174|20=>20|61=>390|65=>426|66=>427|67=>140|a=>a,λ|0=>3|1=>4|2=>0|3=>1|4=>2|a=>a⟩
theorem Tryz.dI:Go.Proofs.LaysPu.n14 Tryz.prog Tryz.cB:=by repeat' first|exact Lf.De (by kernel_rfl)|kernel_rfl|decide|constructor
def Tryz.dZ:Go.Shelf.Ren:=⟨λ|171=>54|243=>101|246=>176|283=>243|284=>244|285=>245|286=>246|129=>285|317=>300|318=>301|319=>302|320=>303|337=>326|338=>327|a=>a,λ|3=>3|9=>9|2=>2|4=>4|171=>337|0=>0|53=>123|37=>186|5=>5|173=>340|212=>389|51=>174|20=>20|213=>390|46=>177|232=>426|233=>427|a=>a,λ|17=>0|18=>1|19=>2|a=>a⟩
theorem Tryz.gg:Go.Proofs.LaysM.n171 Tryz.prog Tryz.dZ:=by repeat' first|exact Lf.De (by kernel_rfl)|kernel_rfl|decide|constructor
end Go.Proofs
namespace Go.Lf
open Go
def Oo(a:Nat):List UInt8:=Lib.repeatL [48] (8-(Lib.decDigits a).length)++Lib.decDigits a
def fx(a:Nat)(l:List UInt8):Nat:=l.foldl (λa c=>a*10+(c.toNat-48)) a
def nL(l:List UInt8):Prop:= ∀c∈l,48<=c.toNat/\c.toNat<=57
theorem nM {a:Nat}(b:a<10):(UInt8.ofNat (48+a)).toNat=48+a:=by simp only[UInt8.toNat_ofNat'];omega
theorem WP: ∀a:Nat,nL (Lib.decDigits a)/\fx 0 (Lib.decDigits a)=a:=by
 intro a
 induction a using Nat.strongRecOn with
 |ind a g=>
  by_cases d:a<10
  ·rw[Lib.decDigits,dif_pos d];refine⟨λc b=>?_,?_⟩
   ·rw[List.mem_singleton.1 b,nM d];omega
   ·simp only[fx,Hv,N3,nM d];omega
  ·rw[Lib.decDigits,dif_neg d];obtain⟨h,e⟩:=g (a / 10) (by omega);have f:a % 10<10:=By _ (by decide);refine⟨λc b=>?_,?_⟩
   ·rcases List.mem_append.1 b with b|b
    ·exact h c b
    ·rw[List.mem_singleton.1 b,nM f];omega
   ·unfold fx at e ⊢;rw[G3,e];simp only[Hv,N3,nM f];omega
theorem re: ∀k:Nat,nL (Lib.repeatL [48] k)/\ ∀l,fx 0 (Lib.repeatL [48] k++l)=fx 0 l
 |0=>⟨λc a=>(by cases a),λl=>rfl⟩
 |k+1=>by
  obtain⟨b,d⟩:=re k;refine⟨λc a=>?_,λl=>?_⟩
  ·rcases List.mem_append.1 a with a|a
   ·rw[List.mem_singleton.1 a];decide
   ·exact b c a
  ·show fx 0 (([48]++Lib.repeatL [48] k)++l)=_;rw[A4];exact d l
theorem rf(a:Nat):nL (Oo a)/\fx 0 (Oo a)=a:=by
 refine⟨λc b=>?_,?_⟩
 ·rcases List.mem_append.1 b with b|b
  ·exact(re _).1 c b
  ·exact(WP a).1 c b
 ·exact((re _).2 _).trans (WP a).2
theorem y6: ∀(l:List UInt8) (a:Nat),a<=fx a l
 | [],a=>A0 _
 |c::l,a=>by
  have:=y6 l (a*10+(c.toNat-48));have b:fx a (c::l)=fx (a*10+(c.toNat-48)) l:=rfl;rw[b];omega
theorem y7: ∀(l:List UInt8) (a:Nat),nL l->fx a l<=4294967295->Lib.parseUintM 4294967295 a l= .ok (fx a l)
 | [],a,_,_=>rfl
 |c::l,a,hd,b=>by
  have d:fx a (c::l)=fx (a*10+(c.toNat-48)) l:=rfl;rw[d] at b ⊢;have e:=hd c (by simp);have g:=y6 l (a*10+(c.toNat-48));unfold Lib.parseUintM;rw[if_pos e,if_neg (by omega),if_neg (by omega)];exact y7 l _ (λx f=>hd x (AI _ f)) b
theorem y8: ∀(l:List UInt8) (a:Nat) {u:Nat},a<=4294967295->Lib.parseUintM 4294967295 a l= .ok u->u<=4294967295
 | [],a,u,d,b=>by
  unfold Lib.parseUintM at b;injection b with b;omega
 |c::l,a,u,d,b=>by
  unfold Lib.parseUintM at b;split at b
  ·split at b
   ·cases b
   ·split at b
    ·cases b
    ·exact y8 l _ (by omega) b
  ·cases b
theorem y9 {a:Nat}(d:a<=4294967295):Lib.parseUintB 32 (Oo a)= .ok a:=by
 obtain⟨e,b⟩:=rf a;have f:Oo a≠ []:=by intro g;have h:Lib.decDigits a= []:=(List.append_eq_nil_iff.1 g).2;have c:=congrArg List.length h;rw[Lib.decDigits_length] at c;have:=Lib.nDigits_pos a;simp at c;omega
 unfold Lib.parseUintB;rw[if_neg f];have:=y7 (Oo a) 0 e (by rw[b];exact d);rw[b] at this;exact this
theorem ARr {a b:Nat}(d:Oo a=Oo b):a=b:=by have c:=(rf a).2;rw[d,(rf b).2] at c;exact c.symm
theorem AKl {k:Nat}: ∀ {n:Nat},n<10^(k+1)->Lib.nDigits n<=k+1:=by
 induction k with
 |zero=>intro n a;rw[Lib.nDigits_small (by simpa using a)];omega
 |succ k c=>
  intro n a;by_cases b:n<10
  ·rw[Lib.nDigits_small b];omega
  ·rw[Lib.nDigits_big b];have:=c (n:=n / 10) (by rw[D0] at a;omega);omega
theorem ya {n:Nat}(a:n<=99999999):(Oo n).length=8:=by have b:=AKl (k:=7) (n:=n) (by have:(10:Nat)^(7+1)=100000000:=(by decide);omega);simp only[Oo,A1,Lib.repeatL_length,Lib.decDigits_length,BE];omega
theorem AK8 {a:Nat}(b:(Oo a).length=8):a<=99999999:=by
 have c:Lib.nDigits a<=8:=by simp only[Oo,A1,Lib.repeatL_length,Lib.decDigits_length,BE] at b;omega
 have d:=Lib.lt_pow_nDigits a;have e:(10:Nat)^Lib.nDigits a<=10^8:=S7 (by decide) c;have:(10:Nat)^8=100000000:=by decide
 omega
def br(a:A31)(b:Nat):A31:=a++Ad (Oo b)
theorem SA(a:A31)(b:Nat):bl (br a b)=bl a++Oo b:=by show(a++Ad (Oo b)).data.toList=a.data.toList++Oo b;rw[IS,LR];exact congrArg _ (Bw _)
theorem nN {a:A31}{b c:Nat}(e:br a b=br a c):b=c:=by have d:=congrArg bl e;rw[SA,SA] at d;exact ARr (HP d)
theorem ARG {nm:A31}{a:Nat}(b:a<=99999999):(br nm a).size=nm.size+8:=by rw[br,F0,AP,ya b]
inductive rh:List UInt8->List (List UInt8)->Prop
 |stop {l:List UInt8} (h:(Pv l).1≠0):rh l []
 |step {l:List UInt8} {rs:List (List UInt8)} (h:(Pv l).1=0) (s:rh (Pv l).2.2 rs):rh l ((Pv l).2.1::rs)
abbrev aT(a:List (List UInt8)):List UInt8:=a.flatMap IZ
theorem AQq:(Pv []).1≠0:=by decide
theorem Ki {r:List UInt8}(a:r.length<=1048576):r.length+5<=(IZ r).length/\(IZ r).length<=r.length+14:=by
 have b:=AX (n:=r.length) (by omega);have c:1<=(Bp r.length).length:=by rw[Bp];split<;>simp
 simp only[IZ,A1,MN];omega
end Go.Lf
namespace Go.Lf.G
open Go
def oD:String:=Proofs.YtfiljlifdlfkkaaGreatDoor.Rows.worldSpreadsRow.named.getD 2 (String.ofList [])
def cW(a:aa):Prop:= ∀(b:ao) (c:Nat),Lib.TabIs P (b.at a c) oD .u64 Lib.pow10Tab
theorem cW.ext {a b:aa}(t:cW a)(x:Ext a b):cW b:=by intro c d;have e:=(Lib.tabBelow_of_tabIs (t c d)) (c.at b d) ⟨rfl,rfl,rfl,x.size,λf g=>x.get f g (λa=>a)⟩;exact e
def kH(b:aa)(g:Nat):Prop:= ∃a,af b ⟨g,0,none⟩=some a/\(a= .nilIface\/ ∃c d,a= .iface c d)
theorem kH.ext {a b:aa}{g:Nat}(c:kH a g)(x:Ext a b):kH b g:=by obtain⟨d,e,f⟩:=c;exact⟨d,x.af e,f⟩
structure bL (h:aa):Prop where
 dB:cW h
 sO:kH h (Proofs.Tryz.cB.g 0)
 sP:kH h (Proofs.Tryz.cB.g 1)
theorem bL.ext {b c:aa}(a:bL b)(x:Ext b c):bL c:=⟨a.dB.ext x,a.sO.ext x,a.sP.ext x⟩
theorem sj {e:ao}{d:aa}{i:Nat}{a:World}(b:RowKit.Below d.size (e.at d i) a):a=e.at a.heap a.drawn/\Ext d a.heap:=by obtain⟨f,g,h,j,k⟩:=b;refine⟨?_,⟨j,λc l _=>k c l⟩⟩;cases a;simp only[ao.at] at f g h ⊢;subst f g h;rfl
theorem AGk {d:ao}{b:aa}{e:Nat}{a:Q6}{v:J0}(c:af b a=some v):(d.at b e).cell? a=some v:=by unfold af at c;unfold World.cell?;exact c
theorem WC {d:ao}{a:aa}{c:Int}{e:A30}(t:cW a)(g: -9223372036854775808<=c)(h:c<=9223372036854775807)(i: ∀f,Ext a f->e (J7 ⟨(Lib.itoa c).toArray⟩) f):
  AA d P Fy #[J6 J9 c] a e:=by
 intro m;refine Calls.mono (Proofs.Any.strconv_Itoa Proofs.Tryz.gg c g h (d.at a m) (t d m)) ?_;rintro l n ⟨rfl,j,os,rfl⟩;refine⟨_,rfl,a++os,m+j,rfl,i _ ⟨by simp,λb k _=>by rw[Kx k]⟩⟩
theorem AOv {b:ao}{a:aa}{s:A31}{c:Nat}{d:A30}(g:c<=8)(h:s.size<=8)(i: ∀e,Ext a e->d (J7 (Ad (Lib.repeatL (bl s) c))) e):
  AA b P RL #[J7 s,J6 J9 c] a d:=by
 intro m;have k:s.size*c<=8*8:=Nat.mul_le_mul h g;refine Calls.mono (Proofs.Any.strings_Repeat Proofs.Tryz.dY Proofs.Tryz.dH s c (b.at a m) (by omega) (by omega)) ?_;rintro l f ⟨rfl,hB⟩;obtain⟨j,x⟩:=sj hB;exact⟨_,rfl,f.heap,f.drawn,j,i _ x⟩
theorem AHg {b:ao}{a:aa}{s p:A31}{c:A30}(d:c (J1 #[J7 (Ad (Lib.trimPrefix (bl s) (bl p))),J3 (Lib.hasPrefix (bl s) (bl p))]) a):
  AA b P Nj #[J7 s,J7 p] a c:=by
 intro m;refine Calls.mono (Proofs.Any.strings_CutPrefix Proofs.Tryz.ie s p (b.at a m)) ?_;rintro e f ⟨rfl,rfl⟩;exact⟨_,rfl,a,m,rfl,d⟩
theorem AQQ {g:ao}{a:aa}{s:A31}{h:A30}(o:bL a)(z:s.size<=8)
  (p: ∀u:Nat,Lib.parseUintB 32 (bl s)= .ok u-> ∀e,Ext a e->h (J1 #[.int .u64 u,.nilIface]) e)
  (q:(∀ u,Lib.parseUintB 32 (bl s)≠ .ok u)-> ∀e (w:Int) t v,Ext a e->h (J1 #[.int .u64 w,.iface t v]) e):
  AA g P Nz #[J7 s,J6 J9 10,J6 J9 32] a h:=by
 intro m;cases c:Lib.parseUintB 32 (bl s)
 ·rename_i u;refine Calls.mono (Proofs.Any.strconv_ParseUint_10_at32_ok Proofs.Tryz.dI s (by omega) u c (g.at a m)) ?_;rintro r d ⟨rfl,i|i⟩
  ·subst i;exact⟨_,rfl,a,m,rfl,p u c a Mod.refl⟩
  ·subst i;refine⟨_,rfl,_,_,rfl,p u c _ ?_⟩;refine⟨?_,λb A _=>?_⟩
   ·simp[Lib.bytesWorld,World.freeze,World.alloc,World.drew,ao.at]
   ·simp[Lib.bytesWorld,World.freeze,World.alloc,World.drew,ao.at,KB,Array.getElem?_push];rw[if_neg (by omega),if_neg (by omega)]
 ·obtain⟨j,k,l⟩:=o.sO;refine Calls.mono (Proofs.Any.strconv_ParseUint_10_at32_syntax Proofs.Tryz.dI s (by omega) c j (g.at a m) (AGk k) l) ?_;rintro r d ⟨y,rfl,_,_,hB⟩;obtain⟨n,x⟩:=sj hB;exact⟨_,rfl,d.heap,d.drawn,n,q (λu f=>by rw[c] at f;cases f) _ _ _ _ x⟩
 ·obtain⟨j,k,l⟩:=o.sP;refine Calls.mono (Proofs.Any.strconv_ParseUint_10_at32_range Proofs.Tryz.dI s (by omega) c j (g.at a m) (AGk k) l) ?_;rintro r d ⟨y,rfl,_,_,hB⟩;obtain⟨n,x⟩:=sj hB;exact⟨_,rfl,d.heap,d.drawn,n,q (λu f=>by rw[c] at f;cases f) _ _ _ _ x⟩
theorem oE {g:ao}{c:aa}{b:A31}{a:Nat}{d:A30}(h:bL c)(p:a<=4294967295)(q:b.size<=1099511627776)(i: ∀e,Ext c e->d (J7 (br b a)) e):
  AA g P KY #[J7 b,J6 J9 a] c d:=by
 refine AJD ?_;unfold vD;refine WC h.dB (by omega) (by omega) λr j=>⟨_,rfl,?_⟩
 have k:Lib.itoa (a:Int)=Lib.decDigits a:=Lib.itoa_nonneg a;rw[k];have f:(⟨(Lib.decDigits a).toArray⟩:A31).size=(Lib.decDigits a).length:=by simp[ByteArray.size]
 have s:(Lib.decDigits a).length<=20:=by rw[Lib.decDigits_length];exact Lib.nDigits_le20 a (by omega)
 have l:(if((J8 J9 ((8:Int)-(((⟨(Lib.decDigits a).toArray⟩:A31).size:Nat):Int))):Int)>0 then(J8 J9 ((8:Int)-(((⟨(Lib.decDigits a).toArray⟩:A31).size:Nat):Int))) else 0)=((8-(Lib.decDigits a).length:Nat):Int):=by rw[f,wrap_i64 (by omega) (by omega)];split<;>omega
 rw[l];refine AOv (by omega) (by decide) λm n=>⟨_,rfl,?_,?_,?_⟩
 ·have:(Ad (Lib.repeatL (bl ⟨#[48]⟩) (8-(Lib.decDigits a).length))).size<=8:=by rw[AP,Lib.repeatL_length];simp[bl]
  rw[max_i64];omega
 ·have:(Ad (Lib.repeatL (bl ⟨#[48]⟩) (8-(Lib.decDigits a).length))).size<=8:=by rw[AP,Lib.repeatL_length];simp[bl]
  rw[F0,max_i64,f];omega
 ·have:=i m (j.trans n);have o:br b a=(b++Ad (Lib.repeatL (bl ⟨#[48]⟩) (8-(Lib.decDigits a).length)))++⟨(Lib.decDigits a).toArray⟩:=by rw[br,Oo,<-Aq,ByteArray.append_assoc];rfl
  rw[o] at this;exact this
theorem AOL {I:ao}{g:aa}{c s:A31}{p:A30}(C:bL g)(J:c.size<=1099511627776)(U:s.size<=1099511627776)
  (D: ∀h (j:Nat),Ext g h->(j=0-> ∀a:Nat,1<=a->a<=99999999->s≠br c a)->(j≠0->j<=99999999/\s=br c j)->p (J6 J9 j) h):
  AA I P Su #[J7 c,J7 s] g p:=by
 refine AFs ?_;unfold Yk;have l: ∀h,Ext g h->(∀ a:Nat,1<=a->a<=99999999->s≠br c a)->p (J6 J9 0) h:=λh x r=>D h 0 x (λ_=>r) (λg=>absurd rfl g)
 refine AHg ⟨_,_,rfl,?_⟩;cases k:Lib.hasPrefix (bl s) (bl c) with
 |false=>
  refine ah.mk λK n=>ae.yes rfl (n _ _ (ae.yes rfl (l g Mod.refl λa _ _ f=>?_)))
  subst f;rw[SA] at k;unfold Lib.hasPrefix at k;rw[SR] at k;exact k (List.isPrefixOf_iff_prefix.2 (List.prefix_append _ _))
 |true=>
  have E:=k;unfold Lib.hasPrefix at E;obtain⟨e,hd⟩:=List.isPrefixOf_iff_prefix.1 E;have L:Lib.trimPrefix (bl s) (bl c)=e:=by unfold Lib.trimPrefix;rw[if_pos k,<-hd];simp
  rw[L];refine ah.mk λK n=>ae.no rfl ?_
  have M: ∀b:Bool,b=true->(∀ a:Nat,1<=a->a<=99999999->s≠br c a)->K (b,()) g:=λb N r=>n _ _ (ae.yes N (l g Mod.refl r))
  have F:(Ad e).size=e.length:=AP e;by_cases w:e.length=8
  ·refine n _ _ (ae.no (by simp[F,w]) ?_);have G:bl (Ad e)=e:=FO e;refine AQQ C (by omega) (λu i d o=>⟨_,_,rfl,?_⟩) (λi d j t v o=>⟨_,_,rfl,ah.mk λO y=>?_⟩)
   ·rw[G] at i;have Q:u<=4294967295:=by
     have:Lib.parseUintB 32 e= .ok u:=i;unfold Lib.parseUintB at this;split at this
     ·cases this
     ·exact y8 e 0 (by omega) this
    have R:J8 J9 (u:Int)=(u:Int):=wrap_i64 (by omega) (by omega);rw[R];refine ah.mk λO y=>?_
    refine⟨trivial,ae.no rfl ?_⟩;refine oE (C.ext o) Q J λz S=>⟨_,rfl,y _ _ ?_⟩
    have A:=o.trans S;refine ae.intro (λq=>?_) (λq=>?_)
    ·have q:br c u≠s:=by
      intro f;have:bD (br c u) s=true:=by rw[Bj];exact decide_eq_true f
      dsimp only at q;rw[this] at q;cases q
     refine l z A λa _ B f=>q ?_
     have d:bl s=bl c++Oo a:=by rw[f,SA]
     rw[<- hd] at d;have m:e=Oo a:=HP d;rw[m,y9 (by omega)] at i;have:a=u:=by injection i
     rw[<- this];exact f.symm
    ·have q:br c u=s:=by
      have q:(!bD (br c u) s)=false:=q;have q:bD (br c u) s=true:=by simpa using q
      rw[Bj] at q;exact of_decide_eq_true q
     have d:bl s=bl c++Oo u:=by rw[<- q,SA]
     rw[<- hd] at d;have m:e=Oo u:=HP d;have T:u<=99999999:=AK8 (by rw[<- m];exact w);by_cases H:u=0
     ·subst H;refine l z A λa V _ f=>?_
      have:=nN (f.symm.trans q.symm);omega
     ·exact D z u A (λg=>absurd g H) λ_=>⟨T,q.symm⟩
   ·rw[G] at i;refine⟨trivial,ae.yes rfl (y _ _ (ae.yes rfl (l d o λa _ B f=>?_)))⟩;have d:bl s=bl c++Oo a:=by rw[f,SA]
    rw[<- hd] at d;have m:e=Oo a:=HP d;exact i a (by rw[m];exact y9 (by omega))
  ·refine M _ (by simp[F];omega) λa _ B f=>w ?_
   have d:bl s=bl c++Oo a:=by rw[f,SA]
   rw[<- hd] at d;rw[HP d,ya B]
open Go Go.ChangeShapes Go.WideShapes Go.ChangeAt Go.RowKit Go.Proofs.YtfiljlifdlfkkaaGreatDoor
theorem AQH {H:Type}(a:DataW H):1<=Rows.uptoBulk a:=by
 cases a with
 |lit l=>cases l<;>simp[Rows.uptoBulk]
 |nil=>simp[Rows.uptoBulk]
 |ptr a=>simp[Rows.uptoBulk]
 |slice b spare=>simp[Rows.uptoBulk]
 |agg c=>simp[Rows.uptoBulk]
 |iface t a=>simp[Rows.uptoBulk]
 |map d=>simp[Rows.uptoBulk]
 |held e=>simp[Rows.uptoBulk]
theorem APX {H:Type}(l:List (DataW H)):l.length<=Rows.uptoBulkAll l:=by
 induction l with
 |nil=>simp[Rows.uptoBulkAll]
 |cons x a b=>have:=AQH x;simp only[Rows.uptoBulkAll,Ax];omega
theorem xn {H:Type}{enc:Q7×J0->H}{P:Q1}(d:laidOutB P=true){e f:World}{g:Nat->Bool}: ∀ {ts:List Q7} {c:List J0} {ds:List (DataW H)} {ps:List MemPlace},
  (ts.all λt=>P.readableRec t&&decide (t<P.types.size))=true->DataW.TrodAll enc P e 0 (λ_=>true) true ts c ds ps->(∀ p∈ps,e.sameAt f p)->(∀ p∈ps,g p.block=true)->DataW.TrodAll enc P f 0 g true ts c ds ps
 | [],[],[],_,_,j,_,_=>j
 |t::ts,v::c,n::ds,_,b,⟨p,q,k,l,m⟩,h,i=>by
  simp only[N4,A3,decide_eq_true_eq] at b;subst m;exact⟨p,q,WideElems.Trod_stays d b.1.1 b.1.2 k (λx a=>h x (Hj _ a)) (λx a=>i x (Hj _ a)),
   xn d (by simpa using b.2) l (λx a=>h x (IT _ a)) (λx a=>i x (IT _ a)),rfl⟩
def lB(a:World):ao:=⟨a.tape,a.os,a.output⟩
theorem AQa {H:Type}{enc:Q7×J0->H}{P:Q1}{f:Func}{s:ChangeSpec}{a:World}{args:Array J0}{ds d:List (DataW H)}{j:List MemPlace}{r:Q7}{e:aa}{k:Nat}
  (l:DataW.Whole enc P f.params.toList s.vars false a args.toList ds d j) (u:s.vars= []) (z:(s.fn H (ds++d)).results= [.lit (.bool true)]) (A:(s.fn H (ds++d)).args=ds) (B:(s.fn H (ds++d)).vars= [])
  (C:laidOutB P=true) (g:(f.params.toList.all λt=>P.readableRec t&&decide (t<P.types.size))=true) (D:f.resultTypes= #[r]) (E:P.underlying r=some .bool) (x:Ext a.heap e):
  s.post enc P f false true false false a args (.bool true) ((lB a).at e k):=by
 have v:=λp (g:p∈j)=>l.lt p g
 have F: ∀p∈j,a.sameAt ((lB a).at e k) p:=λp g=>by
  have y:e[p.block]? =a.heap[p.block]? :=x.get _ (v p g) (λh=>h);cases p with
  |cell b off=>
   show af e ⟨b,off,none⟩=af a.heap ⟨b,off,none⟩;exact RP y
  |map b=>exact y
 obtain⟨p,q,hA,m,rfl,K,L⟩:=id l;rw[u] at m;have G:d= []/\q= []:=by
  cases d with
  |nil=>exact⟨rfl,m⟩
  |cons _ _=>exact m.elim
 obtain⟨rfl,rfl⟩:=G;refine⟨ds,[],p++ [],[],p,[],l,?_,?_,?_,?_,λh=>by cases h⟩
 ·rw[z,D];exact⟨[],[],⟨1,by simp[DataW.trod,Value.cells,E]⟩,rfl,rfl⟩
 ·rw[A];exact xn C g hA (λn o=>F n (Hj _ o)) (λn o=>by simpa using v n (Hj _ o))
 ·rw[u,B];rfl
 ·refine⟨rfl,rfl,λi hi=>?_⟩;have I:((lB a).at e k).heap[i]? =a.heap[i]? :=x.get i hi (λh=>h);rw[I];cases M:a.heap[i]? with
  |none=>trivial
  |some J=>
   cases J with
   |cells c t fr=>exact⟨rfl,rfl,rfl,λ_ _=>rfl⟩
   |map N O=>exact .inr ⟨rfl,rfl⟩
   |_=>rfl
theorem laid:laidOutB P=true:=by kernel_rfl
section
variable {H : Type} {enc : Q7 × J0 -> H} {w : World} {base : Nat} {spare : Nat -> Bool} {held : Bool}
theorem AS6 {d:Type}{E:cr d}{Q:d->DataW H->Prop}{o t:Q7}(C:P.underlying o=some (.slice t))(D:P.cellsOf t=E.w)
  (F: ∀j q x,DataW.trod enc P w base spare held j t q=some x-> ∃b:d,q=E.enc b/\Q b x.1) {j:Nat} {p:Q2} {len r:Nat} {x:DataW H×List MemPlace} (G:DataW.trod enc P w base spare held j o [.slice p len r]=some x):
  ∃(l:List d) (ds:List (DataW H)),View E w.heap ⟨p,len,r⟩ l/\l.length=ds.length/\(∀ (i:Nat) b k,l[i]? =some b->ds[i]? =some k->Q b k)/\Rows.uptoBulkAll ds+1<=Rows.uptoBulk x.1:=by
 rcases Deep.open_slice C G with⟨g,rfl⟩|⟨a,N,O,m,R,n,S,g,_,s,_,I,rfl,u⟩
 ·simp at g;obtain⟨rfl,rfl,rfl⟩:=g;exact⟨[],[],View.nil,rfl,by simp,by simp[Rows.uptoBulk,Rows.uptoBulkAll]⟩
 ·simp at g;obtain⟨rfl,rfl,rfl⟩:=g;have T:len<=m:=by rw[I];split<;>omega
  rw[D] at u;have: ∀i,i<len-> ∃b:d,Cells w.heap (a.add (i*E.w)) (E.enc b)/\Q b (n i):=λi hi=>by
   obtain⟨U,e,h⟩:=u i (by omega);obtain⟨b,rfl,J⟩:=F _ _ _ h;obtain⟨_,y,K⟩:=World.cells?_some e;refine⟨b,λz v A=>?_,J⟩;have L:z<E.w:=by rw[<- E.len b];exact(List.getElem?_eq_some_iff.1 A).1
   have:=K z L;rw[A] at this;exact this
  by_cases y:len=0
  ·subst y;refine⟨[],[],⟨rfl,s,λi b hi=>by simp at hi⟩,rfl,by simp,?_⟩;simp[Rows.uptoBulk,Rows.uptoBulkAll]
  ·obtain⟨M,_⟩:=this 0 (by omega);have: ∃f:Nat->d,∀i,i<len->Cells w.heap (a.add (i*E.w)) (E.enc (f i))/\Q (f i) (n i):=
    ⟨λi=>if hi:i<len then Classical.choose (this i hi) else M,λi hi=>by simp only[dif_pos hi];exact Classical.choose_spec (this i hi)⟩
   obtain⟨f,B⟩:=this;refine⟨(List.range len).map f,(List.range len).map n,⟨by simp,s,λi b hi=>?_⟩,by simp,λi b k e h=>?_,?_⟩
   ·simp only[AN] at hi;by_cases c:i<len
    ·simp[c] at hi;subst hi;exact⟨a,rfl,(B i c).1⟩
    ·simp[Nat.not_lt.1 c] at hi
   ·simp only[AN] at e h;by_cases c:i<len
    ·simp[c] at e h;subst e;subst h;exact(B i c).2
    ·simp[Nat.not_lt.1 c] at e
   ·simp only[Rows.uptoBulk];omega
end
theorem APs {H c:Type}{d:c->DataW H->Prop}{l:List c}{ds:List (DataW H)}(h:l.length=ds.length)(f: ∀(i:Nat) a b,l[i]? =some a->ds[i]? =some b->d a b){a:c}(g:a∈l): ∃b∈ds,d a b:=by
 obtain⟨i,hi,rfl⟩:=CI g;have e:i<ds.length:=by omega
 exact⟨ds[i],BT e,f i _ _ (A2 hi) (A2 e)⟩
theorem xo:P.underlying BL=some (.int J9):=by kernel_rfl
theorem AUE:P.underlying Ux=some .bool:=by kernel_rfl
theorem AUl:P.underlying A9=some .string:=by kernel_rfl
theorem xp:P.underlying Ap=some (.slice BL):=by kernel_rfl
theorem AVz:P.cellsOf A9=1:=by kernel_rfl
theorem AVy:P.cellsOf BL=1:=by kernel_rfl
theorem wf_i64 {a:Int}(b:(Lit.int J9 a).wf=true): -9223372036854775808<=a/\a<=9223372036854775807:=by simp[Lit.wf,IntKind.min,IntKind.max,IntKind.bits,IntKind.signed] at b;omega
section
variable {H : Type} {enc : Q7 × J0 -> H} {w : World} {base : Nat} {spare : Nat -> Bool} {held : Bool}
theorem open_ints {a:Nat}{p:Q2}{len c:Nat}{x:DataW H×List MemPlace}(b:DataW.trod enc P w base spare held a Ap [.slice p len c]=some x):
  ∃l:List Int,View GI w.heap ⟨p,len,c⟩ l/\l.length+1<=Rows.uptoBulk x.1/\ ∀a∈l,-9223372036854775808<=a/\a<=9223372036854775807:=by
 obtain⟨l,ds,V,e,f,k⟩:=AS6 (E:=GI) (Q:=λd m=> -9223372036854775808<=d/\d<=9223372036854775807) xp AVy (λa n x g=>by
  obtain⟨s,h,o,i⟩:=DataW.trod_int xo g;exact⟨s,h,wf_i64 i⟩) b
 have:=APX ds;exact⟨l,V,by omega,λa j=>by obtain⟨_,_,b⟩:=APs e f j;exact b⟩
end
theorem AQk {H:Type}{enc:Q7×J0->H}{a:World}{base:Nat}{v:J0}{c:DataW H}{ps:List MemPlace}(d:Value.okWide P a .any base Ap v)(e:DataW.Trod enc P a 0 (λ_=>true) true Ap v c ps):
  ∃(s:Sl) (l:List Int),v= .slice s.p s.len s.cap/\View GI a.heap s l/\l.length+1<=Rows.uptoBulk c/\ ∀b∈l,-9223372036854775808<=b/\b<=9223372036854775807:=by
 obtain⟨p,len,f,rfl⟩:=okWide_slice xp d;obtain⟨b,g⟩:=e;obtain⟨l,h,i⟩:=open_ints g;exact⟨⟨p,len,f⟩,l,rfl,h,i⟩
end Go.Lf.G
namespace Go.Lf
open Go
def xK(a:A31)(i:Nat):Nat:=(RD a+i*Jr a) % 4294967296
def cE(a:A31)(m i:Nat):Nat:=xK a i % (8*m)
def UA(f:List UInt8)(a:Nat):Bool:=((f[a / 8]?).getD 0).toNat.testBit (a % 8)
def fW(f:List UInt8)(a:Nat):List UInt8:=f.set (a / 8) (Cq (((f[a / 8]?).getD 0).toNat ||| 2^(a % 8)))
theorem ASF(f:List UInt8)(a:Nat):(fW f a).length=f.length:=by simp[fW]
theorem yd {c a:Nat}(b:c<256)(d:a<8):c ||| 2^a<256:=by have e:2^a<2^8:=Nat.pow_lt_pow_right (by decide) d;have:c ||| 2^a<2^8:=ID (by simpa using b) e;simpa using this
theorem AS9 {f:List UInt8}{a:Nat}(c:a / 8<f.length)(x:Nat):UA (fW f a) x=(UA f x||decide (x=a)):=by
 unfold UA fW;have d:a % 8<8:=By _ (by decide);by_cases b:x / 8=a / 8
 ·rw[b,DM c,HR,Dk (yd (UInt8.toNat_lt _) d),Nat.testBit_or,Nat.testBit_two_pow];congr 1;rw[DH,decide_eq_true_iff,decide_eq_true_iff];omega
 ·rw[DP (by omega)];have:x≠a:=λe=>b (by rw[e])
  simp[this]
def fy(m:Nat)(f:List UInt8)(a:A31):List UInt8:=(List.range 4).foldl (λf i=>fW f (cE a m i)) f
theorem rn {k:A31}{m i:Nat}(a:1<=m):cE k m i<8*m:=By _ (by omega)
theorem VY {k:A31}{m:Nat}(b:1<=m): ∀(l:List Nat) (f:List UInt8),f.length=m->(l.foldl (λf i=>fW f (cE k m i)) f).length=m/\ ∀x,UA (l.foldl (λf i=>fW f (cE k m i)) f) x=(UA f x||l.any λi=>decide (x=cE k m i))
 | [],f,a=>⟨a,λx=>by simp⟩
 |i::l,f,a=>by
  have c:cE k m i / 8<f.length:=by have:=rn (k:=k) (i:=i) b;omega
  obtain⟨d,e⟩:=VY (k:=k) b l (fW f (cE k m i)) (by rw[ASF,a]);refine⟨d,λx=>?_⟩;rw[Hv,e,AS9 c,List.any_cons,Bool.or_assoc]
theorem APW {k:A31}{m:Nat}(a:1<=m){f:List UInt8}(b:f.length=m):(fy m f k).length=m:=(VY a _ f b).1
theorem AQ9 {a:A31}{m:Nat}(b:1<=m){f:List UInt8}(c:f.length=m){x:Nat}(d:UA f x=true):UA (fy m f a) x=true:=by unfold fy;rw[(VY b _ f c).2,d];rfl
theorem APj {a:A31}{m:Nat}(b:1<=m){f:List UInt8}(c:f.length=m){i:Nat}(hi:i<4):UA (fy m f a) (cE a m i)=true:=by unfold fy;rw[(VY b _ f c).2,CH];right;rw[List.any_eq_true];exact⟨i,List.mem_range.2 hi,by simp⟩
def NZ(m:Nat):List UInt8:=List.replicate m 0
def jL(a:List A31)(m:Nat):List UInt8:=a.foldl (fy m) (NZ m)
def nQ(f:List UInt8)(a:A31):Bool:=(List.range 4).all λi=>UA f (cE a f.length i)
def gH(f:List UInt8)(a:A31):Bool:=decide (f≠ [])&&decide (f.length<=8192)&&nQ f a
theorem WO {m:Nat}(c:1<=m): ∀(a:List A31) (f:List UInt8),f.length=m->(a.foldl (fy m) f).length=m/\(∀ x,UA f x=true->UA (a.foldl (fy m) f) x=true)/\ ∀k∈a,∀i,i<4->UA (a.foldl (fy m) f) (cE k m i)=true
 | [],f,b=>⟨b,λx d=>d,λk h=>by cases h⟩
 |k::a,f,b=>by
  have j:=APW (k:=k) c b;obtain⟨l,g,n⟩:=WO c a (fy m f k) j;refine⟨l,λx d=>g x (AQ9 c b d),λo e i hi=>?_⟩;rcases List.mem_cons.1 e with rfl|e
  ·exact g _ (APj c b hi)
  ·exact n o e i hi
theorem AQi {b:List A31}{m:Nat}(d:1<=m)(e:m<=8192){c:A31}(f:c∈b):gH (jL b m) c=true:=by obtain⟨a,_,g⟩:=WO d b (NZ m) (by simp[NZ]);have a:(jL b m).length=m:=a;unfold gH nQ;rw[a,A3,A3,decide_eq_true_iff,decide_eq_true_iff,Fk];refine⟨⟨λh=>?_,e⟩,λi hi=>g c f i (List.mem_range.1 hi)⟩;rw[h] at a;simp at a;omega
theorem ARW {a:List A31}{m:Nat}(b:1<=m):(jL a m).length=m:=(WO b a (NZ m) (by simp[NZ])).1
theorem APl(v:J0)(a:Nat):(madeCells #[v] a).toList=List.replicate a v:=by
 apply List.ext_getElem
 ·simp[madeCells]
 ·intro i b c;simp[madeCells,Nat.mod_one]
theorem Zq {a:Type}{b:cr a}{c:a}{v:J0}(d:b.enc c= [v]): ∀n,(List.replicate n c).flatMap b.enc=List.replicate n v
 |0=>rfl
 |n+1=>by rw[RW,RW,AW,d,Zq d n];rfl
theorem Za {d:ao}{P:Q1}{e:Type}{E:cr e}{x0:e}{v z:J0}{t T:Q7}{B:Nat}(m:P.underlying t=some (.slice T))(hi:(P.info? T).map (λi=>(i.zero,i.size,i.bytes))=some (some z,1,B))
  (o:z.cells= #[v]) (f:E.w=1) (p:E.enc x0= [v]) {a:aa} {n:Nat} {g h:IntKind} (x:n*B<=140737488355328) (j:n<=maxLen) {K:Sl->aa->Prop}
  (q: ∀b,Own E T b ⟨some ⟨a.size,0,none⟩,n,n⟩ (List.replicate n x0)->Ext a b->b.size=a.size+1->K ⟨some ⟨a.size,0,none⟩,n,n⟩ b):
  Af d P (Instr.makeSlice t (.int g (n:Int)) (.int h (n:Int))) a λv b=> ∃s:Sl,v= .slice s.p s.len s.cap/\K s b:=by
 intro k;cases c:P.info? T with
 |none=>rw[c] at hi;simp at hi
 |some i=>
  rw[c] at hi;simp only[Hk,Bk,Mn] at hi;obtain⟨r,u,w⟩:=hi;have hB:((i.bytes:Nat):Int)*((n:Nat):Int)<=281474976710656:=by rw[w,<-Int.natCast_mul,Cl];omega
  have l:=run_make (P:=P) (d.at a k) t T i z m c r g h (n:Int) (n:Int) (by omega) (HD _) hB (by simp only[maxLen] at j;omega);simp only[An,u,AM,o] at l;refine⟨_,a.push (.cells (madeCells #[v] n) T),k,l,⟨some ⟨a.size,0,none⟩,n,n⟩,rfl,q _ ⟨by simp,.inr ⟨a.size,madeCells #[v] n,rfl,by simp,A0 _,j,by simp[size_madeCells,f],?_⟩⟩ (Mod.push a _) (by simp)⟩;show(madeCells #[v] n).toList.take (n*E.w)=_;rw[APl,f,AM,As (by simp),Zq p]
theorem yt {m:Nat}(a:m<=8192):J8 .u32 (J8 J9 ((8:Int)*((m:Nat):Int)))=((8*m:Nat):Int):=by rw[show(8:Int)*((m:Nat):Int)=((8*m:Nat):Int) by omega,FD (by omega),wrap_u32,A5 (by omega)]
theorem AVG(a:A31)(i:Nat):xK a i<4294967296:=By _ (by decide)
theorem yu(a:A31)(i:Nat):J8 .u32 (((xK a i:Nat):Int)+((Jr a:Nat):Int))=((xK a (i+1):Nat):Int):=by rw[<- Int.natCast_add,wrap_u32];congr 1;unfold xK;rw[Nat.mod_add_mod,CN,Nat.one_mul,Jx]
theorem yw(a:A31):xK a 0=RD a:=by unfold xK;rw[HX,CT,A5 (YT a)]
theorem yx(x m:Nat):((x:Nat):Int).tmod ((m:Nat):Int)=((x % m:Nat):Int):=(GW x m).symm
theorem yy(x:Nat):((x:Nat):Int).tdiv (8:Int)=((x / 8:Nat):Int):=(LO x 8).symm
theorem yz(x:Nat):((x:Nat):Int).tmod (8:Int)=((x % 8:Nat):Int):=(GW x 8).symm
theorem yA(x:Nat):min (((x % 8:Nat):Int).toNat) (IntKind.bits .u8)=x % 8:=by rw[An];show min (x % 8) 8=_;omega
theorem ASZ {c a:Nat}(d:c<256):(Ec .u8 (((c:Nat):Int).fdiv ((2:Int)^a)) (1:Int)==(0:Int))= !(c.testBit a):=by have e:c / 2^a<256:=Se (HN _ _) d;rw[PG,show(1:Int)=((1:Nat):Int) from rfl,zI e (by decide),Nat.and_one_is_mod,Nat.testBit_eq_decide_div_mod_eq];generalize c / 2^a=f;rcases Nat.mod_two_eq_zero_or_one f with b|b<;>rw[b]<;>rfl
theorem AUe {c a:Nat}(d:c<256)(e:a<8):dK .u8 ((c:Nat):Int) (J8 .u8 ((1:Int)*((2:Int)^a)))=((c ||| 2^a:Nat):Int):=by
 have b:2^a<256:=by have:2^a<2^8:=Nat.pow_lt_pow_right (by decide) e;simpa using this
 have f:(1:Int)*((2:Int)^a)=((2^a:Nat):Int):=by rw[Int.one_mul,Int.natCast_pow];rfl
 rw[f,wrap_u8,A5 b,zH d b]
end Go.Lf
namespace Go.Lf.G
open Go
theorem AGo {a:A31}{i:Nat}(hi:i<a.size): ∃c,a.data.toList[i]? =some c:=by
 have:i<a.data.toList.length:=by simpa using hi
 exact⟨_,A2 this⟩
theorem oF {o:ao}{d:aa}{key:A31}{h:A30}(r:key.size<=1099511627776)(p:h (.tuple #[.int .u32 (RD key:Int),.int .u32 (Jr key:Int)]) d):AA o P Jc #[.string key] d h:=by
 refine AFo ?_;unfold wc;refine Loop.rule (λm x j=> ∃i:Nat,x=(((QT (key.data.toList.take i)).1:Int),((QT (key.data.toList.take i)).2:Int),(i:Int),())/\j=d/\m=key.size-i/\i<=key.size) ?_ ⟨0,rfl,rfl,rfl,by omega⟩;rintro K m _ j ⟨i,rfl,e,rfl,hi⟩ q;subst e;obtain⟨k,f⟩:=Ze (key.data.toList.take i);refine ae.intro (λg=>?_) (λg=>?_)
 ·have a:i<key.size:=by simpa using g
  obtain⟨c,l⟩:=AGo a;have n:c.toNat<256:=c.toNat_lt;refine⟨⟨by dsimp only;omega,by dsimp only;omega⟩,⟨by dsimp only;omega,by dsimp only;omega⟩,?_⟩;dsimp only;rw[Sg l,uq k n,AVX f n,Ab (by omega)];refine q (key.size-(i+1)) _ _ (by omega) ⟨i+1,?_,rfl,rfl,a⟩;rw[AE,l,E0,Xt]
 ·have a:i=key.size:=by simp at g;omega
  have e:key.data.toList.take i=key.data.toList:=As (by simp[a]);dsimp only;rw[e] at k f ⊢;have:dK .u32 (((QT key.data.toList).2:Nat):Int) (1:Int)=((Jr key:Nat):Int):=AUB f (b:=1) (by decide);rw[this];exact p
theorem YY {f:A31}:bD f (⟨#[]⟩:A31)=decide (bl f= []):=by
 rw[DH,Bj];constructor
 ·intro a;have a:=of_decide_eq_true a;subst a;rfl
 ·intro a;have a:=of_decide_eq_true a;cases f with
  |mk b=>
   have:b= #[]:=by apply Array.toList_inj.1;exact a
   rw[this];rfl
theorem AT7 {f:A31}{i:Nat}{c:UInt8}(a:(bl f)[i]? =some c):f.data.toList[i]? =some c:=a
theorem AQI {u:ao}{l:aa}{f key:A31}{q:A30}(v:key.size<=1099511627776)(a:q (.bool (gH (bl f) key)) l):AA u P QM #[.string f,.string key] l q:=by
 refine AHa ?_;unfold vE;refine ah.mk λK r=>?_
 have g:=BA f;refine ae.intro (λe=>?_) (λe=>?_)
 ·refine r _ _ (ae.yes rfl ?_);rw[YY,decide_eq_true_iff] at e;rw[e] at a;exact a
 ·refine r _ _ ?_;rw[YY,decide_eq_false_iff_not] at e;refine ae.intro (λn=>?_) (λn=>?_)
  ·have h: ¬(bl f).length<=8192:=by simp at n;omega
   have:gH (bl f) key=false:=by unfold gH;rw[decide_eq_false h,On,G4]
   rw[this] at a;exact a
  ·have h:f.size<=8192:=by simp at n;omega
   have w:1<=f.size:=by rw[<- g];exact List.length_pos_iff.2 e
   refine oF v ⟨_,_,rfl,?_⟩;refine Loop.rule (λm x s=> ∃i:Nat,x=(((xK key i:Nat):Int),(i:Int),())/\s=l/\m=4-i/\i<=4/\ ∀b,b<i->UA (bl f) (cE key f.size b)=true) ?_ ⟨0,by rw[yw];rfl,rfl,rfl,by omega,λb o=>by omega⟩;rintro E m _ s ⟨i,rfl,y,rfl,hi,t⟩ z;subst y;dsimp only;refine ae.intro (λp=>?_) (λp=>?_)
   ·have j:i<4:=by simp at p;omega
    have F:cE key f.size i<8*f.size:=rn w;have G:=AVG key i;rw[yt h,yx];have A:xK key i % (8*f.size)=cE key f.size i:=rfl;rw[A,yy,yz,yA,wrap_u32,A5 (show cE key f.size i / 8<4294967296 by omega)];have B:cE key f.size i / 8<(bl f).length:=by rw[g];omega
    have k:(bl f)[cE key f.size i / 8]? =some (bl f)[cE key f.size i / 8]:=A2 B;obtain⟨c,k⟩: ∃c,(bl f)[cE key f.size i / 8]? =some c:=⟨_,k⟩;rw[Sg (AT7 k),ASZ c.toNat_lt];have C:UA (bl f) (cE key f.size i)=c.toNat.testBit (cE key f.size i % 8):=by unfold UA;rw[k];rfl
    refine⟨by omega,⟨by omega,by omega⟩,by omega,?_⟩;rw[<- C];refine ae.intro (λd=>?_) (λd=>?_)
    ·have d:UA (bl f) (cE key f.size i)=false:=by simpa using d
     have:gH (bl f) key=false:=by
      unfold gH nQ;rw[g];have:((List.range 4).all λi=>UA (bl f) (cE key f.size i))=false:=by rw[List.all_eq_false];exact⟨i,List.mem_range.2 j,by simp[d]⟩
      simp[this]
     rw[this] at a;exact a
    ·have d:UA (bl f) (cE key f.size i)=true:=by simpa using d
     rw[yu,Ab (by omega)];refine z (4-(i+1)) _ _ (by omega) ⟨i+1,rfl,rfl,rfl,j,λb o=>?_⟩;by_cases D:b=i
     ·subst D;exact d
     ·exact t b (by omega)
   ·have j:i=4:=by simp at p;omega
    have:gH (bl f) key=true:=by unfold gH nQ;rw[g,A3,A3,decide_eq_true_iff,decide_eq_true_iff,Fk];exact⟨⟨e,h⟩,λb o=>t b (by rw[j];exact List.mem_range.1 o)⟩
    rw[this] at a;exact a
theorem ANn:(P.info? EL).map (λi=>(i.zero,i.size,i.bytes))=some (some (.int .u8 0),1,1):=by kernel_rfl
theorem WJ:P.underlying Dc=some (.slice EL):=by kernel_rfl
theorem AQK:P.underlying EL=some (.int .u8):=by kernel_rfl
theorem ANZ:P.underlying A9=some .string:=by kernel_rfl
theorem ASG {Q:ao}{e:aa}{s:Sl}{ks:List A31}{m:Nat}{G:A30}(y:View Ih e s ks)(R: ∀d∈ks,d.size<=1099511627776)(z:1<=m)(S:m<=8192)(au:ks.length<=1099511627776)(g: ∀b,s.ag=some b->b<e.size)
  (T: ∀H,Ext e H->G (.tuple #[.string (Ad (jL ks m)),.int J9 0]) H):AA Q P OV #[.slice s.p s.len s.cap,.int J9 (m:Int)] e G:=by
 refine AFc ?_;unfold Zm;refine ah.mk λK U=>?_
 refine ae.no (by simp;omega) ?_;refine U _ _ (ae.no (by simp;omega) ?_);refine Za (E:=IU) (x0:=0) (v:= .int .u8 0) WJ ANn rfl rfl rfl (by omega) (by simp only[maxLen];omega) λI J t av=>?_
 have V:List.replicate m (0:UInt8)=NZ m:=rfl;rw[V] at J;dsimp only;refine Loop.rule (λk x n=> ∃i:Nat,x=((i:Int),())/\k=ks.length-i/\i<=ks.length/\Mod (λc=>c=e.size) I n/\Own IU EL n ⟨some ⟨e.size,0,none⟩,m,m⟩ ((ks.take i).foldl (fy m) (NZ m))) ?_ ⟨0,rfl,rfl,by omega,Mod.refl,J⟩;rintro aw k _ n ⟨i,rfl,rfl,hi,u,o⟩ W;have X:View Ih n s ks:=(y.ext t).mod u λb Y=>by have:=g b Y;omega
 dsimp only;refine ae.intro (λp=>?_) (λp=>?_)
 ·have q:i<ks.length:=by rw[y.len] at p;simp at p;omega
  have A:ks[i]? =some ks[i]:=A2 q;refine X.idx A λa ax h=>?_
  refine AL.mk h.str ?_;refine oF (R _ (BT q)) ⟨_,_,rfl,?_⟩;have L:ks.take (i+1)=ks.take i++ [ks[i]]:=by rw[AE,A];rfl
  generalize ks[i]=d at A L;have M:((ks.take i).foldl (fy m) (NZ m)).length=m:=(WO z (ks.take i) (NZ m) (by simp[NZ])).1;generalize Z:(ks.take i).foldl (fy m) (NZ m)=w at o M;refine Loop.rule (λk x B=> ∃j:Nat,x=(((xK d j:Nat):Int),(j:Int),())/\k=4-j/\j<=4/\Mod (λc=>c=e.size) I B/\Own IU EL B ⟨some ⟨e.size,0,none⟩,m,m⟩ ((List.range j).foldl (λf i=>fW f (cE d m i)) w)) ?_ ⟨0,by rw[yw];rfl,rfl,by omega,u,o⟩;rintro ay k _ B ⟨j,rfl,rfl,az,N,r⟩ ab;dsimp only;refine ae.intro (λC=>?_) (λC=>?_)
  ·have D:j<4:=by simp at C;omega
   have aA:cE d m j<8*m:=rn z;have ac:xK d j % (8*m)=cE d m j:=rfl;rw[yt S,yx,ac,yy,yz,yA,wrap_u32,A5 (show cE d m j / 8<4294967296 by omega)];have ag:((List.range j).foldl (λf i=>fW f (cE d m i)) w).length=m:=(VY z _ w M).1;generalize ai:(List.range j).foldl (λf i=>fW f (cE d m i)) w=F at r ag;have af:F[cE d m j / 8]? =some F[cE d m j / 8]:=A2 (by omega);obtain⟨c,h⟩: ∃c,F[cE d m j / 8]? =some c:=⟨_,af⟩;refine⟨by omega,?_⟩;refine r.view.idx h λaC aD aj=>?_
   rw[An];refine AC.mk aj.byte ⟨by omega,?_⟩;refine r.view.idx h λO ak aE=>?_
   have al:=AUe c.toNat_lt (show cE d m j % 8<8 by omega);rw[al];have am:=yd c.toNat_lt (show cE d m j % 8<8 by omega);rw[yu,Ab (by omega),<-add_zero (O.add (cE d m j / 8*1))];refine Own.store (E:=IU) (i:=cE d m j / 8) (j:=0) (x:=c) (x':=Cq (c.toNat ||| 2^(cE d m j % 8))) (v:= .int .u8 ((c.toNat ||| 2^(cE d m j % 8):Nat):Int)) r h (by show [Value.int .u8 _]=_;rw[Dk am];rfl) (by decide) (λaF an ap aG=>?_) O ak;refine ab (4-(j+1)) _ _ (by omega) ⟨j+1,rfl,rfl,D,N.trans (ap.ak λb _ g=>?_),?_⟩
   ·simp[Sl.ag] at g;exact g.symm
   ·rw[N5,G3,ai,Hv,N3];unfold fW;rw[h];exact an
  ·have D:j=4:=by simp at C;omega
   subst D;rw[Ab (by omega)];refine W (ks.length-(i+1)) _ _ (by omega) ⟨i+1,rfl,rfl,q,N,?_⟩;rw[L,G3,Z];exact r
 ·have q:i=ks.length:=by rw[y.len] at p;simp at p;omega
  have aq:ks.take i=ks:=by rw[q];simp
  rw[aq] at o;have ar:((ks.foldl (fy m) (NZ m)))=jL ks m:=rfl;rw[ar] at o;refine MK WJ AQK ANZ (s:=⟨some ⟨e.size,0,none⟩,m,m⟩) (l:=jL ks m) o.view ⟨_,rfl,?_⟩;exact T n ⟨by have:=t.size;have:=u.size;omega,λb g _=>(u.get b (by have:=t.size;omega) (by omega)).trans (t.get b g (by simp))⟩
end Go.Lf.G
namespace Go.Lf
open Go
structure MI (p:Pr):Prop where
 key:p.key.size≠0
 bB:p.key.size<=64
 bY:p.val.size<=8192
 gone:p.gone=true->p.val.size=0
def Km(p:Pr):Nat:=if p.gone then 0 else p.val.size+1
def Js(p:Pr):List UInt8:=BU (bl p.key)++(Bp (Km p)++bl p.val)
abbrev Bo(l:List Pr):List UInt8:=l.flatMap Js
theorem ZT {s:A31}(a:s.size=0):bl s= []:=CM (by rw[BA];exact a)
theorem AN2 {p:Pr}(a:MI p)(t:List UInt8):GZ ⟨Js p++t,false⟩=(bl p.key,⟨Bp (Km p)++bl p.val++t,false⟩):=by
 have c:=a.bB;have b:Js p++t=BU (bl p.key)++(Bp (Km p)++bl p.val++t):=by simp[Js,A4]
 rw[b];exact Ie (by rw[BA];omega) _
theorem rm {p:Pr}(a:MI p):Km p<=8193:=by have:=a.bY;unfold Km;split<;>omega
theorem AQ5 {p:Pr}(a:MI p)(t:List UInt8):CX 8193 ⟨Bp (Km p)++bl p.val++t,false⟩=(Km p,⟨bl p.val++t,false⟩):=by rw[A4];have:=rm a;exact DR (by omega) this _
theorem AO0 {p:Pr}(a:MI p)(t:List UInt8):Kb (Km p-1) ⟨bl p.val++t,false⟩=(bl p.val,⟨t,false⟩):=by
 have b:Km p-1=(bl p.val).length:=by
  rw[BA];unfold Km;split
  ·rename_i c;rw[a.gone c]
  ·omega
 rw[b];exact zC _ _
theorem Qz {p:Pr}(a:MI p):1<=(Js p).length/\(Js p).length<=p.key.size+p.val.size+20:=by have b:=a.bB;have c:=a.bY;have d:=AX (n:=(bl p.key).length) (by rw[BA];omega);have e:=rm a;have f:=AX (n:=Km p) (by omega);have g:=a.key;have h:=BA p.key;have i:=BA p.val;simp only[Js,BU,A1];omega
end Go.Lf
namespace Go.Lf.G
open Go
theorem IR:Qr P AR AU Be.w 40=true:=by kernel_rfl
theorem ATC {e:ao}{a:aa}{b:Nat}{c:Rd}{d:A30}(f:KU a b c)(g:d (J3 c.bad) a):AA e P LF #[Ar b] a d:=by refine Xp ?_;unfold Qa;refine ae.no rfl (aA ?_);exact Aa.mk (AB f rfl) g
theorem WS {A:ao}{h:aa}{s:A31}{R:A30}(b:s.size<=1099511627776)(c: ∀a,Ext h a->R (J7 (Ad (BU (bl s)))) a):AA A P CF #[J7 s] h R:=by have:=Ro (A:=A) (h:=h) (l:=bl s) (R:=R) (by rw[BA];exact b) c;rwa [EP] at this
theorem AMZ {a:Nat}(b:a<=1099511627776):J8 .u64 ((J8 .u64 (a:Int))+(1:Int))=((a+1:Nat):Int):=by rw[CJ (by omega),show((a:Int)+1)=((a+1:Nat):Int) by omega,CJ (by omega)]
theorem sk {s:A31}(a:s.size=0):s=⟨#[]⟩:=by have:=EP s;rw[<- this,show s.data.toList= [] from ZT a];rfl
theorem Av {a c:aa}{b:Nat}{d:Array J0}{T:Q7}(x:Ext a c)(e:a[b]? =some (J2 d T (0,0))):c[b]? =some (J2 d T (0,0)):=x.ag e (λa=>a)
theorem AP8 {l:ao}{e:aa}{x:Pr}{f:A30}(h:MI x)(m: ∀o,Ext e o->f (J7 (Ad (Js x))) o):AA l P OP #[x.agg] e f:=by
 obtain⟨a,v,g⟩:=x;have r:=h.bB;have s:=h.bY;have p:=h.gone;dsimp only at r s p;show AA l P OP #[.agg #[J7 a,J7 v,J3 g]] e f;refine AFZ ?_;unfold Yd;refine aj.mk λz _ b q A=>?_
 refine Aa.mk (AB b rfl) ?_;have B:=AX (n:=(bl a).length) (by rw[BA];omega);have C:=BA a;have D:=BA v;refine ae.intro (λi=>?_) (λi=>?_)
 ·subst i;refine AL.mk (AO b rfl) ?_;refine WS (by omega) λt c=>⟨_,rfl,?_⟩
  refine Cf (n:=0) (by omega) λu d=>⟨_,rfl,?_⟩
  have w:=AX (n:=0) (by omega);refine⟨by rw[AP,AP,max_i64];simp only[BU,A1];omega,?_⟩;rw[Aq];have j:Js ⟨a,v,true⟩=BU (bl a)++Bp 0:=by unfold Js Km;rw[ZT (p rfl)];simp
  rw[<- j];exact m _ ((q.trans c).trans d)
 ·subst i;refine AL.mk (AO b rfl) (AL.mk (AB b rfl) (AL.mk (AB b rfl) ?_));refine WS (by omega) λt c=>⟨_,rfl,?_⟩
  have k:=Av c b;refine⟨AB k rfl,AB k rfl,?_⟩;rw[AMZ (by omega)];refine Cf (by omega) λu d=>⟨_,rfl,?_⟩
  have y:=Av d k;have w:=AX (n:=v.size+1) (by omega);refine⟨AB y rfl,by rw[AP,AP,max_i64];simp only[BU,A1];omega,?_,?_⟩
  ·rw[Aq,AP,max_i64];simp only[BU,A1];omega
  ·rw[Aq];have j:Ad (BU (bl a)++Bp (v.size+1))++v=Ad (Js ⟨a,v,false⟩):=by
    have:v=Ad (bl v):=(EP v).symm
    conv=>lhs;arg 2;rw[this]
    rw[Aq];unfold Js Km;simp[A4]
   rw[j];exact m _ ((q.trans c).trans d)
theorem APt {s:A31}(a:s.size≠0):bD s (⟨#[]⟩:A31)=false:=by rw[YY,decide_eq_false_iff_not];intro b;have:=BA s;rw[b] at this;exact a this.symm
theorem AQl {a:Nat}(b:a<=100000):(if((J8 J9 (((a:Nat):Int)-(1:Int))):Int)>0 then(J8 J9 (((a:Nat):Int)-(1:Int))) else 0)=((a-1:Nat):Int):=by rw[wrap_i64 (by omega) (by omega)];split<;>omega
theorem rp {l:List Pr}(a: ∀x∈l,MI x):l.length<=(Bo l).length:=by
 induction l with
 |nil=>simp
 |cons x l b=>
  have:=(Qz (a x B8)).1;have:=b λc d=>a c (AI _ d)
  simp only[Bo,AW,A1,Ax] at this ⊢;omega
theorem sn {ai:ao}{c:aa}{l:List Pr}{I:A30}(J: ∀x∈l,MI x)(aO:(Bo l).length<1099511627776)
  (ak: ∀s z,Own Be AU z s l->Ext c z->(∀ b,s.ag=some b->c.size<=b)->I (J1 #[J4 s.p s.len s.cap,J3 true]) z):AA ai P KA #[J7 (Ad (Bo l))] c I:=by
 refine AEE ?_;unfold XQ;refine NI λaP al am=>⟨_,rfl,?_⟩
 have aQ:=rp J;refine Loop.rule (λm x f=> ∃(i:Nat) (s:Sl),x=(s,())/\m=l.length-i/\i<=l.length/\KU f c.size ⟨Bo (l.drop i),false⟩/\Ext c f/\Own Be AU f s (l.take i)/\ ∀b,s.ag=some b->c.size<=b) ?_ ⟨0,⟨none,0,0⟩,rfl,rfl,by omega,al,am,Own.nil,λb a=>by simp[Sl.ag] at a⟩;rintro K m _ f ⟨i,s,rfl,rfl,hi,rd,t,p,A⟩ an;dsimp only;refine QA rd ⟨_,rfl,?_⟩;by_cases g:i<l.length
 ·have L:l[i]? =some l[i]:=A2 g;have M:l[i]∈l:=BT g;have hd:l.drop i=l[i]::l.drop (i+1):=FA g;have N:l.take (i+1)=l.take i++ [l[i]]:=by rw[AE,L];rfl
  generalize l[i]=x at L M hd N;have h:=J x M;have O:Bo (l.drop i)=Js x++Bo (l.drop (i+1)):=by rw[hd];rfl
  have Q:(Js x++Bo (l.drop (i+1))).length<1099511627776:=by
   have e:Bo l=Bo (l.take i)++Bo (l.drop i):=by rw[<- Mz,F1]
   have:=congrArg List.length e;rw[O,A1] at this;omega
  have aR:=Qz h;rw[O] at rd ⊢;refine ae.yes ?_ ?_
  ·unfold fU;have:(Js x++Bo (l.drop (i+1)))≠ []:=by intro e;have:=congrArg List.length e;simp only[A1,Hc] at this;omega
   simp only[LI,Ek,Cd,List.isEmpty_eq_false_iff];exact this
  ·refine Ic rd Q λd u B=>⟨_,rfl,?_⟩
   rw[AN2 h] at u ⊢;dsimp only at u ⊢;rw[EP];refine aj.mk λap _ aq R aS=>?_
   refine ab.mk aq (by simp) λaT ar S aU=>?_
   rw[CE,CE];refine ab.mk ar (by simp) λaV au T aW=>?_
   refine ab.mk au (by simp) λav aw U aX=>?_
   have aY:c.size<d.size:=by have:=Aj u;exact this
   have j:c.size≠d.size:=by omega
   have ax:KU av c.size ⟨Bp (Km x)++bl x.val++Bo (l.drop (i+1)),false⟩:=U.ag (T.ag (S.ag (R.ag u (λc=>c)) j) j) j;have ay:(Bp (Km x)++bl x.val++Bo (l.drop (i+1))).length<=1099511627776:=by simp only[Js,A1] at Q ⊢;omega
   refine EQ (most:=8193) ax ay (by decide) λC v V=>⟨_,rfl,?_⟩
   rw[AQ5 h] at v ⊢;dsimp only at v ⊢;have W:C[d.size]? =some (J2 #[J7 x.key,J7 ⟨#[]⟩,J3 false] AU (0,0)):=V.ag (by simpa using aw) (Ne.symm j);refine ah.mk λaz aA=>?_
   have aZ:=rm h;have key: ∀q,KU q c.size ⟨bl x.val++Bo (l.drop (i+1)),false⟩->q[d.size]? =some (J2 #[J7 x.key,J7 ⟨#[]⟩,J3 x.gone] AU (0,0))->Mod (λb=>b=c.size\/b=d.size) d q->az () q:=by
    intro q aC aD aE;refine aA () q ?_;rw[AQl (by omega)];refine zP aC λa0 D X=>⟨_,rfl,?_⟩
    rw[AO0 h] at D ⊢;dsimp only at D ⊢;rw[EP];have aF:=X.ag aD (Ne.symm j);refine ab.mk aF (by simp) λr k Y a1=>?_
    have F:KU r c.size ⟨Bo (l.drop (i+1)),false⟩:=Y.ag D j;have k:r[d.size]? =some (J2 #[J7 x.key,J7 x.val,J3 x.gone] AU (0,0)):=by simpa using k
    refine ah.mk λa2 aG=>?_
    refine ATC F ⟨_,rfl,?_⟩;refine ae.no rfl ?_;refine AL.mk (AO k rfl) ?_;refine ae.no (APt h.key) ?_;refine AL.mk (AO k rfl) ?_;have a3:=h.bB;refine aG _ _ (ae.no (by simp;omega) ?_);refine AL.mk (AO k rfl) ?_;refine AL.mk (AO k rfl) ?_;refine Aa.mk (AO k rfl) ?_;have w:Mod (λb=>b=c.size\/b=d.size) f r:=by
     have G:Mod (λb=>b=c.size\/b=d.size) f d:=B.ak λb _ a=> .inl a
     exact((G.trans aE).trans (X.ak λb _ a=> .inl a)).trans (Y.ak λb _ a=> .inr a)
    have Z: ∀b,s.ag=some b-> ¬(b=c.size\/b=d.size):=by
     intro b a;have a4:=p.lt a;have aH:=B.size;rintro(rfl|rfl)
     ·exact p.ne rd (by decide) a
     ·omega
    refine aj.aU (E:=Be) (x:=x) rfl IR (p.mod w Z) ?_ ?_ λaI a5 ac H aJ a6=>?_
    ·rw[AD];omega
    ·simp only[maxLen];rw[AD];omega
    ·rw[<- N] at ac;have y:Ext c r:=by refine⟨by have:=t.size;have:=w.size;omega,λb a _=>?_⟩;have aH:=B.size;have:=t.size;exact(w.get b (by omega) (by omega)).trans (t.get b a (λc=>c))
     refine an (l.length-(i+1)) _ _ (by omega) ⟨i+1,aI,rfl,rfl,g,?_,?_,ac,?_⟩
     ·refine H.ag F λe=>?_
      have:Own Be AU r s (l.take i):=p.mod w Z;exact this.ne F (by decide) e
     ·refine⟨by have:=y.size;have:=H.size;omega,λb a _=>?_⟩;have:=y.size;exact(H.get b (by omega) (λe=>by have:=A b e;omega)).trans (y.get b a (λc=>c))
     ·intro b a;rcases aJ b a with e|e
      ·exact A b e
      ·have:=y.size;omega
   have af:Mod (λb=>b=c.size\/b=d.size) d C:=by have G:Mod (λb=>b=c.size\/b=d.size) d ap:=R.mod;exact(((G.trans (S.ak λb _ a=> .inr a)).trans (T.ak λb _ a=> .inr a)).trans (U.ak λb _ a=> .inr a)).trans (V.ak λb _ a=> .inl a)
   refine ae.intro (λn=>?_) (λn=>?_)
   ·have o:x.gone=true:=by
     unfold Km at n;split at n
     ·rename_i o;exact o
     ·simp at n;omega
    refine ab.mk W (by simp) λaK aL ag a7=>?_
    refine key aK (ag.ag v j) (by rw[o];simpa using aL) (af.trans (ag.ak λb _ a=> .inr a))
   ·have o:x.gone=false:=by
     cases o:x.gone with
     |false=>rfl
     |true=>unfold Km at n;rw[o] at n;simp at n
    exact key C v (by rw[o];exact W) af
 ·have g:i=l.length:=by omega
  have aM:l.drop i= []:=by rw[g];simp
  have aN:l.take i=l:=by rw[g];simp
  rw[aM];rw[aN] at p;exact ae.no rfl (ak s f p t A)
def NU(a:Nat)(l:List Pr):List UInt8:=Bp a++Bp l.length++Bo l
theorem Ot {l:List Pr}(b: ∀x∈l,MI x):(Bo l).length<=l.length*8276:=by
 induction l with
 |nil=>simp
 |cons x l c=>
  have a:=b x B8;have f:=(Qz a).2;have g:=a.bB;have h:=a.bY;have:=c λd e=>b d (AI _ e)
  simp only[Bo,AW,A1,Ax] at this ⊢;omega
theorem ATJ {l:List Pr}(a: ∀x∈l,MI x)(i:Nat): ∀x∈l.take i,MI x:=λx b=>a x (DA b)
theorem AQo {C:ao}{f:aa}{s:Sl}{l:List Pr}{c:Nat}{t:A30}(Y:c<=99999999)(Z:l.length<=64)(u: ∀x∈l,MI x)(v:View Be f s l)(ab: ∀b,s.ag=some b->b<f.size)
  (D: ∀d,Ext f d->t (J7 (Ad (NU c l))) d):AA C P UO #[J6 J9 (c:Int),J4 s.p s.len s.cap] f t:=by
 refine AIM ?_;unfold wz;rw[CJ (by omega)];refine Cf (by omega) λac E=>⟨_,rfl,?_⟩
 rw[v.len,CJ (by omega)];refine Cf (by omega) λaf F=>⟨_,rfl,?_⟩
 have ag:=AX (n:=c) (by omega);have ai:=AX (n:=l.length) (by omega);refine⟨by rw[AP,AP,max_i64];omega,?_⟩;rw[Aq];refine Loop.rule (λm x o=> ∃i:Nat,x=(Ad (Bp c++Bp l.length++Bo (l.take i)),(i:Int),())/\m=l.length-i/\i<=l.length/\Ext f o) ?_ ⟨0,by simp,rfl,by omega,E.trans F⟩;rintro K m _ o ⟨i,rfl,rfl,hi,p⟩ G;dsimp only;refine ae.intro (λq=>?_) (λq=>?_)
 ·have e:i<l.length:=by simp at q;omega
  have r:l[i]? =some l[i]:=A2 e;have w:l.take (i+1)=l.take i++ [l[i]]:=by rw[AE,r];rfl
  have h:=u _ (BT e);generalize l[i]=x at r w h;have ak:=h.bB;have al:=h.bY;have H:=h.gone;have lt:=Ot (ATJ u i);rw[AD] at lt;have am:=AX (n:=(bl x.key).length) (by rw[BA];omega);have an:=BA x.key;have ap:=BA x.val;refine ah.mk λI J=>?_
  obtain⟨a,L,M⟩:=(v.ext p).cells i x r;refine aS.mk L e ?_;obtain⟨N,O,Q⟩:=M.pair;rw[An];refine AL.mk N (AL.mk O (Aa.mk Q ?_));refine aj.pair λb aq ar y R au=>?_
  refine AL.mk (AO y rfl) ?_;refine WS (by omega) λS z=>⟨_,rfl,⟨by rw[AP,AP,max_i64];simp only[BU,A1];omega,?_⟩⟩
  have j:=Av z y;refine Aa.mk (AB j rfl) ?_;rw[Aq];have fin: ∀d,Ext S d->I (Ad (Bp c++Bp l.length++Bo (l.take (i+1))),()) d:=by intro d T;refine J _ _ ?_;dsimp only;rw[Ab (by omega)];exact G (l.length-(i+1)) _ _ (by omega) ⟨i+1,rfl,rfl,e,((p.trans R).trans z).trans T⟩
  have A:Bo (l.take (i+1))=Bo (l.take i)++Js x:=by rw[w];simp[Bo]
  refine ae.intro (λk=>?_) (λk=>?_)
  ·refine Cf (n:=0) (by omega) λU V=>⟨_,rfl,?_⟩
   have W:=AX (n:=0) (by omega);refine⟨by rw[AP,AP,max_i64];simp only[BU,A1];omega,?_⟩;rw[Aq];have g:Js x=BU (bl x.key)++Bp 0:=by unfold Js Km;rw[k,ZT (H k)];simp
   have:=fin U V;rw[A,g] at this;simpa only[A4] using this
  ·refine AL.mk (AB j rfl) (AL.mk (AB j rfl) ?_);rw[AMZ (by omega)];refine Cf (by omega) λX B=>⟨_,rfl,?_⟩
   have W:=AX (n:=x.val.size+1) (by omega);refine⟨AB (Av B j) rfl,?_,?_,?_⟩
   ·rw[AP,max_i64];omega
   ·have av:x.val=Ad (bl x.val):=(EP _).symm;rw[F0,AP,AP,max_i64];simp only[BU,A1];omega
   ·have g:Ad (Bp (x.val.size+1))++x.val=Ad (Bp (Km x)++bl x.val):=by
     conv=>lhs;arg 2;rw[(EP x.val).symm]
     rw[Aq];unfold Km;rw[k];rfl
    rw[g,Aq];have:=fin X B;rw[A] at this;unfold Js at this;simpa only[A4] using this
 ·have e:i=l.length:=by simp at q;omega
  have g:l.take i=l:=by rw[e];simp
  rw[g];exact D o p
end Go.Lf.G
namespace Go.Lf
open Go
def CK(l:List Pr)(i:Nat):List Pr:=(l.drop (8*i)).take 8
def Bv(l:List Pr):Nat:=(l.length+7) / 8
def Kw(l:List Pr):List (List Pr):=(List.range (Bv l)).map (CK l)
def Iy(l:List Pr)(i:Nat):A31:=match l[i]? with|some p=>p.key|none=>⟨#[]⟩
def CZ(l:List Pr):List A31:=(List.range (Bv l)).map λi=>Iy l (8*i)
def XC(l:List Pr)(f:List UInt8):List UInt8:=Bp (Bv l)++((CZ l).flatMap λa=>BU (bl a))++(Bp l.length++BU f)
def aO(l:List Pr)(f:List UInt8):List (List UInt8):=(Kw l).map Bo++ [XC l f]
theorem RY {l:List Pr}{i:Nat}(a:i<Bv l):1<=(CK l i).length/\(CK l i).length<=8/\(i+1<Bv l->(CK l i).length=8):=by
 unfold CK Bv at*
 rw[AD,HS];omega
theorem Qx {l:List Pr}{i j:Nat}(a:j<8):(CK l i)[j]? =l[8*i+j]? :=by unfold CK;rw[Fo,if_pos a,C5]
theorem ye {l:List Pr}: ∀i,l.take (8*i)++CK l i=l.take (8*(i+1)):=λi=>by
 unfold CK;rw[show 8*(i+1)=8*i+8 by omega,List.take_add]
theorem yf(l:List Pr): ∀n,((List.range n).map (CK l)).flatten=l.take (8*n)
 |0=>by simp
 |n+1=>by rw[N5,Bs,List.flatten_append,yf l n];simpa using ye n
theorem AOa(l:List Pr):(Kw l).flatten=l:=by unfold Kw;rw[yf,As];unfold Bv;omega
theorem JD(l:List Pr):(Kw l).length=Bv l:=by simp[Kw]
theorem Hz(l:List Pr):(CZ l).length=Bv l:=by simp[CZ]
theorem yg {l:List Pr}(a:l≠ []):1<=Bv l:=by have:=List.length_pos_iff.2 a;unfold Bv;omega
structure gI (s:List UInt8) (l:List Pr) (f:List UInt8):Prop where
 bytes:s=aT (aO l f)
 ne:l≠ []
 ok: ∀p∈l,MI p
 inc:l.Pairwise λp q=>aG p.key q.key=true
 jk:1<=f.length/\f.length<=8192
 has: ∀p∈l,gH f p.key=true
 many:l.length<=100000
theorem rp {l:List Pr}(a: ∀p∈l,MI p):(Bo l).length<=l.length*8276:=by
 induction l with
 |nil=>simp
 |cons p l b=>
  have e:=(Qz (a p (by simp))).2;have c:=b λq d=>a q (AI _ d)
  have f:=(a p (by simp)).bB;have g:=(a p (by simp)).bY;simp only[Bo,AW,A1,Ax] at c ⊢;omega
theorem QZ {l:List Pr}{i:Nat}{p:Pr}(a:p∈CK l i):p∈l:=Lk (DA a)
theorem ZG {s:List UInt8}{l:List Pr}{f:List UInt8}(T:gI s l f):(XC l f).length<=1048576:=by
 have r:=T.many;have t:=T.jk.2;have u:=AX (n:=Bv l) (by unfold Bv;omega);have v:=AX (n:=l.length) (by omega);have w:=AX (n:=f.length) (by omega);have c: ∀a∈CZ l,a.size<=64:=λa c=>by
  obtain⟨i,_,rfl⟩:=List.mem_map.1 c;unfold Iy;split
  ·rename_i p e;exact(T.ok p (AG e)).bB
  ·exact A6 _
 have g: ∀b:List A31,(∀ a∈b,a.size<=64)->(b.flatMap λa=>BU (bl a)).length<=b.length*65:=by
  intro b
  induction b with
  |nil=>intro _;simp
  |cons a b h=>
   intro d;have j:=h λx k=>d x (AI _ k)
   have y:=d a (by simp);have m:(Bp a.size).length=1:=by rw[FU (by omega)];rfl
   have o:(BU (bl a)).length=1+a.size:=by simp only[BU,A1,BA,m]
   simp only[AW,A1,Ax,o] at j ⊢;omega
 have q:=g (CZ l) c;rw[Hz] at q;have z:Bv l<=12501:=by unfold Bv;omega
 have A:(BU f).length=(Bp f.length).length+f.length:=by simp[BU]
 simp only[XC,A1];omega
theorem SF {s:List UInt8}{l:List Pr}{f:List UInt8}(T:gI s l f): ∀c∈aO l f,c.length<=1048576:=λc a=>by
 rcases List.mem_append.1 a with a|a
 ·obtain⟨b,d,rfl⟩:=List.mem_map.1 a;obtain⟨i,hi,rfl⟩:=List.mem_map.1 d;have h:=rp (l:=CK l i) λp e=>T.ok p (QZ e)
  have g:=(RY (List.mem_range.1 hi)).2.1;have:(CK l i).length*8276<=8*8276:=Bm _ g;omega
 ·rw[List.mem_singleton.1 a];exact ZG T
def yh(s:Sl):J0:=J4 s.p s.len s.cap
def rq(x:Sl):ir [.one .sl]:=(x,())
def yB(j:ao)(P:Q1)(fv:J0)(m:Nat->Prop)(n:aa)(l:List Sl):Prop:=
 ∃f e,fv= .func (.func f) #[] e/\(∀ a,(callFunc f (#[]++ #[a]++e)).calc P=some (.enter f (#[]++ #[a]++e)))/\
  ∀(k:aa) (a:J0) (c:Nat->Bool->aa->Prop),MH a=true->(∀ i g d,c i g d-> ∀b,m b->d[b]? =n[b]?)->
   (∀ i x d,l[i]? =some x->c i true d->Er j P a #[yh x] d λv h=> ∃g,v=J3 g/\c (i+1) g h)->c 0 true k->
   AA j P f (#[]++ #[a]++e) k λv h=>v=J1 #[]/\ ∃i g,c i g h/\(g=true->i=l.length)/\i<=l.length
theorem AU7 {o:ao}{P:Q1}{fv:J0}{p:Nat->Prop}{q c:aa}{l:List Sl}(z:yB o P fv p q l)
  (Inv:Nat->aa->Prop) {body:ir [.one .sl]->Nat->aa->(aa->Prop)->(Option Nat->aa->Prop)->Prop} {r:aa->Prop} {A:Option Nat->aa->Prop}
  (B: ∀i a,Inv i a-> ∀b,p b->a[b]? =q[b]?)
  (s: ∀i a C,Inv i a->a[c.size]? =some (.deferred (some []))->(∃ D,a[c.size+1]? =some (.loop D))->Inv i (a.setIfInBounds (c.size+1) (.loop C)))
  (E: ∀rec,Inv 0 ((c.push (.deferred (some []))).push (.loop rec)))
  (round: ∀i x a rec t F,l[i]? =some x->Inv i a->a[c.size]? =some (.deferred (some []))->a[c.size+1]? =some (.loop rec)->rec.state= .ready->
   (∀ d,Inv (i+1) d->d[c.size]? =some (.deferred (some []))->d[c.size+1]? =some (.loop {rec with state:= .busy})->t d)->body (rq x) (c.size+1) a t F)
  (fin: ∀d,Inv l.length d->d[c.size]? =some (.deferred (some []))->r d):YB o P fv [.one .sl] body c r A:=by
 intro rec h k Q G;obtain⟨f,u,rfl,H,I⟩:=z;refine⟨f,_,?_,AA.mono (I ((c.push (.deferred (some []))).push (.loop rec)) (.func (.yield (c.size+1)) #[] #[])
  (λi g a=>Inv i a/\g=true/\a[c.size]? =some (.deferred (some []))/\a[c.size+1]? =some (.loop rec)) rfl (λi g a J=>B i a J.1) ?_ ?_) ?_⟩
 ·have K:(do let w <-Deferred.ofValue (.func (.func f) #[] u) #[.func (.yield (c.size+1)) #[] #[]];invoke w.target w.args:Sem Next).calc P=(callFunc f (#[]++ #[.func (.yield (c.size+1)) #[] #[]]++u)).calc P:=rfl;unfold Nr;rw[K,H]
 ·rintro i x a hi ⟨m,_,j,e⟩;refine G (rq x) a _ e (round i x a rec _ _ hi m j e h ?_);intro d L y n;have M:c.size+1<d.size:=Aj n;refine⟨_,n,true,rfl,s _ _ _ L y ⟨_,n⟩,rfl,?_,?_⟩
  ·rw[Ds (by omega)];exact y
  ·rw[Ce M];cases rec;simp at h k;simp[h,k]
 ·refine⟨E rec,rfl,?_,?_⟩
  ·rw[R1 (by simp)];simp
  ·have N:c.size+1=(c.push (.deferred (some []))).size:=by simp
   rw[N];exact Rg
 ·rintro v R ⟨_,i,g,⟨m,rfl,j,e⟩,O,S⟩;refine⟨rec,e,by simp[h],.inl ⟨k,fin _ ?_ ?_⟩⟩
  ·have:=O rfl;subst this;exact s _ _ _ m j ⟨_,e⟩
  ·rw[Ds (by omega)];exact j
end Go.Lf
namespace Go.Lf.G
open Go
def U8(a:aa)(c:Nat):Prop:= ∃b d,a[c]? =some (J2 b EL d)
def fB(a:Nat)(c:aa)(b:Nat)(l:List UInt8):Prop:= ∀(d:ao) (e:Nat),Lib.IsBuilderF ET EL a b (Lib.byteCells l) (d.at c e)
theorem AMz {A:ao}{n a b:Nat}{c:aa}{l:List UInt8}(d:Lib.IsBuilderF ET EL a b (Lib.byteCells l) (A.at c n)):fB a c b l:=λ_ _=>d
theorem XF {g:ao}{a:aa}{j e b:Nat}{d:World}(hB:e<=a.size)(n:RowKit.Below e (g.at a j) d)(o:Lib.OthersKept EL (some b) (g.at a j) d):
  d=g.at d.heap d.drawn/\Mod (λc=>c=b\/(e<=c/\U8 a c)) a d.heap:=by
 obtain⟨f,k,l,p,q⟩:=n;refine⟨?_,⟨p,λc r m=>?_⟩⟩
 ·cases d;simp only[ao.at] at f k l ⊢;subst f k l;rfl
 ·by_cases s:c<e
  ·exact q c s
  ·have h:a[c]? =some a[c]:=Fl r;have f:=o c a[c] h (by intro i;exact m (.inl (B9 i))) (λt u i=>m (.inr ⟨by omega,t,u,by rw[h,i]⟩));rw[f];exact h.symm
theorem fB.mod {a b:Nat}{e f:aa}{l:List UInt8}{h:Nat->Prop}(t:fB a e b l)(m:Mod h e f)(u: ¬h b)(w: ∀c,a<=c->U8 e c-> ¬h c):fB a f b l:=by
 intro i j;have n: ∀p,Lib.BuilderAtF ET EL a b p (Lib.byteCells l) (i.at e j)->Lib.BuilderAtF ET EL a b p (Lib.byteCells l) (i.at f j):=by
  rintro p ⟨d,v,x,⟨y,k⟩,z⟩;refine⟨d,v,m.ag x u,⟨y,?_⟩,z⟩;rcases k with k|⟨g,A,o,q,B,r,s,rest⟩
  ·exact .inl k
  ·exact .inr ⟨g,A,o,q,B,r,m.ag s (w g r ⟨o,q,s⟩),rest⟩
 rcases t i j with d|d
 ·exact .inl (n _ d)
 ·exact .inr (n _ d)
theorem fB.ext {c b:Nat}{a d:aa}{l:List UInt8}(e:fB c a b l)(m:Ext a d):fB c d b l:=e.mod m (λa=>a) (λ_ _ _ a=>a)
theorem ASI {a b:Nat}{c:aa}(d:c[b]? =some (J2 #[J5 none,J4 none 0 0] ET (0,0)))(hB:a<=b):fB a c b []:=by intro e f;exact .inl ⟨hB,_,d,⟨rfl,.inl ⟨rfl,rfl⟩⟩,by simp[Value.ownBlock]⟩
theorem Vd {A:ao}{a:aa}{d b:Nat}{l:List UInt8}{s:A31}{g:A30}(j:fB d a b l)(hB:d<=a.size)(q:l.length+s.size<=1099511627776)
  (k: ∀e,fB d e b (l++bl s)->Mod (λc=>c=b\/(d<=c/\U8 a c)) a e->g (J1 #[J6 J9 s.size,.nilIface]) e):AA A P Dp #[Ar b,J7 s] a g:=by
 intro n;refine Calls.mono (Proofs.Any.Builder_WriteString_k Proofs.Tryz.ib Proofs.Tryz.dH d b (Lib.byteCells l) s (A.at a n) (j A n) (by rw[Lib.byteCells_length];omega) hB) ?_;rintro r f ⟨rfl,h,o,p⟩;obtain⟨i,m⟩:=XF hB o p;refine⟨_,rfl,f.heap,f.drawn,i,k _ ?_ m⟩;rw[Lib.strCells_eq,<-Lib.byteCells_append,i] at h;exact AMz (A:=A) (n:=f.drawn) (.inr h)
theorem AK0 {A:ao}{a:aa}{d b:Nat}{l:List UInt8}{g:A30}(j:fB d a b l)(hB:d<=a.size)
  (k: ∀e,fB d e b l->Mod (λc=>c=b\/(d<=c/\U8 a c)) a e->g (J7 (Ad l)) e):AA A P Gd #[Ar b] a g:=by
 intro n;refine Calls.mono (Proofs.Any.Builder_String_any_k Proofs.Tryz.ic Proofs.Tryz.dH d b l (A.at a n) (j A n) hB) ?_;rintro q f ⟨rfl,h,o,p⟩;obtain⟨i,m⟩:=XF hB o p;refine⟨_,rfl,f.heap,f.drawn,i,k _ ?_ m⟩;rw[i] at h;exact AMz (A:=A) (n:=f.drawn) h
def Qh(s:Sl)(i:Nat):Sl:=⟨BJ s.p (min (8*i+8) s.len) (8*i) 3,min (8*i+8) s.len-8*i,min (8*i+8) s.len-8*i⟩
def chunks(s:Sl):List Sl:=(List.range ((s.len+7) / 8)).map (Qh s)
theorem R5(s:Sl):(chunks s).length=(s.len+7) / 8:=by simp[chunks]
theorem ADX {s:Sl}{i:Nat}(a:i<(s.len+7) / 8):(chunks s)[i]? =some (Qh s i):=by simp[chunks,a]
theorem View.chunk {d:aa}{s:Sl}{l:List Pr}(v:View Be d s l){i:Nat}(hi:i<Bv l):View Be d (Qh s i) (CK l i):=by
 have e:=v.len;unfold Bv at hi;refine⟨?_,A0 _,λb x c=>?_⟩
 ·show min (8*i+8) s.len-8*i=(CK l i).length;unfold CK;rw[AD,HS,e];omega
 ·have f:b<8:=by have:=(List.getElem?_eq_some_iff.1 c).1;unfold CK at this;rw[AD] at this;omega
  rw[Qx f] at c;obtain⟨a,g,h⟩:=v.cells _ _ c;have k:=(List.getElem?_eq_some_iff.1 c).1;refine⟨a.add (8*i*3),?_,?_⟩
  ·unfold Qh BJ;simp only[g];rw[if_neg (by omega)];rfl
  ·rw[add_add];have j:8*i*3+b*Be.w=(8*i+b)*Be.w:=by show 8*i*3+b*3=(8*i+b)*3;omega
   rw[j];exact h
theorem APE {a i:Nat}(b:a<=1099511627776)(c:8*i<a):J8 J9 (((8*i:Nat):Int)+(if((((a-((8*i:Nat):Int).toNat):Nat):Int):Int)<(8:Int) then(((a-((8*i:Nat):Int).toNat):Nat):Int) else(8:Int)))=((min (8*i+8) a:Nat):Int):=by
 rw[An];split
 ·rw[wrap_i64 (by omega) (by omega)];omega
 ·rw[wrap_i64 (by omega) (by omega)];omega
abbrev ARI:Q8:=DU
theorem AQn {n:ao}{a:aa}{s:Sl}{o:A30}(p:s.len<=s.cap)(w:s.len<=1099511627776)
  (y: ∀fv b,Ext a b->b.size=a.size+2->b[a.size]? =some (J2 #[J4 s.p s.len s.cap] AR (0,0))->b[a.size+1]? =some (J2 #[J6 J9 8] BL (0,0))->
   yB n P fv (λc=>c=a.size\/c=a.size+1) b (chunks s)->o fv b):AA n P Dh #[J4 s.p s.len s.cap,J6 J9 8] a o:=by
 refine JQ ?_;unfold FN;refine aj.mk λJ _ z A B=>?_
 refine aj.mk λC _ d q L=>?_
 refine ah.mk λK h=>?_
 refine AC.mk (AO d rfl) ?_;refine ae.no rfl (h _ _ ?_);have r:=Av q z;rw[B] at d ⊢;refine y _ C (A.trans q) (by omega) r d ⟨ARI,#[Ar a.size,Ar (a.size+1)],rfl,λD=>by kernel_rfl,?_⟩;intro M D E N j F G;refine Ii ?_;unfold En;refine Loop.rule (λm x e=> ∃i:Nat,x=(((8*i:Nat):Int),())/\m=(s.len+7) / 8-i/\i<=(s.len+7) / 8/\E i true e) ?_ ⟨0,rfl,rfl,by omega,G⟩;rintro K m _ e ⟨i,rfl,rfl,hi,f⟩ h;have hA:e[a.size]? =some (J2 #[J4 s.p s.len s.cap] AR (0,0)):=(j _ _ _ f _ (.inl rfl)).trans r;have hB:e[a.size+1]? =some (J2 #[J6 J9 8] BL (0,0)):=(j _ _ _ f _ (.inr rfl)).trans d;refine aA (AV.mk (AO hA rfl) ?_);dsimp only;refine ae.intro (λk=>?_) (λk=>?_)
 ·have t:8*i<s.len:=by simp at k;omega
  refine aA (AC.mk (AO hB rfl) ?_);refine aA (AV.mk (AO hA rfl) ⟨by omega,?_⟩);refine aA (AV.mk (AO hA rfl) ?_);rw[APE w t,An,An];refine⟨by omega,by omega,by omega,?_⟩;have p:=ADX (s:=s) (i:=i) (by omega);have u:=F i _ e p f;simp only[yh,Qh] at u;refine Er.mono u ?_;rintro v b ⟨g,rfl,l⟩;refine⟨g,rfl,?_⟩;cases g with
  |false=>exact ae.yes rfl ⟨rfl,i+1,false,l,(λa=>by cases a),by rw[R5];omega⟩
  |true=>
   refine ae.no rfl (aA ?_);have H:b[a.size+1]? =some (J2 #[J6 J9 8] BL (0,0)):=(j _ _ _ l _ (.inr rfl)).trans d;refine AC.mk (AO H rfl) ?_;have I:J8 J9 (((8*i:Nat):Int)+(8:Int))=((8*(i+1):Nat):Int):=by rw[wrap_i64 (by omega) (by omega)];omega
   rw[I];exact h ((s.len+7) / 8-(i+1)) _ _ (by omega) ⟨i+1,rfl,rfl,by omega,l⟩
 ·have t:s.len<=8*i:=by simp at k;omega
  have:i=(s.len+7) / 8:=by omega
  exact⟨rfl,i,true,f,λ_=>by rw[R5];exact this,by rw[R5];omega⟩
theorem sq:Qr P BX A9 Ih.w 16=true:=by kernel_rfl
structure BS (h1:aa) (B:Nat) (E:Nat->Obj->Prop) (out:List UInt8) (kl:List A31) (ix:List UInt8) (n:Nat) (hh:aa):Prop where
 gi:fB B hh B out
 keys: ∃ks:Sl,hh[B+1]? =some (J2 #[J4 ks.p ks.len ks.cap] BX (0,0))/\Own Ih A9 hh ks kl/\ ∀c,ks.ag=some c->B+3<c
 ix:hh[B+2]? =some (J2 #[J7 (Ad ix)] A9 (0,0))
 cA:hh[B+3]? =some (J2 #[J6 J9 (n:Int)] BL (0,0))
 fix: ∀c o,E c o->hh[c]? =some o
 eJ:Mod (λc=>B<=c) h1 hh
structure jQ (B:Nat) (E:Nat->Obj->Prop):Prop where
 u8: ∀c o,E c o-> ∀cs fz,o≠ J2 cs EL fz
 str: ∀c o,E c o-> ∀cs fz,o≠ J2 cs A9 fz
 lt: ∀c o,E c o->B+3<c
theorem lV {d:aa}{c:Nat}{e:Obj}(g:d[c]? =some e)(h: ∀a b,e≠ J2 a EL b): ¬U8 d c:=by rintro⟨a,b,f⟩;rw[g] at f;exact h a b (B9 f)
theorem NB {e:Array J0}{T b:Q7}{fr:Nat×Nat}(f:T≠b): ∀c d,(Obj.cells e T fr)≠ J2 c b d:=λc d a=>by injection a with _ a _;exact f a
theorem AMf {a:aa}{b:Sl}{d:List A31}(e:Own Ih A9 a b d){c:Nat}(f:U8 a c):b.ag≠some c:=by obtain⟨h,i,g⟩:=f;exact e.ne g (by decide)
theorem BS.ext {a d e:aa}{f:Nat}{g:Nat->Obj->Prop}{out:List UInt8}{h:List A31}{ix:List UInt8}{i:Nat}(b:BS a f g out h ix i d)(x:Ext d e):BS a f g out h ix i e:=by obtain⟨j,k,l,m⟩:=b.keys;exact⟨b.gi.ext x,⟨j,Av x k,l.ext x,m⟩,Av x b.ix,Av x b.cA,λc n o=>x.ag (b.fix c n o) (λp=>p),b.eJ.trans x.mod⟩
theorem BS.write {j g h:aa}{e:Nat}{i:Nat->Obj->Prop}{out k:List UInt8}{l:List A31}{ix:List UInt8}{n:Nat}(ok:jQ e i)(b:BS j e i out l ix n g)(q:fB e h e k)
  (m:Mod (λc=>c=e\/(e<=c/\U8 g c)) g h):BS j e i k l ix n h:=by
 obtain⟨r,s,o,p⟩:=b.keys;have aM: ∀ {c:Nat} {f:Obj},g[c]? =some f->c≠e->(∀ t u,f≠ J2 t EL u)->h[c]? =some f:=λa v w=>m.ag a (λd=>d.elim v (λd=>lV a w d.2))
 refine⟨q,⟨r,aM s (by omega) (NB (by decide)),o.mod m (λc a d=>?_),p⟩,aM b.ix (by omega) (NB (by decide)),aM b.cA (by omega) (NB (by decide)),λc f a=>aM (b.fix c f a) (by have:=ok.lt c f a;omega) (ok.u8 c f a),b.eJ.trans (m.ak λc _ a=>by rcases a with d|d<;>omega)⟩;rcases d with d|d
 ·have:=p c a;omega
 ·exact AMf o d.2 a
theorem BS.key {l h i:aa}{d:Nat}{j:Nat->Obj->Prop}{out:List UInt8}{n p:List A31}{ix:List UInt8}{q:Nat}(ok:jQ d j)(b:BS l d j out n ix q h){f jl:Sl}(u:h[d+1]? =some (J2 #[J4 f.p f.len f.cap] BX (0,0)))
  (r:Own Ih A9 h f n) (k: ∀c,f.ag=some c->d+3<c) (m:Mod (λc=>f.ag=some c\/c=d+1) h i) (v:i[d+1]? =some (J2 #[J4 jl.p jl.len jl.cap] BX (0,0)))
  (w:Own Ih A9 i jl p) (x: ∀c,jl.ag=some c->d+3<c):BS l d j out p ix q i:=by
 have hB: ∀c,f.ag=some c\/c=d+1->d+1<=c:=λc e=>by
  rcases e with a|a
  ·have:=k c a;omega
  ·omega
 refine⟨b.gi.mod m (λa=>by have:=hB _ a;omega) (λc e s a=>?_),⟨jl,v,w,x⟩,m.ag b.ix (λa=>?_),m.ag b.cA (λa=>?_),λc o e=>m.ag (b.fix c o e) (λa=>?_),b.eJ.trans (m.ak λc _ e=>by have:=hB _ e;omega)⟩
 ·rcases a with a|a
  ·exact AMf r s a
  ·subst a;exact lV u (NB (by decide)) s
 ·rcases a with a|a
  ·have:=k _ a;omega
  ·omega
 ·rcases a with a|a
  ·have:=k _ a;omega
  ·omega
 ·rcases a with a|a
  ·rcases r.row with⟨rfl,_⟩|⟨g,y,z,t,_⟩
   ·simp[Sl.ag] at a
   ·simp[Sl.ag,z] at a;subst a;rw[b.fix _ o e] at t;exact ok.str _ o e y (0,0) (B9 t)
  ·have:=ok.lt c o e;omega
theorem BS.ixs {h i e:aa}{d:Nat}{f:Nat->Obj->Prop}{out:List UInt8}{j:List A31}{ix dV:List UInt8}{k:Nat}(ok:jQ d f)(b:BS h d f out j ix k i)(m:Mod (λc=>c=d+2) i e)(o:e[d+2]? =some (J2 #[J7 (Ad dV)] A9 (0,0))):BS h d f out j dV k e:=by
 obtain⟨p,q,r,l⟩:=b.keys;exact⟨b.gi.mod m (λg=>by omega) (λc a s g=>by subst g;exact lV b.ix (NB (by decide)) s),⟨p,m.ag q (by omega),r.mod m (λc a g=>by have:=l c a;omega),l⟩,o,m.ag b.cA (by omega),
  λc n a=>m.ag (b.fix c n a) (by have:=ok.lt c n a;omega),b.eJ.trans (m.ak λc _ a=>by omega)⟩
theorem BS.oU {h i e:aa}{d:Nat}{f:Nat->Obj->Prop}{out:List UInt8}{j:List A31}{ix:List UInt8}{n n':Nat}(ok:jQ d f)(b:BS h d f out j ix n i)(m:Mod (λc=>c=d+3) i e)(o:e[d+3]? =some (J2 #[J6 J9 (n':Int)] BL (0,0))):BS h d f out j ix n' e:=by
 obtain⟨p,q,r,k⟩:=b.keys;exact⟨b.gi.mod m (λg=>by omega) (λc a s g=>by subst g;exact lV b.cA (NB (by decide)) s),⟨p,m.ag q (by omega),r.mod m (λc a g=>by have:=k c a;omega),k⟩,m.ag b.ix (by omega),o,
  λc l a=>m.ag (b.fix c l a) (by have:=ok.lt c l a;omega),b.eJ.trans (m.ak λc _ a=>by omega)⟩
theorem BS.lp {k h:aa}{i d:Nat}{j:Nat->Obj->Prop}{out:List UInt8}{l:List A31}{ix:List UInt8}{n:Nat}(b:BS k i j out l ix n h)(hd:i+3<d)(r: ∀e,¬j d e){s:Go.Loop}(o:h[d]? =some (.loop s))(e:Go.Loop):BS k i j out l ix n (h.setIfInBounds d (.loop e)):=by
 obtain⟨t,u,p,v⟩:=b.keys;have m:Mod (λc=>c=d) h (h.setIfInBounds d (.loop e)):=Mod.setObj rfl;refine⟨b.gi.mod m (λf=>by omega) (λc a w f=>by subst f;exact lV o (λ_ _ x=>by cases x) w),⟨t,m.ag u (by omega),p.mod m (λc a f=>?_),v⟩,m.ag b.ix (by omega),m.ag b.cA (by omega),
  λc e a=>m.ag (b.fix c e a) (λf=>by subst f;exact r _ a),b.eJ.trans (m.ak λc _ a=>by omega)⟩
 subst f;rcases p.row with⟨rfl,_⟩|⟨g,z,y,q,_⟩
 ·simp[Sl.ag] at a
 ·simp[Sl.ag,y] at a;subst a;rw[o] at q;cases q
def Iz(l:List Pr):List A31:=l.map (·.key)
def iY(l:List Pr):Nat:=min (l.length+8) 8192
def Qp(l:List Pr):List UInt8:=jL (Iz l) (iY l)
def YS(l:List Pr):List UInt8:=aT (aO l (Qp l))
def G5(a:List A31):List UInt8:=a.flatMap λb=>BU (bl b)
structure TR (l:List Pr):Prop where
 ne:l≠ []
 ok: ∀p∈l,MI p
 inc:l.Pairwise λp q=>aG p.key q.key=true
 many:l.length<=100000
theorem TR.eW {l:List Pr}(T:TR l):gI (YS l) l (Qp l):=by
 have a:1<=iY l/\iY l<=8192:=by unfold iY;omega
 refine⟨rfl,T.ne,T.ok,T.inc,?_,λp b=>AQi a.1 a.2 (Kf b),T.many⟩;unfold Qp;rw[ARW a.1];exact a
theorem Vu: ∀ {rs:List (List UInt8)},(∀ r∈rs,r.length<=1048576)->(aT rs).length<=rs.length*1048590
 | [],_=>by simp
 |r::rs,a=>by
  have d:=(Ki (a r B8)).2;have e:=a r B8;have b:=Vu (rs:=rs) λx c=>a x (AI _ c)
  simp only[aT,AW,A1,Ax] at b ⊢;omega
theorem Ri: ∀ {ks:List A31},(∀ k∈ks,k.size<=64)->(G5 ks).length<=ks.length*74
 | [],_=>by simp[G5]
 |k::ks,a=>by
  have d:=a k B8;have e:=AX (n:=(bl k).length) (by rw[BA];omega);have b:=Ri (ks:=ks) λx c=>a x (AI _ c)
  have f:=BA k;simp only[G5,AW,A1,Ax,BU] at b ⊢;omega
theorem Pg {l:List Pr}(b: ∀p∈l,MI p): ∀a∈CZ l,a.size<=64:=λa c=>by
 obtain⟨i,_,rfl⟩:=List.mem_map.1 c;unfold Iy;split
 ·rename_i p d;exact(b p (AG d)).bB
 ·exact A6 _
theorem Rh {l:List Pr}(a: ∀p∈l,MI p){i:Nat}(hi:i<Bv l):(Bo (CK l i)).length<=8*8276:=by
 have d:=Ot (l:=CK l i) λp b=>a p (QZ b)
 have c:=(RY hi).2.1;have:(CK l i).length*8276<=8*8276:=Bm _ c;omega
theorem AC2 {l:List Pr}(c: ∀p∈l,MI p): ∀a∈(Kw l).map Bo,a.length<=1048576:=λa d=>by
 obtain⟨b,e,rfl⟩:=List.mem_map.1 d;obtain⟨i,hi,rfl⟩:=List.mem_map.1 e;have:=Rh c (List.mem_range.1 hi);omega
theorem AQG {l:List Pr}{i:Nat}(hi:i<Bv l):((Kw l).map Bo)[i]? =some (Bo (CK l i)):=by simp[Kw,hi]
theorem R8 {l:List Pr}{i:Nat}(hi:i<Bv l):(CZ l)[i]? =some (Iy l (8*i)):=by simp[CZ,hi]
theorem Us {a:Type}{l:List a}{i:Nat}{x:a}(b:l[i]? =some x):l.take (i+1)=l.take i++ [x]:=by rw[AE,b];rfl
theorem AGT(a b:List Pr):Iz (a++b)=Iz a++Iz b:=by simp[Iz]
theorem AGU {l:List Pr}(a:l.Pairwise λp q=>aG p.key q.key=true){i:Nat}{p q:Pr}(b:l[i]? =some p)(c:l[i+1]? =some q):aG p.key q.key=true:=by obtain⟨d,rfl⟩:=List.getElem?_eq_some_iff.1 b;obtain⟨e,rfl⟩:=List.getElem?_eq_some_iff.1 c;exact List.pairwise_iff_getElem.1 a _ _ d e (by omega)
theorem AL1(a:Nat)(b:a<=100000):(if(8192:Int)<(J8 J9 (((a:Nat):Int)+(8:Int))) then(8192:Int) else(J8 J9 (((a:Nat):Int)+(8:Int))))=((min (a+8) 8192:Nat):Int):=by rw[wrap_i64 (by omega) (by omega)];split<;>omega
theorem AQT {bB:ao}{e:aa}{s:Sl}{l:List Pr}{a1:A30}(T:TR l)(Y:View Be e s l)(aw: ∀b,s.ag=some b->b<e.size)
  (bC: ∀a2,Ext e a2->a1 (J1 #[J7 (Ad (YS l)),J6 J9 0]) a2):AA bB P Qi #[J4 s.p s.len s.cap] e a1:=by
 refine ADJ ?_;unfold XZ;have cS:=List.length_pos_iff.2 T.ne;have cT:=T.many;refine ae.no (by rw[Y.len];simp;exact T.ne) ?_;refine Loop.rule (λm x u=> ∃i:Nat,x=(⟨#[]⟩,0,(i:Int),())/\m=l.length-i/\i<=l.length/\Ext e u) ?_ ⟨0,rfl,rfl,by omega,Mod.refl⟩;rintro K m _ g ⟨i,rfl,rfl,hi,N⟩ a3;dsimp only;have ax:=Y.ext N;refine ae.intro (λy=>?_) (λy=>?_)
 ·have ay:i<l.length:=by rw[Y.len] at y;simp at y;omega
  have z:l[i]? =some l[i]:=A2 ay;have A:=T.ok _ (BT ay);generalize l[i]=x at z A;have a4:=A.bB;have bE:=A.bY;refine ax.idx z λa bF f=>?_
  obtain⟨az,aA,aC⟩:=f.pair;rw[An];refine AL.mk az (AL.mk aA (Aa.mk aC ?_));refine aj.pair λb Z bG C a5 cU=>?_
  refine ah.mk λaD bH=>?_
  refine AL.mk (AO C rfl) (ae.no (APt A.key) ?_);have a6:aD (false,()) Z:=by
   refine bH _ _ (ae.no rfl ?_);refine ah.mk λcV bI=>?_
   refine AL.mk (AO C rfl) (ae.no (by simp;omega) ?_);refine AL.mk (AB C rfl) ?_;refine bI _ _ (ae.no (by simp;omega) ?_);rw[Ab (by omega)];exact a3 (l.length-(i+1)) _ _ (by omega) ⟨i+1,rfl,rfl,ay,N.trans a5⟩
  have a7:ae (decide (((i:Nat):Int)>(0:Int))) (AL Z (⟨b,0,none⟩:Q6) λa8=>
     aS s.p s.len (J8 J9 (((i:Nat):Int)-(1:Int))) λa9=>
     AL Z (a9.add ((J8 J9 (((i:Nat):Int)-(1:Int))).toNat*3)) λba=>
     aD ((aG a8 ba||bD a8 ba),()) Z) (aD (false,()) Z):=by
   refine ae.intro (λbJ=>?_) (λ_=>a6);have cW:0<i:=by simp at bJ;omega
   obtain⟨k,rfl⟩: ∃k,i=k+1:=⟨i-1,by omega⟩;have aE:J8 J9 (((k+1:Nat):Int)-(1:Int))=(k:Int):=by rw[wrap_i64 (by omega) (by omega)];omega
   have O:l[k]? =some l[k]:=A2 (by omega);refine AL.mk (AO C rfl) ?_;rw[aE];refine(ax.ext a5).idx O λa9 cX ac=>?_
   rw[An];refine AL.mk ac.pair.1 ?_;have aF:=AGU T.inc O z;have r:(aG x.key l[k].key||bD x.key l[k].key)=false:=by
    rw[GC];refine⟨?_,?_⟩
    ·cases bK:aG x.key l[k].key with
     |false=>rfl
     |true=>have:=DK aF bK;rw[CS] at this;cases this
    ·rw[Bj,decide_eq_false_iff_not];intro r;rw[r,CS] at aF;cases aF
   rw[r];exact a6
  refine Aa.mk (AB C rfl) (ae.intro (λbL=>?_) (λ_=>a7));refine AL.mk (AB C rfl) (ae.no ?_ a7);rw[YY,ZT (A.gone bL)];rfl
 ·clear a3;have aH:=Y.len;refine aj.mk λbM _ bN bO bP=>?_
  refine aj.mk λbQ _ bb bc cY=>?_
  refine aj.mk λcZ _ bd aI c0=>?_
  refine ab.mk bd (by simp) λbe bf an c1=>?_
  refine aj.mk λc2 _ bg ap c3=>?_
  refine ab.mk bg (by simp) λbh bi ag c4=>?_
  have bj:bM.size=g.size+1:=bP;have bk:bQ.size=g.size+2:=by omega
  have bm:be.size=g.size+3:=by omega
  have bR:bh.size=g.size+4:=by omega
  rw[bj] at bb;rw[bk] at bd an bf;rw[bm] at bg ag bi;rw[bj,bk,bm];refine AQn Y.cap (by omega) λfv H Q bS aJ ac bn=>⟨_,rfl,?_⟩
  rw[bR] at bS aJ ac bn;generalize bT:g.size=o at*
  have bU: ∃E:Nat->Obj->Prop,E=λc h=>(c=o+4/\h=J2 #[J4 s.p s.len s.cap] AR (0,0))\/(c=o+5/\h=J2 #[J6 J9 8] BL (0,0)):=⟨_,rfl⟩
  obtain⟨E,aq⟩:=bU;have bV:Ext g H:=by refine⟨by have:=Q.size;omega,λc f _=>?_⟩;rw[bT] at f;exact(Q.get c (by omega) (λe=>e)).trans ((ag.get c (by omega) (by omega)).trans ((ap.get c (by omega) (λe=>e)).trans ((an.get c (by omega) (by omega)).trans ((aI.get c (by omega) (λe=>e)).trans ((bc.get c (by omega) (λe=>e)).trans (bO.get c (by omega) (λe=>e)))))))
  have bW:H[o]? =some (J2 #[J5 none,J4 none 0 0] ET (0,0)):=
   Q.ag (ag.ag (ap.ag (an.ag (aI.ag (bc.ag bN (λe=>e)) (λe=>e)) (by omega)) (λe=>e)) (by omega)) (λe=>e)
  have bX:H[o+1]? =some (J2 #[J4 none 0 0] BX (0,0)):=
   Q.ag (ag.ag (ap.ag (an.ag (aI.ag bb (λe=>e)) (by omega)) (λe=>e)) (by omega)) (λe=>e)
  have bY:H[o+2]? =some (J2 #[J7 (Ad [])] A9 (0,0)):=by
   have bZ:be[o+2]? =some (J2 #[J7 (Ad [])] A9 (0,0)):=by rw[zL];simpa using bf
   exact Q.ag (ag.ag (ap.ag bZ (λe=>e)) (by omega)) (λe=>e)
  have b0:H[o+3]? =some (J2 #[J6 J9 ((0:Nat):Int)] BL (0,0)):=by
   have b1:bh[o+3]? =some (J2 #[J6 J9 ((0:Nat):Int)] BL (0,0)):=by simpa using bi
   exact Q.ag b1 (λe=>e)
  have cN:BS g o E [] [] [] 0 H:=by
   refine⟨ASI bW (A0 _),⟨⟨none,0,0⟩,bX,Own.nil,λc f=>by simp[Sl.ag] at f⟩,bY,b0,λc h f=>?_,bV.mod⟩;subst aq;rcases f with⟨rfl,rfl⟩|⟨rfl,rfl⟩
   ·exact aJ
   ·exact ac
  have R:jQ o E:=by
   subst aq;refine⟨λc h f D F=>?_,λc h f D F=>?_,λc h f=>?_⟩
   ·rcases f with⟨rfl,rfl⟩|⟨rfl,rfl⟩<;>exact NB (by decide) _ _
   ·rcases f with⟨rfl,rfl⟩|⟨rfl,rfl⟩<;>exact NB (by decide) _ _
   ·rcases f with⟨rfl,rfl⟩|⟨rfl,rfl⟩<;>omega
  have bo: ∀d h,o+6<=d-> ¬E d h:=by subst aq;rintro d h hd (⟨rfl,_⟩|⟨rfl,_⟩)<;>omega
  have b2:(chunks s).length=Bv l:=by rw[R5,aH];rfl
  have c5:Bv l<=12501:=by unfold Bv;omega
  have ar:H.size=o+6:=by omega
  have b3: ∀b,s.ag=some b->b<o:=λb b4=>by have:=aw b b4;have:=N.size;omega
  refine AU7 bn (λi u=>BS g o E (aT (((Kw l).map Bo).take i)) (Iz (l.take (8*i))) (G5 ((CZ l).take i)) i u) ?_ ?_ ?_ ?_ ?_
  ·intro i u t c f;subst aq;rcases f with rfl|rfl
   ·exact(t.fix _ _ (.inl ⟨rfl,rfl⟩)).trans aJ.symm
   ·exact(t.fix _ _ (.inr ⟨rfl,rfl⟩)).trans ac.symm
  ·rintro i u h t S ⟨c6,b5⟩;exact t.lp (by omega) (λh=>bo _ _ (by omega)) b5 h
  ·intro rec;exact cN.ext ((Mod.push H _).trans (Mod.push _ _))
  ·intro i x u rec c7 c8 z t S au b6 b7;have U:i<Bv l:=by have:=(List.getElem?_eq_some_iff.1 z).1;omega
   have b8:x=Qh s i:=by have:=ADX (s:=s) (i:=i) (by rw[aH];exact U);rw[this] at z;exact(B9 z).symm
   subst b8;rw[ar] at S au ⊢;refine⟨rec,au,b6,?_⟩;obtain⟨v,L⟩: ∃v:Nat->Obj->Prop,v=λc h=>E c h\/(c=o+6/\h= .deferred (some []))\/(c=o+6+1/\h= .loop {rec with state:= .busy}):=⟨_,rfl⟩
   have M:jQ o v:=by
    subst L;refine⟨λc h f D F=>?_,λc h f D F=>?_,λc h f=>?_⟩
    ·rcases f with e|⟨rfl,rfl⟩|⟨rfl,rfl⟩
     ·exact R.u8 c h e D F
     ·intro r;cases r
     ·intro r;cases r
    ·rcases f with e|⟨rfl,rfl⟩|⟨rfl,rfl⟩
     ·exact R.str c h e D F
     ·intro r;cases r
     ·intro r;cases r
    ·rcases f with e|⟨rfl,rfl⟩|⟨rfl,rfl⟩
     ·exact R.lt c h e
     ·omega
     ·omega
   have V:=t.lp (d:=o+6+1) (by omega) (λh=>bo _ _ (by omega)) au {rec with state:= .busy};have aK:BS g o v (aT (((Kw l).map Bo).take i)) (Iz (l.take (8*i))) (G5 ((CZ l).take i)) i (u.setIfInBounds (o+6+1) (.loop {rec with state:= .busy})):=by
    refine⟨V.gi,V.keys,V.ix,V.cA,λc h f=>?_,V.eJ⟩;subst L;rcases f with e|⟨rfl,rfl⟩|⟨rfl,rfl⟩
    ·exact V.fix c h e
    ·rw[Ds (by omega)];exact S
    ·exact Ce (Aj au)
   generalize u.setIfInBounds (o+6+1) (.loop {rec with state:= .busy})=g0 at aK;have c9:=RY U;have aL: ∀p∈CK l i,MI p:=λp aM=>T.ok p (QZ aM)
   have aN: ∀ {u:aa} {out:List UInt8} {b9:List A31} {ix:List UInt8} {n:Nat},BS g o v out b9 ix n u->View Be u (Qh s i) (CK l i):=λb=>
    View.chunk (ax.mod b.eJ (λc f=>by have:=b3 c f;omega)) U
   have ca:(Qh s i).len=(CK l i).length:=(aN aK).len;have aP:=Vu (rs:=((Kw l).map Bo).take i) λcb cc=>AC2 T.ok cb (DA cc)
   have aQ:=Ri (ks:=(CZ l).take i) λk O=>Pg T.ok k (DA O)
   rw[AD] at aP aQ;have da:=Rh T.ok U;refine Loop.rule (λm x u=> ∃j:Nat,x=(Ad (Bo ((CK l i).take j)),(j:Int),())/\m=(CK l i).length-j/\j<=(CK l i).length/\
    BS g o v (aT (((Kw l).map Bo).take i)) (Iz (l.take (8*i))++Iz ((CK l i).take j)) (G5 ((CZ l).take i)) i u) ?_ ⟨0,rfl,rfl,by omega,by simpa [Iz] using aK⟩
   rintro db m _ dc ⟨j,rfl,rfl,dd,I⟩ cd;dsimp only[rq];refine ae.intro (λy=>?_) (λy=>?_)
   ·have ai:j<(CK l i).length:=by have y:((j:Nat):Int)<(((Qh s i).len:Nat):Int):=of_decide_eq_true y;omega
    have z:(CK l i)[j]? =some (CK l i)[j]:=A2 ai;have A:=aL _ (BT ai);generalize (CK l i)[j]=p at z A;have bp:=Us z;refine(aN I).idx z λa bF f=>?_
    obtain⟨az,aA,aC⟩:=f.pair;rw[An];refine AL.mk az (AL.mk aA (Aa.mk aC ?_));refine aj.pair λbq de bG C ce df=>?_
    have B:=I.ext ce;obtain⟨ks,ak,al,am⟩:=B.keys;refine AV.mk (s:=ks) (AO ak rfl) ?_;refine AL.mk (AO C rfl) ?_;have dg:o+3<bq:=by have:=Aj I.cA;omega
    have aR:(Iz (l.take (8*i))++Iz ((CK l i).take j)).length<=100010:=by rw[A1];simp only[Iz,AF,AD];omega
    refine aj.aU (E:=Ih) (x:=p.key) rfl sq al (by omega) (by simp only[maxLen];omega) λbr cf cg aU ch dh=>?_
    have ci:cf[o+1]? =some (J2 #[J4 ks.p ks.len ks.cap] BX (0,0)):=aU.ag ak (λe=>by have:=am _ e;omega);refine ab.mk ci (by simp) λbs cj aV di=>?_
    have bt: ∀c,br.ag=some c->o+3<c:=λc f=>by
     rcases ch c f with e|e
     ·exact am c e
     ·have:=Aj B.cA;omega
    have G:BS g o v _ (Iz (l.take (8*i))++Iz ((CK l i).take j)++ [p.key]) _ i bs:=
     B.key M (jl:=br) ak al am ((aU.ak λc _ f=> .inl f).trans (aV.ak λc _ f=> .inr f)) (by simpa using cj) (cg.mod aV (λc f e=>by have:=bt c f;omega)) bt
    have aW:bs[bq]? =some (J2 #[J7 p.key,J7 p.val,J3 p.gone] AU (0,0)):=aV.ag (aU.ag C (λe=>al.ne C (by decide) e)) (by omega);refine AL.mk (AO aW rfl) (AL.mk (AB aW rfl) (Aa.mk (AB aW rfl) ?_));refine AP8 (x:=p) A λdj ck=>⟨_,rfl,?_⟩
    have cl:Bo ((CK l i).take (j+1))=Bo ((CK l i).take j)++Js p:=by rw[bp];simp[Bo]
    have lt:=Ot (l:=(CK l i).take j) λq y=>aL q (DA y)
    rw[AD] at lt;have lp:=(Qz A).2;have a4:=A.bB;have bE:=A.bY;refine⟨by rw[AP,AP,max_i64];omega,?_⟩;rw[Aq,<-cl,Ab (by omega)];refine cd ((CK l i).length-(j+1)) _ _ (by omega) ⟨j+1,rfl,rfl,ai,?_⟩;have J:=G.ext ck;have:Iz ((CK l i).take (j+1))=Iz ((CK l i).take j)++ [p.key]:=by rw[bp,AGT];rfl
    rw[this,<-A4];exact J
   ·have ai:j=(CK l i).length:=by have y: ¬((j:Nat):Int)<(((Qh s i).len:Nat):Int):=of_decide_eq_false y;omega
    have cm:(CK l i).take j=CK l i:=by rw[ai];simp
    rw[cm] at I ⊢;refine rV (by omega) (λe=>by omega) λaX dk cn=>⟨_,_,rfl,?_⟩
    have B:=I.ext cn;have co:=Ki aX;refine Vd B.gi (by have:=Aj B.cA;omega) (by rw[AP];omega) λcp cq cr=>⟨_,_,rfl,?_⟩
    have G:=B.write M cq cr;rw[FO] at G;refine AL.mk (AO G.ix rfl) ?_;have aY:(CK l i)[0]? =some (CK l i)[0]:=A2 (by omega);have bu:Iy l (8*i)=(CK l i)[0].key:=by have:=Qx (l:=l) (i:=i) (j:=0) (by omega);rw[aY] at this;unfold Iy;rw[CT] at this;rw[<- this]
    have bv:=aL _ (BT (show 0<(CK l i).length by omega));generalize (CK l i)[0]=W at aY bu bv;obtain⟨cs,ct,bw⟩:=(aN G).cells 0 W aY;refine aS.mk (k:=0) ct (by rw[ca];omega) ?_;rw[HX,add_zero] at bw;refine AL.mk (n:=W.key) (by show af cp (cs.add 0)=_;rw[add_zero];exact bw.pair.1) ?_;have a4:=bv.bB;refine WS (by omega) λdl cu=>⟨_,rfl,?_⟩
    have J:=G.ext cu;refine⟨AO J.ix rfl,?_⟩;have dm:=AX (n:=(bl W.key).length) (by rw[BA];omega);have dn:=BA W.key;refine⟨by rw[AP,AP,max_i64];simp only[BU,A1];omega,?_⟩;rw[Aq];refine ab.mk J.ix (by simp) λdp cv cw dq=>?_
    have X:=J.ixs M (dV:=G5 ((CZ l).take i)++BU (bl W.key)) cw (by simpa using cv);refine AC.mk (AO X.cA rfl) ?_;rw[Ab (by omega)];refine ab.mk X.cA (by simp) λcx cy cz dr=>?_
    have w:=X.oU M (n':=i+1) cz (by simpa using cy);have aE:aT (((Kw l).map Bo).take (i+1))=aT (((Kw l).map Bo).take i)++IZ (Bo (CK l i)):=by rw[Us (AQG U)];simp[aT]
    have cB:Iz (l.take (8*(i+1)))=Iz (l.take (8*i))++Iz (CK l i):=by rw[<- AGT,ye]
    have cC:G5 ((CZ l).take (i+1))=G5 ((CZ l).take i)++BU (bl W.key):=by rw[Us (R8 U),bu];simp[G5]
    subst L;refine b7 cx ?_ ?_ ?_
    ·rw[aE,cB,cC];exact⟨w.gi,w.keys,w.ix,w.cA,λc h f=>w.fix c h (.inl f),w.eJ⟩
    ·rw[ar];exact w.fix _ _ (.inr (.inl ⟨rfl,rfl⟩))
    ·rw[ar];exact w.fix _ _ (.inr (.inr ⟨rfl,rfl⟩))
  ·intro cD t S;rw[b2] at t;have ak:((Kw l).map Bo).take (Bv l)=(Kw l).map Bo:=As (by simp[JD]);have al:l.take (8*Bv l)=l:=As (by unfold Bv;omega);have am:(CZ l).take (Bv l)=CZ l:=As (by simp[Hz]);rw[ak,al,am] at t;rw[ar] at S ⊢;obtain⟨v,L⟩: ∃v:Nat->Obj->Prop,v=λc h=>E c h\/(c=o+6/\h= .deferred (some [])):=⟨_,rfl⟩
   have M:jQ o v:=by
    subst L;refine⟨λc h f D F=>?_,λc h f D F=>?_,λc h f=>?_⟩
    ·rcases f with e|⟨rfl,rfl⟩
     ·exact R.u8 c h e D F
     ·intro r;cases r
    ·rcases f with e|⟨rfl,rfl⟩
     ·exact R.str c h e D F
     ·intro r;cases r
    ·rcases f with e|⟨rfl,rfl⟩
     ·exact R.lt c h e
     ·omega
   have I:BS g o v (aT ((Kw l).map Bo)) (Iz l) (G5 (CZ l)) (Bv l) cD:=by
    refine⟨t.gi,t.keys,t.ix,t.cA,λc h f=>?_,t.eJ⟩;subst L;rcases f with e|⟨rfl,rfl⟩
    ·exact t.fix c h e
    ·exact S
   obtain⟨ks,bx,aZ,ds⟩:=I.keys;refine AV.mk (s:=ks) (AO bx rfl) (AV.mk (s:=ks) (AO bx rfl) ?_);have aR:ks.len=l.length:=by rw[aZ.len];simp[Iz]
   have bz:1<=iY l/\iY l<=8192:=by unfold iY;omega
   have bA:=T.eW;have dt:=bA.jk;rw[aR,AL1 _ T.many];rw[show((min (l.length+8) 8192:Nat):Int)=((iY l:Nat):Int) from rfl,<-aR];refine ASG (ks:=Iz l) aZ.view (λk O=>?_) bz.1 bz.2 (by simp[Iz];omega) (λb aw=>aZ.lt aw) λdu cE=>⟨_,_,rfl,?_⟩
   ·obtain⟨p,aM,rfl⟩:=List.mem_map.1 O;have:=(T.ok p aM).bB;omega
   have B:=I.ext cE;refine AC.mk (AO B.cA rfl) (AL.mk (AO B.ix rfl) ?_);rw[CJ (by omega)];refine Cf (by omega) λdv cF=>⟨_,rfl,?_⟩
   have G:=B.ext cF;refine⟨AO G.ix rfl,?_⟩;have dw:=AX (n:=Bv l) (by omega);have aQ:=Ri (ks:=CZ l) (Pg T.ok);rw[Hz] at aQ;refine⟨by rw[AP,AP,max_i64];omega,?_⟩;rw[aH,CJ (by omega)];refine Cf (by omega) λdx cG=>⟨_,rfl,?_⟩
   have J:=G.ext cG;have dy:=AX (n:=l.length) (by omega);refine⟨AO J.ix rfl,?_⟩;rw[Aq];refine⟨by rw[AP,AP,max_i64];simp only[A1];omega,?_⟩;refine Ro (l:=Qp l) (by omega) λdz cH=>⟨_,rfl,?_⟩
   have X:=J.ext cH;have dA:=AX (n:=(Qp l).length) (by omega);refine⟨AO X.ix rfl,?_⟩;rw[Aq,Aq];have dB:(BU (Qp l)).length=(Bp (Qp l).length).length+(Qp l).length:=by simp[BU]
   refine⟨by rw[AP,AP,max_i64];simp only[A1];omega,?_⟩;have cI:Bp (Bv l)++G5 (CZ l)++Bp l.length++BU (Qp l)=XC l (Qp l):=by unfold XC G5;simp only[A4]
   rw[cI];have dC:=ZG bA;refine rV (by omega) (λe=>by omega) λaX dD cJ=>⟨_,_,rfl,ae.no rfl ?_⟩
   have w:=X.ext cJ;have aP:=Vu (rs:=(Kw l).map Bo) (AC2 T.ok);rw[AF,JD] at aP;have co:=Ki aX;refine Vd w.gi (by have:=Aj w.cA;omega) (by rw[AP];omega) λdE cK cL=>⟨_,_,rfl,?_⟩
   have av:=w.write M cK cL;rw[FO] at av;refine AK0 av.gi (by have:=Aj av.cA;omega) λcM cO cP=>⟨_,rfl,?_⟩
   have a0:=av.write M cO cP;have cQ:aT ((Kw l).map Bo)++IZ (XC l (Qp l))=YS l:=by unfold YS aO;simp[aT]
   have cR:cM[o+6]? =some (.deferred (some [])):=a0.fix _ _ (by subst L;exact .inr ⟨rfl,rfl⟩);refine⟨cR,?_⟩;rw[cQ];refine bC _ ⟨?_,λc f _=>?_⟩
   ·have:=a0.eJ.size;have:=N.size;simp;omega
   ·have:=N.size;rw[Ds (by omega)];exact(a0.eJ.get c (by omega) (by omega)).trans (N.get c f (λe=>e))
end Go.Lf.G
namespace Go.Proofs
open Go.Shelf
theorem bears {P : Program} {f : FuncId} {b : Func} (a : (P.funcs[f]?).map (λx => { x with name := "" }) = some { b with name := "" }) (d : ((P.funcs[f]?).all λx => !(x.name == "runtime.NumGoroutine")) = true) : Bears P f b := by
 cases c:P.funcs[f]? with
 |none=>rw[c] at a;cases a
 |some x=>
  rw[c] at a d;simp only[Option.map_some,Option.some.injEq] at a;refine⟨x.name,by simpa using d,c.trans (congrArg some ?_)⟩;cases x;cases b
  simp_all
def Tryz.cy:Go.Shelf.Ren:=⟨λ|7=>98|10=>159|a=>a,λ|23=>94|26=>9|3=>164|28=>162|0=>0|27=>161|33=>104|4=>4|a=>a,λ|a=>a⟩
theorem Tryz.iH:Go.Proofs.SlLaysZ.n7 Tryz.prog Tryz.cy:=by repeat' first|exact Lf.De (by kernel_rfl)|kernel_rfl|exact bears (by kernel_rfl) (by kernel_rfl)|decide|constructor
def Tryz.dy:Go.Shelf.Ren:=⟨λ|6=>97|8=>157|9=>158|11=>220|13=>222|12=>221|23=>284|24=>285|14=>275|15=>276|16=>277|17=>278|18=>279|19=>280|20=>281|21=>282|22=>283|25=>310|26=>311|27=>312|28=>313|29=>314|30=>108|31=>334|a=>a,λ|26=>9|28=>162|24=>70|0=>0|3=>3|37=>177|48=>174|50=>123|4=>4|40=>372|39=>371|45=>363|5=>5|9=>9|51=>394|55=>397|57=>414|58=>251|33=>104|a=>a,λ|a=>a⟩
theorem Tryz.ia:Go.Proofs.SlLaysZ.n6 Tryz.prog Tryz.dy:=by repeat' first|exact Lf.De (by kernel_rfl)|kernel_rfl|exact bears (by kernel_rfl) (by kernel_rfl)|decide|constructor
def Tryz.fI:Go.Shelf.Ren:=⟨λ|6=>158|8=>222|9=>221|19=>284|20=>285|21=>275|22=>276|23=>277|24=>278|25=>279|26=>280|27=>281|28=>282|29=>283|36=>310|31=>311|32=>312|37=>313|38=>314|39=>108|41=>334|a=>a,λ|27=>70|29=>9|3=>3|32=>177|26=>70|0=>0|44=>174|46=>123|4=>4|36=>372|35=>371|41=>363|5=>5|9=>9|53=>394|57=>397|63=>414|64=>251|a=>a,λ|a=>a⟩
theorem Tryz.iI:Go.Proofs.SlLaysM.n6 Tryz.prog Tryz.fI:=by repeat' first|exact Lf.De (by kernel_rfl)|kernel_rfl|exact bears (by kernel_rfl) (by kernel_rfl)|decide|constructor
def Tryz.fJ:Go.Shelf.Ren:=⟨λ|5=>295|8=>222|7=>321|19=>284|20=>285|10=>338|11=>339|12=>340|13=>341|14=>342|15=>343|16=>344|17=>345|18=>346|30=>355|31=>311|32=>312|33=>356|34=>357|35=>105|40=>359|a=>a,λ|23=>22|25=>3|3=>3|32=>177|22=>22|0=>0|44=>174|46=>123|4=>4|36=>372|35=>371|41=>363|5=>5|9=>9|53=>394|57=>397|63=>414|64=>251|a=>a,λ|a=>a⟩
theorem Tryz.iJ:Go.Proofs.SlLaysM.n5 Tryz.prog Tryz.fJ:=by repeat' first|exact Lf.De (by kernel_rfl)|kernel_rfl|exact bears (by kernel_rfl) (by kernel_rfl)|decide|constructor
end Go.Proofs
namespace Go.Lf.G
open Go
abbrev nI:Q8:=FR
theorem ASU {d:ao}{a:aa}{b:Option Nat}{e:A30}(g: ∀T c,c[a.size]? =some (J2 #[.map b] T (0,0))->Ext a c->c.size=a.size+1->e (.func (.func nI) #[] #[Ar a.size]) c):
  AA d P CB #[.map b] a e:=by
 intro f;have h:=Proofs.AnyZ.keys_in Proofs.Tryz.iH Fence.wide 5 trivial rfl b (d.at a f);have i:=callsIn_wide.1 h;refine Calls.mono i ?_;rintro j k ⟨rfl,rfl⟩;refine⟨_,rfl,a.push (J2 #[.map b] (Proofs.Tryz.cy.t 23)),f,rfl,?_⟩;exact g (Proofs.Tryz.cy.t 23) (a.push (J2 #[.map b] (Proofs.Tryz.cy.t 23))) (by simp) (Mod.push a _) (by simp)
theorem AUj(m:Nat):Proofs.AnyZ.SortsIn P Proofs.Tryz.dy Fence.wide m:=
 ⟨λag off a c b d e f=>callsIn_wide.2 (Proofs.AnyM.slices_Sort_string Proofs.Tryz.iI ag off a c b d e f),
 λp a b=>callsIn_wide.2 (Proofs.AnyM.slices_Sort_string_none Proofs.Tryz.iI p a b)⟩
theorem ANx {A:ao}{h:aa}{c i:Nat}{T:Q7}{m:List (A31×J0)}{l:List A31}{o:A30}(p:h[c]? =some (J2 #[.map (some i)] T (0,0)))(M:WX h i m)
  (B:nK l) (C:(m.map (·.1)).Perm l) (d:m.length<=8796093022208)
  (q: ∀s j,Own Ih A9 j s l->Ext h j->(∀ b,s.ag=some b->h.size<=b)->o (J4 s.p s.len s.cap) j):
  AA A P GG #[.func (.func nI) #[] #[Ar c]] h o:=by
 intro n;obtain⟨k,D,E,r⟩:=ALr (P:=P) (kt:=A9) RN (w:=A.at h n) M;have F:SeqGives Fence.wide 2 P nI #[Ar c] Proofs.encStr (λe=>e.Perm (strKeys k)) (Maps.size k) (A.at h n):=
  Proofs.AnyZ.keys_gives (ρ:=Proofs.Tryz.cy) {Proofs.Tryz.iH with} Fence.wide _ trivial rfl (by omega) c i _ k _ (show c<h.size from Aj p) (by show af h ⟨c,0,none⟩=_;rw[JE p];rfl) D
 have G:=Proofs.AnyZ.sorted_in Proofs.Tryz.ia Fence.wide 5 trivial trivial trivial trivial rfl (by omega) (AUj _) (Proofs.enters_of Proofs.Tryz.func158 (by kernel_rfl) rfl) nI #[Ar c] trivial (Proofs.enters_of Proofs.Tryz.func159 (by kernel_rfl) rfl) _ _ (by rw[r];simp[maxLen];omega) (by rw[r];omega) _ F;have H:=callsIn_wide.1 G;refine Calls.mono H ?_;rintro V a ⟨v,e,rfl,I,t,W,f⟩;have u:a=A.at a.heap a.drawn:=wO (A:=A) (h:=h) (n:=n) rfl f.os f.tape f.output;have y:e.Perm (l.map λx=>x.data.toList):=by
  refine(I.trans E).trans ?_;have:=C.map λx:A31=>x.data.toList
  simpa [Cp,GP] using this
 have J:e.length=l.length:=by have:=y.length_eq;simpa using this
 rw[AKz B y,AOM] at t;have z:Ext h a.heap:=⟨f.size,λb d _=>f.block b d⟩;rcases t.2 with⟨rfl,X⟩|⟨g,K,L,rfl,N,O,Q,R,S,U⟩
 ·have:l= []:=CM (by omega);subst this;exact⟨_,rfl,a.heap,a.drawn,u,q ⟨none,0,0⟩ _ Own.nil z (λb d=>by simp[Sl.ag] at d)⟩
 ·refine⟨_,rfl,a.heap,a.drawn,u,q ⟨some ⟨g,0,none⟩,e.length,K⟩ _ ⟨J,.inr ⟨g,L,rfl,O,Q,R,S,U⟩⟩ z (λb d=>?_)⟩;simp[Sl.ag] at d;subst d;exact N
def jI(m:Bx):List A31×Int:=if m.down then([],30) else(m.files.map (·.name),0)
theorem FB.names {d:aa}{b e:Nat}{a:List (Fi×Nat)}{m:Bx}(c:FB d b e a m):((eM a).map (·.1)).Perm (m.files.map (·.name))/\(eM a).length<=8796093022208:=by
 refine⟨?_,?_⟩
 ·have:=c.perm.map (·.name);simpa [eM,Cp,GP] using this
 ·have f:=c.perm.length_eq;have g:=Zl m.files;have h:=c.aL.wt;simp at f ⊢;omega
theorem FB.eU {h:ao}{a:aa}{b i:Nat}{n:List (Fi×Nat)}{m:Bx}(d:FB a b i n m){j:Sl->aa->Prop}
  (o: ∀s f,Own Ih A9 f s (m.files.map (·.name))->Ext a f->(∀ c,s.ag=some c->a.size<=c)->j s f):
  AA h P CB #[.map (some i)] a λv1 g=> ∃k:J0,v1=k/\(
   AA h P GG #[k] g λv2 p=> ∃e:Sl,v2=J4 e.p e.len e.cap/\j e p):=by
 refine ASU λT w q l x=>⟨_,rfl,?_⟩
 refine ANx q (d.map.mod l (λa=>a)) (Ut.1 d.aL.sorted) d.names.1 d.names.2 λs g r t u=>⟨s,rfl,?_⟩
 exact o s g r (l.trans t) (λc v=>by have:=u c v;omega)
theorem xO {i:ao}{a:aa}{b:Nat}{j:Nat->Prop}{m:Bx}{h:A30}(d:Dl a b j m)
  (e: ∀s g,Own Ih A9 g s (jI m).1->Ext a g->(∀ c,s.ag=some c->a.size<=c)->h (J1 #[J4 s.p s.len s.cap,J6 J9 (jI m).2]) g):AA i P LZ #[Ar b] a h:=by
 obtain⟨n,o,d,p⟩:=d;refine ACS ?_;unfold Vh;refine kS d.head ⟨_,rfl,?_⟩;unfold jI at e;refine ae.intro (λhd=>?_) (λhd=>?_)
 ·rw[if_pos hd] at e;exact e ⟨none,0,0⟩ a Own.nil Mod.refl (λc k=>by simp[Sl.ag] at k)
 rw[if_neg (by simp[hd])] at e;exact aA (Ed.mk (AO d.head rfl) (d.eU λs g l x f=>e s g l x f))
theorem AIs:Qr P Ap BL GI.w 8=true:=by kernel_rfl
theorem AS8 {m:ao}{c:aa}{s:Sl}{l:List Int}{r:A30}(t:Own GI BL c s l)(N:l.length<=8796093022208)
  (u: ∀n,View GI n s (l.mergeSort λx d=>decide (x<=d))->Mod (λb=>s.ag=some b) c n->r (J1 #[]) n):AA m P I8 #[J4 s.p s.len s.cap] c r:=by
 intro j;have w:=t.len;rcases t.row with⟨rfl,rfl⟩|⟨g,o,p,h,A,O,B,y⟩
 ·refine Calls.mono (Proofs.AnyM.slices_Sort_int_none Proofs.Tryz.iJ none 0 (m.at c j)) ?_;rintro k C ⟨rfl,rfl⟩;exact⟨_,rfl,c,j,rfl,u c (by simpa using View.nil) Mod.refl⟩
 ·rw[p,w];have q:GI.w=1:=rfl;rw[q,AM] at B y;have D: ∀a x,l[a]? =some x->o[a]? =some (Value.int J9 x):=λa x e=>by
   have f:=dk (E:=GI) e 0 (J6 J9 x) rfl;rw[<- y,q,AM,CT,Fo] at f;split at f
   ·simpa using f
   ·cases f
  refine Calls.mono (Proofs.AnyM.slices_Sort_int Proofs.Tryz.iJ g 0 s.cap l (m.at c j) ?_ (Aj h) (by omega)) ?_
  ·intro a e;have e:a<l.length:=by simpa using e
   have f:=D a l[a] (A2 e);have F:l.toArray[a]! =l[a]:=by simp[e]
   refine⟨?_,?_⟩
   ·show af c ⟨g,0+a,none⟩=_;unfold af;rw[h];simp only[Option.isSome_none,BW,if_false,AH,F,f]
   ·show fL c ⟨g,0+a,none⟩=false;unfold fL;rw[h];simp
  ·rintro k C ⟨rfl,G,os,rfl⟩;have H:(c.modify g (Sort.onCells (Sort.putCells (Value.int J9) 0 (l.mergeSort λx d=>decide (x<=d)).toArray))++os)[g]? =some (J2 (Sort.putCells (Value.int J9) 0 (l.mergeSort λx d=>decide (x<=d)).toArray o) BL (0,0)):=by rw[Kx (by simpa using Aj h),KB,if_pos rfl,h];rfl
   refine⟨_,rfl,c.modify g (Sort.onCells (Sort.putCells (Value.int J9) 0 (l.mergeSort λx d=>decide (x<=d)).toArray))++os,j+G,rfl,u _ ⟨?_,A,λa x e=>⟨⟨g,0,none⟩,p,λi v hi=>?_⟩⟩ ⟨by simp,λb I J=>?_⟩⟩
   ·rw[A0J];exact w
   ·have K:i=0:=by have:=(List.getElem?_eq_some_iff.1 hi).1;have k:(GI.enc x).length=1:=rfl;omega
    subst K;simp only[GI,HE,Bk] at hi;subst hi;have z:a<(l.mergeSort λx d=>decide (x<=d)).length:=(List.getElem?_eq_some_iff.1 e).1;have L:a<o.size:=by rw[A0J] at z;omega
    rw[q,AM,CE,CE,AH,CT];unfold af;rw[H];simp only[Option.isSome_none,BW,if_false,Sort.putCells,Array.getElem?_mapIdx];rw[Fl L,Hk,if_pos ⟨A6 _,by simpa using z⟩];have:(l.mergeSort λx d=>decide (x<=d)).toArray[a-0]! =x:=by rw[It];simp[e]
    rw[this]
   ·have M:g≠b:=λk=>J (by rw[Sl.ag,p,k];rfl)
    rw[Kx (by simpa using I),KB,if_neg M]
structure AVn (nm:A31) (m:Bx) (l:List Nat):Prop where
 inc:l.Pairwise (· < ·)
 mem: ∀n,n∈l↔1<=n/\n<=99999999/\(Dg (br nm n) m.files).isSome=true
theorem AKr {a:A31}{l:List Fi}:(Dg a l).isSome=true↔a∈l.map (·.name):=by
 constructor
 ·intro b;cases c:Dg a l with
  |none=>rw[c] at b;cases b
  |some f=>
   obtain⟨d,e⟩:=KT c;exact List.mem_map.2 ⟨f,e,d⟩
 ·intro b;obtain⟨f,d,e⟩:=List.mem_map.1 b;cases c:Dg a l with
  |none=>exact absurd e (TA c f d)
  |some f=>rfl
theorem ARq {m:Bx}(g:Hg m):(m.files.map (·.name)).Nodup:=List.pairwise_map.2 (g.sorted.imp λa=>Lu a)
theorem AKx {ns:List Nat}(o:ns.Nodup): ∃l:List Nat,((ns.map λd:Nat=>(d:Int)).mergeSort λx e=>decide (x<=e))=l.map (λd:Nat=>(d:Int))/\l.Pairwise (· < ·)/\ ∀d,d∈l↔d∈ns:=by
 have g:=List.mergeSort_perm (ns.map λd:Nat=>(d:Int)) (λx e=>decide (x<=e));have m:((ns.map λd:Nat=>(d:Int)).mergeSort λx e=>decide (x<=e)).Pairwise (λx e=>decide (x<=e)=true):=
  List.pairwise_mergeSort (λa b c p i=>by simp at p i ⊢;omega) (λa b=>by simp;omega) _
 generalize (ns.map λd:Nat=>(d:Int)).mergeSort (λx e=>decide (x<=e))=f at g m;have j: ∀x∈f,((x.toNat:Nat):Int)=x:=λx h=>by
  obtain⟨d,_,rfl⟩:=List.mem_map.1 (g.subset h);simp
 have q:f=(f.map Int.toNat).map (λd:Nat=>(d:Int)):=by
  rw[Cp]
  conv=>lhs;rw[<- List.map_id f]
  exact GS λx h=>(j x h).symm
 have r:f.Nodup:=g.symm.nodup (by
  rw[SU,Nd];exact(List.nodup_iff_pairwise_ne.1 o).imp λs t=>s (by exact_mod_cast t))
 refine⟨f.map Int.toNat,q,?_,λd=>?_⟩
 ·rw[Nd];have i:f.Pairwise λx e=>decide (x<=e)=true/\x≠e:=m.and (List.nodup_iff_pairwise_ne.1 r)
  refine i.imp_of_mem λ{a c} u v n=>?_
  have y:=j a u;have z:=j c v;have A:a<=c:=of_decide_eq_true n.1;have B:=n.2;omega
 ·constructor
  ·intro k;obtain⟨x,h,rfl⟩:=List.mem_map.1 k;obtain⟨C,w,rfl⟩:=List.mem_map.1 (g.subset h);simpa using w
  ·intro k;exact List.mem_map.2 ⟨(d:Int),g.symm.subset (List.mem_map.2 ⟨d,k,rfl⟩),by simp⟩
theorem ABk {R:ao}{h:aa}{b:Nat}{S:Nat->Prop}{m:Bx}{j:A31}{N:A30}(E:bL h)(D:Dl h b S m)(hd:m.down=false)(T:j.size<=1099511627776)(aK:bH m.files<=8000000000000)
  (U: ∀k s (l:List Nat),AVn j m l->View GI k s (l.map λe:Nat=>(e:Int))->Ext h k->(∀ c,s.ag=some c->h.size<=c)->N (J1 #[J4 s.p s.len s.cap,J6 J9 0]) k):AA R P LP #[Ar b,J7 j] h N:=by
 refine ACQ ?_;unfold VQ;refine xO D λs n F y aL=>⟨s,_,rfl,?_⟩
 have V:jI m=(m.files.map (·.name),0):=by unfold jI;rw[if_neg (by simp[hd])]
 rw[V] at F ⊢;refine ae.no rfl ?_;have W:=ARq D.aL;have X: ∀d∈m.files.map (·.name),d.size<=32:=λd g=>by
  obtain⟨f,Y,rfl⟩:=List.mem_map.1 g;exact D.aL.names f Y
 have aM:(m.files.map (·.name)).length<=8000000000000:=by have:=Zl m.files;simp;omega
 have Z: ∀d,(Dg d m.files).isSome=true↔d∈m.files.map (·.name):=λd=>AKr
 dsimp only at F;generalize m.files.map (·.name)=names at*
 have v1:=F.view;refine Loop.rule (λO x G=> ∃(i:Nat) (sl:Sl) (ns:List Nat),x=(sl,(i:Int),())/\Ext n G/\Own GI BL G sl (ns.map λe:Nat=>(e:Int))/\(∀ c,sl.ag=some c->n.size<=c)/\i<=names.length/\ns.length<=i/\(ns.map (br j)).Sublist (names.take i)/\(∀ e∈ns,1<=e/\e<=99999999)/\(∀ d:Nat,1<=d->d<=99999999->br j d∈names.take i->d∈ns)/\O=names.length-i) ?_
  ⟨0,⟨none,0,0⟩,[],rfl,Mod.refl,Own.nil,λc o=>by simp[Sl.ag] at o,A6 _,A0 _,by simp,by simp,by simp,rfl⟩
 rintro K O _ G ⟨i,sl,ns,rfl,r,H,f,hi,aN,u,I,z,rfl⟩ ab;rw[v1.len];refine ae.intro (λJ=>?_) (λJ=>?_)
 ·have v:i<names.length:=by simpa using J
  refine ah.mk λac ag=>?_
  have af:names[i]? =some names[i]:=A2 v;rw[<- v1.len];refine(v1.ext r).idx af λa _ c=>?_
  refine AL.mk c.str ?_;refine AOL ((E.ext y).ext r) T (by have:=X names[i] (BT v);omega) λai e w ak al=>⟨_,rfl,?_⟩
  have A:names.take (i+1)=names.take i++ [names[i]]:=by rw[AE,af];rfl
  have fin: ∀(p:Sl) (q:List Nat) (k:aa),Ext n k->Own GI BL k p (q.map λe:Nat=>(e:Int))->(∀ c,p.ag=some c->n.size<=c)->q.length<=i+1->(q.map (br j)).Sublist (names.take (i+1))->(∀ e∈q,1<=e/\e<=99999999)->(∀ d:Nat,1<=d->d<=99999999->br j d∈names.take (i+1)->d∈q)->ac (p,()) k:=λp q k am an ap aq ar au av=>by
   refine ag _ _ ?_;dsimp only;rw[Ab (by omega)];exact ab (names.length-(i+1)) _ _ (by omega) ⟨i+1,p,q,rfl,am,an,ap,v,aq,ar,au,av,rfl⟩
  by_cases t:e=0
  ·refine ae.no (by simp[t]) (fin sl ns ai (r.trans w) (H.ext w) f (by omega) ?_ I ?_)
   ·rw[A];exact u.trans (List.sublist_append_left _ _)
   ·intro d B C g;rw[A] at g;rcases List.mem_append.1 g with g|g
    ·exact z d B C g
    ·exact absurd (List.mem_singleton.1 g).symm (ak t d B C)
  ·refine ae.yes (by simp;omega) ?_;obtain⟨aO,ne⟩:=al t;refine aj.aU (E:=GI) (x:=(e:Int)) (s:=sl) (l:=ns.map λe:Nat=>(e:Int)) rfl AIs (H.ext w) (by simp;omega) (by simp[maxLen];omega) λp aw ax ay az _=>?_
   refine fin p (ns++ [e]) aw ((r.trans w).more ay f) (by rw[Bs];exact ax) (λc o=>?_) (by simp;omega) ?_ ?_ ?_
   ·rcases az c o with h|h
    ·exact f c h
    ·have:=r.size;have:=w.size;omega
   ·rw[A,Bs];have aA: [e].map (br j)= [names[i]]:=by rw[ne];rfl
    rw[aA];exact u.append (List.Sublist.refl _)
   ·intro d g;rcases List.mem_append.1 g with g|g
    ·exact I d g
    ·rw[List.mem_singleton.1 g];omega
   ·intro d B C g;rw[A] at g;rcases List.mem_append.1 g with g|g
    ·exact List.mem_append.2 (.inl (z d B C g))
    ·have:=nN ((List.mem_singleton.1 g).trans ne);exact List.mem_append.2 (.inr (by simp[this]))
 ·have v:i=names.length:=by simp at J;omega
  subst v;rw[CD] at u z;have aC:ns.Nodup:=by have n:=u.nodup W;rw[SU,Nd] at n;rw[SU];exact n.imp λh aD=>h (by rw[aD])
  obtain⟨l,aE,aF,aG⟩:=AKx aC;refine AS8 H (by simp;omega) λaH Q aI=>⟨rfl,?_⟩
  rw[aE] at Q;refine U aH sl l ⟨aF,λe=>?_⟩ Q ((y.trans r).more aI λc o=>by have:=f c o;have:=y.size;omega) λc o=>by have:=f c o;have:=y.size;omega
  rw[aG,Z];constructor
  ·intro t;obtain⟨L,M⟩:=I e t;exact⟨L,M,u.subset (List.mem_map.2 ⟨e,t,rfl⟩)⟩
  ·rintro⟨L,M,aJ⟩;exact z e L M aJ
end Go.Lf.G
