/-
 What a store tells (chapter 9): plain law: batches, tables one behind the other, what lives.
-/
import Derived.Test.YtfiljlifdlfkkaaGreatDoorLfY7ToZ1
import Derived.Test.YtfiljlifdlfkkaaGreatDoorLfU2ToX2
import Derived.Test.YtfiljlifdlfkkaaGreatDoorLfAToN1
import Derived.Lib.AppendZerosOnto
import Derived.Lib.Overlaps
import Derived.Laws.IdiomCopy
import Derived.Laws.Externs
import Derived.Test.YtfiljlifdlfkkaaGreatDoorCards
import Derived.Test.YtfiljlifdlfkkaaGreatDoorTie
import Derived.Deep.DeepHandedRow
import Derived.Lib.LaidTab
import Derived.Stop.LaidErr
import Derived.Test.YtfiljlifdlfkkaaGreatDoorRows
import Derived.WalkKit
import Derived.ProofKit
import Derived.OpenShut
import Derived.JoinedCond
import Derived.Deep.Slices
import Derived.Carry
import Derived.Test.YtfiljlifdlfkkaaGreatDoorLfG1
import Derived.Test.YtfiljlifdlfkkaaGreatDoorLfKToGA
set_option maxRecDepth 100000
set_option linter.unusedVariables false
set_option linter.unusedSimpArgs false
open Go.IntKind renaming i64→J9,wrap→J8
open Go.Value renaming string→J7,int→J6,pointer→J5,slice→J4,bool→J3,tuple→J1
open Go.Obj renaming cells→J2
open Go renaming Value→J0,Addr→Q6,TypeId→Q7,FuncId→Q8,Program→Q1
open Go.Addr renaming add→Q9,mk→Q5
namespace Go.Lf.G
open Go
open M (Sorted Ac Bt BF Ae Ak BH Ah aY A7 aF Aw ZF)
theorem ARt {x:Pr}(a:MI x):Ah x=0:=by
 have c:x.key≠(⟨#[]⟩:A31):=λd=>a.key (by rw[d];rfl)
 have f:=a.bB;have g:=a.bY;unfold M.Ah;rw[if_neg ?_,if_neg ?_]
 ·simp only[CH,decide_eq_true_eq];omega
 ·simp only[CH,A3,decide_eq_true_eq,Cd,decide_eq_false_iff_not];rintro(b|⟨b,e⟩)
  ·exact c b
  ·exact e (sk (a.gone b))
theorem oH {x:Pr}(a:Ah x=0):MI x:=by
 unfold M.Ah at a;split at a
 ·cases a
 ·rename_i b;split at a
  ·cases a
  ·rename_i c;simp only[CH,A3,decide_eq_true_eq,Cd,decide_eq_false_iff_not,not_or,not_and,Decidable.not_not] at b c;refine⟨λd=>b.1 (sk d),by omega,by omega,λe=>?_⟩;rw[b.2 e];rfl
theorem ARD {l:List Pr}(a: ∀x∈l,MI x):BH l:=λx b=>ARt (a x b)
theorem AGP(a:A31): ∀ {b t:List Pr},Sorted t->BH b->Ac a (BF t b)=(Ac a b.reverse).or (Ac a t)
 | [],t,_,_=>rfl
 |x::b,t,s,g=>by
  have d:=g x (by simp);show Ac a (BF (Bt x t) b)=_;rw[AGP a (M.QH s) λe f=>g e (AI _ f),SM,M.Ld,M.Re d,M.Yh x a s,M.BB];cases Ac a b.reverse with
  |some p=>rfl
  |none=>
   by_cases c:x.key=a
   ·rw[if_pos c,if_pos c];rfl
   ·rw[if_neg c,if_neg c];rfl
def alive(a:Option Pr):Option Pr:=a.filter λp=> !p.gone
theorem IG(x:Pr):alive (some x)=if x.gone then none else some x:=by unfold alive;cases a:x.gone<;>simp[Option.filter,a]
theorem sv(a:A31): ∀ {l:List Pr},Sorted l->Ac a (A7 l)=alive (Ac a l)
 | [],_=>rfl
 |x::l,s=>by
  have e:=List.pairwise_cons.1 s;have c:=sv a e.2;unfold M.A7 at c ⊢;rw[AT,M.BB];by_cases b:x.key=a
  ·rw[if_pos b];cases d:x.gone with
   |false=>rw[if_pos (by rfl),M.BB,if_pos b,IG,d];rfl
   |true=>
    rw[if_neg (by simp),c];have:Ac a l=none:=M.EE λf g h=>M.Lu (e.1 f g) (b.trans h.symm)
    rw[this,IG,d];rfl
  ·rw[if_neg b];cases d:x.gone with
   |false=>rw[if_pos (by rfl),M.BB,if_neg b];exact c
   |true=>rw[if_neg (by simp)];exact c
theorem Vj {l:List Pr}(s:Sorted l):Sorted (A7 l):=s.sublist Hh
def NS(fr:List Pr)(ts:List (List Pr)):List Pr:=A7 (Ae (fr::ts))
theorem Es(fr:List Pr)(ts:List (List Pr)):Sorted (NS fr ts):=Vj (M.Dz _)
theorem Gg(a:A31){fr:List Pr}{ts:List (List Pr)}(b:aY (fr::ts)):Ac a (NS fr ts)=alive ((Ac a fr).or (Ak a ts)):=by unfold NS;rw[sv a (M.Dz _),M.LK a b,M.EJ]
def eL(m:List Pr)(p:Pr):List Pr:=m.take (aF p.key m)++(if p.gone then [] else [p])++m.drop (if Aw p.key m then aF p.key m+1 else aF p.key m)
def cu(m b:List Pr):List Pr:=b.foldl eL m
theorem VI(a:A31)(x:Pr)(l:List Pr):aF a (x::l)=if aG x.key a then aF a l+1 else 0:=by unfold M.aF M.gN;rw[MT];split<;>simp
theorem AD1(a:A31)(x:Pr)(l:List Pr):Aw a (x::l)=if aG x.key a then Aw a l else decide (x.key=a):=by unfold M.Aw;rw[VI];by_cases b:aG x.key a=true<;>simp[b]
def jR(a:A31)(l:List Pr):List Pr:=l.filter λq=> !decide (q.key=a)
theorem AM6 {k:A31}: ∀ {l:List Pr},Sorted l->l.take (aF k l)++l.drop (if Aw k l then aF k l+1 else aF k l)=jR k l
 | [],_=>by simp[jR]
 |x::l,s=>by
  have c:=List.pairwise_cons.1 s;have d:=AM6 (k:=k) c.2;unfold jR at d ⊢;rw[VI,AD1,AT];by_cases a:aG x.key k=true
  ·have i:x.key≠k:=M.Lu a;have j:(!decide (x.key=k))=true:=by simp[i]
   simp only[a,if_true,j,Ln,Dd];rw[<- d];cases n:Aw k l<;>simp
  ·rw[if_neg a,if_neg a,No,DG];have e:l.filter (λq=> !decide (q.key=k))=l:=by
    refine List.filter_eq_self.2 λf m=>?_
    have g:=c.1 f m;by_cases h:f.key=k
    ·rw[h] at g;exact absurd g a
    ·simp[h]
   by_cases b:x.key=k
   ·rw[if_pos (by simp[b]),if_neg (by simp[b]),e];rfl
   ·rw[if_neg (by simp[b]),if_pos (by simp[b]),e];rfl
theorem sw {m:List Pr}(s:Sorted m)(p:Pr):eL m p=if p.gone then jR p.key m else M.ins p m:=by
 unfold eL;cases a:p.gone with
 |true=>simp only[if_true,AS];exact AM6 s
 |false=>
  simp only[BW,if_false];have:=M.mD p m;unfold M.ZF at this;exact this
theorem APS(b c:A31)(m:List Pr):Ac b (jR c m)=if c=b then none else Ac b m:=by
 unfold jR
 induction m with
 |nil=>split<;>rfl
 |cons x m f=>
  rw[AT,M.BB];by_cases d:x.key=c
  ·rw[if_neg (by simp[d]),f];by_cases a:c=b
   ·rw[if_pos a,if_pos a]
   ·rw[if_neg a,if_neg a,if_neg (λe=>a (d.symm.trans e))]
  ·rw[if_pos (by simp[d]),M.BB,f];by_cases a:x.key=b
   ·rw[if_pos a,if_pos a,if_neg (λe=>d (a.trans e.symm))]
   ·rw[if_neg a,if_neg a]
theorem KO {m:List Pr}(s:Sorted m)(p:Pr):Sorted (eL m p):=by
 rw[sw s];split
 ·exact s.sublist Hh
 ·exact M.X9 p s
theorem Pn {m:List Pr}(s:Sorted m)(p:Pr)(a:A31):Ac a (eL m p)=if p.key=a then alive (some p) else Ac a m:=by
 rw[sw s];cases b:p.gone with
 |true=>rw[if_pos rfl,APS,IG,b];rfl
 |false=>rw[if_neg (by simp),M.Yh p a s,IG,b];rfl
theorem ADt: ∀ {b m:List Pr},Sorted m->Sorted (cu m b)
 | [],_,s=>s
 |p::b,m,s=>ADt (b:=b) (KO s p)
theorem ZU(a:A31): ∀ {b m:List Pr},Sorted m->Ac a (cu m b)=match Ac a b.reverse with|some p=>alive (some p)|none=>Ac a m
 | [],_,_=>rfl
 |p::b,m,s=>by
  show Ac a (cu (eL m p) b)=_;rw[ZU a (KO s p),SM,M.Ld,M.BB];cases Ac a b.reverse with
  |some q=>rfl
  |none=>
   rw[Pn s];by_cases c:p.key=a
   ·rw[if_pos c,if_pos c];rfl
   ·rw[if_neg c,if_neg c];rfl
theorem AJk {fr b:List Pr}{ts:List (List Pr)}(c:aY (fr::ts))(g:BH b):NS (BF fr b) ts=cu (NS fr ts) b:=by
 have e:=c.sorted fr (by simp);have f:aY (BF fr b::ts):=⟨λl a=>by
   rcases List.mem_cons.1 a with rfl|a
   ·exact M.YV e
   ·exact c.sorted l (by simp[a]),λl a=>by
   rcases List.mem_cons.1 a with rfl|a
   ·exact M.sY (c.aL fr (by simp))
   ·exact c.aL l (by simp[a])⟩
 refine(Es _ _).ext (ADt (Es _ _)) λd=>?_
 rw[Gg d f,AGP d e g,ZU d (Es _ _),Gg d c];cases Ac d b.reverse with
 |some p=>rfl
 |none=>rfl
theorem aY.gr {ts:List (List Pr)}(b:aY ts):aY ([]::ts):=⟨λl a=>by
  rcases List.mem_cons.1 a with rfl|a
  ·exact List.Pairwise.nil
  ·exact b.sorted l a,λl a=>by
  rcases List.mem_cons.1 a with rfl|a
  ·exact λ_ c=>by cases c
  ·exact b.aL l a⟩
theorem aY.tail {l:List Pr}{ts:List (List Pr)}(b:aY (l::ts)):aY ts:=⟨λx a=>b.sorted x (by simp[a]),λx a=>b.aL x (by simp[a])⟩
theorem AJC {fr:List Pr}{ts:List (List Pr)}(a:aY (fr::ts)):NS [] (fr::ts)=NS fr ts:=by
 refine(Es _ _).ext (Es _ _) λb=>?_
 rw[Gg b (aY.gr a),Gg b a,M.EJ];rfl
theorem AIm(a b:Option Pr):alive (a.or (alive b))=alive (a.or b):=by
 cases a with
 |some p=>rfl
 |none=>
  cases b with
  |none=>rfl
  |some q=>cases c:q.gone<;>simp[IG,c,alive]
def Jh(ts:List (List Pr)):List Pr:=A7 (Ae ts)
theorem oI {ts:List (List Pr)}:Sorted (Jh ts)/\BH (Jh ts):=⟨Vj (M.Dz _),λx a=>M.Yu _ x (List.mem_filter.1 a).1⟩
theorem aY.left {fr:List Pr}{ts:List (List Pr)}(b:aY (fr::ts)):aY [fr,Jh ts]:=⟨λl a=>by
  rcases List.mem_cons.1 a with rfl|a
  ·exact b.sorted _ (by simp)
  ·rw[List.mem_singleton.1 a];exact oI.1,λl a=>by
  rcases List.mem_cons.1 a with rfl|a
  ·exact b.aL _ (by simp)
  ·rw[List.mem_singleton.1 a];exact oI.2⟩
theorem XW {fr:List Pr}{ts:List (List Pr)}(b:aY (fr::ts)):NS fr [Jh ts]=NS fr ts:=by
 refine(Es _ _).ext (Es _ _) λa=>?_
 rw[Gg a (aY.left b),Gg a b,M.EJ];have:Ac a (Jh ts)=alive (Ak a ts):=by unfold Jh;rw[sv a (M.Dz _),M.LK a (aY.tail b)]
 rw[this];have c:Ak a ([]:List (List Pr))=none:=rfl;rw[c,Option.or_none,AIm]
theorem AC9 {fr:List Pr}{ts:List (List Pr)}(a:aY (fr::ts))(c:Jh ts= []):NS fr []=NS fr ts:=by
 rw[<- XW a,c];have e:aY [fr]:=⟨λl b=>by rw[List.mem_singleton.1 b];exact a.sorted _ (by simp),λl b=>by rw[List.mem_singleton.1 b];exact a.aL _ (by simp)⟩;have f:aY [fr,[]]:=by have:=aY.left a;rw[c] at this;exact this
 refine(Es _ _).ext (Es _ _) λd=>?_
 rw[Gg d e,Gg d f,M.EJ];rfl
theorem sx(l:List Pr):(A7 l).length<=l.length:=(Hh).length_le
open M (Sorted Ac Bt BF Ae Ak BH Ah aY A7)
theorem ARd:BH ([]:List Pr):=λ_ a=>by cases a
theorem TR.aL {l:List Pr}(t:TR l):Sorted l/\BH l:=⟨t.inc,ARD t.ok⟩
end Go.Lf.G
namespace Go.Lf
open Go
variable {α : Type} {E : cr α} {A : ao} {P : Q1}
def gW(a:Array J0):Nat->List J0->Array J0
 |_,[]=>a
 |o,v::b=>gW (a.setIfInBounds o v) (o+1) b
theorem JW: ∀(c:List J0) (a:Array J0) (b:Nat),(gW a b c).size=a.size
 | [],_,_=>rfl
 |v::d,a,b=>by unfold gW;rw[JW d];simp
theorem Rb: ∀(c:List J0) (b:Array J0) (a:Nat),a+c.length<=b.size->(gW b a c).toList=b.toList.take a++c++b.toList.drop (a+c.length)
 | [],b,a,e=>by simp[gW]
 |v::d,b,a,e=>by
  have f:b.size=b.toList.length:=by simp
  simp only[Ax] at e;unfold gW;rw[Rb d _ (a+1) (by simp;omega)];rw[DO,AE,List.take_set_of_le (A0 _),DM (by omega),List.drop_set_of_lt (by omega)];simp only[E0,A4,List.singleton_append,Ax,Dd,DG];rw[show a+1+d.length=a+(d.length+1) by omega]
theorem cO {A:ao}: ∀(h:List J0) (c:Nat) {d:aa} {n b:Nat} {f:Array J0} {T:Q7},d[b]? =some (.cells f T (0,0))-> ∃e,(A.at d n).setCells b c h=A.at e n/\e[b]? =some (.cells (gW f c h) T (0,0))/\Mod (· =b) d e/\e.size=d.size
 | [],c,d,n,b,f,T,g=>⟨d,rfl,g,Mod.refl,rfl⟩
 |v::i,c,d,n,b,f,T,g=>by
  have j:(cS d ⟨b,c,none⟩ v)[b]? =some (.cells (f.setIfInBounds c v) T (0,0)):=wM g;obtain⟨e,k,l,m,o⟩:=cO (A:=A) i (c+1) (n:=n) j;refine⟨e,?_,l,(Mod.set (S:=(· =b)) (a:=⟨b,c,none⟩) rfl).trans m,by rw[o,qz]⟩;show((A.at d n).setCell ⟨b,c,none⟩ v).setCells b (c+1) i=_;rw[<- k];rfl
theorem AQ4 {t h j T:Q7}{i:TypeInfo}{f:J0}(n:P.underlying t=some (.slice T))(o:P.underlying h=some (.int J9))(hi:P.info? T=some i)(q:i.zero=some f)(C:i.size=1)(r:f.cells= #[f]){a:aa}{p:Q2}{cap b:Nat}{K:Sl->aa->Prop}
  (s:0<b) (D:cap<b) (u:b*i.bytes<=140737488355328) (k:b<=maxLen) (F:0<i.bytes)
  (w: ∀e c l,e[a.size]? =some (.cells l T (0,0))->l.size=c->b<=c->c<=maxLen->Ext a e->e.size=a.size+1->K ⟨some ⟨a.size,0,none⟩,b,c⟩ e):
  Af A P (Builtin.append_ #[t,h] j #[.slice p 0 cap,.int J9 (b:Int)]) a λv e=> ∃g:Sl,v= .slice g.p g.len g.cap/\K g e:=by
 intro d;have x:(Builtin.firstCells i.size 0 (.slice p 0 cap)).run P (A.at a d).drew= .ok ([]:List J0).toArray (A.at a d).drew:=by cases p<;>simp[Builtin.firstCells,loadCells,loadCellsFrom]
 have y:Builtin.nextslicecap (0+b) cap*i.bytes<=281474976710656:=by rw[AH];exact growslice_fits (by omega) u
 have m:=Lib.run_append_grow_zeros (A.at a d) t h j T i f J9 J9 n o hi q p 0 cap [] x b s (by omega) (by omega) (by simp only[maxLen] at k;omega) (by omega) y;simp only[AH] at m;have z:=grownCap_ge (A.at a d) b cap T;have B:=grownCap_le_maxLen (A.at a d) b cap T k;generalize grownCap (A.at a d) b cap T=c at*
 refine⟨_,_,d+1,m,⟨some ⟨a.size,0,none⟩,b,c⟩,rfl,w _ c _ (Rg ..) ?_ z B (Mod.push a _) (by show(a.push _).size=a.size+1;simp)⟩;simp[Builtin.zeroCells,r];omega
theorem nV {t k T:Q7}(q:P.underlying t=some (.slice T))(r:(P.info? T).map (·.size)=some 1){d:aa}{b e g l h m:Nat}{a:Q6}{i:Array J0}{vs:List J0}{K:Int->aa->Prop}
  (j:d[b]? =some (.cells i T (0,0))) (s:vs.length=min h g) (u: ∀f v,vs[f]? =some v->af d (a.add f)=some v) (G:e+vs.length<=i.size) (w: ∀v∈vs,MH v=true)
  (x: ∀c,c[b]? =some (.cells (gW i e vs) T (0,0))->Mod (· =b) d c->c.size=d.size->K (vs.length:Int) c):
  Af A P (Builtin.copy_ #[t,t] k #[.slice (some ⟨b,e,none⟩) g l,.slice (some a) h m]) d λv c=> ∃o:Int,v= .int J9 o/\K o c:=by
 intro n;have p:=run_copy_cells (P:=P) (A.at d n) t t k T b e g l a h m vs q r s u
  (λf y=>by
   show(af d ⟨b,e+f,none⟩).isSome=true;rw[JE j,Fl (by omega)];rfl)
  (λf y=>Po j) (λv z=>Uc (w v z))
 obtain⟨c,B,C,D,F⟩:=cO (A:=A) vs e (n:=n) j;rw[B] at p;exact⟨_,c,n,p,_,rfl,x c C D F⟩
def nW(A:ao)(P:Q1)(t b:Q7)(h fr:Q8)(s:Sl)(i:Int)(v:Sl)(e:aa)(d:A30):Prop:=
 aE ((0:Int)<=i/\i<=((s.len:Nat):Int))<|
 ae (((v.len:Nat):Int)==(0:Int)) (
  d (.slice s.p s.len s.cap) e) (
  ae (i==((s.len:Nat):Int)) (
   Af A P (Builtin.append_ #[t,t] t #[.slice s.p s.len s.cap,.slice v.p v.len v.cap]) e λv1 j=> ∃c:Sl,v1= .slice c.p c.len c.cap/\(
   d (.slice c.p c.len c.cap) j)) (
   ae (decide ((J8 J9 (((s.len:Nat):Int)+((v.len:Nat):Int)))>((s.cap:Nat):Int))) (
    aE ((0:Int)<=i/\i<=((s.cap:Nat):Int))<|
    Af A P (Builtin.append_ #[t,b] t #[.slice (BJ s.p s.cap 0 1) (i.toNat-0) (s.cap-0),.int J9 (J8 J9 ((J8 J9 (((s.len:Nat):Int)+((v.len:Nat):Int)))-i))]) e λv2 k=> ∃a:Sl,v2= .slice a.p a.len a.cap/\(
    aE ((0:Int)<=i/\i<=((a.len:Nat):Int))<|
    Af A P (Builtin.copy_ #[t,t] b #[.slice (BJ a.p a.cap i.toNat 1) (a.len-i.toNat) (a.cap-i.toNat),.slice v.p v.len v.cap]) k λl m=> ∃n:Int,l= .int J9 n/\(
    aE ((0:Int)<=(J8 J9 (i+((v.len:Nat):Int)))/\(J8 J9 (i+((v.len:Nat):Int)))<=((a.len:Nat):Int))<|
    aE ((0:Int)<=i/\i<=((s.len:Nat):Int))<|
    Af A P (Builtin.copy_ #[t,t] b #[.slice (BJ a.p a.cap ((J8 J9 (i+((v.len:Nat):Int))).toNat) 1) (a.len-((J8 J9 (i+((v.len:Nat):Int))).toNat)) (a.cap-((J8 J9 (i+((v.len:Nat):Int))).toNat)),.slice (BJ s.p s.cap i.toNat 1) (s.len-i.toNat) (s.cap-i.toNat)]) m λo p=> ∃q:Int,o= .int J9 q/\(
    d (.slice a.p a.len a.cap) p)))) (
    aE ((0:Int)<=(J8 J9 (((s.len:Nat):Int)+((v.len:Nat):Int)))/\(J8 J9 (((s.len:Nat):Int)+((v.len:Nat):Int)))<=((s.cap:Nat):Int))<|
    aE ((0:Int)<=(J8 J9 (i+((v.len:Nat):Int)))/\(J8 J9 (i+((v.len:Nat):Int)))<=(((((J8 J9 (((s.len:Nat):Int)+((v.len:Nat):Int))).toNat)-0):Nat):Int))<|
    mY A P h #[.slice v.p v.len v.cap,.slice (BJ (BJ s.p s.cap 0 1) (s.cap-0) ((J8 J9 (i+((v.len:Nat):Int))).toNat) 1) ((((J8 J9 (((s.len:Nat):Int)+((v.len:Nat):Int))).toNat)-0)-((J8 J9 (i+((v.len:Nat):Int))).toNat)) ((s.cap-0)-((J8 J9 (i+((v.len:Nat):Int))).toNat))] e λr f=> ∃g:Bool,r= .bool g/\(
    ae (!g) (
     aE ((0:Int)<=(J8 J9 (i+((v.len:Nat):Int)))/\(J8 J9 (i+((v.len:Nat):Int)))<=(((((J8 J9 (((s.len:Nat):Int)+((v.len:Nat):Int))).toNat)-0):Nat):Int))<|
     aE ((0:Int)<=i/\i<=(((((J8 J9 (((s.len:Nat):Int)+((v.len:Nat):Int))).toNat)-0):Nat):Int))<|
     Af A P (Builtin.copy_ #[t,t] b #[.slice (BJ (BJ s.p s.cap 0 1) (s.cap-0) ((J8 J9 (i+((v.len:Nat):Int))).toNat) 1) ((((J8 J9 (((s.len:Nat):Int)+((v.len:Nat):Int))).toNat)-0)-((J8 J9 (i+((v.len:Nat):Int))).toNat)) ((s.cap-0)-((J8 J9 (i+((v.len:Nat):Int))).toNat)),.slice (BJ (BJ s.p s.cap 0 1) (s.cap-0) i.toNat 1) ((((J8 J9 (((s.len:Nat):Int)+((v.len:Nat):Int))).toNat)-0)-i.toNat) ((s.cap-0)-i.toNat)]) f λu w=> ∃x:Int,u= .int J9 x/\(
     aE ((0:Int)<=i/\i<=(((((J8 J9 (((s.len:Nat):Int)+((v.len:Nat):Int))).toNat)-0):Nat):Int))<|
     Af A P (Builtin.copy_ #[t,t] b #[.slice (BJ (BJ s.p s.cap 0 1) (s.cap-0) i.toNat 1) ((((J8 J9 (((s.len:Nat):Int)+((v.len:Nat):Int))).toNat)-0)-i.toNat) ((s.cap-0)-i.toNat),.slice v.p v.len v.cap]) w λy z=> ∃B:Int,y= .int J9 B/\(
     d (.slice (BJ s.p s.cap 0 1) (((J8 J9 (((s.len:Nat):Int)+((v.len:Nat):Int))).toNat)-0) (s.cap-0)) z))) (
     aE ((0:Int)<=((s.len:Nat):Int)/\((s.len:Nat):Int)<=(((((J8 J9 (((s.len:Nat):Int)+((v.len:Nat):Int))).toNat)-0):Nat):Int))<|
     Af A P (Builtin.copy_ #[t,t] b #[.slice (BJ (BJ s.p s.cap 0 1) (s.cap-0) (((s.len:Nat):Int).toNat) 1) ((((J8 J9 (((s.len:Nat):Int)+((v.len:Nat):Int))).toNat)-0)-(((s.len:Nat):Int).toNat)) ((s.cap-0)-(((s.len:Nat):Int).toNat)),.slice v.p v.len v.cap]) f λC D=> ∃F:Int,C= .int J9 F/\(
     aE ((0:Int)<=i/\i<=(((((J8 J9 (((s.len:Nat):Int)+((v.len:Nat):Int))).toNat)-0):Nat):Int))<|
     AA A P fr #[.slice (BJ (BJ s.p s.cap 0 1) (s.cap-0) i.toNat 1) ((((J8 J9 (((s.len:Nat):Int)+((v.len:Nat):Int))).toNat)-0)-i.toNat) ((s.cap-0)-i.toNat),.int J9 ((v.len:Nat):Int)] D λG H=>G= .tuple #[]/\(
     d (.slice (BJ s.p s.cap 0 1) (((J8 J9 (((s.len:Nat):Int)+((v.len:Nat):Int))).toNat)-0) (s.cap-0)) H)))))))
theorem Xl {e:aa}{b:Nat}{f:Array J0}{T:Q7}{fr:Nat×Nat}(h:e[b]? =some (.cells f T fr)){a:List J0}{g:Nat}(i:(f.toList.drop g).take a.length=a): ∀c v,a[c]? =some v->af e ((⟨b,g,none⟩:Q6).add c)=some v:=λc v d=>by
 rw[CE,JE h];have j:=(List.getElem?_eq_some_iff.1 d).1;rw[<- i,Fo,if_pos j,C5] at d;simpa using d
theorem yC {t ag T ah:Q7}{ai fr:Q8}{F:J0}{G:Nat}(aj:Qr P t T 1 G=true)(k:E.w=1)(aD:P.underlying ag=some (.int J9))(H:(P.info? T).bind (·.zero)=some F)(aE:F.cells= #[F])(hB:0<G)
  (aF: ∀args I,(callFunc ai args).run P I=((Extern.SlicesOverlaps.overlaps #[t,t] #[ah] args).run P I).andThen λv aG=> .ok (.value v) aG)
  {a:aa} {s:Sl} {l:List α} {x:α} {e:J0} {f:Nat} (R:Own E T a s l) (J:E.enc x= [e]) (o:a[f]? =some (.cells #[e] T (0,0))) (aH:s.ag≠some f) (ak:l.length+1<=maxLen) (al:(l.length+1)*G<=140737488355328) {am:A30}
  (S: ∀m w,Own E T w m (x::l)->Mod (λb=>s.ag=some b) a w->(∀ b,m.ag=some b->s.ag=some b\/a.size<=b)->am (.slice m.p m.len m.cap) w):
  nW A P t ag ai fr s (0:Int) ⟨some ⟨f,0,none⟩,1,1⟩ a am:=by
 unfold nW;have U:=R.len;have bj:maxLen<=9223372036854775807:=by simp[maxLen]
 obtain⟨r,i,z,hi,an,V,aI,bk⟩:=wN aj;have aJ:z=F:=by rw[hi] at H;simp only[R0] at H;rw[an] at H;exact B9 H
 subst aJ;have ao:MH e=true:=E.one x e (by rw[J];simp);have bm:=Aj o;refine⟨⟨HD _,by omega⟩,ae.no rfl ?_⟩;refine ae.intro (λq=>?_) (λq=>?_)
 ·have q:l= []:=by
   have:(0:Int)=((s.len:Nat):Int):=by simpa using q
   exact CM (by omega)
  subst q;have aK:View E a ⟨some ⟨f,0,none⟩,1,1⟩ [x]:=⟨rfl,A0 _,λj ap n=>⟨_,rfl,λaL u K=>by
   have aM:j=0:=by have:=(List.getElem?_eq_some_iff.1 n).1;simpa using this
   subst aM;simp only[HE,Bk] at n;subst n;rw[J] at K;have aN:aL=0:=by have:=(List.getElem?_eq_some_iff.1 K).1;simpa using this
   subst aN;simp only[HE,Bk] at K;subst K;rw[HX,CE,CE];exact AO o rfl⟩⟩
  have aO:Qr P t T E.w G=true:=by rw[k];exact aj
  exact II (s:=s) (src:=⟨some ⟨f,0,none⟩,1,1⟩) aO R aK (by simpa using al) (by simpa using ak) λm w aP aR aS _=>S m w aP aR aS
 ·have aT:0<l.length:=by
   have: ¬(0:Int)=((s.len:Nat):Int):=by simpa using q
   omega
  rcases R.row with⟨rfl,rfl⟩|⟨g,L,y,B,bn,aU,M,W⟩
  ·simp at aT
  ·rw[k,AM] at M W;have d:(l.flatMap E.enc).length=l.length:=by rw[LA,k,AM]
   have aq: ∀v∈l.flatMap E.enc,MH v=true:=λv C=>by
    obtain⟨ap,_,aV⟩:=List.mem_flatMap.1 C;exact E.one ap v aV
   have ar:g≠f:=λh=>aH (by rw[Sl.ag,y,h];rfl)
   have bo:=Aj B;have aW:J8 J9 (((s.len:Nat):Int)+(((1:Nat)):Int))=((l.length+1:Nat):Int):=by rw[U];exact Ab (by omega)
   have aX:J8 J9 ((0:Int)+(((1:Nat)):Int))=((1:Nat):Int):=by decide
   have aY:J8 J9 (((l.length+1:Nat):Int)-(0:Int))=((l.length+1:Nat):Int):=by rw[Int.sub_zero];exact FD (by omega)
   have N:(P.info? T).map (·.size)=some 1:=by rw[hi];simp[V]
   dsimp only;rw[aW,aX,aY];have aZ:((1:Nat):Int).toNat=1:=rfl;have a0:(0:Int).toNat=0:=rfl;have a1:((l.length+1:Nat):Int).toNat=l.length+1:=by omega
   rw[aZ,a0,a1];have au: ∀j v,[e][j]? =some v->af a ((⟨f,0,none⟩:Q6).add j)=some v:=Xl o (by simp);refine ae.intro (λX=>?_) (λX=>?_)
   ·have Y:s.cap<l.length+1:=by
     have:((s.cap:Nat):Int)<((l.length+1:Nat):Int):=by simpa using X
     omega
    refine⟨⟨HD _,by omega⟩,?_⟩;refine AQ4 (p:=BJ s.p s.cap 0 1) (cap:=s.cap) r aD hi an V aE (by omega) Y (by rw[aI];exact al) ak (by omega) λbp c av a2 aw a3 a4 Z bq=>⟨⟨HD _,by dsimp only;omega⟩,?_⟩
    have a5:BJ (some (⟨a.size,0,none⟩:Q6)) c 0 1=some ⟨a.size,0,none⟩:=by unfold BJ;rw[if_neg (by omega)];rfl
    have a6:BJ (some (⟨a.size,0,none⟩:Q6)) c 1 1=some ⟨a.size,1,none⟩:=by unfold BJ;rw[if_neg (by omega)];rfl
    dsimp only;rw[a5];refine nV (vs:= [e]) r N a2 (by simp) (λj v n=>Z.af (au j v n)) (by simp;omega) (λv C=>by rw[List.mem_singleton.1 C];exact ao) λa7 a8 ax br=>⟨⟨by omega,by omega⟩,⟨HD _,by omega⟩,?_⟩
    rw[a6,y];have O:BJ (some (⟨g,0,none⟩:Q6)) s.cap 0 1=some ⟨g,0,none⟩:=by unfold BJ;rw[if_neg (by omega)];rfl
    rw[O];have a9:a7[g]? =some (.cells L T (0,0)):=ax.ag (Z.ag B (λa=>a)) (by omega);refine nV (vs:=l.flatMap E.enc) r N a8 (by rw[d];omega) (Xl a9 (by rw[d,HU,<-U];exact W)) (by rw[JW,d];omega) aq λay ab Q ba=>?_
    refine S ⟨some ⟨a.size,0,none⟩,l.length+1,c⟩ ay ⟨rfl,.inr ⟨a.size,_,rfl,ab,a3,a4,by rw[JW,JW,k,AM];exact aw,?_⟩⟩ ?_ (λb D=> .inr (by simp[Sl.ag] at D;omega))
    ·rw[Rb _ _ _ (by rw[JW,d];omega),Rb _ _ _ (by simp;omega)];rw[k,AM,AW,J];have bb:av.toList.length=c:=by simp[aw]
     simp only[No,DG,BE];have bc:(([e]++av.toList.drop (0+1)).take 1)= [e]:=by simp
     rw[bc,Nx (by simp[d])];rw[As (by simp[d])]
    ·refine((Ext.mod Z).trans ((ax.trans Q).ak (S':=λb=>s.ag=some b\/b=a.size) λc az h=> .inr h)) |> λaA=>?_
     exact⟨aA.size,λb D bd=>aA.get b D (λbe=>be.elim bd (by omega))⟩
   ·have Y:l.length+1<=s.cap:=by
     have: ¬((s.cap:Nat):Int)<((l.length+1:Nat):Int):=by simpa using X
     omega
    have O: ∀c,0<c->BJ (some (⟨g,0,none⟩:Q6)) c 0 1=some ⟨g,0,none⟩:=λc az=>by
     unfold BJ;rw[if_neg (by omega)];rfl
    have bf: ∀c,1<c->BJ (some (⟨g,0,none⟩:Q6)) c 1 1=some ⟨g,1,none⟩:=λc az=>by
     unfold BJ;rw[if_neg (by omega)];rfl
    refine⟨⟨by omega,by omega⟩,⟨by omega,by omega⟩,?_⟩;rw[y,O _ (by omega),It,It,It,O _ (by omega),bf _ (by omega)];intro aC;refine⟨.bool false,a,aC,?_,false,rfl,ae.yes rfl ⟨⟨by omega,by omega⟩,⟨HD _,by omega⟩,?_⟩⟩
    ·rw[aF,Lib.run_overlaps_apart (A.at a aC) t ah T r 1 (λI=>by rw[Go.run_sizeOf I hi];simp[Program.cellsOf,hi,V]) ⟨f,0,none⟩ ⟨g,1,none⟩ 1 1 _ _ (λh=>ar h.symm) T T 1 s.cap
      (by show(match a[f]? with|some (.cells c ac _)=>some (ac,c.size)|_=>none)=_;rw[o];rfl) (by show(match a[g]? with|some (.cells c ac _)=>some (ac,c.size)|_=>none)=_;rw[B];simp[M]) (by omega) (Po o) (Po o)]
     rfl
    ·refine nV (vs:=l.flatMap E.enc) r N B (by rw[d];omega) (Xl B (by rw[d,HU,<-U];exact W)) (by rw[d];omega) aq λay ab Q ba=>⟨⟨HD _,by omega⟩,?_⟩
     refine nV (vs:= [e]) r N ab (by simp) (λj v n=>Q.af (au j v n) (by rw[aQ];exact λh=>ar h.symm)) (by rw[JW];simp;omega) (λv C=>by rw[List.mem_singleton.1 C];exact ao) λbg bh bi bs=>?_
     refine S ⟨some ⟨g,0,none⟩,l.length+1,s.cap⟩ bg ⟨rfl,.inr ⟨g,_,rfl,bh,Y,aU,by rw[JW,JW,k,AM];exact M,?_⟩⟩ ((Q.trans bi).ak λb _ h=>by rw[Sl.ag,y,h];rfl) (λb D=> .inl (by rw[Sl.ag,y];exact D));rw[Rb _ _ _ (by rw[JW];simp;omega),Rb _ _ _ (by rw[d];omega)];rw[k,AM,AW,J];have bb:L.toList.length=s.cap:=by simp[M]
     have bt:(L.toList.take 1).length=1:=by simp;omega
     simp only[No,DG,BE,AH];rw[A4 (L.toList.take 1),A0o (by omega),IF (by omega),DG];rw[<- A4,Nx (by simp[d])];rw[As (by simp[d])]
end Go.Lf
namespace Go.Lf.G
open Go
def gV:cr Nat where
 enc t:= [Ar t]
 w:=1
 len _:=rfl
 pos:=by omega
 one x v a:=by simp at a;subst a;rfl
theorem Cells.pt {b:aa}{a:Q6}{x:Nat}(c:Cells b a (gV.enc x)):af b a=some (Ar x):=by have d:=c 0 _ rfl;rwa [add_zero] at d
theorem AT6:Qr P Au Bd gV.w 8=true:=by kernel_rfl
theorem ovT(args:Array J0)(a:World):(callFunc EM args).run P a=((Extern.SlicesOverlaps.overlaps #[Au,Au] #[Ux] args).run P a).andThen λv b=> .ok (.value v) b:=
 run_callFunc_extern (fn:=Proofs.Tryz.f229) Proofs.Tryz.func229 (by kernel_rfl) (by kernel_rfl) (by kernel_rfl) (by kernel_rfl) args a
theorem ovI(args:Array J0)(a:World):(callFunc Gj args).run P a=((Extern.SlicesOverlaps.overlaps #[Ap,Ap] #[Ux] args).run P a).andThen λv b=> .ok (.value v) b:=
 run_callFunc_extern (fn:=Proofs.Tryz.f231) Proofs.Tryz.func231 (by kernel_rfl) (by kernel_rfl) (by kernel_rfl) (by kernel_rfl) args a
theorem AVe:(P.info? Bd).bind (·.zero)=some (J5 none):=by kernel_rfl
theorem AVu:(P.info? BL).bind (·.zero)=some (J6 J9 0):=by kernel_rfl
theorem xP:P.underlying BL=some (.int J9):=by kernel_rfl
theorem AT2(a:ao)(s v:Sl)(i:Int)(b:aa)(c:A30):Dx a s i v b c=nW a P Au BL EM FW s i v b c:=rfl
theorem AUq(a:ao)(s v:Sl)(i:Int)(b:aa)(c:A30):IV a s i v b c=nW a P Ap BL Gj Ip s i v b c:=rfl
theorem qW {g:ao}{a:aa}{s:Sl}{l:List Nat}{x d:Nat}{f:A30}(h:Own gV Bd a s l)(i:a[d]? =some (J2 #[Ar x] Bd (0,0)))(j:s.ag≠some d)(m:l.length<=1000000)
  (k: ∀c e,Own gV Bd e c (x::l)->Mod (λb=>s.ag=some b) a e->(∀ b,c.ag=some b->s.ag=some b\/a.size<=b)->f (J4 c.p c.len c.cap) e):
  AA g P BO #[J4 s.p s.len s.cap,J6 J9 0,J4 (some (⟨d,0,none⟩:Q6)) 1 1] a f:=by
 refine Ga (v:=⟨some ⟨d,0,none⟩,1,1⟩) ?_;rw[AT2];exact yC AT6 rfl xP AVe rfl (by decide) ovT h rfl i j (by simp[maxLen];omega) (by omega) k
theorem qX {g:ao}{a:aa}{s:Sl}{l:List Int}{x:Int}{d:Nat}{f:A30}(h:Own GI BL a s l)(i:a[d]? =some (J2 #[J6 J9 x] BL (0,0)))(j:s.ag≠some d)(m:l.length<=1000000)
  (k: ∀c e,Own GI BL e c (x::l)->Mod (λb=>s.ag=some b) a e->(∀ b,c.ag=some b->s.ag=some b\/a.size<=b)->f (J4 c.p c.len c.cap) e):
  AA g P DI #[J4 s.p s.len s.cap,J6 J9 0,J4 (some (⟨d,0,none⟩:Q6)) 1 1] a f:=by
 refine NP (v:=⟨some ⟨d,0,none⟩,1,1⟩) ?_;rw[AUq];exact yC AIs rfl xP AVu rfl (by decide) ovI h rfl i j (by simp[maxLen];omega) (by omega) k
structure Db where
 fr:List Pr
 ts:List (Nat×List Pr)
 next:Nat
 bV:Nat
 aJ:Nat
 aX:Nat
 bI:Bool
structure Hp where
 d:Nat
 b:Nat
 lg:Nat
 nt:Nat
 ft:Nat
 Sb:Nat->Prop
 ns:List M.DZ
 tp:Sl
 np:Sl
 ps:List Nat
abbrev eQ(q:Hp)(st:Db)(down:Bool):Array J0:= #[Ar q.b,Ar q.lg,Ar q.nt,Ar q.ft,J4 q.tp.p q.tp.len q.tp.cap,J4 q.np.p q.np.len q.np.cap,J6 J9 (st.next:Int),J6 J9 (st.bV:Int),J3 down]
abbrev eS(st:Db):List Int:=st.ts.map λp=>(p.1:Int)
def mf(h:aa)(k:Nat->Nat)(t:Nat)(l:List Pr):Prop:= ∃lo hi,bS h t l (Qp l) lo hi/\hi<=h.size/\(∀ c,lo<=c->c<hi->k c=8)/\TR l
structure bM (g h:aa) (q:Hp) (k:Nat->Nat) (st:Db) (m:Bx):Prop where
 cell:h[q.d]? =some (J2 (eQ q st false) KF (0,0))
 box:Dl h q.b q.Sb m
 log:GN h q.lg q.b nl st.aJ st.bI
 gO:GN h q.nt q.b nn st.aX false
 fresh:M.cW h q.ft q.ns st.fr
 cG:Own gV Bd h q.tp q.ps
 dt:q.ps.length=st.ts.length
 dB: ∀(i:Nat) (t:Nat) (p:Nat×List Pr),q.ps[i]? =some t->st.ts[i]? =some p->mf h k t p.2
 names:Own GI BL h q.np (eS st)
 kd:k q.d=1
 kb: ∀c,q.Sb c->k c=2
 kl:k q.lg=3
 kn:k q.nt=4
 kf: ∀c,M.dj q.ft q.ns c->k c=5
 kt: ∀c,q.tp.ag=some c->k c=6
 kx: ∀c,q.np.ag=some c->k c=7
 own: ∀c,k c≠0->g.size<=c/\c<h.size
 ext:Ext g h
theorem UF {b:Type}{d:cr b}{T:Q7}{h:aa}{s:Sl}{l:List b}(e:Own d T h s l){c:Nat}(a:s.ag=some c):c<h.size:=by
 rcases e.row with⟨rfl,_⟩|⟨g,j,f,i,_⟩
 ·simp[Sl.ag] at a
 ·rw[Sl.ag,f] at a;have:g=c:=by simpa using a
  subst this;exact Aj i
theorem mf.mod {h h':aa}{k d:Nat->Nat}{t:Nat}{l:List Pr}{e:Nat->Prop}(T:mf h k t l)(x:Mod e h h')(i: ∀c,k c=8-> ¬e c)(j: ∀c,c<h.size->d c=k c):mf h' d t l:=by obtain⟨lo,hi,n,o,f,p⟩:=T;exact⟨lo,hi,n.mod x λc a b=>i c (f c a b),AK o x.size,λc a b=>by rw[j c (by omega)];exact f c a b,p⟩
structure DbR (C:Nat->Prop) (g h h':aa) (q:Hp) (k:Nat->Nat) (st:Db) (m:Bx):Prop where
 ext:Ext g h'
 size:h.size<=h'.size
 cell: ¬C 1->h'[q.d]? =some (J2 (eQ q st false) KF (0,0))
 box: ¬C 2->Dl h' q.b q.Sb m
 log: ¬C 3->GN h' q.lg q.b nl st.aJ st.bI
 gO: ¬C 4->GN h' q.nt q.b nn st.aX false
 fresh: ¬C 5->M.cW h' q.ft q.ns st.fr
 cG: ¬C 6->Own gV Bd h' q.tp q.ps
 names: ¬C 7->Own GI BL h' q.np (eS st)
 dB: ¬C 8-> ∀k',(∀ c,c<h.size->k' c=k c)-> ∀(i:Nat) (t:Nat) (p:Nat×List Pr),q.ps[i]? =some t->st.ts[i]? =some p->mf h' k' t p.2
theorem bM.rest {C:Nat->Prop}{g h h':aa}{q:Hp}{k:Nat->Nat}{st:Db}{m:Bx}(a:bM g h q k st m)(x:Mod (λc=>C (k c)) h h')(f: ¬C 0):DbR C g h h' q k st m:=by
 refine⟨⟨AK a.ext.size x.size,λc d _=>?_⟩,x.size,λb=>x.ag a.cell (by rw[a.kd];exact b),λb=>a.box.mod x λc d=>by rw[a.kb c d];exact b,λb=>a.log.mod x (by rw[a.kl];exact b),λb=>a.gO.mod x (by rw[a.kn];exact b),
  λb=>a.fresh.mod x λc d=>by rw[a.kf c d];exact b,λb=>a.cG.mod x λc d=>by rw[a.kt c d];exact b,λb=>a.names.mod x λc d=>by rw[a.kx c d];exact b,
  λb n e i t p j l=>(a.dB i t p j l).mod x (λc d=>by rw[d];exact b) e⟩
 have e:k c=0:=Decidable.byContradiction λh=>by have:=(a.own c h).1;omega
 exact(x.get c (Fc d a.ext.size) (by rw[e];exact f)).trans (a.ext.get c d (λh=>h))
section
variable {g h h' : aa} {q : Hp} {k : Nat -> Nat} {st : Db} {m : Bx}
theorem bM.ik(a:bM g h q k st m):q.d<h.size:=Aj a.cell
theorem bM.oY(a:bM g h q k st m):q.lg<h.size:=Aj a.log
theorem bM.p5(a:bM g h q k st m):q.nt<h.size:=Aj a.gO
theorem bM.kP(a:bM g h q k st m): ¬q.Sb q.lg:=λb=>by have:=a.kb _ b;rw[a.kl] at this;cases this
theorem bM.ta(a:bM g h q k st m): ¬q.Sb q.nt:=λb=>by have:=a.kb _ b;rw[a.kn] at this;cases this
theorem bM.tc(a:bM g h q k st m): ¬q.Sb q.d:=λb=>by have:=a.kb _ b;rw[a.kd] at this;cases this
theorem bM.dn(a:bM g h q k st m):q.d≠q.nt:=λb=>by have:=a.kd;rw[b,a.kn] at this;cases this
theorem bM.on(a:bM g h q k st m)(x:Ext h h'):bM g h' q k st m:=by
 have b:=a.rest (C:=λ_=>False) x (λh=>h);exact⟨b.cell λh=>h,b.box λh=>h,b.log λh=>h,b.gO λh=>h,b.fresh λh=>h,b.cG λh=>h,a.dt,b.dB (λh=>h) k (λ_ _=>rfl),b.names λh=>h,a.kd,a.kb,a.kl,a.kn,a.kf,a.kt,a.kx,
  λc d=>⟨(a.own c d).1,Fc (a.own c d).2 x.size⟩,b.ext⟩
theorem bM.beside {e:Nat->Prop}(a:bM g h q k st m)(x:Mod e h h')(f: ∀c,e c->k c=0/\g.size<=c):bM g h' q k st m:=by
 have j:Ext g h':=⟨AK a.ext.size x.size,λc b _=>(x.get c (Fc b a.ext.size) λh=>by have:=(f c h).2;omega).trans (a.ext.get c b (λh=>h))⟩;have d: ∀ {c},k c≠0-> ¬e c:=λb l=>b (f _ l).1
 exact⟨x.ag a.cell (d (by rw[a.kd];decide)),a.box.mod x λc b=>d (by rw[a.kb c b];decide),a.log.mod x (d (by rw[a.kl];decide)),a.gO.mod x (d (by rw[a.kn];decide)),a.fresh.mod x λc b=>d (by rw[a.kf c b];decide),
  a.cG.mod x λc b=>d (by rw[a.kt c b];decide),a.dt,λi t p n o=>(a.dB i t p n o).mod x (λc b=>d (by rw[b];decide)) (λ_ _=>rfl),a.names.mod x λc b=>d (by rw[a.kx c b];decide),a.kd,a.kb,a.kl,a.kn,a.kf,a.kt,a.kx,
  λc b=>⟨(a.own c b).1,Fc (a.own c b).2 x.size⟩,j⟩
open Classical in
noncomputable def NJ (k:Nat->Nat) (a:Nat) (b:Nat->Prop) (d:Nat):Nat->Nat:=λc=>if c<a then k c else if b c then d else 0
theorem Ha {a b c:Nat}{d:Nat->Prop}(e:c<a):NJ k a d b c=k c:=by unfold NJ;rw[if_pos e]
theorem sB {a b c:Nat}{d:Nat->Prop}(f:a<=c)(e:d c):NJ k a d b c=b:=by unfold NJ;rw[if_neg (by omega),if_pos e]
theorem WR {a b c:Nat}{S:Nat->Prop}(e:a<=c)(d: ¬S c):NJ k a S b c=0:=by unfold NJ;rw[if_neg (by omega),if_neg d]
theorem bM.boxed(b:bM g h q k st m){S':Nat->Prop}{p:Bx}{j:Nat}{bF:Db}(r:Dl h' q.b S' p)(x:Mod (λc=>q.Sb c\/(j=3/\c=q.lg)\/(j=4/\c=q.nt)) h h')(s: ∀c,S' c->q.Sb c\/h.size<=c)
  (u:bF.fr=st.fr) (i:bF.ts=st.ts) (v:bF.next=st.next) (w:bF.bV=st.bV)
  (l:(j≠3/\bF.aJ=st.aJ/\bF.bI=st.bI)\/GN h' q.lg q.b nl bF.aJ bF.bI) (y:(j≠4/\bF.aX=st.aX)\/GN h' q.nt q.b nn bF.aX false):
  bM g h' {q with Sb:=S'} (NJ k h.size S' 2) bF p:=by
 have e:=b.rest (C:=λc=>c=2\/(j=3/\c=3)\/(j=4/\c=4)) (h':=h') (x.ak λc _ a=>by
  rcases a with a|⟨d,rfl⟩|⟨d,rfl⟩
  ·exact .inl (b.kb c a)
  ·exact .inr (.inl ⟨d,b.kl⟩)
  ·exact .inr (.inr ⟨d,b.kn⟩)) (by rintro(h|⟨_,h⟩|⟨_,h⟩)<;>cases h)
 have f: ∀ {c},c<h.size->NJ k h.size S' 2 c=k c:=λa=>Ha a
 have z:eQ {q with Sb:=S'} bF false=eQ q st false:=by simp only[eQ,v,w]
 refine⟨by rw[z];exact e.cell (by omega),r,?_,?_,by rw[u];exact e.fresh (by omega),e.cG (by omega),by rw[i];exact b.dt,by rw[i];exact e.dB (by omega) _ (λc a=>f a),by rw[eS,i];exact e.names (by omega),
  by rw[f b.ik];exact b.kd,λc a=>?_,by rw[f b.oY];exact b.kl,by rw[f b.p5];exact b.kn,λc a=>by rw[f (b.fresh.lt a)];exact b.kf c a,λc a=>by rw[f (UF b.cG a)];exact b.kt c a,
  λc a=>by rw[f (UF b.names a)];exact b.kx c a,λc a=>?_,e.ext⟩
 ·rcases l with⟨d,n,A⟩|d
  ·rw[n,A];exact e.log (by omega)
  ·exact d
 ·rcases y with⟨d,n⟩|d
  ·rw[n];exact e.gO (by omega)
  ·exact d
 ·by_cases o:c<h.size
  ·rw[f o];rcases s c a with d|d
   ·exact b.kb c d
   ·omega
  ·exact sB (by omega) a
 ·by_cases o:c<h.size
  ·rw[f o] at a;exact⟨(b.own c a).1,by have:=e.size;omega⟩
  ·by_cases t:S' c
   ·exact⟨by have:=b.ext.size;omega,r.lt t⟩
   ·exact absurd (WR (by omega) t) a
theorem bM.oX(b:bM g h q k st m){f:List M.DZ}{j:List Pr}(T:M.cW h' q.ft f j)(x:Mod (M.dj q.ft q.ns) h h')(s: ∀c,M.dj q.ft f c->M.dj q.ft q.ns c\/h.size<=c):
  bM g h' {q with ns:=f} (NJ k h.size (M.dj q.ft f) 5) {st with fr:=j} m:=by
 have d:=b.rest (C:=λc=>c=5) (h':=h') (x.ak λc _ a=>b.kf c a) (by decide);have e: ∀ {c},c<h.size->NJ k h.size (M.dj q.ft f) 5 c=k c:=λa=>Ha a
 refine⟨d.cell (by decide),d.box (by decide),d.log (by decide),d.gO (by decide),T,d.cG (by decide),b.dt,d.dB (by decide) _ (λc a=>e a),d.names (by decide),
  by rw[e b.ik];exact b.kd,λc a=>by rw[e (b.box.lt a)];exact b.kb c a,by rw[e b.oY];exact b.kl,by rw[e b.p5];exact b.kn,λc a=>?_,λc a=>by rw[e (UF b.cG a)];exact b.kt c a,
  λc a=>by rw[e (UF b.names a)];exact b.kx c a,λc a=>?_,d.ext⟩
 ·by_cases i:c<h.size
  ·rw[e i];rcases s c a with l|l
   ·exact b.kf c l
   ·omega
  ·exact sB (by omega) a
 ·by_cases i:c<h.size
  ·rw[e i] at a;exact⟨(b.own c a).1,by have:=d.size;omega⟩
  ·by_cases n:M.dj q.ft f c
   ·exact⟨by have:=b.ext.size;omega,T.lt n⟩
   ·exact absurd (WR (by omega) n) a
theorem bM.renew(b:bM g h q k st m){gl:Nat}(T:M.cW h' gl [] [])(i:h.size<=gl)(a:h'[q.d]? =some (J2 (eQ {q with ft:=gl} st false) KF (0,0)))(x:Mod (λc=>c=q.d) h h'):
  bM g h' {q with ft:=gl,ns:= []} (NJ k h.size (· =gl) 5) {st with fr:= []} m:=by
 have d:=b.rest (C:=λc=>c=1) (h':=h') (x.ak λc _ a=>by rw[a];exact b.kd) (by decide);have e: ∀ {c},c<h.size->NJ k h.size (· =gl) 5 c=k c:=λa=>Ha a
 have hi: ∀c,M.dj gl [] c->c=gl:=λc a=>by
  rcases a with rfl|⟨x,j,_⟩
  ·rfl
  ·cases j
 refine⟨a,d.box (by decide),d.log (by decide),d.gO (by decide),T,d.cG (by decide),b.dt,d.dB (by decide) _ (λc a=>e a),d.names (by decide),
  by rw[e b.ik];exact b.kd,λc a=>by rw[e (b.box.lt a)];exact b.kb c a,by rw[e b.oY];exact b.kl,by rw[e b.p5];exact b.kn,λc a=>by rw[hi c a];exact sB i rfl,λc a=>by rw[e (UF b.cG a)];exact b.kt c a,
  λc a=>by rw[e (UF b.names a)];exact b.kx c a,λc a=>?_,d.ext⟩
 by_cases l:c<h.size
 ·rw[e l] at a;exact⟨(b.own c a).1,by have:=d.size;omega⟩
 ·by_cases f:c=gl
  ·subst f;exact⟨by have:=b.ext.size;omega,T.lt (.inl rfl)⟩
  ·exact absurd (WR (S:=(· =gl)) (by omega) f) a
open Classical in
noncomputable def NQ (k:Nat->Nat) (b:Nat) (tp np:Sl) (a:Nat->Prop):Nat->Nat:=λc=>if k c≠0 then k c else if tp.ag=some c then 6 else if np.ag=some c then 7 else if a c then 8 else 0
theorem bM.fw(d:bM g h q k st m){tp np:Sl}{ps:List Nat}{ts:List (Nat×List Pr)}{next bV:Nat}{S:Nat->Prop}
  (a:h'[q.d]? =some (J2 (eQ {q with tp:=tp,np:=np} {st with next:=next,bV:=bV} false) KF (0,0))) (x:Mod (λc=>c=q.d\/q.tp.ag=some c\/q.np.ag=some c) h h')
  (G:Own gV Bd h' tp ps) (on:Own GI BL h' np (ts.map λp=>(p.1:Int))) (I:ps.length=ts.length)
  (n: ∀c,tp.ag=some c->q.tp.ag=some c\/(k c=0/\g.size<=c/\np.ag≠some c/\ ¬S c)) (o: ∀c,np.ag=some c->q.np.ag=some c\/(k c=0/\g.size<=c/\tp.ag≠some c/\ ¬S c)) (J: ∀c,S c->g.size<=c/\c<h'.size)
  (K: ∀(i:Nat) (t:Nat) (p:Nat×List Pr),ps[i]? =some t->ts[i]? =some p->(∃ e:Nat,q.ps[e]? =some t/\st.ts[e]? =some p)\/ ∃lo hi,bS h' t p.2 (Qp p.2) lo hi/\hi<=h'.size/\(∀ c,lo<=c->c<hi->S c/\k c=0)/\TR p.2):
  bM g h' {q with tp:=tp,np:=np,ps:=ps} (NQ k h.size tp np S) {st with ts:=ts,next:=next,bV:=bV} m:=by
 have j:=d.rest (C:=λc=>c=1\/c=6\/c=7) (h':=h') (x.ak λc _ a=>by
  rcases a with rfl|a|a
  ·exact .inl d.kd
  ·exact .inr (.inl (d.kt c a))
  ·exact .inr (.inr (d.kx c a))) (by decide)
 have f: ∀ {c e},k c=e->e≠0->NQ k h.size tp np S c=e:=λb r=>by unfold NQ;rw[if_pos (by rw[b];exact r)];exact b
 refine⟨a,j.box (by decide),j.log (by decide),j.gO (by decide),j.fresh (by decide),G,I,λi t p b r=>?_,on,f d.kd (by decide),λc a=>f (d.kb c a) (by decide),f d.kl (by decide),f d.kn (by decide),λc a=>f (d.kf c a) (by decide),λc a=>?_,λc a=>?_,λc a=>?_,j.ext⟩
 ·rcases K i t p b r with⟨e,L,M⟩|⟨lo,hi,s,u,v,w⟩
  ·obtain⟨lo,hi,s,u,v,w⟩:=j.dB (by decide) k (λ_ _=>rfl) e t p L M;exact⟨lo,hi,s,u,λc y z=>f (v c y z) (by decide),w⟩
  ·refine⟨lo,hi,s,u,λc y z=>?_,w⟩;obtain⟨A,B⟩:=v c y z;have N:tp.ag≠some c:=λD=>by
    rcases n c D with h|h
    ·have:=d.kt c h;rw[B] at this;cases this
    ·exact h.2.2.2 A
   have O:np.ag≠some c:=λD=>by
    rcases o c D with h|h
    ·have:=d.kx c h;rw[B] at this;cases this
    ·exact h.2.2.2 A
   unfold NQ;rw[if_neg (by simp[B]),if_neg N,if_neg O,if_pos A]
 ·rcases n c a with b|b
  ·exact f (d.kt c b) (by decide)
  ·unfold NQ;rw[if_neg (by simp[b.1]),if_pos a]
 ·rcases o c a with b|b
  ·exact f (d.kx c b) (by decide)
  ·unfold NQ;rw[if_neg (by simp[b.1]),if_neg b.2.2.1,if_pos a]
 ·by_cases l:k c=0
  ·unfold NQ at a;rw[if_neg (by simp[l])] at a;by_cases E:tp.ag=some c
   ·refine⟨?_,UF G E⟩;rcases n c E with b|b
    ·have:=d.kt c b;rw[l] at this;cases this
    ·exact b.2.1
   ·rw[if_neg E] at a;by_cases F:np.ag=some c
    ·refine⟨?_,UF on F⟩;rcases o c F with b|b
     ·have:=d.kx c b;rw[l] at this;cases this
     ·exact b.2.1
    ·rw[if_neg F] at a;by_cases H:S c
     ·exact J c H
     ·rw[if_neg H] at a;exact absurd rfl a
  ·exact⟨(d.own c l).1,by have:=(d.own c l).2;have:=j.size;omega⟩
end
theorem ATX {a:Nat}(h:a<=99999999):Mj (cz a)=false:=by
 have b:(cz a).size=1+(Lib.decDigits a).length:=by have:=BA (cz a);rw[oG] at this;rw[<- this];simp;omega
 have c:(Lib.decDigits a).length<=20:=by rw[Lib.decDigits_length];exact Lib.nDigits_le20 a (by omega)
 unfold Mj;rw[GC,decide_eq_false_iff_not,decide_eq_false_iff_not];refine⟨λh=>?_,by omega⟩;rw[h] at b;have:cN.size=0:=rfl;omega
theorem Yt {A:ao}{h:aa}{a:Nat}{R:A30}(c:bL h)(l:a<=1099511627776)(d: ∀b,Ext h b->R (J7 (cz a)) b):AA A P JK #[J6 J9 a] h R:=by
 refine AKE ?_;unfold wx;refine WC c.dB (by omega) (by omega) λe f=>⟨_,rfl,?_⟩
 have i:Lib.itoa (a:Int)=Lib.decDigits a:=Lib.itoa_nonneg a;rw[i];have n:(Lib.decDigits a).length<=20:=by rw[Lib.decDigits_length];exact Lib.nDigits_le20 a (by omega)
 have j:(⟨(Lib.decDigits a).toArray⟩:A31).size=(Lib.decDigits a).length:=by simp[ByteArray.size]
 refine⟨?_,?_⟩
 ·rw[j,max_i64];have:(⟨#[116]⟩:A31).size=1:=rfl;omega
 ·exact d e f
section
variable {A : ao} {g h : aa} {q : Hp} {k : Nat -> Nat} {st : Db} {m : Bx} {R : A30}
theorem bM.ij(a:bM g h q k st m)(b:bL g):bL h:=b.ext a.ext
def Grow(k a:Nat->Nat)(b:Nat):Prop:= ∀c,c<b->a c=k c
theorem AKL {k:Nat->Nat}{a b:Nat}{d:Nat->Prop}:Grow k (NJ k a d b) a:=λc e=>Ha e
theorem ASw(b:bM g h q k st m)(t:st.next<=99999999)(M:st.bV<=99999999)(N:st.ts.length<=60000)(u: ∀p∈st.ts,p.1<=99999999)(E: ∀v,Ext h v->R (J7 (Ad (lX ⟨st.next,st.bV,st.ts.map (·.1)⟩))) v):AA A P Qf #[Ar q.d] h R:=by
 refine AFE ?_;unfold XU;refine aA (AC.mk (AB b.cell rfl) (aA (AC.mk (AB b.cell rfl) (aA (AV.mk (s:=q.np) (AB b.cell rfl) ?_)))));rw[CJ (by omega)];refine Cf (by omega) λO w=>⟨_,rfl,?_⟩
 have f:=Av w b.cell;refine⟨AB f rfl,AB f rfl,?_⟩;rw[CJ (by omega)];refine Cf (by omega) λQ y=>⟨_,rfl,?_⟩
 have z:=Av y f;have S:=AX (n:=st.next) (by omega);have T:=AX (n:=st.bV) (by omega);have j:q.np.len=st.ts.length:=by rw[b.names.len];simp
 refine⟨AB z rfl,by rw[AP,AP,max_i64];omega,?_⟩;rw[j,CJ (by omega),Aq];refine Cf (by omega) λF B=>⟨_,rfl,?_⟩
 have G:=Av B z;have U:=AX (n:=st.ts.length) (by omega);refine⟨by rw[AP,AP,A1,max_i64];omega,?_⟩;refine aA (AV.mk (s:=q.np) (AB G rfl) ?_);rw[Aq];have C:=(w.trans y).trans B;have H:=(b.names.ext C).view;have V: ∀i,((st.ts.map (·.1)).take i).flatMap Bp=((st.ts.map (·.1)).take i).flatMap Bp:=λ_=>rfl
 refine Loop.rule (λD x o=> ∃i:Nat,x=(Ad (Bp st.next++Bp st.bV++Bp st.ts.length++((st.ts.map (·.1)).take i).flatMap Bp),(i:Int),())/\D=st.ts.length-i/\i<=st.ts.length/\Ext F o) ?_ ⟨0,by simp,rfl,by omega,Mod.refl⟩;rintro K D _ o ⟨i,rfl,rfl,hi,r⟩ I;dsimp only;refine ae.intro (λe=>?_) (λe=>?_)
 ·have d:i<st.ts.length:=by rw[<- j];simpa using e
  have af:st.ts[i]? =some st.ts[i]:=A2 d;have W:=u st.ts[i] (BT d);refine(H.ext r).idx (i:=i) (x:=(st.ts[i].1:Int)) (by rw[eS,AN,af];rfl) λa _ c=>AC.mk c.int ?_
  rw[CJ (by omega)];refine Cf (by omega) λX J=>⟨_,rfl,?_⟩
  have Y:=AX (n:=st.ts[i].1) (by omega);have Z:=su (l:=(st.ts.map (·.1)).take i) λn t=>by
   obtain⟨p,L,rfl⟩:=List.mem_map.1 (DA t);exact u p L
  have aa:((st.ts.map (·.1)).take i).length<=60000:=by simp;omega
  refine⟨by rw[AP,AP,max_i64];simp only[A1];omega,?_⟩;rw[Aq,Ab (by omega)];refine I (st.ts.length-(i+1)) _ _ (by omega) ⟨i+1,?_,rfl,d,r.trans J⟩;rw[AE,AN,af];simp
 ·have d:i=st.ts.length:=by rw[j] at e;simp at e;omega
  subst d;have:=E o (C.trans r);rw[As (by simp)];simpa [lX] using this
theorem AQx {n:Nat}{s:Sl}{l:List Pr}(v:bL g)(E:bM g h q k st m)(c:Calm m)(T:TR l)(aa:View Be h s l)(w: ∀c,s.ag=some c->c<h.size)(ab:n<=99999999)(ac:ff m (cz n)=none)(af:bH m.files+(YS l).length+1<=8796093022208)
  (ag: ∀b S' y e t lo hi,bM g b {q with Sb:=S'} y st e->Calm e->(∀ x,x≠cz n->ff e x=ff m x)->ff e (cz n)≠none->bH e.files<=bH m.files+(YS l).length+1->bS b t l (Qp l) lo hi->h.size<=lo->hi<=b.size->(∀ c,lo<=c->y c=0)->
   Mod q.Sb h b->Grow k y h.size->R (J1 #[Ar t,J6 J9 0]) b):AA A P N8 #[Ar q.d,J6 J9 (n:Int),J4 s.p s.len s.cap] h R:=by
 refine AFT ?_;unfold Zb;refine AQT T aa w λav F=>⟨_,_,rfl,ae.no rfl ?_⟩
 have o:=E.on F;refine aA (AY.mk (AO o.cell rfl) ?_);refine Yt (o.ij v) (by omega) λah z=>⟨_,rfl,⟨AO (o.on z).cell rfl,?_⟩⟩
 have G:=o.on z;have H:=F.trans z;have aw:=H.size;refine tq G.box (by rw[AP];exact af) λai f aj B I=>⟨_,rfl,?_⟩
 have J:=ry E.box.aL (cz n) (Ad (YS l));rw[AP] at J;have ak:Mod q.Sb h ai:=(Ext.mod H).trans B;have al: ∀c,f c->q.Sb c\/h.size<=c:=λc a=>(I c a).imp id λh=>by omega
 obtain⟨am,C⟩:=rk c.goes (d:=Ad (YS l)) (ATX ab);have K:=Uw c (cz n) (Ad (YS l));rw[am];refine ae.no rfl ?_;have i:=G.boxed (j:=2) (bF:=st) aj (B.ak λc _ a=> .inl a) I rfl rfl rfl rfl (.inl ⟨by decide,rfl,rfl⟩) (.inl ⟨by decide,rfl⟩);generalize (FI m (cz n) (Ad (YS l))).2=L at*
 refine aA (AY.mk (AO i.cell rfl) ?_);refine Yt (i.ij v) (by omega) λan p=>⟨_,rfl,⟨AO (i.on p).cell rfl,?_⟩⟩
 have M:=i.on p;rw[ac] at C;have ao:ff L (cz n)=some (cN,cN++Ad (YS l)):=by rw[C,if_pos rfl];rfl
 refine tt M.box λax N D=>⟨_,rfl,?_⟩
 have ap:=nU i.box.aL (cz n);obtain⟨aq,O⟩:=nP K.goes ao;have Q:=WM K (cz n);rw[aq];refine ae.no rfl ?_;have r:=M.boxed (j:=2) (bF:=st) N (D.ak λc _ a=> .inl a) (λc a=> .inl a) rfl rfl rfl rfl (.inl ⟨by decide,rfl,rfl⟩) (.inl ⟨by decide,rfl⟩);generalize (Kh L (cz n)).2=S at*
 refine aA (AY.mk (AO r.cell rfl) ?_);refine Yt (r.ij v) (by omega) λU u=>⟨_,rfl,⟨AO (r.on u).cell rfl,?_⟩⟩
 have V:=r.on u;refine AQd V.box ⟨_,_,rfl,?_⟩;have W:ff S (cz n)=some (Ad (YS l),cN):=by rw[O,if_pos rfl,yn,yn]
 rw[ASp Q.1,W];dsimp only;rw[ATE];refine ae.no rfl ?_;refine ARB T.eW λX t Y ar=>⟨_,_,rfl,?_⟩
 have ay:=p.size;have az:=B.size;have aC:=D.size;have aD:=u.size;have au: ∀c,U.size<=c->NJ (NJ k ah.size f 2) an.size f 2 c=0:=λc a=>by
  have: ¬f c:=λw=>by have:=N.lt w;omega
  exact WR (by omega) this
 refine ag X f _ S t U.size X.size (V.on Y) Q (λx Z=>by rw[O,if_neg Z,C,if_neg Z]) (by rw[W];simp) (AK ap J) ar (by omega) (A0 _) (λc a=>au c a) ?_ ?_
 ·exact((ak.then ((Ext.mod p).trans D |>.ak λc _ a=>al c a)).trans (Ext.mod u)).trans (Ext.mod Y)
 ·exact λc a=>by
   rw[Ha (by omega),Ha (by omega)]
end
section
variable {A : ao} {g h : aa} {q : Hp} {k : Nat -> Nat} {st : Db} {m : Bx} {R : A30}
theorem bM.fK(a:bM g h q k st m)(e:bL g){d:aa}(x:Mod (λc=>q.Sb c\/c=q.lg\/c=q.nt) h d):bL d:=
 e.ext (a.rest (C:=λc=>c=2\/c=3\/c=4) (x.ak λc _ b=>by
  rcases b with b|rfl|rfl
  ·exact .inl (a.kb c b)
  ·exact .inr (.inl a.kl)
  ·exact .inr (.inr a.kn)) (by decide)).ext
theorem AMu(f:bL g)(b:bM g h q k st m)(c:Calm m)(o:st.next<=99999999)(I:st.bV<=99999999)(J:st.ts.length<=60000)(K: ∀p∈st.ts,p.1<=99999999)(ay:st.aX+2<=99999999)(az:bH m.files+1000000<=8000000000000)
  (X: ∀i S' L s,bM g i {q with Sb:=S'} L {st with aX:=st.aX+1} s->Calm s->(∀ l,(∀ t,l≠br nn t)->ff s l=ff m l)->bH s.files<=bH m.files+700000->Mod (λc=>q.Sb c\/c=q.nt) h i->Grow k L h.size->R (J6 J9 0) i):AA A P Jz #[Ar q.d] h R:=by
 have Y:=ART (x:=⟨st.next,st.bV,st.ts.map (·.1)⟩) o I (by simpa using J) λt o=>by
  obtain⟨p,Z,rfl⟩:=List.mem_map.1 o;exact K p Z
 rw[show({next:=st.next,bV:=st.bV,names:=st.ts.map (·.1)}:Nt).names.length=st.ts.length from AF _] at Y;refine AEL ?_;unfold XO;refine aA (AY.mk (AB b.cell rfl) ?_);refine ASw b o I J K λaC u=>⟨_,rfl,⟨AB (b.on u).cell rfl,?_⟩⟩
 generalize lX ⟨st.next,st.bV,st.ts.map (·.1)⟩=e at*
 have n:=b.on u;have aD:=u.size;have aa:(Ad e).size=e.length:=AP _;refine AEl (n.ij f) n.gO n.box n.ta (λi x=>n.fK f (x.ak λc _ a=> .inl a)) (by decide) (by omega) (by rw[aa];omega) (by omega) λz B C v ab M=>⟨_,rfl,?_⟩
 rw[show bl (Ad e)=e from FO _] at C v ⊢;have ac:=ry b.box.aL (br nn st.aX) (Ad (IZ e));have aE:=(Ki (r:=e) (by omega)).2;rw[AP] at ac;have D:Mod (λc=>q.Sb c\/c=q.nt) h z:=(Ext.mod u).trans ab;have w: ∀c,B c->q.Sb c\/h.size<=c:=λc a=>(M c a).imp id λh=>by omega
 obtain⟨af,N⟩:=rk c.goes (k:=br nn st.aX) (d:=Ad (IZ e)) (AMU (by decide) (by omega));have O:=Uw c (br nn st.aX) (Ad (IZ e));rw[af] at v ⊢;refine ae.no rfl ?_;rw[decide_eq_true rfl,JT] at v;generalize (FI m (br nn st.aX) (Ad (IZ e))).2=Q at*
 have E: ¬B q.nt:=λa=>by
  rcases M _ a with h|h
  ·exact b.ta h
  ·exact h.2 rfl
 have ag:z[q.d]? =some (J2 (eQ q st false) KF (0,0)):=D.ag b.cell (by rintro(h|h);exact b.tc h;exact b.dn h);refine aA (AY.mk (AB ag rfl) ?_);have S:=N (br nn st.aX);rw[if_pos rfl] at S;have ah:bL z:=b.fK f (D.ak λc _ a=>a.imp id .inr);obtain⟨ai,aj⟩:=nP O.goes S;have ak:=WM O (br nn st.aX);refine ADh ah v C E (by decide) (by omega) (λal=>absurd ai al) λaF F G T am=>⟨_,_,rfl,?_⟩
 have G:Dl F q.b B (Kh Q (br nn st.aX)).2:=G;have aG:=nU C.aL (br nn st.aX);generalize (Kh Q (br nn st.aX)).2=aH at*
 refine ae.no rfl ?_;have y:Mod (λc=>q.Sb c\/c=q.nt) h F:=D.then (am.ak λc _ a=>by
  rcases a with a|rfl
  ·exact(w c a).imp .inl id
  ·exact .inl (.inr rfl))
 have an:F[q.d]? =some (J2 (eQ q st false) KF (0,0)):=y.ag b.cell (by rintro(h|h);exact b.tc h;exact b.dn h);refine aA (AY.mk (AB an rfl) ?_);have ao:J8 J9 (((st.aX:Nat):Int)-(1:Int))=(st.aX:Int)-1:=wrap_i64 (by omega) (by omega);rw[ao];refine AJ8 (b.fK f (y.ak λc _ a=>a.imp id .inr)) (λi x=>b.fK f ((y.then (x.ak λc _ a=>(w c a).imp .inl id)).ak λc _ a=>a.imp id .inr)) T G ak E (by decide) (by omega) (λh=>absurd h (by omega)) λ_ U ap aq ar au V av aI aJ aw=>⟨_,rfl,?_⟩
 have W:Mod (λc=>q.Sb c\/c=q.nt) h U:=y.then (V.ak λc _ a=>(w c a).imp .inl id);have ax:=b.boxed (j:=4) (bF:= {st with aX:=st.aX+1}) ar (W.ak λc _ a=>a.imp id λh=> .inr ⟨rfl,h⟩) (λc a=>w c (av c a)) rfl rfl rfl rfl (.inl ⟨by decide,rfl,rfl⟩) (.inr (T.mod V E));refine X U ap _ aq ax au (λl H=>?_) (by omega) W AKL;rw[aw l λt _ _ _=>H t,aj,if_neg (H _),N,if_neg (H _)]
end
end Go.Lf.G
namespace Go.Lf.G.M
open Go Go.Lf Go.Lf.G
theorem AL5 {N:ao}{n:aa}{b:Nat}{T:Q7}{fr:Nat×Nat}{s:Sl}{l:List Pr}(f:n[b]? =some (J2 #[J4 s.p s.len s.cap] T fr))(v:View Be n s l)(ag:l.length<=1099511627776):
  EO N P (.func (.func DL) #[] #[J5 (some ⟨b,0,none⟩)]) (λc=>c<n.size/\(c=b\/s.ag=some c)) n l:=by
 refine⟨λc o=>o.1,_,_,rfl,λO=>by kernel_rfl,λe E O Q h ah hd hB R S=>?_⟩;rw[qD];refine IY ?_;unfold Eg;have F:=Aj f;have U: ∀d,Mod h e d->d[b]? =some (J2 #[J4 s.p s.len s.cap] T fr):=λd m=>by
  have w:=E b ⟨F,.inl rfl⟩;exact m.ag (w.trans f) (hd b ⟨F,.inl rfl⟩)
 have V: ∀i x,l[i]? =some x-> ∃a,s.p=some a/\ ∀d,Mod h e d->Cells d (a.add (i*3)) (Be.enc x):=λi x hi=>by
  obtain⟨a,q,o⟩:=v.cells i x hi;refine⟨a,q,λd m W u r=>?_⟩;have G:=o W u r;have H:=ZH G;rw[aQ,aQ] at H;have I:a.block<n.size/\(a.block=b\/s.ag=some a.block):=⟨H,.inr (by simp[Sl.ag,q])⟩;have w:=E _ I;refine m.af ((RP ?_).trans G) ?_
  ·rw[aQ,aQ];exact w
  ·rw[aQ,aQ];exact hd _ I
 refine AV.mk (AO (U e Mod.refl) rfl) ?_;refine Loop.rule (λm x d=> ∃(i:Nat) (k:Nat->Prop),x=((i:Int),())/\m=l.length-i/\i<=l.length/\Mod h e d/\(∀ b,k b->h b\/e.size<=b)/\Q i true k d) ?_ ⟨0,h,rfl,rfl,by omega,Mod.refl,λb f=> .inl f,S⟩;rintro K m _ d ⟨i,k,rfl,rfl,hi,t,y,r⟩ X;refine ae.intro (λj=>?_) (λj=>?_)
 ·have p:i<l.length:=by simp[v.len] at j;omega
  obtain⟨a,q,o⟩:=V i _ (A2 p);have z:=o d t;refine aS.mk q (by rw[v.len];exact p) ?_;refine AL.mk (z.pair.1) (AL.mk z.pair.2.1 (Aa.mk z.pair.2.2 ?_));refine aj.pair λai Y ak A B al=>?_
  refine AL.mk (AO A rfl) (AL.mk (AB A rfl) (Aa.mk (AB A rfl) ?_));have Z:=hB.aW _ _ _ _ _ r (B.ak (S':=λb=>¬k b/\e.size<=b) λ_ _ e=>e.elim);refine Er.mono (R i _ k Y (A2 p) Z) ?_;rintro _ ab ⟨g,C,rfl,ac,af,J⟩;have L: ∀b,C b->h b\/e.size<=b:=λb f=>(ac b f).elim (y b) λam=> .inr (by have:=t.size;have:=B.size;omega)
  have M:Mod h e ab:=(t.trans B.mod).then (af.ak λb _ f=>(y b f));refine⟨g,rfl,?_⟩;refine ae.intro (λj=>?_) (λj=>?_)
  ·refine⟨rfl,i+1,g,C,M,L,J,λD=>?_,by omega⟩;subst D;cases j
  ·have D:g=true:=by simpa using j
   subst D;exact X _ _ _ (by omega) ⟨i+1,C,by rw[Ab (by omega)],rfl,by omega,M,L,J⟩
 ·have p:i=l.length:=by simp[v.len] at j;omega
  exact⟨rfl,i,true,k,t,y,r,λ_=>p,by omega⟩
theorem tf {d:ao}{a:aa}{s:Sl}{l:List Pr}{e:A30}(v:View Be a s l)(g:l.length<=1099511627776)
  (h: ∀fv b,EO d P fv (λc=>c<b.size/\(c=a.size\/s.ag=some c)) b l->Ext a b->b.size=a.size+1->e fv b):AA d P Cj #[J4 s.p s.len s.cap] a e:=by
 refine I6 ?_;unfold Et;refine aj.mk λi _ j f k=>?_
 exact h _ i (AL5 j (v.ext f) g) f k
theorem p6 {aq:ao}{t:aa}{fv:J0}{S:Nat->Prop}{l:List Pr}{e:A31}{n:Int}{ar:A30}(A:(fv= .nilFunc/\l= [])\/EO aq P fv S t l)(bh:l.length<=1099511627776)
  (V: ∀G o,Own Be AU o G (QY e n l)->(∀ c,G.ag=some c->t.size<=c)->Ext t o->ar (J4 G.p G.len G.cap) o):AA aq P Li #[fv,J7 e,J6 J9 n] t ar:=by
 refine AFl ?_;unfold Zd;refine aj.mk λau _ aX aY aZ=>aj.mk λq _ a0 av bi=>aj.mk λd _ a1 W bj=>?_
 have X:Ext t d:=(aY.trans av).trans W;have a2:d[t.size]? =some (J2 #[J7 e] A9 (0,0)):=W.ag (av.ag aX (by simp)) (by simp);have aw:d[au.size]? =some (J2 #[J6 J9 n] BL (0,0)):=W.ag a0 (by simp);refine ah.mk λK ax=>?_
 have ay:QY e n l= []->K (true,()) d:=λf=>ax _ _ (ae.yes rfl (V ⟨none,0,0⟩ d (f▸Own.nil) (λc j=>by simp[Sl.ag] at j) X))
 rcases A with⟨rfl,rfl⟩|A
 ·exact⟨trivial,ae.yes rfl (ay (by simp[QY]))⟩
 refine⟨A.one.2.1,ae.no A.one.2.2 ?_⟩;refine AC.mk (AO aw rfl) ?_;cases O:decide (n<=0)
 ·refine ax _ _ (ae.no rfl ?_);have O:0<n:=by simpa using O
  have az: ∀o:aa,Mod (λc=>c=q.size) d o->Ext t o:=λo m=>X.then (m.ak λc _ j=> .inr (by omega))
  have bk:=(Xs (l:=l) (Ru e)).length_le;refine YO A (λb a=>X.get b (A.1 b a) (by simp))
   (λi c Y r=>r[t.size]? =some (J2 #[J7 e] A9 (0,0))/\r[au.size]? =some (J2 #[J6 J9 n] BL (0,0))/\ ∃(s:Sl) (u:List Pr),r[q.size]? =some (J2 #[J4 s.p s.len s.cap] AR (0,0))/\Own Be AU r s u/\(∀ b,Y b↔(b=q.size\/s.ag=some b))/\(∀ b,s.ag=some b->b<r.size/\q.size<b)/\match c with
    |none=>u=l.take i/\i<=(l.takeWhile (Ru e)).length/\(i:Int)<n
    |some aA=>aA=some 0/\u=QY e n l)
   (λb=>b=q.size) (λb a f=>by have:=A.1 b a;omega) ?_ ?_ ?_ ?_ ?_ ?_
  ·rintro i c Y r ⟨_,_,s,u,q,v,h,k,_⟩ b a;rcases(h b).1 a with rfl|d
   ·exact Aj q
   ·exact(k b d).1
  ·rintro i c Y r o ⟨H,I,s,u,w,v,h,k,a3⟩ m;refine⟨m.ag H (λt=>by omega),m.ag I (λt=>by omega),s,u,m.ag w (λZ=>Z.1 ((h _).2 (.inl rfl))),v.mod m (λc j Z=>Z.1 ((h _).2 (.inr j))),h,λb a=>⟨?_,(k b a).2⟩,a3⟩;have:=m.size;have:=(k b a).1;omega
  ·exact⟨a2,aw,⟨none,0,0⟩,[],a1,Own.nil,λb=>by simp[Sl.ag],λb a=>by simp[Sl.ag] at a,by simp,by omega,by simpa using O⟩
  ·rintro i x ac r rec bm bn hi ⟨H,I,s,u,w,v,h,k,rfl,Q,a4⟩ aC aZ a5 a6 a7 aD;have bo:=(List.getElem?_eq_some_iff.1 hi).1;have aE:=Vm (p:=Ru e) (l:=l) Q;refine aj.pair λbp aF bq a8 C br=>?_
   refine⟨rec,C.ag a5 (by simp),a6,?_⟩;generalize aH:aF.setIfInBounds (d.size+1) (.loop {rec with state:= .busy})=D;have B:Mod (λb=>b=d.size+1) aF D:=aH▸Mod.setObj rfl;have aI:D[d.size+1]? =some (.loop {rec with state:= .busy}):=by rw[<- aH];exact Ce (by omega)
   have R:=B.ag a8 (by omega);have T:=B.ag (C.ag H (by simp)) (by omega);have aJ:=B.ag (C.ag I (by simp)) (by omega);have aK:Mod (λb=>b=d.size+1) r D:=(Ext.mod C).trans B;have af:=B.ag (C.ag w (by simp)) (by omega);have bs:=Aj w;have aL:=(v.ext C).mod B (λc j f=>aC ((h _).2 (.inr (f▸j))));have bt:=B.size;have aM:(l.take i).length=i:=by simp;omega
   refine ah.mk λag aN=>?_
   have a9:Ru e x=false->ag (true,()) D:=λJ=>aN _ _ (ae.yes rfl (aD _ _ (by
    refine⟨ac,λb a=> .inl a,aK.ak λb _ a=> .inr a,aI,T,aJ,s,l.take i,af,aL,h,λb a=>⟨?_,(k b a).2⟩,rfl,?_⟩
    ·have:=(k b a).1;omega
    ·have:=aE.2.1 _ hi J;have H:(l.takeWhile (Ru e)).take i=l.takeWhile (Ru e):=As (by omega);have I:(l.takeWhile (Ru e)).take n.toNat=l.takeWhile (Ru e):=As (by omega);unfold QY;rw[I,<-nA Q,H])))
   have aO:Ru e x=true->ag (false,()) D:=λJ=>aN _ _ (ae.no rfl (by
    have bu:=aE.1 _ hi J;refine AV.mk (AO af rfl) (AL.mk (AO R rfl) (AL.mk (AB R rfl) (Aa.mk (AB R rfl) ?_)));refine aj.aU (E:=Be) (x:=x) rfl IR aL (by rw[aM];omega) (by rw[aM];simp[maxLen];omega) λy ba aP F ai _=>?_
    have bb:s.ag≠some q.size:=λf=>by have:=k _ f;omega
    refine ab.mk (F.ag af bb) (by simp) λak bc L bv=>?_
    have bw:=F.size;have al:ak[q.size]? =some (J2 #[J4 y.p y.len y.cap] AR (0,0)):=by simpa using bc
    have U:=aP.mod L (λc j f=>by
     rcases ai c j with d|d
     ·have:=k _ d;omega
     ·omega)
    have aQ:=L.ag (F.ag T (λf=>by have:=k _ f;omega)) (by omega);have am:=L.ag (F.ag aJ (λf=>by have:=k _ f;omega)) (by omega);have bd:l.take i++ [x]=l.take (i+1):=by rw[AE,hi];rfl
    rw[bd] at U;have aR: ∀b,(b=q.size\/y.ag=some b)->ac b\/r.size<=b:=by
     rintro b (rfl|a)
     ·exact .inl ((h _).2 (.inl rfl))
     ·rcases ai b a with d|d
      ·exact .inl ((h _).2 (.inr d))
      ·exact .inr (by omega)
    have aS:Mod (λb=>ac b\/b=d.size+1) r ak:=
     ((aK.ak λb _ a=> .inr a).trans (F.ak λb _ a=> .inl ((h _).2 (.inr a)))).trans (L.ak λb _ a=> .inl ((h _).2 (.inl a)))
    have aT:=L.ag (F.ag aI (λf=>aC ((h _).2 (.inr f)))) (by omega);have aU: ∀b,y.ag=some b->b<ak.size/\q.size<b:=by
     intro b a;have bx:b<ba.size:=by
      rcases aP.row with⟨rfl,_⟩|⟨g,bz,J,be,_⟩
      ·simp[Sl.ag] at a
      ·simp[Sl.ag,J] at a;subst a;exact Aj be
     refine⟨by omega,?_⟩;rcases ai b a with d|d
     ·exact(k _ d).2
     ·omega
    refine AV.mk (AO al rfl) (AC.mk (AO am rfl) ?_);have aV:y.len=i+1:=by rw[U.len];simp;omega
    refine ae.intro (λz=>aD _ _ ?_) (λz=>a7 _ ?_)
    ·refine⟨_,aR,aS,aT,aQ,am,y,_,al,U,λ_=>CA,aU,rfl,?_⟩;have z:((i+1:Nat):Int)=n:=by rw[aV] at z;simpa using z
     unfold QY;rw[<- z,An,nA (by omega)]
    ·refine⟨_,aR,aS,aT,aQ,am,y,_,al,U,λ_=>CA,aU,rfl,by omega,?_⟩;have z:((i+1:Nat):Int)≠n:=by rw[aV] at z;simpa using z
     omega))
   refine AL.mk (AO T rfl) ?_;rw[Bj];refine ae.intro (λM=>?_) (λM=>?_)
   ·refine AL.mk (AO R rfl) (AL.mk (AO T rfl) ?_);show ag (!aG x.key e,()) D;cases aW:aG x.key e
    ·exact a9 (by simp at M;simp[Ru,M,aW])
    ·exact aO (by simp[Ru,aW])
   ·exact aO (by simp at M;simp[Ru,M])
  ·rintro O' o ⟨_,_,s,u,w,v,h,k,rfl,Q,a4⟩ N an bf ap;have bg:=N.size;refine AV.mk (AO w rfl) ⟨ap,?_⟩;have:QY e n l=l.take l.length:=by unfold QY;rw[As (by omega),<-nA Q,As (by omega)]
   rw[<- this] at v;refine V s _ (v.mod (Mod.setObj (S:=λc=>c=d.size) rfl) λc j f=>an ((h _).2 (.inr (f▸j)))) (λc j=>by have:=k _ j;omega) ?_;exact(az o N).then (Mod.setObj (.inr (by omega)))
  ·rintro i aA O' o ⟨_,_,s,u,w,v,h,k,rfl,rfl⟩ hi N an bf ap;have bg:=N.size;refine AV.mk (AO w rfl) ⟨ap,?_⟩;refine V s _ (v.mod (Mod.setObj (S:=λc=>c=d.size) rfl) λc j f=>an ((h _).2 (.inr (f▸j)))) (λc j=>by have:=k _ j;omega) ?_;exact(az o N).then (Mod.setObj (.inr (by omega)))
 ·refine ay ?_;have:n.toNat=0:=by simp at O;omega
  simp[QY,this]
end Go.Lf.G.M
namespace Go.Lf.G
open Go
open M (Sorted Ac Bt BF Ae Ak BH Ah aY A7 aF QY Ru)
def jS(f t k:A31):Bool:= !aG k f&&(decide (t=⟨#[]⟩)||aG k t)
def Rl(f t:A31)(l:List Pr):List Pr:=l.filter λx=>jS f t x.key
def mg(m:List Pr)(f t:A31)(a:Int):List Pr:=(Rl f t m).take a.toNat
theorem ABN {p:Pr->Bool}{a:A31->Bool}(b: ∀x,p x=a x.key)(k:A31): ∀l:List Pr,Ac k (l.filter p)=if a k then Ac k l else none
 | []=>by split<;>rfl
 |x::l=>by
  have c:=ABN b k l;rw[AT,M.BB];by_cases h:x.key=k
  ·rw[if_pos h];cases d:a k with
   |true=>rw[if_pos (by rw[b,h];exact d),M.BB,if_pos h];rfl
   |false=>
    rw[if_neg (by rw[b,h,d];decide),c,d];rfl
  ·rw[if_neg h];split
   ·rw[M.BB,if_neg h];exact c
   ·exact c
theorem fE(k:A31): ∀ {l:List Pr},Sorted l->l.drop (aF k l)=l.filter λx=> !aG x.key k
 | [],_=>by simp
 |x::l,s=>by
  have b:=List.pairwise_cons.1 s;rw[VI,AT];by_cases h:aG x.key k=true
  ·rw[if_pos h,if_neg (by simp[h]),KK];exact fE k b.2
  ·have c: ∀a∈l,(!aG a.key k)=true:=λa d=>by
    grind [aG,absurd,M.DK]
   rw[if_neg h,if_pos (by simp[h]),HU,List.filter_eq_self.2 c]
theorem sC(t:A31): ∀ {l:List Pr},Sorted l->l.takeWhile (Ru t)=l.filter (Ru t)
 | [],_=>rfl
 |x::l,s=>by
  have a:=List.pairwise_cons.1 s;rw[MT,AT];by_cases h:Ru t x=true
  ·rw[if_pos h,if_pos h,sC t a.2]
  ·rw[if_neg h,if_neg h];refine(List.filter_eq_nil_iff.2 λc d b=>h ?_).symm;have e:=a.1 c d;unfold M.Ru at b ⊢;rw[CH] at b ⊢
   grind [M.DK]
theorem AJ4 {f t:A31}{l:List Pr}(s:Sorted l)(b:l.length<=1099511627776):QY t 1099511627776 (l.drop (aF f l))=Rl f t l:=by
 unfold M.QY;have a:Sorted (l.drop (aF f l)):=s.sublist (List.drop_sublist _ _);rw[sC t a,fE f s,List.filter_filter,As]
 ·unfold Rl;exact HL λx _=>by unfold jS M.Ru;rw[Bool.and_comm]
 grind
theorem Xw {f t:A31}{l:List Pr}(s:Sorted l):Sorted (Rl f t l):=s.sublist Hh
theorem AJ0(k f t:A31)(l:List Pr):Ac k (Rl f t l)=if jS f t k then Ac k l else none:=ABN (λ_=>rfl) k l
theorem AGL(k f t:A31): ∀a:List (List Pr),Ak k (a.map (Rl f t))=if jS f t k then Ak k a else none
 | []=>by split<;>rfl
 |l::a=>by
  rw[BY,M.EJ,M.EJ,AGL k f t a,AJ0];split<;>rfl
theorem ASA {f t:A31}{c:List (List Pr)}(d:aY c):aY (c.map (Rl f t)):=⟨λl a=>by
  obtain⟨x,b,rfl⟩:=List.mem_map.1 a;exact Xw (d.sorted x b),λl a=>by
  obtain⟨x,b,rfl⟩:=List.mem_map.1 a;exact λe i=>d.aL x b e (List.mem_filter.1 i).1⟩
theorem AMn {f t:A31}{a:List (List Pr)}(b:aY a):Ae (a.map (Rl f t))=Rl f t (Ae a):=
 (M.Dz _).ext (Xw (M.Dz _)) λk=>by simp_all [M.LK,ASA,AGL,AJ0]
theorem ASf {f t:A31}{a:List (List Pr)}(c:aY a)(b:Int):QY t b (A7 (Ae (a.map (Rl f t))))=mg (A7 (Ae a)) f t b:=by
 rw[AMn c];have d:A7 (Rl f t (Ae a))=Rl f t (A7 (Ae a)):=by simp_all [M.A7,Rl,List.filter_filter,HL,Bool.and_comm]
 rw[d];unfold M.QY mg;have h: ∀x∈Rl f t (A7 (Ae a)),Ru t x=true:=λx e=>by
  have:=(List.mem_filter.1 e).2;unfold jS at this;rw[A3] at this;exact this.2
 rw[sC t (Xw (Vj (M.Dz _))),List.filter_eq_self.2 h]
def Tv(A:ao)(h:aa)(s:Sl)(b:List (List Pr)):Prop:=
 ∃a,Own jE Bn h s a/\a.length=b.length/\ ∀(i:Nat) (v:gS) (l:List Pr),a[i]? =some v->b[i]? =some l->(∃ d,EO A P v.v d h l/\ ∀c,d c->s.ag≠some c)/\l.length<=1099511627776
theorem EO.at {A:ao}{fv:J0}{b T:Nat->Prop}{h e:aa}{l:List Pr}(d:EO A P fv b h l)(x:Mod T h e)(f: ∀c,b c-> ¬T c):EO A P fv b e l:=
 EO.ak d (λ_ h=>h) (λc a=>by have:=d.1 c a;have:=x.size;omega) λc a=>x.get c (d.1 c a) (f c a)
theorem Tv.ext {A:ao}{h a:aa}{s:Sl}{b:List (List Pr)}(q:Tv A h s b)(x:Ext h a):Tv A a s b:=by obtain⟨c,d,e,hi⟩:=q;refine⟨c,d.ext x,e,λi v l f j=>?_⟩;obtain⟨⟨n,o,p⟩,r⟩:=hi i v l f j;exact⟨⟨n,EO.at o x (λ_ _ h=>h),p⟩,r⟩
theorem Tv.nil {A:ao}{h:aa}:Tv A h ⟨none,0,0⟩ []:=⟨[],Own.nil,rfl,λi v l h=>by simp at h⟩
theorem Tv.kN {A:ao}{h:aa}{s:Sl}{b:List (List Pr)}(q:Tv A h s b):M.td A (λ_=>False) h s b:=by obtain⟨f,d,j,hi⟩:=q;refine⟨f,d.view,λc a=>⟨d.lt a,λh=>h⟩,j,λi v l n o=> .inr ?_⟩;obtain⟨⟨r,e,t⟩,p⟩:=hi i v l n o;exact⟨e.ak (λc a=>⟨e.1 c a,λh=>h⟩) (λc a=>a.1) (λ_ _=>rfl),p⟩
theorem Tv.one {A:ao}{h a:aa}{fv:J0}{l:List Pr}{e:Nat->Prop}{b:Nat}(d:EO A P fv e h l)(j:l.length<=1099511627776)(n:a[b]? =some (J2 #[fv] Bn (0,0)))(x:Ext h a)(r:h.size<=b):Tv A a ⟨some ⟨b,0,none⟩,1,1⟩ [l]:=by
 refine⟨[⟨fv,d.one.1⟩],Own.lit (l:= [(⟨fv,d.one.1⟩:gS)]) n rfl (by simp[maxLen]),rfl,λi v s a f=>?_⟩;have hi:i=0:=by grind
 subst hi;simp only[HE,Bk] at a f;subst a f;exact⟨⟨e,EO.at d x (λ_ _ h=>h),λc o p=>by have:=d.1 c o;simp[Sl.ag] at p;omega⟩,j⟩
theorem Tv.add {A:ao}{h:aa}{s:Sl}{p:List (List Pr)}{fv:J0}{l:List Pr}{e:Nat->Prop}{K:Sl->aa->Prop}{z:Q7}(q:Tv A h s p)(f:EO A P fv e h l)(H: ∀c,e c->s.ag≠some c)(I:l.length<=1099511627776)(J:p.length<=1000000)
  (B: ∀a d,Tv A d a (p++ [l])->Mod (λb=>s.ag=some b) h d->(∀ b,a.ag=some b->s.ag=some b\/h.size<=b)->K a d):
  aj h (J2 #[fv] Bn) λb j=>Af A P (Builtin.append_ #[BC,BC] z #[J4 s.p s.len s.cap,J4 (some ⟨b,0,none⟩) 1 1]) j λv d=> ∃a:Sl,v=J4 a.p a.len a.cap/\K a d:=by
 obtain⟨r,C,D,hi⟩:=q;refine aj.aU (E:=jE) (x:=⟨fv,f.one.1⟩) (s:=s) (l:=r) rfl M.ATR C (by omega) (by simp[maxLen];omega) λa d F u w _=>?_
 have L: ∀ {T:Nat->Prop} {t:J0} {n:List Pr},EO A P t T h n->(∀ c,T c->s.ag≠some c)-> ∃e,EO A P t e d n/\ ∀c,e c->a.ag≠some c:=λ{T} t n f y=>⟨T,EO.at f u (λc o=>y c o),λc o G=>by
  rcases w c G with j|j
  ·exact y c o j
  ·have:=f.1 c o;omega⟩
 refine B a d ⟨r++ [⟨fv,f.one.1⟩],F,by simp[D],λi v n j N=>?_⟩ u w;by_cases O:i<r.length
 ·grind
 grind
section
variable {A : ao} {g h : aa} {q : Hp} {k : Nat -> Nat} {st : Db} {m : Bx} {R : A30}
def Cn(st:Db):List (List Pr):=st.ts.map (·.2)
def Dm(st:Db):List Pr:=NS st.fr (Cn st)
theorem bM.iK(a:bM g h q k st m): ∀p∈st.ts,TR p.2:=λp b=>by
 obtain⟨i,hi,rfl⟩:=CI b;have c:i<q.ps.length:=by rw[a.dt];exact hi
 obtain⟨lo,d,_,_,_,t⟩:=a.dB i q.ps[i] st.ts[i] (A2 c) (A2 hi);exact t
theorem bM.gj(b:bM g h q k st m):aY (st.fr::Cn st):=by
 refine⟨λl a=>?_,λl a=>?_⟩<;>rcases List.mem_cons.1 a with rfl|a
 ·exact b.fresh.sorted
 ·obtain⟨p,c,rfl⟩:=List.mem_map.1 a;exact(b.iK p c).aL.1
 ·exact b.fresh.aL
 ·obtain⟨p,c,rfl⟩:=List.mem_map.1 a;exact(b.iK p c).aL.2
theorem sD(f t:A31)(l:List Pr):(Rl f t l).length<=l.length:=Iv ..
theorem AUJ {f t:A31}(d:bM g h q k st m)(ap:st.fr.length<=1000000)(aq:st.ts.length<=100000)
  (N: ∀fv e,EO A P fv (λc=>c<e.size) e (Ae ((st.fr::Cn st).map (Rl f t)))->Ext h e->R fv e):AA A P TE #[Ar q.d,J7 f,J7 t] h R:=by
 refine AF1 ?_;unfold Yo;refine aA (AY.mk (AB d.cell rfl) ?_);refine M.sW d.fresh λfv j O w ar=>⟨_,rfl,?_⟩
 refine M.p6 (.inr O) (by grind) λsl au y av z=>⟨_,rfl,?_⟩
 rw[AJ4 d.fresh.sorted (by omega)] at y;have aw:=sD f t st.fr;refine M.tf y.view (by omega) λax Q B C ay=>⟨_,rfl,YP.mk B.one.1 (aj.mk λaz _ S D aC=>?_)⟩
 have T:=Tv.one B (by omega) S D (A0 _);have E:=((w.trans z).trans C).trans D;have U:=d.on E;refine aA (AV.mk (s:=q.tp) (AB U.cell rfl) ?_);have aD:=d.dt;have aE:=d.cG.len;refine Loop.rule (λF x p=> ∃(i:Nat) (sl:Sl),x=(sl,(i:Int),())/\F=q.ps.length-i/\i<=q.ps.length/\Ext h p/\(∀ c,sl.ag=some c->h.size<=c)/\Tv A p sl ((st.fr::(Cn st).take i).map (Rl f t))) ?_ ⟨0,⟨some ⟨Q.size,0,none⟩,1,1⟩,rfl,rfl,by omega,E,λc b=>by
  simp[Sl.ag] at b;have:=((w.trans z).trans C).size;omega,by simpa using T⟩
 rintro K F _ p ⟨i,sl,rfl,rfl,hi,l,G,n⟩ V;dsimp only;refine ae.intro (λW=>?_) (λW=>?_)
 ·have o:i<q.ps.length:=by grind
  have X:i<st.ts.length:=by omega
  have g1:q.ps[i]? =some q.ps[i]:=A2 o;have Y:st.ts[i]? =some st.ts[i]:=A2 X;have Z:(Cn st)[i]? =some st.ts[i].2:=by unfold Cn;grind
  have H:=d.on l;refine H.cG.view.idx g1 λa _ c=>AY.mk (Cells.pt c) ?_
  obtain⟨lo,aF,aa,ab,aG,r⟩:=H.dB i _ _ g1 Y;refine AJf aa ab r.eW λaH aI ac u aJ=>⟨_,rfl,?_⟩
  have aK:=r.many;refine M.p6 (.inr ac) (by grind) λaL aM I af J=>⟨_,rfl,?_⟩
  rw[AJ4 r.aL.1 (by omega)] at I;have aN:=sD f t st.ts[i].2;refine M.tf I.view (by omega) λaO aP L ag aQ=>⟨_,rfl,YP.mk L.one.1 ?_⟩
  have v:=(u.trans J).trans ag;refine Tv.add (n.ext v) L (λc b ah=>?_) (by omega) (by simp[Cn];omega) λai e ak al am=>?_
  ·obtain⟨aR,an,_,_⟩:=n;have aS:=an.lt ah;rcases b.2 with j|j
   ·have:=(u.trans J).size;omega
   ·have:=af c j;have:=u.size;omega
  ·rw[Ab (by omega)];refine V (q.ps.length-(i+1)) _ _ (by omega) ⟨i+1,ai,rfl,rfl,o,?_,λc b=>?_,?_⟩
   ·exact(l.trans v).then (al.ak λc _ b=> .inr (G c b))
   ·rcases am c b with j|j
    ·exact G c j
    ·have:=l.size;have:=v.size;omega
   ·rw[AE,Z];simpa using ak
 ·have o:i=q.ps.length:=by grind
  subst o;rw[As (by simp[Cn];omega)] at n;refine M.sS n.kN (λc h=>h.elim) (by simp[Cn];omega) (ASA d.gj) λfv e ao x _=>⟨_,rfl,N fv e (ao.ak (λc b=>b.1) (λc b=>b) (λ_ _=>rfl)) (l.trans x)⟩
theorem mo(b:bM g h q k st m){K:Bool×Unit->aa->Prop}(c:K (false,()) h):ae ((some (⟨q.d,0,none⟩:Q6)).isNone) (K (true,()) h) (At (some (⟨q.d,0,none⟩:Q6)) λa=>Aa h (a.add 8) λt=>K (t,()) h):=
 ae.no rfl (aA (Aa.mk (AB b.cell rfl) c))
theorem ASo {f t:A31}{d:Int}(a:bM g h q k st m)(n:st.fr.length<=1000000)(o:st.ts.length<=100000)(C:(Ae (st.fr::Cn st)).length<=1099511627776)
  (p: ∀s b,Own Be AU b s (mg (Dm st) f t d)->(∀ c,s.ag=some c->h.size<=c)->Ext h b->R (J1 #[J4 s.p s.len s.cap,J6 J9 0]) b):AA A P Qc #[Ar q.d,J7 f,J7 t,J6 J9 d] h R:=by
 refine AD6 ?_;unfold XH;refine ah.mk λK r=>mo a (r _ _ (ae.no rfl ?_))
 refine AUJ a n o λfv D u e=>⟨_,rfl,?_⟩
 refine M.sT (.inr u) λE F v i G=>⟨_,rfl,?_⟩
 have w:(A7 (Ae ((st.fr::Cn st).map (Rl f t)))).length<=1099511627776:=by
  rw[AMn a.gj]
  grind [sx,Rl,Ae,Cn,sD]
 refine M.p6 (.inr v) w λj x l y z=>⟨j,rfl,?_⟩
 rw[ASf a.gj] at l;exact p j x l (λc B=>by have:=y c B;have:=(e.trans i).size;omega) ((e.trans i).trans z)
theorem AGF(key:A31): ∀ {l:List Pr},Sorted l->M.NW key l=Ws key l
 | [],_=>rfl
 |x::l,s=>by
  have c:=List.pairwise_cons.1 s;have a:=AGF key c.2;unfold M.NW Ws at a ⊢;rw[VI,M.BB];by_cases h:aG x.key key=true
  ·rw[if_pos h,if_neg (M.Lu h),Wk];exact a
  ·rw[if_neg h,HE];by_cases b:x.key=key
   ·simp[b]
   ·have d:Ac key l=none:=M.EE λe f i=>h (by
     grind)
    simp[b,d]
def I5(m:List Pr)(key:A31):A31×Bool:=match Ac key m with|some p=>(p.val,true)|none=>(⟨#[]⟩,false)
theorem AQX {key:A31}(d:bM g h q k st m)(am:st.ts.length<=100000)(H:key.size<=1099511627776)
  (v: ∀B,Ext h B->R (J1 #[J7 (I5 (Dm st) key).1,J3 (I5 (Dm st) key).2,J6 J9 0]) B):AA A P OZ #[Ar q.d,J7 key] h R:=by
 refine AFr ?_;unfold YU;refine ah.mk λK I=>mo d (I _ _ (ae.no rfl ?_))
 refine aA (AY.mk (AB d.cell rfl) ?_);have C: ∀p,(Ac key st.fr).or (Ak key (Cn st))=some p->I5 (Dm st) key=(p.val, !p.gone):=λp f=>by
  have e:Ac key (Dm st)=alive (some p):=by unfold Dm;rw[Gg key d.gj,f]
  unfold I5;rw[e,IG];cases J:p.gone with
  |false=>rfl
  |true=>
   have L:Ah p=0:=by
    cases j:Ac key st.fr with
    |some x=>
     rw[j] at f;simp only[Option.some_or,Bk] at f;subst f;exact d.fresh.aL x (M.MW j).2
    |none=>
     rw[j,Mb] at f;unfold M.Ak at f;obtain⟨l,N,O⟩:=A09 f;exact d.gj.aL l (AI _ N) p (M.MW O).2
   have Q:=(oH L).gone J;show((⟨#[]⟩:A31),false)=(p.val, !true);rw[sk Q];rfl
 have S:(Ac key st.fr).or (Ak key (Cn st))=none->I5 (Dm st) key=(⟨#[]⟩,false):=λf=>by
  have e:Ac key (Dm st)=alive none:=by unfold Dm;rw[Gg key d.gj,f]
  unfold I5;rw[e];rfl
 refine M.ASJ d.fresh λan T=>⟨_,_,_,_,rfl,?_⟩
 rw[AGF key d.fresh.sorted];refine aj.pair λb U _ n V ao=>?_
 have w:=T.trans V;cases j:Ac key st.fr with
 |some p=>
  have e:Ws key st.fr=(p,true):=by unfold Ws;rw[j]
  rw[e] at n ⊢;refine ae.yes rfl (AL.mk (AB n rfl) (Aa.mk (AB n rfl) ?_));have:=v U w;rw[C p (by rw[j];rfl)] at this;exact this
 |none=>
  have e:Ws key st.fr=(M.VS,false):=by unfold Ws;rw[j]
  rw[e] at n ⊢;refine ae.no rfl ?_;have W:=d.on w;refine aA (AV.mk (s:=q.tp) (AB W.cell rfl) ?_);have ap:=d.dt;have aq:=d.cG.len;refine Loop.rule (λD x y=> ∃i:Nat,x=((i:Int),())/\D=q.ps.length-i/\i<=q.ps.length/\Ext h y/\Ak key ((Cn st).take i)=none) ?_ ⟨0,rfl,rfl,by omega,w,rfl⟩;rintro ar D _ y ⟨i,rfl,rfl,hi,z,o⟩ X;dsimp only;refine ae.intro (λY=>?_) (λY=>?_)
  ·have r:i<q.ps.length:=by grind
   have Z:i<st.ts.length:=by omega
   have g1:q.ps[i]? =some q.ps[i]:=A2 r;have aa:st.ts[i]? =some st.ts[i]:=A2 Z;have ab:(Cn st)[i]? =some st.ts[i].2:=by unfold Cn;grind
   have E:=d.on z;refine E.cG.view.idx g1 λa _ c=>AY.mk (Cells.pt c) ?_
   obtain⟨lo,au,ac,av,aw,af⟩:=E.dB i _ _ g1 aa;refine ATB ac af.eW H λax ag=>⟨_,_,_,_,rfl,?_⟩
   refine aj.pair λay ai _ t ak az=>?_
   have F:=(z.trans ag).trans ak;have G:(Cn st).take (i+1)=(Cn st).take i++ [st.ts[i].2]:=by rw[AE,ab];rfl
   have al:Ak key (Cn st)=(Ac key st.ts[i].2).or (Ak key ((Cn st).drop (i+1))):=by
    conv=>lhs;rw[<- F1 (i+1) (Cn st),G]
    rw[M.Qq,M.Qq,o,M.EJ];have:Ak key ([]:List (List Pr))=none:=rfl;rw[this,Option.or_none,Mb]
   cases u:Ac key st.ts[i].2 with
   |some p=>
    have e:Ws key st.ts[i].2=(p,true):=by unfold Ws;rw[u]
    rw[e] at t ⊢;refine ae.yes rfl (AL.mk (AB t rfl) (Aa.mk (AB t rfl) ?_));have:=v ai F;rw[C p (by rw[j,al,u];rfl)] at this;exact this
   |none=>
    have e:Ws key st.ts[i].2=(M.VS,false):=by unfold Ws;rw[u]
    rw[e] at t ⊢;refine ae.no rfl ?_;rw[Ab (by omega)];refine X (q.ps.length-(i+1)) _ _ (by omega) ⟨i+1,rfl,rfl,r,F,?_⟩;rw[G,M.Qq,o,M.EJ,u];rfl
  ·have r:i=q.ps.length:=by grind
   subst r;rw[As (by simp[Cn];omega)] at o;have:=v y z;rw[S (by rw[j,o];rfl)] at this;exact this
end
open M (Sorted Ac Bt BF Ae Ak BH Ah aY A7)
def sE(a:Nat):Nat:=20000*a+10000000
structure cX where
 C:Nat
 W0:Nat
 A:Nat
 hC:C<=100000
 hA:A<=60000
 hW:W0+A*sE C<=8000000000000
def cX.K(a:cX):Nat:=sE a.C
theorem cX.wt(b:cX){a:Nat}(c:a<=b.A):b.W0+a*b.K<=8000000000000:=by
 have d:=b.hW;have f:a*b.K<=b.A*b.K:=Bm _ c;have e:b.A*sE b.C=b.A*b.K:=rfl;rw[e] at d;generalize a*b.K=x at*
 generalize b.A*b.K=g at*
 omega
theorem AGj: ∀a:List (List UInt8),(∀ r∈a,r.length<=1048576)->(aT a).length<=(a.map List.length).sum+a.length*14
 | [],_=>by simp
 |r::a,b=>by
  have d:=(Ki (b r B8)).2;have e:=AGj a λx c=>b x (AI _ c)
  rw[AEu];simp only[A1,BY,Lo,Ax];omega
theorem AGa: ∀a:List (List Pr),((a.map Bo).map List.length).sum=(Bo a.flatten).length
 | []=>rfl
 |b::a=>by
  simp only[BY,Lo,List.flatten_cons,AGa a];simp[Bo]
theorem APJ {a b s c f p:Nat}(d:b<=s+c*14)(e:s=p+f)(g:p<=a*8276)(h:f<=1048576)(i:c<=a+2):b<=8400*a+1100000:=by omega
theorem AM5 {l:List Pr}(t:TR l):(YS l).length<=8400*l.length+1100000:=by
 have c:=AGj (aO l (Qp l)) (SF t.eW);have d:((aO l (Qp l)).map List.length).sum=(Bo l).length+(XC l (Qp l)).length:=by have a:=AGa (Kw l);rw[AOa] at a;rw[<- a];simp only[aO,Bs,List.sum_append,BY,List.map_nil,Lo,List.sum_nil,CT]
 have b:(aO l (Qp l)).length<=l.length+2:=by
  have b:(aO l (Qp l)).length=Bv l+1:=by simp[aO,JD]
  have e:Bv l<=l.length+1:=by unfold Bv;omega
  omega
 exact APJ c d (Ot t.ok) (ZG t.eW) b
structure j5 (F:Fls) (st:Db):Prop where
 nd:(st.ts.map (·.1)).Nodup
 below: ∀p∈st.ts,p.1<st.next/\F (cz p.1)≠none
 free: ∀n,st.next<=n->F (cz n)=none
 kO:st.bI=true->F (br nl st.aJ)≠none
 bV:st.bV<=st.aJ
structure oM (st:Db) (bC c:Nat):Prop where
 aJ:st.aJ<=8*bC+4
 aX:st.aX<=8*bC+4
 next:st.next<=8*bC+4
 cA:st.ts.length<=3
 bX:st.fr.length+M.total (Cn st)<=c
theorem oM.mono {st:Db}{a b c d:Nat}(l:oM st a c)(e:a<=b)(f:c<=d):oM st b d:=
 ⟨by have:=l.aJ;omega,by have:=l.aX;omega,by have:=l.next;omega,l.cA,by have:=l.bX;omega⟩
theorem j5.gk {b:Fls}{st:Db}(c:j5 b st){a:Nat}(f:st.next<=a):a∉st.ts.map (·.1):=λd=>by
 obtain⟨p,e,g⟩:=List.mem_map.1 d;have:=(c.below p e).1;omega
theorem AJV {st:Db}:(Jh (Cn st)).length<=M.total (Cn st):=by have a:=M.UM (Cn st);have b:=sx (Ae (Cn st));unfold Jh;omega
structure DN (B:cX) (g h:aa) (q:Hp) (k:Nat->Nat) (st:Db) (m:Bx) (D:YM) (bC c:Nat):Prop where
 mem:bM g h q k st m
 calm:Calm m
 jo:j5 (ff m) st
 lim:oM st bC c
 wt:bH m.files<=B.W0+bC*B.K
 hc:c<=B.C
theorem DN.put {b:cX}{g e:aa}{q:Hp}{f:Nat->Nat}{st:Db}{m:Bx}{h:YM}{bC i c d:Nat}(a:DN b g e q f st m h bC c)(j:bC<=i)(k:c<=d)(l:d<=b.C):DN b g e q f st m h i d:=
 ⟨a.mem,a.calm,a.jo,a.lim.mono j k,AK a.wt (Nat.add_le_add_left (Bm _ j) _),l⟩
theorem cX.step(a:cX){c e b d:Nat}(g:c<=a.W0+b*a.K)(h:e<=c+d)(hd:d<=20000*a.C+10000000):e<=a.W0+(b+1)*a.K:=by
 have f:(b+1)*a.K=b*a.K+a.K:=Nat.succ_mul _ _;have i:a.K=20000*a.C+10000000:=rfl;rw[f];generalize b*a.K=x at*
 omega
theorem AJP(a:Nat):8400*a+1800001<=20000*a+10000000:=by omega
theorem AKq(a:Nat):600000<=20000*a+10000000:=by omega
theorem AUV {t b a c:Nat}(d:t<=8400*c+1100000)(e:b<=a)(f:a<=8000000000000)(g:c<=100000):b+t+1<=8796093022208:=by omega
theorem sF {a:A31}(c: ¬eo a)(b:Nat):a≠cz b:=λd=>c (d▸ .inr (.inr ⟨b,rfl⟩))
theorem ATs {a:A31}(c: ¬eo a)(b:Nat):a≠br nn b:=λd=>c (d▸ .inr (.inl ⟨b,rfl⟩))
theorem sG {a:A31}(c: ¬eo a)(b:Nat):a≠br nl b:=λd=>c (d▸ .inl ⟨b,rfl⟩)
section
variable {A : ao} {g h : aa} {q : Hp} {k : Nat -> Nat} {st : Db} {m : Bx} {c C : Nat} {R : A30}
theorem AQz(d:M.total (Cn st)<=c)(e:c<=C)(f:C<=100000)(a:Jh (Cn st)≠ []):TR (Jh (Cn st)):=by have i:=AJV (st:=st);exact⟨a,λx b=>oH (oI.2 x b),oI.1,by omega⟩
structure AUY (C:Nat) (st bF:Db) (m m':Bx) (c:Nat):Prop where
 calm:Calm m'
 jo:j5 (ff m') bF
 fr:bF.fr=st.fr
 map:Dm bF=Dm st
 cA:bF.ts.length<=1
 aJ:bF.aJ=st.aJ
 aX:bF.aX<=st.aX+1
 next:bF.next<=st.next+1
 bX:bF.fr.length+M.total (Cn bF)<=c
 wt:bH m'.files<=bH m.files+(8400*C+1800001)
 ey: ∀y,¬eo y->ff m' y=ff m y
theorem ALF(aE:bL g)(f:bM g h q k st m)(aF:Calm m)(v:j5 (ff m) st)(c5:st.ts.length<=1000)(bI:st.fr.length+M.total (Cn st)<=c)(b:c<=C)(bJ:C<=100000)(c6:st.next<=90000000)(c7:st.aX<=90000000)(c8:st.aJ<=90000000)(c9:bH m.files+(8400*C+1100001)+1000000<=8000000000000)
  (a7: ∀h' X a8 bF aq,X.d=q.d->X.b=q.b->bM g h' X a8 bF aq->AUY C st bF m aq c->Mod (λc=>k c≠0) h h'->(∀ c,a8 c≠0->k c≠0\/h.size<=c)->R (J6 J9 0) h'):
  AA A P Je #[Ar q.d] h R:=by
 refine AAK ?_;unfold RV;refine ah.mk λK bK=>mo f (bK _ _ (ae.no rfl ?_))
 refine aA (AV.mk (s:=q.tp) (AB f.cell rfl) ?_);have da:=f.dt;have bN:=f.cG.len;refine ae.intro (λo=>?_) (λo=>?_)
 ·have e:st.ts.length<=1:=by grind
  exact a7 h q k st m rfl rfl f ⟨aF,v,rfl,rfl,e,rfl,by omega,by omega,bI,by omega,λ_ _=>rfl⟩ Mod.refl (λc b=> .inl b)
 refine aA (AV.mk (s:=q.tp) (AB f.cell rfl) ?_);refine Loop.rule (λY x y=> ∃(i:Nat) (sl:Sl),x=(sl,(i:Int),())/\Y=q.ps.length-i/\i<=q.ps.length/\Ext h y/\(∀ c,sl.ag=some c->h.size<=c)/\Tv A y sl ((Cn st).take i)) ?_ ⟨0,⟨none,0,0⟩,rfl,rfl,by omega,Mod.refl,λc b=>by simp[Sl.ag] at b,Tv.nil⟩;rintro db Y _ y ⟨i,sl,rfl,rfl,hi,Z,aG,ar⟩ a9;dsimp only;refine ae.intro (λo=>?_) (λo=>?_)
 ·have B:i<q.ps.length:=by rw[<- bN];simpa using o
  have bO:i<st.ts.length:=by omega
  have g1:q.ps[i]? =some q.ps[i]:=A2 B;have ac:st.ts[i]? =some st.ts[i]:=A2 bO;have bP:(Cn st)[i]? =some st.ts[i].2:=by unfold Cn;rw[AN,ac];rfl
  have ba:=f.on Z;refine ba.cG.view.idx g1 λa _ c=>AY.mk (Cells.pt c) ?_
  obtain⟨lo,dc,bQ,bR,bS,bb⟩:=ba.dB i _ _ g1 ac;refine AJf bQ bR bb.eW λdd aH aI D de=>⟨_,rfl,YP.mk aI.one.1 ?_⟩
  rw[M.sR] at aI;have au:=bb.many;refine Tv.add (ar.ext D) aI (λc b d=>?_) (by omega) (by simp[Cn];omega) λbT h' X aq bU=>?_
  ·obtain⟨df,bW,_,_⟩:=ar;have L:=bW.lt d;have dg:=aG c d;rcases b with e|e|e
   ·have:=bS c e.1 e.2;have:=(f.own c (by rw[this];decide)).2;omega
   ·omega
   ·omega
  ·rw[Ab (by omega)];refine a9 (q.ps.length-(i+1)) _ _ (by omega) ⟨i+1,bT,rfl,rfl,B,?_,λc b=>?_,?_⟩
   ·exact(Z.trans D).then (aq.ak λc _ b=> .inr (aG c b))
   ·rcases bU c b with e|e
    ·exact aG c e
    ·have:=Z.size;have:=D.size;omega
   ·rw[AE,bP];exact X
 have B:i=q.ps.length:=by
  have: ¬i<q.tp.len:=by simpa using o
  omega
 subst B;rw[As (by simp[Cn];omega)] at ar;clear a9;have bX:=aY.tail f.gj;refine M.sS ar.kN (λc h=>h.elim) (by simp[Cn];omega) bX λdh bc bY bd _=>⟨_,rfl,?_⟩
 refine M.sT (.inr bY) λdi av bZ be _=>⟨_,rfl,?_⟩
 have dj:=AJV (st:=st);have b0:(A7 (Ae (Cn st))).length<=1099511627776:=by have:(A7 (Ae (Cn st))).length=(Jh (Cn st)).length:=rfl;omega
 refine M.Xj bZ (λ_ _=>rfl) b0 λaJ af N b1 b2=>⟨aJ,rfl,?_⟩
 have aK:Ext h af:=((Z.trans bd).trans be).trans b2;have N:Own Be AU af aJ (Jh (Cn st)):=N;have aw:=f.on aK;have dk:=aK.size;refine aA (AV.mk (s:=q.np) (AB aw.cell rfl) ?_);refine aA (ab.dx aw.cell (by simp) λdl b3 b4 dm=>?_);refine aA (ab.dx b3 (by simp) λE aL b5 dn=>?_);have aL:E[q.d]? =some (J2 (eQ {q with tp:=⟨none,0,0⟩,np:=⟨none,0,0⟩} {st with next:=st.next,bV:=st.bV} false) KF (0,0)):=by simpa using aL
 have ag:Mod (· =q.d) af E:=b4.trans b5;have O:=aw.fw (tp:=⟨none,0,0⟩) (np:=⟨none,0,0⟩) (ps:= []) (ts:= []) (next:=st.next) (bV:=st.bV) (S:=λ_=>False) aL (ag.ak λc _ b=> .inl b) Own.nil Own.nil rfl
  (λc b=>by simp[Sl.ag] at b) (λc b=>by simp[Sl.ag] at b) (λc h=>h.elim) (λi t p e=>by simp at e)
 have b6: ∀c,NQ k af.size ⟨none,0,0⟩ ⟨none,0,0⟩ (λ_=>False) c=k c:=λc=>by
  unfold NQ;split
  ·rfl
  ·rename_i e;simp[Sl.ag];omega
 have b7:NQ k af.size ⟨none,0,0⟩ ⟨none,0,0⟩ (λ_=>False)=k:=funext b6;rw[b7] at O;have ax:Mod (λc=>k c≠0) h E:=(Ext.mod aK).trans (ag.ak λc _ b=>by rw[b,f.kd];decide);have b8:=aw.names.view;have bf:View GI E q.np (eS st):=b8.mod ag λc b d=>by have:=f.kx c b;rw[d,f.kd] at this;cases this
 have dp:=v.gk (A0 _);refine ah.mk λb9 ca=>?_
 have fin: ∀(y:aa) (Q:Hp) (ay:Nat->Nat) (G:Bx) (r:Nat) (u:List (Nat×List Pr)),bM g y Q ay {st with ts:=u,next:=r} G->Q.d=q.d->Q.b=q.b->Calm G->
   (∀ x,x≠cz st.next->ff G x=ff m x)->((u= []/\r=st.next/\Jh (Cn st)= []/\ff G (cz st.next)=none)\/(u= [(st.next,Jh (Cn st))]/\r=st.next+1/\ff G (cz st.next)≠none))->
   bH G.files<=bH m.files+(8400*C+1100001)->Mod (λc=>k c≠0) h y->(∀ c,ay c≠0->k c≠0\/h.size<=c)->View GI y q.np (eS st)->(∀ c,q.np.ag=some c->ay c=7)->b9 () y:=by
  intro y Q ay G r u T bg cb cc ai ak dq bh aM cd av;refine ca _ _ ?_;rw[<- bg];have ce:r<=st.next+1/\u.length<=1/\ ∀p∈u,p.1=st.next/\r=st.next+1:=by
   rcases ak with⟨rfl,rfl,_⟩|⟨rfl,rfl,_⟩
   ·exact⟨by omega,by simp,λp H=>by cases H⟩
   ·exact⟨by omega,by simp,λp H=>by rw[List.mem_singleton.1 H];exact⟨rfl,rfl⟩⟩
  obtain⟨cf,cg,bi⟩:=ce;have dr:=v.bV;refine AMu aE T cc (by show r<=_;omega) (by show st.bV<=_;omega) (by show u.length<=_;omega) (λp H=>by have:=(bi p H).1;omega) (by show st.aX+2<=_;omega) (by omega) λbj ch bk az ci cj aC ds bm bn=>⟨_,rfl,ae.no rfl ?_⟩
  have ck:View GI bj q.np (eS st):=cd.mod bm λc b d=>by
   have e:=av c b;rcases d with d|d
   ·rw[T.kb c d] at e;cases e
   ·rw[d,T.kn] at e;cases e
  have cl: ∀c,q.np.ag=some c->c<y.size:=λc b=>(T.own c (by rw[av c b];decide)).2
  have dt:q.np.len=st.ts.length:=by rw[f.names.len];simp
  have cm:Mod (λc=>k c≠0) h bj:=bh.then (bm.ak λc _ b=>by
   rcases b with b|b
   ·exact aM c (by rw[T.kb c b];decide)
   ·exact aM c (by rw[b,T.kn];decide))
  have cn: ∀c,bk c≠0->k c≠0\/h.size<=c:=λc b=>by
   by_cases L:c<y.size
   ·rw[bn c L] at b;exact aM c b
   ·exact .inr (by have:=bh.size;omega)
  have co: ∀n,n≠st.next->ff az (cz n)=ff m (cz n):=λn w=>by rw[aC _ λj d=>sr j _ d.symm,ai _ λd=>w (Vx d)]
  have cp:=v.nd;refine Loop.rule (λY x al=> ∃(i:Nat) (aN:Nat->Prop) (am:Nat->Nat) (z:Bx),x=((i:Int),())/\Y=st.ts.length-i/\i<=st.ts.length/\bM g al {Q with Sb:=aN} am {st with ts:=u,next:=r,aX:=st.aX+1} z/\Calm z/\bH z.files<=bH az.files/\
    (∀ x,(∀ n∈(st.ts.map (·.1)).take i,x≠cz n)->ff z x=ff az x)/\Mod (λc=>k c≠0) h al/\(∀ c,am c≠0->k c≠0\/h.size<=c)/\View GI al q.np (eS st)/\(∀ c,q.np.ag=some c->am c=7)) ?_
   ⟨0,ch,bk,az,rfl,rfl,by omega,ci,cj,A0 _,λx _=>rfl,cm,cn,ck,λc b=>by rw[bn c (cl c b)];exact av c b⟩
  rintro du Y _ al ⟨i,aN,am,z,rfl,rfl,hi,I,aO,cq,U,aP,aQ,bo,aR⟩ cr;dsimp only;refine ae.intro (λo=>?_) (λo=>?_)
  ·have B:i<st.ts.length:=by have:=of_decide_eq_true o;omega
   have ac:st.ts[i]? =some st.ts[i]:=A2 B;have bp:(st.ts.map (·.1))[i]? =some st.ts[i].1:=by rw[AN,ac];rfl
   have cs:st.ts[i]∈st.ts:=BT B;obtain⟨dv,ct⟩:=v.below _ cs;refine bo.idx (i:=i) (x:=(st.ts[i].1:Int)) (by rw[eS,AN,ac];rfl) λa _ cu=>AC.mk cu.int ?_
   refine aA (AY.mk (AO I.cell rfl) ?_);refine Yt (I.ij aE) (by omega) λaH D=>⟨_,rfl,⟨AO (I.on D).cell rfl,?_⟩⟩
   have bq:=I.on D;refine tu bq.box λbc cv cw aS cx=>⟨_,rfl,?_⟩
   have cy:st.ts[i].1∉(st.ts.map (·.1)).take i:=λau=>by
    obtain⟨j,aT,d⟩:=CI au;have dw:j<i:=by have:=aT;simp at this;omega
    rw[List.getElem_take] at d;have e:=(List.getElem?_eq_some_iff.1 bp);have F:=(OK (h₀:=by simp;omega) (h₁:=e.1) cp).1 (d.trans e.2.symm);omega
   have cB:(ff z (cz st.ts[i].1)).isSome=true:=by rw[U _ λn w d=>cy (by rw[Vx d];exact w),co _ (by omega)];exact Option.isSome_iff_ne_none.2 ct
   have bs:(st.ts.map (·.1)).take (i+1)=(st.ts.map (·.1)).take i++ [st.ts[i].1]:=by rw[AE,bp];rfl
   have cC:Mod (λc=>k c≠0) h bc:=aP.then (((Ext.mod D).trans aS).ak λc _ b=>aQ c (by rw[I.kb c b];decide));obtain⟨cD,cE⟩:=yb aO.goes cB;rw[cD];refine ae.no rfl ?_;have cF:=bq.boxed (j:=2) (bF:= {st with ts:=u,next:=r,aX:=st.aX+1}) cw (aS.ak λc _ b=> .inl b) (λc b=> .inl (cx c b)) rfl rfl rfl rfl (.inl ⟨by decide,rfl,rfl⟩) (.inl ⟨by decide,rfl⟩);have cG:=yq (m:=z) (cz st.ts[i].1);rw[Ab (by omega)];refine cr (st.ts.length-(i+1)) _ _ (by omega) ⟨i+1,cv,_,_,rfl,rfl,B,cF,yc aO _,AK cG cq,λx bt=>?_,cC,λc b=>?_,?_,λc b=>?_⟩
   ·rw[cE,if_neg (bt _ (by rw[bs];simp))];exact U x λn w=>bt n (by rw[bs];exact List.mem_append.2 (.inl w))
   ·by_cases L:c<aH.size
    ·rw[Ha L] at b;exact aQ c b
    ·exact .inr (by have:=(aP.trans (Ext.mod D)).size;omega)
   ·exact(bo.ext D).mod aS λc b d=>by
     have e:=aR c b;rw[I.kb c d] at e;cases e
   ·have L:c<aH.size:=by have:=(I.own c (by rw[aR c b];decide)).2;have:=D.size;omega
    rw[Ha L];exact aR c b
  ·have B:i=st.ts.length:=by have: ¬(i:Int)<((q.np.len:Nat):Int):=of_decide_eq_false o;omega
   subst B;rw[As (by simp)] at U;have aU: ∀n,st.next<=n->ff z (cz n)=ff G (cz n):=λn w=>by
    rw[U _ λj aT d=>v.gk w (by rw[Vx d];exact aT),aC _ λj d=>sr j n d.symm]
   have cH:j5 (ff z) {st with ts:=u,next:=r,aX:=st.aX+1}:=by
    refine⟨?_,λp H=>?_,λn w=>?_,λau=>?_,v.bV⟩
    ·rcases ak with⟨rfl,_⟩|⟨rfl,_⟩<;>simp
    ·obtain⟨aV,cI⟩:=bi p H;rw[aV];refine⟨by show st.next<r;omega,?_⟩;rw[aU _ (A0 _)];rcases ak with⟨rfl,_⟩|⟨_,_,h⟩
     ·cases H
     ·exact h
    ·have w:r<=n:=w;rcases ak with⟨_,rfl,_,h⟩|⟨_,rfl,_⟩
     ·rw[aU n w];by_cases d:n=st.next
      ·rw[d];exact h
      ·rw[ai _ λaW=>d (Vx aW)];exact v.free n w
     ·rw[aU n (by omega),ai _ λaW=>by have:=Vx aW;omega];exact v.free n (by omega)
    ·show ff z (br nl st.aJ)≠none;rw[U _ λj _=>UV _ j,aC _ λj=>AVV _ j,ai _ (UV _ _)];exact v.kO au
   have bu:Dm {st with ts:=u,next:=r,aX:=st.aX+1}=Dm st/\M.total (u.map (·.2))<=M.total (Cn st):=by
    rcases ak with⟨rfl,_,e,_⟩|⟨rfl,_,_⟩
    ·exact⟨AC9 f.gj e,A6 _⟩
    ·exact⟨XW f.gj,by show(Jh (Cn st)).length+0<=_;omega⟩
   refine a7 al {Q with Sb:=aN} am _ z bg cb I ⟨aO,cH,rfl,bu.1,cg,rfl,A0 _,cf,?_,by omega,λaZ a0=>?_⟩ aP aQ
   ·show st.fr.length+M.total (u.map (·.2))<=c;have:=bu.2;omega
   ·rw[U aZ λn _=>sF a0 n,aC aZ λn=>ATs a0 n,ai aZ (sF a0 _)]
 refine ae.intro (λo=>?_) (λo=>?_)
 ·have cJ:Jh (Cn st)≠ []:=λd=>by
   have e:=of_decide_eq_true o;have F:=N.len;rw[d] at F;simp at F;omega
  have a1:=AQz (by omega) b bJ cJ;have dx:=AM5 a1;refine aA (AC.mk (AB O.cell rfl) ?_);have cK:View Be E aJ (Jh (Cn st)):=N.view.mod ag λc b d=>by have:=b1 c b;have:=f.ik;have:=(Z.trans bd).size;have:=be.size;omega
  have dy:(YS (Jh (Cn st))).length<=8400*C+1100000:=by omega
  refine AQx (q:= {q with tp:=⟨none,0,0⟩,np:=⟨none,0,0⟩,ps:= []}) (n:=st.next) aE O aF a1 cK (λc b=>by have:=N.lt b;have:=ag.size;omega) (by omega) (v.free _ (A0 _)) (by omega) λV dz bv cL t lo hi a2 cM cN cO dA bw dB dC bx a3 bz=>⟨_,_,rfl,ae.no rfl ?_⟩
  ·refine aj.mk λan _ cP ao dD=>?_
   have aD:=a2.on ao;refine aA (AC.mk (AB aD.cell rfl) (aj.mk λcQ _ cR ap dE=>?_));have bA:=aD.on ap;refine aA (ab.dx bA.cell (by simp) λdF cS cT dG=>aA (ab.dx cS (by simp) λdH bB cU dI=>?_));refine aA (AC.mk (AB bB rfl) (aA (ab.dx bB (by simp) λJ bC cV dJ=>?_)));have cW:J8 J9 (((st.next:Nat):Int)+(1:Int))=((st.next+1:Nat):Int):=Ab (by omega);have W:Mod (· =q.d) cQ J:=(cT.trans cU).trans cV;have cX:J[V.size]? =some (J2 #[Ar t] Bd (0,0)):=W.ag (ap.ag cP λh=>h) (by have:=a2.ik;show ¬_=q.d;have d:(q.d:Nat)<V.size:=this;omega);have cY:J[an.size]? =some (J2 #[J6 J9 (st.next:Int)] BL (0,0)):=W.ag cR (by have:=aD.ik;have d:(q.d:Nat)<an.size:=this;show ¬_=q.d;omega);have cZ:Own gV Bd J ⟨some ⟨V.size,0,none⟩,1,1⟩ [t]:=Own.lit (l:= [t]) cX rfl (by simp[maxLen]);have on:Own GI BL J ⟨some ⟨an.size,0,none⟩,1,1⟩ (([(st.next,Jh (Cn st))]:List (Nat×List Pr)).map λp=>(p.1:Int)):=Own.lit (l:= [((st.next:Nat):Int)]) cY rfl (by simp[maxLen]);have dK:=a3.size;have bD: ∀c,V.size<=c->bv c=0:=λc b=>bx c (by have:=bw.jm;omega)
   have c0:=bA.fw (h':=J) (tp:=⟨some ⟨V.size,0,none⟩,1,1⟩) (np:=⟨some ⟨an.size,0,none⟩,1,1⟩) (ps:= [t]) (ts:= [(st.next,Jh (Cn st))]) (next:=st.next+1) (bV:=st.bV) (S:=λc=>lo<=c/\c<hi)
    (by rw[cW] at bC;simpa [eQ] using bC) (W.ak λc _ b=> .inl b) cZ on rfl
    (λc b=> .inr (by
     have d:V.size=c:=by simpa [Sl.ag] using b
     subst d;have a4:=a2.ext.size;refine⟨bD _ (A0 _),a4,by simp[Sl.ag];omega,by omega⟩))
    (λc b=> .inr (by
     have d:an.size=c:=by simpa [Sl.ag] using b
     subst d;have a4:=aD.ext.size;refine⟨bD _ (by omega),a4,by simp[Sl.ag];omega,by omega⟩))
    (λc b=>⟨by have:=O.ext.size;omega,by omega⟩)
    (λi t' p e F=>by
     have c1:i=0:=by have:=(List.getElem?_eq_some_iff.1 e).1;simpa using this
     subst c1;simp only[HE,Bk] at e F;subst e F;refine .inr ⟨lo,hi,(bw.ext (ao.trans ap)).mod W (λc a5 bE d=>?_),by omega,λc a5 bE=>⟨⟨a5,bE⟩,bx c a5⟩,a1⟩;have:=O.ik;have cI:(q.d:Nat)<E.size:=this;omega)
   have c2:Mod (λc=>k c≠0) h J:=by
    refine(ax.trans ((a3.ak λc _ b=>?_))).trans ((Ext.mod (ao.trans ap)).trans (W.ak λc _ b=>?_))
    ·rw[f.kb c b];decide
    ·rw[b,f.kd];decide
   have a6: ∀c,q.np.ag=some c->c<E.size/\k c=7:=λc b=>⟨by have:=f.names.lt b;have:=ax.size;omega,f.kx c b⟩
   refine fin J _ _ cL (st.next+1) _ c0 rfl rfl cM cN (.inr ⟨rfl,rfl,cO⟩) (by omega) c2 (λc b=>?_) ?_ λc b=>?_
   ·by_cases L:c<h.size
    ·left;intro c3;have bG:c<E.size:=by have:=ax.size;omega
     have aV:bv c=0:=by rw[bz c bG];exact c3
     have dL:=bG;apply b;unfold NQ;rw[if_neg (by simp[aV]),if_neg (by simp[Sl.ag];omega),if_neg (by simp[Sl.ag];have:=ao.size;omega),if_neg (by omega)]
    ·exact .inr (by omega)
   ·refine((bf.mod a3 λc b d=>?_).ext (ao.trans ap)).mod W λc b d=>?_
    ·have:=(a6 c b).2;rw[f.kb c d] at this;cases this
    ·have:=(a6 c b).2;rw[d,f.kd] at this;cases this
   ·obtain⟨e,F⟩:=a6 c b;unfold NQ;rw[bz c e,F];rfl
 ·have c4:Jh (Cn st)= []:=by have e:=of_decide_eq_false o;have F:=N.len;exact CM (by omega)
  refine fin E _ k m st.next [] O rfl rfl aF (λx _=>rfl) (.inl ⟨rfl,rfl,c4,v.free _ (A0 _)⟩) (by omega) ax (λc b=> .inl b) bf λc b=>f.kx c b
end
theorem AOC {m:Bx}{k:A31}{made:Bool}(c:Calm m)(a:made=true->ff m k≠none):(QQ m k made).1=0/\Calm (QQ m k made).2/\ ∀x,x≠k->ff (QQ m k made).2 x=ff m x:=by
 cases made with
 |false=>exact⟨rfl,c,λx _=>rfl⟩
 |true=>
  obtain⟨p,b⟩:=Option.ne_none_iff_exists'.1 (a rfl);obtain⟨d,e⟩:=nP c.goes b;exact⟨d,WM c k,λx f=>by rw[show(QQ m k true).2=(Kh m k).2 from rfl,e,if_neg f]⟩
theorem APY {m:Bx}(g:Hg m)(k:A31)(made:Bool):bH (QQ m k made).2.files<=bH m.files:=by
 cases made with
 |false=>exact A0 _
 |true=>exact nU g k
section
variable {A : ao} {B : cX} {g h : aa} {q : Hp} {k : Nat -> Nat} {st : Db} {m : Bx} {D : YM} {bC c : Nat} {R : A30}
theorem ARF(au:bL g)(S:DN B g h q k st m D bC c)(hA:bC+2<=B.A)
  (bd: ∀h' aF aV bF aW,aF.d=q.d->aF.b=q.b->DN B g h' aF aV bF aW D (bC+2) c->Dm bF=Dm st->(∀ G,¬eo G->ff aW G=ff m G)->Mod (λc=>k c≠0) h h'->(∀ c,aV c≠0->k c≠0\/h.size<=c)->R (J6 J9 0) h'):
  AA A P O9 #[Ar q.d] h R:=by
 have cB:=S;obtain⟨E,cC,ak,l,be,b⟩:=S;have dY:=B.hA;have bK:=B.hC;have cD:=B.wt (a:=bC) (by omega);have dZ:=l.bX;have d0:=l.next;have d1:=l.aX;have d2:=l.aJ;have d3:=l.cA;have cE:=ak.gk (A0 _);refine ACN ?_;unfold Ub;refine ah.mk λK cF=>mo E (cF _ _ (ae.no rfl ?_))
 refine aA (AY.mk (AB E.cell rfl) ?_);refine M.sV E.fresh ⟨_,_,rfl,?_⟩;refine ae.intro (λaY=>?_) (λaY=>?_)
 ·have f:st.fr= []:=CM (by have:((st.fr.length:Nat):Int)=0:=(by simpa using aY);omega);exact bd h q k st m rfl rfl (cB.put (by omega) (A0 _) b) rfl (λ_ _=>rfl) Mod.refl (λc b=> .inl b)
 have cG:st.fr≠ []:=λe=>by
  rw[e] at aY;cases aY
 have bf:TR st.fr:=⟨cG,λx aG=>oH (E.fresh.aL x aG),E.fresh.sorted,by omega⟩;have d4:=AM5 bf;have cH:(YS st.fr).length<=8400*B.C+1100000:=by omega
 refine aA (AC.mk (AB E.cell rfl) (aA (AY.mk (AB E.cell rfl) ?_)));refine M.sW E.fresh λfv r bN bO d5=>⟨_,rfl,⟨AB (E.on bO).cell rfl,?_⟩⟩
 rw[M.sR] at bN;refine M.Xj bN (λ_ _=>rfl) (by omega) λcI av bP d6 cJ=>⟨cI,rfl,?_⟩
 have bg:=bO.trans cJ;have bh:=E.on bg;have d7:=bg.size;refine⟨AB bh.cell rfl,?_⟩;refine AQx (n:=st.next) au bh cC bf bP.view (λc b=>bP.lt b) (by omega) (ak.free _ (A0 _)) (AUV cH be cD bK) λaZ a0 a1 bQ t lo hi J cK bR cL a2 bT d8 d9 bU bW bX=>⟨_,_,rfl,ae.no rfl ?_⟩
 have ea:=bW.size;have eb:=bT.jm;have cM:Mod (λc=>k c≠0) h aZ:=(Ext.mod bg).trans (bW.ak λc _ b=>by rw[E.kb c b];decide);have cN:bH bQ.files<=bH m.files+(8400*B.C+1100001):=by omega
 refine aA (AY.mk (AB J.cell rfl) ?_);obtain⟨cO,cP,bY⟩:=AOC (k:=br nl st.aJ) (made:=st.bI) cK λcQ=>by rw[bR _ (UV _ _)];exact ak.kO cQ
 refine ADh (J.ij au) J.log J.box J.kP (by decide) (by omega) (λcR=>absurd cO cR) λec u cS cT a3=>⟨_,_,rfl,?_⟩
 refine ae.no rfl ?_;have cU:=APY J.box.aL (br nl st.aJ) st.bI;have H:=J.boxed (j:=3) (bF:= {st with aJ:=st.aJ+1,bI:=false}) cS (a3.ak λc _ b=>b.imp id λh=> .inl ⟨rfl,h⟩) (λc b=> .inl b) rfl rfl rfl rfl (.inr cT) (.inl ⟨by decide,rfl⟩);generalize (QQ bQ (br nl st.aJ) st.bI).2=W at*
 have ed:=a3.size;have bZ: ∀c,c<aZ.size->NJ a1 aZ.size a0 2 c=a1 c:=λc b=>Ha b
 generalize NJ a1 aZ.size a0 2=L at*
 have cV:Mod (λc=>k c≠0) h u:=cM.then (a3.ak λc _ b=>by
  have f:a1 c≠0:=by
   rcases b with b|b
   ·rw[J.kb c b];decide
   ·rw[b,J.kl];decide
  by_cases N:c<av.size
  ·rw[bX c N] at f;exact .inl f
  ·exact .inr (by omega))
 have bi: ∀c,L c≠0->k c≠0\/h.size<=c:=λc b=>by
  by_cases N:c<av.size
  ·rw[bZ c (by omega),bX c N] at b;exact .inl b
  ·exact .inr (by omega)
 have bj: ∀c,u.size<=c->L c=0:=λc b=>Decidable.byContradiction λh=>by
  have:=(H.own c h).2;omega
 have bk: ∀c,lo<=c->c<hi->L c=0:=λc O X=>by rw[bZ c (by omega)];exact bU c O
 have b0: ∀x,x≠cz st.next->x≠br nl st.aJ->ff W x=ff m x:=λx aG U=>(bY x U).trans (bR x aG)
 have cW:ff W (cz st.next)≠none:=by rw[bY _ λe=>UV _ _ e.symm];exact cL
 have ee:bH W.files<=bH m.files+(8400*B.C+1100001):=AK cU cN;have cX: ∀(z:aa) (o:Hp) (bm:Nat->Nat),bM g z o bm {st with ts:=(st.next,st.fr)::st.ts,next:=st.next+1,bV:=st.aJ+1,aJ:=st.aJ+1,bI:=false} W->o.d=q.d->o.b=q.b->Mod (λc=>k c≠0) h z->(∀ c,bm c≠0->k c≠0\/h.size<=c)->
   AA A P Jz #[Ar o.d] z λcY b1=> ∃bn:Int,cY=J6 J9 bn/\(
         ae (bn != (0:Int)) (
          AA A P Dt #[Ar o.d,J6 J9 bn] b1 λcZ c0=> ∃b2:Int,cZ=J6 J9 b2/\(
          R (J6 J9 b2) c0)) (
          AA A P Q3 #[] b1 λc1 b3=> ∃b4:Q2,c1=J5 b4/\(
          At (some (⟨o.d,0,none⟩:Q6)) λc2=>
          ab b3 (c2.add 3) (J5 b4) λQ=>
          At (some (⟨o.d,0,none⟩:Q6)) λc3=>
          AY Q (c3.add 1) λc4=>
          AA A P JR #[J5 c4,J6 J9 (st.aJ:Int)] Q λc5 al=> ∃bo:Int,c5=J6 J9 bo/\(
          ae (bo != (0:Int)) (
           AA A P Dt #[Ar o.d,J6 J9 bo] al λc6 c7=> ∃b5:Int,c6=J6 J9 b5/\(
           R (J6 J9 b5) c7)) (
           At (some (⟨o.d,0,none⟩:Q6)) λc8=>
           AV al (c8.add 4) λc9=>
           ae (decide (((c9.len:Nat):Int)>=(4:Int))) (
            AA A P Je #[Ar o.d] al λda db=> ∃b6:Int,da=J6 J9 b6/\(
            R (J6 J9 b6) db)) (
            R (J6 J9 0) al)))))):=by
  intro z o bm a4 b7 b8 b9 a5;have dc:bH W.files+1000000<=8000000000000:=by have f:=B.wt (a:=bC+1) (by omega);have I:bH W.files+1000000<=B.W0+(bC+1)*B.K:=B.step (d:=8400*B.C+1100001+1000000) be (by omega) (by omega);exact AK I f
  refine AMu au a4 cP (by show st.next+1<=_;omega) (by show st.aJ+1<=_;omega) (by show st.ts.length+1<=_;omega) (λp am=>?_) (by show st.aX+2<=_;omega) dc λr ef bp eg bq dd de eh ca df=>⟨_,rfl,ae.no rfl ?_⟩
  ·rcases List.mem_cons.1 am with rfl|am
   ·show st.next<=_;omega
   ·have:=(ak.below p am).1;omega
  have ei:=ca.size;have cb:Mod (λc=>k c≠0) h r:=b9.then (ca.ak λc _ b=>by
   rcases b with b|b
   ·exact a5 c (by rw[a4.kb c b];decide)
   ·exact a5 c (by rw[b,a4.kn];decide))
  have dg: ∀c,bp c≠0->k c≠0\/h.size<=c:=λc b=>by
   by_cases N:c<z.size
   ·rw[df c N] at b;exact a5 c b
   ·exact .inr (by have:=b9.size;omega)
  refine M.sX λb3 dh bs ej=>⟨_,rfl,?_⟩
  have di:=bq.on bs;refine aA (ab.dx di.cell (by simp) λQ dj bt ek=>?_);have dk:M.cW Q r.size [] []:=dh.mod bt λc b e=>by
   have el:c=r.size:=by
    rcases b with rfl|⟨x,aG,_⟩
    ·rfl
    ·cases aG
   have:=bq.ik;have v:(o.d:Nat)<r.size:=this;have en:c=o.d:=e;omega
  have cc:Mod (λc=>c=r.size\/c=o.d) r Q:=(Ext.mod bs).trans (bt.ak λc _ b=> .inr b);have Y:=bq.renew (h':=Q) (gl:=r.size) dk (A0 _) (by simpa [eQ] using dj) (by
   refine⟨cc.size,λc b aw=>?_⟩;exact cc.get c b (by rintro(h|h);omega;exact aw h))
  have cd:Mod (λc=>k c≠0) h Q:=(cb.trans (Ext.mod bs)).then (bt.ak λc _ b=>by
   have e:c=o.d:=b;rw[e];exact a5 _ (by rw[a4.kd];decide))
  have ce: ∀c,NJ bp r.size (· =r.size) 5 c≠0->k c≠0\/h.size<=c:=λc b=>by
   by_cases N:c<r.size
   ·rw[Ha N] at b;exact dg c b
   ·exact .inr (by have:=cb.size;omega)
  generalize NJ bp r.size (· =r.size) 5=cf at*
  refine aA (AY.mk (AB Y.cell rfl) ?_);have ep:=cd.size;refine AJ8 (Y.ij au) (λh' x=>Y.fK au (x.ak λc _ b=> .inl b)) Y.log Y.box dd Y.kP (by decide) (by omega) (λdl=>absurd dl (by show ¬(st.aJ:Int)>=((st.aJ+1:Nat):Int);omega))
   λ_ al a6 V dm cg ch dn eq er dp=>⟨_,rfl,ae.no rfl ?_⟩
  have aH:=Y.boxed (j:=2) (bF:= {st with fr:= [],ts:=(st.next,st.fr)::st.ts,next:=st.next+1,bV:=st.aJ+1,aJ:=st.aJ+1,aX:=st.aX+1,bI:=false}) dm (ch.ak λc _ b=> .inl b) (λc b=> .inl (dn c b)) rfl rfl rfl rfl (.inl ⟨by decide,rfl,rfl⟩) (.inl ⟨by decide,rfl⟩);have bu:Mod (λc=>k c≠0) h al:=cd.then (ch.ak λc _ b=>ce c (by rw[Y.kb c b];decide));have bv: ∀c,NJ cf Q.size a6 2 c≠0->k c≠0\/h.size<=c:=λc b=>by
   by_cases N:c<Q.size
   ·rw[Ha N] at b;exact ce c b
   ·exact .inr (by omega)
  generalize NJ cf Q.size a6 2=dq at*
  have ci: ∀x,(∀ n,x≠br nl n)->(∀ n,x≠br nn n)->ff V x=ff W x:=λx f I=>(dp x λn _ _ _=>f n).trans (de x I)
  have cj: ∀n,ff V (cz n)=ff W (cz n):=λn=>ci _ (λj e=>UV j n e.symm) λj e=>sr j n e.symm
  have ck: ∀n,n≠st.next->ff V (cz n)=ff m (cz n):=λn aw=>(cj n).trans (b0 _ (λe=>aw (Vx e)) λe=>UV _ _ e.symm)
  have cl:j5 (ff V) {st with fr:= [],ts:=(st.next,st.fr)::st.ts,next:=st.next+1,bV:=st.aJ+1,aJ:=st.aJ+1,aX:=st.aX+1,bI:=false}:=by
   refine⟨List.nodup_cons.2 ⟨cE,ak.nd⟩,λp am=>?_,λn aw=>?_,(λh=>by cases h),A0 _⟩
   ·rcases List.mem_cons.1 am with rfl|am
    ·exact⟨Ks _,by rw[cj];exact cW⟩
    ·obtain⟨ax,v⟩:=ak.below p am;exact⟨Nat.lt_succ_of_lt ax,by rw[ck _ (Nat.ne_of_lt ax)];exact v⟩
   ·have aw:st.next+1<=n:=aw;rw[ck n (by omega)];exact ak.free n (by omega)
  have cm:Dm {st with fr:= [],ts:=(st.next,st.fr)::st.ts,next:=st.next+1,bV:=st.aJ+1,aJ:=st.aJ+1,aX:=st.aX+1,bI:=false}=Dm st:=AJC E.gj;have cn: ∀G,¬eo G->ff V G=ff m G:=λG U=>(ci G (λn=>sG U n) λn=>ATs U n).trans (b0 G (sF U _) (sG U _))
  have dr:bH V.files<=bH m.files+(8400*B.C+1800001):=by omega
  have co:0+(st.fr.length+M.total (Cn st))<=c:=by omega
  have a2:bH V.files<=B.W0+(bC+1)*B.K:=B.step be dr (AJP B.C);refine aA (AV.mk (s:=o.tp) (AB aH.cell rfl) ?_);have ds:=aH.cG.len;have dt:=aH.dt;have es:o.tp.len=st.ts.length+1:=by have ax:o.tp.len=o.ps.length:=ds;have v:o.ps.length=((st.next,st.fr)::st.ts).length:=dt;rw[ax,v];rfl
  refine ae.intro (λcp=>?_) (λcp=>?_)
  ·have du:=B.wt (a:=bC+2) (by omega);have dv:bH V.files+(8400*B.C+1100001)+1000000<=B.W0+(bC+2)*B.K:=B.step (d:=8400*B.C+1100001+1000000) a2 (by omega) (by omega);refine ALF (q:= {o with Sb:=a6,ft:=r.size,ns:= []}) (C:=B.C) au aH cg cl (by show st.ts.length+1<=_;omega) co b bK (by show st.next+1<=_;omega) (by show st.aX+1<=_;omega) (by show st.aJ+1<=_;omega) (AK dv du) λh' aF aV bF aW ax v dw p dx dy=>⟨_,rfl,?_⟩
   refine bd h' aF aV bF aW (ax.trans b7) (v.trans b8) ⟨dw,p.calm,p.jo,⟨?_,?_,?_,by have:=p.cA;omega,p.bX⟩,B.step a2 p.wt (AJP B.C),b⟩ (p.map.trans cm) (λG U=>(p.ey G U).trans (cn G U)) (bu.then (dx.ak λc _ b=>bv c b)) λc b=>?_
   ·have:bF.aJ=st.aJ+1:=p.aJ;omega
   ·have:bF.aX<=st.aX+1+1:=p.aX;omega
   ·have:bF.next<=st.next+1+1:=p.next;omega
   ·rcases dy c b with f|f
    ·exact bv c f
    ·exact .inr (by have:=bu.size;omega)
  ·have et: ¬((o.tp.len:Nat):Int)>=4:=of_decide_eq_false cp;exact bd al {o with Sb:=a6,ft:=r.size,ns:= []} dq _ V b7 b8 (DN.put (bC:=bC+1) ⟨aH,cg,cl,⟨by show st.aJ+1<=_;omega,by show st.aX+1<=_;omega,by show st.next+1<=_;omega,by show st.ts.length+1<=3;omega,co⟩,a2,b⟩ (by omega) (A0 _) b) cm cn bu bv
 refine ah.mk λdz dA=>?_
 have ay: ∀c,q.tp.ag=some c->L c=6:=H.kt;have an: ∀c,q.np.ag=some c->L c=7:=H.kx;have fin: ∀(z:aa) (tp np:Sl) (bw:Nat),Own gV Bd z tp (t::q.ps)->Own GI BL z np ((st.next:Int)::eS st)->Mod (λc=>q.tp.ag=some c\/q.np.ag=some c) u z->(∀ c,tp.ag=some c->(q.tp.ag=some c\/u.size<=c)/\c<bw)->(∀ c,np.ag=some c->q.np.ag=some c\/(u.size<=c/\bw<=c))->
   ab z ((⟨q.d,0,none⟩:Q6).add 4) (J4 tp.p tp.len tp.cap) λcq=>ab cq ((⟨q.d,0,none⟩:Q6).add 5) (J4 np.p np.len np.cap) λao=>dz () ao:=by
  intro z tp np bw dB on aI a7 a8;have ap:L q.d=1:=H.kd;have bx: ¬(q.tp.ag=some q.d\/q.np.ag=some q.d):=by
   rintro(h|h)
   ·have:=ay _ h;rw[ap] at this;cases this
   ·have:=an _ h;rw[ap] at this;cases this
  have dC:=aI.ag H.cell bx;have eu:=aI.size;have ev:q.d<u.size:=H.ik;refine ab.dx dC (by simp) λcq dD dE ew=>ab.dx dD (by simp) λao dF dG ex=>?_
  have aq:Mod (· =q.d) z ao:=dE.trans dG;have bz: ∀c,tp.ag=some c-> ¬c=q.d:=λc b e=>by
   rcases(a7 c b).1 with h|h
   ·exact bx (.inl (e▸h))
   ·omega
  have cr: ∀c,np.ag=some c-> ¬c=q.d:=λc b e=>by
   rcases a8 c b with h|h
   ·exact bx (.inr (e▸h))
   ·omega
  have cs:=dB.mod aq bz;have ct:=on.mod aq cr;have ey:=H.ext.size;have az:=H.fw (h':=ao) (tp:=tp) (np:=np) (ps:=t::q.ps) (ts:=(st.next,st.fr)::st.ts) (next:=st.next) (bV:=st.bV) (S:=λc=>lo<=c/\c<hi)
   (by simpa [eQ] using dF) ((aI.ak λc _ b=> .inr b).trans (aq.ak λc _ b=> .inl b)) cs ct (by have:=E.dt;simp[this])
   (λc b=>by
    obtain⟨f,I⟩:=a7 c b;by_cases e:q.tp.ag=some c
    ·exact .inl e
    ·have r:u.size<=c:=f.resolve_left e;refine .inr ⟨bj c r,by omega,λv=>?_,λh=>by omega⟩;rcases a8 c v with av|av
     ·have:=an c av;rw[bj c r] at this;cases this
     ·omega)
   (λc b=>by
    by_cases e:q.np.ag=some c
    ·exact .inl e
    ·have r:=(a8 c b).resolve_left e;refine .inr ⟨bj c r.1,by omega,λv=>?_,λh=>by omega⟩;have:=(a7 c v).2;omega)
   (λc b=>⟨by have:=bh.ext.size;omega,by have:=aq.size;omega⟩)
   (λi t' p f I=>by
    cases i with
    |zero=>
     simp only[HE,Bk] at f I;subst f I;have dH:bS u t st.fr (Qp st.fr) lo hi:=bT.mod a3 λc O X b=>by
      have Z:=bU c O;rcases b with b|b
      ·have:=J.kb c b;rw[Z] at this;cases this
      ·have:=J.kl;rw[<- b,Z] at this;cases this
     have dI:bS z t st.fr (Qp st.fr) lo hi:=dH.mod aI λc O X b=>by
      have Z:=bk c O X;rcases b with b|b
      ·have:=ay c b;rw[Z] at this;cases this
      ·have:=an c b;rw[Z] at this;cases this
     refine .inr ⟨lo,hi,dI.mod aq λc O X b=>?_,by have:=aq.size;omega,λc O X=>⟨⟨O,X⟩,bk c O X⟩,bf⟩;have Z:=bk c O X;rw[b,ap] at Z;cases Z
    |succ i=>exact .inl ⟨i,by simpa using f,by simpa using I⟩)
  have cu: ∀c,NQ L u.size tp np (λc=>lo<=c/\c<hi) c≠0->k c≠0\/h.size<=c:=λc b=>by
   by_cases e:L c=0
   ·by_cases N:c<av.size
    ·exfalso;apply b;unfold NQ;rw[if_neg (by simp[e]),if_neg λv=>?_,if_neg λv=>?_,if_neg (by omega)]
     ·rcases a8 c v with aK|aK
      ·have:=an c aK;rw[e] at this;cases this
      ·omega
     ·rcases(a7 c v).1 with aK|aK
      ·have:=ay c aK;rw[e] at this;cases this
      ·omega
    ·exact .inr (by omega)
   ·exact bi c e
  generalize NQ L u.size tp np (λc=>lo<=c/\c<hi)=aL at*
  have dJ:Mod (λc=>k c≠0) h ao:=(cV.then (aI.ak λc _ b=>bi c (by
   rcases b with b|b
   ·rw[ay c b];decide
   ·rw[an c b];decide))).then (aq.ak λc _ b=>bi c (by rw[b,ap];decide))
  refine dA _ _ ?_;refine aA (AC.mk (AB az.cell rfl) (aA (ab.dx az.cell (by simp) λdK bA dL dM=>aA (ab.dx bA (by simp) λbB a9 dN ez=>?_))));have dO:J8 J9 (((st.next:Nat):Int)+(1:Int))=((st.next+1:Nat):Int):=Ab (by omega);have dP:J8 J9 (((st.aJ:Nat):Int)+(1:Int))=((st.aJ+1:Nat):Int):=Ab (by omega);have ba:Mod (· =q.d) ao bB:=dL.trans dN;have eA: ∀c,tp.ag=some c-> ¬c=q.d:=bz;have dQ:=az.fw (h':=bB) (tp:=tp) (np:=np) (ps:=t::q.ps) (ts:=(st.next,st.fr)::st.ts) (next:=st.next+1) (bV:=st.aJ+1) (S:=λ_=>False)
   (by rw[dO,dP] at a9;simpa [eQ] using a9) (ba.ak λc _ b=> .inl b) (cs.mod ba bz) (ct.mod ba cr) (by have:=E.dt;simp[this]) (λc b=> .inl b) (λc b=> .inl b) (λc h=>h.elim) (λi t' p f I=> .inl ⟨i,f,I⟩)
  have dR: ∀c,NQ aL ao.size tp np (λ_=>False) c≠0->k c≠0\/h.size<=c:=λc b=>by
   by_cases e:aL c=0
   ·exfalso;apply b;unfold NQ;rw[if_neg (by simp[e]),if_neg λv=>?_,if_neg λv=>?_,if_neg λh=>h]
    ·have f:aL c=7:=az.kx c v;rw[e] at f;cases f
    ·have f:aL c=6:=az.kt c v;rw[e] at f;cases f
   ·exact cu c e
  exact cX bB {q with Sb:=a0,tp:=tp,np:=np,ps:=t::q.ps} _ dQ rfl rfl (dJ.then (ba.ak λc _ b=>cu c (by
   have f:aL q.d=1:=az.kd;rw[b,f];decide))) dR
 have bD:=H.cell;have bb:Own gV Bd u q.tp q.ps:=H.cG;have bc:Own GI BL u q.np (eS st):=H.names;have bE:q.ps.length<=1000000:=by rw[E.dt];omega
 have bG:(eS st).length<=1000000:=by simp[eS];omega
 have aC: ∀c,q.tp.ag=some c->q.np.ag≠some c:=λc f I=>by
  have:=ay c f;rw[an c I] at this;cases this
 have aM: ∀c,q.tp.ag=some c->c<u.size:=λc b=>bb.lt b
 have aD: ∀c,q.np.ag=some c->c<u.size:=λc b=>bc.lt b
 refine aA (AV.mk (s:=q.tp) (AB bD rfl) (aA (AV.mk (s:=q.np) (AB bD rfl) (aA (AC.mk (AB bD rfl) ?_)))));have w: ∀ {z:aa},Mod (λc=>q.tp.ag=some c\/q.np.ag=some c) u z->z[q.d]? =some (J2 (eQ {q with Sb:=a0} {st with aJ:=st.aJ+1,bI:=false} false) KF (0,0)):=λx=>x.ag H.cell (by
  have ap:L q.d=1:=H.kd;rintro(h|h)
  ·have:=ay _ h;rw[ap] at this;cases this
  ·have:=an _ h;rw[ap] at this;cases this)
 refine⟨?_,?_⟩
 ·refine aj.mk λdS _ cv ar eB=>⟨AB (w (Ext.mod ar)) rfl,AB (w (Ext.mod ar)) rfl,AB (w (Ext.mod ar)) rfl,?_,?_⟩
  ·refine qW (bb.ext ar) cv (λe=>by have:=aM _ e;omega) bE λac F af T ag=>⟨_,rfl,?_⟩
   have y:Mod (λc=>q.tp.ag=some c\/q.np.ag=some c) u F:=(Ext.mod ar).trans (T.ak λc _ b=> .inl b);refine⟨AB (w y) rfl,AB (w y) rfl,aj.mk λdT _ dU aN eC=>⟨AB (w (y.trans (Ext.mod aN))) rfl,AB (w (y.trans (Ext.mod aN))) rfl,?_⟩⟩;have aO:Own GI BL dT q.np (eS st):=(((bc.ext ar).mod T λc b e=>aC c e b)).ext aN;refine qX aO dU (λe=>by have:=aD _ e;have:=y.size;omega) bG λaP aQ aR ai aS=>⟨_,rfl,?_⟩
   have cw:=y.size;have aT: ∀c,ac.ag=some c->c<F.size:=λc b=>af.lt b
   refine fin aQ ac aP F.size (((af.ext aN)).mod ai λc b e=>?_) aR ((y.trans (Ext.mod aN)).trans (ai.ak λc _ b=> .inr b)) (λc b=>⟨(ag c b).imp id λh=>by omega,aT c b⟩) λc b=>(aS c b).imp id λh=>⟨by omega,by omega⟩
   rcases ag c b with f|f
   ·exact aC c f e
   ·have:=aD c e;omega
  ·refine aj.mk λdK _ bA cx dM=>?_
   have aU:=ar.trans cx;refine⟨AB (w (Ext.mod aU)) rfl,AB (w (Ext.mod aU)) rfl,?_⟩;refine qW (bb.ext aU) (cx.ag cv λh=>h) (λe=>by have:=aM _ e;omega) bE λac F af T ag=>⟨_,rfl,?_⟩
   have y:Mod (λc=>q.tp.ag=some c\/q.np.ag=some c) u F:=(Ext.mod aU).trans (T.ak λc _ b=> .inl b);refine⟨AB (w y) rfl,AB (w y) rfl,?_⟩;have cw:=y.size;have aO:Own GI BL F q.np (eS st):=(bc.ext aU).mod T λc b e=>aC c e b
   have a9:F[dS.size]? =some (J2 #[J6 J9 (st.next:Int)] BL (0,0)):=T.ag bA (λe=>by have:=aM _ e;omega);refine qX aO a9 (λe=>by have:=aD _ e;omega) bG λaP aQ aR ai aS=>⟨_,rfl,?_⟩
   have aT: ∀c,ac.ag=some c->c<F.size:=λc b=>af.lt b
   refine fin aQ ac aP F.size (af.mod ai λc b e=>?_) aR (y.trans (ai.ak λc _ b=> .inr b)) (λc b=>⟨(ag c b).imp id λh=>by omega,aT c b⟩) λc b=>(aS c b).imp id λh=>⟨by omega,by omega⟩
   rcases ag c b with f|f
   ·exact aC c f e
   ·have:=aD c e;omega
 ·refine aj.mk λeD _ dV bJ eE=>⟨AB (w (Ext.mod bJ)) rfl,AB (w (Ext.mod bJ)) rfl,aj.mk λeF _ dW cy eG=>?_⟩
  have aE:=bJ.trans cy;refine⟨AB (w (Ext.mod aE)) rfl,AB (w (Ext.mod aE)) rfl,AB (w (Ext.mod aE)) rfl,?_⟩;refine qW (bb.ext aE) dW (λe=>by have:=aM _ e;omega) bE λac F af T ag=>⟨_,rfl,?_⟩
  have y:Mod (λc=>q.tp.ag=some c\/q.np.ag=some c) u F:=(Ext.mod aE).trans (T.ak λc _ b=> .inl b);refine⟨AB (w y) rfl,AB (w y) rfl,?_⟩;have cw:=y.size;have aO:Own GI BL F q.np (eS st):=(bc.ext aE).mod T λc b e=>aC c e b
  have dX:F[u.size]? =some (J2 #[J6 J9 (st.next:Int)] BL (0,0)):=T.ag (cy.ag dV λh=>h) (λe=>by have:=aM _ e;omega);refine qX aO dX (λe=>by have:=aD _ e;omega) bG λaP aQ aR ai aS=>⟨_,rfl,?_⟩
  have aT: ∀c,ac.ag=some c->c<F.size:=λc b=>af.lt b
  refine fin aQ ac aP F.size (af.mod ai λc b e=>?_) aR (y.trans (ai.ak λc _ b=> .inr b)) (λc b=>⟨(ag c b).imp id λh=>by omega,aT c b⟩) λc b=>(aS c b).imp id λh=>⟨by omega,by omega⟩
  rcases ag c b with f|f
  ·exact aC c f e
  ·have:=aD c e;omega
end
def GJ:List Pr->Int
 | []=>0
 |x::l=>if Ah x≠0 then Ah x else GJ l
def F5(l:List Pr):Int:=if l.length=0 then 1 else if l.length>64 then 2 else GJ l
theorem ADa: ∀ {l:List Pr},GJ l=0->BH l
 | [],_=>ARd
 |x::l,a=>by
  unfold GJ at a;split at a
  ·rename_i b;exact absurd a b
  ·rename_i b;intro d c;rcases List.mem_cons.1 c with rfl|c
   ·exact Decidable.not_not.1 b
   ·exact ADa a d c
theorem AN0 {l:List Pr}(a:F5 l=0):ATr l/\BH l/\l≠ []:=by
 unfold F5 at a;split at a
 ·cases a
 ·rename_i b;split at a
  ·cases a
  ·rename_i e;have:=ADa a;exact⟨⟨by omega,λx c=>oH (this x c)⟩,this,λd=>b (by rw[d];rfl)⟩
theorem AIf {l:List Pr}{i:Nat}{x:Pr}(a:l[i]? =some x)(d:GJ (l.take i)=0):GJ l=if Ah x≠0 then Ah x else GJ l:=by
 split
 ·rename_i e
  induction l generalizing i with
  |nil=>simp at a
  |cons f l g=>
   cases i with
   |zero=>
    simp at a;subst a;unfold GJ;rw[if_pos e]
   |succ i=>
    have b:GJ (f::l.take i)=0:=d;unfold GJ at b ⊢;split at b
    ·rename_i c;exact absurd b c
    ·rename_i c;rw[if_neg c];exact g (by simpa using a) b
 ·rfl
theorem ABP: ∀ {l:List Pr} {x:Pr},GJ l=0->Ah x=0->GJ (l++ [x])=0
 | [],x,_,b=>by show GJ [x]=0;unfold GJ;rw[if_neg (by simp[b])];rfl
 |y::l,x,b,d=>by
  have a:GJ (y::l)=0:=b;show GJ (y::(l++ [x]))=0;unfold GJ at a ⊢;split at a
  ·rename_i c;exact absurd a c
  ·rename_i c;rw[if_neg c];exact ABP a d
theorem AIj {Q:ao}{h:aa}{s:Sl}{l:List Pr}{n:A30}(v:View Be h s l)(j: ∀B,Ext h B->n (J6 J9 (F5 l)) B):AA Q P QG #[J4 s.p s.len s.cap] h n:=by
 refine AIC ?_;unfold wh;rw[v.len];refine ae.intro (λe=>?_) (λe=>?_)
 ·have o:l.length=0:=by have:((l.length:Nat):Int)=0:=(by simpa using e);omega
  have:=j h Mod.refl;unfold F5 at this;rwa [if_pos o] at this
 have o:l.length≠0:=λf=>by rw[f] at e;cases e
 refine ae.intro (λe=>?_) (λe=>?_)
 ·have u:l.length>64:=by have:=of_decide_eq_true e;omega
  have:=j h Mod.refl;unfold F5 at this;rwa [if_neg o,if_pos u] at this
 have u: ¬l.length>64:=by have:=of_decide_eq_false e;omega
 have R:F5 l=GJ l:=by unfold F5;rw[if_neg o,if_neg u]
 rw[R] at j;refine Loop.rule (λC x d=> ∃i:Nat,x=((i:Int),())/\C=l.length-i/\i<=l.length/\Ext h d/\GJ (l.take i)=0) ?_ ⟨0,rfl,rfl,by omega,Mod.refl,rfl⟩;rintro K C _ d ⟨i,rfl,rfl,hi,w,q⟩ S;dsimp only;refine ae.intro (λe=>?_) (λe=>?_)
 ·have r:i<l.length:=by have:=of_decide_eq_true e;omega
  have af:l[i]? =some l[i]:=A2 r;rw[<- v.len];refine(v.ext w).idx af λa _ c=>?_
  obtain⟨T,U,V⟩:=c.pair;refine AL.mk T (AL.mk U (Aa.mk V (aj.pair λb k _ m W ac=>?_)));have y:=w.trans W;generalize l[i]=p at*
  have D:=AIf af q;refine ah.mk λE F=>?_
  have X:Ah p=1-> ∀d,Ext h d->n (J6 J9 1) d:=λf d x=>by
   have:=j d x;rw[D,if_pos (by rw[f];decide),f] at this;exact this
  have Y:Ah p=2-> ∀d,Ext h d->n (J6 J9 2) d:=λf d x=>by
   have:=j d x;rw[D,if_pos (by rw[f];decide),f] at this;exact this
  have z:Ah p=if(decide (p.key=⟨#[]⟩)||(p.gone&& !decide (p.val=⟨#[]⟩))) then 1 else if(decide (p.key.size>64)||decide (p.val.size>8192)) then 2 else 0:=rfl;have G:(decide (p.key=⟨#[]⟩)||(p.gone&& !decide (p.val=⟨#[]⟩)))=true->E (true,()) k:=λf=>F _ _ (ae.yes rfl (X (by rw[z,if_pos f]) k y))
  have H:(decide (p.key=⟨#[]⟩)||(p.gone&& !decide (p.val=⟨#[]⟩)))=false->E (false,()) k:=λf=>F _ _ (ae.no rfl (by
   refine ah.mk λI J=>?_
   have L:(decide (p.key.size>64)||decide (p.val.size>8192))=true->I (true,()) k:=λA=>J _ _ (ae.yes rfl (Y (by rw[z,if_neg (by rw[f];decide),if_pos A]) k y))
   have Z:(decide (p.key.size>64)||decide (p.val.size>8192))=false->I (false,()) k:=λA=>J _ _ (ae.no rfl (by
    have ab:Ah p=0:=by rw[z,if_neg (by rw[f];decide),if_neg (by rw[A];decide)]
    rw[Ab (by omega)];refine S (l.length-(i+1)) _ _ (by omega) ⟨i+1,rfl,rfl,r,y,?_⟩;rw[AE,af];exact ABP q ab))
   refine AL.mk (AO m rfl) (ae.intro (λg=>?_) (λg=>?_))
   ·have M:p.key.size>64:=by have:=of_decide_eq_true g;omega
    exact L (by simp[M])
   ·have M: ¬p.key.size>64:=by have:=of_decide_eq_false g;omega
    refine AL.mk (AB m rfl) ?_;by_cases N:p.val.size>8192
    ·rw[decide_eq_true (show((p.val.size:Int)>(8192:Int)) by omega)];exact L (by simp[N])
    ·rw[decide_eq_false (show ¬((p.val.size:Int)>(8192:Int)) by omega)];exact Z (by simp[N];omega)))
  refine AL.mk (AO m rfl) ?_;rw[Bj];refine ae.intro (λg=>?_) (λg=>?_)
  ·exact G (by rw[g];rfl)
  ·refine Aa.mk (AB m rfl) (ae.intro (λt=>?_) (λt=>?_))
   ·refine AL.mk (AB m rfl) ?_;rw[Bj];cases O:decide (p.val=(⟨#[]⟩:A31)) with
    |true=>exact H (by rw[g,t,O];rfl)
    |false=>exact G (by rw[g,t,O];rfl)
   ·exact H (by rw[g,t];rfl)
 ·have r:i=l.length:=by have:=of_decide_eq_false e;omega
  subst r;rw[CD] at q;have:=j d w;rwa [q] at this
section
variable {A : ao} {B : cX} {g h : aa} {q : Hp} {k : Nat -> Nat} {st : Db} {m : Bx} {D : YM} {bC c : Nat} {R : A30}
theorem AUO(a:bM g h q k st m)(b:R (J6 J9 (st.aJ:Int)) h):AA A P Iu #[Ar q.lg] h R:=by refine Oz ?_;unfold Lm;exact ae.no rfl (aA (AC.mk (AB a.log rfl) b))
theorem AKj {s:Sl}{l:List Pr}(Y:bL g)(ay:DN B g h q k st m D bC c)(a0:m.fuel= -1)(hA:bC+3<=B.A)(N:View Be h s l)(Z:l≠ []-> ∀b,s.ag=some b->b<h.size/\k b=0)(am:c+64<=B.C)
  (aa: ∀E O ab bF Q a1,O.d=q.d->O.b=q.b->DN B g E O ab bF Q a1 (bC+3) (c+64)->Q.fuel= -1->Dm bF=(if F5 l=0 then cu (Dm st) l else Dm st)->(∀ f,¬eo f->ff Q f=ff m f)->Mod (λc=>k c≠0) h E->(∀ c,ab c≠0->k c≠0\/h.size<=c)->R (J6 J9 (F5 l)) E):
  AA A P PL #[Ar q.d,J4 s.p s.len s.cap] h R:=by
 have bJ:=ay;obtain⟨v,an,F,G,ao,e⟩:=ay;have bK:=B.hA;have bN:=B.hC;have a2:=B.wt (a:=bC) (by omega);have bO:=G.aJ;refine ACG ?_;unfold Uo;refine ah.mk λK a3=>mo v (a3 _ _ (ae.no rfl ?_))
 refine AIj N λa4 H=>⟨_,rfl,?_⟩
 refine ae.intro (λw=>?_) (λw=>?_)
 ·have ac:F5 l≠0:=by simpa using w
  exact aa a4 q k st m D rfl rfl (DN.put ⟨v.on H,an,F,G,ao,e⟩ (by omega) (by omega) am) a0 (by rw[if_neg ac]) (λ_ _=>rfl) (H.ak λc _ e=>e.elim) λc e=> .inl e
 have ac:F5 l=0:=by simpa using w
 obtain⟨o,a5,ap⟩:=AN0 ac
 replace Z:=Z ap
 rw[ac,if_pos rfl] at aa;have I:=v.on H;refine aA (AY.mk (AB I.cell rfl) (aA (AY.mk (AB I.cell rfl) ?_)));refine AUO I ⟨_,rfl,⟨AB I.cell rfl,?_⟩⟩;refine AQo (by omega) o.len o.ok (N.ext H) (λb o=>by have:=(Z b o).1;have:=H.size;omega) λJ aq=>⟨_,rfl,⟨AB (I.on aq).cell rfl,?_⟩⟩
 have y:=I.on aq;have az:=H.trans aq;have bP:=az.size;have bQ:=ANv (s:=st.aJ) (by omega) o;have a6:(Ad (NU st.aJ l)).size=(NU st.aJ l).length:=AP _;refine AEl (y.ij Y) y.log y.box y.kP (λE x=>y.fK Y (x.ak λc _ e=> .inl e)) (by decide) (by omega) (by rw[a6];omega) (AK ao a2) λag n aC ai aD aE=>⟨_,rfl,?_⟩
 rw[show bl (Ad (NU st.aJ l))=NU st.aJ l from FO _] at aC ai ⊢;have a7:=ry v.box.aL (br nl st.aJ) (Ad (IZ (NU st.aJ l)));have bR:=(Ki (r:=NU st.aJ l) (by omega)).2;rw[AP] at a7;have a8: ∀c,n c->q.Sb c\/J.size<=c:=λc e=>(aE c e).imp id λh=>h.1
 obtain⟨a9,aF⟩:=rk an.goes (k:=br nl st.aJ) (d:=Ad (IZ (NU st.aJ l))) (AMU (by decide) (by omega));have aG:=Uw an (br nl st.aJ) (Ad (IZ (NU st.aJ l)));rw[a9] at ai ⊢;refine ae.no rfl ?_;rw[decide_eq_true rfl,JT] at ai;generalize (FI m (br nl st.aJ) (Ad (IZ (NU st.aJ l)))).2=ak at*
 have bS: ¬n q.lg:=λe=>by
  rcases aE _ e with h|h
  ·exact y.kP h
  ·exact h.2 rfl
 have u:=y.boxed (j:=3) (bF:= {st with bI:=true}) aC (aD.ak λc _ e=>e.imp id λh=> .inl ⟨rfl,h⟩) a8 rfl rfl rfl rfl (.inr ai) (.inl ⟨by decide,rfl⟩);have ba:Grow k (NJ k J.size n 2) J.size:=AKL;have aH: ∀c,NJ k J.size n 2 c≠0->k c≠0\/h.size<=c:=λc e=>by
  by_cases S:c<J.size
  ·rw[ba c S] at e;exact .inl e
  ·exact .inr (by omega)
 generalize NJ k J.size n 2=aI at*
 have aJ:Mod (λc=>k c≠0) h ag:=(Ext.mod az).trans (aD.ak λc _ e=>by
  rcases e with e|e
  ·rw[v.kb c e];decide
  ·rw[e,v.kl];decide)
 refine aA (AY.mk (AB u.cell rfl) ?_);refine AJQ (u.ij Y) u.log u.box u.kP (by decide) (by show st.aJ<=_;omega) λaK ar bT aL=>⟨_,rfl,?_⟩
 have aM:=aF (br nl st.aJ);rw[if_pos rfl] at aM;have ar:Dl aK q.b n (Kh ak (br nl st.aJ)).2:=ar;have bb:=nU u.box.aL (br nl st.aJ);have bc:bH ak.files<=B.W0+(bC+1)*B.K:=B.step (d:=600000) ao (by omega) (AKq B.C);show ae ((Kh ak (br nl st.aJ)).1 != 0) _ _;obtain⟨bd,aN⟩:=nP aG.goes aM;have aO:=WM aG (br nl st.aJ);rw[bd];refine ae.no rfl ?_;generalize (Kh ak (br nl st.aJ)).2=z at*
 have au: ∀f,f≠br nl st.aJ->ff z f=ff m f:=λf C=>by rw[aN,if_neg C,aF,if_neg C]
 have be:=u.boxed (j:=2) (bF:= {st with bI:=true}) ar (aL.ak λc _ e=> .inl e) (λc e=> .inl e) rfl rfl rfl rfl (.inl ⟨by decide,rfl,rfl⟩) (.inl ⟨by decide,rfl⟩);have bf:Mod (λc=>k c≠0) h aK:=aJ.then (aL.ak λc _ e=>aH c (by rw[u.kb c e];decide));have bg: ∀c,NJ aI ag.size n 2 c≠0->k c≠0\/h.size<=c:=λc e=>by
  by_cases S:c<ag.size
  ·rw[Ha S] at e;exact aH c e
  ·exact .inr (by have:=aJ.size;omega)
 generalize NJ aI ag.size n 2=bh at*
 have bU:=G.bX;have bV:=o.len;refine Loop.rule (λaP x T=> ∃(i:Nat) (U:List M.DZ) (V:Nat->Nat),x=((i:Int),())/\aP=l.length-i/\i<=l.length/\bM g T {q with Sb:=n,ns:=U} V {st with bI:=true,fr:=BF st.fr (l.take i)} z/\Mod (λc=>k c≠0) h T/\(∀ c,V c≠0->k c≠0\/h.size<=c)) ?_
  ⟨0,q.ns,bh,rfl,rfl,A6 _,be,bf,bg⟩
 rintro bW aP _ T ⟨i,U,V,rfl,rfl,hi,L,W,X⟩ aQ;dsimp only;have bi:=N.mod W λb o ap=>ap (Z b o).2
 have bX:=W.size;refine ae.intro (λw=>?_) (λw=>?_)
 ·have al:i<l.length:=by have:=of_decide_eq_true w;have:=N.len;omega
  have af:l[i]? =some l[i]:=A2 al;refine bi.idx af λa _ bj=>?_
  obtain⟨bk,bm,bn⟩:=bj.pair;refine AL.mk bk (AL.mk bm (Aa.mk bn (aj.pair λb bo _ av aR bY=>?_)));have aw:=L.on aR;refine aA (AY.mk (AB aw.cell rfl) ?_);refine AL.mk (AO av rfl) (AL.mk (AB av rfl) (Aa.mk (AB av rfl) ?_));have aS:=M.oW (l:=l.take i) (t:=st.fr);rw[AD] at aS;refine M.ASd (x:=l[i]) aw.fresh (by show(BF st.fr (l.take i)).length<_;omega) λbp bZ bq aT bs=>⟨_,rfl,?_⟩
  have bt:=aw.oX bq aT bs;rw[Ab (by omega)];refine aQ (l.length-(i+1)) _ _ (by omega) ⟨i+1,bp,_,rfl,rfl,al,by rw[M.ALA af];exact bt,(W.trans (Ext.mod aR)).then (aT.ak λc _ e=>X c (by rw[L.kf c e];decide)),λc e=>?_⟩;by_cases S:c<bo.size
  ·rw[Ha S] at e;exact X c e
  omega
 have al:i=l.length:=by have:=of_decide_eq_false w;have:=N.len;omega
 subst al;rw[CD] at L;clear aQ;have aU:Dm {st with bI:=true,fr:=BF st.fr l}=cu (Dm st) l:=AJk v.gj a5;have bu:j5 (ff z) {st with bI:=true,fr:=BF st.fr l}:=
  ⟨F.nd,λp aV=>⟨(F.below p aV).1,by rw[au _ λax=>UV _ _ ax.symm];exact(F.below p aV).2⟩,λbv bw=>by rw[au _ λax=>UV _ _ ax.symm];exact F.free bv bw,λ_=>by show ff z (br nl st.aJ)≠none;rw[aN,if_pos rfl];simp,F.bV⟩
 have aS:=M.oW (l:=l) (t:=st.fr);have aW:DN B g T {q with Sb:=n,ns:=U} V {st with bI:=true,fr:=BF st.fr l} z D (bC+1) (c+64):=
  ⟨L,aO,bu,⟨by show st.aJ<=_;omega,by have:=G.aX;show st.aX<=_;omega,by have:=G.next;show st.next<=_;omega,G.cA,by show(BF st.fr l).length+M.total (Cn st)<=_;omega⟩,AK bb bc,am⟩
 have aX: ∀f,¬eo f->ff z f=ff m f:=λf C=>au f (sG C _)
 refine ah.mk λb0 aY=>?_
 refine aA (AY.mk (AB L.cell rfl) ?_);refine M.sV L.fresh ⟨_,_,rfl,?_⟩;refine ae.intro (λbx=>?_) (λbx=>?_)
 ·refine ARF (q:= {q with Sb:=n,ns:=U}) Y aW (by omega) λE O ab bF Q bz bA S' bB bD bE bG=>⟨_,rfl,aY _ _ ?_⟩
  refine aa E O ab bF Q D bz bA S' S'.calm.2 (bB.trans aU) (λf C=>(bD f C).trans (aX f C)) (W.then (bE.ak λc _ e=>X c e)) λc e=>?_
  rcases bG c e with aZ|aZ
  ·exact X c aZ
  ·exact .inr (by omega)
 ·exact aY _ _ (aa T {q with Sb:=n,ns:=U} V _ z D rfl rfl (aW.put (by omega) (A0 _) am) aO.2 aU aX W X)
end
open M (Sorted Ac Bt BF Ae Ak BH Ah aY A7 aF Aw)
theorem ANR(key:A31): ∀ {l:List Pr},Sorted l->(Aw key l=true-> ∃p,l[aF key l]? =some p/\Ac key l=some p)/\(Aw key l=false->Ac key l=none)
 | [],_=>⟨(λh=>by cases h),λ_=>rfl⟩
 |x::l,s=>by
  have d:=List.pairwise_cons.1 s;have e:=ANR key d.2;rw[AD1,VI,M.BB];by_cases h:aG x.key key=true
  ·rw[if_pos h,if_pos h,if_neg (M.Lu h)];exact⟨λb=>by obtain⟨p,f,i⟩:=e.1 b;exact⟨p,by simpa using f,i⟩,e.2⟩
  ·rw[if_neg h,if_neg h];by_cases a:x.key=key
   ·rw[if_pos a];exact⟨λ_=>⟨x,rfl,rfl⟩,λj=>by simp[a] at j⟩
   ·rw[if_neg a];refine⟨λb=>by simp[a] at b,λ_=>M.EE λn o r=>h ?_⟩;have:=d.1 n o;rwa [r] at this
section
variable {A : ao} {B : cX} {g h : aa} {q : Hp} {k : Nat -> Nat} {st : Db} {m : Bx} {D : YM} {bC c : Nat} {R : A30}
theorem DN.gq(a:DN B g h q k st m D bC c):st.fr.length<=1000000/\st.ts.length<=100000/\(Ae (st.fr::Cn st)).length<=1099511627776/\(Dm st).length<=100000:=by have d:=a.lim.bX;have b:=M.UM (st.fr::Cn st);rw[M.AK2] at b;have e:=a.hc;have f:=B.hC;have i:=a.lim.cA;have j:(Dm st).length<=(Ae (st.fr::Cn st)).length:=sx _;omega
theorem DN.sorted(a:DN B g h q k st m D bC c):Sorted (Dm st):=Es _ _
end
section
variable {A : ao} {B : cX} {g h : aa} {q : Hp} {k : Nat -> Nat} {st : Db} {m : Bx} {D : YM} {bC c : Nat} {R : A30}
theorem DN.on {a:aa}(b:DN B g h q k st m D bC c)(x:Ext h a):DN B g a q k st m D bC c:= {b with mem:=b.mem.on x}
theorem DN.beside {a:aa}{b:Nat->Prop}(d:DN B g h q k st m D bC c)(x:Mod b h a)(hX: ∀c,b c->k c=0/\g.size<=c):DN B g a q k st m D bC c:= {d with mem:=d.mem.beside x hX}
theorem DN.free(a:DN B g h q k st m D bC c){x:Nat}(d:h.size<=x):k x=0:=Decidable.byContradiction λb=>by
 have:=(a.mem.own x b).2;omega
theorem DN.base(a:DN B g h q k st m D bC c){x:Nat}(d:x<g.size):k x=0:=Decidable.byContradiction λb=>by
 have:=(a.mem.own x b).1;omega
theorem AC8 {b:Nat}{j:Nat->Prop}{nm:A31}(n:bL h)(B:Dl h b j m)(hd:m.down=false)(e:m.files= [])(o:0<nm.size)(G:nm.size<=8)(p: ∀a d,Ext h a->h.size<=d->GN a d b nm 1 false->R (J1 #[Ar d,J4 none 0 0,J6 J9 0]) a):AA A P R4 #[Ar b,J7 nm] h R:=by
 refine AKe ?_;unfold wy;refine ae.no rfl (ah.mk λK r=>?_);have s:bD nm (⟨#[]⟩:A31)=false:=by rw[Bj,decide_eq_false_iff_not];rintro rfl;exact absurd o (by decide)
 rw[s];refine ae.no rfl (r _ _ (ae.no (by simp;omega) ?_));refine ABk n B hd (by omega) (by rw[e];decide) λt f l u v2 i _=>⟨f,_,rfl,ae.no rfl ?_⟩
 have v:l= []:=List.eq_nil_iff_forall_not_mem.2 λw x=>by
  have:=((u.mem w).1 x).2.2;rw[e] at this;cases this
 have y:f.len=0:=by rw[v2.len,v];rfl
 refine λH z=>z _ _ (ae.no (by rw[y];rfl) (ae.no rfl (aj.mk λC _ E F I=>?_)))
 exact p C t.size (i.trans F) i.size E
theorem AIy {b a:Nat}{j:Nat->Prop}{d:Array J0}(l:h[a]? =some (J2 d KF (0,0)))(n:d[0]? =some (Ar b))(B:Dl h b j m)(hd:m.down=false)(o:m.files= [])(p: ∀e,Ext h e->R (J6 J9 0) e):AA A P PI #[Ar a] h R:=by
 refine ACA ?_;unfold Uq;refine aA (AY.mk (AO l n) (xO B λs r i x f=>⟨s,_,rfl,?_⟩));have t:jI m=([],0):=by unfold jI;rw[hd,o];rfl
 rw[t] at i ⊢;have u:s.len=0:=i.len;exact ae.no rfl λK v=>v _ _ (ae.no (by rw[u];rfl) (p r x))
open Classical in
noncomputable def k0 (Sb:Nat->Prop) (nt ft a b:Nat):Nat->Nat:=λc=>if Sb c then 2 else if c=nt then 4 else if c=ft then 5 else if c=a then 1 else if c=b then 3 else 0
theorem AQM {b:Nat}{Sb:Nat->Prop}(N:bL g)(y:Dl h b Sb m)(z:Ext g h)(ag: ∀c,Sb c->g.size<=c)(n:Calm m)(o:m.files= [])
  (ai: ∀G H O Q I ak,H.b=b->DN B g G H O Q I ak 1 0->I.fuel= -1->Dm Q= []->(∀ r,¬eo r->ff I r=ff m r)->Mod Sb h G->(∀ c,O c≠0->Sb c\/h.size<=c)->R (J1 #[Ar H.d,J6 J9 0]) G):AA A P YI #[Ar b] h R:=by
 have al: ∀x,ff m x=none:=λx=>by unfold ff;rw[o];rfl
 have J: ∀c,Sb c->c<h.size:=λc a=>y.lt a
 refine AJn ?_;unfold w9;refine AC8 (nm:=nn) (N.ext z) y n.1 o (by decide) (by decide) λd nt S aK T=>⟨_,⟨none,0,0⟩,_,rfl,ae.no rfl ?_⟩
 refine M.sX λf am U aL=>⟨_,rfl,aj.mk λaM _ V C aN=>?_⟩
 have E:=(S.trans U).trans C;have aO:=S.size;have aP:=C.size;have aQ:nt<d.size:=Aj T;refine ah.mk λK an=>ae.no rfl (an _ _ ?_)
 refine AV.mk (s:=⟨none,0,0⟩) (AB V rfl) (λaR ao=>ao _ _ (ae.no rfl ?_));refine AC8 (nm:=nl) (N.ext (z.trans E)) (y.ext E) n.1 o (by decide) (by decide) λW e l aS X=>⟨_,⟨none,0,0⟩,_,rfl,ae.no rfl ?_⟩
 have ap:=Av l V;have aT:=l.size;refine ab.dx ap (by simp) λu v w aU=>?_
 have Y:Ext h u:=(E.trans l).then (w.ak λc _ a=> .inr (by omega));have Z:GN u e b nl 1 false:=X.mod w (by omega);have aa:Dl u b Sb m:=((y.ext E).ext l).mod w λc a aq=>by have:=J c a;omega
 have ar:GN u nt b nn 1 false:=((T.ext (U.trans C)).ext l).mod w (by omega);have au:M.cW u d.size [] []:=((am.ext C).ext l).mod w λc a aq=>by
  rcases a with rfl|⟨r,L,_⟩
  ·omega
  ·cases L
 refine λaV av=>av _ _ (AY.mk (AB v rfl) (AC.mk (AB v rfl) ?_))
 refine Oz ?_;unfold Lm;refine ae.no rfl (aA (AC.mk (AB Z rfl) ⟨_,rfl,AB v rfl,ae.no rfl λaW aw=>aw _ _ (ae.no rfl ?_)⟩));refine AIy v rfl aa n.1 o λac j=>⟨_,rfl,?_⟩
 have aX:e<W.size:=Aj X;have ax:=z.trans (Y.trans j);have aY:=z.size;have aZ:=j.size;have nS: ∀c,h.size<=c-> ¬Sb c:=λc a F=>by have:=J c F;omega
 have ay:k0 Sb nt d.size f.size e f.size=1:=by unfold k0;rw[if_neg (nS _ (by omega)),if_neg (by omega),if_neg (by omega),if_pos rfl]
 have az:k0 Sb nt d.size f.size e e=3:=by unfold k0;rw[if_neg (nS _ (by omega)),if_neg (by omega),if_neg (by omega),if_neg (by omega),if_pos rfl]
 have aC:k0 Sb nt d.size f.size e nt=4:=by unfold k0;rw[if_neg (nS _ (by omega)),if_pos rfl]
 have aD:k0 Sb nt d.size f.size e d.size=5:=by unfold k0;rw[if_neg (nS _ (by omega)),if_neg (by omega),if_pos rfl]
 have af: ∀c,k0 Sb nt d.size f.size e c≠0->Sb c\/(h.size<=c/\c<W.size):=λc a=>by
  unfold k0 at a;by_cases F:Sb c
  ·exact .inl F
  ·rw[if_neg F] at a;right;by_cases aE:c=nt
   ·omega
   ·by_cases aF:c=d.size
    ·omega
    ·by_cases aG:c=f.size
     ·omega
     ·by_cases aH:c=e
      ·omega
      ·rw[if_neg aE,if_neg aF,if_neg aG,if_neg aH] at a;exact absurd rfl a
 have aI:bM g ac ⟨f.size,b,e,nt,d.size,Sb,[],⟨none,0,0⟩,⟨none,0,0⟩,[]⟩ (k0 Sb nt d.size f.size e) ⟨[],[],1,1,1,1,false⟩ m:=by
  refine⟨by simpa [eQ] using Av j v,aa.ext j,Z.ext j,ar.ext j,au.ext j,Own.nil,rfl,λi t p d=>by simp at d,Own.nil,ay,λc a=>by unfold k0;exact if_pos a,az,aC,λc a=>?_,λc a=>by simp[Sl.ag] at a,λc a=>by simp[Sl.ag] at a,λc a=>?_,ax⟩
  ·rcases a with rfl|⟨r,L,_⟩
   ·exact aD
   ·cases L
  ·rcases af c a with h|h
   ·exact⟨ag c h,by have:=J c h;omega⟩
   ·omega
 refine ai ac ⟨f.size,b,e,nt,d.size,Sb,[],⟨none,0,0⟩,⟨none,0,0⟩,[]⟩ _ ⟨[],[],1,1,1,1,false⟩ m () rfl ⟨aI,n,⟨RR,(λp aJ=>by cases aJ),λa0 _=>al _,(λh=>by cases h),A0 _⟩,⟨by decide,by decide,by decide,by decide,by decide⟩,by rw[o];exact A6 _,A6 _⟩ n.2 rfl (λ_ _=>rfl) (Ext.mod (Y.trans j)) λc a=>?_
 exact(af c a).imp id λh=>h.1
end
abbrev kb:A31:=⟨#[98]⟩
abbrev v1:A31:=⟨#[49]⟩
abbrev v2:A31:=⟨#[50]⟩
open Go Go.ChangeShapes Go.WideShapes Go.ChangeAt Go.RowKit Go.Proofs.YtfiljlifdlfkkaaGreatDoor
def listed:List (String×DataW Unit):=Rows.worldSpreadsRow.laid
theorem AOZ: ∃(x c a b:String×DataW Unit),listed= [x,c,(oD,Lib.tabData .u64 Lib.pow10Tab),a,b]:=⟨_,_,_,_,rfl⟩
theorem AVU:P.globalNamed oD=some 0:=by kernel_rfl
theorem AU0:(P.globals[0]?).map (·.type)=some Ue:=by kernel_rfl
theorem AVT:P.underlying Ue=some (.array 20 lC):=by kernel_rfl
theorem AUZ:P.underlying lC=some (.int .u64):=by kernel_rfl
theorem AVf:P.cellsOf lC=1:=by kernel_rfl
theorem AVm:P.cellsOf Ue=20:=by kernel_rfl
theorem ALx:listed.filter (λx=>x.2.handleName?.isSome)= []:=by kernel_rfl
theorem qJ {b:World}(a:laidMetH P listed b):laidMet P listed b:=by unfold laidMetH at a;rw[ALx] at a;exact a
theorem ATI {c:World}(e:laidMetH P listed c):Lib.TabIs P c oD .u64 Lib.pow10Tab:=by have d:=qJ e;obtain⟨x,g,a,b,f⟩:=AOZ;rw[f] at d;exact Lib.tabIs_of_head (rest:= [a,b]) AVU AU0 AVT AUZ AVf AVm (laidMet.tail (laidMet.tail d))
theorem ATK {a:World}(c:laidMetH P listed a):cW a.heap:=λd e=>by
 have b:=ATI c;unfold Lib.TabIs World.var? at b ⊢;exact b
def nE : String := String.ofList [Char.ofNat 42] ++ "errors.errorString"
def xq:String:=Rows.worldSpreadsRow.named.getD 1 (String.ofList [])
def xt:String:=Rows.worldSpreadsRow.named.getD 0 (String.ofList [])
theorem AUy: ∃(x a z b:String×DataW Unit) (text:List UInt8),listed= [x,a,z,(xq,.iface nE (.ptr (.agg [.lit (.string text)]))),b]:=⟨_,_,_,_,_,rfl⟩
theorem AT5: ∃(x a z b:String×DataW Unit) (text:List UInt8),listed= [x,a,z,b,(xt,.iface nE (.ptr (.agg [.lit (.string text)])))]:=⟨_,_,_,_,_,rfl⟩
theorem AVi:P.globalNamed xq=some 4:=by kernel_rfl
theorem AVI:P.globalNamed xt=some 3:=by kernel_rfl
theorem AUT:(P.globals[4]?).map (·.type)=some nD:=by kernel_rfl
theorem AT3:(P.globals[3]?).map (·.type)=some nD:=by kernel_rfl
theorem AVg: ∃a,P.underlying nD=some (.interface a):=⟨_,Proofs.Tryz.underlying348⟩
theorem AUG(u:Q7)(a:P.typeName? 3 u=some nE):u=EU:=
 typeName_ptr_named (nm := "errors.errorString") (by kernel_rfl) (by kernel_rfl) (by decide) u a
theorem AVQ:P.underlying EU=some (.pointer Ew):=by kernel_rfl
theorem AV1: ∃f:Field,P.underlying Ew=some (.struct #[f])/\f.type=A9/\f.offset=0:=⟨_,Proofs.Tryz.underlying437,rfl,rfl⟩
theorem AV0:P.cellsOf Ew=1:=by kernel_rfl
theorem xu {b:String}{text:List UInt8}{h:List (String×DataW Unit)}{a:World}{g:Nat}(i:laidMet P ((b,.iface nE (.ptr (.agg [.lit (.string text)])))::h) a)(c:P.globalNamed b=some g)(j:(P.globals[g]?).map (·.type)=some nD):kH a.heap g:=by
 obtain⟨o,hi⟩:=AVg;obtain⟨f,k,l,m⟩:=AV1;obtain⟨d,p,n,_,_,_⟩:=laid_sentinel i c j hi AUG AVQ k l m AUl AV0 AVz;have e:a.cell? ⟨g,0,none⟩=some (.iface EU (.pointer (some d))):=by simpa using World.var?_cell c n 0
 refine⟨.iface EU (.pointer (some d)),?_,.inr ⟨_,_,rfl⟩⟩;unfold af;unfold World.cell? at e;exact e
theorem AUX {d:World}(b:laidMetH P listed d):bL d.heap:=by
 refine⟨ATK b,?_,?_⟩
 ·have a:=qJ b;obtain⟨x,e,z,f,t,c⟩:=AT5;rw[c] at a;exact xu (laidMet.tail (laidMet.tail (laidMet.tail (laidMet.tail a)))) AVI AT3
 ·have a:=qJ b;obtain⟨x,e,z,f,t,c⟩:=AUy;rw[c] at a;exact xu (laidMet.tail (laidMet.tail (laidMet.tail a))) AVi AUT
def AKR:DataW Unit->Array J0
 | .agg ds=>(ds.map λ| .lit (.int a z)=>Value.int a z|_=> .bool false).toArray
 |_=> #[]
def fill(a:DataW Unit):Obj->Obj
 | .cells _ t frozen=> .cells (AKR a) t frozen
 |o=>o
def iS(b:Nat):Obj->Obj
 | .cells _ t frozen=> .cells #[.iface EU (.pointer (some ⟨b,0,none⟩))] t frozen
 |o=>o
abbrev ASW:A31:=⟨#[118,97,108,117,101,32,111,117,116,32,111,102,32,114,97,110,103,101]⟩
abbrev ASt:A31:=⟨#[105,110,118,97,108,105,100,32,115,121,110,116,97,120]⟩
noncomputable def low:Nat:=(World.holding P default ⟨#[],#[],[]⟩).heap.size
noncomputable def qK (os:Os):World:=
 let a:=World.holding P os ⟨#[.cells #[.string ASW] Ew,.cells #[.string ASt] Ew],#[],[]⟩
 {a with heap:=((((a.heap.modify 0 (fill Rows.laid_internal_strconv_uint64pow10)).modify 1 (fill Rows.laid_math_bits_deBruijn32tab)).modify 2 (fill Rows.laid_math_bits_deBruijn64tab)).modify 4 (iS low)).modify 3 (iS (low+1))}
theorem AKH(os:Os)(args:Array J0):laidMet P listed ((qK os).forCall (λ_ _=>0) ⟨#[],args,[]⟩).memory:=
 laidMet_of_run' 8 (by kernel_rfl) (by kernel_rfl)
end Go.Lf.G
namespace Go.Lf.G.M
open Go Go.ChangeShapes Go.WideShapes Go.ChangeAt Go.RowKit Go.Proofs.YtfiljlifdlfkkaaGreatDoor
def lB(a:World):ao:=⟨a.tape,a.os,a.output⟩
section
variable {H : Type} {enc : Q7 × J0 -> H} {w : World} {base : Nat} {spare : Nat -> Bool} {held : Bool}
instance:Inhabited Pr:=⟨⟨⟨#[]⟩,⟨#[]⟩,false⟩⟩
instance:Inhabited Sl:=⟨⟨none,0,0⟩⟩
end
end Go.Lf.G.M
namespace Go.Lf.G
open Go
open M (Sorted Ac Bt BF Ae Ak BH Ah aY A7 aF Aw)
structure AVP where
 kind:Int
 bs:Sl
 key:A31
 til:A31
 most:Int
 ks:Sl
structure AV3 (N:Nat) (h:aa) (x:AVP) (l:List Pr) (ks:List Int):Prop where
 bs:View Be h x.bs l
 ks:View GI h x.ks ks
 key:x.key.size<=N
theorem ATa {e:Type}{d:cr e}{h:aa}{s:Sl}{l:List e}(v:View d h s l)(f:l≠ []){b:Nat}(i:s.ag=some b):b<h.size:=by
 cases l with
 |nil=>exact absurd rfl f
 |cons x l=>
  obtain⟨a,j,n⟩:=v.cells 0 x rfl;have p:=d.pos;have r:=d.len x;obtain⟨u,o⟩: ∃u,(d.enc x)[0]? =some u:=⟨_,A2 (by omega)⟩;have:=ZH (n 0 u o);rw[aQ,aQ] at this;have t:a.block=b:=by simpa [Sl.ag,j] using i
  omega
section
variable {A : ao} {B : cX} {g h : aa} {q : Hp} {k : Nat -> Nat} {st : Db} {m : Bx} {D : YM} {bC c : Nat} {R : A30}
theorem DN.args(a:DN B g h q k st m D bC c){s:Sl}{l:List Pr}(v:View Be g s l):l≠ []-> ∀b,s.ag=some b->b<h.size/\k b=0:=λd b e=>by
 have f:=ATa v d e;have:=a.mem.ext.size;exact⟨by omega,a.base f⟩
end
open Go Go.ChangeShapes Go.WideShapes Go.ChangeAt Go.RowKit Go.Proofs.YtfiljlifdlfkkaaGreatDoor
section
variable {H : Type} {enc : Q7 × J0 -> H} {w : World} {base : Nat} {spare : Nat -> Bool} {held : Bool}
end
section
variable {H : Type} {enc : Q7 × J0 -> H} {w : World} {base : Nat} {spare : Nat -> Bool} {held : Bool}
end
theorem tB:Qr P BX A9 Ih.w 16=true:=by kernel_rfl
theorem ju:P.underlying Ai=some (.float .f64):=by kernel_rfl
theorem Xu:P.underlying BL=some (.int J9):=by kernel_rfl
theorem AQR {o:ao}{d:aa}{key:A31}{h:A30}(t:key.size<=1099511627776)(p:h (J1 #[.int .u32 (RD key:Int),.int .u32 (Jr key:Int)]) d):AA o P KM #[J7 key] d h:=by
 refine Wu ?_;unfold Pk;refine Loop.rule (λm x j=> ∃i:Nat,x=(((QT (key.data.toList.take i)).1:Int),((QT (key.data.toList.take i)).2:Int),(i:Int),())/\j=d/\m=key.size-i/\i<=key.size) ?_ ⟨0,rfl,rfl,rfl,by omega⟩;rintro K m _ j ⟨i,rfl,e,rfl,hi⟩ q;subst e;obtain⟨f,k⟩:=Ze (key.data.toList.take i);refine ae.intro (λg=>?_) (λg=>?_)
 ·have a:i<key.size:=by simpa using g
  obtain⟨c,l⟩:=AGo a;have n:c.toNat<256:=c.toNat_lt;refine⟨⟨by dsimp only;omega,by dsimp only;omega⟩,⟨by dsimp only;omega,by dsimp only;omega⟩,?_⟩;dsimp only;rw[Sg l,AT8 f n,AU5 k n,Ab (by omega)];refine q (key.size-(i+1)) _ _ (by omega) ⟨i+1,?_,rfl,rfl,a⟩;rw[AE,l,E0,Xt]
 ·have a:i=key.size:=by simp at g;omega
  have e:key.data.toList.take i=key.data.toList:=As (by simp[a]);dsimp only;rw[e] at f k ⊢;have r:dK .u64 (((QT key.data.toList).2:Nat):Int) (1:Int)=((Jr key:Nat):Int):=ox (by omega) (b:=1) (by decide);have s:=rP key;rw[r,wrap_u32,wrap_u32,A5 f,A5 s];exact p
theorem mJ:VR 0 0:=ze false
theorem vr1:VR 4607182418800017408 1:=by
 have a:=VW (n:=1) (by decide);have b:floatOfInt .f64 1=4607182418800017408:=by kernel_rfl
 rwa [b] at a
theorem AVx:VR 13830554455654793216 (-1):=by
 have a:=VW (n:= -1) (by decide);have b:floatOfInt .f64 (-1)=13830554455654793216:=by kernel_rfl
 rwa [b] at a
theorem pa:VR 4652218415073722368 1024:=by
 have a:=VW (n:=1024) (by decide);have b:floatOfInt .f64 1024=4652218415073722368:=by kernel_rfl
 rwa [b] at a
theorem tC:VR 13875590451928498176 (-1024):=by
 have a:=VW (n:= -1024) (by decide);have b:floatOfInt .f64 (-1024)=13875590451928498176:=by kernel_rfl
 rwa [b] at a
theorem tD {n:ao}{h:aa}{t:Q7}{o p:Operand}{a b c i:Nat}{d m x e:Int}{K:A30}(j:VR a d)(k:VR b m)(l:VR c x)(hd:VR i e)
  (D:(d*x).natAbs<=4096) (E:(m*e).natAbs<=4096) (F:(d*e).natAbs<=4096) (G:(m*x).natAbs<=4096) (q: ∀g f,VR g (d*x-m*e)->VR f (d*e+m*x)->K (.complex .f64 g f) h):
  Af n P (rK .mul t o p a b c i) h K:=by
 obtain⟨H,r,v1⟩:=j.mul l (by omega);obtain⟨I,s,v2⟩:=k.mul hd (by omega);obtain⟨g,u,v⟩:=v1.sub v2 (by omega);obtain⟨J,w,y⟩:=j.mul hd (by omega);obtain⟨L,z,A⟩:=k.mul l (by omega);obtain⟨f,B,C⟩:=y.add A (by omega);exact ASr r s u w z B (q g f v C)
theorem pb {k:ao}{b:aa}{name:A31}{h:A30}(l:name.size<=1099511627776)(o: ∀p,CP p (Hl name)->h (.complex .f64 p.1 p.2) b):AA k P Lg #[J7 name] b h:=by
 refine AFm ?_;unfold Zi;refine oF l ⟨_,_,rfl,?_⟩;have g1:=YT name;have H:=rP name;have I:Jr name / 2^7<=Jr name:=HN _ _;have q:=Vr name;have r:Mr .u32 (RD name:Int) ((Jr name:Int).fdiv ((2:Int)^(7:Nat)))=((RD name ^^^ (Jr name / 128):Nat):Int):=by rw[PG,QF g1 (by omega)]
 have s:J8 J9 ((Mr .u32 (RD name:Int) ((Jr name:Int).fdiv ((2:Int)^(7:Nat)))).tmod (4096:Int))=((Hl name:Nat):Int):=by rw[r,show((RD name ^^^ (Jr name / 128):Nat):Int).tmod (4096:Int)=((Hl name:Nat):Int) from(GW _ 4096).symm,FD (by omega)]
 rw[s];generalize Hl name=t at*
 have u:((t:Nat):Int).tmod (1024:Int)=((t % 1024:Nat):Int):=(GW t 1024).symm;have v:J8 J9 (((t:Nat):Int).tdiv (1024:Int))=((t / 1024:Nat):Int):=by rw[show((t:Nat):Int).tdiv (1024:Int)=((t / 1024:Nat):Int) from(LO t 1024).symm,FD (by omega)]
 rw[u,v,wrap_i64 (by omega) (by omega)];refine om Xu ju ⟨_,rfl,om Xu ju ⟨_,rfl,AL8 ⟨(_,_),rfl,?_⟩⟩⟩;have w:t % 1024<1024:=By _ (by decide);have v1:=VW (n:=(1024:Int)-((t % 1024:Nat):Int)) (by omega);have v2:=VW (n:=((t % 1024:Nat):Int)) (by omega);obtain⟨y,z⟩:=zr w;refine Loop.rule (λm x i=> ∃(a:Nat) (p:Nat×Nat),x=(p,(a:Int),())/\i=b/\m=t / 1024-a/\a<=t / 1024/\VR p.1 (px (t % 1024+1024*a))/\VR p.2 (py (t % 1024+1024*a))) ?_
  ⟨0,_,rfl,rfl,rfl,by omega,by rw[Nat.mul_zero,CT,z];exact v1,by rw[Nat.mul_zero,CT,y];exact v2⟩
 rintro K m _ i ⟨a,p,rfl,c,rfl,J,d,e⟩ A;subst c;refine ae.intro (λg=>?_) (λg=>?_)
 ·have j:a<t / 1024:=by have b:((a:Nat):Int)<((t / 1024:Nat):Int):=of_decide_eq_true g;omega
  have B:t % 1024+1024*a<3072:=by omega
  obtain⟨L,M,N,O⟩:=rQ (t:=t % 1024+1024*a) (by omega);refine tD d e mJ vr1 (by simp) (by simp;omega) (by simp;omega) (by simp) λc f C D=>⟨(c,f),rfl,?_⟩
  obtain⟨E,F⟩:=zo B;refine A (t / 1024-(a+1)) _ _ (by omega) ⟨a+1,_,by rw[Ab (by omega)],rfl,rfl,j,?_,?_⟩
  ·rw[show t % 1024+1024*(a+1)=t % 1024+1024*a+1024 by omega,E];simpa using C
  ·rw[show t % 1024+1024*(a+1)=t % 1024+1024*a+1024 by omega,F];simpa using D
 ·have j:a=t / 1024:=by have b: ¬((a:Nat):Int)<((t / 1024:Nat):Int):=of_decide_eq_false g;omega
  have G:t % 1024+1024*a=t:=by omega
  rw[G] at d e;exact o p ⟨q,d,e⟩
theorem tE {c:ao}{a:aa}{name:A31}{b:A30}(d:name.size<=1099511627776)(e:b (J6 J9 (Hl name:Int)) a):AA c P Gw #[J7 name] a b:=by
 refine Ul ?_;unfold Nu;refine AQR d ⟨_,_,rfl,?_⟩;have g1:=YT name;have g:=rP name;have h:Jr name / 128<=Jr name:=HN _ _;have i:=Vr name;have f:J8 J9 ((Mr .u32 (RD name:Int) (J8 .u32 ((Jr name:Int).tdiv (128:Int)))).tmod (4096:Int))=((Hl name:Nat):Int):=by
  rw[show((Jr name:Nat):Int).tdiv (128:Int)=((Jr name / 128:Nat):Int) from(LO _ 128).symm,wrap_u32,A5 (by omega),QF g1 (by omega),
   show((RD name ^^^ (Jr name / 128):Nat):Int).tmod (4096:Int)=((Hl name:Nat):Int) from(GW _ 4096).symm,FD (by omega)]
 rw[f];exact e
theorem tF {v:ao}{e:aa}{p:Nat×Nat}{t:Nat}{i:A30}(w:CP p t)(y:i (J6 J9 (t:Int)) e):AA v P WH #[.complex .f64 p.1 p.2] e i:=by
 obtain⟨F,z,A⟩:=w;refine ALm ?_;unfold we;refine Loop.rule (λm x c=> ∃(s:Nat) (q:Nat×Nat),x=(q,((t-s:Nat):Int),())/\c=e/\m=s/\s<=t/\VR q.1 (px s)/\VR q.2 (py s)) ?_ ⟨t,p,by simp,rfl,rfl,by omega,z,A⟩;rintro K m _ c ⟨s,q,rfl,b,em,G,j,g⟩ B;subst b;obtain rfl:s=m:=em.symm;obtain⟨H,I,J,L⟩:=rQ (t:=s) (by omega);have h:=AK4 (t:=s) (by omega);refine ah.mk λk l=>?_
 have more:1024<=s->k (true,()) c:=λa=>l _ _ (ae.yes rfl (by
  refine tD j g mJ AVx (by simp) (by simp;omega) (by simp;omega) (by simp) λb f n o=>⟨(b,f),rfl,?_⟩
  obtain⟨C,D⟩:=zo (t:=s-1024) (by omega);rw[show s-1024+1024=s by omega] at C D;dsimp only;refine B (s-1024) _ _ (by omega) ⟨s-1024,(b,f),?_,rfl,rfl,by omega,?_,?_⟩
  ·rw[wrap_i64 (by omega) (by omega),show((t-s:Nat):Int)+1024=((t-(s-1024):Nat):Int) by omega]
  ·have:px s*0-py s* -1=px (s-1024):=by omega
   rw[this] at n;exact n
  ·have:px s* -1+py s*0=py (s-1024):=by omega
   rw[this] at o;exact o))
 have done:s<1024->k (false,()) c:=λa=>l _ _ (ae.no rfl (by
  refine rL ⟨_,rfl,rM ju Xu (g.toInt (by omega)) ⟨_,rfl,?_⟩⟩;obtain⟨E,_⟩:=zr a;dsimp only;rw[E,wrap_i64 (by omega) (by omega),show((t-s:Nat):Int)+(s:Int)=(t:Int) by omega];exact y))
 refine zk ⟨_,rfl,ASN ⟨_,rfl,?_⟩⟩;rw[j.order mJ];refine ae.intro (λd=>?_) (λd=>?_)
 ·have r:0<px s:=by
   have:compare (px s) 0= .gt:=by simpa using d
   exact lN.1 this
  refine rL ⟨_,rfl,rJ ⟨_,rfl,?_⟩⟩;rw[g.order mJ];by_cases u:0<=py s
  ·have b:(some (compare (py s) 0)==some Ordering.gt||some (compare (py s) 0)==some Ordering.eq)=true:=by
    rcases ON u with a|a
    ·rw[lN.2 a];rfl
    ·rw[cmp_eq.2 a.symm];rfl
   rw[b];exact done (h.1 ⟨r,u⟩)
  ·have b:(some (compare (py s) 0)==some Ordering.gt||some (compare (py s) 0)==some Ordering.eq)=false:=by rw[rG.2 (by omega)];rfl
   rw[b];exact more (by rcases CC s 1024 with a|a;exact absurd (h.2 a).2 (by omega);exact a)
 ·have r: ¬0<px s:=by intro a;rw[lN.2 a] at d;simp at d
  exact more (by rcases CC s 1024 with a|a;exact absurd (h.2 a).1 (by omega);exact a)
theorem tG {x a:Int}(c:a<=x):(some (compare x a)==some Ordering.gt||some (compare x a)==some Ordering.eq)=true:=by
 rcases ON c with b|b
 ·rw[lN.2 b];rfl
 ·rw[cmp_eq.2 b.symm];rfl
theorem tH {x a:Int}(c:x<=a):(some (compare x a)==some Ordering.lt||some (compare x a)==some Ordering.eq)=true:=by
 rcases ON c with b|b
 ·rw[rG.2 b];rfl
 ·rw[cmp_eq.2 b];rfl
theorem tI {x:Int}:(some (compare x x) != some Ordering.eq)=false:=by rw[cmp_eq.2 rfl];rfl
theorem tJ {f:ao}{c:aa}{p:Nat×Nat}{t:Nat}{d:A30}(g:CP p t)(h:d (J3 true) c):AA f P OO #[.complex .f64 p.1 p.2] c d:=by
 obtain⟨e,a,b⟩:=g;obtain⟨i,j,k,l⟩:=rQ e;have m:=AOW e;refine AFX ?_;unfold Yy;refine zk ⟨_,rfl,rL ⟨_,rfl,ah.mk λK o=>?_⟩⟩;have key:K (false,()) c:=o _ _ (ae.no rfl (by
  refine zl a a.neg λx v1=>⟨_,rfl,zl b b.neg λy v2=>⟨_,rfl,?_⟩⟩
  obtain⟨z,q,r⟩:=v1.add v2 (by omega);refine ASb q ⟨_,rfl,ASS ⟨_,rfl,?_⟩⟩;rw[r.order pa,m,cmp_eq.2 rfl];exact h))
 have s:=a.toInt (by omega);have u:=b.toInt (by omega);have v:=VW (n:=px t) (by omega);have w:=VW (n:=py t) (by omega);refine rJ ⟨_,rfl,?_⟩;rw[a.order tC,tG i];refine ae.yes rfl (zi ⟨_,rfl,?_⟩);rw[a.order pa,tH j];refine ae.yes rfl (rJ ⟨_,rfl,?_⟩);rw[b.order tC,tG k];refine ae.yes rfl (zi ⟨_,rfl,?_⟩);rw[b.order pa,tH l];refine ae.no rfl (rM ju Xu s ⟨_,rfl,om Xu ju ⟨_,rfl,zj ⟨_,rfl,?_⟩⟩⟩);rw[a.order v,tI];refine ae.no rfl (rM ju Xu u ⟨_,rfl,om Xu ju ⟨_,rfl,zj ⟨_,rfl,?_⟩⟩⟩);rw[b.order w,tI];exact key
theorem tK {e:ao}{c:aa}{p q:Nat×Nat}{s t:Nat}{d:A30}(a:CP p s)(b:CP q t)(f:d (J6 J9 (oy s t:Int)) c):AA e P Pw #[.complex .f64 p.1 p.2,.complex .f64 q.1 q.2] c d:=by
 refine AHp ?_;unfold vX;refine ah.mk λK g=>?_
 refine tJ a ⟨_,rfl,ae.no rfl (tJ b ⟨_,rfl,g _ _ (ae.no rfl ?_)⟩)⟩;refine tF b ⟨_,rfl,tF a ⟨_,rfl,?_⟩⟩;have i:=a.1;have j:=b.1;have h:(J8 J9 ((J8 J9 ((t:Int)-(s:Int)))+(4096:Int))).tmod (4096:Int)=((oy s t:Nat):Int):=by rw[wrap_i64 (n:=(t:Int)-(s:Int)) (by omega) (by omega),wrap_i64 (by omega) (by omega),show(t:Int)-(s:Int)+4096=((t+4096-s:Nat):Int) by omega];exact(GW _ 4096).symm
 rw[h];exact f
end Go.Lf.G
