/-
 What a store tells (chapter 9): plain law: batches, tables one behind the other, what lives.
-/
import Derived.Test.YtfiljlifdlfkkaaGreatDoorLfY7ToZ1
import Derived.Test.YtfiljlifdlfkkaaGreatDoorLfU2ToX2
import Derived.Test.YtfiljlifdlfkkaaGreatDoorLfAToN1
import Derived.Lib.AppendZerosOnto
import Derived.Lib.Overlaps
import Derived.Laws.IdiomCopy
import Derived.Laws.Externs
import Derived.Test.YtfiljlifdlfkkaaGreatDoorCards
import Derived.Test.YtfiljlifdlfkkaaGreatDoorTie
import Derived.Deep.DeepHandedRow
import Derived.Lib.LaidTab
import Derived.Stop.LaidErr
import Derived.Test.YtfiljlifdlfkkaaGreatDoorRows
import Derived.WalkKit
import Derived.ProofKit
import Derived.OpenShut
import Derived.JoinedCond
import Derived.Deep.Slices
import Derived.Carry
import Derived.Test.YtfiljlifdlfkkaaGreatDoorLfG1
import Derived.Test.YtfiljlifdlfkkaaGreatDoorLfKToGA
set_option maxRecDepth 100000
set_option linter.unusedVariables false
set_option linter.unusedSimpArgs false
open Go.IntKind renaming i64→J9,wrap→J8
open Go.Value renaming string→J7,int→J6,pointer→J5,slice→J4,bool→J3,tuple→J1
open Go.Obj renaming cells→J2
open Go renaming Value→J0,Addr→Q6,TypeId→Q7,FuncId→Q8,Program→Q1
open Go.Addr renaming add→Q9,mk→Q5
namespace Go.Lf.G
open Go
open M (Sorted Ab Bw BJ Af Ak BN Ah ba BB aH Az Zq)
theorem AS5 {x:Pr}(a:NA x):Ah x=0:=by
 have c:x.key≠(⟨#[]⟩:A2Y):=λd=>a.key (by rw[d];rfl)
 have f:=a.bC;have g:=a.bY;unfold M.Ah;rw[if_neg ?_,if_neg ?_]
 ·simp only[CI,decide_eq_true_eq];omega
 ·simp only[CI,A3,decide_eq_true_eq,Cd,decide_eq_false_iff_not];rintro(b|⟨b,e⟩)
  ·exact c b
  ·exact e (sO (a.gone b))
theorem p8 {x:Pr}(a:Ah x=0):NA x:=by
 unfold M.Ah at a;split at a
 ·cases a
 ·rename_i b;split at a
  ·cases a
  ·rename_i c;simp only[CI,A3,decide_eq_true_eq,Cd,decide_eq_false_iff_not,not_or,not_and,Decidable.not_not] at b c;refine⟨λd=>b.1 (sO d),by omega,by omega,λe=>?_⟩;rw[b.2 e];rfl
theorem ASU {l:List Pr}(a: ∀x∈l,NA x):BN l:=λx b=>AS5 (a x b)
theorem AHH(a:A2Y): ∀ {b t:List Pr},Sorted t->BN b->Ab a (BJ t b)=(Ab a b.reverse).or (Ab a t)
 | [],t,_,_=>rfl
 |x::b,t,s,g=>by
  have d:=g x (by simp);show Ab a (BJ (Bw x t) b)=_;rw[AHH a (M.Qq s) λe f=>g e (AH _ f),SP,M.MV,M.SV d,M.ZP x a s,M.BG];cases Ab a b.reverse with
  |some p=>rfl
  |none=>
   by_cases c:x.key=a
   ·rw[if_pos c,if_pos c];rfl
   ·rw[if_neg c,if_neg c];rfl
def alive(a:Option Pr):Option Pr:=a.filter λp=> !p.gone
theorem IX(x:Pr):alive (some x)=if x.gone then none else some x:=by unfold alive;cases a:x.gone<;>simp[Option.filter,a]
theorem sT(a:A2Y): ∀ {l:List Pr},Sorted l->Ab a (BB l)=alive (Ab a l)
 | [],_=>rfl
 |x::l,s=>by
  have e:=List.pairwise_cons.1 s;have c:=sT a e.2;unfold M.BB at c ⊢;rw[AS,M.BG];by_cases b:x.key=a
  ·rw[if_pos b];cases d:x.gone with
   |false=>rw[if_pos (by rfl),M.BG,if_pos b,IX,d];rfl
   |true=>
    rw[if_neg (by simp),c];have:Ab a l=none:=M.EQ λf g h=>M.Mk (e.1 f g) (b.trans h.symm)
    rw[this,IX,d];rfl
  ·rw[if_neg b];cases d:x.gone with
   |false=>rw[if_pos (by rfl),M.BG,if_neg b];exact c
   |true=>rw[if_neg (by simp)];exact c
theorem WS {l:List Pr}(s:Sorted l):Sorted (BB l):=s.sublist GS
def OH(fr:List Pr)(ts:List (List Pr)):List Pr:=BB (Af (fr::ts))
theorem FM(fr:List Pr)(ts:List (List Pr)):Sorted (OH fr ts):=WS (M.EI _)
theorem Gx(a:A2Y){fr:List Pr}{ts:List (List Pr)}(b:ba (fr::ts)):Ab a (OH fr ts)=alive ((Ab a fr).or (Ak a ts)):=by unfold OH;rw[sT a (M.EI _),M.MI a b,M.EX]
def eN(m:List Pr)(p:Pr):List Pr:=m.take (aH p.key m)++(if p.gone then [] else [p])++m.drop (if Az p.key m then aH p.key m+1 else aH p.key m)
def cu(m b:List Pr):List Pr:=b.foldl eN m
theorem Vt(a:A2Y)(x:Pr)(l:List Pr):aH a (x::l)=if aI x.key a then aH a l+1 else 0:=by unfold M.aH M.gS;rw[MD];split<;>simp
theorem AEq(a:A2Y)(x:Pr)(l:List Pr):Az a (x::l)=if aI x.key a then Az a l else decide (x.key=a):=by unfold M.Az;rw[Vt];by_cases b:aI x.key a=true<;>simp[b]
def jV(a:A2Y)(l:List Pr):List Pr:=l.filter λq=> !decide (q.key=a)
theorem AOD {k:A2Y}: ∀ {l:List Pr},Sorted l->l.take (aH k l)++l.drop (if Az k l then aH k l+1 else aH k l)=jV k l
 | [],_=>by simp[jV]
 |x::l,s=>by
  have c:=List.pairwise_cons.1 s;have d:=AOD (k:=k) c.2;unfold jV at d ⊢;rw[Vt,AEq,AS];by_cases a:aI x.key k=true
  ·have i:x.key≠k:=M.Mk a;have j:(!decide (x.key=k))=true:=by simp[i]
   simp only[a,if_true,j,I0,Dd];rw[<- d];cases n:Az k l<;>simp
  ·rw[if_neg a,if_neg a,I3,CT];have e:l.filter (λq=> !decide (q.key=k))=l:=by
    refine List.filter_eq_self.2 λf m=>?_
    have g:=c.1 f m;by_cases h:f.key=k
    ·rw[h] at g;exact absurd g a
    ·simp[h]
   by_cases b:x.key=k
   ·rw[if_pos (by simp[b]),if_neg (by simp[b]),e];rfl
   ·rw[if_neg (by simp[b]),if_pos (by simp[b]),e];rfl
theorem sV {m:List Pr}(s:Sorted m)(p:Pr):eN m p=if p.gone then jV p.key m else M.ins p m:=by
 unfold eN;cases a:p.gone with
 |true=>simp only[if_true,AI];exact AOD s
 |false=>
  simp only[BW,if_false];have:=M.mQ p m;unfold M.Zq at this;exact this
theorem AQZ(b c:A2Y)(m:List Pr):Ab b (jV c m)=if c=b then none else Ab b m:=by
 unfold jV
 induction m with
 |nil=>split<;>rfl
 |cons x m f=>
  rw[AS,M.BG];by_cases d:x.key=c
  ·rw[if_neg (by simp[d]),f];by_cases a:c=b
   ·rw[if_pos a,if_pos a]
   ·rw[if_neg a,if_neg a,if_neg (λe=>a (d.symm.trans e))]
  ·rw[if_pos (by simp[d]),M.BG,f];by_cases a:x.key=b
   ·rw[if_pos a,if_pos a,if_neg (λe=>d (a.trans e.symm))]
   ·rw[if_neg a,if_neg a]
theorem Ku {m:List Pr}(s:Sorted m)(p:Pr):Sorted (eN m p):=by
 rw[sV s];split
 ·exact s.sublist GS
 ·exact M.Yj p s
theorem QY {m:List Pr}(s:Sorted m)(p:Pr)(a:A2Y):Ab a (eN m p)=if p.key=a then alive (some p) else Ab a m:=by
 rw[sV s];cases b:p.gone with
 |true=>rw[if_pos rfl,AQZ,IX,b];rfl
 |false=>rw[if_neg (by simp),M.ZP p a s,IX,b];rfl
theorem AEg: ∀ {b m:List Pr},Sorted m->Sorted (cu m b)
 | [],_,s=>s
 |p::b,m,s=>AEg (b:=b) (Ku s p)
theorem p9(a:A2Y): ∀ {b m:List Pr},Sorted m->Ab a (cu m b)=match Ab a b.reverse with|some p=>alive (some p)|none=>Ab a m
 | [],_,_=>rfl
 |p::b,m,s=>by
  show Ab a (cu (eN m p) b)=_;rw[p9 a (Ku s p),SP,M.MV,M.BG];cases Ab a b.reverse with
  |some q=>rfl
  |none=>
   rw[QY s];by_cases c:p.key=a
   ·rw[if_pos c,if_pos c];rfl
   ·rw[if_neg c,if_neg c];rfl
theorem AKn {fr b:List Pr}{ts:List (List Pr)}(c:ba (fr::ts))(g:BN b):OH (BJ fr b) ts=cu (OH fr ts) b:=by
 have e:=c.sorted fr (by simp);have f:ba (BJ fr b::ts):=⟨λl a=>by
   rcases List.mem_cons.1 a with rfl|a
   ·exact M.ZC e
   ·exact c.sorted l (by simp[a]),λl a=>by
   rcases List.mem_cons.1 a with rfl|a
   ·exact M.tG (c.aJ fr (by simp))
   ·exact c.aJ l (by simp[a])⟩
 refine(FM _ _).ext (AEg (FM _ _)) λd=>?_
 rw[Gx d f,AHH d e g,p9 d (FM _ _),Gx d c];cases Ab d b.reverse with
 |some p=>rfl
 |none=>rfl
theorem ba.gz {ts:List (List Pr)}(b:ba ts):ba ([]::ts):=⟨λl a=>by
  rcases List.mem_cons.1 a with rfl|a
  ·exact List.Pairwise.nil
  ·exact b.sorted l a,λl a=>by
  rcases List.mem_cons.1 a with rfl|a
  ·exact λ_ c=>by cases c
  ·exact b.aJ l a⟩
theorem ba.tail {l:List Pr}{ts:List (List Pr)}(b:ba (l::ts)):ba ts:=⟨λx a=>b.sorted x (by simp[a]),λx a=>b.aJ x (by simp[a])⟩
theorem AKE {fr:List Pr}{ts:List (List Pr)}(a:ba (fr::ts)):OH [] (fr::ts)=OH fr ts:=by
 refine(FM _ _).ext (FM _ _) λb=>?_
 rw[Gx b (ba.gz a),Gx b a,M.EX];rfl
theorem AJo(a b:Option Pr):alive (a.or (alive b))=alive (a.or b):=by
 cases a with
 |some p=>rfl
 |none=>
  cases b with
  |none=>rfl
  |some q=>cases c:q.gone<;>simp[IX,c,alive]
def KD(ts:List (List Pr)):List Pr:=BB (Af ts)
theorem pa {ts:List (List Pr)}:Sorted (KD ts)/\BN (KD ts):=⟨WS (M.EI _),λx a=>M.Zb _ x (List.mem_filter.1 a).1⟩
theorem ba.left {fr:List Pr}{ts:List (List Pr)}(b:ba (fr::ts)):ba [fr,KD ts]:=⟨λl a=>by
  rcases List.mem_cons.1 a with rfl|a
  ·exact b.sorted _ (by simp)
  ·rw[List.mem_singleton.1 a];exact pa.1,λl a=>by
  rcases List.mem_cons.1 a with rfl|a
  ·exact b.aJ _ (by simp)
  ·rw[List.mem_singleton.1 a];exact pa.2⟩
theorem YC {fr:List Pr}{ts:List (List Pr)}(b:ba (fr::ts)):OH fr [KD ts]=OH fr ts:=by
 refine(FM _ _).ext (FM _ _) λa=>?_
 rw[Gx a (ba.left b),Gx a b,M.EX];have:Ab a (KD ts)=alive (Ak a ts):=by unfold KD;rw[sT a (M.EI _),M.MI a (ba.tail b)]
 rw[this];have c:Ak a ([]:List (List Pr))=none:=rfl;rw[c,Option.or_none,AJo]
theorem ADq {fr:List Pr}{ts:List (List Pr)}(a:ba (fr::ts))(c:KD ts= []):OH fr []=OH fr ts:=by
 rw[<- YC a,c];have e:ba [fr]:=⟨λl b=>by rw[List.mem_singleton.1 b];exact a.sorted _ (by simp),λl b=>by rw[List.mem_singleton.1 b];exact a.aJ _ (by simp)⟩;have f:ba [fr,[]]:=by have:=ba.left a;rw[c] at this;exact this
 refine(FM _ _).ext (FM _ _) λd=>?_
 rw[Gx d e,Gx d f,M.EX];rfl
theorem sW(l:List Pr):(BB l).length<=l.length:=(GS).length_le
open M (Sorted Ab Bw BJ Af Ak BN Ah ba BB)
theorem ASp:BN ([]:List Pr):=λ_ a=>by cases a
theorem UU.aJ {l:List Pr}(t:UU l):Sorted l/\BN l:=⟨t.inc,ASU t.ok⟩
end Go.Lf.G
namespace Go.Lf
open Go
variable {α : Type} {E : cr α} {A : ao} {P : Q1}
def fT(a:Array J0):Nat->List J0->Array J0
 |_,[]=>a
 |o,v::b=>fT (a.setIfInBounds o v) (o+1) b
theorem Iy: ∀(c:List J0) (a:Array J0) (b:Nat),(fT a b c).size=a.size
 | [],_,_=>rfl
 |v::d,a,b=>by unfold fT;rw[Iy d];simp
theorem PU: ∀(c:List J0) (b:Array J0) (a:Nat),a+c.length<=b.size->(fT b a c).toList=b.toList.take a++c++b.toList.drop (a+c.length)
 | [],b,a,e=>by simp[fT]
 |v::d,b,a,e=>by
  have f:b.size=b.toList.length:=by simp
  simp only[An] at e;unfold fT;rw[PU d _ (a+1) (by simp;omega)];rw[DQ,AE,List.take_set_of_le (A0 _),G4 (by omega),List.drop_set_of_lt (by omega)];simp only[DM,A4,List.singleton_append,An,Dd,CT];rw[show a+1+d.length=a+(d.length+1) by omega]
theorem ct {A:ao}: ∀(h:List J0) (c:Nat) {d:aa} {n b:Nat} {f:Array J0} {T:Q7},d[b]? =some (.cells f T (0,0))-> ∃e,(A.at d n).setCells b c h=A.at e n/\e[b]? =some (.cells (fT f c h) T (0,0))/\Mod (· =b) d e/\e.size=d.size
 | [],c,d,n,b,f,T,g=>⟨d,rfl,g,Mod.refl,rfl⟩
 |v::i,c,d,n,b,f,T,g=>by
  have j:(cT d ⟨b,c,none⟩ v)[b]? =some (.cells (f.setIfInBounds c v) T (0,0)):=xN g;obtain⟨e,k,l,m,o⟩:=ct (A:=A) i (c+1) (n:=n) j;refine⟨e,?_,l,(Mod.set (S:=(· =b)) (a:=⟨b,c,none⟩) rfl).trans m,by rw[o,ra]⟩;show((A.at d n).setCell ⟨b,c,none⟩ v).setCells b (c+1) i=_;rw[<- k];rfl
theorem ASL {t h j T:Q7}{i:TypeInfo}{f:J0}(n:P.underlying t=some (.slice T))(o:P.underlying h=some (.int J9))(hi:P.info? T=some i)(q:i.zero=some f)(C:i.size=1)(r:f.cells= #[f]){a:aa}{p:Q2}{cap b:Nat}{K:Sl->aa->Prop}
  (s:0<b) (D:cap<b) (u:b*i.bytes<=140737488355328) (k:b<=maxLen) (F:0<i.bytes)
  (w: ∀e c l,e[a.size]? =some (.cells l T (0,0))->l.size=c->b<=c->c<=maxLen->Ext a e->e.size=a.size+1->K ⟨some ⟨a.size,0,none⟩,b,c⟩ e):
  Ad A P (Builtin.append_ #[t,h] j #[.slice p 0 cap,.int J9 (b:Int)]) a λv e=> ∃g:Sl,v= .slice g.p g.len g.cap/\K g e:=by
 intro d;have x:(Builtin.firstCells i.size 0 (.slice p 0 cap)).run P (A.at a d).drew= .ok ([]:List J0).toArray (A.at a d).drew:=by cases p<;>simp[Builtin.firstCells,loadCells,loadCellsFrom]
 have y:Builtin.nextslicecap (0+b) cap*i.bytes<=281474976710656:=by rw[AF];exact growslice_fits (by omega) u
 have m:=Lib.run_append_grow_zeros (A.at a d) t h j T i f J9 J9 n o hi q p 0 cap [] x b s (by omega) (by omega) (by simp only[maxLen] at k;omega) (by omega) y;simp only[AF] at m;have z:=grownCap_ge (A.at a d) b cap T;have B:=grownCap_le_maxLen (A.at a d) b cap T k;generalize grownCap (A.at a d) b cap T=c at*
 refine⟨_,_,d+1,m,⟨some ⟨a.size,0,none⟩,b,c⟩,rfl,w _ c _ (Rg ..) ?_ z B (Mod.push a _) (by show(a.push _).size=a.size+1;simp)⟩;simp[Builtin.zeroCells,r];omega
theorem oL {t k T:Q7}(q:P.underlying t=some (.slice T))(r:(P.info? T).map (·.size)=some 1){d:aa}{b e g l h m:Nat}{a:Q6}{i:Array J0}{vs:List J0}{K:Int->aa->Prop}
  (j:d[b]? =some (.cells i T (0,0))) (s:vs.length=min h g) (u: ∀f v,vs[f]? =some v->af d (a.add f)=some v) (G:e+vs.length<=i.size) (w: ∀v∈vs,MH v=true)
  (x: ∀c,c[b]? =some (.cells (fT i e vs) T (0,0))->Mod (· =b) d c->c.size=d.size->K (vs.length:Int) c):
  Ad A P (Builtin.copy_ #[t,t] k #[.slice (some ⟨b,e,none⟩) g l,.slice (some a) h m]) d λv c=> ∃o:Int,v= .int J9 o/\K o c:=by
 intro n;have p:=run_copy_cells (P:=P) (A.at d n) t t k T b e g l a h m vs q r s u
  (λf y=>by
   show(af d ⟨b,e+f,none⟩).isSome=true;rw[Gs j,DP (by omega)];rfl)
  (λf y=>NR j) (λv z=>Nk (w v z))
 obtain⟨c,B,C,D,F⟩:=ct (A:=A) vs e (n:=n) j;rw[B] at p;exact⟨_,c,n,p,_,rfl,x c C D F⟩
def oM(A:ao)(P:Q1)(t b:Q7)(h fr:Q8)(s:Sl)(i:Int)(v:Sl)(e:aa)(d:A2X):Prop:=
 aE ((0:Int)<=i/\i<=((s.len:Nat):Int))<|
 ab (((v.len:Nat):Int)==(0:Int)) (
  d (.slice s.p s.len s.cap) e) (
  ab (i==((s.len:Nat):Int)) (
   Ad A P (Builtin.append_ #[t,t] t #[.slice s.p s.len s.cap,.slice v.p v.len v.cap]) e λv1 j=> ∃c:Sl,v1= .slice c.p c.len c.cap/\(
   d (.slice c.p c.len c.cap) j)) (
   ab (decide ((J8 J9 (((s.len:Nat):Int)+((v.len:Nat):Int)))>((s.cap:Nat):Int))) (
    aE ((0:Int)<=i/\i<=((s.cap:Nat):Int))<|
    Ad A P (Builtin.append_ #[t,b] t #[.slice (BC s.p s.cap 0 1) (i.toNat-0) (s.cap-0),.int J9 (J8 J9 ((J8 J9 (((s.len:Nat):Int)+((v.len:Nat):Int)))-i))]) e λv2 k=> ∃a:Sl,v2= .slice a.p a.len a.cap/\(
    aE ((0:Int)<=i/\i<=((a.len:Nat):Int))<|
    Ad A P (Builtin.copy_ #[t,t] b #[.slice (BC a.p a.cap i.toNat 1) (a.len-i.toNat) (a.cap-i.toNat),.slice v.p v.len v.cap]) k λl m=> ∃n:Int,l= .int J9 n/\(
    aE ((0:Int)<=(J8 J9 (i+((v.len:Nat):Int)))/\(J8 J9 (i+((v.len:Nat):Int)))<=((a.len:Nat):Int))<|
    aE ((0:Int)<=i/\i<=((s.len:Nat):Int))<|
    Ad A P (Builtin.copy_ #[t,t] b #[.slice (BC a.p a.cap ((J8 J9 (i+((v.len:Nat):Int))).toNat) 1) (a.len-((J8 J9 (i+((v.len:Nat):Int))).toNat)) (a.cap-((J8 J9 (i+((v.len:Nat):Int))).toNat)),.slice (BC s.p s.cap i.toNat 1) (s.len-i.toNat) (s.cap-i.toNat)]) m λo p=> ∃q:Int,o= .int J9 q/\(
    d (.slice a.p a.len a.cap) p)))) (
    aE ((0:Int)<=(J8 J9 (((s.len:Nat):Int)+((v.len:Nat):Int)))/\(J8 J9 (((s.len:Nat):Int)+((v.len:Nat):Int)))<=((s.cap:Nat):Int))<|
    aE ((0:Int)<=(J8 J9 (i+((v.len:Nat):Int)))/\(J8 J9 (i+((v.len:Nat):Int)))<=(((((J8 J9 (((s.len:Nat):Int)+((v.len:Nat):Int))).toNat)-0):Nat):Int))<|
    nE A P h #[.slice v.p v.len v.cap,.slice (BC (BC s.p s.cap 0 1) (s.cap-0) ((J8 J9 (i+((v.len:Nat):Int))).toNat) 1) ((((J8 J9 (((s.len:Nat):Int)+((v.len:Nat):Int))).toNat)-0)-((J8 J9 (i+((v.len:Nat):Int))).toNat)) ((s.cap-0)-((J8 J9 (i+((v.len:Nat):Int))).toNat))] e λr f=> ∃g:Bool,r= .bool g/\(
    ab (!g) (
     aE ((0:Int)<=(J8 J9 (i+((v.len:Nat):Int)))/\(J8 J9 (i+((v.len:Nat):Int)))<=(((((J8 J9 (((s.len:Nat):Int)+((v.len:Nat):Int))).toNat)-0):Nat):Int))<|
     aE ((0:Int)<=i/\i<=(((((J8 J9 (((s.len:Nat):Int)+((v.len:Nat):Int))).toNat)-0):Nat):Int))<|
     Ad A P (Builtin.copy_ #[t,t] b #[.slice (BC (BC s.p s.cap 0 1) (s.cap-0) ((J8 J9 (i+((v.len:Nat):Int))).toNat) 1) ((((J8 J9 (((s.len:Nat):Int)+((v.len:Nat):Int))).toNat)-0)-((J8 J9 (i+((v.len:Nat):Int))).toNat)) ((s.cap-0)-((J8 J9 (i+((v.len:Nat):Int))).toNat)),.slice (BC (BC s.p s.cap 0 1) (s.cap-0) i.toNat 1) ((((J8 J9 (((s.len:Nat):Int)+((v.len:Nat):Int))).toNat)-0)-i.toNat) ((s.cap-0)-i.toNat)]) f λu w=> ∃x:Int,u= .int J9 x/\(
     aE ((0:Int)<=i/\i<=(((((J8 J9 (((s.len:Nat):Int)+((v.len:Nat):Int))).toNat)-0):Nat):Int))<|
     Ad A P (Builtin.copy_ #[t,t] b #[.slice (BC (BC s.p s.cap 0 1) (s.cap-0) i.toNat 1) ((((J8 J9 (((s.len:Nat):Int)+((v.len:Nat):Int))).toNat)-0)-i.toNat) ((s.cap-0)-i.toNat),.slice v.p v.len v.cap]) w λy z=> ∃B:Int,y= .int J9 B/\(
     d (.slice (BC s.p s.cap 0 1) (((J8 J9 (((s.len:Nat):Int)+((v.len:Nat):Int))).toNat)-0) (s.cap-0)) z))) (
     aE ((0:Int)<=((s.len:Nat):Int)/\((s.len:Nat):Int)<=(((((J8 J9 (((s.len:Nat):Int)+((v.len:Nat):Int))).toNat)-0):Nat):Int))<|
     Ad A P (Builtin.copy_ #[t,t] b #[.slice (BC (BC s.p s.cap 0 1) (s.cap-0) (((s.len:Nat):Int).toNat) 1) ((((J8 J9 (((s.len:Nat):Int)+((v.len:Nat):Int))).toNat)-0)-(((s.len:Nat):Int).toNat)) ((s.cap-0)-(((s.len:Nat):Int).toNat)),.slice v.p v.len v.cap]) f λC D=> ∃F:Int,C= .int J9 F/\(
     aE ((0:Int)<=i/\i<=(((((J8 J9 (((s.len:Nat):Int)+((v.len:Nat):Int))).toNat)-0):Nat):Int))<|
     AA A P fr #[.slice (BC (BC s.p s.cap 0 1) (s.cap-0) i.toNat 1) ((((J8 J9 (((s.len:Nat):Int)+((v.len:Nat):Int))).toNat)-0)-i.toNat) ((s.cap-0)-i.toNat),.int J9 ((v.len:Nat):Int)] D λG H=>G= .tuple #[]/\(
     d (.slice (BC s.p s.cap 0 1) (((J8 J9 (((s.len:Nat):Int)+((v.len:Nat):Int))).toNat)-0) (s.cap-0)) H)))))))
theorem YS {e:aa}{b:Nat}{f:Array J0}{T:Q7}{fr:Nat×Nat}(h:e[b]? =some (.cells f T fr)){a:List J0}{g:Nat}(i:(f.toList.drop g).take a.length=a): ∀c v,a[c]? =some v->af e ((⟨b,g,none⟩:Q6).add c)=some v:=λc v d=>by
 rw[Bp,Gs h];have j:=(List.getElem?_eq_some_iff.1 d).1;rw[<- i,F1,if_pos j,By] at d;simpa using d
theorem zx {t ag T ah:Q7}{ai fr:Q8}{F:J0}{G:Nat}(aj:Rj P t T 1 G=true)(k:E.w=1)(aD:P.underlying ag=some (.int J9))(H:(P.info? T).bind (·.zero)=some F)(aE:F.cells= #[F])(hB:0<G)
  (aF: ∀args I,(callFunc ai args).run P I=((Extern.SlicesOverlaps.overlaps #[t,t] #[ah] args).run P I).andThen λv aG=> .ok (.value v) aG)
  {a:aa} {s:Sl} {l:List α} {x:α} {e:J0} {f:Nat} (R:Own E T a s l) (J:E.enc x= [e]) (o:a[f]? =some (.cells #[e] T (0,0))) (aH:s.ag≠some f) (ak:l.length+1<=maxLen) (al:(l.length+1)*G<=140737488355328) {am:A2X}
  (S: ∀m w,Own E T w m (x::l)->Mod (λb=>s.ag=some b) a w->(∀ b,m.ag=some b->s.ag=some b\/a.size<=b)->am (.slice m.p m.len m.cap) w):
  oM A P t ag ai fr s (0:Int) ⟨some ⟨f,0,none⟩,1,1⟩ a am:=by
 unfold oM;have U:=R.len;have bj:maxLen<=9223372036854775807:=by simp[maxLen]
 obtain⟨r,i,z,hi,an,V,aI,bk⟩:=re aj;have aJ:z=F:=by rw[hi] at H;simp only[R0] at H;rw[an] at H;exact Bk H
 subst aJ;have ao:MH e=true:=E.one x e (by rw[J];simp);have bm:=Ai o;refine⟨⟨Hv _,by omega⟩,ab.no rfl ?_⟩;refine ab.intro (λq=>?_) (λq=>?_)
 ·have q:l= []:=by
   have:(0:Int)=((s.len:Nat):Int):=by simpa using q
   exact CN (by omega)
  subst q;have aK:View E a ⟨some ⟨f,0,none⟩,1,1⟩ [x]:=⟨rfl,A0 _,λj ap n=>⟨_,rfl,λaL u K=>by
   have aM:j=0:=by have:=(List.getElem?_eq_some_iff.1 n).1;simpa using this
   subst aM;simp only[HA,Bs] at n;subst n;rw[J] at K;have aN:aL=0:=by have:=(List.getElem?_eq_some_iff.1 K).1;simpa using this
   subst aN;simp only[HA,Bs] at K;subst K;rw[HT,Bp,Bp];exact AO o rfl⟩⟩
  have aO:Rj P t T E.w G=true:=by rw[k];exact aj
  exact IZ (s:=s) (src:=⟨some ⟨f,0,none⟩,1,1⟩) aO R aK (by simpa using al) (by simpa using ak) λm w aQ aR aS _=>S m w aQ aR aS
 ·have aT:0<l.length:=by
   have: ¬(0:Int)=((s.len:Nat):Int):=by simpa using q
   omega
  rcases R.row with⟨rfl,rfl⟩|⟨g,L,y,B,bn,aU,M,W⟩
  ·simp at aT
  ·rw[k,AN] at M W;have d:(l.flatMap E.enc).length=l.length:=by rw[KS,k,AN]
   have aq: ∀v∈l.flatMap E.enc,MH v=true:=λv C=>by
    obtain⟨ap,_,aV⟩:=List.mem_flatMap.1 C;exact E.one ap v aV
   have ar:g≠f:=λh=>aH (by rw[Sl.ag,y,h];rfl)
   have bo:=Ai B;have aW:J8 J9 (((s.len:Nat):Int)+(((1:Nat)):Int))=((l.length+1:Nat):Int):=by rw[U];exact Ac (by omega)
   have aX:J8 J9 ((0:Int)+(((1:Nat)):Int))=((1:Nat):Int):=by decide
   have aY:J8 J9 (((l.length+1:Nat):Int)-(0:Int))=((l.length+1:Nat):Int):=by rw[Int.sub_zero];exact Fz (by omega)
   have N:(P.info? T).map (·.size)=some 1:=by rw[hi];simp[V]
   dsimp only;rw[aW,aX,aY];have aZ:((1:Nat):Int).toNat=1:=rfl;have a0:(0:Int).toNat=0:=rfl;have a1:((l.length+1:Nat):Int).toNat=l.length+1:=by omega
   rw[aZ,a0,a1];have au: ∀j v,[e][j]? =some v->af a ((⟨f,0,none⟩:Q6).add j)=some v:=YS o (by simp);refine ab.intro (λX=>?_) (λX=>?_)
   ·have Y:s.cap<l.length+1:=by
     have:((s.cap:Nat):Int)<((l.length+1:Nat):Int):=by simpa using X
     omega
    refine⟨⟨Hv _,by omega⟩,?_⟩;refine ASL (p:=BC s.p s.cap 0 1) (cap:=s.cap) r aD hi an V aE (by omega) Y (by rw[aI];exact al) ak (by omega) λbp c av a2 aw a3 a4 Z bq=>⟨⟨Hv _,by dsimp only;omega⟩,?_⟩
    have a5:BC (some (⟨a.size,0,none⟩:Q6)) c 0 1=some ⟨a.size,0,none⟩:=by unfold BC;rw[if_neg (by omega)];rfl
    have a6:BC (some (⟨a.size,0,none⟩:Q6)) c 1 1=some ⟨a.size,1,none⟩:=by unfold BC;rw[if_neg (by omega)];rfl
    dsimp only;rw[a5];refine oL (vs:= [e]) r N a2 (by simp) (λj v n=>Z.af (au j v n)) (by simp;omega) (λv C=>by rw[List.mem_singleton.1 C];exact ao) λa7 a8 ax br=>⟨⟨by omega,by omega⟩,⟨Hv _,by omega⟩,?_⟩
    rw[a6,y];have O:BC (some (⟨g,0,none⟩:Q6)) s.cap 0 1=some ⟨g,0,none⟩:=by unfold BC;rw[if_neg (by omega)];rfl
    rw[O];have a9:a7[g]? =some (.cells L T (0,0)):=ax.ag (Z.ag B (λa=>a)) (by omega);refine oL (vs:=l.flatMap E.enc) r N a8 (by rw[d];omega) (YS a9 (by rw[d,HP,<-U];exact W)) (by rw[Iy,d];omega) aq λay ac Q ba=>?_
    refine S ⟨some ⟨a.size,0,none⟩,l.length+1,c⟩ ay ⟨rfl,.inr ⟨a.size,_,rfl,ac,a3,a4,by rw[Iy,Iy,k,AN];exact aw,?_⟩⟩ ?_ (λb D=> .inr (by simp[Sl.ag] at D;omega))
    ·rw[PU _ _ _ (by rw[Iy,d];omega),PU _ _ _ (by simp;omega)];rw[k,AN,AM,J];have bb:av.toList.length=c:=by simp[aw]
     simp only[I3,CT,BE];have bc:(([e]++av.toList.drop (0+1)).take 1)= [e]:=by simp
     rw[bc,Nx (by simp[d])];rw[AD (by simp[d])]
    ·refine((Ext.mod Z).trans ((ax.trans Q).ak (S':=λb=>s.ag=some b\/b=a.size) λc az h=> .inr h)) |> λaA=>?_
     exact⟨aA.size,λb D bd=>aA.get b D (λbe=>be.elim bd (by omega))⟩
   ·have Y:l.length+1<=s.cap:=by
     have: ¬((s.cap:Nat):Int)<((l.length+1:Nat):Int):=by simpa using X
     omega
    have O: ∀c,0<c->BC (some (⟨g,0,none⟩:Q6)) c 0 1=some ⟨g,0,none⟩:=λc az=>by
     unfold BC;rw[if_neg (by omega)];rfl
    have bf: ∀c,1<c->BC (some (⟨g,0,none⟩:Q6)) c 1 1=some ⟨g,1,none⟩:=λc az=>by
     unfold BC;rw[if_neg (by omega)];rfl
    refine⟨⟨by omega,by omega⟩,⟨by omega,by omega⟩,?_⟩;rw[y,O _ (by omega),Gk,Gk,Gk,O _ (by omega),bf _ (by omega)];intro aC;refine⟨.bool false,a,aC,?_,false,rfl,ab.yes rfl ⟨⟨by omega,by omega⟩,⟨Hv _,by omega⟩,?_⟩⟩
    ·rw[aF,Lib.run_overlaps_apart (A.at a aC) t ah T r 1 (λI=>by rw[Go.run_sizeOf I hi];simp[Program.cellsOf,hi,V]) ⟨f,0,none⟩ ⟨g,1,none⟩ 1 1 _ _ (λh=>ar h.symm) T T 1 s.cap
      (by show(match a[f]? with|some (.cells c ae _)=>some (ae,c.size)|_=>none)=_;rw[o];rfl) (by show(match a[g]? with|some (.cells c ae _)=>some (ae,c.size)|_=>none)=_;rw[B];simp[M]) (by omega) (NR o) (NR o)]
     rfl
    ·refine oL (vs:=l.flatMap E.enc) r N B (by rw[d];omega) (YS B (by rw[d,HP,<-U];exact W)) (by rw[d];omega) aq λay ac Q ba=>⟨⟨Hv _,by omega⟩,?_⟩
     refine oL (vs:= [e]) r N ac (by simp) (λj v n=>Q.af (au j v n) (by rw[aP];exact λh=>ar h.symm)) (by rw[Iy];simp;omega) (λv C=>by rw[List.mem_singleton.1 C];exact ao) λbg bh bi bs=>?_
     refine S ⟨some ⟨g,0,none⟩,l.length+1,s.cap⟩ bg ⟨rfl,.inr ⟨g,_,rfl,bh,Y,aU,by rw[Iy,Iy,k,AN];exact M,?_⟩⟩ ((Q.trans bi).ak λb _ h=>by rw[Sl.ag,y,h];rfl) (λb D=> .inl (by rw[Sl.ag,y];exact D));rw[PU _ _ _ (by rw[Iy];simp;omega),PU _ _ _ (by rw[d];omega)];rw[k,AN,AM,J];have bb:L.toList.length=s.cap:=by simp[M]
     have bt:(L.toList.take 1).length=1:=by simp;omega
     simp only[I3,CT,BE,AF];rw[A4 (L.toList.take 1),A0p (by omega),HD (by omega),CT];rw[<- A4,Nx (by simp[d])];rw[AD (by simp[d])]
end Go.Lf
namespace Go.Lf.G
open Go
def gY:cr Nat where
 enc t:= [Ap t]
 w:=1
 len _:=rfl
 pos:=by omega
 one x v a:=by simp at a;subst a;rfl
theorem Cells.pt {b:aa}{a:Q6}{x:Nat}(c:Cells b a (gY.enc x)):af b a=some (Ap x):=by have d:=c 0 _ rfl;rwa [add_zero] at d
theorem AVT:Rj P Av Bf gY.w 8=true:=by kernel_rfl
theorem ovT(args:Array J0)(a:World):(callFunc Eb args).run P a=((Extern.SlicesOverlaps.overlaps #[Av,Av] #[lK] args).run P a).andThen λv b=> .ok (.value v) b:=
 run_callFunc_extern (fn:=Proofs.Tryz.f229) Proofs.Tryz.func229 (by kernel_rfl) (by kernel_rfl) (by kernel_rfl) (by kernel_rfl) args a
theorem ovI(args:Array J0)(a:World):(callFunc Gz args).run P a=((Extern.SlicesOverlaps.overlaps #[Ar,Ar] #[lK] args).run P a).andThen λv b=> .ok (.value v) b:=
 run_callFunc_extern (fn:=Proofs.Tryz.f231) Proofs.Tryz.func231 (by kernel_rfl) (by kernel_rfl) (by kernel_rfl) (by kernel_rfl) args a
theorem AXH:(P.info? Bf).bind (·.zero)=some (J5 none):=by kernel_rfl
theorem AXX:(P.info? BM).bind (·.zero)=some (J6 J9 0):=by kernel_rfl
theorem yB:P.underlying BM=some (.int J9):=by kernel_rfl
theorem AVN(a:ao)(s v:Sl)(i:Int)(b:aa)(c:A2X):EG a s i v b c=oM a P Av BM Eb Fu s i v b c:=rfl
theorem AWH(a:ao)(s v:Sl)(i:Int)(b:aa)(c:A2X):Il a s i v b c=oM a P Ar BM Gz JF s i v b c:=rfl
theorem rD {g:ao}{a:aa}{s:Sl}{l:List Nat}{x d:Nat}{f:A2X}(h:Own gY Bf a s l)(i:a[d]? =some (J2 #[Ap x] Bf (0,0)))(j:s.ag≠some d)(m:l.length<=1000000)
  (k: ∀c e,Own gY Bf e c (x::l)->Mod (λb=>s.ag=some b) a e->(∀ b,c.ag=some b->s.ag=some b\/a.size<=b)->f (J4 c.p c.len c.cap) e):
  AA g P BR #[J4 s.p s.len s.cap,J6 J9 0,J4 (some (⟨d,0,none⟩:Q6)) 1 1] a f:=by
 refine Gr (v:=⟨some ⟨d,0,none⟩,1,1⟩) ?_;rw[AVN];exact zx AVT rfl yB AXH rfl (by decide) ovT h rfl i j (by simp[maxLen];omega) (by omega) k
theorem rE {g:ao}{a:aa}{s:Sl}{l:List Int}{x:Int}{d:Nat}{f:A2X}(h:Own Jh BM a s l)(i:a[d]? =some (J2 #[J6 J9 x] BM (0,0)))(j:s.ag≠some d)(m:l.length<=1000000)
  (k: ∀c e,Own Jh BM e c (x::l)->Mod (λb=>s.ag=some b) a e->(∀ b,c.ag=some b->s.ag=some b\/a.size<=b)->f (J4 c.p c.len c.cap) e):
  AA g P DN #[J4 s.p s.len s.cap,J6 J9 0,J4 (some (⟨d,0,none⟩:Q6)) 1 1] a f:=by
 refine OD (v:=⟨some ⟨d,0,none⟩,1,1⟩) ?_;rw[AWH];exact zx AJu rfl yB AXX rfl (by decide) ovI h rfl i j (by simp[maxLen];omega) (by omega) k
structure Db where
 fr:List Pr
 ts:List (Nat×List Pr)
 next:Nat
 bV:Nat
 aM:Nat
 aZ:Nat
 bK:Bool
structure Hp where
 d:Nat
 b:Nat
 lg:Nat
 nt:Nat
 ft:Nat
 Sb:Nat->Prop
 ns:List M.Dl
 tp:Sl
 np:Sl
 ps:List Nat
abbrev eU(q:Hp)(st:Db)(down:Bool):Array J0:= #[Ap q.b,Ap q.lg,Ap q.nt,Ap q.ft,J4 q.tp.p q.tp.len q.tp.cap,J4 q.np.p q.np.len q.np.cap,J6 J9 (st.next:Int),J6 J9 (st.bV:Int),J3 down]
abbrev eV(st:Db):List Int:=st.ts.map λp=>(p.1:Int)
def mF(h:aa)(k:Nat->Nat)(t:Nat)(l:List Pr):Prop:= ∃lo hi,bU h t l (Rh l) lo hi/\hi<=h.size/\(∀ c,lo<=c->c<hi->k c=8)/\UU l
structure bO (g h:aa) (q:Hp) (k:Nat->Nat) (st:Db) (m:Bx):Prop where
 cell:h[q.d]? =some (J2 (eU q st false) Ki (0,0))
 box:Dw h q.b q.Sb m
 log:Gf h q.lg q.b nl st.aM st.bK
 gT:Gf h q.nt q.b nn st.aZ false
 fresh:M.cW h q.ft q.ns st.fr
 cG:Own gY Bf h q.tp q.ps
 dt:q.ps.length=st.ts.length
 dx: ∀(i:Nat) (t:Nat) (p:Nat×List Pr),q.ps[i]? =some t->st.ts[i]? =some p->mF h k t p.2
 names:Own Jh BM h q.np (eV st)
 kd:k q.d=1
 kb: ∀c,q.Sb c->k c=2
 kl:k q.lg=3
 kn:k q.nt=4
 kf: ∀c,M.dj q.ft q.ns c->k c=5
 kt: ∀c,q.tp.ag=some c->k c=6
 kx: ∀c,q.np.ag=some c->k c=7
 own: ∀c,k c≠0->g.size<=c/\c<h.size
 ext:Ext g h
theorem Ux {b:Type}{d:cr b}{T:Q7}{h:aa}{s:Sl}{l:List b}(e:Own d T h s l){c:Nat}(a:s.ag=some c):c<h.size:=by
 rcases e.row with⟨rfl,_⟩|⟨g,j,f,i,_⟩
 ·simp[Sl.ag] at a
 ·rw[Sl.ag,f] at a;have:g=c:=by simpa using a
  subst this;exact Ai i
theorem mF.mod {h h':aa}{k d:Nat->Nat}{t:Nat}{l:List Pr}{e:Nat->Prop}(T:mF h k t l)(x:Mod e h h')(i: ∀c,k c=8-> ¬e c)(j: ∀c,c<h.size->d c=k c):mF h' d t l:=by obtain⟨lo,hi,n,o,f,p⟩:=T;exact⟨lo,hi,n.mod x λc a b=>i c (f c a b),AK o x.size,λc a b=>by rw[j c (by omega)];exact f c a b,p⟩
structure DbR (C:Nat->Prop) (g h h':aa) (q:Hp) (k:Nat->Nat) (st:Db) (m:Bx):Prop where
 ext:Ext g h'
 size:h.size<=h'.size
 cell: ¬C 1->h'[q.d]? =some (J2 (eU q st false) Ki (0,0))
 box: ¬C 2->Dw h' q.b q.Sb m
 log: ¬C 3->Gf h' q.lg q.b nl st.aM st.bK
 gT: ¬C 4->Gf h' q.nt q.b nn st.aZ false
 fresh: ¬C 5->M.cW h' q.ft q.ns st.fr
 cG: ¬C 6->Own gY Bf h' q.tp q.ps
 names: ¬C 7->Own Jh BM h' q.np (eV st)
 dx: ¬C 8-> ∀k',(∀ c,c<h.size->k' c=k c)-> ∀(i:Nat) (t:Nat) (p:Nat×List Pr),q.ps[i]? =some t->st.ts[i]? =some p->mF h' k' t p.2
theorem bO.rest {C:Nat->Prop}{g h h':aa}{q:Hp}{k:Nat->Nat}{st:Db}{m:Bx}(a:bO g h q k st m)(x:Mod (λc=>C (k c)) h h')(f: ¬C 0):DbR C g h h' q k st m:=by
 refine⟨⟨AK a.ext.size x.size,λc d _=>?_⟩,x.size,λb=>x.ag a.cell (by rw[a.kd];exact b),λb=>a.box.mod x λc d=>by rw[a.kb c d];exact b,λb=>a.log.mod x (by rw[a.kl];exact b),λb=>a.gT.mod x (by rw[a.kn];exact b),
  λb=>a.fresh.mod x λc d=>by rw[a.kf c d];exact b,λb=>a.cG.mod x λc d=>by rw[a.kt c d];exact b,λb=>a.names.mod x λc d=>by rw[a.kx c d];exact b,
  λb n e i t p j l=>(a.dx i t p j l).mod x (λc d=>by rw[d];exact b) e⟩
 have e:k c=0:=Decidable.byContradiction λh=>by have:=(a.own c h).1;omega
 exact(x.get c (Fc d a.ext.size) (by rw[e];exact f)).trans (a.ext.get c d (λh=>h))
section
variable {g h h' : aa} {q : Hp} {k : Nat -> Nat} {st : Db} {m : Bx}
theorem bO.iq(a:bO g h q k st m):q.d<h.size:=Ai a.cell
theorem bO.pG(a:bO g h q k st m):q.lg<h.size:=Ai a.log
theorem bO.pH(a:bO g h q k st m):q.nt<h.size:=Ai a.gT
theorem bO.kX(a:bO g h q k st m): ¬q.Sb q.lg:=λb=>by have:=a.kb _ b;rw[a.kl] at this;cases this
theorem bO.tI(a:bO g h q k st m): ¬q.Sb q.nt:=λb=>by have:=a.kb _ b;rw[a.kn] at this;cases this
theorem bO.tJ(a:bO g h q k st m): ¬q.Sb q.d:=λb=>by have:=a.kb _ b;rw[a.kd] at this;cases this
theorem bO.dn(a:bO g h q k st m):q.d≠q.nt:=λb=>by have:=a.kd;rw[b,a.kn] at this;cases this
theorem bO.on(a:bO g h q k st m)(x:Ext h h'):bO g h' q k st m:=by
 have b:=a.rest (C:=λ_=>False) x (λh=>h);exact⟨b.cell λh=>h,b.box λh=>h,b.log λh=>h,b.gT λh=>h,b.fresh λh=>h,b.cG λh=>h,a.dt,b.dx (λh=>h) k (λ_ _=>rfl),b.names λh=>h,a.kd,a.kb,a.kl,a.kn,a.kf,a.kt,a.kx,
  λc d=>⟨(a.own c d).1,Fc (a.own c d).2 x.size⟩,b.ext⟩
theorem bO.beside {e:Nat->Prop}(a:bO g h q k st m)(x:Mod e h h')(f: ∀c,e c->k c=0/\g.size<=c):bO g h' q k st m:=by
 have j:Ext g h':=⟨AK a.ext.size x.size,λc b _=>(x.get c (Fc b a.ext.size) λh=>by have:=(f c h).2;omega).trans (a.ext.get c b (λh=>h))⟩;have d: ∀ {c},k c≠0-> ¬e c:=λb l=>b (f _ l).1
 exact⟨x.ag a.cell (d (by rw[a.kd];decide)),a.box.mod x λc b=>d (by rw[a.kb c b];decide),a.log.mod x (d (by rw[a.kl];decide)),a.gT.mod x (d (by rw[a.kn];decide)),a.fresh.mod x λc b=>d (by rw[a.kf c b];decide),
  a.cG.mod x λc b=>d (by rw[a.kt c b];decide),a.dt,λi t p n o=>(a.dx i t p n o).mod x (λc b=>d (by rw[b];decide)) (λ_ _=>rfl),a.names.mod x λc b=>d (by rw[a.kx c b];decide),a.kd,a.kb,a.kl,a.kn,a.kf,a.kt,a.kx,
  λc b=>⟨(a.own c b).1,Fc (a.own c b).2 x.size⟩,j⟩
open Classical in
noncomputable def N8 (k:Nat->Nat) (a:Nat) (b:Nat->Prop) (d:Nat):Nat->Nat:=λc=>if c<a then k c else if b c then d else 0
theorem H7 {a b c:Nat}{d:Nat->Prop}(e:c<a):N8 k a d b c=k c:=by unfold N8;rw[if_pos e]
theorem sZ {a b c:Nat}{d:Nat->Prop}(f:a<=c)(e:d c):N8 k a d b c=b:=by unfold N8;rw[if_neg (by omega),if_pos e]
theorem XK {a b c:Nat}{S:Nat->Prop}(e:a<=c)(d: ¬S c):N8 k a S b c=0:=by unfold N8;rw[if_neg (by omega),if_neg d]
theorem bO.boxed(b:bO g h q k st m){S':Nat->Prop}{p:Bx}{j:Nat}{bF:Db}(r:Dw h' q.b S' p)(x:Mod (λc=>q.Sb c\/(j=3/\c=q.lg)\/(j=4/\c=q.nt)) h h')(s: ∀c,S' c->q.Sb c\/h.size<=c)
  (u:bF.fr=st.fr) (i:bF.ts=st.ts) (v:bF.next=st.next) (w:bF.bV=st.bV)
  (l:(j≠3/\bF.aM=st.aM/\bF.bK=st.bK)\/Gf h' q.lg q.b nl bF.aM bF.bK) (y:(j≠4/\bF.aZ=st.aZ)\/Gf h' q.nt q.b nn bF.aZ false):
  bO g h' {q with Sb:=S'} (N8 k h.size S' 2) bF p:=by
 have e:=b.rest (C:=λc=>c=2\/(j=3/\c=3)\/(j=4/\c=4)) (h':=h') (x.ak λc _ a=>by
  rcases a with a|⟨d,rfl⟩|⟨d,rfl⟩
  ·exact .inl (b.kb c a)
  ·exact .inr (.inl ⟨d,b.kl⟩)
  ·exact .inr (.inr ⟨d,b.kn⟩)) (by rintro(h|⟨_,h⟩|⟨_,h⟩)<;>cases h)
 have f: ∀ {c},c<h.size->N8 k h.size S' 2 c=k c:=λa=>H7 a
 have z:eU {q with Sb:=S'} bF false=eU q st false:=by simp only[eU,v,w]
 refine⟨by rw[z];exact e.cell (by omega),r,?_,?_,by rw[u];exact e.fresh (by omega),e.cG (by omega),by rw[i];exact b.dt,by rw[i];exact e.dx (by omega) _ (λc a=>f a),by rw[eV,i];exact e.names (by omega),
  by rw[f b.iq];exact b.kd,λc a=>?_,by rw[f b.pG];exact b.kl,by rw[f b.pH];exact b.kn,λc a=>by rw[f (b.fresh.lt a)];exact b.kf c a,λc a=>by rw[f (Ux b.cG a)];exact b.kt c a,
  λc a=>by rw[f (Ux b.names a)];exact b.kx c a,λc a=>?_,e.ext⟩
 ·rcases l with⟨d,n,A⟩|d
  ·rw[n,A];exact e.log (by omega)
  ·exact d
 ·rcases y with⟨d,n⟩|d
  ·rw[n];exact e.gT (by omega)
  ·exact d
 ·by_cases o:c<h.size
  ·rw[f o];rcases s c a with d|d
   ·exact b.kb c d
   ·omega
  ·exact sZ (by omega) a
 ·by_cases o:c<h.size
  ·rw[f o] at a;exact⟨(b.own c a).1,by have:=e.size;omega⟩
  ·by_cases t:S' c
   ·exact⟨by have:=b.ext.size;omega,r.lt t⟩
   ·exact absurd (XK (by omega) t) a
theorem bO.pF(b:bO g h q k st m){f:List M.Dl}{j:List Pr}(T:M.cW h' q.ft f j)(x:Mod (M.dj q.ft q.ns) h h')(s: ∀c,M.dj q.ft f c->M.dj q.ft q.ns c\/h.size<=c):
  bO g h' {q with ns:=f} (N8 k h.size (M.dj q.ft f) 5) {st with fr:=j} m:=by
 have d:=b.rest (C:=λc=>c=5) (h':=h') (x.ak λc _ a=>b.kf c a) (by decide);have e: ∀ {c},c<h.size->N8 k h.size (M.dj q.ft f) 5 c=k c:=λa=>H7 a
 refine⟨d.cell (by decide),d.box (by decide),d.log (by decide),d.gT (by decide),T,d.cG (by decide),b.dt,d.dx (by decide) _ (λc a=>e a),d.names (by decide),
  by rw[e b.iq];exact b.kd,λc a=>by rw[e (b.box.lt a)];exact b.kb c a,by rw[e b.pG];exact b.kl,by rw[e b.pH];exact b.kn,λc a=>?_,λc a=>by rw[e (Ux b.cG a)];exact b.kt c a,
  λc a=>by rw[e (Ux b.names a)];exact b.kx c a,λc a=>?_,d.ext⟩
 ·by_cases i:c<h.size
  ·rw[e i];rcases s c a with l|l
   ·exact b.kf c l
   ·omega
  ·exact sZ (by omega) a
 ·by_cases i:c<h.size
  ·rw[e i] at a;exact⟨(b.own c a).1,by have:=d.size;omega⟩
  ·by_cases n:M.dj q.ft f c
   ·exact⟨by have:=b.ext.size;omega,T.lt n⟩
   ·exact absurd (XK (by omega) n) a
theorem bO.renew(b:bO g h q k st m){gw:Nat}(T:M.cW h' gw [] [])(i:h.size<=gw)(a:h'[q.d]? =some (J2 (eU {q with ft:=gw} st false) Ki (0,0)))(x:Mod (λc=>c=q.d) h h'):
  bO g h' {q with ft:=gw,ns:= []} (N8 k h.size (· =gw) 5) {st with fr:= []} m:=by
 have d:=b.rest (C:=λc=>c=1) (h':=h') (x.ak λc _ a=>by rw[a];exact b.kd) (by decide);have e: ∀ {c},c<h.size->N8 k h.size (· =gw) 5 c=k c:=λa=>H7 a
 have hi: ∀c,M.dj gw [] c->c=gw:=λc a=>by
  rcases a with rfl|⟨x,j,_⟩
  ·rfl
  ·cases j
 refine⟨a,d.box (by decide),d.log (by decide),d.gT (by decide),T,d.cG (by decide),b.dt,d.dx (by decide) _ (λc a=>e a),d.names (by decide),
  by rw[e b.iq];exact b.kd,λc a=>by rw[e (b.box.lt a)];exact b.kb c a,by rw[e b.pG];exact b.kl,by rw[e b.pH];exact b.kn,λc a=>by rw[hi c a];exact sZ i rfl,λc a=>by rw[e (Ux b.cG a)];exact b.kt c a,
  λc a=>by rw[e (Ux b.names a)];exact b.kx c a,λc a=>?_,d.ext⟩
 by_cases l:c<h.size
 ·rw[e l] at a;exact⟨(b.own c a).1,by have:=d.size;omega⟩
 ·by_cases f:c=gw
  ·subst f;exact⟨by have:=b.ext.size;omega,T.lt (.inl rfl)⟩
  ·exact absurd (XK (S:=(· =gw)) (by omega) f) a
open Classical in
noncomputable def OE (k:Nat->Nat) (b:Nat) (tp np:Sl) (a:Nat->Prop):Nat->Nat:=λc=>if k c≠0 then k c else if tp.ag=some c then 6 else if np.ag=some c then 7 else if a c then 8 else 0
theorem bO.fx(d:bO g h q k st m){tp np:Sl}{ps:List Nat}{ts:List (Nat×List Pr)}{next bV:Nat}{S:Nat->Prop}
  (a:h'[q.d]? =some (J2 (eU {q with tp:=tp,np:=np} {st with next:=next,bV:=bV} false) Ki (0,0))) (x:Mod (λc=>c=q.d\/q.tp.ag=some c\/q.np.ag=some c) h h')
  (G:Own gY Bf h' tp ps) (on:Own Jh BM h' np (ts.map λp=>(p.1:Int))) (I:ps.length=ts.length)
  (n: ∀c,tp.ag=some c->q.tp.ag=some c\/(k c=0/\g.size<=c/\np.ag≠some c/\ ¬S c)) (o: ∀c,np.ag=some c->q.np.ag=some c\/(k c=0/\g.size<=c/\tp.ag≠some c/\ ¬S c)) (J: ∀c,S c->g.size<=c/\c<h'.size)
  (K: ∀(i:Nat) (t:Nat) (p:Nat×List Pr),ps[i]? =some t->ts[i]? =some p->(∃ e:Nat,q.ps[e]? =some t/\st.ts[e]? =some p)\/ ∃lo hi,bU h' t p.2 (Rh p.2) lo hi/\hi<=h'.size/\(∀ c,lo<=c->c<hi->S c/\k c=0)/\UU p.2):
  bO g h' {q with tp:=tp,np:=np,ps:=ps} (OE k h.size tp np S) {st with ts:=ts,next:=next,bV:=bV} m:=by
 have j:=d.rest (C:=λc=>c=1\/c=6\/c=7) (h':=h') (x.ak λc _ a=>by
  rcases a with rfl|a|a
  ·exact .inl d.kd
  ·exact .inr (.inl (d.kt c a))
  ·exact .inr (.inr (d.kx c a))) (by decide)
 have f: ∀ {c e},k c=e->e≠0->OE k h.size tp np S c=e:=λb r=>by unfold OE;rw[if_pos (by rw[b];exact r)];exact b
 refine⟨a,j.box (by decide),j.log (by decide),j.gT (by decide),j.fresh (by decide),G,I,λi t p b r=>?_,on,f d.kd (by decide),λc a=>f (d.kb c a) (by decide),f d.kl (by decide),f d.kn (by decide),λc a=>f (d.kf c a) (by decide),λc a=>?_,λc a=>?_,λc a=>?_,j.ext⟩
 ·rcases K i t p b r with⟨e,L,M⟩|⟨lo,hi,s,u,v,w⟩
  ·obtain⟨lo,hi,s,u,v,w⟩:=j.dx (by decide) k (λ_ _=>rfl) e t p L M;exact⟨lo,hi,s,u,λc y z=>f (v c y z) (by decide),w⟩
  ·refine⟨lo,hi,s,u,λc y z=>?_,w⟩;obtain⟨A,B⟩:=v c y z;have N:tp.ag≠some c:=λD=>by
    rcases n c D with h|h
    ·have:=d.kt c h;rw[B] at this;cases this
    ·exact h.2.2.2 A
   have O:np.ag≠some c:=λD=>by
    rcases o c D with h|h
    ·have:=d.kx c h;rw[B] at this;cases this
    ·exact h.2.2.2 A
   unfold OE;rw[if_neg (by simp[B]),if_neg N,if_neg O,if_pos A]
 ·rcases n c a with b|b
  ·exact f (d.kt c b) (by decide)
  ·unfold OE;rw[if_neg (by simp[b.1]),if_pos a]
 ·rcases o c a with b|b
  ·exact f (d.kx c b) (by decide)
  ·unfold OE;rw[if_neg (by simp[b.1]),if_neg b.2.2.1,if_pos a]
 ·by_cases l:k c=0
  ·unfold OE at a;rw[if_neg (by simp[l])] at a;by_cases E:tp.ag=some c
   ·refine⟨?_,Ux G E⟩;rcases n c E with b|b
    ·have:=d.kt c b;rw[l] at this;cases this
    ·exact b.2.1
   ·rw[if_neg E] at a;by_cases F:np.ag=some c
    ·refine⟨?_,Ux on F⟩;rcases o c F with b|b
     ·have:=d.kx c b;rw[l] at this;cases this
     ·exact b.2.1
    ·rw[if_neg F] at a;by_cases H:S c
     ·exact J c H
     ·rw[if_neg H] at a;exact absurd rfl a
  ·exact⟨(d.own c l).1,by have:=(d.own c l).2;have:=j.size;omega⟩
end
theorem AUt {a:Nat}(h:a<=99999999):Nb (cA a)=false:=by
 have b:(cA a).size=1+(Lib.decDigits a).length:=by have:=BF (cA a);rw[p7] at this;rw[<- this];simp;omega
 have c:(Lib.decDigits a).length<=20:=by rw[Lib.decDigits_length];exact Lib.nDigits_le20 a (by omega)
 unfold Nb;rw[Ge,decide_eq_false_iff_not,decide_eq_false_iff_not];refine⟨λh=>?_,by omega⟩;rw[h] at b;have:cN.size=0:=rfl;omega
theorem Zc {A:ao}{h:aa}{a:Nat}{R:A2X}(c:bR h)(l:a<=1099511627776)(d: ∀b,Ext h b->R (J7 (cA a)) b):AA A P Je #[J6 J9 a] h R:=by
 refine ALH ?_;unfold xq;refine Wy c.dx (by omega) (by omega) λe f=>⟨_,rfl,?_⟩
 have i:Lib.itoa (a:Int)=Lib.decDigits a:=Lib.itoa_nonneg a;rw[i];have n:(Lib.decDigits a).length<=20:=by rw[Lib.decDigits_length];exact Lib.nDigits_le20 a (by omega)
 have j:(⟨(Lib.decDigits a).toArray⟩:A2Y).size=(Lib.decDigits a).length:=by simp[ByteArray.size]
 refine⟨?_,?_⟩
 ·rw[j,max_i64];have:(⟨#[116]⟩:A2Y).size=1:=rfl;omega
 ·exact d e f
section
variable {A : ao} {g h : aa} {q : Hp} {k : Nat -> Nat} {st : Db} {m : Bx} {R : A2X}
theorem bO.im(a:bO g h q k st m)(b:bR g):bR h:=b.ext a.ext
def Grow(k a:Nat->Nat)(b:Nat):Prop:= ∀c,c<b->a c=k c
theorem ALP {k:Nat->Nat}{a b:Nat}{d:Nat->Prop}:Grow k (N8 k a d b) a:=λc e=>H7 e
theorem AUB(b:bO g h q k st m)(t:st.next<=99999999)(M:st.bV<=99999999)(N:st.ts.length<=60000)(u: ∀p∈st.ts,p.1<=99999999)(E: ∀v,Ext h v->R (J7 (Ae (mC ⟨st.next,st.bV,st.ts.map (·.1)⟩))) v):AA A P RQ #[Ap q.d] h R:=by
 refine AF5 ?_;unfold YA;refine aA (AC.mk (AB b.cell rfl) (aA (AC.mk (AB b.cell rfl) (aA (AV.mk (s:=q.np) (AB b.cell rfl) ?_)))));rw[CL (by omega)];refine Cj (by omega) λO w=>⟨_,rfl,?_⟩
 have f:=Ay w b.cell;refine⟨AB f rfl,AB f rfl,?_⟩;rw[CL (by omega)];refine Cj (by omega) λQ y=>⟨_,rfl,?_⟩
 have z:=Ay y f;have S:=AZ (n:=st.next) (by omega);have T:=AZ (n:=st.bV) (by omega);have j:q.np.len=st.ts.length:=by rw[b.names.len];simp
 refine⟨AB z rfl,by rw[AP,AP,max_i64];omega,?_⟩;rw[j,CL (by omega),Aq];refine Cj (by omega) λF B=>⟨_,rfl,?_⟩
 have G:=Ay B z;have U:=AZ (n:=st.ts.length) (by omega);refine⟨by rw[AP,AP,A1,max_i64];omega,?_⟩;refine aA (AV.mk (s:=q.np) (AB G rfl) ?_);rw[Aq];have C:=(w.trans y).trans B;have H:=(b.names.ext C).view;have V: ∀i,((st.ts.map (·.1)).take i).flatMap Bt=((st.ts.map (·.1)).take i).flatMap Bt:=λ_=>rfl
 refine Loop.rule (λD x o=> ∃i:Nat,x=(Ae (Bt st.next++Bt st.bV++Bt st.ts.length++((st.ts.map (·.1)).take i).flatMap Bt),(i:Int),())/\D=st.ts.length-i/\i<=st.ts.length/\Ext F o) ?_ ⟨0,by simp,rfl,by omega,Mod.refl⟩;rintro K D _ o ⟨i,rfl,rfl,hi,r⟩ I;dsimp only;refine ab.intro (λe=>?_) (λe=>?_)
 ·have d:i<st.ts.length:=by rw[<- j];simpa using e
  have af:st.ts[i]? =some st.ts[i]:=A2 d;have W:=u st.ts[i] (BT d);refine(H.ext r).idx (i:=i) (x:=(st.ts[i].1:Int)) (by rw[eV,B9,af];rfl) λa _ c=>AC.mk c.int ?_
  rw[CL (by omega)];refine Cj (by omega) λX J=>⟨_,rfl,?_⟩
  have Y:=AZ (n:=st.ts[i].1) (by omega);have Z:=sS (l:=(st.ts.map (·.1)).take i) λn t=>by
   obtain⟨p,L,rfl⟩:=List.mem_map.1 (DE t);exact u p L
  have aa:((st.ts.map (·.1)).take i).length<=60000:=by simp;omega
  refine⟨by rw[AP,AP,max_i64];simp only[A1];omega,?_⟩;rw[Aq,Ac (by omega)];refine I (st.ts.length-(i+1)) _ _ (by omega) ⟨i+1,?_,rfl,d,r.trans J⟩;rw[AE,B9,af];simp
 ·have d:i=st.ts.length:=by rw[j] at e;simp at e;omega
  subst d;have:=E o (C.trans r);rw[AD (by simp)];simpa [mC] using this
theorem ASC {n:Nat}{s:Sl}{l:List Pr}(v:bR g)(E:bO g h q k st m)(c:Calm m)(T:UU l)(aa:View Bg h s l)(w: ∀c,s.ag=some c->c<h.size)(ac:n<=99999999)(ae:ff m (cA n)=none)(af:bJ m.files+(ZA l).length+1<=8796093022208)
  (ag: ∀b S' y e t lo hi,bO g b {q with Sb:=S'} y st e->Calm e->(∀ x,x≠cA n->ff e x=ff m x)->ff e (cA n)≠none->bJ e.files<=bJ m.files+(ZA l).length+1->bU b t l (Rh l) lo hi->h.size<=lo->hi<=b.size->(∀ c,lo<=c->y c=0)->
   Mod q.Sb h b->Grow k y h.size->R (J1 #[Ap t,J6 J9 0]) b):AA A P Ou #[Ap q.d,J6 J9 (n:Int),J4 s.p s.len s.cap] h R:=by
 refine AGI ?_;unfold xl;refine ARj T aa w λav F=>⟨_,_,rfl,ab.no rfl ?_⟩
 have o:=E.on F;refine aA (AY.mk (AO o.cell rfl) ?_);refine Zc (o.im v) (by omega) λah z=>⟨_,rfl,⟨AO (o.on z).cell rfl,?_⟩⟩
 have G:=o.on z;have H:=F.trans z;have aw:=H.size;refine tQ G.box (by rw[AP];exact af) λai f aj B I=>⟨_,rfl,?_⟩
 have J:=rV E.box.aJ (cA n) (Ae (ZA l));rw[AP] at J;have ak:Mod q.Sb h ai:=(Ext.mod H).trans B;have al: ∀c,f c->q.Sb c\/h.size<=c:=λc a=>(I c a).imp id λh=>by omega
 obtain⟨am,C⟩:=rN c.goes (d:=Ae (ZA l)) (AUt ac);have K:=Vk c (cA n) (Ae (ZA l));rw[am];refine ab.no rfl ?_;have i:=G.boxed (j:=2) (bF:=st) aj (B.ak λc _ a=> .inl a) I rfl rfl rfl rfl (.inl ⟨by decide,rfl,rfl⟩) (.inl ⟨by decide,rfl⟩);generalize (FY m (cA n) (Ae (ZA l))).2=L at*
 refine aA (AY.mk (AO i.cell rfl) ?_);refine Zc (i.im v) (by omega) λan p=>⟨_,rfl,⟨AO (i.on p).cell rfl,?_⟩⟩
 have M:=i.on p;rw[ae] at C;have ao:ff L (cA n)=some (cN,cN++Ae (ZA l)):=by rw[C,if_pos rfl];rfl
 refine tT M.box λax N D=>⟨_,rfl,?_⟩
 have ap:=oJ i.box.aJ (cA n);obtain⟨aq,O⟩:=oE K.goes ao;have Q:=XH K (cA n);rw[aq];refine ab.no rfl ?_;have r:=M.boxed (j:=2) (bF:=st) N (D.ak λc _ a=> .inl a) (λc a=> .inl a) rfl rfl rfl rfl (.inl ⟨by decide,rfl,rfl⟩) (.inl ⟨by decide,rfl⟩);generalize (LV L (cA n)).2=S at*
 refine aA (AY.mk (AO r.cell rfl) ?_);refine Zc (r.im v) (by omega) λU u=>⟨_,rfl,⟨AO (r.on u).cell rfl,?_⟩⟩
 have V:=r.on u;refine ARt V.box ⟨_,_,rfl,?_⟩;have W:ff S (cA n)=some (Ae (ZA l),cN):=by rw[O,if_pos rfl,zf,zf]
 rw[AT2 Q.1,W];dsimp only;rw[AUZ];refine ab.no rfl ?_;refine ASS T.eZ λX t Y ar=>⟨_,_,rfl,?_⟩
 have ay:=p.size;have az:=B.size;have aC:=D.size;have aD:=u.size;have au: ∀c,U.size<=c->N8 (N8 k ah.size f 2) an.size f 2 c=0:=λc a=>by
  have: ¬f c:=λw=>by have:=N.lt w;omega
  exact XK (by omega) this
 refine ag X f _ S t U.size X.size (V.on Y) Q (λx Z=>by rw[O,if_neg Z,C,if_neg Z]) (by rw[W];simp) (AK ap J) ar (by omega) (A0 _) (λc a=>au c a) ?_ ?_
 ·exact((ak.then ((Ext.mod p).trans D |>.ak λc _ a=>al c a)).trans (Ext.mod u)).trans (Ext.mod Y)
 ·exact λc a=>by
   rw[H7 (by omega),H7 (by omega)]
end
section
variable {A : ao} {g h : aa} {q : Hp} {k : Nat -> Nat} {st : Db} {m : Bx} {R : A2X}
theorem bO.fM(a:bO g h q k st m)(e:bR g){d:aa}(x:Mod (λc=>q.Sb c\/c=q.lg\/c=q.nt) h d):bR d:=
 e.ext (a.rest (C:=λc=>c=2\/c=3\/c=4) (x.ak λc _ b=>by
  rcases b with b|rfl|rfl
  ·exact .inl (a.kb c b)
  ·exact .inr (.inl a.kl)
  ·exact .inr (.inr a.kn)) (by decide)).ext
theorem AN1(f:bR g)(b:bO g h q k st m)(c:Calm m)(o:st.next<=99999999)(I:st.bV<=99999999)(J:st.ts.length<=60000)(K: ∀p∈st.ts,p.1<=99999999)(ay:st.aZ+2<=99999999)(az:bJ m.files+1000000<=8000000000000)
  (X: ∀i S' L s,bO g i {q with Sb:=S'} L {st with aZ:=st.aZ+1} s->Calm s->(∀ l,(∀ t,l≠br nn t)->ff s l=ff m l)->bJ s.files<=bJ m.files+700000->Mod (λc=>q.Sb c\/c=q.nt) h i->Grow k L h.size->R (J6 J9 0) i):AA A P Ka #[Ap q.d] h R:=by
 have Y:=ASg (x:=⟨st.next,st.bV,st.ts.map (·.1)⟩) o I (by simpa using J) λt o=>by
  obtain⟨p,Z,rfl⟩:=List.mem_map.1 o;exact K p Z
 rw[show({next:=st.next,bV:=st.bV,names:=st.ts.map (·.1)}:Nt).names.length=st.ts.length from AT _] at Y;refine AFB ?_;unfold X0;refine aA (AY.mk (AB b.cell rfl) ?_);refine AUB b o I J K λaC u=>⟨_,rfl,⟨AB (b.on u).cell rfl,?_⟩⟩
 generalize mC ⟨st.next,st.bV,st.ts.map (·.1)⟩=e at*
 have n:=b.on u;have aD:=u.size;have aa:(Ae e).size=e.length:=AP _;refine AFd (n.im f) n.gT n.box n.tI (λi x=>n.fM f (x.ak λc _ a=> .inl a)) (by decide) (by omega) (by rw[aa];omega) (by omega) λz B C v ac M=>⟨_,rfl,?_⟩
 rw[show bl (Ae e)=e from Fg _] at C v ⊢;have ae:=rV b.box.aJ (br nn st.aZ) (Ae (Iq e));have aE:=(LX (r:=e) (by omega)).2;rw[AP] at ae;have D:Mod (λc=>q.Sb c\/c=q.nt) h z:=(Ext.mod u).trans ac;have w: ∀c,B c->q.Sb c\/h.size<=c:=λc a=>(M c a).imp id λh=>by omega
 obtain⟨af,N⟩:=rN c.goes (k:=br nn st.aZ) (d:=Ae (Iq e)) (ANe (by decide) (by omega));have O:=Vk c (br nn st.aZ) (Ae (Iq e));rw[af] at v ⊢;refine ab.no rfl ?_;rw[decide_eq_true rfl,IH] at v;generalize (FY m (br nn st.aZ) (Ae (Iq e))).2=Q at*
 have E: ¬B q.nt:=λa=>by
  rcases M _ a with h|h
  ·exact b.tI h
  ·exact h.2 rfl
 have ag:z[q.d]? =some (J2 (eU q st false) Ki (0,0)):=D.ag b.cell (by rintro(h|h);exact b.tJ h;exact b.dn h);refine aA (AY.mk (AB ag rfl) ?_);have S:=N (br nn st.aZ);rw[if_pos rfl] at S;have ah:bR z:=b.fM f (D.ak λc _ a=>a.imp id .inr);obtain⟨ai,aj⟩:=oE O.goes S;have ak:=XH O (br nn st.aZ);refine AEU ah v C E (by decide) (by omega) (λal=>absurd ai al) λaF F G T am=>⟨_,_,rfl,?_⟩
 have G:Dw F q.b B (LV Q (br nn st.aZ)).2:=G;have aG:=oJ C.aJ (br nn st.aZ);generalize (LV Q (br nn st.aZ)).2=aH at*
 refine ab.no rfl ?_;have y:Mod (λc=>q.Sb c\/c=q.nt) h F:=D.then (am.ak λc _ a=>by
  rcases a with a|rfl
  ·exact(w c a).imp .inl id
  ·exact .inl (.inr rfl))
 have an:F[q.d]? =some (J2 (eU q st false) Ki (0,0)):=y.ag b.cell (by rintro(h|h);exact b.tJ h;exact b.dn h);refine aA (AY.mk (AB an rfl) ?_);have ao:J8 J9 (((st.aZ:Nat):Int)-(1:Int))=(st.aZ:Int)-1:=wrap_i64 (by omega) (by omega);rw[ao];refine ALB (b.fM f (y.ak λc _ a=>a.imp id .inr)) (λi x=>b.fM f ((y.then (x.ak λc _ a=>(w c a).imp .inl id)).ak λc _ a=>a.imp id .inr)) T G ak E (by decide) (by omega) (λh=>absurd h (by omega)) λ_ U ap aq ar au V av aI aJ aw=>⟨_,rfl,?_⟩
 have W:Mod (λc=>q.Sb c\/c=q.nt) h U:=y.then (V.ak λc _ a=>(w c a).imp .inl id);have ax:=b.boxed (j:=4) (bF:= {st with aZ:=st.aZ+1}) ar (W.ak λc _ a=>a.imp id λh=> .inr ⟨rfl,h⟩) (λc a=>w c (av c a)) rfl rfl rfl rfl (.inl ⟨by decide,rfl,rfl⟩) (.inr (T.mod V E));refine X U ap _ aq ax au (λl H=>?_) (by omega) W ALP;rw[aw l λt _ _ _=>H t,aj,if_neg (H _),N,if_neg (H _)]
end
end Go.Lf.G
namespace Go.Lf.G.M
open Go Go.Lf Go.Lf.G
theorem ANC {N:ao}{n:aa}{b:Nat}{T:Q7}{fr:Nat×Nat}{s:Sl}{l:List Pr}(f:n[b]? =some (J2 #[J4 s.p s.len s.cap] T fr))(v:View Bg n s l)(ag:l.length<=1099511627776):
  Ee N P (.func (.func DY) #[] #[J5 (some ⟨b,0,none⟩)]) (λc=>c<n.size/\(c=b\/s.ag=some c)) n l:=by
 refine⟨λc o=>o.1,_,_,rfl,λO=>by kernel_rfl,λe E O Q h ah hd hB R S=>?_⟩;rw[rj];refine Ip ?_;unfold FB;have F:=Ai f;have U: ∀d,Mod h e d->d[b]? =some (J2 #[J4 s.p s.len s.cap] T fr):=λd m=>by
  have w:=E b ⟨F,.inl rfl⟩;exact m.ag (w.trans f) (hd b ⟨F,.inl rfl⟩)
 have V: ∀i x,l[i]? =some x-> ∃a,s.p=some a/\ ∀d,Mod h e d->Cells d (a.add (i*3)) (Bg.enc x):=λi x hi=>by
  obtain⟨a,q,o⟩:=v.cells i x hi;refine⟨a,q,λd m W u r=>?_⟩;have G:=o W u r;have H:=Zt G;rw[aP,aP] at H;have I:a.block<n.size/\(a.block=b\/s.ag=some a.block):=⟨H,.inr (by simp[Sl.ag,q])⟩;have w:=E _ I;refine m.af ((SE ?_).trans G) ?_
  ·rw[aP,aP];exact w
  ·rw[aP,aP];exact hd _ I
 refine AV.mk (AO (U e Mod.refl) rfl) ?_;refine Loop.rule (λm x d=> ∃(i:Nat) (k:Nat->Prop),x=((i:Int),())/\m=l.length-i/\i<=l.length/\Mod h e d/\(∀ b,k b->h b\/e.size<=b)/\Q i true k d) ?_ ⟨0,h,rfl,rfl,by omega,Mod.refl,λb f=> .inl f,S⟩;rintro K m _ d ⟨i,k,rfl,rfl,hi,t,y,r⟩ X;refine ab.intro (λj=>?_) (λj=>?_)
 ·have p:i<l.length:=by simp[v.len] at j;omega
  obtain⟨a,q,o⟩:=V i _ (A2 p);have z:=o d t;refine aY.mk q (by rw[v.len];exact p) ?_;refine AL.mk (z.pair.1) (AL.mk z.pair.2.1 (Aa.mk z.pair.2.2 ?_));refine ai.pair λaj Y ak A B al=>?_
  refine AL.mk (AO A rfl) (AL.mk (AB A rfl) (Aa.mk (AB A rfl) ?_));have Z:=hB.aX _ _ _ _ _ r (B.ak (S':=λb=>¬k b/\e.size<=b) λ_ _ e=>e.elim);refine EM.mono (R i _ k Y (A2 p) Z) ?_;rintro _ ac ⟨g,C,rfl,ae,af,J⟩;have L: ∀b,C b->h b\/e.size<=b:=λb f=>(ae b f).elim (y b) λam=> .inr (by have:=t.size;have:=B.size;omega)
  have M:Mod h e ac:=(t.trans B.mod).then (af.ak λb _ f=>(y b f));refine⟨g,rfl,?_⟩;refine ab.intro (λj=>?_) (λj=>?_)
  ·refine⟨rfl,i+1,g,C,M,L,J,λD=>?_,by omega⟩;subst D;cases j
  ·have D:g=true:=by simpa using j
   subst D;exact X _ _ _ (by omega) ⟨i+1,C,by rw[Ac (by omega)],rfl,by omega,M,L,J⟩
 ·have p:i=l.length:=by simp[v.len] at j;omega
  exact⟨rfl,i,true,k,t,y,r,λ_=>p,by omega⟩
theorem tL {d:ao}{a:aa}{s:Sl}{l:List Pr}{e:A2X}(v:View Bg a s l)(g:l.length<=1099511627776)
  (h: ∀fv b,Ee d P fv (λc=>c<b.size/\(c=a.size\/s.ag=some c)) b l->Ext a b->b.size=a.size+1->e fv b):AA d P Co #[J4 s.p s.len s.cap] a e:=by
 refine JN ?_;unfold FN;refine ai.mk λi _ j f k=>?_
 exact h _ i (ANC j (v.ext f) g) f k
theorem pI {aq:ao}{t:aa}{fv:J0}{S:Nat->Prop}{l:List Pr}{e:A2Y}{n:Int}{ar:A2X}(A:(fv= .nilFunc/\l= [])\/Ee aq P fv S t l)(bh:l.length<=1099511627776)
  (V: ∀G o,Own Bg AU o G (RH e n l)->(∀ c,G.ag=some c->t.size<=c)->Ext t o->ar (J4 G.p G.len G.cap) o):AA aq P MZ #[fv,J7 e,J6 J9 n] t ar:=by
 refine AGb ?_;unfold vY;refine ai.mk λau _ aX aY aZ=>ai.mk λq _ a0 av bi=>ai.mk λd _ a1 W bj=>?_
 have X:Ext t d:=(aY.trans av).trans W;have a2:d[t.size]? =some (J2 #[J7 e] BD (0,0)):=W.ag (av.ag aX (by simp)) (by simp);have aw:d[au.size]? =some (J2 #[J6 J9 n] BM (0,0)):=W.ag a0 (by simp);refine ah.mk λK ax=>?_
 have ay:RH e n l= []->K (true,()) d:=λf=>ax _ _ (ab.yes rfl (V ⟨none,0,0⟩ d (f▸Own.nil) (λc j=>by simp[Sl.ag] at j) X))
 rcases A with⟨rfl,rfl⟩|A
 ·exact⟨trivial,ab.yes rfl (ay (by simp[RH]))⟩
 refine⟨A.one.2.1,ab.no A.one.2.2 ?_⟩;refine AC.mk (AO aw rfl) ?_;cases O:decide (n<=0)
 ·refine ax _ _ (ab.no rfl ?_);have O:0<n:=by simpa using O
  have az: ∀o:aa,Mod (λc=>c=q.size) d o->Ext t o:=λo m=>X.then (m.ak λc _ j=> .inr (by omega))
  have bk:=(XS (l:=l) (Sv e)).length_le;refine Yy A (λb a=>X.get b (A.1 b a) (by simp))
   (λi c Y r=>r[t.size]? =some (J2 #[J7 e] BD (0,0))/\r[au.size]? =some (J2 #[J6 J9 n] BM (0,0))/\ ∃(s:Sl) (u:List Pr),r[q.size]? =some (J2 #[J4 s.p s.len s.cap] AR (0,0))/\Own Bg AU r s u/\(∀ b,Y b↔(b=q.size\/s.ag=some b))/\(∀ b,s.ag=some b->b<r.size/\q.size<b)/\match c with
    |none=>u=l.take i/\i<=(l.takeWhile (Sv e)).length/\(i:Int)<n
    |some aA=>aA=some 0/\u=RH e n l)
   (λb=>b=q.size) (λb a f=>by have:=A.1 b a;omega) ?_ ?_ ?_ ?_ ?_ ?_
  ·rintro i c Y r ⟨_,_,s,u,q,v,h,k,_⟩ b a;rcases(h b).1 a with rfl|d
   ·exact Ai q
   ·exact(k b d).1
  ·rintro i c Y r o ⟨H,I,s,u,w,v,h,k,a3⟩ m;refine⟨m.ag H (λt=>by omega),m.ag I (λt=>by omega),s,u,m.ag w (λZ=>Z.1 ((h _).2 (.inl rfl))),v.mod m (λc j Z=>Z.1 ((h _).2 (.inr j))),h,λb a=>⟨?_,(k b a).2⟩,a3⟩;have:=m.size;have:=(k b a).1;omega
  ·exact⟨a2,aw,⟨none,0,0⟩,[],a1,Own.nil,λb=>by simp[Sl.ag],λb a=>by simp[Sl.ag] at a,by simp,by omega,by simpa using O⟩
  ·rintro i x ac r rec bm bn hi ⟨H,I,s,u,w,v,h,k,rfl,Q,a4⟩ aC aZ a5 a6 a7 aD;have bo:=(List.getElem?_eq_some_iff.1 hi).1;have aE:=WV (p:=Sv e) (l:=l) Q;refine ai.pair λbp aF bq a8 C br=>?_
   refine⟨rec,C.ag a5 (by simp),a6,?_⟩;generalize aG:aF.setIfInBounds (d.size+1) (.loop {rec with state:= .busy})=D;have B:Mod (λb=>b=d.size+1) aF D:=aG▸Mod.setObj rfl;have aH:D[d.size+1]? =some (.loop {rec with state:= .busy}):=by rw[<- aG];exact Ci (by omega)
   have R:=B.ag a8 (by omega);have T:=B.ag (C.ag H (by simp)) (by omega);have aJ:=B.ag (C.ag I (by simp)) (by omega);have aK:Mod (λb=>b=d.size+1) r D:=(Ext.mod C).trans B;have af:=B.ag (C.ag w (by simp)) (by omega);have bs:=Ai w;have aL:=(v.ext C).mod B (λc j f=>aC ((h _).2 (.inr (f▸j))));have bt:=B.size;have aM:(l.take i).length=i:=by simp;omega
   refine ah.mk λag aN=>?_
   have a9:Sv e x=false->ag (true,()) D:=λJ=>aN _ _ (ab.yes rfl (aD _ _ (by
    refine⟨ac,λb a=> .inl a,aK.ak λb _ a=> .inr a,aH,T,aJ,s,l.take i,af,aL,h,λb a=>⟨?_,(k b a).2⟩,rfl,?_⟩
    ·have:=(k b a).1;omega
    ·have:=aE.2.1 _ hi J;have H:(l.takeWhile (Sv e)).take i=l.takeWhile (Sv e):=AD (by omega);have I:(l.takeWhile (Sv e)).take n.toNat=l.takeWhile (Sv e):=AD (by omega);unfold RH;rw[I,<-nR Q,H])))
   have aO:Sv e x=true->ag (false,()) D:=λJ=>aN _ _ (ab.no rfl (by
    have bu:=aE.1 _ hi J;refine AV.mk (AO af rfl) (AL.mk (AO R rfl) (AL.mk (AB R rfl) (Aa.mk (AB R rfl) ?_)));refine ai.aV (E:=Bg) (x:=x) rfl Ii aL (by rw[aM];omega) (by rw[aM];simp[maxLen];omega) λy ba aP F aj _=>?_
    have bb:s.ag≠some q.size:=λf=>by have:=k _ f;omega
    refine ae.mk (F.ag af bb) (by simp) λak bc L bv=>?_
    have bw:=F.size;have al:ak[q.size]? =some (J2 #[J4 y.p y.len y.cap] AR (0,0)):=by simpa using bc
    have U:=aP.mod L (λc j f=>by
     rcases aj c j with d|d
     ·have:=k _ d;omega
     ·omega)
    have aQ:=L.ag (F.ag T (λf=>by have:=k _ f;omega)) (by omega);have am:=L.ag (F.ag aJ (λf=>by have:=k _ f;omega)) (by omega);have bd:l.take i++ [x]=l.take (i+1):=by rw[AE,hi];rfl
    rw[bd] at U;have aR: ∀b,(b=q.size\/y.ag=some b)->ac b\/r.size<=b:=by
     rintro b (rfl|a)
     ·exact .inl ((h _).2 (.inl rfl))
     ·rcases aj b a with d|d
      ·exact .inl ((h _).2 (.inr d))
      ·exact .inr (by omega)
    have aS:Mod (λb=>ac b\/b=d.size+1) r ak:=
     ((aK.ak λb _ a=> .inr a).trans (F.ak λb _ a=> .inl ((h _).2 (.inr a)))).trans (L.ak λb _ a=> .inl ((h _).2 (.inl a)))
    have aT:=L.ag (F.ag aH (λf=>aC ((h _).2 (.inr f)))) (by omega);have aU: ∀b,y.ag=some b->b<ak.size/\q.size<b:=by
     intro b a;have bx:b<ba.size:=by
      rcases aP.row with⟨rfl,_⟩|⟨g,bz,J,be,_⟩
      ·simp[Sl.ag] at a
      ·simp[Sl.ag,J] at a;subst a;exact Ai be
     refine⟨by omega,?_⟩;rcases aj b a with d|d
     ·exact(k _ d).2
     ·omega
    refine AV.mk (AO al rfl) (AC.mk (AO am rfl) ?_);have aV:y.len=i+1:=by rw[U.len];simp;omega
    refine ab.intro (λz=>aD _ _ ?_) (λz=>a7 _ ?_)
    ·refine⟨_,aR,aS,aT,aQ,am,y,_,al,U,λ_=>CC,aU,rfl,?_⟩;have z:((i+1:Nat):Int)=n:=by rw[aV] at z;simpa using z
     unfold RH;rw[<- z,A6,nR (by omega)]
    ·refine⟨_,aR,aS,aT,aQ,am,y,_,al,U,λ_=>CC,aU,rfl,by omega,?_⟩;have z:((i+1:Nat):Int)≠n:=by rw[aV] at z;simpa using z
     omega))
   refine AL.mk (AO T rfl) ?_;rw[Bl];refine ab.intro (λM=>?_) (λM=>?_)
   ·refine AL.mk (AO R rfl) (AL.mk (AO T rfl) ?_);show ag (!aI x.key e,()) D;cases aW:aI x.key e
    ·exact a9 (by simp at M;simp[Sv,M,aW])
    ·exact aO (by simp[Sv,aW])
   ·exact aO (by simp at M;simp[Sv,M])
  ·rintro O' o ⟨_,_,s,u,w,v,h,k,rfl,Q,a4⟩ N an bf ap;have bg:=N.size;refine AV.mk (AO w rfl) ⟨ap,?_⟩;have:RH e n l=l.take l.length:=by unfold RH;rw[AD (by omega),<-nR Q,AD (by omega)]
   rw[<- this] at v;refine V s _ (v.mod (Mod.setObj (S:=λc=>c=d.size) rfl) λc j f=>an ((h _).2 (.inr (f▸j)))) (λc j=>by have:=k _ j;omega) ?_;exact(az o N).then (Mod.setObj (.inr (by omega)))
  ·rintro i aA O' o ⟨_,_,s,u,w,v,h,k,rfl,rfl⟩ hi N an bf ap;have bg:=N.size;refine AV.mk (AO w rfl) ⟨ap,?_⟩;refine V s _ (v.mod (Mod.setObj (S:=λc=>c=d.size) rfl) λc j f=>an ((h _).2 (.inr (f▸j)))) (λc j=>by have:=k _ j;omega) ?_;exact(az o N).then (Mod.setObj (.inr (by omega)))
 ·refine ay ?_;have:n.toNat=0:=by simp at O;omega
  simp[RH,this]
end Go.Lf.G.M
namespace Go.Lf.G
open Go
open M (Sorted Ab Bw BJ Af Ak BN Ah ba BB aH RH Sv)
def jW(f t k:A2Y):Bool:= !aI k f&&(decide (t=⟨#[]⟩)||aI k t)
def Sj(f t:A2Y)(l:List Pr):List Pr:=l.filter λx=>jW f t x.key
def mG(m:List Pr)(f t:A2Y)(a:Int):List Pr:=(Sj f t m).take a.toNat
theorem ABw {p:Pr->Bool}{a:A2Y->Bool}(b: ∀x,p x=a x.key)(k:A2Y): ∀l:List Pr,Ab k (l.filter p)=if a k then Ab k l else none
 | []=>by split<;>rfl
 |x::l=>by
  have c:=ABw b k l;rw[AS,M.BG];by_cases h:x.key=k
  ·rw[if_pos h];cases d:a k with
   |true=>rw[if_pos (by rw[b,h];exact d),M.BG,if_pos h];rfl
   |false=>
    rw[if_neg (by rw[b,h,d];decide),c,d];rfl
  ·rw[if_neg h];split
   ·rw[M.BG,if_neg h];exact c
   ·exact c
theorem fG(k:A2Y): ∀ {l:List Pr},Sorted l->l.drop (aH k l)=l.filter λx=> !aI x.key k
 | [],_=>by simp
 |x::l,s=>by
  have b:=List.pairwise_cons.1 s;rw[Vt,AS];by_cases h:aI x.key k=true
  ·rw[if_pos h,if_neg (by simp[h]),HW];exact fG k b.2
  ·have c: ∀a∈l,(!aI a.key k)=true:=λa d=>by
    grind [aI,absurd,M.DW]
   rw[if_neg h,if_pos (by simp[h]),HP,List.filter_eq_self.2 c]
theorem ta(t:A2Y): ∀ {l:List Pr},Sorted l->l.takeWhile (Sv t)=l.filter (Sv t)
 | [],_=>rfl
 |x::l,s=>by
  have a:=List.pairwise_cons.1 s;rw[MD,AS];by_cases h:Sv t x=true
  ·rw[if_pos h,if_pos h,ta t a.2]
  ·rw[if_neg h,if_neg h];refine(List.filter_eq_nil_iff.2 λc d b=>h ?_).symm;have e:=a.1 c d;unfold M.Sv at b ⊢;rw[CI] at b ⊢
   grind [M.DW]
theorem AK7 {f t:A2Y}{l:List Pr}(s:Sorted l)(b:l.length<=1099511627776):RH t 1099511627776 (l.drop (aH f l))=Sj f t l:=by
 unfold M.RH;have a:Sorted (l.drop (aH f l)):=s.sublist (List.drop_sublist _ _);rw[ta t a,fG f s,List.filter_filter,AD]
 ·unfold Sj;exact HI λx _=>by unfold jW M.Sv;rw[Bool.and_comm]
 grind
theorem Yc {f t:A2Y}{l:List Pr}(s:Sorted l):Sorted (Sj f t l):=s.sublist GS
theorem AK3(k f t:A2Y)(l:List Pr):Ab k (Sj f t l)=if jW f t k then Ab k l else none:=ABw (λ_=>rfl) k l
theorem AHC(k f t:A2Y): ∀a:List (List Pr),Ak k (a.map (Sj f t))=if jW f t k then Ak k a else none
 | []=>by split<;>rfl
 |l::a=>by
  rw[C5,M.EX,M.EX,AHC k f t a,AK3];split<;>rfl
theorem ATN {f t:A2Y}{c:List (List Pr)}(d:ba c):ba (c.map (Sj f t)):=⟨λl a=>by
  obtain⟨x,b,rfl⟩:=List.mem_map.1 a;exact Yc (d.sorted x b),λl a=>by
  obtain⟨x,b,rfl⟩:=List.mem_map.1 a;exact λe i=>d.aJ x b e (List.mem_filter.1 i).1⟩
theorem ANv {f t:A2Y}{a:List (List Pr)}(b:ba a):Af (a.map (Sj f t))=Sj f t (Af a):=
 (M.EI _).ext (Yc (M.EI _)) λk=>by simp_all [M.MI,ATN,AHC,AK3]
theorem ATt {f t:A2Y}{a:List (List Pr)}(c:ba a)(b:Int):RH t b (BB (Af (a.map (Sj f t))))=mG (BB (Af a)) f t b:=by
 rw[ANv c];have d:BB (Sj f t (Af a))=Sj f t (BB (Af a)):=by simp_all [M.BB,Sj,List.filter_filter,HI,Bool.and_comm]
 rw[d];unfold M.RH mG;have h: ∀x∈Sj f t (BB (Af a)),Sv t x=true:=λx e=>by
  have:=(List.mem_filter.1 e).2;unfold jW at this;rw[A3] at this;exact this.2
 rw[ta t (Yc (WS (M.EI _))),List.filter_eq_self.2 h]
def Uo(A:ao)(h:aa)(s:Sl)(b:List (List Pr)):Prop:=
 ∃a,Own jK Bq h s a/\a.length=b.length/\ ∀(i:Nat) (v:gX) (l:List Pr),a[i]? =some v->b[i]? =some l->(∃ d,Ee A P v.v d h l/\ ∀c,d c->s.ag≠some c)/\l.length<=1099511627776
theorem Ee.at {A:ao}{fv:J0}{b T:Nat->Prop}{h e:aa}{l:List Pr}(d:Ee A P fv b h l)(x:Mod T h e)(f: ∀c,b c-> ¬T c):Ee A P fv b e l:=
 Ee.ak d (λ_ h=>h) (λc a=>by have:=d.1 c a;have:=x.size;omega) λc a=>x.get c (d.1 c a) (f c a)
theorem Uo.ext {A:ao}{h a:aa}{s:Sl}{b:List (List Pr)}(q:Uo A h s b)(x:Ext h a):Uo A a s b:=by obtain⟨c,d,e,hi⟩:=q;refine⟨c,d.ext x,e,λi v l f j=>?_⟩;obtain⟨⟨n,o,p⟩,r⟩:=hi i v l f j;exact⟨⟨n,Ee.at o x (λ_ _ h=>h),p⟩,r⟩
theorem Uo.nil {A:ao}{h:aa}:Uo A h ⟨none,0,0⟩ []:=⟨[],Own.nil,rfl,λi v l h=>by simp at h⟩
theorem Uo.kV {A:ao}{h:aa}{s:Sl}{b:List (List Pr)}(q:Uo A h s b):M.tK A (λ_=>False) h s b:=by obtain⟨f,d,j,hi⟩:=q;refine⟨f,d.view,λc a=>⟨d.lt a,λh=>h⟩,j,λi v l n o=> .inr ?_⟩;obtain⟨⟨r,e,t⟩,p⟩:=hi i v l n o;exact⟨e.ak (λc a=>⟨e.1 c a,λh=>h⟩) (λc a=>a.1) (λ_ _=>rfl),p⟩
theorem Uo.one {A:ao}{h a:aa}{fv:J0}{l:List Pr}{e:Nat->Prop}{b:Nat}(d:Ee A P fv e h l)(j:l.length<=1099511627776)(n:a[b]? =some (J2 #[fv] Bq (0,0)))(x:Ext h a)(r:h.size<=b):Uo A a ⟨some ⟨b,0,none⟩,1,1⟩ [l]:=by
 refine⟨[⟨fv,d.one.1⟩],Own.lit (l:= [(⟨fv,d.one.1⟩:gX)]) n rfl (by simp[maxLen]),rfl,λi v s a f=>?_⟩;have hi:i=0:=by grind
 subst hi;simp only[HA,Bs] at a f;subst a f;exact⟨⟨e,Ee.at d x (λ_ _ h=>h),λc o p=>by have:=d.1 c o;simp[Sl.ag] at p;omega⟩,j⟩
theorem Uo.add {A:ao}{h:aa}{s:Sl}{p:List (List Pr)}{fv:J0}{l:List Pr}{e:Nat->Prop}{K:Sl->aa->Prop}{z:Q7}(q:Uo A h s p)(f:Ee A P fv e h l)(H: ∀c,e c->s.ag≠some c)(I:l.length<=1099511627776)(J:p.length<=1000000)
  (B: ∀a d,Uo A d a (p++ [l])->Mod (λb=>s.ag=some b) h d->(∀ b,a.ag=some b->s.ag=some b\/h.size<=b)->K a d):
  ai h (J2 #[fv] Bq) λb j=>Ad A P (Builtin.append_ #[BH,BH] z #[J4 s.p s.len s.cap,J4 (some ⟨b,0,none⟩) 1 1]) j λv d=> ∃a:Sl,v=J4 a.p a.len a.cap/\K a d:=by
 obtain⟨r,C,D,hi⟩:=q;refine ai.aV (E:=jK) (x:=⟨fv,f.one.1⟩) (s:=s) (l:=r) rfl M.AUn C (by omega) (by simp[maxLen];omega) λa d F u w _=>?_
 have L: ∀ {T:Nat->Prop} {t:J0} {n:List Pr},Ee A P t T h n->(∀ c,T c->s.ag≠some c)-> ∃e,Ee A P t e d n/\ ∀c,e c->a.ag≠some c:=λ{T} t n f y=>⟨T,Ee.at f u (λc o=>y c o),λc o G=>by
  rcases w c G with j|j
  ·exact y c o j
  ·have:=f.1 c o;omega⟩
 refine B a d ⟨r++ [⟨fv,f.one.1⟩],F,by simp[D],λi v n j N=>?_⟩ u w;by_cases O:i<r.length
 ·grind
 grind
section
variable {A : ao} {g h : aa} {q : Hp} {k : Nat -> Nat} {st : Db} {m : Bx} {R : A2X}
def Cr(st:Db):List (List Pr):=st.ts.map (·.2)
def Dy(st:Db):List Pr:=OH st.fr (Cr st)
theorem bO.iO(a:bO g h q k st m): ∀p∈st.ts,UU p.2:=λp b=>by
 obtain⟨i,hi,rfl⟩:=CM b;have c:i<q.ps.length:=by rw[a.dt];exact hi
 obtain⟨lo,d,_,_,_,t⟩:=a.dx i q.ps[i] st.ts[i] (A2 c) (A2 hi);exact t
theorem bO.gu(b:bO g h q k st m):ba (st.fr::Cr st):=by
 refine⟨λl a=>?_,λl a=>?_⟩<;>rcases List.mem_cons.1 a with rfl|a
 ·exact b.fresh.sorted
 ·obtain⟨p,c,rfl⟩:=List.mem_map.1 a;exact(b.iO p c).aJ.1
 ·exact b.fresh.aJ
 ·obtain⟨p,c,rfl⟩:=List.mem_map.1 a;exact(b.iO p c).aJ.2
theorem tc(f t:A2Y)(l:List Pr):(Sj f t l).length<=l.length:=KK ..
theorem AVd {f t:A2Y}(d:bO g h q k st m)(ap:st.fr.length<=1000000)(aq:st.ts.length<=100000)
  (N: ∀fv e,Ee A P fv (λc=>c<e.size) e (Af ((st.fr::Cr st).map (Sj f t)))->Ext h e->R fv e):AA A P UE #[Ap q.d,J7 f,J7 t] h R:=by
 refine AGr ?_;unfold ZX;refine aA (AY.mk (AB d.cell rfl) ?_);refine M.tE d.fresh λfv j O w ar=>⟨_,rfl,?_⟩
 refine M.pI (.inr O) (by grind) λsl au y av z=>⟨_,rfl,?_⟩
 rw[AK7 d.fresh.sorted (by omega)] at y;have aw:=tc f t st.fr;refine M.tL y.view (by omega) λax Q B C ay=>⟨_,rfl,Yz.mk B.one.1 (ai.mk λaz _ S D aC=>?_)⟩
 have T:=Uo.one B (by omega) S D (A0 _);have E:=((w.trans z).trans C).trans D;have U:=d.on E;refine aA (AV.mk (s:=q.tp) (AB U.cell rfl) ?_);have aD:=d.dt;have aE:=d.cG.len;refine Loop.rule (λF x p=> ∃(i:Nat) (sl:Sl),x=(sl,(i:Int),())/\F=q.ps.length-i/\i<=q.ps.length/\Ext h p/\(∀ c,sl.ag=some c->h.size<=c)/\Uo A p sl ((st.fr::(Cr st).take i).map (Sj f t))) ?_ ⟨0,⟨some ⟨Q.size,0,none⟩,1,1⟩,rfl,rfl,by omega,E,λc b=>by
  simp[Sl.ag] at b;have:=((w.trans z).trans C).size;omega,by simpa using T⟩
 rintro K F _ p ⟨i,sl,rfl,rfl,hi,l,G,n⟩ V;dsimp only;refine ab.intro (λW=>?_) (λW=>?_)
 ·have o:i<q.ps.length:=by grind
  have X:i<st.ts.length:=by omega
  have g1:q.ps[i]? =some q.ps[i]:=A2 o;have Y:st.ts[i]? =some st.ts[i]:=A2 X;have Z:(Cr st)[i]? =some st.ts[i].2:=by unfold Cr;grind
  have H:=d.on l;refine H.cG.view.idx g1 λa _ c=>AY.mk (Cells.pt c) ?_
  obtain⟨lo,aF,aa,ac,aG,r⟩:=H.dx i _ _ g1 Y;refine AKi aa ac r.eZ λaH aI ae u aJ=>⟨_,rfl,?_⟩
  have aK:=r.many;refine M.pI (.inr ae) (by grind) λaL aM I af J=>⟨_,rfl,?_⟩
  rw[AK7 r.aJ.1 (by omega)] at I;have aN:=tc f t st.ts[i].2;refine M.tL I.view (by omega) λaO aP L ag aQ=>⟨_,rfl,Yz.mk L.one.1 ?_⟩
  have v:=(u.trans J).trans ag;refine Uo.add (n.ext v) L (λc b ah=>?_) (by omega) (by simp[Cr];omega) λaj e ak al am=>?_
  ·obtain⟨aR,an,_,_⟩:=n;have aS:=an.lt ah;rcases b.2 with j|j
   ·have:=(u.trans J).size;omega
   ·have:=af c j;have:=u.size;omega
  ·rw[Ac (by omega)];refine V (q.ps.length-(i+1)) _ _ (by omega) ⟨i+1,aj,rfl,rfl,o,?_,λc b=>?_,?_⟩
   ·exact(l.trans v).then (al.ak λc _ b=> .inr (G c b))
   ·rcases am c b with j|j
    ·exact G c j
    ·have:=l.size;have:=v.size;omega
   ·rw[AE,Z];simpa using ak
 ·have o:i=q.ps.length:=by grind
  subst o;rw[AD (by simp[Cr];omega)] at n;refine M.tB n.kV (λc h=>h.elim) (by simp[Cr];omega) (ATN d.gu) λfv e ao x _=>⟨_,rfl,N fv e (ao.ak (λc b=>b.1) (λc b=>b) (λ_ _=>rfl)) (l.trans x)⟩
theorem mH(b:bO g h q k st m){K:Bool×Unit->aa->Prop}(c:K (false,()) h):ab ((some (⟨q.d,0,none⟩:Q6)).isNone) (K (true,()) h) (At (some (⟨q.d,0,none⟩:Q6)) λa=>Aa h (a.add 8) λt=>K (t,()) h):=
 ab.no rfl (aA (Aa.mk (AB b.cell rfl) c))
theorem AT1 {f t:A2Y}{d:Int}(a:bO g h q k st m)(n:st.fr.length<=1000000)(o:st.ts.length<=100000)(C:(Af (st.fr::Cr st)).length<=1099511627776)
  (p: ∀s b,Own Bg AU b s (mG (Dy st) f t d)->(∀ c,s.ag=some c->h.size<=c)->Ext h b->R (J1 #[J4 s.p s.len s.cap,J6 J9 0]) b):AA A P RO #[Ap q.d,J7 f,J7 t,J6 J9 d] h R:=by
 refine AEv ?_;unfold Xr;refine ah.mk λK r=>mH a (r _ _ (ab.no rfl ?_))
 refine AVd a n o λfv D u e=>⟨_,rfl,?_⟩
 refine M.tC (.inr u) λE F v i G=>⟨_,rfl,?_⟩
 have w:(BB (Af ((st.fr::Cr st).map (Sj f t)))).length<=1099511627776:=by
  rw[ANv a.gu]
  grind [sW,Sj,Af,Cr,tc]
 refine M.pI (.inr v) w λj x l y z=>⟨j,rfl,?_⟩
 rw[ATt a.gu] at l;exact p j x l (λc B=>by have:=y c B;have:=(e.trans i).size;omega) ((e.trans i).trans z)
theorem AG6(key:A2Y): ∀ {l:List Pr},Sorted l->M.OM key l=XY key l
 | [],_=>rfl
 |x::l,s=>by
  have c:=List.pairwise_cons.1 s;have a:=AG6 key c.2;unfold M.OM XY at a ⊢;rw[Vt,M.BG];by_cases h:aI x.key key=true
  ·rw[if_pos h,if_neg (M.Mk h),Wr];exact a
  ·rw[if_neg h,HA];by_cases b:x.key=key
   ·simp[b]
   ·have d:Ab key l=none:=M.EQ λe f i=>h (by
     grind)
    simp[b,d]
def JM(m:List Pr)(key:A2Y):A2Y×Bool:=match Ab key m with|some p=>(p.val,true)|none=>(⟨#[]⟩,false)
theorem ARo {key:A2Y}(d:bO g h q k st m)(am:st.ts.length<=100000)(H:key.size<=1099511627776)
  (v: ∀B,Ext h B->R (J1 #[J7 (JM (Dy st) key).1,J3 (JM (Dy st) key).2,J6 J9 0]) B):AA A P PN #[Ap q.d,J7 key] h R:=by
 refine AGi ?_;unfold ZB;refine ah.mk λK I=>mH d (I _ _ (ab.no rfl ?_))
 refine aA (AY.mk (AB d.cell rfl) ?_);have C: ∀p,(Ab key st.fr).or (Ak key (Cr st))=some p->JM (Dy st) key=(p.val, !p.gone):=λp f=>by
  have e:Ab key (Dy st)=alive (some p):=by unfold Dy;rw[Gx key d.gu,f]
  unfold JM;rw[e,IX];cases J:p.gone with
  |false=>rfl
  |true=>
   have L:Ah p=0:=by
    cases j:Ab key st.fr with
    |some x=>
     rw[j] at f;simp only[Option.some_or,Bs] at f;subst f;exact d.fresh.aJ x (M.NM j).2
    |none=>
     rw[j,LS] at f;unfold M.Ak at f;obtain⟨l,N,O⟩:=A08 f;exact d.gu.aJ l (AH _ N) p (M.NM O).2
   have Q:=(p8 L).gone J;show((⟨#[]⟩:A2Y),false)=(p.val, !true);rw[sO Q];rfl
 have S:(Ab key st.fr).or (Ak key (Cr st))=none->JM (Dy st) key=(⟨#[]⟩,false):=λf=>by
  have e:Ab key (Dy st)=alive none:=by unfold Dy;rw[Gx key d.gu,f]
  unfold JM;rw[e];rfl
 refine M.ATX d.fresh λan T=>⟨_,_,_,_,rfl,?_⟩
 rw[AG6 key d.fresh.sorted];refine ai.pair λb U _ n V ao=>?_
 have w:=T.trans V;cases j:Ab key st.fr with
 |some p=>
  have e:XY key st.fr=(p,true):=by unfold XY;rw[j]
  rw[e] at n ⊢;refine ab.yes rfl (AL.mk (AB n rfl) (Aa.mk (AB n rfl) ?_));have:=v U w;rw[C p (by rw[j];rfl)] at this;exact this
 |none=>
  have e:XY key st.fr=(M.WA,false):=by unfold XY;rw[j]
  rw[e] at n ⊢;refine ab.no rfl ?_;have W:=d.on w;refine aA (AV.mk (s:=q.tp) (AB W.cell rfl) ?_);have ap:=d.dt;have aq:=d.cG.len;refine Loop.rule (λD x y=> ∃i:Nat,x=((i:Int),())/\D=q.ps.length-i/\i<=q.ps.length/\Ext h y/\Ak key ((Cr st).take i)=none) ?_ ⟨0,rfl,rfl,by omega,w,rfl⟩;rintro ar D _ y ⟨i,rfl,rfl,hi,z,o⟩ X;dsimp only;refine ab.intro (λY=>?_) (λY=>?_)
  ·have r:i<q.ps.length:=by grind
   have Z:i<st.ts.length:=by omega
   have g1:q.ps[i]? =some q.ps[i]:=A2 r;have aa:st.ts[i]? =some st.ts[i]:=A2 Z;have ac:(Cr st)[i]? =some st.ts[i].2:=by unfold Cr;grind
   have E:=d.on z;refine E.cG.view.idx g1 λa _ c=>AY.mk (Cells.pt c) ?_
   obtain⟨lo,au,ae,av,aw,af⟩:=E.dx i _ _ g1 aa;refine AUV ae af.eZ H λax ag=>⟨_,_,_,_,rfl,?_⟩
   refine ai.pair λay aj _ t ak az=>?_
   have F:=(z.trans ag).trans ak;have G:(Cr st).take (i+1)=(Cr st).take i++ [st.ts[i].2]:=by rw[AE,ac];rfl
   have al:Ak key (Cr st)=(Ab key st.ts[i].2).or (Ak key ((Cr st).drop (i+1))):=by
    conv=>lhs;rw[<- F0 (i+1) (Cr st),G]
    rw[M.Ri,M.Ri,o,M.EX];have:Ak key ([]:List (List Pr))=none:=rfl;rw[this,Option.or_none,LS]
   cases u:Ab key st.ts[i].2 with
   |some p=>
    have e:XY key st.ts[i].2=(p,true):=by unfold XY;rw[u]
    rw[e] at t ⊢;refine ab.yes rfl (AL.mk (AB t rfl) (Aa.mk (AB t rfl) ?_));have:=v aj F;rw[C p (by rw[j,al,u];rfl)] at this;exact this
   |none=>
    have e:XY key st.ts[i].2=(M.WA,false):=by unfold XY;rw[u]
    rw[e] at t ⊢;refine ab.no rfl ?_;rw[Ac (by omega)];refine X (q.ps.length-(i+1)) _ _ (by omega) ⟨i+1,rfl,rfl,r,F,?_⟩;rw[G,M.Ri,o,M.EX,u];rfl
  ·have r:i=q.ps.length:=by grind
   subst r;rw[AD (by simp[Cr];omega)] at o;have:=v y z;rw[S (by rw[j,o];rfl)] at this;exact this
end
open M (Sorted Ab Bw BJ Af Ak BN Ah ba BB)
def td(a:Nat):Nat:=20000*a+10000000
structure cX where
 C:Nat
 W0:Nat
 A:Nat
 hC:C<=100000
 hA:A<=60000
 hW:W0+A*td C<=8000000000000
def cX.K(a:cX):Nat:=td a.C
theorem cX.wt(b:cX){a:Nat}(c:a<=b.A):b.W0+a*b.K<=8000000000000:=by
 have d:=b.hW;have f:a*b.K<=b.A*b.K:=AW _ c;have e:b.A*td b.C=b.A*b.K:=rfl;rw[e] at d;generalize a*b.K=x at*
 generalize b.A*b.K=g at*
 omega
theorem AHd: ∀a:List (List UInt8),(∀ r∈a,r.length<=1048576)->(aT a).length<=(a.map List.length).sum+a.length*14
 | [],_=>by simp
 |r::a,b=>by
  have d:=(LX (b r B8)).2;have e:=AHd a λx c=>b x (AH _ c)
  rw[AFl];simp only[A1,C5,KB,An];omega
theorem AHU: ∀a:List (List Pr),((a.map Br).map List.length).sum=(Br a.flatten).length
 | []=>rfl
 |b::a=>by
  simp only[C5,KB,List.flatten_cons,AHU a];simp[Br]
theorem AQO {a b s c f p:Nat}(d:b<=s+c*14)(e:s=p+f)(g:p<=a*8276)(h:f<=1048576)(i:c<=a+2):b<=8400*a+1100000:=by omega
theorem AOC {l:List Pr}(t:UU l):(ZA l).length<=8400*l.length+1100000:=by
 have c:=AHd (aN l (Rh l)) (TP t.eZ);have d:((aN l (Rh l)).map List.length).sum=(Br l).length+(Xi l (Rh l)).length:=by have a:=AHU (Lr l);rw[APb] at a;rw[<- a];simp only[aN,Cl,List.sum_append,C5,List.map_nil,KB,List.sum_nil,DB]
 have b:(aN l (Rh l)).length<=l.length+2:=by
  have b:(aN l (Rh l)).length=CB l+1:=by simp[aN,JW]
  have e:CB l<=l.length+1:=by unfold CB;omega
  omega
 exact AQO c d (Pf t.ok) (Zr t.eZ) b
structure jd (F:Fls) (st:Db):Prop where
 nd:(st.ts.map (·.1)).Nodup
 below: ∀p∈st.ts,p.1<st.next/\F (cA p.1)≠none
 free: ∀n,st.next<=n->F (cA n)=none
 kW:st.bK=true->F (br nl st.aM)≠none
 bV:st.bV<=st.aM
structure ph (st:Db) (bD c:Nat):Prop where
 aM:st.aM<=8*bD+4
 aZ:st.aZ<=8*bD+4
 next:st.next<=8*bD+4
 cB:st.ts.length<=3
 bX:st.fr.length+M.total (Cr st)<=c
theorem ph.mono {st:Db}{a b c d:Nat}(l:ph st a c)(e:a<=b)(f:c<=d):ph st b d:=
 ⟨by have:=l.aM;omega,by have:=l.aZ;omega,by have:=l.next;omega,l.cB,by have:=l.bX;omega⟩
theorem jd.gv {b:Fls}{st:Db}(c:jd b st){a:Nat}(f:st.next<=a):a∉st.ts.map (·.1):=λd=>by
 obtain⟨p,e,g⟩:=List.mem_map.1 d;have:=(c.below p e).1;omega
theorem AKY {st:Db}:(KD (Cr st)).length<=M.total (Cr st):=by have a:=M.VD (Cr st);have b:=sW (Af (Cr st));unfold KD;omega
structure Dc (B:cX) (g h:aa) (q:Hp) (k:Nat->Nat) (st:Db) (m:Bx) (D:Yw) (bD c:Nat):Prop where
 mem:bO g h q k st m
 calm:Calm m
 jx:jd (ff m) st
 lim:ph st bD c
 wt:bJ m.files<=B.W0+bD*B.K
 hc:c<=B.C
theorem Dc.put {b:cX}{g e:aa}{q:Hp}{f:Nat->Nat}{st:Db}{m:Bx}{h:Yw}{bD i c d:Nat}(a:Dc b g e q f st m h bD c)(j:bD<=i)(k:c<=d)(l:d<=b.C):Dc b g e q f st m h i d:=
 ⟨a.mem,a.calm,a.jx,a.lim.mono j k,AK a.wt (Nat.add_le_add_left (AW _ j) _),l⟩
theorem cX.step(a:cX){c e b d:Nat}(g:c<=a.W0+b*a.K)(h:e<=c+d)(hd:d<=20000*a.C+10000000):e<=a.W0+(b+1)*a.K:=by
 have f:(b+1)*a.K=b*a.K+a.K:=Nat.succ_mul _ _;have i:a.K=20000*a.C+10000000:=rfl;rw[f];generalize b*a.K=x at*
 omega
theorem AKS(a:Nat):8400*a+1800001<=20000*a+10000000:=by omega
theorem ALv(a:Nat):600000<=20000*a+10000000:=by omega
theorem AVw {t b a c:Nat}(d:t<=8400*c+1100000)(e:b<=a)(f:a<=8000000000000)(g:c<=100000):b+t+1<=8796093022208:=by omega
theorem tf {a:A2Y}(c: ¬dZ a)(b:Nat):a≠cA b:=λd=>c (d▸ .inr (.inr ⟨b,rfl⟩))
theorem AVD {a:A2Y}(c: ¬dZ a)(b:Nat):a≠br nn b:=λd=>c (d▸ .inr (.inl ⟨b,rfl⟩))
theorem tg {a:A2Y}(c: ¬dZ a)(b:Nat):a≠br nl b:=λd=>c (d▸ .inl ⟨b,rfl⟩)
section
variable {A : ao} {g h : aa} {q : Hp} {k : Nat -> Nat} {st : Db} {m : Bx} {c C : Nat} {R : A2X}
theorem ASE(d:M.total (Cr st)<=c)(e:c<=C)(f:C<=100000)(a:KD (Cr st)≠ []):UU (KD (Cr st)):=by have i:=AKY (st:=st);exact⟨a,λx b=>p8 (pa.2 x b),pa.1,by omega⟩
structure AVz (C:Nat) (st bF:Db) (m m':Bx) (c:Nat):Prop where
 calm:Calm m'
 jx:jd (ff m') bF
 fr:bF.fr=st.fr
 map:Dy bF=Dy st
 cB:bF.ts.length<=1
 aM:bF.aM=st.aM
 aZ:bF.aZ<=st.aZ+1
 next:bF.next<=st.next+1
 bX:bF.fr.length+M.total (Cr bF)<=c
 wt:bJ m'.files<=bJ m.files+(8400*C+1800001)
 eg: ∀y,¬dZ y->ff m' y=ff m y
theorem AMN(aE:bR g)(f:bO g h q k st m)(aF:Calm m)(v:jd (ff m) st)(c4:st.ts.length<=1000)(bH:st.fr.length+M.total (Cr st)<=c)(b:c<=C)(bI:C<=100000)(c5:st.next<=90000000)(c6:st.aZ<=90000000)(c7:st.aM<=90000000)(c8:bJ m.files+(8400*C+1100001)+1000000<=8000000000000)
  (a6: ∀h' X a7 bF aq,X.d=q.d->X.b=q.b->bO g h' X a7 bF aq->AVz C st bF m aq c->Mod (λc=>k c≠0) h h'->(∀ c,a7 c≠0->k c≠0\/h.size<=c)->R (J6 J9 0) h'):
  AA A P Jz #[Ap q.d] h R:=by
 refine AAq ?_;unfold SI;refine ah.mk λK bK=>mH f (bK _ _ (ab.no rfl ?_))
 refine aA (AV.mk (s:=q.tp) (AB f.cell rfl) ?_);have c9:=f.dt;have bL:=f.cG.len;refine ab.intro (λo=>?_) (λo=>?_)
 ·have e:st.ts.length<=1:=by grind
  exact a6 h q k st m rfl rfl f ⟨aF,v,rfl,rfl,e,rfl,by omega,by omega,bH,by omega,λ_ _=>rfl⟩ Mod.refl (λc b=> .inl b)
 refine aA (AV.mk (s:=q.tp) (AB f.cell rfl) ?_);refine Loop.rule (λY x y=> ∃(i:Nat) (sl:Sl),x=(sl,(i:Int),())/\Y=q.ps.length-i/\i<=q.ps.length/\Ext h y/\(∀ c,sl.ag=some c->h.size<=c)/\Uo A y sl ((Cr st).take i)) ?_ ⟨0,⟨none,0,0⟩,rfl,rfl,by omega,Mod.refl,λc b=>by simp[Sl.ag] at b,Uo.nil⟩;rintro da Y _ y ⟨i,sl,rfl,rfl,hi,Z,aG,ar⟩ a8;dsimp only;refine ab.intro (λo=>?_) (λo=>?_)
 ·have B:i<q.ps.length:=by rw[<- bL];simpa using o
  have bM:i<st.ts.length:=by omega
  have g1:q.ps[i]? =some q.ps[i]:=A2 B;have ac:st.ts[i]? =some st.ts[i]:=A2 bM;have bN:(Cr st)[i]? =some st.ts[i].2:=by unfold Cr;rw[B9,ac];rfl
  have a9:=f.on Z;refine a9.cG.view.idx g1 λa _ c=>AY.mk (Cells.pt c) ?_
  obtain⟨lo,db,bP,bQ,bS,bb⟩:=a9.dx i _ _ g1 ac;refine AKi bP bQ bb.eZ λdc aH aI D dd=>⟨_,rfl,Yz.mk aI.one.1 ?_⟩
  rw[M.tA] at aI;have au:=bb.many;refine Uo.add (ar.ext D) aI (λc b d=>?_) (by omega) (by simp[Cr];omega) λbT h' X aq bU=>?_
  ·obtain⟨de,bW,_,_⟩:=ar;have L:=bW.lt d;have df:=aG c d;rcases b with e|e|e
   ·have:=bS c e.1 e.2;have:=(f.own c (by rw[this];decide)).2;omega
   ·omega
   ·omega
  ·rw[Ac (by omega)];refine a8 (q.ps.length-(i+1)) _ _ (by omega) ⟨i+1,bT,rfl,rfl,B,?_,λc b=>?_,?_⟩
   ·exact(Z.trans D).then (aq.ak λc _ b=> .inr (aG c b))
   ·rcases bU c b with e|e
    ·exact aG c e
    ·have:=Z.size;have:=D.size;omega
   ·rw[AE,bN];exact X
 have B:i=q.ps.length:=by
  have: ¬i<q.tp.len:=by simpa using o
  omega
 subst B;rw[AD (by simp[Cr];omega)] at ar;clear a8;have bX:=ba.tail f.gu;refine M.tB ar.kV (λc h=>h.elim) (by simp[Cr];omega) bX λdg bc bY bd _=>⟨_,rfl,?_⟩
 refine M.tC (.inr bY) λdh av bZ be _=>⟨_,rfl,?_⟩
 have di:=AKY (st:=st);have b0:(BB (Af (Cr st))).length<=1099511627776:=by have:(BB (Af (Cr st))).length=(KD (Cr st)).length:=rfl;omega
 refine M.YQ bZ (λ_ _=>rfl) b0 λaJ af N b1 b2=>⟨aJ,rfl,?_⟩
 have aK:Ext h af:=((Z.trans bd).trans be).trans b2;have N:Own Bg AU af aJ (KD (Cr st)):=N;have aw:=f.on aK;have dj:=aK.size;refine aA (AV.mk (s:=q.np) (AB aw.cell rfl) ?_);refine aA (ae.dw aw.cell (by simp) λdk b3 b4 dl=>?_);refine aA (ae.dw b3 (by simp) λE aL b5 dm=>?_);have aL:E[q.d]? =some (J2 (eU {q with tp:=⟨none,0,0⟩,np:=⟨none,0,0⟩} {st with next:=st.next,bV:=st.bV} false) Ki (0,0)):=by simpa using aL
 have ag:Mod (· =q.d) af E:=b4.trans b5;have O:=aw.fx (tp:=⟨none,0,0⟩) (np:=⟨none,0,0⟩) (ps:= []) (ts:= []) (next:=st.next) (bV:=st.bV) (S:=λ_=>False) aL (ag.ak λc _ b=> .inl b) Own.nil Own.nil rfl
  (λc b=>by simp[Sl.ag] at b) (λc b=>by simp[Sl.ag] at b) (λc h=>h.elim) (λi t p e=>by simp at e)
 have b6: ∀c,OE k af.size ⟨none,0,0⟩ ⟨none,0,0⟩ (λ_=>False) c=k c:=λc=>by
  unfold OE;split
  ·rfl
  ·rename_i e;simp[Sl.ag];omega
 have b7:OE k af.size ⟨none,0,0⟩ ⟨none,0,0⟩ (λ_=>False)=k:=funext b6;rw[b7] at O;have ax:Mod (λc=>k c≠0) h E:=(Ext.mod aK).trans (ag.ak λc _ b=>by rw[b,f.kd];decide);have b8:=aw.names.view;have bf:View Jh E q.np (eV st):=b8.mod ag λc b d=>by have:=f.kx c b;rw[d,f.kd] at this;cases this
 have dn:=v.gv (A0 _);refine ah.mk λb9 ca=>?_
 have fin: ∀(y:aa) (Q:Hp) (ay:Nat->Nat) (G:Bx) (r:Nat) (u:List (Nat×List Pr)),bO g y Q ay {st with ts:=u,next:=r} G->Q.d=q.d->Q.b=q.b->Calm G->
   (∀ x,x≠cA st.next->ff G x=ff m x)->((u= []/\r=st.next/\KD (Cr st)= []/\ff G (cA st.next)=none)\/(u= [(st.next,KD (Cr st))]/\r=st.next+1/\ff G (cA st.next)≠none))->
   bJ G.files<=bJ m.files+(8400*C+1100001)->Mod (λc=>k c≠0) h y->(∀ c,ay c≠0->k c≠0\/h.size<=c)->View Jh y q.np (eV st)->(∀ c,q.np.ag=some c->ay c=7)->b9 () y:=by
  intro y Q ay G r u T bg cb cc aj ak dp bh aM cd av;refine ca _ _ ?_;rw[<- bg];have ce:r<=st.next+1/\u.length<=1/\ ∀p∈u,p.1=st.next/\r=st.next+1:=by
   rcases ak with⟨rfl,rfl,_⟩|⟨rfl,rfl,_⟩
   ·exact⟨by omega,by simp,λp H=>by cases H⟩
   ·exact⟨by omega,by simp,λp H=>by rw[List.mem_singleton.1 H];exact⟨rfl,rfl⟩⟩
  obtain⟨cf,cg,bi⟩:=ce;have dq:=v.bV;refine AN1 aE T cc (by show r<=_;omega) (by show st.bV<=_;omega) (by show u.length<=_;omega) (λp H=>by have:=(bi p H).1;omega) (by show st.aZ+2<=_;omega) (by omega) λbj ch bk az ci cj aC dr bm bn=>⟨_,rfl,ab.no rfl ?_⟩
  have ck:View Jh bj q.np (eV st):=cd.mod bm λc b d=>by
   have e:=av c b;rcases d with d|d
   ·rw[T.kb c d] at e;cases e
   ·rw[d,T.kn] at e;cases e
  have cl: ∀c,q.np.ag=some c->c<y.size:=λc b=>(T.own c (by rw[av c b];decide)).2
  have ds:q.np.len=st.ts.length:=by rw[f.names.len];simp
  have cm:Mod (λc=>k c≠0) h bj:=bh.then (bm.ak λc _ b=>by
   rcases b with b|b
   ·exact aM c (by rw[T.kb c b];decide)
   ·exact aM c (by rw[b,T.kn];decide))
  have cn: ∀c,bk c≠0->k c≠0\/h.size<=c:=λc b=>by
   by_cases L:c<y.size
   ·rw[bn c L] at b;exact aM c b
   ·exact .inr (by have:=bh.size;omega)
  have co: ∀n,n≠st.next->ff az (cA n)=ff m (cA n):=λn w=>by rw[aC _ λj d=>sR j _ d.symm,aj _ λd=>w (Wn d)]
  have cp:=v.nd;refine Loop.rule (λY x al=> ∃(i:Nat) (aN:Nat->Prop) (am:Nat->Nat) (z:Bx),x=((i:Int),())/\Y=st.ts.length-i/\i<=st.ts.length/\bO g al {Q with Sb:=aN} am {st with ts:=u,next:=r,aZ:=st.aZ+1} z/\Calm z/\bJ z.files<=bJ az.files/\
    (∀ x,(∀ n∈(st.ts.map (·.1)).take i,x≠cA n)->ff z x=ff az x)/\Mod (λc=>k c≠0) h al/\(∀ c,am c≠0->k c≠0\/h.size<=c)/\View Jh al q.np (eV st)/\(∀ c,q.np.ag=some c->am c=7)) ?_
   ⟨0,ch,bk,az,rfl,rfl,by omega,ci,cj,A0 _,λx _=>rfl,cm,cn,ck,λc b=>by rw[bn c (cl c b)];exact av c b⟩
  rintro dt Y _ al ⟨i,aN,am,z,rfl,rfl,hi,I,aO,cq,U,aP,aQ,bo,aR⟩ cr;dsimp only;refine ab.intro (λo=>?_) (λo=>?_)
  ·have B:i<st.ts.length:=by have:=of_decide_eq_true o;omega
   have ac:st.ts[i]? =some st.ts[i]:=A2 B;have bp:(st.ts.map (·.1))[i]? =some st.ts[i].1:=by rw[B9,ac];rfl
   have cs:st.ts[i]∈st.ts:=BT B;obtain⟨du,ct⟩:=v.below _ cs;refine bo.idx (i:=i) (x:=(st.ts[i].1:Int)) (by rw[eV,B9,ac];rfl) λa _ cu=>AC.mk cu.int ?_
   refine aA (AY.mk (AO I.cell rfl) ?_);refine Zc (I.im aE) (by omega) λaH D=>⟨_,rfl,⟨AO (I.on D).cell rfl,?_⟩⟩
   have bq:=I.on D;refine tU bq.box λbc cv cw aS cx=>⟨_,rfl,?_⟩
   have cy:st.ts[i].1∉(st.ts.map (·.1)).take i:=λau=>by
    obtain⟨j,aT,d⟩:=CM au;have dv:j<i:=by have:=aT;simp at this;omega
    rw[List.getElem_take] at d;have e:=(List.getElem?_eq_some_iff.1 bp);have F:=(OK (h₀:=by simp;omega) (h₁:=e.1) cp).1 (d.trans e.2.symm);omega
   have cz:(ff z (cA st.ts[i].1)).isSome=true:=by rw[U _ λn w d=>cy (by rw[Wn d];exact w),co _ (by omega)];exact Option.isSome_iff_ne_none.2 ct
   have bs:(st.ts.map (·.1)).take (i+1)=(st.ts.map (·.1)).take i++ [st.ts[i].1]:=by rw[AE,bp];rfl
   have cB:Mod (λc=>k c≠0) h bc:=aP.then (((Ext.mod D).trans aS).ak λc _ b=>aQ c (by rw[I.kb c b];decide));obtain⟨cC,cD⟩:=yS aO.goes cz;rw[cC];refine ab.no rfl ?_;have cE:=bq.boxed (j:=2) (bF:= {st with ts:=u,next:=r,aZ:=st.aZ+1}) cw (aS.ak λc _ b=> .inl b) (λc b=> .inl (cx c b)) rfl rfl rfl rfl (.inl ⟨by decide,rfl,rfl⟩) (.inl ⟨by decide,rfl⟩);have cF:=zj (m:=z) (cA st.ts[i].1);rw[Ac (by omega)];refine cr (st.ts.length-(i+1)) _ _ (by omega) ⟨i+1,cv,_,_,rfl,rfl,B,cE,yT aO _,AK cF cq,λx bt=>?_,cB,λc b=>?_,?_,λc b=>?_⟩
   ·rw[cD,if_neg (bt _ (by rw[bs];simp))];exact U x λn w=>bt n (by rw[bs];exact List.mem_append.2 (.inl w))
   ·by_cases L:c<aH.size
    ·rw[H7 L] at b;exact aQ c b
    ·exact .inr (by have:=(aP.trans (Ext.mod D)).size;omega)
   ·exact(bo.ext D).mod aS λc b d=>by
     have e:=aR c b;rw[I.kb c d] at e;cases e
   ·have L:c<aH.size:=by have:=(I.own c (by rw[aR c b];decide)).2;have:=D.size;omega
    rw[H7 L];exact aR c b
  ·have B:i=st.ts.length:=by have: ¬(i:Int)<((q.np.len:Nat):Int):=of_decide_eq_false o;omega
   subst B;rw[AD (by simp)] at U;have aU: ∀n,st.next<=n->ff z (cA n)=ff G (cA n):=λn w=>by
    rw[U _ λj aT d=>v.gv w (by rw[Wn d];exact aT),aC _ λj d=>sR j n d.symm]
   have cG:jd (ff z) {st with ts:=u,next:=r,aZ:=st.aZ+1}:=by
    refine⟨?_,λp H=>?_,λn w=>?_,λau=>?_,v.bV⟩
    ·rcases ak with⟨rfl,_⟩|⟨rfl,_⟩<;>simp
    ·obtain⟨aV,cH⟩:=bi p H;rw[aV];refine⟨by show st.next<r;omega,?_⟩;rw[aU _ (A0 _)];rcases ak with⟨rfl,_⟩|⟨_,_,h⟩
     ·cases H
     ·exact h
    ·have w:r<=n:=w;rcases ak with⟨_,rfl,_,h⟩|⟨_,rfl,_⟩
     ·rw[aU n w];by_cases d:n=st.next
      ·rw[d];exact h
      ·rw[aj _ λaW=>d (Wn aW)];exact v.free n w
     ·rw[aU n (by omega),aj _ λaW=>by have:=Wn aW;omega];exact v.free n (by omega)
    ·show ff z (br nl st.aM)≠none;rw[U _ λj _=>VI _ j,aC _ λj=>AW5 _ j,aj _ (VI _ _)];exact v.kW au
   have bu:Dy {st with ts:=u,next:=r,aZ:=st.aZ+1}=Dy st/\M.total (u.map (·.2))<=M.total (Cr st):=by
    rcases ak with⟨rfl,_,e,_⟩|⟨rfl,_,_⟩
    ·exact⟨ADq f.gu e,A5 _⟩
    ·exact⟨YC f.gu,by show(KD (Cr st)).length+0<=_;omega⟩
   refine a6 al {Q with Sb:=aN} am _ z bg cb I ⟨aO,cG,rfl,bu.1,cg,rfl,A0 _,cf,?_,by omega,λaX aY=>?_⟩ aP aQ
   ·show st.fr.length+M.total (u.map (·.2))<=c;have:=bu.2;omega
   ·rw[U aX λn _=>tf aY n,aC aX λn=>AVD aY n,aj aX (tf aY _)]
 refine ab.intro (λo=>?_) (λo=>?_)
 ·have cI:KD (Cr st)≠ []:=λd=>by
   have e:=of_decide_eq_true o;have F:=N.len;rw[d] at F;simp at F;omega
  have a0:=ASE (by omega) b bI cI;have dw:=AOC a0;refine aA (AC.mk (AB O.cell rfl) ?_);have cJ:View Bg E aJ (KD (Cr st)):=N.view.mod ag λc b d=>by have:=b1 c b;have:=f.iq;have:=(Z.trans bd).size;have:=be.size;omega
  have dx:(ZA (KD (Cr st))).length<=8400*C+1100000:=by omega
  refine ASC (q:= {q with tp:=⟨none,0,0⟩,np:=⟨none,0,0⟩,ps:= []}) (n:=st.next) aE O aF a0 cJ (λc b=>by have:=N.lt b;have:=ag.size;omega) (by omega) (v.free _ (A0 _)) (by omega) λV dy bv cK t lo hi a1 cL cM cN dz bw dA dB bx a2 bz=>⟨_,_,rfl,ab.no rfl ?_⟩
  ·refine ai.mk λan _ cO ao dC=>?_
   have aD:=a1.on ao;refine aA (AC.mk (AB aD.cell rfl) (ai.mk λcP _ cQ ap dD=>?_));have bA:=aD.on ap;refine aA (ae.dw bA.cell (by simp) λdE cR cS dF=>aA (ae.dw cR (by simp) λdG bB cT dH=>?_));refine aA (AC.mk (AB bB rfl) (aA (ae.dw bB (by simp) λJ bC cU dI=>?_)));have cV:J8 J9 (((st.next:Nat):Int)+(1:Int))=((st.next+1:Nat):Int):=Ac (by omega);have W:Mod (· =q.d) cP J:=(cS.trans cT).trans cU;have cW:J[V.size]? =some (J2 #[Ap t] Bf (0,0)):=W.ag (ap.ag cO λh=>h) (by have:=a1.iq;show ¬_=q.d;have d:(q.d:Nat)<V.size:=this;omega);have cX:J[an.size]? =some (J2 #[J6 J9 (st.next:Int)] BM (0,0)):=W.ag cQ (by have:=aD.iq;have d:(q.d:Nat)<an.size:=this;show ¬_=q.d;omega);have cY:Own gY Bf J ⟨some ⟨V.size,0,none⟩,1,1⟩ [t]:=Own.lit (l:= [t]) cW rfl (by simp[maxLen]);have on:Own Jh BM J ⟨some ⟨an.size,0,none⟩,1,1⟩ (([(st.next,KD (Cr st))]:List (Nat×List Pr)).map λp=>(p.1:Int)):=Own.lit (l:= [((st.next:Nat):Int)]) cX rfl (by simp[maxLen]);have dJ:=a2.size;have bD: ∀c,V.size<=c->bv c=0:=λc b=>bx c (by have:=bw.jv;omega)
   have cZ:=bA.fx (h':=J) (tp:=⟨some ⟨V.size,0,none⟩,1,1⟩) (np:=⟨some ⟨an.size,0,none⟩,1,1⟩) (ps:= [t]) (ts:= [(st.next,KD (Cr st))]) (next:=st.next+1) (bV:=st.bV) (S:=λc=>lo<=c/\c<hi)
    (by rw[cV] at bC;simpa [eU] using bC) (W.ak λc _ b=> .inl b) cY on rfl
    (λc b=> .inr (by
     have d:V.size=c:=by simpa [Sl.ag] using b
     subst d;have a3:=a1.ext.size;refine⟨bD _ (A0 _),a3,by simp[Sl.ag];omega,by omega⟩))
    (λc b=> .inr (by
     have d:an.size=c:=by simpa [Sl.ag] using b
     subst d;have a3:=aD.ext.size;refine⟨bD _ (by omega),a3,by simp[Sl.ag];omega,by omega⟩))
    (λc b=>⟨by have:=O.ext.size;omega,by omega⟩)
    (λi t' p e F=>by
     have c0:i=0:=by have:=(List.getElem?_eq_some_iff.1 e).1;simpa using this
     subst c0;simp only[HA,Bs] at e F;subst e F;refine .inr ⟨lo,hi,(bw.ext (ao.trans ap)).mod W (λc a4 bE d=>?_),by omega,λc a4 bE=>⟨⟨a4,bE⟩,bx c a4⟩,a0⟩;have:=O.iq;have cH:(q.d:Nat)<E.size:=this;omega)
   have c1:Mod (λc=>k c≠0) h J:=by
    refine(ax.trans ((a2.ak λc _ b=>?_))).trans ((Ext.mod (ao.trans ap)).trans (W.ak λc _ b=>?_))
    ·rw[f.kb c b];decide
    ·rw[b,f.kd];decide
   have a5: ∀c,q.np.ag=some c->c<E.size/\k c=7:=λc b=>⟨by have:=f.names.lt b;have:=ax.size;omega,f.kx c b⟩
   refine fin J _ _ cK (st.next+1) _ cZ rfl rfl cL cM (.inr ⟨rfl,rfl,cN⟩) (by omega) c1 (λc b=>?_) ?_ λc b=>?_
   ·by_cases L:c<h.size
    ·left;intro c2;have bG:c<E.size:=by have:=ax.size;omega
     have aV:bv c=0:=by rw[bz c bG];exact c2
     have dK:=bG;apply b;unfold OE;rw[if_neg (by simp[aV]),if_neg (by simp[Sl.ag];omega),if_neg (by simp[Sl.ag];have:=ao.size;omega),if_neg (by omega)]
    ·exact .inr (by omega)
   ·refine((bf.mod a2 λc b d=>?_).ext (ao.trans ap)).mod W λc b d=>?_
    ·have:=(a5 c b).2;rw[f.kb c d] at this;cases this
    ·have:=(a5 c b).2;rw[d,f.kd] at this;cases this
   ·obtain⟨e,F⟩:=a5 c b;unfold OE;rw[bz c e,F];rfl
 ·have c3:KD (Cr st)= []:=by have e:=of_decide_eq_false o;have F:=N.len;exact CN (by omega)
  refine fin E _ k m st.next [] O rfl rfl aF (λx _=>rfl) (.inl ⟨rfl,rfl,c3,v.free _ (A0 _)⟩) (by omega) ax (λc b=> .inl b) bf λc b=>f.kx c b
end
theorem APG {m:Bx}{k:A2Y}{made:Bool}(c:Calm m)(a:made=true->ff m k≠none):(Q3 m k made).1=0/\Calm (Q3 m k made).2/\ ∀x,x≠k->ff (Q3 m k made).2 x=ff m x:=by
 cases made with
 |false=>exact⟨rfl,c,λx _=>rfl⟩
 |true=>
  obtain⟨p,b⟩:=Option.ne_none_iff_exists'.1 (a rfl);obtain⟨d,e⟩:=oE c.goes b;exact⟨d,XH c k,λx f=>by rw[show(Q3 m k true).2=(LV m k).2 from rfl,e,if_neg f]⟩
theorem AQg {m:Bx}(g:IA m)(k:A2Y)(made:Bool):bJ (Q3 m k made).2.files<=bJ m.files:=by
 cases made with
 |false=>exact A0 _
 |true=>exact oJ g k
section
variable {A : ao} {B : cX} {g h : aa} {q : Hp} {k : Nat -> Nat} {st : Db} {m : Bx} {D : Yw} {bD c : Nat} {R : A2X}
theorem ASV(au:bR g)(S:Dc B g h q k st m D bD c)(hA:bD+2<=B.A)
  (bd: ∀h' aF aV bF aW,aF.d=q.d->aF.b=q.b->Dc B g h' aF aV bF aW D (bD+2) c->Dy bF=Dy st->(∀ G,¬dZ G->ff aW G=ff m G)->Mod (λc=>k c≠0) h h'->(∀ c,aV c≠0->k c≠0\/h.size<=c)->R (J6 J9 0) h'):
  AA A P Pt #[Ap q.d] h R:=by
 have cz:=S;obtain⟨E,cB,ak,l,be,b⟩:=S;have dX:=B.hA;have bI:=B.hC;have cC:=B.wt (a:=bD) (by omega);have dY:=l.bX;have d0:=l.next;have d1:=l.aZ;have d2:=l.aM;have d3:=l.cB;have cD:=ak.gv (A0 _);refine ACy ?_;unfold VO;refine ah.mk λK cE=>mH E (cE _ _ (ab.no rfl ?_))
 refine aA (AY.mk (AB E.cell rfl) ?_);refine M.tD E.fresh ⟨_,_,rfl,?_⟩;refine ab.intro (λaX=>?_) (λaX=>?_)
 ·have f:st.fr= []:=CN (by have:((st.fr.length:Nat):Int)=0:=(by simpa using aX);omega);exact bd h q k st m rfl rfl (cz.put (by omega) (A0 _) b) rfl (λ_ _=>rfl) Mod.refl (λc b=> .inl b)
 have cF:st.fr≠ []:=λe=>by
  rw[e] at aX;cases aX
 have bf:UU st.fr:=⟨cF,λx aG=>p8 (E.fresh.aJ x aG),E.fresh.sorted,by omega⟩;have d4:=AOC bf;have cG:(ZA st.fr).length<=8400*B.C+1100000:=by omega
 refine aA (AC.mk (AB E.cell rfl) (aA (AY.mk (AB E.cell rfl) ?_)));refine M.tE E.fresh λfv r bL bM d5=>⟨_,rfl,⟨AB (E.on bM).cell rfl,?_⟩⟩
 rw[M.tA] at bL;refine M.YQ bL (λ_ _=>rfl) (by omega) λcH av bN d6 cI=>⟨cH,rfl,?_⟩
 have bg:=bM.trans cI;have bh:=E.on bg;have d7:=bg.size;refine⟨AB bh.cell rfl,?_⟩;refine ASC (n:=st.next) au bh cB bf bN.view (λc b=>bN.lt b) (by omega) (ak.free _ (A0 _)) (AVw cG be cC bI) λaY a0 a1 bP t lo hi J cJ bQ cK a2 bS d8 d9 bT bW bX=>⟨_,_,rfl,ab.no rfl ?_⟩
 have ea:=bW.size;have eb:=bS.jv;have cL:Mod (λc=>k c≠0) h aY:=(Ext.mod bg).trans (bW.ak λc _ b=>by rw[E.kb c b];decide);have cM:bJ bP.files<=bJ m.files+(8400*B.C+1100001):=by omega
 refine aA (AY.mk (AB J.cell rfl) ?_);obtain⟨cN,cO,bY⟩:=APG (k:=br nl st.aM) (made:=st.bK) cJ λcP=>by rw[bQ _ (VI _ _)];exact ak.kW cP
 refine AEU (J.im au) J.log J.box J.kX (by decide) (by omega) (λcQ=>absurd cN cQ) λec u cR cS a3=>⟨_,_,rfl,?_⟩
 refine ab.no rfl ?_;have cT:=AQg J.box.aJ (br nl st.aM) st.bK;have H:=J.boxed (j:=3) (bF:= {st with aM:=st.aM+1,bK:=false}) cR (a3.ak λc _ b=>b.imp id λh=> .inl ⟨rfl,h⟩) (λc b=> .inl b) rfl rfl rfl rfl (.inr cS) (.inl ⟨by decide,rfl⟩);generalize (Q3 bP (br nl st.aM) st.bK).2=W at*
 have ed:=a3.size;have bZ: ∀c,c<aY.size->N8 a1 aY.size a0 2 c=a1 c:=λc b=>H7 b
 generalize N8 a1 aY.size a0 2=L at*
 have cU:Mod (λc=>k c≠0) h u:=cL.then (a3.ak λc _ b=>by
  have f:a1 c≠0:=by
   rcases b with b|b
   ·rw[J.kb c b];decide
   ·rw[b,J.kl];decide
  by_cases N:c<av.size
  ·rw[bX c N] at f;exact .inl f
  ·exact .inr (by omega))
 have bi: ∀c,L c≠0->k c≠0\/h.size<=c:=λc b=>by
  by_cases N:c<av.size
  ·rw[bZ c (by omega),bX c N] at b;exact .inl b
  ·exact .inr (by omega)
 have bj: ∀c,u.size<=c->L c=0:=λc b=>Decidable.byContradiction λh=>by
  have:=(H.own c h).2;omega
 have bk: ∀c,lo<=c->c<hi->L c=0:=λc O X=>by rw[bZ c (by omega)];exact bT c O
 have b0: ∀x,x≠cA st.next->x≠br nl st.aM->ff W x=ff m x:=λx aG U=>(bY x U).trans (bQ x aG)
 have cV:ff W (cA st.next)≠none:=by rw[bY _ λe=>VI _ _ e.symm];exact cK
 have ee:bJ W.files<=bJ m.files+(8400*B.C+1100001):=AK cT cM;have cW: ∀(z:aa) (o:Hp) (bm:Nat->Nat),bO g z o bm {st with ts:=(st.next,st.fr)::st.ts,next:=st.next+1,bV:=st.aM+1,aM:=st.aM+1,bK:=false} W->o.d=q.d->o.b=q.b->Mod (λc=>k c≠0) h z->(∀ c,bm c≠0->k c≠0\/h.size<=c)->
   AA A P Ka #[Ap o.d] z λcX b1=> ∃bn:Int,cX=J6 J9 bn/\(
         ab (bn != (0:Int)) (
          AA A P ED #[Ap o.d,J6 J9 bn] b1 λcY cZ=> ∃b2:Int,cY=J6 J9 b2/\(
          R (J6 J9 b2) cZ)) (
          AA A P Rv #[] b1 λc0 b3=> ∃b4:Q2,c0=J5 b4/\(
          At (some (⟨o.d,0,none⟩:Q6)) λc1=>
          ae b3 (c1.add 3) (J5 b4) λQ=>
          At (some (⟨o.d,0,none⟩:Q6)) λc2=>
          AY Q (c2.add 1) λc3=>
          AA A P Jk #[J5 c3,J6 J9 (st.aM:Int)] Q λc4 al=> ∃bo:Int,c4=J6 J9 bo/\(
          ab (bo != (0:Int)) (
           AA A P ED #[Ap o.d,J6 J9 bo] al λc5 c6=> ∃b5:Int,c5=J6 J9 b5/\(
           R (J6 J9 b5) c6)) (
           At (some (⟨o.d,0,none⟩:Q6)) λc7=>
           AV al (c7.add 4) λc8=>
           ab (decide (((c8.len:Nat):Int)>=(4:Int))) (
            AA A P Jz #[Ap o.d] al λc9 da=> ∃b6:Int,c9=J6 J9 b6/\(
            R (J6 J9 b6) da)) (
            R (J6 J9 0) al)))))):=by
  intro z o bm a4 b7 b8 b9 a5;have db:bJ W.files+1000000<=8000000000000:=by have f:=B.wt (a:=bD+1) (by omega);have I:bJ W.files+1000000<=B.W0+(bD+1)*B.K:=B.step (d:=8400*B.C+1100001+1000000) be (by omega) (by omega);exact AK I f
  refine AN1 au a4 cO (by show st.next+1<=_;omega) (by show st.aM+1<=_;omega) (by show st.ts.length+1<=_;omega) (λp am=>?_) (by show st.aZ+2<=_;omega) db λr ef bp eg bq dc dd eh ca de=>⟨_,rfl,ab.no rfl ?_⟩
  ·rcases List.mem_cons.1 am with rfl|am
   ·show st.next<=_;omega
   ·have:=(ak.below p am).1;omega
  have ei:=ca.size;have cb:Mod (λc=>k c≠0) h r:=b9.then (ca.ak λc _ b=>by
   rcases b with b|b
   ·exact a5 c (by rw[a4.kb c b];decide)
   ·exact a5 c (by rw[b,a4.kn];decide))
  have df: ∀c,bp c≠0->k c≠0\/h.size<=c:=λc b=>by
   by_cases N:c<z.size
   ·rw[de c N] at b;exact a5 c b
   ·exact .inr (by have:=b9.size;omega)
  refine M.tF λb3 dg bs ej=>⟨_,rfl,?_⟩
  have dh:=bq.on bs;refine aA (ae.dw dh.cell (by simp) λQ di bt ek=>?_);have dj:M.cW Q r.size [] []:=dg.mod bt λc b e=>by
   have el:c=r.size:=by
    rcases b with rfl|⟨x,aG,_⟩
    ·rfl
    ·cases aG
   have:=bq.iq;have v:(o.d:Nat)<r.size:=this;have en:c=o.d:=e;omega
  have cc:Mod (λc=>c=r.size\/c=o.d) r Q:=(Ext.mod bs).trans (bt.ak λc _ b=> .inr b);have Y:=bq.renew (h':=Q) (gw:=r.size) dj (A0 _) (by simpa [eU] using di) (by
   refine⟨cc.size,λc b aw=>?_⟩;exact cc.get c b (by rintro(h|h);omega;exact aw h))
  have cd:Mod (λc=>k c≠0) h Q:=(cb.trans (Ext.mod bs)).then (bt.ak λc _ b=>by
   have e:c=o.d:=b;rw[e];exact a5 _ (by rw[a4.kd];decide))
  have ce: ∀c,N8 bp r.size (· =r.size) 5 c≠0->k c≠0\/h.size<=c:=λc b=>by
   by_cases N:c<r.size
   ·rw[H7 N] at b;exact df c b
   ·exact .inr (by have:=cb.size;omega)
  generalize N8 bp r.size (· =r.size) 5=cf at*
  refine aA (AY.mk (AB Y.cell rfl) ?_);have eo:=cd.size;refine ALB (Y.im au) (λh' x=>Y.fM au (x.ak λc _ b=> .inl b)) Y.log Y.box dc Y.kX (by decide) (by omega) (λdk=>absurd dk (by show ¬(st.aM:Int)>=((st.aM+1:Nat):Int);omega))
   λ_ al a6 V dl cg ch dm ep eq dn=>⟨_,rfl,ab.no rfl ?_⟩
  have aH:=Y.boxed (j:=2) (bF:= {st with fr:= [],ts:=(st.next,st.fr)::st.ts,next:=st.next+1,bV:=st.aM+1,aM:=st.aM+1,aZ:=st.aZ+1,bK:=false}) dl (ch.ak λc _ b=> .inl b) (λc b=> .inl (dm c b)) rfl rfl rfl rfl (.inl ⟨by decide,rfl,rfl⟩) (.inl ⟨by decide,rfl⟩);have bu:Mod (λc=>k c≠0) h al:=cd.then (ch.ak λc _ b=>ce c (by rw[Y.kb c b];decide));have bv: ∀c,N8 cf Q.size a6 2 c≠0->k c≠0\/h.size<=c:=λc b=>by
   by_cases N:c<Q.size
   ·rw[H7 N] at b;exact ce c b
   ·exact .inr (by omega)
  generalize N8 cf Q.size a6 2=dp at*
  have ci: ∀x,(∀ n,x≠br nl n)->(∀ n,x≠br nn n)->ff V x=ff W x:=λx f I=>(dn x λn _ _ _=>f n).trans (dd x I)
  have cj: ∀n,ff V (cA n)=ff W (cA n):=λn=>ci _ (λj e=>VI j n e.symm) λj e=>sR j n e.symm
  have ck: ∀n,n≠st.next->ff V (cA n)=ff m (cA n):=λn aw=>(cj n).trans (b0 _ (λe=>aw (Wn e)) λe=>VI _ _ e.symm)
  have cl:jd (ff V) {st with fr:= [],ts:=(st.next,st.fr)::st.ts,next:=st.next+1,bV:=st.aM+1,aM:=st.aM+1,aZ:=st.aZ+1,bK:=false}:=by
   refine⟨List.nodup_cons.2 ⟨cD,ak.nd⟩,λp am=>?_,λn aw=>?_,(λh=>by cases h),A0 _⟩
   ·rcases List.mem_cons.1 am with rfl|am
    ·exact⟨Kd _,by rw[cj];exact cV⟩
    ·obtain⟨ax,v⟩:=ak.below p am;exact⟨Nat.lt_succ_of_lt ax,by rw[ck _ (Nat.ne_of_lt ax)];exact v⟩
   ·have aw:st.next+1<=n:=aw;rw[ck n (by omega)];exact ak.free n (by omega)
  have cm:Dy {st with fr:= [],ts:=(st.next,st.fr)::st.ts,next:=st.next+1,bV:=st.aM+1,aM:=st.aM+1,aZ:=st.aZ+1,bK:=false}=Dy st:=AKE E.gu;have cn: ∀G,¬dZ G->ff V G=ff m G:=λG U=>(ci G (λn=>tg U n) λn=>AVD U n).trans (b0 G (tf U _) (tg U _))
  have dq:bJ V.files<=bJ m.files+(8400*B.C+1800001):=by omega
  have co:0+(st.fr.length+M.total (Cr st))<=c:=by omega
  have a2:bJ V.files<=B.W0+(bD+1)*B.K:=B.step be dq (AKS B.C);refine aA (AV.mk (s:=o.tp) (AB aH.cell rfl) ?_);have dr:=aH.cG.len;have ds:=aH.dt;have er:o.tp.len=st.ts.length+1:=by have ax:o.tp.len=o.ps.length:=dr;have v:o.ps.length=((st.next,st.fr)::st.ts).length:=ds;rw[ax,v];rfl
  refine ab.intro (λcp=>?_) (λcp=>?_)
  ·have dt:=B.wt (a:=bD+2) (by omega);have du:bJ V.files+(8400*B.C+1100001)+1000000<=B.W0+(bD+2)*B.K:=B.step (d:=8400*B.C+1100001+1000000) a2 (by omega) (by omega);refine AMN (q:= {o with Sb:=a6,ft:=r.size,ns:= []}) (C:=B.C) au aH cg cl (by show st.ts.length+1<=_;omega) co b bI (by show st.next+1<=_;omega) (by show st.aZ+1<=_;omega) (by show st.aM+1<=_;omega) (AK du dt) λh' aF aV bF aW ax v dv p dw dx=>⟨_,rfl,?_⟩
   refine bd h' aF aV bF aW (ax.trans b7) (v.trans b8) ⟨dv,p.calm,p.jx,⟨?_,?_,?_,by have:=p.cB;omega,p.bX⟩,B.step a2 p.wt (AKS B.C),b⟩ (p.map.trans cm) (λG U=>(p.eg G U).trans (cn G U)) (bu.then (dw.ak λc _ b=>bv c b)) λc b=>?_
   ·have:bF.aM=st.aM+1:=p.aM;omega
   ·have:bF.aZ<=st.aZ+1+1:=p.aZ;omega
   ·have:bF.next<=st.next+1+1:=p.next;omega
   ·rcases dx c b with f|f
    ·exact bv c f
    ·exact .inr (by have:=bu.size;omega)
  ·have es: ¬((o.tp.len:Nat):Int)>=4:=of_decide_eq_false cp;exact bd al {o with Sb:=a6,ft:=r.size,ns:= []} dp _ V b7 b8 (Dc.put (bD:=bD+1) ⟨aH,cg,cl,⟨by show st.aM+1<=_;omega,by show st.aZ+1<=_;omega,by show st.next+1<=_;omega,by show st.ts.length+1<=3;omega,co⟩,a2,b⟩ (by omega) (A0 _) b) cm cn bu bv
 refine ah.mk λdy dz=>?_
 have ay: ∀c,q.tp.ag=some c->L c=6:=H.kt;have an: ∀c,q.np.ag=some c->L c=7:=H.kx;have fin: ∀(z:aa) (tp np:Sl) (bw:Nat),Own gY Bf z tp (t::q.ps)->Own Jh BM z np ((st.next:Int)::eV st)->Mod (λc=>q.tp.ag=some c\/q.np.ag=some c) u z->(∀ c,tp.ag=some c->(q.tp.ag=some c\/u.size<=c)/\c<bw)->(∀ c,np.ag=some c->q.np.ag=some c\/(u.size<=c/\bw<=c))->
   ae z ((⟨q.d,0,none⟩:Q6).add 4) (J4 tp.p tp.len tp.cap) λcq=>ae cq ((⟨q.d,0,none⟩:Q6).add 5) (J4 np.p np.len np.cap) λao=>dy () ao:=by
  intro z tp np bw dA on aI a7 a8;have ap:L q.d=1:=H.kd;have bx: ¬(q.tp.ag=some q.d\/q.np.ag=some q.d):=by
   rintro(h|h)
   ·have:=ay _ h;rw[ap] at this;cases this
   ·have:=an _ h;rw[ap] at this;cases this
  have dB:=aI.ag H.cell bx;have et:=aI.size;have eu:q.d<u.size:=H.iq;refine ae.dw dB (by simp) λcq dC dD ev=>ae.dw dC (by simp) λao dE dF ew=>?_
  have aq:Mod (· =q.d) z ao:=dD.trans dF;have bz: ∀c,tp.ag=some c-> ¬c=q.d:=λc b e=>by
   rcases(a7 c b).1 with h|h
   ·exact bx (.inl (e▸h))
   ·omega
  have cr: ∀c,np.ag=some c-> ¬c=q.d:=λc b e=>by
   rcases a8 c b with h|h
   ·exact bx (.inr (e▸h))
   ·omega
  have cs:=dA.mod aq bz;have ct:=on.mod aq cr;have ex:=H.ext.size;have az:=H.fx (h':=ao) (tp:=tp) (np:=np) (ps:=t::q.ps) (ts:=(st.next,st.fr)::st.ts) (next:=st.next) (bV:=st.bV) (S:=λc=>lo<=c/\c<hi)
   (by simpa [eU] using dE) ((aI.ak λc _ b=> .inr b).trans (aq.ak λc _ b=> .inl b)) cs ct (by have:=E.dt;simp[this])
   (λc b=>by
    obtain⟨f,I⟩:=a7 c b;by_cases e:q.tp.ag=some c
    ·exact .inl e
    ·have r:u.size<=c:=f.resolve_left e;refine .inr ⟨bj c r,by omega,λv=>?_,λh=>by omega⟩;rcases a8 c v with av|av
     ·have:=an c av;rw[bj c r] at this;cases this
     ·omega)
   (λc b=>by
    by_cases e:q.np.ag=some c
    ·exact .inl e
    ·have r:=(a8 c b).resolve_left e;refine .inr ⟨bj c r.1,by omega,λv=>?_,λh=>by omega⟩;have:=(a7 c v).2;omega)
   (λc b=>⟨by have:=bh.ext.size;omega,by have:=aq.size;omega⟩)
   (λi t' p f I=>by
    cases i with
    |zero=>
     simp only[HA,Bs] at f I;subst f I;have dG:bU u t st.fr (Rh st.fr) lo hi:=bS.mod a3 λc O X b=>by
      have Z:=bT c O;rcases b with b|b
      ·have:=J.kb c b;rw[Z] at this;cases this
      ·have:=J.kl;rw[<- b,Z] at this;cases this
     have dH:bU z t st.fr (Rh st.fr) lo hi:=dG.mod aI λc O X b=>by
      have Z:=bk c O X;rcases b with b|b
      ·have:=ay c b;rw[Z] at this;cases this
      ·have:=an c b;rw[Z] at this;cases this
     refine .inr ⟨lo,hi,dH.mod aq λc O X b=>?_,by have:=aq.size;omega,λc O X=>⟨⟨O,X⟩,bk c O X⟩,bf⟩;have Z:=bk c O X;rw[b,ap] at Z;cases Z
    |succ i=>exact .inl ⟨i,by simpa using f,by simpa using I⟩)
  have cu: ∀c,OE L u.size tp np (λc=>lo<=c/\c<hi) c≠0->k c≠0\/h.size<=c:=λc b=>by
   by_cases e:L c=0
   ·by_cases N:c<av.size
    ·exfalso;apply b;unfold OE;rw[if_neg (by simp[e]),if_neg λv=>?_,if_neg λv=>?_,if_neg (by omega)]
     ·rcases a8 c v with aJ|aJ
      ·have:=an c aJ;rw[e] at this;cases this
      ·omega
     ·rcases(a7 c v).1 with aJ|aJ
      ·have:=ay c aJ;rw[e] at this;cases this
      ·omega
    ·exact .inr (by omega)
   ·exact bi c e
  generalize OE L u.size tp np (λc=>lo<=c/\c<hi)=aK at*
  have dI:Mod (λc=>k c≠0) h ao:=(cU.then (aI.ak λc _ b=>bi c (by
   rcases b with b|b
   ·rw[ay c b];decide
   ·rw[an c b];decide))).then (aq.ak λc _ b=>bi c (by rw[b,ap];decide))
  refine dz _ _ ?_;refine aA (AC.mk (AB az.cell rfl) (aA (ae.dw az.cell (by simp) λdJ bA dK dL=>aA (ae.dw bA (by simp) λbB a9 dM ey=>?_))));have dN:J8 J9 (((st.next:Nat):Int)+(1:Int))=((st.next+1:Nat):Int):=Ac (by omega);have dO:J8 J9 (((st.aM:Nat):Int)+(1:Int))=((st.aM+1:Nat):Int):=Ac (by omega);have ba:Mod (· =q.d) ao bB:=dK.trans dM;have ez: ∀c,tp.ag=some c-> ¬c=q.d:=bz;have dP:=az.fx (h':=bB) (tp:=tp) (np:=np) (ps:=t::q.ps) (ts:=(st.next,st.fr)::st.ts) (next:=st.next+1) (bV:=st.aM+1) (S:=λ_=>False)
   (by rw[dN,dO] at a9;simpa [eU] using a9) (ba.ak λc _ b=> .inl b) (cs.mod ba bz) (ct.mod ba cr) (by have:=E.dt;simp[this]) (λc b=> .inl b) (λc b=> .inl b) (λc h=>h.elim) (λi t' p f I=> .inl ⟨i,f,I⟩)
  have dQ: ∀c,OE aK ao.size tp np (λ_=>False) c≠0->k c≠0\/h.size<=c:=λc b=>by
   by_cases e:aK c=0
   ·exfalso;apply b;unfold OE;rw[if_neg (by simp[e]),if_neg λv=>?_,if_neg λv=>?_,if_neg λh=>h]
    ·have f:aK c=7:=az.kx c v;rw[e] at f;cases f
    ·have f:aK c=6:=az.kt c v;rw[e] at f;cases f
   ·exact cu c e
  exact cW bB {q with Sb:=a0,tp:=tp,np:=np,ps:=t::q.ps} _ dP rfl rfl (dI.then (ba.ak λc _ b=>cu c (by
   have f:aK q.d=1:=az.kd;rw[b,f];decide))) dQ
 have bC:=H.cell;have bb:Own gY Bf u q.tp q.ps:=H.cG;have bc:Own Jh BM u q.np (eV st):=H.names;have bE:q.ps.length<=1000000:=by rw[E.dt];omega
 have bG:(eV st).length<=1000000:=by simp[eV];omega
 have aC: ∀c,q.tp.ag=some c->q.np.ag≠some c:=λc f I=>by
  have:=ay c f;rw[an c I] at this;cases this
 have aL: ∀c,q.tp.ag=some c->c<u.size:=λc b=>bb.lt b
 have aD: ∀c,q.np.ag=some c->c<u.size:=λc b=>bc.lt b
 refine aA (AV.mk (s:=q.tp) (AB bC rfl) (aA (AV.mk (s:=q.np) (AB bC rfl) (aA (AC.mk (AB bC rfl) ?_)))));have w: ∀ {z:aa},Mod (λc=>q.tp.ag=some c\/q.np.ag=some c) u z->z[q.d]? =some (J2 (eU {q with Sb:=a0} {st with aM:=st.aM+1,bK:=false} false) Ki (0,0)):=λx=>x.ag H.cell (by
  have ap:L q.d=1:=H.kd;rintro(h|h)
  ·have:=ay _ h;rw[ap] at this;cases this
  ·have:=an _ h;rw[ap] at this;cases this)
 refine⟨?_,?_⟩
 ·refine ai.mk λdR _ cv ar eA=>⟨AB (w (Ext.mod ar)) rfl,AB (w (Ext.mod ar)) rfl,AB (w (Ext.mod ar)) rfl,?_,?_⟩
  ·refine rD (bb.ext ar) cv (λe=>by have:=aL _ e;omega) bE λac F af T ag=>⟨_,rfl,?_⟩
   have y:Mod (λc=>q.tp.ag=some c\/q.np.ag=some c) u F:=(Ext.mod ar).trans (T.ak λc _ b=> .inl b);refine⟨AB (w y) rfl,AB (w y) rfl,ai.mk λdS _ dT aN eB=>⟨AB (w (y.trans (Ext.mod aN))) rfl,AB (w (y.trans (Ext.mod aN))) rfl,?_⟩⟩;have aO:Own Jh BM dS q.np (eV st):=(((bc.ext ar).mod T λc b e=>aC c e b)).ext aN;refine rE aO dT (λe=>by have:=aD _ e;have:=y.size;omega) bG λaP aQ aR aj aS=>⟨_,rfl,?_⟩
   have cw:=y.size;have aT: ∀c,ac.ag=some c->c<F.size:=λc b=>af.lt b
   refine fin aQ ac aP F.size (((af.ext aN)).mod aj λc b e=>?_) aR ((y.trans (Ext.mod aN)).trans (aj.ak λc _ b=> .inr b)) (λc b=>⟨(ag c b).imp id λh=>by omega,aT c b⟩) λc b=>(aS c b).imp id λh=>⟨by omega,by omega⟩
   rcases ag c b with f|f
   ·exact aC c f e
   ·have:=aD c e;omega
  ·refine ai.mk λdJ _ bA cx dL=>?_
   have aU:=ar.trans cx;refine⟨AB (w (Ext.mod aU)) rfl,AB (w (Ext.mod aU)) rfl,?_⟩;refine rD (bb.ext aU) (cx.ag cv λh=>h) (λe=>by have:=aL _ e;omega) bE λac F af T ag=>⟨_,rfl,?_⟩
   have y:Mod (λc=>q.tp.ag=some c\/q.np.ag=some c) u F:=(Ext.mod aU).trans (T.ak λc _ b=> .inl b);refine⟨AB (w y) rfl,AB (w y) rfl,?_⟩;have cw:=y.size;have aO:Own Jh BM F q.np (eV st):=(bc.ext aU).mod T λc b e=>aC c e b
   have a9:F[dR.size]? =some (J2 #[J6 J9 (st.next:Int)] BM (0,0)):=T.ag bA (λe=>by have:=aL _ e;omega);refine rE aO a9 (λe=>by have:=aD _ e;omega) bG λaP aQ aR aj aS=>⟨_,rfl,?_⟩
   have aT: ∀c,ac.ag=some c->c<F.size:=λc b=>af.lt b
   refine fin aQ ac aP F.size (af.mod aj λc b e=>?_) aR (y.trans (aj.ak λc _ b=> .inr b)) (λc b=>⟨(ag c b).imp id λh=>by omega,aT c b⟩) λc b=>(aS c b).imp id λh=>⟨by omega,by omega⟩
   rcases ag c b with f|f
   ·exact aC c f e
   ·have:=aD c e;omega
 ·refine ai.mk λeC _ dU bH eD=>⟨AB (w (Ext.mod bH)) rfl,AB (w (Ext.mod bH)) rfl,ai.mk λeE _ dV cy eF=>?_⟩
  have aE:=bH.trans cy;refine⟨AB (w (Ext.mod aE)) rfl,AB (w (Ext.mod aE)) rfl,AB (w (Ext.mod aE)) rfl,?_⟩;refine rD (bb.ext aE) dV (λe=>by have:=aL _ e;omega) bE λac F af T ag=>⟨_,rfl,?_⟩
  have y:Mod (λc=>q.tp.ag=some c\/q.np.ag=some c) u F:=(Ext.mod aE).trans (T.ak λc _ b=> .inl b);refine⟨AB (w y) rfl,AB (w y) rfl,?_⟩;have cw:=y.size;have aO:Own Jh BM F q.np (eV st):=(bc.ext aE).mod T λc b e=>aC c e b
  have dW:F[u.size]? =some (J2 #[J6 J9 (st.next:Int)] BM (0,0)):=T.ag (cy.ag dU λh=>h) (λe=>by have:=aL _ e;omega);refine rE aO dW (λe=>by have:=aD _ e;omega) bG λaP aQ aR aj aS=>⟨_,rfl,?_⟩
  have aT: ∀c,ac.ag=some c->c<F.size:=λc b=>af.lt b
  refine fin aQ ac aP F.size (af.mod aj λc b e=>?_) aR (y.trans (aj.ak λc _ b=> .inr b)) (λc b=>⟨(ag c b).imp id λh=>by omega,aT c b⟩) λc b=>(aS c b).imp id λh=>⟨by omega,by omega⟩
  rcases ag c b with f|f
  ·exact aC c f e
  ·have:=aD c e;omega
end
def Ga:List Pr->Int
 | []=>0
 |x::l=>if Ah x≠0 then Ah x else Ga l
def GM(l:List Pr):Int:=if l.length=0 then 1 else if l.length>64 then 2 else Ga l
theorem AEJ: ∀ {l:List Pr},Ga l=0->BN l
 | [],_=>ASp
 |x::l,a=>by
  unfold Ga at a;split at a
  ·rename_i b;exact absurd a b
  ·rename_i b;intro d c;rcases List.mem_cons.1 c with rfl|c
   ·exact Decidable.not_not.1 b
   ·exact AEJ a d c
theorem AO3 {l:List Pr}(a:GM l=0):AVC l/\BN l/\l≠ []:=by
 unfold GM at a;split at a
 ·cases a
 ·rename_i b;split at a
  ·cases a
  ·rename_i e;have:=AEJ a;exact⟨⟨by omega,λx c=>p8 (this x c)⟩,this,λd=>b (by rw[d];rfl)⟩
theorem AJh {l:List Pr}{i:Nat}{x:Pr}(a:l[i]? =some x)(d:Ga (l.take i)=0):Ga l=if Ah x≠0 then Ah x else Ga l:=by
 split
 ·rename_i e
  induction l generalizing i with
  |nil=>simp at a
  |cons f l g=>
   cases i with
   |zero=>
    simp at a;subst a;unfold Ga;rw[if_pos e]
   |succ i=>
    have b:Ga (f::l.take i)=0:=d;unfold Ga at b ⊢;split at b
    ·rename_i c;exact absurd b c
    ·rename_i c;rw[if_neg c];exact g (by simpa using a) b
 ·rfl
theorem ABy: ∀ {l:List Pr} {x:Pr},Ga l=0->Ah x=0->Ga (l++ [x])=0
 | [],x,_,b=>by show Ga [x]=0;unfold Ga;rw[if_neg (by simp[b])];rfl
 |y::l,x,b,d=>by
  have a:Ga (y::l)=0:=b;show Ga (y::(l++ [x]))=0;unfold Ga at a ⊢;split at a
  ·rename_i c;exact absurd a c
  ·rename_i c;rw[if_neg c];exact ABy a d
theorem AJl {Q:ao}{h:aa}{s:Sl}{l:List Pr}{n:A2X}(v:View Bg h s l)(j: ∀B,Ext h B->n (J6 J9 (GM l)) B):AA Q P Qp #[J4 s.p s.len s.cap] h n:=by
 refine AJC ?_;unfold wU;rw[v.len];refine ab.intro (λe=>?_) (λe=>?_)
 ·have o:l.length=0:=by have:((l.length:Nat):Int)=0:=(by simpa using e);omega
  have:=j h Mod.refl;unfold GM at this;rwa [if_pos o] at this
 have o:l.length≠0:=λf=>by rw[f] at e;cases e
 refine ab.intro (λe=>?_) (λe=>?_)
 ·have u:l.length>64:=by have:=of_decide_eq_true e;omega
  have:=j h Mod.refl;unfold GM at this;rwa [if_neg o,if_pos u] at this
 have u: ¬l.length>64:=by have:=of_decide_eq_false e;omega
 have R:GM l=Ga l:=by unfold GM;rw[if_neg o,if_neg u]
 rw[R] at j;refine Loop.rule (λC x d=> ∃i:Nat,x=((i:Int),())/\C=l.length-i/\i<=l.length/\Ext h d/\Ga (l.take i)=0) ?_ ⟨0,rfl,rfl,by omega,Mod.refl,rfl⟩;rintro K C _ d ⟨i,rfl,rfl,hi,w,q⟩ S;dsimp only;refine ab.intro (λe=>?_) (λe=>?_)
 ·have r:i<l.length:=by have:=of_decide_eq_true e;omega
  have af:l[i]? =some l[i]:=A2 r;rw[<- v.len];refine(v.ext w).idx af λa _ c=>?_
  obtain⟨T,U,V⟩:=c.pair;refine AL.mk T (AL.mk U (Aa.mk V (ai.pair λb k _ m W ae=>?_)));have y:=w.trans W;generalize l[i]=p at*
  have D:=AJh af q;refine ah.mk λE F=>?_
  have X:Ah p=1-> ∀d,Ext h d->n (J6 J9 1) d:=λf d x=>by
   have:=j d x;rw[D,if_pos (by rw[f];decide),f] at this;exact this
  have Y:Ah p=2-> ∀d,Ext h d->n (J6 J9 2) d:=λf d x=>by
   have:=j d x;rw[D,if_pos (by rw[f];decide),f] at this;exact this
  have z:Ah p=if(decide (p.key=⟨#[]⟩)||(p.gone&& !decide (p.val=⟨#[]⟩))) then 1 else if(decide (p.key.size>64)||decide (p.val.size>8192)) then 2 else 0:=rfl;have G:(decide (p.key=⟨#[]⟩)||(p.gone&& !decide (p.val=⟨#[]⟩)))=true->E (true,()) k:=λf=>F _ _ (ab.yes rfl (X (by rw[z,if_pos f]) k y))
  have H:(decide (p.key=⟨#[]⟩)||(p.gone&& !decide (p.val=⟨#[]⟩)))=false->E (false,()) k:=λf=>F _ _ (ab.no rfl (by
   refine ah.mk λI J=>?_
   have L:(decide (p.key.size>64)||decide (p.val.size>8192))=true->I (true,()) k:=λA=>J _ _ (ab.yes rfl (Y (by rw[z,if_neg (by rw[f];decide),if_pos A]) k y))
   have Z:(decide (p.key.size>64)||decide (p.val.size>8192))=false->I (false,()) k:=λA=>J _ _ (ab.no rfl (by
    have ac:Ah p=0:=by rw[z,if_neg (by rw[f];decide),if_neg (by rw[A];decide)]
    rw[Ac (by omega)];refine S (l.length-(i+1)) _ _ (by omega) ⟨i+1,rfl,rfl,r,y,?_⟩;rw[AE,af];exact ABy q ac))
   refine AL.mk (AO m rfl) (ab.intro (λg=>?_) (λg=>?_))
   ·have M:p.key.size>64:=by have:=of_decide_eq_true g;omega
    exact L (by simp[M])
   ·have M: ¬p.key.size>64:=by have:=of_decide_eq_false g;omega
    refine AL.mk (AB m rfl) ?_;by_cases N:p.val.size>8192
    ·rw[decide_eq_true (show((p.val.size:Int)>(8192:Int)) by omega)];exact L (by simp[N])
    ·rw[decide_eq_false (show ¬((p.val.size:Int)>(8192:Int)) by omega)];exact Z (by simp[N];omega)))
  refine AL.mk (AO m rfl) ?_;rw[Bl];refine ab.intro (λg=>?_) (λg=>?_)
  ·exact G (by rw[g];rfl)
  ·refine Aa.mk (AB m rfl) (ab.intro (λt=>?_) (λt=>?_))
   ·refine AL.mk (AB m rfl) ?_;rw[Bl];cases O:decide (p.val=(⟨#[]⟩:A2Y)) with
    |true=>exact H (by rw[g,t,O];rfl)
    |false=>exact G (by rw[g,t,O];rfl)
   ·exact H (by rw[g,t];rfl)
 ·have r:i=l.length:=by have:=of_decide_eq_false e;omega
  subst r;rw[CH] at q;have:=j d w;rwa [q] at this
section
variable {A : ao} {B : cX} {g h : aa} {q : Hp} {k : Nat -> Nat} {st : Db} {m : Bx} {D : Yw} {bD c : Nat} {R : A2X}
theorem AVm(a:bO g h q k st m)(b:R (J6 J9 (st.aM:Int)) h):AA A P JI #[Ap q.lg] h R:=by refine Pn ?_;unfold Me;exact ab.no rfl (aA (AC.mk (AB a.log rfl) b))
theorem ALn {s:Sl}{l:List Pr}(Y:bR g)(ay:Dc B g h q k st m D bD c)(a0:m.fuel= -1)(hA:bD+3<=B.A)(N:View Bg h s l)(Z:l≠ []-> ∀b,s.ag=some b->b<h.size/\k b=0)(am:c+64<=B.C)
  (aa: ∀E O ac bF Q a1,O.d=q.d->O.b=q.b->Dc B g E O ac bF Q a1 (bD+3) (c+64)->Q.fuel= -1->Dy bF=(if GM l=0 then cu (Dy st) l else Dy st)->(∀ f,¬dZ f->ff Q f=ff m f)->Mod (λc=>k c≠0) h E->(∀ c,ac c≠0->k c≠0\/h.size<=c)->R (J6 J9 (GM l)) E):
  AA A P QB #[Ap q.d,J4 s.p s.len s.cap] h R:=by
 have bH:=ay;obtain⟨v,an,F,G,ao,e⟩:=ay;have bI:=B.hA;have bL:=B.hC;have a2:=B.wt (a:=bD) (by omega);have bM:=G.aM;refine ACt ?_;unfold Vd;refine ah.mk λK a3=>mH v (a3 _ _ (ab.no rfl ?_))
 refine AJl N λa4 H=>⟨_,rfl,?_⟩
 refine ab.intro (λw=>?_) (λw=>?_)
 ·have ae:GM l≠0:=by simpa using w
  exact aa a4 q k st m D rfl rfl (Dc.put ⟨v.on H,an,F,G,ao,e⟩ (by omega) (by omega) am) a0 (by rw[if_neg ae]) (λ_ _=>rfl) (H.ak λc _ e=>e.elim) λc e=> .inl e
 have ae:GM l=0:=by simpa using w
 obtain⟨o,a5,ap⟩:=AO3 ae
 replace Z:=Z ap
 rw[ae,if_pos rfl] at aa;have I:=v.on H;refine aA (AY.mk (AB I.cell rfl) (aA (AY.mk (AB I.cell rfl) ?_)));refine AVm I ⟨_,rfl,⟨AB I.cell rfl,?_⟩⟩;refine AR5 (by omega) o.len o.ok (N.ext H) (λb o=>by have:=(Z b o).1;have:=H.size;omega) λJ aq=>⟨_,rfl,⟨AB (I.on aq).cell rfl,?_⟩⟩
 have y:=I.on aq;have az:=H.trans aq;have bN:=az.size;have bP:=AOx (s:=st.aM) (by omega) o;have a6:(Ae (OL st.aM l)).size=(OL st.aM l).length:=AP _;refine AFd (y.im Y) y.log y.box y.kX (λE x=>y.fM Y (x.ak λc _ e=> .inl e)) (by decide) (by omega) (by rw[a6];omega) (AK ao a2) λag n aC aj aD aE=>⟨_,rfl,?_⟩
 rw[show bl (Ae (OL st.aM l))=OL st.aM l from Fg _] at aC aj ⊢;have a7:=rV v.box.aJ (br nl st.aM) (Ae (Iq (OL st.aM l)));have bQ:=(LX (r:=OL st.aM l) (by omega)).2;rw[AP] at a7;have a8: ∀c,n c->q.Sb c\/J.size<=c:=λc e=>(aE c e).imp id λh=>h.1
 obtain⟨a9,aF⟩:=rN an.goes (k:=br nl st.aM) (d:=Ae (Iq (OL st.aM l))) (ANe (by decide) (by omega));have aG:=Vk an (br nl st.aM) (Ae (Iq (OL st.aM l)));rw[a9] at aj ⊢;refine ab.no rfl ?_;rw[decide_eq_true rfl,IH] at aj;generalize (FY m (br nl st.aM) (Ae (Iq (OL st.aM l)))).2=ak at*
 have bS: ¬n q.lg:=λe=>by
  rcases aE _ e with h|h
  ·exact y.kX h
  ·exact h.2 rfl
 have u:=y.boxed (j:=3) (bF:= {st with bK:=true}) aC (aD.ak λc _ e=>e.imp id λh=> .inl ⟨rfl,h⟩) a8 rfl rfl rfl rfl (.inr aj) (.inl ⟨by decide,rfl⟩);have ba:Grow k (N8 k J.size n 2) J.size:=ALP;have aH: ∀c,N8 k J.size n 2 c≠0->k c≠0\/h.size<=c:=λc e=>by
  by_cases S:c<J.size
  ·rw[ba c S] at e;exact .inl e
  ·exact .inr (by omega)
 generalize N8 k J.size n 2=aI at*
 have aJ:Mod (λc=>k c≠0) h ag:=(Ext.mod az).trans (aD.ak λc _ e=>by
  rcases e with e|e
  ·rw[v.kb c e];decide
  ·rw[e,v.kl];decide)
 refine aA (AY.mk (AB u.cell rfl) ?_);refine AKT (u.im Y) u.log u.box u.kX (by decide) (by show st.aM<=_;omega) λaK ar bT aL=>⟨_,rfl,?_⟩
 have aM:=aF (br nl st.aM);rw[if_pos rfl] at aM;have ar:Dw aK q.b n (LV ak (br nl st.aM)).2:=ar;have bb:=oJ u.box.aJ (br nl st.aM);have bc:bJ ak.files<=B.W0+(bD+1)*B.K:=B.step (d:=600000) ao (by omega) (ALv B.C);show ab ((LV ak (br nl st.aM)).1 != 0) _ _;obtain⟨bd,aN⟩:=oE aG.goes aM;have aO:=XH aG (br nl st.aM);rw[bd];refine ab.no rfl ?_;generalize (LV ak (br nl st.aM)).2=z at*
 have au: ∀f,f≠br nl st.aM->ff z f=ff m f:=λf C=>by rw[aN,if_neg C,aF,if_neg C]
 have be:=u.boxed (j:=2) (bF:= {st with bK:=true}) ar (aL.ak λc _ e=> .inl e) (λc e=> .inl e) rfl rfl rfl rfl (.inl ⟨by decide,rfl,rfl⟩) (.inl ⟨by decide,rfl⟩);have bf:Mod (λc=>k c≠0) h aK:=aJ.then (aL.ak λc _ e=>aH c (by rw[u.kb c e];decide));have bg: ∀c,N8 aI ag.size n 2 c≠0->k c≠0\/h.size<=c:=λc e=>by
  by_cases S:c<ag.size
  ·rw[H7 S] at e;exact aH c e
  ·exact .inr (by have:=aJ.size;omega)
 generalize N8 aI ag.size n 2=bh at*
 have bU:=G.bX;have bV:=o.len;refine Loop.rule (λaP x T=> ∃(i:Nat) (U:List M.Dl) (V:Nat->Nat),x=((i:Int),())/\aP=l.length-i/\i<=l.length/\bO g T {q with Sb:=n,ns:=U} V {st with bK:=true,fr:=BJ st.fr (l.take i)} z/\Mod (λc=>k c≠0) h T/\(∀ c,V c≠0->k c≠0\/h.size<=c)) ?_
  ⟨0,q.ns,bh,rfl,rfl,A5 _,be,bf,bg⟩
 rintro bW aP _ T ⟨i,U,V,rfl,rfl,hi,L,W,X⟩ aQ;dsimp only;have bi:=N.mod W λb o ap=>ap (Z b o).2
 have bX:=W.size;refine ab.intro (λw=>?_) (λw=>?_)
 ·have al:i<l.length:=by have:=of_decide_eq_true w;have:=N.len;omega
  have af:l[i]? =some l[i]:=A2 al;refine bi.idx af λa _ bj=>?_
  obtain⟨bk,bm,bn⟩:=bj.pair;refine AL.mk bk (AL.mk bm (Aa.mk bn (ai.pair λb bo _ av aR bY=>?_)));have aw:=L.on aR;refine aA (AY.mk (AB aw.cell rfl) ?_);refine AL.mk (AO av rfl) (AL.mk (AB av rfl) (Aa.mk (AB av rfl) ?_));have aS:=M.pE (l:=l.take i) (t:=st.fr);rw[Ax] at aS;refine M.ATq (x:=l[i]) aw.fresh (by show(BJ st.fr (l.take i)).length<_;omega) λbp bZ bq aT bs=>⟨_,rfl,?_⟩
  have bt:=aw.pF bq aT bs;rw[Ac (by omega)];refine aQ (l.length-(i+1)) _ _ (by omega) ⟨i+1,bp,_,rfl,rfl,al,by rw[M.AMH af];exact bt,(W.trans (Ext.mod aR)).then (aT.ak λc _ e=>X c (by rw[L.kf c e];decide)),λc e=>?_⟩;by_cases S:c<bo.size
  ·rw[H7 S] at e;exact X c e
  omega
 have al:i=l.length:=by have:=of_decide_eq_false w;have:=N.len;omega
 subst al;rw[CH] at L;clear aQ;have aU:Dy {st with bK:=true,fr:=BJ st.fr l}=cu (Dy st) l:=AKn v.gu a5;have bu:jd (ff z) {st with bK:=true,fr:=BJ st.fr l}:=
  ⟨F.nd,λp aV=>⟨(F.below p aV).1,by rw[au _ λax=>VI _ _ ax.symm];exact(F.below p aV).2⟩,λbv bw=>by rw[au _ λax=>VI _ _ ax.symm];exact F.free bv bw,λ_=>by show ff z (br nl st.aM)≠none;rw[aN,if_pos rfl];simp,F.bV⟩
 have aS:=M.pE (l:=l) (t:=st.fr);have aW:Dc B g T {q with Sb:=n,ns:=U} V {st with bK:=true,fr:=BJ st.fr l} z D (bD+1) (c+64):=
  ⟨L,aO,bu,⟨by show st.aM<=_;omega,by have:=G.aZ;show st.aZ<=_;omega,by have:=G.next;show st.next<=_;omega,G.cB,by show(BJ st.fr l).length+M.total (Cr st)<=_;omega⟩,AK bb bc,am⟩
 have aX: ∀f,¬dZ f->ff z f=ff m f:=λf C=>au f (tg C _)
 refine ah.mk λb0 aY=>?_
 refine aA (AY.mk (AB L.cell rfl) ?_);refine M.tD L.fresh ⟨_,_,rfl,?_⟩;refine ab.intro (λbx=>?_) (λbx=>?_)
 ·refine ASV (q:= {q with Sb:=n,ns:=U}) Y aW (by omega) λE O ac bF Q bz bA S' bB bC bE bG=>⟨_,rfl,aY _ _ ?_⟩
  refine aa E O ac bF Q D bz bA S' S'.calm.2 (bB.trans aU) (λf C=>(bC f C).trans (aX f C)) (W.then (bE.ak λc _ e=>X c e)) λc e=>?_
  rcases bG c e with aZ|aZ
  ·exact X c aZ
  ·exact .inr (by omega)
 ·exact aY _ _ (aa T {q with Sb:=n,ns:=U} V _ z D rfl rfl (aW.put (by omega) (A0 _) am) aO.2 aU aX W X)
end
open M (Sorted Ab Bw BJ Af Ak BN Ah ba BB aH Az)
theorem AOX(key:A2Y): ∀ {l:List Pr},Sorted l->(Az key l=true-> ∃p,l[aH key l]? =some p/\Ab key l=some p)/\(Az key l=false->Ab key l=none)
 | [],_=>⟨(λh=>by cases h),λ_=>rfl⟩
 |x::l,s=>by
  have d:=List.pairwise_cons.1 s;have e:=AOX key d.2;rw[AEq,Vt,M.BG];by_cases h:aI x.key key=true
  ·rw[if_pos h,if_pos h,if_neg (M.Mk h)];exact⟨λb=>by obtain⟨p,f,i⟩:=e.1 b;exact⟨p,by simpa using f,i⟩,e.2⟩
  ·rw[if_neg h,if_neg h];by_cases a:x.key=key
   ·rw[if_pos a];exact⟨λ_=>⟨x,rfl,rfl⟩,λj=>by simp[a] at j⟩
   ·rw[if_neg a];refine⟨λb=>by simp[a] at b,λ_=>M.EQ λn o r=>h ?_⟩;have:=d.1 n o;rwa [r] at this
section
variable {A : ao} {B : cX} {g h : aa} {q : Hp} {k : Nat -> Nat} {st : Db} {m : Bx} {D : Yw} {bD c : Nat} {R : A2X}
theorem Dc.gy(a:Dc B g h q k st m D bD c):st.fr.length<=1000000/\st.ts.length<=100000/\(Af (st.fr::Cr st)).length<=1099511627776/\(Dy st).length<=100000:=by have d:=a.lim.bX;have b:=M.VD (st.fr::Cr st);rw[M.AL7] at b;have e:=a.hc;have f:=B.hC;have i:=a.lim.cB;have j:(Dy st).length<=(Af (st.fr::Cr st)).length:=sW _;omega
theorem Dc.sorted(a:Dc B g h q k st m D bD c):Sorted (Dy st):=FM _ _
end
section
variable {A : ao} {B : cX} {g h : aa} {q : Hp} {k : Nat -> Nat} {st : Db} {m : Bx} {D : Yw} {bD c : Nat} {R : A2X}
theorem Dc.on {a:aa}(b:Dc B g h q k st m D bD c)(x:Ext h a):Dc B g a q k st m D bD c:= {b with mem:=b.mem.on x}
theorem Dc.beside {a:aa}{b:Nat->Prop}(d:Dc B g h q k st m D bD c)(x:Mod b h a)(hX: ∀c,b c->k c=0/\g.size<=c):Dc B g a q k st m D bD c:= {d with mem:=d.mem.beside x hX}
theorem Dc.free(a:Dc B g h q k st m D bD c){x:Nat}(d:h.size<=x):k x=0:=Decidable.byContradiction λb=>by
 have:=(a.mem.own x b).2;omega
theorem Dc.base(a:Dc B g h q k st m D bD c){x:Nat}(d:x<g.size):k x=0:=Decidable.byContradiction λb=>by
 have:=(a.mem.own x b).1;omega
theorem ADp {b:Nat}{j:Nat->Prop}{nm:A2Y}(n:bR h)(B:Dw h b j m)(hd:m.down=false)(e:m.files= [])(o:0<nm.size)(G:nm.size<=8)(p: ∀a d,Ext h a->h.size<=d->Gf a d b nm 1 false->R (J1 #[Ap d,J4 none 0 0,J6 J9 0]) a):AA A P TD #[Ap b,J7 nm] h R:=by
 refine ALj ?_;unfold xt;refine ab.no rfl (ah.mk λK r=>?_);have s:bB nm (⟨#[]⟩:A2Y)=false:=by rw[Bl,decide_eq_false_iff_not];rintro rfl;exact absurd o (by decide)
 rw[s];refine ab.no rfl (r _ _ (ab.no (by simp;omega) ?_));refine ACJ n B hd (by omega) (by rw[e];decide) λt f l u v2 i _=>⟨f,_,rfl,ab.no rfl ?_⟩
 have v:l= []:=List.eq_nil_iff_forall_not_mem.2 λw x=>by
  have:=((u.mem w).1 x).2.2;rw[e] at this;cases this
 have y:f.len=0:=by rw[v2.len,v];rfl
 refine λH z=>z _ _ (ab.no (by rw[y];rfl) (ab.no rfl (ai.mk λC _ E F I=>?_)))
 exact p C t.size (i.trans F) i.size E
theorem AJ0 {b a:Nat}{j:Nat->Prop}{d:Array J0}(l:h[a]? =some (J2 d Ki (0,0)))(n:d[0]? =some (Ap b))(B:Dw h b j m)(hd:m.down=false)(o:m.files= [])(p: ∀e,Ext h e->R (J6 J9 0) e):AA A P Pz #[Ap a] h R:=by
 refine ACp ?_;unfold Ve;refine aA (AY.mk (AO l n) (yA B λs r i x f=>⟨s,_,rfl,?_⟩));have t:jM m=([],0):=by unfold jM;rw[hd,o];rfl
 rw[t] at i ⊢;have u:s.len=0:=i.len;exact ab.no rfl λK v=>v _ _ (ab.no (by rw[u];rfl) (p r x))
open Classical in
noncomputable def k0 (Sb:Nat->Prop) (nt ft a b:Nat):Nat->Nat:=λc=>if Sb c then 2 else if c=nt then 4 else if c=ft then 5 else if c=a then 1 else if c=b then 3 else 0
theorem ARb {b:Nat}{Sb:Nat->Prop}(N:bR g)(y:Dw h b Sb m)(z:Ext g h)(ag: ∀c,Sb c->g.size<=c)(n:Calm m)(o:m.files= [])
  (aj: ∀G H O Q I ak,H.b=b->Dc B g G H O Q I ak 1 0->I.fuel= -1->Dy Q= []->(∀ r,¬dZ r->ff I r=ff m r)->Mod Sb h G->(∀ c,O c≠0->Sb c\/h.size<=c)->R (J1 #[Ap H.d,J6 J9 0]) G):AA A P Yr #[Ap b] h R:=by
 have al: ∀x,ff m x=none:=λx=>by unfold ff;rw[o];rfl
 have J: ∀c,Sb c->c<h.size:=λc a=>y.lt a
 refine AKq ?_;unfold wQ;refine ADp (nm:=nn) (N.ext z) y n.1 o (by decide) (by decide) λd nt S aK T=>⟨_,⟨none,0,0⟩,_,rfl,ab.no rfl ?_⟩
 refine M.tF λf am U aL=>⟨_,rfl,ai.mk λaM _ V C aN=>?_⟩
 have E:=(S.trans U).trans C;have aO:=S.size;have aP:=C.size;have aQ:nt<d.size:=Ai T;refine ah.mk λK an=>ab.no rfl (an _ _ ?_)
 refine AV.mk (s:=⟨none,0,0⟩) (AB V rfl) (λaR ao=>ao _ _ (ab.no rfl ?_));refine ADp (nm:=nl) (N.ext (z.trans E)) (y.ext E) n.1 o (by decide) (by decide) λW e l aS X=>⟨_,⟨none,0,0⟩,_,rfl,ab.no rfl ?_⟩
 have ap:=Ay l V;have aT:=l.size;refine ae.dw ap (by simp) λu v w aU=>?_
 have Y:Ext h u:=(E.trans l).then (w.ak λc _ a=> .inr (by omega));have Z:Gf u e b nl 1 false:=X.mod w (by omega);have aa:Dw u b Sb m:=((y.ext E).ext l).mod w λc a aq=>by have:=J c a;omega
 have ar:Gf u nt b nn 1 false:=((T.ext (U.trans C)).ext l).mod w (by omega);have au:M.cW u d.size [] []:=((am.ext C).ext l).mod w λc a aq=>by
  rcases a with rfl|⟨r,L,_⟩
  ·omega
  ·cases L
 refine λaV av=>av _ _ (AY.mk (AB v rfl) (AC.mk (AB v rfl) ?_))
 refine Pn ?_;unfold Me;refine ab.no rfl (aA (AC.mk (AB Z rfl) ⟨_,rfl,AB v rfl,ab.no rfl λaW aw=>aw _ _ (ab.no rfl ?_)⟩));refine AJ0 v rfl aa n.1 o λac j=>⟨_,rfl,?_⟩
 have aX:e<W.size:=Ai X;have ax:=z.trans (Y.trans j);have aY:=z.size;have aZ:=j.size;have nS: ∀c,h.size<=c-> ¬Sb c:=λc a F=>by have:=J c F;omega
 have ay:k0 Sb nt d.size f.size e f.size=1:=by unfold k0;rw[if_neg (nS _ (by omega)),if_neg (by omega),if_neg (by omega),if_pos rfl]
 have az:k0 Sb nt d.size f.size e e=3:=by unfold k0;rw[if_neg (nS _ (by omega)),if_neg (by omega),if_neg (by omega),if_neg (by omega),if_pos rfl]
 have aC:k0 Sb nt d.size f.size e nt=4:=by unfold k0;rw[if_neg (nS _ (by omega)),if_pos rfl]
 have aD:k0 Sb nt d.size f.size e d.size=5:=by unfold k0;rw[if_neg (nS _ (by omega)),if_neg (by omega),if_pos rfl]
 have af: ∀c,k0 Sb nt d.size f.size e c≠0->Sb c\/(h.size<=c/\c<W.size):=λc a=>by
  unfold k0 at a;by_cases F:Sb c
  ·exact .inl F
  ·rw[if_neg F] at a;right;by_cases aE:c=nt
   ·omega
   ·by_cases aF:c=d.size
    ·omega
    ·by_cases aG:c=f.size
     ·omega
     ·by_cases aH:c=e
      ·omega
      ·rw[if_neg aE,if_neg aF,if_neg aG,if_neg aH] at a;exact absurd rfl a
 have aI:bO g ac ⟨f.size,b,e,nt,d.size,Sb,[],⟨none,0,0⟩,⟨none,0,0⟩,[]⟩ (k0 Sb nt d.size f.size e) ⟨[],[],1,1,1,1,false⟩ m:=by
  refine⟨by simpa [eU] using Ay j v,aa.ext j,Z.ext j,ar.ext j,au.ext j,Own.nil,rfl,λi t p d=>by simp at d,Own.nil,ay,λc a=>by unfold k0;exact if_pos a,az,aC,λc a=>?_,λc a=>by simp[Sl.ag] at a,λc a=>by simp[Sl.ag] at a,λc a=>?_,ax⟩
  ·rcases a with rfl|⟨r,L,_⟩
   ·exact aD
   ·cases L
  ·rcases af c a with h|h
   ·exact⟨ag c h,by have:=J c h;omega⟩
   ·omega
 refine aj ac ⟨f.size,b,e,nt,d.size,Sb,[],⟨none,0,0⟩,⟨none,0,0⟩,[]⟩ _ ⟨[],[],1,1,1,1,false⟩ m () rfl ⟨aI,n,⟨RT,(λp aJ=>by cases aJ),λa0 _=>al _,(λh=>by cases h),A0 _⟩,⟨by decide,by decide,by decide,by decide,by decide⟩,by rw[o];exact A5 _,A5 _⟩ n.2 rfl (λ_ _=>rfl) (Ext.mod (Y.trans j)) λc a=>?_
 exact(af c a).imp id λh=>h.1
end
abbrev kb:A2Y:=⟨#[98]⟩
abbrev v1:A2Y:=⟨#[49]⟩
abbrev v2:A2Y:=⟨#[50]⟩
open Go Go.ChangeShapes Go.WideShapes Go.ChangeAt Go.RowKit Go.Proofs.YtfiljlifdlfkkaaGreatDoor
def listed:List (String×DataW Unit):=Rows.worldSpreadsRow.laid
theorem APa: ∃(x c a b:String×DataW Unit),listed= [x,c,(oY,Lib.tabData .u64 Lib.pow10Tab),a,b]:=⟨_,_,_,_,rfl⟩
theorem AW4:P.globalNamed oY=some 0:=by kernel_rfl
theorem AWS:(P.globals[0]?).map (·.type)=some VS:=by kernel_rfl
theorem AWy:P.underlying VS=some (.array 20 lL):=by kernel_rfl
theorem AV1:P.underlying lL=some (.int .u64):=by kernel_rfl
theorem AXI:P.cellsOf lL=1:=by kernel_rfl
theorem AXP:P.cellsOf VS=20:=by kernel_rfl
theorem AM4:listed.filter (λx=>x.2.handleName?.isSome)= []:=by kernel_rfl
theorem rq {b:World}(a:laidMetH P listed b):laidMet P listed b:=by unfold laidMetH at a;rw[AM4] at a;exact a
theorem AUe {c:World}(e:laidMetH P listed c):Lib.TabIs P c oY .u64 Lib.pow10Tab:=by have d:=rq e;obtain⟨x,g,a,b,f⟩:=APa;rw[f] at d;exact Lib.tabIs_of_head (rest:= [a,b]) AW4 AWS AWy AV1 AXI AXP (laidMet.tail (laidMet.tail d))
theorem AUg {a:World}(c:laidMetH P listed a):cW a.heap:=λd e=>by
 have b:=AUe c;unfold Lib.TabIs World.var? at b ⊢;exact b
def nX : String := String.ofList [Char.ofNat 42] ++ "errors.errorString"
def yd:String:=Rows.worldSpreadsRow.named.getD 1 (String.ofList [])
def ye:String:=Rows.worldSpreadsRow.named.getD 0 (String.ofList [])
theorem AWP: ∃(x a z b:String×DataW Unit) (text:List UInt8),listed= [x,a,z,(yd,.iface nX (.ptr (.agg [.lit (.string text)]))),b]:=⟨_,_,_,_,_,rfl⟩
theorem AVS: ∃(x a z b:String×DataW Unit) (text:List UInt8),listed= [x,a,z,b,(ye,.iface nX (.ptr (.agg [.lit (.string text)])))]:=⟨_,_,_,_,_,rfl⟩
theorem AXL:P.globalNamed yd=some 4:=by kernel_rfl
theorem AWl:P.globalNamed ye=some 3:=by kernel_rfl
theorem AVs:(P.globals[4]?).map (·.type)=some nV:=by kernel_rfl
theorem AVP:(P.globals[3]?).map (·.type)=some nV:=by kernel_rfl
theorem AXJ: ∃a,P.underlying nV=some (.interface a):=⟨_,Proofs.Tryz.underlying348⟩
theorem AVb(u:Q7)(a:P.typeName? 3 u=some nX):u=Eo:=
 typeName_ptr_named (nm := "errors.errorString") (by kernel_rfl) (by kernel_rfl) (by decide) u a
theorem AWu:P.underlying Eo=some (.pointer FQ):=by kernel_rfl
theorem AXd: ∃f:Field,P.underlying FQ=some (.struct #[f])/\f.type=BD/\f.offset=0:=⟨_,Proofs.Tryz.underlying437,rfl,rfl⟩
theorem AXb:P.cellsOf FQ=1:=by kernel_rfl
theorem yf {b:String}{text:List UInt8}{h:List (String×DataW Unit)}{a:World}{g:Nat}(i:laidMet P ((b,.iface nX (.ptr (.agg [.lit (.string text)])))::h) a)(c:P.globalNamed b=some g)(j:(P.globals[g]?).map (·.type)=some nV):kO a.heap g:=by
 obtain⟨o,hi⟩:=AXJ;obtain⟨f,k,l,m⟩:=AXd;obtain⟨d,p,n,_,_,_⟩:=laid_sentinel i c j hi AVb AWu k l m nW AXb yc;have e:a.cell? ⟨g,0,none⟩=some (.iface Eo (.pointer (some d))):=by simpa using World.var?_cell c n 0
 refine⟨.iface Eo (.pointer (some d)),?_,.inr ⟨_,_,rfl⟩⟩;unfold af;unfold World.cell? at e;exact e
theorem AVy {d:World}(b:laidMetH P listed d):bR d.heap:=by
 refine⟨AUg b,?_,?_⟩
 ·have a:=rq b;obtain⟨x,e,z,f,t,c⟩:=AVS;rw[c] at a;exact yf (laidMet.tail (laidMet.tail (laidMet.tail (laidMet.tail a)))) AWl AVP
 ·have a:=rq b;obtain⟨x,e,z,f,t,c⟩:=AWP;rw[c] at a;exact yf (laidMet.tail (laidMet.tail (laidMet.tail a))) AXL AVs
def ALV:DataW Unit->Array J0
 | .agg ds=>(ds.map λ| .lit (.int a z)=>Value.int a z|_=> .bool false).toArray
 |_=> #[]
def fill(a:DataW Unit):Obj->Obj
 | .cells _ t frozen=> .cells (ALV a) t frozen
 |o=>o
def iZ(b:Nat):Obj->Obj
 | .cells _ t frozen=> .cells #[.iface Eo (.pointer (some ⟨b,0,none⟩))] t frozen
 |o=>o
abbrev ATh:A2Y:=⟨#[118,97,108,117,101,32,111,117,116,32,111,102,32,114,97,110,103,101]⟩
abbrev AT8:A2Y:=⟨#[105,110,118,97,108,105,100,32,115,121,110,116,97,120]⟩
noncomputable def low:Nat:=(World.holding P default ⟨#[],#[],[]⟩).heap.size
noncomputable def rr (os:Os):World:=
 let a:=World.holding P os ⟨#[.cells #[.string ATh] FQ,.cells #[.string AT8] FQ],#[],[]⟩
 {a with heap:=((((a.heap.modify 0 (fill Rows.laid_internal_strconv_uint64pow10)).modify 1 (fill Rows.laid_math_bits_deBruijn32tab)).modify 2 (fill Rows.laid_math_bits_deBruijn64tab)).modify 4 (iZ low)).modify 3 (iZ (low+1))}
theorem ALK(os:Os)(args:Array J0):laidMet P listed ((rr os).forCall (λ_ _=>0) ⟨#[],args,[]⟩).memory:=
 laidMet_of_run' 8 (by kernel_rfl) (by kernel_rfl)
end Go.Lf.G
namespace Go.Lf.G.M
open Go Go.ChangeShapes Go.WideShapes Go.ChangeAt Go.RowKit Go.Proofs.YtfiljlifdlfkkaaGreatDoor
def lJ(a:World):ao:=⟨a.tape,a.os,a.output⟩
section
variable {H : Type} {enc : Q7 × J0 -> H} {w : World} {base : Nat} {spare : Nat -> Bool} {held : Bool}
instance:Inhabited Pr:=⟨⟨⟨#[]⟩,⟨#[]⟩,false⟩⟩
instance:Inhabited Sl:=⟨⟨none,0,0⟩⟩
end
end Go.Lf.G.M
namespace Go.Lf.G
open Go
open M (Sorted Ab Bw BJ Af Ak BN Ah ba BB aH Az)
structure AWt where
 kind:Int
 bs:Sl
 key:A2Y
 til:A2Y
 most:Int
 ks:Sl
structure AXg (N:Nat) (h:aa) (x:AWt) (l:List Pr) (ks:List Int):Prop where
 bs:View Bg h x.bs l
 ks:View Jh h x.ks ks
 key:x.key.size<=N
theorem AUx {e:Type}{d:cr e}{h:aa}{s:Sl}{l:List e}(v:View d h s l)(f:l≠ []){b:Nat}(i:s.ag=some b):b<h.size:=by
 cases l with
 |nil=>exact absurd rfl f
 |cons x l=>
  obtain⟨a,j,n⟩:=v.cells 0 x rfl;have p:=d.pos;have r:=d.len x;obtain⟨u,o⟩: ∃u,(d.enc x)[0]? =some u:=⟨_,A2 (by omega)⟩;have:=Zt (n 0 u o);rw[aP,aP] at this;have t:a.block=b:=by simpa [Sl.ag,j] using i
  omega
section
variable {A : ao} {B : cX} {g h : aa} {q : Hp} {k : Nat -> Nat} {st : Db} {m : Bx} {D : Yw} {bD c : Nat} {R : A2X}
theorem Dc.args(a:Dc B g h q k st m D bD c){s:Sl}{l:List Pr}(v:View Bg g s l):l≠ []-> ∀b,s.ag=some b->b<h.size/\k b=0:=λd b e=>by
 have f:=AUx v d e;have:=a.mem.ext.size;exact⟨by omega,a.base f⟩
end
open Go Go.ChangeShapes Go.WideShapes Go.ChangeAt Go.RowKit Go.Proofs.YtfiljlifdlfkkaaGreatDoor
section
variable {H : Type} {enc : Q7 × J0 -> H} {w : World} {base : Nat} {spare : Nat -> Bool} {held : Bool}
theorem yg {b t:Q7}{d:Nat}{c:List J0}{x:DataW H×List MemPlace}(e:P.underlying b=some (.slice t))(f:DataW.trod enc P w base spare held d b c=some x): ∃s:Sl,c= [.slice s.p s.len s.cap]:=by
 rcases Deep.open_slice e f with⟨rfl,_⟩|⟨a,g,h,m,i,j,k,rfl,_⟩
 ·exact⟨⟨none,0,0⟩,rfl⟩
 ·exact⟨⟨some a,g,h⟩,rfl⟩
end
def fieldsOf(P:Q1)(t:Q7):Option (List (Q7×Nat)):=match P.underlying t with
 |some (.struct a)=>some (a.toList.map λf=>(f.type,f.offset))
 |_=>none
section
variable {H : Type} {enc : Q7 × J0 -> H} {w : World} {base : Nat} {spare : Nat -> Bool} {held : Bool}
theorem yh {t:Q7}{c:List (Q7×Nat)}{h:Nat}{d:List J0}{x:DataW H×List MemPlace}(b:fieldsOf P t=some c)(j:DataW.trod enc P w base spare held h t d=some x):
  ∃(a:List (DataW H×List MemPlace)) (m:Nat),x=(.agg (a.map (·.1)),a.flatMap (·.2))/\d.length=P.cellsOf t/\a.length=c.length/\
   ∀(i:Nat) (f:Q7×Nat),c[i]? =some f->DataW.trod enc P w base spare held m f.1 ((d.drop f.2).take (P.cellsOf f.1))=a[i]? :=by
 unfold fieldsOf at b;split at b
 ·rename_i q k;simp at b;subst b;obtain⟨a,m,_,rfl,l,n,o⟩:=DataW.trod_struct k j;refine⟨a,m,rfl,l,by simpa using n,λi f e=>?_⟩;simp only[B9,A09,RR] at e;obtain⟨g,p,rfl⟩:=e;exact o i g p
 ·cases b
end
def Lp(a:ao)(i:Int)(q:bN)(aF:Sl)(au:aa)(c:A2X):=ai au (J2 q.c Cs) λb av=>AA a P KE #[] av λv j=>∃k,v=J3 k/\ab (!k) (c (J3 false) j) (AA a P LC #[J5 none,J6 J9 3] j λv1 aw=>v1=J1 #[]/\AA a P I6 #[J5 none,J6 J9 i,J6 J9 0] aw λv2 ax=>∃ay l,v2=J1 #[J6 J9 ay,J6 J9 l]/\AA a P FV #[J5 none] ax λaz m=>∃aA n,az=J1 #[J6 J9 aA,J6 J9 n]/\MB m (ad b) λaC=>AA a P Kw #[J5 none,J6 J9 i,aC.v] m λaE aG=>∃aH o,aE=J1 #[J6 J9 aH,J6 J9 o]/\AA a P I7 #[J5 none,J6 J9 i] aG λaI aJ=>DX λp=>∃r,aI=J1 #[p.v,J6 J9 r]/\ai aJ (J2 aS.z.c Aw) λaK aL=>aD aL (ad aK) p.l λaM=>AA a P GL #[J5 none,J6 J9 i] aM λaN aO=>∃aP s,aN=J1 #[J6 J9 aP,J6 J9 s]/\ah (λ(aQ:Bool×Unit) t=>ab aQ.1 (c (J3 false) t) (AA a P RF #[J6 J9 2,J6 J9 2] t λaR u=>∃e aT,aR=J1 #[J5 e,J6 J9 aT]/\ah (λ(aU:Bool×Unit) w=>ab aU.1 (c (J3 false) w) (AA a P EO #[J5 e,J6 J9 i] w λaV g=>∃h,aV=J6 J9 h/\ab (decide (i>=0)) (ab ((h==0)==(decide (i<2))) (AA a P En #[J6 J9 i] g λaW aX=>∃x:A2Y,aW=J7 x/\AA a P GH #[J6 J9 i] aX λaY y=>∃z:A2Y,aY=J7 z/\ab (bB x z) (AA a P Li #[J6 J9 0] y λaZ a0=>∃A:A2Y,aZ=J7 A/\c (J3 (bB A (⟨#[115,104,97,114,100,32,48]⟩:A2Y))) a0) (c (J3 false) y)) (c (J3 false) g)) (ab ((h==0)==false) (AA a P En #[J6 J9 i] g λa1 a2=>∃B:A2Y,a1=J7 B/\AA a P GH #[J6 J9 i] a2 λa3 C=>∃D:A2Y,a3=J7 D/\ab (bB B D) (AA a P Li #[J6 J9 0] C λa4 a5=>∃E:A2Y,a4=J7 E/\c (J3 (bB E (⟨#[115,104,97,114,100,32,48]⟩:A2Y))) a5) (c (J3 false) C)) (c (J3 false) g)))) λf=>MB u (ad b) λa6=>AA a P BK #[J5 e,J6 J9 i,a6.v] u λa7 F=>DX λG=>a7=G.v/\ab (G.err != 230) (f (true,()) F) (AA a P Dj #[J5 e,J6 J9 (-1)] F λa8 H=>∃I,a8=J6 J9 I/\ab (I != 1) (f (true,()) H) (AA a P Dj #[J5 e,J6 J9 1001] H λa9 J=>∃L,a9=J6 J9 L/\ab (L != 1) (f (true,()) J) (AA a P Dj #[J5 e,J6 J9 1000] J λba M=>∃N,ba=J6 J9 N/\ab (N != 0) (f (true,()) M) (AA a P Gg #[J5 e] M λbb bc=>∃O,bb=J6 J9 O/\f ((O != 1000),()) bc)))))) λK=>AA a P EO #[J5 none,J6 J9 i] aO λbd Q=>∃R,bd=J6 J9 R/\ab (R != 230) (K (true,()) Q) (AA a P KO #[J5 none,J6 J9 i] Q λbe d=>∃S,be=J6 J9 S/\ab (S != 230) (K (true,()) d) (ab (l != 230) (K (true,()) d) (ab (n != 230) (K (true,()) d) (ab (o != 230) (K (true,()) d) (ab (r != 230) (K (true,()) d) (ab (s != 230) (K (true,()) d) (MB d (ad b) λbf=>AA a P BK #[J5 none,J6 J9 i,bf.v] d λbg T=>DX λU=>bg=U.v/\ab (U.err != 230) (K (true,()) T) (AA a P FR #[J5 none,J6 J9 i] T λbh V=>DX λW=>bh=W.v/\ab (W.err != 230) (K (true,()) V) (AA a P Kv #[J5 none,J6 J9 i,J7 (⟨#[97]⟩:A2Y),J3 true] V λbi X=>DX λY=>bi=Y.v/\ab (Y.err != 230) (K (true,()) X) (AA a P KH #[J5 none,J4 aF.p aF.len aF.cap] X λbj Z=>∃ac,bj=J6 J9 ac/\ab (ac != 230) (K (true,()) Z) (AA a P LD #[J5 none,J3 true] Z λbk ae=>∃af,bk=J6 J9 af/\ab (af != 30) (K (true,()) ae) (AA a P Dj #[J5 none,J6 J9 1] ae λbm ag=>∃aj,bm=J6 J9 aj/\ab (aj != 1) (K (true,()) ag) (AA a P MS #[J5 none] ag λbn ak=>∃al,bn=J5 al/\ab (!al.isNone) (K (true,()) ak) (AA a P Gg #[J5 none] ak λbo am=>∃an,bo=J6 J9 an/\ab (an != 0) (K (true,()) am) (AA a P KN #[J5 none,J6 J9 i,J6 J9 0] am λbp ap=>∃aq,bp=J6 J9 aq/\ab (aq != 0) (K (true,()) ap) (AA a P I4 #[J5 none] ap λbq br=>∃ar,bq=J6 J9 ar/\K ((ar != 0),()) br)))))))))))))))))
theorem Ro {a i q aF b c}(d:Lp a i q aF b c):AA a P Ld #[J6 J9 i,q.v,J4 aF.p aF.len aF.cap] b c:=AX (AJ AQ (AJ CX (Bj 7 (AJ (AJ (.aU [(142,.one .bool)] [0,4]) DT) (AJ AQ (AJ (AJ (.aU [(172,.one .bool)] [0,18]) DT) BQ)))))) (by kernel_rfl) d
theorem ATk:Rj P Bo BD Jn.w 16=true:=by kernel_rfl
theorem jC:P.underlying Aj=some (.float .f64):=by kernel_rfl
theorem YZ:P.underlying BM=some (.int J9):=by kernel_rfl
theorem mW:VR 0 0:=AOU false
theorem vr1:VR 4607182418800017408 1:=by
 have a:=WE (n:=1) (by decide);have b:floatOfInt .f64 1=4607182418800017408:=by kernel_rfl
 rwa [b] at a
theorem AXa:VR 13830554455654793216 (-1):=by
 have a:=WE (n:= -1) (by decide);have b:floatOfInt .f64 (-1)=13830554455654793216:=by kernel_rfl
 rwa [b] at a
theorem pM:VR 4652218415073722368 1024:=by
 have a:=WE (n:=1024) (by decide);have b:floatOfInt .f64 1024=4652218415073722368:=by kernel_rfl
 rwa [b] at a
theorem tZ:VR 13875590451928498176 (-1024):=by
 have a:=WE (n:= -1024) (by decide);have b:floatOfInt .f64 (-1024)=13875590451928498176:=by kernel_rfl
 rwa [b] at a
theorem u0 {n:ao}{h:aa}{t:Q7}{o p:Operand}{a b c i:Nat}{d m x e:Int}{K:A2X}(j:VR a d)(k:VR b m)(l:VR c x)(hd:VR i e)
  (D:(d*x).natAbs<=4096) (E:(m*e).natAbs<=4096) (F:(d*e).natAbs<=4096) (G:(m*x).natAbs<=4096) (q: ∀g f,VR g (d*x-m*e)->VR f (d*e+m*x)->K (.complex .f64 g f) h):
  Ad n P (sq .mul t o p a b c i) h K:=by
 obtain⟨H,r,v1⟩:=j.mul l (by omega);obtain⟨I,s,v2⟩:=k.mul hd (by omega);obtain⟨g,u,v⟩:=v1.sub v2 (by omega);obtain⟨J,w,y⟩:=j.mul hd (by omega);obtain⟨L,z,A⟩:=k.mul l (by omega);obtain⟨f,B,C⟩:=y.add A (by omega);exact AT4 r s u w z B (q g f v C)
theorem pN {k:ao}{b:aa}{name:A2Y}{h:A2X}(l:name.size<=1099511627776)(o: ∀p,CP p (Tp name)->h (.complex .f64 p.1 p.2) b):AA k P MX #[J7 name] b h:=by
 refine AGc ?_;unfold wG;refine p6 l ⟨_,_,rfl,?_⟩;have g1:=sy name;have H:=ASw name;have I:R8 name / 2^7<=R8 name:=LN _ _;have q:=AO8 name;have r:Uk .u32 (Xo name:Int) ((R8 name:Int).fdiv ((2:Int)^(7:Nat)))=((Xo name ^^^ (R8 name / 128):Nat):Int):=by rw[Px,Td g1 (by omega)]
 have s:J8 J9 ((Uk .u32 (Xo name:Int) ((R8 name:Int).fdiv ((2:Int)^(7:Nat)))).tmod (4096:Int))=((Tp name:Nat):Int):=by rw[r,show((Xo name ^^^ (R8 name / 128):Nat):Int).tmod (4096:Int)=((Tp name:Nat):Int) from(Iv _ 4096).symm,Fz (by omega)]
 rw[s];generalize Tp name=t at*
 have u:((t:Nat):Int).tmod (1024:Int)=((t % 1024:Nat):Int):=(Iv t 1024).symm;have v:J8 J9 (((t:Nat):Int).tdiv (1024:Int))=((t / 1024:Nat):Int):=by rw[show((t:Nat):Int).tdiv (1024:Int)=((t / 1024:Nat):Int) from(Int.ofNat_tdiv t 1024).symm,Fz (by omega)]
 rw[u,v,wrap_i64 (by omega) (by omega)];refine oS YZ jC ⟨_,rfl,oS YZ jC ⟨_,rfl,ANF ⟨(_,_),rfl,?_⟩⟩⟩;have w:t % 1024<1024:=BY _ (by decide);have v1:=WE (n:=(1024:Int)-((t % 1024:Nat):Int)) (by omega);have v2:=WE (n:=((t % 1024:Nat):Int)) (by omega);obtain⟨y,z⟩:=AB1 w;refine Loop.rule (λm x i=> ∃(a:Nat) (p:Nat×Nat),x=(p,(a:Int),())/\i=b/\m=t / 1024-a/\a<=t / 1024/\VR p.1 (px (t % 1024+1024*a))/\VR p.2 (py (t % 1024+1024*a))) ?_
  ⟨0,_,rfl,rfl,rfl,by omega,by rw[Nat.mul_zero,DB,z];exact v1,by rw[Nat.mul_zero,DB,y];exact v2⟩
 rintro K m _ i ⟨a,p,rfl,c,rfl,J,d,e⟩ A;subst c;refine ab.intro (λg=>?_) (λg=>?_)
 ·have j:a<t / 1024:=by have b:((a:Nat):Int)<((t / 1024:Nat):Int):=of_decide_eq_true g;omega
  have B:t % 1024+1024*a<3072:=by omega
  obtain⟨L,M,N,O⟩:=sA (t:=t % 1024+1024*a) (by omega);refine u0 d e mW vr1 (by simp) (by simp;omega) (by simp;omega) (by simp) λc f C D=>⟨(c,f),rfl,?_⟩
  obtain⟨E,F⟩:=AK5 B;refine A (t / 1024-(a+1)) _ _ (by omega) ⟨a+1,_,by rw[Ac (by omega)],rfl,rfl,j,?_,?_⟩
  ·rw[show t % 1024+1024*(a+1)=t % 1024+1024*a+1024 by omega,E];simpa using C
  ·rw[show t % 1024+1024*(a+1)=t % 1024+1024*a+1024 by omega,F];simpa using D
 ·have j:a=t / 1024:=by have b: ¬((a:Nat):Int)<((t / 1024:Nat):Int):=of_decide_eq_false g;omega
  have G:t % 1024+1024*a=t:=by omega
  rw[G] at d e;exact o p ⟨q,d,e⟩
theorem u5 {v:ao}{e:aa}{p:Nat×Nat}{t:Nat}{i:A2X}(w:CP p t)(y:i (J6 J9 (t:Int)) e):AA v P XC #[.complex .f64 p.1 p.2] e i:=by
 obtain⟨F,z,A⟩:=w;refine AMt ?_;unfold wS;refine Loop.rule (λm x c=> ∃(s:Nat) (q:Nat×Nat),x=(q,((t-s:Nat):Int),())/\c=e/\m=s/\s<=t/\VR q.1 (px s)/\VR q.2 (py s)) ?_ ⟨t,p,by simp,rfl,rfl,by omega,z,A⟩;rintro K m _ c ⟨s,q,rfl,b,em,G,j,g⟩ B;subst b;obtain rfl:s=m:=em.symm;obtain⟨H,I,J,L⟩:=sA (t:=s) (by omega);have h:=AL9 (t:=s) (by omega);refine ah.mk λk l=>?_
 have more:1024<=s->k (true,()) c:=λa=>l _ _ (ab.yes rfl (by
  refine u0 j g mW AXa (by simp) (by simp;omega) (by simp;omega) (by simp) λb f n o=>⟨(b,f),rfl,?_⟩
  obtain⟨C,D⟩:=AK5 (t:=s-1024) (by omega);rw[show s-1024+1024=s by omega] at C D;dsimp only;refine B (s-1024) _ _ (by omega) ⟨s-1024,(b,f),?_,rfl,rfl,by omega,?_,?_⟩
  ·rw[wrap_i64 (by omega) (by omega),show((t-s:Nat):Int)+1024=((t-(s-1024):Nat):Int) by omega]
  ·have:px s*0-py s* -1=px (s-1024):=by omega
   rw[this] at n;exact n
  ·have:px s* -1+py s*0=py (s-1024):=by omega
   rw[this] at o;exact o))
 have done:s<1024->k (false,()) c:=λa=>l _ _ (ab.no rfl (by
  refine sr ⟨_,rfl,su jC YZ (g.toInt (by omega)) ⟨_,rfl,?_⟩⟩;obtain⟨E,_⟩:=AB1 a;dsimp only;rw[E,wrap_i64 (by omega) (by omega),show((t-s:Nat):Int)+(s:Int)=(t:Int) by omega];exact y))
 refine AOl ⟨_,rfl,ATa ⟨_,rfl,?_⟩⟩;rw[j.order mW];refine ab.intro (λd=>?_) (λd=>?_)
 ·have r:0<px s:=by
   have:compare (px s) 0= .gt:=by simpa using d
   exact lZ.1 this
  refine sr ⟨_,rfl,sn ⟨_,rfl,?_⟩⟩;rw[g.order mW];by_cases u:0<=py s
  ·have b:(some (compare (py s) 0)==some Ordering.gt||some (compare (py s) 0)==some Ordering.eq)=true:=by
    rcases ON u with a|a
    ·rw[lZ.2 a];rfl
    ·rw[cmp_eq.2 a.symm];rfl
   rw[b];exact done (h.1 ⟨r,u⟩)
  ·have b:(some (compare (py s) 0)==some Ordering.gt||some (compare (py s) 0)==some Ordering.eq)=false:=by rw[si.2 (by omega)];rfl
   rw[b];exact more (by rcases CD s 1024 with a|a;exact absurd (h.2 a).2 (by omega);exact a)
 ·have r: ¬0<px s:=by intro a;rw[lZ.2 a] at d;simp at d
  exact more (by rcases CD s 1024 with a|a;exact absurd (h.2 a).1 (by omega);exact a)
theorem u6 {x a:Int}(c:a<=x):(some (compare x a)==some Ordering.gt||some (compare x a)==some Ordering.eq)=true:=by
 rcases ON c with b|b
 ·rw[lZ.2 b];rfl
 ·rw[cmp_eq.2 b.symm];rfl
theorem u7 {x a:Int}(c:x<=a):(some (compare x a)==some Ordering.lt||some (compare x a)==some Ordering.eq)=true:=by
 rcases ON c with b|b
 ·rw[si.2 b];rfl
 ·rw[cmp_eq.2 b];rfl
theorem u9 {x:Int}:(some (compare x x) != some Ordering.eq)=false:=by rw[cmp_eq.2 rfl];rfl
theorem ua {f:ao}{c:aa}{p:Nat×Nat}{t:Nat}{d:A2X}(g:CP p t)(h:d (J3 true) c):AA f P O9 #[.complex .f64 p.1 p.2] c d:=by
 obtain⟨e,a,b⟩:=g;obtain⟨i,j,k,l⟩:=sA e;have m:=APY e;refine AGN ?_;unfold Zg;refine AOl ⟨_,rfl,sr ⟨_,rfl,ah.mk λK o=>?_⟩⟩;have key:K (false,()) c:=o _ _ (ab.no rfl (by
  refine ATH a a.neg λx v1=>⟨_,rfl,ATH b b.neg λy v2=>⟨_,rfl,?_⟩⟩
  obtain⟨z,q,r⟩:=v1.add v2 (by omega);refine ATo q ⟨_,rfl,ATe ⟨_,rfl,?_⟩⟩;rw[r.order pM,m,cmp_eq.2 rfl];exact h))
 have s:=a.toInt (by omega);have u:=b.toInt (by omega);have v:=WE (n:=px t) (by omega);have w:=WE (n:=py t) (by omega);refine sn ⟨_,rfl,?_⟩;rw[a.order tZ,u6 i];refine ab.yes rfl (ANb ⟨_,rfl,?_⟩);rw[a.order pM,u7 j];refine ab.yes rfl (sn ⟨_,rfl,?_⟩);rw[b.order tZ,u6 k];refine ab.yes rfl (ANb ⟨_,rfl,?_⟩);rw[b.order pM,u7 l];refine ab.no rfl (su jC YZ s ⟨_,rfl,oS YZ jC ⟨_,rfl,AOg ⟨_,rfl,?_⟩⟩⟩);rw[a.order v,u9];refine ab.no rfl (su jC YZ u ⟨_,rfl,oS YZ jC ⟨_,rfl,AOg ⟨_,rfl,?_⟩⟩⟩);rw[b.order w,u9];exact key
theorem uc {e:ao}{c:aa}{p q:Nat×Nat}{s t:Nat}{d:A2X}(a:CP p s)(b:CP q t)(f:d (J6 J9 (sB s t:Int)) c):AA e P Qg #[.complex .f64 p.1 p.2,.complex .f64 q.1 q.2] c d:=by
 refine AIn ?_;unfold wH;refine ah.mk λK g=>?_
 refine ua a ⟨_,rfl,ab.no rfl (ua b ⟨_,rfl,g _ _ (ab.no rfl ?_)⟩)⟩;refine u5 b ⟨_,rfl,u5 a ⟨_,rfl,?_⟩⟩;have i:=a.1;have j:=b.1;have h:(J8 J9 ((J8 J9 ((t:Int)-(s:Int)))+(4096:Int))).tmod (4096:Int)=((sB s t:Nat):Int):=by rw[wrap_i64 (n:=(t:Int)-(s:Int)) (by omega) (by omega),wrap_i64 (by omega) (by omega),show(t:Int)-(s:Int)+4096=((t+4096-s:Nat):Int) by omega];exact(Iv _ 4096).symm
 rw[h];exact f
end Go.Lf.G
