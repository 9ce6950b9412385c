/-
 Contracts: owners on the ring (chapter 11).
-/
import Derived.Test.YtfiljlifdlfkkaaGreatDoorLfZ2ToC1
import Derived.Test.YtfiljlifdlfkkaaGreatDoorLfU2ToX2
import Derived.Test.YtfiljlifdlfkkaaGreatDoorLfY7ToZ1
import Derived.Test.YtfiljlifdlfkkaaGreatDoorLfG1
import Derived.Test.YtfiljlifdlfkkaaGreatDoorLfKToGA
import Derived.WideKeyEntry
set_option maxRecDepth 100000
set_option linter.unusedVariables false
set_option linter.unusedSimpArgs false
open Go.IntKind renaming i64→J9,wrap→J8
open Go.Value renaming string→J7,int→J6,pointer→J5,slice→J4,bool→J3,tuple→J1
open Go.Obj renaming cells→J2
open Go renaming Value→J0,Addr→Q6,TypeId→Q7,FuncId→Q8,Program→Q1
open Go.Addr renaming add→Q9,mk→Q5
namespace Go.Lf.G
open Go
theorem jA.mk {k:FloatKind}{b:aa}{a:Q6}{K:Nat×Nat->Prop}{n:Nat×Nat}(c:af b a=some (.complex k n.1 n.2))(d:K n):jA k b a K:=⟨n,c,d⟩
theorem ud {c:ao}{a:aa}{x:Int}{b:A2X}(d:b (J3 false) a):AA c P IK #[J6 J9 x] a b:=by
 refine XZ ?_;unfold QG;have:(x != x)=false:=by simp
 rw[this];exact d
theorem ue {c:ao}{a:aa}{x:A2Y}{b:A2X}(d:b (J3 false) a):AA c P GN #[J7 x] a b:=by
 refine Sz ?_;unfold Mm;have:(!bB x x)=false:=by rw[Bl];simp
 rw[this];exact d
def kh(x a:Int):Int:=if x<a then -1 else if a<x then 1 else 0
def la(x a:A2Y):Int:=if aI x a then -1 else if x=a then 0 else 1
theorem ALO {f:ao}{d:aa}{x c:Int}{e:A2X}(a:e (J6 J9 (kh x c)) d):AA f P JX #[J6 J9 x,J6 J9 c] d e:=by
 refine Ui ?_;unfold Nn;unfold kh at a;refine ud ⟨_,rfl,ud ⟨_,rfl,ab.no rfl (ab.no rfl ?_)⟩⟩;refine ab.intro (λb=>?_) (λb=>?_)
 ·rw[if_pos (of_decide_eq_true b)] at a;exact a
 ·rw[if_neg (of_decide_eq_false b)] at a;refine ab.intro (λb=>?_) (λb=>?_)
  ·have:c<x:=of_decide_eq_true b;rw[if_pos this] at a;exact a
  ·have: ¬c<x:=of_decide_eq_false b;rw[if_neg this] at a;exact a
theorem AKh {f:ao}{c:aa}{x d:A2Y}{e:A2X}(a:e (J6 J9 (la x d)) c):AA f P Hw #[J7 x,J7 d] c e:=by
 refine Rb ?_;unfold Lj;unfold la at a;refine ue ⟨_,rfl,ue ⟨_,rfl,ab.no rfl (ab.no rfl ?_)⟩⟩;refine ab.intro (λb=>?_) (λb=>?_)
 ·rw[if_pos b] at a;exact a
 ·rw[if_neg (by simp[b])] at a;rw[b,Ix,Bl];refine ab.intro (λb=>?_) (λb=>?_)
  ·rw[if_neg (by simpa using b)] at a;exact a
  ·rw[if_pos (by simpa using b)] at a;exact a
theorem AXE {o:ao}{e:aa}{s:Sl}{c f:Int}{k:A2X}(v:View Jh e s [c,f])(b:k (J6 J9 (if c≠0 then c else f)) e):AA o P OT #[J4 s.p s.len s.cap] e k:=by
 refine ABW ?_;unfold UO;have h:s.len=2:=v.len;refine Loop.rule (λm x l=> ∃i:Nat,x=((i:Int),())/\l=e/\m=2-i/\(i=0\/(i=1/\c=0)\/(i=2/\c=0/\f=0))) ?_ ⟨0,rfl,rfl,rfl,.inl rfl⟩;rintro K m _ l ⟨i,rfl,p,rfl,hi⟩ n;subst p;rcases hi with rfl|⟨rfl,g⟩|⟨rfl,g,hd⟩
 ·refine ab.yes (by rw[h];rfl) (v.idx (i:=0) (x:=c) rfl λa _ j=>AC.mk j.int ?_);refine ab.intro (λd=>?_) (λd=>?_)
  ·rw[if_pos (by simpa using d)] at b;exact b
  ·exact n 1 _ _ (by omega) ⟨1,rfl,rfl,rfl,.inr (.inl ⟨rfl,by simpa using d⟩)⟩
 ·rw[if_neg (by simpa using g)] at b;refine ab.yes (by rw[h];rfl) (v.idx (i:=1) (x:=f) rfl λa _ j=>AC.mk j.int ?_);refine ab.intro (λd=>?_) (λd=>?_)
  ·exact b
  ·exact n 0 _ _ (by omega) ⟨2,rfl,rfl,rfl,.inr (.inr ⟨rfl,g,by simpa using d⟩)⟩
 ·rw[if_neg (by simpa using g),hd] at b;exact ab.no (by rw[h];rfl) b
theorem ASo(key a b:A2Y):decide ((if kh (Lg key a:Int) (Lg key b:Int)≠0 then kh (Lg key a:Int) (Lg key b:Int) else la a b)<0)=dc key a b:=by
 unfold dc kh la;by_cases d:Lg key a<Lg key b
 ·simp[d]
 ·by_cases e:Lg key b<Lg key a
  ·have c: ¬Lg key a=Lg key b:=by omega
   simp[d,e,c]
  ·have c:Lg key a=Lg key b:=by omega
   simp only[c,Int.lt_irrefl,if_false,ne_eq,not_true_eq_false,Nat.lt_irrefl,decide_false,Ix,decide_true,Ek];cases g:aI a b
   ·by_cases f:a=b<;>simp[f]
   ·simp
theorem AVW {i:ao}{c:aa}{b:Nat}{T:Q7}{fr:Nat×Nat}{key x a:A2Y}{p:Nat×Nat}{d:A2X}(j:c[b]? =some (J2 #[.complex .f64 p.1 p.2] T fr))(e:CP p (Tp key))(k:x.size<=1099511627776)(m:a.size<=1099511627776)
  (n: ∀f h,decide (f<0)=dc key x a->Ext c h->d (J6 J9 f) h):AA i P MC #[J7 x,J7 a,Ap b] c d:=by
 refine ACr ?_;unfold Vf;have g:af c ⟨b,0,none⟩=some (.complex .f64 p.1 p.2):=AO j rfl;refine aA (jA.mk g (aA (jA.mk g (pN k λo q=>⟨o,rfl,g,g,?_⟩))));refine uc e q ⟨_,rfl,g,pN m λr t=>⟨r,rfl,g,?_⟩⟩;refine uc e t ⟨_,rfl,ALO ⟨_,rfl,AKh ⟨_,rfl,ai.mk λu _ v w z=>?_⟩⟩⟩;have y:=(Own.lit (E:=Jh) (l:= [kh (Lg key x:Int) (Lg key a:Int),la x a]) v rfl (by simp[maxLen])).view;exact AXE (s:=⟨some ⟨c.size,0,none⟩,2,2⟩) y ⟨_,rfl,n _ u (ASo key x a) w⟩
abbrev iP(key:A2Y):A2Y->A2Y->A2Y:=λm a=>if dc key a m then a else m
theorem AMF {w:ao}{e:aa}{b:Nat}{T:Q7}{fr:Nat×Nat}{s:Sl}{l:List A2Y}{key:A2Y}{p:Nat×Nat}{q:A2X}(y:e[b]? =some (J2 #[.complex .f64 p.1 p.2] T fr))(z:CP p (Tp key))(v:View Jn e s l)(A:l≠ [])
  (r: ∀x∈l,x.size<=1099511627776) (B:l.length<=1099511627776) (C: ∀t,Ext e t->q (J7 (mg key l)) t):AA w P EE #[J4 s.p s.len s.cap,.func (.func MC) #[] #[Ap b]] e q:=by
 refine KQ ?_;unfold F4;obtain⟨d,c,rfl⟩: ∃f c,l=f::c:=by cases l with|nil=>exact absurd rfl A|cons f c=>exact⟨f,c,rfl⟩
 refine ah.mk λK D=>?_
 have Z:c.length+1<=1099511627776:=B;have E:s.len=c.length+1:=by have:=v.len;simpa using this
 refine ab.no (by rw[E,decide_eq_false_iff_not];omega) (D _ _ ?_);refine v.idx (i:=0) (x:=d) rfl λac _ F=>AL.mk F.str ?_
 refine Loop.rule (λm x n=> ∃a:Nat,x=((c.take a).foldl (iP key) d,((a+1:Nat):Int),())/\m=c.length-a/\a<=c.length/\Ext e n) ?_ ⟨0,rfl,rfl,by omega,Mod.refl⟩;rintro ae m _ n ⟨a,rfl,rfl,af,j⟩ G;have H: ∀a,(c.take a).foldl (iP key) d∈d::c:=λa=>by
  rcases(Vm key (c.take a) d).1 with o|o
  ·have I:(c.take a).foldl (iP key) d=d:=o;rw[I];exact B8
  ·exact AH _ (DE o)
 refine ab.intro (λg=>?_) (λg=>?_)
 ·have h:a<c.length:=by have J:((a+1:Nat):Int)<((s.len:Nat):Int):=of_decide_eq_true g;omega
  have k:(d::c)[a+1]? =some c[a]:=by simp[h]
  generalize L:c[a]=f at k;have M:f∈d::c:=AG k;refine ah.mk λN O=>?_
  have Q:=v.ext j;refine Q.idx (i:=a+1) k λag _ R=>AL.mk R.str ?_
  have S:=j.ag y (λe=>e);refine EM.func (first:= #[]) (bM:= #[Ap b]) (by kernel_rfl) ?_;refine AVW S z (r f M) (r _ (H a)) λU V W X=>⟨U,rfl,?_⟩
  have u:=j.trans X;have next:(c.take (a+1)).foldl (iP key) d=iP key ((c.take a).foldl (iP key) d) f:=by rw[AE,A2 h,L];simp[GP]
  have fin:N ((c.take (a+1)).foldl (iP key) d,()) V:=O _ _ (by
   refine G (c.length-(a+1)) _ _ (by omega) ⟨a+1,?_,rfl,h,u⟩;dsimp only;rw[Ac (by omega)])
  rw[next] at fin;rw[W];unfold iP at fin;refine ab.intro (λg=>?_) (λg=>?_)
  ·refine(v.ext u).idx (i:=a+1) k λai _ Y=>AL.mk Y.str ?_
   rw[if_pos g] at fin;exact fin
  ·rw[if_neg (by simp[g])] at fin;exact fin
 ·have h:a=c.length:=by have J: ¬((a+1:Nat):Int)<((s.len:Nat):Int):=of_decide_eq_false g;omega
  subst h;rw[CH];exact C n j
theorem AR7 {i:ao}{a:aa}{s:Sl}{l:List A2Y}{key:A2Y}{d:A2X}(v:View Jn a s l)(j: ∀x∈l,x.size<=1099511627776)(k:l.length<=1099511627776)(m:key.size<=1099511627776)
  (e: ∀f,Ext a f->d (J7 (mg key l)) f):AA i P Ta #[J4 s.p s.len s.cap,J7 key] a d:=by
 refine AGB ?_;unfold wC;refine ab.intro (λb=>?_) (λb=>?_)
 ·have:l= []:=by
   have g:((s.len:Nat):Int)=0:=by simpa using b
   exact CN (by have:=v.len;omega)
  subst this;exact e a Mod.refl
 ·have n:l≠ []:=by rintro rfl;have g:s.len=0:=v.len;rw[g] at b;simp at b
  refine pN m λp o=>⟨p,rfl,ai.mk λA _ q r B=>?_⟩
  refine ae.mk q (by simp) λt u w C=>?_
  have h:Ext a t:=r.then (w.ak λc _ D=> .inr (by omega));exact AMF (p:=p) (by simpa using u) o (v.ext h) n j k λy z=>⟨_,rfl,e y (h.trans z)⟩
theorem uf {e:ao}{c:aa}{a:Int}{d:A2X}(t:cW c)(i:a<=9223372036854775807)(f: ∀b,Ext c b->d (J7 ((⟨#[115,104,97,114,100,32]⟩:A2Y)++⟨(Lib.itoa (if(0:Int)>a then 0 else a)).toArray⟩)) b):
  AA e P Li #[J6 J9 a] c d:=by
 refine AIr ?_;unfold wy;refine Wy t (by split<;>omega) (by split<;>omega) λb x=>⟨_,rfl,?_,f b x⟩
 have:=Lib.itoa_length_le (if(0:Int)>a then 0 else a) (by split<;>omega) (by split<;>omega);have g:ByteArray.size ⟨#[115,104,97,114,100,32]⟩=6:=rfl;have h:ByteArray.size ⟨(Lib.itoa (if(0:Int)>a then 0 else a)).toArray⟩=(Lib.itoa (if(0:Int)>a then 0 else a)).length:=by show Array.size _=_;simp
 rw[g,h,max_i64];omega
def km:A2Y:=⟨#[104,111,115,116]⟩
def cH(i:Nat):A2Y:=km++Ae (Lib.decDigits i)
theorem AUH {i b:Nat}(f:cH i=cH b):i=b:=by
 have c:=congrArg bl f;have d: ∀a,bl (cH a)= [104,111,115,116]++Lib.decDigits a:=λa=>by
  show(km++Ae (Lib.decDigits a)).data.toList=_;rw[HK,LO];show [104,111,115,116]++(Ae (Lib.decDigits a)).data.toList=_;rw[show(Ae (Lib.decDigits a)).data.toList=Lib.decDigits a from CE _]
 rw[d,d] at c;have g:Lib.decDigits i=Lib.decDigits b:=HL c;have e:=(XJ i).2;rw[g,(XJ b).2] at e;exact e.symm
theorem ug(i:Nat)(a:i<=1000):(cH i).size<=24:=by
 have b:(Lib.decDigits i).length<=20:=by rw[Lib.decDigits_length];exact Lib.nDigits_le20 i (by omega)
 unfold cH;rw[Fm,AP];show 4+_<=_;omega
def pO(a:Nat):A2Y:=(⟨#[115,104,97,114,100,32]⟩:A2Y)++⟨(Lib.itoa (a:Int)).toArray⟩
def RV(up:List Bool):List Nat:=(up.zipIdx.filter (·.1)).map (·.2)
theorem AQ3(up:List Bool)(b:Bool):RV (up++ [b])=RV up++if b then [up.length] else []:=by unfold RV;rw[List.zipIdx_append];cases b<;>simp
theorem mX {up:List Bool}{i:Nat}:i∈RV up↔up[i]? =some true:=by unfold RV;simp[List.mk_mem_zipIdx_iff_getElem?]
def dY(up:List Bool)(a:Nat):A2Y:=mg (pO a) ((RV up).map cH)
def ga(up:List Bool)(a:Nat):Option Nat:=(RV up).find? λi=>decide (cH i=dY up a)
theorem pP {up:List Bool}{b i:Nat}(a:ga up b=some i):up[i]? =some true/\cH i=dY up b:=
 by
 have a:(RV up).find? (λi=>decide (cH i=dY up b))=some i:=a;have c:=LR a;exact⟨mX.1 (Is a),by simpa using c⟩
theorem uh {up:List Bool}{a:Nat}(b:ga up a=none):RV up= []:=by
 refine Decidable.byContradiction λc=>?_
 obtain⟨d,-⟩:=AJ4 (key:=pO a) (l:=(RV up).map cH) (by simpa using c);obtain⟨i,hi,e⟩:=List.mem_map.1 d;have:=List.find?_eq_none.1 b i hi;exact this (decide_eq_true e)
theorem ARF {up:List Bool}{a:Nat}(b:RV up= []):ga up a=none:=by unfold ga;rw[b];rfl
theorem ATU {up:List Bool}{a i:Nat}(d:ga up a=some i):dY up a≠(⟨#[]⟩:A2Y):=λe=>by
 have b:=(pP d).2;rw[e] at b;have c:=congrArg ByteArray.size b;unfold cH at c;rw[Fm] at c;have f:km.size=4:=rfl;have g:(⟨#[]⟩:A2Y).size=0:=rfl;omega
end Go.Lf.G
namespace Go.Lf
open G
open Go
abbrev aW.V(s:aW)(a b c:Sl):bz:=⟨a,s.prog.au,s.status,s.next,s.aO,s.asked,s.taken,s.fresh,b,c,s.cancel,s.aL⟩
end Go.Lf
namespace Go.Lf.G
open Go
structure JQ (h:aa) (s:aW) (a b c:Sl):Prop where
 steps:View TF h a s.prog.steps
 aw:View eT h b s.aw
 aq:View fU h c s.aq
theorem JQ.mod {g:Nat->Prop}{h j:aa}{s:aW}{a b c:Sl}(i:JQ h s a b c)(m:Mod g h j)(k: ∀x,a.ag=some x-> ¬g x)(l: ∀x,b.ag=some x-> ¬g x)(n: ∀x,c.ag=some x-> ¬g x):JQ j s a b c:=
 ⟨i.steps.mod m λx d f=>k x d f,i.aw.mod m λx d f=>l x d f,i.aq.mod m λx d f=>n x d f⟩
theorem JQ.ext {h f:aa}{s:aW}{a b c:Sl}(d:JQ h s a b c)(x:Ext h f):JQ f s a b c:=⟨d.steps.ext x,d.aw.ext x,d.aq.ext x⟩
structure D3 (h hh:aa) (T0 T1 T2:Q7) (x:bz) (e:Ev) (y:bz):Prop where
 ext:Ext h hh
 b0:hh[h.size]? =some (J2 x.c T0 (0,0))
 b1:hh[h.size+1]? =some (J2 e.c T1 (0,0))
 b2:hh[h.size+2]? =some (J2 y.c T2 (0,0))
section
variable {A : ao} {h hh : aa} {T0 T1 T2 : Q7} {x y : bz} {e : Ev} {R : A2X}
theorem lB {K:Nat->Nat->Nat->aa->Prop}(m: ∀hh,D3 h hh T0 T1 T2 x e y->K h.size (h.size+1) (h.size+2) hh):
  ai h (J2 x.c T0) λb f=>ai f (J2 e.c T1) λn g=>ai g (J2 y.c T2) λo a=>K b n o a:=by
 refine ai.mk λf _ p q c=>ai.mk λg _ i j k=>ai.mk λa _ l d r=>?_
 rw[c] at i;rw[k,c] at l;have:=m a ⟨(q.trans j).trans d,d.ag (j.ag p (λh=>h)) (λh=>h),d.ag i (λh=>h),l⟩;rw[k,c];exact this
theorem D3.on {b:aa}(a:D3 h hh T0 T1 T2 x e y)(m:Ext hh b):D3 h b T0 T1 T2 x e y:=⟨a.ext.trans m,m.ag a.b0 (λh=>h),m.ag a.b1 (λh=>h),m.ag a.b2 (λh=>h)⟩
theorem D3.set {c:Nat}{v:J0}{x':bz}{K:aa->Prop}(a:D3 h hh T0 T1 T2 x e y)(d:c<12)(f:x.c.setIfInBounds c v=x'.c)(g: ∀h',D3 h h' T0 T1 T2 x' e y->K h'):ae hh ((⟨h.size,0,none⟩:Q6).add c) v K:=
 ae.bE a.b0 d f λh' i m s=>g h' ⟨a.ext.more m λb j=>by subst j;exact A0 _,i,m.ag a.b1 (by omega),m.ag a.b2 (by omega)⟩
theorem D3.hZ {j:Nat}{v:J0}{x':bz}{K:aa->Prop}(d:D3 h hh T0 T1 T2 x e y)(f:j<12)(g:x.c.setIfInBounds j v=x'.c)(i: ∀a,D3 h a T0 T1 T2 x' e y->Mod (λc=>c=h.size) hh a->K a):ae hh ((⟨h.size,0,none⟩:Q6).add j) v K:=
 ae.bE d.b0 f g λa k m s=>i a ⟨d.ext.more m λb l=>by subst l;exact A0 _,k,m.ag d.b1 (by omega),m.ag d.b2 (by omega)⟩ m
theorem D3.pn {v:J0}{x':bz}{K:aa->Prop}(b:D3 h hh T0 T1 T2 x e y)(d:x.c.setIfInBounds 0 v=x'.c)(f: ∀a,D3 h a T0 T1 T2 x' e y->Mod (λc=>c=h.size) hh a->K a):ae hh (⟨h.size,0,none⟩:Q6) v K:=
 b.hZ (j:=0) (by decide) d f
theorem D3.cE {j:Nat}{v:J0}(a:D3 h hh T0 T1 T2 x e y)(b:x.c[j]? =some v):af hh ((⟨h.size,0,none⟩:Q6).add j)=some v:=AB a.b0 b
theorem D3.bE {j:Nat}{v:J0}(a:D3 h hh T0 T1 T2 x e y)(b:e.c[j]? =some v):af hh ((⟨h.size+1,0,none⟩:Q6).add j)=some v:=AB a.b1 b
theorem FP {h:aa}{b:Nat}{T:Q7}{fr:Nat×Nat}{x:bz}(a:h[b]? =some (J2 x.c T fr)):Cells h ⟨b,0,none⟩ x.l:=Bz a rfl
theorem R7 {h:aa}{b:Nat}{T:Q7}{fr:Nat×Nat}{x:Ev}(a:h[b]? =some (J2 x.c T fr)):Cells h ⟨b,0,none⟩ x.l:=Bz a rfl
theorem OY(x y:bz):gf y.c 0 x.l=x.c:=rfl
theorem ni(x y:Ev):gf y.c 0 x.l=x.c:=rfl
theorem qj(x y:bI):gf y.c 0 x.l=x.c:=rfl
theorem D3.ji(a:D3 h hh T0 T1 T2 x e y):af hh (⟨h.size,0,none⟩:Q6)=some (J4 x.steps.p x.steps.len x.steps.cap)/\af hh ((⟨h.size,0,none⟩:Q6).add 1)=some (J6 J9 x.au)/\af hh ((⟨h.size,0,none⟩:Q6).add 2)=some (J6 J9 x.status)/\af hh ((⟨h.size,0,none⟩:Q6).add 3)=some (J6 J9 x.next)/\af hh ((⟨h.size,0,none⟩:Q6).add 4)=some (J6 J9 x.aO)/\af hh ((⟨h.size,0,none⟩:Q6).add 5)=some (J6 J9 x.asked)/\af hh ((⟨h.size,0,none⟩:Q6).add 6)=some (J6 J9 x.taken)/\af hh ((⟨h.size,0,none⟩:Q6).add 7)=some (J3 x.fresh)/\af hh ((⟨h.size,0,none⟩:Q6).add 8)=some (J4 x.aw.p x.aw.len x.aw.cap)/\af hh ((⟨h.size,0,none⟩:Q6).add 9)=some (J4 x.aq.p x.aq.len x.aq.cap)/\af hh ((⟨h.size,0,none⟩:Q6).add 10)=some (J3 x.cancel)/\af hh ((⟨h.size,0,none⟩:Q6).add 11)=some (J3 x.aL):=
 ⟨a.cE (j:=0) rfl,a.cE (j:=1) rfl,a.cE (j:=2) rfl,a.cE (j:=3) rfl,a.cE (j:=4) rfl,a.cE (j:=5) rfl,a.cE (j:=6) rfl,a.cE (j:=7) rfl,a.cE (j:=8) rfl,a.cE (j:=9) rfl,a.cE (j:=10) rfl,a.cE (j:=11) rfl⟩
theorem D3.eI {K:bz->Prop}(a:D3 h hh T0 T1 T2 x e y)(b:K x):A9 hh ⟨h.size,0,none⟩ K:=A9.mk x (FP a.b0) b
theorem D3.jZ {K:Ev->Prop}(a:D3 h hh T0 T1 T2 x e y)(b:K e):Nh hh ⟨h.size+1,0,none⟩ K:=Nh.mk e (R7 a.b1) b
theorem D3.mI {z:bz}{K:aa->Prop}(d:D3 h hh T0 T1 T2 x e y)(g: ∀a,D3 h a T0 T1 T2 z e y->Mod (λc=>c=h.size) hh a->K a):aD hh ⟨h.size,0,none⟩ z.l K:=
 aD.mk d.b0 (A0 12) λa f m s=>g a ⟨d.ext.more m λb i=>by subst i;exact A0 _,(by rw[OY] at f;exact f),m.ag d.b1 (by omega),m.ag d.b2 (by omega)⟩ m
theorem D3.tell {z:bz}{K:bz->aa->Prop}(c:D3 h hh T0 T1 T2 x e y)(g: ∀a,Ext h a->K z a):aD hh ⟨h.size+2,0,none⟩ z.l λd=>A9 d ⟨h.size+2,0,none⟩ λi=>K i d:=
 aD.mk c.b2 (A0 12) λa f m s=>A9.mk z (FP (by rw[OY] at f;exact f)) (g a (c.ext.more m λb j=>by subst j;omega))
theorem D3.iI {z:bz}{K:bz->aa->Prop}(d:D3 h hh T0 T1 T2 x e y)(i: ∀a,Ext h a->Mod (λc=>c=h.size+2) hh a->K z a):aD hh ⟨h.size+2,0,none⟩ z.l λf=>A9 f ⟨h.size+2,0,none⟩ λj=>K j f:=
 aD.mk d.b2 (A0 12) λa g m s=>A9.mk z (FP (by rw[OY] at g;exact g)) (i a (d.ext.more m λb k=>by subst k;omega) m)
theorem D3.ret {K:bz->aa->Prop}(a:D3 h hh T0 T1 T2 x e y)(d: ∀b,Ext h b->K x b):A9 hh ⟨h.size,0,none⟩ λt=>aD hh ⟨h.size+2,0,none⟩ t.l λc=>A9 c ⟨h.size+2,0,none⟩ λf=>K f c:=
 a.eI (a.tell d)
theorem D3.pq {K:bz->aa->Prop}(b:D3 h hh T0 T1 T2 x e y)(f: ∀a,Ext h a->Mod (λc=>c=h.size+2) hh a->K x a):A9 hh ⟨h.size,0,none⟩ λt=>aD hh ⟨h.size+2,0,none⟩ t.l λd=>A9 d ⟨h.size+2,0,none⟩ λg=>K g d:=
 b.eI (b.iI f)
theorem AKw {s:aW}{a b c:Sl}(T:2<=e.kind/\e.kind<=5)(C: ∀n,Ext h n->R (J1 #[(((EC s e).getD s).V a b c).v,J3 (EC s e).isSome]) n):AA A P NP #[(s.V a b c).v,e.v] h R:=by
 refine Zd ?_;unfold R3;refine lB λH d=>?_
 refine ah.mk λK I=>ah.mk λJ L=>?_
 have v: ∀ {t:aW} {hh:aa},D3 h hh Au A8 Au (t.V a b c) e bz.z->EC s e=some t->K () hh:=λ{t hh} d hd=>by
  refine I _ _ (d.ret λn x=>?_);have:=C n x;rw[hd] at this;exact this
 have no: ∀ {hh:aa},D3 h hh Au A8 Au (s.V a b c) e bz.z->EC s e=none->A9 hh ⟨h.size,0,none⟩ λt=>aD hh ⟨h.size+2,0,none⟩ t.l λD=>A9 D ⟨h.size+2,0,none⟩ λM=>R (J1 #[M.v,J3 false]) D:=λ{hh} d hd=>by
  refine d.ret λn x=>?_
  have:=C n x;rw[hd] at this;exact this
 have key: ∀(o:Bool),(e.kind=2->(o=true↔s.asked=0/\s.taken=0/\s.fresh=true))->(e.kind≠2->o=false)->J (o,()) H:=λo E N=>by
  refine L _ _ (ab.intro (λk=>?_) (λk=>?_))
  ·have k:o=true:=k;have g:e.kind=2:=Decidable.byContradiction λh=>by rw[N h] at k;cases k
   refine AC.mk (d.bE (j:=0) rfl) (d.set (x':=({s with asked:=e.id}:aW).V a b c) (by decide) rfl λz m=>v m ?_);unfold EC;rw[if_pos g,if_pos ((E g).1 k)]
  ·have k:o=false:=k;refine ah.mk λU F=>AC.mk (d.bE (j:=1) rfl) (ab.intro (λi=>?_) (λi=>?_))
   ·have i:e.kind=3:=by simpa using i
    refine AC.mk (d.cE (j:=5) rfl) (AC.mk (d.bE (j:=3) rfl) (F _ _ (ab.intro (λf=>?_) (λf=>?_))))
    ·have f:s.asked=e.ref:=by simpa using f
     refine AC.mk (d.bE (j:=0) rfl) (d.set (x':=({s with asked:=0}:aW).V a b c) (by decide) rfl λz m=>⟨m.bE (j:=0) rfl,?_⟩);refine m.set (x':=({s with asked:=0,taken:=e.id}:aW).V a b c) (by decide) rfl λO B=>B.set (x':=({s with asked:=0,taken:=e.id,fresh:=false}:aW).V a b c) (by decide) rfl λV Q=>v Q ?_
     unfold EC;rw[if_neg (by omega),if_pos i,if_pos f]
    ·have f:s.asked≠e.ref:=by simpa using f
     refine ah.mk λS w=>AC.mk (d.bE (j:=1) rfl) (ab.no (by simp[i]) (w _ _ (ab.no rfl ?_)))
     refine ah.mk λG p=>AC.mk (d.bE (j:=1) rfl) (ab.no (by simp[i]) (p _ _ (ab.no rfl (no d ?_))))
     unfold EC;rw[if_neg (by omega),if_pos i,if_neg f]
   ·have i:e.kind≠3:=by simpa using i
    refine F _ _ (ab.no rfl (ah.mk λS w=>AC.mk (d.bE (j:=1) rfl) (ab.intro (λl=>?_) (λl=>?_))))
    ·have l:e.kind=4:=by simpa using l
     refine AC.mk (d.cE (j:=6) rfl) (AC.mk (d.bE (j:=3) rfl) (w _ _ (ab.intro (λf=>?_) (λf=>?_))))
     ·have f:s.taken=e.ref:=by simpa using f
      refine d.set (x':=({s with taken:=0}:aW).V a b c) (by decide) rfl λz m=>v m ?_
      unfold EC;rw[if_neg (by omega),if_neg i,if_pos l,if_pos f]
     ·have f:s.taken≠e.ref:=by simpa using f
      refine ah.mk λG p=>AC.mk (d.bE (j:=1) rfl) (ab.no (by simp[l]) (p _ _ (ab.no rfl (no d ?_))))
      unfold EC;rw[if_neg (by omega),if_neg i,if_pos l,if_neg f]
    ·have l:e.kind≠4:=by simpa using l
     refine w _ _ (ab.no rfl (ah.mk λG p=>AC.mk (d.bE (j:=1) rfl) (ab.intro (λu=>?_) (λu=>?_))))
     ·have u:e.kind=5:=by simpa using u
      refine AC.mk (d.cE (j:=6) rfl) (AC.mk (d.bE (j:=3) rfl) (p _ _ (ab.intro (λf=>?_) (λf=>?_))))
      ·have f:s.taken=e.ref:=by simpa using f
       refine d.set (x':=({s with taken:=0}:aW).V a b c) (by decide) rfl λz m=>m.set (x':=({s with taken:=0,fresh:=true}:aW).V a b c) (by decide) rfl λO B=>v B ?_
       unfold EC;rw[if_neg (by omega),if_neg i,if_neg l,if_pos f]
      ·have f:s.taken≠e.ref:=by simpa using f
       refine no d ?_;unfold EC;rw[if_neg (by omega),if_neg i,if_neg l,if_neg f]
     ·have u:e.kind≠5:=by simpa using u
      have g:e.kind=2:=by omega
      refine p _ _ (ab.no rfl (no d ?_));unfold EC;rw[if_pos g,if_neg λh=>by rw[(E g).2 h] at k;cases k]
 refine AC.mk (d.bE (j:=1) rfl) (ab.intro (λg=>?_) (λg=>key _ (λh=>by simp[h] at g) λ_=>rfl));have g:e.kind=2:=by simpa using g
 refine AC.mk (d.cE (j:=5) rfl) (ab.intro (λq=>?_) (λq=>key _ (λ_=>by simp at q;simp[q]) λh=>absurd g h));have q:s.asked=0:=by simpa using q
 refine AC.mk (d.cE (j:=6) rfl) (ab.intro (λr=>?_) (λr=>key _ (λ_=>by simp at r;simp[r]) λh=>absurd g h));have r:s.taken=0:=by simpa using r
 exact Aa.mk (d.cE (j:=7) rfl) (key _ (λ_=>by simp[q,r]) λh=>absurd g h)
theorem ZJ {s:aW}{a b c:Sl}{d:Int}(k: ∀g,Ext h g->R ((hF s d).V a ⟨none,0,0⟩ ⟨none,0,0⟩).v g):AA A P I1 #[(s.V a b c).v,J6 J9 d] h R:=by
 refine AFL ?_;unfold YI;refine ai.mk λJ _ l n K=>ai.mk λL _ o i M=>?_
 have p:=i.ag l (λh=>h);refine ae.bE (dm:=(({s with status:=d}:aW).V a b c).c) p (of_decide_eq_true rfl) rfl λN q r _=>?_
 refine ae.bE (dm:=(({s with status:=d,asked:=0}:aW).V a b c).c) q (of_decide_eq_true rfl) rfl λO t u _=>?_
 refine ae.bE (dm:=(({s with status:=d,asked:=0,taken:=0}:aW).V a b c).c) t (of_decide_eq_true rfl) rfl λQ v w _=>?_
 refine ae.bE (dm:=(({s with status:=d,asked:=0,taken:=0,fresh:=false}:aW).V a b c).c) v (of_decide_eq_true rfl) rfl λS z B _=>?_
 refine ae.bE (dm:=(({s with status:=d,asked:=0,taken:=0,fresh:=false}:aW).V a ⟨none,0,0⟩ c).c) z (of_decide_eq_true rfl) rfl λT C D _=>?_
 refine ae.bE (dm:=(({s with status:=d,asked:=0,taken:=0,fresh:=false}:aW).V a ⟨none,0,0⟩ ⟨none,0,0⟩).c) C (of_decide_eq_true rfl) rfl λU E F _=>?_
 have m:=((((r.trans u).trans w).trans B).trans D).trans F;have G:=m.ag o (by omega);refine A9.mk (({s with status:=d,asked:=0,taken:=0,fresh:=false}:aW).V a ⟨none,0,0⟩ ⟨none,0,0⟩) (FP E) ?_;refine aD.mk G (A0 12) λH j I V=>A9.mk _ (FP (by rw[OY] at j;exact j)) (k H ?_)
 exact((n.trans i).more m λc f=>by subst f;exact A0 _).more I λc f=>by subst f;omega
theorem qk {s:aW}{a b c:Sl}(k:b.len=s.aw.length)(l: ∀j,Ext h j->R (J3 (decide (QP s))) j):AA A P MO #[(s.V a b c).v] h R:=by
 refine AGH ?_;unfold w7;refine ai.mk λm _ i n o=>?_
 have g:=l m n;refine AC.mk (AB i rfl) (ab.intro (λd=>?_) (λd=>?_))
 ·have d:s.asked=0:=by simpa using d
  refine AC.mk (AB i rfl) (ab.intro (λf=>?_) (λf=>?_))
  ·have f:s.taken=0:=by simpa using f
   refine AV.mk (s:=b) (AB i rfl) ?_;have e:decide (QP s)=(((b.len:Nat):Int)==(0:Int)):=by rw[k,DH];simp[QP,d,f,Ts]
   rw[e] at g;exact g
  ·have f:s.taken≠0:=by simpa using f
   rw[show decide (QP s)=false from by simp[QP,f]] at g;exact g
 ·have d:s.asked≠0:=by simpa using d
  rw[show decide (QP s)=false from by simp[QP,d]] at g;exact g
end
end Go.Lf.G
namespace Go.Lf
open Go
structure DI (s:aW) (n:Nat):Prop where
 aw:s.aw.length<=n
 aq:s.aq.length<=n
 steps:s.prog.steps.length<=16
 au:0<=s.prog.au/\s.prog.au<=16000
 aO:0<=s.aO/\s.aO<=1099511627776
 next:0<=s.next/\s.next<=501
 st:0<=s.status/\s.status<=4
 waits: ∀x∈s.prog.steps,0<=x.wait/\x.wait<=1000
theorem DI.zero:DI TM 0:=⟨by decide,by decide,by decide,by decide,by decide,by decide,by decide,λx a=>by cases a⟩
theorem ATR {x:bI}(a:OA x=true):0<=x.wait/\x.wait<=1000:=by
 unfold OA at a
 repeat' split at a
 all_goals first|(simp only[A3,CI,decide_eq_true_eq,Ba] at a;omega)|cases a
theorem TW {a:Ev}(d:Er a=true):(1<=a.kind/\a.kind<=18)/\(1<=a.id/\a.id<=500)/\(0<=a.tick/\a.tick<=1099511627776)/\(a.kind=1-> ∃p,Ji (bl a.data)=some p/\GJ p=true)/\(a.kind=12->Am a.data=true):=by
 unfold Er at d;rw[A3] at d;obtain⟨c,b⟩:=d;simp only[Eu,A3] at c;refine⟨Ba.1 c.1.1.1.1.1.1.1,Ba.1 c.1.1.1.1.1.1.2,Ba.1 c.1.1.1.1.1.2,λe=>?_,λe=>?_⟩
 ·unfold Kr at b;rw[if_pos e] at b;obtain⟨p,f⟩:=Option.isSome_iff_exists.1 b;exact⟨p,f,(yK f).1⟩
 ·unfold Kr at b;rw[if_neg (by omega),if_pos e] at b;exact b
theorem zS {p:bL}(a:GJ p=true):p.steps.length<=16/\(0<=p.au/\p.au<=16000)/\ ∀x∈p.steps,OA x=true:=by simp only[GJ,A3,decide_eq_true_eq,Fk] at a;exact⟨a.1.1,Ba.1 a.1.2,a.2⟩
structure lY (s t:aW):Prop where
 prog:t.prog=s.prog
 next:t.next=s.next
 aO:t.aO=s.aO
theorem Rk {s t:aW}{b:Ev}(a:EC s b=some t):lY s t/\t.aw=s.aw/\t.aq=s.aq/\t.status=s.status:=by
 unfold EC at a
 repeat' split at a
 all_goals first|(cases a;exact⟨⟨rfl,rfl,rfl⟩,rfl,rfl,rfl⟩)|cases a
theorem zT {s t:aW}{b:Ev}(a:LM s b=some t):lY s t/\(t.aw=s.aw\/t.aw= [])/\(t.aq=s.aq\/t.aq= [])/\(t.status=s.status\/(1<=t.status/\t.status<=4)):=by
 unfold LM at a
 repeat' split at a
 all_goals first|(cases a;first|exact⟨⟨rfl,rfl,rfl⟩,.inl rfl,.inl rfl,.inl rfl⟩|exact⟨⟨rfl,rfl,rfl⟩,.inr rfl,.inr rfl,.inr (by simp only[hF];omega)⟩)|cases a
theorem zU {s t:aW}{b:Ev}(a:Mj s b=some t):lY s t/\t.aw.length<=s.aw.length+1/\t.aq=s.aq/\t.status=s.status:=by
 unfold Mj at a;split at a
 ·obtain⟨x,c,a⟩:=Option.bind_eq_some_iff.1 a;split at a
  ·cases a
  ·cases a;exact⟨⟨rfl,rfl,rfl⟩,by simp,rfl,rfl⟩
 ·obtain⟨i,hi,a⟩:=Option.bind_eq_some_iff.1 a;obtain⟨d,e,a⟩:=Option.bind_eq_some_iff.1 a
  repeat' split at a
  all_goals first|(cases a;exact⟨⟨rfl,rfl,rfl⟩,by first|(simp only[Kx];omega)|(have:=A0s s.aw i;simp only;omega),rfl,rfl⟩)|cases a
theorem zV {s t:aW}{b:Ev}(a:Kq s b=some t):lY s t/\t.aw=s.aw/\t.aq.length<=s.aq.length+1/\t.status=s.status:=by
 unfold Kq at a;split at a
 ·obtain⟨x,c,rfl⟩:=Option.map_eq_some_iff.1 a;exact⟨⟨rfl,rfl,rfl⟩,rfl,by simp,rfl⟩
 ·obtain⟨i,hi,rfl⟩:=Option.map_eq_some_iff.1 a;exact⟨⟨rfl,rfl,rfl⟩,rfl,by have:=A0s s.aq i;simp only;omega,rfl⟩
theorem AMk {s t:aW}{g:Ev}(a:Qx s g=some t): ∃u:aW,t= {u with next:=s.next+1}/\lY s u/\u.aw.length<=s.aw.length+1/\u.aq.length<=s.aq.length+1/\(u.status=s.status\/(1<=u.status/\u.status<=4)):=by
 unfold Qx at a;obtain⟨u,b,rfl⟩:=Option.map_eq_some_iff.1 a;refine⟨u,rfl,?_⟩;split at b
 ·obtain⟨c,d,e,f⟩:=Rk b;exact⟨c,by rw[d];omega,by rw[e];omega,.inl f⟩
 ·split at b
  ·obtain⟨c,d,e,f⟩:=zU b;exact⟨c,d,by rw[e];omega,.inl f⟩
  ·split at b
   ·obtain⟨c,d,e,f⟩:=zV b;exact⟨c,by rw[d];omega,e,.inl f⟩
   ·obtain⟨c,d,e,f⟩:=zT b;exact⟨c,by rcases d with a|a<;>rw[a]<;>simp,by rcases e with a|a<;>rw[a]<;>simp,f⟩
theorem VU {s:aW}{c:Ev}{g:Nat}(b:DI s g)(a:(Bh s c).1=0):DI (Bh s c).2 (g+1):=by
 have ok:=SG a;obtain⟨w,hi,j,k,_⟩:=TW ok;unfold Bh at a ⊢;rw[if_neg (by simp[ok])] at a ⊢;split at a
 ·rename_i f;rw[if_pos f];split at a
  ·rename_i d;rw[if_pos d];obtain⟨p,l,m⟩:=k d.1;obtain⟨n,o,q⟩:=zS m;show DI (Yt c) _;unfold Yt;rw[l,HM];exact⟨A5 _,A5 _,n,o,j,by show(0:Int)<=2/\(2:Int)<=501;omega,by show(0:Int)<=0/\(0:Int)<=4;omega,λx r=>ATR (q x r)⟩
  ·cases a
 ·rename_i f;rw[if_neg f];split at a
  ·cases a
  ·rename_i d;rw[if_neg d];split at a
   ·cases a
   ·rename_i h;rw[if_neg h];have y:c.id=s.next:=by simpa using h
    cases i:Qx s c with
    |none=>rw[i] at a;cases a
    |some t=>
     obtain⟨u,rfl,e,z,A,v⟩:=AMk i;have B:=b.aw;have C:=b.aq;exact⟨by show u.aw.length<=_;omega,by show u.aq.length<=_;omega,by show u.prog.steps.length<=_;rw[e.prog];exact b.steps,by show 0<=u.prog.au/\_;rw[e.prog];exact b.au,by show 0<=u.aO/\_;rw[e.aO];exact b.aO,by show 0<=s.next+1/\s.next+1<=501;omega,by
      have:=b.st;show 0<=u.status/\u.status<=4;rcases v with a|a<;>omega,by show ∀x∈u.prog.steps,_;rw[e.prog];exact b.waits⟩
theorem Qz: ∀ {l:List Ev} {s t:aW} {a:Nat},DI s a->Ew s l=some t->DI t (a+l.length)
 | [],s,t,a,c,b=>by cases b;exact c
 |e::l,s,t,a,c,b=>by
  rw[Ew] at b;split at b
  ·rename_i d;have:=Qz (VU c d) b;rw[An];rw[show a+(l.length+1)=a+1+l.length from by omega];exact this
  ·cases b
end Go.Lf
namespace Go.Lf
open Go
variable {α : Type} {E : cr α} {A : ao} {P : Q1}
theorem Mod.mod {d:Nat->Prop}{b c:aa}(a:Mod (λ_=>False) b c):Mod d b c:=a.ak λ_ _ b=>b.elim
def zW(A:ao)(P:Q1)(t f:Q7)(c:Nat)(s:Sl)(i:Int)(b:Int)(d:aa)(e:A2X):Prop:=
 aE ((0:Int)<=((s.len:Nat):Int)/\((s.len:Nat):Int)<=((s.cap:Nat):Int))<|
 aE ((0:Int)<=b/\b<=(((((s.len:Nat):Int).toNat):Nat):Int))<|
 aE ((0:Int)<=i/\i<=((b.toNat:Nat):Int))<|
 ab (i==b) (
  e (.slice s.p s.len s.cap) d) (
  aE ((0:Int)<=i/\i<=((s.cap:Nat):Int))<|
  aE ((0:Int)<=b/\b<=((s.len:Nat):Int))<|
  Ad A P (Builtin.append_ #[t,t] t #[.slice (BC s.p s.cap 0 c) (i.toNat-0) (s.cap-0),.slice (BC s.p s.cap b.toNat c) (s.len-b.toNat) (s.cap-b.toNat)]) d λv g=> ∃a:Sl,v= .slice a.p a.len a.cap/\(
  aE ((0:Int)<=((s.len:Nat):Int)/\((s.len:Nat):Int)<=((a.cap:Nat):Int))<|
  aE ((0:Int)<=((a.len:Nat):Int)/\((a.len:Nat):Int)<=((((s.len:Nat):Int).toNat:Nat):Int))<|
  Ad A P (Builtin.clear_ #[t] f #[.slice (BC a.p a.cap (((a.len:Nat):Int).toNat) c) ((((s.len:Nat):Int).toNat)-(((a.len:Nat):Int).toNat)) (a.cap-(((a.len:Nat):Int).toNat))]) g λv1 h=>v1= .tuple #[]/\(
  e (.slice a.p a.len a.cap) h)))
theorem AWL {t m T:Q7}{a:J0}(o:P.underlying t=some (.slice T))(p:(zeroValue T).calc P=some a)(f: ∀v∈a.cells.toList,MH v=true){d:aa}{b e q:Nat}{g:Array J0}{K:A2X}
  (h:d[b]? =some (.cells g T (0,0))) (B:e+a.cells.size<=g.size)
  (r: ∀c,c[b]? =some (.cells (fT g e a.cells.toList) T (0,0))->Mod (· =b) d c->c.size=d.size->K (.tuple #[]) c):
  Ad A P (Builtin.clear_ #[t] m #[.slice (some ⟨b,e,none⟩) 1 q]) d K:=by
 intro n;have s:(Builtin.zeroCells a.cells 1).toList=a.cells.toList:=by
  unfold Builtin.zeroCells;rw[Jx];apply List.ext_getElem
  ·simp
  ·intro i f C;simp at f;simp[As f,f]
 have j:=run_storeCells_cells (P:=P) b e a.cells.toList 0 (A.at d n)
  (λk l=>by
   show(af d ⟨b,e+0+k,none⟩).isSome=true;rw[Gs h,DP (by simp at l;omega)];rfl)
  (λk l=>NR h) (λv u=>Nk (f v u))
 obtain⟨c,w,x,y,z⟩:=ct (A:=A) a.cells.toList e (n:=n) h;rw[DB,w] at j;refine⟨.tuple #[],c,n,?_,r c x y z⟩;simp[Builtin.clear_,BO o,DZ p,s,j,Result.andThen]
theorem AP7 {l:List α}{a:Nat}:(l.flatMap E.enc).take (a*E.w)=(l.take a).flatMap E.enc:=by
 induction l generalizing a with
 |nil=>simp
 |cons x l b=>
  cases a with
  |zero=>simp
  |succ a=>
   rw[AM,I0,AM,Lk,E.len,AD (by rw[E.len,Bm];omega),Bm,Jx,N2,b]
theorem AQG {l:List α}{a:Nat}:(l.flatMap E.enc).drop (a*E.w)=(l.drop a).flatMap E.enc:=by
 induction l generalizing a with
 |nil=>simp
 |cons x l b=>
  cases a with
  |zero=>simp
  |succ a=>
   rw[AM,HW,Rr,E.len,HD (by rw[E.len,Bm];omega),Bm,Jx,N2,b,CT]
theorem zX {t O T:Q7}{zv:J0}{Q:Nat}(R:Rj P t T E.w Q=true)(S:(zeroValue T).calc P=some zv)(U: ∀v∈zv.cells.toList,MH v=true)(D:zv.cells.size=E.w){c:aa}{s:Sl}{l:List α}{i:Nat}{F:A2X}
  (G:Own E T c s l) (hi:i<l.length)
  (V: ∀r,Own E T r ⟨s.p,l.length-1,s.cap⟩ (l.eraseIdx i)->Mod (λb=>s.ag=some b) c r->F (.slice s.p (l.length-1) s.cap) r):zW A P t O E.w s (i:Int) ((i+1:Nat):Int) c F:=by
 obtain⟨H,W,z,X,az,w,aA,aC⟩:=re R;have I:=G.len;rcases G.row with⟨rfl,rfl⟩|⟨g,n,f,y,Y,Z,j,J⟩
 ·simp at hi
 have ac:s.len*E.w<=s.cap*E.w:=AW _ Y;unfold zW;refine⟨⟨by omega,by omega⟩,⟨by omega,by omega⟩,⟨by omega,by omega⟩,ab.no (by simp;omega) ⟨⟨by omega,by omega⟩,⟨by omega,by omega⟩,?_⟩⟩;rw[A6,A6,A6,Gk,Gk];have ae:BC s.p s.cap 0 E.w=some ⟨g,0,none⟩:=by unfold BC;rw[if_neg (by omega),f];simp[Bp]
 rw[ae]
 let m:=s.len-(i+1)
 let e:List J0:=(l.drop (i+1)).flatMap E.enc
 have nl:e.length=m*E.w:=by simp only[e,m];rw[KS,FF,I]
 obtain⟨a,ag,ah⟩: ∃a,BC s.p s.cap (i+1) E.w=some a/\ ∀h u,e[h]? =some u->(A.at c 0).cell? (a.add h)=some u:=by
  unfold BC;by_cases K:s.cap=i+1
  ·rw[if_pos K,f];refine⟨_,rfl,λh u d=>?_⟩;have:m=0:=by simp only[m];omega
   have d:=(List.getElem?_eq_some_iff.1 d).1;rw[nl,this] at d;omega
  ·rw[if_neg K,f];refine⟨_,rfl,λh u d=>?_⟩;show af c ((Addr.add ⟨g,0,none⟩ ((i+1)*E.w)).add h)=some u;rw[Bp,Bp,AF,Gs y];simp only[e] at d;rw[<- AQG,By,<-J,F1] at d;split at d
   ·simpa using d
   ·cases d
 rw[ag];intro o;have ai: ∀u∈e,u.oneCell'=true:=λu aj=>by
  obtain⟨x,_,ak⟩:=List.mem_flatMap.1 aj;exact Nk (E.one x u ak)
 have al:i*E.w+m*E.w<=s.cap*E.w:=by rw[<- Bm];exact AW _ (by simp only[m];omega)
 have L:=run_append_room (P:=P) (A.at c o) t t T W H X g i s.cap n y a m (s.cap-(i+1)) e (by rw[nl,w]) (λh u d=>ah h u d) ai (by simp only[m];omega) (by rw[w,nl,j];exact al);rw[w] at L
 let row:Array J0:=(n.toList.take (i*E.w)++e++n.toList.drop (i*E.w+e.length)).toArray
 obtain⟨k,am,an,ao,aD⟩: ∃k,(A.at c o).setRow g row=A.at k o/\k[g]? =some (.cells row T (0,0))/\Mod (· =g) c k/\k.size=c.size:=by
  refine⟨_,rfl,?_,⟨?_,λb p ap=>?_⟩,?_⟩
  ·show(c.modify g _)[g]? =_;rw[Hi,if_pos rfl,y];rfl
  ·show c.size<=(c.modify g _).size;simp
  ·show(c.modify g _)[b]? =_;rw[Hi,if_neg (Ne.symm ap)]
  ·show(c.modify g _).size=_;simp
 refine⟨_,k,o,L.trans (by rw[<- am]),⟨some ⟨g,0,none⟩,i+m,s.cap⟩,rfl,⟨by omega,by show((s.len:Nat):Int)<=((s.cap:Nat):Int);omega⟩,⟨by omega,by show((i+m:Nat):Int)<=_;simp only[m];omega⟩,?_⟩;have B:i+m=l.length-1:=by simp only[m];omega
 dsimp only[Int.toNat_natCast];rw[B];have aq:BC (some ⟨g,0,none⟩) s.cap (l.length-1) E.w=some ⟨g,(l.length-1)*E.w,none⟩:=by unfold BC;rw[if_neg (by omega)];simp[Bp]
 rw[aq,show s.len-(l.length-1)=1 from by omega];have q:row.size=n.size:=by simp only[row,List.size_toArray,A1,Ax,FF,Ds];rw[nl];omega
 have M:(l.length-1)*E.w+E.w<=s.cap*E.w:=by rw[show(l.length-1)*E.w+E.w=l.length*E.w from by rw[<- Nat.succ_mul];congr 1;omega,<-I];exact ac
 refine AWL H S U an (by rw[q,D,j];exact M) λN ar au aE=>⟨rfl,?_⟩
 rw[<- f];have av:Mod (λb=>s.ag=some b) c N:=(ao.ak λb _ p=>by subst p;simp[Sl.ag,f]).trans (au.ak λb _ p=>by subst p;simp[Sl.ag,f]);refine V N ⟨by rw[List.length_eraseIdx,if_pos hi],.inr ⟨g,_,f,ar,by show l.length-1<=s.cap;omega,Z,?_,?_⟩⟩ av
 ·show(fT _ _ _).size=s.cap*E.w;rw[Iy,q,j]
 ·show(fT row ((l.length-1)*E.w) zv.cells.toList).toList.take ((l.length-1)*E.w)=_;have aw:zv.cells.toList.length=E.w:=by rw[Ds,D]
  have C:row.size=s.cap*E.w:=by rw[q,j]
  rw[PU _ _ _ (by rw[aw,C];exact M),A4,Lk];have ax:(l.length-1)*E.w<=row.toList.length:=by
   have C:row.toList.length=s.cap*E.w:=by rw[Ds,q,j]
   rw[C];omega
  rw[Ax,DO ax,My,I3,AI,Ss,Nat.min_self];simp only[row];have ay:i*E.w<=n.toList.length:=by rw[Ds,j];omega
  rw[A4,Lk,Ax,DO ay,AD (by rw[Ax,<-B,Bm];omega)];rw[<- B,Bm,Tr,<-nl,Lk,My,I3,AI,AD (A0 _)];rw[List.eraseIdx_eq_take_drop_succ,JT,<-AP7,<-J,Ss,DO (AW _ (by omega))]
end Go.Lf
namespace Go.Lf.G
open Go
theorem oV {s:A2Y}:bB s (⟨#[]⟩:A2Y)=decide (s=IQ):=Bl
theorem AOq {s:A2Y}:s=IQ↔s.size=0:=by
 constructor
 ·rintro rfl;rfl
 ·intro a;have:bl s= []:=CN (by rw[BF];exact a);rw[<- Eh s];show Ae (bl s)=_;rw[this];rfl
theorem Fa {r:ao}{e:aa}{s:A2Y}{p:A2X}(a:p (J3 (Am s)) e):AA r P Bn #[J7 s] e p:=by
 refine AGl ?_;unfold ZF;rw[oV];refine ah.mk λK t=>?_
 have key: ∀h:Bool,(h=true↔s.size=0\/16<s.size)->K (h,()) e:=λh z=>by
  refine t _ _ ?_;refine ab.intro (λb=>?_) (λb=>?_)
  ·have d:Am s=false:=by
    rw[SU]
    grind [Gt]
   rw[d] at a;exact a
  have A: ¬(s.size=0\/16<s.size):=λg=>by simp_all
  refine Loop.rule (λm x g=> ∃i:Nat,x=((i:Int),())/\g=e/\m=s.size-i/\i<=s.size/\ ∀c∈(bl s).take i,33<=c.toNat/\c.toNat<=126) ?_ ⟨0,rfl,rfl,rfl,by omega,by simp⟩;rintro B m _ g ⟨i,rfl,d,rfl,hi,C⟩ u;subst g;refine ab.intro (λj=>?_) (λj=>?_)
  ·have k:i<s.size:=by simpa using j
   obtain⟨c,l⟩: ∃c,(bl s)[i]? =some c:=⟨_,A2 (by rw[BF];exact k)⟩;have D:c∈bl s:=AG l;dsimp only;rw[Ws l];refine ah.mk λv w=>⟨⟨by omega,by omega⟩,?_⟩
   have q: ∀n:Bool,(n=true↔ ¬(33<=c.toNat/\c.toNat<=126))->v (n,()) e:=λn E=>by
    refine w _ _ ?_;refine ab.intro (λb=>?_) (λb=>?_)
    ·have d:Am s=false:=by
      rw[SU]
      grind [Gt]
     rw[d] at a;exact a
    ·rw[Ac (by omega)];refine u (s.size-(i+1)) _ _ (by omega) ⟨i+1,rfl,rfl,rfl,k,λx y=>?_⟩;rw[AE,l,DM] at y
     grind
   refine ab.intro (λo=>q _ ⟨λ_=>by simp at o;omega,λ_=>rfl⟩) (λo=>⟨⟨by omega,by omega⟩,q _ ⟨λf=>by simp at f;omega,λf=>by simp at o;simp;omega⟩⟩)
  ·have k:i=s.size:=by simp at j;omega
   have d:Am s=true:=by grind [Gt,List.take_of_length_le,BF]
   rw[d] at a;exact a
 refine ab.intro (λb=>key _ ⟨λ_=> .inl (by simpa [AOq] using b),λ_=>rfl⟩) (λb=>key _ ⟨λf=>by simp at f;omega,λf=>?_⟩)
 simp_all [decide_eq_false_iff_not,AOq,decide_eq_true_eq];omega
theorem QO {f:ao}{d:aa}{a lo hi:Int}{e:A2X}(b:e (J3 (bQ a lo hi)) d):AA f P G6 #[J6 J9 a,J6 J9 lo,J6 J9 hi] d e:=by
 refine AEY ?_;unfold Xk;refine ab.intro (λg=>?_) (λg=>?_)
 ·have c:bQ a lo hi=decide (a<=hi):=by simp_all [bQ,decide_eq_decide]
  rw[c] at b;exact b
 ·have c:bQ a lo hi=false:=by grind [bQ]
  rw[c] at b;exact b
def bI.fv(x:bI):List Fv:= [.i x.kind,.s x.name,.s x.aG,.i x.tries,.i x.az,.i x.wait]
theorem AU7:P.underlying CG=some (.struct (P.fieldsOf CG)):=by kernel_rfl
theorem AN3(x:bI):kL P CG (bI.fv x)=true:=by kernel_rfl
theorem API {q:ao}{l:aa}{x:bI}{m:A2X}(r: ∀n,Ext l n->m (J3 (OA x)) n):
  AA q P TY #[.agg #[J6 J9 x.kind,J7 x.name,J7 x.aG,J6 J9 x.tries,J6 J9 x.az,J6 J9 x.wait]] l m:=by
 refine AGW ?_;unfold xy;refine ai.mk λj _ a s _=>?_
 have b:=r j s;refine AC.mk (AO a rfl) ?_;unfold OA at b;refine ab.intro (λh=>?_) (λh=>?_)
 ·have h:x.kind=1:=by simpa using h
  rw[if_pos h] at b;refine ah.mk λK t=>?_
  have key:K (((decide (x.aG=IQ)&&decide (x.az=0))||(Am x.aG&&bQ x.az 1 5)),()) j:=by
   refine t _ _ ?_;refine AL.mk (AB a rfl) (Fa ⟨_,rfl,?_⟩);cases d:Am x.name with
   |false=>rw[d] at b;simpa [ab] using b
   |true=>
    refine ab.yes rfl (AC.mk (AB a rfl) (QO ⟨_,rfl,?_⟩));cases o:bQ x.tries 1 5 with
    |false=>rw[d,o] at b;simpa [ab] using b
    |true=>
     refine ab.yes rfl ?_;refine ab.intro (λc=>?_) (λc=>?_)
     ·refine AC.mk (AB a rfl) ?_;rw[d,o] at b;have c:((decide (x.aG=IQ)&&decide (x.az=0))||(Am x.aG&&bQ x.az 1 5))=true:=c;rw[c] at b;have e:(x.wait==(0:Int))=decide (x.wait=0):=by grind
      rw[e];simpa using b
     ·have c:((decide (x.aG=IQ)&&decide (x.az=0))||(Am x.aG&&bQ x.az 1 5))=false:=c;rw[c] at b;simpa using b
  have sub: ∀ {p:Bool},p=(Am x.aG&&bQ x.az 1 5)->((decide (x.aG=IQ)&&decide (x.az=0))=false)->K (p,()) j:=λu v=>by
   rw[v,Ix,<-u] at key;exact key
  refine AL.mk (AB a rfl) ?_;rw[oV];refine ab.intro (λi=>?_) (λi=>?_)
  ·refine AC.mk (AB a rfl) ?_;refine ab.intro (λk=>?_) (λk=>?_)
   ·have e:decide (x.az=0)=true:=by simpa using k
    rw[i,e] at key;simpa using key
   ·have e:decide (x.az=0)=false:=by simpa using k
    refine AL.mk (AB a rfl) (Fa ⟨_,rfl,?_⟩);refine ab.intro (λd=>?_) (λd=>?_)
    ·exact AC.mk (AB a rfl) (QO ⟨_,rfl,sub (by rw[d,Ek]) (by rw[e,On])⟩)
    ·exact sub (by rw[d,Ft]) (by rw[e,On])
  ·refine AL.mk (AB a rfl) (Fa ⟨_,rfl,?_⟩);refine ab.intro (λd=>?_) (λd=>?_)
   ·exact AC.mk (AB a rfl) (QO ⟨_,rfl,sub (by rw[d,Ek]) (by rw[i,Ft])⟩)
   ·exact sub (by rw[d,Ft]) (by rw[i,Ft])
 ·have h:x.kind≠1:=by simpa using h
  rw[if_neg h] at b;refine ab.intro (λf=>?_) (λf=>?_)
  ·have f:x.kind=2:=by simpa using f
   rw[if_pos f] at b;refine AC.mk (AO a rfl) (AL.mk (AB a rfl) (AL.mk (AB a rfl) (AC.mk (AB a rfl) (AC.mk (AB a rfl) (AC.mk (AB a rfl) (AC.mk (AB a rfl) ?_))))));refine yM (xs:=bI.fv x) (ys:= [.i 2,.s IQ,.s IQ,.i 0,.i 0,.i x.wait]) AU7 (AN3 x) rfl rfl rfl ⟨_,rfl,?_⟩;have e:decide (bI.fv x= [.i 2,.s IQ,.s IQ,.i 0,.i 0,.i x.wait])=(decide (x.name=IQ)&&decide (x.aG=IQ)&&decide (x.tries=0)&&decide (x.az=0)):=by rw[DH];simp[bI.fv,f,and_assoc]
   rw[e];refine ab.intro (λc=>?_) (λc=>?_)
   ·rw[c,Ek] at b;exact AC.mk (AB a rfl) (QO ⟨_,rfl,b⟩)
   ·rw[c,Ft] at b;exact b
  ·have f:x.kind≠2:=by simpa using f
   rw[if_neg f] at b;refine ab.intro (λg=>?_) (λg=>?_)
   ·have g:x.kind=3:=by simpa using g
    rw[if_pos g] at b;refine AC.mk (AO a rfl) (AL.mk (AB a rfl) (AL.mk (AB a rfl) (AC.mk (AB a rfl) (AC.mk (AB a rfl) (AC.mk (AB a rfl) (AL.mk (AB a rfl) ?_))))));refine yM (xs:=bI.fv x) (ys:= [.i 3,.s x.name,.s IQ,.i 0,.i 0,.i 0]) AU7 (AN3 x) rfl rfl rfl ⟨_,rfl,?_⟩;have e:decide (bI.fv x= [.i 3,.s x.name,.s IQ,.i 0,.i 0,.i 0])=(decide (x.aG=IQ)&&decide (x.tries=0)&&decide (x.az=0)&&decide (x.wait=0)):=by rw[DH];simp[bI.fv,g,and_assoc]
    rw[e];refine ab.intro (λc=>?_) (λc=>?_)
    ·rw[c,Ek] at b;exact AL.mk (AB a rfl) (Fa ⟨_,rfl,b⟩)
    ·rw[c,Ft] at b;exact b
   ·have g:x.kind≠3:=by simpa using g
    rw[if_neg g] at b;exact b
abbrev ARv(x:bI):Array J0:= #[J6 J9 x.kind,J7 x.name,J7 x.aG,J6 J9 x.tries,J6 J9 x.az,J6 J9 x.wait]
theorem AOf:Rj P Ef CG TF.w 64=true:=by kernel_rfl
theorem ATA {b:aa}{a:Q6}{x:bI}(c:Cells b a (TF.enc x)):af b a=some (J6 J9 x.kind)/\af b (a.add 1)=some (J7 x.name)/\af b (a.add 2)=some (J7 x.aG)/\af b (a.add 3)=some (J6 J9 x.tries)/\af b (a.add 4)=some (J6 J9 x.az)/\af b (a.add 5)=some (J6 J9 x.wait):=by refine⟨?_,c 1 _ rfl,c 2 _ rfl,c 3 _ rfl,c 4 _ rfl,c 5 _ rfl⟩;have:=c 0 _ rfl;rwa [add_zero] at this
theorem AHl {D:ao}{f:aa}{s:Sl}{p:bL}{u:A2X}(v:View TF f s p.steps)(Y:p.steps.length<=1099511627776)(n: ∀w,Ext f w->u (J6 J9 (if GJ p then 0 else 130)) w):
  AA D P PH #[.agg #[J4 s.p s.len s.cap,J6 J9 p.au]] f u:=by
 refine AGk ?_;unfold wV;refine ai.mk λy _ g z _=>?_
 refine ah.mk λK E=>AV.mk (s:=s) (AO g rfl) ?_
 rw[v.len];have key: ∀o:Bool,(o=true↔ ¬(p.steps.length<=16/\bQ p.au 0 16000=true))->K (o,()) y:=λo F=>by
  refine E _ _ ?_;refine ab.intro (λh=>?_) (λh=>?_)
  ·have d:=n y z;rw[if_neg] at d
   ·exact d
   ·intro j;simp only[GJ,A3,decide_eq_true_eq] at j;exact F.1 h j.1
  have G:p.steps.length<=16/\bQ p.au 0 16000=true:=Decidable.byContradiction λk=>by
   simp_all
  refine AV.mk (s:=s) (AO g rfl) ?_;refine Loop.rule (λm x k=> ∃i:Nat,x=((i:Int),())/\Ext f k/\m=p.steps.length-i/\i<=p.steps.length/\(p.steps.take i).all OA=true) ?_ ⟨0,rfl,z,rfl,by omega,rfl⟩;rintro Z m _ k ⟨i,rfl,l,rfl,hi,q⟩ H;rw[v.len];refine ab.intro (λr=>?_) (λr=>?_)
  ·have t:i<p.steps.length:=by simpa using r
   obtain⟨x,A⟩: ∃x,p.steps[i]? =some x:=⟨_,A2 t⟩;rw[<- v.len];refine(v.ext l).idx A λa _ c=>?_
   obtain⟨I,J,L,M,N,O⟩:=ATA c;refine AC.mk I (AL.mk J (AL.mk L (AC.mk M (AC.mk N (AC.mk O ?_)))));refine ai.mk λQ _ R S _=>ae.pw R λT e U ac=>?_
   refine AC.mk (AO e rfl) (AL.mk (AB e rfl) (AL.mk (AB e rfl) (AC.mk (AB e rfl) (AC.mk (AB e rfl) (AC.mk (AB e rfl) ?_)))));have V:Ext f T:=(l.trans S).more U λb g=>by subst g;exact l.size
   refine API (x:=x) λW X=>⟨_,rfl,?_⟩
   have B:=V.trans X;refine ab.intro (λC=>?_) (λC=>?_)
   ·have d:=n W B;rw[if_neg] at d
    ·exact d
    ·intro j;simp only[GJ,A3,decide_eq_true_eq,Fk] at j
     grind
   ·dsimp only;rw[Ac (by omega)];refine H (p.steps.length-(i+1)) _ _ (by omega) ⟨i+1,rfl,B,rfl,t,?_⟩;rw[AE,A,DM,List.all_append,q];simpa using C
  ·have t:i=p.steps.length:=by simp at r;omega
   rw[AD (by omega)] at q;have d:=n k l;rw[if_pos (by simp only[GJ,A3,decide_eq_true_eq];exact⟨G,q⟩)] at d;exact d
 refine ab.intro (λh=>key _ ⟨λ_ Q=>by simp at h;omega,λ_=>rfl⟩) (λh=>?_);refine AC.mk (AB g rfl) (QO ⟨_,rfl,key _ ?_⟩)
 grind
structure Yg (h:aa) (b rb b1:Nat) (lim:Int) (s:Sl) (l:List bI) (hh:aa) (r:Rd):Prop where
 ext:Ext h hh
 zero:hh[b]? =some (J2 #[J4 none 0 0,J6 J9 0] Cy (0,0))
 rd:LF hh rb r
 var:hh[b1]? =some (J2 #[J4 s.p s.len s.cap,J6 J9 lim] Cy (0,0))
 own:Own TF CG hh s l
 fresh: ∀c,s.ag=some c->h.size<=c/\c≠b/\c≠rb/\c≠b1
 ne:h.size<=b/\h.size<=rb/\h.size<=b1/\b≠rb/\b≠b1/\rb≠b1
theorem Yg.read {g:aa}{b d h:Nat}{i:Int}{s:Sl}{l:List bI}{j e:aa}{n k:Rd}(a:Yg g b d h i s l j n)(o:LF e d k)(m:Mod (· =d) j e):Yg g b d h i s l e k:=
 ⟨a.ext.more m λc f=>by subst f;exact a.ne.2.1,m.ag a.zero a.ne.2.2.2.1,o,m.ag a.var a.ne.2.2.2.2.2.symm,a.own.mod m λc f=>(a.fresh c f).2.2.1,a.fresh,a.ne⟩
theorem Yg.other {e:aa}{b f g c:Nat}{i:Int}{s:Sl}{l:List bI}{j k:aa}{n:Rd}(a:Yg e b f g i s l j n)(m:Mod (· =c) j k)(d:e.size<=c/\c≠b/\c≠f/\c≠g/\s.ag≠some c):Yg e b f g i s l k n:=
 ⟨a.ext.more m λo h=>by subst h;exact d.1,m.ag a.zero d.2.1.symm,m.ag a.rd d.2.2.1.symm,m.ag a.var d.2.2.2.1.symm,a.own.mod m λo h p=>d.2.2.2.2 (by rw[h,p]),a.fresh,a.ne⟩
theorem Yg.on {a:aa}{b d e:Nat}{f:Int}{s:Sl}{l:List bI}{g h:aa}{i:Rd}(c:Yg a b d e f s l g i)(m:Ext g h):Yg a b d e f s l h i:=
 ⟨c.ext.trans m,m.ag c.zero (λa=>a),m.ag c.rd (λa=>a),m.ag c.var (λa=>a),c.own.ext m,c.fresh,c.ne⟩
theorem Yg.new {d:aa}{b e f:Nat}{g:Int}{s:Sl}{l:List bI}{a:aa}{h:Rd}(c:Yg d b e f g s l a h):d.size<=a.size/\a.size≠b/\a.size≠e/\a.size≠f/\s.ag≠some a.size:=by
 refine⟨c.ext.size,?_,?_,?_,λi=>?_⟩
 ·have:=Ai c.zero;omega
 ·have:=Ai c.rd;omega
 ·have:=Ai c.var;omega
 ·have:=c.own.lt i;omega
theorem APe {b c d:Nat}{all:Bool}(a:Rd):(Nj b c d all a).2.rest.length<=a.rest.length:=by grind [Io,Nj,Wu,CZ,Gq]
def ATL(a:Option bL)(s:Sl):J0:=match a with
 |none=>J1 #[.agg #[J4 none 0 0,J6 J9 0],J6 J9 60]
 |some p=>J1 #[.agg #[J4 s.p s.len s.cap,J6 J9 p.au],J6 J9 0]
theorem AMz {A:ao}{h:aa}{l:List UInt8}{R:A2X}(bC:l.length<1099511627776)
  (ar: ∀O s,Ext h O->(∀ p,Ji l=some p->View TF O s p.steps/\ ∀c,s.ag=some c->h.size<=c)->R (ATL (Ji l) s) O):AA A P KW #[J7 (Ae l)] h R:=by
 refine AFK ?_;unfold Xh;refine ai.mk λz _ au ac aP=>?_
 refine N7 λaQ af ag=>⟨_,rfl,?_⟩
 refine Ei (most:=16000) af (by simp;omega) (by decide) λQ av S=>⟨_,rfl,?_⟩
 refine ai.mk λbD _ aw T aR=>ae.two aw λaS ax U aT=>?_
 have bE:z.size<aQ.size:=Ai af;have bF:=S.size;have bG:=ac.size;have ay:Yg h h.size z.size Q.size ((CZ 16000 ⟨l,false⟩).1:Int) ⟨none,0,0⟩ [] aS (CZ 16000 ⟨l,false⟩).2:=by
  have aU:Q[h.size]? =some (J2 #[J4 none 0 0,J6 J9 0] Cy (0,0)):=S.ag (ag.ag au (λh=>h)) (by omega);have aV:=T.ag av (λh=>h);have az:Ext h Q:=(ac.trans ag).more S λc a=>by subst a;omega
  refine⟨(az.trans T).more U λc a=>by subst a;exact az.size,U.ag (T.ag aU (λh=>h)) (by omega),U.ag aV (by omega),ax,Own.nil,λc a=>by simp[Sl.ag] at a,by omega,by omega,by omega,by omega,by omega,by omega⟩
 have bH:(CZ 16000 ⟨l,false⟩).2.rest.length<=l.length:=Io 16000 ⟨l,false⟩;refine Ei (most:=16) ay.rd (by omega) (by decide) λbJ aA aC=>⟨_,rfl,?_⟩
 have aW:=ay.read aA aC;have bK:=Io 16 (CZ 16000 ⟨l,false⟩).2;generalize bL:(CZ 16000 ⟨l,false⟩).1=i at*
 generalize bM:(CZ 16000 ⟨l,false⟩).2=t at*
 have aX:(CZ 16 t).1<=16:=by
  unfold CZ
  grind
 have G:iz 16000 3 5 1000 false l=(⟨(IV 3 5 1000 false (CZ 16 t).1 (CZ 16 t).2).1,i⟩,(IV 3 5 1000 false (CZ 16 t).1 (CZ 16 t).2).2):=by grind [iz]
 generalize bN:h.size=b at*
 generalize bO:z.size=H at*
 generalize B:Q.size=I at*
 clear au af av aw ax ac ag T S U aC aP aR aT aA;refine Loop.rule (λm x aj=> ∃(j:Nat) (s:Sl) (f:List bI) (d:Rd),x=((j:Int),())/\Yg h b H I i s f aj d/\m=j/\d.rest.length<=l.length/\f.length+j<=16/\
  iz 16000 3 5 1000 false l=(⟨f++(IV 3 5 1000 false j d).1,i⟩,(IV 3 5 1000 false j d).2)) ?_ ⟨(CZ 16 t).1,⟨none,0,0⟩,[],(CZ 16 t).2,rfl,aW,rfl,by omega,by simpa using aX,G⟩
 rintro K m _ aj ⟨j,s,f,d,rfl,n,bP,bQ,bR,G⟩ aY;refine ab.intro (λak=>?_) (λak=>?_)
 ·have aD:0<j:=by simp at ak;omega
  obtain⟨k,rfl⟩: ∃k,j=k+1:=⟨j-1,by omega⟩;refine Ei (most:=3) n.rd (by omega) (by decide) λal aZ a0=>⟨_,rfl,?_⟩
  have g:=n.read aZ a0;have bS:=Io 3 d;refine ai.mk λV _ u a1 bT=>ae.pw u λa2 B a3 bU=>?_
  have a:=g.new;have v:=(g.on a1).other a3 a;generalize al.size=a4 at*
  refine AC.mk (AO B rfl) ?_;refine ah.mk λa5 a6=>?_
  have fin: ∀(x:bI) (C:Rd) (o:aa),Yg h b H I i s f o C->o[a4]? =some (J2 (ARv x) CG (0,0))->Nj 3 5 1000 false d=(x,C)->a5 () o:=λx C o e q w=>by
   refine a6 _ _ ?_;refine AV.mk (s:=s) (AO e.var rfl) ?_;refine AC.mk (AO q rfl) (AL.mk (AB q rfl) (AL.mk (AB q rfl) (AC.mk (AB q rfl) (AC.mk (AB q rfl) (AC.mk (AB q rfl) ?_)))));refine ai.aV (E:=TF) (x:=x) (s:=s) (l:=f) rfl AOf e.own (by omega) (by simp[maxLen];omega) λaE O a7 W q bV=>?_
   have a8:s.ag≠some I:=λa=>(e.fresh _ a).2.2.2 rfl
   have a9:s.ag≠some b:=λa=>(e.fresh _ a).2.1 rfl
   have ba:s.ag≠some H:=λa=>(e.fresh _ a).2.2.1 rfl
   have aF: ∀c,aE.ag=some c->h.size<=c/\c≠b/\c≠H/\c≠I:=λc a=>by
    rcases q c a with z|z
    ·exact e.fresh c z
    ·have bW:=Ai e.zero;have bX:=Ai e.rd;have bY:=Ai e.var;have bZ:=e.ext.size;omega
   refine ae.mk (W.ag e.var a8) (by simp) λb0 bb X b1=>?_
   rw[show((((k+1:Nat):Int),()):Int×Unit).1-(1:Int)=((k:Nat):Int) by simp,Fz (by omega)];have bc:IV 3 5 1000 false (k+1) d=(x::(IV 3 5 1000 false k C).1,(IV 3 5 1000 false k C).2):=by simp only[IV,w]
   refine aY k _ _ (by omega) ⟨k,aE,f++ [x],C,rfl,⟨?_,?_,?_,by simpa using bb,?_,aF,e.ne⟩,rfl,?_,by simp;omega,?_⟩
   ·exact(e.ext.more W λc a=>(e.fresh c a).1).more X λc a=>by omega
   ·exact X.ag (W.ag e.zero a9) e.ne.2.2.2.2.1
   ·exact X.ag (W.ag e.rd ba) e.ne.2.2.2.2.2
   ·exact a7.mod X λc a=>(aF c a).2.2.2
   ·grind [APe]
   ·rw[G,bc];simp
  refine ab.intro (λy=>?_) (λy=>?_)
  ·have am:(CZ 3 d).1=1:=by simp at y;omega
   have b2:=(Wu (CZ 3 d).2).1;have b3:=Io 5 (Gq (CZ 3 d).2).2;have b4:=(Wu (CZ 5 (Gq (CZ 3 d).2).2).2).1;refine Iw v.rd (by omega) λaG J r=>⟨_,rfl,?_⟩
   have D:=v.read J r;have L:=r.ag B a.2.2.1;refine Ei (most:=5) D.rd (by omega) (by decide) λY bd F=>⟨_,rfl,?_⟩
   have be:=D.read bd F;have M:=F.ag L a.2.2.1;refine ae.bE M (by simp) rfl λb5 bf bg b6=>ae.bE bf (by simp) rfl λb7 bh bi b8=>?_
   have aH:=(be.other bg a).other bi a;refine Iw aH.rd (by omega) λb9 bj aI=>⟨_,rfl,?_⟩
   have aJ:=aH.read bj aI;have bk:=aI.ag bh a.2.2.1;refine Ei (most:=5) aJ.rd (by omega) (by decide) λca bm aK=>⟨_,rfl,?_⟩
   have bn:=aJ.read bm aK;have bo:=aK.ag bk a.2.2.1;refine ae.bE bo (by simp) rfl λcb bp bq cc=>ae.bE bp (by simp) rfl λbr bs bt cd=>?_
   have bu:=(bn.other bq a).other bt a;refine fin ⟨1,Ae (Gq (CZ 3 d).2).1,Ae (Gq (CZ 5 (Gq (CZ 3 d).2).2).2).1,(CZ 5 (Gq (CZ 3 d).2).2).1,(CZ 5 (Gq (CZ 5 (Gq (CZ 3 d).2).2).2).2).1,0⟩ _ br bu ?_ ?_
   ·rw[bs,am];rfl
   ·simp only[Nj];rw[if_pos am]
  ·have am:(CZ 3 d).1≠1:=by simp at y;omega
   refine ab.intro (λan=>?_) (λan=>?_)
   ·have aL:(CZ 3 d).1=2:=by simp at an;omega
    refine Ei (most:=1000) v.rd (by omega) (by decide) λaG J r=>⟨_,rfl,?_⟩
    have D:=v.read J r;have L:=r.ag B a.2.2.1;refine ae.bE L (by simp) rfl λY M F bv=>?_
    refine fin ⟨2,IQ,IQ,0,0,(CZ 1000 (CZ 3 d).2).1⟩ _ Y (D.other F a) ?_ ?_
    ·rw[M,aL];rfl
    ·simp only[Nj]
     grind
   ·have aL:(CZ 3 d).1≠2:=by simp at an;omega
    refine ab.intro (λap=>?_) (λap=>?_)
    ·have bw:(CZ 3 d).1=3:=by simp at ap;omega
     refine Iw v.rd (by omega) λaG J r=>⟨_,rfl,?_⟩
     have D:=v.read J r;have L:=r.ag B a.2.2.1;refine ae.bE L (by simp) rfl λY M F bv=>?_
     refine fin ⟨(CZ 3 d).1,Ae (Gq (CZ 3 d).2).1,IQ,0,0,0⟩ _ Y (D.other F a) ?_ ?_
     ·rw[M];rfl
     ·simp only[Nj]
      grind
    ·have bw:(CZ 3 d).1≠3:=by simp at ap;omega
     refine fin ⟨(CZ 3 d).1,IQ,IQ,0,0,0⟩ _ a2 v B ?_;simp only[Nj]
     grind
 ·have aD:j=0:=by simp at ak;omega
  subst aD;simp only[IV,AI] at G;refine ah.mk λbx aM=>?_
  refine Qk n.rd ⟨_,rfl,?_⟩;have aN:Ji l=if fY d&&GJ ⟨f,i⟩ then some ⟨f,i⟩ else none:=by unfold Ji;rw[G]
  have aO:Ji l=none-> ∀o,Yg h b H I i s f o d->bx (true,()) o:=λw o e=>by
   refine aM _ _ (ab.yes rfl ?_);refine ae.two e.zero λV u Z bz=>AV.mk (s:=⟨none,0,0⟩) (AO u rfl) (AC.mk (AB u rfl) ?_)
   have:=ar V ⟨none,0,0⟩ (e.ext.more Z λc a=>by subst a;exact e.ne.1) (λp N=>by rw[w] at N;cases N);rw[w] at this;exact this
  refine ab.intro (λy=>?_) (λy=>?_)
  ·have aq:fY d=false:=by simpa using y
   exact aO (by rw[aN,aq];rfl) aj n
  ·have aq:fY d=true:=by simpa using y
   refine AV.mk (s:=s) (AO n.var rfl) (AC.mk (AB n.var rfl) ?_);refine AHl (p:=⟨f,i⟩) n.own.view (by simp only;omega) λal bA=>⟨_,rfl,?_⟩
   have g:=n.on bA;cases bB:GJ ⟨f,i⟩ with
   |false=>exact aO (by grind) al g
   |true=>
    refine aM _ _ (ab.no rfl ?_);have w:Ji l=some ⟨f,i⟩:=by rw[aN,aq,bB];rfl
    refine AV.mk (s:=s) (AO g.var rfl) (AC.mk (AB g.var rfl) ?_);refine ae.two g.zero λV u Z bz=>AV.mk (s:=s) (AO u rfl) (AC.mk (AB u rfl) ?_)
    have:=ar V s (g.ext.more Z λc a=>by subst a;exact g.ne.1) (λp N=>by
     rw[w] at N;obtain rfl:=Bk N;exact⟨(g.own.mod Z λc a=>(g.fresh c a).2.1).view,λc a=>by have:=(g.fresh c a).1;omega⟩)
    rw[w] at this;exact this
def fN(a:Int):Int:=(if cP a then 1 else 0)+(if da a then 2 else 0)+(if dq a then 4 else 0)+(if dJ a then 8 else 0)+(if dO a then 16 else 0)
theorem sH(d:Int):Gw J9 (fN d) 1=(if cP d then 1 else 0)/\Gw J9 (fN d) 2=(if da d then 2 else 0)/\Gw J9 (fN d) 4=(if dq d then 4 else 0)/\Gw J9 (fN d) 8=(if dJ d then 8 else 0)/\Gw J9 (fN d) 16=(if dO d then 16 else 0):=by unfold fN;generalize cP d=a;generalize da d=b;generalize dq d=c;generalize dJ d=e;generalize dO d=f;cases a<;>cases b<;>cases c<;>cases e<;>cases f<;>decide
theorem mw {b:Bool}{a:Int}(c:a≠0):((if b then a else 0)==(0:Int))= !b:=by cases b<;>simp[c]
theorem NY {b:Bool}{a:Int}(c:a≠0):((if b then a else 0) != (0:Int))=b:=by cases b<;>simp[c]
theorem Yp {i:ao}{f:aa}{a:Int}{g:A2X}(c:g (J1 #[J6 J9 (fN a),J3 (bQ a 1 18)]) f):AA i P JY #[J6 J9 a] f g:=by
 refine ADB ?_;unfold WU;have d:a=1\/a=2\/a=3\/a=4\/a=5\/a=6\/a=7\/a=8\/a=9\/a=10\/a=11\/a=12\/a=13\/a=14\/a=15\/a=16\/a=17\/a=18\/ ¬(1<=a/\a<=18):=by omega
 by_cases h:1<=a/\a<=18
 ·rcases d with rfl|rfl|rfl|rfl|rfl|rfl|rfl|rfl|rfl|rfl|rfl|rfl|rfl|rfl|rfl|rfl|rfl|rfl|d
  all_goals (try exact absurd h d)
  all_goals repeat first|exact c|(refine ah.mk λK e=>?_)|(refine ab.yes (by decide) ?_)|(refine ab.no (by decide) ?_)|(refine e _ _ ?_)
 ·have j:bQ a 1 18=false:=by unfold bQ;simpa using h
  have k:fN a=0:=by unfold fN cP da dq dJ dO;rw[decide_eq_false (by omega),decide_eq_false (by omega),decide_eq_false (by omega),decide_eq_false (by omega),decide_eq_false (by omega)];rfl
  rw[j,k] at c;have ne: ∀b:Int,1<=b->b<=18->(a==b)=false:=λb l m=>by
   rw[beq_eq_false_iff_ne];omega
  repeat first|exact c|(refine ah.mk λK e=>?_)|(refine ab.no (ne _ (by decide) (by decide)) ?_)|(refine e _ _ ?_)
theorem ACD {A:ao}{h:aa}{s:A2Y}{R:A2X}(b:s.size<1099511627776)
  (d: ∀a sl,Ext h a->(∀ p,Ji (bl s)=some p->View TF a sl p.steps/\ ∀c,sl.ag=some c->h.size<=c)->R (ATL (Ji (bl s)) sl) a):AA A P KW #[J7 s] h R:=by
 have:=AMz (A:=A) (h:=h) (l:=bl s) (R:=R) (by rw[BF];exact b) d;rwa [Qs] at this
theorem LU {A:ao}{h:aa}{s:A2Y}{R:A2X}(b:s.size<=1099511627776)(c: ∀a,Ext h a->R (J7 (Ae (BX (bl s)))) a):AA A P CK #[J7 s] h R:=by have:=Sn (A:=A) (h:=h) (l:=bl s) (R:=R) (by rw[BF];exact b) c;rwa [Qs] at this
theorem sI {j:ao}{e:aa}{b:Nat}{f a lo hi h:Int}{fl:Bool}{T:Q7}{fr:Nat×Nat}{i:A2X}(k:e[b]? =some (J2 #[J6 J9 f] T fr))(l:(Gw J9 f h==(0:Int))= !fl)
  (c:i (J3 (cQ fl a lo hi)) e):EM j P (.func (.func Im) #[] #[J5 (some ⟨b,0,none⟩)]) #[J6 J9 a,J6 J9 lo,J6 J9 hi,J6 J9 h] e i:=by
 refine EM.func (first:= #[]) (bM:= #[Ap b]) (by kernel_rfl) ?_;refine ABA ?_;unfold UR;refine aA (AC.mk (AO k rfl) ?_);rw[l];cases fl with
 |false=>
  refine ab.yes rfl ?_;have d:(a==(0:Int))=decide (a=0):=by by_cases m:a=0<;>simp[m]
  rw[d];exact c
 |true=>
  refine ab.no rfl ?_;refine ab.intro (λg=>?_) (λg=>?_)
  ·have d:cQ true a lo hi=decide (a<=hi):=by simp at g;simp only[cQ,if_true,bQ];rw[decide_eq_decide];omega
   rw[d] at c;exact c
  ·have d:cQ true a lo hi=false:=by simp at g;simp only[cQ,if_true,bQ];simp;omega
   rw[d] at c;exact c
abbrev oW(a:Ev):J0:= .agg #[J6 J9 a.id,J6 J9 a.kind,J6 J9 a.tick,J6 J9 a.ref,J6 J9 a.step,J6 J9 a.turn,J3 a.aG,J7 a.data]
theorem sJ {O:ao}{g:aa}{e:Ev}{t:A2X}(hd:e.data.size<1099511627776)(u: ∀b,Ext g b->t (J6 J9 (if Er e then 0 else 120)) b):AA O P Kc #[oW e] g t:=by
 refine AEf ?_;unfold YP;refine ai.mk λv _ E F aG=>?_
 refine AC.mk (AB E rfl) (Yp ⟨_,_,rfl,?_⟩);refine ai.mk λaH _ Q G aI=>?_
 refine ae.mk Q (by simp) λd i H aK=>?_
 have m:Ext g d:=(F.trans G).more H λc o=>by subst o;exact F.size
 have R:g.size≠v.size:=by omega
 have a:=H.ag (G.ag E (λg=>g)) R;have i:d[v.size]? =some (J2 #[J6 J9 (fN e.kind)] BM (0,0)):=i;obtain⟨S,T,U,V,W⟩:=sH e.kind;refine ah.mk λK I=>?_
 have f:Eu e=false->K (true,()) d:=λw=>by
  refine I _ _ (ab.yes rfl ?_);have:=u d m;have r:Er e=false:=by simp[Er,w]
  rw[r] at this;exact this
 have aJ:Eu e=true->K (false,()) d:=λw=>by
  refine I _ _ (ab.no rfl ?_);refine AC.mk (AB a rfl) ?_;refine ah.mk λX Y=>?_
  have fin:Kr e=true-> ∀b,Ext g b->X () b:=λy b x=>by
   refine Y _ _ ?_;have:=u b x;have r:Er e=true:=by simp[Er,w,y]
   rw[r] at this;exact this
  have fail:Kr e=false-> ∀b,Ext g b->t (J6 J9 120) b:=λy b x=>by
   have:=u b x;have r:Er e=false:=by simp[Er,y]
   rw[r] at this;exact this
  refine ab.intro (λh=>?_) (λh=>?_)
  ·have h:e.kind=1:=by simpa using h
   have j:Kr e=(Ji (bl e.data)).isSome:=by unfold Kr;rw[if_pos h]
   refine AL.mk (AB a rfl) (ACD hd λaL sl Z _=>?_);have s:=m.trans Z;cases J:Ji (bl e.data) with
   |none=>
    refine⟨⟨none,0,0⟩,_,_,rfl,?_⟩;refine ai.mk λac _ z A af=>ae.two z λB ag C aj=>ab.yes rfl ?_
    exact fail (by rw[j,J];rfl) B ((s.trans A).more C λc o=>by subst o;exact s.size)
   |some p=>
    refine⟨sl,_,_,rfl,?_⟩;refine ai.mk λac _ z A af=>ae.two z λB ag C aj=>ab.no rfl ?_
    exact fin (by rw[j,J];rfl) B ((s.trans A).more C λc o=>by subst o;exact s.size)
  ·have h:e.kind≠1:=by simpa using h
   refine ab.intro (λk=>?_) (λk=>?_)
   ·have k:e.kind=12:=by simpa using k
    have j:Kr e=Am e.data:=by unfold Kr;rw[if_neg h,if_pos k]
    refine AL.mk (AB a rfl) (Fa ⟨_,rfl,?_⟩);cases L:Am e.data with
    |false=>exact fail (by rw[j,L]) d m
    |true=>exact fin (by rw[j,L]) d m
   ·have k:e.kind≠12:=by simpa using k
    have j:Kr e=true:=by unfold Kr;rw[if_neg h,if_neg k]
    exact fin j d m
 refine ab.intro (λq=>f (by simp at q;simp[Eu,q])) (λak=>?_);refine AC.mk (AO a rfl) (ab.intro (λq=>f ?_) (λal=>?_))
 ·have:bQ e.id 1 500=false:=by simp at q;unfold bQ;simp;omega
  simp[Eu,this]
 refine AC.mk (AO a rfl) (ab.intro (λq=>f ?_) (λam=>?_))
 ·have:bQ e.id 1 500=false:=by simp at q;unfold bQ;simp;omega
  simp[Eu,this]
 have an:1<=e.id/\e.id<=500:=by simp at al am;omega
 refine AC.mk (AB a rfl) (ab.intro (λq=>f ?_) (λap=>?_))
 ·have:bQ e.tick 0 1099511627776=false:=by simp at q;unfold bQ;simp;omega
  simp[Eu,this]
 refine AC.mk (AB a rfl) (ab.intro (λq=>f ?_) (λaq=>?_))
 ·have:bQ e.tick 0 1099511627776=false:=by simp at q;unfold bQ;simp;omega
  simp[Eu,this]
 have ar:bQ e.tick 0 1099511627776=true:=by simp at ap aq;rw[Ba];omega
 have au:bQ e.id 1 500=true:=Ba.2 an;have av:bQ e.kind 1 18=true:=by simpa using ak
 refine AC.mk (AB a rfl) (AC.mk (AO a rfl) ?_);rw[wrap_i64 (n:=e.id-1) (by omega) (by omega)];refine sI (fl:=cP e.kind) i (by rw[S,mw (by decide)]) ⟨_,rfl,?_⟩;refine ab.intro (λq=>f ?_) (λaw=>?_)
 ·have:cQ (cP e.kind) e.ref 1 (e.id-1)=false:=by simpa using q
  simp[Eu,this]
 have ax:cQ (cP e.kind) e.ref 1 (e.id-1)=true:=by simpa using aw
 refine AC.mk (AB a rfl) ?_;refine sI (fl:=da e.kind) i (by rw[T,mw (by decide)]) ⟨_,rfl,?_⟩;refine ab.intro (λq=>f ?_) (λay=>?_)
 ·have:cQ (da e.kind) e.step 0 15=false:=by simpa using q
  simp[Eu,this]
 have az:cQ (da e.kind) e.step 0 15=true:=by simpa using ay
 refine AC.mk (AB a rfl) ?_;refine sI (fl:=dq e.kind) i (by rw[U,mw (by decide)]) ⟨_,rfl,?_⟩;refine ab.intro (λq=>f ?_) (λaA=>?_)
 ·have:cQ (dq e.kind) e.turn 1 5=false:=by simpa using q
  simp[Eu,this]
 have aC:cQ (dq e.kind) e.turn 1 5=true:=by simpa using aA
 have l:Eu e=((!e.aG||dJ e.kind)&&(decide (e.data=IQ)||dO e.kind)):=by simp[Eu,av,au,ar,ax,az,aC]
 have M:(!e.aG||dJ e.kind)=true->AL d ((⟨g.size,0,none⟩:Q6).add 7) λaD=>
   ab (!bB aD (⟨#[]⟩:A2Y)) (AC J9 d (⟨v.size,0,none⟩:Q6) λaE=>K (((Gw J9 aE (16:Int))==(0:Int)),()) d) (K (false,()) d):=λaF=>by
  rw[aF,Ek] at l;refine AL.mk (AB a rfl) ?_;rw[oV];refine ab.intro (λq=>?_) (λq=>?_)
  ·have q:decide (e.data=IQ)=false:=by simpa using q
   refine AC.mk (AO i rfl) ?_;rw[W,mw (by decide)];rw[q,Ix] at l;cases N:dO e.kind with
   |false=>exact f (by rw[l,N])
   |true=>exact aJ (by rw[l,N])
  ·have q:decide (e.data=IQ)=true:=by simpa using q
   rw[q,Bool.true_or] at l;exact aJ l
 refine Aa.mk (AB a rfl) (ab.intro (λq=>?_) (λq=>?_))
 ·refine AC.mk (AO i rfl) ?_;rw[V,mw (by decide)];refine ab.intro (λD=>f ?_) (λD=>M ?_)
  ·have:dJ e.kind=false:=by simpa using D
   rw[l,q,this];rfl
  ·have:dJ e.kind=true:=by simpa using D
   rw[this,IH]
 ·exact M (by rw[q];rfl)
theorem qp:Rj P Eg Hu eT.w 32=true:=by kernel_rfl
theorem qs:Rj P Dk Gl fU.w 24=true:=by kernel_rfl
theorem AXc:(zeroValue Hu).calc P=some Jb.z.v:=by kernel_rfl
theorem AXe:(zeroValue Gl).calc P=some Ck.z.v:=by kernel_rfl
def qt(d:Option Nat):Int:=match d with|some i=>(i:Int)|none=> -1
theorem uX {f:Type}{p:f->Bool}{l:List f}{d:Nat}(m:d<=l.length)(h: ∀x∈l.take d,p x=false):(∀ x,l[d]? =some x->p x=true->l.findIdx? p=some d)/\(d=l.length->l.findIdx? p=none):=by
 constructor
 ·intro x i j;rw[List.findIdx?_eq_some_iff_getElem];obtain⟨k,e⟩:=List.getElem?_eq_some_iff.1 i;refine⟨k,by rw[e];exact j,λg n=>?_⟩;have:=h l[g] (List.mem_iff_getElem?.2 ⟨g,by simp_all⟩);simp[this]
 simp_all
section
variable {A : ao} {h : aa} {R : A2X} {s : aW} {e : Ev} {a b c : Sl}
theorem AUu {p:Jb->Bool}{sl:Sl}{l:List Jb}{f:J0}(v:View eT h sl l)(F:l.length<=1000000)(y: ∀(x:Jb) (d:aa) (o:A2X),Ext h d->(∀ g,Ext d g->o (J3 (p x)) g)->EM A P f #[x.v] d o)
  (q: ∀g,Ext h g->R (J6 J9 (qt (l.findIdx? p))) g):AA A P Cc #[J4 sl.p sl.len sl.cap,f] h R:=by
 refine JE ?_;unfold FJ;refine Loop.rule (λm x d=> ∃i:Nat,x=((i:Int),())/\m=l.length-i/\i<=l.length/\Ext h d/\ ∀x∈l.take i,p x=false) ?_ ⟨0,rfl,rfl,A5 _,Mod.refl,by simp⟩;rintro K m _ r ⟨i,rfl,rfl,hi,j,z⟩ B;obtain⟨g1,C⟩:=uX hi z;dsimp only;have G:=v.len;refine ab.intro (λn=>?_) (λn=>?_)
 ·have k:i<l.length:=by simp at n;omega
  obtain⟨x,t⟩: ∃x,l[i]? =some x:=⟨_,A2 k⟩;refine(v.ext j).idx t λH _ D=>kN.mk x D ?_
  refine y x r _ j λE u=>⟨_,rfl,?_⟩
  refine ab.intro (λw=>?_) (λw=>?_)
  ·have:=q E (j.trans u);rw[g1 x t w] at this;exact this
  ·rw[Ac (by omega)];refine B (l.length-(i+1)) _ _ (by omega) ⟨i+1,rfl,rfl,k,j.trans u,λI J=>?_⟩
   grind [List.take_add_one,Option.toList_some,List.mem_singleton]
 ·have k:i=l.length:=by simp at n;omega
  have:=q r j;rw[C k] at this;exact this
theorem AUX {p:Ck->Bool}{sl:Sl}{l:List Ck}{f:J0}(v:View fU h sl l)(F:l.length<=1000000)(y: ∀(x:Ck) (d:aa) (o:A2X),Ext h d->(∀ g,Ext d g->o (J3 (p x)) g)->EM A P f #[x.v] d o)
  (q: ∀g,Ext h g->R (J6 J9 (qt (l.findIdx? p))) g):AA A P DC #[J4 sl.p sl.len sl.cap,f] h R:=by
 refine IC ?_;unfold Ec;refine Loop.rule (λm x d=> ∃i:Nat,x=((i:Int),())/\m=l.length-i/\i<=l.length/\Ext h d/\ ∀x∈l.take i,p x=false) ?_ ⟨0,rfl,rfl,A5 _,Mod.refl,by simp⟩;rintro K m _ r ⟨i,rfl,rfl,hi,j,z⟩ B;obtain⟨g1,C⟩:=uX hi z;dsimp only;have G:=v.len;refine ab.intro (λn=>?_) (λn=>?_)
 ·have k:i<l.length:=by simp at n;omega
  obtain⟨x,t⟩: ∃x,l[i]? =some x:=⟨_,A2 k⟩;refine(v.ext j).idx t λH _ D=>oP.mk x D ?_
  refine y x r _ j λE u=>⟨_,rfl,?_⟩
  refine ab.intro (λw=>?_) (λw=>?_)
  ·have:=q E (j.trans u);rw[g1 x t w] at this;exact this
  ·rw[Ac (by omega)];refine B (l.length-(i+1)) _ _ (by omega) ⟨i+1,rfl,rfl,k,j.trans u,λI J=>?_⟩
   grind [List.take_add_one,Option.toList_some,List.mem_singleton]
 ·have k:i=l.length:=by simp at n;omega
  have:=q r j;rw[C k] at this;exact this
theorem AWO(o:View eT h b s.aw)(q:s.aw.length<=1000000)(r: ∀f,Ext h f->R (J6 J9 (qt (lU s e.ref e.turn))) f):AA A P Va #[(s.V a b c).v,e.v] h R:=by
 refine AIL ?_;unfold w6;refine ai.mk λt _ u v F=>ai.mk λG _ w g H=>?_
 have i:=v.trans g;refine AV.mk (s:=b) (AB (g.ag u λh=>h) rfl) (AUu (o.ext i) q (p:=λj=>decide (j.id=e.ref)&&decide (j.turn=e.turn)) (λx I J y z=>?_) λB C=>⟨_,rfl,r B (i.trans C)⟩);refine EM.func (first:= #[]) (bM:= #[Ap t.size]) (by kernel_rfl) (AEQ ?_);unfold Xq;refine ai.mk λD _ k l K=>?_
 have m:=(y.trans l).ag w λh=>h
 have:=z D l;refine AC.mk (n:=x.id) (AO k rfl) (AC.mk (n:=e.ref) (AB m rfl) (ab.intro (λd=>?_) (λd=>?_)))
 ·have d:x.id=e.ref:=by simpa using d
  refine AC.mk (n:=x.turn) (AB k rfl) (AC.mk (n:=e.turn) (AB m rfl) ?_);have E:(x.turn==e.turn)=(decide (x.id=e.ref)&&decide (x.turn=e.turn)):=by grind
  rw[E];exact this
 ·have d:x.id≠e.ref:=by simpa using d
  rw[decide_eq_false d,Ft] at this;exact this
theorem step_ok {f d:Int}(E:View TF h a s.prog.steps)(u: ∀j,Ext h j->R (J1 #[((stepOf s.prog f d).getD bI.z).v,J3 (stepOf s.prog f d).isSome]) j):AA A P MU #[(s.V a b c).v,J6 J9 f,J6 J9 d] h R:=by
 refine AGg ?_;unfold vZ;refine ai.mk λF _ G H Q=>ai.mk λv _ w y S=>?_
 have z:=H.trans y;have o:=y.ag G λh=>h
 have p:=E.ext z;have B: ∀j,Mod (· =F.size) v j->Ext h j:=λj m=>z.more m λc I=>by subst I;omega
 refine ah.mk λK C=>?_
 have no:stepOf s.prog f d=none->K (true,()) v:=λJ=>by
  refine C _ _ (ab.yes rfl (aD.mk w (A0 6) λk q r L=>Xz.mk bI.z (Bz q rfl) ?_));have:=u k (B k r);rw[J] at this;exact this
 refine ab.intro (λg=>no ?_) (λg=>?_)
 ·have g:f<0:=by simpa using g
  unfold stepOf;rw[if_neg (by omega)]
 have T:0<=f:=by simp at g;omega
 obtain⟨i,rfl⟩: ∃i:Nat,f=i:=⟨f.toNat,by omega⟩;refine AV.mk (s:=a) (AO o rfl) ?_;rw[p.len];refine ab.intro (λg=>no ?_) (λg=>?_)
 ·simp_all [stepOf,if_pos,A6,Mn]
 have M:i<s.prog.steps.length:=by simp at g;omega
 obtain⟨x,D⟩: ∃x,s.prog.steps[i]? =some x:=⟨_,A2 M⟩;have l:stepOf s.prog (i:Int) d=if x.kind=d then some x else none:=by simp_all [stepOf,if_pos,A6]
 refine AV.mk (s:=a) (AO o rfl) (p.idx D λU _ N=>?_);have k0:=N 0 _ rfl;rw[add_zero] at k0;refine AC.mk k0 ?_;by_cases n:x.kind=d
 ·rw[if_pos n] at l;have t:(x.kind != d)=false:=by simp[n]
  rw[t];refine C _ _ (ab.no rfl (AV.mk (s:=a) (AO o rfl) (p.idx D λV _ O=>Xz.mk x O (aD.mk w (A0 6) λk q r L=>Xz.mk x (Bz q rfl) ?_))));have:=u k (B k r);rw[l] at this;exact this
 ·rw[if_neg n] at l;have t:(x.kind != d)=true:=by simp[n]
  rw[t];exact no l
theorem ASJ {d:Jb}(r:View TF h a s.prog.steps)(t: ∀i,Ext h i->R (J6 J9 (Jq s.prog d)) i):AA A P RS #[(s.V a b c).v,d.v] h R:=by
 refine AFC ?_;unfold YG;refine ai.mk λD _ u v E=>ai.mk λw _ j k F=>?_
 have l:=v.trans k;refine A9.mk (s.V a b c) (FP (k.ag u λh=>h)) (AC.mk (n:=d.step) (AB j rfl) (step_ok (r.ext l) λG m=>j9.mk _ ⟨_,rfl,ai.mk λH _ y z I=>aD.mk y (A0 6) λo g B J=>?_⟩));rw[qj] at g;have p:Ext w o:=(m.trans z).more B λc C=>by subst C;exact m.size
 have:=t o (l.trans p);unfold Jq at this;cases q:stepOf s.prog d.step 1 with
 |none=>rw[q] at this;exact ab.yes rfl this
 |some x=>
  rw[q] at g this;refine ab.no rfl (Aa.mk (n:=d.aG) (AB (p.ag j λh=>h) rfl) (ab.intro (λf=>?_) (λf=>?_)))
  ·have f:d.aG=true:=f;dsimp only at this;rw[if_pos f] at this;exact AC.mk (n:=x.az) (AB g rfl) this
  ·have f:d.aG=false:=f;dsimp only at this;rw[if_neg (by simp[f])] at this;exact AC.mk (n:=x.tries) (AB g rfl) this
theorem AMI {sl:Sl}{l:List Jb}{i:Nat}(f:Own eT Hu h sl l)(hi:i<l.length)(g: ∀d,Own eT Hu d ⟨sl.p,l.length-1,sl.cap⟩ (l.eraseIdx i)->Mod (λb=>sl.ag=some b) h d->R (J4 sl.p (l.length-1) sl.cap) d):
  AA A P Dx #[J4 sl.p sl.len sl.cap,J6 J9 (i:Int),J6 J9 ((i+1:Nat):Int)] h R:=
 Jy (zX (E:=eT) (zv:=Jb.z.v) qp AXc (by decide) rfl f hi g)
theorem AMG {sl:Sl}{l:List Ck}{i:Nat}(f:Own fU Gl h sl l)(hi:i<l.length)(g: ∀d,Own fU Gl d ⟨sl.p,l.length-1,sl.cap⟩ (l.eraseIdx i)->Mod (λb=>sl.ag=some b) h d->R (J4 sl.p (l.length-1) sl.cap) d):
  AA A P Da #[J4 sl.p sl.len sl.cap,J6 J9 (i:Int),J6 J9 ((i+1:Nat):Int)] h R:=
 Ij (zX (E:=fU) (zv:=Ck.z.v) qs AXe (by decide) rfl f hi g)
theorem nz {h:aa}{b:Nat}{T:Q7}{x i:bz}{K:bz->aa->Prop}(j:h[b]? =some (J2 i.c T (0,0)))(k: ∀d,Mod (· =b) h d->K x d):
  aD h ⟨b,0,none⟩ x.l λf=>A9 f ⟨b,0,none⟩ λl=>K l f:=
 aD.mk j (A0 12) λd g m s=>A9.mk x (FP (by rw[OY] at g;exact g)) (k d m)
theorem AVc {s:aW}{f turn:Int}{i:Nat}(h:lU s f turn=some i): ∃d,s.aw[i]? =some d/\d.id=f/\d.turn=turn:=by
 unfold lU at h;obtain⟨g,j,_⟩:=List.findIdx?_eq_some_iff_getElem.1 h
 simp_all
theorem AUF(N:JQ h s a b c)(W:Own eT Hu h b s.aw)(F:s.aw.length<=1000)(a6:6<=e.kind/\e.kind<=9)(r:0<=e.turn/\e.turn<=1000)
  (X: ∀z (t:aW) (b':Sl),Mod (λx=>b.ag=some x\/h.size<=x) h z->(∀ x,b'.ag=some x->b.ag=some x\/h.size<=x)->(∀ t',Mj s e=some t'->t=t'/\View eT z b' t'.aw)->R (J1 #[(t.V a b' c).v,J3 (Mj s e).isSome]) z):AA A P Ti #[(s.V a b c).v,e.v] h R:=by
 refine AG0 ?_;unfold Zk;refine lB λar k=>AC.mk (k.bE (j:=1) rfl) ?_
 have Y:=k.ext;have a7:=Y.size;have a8:=Ai k.b2;have Z: ∀x,b.ag=some x->x<h.size:=λx f=>W.lt f
 have O:Mj s e=none-> ∀ {l:aa},Ext ar l->A9 l ⟨h.size,0,none⟩ λt=>aD l ⟨h.size+2,0,none⟩ t.l λG=>A9 G ⟨h.size+2,0,none⟩ λac=>R (J1 #[ac.v,J3 false]) G:=λau l x=>by
  refine(k.on x).ret λz x'=>?_
  have:=X z s b x'.mod (λa9 aK=> .inl aK) (λt' r=>by rw[au] at r;cases r);rw[au] at this;exact this
 refine ab.intro (λB=>?_) (λB=>?_)
 ·have B:e.kind=6:=by simpa using B
  refine k.eI (AC.mk (k.bE (j:=4) rfl) (step_ok (N.steps.ext Y) λaL D=>j9.mk _ ⟨_,rfl,ai.mk λQ _ aM af ba=>aD.mk aM (A0 6) λy ag C aN=>?_⟩));rw[qj] at ag;have S:Ext ar y:=(D.trans af).more C λc d=>by subst d;exact D.size
  have u:=k.on S;refine ah.mk λK av=>?_
  cases ax:stepOf s.prog e.step 1 with
  |none=>exact ab.yes rfl (av _ _ (ab.yes rfl (O (by unfold Mj;rw[if_pos B,ax];rfl) S)))
  |some x=>
   rw[ax] at ag;have key: ∀w:Bool,(w=true↔e.aG=true/\x.aG=IQ)->K (w,()) y:=λw aj=>by
    refine av _ _ (ab.intro (λo=>O ?_ S) (λo=>?_))
    ·unfold Mj;simp_all
    have o:w=false:=o;have g:Mj s e=some {s with aw:=s.aw++ [⟨e.id,e.step,e.aG,1⟩]}:=by unfold Mj;simp_all
    refine AV.mk (s:=b) (u.cE (j:=8) rfl) (AC.mk (u.bE (j:=0) rfl) (AC.mk (u.bE (j:=4) rfl) (Aa.mk (u.bE (j:=6) rfl) ?_)));refine ai.aV (E:=eT) (x:=⟨e.id,e.step,e.aG,1⟩) (s:=b) rfl qp (W.ext u.ext) (by omega) (by simp only[maxLen];omega) λb' p aO H aP bb=>?_
    have bc:=S.size;have ne: ∀ay,b.ag=some (h.size+ay)->False:=λay f=>by have:=Z _ f;omega
    refine ae.bE (dm:=(({s with aw:=s.aw++ [⟨e.id,e.step,e.aG,1⟩]}:aW).V a b' c).c) (H.ag u.b0 (ne 0)) (of_decide_eq_true rfl) rfl λI ak T aQ=>?_
    refine A9.mk (({s with aw:=s.aw++ [⟨e.id,e.step,e.aG,1⟩]}:aW).V a b' c) (FP ak) (nz (T.ag (H.ag u.b2 (ne 2)) (by omega)) λaz aR=>?_);have aS: ∀x,b'.ag=some x->b.ag=some x\/h.size<=x:=λx f=>(aP x f).imp id λh=>by omega
    have aA:Mod (λc=>c=h.size\/c=h.size+2) p az:=(T.ak λc _ d=> .inl d).trans (aR.ak λc _ d=> .inr d);have q:=X az {s with aw:=s.aw++ [⟨e.id,e.step,e.aG,1⟩]} b' ((u.ext.mod.trans (H.ak λc _ d=> .inl d)).trans (aA.ak λc _ d=> .inr (by omega))) aS (λt' r=>?_)
    ·rw[g] at q;exact q
    ·rw[g] at r;cases r;refine⟨rfl,(aO.mod aA λx f d=>?_).view⟩
     grind
   refine ab.no rfl (Aa.mk (u.bE (j:=6) rfl) (ab.intro (λJ=>?_) (λJ=>?_)))
   ·have J:e.aG=true:=J;refine AL.mk (n:=x.aG) (AB ag rfl) (key _ ?_);rw[oV,decide_eq_true_eq]
    grind
   ·have J:e.aG=false:=J;exact key _ ⟨(λh=>by cases h),λh=>(by grind)⟩
 have B:e.kind≠6:=by simpa using B
 refine k.eI (k.jZ (AWO (N.aw.ext Y) (by omega) λaL D=>⟨_,rfl,?_⟩));cases aC:lU s e.ref e.turn with
 |none=>exact ab.yes rfl (O (by unfold Mj;rw[if_neg B,aC];rfl) D)
 |some i=>
  obtain⟨j,L,bd,be⟩:=AVc aC;have aT:=(List.getElem?_eq_some_iff.1 L).1;have M:=k.on D;show ab (decide ((i:Int)<0)) _ _;refine ab.no (decide_eq_false (by omega)) ?_;have g:Mj s e=if e.kind=8 then(if e.turn=Jq s.prog j then none else some {s with aw:=s.aw.set i {j with turn:=j.turn+1}}) else if e.kind=7\/e.turn=Jq s.prog j then some {s with aw:=s.aw.eraseIdx i,fresh:=true} else none:=by
   unfold Mj
   simp_all
  refine AC.mk (M.bE (j:=5) rfl) (M.eI (AV.mk (s:=b) (M.cE (j:=8) rfl) ?_));refine(N.aw.ext M.ext).idx L λbf _ aU=>kN.mk j aU ?_
  refine ASJ (N.steps.ext M.ext) λQ af=>⟨_,rfl,?_⟩
  have al:=D.trans af;have m:=k.on al;have bg:=al.size;have U:=W.ext m.ext;refine⟨m.bE (j:=5) rfl,ah.mk λaV aE=>?_⟩;have yes: ∀ {l:aa} {t:aW} {b':Sl} {S':Nat->Prop},Mj s e=some t->Own eT Hu l b' t.aw->Mod (λx=>b.ag=some x\/x=h.size) Q l->l[h.size]? =some (J2 (t.V a b' c).c Au (0,0))->b'.p=b.p->
    A9 l ⟨h.size,0,none⟩ λt=>aD l ⟨h.size+2,0,none⟩ t.l λG=>A9 G ⟨h.size+2,0,none⟩ λac=>R (J1 #[ac.v,J3 true]) G:=λ{l t b' S'} g aX aF aY bh=>by
   have aZ: ∀x,b'.ag=some x->b.ag=some x:=λx f=>by grind [Sl.ag]
   refine A9.mk (t.V a b' c) (FP aY) (nz (aF.ag m.b2 λd=>by
    grind) λz aG=>?_)
   have q:=X z t b' ((m.ext.mod.trans (aF.ak λc _ d=>d.imp id λh=>by omega)).trans (aG.ak λc _ d=> .inr (by omega))) (λx f=> .inl (aZ x f)) (λt' r=>?_)
   ·rw[g] at q;exact q
   ·rw[g] at r;cases r;exact⟨rfl,(aX.mod aG λx f d=>by grind).view⟩
  have aH: ¬b.ag=some h.size:=λf=>by have:=Z _ f;omega
  have aI:(Mj s e=if e.kind=7\/(e.kind=9/\e.turn=Jq s.prog j) then some {s with aw:=s.aw.eraseIdx i,fresh:=true} else none)->aV (false,()) Q:=λV=>by
   refine aE _ _ (ab.no rfl (ah.mk λa0 a1=>?_));have am: ∀w:Bool,(w=true↔e.kind=7\/(e.kind=9/\e.turn=Jq s.prog j))->a0 (w,()) Q:=λw aj=>by
    refine a1 _ _ (ab.intro (λo=>?_) (λo=>O ?_ al))
    ·rw[if_pos (aj.1 o)] at V;refine AV.mk (s:=b) (m.cE (j:=8) rfl) ?_;show AA A P _ #[_,J6 J9 (i:Int),J6 J9 (J8 J9 ((i:Int)+1))] _ _;rw[Ac (by omega)];refine AMI U aT λy an C=>⟨⟨b.p,s.aw.length-1,b.cap⟩,rfl,?_⟩
     refine ae.bE (dm:=(({s with aw:=s.aw.eraseIdx i}:aW).V a ⟨b.p,s.aw.length-1,b.cap⟩ c).c) (C.ag m.b0 aH) (of_decide_eq_true rfl) rfl λp a2 H bi=>?_
     refine ae.bE (dm:=(({s with aw:=s.aw.eraseIdx i,fresh:=true}:aW).V a ⟨b.p,s.aw.length-1,b.cap⟩ c).c) a2 (of_decide_eq_true rfl) rfl λI ak T aQ=>?_
     have aJ:=H.trans T;exact yes (t:= {s with aw:=s.aw.eraseIdx i,fresh:=true}) (b':=⟨b.p,s.aw.length-1,b.cap⟩) (S':=λ_=>True) V (an.mod aJ λx f d=>by have:=Z x f;omega) ((C.ak λc _ d=> .inl d).trans (aJ.ak λc _ d=> .inr d)) ak rfl
    ·have o:w=false:=o;rw[if_neg λh=>by rw[aj.2 h] at o;cases o] at V;exact V
   refine AC.mk (m.bE (j:=1) rfl) (ab.intro (λy=>?_) (λy=>?_))
   ·have ao:e.kind=7:=by simpa using y
    exact am _ (by simp[ao])
   ·have ao:e.kind≠7:=by simpa using y
    refine AC.mk (m.bE (j:=1) rfl) (ab.intro (λI=>?_) (λI=>?_))
    ·have ap:e.kind=9:=by simpa using I
     exact am _ (by simp[ap])
    ·have ap:e.kind≠9:=by simpa using I
     exact am _ (by simp[ao,ap])
  refine AC.mk (m.bE (j:=1) rfl) (ab.intro (λp=>?_) (λp=>?_))
  ·have p:e.kind=8:=by simpa using p
   rw[if_pos p] at g;by_cases F:e.turn=Jq s.prog j
   ·rw[if_pos F] at g;have aq:(!(e.turn==Jq s.prog j))=false:=by simp[F]
    rw[aq];exact aI (by rw[g,if_neg (by omega)])
   ·rw[if_neg F] at g;have aq:(!(e.turn==Jq s.prog j))=true:=by simp[F]
    rw[aq];refine aE _ _ (ab.yes rfl (AV.mk (s:=b) (m.cE (j:=8) rfl) (U.view.idx L λbj _ a3=>AC.mk (n:=j.turn) (a3 3 _ rfl) (U.view.idx L λa4 a5 _=>?_))));rw[wrap_i64 (by omega) (by omega)];refine Own.store (E:=eT) (i:=i) (j:=3) (x:=j) (x':= {j with turn:=j.turn+1}) (v:=J6 J9 (j.turn+1)) U L rfl (by decide) (λy an C aN=>?_) a4 a5;exact yes (t:= {s with aw:=s.aw.set i {j with turn:=j.turn+1}}) (b':=b) (S':=λ_=>True) g an (C.ak λc _ d=> .inl d) (C.ag m.b0 aH) rfl
  ·have p:e.kind≠8:=by simpa using p
   rw[if_neg p] at g;refine aI ?_;rw[g];have:(e.kind=7\/e.turn=Jq s.prog j)↔(e.kind=7\/e.kind=9/\e.turn=Jq s.prog j):=by omega
   simp only[this]
theorem AS8(ac:JQ h s a b c)(M:Own fU Gl h c s.aq)(aJ:s.aq.length<=1000)(aK:e.kind=10\/e.kind=11)(k:0<=e.tick/\e.tick<=1099511627776)(ao: ∀x,stepOf s.prog e.step 2=some x->0<=x.wait/\x.wait<=1099511627776)
  (N: ∀w (t:aW) (o:Sl),Mod (λx=>c.ag=some x\/h.size<=x) h w->(∀ x,o.ag=some x->c.ag=some x\/h.size<=x)->(∀ t',Kq s e=some t'->t=t'/\View fU w o t'.aq)->R (J1 #[(t.V a b o).v,J3 (Kq s e).isSome]) w):AA A P Rl #[(s.V a b c).v,e.v] h R:=by
 refine AEk ?_;unfold Xl;refine lB λO f=>AC.mk (f.bE (j:=1) rfl) ?_
 have Q:=f.ext;have aL:=Q.size;have aM:=Ai f.b2;have af: ∀x,c.ag=some x->x<h.size:=λx g=>M.lt g
 have ag:Kq s e=none-> ∀ {y:aa},Ext O y->A9 y ⟨h.size,0,none⟩ λt=>aD y ⟨h.size+2,0,none⟩ t.l λaj=>A9 aj ⟨h.size+2,0,none⟩ λap=>R (J1 #[ap.v,J3 false]) aj:=λak y x=>by
  refine(f.on x).ret λw ar=>?_
  have:=N w s c ar.mod (λaN au=> .inl au) (λt' k=>by rw[ak] at k;cases k);rw[ak] at this;exact this
 have H: ∀r,c.ag=some (h.size+r)->False:=λr g=>by have:=af _ g;omega
 refine ab.intro (λl=>?_) (λl=>?_)
 ·have l:e.kind=10:=by simpa using l
  refine f.eI (AC.mk (f.bE (j:=4) rfl) (step_ok (ac.steps.ext Q) λS m=>j9.mk _ ⟨_,rfl,ai.mk λaO _ I av aP=>aD.mk I (A0 6) λT U z aQ=>?_⟩));rw[qj] at U;have V:Ext O T:=(m.trans av).more z λc d=>by subst d;exact m.size
  have u:=f.on V;cases J:stepOf s.prog e.step 2 with
  |none=>
   refine ah.mk λK W=>?_
   exact ab.no rfl (W _ _ (ag (by unfold Kq;rw[if_pos l,J];rfl) V))
  |some x=>
   refine ah.mk λK W=>?_
   rw[J] at U;obtain⟨aR,aS⟩:=ao x J;have B:Kq s e=some {s with aq:=s.aq++ [⟨e.id,e.step,e.tick+x.wait⟩]}:=by unfold Kq;rw[if_pos l,J];rfl
   refine ab.yes rfl (AV.mk (s:=c) (u.cE (j:=9) rfl) (AC.mk (u.bE (j:=0) rfl) (AC.mk (u.bE (j:=4) rfl) (AC.mk (u.bE (j:=2) rfl) (AC.mk (n:=x.wait) (AB U rfl) ?_)))));rw[wrap_i64 (by omega) (by omega)];refine ai.aV (E:=fU) (x:=⟨e.id,e.step,e.tick+x.wait⟩) (s:=c) rfl qs (M.ext u.ext) (by omega) (by simp only[maxLen];omega) λo al aw C ax aT=>?_
   have aU:=V.size;refine ae.bE (dm:=(({s with aq:=s.aq++ [⟨e.id,e.step,e.tick+x.wait⟩]}:aW).V a b o).c) (C.ag u.b0 (H 0)) (of_decide_eq_true rfl) rfl λay X L az=>?_
   refine W _ _ (A9.mk (({s with aq:=s.aq++ [⟨e.id,e.step,e.tick+x.wait⟩]}:aW).V a b o) (FP X) (nz (L.ag (C.ag u.b2 (H 2)) (by omega)) λD Y=>?_));have aA: ∀x,o.ag=some x->c.ag=some x\/h.size<=x:=λx g=>(ax x g).imp id λh=>by omega
   have F:Mod (λc=>c=h.size\/c=h.size+2) al D:=(L.ak λc _ d=> .inl d).trans (Y.ak λc _ d=> .inr d);have q:=N D {s with aq:=s.aq++ [⟨e.id,e.step,e.tick+x.wait⟩]} o ((u.ext.mod.trans (C.ak λc _ d=> .inl d)).trans (F.ak λc _ d=> .inr (by omega))) aA (λt' k=>?_)
   ·rw[B] at q;exact q
   ·rw[B] at k;cases k;refine⟨rfl,(aw.mod F λx g d=>?_).view⟩
    grind
 have l:e.kind≠10:=by simpa using l
 have aC:O[h.size+1]? =some (J2 e.c A8 (0,0)):=f.b1;refine AV.mk (s:=c) (f.cE (j:=9) rfl) (AUX (p:=λr=>decide (r.id=e.ref)&&decide (r.tick<=e.tick)) (ac.aq.ext Q) (by omega) (λx y aV aE aF=>?_) λS m=>⟨_,rfl,?_⟩)
 ·refine EM.func (first:= #[]) (bM:= #[Ap (h.size+1)]) (by kernel_rfl) (ABo ?_);unfold Ud;refine ai.mk λS _ am m aX=>?_
  have I:=(aE.trans m).ag aC λh=>h
  have:=aF S m;refine AC.mk (n:=x.id) (AO am rfl) (AC.mk (n:=e.ref) (AB I rfl) (ab.intro (λv=>?_) (λv=>?_)))
  ·have v:x.id=e.ref:=by simpa using v
   rw[decide_eq_true v,Ek] at this;exact AC.mk (n:=e.tick) (AB I rfl) (AC.mk (n:=x.tick) (AB am rfl) this)
  ·have v:x.id≠e.ref:=by simpa using v
   rw[decide_eq_false v,Ft] at this;exact this
 cases Z:(s.aq.findIdx? λr=>decide (r.id=e.ref)&&decide (r.tick<=e.tick)) with
 |none=>exact ab.yes rfl (ag (by unfold Kq;rw[if_neg l,Z];rfl) m)
 |some i=>
  have aG:i<s.aq.length:=(List.findIdx?_eq_some_iff_getElem.1 Z).1;have B:Kq s e=some {s with aq:=s.aq.eraseIdx i,fresh:=true}:=by unfold Kq;rw[if_neg l,Z];rfl
  have G:=f.on m;have aY:=m.size;show ab (decide ((i:Int)<0)) _ _;refine ab.no (decide_eq_false (by omega)) (AV.mk (s:=c) (G.cE (j:=9) rfl) ?_);show AA A P _ #[_,J6 J9 (i:Int),J6 J9 (J8 J9 ((i:Int)+1))] _ _;rw[Ac (by omega)];refine AMG (M.ext G.ext) aG λT aH z=>⟨⟨c.p,s.aq.length-1,c.cap⟩,rfl,?_⟩
  refine ae.bE (dm:=(({s with aq:=s.aq.eraseIdx i}:aW).V a b ⟨c.p,s.aq.length-1,c.cap⟩).c) (z.ag G.b0 (H 0)) (of_decide_eq_true rfl) rfl λal aI C aZ=>?_
  refine ae.bE (dm:=(({s with aq:=s.aq.eraseIdx i,fresh:=true}:aW).V a b ⟨c.p,s.aq.length-1,c.cap⟩).c) aI (of_decide_eq_true rfl) rfl λay X L az=>?_
  have an:=C.trans L;refine A9.mk (({s with aq:=s.aq.eraseIdx i,fresh:=true}:aW).V a b ⟨c.p,s.aq.length-1,c.cap⟩) (FP X) (nz (an.ag (z.ag G.b2 (H 2)) (by omega)) λD Y=>?_);have F:Mod (λc=>c=h.size\/c=h.size+2) T D:=(an.ak λc _ d=> .inl d).trans (Y.ak λc _ d=> .inr d);have q:=N D {s with aq:=s.aq.eraseIdx i,fresh:=true} ⟨c.p,s.aq.length-1,c.cap⟩ ((G.ext.mod.trans (z.ak λc _ d=> .inl d)).trans (F.ak λc _ d=> .inr (by omega))) (λx g=> .inl g) (λt' k=>?_)
  ·rw[B] at q;exact q
  ·rw[B] at k;cases k;exact⟨rfl,(aH.mod F λx g d=>by have:=af x g;omega).view⟩
end
theorem WZ {A:ao}{m:Type}{E:cr m}{t T:Q7}{n:Nat}(w:Rj P t T E.w n=true){h:aa}{s:Sl}{l:List m}{R:A2X}(v:View E h s l)(y:l.length*n<=140737488355328)(z:l.length<=maxLen)
  (o: ∀d i,Own E T i d l->(∀ c,d.ag=some c->h.size<=c)->Ext h i->R (J4 d.p d.len d.cap) i):
  ab (s.p.isNone) (R (J4 none 0 0) h) (ai h (J2 #[] T) λb j=>Ad A P (Builtin.append_ #[t,t] t #[J4 (some (⟨b,0,none⟩:Q6)) 0 0,J4 s.p s.len s.cap]) j λv k=> ∃f:Sl,v=J4 f.p f.len f.cap/\R (J4 f.p f.len f.cap) k):=by
 refine ab.intro (λp=>?_) (λp=>?_)
 ·have B:s.p=none:=by simpa using p
  have:l= []:=by
   cases l with
   |nil=>rfl
   |cons x l=>
    obtain⟨a,q,_⟩:=v.cells 0 x rfl;rw[B] at q;cases q
  subst this;exact o ⟨none,0,0⟩ h Own.nil (λc g=>by simp[Sl.ag] at g) Mod.refl
 ·refine ai.mk λj _ C r I=>?_
  have D:Own E T j ⟨some ⟨h.size,0,none⟩,0,0⟩ []:=Own.lit (E:=E) (l:= []) C rfl (by simp[maxLen]);refine IZ (s:=⟨some ⟨h.size,0,none⟩,0,0⟩) w D (v.ext r) (by simpa using y) (by simpa using z) λd k F G H _=>o d k F (λc g=>?_) (r.more G λc g=>?_)
  ·rcases H c g with u|u
   ·have e:h.size=c:=by simpa [Sl.ag] using u
    omega
   ·omega
  ·have e:h.size=c:=by simpa [Sl.ag] using g
   omega
section
variable {A : ao} {h : aa} {R : A2X} {s : aW} {e : Ev} {a b c : Sl}
theorem AOw {x:Sl}{l:List Jb}(v:View eT h x l)(i:l.length<=1000)(g: ∀d f,Own eT Hu f d l->(∀ c,d.ag=some c->h.size<=c)->Ext h f->R (J4 d.p d.len d.cap) f):AA A P EH #[J4 x.p x.len x.cap] h R:=by refine KG ?_;unfold F6;exact WZ qp v (by omega) (by simp only[maxLen];omega) g
theorem AQN {x:Sl}{l:List Ck}(v:View fU h x l)(i:l.length<=1000)(g: ∀d f,Own fU Gl f d l->(∀ c,d.ag=some c->h.size<=c)->Ext h f->R (J4 d.p d.len d.cap) f):AA A P Df #[J4 x.p x.len x.cap] h R:=by refine I9 ?_;unfold FH;exact WZ qs v (by omega) (by simp only[maxLen];omega) g
theorem APo {x:Sl}{l:List bI}(v:View TF h x l)(i:l.length<=1000)(g: ∀d f,Own TF CG f d l->(∀ c,d.ag=some c->h.size<=c)->Ext h f->R (J4 d.p d.len d.cap) f):AA A P Du #[J4 x.p x.len x.cap] h R:=by refine Ja ?_;unfold Fe;exact WZ AOf v (by omega) (by simp only[maxLen];omega) g
structure iT (h:aa) (n:Nat) (t:aW) (a b c:Sl) (b' c':Sl):Prop where
 at':JQ h t a b' c'
 fb: ∀x,b'.ag=some x->b.ag=some x\/n<=x
 fc: ∀x,c'.ag=some x->c.ag=some x\/n<=x
theorem nA {x:Nat}{P:Prop}(h:(⟨none,0,0⟩:Sl).ag=some x):P:=by simp[Sl.ag] at h
theorem APl(k:JQ h s a b c)(ac:e.kind=1\/12<=e.kind)(U:e.kind=14->0<=s.aO+s.prog.au/\s.aO+s.prog.au<=9223372036854775807)
  (Q: ∀f (t:aW) (m n:Sl),Ext h f->(∀ t',LM s e=some t'->t=t'/\iT f h.size t' a b c m n)->R (J1 #[(t.V a m n).v,J3 (LM s e).isSome]) f):AA A P Tw #[(s.V a b c).v,e.v] h R:=by
 refine AGa ?_;unfold ZO;refine lB λL d=>AC.mk (d.bE (j:=1) rfl) (ah.mk λK V=>?_)
 have yes: ∀ {t:aW} {hh:aa} {m n:Sl},(∀ x,m.ag=some x->b.ag=some x\/h.size<=x)->(∀ x,n.ag=some x->c.ag=some x\/h.size<=x)->JQ h t a m n->LM s e=some t-> ∀f,Ext h f->R (J1 #[(t.V a m n).v,J3 true]) f:=λ{t hh m n} W X M v f x=>by
  have:=Q f t m n x (λt' E=>by rw[v] at E;cases E;exact⟨rfl,⟨M.ext x,W,X⟩⟩);rw[v] at this;exact this
 have N: ∀ {t:aW} {hh:aa},D3 h hh Au A8 Au (t.V a b c) e bz.z->JQ h t a b c->LM s e=some t->K () hh:=λ{t hh} d M v=>
  V _ _ (d.ret λf x=>yes (hh:=hh) (λ_ h=> .inl h) (λ_ h=> .inl h) M v f x)
 have no: ∀(t:aW) (m n:Sl),LM s e=none-> ∀f,Ext h f->R (J1 #[(t.V a m n).v,J3 false]) f:=λt m n v f x=>by
  have:=Q f t m n x (λt' E=>by rw[v] at E;cases E);rw[v] at this;exact this
 have S: ∀r,JQ h (hF s r) a ⟨none,0,0⟩ ⟨none,0,0⟩:=λr=>⟨k.steps,View.nil,View.nil⟩
 refine ab.intro (λg=>?_) (λg=>?_)
 ·have g:e.kind=12:=by simpa using g
  refine d.set (x':=({s with fresh:=true}:aW).V a b c) (by decide) rfl λC F=>N F ⟨k.steps,k.aw,k.aq⟩ ?_
  unfold LM;rw[if_pos g]
 have g:e.kind≠12:=by simpa using g
 refine ab.intro (λi=>?_) (λi=>?_)
 ·have i:e.kind=13:=by simpa using i
  refine Aa.mk (d.cE (j:=10) rfl) (ab.intro (λw=>?_) (λw=>?_))
  ·have w:s.cancel=true:=w;refine d.ret (no s b c ?_);unfold LM;rw[if_neg g,if_pos i,if_pos w]
  ·have w:s.cancel=false:=w;refine d.set (x':=({s with cancel:=true}:aW).V a b c) (by decide) rfl λC F=>F.set (x':=({s with cancel:=true,fresh:=true}:aW).V a b c) (by decide) rfl λH O=>N O ⟨k.steps,k.aw,k.aq⟩ ?_
   unfold LM;rw[if_neg g,if_pos i,if_neg (by simp[w])]
 have i:e.kind≠13:=by simpa using i
 refine ab.intro (λl=>?_) (λl=>?_)
 ·have l:e.kind=14:=by simpa using l
  obtain⟨ae,af⟩:=U l;refine ah.mk λY Z=>?_
  have key: ∀(I:Bool),(I=true↔s.aL=true\/s.prog.au=0\/e.tick<s.aO+s.prog.au)->Y (I,()) L:=λI T=>by
   refine Z _ _ (ab.intro (λD=>?_) (λD=>?_))
   ·refine d.ret (no s b c ?_);unfold LM;rw[if_neg g,if_neg i,if_pos l,if_pos (T.1 D)]
   ·have D:I=false:=D;refine d.set (x':=({s with aL:=true}:aW).V a b c) (by decide) rfl λC F=>F.set (x':=({s with aL:=true,fresh:=true}:aW).V a b c) (by decide) rfl λH O=>N O ⟨k.steps,k.aw,k.aq⟩ ?_
    unfold LM;rw[if_neg g,if_neg i,if_pos l,if_neg λh=>by rw[T.2 h] at D;cases D]
  refine Aa.mk (d.cE (j:=11) rfl) (ab.intro (λy=>?_) (λy=>?_))
  ·have y:s.aL=true:=y;exact key _ (by simp[y])
  have y:s.aL=false:=y;refine AC.mk (d.cE (j:=1) rfl) (ab.intro (λz=>?_) (λz=>?_))
  ·have z:s.prog.au=0:=by simpa using z
   exact key _ (by simp[z])
  have z:s.prog.au≠0:=by simpa using z
  refine AC.mk (d.bE (j:=2) rfl) (AC.mk (d.cE (j:=4) rfl) (AC.mk (d.cE (j:=1) rfl) (key _ ?_)));dsimp only;rw[wrap_i64 (by omega) (by omega)];simp[y,z]
 have l:e.kind≠14:=by simpa using l
 refine ab.intro (λo=>?_) (λo=>?_)
 ·have o:e.kind=18:=by simpa using o
  refine d.eI (ZJ λC p=>GV.mk _ ⟨rfl,(d.on p).tell λf x=>yes (hh:=L) (λ_ h=>nA h) (λ_ h=>nA h) (S 4) ?_ f x⟩);unfold LM;rw[if_neg g,if_neg i,if_neg l,if_pos o]
 have o:e.kind≠18:=by simpa using o
 have fin: ∀(r:Int),(LM s e=if QP s then some (hF s r) else none)-> ∀f,Ext h f->R (J1 #[((hF s r).V a ⟨none,0,0⟩ ⟨none,0,0⟩).v,J3 (decide (QP s))]) f:=λr J f x=>by
  by_cases hi:QP s
  ·rw[if_pos hi] at J;rw[decide_eq_true hi];exact yes (hh:=L) (λ_ h=>nA h) (λ_ h=>nA h) (S r) J f x
  ·rw[if_neg hi] at J;rw[decide_eq_false hi];exact no (hF s r) ⟨none,0,0⟩ ⟨none,0,0⟩ J f x
 refine ab.intro (λq=>?_) (λq=>?_)
 ·have q:e.kind=15:=by simpa using q
  refine d.eI (d.eI (ZJ λC p=>GV.mk _ ⟨rfl,(d.on p).ji,qk k.aw.len λH G=>⟨_,rfl,((d.on p).on G).tell (fin 1 ?_)⟩⟩));unfold LM;rw[if_neg g,if_neg i,if_neg l,if_neg o,if_pos q]
 have q:e.kind≠15:=by simpa using q
 refine ab.intro (λu=>?_) (λu=>?_)
 ·have u:e.kind=16:=by simpa using u
  refine d.eI (d.eI (ZJ λC p=>GV.mk _ ⟨rfl,(d.on p).ji,qk k.aw.len λH G=>⟨_,rfl,((d.on p).on G).tell (fin 2 ?_)⟩⟩));unfold LM;rw[if_neg g,if_neg i,if_neg l,if_neg o,if_neg q,if_pos u]
 have u:e.kind≠16:=by simpa using u
 refine ab.intro (λB=>?_) (λB=>?_)
 ·have B:e.kind=17:=by simpa using B
  refine d.eI (d.eI (ZJ λC p=>GV.mk _ ⟨rfl,(d.on p).ji,qk k.aw.len λH G=>⟨_,rfl,((d.on p).on G).tell (fin 3 ?_)⟩⟩));unfold LM;rw[if_neg g,if_neg i,if_neg l,if_neg o,if_neg q,if_neg u,if_pos B]
 have B:e.kind≠17:=by simpa using B
 refine d.ret (no s b c ?_);unfold LM;rw[if_neg g,if_neg i,if_neg l,if_neg o,if_neg q,if_neg u,if_neg B]
theorem AP3 {e:Ev}(h:Er e=true):0<=e.turn/\e.turn<=5:=by
 have d:=NB h;unfold Eu at d;simp only[A3] at d;have:=d.1.1.2;unfold cQ at this;split at this
 ·have:=Ba.1 this;omega
 ·have:=of_decide_eq_true this;omega
theorem AMB {p:bL}{f g:Int}{x:bI}(h:stepOf p f g=some x):x∈p.steps:=by
 unfold stepOf at h;split at h
 ·obtain⟨j,i,d⟩:=Option.bind_eq_some_iff.1 h;split at d
  ·cases d;exact AG i
  ·cases d
 ·cases h
theorem qv {n:Nat}(aL:JQ h s a b c)(L:DI s n)(bO:n<=600)(hd:e.data.size<1099511627776)
  (aM: ∀N y k l,Ext h N->JQ N (Bh s e).2 y k l->(∀ x,y.ag=some x\/k.ag=some x\/l.ag=some x->h.size<=x)->R (J1 #[((Bh s e).2.V y k l).v,J6 J9 (Bh s e).1]) N):AA A P KR #[(s.V a b c).v,e.v] h R:=by
 refine AF1 ?_;unfold YK;refine lB λbP am=>am.jZ (sJ hd λa2 bn=>⟨_,rfl,?_⟩)
 have q:=am.on bn;have bo: ∀x,(⟨none,0,0⟩:Sl).ag=some x\/(⟨none,0,0⟩:Sl).ag=some x\/(⟨none,0,0⟩:Sl).ag=some x->h.size<=x:=λx d=>by simp[Sl.ag] at d
 have aq: ∀(n:Int),Bh s e=(n,TM)-> ∀N,Ext h N->R (J1 #[bz.z.v,J6 J9 n]) N:=λn a3 N x=>by
  have:=aM N ⟨none,0,0⟩ ⟨none,0,0⟩ ⟨none,0,0⟩ x (by rw[a3];exact⟨View.nil,View.nil,View.nil⟩) bo;rw[a3] at this;exact this
 refine ab.intro (λD=>?_) (λD=>?_)
 ·have I:Er e=false:=by
   cases E:Er e with
   |false=>rfl
   |true=>rw[E] at D;simp at D
  exact q.tell (aq 120 (by unfold Bh;rw[if_pos I]))
 have I:Er e=true:=by
  cases E:Er e with
  |true=>rfl
  |false=>rw[E] at D;simp at D
 obtain⟨bQ,bR,bp,bq,_⟩:=TW I;refine AC.mk (q.cE (j:=3) rfl) (ab.intro (λF=>?_) (λF=>?_))
 ·have F:s.next=0:=by simpa using F
  refine ah.mk λK br=>?_
  have key: ∀aA:Bool,(aA=true↔ ¬(e.kind=1/\e.id=1))->K (aA,()) a2:=λaA a4=>by
   refine br _ _ (ab.intro (λD=>?_) (λD=>?_))
   ·exact q.tell (aq 120 (by unfold Bh;rw[if_neg (by simp[I]),if_pos F,if_neg (a4.1 D)]))
   ·have D:aA=false:=D;have m:e.kind=1/\e.id=1:=Decidable.byContradiction λh=>by rw[a4.2 h] at D;cases D
    obtain⟨p,aN,bS⟩:=bq m.1;refine AL.mk (q.bE (j:=7) rfl) (ACD hd λaC sl aE aO=>?_);obtain⟨aO,a5⟩:=aO p aN;rw[aN];refine⟨sl,p.au,0,rfl,?_⟩;have U:=q.on aE;refine ai.mk λaP _ bs V bt=>?_
    have a6:=U.on V;have bT:=U.b2;refine ae.two bs λa7 a8 W bu=>?_
    have a9:Ext aC a7:=V.more W λc g=>by subst g;exact A0 _
    have an:=U.on a9;refine AV.mk (s:=sl) (AO a8 rfl) (AC.mk (AB a8 rfl) (AC.mk (an.bE (j:=2) rfl) (an.iI λba O bv=>?_)));have ar:Bh s e=(0,Yt e):=by unfold Bh;rw[if_neg (by simp[I]),if_pos F,if_pos m]
    have bb:Yt e=⟨p,0,2,e.tick,0,0,true,[],[],false,false⟩:=by unfold Yt;rw[aN];rfl
    have bU:=q.ext.size;have:=aM ba sl ⟨none,0,0⟩ ⟨none,0,0⟩ O (by rw[ar,bb];exact⟨(aO.ext a9).mod bv (λc g i=>by have:=a5 c g;have:=Ai q.b2;omega),View.nil,View.nil⟩) (λx d=>by
     rcases d with d|d|d
     ·have:=a5 x d;omega
     ·simp[Sl.ag] at d
     ·simp[Sl.ag] at d)
    rw[ar,bb] at this;exact this
  refine AC.mk (q.bE (j:=1) rfl) (ab.intro (λm=>key _ (by simp at m;simp[m])) (λm=>AC.mk (q.bE (j:=0) rfl) (key _ (by simp at m;simp[m]))))
 have F:s.next≠0:=by simpa using F
 refine AC.mk (q.cE (j:=2) rfl) (ab.intro (λm=>?_) (λm=>?_))
 ·have m:s.status≠0:=by simpa using m
  exact q.tell (aq 182 (by unfold Bh;rw[if_neg (by simp[I]),if_neg F,if_pos m]))
 have m:s.status=0:=by simpa using m
 refine AC.mk (q.bE (j:=0) rfl) (AC.mk (q.cE (j:=3) rfl) (ab.intro (λQ=>?_) (λQ=>?_)))
 ·have Q:e.id≠s.next:=by simpa using Q
  exact q.tell (aq 120 (by unfold Bh;rw[if_neg (by simp[I]),if_neg F,if_neg (by simp[m]),if_pos Q]))
 have Q:e.id=s.next:=by simpa using Q
 refine AV.mk (s:=b) (q.cE (j:=8) rfl) (AV.mk (s:=c) (q.cE (j:=9) rfl) (AOw ((aL.ext q.ext).aw) (by have:=L.aw;omega) λk aC aQ X aE=>⟨_,rfl,?_⟩));have U:=q.on aE;refine⟨U.cE (j:=9) rfl,AQN ((aL.ext U.ext).aq) (by have:=L.aq;omega) λl aP aR Y V=>⟨_,rfl,?_⟩⟩;have a6:=U.on V;have bV:=Ai q.b2;have bW:=aE.size;have bt:=V.size;refine a6.hZ (x':=s.V a k c) (by decide) rfl λbX bw au=>bw.hZ (x':=s.V a k l) (by decide) rfl λa7 an W=>?_
 have bY:=au.size;have bu:=W.size;refine AV.mk (s:=a) (an.cE (j:=0) rfl) (APo ((aL.ext an.ext).steps) (by have:=L.steps;omega) λy ba bc bd O=>⟨_,rfl,?_⟩);have bx:=an.on O;refine bx.pn (x':=s.V y k l) rfl λz r Z=>AC.mk (r.bE (j:=1) rfl) ?_
 have S:JQ z s y k l:=by have av:=(((aQ.view.ext V).mod au (λx d i=>by have:=X x d;omega)).mod W (λx d i=>by have:=X x d;omega));have vc:=((aR.view.mod au (λx d i=>by have:=Y x d;omega)).mod W (λx d i=>by have:=Y x d;omega));exact⟨bc.view.mod Z (λx d i=>by have:=bd x d;omega),(av.ext O).mod Z (λx d i=>by have:=X x d;omega),(vc.ext O).mod Z (λx d i=>by have:=Y x d;omega)⟩
 have bA:Own eT Hu z k s.aw:=((((aQ.ext V).mod au (λx d i=>by have:=X x d;omega)).mod W (λx d i=>by have:=X x d;omega)).ext O).mod Z (λx d i=>by have:=X x d;omega);have bB:Own fU Gl z l s.aq:=(((aR.mod au (λx d i=>by have:=Y x d;omega)).mod W (λx d i=>by have:=Y x d;omega)).ext O).mod Z (λx d i=>by have:=Y x d;omega);have ao: ∀x,k.ag=some x->a2.size<=x/\x<aC.size:=λx d=>⟨X x d,aQ.lt d⟩
 have ap: ∀x,l.ag=some x->aC.size<=x/\x<aP.size:=λx d=>⟨Y x d,aR.lt d⟩
 have aS: ∀x,y.ag=some x->aP.size<=x/\x<z.size:=λx d=>⟨by have:=bd x d;omega,by have:=bc.lt d;have:=Z.size;omega⟩
 have bZ:=O.size;have b0:=Z.size;have fr: ∀(dL dM:Sl),(∀ x,dL.ag=some x->k.ag=some x\/h.size+3<=x)->(∀ x,dM.ag=some x->l.ag=some x\/h.size+3<=x)-> ∀x,y.ag=some x\/dL.ag=some x\/dM.ag=some x->h.size+3<=x:=λdL dM i g x d=>by
  rcases d with d|d|d
  ·have:=aS x d;omega
  ·rcases i x d with h|h
   ·have:=ao x h;omega
   ·omega
  ·rcases g x d with h|h
   ·have:=ap x h;omega
   ·omega
 refine ah.mk λaT bC=>?_
 have key: ∀ {o:Option aW} {t:aW} {dL dM:Sl} {B:aa},Qx s e=o.map (λt=> {t with next:=s.next+1})->(∀ t',o=some t'->t=t'/\t'.next=s.next/\iT B (h.size+3) t' y k l dL dM)->D3 h B Au A8 Au (t.V y dL dM) e bz.z->aT (o.isSome,()) B:=λ{o t dL dM B} be aU am=>by
  refine bC _ _ ?_;cases o with
  |none=>
   refine ab.yes rfl (am.tell (aq 120 ?_));unfold Bh;rw[if_neg (by simp[I]),if_neg F,if_neg (by simp[m]),if_neg (by simp[Q]),be];rfl
  |some t'=>
   obtain⟨rfl,bD,ac⟩:=aU t' rfl;have u:=fr dL dM ac.fb ac.fc;have b1:=L.next;refine ab.no rfl (AC.mk (am.cE (j:=3) rfl) ?_);rw[wrap_i64 (by show _<=t.next+1;omega) (by show t.next+1<=_;omega)];refine am.hZ (x':=({t with next:=s.next+1}:aW).V y dL dM) (by decide) (by rw[<- bD];rfl) λaF M bE=>M.pq λaw bF C=>?_
   have ar:Bh s e=(0,{t with next:=s.next+1}):=by unfold Bh;rw[if_neg (by simp[I]),if_neg F,if_neg (by simp[m]),if_neg (by simp[Q]),be];rfl
   have:=aM aw y dL dM bF (by
    rw[ar];have J:=ac.at'.mod bE (λx d i=>by have:=u x (.inl d);omega) (λx d i=>by have:=u x (.inr (.inl d));omega) (λx d i=>by have:=u x (.inr (.inr d));omega);have T:=J.mod C (λx d i=>by have:=u x (.inl d);omega) (λx d i=>by have:=u x (.inr (.inl d));omega) (λx d i=>by have:=u x (.inr (.inr d));omega);exact⟨T.steps,T.aw,T.aq⟩) (λx d=>by have:=u x d;omega)
   rw[ar] at this;exact this
 refine ah.mk λbf aG=>?_
 have aH:2<=e.kind/\e.kind<=5->bf (true,()) z:=λaI=>by
  refine aG _ _ (ab.yes rfl (r.eI (r.jZ (AKw aI λaF aJ=>GV.mk _ ⟨_,rfl,?_⟩))));have M:=r.on aJ;refine M.mI λaw af C=>key (o:=EC s e) (t:=(EC s e).getD s) (dL:=k) (dM:=l) (by unfold Qx;rw[if_pos aI]) (λt' G=>?_) af
  rw[G,HM];obtain⟨J,T,aK,bg⟩:=Rk G;have aV:=(S.ext aJ).mod C (λx d i=>by have:=fr k l (λ_ h=> .inl h) (λ_ h=> .inl h) x (.inl d);omega) (λx d i=>by have:=fr k l (λ_ h=> .inl h) (λ_ h=> .inl h) x (.inr (.inl d));omega) (λx d i=>by have:=fr k l (λ_ h=> .inl h) (λ_ h=> .inl h) x (.inr (.inr d));omega);exact⟨rfl,J.next,⟨by rw[J.prog];exact aV.steps,by rw[T];exact aV.aw,by rw[aK];exact aV.aq⟩,λ_ h=> .inl h,λ_ h=> .inl h⟩
 have bG:e.kind=1\/12<=e.kind->bf (false,()) z:=λaI=>by
  refine aG _ _ (ab.no rfl (ah.mk λaX ax=>?_));have H: ∀ {n:Int},6<=n->n<=11->(e.kind==n)=false:=λ{n} bH bI=>by simp;omega
  refine ab.no (H (by decide) (by decide)) (ab.no (H (by decide) (by decide)) (ab.no (H (by decide) (by decide)) ?_));rw[H (n:=9) (by decide) (by decide)];refine ax _ _ (ab.no rfl (ah.mk λbh aY=>ab.no (H (by decide) (by decide)) ?_));rw[H (n:=11) (by decide) (by decide)];refine aY _ _ (ab.no rfl (r.eI (r.jZ (APl S aI (λ_=>by have:=L.aO;have:=L.au;omega) λaF t dL dM aJ aU=>GV.mk _ ⟨_,rfl,?_⟩))));have M:=r.on aJ;refine M.mI λaw af C=>key (o:=LM s e) (t:=t) (by unfold Qx;rw[if_neg (by omega),if_neg (by omega),if_neg (by omega)]) (λt' G=>?_) af
  obtain⟨rfl,ac⟩:=aU t' G;have ay: ∀x,dL.ag=some x->k.ag=some x\/h.size+3<=x:=λx d=>(ac.fb x d).imp id λh=>by omega
  have az: ∀x,dM.ag=some x->l.ag=some x\/h.size+3<=x:=λx d=>(ac.fc x d).imp id λh=>by omega
  have u:=fr dL dM ay az;exact⟨rfl,(zT G).1.next,ac.at'.mod C (λx d i=>by have:=u x (.inl d);omega) (λx d i=>by have:=u x (.inr (.inl d));omega) (λx d i=>by have:=u x (.inr (.inr d));omega),ay,az⟩
 refine ab.intro (λag=>?_) (λag=>?_)
 ·have b2:e.kind=2:=by simpa using ag
  have ag:(e.kind==(2:Int))=true:=ag;rw[ag];exact aH (by omega)
 refine ab.intro (λaj=>?_) (λaj=>?_)
 ·have b3:e.kind=3:=by simpa using aj
  have aj:(e.kind==(3:Int))=true:=aj;rw[aj];exact aH (by omega)
 refine ab.intro (λak=>?_) (λak=>?_)
 ·have b4:e.kind=4:=by simpa using ak
  have ak:(e.kind==(4:Int))=true:=ak;rw[ak];exact aH (by omega)
 have ag:e.kind≠2:=by simpa using ag
 have aj:e.kind≠3:=by simpa using aj
 have ak:e.kind≠4:=by simpa using ak
 cases aZ:(e.kind==(5:Int)) with
 |true=>
  have:e.kind=5:=by simpa using aZ
  exact aH (by omega)
 |false=>
  have aZ:e.kind≠5:=by simpa using aZ
  by_cases a0:6<=e.kind/\e.kind<=9
  ·have bJ: ∀ {B:aa} {t:aW} {dL:Sl},Mod (λx=>k.ag=some x\/z.size<=x) z B->(∀ x,dL.ag=some x->k.ag=some x\/z.size<=x)->(∀ t',Mj s e=some t'->t=t'/\View eT B dL t'.aw)->aD B ⟨h.size,0,none⟩ (t.V y dL l).l λm=>aT ((Mj s e).isSome,()) m:=λ{B t dL} w f E=>by
    have al: ∀v,v<h.size+3-> ¬(k.ag=some v\/z.size<=v):=λv bK h=>by
     rcases h with h|h
     ·have:=ao v h;omega
     ·omega
    have M:D3 h B Au A8 Au (s.V y k l) e bz.z:=⟨r.ext.more w λc g=>by
     rcases g with g|g
     ·have:=ao c g;omega
     ·omega,w.ag r.b0 (al _ (by omega)),w.ag r.b1 (al _ (by omega)),w.ag r.b2 (al _ (by omega))⟩
    have ay: ∀x,dL.ag=some x->k.ag=some x\/h.size+3<=x:=λx d=>(f x d).imp id λh=>by omega
    refine M.mI λaw af C=>key (o:=Mj s e) (t:=t) (by unfold Qx;rw[if_neg (by omega),if_pos a0]) (λt' G=>?_) af
    obtain⟨rfl,av⟩:=E t' G;obtain⟨J,T,aK,bg⟩:=zU G;have u:=fr dL l ay λ_ h=> .inl h
    have a1:=S.steps.mod w λx d g=>by
     have:=aS x d;rcases g with g|g
     ·have:=ao x g;omega
     ·omega
    have vc:=S.aq.mod w λx d g=>by
     have:=ap x d;rcases g with g|g
     ·have:=ao x g;omega
     ·omega
    exact⟨rfl,J.next,⟨by rw[J.prog];exact a1.mod C (λx d i=>by have:=u x (.inl d);omega),av.mod C (λx d i=>by have:=u x (.inr (.inl d));omega),by rw[aK];exact vc.mod C (λx d i=>by have:=u x (.inr (.inr d));omega)⟩,ay,λ_ h=> .inl h⟩
   refine aG _ _ (ab.no rfl (ah.mk λaX ax=>?_));have go:aX (true,()) z:=ax _ _ (ab.yes rfl (r.eI (r.jZ (AUF S bA (by have:=L.aw;omega) a0 (by have:=AP3 I;omega) λaF t dL w f E=>GV.mk _ ⟨_,rfl,bJ w f E⟩))));refine ab.intro (λv=>?_) (λbi=>ab.intro (λv=>?_) (λbj=>ab.intro (λv=>?_) (λbk=>?_)))
   ·rw[v];exact go
   ·rw[v];exact go
   ·rw[v];exact go
   ·have bi:e.kind≠6:=by simpa using bi
    have bj:e.kind≠7:=by simpa using bj
    have bk:e.kind≠8:=by simpa using bk
    have bL:(e.kind==(9:Int))=true:=by simp;omega
    rw[bL];exact go
  ·by_cases g:e.kind=10\/e.kind=11
   ·have bM: ∀ {B:aa} {t:aW} {dM:Sl},Mod (λx=>l.ag=some x\/z.size<=x) z B->(∀ x,dM.ag=some x->l.ag=some x\/z.size<=x)->(∀ t',Kq s e=some t'->t=t'/\View fU B dM t'.aq)->aD B ⟨h.size,0,none⟩ (t.V y k dM).l λm=>aT ((Kq s e).isSome,()) m:=λ{B t dM} w f E=>by
     have al: ∀v,v<h.size+3-> ¬(l.ag=some v\/z.size<=v):=λv bK h=>by
      rcases h with h|h
      ·have:=ap v h;omega
      ·omega
     have M:D3 h B Au A8 Au (s.V y k l) e bz.z:=⟨r.ext.more w λc g=>by
      rcases g with g|g
      ·have:=ap c g;omega
      ·omega,w.ag r.b0 (al _ (by omega)),w.ag r.b1 (al _ (by omega)),w.ag r.b2 (al _ (by omega))⟩
     have az: ∀x,dM.ag=some x->l.ag=some x\/h.size+3<=x:=λx d=>(f x d).imp id λh=>by omega
     refine M.mI λaw af C=>key (o:=Kq s e) (t:=t) (by unfold Qx;rw[if_neg (by omega),if_neg a0,if_pos g]) (λt' G=>?_) af
     obtain⟨rfl,vc⟩:=E t' G;obtain⟨J,T,aK,bg⟩:=zV G;have u:=fr k dM (λ_ h=> .inl h) az;have a1:=S.steps.mod w λx d g=>by
      have:=aS x d;rcases g with g|g
      ·have:=ap x g;omega
      ·omega
     have av:=S.aw.mod w λx d g=>by
      have:=ao x d;rcases g with g|g
      ·have:=ap x g;omega
      ·omega
     exact⟨rfl,J.next,⟨by rw[J.prog];exact a1.mod C (λx d i=>by have:=u x (.inl d);omega),by rw[T];exact av.mod C (λx d i=>by have:=u x (.inr (.inl d));omega),vc.mod C (λx d i=>by have:=u x (.inr (.inr d));omega)⟩,λ_ h=> .inl h,az⟩
    have H: ∀ {n:Int},6<=n->n<=9->(e.kind==n)=false:=λ{n} bH bI=>by simp;omega
    refine aG _ _ (ab.no rfl (ah.mk λaX ax=>?_));refine ab.no (H (by decide) (by decide)) (ab.no (H (by decide) (by decide)) (ab.no (H (by decide) (by decide)) ?_));rw[H (n:=9) (by decide) (by decide)];refine ax _ _ (ab.no rfl (ah.mk λbh aY=>?_));have go:bh (true,()) z:=aY _ _ (ab.yes rfl (r.eI (r.jZ (AS8 S bB (by have:=L.aq;omega) g bp (λx d=>by have:=L.waits x (AMB d);omega) λaF t dM w f E=>GV.mk _ ⟨_,rfl,bM w f E⟩))));refine ab.intro (λv=>?_) (λbm=>?_)
    ·rw[v];exact go
    ·have bm:e.kind≠10:=by simpa using bm
     have bN:(e.kind==(11:Int))=true:=by simp;omega
     rw[bN];exact go
   ·exact bG (by omega)
end
theorem Po {n:Int}(a:0<=n)(b:n<=9223372036854775807):J8 .u64 n=((n.toNat:Nat):Int):=by
 have:n=((n.toNat:Nat):Int):=by omega
 rw[this,CL (by omega)];simp
theorem Nw {f:Bool}{n:Int}(a:n<=9223372036854775807):(Ur f n).length<=10:=by
 cases f with
 |false=>exact A5 _
 |true=>exact AZ (by omega)
theorem sK {h:ao}{b:aa}{a:Q6}{f e n:Int}{fl:Bool}{d:List UInt8}{K:A2Y×Unit->aa->Prop}(i:(Gw J9 f e != (0:Int))=fl)(j:af b a=some (J6 J9 n))(k:fl=true->0<=n/\n<=1099511627776)
  (m:d.length<=100000) (g: ∀c,Ext b c->K (Ae (d++Ur fl n),()) c):
  ab (Gw J9 f e != (0:Int)) (AC J9 b a λt=>AA h P A7 #[.int .u64 (J8 .u64 t)] b λv c=> ∃x:A2Y,v=J7 x/\(aE ((((Ae d).size+x.size:Nat):Int)<=IntKind.i64.max)<|K ((Ae d)++x,()) c)) (K (Ae d,()) b):=by
 rw[i];cases fl with
 |false=>
  have:=g b Mod.refl;simp only[Ur,BW,if_false,AI] at this;exact ab.no rfl this
 |true=>
  obtain⟨l,o⟩:=k rfl;refine ab.yes rfl (AC.mk j ?_);rw[Po l (by omega)];have:=AZ (n:=n.toNat) (by omega);refine Cj (by omega) λc x=>⟨_,rfl,⟨by rw[AP,AP,max_i64];omega,?_⟩⟩
  have:=g c x;simp only[Ur,if_true] at this;rw[Aq];exact this
theorem sL {f:Bool}{a lo hi:Int}(b:cQ f a lo hi=true)(d:0<=lo)(e:hi<=1099511627776):f=true->0<=a/\a<=1099511627776:=λc=>by
 subst c;simp only[cQ,if_true,Ba] at b;omega
def oX(a:Ev):J0:=J1 #[J7 (Ae (if Er a then Om a else [])),J6 J9 (if Er a then 0 else 120)]
theorem ANK {Q:ao}{a:aa}{e:Ev}{j:A2X}(hd:e.data.size<1099511627776)(u: ∀c,Ext a c->j (oX e) c):AA Q P Pj #[oW e] a j:=by
 refine ACz ?_;unfold Vs;refine ai.mk λar _ b v au=>?_
 refine AC.mk (AO b rfl) (AC.mk (AB b rfl) (AC.mk (AB b rfl) (AC.mk (AB b rfl) (AC.mk (AB b rfl) (AC.mk (AB b rfl) (Aa.mk (AB b rfl) (AL.mk (AB b rfl) ?_)))))));refine sJ (e:=e) hd λw k=>⟨_,rfl,?_⟩
 cases l:Er e with
 |false=>
  refine ab.yes rfl ?_;have:=u w (v.trans k);rw[oX,l] at this;exact this
 |true=>
  refine ab.no rfl ?_;have y: ∀c,Ext w c->j (J1 #[J7 (Ae (Om e)),J6 J9 0]) c:=λc x=>by
   have:=u c ((v.trans k).trans x);rw[oX,l] at this;exact this
  have g:=k.ag b (λa=>a);have z:=NB l;simp only[Eu,A3] at z;obtain⟨⟨⟨⟨⟨⟨⟨R,S⟩,T⟩,m⟩,o⟩,p⟩,av⟩,aw⟩:=z;have ax:=Ba.1 R;have ay:=Ba.1 S;have az:=Ba.1 T;obtain⟨U,V,W,X,Y⟩:=sH e.kind;refine AC.mk (AB g rfl) (Yp ⟨_,_,rfl,?_⟩);refine AC.mk (AO g rfl) (AC.mk (n:=e.kind) (AB g rfl) (AC.mk (n:=e.tick) (AB g rfl) ?_));rw[Po (n:=e.id) (by omega) (by omega)];refine Cj (by omega) λaA A=>⟨_,rfl,?_⟩
  have r:=A.ag g (λa=>a);refine⟨AB r rfl,AB r rfl,?_⟩;rw[Po (n:=e.kind) (by omega) (by omega)];have aC:=AZ (n:=e.id.toNat) (by omega);have aD:=AZ (n:=e.kind.toNat) (by omega);have aE:=AZ (n:=e.tick.toNat) (by omega);refine Cj (by omega) λaF B=>⟨_,rfl,?_⟩
  have C:=B.ag r (λa=>a);refine⟨AB C rfl,by rw[AP,AP,max_i64];omega,?_⟩;rw[Po (n:=e.tick) (by omega) (by omega)];refine Cj (by omega) λaG D=>⟨_,rfl,⟨by rw[Aq,AP,AP,max_i64,A1];omega,?_⟩⟩
  have E:=D.ag C (λa=>a);have Z:=(A.trans B).trans D;rw[Aq,Aq];refine ah.mk λK ac=>?_
  have aH:=Nw (f:=cP e.kind) (n:=e.ref) (by cases h:cP e.kind<;>rw[h] at m<;>simp[cQ,bQ] at m<;>omega);have aI:=Nw (f:=da e.kind) (n:=e.step) (by cases h:da e.kind<;>rw[h] at o<;>simp[cQ,bQ] at o<;>omega);have aJ:=Nw (f:=dq e.kind) (n:=e.turn) (by cases h:dq e.kind<;>rw[h] at p<;>simp[cQ,bQ] at p<;>omega);have aK:=Nw (f:=dJ e.kind) (n:=if e.aG then 1 else 0) (by split<;>omega);refine sK (fl:=cP e.kind) (n:=e.ref) (by rw[U,NY (by decide)]) (AB E rfl) (sL m (by decide) (by omega)) (by simp only[A1];omega) λaL F=>ac _ _ ?_
  have G:=F.ag E (λa=>a);refine ah.mk λaM ae=>?_
  refine sK (fl:=da e.kind) (n:=e.step) (by rw[V,NY (by decide)]) (AB G rfl) (sL o (by decide) (by omega)) (by simp only[A1];omega) λaN H=>ae _ _ ?_
  have I:=H.ag G (λa=>a);refine ah.mk λaO af=>?_
  refine sK (fl:=dq e.kind) (n:=e.turn) (by rw[W,NY (by decide)]) (AB I rfl) (sL p (by decide) (by omega)) (by simp only[A1];omega) λs J=>af _ _ ?_
  have L:=J.ag I (λa=>a);have M:=((Z.trans F).trans H).trans J;refine ah.mk λag aj=>?_
  have N: ∀d,Ext s d->ag (Ae (((Bt e.id.toNat++Bt e.kind.toNat++Bt e.tick.toNat++Ur (cP e.kind) e.ref)++Ur (da e.kind) e.step++Ur (dq e.kind) e.turn)++Ur (dJ e.kind) (if e.aG then 1 else 0)),()) d:=λd i=>by
   refine aj _ _ ?_;have ak:=i.ag L (λa=>a);refine ah.mk λaP O=>?_
   rw[Y,NY (by decide)];refine ab.intro (λq=>?_) (λq=>?_)
   ·refine AL.mk (AB ak rfl) (LU (by omega) λal am=>⟨_,rfl,⟨?_,O _ _ ?_⟩⟩)
    ·have:=AZ (n:=(bl e.data).length) (by rw[BF];omega);rw[AP,AP,max_i64];simp only[BX,A1,BF] at this ⊢;omega
    ·have:=y al ((M.trans i).trans am);dsimp only;rw[Aq];simp only[Om,gM,q,if_true] at this;simp only[A4] at this ⊢;exact this
   ·refine O _ _ ?_;have:=y d (M.trans i);simp only[Om,gM,q,BW,if_false,AI] at this;simp only[A4] at this ⊢;exact this
  rw[X,NY (by decide)];refine ab.intro (λq=>?_) (λq=>?_)
  ·refine ah.mk λan ap=>Aa.mk (AB L rfl) ?_
   have go: ∀n:Nat,n<=1->(n:Int)=(if e.aG then 1 else 0)->an ((n:Int),()) s:=λn aQ aq=>by
    refine ap _ _ ?_;have:=AZ (n:=n) (by omega);refine Cj (by omega) λd i=>⟨_,rfl,⟨?_,?_⟩⟩
    ·dsimp only;rw[AP,AP,max_i64];simp only[A1];omega
    ·have:=N d i;rw[<- aq] at this;simp only[Ur,q,if_true,A6] at this;dsimp only;rw[Aq];exact this
   refine ab.intro (λt=>go 1 (by omega) (by rw[t];rfl)) (λt=>go 0 (by omega) (by rw[t];rfl))
  ·have:=N s Mod.refl;simp only[Ur,q,BW,if_false,AI] at this;exact this
theorem OC(f:Bool)(m:Nat)(a:Rd):(FD f m a).2.rest.length<=a.rest.length:=by
 cases f with
 |false=>exact A0 _
 |true=>exact Io m a
theorem ATM(f:Bool)(a:Rd):(VY f a).2.rest.length<=a.rest.length/\(VY f a).1.length<=a.rest.length:=by
 cases f with
 |false=>exact⟨A0 _,A5 _⟩
 |true=>exact Wu a
theorem AQw(b:jN)(c:Rd):(Ra b c).2.rest.length<=c.rest.length/\(Ra b c).1.data.size<=c.rest.length:=by
 simp only[Ra,AP];have d:=Io b.id c;have e:=Io b.kind (CZ b.id c).2;have f:=Io b.tick (CZ b.kind (CZ b.id c).2).2;generalize CZ b.tick (CZ b.kind (CZ b.id c).2).2=t at*
 generalize ((CZ b.kind (CZ b.id c).2).1:Int)=a at*
 have g:=OC (cP a) b.ref t.2;have h:=OC (da a) b.step (FD (cP a) b.ref t.2).2;have i:=OC (dq a) b.turn (FD (da a) b.step (FD (cP a) b.ref t.2).2).2;have j:=OC (dJ a) 1 (FD (dq a) b.turn (FD (da a) b.step (FD (cP a) b.ref t.2).2).2).2;have k:=ATM (dO a) (FD (dJ a) 1 (FD (dq a) b.turn (FD (da a) b.step (FD (cP a) b.ref t.2).2).2).2).2;omega
theorem sM {w:ao}{a:aa}{b d g:Nat}{f l:Int}{m:Nat}{fl:Bool}{h:Rd}{e:Array J0}{T:Q7}{K:Unit->aa->Prop}(x:(Gw J9 f l != (0:Int))=fl)(n:LF a b h)(y:h.rest.length<=1099511627776)
  (z:m<=9223372036854775807) (o:a[d]? =some (J2 e T (0,0))) (A:g<e.size) (B:e.setIfInBounds g (J6 J9 0)=e) (p:b≠d)
  (q: ∀i,LF i b (FD fl m h).2->i[d]? =some (J2 (e.setIfInBounds g (J6 J9 ((FD fl m h).1:Int))) T (0,0))->Mod (λc=>c=b\/c=d) a i->K () i):
  ab (Gw J9 f l != (0:Int)) (AA w P Ag #[Ap b,J6 J9 (m:Int)] a λv r=> ∃t:Int,v=J6 J9 t/\(ae r ((⟨d,0,none⟩:Q6).add g) (J6 J9 t) λj=>K () j)) (K () a):=by
 rw[x];cases fl with
 |false=>exact ab.no rfl (q a n (by simp only[FD,BW,if_false];rw[show(((0:Nat):Int))=(0:Int) from rfl,B];exact o) Mod.refl)
 |true=>
  refine ab.yes rfl (Ei n y z λr C s=>⟨_,rfl,?_⟩);refine ae.dw (s.ag o p.symm) A λj D u E=>?_
  exact q j (u.ag C p) D ((s.ak λc _ k=> .inl k).trans (u.ak λc _ k=> .inr k))
abbrev EvC(i b t a s c:Int)(u:Bool)(d:A2Y):Array J0:= #[J6 J9 i,J6 J9 b,J6 J9 t,J6 J9 a,J6 J9 s,J6 J9 c,J3 u,J7 d]
theorem ASA {av:ao}{b:aa}{e:Nat}{d:Rd}{M:A2X}(N:LF b e d)(bb:d.rest.length<1099511627776)
  (O: ∀E,LF E e (Ra fi d).2->Mod (· =e) b E->M (oW (Ra fi d).1) E):AA av P Tm #[Ap e] b M:=by
 refine AGC ?_;unfold vX;have bc:=Ai N;refine ai.mk λy _ Q z aw=>?_
 have R:=z.ag N (λb=>b);have bd:CZ 500 d=CZ fi.id d:=rfl;have be:=Io 500 d;have bf:=Io 18 (CZ 500 d).2;have bg:=Io 1099511627776 (CZ 18 (CZ 500 d).2).2;refine Ei (most:=500) R (by omega) (by decide) λbh S A=>⟨_,rfl,?_⟩
 refine Ei (most:=18) S (by omega) (by decide) λbi T U=>⟨_,rfl,?_⟩
 refine Ei (most:=1099511627776) T (by omega) (by decide) λu F V=>⟨_,rfl,?_⟩
 have l:=(A.trans U).trans V;have W:=l.ag Q (by omega);have ax:y.size<=u.size:=l.size;refine ai.mk λbj _ X B ay=>ae.eight X λaz Y C aA=>?_
 have n:e≠u.size:=by have:=Ai F;omega
 have aC:b.size≠u.size:=by omega
 have aD:=C.ag (B.ag F (λb=>b)) n;have aE:=C.ag (B.ag W (λb=>b)) aC;have aF:Mod (· =e) b az:=by have q:Mod (· =e) b u:=z.mod.trans l;exact q.then ((B.mod.trans C).ak λc _ g=> .inr (by have:=l.size;have:=z.size;omega))
 refine AC.mk (AB Y rfl) (Yp ⟨_,_,rfl,?_⟩);obtain⟨aG,aH,aI,aJ,aK⟩:=sH ((CZ 18 (CZ 500 d).2).1:Int);have bk:b.size<=u.size:=by omega
 have bm:b.size<=b.size:=A0 _;have bn:Ra fi d=Ra fi d:=rfl;generalize aL:((CZ 18 (CZ 500 d).2).1:Int)=a at*
 generalize aM:CZ 1099511627776 (CZ 18 (CZ 500 d).2).2=t at*
 generalize hi:((CZ 500 d).1:Int)=i at*
 have aN:Ra fi d=(⟨i,a,t.1,(FD (cP a) 500 t.2).1,(FD (da a) 15 (FD (cP a) 500 t.2).2).1,(FD (dq a) 5 (FD (da a) 15 (FD (cP a) 500 t.2).2).2).1,
   decide ((FD (dJ a) 1 (FD (dq a) 5 (FD (da a) 15 (FD (cP a) 500 t.2).2).2).2).1=1),Ae (VY (dO a) (FD (dJ a) 1 (FD (dq a) 5 (FD (da a) 15 (FD (cP a) 500 t.2).2).2).2).2).1⟩,
   (VY (dO a) (FD (dJ a) 1 (FD (dq a) 5 (FD (da a) 15 (FD (cP a) 500 t.2).2).2).2).2).2):=by
  simp only[Ra,<-aL,<-aM,<-hi];rfl
 have bo:=OC (cP a) 500 t.2;have bp:=OC (da a) 15 (FD (cP a) 500 t.2).2;have bq:=OC (dq a) 5 (FD (da a) 15 (FD (cP a) 500 t.2).2).2;have br:=OC (dJ a) 1 (FD (dq a) 5 (FD (da a) 15 (FD (cP a) 500 t.2).2).2).2;rw[aN] at O;generalize u.size=v at*
 generalize aO:FD (cP a) 500 t.2=G at*
 generalize aP:FD (da a) 15 G.2=os at*
 generalize aQ:FD (dq a) 5 os.2=s at*
 generalize Z:FD (dJ a) 1 s.2=f at*
 clear Q W X R S T F z B A U V l C aw ax ay aA;have up: ∀ {ac af:aa},Mod (· =e) b ac->Mod (λc=>c=e\/c=v) ac af->Mod (· =e) b af:=λaR A=>aR.then (A.ak λc _ g=>g.elim .inl λbs=> .inr (by omega))
 refine ah.mk λK aS=>?_
 refine sM (m:=500) (fl:=cP a) (by rw[aG,NY (by decide)]) aD (by omega) (by decide) Y (by simp) rfl n λbt ag aj l=>aS _ _ ?_
 rw[aO] at ag aj;have aT:=l.ag aE (by omega);have aU:=up aF l;refine ah.mk λbu aV=>?_
 refine sM (m:=15) (fl:=da a) (by rw[aH,NY (by decide)]) ag (by omega) (by decide) aj (by simp) rfl n λbv ak al am=>aV _ _ ?_
 rw[aP] at ak al;have aW:=am.ag aT (by omega);have aX:=up aU am;refine ah.mk λbw aY=>?_
 refine sM (m:=5) (fl:=dq a) (by rw[aI,NY (by decide)]) ak (by omega) (by decide) al (by simp) rfl n λan H I ap=>aY _ _ ?_
 rw[aQ] at H I;have aZ:=ap.ag aW (by omega);have a0:=up aX ap;refine ah.mk λa1 a2=>?_
 have aq: ∀o,LF o e f.2->o[v]? =some (J2 (EvC i a t.1 G.1 os.1 s.1 (decide (f.1=1)) IQ) A8 (0,0))->Mod (λc=>c=e\/c=v) an o->a1 () o:=λo D ar w=>by
  refine a2 _ _ ?_;have a3:=w.ag aZ (by omega);have a4:=up a0 w;refine ah.mk λa5 a6=>?_
  have au: ∀p,LF p e (VY (dO a) f.2).2->p[v]? =some (J2 (EvC i a t.1 G.1 os.1 s.1 (decide (f.1=1)) (Ae (VY (dO a) f.2).1)) A8 (0,0))->Mod (λc=>c=e\/c=v) o p->a5 () p:=λp J h r=>by
   refine a6 _ _ ?_;have a7:=r.ag a3 (by omega);have a8:=up a4 r;refine AC.mk (AO h rfl) (AC.mk (AB h rfl) (AC.mk (AB h rfl) (AC.mk (AB h rfl) (AC.mk (AB h rfl) (AC.mk (AB h rfl) (Aa.mk (AB h rfl) (AL.mk (AB h rfl) ?_)))))));refine ae.eight a7 λL k x a9=>?_
   refine AC.mk (AO k rfl) (AC.mk (AB k rfl) (AC.mk (AB k rfl) (AC.mk (AB k rfl) (AC.mk (AB k rfl) (AC.mk (AB k rfl) (Aa.mk (AB k rfl) (AL.mk (AB k rfl) ?_)))))));exact O L (x.ag J (by omega)) (a8.then (x.ak λc _ g=> .inr (by omega)))
  rw[aK,NY (by decide)];refine ab.intro (λq=>?_) (λq=>?_)
  ·refine Iw D (by omega) λp J r=>⟨_,rfl,?_⟩
   refine ae.dw (r.ag ar n.symm) (by simp) λL k x a9=>?_
   have j:VY (dO a) f.2=Gq f.2:=by simp only[VY,q,if_true]
   refine au L (by rw[j];exact x.ag J n) (by rw[j];exact k) ((r.ak λc _ g=> .inl g).trans (x.ak λc _ g=> .inr g))
  ·have j:VY (dO a) f.2=([],f.2):=by simp only[VY,q,BW,if_false]
   exact au o (by rw[j];exact D) (by rw[j];exact ar) Mod.refl
 rw[aJ,NY (by decide)];refine ab.intro (λq=>?_) (λq=>?_)
 ·have j:f=CZ 1 s.2:=by rw[<- Z];simp only[FD,q,if_true]
  refine Ei (most:=1) H (by omega) (by decide) λo D w=>⟨_,rfl,?_⟩
  refine ae.dw (w.ag I n.symm) (by simp) λp h r bx=>?_
  have ba:((((CZ 1 s.2).1:Nat):Int)==(1:Int))=decide (f.1=1):=by
   rw[j];by_cases y:(CZ 1 s.2).1=1
   ·rw[y];rfl
   ·rw[decide_eq_false y,beq_eq_false_iff_ne];omega
  rw[ba] at h;refine aq p (by rw[j];exact r.ag D n) h ((w.ak λc _ g=> .inl g).trans (r.ak λc _ g=> .inr g))
 ·have j:f=(0,s.2):=by rw[<- Z];simp only[FD,q,BW,if_false]
  exact aq an (by rw[j];exact H) (by rw[j];exact I) Mod.refl
def evZ:Ev:=⟨0,0,0,0,0,0,false,IQ⟩
def AXV(a:Option Ev):J0:=J1 #[oW (a.getD evZ),J6 J9 (if a.isSome then 0 else 60)]
theorem AMl {F:ao}{b:aa}{l:List UInt8}{r:A2X}(G:l.length<1099511627776)(s: ∀t,Ext b t->r (AXV (jO l)) t):AA F P QF #[J7 (Ae l)] b r:=by
 refine ADA ?_;unfold Vn;refine ai.mk λU _ H u V=>?_
 refine N7 λW v w=>⟨_,rfl,?_⟩
 have X:=Ai v;refine ASA v G λI J i=>⟨_,_,_,_,_,_,_,_,rfl,?_⟩
 have L:=i.ag (w.ag H (λb=>b)) (by omega);have y:Ext b I:=(u.trans w).more i λc g=>by subst g;exact u.size
 have M:=AQw fi ⟨l,false⟩;refine ai.mk λY _ N j Z=>ae.eight N λk d m ac=>?_
 have af:=i.size;have z:Ext b k:=(y.trans j).more m λc g=>by subst g;exact y.size
 have A:=m.ag (j.ag L (λb=>b)) (by omega);have O:=m.ag (j.ag J (λb=>b)) (by omega);refine ah.mk λK B=>?_
 refine Qk O ⟨_,rfl,?_⟩;have n:jO l=if fY (Ra fi ⟨l,false⟩).2&&Er (Ra fi ⟨l,false⟩).1 then some (Ra fi ⟨l,false⟩).1 else none:=rfl;generalize (Ra fi ⟨l,false⟩).2=C at*
 generalize (Ra fi ⟨l,false⟩).1=e at*
 have D:jO l=none-> ∀o,Ext k o->K (true,()) o:=λQ o x=>by
  refine B _ _ (ab.yes rfl ?_);refine ae.eight (x.ag A (λb=>b)) λp a R ag=>?_
  refine AC.mk (AO a rfl) (AC.mk (AB a rfl) (AC.mk (AB a rfl) (AC.mk (AB a rfl) (AC.mk (AB a rfl) (AC.mk (AB a rfl) (Aa.mk (AB a rfl) (AL.mk (AB a rfl) ?_)))))));have:=s p ((z.trans x).more R λc g=>by omega);rw[Q] at this;exact this
 refine ab.intro (λq=>?_) (λq=>?_)
 ·have q:fY C=false:=by simpa using q
  exact D (by rw[n,q];rfl) k Mod.refl
 ·have q:fY C=true:=by simpa using q
  refine AC.mk (AO d rfl) (AC.mk (AB d rfl) (AC.mk (AB d rfl) (AC.mk (AB d rfl) (AC.mk (AB d rfl) (AC.mk (AB d rfl) (Aa.mk (AB d rfl) (AL.mk (AB d rfl) ?_)))))));refine sJ (e:=e) (by simp only at M;omega) λp h=>⟨_,rfl,?_⟩
  cases E:Er e with
  |false=>exact D (by rw[n,E,On];rfl) p h
  |true=>
   refine B _ _ (ab.no rfl ?_);have a:=h.ag d (λb=>b);refine AC.mk (AO a rfl) (AC.mk (AB a rfl) (AC.mk (AB a rfl) (AC.mk (AB a rfl) (AC.mk (AB a rfl) (AC.mk (AB a rfl) (Aa.mk (AB a rfl) (AL.mk (AB a rfl) ?_)))))));refine ae.eight (h.ag A (λb=>b)) λS f T aj=>?_
   refine AC.mk (AO f rfl) (AC.mk (AB f rfl) (AC.mk (AB f rfl) (AC.mk (AB f rfl) (AC.mk (AB f rfl) (AC.mk (AB f rfl) (Aa.mk (AB f rfl) (AL.mk (AB f rfl) ?_)))))));have:=s S ((z.trans h).more T λc g=>by omega);rw[n,q,E] at this;exact this
theorem my:Rj P Bd A8 dd.w 72=true:=by kernel_rfl
theorem AHA {a:Ev}(h:Eu a=true)(hd:a.data.size<18446744073709551616):(Om a).length<=100+a.data.size:=by
 have c:=h;simp only[Eu,A3] at c;obtain⟨⟨⟨⟨⟨⟨⟨i,j⟩,k⟩,d⟩,e⟩,g⟩,l⟩,m⟩:=c;have o:=Ba.1 i;have p:=Ba.1 j;have q:=Ba.1 k;have r:=AZ (n:=a.id.toNat) (by omega);have s:=AZ (n:=a.kind.toNat) (by omega);have t:=AZ (n:=a.tick.toNat) (by omega);have u:=Nw (f:=cP a.kind) (n:=a.ref) (by cases b:cP a.kind<;>rw[b] at d<;>simp[cQ,bQ] at d<;>omega);have v:=Nw (f:=da a.kind) (n:=a.step) (by cases b:da a.kind<;>rw[b] at e<;>simp[cQ,bQ] at e<;>omega);have w:=Nw (f:=dq a.kind) (n:=a.turn) (by cases b:dq a.kind<;>rw[b] at g<;>simp[cQ,bQ] at g<;>omega);have x:=Nw (f:=dJ a.kind) (n:=if a.aG then 1 else 0) (by split<;>omega);have y:(gM (dO a.kind) a.data).length<=10+a.data.size:=by
  cases b:dO a.kind with
  |false=>simp[gM]
  |true=>
   simp only[gM,if_true,BX,A1,BF];have:=AZ hd;omega
 simp only[Om,A1];omega
end Go.Lf.G
namespace Go.Lf
open Go
def VB(a:Int)(v:J0):List (Int×J0)->List (Int×J0)
 | []=> [(a,v)]
 |p::m=>if p.1=a then(a,v)::m else p::VB a v m
def Ml(a:Int)(m:List (Int×J0)):Option J0:=(m.find? λp=>decide (p.1=a)).map (·.2)
def gZ(a:Int)(m:List (Int×J0)):List (Int×J0):=m.filter λp=> !decide (p.1=a)
theorem Gu(a:Int)(p:Int×J0)(m:List (Int×J0)):Ml a (p::m)=if p.1=a then some p.2 else Ml a m:=by unfold Ml;rw[E0];by_cases b:p.1=a<;>simp[b]
theorem rZ(a:Int)(v:J0)(c:Int): ∀m,Ml c (VB a v m)=if a=c then some v else Ml c m
 | []=>by unfold VB;rw[Gu]
 |p::m=>by
  unfold VB;split
  ·rename_i d;rw[Gu,Gu];by_cases b:a=c<;>simp[d,b]
  ·rename_i d;rw[Gu,Gu,rZ a v c m];by_cases b:a=c
   ·subst b;simp[d]
   ·simp[b]
structure YU (kd:IntKind) (es:Array MapEntry) (clock:Nat) (m:List (Int×J0)):Prop where
 same:es.toList.map (λe=>(e.key,e.val))=m.map λp=>(Value.int kd p.1,p.2)
 stamped:MapKept.Stamped es clock
 size:es.size<=maxLen
def Uu(kd:IntKind)(d:aa)(b:Nat)(m:List (Int×J0)):Prop:= ∃a c,d[b]? =some (.map a c)/\YU kd a c m
theorem Uu.mod {kd:IntKind}{a c:aa}{b:Nat}{m:List (Int×J0)}{d:Nat->Prop}(M:Uu kd a b m)(x:Mod d a c)(e: ¬d b):Uu kd c b m:=by obtain⟨f,g,h,i⟩:=M;exact⟨f,g,x.ag h e,i⟩
theorem Uu.lt {kd:IntKind}{a:aa}{b:Nat}{m:List (Int×J0)}(M:Uu kd a b m):b<a.size:=by obtain⟨d,e,c,f⟩:=M;exact Ai c
theorem Uu.empty {kd:IntKind}{a:aa}{b c:Nat}(d:a[b]? =some (.map #[] c)):Uu kd a b []:=⟨#[],c,d,rfl,MapKept.stamped_empty c,by simp⟩
theorem YU.len {kd:IntKind}{a:Array MapEntry}{b:Nat}{m:List (Int×J0)}(M:YU kd a b m):a.size=m.length:=by rw[<- Ds];have:=congrArg List.length M.same;simpa using this
theorem YU.keysOf {kd:IntKind}{a:Array MapEntry}{b:Nat}{m:List (Int×J0)}(M:YU kd a b m):a.toList.map (·.key)=m.map λp=>Value.int kd p.1:=by have:=congrArg (List.map Prod.fst) M.same;simpa [CA,GF] using this
theorem YU.nodup {kd:IntKind}{b:Array MapEntry}{c:Nat}{m:List (Int×J0)}(M:YU kd b c m):(m.map (·.1)).Nodup:=by
 have a:=M.stamped.2.2;rw[M.keysOf] at a;have d:(m.map λp=>Value.int kd p.1)=(m.map (·.1)).map (Value.int kd):=by simp
 rw[d] at a;exact(List.pairwise_map.1 a).imp λe f=>e (by rw[f])
theorem Pp {kd:IntKind}(a:Int)(v:J0): ∀(c:List MapEntry) (m:List (Int×J0)) (i:Nat),(c.map λe=>(e.key,e.val))=(m.map λp=>(Value.int kd p.1,p.2))->
  (Instr.findNow (.int kd) (.int kd a) c i=some none/\Ml a m=none/\VB a v m=m++ [(a,v)]/\gZ a m=m/\ ∀e∈c,e.key≠ .int kd a)\/
  ∃d u,Instr.findNow (.int kd) (.int kd a) c i=some (some (i+d,u))/\Ml a m=some u/\(∃ e,c[d]? =some e/\e.key= .int kd a)/\((c.modify d λe=> {e with key:= .int kd a,val:=v}).map λe=>(e.key,e.val))=(VB a v m).map (λp=>(Value.int kd p.1,p.2))/\
   ((m.map (·.1)).Nodup->((c.eraseIdx d).map λe=>(e.key,e.val))=(gZ a m).map λp=>(Value.int kd p.1,p.2))
 | [],[],i,_=> .inl ⟨rfl,rfl,rfl,rfl,by simp⟩
 | [],_::_,_,h=>by simp at h
 |_::_,[],_,h=>by simp at h
 |e::c,p::m,i,h=>by
  simp only[C5,G0,Mb] at h;obtain⟨⟨j,l⟩,n⟩:=h;have o:Instr.sameNow (.int kd) (.int kd a) e.key=some (decide (a=p.1)):=by rw[j];show(if kd=kd then some (a==p.1) else none)=_;rw[if_pos rfl];congr 1
  by_cases b:p.1=a
  ·refine .inr ⟨0,e.val,?_,?_,⟨e,rfl,by rw[j,b]⟩,?_,?_⟩
   ·unfold Instr.findNow;rw[o,decide_eq_true b.symm];rfl
   ·rw[Gu,if_pos b,l]
   ·unfold VB;rw[if_pos b];simp[n]
   ·intro g;have g:=List.nodup_cons.1 g;simp only[List.eraseIdx_zero,List.tail_cons];rw[n];congr 1;unfold gZ;rw[AS];simp only[b,decide_true,LI,BW,if_false];refine(List.filter_eq_self.2 λq y=>?_).symm;simp only[Cd,decide_eq_false_iff_not];rintro rfl;exact g.1 (by show p.1∈_;rw[b];exact IS (f:=Prod.fst) y)
  ·rcases Pp a v c m (i+1) n with⟨r,s,t,k,z⟩|⟨d,u,r,s,⟨A,t,B⟩,C,k⟩
   ·refine .inl ⟨?_,?_,?_,?_,?_⟩
    ·unfold Instr.findNow;rw[o,decide_eq_false (λe=>b e.symm)];exact r
    ·rw[Gu,if_neg b];exact s
    ·unfold VB;rw[if_neg b,t];rfl
    ·unfold gZ at k ⊢;rw[AS];simp[b];simpa using k
    ·intro x w;rcases List.mem_cons.1 w with rfl|w
     ·rw[j];intro e;injection e with _ e;exact b e
     ·exact z x w
   ·refine .inr ⟨d+1,u,?_,?_,⟨A,by simpa using t,B⟩,?_,?_⟩
    ·unfold Instr.findNow;rw[o,decide_eq_false (λe=>b e.symm)];rw[show i+(d+1)=i+1+d by omega];exact r
    ·rw[Gu,if_neg b];exact s
    ·unfold VB;rw[if_neg b];simp[j,l,C]
    ·intro g;have g:=List.nodup_cons.1 g;have:=k g.2;unfold gZ at this ⊢;rw[AS];simp[b,j,l];simpa using this
section
variable {P : Q1} {kd : IntKind}
theorem Gd {a:Q7}(c:P.underlying a=some (.int kd))(d:Bool)(e:Nat)(f:Int)(b:World):(Instr.checkKey d (e+1) a (.int kd f)).run P b= .ok () b:=by simp[Instr.checkKey,BO c]
theorem NH {g:ao}{t h i:Q7}{z:J0}(j:P.underlying t=some (.map h i))(c:P.underlying h=some (.int kd))(n:(zeroValue i).calc P=some z){a:aa}{b:Nat}{m:List (Int×J0)}{d:Int}{K:A2X}
  (M:Uu kd a b m) (o:K ((Ml d m).getD z) a):Ad g P (Instr.lookup t (.map (some b)) (.int kd d) false) a K:=by
 intro k;refine⟨_,a,k,?_,o⟩;obtain⟨p,v,q,s⟩:=M;have l:=MapKept.run_getObj_map (P:=P) (w:=g.at a k) (r:=b) q;rcases Pp d z p.toList m 0 s.same with⟨e,f,_⟩|⟨x,u,e,f,_,_⟩
 ·simp[Instr.lookup,BO j,l,Gd c,Instr.findKey,BO c,e,f,Result.andThen,DZ n]
 ·simp[Instr.lookup,BO j,l,Gd c,Instr.findKey,BO c,e,f,Result.andThen]
theorem AMc {g:ao}{t q G:Q7}(s:P.underlying t=some (.map q G))(h:P.underlying q=some (.int kd)){a:aa}{b:Nat}{m:List (Int×J0)}{d:Int}{v:J0}{K:aa->Prop}
  (M:Uu kd a b m) (O:m.length<maxLen) (y: ∀i,Uu kd i b (VB d v m)->Mod (λc=>c=b) a i->i.size=a.size->K i):Yx g P (Instr.mapUpdate t (.map (some b)) (.int kd d) v) a K:=by
 intro f;obtain⟨j,l,n,e⟩:=M;have z:=Ai n;have A:=MapKept.run_getObj_map (P:=P) (w:=g.at a f) (r:=b) n;have B: ∀k,(setObj b k).run P (g.at a f)= .ok () (g.at (a.setIfInBounds b k) f):=λk=>MapKept.run_setObj_map (P:=P) (w:=g.at a f) k n
 have Q:=e.len;rcases Pp d v j.toList m 0 e.same with⟨o,H,p,_,I⟩|⟨C,u,o,H,⟨J,p,D⟩,L,_⟩
 ·refine⟨a.setIfInBounds b (.map (j.push {key:= .int kd d,val:=v,born:=l}) (l+1)),f,?_,y _ ⟨_,_,Ci z,?_,MapKept.stamped_push e.stamped I,by simp;omega⟩ (Mod.setObj rfl) (by simp)⟩
  ·simp[Instr.mapUpdate,BO s,A,Gd h,Instr.findKey,BO h,o,Result.andThen,B]
  ·rw[p];simp[e.same]
 ·have E:j[C]? =some J:=by simpa using p
  refine⟨a.setIfInBounds b (.map (j.modify C λe=> {e with key:= .int kd d,val:=v}) l),f,?_,y _ ⟨_,_,Ci z,?_,MapKept.stamped_modify e.stamped _ _ (λ_ _=>rfl) (λx _ F=>?_),by simpa using e.size⟩ (Mod.setObj rfl) (by simp)⟩
  ·have N: ∀w,(Instr.keyThatStays (.int kd d) (.int kd d)).run P w= .ok (.int kd d) w:=λw=>by
    simp[Instr.keyThatStays,Instr.sameBits]
   simp[Instr.mapUpdate,BO s,A,Gd h,Instr.findKey,BO h,o,E,D,N,Result.andThen,B]
  ·rw[Hn];exact L
  ·rw[E] at F;cases F;exact D.symm
theorem AMV {g:ao}{t k B C:Q7}(s:P.underlying t=some (.map k B))(h:P.underlying k=some (.int kd)){a:aa}{b:Nat}{m:List (Int×J0)}{l:Int}{K:A2X}
  (M:Uu kd a b m) (v: ∀i,Uu kd i b (gZ l m)->Mod (λc=>c=b) a i->i.size=a.size->K (J1 #[]) i):Ad g P (Builtin.delete_ #[t,k] C #[.map (some b),.int kd l]) a K:=by
 intro e;obtain⟨f,x,n,d⟩:=M;have y:=Ai n;have z:=MapKept.run_getObj_map (P:=P) (w:=g.at a e) (r:=b) n;have A: ∀j,(setObj b j).run P (g.at a e)= .ok () (g.at (a.setIfInBounds b j) e):=λj=>MapKept.run_setObj_map (P:=P) (w:=g.at a e) j n
 rcases Pp l (J3 true) f.toList m 0 d.same with⟨o,D,_,p,_⟩|⟨q,u,o,D,⟨E,F,I⟩,_,p⟩
 ·refine⟨_,a.setIfInBounds b (.map f x),e,?_,v _ ⟨_,_,Ci y,by rw[p];exact d.same,d.stamped,d.size⟩ (Mod.setObj rfl) (by simp)⟩;simp[Builtin.delete_,BO s,z,Gd h,Instr.findKey,BO h,o,Result.andThen,A]
 ·have G:f[q]? =some E:=by simpa using F
  refine⟨_,a.setIfInBounds b (.map (f.eraseIdxIfInBounds q) x),e,?_,v _ ⟨_,_,Ci y,?_,MapKept.stamped_erase d.stamped _,?_⟩ (Mod.setObj rfl) (by simp)⟩
  ·simp[Builtin.delete_,BO s,z,Gd h,Instr.findKey,BO h,o,Result.andThen,A]
  ·have H:=(Array.getElem?_eq_some_iff.1 G).1;rw[Array.eraseIdxIfInBounds,dif_pos H,A0i];exact p d.nodup
  ·have:(f.eraseIdxIfInBounds q).size<=f.size:=by unfold Array.eraseIdxIfInBounds;split<;>simp
   have:=d.size;omega
end
theorem zB(b c:Int): ∀m:List (Int×J0),Ml c (gZ b m)=if b=c then none else Ml c m
 | []=>by simp[Ml,gZ]
 |p::m=>by
  have e:=zB b c m;unfold gZ at e ⊢;rw[AS,Gu];by_cases d:p.1=b
  ·rw[if_neg (by simp[d]),e];by_cases a:b=c
   ·rw[if_pos a,if_pos a]
   ·rw[if_neg a,if_neg a,if_neg (λf=>a (d.symm.trans f))]
  ·rw[if_pos (by simp[d]),Gu,e];by_cases a:p.1=c
   ·rw[if_pos a,if_pos a,if_neg (λf=>d (a.trans f.symm))]
   ·rw[if_neg a,if_neg a]
theorem ASa {a:Int}{m:List (Int×J0)}:(gZ a m).length<=m.length:=KK _ _
theorem Ze {k:Int}{v:J0}: ∀ {m:List (Int×J0)},(VB k v m).length<=m.length+1
 | []=>by simp[VB]
 |p::m=>by
  unfold VB;split
  ·simp
  ·have:=Ze (k:=k) (v:=v) (m:=m);simp only[An];omega
section
variable {P : Q1} {kd : IntKind}
theorem zC {i:ao}{t O Q:Q7}{z:J0}(R:P.underlying t=some (.map O Q))(A:P.underlying O=some (.int kd))(Y:(zeroValue Q).calc P=some z){f:aa}{b:Nat}{m:List (Int×J0)}{g:Int}{v:J0}{K:aa->Prop}
  (M:Uu kd f b m) (al:m.length<maxLen) (S: ∀B,Uu kd B b (VB g v m)->Mod (λc=>c=b) f B->B.size=f.size->K B):
  Ad i P (Instr.mapEntry t (.map (some b)) (.int kd g)) f λw n=> ∃x u:J0,w=J1 #[x,u]/\ ∃st:Int,u=J6 J9 st/\(Yx i P (Instr.entryStore t (.map (some b)) (J6 J9 st) v) n λZ=>K Z):=by
 intro y;obtain⟨e,d,E,h⟩:=M;have T:=Ai E;have U:=MapKept.run_getObj_map (P:=P) (w:=i.at f y) (r:=b) E;have V: ∀k,(setObj b k).run P (i.at f y)= .ok () (i.at (f.setIfInBounds b k) y):=λk=>MapKept.run_setObj_map (P:=P) (w:=i.at f y) k E
 have am:=h.len;obtain⟨ab,W,_⟩:=h.stamped;rcases Pp g v e.toList m 0 h.same with⟨F,ac,p,_,ae⟩|⟨j,u,F,ac,⟨q,p,C⟩,af,_⟩
 ·refine⟨J1 #[z,goInt d],f.setIfInBounds b (.map (e.push ⟨.int kd g,z,d⟩) (d+1)),y,?_,z,goInt d,rfl,(d:Int),rfl,λo=>?_⟩
  ·simp[Instr.mapEntry,BO R,U,Gd A,Instr.findKey,BO A,F,Result.andThen,DZ Y,V]
  have s:(f.setIfInBounds b (.map (e.push ⟨.int kd g,z,d⟩) (d+1)))[b]? =some (.map (e.push ⟨.int kd g,z,d⟩) (d+1)):=Ci T;have G:Mod (λc=>c=b) f (f.setIfInBounds b (.map (e.push ⟨.int kd g,z,d⟩) (d+1))):=Mod.setObj rfl;have ag:(f.setIfInBounds b (.map (e.push ⟨.int kd g,z,d⟩) (d+1))).size=f.size:=by simp
  generalize f.setIfInBounds b (.map (e.push ⟨.int kd g,z,d⟩) (d+1))=n at*
  have H:=Ai s;have I:=MapKept.run_getObj_map (P:=P) (w:=i.at n o) (r:=b) s;have J: ∀k,(setObj b k).run P (i.at n o)= .ok () (i.at (n.setIfInBounds b k) o):=λk=>MapKept.run_setObj_map (P:=P) (w:=i.at n o) k s
  have L:(e.push ⟨.int kd g,z,d⟩).findIdx? (λh=>((h.born:Nat):Int)==((d:Nat):Int))=some e.size:=by
   rw[WideElems.findIdx_arr];exact WideElems.findIdx_born (l:=(e.push ⟨.int kd g,z,d⟩).toList) (j:=e.size) (e0:=⟨.int kd g,z,d⟩) (by
    simp only[Sh,Cl,C5,List.map_nil];refine List.nodup_append.2 ⟨W,by simp,λa ah c ai an=>?_⟩;simp only[PB] at ai;obtain⟨x,D,rfl⟩:=List.mem_map.1 ah;have:=ab x D;omega) (by simp)
  have N:(e.push ⟨.int kd g,z,d⟩).modify e.size (λh=> {h with val:=v})=e.push ⟨.int kd g,v,d⟩:=by apply NO;rw[Hn,Sh,Sh,<-Ds,WideElems.modify_last]
  refine⟨n.setIfInBounds b (.map (e.push ⟨.int kd g,v,d⟩) (d+1)),o,?_,S _ ⟨_,_,Ci H,?_,MapKept.stamped_push h.stamped ae,by simp;omega⟩ (G.trans (Mod.setObj rfl)) (by simp;omega)⟩
  ·simp[Instr.entryStore,I,asInt,asIntOf,goInt,L,N,J,Result.andThen]
  ·rw[p];simp[h.same]
 ·have X:e[j]? =some q:=by simpa using p
  have aj:e.modify j (λh=> {h with key:= .int kd g})=e:=by
   apply NO;rw[Hn,ChangeMaps.modify_eq_set _ _ _ _ p];have:({q with key:= .int kd g}:MapEntry)=q:=by rw[<- C]
   rw[this];exact WideElems.set_self _ _ _ p
  have ak: ∀w,(Instr.keyThatStays (.int kd g) (.int kd g)).run P w= .ok (.int kd g) w:=λw=>by
   simp[Instr.keyThatStays,Instr.sameBits]
  refine⟨J1 #[u,goInt q.born],f.setIfInBounds b (.map e d),y,?_,u,goInt q.born,rfl,(q.born:Int),rfl,λo=>?_⟩
  ·simp[Instr.mapEntry,BO R,U,Gd A,Instr.findKey,BO A,F,X,C,ak,aj,Result.andThen,V]
  have s:(f.setIfInBounds b (.map e d))[b]? =some (.map e d):=Ci T;have G:Mod (λc=>c=b) f (f.setIfInBounds b (.map e d)):=Mod.setObj rfl;have ag:(f.setIfInBounds b (.map e d)).size=f.size:=by simp
  generalize f.setIfInBounds b (.map e d)=n at*
  have H:=Ai s;have I:=MapKept.run_getObj_map (P:=P) (w:=i.at n o) (r:=b) s;have J: ∀k,(setObj b k).run P (i.at n o)= .ok () (i.at (n.setIfInBounds b k) o):=λk=>MapKept.run_setObj_map (P:=P) (w:=i.at n o) k s
  have L:e.findIdx? (λh=>((h.born:Nat):Int)==((q.born:Nat):Int))=some j:=by rw[WideElems.findIdx_arr];exact WideElems.findIdx_born W p
  have N:e.modify j (λh=> {h with val:=v})=e.modify j (λh=> {h with key:= .int kd g,val:=v}):=by apply NO;rw[Hn,Hn,ChangeMaps.modify_eq_set _ _ _ _ p,ChangeMaps.modify_eq_set _ _ _ _ p,<-C]
  refine⟨n.setIfInBounds b (.map (e.modify j λh=> {h with key:= .int kd g,val:=v}) d),o,?_,S _ ⟨_,_,Ci H,?_,MapKept.stamped_modify h.stamped _ _ (λ_ _=>rfl) (λx _ D=>?_),by simpa using h.size⟩ (G.trans (Mod.setObj rfl)) (by simp;omega)⟩
  ·simp[Instr.entryStore,I,asInt,asIntOf,goInt,L,N,J,Result.andThen]
  ·rw[Hn];exact af
  ·rw[X] at D;cases D;exact C.symm
end
end Go.Lf
namespace Go.Lf.G
open Go
def CS(a:Nat):A2Y:=Ae [Cu 108,Cu a]
def LZ(a:Nat)(name:A2Y):A2Y:=Ae (Bt a++BX (bl name))
theorem LQ(a:Nat):(CS a).size=2:=rfl
theorem APN(a:Nat):CS a≠⟨#[]⟩:=λb=>by have:=congrArg ByteArray.size b;rw[LQ] at this;cases this
theorem AMX {m a:Nat}(c:m<256)(d:a<256)(h:CS m=CS a):m=a:=by have b:=Pm.1 h;simp only[G0,and_true,true_and] at b;have:=congrArg UInt8.toNat b;rwa [Dv c,Dv d] at this
theorem AM3 {a:Nat}{name:A2Y}(d:a<=2147483647)(b:Am name=true):(LZ a name).size<=8192:=by have e:=(Gt.1 b).2.1;have f:=AZ (n:=a) (by omega);have c:=AZ (n:=(bl name).length) (by rw[BF];omega);unfold LZ BX;rw[AP,A1,A1,BF];rw[BF] at c;omega
section
variable {A : ao} {h : aa} {R : A2X}
theorem U0 {a:Nat}(b:a<256)(e: ∀c,Ext h c->R (J7 (CS a)) c):AA A P Ib #[J6 J9 (a:Int)] h R:=by
 refine AGA ?_;unfold wI;refine Xg ?_;unfold TJ;refine ai.mk λd _ f g j=>?_
 have v1:View Ik d ⟨some ⟨h.size,0,none⟩,1,1⟩ [Cu a]:=(Own.lit (E:=Ik) (l:= [Cu a]) f (by simp[Ik,Dv b,wrap_u8,As b]) (by simp[maxLen])).view;refine NC (s:=⟨some ⟨h.size,0,none⟩,1,1⟩) mu mq SB v1 ⟨_,rfl,⟨_,rfl,⟨by rw[AP,max_i64,show(⟨#[108]⟩:A2Y).size=1 from rfl];simp,?_⟩⟩⟩;have i:(⟨#[108]⟩:A2Y)++Ae [Cu a]=CS a:=by rw[show(⟨#[108]⟩:A2Y)=Ae [Cu 108] from rfl,Aq];rfl
 rw[i];exact e d g
theorem pb {a:Nat}{name:A2Y}(k:1<=a)(m:a<=2147483647)(b:Am name=true)(f: ∀c,Ext h c->R (J1 #[J7 (LZ a name),J6 J9 0]) c):AA A P Lm #[J6 J9 (a:Int),J7 name] h R:=by
 obtain⟨l,rfl⟩: ∃l,name=Ae l:=⟨_,(Eh name).symm⟩;have d:=(Gt.1 b).2.1;rw[AP] at d;refine AIW ?_;unfold wJ;refine ah.mk λK g=>ab.no (decide_eq_false (by omega)) (ab.no (decide_eq_false (by omega)) (Fa ⟨_,rfl,g _ _ (ab.no (by rw[b];rfl) ?_)⟩))
 rw[CL (by omega)];have e:=AZ (n:=a) (by omega);have o:=AZ (n:=l.length) (by omega);refine Cj (by omega) λd i=>⟨_,rfl,?_⟩
 refine Sn (l:=l) (by omega) λe j=>⟨_,rfl,⟨?_,?_⟩⟩
 ·rw[AP,AP,max_i64];unfold BX;rw[A1];omega
 ·rw[Aq];have:=f e (i.trans j);unfold LZ at this;rwa [show bl (Ae l)=l from CE l] at this
theorem APw {r:Nat}{name:A2Y}(j:1<=r)(a:r<=2147483647)(b:Am name=true)(k: ∀d,Ext h d->R (J1 #[J6 J9 (r:Int),J7 name,J6 J9 0]) d):AA A P RP #[J7 (LZ r name)] h R:=by
 have m:=b;obtain⟨l,rfl⟩: ∃l,name=Ae l:=⟨_,(Eh name).symm⟩;have o:=(Gt.1 b).2.1;rw[AP] at o;have w:=AZ (n:=r) (by omega);have x:=AZ (n:=l.length) (by omega);have y:(BX l).length<=26:=by unfold BX;rw[A1];omega
 refine AFU ?_;unfold YH LZ;rw[show bl (Ae l)=l from CE l];refine N7 (l:=Bt r++BX l) λz p q=>⟨_,rfl,?_⟩
 refine Ei (most:=2147483647) p (by simp only[A1];omega) (by decide) λB e s=>⟨_,rfl,?_⟩
 rw[De (by omega) a] at e ⊢;refine Iw e (by dsimp only;omega) λt f u=>⟨_,rfl,?_⟩
 have g:=Iz (l:=l) (by omega) [];rw[AI] at g;rw[g] at f ⊢;refine pb j a m λhd i=>⟨_,_,rfl,?_⟩
 refine ah.mk λK v=>ab.no rfl (Qk (r:=⟨[],false⟩) (i.ag f λh=>h) ⟨_,rfl,v _ _ (ab.no rfl ?_)⟩)
 exact k hd ((q.then ((s.trans u).ak λc _ t=> .inr (by omega))).trans i)
end
theorem uZ: ∀(k a:Nat),I8 (k+1) a=Cu (a / 256^k)::I8 k a
 |0,a=>by rw[I8,I8];simp[I8]
 |k+1,a=>by
  rw[I8,uZ k (a / 256),Dd];show Cu (a / 256 / 256^k)::(I8 k (a / 256)++ [Cu a])=_;rw[UP,show 256*256^k=256^(k+1) from by rw[D0,Cp]];rfl
theorem vd(m:Nat):(m:Int).fdiv ((2:Int)^(8:Nat))=((m / 256:Nat):Int):=by rw[show((2:Int)^(8:Nat))=256 from by decide,US _ (by decide)];omega
section
variable {A : ao} {h : aa} {R : A2X}
theorem Ww {n:Nat}(r: ∀o,Ext h o->R (J7 (Ae (I8 8 n))) o):AA A P KC #[.int .u64 (n:Int)] h R:=by
 refine AGs ?_;unfold vW;refine oK (E:=Ik) (x0:=0) (v:= .int .u8 0) (n:=8) XE AOp rfl rfl rfl (by omega) (by simp only[maxLen];omega) λt u w D=>?_
 dsimp only;refine Loop.rule (λm x d=> ∃i:Nat,x=(((n / 256^i:Nat):Int),(i:Int),())/\m=8-i/\i<=8/\Mod (λc=>c=h.size) t d/\Own Ik EZ d ⟨some ⟨h.size,0,none⟩,8,8⟩ (List.replicate (8-i) 0++I8 i n)) ?_ ⟨0,by simp,rfl,by omega,Mod.refl,by simpa [I8] using u⟩;rintro F m _ d ⟨i,rfl,rfl,hi,p,f⟩ y;dsimp only;refine ab.intro (λg=>?_) (λg=>?_)
 ·have k:i<8:=by simp at g;omega
  rw[wrap_i64 (by omega) (by omega),show(7:Int)-(i:Int)=((7-i:Nat):Int) from by omega,vd,Ac (by omega),UP,<-D0];have af:(List.replicate (8-i) (0:UInt8)++I8 i n)[7-i]? =some 0:=by rw[Hc (by simp;omega),List.getElem?_replicate,if_pos (by omega)]
  refine f.view.idx af λa z G=>?_
  rw[A6,<-add_zero (a.add ((7-i)*1)),wrap_u8];refine Own.store (E:=Ik) (i:=7-i) (j:=0) (x:=0) (x':=Cu (n / 256^i)) (v:= .int .u8 ((n / 256^i % 256:Nat):Int)) f af (by show [Value.int .u8 _]=_;rw[SS,Dv (by omega)];rfl) (by decide) (λH q B I=>?_) a z;refine y (8-(i+1)) _ _ (by omega) ⟨i+1,rfl,rfl,k,p.trans (B.ak λb _ e=>?_),?_⟩
  ·simp[Sl.ag] at e;exact e.symm
  ·have C:(List.replicate (8-i) (0:UInt8)++I8 i n).set (7-i) (Cu (n / 256^i))=List.replicate (8-(i+1)) 0++I8 (i+1) n:=by rw[uZ,show 8-i=(7-i)+1 from by omega,List.replicate_succ',A4,HS _ _ (by simp),V0,My,show 8-(i+1)=7-i from by omega];rfl
   rw[C] at q;exact q
 ·have k:i=8:=by simp at g;omega
  subst k;refine NC XE ARa AOd (s:=⟨some ⟨h.size,0,none⟩,8,8⟩) (l:=I8 8 n) (by simpa using f.view) ⟨_,rfl,?_⟩;exact r d (w.more p λb e=>by subst e;exact A0 _)
theorem vg {wid:A2Y}(e:wid.size<=1000000)(b: ∀a,Ext h a->R (J7 (Yd wid)) a):AA A P NT #[J7 wid] h R:=by
 refine ADo ?_;unfold YM;have f:=AZ (n:=(bl wid).length) (by rw[BF];omega);refine LU (by omega) λc d=>⟨_,rfl,⟨?_,?_⟩⟩
 ·rw[AP,max_i64];unfold BX;rw[A1,BF] at*
  rw[show(⟨#[104]⟩:A2Y).size=1 from rfl];omega
 ·rw[show(⟨#[104]⟩:A2Y)=Ae [kE] from rfl,Aq];exact b c d
theorem vm {wid:A2Y}{id:Nat}(b:wid.size<=1000000)(c:id<18446744073709551616)(d: ∀a,Ext h a->R (J7 (dP wid id)) a):AA A P Ov #[J7 wid,J6 J9 (id:Int)] h R:=by
 refine AGG ?_;unfold ZR;refine vg b λi e=>⟨_,rfl,?_⟩
 rw[if_neg (by omega),CL c];have j:=AZ (n:=(bl wid).length) (by rw[BF];omega);refine Ww λf g=>⟨_,rfl,⟨⟨by decide,by rw[AP,Lx];decide⟩,?_⟩⟩
 rw[show(Ae (I8 8 id)).extract (4:Int).toNat (Ae (I8 8 id)).size=Ae (I8 4 id) from Wx (I8 8 id) 4];refine⟨?_,?_⟩
 ·unfold Yd kM BX;rw[AP,AP,Lx,max_i64];simp only[An,A1,BF] at*
  omega
 ·have:=d f (e.trans g);unfold Yd;rw[Aq];exact this
theorem nB {wid:A2Y}(c:wid.size<=1000000)(a:R (J7 (Kg wid)) h):AA A P Gj #[J7 wid] h R:=by
 refine AJg ?_;unfold xB;refine⟨by rw[max_i64,show(⟨#[119]⟩:A2Y).size=1 from rfl];omega,?_⟩;have b:(⟨#[119]⟩:A2Y)++wid=Kg wid:=by
  conv=>lhs;rw[<- Eh wid]
  rw[show(⟨#[119]⟩:A2Y)=Ae [119] from rfl,Aq];rfl
 rw[b];exact a
theorem vo {a:A2Y}(d:a.size<=1000000)(b:R (J7 (LA a)) h):AA A P Kj #[J7 a] h R:=by
 refine ABe ?_;unfold UN;refine⟨by rw[max_i64,show(⟨#[114]⟩:A2Y).size=1 from rfl];omega,?_⟩;have c:(⟨#[114]⟩:A2Y)++a=LA a:=by
  conv=>lhs;rw[<- Eh a]
  rw[show(⟨#[114]⟩:A2Y)=Ae [114] from rfl,Aq];rfl
 rw[c];exact b
theorem nC {a:Nat}(b:a<256)(e: ∀c,Ext h c->R (J7 (Ae [Cu a])) c):AA A P MW #[J6 J9 (a:Int)] h R:=by
 refine Xg ?_;unfold TJ;refine ai.mk λd _ f g i=>?_
 have v1:View Ik d ⟨some ⟨h.size,0,none⟩,1,1⟩ [Cu a]:=(Own.lit (E:=Ik) (l:= [Cu a]) f (by
  show [Value.int .u8 (J8 .u8 (a:Int))]= [Value.int .u8 ((Cu a).toNat:Int)];rw[wrap_u8,Dv b,As b]) (by simp[maxLen])).view
 exact NC (s:=⟨some ⟨h.size,0,none⟩,1,1⟩) mu mq SB v1 ⟨_,rfl,e d g⟩
theorem AS6 {a id:Nat}(c:a<256)(d: ∀b,Ext h b->R (J7 (DD a id)) b):AA A P Ko #[J6 J9 (a:Int),.int .u64 (id:Int)] h R:=by
 refine AA3 ?_;unfold UQ;refine Qw ?_;unfold NI;refine nC c λi e=>⟨_,rfl,⟨by rw[AP,max_i64];show((2:Nat):Int)<=9223372036854775807;decide,⟨_,rfl,?_⟩⟩⟩
 rw[show(⟨#[116]⟩:A2Y)=Ae [116] from rfl,Aq];refine Ww λf g=>⟨_,rfl,⟨by rw[AP,AP,Lx,max_i64];show((10:Nat):Int)<=9223372036854775807;decide,?_⟩⟩
 rw[Aq];exact d f (e.trans g)
theorem ASz {a id t:Nat}(c:a<256)(d:t<18446744073709551616)(e: ∀b,Ext h b->R (J7 (UD a t id)) b):AA A P PM #[J6 J9 (a:Int),J6 J9 (t:Int),.int .u64 (id:Int)] h R:=by
 refine AGZ ?_;unfold Zy;refine VM ?_;unfold Rm;refine nC c λk f=>⟨_,rfl,⟨by rw[AP,max_i64];show((2:Nat):Int)<=9223372036854775807;decide,⟨_,rfl,?_⟩⟩⟩
 rw[show(⟨#[109]⟩:A2Y)=Ae [109] from rfl,Aq,if_neg (by omega),CL d];refine Ww λl g=>⟨_,rfl,⟨by rw[AP,AP,Lx,max_i64];show((10:Nat):Int)<=9223372036854775807;decide,?_⟩⟩
 rw[Aq];refine Ww λi j=>⟨_,rfl,⟨by rw[AP,AP,A1,Lx,max_i64];show((18:Nat):Int)<=9223372036854775807;decide,?_⟩⟩
 rw[Aq];exact e i ((f.trans g).trans j)
theorem vq {m:cJ}{st nx:Nat}(f:m.status=(st:Int))(g:m.next=(nx:Int))(s:st<128)(t:nx<=501)(i: ∀d,Ext h d->R (J7 (R4 st nx m.kept)) d):AA A P FZ #[m.v] h R:=by
 refine Y9 ?_;unfold Qh;have u:=F3 (n:=st) (by omega);have v:=F3 (n:=nx) (by omega);refine ai.mk λj _ b k w=>ah.mk λK l=>?_
 have key: ∀n:Nat,n=(if m.kept then 1 else 0)->K ((n:Int),()) j:=λn c=>by
  refine l _ _ (AC.mk (AO b rfl) (AC.mk (AB b rfl) ?_));have x:(Bt n).length<=2:=F3 (by split at c<;>omega);rw[f,CL (by omega)];refine Cj (by omega) λy e=>⟨_,rfl,?_⟩
  have o:=e.ag b (λh=>h);refine⟨AB o rfl,?_⟩;rw[g,CL (by omega)];refine Cj (by omega) λz p=>⟨_,rfl,⟨by rw[AP,AP,max_i64];omega,?_⟩⟩
  rw[Aq];refine Cj (by split at c<;>omega) λq r=>⟨_,rfl,⟨by rw[AP,AP,A1,max_i64];omega,?_⟩⟩
  rw[Aq,A4];have:=i q (((k.trans e).trans p).trans r);unfold R4 at this;rw[<- c] at this;exact this
 refine Aa.mk (AB b rfl) (ab.intro (λa=>?_) (λa=>?_))
 ·have a:m.kept=true:=a;exact key 1 (by rw[a];rfl)
 ·have a:m.kept=false:=a;exact key 0 (by rw[a];rfl)
theorem AMx {st nx:Nat}{a:Bool}(s:st<=4)(O:2<=nx)(t:nx<=501)(u: ∀l,Ext h l->R (J1 #[(⟨(st:Int),(nx:Int),a⟩:cJ).v,J6 J9 0]) l):AA A P Pv #[J7 (R4 st nx a)] h R:=by
 refine ACv ?_;unfold VA;refine ai.mk λv _ m o Q=>?_
 unfold R4;have S:=F3 (n:=st) (by omega);have T:=F3 (n:=nx) (by omega);have U:(Bt (if a then 1 else 0)).length<=2:=F3 (by split<;>omega);have w:CZ 1 ⟨Bt (if a then 1 else 0),false⟩=((if a then 1 else 0),⟨[],false⟩):=by have:=De (n:=if a then 1 else 0) (most:=1) (by split<;>omega) (by split<;>omega) [];rwa [AI] at this
 refine N7 λx p d=>⟨_,rfl,?_⟩
 refine Ei (most:=4) p (by simp only[A1];omega) (by decide) λV y e=>⟨_,rfl,?_⟩
 rw[De (by omega) s] at*
 refine Ei (most:=501) y (by simp only[A1];omega) (by decide) λW z f=>⟨_,rfl,?_⟩
 rw[De (by omega) t] at*
 refine Ei (most:=1) z (by simp only;omega) (by decide) λB C g=>⟨_,rfl,?_⟩
 rw[w] at*
 refine ai.mk λX _ D i Y=>aD.mk D (A0 3) λj q k Z=>?_
 have aa:=Ai m;have ac:=d.size;have ae:=e.size;have af:=f.size;have ag:=g.size;have E:j[h.size]? =some (J2 cJ.z.c Jg (0,0)):=k.ag (i.ag (g.ag (f.ag (e.ag (d.ag m (λh=>h)) (by omega)) (by omega)) (by omega)) (λh=>h)) (by omega);have F:LF j v.size ⟨[],false⟩:=k.ag (i.ag C (λh=>h)) (by have:=Ai p;omega);have G:Ext h j:=by
  have H:Ext h x:=o.trans d;have r:Ext h B:=H.more ((e.trans f).trans g) λc b=>by subst b;exact o.size
  exact(r.trans i).more k λc b=>by subst b;exact r.size
 refine ah.mk λK I=>Qk F ⟨_,rfl,ab.no rfl (AC.mk (AB q rfl) (I _ _ (ab.no (decide_eq_false (by show ¬((nx:Int)<2);omega)) ?_)))⟩
 have J:(((if a then 1 else 0:Nat):Int)==(1:Int))=a:=by cases a<;>rfl
 refine Pb.mk ⟨(st:Int),(nx:Int),_⟩ (Bz q rfl) (aD.mk E (A0 3) λL M N aj=>Pb.mk ⟨(st:Int),(nx:Int),_⟩ (Bz M rfl) ?_);rw[J];exact u L (G.more N λc b=>by subst b;exact A0 _)
def Ao(wid:A2Y)(a:Nat):Nat:=Xo wid / 256 % a
theorem vt {wid:A2Y}{a:Nat}(d:wid.size<=1000000)(e:1<=a)(f:a<=16)(b:R (J1 #[J6 J9 (Ao wid a:Int),J6 J9 0]) h):AA A P Ow #[J7 wid,J6 J9 (a:Int)] h R:=by
 refine AGw ?_;unfold xk;refine ah.mk λK c=>ab.no (decide_eq_false (by omega)) ?_
 refine c _ _ (ab.no (decide_eq_false (by omega)) (p6 (by omega) ⟨_,_,rfl,⟨by omega,?_⟩⟩));have g:=(sy wid);rw[vd,wrap_i64 (by omega) (by omega)];exact b
end
def fZ(p f:A2Y):A2Y:=if aI p f then f else p
theorem AWV(p f b:A2Y):aI b (fZ p f)=false↔aI b p=false/\aI b f=false:=by
 unfold fZ;split
 ·rename_i c;refine⟨λa=>⟨?_,a⟩,λa=>a.2⟩;cases d:aI b p
  ·rfl
  ·rw[DW d c] at a;cases a
 ·rename_i c;refine⟨λa=>⟨a,?_⟩,λa=>a.1⟩;exact rk (by simpa using c) a
def Rf(p:A2Y):A2Y:=⟨((eE p.data.toList).getD []).toArray⟩
theorem AWj: ∀ {p q:List UInt8},eE p=some q->q≠ []
 | [],q,b=>by cases b
 |a::p,q,b=>by
  unfold eE at b;split at b
  ·obtain rfl:=Bk b;simp
  ·split at b
   ·obtain rfl:=Bk b;simp
   ·cases b
theorem ASF(p c:A2Y):(decide (Rf p=⟨#[]⟩)||aI c (Rf p))=true↔ ∀q,eE p.data.toList=some q->c.data.toList<q:=by
 unfold Rf;cases d:eE p.data.toList with
 |none=>simp
 |some q=>
  have e:=AWj d;have a:decide ((⟨(Option.getD (some q) []).toArray⟩:A2Y)=⟨#[]⟩)=false:=decide_eq_false λa=>e (by
   have:=congrArg (λb:A2Y=>b.data.toList) a;simpa using this)
  rw[a,Ix,XG];simp
theorem ATp(p f a:A2Y):jW (fZ p f) (Rf p) a=(Lt p a&& !aI a f):=by
 rw[DH];unfold jW;rw[A3,A3,ASF,Cd,AWV,Pq,<-zz,Cd];rw[show(aI a p=false↔ ¬a.data.toList<p.data.toList) from by rw[XG];simp];constructor
 ·rintro⟨⟨b,c⟩,d⟩;exact⟨⟨b,d⟩,c⟩
 ·rintro⟨⟨b,d⟩,c⟩;exact⟨⟨b,c⟩,d⟩
def jb(m:List Pr)(p f:A2Y)(a:Int):List Pr:=(m.filter λx=>Lt p x.key&& !aI x.key f).take a.toNat
theorem ARS(m:List Pr)(p f:A2Y)(a:Int):mG m (fZ p f) (Rf p) a=jb m p f a:=by unfold mG Sj jb;rw[HI λx _=>ATp p f x.key]
def Be(m:List Pr)(c:Pr):Bool:=if c.gone then !(JM m c.key).2 else(JM m c.key).2&&decide ((JM m c.key).1=c.val)
end Go.Lf.G
