/-
 Contracts: what a state becomes by an event (chapter 14): the parts.
-/
import Derived.Test.YtecomiijolnjpaaGreatDoorLfG1
import Derived.Test.YtecomiijolnjpaaGreatDoorLfJToGA
import Derived.Test.YtecomiijolnjpaaGreatDoorLfM12ToZ8
import Derived.Test.YtecomiijolnjpaaGreatDoorLfU2ToY5
import Derived.WideKeyEntry
import Derived.Test.YtecomiijolnjpaaGreatDoorLfZ9ToGLEngineFull
set_option maxRecDepth 100000
set_option linter.unusedVariables false
set_option linter.unusedSimpArgs false
open Go.IntKind renaming i64→J9,wrap→J8
open Go.Value renaming string→J7,int→J6,pointer→J5,slice→J4,bool→J3,tuple→J1
open Go.Obj renaming cells→J2
open Go renaming Value→J0,Addr→Q6,TypeId→Q7,FuncId→Q8,Program→Q1
open Go.Addr renaming add→Q9,mk→Q5
namespace Go.Lf.G
open Go
end Go.Lf.G
namespace Go.Lf
open G
open Go
abbrev ba.V(s:ba)(a b c:Sl):bF:=⟨a,s.prog.aA,s.status,s.next,s.aW,s.asked,s.taken,s.fresh,b,c,s.cancel,s.aP⟩
end Go.Lf
namespace Go.Lf.G
open Go
structure Ia (h:aa) (s:ba) (a b c:Sl):Prop where
 steps:View QS h a s.prog.steps
 ar:View fh h b s.ar
 aj:View fX h c s.aj
theorem Ia.mod {g:Nat->Prop}{h j:aa}{s:ba}{a b c:Sl}(i:Ia h s a b c)(m:Mod g h j)(k: ∀x,a.af=some x-> ¬g x)(l: ∀x,b.af=some x-> ¬g x)(n: ∀x,c.af=some x-> ¬g x):Ia j s a b c:=
 ⟨i.steps.mod m λx d f=>k x d f,i.ar.mod m λx d f=>l x d f,i.aj.mod m λx d f=>n x d f⟩
theorem Ia.ext {h f:aa}{s:ba}{a b c:Sl}(d:Ia h s a b c)(x:Ext h f):Ia f s a b c:=⟨d.steps.ext x,d.ar.ext x,d.aj.ext x⟩
structure D3 (h hh:aa) (T0 T1 T2:Q7) (x:bF) (e:Ev) (y:bF):Prop where
 ext:Ext h hh
 b0:hh[h.size]? =some (J2 x.c T0 (0,0))
 b1:hh[h.size+1]? =some (J2 e.c T1 (0,0))
 b2:hh[h.size+2]? =some (J2 y.c T2 (0,0))
section
variable {A : al} {h hh : aa} {T0 T1 T2 : Q7} {x y : bF} {e : Ev} {R : A2N}
theorem kU {K:Nat->Nat->Nat->aa->Prop}(m: ∀hh,D3 h hh T0 T1 T2 x e y->K h.size (h.size+1) (h.size+2) hh):
  ak h (J2 x.c T0) λb f=>ak f (J2 e.c T1) λn g=>ak g (J2 y.c T2) λo a=>K b n o a:=by
 refine ak.mk λf _ p q c=>ak.mk λg _ i j k=>ak.mk λa _ l d r=>?_
 rw[c] at i;rw[k,c] at l;have:=m a ⟨(q.trans j).trans d,d.af (j.af p (λh=>h)) (λh=>h),d.af i (λh=>h),l⟩;rw[k,c];exact this
theorem D3.on {b:aa}(a:D3 h hh T0 T1 T2 x e y)(m:Ext hh b):D3 h b T0 T1 T2 x e y:=⟨a.ext.trans m,m.af a.b0 (λh=>h),m.af a.b1 (λh=>h),m.af a.b2 (λh=>h)⟩
theorem D3.set {c:Nat}{v:J0}{x':bF}{K:aa->Prop}(a:D3 h hh T0 T1 T2 x e y)(d:c<12)(f:x.c.setIfInBounds c v=x'.c)(g: ∀h',D3 h h' T0 T1 T2 x' e y->K h'):ab hh ((⟨h.size,0,none⟩:Q6).add c) v K:=
 ab.bL a.b0 d f λh' i m s=>g h' ⟨a.ext.more m λb j=>by subst j;exact A0 _,i,m.af a.b1 (by omega),m.af a.b2 (by omega)⟩
theorem D3.ib {j:Nat}{v:J0}{x':bF}{K:aa->Prop}(d:D3 h hh T0 T1 T2 x e y)(f:j<12)(g:x.c.setIfInBounds j v=x'.c)(i: ∀a,D3 h a T0 T1 T2 x' e y->Mod (λc=>c=h.size) hh a->K a):ab hh ((⟨h.size,0,none⟩:Q6).add j) v K:=
 ab.bL d.b0 f g λa k m s=>i a ⟨d.ext.more m λb l=>by subst l;exact A0 _,k,m.af d.b1 (by omega),m.af d.b2 (by omega)⟩ m
theorem D3.nW {v:J0}{x':bF}{K:aa->Prop}(b:D3 h hh T0 T1 T2 x e y)(d:x.c.setIfInBounds 0 v=x'.c)(f: ∀a,D3 h a T0 T1 T2 x' e y->Mod (λc=>c=h.size) hh a->K a):ab hh (⟨h.size,0,none⟩:Q6) v K:=
 b.ib (j:=0) (by decide) d f
theorem D3.cJ {j:Nat}{v:J0}(a:D3 h hh T0 T1 T2 x e y)(b:x.c[j]? =some v):ag hh ((⟨h.size,0,none⟩:Q6).add j)=some v:=AB a.b0 b
theorem D3.bL {j:Nat}{v:J0}(a:D3 h hh T0 T1 T2 x e y)(b:e.c[j]? =some v):ag hh ((⟨h.size+1,0,none⟩:Q6).add j)=some v:=AB a.b1 b
theorem Eh {h:aa}{b:Nat}{T:Q7}{fr:Nat×Nat}{x:bF}(a:h[b]? =some (J2 x.c T fr)):Cells h ⟨b,0,none⟩ x.l:=Dj a rfl
theorem Ph {h:aa}{b:Nat}{T:Q7}{fr:Nat×Nat}{x:Ev}(a:h[b]? =some (J2 x.c T fr)):Cells h ⟨b,0,none⟩ x.l:=Dj a rfl
theorem OG(x y:bF):Ye y.c 0 x.l=x.c:=rfl
theorem p5(x y:Ev):Ye y.c 0 x.l=x.c:=rfl
theorem p7(x y:bP):Ye y.c 0 x.l=x.c:=rfl
theorem D3.j4(a:D3 h hh T0 T1 T2 x e y):ag hh (⟨h.size,0,none⟩:Q6)=some (J4 x.steps.p x.steps.len x.steps.cap)/\ag hh ((⟨h.size,0,none⟩:Q6).add 1)=some (J6 J9 x.aA)/\ag hh ((⟨h.size,0,none⟩:Q6).add 2)=some (J6 J9 x.status)/\ag hh ((⟨h.size,0,none⟩:Q6).add 3)=some (J6 J9 x.next)/\ag hh ((⟨h.size,0,none⟩:Q6).add 4)=some (J6 J9 x.aW)/\ag hh ((⟨h.size,0,none⟩:Q6).add 5)=some (J6 J9 x.asked)/\ag hh ((⟨h.size,0,none⟩:Q6).add 6)=some (J6 J9 x.taken)/\ag hh ((⟨h.size,0,none⟩:Q6).add 7)=some (J3 x.fresh)/\ag hh ((⟨h.size,0,none⟩:Q6).add 8)=some (J4 x.ar.p x.ar.len x.ar.cap)/\ag hh ((⟨h.size,0,none⟩:Q6).add 9)=some (J4 x.aj.p x.aj.len x.aj.cap)/\ag hh ((⟨h.size,0,none⟩:Q6).add 10)=some (J3 x.cancel)/\ag hh ((⟨h.size,0,none⟩:Q6).add 11)=some (J3 x.aP):=
 ⟨a.cJ (j:=0) rfl,a.cJ (j:=1) rfl,a.cJ (j:=2) rfl,a.cJ (j:=3) rfl,a.cJ (j:=4) rfl,a.cJ (j:=5) rfl,a.cJ (j:=6) rfl,a.cJ (j:=7) rfl,a.cJ (j:=8) rfl,a.cJ (j:=9) rfl,a.cJ (j:=10) rfl,a.cJ (j:=11) rfl⟩
theorem D3.eT {K:bF->Prop}(a:D3 h hh T0 T1 T2 x e y)(b:K x):Av hh ⟨h.size,0,none⟩ K:=Av.mk x (Eh a.b0) b
theorem D3.jI {K:Ev->Prop}(a:D3 h hh T0 T1 T2 x e y)(b:K e):Mo hh ⟨h.size+1,0,none⟩ K:=Mo.mk e (Ph a.b1) b
theorem D3.lR {z:bF}{K:aa->Prop}(d:D3 h hh T0 T1 T2 x e y)(g: ∀a,D3 h a T0 T1 T2 z e y->Mod (λc=>c=h.size) hh a->K a):aK hh ⟨h.size,0,none⟩ z.l K:=
 aK.mk d.b0 (A0 12) λa f m s=>g a ⟨d.ext.more m λb i=>by subst i;exact A0 _,(by rw[OG] at f;exact f),m.af d.b1 (by omega),m.af d.b2 (by omega)⟩ m
theorem D3.tell {z:bF}{K:bF->aa->Prop}(c:D3 h hh T0 T1 T2 x e y)(g: ∀a,Ext h a->K z a):aK hh ⟨h.size+2,0,none⟩ z.l λd=>Av d ⟨h.size+2,0,none⟩ λr=>K r d:=
 aK.mk c.b2 (A0 12) λa f m s=>Av.mk z (Eh (by rw[OG] at f;exact f)) (g a (c.ext.more m λb i=>by subst i;omega))
theorem D3.iE {z:bF}{K:bF->aa->Prop}(d:D3 h hh T0 T1 T2 x e y)(i: ∀a,Ext h a->Mod (λc=>c=h.size+2) hh a->K z a):aK hh ⟨h.size+2,0,none⟩ z.l λf=>Av f ⟨h.size+2,0,none⟩ λr=>K r f:=
 aK.mk d.b2 (A0 12) λa g m s=>Av.mk z (Eh (by rw[OG] at g;exact g)) (i a (d.ext.more m λb j=>by subst j;omega) m)
theorem D3.ret {K:bF->aa->Prop}(a:D3 h hh T0 T1 T2 x e y)(d: ∀b,Ext h b->K x b):Av hh ⟨h.size,0,none⟩ λt=>aK hh ⟨h.size+2,0,none⟩ t.l λc=>Av c ⟨h.size+2,0,none⟩ λr=>K r c:=
 a.eT (a.tell d)
theorem D3.nX {K:bF->aa->Prop}(b:D3 h hh T0 T1 T2 x e y)(f: ∀a,Ext h a->Mod (λc=>c=h.size+2) hh a->K x a):Av hh ⟨h.size,0,none⟩ λt=>aK hh ⟨h.size+2,0,none⟩ t.l λd=>Av d ⟨h.size+2,0,none⟩ λr=>K r d:=
 b.eT (b.iE f)
theorem zG {s:ba}{a b c:Sl}(T:2<=e.kind/\e.kind<=5)(D: ∀n,Ext h n->R (J1 #[(((Df s e).getD s).V a b c).v,J3 (Df s e).isSome]) n):AA A P LP #[(s.V a b c).v,e.v] h R:=by
 refine WV ?_;unfold Pd;refine kU λI d=>?_
 refine ah.mk λK J=>ah.mk λL M=>?_
 have w: ∀ {t:ba} {hh:aa},D3 h hh Aq BD Aq (t.V a b c) e bF.z->Df s e=some t->K () hh:=λ{t hh} d hd=>by
  refine J _ _ (d.ret λn x=>?_);have:=D n x;rw[hd] at this;exact this
 have no: ∀ {hh:aa},D3 h hh Aq BD Aq (s.V a b c) e bF.z->Df s e=none->Av hh ⟨h.size,0,none⟩ λt=>aK hh ⟨h.size+2,0,none⟩ t.l λE=>Av E ⟨h.size+2,0,none⟩ λr=>R (J1 #[r.v,J3 false]) E:=λ{hh} d hd=>by
  refine d.ret λn x=>?_
  have:=D n x;rw[hd] at this;exact this
 have key: ∀(o:Bool),(e.kind=2->(o=true↔s.asked=0/\s.taken=0/\s.fresh=true))->(e.kind≠2->o=false)->L (o,()) I:=λo F N=>by
  refine M _ _ (ae.intro (λk=>?_) (λk=>?_))
  ·have k:o=true:=k;have g:e.kind=2:=Decidable.byContradiction λh=>by rw[N h] at k;cases k
   refine AC.mk (d.bL (j:=0) rfl) (d.set (x':=({s with asked:=e.id}:ba).V a b c) (by decide) rfl λB m=>w m ?_);unfold Df;rw[if_pos g,if_pos ((F g).1 k)]
  ·have k:o=false:=k;refine ah.mk λU G=>AC.mk (d.bL (j:=1) rfl) (ae.intro (λi=>?_) (λi=>?_))
   ·have i:e.kind=3:=by simpa using i
    refine AC.mk (d.cJ (j:=5) rfl) (AC.mk (d.bL (j:=3) rfl) (G _ _ (ae.intro (λf=>?_) (λf=>?_))))
    ·have f:s.asked=e.ref:=by simpa using f
     refine AC.mk (d.bL (j:=0) rfl) (d.set (x':=({s with asked:=0}:ba).V a b c) (by decide) rfl λB m=>⟨m.bL (j:=0) rfl,?_⟩);refine m.set (x':=({s with asked:=0,taken:=e.id}:ba).V a b c) (by decide) rfl λO C=>C.set (x':=({s with asked:=0,taken:=e.id,fresh:=false}:ba).V a b c) (by decide) rfl λV Q=>w Q ?_
     unfold Df;rw[if_neg (by omega),if_pos i,if_pos f]
    ·have f:s.asked≠e.ref:=by simpa using f
     refine ah.mk λS z=>AC.mk (d.bL (j:=1) rfl) (ae.no (by simp[i]) (z _ _ (ae.no rfl ?_)))
     refine ah.mk λH p=>AC.mk (d.bL (j:=1) rfl) (ae.no (by simp[i]) (p _ _ (ae.no rfl (no d ?_))))
     unfold Df;rw[if_neg (by omega),if_pos i,if_neg f]
   ·have i:e.kind≠3:=by simpa using i
    refine G _ _ (ae.no rfl (ah.mk λS z=>AC.mk (d.bL (j:=1) rfl) (ae.intro (λl=>?_) (λl=>?_))))
    ·have l:e.kind=4:=by simpa using l
     refine AC.mk (d.cJ (j:=6) rfl) (AC.mk (d.bL (j:=3) rfl) (z _ _ (ae.intro (λf=>?_) (λf=>?_))))
     ·have f:s.taken=e.ref:=by simpa using f
      refine d.set (x':=({s with taken:=0}:ba).V a b c) (by decide) rfl λB m=>w m ?_
      unfold Df;rw[if_neg (by omega),if_neg i,if_pos l,if_pos f]
     ·have f:s.taken≠e.ref:=by simpa using f
      refine ah.mk λH p=>AC.mk (d.bL (j:=1) rfl) (ae.no (by simp[l]) (p _ _ (ae.no rfl (no d ?_))))
      unfold Df;rw[if_neg (by omega),if_neg i,if_pos l,if_neg f]
    ·have l:e.kind≠4:=by simpa using l
     refine z _ _ (ae.no rfl (ah.mk λH p=>AC.mk (d.bL (j:=1) rfl) (ae.intro (λv=>?_) (λv=>?_))))
     ·have v:e.kind=5:=by simpa using v
      refine AC.mk (d.cJ (j:=6) rfl) (AC.mk (d.bL (j:=3) rfl) (p _ _ (ae.intro (λf=>?_) (λf=>?_))))
      ·have f:s.taken=e.ref:=by simpa using f
       refine d.set (x':=({s with taken:=0}:ba).V a b c) (by decide) rfl λB m=>m.set (x':=({s with taken:=0,fresh:=true}:ba).V a b c) (by decide) rfl λO C=>w C ?_
       unfold Df;rw[if_neg (by omega),if_neg i,if_neg l,if_pos f]
      ·have f:s.taken≠e.ref:=by simpa using f
       refine no d ?_;unfold Df;rw[if_neg (by omega),if_neg i,if_neg l,if_neg f]
     ·have v:e.kind≠5:=by simpa using v
      have g:e.kind=2:=by omega
      refine p _ _ (ae.no rfl (no d ?_));unfold Df;rw[if_pos g,if_neg λh=>by rw[(F g).2 h] at k;cases k]
 refine AC.mk (d.bL (j:=1) rfl) (ae.intro (λg=>?_) (λg=>key _ (λh=>by simp[h] at g) λ_=>rfl));have g:e.kind=2:=by simpa using g
 refine AC.mk (d.cJ (j:=5) rfl) (ae.intro (λq=>?_) (λq=>key _ (λ_=>by simp at q;simp[q]) λh=>absurd g h));have q:s.asked=0:=by simpa using q
 refine AC.mk (d.cJ (j:=6) rfl) (ae.intro (λu=>?_) (λu=>key _ (λ_=>by simp at u;simp[u]) λh=>absurd g h));have u:s.taken=0:=by simpa using u
 exact Ab.mk (d.cJ (j:=7) rfl) (key _ (λ_=>by simp[q,u]) λh=>absurd g h)
theorem WA {s:ba}{a b c:Sl}{d:Int}(k: ∀g,Ext h g->R ((Xx s d).V a ⟨none,0,0⟩ ⟨none,0,0⟩).v g):AA A P IA #[(s.V a b c).v,J6 J9 d] h R:=by
 refine ACN ?_;unfold VA;refine ak.mk λJ _ l n K=>ak.mk λL _ o i M=>?_
 have p:=i.af l (λh=>h);refine ab.bL (dR:=(({s with status:=d}:ba).V a b c).c) p (of_decide_eq_true rfl) rfl λN q r _=>?_
 refine ab.bL (dR:=(({s with status:=d,asked:=0}:ba).V a b c).c) q (of_decide_eq_true rfl) rfl λO t u _=>?_
 refine ab.bL (dR:=(({s with status:=d,asked:=0,taken:=0}:ba).V a b c).c) t (of_decide_eq_true rfl) rfl λQ v w _=>?_
 refine ab.bL (dR:=(({s with status:=d,asked:=0,taken:=0,fresh:=false}:ba).V a b c).c) v (of_decide_eq_true rfl) rfl λS z B _=>?_
 refine ab.bL (dR:=(({s with status:=d,asked:=0,taken:=0,fresh:=false}:ba).V a ⟨none,0,0⟩ c).c) z (of_decide_eq_true rfl) rfl λT C D _=>?_
 refine ab.bL (dR:=(({s with status:=d,asked:=0,taken:=0,fresh:=false}:ba).V a ⟨none,0,0⟩ ⟨none,0,0⟩).c) C (of_decide_eq_true rfl) rfl λU E F _=>?_
 have m:=((((r.trans u).trans w).trans B).trans D).trans F;have G:=m.af o (by omega);refine Av.mk (({s with status:=d,asked:=0,taken:=0,fresh:=false}:ba).V a ⟨none,0,0⟩ ⟨none,0,0⟩) (Eh E) ?_;refine aK.mk G (A0 12) λH j I V=>Av.mk _ (Eh (by rw[OG] at j;exact j)) (k H ?_)
 exact((n.trans i).more m λc f=>by subst f;exact A0 _).more I λc f=>by subst f;omega
theorem p8 {s:ba}{a b c:Sl}(k:b.len=s.ar.length)(l: ∀j,Ext h j->R (J3 (decide (OE s))) j):AA A P KO #[(s.V a b c).v] h R:=by
 refine AC9 ?_;unfold Xt;refine ak.mk λm _ i n o=>?_
 have g:=l m n;refine AC.mk (AB i rfl) (ae.intro (λd=>?_) (λd=>?_))
 ·have d:s.asked=0:=by simpa using d
  refine AC.mk (AB i rfl) (ae.intro (λf=>?_) (λf=>?_))
  ·have f:s.taken=0:=by simpa using f
   refine AY.mk (s:=b) (AB i rfl) ?_;have e:decide (OE s)=(((b.len:Nat):Int)==(0:Int)):=by rw[k,Fm];simp[OE,d,f,US]
   rw[e] at g;exact g
  ·have f:s.taken≠0:=by simpa using f
   rw[show decide (OE s)=false from by simp[OE,f]] at g;exact g
 ·have d:s.asked≠0:=by simpa using d
  rw[show decide (OE s)=false from by simp[OE,d]] at g;exact g
end
end Go.Lf.G
namespace Go.Lf
open Go
structure Du (s:ba) (n:Nat):Prop where
 ar:s.ar.length<=n
 aj:s.aj.length<=n
 steps:s.prog.steps.length<=16
 aA:0<=s.prog.aA/\s.prog.aA<=16000
 aW:0<=s.aW/\s.aW<=1099511627776
 next:0<=s.next/\s.next<=501
 st:0<=s.status/\s.status<=4
 waits: ∀x∈s.prog.steps,0<=x.wait/\x.wait<=1000
theorem Du.zero:Du Rf 0:=⟨by decide,by decide,by decide,by decide,by decide,by decide,by decide,λx a=>by cases a⟩
theorem AOc {x:bP}(a:MF x=true):0<=x.wait/\x.wait<=1000:=by
 unfold MF at a
 repeat' split at a
 all_goals first|(simp only[A3,Cl,decide_eq_true_eq,BX] at a;omega)|cases a
theorem Qg {a:Ev}(d:Ed a=true):(1<=a.kind/\a.kind<=18)/\(1<=a.id/\a.id<=500)/\(0<=a.tick/\a.tick<=1099511627776)/\(a.kind=1-> ∃p,Iy (bl a.data)=some p/\Fb p=true)/\(a.kind=12->Ap a.data=true):=by
 unfold Ed at d;rw[A3] at d;obtain⟨c,b⟩:=d;simp only[EQ,A3] at c;refine⟨BX.1 c.1.1.1.1.1.1.1,BX.1 c.1.1.1.1.1.1.2,BX.1 c.1.1.1.1.1.2,λe=>?_,λe=>?_⟩
 ·unfold KG at b;rw[if_pos e] at b;obtain⟨p,f⟩:=Option.isSome_iff_exists.1 b;exact⟨p,f,(ZO f).1⟩
 ·unfold KG at b;rw[if_neg (by omega),if_pos e] at b;exact b
theorem Zw {p:cA}(a:Fb p=true):p.steps.length<=16/\(0<=p.aA/\p.aA<=16000)/\ ∀x∈p.steps,MF x=true:=by simp only[Fb,A3,decide_eq_true_eq,CI] at a;exact⟨a.1.1,BX.1 a.1.2,a.2⟩
structure lB (s t:ba):Prop where
 prog:t.prog=s.prog
 next:t.next=s.next
 aW:t.aW=s.aW
theorem PP {s t:ba}{b:Ev}(a:Df s b=some t):lB s t/\t.ar=s.ar/\t.aj=s.aj/\t.status=s.status:=by
 unfold Df at a
 repeat' split at a
 all_goals first|(cases a;exact⟨⟨rfl,rfl,rfl⟩,rfl,rfl,rfl⟩)|cases a
theorem uO {s t:ba}{b:Ev}(a:JS s b=some t):lB s t/\(t.ar=s.ar\/t.ar= [])/\(t.aj=s.aj\/t.aj= [])/\(t.status=s.status\/(1<=t.status/\t.status<=4)):=by
 unfold JS at a
 repeat' split at a
 all_goals first|(cases a;first|exact⟨⟨rfl,rfl,rfl⟩,.inl rfl,.inl rfl,.inl rfl⟩|exact⟨⟨rfl,rfl,rfl⟩,.inr rfl,.inr rfl,.inr (by simp only[Xx];omega)⟩)|cases a
theorem uP {s t:ba}{b:Ev}(a:Kq s b=some t):lB s t/\t.ar.length<=s.ar.length+1/\t.aj=s.aj/\t.status=s.status:=by
 unfold Kq at a;split at a
 ·obtain⟨x,c,a⟩:=Option.bind_eq_some_iff.1 a;split at a
  ·cases a
  ·cases a;exact⟨⟨rfl,rfl,rfl⟩,by simp,rfl,rfl⟩
 ·obtain⟨i,d,a⟩:=Option.bind_eq_some_iff.1 a;obtain⟨e,f,a⟩:=Option.bind_eq_some_iff.1 a
  repeat' split at a
  all_goals first|(cases a;exact⟨⟨rfl,rfl,rfl⟩,by first|(simp only[R2];omega)|(have:=A0x s.ar i;simp only;omega),rfl,rfl⟩)|cases a
theorem uQ {s t:ba}{b:Ev}(a:Jh s b=some t):lB s t/\t.ar=s.ar/\t.aj.length<=s.aj.length+1/\t.status=s.status:=by
 unfold Jh at a;split at a
 ·obtain⟨x,c,rfl⟩:=Option.map_eq_some_iff.1 a;exact⟨⟨rfl,rfl,rfl⟩,rfl,by simp,rfl⟩
 ·obtain⟨i,d,rfl⟩:=Option.map_eq_some_iff.1 a;exact⟨⟨rfl,rfl,rfl⟩,rfl,by have:=A0x s.aj i;simp only;omega,rfl⟩
theorem AI2 {s t:ba}{g:Ev}(a:Nz s g=some t): ∃u:ba,t= {u with next:=s.next+1}/\lB s u/\u.ar.length<=s.ar.length+1/\u.aj.length<=s.aj.length+1/\(u.status=s.status\/(1<=u.status/\u.status<=4)):=by
 unfold Nz at a;obtain⟨u,b,rfl⟩:=Option.map_eq_some_iff.1 a;refine⟨u,rfl,?_⟩;split at b
 ·obtain⟨c,d,e,f⟩:=PP b;exact⟨c,by rw[d];omega,by rw[e];omega,.inl f⟩
 ·split at b
  ·obtain⟨c,d,e,f⟩:=uP b;exact⟨c,d,by rw[e];omega,.inl f⟩
  ·split at b
   ·obtain⟨c,d,e,f⟩:=uQ b;exact⟨c,by rw[d];omega,e,.inl f⟩
   ·obtain⟨c,d,e,f⟩:=uO b;exact⟨c,by rcases d with a|a<;>rw[a]<;>simp,by rcases e with a|a<;>rw[a]<;>simp,f⟩
theorem SH {s:ba}{c:Ev}{g:Nat}(b:Du s g)(a:(Bc s c).1=0):Du (Bc s c).2 (g+1):=by
 have ok:=Pm a;obtain⟨w,y,j,k,_⟩:=Qg ok;unfold Bc at a ⊢;rw[if_neg (by simp[ok])] at a ⊢;split at a
 ·rename_i f;rw[if_pos f];split at a
  ·rename_i d;rw[if_pos d];obtain⟨p,l,m⟩:=k d.1;obtain⟨n,o,q⟩:=Zw m;show Du (Vp c) _;unfold Vp;rw[l,IN];exact⟨As _,As _,n,o,j,by show(0:Int)<=2/\(2:Int)<=501;omega,by show(0:Int)<=0/\(0:Int)<=4;omega,λx r=>AOc (q x r)⟩
  ·cases a
 ·rename_i f;rw[if_neg f];split at a
  ·cases a
  ·rename_i d;rw[if_neg d];split at a
   ·cases a
   ·rename_i h;rw[if_neg h];have z:c.id=s.next:=by simpa using h
    cases i:Nz s c with
    |none=>rw[i] at a;cases a
    |some t=>
     obtain⟨u,rfl,e,A,B,v⟩:=AI2 i;have C:=b.ar;have D:=b.aj;exact⟨by show u.ar.length<=_;omega,by show u.aj.length<=_;omega,by show u.prog.steps.length<=_;rw[e.prog];exact b.steps,by show 0<=u.prog.aA/\_;rw[e.prog];exact b.aA,by show 0<=u.aW/\_;rw[e.aW];exact b.aW,by show 0<=s.next+1/\s.next+1<=501;omega,by
      have:=b.st;show 0<=u.status/\u.status<=4;rcases v with a|a<;>omega,by show ∀x∈u.prog.steps,_;rw[e.prog];exact b.waits⟩
theorem Zq: ∀ {l:List Ev} {s t:ba} {a:Nat},Du s a->ES s l=some t->Du t (a+l.length)
 | [],s,t,a,c,b=>by cases b;exact c
 |e::l,s,t,a,c,b=>by
  rw[ES] at b;split at b
  ·rename_i d;have:=Zq (SH c d) b;rw[A5];rw[show a+(l.length+1)=a+1+l.length from by omega];exact this
  ·cases b
end Go.Lf
namespace Go.Lf
open Go
variable {α : Type} {E : cy α} {A : al} {P : Q1}
theorem Mod.mod {d:Nat->Prop}{b c:aa}(a:Mod (λ_=>False) b c):Mod d b c:=a.ai λ_ _ b=>b.elim
def uR(A:al)(P:Q1)(t f:Q7)(c:Nat)(s:Sl)(i:Int)(b:Int)(d:aa)(e:A2N):Prop:=
 aG ((0:Int)<=((s.len:Nat):Int)/\((s.len:Nat):Int)<=((s.cap:Nat):Int))<|
 aG ((0:Int)<=b/\b<=(((((s.len:Nat):Int).toNat):Nat):Int))<|
 aG ((0:Int)<=i/\i<=((b.toNat:Nat):Int))<|
 ae (i==b) (
  e (.slice s.p s.len s.cap) d) (
  aG ((0:Int)<=i/\i<=((s.cap:Nat):Int))<|
  aG ((0:Int)<=b/\b<=((s.len:Nat):Int))<|
  BF A P (Builtin.append_ #[t,t] t #[.slice (A7 s.p s.cap 0 c) (i.toNat-0) (s.cap-0),.slice (A7 s.p s.cap b.toNat c) (s.len-b.toNat) (s.cap-b.toNat)]) d λv g=> ∃a:Sl,v= .slice a.p a.len a.cap/\(
  aG ((0:Int)<=((s.len:Nat):Int)/\((s.len:Nat):Int)<=((a.cap:Nat):Int))<|
  aG ((0:Int)<=((a.len:Nat):Int)/\((a.len:Nat):Int)<=((((s.len:Nat):Int).toNat:Nat):Int))<|
  BF A P (Builtin.clear_ #[t] f #[.slice (A7 a.p a.cap (((a.len:Nat):Int).toNat) c) ((((s.len:Nat):Int).toNat)-(((a.len:Nat):Int).toNat)) (a.cap-(((a.len:Nat):Int).toNat))]) g λv1 h=>v1= .tuple #[]/\(
  e (.slice a.p a.len a.cap) h)))
theorem AQ2 {t m T:Q7}{a:J0}(o:P.underlying t=some (.slice T))(p:(zeroValue T).calc P=some a)(f: ∀v∈a.cells.toList,LA v=true){d:aa}{b e q:Nat}{g:Array J0}{K:A2N}
  (h:d[b]? =some (.cells g T (0,0))) (B:e+a.cells.size<=g.size)
  (r: ∀c,c[b]? =some (.cells (gO g e a.cells.toList) T (0,0))->Mod (· =b) d c->c.size=d.size->K (.tuple #[]) c):
  BF A P (Builtin.clear_ #[t] m #[.slice (some ⟨b,e,none⟩) 1 q]) d K:=by
 intro n;have s:(Builtin.zeroCells a.cells 1).toList=a.cells.toList:=by
  unfold Builtin.zeroCells;rw[No];apply List.ext_getElem
  ·simp
  ·intro i f C;simp at f;simp[Ax f,f]
 have j:=run_storeCells_cells (P:=P) b e a.cells.toList 0 (A.at d n)
  (λk l=>by
   show(ag d ⟨b,e+0+k,none⟩).isSome=true;rw[Gy h,CD (by simp at l;omega)];rfl)
  (λk l=>OO h) (λv u=>OY (f v u))
 obtain⟨c,w,x,y,z⟩:=cR (A:=A) a.cells.toList e (n:=n) h;rw[G4,w] at j;refine⟨.tuple #[],c,n,?_,r c x y z⟩;simp[Builtin.clear_,BJ o,Jq p,s,j,Result.andThen]
theorem ALu {l:List α}{a:Nat}:(l.flatMap E.enc).take (a*E.w)=(l.take a).flatMap E.enc:=by
 induction l generalizing a with
 |nil=>simp
 |cons x l b=>
  cases a with
  |zero=>simp
  |succ a=>
   rw[AH,HS,AH,KB,E.len,AG (by rw[E.len,BE];omega),BE,No,JT,b]
theorem ALy {l:List α}{a:Nat}:(l.flatMap E.enc).drop (a*E.w)=(l.drop a).flatMap E.enc:=by
 induction l generalizing a with
 |nil=>simp
 |cons x l b=>
  cases a with
  |zero=>simp
  |succ a=>
   rw[AH,HM,PJ,E.len,Hv (by rw[E.len,BE];omega),BE,No,JT,b,Ds]
theorem uS {t R T:Q7}{zv:J0}{S:Nat}(U:PO P t T E.w S=true)(V:(zeroValue T).calc P=some zv)(W: ∀v∈zv.cells.toList,LA v=true)(F:zv.cells.size=E.w){c:aa}{s:Sl}{l:List α}{i:Nat}{G:A2N}
  (H:Own E T c s l) (I:i<l.length)
  (X: ∀w,Own E T w ⟨s.p,l.length-1,s.cap⟩ (l.eraseIdx i)->Mod (λb=>s.af=some b) c w->G (.slice s.p (l.length-1) s.cap) w):uR A P t R E.w s (i:Int) ((i+1:Nat):Int) c G:=by
 obtain⟨J,Y,z,Z,aA,y,aC,aD⟩:=Yy U;have K:=H.len;rcases H.row with⟨rfl,rfl⟩|⟨g,o,h,B,ab,ac,k,L⟩
 ·simp at I
 have ad:s.len*E.w<=s.cap*E.w:=AS _ ab;unfold uR;refine⟨⟨by omega,by omega⟩,⟨by omega,by omega⟩,⟨by omega,by omega⟩,ae.no (by simp;omega) ⟨⟨by omega,by omega⟩,⟨by omega,by omega⟩,?_⟩⟩;rw[A6,A6,A6,Hn,Hn];have af:A7 s.p s.cap 0 E.w=some ⟨g,0,none⟩:=by unfold A7;rw[if_neg (by omega),h];simp[Bb]
 rw[af]
 let m:=s.len-(i+1)
 let f:List J0:=(l.drop (i+1)).flatMap E.enc
 have nl:f.length=m*E.w:=by simp only[f,m];rw[JU,DE,K]
 obtain⟨a,ah,ai⟩: ∃a,A7 s.p s.cap (i+1) E.w=some a/\ ∀j u,f[j]? =some u->(A.at c 0).cell? (a.add j)=some u:=by
  unfold A7;by_cases M:s.cap=i+1
  ·rw[if_pos M,h];refine⟨_,rfl,λj u d=>?_⟩;have:m=0:=by simp only[m];omega
   have d:=(List.getElem?_eq_some_iff.1 d).1;rw[nl,this] at d;omega
  ·rw[if_neg M,h];refine⟨_,rfl,λj u d=>?_⟩;show ag c ((Addr.add ⟨g,0,none⟩ ((i+1)*E.w)).add j)=some u;rw[Bb,Bb,AI,Gy B];simp only[f] at d;rw[<- ALy,Bm,<-L,Fl] at d;split at d
   ·simpa using d
   ·cases d
 rw[ah];intro p;have aj: ∀u∈f,u.oneCell'=true:=λu ak=>by
  obtain⟨x,_,al⟩:=List.mem_flatMap.1 ak;exact OY (E.one x u al)
 have am:i*E.w+m*E.w<=s.cap*E.w:=by rw[<- BE];exact AS _ (by simp only[m];omega)
 have N:=run_append_room (P:=P) (A.at c p) t t T Y J Z g i s.cap o B a m (s.cap-(i+1)) f (by rw[nl,y]) (λj u d=>ai j u d) aj (by simp only[m];omega) (by rw[y,nl,k];exact am);rw[y] at N
 let e:Array J0:=(o.toList.take (i*E.w)++f++o.toList.drop (i*E.w+f.length)).toArray
 obtain⟨n,an,ao,ap,aE⟩: ∃n,(A.at c p).setRow g e=A.at n p/\n[g]? =some (.cells e T (0,0))/\Mod (· =g) c n/\n.size=c.size:=by
  refine⟨_,rfl,?_,⟨?_,λb q aq=>?_⟩,?_⟩
  ·show(c.modify g _)[g]? =_;rw[GO,if_pos rfl,B];rfl
  ·show c.size<=(c.modify g _).size;simp
  ·show(c.modify g _)[b]? =_;rw[GO,if_neg (Ne.symm aq)]
  ·show(c.modify g _).size=_;simp
 refine⟨_,n,p,N.trans (by rw[<- an]),⟨some ⟨g,0,none⟩,i+m,s.cap⟩,rfl,⟨by omega,by show((s.len:Nat):Int)<=((s.cap:Nat):Int);omega⟩,⟨by omega,by show((i+m:Nat):Int)<=_;simp only[m];omega⟩,?_⟩;have C:i+m=l.length-1:=by simp only[m];omega
 dsimp only[Int.toNat_natCast];rw[C];have ar:A7 (some ⟨g,0,none⟩) s.cap (l.length-1) E.w=some ⟨g,(l.length-1)*E.w,none⟩:=by unfold A7;rw[if_neg (by omega)];simp[Bb]
 rw[ar,show s.len-(l.length-1)=1 from by omega];have r:e.size=o.size:=by simp only[e,List.size_toArray,A1,AE,DE,F0];rw[nl];omega
 have O:(l.length-1)*E.w+E.w<=s.cap*E.w:=by rw[show(l.length-1)*E.w+E.w=l.length*E.w from by rw[<- Nat.succ_mul];congr 1;omega,<-K];exact ad
 refine AQ2 J V W ao (by rw[r,F,k];exact O) λQ au av aF=>⟨rfl,?_⟩
 rw[<- h];have aw:Mod (λb=>s.af=some b) c Q:=(ap.ai λb _ q=>by subst q;simp[Sl.af,h]).trans (av.ai λb _ q=>by subst q;simp[Sl.af,h]);refine X Q ⟨by rw[List.length_eraseIdx,if_pos I],.inr ⟨g,_,h,au,by show l.length-1<=s.cap;omega,ac,?_,?_⟩⟩ aw
 ·show(gO _ _ _).size=s.cap*E.w;rw[Hz,r,k]
 ·show(gO e ((l.length-1)*E.w) zv.cells.toList).toList.take ((l.length-1)*E.w)=_;have ax:zv.cells.toList.length=E.w:=by rw[F0,F]
  have D:e.size=s.cap*E.w:=by rw[r,k]
  rw[NQ _ _ _ (by rw[ax,D];exact O),A4,KB];have ay:(l.length-1)*E.w<=e.toList.length:=by
   have D:e.toList.length=s.cap*E.w:=by rw[F0,r,k]
   rw[D];omega
  rw[AE,GF ay,LR,I0,AM,Sh,Nat.min_self];simp only[e];have az:i*E.w<=o.toList.length:=by rw[F0,k];omega
  rw[A4,KB,AE,GF az,AG (by rw[AE,<-C,BE];omega)];rw[<- C,BE,UP,<-nl,KB,LR,I0,AM,AG (A0 _)];rw[List.eraseIdx_eq_take_drop_succ,GB,<-ALu,<-L,Sh,GF (AS _ (by omega))]
end Go.Lf
namespace Go.Lf.G
open Go
theorem nH {s:A2O}:bS s (⟨#[]⟩:A2O)=decide (s=Gw):=Cb
theorem vK {s:A2O}:s=Gw↔s.size=0:=by
 constructor
 ·rintro rfl;rfl
 ·intro a;have:bl s= []:=CC (by rw[BA];exact a);rw[<- Da s];show AX (bl s)=_;rw[this];rfl
theorem FN {y:al}{g:aa}{s:A2O}{r:A2N}(e:r (J3 (Ap s)) g):AA y P Bu #[J7 s] g r:=by
 refine ADc ?_;unfold Vy;rw[nH];refine ah.mk λK z=>?_
 have key: ∀k:Bool,(k=true↔s.size=0\/16<s.size)->K (k,()) g:=λk t=>by
  refine z _ _ ?_;refine ae.intro (λa=>?_) (λa=>?_)
  ·have f:Ap s=false:=by rw[SR];intro n;have:=Gz.1 n;have:=t.1 a;omega
   rw[f] at e;exact e
  have F: ¬(s.size=0\/16<s.size):=λb=>by have a:k=false:=a;rw[t.2 b] at a;cases a
  refine Loop.rule (λm x b=> ∃i:Nat,x=((i:Int),())/\b=g/\m=s.size-i/\i<=s.size/\ ∀c∈(bl s).take i,33<=c.toNat/\c.toNat<=126) ?_ ⟨0,rfl,rfl,rfl,by omega,by simp⟩;rintro G m _ b ⟨i,rfl,f,rfl,H,u⟩ A;subst b;refine ae.intro (λo=>?_) (λo=>?_)
  ·have p:i<s.size:=by simpa using o
   obtain⟨c,h⟩: ∃c,(bl s)[i]? =some c:=⟨_,A2 (by rw[BA];exact p)⟩;have B:c∈bl s:=AK h;dsimp only;rw[Oh h];refine ah.mk λC D=>⟨⟨by omega,by omega⟩,?_⟩
   have v: ∀l:Bool,(l=true↔ ¬(33<=c.toNat/\c.toNat<=126))->C (l,()) g:=λl w=>by
    refine D _ _ ?_;refine ae.intro (λa=>?_) (λa=>?_)
    ·have f:Ap s=false:=by rw[SR];intro n;exact w.1 a ((Gz.1 n).2.2 c B)
     rw[f] at e;exact e
    ·rw[Aa (by omega)];refine A (s.size-(i+1)) _ _ (by omega) ⟨i+1,rfl,rfl,rfl,p,λx d=>?_⟩;rw[AD,h,DG] at d;rcases List.mem_append.1 d with d|d
     ·exact u x d
     ·simp at d;subst d;have a:l=false:=a;exact Decidable.byContradiction λb=>by rw[w.2 b] at a;cases a
   refine ae.intro (λq=>v _ ⟨λ_=>by simp at q;omega,λ_=>rfl⟩) (λq=>⟨⟨by omega,by omega⟩,v _ ⟨λj=>by simp at j;omega,λj=>by simp at q;simp;omega⟩⟩)
  ·have p:i=s.size:=by simp at o;omega
   have f:Ap s=true:=by rw[Gz];refine⟨by omega,by omega,λc h=>u c ?_⟩;rw[AG (by rw[BA];omega)];exact h
   rw[f] at e;exact e
 refine ae.intro (λa=>key _ ⟨λ_=> .inl (by simpa [vK] using a),λ_=>rfl⟩) (λa=>key _ ⟨λj=>by simp at j;omega,λj=>?_⟩);have a: ¬s.size=0:=λE=>by rw[decide_eq_false_iff_not] at a;exact a (vK.2 E)
 rw[decide_eq_true_eq];omega
theorem OD {i:al}{g:aa}{a c b:Int}{h:A2N}(d:h (J3 (bU a c b)) g):AA i P GM #[J6 J9 a,J6 J9 c,J6 J9 b] g h:=by
 refine ABa ?_;unfold UZ;refine ae.intro (λe=>?_) (λe=>?_)
 ·have f:bU a c b=decide (a<=b):=by simp at e;unfold bU;rw[decide_eq_decide];omega
  rw[f] at d;exact d
 ·have f:bU a c b=false:=by simp at e;unfold bU;simp;omega
  rw[f] at d;exact d
def bP.fv(x:bP):List Fv:= [.i x.kind,.s x.name,.s x.aL,.i x.tries,.i x.aw,.i x.wait]
theorem vL:P.underlying Bp=some (.struct (P.fieldsOf Bp)):=by kernel_rfl
theorem vM(x:bP):pW P Bp (bP.fv x)=true:=by kernel_rfl
theorem ALC {q:al}{l:aa}{x:bP}{m:A2N}(r: ∀n,Ext l n->m (J3 (MF x)) n):
  AA q P Qh #[.agg #[J6 J9 x.kind,J7 x.name,J7 x.aL,J6 J9 x.tries,J6 J9 x.aw,J6 J9 x.wait]] l m:=by
 refine ADN ?_;unfold Xg;refine ak.mk λj _ a s _=>?_
 have b:=r j s;refine AC.mk (AL a rfl) ?_;unfold MF at b;refine ae.intro (λh=>?_) (λh=>?_)
 ·have h:x.kind=1:=by simpa using h
  rw[if_pos h] at b;refine ah.mk λK t=>?_
  have key:K (((decide (x.aL=Gw)&&decide (x.aw=0))||(Ap x.aL&&bU x.aw 1 5)),()) j:=by
   refine t _ _ ?_;refine AJ.mk (AB a rfl) (FN ⟨_,rfl,?_⟩);cases d:Ap x.name with
   |false=>rw[d] at b;simpa [ae] using b
   |true=>
    refine ae.yes rfl (AC.mk (AB a rfl) (OD ⟨_,rfl,?_⟩));cases o:bU x.tries 1 5 with
    |false=>rw[d,o] at b;simpa [ae] using b
    |true=>
     refine ae.yes rfl ?_;refine ae.intro (λc=>?_) (λc=>?_)
     ·refine AC.mk (AB a rfl) ?_;rw[d,o] at b;have c:((decide (x.aL=Gw)&&decide (x.aw=0))||(Ap x.aL&&bU x.aw 1 5))=true:=c;rw[c] at b;have e:(x.wait==(0:Int))=decide (x.wait=0):=by by_cases u:x.wait=0<;>simp[u]
      rw[e];simpa using b
     ·have c:((decide (x.aL=Gw)&&decide (x.aw=0))||(Ap x.aL&&bU x.aw 1 5))=false:=c;rw[c] at b;simpa using b
  have sub: ∀ {p:Bool},p=(Ap x.aL&&bU x.aw 1 5)->((decide (x.aL=Gw)&&decide (x.aw=0))=false)->K (p,()) j:=λv w=>by
   rw[w,SU,<-v] at key;exact key
  refine AJ.mk (AB a rfl) ?_;rw[nH];refine ae.intro (λi=>?_) (λi=>?_)
  ·refine AC.mk (AB a rfl) ?_;refine ae.intro (λk=>?_) (λk=>?_)
   ·have e:decide (x.aw=0)=true:=by simpa using k
    rw[i,e] at key;simpa using key
   ·have e:decide (x.aw=0)=false:=by simpa using k
    refine AJ.mk (AB a rfl) (FN ⟨_,rfl,?_⟩);refine ae.intro (λd=>?_) (λd=>?_)
    ·exact AC.mk (AB a rfl) (OD ⟨_,rfl,sub (by rw[d,Fk]) (by rw[e,Ln])⟩)
    ·exact sub (by rw[d,Gk]) (by rw[e,Ln])
  ·refine AJ.mk (AB a rfl) (FN ⟨_,rfl,?_⟩);refine ae.intro (λd=>?_) (λd=>?_)
   ·exact AC.mk (AB a rfl) (OD ⟨_,rfl,sub (by rw[d,Fk]) (by rw[i,Gk])⟩)
   ·exact sub (by rw[d,Gk]) (by rw[i,Gk])
 ·have h:x.kind≠1:=by simpa using h
  rw[if_neg h] at b;refine ae.intro (λf=>?_) (λf=>?_)
  ·have f:x.kind=2:=by simpa using f
   rw[if_pos f] at b;refine AC.mk (AL a rfl) (AJ.mk (AB a rfl) (AJ.mk (AB a rfl) (AC.mk (AB a rfl) (AC.mk (AB a rfl) (AC.mk (AB a rfl) (AC.mk (AB a rfl) ?_))))));refine tX (xs:=bP.fv x) (ys:= [.i 2,.s Gw,.s Gw,.i 0,.i 0,.i x.wait]) vL (vM x) rfl rfl rfl ⟨_,rfl,?_⟩;have e:decide (bP.fv x= [.i 2,.s Gw,.s Gw,.i 0,.i 0,.i x.wait])=(decide (x.name=Gw)&&decide (x.aL=Gw)&&decide (x.tries=0)&&decide (x.aw=0)):=by rw[Fm];simp[bP.fv,f,and_assoc]
   rw[e];refine ae.intro (λc=>?_) (λc=>?_)
   ·rw[c,Fk] at b;exact AC.mk (AB a rfl) (OD ⟨_,rfl,b⟩)
   ·rw[c,Gk] at b;exact b
  ·have f:x.kind≠2:=by simpa using f
   rw[if_neg f] at b;refine ae.intro (λg=>?_) (λg=>?_)
   ·have g:x.kind=3:=by simpa using g
    rw[if_pos g] at b;refine AC.mk (AL a rfl) (AJ.mk (AB a rfl) (AJ.mk (AB a rfl) (AC.mk (AB a rfl) (AC.mk (AB a rfl) (AC.mk (AB a rfl) (AJ.mk (AB a rfl) ?_))))));refine tX (xs:=bP.fv x) (ys:= [.i 3,.s x.name,.s Gw,.i 0,.i 0,.i 0]) vL (vM x) rfl rfl rfl ⟨_,rfl,?_⟩;have e:decide (bP.fv x= [.i 3,.s x.name,.s Gw,.i 0,.i 0,.i 0])=(decide (x.aL=Gw)&&decide (x.tries=0)&&decide (x.aw=0)&&decide (x.wait=0)):=by rw[Fm];simp[bP.fv,g,and_assoc]
    rw[e];refine ae.intro (λc=>?_) (λc=>?_)
    ·rw[c,Fk] at b;exact AJ.mk (AB a rfl) (FN ⟨_,rfl,b⟩)
    ·rw[c,Gk] at b;exact b
   ·have g:x.kind≠3:=by simpa using g
    rw[if_neg g] at b;exact b
abbrev ANO(x:bP):Array J0:= #[J6 J9 x.kind,J7 x.name,J7 x.aL,J6 J9 x.tries,J6 J9 x.aw,J6 J9 x.wait]
theorem vN:PO P GJ Bp QS.w 64=true:=by kernel_rfl
theorem vO {b:aa}{a:Q6}{x:bP}(c:Cells b a (QS.enc x)):ag b a=some (J6 J9 x.kind)/\ag b (a.add 1)=some (J7 x.name)/\ag b (a.add 2)=some (J7 x.aL)/\ag b (a.add 3)=some (J6 J9 x.tries)/\ag b (a.add 4)=some (J6 J9 x.aw)/\ag b (a.add 5)=some (J6 J9 x.wait):=by refine⟨?_,c 1 _ rfl,c 2 _ rfl,c 3 _ rfl,c 4 _ rfl,c 5 _ rfl⟩;have:=c 0 _ rfl;rwa [add_zero] at this
theorem vP {E:al}{g:aa}{s:Sl}{p:cA}{y:A2N}(v:View QS g s p.steps)(Z:p.steps.length<=1099511627776)(q: ∀z,Ext g z->y (J6 J9 (if Fb p then 0 else 130)) z):
  AA E P NI #[.agg #[J4 s.p s.len s.cap,J6 J9 p.aA]] g y:=by
 refine ADa ?_;unfold XR;refine ak.mk λA _ h B _=>?_
 refine ah.mk λK F=>AY.mk (s:=s) (AL h rfl) ?_
 rw[v.len];have key: ∀l:Bool,(l=true↔ ¬(p.steps.length<=16/\bU p.aA 0 16000=true))->K (l,()) A:=λl C=>by
  refine F _ _ ?_;refine ae.intro (λd=>?_) (λd=>?_)
  ·have e:=q A B;rw[if_neg] at e
   ·exact e
   ·intro j;simp only[Fb,A3,decide_eq_true_eq] at j;exact C.1 d j.1
  have G:p.steps.length<=16/\bU p.aA 0 16000=true:=Decidable.byContradiction λk=>by
   have d:l=false:=d;rw[C.2 k] at d;cases d
  refine AY.mk (s:=s) (AL h rfl) ?_;refine Loop.rule (λm x k=> ∃i:Nat,x=((i:Int),())/\Ext g k/\m=p.steps.length-i/\i<=p.steps.length/\(p.steps.take i).all MF=true) ?_ ⟨0,rfl,B,rfl,by omega,rfl⟩;rintro ac m _ k ⟨i,rfl,n,rfl,ad,r⟩ H;rw[v.len];refine ae.intro (λt=>?_) (λt=>?_)
  ·have u:i<p.steps.length:=by simpa using t
   obtain⟨x,w⟩: ∃x,p.steps[i]? =some x:=⟨_,A2 u⟩;rw[<- v.len];refine(v.ext n).idx w λa _ c=>?_
   obtain⟨I,J,L,M,N,O⟩:=vO c;refine AC.mk I (AJ.mk J (AJ.mk L (AC.mk M (AC.mk N (AC.mk O ?_)))));refine ak.mk λQ _ R S _=>ab.nY R λT f U af=>?_
   refine AC.mk (AL f rfl) (AJ.mk (AB f rfl) (AJ.mk (AB f rfl) (AC.mk (AB f rfl) (AC.mk (AB f rfl) (AC.mk (AB f rfl) ?_)))));have V:Ext g T:=(n.trans S).more U λb h=>by subst h;exact n.size
   refine ALC (x:=x) λW X=>⟨_,rfl,?_⟩
   have D:=V.trans X;refine ae.intro (λo=>?_) (λo=>?_)
   ·have e:=q W D;rw[if_neg] at e
    ·exact e
    ·intro j;simp only[Fb,A3,decide_eq_true_eq,CI] at j;have:=j.2 x (AK w);rw[this] at o;cases o
   ·dsimp only;rw[Aa (by omega)];refine H (p.steps.length-(i+1)) _ _ (by omega) ⟨i+1,rfl,D,rfl,u,?_⟩;rw[AD,w,DG,List.all_append,r];simpa using o
  ·have u:i=p.steps.length:=by simp at t;omega
   rw[AG (by omega)] at r;have e:=q k n;rw[if_pos (by simp only[Fb,A3,decide_eq_true_eq];exact⟨G,r⟩)] at e;exact e
 refine ae.intro (λd=>key _ ⟨λ_ Q=>by simp at d;omega,λ_=>rfl⟩) (λd=>?_);refine AC.mk (AB h rfl) (OD ⟨_,rfl,key _ ?_⟩);have Y:p.steps.length<=16:=by simp at d;omega
 simp[Y]
structure Vb (h:aa) (b rb b1:Nat) (lim:Int) (s:Sl) (l:List bP) (hh:aa) (r:Rd):Prop where
 ext:Ext h hh
 zero:hh[b]? =some (J2 #[J4 none 0 0,J6 J9 0] Ee (0,0))
 rd:Ib hh rb r
 var:hh[b1]? =some (J2 #[J4 s.p s.len s.cap,J6 J9 lim] Ee (0,0))
 own:Own QS Bp hh s l
 fresh: ∀c,s.af=some c->h.size<=c/\c≠b/\c≠rb/\c≠b1
 ne:h.size<=b/\h.size<=rb/\h.size<=b1/\b≠rb/\b≠b1/\rb≠b1
theorem Vb.read {g:aa}{b d h:Nat}{i:Int}{s:Sl}{l:List bP}{j e:aa}{r k:Rd}(a:Vb g b d h i s l j r)(n:Ib e d k)(m:Mod (· =d) j e):Vb g b d h i s l e k:=
 ⟨a.ext.more m λc f=>by subst f;exact a.ne.2.1,m.af a.zero a.ne.2.2.2.1,n,m.af a.var a.ne.2.2.2.2.2.symm,a.own.mod m λc f=>(a.fresh c f).2.2.1,a.fresh,a.ne⟩
theorem Vb.other {e:aa}{b f g c:Nat}{i:Int}{s:Sl}{l:List bP}{j k:aa}{r:Rd}(a:Vb e b f g i s l j r)(m:Mod (· =c) j k)(d:e.size<=c/\c≠b/\c≠f/\c≠g/\s.af≠some c):Vb e b f g i s l k r:=
 ⟨a.ext.more m λn h=>by subst h;exact d.1,m.af a.zero d.2.1.symm,m.af a.rd d.2.2.1.symm,m.af a.var d.2.2.2.1.symm,a.own.mod m λn h o=>d.2.2.2.2 (by rw[h,o]),a.fresh,a.ne⟩
theorem Vb.on {a:aa}{b d e:Nat}{f:Int}{s:Sl}{l:List bP}{g h:aa}{r:Rd}(c:Vb a b d e f s l g r)(m:Ext g h):Vb a b d e f s l h r:=
 ⟨c.ext.trans m,m.af c.zero (λa=>a),m.af c.rd (λa=>a),m.af c.var (λa=>a),c.own.ext m,c.fresh,c.ne⟩
theorem Vb.new {d:aa}{b e f:Nat}{g:Int}{s:Sl}{l:List bP}{a:aa}{r:Rd}(c:Vb d b e f g s l a r):d.size<=a.size/\a.size≠b/\a.size≠e/\a.size≠f/\s.af≠some a.size:=by
 refine⟨c.ext.size,?_,?_,?_,λh=>?_⟩
 ·have:=Af c.zero;omega
 ·have:=Af c.rd;omega
 ·have:=Af c.var;omega
 ·have:=c.own.lt h;omega
theorem ALY {bk bt bw:Nat}{all:Bool}(r:Rd):(Lj bk bt bw all r).2.rest.length<=r.rest.length:=by
 have b:=FV bk r;unfold Lj;simp only;split
 ·have a:=(NP (Bw bk r).2).1;have c:=FV bt (FK (Bw bk r).2).2;have d:=(NP (Bw bt (FK (Bw bk r).2).2).2).1;have e:=FV bt (FK (Bw bt (FK (Bw bk r).2).2).2).2;simp only;omega
 ·split
  ·have a:=FV bw (Bw bk r).2;simp only;omega
  ·split
   ·have a:=(NP (Bw bk r).2).1;simp only;omega
   ·exact b
def vQ(a:Option cA)(s:Sl):J0:=match a with
 |none=>J1 #[.agg #[J4 none 0 0,J6 J9 0],J6 J9 60]
 |some p=>J1 #[.agg #[J4 s.p s.len s.cap,J6 J9 p.aA],J6 J9 0]
theorem AJD {A:al}{h:aa}{l:List UInt8}{R:A2N}(bH:l.length<1099511627776)
  (aw: ∀S s,Ext h S->(∀ p,Iy l=some p->View QS S s p.steps/\ ∀c,s.af=some c->h.size<=c)->R (vQ (Iy l) s) S):AA A P JW #[J7 (AX l)] h R:=by
 refine ACK ?_;unfold UY;refine ak.mk λz _ ax ag aR=>?_
 refine KP λaS ai aj=>⟨_,rfl,?_⟩
 refine DR (most:=16000) ai (by simp;omega) (by decide) λT ay U=>⟨_,rfl,?_⟩
 refine ak.mk λbI _ az V aT=>ab.two az λaU aA W aV=>?_
 have bJ:z.size<aS.size:=Af ai;have bK:=U.size;have bL:=ag.size;have aC:Vb h h.size z.size T.size ((Bw 16000 ⟨l,false⟩).1:Int) ⟨none,0,0⟩ [] aU (Bw 16000 ⟨l,false⟩).2:=by
  have aW:T[h.size]? =some (J2 #[J4 none 0 0,J6 J9 0] Ee (0,0)):=U.af (aj.af ax (λh=>h)) (by omega);have aX:=V.af ay (λh=>h);have aD:Ext h T:=(ag.trans aj).more U λc a=>by subst a;omega
  refine⟨(aD.trans V).more W λc a=>by subst a;exact aD.size,W.af (V.af aW (λh=>h)) (by omega),W.af aX (by omega),aA,Own.nil,λc a=>by simp[Sl.af] at a,by omega,by omega,by omega,by omega,by omega,by omega⟩
 have bM:(Bw 16000 ⟨l,false⟩).2.rest.length<=l.length:=FV 16000 ⟨l,false⟩;refine DR (most:=16) aC.rd (by omega) (by decide) λbN aE aF=>⟨_,rfl,?_⟩
 have aY:=aC.read aE aF;have bO:=FV 16 (Bw 16000 ⟨l,false⟩).2;generalize aZ:(Bw 16000 ⟨l,false⟩).1=g at*
 generalize a0:(Bw 16000 ⟨l,false⟩).2=u at*
 have a1:(Bw 16 u).1<=16:=by
  unfold Bw;split
  ·exact As _
  ·split
   ·exact As _
   ·omega
 have H:Xb 16000 3 5 1000 false l=(⟨(G5 3 5 1000 false (Bw 16 u).1 (Bw 16 u).2).1,g⟩,(G5 3 5 1000 false (Bw 16 u).1 (Bw 16 u).2).2):=by simp only[Xb,aZ,a0]
 generalize bQ:h.size=b at*
 generalize bR:z.size=I at*
 generalize B:T.size=J at*
 clear ax ai ay az aA ag aj V U W aF aR aT aV aE;refine Loop.rule (λm x am=> ∃(i:Nat) (s:Sl) (e:List bP) (r:Rd),x=((i:Int),())/\Vb h b I J g s e am r/\m=i/\r.rest.length<=l.length/\e.length+i<=16/\
  Xb 16000 3 5 1000 false l=(⟨e++(G5 3 5 1000 false i r).1,g⟩,(G5 3 5 1000 false i r).2)) ?_ ⟨(Bw 16 u).1,⟨none,0,0⟩,[],(Bw 16 u).2,rfl,aY,rfl,by omega,by simpa using a1,H⟩
 rintro K m _ am ⟨i,s,e,r,rfl,k,bS,bT,bU,H⟩ a2;refine ae.intro (λan=>?_) (λan=>?_)
 ·have aG:0<i:=by simp at an;omega
  obtain⟨j,rfl⟩: ∃j,i=j+1:=⟨i-1,by omega⟩;refine DR (most:=3) k.rd (by omega) (by decide) λao a3 a4=>⟨_,rfl,?_⟩
  have f:=k.read a3 a4;have bV:=FV 3 r;refine ak.mk λX _ v a5 bW=>ab.nY v λa6 B a7 bX=>?_
  have a:=f.new;have w:=(f.on a5).other a7 a;generalize ao.size=a8 at*
  refine AC.mk (AL B rfl) ?_;refine ah.mk λa9 ba=>?_
  have Y: ∀(x:bP) (C:Rd) (n:aa),Vb h b I J g s e n C->n[a8]? =some (J2 (ANO x) Bp (0,0))->Lj 3 5 1000 false r=(x,C)->a9 () n:=λx C n d o q=>by
   refine ba _ _ ?_;refine AY.mk (s:=s) (AL d.var rfl) ?_;refine AC.mk (AL o rfl) (AJ.mk (AB o rfl) (AJ.mk (AB o rfl) (AC.mk (AB o rfl) (AC.mk (AB o rfl) (AC.mk (AB o rfl) ?_)))));refine ak.aZ (E:=QS) (x:=x) (s:=s) (l:=e) rfl vN d.own (by omega) (by simp[maxLen];omega) λaH S bb Z o bY=>?_
   have bc:s.af≠some J:=λa=>(d.fresh _ a).2.2.2 rfl
   have bd:s.af≠some b:=λa=>(d.fresh _ a).2.1 rfl
   have be:s.af≠some I:=λa=>(d.fresh _ a).2.2.1 rfl
   have aI: ∀c,aH.af=some c->h.size<=c/\c≠b/\c≠I/\c≠J:=λc a=>by
    rcases o c a with z|z
    ·exact d.fresh c z
    ·have bZ:=Af d.zero;have b0:=Af d.rd;have b1:=Af d.var;have b2:=d.ext.size;omega
   refine ab.mk (Z.af d.var bc) (by simp) λb3 bf ac b4=>?_
   rw[show((((j+1:Nat):Int),()):Int×Unit).1-(1:Int)=((j:Nat):Int) by simp,F5 (by omega)];have bg:G5 3 5 1000 false (j+1) r=(x::(G5 3 5 1000 false j C).1,(G5 3 5 1000 false j C).2):=by simp only[G5,q]
   refine a2 j _ _ (by omega) ⟨j,aH,e++ [x],C,rfl,⟨?_,?_,?_,by simpa using bf,?_,aI,d.ne⟩,rfl,?_,by simp;omega,?_⟩
   ·exact(d.ext.more Z λc a=>(d.fresh c a).1).more ac λc a=>by subst a;exact d.ne.2.2.1
   ·exact ac.af (Z.af d.zero bd) d.ne.2.2.2.2.1
   ·exact ac.af (Z.af d.rd be) d.ne.2.2.2.2.2
   ·exact bb.mod ac λc a=>(aI c a).2.2.2
   ·have:=ALY (bk:=3) (bt:=5) (bw:=1000) (all:=false) r;rw[q] at this;simp only at this;omega
   ·rw[H,bg];simp
  refine ae.intro (λy=>?_) (λy=>?_)
  ·have D:(Bw 3 r).1=1:=by simp at y;omega
   have b5:=(NP (Bw 3 r).2).1;have b6:=FV 5 (FK (Bw 3 r).2).2;have b7:=(NP (Bw 5 (FK (Bw 3 r).2).2).2).1;refine Hy w.rd (by omega) λaJ L t=>⟨_,rfl,?_⟩
   have F:=w.read L t;have M:=t.af B a.2.2.1;refine DR (most:=5) F.rd (by omega) (by decide) λad bh G=>⟨_,rfl,?_⟩
   have bi:=F.read bh G;have N:=G.af M a.2.2.1;refine ab.bL N (by simp) rfl λb8 bj bm b9=>ab.bL bj (by simp) rfl λca bn bo cb=>?_
   have aK:=(bi.other bm a).other bo a;refine Hy aK.rd (by omega) λcc bp aL=>⟨_,rfl,?_⟩
   have aM:=aK.read bp aL;have bq:=aL.af bn a.2.2.1;refine DR (most:=5) aM.rd (by omega) (by decide) λcd br aN=>⟨_,rfl,?_⟩
   have bs:=aM.read br aN;have bu:=aN.af bq a.2.2.1;refine ab.bL bu (by simp) rfl λce bv bx cf=>ab.bL bv (by simp) rfl λbz bA bB cg=>?_
   have bC:=(bs.other bx a).other bB a;refine Y ⟨1,AX (FK (Bw 3 r).2).1,AX (FK (Bw 5 (FK (Bw 3 r).2).2).2).1,(Bw 5 (FK (Bw 3 r).2).2).1,(Bw 5 (FK (Bw 5 (FK (Bw 3 r).2).2).2).2).1,0⟩ _ bz bC ?_ ?_
   ·rw[bA,D];rfl
   ·simp only[Lj];rw[if_pos D]
  ·have D:(Bw 3 r).1≠1:=by simp at y;omega
   refine ae.intro (λap=>?_) (λap=>?_)
   ·have O:(Bw 3 r).1=2:=by simp at ap;omega
    refine DR (most:=1000) w.rd (by omega) (by decide) λaJ L t=>⟨_,rfl,?_⟩
    have F:=w.read L t;have M:=t.af B a.2.2.1;refine ab.bL M (by simp) rfl λad N G bD=>?_
    refine Y ⟨2,Gw,Gw,0,0,(Bw 1000 (Bw 3 r).2).1⟩ _ ad (F.other G a) ?_ ?_
    ·rw[N,O];rfl
    ·simp only[Lj];rw[if_neg D,if_pos O]
   ·have O:(Bw 3 r).1≠2:=by simp at ap;omega
    refine ae.intro (λaq=>?_) (λaq=>?_)
    ·have ar:(Bw 3 r).1=3:=by simp at aq;omega
     refine Hy w.rd (by omega) λaJ L t=>⟨_,rfl,?_⟩
     have F:=w.read L t;have M:=t.af B a.2.2.1;refine ab.bL M (by simp) rfl λad N G bD=>?_
     refine Y ⟨(Bw 3 r).1,AX (FK (Bw 3 r).2).1,Gw,0,0,0⟩ _ ad (F.other G a) ?_ ?_
     ·rw[N];rfl
     ·simp only[Lj];rw[if_neg D,if_neg O,if_pos (.inl ar)]
    ·have ar:(Bw 3 r).1≠3:=by simp at aq;omega
     refine Y ⟨(Bw 3 r).1,Gw,Gw,0,0,0⟩ _ a6 w B ?_;simp only[Lj];rw[if_neg D,if_neg O,if_neg (by simp[ar])]
 ·have aG:i=0:=by simp at an;omega
  subst aG;simp only[G5,AM] at H;refine ah.mk λbE aO=>?_
  refine Mt k.rd ⟨_,rfl,?_⟩;have au:Iy l=if XV r&&Fb ⟨e,g⟩ then some ⟨e,g⟩ else none:=by unfold Iy;rw[H]
  have aP:Iy l=none-> ∀n,Vb h b I J g s e n r->bE (true,()) n:=λq n d=>by
   refine aO _ _ (ae.yes rfl ?_);refine ab.two d.zero λX v af bF=>AY.mk (s:=⟨none,0,0⟩) (AL v rfl) (AC.mk (AB v rfl) ?_)
   have:=aw X ⟨none,0,0⟩ (d.ext.more af λc a=>by subst a;exact d.ne.1) (λp Q=>by rw[q] at Q;cases Q);rw[q] at this;exact this
  refine ae.intro (λy=>?_) (λy=>?_)
  ·have av:XV r=false:=by simpa using y
   exact aP (by rw[au,av];rfl) am k
  ·have av:XV r=true:=by simpa using y
   refine AY.mk (s:=s) (AL k.var rfl) (AC.mk (AB k.var rfl) ?_);refine vP (p:=⟨e,g⟩) k.own.view (by simp only;omega) λao bG=>⟨_,rfl,?_⟩
   have f:=k.on bG;cases aQ:Fb ⟨e,g⟩ with
   |false=>exact aP (by rw[au,aQ,Ln];rfl) ao f
   |true=>
    refine aO _ _ (ae.no rfl ?_);have q:Iy l=some ⟨e,g⟩:=by rw[au,av,aQ];rfl
    refine AY.mk (s:=s) (AL f.var rfl) (AC.mk (AB f.var rfl) ?_);refine ab.two f.zero λX v af bF=>AY.mk (s:=s) (AL v rfl) (AC.mk (AB v rfl) ?_)
    have:=aw X s (f.ext.more af λc a=>by subst a;exact f.ne.1) (λp Q=>by
     rw[q] at Q;obtain rfl:=C2 Q;exact⟨(f.own.mod af λc a=>(f.fresh c a).2.1).view,λc a=>by have:=(f.fresh c a).1;omega⟩)
    rw[q] at this;exact this
def fN(a:Int):Int:=(if cW a then 1 else 0)+(if dj a then 2 else 0)+(if dx a then 4 else 0)+(if dO a then 8 else 0)+(if dP a then 16 else 0)
theorem qy(d:Int):GG J9 (fN d) 1=(if cW d then 1 else 0)/\GG J9 (fN d) 2=(if dj d then 2 else 0)/\GG J9 (fN d) 4=(if dx d then 4 else 0)/\GG J9 (fN d) 8=(if dO d then 8 else 0)/\GG J9 (fN d) 16=(if dP d then 16 else 0):=by unfold fN;generalize cW d=a;generalize dj d=b;generalize dx d=c;generalize dO d=e;generalize dP d=f;cases a<;>cases b<;>cases c<;>cases e<;>cases f<;>decide
theorem lG {b:Bool}{a:Int}(c:a≠0):((if b then a else 0)==(0:Int))= !b:=by cases b<;>simp[c]
theorem LX {b:Bool}{a:Int}(c:a≠0):((if b then a else 0) != (0:Int))=b:=by cases b<;>simp[c]
theorem Vn {i:al}{f:aa}{a:Int}{g:A2N}(c:g (J1 #[J6 J9 (fN a),J3 (bU a 1 18)]) f):AA i P Il #[J6 J9 a] f g:=by
 refine AAU ?_;unfold Te;have d:a=1\/a=2\/a=3\/a=4\/a=5\/a=6\/a=7\/a=8\/a=9\/a=10\/a=11\/a=12\/a=13\/a=14\/a=15\/a=16\/a=17\/a=18\/ ¬(1<=a/\a<=18):=by omega
 by_cases h:1<=a/\a<=18
 ·rcases d with rfl|rfl|rfl|rfl|rfl|rfl|rfl|rfl|rfl|rfl|rfl|rfl|rfl|rfl|rfl|rfl|rfl|rfl|d
  all_goals (try exact absurd h d)
  all_goals repeat first|exact c|(refine ah.mk λK e=>?_)|(refine ae.yes (by decide) ?_)|(refine ae.no (by decide) ?_)|(refine e _ _ ?_)
 ·have j:bU a 1 18=false:=by unfold bU;simpa using h
  have k:fN a=0:=by unfold fN cW dj dx dO dP;rw[decide_eq_false (by omega),decide_eq_false (by omega),decide_eq_false (by omega),decide_eq_false (by omega),decide_eq_false (by omega)];rfl
  rw[j,k] at c;have ne: ∀b:Int,1<=b->b<=18->(a==b)=false:=λb l m=>by
   rw[beq_eq_false_iff_ne];omega
  repeat first|exact c|(refine ah.mk λK e=>?_)|(refine ae.no (ne _ (by decide) (by decide)) ?_)|(refine e _ _ ?_)
theorem ZW {A:al}{h:aa}{s:A2O}{R:A2N}(b:s.size<1099511627776)
  (d: ∀a sl,Ext h a->(∀ p,Iy (bl s)=some p->View QS a sl p.steps/\ ∀c,sl.af=some c->h.size<=c)->R (vQ (Iy (bl s)) sl) a):AA A P JW #[J7 s] h R:=by
 have:=AJD (A:=A) (h:=h) (l:=bl s) (R:=R) (by rw[BA];exact b) d;rwa [KM] at this
theorem Kz {A:al}{h:aa}{s:A2O}{R:A2N}(b:s.size<=1099511627776)(c: ∀a,Ext h a->R (J7 (AX (BR (bl s)))) a):AA A P CE #[J7 s] h R:=by have:=QG (A:=A) (h:=h) (l:=bl s) (R:=R) (by rw[BA];exact b) c;rwa [KM] at this
theorem qz {l:al}{h:aa}{b:Nat}{f a g c j:Int}{fl:Bool}{T:Q7}{fr:Nat×Nat}{k:A2N}(m:h[b]? =some (J2 #[J6 J9 f] T fr))(n:(GG J9 f j==(0:Int))= !fl)
  (d:k (J3 (cX fl a g c)) h):EH l P (.func (.func Hm) #[] #[J5 (some ⟨b,0,none⟩)]) #[J6 J9 a,J6 J9 g,J6 J9 c,J6 J9 j] h k:=by
 refine EH.func (first:= #[]) (bT:= #[Ay b]) (by kernel_rfl) ?_;refine YM ?_;unfold RN;refine aD (AC.mk (AL m rfl) ?_);rw[n];cases fl with
 |false=>
  refine ae.yes rfl ?_;have e:(a==(0:Int))=decide (a=0):=by by_cases o:a=0<;>simp[o]
  rw[e];exact d
 |true=>
  refine ae.no rfl ?_;refine ae.intro (λi=>?_) (λi=>?_)
  ·have e:cX true a g c=decide (a<=c):=by simp at i;simp only[cX,if_true,bU];rw[decide_eq_decide];omega
   rw[e] at d;exact d
  ·have e:cX true a g c=false:=by simp at i;simp only[cX,if_true,bU];simp;omega
   rw[e] at d;exact d
abbrev nI(a:Ev):J0:= .agg #[J6 J9 a.id,J6 J9 a.kind,J6 J9 a.tick,J6 J9 a.ref,J6 J9 a.step,J6 J9 a.turn,J3 a.aL,J7 a.data]
theorem Yn {Q:al}{h:aa}{e:Ev}{t:A2N}(hd:e.data.size<1099511627776)(u: ∀d,Ext h d->t (J6 J9 (if Ed e then 0 else 120)) d):AA Q P Jc #[nI e] h t:=by
 refine ABi ?_;unfold VI;refine ak.mk λv _ F G aG=>?_
 refine AC.mk (AB F rfl) (Vn ⟨_,_,rfl,?_⟩);refine ak.mk λaH _ R H aI=>?_
 refine ab.mk R (by simp) λf j I aJ=>?_
 have o:Ext h f:=(G.trans H).more I λc q=>by subst q;exact G.size
 have S:h.size≠v.size:=by omega
 have b:=I.af (H.af F (λh=>h)) S;have j:f[v.size]? =some (J2 #[J6 J9 (fN e.kind)] BQ (0,0)):=j;obtain⟨T,U,V,W,X⟩:=qy e.kind;refine ah.mk λK J=>?_
 have g:EQ e=false->K (true,()) f:=λw=>by
  refine J _ _ (ae.yes rfl ?_);have:=u f o;have r:Ed e=false:=by simp[Ed,w]
  rw[r] at this;exact this
 have aQ:EQ e=true->K (false,()) f:=λw=>by
  refine J _ _ (ae.no rfl ?_);refine AC.mk (AB b rfl) ?_;refine ah.mk λY Z=>?_
  have y:KG e=true-> ∀d,Ext h d->Y () d:=λz d x=>by
   refine Z _ _ ?_;have:=u d x;have r:Ed e=true:=by simp[Ed,w,z]
   rw[r] at this;exact this
  have fail:KG e=false-> ∀d,Ext h d->t (J6 J9 120) d:=λz d x=>by
   have:=u d x;have r:Ed e=false:=by simp[Ed,z]
   rw[r] at this;exact this
  refine ae.intro (λi=>?_) (λi=>?_)
  ·have i:e.kind=1:=by simpa using i
   have k:KG e=(Iy (bl e.data)).isSome:=by unfold KG;rw[if_pos i]
   refine AJ.mk (AB b rfl) (ZW hd λaK sl ac _=>?_);have s:=o.trans ac;cases L:Iy (bl e.data) with
   |none=>
    refine⟨⟨none,0,0⟩,_,_,rfl,?_⟩;refine ak.mk λad _ A B af=>ab.two A λC ag D ai=>ae.yes rfl ?_
    exact fail (by rw[k,L];rfl) C ((s.trans B).more D λc q=>by subst q;exact s.size)
   |some p=>
    refine⟨sl,_,_,rfl,?_⟩;refine ak.mk λad _ A B af=>ab.two A λC ag D ai=>ae.no rfl ?_
    exact y (by rw[k,L];rfl) C ((s.trans B).more D λc q=>by subst q;exact s.size)
  ·have i:e.kind≠1:=by simpa using i
   refine ae.intro (λl=>?_) (λl=>?_)
   ·have l:e.kind=12:=by simpa using l
    have k:KG e=Ap e.data:=by unfold KG;rw[if_neg i,if_pos l]
    refine AJ.mk (AB b rfl) (FN ⟨_,rfl,?_⟩);cases M:Ap e.data with
    |false=>exact fail (by rw[k,M]) f o
    |true=>exact y (by rw[k,M]) f o
   ·have l:e.kind≠12:=by simpa using l
    have k:KG e=true:=by unfold KG;rw[if_neg i,if_neg l]
    exact y k f o
 refine ae.intro (λa=>g (by simp at a;simp[EQ,a])) (λaj=>?_);refine AC.mk (AL b rfl) (ae.intro (λa=>g ?_) (λam=>?_))
 ·have:bU e.id 1 500=false:=by simp at a;unfold bU;simp;omega
  simp[EQ,this]
 refine AC.mk (AL b rfl) (ae.intro (λa=>g ?_) (λan=>?_))
 ·have:bU e.id 1 500=false:=by simp at a;unfold bU;simp;omega
  simp[EQ,this]
 have ao:1<=e.id/\e.id<=500:=by simp at am an;omega
 refine AC.mk (AB b rfl) (ae.intro (λa=>g ?_) (λap=>?_))
 ·have:bU e.tick 0 1099511627776=false:=by simp at a;unfold bU;simp;omega
  simp[EQ,this]
 refine AC.mk (AB b rfl) (ae.intro (λa=>g ?_) (λaq=>?_))
 ·have:bU e.tick 0 1099511627776=false:=by simp at a;unfold bU;simp;omega
  simp[EQ,this]
 have ar:bU e.tick 0 1099511627776=true:=by simp at ap aq;rw[BX];omega
 have au:bU e.id 1 500=true:=BX.2 ao;have av:bU e.kind 1 18=true:=by simpa using aj
 refine AC.mk (AB b rfl) (AC.mk (AL b rfl) ?_);rw[wrap_i64 (n:=e.id-1) (by omega) (by omega)];refine qz (fl:=cW e.kind) j (by rw[T,lG (by decide)]) ⟨_,rfl,?_⟩;refine ae.intro (λa=>g ?_) (λaw=>?_)
 ·have:cX (cW e.kind) e.ref 1 (e.id-1)=false:=by simpa using a
  simp[EQ,this]
 have ax:cX (cW e.kind) e.ref 1 (e.id-1)=true:=by simpa using aw
 refine AC.mk (AB b rfl) ?_;refine qz (fl:=dj e.kind) j (by rw[U,lG (by decide)]) ⟨_,rfl,?_⟩;refine ae.intro (λa=>g ?_) (λay=>?_)
 ·have:cX (dj e.kind) e.step 0 15=false:=by simpa using a
  simp[EQ,this]
 have az:cX (dj e.kind) e.step 0 15=true:=by simpa using ay
 refine AC.mk (AB b rfl) ?_;refine qz (fl:=dx e.kind) j (by rw[V,lG (by decide)]) ⟨_,rfl,?_⟩;refine ae.intro (λa=>g ?_) (λaA=>?_)
 ·have:cX (dx e.kind) e.turn 1 5=false:=by simpa using a
  simp[EQ,this]
 have aC:cX (dx e.kind) e.turn 1 5=true:=by simpa using aA
 have m:EQ e=((!e.aL||dO e.kind)&&(decide (e.data=Gw)||dP e.kind)):=by simp[EQ,av,au,ar,ax,az,aC]
 have N:(!e.aL||dO e.kind)=true->AJ f ((⟨h.size,0,none⟩:Q6).add 7) λaD=>
   ae (!bS aD (⟨#[]⟩:A2O)) (AC J9 f (⟨v.size,0,none⟩:Q6) λaE=>K (((GG J9 aE (16:Int))==(0:Int)),()) f) (K (false,()) f):=λaF=>by
  rw[aF,Fk] at m;refine AJ.mk (AB b rfl) ?_;rw[nH];refine ae.intro (λa=>?_) (λa=>?_)
  ·have a:decide (e.data=Gw)=false:=by simpa using a
   refine AC.mk (AL j rfl) ?_;rw[X,lG (by decide)];rw[a,SU] at m;cases O:dP e.kind with
   |false=>exact g (by rw[m,O])
   |true=>exact aQ (by rw[m,O])
  ·have a:decide (e.data=Gw)=true:=by simpa using a
   rw[a,Bool.true_or] at m;exact aQ m
 refine Ab.mk (AB b rfl) (ae.intro (λa=>?_) (λa=>?_))
 ·refine AC.mk (AL j rfl) ?_;rw[W,lG (by decide)];refine ae.intro (λE=>g ?_) (λE=>N ?_)
  ·have:dO e.kind=false:=by simpa using E
   rw[m,a,this];rfl
  ·have:dO e.kind=true:=by simpa using E
   rw[this,HG]
 ·exact N (by rw[a];rfl)
theorem pa:PO P Dy Gf fh.w 32=true:=by kernel_rfl
theorem pb:PO P DN Fz fX.w 24=true:=by kernel_rfl
theorem zH:(zeroValue Gf).calc P=some Jb.z.v:=by kernel_rfl
theorem zI:(zeroValue Fz).calc P=some Ck.z.v:=by kernel_rfl
def pd(d:Option Nat):Int:=match d with|some i=>(i:Int)|none=> -1
theorem su {g:Type}{p:g->Bool}{l:List g}{d:Nat}(n:d<=l.length)(h: ∀x∈l.take d,p x=false):(∀ x,l[d]? =some x->p x=true->l.findIdx? p=some d)/\(d=l.length->l.findIdx? p=none):=by
 constructor
 ·intro x f j;rw[List.findIdx?_eq_some_iff_getElem];obtain⟨k,e⟩:=List.getElem?_eq_some_iff.1 f;refine⟨k,by rw[e];exact j,λi m=>?_⟩;have:=h l[i] (List.mem_iff_getElem?.2 ⟨i,by rw[Fl,if_pos m];exact A2 (by omega)⟩);simp[this]
 ·intro e;rw[List.findIdx?_eq_none_iff];intro x f;have:x∈l.take d:=by rw[e,BW];exact f
  simp[h x this]
section
variable {A : al} {h : aa} {R : A2N} {s : ba} {e : Ev} {a b c : Sl}
theorem zJ {p:Jb->Bool}{sl:Sl}{l:List Jb}{f:J0}(v:View fh h sl l)(J:l.length<=1000000)(B: ∀(x:Jb) (d:aa) (r:A2N),Ext h d->(∀ g,Ext d g->r (J3 (p x)) g)->EH A P f #[x.v] d r)
  (t: ∀g,Ext h g->R (J6 J9 (pd (l.findIdx? p))) g):AA A P DI #[J4 sl.p sl.len sl.cap,f] h R:=by
 refine IJ ?_;unfold EY;refine Loop.rule (λm x d=> ∃i:Nat,x=((i:Int),())/\m=l.length-i/\i<=l.length/\Ext h d/\ ∀x∈l.take i,p x=false) ?_ ⟨0,rfl,rfl,As _,Mod.refl,by simp⟩;rintro K m _ u ⟨i,rfl,rfl,C,j,w⟩ D;obtain⟨E,F⟩:=su C w;dsimp only;have L:=v.len;refine ae.intro (λn=>?_) (λn=>?_)
 ·have k:i<l.length:=by simp at n;omega
  obtain⟨x,o⟩: ∃x,l[i]? =some x:=⟨_,A2 k⟩;refine(v.ext j).idx o λM _ G=>jZ.mk x G ?_
  refine B x u _ j λH y=>⟨_,rfl,?_⟩
  refine ae.intro (λq=>?_) (λq=>?_)
  ·have:=t H (j.trans y);rw[E x o q] at this;exact this
  ·rw[Aa (by omega)];refine D (l.length-(i+1)) _ _ (by omega) ⟨i+1,rfl,rfl,k,j.trans y,λI z=>?_⟩;rw[AD,o,DG] at z;rcases List.mem_append.1 z with h|h
   ·exact w I h
   ·rw[List.mem_singleton.1 h];exact q
 ·have k:i=l.length:=by simp at n;omega
  have:=t u j;rw[F k] at this;exact this
theorem zK {p:Ck->Bool}{sl:Sl}{l:List Ck}{f:J0}(v:View fX h sl l)(J:l.length<=1000000)(B: ∀(x:Ck) (d:aa) (r:A2N),Ext h d->(∀ g,Ext d g->r (J3 (p x)) g)->EH A P f #[x.v] d r)
  (t: ∀g,Ext h g->R (J6 J9 (pd (l.findIdx? p))) g):AA A P Cn #[J4 sl.p sl.len sl.cap,f] h R:=by
 refine Gm ?_;unfold Dw;refine Loop.rule (λm x d=> ∃i:Nat,x=((i:Int),())/\m=l.length-i/\i<=l.length/\Ext h d/\ ∀x∈l.take i,p x=false) ?_ ⟨0,rfl,rfl,As _,Mod.refl,by simp⟩;rintro K m _ u ⟨i,rfl,rfl,C,j,w⟩ D;obtain⟨E,F⟩:=su C w;dsimp only;have L:=v.len;refine ae.intro (λn=>?_) (λn=>?_)
 ·have k:i<l.length:=by simp at n;omega
  obtain⟨x,o⟩: ∃x,l[i]? =some x:=⟨_,A2 k⟩;refine(v.ext j).idx o λM _ G=>nB.mk x G ?_
  refine B x u _ j λH y=>⟨_,rfl,?_⟩
  refine ae.intro (λq=>?_) (λq=>?_)
  ·have:=t H (j.trans y);rw[E x o q] at this;exact this
  ·rw[Aa (by omega)];refine D (l.length-(i+1)) _ _ (by omega) ⟨i+1,rfl,rfl,k,j.trans y,λI z=>?_⟩;rw[AD,o,DG] at z;rcases List.mem_append.1 z with h|h
   ·exact w I h
   ·rw[List.mem_singleton.1 h];exact q
 ·have k:i=l.length:=by simp at n;omega
  have:=t u j;rw[F k] at this;exact this
theorem zL(o:View fh h b s.ar)(q:s.ar.length<=1000000)(r: ∀f,Ext h f->R (J6 J9 (pd (lz s e.ref e.turn))) f):AA A P SS #[(s.V a b c).v,e.v] h R:=by
 refine AE5 ?_;unfold Zg;refine ak.mk λt _ u v F=>ak.mk λG _ w g H=>?_
 have i:=v.trans g;refine AY.mk (s:=b) (AB (g.af u λh=>h) rfl) (zJ (o.ext i) q (p:=λj=>decide (j.id=e.ref)&&decide (j.turn=e.turn)) (λx I J y z=>?_) λB C=>⟨_,rfl,r B (i.trans C)⟩);refine EH.func (first:= #[]) (bT:= #[Ay t.size]) (by kernel_rfl) (ABV ?_);unfold Uf;refine ak.mk λD _ k l K=>?_
 have m:=(y.trans l).af w λh=>h
 have:=z D l;refine AC.mk (n:=x.id) (AL k rfl) (AC.mk (n:=e.ref) (AB m rfl) (ae.intro (λd=>?_) (λd=>?_)))
 ·have d:x.id=e.ref:=by simpa using d
  refine AC.mk (n:=x.turn) (AB k rfl) (AC.mk (n:=e.turn) (AB m rfl) ?_);have E:(x.turn==e.turn)=(decide (x.id=e.ref)&&decide (x.turn=e.turn)):=by rw[decide_eq_true d,Fk,Fm];simp
  rw[E];exact this
 ·have d:x.id≠e.ref:=by simpa using d
  rw[decide_eq_false d,Gk] at this;exact this
theorem step_ok {g f:Int}(G:View QS h a s.prog.steps)(v: ∀j,Ext h j->R (J1 #[((stepOf s.prog g f).getD bP.z).v,J3 (stepOf s.prog g f).isSome]) j):AA A P KU #[(s.V a b c).v,J6 J9 g,J6 J9 f] h R:=by
 refine ADV ?_;unfold XD;refine ak.mk λH _ I J T=>ak.mk λw _ y z U=>?_
 have B:=J.trans z;have o:=z.af I λh=>h
 have p:=G.ext B;have C: ∀j,Mod (· =H.size) w j->Ext h j:=λj m=>B.more m λc L=>by subst L;omega
 refine ah.mk λK D=>?_
 have no:stepOf s.prog g f=none->K (true,()) w:=λM=>by
  refine D _ _ (ae.yes rfl (aK.mk y (A0 6) λk q r N=>ZV.mk bP.z (Dj q rfl) ?_));have:=v k (C k r);rw[M] at this;exact this
 refine ae.intro (λd=>no ?_) (λd=>?_)
 ·have d:g<0:=by simpa using d
  unfold stepOf;rw[if_neg (by omega)]
 have E:0<=g:=by simp at d;omega
 obtain⟨i,rfl⟩: ∃i:Nat,g=i:=⟨g.toNat,by omega⟩;refine AY.mk (s:=a) (AL o rfl) ?_;rw[p.len];refine ae.intro (λd=>no ?_) (λd=>?_)
 ·have d:s.prog.steps.length<=i:=by simp at d;omega
  unfold stepOf;rw[if_pos E,A6,LO d];rfl
 have O:i<s.prog.steps.length:=by simp at d;omega
 obtain⟨x,t⟩: ∃x,s.prog.steps[i]? =some x:=⟨_,A2 O⟩;have l:stepOf s.prog (i:Int) f=if x.kind=f then some x else none:=by unfold stepOf;rw[if_pos E,A6,t];rfl
 refine AY.mk (s:=a) (AL o rfl) (p.idx t λV _ Q=>?_);have F:=Q 0 _ rfl;rw[add_zero] at F;refine AC.mk F ?_;by_cases n:x.kind=f
 ·rw[if_pos n] at l;have u:(x.kind != f)=false:=by simp[n]
  rw[u];refine D _ _ (ae.no rfl (AY.mk (s:=a) (AL o rfl) (p.idx t λW _ S=>ZV.mk x S (aK.mk y (A0 6) λk q r N=>ZV.mk x (Dj q rfl) ?_))));have:=v k (C k r);rw[l] at this;exact this
 ·rw[if_neg n] at l;have u:(x.kind != f)=true:=by simp[n]
  rw[u];exact no l
theorem zM {d:Jb}(r:View QS h a s.prog.steps)(t: ∀i,Ext h i->R (J6 J9 (I9 s.prog d)) i):AA A P O7 #[(s.V a b c).v,d.v] h R:=by
 refine ACC ?_;unfold Uy;refine ak.mk λD _ u v E=>ak.mk λw _ j k F=>?_
 have l:=v.trans k;refine Av.mk (s.V a b c) (Eh (k.af u λh=>h)) (AC.mk (n:=d.step) (AB j rfl) (step_ok (r.ext l) λG m=>Zx.mk _ ⟨_,rfl,ak.mk λH _ y z I=>aK.mk y (A0 6) λo g B J=>?_⟩));rw[p7] at g;have p:Ext w o:=(m.trans z).more B λc C=>by subst C;exact m.size
 have:=t o (l.trans p);unfold I9 at this;cases q:stepOf s.prog d.step 1 with
 |none=>rw[q] at this;exact ae.yes rfl this
 |some x=>
  rw[q] at g this;refine ae.no rfl (Ab.mk (n:=d.aL) (AB (p.af j λh=>h) rfl) (ae.intro (λf=>?_) (λf=>?_)))
  ·have f:d.aL=true:=f;dsimp only at this;rw[if_pos f] at this;exact AC.mk (n:=x.aw) (AB g rfl) this
  ·have f:d.aL=false:=f;dsimp only at this;rw[if_neg (by simp[f])] at this;exact AC.mk (n:=x.tries) (AB g rfl) this
theorem zN {sl:Sl}{l:List Jb}{i:Nat}(f:Own fh Gf h sl l)(g:i<l.length)(j: ∀d,Own fh Gf d ⟨sl.p,l.length-1,sl.cap⟩ (l.eraseIdx i)->Mod (λb=>sl.af=some b) h d->R (J4 sl.p (l.length-1) sl.cap) d):
  AA A P DZ #[J4 sl.p sl.len sl.cap,J6 J9 (i:Int),J6 J9 ((i+1:Nat):Int)] h R:=
 JI (uS (E:=fh) (zv:=Jb.z.v) pa zH (by decide) rfl f g j)
theorem zP {sl:Sl}{l:List Ck}{i:Nat}(f:Own fX Fz h sl l)(g:i<l.length)(j: ∀d,Own fX Fz d ⟨sl.p,l.length-1,sl.cap⟩ (l.eraseIdx i)->Mod (λb=>sl.af=some b) h d->R (J4 sl.p (l.length-1) sl.cap) d):
  AA A P Cz #[J4 sl.p sl.len sl.cap,J6 J9 (i:Int),J6 J9 ((i+1:Nat):Int)] h R:=
 Ha (uS (E:=fX) (zv:=Ck.z.v) pb zI (by decide) rfl f g j)
theorem mE {h:aa}{b:Nat}{T:Q7}{x i:bF}{K:bF->aa->Prop}(j:h[b]? =some (J2 i.c T (0,0)))(k: ∀d,Mod (· =b) h d->K x d):
  aK h ⟨b,0,none⟩ x.l λf=>Av f ⟨b,0,none⟩ λr=>K r f:=
 aK.mk j (A0 12) λd g m s=>Av.mk x (Eh (by rw[OG] at g;exact g)) (k d m)
theorem zQ {s:ba}{f turn:Int}{i:Nat}(h:lz s f turn=some i): ∃d,s.ar[i]? =some d/\d.id=f/\d.turn=turn:=by unfold lz at h;obtain⟨j,g,_⟩:=List.findIdx?_eq_some_iff_getElem.1 h;simp only[A3,decide_eq_true_eq] at g;exact⟨_,A2 j,g⟩
theorem zR(S:Ia h s a b c)(ac:Own fh Gf h b s.ar)(I:s.ar.length<=1000)(a5:6<=e.kind/\e.kind<=9)(w:0<=e.turn/\e.turn<=1000)
  (ad: ∀B (t:ba) (b':Sl),Mod (λx=>b.af=some x\/h.size<=x) h B->(∀ x,b'.af=some x->b.af=some x\/h.size<=x)->(∀ t',Kq s e=some t'->t=t'/\View fh B b' t'.ar)->R (J1 #[(t.V a b' c).v,J3 (Kq s e).isSome]) B):AA A P Qn #[(s.V a b c).v,e.v] h R:=by
 refine ADs ?_;unfold Wl;refine kU λav l=>AC.mk (l.bL (j:=1) rfl) ?_
 have af:=l.ext;have a6:=af.size;have a7:=Af l.b2;have F: ∀x,b.af=some x->x<h.size:=λx f=>ac.lt f
 have T:Kq s e=none-> ∀ {m:aa},Ext av m->Av m ⟨h.size,0,none⟩ λt=>aK m ⟨h.size+2,0,none⟩ t.l λJ=>Av J ⟨h.size+2,0,none⟩ λr=>R (J1 #[r.v,J3 false]) J:=λaw m x=>by
  refine(l.on x).ret λB x'=>?_
  have:=ad B s b x'.mod (λa8 aL=> .inl aL) (λt' w=>by rw[aw] at w;cases w);rw[aw] at this;exact this
 refine ae.intro (λp=>?_) (λp=>?_)
 ·have p:e.kind=6:=by simpa using p
  refine l.eT (AC.mk (l.bL (j:=4) rfl) (step_ok (S.steps.ext af) λaM G=>Zx.mk _ ⟨_,rfl,ak.mk λU _ aN ag a9=>aK.mk aN (A0 6) λq ai C aO=>?_⟩));rw[p7] at ai;have V:Ext av q:=(G.trans ag).more C λc d=>by subst d;exact G.size
  have y:=l.on V;refine ah.mk λK ax=>?_
  cases W:stepOf s.prog e.step 1 with
  |none=>exact ae.yes rfl (ax _ _ (ae.yes rfl (T (by unfold Kq;rw[if_pos p,W];rfl) V)))
  |some x=>
   rw[W] at ai;have key: ∀z:Bool,(z=true↔e.aL=true/\x.aL=Gw)->K (z,()) q:=λz L=>by
    refine ax _ _ (ae.intro (λg=>T ?_ V) (λg=>?_))
    ·unfold Kq;rw[if_pos p,W,Hh,if_pos (L.1 g)]
    have g:z=false:=g;have k:Kq s e=some {s with ar:=s.ar++ [⟨e.id,e.step,e.aL,1⟩]}:=by unfold Kq;rw[if_pos p,W,Hh,if_neg λh=>by rw[L.2 h] at g;cases g]
    refine AY.mk (s:=b) (y.cJ (j:=8) rfl) (AC.mk (y.bL (j:=0) rfl) (AC.mk (y.bL (j:=4) rfl) (Ab.mk (y.bL (j:=6) rfl) ?_)));refine ak.aZ (E:=fh) (x:=⟨e.id,e.step,e.aL,1⟩) (s:=b) rfl pa (ac.ext y.ext) (by omega) (by simp only[maxLen];omega) λb' u aP M ay bb=>?_
    have bc:=V.size;have ne: ∀az,b.af=some (h.size+az)->False:=λaz f=>by have:=F _ f;omega
    refine ab.bL (dR:=(({s with ar:=s.ar++ [⟨e.id,e.step,e.aL,1⟩]}:ba).V a b' c).c) (M.af y.b0 (ne 0)) (of_decide_eq_true rfl) rfl λN aj X aQ=>?_
    refine Av.mk (({s with ar:=s.ar++ [⟨e.id,e.step,e.aL,1⟩]}:ba).V a b' c) (Eh aj) (mE (X.af (M.af y.b2 (ne 2)) (by omega)) λaA aR=>?_);have aS: ∀x,b'.af=some x->b.af=some x\/h.size<=x:=λx f=>(ay x f).imp id λh=>by omega
    have aC:Mod (λc=>c=h.size\/c=h.size+2) u aA:=(X.ai λc _ d=> .inl d).trans (aR.ai λc _ d=> .inr d);have O:=ad aA {s with ar:=s.ar++ [⟨e.id,e.step,e.aL,1⟩]} b' ((y.ext.mod.trans (M.ai λc _ d=> .inl d)).trans (aC.ai λc _ d=> .inr (by omega))) aS (λt' w=>?_)
    ·rw[k] at O;exact O
    ·rw[k] at w;cases w;refine⟨rfl,(aP.mod aC λx f d=>?_).view⟩;rcases ay x f with h|h
     ·have:=F x h;omega
     ·omega
   refine ae.no rfl (Ab.mk (y.bL (j:=6) rfl) (ae.intro (λD=>?_) (λD=>?_)))
   ·have D:e.aL=true:=D;refine AJ.mk (n:=x.aL) (AB ai rfl) (key _ ?_);rw[nH,decide_eq_true_eq];exact⟨λh=>⟨D,h⟩,λh=>h.2⟩
   ·have D:e.aL=false:=D;exact key _ ⟨(λh=>by cases h),λh=>(by have:=h.1;rw[D] at this;cases this)⟩
 have p:e.kind≠6:=by simpa using p
 refine l.eT (l.jI (zL (S.ar.ext af) (by omega) λaM G=>⟨_,rfl,?_⟩));cases al:lz s e.ref e.turn with
 |none=>exact ae.yes rfl (T (by unfold Kq;rw[if_neg p,al];rfl) G)
 |some i=>
  obtain⟨j,H,bd,be⟩:=zQ al;have aT:=(List.getElem?_eq_some_iff.1 H).1;have Q:=l.on G;show ae (decide ((i:Int)<0)) _ _;refine ae.no (decide_eq_false (by omega)) ?_;have k:Kq s e=if e.kind=8 then(if e.turn=I9 s.prog j then none else some {s with ar:=s.ar.set i {j with turn:=j.turn+1}}) else if e.kind=7\/e.turn=I9 s.prog j then some {s with ar:=s.ar.eraseIdx i,fresh:=true} else none:=by unfold Kq;rw[if_neg p,al,Hh,H,Hh]
  refine AC.mk (Q.bL (j:=5) rfl) (Q.eT (AY.mk (s:=b) (Q.cJ (j:=8) rfl) ?_));refine(S.ar.ext Q.ext).idx H λbf _ aU=>jZ.mk j aU ?_
  refine zM (S.steps.ext Q.ext) λU ag=>⟨_,rfl,?_⟩
  have am:=G.trans ag;have o:=l.on am;have bg:=am.size;have Y:=ac.ext o.ext;refine⟨o.bL (j:=5) rfl,ah.mk λaV aD=>?_⟩;have yes: ∀ {m:aa} {t:ba} {b':Sl} {S':Nat->Prop},Kq s e=some t->Own fh Gf m b' t.ar->Mod (λx=>b.af=some x\/x=h.size) U m->m[h.size]? =some (J2 (t.V a b' c).c Aq (0,0))->b'.p=b.p->
    Av m ⟨h.size,0,none⟩ λt=>aK m ⟨h.size+2,0,none⟩ t.l λJ=>Av J ⟨h.size+2,0,none⟩ λr=>R (J1 #[r.v,J3 true]) J:=λ{m t b' S'} k aW aE aX aY=>by
   have aF: ∀x,b'.af=some x->b.af=some x:=λx f=>by unfold Sl.af at f ⊢;rw[<- aY];exact f
   refine Av.mk (t.V a b' c) (Eh aX) (mE (aE.af o.b2 λd=>by
    rcases d with d|d
    ·have:=F _ d;omega
    ·omega) λB aG=>?_)
   have O:=ad B t b' ((o.ext.mod.trans (aE.ai λc _ d=>d.imp id λh=>by omega)).trans (aG.ai λc _ d=> .inr (by omega))) (λx f=> .inl (aF x f)) (λt' w=>?_)
   ·rw[k] at O;exact O
   ·rw[k] at w;cases w;exact⟨rfl,(aW.mod aG λx f d=>by have:=F x (aF x f);omega).view⟩
  have aH: ¬b.af=some h.size:=λf=>by have:=F _ f;omega
  have aI:(Kq s e=if e.kind=7\/(e.kind=9/\e.turn=I9 s.prog j) then some {s with ar:=s.ar.eraseIdx i,fresh:=true} else none)->aV (false,()) U:=λZ=>by
   refine aD _ _ (ae.no rfl (ah.mk λaZ a0=>?_));have an: ∀z:Bool,(z=true↔e.kind=7\/(e.kind=9/\e.turn=I9 s.prog j))->aZ (z,()) U:=λz L=>by
    refine a0 _ _ (ae.intro (λg=>?_) (λg=>T ?_ am))
    ·rw[if_pos (L.1 g)] at Z;refine AY.mk (s:=b) (o.cJ (j:=8) rfl) ?_;show AA A P _ #[_,J6 J9 (i:Int),J6 J9 (J8 J9 ((i:Int)+1))] _ _;rw[Aa (by omega)];refine zN Y aT λq ao C=>⟨⟨b.p,s.ar.length-1,b.cap⟩,rfl,?_⟩
     refine ab.bL (dR:=(({s with ar:=s.ar.eraseIdx i}:ba).V a ⟨b.p,s.ar.length-1,b.cap⟩ c).c) (C.af o.b0 aH) (of_decide_eq_true rfl) rfl λu a1 M bh=>?_
     refine ab.bL (dR:=(({s with ar:=s.ar.eraseIdx i,fresh:=true}:ba).V a ⟨b.p,s.ar.length-1,b.cap⟩ c).c) a1 (of_decide_eq_true rfl) rfl λN aj X aQ=>?_
     have aJ:=M.trans X;exact yes (t:= {s with ar:=s.ar.eraseIdx i,fresh:=true}) (b':=⟨b.p,s.ar.length-1,b.cap⟩) (S':=λ_=>True) Z (ao.mod aJ λx f d=>by have:=F x f;omega) ((C.ai λc _ d=> .inl d).trans (aJ.ai λc _ d=> .inr d)) aj rfl
    ·have g:z=false:=g;rw[if_neg λh=>by rw[L.2 h] at g;cases g] at Z;exact Z
   refine AC.mk (o.bL (j:=1) rfl) (ae.intro (λq=>?_) (λq=>?_))
   ·have ap:e.kind=7:=by simpa using q
    exact an _ (by simp[ap])
   ·have ap:e.kind≠7:=by simpa using q
    refine AC.mk (o.bL (j:=1) rfl) (ae.intro (λN=>?_) (λN=>?_))
    ·have aq:e.kind=9:=by simpa using N
     exact an _ (by simp[aq])
    ·have aq:e.kind≠9:=by simpa using N
     exact an _ (by simp[ap,aq])
  refine AC.mk (o.bL (j:=1) rfl) (ae.intro (λu=>?_) (λu=>?_))
  ·have u:e.kind=8:=by simpa using u
   rw[if_pos u] at k;by_cases I:e.turn=I9 s.prog j
   ·rw[if_pos I] at k;have au:(!(e.turn==I9 s.prog j))=false:=by simp[I]
    rw[au];exact aI (by rw[k,if_neg (by omega)])
   ·rw[if_neg I] at k;have au:(!(e.turn==I9 s.prog j))=true:=by simp[I]
    rw[au];refine aD _ _ (ae.yes rfl (AY.mk (s:=b) (o.cJ (j:=8) rfl) (Y.view.idx H λbi _ a2=>AC.mk (n:=j.turn) (a2 3 _ rfl) (Y.view.idx H λa3 a4 _=>?_))));rw[wrap_i64 (by omega) (by omega)];refine Own.store (E:=fh) (i:=i) (j:=3) (x:=j) (x':= {j with turn:=j.turn+1}) (v:=J6 J9 (j.turn+1)) Y H rfl (by decide) (λq ao C aO=>?_) a3 a4;exact yes (t:= {s with ar:=s.ar.set i {j with turn:=j.turn+1}}) (b':=b) (S':=λ_=>True) k ao (C.ai λc _ d=> .inl d) (C.af o.b0 aH) rfl
  ·have u:e.kind≠8:=by simpa using u
   rw[if_neg u] at k;refine aI ?_;rw[k];have:(e.kind=7\/e.turn=I9 s.prog j)↔(e.kind=7\/e.kind=9/\e.turn=I9 s.prog j):=by
    constructor
    ·rintro(h|h)
     ·exact .inl h
     ·by_cases q:e.kind=7
      ·exact .inl q
      ·exact .inr ⟨by omega,h⟩
    ·rintro(h|h)
     ·exact .inl h
     ·exact .inr h.2
   simp only[this]
theorem zS(af:Ia h s a b c)(N:Own fX Fz h c s.aj)(aH:s.aj.length<=1000)(aI:e.kind=10\/e.kind=11)(k:0<=e.tick/\e.tick<=1099511627776)(aq: ∀x,stepOf s.prog e.step 2=some x->0<=x.wait/\x.wait<=1099511627776)
  (O: ∀w (t:ba) (o:Sl),Mod (λx=>c.af=some x\/h.size<=x) h w->(∀ x,o.af=some x->c.af=some x\/h.size<=x)->(∀ t',Jh s e=some t'->t=t'/\View fX w o t'.aj)->R (J1 #[(t.V a b o).v,J3 (Jh s e).isSome]) w):AA A P PQ #[(s.V a b c).v,e.v] h R:=by
 refine ABm ?_;unfold Ua;refine kU λQ g=>AC.mk (g.bL (j:=1) rfl) ?_
 have S:=g.ext;have aJ:=S.size;have aL:=Af g.b2;have T: ∀x,c.af=some x->x<h.size:=λx f=>N.lt f
 have ag:Jh s e=none-> ∀ {y:aa},Ext Q y->Av y ⟨h.size,0,none⟩ λt=>aK y ⟨h.size+2,0,none⟩ t.l λai=>Av ai ⟨h.size+2,0,none⟩ λr=>R (J1 #[r.v,J3 false]) ai:=λal y x=>by
  refine(g.on x).ret λw ar=>?_
  have:=O w s c ar.mod (λaM au=> .inl au) (λt' k=>by rw[al] at k;cases k);rw[al] at this;exact this
 have I: ∀q,c.af=some (h.size+q)->False:=λq f=>by have:=T _ f;omega
 refine ae.intro (λl=>?_) (λl=>?_)
 ·have l:e.kind=10:=by simpa using l
  refine g.eT (AC.mk (g.bL (j:=4) rfl) (step_ok (af.steps.ext S) λU m=>Zx.mk _ ⟨_,rfl,ak.mk λaN _ J av aO=>aK.mk J (A0 6) λV W z aP=>?_⟩));rw[p7] at W;have X:Ext Q V:=(m.trans av).more z λc d=>by subst d;exact m.size
  have u:=g.on X;cases L:stepOf s.prog e.step 2 with
  |none=>
   refine ah.mk λK Y=>?_
   exact ae.no rfl (Y _ _ (ag (by unfold Jh;rw[if_pos l,L];rfl) X))
  |some x=>
   refine ah.mk λK Y=>?_
   rw[L] at W;obtain⟨aQ,aR⟩:=aq x L;have B:Jh s e=some {s with aj:=s.aj++ [⟨e.id,e.step,e.tick+x.wait⟩]}:=by unfold Jh;rw[if_pos l,L];rfl
   refine ae.yes rfl (AY.mk (s:=c) (u.cJ (j:=9) rfl) (AC.mk (u.bL (j:=0) rfl) (AC.mk (u.bL (j:=4) rfl) (AC.mk (u.bL (j:=2) rfl) (AC.mk (n:=x.wait) (AB W rfl) ?_)))));rw[wrap_i64 (by omega) (by omega)];refine ak.aZ (E:=fX) (x:=⟨e.id,e.step,e.tick+x.wait⟩) (s:=c) rfl pb (N.ext u.ext) (by omega) (by simp only[maxLen];omega) λo am aw C an aS=>?_
   have aT:=X.size;refine ab.bL (dR:=(({s with aj:=s.aj++ [⟨e.id,e.step,e.tick+x.wait⟩]}:ba).V a b o).c) (C.af u.b0 (I 0)) (of_decide_eq_true rfl) rfl λax Z M ay=>?_
   refine Y _ _ (Av.mk (({s with aj:=s.aj++ [⟨e.id,e.step,e.tick+x.wait⟩]}:ba).V a b o) (Eh Z) (mE (M.af (C.af u.b2 (I 2)) (by omega)) λD ac=>?_));have az: ∀x,o.af=some x->c.af=some x\/h.size<=x:=λx f=>(an x f).imp id λh=>by omega
   have F:Mod (λc=>c=h.size\/c=h.size+2) am D:=(M.ai λc _ d=> .inl d).trans (ac.ai λc _ d=> .inr d);have G:=O D {s with aj:=s.aj++ [⟨e.id,e.step,e.tick+x.wait⟩]} o ((u.ext.mod.trans (C.ai λc _ d=> .inl d)).trans (F.ai λc _ d=> .inr (by omega))) az (λt' k=>?_)
   ·rw[B] at G;exact G
   ·rw[B] at k;cases k;refine⟨rfl,(aw.mod F λx f d=>?_).view⟩;rcases an x f with h|h
    ·have:=T x h;omega
    ·omega
 have l:e.kind≠10:=by simpa using l
 have aA:Q[h.size+1]? =some (J2 e.c BD (0,0)):=g.b1;refine AY.mk (s:=c) (g.cJ (j:=9) rfl) (zK (p:=λq=>decide (q.id=e.ref)&&decide (q.tick<=e.tick)) (af.aj.ext S) (by omega) (λx y aU aC aD=>?_) λU m=>⟨_,rfl,?_⟩)
 ·refine EH.func (first:= #[]) (bT:= #[Ay (h.size+1)]) (by kernel_rfl) (ZA ?_);unfold RY;refine ak.mk λU _ ao m aV=>?_
  have J:=(aC.trans m).af aA λh=>h
  have:=aD U m;refine AC.mk (n:=x.id) (AL ao rfl) (AC.mk (n:=e.ref) (AB J rfl) (ae.intro (λv=>?_) (λv=>?_)))
  ·have v:x.id=e.ref:=by simpa using v
   rw[decide_eq_true v,Fk] at this;exact AC.mk (n:=e.tick) (AB J rfl) (AC.mk (n:=x.tick) (AB ao rfl) this)
  ·have v:x.id≠e.ref:=by simpa using v
   rw[decide_eq_false v,Gk] at this;exact this
 cases ad:(s.aj.findIdx? λq=>decide (q.id=e.ref)&&decide (q.tick<=e.tick)) with
 |none=>exact ae.yes rfl (ag (by unfold Jh;rw[if_neg l,ad];rfl) m)
 |some i=>
  have aE:i<s.aj.length:=(List.findIdx?_eq_some_iff_getElem.1 ad).1;have B:Jh s e=some {s with aj:=s.aj.eraseIdx i,fresh:=true}:=by unfold Jh;rw[if_neg l,ad];rfl
  have H:=g.on m;have aW:=m.size;show ae (decide ((i:Int)<0)) _ _;refine ae.no (decide_eq_false (by omega)) (AY.mk (s:=c) (H.cJ (j:=9) rfl) ?_);show AA A P _ #[_,J6 J9 (i:Int),J6 J9 (J8 J9 ((i:Int)+1))] _ _;rw[Aa (by omega)];refine zP (N.ext H.ext) aE λV aF z=>⟨⟨c.p,s.aj.length-1,c.cap⟩,rfl,?_⟩
  refine ab.bL (dR:=(({s with aj:=s.aj.eraseIdx i}:ba).V a b ⟨c.p,s.aj.length-1,c.cap⟩).c) (z.af H.b0 (I 0)) (of_decide_eq_true rfl) rfl λam aG C aX=>?_
  refine ab.bL (dR:=(({s with aj:=s.aj.eraseIdx i,fresh:=true}:ba).V a b ⟨c.p,s.aj.length-1,c.cap⟩).c) aG (of_decide_eq_true rfl) rfl λax Z M ay=>?_
  have ap:=C.trans M;refine Av.mk (({s with aj:=s.aj.eraseIdx i,fresh:=true}:ba).V a b ⟨c.p,s.aj.length-1,c.cap⟩) (Eh Z) (mE (ap.af (z.af H.b2 (I 2)) (by omega)) λD ac=>?_);have F:Mod (λc=>c=h.size\/c=h.size+2) V D:=(ap.ai λc _ d=> .inl d).trans (ac.ai λc _ d=> .inr d);have G:=O D {s with aj:=s.aj.eraseIdx i,fresh:=true} ⟨c.p,s.aj.length-1,c.cap⟩ ((H.ext.mod.trans (z.ai λc _ d=> .inl d)).trans (F.ai λc _ d=> .inr (by omega))) (λx f=> .inl f) (λt' k=>?_)
  ·rw[B] at G;exact G
  ·rw[B] at k;cases k;exact⟨rfl,(aF.mod F λx f d=>by have:=T x f;omega).view⟩
end
theorem YD {A:al}{m:Type}{E:cy m}{t T:Q7}{n:Nat}(w:PO P t T E.w n=true){h:aa}{s:Sl}{l:List m}{R:A2N}(v:View E h s l)(y:l.length*n<=140737488355328)(z:l.length<=maxLen)
  (o: ∀d i,Own E T i d l->(∀ c,d.af=some c->h.size<=c)->Ext h i->R (J4 d.p d.len d.cap) i):
  ae (s.p.isNone) (R (J4 none 0 0) h) (ak h (J2 #[] T) λb j=>BF A P (Builtin.append_ #[t,t] t #[J4 (some (⟨b,0,none⟩:Q6)) 0 0,J4 s.p s.len s.cap]) j λv k=> ∃f:Sl,v=J4 f.p f.len f.cap/\R (J4 f.p f.len f.cap) k):=by
 refine ae.intro (λp=>?_) (λp=>?_)
 ·have B:s.p=none:=by simpa using p
  have:l= []:=by
   cases l with
   |nil=>rfl
   |cons x l=>
    obtain⟨a,q,_⟩:=v.cells 0 x rfl;rw[B] at q;cases q
  subst this;exact o ⟨none,0,0⟩ h Own.nil (λc g=>by simp[Sl.af] at g) Mod.refl
 ·refine ak.mk λj _ C r I=>?_
  have D:Own E T j ⟨some ⟨h.size,0,none⟩,0,0⟩ []:=Own.lit (E:=E) (l:= []) C rfl (by simp[maxLen]);refine GI (s:=⟨some ⟨h.size,0,none⟩,0,0⟩) w D (v.ext r) (by simpa using y) (by simpa using z) λd k F G H _=>o d k F (λc g=>?_) (r.more G λc g=>?_)
  ·rcases H c g with u|u
   ·have e:h.size=c:=by simpa [Sl.af] using u
    omega
   ·omega
  ·have e:h.size=c:=by simpa [Sl.af] using g
   omega
section
variable {A : al} {h : aa} {R : A2N} {s : ba} {e : Ev} {a b c : Sl}
theorem zT {x:Sl}{l:List Jb}(v:View fh h x l)(i:l.length<=1000)(g: ∀d f,Own fh Gf f d l->(∀ c,d.af=some c->h.size<=c)->Ext h f->R (J4 d.p d.len d.cap) f):AA A P Dk #[J4 x.p x.len x.cap] h R:=by refine JO ?_;unfold FJ;exact YD pa v (by omega) (by simp only[maxLen];omega) g
theorem zU {x:Sl}{l:List Ck}(v:View fX h x l)(i:l.length<=1000)(g: ∀d f,Own fX Fz f d l->(∀ c,d.af=some c->h.size<=c)->Ext h f->R (J4 d.p d.len d.cap) f):AA A P DF #[J4 x.p x.len x.cap] h R:=by refine IE ?_;unfold EU;exact YD pb v (by omega) (by simp only[maxLen];omega) g
theorem zV {x:Sl}{l:List bP}(v:View QS h x l)(i:l.length<=1000)(g: ∀d f,Own QS Bp f d l->(∀ c,d.af=some c->h.size<=c)->Ext h f->R (J4 d.p d.len d.cap) f):AA A P DX #[J4 x.p x.len x.cap] h R:=by refine Io ?_;unfold Es;exact YD vN v (by omega) (by simp only[maxLen];omega) g
structure iL (h:aa) (n:Nat) (t:ba) (a b c:Sl) (b' c':Sl):Prop where
 at':Ia h t a b' c'
 fb: ∀x,b'.af=some x->b.af=some x\/n<=x
 fc: ∀x,c'.af=some x->c.af=some x\/n<=x
theorem mF {x:Nat}{P:Prop}(h:(⟨none,0,0⟩:Sl).af=some x):P:=by simp[Sl.af] at h
theorem zW(k:Ia h s a b c)(ad:e.kind=1\/12<=e.kind)(W:e.kind=14->0<=s.aW+s.prog.aA/\s.aW+s.prog.aA<=9223372036854775807)
  (T: ∀f (t:ba) (m n:Sl),Ext h f->(∀ t',JS s e=some t'->t=t'/\iL f h.size t' a b c m n)->R (J1 #[(t.V a m n).v,J3 (JS s e).isSome]) f):AA A P Qw #[(s.V a b c).v,e.v] h R:=by
 refine ADR ?_;unfold WF;refine kU λM d=>AC.mk (d.bL (j:=1) rfl) (ah.mk λK X=>?_)
 have yes: ∀ {t:ba} {hh:aa} {m n:Sl},(∀ x,m.af=some x->b.af=some x\/h.size<=x)->(∀ x,n.af=some x->c.af=some x\/h.size<=x)->Ia h t a m n->JS s e=some t-> ∀f,Ext h f->R (J1 #[(t.V a m n).v,J3 true]) f:=λ{t hh m n} Y Z N v f x=>by
  have:=T f t m n x (λt' E=>by rw[v] at E;cases E;exact⟨rfl,⟨N.ext x,Y,Z⟩⟩);rw[v] at this;exact this
 have O: ∀ {t:ba} {hh:aa},D3 h hh Aq BD Aq (t.V a b c) e bF.z->Ia h t a b c->JS s e=some t->K () hh:=λ{t hh} d N v=>
  X _ _ (d.ret λf x=>yes (hh:=hh) (λ_ h=> .inl h) (λ_ h=> .inl h) N v f x)
 have no: ∀(t:ba) (m n:Sl),JS s e=none-> ∀f,Ext h f->R (J1 #[(t.V a m n).v,J3 false]) f:=λt m n v f x=>by
  have:=T f t m n x (λt' E=>by rw[v] at E;cases E);rw[v] at this;exact this
 have U: ∀r,Ia h (Xx s r) a ⟨none,0,0⟩ ⟨none,0,0⟩:=λr=>⟨k.steps,View.nil,View.nil⟩
 refine ae.intro (λg=>?_) (λg=>?_)
 ·have g:e.kind=12:=by simpa using g
  refine d.set (x':=({s with fresh:=true}:ba).V a b c) (by decide) rfl λC F=>O F ⟨k.steps,k.ar,k.aj⟩ ?_
  unfold JS;rw[if_pos g]
 have g:e.kind≠12:=by simpa using g
 refine ae.intro (λi=>?_) (λi=>?_)
 ·have i:e.kind=13:=by simpa using i
  refine Ab.mk (d.cJ (j:=10) rfl) (ae.intro (λw=>?_) (λw=>?_))
  ·have w:s.cancel=true:=w;refine d.ret (no s b c ?_);unfold JS;rw[if_neg g,if_pos i,if_pos w]
  ·have w:s.cancel=false:=w;refine d.set (x':=({s with cancel:=true}:ba).V a b c) (by decide) rfl λC F=>F.set (x':=({s with cancel:=true,fresh:=true}:ba).V a b c) (by decide) rfl λH Q=>O Q ⟨k.steps,k.ar,k.aj⟩ ?_
   unfold JS;rw[if_neg g,if_pos i,if_neg (by simp[w])]
 have i:e.kind≠13:=by simpa using i
 refine ae.intro (λl=>?_) (λl=>?_)
 ·have l:e.kind=14:=by simpa using l
  obtain⟨af,ag⟩:=W l;refine ah.mk λab ac=>?_
  have key: ∀(I:Bool),(I=true↔s.aP=true\/s.prog.aA=0\/e.tick<s.aW+s.prog.aA)->ab (I,()) M:=λI V=>by
   refine ac _ _ (ae.intro (λD=>?_) (λD=>?_))
   ·refine d.ret (no s b c ?_);unfold JS;rw[if_neg g,if_neg i,if_pos l,if_pos (V.1 D)]
   ·have D:I=false:=D;refine d.set (x':=({s with aP:=true}:ba).V a b c) (by decide) rfl λC F=>F.set (x':=({s with aP:=true,fresh:=true}:ba).V a b c) (by decide) rfl λH Q=>O Q ⟨k.steps,k.ar,k.aj⟩ ?_
    unfold JS;rw[if_neg g,if_neg i,if_pos l,if_neg λh=>by rw[V.2 h] at D;cases D]
  refine Ab.mk (d.cJ (j:=11) rfl) (ae.intro (λy=>?_) (λy=>?_))
  ·have y:s.aP=true:=y;exact key _ (by simp[y])
  have y:s.aP=false:=y;refine AC.mk (d.cJ (j:=1) rfl) (ae.intro (λz=>?_) (λz=>?_))
  ·have z:s.prog.aA=0:=by simpa using z
   exact key _ (by simp[z])
  have z:s.prog.aA≠0:=by simpa using z
  refine AC.mk (d.bL (j:=2) rfl) (AC.mk (d.cJ (j:=4) rfl) (AC.mk (d.cJ (j:=1) rfl) (key _ ?_)));dsimp only;rw[wrap_i64 (by omega) (by omega)];simp[y,z]
 have l:e.kind≠14:=by simpa using l
 refine ae.intro (λo=>?_) (λo=>?_)
 ·have o:e.kind=18:=by simpa using o
  refine d.eT (WA λC p=>Gt.mk _ ⟨rfl,(d.on p).tell λf x=>yes (hh:=M) (λ_ h=>mF h) (λ_ h=>mF h) (U 4) ?_ f x⟩);unfold JS;rw[if_neg g,if_neg i,if_neg l,if_pos o]
 have o:e.kind≠18:=by simpa using o
 have S: ∀(r:Int),(JS s e=if OE s then some (Xx s r) else none)-> ∀f,Ext h f->R (J1 #[((Xx s r).V a ⟨none,0,0⟩ ⟨none,0,0⟩).v,J3 (decide (OE s))]) f:=λr J f x=>by
  by_cases L:OE s
  ·rw[if_pos L] at J;rw[decide_eq_true L];exact yes (hh:=M) (λ_ h=>mF h) (λ_ h=>mF h) (U r) J f x
  ·rw[if_neg L] at J;rw[decide_eq_false L];exact no (Xx s r) ⟨none,0,0⟩ ⟨none,0,0⟩ J f x
 refine ae.intro (λq=>?_) (λq=>?_)
 ·have q:e.kind=15:=by simpa using q
  refine d.eT (WA λC p=>Gt.mk _ ⟨rfl,(d.on p).eT ⟨d.j4,p8 k.ar.len λH G=>⟨_,rfl,((d.on p).on G).tell (S 1 ?_)⟩⟩⟩);unfold JS;rw[if_neg g,if_neg i,if_neg l,if_neg o,if_pos q]
 have q:e.kind≠15:=by simpa using q
 refine ae.intro (λu=>?_) (λu=>?_)
 ·have u:e.kind=16:=by simpa using u
  refine d.eT (WA λC p=>Gt.mk _ ⟨rfl,(d.on p).eT ⟨d.j4,p8 k.ar.len λH G=>⟨_,rfl,((d.on p).on G).tell (S 2 ?_)⟩⟩⟩);unfold JS;rw[if_neg g,if_neg i,if_neg l,if_neg o,if_neg q,if_pos u]
 have u:e.kind≠16:=by simpa using u
 refine ae.intro (λB=>?_) (λB=>?_)
 ·have B:e.kind=17:=by simpa using B
  refine d.eT (WA λC p=>Gt.mk _ ⟨rfl,(d.on p).eT ⟨d.j4,p8 k.ar.len λH G=>⟨_,rfl,((d.on p).on G).tell (S 3 ?_)⟩⟩⟩);unfold JS;rw[if_neg g,if_neg i,if_neg l,if_neg o,if_neg q,if_neg u,if_pos B]
 have B:e.kind≠17:=by simpa using B
 refine d.ret (no s b c ?_);unfold JS;rw[if_neg g,if_neg i,if_neg l,if_neg o,if_neg q,if_neg u,if_neg B]
theorem zX {e:Ev}(h:Ed e=true):0<=e.turn/\e.turn<=5:=by
 have d:=LD h;unfold EQ at d;simp only[A3] at d;have:=d.1.1.2;unfold cX at this;split at this
 ·have:=BX.1 this;omega
 ·have:=of_decide_eq_true this;omega
theorem zY {p:cA}{f g:Int}{x:bP}(h:stepOf p f g=some x):x∈p.steps:=by
 unfold stepOf at h;split at h
 ·obtain⟨j,i,d⟩:=Option.bind_eq_some_iff.1 h;split at d
  ·cases d;exact AK i
  ·cases d
 ·cases h
theorem pg {n:Nat}(aL:Ia h s a b c)(M:Du s n)(bO:n<=600)(hd:e.data.size<1099511627776)
  (aM: ∀O y k l,Ext h O->Ia O (Bc s e).2 y k l->(∀ x,y.af=some x\/k.af=some x\/l.af=some x->h.size<=x)->R (J1 #[((Bc s e).2.V y k l).v,J6 J9 (Bc s e).1]) O):AA A P JR #[(s.V a b c).v,e.v] h R:=by
 refine ACu ?_;unfold VD;refine kU λbP am=>am.jI (Yn hd λa1 bn=>⟨_,rfl,?_⟩)
 have q:=am.on bn;have bo: ∀x,(⟨none,0,0⟩:Sl).af=some x\/(⟨none,0,0⟩:Sl).af=some x\/(⟨none,0,0⟩:Sl).af=some x->h.size<=x:=λx d=>by simp[Sl.af] at d
 have aq: ∀(n:Int),Bc s e=(n,Rf)-> ∀O,Ext h O->R (J1 #[bF.z.v,J6 J9 n]) O:=λn a2 O x=>by
  have:=aM O ⟨none,0,0⟩ ⟨none,0,0⟩ ⟨none,0,0⟩ x (by rw[a2];exact⟨View.nil,View.nil,View.nil⟩) bo;rw[a2] at this;exact this
 refine ae.intro (λD=>?_) (λD=>?_)
 ·have I:Ed e=false:=by
   cases E:Ed e with
   |false=>rfl
   |true=>rw[E] at D;simp at D
  exact q.tell (aq 120 (by unfold Bc;rw[if_pos I]))
 have I:Ed e=true:=by
  cases E:Ed e with
  |true=>rfl
  |false=>rw[E] at D;simp at D
 obtain⟨bQ,bR,bp,bq,_⟩:=Qg I;refine AC.mk (q.cJ (j:=3) rfl) (ae.intro (λF=>?_) (λF=>?_))
 ·have F:s.next=0:=by simpa using F
  refine ah.mk λK br=>?_
  have key: ∀aA:Bool,(aA=true↔ ¬(e.kind=1/\e.id=1))->K (aA,()) a1:=λaA a3=>by
   refine br _ _ (ae.intro (λD=>?_) (λD=>?_))
   ·exact q.tell (aq 120 (by unfold Bc;rw[if_neg (by simp[I]),if_pos F,if_neg (a3.1 D)]))
   ·have D:aA=false:=D;have m:e.kind=1/\e.id=1:=Decidable.byContradiction λh=>by rw[a3.2 h] at D;cases D
    obtain⟨p,aN,bS⟩:=bq m.1;refine AJ.mk (q.bL (j:=7) rfl) (ZW hd λaC sl aD aO=>?_);obtain⟨aO,a4⟩:=aO p aN;rw[aN];refine⟨sl,p.aA,0,rfl,?_⟩;have V:=q.on aD;refine ak.mk λaP _ bs W bt=>?_
    have a5:=V.on W;have bT:=V.b2;refine ab.two bs λa6 a7 X bu=>?_
    have a8:Ext aC a6:=W.more X λc g=>by subst g;exact A0 _
    have an:=V.on a8;refine AY.mk (s:=sl) (AL a7 rfl) (AC.mk (AB a7 rfl) (AC.mk (an.bL (j:=2) rfl) (an.iE λa9 Q bv=>?_)));have ar:Bc s e=(0,Vp e):=by unfold Bc;rw[if_neg (by simp[I]),if_pos F,if_pos m]
    have bb:Vp e=⟨p,0,2,e.tick,0,0,true,[],[],false,false⟩:=by unfold Vp;rw[aN];rfl
    have bU:=q.ext.size;have:=aM a9 sl ⟨none,0,0⟩ ⟨none,0,0⟩ Q (by rw[ar,bb];exact⟨(aO.ext a8).mod bv (λc g i=>by have:=a4 c g;have:=Af q.b2;omega),View.nil,View.nil⟩) (λx d=>by
     rcases d with d|d|d
     ·have:=a4 x d;omega
     ·simp[Sl.af] at d
     ·simp[Sl.af] at d)
    rw[ar,bb] at this;exact this
  refine AC.mk (q.bL (j:=1) rfl) (ae.intro (λm=>key _ (by simp at m;simp[m])) (λm=>AC.mk (q.bL (j:=0) rfl) (key _ (by simp at m;simp[m]))))
 have F:s.next≠0:=by simpa using F
 refine AC.mk (q.cJ (j:=2) rfl) (ae.intro (λm=>?_) (λm=>?_))
 ·have m:s.status≠0:=by simpa using m
  exact q.tell (aq 182 (by unfold Bc;rw[if_neg (by simp[I]),if_neg F,if_pos m]))
 have m:s.status=0:=by simpa using m
 refine AC.mk (q.bL (j:=0) rfl) (AC.mk (q.cJ (j:=3) rfl) (ae.intro (λS=>?_) (λS=>?_)))
 ·have S:e.id≠s.next:=by simpa using S
  exact q.tell (aq 120 (by unfold Bc;rw[if_neg (by simp[I]),if_neg F,if_neg (by simp[m]),if_pos S]))
 have S:e.id=s.next:=by simpa using S
 refine AY.mk (s:=b) (q.cJ (j:=8) rfl) (zT ((aL.ext q.ext).ar) (by have:=M.ar;omega) λk aC aQ Y aD=>⟨_,rfl,?_⟩);have V:=q.on aD;refine AY.mk (s:=c) (V.cJ (j:=9) rfl) ⟨q.cJ (j:=9) rfl,zU ((aL.ext V.ext).aj) (by have:=M.aj;omega) λl aP aR Z W=>⟨_,rfl,?_⟩⟩;have a5:=V.on W;have bV:=Af q.b2;have bW:=aD.size;have bt:=W.size;refine a5.ib (x':=s.V a k c) (by decide) rfl λbX bw au=>bw.ib (x':=s.V a k l) (by decide) rfl λa6 an X=>?_
 have bY:=au.size;have bu:=X.size;refine AY.mk (s:=a) (an.cJ (j:=0) rfl) (zV ((aL.ext an.ext).steps) (by have:=M.steps;omega) λy a9 bc bd Q=>⟨_,rfl,?_⟩);have bx:=an.on Q;refine bx.nW (x':=s.V y k l) rfl λz r ac=>AC.mk (r.bL (j:=1) rfl) ?_
 have T:Ia z s y k l:=by have av:=(((aQ.view.ext W).mod au (λx d i=>by have:=Y x d;omega)).mod X (λx d i=>by have:=Y x d;omega));have vc:=((aR.view.mod au (λx d i=>by have:=Z x d;omega)).mod X (λx d i=>by have:=Z x d;omega));exact⟨bc.view.mod ac (λx d i=>by have:=bd x d;omega),(av.ext Q).mod ac (λx d i=>by have:=Y x d;omega),(vc.ext Q).mod ac (λx d i=>by have:=Z x d;omega)⟩
 have bz:Own fh Gf z k s.ar:=((((aQ.ext W).mod au (λx d i=>by have:=Y x d;omega)).mod X (λx d i=>by have:=Y x d;omega)).ext Q).mod ac (λx d i=>by have:=Y x d;omega);have bA:Own fX Fz z l s.aj:=(((aR.mod au (λx d i=>by have:=Z x d;omega)).mod X (λx d i=>by have:=Z x d;omega)).ext Q).mod ac (λx d i=>by have:=Z x d;omega);have ao: ∀x,k.af=some x->a1.size<=x/\x<aC.size:=λx d=>⟨Y x d,aQ.lt d⟩
 have ap: ∀x,l.af=some x->aC.size<=x/\x<aP.size:=λx d=>⟨Z x d,aR.lt d⟩
 have aS: ∀x,y.af=some x->aP.size<=x/\x<z.size:=λx d=>⟨by have:=bd x d;omega,by have:=bc.lt d;have:=ac.size;omega⟩
 have bZ:=Q.size;have b0:=ac.size;have fr: ∀(dS dT:Sl),(∀ x,dS.af=some x->k.af=some x\/h.size+3<=x)->(∀ x,dT.af=some x->l.af=some x\/h.size+3<=x)-> ∀x,y.af=some x\/dS.af=some x\/dT.af=some x->h.size+3<=x:=λdS dT i g x d=>by
  rcases d with d|d|d
  ·have:=aS x d;omega
  ·rcases i x d with h|h
   ·have:=ao x h;omega
   ·omega
  ·rcases g x d with h|h
   ·have:=ap x h;omega
   ·omega
 refine ah.mk λaT bB=>?_
 have key: ∀ {o:Option ba} {t:ba} {dS dT:Sl} {B:aa},Nz s e=o.map (λt=> {t with next:=s.next+1})->(∀ t',o=some t'->t=t'/\t'.next=s.next/\iL B (h.size+3) t' y k l dS dT)->D3 h B Aq BD Aq (t.V y dS dT) e bF.z->aT (o.isSome,()) B:=λ{o t dS dT B} be aU am=>by
  refine bB _ _ ?_;cases o with
  |none=>
   refine ae.yes rfl (am.tell (aq 120 ?_));unfold Bc;rw[if_neg (by simp[I]),if_neg F,if_neg (by simp[m]),if_neg (by simp[S]),be];rfl
  |some t'=>
   obtain⟨rfl,bC,L⟩:=aU t' rfl;have u:=fr dS dT L.fb L.fc;have b1:=M.next;refine ae.no rfl (AC.mk (am.cJ (j:=3) rfl) ?_);rw[wrap_i64 (by show _<=t.next+1;omega) (by show t.next+1<=_;omega)];refine am.ib (x':=({t with next:=s.next+1}:ba).V y dS dT) (by decide) (by rw[<- bC];rfl) λaE N bD=>N.nX λaw bE C=>?_
   have ar:Bc s e=(0,{t with next:=s.next+1}):=by unfold Bc;rw[if_neg (by simp[I]),if_neg F,if_neg (by simp[m]),if_neg (by simp[S]),be];rfl
   have:=aM aw y dS dT bE (by
    rw[ar];have J:=L.at'.mod bD (λx d i=>by have:=u x (.inl d);omega) (λx d i=>by have:=u x (.inr (.inl d));omega) (λx d i=>by have:=u x (.inr (.inr d));omega);have U:=J.mod C (λx d i=>by have:=u x (.inl d);omega) (λx d i=>by have:=u x (.inr (.inl d));omega) (λx d i=>by have:=u x (.inr (.inr d));omega);exact⟨U.steps,U.ar,U.aj⟩) (λx d=>by have:=u x d;omega)
   rw[ar] at this;exact this
 refine ah.mk λbf aF=>?_
 have aG:2<=e.kind/\e.kind<=5->bf (true,()) z:=λaH=>by
  refine aF _ _ (ae.yes rfl (r.eT (r.jI (zG aH λaE aI=>Gt.mk _ ⟨_,rfl,?_⟩))));have N:=r.on aI;refine N.lR λaw ad C=>key (o:=Df s e) (t:=(Df s e).getD s) (dS:=k) (dT:=l) (by unfold Nz;rw[if_pos aH]) (λt' G=>?_) ad
  rw[G,IN];obtain⟨J,U,aJ,bg⟩:=PP G;have aV:=(T.ext aI).mod C (λx d i=>by have:=fr k l (λ_ h=> .inl h) (λ_ h=> .inl h) x (.inl d);omega) (λx d i=>by have:=fr k l (λ_ h=> .inl h) (λ_ h=> .inl h) x (.inr (.inl d));omega) (λx d i=>by have:=fr k l (λ_ h=> .inl h) (λ_ h=> .inl h) x (.inr (.inr d));omega);exact⟨rfl,J.next,⟨by rw[J.prog];exact aV.steps,by rw[U];exact aV.ar,by rw[aJ];exact aV.aj⟩,λ_ h=> .inl h,λ_ h=> .inl h⟩
 have bG:e.kind=1\/12<=e.kind->bf (false,()) z:=λaH=>by
  refine aF _ _ (ae.no rfl (ah.mk λaW ax=>?_));have H: ∀ {n:Int},6<=n->n<=11->(e.kind==n)=false:=λ{n} bH bI=>by simp;omega
  refine ae.no (H (by decide) (by decide)) (ae.no (H (by decide) (by decide)) (ae.no (H (by decide) (by decide)) ?_));rw[H (n:=9) (by decide) (by decide)];refine ax _ _ (ae.no rfl (ah.mk λbh aX=>ae.no (H (by decide) (by decide)) ?_));rw[H (n:=11) (by decide) (by decide)];refine aX _ _ (ae.no rfl (r.eT (r.jI (zW T aH (λ_=>by have:=M.aW;have:=M.aA;omega) λaE t dS dT aI aU=>Gt.mk _ ⟨_,rfl,?_⟩))));have N:=r.on aI;refine N.lR λaw ad C=>key (o:=JS s e) (t:=t) (by unfold Nz;rw[if_neg (by omega),if_neg (by omega),if_neg (by omega)]) (λt' G=>?_) ad
  obtain⟨rfl,L⟩:=aU t' G;have ay: ∀x,dS.af=some x->k.af=some x\/h.size+3<=x:=λx d=>(L.fb x d).imp id λh=>by omega
  have az: ∀x,dT.af=some x->l.af=some x\/h.size+3<=x:=λx d=>(L.fc x d).imp id λh=>by omega
  have u:=fr dS dT ay az;exact⟨rfl,(uO G).1.next,L.at'.mod C (λx d i=>by have:=u x (.inl d);omega) (λx d i=>by have:=u x (.inr (.inl d));omega) (λx d i=>by have:=u x (.inr (.inr d));omega),ay,az⟩
 refine ae.intro (λaf=>?_) (λaf=>?_)
 ·have b2:e.kind=2:=by simpa using af
  have af:(e.kind==(2:Int))=true:=af;rw[af];exact aG (by omega)
 refine ae.intro (λag=>?_) (λag=>?_)
 ·have b3:e.kind=3:=by simpa using ag
  have ag:(e.kind==(3:Int))=true:=ag;rw[ag];exact aG (by omega)
 refine ae.intro (λai=>?_) (λai=>?_)
 ·have b4:e.kind=4:=by simpa using ai
  have ai:(e.kind==(4:Int))=true:=ai;rw[ai];exact aG (by omega)
 have af:e.kind≠2:=by simpa using af
 have ag:e.kind≠3:=by simpa using ag
 have ai:e.kind≠4:=by simpa using ai
 cases aY:(e.kind==(5:Int)) with
 |true=>
  have:e.kind=5:=by simpa using aY
  exact aG (by omega)
 |false=>
  have aY:e.kind≠5:=by simpa using aY
  by_cases aZ:6<=e.kind/\e.kind<=9
  ·have bJ: ∀ {B:aa} {t:ba} {dS:Sl},Mod (λx=>k.af=some x\/z.size<=x) z B->(∀ x,dS.af=some x->k.af=some x\/z.size<=x)->(∀ t',Kq s e=some t'->t=t'/\View fh B dS t'.ar)->aK B ⟨h.size,0,none⟩ (t.V y dS l).l λm=>aT ((Kq s e).isSome,()) m:=λ{B t dS} w f E=>by
    have aj: ∀v,v<h.size+3-> ¬(k.af=some v\/z.size<=v):=λv bK h=>by
     rcases h with h|h
     ·have:=ao v h;omega
     ·omega
    have N:D3 h B Aq BD Aq (s.V y k l) e bF.z:=⟨r.ext.more w λc g=>by
     rcases g with g|g
     ·have:=ao c g;omega
     ·omega,w.af r.b0 (aj _ (by omega)),w.af r.b1 (aj _ (by omega)),w.af r.b2 (aj _ (by omega))⟩
    have ay: ∀x,dS.af=some x->k.af=some x\/h.size+3<=x:=λx d=>(f x d).imp id λh=>by omega
    refine N.lR λaw ad C=>key (o:=Kq s e) (t:=t) (by unfold Nz;rw[if_neg (by omega),if_pos aZ]) (λt' G=>?_) ad
    obtain⟨rfl,av⟩:=E t' G;obtain⟨J,U,aJ,bg⟩:=uP G;have u:=fr dS l ay λ_ h=> .inl h
    have a0:=T.steps.mod w λx d g=>by
     have:=aS x d;rcases g with g|g
     ·have:=ao x g;omega
     ·omega
    have vc:=T.aj.mod w λx d g=>by
     have:=ap x d;rcases g with g|g
     ·have:=ao x g;omega
     ·omega
    exact⟨rfl,J.next,⟨by rw[J.prog];exact a0.mod C (λx d i=>by have:=u x (.inl d);omega),av.mod C (λx d i=>by have:=u x (.inr (.inl d));omega),by rw[aJ];exact vc.mod C (λx d i=>by have:=u x (.inr (.inr d));omega)⟩,ay,λ_ h=> .inl h⟩
   refine aF _ _ (ae.no rfl (ah.mk λaW ax=>?_));have al:aW (true,()) z:=ax _ _ (ae.yes rfl (r.eT (r.jI (zR T bz (by have:=M.ar;omega) aZ (by have:=zX I;omega) λaE t dS w f E=>Gt.mk _ ⟨_,rfl,bJ w f E⟩))));refine ae.intro (λv=>?_) (λbi=>ae.intro (λv=>?_) (λbj=>ae.intro (λv=>?_) (λbk=>?_)))
   ·rw[v];exact al
   ·rw[v];exact al
   ·rw[v];exact al
   ·have bi:e.kind≠6:=by simpa using bi
    have bj:e.kind≠7:=by simpa using bj
    have bk:e.kind≠8:=by simpa using bk
    have bL:(e.kind==(9:Int))=true:=by simp;omega
    rw[bL];exact al
  ·by_cases g:e.kind=10\/e.kind=11
   ·have bM: ∀ {B:aa} {t:ba} {dT:Sl},Mod (λx=>l.af=some x\/z.size<=x) z B->(∀ x,dT.af=some x->l.af=some x\/z.size<=x)->(∀ t',Jh s e=some t'->t=t'/\View fX B dT t'.aj)->aK B ⟨h.size,0,none⟩ (t.V y k dT).l λm=>aT ((Jh s e).isSome,()) m:=λ{B t dT} w f E=>by
     have aj: ∀v,v<h.size+3-> ¬(l.af=some v\/z.size<=v):=λv bK h=>by
      rcases h with h|h
      ·have:=ap v h;omega
      ·omega
     have N:D3 h B Aq BD Aq (s.V y k l) e bF.z:=⟨r.ext.more w λc g=>by
      rcases g with g|g
      ·have:=ap c g;omega
      ·omega,w.af r.b0 (aj _ (by omega)),w.af r.b1 (aj _ (by omega)),w.af r.b2 (aj _ (by omega))⟩
     have az: ∀x,dT.af=some x->l.af=some x\/h.size+3<=x:=λx d=>(f x d).imp id λh=>by omega
     refine N.lR λaw ad C=>key (o:=Jh s e) (t:=t) (by unfold Nz;rw[if_neg (by omega),if_neg aZ,if_pos g]) (λt' G=>?_) ad
     obtain⟨rfl,vc⟩:=E t' G;obtain⟨J,U,aJ,bg⟩:=uQ G;have u:=fr k dT (λ_ h=> .inl h) az;have a0:=T.steps.mod w λx d g=>by
      have:=aS x d;rcases g with g|g
      ·have:=ap x g;omega
      ·omega
     have av:=T.ar.mod w λx d g=>by
      have:=ao x d;rcases g with g|g
      ·have:=ap x g;omega
      ·omega
     exact⟨rfl,J.next,⟨by rw[J.prog];exact a0.mod C (λx d i=>by have:=u x (.inl d);omega),by rw[U];exact av.mod C (λx d i=>by have:=u x (.inr (.inl d));omega),vc.mod C (λx d i=>by have:=u x (.inr (.inr d));omega)⟩,λ_ h=> .inl h,az⟩
    have H: ∀ {n:Int},6<=n->n<=9->(e.kind==n)=false:=λ{n} bH bI=>by simp;omega
    refine aF _ _ (ae.no rfl (ah.mk λaW ax=>?_));refine ae.no (H (by decide) (by decide)) (ae.no (H (by decide) (by decide)) (ae.no (H (by decide) (by decide)) ?_));rw[H (n:=9) (by decide) (by decide)];refine ax _ _ (ae.no rfl (ah.mk λbh aX=>?_));have al:bh (true,()) z:=aX _ _ (ae.yes rfl (r.eT (r.jI (zS T bA (by have:=M.aj;omega) g bp (λx d=>by have:=M.waits x (zY d);omega) λaE t dT w f E=>Gt.mk _ ⟨_,rfl,bM w f E⟩))));refine ae.intro (λv=>?_) (λbm=>?_)
    ·rw[v];exact al
    ·have bm:e.kind≠10:=by simpa using bm
     have bN:(e.kind==(11:Int))=true:=by simp;omega
     rw[bN];exact al
   ·exact bG (by omega)
end
theorem Nh {n:Int}(a:0<=n)(b:n<=9223372036854775807):J8 .u64 n=((n.toNat:Nat):Int):=by
 have:n=((n.toNat:Nat):Int):=by omega
 rw[this,Bz (by omega)];simp
theorem Lu {f:Bool}{n:Int}(a:n<=9223372036854775807):(Rn f n).length<=10:=by
 cases f with
 |false=>exact As _
 |true=>exact AV (by omega)
theorem Yu {h:al}{b:aa}{a:Q6}{f e n:Int}{fl:Bool}{d:List UInt8}{K:A2O×Unit->aa->Prop}(i:(GG J9 f e != (0:Int))=fl)(j:ag b a=some (J6 J9 n))(k:fl=true->0<=n/\n<=1099511627776)
  (m:d.length<=100000) (g: ∀c,Ext b c->K (AX (d++Rn fl n),()) c):
  ae (GG J9 f e != (0:Int)) (AC J9 b a λt=>AA h P Au #[.int .u64 (J8 .u64 t)] b λv c=> ∃x:A2O,v=J7 x/\(aG ((((AX d).size+x.size:Nat):Int)<=IntKind.i64.max)<|K ((AX d)++x,()) c)) (K (AX d,()) b):=by
 rw[i];cases fl with
 |false=>
  have:=g b Mod.refl;simp only[Rn,Cd,if_false,AM] at this;exact ae.no rfl this
 |true=>
  obtain⟨l,o⟩:=k rfl;refine ae.yes rfl (AC.mk j ?_);rw[Nh l (by omega)];have:=AV (n:=n.toNat) (by omega);refine CS (by omega) λc x=>⟨_,rfl,⟨by rw[AP,AP,max_i64];omega,?_⟩⟩
  have:=g c x;simp only[Rn,if_true] at this;rw[Ak];exact this
theorem qA {f:Bool}{a b c:Int}(d:cX f a b c=true)(g:0<=b)(h:c<=1099511627776):f=true->0<=a/\a<=1099511627776:=λe=>by
 subst e;simp only[cX,if_true,BX] at d;omega
def nJ(a:Ev):J0:=J1 #[J7 (AX (if Ed a then Mh a else [])),J6 J9 (if Ed a then 0 else 120)]
theorem AJX {R:al}{a:aa}{e:Ev}{k:A2N}(hd:e.data.size<1099511627776)(u: ∀c,Ext a c->k (nJ e) c):AA R P Nc #[nI e] a k:=by
 refine AAM ?_;unfold Sw;refine ak.mk λar _ b v au=>?_
 refine AC.mk (AL b rfl) (AC.mk (AB b rfl) (AC.mk (AB b rfl) (AC.mk (AB b rfl) (AC.mk (AB b rfl) (AC.mk (AB b rfl) (Ab.mk (AB b rfl) (AJ.mk (AB b rfl) ?_)))))));refine Yn (e:=e) hd λw l=>⟨_,rfl,?_⟩
 cases m:Ed e with
 |false=>
  refine ae.yes rfl ?_;have:=u w (v.trans l);rw[nJ,m] at this;exact this
 |true=>
  refine ae.no rfl ?_;have y: ∀c,Ext w c->k (J1 #[J7 (AX (Mh e)),J6 J9 0]) c:=λc x=>by
   have:=u c ((v.trans l).trans x);rw[nJ,m] at this;exact this
  have h:=l.af b (λa=>a);have z:=LD m;simp only[EQ,A3] at z;obtain⟨⟨⟨⟨⟨⟨⟨S,T⟩,U⟩,o⟩,p⟩,q⟩,av⟩,aw⟩:=z;have ax:=BX.1 S;have ay:=BX.1 T;have az:=BX.1 U;obtain⟨V,W,X,Y,Z⟩:=qy e.kind;refine AC.mk (AB h rfl) (Vn ⟨_,_,rfl,?_⟩);refine AC.mk (AL h rfl) ?_;rw[Nh (n:=e.id) (by omega) (by omega)];refine CS (by omega) λaA A=>⟨_,rfl,?_⟩
  have r:=A.af h (λa=>a);refine AC.mk (n:=e.kind) (AB r rfl) ⟨AB h rfl,?_⟩;rw[Nh (n:=e.kind) (by omega) (by omega)];have aC:=AV (n:=e.id.toNat) (by omega);have aD:=AV (n:=e.kind.toNat) (by omega);have aE:=AV (n:=e.tick.toNat) (by omega);refine CS (by omega) λaF B=>⟨_,rfl,⟨by rw[AP,AP,max_i64];omega,?_⟩⟩
  have C:=B.af r (λa=>a);refine AC.mk (n:=e.tick) (AB C rfl) ⟨AB r rfl,AB h rfl,?_⟩;rw[Nh (n:=e.tick) (by omega) (by omega)];refine CS (by omega) λaG D=>⟨_,rfl,⟨by rw[Ak,AP,AP,max_i64,A1];omega,?_⟩⟩
  have E:=D.af C (λa=>a);have ab:=(A.trans B).trans D;rw[Ak,Ak];refine ah.mk λK ac=>?_
  have aH:=Lu (f:=cW e.kind) (n:=e.ref) (by cases i:cW e.kind<;>rw[i] at o<;>simp[cX,bU] at o<;>omega);have aI:=Lu (f:=dj e.kind) (n:=e.step) (by cases i:dj e.kind<;>rw[i] at p<;>simp[cX,bU] at p<;>omega);have aJ:=Lu (f:=dx e.kind) (n:=e.turn) (by cases i:dx e.kind<;>rw[i] at q<;>simp[cX,bU] at q<;>omega);have aK:=Lu (f:=dO e.kind) (n:=if e.aL then 1 else 0) (by split<;>omega);refine Yu (fl:=cW e.kind) (n:=e.ref) (by rw[V,LX (by decide)]) (AB E rfl) (qA o (by decide) (by omega)) (by simp only[A1];omega) λaL F=>ac _ _ ?_
  have G:=F.af E (λa=>a);refine ah.mk λaM ad=>?_
  refine Yu (fl:=dj e.kind) (n:=e.step) (by rw[W,LX (by decide)]) (AB G rfl) (qA p (by decide) (by omega)) (by simp only[A1];omega) λaN H=>ad _ _ ?_
  have I:=H.af G (λa=>a);refine ah.mk λaO af=>?_
  refine Yu (fl:=dx e.kind) (n:=e.turn) (by rw[X,LX (by decide)]) (AB I rfl) (qA q (by decide) (by omega)) (by simp only[A1];omega) λs J=>af _ _ ?_
  have L:=J.af I (λa=>a);have M:=((ab.trans F).trans H).trans J;refine ah.mk λag ai=>?_
  have N: ∀g,Ext s g->ag (AX (((BZ e.id.toNat++BZ e.kind.toNat++BZ e.tick.toNat++Rn (cW e.kind) e.ref)++Rn (dj e.kind) e.step++Rn (dx e.kind) e.turn)++Rn (dO e.kind) (if e.aL then 1 else 0)),()) g:=λg j=>by
   refine ai _ _ ?_;have aj:=j.af L (λa=>a);refine ah.mk λaP O=>?_
   rw[Z,LX (by decide)];refine ae.intro (λd=>?_) (λd=>?_)
   ·refine AJ.mk (AB aj rfl) (Kz (by omega) λam an=>⟨_,rfl,⟨?_,O _ _ ?_⟩⟩)
    ·have:=AV (n:=(bl e.data).length) (by rw[BA];omega);rw[AP,AP,max_i64];simp only[BR,A1,BA] at this ⊢;omega
    ·have:=y am ((M.trans j).trans an);dsimp only;rw[Ak];simp only[Mh,gK,d,if_true] at this;simp only[A4] at this ⊢;exact this
   ·refine O _ _ ?_;have:=y g (M.trans j);simp only[Mh,gK,d,Cd,if_false,AM] at this;simp only[A4] at this ⊢;exact this
  rw[Y,LX (by decide)];refine ae.intro (λd=>?_) (λd=>?_)
  ·refine ah.mk λao ap=>Ab.mk (AB L rfl) ?_
   have Q: ∀n:Nat,n<=1->(n:Int)=(if e.aL then 1 else 0)->ao ((n:Int),()) s:=λn aQ aq=>by
    refine ap _ _ ?_;have:=AV (n:=n) (by omega);refine CS (by omega) λg j=>⟨_,rfl,⟨?_,?_⟩⟩
    ·dsimp only;rw[AP,AP,max_i64];simp only[A1];omega
    ·have:=N g j;rw[<- aq] at this;simp only[Rn,d,if_true,A6] at this;dsimp only;rw[Ak];exact this
   refine ae.intro (λt=>Q 1 (by omega) (by rw[t];rfl)) (λt=>Q 0 (by omega) (by rw[t];rfl))
  ·have:=N s Mod.refl;simp only[Rn,d,Cd,if_false,AM] at this;exact this
theorem MI(f:Bool)(m:Nat)(r:Rd):(EP f m r).2.rest.length<=r.rest.length:=by
 cases f with
 |false=>exact A0 _
 |true=>exact FV m r
theorem AOX(f:Bool)(r:Rd):(SN f r).2.rest.length<=r.rest.length/\(SN f r).1.length<=r.rest.length:=by
 cases f with
 |false=>exact⟨A0 _,As _⟩
 |true=>exact NP r
theorem AMd(b:jy)(r:Rd):(PH b r).2.rest.length<=r.rest.length/\(PH b r).1.data.size<=r.rest.length:=by
 simp only[PH,AP];have c:=FV b.id r;have d:=FV b.kind (Bw b.id r).2;have e:=FV b.tick (Bw b.kind (Bw b.id r).2).2;generalize Bw b.tick (Bw b.kind (Bw b.id r).2).2=t at*
 generalize ((Bw b.kind (Bw b.id r).2).1:Int)=a at*
 have f:=MI (cW a) b.ref t.2;have g:=MI (dj a) b.step (EP (cW a) b.ref t.2).2;have h:=MI (dx a) b.turn (EP (dj a) b.step (EP (cW a) b.ref t.2).2).2;have i:=MI (dO a) 1 (EP (dx a) b.turn (EP (dj a) b.step (EP (cW a) b.ref t.2).2).2).2;have j:=AOX (dP a) (EP (dO a) 1 (EP (dx a) b.turn (EP (dj a) b.step (EP (cW a) b.ref t.2).2).2).2).2;omega
theorem qB {w:al}{a:aa}{b d g:Nat}{f k:Int}{m:Nat}{fl:Bool}{r:Rd}{e:Array J0}{T:Q7}{K:Unit->aa->Prop}(x:(GG J9 f k != (0:Int))=fl)(l:Ib a b r)(y:r.rest.length<=1099511627776)
  (z:m<=9223372036854775807) (n:a[d]? =some (J2 e T (0,0))) (A:g<e.size) (B:e.setIfInBounds g (J6 J9 0)=e) (o:b≠d)
  (p: ∀h,Ib h b (EP fl m r).2->h[d]? =some (J2 (e.setIfInBounds g (J6 J9 ((EP fl m r).1:Int))) T (0,0))->Mod (λc=>c=b\/c=d) a h->K () h):
  ae (GG J9 f k != (0:Int)) (AA w P Ad #[Ay b,J6 J9 (m:Int)] a λv q=> ∃t:Int,v=J6 J9 t/\(ab q ((⟨d,0,none⟩:Q6).add g) (J6 J9 t) λi=>K () i)) (K () a):=by
 rw[x];cases fl with
 |false=>exact ae.no rfl (p a l (by simp only[EP,Cd,if_false];rw[show(((0:Nat):Int))=(0:Int) from rfl,B];exact n) Mod.refl)
 |true=>
  refine ae.yes rfl (DR l y z λq C s=>⟨_,rfl,?_⟩);refine ab.dk (s.af n o.symm) A λi D u E=>?_
  exact p i (u.af C o) D ((s.ai λc _ j=> .inl j).trans (u.ai λc _ j=> .inr j))
abbrev vR(i b t a s c:Int)(u:Bool)(d:A2O):Array J0:= #[J6 J9 i,J6 J9 b,J6 J9 t,J6 J9 a,J6 J9 s,J6 J9 c,J3 u,J7 d]
theorem ANb {au:al}{b:aa}{d:Nat}{r:Rd}{M:A2N}(N:Ib b d r)(bb:r.rest.length<1099511627776)
  (O: ∀E,Ib E d (PH fB r).2->Mod (· =d) b E->M (nI (PH fB r).1) E):AA au P Qr #[Ay d] b M:=by
 refine AC3 ?_;unfold Xd;have bc:=Af N;refine ak.mk λy _ Q z av=>?_
 have R:=z.af N (λb=>b);have bd:Bw 500 r=Bw fB.id r:=rfl;have be:=FV 500 r;have bf:=FV 18 (Bw 500 r).2;have bg:=FV 1099511627776 (Bw 18 (Bw 500 r).2).2;refine DR (most:=500) R (by omega) (by decide) λbh S A=>⟨_,rfl,?_⟩
 refine DR (most:=18) S (by omega) (by decide) λbi T U=>⟨_,rfl,?_⟩
 refine DR (most:=1099511627776) T (by omega) (by decide) λu F V=>⟨_,rfl,?_⟩
 have l:=(A.trans U).trans V;have W:=l.af Q (by omega);have aw:y.size<=u.size:=l.size;refine ak.mk λbj _ X B ax=>ab.eight X λay Y C az=>?_
 have n:d≠u.size:=by have:=Af F;omega
 have aA:b.size≠u.size:=by omega
 have aC:=C.af (B.af F (λb=>b)) n;have aD:=C.af (B.af W (λb=>b)) aA;have aE:Mod (· =d) b ay:=by have k:Mod (· =d) b u:=z.mod.trans l;exact k.then ((B.mod.trans C).ai λc _ f=> .inr (by have:=l.size;have:=z.size;omega))
 refine AC.mk (AB Y rfl) (Vn ⟨_,_,rfl,?_⟩);obtain⟨aF,aG,aH,aI,aJ⟩:=qy ((Bw 18 (Bw 500 r).2).1:Int);have bk:b.size<=u.size:=by omega
 have bm:b.size<=b.size:=A0 _;have bn:PH fB r=PH fB r:=rfl;generalize aK:((Bw 18 (Bw 500 r).2).1:Int)=a at*
 generalize aL:Bw 1099511627776 (Bw 18 (Bw 500 r).2).2=t at*
 generalize aM:((Bw 500 r).1:Int)=i at*
 have aN:PH fB r=(⟨i,a,t.1,(EP (cW a) 500 t.2).1,(EP (dj a) 15 (EP (cW a) 500 t.2).2).1,(EP (dx a) 5 (EP (dj a) 15 (EP (cW a) 500 t.2).2).2).1,
   decide ((EP (dO a) 1 (EP (dx a) 5 (EP (dj a) 15 (EP (cW a) 500 t.2).2).2).2).1=1),AX (SN (dP a) (EP (dO a) 1 (EP (dx a) 5 (EP (dj a) 15 (EP (cW a) 500 t.2).2).2).2).2).1⟩,
   (SN (dP a) (EP (dO a) 1 (EP (dx a) 5 (EP (dj a) 15 (EP (cW a) 500 t.2).2).2).2).2).2):=by
  simp only[PH,<-aK,<-aL,<-aM];rfl
 have bo:=MI (cW a) 500 t.2;have bp:=MI (dj a) 15 (EP (cW a) 500 t.2).2;have bq:=MI (dx a) 5 (EP (dj a) 15 (EP (cW a) 500 t.2).2).2;have br:=MI (dO a) 1 (EP (dx a) 5 (EP (dj a) 15 (EP (cW a) 500 t.2).2).2).2;rw[aN] at O;generalize u.size=v at*
 generalize aO:EP (cW a) 500 t.2=G at*
 generalize aP:EP (dj a) 15 G.2=os at*
 generalize aQ:EP (dx a) 5 os.2=s at*
 generalize Z:EP (dO a) 1 s.2=e at*
 clear Q W X R S T F z B A U V l C av aw ax az;have up: ∀ {ac ad:aa},Mod (· =d) b ac->Mod (λc=>c=d\/c=v) ac ad->Mod (· =d) b ad:=λaR A=>aR.then (A.ai λc _ f=>f.elim .inl λbs=> .inr (by omega))
 refine ah.mk λK aS=>?_
 refine qB (m:=500) (fl:=cW a) (by rw[aF,LX (by decide)]) aC (by omega) (by decide) Y (by simp) rfl n λbt af ag l=>aS _ _ ?_
 rw[aO] at af ag;have aT:=l.af aD (by omega);have aU:=up aE l;refine ah.mk λbu aV=>?_
 refine qB (m:=15) (fl:=dj a) (by rw[aG,LX (by decide)]) af (by omega) (by decide) ag (by simp) rfl n λbv ai aj am=>aV _ _ ?_
 rw[aP] at ai aj;have aW:=am.af aT (by omega);have aX:=up aU am;refine ah.mk λbw aY=>?_
 refine qB (m:=5) (fl:=dx a) (by rw[aH,LX (by decide)]) ai (by omega) (by decide) aj (by simp) rfl n λan H I ao=>aY _ _ ?_
 rw[aQ] at H I;have aZ:=ao.af aW (by omega);have a0:=up aX ao;refine ah.mk λa1 a2=>?_
 have ap: ∀o,Ib o d e.2->o[v]? =some (J2 (vR i a t.1 G.1 os.1 s.1 (decide (e.1=1)) Gw) BD (0,0))->Mod (λc=>c=d\/c=v) an o->a1 () o:=λo D aq w=>by
  refine a2 _ _ ?_;have a3:=w.af aZ (by omega);have a4:=up a0 w;refine ah.mk λa5 a6=>?_
  have ar: ∀p,Ib p d (SN (dP a) e.2).2->p[v]? =some (J2 (vR i a t.1 G.1 os.1 s.1 (decide (e.1=1)) (AX (SN (dP a) e.2).1)) BD (0,0))->Mod (λc=>c=d\/c=v) o p->a5 () p:=λp J g q=>by
   refine a6 _ _ ?_;have a7:=q.af a3 (by omega);have a8:=up a4 q;refine AC.mk (AL g rfl) (AC.mk (AB g rfl) (AC.mk (AB g rfl) (AC.mk (AB g rfl) (AC.mk (AB g rfl) (AC.mk (AB g rfl) (Ab.mk (AB g rfl) (AJ.mk (AB g rfl) ?_)))))));refine ab.eight a7 λL j x a9=>?_
   refine AC.mk (AL j rfl) (AC.mk (AB j rfl) (AC.mk (AB j rfl) (AC.mk (AB j rfl) (AC.mk (AB j rfl) (AC.mk (AB j rfl) (Ab.mk (AB j rfl) (AJ.mk (AB j rfl) ?_)))))));exact O L (x.af J (by omega)) (a8.then (x.ai λc _ f=> .inr (by omega)))
  rw[aJ,LX (by decide)];refine ae.intro (λk=>?_) (λk=>?_)
  ·refine Hy D (by omega) λp J q=>⟨_,rfl,?_⟩
   refine ab.dk (q.af aq n.symm) (by simp) λL j x a9=>?_
   have h:SN (dP a) e.2=FK e.2:=by simp only[SN,k,if_true]
   refine ar L (by rw[h];exact x.af J n) (by rw[h];exact j) ((q.ai λc _ f=> .inl f).trans (x.ai λc _ f=> .inr f))
  ·have h:SN (dP a) e.2=([],e.2):=by simp only[SN,k,Cd,if_false]
   exact ar o (by rw[h];exact D) (by rw[h];exact aq) Mod.refl
 rw[aI,LX (by decide)];refine ae.intro (λk=>?_) (λk=>?_)
 ·have h:e=Bw 1 s.2:=by rw[<- Z];simp only[EP,k,if_true]
  refine DR (most:=1) H (by omega) (by decide) λo D w=>⟨_,rfl,?_⟩
  refine ab.dk (w.af I n.symm) (by simp) λp g q bx=>?_
  have ba:((((Bw 1 s.2).1:Nat):Int)==(1:Int))=decide (e.1=1):=by
   rw[h];by_cases y:(Bw 1 s.2).1=1
   ·rw[y];rfl
   ·rw[decide_eq_false y,beq_eq_false_iff_ne];omega
  rw[ba] at g;refine ap p (by rw[h];exact q.af D n) g ((w.ai λc _ f=> .inl f).trans (q.ai λc _ f=> .inr f))
 ·have h:e=(0,s.2):=by rw[<- Z];simp only[EP,k,Cd,if_false]
  exact ap an (by rw[h];exact H) (by rw[h];exact I) Mod.refl
def evZ:Ev:=⟨0,0,0,0,0,0,false,Gw⟩
def AR0(a:Option Ev):J0:=J1 #[nI (a.getD evZ),J6 J9 (if a.isSome then 0 else 60)]
theorem AI3 {F:al}{b:aa}{l:List UInt8}{r:A2N}(G:l.length<1099511627776)(s: ∀t,Ext b t->r (AR0 (jz l)) t):AA F P Ny #[J7 (AX l)] b r:=by
 refine AAT ?_;unfold Sn;refine ak.mk λU _ H u V=>?_
 refine KP λW v w=>⟨_,rfl,?_⟩
 have X:=Af v;refine ANb v G λI J j=>⟨_,_,_,_,_,_,_,_,rfl,?_⟩
 have L:=j.af (w.af H (λb=>b)) (by omega);have y:Ext b I:=(u.trans w).more j λc h=>by subst h;exact u.size
 have M:=AMd fB ⟨l,false⟩;refine ak.mk λY _ N k Z=>ab.eight N λm d n ac=>?_
 have ad:=j.size;have z:Ext b m:=(y.trans k).more n λc h=>by subst h;exact y.size
 have A:=n.af (k.af L (λb=>b)) (by omega);have O:=n.af (k.af J (λb=>b)) (by omega);refine ah.mk λK B=>?_
 refine Mt O ⟨_,rfl,?_⟩;have o:jz l=if XV (PH fB ⟨l,false⟩).2&&Ed (PH fB ⟨l,false⟩).1 then some (PH fB ⟨l,false⟩).1 else none:=rfl;generalize (PH fB ⟨l,false⟩).2=C at*
 generalize (PH fB ⟨l,false⟩).1=e at*
 have D:jz l=none-> ∀p,Ext m p->K (true,()) p:=λQ p x=>by
  refine B _ _ (ae.yes rfl ?_);refine ab.eight (x.af A (λb=>b)) λq a R af=>?_
  refine AC.mk (AL a rfl) (AC.mk (AB a rfl) (AC.mk (AB a rfl) (AC.mk (AB a rfl) (AC.mk (AB a rfl) (AC.mk (AB a rfl) (Ab.mk (AB a rfl) (AJ.mk (AB a rfl) ?_)))))));have:=s q ((z.trans x).more R λc h=>by omega);rw[Q] at this;exact this
 refine ae.intro (λg=>?_) (λg=>?_)
 ·have g:XV C=false:=by simpa using g
  exact D (by rw[o,g];rfl) m Mod.refl
 ·have g:XV C=true:=by simpa using g
  refine AC.mk (AL d rfl) (AC.mk (AB d rfl) (AC.mk (AB d rfl) (AC.mk (AB d rfl) (AC.mk (AB d rfl) (AC.mk (AB d rfl) (Ab.mk (AB d rfl) (AJ.mk (AB d rfl) ?_)))))));refine Yn (e:=e) (by simp only at M;omega) λq i=>⟨_,rfl,?_⟩
  cases E:Ed e with
  |false=>exact D (by rw[o,E,Ln];rfl) q i
  |true=>
   refine B _ _ (ae.no rfl ?_);have a:=i.af d (λb=>b);refine AC.mk (AL a rfl) (AC.mk (AB a rfl) (AC.mk (AB a rfl) (AC.mk (AB a rfl) (AC.mk (AB a rfl) (AC.mk (AB a rfl) (Ab.mk (AB a rfl) (AJ.mk (AB a rfl) ?_)))))));refine ab.eight (i.af A (λb=>b)) λS f T ag=>?_
   refine AC.mk (AL f rfl) (AC.mk (AB f rfl) (AC.mk (AB f rfl) (AC.mk (AB f rfl) (AC.mk (AB f rfl) (AC.mk (AB f rfl) (Ab.mk (AB f rfl) (AJ.mk (AB f rfl) ?_)))))));have:=s S ((z.trans i).more T λc h=>by omega);rw[o,g,E] at this;exact this
theorem vS:PO P Dh BD fW.w 72=true:=by kernel_rfl
theorem vT {a:Ev}(h:EQ a=true)(hd:a.data.size<18446744073709551616):(Mh a).length<=100+a.data.size:=by
 have c:=h;simp only[EQ,A3] at c;obtain⟨⟨⟨⟨⟨⟨⟨i,j⟩,k⟩,d⟩,e⟩,g⟩,l⟩,m⟩:=c;have o:=BX.1 i;have p:=BX.1 j;have q:=BX.1 k;have r:=AV (n:=a.id.toNat) (by omega);have s:=AV (n:=a.kind.toNat) (by omega);have t:=AV (n:=a.tick.toNat) (by omega);have u:=Lu (f:=cW a.kind) (n:=a.ref) (by cases b:cW a.kind<;>rw[b] at d<;>simp[cX,bU] at d<;>omega);have v:=Lu (f:=dj a.kind) (n:=a.step) (by cases b:dj a.kind<;>rw[b] at e<;>simp[cX,bU] at e<;>omega);have w:=Lu (f:=dx a.kind) (n:=a.turn) (by cases b:dx a.kind<;>rw[b] at g<;>simp[cX,bU] at g<;>omega);have x:=Lu (f:=dO a.kind) (n:=if a.aL then 1 else 0) (by split<;>omega);have y:(gK (dP a.kind) a.data).length<=10+a.data.size:=by
  cases b:dP a.kind with
  |false=>simp[gK]
  |true=>
   simp only[gK,if_true,BR,A1,BA];have:=AV hd;omega
 simp only[Mh,A1];omega
end Go.Lf.G
namespace Go.Lf
open Go
def Ry(a:Int)(v:J0):List (Int×J0)->List (Int×J0)
 | []=> [(a,v)]
 |p::m=>if p.1=a then(a,v)::m else p::Ry a v m
def Kr(a:Int)(m:List (Int×J0)):Option J0:=(m.find? λp=>decide (p.1=a)).map (·.2)
def hP(a:Int)(m:List (Int×J0)):List (Int×J0):=m.filter λp=> !decide (p.1=a)
theorem F8(a:Int)(p:Int×J0)(m:List (Int×J0)):Kr a (p::m)=if p.1=a then some p.2 else Kr a m:=by unfold Kr;rw[DH];by_cases b:p.1=a<;>simp[b]
theorem YY(a:Int)(v:J0)(c:Int): ∀m,Kr c (Ry a v m)=if a=c then some v else Kr c m
 | []=>by unfold Ry;rw[F8]
 |p::m=>by
  unfold Ry;split
  ·rename_i d;rw[F8,F8];by_cases b:a=c<;>simp[d,b]
  ·rename_i d;rw[F8,F8,YY a v c m];by_cases b:a=c
   ·subst b;simp[d]
   ·simp[b]
structure VP (kd:IntKind) (es:Array MapEntry) (clock:Nat) (m:List (Int×J0)):Prop where
 same:es.toList.map (λe=>(e.key,e.val))=m.map λp=>(Value.int kd p.1,p.2)
 stamped:MapKept.Stamped es clock
 size:es.size<=maxLen
def Rq(kd:IntKind)(d:aa)(b:Nat)(m:List (Int×J0)):Prop:= ∃a c,d[b]? =some (.map a c)/\VP kd a c m
theorem Rq.mod {kd:IntKind}{a c:aa}{b:Nat}{m:List (Int×J0)}{d:Nat->Prop}(M:Rq kd a b m)(x:Mod d a c)(e: ¬d b):Rq kd c b m:=by obtain⟨f,g,h,i⟩:=M;exact⟨f,g,x.af h e,i⟩
theorem Rq.lt {kd:IntKind}{a:aa}{b:Nat}{m:List (Int×J0)}(M:Rq kd a b m):b<a.size:=by obtain⟨d,e,c,f⟩:=M;exact Af c
theorem Rq.empty {kd:IntKind}{a:aa}{b c:Nat}(d:a[b]? =some (.map #[] c)):Rq kd a b []:=⟨#[],c,d,rfl,MapKept.stamped_empty c,by simp⟩
theorem VP.len {kd:IntKind}{a:Array MapEntry}{b:Nat}{m:List (Int×J0)}(M:VP kd a b m):a.size=m.length:=by rw[<- F0];have:=congrArg List.length M.same;simpa using this
theorem VP.keysOf {kd:IntKind}{a:Array MapEntry}{b:Nat}{m:List (Int×J0)}(M:VP kd a b m):a.toList.map (·.key)=m.map λp=>Value.int kd p.1:=by have:=congrArg (List.map Prod.fst) M.same;simpa [AT,G0] using this
theorem VP.nodup {kd:IntKind}{b:Array MapEntry}{c:Nat}{m:List (Int×J0)}(M:VP kd b c m):(m.map (·.1)).Nodup:=by
 have a:=M.stamped.2.2;rw[M.keysOf] at a;have d:(m.map λp=>Value.int kd p.1)=(m.map (·.1)).map (Value.int kd):=by simp
 rw[d] at a;exact(List.pairwise_map.1 a).imp λe f=>e (by rw[f])
theorem Ni {kd:IntKind}(a:Int)(v:J0): ∀(c:List MapEntry) (m:List (Int×J0)) (i:Nat),(c.map λe=>(e.key,e.val))=(m.map λp=>(Value.int kd p.1,p.2))->
  (Instr.findNow (.int kd) (.int kd a) c i=some none/\Kr a m=none/\Ry a v m=m++ [(a,v)]/\hP a m=m/\ ∀e∈c,e.key≠ .int kd a)\/
  ∃d u,Instr.findNow (.int kd) (.int kd a) c i=some (some (i+d,u))/\Kr a m=some u/\(∃ e,c[d]? =some e/\e.key= .int kd a)/\((c.modify d λe=> {e with key:= .int kd a,val:=v}).map λe=>(e.key,e.val))=(Ry a v m).map (λp=>(Value.int kd p.1,p.2))/\
   ((m.map (·.1)).Nodup->((c.eraseIdx d).map λe=>(e.key,e.val))=(hP a m).map λp=>(Value.int kd p.1,p.2))
 | [],[],i,_=> .inl ⟨rfl,rfl,rfl,rfl,by simp⟩
 | [],_::_,_,h=>by simp at h
 |_::_,[],_,h=>by simp at h
 |e::c,p::m,i,h=>by
  simp only[BT,HX,N2] at h;obtain⟨⟨j,l⟩,n⟩:=h;have o:Instr.sameNow (.int kd) (.int kd a) e.key=some (decide (a=p.1)):=by rw[j];show(if kd=kd then some (a==p.1) else none)=_;rw[if_pos rfl];congr 1
  by_cases b:p.1=a
  ·refine .inr ⟨0,e.val,?_,?_,⟨e,rfl,by rw[j,b]⟩,?_,?_⟩
   ·unfold Instr.findNow;rw[o,decide_eq_true b.symm];rfl
   ·rw[F8,if_pos b,l]
   ·unfold Ry;rw[if_pos b];simp[n]
   ·intro g;have g:=List.nodup_cons.1 g;simp only[List.eraseIdx_zero,List.tail_cons];rw[n];congr 1;unfold hP;rw[B9];simp only[b,decide_true,Ly,Cd,if_false];refine(List.filter_eq_self.2 λC w=>?_).symm;simp only[CA,decide_eq_false_iff_not];rintro rfl;exact g.1 (by show p.1∈_;rw[b];exact N3 (f:=Prod.fst) w)
  ·rcases Ni a v c m (i+1) n with⟨q,r,s,k,y⟩|⟨d,u,q,r,⟨z,s,A⟩,B,k⟩
   ·refine .inl ⟨?_,?_,?_,?_,?_⟩
    ·unfold Instr.findNow;rw[o,decide_eq_false (λe=>b e.symm)];exact q
    ·rw[F8,if_neg b];exact r
    ·unfold Ry;rw[if_neg b,s];rfl
    ·unfold hP at k ⊢;rw[B9];simp[b];simpa using k
    ·intro x t;rcases List.mem_cons.1 t with rfl|t
     ·rw[j];intro e;injection e with _ e;exact b e
     ·exact y x t
   ·refine .inr ⟨d+1,u,?_,?_,⟨z,by simpa using s,A⟩,?_,?_⟩
    ·unfold Instr.findNow;rw[o,decide_eq_false (λe=>b e.symm)];rw[show i+(d+1)=i+1+d by omega];exact q
    ·rw[F8,if_neg b];exact r
    ·unfold Ry;rw[if_neg b];simp[j,l,B]
    ·intro g;have g:=List.nodup_cons.1 g;have:=k g.2;unfold hP at this ⊢;rw[B9];simp[b,j,l];simpa using this
section
variable {P : Q1} {kd : IntKind}
theorem Fj {a:Q7}(c:P.underlying a=some (.int kd))(d:Bool)(e:Nat)(f:Int)(b:World):(Instr.checkKey d (e+1) a (.int kd f)).run P b= .ok () b:=by simp[Instr.checkKey,BJ c]
theorem LJ {g:al}{t h i:Q7}{z:J0}(j:P.underlying t=some (.map h i))(c:P.underlying h=some (.int kd))(n:(zeroValue i).calc P=some z){a:aa}{b:Nat}{m:List (Int×J0)}{d:Int}{K:A2N}
  (M:Rq kd a b m) (o:K ((Kr d m).getD z) a):BF g P (Instr.lookup t (.map (some b)) (.int kd d) false) a K:=by
 intro k;refine⟨_,a,k,?_,o⟩;obtain⟨p,v,q,s⟩:=M;have l:=MapKept.run_getObj_map (P:=P) (w:=g.at a k) (r:=b) q;rcases Ni d z p.toList m 0 s.same with⟨e,f,_⟩|⟨x,u,e,f,_,_⟩
 ·simp[Instr.lookup,BJ j,l,Fj c,Instr.findKey,BJ c,e,f,Result.andThen,Jq n]
 ·simp[Instr.lookup,BJ j,l,Fj c,Instr.findKey,BJ c,e,f,Result.andThen]
theorem AIt {g:al}{t q G:Q7}(s:P.underlying t=some (.map q G))(h:P.underlying q=some (.int kd)){a:aa}{b:Nat}{m:List (Int×J0)}{d:Int}{v:J0}{K:aa->Prop}
  (M:Rq kd a b m) (O:m.length<maxLen) (y: ∀i,Rq kd i b (Ry d v m)->Mod (λc=>c=b) a i->i.size=a.size->K i):gG g P (Instr.mapUpdate t (.map (some b)) (.int kd d) v) a K:=by
 intro f;obtain⟨j,l,n,e⟩:=M;have z:=Af n;have A:=MapKept.run_getObj_map (P:=P) (w:=g.at a f) (r:=b) n;have B: ∀k,(setObj b k).run P (g.at a f)= .ok () (g.at (a.setIfInBounds b k) f):=λk=>MapKept.run_setObj_map (P:=P) (w:=g.at a f) k n
 have Q:=e.len;rcases Ni d v j.toList m 0 e.same with⟨o,H,p,_,I⟩|⟨C,u,o,H,⟨J,p,D⟩,L,_⟩
 ·refine⟨a.setIfInBounds b (.map (j.push {key:= .int kd d,val:=v,born:=l}) (l+1)),f,?_,y _ ⟨_,_,CR z,?_,MapKept.stamped_push e.stamped I,by simp;omega⟩ (Mod.setObj rfl) (by simp)⟩
  ·simp[Instr.mapUpdate,BJ s,A,Fj h,Instr.findKey,BJ h,o,Result.andThen,B]
  ·rw[p];simp[e.same]
 ·have E:j[C]? =some J:=by simpa using p
  refine⟨a.setIfInBounds b (.map (j.modify C λe=> {e with key:= .int kd d,val:=v}) l),f,?_,y _ ⟨_,_,CR z,?_,MapKept.stamped_modify e.stamped _ _ (λ_ _=>rfl) (λx _ F=>?_),by simpa using e.size⟩ (Mod.setObj rfl) (by simp)⟩
  ·have N: ∀w,(Instr.keyThatStays (.int kd d) (.int kd d)).run P w= .ok (.int kd d) w:=λw=>by
    simp[Instr.keyThatStays,Instr.sameBits]
   simp[Instr.mapUpdate,BJ s,A,Fj h,Instr.findKey,BJ h,o,E,D,N,Result.andThen,B]
  ·rw[Hj];exact L
  ·rw[E] at F;cases F;exact D.symm
theorem AIm {g:al}{t k B C:Q7}(s:P.underlying t=some (.map k B))(h:P.underlying k=some (.int kd)){a:aa}{b:Nat}{m:List (Int×J0)}{l:Int}{K:A2N}
  (M:Rq kd a b m) (v: ∀i,Rq kd i b (hP l m)->Mod (λc=>c=b) a i->i.size=a.size->K (J1 #[]) i):BF g P (Builtin.delete_ #[t,k] C #[.map (some b),.int kd l]) a K:=by
 intro e;obtain⟨f,x,n,d⟩:=M;have y:=Af n;have z:=MapKept.run_getObj_map (P:=P) (w:=g.at a e) (r:=b) n;have A: ∀j,(setObj b j).run P (g.at a e)= .ok () (g.at (a.setIfInBounds b j) e):=λj=>MapKept.run_setObj_map (P:=P) (w:=g.at a e) j n
 rcases Ni l (J3 true) f.toList m 0 d.same with⟨o,D,_,p,_⟩|⟨q,u,o,D,⟨E,F,I⟩,_,p⟩
 ·refine⟨_,a.setIfInBounds b (.map f x),e,?_,v _ ⟨_,_,CR y,by rw[p];exact d.same,d.stamped,d.size⟩ (Mod.setObj rfl) (by simp)⟩;simp[Builtin.delete_,BJ s,z,Fj h,Instr.findKey,BJ h,o,Result.andThen,A]
 ·have G:f[q]? =some E:=by simpa using F
  refine⟨_,a.setIfInBounds b (.map (f.eraseIdxIfInBounds q) x),e,?_,v _ ⟨_,_,CR y,?_,MapKept.stamped_erase d.stamped _,?_⟩ (Mod.setObj rfl) (by simp)⟩
  ·simp[Builtin.delete_,BJ s,z,Fj h,Instr.findKey,BJ h,o,Result.andThen,A]
  ·have H:=(Array.getElem?_eq_some_iff.1 G).1;rw[Array.eraseIdxIfInBounds,dif_pos H,A0m];exact p d.nodup
  ·have:(f.eraseIdxIfInBounds q).size<=f.size:=by unfold Array.eraseIdxIfInBounds;split<;>simp
   have:=d.size;omega
end
theorem uE(b c:Int): ∀m:List (Int×J0),Kr c (hP b m)=if b=c then none else Kr c m
 | []=>by simp[Kr,hP]
 |p::m=>by
  have e:=uE b c m;unfold hP at e ⊢;rw[B9,F8];by_cases d:p.1=b
  ·rw[if_neg (by simp[d]),e];by_cases a:b=c
   ·rw[if_pos a,if_pos a]
   ·rw[if_neg a,if_neg a,if_neg (λf=>a (d.symm.trans f))]
  ·rw[if_pos (by simp[d]),F8,e];by_cases a:p.1=c
   ·rw[if_pos a,if_pos a,if_neg (λf=>d (a.trans f.symm))]
   ·rw[if_neg a,if_neg a]
theorem ANz {a:Int}{m:List (Int×J0)}:(hP a m).length<=m.length:=RT _ _
theorem WW {k:Int}{v:J0}: ∀ {m:List (Int×J0)},(Ry k v m).length<=m.length+1
 | []=>by simp[Ry]
 |p::m=>by
  unfold Ry;split
  ·simp
  ·have:=WW (k:=k) (v:=v) (m:=m);simp only[A5];omega
section
variable {P : Q1} {kd : IntKind}
theorem uF {i:al}{t O Q:Q7}{z:J0}(R:P.underlying t=some (.map O Q))(A:P.underlying O=some (.int kd))(Y:(zeroValue Q).calc P=some z){f:aa}{b:Nat}{m:List (Int×J0)}{g:Int}{v:J0}{K:aa->Prop}
  (M:Rq kd f b m) (ak:m.length<maxLen) (S: ∀B,Rq kd B b (Ry g v m)->Mod (λc=>c=b) f B->B.size=f.size->K B):
  BF i P (Instr.mapEntry t (.map (some b)) (.int kd g)) f λw n=> ∃x u:J0,w=J1 #[x,u]/\ ∃st:Int,u=J6 J9 st/\(gG i P (Instr.entryStore t (.map (some b)) (J6 J9 st) v) n λZ=>K Z):=by
 intro y;obtain⟨e,d,E,h⟩:=M;have T:=Af E;have U:=MapKept.run_getObj_map (P:=P) (w:=i.at f y) (r:=b) E;have V: ∀k,(setObj b k).run P (i.at f y)= .ok () (i.at (f.setIfInBounds b k) y):=λk=>MapKept.run_setObj_map (P:=P) (w:=i.at f y) k E
 have am:=h.len;obtain⟨ab,W,_⟩:=h.stamped;rcases Ni g v e.toList m 0 h.same with⟨F,ac,p,_,ad⟩|⟨j,u,F,ac,⟨q,p,C⟩,ae,_⟩
 ·refine⟨J1 #[z,goInt d],f.setIfInBounds b (.map (e.push ⟨.int kd g,z,d⟩) (d+1)),y,?_,z,goInt d,rfl,(d:Int),rfl,λo=>?_⟩
  ·simp[Instr.mapEntry,BJ R,U,Fj A,Instr.findKey,BJ A,F,Result.andThen,Jq Y,V]
  have s:(f.setIfInBounds b (.map (e.push ⟨.int kd g,z,d⟩) (d+1)))[b]? =some (.map (e.push ⟨.int kd g,z,d⟩) (d+1)):=CR T;have G:Mod (λc=>c=b) f (f.setIfInBounds b (.map (e.push ⟨.int kd g,z,d⟩) (d+1))):=Mod.setObj rfl;have af:(f.setIfInBounds b (.map (e.push ⟨.int kd g,z,d⟩) (d+1))).size=f.size:=by simp
  generalize f.setIfInBounds b (.map (e.push ⟨.int kd g,z,d⟩) (d+1))=n at*
  have H:=Af s;have I:=MapKept.run_getObj_map (P:=P) (w:=i.at n o) (r:=b) s;have J: ∀k,(setObj b k).run P (i.at n o)= .ok () (i.at (n.setIfInBounds b k) o):=λk=>MapKept.run_setObj_map (P:=P) (w:=i.at n o) k s
  have L:(e.push ⟨.int kd g,z,d⟩).findIdx? (λh=>((h.born:Nat):Int)==((d:Nat):Int))=some e.size:=by
   rw[WideElems.findIdx_arr];exact WideElems.findIdx_born (l:=(e.push ⟨.int kd g,z,d⟩).toList) (j:=e.size) (e0:=⟨.int kd g,z,d⟩) (by
    simp only[RW,CH,BT,Se];refine List.nodup_append.2 ⟨W,by simp,λa ag c ah an=>?_⟩;simp only[Sf] at ah;obtain⟨x,D,rfl⟩:=List.mem_map.1 ag;have:=ab x D;omega) (by simp)
  have N:(e.push ⟨.int kd g,z,d⟩).modify e.size (λh=> {h with val:=v})=e.push ⟨.int kd g,v,d⟩:=by apply NX;rw[Hj,RW,RW,<-F0,WideElems.modify_last]
  refine⟨n.setIfInBounds b (.map (e.push ⟨.int kd g,v,d⟩) (d+1)),o,?_,S _ ⟨_,_,CR H,?_,MapKept.stamped_push h.stamped ad,by simp;omega⟩ (G.trans (Mod.setObj rfl)) (by simp;omega)⟩
  ·simp[Instr.entryStore,I,asInt,asIntOf,goInt,L,N,J,Result.andThen]
  ·rw[p];simp[h.same]
 ·have X:e[j]? =some q:=by simpa using p
  have ai:e.modify j (λh=> {h with key:= .int kd g})=e:=by
   apply NX;rw[Hj,ChangeMaps.modify_eq_set _ _ _ _ p];have:({q with key:= .int kd g}:MapEntry)=q:=by rw[<- C]
   rw[this];exact WideElems.set_self _ _ _ p
  have aj: ∀w,(Instr.keyThatStays (.int kd g) (.int kd g)).run P w= .ok (.int kd g) w:=λw=>by
   simp[Instr.keyThatStays,Instr.sameBits]
  refine⟨J1 #[u,goInt q.born],f.setIfInBounds b (.map e d),y,?_,u,goInt q.born,rfl,(q.born:Int),rfl,λo=>?_⟩
  ·simp[Instr.mapEntry,BJ R,U,Fj A,Instr.findKey,BJ A,F,X,C,aj,ai,Result.andThen,V]
  have s:(f.setIfInBounds b (.map e d))[b]? =some (.map e d):=CR T;have G:Mod (λc=>c=b) f (f.setIfInBounds b (.map e d)):=Mod.setObj rfl;have af:(f.setIfInBounds b (.map e d)).size=f.size:=by simp
  generalize f.setIfInBounds b (.map e d)=n at*
  have H:=Af s;have I:=MapKept.run_getObj_map (P:=P) (w:=i.at n o) (r:=b) s;have J: ∀k,(setObj b k).run P (i.at n o)= .ok () (i.at (n.setIfInBounds b k) o):=λk=>MapKept.run_setObj_map (P:=P) (w:=i.at n o) k s
  have L:e.findIdx? (λh=>((h.born:Nat):Int)==((q.born:Nat):Int))=some j:=by rw[WideElems.findIdx_arr];exact WideElems.findIdx_born W p
  have N:e.modify j (λh=> {h with val:=v})=e.modify j (λh=> {h with key:= .int kd g,val:=v}):=by apply NX;rw[Hj,Hj,ChangeMaps.modify_eq_set _ _ _ _ p,ChangeMaps.modify_eq_set _ _ _ _ p,<-C]
  refine⟨n.setIfInBounds b (.map (e.modify j λh=> {h with key:= .int kd g,val:=v}) d),o,?_,S _ ⟨_,_,CR H,?_,MapKept.stamped_modify h.stamped _ _ (λ_ _=>rfl) (λx _ D=>?_),by simpa using h.size⟩ (G.trans (Mod.setObj rfl)) (by simp;omega)⟩
  ·simp[Instr.entryStore,I,asInt,asIntOf,goInt,L,N,J,Result.andThen]
  ·rw[Hj];exact ae
  ·rw[X] at D;cases D;exact C.symm
end
end Go.Lf
namespace Go.Lf.G
open Go
def CL(a:Nat):A2O:=AX [Cq 108,Cq a]
def Jw(r:Nat)(a:A2O):A2O:=AX (BZ r++BR (bl a))
theorem Js(a:Nat):(CL a).size=2:=rfl
theorem ALF(a:Nat):CL a≠⟨#[]⟩:=λb=>by have:=congrArg ByteArray.size b;rw[Js] at this;cases this
theorem xp {m a:Nat}(c:m<256)(d:a<256)(h:CL m=CL a):m=a:=by have b:=Nf.1 h;simp only[HX,and_true,true_and] at b;have:=congrArg UInt8.toNat b;rwa [Dq c,Dq d] at this
theorem AJI {r:Nat}{a:A2O}(d:r<=2147483647)(b:Ap a=true):(Jw r a).size<=8192:=by have e:=(Gz.1 b).2.1;have f:=AV (n:=r) (by omega);have c:=AV (n:=(bl a).length) (by rw[BA];omega);unfold Jw BR;rw[AP,A1,A1,BA];rw[BA] at c;omega
section
variable {A : al} {h : aa} {R : A2N}
theorem Rw {a:Nat}(b:a<256)(e: ∀c,Ext h c->R (J7 (CL a)) c):AA A P G7 #[J6 J9 (a:Int)] h R:=by
 refine AC2 ?_;unfold Xc;refine UW ?_;unfold QX;refine ak.mk λd _ f g j=>?_
 have v1:View Gs d ⟨some ⟨h.size,0,none⟩,1,1⟩ [Cq a]:=(Own.lit (E:=Gs) (l:= [Cq a]) f (by simp[Gs,Dq b,wrap_u8,Ax b]) (by simp[maxLen])).view;refine Jy (s:=⟨some ⟨h.size,0,none⟩,1,1⟩) YL ka Oc v1 ⟨_,rfl,⟨_,rfl,⟨by rw[AP,max_i64,show(⟨#[108]⟩:A2O).size=1 from rfl];simp,?_⟩⟩⟩;have i:(⟨#[108]⟩:A2O)++AX [Cq a]=CL a:=by rw[show(⟨#[108]⟩:A2O)=AX [Cq 108] from rfl,Ak];rfl
 rw[i];exact e d g
theorem nQ {r:Nat}{a:A2O}(k:1<=r)(m:r<=2147483647)(b:Ap a=true)(f: ∀c,Ext h c->R (J1 #[J7 (Jw r a),J6 J9 0]) c):AA A P KD #[J6 J9 (r:Int),J7 a] h R:=by
 obtain⟨l,rfl⟩: ∃l,a=AX l:=⟨_,(Da a).symm⟩;have d:=(Gz.1 b).2.1;rw[AP] at d;refine AFF ?_;unfold ZN;refine ah.mk λK g=>ae.no (decide_eq_false (by omega)) (ae.no (decide_eq_false (by omega)) (FN ⟨_,rfl,g _ _ (ae.no (by rw[b];rfl) ?_)⟩))
 rw[Bz (by omega)];have e:=AV (n:=r) (by omega);have o:=AV (n:=l.length) (by omega);refine CS (by omega) λd i=>⟨_,rfl,?_⟩
 refine QG (l:=l) (by omega) λe j=>⟨_,rfl,⟨?_,?_⟩⟩
 ·rw[AP,AP,max_i64];unfold BR;rw[A1];omega
 ·rw[Ak];have:=f e (i.trans j);unfold Jw at this;rwa [show bl (AX l)=l from Ce l] at this
theorem ALl {r:Nat}{a:A2O}(k:1<=r)(b:r<=2147483647)(d:Ap a=true)(m: ∀e,Ext h e->R (J1 #[J6 J9 (r:Int),J7 a,J6 J9 0]) e):AA A P O0 #[J7 (Jw r a)] h R:=by
 have o:=d;obtain⟨l,rfl⟩: ∃l,a=AX l:=⟨_,(Da a).symm⟩;have p:=(Gz.1 d).2.1;rw[AP] at p;have x:=AV (n:=r) (by omega);have y:=AV (n:=l.length) (by omega);have z:(BR l).length<=26:=by unfold BR;rw[A1];omega
 refine ACU ?_;unfold U0 Jw;rw[show bl (AX l)=l from Ce l];refine KP (l:=BZ r++BR l) λB q s=>⟨_,rfl,?_⟩
 refine DR (most:=2147483647) q (by simp only[A1];omega) (by decide) λC f t=>⟨_,rfl,?_⟩
 rw[Ci (by omega) b] at f ⊢;refine Hy f (by dsimp only;omega) λu g v=>⟨_,rfl,?_⟩
 have i:=JD (l:=l) (by omega) [];rw[AM] at i;rw[i] at g ⊢;refine nQ k b o λhd j=>⟨_,_,rfl,?_⟩
 refine ah.mk λK w=>ae.no rfl (Mt (r:=⟨[],false⟩) (j.af g λh=>h) ⟨_,rfl,w _ _ (ae.no rfl ?_)⟩)
 exact m hd ((s.then ((t.trans v).ai λc _ u=> .inr (by omega))).trans j)
end
theorem sv: ∀(k a:Nat),Kk (k+1) a=Cq (a / 256^k)::Kk k a
 |0,a=>by rw[Kk,Kk];simp[Kk]
 |k+1,a=>by
  rw[Kk,sv k (a / 256),DQ];show Cq (a / 256 / 256^k)::(Kk k (a / 256)++ [Cq a])=_;rw[Wb,show 256*256^k=256^(k+1) from by rw[DS,CT]];rfl
theorem sw(m:Nat):(m:Int).fdiv ((2:Int)^(8:Nat))=((m / 256:Nat):Int):=by rw[show((2:Int)^(8:Nat))=256 from by decide,Wc _ (by decide)];omega
section
variable {A : al} {h : aa} {R : A2N}
theorem Tw {n:Nat}(r: ∀o,Ext h o->R (J7 (AX (Kk 8 n))) o):AA A P JL #[.int .u64 (n:Int)] h R:=by
 refine ADm ?_;unfold Xn;refine uo (E:=Gs) (x0:=0) (v:= .int .u8 0) (n:=8) UE wm rfl rfl rfl (by omega) (by simp only[maxLen];omega) λt u w D=>?_
 dsimp only;refine Loop.rule (λm x d=> ∃i:Nat,x=(((n / 256^i:Nat):Int),(i:Int),())/\m=8-i/\i<=8/\Mod (λc=>c=h.size) t d/\Own Gs Co d ⟨some ⟨h.size,0,none⟩,8,8⟩ (List.replicate (8-i) 0++Kk i n)) ?_ ⟨0,by simp,rfl,by omega,Mod.refl,by simpa [Kk] using u⟩;rintro F m _ d ⟨i,rfl,rfl,G,p,f⟩ y;dsimp only;refine ae.intro (λg=>?_) (λg=>?_)
 ·have k:i<8:=by simp at g;omega
  rw[wrap_i64 (by omega) (by omega),show(7:Int)-(i:Int)=((7-i:Nat):Int) from by omega,sw,Aa (by omega),Wb,<-DS];have ag:(List.replicate (8-i) (0:UInt8)++Kk i n)[7-i]? =some 0:=by rw[E0 (by simp;omega),List.getElem?_replicate,if_pos (by omega)]
  refine f.view.idx ag λa z H=>?_
  rw[A6,<-add_zero (a.add ((7-i)*1)),wrap_u8];refine Own.store (E:=Gs) (i:=7-i) (j:=0) (x:=0) (x':=Cq (n / 256^i)) (v:= .int .u8 ((n / 256^i % 256:Nat):Int)) f ag (by show [Value.int .u8 _]=_;rw[Yc,Dq (by omega)];rfl) (by decide) (λI q B J=>?_) a z;refine y (8-(i+1)) _ _ (by omega) ⟨i+1,rfl,rfl,k,p.trans (B.ai λb _ e=>?_),?_⟩
  ·simp[Sl.af] at e;exact e.symm
  ·have C:(List.replicate (8-i) (0:UInt8)++Kk i n).set (7-i) (Cq (n / 256^i))=List.replicate (8-(i+1)) 0++Kk (i+1) n:=by rw[sv,show 8-i=(7-i)+1 from by omega,List.replicate_succ',A4,HI _ _ (by simp),List.length_replicate,LR,show 8-(i+1)=7-i from by omega];rfl
   rw[C] at q;exact q
 ·have k:i=8:=by simp at g;omega
  subst k;refine Jy UE wo wq (s:=⟨some ⟨h.size,0,none⟩,8,8⟩) (l:=Kk 8 n) (by simpa using f.view) ⟨_,rfl,?_⟩;exact r d (w.more p λb e=>by subst e;exact A0 _)
theorem sx {wid:A2O}(e:wid.size<=1000000)(b: ∀a,Ext h a->R (J7 (VY wid)) a):AA A P LU #[J7 wid] h R:=by
 refine AAu ?_;unfold VF;have f:=AV (n:=(bl wid).length) (by rw[BA];omega);refine Kz (by omega) λc d=>⟨_,rfl,⟨?_,?_⟩⟩
 ·rw[AP,max_i64];unfold BR;rw[A1,BA] at*
  rw[show(⟨#[104]⟩:A2O).size=1 from rfl];omega
 ·rw[show(⟨#[104]⟩:A2O)=AX [kE] from rfl,Ak];exact b c d
theorem sy {wid:A2O}{id:Nat}(b:wid.size<=1000000)(c:id<18446744073709551616)(d: ∀a,Ext h a->R (J7 (dV wid id)) a):AA A P Mm #[J7 wid,J6 J9 (id:Int)] h R:=by
 refine AC8 ?_;unfold WK;refine sx b λi e=>⟨_,rfl,?_⟩
 rw[if_neg (by omega),Bz c];have j:=AV (n:=(bl wid).length) (by rw[BA];omega);refine Tw λf g=>⟨_,rfl,⟨⟨by decide,by rw[AP,Nb];decide⟩,?_⟩⟩
 rw[show(AX (Kk 8 id)).extract (4:Int).toNat (AX (Kk 8 id)).size=AX (Kk 4 id) from Yg (Kk 8 id) 4];refine⟨?_,?_⟩
 ·unfold VY jX BR;rw[AP,AP,Nb,max_i64];simp only[A5,A1,BA] at*
  omega
 ·have:=d f (e.trans g);unfold VY;rw[Ak];exact this
theorem mG {wid:A2O}(c:wid.size<=1000000)(a:R (J7 (KX wid)) h):AA A P Fx #[J7 wid] h R:=by
 refine AF7 ?_;unfold Zy;refine⟨by rw[max_i64,show(⟨#[119]⟩:A2O).size=1 from rfl];omega,?_⟩;have b:(⟨#[119]⟩:A2O)++wid=KX wid:=by
  conv=>lhs;rw[<- Da wid]
  rw[show(⟨#[119]⟩:A2O)=AX [119] from rfl,Ak];rfl
 rw[b];exact a
theorem sA {a:A2O}(d:a.size<=1000000)(b:R (J7 (MQ a)) h):AA A P Jd #[J7 a] h R:=by
 refine Yo ?_;unfold RJ;refine⟨by rw[max_i64,show(⟨#[114]⟩:A2O).size=1 from rfl];omega,?_⟩;have c:(⟨#[114]⟩:A2O)++a=MQ a:=by
  conv=>lhs;rw[<- Da a]
  rw[show(⟨#[114]⟩:A2O)=AX [114] from rfl,Ak];rfl
 rw[c];exact b
theorem sB {a:Nat}(b:a<256)(e: ∀c,Ext h c->R (J7 (AX [Cq a])) c):AA A P KY #[J6 J9 (a:Int)] h R:=by
 refine UW ?_;unfold QX;refine ak.mk λd _ f g i=>?_
 have v1:View Gs d ⟨some ⟨h.size,0,none⟩,1,1⟩ [Cq a]:=(Own.lit (E:=Gs) (l:= [Cq a]) f (by
  show [Value.int .u8 (J8 .u8 (a:Int))]= [Value.int .u8 ((Cq a).toNat:Int)];rw[wrap_u8,Dq b,Ax b]) (by simp[maxLen])).view
 exact Jy (s:=⟨some ⟨h.size,0,none⟩,1,1⟩) YL ka Oc v1 ⟨_,rfl,e d g⟩
theorem zZ {a id:Nat}(c:a<256)(d: ∀b,Ext h b->R (J7 (YS a id)) b):AA A P Jg #[J6 J9 (a:Int),.int .u64 (id:Int)] h R:=by
 refine YC ?_;unfold RL;refine XG ?_;unfold QA;refine sB c λi e=>⟨_,rfl,⟨by rw[AP,max_i64];show((2:Nat):Int)<=9223372036854775807;decide,⟨_,rfl,?_⟩⟩⟩
 rw[show(⟨#[116]⟩:A2O)=AX [116] from rfl,Ak];refine Tw λf g=>⟨_,rfl,⟨by rw[AP,AP,Nb,max_i64];show((10:Nat):Int)<=9223372036854775807;decide,?_⟩⟩
 rw[Ak];exact d f (e.trans g)
theorem AOF {a id t:Nat}(c:a<256)(d:t<18446744073709551616)(e: ∀b,Ext h b->R (J7 (Yv a t id)) b):AA A P NK #[J6 J9 (a:Int),J6 J9 (t:Int),.int .u64 (id:Int)] h R:=by
 refine ADQ ?_;unfold Ww;refine ABL ?_;unfold VC;refine sB c λk f=>⟨_,rfl,⟨by rw[AP,max_i64];show((2:Nat):Int)<=9223372036854775807;decide,⟨_,rfl,?_⟩⟩⟩
 rw[show(⟨#[109]⟩:A2O)=AX [109] from rfl,Ak,if_neg (by omega),Bz d];refine Tw λl g=>⟨_,rfl,⟨by rw[AP,AP,Nb,max_i64];show((10:Nat):Int)<=9223372036854775807;decide,?_⟩⟩
 rw[Ak];refine Tw λi j=>⟨_,rfl,⟨by rw[AP,AP,A1,Nb,max_i64];show((18:Nat):Int)<=9223372036854775807;decide,?_⟩⟩
 rw[Ak];exact e i ((f.trans g).trans j)
theorem sC {m:cN}{st nx:Nat}(f:m.status=(st:Int))(g:m.next=(nx:Int))(s:st<128)(t:nx<=501)(i: ∀d,Ext h d->R (J7 (Pe st nx m.kept)) d):AA A P Eo #[m.v] h R:=by
 refine Vu ?_;unfold OW;have u:=GX (n:=st) (by omega);have v:=GX (n:=nx) (by omega);refine ak.mk λj _ b k w=>ah.mk λK l=>?_
 have key: ∀n:Nat,n=(if m.kept then 1 else 0)->K ((n:Int),()) j:=λn c=>by
  refine l _ _ (AC.mk (AL b rfl) ?_);have x:(BZ n).length<=2:=GX (by split at c<;>omega);rw[f,Bz (by omega)];refine CS (by omega) λy e=>⟨_,rfl,?_⟩
  have o:=e.af b (λh=>h);refine AC.mk (AB o rfl) ⟨AB b rfl,?_⟩;rw[g,Bz (by omega)];refine CS (by omega) λz p=>⟨_,rfl,⟨by rw[AP,AP,max_i64];omega,?_⟩⟩
  rw[Ak];refine CS (by split at c<;>omega) λq r=>⟨_,rfl,⟨by rw[AP,AP,A1,max_i64];omega,?_⟩⟩
  rw[Ak,A4];have:=i q (((k.trans e).trans p).trans r);unfold Pe at this;rw[<- c] at this;exact this
 refine Ab.mk (AB b rfl) (ae.intro (λa=>?_) (λa=>?_))
 ·have a:m.kept=true:=a;exact key 1 (by rw[a];rfl)
 ·have a:m.kept=false:=a;exact key 0 (by rw[a];rfl)
theorem AJB {st nx:Nat}{a:Bool}(s:st<=4)(O:2<=nx)(t:nx<=501)(u: ∀l,Ext h l->R (J1 #[(⟨(st:Int),(nx:Int),a⟩:cN).v,J6 J9 0]) l):AA A P Nn #[J7 (Pe st nx a)] h R:=by
 refine AAI ?_;unfold Rx;refine ak.mk λv _ m o Q=>?_
 unfold Pe;have S:=GX (n:=st) (by omega);have T:=GX (n:=nx) (by omega);have U:(BZ (if a then 1 else 0)).length<=2:=GX (by split<;>omega);have w:Bw 1 ⟨BZ (if a then 1 else 0),false⟩=((if a then 1 else 0),⟨[],false⟩):=by have:=Ci (n:=if a then 1 else 0) (most:=1) (by split<;>omega) (by split<;>omega) [];rwa [AM] at this
 refine KP λx p d=>⟨_,rfl,?_⟩
 refine DR (most:=4) p (by simp only[A1];omega) (by decide) λV y e=>⟨_,rfl,?_⟩
 rw[Ci (by omega) s] at*
 refine DR (most:=501) y (by simp only[A1];omega) (by decide) λW z f=>⟨_,rfl,?_⟩
 rw[Ci (by omega) t] at*
 refine DR (most:=1) z (by simp only;omega) (by decide) λB C g=>⟨_,rfl,?_⟩
 rw[w] at*
 refine ak.mk λX _ D i Y=>aK.mk D (A0 3) λj q k Z=>?_
 have aa:=Af m;have ab:=d.size;have ac:=e.size;have ad:=f.size;have af:=g.size;have E:j[h.size]? =some (J2 cN.z.c Iu (0,0)):=k.af (i.af (g.af (f.af (e.af (d.af m (λh=>h)) (by omega)) (by omega)) (by omega)) (λh=>h)) (by omega);have F:Ib j v.size ⟨[],false⟩:=k.af (i.af C (λh=>h)) (by have:=Af p;omega);have G:Ext h j:=by
  have H:Ext h x:=o.trans d;have r:Ext h B:=H.more ((e.trans f).trans g) λc b=>by subst b;exact o.size
  exact(r.trans i).more k λc b=>by subst b;exact r.size
 refine ah.mk λK I=>Mt F ⟨_,rfl,ae.no rfl (AC.mk (AB q rfl) (I _ _ (ae.no (decide_eq_false (by show ¬((nx:Int)<2);omega)) ?_)))⟩
 have J:(((if a then 1 else 0:Nat):Int)==(1:Int))=a:=by cases a<;>rfl
 refine NW.mk ⟨(st:Int),(nx:Int),_⟩ (Dj q rfl) (aK.mk E (A0 3) λL M N ag=>NW.mk ⟨(st:Int),(nx:Int),_⟩ (Dj M rfl) ?_);rw[J];exact u L (G.more N λc b=>by subst b;exact A0 _)
def A8(wid:A2O)(a:Nat):Nat:=lD wid / 256 % a
theorem Xi {wid:A2O}{a:Nat}(d:wid.size<=1000000)(e:1<=a)(f:a<=16)(b:R (J1 #[J6 J9 (A8 wid a:Int),J6 J9 0]) h):AA A P Mq #[J7 wid,J6 J9 (a:Int)] h R:=by
 refine ADp ?_;unfold XU;refine ah.mk λK c=>ae.no (decide_eq_false (by omega)) ?_
 refine c _ _ (ae.no (decide_eq_false (by omega)) (qG (by omega) ⟨_,_,rfl,⟨by omega,?_⟩⟩));have g:=(uZ wid);rw[sw,wrap_i64 (by omega) (by omega)];exact b
end
def ga(p f:A2O):A2O:=if aN p f then f else p
theorem AQ7(p f b:A2O):aN b (ga p f)=false↔aN b p=false/\aN b f=false:=by
 unfold ga;split
 ·rename_i c;refine⟨λa=>⟨?_,a⟩,λa=>a.2⟩;cases d:aN b p
  ·rfl
  ·rw[DK d c] at a;cases a
 ·rename_i c;refine⟨λa=>⟨a,?_⟩,λa=>a.1⟩;exact YJ (by simpa using c) a
def PM(p:A2O):A2O:=⟨((eM p.data.toList).getD []).toArray⟩
theorem ARQ: ∀ {p c:List UInt8},eM p=some c->c≠ []
 | [],c,b=>by cases b
 |a::p,c,b=>by
  unfold eM at b;split at b
  ·obtain rfl:=C2 b;simp
  ·split at b
   ·obtain rfl:=C2 b;simp
   ·cases b
theorem ANg(p d:A2O):(decide (PM p=⟨#[]⟩)||aN d (PM p))=true↔ ∀a,eM p.data.toList=some a->d.data.toList<a:=by
 unfold PM;cases e:eM p.data.toList with
 |none=>simp
 |some a=>
  have f:=ARQ e;have c:decide ((⟨(Option.getD (some a) []).toArray⟩:A2O)=⟨#[]⟩)=false:=decide_eq_false λc=>f (by
   have:=congrArg (λb:A2O=>b.data.toList) c;simpa using this)
  rw[c,SU,Xp];simp
theorem AOv(p f a:A2O):jE (ga p f) (PM p) a=(hG p a&& !aN a f):=by
 rw[Fm];unfold jE;rw[A3,A3,ANg,CA,AQ7,WX,<-uC,CA];rw[show(aN a p=false↔ ¬a.data.toList<p.data.toList) from by rw[Xp];simp];constructor
 ·rintro⟨⟨b,c⟩,d⟩;exact⟨⟨b,d⟩,c⟩
 ·rintro⟨⟨b,d⟩,c⟩;exact⟨⟨b,c⟩,d⟩
def kp(m:List Pr)(p f:A2O)(a:Int):List Pr:=(m.filter λx=>hG p x.key&& !aN x.key f).take a.toNat
theorem AM0(m:List Pr)(p f:A2O)(a:Int):lP m (ga p f) (PM p) a=kp m p f a:=by unfold lP P9 kp;rw[It λx _=>AOv p f x.key]
def Bd(m:List Pr)(c:Pr):Bool:=if c.gone then !(JH m c.key).2 else(JH m c.key).2&&decide ((JH m c.key).1=c.val)
open M (Sorted Ae Cr BG Ag Aw Bf Aj bG BM aS BV)
structure Fa (B:cI) (g h:aa) (s:Nat) (q:Hp) (k:Nat->Nat) (st:Db) (m:Bx) (D:Bn) (aI c n:Nat):Prop where
 db:Br B g h q k st m D aI c
 cell:h[s]? =some (J2 #[Ay q.d,J6 J9 (n:Int)] ZQ (0,0))
 kz:k s=0
 base:g.size<=s
 fuel:m.fuel= -1
 cn:n<=1000000
def dy(m a l:List Pr):Int:=if a.length>64 then 2 else if EK l≠0 then EK l else if a.all (Bd m) then 0 else 100
theorem AGm {m:List Pr}{c:Pr}:Bd m c= !(((JH m c.key).2==c.gone)||((JH m c.key).2&& !bS (JH m c.key).1 c.val)):=by unfold Bd;rw[Cb];cases c.gone<;>cases (JH m c.key).2<;>simp
section
variable {A : al} {B : cI} {g h : aa} {s : Nat} {q : Hp} {k : Nat -> Nat} {st : Db} {m : Bx} {D : Bn} {aI c n : Nat} {R : A2N}
theorem Fa.on {b:aa}(a:Fa B g h s q k st m D aI c n)(x:Ext h b):Fa B g b s q k st m D aI c n:=⟨a.db.on x,Ah x a.cell,a.kz,a.base,a.fuel,a.cn⟩
theorem Fa.beside {d:aa}{b:Nat->Prop}(a:Fa B g h s q k st m D aI c n)(x:Mod b h d)(hX: ∀c,b c->k c=0/\g.size<=c)(e: ¬b s):Fa B g d s q k st m D aI c n:=⟨a.db.beside x hX,x.af a.cell e,a.kz,a.base,a.fuel,a.cn⟩
theorem Fa.put {d b:Nat}(a:Fa B g h s q k st m D aI c n)(e:aI<=d)(f:c<=b)(i:b<=B.C):Fa B g h s q k st m D d b n:=⟨a.db.put e f i,a.cell,a.kz,a.base,a.fuel,a.cn⟩
theorem Fa.lt(a:Fa B g h s q k st m D aI c n):s<h.size:=Af a.cell
theorem Fa.step {b:aa}{d:Hp}{k':Nat->Nat}{f:Db}{e:Bx}{i:Bn}{j l:Nat}(a:Fa B g h s q k st m D aI c n)(p:Br B g b d k' f e i j l)(hd:d.d=q.d)(r:e.fuel= -1)(t:Mod (λc=>k c≠0) h b)(u: ∀c,k' c≠0->k c≠0\/h.size<=c):Fa B g b s d k' f e i j l n:=by
 refine⟨p,by rw[hd];exact t.af a.cell (by rw[a.kz];simp),Decidable.byContradiction λv=>?_,a.base,r,a.cn⟩;have:=a.lt;rcases u s v with o|o
 ·exact o a.kz
 ·omega
theorem qN {key:A2O}(b:Fa B g h s q k st m D aI c n)(d:key.size<=1099511627776)(e: ∀a,Ext h a->R (J1 #[J7 (JH (CZ st) key).1,J3 (JH (CZ st) key).2,J6 J9 0]) a):AA A P Eu #[Ay s,J7 key] h R:=by refine YG ?_;unfold RQ;refine ae.no rfl (aD (AZ.mk (AL b.cell rfl) ?_));obtain⟨i,f,j,l⟩:=b.db.dc;exact xO b.db.mem f d λa x=>⟨_,_,_,rfl,e a x⟩
theorem AMt {p:A2O}(Q:p.size<=1099511627776)(t: ∀u,Ext h u->R (J7 (PM p)) u):AA A P TY #[J7 p] h R:=by
 refine AFW ?_;unfold Zi;have y:J8 J9 ((p.size:Int)-(1:Int))=(p.size:Int)-1:=wrap_i64 (by omega) (by omega);rw[y];have S:p.data.toList.length=p.size:=by rw[F0];rfl
 refine Loop.rule (λv x f=> ∃b:Nat,x=((b:Int)-1,())/\v=b/\f=h/\b<=p.size/\ ∀x∈p.data.toList.drop b,¬x<255) ?_ ⟨p.size,rfl,rfl,rfl,A0 _,λx e=>by rw[Hv (by omega)] at e;cases e⟩;rintro K v _ f ⟨b,rfl,T,rfl,U,o⟩ z;dsimp only;refine ae.intro (λr=>?_) (λr=>?_)
 ·have V:1<=b:=by have:=of_decide_eq_true r;omega
  obtain⟨i,rfl⟩: ∃i,b=i+1:=⟨b-1,by omega⟩;have C:((i+1:Nat):Int)-1=(i:Int):=by omega
  rw[C];refine⟨by omega,?_⟩;have ag:p.data.toList[i]? =some (p.data.toList[i]'(by omega)):=A2 _;generalize F:p.data.toList[i]'(by omega)=a at*
  have G:dw p (i:Int)=(a.toNat:Int):=by
   unfold dw;have:p[i]? =some a:=by rw[show p[i]? =p.data[i]? from rfl,<-Pl];exact ag
   rw[show((i:Int).toNat)=i from rfl,this];rfl
  rw[G];have H:p.data.toList.drop i=a::p.data.toList.drop (i+1):=by rw[Fo (by omega),F]
  refine ae.intro (λd=>?_) (λd=>?_)
  ·have d:a<255:=by rw[UInt8.lt_iff_toNat_lt];have:=of_decide_eq_true d;show a.toNat<255;omega
   have W:a.toNat<255:=UInt8.lt_iff_toNat_lt.1 d;refine⟨by omega,⟨by omega,?_⟩⟩;have I:J8 .u8 ((a.toNat:Int)+(1:Int))=((a+1).toNat:Int):=by
    rw[show(a.toNat:Int)+1=((a.toNat+1:Nat):Int) from by omega,wrap_u8];have j:(a+1).toNat=a.toNat+1:=by rw[UInt8.toNat_add];show(a.toNat+1) % 256=_;omega
    rw[j];omega
   rw[I];refine ak.mk λw _ J L X=>?_
   have v2:View Gs w ⟨some ⟨f.size,0,none⟩,1,1⟩ [a+1]:=(Own.lit (E:=Gs) (l:= [a+1]) J rfl (by simp[maxLen])).view;refine Jy (s:=⟨some ⟨f.size,0,none⟩,1,1⟩) YL ka Oc v2 ⟨_,rfl,?_⟩;have M:(AX [a+1]).size=1:=AP _;have Y:(p.extract 0 i).size<=p.size:=by rw[A0P];omega
   refine⟨by rw[show(i:Int).toNat=i from rfl,M];show(((p.extract 0 i).size+1:Nat):Int)<=9223372036854775807;omega,?_⟩;have:=t w L;have N:PM p=p.extract 0 i++AX [a+1]:=by unfold PM;rw[uD ag d o];apply SM;rw[Kf,SO];apply NX;rw[N4,SP];show p.data.toList.take i++ [a+1]=_++(AX [a+1]).data.toList;rw[show(AX [a+1]).data.toList= [a+1] from Ce _];simp
   rw[N] at this;exact this
  ·have d: ¬a<255:=λh=>by
    have:=UInt8.lt_iff_toNat_lt.1 h;have j:(255:UInt8).toNat=255:=rfl;have:=of_decide_eq_false d;omega
   rw[show J8 J9 ((i:Int)-(1:Int))=(i:Int)-1 from wrap_i64 (by omega) (by omega)];refine z i _ _ (by omega) ⟨i,rfl,rfl,rfl,by omega,λx e=>?_⟩;rw[H] at e;rcases List.mem_cons.1 e with rfl|e
   ·exact d
   ·exact o x e
 ·have O:b=0:=by have:=of_decide_eq_false r;omega
  subst O;have:=t f Mod.refl;have j:PM p=⟨#[]⟩:=by unfold PM;rw[qj (by simpa using o)];rfl
  rw[j] at this;exact this
theorem AMx {p f:A2O}{e:Int}(b:Fa B g h s q k st m D aI c n)(l:p.size<=1099511627776)(o: ∀sl d,Own Ba AR d sl (kp (CZ st) p f e)->(∀ c,sl.af=some c->h.size<=c)->Ext h d->R (J1 #[J4 sl.p sl.len sl.cap,J6 J9 0]) d):AA A P JG #[Ay s,J7 p,J7 f,J6 J9 e] h R:=by
 refine XK ?_;unfold Pp;refine ae.no rfl (aD (AZ.mk (AL b.cell rfl) ?_));refine AMt l λC a=>⟨_,rfl,⟨a.ag (AL b.cell rfl),?_⟩⟩
 have i:=b.on a;obtain⟨r,t,u,E⟩:=i.db.dc;have v:(if(!aN p f)=true then p else f)=ga p f:=by unfold ga;cases aN p f<;>rfl
 rw[v];refine AO8 i.db.mem r t u λsl w j x y=>⟨sl,_,rfl,?_⟩
 rw[AM0] at j;exact o sl w j (λc z=>by have:=x c z;have:=a.size;omega) (a.trans y)
theorem xo {conds sl:Sl}{d l:List Pr}(aC:cm g)(r:Fa B g h s q k st m D aI c n)(hA:aI+3<=B.A)(aE:c+64<=B.C)(aF:n+1<=1000000)(vc:View Ba h conds d)(v:View Ba h sl l)(aG:l≠ []-> ∀b,sl.af=some b->b<h.size/\k b=0)(aH: ∀x∈d,x.key.size<=1099511627776)
  (z:dy (CZ st) d l≠0-> ∀t,Ext h t->R (J6 J9 (dy (CZ st) d l)) t)
  (H:dy (CZ st) d l=0-> ∀t I U V aJ aK,I.d=q.d->I.b=q.b->Fa B g t s I U V aJ aK (aI+3) (c+64) (n+1)->CZ V=cS (CZ st) l->Mod (λc=>k c≠0\/h.size<=c\/c=s) h t->(∀ c,U c≠0->k c≠0\/h.size<=c)->R (J6 J9 0) t):
  AA A P FO #[Ay s,J4 conds.p conds.len conds.cap,J4 sl.p sl.len sl.cap] h R:=by
 refine AAX ?_;unfold Sm;refine ae.no rfl ?_;rw[vc.len];refine ae.intro (λf=>?_) (λf=>?_)
 ·have C:d.length>64:=by have:=of_decide_eq_true f;omega
  have j:dy (CZ st) d l=2:=by unfold dy;rw[if_pos C]
  have:=z (by rw[j];decide) h Mod.refl;rwa [j] at this
 have C: ¬d.length>64:=by have:=of_decide_eq_false f;omega
 refine wS (s:=sl) v λo W=>⟨_,rfl,?_⟩
 refine ae.intro (λJ=>?_) (λJ=>?_)
 ·have u:EK l≠0:=by simpa using J
  have j:dy (CZ st) d l=EK l:=by unfold dy;rw[if_neg C,if_pos u]
  have:=z (by rw[j];exact u) o W;rwa [j] at this
 have u:EK l=0:=by simpa using J
 have j:dy (CZ st) d l=if d.all (Bd (CZ st)) then 0 else 100:=by unfold dy;rw[if_neg C,if_neg (by rw[u];simp)]
 rw[j] at z H;refine Loop.rule (λX x p=> ∃i:Nat,x=((i:Int),())/\X=d.length-i/\i<=d.length/\Ext h p/\(d.take i).all (Bd (CZ st))=true) ?_ ⟨0,rfl,rfl,As _,W,rfl⟩;rintro K X _ p ⟨i,rfl,rfl,aW,w,L⟩ aL;have E:=r.on w;dsimp only;refine ae.intro (λf=>?_) (λf=>?_)
 ·have y:i<d.length:=by have:=of_decide_eq_true f;omega
  have ag:d[i]? =some d[i]:=A2 y;have aM:=aH d[i] (AW y);have aN:d[i]∈d:=AW y;have aO:d.take (i+1)=d.take i++ [d[i]]:=by rw[AD,ag];rfl
  generalize d[i]=x at*
  rw[<- vc.len];refine(vc.ext w).idx ag λa _ M=>?_
  obtain⟨M,aP,aR⟩:=M.pair;refine AJ.mk M (AJ.mk aP (Ab.mk aR (ak.pair λb N aX Y Z aY=>?_)));have O:=E.on Z;refine aD (AZ.mk (AL O.cell rfl) (AJ.mk (AL Y rfl) ?_));obtain⟨aZ,aS,a0,a1⟩:=O.db.dc;refine xO O.db.mem aS aM λQ aa=>⟨_,_,_,rfl,ae.no rfl ?_⟩
  have ac:=Ah aa Y;have ad:=(w.trans Z).trans aa;refine ah.mk λaf ai=>?_
  have p:=AGm (m:=CZ st) (c:=x);have aj:Bd (CZ st) x=false->af (true,()) Q:=λS=>ai _ _ (ae.yes rfl (by
   have T: ¬d.all (Bd (CZ st))=true:=λh=>by
    have:=List.all_eq_true.1 h x aN;rw[S] at this;cases this
   rw[if_neg T] at z;exact z (by decide) Q ad))
  have aQ:Bd (CZ st) x=true->af (false,()) Q:=λS=>ai _ _ (ae.no rfl (by
   rw[Aa (by omega)];refine aL (d.length-(i+1)) _ _ (by omega) ⟨i+1,rfl,rfl,y,ad,?_⟩;rw[aO,List.all_append,L];simp[S]))
  refine Ab.mk (AB ac rfl) (ae.intro (λo=>?_) (λo=>?_))
  ·exact aj (by rw[p,o];rfl)
  ·refine ae.intro (λF=>?_) (λF=>?_)
   ·refine AJ.mk (AB ac rfl) ?_;cases N:bS (JH (CZ st) x.key).1 x.val with
    |true=>exact aQ (by rw[p,o,F,N];rfl)
    |false=>exact aj (by rw[p,o,F,N];rfl)
   ·exact aQ (by rw[p,o,F];rfl)
 ·have y:i=d.length:=by have:=of_decide_eq_false f;omega
  subst y;rw[BW] at L;rw[if_pos L] at H;have a2:=w.size;refine aD (AZ.mk (AL E.cell rfl) ?_);refine AH7 (B:=B) (s:=sl) aC E.db r.fuel hA (v.ext w) (λT b al=>by have:=aG T b al;exact⟨by omega,this.2⟩) aE λa3 am an ao ap aq ar aT au av aw a4 ax ay=>⟨_,rfl,?_⟩
  rw[if_pos u] at aw;have G:=E.step au ar av ax ay;rw[u];refine ae.no rfl (aD (AC.mk (AB G.cell rfl) (aD ?_)));rw[Aa (by have:=r.cn;omega)];simp only[Bb,AI];refine ab.mk G.cell (by simp) λaz aU aA a5=>?_
  have aV:Fa B g az s am an ao ap aq (aI+3) (c+64) (n+1):=⟨au.beside aA (λc e=>by subst e;exact⟨G.kz,r.base⟩),by simpa using aU,G.kz,r.base,av,aF⟩;have al:=r.base;refine H rfl az am an ao ap aq ar aT aV aw (((w.ai λc _ e=>e.elim).trans (ax.ai λc _ e=> .inl e)).trans (aA.ai λc _ e=> .inr (.inr e))) λc e=>?_
  rcases ay c e with h|h
  ·exact .inl h
  ·exact .inr (by omega)
end
section
variable {A : al} {h : aa} {R : A2N}
end
section
variable {A : al} {B : cI} {g h : aa} {m : Bx} {D : Bn} {aI c : Nat} {R : A2N}
theorem ALe {b:Nat}{Sb:Nat->Prop}(o:cm g)(p:Cm h b Sb m)(q:Ext g h)(r: ∀c,Sb c->g.size<=c)(hd:m.down=false)(t:m.fuel= -1)(u: ∀a,ff m (aC nl a)=none)(v: ∀a,ff m (aC nn a)=none)(w: ∀x,ff m x≠none->(bl x).head? ≠some 116)(hA:1<=B.A)(y:bg m.files<=B.W0)
  (z: ∀d s i j k C E,i.b=b->Fa B g d s i j k C E 1 0 0->CZ k= []->Mod (λc=>Sb c\/h.size<=c) h d->(∀ c,j c≠0->Sb c\/h.size<=c)->h.size<=s->R (J1 #[Ay s,J6 J9 0]) d):AA A P RD #[Ay b] h R:=by
 refine AHB ?_;unfold sW;refine AM9 (B:=B) o p q r hd t u v w hA y λF G H I J K L e M N _ l O=>⟨_,_,rfl,ae.no rfl (ak.mk λQ _ S n U=>?_)⟩
 have T:=e.mem.ext.size;exact z Q F.size G H I J K L ⟨e.on n,S,e.free (A0 _),T,M,As _⟩ N ((l.ai λc _ f=> .inl f).trans (n.ai λc _ f=>f.elim)) O l.size
end
structure ARt where
 kind:Int
 cs:Sl
 bs:Sl
 key:A2O
 aT:A2O
 most:Int
 all:Bool
structure AR2 (N:Nat) (h:aa) (x:ARt) (cl l:List Pr):Prop where
 cs:View Ba h x.cs cl
 bs:View Ba h x.bs l
 keys: ∀c∈cl,c.key.size<=N
 key:x.key.size<=N
section
variable {A : al} {h : aa} {R : A2N}
end
end Go.Lf.G
