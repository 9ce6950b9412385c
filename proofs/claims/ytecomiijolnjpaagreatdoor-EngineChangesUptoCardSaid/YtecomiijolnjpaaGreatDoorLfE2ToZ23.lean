/-
 Contracts: what a state becomes by an event (chapter 14): the parts.
-/
import Derived.Test.YtecomiijolnjpaaGreatDoorLfG1
import Derived.Test.YtecomiijolnjpaaGreatDoorLfJToGA
import Derived.Test.YtecomiijolnjpaaGreatDoorLfX3ToZ9
import Derived.Test.YtecomiijolnjpaaGreatDoorLfU2ToS3
import Derived.WideKeyEntry
import Derived.Test.YtecomiijolnjpaaGreatDoorLfZ10ToGLEngineChanges_1
set_option maxRecDepth 100000
set_option linter.unusedVariables false
set_option linter.unusedSimpArgs false
open Go.IntKind renaming i64→J9,wrap→J8
open Go.Value renaming string→J7,int→J6,pointer→J5,slice→J4,bool→J3,tuple→J1
open Go.Obj renaming cells→J2
open Go renaming Value→J0,Addr→Q6,TypeId→Q7,FuncId→Q8,Program→Q1
open Go.Addr renaming add→Q9,mk→Q5
namespace Go.Lf.G
open Go
end Go.Lf.G
namespace Go.Lf
open G
open Go
abbrev aZ.V(s:aZ)(a b c:Sl):bG:=⟨a,s.prog.aw,s.status,s.next,s.aX,s.asked,s.taken,s.fresh,b,c,s.cancel,s.aQ⟩
end Go.Lf
namespace Go.Lf.G
open Go
structure I1 (h:aa) (s:aZ) (a b c:Sl):Prop where
 steps:View Oh h a s.prog.steps
 ar:View eZ h b s.ar
 aj:View ga h c s.aj
theorem I1.mod {g:Nat->Prop}{h j:aa}{s:aZ}{a b c:Sl}(i:I1 h s a b c)(m:Mod g h j)(k: ∀x,a.af=some x-> ¬g x)(l: ∀x,b.af=some x-> ¬g x)(n: ∀x,c.af=some x-> ¬g x):I1 j s a b c:=
 ⟨i.steps.mod m λx d f=>k x d f,i.ar.mod m λx d f=>l x d f,i.aj.mod m λx d f=>n x d f⟩
theorem I1.ext {h f:aa}{s:aZ}{a b c:Sl}(d:I1 h s a b c)(x:Ext h f):I1 f s a b c:=⟨d.steps.ext x,d.ar.ext x,d.aj.ext x⟩
structure D3 (h hh:aa) (T0 T1 T2:Q7) (x:bG) (e:Ev) (y:bG):Prop where
 ext:Ext h hh
 b0:hh[h.size]? =some (J2 x.c T0 (0,0))
 b1:hh[h.size+1]? =some (J2 e.c T1 (0,0))
 b2:hh[h.size+2]? =some (J2 y.c T2 (0,0))
section
variable {A : al} {h hh : aa} {T0 T1 T2 : Q7} {x y : bG} {e : Ev} {R : A2O}
theorem lC {K:Nat->Nat->Nat->aa->Prop}(m: ∀hh,D3 h hh T0 T1 T2 x e y->K h.size (h.size+1) (h.size+2) hh):
  ak h (J2 x.c T0) λb f=>ak f (J2 e.c T1) λn g=>ak g (J2 y.c T2) λo a=>K b n o a:=by
 refine ak.mk λf _ p q c=>ak.mk λg _ i j k=>ak.mk λa _ l d r=>?_
 rw[c] at i;rw[k,c] at l;have:=m a ⟨(q.trans j).trans d,d.af (j.af p (λh=>h)) (λh=>h),d.af i (λh=>h),l⟩;rw[k,c];exact this
theorem D3.on {b:aa}(a:D3 h hh T0 T1 T2 x e y)(m:Ext hh b):D3 h b T0 T1 T2 x e y:=⟨a.ext.trans m,m.af a.b0 (λh=>h),m.af a.b1 (λh=>h),m.af a.b2 (λh=>h)⟩
theorem D3.set {c:Nat}{v:J0}{x':bG}{K:aa->Prop}(a:D3 h hh T0 T1 T2 x e y)(d:c<12)(f:x.c.setIfInBounds c v=x'.c)(g: ∀h',D3 h h' T0 T1 T2 x' e y->K h'):ab hh ((⟨h.size,0,none⟩:Q6).add c) v K:=
 ab.bM a.b0 d f λh' i m s=>g h' ⟨a.ext.more m λb j=>by subst j;exact A0 _,i,m.af a.b1 (by omega),m.af a.b2 (by omega)⟩
theorem D3.ij {j:Nat}{v:J0}{x':bG}{K:aa->Prop}(d:D3 h hh T0 T1 T2 x e y)(f:j<12)(g:x.c.setIfInBounds j v=x'.c)(i: ∀a,D3 h a T0 T1 T2 x' e y->Mod (λc=>c=h.size) hh a->K a):ab hh ((⟨h.size,0,none⟩:Q6).add j) v K:=
 ab.bM d.b0 f g λa k m s=>i a ⟨d.ext.more m λb l=>by subst l;exact A0 _,k,m.af d.b1 (by omega),m.af d.b2 (by omega)⟩ m
theorem D3.oI {v:J0}{x':bG}{K:aa->Prop}(b:D3 h hh T0 T1 T2 x e y)(d:x.c.setIfInBounds 0 v=x'.c)(f: ∀a,D3 h a T0 T1 T2 x' e y->Mod (λc=>c=h.size) hh a->K a):ab hh (⟨h.size,0,none⟩:Q6) v K:=
 b.ij (j:=0) (by decide) d f
theorem D3.cH {j:Nat}{v:J0}(a:D3 h hh T0 T1 T2 x e y)(b:x.c[j]? =some v):ag hh ((⟨h.size,0,none⟩:Q6).add j)=some v:=AB a.b0 b
theorem D3.bM {j:Nat}{v:J0}(a:D3 h hh T0 T1 T2 x e y)(b:e.c[j]? =some v):ag hh ((⟨h.size+1,0,none⟩:Q6).add j)=some v:=AB a.b1 b
theorem Et {h:aa}{b:Nat}{T:Q7}{fr:Nat×Nat}{x:bG}(a:h[b]? =some (J2 x.c T fr)):Cells h ⟨b,0,none⟩ x.l:=Dz a rfl
theorem P7 {h:aa}{b:Nat}{T:Q7}{fr:Nat×Nat}{x:Ev}(a:h[b]? =some (J2 x.c T fr)):Cells h ⟨b,0,none⟩ x.l:=Dz a rfl
theorem Ob(x y:bG):ZM y.c 0 x.l=x.c:=rfl
theorem pA(x y:Ev):ZM y.c 0 x.l=x.c:=rfl
theorem pB(x y:bO):ZM y.c 0 x.l=x.c:=rfl
theorem D3.jg(a:D3 h hh T0 T1 T2 x e y):ag hh (⟨h.size,0,none⟩:Q6)=some (J4 x.steps.p x.steps.len x.steps.cap)/\ag hh ((⟨h.size,0,none⟩:Q6).add 1)=some (J6 J9 x.aw)/\ag hh ((⟨h.size,0,none⟩:Q6).add 2)=some (J6 J9 x.status)/\ag hh ((⟨h.size,0,none⟩:Q6).add 3)=some (J6 J9 x.next)/\ag hh ((⟨h.size,0,none⟩:Q6).add 4)=some (J6 J9 x.aX)/\ag hh ((⟨h.size,0,none⟩:Q6).add 5)=some (J6 J9 x.asked)/\ag hh ((⟨h.size,0,none⟩:Q6).add 6)=some (J6 J9 x.taken)/\ag hh ((⟨h.size,0,none⟩:Q6).add 7)=some (J3 x.fresh)/\ag hh ((⟨h.size,0,none⟩:Q6).add 8)=some (J4 x.ar.p x.ar.len x.ar.cap)/\ag hh ((⟨h.size,0,none⟩:Q6).add 9)=some (J4 x.aj.p x.aj.len x.aj.cap)/\ag hh ((⟨h.size,0,none⟩:Q6).add 10)=some (J3 x.cancel)/\ag hh ((⟨h.size,0,none⟩:Q6).add 11)=some (J3 x.aQ):=
 ⟨a.cH (j:=0) rfl,a.cH (j:=1) rfl,a.cH (j:=2) rfl,a.cH (j:=3) rfl,a.cH (j:=4) rfl,a.cH (j:=5) rfl,a.cH (j:=6) rfl,a.cH (j:=7) rfl,a.cH (j:=8) rfl,a.cH (j:=9) rfl,a.cH (j:=10) rfl,a.cH (j:=11) rfl⟩
theorem D3.eQ {K:bG->Prop}(a:D3 h hh T0 T1 T2 x e y)(b:K x):Aw hh ⟨h.size,0,none⟩ K:=Aw.mk x (Et a.b0) b
theorem D3.jX {K:Ev->Prop}(a:D3 h hh T0 T1 T2 x e y)(b:K e):NI hh ⟨h.size+1,0,none⟩ K:=NI.mk e (P7 a.b1) b
theorem D3.mC {z:bG}{K:aa->Prop}(d:D3 h hh T0 T1 T2 x e y)(g: ∀a,D3 h a T0 T1 T2 z e y->Mod (λc=>c=h.size) hh a->K a):aN hh ⟨h.size,0,none⟩ z.l K:=
 aN.mk d.b0 (A0 12) λa f m s=>g a ⟨d.ext.more m λb i=>by subst i;exact A0 _,(by rw[Ob] at f;exact f),m.af d.b1 (by omega),m.af d.b2 (by omega)⟩ m
theorem D3.tell {z:bG}{K:bG->aa->Prop}(c:D3 h hh T0 T1 T2 x e y)(g: ∀a,Ext h a->K z a):aN hh ⟨h.size+2,0,none⟩ z.l λd=>Aw d ⟨h.size+2,0,none⟩ λi=>K i d:=
 aN.mk c.b2 (A0 12) λa f m s=>Aw.mk z (Et (by rw[Ob] at f;exact f)) (g a (c.ext.more m λb j=>by subst j;omega))
theorem D3.iH {z:bG}{K:bG->aa->Prop}(d:D3 h hh T0 T1 T2 x e y)(i: ∀a,Ext h a->Mod (λc=>c=h.size+2) hh a->K z a):aN hh ⟨h.size+2,0,none⟩ z.l λf=>Aw f ⟨h.size+2,0,none⟩ λj=>K j f:=
 aN.mk d.b2 (A0 12) λa g m s=>Aw.mk z (Et (by rw[Ob] at g;exact g)) (i a (d.ext.more m λb k=>by subst k;omega) m)
theorem D3.ret {K:bG->aa->Prop}(a:D3 h hh T0 T1 T2 x e y)(d: ∀b,Ext h b->K x b):Aw hh ⟨h.size,0,none⟩ λt=>aN hh ⟨h.size+2,0,none⟩ t.l λc=>Aw c ⟨h.size+2,0,none⟩ λf=>K f c:=
 a.eQ (a.tell d)
theorem D3.oJ {K:bG->aa->Prop}(b:D3 h hh T0 T1 T2 x e y)(f: ∀a,Ext h a->Mod (λc=>c=h.size+2) hh a->K x a):Aw hh ⟨h.size,0,none⟩ λt=>aN hh ⟨h.size+2,0,none⟩ t.l λd=>Aw d ⟨h.size+2,0,none⟩ λg=>K g d:=
 b.eQ (b.iH f)
theorem AHq {s:aZ}{a b c:Sl}(T:2<=e.kind/\e.kind<=5)(C: ∀n,Ext h n->R (J1 #[(((Dj s e).getD s).V a b c).v,J3 (Dj s e).isSome]) n):AA A P Lg #[(s.V a b c).v,e.v] h R:=by
 refine XM ?_;unfold Py;refine lC λH d=>?_
 refine ah.mk λK I=>ah.mk λJ L=>?_
 have v: ∀ {t:aZ} {hh:aa},D3 h hh Ao BC Ao (t.V a b c) e bG.z->Dj s e=some t->K () hh:=λ{t hh} d hd=>by
  refine I _ _ (d.ret λn x=>?_);have:=C n x;rw[hd] at this;exact this
 have no: ∀ {hh:aa},D3 h hh Ao BC Ao (s.V a b c) e bG.z->Dj s e=none->Aw hh ⟨h.size,0,none⟩ λt=>aN hh ⟨h.size+2,0,none⟩ t.l λD=>Aw D ⟨h.size+2,0,none⟩ λM=>R (J1 #[M.v,J3 false]) D:=λ{hh} d hd=>by
  refine d.ret λn x=>?_
  have:=C n x;rw[hd] at this;exact this
 have key: ∀(o:Bool),(e.kind=2->(o=true↔s.asked=0/\s.taken=0/\s.fresh=true))->(e.kind≠2->o=false)->J (o,()) H:=λo E N=>by
  refine L _ _ (ae.intro (λk=>?_) (λk=>?_))
  ·have k:o=true:=k;have g:e.kind=2:=Decidable.byContradiction λh=>by rw[N h] at k;cases k
   refine AC.mk (d.bM (j:=0) rfl) (d.set (x':=({s with asked:=e.id}:aZ).V a b c) (by decide) rfl λz m=>v m ?_);unfold Dj;rw[if_pos g,if_pos ((E g).1 k)]
  ·have k:o=false:=k;refine ah.mk λU F=>AC.mk (d.bM (j:=1) rfl) (ae.intro (λi=>?_) (λi=>?_))
   ·have i:e.kind=3:=by simpa using i
    refine AC.mk (d.cH (j:=5) rfl) (AC.mk (d.bM (j:=3) rfl) (F _ _ (ae.intro (λf=>?_) (λf=>?_))))
    ·have f:s.asked=e.ref:=by simpa using f
     refine AC.mk (d.bM (j:=0) rfl) (d.set (x':=({s with asked:=0}:aZ).V a b c) (by decide) rfl λz m=>⟨m.bM (j:=0) rfl,?_⟩);refine m.set (x':=({s with asked:=0,taken:=e.id}:aZ).V a b c) (by decide) rfl λO B=>B.set (x':=({s with asked:=0,taken:=e.id,fresh:=false}:aZ).V a b c) (by decide) rfl λV Q=>v Q ?_
     unfold Dj;rw[if_neg (by omega),if_pos i,if_pos f]
    ·have f:s.asked≠e.ref:=by simpa using f
     refine ah.mk λS w=>AC.mk (d.bM (j:=1) rfl) (ae.no (by simp[i]) (w _ _ (ae.no rfl ?_)))
     refine ah.mk λG p=>AC.mk (d.bM (j:=1) rfl) (ae.no (by simp[i]) (p _ _ (ae.no rfl (no d ?_))))
     unfold Dj;rw[if_neg (by omega),if_pos i,if_neg f]
   ·have i:e.kind≠3:=by simpa using i
    refine F _ _ (ae.no rfl (ah.mk λS w=>AC.mk (d.bM (j:=1) rfl) (ae.intro (λl=>?_) (λl=>?_))))
    ·have l:e.kind=4:=by simpa using l
     refine AC.mk (d.cH (j:=6) rfl) (AC.mk (d.bM (j:=3) rfl) (w _ _ (ae.intro (λf=>?_) (λf=>?_))))
     ·have f:s.taken=e.ref:=by simpa using f
      refine d.set (x':=({s with taken:=0}:aZ).V a b c) (by decide) rfl λz m=>v m ?_
      unfold Dj;rw[if_neg (by omega),if_neg i,if_pos l,if_pos f]
     ·have f:s.taken≠e.ref:=by simpa using f
      refine ah.mk λG p=>AC.mk (d.bM (j:=1) rfl) (ae.no (by simp[l]) (p _ _ (ae.no rfl (no d ?_))))
      unfold Dj;rw[if_neg (by omega),if_neg i,if_pos l,if_neg f]
    ·have l:e.kind≠4:=by simpa using l
     refine w _ _ (ae.no rfl (ah.mk λG p=>AC.mk (d.bM (j:=1) rfl) (ae.intro (λu=>?_) (λu=>?_))))
     ·have u:e.kind=5:=by simpa using u
      refine AC.mk (d.cH (j:=6) rfl) (AC.mk (d.bM (j:=3) rfl) (p _ _ (ae.intro (λf=>?_) (λf=>?_))))
      ·have f:s.taken=e.ref:=by simpa using f
       refine d.set (x':=({s with taken:=0}:aZ).V a b c) (by decide) rfl λz m=>m.set (x':=({s with taken:=0,fresh:=true}:aZ).V a b c) (by decide) rfl λO B=>v B ?_
       unfold Dj;rw[if_neg (by omega),if_neg i,if_neg l,if_pos f]
      ·have f:s.taken≠e.ref:=by simpa using f
       refine no d ?_;unfold Dj;rw[if_neg (by omega),if_neg i,if_neg l,if_neg f]
     ·have u:e.kind≠5:=by simpa using u
      have g:e.kind=2:=by omega
      refine p _ _ (ae.no rfl (no d ?_));unfold Dj;rw[if_pos g,if_neg λh=>by rw[(E g).2 h] at k;cases k]
 refine AC.mk (d.bM (j:=1) rfl) (ae.intro (λg=>?_) (λg=>key _ (λh=>by simp[h] at g) λ_=>rfl));have g:e.kind=2:=by simpa using g
 refine AC.mk (d.cH (j:=5) rfl) (ae.intro (λq=>?_) (λq=>key _ (λ_=>by simp at q;simp[q]) λh=>absurd g h));have q:s.asked=0:=by simpa using q
 refine AC.mk (d.cH (j:=6) rfl) (ae.intro (λr=>?_) (λr=>key _ (λ_=>by simp at r;simp[r]) λh=>absurd g h));have r:s.taken=0:=by simpa using r
 exact Aa.mk (d.cH (j:=7) rfl) (key _ (λ_=>by simp[q,r]) λh=>absurd g h)
theorem Ws {s:aZ}{a b c:Sl}{d:Int}(k: ∀g,Ext h g->R ((ia s d).V a ⟨none,0,0⟩ ⟨none,0,0⟩).v g):AA A P IU #[(s.V a b c).v,J6 J9 d] h R:=by
 refine AC4 ?_;unfold Vg;refine ak.mk λJ _ l n K=>ak.mk λL _ o i M=>?_
 have p:=i.af l (λh=>h);refine ab.bM (dS:=(({s with status:=d}:aZ).V a b c).c) p (of_decide_eq_true rfl) rfl λN q r _=>?_
 refine ab.bM (dS:=(({s with status:=d,asked:=0}:aZ).V a b c).c) q (of_decide_eq_true rfl) rfl λO t u _=>?_
 refine ab.bM (dS:=(({s with status:=d,asked:=0,taken:=0}:aZ).V a b c).c) t (of_decide_eq_true rfl) rfl λQ v w _=>?_
 refine ab.bM (dS:=(({s with status:=d,asked:=0,taken:=0,fresh:=false}:aZ).V a b c).c) v (of_decide_eq_true rfl) rfl λS z B _=>?_
 refine ab.bM (dS:=(({s with status:=d,asked:=0,taken:=0,fresh:=false}:aZ).V a ⟨none,0,0⟩ c).c) z (of_decide_eq_true rfl) rfl λT C D _=>?_
 refine ab.bM (dS:=(({s with status:=d,asked:=0,taken:=0,fresh:=false}:aZ).V a ⟨none,0,0⟩ ⟨none,0,0⟩).c) C (of_decide_eq_true rfl) rfl λU E F _=>?_
 have m:=((((r.trans u).trans w).trans B).trans D).trans F;have G:=m.af o (by omega);refine Aw.mk (({s with status:=d,asked:=0,taken:=0,fresh:=false}:aZ).V a ⟨none,0,0⟩ ⟨none,0,0⟩) (Et E) ?_;refine aN.mk G (A0 12) λH j I V=>Aw.mk _ (Et (by rw[Ob] at j;exact j)) (k H ?_)
 exact((n.trans i).more m λc f=>by subst f;exact A0 _).more I λc f=>by subst f;omega
theorem pC {s:aZ}{a b c:Sl}(k:b.len=s.ar.length)(l: ∀j,Ext h j->R (J3 (decide (Oa s))) j):AA A P KX #[(s.V a b c).v] h R:=by
 refine ADo ?_;unfold YW;refine ak.mk λm _ i n o=>?_
 have g:=l m n;refine AC.mk (AB i rfl) (ae.intro (λd=>?_) (λd=>?_))
 ·have d:s.asked=0:=by simpa using d
  refine AC.mk (AB i rfl) (ae.intro (λf=>?_) (λf=>?_))
  ·have f:s.taken=0:=by simpa using f
   refine AY.mk (s:=b) (AB i rfl) ?_;have e:decide (Oa s)=(((b.len:Nat):Int)==(0:Int)):=by rw[k,DH];simp[Oa,d,f,Vc]
   rw[e] at g;exact g
  ·have f:s.taken≠0:=by simpa using f
   rw[show decide (Oa s)=false from by simp[Oa,f]] at g;exact g
 ·have d:s.asked≠0:=by simpa using d
  rw[show decide (Oa s)=false from by simp[Oa,d]] at g;exact g
end
end Go.Lf.G
namespace Go.Lf
open Go
structure De (s:aZ) (n:Nat):Prop where
 ar:s.ar.length<=n
 aj:s.aj.length<=n
 steps:s.prog.steps.length<=16
 aw:0<=s.prog.aw/\s.prog.aw<=16000
 aX:0<=s.aX/\s.aX<=1099511627776
 next:0<=s.next/\s.next<=501
 st:0<=s.status/\s.status<=4
 waits: ∀x∈s.prog.steps,0<=x.wait/\x.wait<=1000
theorem De.zero:De Qs 0:=⟨by decide,by decide,by decide,by decide,by decide,by decide,by decide,λx a=>by cases a⟩
theorem APS {x:bO}(a:MS x=true):0<=x.wait/\x.wait<=1000:=by
 unfold MS at a
 repeat' split at a
 all_goals first|(simp only[A3,Cp,decide_eq_true_eq,BR] at a;omega)|cases a
theorem Qz {a:Ev}(d:EX a=true):(1<=a.kind/\a.kind<=18)/\(1<=a.id/\a.id<=500)/\(0<=a.tick/\a.tick<=1099511627776)/\(a.kind=1-> ∃p,JD (bl a.data)=some p/\Fx p=true)/\(a.kind=12->Au a.data=true):=by
 unfold EX at d;rw[A3] at d;obtain⟨c,b⟩:=d;simp only[Ed,A3] at c;refine⟨BR.1 c.1.1.1.1.1.1.1,BR.1 c.1.1.1.1.1.1.2,BR.1 c.1.1.1.1.1.2,λe=>?_,λe=>?_⟩
 ·unfold KR at b;rw[if_pos e] at b;obtain⟨p,f⟩:=Option.isSome_iff_exists.1 b;exact⟨p,f,(uV f).1⟩
 ·unfold KR at b;rw[if_neg (by omega),if_pos e] at b;exact b
theorem we {p:ct}(a:Fx p=true):p.steps.length<=16/\(0<=p.aw/\p.aw<=16000)/\ ∀x∈p.steps,MS x=true:=by simp only[Fx,A3,decide_eq_true_eq,CI] at a;exact⟨a.1.1,BR.1 a.1.2,a.2⟩
structure lT (s t:aZ):Prop where
 prog:t.prog=s.prog
 next:t.next=s.next
 aX:t.aX=s.aX
theorem Pj {s t:aZ}{b:Ev}(a:Dj s b=some t):lT s t/\t.ar=s.ar/\t.aj=s.aj/\t.status=s.status:=by
 unfold Dj at a
 repeat' split at a
 all_goals first|(cases a;exact⟨⟨rfl,rfl,rfl⟩,rfl,rfl,rfl⟩)|cases a
theorem wg {s t:aZ}{b:Ev}(a:Jg s b=some t):lT s t/\(t.ar=s.ar\/t.ar= [])/\(t.aj=s.aj\/t.aj= [])/\(t.status=s.status\/(1<=t.status/\t.status<=4)):=by
 unfold Jg at a
 repeat' split at a
 all_goals first|(cases a;first|exact⟨⟨rfl,rfl,rfl⟩,.inl rfl,.inl rfl,.inl rfl⟩|exact⟨⟨rfl,rfl,rfl⟩,.inr rfl,.inr rfl,.inr (by simp only[ia];omega)⟩)|cases a
theorem wh {s t:aZ}{b:Ev}(a:LD s b=some t):lT s t/\t.ar.length<=s.ar.length+1/\t.aj=s.aj/\t.status=s.status:=by
 unfold LD at a;split at a
 ·obtain⟨x,c,a⟩:=Option.bind_eq_some_iff.1 a;split at a
  ·cases a
  ·cases a;exact⟨⟨rfl,rfl,rfl⟩,by simp,rfl,rfl⟩
 ·obtain⟨i,d,a⟩:=Option.bind_eq_some_iff.1 a;obtain⟨e,f,a⟩:=Option.bind_eq_some_iff.1 a
  repeat' split at a
  all_goals first|(cases a;exact⟨⟨rfl,rfl,rfl⟩,by first|(simp only[RC];omega)|(have:=A0B s.ar i;simp only;omega),rfl,rfl⟩)|cases a
theorem wk {s t:aZ}{b:Ev}(a:Jt s b=some t):lT s t/\t.ar=s.ar/\t.aj.length<=s.aj.length+1/\t.status=s.status:=by
 unfold Jt at a;split at a
 ·obtain⟨x,c,rfl⟩:=Option.map_eq_some_iff.1 a;exact⟨⟨rfl,rfl,rfl⟩,rfl,by simp,rfl⟩
 ·obtain⟨i,d,rfl⟩:=Option.map_eq_some_iff.1 a;exact⟨⟨rfl,rfl,rfl⟩,rfl,by have:=A0B s.aj i;simp only;omega,rfl⟩
theorem AJh {s t:aZ}{g:Ev}(a:OT s g=some t): ∃u:aZ,t= {u with next:=s.next+1}/\lT s u/\u.ar.length<=s.ar.length+1/\u.aj.length<=s.aj.length+1/\(u.status=s.status\/(1<=u.status/\u.status<=4)):=by
 unfold OT at a;obtain⟨u,b,rfl⟩:=Option.map_eq_some_iff.1 a;refine⟨u,rfl,?_⟩;split at b
 ·obtain⟨c,d,e,f⟩:=Pj b;exact⟨c,by rw[d];omega,by rw[e];omega,.inl f⟩
 ·split at b
  ·obtain⟨c,d,e,f⟩:=wh b;exact⟨c,d,by rw[e];omega,.inl f⟩
  ·split at b
   ·obtain⟨c,d,e,f⟩:=wk b;exact⟨c,by rw[d];omega,e,.inl f⟩
   ·obtain⟨c,d,e,f⟩:=wg b;exact⟨c,by rcases d with a|a<;>rw[a]<;>simp,by rcases e with a|a<;>rw[a]<;>simp,f⟩
theorem TD {s:aZ}{c:Ev}{g:Nat}(b:De s g)(a:(Bh s c).1=0):De (Bh s c).2 (g+1):=by
 have ok:=QE a;obtain⟨w,y,j,k,_⟩:=Qz ok;unfold Bh at a ⊢;rw[if_neg (by simp[ok])] at a ⊢;split at a
 ·rename_i f;rw[if_pos f];split at a
  ·rename_i d;rw[if_pos d];obtain⟨p,l,m⟩:=k d.1;obtain⟨n,o,q⟩:=we m;show De (WU c) _;unfold WU;rw[l,JT];exact⟨AD _,AD _,n,o,j,by show(0:Int)<=2/\(2:Int)<=501;omega,by show(0:Int)<=0/\(0:Int)<=4;omega,λx r=>APS (q x r)⟩
  ·cases a
 ·rename_i f;rw[if_neg f];split at a
  ·cases a
  ·rename_i d;rw[if_neg d];split at a
   ·cases a
   ·rename_i h;rw[if_neg h];have z:c.id=s.next:=by simpa using h
    cases i:OT s c with
    |none=>rw[i] at a;cases a
    |some t=>
     obtain⟨u,rfl,e,A,B,v⟩:=AJh i;have C:=b.ar;have D:=b.aj;exact⟨by show u.ar.length<=_;omega,by show u.aj.length<=_;omega,by show u.prog.steps.length<=_;rw[e.prog];exact b.steps,by show 0<=u.prog.aw/\_;rw[e.prog];exact b.aw,by show 0<=u.aX/\_;rw[e.aX];exact b.aX,by show 0<=s.next+1/\s.next+1<=501;omega,by
      have:=b.st;show 0<=u.status/\u.status<=4;rcases v with a|a<;>omega,by show ∀x∈u.prog.steps,_;rw[e.prog];exact b.waits⟩
theorem wm: ∀ {l:List Ev} {s t:aZ} {a:Nat},De s a->ET s l=some t->De t (a+l.length)
 | [],s,t,a,c,b=>by cases b;exact c
 |e::l,s,t,a,c,b=>by
  rw[ET] at b;split at b
  ·rename_i d;have:=wm (TD c d) b;rw[A5];rw[show a+(l.length+1)=a+1+l.length from by omega];exact this
  ·cases b
end Go.Lf
namespace Go.Lf
open Go
variable {α : Type} {E : cz α} {A : al} {P : Q1}
theorem Mod.mod {d:Nat->Prop}{b c:aa}(a:Mod (λ_=>False) b c):Mod d b c:=a.ai λ_ _ b=>b.elim
def wo(A:al)(P:Q1)(t f:Q7)(c:Nat)(s:Sl)(i:Int)(b:Int)(d:aa)(e:A2O):Prop:=
 aH ((0:Int)<=((s.len:Nat):Int)/\((s.len:Nat):Int)<=((s.cap:Nat):Int))<|
 aH ((0:Int)<=b/\b<=(((((s.len:Nat):Int).toNat):Nat):Int))<|
 aH ((0:Int)<=i/\i<=((b.toNat:Nat):Int))<|
 ae (i==b) (
  e (.slice s.p s.len s.cap) d) (
  aH ((0:Int)<=i/\i<=((s.cap:Nat):Int))<|
  aH ((0:Int)<=b/\b<=((s.len:Nat):Int))<|
  BI A P (Builtin.append_ #[t,t] t #[.slice (A7 s.p s.cap 0 c) (i.toNat-0) (s.cap-0),.slice (A7 s.p s.cap b.toNat c) (s.len-b.toNat) (s.cap-b.toNat)]) d λv g=> ∃a:Sl,v= .slice a.p a.len a.cap/\(
  aH ((0:Int)<=((s.len:Nat):Int)/\((s.len:Nat):Int)<=((a.cap:Nat):Int))<|
  aH ((0:Int)<=((a.len:Nat):Int)/\((a.len:Nat):Int)<=((((s.len:Nat):Int).toNat:Nat):Int))<|
  BI A P (Builtin.clear_ #[t] f #[.slice (A7 a.p a.cap (((a.len:Nat):Int).toNat) c) ((((s.len:Nat):Int).toNat)-(((a.len:Nat):Int).toNat)) (a.cap-(((a.len:Nat):Int).toNat))]) g λv1 h=>v1= .tuple #[]/\(
  e (.slice a.p a.len a.cap) h)))
theorem ARo {t m T:Q7}{a:J0}(o:P.underlying t=some (.slice T))(p:(zeroValue T).calc P=some a)(f: ∀v∈a.cells.toList,LP v=true){d:aa}{b e q:Nat}{g:Array J0}{K:A2O}
  (h:d[b]? =some (.cells g T (0,0))) (B:e+a.cells.size<=g.size)
  (r: ∀c,c[b]? =some (.cells (gR g e a.cells.toList) T (0,0))->Mod (· =b) d c->c.size=d.size->K (.tuple #[]) c):
  BI A P (Builtin.clear_ #[t] m #[.slice (some ⟨b,e,none⟩) 1 q]) d K:=by
 intro n;have s:(Builtin.zeroCells a.cells 1).toList=a.cells.toList:=by
  unfold Builtin.zeroCells;rw[Of];apply List.ext_getElem
  ·simp
  ·intro i f C;simp at f;simp[As f,f]
 have j:=run_storeCells_cells (P:=P) b e a.cells.toList 0 (A.at d n)
  (λk l=>by
   show(ag d ⟨b,e+0+k,none⟩).isSome=true;rw[Hl h,CD (by simp at l;omega)];rfl)
  (λk l=>Og h) (λv u=>Ou (f v u))
 obtain⟨c,w,x,y,z⟩:=cS (A:=A) a.cells.toList e (n:=n) h;rw[Gk,w] at j;refine⟨.tuple #[],c,n,?_,r c x y z⟩;simp[Builtin.clear_,BH o,DR p,s,j,Result.andThen]
theorem AMb {l:List α}{a:Nat}:(l.flatMap E.enc).take (a*E.w)=(l.take a).flatMap E.enc:=by
 induction l generalizing a with
 |nil=>simp
 |cons x l b=>
  cases a with
  |zero=>simp
  |succ a=>
   rw[AH,HX,AH,Lq,E.len,AG (by rw[E.len,BW];omega),BW,Of,Kp,b]
theorem AMf {l:List α}{a:Nat}:(l.flatMap E.enc).drop (a*E.w)=(l.drop a).flatMap E.enc:=by
 induction l generalizing a with
 |nil=>simp
 |cons x l b=>
  cases a with
  |zero=>simp
  |succ a=>
   rw[AH,HS,R2,E.len,HE (by rw[E.len,BW];omega),BW,Of,Kp,b,DA]
theorem wq {t R T:Q7}{zv:J0}{S:Nat}(U:Pi P t T E.w S=true)(V:(zeroValue T).calc P=some zv)(W: ∀v∈zv.cells.toList,LP v=true)(F:zv.cells.size=E.w){c:aa}{s:Sl}{l:List α}{i:Nat}{G:A2O}
  (H:Own E T c s l) (I:i<l.length)
  (X: ∀w,Own E T w ⟨s.p,l.length-1,s.cap⟩ (l.eraseIdx i)->Mod (λb=>s.af=some b) c w->G (.slice s.p (l.length-1) s.cap) w):wo A P t R E.w s (i:Int) ((i+1:Nat):Int) c G:=by
 obtain⟨J,Y,z,Z,aA,y,aC,aD⟩:=Zm U;have K:=H.len;rcases H.row with⟨rfl,rfl⟩|⟨g,o,h,B,ab,ac,k,L⟩
 ·simp at I
 have ad:s.len*E.w<=s.cap*E.w:=AS _ ab;unfold wo;refine⟨⟨by omega,by omega⟩,⟨by omega,by omega⟩,⟨by omega,by omega⟩,ae.no (by simp;omega) ⟨⟨by omega,by omega⟩,⟨by omega,by omega⟩,?_⟩⟩;rw[A6,A6,A6,HD,HD];have af:A7 s.p s.cap 0 E.w=some ⟨g,0,none⟩:=by unfold A7;rw[if_neg (by omega),h];simp[Ba]
 rw[af]
 let m:=s.len-(i+1)
 let f:List J0:=(l.drop (i+1)).flatMap E.enc
 have nl:f.length=m*E.w:=by simp only[f,m];rw[Jh,DG,K]
 obtain⟨a,ah,ai⟩: ∃a,A7 s.p s.cap (i+1) E.w=some a/\ ∀j u,f[j]? =some u->(A.at c 0).cell? (a.add j)=some u:=by
  unfold A7;by_cases M:s.cap=i+1
  ·rw[if_pos M,h];refine⟨_,rfl,λj u d=>?_⟩;have:m=0:=by simp only[m];omega
   have d:=(List.getElem?_eq_some_iff.1 d).1;rw[nl,this] at d;omega
  ·rw[if_neg M,h];refine⟨_,rfl,λj u d=>?_⟩;show ag c ((Addr.add ⟨g,0,none⟩ ((i+1)*E.w)).add j)=some u;rw[Ba,Ba,AI,Hl B];simp only[f] at d;rw[<- AMf,Bs,<-L,Fo] at d;split at d
   ·simpa using d
   ·cases d
 rw[ah];intro p;have aj: ∀u∈f,u.oneCell'=true:=λu ak=>by
  obtain⟨x,_,al⟩:=List.mem_flatMap.1 ak;exact Ou (E.one x u al)
 have am:i*E.w+m*E.w<=s.cap*E.w:=by rw[<- BW];exact AS _ (by simp only[m];omega)
 have N:=run_append_room (P:=P) (A.at c p) t t T Y J Z g i s.cap o B a m (s.cap-(i+1)) f (by rw[nl,y]) (λj u d=>ai j u d) aj (by simp only[m];omega) (by rw[y,nl,k];exact am);rw[y] at N
 let e:Array J0:=(o.toList.take (i*E.w)++f++o.toList.drop (i*E.w+f.length)).toArray
 obtain⟨n,an,ao,ap,aE⟩: ∃n,(A.at c p).setRow g e=A.at n p/\n[g]? =some (.cells e T (0,0))/\Mod (· =g) c n/\n.size=c.size:=by
  refine⟨_,rfl,?_,⟨?_,λb q aq=>?_⟩,?_⟩
  ·show(c.modify g _)[g]? =_;rw[GP,if_pos rfl,B];rfl
  ·show c.size<=(c.modify g _).size;simp
  ·show(c.modify g _)[b]? =_;rw[GP,if_neg (Ne.symm aq)]
  ·show(c.modify g _).size=_;simp
 refine⟨_,n,p,N.trans (by rw[<- an]),⟨some ⟨g,0,none⟩,i+m,s.cap⟩,rfl,⟨by omega,by show((s.len:Nat):Int)<=((s.cap:Nat):Int);omega⟩,⟨by omega,by show((i+m:Nat):Int)<=_;simp only[m];omega⟩,?_⟩;have C:i+m=l.length-1:=by simp only[m];omega
 dsimp only[Int.toNat_natCast];rw[C];have ar:A7 (some ⟨g,0,none⟩) s.cap (l.length-1) E.w=some ⟨g,(l.length-1)*E.w,none⟩:=by unfold A7;rw[if_neg (by omega)];simp[Ba]
 rw[ar,show s.len-(l.length-1)=1 from by omega];have r:e.size=o.size:=by simp only[e,List.size_toArray,A1,AE,DG,DS];rw[nl];omega
 have O:(l.length-1)*E.w+E.w<=s.cap*E.w:=by rw[show(l.length-1)*E.w+E.w=l.length*E.w from by rw[<- Nat.succ_mul];congr 1;omega,<-K];exact ad
 refine ARo J V W ao (by rw[r,F,k];exact O) λQ au av aF=>⟨rfl,?_⟩
 rw[<- h];have aw:Mod (λb=>s.af=some b) c Q:=(ap.ai λb _ q=>by subst q;simp[Sl.af,h]).trans (av.ai λb _ q=>by subst q;simp[Sl.af,h]);refine X Q ⟨by rw[List.length_eraseIdx,if_pos I],.inr ⟨g,_,h,au,by show l.length-1<=s.cap;omega,ac,?_,?_⟩⟩ aw
 ·show(gR _ _ _).size=s.cap*E.w;rw[IQ,r,k]
 ·show(gR e ((l.length-1)*E.w) zv.cells.toList).toList.take ((l.length-1)*E.w)=_;have ax:zv.cells.toList.length=E.w:=by rw[DS,F]
  have D:e.size=s.cap*E.w:=by rw[r,k]
  rw[Nj _ _ _ (by rw[ax,D];exact O),A4,Lq];have ay:(l.length-1)*E.w<=e.toList.length:=by
   have D:e.toList.length=s.cap*E.w:=by rw[DS,r,k]
   rw[D];omega
  rw[AE,GO ay,My,It,AM,Ss,Nat.min_self];simp only[e];have az:i*E.w<=o.toList.length:=by rw[DS,k];omega
  rw[A4,Lq,AE,GO az,AG (by rw[AE,<-C,BW];omega)];rw[<- C,BW,V0,<-nl,Lq,My,It,AM,AG (A0 _)];rw[List.eraseIdx_eq_take_drop_succ,GC,<-AMb,<-L,Ss,GO (AS _ (by omega))]
end Go.Lf
namespace Go.Lf.G
open Go
theorem od {s:A2P}:bL s (⟨#[]⟩:A2P)=decide (s=Ha):=CY
theorem wY {s:A2P}:s=Ha↔s.size=0:=by
 constructor
 ·rintro rfl;rfl
 ·intro a;have:bl s= []:=CC (by rw[BA];exact a);rw[<- EE s];show AX (bl s)=_;rw[this];rfl
theorem Fb {y:al}{g:aa}{s:A2P}{r:A2O}(e:r (J3 (Au s)) g):AA y P Bt #[J7 s] g r:=by
 refine AEA ?_;unfold Wn;rw[od];refine ah.mk λK z=>?_
 have key: ∀k:Bool,(k=true↔s.size=0\/16<s.size)->K (k,()) g:=λk t=>by
  refine z _ _ ?_;refine ae.intro (λa=>?_) (λa=>?_)
  ·have f:Au s=false:=by rw[SW];intro n;have:=Hm.1 n;have:=t.1 a;omega
   rw[f] at e;exact e
  have F: ¬(s.size=0\/16<s.size):=λb=>by have a:k=false:=a;rw[t.2 b] at a;cases a
  refine Loop.rule (λm x b=> ∃i:Nat,x=((i:Int),())/\b=g/\m=s.size-i/\i<=s.size/\ ∀c∈(bl s).take i,33<=c.toNat/\c.toNat<=126) ?_ ⟨0,rfl,rfl,rfl,by omega,by simp⟩;rintro G m _ b ⟨i,rfl,f,rfl,H,u⟩ A;subst b;refine ae.intro (λo=>?_) (λo=>?_)
  ·have p:i<s.size:=by simpa using o
   obtain⟨c,h⟩: ∃c,(bl s)[i]? =some c:=⟨_,A2 (by rw[BA];exact p)⟩;have B:c∈bl s:=AK h;dsimp only;rw[O7 h];refine ah.mk λC D=>⟨⟨by omega,by omega⟩,?_⟩
   have v: ∀l:Bool,(l=true↔ ¬(33<=c.toNat/\c.toNat<=126))->C (l,()) g:=λl w=>by
    refine D _ _ ?_;refine ae.intro (λa=>?_) (λa=>?_)
    ·have f:Au s=false:=by rw[SW];intro n;exact w.1 a ((Hm.1 n).2.2 c B)
     rw[f] at e;exact e
    ·rw[Ab (by omega)];refine A (s.size-(i+1)) _ _ (by omega) ⟨i+1,rfl,rfl,rfl,p,λx d=>?_⟩;rw[Ax,h,DM] at d;rcases List.mem_append.1 d with d|d
     ·exact u x d
     ·simp at d;subst d;have a:l=false:=a;exact Decidable.byContradiction λb=>by rw[w.2 b] at a;cases a
   refine ae.intro (λq=>v _ ⟨λ_=>by simp at q;omega,λ_=>rfl⟩) (λq=>⟨⟨by omega,by omega⟩,v _ ⟨λj=>by simp at j;omega,λj=>by simp at q;simp;omega⟩⟩)
  ·have p:i=s.size:=by simp at o;omega
   have f:Au s=true:=by rw[Hm];refine⟨by omega,by omega,λc h=>u c ?_⟩;rw[AG (by rw[BA];omega)];exact h
   rw[f] at e;exact e
 refine ae.intro (λa=>key _ ⟨λ_=> .inl (by simpa [wY] using a),λ_=>rfl⟩) (λa=>key _ ⟨λj=>by simp at j;omega,λj=>?_⟩);have a: ¬s.size=0:=λE=>by rw[decide_eq_false_iff_not] at a;exact a (wY.2 E)
 rw[decide_eq_true_eq];omega
theorem OZ {i:al}{g:aa}{a c b:Int}{h:A2O}(d:h (J3 (bU a c b)) g):AA i P Gb #[J6 J9 a,J6 J9 c,J6 J9 b] g h:=by
 refine ACF ?_;unfold VD;refine ae.intro (λe=>?_) (λe=>?_)
 ·have f:bU a c b=decide (a<=b):=by simp at e;unfold bU;rw[decide_eq_decide];omega
  rw[f] at d;exact d
 ·have f:bU a c b=false:=by simp at e;unfold bU;simp;omega
  rw[f] at d;exact d
def bO.fv(x:bO):List Fv:= [.i x.kind,.s x.name,.s x.aL,.i x.tries,.i x.az,.i x.wait]
theorem wZ:P.underlying Bg=some (.struct (P.fieldsOf Bg)):=by kernel_rfl
theorem xf(x:bO):qw P Bg (bO.fv x)=true:=by kernel_rfl
theorem ALv {q:al}{l:aa}{x:bO}{m:A2O}(r: ∀n,Ext l n->m (J3 (MS x)) n):
  AA q P Q3 #[.agg #[J6 J9 x.kind,J7 x.name,J7 x.aL,J6 J9 x.tries,J6 J9 x.az,J6 J9 x.wait]] l m:=by
 refine ADy ?_;unfold YJ;refine ak.mk λj _ a s _=>?_
 have b:=r j s;refine AC.mk (AL a rfl) ?_;unfold MS at b;refine ae.intro (λh=>?_) (λh=>?_)
 ·have h:x.kind=1:=by simpa using h
  rw[if_pos h] at b;refine ah.mk λK t=>?_
  have key:K (((decide (x.aL=Ha)&&decide (x.az=0))||(Au x.aL&&bU x.az 1 5)),()) j:=by
   refine t _ _ ?_;refine AJ.mk (AB a rfl) (Fb ⟨_,rfl,?_⟩);cases d:Au x.name with
   |false=>rw[d] at b;simpa [ae] using b
   |true=>
    refine ae.yes rfl (AC.mk (AB a rfl) (OZ ⟨_,rfl,?_⟩));cases o:bU x.tries 1 5 with
    |false=>rw[d,o] at b;simpa [ae] using b
    |true=>
     refine ae.yes rfl ?_;refine ae.intro (λc=>?_) (λc=>?_)
     ·refine AC.mk (AB a rfl) ?_;rw[d,o] at b;have c:((decide (x.aL=Ha)&&decide (x.az=0))||(Au x.aL&&bU x.az 1 5))=true:=c;rw[c] at b;have e:(x.wait==(0:Int))=decide (x.wait=0):=by by_cases u:x.wait=0<;>simp[u]
      rw[e];simpa using b
     ·have c:((decide (x.aL=Ha)&&decide (x.az=0))||(Au x.aL&&bU x.az 1 5))=false:=c;rw[c] at b;simpa using b
  have sub: ∀ {p:Bool},p=(Au x.aL&&bU x.az 1 5)->((decide (x.aL=Ha)&&decide (x.az=0))=false)->K (p,()) j:=λv w=>by
   rw[w,SZ,<-v] at key;exact key
  refine AJ.mk (AB a rfl) ?_;rw[od];refine ae.intro (λi=>?_) (λi=>?_)
  ·refine AC.mk (AB a rfl) ?_;refine ae.intro (λk=>?_) (λk=>?_)
   ·have e:decide (x.az=0)=true:=by simpa using k
    rw[i,e] at key;simpa using key
   ·have e:decide (x.az=0)=false:=by simpa using k
    refine AJ.mk (AB a rfl) (Fb ⟨_,rfl,?_⟩);refine ae.intro (λd=>?_) (λd=>?_)
    ·exact AC.mk (AB a rfl) (OZ ⟨_,rfl,sub (by rw[d,Ek]) (by rw[e,LI])⟩)
    ·exact sub (by rw[d,Ft]) (by rw[e,LI])
  ·refine AJ.mk (AB a rfl) (Fb ⟨_,rfl,?_⟩);refine ae.intro (λd=>?_) (λd=>?_)
   ·exact AC.mk (AB a rfl) (OZ ⟨_,rfl,sub (by rw[d,Ek]) (by rw[i,Ft])⟩)
   ·exact sub (by rw[d,Ft]) (by rw[i,Ft])
 ·have h:x.kind≠1:=by simpa using h
  rw[if_neg h] at b;refine ae.intro (λf=>?_) (λf=>?_)
  ·have f:x.kind=2:=by simpa using f
   rw[if_pos f] at b;refine AC.mk (AL a rfl) (AJ.mk (AB a rfl) (AJ.mk (AB a rfl) (AC.mk (AB a rfl) (AC.mk (AB a rfl) (AC.mk (AB a rfl) (AC.mk (AB a rfl) ?_))))));refine uW (xs:=bO.fv x) (ys:= [.i 2,.s Ha,.s Ha,.i 0,.i 0,.i x.wait]) wZ (xf x) rfl rfl rfl ⟨_,rfl,?_⟩;have e:decide (bO.fv x= [.i 2,.s Ha,.s Ha,.i 0,.i 0,.i x.wait])=(decide (x.name=Ha)&&decide (x.aL=Ha)&&decide (x.tries=0)&&decide (x.az=0)):=by rw[DH];simp[bO.fv,f,and_assoc]
   rw[e];refine ae.intro (λc=>?_) (λc=>?_)
   ·rw[c,Ek] at b;exact AC.mk (AB a rfl) (OZ ⟨_,rfl,b⟩)
   ·rw[c,Ft] at b;exact b
  ·have f:x.kind≠2:=by simpa using f
   rw[if_neg f] at b;refine ae.intro (λg=>?_) (λg=>?_)
   ·have g:x.kind=3:=by simpa using g
    rw[if_pos g] at b;refine AC.mk (AL a rfl) (AJ.mk (AB a rfl) (AJ.mk (AB a rfl) (AC.mk (AB a rfl) (AC.mk (AB a rfl) (AC.mk (AB a rfl) (AJ.mk (AB a rfl) ?_))))));refine uW (xs:=bO.fv x) (ys:= [.i 3,.s x.name,.s Ha,.i 0,.i 0,.i 0]) wZ (xf x) rfl rfl rfl ⟨_,rfl,?_⟩;have e:decide (bO.fv x= [.i 3,.s x.name,.s Ha,.i 0,.i 0,.i 0])=(decide (x.aL=Ha)&&decide (x.tries=0)&&decide (x.az=0)&&decide (x.wait=0)):=by rw[DH];simp[bO.fv,g,and_assoc]
    rw[e];refine ae.intro (λc=>?_) (λc=>?_)
    ·rw[c,Ek] at b;exact AJ.mk (AB a rfl) (Fb ⟨_,rfl,b⟩)
    ·rw[c,Ft] at b;exact b
   ·have g:x.kind≠3:=by simpa using g
    rw[if_neg g] at b;exact b
abbrev AOC(x:bO):Array J0:= #[J6 J9 x.kind,J7 x.name,J7 x.aL,J6 J9 x.tries,J6 J9 x.az,J6 J9 x.wait]
theorem xk:Pi P GY Bg Oh.w 64=true:=by kernel_rfl
theorem xl {b:aa}{a:Q6}{x:bO}(c:Cells b a (Oh.enc x)):ag b a=some (J6 J9 x.kind)/\ag b (a.add 1)=some (J7 x.name)/\ag b (a.add 2)=some (J7 x.aL)/\ag b (a.add 3)=some (J6 J9 x.tries)/\ag b (a.add 4)=some (J6 J9 x.az)/\ag b (a.add 5)=some (J6 J9 x.wait):=by refine⟨?_,c 1 _ rfl,c 2 _ rfl,c 3 _ rfl,c 4 _ rfl,c 5 _ rfl⟩;have:=c 0 _ rfl;rwa [add_zero] at this
theorem xn {E:al}{g:aa}{s:Sl}{p:ct}{y:A2O}(v:View Oh g s p.steps)(Z:p.steps.length<=1099511627776)(q: ∀z,Ext g z->y (J6 J9 (if Fx p then 0 else 130)) z):
  AA E P NY #[.agg #[J4 s.p s.len s.cap,J6 J9 p.aw]] g y:=by
 refine AD9 ?_;unfold X0;refine ak.mk λA _ h B _=>?_
 refine ah.mk λK F=>AY.mk (s:=s) (AL h rfl) ?_
 rw[v.len];have key: ∀l:Bool,(l=true↔ ¬(p.steps.length<=16/\bU p.aw 0 16000=true))->K (l,()) A:=λl C=>by
  refine F _ _ ?_;refine ae.intro (λd=>?_) (λd=>?_)
  ·have e:=q A B;rw[if_neg] at e
   ·exact e
   ·intro j;simp only[Fx,A3,decide_eq_true_eq] at j;exact C.1 d j.1
  have G:p.steps.length<=16/\bU p.aw 0 16000=true:=Decidable.byContradiction λk=>by
   have d:l=false:=d;rw[C.2 k] at d;cases d
  refine AY.mk (s:=s) (AL h rfl) ?_;refine Loop.rule (λm x k=> ∃i:Nat,x=((i:Int),())/\Ext g k/\m=p.steps.length-i/\i<=p.steps.length/\(p.steps.take i).all MS=true) ?_ ⟨0,rfl,B,rfl,by omega,rfl⟩;rintro ac m _ k ⟨i,rfl,n,rfl,ad,r⟩ H;rw[v.len];refine ae.intro (λt=>?_) (λt=>?_)
  ·have u:i<p.steps.length:=by simpa using t
   obtain⟨x,w⟩: ∃x,p.steps[i]? =some x:=⟨_,A2 u⟩;rw[<- v.len];refine(v.ext n).idx w λa _ c=>?_
   obtain⟨I,J,L,M,N,O⟩:=xl c;refine AC.mk I (AJ.mk J (AJ.mk L (AC.mk M (AC.mk N (AC.mk O ?_)))));refine ak.mk λQ _ R S _=>ab.oK R λT f U af=>?_
   refine AC.mk (AL f rfl) (AJ.mk (AB f rfl) (AJ.mk (AB f rfl) (AC.mk (AB f rfl) (AC.mk (AB f rfl) (AC.mk (AB f rfl) ?_)))));have V:Ext g T:=(n.trans S).more U λb h=>by subst h;exact n.size
   refine ALv (x:=x) λW X=>⟨_,rfl,?_⟩
   have D:=V.trans X;refine ae.intro (λo=>?_) (λo=>?_)
   ·have e:=q W D;rw[if_neg] at e
    ·exact e
    ·intro j;simp only[Fx,A3,decide_eq_true_eq,CI] at j;have:=j.2 x (AK w);rw[this] at o;cases o
   ·dsimp only;rw[Ab (by omega)];refine H (p.steps.length-(i+1)) _ _ (by omega) ⟨i+1,rfl,D,rfl,u,?_⟩;rw[Ax,w,DM,List.all_append,r];simpa using o
  ·have u:i=p.steps.length:=by simp at t;omega
   rw[AG (by omega)] at r;have e:=q k n;rw[if_pos (by simp only[Fx,A3,decide_eq_true_eq];exact⟨G,r⟩)] at e;exact e
 refine ae.intro (λd=>key _ ⟨λ_ Q=>by simp at d;omega,λ_=>rfl⟩) (λd=>?_);refine AC.mk (AB h rfl) (OZ ⟨_,rfl,key _ ?_⟩);have Y:p.steps.length<=16:=by simp at d;omega
 simp[Y]
structure WI (h:aa) (b rb b1:Nat) (lim:Int) (s:Sl) (l:List bO) (hh:aa) (r:Rd):Prop where
 ext:Ext h hh
 zero:hh[b]? =some (J2 #[J4 none 0 0,J6 J9 0] Ep (0,0))
 rd:Ir hh rb r
 var:hh[b1]? =some (J2 #[J4 s.p s.len s.cap,J6 J9 lim] Ep (0,0))
 own:Own Oh Bg hh s l
 fresh: ∀c,s.af=some c->h.size<=c/\c≠b/\c≠rb/\c≠b1
 ne:h.size<=b/\h.size<=rb/\h.size<=b1/\b≠rb/\b≠b1/\rb≠b1
theorem WI.read {g:aa}{b d h:Nat}{i:Int}{s:Sl}{l:List bO}{j e:aa}{n k:Rd}(a:WI g b d h i s l j n)(o:Ir e d k)(m:Mod (· =d) j e):WI g b d h i s l e k:=
 ⟨a.ext.more m λc f=>by subst f;exact a.ne.2.1,m.af a.zero a.ne.2.2.2.1,o,m.af a.var a.ne.2.2.2.2.2.symm,a.own.mod m λc f=>(a.fresh c f).2.2.1,a.fresh,a.ne⟩
theorem WI.other {e:aa}{b f g c:Nat}{i:Int}{s:Sl}{l:List bO}{j k:aa}{n:Rd}(a:WI e b f g i s l j n)(m:Mod (· =c) j k)(d:e.size<=c/\c≠b/\c≠f/\c≠g/\s.af≠some c):WI e b f g i s l k n:=
 ⟨a.ext.more m λo h=>by subst h;exact d.1,m.af a.zero d.2.1.symm,m.af a.rd d.2.2.1.symm,m.af a.var d.2.2.2.1.symm,a.own.mod m λo h p=>d.2.2.2.2 (by rw[h,p]),a.fresh,a.ne⟩
theorem WI.on {a:aa}{b d e:Nat}{f:Int}{s:Sl}{l:List bO}{g h:aa}{i:Rd}(c:WI a b d e f s l g i)(m:Ext g h):WI a b d e f s l h i:=
 ⟨c.ext.trans m,m.af c.zero (λa=>a),m.af c.rd (λa=>a),m.af c.var (λa=>a),c.own.ext m,c.fresh,c.ne⟩
theorem WI.new {d:aa}{b e f:Nat}{g:Int}{s:Sl}{l:List bO}{a:aa}{h:Rd}(c:WI d b e f g s l a h):d.size<=a.size/\a.size≠b/\a.size≠e/\a.size≠f/\s.af≠some a.size:=by
 refine⟨c.ext.size,?_,?_,?_,λi=>?_⟩
 ·have:=Af c.zero;omega
 ·have:=Af c.rd;omega
 ·have:=Af c.var;omega
 ·have:=c.own.lt i;omega
theorem AMF {bk bt bw:Nat}{all:Bool}(a:Rd):(ME bk bt bw all a).2.rest.length<=a.rest.length:=by
 have c:=Fh bk a;unfold ME;simp only;split
 ·have b:=(Ni (Bu bk a).2).1;have d:=Fh bt (FW (Bu bk a).2).2;have e:=(Ni (Bu bt (FW (Bu bk a).2).2).2).1;have f:=Fh bt (FW (Bu bt (FW (Bu bk a).2).2).2).2;simp only;omega
 ·split
  ·have b:=Fh bw (Bu bk a).2;simp only;omega
  ·split
   ·have b:=(Ni (Bu bk a).2).1;simp only;omega
   ·exact c
def xo(a:Option ct)(s:Sl):J0:=match a with
 |none=>J1 #[.agg #[J4 none 0 0,J6 J9 0],J6 J9 60]
 |some p=>J1 #[.agg #[J4 s.p s.len s.cap,J6 J9 p.aw],J6 J9 0]
theorem AJu {A:al}{h:aa}{l:List UInt8}{R:A2O}(bH:l.length<1099511627776)
  (aw: ∀S s,Ext h S->(∀ p,JD l=some p->View Oh S s p.steps/\ ∀c,s.af=some c->h.size<=c)->R (xo (JD l) s) S):AA A P Jj #[J7 (AX l)] h R:=by
 refine AC2 ?_;unfold VC;refine ak.mk λz _ ax ag aR=>?_
 refine KY λaS ai aj=>⟨_,rfl,?_⟩
 refine DW (most:=16000) ai (by simp;omega) (by decide) λT ay U=>⟨_,rfl,?_⟩
 refine ak.mk λbI _ az V aT=>ab.two az λaU aA W aV=>?_
 have bJ:z.size<aS.size:=Af ai;have bK:=U.size;have bL:=ag.size;have aC:WI h h.size z.size T.size ((Bu 16000 ⟨l,false⟩).1:Int) ⟨none,0,0⟩ [] aU (Bu 16000 ⟨l,false⟩).2:=by
  have aW:T[h.size]? =some (J2 #[J4 none 0 0,J6 J9 0] Ep (0,0)):=U.af (aj.af ax (λh=>h)) (by omega);have aX:=V.af ay (λh=>h);have aD:Ext h T:=(ag.trans aj).more U λc a=>by subst a;omega
  refine⟨(aD.trans V).more W λc a=>by subst a;exact aD.size,W.af (V.af aW (λh=>h)) (by omega),W.af aX (by omega),aA,Own.nil,λc a=>by simp[Sl.af] at a,by omega,by omega,by omega,by omega,by omega,by omega⟩
 have bM:(Bu 16000 ⟨l,false⟩).2.rest.length<=l.length:=Fh 16000 ⟨l,false⟩;refine DW (most:=16) aC.rd (by omega) (by decide) λbN aE aF=>⟨_,rfl,?_⟩
 have aY:=aC.read aE aF;have bP:=Fh 16 (Bu 16000 ⟨l,false⟩).2;generalize aZ:(Bu 16000 ⟨l,false⟩).1=i at*
 generalize a0:(Bu 16000 ⟨l,false⟩).2=u at*
 have a1:(Bu 16 u).1<=16:=by
  unfold Bu;split
  ·exact AD _
  ·split
   ·exact AD _
   ·omega
 have H:YE 16000 3 5 1000 false l=(⟨(Ho 3 5 1000 false (Bu 16 u).1 (Bu 16 u).2).1,i⟩,(Ho 3 5 1000 false (Bu 16 u).1 (Bu 16 u).2).2):=by simp only[YE,aZ,a0]
 generalize bQ:h.size=b at*
 generalize bR:z.size=I at*
 generalize B:T.size=J at*
 clear ax ai ay az aA ag aj V U W aF aR aT aV aE;refine Loop.rule (λm x am=> ∃(j:Nat) (s:Sl) (f:List bO) (d:Rd),x=((j:Int),())/\WI h b I J i s f am d/\m=j/\d.rest.length<=l.length/\f.length+j<=16/\
  YE 16000 3 5 1000 false l=(⟨f++(Ho 3 5 1000 false j d).1,i⟩,(Ho 3 5 1000 false j d).2)) ?_ ⟨(Bu 16 u).1,⟨none,0,0⟩,[],(Bu 16 u).2,rfl,aY,rfl,by omega,by simpa using a1,H⟩
 rintro K m _ am ⟨j,s,f,d,rfl,n,bS,bT,bU,H⟩ a2;refine ae.intro (λan=>?_) (λan=>?_)
 ·have aG:0<j:=by simp at an;omega
  obtain⟨k,rfl⟩: ∃k,j=k+1:=⟨j-1,by omega⟩;refine DW (most:=3) n.rd (by omega) (by decide) λao a3 a4=>⟨_,rfl,?_⟩
  have g:=n.read a3 a4;have bV:=Fh 3 d;refine ak.mk λX _ v a5 bW=>ab.oK v λa6 B a7 bX=>?_
  have a:=g.new;have w:=(g.on a5).other a7 a;generalize ao.size=a8 at*
  refine AC.mk (AL B rfl) ?_;refine ah.mk λa9 ba=>?_
  have Y: ∀(x:bO) (C:Rd) (o:aa),WI h b I J i s f o C->o[a8]? =some (J2 (AOC x) Bg (0,0))->ME 3 5 1000 false d=(x,C)->a9 () o:=λx C o e q r=>by
   refine ba _ _ ?_;refine AY.mk (s:=s) (AL e.var rfl) ?_;refine AC.mk (AL q rfl) (AJ.mk (AB q rfl) (AJ.mk (AB q rfl) (AC.mk (AB q rfl) (AC.mk (AB q rfl) (AC.mk (AB q rfl) ?_)))));refine ak.aY (E:=Oh) (x:=x) (s:=s) (l:=f) rfl xk e.own (by omega) (by simp[maxLen];omega) λaH S bb Z q bY=>?_
   have bc:s.af≠some J:=λa=>(e.fresh _ a).2.2.2 rfl
   have bd:s.af≠some b:=λa=>(e.fresh _ a).2.1 rfl
   have be:s.af≠some I:=λa=>(e.fresh _ a).2.2.1 rfl
   have aI: ∀c,aH.af=some c->h.size<=c/\c≠b/\c≠I/\c≠J:=λc a=>by
    rcases q c a with z|z
    ·exact e.fresh c z
    ·have bZ:=Af e.zero;have b0:=Af e.rd;have b1:=Af e.var;have b2:=e.ext.size;omega
   refine ab.mk (Z.af e.var bc) (by simp) λb3 bf ac b4=>?_
   rw[show((((k+1:Nat):Int),()):Int×Unit).1-(1:Int)=((k:Nat):Int) by simp,Gz (by omega)];have bg:Ho 3 5 1000 false (k+1) d=(x::(Ho 3 5 1000 false k C).1,(Ho 3 5 1000 false k C).2):=by simp only[Ho,r]
   refine a2 k _ _ (by omega) ⟨k,aH,f++ [x],C,rfl,⟨?_,?_,?_,by simpa using bf,?_,aI,e.ne⟩,rfl,?_,by simp;omega,?_⟩
   ·exact(e.ext.more Z λc a=>(e.fresh c a).1).more ac λc a=>by subst a;exact e.ne.2.2.1
   ·exact ac.af (Z.af e.zero bd) e.ne.2.2.2.2.1
   ·exact ac.af (Z.af e.rd be) e.ne.2.2.2.2.2
   ·exact bb.mod ac λc a=>(aI c a).2.2.2
   ·have:=AMF (bk:=3) (bt:=5) (bw:=1000) (all:=false) d;rw[r] at this;simp only at this;omega
   ·rw[H,bg];simp
  refine ae.intro (λy=>?_) (λy=>?_)
  ·have D:(Bu 3 d).1=1:=by simp at y;omega
   have b5:=(Ni (Bu 3 d).2).1;have b6:=Fh 5 (FW (Bu 3 d).2).2;have b7:=(Ni (Bu 5 (FW (Bu 3 d).2).2).2).1;refine IP w.rd (by omega) λaJ L t=>⟨_,rfl,?_⟩
   have F:=w.read L t;have M:=t.af B a.2.2.1;refine DW (most:=5) F.rd (by omega) (by decide) λad bh G=>⟨_,rfl,?_⟩
   have bi:=F.read bh G;have N:=G.af M a.2.2.1;refine ab.bM N (by simp) rfl λb8 bj bm b9=>ab.bM bj (by simp) rfl λca bn bo cb=>?_
   have aK:=(bi.other bm a).other bo a;refine IP aK.rd (by omega) λcc bp aL=>⟨_,rfl,?_⟩
   have aM:=aK.read bp aL;have bq:=aL.af bn a.2.2.1;refine DW (most:=5) aM.rd (by omega) (by decide) λcd br aN=>⟨_,rfl,?_⟩
   have bs:=aM.read br aN;have bu:=aN.af bq a.2.2.1;refine ab.bM bu (by simp) rfl λce bv bx cf=>ab.bM bv (by simp) rfl λbz bA bB cg=>?_
   have bC:=(bs.other bx a).other bB a;refine Y ⟨1,AX (FW (Bu 3 d).2).1,AX (FW (Bu 5 (FW (Bu 3 d).2).2).2).1,(Bu 5 (FW (Bu 3 d).2).2).1,(Bu 5 (FW (Bu 5 (FW (Bu 3 d).2).2).2).2).1,0⟩ _ bz bC ?_ ?_
   ·rw[bA,D];rfl
   ·simp only[ME];rw[if_pos D]
  ·have D:(Bu 3 d).1≠1:=by simp at y;omega
   refine ae.intro (λap=>?_) (λap=>?_)
   ·have O:(Bu 3 d).1=2:=by simp at ap;omega
    refine DW (most:=1000) w.rd (by omega) (by decide) λaJ L t=>⟨_,rfl,?_⟩
    have F:=w.read L t;have M:=t.af B a.2.2.1;refine ab.bM M (by simp) rfl λad N G bD=>?_
    refine Y ⟨2,Ha,Ha,0,0,(Bu 1000 (Bu 3 d).2).1⟩ _ ad (F.other G a) ?_ ?_
    ·rw[N,O];rfl
    ·simp only[ME];rw[if_neg D,if_pos O]
   ·have O:(Bu 3 d).1≠2:=by simp at ap;omega
    refine ae.intro (λaq=>?_) (λaq=>?_)
    ·have ar:(Bu 3 d).1=3:=by simp at aq;omega
     refine IP w.rd (by omega) λaJ L t=>⟨_,rfl,?_⟩
     have F:=w.read L t;have M:=t.af B a.2.2.1;refine ab.bM M (by simp) rfl λad N G bD=>?_
     refine Y ⟨(Bu 3 d).1,AX (FW (Bu 3 d).2).1,Ha,0,0,0⟩ _ ad (F.other G a) ?_ ?_
     ·rw[N];rfl
     ·simp only[ME];rw[if_neg D,if_neg O,if_pos (.inl ar)]
    ·have ar:(Bu 3 d).1≠3:=by simp at aq;omega
     refine Y ⟨(Bu 3 d).1,Ha,Ha,0,0,0⟩ _ a6 w B ?_;simp only[ME];rw[if_neg D,if_neg O,if_neg (by simp[ar])]
 ·have aG:j=0:=by simp at an;omega
  subst aG;simp only[Ho,AM] at H;refine ah.mk λbE aO=>?_
  refine NM n.rd ⟨_,rfl,?_⟩;have au:JD l=if X8 d&&Fx ⟨f,i⟩ then some ⟨f,i⟩ else none:=by unfold JD;rw[H]
  have aP:JD l=none-> ∀o,WI h b I J i s f o d->bE (true,()) o:=λr o e=>by
   refine aO _ _ (ae.yes rfl ?_);refine ab.two e.zero λX v af bF=>AY.mk (s:=⟨none,0,0⟩) (AL v rfl) (AC.mk (AB v rfl) ?_)
   have:=aw X ⟨none,0,0⟩ (e.ext.more af λc a=>by subst a;exact e.ne.1) (λp Q=>by rw[r] at Q;cases Q);rw[r] at this;exact this
  refine ae.intro (λy=>?_) (λy=>?_)
  ·have av:X8 d=false:=by simpa using y
   exact aP (by rw[au,av];rfl) am n
  ·have av:X8 d=true:=by simpa using y
   refine AY.mk (s:=s) (AL n.var rfl) (AC.mk (AB n.var rfl) ?_);refine xn (p:=⟨f,i⟩) n.own.view (by simp only;omega) λao bG=>⟨_,rfl,?_⟩
   have g:=n.on bG;cases aQ:Fx ⟨f,i⟩ with
   |false=>exact aP (by rw[au,aQ,LI];rfl) ao g
   |true=>
    refine aO _ _ (ae.no rfl ?_);have r:JD l=some ⟨f,i⟩:=by rw[au,av,aQ];rfl
    refine AY.mk (s:=s) (AL g.var rfl) (AC.mk (AB g.var rfl) ?_);refine ab.two g.zero λX v af bF=>AY.mk (s:=s) (AL v rfl) (AC.mk (AB v rfl) ?_)
    have:=aw X s (g.ext.more af λc a=>by subst a;exact g.ne.1) (λp Q=>by
     rw[r] at Q;obtain rfl:=BT Q;exact⟨(g.own.mod af λc a=>(g.fresh c a).2.1).view,λc a=>by have:=(g.fresh c a).1;omega⟩)
    rw[r] at this;exact this
def fN(a:Int):Int:=(if cX a then 1 else 0)+(if dk a then 2 else 0)+(if dw a then 4 else 0)+(if dP a then 8 else 0)+(if dQ a then 16 else 0)
theorem qV(d:Int):GU J9 (fN d) 1=(if cX d then 1 else 0)/\GU J9 (fN d) 2=(if dk d then 2 else 0)/\GU J9 (fN d) 4=(if dw d then 4 else 0)/\GU J9 (fN d) 8=(if dP d then 8 else 0)/\GU J9 (fN d) 16=(if dQ d then 16 else 0):=by unfold fN;generalize cX d=a;generalize dk d=b;generalize dw d=c;generalize dP d=e;generalize dQ d=f;cases a<;>cases b<;>cases c<;>cases e<;>cases f<;>decide
theorem mf {b:Bool}{a:Int}(c:a≠0):((if b then a else 0)==(0:Int))= !b:=by cases b<;>simp[c]
theorem Lp {b:Bool}{a:Int}(c:a≠0):((if b then a else 0) != (0:Int))=b:=by cases b<;>simp[c]
theorem WS {i:al}{f:aa}{a:Int}{g:A2O}(c:g (J1 #[J6 J9 (fN a),J3 (bU a 1 18)]) f):AA i P I7 #[J6 J9 a] f g:=by
 refine AA9 ?_;unfold UJ;have d:a=1\/a=2\/a=3\/a=4\/a=5\/a=6\/a=7\/a=8\/a=9\/a=10\/a=11\/a=12\/a=13\/a=14\/a=15\/a=16\/a=17\/a=18\/ ¬(1<=a/\a<=18):=by omega
 by_cases h:1<=a/\a<=18
 ·rcases d with rfl|rfl|rfl|rfl|rfl|rfl|rfl|rfl|rfl|rfl|rfl|rfl|rfl|rfl|rfl|rfl|rfl|rfl|d
  all_goals (try exact absurd h d)
  all_goals repeat first|exact c|(refine ah.mk λK e=>?_)|(refine ae.yes (by decide) ?_)|(refine ae.no (by decide) ?_)|(refine e _ _ ?_)
 ·have j:bU a 1 18=false:=by unfold bU;simpa using h
  have k:fN a=0:=by unfold fN cX dk dw dP dQ;rw[decide_eq_false (by omega),decide_eq_false (by omega),decide_eq_false (by omega),decide_eq_false (by omega),decide_eq_false (by omega)];rfl
  rw[j,k] at c;have ne: ∀b:Int,1<=b->b<=18->(a==b)=false:=λb l m=>by
   rw[beq_eq_false_iff_ne];omega
  repeat first|exact c|(refine ah.mk λK e=>?_)|(refine ae.no (ne _ (by decide) (by decide)) ?_)|(refine e _ _ ?_)
theorem xp {A:al}{h:aa}{s:A2P}{R:A2O}(b:s.size<1099511627776)
  (d: ∀a sl,Ext h a->(∀ p,JD (bl s)=some p->View Oh a sl p.steps/\ ∀c,sl.af=some c->h.size<=c)->R (xo (JD (bl s)) sl) a):AA A P Jj #[J7 s] h R:=by
 have:=AJu (A:=A) (h:=h) (l:=bl s) (R:=R) (by rw[BA];exact b) d;rwa [strL_bl] at this
theorem LK {A:al}{h:aa}{s:A2P}{R:A2O}(b:s.size<=1099511627776)(c: ∀a,Ext h a->R (J7 (AX (BP (bl s)))) a):AA A P Bz #[J7 s] h R:=by have:=Qa (A:=A) (h:=h) (l:=bl s) (R:=R) (by rw[BA];exact b) c;rwa [strL_bl] at this
theorem qW {l:al}{h:aa}{b:Nat}{f a g c j:Int}{fl:Bool}{T:Q7}{fr:Nat×Nat}{k:A2O}(m:h[b]? =some (J2 #[J6 J9 f] T fr))(n:(GU J9 f j==(0:Int))= !fl)
  (d:k (J3 (cY fl a g c)) h):Du l P (.func (.func IC) #[] #[J5 (some ⟨b,0,none⟩)]) #[J6 J9 a,J6 J9 g,J6 J9 c,J6 J9 j] h k:=by
 refine Du.func (first:= #[]) (bQ:= #[Ap b]) (by kernel_rfl) ?_;refine Yr ?_;unfold Rm;refine aE (AC.mk (AL m rfl) ?_);rw[n];cases fl with
 |false=>
  refine ae.yes rfl ?_;have e:(a==(0:Int))=decide (a=0):=by by_cases o:a=0<;>simp[o]
  rw[e];exact d
 |true=>
  refine ae.no rfl ?_;refine ae.intro (λi=>?_) (λi=>?_)
  ·have e:cY true a g c=decide (a<=c):=by simp at i;simp only[cY,if_true,bU];rw[decide_eq_decide];omega
   rw[e] at d;exact d
  ·have e:cY true a g c=false:=by simp at i;simp only[cY,if_true,bU];simp;omega
   rw[e] at d;exact d
abbrev og(a:Ev):J0:= .agg #[J6 J9 a.id,J6 J9 a.kind,J6 J9 a.tick,J6 J9 a.ref,J6 J9 a.step,J6 J9 a.turn,J3 a.aL,J7 a.data]
theorem Zb {Q:al}{h:aa}{e:Ev}{t:A2O}(hd:e.data.size<1099511627776)(u: ∀d,Ext h d->t (J6 J9 (if EX e then 0 else 120)) d):AA Q P Jo #[og e] h t:=by
 refine ACO ?_;unfold Vp;refine ak.mk λv _ F G aH=>?_
 refine AC.mk (AB F rfl) (WS ⟨_,_,rfl,?_⟩);refine ak.mk λaI _ R H aJ=>?_
 refine ab.mk R (by simp) λf j I aK=>?_
 have o:Ext h f:=(G.trans H).more I λc q=>by subst q;exact G.size
 have S:h.size≠v.size:=by omega
 have b:=I.af (H.af F (λh=>h)) S;have j:f[v.size]? =some (J2 #[J6 J9 (fN e.kind)] Bb (0,0)):=j;obtain⟨T,U,V,W,X⟩:=qV e.kind;refine ah.mk λK J=>?_
 have g:Ed e=false->K (true,()) f:=λw=>by
  refine J _ _ (ae.yes rfl ?_);have:=u f o;have r:EX e=false:=by simp[EX,w]
  rw[r] at this;exact this
 have aC:Ed e=true->K (false,()) f:=λw=>by
  refine J _ _ (ae.no rfl ?_);refine AC.mk (AB b rfl) ?_;refine ah.mk λY Z=>?_
  have y:KR e=true-> ∀d,Ext h d->Y () d:=λz d x=>by
   refine Z _ _ ?_;have:=u d x;have r:EX e=true:=by simp[EX,w,z]
   rw[r] at this;exact this
  have fail:KR e=false-> ∀d,Ext h d->t (J6 J9 120) d:=λz d x=>by
   have:=u d x;have r:EX e=false:=by simp[EX,z]
   rw[r] at this;exact this
  refine ae.intro (λi=>?_) (λi=>?_)
  ·have i:e.kind=1:=by simpa using i
   have k:KR e=(JD (bl e.data)).isSome:=by unfold KR;rw[if_pos i]
   refine AJ.mk (AB b rfl) (xp hd λaL sl ac _=>?_);have s:=o.trans ac;cases L:JD (bl e.data) with
   |none=>
    refine⟨⟨none,0,0⟩,_,_,rfl,?_⟩;refine ak.mk λad _ A B af=>ab.two A λC ag D ai=>ae.yes rfl ?_
    exact fail (by rw[k,L];rfl) C ((s.trans B).more D λc q=>by subst q;exact s.size)
   |some p=>
    refine⟨sl,_,_,rfl,?_⟩;refine ak.mk λad _ A B af=>ab.two A λC ag D ai=>ae.no rfl ?_
    exact y (by rw[k,L];rfl) C ((s.trans B).more D λc q=>by subst q;exact s.size)
  ·have i:e.kind≠1:=by simpa using i
   refine ae.intro (λl=>?_) (λl=>?_)
   ·have l:e.kind=12:=by simpa using l
    have k:KR e=Au e.data:=by unfold KR;rw[if_neg i,if_pos l]
    refine AJ.mk (AB b rfl) (Fb ⟨_,rfl,?_⟩);cases M:Au e.data with
    |false=>exact fail (by rw[k,M]) f o
    |true=>exact y (by rw[k,M]) f o
   ·have l:e.kind≠12:=by simpa using l
    have k:KR e=true:=by unfold KR;rw[if_neg i,if_neg l]
    exact y k f o
 refine ae.intro (λa=>g (by simp at a;simp[Ed,a])) (λaj=>?_);refine AC.mk (AL b rfl) (ae.intro (λa=>g ?_) (λam=>?_))
 ·have:bU e.id 1 500=false:=by simp at a;unfold bU;simp;omega
  simp[Ed,this]
 refine AC.mk (AL b rfl) (ae.intro (λa=>g ?_) (λan=>?_))
 ·have:bU e.id 1 500=false:=by simp at a;unfold bU;simp;omega
  simp[Ed,this]
 have ao:1<=e.id/\e.id<=500:=by simp at am an;omega
 refine AC.mk (AB b rfl) (ae.intro (λa=>g ?_) (λap=>?_))
 ·have:bU e.tick 0 1099511627776=false:=by simp at a;unfold bU;simp;omega
  simp[Ed,this]
 refine AC.mk (AB b rfl) (ae.intro (λa=>g ?_) (λaq=>?_))
 ·have:bU e.tick 0 1099511627776=false:=by simp at a;unfold bU;simp;omega
  simp[Ed,this]
 have ar:bU e.tick 0 1099511627776=true:=by simp at ap aq;rw[BR];omega
 have au:bU e.id 1 500=true:=BR.2 ao;have av:bU e.kind 1 18=true:=by simpa using aj
 refine AC.mk (AB b rfl) (AC.mk (AL b rfl) ?_);rw[wrap_i64 (n:=e.id-1) (by omega) (by omega)];refine qW (fl:=cX e.kind) j (by rw[T,mf (by decide)]) ⟨_,rfl,?_⟩;refine ae.intro (λa=>g ?_) (λaw=>?_)
 ·have:cY (cX e.kind) e.ref 1 (e.id-1)=false:=by simpa using a
  simp[Ed,this]
 have ax:cY (cX e.kind) e.ref 1 (e.id-1)=true:=by simpa using aw
 refine AC.mk (AB b rfl) ?_;refine qW (fl:=dk e.kind) j (by rw[U,mf (by decide)]) ⟨_,rfl,?_⟩;refine ae.intro (λa=>g ?_) (λay=>?_)
 ·have:cY (dk e.kind) e.step 0 15=false:=by simpa using a
  simp[Ed,this]
 have az:cY (dk e.kind) e.step 0 15=true:=by simpa using ay
 refine AC.mk (AB b rfl) ?_;refine qW (fl:=dw e.kind) j (by rw[V,mf (by decide)]) ⟨_,rfl,?_⟩;refine ae.intro (λa=>g ?_) (λaA=>?_)
 ·have:cY (dw e.kind) e.turn 1 5=false:=by simpa using a
  simp[Ed,this]
 have aD:cY (dw e.kind) e.turn 1 5=true:=by simpa using aA
 have m:Ed e=((!e.aL||dP e.kind)&&(decide (e.data=Ha)||dQ e.kind)):=by simp[Ed,av,au,ar,ax,az,aD]
 have N:(!e.aL||dP e.kind)=true->AJ f ((⟨h.size,0,none⟩:Q6).add 7) λaE=>
   ae (!bL aE (⟨#[]⟩:A2P)) (AC J9 f (⟨v.size,0,none⟩:Q6) λaF=>K (((GU J9 aF (16:Int))==(0:Int)),()) f) (K (false,()) f):=λaG=>by
  rw[aG,Ek] at m;refine AJ.mk (AB b rfl) ?_;rw[od];refine ae.intro (λa=>?_) (λa=>?_)
  ·have a:decide (e.data=Ha)=false:=by simpa using a
   refine AC.mk (AL j rfl) ?_;rw[X,mf (by decide)];rw[a,SZ] at m;cases O:dQ e.kind with
   |false=>exact g (by rw[m,O])
   |true=>exact aC (by rw[m,O])
  ·have a:decide (e.data=Ha)=true:=by simpa using a
   rw[a,Bool.true_or] at m;exact aC m
 refine Aa.mk (AB b rfl) (ae.intro (λa=>?_) (λa=>?_))
 ·refine AC.mk (AL j rfl) ?_;rw[W,mf (by decide)];refine ae.intro (λE=>g ?_) (λE=>N ?_)
  ·have:dP e.kind=false:=by simpa using E
   rw[m,a,this];rfl
  ·have:dP e.kind=true:=by simpa using E
   rw[this,HK]
 ·exact N (by rw[a];rfl)
theorem pD:Pi P EL F5 eZ.w 32=true:=by kernel_rfl
theorem pE:Pi P DL GJ ga.w 24=true:=by kernel_rfl
theorem ASt:(zeroValue F5).calc P=some Jb.z.v:=by kernel_rfl
theorem ASv:(zeroValue GJ).calc P=some Ck.z.v:=by kernel_rfl
def pF(d:Option Nat):Int:=match d with|some i=>(i:Int)|none=> -1
theorem sS {g:Type}{p:g->Bool}{l:List g}{d:Nat}(n:d<=l.length)(h: ∀x∈l.take d,p x=false):(∀ x,l[d]? =some x->p x=true->l.findIdx? p=some d)/\(d=l.length->l.findIdx? p=none):=by
 constructor
 ·intro x f j;rw[List.findIdx?_eq_some_iff_getElem];obtain⟨k,e⟩:=List.getElem?_eq_some_iff.1 f;refine⟨k,by rw[e];exact j,λi m=>?_⟩;have:=h l[i] (List.mem_iff_getElem?.2 ⟨i,by rw[Fo,if_pos m];exact A2 (by omega)⟩);simp[this]
 ·intro e;rw[List.findIdx?_eq_none_iff];intro x f;have:x∈l.take d:=by rw[e,C5];exact f
  simp[h x this]
section
variable {A : al} {h : aa} {R : A2O} {s : aZ} {e : Ev} {a b c : Sl}
theorem sT {p:Jb->Bool}{sl:Sl}{l:List Jb}{f:J0}(v:View eZ h sl l)(J:l.length<=1000000)(B: ∀(x:Jb) (d:aa) (r:A2O),Ext h d->(∀ g,Ext d g->r (J3 (p x)) g)->Du A P f #[x.v] d r)
  (t: ∀g,Ext h g->R (J6 J9 (pF (l.findIdx? p))) g):AA A P CJ #[J4 sl.p sl.len sl.cap,f] h R:=by
 refine Ia ?_;unfold Ej;refine Loop.rule (λm x d=> ∃i:Nat,x=((i:Int),())/\m=l.length-i/\i<=l.length/\Ext h d/\ ∀x∈l.take i,p x=false) ?_ ⟨0,rfl,rfl,AD _,Mod.refl,by simp⟩;rintro K m _ u ⟨i,rfl,rfl,C,j,w⟩ D;obtain⟨E,F⟩:=sS C w;dsimp only;have L:=v.len;refine ae.intro (λn=>?_) (λn=>?_)
 ·have k:i<l.length:=by simp at n;omega
  obtain⟨x,o⟩: ∃x,l[i]? =some x:=⟨_,A2 k⟩;refine(v.ext j).idx o λM _ G=>iY.mk x G ?_
  refine B x u _ j λH y=>⟨_,rfl,?_⟩
  refine ae.intro (λq=>?_) (λq=>?_)
  ·have:=t H (j.trans y);rw[E x o q] at this;exact this
  ·rw[Ab (by omega)];refine D (l.length-(i+1)) _ _ (by omega) ⟨i+1,rfl,rfl,k,j.trans y,λI z=>?_⟩;rw[Ax,o,DM] at z;rcases List.mem_append.1 z with h|h
   ·exact w I h
   ·rw[List.mem_singleton.1 h];exact q
 ·have k:i=l.length:=by simp at n;omega
  have:=t u j;rw[F k] at this;exact this
theorem AQP {p:Ck->Bool}{sl:Sl}{l:List Ck}{f:J0}(v:View ga h sl l)(J:l.length<=1000000)(B: ∀(x:Ck) (d:aa) (r:A2O),Ext h d->(∀ g,Ext d g->r (J3 (p x)) g)->Du A P f #[x.v] d r)
  (t: ∀g,Ext h g->R (J6 J9 (pF (l.findIdx? p))) g):AA A P Cn #[J4 sl.p sl.len sl.cap,f] h R:=by
 refine Gv ?_;unfold EI;refine Loop.rule (λm x d=> ∃i:Nat,x=((i:Int),())/\m=l.length-i/\i<=l.length/\Ext h d/\ ∀x∈l.take i,p x=false) ?_ ⟨0,rfl,rfl,AD _,Mod.refl,by simp⟩;rintro K m _ u ⟨i,rfl,rfl,C,j,w⟩ D;obtain⟨E,F⟩:=sS C w;dsimp only;have L:=v.len;refine ae.intro (λn=>?_) (λn=>?_)
 ·have k:i<l.length:=by simp at n;omega
  obtain⟨x,o⟩: ∃x,l[i]? =some x:=⟨_,A2 k⟩;refine(v.ext j).idx o λM _ G=>nV.mk x G ?_
  refine B x u _ j λH y=>⟨_,rfl,?_⟩
  refine ae.intro (λq=>?_) (λq=>?_)
  ·have:=t H (j.trans y);rw[E x o q] at this;exact this
  ·rw[Ab (by omega)];refine D (l.length-(i+1)) _ _ (by omega) ⟨i+1,rfl,rfl,k,j.trans y,λI z=>?_⟩;rw[Ax,o,DM] at z;rcases List.mem_append.1 z with h|h
   ·exact w I h
   ·rw[List.mem_singleton.1 h];exact q
 ·have k:i=l.length:=by simp at n;omega
  have:=t u j;rw[F k] at this;exact this
theorem ARq(o:View eZ h b s.ar)(q:s.ar.length<=1000000)(r: ∀f,Ext h f->R (J6 J9 (pF (Rn s e.ref e.turn))) f):AA A P TK #[(s.V a b c).v,e.v] h R:=by
 refine AFe ?_;unfold u5;refine ak.mk λt _ u v F=>ak.mk λG _ w g H=>?_
 have i:=v.trans g;refine AY.mk (s:=b) (AB (g.af u λh=>h) rfl) (sT (o.ext i) q (p:=λj=>decide (j.id=e.ref)&&decide (j.turn=e.turn)) (λx I J y z=>?_) λB C=>⟨_,rfl,r B (i.trans C)⟩);refine Du.func (first:= #[]) (bQ:= #[Ap t.size]) (by kernel_rfl) (ACA ?_);unfold VJ;refine ak.mk λD _ k l K=>?_
 have m:=(y.trans l).af w λh=>h
 have:=z D l;refine AC.mk (n:=x.id) (AL k rfl) (AC.mk (n:=e.ref) (AB m rfl) (ae.intro (λd=>?_) (λd=>?_)))
 ·have d:x.id=e.ref:=by simpa using d
  refine AC.mk (n:=x.turn) (AB k rfl) (AC.mk (n:=e.turn) (AB m rfl) ?_);have E:(x.turn==e.turn)=(decide (x.id=e.ref)&&decide (x.turn=e.turn)):=by rw[decide_eq_true d,Ek,DH];simp
  rw[E];exact this
 ·have d:x.id≠e.ref:=by simpa using d
  rw[decide_eq_false d,Ft] at this;exact this
theorem step_ok {g f:Int}(G:View Oh h a s.prog.steps)(v: ∀j,Ext h j->R (J1 #[((stepOf s.prog g f).getD bO.z).v,J3 (stepOf s.prog g f).isSome]) j):AA A P Kh #[(s.V a b c).v,J6 J9 g,J6 J9 f] h R:=by
 refine AD5 ?_;unfold Xk;refine ak.mk λH _ I J T=>ak.mk λw _ y z U=>?_
 have B:=J.trans z;have o:=z.af I λh=>h
 have p:=G.ext B;have C: ∀j,Mod (· =H.size) w j->Ext h j:=λj m=>B.more m λc L=>by subst L;omega
 refine ah.mk λK D=>?_
 have no:stepOf s.prog g f=none->K (true,()) w:=λM=>by
  refine D _ _ (ae.yes rfl (aN.mk y (A0 6) λk q r N=>j3.mk bO.z (Dz q rfl) ?_));have:=v k (C k r);rw[M] at this;exact this
 refine ae.intro (λd=>no ?_) (λd=>?_)
 ·have d:g<0:=by simpa using d
  unfold stepOf;rw[if_neg (by omega)]
 have E:0<=g:=by simp at d;omega
 obtain⟨i,rfl⟩: ∃i:Nat,g=i:=⟨g.toNat,by omega⟩;refine AY.mk (s:=a) (AL o rfl) ?_;rw[p.len];refine ae.intro (λd=>no ?_) (λd=>?_)
 ·have d:s.prog.steps.length<=i:=by simp at d;omega
  unfold stepOf;rw[if_pos E,A6,Mu d];rfl
 have O:i<s.prog.steps.length:=by simp at d;omega
 obtain⟨x,t⟩: ∃x,s.prog.steps[i]? =some x:=⟨_,A2 O⟩;have l:stepOf s.prog (i:Int) f=if x.kind=f then some x else none:=by unfold stepOf;rw[if_pos E,A6,t];rfl
 refine AY.mk (s:=a) (AL o rfl) (p.idx t λV _ Q=>?_);have F:=Q 0 _ rfl;rw[add_zero] at F;refine AC.mk F ?_;by_cases n:x.kind=f
 ·rw[if_pos n] at l;have u:(x.kind != f)=false:=by simp[n]
  rw[u];refine D _ _ (ae.no rfl (AY.mk (s:=a) (AL o rfl) (p.idx t λW _ S=>j3.mk x S (aN.mk y (A0 6) λk q r N=>j3.mk x (Dz q rfl) ?_))));have:=v k (C k r);rw[l] at this;exact this
 ·rw[if_neg n] at l;have u:(x.kind != f)=true:=by simp[n]
  rw[u];exact no l
theorem sU {d:Jb}(r:View Oh h a s.prog.steps)(t: ∀i,Ext h i->R (J6 J9 (Gf s.prog d)) i):AA A P Lj #[(s.V a b c).v,d.v] h R:=by
 refine ACu ?_;unfold Vd;refine ak.mk λD _ u v E=>ak.mk λw _ j k F=>?_
 have l:=v.trans k;refine Aw.mk (s.V a b c) (Et (k.af u λh=>h)) (AC.mk (n:=d.step) (AB j rfl) (step_ok (r.ext l) λG m=>iZ.mk _ ⟨_,rfl,ak.mk λH _ y z I=>aN.mk y (A0 6) λo g B J=>?_⟩));rw[pB] at g;have p:Ext w o:=(m.trans z).more B λc C=>by subst C;exact m.size
 have:=t o (l.trans p);unfold Gf at this;cases q:stepOf s.prog d.step 1 with
 |none=>rw[q] at this;exact ae.yes rfl this
 |some x=>
  rw[q] at g this;refine ae.no rfl (Aa.mk (n:=d.aL) (AB (p.af j λh=>h) rfl) (ae.intro (λf=>?_) (λf=>?_)))
  ·have f:d.aL=true:=f;dsimp only at this;rw[if_pos f] at this;exact AC.mk (n:=x.az) (AB g rfl) this
  ·have f:d.aL=false:=f;dsimp only at this;rw[if_neg (by simp[f])] at this;exact AC.mk (n:=x.tries) (AB g rfl) this
theorem AJF {sl:Sl}{l:List Jb}{i:Nat}(f:Own eZ F5 h sl l)(g:i<l.length)(j: ∀d,Own eZ F5 d ⟨sl.p,l.length-1,sl.cap⟩ (l.eraseIdx i)->Mod (λb=>sl.af=some b) h d->R (J4 sl.p (l.length-1) sl.cap) d):
  AA A P Df #[J4 sl.p sl.len sl.cap,J6 J9 (i:Int),J6 J9 ((i+1:Nat):Int)] h R:=
 JV (wq (E:=eZ) (zv:=Jb.z.v) pD ASt (by decide) rfl f g j)
theorem AJE {sl:Sl}{l:List Ck}{i:Nat}(f:Own ga GJ h sl l)(g:i<l.length)(j: ∀d,Own ga GJ d ⟨sl.p,l.length-1,sl.cap⟩ (l.eraseIdx i)->Mod (λb=>sl.af=some b) h d->R (J4 sl.p (l.length-1) sl.cap) d):
  AA A P Cz #[J4 sl.p sl.len sl.cap,J6 J9 (i:Int),J6 J9 ((i+1:Nat):Int)] h R:=
 Hz (wq (E:=ga) (zv:=Ck.z.v) pE ASv (by decide) rfl f g j)
theorem mZ {h:aa}{b:Nat}{T:Q7}{x i:bG}{K:bG->aa->Prop}(j:h[b]? =some (J2 i.c T (0,0)))(k: ∀d,Mod (· =b) h d->K x d):
  aN h ⟨b,0,none⟩ x.l λf=>Aw f ⟨b,0,none⟩ λl=>K l f:=
 aN.mk j (A0 12) λd g m s=>Aw.mk x (Et (by rw[Ob] at g;exact g)) (k d m)
theorem sV {s:aZ}{f turn:Int}{i:Nat}(h:Rn s f turn=some i): ∃d,s.ar[i]? =some d/\d.id=f/\d.turn=turn:=by unfold Rn at h;obtain⟨j,g,_⟩:=List.findIdx?_eq_some_iff_getElem.1 h;simp only[A3,decide_eq_true_eq] at g;exact⟨_,A2 j,g⟩
theorem AQA(Q:I1 h s a b c)(Z:Own eZ F5 h b s.ar)(H:s.ar.length<=1000)(a6:6<=e.kind/\e.kind<=9)(u:0<=e.turn/\e.turn<=1000)
  (ac: ∀z (t:aZ) (b':Sl),Mod (λx=>b.af=some x\/h.size<=x) h z->(∀ x,b'.af=some x->b.af=some x\/h.size<=x)->(∀ t',LD s e=some t'->t=t'/\View eZ z b' t'.ar)->R (J1 #[(t.V a b' c).v,J3 (LD s e).isSome]) z):AA A P RG #[(s.V a b c).v,e.v] h R:=by
 refine AEP ?_;unfold XU;refine lC λav l=>AC.mk (l.bM (j:=1) rfl) ?_
 have ad:=l.ext;have a7:=ad.size;have a8:=Af l.b2;have D: ∀x,b.af=some x->x<h.size:=λx f=>Z.lt f
 have S:LD s e=none-> ∀ {m:aa},Ext av m->Aw m ⟨h.size,0,none⟩ λt=>aN m ⟨h.size+2,0,none⟩ t.l λI=>Aw I ⟨h.size+2,0,none⟩ λaf=>R (J1 #[af.v,J3 false]) I:=λaw m x=>by
  refine(l.on x).ret λz x'=>?_
  have:=ac z s b x'.mod (λa9 aK=> .inl aK) (λt' u=>by rw[aw] at u;cases u);rw[aw] at this;exact this
 refine ae.intro (λp=>?_) (λp=>?_)
 ·have p:e.kind=6:=by simpa using p
  refine l.eQ (AC.mk (l.bM (j:=4) rfl) (step_ok (Q.steps.ext ad) λaL F=>iZ.mk _ ⟨_,rfl,ak.mk λT _ aM ag ba=>aN.mk aM (A0 6) λq ai B aO=>?_⟩));rw[pB] at ai;have U:Ext av q:=(F.trans ag).more B λc d=>by subst d;exact F.size
  have w:=l.on U;refine ah.mk λK ax=>?_
  cases V:stepOf s.prog e.step 1 with
  |none=>exact ae.yes rfl (ax _ _ (ae.yes rfl (S (by unfold LD;rw[if_pos p,V];rfl) U)))
  |some x=>
   rw[V] at ai;have key: ∀y:Bool,(y=true↔e.aL=true/\x.aL=Ha)->K (y,()) q:=λy J=>by
    refine ax _ _ (ae.intro (λg=>S ?_ U) (λg=>?_))
    ·unfold LD;rw[if_pos p,V,Hj,if_pos (J.1 g)]
    have g:y=false:=g;have k:LD s e=some {s with ar:=s.ar++ [⟨e.id,e.step,e.aL,1⟩]}:=by unfold LD;rw[if_pos p,V,Hj,if_neg λh=>by rw[J.2 h] at g;cases g]
    refine AY.mk (s:=b) (w.cH (j:=8) rfl) (AC.mk (w.bM (j:=0) rfl) (AC.mk (w.bM (j:=4) rfl) (Aa.mk (w.bM (j:=6) rfl) ?_)));refine ak.aY (E:=eZ) (x:=⟨e.id,e.step,e.aL,1⟩) (s:=b) rfl pD (Z.ext w.ext) (by omega) (by simp only[maxLen];omega) λb' r aP L ay bb=>?_
    have bc:=U.size;have ne: ∀az,b.af=some (h.size+az)->False:=λaz f=>by have:=D _ f;omega
    refine ab.bM (dS:=(({s with ar:=s.ar++ [⟨e.id,e.step,e.aL,1⟩]}:aZ).V a b' c).c) (L.af w.b0 (ne 0)) (of_decide_eq_true rfl) rfl λM aj W aQ=>?_
    refine Aw.mk (({s with ar:=s.ar++ [⟨e.id,e.step,e.aL,1⟩]}:aZ).V a b' c) (Et aj) (mZ (W.af (L.af w.b2 (ne 2)) (by omega)) λaA aR=>?_);have aS: ∀x,b'.af=some x->b.af=some x\/h.size<=x:=λx f=>(ay x f).imp id λh=>by omega
    have aC:Mod (λc=>c=h.size\/c=h.size+2) r aA:=(W.ai λc _ d=> .inl d).trans (aR.ai λc _ d=> .inr d);have N:=ac aA {s with ar:=s.ar++ [⟨e.id,e.step,e.aL,1⟩]} b' ((w.ext.mod.trans (L.ai λc _ d=> .inl d)).trans (aC.ai λc _ d=> .inr (by omega))) aS (λt' u=>?_)
    ·rw[k] at N;exact N
    ·rw[k] at u;cases u;refine⟨rfl,(aP.mod aC λx f d=>?_).view⟩;rcases ay x f with h|h
     ·have:=D x h;omega
     ·omega
   refine ae.no rfl (Aa.mk (w.bM (j:=6) rfl) (ae.intro (λC=>?_) (λC=>?_)))
   ·have C:e.aL=true:=C;refine AJ.mk (n:=x.aL) (AB ai rfl) (key _ ?_);rw[od,decide_eq_true_eq];exact⟨λh=>⟨C,h⟩,λh=>h.2⟩
   ·have C:e.aL=false:=C;exact key _ ⟨(λh=>by cases h),λh=>(by have:=h.1;rw[C] at this;cases this)⟩
 have p:e.kind≠6:=by simpa using p
 refine l.eQ (l.jX (ARq (Q.ar.ext ad) (by omega) λaL F=>⟨_,rfl,?_⟩));cases al:Rn s e.ref e.turn with
 |none=>exact ae.yes rfl (S (by unfold LD;rw[if_neg p,al];rfl) F)
 |some i=>
  obtain⟨j,G,bd,be⟩:=sV al;have aT:=(List.getElem?_eq_some_iff.1 G).1;have O:=l.on F;show ae (decide ((i:Int)<0)) _ _;refine ae.no (decide_eq_false (by omega)) ?_;have k:LD s e=if e.kind=8 then(if e.turn=Gf s.prog j then none else some {s with ar:=s.ar.set i {j with turn:=j.turn+1}}) else if e.kind=7\/e.turn=Gf s.prog j then some {s with ar:=s.ar.eraseIdx i,fresh:=true} else none:=by unfold LD;rw[if_neg p,al,Hj,G,Hj]
  refine AC.mk (O.bM (j:=5) rfl) (O.eQ (AY.mk (s:=b) (O.cH (j:=8) rfl) ?_));refine(Q.ar.ext O.ext).idx G λbf _ aU=>iY.mk j aU ?_
  refine sU (Q.steps.ext O.ext) λT ag=>⟨_,rfl,?_⟩
  have am:=F.trans ag;have o:=l.on am;have bg:=am.size;have X:=Z.ext o.ext;refine⟨o.bM (j:=5) rfl,ah.mk λaV aD=>?_⟩;have yes: ∀ {m:aa} {t:aZ} {b':Sl} {S':Nat->Prop},LD s e=some t->Own eZ F5 m b' t.ar->Mod (λx=>b.af=some x\/x=h.size) T m->m[h.size]? =some (J2 (t.V a b' c).c Ao (0,0))->b'.p=b.p->
    Aw m ⟨h.size,0,none⟩ λt=>aN m ⟨h.size+2,0,none⟩ t.l λI=>Aw I ⟨h.size+2,0,none⟩ λaf=>R (J1 #[af.v,J3 true]) I:=λ{m t b' S'} k aW aE aX aY=>by
   have aF: ∀x,b'.af=some x->b.af=some x:=λx f=>by unfold Sl.af at f ⊢;rw[<- aY];exact f
   refine Aw.mk (t.V a b' c) (Et aX) (mZ (aE.af o.b2 λd=>by
    rcases d with d|d
    ·have:=D _ d;omega
    ·omega) λz aG=>?_)
   have N:=ac z t b' ((o.ext.mod.trans (aE.ai λc _ d=>d.imp id λh=>by omega)).trans (aG.ai λc _ d=> .inr (by omega))) (λx f=> .inl (aF x f)) (λt' u=>?_)
   ·rw[k] at N;exact N
   ·rw[k] at u;cases u;exact⟨rfl,(aW.mod aG λx f d=>by have:=D x (aF x f);omega).view⟩
  have aH: ¬b.af=some h.size:=λf=>by have:=D _ f;omega
  have aI:(LD s e=if e.kind=7\/(e.kind=9/\e.turn=Gf s.prog j) then some {s with ar:=s.ar.eraseIdx i,fresh:=true} else none)->aV (false,()) T:=λY=>by
   refine aD _ _ (ae.no rfl (ah.mk λa0 a1=>?_));have an: ∀y:Bool,(y=true↔e.kind=7\/(e.kind=9/\e.turn=Gf s.prog j))->a0 (y,()) T:=λy J=>by
    refine a1 _ _ (ae.intro (λg=>?_) (λg=>S ?_ am))
    ·rw[if_pos (J.1 g)] at Y;refine AY.mk (s:=b) (o.cH (j:=8) rfl) ?_;show AA A P _ #[_,J6 J9 (i:Int),J6 J9 (J8 J9 ((i:Int)+1))] _ _;rw[Ab (by omega)];refine AJF X aT λq ao B=>⟨⟨b.p,s.ar.length-1,b.cap⟩,rfl,?_⟩
     refine ab.bM (dS:=(({s with ar:=s.ar.eraseIdx i}:aZ).V a ⟨b.p,s.ar.length-1,b.cap⟩ c).c) (B.af o.b0 aH) (of_decide_eq_true rfl) rfl λr a2 L bh=>?_
     refine ab.bM (dS:=(({s with ar:=s.ar.eraseIdx i,fresh:=true}:aZ).V a ⟨b.p,s.ar.length-1,b.cap⟩ c).c) a2 (of_decide_eq_true rfl) rfl λM aj W aQ=>?_
     have aJ:=L.trans W;exact yes (t:= {s with ar:=s.ar.eraseIdx i,fresh:=true}) (b':=⟨b.p,s.ar.length-1,b.cap⟩) (S':=λ_=>True) Y (ao.mod aJ λx f d=>by have:=D x f;omega) ((B.ai λc _ d=> .inl d).trans (aJ.ai λc _ d=> .inr d)) aj rfl
    ·have g:y=false:=g;rw[if_neg λh=>by rw[J.2 h] at g;cases g] at Y;exact Y
   refine AC.mk (o.bM (j:=1) rfl) (ae.intro (λq=>?_) (λq=>?_))
   ·have ap:e.kind=7:=by simpa using q
    exact an _ (by simp[ap])
   ·have ap:e.kind≠7:=by simpa using q
    refine AC.mk (o.bM (j:=1) rfl) (ae.intro (λM=>?_) (λM=>?_))
    ·have aq:e.kind=9:=by simpa using M
     exact an _ (by simp[aq])
    ·have aq:e.kind≠9:=by simpa using M
     exact an _ (by simp[ap,aq])
  refine AC.mk (o.bM (j:=1) rfl) (ae.intro (λr=>?_) (λr=>?_))
  ·have r:e.kind=8:=by simpa using r
   rw[if_pos r] at k;by_cases H:e.turn=Gf s.prog j
   ·rw[if_pos H] at k;have au:(!(e.turn==Gf s.prog j))=false:=by simp[H]
    rw[au];exact aI (by rw[k,if_neg (by omega)])
   ·rw[if_neg H] at k;have au:(!(e.turn==Gf s.prog j))=true:=by simp[H]
    rw[au];refine aD _ _ (ae.yes rfl (AY.mk (s:=b) (o.cH (j:=8) rfl) (X.view.idx G λbi _ a3=>AC.mk (n:=j.turn) (a3 3 _ rfl) (X.view.idx G λa4 a5 _=>?_))));rw[wrap_i64 (by omega) (by omega)];refine Own.store (E:=eZ) (i:=i) (j:=3) (x:=j) (x':= {j with turn:=j.turn+1}) (v:=J6 J9 (j.turn+1)) X G rfl (by decide) (λq ao B aO=>?_) a4 a5;exact yes (t:= {s with ar:=s.ar.set i {j with turn:=j.turn+1}}) (b':=b) (S':=λ_=>True) k ao (B.ai λc _ d=> .inl d) (B.af o.b0 aH) rfl
  ·have r:e.kind≠8:=by simpa using r
   rw[if_neg r] at k;refine aI ?_;rw[k];have:(e.kind=7\/e.turn=Gf s.prog j)↔(e.kind=7\/e.kind=9/\e.turn=Gf s.prog j):=by
    constructor
    ·rintro(h|h)
     ·exact .inl h
     ·by_cases q:e.kind=7
      ·exact .inl q
      ·exact .inr ⟨by omega,h⟩
    ·rintro(h|h)
     ·exact .inl h
     ·exact .inr h.2
   simp only[this]
theorem APB(ad:I1 h s a b c)(M:Own ga GJ h c s.aj)(aH:s.aj.length<=1000)(aI:e.kind=10\/e.kind=11)(k:0<=e.tick/\e.tick<=1099511627776)(ap: ∀x,stepOf s.prog e.step 2=some x->0<=x.wait/\x.wait<=1099511627776)
  (N: ∀v (t:aZ) (o:Sl),Mod (λx=>c.af=some x\/h.size<=x) h v->(∀ x,o.af=some x->c.af=some x\/h.size<=x)->(∀ t',Jt s e=some t'->t=t'/\View ga v o t'.aj)->R (J1 #[(t.V a b o).v,J3 (Jt s e).isSome]) v):AA A P Pk #[(s.V a b c).v,e.v] h R:=by
 refine ACS ?_;unfold VE;refine lC λO g=>AC.mk (g.bM (j:=1) rfl) ?_
 have Q:=g.ext;have aJ:=Q.size;have aK:=Af g.b2;have S: ∀x,c.af=some x->x<h.size:=λx f=>M.lt f
 have af:Jt s e=none-> ∀ {w:aa},Ext O w->Aw w ⟨h.size,0,none⟩ λt=>aN w ⟨h.size+2,0,none⟩ t.l λag=>Aw ag ⟨h.size+2,0,none⟩ λaq=>R (J1 #[aq.v,J3 false]) ag:=λai w x=>by
  refine(g.on x).ret λv ar=>?_
  have:=N v s c ar.mod (λaL au=> .inl au) (λt' k=>by rw[ai] at k;cases k);rw[ai] at this;exact this
 have H: ∀q,c.af=some (h.size+q)->False:=λq f=>by have:=S _ f;omega
 refine ae.intro (λl=>?_) (λl=>?_)
 ·have l:e.kind=10:=by simpa using l
  refine g.eQ (AC.mk (g.bM (j:=4) rfl) (step_ok (ad.steps.ext Q) λT m=>iZ.mk _ ⟨_,rfl,ak.mk λaM _ I av aO=>aN.mk I (A0 6) λU V y aP=>?_⟩));rw[pB] at V;have W:Ext O U:=(m.trans av).more y λc d=>by subst d;exact m.size
  have r:=g.on W;cases J:stepOf s.prog e.step 2 with
  |none=>
   refine ah.mk λK X=>?_
   exact ae.no rfl (X _ _ (af (by unfold Jt;rw[if_pos l,J];rfl) W))
  |some x=>
   refine ah.mk λK X=>?_
   rw[J] at V;obtain⟨aQ,aR⟩:=ap x J;have z:Jt s e=some {s with aj:=s.aj++ [⟨e.id,e.step,e.tick+x.wait⟩]}:=by unfold Jt;rw[if_pos l,J];rfl
   refine ae.yes rfl (AY.mk (s:=c) (r.cH (j:=9) rfl) (AC.mk (r.bM (j:=0) rfl) (AC.mk (r.bM (j:=4) rfl) (AC.mk (r.bM (j:=2) rfl) (AC.mk (n:=x.wait) (AB V rfl) ?_)))));rw[wrap_i64 (by omega) (by omega)];refine ak.aY (E:=ga) (x:=⟨e.id,e.step,e.tick+x.wait⟩) (s:=c) rfl pE (M.ext r.ext) (by omega) (by simp only[maxLen];omega) λo al aw B am aS=>?_
   have aT:=W.size;refine ab.bM (dS:=(({s with aj:=s.aj++ [⟨e.id,e.step,e.tick+x.wait⟩]}:aZ).V a b o).c) (B.af r.b0 (H 0)) (of_decide_eq_true rfl) rfl λax Y L ay=>?_
   refine X _ _ (Aw.mk (({s with aj:=s.aj++ [⟨e.id,e.step,e.tick+x.wait⟩]}:aZ).V a b o) (Et Y) (mZ (L.af (B.af r.b2 (H 2)) (by omega)) λC Z=>?_));have az: ∀x,o.af=some x->c.af=some x\/h.size<=x:=λx f=>(am x f).imp id λh=>by omega
   have D:Mod (λc=>c=h.size\/c=h.size+2) al C:=(L.ai λc _ d=> .inl d).trans (Z.ai λc _ d=> .inr d);have F:=N C {s with aj:=s.aj++ [⟨e.id,e.step,e.tick+x.wait⟩]} o ((r.ext.mod.trans (B.ai λc _ d=> .inl d)).trans (D.ai λc _ d=> .inr (by omega))) az (λt' k=>?_)
   ·rw[z] at F;exact F
   ·rw[z] at k;cases k;refine⟨rfl,(aw.mod D λx f d=>?_).view⟩;rcases am x f with h|h
    ·have:=S x h;omega
    ·omega
 have l:e.kind≠10:=by simpa using l
 have aA:O[h.size+1]? =some (J2 e.c BC (0,0)):=g.b1;refine AY.mk (s:=c) (g.cH (j:=9) rfl) (AQP (p:=λq=>decide (q.id=e.ref)&&decide (q.tick<=e.tick)) (ad.aj.ext Q) (by omega) (λx w aU aC aD=>?_) λT m=>⟨_,rfl,?_⟩)
 ·refine Du.func (first:= #[]) (bQ:= #[Ap (h.size+1)]) (by kernel_rfl) (Zo ?_);unfold Rw;refine ak.mk λT _ an m aV=>?_
  have I:=(aC.trans m).af aA λh=>h
  have:=aD T m;refine AC.mk (n:=x.id) (AL an rfl) (AC.mk (n:=e.ref) (AB I rfl) (ae.intro (λu=>?_) (λu=>?_)))
  ·have u:x.id=e.ref:=by simpa using u
   rw[decide_eq_true u,Ek] at this;exact AC.mk (n:=e.tick) (AB I rfl) (AC.mk (n:=x.tick) (AB an rfl) this)
  ·have u:x.id≠e.ref:=by simpa using u
   rw[decide_eq_false u,Ft] at this;exact this
 cases ac:(s.aj.findIdx? λq=>decide (q.id=e.ref)&&decide (q.tick<=e.tick)) with
 |none=>exact ae.yes rfl (af (by unfold Jt;rw[if_neg l,ac];rfl) m)
 |some i=>
  have aE:i<s.aj.length:=(List.findIdx?_eq_some_iff_getElem.1 ac).1;have z:Jt s e=some {s with aj:=s.aj.eraseIdx i,fresh:=true}:=by unfold Jt;rw[if_neg l,ac];rfl
  have G:=g.on m;have aW:=m.size;show ae (decide ((i:Int)<0)) _ _;refine ae.no (decide_eq_false (by omega)) (AY.mk (s:=c) (G.cH (j:=9) rfl) ?_);show AA A P _ #[_,J6 J9 (i:Int),J6 J9 (J8 J9 ((i:Int)+1))] _ _;rw[Ab (by omega)];refine AJE (M.ext G.ext) aE λU aF y=>⟨⟨c.p,s.aj.length-1,c.cap⟩,rfl,?_⟩
  refine ab.bM (dS:=(({s with aj:=s.aj.eraseIdx i}:aZ).V a b ⟨c.p,s.aj.length-1,c.cap⟩).c) (y.af G.b0 (H 0)) (of_decide_eq_true rfl) rfl λal aG B aX=>?_
  refine ab.bM (dS:=(({s with aj:=s.aj.eraseIdx i,fresh:=true}:aZ).V a b ⟨c.p,s.aj.length-1,c.cap⟩).c) aG (of_decide_eq_true rfl) rfl λax Y L ay=>?_
  have ao:=B.trans L;refine Aw.mk (({s with aj:=s.aj.eraseIdx i,fresh:=true}:aZ).V a b ⟨c.p,s.aj.length-1,c.cap⟩) (Et Y) (mZ (ao.af (y.af G.b2 (H 2)) (by omega)) λC Z=>?_);have D:Mod (λc=>c=h.size\/c=h.size+2) U C:=(ao.ai λc _ d=> .inl d).trans (Z.ai λc _ d=> .inr d);have F:=N C {s with aj:=s.aj.eraseIdx i,fresh:=true} ⟨c.p,s.aj.length-1,c.cap⟩ ((G.ext.mod.trans (y.ai λc _ d=> .inl d)).trans (D.ai λc _ d=> .inr (by omega))) (λx f=> .inl f) (λt' k=>?_)
  ·rw[z] at F;exact F
  ·rw[z] at k;cases k;exact⟨rfl,(aF.mod D λx f d=>by have:=S x f;omega).view⟩
end
theorem Yj {A:al}{m:Type}{E:cz m}{t T:Q7}{n:Nat}(w:Pi P t T E.w n=true){h:aa}{s:Sl}{l:List m}{R:A2O}(v:View E h s l)(y:l.length*n<=140737488355328)(z:l.length<=maxLen)
  (o: ∀d i,Own E T i d l->(∀ c,d.af=some c->h.size<=c)->Ext h i->R (J4 d.p d.len d.cap) i):
  ae (s.p.isNone) (R (J4 none 0 0) h) (ak h (J2 #[] T) λb j=>BI A P (Builtin.append_ #[t,t] t #[J4 (some (⟨b,0,none⟩:Q6)) 0 0,J4 s.p s.len s.cap]) j λv k=> ∃f:Sl,v=J4 f.p f.len f.cap/\R (J4 f.p f.len f.cap) k):=by
 refine ae.intro (λp=>?_) (λp=>?_)
 ·have B:s.p=none:=by simpa using p
  have:l= []:=by
   cases l with
   |nil=>rfl
   |cons x l=>
    obtain⟨a,q,_⟩:=v.cells 0 x rfl;rw[B] at q;cases q
  subst this;exact o ⟨none,0,0⟩ h Own.nil (λc g=>by simp[Sl.af] at g) Mod.refl
 ·refine ak.mk λj _ C r I=>?_
  have D:Own E T j ⟨some ⟨h.size,0,none⟩,0,0⟩ []:=Own.lit (E:=E) (l:= []) C rfl (by simp[maxLen]);refine GX (s:=⟨some ⟨h.size,0,none⟩,0,0⟩) w D (v.ext r) (by simpa using y) (by simpa using z) λd k F G H _=>o d k F (λc g=>?_) (r.more G λc g=>?_)
  ·rcases H c g with u|u
   ·have e:h.size=c:=by simpa [Sl.af] using u
    omega
   ·omega
  ·have e:h.size=c:=by simpa [Sl.af] using g
   omega
section
variable {A : al} {h : aa} {R : A2O} {s : aZ} {e : Ev} {a b c : Sl}
theorem ALa {x:Sl}{l:List Jb}(v:View eZ h x l)(i:l.length<=1000)(g: ∀d f,Own eZ F5 f d l->(∀ c,d.af=some c->h.size<=c)->Ext h f->R (J4 d.p d.len d.cap) f):AA A P Dn #[J4 x.p x.len x.cap] h R:=by refine Jc ?_;unfold FV;exact Yj pD v (by omega) (by simp only[maxLen];omega) g
theorem AMp {x:Sl}{l:List Ck}(v:View ga h x l)(i:l.length<=1000)(g: ∀d f,Own ga GJ f d l->(∀ c,d.af=some c->h.size<=c)->Ext h f->R (J4 d.p d.len d.cap) f):AA A P DD #[J4 x.p x.len x.cap] h R:=by refine IX ?_;unfold Eh;exact Yj pE v (by omega) (by simp only[maxLen];omega) g
theorem AMM {x:Sl}{l:List bO}(v:View Oh h x l)(i:l.length<=1000)(g: ∀d f,Own Oh Bg f d l->(∀ c,d.af=some c->h.size<=c)->Ext h f->R (J4 d.p d.len d.cap) f):AA A P DZ #[J4 x.p x.len x.cap] h R:=by refine I8 ?_;unfold FI;exact Yj xk v (by omega) (by simp only[maxLen];omega) g
structure iP (h:aa) (n:Nat) (t:aZ) (a b c:Sl) (b' c':Sl):Prop where
 at':I1 h t a b' c'
 fb: ∀x,b'.af=some x->b.af=some x\/n<=x
 fc: ∀x,c'.af=some x->c.af=some x\/n<=x
theorem na {x:Nat}{P:Prop}(h:(⟨none,0,0⟩:Sl).af=some x):P:=by simp[Sl.af] at h
theorem AMK(k:I1 h s a b c)(ad:e.kind=1\/12<=e.kind)(W:e.kind=14->0<=s.aX+s.prog.aw/\s.aX+s.prog.aw<=9223372036854775807)
  (T: ∀f (t:aZ) (m n:Sl),Ext h f->(∀ t',Jg s e=some t'->t=t'/\iP f h.size t' a b c m n)->R (J1 #[(t.V a m n).v,J3 (Jg s e).isSome]) f):AA A P RS #[(s.V a b c).v,e.v] h R:=by
 refine AD2 ?_;unfold Wx;refine lC λM d=>AC.mk (d.bM (j:=1) rfl) (ah.mk λK X=>?_)
 have yes: ∀ {t:aZ} {hh:aa} {m n:Sl},(∀ x,m.af=some x->b.af=some x\/h.size<=x)->(∀ x,n.af=some x->c.af=some x\/h.size<=x)->I1 h t a m n->Jg s e=some t-> ∀f,Ext h f->R (J1 #[(t.V a m n).v,J3 true]) f:=λ{t hh m n} Y Z N v f x=>by
  have:=T f t m n x (λt' E=>by rw[v] at E;cases E;exact⟨rfl,⟨N.ext x,Y,Z⟩⟩);rw[v] at this;exact this
 have O: ∀ {t:aZ} {hh:aa},D3 h hh Ao BC Ao (t.V a b c) e bG.z->I1 h t a b c->Jg s e=some t->K () hh:=λ{t hh} d N v=>
  X _ _ (d.ret λf x=>yes (hh:=hh) (λ_ h=> .inl h) (λ_ h=> .inl h) N v f x)
 have no: ∀(t:aZ) (m n:Sl),Jg s e=none-> ∀f,Ext h f->R (J1 #[(t.V a m n).v,J3 false]) f:=λt m n v f x=>by
  have:=T f t m n x (λt' E=>by rw[v] at E;cases E);rw[v] at this;exact this
 have U: ∀r,I1 h (ia s r) a ⟨none,0,0⟩ ⟨none,0,0⟩:=λr=>⟨k.steps,View.nil,View.nil⟩
 refine ae.intro (λg=>?_) (λg=>?_)
 ·have g:e.kind=12:=by simpa using g
  refine d.set (x':=({s with fresh:=true}:aZ).V a b c) (by decide) rfl λC F=>O F ⟨k.steps,k.ar,k.aj⟩ ?_
  unfold Jg;rw[if_pos g]
 have g:e.kind≠12:=by simpa using g
 refine ae.intro (λi=>?_) (λi=>?_)
 ·have i:e.kind=13:=by simpa using i
  refine Aa.mk (d.cH (j:=10) rfl) (ae.intro (λw=>?_) (λw=>?_))
  ·have w:s.cancel=true:=w;refine d.ret (no s b c ?_);unfold Jg;rw[if_neg g,if_pos i,if_pos w]
  ·have w:s.cancel=false:=w;refine d.set (x':=({s with cancel:=true}:aZ).V a b c) (by decide) rfl λC F=>F.set (x':=({s with cancel:=true,fresh:=true}:aZ).V a b c) (by decide) rfl λH Q=>O Q ⟨k.steps,k.ar,k.aj⟩ ?_
   unfold Jg;rw[if_neg g,if_pos i,if_neg (by simp[w])]
 have i:e.kind≠13:=by simpa using i
 refine ae.intro (λl=>?_) (λl=>?_)
 ·have l:e.kind=14:=by simpa using l
  obtain⟨af,ag⟩:=W l;refine ah.mk λab ac=>?_
  have key: ∀(I:Bool),(I=true↔s.aQ=true\/s.prog.aw=0\/e.tick<s.aX+s.prog.aw)->ab (I,()) M:=λI V=>by
   refine ac _ _ (ae.intro (λD=>?_) (λD=>?_))
   ·refine d.ret (no s b c ?_);unfold Jg;rw[if_neg g,if_neg i,if_pos l,if_pos (V.1 D)]
   ·have D:I=false:=D;refine d.set (x':=({s with aQ:=true}:aZ).V a b c) (by decide) rfl λC F=>F.set (x':=({s with aQ:=true,fresh:=true}:aZ).V a b c) (by decide) rfl λH Q=>O Q ⟨k.steps,k.ar,k.aj⟩ ?_
    unfold Jg;rw[if_neg g,if_neg i,if_pos l,if_neg λh=>by rw[V.2 h] at D;cases D]
  refine Aa.mk (d.cH (j:=11) rfl) (ae.intro (λy=>?_) (λy=>?_))
  ·have y:s.aQ=true:=y;exact key _ (by simp[y])
  have y:s.aQ=false:=y;refine AC.mk (d.cH (j:=1) rfl) (ae.intro (λz=>?_) (λz=>?_))
  ·have z:s.prog.aw=0:=by simpa using z
   exact key _ (by simp[z])
  have z:s.prog.aw≠0:=by simpa using z
  refine AC.mk (d.bM (j:=2) rfl) (AC.mk (d.cH (j:=4) rfl) (AC.mk (d.cH (j:=1) rfl) (key _ ?_)));dsimp only;rw[wrap_i64 (by omega) (by omega)];simp[y,z]
 have l:e.kind≠14:=by simpa using l
 refine ae.intro (λo=>?_) (λo=>?_)
 ·have o:e.kind=18:=by simpa using o
  refine d.eQ (Ws λC p=>G9.mk _ ⟨rfl,(d.on p).tell λf x=>yes (hh:=M) (λ_ h=>na h) (λ_ h=>na h) (U 4) ?_ f x⟩);unfold Jg;rw[if_neg g,if_neg i,if_neg l,if_pos o]
 have o:e.kind≠18:=by simpa using o
 have S: ∀(r:Int),(Jg s e=if Oa s then some (ia s r) else none)-> ∀f,Ext h f->R (J1 #[((ia s r).V a ⟨none,0,0⟩ ⟨none,0,0⟩).v,J3 (decide (Oa s))]) f:=λr J f x=>by
  by_cases L:Oa s
  ·rw[if_pos L] at J;rw[decide_eq_true L];exact yes (hh:=M) (λ_ h=>na h) (λ_ h=>na h) (U r) J f x
  ·rw[if_neg L] at J;rw[decide_eq_false L];exact no (ia s r) ⟨none,0,0⟩ ⟨none,0,0⟩ J f x
 refine ae.intro (λq=>?_) (λq=>?_)
 ·have q:e.kind=15:=by simpa using q
  refine d.eQ (Ws λC p=>G9.mk _ ⟨rfl,(d.on p).eQ ⟨d.jg,pC k.ar.len λH G=>⟨_,rfl,((d.on p).on G).tell (S 1 ?_)⟩⟩⟩);unfold Jg;rw[if_neg g,if_neg i,if_neg l,if_neg o,if_pos q]
 have q:e.kind≠15:=by simpa using q
 refine ae.intro (λu=>?_) (λu=>?_)
 ·have u:e.kind=16:=by simpa using u
  refine d.eQ (Ws λC p=>G9.mk _ ⟨rfl,(d.on p).eQ ⟨d.jg,pC k.ar.len λH G=>⟨_,rfl,((d.on p).on G).tell (S 2 ?_)⟩⟩⟩);unfold Jg;rw[if_neg g,if_neg i,if_neg l,if_neg o,if_neg q,if_pos u]
 have u:e.kind≠16:=by simpa using u
 refine ae.intro (λB=>?_) (λB=>?_)
 ·have B:e.kind=17:=by simpa using B
  refine d.eQ (Ws λC p=>G9.mk _ ⟨rfl,(d.on p).eQ ⟨d.jg,pC k.ar.len λH G=>⟨_,rfl,((d.on p).on G).tell (S 3 ?_)⟩⟩⟩);unfold Jg;rw[if_neg g,if_neg i,if_neg l,if_neg o,if_neg q,if_neg u,if_pos B]
 have B:e.kind≠17:=by simpa using B
 refine d.ret (no s b c ?_);unfold Jg;rw[if_neg g,if_neg i,if_neg l,if_neg o,if_neg q,if_neg u,if_neg B]
theorem AMZ {e:Ev}(h:EX e=true):0<=e.turn/\e.turn<=5:=by
 have d:=LQ h;unfold Ed at d;simp only[A3] at d;have:=d.1.1.2;unfold cY at this;split at this
 ·have:=BR.1 this;omega
 ·have:=of_decide_eq_true this;omega
theorem AI8 {p:ct}{f g:Int}{x:bO}(h:stepOf p f g=some x):x∈p.steps:=by
 unfold stepOf at h;split at h
 ·obtain⟨j,i,d⟩:=Option.bind_eq_some_iff.1 h;split at d
  ·cases d;exact AK i
  ·cases d
 ·cases h
theorem pG {n:Nat}(aK:I1 h s a b c)(M:De s n)(bO:n<=600)(hd:e.data.size<1099511627776)
  (aL: ∀O y k l,Ext h O->I1 O (Bh s e).2 y k l->(∀ x,y.af=some x\/k.af=some x\/l.af=some x->h.size<=x)->R (J1 #[((Bh s e).2.V y k l).v,J6 J9 (Bh s e).1]) O):AA A P Jf #[(s.V a b c).v,e.v] h R:=by
 refine ADb ?_;unfold Vj;refine lC λbP am=>am.jX (Zb hd λa2 bn=>⟨_,rfl,?_⟩)
 have q:=am.on bn;have bo: ∀x,(⟨none,0,0⟩:Sl).af=some x\/(⟨none,0,0⟩:Sl).af=some x\/(⟨none,0,0⟩:Sl).af=some x->h.size<=x:=λx d=>by simp[Sl.af] at d
 have aq: ∀(n:Int),Bh s e=(n,Qs)-> ∀O,Ext h O->R (J1 #[bG.z.v,J6 J9 n]) O:=λn a3 O x=>by
  have:=aL O ⟨none,0,0⟩ ⟨none,0,0⟩ ⟨none,0,0⟩ x (by rw[a3];exact⟨View.nil,View.nil,View.nil⟩) bo;rw[a3] at this;exact this
 refine ae.intro (λD=>?_) (λD=>?_)
 ·have I:EX e=false:=by
   cases E:EX e with
   |false=>rfl
   |true=>rw[E] at D;simp at D
  exact q.tell (aq 120 (by unfold Bh;rw[if_pos I]))
 have I:EX e=true:=by
  cases E:EX e with
  |true=>rfl
  |false=>rw[E] at D;simp at D
 obtain⟨bQ,bR,bp,bq,_⟩:=Qz I;refine AC.mk (q.cH (j:=3) rfl) (ae.intro (λF=>?_) (λF=>?_))
 ·have F:s.next=0:=by simpa using F
  refine ah.mk λK br=>?_
  have key: ∀aA:Bool,(aA=true↔ ¬(e.kind=1/\e.id=1))->K (aA,()) a2:=λaA a4=>by
   refine br _ _ (ae.intro (λD=>?_) (λD=>?_))
   ·exact q.tell (aq 120 (by unfold Bh;rw[if_neg (by simp[I]),if_pos F,if_neg (a4.1 D)]))
   ·have D:aA=false:=D;have m:e.kind=1/\e.id=1:=Decidable.byContradiction λh=>by rw[a4.2 h] at D;cases D
    obtain⟨p,aM,bS⟩:=bq m.1;refine AJ.mk (q.bM (j:=7) rfl) (xp hd λaC sl aD aO=>?_);obtain⟨aO,a5⟩:=aO p aM;rw[aM];refine⟨sl,p.aw,0,rfl,?_⟩;have V:=q.on aD;refine ak.mk λaP _ bs W bt=>?_
    have a6:=V.on W;have bT:=V.b2;refine ab.two bs λa7 a8 X bu=>?_
    have a9:Ext aC a7:=W.more X λc g=>by subst g;exact A0 _
    have an:=V.on a9;refine AY.mk (s:=sl) (AL a8 rfl) (AC.mk (AB a8 rfl) (AC.mk (an.bM (j:=2) rfl) (an.iH λba Q bv=>?_)));have ar:Bh s e=(0,WU e):=by unfold Bh;rw[if_neg (by simp[I]),if_pos F,if_pos m]
    have bb:WU e=⟨p,0,2,e.tick,0,0,true,[],[],false,false⟩:=by unfold WU;rw[aM];rfl
    have bU:=q.ext.size;have:=aL ba sl ⟨none,0,0⟩ ⟨none,0,0⟩ Q (by rw[ar,bb];exact⟨(aO.ext a9).mod bv (λc g i=>by have:=a5 c g;have:=Af q.b2;omega),View.nil,View.nil⟩) (λx d=>by
     rcases d with d|d|d
     ·have:=a5 x d;omega
     ·simp[Sl.af] at d
     ·simp[Sl.af] at d)
    rw[ar,bb] at this;exact this
  refine AC.mk (q.bM (j:=1) rfl) (ae.intro (λm=>key _ (by simp at m;simp[m])) (λm=>AC.mk (q.bM (j:=0) rfl) (key _ (by simp at m;simp[m]))))
 have F:s.next≠0:=by simpa using F
 refine AC.mk (q.cH (j:=2) rfl) (ae.intro (λm=>?_) (λm=>?_))
 ·have m:s.status≠0:=by simpa using m
  exact q.tell (aq 182 (by unfold Bh;rw[if_neg (by simp[I]),if_neg F,if_pos m]))
 have m:s.status=0:=by simpa using m
 refine AC.mk (q.bM (j:=0) rfl) (AC.mk (q.cH (j:=3) rfl) (ae.intro (λS=>?_) (λS=>?_)))
 ·have S:e.id≠s.next:=by simpa using S
  exact q.tell (aq 120 (by unfold Bh;rw[if_neg (by simp[I]),if_neg F,if_neg (by simp[m]),if_pos S]))
 have S:e.id=s.next:=by simpa using S
 refine AY.mk (s:=b) (q.cH (j:=8) rfl) (ALa ((aK.ext q.ext).ar) (by have:=M.ar;omega) λk aC aQ Y aD=>⟨_,rfl,?_⟩);have V:=q.on aD;refine AY.mk (s:=c) (V.cH (j:=9) rfl) ⟨q.cH (j:=9) rfl,AMp ((aK.ext V.ext).aj) (by have:=M.aj;omega) λl aP aR Z W=>⟨_,rfl,?_⟩⟩;have a6:=V.on W;have bV:=Af q.b2;have bW:=aD.size;have bt:=W.size;refine a6.ij (x':=s.V a k c) (by decide) rfl λbX bw au=>bw.ij (x':=s.V a k l) (by decide) rfl λa7 an X=>?_
 have bY:=au.size;have bu:=X.size;refine AY.mk (s:=a) (an.cH (j:=0) rfl) (AMM ((aK.ext an.ext).steps) (by have:=M.steps;omega) λy ba bc bd Q=>⟨_,rfl,?_⟩);have bx:=an.on Q;refine bx.oI (x':=s.V y k l) rfl λz r ac=>AC.mk (r.bM (j:=1) rfl) ?_
 have T:I1 z s y k l:=by have av:=(((aQ.view.ext W).mod au (λx d i=>by have:=Y x d;omega)).mod X (λx d i=>by have:=Y x d;omega));have vc:=((aR.view.mod au (λx d i=>by have:=Z x d;omega)).mod X (λx d i=>by have:=Z x d;omega));exact⟨bc.view.mod ac (λx d i=>by have:=bd x d;omega),(av.ext Q).mod ac (λx d i=>by have:=Y x d;omega),(vc.ext Q).mod ac (λx d i=>by have:=Z x d;omega)⟩
 have bz:Own eZ F5 z k s.ar:=((((aQ.ext W).mod au (λx d i=>by have:=Y x d;omega)).mod X (λx d i=>by have:=Y x d;omega)).ext Q).mod ac (λx d i=>by have:=Y x d;omega);have bA:Own ga GJ z l s.aj:=(((aR.mod au (λx d i=>by have:=Z x d;omega)).mod X (λx d i=>by have:=Z x d;omega)).ext Q).mod ac (λx d i=>by have:=Z x d;omega);have ao: ∀x,k.af=some x->a2.size<=x/\x<aC.size:=λx d=>⟨Y x d,aQ.lt d⟩
 have ap: ∀x,l.af=some x->aC.size<=x/\x<aP.size:=λx d=>⟨Z x d,aR.lt d⟩
 have aS: ∀x,y.af=some x->aP.size<=x/\x<z.size:=λx d=>⟨by have:=bd x d;omega,by have:=bc.lt d;have:=ac.size;omega⟩
 have bZ:=Q.size;have b0:=ac.size;have fr: ∀(dT dU:Sl),(∀ x,dT.af=some x->k.af=some x\/h.size+3<=x)->(∀ x,dU.af=some x->l.af=some x\/h.size+3<=x)-> ∀x,y.af=some x\/dT.af=some x\/dU.af=some x->h.size+3<=x:=λdT dU i g x d=>by
  rcases d with d|d|d
  ·have:=aS x d;omega
  ·rcases i x d with h|h
   ·have:=ao x h;omega
   ·omega
  ·rcases g x d with h|h
   ·have:=ap x h;omega
   ·omega
 refine ah.mk λaT bB=>?_
 have key: ∀ {o:Option aZ} {t:aZ} {dT dU:Sl} {B:aa},OT s e=o.map (λt=> {t with next:=s.next+1})->(∀ t',o=some t'->t=t'/\t'.next=s.next/\iP B (h.size+3) t' y k l dT dU)->D3 h B Ao BC Ao (t.V y dT dU) e bG.z->aT (o.isSome,()) B:=λ{o t dT dU B} be aU am=>by
  refine bB _ _ ?_;cases o with
  |none=>
   refine ae.yes rfl (am.tell (aq 120 ?_));unfold Bh;rw[if_neg (by simp[I]),if_neg F,if_neg (by simp[m]),if_neg (by simp[S]),be];rfl
  |some t'=>
   obtain⟨rfl,bC,L⟩:=aU t' rfl;have u:=fr dT dU L.fb L.fc;have b1:=M.next;refine ae.no rfl (AC.mk (am.cH (j:=3) rfl) ?_);rw[wrap_i64 (by show _<=t.next+1;omega) (by show t.next+1<=_;omega)];refine am.ij (x':=({t with next:=s.next+1}:aZ).V y dT dU) (by decide) (by rw[<- bC];rfl) λaE N bD=>N.oJ λaw bE C=>?_
   have ar:Bh s e=(0,{t with next:=s.next+1}):=by unfold Bh;rw[if_neg (by simp[I]),if_neg F,if_neg (by simp[m]),if_neg (by simp[S]),be];rfl
   have:=aL aw y dT dU bE (by
    rw[ar];have J:=L.at'.mod bD (λx d i=>by have:=u x (.inl d);omega) (λx d i=>by have:=u x (.inr (.inl d));omega) (λx d i=>by have:=u x (.inr (.inr d));omega);have U:=J.mod C (λx d i=>by have:=u x (.inl d);omega) (λx d i=>by have:=u x (.inr (.inl d));omega) (λx d i=>by have:=u x (.inr (.inr d));omega);exact⟨U.steps,U.ar,U.aj⟩) (λx d=>by have:=u x d;omega)
   rw[ar] at this;exact this
 refine ah.mk λbf aF=>?_
 have aG:2<=e.kind/\e.kind<=5->bf (true,()) z:=λaH=>by
  refine aF _ _ (ae.yes rfl (r.eQ (r.jX (AHq aH λaE aI=>G9.mk _ ⟨_,rfl,?_⟩))));have N:=r.on aI;refine N.mC λaw ad C=>key (o:=Dj s e) (t:=(Dj s e).getD s) (dT:=k) (dU:=l) (by unfold OT;rw[if_pos aH]) (λt' G=>?_) ad
  rw[G,JT];obtain⟨J,U,aJ,bg⟩:=Pj G;have aV:=(T.ext aI).mod C (λx d i=>by have:=fr k l (λ_ h=> .inl h) (λ_ h=> .inl h) x (.inl d);omega) (λx d i=>by have:=fr k l (λ_ h=> .inl h) (λ_ h=> .inl h) x (.inr (.inl d));omega) (λx d i=>by have:=fr k l (λ_ h=> .inl h) (λ_ h=> .inl h) x (.inr (.inr d));omega);exact⟨rfl,J.next,⟨by rw[J.prog];exact aV.steps,by rw[U];exact aV.ar,by rw[aJ];exact aV.aj⟩,λ_ h=> .inl h,λ_ h=> .inl h⟩
 have bF:e.kind=1\/12<=e.kind->bf (false,()) z:=λaH=>by
  refine aF _ _ (ae.no rfl (ah.mk λaW ax=>?_));have H: ∀ {n:Int},6<=n->n<=11->(e.kind==n)=false:=λ{n} bH bI=>by simp;omega
  refine ae.no (H (by decide) (by decide)) (ae.no (H (by decide) (by decide)) (ae.no (H (by decide) (by decide)) ?_));rw[H (n:=9) (by decide) (by decide)];refine ax _ _ (ae.no rfl (ah.mk λbh aX=>ae.no (H (by decide) (by decide)) ?_));rw[H (n:=11) (by decide) (by decide)];refine aX _ _ (ae.no rfl (r.eQ (r.jX (AMK T aH (λ_=>by have:=M.aX;have:=M.aw;omega) λaE t dT dU aI aU=>G9.mk _ ⟨_,rfl,?_⟩))));have N:=r.on aI;refine N.mC λaw ad C=>key (o:=Jg s e) (t:=t) (by unfold OT;rw[if_neg (by omega),if_neg (by omega),if_neg (by omega)]) (λt' G=>?_) ad
  obtain⟨rfl,L⟩:=aU t' G;have ay: ∀x,dT.af=some x->k.af=some x\/h.size+3<=x:=λx d=>(L.fb x d).imp id λh=>by omega
  have az: ∀x,dU.af=some x->l.af=some x\/h.size+3<=x:=λx d=>(L.fc x d).imp id λh=>by omega
  have u:=fr dT dU ay az;exact⟨rfl,(wg G).1.next,L.at'.mod C (λx d i=>by have:=u x (.inl d);omega) (λx d i=>by have:=u x (.inr (.inl d));omega) (λx d i=>by have:=u x (.inr (.inr d));omega),ay,az⟩
 refine ae.intro (λaf=>?_) (λaf=>?_)
 ·have b2:e.kind=2:=by simpa using af
  have af:(e.kind==(2:Int))=true:=af;rw[af];exact aG (by omega)
 refine ae.intro (λag=>?_) (λag=>?_)
 ·have b3:e.kind=3:=by simpa using ag
  have ag:(e.kind==(3:Int))=true:=ag;rw[ag];exact aG (by omega)
 refine ae.intro (λai=>?_) (λai=>?_)
 ·have b4:e.kind=4:=by simpa using ai
  have ai:(e.kind==(4:Int))=true:=ai;rw[ai];exact aG (by omega)
 have af:e.kind≠2:=by simpa using af
 have ag:e.kind≠3:=by simpa using ag
 have ai:e.kind≠4:=by simpa using ai
 cases aY:(e.kind==(5:Int)) with
 |true=>
  have:e.kind=5:=by simpa using aY
  exact aG (by omega)
 |false=>
  have aY:e.kind≠5:=by simpa using aY
  by_cases a0:6<=e.kind/\e.kind<=9
  ·have bJ: ∀ {B:aa} {t:aZ} {dT:Sl},Mod (λx=>k.af=some x\/z.size<=x) z B->(∀ x,dT.af=some x->k.af=some x\/z.size<=x)->(∀ t',LD s e=some t'->t=t'/\View eZ B dT t'.ar)->aN B ⟨h.size,0,none⟩ (t.V y dT l).l λm=>aT ((LD s e).isSome,()) m:=λ{B t dT} w f E=>by
    have aj: ∀v,v<h.size+3-> ¬(k.af=some v\/z.size<=v):=λv bK h=>by
     rcases h with h|h
     ·have:=ao v h;omega
     ·omega
    have N:D3 h B Ao BC Ao (s.V y k l) e bG.z:=⟨r.ext.more w λc g=>by
     rcases g with g|g
     ·have:=ao c g;omega
     ·omega,w.af r.b0 (aj _ (by omega)),w.af r.b1 (aj _ (by omega)),w.af r.b2 (aj _ (by omega))⟩
    have ay: ∀x,dT.af=some x->k.af=some x\/h.size+3<=x:=λx d=>(f x d).imp id λh=>by omega
    refine N.mC λaw ad C=>key (o:=LD s e) (t:=t) (by unfold OT;rw[if_neg (by omega),if_pos a0]) (λt' G=>?_) ad
    obtain⟨rfl,av⟩:=E t' G;obtain⟨J,U,aJ,bg⟩:=wh G;have u:=fr dT l ay λ_ h=> .inl h
    have a1:=T.steps.mod w λx d g=>by
     have:=aS x d;rcases g with g|g
     ·have:=ao x g;omega
     ·omega
    have vc:=T.aj.mod w λx d g=>by
     have:=ap x d;rcases g with g|g
     ·have:=ao x g;omega
     ·omega
    exact⟨rfl,J.next,⟨by rw[J.prog];exact a1.mod C (λx d i=>by have:=u x (.inl d);omega),av.mod C (λx d i=>by have:=u x (.inr (.inl d));omega),by rw[aJ];exact vc.mod C (λx d i=>by have:=u x (.inr (.inr d));omega)⟩,ay,λ_ h=> .inl h⟩
   refine aF _ _ (ae.no rfl (ah.mk λaW ax=>?_));have al:aW (true,()) z:=ax _ _ (ae.yes rfl (r.eQ (r.jX (AQA T bz (by have:=M.ar;omega) a0 (by have:=AMZ I;omega) λaE t dT w f E=>G9.mk _ ⟨_,rfl,bJ w f E⟩))));refine ae.intro (λv=>?_) (λbi=>ae.intro (λv=>?_) (λbj=>ae.intro (λv=>?_) (λbk=>?_)))
   ·rw[v];exact al
   ·rw[v];exact al
   ·rw[v];exact al
   ·have bi:e.kind≠6:=by simpa using bi
    have bj:e.kind≠7:=by simpa using bj
    have bk:e.kind≠8:=by simpa using bk
    have bL:(e.kind==(9:Int))=true:=by simp;omega
    rw[bL];exact al
  ·by_cases g:e.kind=10\/e.kind=11
   ·have bM: ∀ {B:aa} {t:aZ} {dU:Sl},Mod (λx=>l.af=some x\/z.size<=x) z B->(∀ x,dU.af=some x->l.af=some x\/z.size<=x)->(∀ t',Jt s e=some t'->t=t'/\View ga B dU t'.aj)->aN B ⟨h.size,0,none⟩ (t.V y k dU).l λm=>aT ((Jt s e).isSome,()) m:=λ{B t dU} w f E=>by
     have aj: ∀v,v<h.size+3-> ¬(l.af=some v\/z.size<=v):=λv bK h=>by
      rcases h with h|h
      ·have:=ap v h;omega
      ·omega
     have N:D3 h B Ao BC Ao (s.V y k l) e bG.z:=⟨r.ext.more w λc g=>by
      rcases g with g|g
      ·have:=ap c g;omega
      ·omega,w.af r.b0 (aj _ (by omega)),w.af r.b1 (aj _ (by omega)),w.af r.b2 (aj _ (by omega))⟩
     have az: ∀x,dU.af=some x->l.af=some x\/h.size+3<=x:=λx d=>(f x d).imp id λh=>by omega
     refine N.mC λaw ad C=>key (o:=Jt s e) (t:=t) (by unfold OT;rw[if_neg (by omega),if_neg a0,if_pos g]) (λt' G=>?_) ad
     obtain⟨rfl,vc⟩:=E t' G;obtain⟨J,U,aJ,bg⟩:=wk G;have u:=fr k dU (λ_ h=> .inl h) az;have a1:=T.steps.mod w λx d g=>by
      have:=aS x d;rcases g with g|g
      ·have:=ap x g;omega
      ·omega
     have av:=T.ar.mod w λx d g=>by
      have:=ao x d;rcases g with g|g
      ·have:=ap x g;omega
      ·omega
     exact⟨rfl,J.next,⟨by rw[J.prog];exact a1.mod C (λx d i=>by have:=u x (.inl d);omega),by rw[U];exact av.mod C (λx d i=>by have:=u x (.inr (.inl d));omega),vc.mod C (λx d i=>by have:=u x (.inr (.inr d));omega)⟩,λ_ h=> .inl h,az⟩
    have H: ∀ {n:Int},6<=n->n<=9->(e.kind==n)=false:=λ{n} bH bI=>by simp;omega
    refine aF _ _ (ae.no rfl (ah.mk λaW ax=>?_));refine ae.no (H (by decide) (by decide)) (ae.no (H (by decide) (by decide)) (ae.no (H (by decide) (by decide)) ?_));rw[H (n:=9) (by decide) (by decide)];refine ax _ _ (ae.no rfl (ah.mk λbh aX=>?_));have al:bh (true,()) z:=aX _ _ (ae.yes rfl (r.eQ (r.jX (APB T bA (by have:=M.aj;omega) g bp (λx d=>by have:=M.waits x (AI8 d);omega) λaE t dU w f E=>G9.mk _ ⟨_,rfl,bM w f E⟩))));refine ae.intro (λv=>?_) (λbm=>?_)
    ·rw[v];exact al
    ·have bm:e.kind≠10:=by simpa using bm
     have bN:(e.kind==(11:Int))=true:=by simp;omega
     rw[bN];exact al
   ·exact bF (by omega)
end
theorem N9 {n:Int}(a:0<=n)(b:n<=9223372036854775807):J8 .u64 n=((n.toNat:Nat):Int):=by
 have:n=((n.toNat:Nat):Int):=by omega
 rw[this,Bv (by omega)];simp
theorem MN {f:Bool}{n:Int}(a:n<=9223372036854775807):(SB f n).length<=10:=by
 cases f with
 |false=>exact AD _
 |true=>exact AV (by omega)
theorem Zh {h:al}{b:aa}{a:Q6}{f e n:Int}{fl:Bool}{d:List UInt8}{K:A2P×Unit->aa->Prop}(i:(GU J9 f e != (0:Int))=fl)(j:ag b a=some (J6 J9 n))(k:fl=true->0<=n/\n<=1099511627776)
  (m:d.length<=100000) (g: ∀c,Ext b c->K (AX (d++SB fl n),()) c):
  ae (GU J9 f e != (0:Int)) (AC J9 b a λt=>AA h P Av #[.int .u64 (J8 .u64 t)] b λv c=> ∃x:A2P,v=J7 x/\(aH ((((AX d).size+x.size:Nat):Int)<=IntKind.i64.max)<|K ((AX d)++x,()) c)) (K (AX d,()) b):=by
 rw[i];cases fl with
 |false=>
  have:=g b Mod.refl;simp only[SB,Cl,if_false,AM] at this;exact ae.no rfl this
 |true=>
  obtain⟨l,o⟩:=k rfl;refine ae.yes rfl (AC.mk j ?_);rw[N9 l (by omega)];have:=AV (n:=n.toNat) (by omega);refine CR (by omega) λc x=>⟨_,rfl,⟨by rw[AP,AP,max_i64];omega,?_⟩⟩
  have:=g c x;simp only[SB,if_true] at this;rw[Ak];exact this
theorem qX {f:Bool}{a b c:Int}(d:cY f a b c=true)(g:0<=b)(h:c<=1099511627776):f=true->0<=a/\a<=1099511627776:=λe=>by
 subst e;simp only[cY,if_true,BR] at d;omega
def om(a:Ev):J0:=J1 #[J7 (AX (if EX a then Mw a else [])),J6 J9 (if EX a then 0 else 120)]
theorem AKD {R:al}{a:aa}{e:Ev}{k:A2O}(hd:e.data.size<1099511627776)(u: ∀c,Ext a c->k (om e) c):AA R P Nz #[og e] a k:=by
 refine AA0 ?_;unfold Tc;refine ak.mk λar _ b v au=>?_
 refine AC.mk (AL b rfl) (AC.mk (AB b rfl) (AC.mk (AB b rfl) (AC.mk (AB b rfl) (AC.mk (AB b rfl) (AC.mk (AB b rfl) (Aa.mk (AB b rfl) (AJ.mk (AB b rfl) ?_)))))));refine Zb (e:=e) hd λw l=>⟨_,rfl,?_⟩
 cases m:EX e with
 |false=>
  refine ae.yes rfl ?_;have:=u w (v.trans l);rw[om,m] at this;exact this
 |true=>
  refine ae.no rfl ?_;have y: ∀c,Ext w c->k (J1 #[J7 (AX (Mw e)),J6 J9 0]) c:=λc x=>by
   have:=u c ((v.trans l).trans x);rw[om,m] at this;exact this
  have h:=l.af b (λa=>a);have z:=LQ m;simp only[Ed,A3] at z;obtain⟨⟨⟨⟨⟨⟨⟨S,T⟩,U⟩,o⟩,p⟩,q⟩,av⟩,aw⟩:=z;have ax:=BR.1 S;have ay:=BR.1 T;have az:=BR.1 U;obtain⟨V,W,X,Y,Z⟩:=qV e.kind;refine AC.mk (AB h rfl) (WS ⟨_,_,rfl,?_⟩);refine AC.mk (AL h rfl) ?_;rw[N9 (n:=e.id) (by omega) (by omega)];refine CR (by omega) λaA A=>⟨_,rfl,?_⟩
  have r:=A.af h (λa=>a);refine AC.mk (n:=e.kind) (AB r rfl) ⟨AB h rfl,?_⟩;rw[N9 (n:=e.kind) (by omega) (by omega)];have aC:=AV (n:=e.id.toNat) (by omega);have aD:=AV (n:=e.kind.toNat) (by omega);have aE:=AV (n:=e.tick.toNat) (by omega);refine CR (by omega) λaF B=>⟨_,rfl,⟨by rw[AP,AP,max_i64];omega,?_⟩⟩
  have C:=B.af r (λa=>a);refine AC.mk (n:=e.tick) (AB C rfl) ⟨AB r rfl,AB h rfl,?_⟩;rw[N9 (n:=e.tick) (by omega) (by omega)];refine CR (by omega) λaG D=>⟨_,rfl,⟨by rw[Ak,AP,AP,max_i64,A1];omega,?_⟩⟩
  have E:=D.af C (λa=>a);have ab:=(A.trans B).trans D;rw[Ak,Ak];refine ah.mk λK ac=>?_
  have aH:=MN (f:=cX e.kind) (n:=e.ref) (by cases i:cX e.kind<;>rw[i] at o<;>simp[cY,bU] at o<;>omega);have aI:=MN (f:=dk e.kind) (n:=e.step) (by cases i:dk e.kind<;>rw[i] at p<;>simp[cY,bU] at p<;>omega);have aJ:=MN (f:=dw e.kind) (n:=e.turn) (by cases i:dw e.kind<;>rw[i] at q<;>simp[cY,bU] at q<;>omega);have aK:=MN (f:=dP e.kind) (n:=if e.aL then 1 else 0) (by split<;>omega);refine Zh (fl:=cX e.kind) (n:=e.ref) (by rw[V,Lp (by decide)]) (AB E rfl) (qX o (by decide) (by omega)) (by simp only[A1];omega) λaL F=>ac _ _ ?_
  have G:=F.af E (λa=>a);refine ah.mk λaM ad=>?_
  refine Zh (fl:=dk e.kind) (n:=e.step) (by rw[W,Lp (by decide)]) (AB G rfl) (qX p (by decide) (by omega)) (by simp only[A1];omega) λaN H=>ad _ _ ?_
  have I:=H.af G (λa=>a);refine ah.mk λaO af=>?_
  refine Zh (fl:=dw e.kind) (n:=e.turn) (by rw[X,Lp (by decide)]) (AB I rfl) (qX q (by decide) (by omega)) (by simp only[A1];omega) λs J=>af _ _ ?_
  have L:=J.af I (λa=>a);have M:=((ab.trans F).trans H).trans J;refine ah.mk λag ai=>?_
  have N: ∀g,Ext s g->ag (AX (((BX e.id.toNat++BX e.kind.toNat++BX e.tick.toNat++SB (cX e.kind) e.ref)++SB (dk e.kind) e.step++SB (dw e.kind) e.turn)++SB (dP e.kind) (if e.aL then 1 else 0)),()) g:=λg j=>by
   refine ai _ _ ?_;have aj:=j.af L (λa=>a);refine ah.mk λaP O=>?_
   rw[Z,Lp (by decide)];refine ae.intro (λd=>?_) (λd=>?_)
   ·refine AJ.mk (AB aj rfl) (LK (by omega) λam an=>⟨_,rfl,⟨?_,O _ _ ?_⟩⟩)
    ·have:=AV (n:=(bl e.data).length) (by rw[BA];omega);rw[AP,AP,max_i64];simp only[BP,A1,BA] at this ⊢;omega
    ·have:=y am ((M.trans j).trans an);dsimp only;rw[Ak];simp only[Mw,gN,d,if_true] at this;simp only[A4] at this ⊢;exact this
   ·refine O _ _ ?_;have:=y g (M.trans j);simp only[Mw,gN,d,Cl,if_false,AM] at this;simp only[A4] at this ⊢;exact this
  rw[Y,Lp (by decide)];refine ae.intro (λd=>?_) (λd=>?_)
  ·refine ah.mk λao ap=>Aa.mk (AB L rfl) ?_
   have Q: ∀n:Nat,n<=1->(n:Int)=(if e.aL then 1 else 0)->ao ((n:Int),()) s:=λn aQ aq=>by
    refine ap _ _ ?_;have:=AV (n:=n) (by omega);refine CR (by omega) λg j=>⟨_,rfl,⟨?_,?_⟩⟩
    ·dsimp only;rw[AP,AP,max_i64];simp only[A1];omega
    ·have:=N g j;rw[<- aq] at this;simp only[SB,d,if_true,A6] at this;dsimp only;rw[Ak];exact this
   refine ae.intro (λt=>Q 1 (by omega) (by rw[t];rfl)) (λt=>Q 0 (by omega) (by rw[t];rfl))
  ·have:=N s Mod.refl;simp only[SB,d,Cl,if_false,AM] at this;exact this
theorem MW(f:Bool)(m:Nat)(a:Rd):(Ec f m a).2.rest.length<=a.rest.length:=by
 cases f with
 |false=>exact A0 _
 |true=>exact Fh m a
theorem APN(f:Bool)(a:Rd):(TH f a).2.rest.length<=a.rest.length/\(TH f a).1.length<=a.rest.length:=by
 cases f with
 |false=>exact⟨A0 _,AD _⟩
 |true=>exact Ni a
theorem ANM(b:jO)(c:Rd):(Pb b c).2.rest.length<=c.rest.length/\(Pb b c).1.data.size<=c.rest.length:=by
 simp only[Pb,AP];have d:=Fh b.id c;have e:=Fh b.kind (Bu b.id c).2;have f:=Fh b.tick (Bu b.kind (Bu b.id c).2).2;generalize Bu b.tick (Bu b.kind (Bu b.id c).2).2=t at*
 generalize ((Bu b.kind (Bu b.id c).2).1:Int)=a at*
 have g:=MW (cX a) b.ref t.2;have h:=MW (dk a) b.step (Ec (cX a) b.ref t.2).2;have i:=MW (dw a) b.turn (Ec (dk a) b.step (Ec (cX a) b.ref t.2).2).2;have j:=MW (dP a) 1 (Ec (dw a) b.turn (Ec (dk a) b.step (Ec (cX a) b.ref t.2).2).2).2;have k:=APN (dQ a) (Ec (dP a) 1 (Ec (dw a) b.turn (Ec (dk a) b.step (Ec (cX a) b.ref t.2).2).2).2).2;omega
theorem qY {w:al}{a:aa}{b d g:Nat}{f l:Int}{m:Nat}{fl:Bool}{h:Rd}{e:Array J0}{T:Q7}{K:Unit->aa->Prop}(x:(GU J9 f l != (0:Int))=fl)(n:Ir a b h)(y:h.rest.length<=1099511627776)
  (z:m<=9223372036854775807) (o:a[d]? =some (J2 e T (0,0))) (A:g<e.size) (B:e.setIfInBounds g (J6 J9 0)=e) (p:b≠d)
  (q: ∀i,Ir i b (Ec fl m h).2->i[d]? =some (J2 (e.setIfInBounds g (J6 J9 ((Ec fl m h).1:Int))) T (0,0))->Mod (λc=>c=b\/c=d) a i->K () i):
  ae (GU J9 f l != (0:Int)) (AA w P Ad #[Ap b,J6 J9 (m:Int)] a λv r=> ∃t:Int,v=J6 J9 t/\(ab r ((⟨d,0,none⟩:Q6).add g) (J6 J9 t) λj=>K () j)) (K () a):=by
 rw[x];cases fl with
 |false=>exact ae.no rfl (q a n (by simp only[Ec,Cl,if_false];rw[show(((0:Nat):Int))=(0:Int) from rfl,B];exact o) Mod.refl)
 |true=>
  refine ae.yes rfl (DW n y z λr C s=>⟨_,rfl,?_⟩);refine ab.dm (s.af o p.symm) A λj D u E=>?_
  exact q j (u.af C p) D ((s.ai λc _ k=> .inl k).trans (u.ai λc _ k=> .inr k))
abbrev xq(i b t a s c:Int)(u:Bool)(d:A2P):Array J0:= #[J6 J9 i,J6 J9 b,J6 J9 t,J6 J9 a,J6 J9 s,J6 J9 c,J3 u,J7 d]
theorem AON {au:al}{b:aa}{e:Nat}{d:Rd}{M:A2O}(N:Ir b e d)(bb:d.rest.length<1099511627776)
  (O: ∀E,Ir E e (Pb fA d).2->Mod (· =e) b E->M (og (Pb fA d).1) E):AA au P RL #[Ap e] b M:=by
 refine ADk ?_;unfold YG;have bc:=Af N;refine ak.mk λy _ Q z av=>?_
 have R:=z.af N (λb=>b);have bd:Bu 500 d=Bu fA.id d:=rfl;have be:=Fh 500 d;have bf:=Fh 18 (Bu 500 d).2;have bg:=Fh 1099511627776 (Bu 18 (Bu 500 d).2).2;refine DW (most:=500) R (by omega) (by decide) λbh S A=>⟨_,rfl,?_⟩
 refine DW (most:=18) S (by omega) (by decide) λbi T U=>⟨_,rfl,?_⟩
 refine DW (most:=1099511627776) T (by omega) (by decide) λu F V=>⟨_,rfl,?_⟩
 have n:=(A.trans U).trans V;have W:=n.af Q (by omega);have aw:y.size<=u.size:=n.size;refine ak.mk λbj _ X B ax=>ab.eight X λay Y C az=>?_
 have o:e≠u.size:=by have:=Af F;omega
 have aA:b.size≠u.size:=by omega
 have aC:=C.af (B.af F (λb=>b)) o;have aD:=C.af (B.af W (λb=>b)) aA;have aE:Mod (· =e) b ay:=by have l:Mod (· =e) b u:=z.mod.trans n;exact l.then ((B.mod.trans C).ai λc _ g=> .inr (by have:=n.size;have:=z.size;omega))
 refine AC.mk (AB Y rfl) (WS ⟨_,_,rfl,?_⟩);obtain⟨aF,aG,aH,aI,aJ⟩:=qV ((Bu 18 (Bu 500 d).2).1:Int);have bk:b.size<=u.size:=by omega
 have bm:b.size<=b.size:=A0 _;have bn:Pb fA d=Pb fA d:=rfl;generalize aK:((Bu 18 (Bu 500 d).2).1:Int)=a at*
 generalize aL:Bu 1099511627776 (Bu 18 (Bu 500 d).2).2=t at*
 generalize aM:((Bu 500 d).1:Int)=i at*
 have aN:Pb fA d=(⟨i,a,t.1,(Ec (cX a) 500 t.2).1,(Ec (dk a) 15 (Ec (cX a) 500 t.2).2).1,(Ec (dw a) 5 (Ec (dk a) 15 (Ec (cX a) 500 t.2).2).2).1,
   decide ((Ec (dP a) 1 (Ec (dw a) 5 (Ec (dk a) 15 (Ec (cX a) 500 t.2).2).2).2).1=1),AX (TH (dQ a) (Ec (dP a) 1 (Ec (dw a) 5 (Ec (dk a) 15 (Ec (cX a) 500 t.2).2).2).2).2).1⟩,
   (TH (dQ a) (Ec (dP a) 1 (Ec (dw a) 5 (Ec (dk a) 15 (Ec (cX a) 500 t.2).2).2).2).2).2):=by
  simp only[Pb,<-aK,<-aL,<-aM];rfl
 have bo:=MW (cX a) 500 t.2;have bp:=MW (dk a) 15 (Ec (cX a) 500 t.2).2;have bq:=MW (dw a) 5 (Ec (dk a) 15 (Ec (cX a) 500 t.2).2).2;have br:=MW (dP a) 1 (Ec (dw a) 5 (Ec (dk a) 15 (Ec (cX a) 500 t.2).2).2).2;rw[aN] at O;generalize u.size=v at*
 generalize aO:Ec (cX a) 500 t.2=G at*
 generalize aP:Ec (dk a) 15 G.2=os at*
 generalize aQ:Ec (dw a) 5 os.2=s at*
 generalize Z:Ec (dP a) 1 s.2=f at*
 clear Q W X R S T F z B A U V n C av aw ax az;have up: ∀ {ac ad:aa},Mod (· =e) b ac->Mod (λc=>c=e\/c=v) ac ad->Mod (· =e) b ad:=λaR A=>aR.then (A.ai λc _ g=>g.elim .inl λbs=> .inr (by omega))
 refine ah.mk λK aS=>?_
 refine qY (m:=500) (fl:=cX a) (by rw[aF,Lp (by decide)]) aC (by omega) (by decide) Y (by simp) rfl o λbt af ag n=>aS _ _ ?_
 rw[aO] at af ag;have aT:=n.af aD (by omega);have aU:=up aE n;refine ah.mk λbu aV=>?_
 refine qY (m:=15) (fl:=dk a) (by rw[aG,Lp (by decide)]) af (by omega) (by decide) ag (by simp) rfl o λbv ai aj am=>aV _ _ ?_
 rw[aP] at ai aj;have aW:=am.af aT (by omega);have aX:=up aU am;refine ah.mk λbw aY=>?_
 refine qY (m:=5) (fl:=dw a) (by rw[aH,Lp (by decide)]) ai (by omega) (by decide) aj (by simp) rfl o λan H I ao=>aY _ _ ?_
 rw[aQ] at H I;have aZ:=ao.af aW (by omega);have a0:=up aX ao;refine ah.mk λa1 a2=>?_
 have ap: ∀p,Ir p e f.2->p[v]? =some (J2 (xq i a t.1 G.1 os.1 s.1 (decide (f.1=1)) Ha) BC (0,0))->Mod (λc=>c=e\/c=v) an p->a1 () p:=λp D aq w=>by
  refine a2 _ _ ?_;have a3:=w.af aZ (by omega);have a4:=up a0 w;refine ah.mk λa5 a6=>?_
  have ar: ∀q,Ir q e (TH (dQ a) f.2).2->q[v]? =some (J2 (xq i a t.1 G.1 os.1 s.1 (decide (f.1=1)) (AX (TH (dQ a) f.2).1)) BC (0,0))->Mod (λc=>c=e\/c=v) p q->a5 () q:=λq J h r=>by
   refine a6 _ _ ?_;have a7:=r.af a3 (by omega);have a8:=up a4 r;refine AC.mk (AL h rfl) (AC.mk (AB h rfl) (AC.mk (AB h rfl) (AC.mk (AB h rfl) (AC.mk (AB h rfl) (AC.mk (AB h rfl) (Aa.mk (AB h rfl) (AJ.mk (AB h rfl) ?_)))))));refine ab.eight a7 λL k x a9=>?_
   refine AC.mk (AL k rfl) (AC.mk (AB k rfl) (AC.mk (AB k rfl) (AC.mk (AB k rfl) (AC.mk (AB k rfl) (AC.mk (AB k rfl) (Aa.mk (AB k rfl) (AJ.mk (AB k rfl) ?_)))))));exact O L (x.af J (by omega)) (a8.then (x.ai λc _ g=> .inr (by omega)))
  rw[aJ,Lp (by decide)];refine ae.intro (λl=>?_) (λl=>?_)
  ·refine IP D (by omega) λq J r=>⟨_,rfl,?_⟩
   refine ab.dm (r.af aq o.symm) (by simp) λL k x a9=>?_
   have j:TH (dQ a) f.2=FW f.2:=by simp only[TH,l,if_true]
   refine ar L (by rw[j];exact x.af J o) (by rw[j];exact k) ((r.ai λc _ g=> .inl g).trans (x.ai λc _ g=> .inr g))
  ·have j:TH (dQ a) f.2=([],f.2):=by simp only[TH,l,Cl,if_false]
   exact ar p (by rw[j];exact D) (by rw[j];exact aq) Mod.refl
 rw[aI,Lp (by decide)];refine ae.intro (λl=>?_) (λl=>?_)
 ·have j:f=Bu 1 s.2:=by rw[<- Z];simp only[Ec,l,if_true]
  refine DW (most:=1) H (by omega) (by decide) λp D w=>⟨_,rfl,?_⟩
  refine ab.dm (w.af I o.symm) (by simp) λq h r bx=>?_
  have ba:((((Bu 1 s.2).1:Nat):Int)==(1:Int))=decide (f.1=1):=by
   rw[j];by_cases y:(Bu 1 s.2).1=1
   ·rw[y];rfl
   ·rw[decide_eq_false y,beq_eq_false_iff_ne];omega
  rw[ba] at h;refine ap q (by rw[j];exact r.af D o) h ((w.ai λc _ g=> .inl g).trans (r.ai λc _ g=> .inr g))
 ·have j:f=(0,s.2):=by rw[<- Z];simp only[Ec,l,Cl,if_false]
  exact ap an (by rw[j];exact H) (by rw[j];exact I) Mod.refl
def evZ:Ev:=⟨0,0,0,0,0,0,false,Ha⟩
def ASo(a:Option Ev):J0:=J1 #[og (a.getD evZ),J6 J9 (if a.isSome then 0 else 60)]
theorem AJi {F:al}{b:aa}{l:List UInt8}{r:A2O}(G:l.length<1099511627776)(s: ∀t,Ext b t->r (ASo (jP l)) t):AA F P OQ #[J7 (AX l)] b r:=by
 refine AA8 ?_;unfold TV;refine ak.mk λU _ H u V=>?_
 refine KY λW v w=>⟨_,rfl,?_⟩
 have X:=Af v;refine AON v G λI J j=>⟨_,_,_,_,_,_,_,_,rfl,?_⟩
 have L:=j.af (w.af H (λb=>b)) (by omega);have y:Ext b I:=(u.trans w).more j λc h=>by subst h;exact u.size
 have M:=ANM fA ⟨l,false⟩;refine ak.mk λY _ N k Z=>ab.eight N λm d n ac=>?_
 have ad:=j.size;have z:Ext b m:=(y.trans k).more n λc h=>by subst h;exact y.size
 have A:=n.af (k.af L (λb=>b)) (by omega);have O:=n.af (k.af J (λb=>b)) (by omega);refine ah.mk λK B=>?_
 refine NM O ⟨_,rfl,?_⟩;have o:jP l=if X8 (Pb fA ⟨l,false⟩).2&&EX (Pb fA ⟨l,false⟩).1 then some (Pb fA ⟨l,false⟩).1 else none:=rfl;generalize (Pb fA ⟨l,false⟩).2=C at*
 generalize (Pb fA ⟨l,false⟩).1=e at*
 have D:jP l=none-> ∀p,Ext m p->K (true,()) p:=λQ p x=>by
  refine B _ _ (ae.yes rfl ?_);refine ab.eight (x.af A (λb=>b)) λq a R af=>?_
  refine AC.mk (AL a rfl) (AC.mk (AB a rfl) (AC.mk (AB a rfl) (AC.mk (AB a rfl) (AC.mk (AB a rfl) (AC.mk (AB a rfl) (Aa.mk (AB a rfl) (AJ.mk (AB a rfl) ?_)))))));have:=s q ((z.trans x).more R λc h=>by omega);rw[Q] at this;exact this
 refine ae.intro (λg=>?_) (λg=>?_)
 ·have g:X8 C=false:=by simpa using g
  exact D (by rw[o,g];rfl) m Mod.refl
 ·have g:X8 C=true:=by simpa using g
  refine AC.mk (AL d rfl) (AC.mk (AB d rfl) (AC.mk (AB d rfl) (AC.mk (AB d rfl) (AC.mk (AB d rfl) (AC.mk (AB d rfl) (Aa.mk (AB d rfl) (AJ.mk (AB d rfl) ?_)))))));refine Zb (e:=e) (by simp only at M;omega) λq i=>⟨_,rfl,?_⟩
  cases E:EX e with
  |false=>exact D (by rw[o,E,LI];rfl) q i
  |true=>
   refine B _ _ (ae.no rfl ?_);have a:=i.af d (λb=>b);refine AC.mk (AL a rfl) (AC.mk (AB a rfl) (AC.mk (AB a rfl) (AC.mk (AB a rfl) (AC.mk (AB a rfl) (AC.mk (AB a rfl) (Aa.mk (AB a rfl) (AJ.mk (AB a rfl) ?_)))))));refine ab.eight (i.af A (λb=>b)) λS f T ag=>?_
   refine AC.mk (AL f rfl) (AC.mk (AB f rfl) (AC.mk (AB f rfl) (AC.mk (AB f rfl) (AC.mk (AB f rfl) (AC.mk (AB f rfl) (Aa.mk (AB f rfl) (AJ.mk (AB f rfl) ?_)))))));have:=s S ((z.trans i).more T λc h=>by omega);rw[o,g,E] at this;exact this
theorem xt:Pi P Dl BC fZ.w 72=true:=by kernel_rfl
theorem xu {a:Ev}(h:Ed a=true)(hd:a.data.size<18446744073709551616):(Mw a).length<=100+a.data.size:=by
 have c:=h;simp only[Ed,A3] at c;obtain⟨⟨⟨⟨⟨⟨⟨i,j⟩,k⟩,d⟩,e⟩,g⟩,l⟩,m⟩:=c;have o:=BR.1 i;have p:=BR.1 j;have q:=BR.1 k;have r:=AV (n:=a.id.toNat) (by omega);have s:=AV (n:=a.kind.toNat) (by omega);have t:=AV (n:=a.tick.toNat) (by omega);have u:=MN (f:=cX a.kind) (n:=a.ref) (by cases b:cX a.kind<;>rw[b] at d<;>simp[cY,bU] at d<;>omega);have v:=MN (f:=dk a.kind) (n:=a.step) (by cases b:dk a.kind<;>rw[b] at e<;>simp[cY,bU] at e<;>omega);have w:=MN (f:=dw a.kind) (n:=a.turn) (by cases b:dw a.kind<;>rw[b] at g<;>simp[cY,bU] at g<;>omega);have x:=MN (f:=dP a.kind) (n:=if a.aL then 1 else 0) (by split<;>omega);have y:(gN (dQ a.kind) a.data).length<=10+a.data.size:=by
  cases b:dQ a.kind with
  |false=>simp[gN]
  |true=>
   simp only[gN,if_true,BP,A1,BA];have:=AV hd;omega
 simp only[Mw,A1];omega
end Go.Lf.G
namespace Go.Lf
open Go
def SY(a:Int)(v:J0):List (Int×J0)->List (Int×J0)
 | []=> [(a,v)]
 |p::m=>if p.1=a then(a,v)::m else p::SY a v m
def LF(a:Int)(m:List (Int×J0)):Option J0:=(m.find? λp=>decide (p.1=a)).map (·.2)
def hZ(a:Int)(m:List (Int×J0)):List (Int×J0):=m.filter λp=> !decide (p.1=a)
theorem GM(a:Int)(p:Int×J0)(m:List (Int×J0)):LF a (p::m)=if p.1=a then some p.2 else LF a m:=by unfold LF;rw[DO];by_cases b:p.1=a<;>simp[b]
theorem ZE(a:Int)(v:J0)(c:Int): ∀m,LF c (SY a v m)=if a=c then some v else LF c m
 | []=>by unfold SY;rw[GM]
 |p::m=>by
  unfold SY;split
  ·rename_i d;rw[GM,GM];by_cases b:a=c<;>simp[d,b]
  ·rename_i d;rw[GM,GM,ZE a v c m];by_cases b:a=c
   ·subst b;simp[d]
   ·simp[b]
structure Vx (kd:IntKind) (es:Array MapEntry) (clock:Nat) (m:List (Int×J0)):Prop where
 same:es.toList.map (λe=>(e.key,e.val))=m.map λp=>(Value.int kd p.1,p.2)
 stamped:MapKept.Stamped es clock
 size:es.size<=maxLen
def SG(kd:IntKind)(d:aa)(b:Nat)(m:List (Int×J0)):Prop:= ∃a c,d[b]? =some (.map a c)/\Vx kd a c m
theorem SG.mod {kd:IntKind}{a c:aa}{b:Nat}{m:List (Int×J0)}{d:Nat->Prop}(M:SG kd a b m)(x:Mod d a c)(e: ¬d b):SG kd c b m:=by obtain⟨f,g,h,i⟩:=M;exact⟨f,g,x.af h e,i⟩
theorem SG.lt {kd:IntKind}{a:aa}{b:Nat}{m:List (Int×J0)}(M:SG kd a b m):b<a.size:=by obtain⟨d,e,c,f⟩:=M;exact Af c
theorem SG.empty {kd:IntKind}{a:aa}{b c:Nat}(d:a[b]? =some (.map #[] c)):SG kd a b []:=⟨#[],c,d,rfl,MapKept.stamped_empty c,by simp⟩
theorem Vx.len {kd:IntKind}{a:Array MapEntry}{b:Nat}{m:List (Int×J0)}(M:Vx kd a b m):a.size=m.length:=by rw[<- DS];have:=congrArg List.length M.same;simpa using this
theorem Vx.keysOf {kd:IntKind}{a:Array MapEntry}{b:Nat}{m:List (Int×J0)}(M:Vx kd a b m):a.toList.map (·.key)=m.map λp=>Value.int kd p.1:=by have:=congrArg (List.map Prod.fst) M.same;simpa [AT,G4] using this
theorem Vx.nodup {kd:IntKind}{b:Array MapEntry}{c:Nat}{m:List (Int×J0)}(M:Vx kd b c m):(m.map (·.1)).Nodup:=by
 have a:=M.stamped.2.2;rw[M.keysOf] at a;have d:(m.map λp=>Value.int kd p.1)=(m.map (·.1)).map (Value.int kd):=by simp
 rw[d] at a;exact(List.pairwise_map.1 a).imp λe f=>e (by rw[f])
theorem OA {kd:IntKind}(a:Int)(v:J0): ∀(c:List MapEntry) (m:List (Int×J0)) (i:Nat),(c.map λe=>(e.key,e.val))=(m.map λp=>(Value.int kd p.1,p.2))->
  (Instr.findNow (.int kd) (.int kd a) c i=some none/\LF a m=none/\SY a v m=m++ [(a,v)]/\hZ a m=m/\ ∀e∈c,e.key≠ .int kd a)\/
  ∃d u,Instr.findNow (.int kd) (.int kd a) c i=some (some (i+d,u))/\LF a m=some u/\(∃ e,c[d]? =some e/\e.key= .int kd a)/\((c.modify d λe=> {e with key:= .int kd a,val:=v}).map λe=>(e.key,e.val))=(SY a v m).map (λp=>(Value.int kd p.1,p.2))/\
   ((m.map (·.1)).Nodup->((c.eraseIdx d).map λe=>(e.key,e.val))=(hZ a m).map λp=>(Value.int kd p.1,p.2))
 | [],[],i,_=> .inl ⟨rfl,rfl,rfl,rfl,by simp⟩
 | [],_::_,_,h=>by simp at h
 |_::_,[],_,h=>by simp at h
 |e::c,p::m,i,h=>by
  simp only[By,Is,Kx] at h;obtain⟨⟨j,l⟩,n⟩:=h;have o:Instr.sameNow (.int kd) (.int kd a) e.key=some (decide (a=p.1)):=by rw[j];show(if kd=kd then some (a==p.1) else none)=_;rw[if_pos rfl];congr 1
  by_cases b:p.1=a
  ·refine .inr ⟨0,e.val,?_,?_,⟨e,rfl,by rw[j,b]⟩,?_,?_⟩
   ·unfold Instr.findNow;rw[o,decide_eq_true b.symm];rfl
   ·rw[GM,if_pos b,l]
   ·unfold SY;rw[if_pos b];simp[n]
   ·intro g;have g:=List.nodup_cons.1 g;simp only[List.eraseIdx_zero,List.tail_cons];rw[n];congr 1;unfold hZ;rw[B9];simp only[b,decide_true,LR,Cl,if_false];refine(List.filter_eq_self.2 λC w=>?_).symm;simp only[CA,decide_eq_false_iff_not];rintro rfl;exact g.1 (by show p.1∈_;rw[b];exact No (f:=Prod.fst) w)
  ·rcases OA a v c m (i+1) n with⟨q,r,s,k,y⟩|⟨d,u,q,r,⟨z,s,A⟩,B,k⟩
   ·refine .inl ⟨?_,?_,?_,?_,?_⟩
    ·unfold Instr.findNow;rw[o,decide_eq_false (λe=>b e.symm)];exact q
    ·rw[GM,if_neg b];exact r
    ·unfold SY;rw[if_neg b,s];rfl
    ·unfold hZ at k ⊢;rw[B9];simp[b];simpa using k
    ·intro x t;rcases List.mem_cons.1 t with rfl|t
     ·rw[j];intro e;injection e with _ e;exact b e
     ·exact y x t
   ·refine .inr ⟨d+1,u,?_,?_,⟨z,by simpa using s,A⟩,?_,?_⟩
    ·unfold Instr.findNow;rw[o,decide_eq_false (λe=>b e.symm)];rw[show i+(d+1)=i+1+d by omega];exact q
    ·rw[GM,if_neg b];exact r
    ·unfold SY;rw[if_neg b];simp[j,l,B]
    ·intro g;have g:=List.nodup_cons.1 g;have:=k g.2;unfold hZ at this ⊢;rw[B9];simp[b,j,l];simpa using this
section
variable {P : Q1} {kd : IntKind}
theorem F6 {a:Q7}(c:P.underlying a=some (.int kd))(d:Bool)(e:Nat)(f:Int)(b:World):(Instr.checkKey d (e+1) a (.int kd f)).run P b= .ok () b:=by simp[Instr.checkKey,BH c]
theorem La {g:al}{t h i:Q7}{z:J0}(j:P.underlying t=some (.map h i))(c:P.underlying h=some (.int kd))(n:(zeroValue i).calc P=some z){a:aa}{b:Nat}{m:List (Int×J0)}{d:Int}{K:A2O}
  (M:SG kd a b m) (o:K ((LF d m).getD z) a):BI g P (Instr.lookup t (.map (some b)) (.int kd d) false) a K:=by
 intro k;refine⟨_,a,k,?_,o⟩;obtain⟨p,v,q,s⟩:=M;have l:=MapKept.run_getObj_map (P:=P) (w:=g.at a k) (r:=b) q;rcases OA d z p.toList m 0 s.same with⟨e,f,_⟩|⟨x,u,e,f,_,_⟩
 ·simp[Instr.lookup,BH j,l,F6 c,Instr.findKey,BH c,e,f,Result.andThen,DR n]
 ·simp[Instr.lookup,BH j,l,F6 c,Instr.findKey,BH c,e,f,Result.andThen]
theorem AJZ {g:al}{t q G:Q7}(s:P.underlying t=some (.map q G))(h:P.underlying q=some (.int kd)){a:aa}{b:Nat}{m:List (Int×J0)}{d:Int}{v:J0}{K:aa->Prop}
  (M:SG kd a b m) (O:m.length<maxLen) (y: ∀i,SG kd i b (SY d v m)->Mod (λc=>c=b) a i->i.size=a.size->K i):gI g P (Instr.mapUpdate t (.map (some b)) (.int kd d) v) a K:=by
 intro f;obtain⟨j,l,n,e⟩:=M;have z:=Af n;have A:=MapKept.run_getObj_map (P:=P) (w:=g.at a f) (r:=b) n;have B: ∀k,(setObj b k).run P (g.at a f)= .ok () (g.at (a.setIfInBounds b k) f):=λk=>MapKept.run_setObj_map (P:=P) (w:=g.at a f) k n
 have Q:=e.len;rcases OA d v j.toList m 0 e.same with⟨o,H,p,_,I⟩|⟨C,u,o,H,⟨J,p,D⟩,L,_⟩
 ·refine⟨a.setIfInBounds b (.map (j.push {key:= .int kd d,val:=v,born:=l}) (l+1)),f,?_,y _ ⟨_,_,CQ z,?_,MapKept.stamped_push e.stamped I,by simp;omega⟩ (Mod.setObj rfl) (by simp)⟩
  ·simp[Instr.mapUpdate,BH s,A,F6 h,Instr.findKey,BH h,o,Result.andThen,B]
  ·rw[p];simp[e.same]
 ·have E:j[C]? =some J:=by simpa using p
  refine⟨a.setIfInBounds b (.map (j.modify C λe=> {e with key:= .int kd d,val:=v}) l),f,?_,y _ ⟨_,_,CQ z,?_,MapKept.stamped_modify e.stamped _ _ (λ_ _=>rfl) (λx _ F=>?_),by simpa using e.size⟩ (Mod.setObj rfl) (by simp)⟩
  ·have N: ∀w,(Instr.keyThatStays (.int kd d) (.int kd d)).run P w= .ok (.int kd d) w:=λw=>by
    simp[Instr.keyThatStays,Instr.sameBits]
   simp[Instr.mapUpdate,BH s,A,F6 h,Instr.findKey,BH h,o,E,D,N,Result.andThen,B]
  ·rw[Hv];exact L
  ·rw[E] at F;cases F;exact D.symm
theorem AJS {g:al}{t k B C:Q7}(s:P.underlying t=some (.map k B))(h:P.underlying k=some (.int kd)){a:aa}{b:Nat}{m:List (Int×J0)}{l:Int}{K:A2O}
  (M:SG kd a b m) (v: ∀i,SG kd i b (hZ l m)->Mod (λc=>c=b) a i->i.size=a.size->K (J1 #[]) i):BI g P (Builtin.delete_ #[t,k] C #[.map (some b),.int kd l]) a K:=by
 intro e;obtain⟨f,x,n,d⟩:=M;have y:=Af n;have z:=MapKept.run_getObj_map (P:=P) (w:=g.at a e) (r:=b) n;have A: ∀j,(setObj b j).run P (g.at a e)= .ok () (g.at (a.setIfInBounds b j) e):=λj=>MapKept.run_setObj_map (P:=P) (w:=g.at a e) j n
 rcases OA l (J3 true) f.toList m 0 d.same with⟨o,D,_,p,_⟩|⟨q,u,o,D,⟨E,F,I⟩,_,p⟩
 ·refine⟨_,a.setIfInBounds b (.map f x),e,?_,v _ ⟨_,_,CQ y,by rw[p];exact d.same,d.stamped,d.size⟩ (Mod.setObj rfl) (by simp)⟩;simp[Builtin.delete_,BH s,z,F6 h,Instr.findKey,BH h,o,Result.andThen,A]
 ·have G:f[q]? =some E:=by simpa using F
  refine⟨_,a.setIfInBounds b (.map (f.eraseIdxIfInBounds q) x),e,?_,v _ ⟨_,_,CQ y,?_,MapKept.stamped_erase d.stamped _,?_⟩ (Mod.setObj rfl) (by simp)⟩
  ·simp[Builtin.delete_,BH s,z,F6 h,Instr.findKey,BH h,o,Result.andThen,A]
  ·have H:=(Array.getElem?_eq_some_iff.1 G).1;rw[Array.eraseIdxIfInBounds,dif_pos H,A0q];exact p d.nodup
  ·have:(f.eraseIdxIfInBounds q).size<=f.size:=by unfold Array.eraseIdxIfInBounds;split<;>simp
   have:=d.size;omega
end
theorem vS(b c:Int): ∀m:List (Int×J0),LF c (hZ b m)=if b=c then none else LF c m
 | []=>by simp[LF,hZ]
 |p::m=>by
  have e:=vS b c m;unfold hZ at e ⊢;rw[B9,GM];by_cases d:p.1=b
  ·rw[if_neg (by simp[d]),e];by_cases a:b=c
   ·rw[if_pos a,if_pos a]
   ·rw[if_neg a,if_neg a,if_neg (λf=>a (d.symm.trans f))]
  ·rw[if_pos (by simp[d]),GM,e];by_cases a:p.1=c
   ·rw[if_pos a,if_pos a,if_neg (λf=>d (a.trans f.symm))]
   ·rw[if_neg a,if_neg a]
theorem AOn {a:Int}{m:List (Int×J0)}:(hZ a m).length<=m.length:=Se _ _
theorem XN {k:Int}{v:J0}: ∀ {m:List (Int×J0)},(SY k v m).length<=m.length+1
 | []=>by simp[SY]
 |p::m=>by
  unfold SY;split
  ·simp
  ·have:=XN (k:=k) (v:=v) (m:=m);simp only[A5];omega
section
variable {P : Q1} {kd : IntKind}
theorem vT {i:al}{t O Q:Q7}{z:J0}(R:P.underlying t=some (.map O Q))(A:P.underlying O=some (.int kd))(Y:(zeroValue Q).calc P=some z){f:aa}{b:Nat}{m:List (Int×J0)}{g:Int}{v:J0}{K:aa->Prop}
  (M:SG kd f b m) (ak:m.length<maxLen) (S: ∀B,SG kd B b (SY g v m)->Mod (λc=>c=b) f B->B.size=f.size->K B):
  BI i P (Instr.mapEntry t (.map (some b)) (.int kd g)) f λw n=> ∃x u:J0,w=J1 #[x,u]/\ ∃st:Int,u=J6 J9 st/\(gI i P (Instr.entryStore t (.map (some b)) (J6 J9 st) v) n λZ=>K Z):=by
 intro y;obtain⟨e,d,E,h⟩:=M;have T:=Af E;have U:=MapKept.run_getObj_map (P:=P) (w:=i.at f y) (r:=b) E;have V: ∀k,(setObj b k).run P (i.at f y)= .ok () (i.at (f.setIfInBounds b k) y):=λk=>MapKept.run_setObj_map (P:=P) (w:=i.at f y) k E
 have am:=h.len;obtain⟨ab,W,_⟩:=h.stamped;rcases OA g v e.toList m 0 h.same with⟨F,ac,p,_,ad⟩|⟨j,u,F,ac,⟨q,p,C⟩,ae,_⟩
 ·refine⟨J1 #[z,goInt d],f.setIfInBounds b (.map (e.push ⟨.int kd g,z,d⟩) (d+1)),y,?_,z,goInt d,rfl,(d:Int),rfl,λo=>?_⟩
  ·simp[Instr.mapEntry,BH R,U,F6 A,Instr.findKey,BH A,F,Result.andThen,DR Y,V]
  have s:(f.setIfInBounds b (.map (e.push ⟨.int kd g,z,d⟩) (d+1)))[b]? =some (.map (e.push ⟨.int kd g,z,d⟩) (d+1)):=CQ T;have G:Mod (λc=>c=b) f (f.setIfInBounds b (.map (e.push ⟨.int kd g,z,d⟩) (d+1))):=Mod.setObj rfl;have af:(f.setIfInBounds b (.map (e.push ⟨.int kd g,z,d⟩) (d+1))).size=f.size:=by simp
  generalize f.setIfInBounds b (.map (e.push ⟨.int kd g,z,d⟩) (d+1))=n at*
  have H:=Af s;have I:=MapKept.run_getObj_map (P:=P) (w:=i.at n o) (r:=b) s;have J: ∀k,(setObj b k).run P (i.at n o)= .ok () (i.at (n.setIfInBounds b k) o):=λk=>MapKept.run_setObj_map (P:=P) (w:=i.at n o) k s
  have L:(e.push ⟨.int kd g,z,d⟩).findIdx? (λh=>((h.born:Nat):Int)==((d:Nat):Int))=some e.size:=by
   rw[WideElems.findIdx_arr];exact WideElems.findIdx_born (l:=(e.push ⟨.int kd g,z,d⟩).toList) (j:=e.size) (e0:=⟨.int kd g,z,d⟩) (by
    simp only[Sf,CH,By,Sh];refine List.nodup_append.2 ⟨W,by simp,λa ag c ah an=>?_⟩;simp only[Sp] at ah;obtain⟨x,D,rfl⟩:=List.mem_map.1 ag;have:=ab x D;omega) (by simp)
  have N:(e.push ⟨.int kd g,z,d⟩).modify e.size (λh=> {h with val:=v})=e.push ⟨.int kd g,v,d⟩:=by apply OK;rw[Hv,Sf,Sf,<-DS,WideElems.modify_last]
  refine⟨n.setIfInBounds b (.map (e.push ⟨.int kd g,v,d⟩) (d+1)),o,?_,S _ ⟨_,_,CQ H,?_,MapKept.stamped_push h.stamped ad,by simp;omega⟩ (G.trans (Mod.setObj rfl)) (by simp;omega)⟩
  ·simp[Instr.entryStore,I,asInt,asIntOf,goInt,L,N,J,Result.andThen]
  ·rw[p];simp[h.same]
 ·have X:e[j]? =some q:=by simpa using p
  have ai:e.modify j (λh=> {h with key:= .int kd g})=e:=by
   apply OK;rw[Hv,ChangeMaps.modify_eq_set _ _ _ _ p];have:({q with key:= .int kd g}:MapEntry)=q:=by rw[<- C]
   rw[this];exact WideElems.set_self _ _ _ p
  have aj: ∀w,(Instr.keyThatStays (.int kd g) (.int kd g)).run P w= .ok (.int kd g) w:=λw=>by
   simp[Instr.keyThatStays,Instr.sameBits]
  refine⟨J1 #[u,goInt q.born],f.setIfInBounds b (.map e d),y,?_,u,goInt q.born,rfl,(q.born:Int),rfl,λo=>?_⟩
  ·simp[Instr.mapEntry,BH R,U,F6 A,Instr.findKey,BH A,F,X,C,aj,ai,Result.andThen,V]
  have s:(f.setIfInBounds b (.map e d))[b]? =some (.map e d):=CQ T;have G:Mod (λc=>c=b) f (f.setIfInBounds b (.map e d)):=Mod.setObj rfl;have af:(f.setIfInBounds b (.map e d)).size=f.size:=by simp
  generalize f.setIfInBounds b (.map e d)=n at*
  have H:=Af s;have I:=MapKept.run_getObj_map (P:=P) (w:=i.at n o) (r:=b) s;have J: ∀k,(setObj b k).run P (i.at n o)= .ok () (i.at (n.setIfInBounds b k) o):=λk=>MapKept.run_setObj_map (P:=P) (w:=i.at n o) k s
  have L:e.findIdx? (λh=>((h.born:Nat):Int)==((q.born:Nat):Int))=some j:=by rw[WideElems.findIdx_arr];exact WideElems.findIdx_born W p
  have N:e.modify j (λh=> {h with val:=v})=e.modify j (λh=> {h with key:= .int kd g,val:=v}):=by apply OK;rw[Hv,Hv,ChangeMaps.modify_eq_set _ _ _ _ p,ChangeMaps.modify_eq_set _ _ _ _ p,<-C]
  refine⟨n.setIfInBounds b (.map (e.modify j λh=> {h with key:= .int kd g,val:=v}) d),o,?_,S _ ⟨_,_,CQ H,?_,MapKept.stamped_modify h.stamped _ _ (λ_ _=>rfl) (λx _ D=>?_),by simpa using h.size⟩ (G.trans (Mod.setObj rfl)) (by simp;omega)⟩
  ·simp[Instr.entryStore,I,asInt,asIntOf,goInt,L,N,J,Result.andThen]
  ·rw[Hv];exact ae
  ·rw[X] at D;cases D;exact C.symm
end
end Go.Lf
namespace Go.Lf.G
open Go
def CF(a:Nat):A2P:=AX [Cq 108,Cq a]
def Ji(a:Nat)(name:A2P):A2P:=AX (BX a++BP (bl name))
theorem KG(a:Nat):(CF a).size=2:=rfl
theorem ALx(a:Nat):CF a≠⟨#[]⟩:=λb=>by have:=congrArg ByteArray.size b;rw[KG] at this;cases this
theorem yH {m a:Nat}(c:m<256)(d:a<256)(h:CF m=CF a):m=a:=by have b:=N7.1 h;simp only[Is,and_true,true_and] at b;have:=congrArg UInt8.toNat b;rwa [EA c,EA d] at this
theorem AJ0 {a:Nat}{name:A2P}(d:a<=2147483647)(b:Au name=true):(Ji a name).size<=8192:=by have e:=(Hm.1 b).2.1;have f:=AV (n:=a) (by omega);have c:=AV (n:=(bl name).length) (by rw[BA];omega);unfold Ji BP;rw[AP,A1,A1,BA];rw[BA] at c;omega
section
variable {A : al} {h : aa} {R : A2O}
theorem SS {a:Nat}(b:a<256)(e: ∀c,Ext h c->R (J7 (CF a)) c):AA A P Hr #[J6 J9 (a:Int)] h R:=by
 refine ADj ?_;unfold YF;refine VA ?_;unfold Qp;refine ak.mk λd _ f g j=>?_
 have v1:View H7 d ⟨some ⟨h.size,0,none⟩,1,1⟩ [Cq a]:=(Own.lit (E:=H7) (l:= [Cq a]) f (by simp[H7,EA b,wrap_u8,As b]) (by simp[maxLen])).view;refine LU (s:=⟨some ⟨h.size,0,none⟩,1,1⟩) lZ lY QB v1 ⟨_,rfl,⟨_,rfl,⟨by rw[AP,max_i64,show(⟨#[108]⟩:A2P).size=1 from rfl];simp,?_⟩⟩⟩;have i:(⟨#[108]⟩:A2P)++AX [Cq a]=CF a:=by rw[show(⟨#[108]⟩:A2P)=AX [Cq 108] from rfl,Ak];rfl
 rw[i];exact e d g
theorem oC {a:Nat}{name:A2P}(k:1<=a)(m:a<=2147483647)(b:Au name=true)(f: ∀c,Ext h c->R (J1 #[J7 (Ji a name),J6 J9 0]) c):AA A P KO #[J6 J9 (a:Int),J7 name] h R:=by
 obtain⟨l,rfl⟩: ∃l,name=AX l:=⟨_,(EE name).symm⟩;have d:=(Hm.1 b).2.1;rw[AP] at d;refine AFn ?_;unfold tU;refine ah.mk λK g=>ae.no (decide_eq_false (by omega)) (ae.no (decide_eq_false (by omega)) (Fb ⟨_,rfl,g _ _ (ae.no (by rw[b];rfl) ?_)⟩))
 rw[Bv (by omega)];have e:=AV (n:=a) (by omega);have o:=AV (n:=l.length) (by omega);refine CR (by omega) λd i=>⟨_,rfl,?_⟩
 refine Qa (l:=l) (by omega) λe j=>⟨_,rfl,⟨?_,?_⟩⟩
 ·rw[AP,AP,max_i64];unfold BP;rw[A1];omega
 ·rw[Ak];have:=f e (i.trans j);unfold Ji at this;rwa [show bl (AX l)=l from Ce l] at this
theorem AMT {r:Nat}{name:A2P}(j:1<=r)(a:r<=2147483647)(b:Au name=true)(k: ∀d,Ext h d->R (J1 #[J6 J9 (r:Int),J7 name,J6 J9 0]) d):AA A P PT #[J7 (Ji r name)] h R:=by
 have m:=b;obtain⟨l,rfl⟩: ∃l,name=AX l:=⟨_,(EE name).symm⟩;have o:=(Hm.1 b).2.1;rw[AP] at o;have w:=AV (n:=r) (by omega);have x:=AV (n:=l.length) (by omega);have y:(BP l).length<=26:=by unfold BP;rw[A1];omega
 refine ADB ?_;unfold Vf Ji;rw[show bl (AX l)=l from Ce l];refine KY (l:=BX r++BP l) λz p q=>⟨_,rfl,?_⟩
 refine DW (most:=2147483647) p (by simp only[A1];omega) (by decide) λB e s=>⟨_,rfl,?_⟩
 rw[Ci (by omega) a] at e ⊢;refine IP e (by dsimp only;omega) λt f u=>⟨_,rfl,?_⟩
 have g:=JQ (l:=l) (by omega) [];rw[AM] at g;rw[g] at f ⊢;refine oC j a m λhd i=>⟨_,_,rfl,?_⟩
 refine ah.mk λK v=>ae.no rfl (NM (r:=⟨[],false⟩) (i.af f λh=>h) ⟨_,rfl,v _ _ (ae.no rfl ?_)⟩)
 exact k hd ((q.then ((s.trans u).ai λc _ t=> .inr (by omega))).trans i)
end
theorem sW: ∀(k a:Nat),Ky (k+1) a=Cq (a / 256^k)::Ky k a
 |0,a=>by rw[Ky,Ky];simp[Ky]
 |k+1,a=>by
  rw[Ky,sW k (a / 256),F0];show Cq (a / 256 / 256^k)::(Ky k (a / 256)++ [Cq a])=_;rw[Wf,show 256*256^k=256^(k+1) from by rw[Fc,Dd]];rfl
theorem sX(m:Nat):(m:Int).fdiv ((2:Int)^(8:Nat))=((m / 256:Nat):Int):=by rw[show((2:Int)^(8:Nat))=256 from by decide,Wg _ (by decide)];omega
section
variable {A : al} {h : aa} {R : A2O}
theorem UY {n:Nat}(r: ∀o,Ext h o->R (J7 (AX (Ky 8 n))) o):AA A P JY #[.int .u64 (n:Int)] h R:=by
 refine AEI ?_;unfold YR;refine vF (E:=H7) (x0:=0) (v:= .int .u8 0) (n:=8) Ui xO rfl rfl rfl (by omega) (by simp only[maxLen];omega) λt u w D=>?_
 dsimp only;refine Loop.rule (λm x d=> ∃i:Nat,x=(((n / 256^i:Nat):Int),(i:Int),())/\m=8-i/\i<=8/\Mod (λc=>c=h.size) t d/\Own H7 EG d ⟨some ⟨h.size,0,none⟩,8,8⟩ (List.replicate (8-i) 0++Ky i n)) ?_ ⟨0,by simp,rfl,by omega,Mod.refl,by simpa [Ky] using u⟩;rintro F m _ d ⟨i,rfl,rfl,G,p,f⟩ y;dsimp only;refine ae.intro (λg=>?_) (λg=>?_)
 ·have k:i<8:=by simp at g;omega
  rw[wrap_i64 (by omega) (by omega),show(7:Int)-(i:Int)=((7-i:Nat):Int) from by omega,sX,Ab (by omega),Wf,<-Fc];have ag:(List.replicate (8-i) (0:UInt8)++Ky i n)[7-i]? =some 0:=by rw[Fk (by simp;omega),List.getElem?_replicate,if_pos (by omega)]
  refine f.view.idx ag λa z H=>?_
  rw[A6,<-add_zero (a.add ((7-i)*1)),wrap_u8];refine Own.store (E:=H7) (i:=7-i) (j:=0) (x:=0) (x':=Cq (n / 256^i)) (v:= .int .u8 ((n / 256^i % 256:Nat):Int)) f ag (by show [Value.int .u8 _]=_;rw[ZK,EA (by omega)];rfl) (by decide) (λI q B J=>?_) a z;refine y (8-(i+1)) _ _ (by omega) ⟨i+1,rfl,rfl,k,p.trans (B.ai λb _ e=>?_),?_⟩
  ·simp[Sl.af] at e;exact e.symm
  ·have C:(List.replicate (8-i) (0:UInt8)++Ky i n).set (7-i) (Cq (n / 256^i))=List.replicate (8-(i+1)) 0++Ky (i+1) n:=by rw[sW,show 8-i=(7-i)+1 from by omega,List.replicate_succ',A4,HL _ _ (by simp),List.length_replicate,My,show 8-(i+1)=7-i from by omega];rfl
   rw[C] at q;exact q
 ·have k:i=8:=by simp at g;omega
  subst k;refine LU Ui xP xQ (s:=⟨some ⟨h.size,0,none⟩,8,8⟩) (l:=Ky 8 n) (by simpa using f.view) ⟨_,rfl,?_⟩;exact r d (w.more p λb e=>by subst e;exact A0 _)
theorem sY {wid:A2P}(e:wid.size<=1000000)(b: ∀a,Ext h a->R (J7 (WE wid)) a):AA A P Ll #[J7 wid] h R:=by
 refine ABY ?_;unfold Vl;have f:=AV (n:=(bl wid).length) (by rw[BA];omega);refine LK (by omega) λc d=>⟨_,rfl,⟨?_,?_⟩⟩
 ·rw[AP,max_i64];unfold BP;rw[A1,BA] at*
  rw[show(⟨#[104]⟩:A2P).size=1 from rfl];omega
 ·rw[show(⟨#[104]⟩:A2P)=AX [kE] from rfl,Ak];exact b c d
theorem sZ {wid:A2P}{id:Nat}(b:wid.size<=1000000)(c:id<18446744073709551616)(d: ∀a,Ext h a->R (J7 (dW wid id)) a):AA A P NH #[J7 wid,J6 J9 (id:Int)] h R:=by
 refine ADn ?_;unfold XC;refine sY b λi e=>⟨_,rfl,?_⟩
 rw[if_neg (by omega),Bv c];have j:=AV (n:=(bl wid).length) (by rw[BA];omega);refine UY λf g=>⟨_,rfl,⟨⟨by decide,by rw[AP,Ny];decide⟩,?_⟩⟩
 rw[show(AX (Ky 8 id)).extract (4:Int).toNat (AX (Ky 8 id)).size=AX (Ky 4 id) from ZP (Ky 8 id) 4];refine⟨?_,?_⟩
 ·unfold WE kJ BP;rw[AP,AP,Ny,max_i64];simp only[A5,A1,BA] at*
  omega
 ·have:=d f (e.trans g);unfold WE;rw[Ak];exact this
theorem nc {wid:A2P}(c:wid.size<=1000000)(a:R (J7 (Kk wid)) h):AA A P GH #[J7 wid] h R:=by
 refine AGg ?_;unfold tP;refine⟨by rw[max_i64,show(⟨#[119]⟩:A2P).size=1 from rfl];omega,?_⟩;have b:(⟨#[119]⟩:A2P)++wid=Kk wid:=by
  conv=>lhs;rw[<- EE wid]
  rw[show(⟨#[119]⟩:A2P)=AX [119] from rfl,Ak];rfl
 rw[b];exact a
theorem ta {a:A2P}(d:a.size<=1000000)(b:R (J7 (Mf a)) h):AA A P Jp #[J7 a] h R:=by
 refine Zc ?_;unfold Rk;refine⟨by rw[max_i64,show(⟨#[114]⟩:A2P).size=1 from rfl];omega,?_⟩;have c:(⟨#[114]⟩:A2P)++a=Mf a:=by
  conv=>lhs;rw[<- EE a]
  rw[show(⟨#[114]⟩:A2P)=AX [114] from rfl,Ak];rfl
 rw[c];exact b
theorem tc {a:Nat}(b:a<256)(e: ∀c,Ext h c->R (J7 (AX [Cq a])) c):AA A P Km #[J6 J9 (a:Int)] h R:=by
 refine VA ?_;unfold Qp;refine ak.mk λd _ f g i=>?_
 have v1:View H7 d ⟨some ⟨h.size,0,none⟩,1,1⟩ [Cq a]:=(Own.lit (E:=H7) (l:= [Cq a]) f (by
  show [Value.int .u8 (J8 .u8 (a:Int))]= [Value.int .u8 ((Cq a).toNat:Int)];rw[wrap_u8,EA b,As b]) (by simp[maxLen])).view
 exact LU (s:=⟨some ⟨h.size,0,none⟩,1,1⟩) lZ lY QB v1 ⟨_,rfl,e d g⟩
theorem AO9 {a id:Nat}(c:a<256)(d: ∀b,Ext h b->R (J7 (Yx a id)) b):AA A P Js #[J6 J9 (a:Int),.int .u64 (id:Int)] h R:=by
 refine Yh ?_;unfold Rl;refine Xn ?_;unfold QV;refine tc c λi e=>⟨_,rfl,⟨by rw[AP,max_i64];show((2:Nat):Int)<=9223372036854775807;decide,⟨_,rfl,?_⟩⟩⟩
 rw[show(⟨#[116]⟩:A2P)=AX [116] from rfl,Ak];refine UY λf g=>⟨_,rfl,⟨by rw[AP,AP,Ny,max_i64];show((10:Nat):Int)<=9223372036854775807;decide,?_⟩⟩
 rw[Ak];exact d f (e.trans g)
theorem AO5 {a id t:Nat}(c:a<256)(d:t<18446744073709551616)(e: ∀b,Ext h b->R (J7 (Zi a t id)) b):AA A P Na #[J6 J9 (a:Int),J6 J9 (t:Int),.int .u64 (id:Int)] h R:=by
 refine AD1 ?_;unfold Xd;refine ABz ?_;unfold Vi;refine tc c λk f=>⟨_,rfl,⟨by rw[AP,max_i64];show((2:Nat):Int)<=9223372036854775807;decide,⟨_,rfl,?_⟩⟩⟩
 rw[show(⟨#[109]⟩:A2P)=AX [109] from rfl,Ak,if_neg (by omega),Bv d];refine UY λl g=>⟨_,rfl,⟨by rw[AP,AP,Ny,max_i64];show((10:Nat):Int)<=9223372036854775807;decide,?_⟩⟩
 rw[Ak];refine UY λi j=>⟨_,rfl,⟨by rw[AP,AP,A1,Ny,max_i64];show((18:Nat):Int)<=9223372036854775807;decide,?_⟩⟩
 rw[Ak];exact e i ((f.trans g).trans j)
theorem td {m:cP}{st nx:Nat}(f:m.status=(st:Int))(g:m.next=(nx:Int))(s:st<128)(t:nx<=501)(i: ∀d,Ext h d->R (J7 (Pz st nx m.kept)) d):AA A P FD #[m.v] h R:=by
 refine We ?_;unfold Oq;have u:=Gl (n:=st) (by omega);have v:=Gl (n:=nx) (by omega);refine ak.mk λj _ b k w=>ah.mk λK l=>?_
 have key: ∀n:Nat,n=(if m.kept then 1 else 0)->K ((n:Int),()) j:=λn c=>by
  refine l _ _ (AC.mk (AL b rfl) ?_);have x:(BX n).length<=2:=Gl (by split at c<;>omega);rw[f,Bv (by omega)];refine CR (by omega) λy e=>⟨_,rfl,?_⟩
  have o:=e.af b (λh=>h);refine AC.mk (AB o rfl) ⟨AB b rfl,?_⟩;rw[g,Bv (by omega)];refine CR (by omega) λz p=>⟨_,rfl,⟨by rw[AP,AP,max_i64];omega,?_⟩⟩
  rw[Ak];refine CR (by split at c<;>omega) λq r=>⟨_,rfl,⟨by rw[AP,AP,A1,max_i64];omega,?_⟩⟩
  rw[Ak,A4];have:=i q (((k.trans e).trans p).trans r);unfold Pz at this;rw[<- c] at this;exact this
 refine Aa.mk (AB b rfl) (ae.intro (λa=>?_) (λa=>?_))
 ·have a:m.kept=true:=a;exact key 1 (by rw[a];rfl)
 ·have a:m.kept=false:=a;exact key 0 (by rw[a];rfl)
theorem AJs {st nx:Nat}{a:Bool}(s:st<=4)(O:2<=nx)(t:nx<=501)(u: ∀l,Ext h l->R (J1 #[(⟨(st:Int),(nx:Int),a⟩:cP).v,J6 J9 0]) l):AA A P OG #[J7 (Pz st nx a)] h R:=by
 refine AAw ?_;unfold SX;refine ak.mk λv _ m o Q=>?_
 unfold Pz;have S:=Gl (n:=st) (by omega);have T:=Gl (n:=nx) (by omega);have U:(BX (if a then 1 else 0)).length<=2:=Gl (by split<;>omega);have w:Bu 1 ⟨BX (if a then 1 else 0),false⟩=((if a then 1 else 0),⟨[],false⟩):=by have:=Ci (n:=if a then 1 else 0) (most:=1) (by split<;>omega) (by split<;>omega) [];rwa [AM] at this
 refine KY λx p d=>⟨_,rfl,?_⟩
 refine DW (most:=4) p (by simp only[A1];omega) (by decide) λV y e=>⟨_,rfl,?_⟩
 rw[Ci (by omega) s] at*
 refine DW (most:=501) y (by simp only[A1];omega) (by decide) λW z f=>⟨_,rfl,?_⟩
 rw[Ci (by omega) t] at*
 refine DW (most:=1) z (by simp only;omega) (by decide) λB C g=>⟨_,rfl,?_⟩
 rw[w] at*
 refine ak.mk λX _ D i Y=>aN.mk D (A0 3) λj q k Z=>?_
 have aa:=Af m;have ab:=d.size;have ac:=e.size;have ad:=f.size;have af:=g.size;have E:j[h.size]? =some (J2 cP.z.c JC (0,0)):=k.af (i.af (g.af (f.af (e.af (d.af m (λh=>h)) (by omega)) (by omega)) (by omega)) (λh=>h)) (by omega);have F:Ir j v.size ⟨[],false⟩:=k.af (i.af C (λh=>h)) (by have:=Af p;omega);have G:Ext h j:=by
  have H:Ext h x:=o.trans d;have r:Ext h B:=H.more ((e.trans f).trans g) λc b=>by subst b;exact o.size
  exact(r.trans i).more k λc b=>by subst b;exact r.size
 refine ah.mk λK I=>NM F ⟨_,rfl,ae.no rfl (AC.mk (AB q rfl) (I _ _ (ae.no (decide_eq_false (by show ¬((nx:Int)<2);omega)) ?_)))⟩
 have J:(((if a then 1 else 0:Nat):Int)==(1:Int))=a:=by cases a<;>rfl
 refine Ns.mk ⟨(st:Int),(nx:Int),_⟩ (Dz q rfl) (aN.mk E (A0 3) λL M N ag=>Ns.mk ⟨(st:Int),(nx:Int),_⟩ (Dz M rfl) ?_);rw[J];exact u L (G.more N λc b=>by subst b;exact A0 _)
def Aq(wid:A2P)(a:Nat):Nat:=lV wid / 256 % a
theorem YL {wid:A2P}{a:Nat}(d:wid.size<=1000000)(e:1<=a)(f:a<=16)(b:R (J1 #[J6 J9 (Aq wid a:Int),J6 J9 0]) h):AA A P NJ #[J7 wid,J6 J9 (a:Int)] h R:=by
 refine AEL ?_;unfold X7;refine ah.mk λK c=>ae.no (decide_eq_false (by omega)) ?_
 refine c _ _ (ae.no (decide_eq_false (by omega)) (rh (by omega) ⟨_,_,rfl,⟨by omega,?_⟩⟩));have g:=(wC wid);rw[sX,wrap_i64 (by omega) (by omega)];exact b
end
def gf(p f:A2P):A2P:=if aO p f then f else p
theorem ARt(p f b:A2P):aO b (gf p f)=false↔aO b p=false/\aO b f=false:=by
 unfold gf;split
 ·rename_i c;refine⟨λa=>⟨?_,a⟩,λa=>a.2⟩;cases d:aO b p
  ·rfl
  ·rw[DJ d c] at a;cases a
 ·rename_i c;refine⟨λa=>⟨a,?_⟩,λa=>a.1⟩;exact Yp (by simpa using c) a
def Pg(p:A2P):A2P:=⟨((eJ p.data.toList).getD []).toArray⟩
theorem ASC: ∀ {p c:List UInt8},eJ p=some c->c≠ []
 | [],c,b=>by cases b
 |a::p,c,b=>by
  unfold eJ at b;split at b
  ·obtain rfl:=BT b;simp
  ·split at b
   ·obtain rfl:=BT b;simp
   ·cases b
theorem AOS(p d:A2P):(decide (Pg p=⟨#[]⟩)||aO d (Pg p))=true↔ ∀a,eJ p.data.toList=some a->d.data.toList<a:=by
 unfold Pg;cases e:eJ p.data.toList with
 |none=>simp
 |some a=>
  have f:=ASC e;have c:decide ((⟨(Option.getD (some a) []).toArray⟩:A2P)=⟨#[]⟩)=false:=decide_eq_false λc=>f (by
   have:=congrArg (λb:A2P=>b.data.toList) c;simpa using this)
  rw[c,SZ,YT];simp
theorem APk(p f a:A2P):jT (gf p f) (Pg p) a=(hU p a&& !aO a f):=by
 rw[DH];unfold jT;rw[A3,A3,AOS,CA,ARt,XO,<-vQ,CA];rw[show(aO a p=false↔ ¬a.data.toList<p.data.toList) from by rw[YT];simp];constructor
 ·rintro⟨⟨b,c⟩,d⟩;exact⟨⟨b,d⟩,c⟩
 ·rintro⟨⟨b,d⟩,c⟩;exact⟨⟨b,c⟩,d⟩
def kP(m:List Pr)(p f:A2P)(a:Int):List Pr:=(m.filter λx=>hU p x.key&& !aO x.key f).take a.toNat
theorem ANp(m:List Pr)(p f:A2P)(a:Int):mz m (gf p f) (Pg p) a=kP m p f a:=by unfold mz QU kP;rw[IF λx _=>APk p f x.key]
def BQ(m:List Pr)(c:Pr):Bool:=if c.gone then !(Gc m c.key).2 else(Gc m c.key).2&&decide ((Gc m c.key).1=c.val)
open M (Sorted Ae Ca A8 Ag Ar BV Ah bE BF aS BL)
structure Fu (B:cE) (g h:aa) (s:Nat) (q:Hp) (k:Nat->Nat) (st:Db) (m:Bx) (D:Bl) (aJ c n:Nat):Prop where
 db:Bp B g h q k st m D aJ c
 cell:h[s]? =some (J2 #[Ap q.d,J6 J9 (n:Int)] uz (0,0))
 kz:k s=0
 base:g.size<=s
 fuel:m.fuel= -1
 cp:n<=1000000
def dx(m a l:List Pr):Int:=if a.length>64 then 2 else if EU l≠0 then EU l else if a.all (BQ m) then 0 else 100
theorem AHL {m:List Pr}{c:Pr}:BQ m c= !(((Gc m c.key).2==c.gone)||((Gc m c.key).2&& !bL (Gc m c.key).1 c.val)):=by unfold BQ;rw[CY];cases c.gone<;>cases (Gc m c.key).2<;>simp
section
variable {A : al} {B : cE} {g h : aa} {s : Nat} {q : Hp} {k : Nat -> Nat} {st : Db} {m : Bx} {D : Bl} {aJ c n : Nat} {R : A2O}
theorem Fu.on {b:aa}(a:Fu B g h s q k st m D aJ c n)(x:Ext h b):Fu B g b s q k st m D aJ c n:=⟨a.db.on x,Ai x a.cell,a.kz,a.base,a.fuel,a.cp⟩
theorem Fu.beside {d:aa}{b:Nat->Prop}(a:Fu B g h s q k st m D aJ c n)(x:Mod b h d)(hX: ∀c,b c->k c=0/\g.size<=c)(e: ¬b s):Fu B g d s q k st m D aJ c n:=⟨a.db.beside x hX,x.af a.cell e,a.kz,a.base,a.fuel,a.cp⟩
theorem Fu.put {d b:Nat}(a:Fu B g h s q k st m D aJ c n)(e:aJ<=d)(f:c<=b)(i:b<=B.C):Fu B g h s q k st m D d b n:=⟨a.db.put e f i,a.cell,a.kz,a.base,a.fuel,a.cp⟩
theorem Fu.lt(a:Fu B g h s q k st m D aJ c n):s<h.size:=Af a.cell
theorem Fu.step {b:aa}{d:Hp}{k':Nat->Nat}{f:Db}{e:Bx}{i:Bl}{j l:Nat}(a:Fu B g h s q k st m D aJ c n)(p:Bp B g b d k' f e i j l)(hd:d.d=q.d)(r:e.fuel= -1)(t:Mod (λc=>k c≠0) h b)(u: ∀c,k' c≠0->k c≠0\/h.size<=c):Fu B g b s d k' f e i j l n:=by
 refine⟨p,by rw[hd];exact t.af a.cell (by rw[a.kz];simp),Decidable.byContradiction λv=>?_,a.base,r,a.cp⟩;have:=a.lt;rcases u s v with o|o
 ·exact o a.kz
 ·omega
theorem rq {key:A2P}(b:Fu B g h s q k st m D aJ c n)(d:key.size<=1099511627776)(e: ∀a,Ext h a->R (J1 #[J7 (Gc (CZ st) key).1,J3 (Gc (CZ st) key).2,J6 J9 0]) a):AA A P DT #[Ap s,J7 key] h R:=by refine Ym ?_;unfold Rq;refine ae.no rfl (aE (AZ.mk (AL b.cell rfl) ?_));obtain⟨i,f,j,l⟩:=b.db.di;exact zd b.db.mem f d λa x=>⟨_,_,_,rfl,e a x⟩
theorem ANi {p:A2P}(Q:p.size<=1099511627776)(t: ∀u,Ext h u->R (J7 (Pg p)) u):AA A P UE #[J7 p] h R:=by
 refine AF4 ?_;unfold tW;have y:J8 J9 ((p.size:Int)-(1:Int))=(p.size:Int)-1:=wrap_i64 (by omega) (by omega);rw[y];have S:p.data.toList.length=p.size:=by rw[DS];rfl
 refine Loop.rule (λv x f=> ∃b:Nat,x=((b:Int)-1,())/\v=b/\f=h/\b<=p.size/\ ∀x∈p.data.toList.drop b,¬x<255) ?_ ⟨p.size,rfl,rfl,rfl,A0 _,λx e=>by rw[HE (by omega)] at e;cases e⟩;rintro K v _ f ⟨b,rfl,T,rfl,U,o⟩ z;dsimp only;refine ae.intro (λr=>?_) (λr=>?_)
 ·have V:1<=b:=by have:=of_decide_eq_true r;omega
  obtain⟨i,rfl⟩: ∃i,b=i+1:=⟨b-1,by omega⟩;have C:((i+1:Nat):Int)-1=(i:Int):=by omega
  rw[C];refine⟨by omega,?_⟩;have ag:p.data.toList[i]? =some (p.data.toList[i]'(by omega)):=A2 _;generalize F:p.data.toList[i]'(by omega)=a at*
  have G:du p (i:Int)=(a.toNat:Int):=by
   unfold du;have:p[i]? =some a:=by rw[show p[i]? =p.data[i]? from rfl,<-Mz];exact ag
   rw[show((i:Int).toNat)=i from rfl,this];rfl
  rw[G];have H:p.data.toList.drop i=a::p.data.toList.drop (i+1):=by rw[FF (by omega),F]
  refine ae.intro (λd=>?_) (λd=>?_)
  ·have d:a<255:=by rw[UInt8.lt_iff_toNat_lt];have:=of_decide_eq_true d;show a.toNat<255;omega
   have W:a.toNat<255:=UInt8.lt_iff_toNat_lt.1 d;refine⟨by omega,⟨by omega,?_⟩⟩;have I:J8 .u8 ((a.toNat:Int)+(1:Int))=((a+1).toNat:Int):=by
    rw[show(a.toNat:Int)+1=((a.toNat+1:Nat):Int) from by omega,wrap_u8];have j:(a+1).toNat=a.toNat+1:=by rw[UInt8.toNat_add];show(a.toNat+1) % 256=_;omega
    rw[j];omega
   rw[I];refine ak.mk λw _ J L X=>?_
   have v2:View H7 w ⟨some ⟨f.size,0,none⟩,1,1⟩ [a+1]:=(Own.lit (E:=H7) (l:= [a+1]) J rfl (by simp[maxLen])).view;refine LU (s:=⟨some ⟨f.size,0,none⟩,1,1⟩) lZ lY QB v2 ⟨_,rfl,?_⟩;have M:(AX [a+1]).size=1:=AP _;have Y:(p.extract 0 i).size<=p.size:=by rw[A0T];omega
   refine⟨by rw[show(i:Int).toNat=i from rfl,M];show(((p.extract 0 i).size+1:Nat):Int)<=9223372036854775807;omega,?_⟩;have:=t w L;have N:Pg p=p.extract 0 i++AX [a+1]:=by unfold Pg;rw[vR ag d o];apply SP;rw[I3,SR];apply OK;rw[KB,SU];show p.data.toList.take i++ [a+1]=_++(AX [a+1]).data.toList;rw[show(AX [a+1]).data.toList= [a+1] from Ce _];simp
   rw[N] at this;exact this
  ·have d: ¬a<255:=λh=>by
    have:=UInt8.lt_iff_toNat_lt.1 h;have j:(255:UInt8).toNat=255:=rfl;have:=of_decide_eq_false d;omega
   rw[show J8 J9 ((i:Int)-(1:Int))=(i:Int)-1 from wrap_i64 (by omega) (by omega)];refine z i _ _ (by omega) ⟨i,rfl,rfl,rfl,by omega,λx e=>?_⟩;rw[H] at e;rcases List.mem_cons.1 e with rfl|e
   ·exact d
   ·exact o x e
 ·have O:b=0:=by have:=of_decide_eq_false r;omega
  subst O;have:=t f Mod.refl;have j:Pg p=⟨#[]⟩:=by unfold Pg;rw[qI (by simpa using o)];rfl
  rw[j] at this;exact this
theorem ANm {p f:A2P}{e:Int}(b:Fu B g h s q k st m D aJ c n)(l:p.size<=1099511627776)(o: ∀sl d,Own BZ AR d sl (kP (CZ st) p f e)->(∀ c,sl.af=some c->h.size<=c)->Ext h d->R (J1 #[J4 sl.p sl.len sl.cap,J6 J9 0]) d):AA A P JU #[Ap s,J7 p,J7 f,J6 J9 e] h R:=by
 refine Xr ?_;unfold QH;refine ae.no rfl (aE (AZ.mk (AL b.cell rfl) ?_));refine ANi l λC a=>⟨_,rfl,⟨a.ag (AL b.cell rfl),?_⟩⟩
 have i:=b.on a;obtain⟨r,t,u,E⟩:=i.db.di;have v:(if(!aO p f)=true then p else f)=gf p f:=by unfold gf;cases aO p f<;>rfl
 rw[v];refine APy i.db.mem r t u λsl w j x y=>⟨sl,_,rfl,?_⟩
 rw[ANp] at j;exact o sl w j (λc z=>by have:=x c z;have:=a.size;omega) (a.trans y)
theorem yG {conds sl:Sl}{d l:List Pr}(aD:cj g)(r:Fu B g h s q k st m D aJ c n)(hA:aJ+3<=B.A)(aF:c+64<=B.C)(aG:n+1<=1000000)(vc:View BZ h conds d)(v:View BZ h sl l)(aH:l≠ []-> ∀b,sl.af=some b->b<h.size/\k b=0)(aI: ∀x∈d,x.key.size<=1099511627776)
  (z:dx (CZ st) d l≠0-> ∀t,Ext h t->R (J6 J9 (dx (CZ st) d l)) t)
  (H:dx (CZ st) d l=0-> ∀t I U V aK aL,I.d=q.d->I.b=q.b->Fu B g t s I U V aK aL (aJ+3) (c+64) (n+1)->CZ V=cM (CZ st) l->Mod (λc=>k c≠0\/h.size<=c\/c=s) h t->(∀ c,U c≠0->k c≠0\/h.size<=c)->R (J6 J9 0) t):
  AA A P Fe #[Ap s,J4 conds.p conds.len conds.cap,J4 sl.p sl.len sl.cap] h R:=by
 refine ABC ?_;unfold TU;refine ae.no rfl ?_;rw[vc.len];refine ae.intro (λf=>?_) (λf=>?_)
 ·have C:d.length>64:=by have:=of_decide_eq_true f;omega
  have j:dx (CZ st) d l=2:=by unfold dx;rw[if_pos C]
  have:=z (by rw[j];decide) h Mod.refl;rwa [j] at this
 have C: ¬d.length>64:=by have:=of_decide_eq_false f;omega
 refine yq (s:=sl) v λo W=>⟨_,rfl,?_⟩
 refine ae.intro (λJ=>?_) (λJ=>?_)
 ·have u:EU l≠0:=by simpa using J
  have j:dx (CZ st) d l=EU l:=by unfold dx;rw[if_neg C,if_pos u]
  have:=z (by rw[j];exact u) o W;rwa [j] at this
 have u:EU l=0:=by simpa using J
 have j:dx (CZ st) d l=if d.all (BQ (CZ st)) then 0 else 100:=by unfold dx;rw[if_neg C,if_neg (by rw[u];simp)]
 rw[j] at z H;refine Loop.rule (λX x p=> ∃i:Nat,x=((i:Int),())/\X=d.length-i/\i<=d.length/\Ext h p/\(d.take i).all (BQ (CZ st))=true) ?_ ⟨0,rfl,rfl,AD _,W,rfl⟩;rintro K X _ p ⟨i,rfl,rfl,aW,w,L⟩ aM;have E:=r.on w;dsimp only;refine ae.intro (λf=>?_) (λf=>?_)
 ·have y:i<d.length:=by have:=of_decide_eq_true f;omega
  have ag:d[i]? =some d[i]:=A2 y;have aN:=aI d[i] (AW y);have aO:d[i]∈d:=AW y;have aP:d.take (i+1)=d.take i++ [d[i]]:=by rw[Ax,ag];rfl
  generalize d[i]=x at*
  rw[<- vc.len];refine(vc.ext w).idx ag λa _ M=>?_
  obtain⟨M,aQ,aR⟩:=M.pair;refine AJ.mk M (AJ.mk aQ (Aa.mk aR (ak.pair λb N aX Y Z aY=>?_)));have O:=E.on Z;refine aE (AZ.mk (AL O.cell rfl) (AJ.mk (AL Y rfl) ?_));obtain⟨aZ,aS,a0,a1⟩:=O.db.di;refine zd O.db.mem aS aN λQ aa=>⟨_,_,_,rfl,ae.no rfl ?_⟩
  have ac:=Ai aa Y;have ad:=(w.trans Z).trans aa;refine ah.mk λaf ai=>?_
  have p:=AHL (m:=CZ st) (c:=x);have aj:BQ (CZ st) x=false->af (true,()) Q:=λS=>ai _ _ (ae.yes rfl (by
   have T: ¬d.all (BQ (CZ st))=true:=λh=>by
    have:=List.all_eq_true.1 h x aO;rw[S] at this;cases this
   rw[if_neg T] at z;exact z (by decide) Q ad))
  have aC:BQ (CZ st) x=true->af (false,()) Q:=λS=>ai _ _ (ae.no rfl (by
   rw[Ab (by omega)];refine aM (d.length-(i+1)) _ _ (by omega) ⟨i+1,rfl,rfl,y,ad,?_⟩;rw[aP,List.all_append,L];simp[S]))
  refine Aa.mk (AB ac rfl) (ae.intro (λo=>?_) (λo=>?_))
  ·exact aj (by rw[p,o];rfl)
  ·refine ae.intro (λF=>?_) (λF=>?_)
   ·refine AJ.mk (AB ac rfl) ?_;cases N:bL (Gc (CZ st) x.key).1 x.val with
    |true=>exact aC (by rw[p,o,F,N];rfl)
    |false=>exact aj (by rw[p,o,F,N];rfl)
   ·exact aC (by rw[p,o,F];rfl)
 ·have y:i=d.length:=by have:=of_decide_eq_false f;omega
  subst y;rw[C5] at L;rw[if_pos L] at H;have a2:=w.size;refine aE (AZ.mk (AL E.cell rfl) ?_);refine AIj (B:=B) (s:=sl) aD E.db r.fuel hA (v.ext w) (λT b al=>by have:=aH T b al;exact⟨by omega,this.2⟩) aF λa3 am an ao ap aq ar aT au av aw a4 ax ay=>⟨_,rfl,?_⟩
  rw[if_pos u] at aw;have G:=E.step au ar av ax ay;rw[u];refine ae.no rfl (aE (AC.mk (AB G.cell rfl) (aE ?_)));rw[Ab (by have:=r.cp;omega)];simp only[Ba,AI];refine ab.mk G.cell (by simp) λaz aU aA a5=>?_
  have aV:Fu B g az s am an ao ap aq (aJ+3) (c+64) (n+1):=⟨au.beside aA (λc e=>by subst e;exact⟨G.kz,r.base⟩),by simpa using aU,G.kz,r.base,av,aG⟩;have al:=r.base;refine H rfl az am an ao ap aq ar aT aV aw (((w.ai λc _ e=>e.elim).trans (ax.ai λc _ e=> .inl e)).trans (aA.ai λc _ e=> .inr (.inr e))) λc e=>?_
  rcases ay c e with h|h
  ·exact .inl h
  ·exact .inr (by omega)
end
section
variable {A : al} {h : aa} {R : A2O}
end
section
variable {A : al} {B : cE} {g h : aa} {m : Bx} {D : Bl} {aJ c : Nat} {R : A2O}
theorem AML {b:Nat}{Sb:Nat->Prop}(o:cj g)(p:Cm h b Sb m)(q:Ext g h)(r: ∀c,Sb c->g.size<=c)(hd:m.down=false)(t:m.fuel= -1)(u: ∀a,ff m (aD nl a)=none)(v: ∀a,ff m (aD nn a)=none)(w: ∀x,ff m x≠none->(bl x).head? ≠some 116)(hA:1<=B.A)(y:bg m.files<=B.W0)
  (z: ∀d s i j k C E,i.b=b->Fu B g d s i j k C E 1 0 0->CZ k= []->Mod (λc=>Sb c\/h.size<=c) h d->(∀ c,j c≠0->Sb c\/h.size<=c)->h.size<=s->R (J1 #[Ap s,J6 J9 0]) d):AA A P Re #[Ap b] h R:=by
 refine AHk ?_;unfold tK;refine ANx (B:=B) o p q r hd t u v w hA y λF G H I J K L e M N _ l O=>⟨_,_,rfl,ae.no rfl (ak.mk λQ _ S n U=>?_)⟩
 have T:=e.mem.ext.size;exact z Q F.size G H I J K L ⟨e.on n,S,e.free (A0 _),T,M,AD _⟩ N ((l.ai λc _ f=> .inl f).trans (n.ai λc _ f=>f.elim)) O l.size
end
structure ASh where
 kind:Int
 cs:Sl
 bs:Sl
 key:A2P
 aT:A2P
 most:Int
 all:Bool
structure ASq (N:Nat) (h:aa) (x:ASh) (cl l:List Pr):Prop where
 cs:View BZ h x.cs cl
 bs:View BZ h x.bs l
 keys: ∀c∈cl,c.key.size<=N
 key:x.key.size<=N
end Go.Lf.G
