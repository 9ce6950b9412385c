/-
 Contracts: what a request asks for, as bytes; what it makes of a change (chapter 19).
-/
import Derived.Test.YtecomiijolnjpaaGreatDoorLfZ24ToE12
import Derived.Test.YtecomiijolnjpaaGreatDoorLfJToGA
import Derived.Test.YtecomiijolnjpaaGreatDoorLfZ10ToGLEngineChanges_1
set_option maxRecDepth 100000
set_option linter.unusedVariables false
set_option linter.unusedSimpArgs false
open Go.IntKind renaming i64→J9,wrap→J8
open Go.Value renaming string→J7,int→J6,pointer→J5,slice→J4,bool→J3,tuple→J1
open Go.Obj renaming cells→J2
open Go renaming Value→J0,Addr→Q6,TypeId→Q7,FuncId→Q8,Program→Q1
open Go.Addr renaming add→Q9,mk→Q5
namespace Go.Lf.G
open Go
open M (Sorted Ae Ca A8 Ag Ar BV Ah bE BF aS BL)
def Kv(x:bZ)(p:ct):List UInt8:=BX x.kind.toNat++(BP (bl x.wid)++(BP (if x.kind=2 then bl x.name else [])++(if x.kind=1 then CP p else [])))
def Oi(x:bZ)(p:ct):Int:=if x.kind=1/\Fx p=false then 130 else if(x.kind=2/\Au x.name=false)\/Au x.wid=false\/Au x.bz=false then 1 else 0
theorem lB {x:bZ}{p:ct}(h:Oi x p=0):(x.kind=1->Fx p=true)/\(x.kind=2->Au x.name=true)/\Au x.wid=true/\Au x.bz=true:=by
 unfold Oi at h;split at h
 ·cases h
 ·rename_i b;split at h
  ·cases h
  ·rename_i a;simp only[not_or,not_and,Bool.not_eq_false] at b a;exact⟨b,a.1,a.2⟩
theorem Qn {p:ct}(ok:Fx p=true):(CP p).length<=1700:=by simp only[Fx,A3,decide_eq_true_eq] at ok;obtain⟨⟨c,a⟩,b⟩:=ok;have d:=BR.1 a;have:=Ow b;have e:=AV (n:=p.aw.toNat) (by omega);have f:=AV (n:=p.steps.length) (by omega);unfold CP;simp only[A1];omega
theorem AOT {x:bZ}{p:ct}(h:Oi x p=0)(f:1<=x.kind/\x.kind<=4):(Kv x p).length<=2000:=by
 obtain⟨a,b,c,g⟩:=lB h;have i:=Fq c;have j:=Gl (n:=x.kind.toNat) (by omega);have k:=KN (s:=x.wid) (by omega);have l:(BP (if x.kind=2 then bl x.name else [])).length<=30:=by
  split
  ·rename_i d;have:=Fq (b d);have:=KN (s:=x.name) (by omega);omega
  ·have:=AV (n:=0) (by omega);show(BX 0++ []).length<=30;rw[AM];omega
 have m:(if x.kind=1 then CP p else []).length<=1700:=by
  split
  ·rename_i e;exact Qn (a e)
  ·simp
 unfold Kv;simp only[A1];omega
section
variable {A : al} {h : aa} {R : A2O}
theorem AMQ {x:bZ}{p:ct}(V:View Oh h x.steps p.steps)(M:x.aw=p.aw)(len:p.steps.length<=1099511627776)(an:1<=x.kind/\x.kind<=4)
  (w: ∀e,Ext h e->R (J1 #[J7 (if Oi x p=0 then AX (Kv x p) else⟨#[]⟩),J6 J9 (Oi x p)]) e):AA A P Me #[x.v] h R:=by
 refine Zn ?_;unfold Rz;refine ak.mk λi _ j k ao=>ah.mk λK N=>?_
 have y: ∀(n:Int) e,Ext h e->Oi x p=n->n≠0->R (J1 #[J7 ⟨#[]⟩,J6 J9 n]) e:=λn e O Q r=>by
  have:=w e O;rw[Q,if_neg r] at this;exact this
 have z: ∀(ps:List UInt8) (b:aa),Ext i b->(x.kind=1->Fx p=true/\ps=CP p)->(x.kind≠1->ps= [])->K (AX ps,()) b:=λps b f m B=>by
  have c:=f.af j λh=>h
  have ap:ps.length<=1700:=by
   by_cases h:x.kind=1
   ·rw[(m h).2];exact Qn (m h).1
   ·rw[B h];simp
  have C: ¬(x.kind=1/\Fx p=false):=λh=>by have:=(m h.1).1;rw[h.2] at this;cases this
  refine N _ _ (ah.mk λt S=>?_);have u: ∀o:Bool,(o=true↔(x.kind=2/\Au x.name=false)\/Au x.wid=false\/Au x.bz=false)->t (o,()) b:=λo D=>by
   refine S _ _ (ae.intro (λg=>y 1 b (k.trans f) (by unfold Oi;rw[if_neg C,if_pos (D.1 g)]) (by decide)) (λg=>?_));have g:o=false:=g;have T: ¬((x.kind=2/\Au x.name=false)\/Au x.wid=false\/Au x.bz=false):=λh=>by rw[D.2 h] at g;cases g
   have E:Oi x p=0:=by unfold Oi;rw[if_neg C,if_neg T]
   obtain⟨aq,U,W,ar⟩:=lB E;have au:=Fq W;refine AJ.mk (n:=x.name) (AB c rfl) (ah.mk λX Y=>?_);have F: ∀d:List UInt8,d=(if x.kind=2 then bl x.name else [])->X (AX d,()) b:=λd G=>by
    have nl:d.length<=16:=by
     rw[G];split
     ·rename_i Z;rw[BA];exact Fq (U Z)
     ·simp
    refine Y _ _ (AC.mk (n:=x.kind) (AL c rfl) ?_);rw[N9 (by omega) (by omega)];refine CR (by omega) λav H=>⟨_,rfl,AJ.mk (n:=x.wid) (AB (H.af c λh=>h) rfl) ⟨AB c rfl,LK (by omega) λaw ab=>⟨_,rfl,?_⟩⟩⟩
    have ax:=Gl (n:=x.kind.toNat) (by omega);have ay:=KN (s:=x.wid) (by omega);have az:(BP d).length<=30:=by unfold BP;rw[A1];have:=AV (n:=d.length) (by omega);omega
    refine⟨by rw[AP,AP,max_i64];omega,?_⟩;rw[Ak];refine Qa (l:=d) (by omega) λac ad=>⟨_,rfl,⟨by rw[AP,AP,A1,max_i64];omega,?_⟩⟩
    rw[Ak];refine⟨by rw[AP,AP,A1,A1,max_i64];omega,?_⟩;rw[Ak];have:=w ac ((((k.trans f).trans H).trans ab).trans ad);rw[E,if_pos rfl] at this;have af:Kv x p=((BX x.kind.toNat++BP (bl x.wid))++BP d)++ps:=by
     unfold Kv;rw[G];simp only[A4];congr 3;split
     ·rename_i h;rw[(m h).2]
     ·rename_i h;rw[B h]
    rw[af] at this;exact this
   refine AC.mk (n:=x.kind) (AL c rfl) (ae.intro (λa=>?_) (λa=>?_))
   ·have a:x.kind≠2:=by simpa using a
    exact F [] (by rw[if_neg a])
   ·have a:x.kind=2:=by simpa using a
    have:=F (bl x.name) (by rw[if_pos a]);rw[strL_bl] at this;exact this
  have rest:(x.kind=2->Au x.name=true)->AJ b ((⟨h.size,0,none⟩:Q6).add 2) λag=>AA A P Bt #[J7 ag] b λai v=> ∃I:Bool,ai=J3 I/\(ae (!I) (t (true,()) v) (
    AJ v ((⟨h.size,0,none⟩:Q6).add 1) λaj=>AA A P Bt #[J7 aj] v λal am=> ∃J:Bool,al=J3 J/\(t ((!J),()) am))):=λr=>
   AJ.mk (n:=x.wid) (AB c rfl) (Fb ⟨_,rfl,ae.intro (λa=>u true (by simp at a;simp[a])) λa=>AJ.mk (n:=x.bz) (AB c rfl) (Fb ⟨_,rfl,u _ (by
    have a:Au x.wid=true:=by simpa using a
    simp only[a,CA,Bool.true_eq_false,false_or];constructor
    ·exact .inr
    ·rintro(⟨i,b⟩|h)
     ·rw[r i] at b;cases b
     ·exact h)⟩)⟩)
  refine AC.mk (n:=x.kind) (AL c rfl) (ae.intro (λa=>?_) (λa=>?_))
  ·have a:x.kind=2:=by simpa using a
   refine AJ.mk (n:=x.name) (AB c rfl) (Fb ⟨_,rfl,ae.intro (λq=>u true (by simp at q;simp[a,q])) λq=>rest λ_=>by simpa using q⟩)
  ·have a:x.kind≠2:=by simpa using a
   exact rest λh=>absurd h a
 refine AC.mk (n:=x.kind) (AL j rfl) (ae.intro (λa=>?_) (λa=>?_))
 ·have a:x.kind=1:=by simpa using a
  refine AY.mk (s:=x.steps) (AB j rfl) (AC.mk (n:=x.aw) (Bf (by exact j) rfl) ?_);rw[M];refine tf (V.ext k) len λb f=>?_
  unfold XV;cases L:Fx p with
  |false=>exact⟨_,_,rfl,ae.yes rfl (y 130 b (k.trans f) (by unfold Oi;rw[if_pos ⟨a,L⟩]) (by decide))⟩
  |true=>exact⟨_,_,rfl,ae.no rfl (z (CP p) b f (λ_=>⟨L,rfl⟩) λh=>absurd a h)⟩
 ·have a:x.kind≠1:=by simpa using a
  exact z [] i Mod.refl (λh=>absurd h a) λ_=>rfl
end
def dz(a:Int)(b:A2P):Ev:=⟨0,a,0,0,0,0,false,b⟩
def Cc(c:Option (List Ev))(wid:A2P)(a:Nat)(b:Int):ba:=match c with
 |none=>Gw wid a 0 0 false Qs b
 |some l=>Gw wid a (Be l).status (Be l).next false (Be l) b
def sL(p:ct)(a:Int):Int:=if(0:Int)>a+p.aw then 0 else a+p.aw
def DF(x:bZ)(p:ct)(a:ba)(b:Nat):ba:=
 if x.kind=1 then(if 0<p.aw then Dc (EK a (dz 1 (AX (CP p)))) ⟨6,0,0⟩ (sL p a.now) b else EK a (dz 1 (AX (CP p))))
 else if x.kind=2 then EK a (dz 12 x.name)
 else if x.kind=3 then(if a.st.cancel=true then a else EK a (dz 13 ⟨#[]⟩))
 else EK a (dz 18 ⟨#[]⟩)
def F3(x:bZ)(p:ct)(a:ba)(b:Nat):ba:=kK (DF x p a b) (Mf x.bz) (iV (Kv x p) (DU (DF x p a b)).1.toNat (DU (DF x p a b)).2.toNat)
def MF(b:cO)(c:dv)(d:Nat)(x:bZ)(p:ct):Option (Int×Int×Int):=
 if x.kind<1\/4<x.kind then some (1,0,0)
 else if Oi x p≠0 then some (Oi x p,0,0)
 else if d=0 then some (170,0,0)
 else match c x.bz with
  |some a=>if a.1≠Kv x p then some (184,0,0) else some (0,a.2.1,a.2.2)
  |none=>match b x.wid with
   |none=>if x.kind=1 then none else some (180,0,0)
   |some l=>if x.kind=1 then some (181,0,0) else if(Be l).status≠0 then some (182,0,0) else none
theorem AIr {a:Option (List Ev)}{wid:A2P}{n:Nat}{now:Int}(h: ∀l,a=some l->Ta l):De (Cc a wid n now).st 500/\(Cc a wid n now).more= []/\(Cc a wid n now).aq= []/\(Cc a wid n now).conds= []/\(Cc a wid n now).wid=wid/\(Cc a wid n now).ao=n/\(Cc a wid n now).now=now/\(Cc a wid n now).fits (a.getD []):=by
 cases a with
 |none=>exact⟨De.zero.up (by omega),rfl,rfl,rfl,rfl,rfl,rfl,rfl⟩
 |some l=>
  have b:=h l rfl;refine⟨?_,rfl,rfl,rfl,rfl,rfl,rfl,?_⟩
  ·have:=wm De.zero b.ok;exact this.up (by have:=b.len;omega)
  ·show ET Qs (l++ [])=some (Be l);rw[AM];exact b.ok
theorem AME {x:bZ}{p:ct}{a:ba}{num c:Nat}(u:Oi x p=0)(ok: ∀e∈a.more,EX e=true/\e.data.size<1099511627776)(v:De a.st c):a.grown (DF x p a num) (c+1) 1 1:=by
 obtain⟨w,y,C,D⟩:=lB u;have b:=Qx ok v;have z:(⟨#[]⟩:A2P).size<1099511627776:=by decide
 have up: ∀ {d:ba},a.grown d (c+1) 1 0->a.grown d (c+1) 1 1:=λ{d} ⟨f,g,i,j,k,l,m,s,n,B,o,q⟩=>⟨f,g,i,j,k,l,m,s,n,by omega,o,q⟩
 unfold DF;split
 ·rename_i r;have t:(dz 1 (AX (CP p))).data.size<1099511627776:=by show(AX (CP p)).size<_;have:=Qn (w r);rw[AP];omega
  split
  ·exact RB (LX b t) _ _ _
  ·exact up (LX b t)
 ·split
  ·rename_i r;exact up (LX b (e:=dz 12 x.name) (by have:=Fq (y r);show x.name.size<_;omega))
  ·split
   ·split
    ·obtain⟨f,g,i,j,k,l,m,s,n,B,o,q⟩:=b;exact⟨f,g,i,j,k,l,m,by omega,n,by omega,o,q.up (Cd _)⟩
    ·exact up (LX b z)
   ·exact up (LX b z)
theorem AO0 {x:bZ}{p:ct}{a:ba}{c:Nat}{b:List Ev}(h:a.fits b):(DF x p a c).fits b:=by
 unfold DF;split
 ·split
  ·exact Nf (JH h)
  ·exact JH h
 ·split
  ·exact JH h
  ·split
   ·split
    ·exact h
    ·exact JH h
   ·exact JH h
theorem AJc {x:bZ}{p:ct}{c:ba}{d:Nat}(h:c.aq= []):(DF x p c d).beside none:=by
 have b:c.beside none:=⟨(λp a=>by rw[h] at a;cases a),(λp a=>by rw[h] at a;cases a),(λp a=>by rw[h] at a;cases a)⟩;unfold DF;split
 ·split
  ·exact MV (LY b _) _ _ _
  ·exact LY b _
 ·split
  ·exact LY b _
  ·split
   ·split
    ·exact b
    ·exact LY b _
   ·exact LY b _
theorem sM {b:ba}{c:Ev}(h:(EK b c).err=0):b.err=0:=by
 unfold EK at h;split at h
 ·rename_i a;exact absurd h a
 ·rename_i a;simpa using a
theorem XA {b:ba}{t:gk}{tick:Int}{c:Nat}(h:(Dc b t tick c).err=0):b.err=0:=by
 unfold Dc at h;split at h
 ·rename_i a;exact absurd h a
 ·rename_i a;simpa using a
theorem pq {a:ba}{b:Ev}(h:(EK a b).err=0):EK a b= {a with st:=(Bh a.st (Cg a b)).2,more:=a.more++ [Cg a b]}/\(Bh a.st (Cg a b)).1=0:=by
 have d:=sM h;unfold EK at h ⊢;rw[if_neg (by simp[d])] at h ⊢;split at h
 ·cases h
 ·rename_i e;rw[if_neg e];split at h
  ·rename_i c;exact absurd h c
  ·rename_i c;rw[if_neg c];exact⟨rfl,by simpa using c⟩
theorem ANn {a:ba}{b:Nat}(h:(EY a b).err=0):a.err=0:=by
 unfold EY at h;split at h
 ·exact sM (XA h)
 ·exact h
theorem sN {a:ba}{b c:Nat}(h:(Ay a b c).err=0):(EY a b).err=0:=by
 unfold Ay at h;split at h
 ·exact XA h
 ·exact h
theorem sO {a:ba}{c d:Nat}(h:(Ay a c d).err=0):(Ay a c d).st.status=(DU a).1/\(Ay a c d).st.next=(DU a).2:=by
 have g:=sN h;have j:(Ay a c d).st=(EY a c).st:=by
  unfold Ay;split
  ·exact(I6 _ _ _ _).1
  ·rfl
 rw[j];unfold DU;by_cases e:FP a=true
 ·rw[if_pos e];unfold EY at g ⊢;rw[if_pos e] at g ⊢;rw[(I6 _ _ _ _).1];obtain⟨k,b⟩:=pq (XA g);rw[k];show(Bh a.st (Cg a Wz)).2.status=_/\(Bh a.st (Cg a Wz)).2.next=_;have ok:=QE b;unfold Bh at b ⊢;rw[if_neg (by simp[ok])] at b ⊢;split at b
  ·rename_i i;rw[if_neg (λh=>by have h:(2:Int)=1:=h.1;cases h)] at b;cases b
  ·rename_i i;rw[if_neg i];split at b
   ·cases b
   ·rename_i l;rw[if_neg l];split at b
    ·cases b
    ·rename_i m;rw[if_neg m];cases f:OT a.st (Cg a Wz) with
     |none=>rw[f] at b;cases b
     |some t=>
      unfold OT at f;rw[if_pos (show 2<=(Cg a Wz).kind/\(Cg a Wz).kind<=5 from(by decide:(2:Int)<=2/\(2:Int)<=5))] at f;obtain⟨u,n,rfl⟩:=Option.map_eq_some_iff.1 f;exact⟨(Pj n).2.2.2,rfl⟩
 ·rw[if_neg e];unfold EY;rw[if_neg e];exact⟨rfl,rfl⟩
structure Hs.dp (y y':Hs):Prop where
 p:y'.p=y.p
 name:y'.name=y.name
 f:y'.f=y.f
 u: ∀m,y'.u m<=y.u m+3
theorem br.less {g:aa}{O b:Nat->Prop}{c:Nat}(h:br g b c)(d: ∀c,O c->b c):br g O c:=⟨h.1,λe=>h.2 (d c e)⟩
theorem LV(wid:A2P){n:Nat}(h:1<=n):Aq wid n<n:=CT _ h
section
variable {A : al} {B : cE} {g h : aa} {s a N sh : Nat} {l : List Hs} {mp : List Pr} {O : Nat -> Prop} {i : Nat} {y : Hs} {fl : cO} {an : dv} {R : A2O}
def mX(b:ba):Option (List Ev)->Prop
 |none=>b.bT=0
 |some l=>b.cn=(Be l).status/\b.bT=(Be l).next/\b.kept=false/\0<b.bT
theorem AQZ {b:Option (List Ev)}{wid:A2P}{n:Nat}{now:Int}(h: ∀l,b=some l->Ta l):(0<=(Cc b wid n now).cn/\(Cc b wid n now).cn<=4)/\(0<=(Cc b wid n now).bT/\(Cc b wid n now).bT<=501)/\mX (Cc b wid n now) b:=by
 cases b with
 |none=>exact⟨⟨(by decide:(0:Int)<=0),(by decide:(0:Int)<=4)⟩,⟨(by decide:(0:Int)<=0),(by decide:(0:Int)<=501)⟩,rfl⟩
 |some l=>
  have c:=h l rfl;have st:=c.st;have nx:=c.next.1;have d:=c.len;exact⟨st,⟨by show 0<=(Be l).next;omega,by show(Be l).next<=501;omega⟩,rfl,rfl,rfl,by show 0<(Be l).next;omega⟩
theorem AJl {b c:ba}{e d f:Nat}(G:b.grown c e d f)(h:b.more= []):c.more.length<=d:=by have:=G.more;rw[h] at this;simpa using this
theorem AL7 {x:bZ}{p:ct}{cW:J0}{now:Int}(cX:cj g)(ab:LW B g h s a N sh l mp O)(ag:l[i]? =some y)(ai:Jl mp fl an)(V:View Oh h x.steps p.steps)(a1:x.aw=p.aw)(len:p.steps.length<=1099511627776)
  (d3: -4611686018427300000<=now/\now<=4611686018427300000) (ce: ∀n,y.f n<=2147483647) (cf: ∀n,y.u n+3<16777216) (d4:N+3<=1000000) (hA:4+3*a<=B.A) (cY:64*a+64<=B.C) (cZ:a+1<=1000000)
  (aJ: ∀f e st nx,MF fl an (y.f (Aq x.wid sh)) x p=some (e,st,nx)->Ext h f->R (dy e st nx).v f)
  (c0: ∀f w a2 r u,MF fl an (y.f (Aq x.wid sh)) x p=none->y.dp w->(Ay (F3 x p (Cc (fl x.wid) x.wid (Aq x.wid sh) now) a2) r u).err≠0->LW B g f s a (N+3) sh (l.set i w) mp O->Mod (br g O) h f->R (dy (Ay (F3 x p (Cc (fl x.wid) x.wid (Aq x.wid sh) now) a2) r u).err 0 0).v f)
  (c1: ∀f w,MF fl an (y.f (Aq x.wid sh)) x p=none->y.dp w->BQ mp (FC (Aq x.wid sh) (y.f (Aq x.wid sh)) y.name)=false->LW B g f s a (N+3) sh (l.set i (w.lost (Aq x.wid sh))) mp O->Mod (br g O) h f->R (dy 170 0 0).v f)
  (c2: ∀f w a2 r u D,D=Ay (F3 x p (Cc (fl x.wid) x.wid (Aq x.wid sh) now) a2) r u->MF fl an (y.f (Aq x.wid sh)) x p=none->y.dp w->D.err=0->LW B g f s (a+1) (N+3) sh (l.set i w) (cM mp (Dq D++D.aq)) O->
   Jl (cM mp (Dq D++D.aq)) (dC fl x.wid ((fl x.wid).getD []++D.more)) (dC an x.bz (Kv x p,D.st.status,D.st.next))->Be ((fl x.wid).getD []++D.more)=D.st->(∀ n bt cg,BQ (cM mp (Dq D++D.aq)) (FC n bt cg)=BQ mp (FC n bt cg))->Mod (br g O) h f->R (dy 0 D.st.status D.st.next).v f):
  AA A P EQ #[Ap y.p,cW,J6 J9 now,x.v] h R:=by
 obtain⟨-,ch,c3⟩:=ab.dG ag;have ci:=(List.getElem?_eq_some_iff.1 ag).1;have dc:l.set i y=l:=by rw[<- (List.getElem?_eq_some_iff.1 ag).2];exact PB ci
 have d5:=LV x.wid ch;refine ZQ ?_;unfold Rx;refine ak.mk λaj _ al bu d6=>ak.mk λav _ a3 ck d7=>?_
 have ac:Ext h av:=bu.trans ck;have al:av[h.size]? =some (J2 x.c GR (0,0)):=ck.af al λh=>h
 have d8:=Af a3;have aK: ∀ {S:aa} (e st nx:Int),Ext av S->(∀ f,Ext h f->R (dy e st nx).v f)->aN S ⟨aj.size,0,none⟩ (dy e st nx).l λa4=>Fs a4 ⟨aj.size,0,none⟩ λc4=>R (c4.v) a4:=λ{S} e st nx H c5=>
  Tg (H.af a3 λh=>h) λf bv=>c5 f ((ac.trans H).more bv λc d=>by subst d;exact bu.size)
 refine ah.mk λK c6=>?_
 have cl: ∀a5:Bool,(a5=true↔x.kind<1\/4<x.kind)->K (a5,()) av:=λa5 cn=>by
  refine c6 _ _ (ae.intro (λk=>aK 1 0 0 Mod.refl λf H=>aJ f 1 0 0 (by unfold MF;rw[if_pos (cn.1 k)]) H) (λk=>?_));have k:a5=false:=k;have bw: ¬(x.kind<1\/4<x.kind):=λh=>by rw[cn.2 h] at k;cases k
  have co:1<=x.kind/\x.kind<=4:=by omega
  refine VH.mk x (Dz al rfl) (AMQ (V.ext ac) a1 len co λd9 aT=>⟨_,_,rfl,?_⟩);by_cases ad:Oi x p=0;rotate_left
  ·refine ae.yes (by simp[ad]) (aK (Oi x p) 0 0 aT λf H=>aJ f _ 0 0 (by unfold MF;rw[if_neg bw,if_pos ad]) H)
  rw[if_pos ad];refine ae.no (by simp[ad]) (ae.no rfl ?_);obtain⟨bx,c7,aw,aU⟩:=lB ad;have ea:=Fq aw;have eb:=Fq aU;have dl:=AOT ad co;have bz:=ab.on (ac.trans aT);have bA:=aT.af al λh=>h
  refine AJ.mk (n:=x.wid) (AB bA rfl) (bz.aG ag ⟨_,rfl,⟨AB bA rfl,YL (by omega) ch c3 ⟨_,_,rfl,bz.holds ag ⟨_,rfl,?_⟩⟩⟩⟩);refine ae.intro (λk=>aK 170 0 0 aT λf H=>aJ f 170 0 0 (by unfold MF;rw[if_neg bw,if_neg (by simp[ad]),if_pos (by simpa using k)]) H) (λk=>?_);have cp:y.f (Aq x.wid sh)≠0:=by simpa using k
  have q:MF fl an (y.f (Aq x.wid sh)) x p=match an x.bz with
    |some E=>if E.1≠Kv x p then some (184,0,0) else some (0,E.2.1,E.2.2)
    |none=>match fl x.wid with
     |none=>if x.kind=1 then none else some (180,0,0)
     |some l=>if x.kind=1 then some (181,0,0) else if(Be l).status≠0 then some (182,0,0) else none:=by
   unfold MF;rw[if_neg bw,if_neg (by simp[ad]),if_neg cp];try rfl
  refine AJ.mk (n:=x.bz) (AB bA rfl) (AHX bz ag ai aU λec c8=>?_);have a6:=aT.trans c8;cases bC:an x.bz with
  |some E=>
   rw[bC] at q;refine⟨_,IJ.mk (dy 0 E.2.1 E.2.2) ⟨_,_,rfl,ak.mk λa4 _ bD bE c9=>aN.mk bD (A0 9) λbF bG bH da=>ae.no rfl ?_⟩⟩;rw[lA] at bG;have ax:Ext av bF:=(a6.trans bE).more bH λc d=>by subst d;exact a6.size
   refine ah.mk λdb bI=>ae.yes rfl (bI _ _ ?_)
   rw[CY];refine ae.intro (λk=>aK 184 0 0 ax λf H=>aJ f 184 0 0 (by
    have k: ¬(AX E.1=AX (Kv x p)):=by simpa using k
    rw[q];show(if E.1≠Kv x p then _ else _)=_;rw[if_pos λh=>k (by rw[h])]) H) (λk=>ae.yes rfl (Fs.mk (dy 0 E.2.1 E.2.2) (XG bG) (aK 0 E.2.1 E.2.2 ax λf H=>aJ f 0 E.2.1 E.2.2 (by
    have k:AX E.1=AX (Kv x p):=by simpa using k
    rw[q];show(if E.1≠Kv x p then _ else _)=_;rw[if_neg (by rw[N7.1 k];simp)]) H)))
  |none=>
   rw[bC] at q;refine⟨_,IJ.mk bS.z ⟨_,_,rfl,ak.mk λa4 _ bD bE c9=>aN.mk bD (A0 9) λbF bG bH da=>ae.no rfl ?_⟩⟩;have ax:Ext av bF:=(a6.trans bE).more bH λc d=>by subst d;exact a6.size
   refine ah.mk λdb bI=>ae.no rfl (bI _ _ (ae.no rfl (ae.no rfl ?_)))
   have dd:=ab.on (ac.trans ax);refine AJ.mk (n:=x.wid) (AB (ax.af al λh=>h) rfl) (pn dd ag ai (λh=>by rw[aw] at h;cases h) λ_ aV cq=>MI.mk _ ⟨_,rfl,ak.mk λed _ de df ee=>aN.mk de (A0 18) λbJ ay dg ef=>?_⟩);rw[Sw] at ay;have cr:Ext aV bJ:=df.more dg λc d=>by subst d;exact A0 _
   have az:Ext av bJ:=(ax.trans cq).trans cr;have eg:=(ax.trans cq).size;have a7:=az.af al λh=>h
   refine ah.mk λcs cu=>?_
   have bK: ∀(e:Int),e≠0->MF fl an (y.f (Aq x.wid sh)) x p=some (e,0,0)->cs (e,()) bJ:=λe I d=>
    cu _ _ (ae.yes (by simp[I]) (aK e 0 0 az λf H=>aJ f e 0 0 d H))
   have cv: ∀l,fl x.wid=some l->Ta l:=λl aA=>ai.dF _ _ aA
   obtain⟨aW,bL,bM,cw,bN,cx,cy,dh⟩:=AIr (wid:=x.wid) (n:=Aq x.wid sh) (now:=now) cv;obtain⟨eh,di,aL⟩:=AQZ (wid:=x.wid) (n:=Aq x.wid sh) (now:=now) cv;have cz: ∀ {S:aa} {es:Sl} {a' b' c':Sl},MF fl an (y.f (Aq x.wid sh)) x p=none->Ext h S->S[h.size]? =some (J2 x.c GR (0,0))->S[aj.size]? =some (J2 bS.z.c Cw (0,0))->
     (∃ fv:cm,S[aV.size]? =some (J2 fv.c CX (0,0))/\fv=⟨x.wid,(Aq x.wid sh:Int),⟨(Cc (fl x.wid) x.wid (Aq x.wid sh) now).cn,(Cc (fl x.wid) x.wid (Aq x.wid sh) now).bT,false⟩,es,(Cc (fl x.wid) x.wid (Aq x.wid sh) now).st.V a' b' c'⟩)->
     I1 S (Cc (fl x.wid) x.wid (Aq x.wid sh) now).st a' b' c'->(∀ c,a'.af=some c\/b'.af=some c\/c'.af=some c->aV.size<c)->(∀ a8:ba,a8=Gw x.wid (Aq x.wid sh) (Cc (fl x.wid) x.wid (Aq x.wid sh) now).cn (Cc (fl x.wid) x.wid (Aq x.wid sh) now).bT false (Cc (fl x.wid) x.wid (Aq x.wid sh) now).st now->a8=Cc (fl x.wid) x.wid (Aq x.wid sh) now)->
     cs (0,()) S:=λ{S es a' b' c'} dj bO dk dm aX a9 fr bP=>by
    have bP:=bP _ rfl;have bb:=dj;generalize ei:Cc (fl x.wid) x.wid (Aq x.wid sh) now=b at*
    obtain⟨fv,aX,rfl⟩:=aX;refine cu _ _ (ae.no rfl (G7.mk _ (SV aX) ?_));have ej:=Af aX
    let L:Nat->Prop:=λc=>O c\/c=h.size\/c=aj.size\/c=aV.size
    have cB: ∀c,gH b.st a' b' c' c->aV.size<c:=λc d=>fr c (by
     rcases d with⟨_,h⟩|⟨_,h⟩|⟨_,h⟩
     ·exact .inl h
     ·exact .inr (.inl h)
     ·exact .inr (.inr h))
    have ek:=bu.size;have cC: ∀c,O c->c<h.size:=λc d=>(ab.out d).1
    have dn:LW B g S s a N sh (l.set i y) mp (λc=>L c\/gH b.st a' b' c' c):=by
     rw[dc];refine ab.own bO.mod λc d=>?_
     rcases d with(h|h|h|h)|h
     ·exact .inl h
     ·exact .inr (by omega)
     ·exact .inr (by omega)
     ·exact .inr (by omega)
     ·exact .inr ⟨by have:=cB c h;omega,a9.lt h⟩
    refine pK (O:=L) (now:=now) dn ci a9 (λc d M=>?_) λaC bc z cD aM X=>⟨_,rfl,?_⟩
    ·have:=cB c d;rcases M with h|h|h|h
     ·have:=cC c h;omega
     ·omega
     ·omega
     ·omega
    rw[bP] at aM;have bQ: ∀ {c:Nat} {v:aa} {o:Obj},v[c]? =some o-> ∀ {Q:aa},L c->Mod (br g L) v Q->Q[c]? =some o:=λ{c v o} bR {Q} M m=>m.af bR λbT=>bT.2 M
    have cE:L h.size:= .inr (.inl rfl);have bd:L aj.size:= .inr (.inr (.inl rfl));have aO:=X.af dk λh=>h
    have dq:=X.af dm λh=>h
    have dr: ∀e∈b.more,EX e=true/\e.data.size<1099511627776:=λe I=>by rw[bL] at I;cases I
    refine AC.mk (n:=x.kind) (AL aO rfl) (ah.mk λcF ds=>?_);have bU: ∀ {J:aa} {z':Nat->Nat} {gU:dE} {w:Hs} (num:Nat),CW B g J s a (N+1) sh l i w mp L bc z' gU (DF x p b num)->y.cK w->Mod (br g L) aC J->cF () J:=λ{J z' gU w} num aP T bV=>by
     have G:=AME (num:=num) ad dr aW;have dt:=AJl G bL;have bW:=G.aq;rw[bM] at bW;have nx:=G.st.next;have du:=bQ aO cE bV;have dv:=bQ dq bd bV;refine ds _ _ (tm aP nx λaD aE=>IJ.mk (dy 0 (DU (DF x p b num)).1 (DU (DF x p b num)).2) ⟨rfl,ak.mk λdw _ dx bX el=>aN.mk dx (A0 9) λbY am dA en=>?_⟩);rw[lA] at am;have be:Ext J bY:=(aE.trans bX).more dA λc d=>by subst d;exact aE.size
     have bf:=aE.size;have eo:=Af am
     let aF:Nat->Prop:=λc=>L c\/c=aD.size
     have dB:CW B g bY s a (N+1) sh l i w mp aF bc z' gU (DF x p b num):=aP.wider (O':=aF) be.mod λc d=>d.imp id λh=>by omega
     have cG:0<=(DU (DF x p b num)).1/\(DU (DF x p b num)).1<=4:=G.st.st;have cH:0<=(DU (DF x p b num)).2/\(DU (DF x p b num)).2<=502:=by unfold DU;dsimp only;split<;>omega
     have b0:=Gl (n:=(DU (DF x p b num)).1.toNat) (by omega);have ep:=Gl (n:=(DU (DF x p b num)).2.toNat) (by omega);have eq:=AV (n:=(Kv x p).length) (by omega);have er:(BP (Kv x p)).length<=2010:=by unfold BP;rw[A1];omega
     refine AJ.mk (n:=x.bz) (AB (be.af du λh=>h) rfl) (ta (by omega) ⟨_,rfl,Qa (l:=Kv x p) (by omega) λet cI=>⟨_,rfl,?_⟩⟩);have b1:=cI.af am λh=>h
     refine AC.mk (n:=(DU (DF x p b num)).1) (AB b1 rfl) ⟨AB am rfl,AB am rfl,?_⟩;rw[N9 (by omega) (by omega)];refine CR (by omega) λeu cJ=>⟨_,rfl,⟨by rw[AP,AP,max_i64];omega,?_⟩⟩
     rw[Ak];have dD:=cJ.af b1 λh=>h
     refine AC.mk (n:=(DU (DF x p b num)).2) (AB dD rfl) ⟨AB b1 rfl,AB am rfl,AB am rfl,?_⟩;rw[N9 (by omega) (by omega)];refine CR (by omega) λev dF=>⟨_,rfl,⟨by rw[AP,AP,A1,max_i64];omega,?_⟩⟩
     rw[Ak,A4];have bg:=(cI.trans cJ).trans dF;have dG:=dB.on bg;refine tj (key:=Mf x.bz) (val:=iV (Kv x p) (DU (DF x p b num)).1.toNat (DU (DF x p b num)).2.toNat) dG (by rw[G.conds,cw];decide) (by simp at bW;omega) λb2 ew ex cK b3=>⟨rfl,?_⟩
     have bh: ∀ {c:Nat} {v:aa} {o:Obj},v[c]? =some o-> ∀ {Q:aa},aF c->Mod (br g aF) v Q->Q[c]? =some o:=λ{c v o} bR {Q} M m=>m.af bR λbT=>bT.2 M
     have cL:aF aD.size:= .inr rfl;have dH:=bh (bg.af am λh=>h) cL b3;have dI:=bh (bg.af (be.af dv λh=>h) λh=>h) (.inl bd) b3;have dJ:kK (DF x p b num) (Mf x.bz) (iV (Kv x p) (DU (DF x p b num)).1.toNat (DU (DF x p b num)).2.toNat)=F3 x p b num:=rfl;rw[dJ] at cK;have ao:(F3 x p b num).conds= [⟨Mf x.bz,⟨#[]⟩,true⟩]:=by show(DF x p b num).conds++_=_;rw[G.conds,cw];rfl
     have aY:(F3 x p b num).ao=Aq x.wid sh:=G.ao.trans cx;have b4:(F3 x p b num).wid=x.wid:=G.wid.trans bN;have ey:(F3 x p b num).aq.length<=2:=by show((DF x p b num).aq++ [_]).length<=2;rw[A1,CN];simp at bW;omega
     have b5: ∀ {v:aa},Mod (br g aF) b2 v->v[aj.size]? =some (J2 bS.z.c Cw (0,0))/\Mod (br g O) h v:=λ{v} m=>⟨bh dI (.inl bd) m,by
      have bi:Mod (br g O) h aC:=(bO.trans X).mod;have dK:Mod (br g O) aC J:=bV.ai λc _ d=>br.less d λc M=> .inl M
      have dL:Mod (br g O) bY b2:=bg.mod.trans (b3.ai λc _ d=>br.less d λc M=> .inl (.inl M));have dM:Mod (br g O) b2 v:=m.ai λc _ d=>br.less d λc M=> .inl (.inl M)
      exact(((bi.trans dK).trans be.mod).trans dL).trans dM⟩
     have b6: ∀ {v Q:aa} {bi cN:Nat} {b0:List Hs} {cO:List Pr},LW B g v s bi cN sh b0 cO aF->Mod (· =aj.size) v Q->LW B g Q s bi cN sh b0 cO O:=λdN m=>dN.own (m.ai λc _ d=>by subst d;exact .inl bd) λc d=> .inl (.inl (.inl d))
     have b7: ∀ {v Q:aa},Mod (br g O) h v->Mod (· =aj.size) v Q->Mod (br g O) h Q:=λm bv=>m.trans (bv.ai λc _ d=>by
      subst d;have:=ab.ext.size;exact⟨by omega,λM=>by have:=cC _ M;omega⟩)
     have dp: ∀ {Y:Hs},w.dh Y->y.dp Y:=λ{Y} U=>⟨U.p.trans T.p,U.name.trans T.name,U.f.trans T.f,λm=>by have:=T.u m;have:=U.u m;omega⟩
     have dO:FC (F3 x p b num).ao (w.f (F3 x p b num).ao) w.name=FC (Aq x.wid sh) (y.f (Aq x.wid sh)) y.name:=by rw[aY,T.f,T.name]
     have dP:bB (F3 x p b num)=bB b:=by show bB (DF x p b num)=_;unfold bB;rw[G.bT,G.cn,G.kept,G.wid]
     have dQ:BQ mp (bB (F3 x p b num))=true:=by
      rw[dP];refine sG ai (by rw[bN];exact aw) ?_;rw[bN];unfold mX at aL;split at aL
      ·rename_i C;first|exact aL|(rw[C];exact aL)
      ·rename_i C;first|exact aL|(rw[C];exact aL)
     have cP:De (F3 x p b num).st (500+1):=G.st;have cQ: ∀e∈(F3 x p b num).more,EX e=true/\e.data.size<1099511627776:=G.ok;refine tt cX cK cP (by omega) (by rw[b4];exact aw) cQ (by rw[aY];omega) (by rw[aY,T.f];exact ce _) (by have:=T.u (F3 x p b num).ao;have:=cf (F3 x p b num).ao;omega) (by omega) hA cY cZ (by show(DF x p b num).more.length<=_;omega) (by omega) (by rw[ao];simp) (λF k=>by
       rw[ao] at k;rw[List.mem_singleton.1 k];show(Mf x.bz).size<=_;rw[Uf];omega) (by show 0<=(DF x p b num).cn/\(DF x p b num).cn<128;rw[G.cn];omega) (by show 0<=(DF x p b num).bT/\(DF x p b num).bT<=501;rw[G.bT];exact di) (by show -_<=(DF x p b num).now/\(DF x p b num).now<=_;rw[G.now,cy];omega)
      (λdR=>absurd dR (by rw[aY,T.f];exact cp)) (λr u Y b8 U I aG aH=>⟨_,rfl,?_⟩) (λr u Y b8 U I aA aG aH=>⟨_,rfl,?_⟩) (λr u Y b8 U I aA hd aG aH=>?_) (λr u Y b8 U I aA hd aG aH=>⟨_,rfl,?_⟩)
     ·obtain⟨aQ,aR⟩:=b5 aH;refine ae.yes (by simpa using I) (Tg (x:=dy (Ay (F3 x p b num) r u).err 0 0) aQ λaZ ap=>?_);exact c0 aZ Y num r u bb (dp U) I (b6 aG ap) (b7 aR ap)
     ·obtain⟨aQ,aR⟩:=b5 aH;rw[dO] at aA;refine ae.yes rfl (Tg (x:=dy 170 0 0) aQ λaZ ap=>?_);rw[aY] at aG;exact c1 aZ Y bb (dp U) aA (b6 aG ap) (b7 aR ap)
     all_goals
      have W:=Tk (n:=500+1) cQ cP r u;have b9:(Ay (F3 x p b num) r u).beside (some (x.bz,(Kv x p,(DU (DF x p b num)).1,(DU (DF x p b num)).2))):=by have vc:=(sO I).2;have:=W.st.next;refine Xe (AHr (x:=(Kv x p,(DU (DF x p b num)).1,(DU (DF x p b num)).2)) (AJc bM) aU cG ?_ dl) r u;have dS:(DU (F3 x p b num)).2=(DU (DF x p b num)).2:=rfl;rw[dS] at vc;exact⟨cH.1,by show(DU (DF x p b num)).2<=501;omega⟩
      have mem:Xu x.bz (Kv x p,(DU (DF x p b num)).1,(DU (DF x p b num)).2)∈(Ay (F3 x p b num) r u).aq:=ALg (Kd _ (by simp[Xu])) r u
     ·exfalso;refine hd (sJ (by rw[W.wid,b4];exact aw) W.ok W.st b9 ?_ (λh=>?_) ?_ λc d=>?_)
      ·have aQ:=W.more;have aR:=W.aq;have ez:(F3 x p b num).more.length<=1:=dt;omega
      ·rw[Wa] at h;rw[h.2] at mem;cases mem
      ·rw[ao];simp
      ·rw[ao] at d;rcases List.mem_cons.1 d with rfl|d
       ·exact aA
       ·rcases List.mem_append.1 d with d|d
        ·rw[List.mem_singleton.1 d];exact AL1 ai aU bC
        ·rw[List.mem_singleton.1 d];exact dQ
     ·obtain⟨aQ,aR⟩:=b5 aH;obtain⟨bj,bk⟩:=sO I;have bj:(Ay (F3 x p b num) r u).st.status=(DU (DF x p b num)).1:=bj;have bk:(Ay (F3 x p b num) r u).st.next=(DU (DF x p b num)).2:=bk;have dT:=bh dH cL aH;refine ae.no rfl (Fs.mk (dy 0 (DU (DF x p b num)).1 (DU (DF x p b num)).2) (XG dT) (Tg aQ λaZ ap=>?_));rw[<- bj,<-bk];have cR:(Ay (F3 x p b num) r u).fits ((fl x.wid).getD []):=sD (AO0 dh);have bm:(Ay (F3 x p b num) r u).wid=x.wid:=W.wid.trans b4;have cS:(fl x.wid).getD []++(Ay (F3 x p b num) r u).more≠ []:=by
       intro h;rw[Wa] at h;have bn:x.kind=1:=by
        cases C:fl x.wid with
        |some l=>
         rw[C] at h;exact absurd h.1 (ai.dF _ _ C).ne
        |none=>
         rw[C] at q;rw[bb] at q;by_cases bn:x.kind=1
         ·exact bn
         ·have q:(none:Option (Int×Int×Int))=if x.kind=1 then none else some (180,0,0):=q;rw[if_neg bn] at q;cases q
       have aq:(F3 x p b num).err=0:=ANn (sN I);have aq:(DF x p b num).err=0:=aq;refine W.none (λaf=>?_) h.2;have af:(DF x p b num).more= []:=af;unfold DF at af aq;rw[if_pos bn] at af aq;split at af
       ·rename_i ca;rw[if_pos ca] at aq;rw[(I6 _ _ _ _).2,(pq (XA aq)).1] at af;simp at af
       ·rename_i ca;rw[if_neg ca] at aq;rw[(pq aq).1] at af;simp at af
      have a0:=ai.done ab.sorted (D:=Ay (F3 x p b num) r u) (o:=some (x.bz,(Kv x p,(DU (DF x p b num)).1,(DU (DF x p b num)).2))) (by rw[bm];exact aw) (by rw[bm];exact cR) (by rw[bm];exact cS) W.st b9 (λbt eA dU=>by
       cases dU;have:=W.st.next;exact⟨mem,aU,cG,⟨cH.1,by show(DU (DF x p b num)).2<=501;omega⟩,dl⟩)
      rw[bm] at a0;have a0:Jl _ _ (dC an x.bz (Kv x p,(DU (DF x p b num)).1,(DU (DF x p b num)).2)):=a0;rw[<- bj,<-bk] at a0;exact c2 aZ Y num r u _ rfl bb (dp U) I (b6 aG ap) a0 (Yn cR cS W.st).2 (sK ab.sorted b9) (b7 aR ap)
    have dV:CW B g aC s a (N+1) sh l i y mp L bc z cD b:=aM.put (by omega) (by omega) (by omega);have bo: ∀ {J z' gU} (e:Ev) (D:ba),D=EK b e->CW B g J s a N sh l i y mp L bc z' gU D->Mod (br g L) aC J->(∀ num,DF x p b num=D)->cF () J:=λ{J z' gU} e D eB aP aS d=>bU (z':=z') (gU:=gU) 0 (by rw[d];exact aP.put (by omega) (by omega) (by omega)) (Hs.cK.refl y) aS
    have cT:(⟨#[]⟩:A2P).size<1099511627776:=by decide
    have bp:b.more.length<1000:=by rw[bL];decide
    refine ae.intro (λj=>?_) (λj=>?_)
    ·have j:x.kind=1:=by simpa using j
     refine AY.mk (s:=x.steps) (AB aO rfl) (AC.mk (n:=x.aw) (Bf (by exact aO) rfl) ?_);rw[a1];refine tf (V.ext (bO.trans X)) len λJ bq=>?_
     have aP:=aM.on bq;unfold XV;rw[bx j];have eC:=Qn (bx j);refine⟨_,_,rfl,PP (e:=dz 1 (AX (CP p))) aP aW (by omega) (by show(AX (CP p)).size<_;rw[AP];omega) bp λaD bf aE ar aI=>⟨rfl,?_⟩⟩;have cb:Mod (br g L) aC aD:=bq.mod.trans aI;have cU:=bQ aO cE cb;refine AC.mk (n:=x.aw) (Bf (by exact cU) rfl) ?_;rw[a1];refine ae.intro (λk=>?_) (λk=>?_)
     ·have k:0<p.aw:=by simpa using k
      have eD:=(we (bx j)).2.1;refine AC.mk (n:=x.aw) (Bf (by exact cU) rfl) ?_;rw[a1,wrap_i64 (by omega) (by omega)];have dW:(EK b (dz 1 (AX (CP p)))).ao=Aq x.wid sh:=(QA _ _).2.1.trans cx;refine pN (t:=⟨6,⟨#[]⟩,0,0⟩) ar (by rw[dW];omega) (ce _) (by have:=cf (EK b (dz 1 (AX (CP p)))).ao;omega) (by omega) (by omega) (by rw[sE,bM];decide) (by omega) λdw dX bX w num dY T dZ=>⟨rfl,?_⟩
      refine bU (z':=dX) (gU:=bX) num ?_ T (cb.trans dZ);have ao:DF x p b num=Dc (EK b (dz 1 (AX (CP p)))) ⟨6,0,0⟩ (if(0:Int)>now+p.aw then 0 else now+p.aw) num:=by unfold DF sL;rw[if_pos j,if_pos k,cy]
      rw[ao];exact dY
     ·have k: ¬0<p.aw:=by simpa using k
      exact bo (dz 1 (AX (CP p))) _ rfl ar cb λnum=>by unfold DF;rw[if_pos j,if_neg k]
    have j:x.kind≠1:=by simpa using j
    refine ae.intro (λZ=>?_) (λZ=>?_)
    ·have Z:x.kind=2:=by simpa using Z
     refine AJ.mk (n:=x.name) (AB aO rfl) (PP (e:=dz 12 x.name) aM aW (by omega) (by have:=Fq (c7 Z);show x.name.size<_;omega) bp λaD bf aE ar aI=>⟨rfl,?_⟩);exact bo (dz 12 x.name) _ rfl ar aI λnum=>by unfold DF;rw[if_neg j,if_pos Z]
    have Z:x.kind≠2:=by simpa using Z
    refine ae.intro (λau=>?_) (λau=>?_)
    ·have au:x.kind=3:=by simpa using au
     have d0:=X.af aX λh=>h
     refine Aa.mk (n:=b.st.cancel) (Bf (by exact d0) rfl) (ae.intro (λd=>?_) (λd=>?_))
     ·have d: ¬b.st.cancel=true:=by simpa using d
      refine PP (e:=dz 13 ⟨#[]⟩) aM aW (by omega) cT bp λaD bf aE ar aI=>⟨rfl,?_⟩
      exact bo (dz 13 ⟨#[]⟩) _ rfl ar aI λnum=>by unfold DF;rw[if_neg j,if_neg Z,if_pos au,if_neg d]
     ·have d:b.st.cancel=true:=by simpa using d
      refine bU (z':=z) (gU:=cD) 0 ?_ (Hs.cK.refl y) Mod.refl;have ao:DF x p b 0=b:=by unfold DF;rw[if_neg j,if_neg Z,if_pos au,if_pos d]
      rw[ao];exact dV
    have au:x.kind≠3:=by simpa using au
    refine ae.yes (by simp;omega) (PP (e:=dz 18 ⟨#[]⟩) aM aW (by omega) cT bp λaD bf aE ar aI=>⟨rfl,?_⟩);exact bo (dz 18 ⟨#[]⟩) _ rfl ar aI λnum=>by unfold DF;rw[if_neg j,if_neg Z,if_neg au]
   refine AC.mk (n:=x.kind) (AL a7 rfl) ?_;cases C:fl x.wid with
   |none=>
    rw[C] at q ay;refine ae.intro (λj=>?_) (λj=>?_)
    ·have j:x.kind=1:=by simpa using j
     have q:MF fl an (y.f (Aq x.wid sh)) x p=if x.kind=1 then none else some (180,0,0):=q;rw[if_pos j] at q;refine ae.no rfl (ae.yes rfl (cz (es:=gZ) (a':=gZ) (b':=gZ) (c':=gZ) q (ac.trans az) a7 (az.af a3 λh=>h) ⟨_,ay,by rw[C];rfl⟩ ?_ (λc d=>by simp[Sl.af] at d) (λa8 cc=>by rw[cc,C];rfl)));rw[C];exact⟨View.nil,View.nil,View.nil⟩
    ·have j:x.kind≠1:=by simpa using j
     have q:MF fl an (y.f (Aq x.wid sh)) x p=if x.kind=1 then none else some (180,0,0):=q;rw[if_neg j] at q;exact ah.mk λd1 cd=>ae.no rfl (cd _ _ (ae.no rfl (ae.no rfl (bK 180 (by decide) q))))
   |some bs=>
    rw[C] at q ay;have q:MF fl an (y.f (Aq x.wid sh)) x p=if x.kind=1 then some (181,0,0) else if(Be bs).status≠0 then some (182,0,0) else none:=q;refine ae.intro (λj=>?_) (λj=>?_)
    ·have j:x.kind=1:=by simpa using j
     rw[if_pos j] at q;exact ae.yes rfl (bK 181 (by decide) q)
    have j:x.kind≠1:=by simpa using j
    rw[if_neg j] at q;refine ah.mk λd1 cd=>ae.yes rfl (AC.mk (n:=(Be bs).status) (CK (by exact ay) rfl) (cd _ _ (ae.intro (λF=>?_) (λF=>?_))))
    ·have F:(Be bs).status≠0:=by simpa using F
     rw[if_pos F] at q;exact bK 182 (by decide) q
    have F:(Be bs).status=0:=by simpa using F
    rw[if_neg (by simp[F])] at q;have d2:=ab.on (ac.trans az);refine ae.yes rfl (AJ.mk (n:=x.wid) (AB a7 rfl) (mW d2 ag ai aw C λaC es a' b' c' X eE a9 fr eF=>MI.mk _ ⟨_,rfl,aN.mk (X.af ay λh=>h) (A0 18) λJ cV aS eG=>?_⟩));rw[Sw] at cV;have eH:=cr.size;have eI:=Af ay;have bq:Ext h J:=((ac.trans az).trans X).more aS λc d=>by subst d;have:=ac.size;omega
    refine cz q bq (aS.af (X.af a7 λh=>h) (by have:=ac.size;omega)) (aS.af (X.af (az.af a3 λh=>h) λh=>h) (by omega)) ⟨_,cV,by rw[C];rfl⟩ ?_ (λc d=>by have:=fr c d;omega) (λa8 cc=>by rw[cc,C];rfl);rw[C];exact a9.fresh aS fr λc d=>by subst d;omega
 refine AC.mk (n:=x.kind) (AL al rfl) (ae.intro (λF=>cl true ?_) (λF=>AC.mk (n:=x.kind) (AL al rfl) (cl _ ?_)))
 ·have F:x.kind<1:=by simpa using F
  simp[F]
 ·have F: ¬x.kind<1:=by simpa using F
  simp[F]
end
section
variable {x x' : bZ} {p p' : ct}
end
section
variable {A : al} {h : aa} {R : A2O}
end
def Om:cE:=⟨32000,0,1600,by decide,by decide,by decide⟩
structure EW (g h:aa) (s k sh:Nat) (l:List Hs) (mp:List Pr) (fl:cO) (an:dv) (O:Nat->Prop):Prop where
 w:LW Om g h s k (3*k) sh l mp O
 m:Jl mp fl an
 all: ∀y∈l,∀n,y.u n<=3*k/\y.f n<=k
def gi(mp:List Pr)(y:Hs)(a:Nat):Prop:=y.f a≠0/\BQ mp (FC a (y.f a) y.name)=true
def ZN(fl:cO)(an:dv)(f:Nat)(x:bZ)(p:ct)(j:Int)(b st nx:Int)(m:cO)(n:dv):Prop:=
 (m=fl/\n=an/\(MF fl an 1 x p=some (b,st,nx)\/(MF fl an 1 x p=none/\b≠0/\st=0/\nx=0/\ ∃c d e,b=(Ay (F3 x p (Cc (fl x.wid) x.wid f j) c) d e).err)))\/
 (MF fl an 1 x p=none/\b=0/\ ∃c d e a,a=Ay (F3 x p (Cc (fl x.wid) x.wid f j) c) d e/\a.err=0/\m=dC fl x.wid ((fl x.wid).getD []++a.more)/\n=dC an x.bz (Kv x p,a.st.status,a.st.next)/\st=a.st.status/\nx=a.st.next/\Be ((fl x.wid).getD []++a.more)=a.st)
def pv(mp a:List Pr)(fl:cO)(b:Nat)(x:bZ)(p:ct)(c:Int):Prop:=a=mp\/ ∃d e f,a=cM mp (Dq (Ay (F3 x p (Cc (fl x.wid) x.wid b c) d) e f)++(Ay (F3 x p (Cc (fl x.wid) x.wid b c) d) e f).aq)
theorem ALo {fl:cO}{an:dv}{k:Nat}{x:bZ}{p:ct}(h:k≠0):MF fl an k x p=MF fl an 1 x p:=by unfold MF;rw[if_neg h,if_neg (show ¬(1:Nat)=0 by decide)]
theorem sP {l:List Hs}{i:Nat}{b:Hs}{Q:Hs->Prop}(h: ∀y∈l,Q y)(c:Q b): ∀y∈l.set i b,Q y:=λy d=>by
 rcases Wb d with a|a
 ·exact h y a
 ·rw[a];exact c
section
variable {A : al} {g h : aa} {s k sh : Nat} {l : List Hs} {mp : List Pr} {O : Nat -> Prop} {i : Nat} {y : Hs} {fl : cO} {an : dv} {R : A2O}
theorem EW.own {a:aa}{O':Nat->Prop}(b:EW g h s k sh l mp fl an O)(d:Mod O h a)(e: ∀c,O' c->O c\/(h.size<=c/\c<a.size)):EW g a s k sh l mp fl an O':=⟨b.w.own d e,b.m,b.all⟩
theorem EW.on {b:aa}(a:EW g h s k sh l mp fl an O)(x:Ext h b):EW g b s k sh l mp fl an O:=⟨a.w.on x,a.m,a.all⟩
theorem EW.desc {wid:A2P}(a:EW g h s k sh l mp fl an O)(c:l[i]? =some y)
  (d: ∀b,Ext h b->R (XB fl wid).v b):AA A P Dg #[Ap y.p,J7 wid] h R:=APw a.w c a.m d
theorem EW.fG {x:bZ}{p:ct}{S:J0}{n:Int}(T:cj g)(e:EW g h s k sh l mp fl an O)(o:l[i]? =some y)(ad:k+1<=490)(G:gi mp y (Aq x.wid sh))(V:View Oh h x.steps p.steps)(U:x.aw=p.aw)(len:p.steps.length<=1099511627776)(W: -4611686018427300000<=n/\n<=4611686018427300000)
  (B: ∀c b C H I q st nx,EW g c s (k+1) sh (l.set i b) C H I O->b.p=y.p->b.f=y.f->b.name=y.name->(∀ a J K,BQ C (FC a J K)=BQ mp (FC a J K))->Mod (br g O) h c->ZN fl an (Aq x.wid sh) x p n q st nx H I->pv mp C fl (Aq x.wid sh) x p n->R (dy q st nx).v c):
  AA A P EQ #[Ap y.p,S,J6 J9 n,x.v] h R:=by
 have D:=AK o;have ae:Om.C=32000:=rfl;have hA:Om.A=1600:=rfl;have X:=(List.getElem?_eq_some_iff.1 o).1;have dc:l.set i y=l:=by rw[<- (List.getElem?_eq_some_iff.1 o).2];exact PB X
 have E:=ALo (fl:=fl) (an:=an) (x:=x) (p:=p) G.1;have j: ∀ {b:Hs},y.dp b-> ∀z∈l.set i b,∀a,z.u a<=3*(k+1)/\z.f a<=k+1:=λ{b} j=>sP (Q:=λz=> ∀a,z.u a<=3*(k+1)/\z.f a<=k+1) (λz Y a=>by have:=e.all z Y a;omega) λa=>by
  have:=e.all y D a;have:=j.u a;rw[j.f];omega
 refine AL7 T e.w o e.m V U len W (λa=>by have:=(e.all y D a).2;omega) (λa=>by have:=(e.all y D a).1;omega) (by omega) (by omega) (by omega) (by omega)
  (λc q st nx f L=>?_) (λc b r t u f d F v w=>?_) (λc b f d M v w=>?_) λc b r t u Z N f d F v aa ab ac w=>?_
 ·rw[E] at f;refine B c y mp fl an q st nx ⟨?_,e.m,j ⟨rfl,rfl,rfl,λm=>by omega⟩⟩ rfl rfl rfl (λ_ _ _=>rfl) L.mod (.inl ⟨rfl,rfl,.inl f⟩) (.inl rfl);rw[dc];exact(e.w.on L).put (by omega) (by omega) (by omega) (by omega)
 ·rw[E] at f;exact B c b mp fl an _ 0 0 ⟨v.put (by omega) (by omega) (by omega) (by omega),e.m,j d⟩ d.p d.f d.name (λ_ _ _=>rfl) w (.inl ⟨rfl,rfl,.inr ⟨f,F,rfl,rfl,r,t,u,rfl⟩⟩) (.inl rfl)
 ·rw[G.2] at M;cases M
 ·rw[E] at f;exact B c b _ _ _ 0 _ _ ⟨v.put (by omega) (by omega) (by omega) (by omega),aa,j d⟩ d.p d.f d.name ac w (.inr ⟨f,rfl,r,t,u,Z,N,F,rfl,rfl,rfl,rfl,ab⟩) (.inr ⟨r,t,u,by rw[N]⟩)
theorem EW.fh {x:bZ}{p:ct}{w:J0}{j:Int}(z:cj g)(B:EW g h s k sh l mp fl an O)(C:l[i]? =some y)(D:k+1<=490)(E:gi mp y (Aq x.wid sh))(V:View Oh h x.steps p.steps)(F:x.aw=p.aw)(len:p.steps.length<=1099511627776)(G: -4611686018427300000<=j/\j<=4611686018427300000)
  (H: ∀e d n o q r st nx,EW g e s (k+1) sh (l.set i d) n o q O->d.p=y.p->d.f=y.f->d.name=y.name->(∀ t u v,BQ n (FC t u v)=BQ mp (FC t u v))->Mod (br g O) h e->ZN fl an (Aq x.wid sh) x p j r st nx o q->R (dy r st nx).v e):
  AA A P EQ #[Ap y.p,w,J6 J9 j,x.v] h R:=
 B.fG z C D E V F len G λe d n o q r st nx a b c I f m O _=>H e d n o q r st nx a b c I f m O
end
abbrev pw:A2P:=⟨#[104,111,115,116,48]⟩
structure jC (mp:List Pr) (y:Hs) (sh:Nat):Prop where
 has: ∀n,n<sh->y.f n=1/\F7 mp n 1 y.name
 ig: ∀n,sh<=n->y.f n=0/\(n<256->F7 mp n 0 ⟨#[]⟩)
theorem jC.owns {mp:List Pr}{y:Hs}{sh a:Nat}(b:jC mp y sh)(c:a<sh):gi mp y a:=by obtain⟨d,e⟩:=b.has a c;refine⟨by omega,?_⟩;rw[d];exact e.holds (A0 _)
section
variable {A : al} {g h : aa} {s k sh : Nat} {y : Hs} {mp : List Pr} {O : Nat -> Prop} {R : A2O}
theorem LW.slt {b:cE}{a N:Nat}{l:List Hs}(c:LW b g h s a N sh l mp O):s<h.size:=by obtain⟨e,k,st,m,f,nn,d,_⟩:=c;exact d.lt
theorem ARw {a:Nat}(t:cj g)(c:EW g h s a sh [y] mp (λ_=>none) (λ_=>none) O)(u:a<sh)(G:sh<=16)(e:jC mp y a)(v:Au y.name=true)
  (w: ∀b f,EW g b s (a+1) sh [y.mB a 1] f (λ_=>none) (λ_=>none) O->jC f (y.mB a 1) (a+1)->Mod (br g O) h b->f=cM mp [⟨CF a,Ji 1 y.name,false⟩]->R (J1 #[J6 J9 1,J6 J9 0]) b):
  AA A P Ex #[Ap y.p,J6 J9 (a:Int)] h R:=by
 have H:Om.C=32000:=rfl;have hA:Om.A=1600:=rfl;have d:=c.w.sorted;refine c.w.acquire (i:=0) (x:=y) (r:=0) (nm:=⟨#[]⟩) t rfl u ((e.ig a (A0 _)).2 (by omega)) (by decide) (by omega) (by omega) (by omega) (by omega) λb B C=>?_
 refine w b _ ⟨B.put (A0 _) (by omega) (by omega) (by omega),c.m.aW d (λp D=>?_),λz E m=>?_⟩ ⟨λm F=>?_,λm F=>?_⟩ C rfl
 ·rw[List.mem_singleton.1 D];show BU (CF a)≠104/\BU (CF a)≠119/\BU (CF a)≠114;rw[WL];decide
 ·rw[List.mem_singleton.1 E];have:=c.all y (by simp) m;show dB y.u a 0 m<=_/\dB y.f a 1 m<=_;unfold dB;constructor<;>split<;>omega
 ·show dB y.f a 1 m=1/\_;unfold dB;by_cases j:m=a
  ·subst j;rw[if_pos rfl];exact⟨rfl,F7.laid d (by decide) (by decide) v⟩
  ·rw[if_neg j];obtain⟨n,o⟩:=e.has m (by omega);exact⟨n,o.other d λq=>j (yH (by omega) (by omega) q).symm⟩
 ·show dB y.f a 1 m=0/\_;unfold dB;rw[if_neg (by omega)];obtain⟨n,o⟩:=e.ig m (by omega);exact⟨n,λh=>(o h).other d λq=>by have:=yH (by omega) h q;omega⟩
theorem Xz(o:cj g)(x:Ext g h)(F: ∀f s y mp,EW g f s 4 4 [y] mp (λ_=>none) (λ_=>none) (λ_=>False)->jC mp y 4->Ext g f->h.size<=f.size->(∀ e,BU e≠108->Ae e mp=none)->R (J1 #[Ap s,Ap y.p,J3 true]) f):AA A P Ew #[] h R:=by
 refine SI ?_;unfold Lu;refine zQ λb ab Sb G q H=>⟨_,rfl,?_⟩
 have ac:=x.size;have ad:=q.size;refine LW.start (B:=Om) (sh:=4) o G (x.trans q) (λc I=>by have:=H c I;omega) rfl rfl (λa=>rfl) (λa=>rfl) (λx J=>absurd rfl J) (by decide) (by decide) λaf s r ag ah=>⟨_,_,rfl,?_⟩
 refine r.host (name:=pw) (by decide) (by decide) λL t M N u Q=>⟨_,_,rfl,?_⟩
 have ai:=Af (u.dG (i:=0) rfl).1;refine Loop.rule (λv x j=> ∃(a:Nat) (y:Hs) (mp:List Pr),x=((a:Int),())/\v=4-a/\a<=4/\EW g j s a 4 [y] mp (λ_=>none) (λ_=>none) (λ_=>False)/\jC mp y a/\y.p=t/\y.name=pw/\L.size<=j.size/\ ∀e,BU e≠108->Ae e mp=none) ?_
  ⟨0,⟨t,M,N,pw,λ_=>0,λ_=>0⟩,[],rfl,rfl,by omega,⟨u,Jl.empty,λz w m=>by rw[List.mem_singleton.1 w];exact⟨A0 _,A0 _⟩⟩,⟨λa S=>by omega,λa _=>⟨rfl,λ_=>F7.empty⟩⟩,rfl,rfl,A0 _,λ_ _=>rfl⟩
 rintro K v _ j ⟨a,y,mp,rfl,rfl,S,n,C,rfl,D,w,d⟩ T;have E:=d;clear d;dsimp only;refine ae.intro (λd=>?_) (λd=>?_)
 ·have d:a<4:=by have:=of_decide_eq_true d;omega
  refine ARw o n d (by decide) C (by rw[D];decide) λaj U V W X Y=>⟨_,_,rfl,ae.no rfl ?_⟩
  rw[Ab (by omega)];exact T (4-(a+1)) _ _ (by omega) ⟨a+1,_,U,rfl,rfl,d,V,W,rfl,D,by have:=X.size;omega,λe d=>by rw[Y,Jv n.w.sorted λp Z aa=>d (by rw[<- aa,List.mem_singleton.1 Z];exact WL a)];exact E e d⟩
 ·have d:a=4:=by have:=of_decide_eq_false d;omega
  subst d;have ak:=r.slt;have al:=Q.size;exact ae.yes rfl (F j s y mp n C n.w.ext (by omega) E)
theorem AH0(e:cj g)(x:Ext g h)(f: ∀d s y mp,EW g d s 4 4 [y] mp (λ_=>none) (λ_=>none) (λ_=>False)->jC mp y 4->Ext g d->h.size<=d.size->R (J1 #[Ap s,Ap y.p,J3 true]) d):AA A P Ew #[] h R:=
 Xz e x λd s y mp a b c j _=>f d s y mp a b c j
end
theorem AM0 {id tick k:Int}(a:1<=id/\id<=500)(b:0<=tick/\tick<=1099511627776)(c:k=2\/k=13\/k=18):EX ⟨id,k,tick,0,0,0,false,⟨#[]⟩⟩=true:=by have d:bU id 1 500=true:=BR.2 a;have e:bU tick 0 1099511627776=true:=BR.2 b;have f:bU k 1 18=true:=BR.2 (by omega);unfold EX Ed KR;rw[d,e,f];rcases c with rfl|rfl|rfl<;>rfl
theorem ZR {id tick:Int}{data:A2P}(a:1<=id/\id<=500)(b:0<=tick/\tick<=1099511627776)(c:Au data=true):EX ⟨id,12,tick,0,0,0,false,data⟩=true:=by
 have d:bU id 1 500=true:=BR.2 a;have e:bU tick 0 1099511627776=true:=BR.2 b;unfold EX Ed KR;dsimp only;rw[d,e,c];have:dQ 12=true:=by decide
 rw[this,HK];rfl
theorem AMw {id tick:Int}{p:ct}(a:1<=id/\id<=500)(b:0<=tick/\tick<=1099511627776)(c:Fx p=true):EX ⟨id,1,tick,0,0,0,false,AX (CP p)⟩=true:=by
 have d:bU id 1 500=true:=BR.2 a;have e:bU tick 0 1099511627776=true:=BR.2 b;unfold EX Ed KR;dsimp only;rw[d,e,EP,uT c];have:dQ 1=true:=by decide
 rw[this,HK];rfl
theorem px {a:Int}{wid:A2P}{b:Int}(c:1<=a/\a<=7)(d:Au wid=true)(e:0<=b/\b<=500):KI ⟨a,b,0⟩ wid=true:=by unfold KI;rw[BR.2 c,d,BR.2 e];rfl
theorem ZO {a:ba}{t:gk}{tick:Int}{c:Nat}(b:a.err=0)(d:KI t a.wid=true):(Dc a t tick c).err=0:=by unfold Dc;rw[if_neg (by simp[b]),if_neg (by simp[d])];exact b
theorem AHH {a:ba}(b:FP a=true):a.more≠ []/\a.st.status=0/\a.st.fresh=true/\a.st.asked=0/\a.st.taken=0:=by unfold FP at b;simpa [and_assoc] using b
theorem AOq {a:ba}(d:a.err=0)(e:FP a=true)(m:2<=a.st.next/\a.st.next<=500)(f:0<=a.now/\a.now<=1099511627776):
  EK a Wz= {a with st:= {a.st with asked:=a.st.next,next:=a.st.next+1},more:=a.more++ [⟨a.st.next,2,a.now,0,0,0,false,⟨#[]⟩⟩]}:=by
 obtain⟨g,h,i,j,l⟩:=AHH e;have b:Cg a Wz=⟨a.st.next,2,a.now,0,0,0,false,⟨#[]⟩⟩:=by unfold Cg;rw[if_neg (by omega)];rfl
 have ok:=AM0 (id:=a.st.next) (tick:=a.now) (k:=2) (by omega) f (.inl rfl);have c:Bh a.st (Cg a Wz)=(0,{a.st with asked:=a.st.next,next:=a.st.next+1}):=by rw[b];unfold Bh;rw[if_neg (by simp[ok]),if_neg (by omega),if_neg (by simp[h]),if_neg (by simp)];unfold OT Dj;rw[if_pos (show(2:Int)<=2/\(2:Int)<=5 by decide),if_pos rfl,if_pos ⟨j,l,i⟩];rfl
 rw[qM d (.inl g) (by rw[c]),c,b]
theorem AMd {a:ba}{n1:Nat}(c:a.err=0)(e:2<=a.st.next/\a.st.next<=500)(f:0<=a.now/\a.now<=1099511627776)(g:Au a.wid=true):(EY a n1).err=0/\(EY a n1).wid=a.wid/\(EY a n1).now=a.now/\(EY a n1).st=(if FP a=true then {a.st with asked:=a.st.next,next:=a.st.next+1} else a.st)/\(EY a n1).more=(if FP a=true then a.more++ [⟨a.st.next,2,a.now,0,0,0,false,⟨#[]⟩⟩] else a.more):=by
 unfold EY;split
 ·rename_i h;have b:=AOq c h e f;have i:iX (EK a Wz)=a.st.next:=by rw[b];show a.st.next+1-1=_;omega
  have d:KI ⟨1,iX (EK a Wz),0⟩ (EK a Wz).wid=true:=by rw[i,b];exact px (by decide) g (by omega)
  refine⟨ZO (by rw[b];exact c) d,?_,?_,?_,?_⟩
  ·unfold Dc;rw[if_neg (by rw[b];simp[c]),if_neg (by simp[d]),b]
  ·unfold Dc;rw[if_neg (by rw[b];simp[c]),if_neg (by simp[d]),b]
  ·rw[(I6 _ _ _ _).1,b]
  ·rw[(I6 _ _ _ _).2,b]
 ·exact⟨c,rfl,rfl,rfl,rfl⟩
theorem V8 {a:ba}{n1 n2:Nat}(f:a.err=0)(g:2<=a.st.next/\a.st.next<=500)(h:0<=a.now/\a.now<=1099511627776)(b:Au a.wid=true):(Ay a n1 n2).err=0/\(Ay a n1 n2).st=(if FP a=true then {a.st with asked:=a.st.next,next:=a.st.next+1} else a.st)/\(Ay a n1 n2).more=(if FP a=true then a.more++ [⟨a.st.next,2,a.now,0,0,0,false,⟨#[]⟩⟩] else a.more):=by
 obtain⟨c,i,j,d,e⟩:=AMd (n1:=n1) f g h b;unfold Ay;split
 ·refine⟨ZO c (by rw[i];exact px (by decide) b (by decide)),?_,?_⟩
  ·rw[(I6 _ _ _ _).1,d]
  ·rw[(I6 _ _ _ _).2,e]
 ·exact⟨c,d,e⟩
theorem AM7 {x:bZ}{p:ct}{n n0:Nat}{a:Int}(k:x.kind=1)(d:Fx p=true)(l:Au x.wid=true)(r:0<=a/\a<=1099511611776):
  (DF x p (Cc none x.wid n a) n0).err=0/\(DF x p (Cc none x.wid n a) n0).st=⟨p,0,2,a,0,0,true,[],[],false,false⟩/\(DF x p (Cc none x.wid n a) n0).more= [⟨1,1,a,0,0,0,false,AX (CP p)⟩]/\(DF x p (Cc none x.wid n a) n0).wid=x.wid/\(DF x p (Cc none x.wid n a) n0).now=a:=by
 have ok:=AMw (id:=1) (tick:=a) (p:=p) (by decide) (by omega) d;have f:(Cc none x.wid n a).err=0:=by show(if a<0\/1099511611776<a then(1:Int) else 0)=0;rw[if_neg (by omega)]
 have g:Cg (Cc none x.wid n a) (dz 1 (AX (CP p)))=⟨1,1,a,0,0,0,false,AX (CP p)⟩:=rfl;have h:Bh (Cc none x.wid n a).st (Cg (Cc none x.wid n a) (dz 1 (AX (CP p))))=(0,⟨p,0,2,a,0,0,true,[],[],false,false⟩):=by rw[g];unfold Bh;rw[if_neg (by simp[ok]),if_pos (show(Cc none x.wid n a).st.next=0 from rfl),if_pos ⟨rfl,rfl⟩];unfold WU;dsimp only;rw[EP,uT d];rfl
 have i:=qM f (e:=dz 1 (AX (CP p))) (.inr (.inl (by show(0:Int)<=497;decide))) (by rw[h]);rw[h,g] at i;have base:(EK (Cc none x.wid n a) (dz 1 (AX (CP p)))).err=0/\(EK (Cc none x.wid n a) (dz 1 (AX (CP p)))).st=⟨p,0,2,a,0,0,true,[],[],false,false⟩/\(EK (Cc none x.wid n a) (dz 1 (AX (CP p)))).more= [⟨1,1,a,0,0,0,false,AX (CP p)⟩]/\(EK (Cc none x.wid n a) (dz 1 (AX (CP p)))).wid=x.wid/\(EK (Cc none x.wid n a) (dz 1 (AX (CP p)))).now=a:=by rw[i];exact⟨f,rfl,rfl,rfl,rfl⟩
 unfold DF;rw[if_pos k];split
 ·obtain⟨b,m,o,j,q⟩:=base;have c:KI ⟨6,0,0⟩ (EK (Cc none x.wid n a) (dz 1 (AX (CP p)))).wid=true:=by rw[j];exact px (by decide) l (by decide)
  refine⟨ZO b c,by rw[(I6 _ _ _ _).1,m],by rw[(I6 _ _ _ _).2,o],?_,?_⟩
  ·unfold Dc;rw[if_neg (by simp[b]),if_neg (by simp[c])];exact j
  ·unfold Dc;rw[if_neg (by simp[b]),if_neg (by simp[c])];exact q
 ·exact base
theorem sQ {x:bZ}{p:ct}{n n0 n1 n2:Nat}{a:Int}(h:x.kind=1)(i:Fx p=true)(c:Au x.wid=true)(j:0<=a/\a<=1099511611776):
  (Ay (F3 x p (Cc none x.wid n a) n0) n1 n2).err=0/\(Ay (F3 x p (Cc none x.wid n a) n0) n1 n2).st=⟨p,0,3,a,2,0,true,[],[],false,false⟩/\(Ay (F3 x p (Cc none x.wid n a) n0) n1 n2).more= [⟨1,1,a,0,0,0,false,AX (CP p)⟩,⟨2,2,a,0,0,0,false,⟨#[]⟩⟩]:=by
 obtain⟨k,l,m,o,q⟩:=AM7 (n:=n) (n0:=n0) h i c j;have r:(F3 x p (Cc none x.wid n a) n0).err=0:=k;have b:(F3 x p (Cc none x.wid n a) n0).st=⟨p,0,2,a,0,0,true,[],[],false,false⟩:=l;have d:(F3 x p (Cc none x.wid n a) n0).more= [⟨1,1,a,0,0,0,false,AX (CP p)⟩]:=m;have s:(F3 x p (Cc none x.wid n a) n0).wid=x.wid:=o;have e:(F3 x p (Cc none x.wid n a) n0).now=a:=q;obtain⟨t,f,g⟩:=V8 (n1:=n1) (n2:=n2) r (by rw[b];exact⟨(by decide:(2:Int)<=2),(by decide:(2:Int)<=500)⟩) (by rw[e];omega) (by rw[s];exact c);have u:FP (F3 x p (Cc none x.wid n a) n0)=true:=by unfold FP;rw[b,d];rfl
 rw[u,if_pos rfl] at f g;refine⟨t,?_,?_⟩
 ·rw[f,b];show(⟨p,0,2+1,a,2,0,true,[],[],false,false⟩:aZ)=_;rfl
 ·rw[g,b,d,e];rfl
structure ASy (h:aa) (x:bZ) (p:ct):Prop where
 V:View Oh h x.steps p.steps
 lim:x.aw=p.aw
 len:p.steps.length<=1099511627776
 sz: ∀y∈p.steps,y.name.size<=1099511627776/\y.aL.size<=1099511627776
 name:x.name.size<=1099511627776
 wid:x.wid.size<=1099511627776
 bz:x.bz.size<=1099511627776
theorem py {h:aa}{b:Nat}{T:Q7}{fr:Nat×Nat}{x:bZ}(a:h[b]? =some (J2 x.c T fr)):Cells h ⟨b,0,none⟩ x.l:=Dz a rfl
theorem ARl(x a:bZ):ZM a.c 0 x.l=x.c:=rfl
theorem ASR {h:aa}{x:bZ}{K:Nat->aa->Prop}(i: ∀a,a[h.size]? =some (J2 x.c GR (0,0))->Ext h a->K h.size a):ak h (J2 bZ.z.c GR) λb e=>aN e ⟨b,0,none⟩ x.l λd=>K b d:=
 ak.mk λe _ j k n=>aN.mk j (A0 12) λd f l o=>i d (by rw[ARl] at f;exact f) (k.more l λc m=>by subst m;exact A0 _)
theorem mY {h:aa}{x:bS}{K:Nat->aa->Prop}(i: ∀a,a[h.size]? =some (J2 x.c Cw (0,0))->Ext h a->K h.size a):ak h (J2 bS.z.c Cw) λb e=>aN e ⟨b,0,none⟩ x.l λd=>K b d:=
 ak.mk λe _ j k n=>aN.mk j (A0 9) λd f l o=>i d (by rw[lA] at f;exact f) (k.more l λc m=>by subst m;exact A0 _)
theorem EW.new {g h a:aa}{s b d:Nat}{l:List Hs}{e:List Pr}{f:cO}{i:dv}{j:Nat->Prop}(k:EW g h s b d l e f i j)(x:Ext h a)(n:h.size<a.size):EW g a s b d l e f i (λc=>j c\/c=h.size):=
 k.own (x.ai λ_ _ h=>h.elim) λc m=>m.imp id λh=>by omega
theorem EW.less {g h:aa}{s b d:Nat}{l:List Hs}{e:List Pr}{f:cO}{i:dv}{j k:Nat->Prop}(a:EW g h s b d l e f i j)(m: ∀c,k c->j c):EW g h s b d l e f i k:=⟨a.w.less m,a.m,a.all⟩
theorem br.aW {g h a:aa}{b:Nat->Prop}{c:Nat}{d:Obj}(m:Mod (br g b) h a)(e:h[c]? =some d)(f:b c):a[c]? =some d:=m.af e λi=>i.2 f
abbrev PK:bO:=⟨1,⟨#[97]⟩,⟨#[]⟩,1,0,0⟩
abbrev eY(sl:Sl)(a:A2P):bZ:=⟨1,a,⟨#[119]⟩,⟨#[]⟩,sl,0,gZ,0,0,0,0,false⟩
theorem AKI {fl:cO}{b:dv}{x:bZ}{p:ct}{a:List UInt8×Int×Int}(e:1<=x.kind/\x.kind<=4)(c:Oi x p=0)(d:b x.bz=some a):MF fl b 1 x p=if a.1≠Kv x p then some (184,0,0) else some (0,a.2.1,a.2.2):=by unfold MF;rw[if_neg (by omega),if_neg (by simp[c]),if_neg (by decide),d]
theorem sR {fl:cO}{an:dv}{x:bZ}{p:ct}(c:1<=x.kind/\x.kind<=4)(a:Oi x p=0)(b:an x.bz=none):MF fl an 1 x p=(match fl x.wid with
   |none=>if x.kind=1 then none else some (180,0,0)
   |some l=>if x.kind=1 then some (181,0,0) else if(Be l).status≠0 then some (182,0,0) else none):=by
 unfold MF;rw[if_neg (by omega),if_neg (by simp[a]),if_neg (by decide),b]
 try rfl
theorem ZN.early {b e:cO}{c f:dv}{m:Nat}{x:bZ}{p:ct}{n i st nx j k l:Int}(o:ZN b c m x p n i st nx e f)(d:MF b c 1 x p=some (j,k,l)):e=b/\f=c/\i=j/\st=k/\nx=l:=by
 rcases o with⟨q,r,a|⟨a,_⟩⟩|⟨a,_⟩
 ·rw[d] at a;cases a;exact⟨q,r,rfl,rfl,rfl⟩
 ·rw[d] at a;cases a
 ·rw[d] at a;cases a
theorem ZN.start {c k:cO}{d l:dv}{n:Nat}{x:bZ}{p:ct}{a m st nx:Int}(D:ZN c d n x p a m st nx k l)(b:x.kind=1)(o:Oi x p=0)(E:d x.bz=none)(f:c x.wid=none)(q:0<=a/\a<=1099511611776):
  m=0/\st=0/\nx=3/\k=dC c x.wid [⟨1,1,a,0,0,0,false,AX (CP p)⟩,⟨2,2,a,0,0,0,false,⟨#[]⟩⟩]/\l=dC d x.bz (Kv x p,0,3)/\Be [⟨1,1,a,0,0,0,false,AX (CP p)⟩,⟨2,2,a,0,0,0,false,⟨#[]⟩⟩]=⟨p,0,3,a,2,0,true,[],[],false,false⟩:=by
 obtain⟨r,H,s,I⟩:=lB o;have F:MF c d 1 x p=none:=by rw[sR (by omega) o E,f];show(if x.kind=1 then none else some (180,0,0))=none;rw[if_pos b]
 rcases D with⟨_,_,t|⟨_,i,_,_,n0,n1,n2,u⟩⟩|⟨_,i,n0,n1,n2,J,v,K,j,w,y,z,e⟩
 ·rw[F] at t;cases t
 ·exfalso;rw[f] at u;exact i (u.trans (sQ b (r b) s q).1)
 ·rw[f] at v j e;obtain⟨G,B,C⟩:=sQ (n:=n) (n0:=n0) (n1:=n1) (n2:=n2) b (r b) s q;rw[<- v] at G B C;rw[Option.getD_none,DA,C] at j e;rw[B] at w y z e;exact⟨i,y,z,j,w,e⟩
section
variable {A : al} {g h : aa} {R : A2O}
theorem AJL(E:cj g)(x:Ext g h)(ah: ∀v,Ext g v->h.size<=v.size->R (J3 true) v):AA A P Ja #[] h R:=by
 refine TJ ?_;unfold Mr;refine AH0 E x λa s y ai aj K a0 a1=>⟨_,_,_,rfl,?_⟩
 refine ak.mk λq _ al am a2=>?_
 have ao:=aj.new am (by omega);refine ASR (x:=eY ⟨some ⟨a.size,0,none⟩,1,1⟩ ⟨#[114]⟩) λap r L=>?_
 have M:=ao.new L (Af r);generalize w:(λc=>((λc=>False\/c=a.size) c\/c=q.size))=z at M;have N:z a.size:=by rw[<- w];exact .inl (.inr rfl)
 have B:z q.size:=by rw[<- w];exact .inr rfl
 clear w;have O:ap[a.size]? =some (J2 PK.c Bg (0,0)):=L.af al λh=>h
 have view: ∀ {Q:aa},Q[a.size]? =some (J2 PK.c Bg (0,0))->View Oh Q ⟨some ⟨a.size,0,none⟩,1,1⟩ [PK]:=λaq=>(Own.lit (E:=Oh) (l:= [PK]) aq rfl (by decide)).view
 have C: ∀b:A2P,Au b=true->Oi (eY ⟨some ⟨a.size,0,none⟩,1,1⟩ b) ⟨[PK],0⟩=0:=λb ar=>by
  unfold Oi;rw[if_neg (λh=>by have q:=h.2;exact absurd q (by decide)),if_neg];rintro(h|h|h)
  ·exact absurd h.1 (show ¬(1:Int)=2 by decide)
  ·exact absurd h (show ¬Au ⟨#[119]⟩=false by decide)
  ·rw[show(eY ⟨some ⟨a.size,0,none⟩,1,1⟩ b).bz=b from rfl,ar] at h;cases h
 refine VH.mk _ (py r) ?_;have S:=LV (⟨#[119]⟩:A2P) (n:=4) (by decide);refine M.fh (i:=0) (x:=eY ⟨some ⟨a.size,0,none⟩,1,1⟩ ⟨#[114]⟩) (p:=⟨[PK],0⟩) E rfl (by decide) (K.owns S) (view O) rfl (by decide) (by decide) λau av a3 a4 a5 a6 a7 a8 aw ax T U V D ay=>IJ.mk _ ⟨rfl,?_⟩
 obtain⟨rfl,rfl,rfl,rfl,rfl,-⟩:=ay.start rfl (C _ (by decide)) rfl rfl (by decide);refine mY (x:=dy 0 0 3) λa9 F G=>?_
 have az:=aw.new G (Af F);have W: ∀ {X:List Pr} {H:Hs},H.f=y.f->H.name=y.name->(∀ n d e,BQ X (FC n d e)=BQ ai (FC n d e))->gi X H (Aq (⟨#[119]⟩:A2P) 4):=λaA aC aD=>by
  have:=K.owns S;unfold gi at this ⊢;rw[aA,aC,aD];exact this
 have Y:=G.af (br.aW D O N) λh=>h
 have Z:=G.af (br.aW D r B) λh=>h
 rw[<- ax];refine VH.mk _ (py Z) ?_;refine az.fh (i:=0) (y:=av) (x:=eY ⟨some ⟨a.size,0,none⟩,1,1⟩ ⟨#[114]⟩) (p:=⟨[PK],0⟩) E rfl (by decide) (W T U V) (view Y) rfl (by decide) (by decide) λaE aF ba bb bc bd be bf aG aH aI aJ aK t aL=>IJ.mk _ ⟨rfl,?_⟩
 have ac:=AKI (fl:=dC (λ_=>none) (eY ⟨some ⟨a.size,0,none⟩,1,1⟩ ⟨#[114]⟩).wid [⟨1,1,0,0,0,0,false,AX (CP ⟨[PK],0⟩)⟩,⟨2,2,0,0,0,0,false,⟨#[]⟩⟩]) (show(1:Int)<=1/\(1:Int)<=4 by decide) (C ⟨#[114]⟩ (by decide)) (IB (f:=λ_=>none) (k:=⟨#[114]⟩) (x:=(Kv (eY ⟨some ⟨a.size,0,none⟩,1,1⟩ ⟨#[114]⟩) ⟨[PK],0⟩,(0:Int),(3:Int))));rw[if_neg (by simp)] at ac;obtain⟨rfl,rfl,rfl,rfl,rfl⟩:=aL.early ac;refine mY (x:=dy 0 0 3) λbg ad j=>?_
 have aM:=aG.new j (Af ad);have aN:=j.af (br.aW t Y (.inl N)) λh=>h
 have aO:=j.af (br.aW t Z (.inl B)) λh=>h
 have aP:=j.af (br.aW t F (.inr rfl)) λh=>h
 refine ab.bM (dS:=(eY ⟨some ⟨a.size,0,none⟩,1,1⟩ ⟨#[115]⟩).c) aO (of_decide_eq_true rfl) rfl λbh aQ m bi=>?_
 have aR:=aM.own (O':=λc=>(z c\/c=au.size)\/c=aE.size) (m.ai λc _ I=>by subst I;exact .inl (.inl B)) λc I=> .inl I
 have bj:=Af r;have bk:=D.size;have bm:=t.size;have bn:=Af F;have aS:=m.af aN (by omega);have aT:=m.af aP (by omega);have aU:=m.af ad (by omega);rw[<- aH];refine VH.mk _ (py aQ) ?_;refine aR.fh (i:=0) (y:=aF) (x:=eY ⟨some ⟨a.size,0,none⟩,1,1⟩ ⟨#[115]⟩) (p:=⟨[PK],0⟩) E rfl (by decide) (W (aI.trans T) (aJ.trans U) λn d e=>(aK n d e).trans (V n d e)) (view aS) rfl (by decide) (by decide) λbo bp bq bs bt bu bv bw aV bx bz bA bB J aW=>IJ.mk _ ⟨rfl,?_⟩
 have o:=sR (fl:=dC (λ_=>none) (eY ⟨some ⟨a.size,0,none⟩,1,1⟩ ⟨#[114]⟩).wid [⟨1,1,0,0,0,0,false,AX (CP ⟨[PK],0⟩)⟩,⟨2,2,0,0,0,0,false,⟨#[]⟩⟩]) (an:=dC (λ_=>none) ⟨#[114]⟩ (Kv (eY ⟨some ⟨a.size,0,none⟩,1,1⟩ ⟨#[114]⟩) ⟨[PK],0⟩,(0:Int),(3:Int))) (x:=eY ⟨some ⟨a.size,0,none⟩,1,1⟩ ⟨#[115]⟩) (show(1:Int)<=1/\(1:Int)<=4 by decide) (C ⟨#[115]⟩ (by decide)) (SQ (show(⟨#[115]⟩:A2P)≠⟨#[114]⟩ by decide));rw[IB] at o;have o:_=if(1:Int)=1 then some ((181:Int),(0:Int),(0:Int)) else _:=o;rw[if_pos rfl] at o;obtain⟨rfl,rfl,rfl,rfl,rfl⟩:=aW.early o;refine mY (x:=dy 181 0 0) λaX aY u=>?_
 have af:=u.af (br.aW J aT (.inl (.inr rfl))) λh=>h
 have ag:=u.af (br.aW J aU (.inr rfl)) λh=>h
 refine ae.yes rfl (AC.mk (n:=0) (AL af rfl) (ae.yes rfl (AC.mk (n:=3) (AB af rfl) (ae.yes rfl (AC.mk (n:=0) (AL ag rfl) (ae.yes rfl (AC.mk (n:=3) (AB ag rfl) (ae.yes rfl (AC.mk (n:=181) (AL aY rfl) ?_)))))))));have aZ:=aV.on u;have bC:=j.size;have bD:=m.size;have bE:=J.size;have bF:=u.size;exact ah aX aZ.w.ext (by omega)
end
section
variable {A : al} {g h : aa} {s k N sh i : Nat} {l : List Hs} {mp : List Pr} {O : Nat -> Prop} {y : Hs} {fl : cO} {an : dv} {R : A2O} {cb : Nat} {z : Nat -> Nat} {x : dE} {C : ba}
structure pz (mp:List Pr) (fl:cO) (C:ba):Prop where
 wid:Au C.wid=true
 fits:C.fits ((fl C.wid).getD [])
 more:C.more≠ []
 st:De C.st 500
 ok: ∀e∈C.more,EX e=true/\e.data.size<1099511627776
 len:C.more.length+C.aq.length<=50/\C.conds.length<=50
 keys: ∀p∈C.conds,p.key.size<=1099511627776
 base:mX C (fl C.wid)
 cn:0<=C.cn/\C.cn<=4
 bT:0<=C.bT/\C.bT<=501
 now:0<=C.now/\C.now<=1099511627776
 next:2<=C.st.next/\C.st.next<=500
 err:C.err=0
 bes:C.beside none
theorem EW.gu {k':Nat}(ac:cj g)(S:CW Om g h s k N sh l i y mp O cb z x C)(E:Jl mp fl an)(ad: ∀j∈l,∀n,j.u n<=3*k/\j.f n<=k)(F: ∀n,y.u n+2<=3*k'/\y.f n<=k)(ay:k+1<=k')(az:N+2<=3*k')(aA:k'<=490)(G:gi mp y C.ao)(ae:C.ao<256)(L:pz mp fl C)
  (af:(∀ c∈C.conds,BQ mp c=true)-> ∀f d a b D,D=Ay C a b->EW g f s k' sh (l.set i d) (cM mp (Dq D++D.aq)) (dC fl C.wid ((fl C.wid).getD []++D.more)) an O->d.p=y.p->d.f=y.f->d.name=y.name->
   (∀ n H T,BQ (cM mp (Dq D++D.aq)) (FC n H T)=BQ mp (FC n H T))->Be ((fl C.wid).getD []++D.more)=D.st->Mod (br g O) h f->R (J6 J9 0) f)
  (ag: ¬(∀ c∈C.conds,BQ mp c=true)-> ∀f d,EW g f s k' sh (l.set i d) mp fl an O->d.p=y.p->d.f=y.f->d.name=y.name->Mod (br g O) h f->R (J6 J9 100) f):
  AA A P CS #[Ap cb] h R:=by
 have aC:Om.C=32000:=rfl;have hA:Om.A=1600:=rfl;have U:=S.w.sorted;obtain⟨q,ah,ai,V,W,aD,aj,ak,aE,al,am,ao,ap,aq⟩:=L;have ar: ∀a b,(Ay C a b).err=0:=λa b=>(V8 ap ao am q).1
 have r: ∀ {d:Hs},y.dh d-> ∀j∈l.set i d,∀n,j.u n<=3*k'/\j.f n<=k':=λ{d} r=>sP (Q:=λj=> ∀n,j.u n<=3*k'/\j.f n<=k') (λj I n=>by have:=ad j I n;omega) λn=>by
  have:=F n;have:=r.u n;rw[r.f];omega
 refine tt ac S V (by omega) q W ae (by have:=F C.ao;omega) (by have:=F C.ao;omega) (by omega) (by omega) (by omega) (by omega) (by omega) (by omega) (by omega) aj (by omega) al (by omega)
  (λau=>absurd au G.1) (λa b d f n u=>absurd (ar a b) u) (λa b d f n u v=>by rw[G.2] at v;cases v) (λa b d f n _ v hd J K=>?_) λa b d f n _ v hd J K=>?_
 all_goals
  have e:=Tk (n:=500) W V a b;have w:=Xe aq a b;have aF:=e.more;have aG:=e.aq;have X:=e.none ai;have Y:Dq (Ay C a b)++(Ay C a b).aq≠ []:=λh=>by
   unfold Dq at h;rw[if_neg X] at h;simp at h
  have av:BQ mp (bB C)=true:=sG E q ak
 ·have B: ¬(∀ c∈C.conds,BQ mp c=true):=λt=>hd (sJ (by rw[e.wid];exact q) e.ok e.st w (by omega) Y (by simp;omega) λc m=>by
   rcases List.mem_cons.1 m with rfl|m
   ·exact G.2
   ·rcases List.mem_append.1 m with m|m
    ·exact t c m
    ·rw[List.mem_singleton.1 m];exact av)
  have u:EU (Dq (Ay C a b)++(Ay C a b).aq)=0:=sC Y (by have:=sI (Ay C a b);rw[A1];omega) λp aw=>by
   rcases List.mem_append.1 aw with h|h
   ·exact sH (by rw[e.wid];exact q) e.ok e.st p h
   ·exact w.ok p h
  have ax:dx mp (FC C.ao (y.f C.ao) y.name::(C.conds++ [bB C])) (Dq (Ay C a b)++(Ay C a b).aq)=100:=by unfold dx;rw[if_neg (by simp;omega),if_neg (by rw[u];decide),if_neg λM=>B λc t=>List.all_eq_true.1 M c (by simp[t])]
  rw[ax];exact ag B f d ⟨J.put (by omega) (by omega) (by omega) (by omega),E,r n⟩ n.p n.f n.name K
 ·have B: ∀c∈C.conds,BQ mp c=true:=λc t=>by
   unfold dx at hd;split at hd
   ·cases hd
   ·split at hd
    ·rename_i h;exact absurd hd h
    ·split at hd
     ·rename_i M;exact List.all_eq_true.1 M c (by simp[t])
     ·cases hd
  have Z:(Ay C a b).fits ((fl C.wid).getD []):=sD ah;have aa:(fl C.wid).getD []++(Ay C a b).more≠ []:=λh=>X (List.append_eq_nil_iff.1 h).2
  have ab:=E.done U (D:=Ay C a b) (o:=none) (by rw[e.wid];exact q) (by rw[e.wid];exact Z) (by rw[e.wid];exact aa) e.st w (λH j I=>by cases I);rw[e.wid] at ab;exact af B f d a b _ rfl ⟨J.put (by omega) (by omega) (by omega) (by omega),ab,r n⟩ n.p n.f n.name (sK U w) (Yn Z aa e.st).2 K
end
theorem ak.kR {h:aa}{c:Obj}{d:aa->Prop}{e:Nat->aa->Prop}(k: ∀f,Ext h f->d f)(m:ak h c e):ak h c λb j=>And (d j) (e b j):=⟨k _ (Mod.push h c),m⟩
section
variable {A : al} {B : cE} {g h : aa} {s a N sh cb : Nat} {l : List Hs} {mp : List Pr} {O : Nat -> Prop} {i : Nat} {y : Hs} {z : Nat -> Nat} {x : dE} {C : ba} {R : A2O}
theorem AOY {key val:A2P}{r:Bool}(k:CW B g h s a N sh l i y mp O cb z x C)(t:C.conds.length<1000)(u:C.aq.length<1000)
  (v: ∀d w x',CW B g d s a N sh l i y mp O cb w x' (qL C key val)->Mod (br g O) h d->R (J1 #[]) d):AA A P Jd #[Ap cb,.agg #[J7 key,J7 val,J3 r]] h R:=by
 refine Tv ?_;unfold NA;dsimp only[At];refine ak.mk λQ _ e m S=>?_
 have b:=k.on m;refine AY.mk (s:=x.conds) (CK b.bo.af rfl) (AJ.mk (n:=key) (AL e rfl) (AJ.mk (n:=val) (AB e rfl) ?_));refine ak.kR (λd f=>CK (b.on f).bo.af rfl) (b.bo.fH (p:=⟨key,val,false⟩) b.fI t λT o U D j E=>?_);have c:=b.step (x':= {x with conds:=o}) j E rfl D;have F:=j.af e λG=>by have:=k.fI _ G;omega
 refine AY.mk (s:=x.aq) (CK c.bo.af rfl) (AJ.mk (n:=key) (AL F rfl) ?_);refine ak.kR (λd f=>CK (c.on f).bo.af rfl) (c.bo.eo (p:=⟨key,⟨#[]⟩,true⟩) c.fI u λH I J K q L=>?_);have M:=c.step (x':= {x with conds:=o,aq:=I}) q L rfl K;exact v H J _ M (m.mod.trans ((b.frame j).trans (c.frame q)))
def Vr(C:ba)(b turn:Int)(aC:Bool)(c:Jb)(d:Nat):ba:=
 if aC then EK C ⟨0,7,0,b,0,turn,false,⟨#[]⟩⟩
 else if turn<Gf C.st.prog c then Dc (EK C ⟨0,8,0,b,0,turn,false,⟨#[]⟩⟩) ⟨2,b,turn+1⟩ (-1) d
 else EK C ⟨0,9,0,b,0,turn,false,⟨#[]⟩⟩
theorem APD {b turn:Int}{aC:Bool}{n:Nat}(o:CW B g h s a N sh l i y mp O cb z x C)(G:De C.st n)(Q:n<=600)(S:C.more.length<1000)(aG:C.ao<256)(aH:y.f C.ao<=2147483647)(aI:y.u C.ao+1<16777216)(T:N+1<=1000000)(U:64*a<=B.C)(a8:C.aq.length<999)
  (aJ: ∀q,Rn C.st b turn=some q-> -1000000<=turn/\turn<=1000000)
  (aK:Rn C.st b turn=none-> ∀d,CW B g d s a N sh l i y mp O cb z x C->Mod (br g O) h d->R (J3 false) d)
  (aL: ∀q f,Rn C.st b turn=some q->C.st.ar[q]? =some f-> ∀d H aM D V,CW B g d s a (N+1) sh l i D mp O cb H aM (Vr C b turn aC f V)->y.cK D->Mod (br g O) h d->R (J3 true) d):
  AA A P JE #[Ap cb,J6 J9 b,J6 J9 turn,J3 aC] h R:=by
 have a9:=G.ar;refine AA7 ?_;unfold Sm;dsimp only[At];refine ak.mk λW _ j al bb=>ak.mk λbc _ k am bd=>?_
 have an:=al.trans am;have ao:=o.on an;have j:=am.af j λh=>h
 refine AY.mk (s:=x.b) (Bf ao.bo.af rfl) (sT ao.bo.st.ar (by omega) (p:=λf=>decide (f.id=b)&&decide (f.turn=turn)) (λt be bf ap aN=>?_) λI X=>⟨_,rfl,?_⟩)
 ·refine Du.func (first:= #[]) (bQ:= #[Ap h.size,Ap W.size]) (by kernel_rfl) (XI ?_);unfold Px;dsimp only[At];refine ak.mk λaO _ aq Y bg=>?_
  have h:=aN aO Y;refine AC.mk (n:=t.id) (AL aq rfl) (AC.mk (n:=b) (AL ((ap.trans Y).af j λh=>h) rfl) (ae.intro (λe=>?_) (λe=>?_)))
  ·have e:t.id=b:=by simpa using e
   refine AC.mk (n:=t.turn) (AB aq rfl) (AC.mk (n:=turn) (AL ((ap.trans Y).af k λh=>h) rfl) ?_);have aP:(t.turn==turn)=(decide (t.id=b)&&decide (t.turn=turn)):=by rw[decide_eq_true e,Ek,DH];simp
   rw[aP];exact h
  ·have e:t.id≠b:=by simpa using e
   rw[decide_eq_false e,Ft] at h;exact h
 have J:=an.trans X;have v:=o.on J;have j:=X.af j λh=>h
 have k:=X.af k λh=>h
 have aQ:C.st.ar.findIdx? (λf=>decide (f.id=b)&&decide (f.turn=turn))=Rn C.st b turn:=rfl;rw[aQ];cases L:Rn C.st b turn with
 |none=>exact ae.yes rfl (aK L I v J.mod)
 |some q=>
  obtain⟨f,Z,bh,bi⟩:=sV L;have bj:=aJ q L;have bk:=(List.getElem?_eq_some_iff.1 Z).1;have ab:=aL q f L Z;have ac:(⟨#[]⟩:A2P).size<1099511627776:=by decide
  have aW: ∀ {c:Nat} {ad:Obj} {d:aa},I[c]? =some ad->h.size<=c->Mod (λar=>z ar≠0\/I.size<=ar) I d->d[c]? =some ad:=λ{c ad d} au r m=>m.af au λE=>E.elim (λh=>by have:=o.fI _ h;omega) λh=>by have:=Af au;omega
  refine ae.no (by show decide ((q:Int)<0)=false;simp) (ah.mk λK af=>ae.intro (λu=>?_) (λu=>?_))
  ·have u:aC=true:=u;subst u;refine AC.mk (n:=b) (AL j rfl) (AC.mk (n:=turn) (AL k rfl) (PP v G Q ac S λaR aS aT aU aV=>⟨rfl,af _ _ (ab aR aS aT y 0 ?_ (Hs.cK.refl y) (J.mod.trans aV))⟩));unfold Vr;rw[if_pos rfl];exact aU.put (by omega) T U
  ·have u:aC=false:=u;subst u;refine AC.mk (n:=turn) (AL k rfl) (Aw.mk (C.st.V x.a x.b x.c) v.bo.ld (AY.mk (s:=x.b) (Bf v.bo.af rfl) ?_));refine v.bo.st.ar.idx Z λbm _ aX=>iY.mk f aX (sU v.bo.st.steps λw M=>⟨_,rfl,⟨AL (M.af k λh=>h) rfl,?_⟩⟩)
   have j:=M.af j λh=>h
   have k:=M.af k λh=>h
   have av:=J.trans M;have aw:=o.wider (O':=λc=>O c\/(h.size<=c/\c<w.size)) av.mod λc r=>r
   have aY:h.size<=h.size/\h.size<w.size:=⟨A0 _,Af j⟩;have aZ:h.size<=W.size/\W.size<w.size:=⟨al.size,Af k⟩;have less: ∀ {d:aa} {ax:Nat} {D:Hs} {H:Nat->Nat} {ay:dE} {az:ba},CW B g d s a ax sh l i D mp (λc=>O c\/(h.size<=c/\c<w.size)) cb H ay az->CW B g d s a ax sh l i D mp O cb H ay az:=λo=>⟨o.w.less λc r=>r.imp .inl id,o.il,λc r ag=>o.no c r (.inl ag),o.hp,o.bo⟩
   have aA: ∀ {d:aa},Mod (br g λc=>O c\/(h.size<=c/\c<w.size)) w d->Mod (br g O) h d:=λm=>av.mod.trans (m.ai λc _ r=>br.less r λc ag=> .inl ag)
   refine ae.intro (λe=>?_) (λe=>?_)
   ·have e:turn<Gf C.st.prog f:=of_decide_eq_true e;refine AC.mk (n:=b) (AL j rfl) (AC.mk (n:=turn) (AL k rfl) (PP aw G Q ac S λaD aE aF ai F=>⟨rfl,?_⟩));refine AC.mk (n:=b) (AL (F.af j λE=>E.2 (.inr aY)) rfl) (AC.mk (n:=turn) (AL (F.af k λE=>E.2 (.inr aZ)) rfl) ?_);rw[wrap_i64 (by omega) (by omega)];obtain⟨-,aj,-,-,-,a0,-⟩:=QA C ⟨0,8,0,b,0,turn,false,⟨#[]⟩⟩;refine pM ai (by rw[aj];exact aG) (by rw[aj];exact aH) (by rw[aj];exact aI) T U (by rw[a0];omega) λa1 a2 a3 a4 V a5 a6 a7=>⟨rfl,af _ _ (ab a1 a2 a3 a4 V ?_ a6 (aA (F.trans a7)))⟩
    unfold Vr;rw[if_neg (by decide),if_pos e];exact less a5
   ·have e: ¬turn<Gf C.st.prog f:=of_decide_eq_false e;refine AC.mk (n:=b) (AL j rfl) (AC.mk (n:=turn) (AL k rfl) (PP aw G Q ac S λaD aE aF ai F=>⟨rfl,af _ _ (ab aD aE aF y 0 ?_ (Hs.cK.refl y) (aA F))⟩));unfold Vr;rw[if_neg (by decide),if_neg e];exact(less ai).put (by omega) T U
end
def Vm(a:ba):Prop:= ∀p∈a.aq,BU p.key=116\/BU p.key=109\/BU p.key=114
theorem WG {c:ba}{t:gk}{tick:Int}{d:Nat}(b:Vm c):Vm (Dc c t tick d):=by
 unfold Dc;split
 ·exact b
 ·split
  ·exact b
  ·intro p a;rcases List.mem_append.1 a with a|a
   ·exact b p a
   ·rw[List.mem_singleton.1 a];show BU (GQ _ _ _)=116\/BU (GQ _ _ _)=109\/_;unfold GQ;split
    ·exact .inl (WY _ _)
    ·exact .inr (.inl (WF _ _ _))
theorem Ng {a:ba}{b:Ev}(c:Vm a):Vm (EK a b):=by unfold Vm;rw[(QA a b).2.2.2.2.2.1];exact c
theorem AMh {x:bZ}{p:ct}{b:ba}{n0 n1 n2:Nat}(g:b.aq= []):Vm (Ay (F3 x p b n0) n1 n2):=by
 have c:Vm b:=λd a=>by rw[g] at a;cases a
 have h:Vm (DF x p b n0):=by
  unfold DF
  repeat' split
  ·exact WG (Ng c)
  ·exact Ng c
  ·exact Ng c
  ·exact c
  ·exact Ng c
  ·exact Ng c
 have e:Vm (F3 x p b n0):=λd a=>by
  rcases List.mem_append.1 a with a|a
  ·exact h d a
  ·rw[List.mem_singleton.1 a];exact .inr (.inr (Kg _))
 have f:Vm (EY (F3 x p b n0) n1):=by
  unfold EY;split
  ·exact WG (Ng e)
  ·exact e
 unfold Ay;split
 ·exact WG f
 ·exact f
theorem pv.ik {d g:List Pr}{b:cO}{e:Nat}{x:bZ}{p:ct}{f:Int}{key:A2P}(i:pv d g b e x p f)(s:Sorted d)(j:BU key=121):Gc g key=Gc d key:=by
 rcases i with rfl|⟨n0,n1,n2,rfl⟩
 ·rfl
 ·unfold Gc;have k:(Cc (b x.wid) x.wid e f).aq= []:=by cases b x.wid<;>rfl
  have hd:=AMh (x:=x) (p:=p) (n0:=n0) (n1:=n1) (n2:=n2) k;generalize Ay (F3 x p (Cc (b x.wid) x.wid e f) n0) n1 n2=n at hd ⊢;rw[Jv s λl m h=>?_];have c:=(congrArg BU h).trans j;rcases List.mem_append.1 m with a|a
  ·unfold Dq at a;rcases List.mem_append.1 a with a|a
   ·obtain⟨h,_,rfl⟩:=List.mem_map.1 a;exact absurd ((Uh _ _).symm.trans c) (by decide)
   ·split at a
    ·cases a
    ·rw[List.mem_singleton.1 a] at c;exact absurd ((FY _).symm.trans c) (by decide)
  ·have:=hd l a;rw[c] at this;exact absurd this (by decide)
abbrev FX:A2P:=⟨#[119]⟩
abbrev iU:bO:=⟨1,⟨#[97]⟩,⟨#[]⟩,2,0,0⟩
def cI(n:Nat):aZ:=⟨⟨[iU],0⟩,0,3+(n:Int),0,2,0,true,[],[],false,false⟩
theorem Ua {n:Nat}(h:n<=498):De (cI n) 0:=⟨A0 _,A0 _,(by decide:1<=16),(by decide:(0:Int)<=0/\(0:Int)<=16000),(by decide:(0:Int)<=0/\(0:Int)<=1099511627776),(by omega:0<=3+(n:Int)/\3+(n:Int)<=501),(by decide:(0:Int)<=0/\(0:Int)<=4),λx a=>by
 rw[List.mem_singleton.1 a];exact(by decide:(0:Int)<=0/\(0:Int)<=1000)⟩
abbrev kA:Ev:=⟨0,12,0,0,0,0,false,⟨#[120]⟩⟩
theorem AMu {C:ba}{n:Nat}(d:C.err=0)(a:C.st=cI n)(e:C.now=3)(f:C.more= [])(i:n<=400):
  EK C kA= {C with st:=cI (n+1),more:= [⟨3+(n:Int),12,3,0,0,0,false,⟨#[120]⟩⟩]}:=by
 have b:Cg C kA=⟨3+(n:Int),12,3,0,0,0,false,⟨#[120]⟩⟩:=by unfold Cg;rw[a,e,if_neg (by show ¬(1:Int)>3+(n:Int);omega)];rfl
 have ok:=ZR (id:=3+(n:Int)) (tick:=3) (data:=⟨#[120]⟩) (by omega) (by decide) (by decide);have c:Bh C.st (Cg C kA)=(0,cI (n+1)):=by rw[b,a];unfold Bh;rw[if_neg (by simp[ok]),if_neg (by show ¬3+(n:Int)=0;omega),if_neg (by simp[cI]),if_neg (by simp[cI])];unfold OT Jg;rw[if_neg (by simp),if_neg (by simp),if_neg (by simp),if_pos rfl];show((0:Int),({cI n with fresh:=true,next:=3+(n:Int)+1}:aZ))=_;simp only[cI,Kx,true_and,aZ.mk.injEq,and_true];omega
 rw[qM d (.inr (.inl (by rw[a];show 3+(n:Int)<=497;omega))) (by rw[c]),c,b,f];rfl
structure qo (C:ba) (n:Nat) (key val:A2P) (note:Bool):Prop where
 wid:C.wid=FX
 ao:C.ao=Aq FX 4
 mta':C.cn=0/\C.bT=3+(n:Int)/\C.kept=false
 st:C.st=cI (n+1)
 more:C.more= [⟨3+(n:Int),12,3,0,0,0,false,⟨#[120]⟩⟩]
 err:C.err=0
 now:C.now=3
 conds:C.conds= [⟨key,if note then⟨#[]⟩ else val,note⟩]
 aq: ∃t1 t2:Pr,C.aq= [⟨key,if note then val else⟨#[]⟩, !note⟩,t1,t2]/\t1.key≠key/\t2.key≠key
 bes:C.beside none
structure jL (key val:A2P):Prop where
 key: ∃k:A2P,key=⟨#[121]⟩++k/\k.size<=60
 val:val.size<=8000
theorem jL.head {key val:A2P}(K:jL key val):BU key=121/\key≠⟨#[]⟩/\key.size<=61:=by
 obtain⟨⟨k,rfl,b⟩,_⟩:=K;have a:((⟨#[121]⟩:A2P)++k).size=1+k.size:=Hn;refine⟨?_,λh=>?_,by omega⟩
 ·unfold BU bl;rw[I3,KB];rfl
 ·rw[h] at a;have:(0:Nat)=1+k.size:=a;omega
theorem AQX {n num dH:Nat}{key val:A2P}{note:Bool}{e a:ba}(K:jL key val)
  (q:e= {Gw FX (Aq FX 4) 0 (3+(n:Int)) false (cI n) 3 with st:=cI (n+1),more:= [⟨3+(n:Int),12,3,0,0,0,false,⟨#[120]⟩⟩]}) (t:a=if note then kK e key val else qL e key val):
  qo (Dc (Dc a ⟨1,2,0⟩ (-1) num) ⟨6,0,0⟩ 9 dH) n key val note:=by
 obtain⟨f,r,I⟩:=K.head;have J:=K.val;have L:e.beside none:=by rw[q];exact⟨λp b=>(by cases b),λp b=>(by cases b),λp b=>(by cases b)⟩
 have u:a.wid=FX/\a.ao=Aq FX 4/\(a.cn=0/\a.bT=3+(n:Int)/\a.kept=false)/\a.st=cI (n+1)/\a.more= [⟨3+(n:Int),12,3,0,0,0,false,⟨#[120]⟩⟩]/\a.err=0/\a.now=3/\a.conds= [⟨key,if note then⟨#[]⟩ else val,note⟩]/\a.aq= [⟨key,if note then val else⟨#[]⟩, !note⟩]:=by rw[t,q];cases note<;>exact⟨rfl,rfl,⟨rfl,rfl,rfl⟩,rfl,rfl,rfl,rfl,rfl,rfl⟩
 obtain⟨j,v,w,z,B,l,C,D,i⟩:=u;have E:a.beside none:=⟨λp b=>(by
   rw[i] at b;rw[List.mem_singleton.1 b];cases note
   ·exact AJr r (by omega)
   ·exact Nn r (by omega) (by show val.size<=8192;omega)),λp b=>(by
   rw[i] at b;rw[List.mem_singleton.1 b];exact .inl (by show BU key≠104/\BU key≠119/\BU key≠114;rw[f];decide)),λp b=>(by
   rw[i] at b;rw[List.mem_singleton.1 b];show BU key≠108;rw[f];decide)⟩
 have m:Dc a ⟨1,2,0⟩ (-1) num= {a with aq:=a.aq++ [⟨GQ a.ao (-1) num,ib ⟨1,2,0⟩ a.wid,false⟩]}:=by unfold Dc;rw[if_neg (by simp[l]),if_neg (by rw[j];decide)]
 have F: ∀c:ba,c.err=0->c.wid=FX->Dc c ⟨6,0,0⟩ 9 dH= {c with aq:=c.aq++ [⟨GQ c.ao 9 dH,ib ⟨6,0,0⟩ c.wid,false⟩]}:=λc G d=>by
  unfold Dc;rw[if_neg (by simp[G]),if_neg (by rw[d];decide)]
 have o:=MV (MV E ⟨1,2,0⟩ (-1) num) ⟨6,0,0⟩ 9 dH;have H:=F (Dc a ⟨1,2,0⟩ (-1) num) (by rw[m];exact l) (by rw[m];exact j);rw[H] at o ⊢;rw[m] at o ⊢;refine⟨j,v,w,z,B,l,C,D,⟨_,_,by show(a.aq++ [_])++ [_]=_;rw[i];rfl,λh=>?_,λh=>?_⟩,o⟩
 ·have:=congrArg BU h;rw[f] at this;have d:BU (GQ a.ao (-1) num)=116:=by unfold GQ;rw[if_pos (by decide)];exact WY _ _
  exact absurd (d.symm.trans this) (by decide)
 ·have:=congrArg BU h;rw[f] at this;have d:BU (GQ a.ao 9 dH)=109:=by unfold GQ;rw[if_neg (by decide)];exact WF _ _ _
  exact absurd (d.symm.trans this) (by decide)
section
variable {A : al} {g h : aa} {s k n : Nat} {y : Hs} {mp : List Pr} {O : Nat -> Prop} {fl : cO} {an : dv} {ev : List Ev} {key : A2P} {x : eL} {bk bx bh : Nat} {R : A2O}
theorem AMU {note:Bool}(bA:cj g)(q:EW g h s k 4 [y] mp fl an O)(bB:k<=400)(al:fl FX=some ev)(T:Be ev=cI n)(bC:n<=100)(K:jL key x.val)
  (aU:h[bk]? =some (J2 #[J7 key] Az (0,0))) (aV:h[bx]? =some (J2 x.c Co (0,0))) (am:h[bh]? =some (J2 #[Ap y.p] I4 (0,0))) (aX: ¬br g O bk) (aY: ¬br g O bx)
  (aZ: ∀o p z ao E C,CW Om g o s k (3*k+2) 4 [y] 0 E mp O p z ao C->y.dh E->qo C n key x.val note->C.fits ev->Mod (br g O) h o->R (J1 #[Ap p,J3 true]) o):
  AA A P Di #[J3 note,J3 (!note),Ap bh,Ap bk,Ap bx] h R:=by
 refine Li ?_;unfold HV;refine AZ.mk (AL am rfl) (mW (i:=0) q.w rfl q.m (by decide) al λr bD a b c U V W fr bE=>MI.mk _ ⟨_,rfl,ak.mk λbF _ a0 ap bG=>aN.mk a0 (A0 18) λX H aq bH=>?_⟩);rw[Sw,T] at H;rw[T] at W;have F:Ext h X:=(U.trans ap).more aq λc u=>by subst u;exact U.size
 have bI:=Af H;have a1: ∀c,O c->c<h.size:=λc u=>(q.w.out u).1
 have bJ:=LV FX (n:=4) (by decide);have Y: ∀f,gH (cI n) a b c f->h.size<=f/\f<r.size:=λf d=>⟨fr f (by rcases d with⟨_,h⟩|⟨_,h⟩|⟨_,h⟩<;>simp[h]),W.lt d⟩
 have a2:I1 X (cI n) a b c:=(W.ext ap).cZ aq λf d e=>by have:=Y f d;omega
 refine AZ.mk (AL (F.af am λh=>h) rfl) (G7.mk _ (SV H) ?_);refine pK (l:= [y]) (i:=0) (O:=λc=>O c\/c=r.size) (now:=3) (q.w.own F.mod λf d=>?_) (by simp) a2 (λf d v=>?_) λZ p z ao a3 ar=>⟨_,rfl,?_⟩
 ·rcases d with(h|h)|h
  ·exact .inl h
  ·have:=U.size;exact .inr (by omega)
  ·have:=Y f h;exact .inr (by omega)
 ·have:=Y f d;rcases v with h|h
  ·have:=a1 f h;omega
  ·omega
 refine PP (n:=0) (e:=kA) a3 (Ua (by omega)) (by omega) (by decide) (by show 0<1000;decide) λa4 a5 a6 w I=>⟨rfl,?_⟩
 have J:=JH (l0:=ev) (e:=kA) (C:=Gw FX (Aq FX 4) 0 (3+(n:Int)) false (cI n) 3) (by
  show ET Qs (ev++ [])=some (cI n);rw[AM];exact(q.m.dF _ _ al).ok.trans (congrArg some T))
 have au:=AMu (C:=Gw FX (Aq FX 4) 0 (3+(n:Int)) false (cI n) 3) (n:=n) rfl rfl rfl rfl (by omega);rw[au] at J;have w:CW Om g a4 s k (3*k) 4 [y] 0 y mp (λc=>O c\/c=r.size) p a5 a6 (EK (Gw FX (Aq FX 4) 0 (3+(n:Int)) false (cI n) 3) kA):=w;rw[au] at w;generalize L:({Gw FX (Aq FX 4) 0 (3+(n:Int)) false (cI n) 3 with st:=cI (n+1),more:= [⟨3+(n:Int),12,3,0,0,0,false,⟨#[120]⟩⟩]}:ba)=M at w J;have aW: ∀ {c:Nat} {ab:Obj} {o:aa},X[c]? =some ab-> ¬br g O c\/c=r.size->Mod (br g λc=>O c\/c=r.size) Z o->o[c]? =some ab:=λ{c ab o} a7 u m=>m.af (ar.af a7 λh=>h) λav=>u.elim (λh=>h (br.less av λc v=> .inl v)) λh=>av.2 (.inr h)
 have a8: ∀ {o:aa},Mod (br g λc=>O c\/c=r.size) Z o->Mod (br g O) h o:=λm=>(F.trans ar).mod.trans (m.ai λc _ u=>br.less u λc v=> .inl v)
 have less: ∀ {o:aa} {aw:Nat} {E:Hs} {ax:Nat->Nat} {ay:dE} {az:ba},CW Om g o s k aw 4 [y] 0 E mp (λc=>O c\/c=r.size) p ax ay az->CW Om g o s k aw 4 [y] 0 E mp O p ax ay az:=λq=>⟨q.w.less λc u=>u.imp .inl id,q.il,λc u v=>q.no c u (.inl v),q.hp,q.bo⟩
 have aA:=aW (F.af aU λh=>h) (.inl aX) I;have N:=aW (F.af aV λh=>h) (.inl aY) I;have aC:M.conds= []/\M.aq= []:=by rw[<- L];exact⟨rfl,rfl⟩
 refine ah.mk λbK aD=>?_
 have rest: ∀ {Q:aa} {aE:Nat->Nat} {aF:dE} (j:ba),j=(if note then kK M key x.val else qL M key x.val)->CW Om g Q s k (3*k) 4 [y] 0 y mp (λc=>O c\/c=r.size) p aE aF j->j.fits ev->Mod (br g λc=>O c\/c=r.size) Z Q->
   AA A P EC #[Ap p,(⟨1,(⟨#[]⟩:A2P),2,0⟩:cT).v] Q λa9 aG=>a9=J1 #[]/\(
   AA A P Eg #[Ap p,(⟨6,(⟨#[]⟩:A2P),0,0⟩:cT).v,J6 J9 9] aG λbb G=>bb=J1 #[]/\(
   ae ((0:Int)==(0:Int)) (
    AA A P Dy #[Ap p] G λN aH=> ∃aI:Int,N=J6 J9 aI/\(
    AC J9 aH (((⟨r.size,0,none⟩:Q6).add 6).add 3) λaJ=>
    And (ag G (((⟨r.size,0,none⟩:Q6).add 6).add 3)=some (J6 J9 aJ))<|
    R (J1 #[Ap p,J3 (aI==aJ)]) aH)) (
    R (J1 #[Ap p,J3 false]) G))):=λ{Q aE aF} j ac bc bd be=>by
  have bL:Om.C=32000:=rfl;have f:j.ao=Aq FX 4/\j.aq.length=1/\j.err=0/\j.wid=FX/\j.st=cI (n+1):=by rw[ac,<-L];cases note<;>exact⟨rfl,rfl,rfl,rfl,rfl⟩
  obtain⟨B,bM,bN,bO,bf⟩:=f;have bP:=q.all y (by simp) (Aq FX 4);refine pM bc (by rw[B];omega) (by rw[B];omega) (by rw[B];omega) (by omega) (by omega) (by omega) λaG bQ bR bS num bg D bi=>⟨rfl,?_⟩
  have bj: ∀e∈j.more,EX e=true/\e.data.size<1099511627776:=λe aK=>by
   have bm:j.more= [⟨3+(n:Int),12,3,0,0,0,false,⟨#[120]⟩⟩]:=by rw[ac,<-L];cases note<;>rfl
   rw[bm] at aK;rw[List.mem_singleton.1 aK];exact⟨ZR (by omega) (by decide) (by decide),(by decide:(⟨#[120]⟩:A2P).size<1099511627776)⟩
  have aL:=RB (Qx (n:=0) bj (by rw[bf];exact Ua (by omega))) ⟨1,2,0⟩ (-1) num;have ad:=aL.ao;have bT:=aL.aq;have u8:=D.u (Aq FX 4);refine pN bg (by rw[ad,B];omega) (by rw[ad,B,D.f];omega) (by rw[ad,B];omega) (by omega) (by omega) (by show(Dc j ⟨1,2,0⟩ (-1) num).aq.length<1000;omega) (by decide) λG bn bo bp dH aM S bq=>⟨rfl,ae.yes rfl ?_⟩
  have aO:=AQX (num:=num) (dH:=dH) K L.symm ac;have bs:=Nf (t:=⟨6,0,0⟩) (tick:=9) (num:=dH) (Nf (t:=⟨1,2,0⟩) (tick:= -1) (num:=num) bd);have aP:=be.trans (bi.trans bq);have aQ:=aW H (.inr rfl) aP;have aR:(Dc (Dc j ⟨1,2,0⟩ (-1) num) ⟨6,0,0⟩ 9 dH).st=cI (n+1):=aO.st;refine pL aM (by rw[show(if(0:Int)>9 then 0 else 9)=(9:Int) from rfl,aR];exact(by omega:0<=3+((n+1:Nat):Int)/\3+((n+1:Nat):Int)<=501)) ⟨_,rfl,AC.mk (n:=3+(n:Int)) (Bf (by exact aQ) rfl) ⟨Bf (by exact aQ) rfl,?_⟩⟩;have bt:(iX (Dc (Dc j ⟨1,2,0⟩ (-1) num) ⟨6,0,0⟩ 9 dH)==3+(n:Int))=true:=by unfold iX;rw[aR];show((3+((n+1:Nat):Int)-1)==3+(n:Int))=true;simp;omega
  have:=aZ G p bn bo bp _ (less aM) ⟨S.p.trans D.p,S.name.trans D.name,S.f.trans D.f,λm=>by have:=D.u m;have:=S.u m;omega⟩ aO bs (a8 aP);rw[<- bt] at this;exact this
 have aS:=aC.1;have aT:=aC.2;refine ae.intro (λd=>?_) (λd=>?_)
 ·have d:note=true:=d;subst d;refine AJ.mk (n:=key) (AL aA rfl) (AJ.mk (n:=x.val) (AB N rfl) (tj w (by rw[aS];decide) (by rw[aT];decide) λbu bv bw af ai=>⟨rfl,aD _ _ (ah.mk λbz aj=>ae.no rfl (aj _ _ (rest _ rfl af J (I.trans ai))))⟩))
 ·have d:note=false:=d;subst d;refine aD _ _ (ah.mk λbz aj=>ae.yes rfl (AJ.mk (n:=key) (AL aA rfl) (AJ.mk (n:=x.val) (AB N rfl) (AOY w (by rw[aS];decide) (by rw[aT];decide) λbu bv bw af ai=>⟨rfl,aj _ _ (rest _ rfl af J (I.trans ai))⟩))))
end
theorem gi.dI {mp b:List Pr}{y a:Hs}{n:Nat}(c:gi mp y n)(f:a.f=y.f)(i:a.name=y.name)(j: ∀n d e,BQ b (FC n d e)=BQ mp (FC n d e)):gi b a n:=by unfold gi at c ⊢;rw[f,i,j];exact c
def lO(val:A2P)(there:Bool):A2P×Bool:=if there then(val,true) else(⟨#[]⟩,false)
structure jM (g h:aa) (s k n:Nat) (y:Hs) (mp:List Pr) (fl:cO) (an:dv) (ev:List Ev) (O:Nat->Prop) (key val:A2P) (there:Bool):Prop where
 w:EW g h s k 4 [y] mp fl an O
 ow:gi mp y (Aq FX 4)
 fl:fl FX=some ev
 st:Be ev=cI n
 row:Gc mp key=lO val there
section
variable {A : al} {g h : aa} {s k n : Nat} {y : Hs} {mp : List Pr} {O : Nat -> Prop} {fl : cO} {an : dv} {ev : List Ev} {key val : A2P} {there note : Bool} {R : A2O}
theorem AGy {N:Hs}{Q:Nat}{z:Nat->Nat}{ac:dE}{a:ba}(ad:cj g)(S: ∀d,y.u d<=3*k/\y.f d<=k)(ae:Jl mp fl an)(v:gi mp y (Aq FX 4))(m:fl FX=some ev)(T:Be ev=cI n)(w:Gc mp key=lO val there)(aF:k<=400)(aG:n<=100)(K:jL key val)
  (U:CW Om g h s k (3*k+2) 4 [y] 0 N mp O Q z ac a) (f:y.dh N) (af:qo a n key val note) (ag:a.fits ev)
  (ah:note= !there-> ∀e i ai aj ak,jM g e s (k+2) (n+1) i ai aj an ak O key val note->i.p=y.p->Mod (br g O) h e->R (J6 J9 0) e)
  (al:note=there-> ∀e i,jM g e s (k+2) n i mp fl an ev O key val there->i.p=y.p->Mod (br g O) h e->R (J6 J9 100) e):AA A P CS #[Ap Q] h R:=by
 obtain⟨o,V,⟨W,X,am⟩,j,x,ao,ap,B,⟨aH,aI,C,aq,ar⟩,bes⟩:=af;obtain⟨au,aJ,aK⟩:=K.head;have sl:=LV FX (n:=4) (by decide);have av: ∀q∈a.more,EX q=true/\q.data.size<1099511627776:=λq Y=>by
  rw[x] at Y;rw[List.mem_singleton.1 Y];exact⟨ZR (by omega) (by decide) (by decide),(by decide:(⟨#[120]⟩:A2P).size<1099511627776)⟩
 have aw:pz mp fl a:= {
  wid:=by rw[o];decide
  fits:=by rw[o,m];exact ag
  more:=by rw[x];simp
  st:=by rw[j];exact(Ua (by omega)).up (by omega)
  ok:=av
  len:=by rw[x,B,C];exact⟨(by decide:1+3<=50),(by decide:1<=50)⟩
  keys:=λp Z=>by
   rw[B] at Z;rw[List.mem_singleton.1 Z];show key.size<=_;omega
  base:=by rw[o,m];show a.cn=(Be ev).status/\a.bT=(Be ev).next/\a.kept=false/\0<a.bT;rw[T,W,X];exact⟨rfl,rfl,am,(by omega:0<3+(n:Int))⟩
  cn:=by rw[W];decide
  bT:=by rw[X];omega
  now:=by rw[ap];decide
  next:=by rw[j];exact(by omega:2<=3+((n+1:Nat):Int)/\3+((n+1:Nat):Int)<=500)
  err:=ao
  bes:=bes}
 have ax:FP a=false:=by unfold FP;rw[j];simp[cI]
 have ay: ∀D E,Ay a D E=a:=λD E=>by
  unfold Ay EY;rw[ax];simp[j,cI]
 have cond:(∀ c∈a.conds,BQ mp c=true)↔note= !there:=by
  rw[B];constructor
  ·intro h;have:=h _ (List.mem_singleton.2 rfl);unfold BQ at this;dsimp only at this;rw[w] at this;cases note<;>cases there<;>simp[lO] at this ⊢
  ·intro h c l;rw[List.mem_singleton.1 l,h];unfold BQ;dsimp only;rw[w];cases there<;>simp[lO]
 have az:=U.w.sorted;refine EW.gu (k':=k+2) ad U ae (λaL aA d=>by rw[List.mem_singleton.1 aA];exact S d) (λd=>by have:=S d;have:=f.u d;rw[f.f];omega) (by omega) (by omega) (by omega) (by rw[V];exact v.dI f.f f.name λ_ _ _=>rfl) (by rw[V];omega) aw (λl e i D E r aa t F G H aC ab I=>?_) λl e i t F G H I=>?_
 ·rw[ay] at aa;subst aa;have J:=cond.1 l;rw[o,m] at t ab;refine ah J e i _ _ _ ⟨t,(v.dI f.f f.name λ_ _ _=>rfl).dI G H aC,IB,ab.trans j,?_⟩ (F.trans f.p) I;have aD: ∀d∈Dq r++r.aq,d.key=key->d=⟨key,if note then val else⟨#[]⟩, !note⟩:=λd aE L=>by
   rcases List.mem_append.1 aE with h|h
   ·exfalso;have u:=congrArg BU L;rw[au] at u;unfold Dq at h;rcases List.mem_append.1 h with h|h
    ·obtain⟨q,_,rfl⟩:=List.mem_map.1 h;exact absurd ((Uh _ _).symm.trans u) (by decide)
    ·split at h
     ·cases h
     ·rw[List.mem_singleton.1 h] at u;exact absurd ((FY _).symm.trans u) (by decide)
   ·rw[C] at h;simp only[Hc,List.not_mem_nil,or_false] at h;rcases h with rfl|rfl|rfl
    ·rfl
    ·exact absurd L aq
    ·exact absurd L ar
  have M:=lz (b:=Dq r++r.aq) az (p:=⟨key,if note then val else⟨#[]⟩, !note⟩) (by rw[C];simp) aD;have M:Ae key _=_:=M;unfold Gc;rw[M];cases note<;>rfl
 ·have J:note=there:=by
   have:=λh=>l (cond.2 h)
   cases note<;>cases there<;>simp at this ⊢
  exact al J e i ⟨t,(v.dI f.f f.name λ_ _ _=>rfl).dI G H λ_ _ _=>rfl,m,T,w⟩ (F.trans f.p) I
end
def TI(i:Nat):Int:=if i % 2=0 then 0 else 100
def KE(i:Nat):Bool:=decide (i=1\/i=2\/i=5)
def kB(i:Nat):Bool:=decide (i<2\/i=4)
theorem APc {i:Nat}(a:i<5):(#[J6 J9 0,J6 J9 100,J6 J9 0,J6 J9 100,J6 J9 0]:Array J0)[i]? =some (J6 J9 (TI i)):=by
 have:i=0\/i=1\/i=2\/i=3\/i=4:=by omega
 rcases this with rfl|rfl|rfl|rfl|rfl<;>rfl
theorem APl {i:Nat}(a:i<5):decide (((i:Int).tmod 4)<2)=kB i/\decide (((i:Int).tmod 4)>=2)= !kB i/\(kB i= !KE i->TI i=0/\KE (i+1)=kB i/\(i+1) / 2+1=(i+2) / 2)/\(kB i=KE i->TI i=100/\KE (i+1)=KE i/\(i+1) / 2=(i+2) / 2)/\KE (i+1)=(decide (i<2)||decide (i=4)):=by
 have:i=0\/i=1\/i=2\/i=3\/i=4:=by omega
 rcases this with rfl|rfl|rfl|rfl|rfl<;>decide
section
variable {A : al} {g h : aa} {s k n : Nat} {y : Hs} {mp : List Pr} {O : Nat -> Prop} {fl : cO} {an : dv} {ev : List Ev} {key : A2P} {x : eL} {bk bx bh b3 : Nat} {R : A2O}
theorem AI1 {i p:Nat}{Z:aa->Prop}(aG:cj g)(a6:jM g h s k n y mp fl an ev O key x.val (KE i))(ab:i<5)(a7:y.p=p)(b0:k<=100)(b1:n=(i+1) / 2)(K:jL key x.val)
  (aH:h[bk]? =some (J2 #[J7 key] Az (0,0))) (aI:h[bx]? =some (J2 x.c Co (0,0))) (ac:h[bh]? =some (J2 #[Ap p] I4 (0,0))) (a8:h[b3]? =some (J2 #[J6 J9 0,J6 J9 100,J6 J9 0,J6 J9 100,J6 J9 0] UD (0,0)))
  (aJ: ¬br g O bk) (aK: ¬br g O bx) (a9: ¬br g O bh) (b2: ¬br g O b3)
  (ba: ∀ad q H I J,jM g ad s (k+2) ((i+2) / 2) q H I an J O key x.val (KE (i+1))->q.p=p->Mod (br g O) h ad->Z ad):
  bH (some (⟨b3,0,none⟩:Q6)) 5 (i:Int) λa=>
   AC J9 h (a.add ((i:Int).toNat*1)) λbb=>
   AZ h (⟨bh,0,none⟩:Q6) λbc=>
   AA A P Dg #[J5 bc,J7 (⟨#[119]⟩:A2P)] h λv2 aL=>IJ λv=>v2=v.v/\(
   Du A P (.func (.func Di) #[] #[J5 (some (⟨bh,0,none⟩:Q6)),J5 (some (⟨bk,0,none⟩:Q6)),J5 (some (⟨bx,0,none⟩:Q6))]) #[J3 (decide (((i:Int).tmod (4:Int))<(2:Int))),J3 (decide (((i:Int).tmod (4:Int))>=(2:Int)))] aL λbd aM=> ∃af:Q2,∃aO:Bool,bd=J1 #[J5 af,J3 aO]/\(
   AA A P Dw #[J5 af] aM λbe l=>IJ λaP=>be=aP.v/\(
   ak l (J2 bS.z.c Cw) λL bf=>
   aN bf (⟨L,0,none⟩:Q6) aP.l λU=>
   AA A P CS #[J5 af] U λbg m=> ∃M:Int,bg=J6 J9 M/\(
   AJ m (⟨bk,0,none⟩:Q6) λag=>
   AA A P DT #[J5 (some (⟨s,0,none⟩:Q6)),J7 ag] m λai b=> ∃B:A2P,∃o:Bool,∃N:Int,ai=J1 #[J7 B,J3 o,J6 J9 N]/\(
   ah (λ(aj:Bool×Unit) C=>
     ae aj.1 (
      R (J3 false) C) (
      AZ C (⟨bh,0,none⟩:Q6) λal=>
      AA A P Dg #[J5 al,J7 (⟨#[119]⟩:A2P)] C λam e=>IJ λr=>am=r.v/\(
      ah (λ(ao:Bool×Unit) Q=>
        ae ao.1 (
         R (J3 false) Q) (
         Z Q)) λf=>
       ae (M==(0:Int)) (
        ae (r.next != (J8 J9 (v.next+(1:Int)))) (
         f (true,()) e) (
         ae (M != (0:Int)) (
          f ((r.next != v.next),()) e) (
          f (false,()) e))) (
        ae (M != (0:Int)) (
         f ((r.next != v.next),()) e) (
         f (false,()) e))))) λd=>
    ae (!aO) (
     d (true,()) b) (
     ae (M != bb) (
      d (true,()) b) (
      ae (N != (0:Int)) (
       d (true,()) b) (
       ae (decide ((i:Int)<(2:Int))) (
        ae (!(o==true)) (
         d (true,()) b) (
         ae o (
          AJ b ((⟨bx,0,none⟩:Q6).add 1) λap=>
          ae (!bL B ap) (
           d (true,()) b) (
           AC J9 b ((⟨L,0,none⟩:Q6).add 2) λaq=>
           d ((aq != (J8 J9 (v.next+(1:Int)))),()) b)) (
          AC J9 b ((⟨L,0,none⟩:Q6).add 2) λar=>
          d ((ar != (J8 J9 (v.next+(1:Int)))),()) b))) (
        ae (!(o==((i:Int)==(4:Int)))) (
         d (true,()) b) (
         ae o (
          AJ b ((⟨bx,0,none⟩:Q6).add 1) λau=>
          ae (!bL B au) (
           d (true,()) b) (
           AC J9 b ((⟨L,0,none⟩:Q6).add 2) λav=>
           d ((av != (J8 J9 (v.next+(1:Int)))),()) b)) (
          AC J9 b ((⟨L,0,none⟩:Q6).add 2) λaw=>
          d ((aw != (J8 J9 (v.next+(1:Int)))),()) b))))))))))):=by
 obtain⟨V,bi,ax,ay,bj⟩:=a6;obtain⟨bm,bn,bo,bp,aQ⟩:=APl ab;obtain⟨b4,b5,b6⟩:=K.head;have b7:n<=3:=by omega
 subst a7;refine bH.mk rfl ab (AC.mk (n:=TI i) (by rw[A6,Bk];exact AB a8 (APc ab)) (AZ.mk (AL ac rfl) (V.desc (i:=0) rfl λaL S=>?_)));have aR: ∀ {fl:cO} {ev:List Ev} {n:Nat},fl FX=some ev->Be ev=cI n->XB fl ⟨#[119]⟩=dy 0 0 (3+(n:Int)):=λ{fl ev n} bq bs=>by
  unfold XB;rw[if_pos (by decide)];rw[show fl ⟨#[119]⟩=some ev from bq];show dy 0 (Be ev).status (Be ev).next=_;rw[bs];rfl
 rw[aR ax ay];refine IJ.mk _ ⟨rfl,?_⟩;rw[bm,bn];have bt:=V.on S;refine Du.func (first:= #[]) (bQ:= #[Ap bh,Ap bk,Ap bx]) (by kernel_rfl) (AMU (note:=kB i) aG bt (by omega) ax ay (by omega) K (S.af aH λh=>h) (S.af aI λh=>h) (S.af ac λh=>h) aJ aK λaM bu z bv bw W aS bz X bA bB=>⟨_,_,rfl,?_⟩);have nx:0<=W.st.next/\W.st.next<=501:=by rw[X.st];exact(by omega:0<=3+((n+1:Nat):Int)/\3+((n+1:Nat):Int)<=501)
 have bC:DU W=(0,4+(n:Int)):=by unfold DU;rw[if_neg (by unfold FP;rw[X.st];simp[cI]),X.st];show((0:Int),3+((n+1:Nat):Int))=_;rw[Kx];exact⟨rfl,by omega⟩
 refine tm aS nx λl aT=>IJ.mk (dy 0 0 (4+(n:Int))) ⟨by rw[bC];rfl,mY λU aU bD=>?_⟩
 have aV:=aT.trans bD;have b8:=Af aU;have bE:CW Om g U s k (3*k+2) 4 [y] 0 bw mp (λc=>O c\/c=l.size) bu z bv W:=aS.wider (O':=λc=>O c\/c=l.size) aV.mod λc u=>u.imp id λh=>by have:=aT.size;omega
 have aW: ∀ {m:aa} {q:Hs} {H:List Pr} {I:cO} {J:List Ev} {w:Nat},jM g m s (k+2) w q H I an J (λc=>O c\/c=l.size) key x.val (KE (i+1))->q.p=y.p->Mod (br g λc=>O c\/c=l.size) U m->(TI i=0/\w=n+1\/TI i=100/\w=n)->w=(i+2) / 2->
   AJ m (⟨bk,0,none⟩:Q6) λag=>
   AA A P DT #[J5 (some (⟨s,0,none⟩:Q6)),J7 ag] m λai b=> ∃B:A2P,∃o:Bool,∃N:Int,ai=J1 #[J7 B,J3 o,J6 J9 N]/\(
   ah (λ(aj:Bool×Unit) C=>
     ae aj.1 (
      R (J3 false) C) (
      AZ C (⟨bh,0,none⟩:Q6) λal=>
      AA A P Dg #[J5 al,J7 (⟨#[119]⟩:A2P)] C λam e=>IJ λr=>am=r.v/\(
      ah (λ(ao:Bool×Unit) Q=>
        ae ao.1 (
         R (J3 false) Q) (
         Z Q)) λf=>
       ae (TI i==(0:Int)) (
        ae (r.next != (J8 J9 ((3+(n:Int))+(1:Int)))) (
         f (true,()) e) (
         ae (TI i != (0:Int)) (
          f ((r.next != (3+(n:Int))),()) e) (
          f (false,()) e))) (
        ae (TI i != (0:Int)) (
         f ((r.next != (3+(n:Int))),()) e) (
         f (false,()) e))))) λd=>
    ae (!true) (
     d (true,()) b) (
     ae (TI i != TI i) (
      d (true,()) b) (
      ae (N != (0:Int)) (
       d (true,()) b) (
       ae (decide ((i:Int)<(2:Int))) (
        ae (!(o==true)) (
         d (true,()) b) (
         ae o (
          AJ b ((⟨bx,0,none⟩:Q6).add 1) λap=>
          ae (!bL B ap) (
           d (true,()) b) (
           AC J9 b ((⟨l.size,0,none⟩:Q6).add 2) λaq=>
           d ((aq != (J8 J9 ((3+(n:Int))+(1:Int)))),()) b)) (
          AC J9 b ((⟨l.size,0,none⟩:Q6).add 2) λar=>
          d ((ar != (J8 J9 ((3+(n:Int))+(1:Int)))),()) b))) (
        ae (!(o==((i:Int)==(4:Int)))) (
         d (true,()) b) (
         ae o (
          AJ b ((⟨bx,0,none⟩:Q6).add 1) λau=>
          ae (!bL B au) (
           d (true,()) b) (
           AC J9 b ((⟨l.size,0,none⟩:Q6).add 2) λav=>
           d ((av != (J8 J9 ((3+(n:Int))+(1:Int)))),()) b)) (
          AC J9 b ((⟨l.size,0,none⟩:Q6).add 2) λaw=>
          d ((aw != (J8 J9 ((3+(n:Int))+(1:Int)))),()) b))))))):=λ{m q H I J w} T F G bF bG=>by
  obtain⟨az,bI,aX,aY,aZ⟩:=T;have a0:Mod (br g O) h m:=(S.mod.trans bB).trans (aV.mod.trans (G.ai λc _ u=>br.less u λc bJ=> .inl bJ));have bK:=AL (a0.af aH aJ) (j:=0) rfl;refine AJ.mk (n:=key) bK (az.w.get (by omega) λb Y=>⟨_,_,_,rfl,ah.mk λd bM=>ae.no rfl (ae.no (by simp) (ae.no rfl ?_))⟩);have aA:Mod (br g O) h b:=a0.trans Y.mod;have bN:=aA.af aI aK;have bO:=Y.af (G.af aU λbP=>bP.2 (.inr rfl)) λh=>h
  have a1:J8 J9 ((3+(n:Int))+1)=4+(n:Int):=by rw[wrap_i64 (by omega) (by omega)];omega
  rw[a1];have bR:d (false,()) b:=by
   refine bM _ _ (ae.no rfl (AZ.mk (AL (aA.af ac a9) rfl) ?_));rw[<- F];refine(az.on Y).desc (i:=0) rfl λe a2=>?_
   rw[aR aX aY];refine IJ.mk _ ⟨rfl,ah.mk λf bT=>?_⟩;have a3:f (false,()) e:=bT _ _ (ae.no rfl (ba e q _ _ _ (by rw[<- bG];exact⟨(az.on (Y.trans a2)).less λc u=> .inl u,bI,aX,aY,aZ⟩) F (aA.trans a2.mod)));rcases bF with⟨aC,aD⟩|⟨aC,aD⟩
   ·rw[aC];refine ae.yes rfl (ae.no ?_ (ae.no rfl a3));rw[a1];show((3+(w:Int)) != 4+(n:Int))=false;rw[aD];simp;omega
   ·rw[aC];refine ae.no rfl (ae.yes rfl ?_);have:(((dy 0 0 (3+(w:Int))).next) != 3+(n:Int))=false:=by show((3+(w:Int)) != 3+(n:Int))=false;rw[aD];simp
    rw[this];exact a3
  have aE:AC J9 b ((⟨l.size,0,none⟩:Q6).add 2) λt=>d ((t != 4+(n:Int)),()) b:=AC.mk (n:=4+(n:Int)) (AB bO rfl) (by rw[bne_self_eq_false];exact bR)
  rw[aZ];have a4: ∀ {bU a5:Prop},a5->AJ b ((⟨bx,0,none⟩:Q6).add 1) λt=>ae (!bL x.val t) bU a5:=λbV=>AJ.mk (n:=x.val) (AB bN rfl) (ae.no (by rw[CY];simp) bV)
  refine ae.intro (λD=>?_) (λD=>?_)
  ·have D:i<2:=by have:=of_decide_eq_true D;omega
   have bW:KE (i+1)=true:=by rw[aQ];simp[D]
   rw[bW];exact ae.no rfl (ae.yes rfl (a4 aE))
  ·have D: ¬i<2:=by have:=of_decide_eq_false D;omega
   have bX:((i:Int)==4)=KE (i+1):=by rw[aQ,DH];simp[D];omega
   rw[bX];cases KE (i+1)
   ·exact ae.no rfl (ae.no rfl aE)
   ·exact ae.no rfl (ae.yes rfl (a4 aE))
 refine AGy aG (λbY=>V.all y (by simp) bY) V.m bi ax ay bj (by omega) (by omega) K bE bz X bA (λu m q H I J T F G=>⟨_,rfl,?_⟩) λu m q T F G=>⟨_,rfl,?_⟩
 ·obtain⟨E,aF,bZ⟩:=bo u;have:=aW (by rw[aF];exact T) F G (.inl ⟨E,rfl⟩) (by omega);rw[E] at this;rw[E];exact this
 ·obtain⟨E,aF,bZ⟩:=bp u;have:=aW (by rw[aF];exact T) F G (.inr ⟨E,rfl⟩) (by omega);rw[E] at this;rw[E];exact this
end
abbrev nG:Ev:=⟨0,6,0,0,0,0,false,⟨#[]⟩⟩
def nH:Jb:=⟨6,0,false,1⟩
def YO:ba:= {Gw FX (Aq FX 4) 0 6 false (cI 3) 3 with st:=⟨⟨[iU],0⟩,0,7,0,2,0,true,[nH],[],false,false⟩,more:= [⟨6,6,3,0,0,0,false,⟨#[]⟩⟩]}
def kC(aC:Bool):aZ:=⟨⟨[iU],0⟩,0,8,0,2,0,true,if aC then [] else [⟨6,0,false,2⟩],[],false,false⟩
def nI(aC:Bool):List Ev:= [⟨6,6,3,0,0,0,false,⟨#[]⟩⟩,⟨7,if aC then 7 else 8,3,6,0,1,false,⟨#[]⟩⟩]
def gM(aC:Bool)(a:Nat):ba:= {YO with st:=kC aC,more:=nI aC,aq:=if aC then [] else [⟨GQ (Aq FX 4) (-1) a,ib ⟨2,6,2⟩ FX,false⟩]}
theorem AOa:EK (Gw FX (Aq FX 4) 0 6 false (cI 3) 3) nG=YO:=by rfl
theorem uJ {aC:Bool}{a:Nat}:Vr YO 6 1 aC nH a=gM aC a:=by cases aC<;>rfl
theorem AIl {b:ba}{c:List Ev}{d turn:Int}{aC:Bool}{e:Jb}{f:Nat}(a:b.fits c):(Vr b d turn aC e f).fits c:=by
 unfold Vr
 repeat' split
 ·exact JH a
 ·exact Nf (JH a)
 ·exact JH a
theorem qp {a turn:Int}:Rn YO.st a turn=if a=6/\turn=1 then some 0 else none:=by unfold Rn YO nH;by_cases b:a=6<;>by_cases c:turn=1<;>simp[b,c,List.findIdx?_cons,eq_comm]
theorem ANR {aC:Bool}: ∀a∈nI aC,EX a=true/\a.data.size<1099511627776:=by cases aC<;>decide
theorem AMS {aC:Bool}:De (kC aC) 1:=by cases aC<;>exact⟨by decide,by decide,by decide,by decide,by decide,by decide,by decide,by decide⟩
theorem AMr {mp:List Pr}{c:cO}{b:List Ev}{aC:Bool}{num:Nat}(e:c FX=some b)(f:Be b=cI 3)(g:(gM aC num).fits b):pz mp c (gM aC num):= {
 wid:=(by decide:Au FX=true)
 fits:=by show(gM aC num).fits ((c FX).getD []);rw[e];exact g
 more:=by show nI aC≠ [];simp[nI]
 st:=AMS.up (by omega)
 ok:=ANR
 len:=by cases aC<;>exact⟨by show 2+_<=50;simp[gM],(by decide:0<=50)⟩
 keys:=λp a=>by cases a
 base:=by show mX (gM aC num) (c FX);rw[e];show(0:Int)=(Be b).status/\(6:Int)=(Be b).next/\_/\_;rw[f];exact⟨rfl,rfl,rfl,(by decide:(0:Int)<6)⟩
 cn:=(by decide:(0:Int)<=0/\(0:Int)<=4)
 bT:=(by decide:(0:Int)<=6/\(6:Int)<=501)
 now:=(by decide:(0:Int)<=3/\(3:Int)<=1099511627776)
 next:=(by decide:(2:Int)<=8/\(8:Int)<=500)
 err:=rfl
 bes:=by
  have d:=Wq (t:=⟨2,6,2⟩) (wid:=FX) (sh:=Aq FX 4) (tick:= -1) (num:=num) (by decide);cases aC
  ·refine⟨λp a=>?_,λp a=>?_,λp a=>?_⟩<;>rw[List.mem_singleton.1 a]
   ·exact d.1
   ·exact .inl d.2.1
   ·exact d.2.2
  ·exact⟨λp a=>(by cases a),λp a=>(by cases a),λp a=>(by cases a)⟩}
section
variable {A : al} {h : aa} {R : A2O}
theorem ZH {x:eL}(E:cj h)(cX:x.key.size<=1099511627776)(a5: ∀j,Ext h j->R (J3 true) j):AA A P Io #[x.v] h R:=by
 refine Ml ?_;unfold Ih;refine ak.mk λbP _ bQ aD cY=>AJL (E.ext aD) Mod.refl λH aE cZ=>⟨_,rfl,ae.no rfl (ah.mk λK bR=>?_)⟩
 have al:=aE.af bQ λh=>h
 have key: ∀aF:Bool,(aF=false->x.key.size<=60/\x.val.size<=8000)->K (aF,()) H:=λaF bS=>by
  refine bR _ _ (ae.intro (λ_=>a5 H (aD.trans aE)) (λd=>?_));obtain⟨bT,bU⟩:=bS d;have c0:((⟨#[121]⟩:A2P)++x.key).size=1+x.key.size:=Hn;refine AJ.mk (n:=x.key) (AL al rfl) ⟨by show((1+x.key.size:Nat):Int)<=_;rw[max_i64];omega,ak.mk λc1 _ bV bW c2=>ab.mk bV (by decide) λq bX bY c3=>?_⟩;generalize bZ:(⟨#[121]⟩:A2P)++x.key=N at*
  have aG:jL N x.val:=⟨⟨x.key,bZ.symm,bT⟩,bU⟩;have am:q[H.size]? =some (J2 #[J7 N] Az (0,0)):=bX;have X:Ext H q:=bW.more bY λc r=>by subst r;exact A0 _
  have Y:=X.af al λh=>h
  have a6:=(aD.trans aE).trans X;have an:=E.ext a6;have b0:=Af am;have aH:=Af Y;refine Xz an Mod.refl λw s ao b1 a7 aI c4 c5 a8=>⟨_,_,_,rfl,ak.mk λc6 _ b2 b3 c7=>ab.mk b2 (by decide) λy b4 b5 c8=>?_⟩
  have v:y[w.size]? =some (J2 #[Ap ao.p] I4 (0,0)):=b4;have b6:Ext w y:=b3.more b5 λc r=>by subst r;exact A0 _
  refine ah.mk λc9 b7=>ae.no rfl (AZ.mk (AL v rfl) (ak.mk λa9 _ b8 ba da=>?_))
  have aJ:EW q a9 s 4 4 [ao] b1 (λ_=>none) (λ_=>none) (λc=>c=w.size\/c=y.size):=(a7.own (O':=λc=>c=w.size\/c=y.size) (b6.trans ba).mod λc r=> .inr (by
   have:=Af v;rcases r with rfl|rfl<;>omega))
  have bb:=LV FX (n:=4) (by decide);have view:View Oh a9 ⟨some ⟨y.size,0,none⟩,1,1⟩ [iU]:=(Own.lit (E:=Oh) (l:= [iU]) b8 rfl (by decide)).view;have bc:Oi (eY ⟨some ⟨y.size,0,none⟩,1,1⟩ ⟨#[114]⟩) ⟨[iU],0⟩=0:=by
   unfold Oi;rw[if_neg (λh=>by have H:=h.2;exact absurd H (by decide)),if_neg];rintro(h|h|h)
   ·exact absurd h.1 (show ¬(1:Int)=2 by decide)
   ·exact absurd h (show ¬Au ⟨#[119]⟩=false by decide)
   ·exact absurd h (show ¬Au ⟨#[114]⟩=false by decide)
  refine aJ.fG (i:=0) (x:=eY ⟨some ⟨y.size,0,none⟩,1,1⟩ ⟨#[114]⟩) (p:=⟨[iU],0⟩) an rfl (by decide) (aI.owns bb) view rfl (by decide) (by decide) λZ o mp D bd e st nx be bf bg bh bi bj bk bm=>IJ.mk _ ⟨rfl,b7 _ _ ?_⟩
  obtain⟨rfl,rfl,rfl,rfl,rfl,B⟩:=bk.start rfl bc rfl rfl (by decide);refine ae.no rfl (ak.mk λb9 _ bn aK ca=>?_);have bo:=aK.af (br.aW bj (ba.af v λh=>h) (.inl rfl)) λh=>h
  have db:=Af v;have bp:Gc mp N=lO x.val (KE 0):=by rw[bm.ik aJ.w.sorted aG.head.1];unfold Gc;rw[a8 N (by rw[aG.head.1];decide)];rfl
  have ac:jM q b9 s 5 ((0+1) / 2) o mp _ _ _ (λc=>c=w.size\/c=Z.size) N x.val (KE 0):=⟨(be.new aK (by omega)).less λc r=>r.imp .inl id,(aI.owns bb).dI bg bh bi,IB,B,bp⟩;generalize dC (λ_=>none) (eY ⟨some ⟨y.size,0,none⟩,1,1⟩ ⟨#[114]⟩).wid _=D at ac;generalize dC (λ_=>none) (eY ⟨some ⟨y.size,0,none⟩,1,1⟩ ⟨#[114]⟩).bz _=bd at ac;generalize [(⟨1,1,0,0,0,0,false,AX (CP ⟨[iU],0⟩)⟩:Ev),⟨2,2,0,0,0,0,false,⟨#[]⟩⟩]=F at ac;have bq:=bf;have ap: ∀ {c:Nat},c<q.size-> ¬br q (λc=>c=w.size\/c=Z.size) c:=λh t=>by have:=t.1;omega
  refine Loop.rule (λbs g I=> ∃(i k:Nat) (o:Hs) (mp:List Pr) (D:cO) (F:List Ev),g=((i:Int),())/\bs=5-i/\i<=5/\k=5+2*i/\jM q I s k ((i+1) / 2) o mp D bd F (λc=>c=w.size\/c=Z.size) N x.val (KE i)/\o.p=ao.p/\I[w.size]? =some (J2 #[Ap ao.p] I4 (0,0))/\I[Z.size]? =some (J2 #[J6 J9 0,J6 J9 100,J6 J9 0,J6 J9 100,J6 J9 0] UD (0,0))) ?_
   ⟨0,5,o,mp,D,F,rfl,rfl,by omega,rfl,ac,bq,bo,bn⟩
  clear ac bq bf bg bh bi bj B bk bm be bp bo bn aK ca aJ view bc a8 a7 aI;rintro dc bs _ I ⟨i,k,o,mp,D,F,rfl,rfl,dd,rfl,aL,bt,v,bu⟩ cb;dsimp only;have u:=aL.w;have Y:=u.w.ext.af Y λh=>h
  have am:=u.w.ext.af am λh=>h
  refine ae.intro (λd=>?_) (λd=>?_)
  ·have aq:i<5:=by have:=of_decide_eq_true d;omega
   refine AI1 an aL aq bt (by omega) rfl aG am Y v bu (ap b0) (ap aH) (λt=>t.2 (.inl rfl)) (λt=>t.2 (.inr rfl)) λj bv cc cd ce cf aM bw=>?_
   rw[Ab (by omega)];exact cb (5-(i+1)) _ _ (by omega) ⟨i+1,_,bv,cc,cd,ce,rfl,rfl,aq,by omega,cf,aM,bw.af v λt=>t.2 (.inl rfl),bw.af bu λt=>t.2 (.inr rfl)⟩
  have aq:i=5:=by have:=of_decide_eq_false d;omega
  subst aq;obtain⟨u,cg,aO,B,-⟩:=aL;have B:Be F=cI 3:=B;have de:=LV FX (n:=4) (by decide);generalize ch:(λc=>c=w.size\/c=Z.size)=O at*
  have aP:O w.size:=by rw[<- ch];exact .inl rfl
  have ci: ∀c,O c->c<I.size:=λc r=>(u.w.out r).1
  rw[<- bt] at v;refine AZ.mk (AL v rfl) (mW (i:=0) u.w rfl u.m (by decide) aO λck df a b c bx V aQ fr dg=>MI.mk _ ⟨_,rfl,ak.mk λdh _ cl bz di=>aN.mk cl (A0 18) λbA aR bB dj=>?_⟩);rw[Sw,B] at aR;rw[B] at aQ;have ar:Ext I bA:=(bx.trans bz).more bB λc r=>by subst r;exact bx.size
  have dk:=Af aR;have aS: ∀g,gH (cI 3) a b c g->I.size<=g/\g<ck.size:=λg d=>⟨fr g (by rcases d with⟨_,h⟩|⟨_,h⟩|⟨_,h⟩<;>simp[h]),aQ.lt d⟩
  have cm:I1 bA (cI 3) a b c:=(aQ.ext bz).cZ bB λg d e=>by have:=aS g d;omega
  refine AZ.mk (AL (ar.af v λh=>h) rfl) (G7.mk _ (SV aR) ?_);refine pK (l:= [o]) (i:=0) (O:=O) (now:=3) (u.w.own ar.mod λg d=>?_) (by simp) cm (λg d cn=>?_) λdl ad z dm co X=>⟨_,rfl,?_⟩
  ·rcases d with h|h
   ·exact .inl h
   ·have:=aS g h;exact .inr (by omega)
  ·have:=aS g d;have:=ci g cn;omega
  have dn:Om.C=32000:=rfl;refine PP (n:=0) (e:=nG) co (Ua (by omega)) (by omega) (by decide) (by show 0<1000;decide) λQ aT aU af bC=>⟨rfl,?_⟩
  have af:CW Om q Q s (5+2*5) (3*(5+2*5)) 4 [o] 0 o mp O ad aT aU (EK (Gw FX (Aq FX 4) 0 6 false (cI 3) 3) nG):=af;have bD:=JH (l0:=F) (e:=nG) (C:=Gw FX (Aq FX 4) 0 6 false (cI 3) 3) (by
   show ET Qs (F++ [])=some (cI 3);rw[AM];exact(u.m.dF _ _ aO).ok.trans (congrArg some B))
  rw[AOa] at af bD;refine pL af (by decide) ⟨6,rfl,ah.mk λcp cq=>?_⟩;have dp:=u.all o (by simp) (Aq FX 4);have au: ∀ {j:aa},Mod (br q O) Q j->j[h.size]? =some (J2 x.c Co (0,0)):=λm=>m.af (bC.af (X.af (ar.af Y λh=>h) λh=>h) (ap aH)) (ap aH)
  have cr:De YO.st 1:=⟨by decide,by decide,by decide,by decide,by decide,by decide,by decide,by decide⟩;have right: ∀aV:Bool,aV=decide (x.ref=6/\x.turn=1)->cp (aV,()) Q:=λaV av=>by
   refine cq _ _ (ah.mk λbE cs=>?_);have ct: ∀ {ag:aa} {aW:Nat->Nat} {aX:dE} {aw:Hs} {S:Nat},CW Om q ag s (5+2*5) (3*(5+2*5)+1) 4 [o] 0 aw mp O ad aW aX (gM x.aC S)->o.cK aw->Mod (br q O) Q ag->bE (false,()) ag:=λ{ag aW aX aw S} cu J bF=>by
    refine cs _ _ (ae.no rfl (ah.mk λcv cw=>?_));have cx:(gM x.aC S).fits F:=by rw[<- uJ];exact AIl bD
    have ai:=AMr (mp:=mp) aO B cx;have cy:=au bF;have ax:cv ((if x.aC then 1 else 0),()) ag:=by
     refine cw _ _ (EW.gu (k':=20) an cu u.m (λdq cz g=>by rw[List.mem_singleton.1 cz];exact u.all o (by simp) g) (λg=>by have:=u.all o (by simp) g;have:=J.u g;rw[J.f];omega) (by omega) (by omega) (by omega) (cg.dI J.f J.name λ_ _ _=>rfl) (by show Aq FX 4<256;omega) ai (λ_ cB bv n1 n2 bG cC aY aM dr ds dt cD cE=>⟨_,rfl,ae.no rfl ?_⟩) λr=>absurd (λg d=>by cases d) r);have bH:=V8 (n1:=n1) (n2:=n2) ai.err ai.next ai.now ai.wid;have cF:FP (gM x.aC S)=false:=by unfold FP;simp[gM,kC]
     rw[cF,<-cC] at bH;have cG:Be ((D FX).getD []++bG.more)=kC x.aC:=cD.trans bH.2.1;have bI:=cE.af (bF.af (bC.af (X.af (ar.af v λh=>h) λh=>h) λt=>t.2 aP) λt=>t.2 aP) λt=>t.2 aP
     rw[<- J.p,<-aM] at bI;refine AZ.mk (AL bI rfl) (mW (i:=0) aY.w rfl aY.m (by decide) (IB (f:=D) (k:=FX)) λdu dv cH aj cJ bJ dw S' dx dy=>MI.mk _ ⟨_,rfl,ak.mk λdz _ cK bK dA=>aN.mk cK (A0 18) λaZ ay bL dB=>ae.yes rfl ?_⟩);rw[Sw] at ay;have cL:Be ((D (gM x.aC S).wid).getD []++bG.more)=kC x.aC:=cG;rw[cL] at ay S';have cM:Ext cB aZ:=(bJ.trans bK).more bL λc r=>by subst r;exact bJ.size
     have done:=a5 aZ (a6.trans (aY.w.ext.trans cM));have a0:I1 aZ (kC x.aC) cH aj cJ:=(S'.ext bK).cZ bL λg d e=>by have:=S'.lt d;omega
     have G:=a0.ar.len;refine AY.mk (s:=aj) (Bf (by exact ay) rfl) ?_;cases bM:x.aC
     ·rw[bM] at G a0;have G:aj.len=1:=G;rw[G];refine ae.yes rfl (ae.no rfl (AY.mk (s:=aj) (Bf (by exact ay) rfl) ?_));refine a0.ar.idx (i:=0) rfl λdD _ cN=>AC.mk (n:=2) (cN 3 _ rfl) done
     ·rw[bM] at G;have G:aj.len=0:=G;rw[G];exact ae.yes rfl (ae.yes rfl done)
    refine Aa.mk (n:=x.aC) (AB cy rfl) (ae.intro (λL=>?_) (λL=>?_))
    ·have L:x.aC=false:=by simpa using L
     rw[L] at ax;exact ax
    ·have L:x.aC=true:=by simpa using L
     rw[L] at ax;exact ax
   have T:=au Mod.refl;have a1:YO.ao=Aq FX 4:=rfl;have bN: ∀ {az turn:Int} {aA:aa} {aC:A2O},CW Om q aA s (5+2*5) (3*(5+2*5)) 4 [o] 0 o mp O ad aT aU YO->Mod (br q O) Q aA->(¬ (az=6/\turn=1)-> ∀j,CW Om q j s (5+2*5) (3*(5+2*5)) 4 [o] 0 o mp O ad aT aU YO->Mod (br q O) Q j->aC (J3 false) j)->
     (az=6/\turn=1-> ∀j,bE (false,()) j->aC (J3 true) j)->AA A P JE #[Ap ad,J6 J9 az,J6 J9 turn,J3 x.aC] aA aC:=λ{az turn aA aC} cP bO cQ cR=>by
    refine APD (n:=1) cP cr (by omega) (by decide) (by rw[a1];omega) (by rw[a1];omega) (by rw[a1];omega) (by omega) (by omega) (by decide) (λk a2=>?_) (λM j U W=>cQ (λh=>?_) j U (bO.trans W)) λk cS M cT j aW aX aw S U J W=>?_
    ·rw[qp] at a2;split at a2
     ·omega
     ·cases a2
    ·rw[qp,if_pos h] at M;cases M
    ·rw[qp] at M;split at M
     ·rename_i cU;cases M;have cV:nH=cS:=BT cT;subst cV;obtain⟨rfl,rfl⟩:=cU;rw[uJ] at U;exact cR ⟨rfl,rfl⟩ j (ct U J (bO.trans W))
     ·cases M
   refine AC.mk (n:=x.ref) (AB T rfl) (AC.mk (n:=x.turn) (AB T rfl) (Aa.mk (n:=x.aC) (AB T rfl) (bN af Mod.refl (λa3 j U W=>⟨_,rfl,?_⟩) λcW j a4=>⟨_,rfl,?_⟩)))
   ·rw[decide_eq_false a3] at av;subst av;exact ae.no rfl (ae.yes rfl (Aa.mk (n:=x.aC) (AB (au W) rfl) (bN U W (λa3=>absurd ⟨rfl,rfl⟩ a3) λ_ j a4=>⟨_,rfl,a4⟩)))
   ·rw[decide_eq_true cW] at av;subst av;exact ae.no rfl (ae.no rfl a4)
  have T:=au Mod.refl;refine AC.mk (n:=x.ref) (AB T rfl) (ae.intro (λd=>?_) (λd=>right false ?_))
  ·have d:x.ref=6:=by simpa using d
   refine AC.mk (n:=x.turn) (AB T rfl) (right _ ?_);rw[d,DH];simp
  ·have d: ¬x.ref=6:=by simpa using d
   simp[d]
 refine AJ.mk (n:=x.key) (AL al rfl) (ae.intro (λ_=>key true (λh=>by cases h)) (λd=>AJ.mk (n:=x.val) (AB al rfl) (key _ λh=>?_)));have bP:=of_decide_eq_false d;have H:=of_decide_eq_false h;omega
end
end Go.Lf.G
