/-
 Contracts: what a request asks for, as bytes; what it makes of a change (chapter 19).
-/
import Derived.Test.YtecomiijolnjpaaGreatDoorLfQ12ToE12
import Derived.Test.YtecomiijolnjpaaGreatDoorLfJToGA
import Derived.Test.YtecomiijolnjpaaGreatDoorLfZ9ToGLEngineFull
set_option maxRecDepth 100000
set_option linter.unusedVariables false
set_option linter.unusedSimpArgs false
open Go.IntKind renaming i64→J9,wrap→J8
open Go.Value renaming string→J7,int→J6,pointer→J5,slice→J4,bool→J3,tuple→J1
open Go.Obj renaming cells→J2
open Go renaming Value→J0,Addr→Q6,TypeId→Q7,FuncId→Q8,Program→Q1
open Go.Addr renaming add→Q9,mk→Q5
namespace Go.Lf.G
open Go
open M (Sorted Ae Cr BG Ag Aw Bf Aj bG BM aS BV)
def Ki(x:bN)(p:cA):List UInt8:=BZ x.kind.toNat++(BR (bl x.wid)++(BR (if x.kind=2 then bl x.name else [])++(if x.kind=1 then CP p else [])))
def OP(x:bN)(p:cA):Int:=if x.kind=1/\Fb p=false then 130 else if(x.kind=2/\Ap x.name=false)\/Ap x.wid=false\/Ap x.aX=false then 1 else 0
theorem kT {x:bN}{p:cA}(h:OP x p=0):(x.kind=1->Fb p=true)/\(x.kind=2->Ap x.name=true)/\Ap x.wid=true/\Ap x.aX=true:=by
 unfold OP at h;split at h
 ·cases h
 ·rename_i b;split at h
  ·cases h
  ·rename_i a;simp only[not_or,not_and,Bool.not_eq_false] at b a;exact⟨b,a.1,a.2⟩
theorem QU {p:cA}(ok:Fb p=true):(CP p).length<=1700:=by simp only[Fb,A3,decide_eq_true_eq] at ok;obtain⟨⟨c,a⟩,b⟩:=ok;have d:=BX.1 a;have:=Oa b;have e:=AV (n:=p.aA.toNat) (by omega);have f:=AV (n:=p.steps.length) (by omega);unfold CP;simp only[A1];omega
theorem zf {x:bN}{p:cA}(h:OP x p=0)(f:1<=x.kind/\x.kind<=4):(Ki x p).length<=2000:=by
 obtain⟨a,b,c,g⟩:=kT h;have i:=FY c;have j:=GX (n:=x.kind.toNat) (by omega);have k:=KC (s:=x.wid) (by omega);have l:(BR (if x.kind=2 then bl x.name else [])).length<=30:=by
  split
  ·rename_i d;have:=FY (b d);have:=KC (s:=x.name) (by omega);omega
  ·have:=AV (n:=0) (by omega);show(BZ 0++ []).length<=30;rw[AM];omega
 have m:(if x.kind=1 then CP p else []).length<=1700:=by
  split
  ·rename_i e;exact QU (a e)
  ·simp
 unfold Ki;simp only[A1];omega
section
variable {A : al} {h : aa} {R : A2N}
theorem zg {x:bN}{p:cA}(V:View QS h x.steps p.steps)(M:x.aA=p.aA)(len:p.steps.length<=1099511627776)(an:1<=x.kind/\x.kind<=4)
  (w: ∀e,Ext h e->R (J1 #[J7 (if OP x p=0 then AX (Ki x p) else⟨#[]⟩),J6 J9 (OP x p)]) e):AA A P MP #[x.v] h R:=by
 refine Y9 ?_;unfold Rb;refine ak.mk λi _ j k ao=>ah.mk λK N=>?_
 have y: ∀(n:Int) e,Ext h e->OP x p=n->n≠0->R (J1 #[J7 ⟨#[]⟩,J6 J9 n]) e:=λn e O Q r=>by
  have:=w e O;rw[Q,if_neg r] at this;exact this
 have z: ∀(ps:List UInt8) (b:aa),Ext i b->(x.kind=1->Fb p=true/\ps=CP p)->(x.kind≠1->ps= [])->K (AX ps,()) b:=λps b f m B=>by
  have c:=f.af j λh=>h
  have ap:ps.length<=1700:=by
   by_cases h:x.kind=1
   ·rw[(m h).2];exact QU (m h).1
   ·rw[B h];simp
  have C: ¬(x.kind=1/\Fb p=false):=λh=>by have:=(m h.1).1;rw[h.2] at this;cases this
  refine N _ _ (ah.mk λt S=>?_);have u: ∀o:Bool,(o=true↔(x.kind=2/\Ap x.name=false)\/Ap x.wid=false\/Ap x.aX=false)->t (o,()) b:=λo D=>by
   refine S _ _ (ae.intro (λg=>y 1 b (k.trans f) (by unfold OP;rw[if_neg C,if_pos (D.1 g)]) (by decide)) (λg=>?_));have g:o=false:=g;have T: ¬((x.kind=2/\Ap x.name=false)\/Ap x.wid=false\/Ap x.aX=false):=λh=>by rw[D.2 h] at g;cases g
   have E:OP x p=0:=by unfold OP;rw[if_neg C,if_neg T]
   obtain⟨aq,U,W,ar⟩:=kT E;have au:=FY W;refine AJ.mk (n:=x.name) (AB c rfl) (ah.mk λX Y=>?_);have F: ∀d:List UInt8,d=(if x.kind=2 then bl x.name else [])->X (AX d,()) b:=λd G=>by
    have nl:d.length<=16:=by
     rw[G];split
     ·rename_i Z;rw[BA];exact FY (U Z)
     ·simp
    refine Y _ _ (AC.mk (n:=x.kind) (AL c rfl) ?_);rw[Nh (by omega) (by omega)];refine CS (by omega) λav H=>⟨_,rfl,AJ.mk (n:=x.wid) (AB (H.af c λh=>h) rfl) ⟨AB c rfl,Kz (by omega) λaw ab=>⟨_,rfl,?_⟩⟩⟩
    have ax:=GX (n:=x.kind.toNat) (by omega);have ay:=KC (s:=x.wid) (by omega);have az:(BR d).length<=30:=by unfold BR;rw[A1];have:=AV (n:=d.length) (by omega);omega
    refine⟨by rw[AP,AP,max_i64];omega,?_⟩;rw[Ak];refine QG (l:=d) (by omega) λac ad=>⟨_,rfl,⟨by rw[AP,AP,A1,max_i64];omega,?_⟩⟩
    rw[Ak];refine⟨by rw[AP,AP,A1,A1,max_i64];omega,?_⟩;rw[Ak];have:=w ac ((((k.trans f).trans H).trans ab).trans ad);rw[E,if_pos rfl] at this;have af:Ki x p=((BZ x.kind.toNat++BR (bl x.wid))++BR d)++ps:=by
     unfold Ki;rw[G];simp only[A4];congr 3;split
     ·rename_i h;rw[(m h).2]
     ·rename_i h;rw[B h]
    rw[af] at this;exact this
   refine AC.mk (n:=x.kind) (AL c rfl) (ae.intro (λa=>?_) (λa=>?_))
   ·have a:x.kind≠2:=by simpa using a
    exact F [] (by rw[if_neg a])
   ·have a:x.kind=2:=by simpa using a
    have:=F (bl x.name) (by rw[if_pos a]);rw[KM] at this;exact this
  have rest:(x.kind=2->Ap x.name=true)->AJ b ((⟨h.size,0,none⟩:Q6).add 2) λag=>AA A P Bu #[J7 ag] b λai v=> ∃I:Bool,ai=J3 I/\(ae (!I) (t (true,()) v) (
    AJ v ((⟨h.size,0,none⟩:Q6).add 1) λaj=>AA A P Bu #[J7 aj] v λal am=> ∃J:Bool,al=J3 J/\(t ((!J),()) am))):=λr=>
   AJ.mk (n:=x.wid) (AB c rfl) (FN ⟨_,rfl,ae.intro (λa=>u true (by simp at a;simp[a])) λa=>AJ.mk (n:=x.aX) (AB c rfl) (FN ⟨_,rfl,u _ (by
    have a:Ap x.wid=true:=by simpa using a
    simp only[a,CA,Bool.true_eq_false,false_or];constructor
    ·exact .inr
    ·rintro(⟨i,b⟩|h)
     ·rw[r i] at b;cases b
     ·exact h)⟩)⟩)
  refine AC.mk (n:=x.kind) (AL c rfl) (ae.intro (λa=>?_) (λa=>?_))
  ·have a:x.kind=2:=by simpa using a
   refine AJ.mk (n:=x.name) (AB c rfl) (FN ⟨_,rfl,ae.intro (λq=>u true (by simp at q;simp[a,q])) λq=>rest λ_=>by simpa using q⟩)
  ·have a:x.kind≠2:=by simpa using a
   exact rest λh=>absurd h a
 refine AC.mk (n:=x.kind) (AL j rfl) (ae.intro (λa=>?_) (λa=>?_))
 ·have a:x.kind=1:=by simpa using a
  refine AY.mk (s:=x.steps) (AB j rfl) (AC.mk (n:=x.aA) (Bl (by exact j) rfl) ?_);rw[M];refine sD (V.ext k) len λb f=>?_
  unfold Wm;cases L:Fb p with
  |false=>exact⟨_,_,rfl,ae.yes rfl (y 130 b (k.trans f) (by unfold OP;rw[if_pos ⟨a,L⟩]) (by decide))⟩
  |true=>exact⟨_,_,rfl,ae.no rfl (z (CP p) b f (λ_=>⟨L,rfl⟩) λh=>absurd a h)⟩
 ·have a:x.kind≠1:=by simpa using a
  exact z [] i Mod.refl (λh=>absurd h a) λ_=>rfl
end
def dh(a:Int)(b:A2O):Ev:=⟨0,a,0,0,0,0,false,b⟩
def CJ(c:Option (List Ev))(wid:A2O)(a:Nat)(b:Int):br:=match c with
 |none=>JP wid a 0 0 false Rf b
 |some l=>JP wid a (Bj l).status (Bj l).next false (Bj l) b
def rY(p:cA)(a:Int):Int:=if(0:Int)>a+p.aA then 0 else a+p.aA
def DC(x:bN)(p:cA)(a:br)(b:Nat):br:=
 if x.kind=1 then(if 0<p.aA then Fe (EN a (dh 1 (AX (CP p)))) ⟨6,0,0⟩ (rY p a.now) b else EN a (dh 1 (AX (CP p))))
 else if x.kind=2 then EN a (dh 12 x.name)
 else if x.kind=3 then(if a.st.cancel=true then a else EN a (dh 13 ⟨#[]⟩))
 else EN a (dh 18 ⟨#[]⟩)
def FU(x:bN)(p:cA)(a:br)(b:Nat):br:=ny (DC x p a b) (MQ x.aX) (iP (Ki x p) (Dc (DC x p a b)).1.toNat (Dc (DC x p a b)).2.toNat)
def Kh(b:dd)(c:du)(d:Nat)(x:bN)(p:cA):Option (Int×Int×Int):=
 if x.kind<1\/4<x.kind then some (1,0,0)
 else if OP x p≠0 then some (OP x p,0,0)
 else if d=0 then some (170,0,0)
 else match c x.aX with
  |some a=>if a.1≠Ki x p then some (184,0,0) else some (0,a.2.1,a.2.2)
  |none=>match b x.wid with
   |none=>if x.kind=1 then none else some (180,0,0)
   |some l=>if x.kind=1 then some (181,0,0) else if(Bj l).status≠0 then some (182,0,0) else none
theorem zh {a:Option (List Ev)}{wid:A2O}{n:Nat}{now:Int}(h: ∀l,a=some l->Sv l):Du (CJ a wid n now).st 500/\(CJ a wid n now).more= []/\(CJ a wid n now).aq= []/\(CJ a wid n now).conds= []/\(CJ a wid n now).wid=wid/\(CJ a wid n now).ao=n/\(CJ a wid n now).now=now/\(CJ a wid n now).fits (a.getD []):=by
 cases a with
 |none=>exact⟨Du.zero.up (by omega),rfl,rfl,rfl,rfl,rfl,rfl,rfl⟩
 |some l=>
  have b:=h l rfl;refine⟨?_,rfl,rfl,rfl,rfl,rfl,rfl,?_⟩
  ·have:=Zq Du.zero b.ok;exact this.up (by have:=b.len;omega)
  ·show ES Rf (l++ [])=some (Bj l);rw[AM];exact b.ok
theorem zi {x:bN}{p:cA}{a:br}{num c:Nat}(u:OP x p=0)(ok: ∀e∈a.more,Ed e=true/\e.data.size<1099511627776)(v:Du a.st c):a.grown (DC x p a num) (c+1) 1 1:=by
 obtain⟨w,y,C,D⟩:=kT u;have b:=VZ ok v;have z:(⟨#[]⟩:A2O).size<1099511627776:=by decide
 have up: ∀ {d:br},a.grown d (c+1) 1 0->a.grown d (c+1) 1 1:=λ{d} ⟨f,g,i,j,k,l,m,s,n,B,o,q⟩=>⟨f,g,i,j,k,l,m,s,n,by omega,o,q⟩
 unfold DC;split
 ·rename_i r;have t:(dh 1 (AX (CP p))).data.size<1099511627776:=by show(AX (CP p)).size<_;have:=QU (w r);rw[AP];omega
  split
  ·exact Ve (LF b t) _ _ _
  ·exact up (LF b t)
 ·split
  ·rename_i r;exact up (LF b (e:=dh 12 x.name) (by have:=FY (y r);show x.name.size<_;omega))
  ·split
   ·split
    ·obtain⟨f,g,i,j,k,l,m,s,n,B,o,q⟩:=b;exact⟨f,g,i,j,k,l,m,by omega,n,by omega,o,q.up (BY _)⟩
    ·exact up (LF b z)
   ·exact up (LF b z)
theorem zk {x:bN}{p:cA}{a:br}{c:Nat}{b:List Ev}(h:a.fits b):(DC x p a c).fits b:=by
 unfold DC;split
 ·split
  ·exact X8 (OM h)
  ·exact OM h
 ·split
  ·exact OM h
  ·split
   ·split
    ·exact h
    ·exact OM h
   ·exact OM h
theorem zl {x:bN}{p:cA}{c:br}{d:Nat}(h:c.aq= []):(DC x p c d).beside none:=by
 have b:c.beside none:=⟨(λp a=>by rw[h] at a;cases a),(λp a=>by rw[h] at a;cases a),(λp a=>by rw[h] at a;cases a)⟩;unfold DC;split
 ·split
  ·exact TE (LG b _) _ _ _
  ·exact LG b _
 ·split
  ·exact LG b _
  ·split
   ·split
    ·exact b
    ·exact LG b _
   ·exact LG b _
theorem rZ {b:br}{c:Ev}(h:(EN b c).err=0):b.err=0:=by
 unfold EN at h;split at h
 ·rename_i a;exact absurd h a
 ·rename_i a;simpa using a
theorem WI {b:br}{t:gP}{tick:Int}{c:Nat}(h:(Fe b t tick c).err=0):b.err=0:=by
 unfold Fe at h;split at h
 ·rename_i a;exact absurd h a
 ·rename_i a;simpa using a
theorem oU {a:br}{b:Ev}(h:(EN a b).err=0):EN a b= {a with st:=(Bc a.st (CQ a b)).2,more:=a.more++ [CQ a b]}/\(Bc a.st (CQ a b)).1=0:=by
 have d:=rZ h;unfold EN at h ⊢;rw[if_neg (by simp[d])] at h ⊢;split at h
 ·cases h
 ·rename_i e;rw[if_neg e];split at h
  ·rename_i c;exact absurd h c
  ·rename_i c;rw[if_neg c];exact⟨rfl,by simpa using c⟩
theorem zn {a:br}{b:Nat}(h:(Em a b).err=0):a.err=0:=by
 unfold Em at h;split at h
 ·exact rZ (WI h)
 ·exact h
theorem sd {a:br}{b c:Nat}(h:(Az a b c).err=0):(Em a b).err=0:=by
 unfold Az at h;split at h
 ·exact WI h
 ·exact h
theorem se {a:br}{c d:Nat}(h:(Az a c d).err=0):(Az a c d).st.status=(Dc a).1/\(Az a c d).st.next=(Dc a).2:=by
 have g:=sd h;have j:(Az a c d).st=(Em a c).st:=by
  unfold Az;split
  ·exact(Ik _ _ _ _).1
  ·rfl
 rw[j];unfold Dc;by_cases e:FE a=true
 ·rw[if_pos e];unfold Em at g ⊢;rw[if_pos e] at g ⊢;rw[(Ik _ _ _ _).1];obtain⟨k,b⟩:=oU (WI g);rw[k];show(Bc a.st (CQ a WH)).2.status=_/\(Bc a.st (CQ a WH)).2.next=_;have ok:=Pm b;unfold Bc at b ⊢;rw[if_neg (by simp[ok])] at b ⊢;split at b
  ·rename_i i;rw[if_neg (λh=>by have h:(2:Int)=1:=h.1;cases h)] at b;cases b
  ·rename_i i;rw[if_neg i];split at b
   ·cases b
   ·rename_i l;rw[if_neg l];split at b
    ·cases b
    ·rename_i m;rw[if_neg m];cases f:Nz a.st (CQ a WH) with
     |none=>rw[f] at b;cases b
     |some t=>
      unfold Nz at f;rw[if_pos (show 2<=(CQ a WH).kind/\(CQ a WH).kind<=5 from(by decide:(2:Int)<=2/\(2:Int)<=5))] at f;obtain⟨u,n,rfl⟩:=Option.map_eq_some_iff.1 f;exact⟨(PP n).2.2.2,rfl⟩
 ·rw[if_neg e];unfold Em;rw[if_neg e];exact⟨rfl,rfl⟩
structure Hs.dp (y y':Hs):Prop where
 p:y'.p=y.p
 name:y'.name=y.name
 f:y'.f=y.f
 u: ∀m,y'.u m<=y.u m+3
theorem bO.less {g:aa}{O O':Nat->Prop}{c:Nat}(h:bO g O' c)(b: ∀c,O c->O' c):bO g O c:=⟨h.1,λd=>h.2 (b c d)⟩
theorem Qk(wid:A2O){n:Nat}(h:1<=n):A8 wid n<n:=Cp _ h
section
variable {A : al} {B : cI} {g h : aa} {s a N sh : Nat} {l : List Hs} {mp : List Pr} {O : Nat -> Prop} {i : Nat} {y : Hs} {fl : dd} {an : du} {R : A2N}
def oV(b:br):Option (List Ev)->Prop
 |none=>b.bW=0
 |some l=>b.cq=(Bj l).status/\b.bW=(Bj l).next/\b.kept=false/\0<b.bW
theorem zo {b:Option (List Ev)}{wid:A2O}{n:Nat}{now:Int}(h: ∀l,b=some l->Sv l):(0<=(CJ b wid n now).cq/\(CJ b wid n now).cq<=4)/\(0<=(CJ b wid n now).bW/\(CJ b wid n now).bW<=501)/\oV (CJ b wid n now) b:=by
 cases b with
 |none=>exact⟨⟨(by decide:(0:Int)<=0),(by decide:(0:Int)<=4)⟩,⟨(by decide:(0:Int)<=0),(by decide:(0:Int)<=501)⟩,rfl⟩
 |some l=>
  have c:=h l rfl;have st:=c.st;have nx:=c.next.1;have d:=c.len;exact⟨st,⟨by show 0<=(Bj l).next;omega,by show(Bj l).next<=501;omega⟩,rfl,rfl,rfl,by show 0<(Bj l).next;omega⟩
theorem zr {b c:br}{e d f:Nat}(G:b.grown c e d f)(h:b.more= []):c.more.length<=d:=by have:=G.more;rw[h] at this;simpa using this
theorem zt {x:bN}{p:cA}{cV:J0}{now:Int}(cW:cm g)(ac:LW B g h s a N sh l mp O)(ai:l[i]? =some y)(aj:Jl mp fl an)(V:View QS h x.steps p.steps)(a2:x.aA=p.aA)(len:p.steps.length<=1099511627776)
  (d1: -4611686018427300000<=now/\now<=4611686018427300000) (ce: ∀n,y.f n<=2147483647) (cf: ∀n,y.u n+3<16777216) (d2:N+3<=1000000) (hA:4+3*a<=B.A) (cX:64*a+64<=B.C) (cY:a+1<=1000000)
  (aL: ∀f e st nx,Kh fl an (y.f (A8 x.wid sh)) x p=some (e,st,nx)->Ext h f->R (dA e st nx).v f)
  (c0: ∀f C a3 u v,Kh fl an (y.f (A8 x.wid sh)) x p=none->y.dp C->(Az (FU x p (CJ (fl x.wid) x.wid (A8 x.wid sh) now) a3) u v).err≠0->LW B g f s a (N+3) sh (l.set i C) mp O->Mod (bO g O) h f->R (dA (Az (FU x p (CJ (fl x.wid) x.wid (A8 x.wid sh) now) a3) u v).err 0 0).v f)
  (c1: ∀f C,Kh fl an (y.f (A8 x.wid sh)) x p=none->y.dp C->Bd mp (FD (A8 x.wid sh) (y.f (A8 x.wid sh)) y.name)=false->LW B g f s a (N+3) sh (l.set i (C.lost (A8 x.wid sh))) mp O->Mod (bO g O) h f->R (dA 170 0 0).v f)
  (c2: ∀f C a3 u v D,D=Az (FU x p (CJ (fl x.wid) x.wid (A8 x.wid sh) now) a3) u v->Kh fl an (y.f (A8 x.wid sh)) x p=none->y.dp C->D.err=0->LW B g f s (a+1) (N+3) sh (l.set i C) (cS mp (EI D++D.aq)) O->
   Jl (cS mp (EI D++D.aq)) (dE fl x.wid ((fl x.wid).getD []++D.more)) (dE an x.aX (Ki x p,D.st.status,D.st.next))->Bj ((fl x.wid).getD []++D.more)=D.st->(∀ n r cg,Bd (cS mp (EI D++D.aq)) (FD n r cg)=Bd mp (FD n r cg))->Mod (bO g O) h f->R (dA 0 D.st.status D.st.next).v f):
  AA A P Ao #[Ay y.p,cV,J6 J9 now,x.v] h R:=by
 obtain⟨-,ch,c3⟩:=ac.dG ai;have ci:=(List.getElem?_eq_some_iff.1 ai).1;have cZ:l.set i y=l:=by rw[<- (List.getElem?_eq_some_iff.1 ai).2];exact Pa ci
 have d3:=Qk x.wid ch;refine Yh ?_;unfold RZ;refine ak.mk λal _ am bu d4=>ak.mk λaw _ a4 cj d5=>?_
 have ad:Ext h aw:=bu.trans cj;have am:aw[h.size]? =some (J2 x.c GD (0,0)):=cj.af am λh=>h
 have d6:=Af a4;have aM: ∀ {T:aa} (e st nx:Int),Ext aw T->(∀ f,Ext h f->R (dA e st nx).v f)->aK T ⟨al.size,0,none⟩ (dA e st nx).l λa5=>FZ a5 ⟨al.size,0,none⟩ λc4=>R (c4.v) a5:=λ{T} e st nx I c5=>
  TF (I.af a4 λh=>h) λf bv=>c5 f ((ad.trans I).more bv λc d=>by subst d;exact bu.size)
 refine ah.mk λK c6=>?_
 have cl: ∀a6:Bool,(a6=true↔x.kind<1\/4<x.kind)->K (a6,()) aw:=λa6 cn=>by
  refine c6 _ _ (ae.intro (λk=>aM 1 0 0 Mod.refl λf I=>aL f 1 0 0 (by unfold Kh;rw[if_pos (cn.1 k)]) I) (λk=>?_));have k:a6=false:=k;have bw: ¬(x.kind<1\/4<x.kind):=λh=>by rw[cn.2 h] at k;cases k
  have co:1<=x.kind/\x.kind<=4:=by omega
  refine Ud.mk x (Dj am rfl) (zg (V.ext ad) a2 len co λd7 aU=>⟨_,_,rfl,?_⟩);by_cases af:OP x p=0;rotate_left
  ·refine ae.yes (by simp[af]) (aM (OP x p) 0 0 aU λf I=>aL f _ 0 0 (by unfold Kh;rw[if_neg bw,if_pos af]) I)
  rw[if_pos af];refine ae.no (by simp[af]) (ae.no rfl ?_);obtain⟨bx,c7,ax,aV⟩:=kT af;have d8:=FY ax;have d9:=FY aV;have dl:=zf af co;have bz:=ac.on (ad.trans aU);have bA:=aU.af am λh=>h
  refine AJ.mk (n:=x.wid) (AB bA rfl) (bz.aF ai ⟨_,rfl,⟨AB bA rfl,Xi (by omega) ch c3 ⟨_,_,rfl,bz.holds ai ⟨_,rfl,?_⟩⟩⟩⟩);refine ae.intro (λk=>aM 170 0 0 aU λf I=>aL f 170 0 0 (by unfold Kh;rw[if_neg bw,if_neg (by simp[af]),if_pos (by simpa using k)]) I) (λk=>?_);have cp:y.f (A8 x.wid sh)≠0:=by simpa using k
  have q:Kh fl an (y.f (A8 x.wid sh)) x p=match an x.aX with
    |some F=>if F.1≠Ki x p then some (184,0,0) else some (0,F.2.1,F.2.2)
    |none=>match fl x.wid with
     |none=>if x.kind=1 then none else some (180,0,0)
     |some l=>if x.kind=1 then some (181,0,0) else if(Bj l).status≠0 then some (182,0,0) else none:=by
   unfold Kh;rw[if_neg bw,if_neg (by simp[af]),if_neg cp];try rfl
  refine AJ.mk (n:=x.aX) (AB bA rfl) (yU bz ai aj aV λea c8=>?_);have a7:=aU.trans c8;cases bB:an x.aX with
  |some F=>
   rw[bB] at q;refine⟨_,EJ.mk (dA 0 F.2.1 F.2.2) ⟨_,_,rfl,ak.mk λa5 _ bC bD c9=>aK.mk bC (A0 9) λbE bF bG da=>ae.no rfl ?_⟩⟩;rw[Vj] at bF;have ay:Ext aw bE:=(a7.trans bD).more bG λc d=>by subst d;exact a7.size
   refine ah.mk λdb bH=>ae.yes rfl (bH _ _ ?_)
   rw[Cb];refine ae.intro (λk=>aM 184 0 0 ay λf I=>aL f 184 0 0 (by
    have k: ¬(AX F.1=AX (Ki x p)):=by simpa using k
    rw[q];show(if F.1≠Ki x p then _ else _)=_;rw[if_pos λh=>k (by rw[h])]) I) (λk=>ae.yes rfl (FZ.mk (dA 0 F.2.1 F.2.2) (WP bF) (aM 0 F.2.1 F.2.2 ay λf I=>aL f 0 F.2.1 F.2.2 (by
    have k:AX F.1=AX (Ki x p):=by simpa using k
    rw[q];show(if F.1≠Ki x p then _ else _)=_;rw[if_neg (by rw[Nf.1 k];simp)]) I)))
  |none=>
   rw[bB] at q;refine⟨_,EJ.mk bI.z ⟨_,_,rfl,ak.mk λa5 _ bC bD c9=>aK.mk bC (A0 9) λbE bF bG da=>ae.no rfl ?_⟩⟩;have ay:Ext aw bE:=(a7.trans bD).more bG λc d=>by subst d;exact a7.size
   refine ah.mk λdb bH=>ae.no rfl (bH _ _ (ae.no rfl (ae.no rfl ?_)))
   have dc:=ac.on (ad.trans ay);refine AJ.mk (n:=x.wid) (AB (ay.af am λh=>h) rfl) (oR dc ai aj (λh=>by rw[ax] at h;cases h) λ_ aW cq=>Mf.mk _ ⟨_,rfl,ak.mk λeb _ dd de ec=>aK.mk dd (A0 18) λbJ az df ed=>?_⟩);rw[VU] at az;have cr:Ext aW bJ:=de.more df λc d=>by subst d;exact A0 _
   have aA:Ext aw bJ:=(ay.trans cq).trans cr;have ee:=(ay.trans cq).size;have a8:=aA.af am λh=>h
   refine ah.mk λcs ct=>?_
   have bK: ∀(e:Int),e≠0->Kh fl an (y.f (A8 x.wid sh)) x p=some (e,0,0)->cs (e,()) bJ:=λe J d=>
    ct _ _ (ae.yes (by simp[J]) (aM e 0 0 aA λf I=>aL f e 0 0 d I))
   have cu: ∀l,fl x.wid=some l->Sv l:=λl aC=>aj.dX _ _ aC
   obtain⟨aX,bL,bM,cv,bP,cw,cx,dg⟩:=zh (wid:=x.wid) (n:=A8 x.wid sh) (now:=now) cu;obtain⟨ef,di,aN⟩:=zo (wid:=x.wid) (n:=A8 x.wid sh) (now:=now) cu;have cy: ∀ {T:aa} {es:Sl} {a' b' c':Sl},Kh fl an (y.f (A8 x.wid sh)) x p=none->Ext h T->T[h.size]? =some (J2 x.c GD (0,0))->T[al.size]? =some (J2 bI.z.c BB (0,0))->
     (∃ fv:ck,T[aW.size]? =some (J2 fv.c Bg (0,0))/\fv=⟨x.wid,(A8 x.wid sh:Int),⟨(CJ (fl x.wid) x.wid (A8 x.wid sh) now).cq,(CJ (fl x.wid) x.wid (A8 x.wid sh) now).bW,false⟩,es,(CJ (fl x.wid) x.wid (A8 x.wid sh) now).st.V a' b' c'⟩)->
     Ia T (CJ (fl x.wid) x.wid (A8 x.wid sh) now).st a' b' c'->(∀ c,a'.af=some c\/b'.af=some c\/c'.af=some c->aW.size<c)->(∀ a9:br,a9=JP x.wid (A8 x.wid sh) (CJ (fl x.wid) x.wid (A8 x.wid sh) now).cq (CJ (fl x.wid) x.wid (A8 x.wid sh) now).bW false (CJ (fl x.wid) x.wid (A8 x.wid sh) now).st now->a9=CJ (fl x.wid) x.wid (A8 x.wid sh) now)->
     cs (0,()) T:=λ{T es a' b' c'} dj bQ dk dm aY ba fr bR=>by
    have bR:=bR _ rfl;have bb:=dj;generalize eg:CJ (fl x.wid) x.wid (A8 x.wid sh) now=b at*
    obtain⟨fv,aY,rfl⟩:=aY;refine ct _ _ (ae.no rfl (Hl.mk _ (V9 aY) ?_));have eh:=Af aY
    let M:Nat->Prop:=λc=>O c\/c=h.size\/c=al.size\/c=aW.size
    have cz: ∀c,gF b.st a' b' c' c->aW.size<c:=λc d=>fr c (by
     rcases d with⟨_,h⟩|⟨_,h⟩|⟨_,h⟩
     ·exact .inl h
     ·exact .inr (.inl h)
     ·exact .inr (.inr h))
    have ei:=bu.size;have cB: ∀c,O c->c<h.size:=λc d=>(ac.out d).1
    have dn:LW B g T s a N sh (l.set i y) mp (λc=>M c\/gF b.st a' b' c' c):=by
     rw[cZ];refine ac.own bQ.mod λc d=>?_
     rcases d with(h|h|h|h)|h
     ·exact .inl h
     ·exact .inr (by omega)
     ·exact .inr (by omega)
     ·exact .inr (by omega)
     ·exact .inr ⟨by have:=cz c h;omega,ba.lt h⟩
    refine sG (O:=M) (now:=now) dn ci ba (λc d Q=>?_) λaD bc z cC aO Y=>⟨_,rfl,?_⟩
    ·have:=cz c d;rcases Q with h|h|h|h
     ·have:=cB c h;omega
     ·omega
     ·omega
     ·omega
    rw[bR] at aO;have bS: ∀ {c:Nat} {w:aa} {o:Obj},w[c]? =some o-> ∀ {S:aa},M c->Mod (bO g M) w S->S[c]? =some o:=λ{c w o} bT {S} Q m=>m.af bT λbU=>bU.2 Q
    have cD:M h.size:= .inr (.inl rfl);have bd:M al.size:= .inr (.inr (.inl rfl));have aP:=Y.af dk λh=>h
    have dq:=Y.af dm λh=>h
    have dr: ∀e∈b.more,Ed e=true/\e.data.size<1099511627776:=λe J=>by rw[bL] at J;cases J
    refine AC.mk (n:=x.kind) (AL aP rfl) (ah.mk λcE ds=>?_);have bV: ∀ {L:aa} {z':Nat->Nat} {gb:eK} {C:Hs} (num:Nat),CW B g L s a (N+1) sh l i C mp M bc z' gb (DC x p b num)->y.dq C->Mod (bO g M) aD L->cE () L:=λ{L z' gb C} num aQ U bW=>by
     have G:=zi (num:=num) af dr aX;have dt:=zr G bL;have bX:=G.aq;rw[bM] at bX;have nx:=G.st.next;have du:=bS aP cD bW;have dv:=bS dq bd bW;refine ds _ _ (APH aQ nx λaE aF=>EJ.mk (dA 0 (Dc (DC x p b num)).1 (Dc (DC x p b num)).2) ⟨rfl,ak.mk λdw _ dx bY ej=>aK.mk dx (A0 9) λbZ ao dy ek=>?_⟩);rw[Vj] at ao;have be:Ext L bZ:=(aF.trans bY).more dy λc d=>by subst d;exact aF.size
     have bf:=aF.size;have el:=Af ao
     let aG:Nat->Prop:=λc=>M c\/c=aE.size
     have dz:CW B g bZ s a (N+1) sh l i C mp aG bc z' gb (DC x p b num):=aQ.wider (O':=aG) be.mod λc d=>d.imp id λh=>by omega
     have cF:0<=(Dc (DC x p b num)).1/\(Dc (DC x p b num)).1<=4:=G.st.st;have cG:0<=(Dc (DC x p b num)).2/\(Dc (DC x p b num)).2<=502:=by unfold Dc;dsimp only;split<;>omega
     have b0:=GX (n:=(Dc (DC x p b num)).1.toNat) (by omega);have en:=GX (n:=(Dc (DC x p b num)).2.toNat) (by omega);have eo:=AV (n:=(Ki x p).length) (by omega);have ep:(BR (Ki x p)).length<=2010:=by unfold BR;rw[A1];omega
     refine AJ.mk (n:=x.aX) (AB (be.af du λh=>h) rfl) (sA (by omega) ⟨_,rfl,QG (l:=Ki x p) (by omega) λeq cH=>⟨_,rfl,?_⟩⟩);have b1:=cH.af ao λh=>h
     refine AC.mk (n:=(Dc (DC x p b num)).1) (AB b1 rfl) ⟨AB ao rfl,AB ao rfl,?_⟩;rw[Nh (by omega) (by omega)];refine CS (by omega) λer cI=>⟨_,rfl,⟨by rw[AP,AP,max_i64];omega,?_⟩⟩
     rw[Ak];have dB:=cI.af b1 λh=>h
     refine AC.mk (n:=(Dc (DC x p b num)).2) (AB dB rfl) ⟨AB b1 rfl,AB ao rfl,AB ao rfl,?_⟩;rw[Nh (by omega) (by omega)];refine CS (by omega) λet dC=>⟨_,rfl,⟨by rw[AP,AP,A1,max_i64];omega,?_⟩⟩
     rw[Ak,A4];have bg:=(cH.trans cI).trans dC;have dD:=dz.on bg;refine AMD (key:=MQ x.aX) (val:=iP (Ki x p) (Dc (DC x p b num)).1.toNat (Dc (DC x p b num)).2.toNat) dD (by rw[G.conds,cv];decide) (by simp at bX;omega) λb2 eu ev cJ b3=>⟨rfl,?_⟩
     have bh: ∀ {c:Nat} {w:aa} {o:Obj},w[c]? =some o-> ∀ {S:aa},aG c->Mod (bO g aG) w S->S[c]? =some o:=λ{c w o} bT {S} Q m=>m.af bT λbU=>bU.2 Q
     have cK:aG aE.size:= .inr rfl;have dF:=bh (bg.af ao λh=>h) cK b3;have dG:=bh (bg.af (be.af dv λh=>h) λh=>h) (.inl bd) b3;have dH:ny (DC x p b num) (MQ x.aX) (iP (Ki x p) (Dc (DC x p b num)).1.toNat (Dc (DC x p b num)).2.toNat)=FU x p b num:=rfl;rw[dH] at cJ;have ap:(FU x p b num).conds= [⟨MQ x.aX,⟨#[]⟩,true⟩]:=by show(DC x p b num).conds++_=_;rw[G.conds,cv];rfl
     have aZ:(FU x p b num).ao=A8 x.wid sh:=G.ao.trans cw;have b4:(FU x p b num).wid=x.wid:=G.wid.trans bP;have ew:(FU x p b num).aq.length<=2:=by show((DC x p b num).aq++ [_]).length<=2;rw[A1,CN];simp at bX;omega
     have b5: ∀ {w:aa},Mod (bO g aG) b2 w->w[al.size]? =some (J2 bI.z.c BB (0,0))/\Mod (bO g O) h w:=λ{w} m=>⟨bh dG (.inl bd) m,by
      have bi:Mod (bO g O) h aD:=(bQ.trans Y).mod;have dI:Mod (bO g O) aD L:=bW.ai λc _ d=>bO.less d λc Q=> .inl Q
      have dJ:Mod (bO g O) bZ b2:=bg.mod.trans (b3.ai λc _ d=>bO.less d λc Q=> .inl (.inl Q));have dK:Mod (bO g O) b2 w:=m.ai λc _ d=>bO.less d λc Q=> .inl (.inl Q)
      exact(((bi.trans dI).trans be.mod).trans dJ).trans dK⟩
     have b6: ∀ {w S:aa} {bi cL:Nat} {b0:List Hs} {cM:List Pr},LW B g w s bi cL sh b0 cM aG->Mod (· =al.size) w S->LW B g S s bi cL sh b0 cM O:=λdL m=>dL.own (m.ai λc _ d=>by subst d;exact .inl bd) λc d=> .inl (.inl (.inl d))
     have b7: ∀ {w S:aa},Mod (bO g O) h w->Mod (· =al.size) w S->Mod (bO g O) h S:=λm bv=>m.trans (bv.ai λc _ d=>by
      subst d;have:=ac.ext.size;exact⟨by omega,λQ=>by have:=cB _ Q;omega⟩)
     have dp: ∀ {Z:Hs},C.dB Z->y.dp Z:=λ{Z} W=>⟨W.p.trans U.p,W.name.trans U.name,W.f.trans U.f,λm=>by have:=U.u m;have:=W.u m;omega⟩
     have dM:FD (FU x p b num).ao (C.f (FU x p b num).ao) C.name=FD (A8 x.wid sh) (y.f (A8 x.wid sh)) y.name:=by rw[aZ,U.f,U.name]
     have dN:bq (FU x p b num)=bq b:=by show bq (DC x p b num)=_;unfold bq;rw[G.bW,G.cq,G.kept,G.wid]
     have dO:Bd mp (bq (FU x p b num))=true:=by
      rw[dN];refine rT aj (by rw[bP];exact ax) ?_;rw[bP];unfold oV at aN;split at aN
      ·rename_i E;first|exact aN|(rw[E];exact aN)
      ·rename_i E;first|exact aN|(rw[E];exact aN)
     have cN:Du (FU x p b num).st (500+1):=G.st;have cO: ∀e∈(FU x p b num).more,Ed e=true/\e.data.size<1099511627776:=G.ok;refine sL cW cJ cN (by omega) (by rw[b4];exact ax) cO (by rw[aZ];omega) (by rw[aZ,U.f];exact ce _) (by have:=U.u (FU x p b num).ao;have:=cf (FU x p b num).ao;omega) (by omega) hA cX cY (by show(DC x p b num).more.length<=_;omega) (by omega) (by rw[ap];simp) (λH k=>by
       rw[ap] at k;rw[List.mem_singleton.1 k];show(MQ x.aX).size<=_;rw[UC];omega) (by show 0<=(DC x p b num).cq/\(DC x p b num).cq<128;rw[G.cq];omega) (by show 0<=(DC x p b num).bW/\(DC x p b num).bW<=501;rw[G.bW];exact di) (by show -_<=(DC x p b num).now/\(DC x p b num).now<=_;rw[G.now,cx];omega)
      (λdP=>absurd dP (by rw[aZ,U.f];exact cp)) (λu v Z b8 W J aH aI=>⟨_,rfl,?_⟩) (λu v Z b8 W J aC aH aI=>⟨_,rfl,?_⟩) (λu v Z b8 W J aC hd aH aI=>?_) (λu v Z b8 W J aC hd aH aI=>⟨_,rfl,?_⟩)
     ·obtain⟨aR,aS⟩:=b5 aI;refine ae.yes (by simpa using J) (TF (x:=dA (Az (FU x p b num) u v).err 0 0) aR λa0 aq=>?_);exact c0 a0 Z num u v bb (dp W) J (b6 aH aq) (b7 aS aq)
     ·obtain⟨aR,aS⟩:=b5 aI;rw[dM] at aC;refine ae.yes rfl (TF (x:=dA 170 0 0) aR λa0 aq=>?_);rw[aZ] at aH;exact c1 a0 Z bb (dp W) aC (b6 aH aq) (b7 aS aq)
     all_goals
      have X:=TI (n:=500+1) cO cN u v;have b9:(Az (FU x p b num) u v).beside (some (x.aX,(Ki x p,(Dc (DC x p b num)).1,(Dc (DC x p b num)).2))):=by have vc:=(se J).2;have:=X.st.next;refine Wx (yZ (x:=(Ki x p,(Dc (DC x p b num)).1,(Dc (DC x p b num)).2)) (zl bM) aV cF ?_ dl) u v;have dQ:(Dc (FU x p b num)).2=(Dc (DC x p b num)).2:=rfl;rw[dQ] at vc;exact⟨cG.1,by show(Dc (DC x p b num)).2<=501;omega⟩
      have mem:XM x.aX (Ki x p,(Dc (DC x p b num)).1,(Dc (DC x p b num)).2)∈(Az (FU x p b num) u v).aq:=za (IS _ (by simp[XM])) u v
     ·exfalso;refine hd (rW (by rw[X.wid,b4];exact ax) X.ok X.st b9 ?_ (λh=>?_) ?_ λc d=>?_)
      ·have aR:=X.more;have aS:=X.aq;have ex:(FU x p b num).more.length<=1:=dt;omega
      ·rw[V0] at h;rw[h.2] at mem;cases mem
      ·rw[ap];simp
      ·rw[ap] at d;rcases List.mem_cons.1 d with rfl|d
       ·exact aC
       ·rcases List.mem_append.1 d with d|d
        ·rw[List.mem_singleton.1 d];exact ze aj aV bB
        ·rw[List.mem_singleton.1 d];exact dO
     ·obtain⟨aR,aS⟩:=b5 aI;obtain⟨bj,bk⟩:=se J;have bj:(Az (FU x p b num) u v).st.status=(Dc (DC x p b num)).1:=bj;have bk:(Az (FU x p b num) u v).st.next=(Dc (DC x p b num)).2:=bk;have dR:=bh dF cK aI;refine ae.no rfl (FZ.mk (dA 0 (Dc (DC x p b num)).1 (Dc (DC x p b num)).2) (WP dR) (TF aR λa0 aq=>?_));rw[<- bj,<-bk];have cP:(Az (FU x p b num) u v).fits ((fl x.wid).getD []):=rQ (zk dg);have bm:(Az (FU x p b num) u v).wid=x.wid:=X.wid.trans b4;have cQ:(fl x.wid).getD []++(Az (FU x p b num) u v).more≠ []:=by
       intro h;rw[V0] at h;have bn:x.kind=1:=by
        cases E:fl x.wid with
        |some l=>
         rw[E] at h;exact absurd h.1 (aj.dX _ _ E).ne
        |none=>
         rw[E] at q;rw[bb] at q;by_cases bn:x.kind=1
         ·exact bn
         ·have q:(none:Option (Int×Int×Int))=if x.kind=1 then none else some (180,0,0):=q;rw[if_neg bn] at q;cases q
       have ar:(FU x p b num).err=0:=zn (sd J);have ar:(DC x p b num).err=0:=ar;refine X.none (λag=>?_) h.2;have ag:(DC x p b num).more= []:=ag;unfold DC at ag ar;rw[if_pos bn] at ag ar;split at ag
       ·rename_i ca;rw[if_pos ca] at ar;rw[(Ik _ _ _ _).2,(oU (WI ar)).1] at ag;simp at ag
       ·rename_i ca;rw[if_neg ca] at ar;rw[(oU ar).1] at ag;simp at ag
      have a1:=aj.done ac.sorted (D:=Az (FU x p b num) u v) (o:=some (x.aX,(Ki x p,(Dc (DC x p b num)).1,(Dc (DC x p b num)).2))) (by rw[bm];exact ax) (by rw[bm];exact cP) (by rw[bm];exact cQ) X.st b9 (λr ey dS=>by
       cases dS;have:=X.st.next;exact⟨mem,aV,cF,⟨cG.1,by show(Dc (DC x p b num)).2<=501;omega⟩,dl⟩)
      rw[bm] at a1;have a1:Jl _ _ (dE an x.aX (Ki x p,(Dc (DC x p b num)).1,(Dc (DC x p b num)).2)):=a1;rw[<- bj,<-bk] at a1;exact c2 a0 Z num u v _ rfl bb (dp W) J (b6 aH aq) a1 (YH cP cQ X.st).2 (Zv ac.sorted b9) (b7 aS aq)
    have dT:CW B g aD s a (N+1) sh l i y mp M bc z cC b:=aO.put (by omega) (by omega) (by omega);have bo: ∀ {L z' gb} (e:Ev) (D:br),D=EN b e->CW B g L s a N sh l i y mp M bc z' gb D->Mod (bO g M) aD L->(∀ num,DC x p b num=D)->cE () L:=λ{L z' gb} e D ez aQ aT d=>bV (z':=z') (gb:=gb) 0 (by rw[d];exact aQ.put (by omega) (by omega) (by omega)) (Hs.dq.refl y) aT
    have cR:(⟨#[]⟩:A2O).size<1099511627776:=by decide
    have bp:b.more.length<1000:=by rw[bL];decide
    refine ae.intro (λj=>?_) (λj=>?_)
    ·have j:x.kind=1:=by simpa using j
     refine AY.mk (s:=x.steps) (AB aP rfl) (AC.mk (n:=x.aA) (Bl (by exact aP) rfl) ?_);rw[a2];refine sD (V.ext (bQ.trans Y)) len λL bs=>?_
     have aQ:=aO.on bs;unfold Wm;rw[bx j];have eA:=QU (bx j);refine⟨_,_,rfl,Xz (e:=dh 1 (AX (CP p))) aQ aX (by omega) (by show(AX (CP p)).size<_;rw[AP];omega) bp λaE bf aF au aJ=>⟨rfl,?_⟩⟩;have cb:Mod (bO g M) aD aE:=bs.mod.trans aJ;have cT:=bS aP cD cb;refine AC.mk (n:=x.aA) (Bl (by exact cT) rfl) ?_;rw[a2];refine ae.intro (λk=>?_) (λk=>?_)
     ·have k:0<p.aA:=by simpa using k
      have eB:=(Zw (bx j)).2.1;refine AC.mk (n:=x.aA) (Bl (by exact cT) rfl) ?_;rw[a2,wrap_i64 (by omega) (by omega)];have dU:(EN b (dh 1 (AX (CP p)))).ao=A8 x.wid sh:=(YQ _ _).2.1.trans cw;refine sI (t:=⟨6,⟨#[]⟩,0,0⟩) au (by rw[dU];omega) (ce _) (by have:=cf (EN b (dh 1 (AX (CP p)))).ao;omega) (by omega) (by omega) (by rw[rR,bM];decide) (by omega) λdw dV bY C num dW U dX=>⟨rfl,?_⟩
      refine bV (z':=dV) (gb:=bY) num ?_ U (cb.trans dX);have ap:DC x p b num=Fe (EN b (dh 1 (AX (CP p)))) ⟨6,0,0⟩ (if(0:Int)>now+p.aA then 0 else now+p.aA) num:=by unfold DC rY;rw[if_pos j,if_pos k,cx]
      rw[ap];exact dW
     ·have k: ¬0<p.aA:=by simpa using k
      exact bo (dh 1 (AX (CP p))) _ rfl au cb λnum=>by unfold DC;rw[if_pos j,if_neg k]
    have j:x.kind≠1:=by simpa using j
    refine ae.intro (λab=>?_) (λab=>?_)
    ·have ab:x.kind=2:=by simpa using ab
     refine AJ.mk (n:=x.name) (AB aP rfl) (Xz (e:=dh 12 x.name) aO aX (by omega) (by have:=FY (c7 ab);show x.name.size<_;omega) bp λaE bf aF au aJ=>⟨rfl,?_⟩);exact bo (dh 12 x.name) _ rfl au aJ λnum=>by unfold DC;rw[if_neg j,if_pos ab]
    have ab:x.kind≠2:=by simpa using ab
    refine ae.intro (λav=>?_) (λav=>?_)
    ·have av:x.kind=3:=by simpa using av
     have dY:=Y.af aY λh=>h
     refine Ab.mk (n:=b.st.cancel) (Bl (by exact dY) rfl) (ae.intro (λd=>?_) (λd=>?_))
     ·have d: ¬b.st.cancel=true:=by simpa using d
      refine Xz (e:=dh 13 ⟨#[]⟩) aO aX (by omega) cR bp λaE bf aF au aJ=>⟨rfl,?_⟩
      exact bo (dh 13 ⟨#[]⟩) _ rfl au aJ λnum=>by unfold DC;rw[if_neg j,if_neg ab,if_pos av,if_neg d]
     ·have d:b.st.cancel=true:=by simpa using d
      refine bV (z':=z) (gb:=cC) 0 ?_ (Hs.dq.refl y) Mod.refl;have ap:DC x p b 0=b:=by unfold DC;rw[if_neg j,if_neg ab,if_pos av,if_pos d]
      rw[ap];exact dT
    have av:x.kind≠3:=by simpa using av
    refine ae.yes (by simp;omega) (Xz (e:=dh 18 ⟨#[]⟩) aO aX (by omega) cR bp λaE bf aF au aJ=>⟨rfl,?_⟩);exact bo (dh 18 ⟨#[]⟩) _ rfl au aJ λnum=>by unfold DC;rw[if_neg j,if_neg ab,if_neg av]
   refine AC.mk (n:=x.kind) (AL a8 rfl) ?_;cases E:fl x.wid with
   |none=>
    rw[E] at q az;refine ae.intro (λj=>?_) (λj=>?_)
    ·have j:x.kind=1:=by simpa using j
     have q:Kh fl an (y.f (A8 x.wid sh)) x p=if x.kind=1 then none else some (180,0,0):=q;rw[if_pos j] at q;refine ae.no rfl (ae.yes rfl (cy (es:=gX) (a':=gX) (b':=gX) (c':=gX) q (ad.trans aA) a8 (aA.af a4 λh=>h) ⟨_,az,by rw[E];rfl⟩ ?_ (λc d=>by simp[Sl.af] at d) (λa9 cc=>by rw[cc,E];rfl)));rw[E];exact⟨View.nil,View.nil,View.nil⟩
    ·have j:x.kind≠1:=by simpa using j
     have q:Kh fl an (y.f (A8 x.wid sh)) x p=if x.kind=1 then none else some (180,0,0):=q;rw[if_neg j] at q;exact ah.mk λdZ cd=>ae.no rfl (cd _ _ (ae.no rfl (ae.no rfl (bK 180 (by decide) q))))
   |some bt=>
    rw[E] at q az;have q:Kh fl an (y.f (A8 x.wid sh)) x p=if x.kind=1 then some (181,0,0) else if(Bj bt).status≠0 then some (182,0,0) else none:=q;refine ae.intro (λj=>?_) (λj=>?_)
    ·have j:x.kind=1:=by simpa using j
     rw[if_pos j] at q;exact ae.yes rfl (bK 181 (by decide) q)
    have j:x.kind≠1:=by simpa using j
    rw[if_neg j] at q;refine ah.mk λdZ cd=>ae.yes rfl (AC.mk (n:=(Bj bt).status) (Cg (by exact az) rfl) (cd _ _ (ae.intro (λH=>?_) (λH=>?_))))
    ·have H:(Bj bt).status≠0:=by simpa using H
     rw[if_pos H] at q;exact bK 182 (by decide) q
    have H:(Bj bt).status=0:=by simpa using H
    rw[if_neg (by simp[H])] at q;have d0:=ac.on (ad.trans aA);refine ae.yes rfl (AJ.mk (n:=x.wid) (AB a8 rfl) (oS d0 ai aj ax E λaD es a' b' c' Y eC ba fr eD=>Mf.mk _ ⟨_,rfl,aK.mk (Y.af az λh=>h) (A0 18) λL cU aT eE=>?_⟩));rw[VU] at cU;have eF:=cr.size;have eG:=Af az;have bs:Ext h L:=((ad.trans aA).trans Y).more aT λc d=>by subst d;have:=ad.size;omega
    refine cy q bs (aT.af (Y.af a8 λh=>h) (by have:=ad.size;omega)) (aT.af (Y.af (aA.af a4 λh=>h) λh=>h) (by omega)) ⟨_,cU,by rw[E];rfl⟩ ?_ (λc d=>by have:=fr c d;omega) (λa9 cc=>by rw[cc,E];rfl);rw[E];exact ba.fresh aT fr λc d=>by subst d;omega
 refine AC.mk (n:=x.kind) (AL am rfl) (ae.intro (λH=>cl true ?_) (λH=>AC.mk (n:=x.kind) (AL am rfl) (cl _ ?_)))
 ·have H:x.kind<1:=by simpa using H
  simp[H]
 ·have H: ¬x.kind<1:=by simpa using H
  simp[H]
end
section
variable {x x' : bN} {p p' : cA}
end
section
variable {A : al} {h : aa} {R : A2N}
end
def gD:cI:=⟨32000,0,1600,by decide,by decide,by decide⟩
structure EW (g h:aa) (s k sh:Nat) (l:List Hs) (mp:List Pr) (fl:dd) (an:du) (O:Nat->Prop):Prop where
 w:LW gD g h s k (3*k) sh l mp O
 m:Jl mp fl an
 all: ∀y∈l,∀n,y.u n<=3*k/\y.f n<=k
def Yb(mp:List Pr)(y:Hs)(a:Nat):Prop:=y.f a≠0/\Bd mp (FD a (y.f a) y.name)=true
def Vk(fl:dd)(an:du)(f:Nat)(x:bN)(p:cA)(j:Int)(b st nx:Int)(m:dd)(n:du):Prop:=
 (m=fl/\n=an/\(Kh fl an 1 x p=some (b,st,nx)\/(Kh fl an 1 x p=none/\b≠0/\st=0/\nx=0/\ ∃c d e,b=(Az (FU x p (CJ (fl x.wid) x.wid f j) c) d e).err)))\/
 (Kh fl an 1 x p=none/\b=0/\ ∃c d e a,a=Az (FU x p (CJ (fl x.wid) x.wid f j) c) d e/\a.err=0/\m=dE fl x.wid ((fl x.wid).getD []++a.more)/\n=dE an x.aX (Ki x p,a.st.status,a.st.next)/\st=a.st.status/\nx=a.st.next/\Bj ((fl x.wid).getD []++a.more)=a.st)
theorem zu {fl:dd}{an:du}{k:Nat}{x:bN}{p:cA}(h:k≠0):Kh fl an k x p=Kh fl an 1 x p:=by unfold Kh;rw[if_neg h,if_neg (show ¬(1:Nat)=0 by decide)]
theorem si {l:List Hs}{i:Nat}{b:Hs}{Q:Hs->Prop}(h: ∀y∈l,Q y)(c:Q b): ∀y∈l.set i b,Q y:=λy d=>by
 rcases Vc d with a|a
 ·exact h y a
 ·rw[a];exact c
section
variable {A : al} {g h : aa} {s k sh : Nat} {l : List Hs} {mp : List Pr} {O : Nat -> Prop} {i : Nat} {y : Hs} {fl : dd} {an : du} {R : A2N}
theorem EW.own {a:aa}{O':Nat->Prop}(b:EW g h s k sh l mp fl an O)(d:Mod O h a)(e: ∀c,O' c->O c\/(h.size<=c/\c<a.size)):EW g a s k sh l mp fl an O':=⟨b.w.own d e,b.m,b.all⟩
theorem EW.on {b:aa}(a:EW g h s k sh l mp fl an O)(x:Ext h b):EW g b s k sh l mp fl an O:=⟨a.w.on x,a.m,a.all⟩
theorem EW.desc {wid:A2O}(a:EW g h s k sh l mp fl an O)(c:l[i]? =some y)
  (d: ∀b,Ext h b->R (WJ fl wid).v b):AA A P IL #[Ay y.p,J7 wid] h R:=yT a.w c a.m d
theorem EW.dz {x:bN}{p:cA}{N:J0}{n:Int}(S:cm g)(e:EW g h s k sh l mp fl an O)(o:l[i]? =some y)(ad:k+1<=490)(G:Yb mp y (A8 x.wid sh))(V:View QS h x.steps p.steps)(T:x.aA=p.aA)(len:p.steps.length<=1099511627776)(U: -4611686018427300000<=n/\n<=4611686018427300000)
  (v: ∀c b H I J q st nx,EW g c s (k+1) sh (l.set i b) H I J O->b.p=y.p->b.f=y.f->b.name=y.name->(∀ a r K,Bd H (FD a r K)=Bd mp (FD a r K))->Mod (bO g O) h c->Vk fl an (A8 x.wid sh) x p n q st nx I J->R (dA q st nx).v c):
  AA A P Ao #[Ay y.p,N,J6 J9 n,x.v] h R:=by
 have w:=AK o;have ae:gD.C=32000:=rfl;have hA:gD.A=1600:=rfl;have W:=(List.getElem?_eq_some_iff.1 o).1;have cZ:l.set i y=l:=by rw[<- (List.getElem?_eq_some_iff.1 o).2];exact Pa W
 have B:=zu (fl:=fl) (an:=an) (x:=x) (p:=p) G.1;have j: ∀ {b:Hs},y.dp b-> ∀z∈l.set i b,∀a,z.u a<=3*(k+1)/\z.f a<=k+1:=λ{b} j=>si (Q:=λz=> ∀a,z.u a<=3*(k+1)/\z.f a<=k+1) (λz X a=>by have:=e.all z X a;omega) λa=>by
  have:=e.all y w a;have:=j.u a;rw[j.f];omega
 refine zt S e.w o e.m V T len U (λa=>by have:=(e.all y w a).2;omega) (λa=>by have:=(e.all y w a).1;omega) (by omega) (by omega) (by omega) (by omega)
  (λc q st nx f L=>?_) (λc b C D E f d F t u=>?_) (λc b f d M t u=>?_) λc b C D E Y Z f d F t aa ab ac u=>?_
 ·rw[B] at f;refine v c y mp fl an q st nx ⟨?_,e.m,j ⟨rfl,rfl,rfl,λm=>by omega⟩⟩ rfl rfl rfl (λ_ _ _=>rfl) L.mod (.inl ⟨rfl,rfl,.inl f⟩);rw[cZ];exact(e.w.on L).put (by omega) (by omega) (by omega) (by omega)
 ·rw[B] at f;exact v c b mp fl an _ 0 0 ⟨t.put (by omega) (by omega) (by omega) (by omega),e.m,j d⟩ d.p d.f d.name (λ_ _ _=>rfl) u (.inl ⟨rfl,rfl,.inr ⟨f,F,rfl,rfl,C,D,E,rfl⟩⟩)
 ·rw[G.2] at M;cases M
 ·rw[B] at f;exact v c b _ _ _ 0 _ _ ⟨t.put (by omega) (by omega) (by omega) (by omega),aa,j d⟩ d.p d.f d.name ac u (.inr ⟨f,rfl,C,D,E,Y,Z,F,rfl,rfl,rfl,rfl,ab⟩)
end
abbrev oW:A2O:=⟨#[104,111,115,116,48]⟩
structure jM (mp:List Pr) (y:Hs) (sh:Nat):Prop where
 has: ∀n,n<sh->y.f n=1/\Fp mp n 1 y.name
 ia: ∀n,sh<=n->y.f n=0/\(n<256->Fp mp n 0 ⟨#[]⟩)
theorem jM.owns {mp:List Pr}{y:Hs}{sh a:Nat}(b:jM mp y sh)(c:a<sh):Yb mp y a:=by obtain⟨d,e⟩:=b.has a c;refine⟨by omega,?_⟩;rw[d];exact e.holds (A0 _)
section
variable {A : al} {g h : aa} {s k sh : Nat} {y : Hs} {mp : List Pr} {O : Nat -> Prop} {R : A2N}
theorem LW.slt {b:cI}{a N:Nat}{l:List Hs}(c:LW b g h s a N sh l mp O):s<h.size:=by obtain⟨e,k,st,m,f,nn,d,_⟩:=c;exact d.lt
theorem zw {a:Nat}(t:cm g)(c:EW g h s a sh [y] mp (λ_=>none) (λ_=>none) O)(u:a<sh)(G:sh<=16)(e:jM mp y a)(v:Ap y.name=true)
  (w: ∀b q,EW g b s (a+1) sh [y.lQ a 1] q (λ_=>none) (λ_=>none) O->jM q (y.lQ a 1) (a+1)->Mod (bO g O) h b->R (J1 #[J6 J9 1,J6 J9 0]) b):
  AA A P Ej #[Ay y.p,J6 J9 (a:Int)] h R:=by
 have H:gD.C=32000:=rfl;have hA:gD.A=1600:=rfl;have d:=c.w.sorted;refine c.w.acquire (i:=0) (x:=y) (r:=0) (nm:=⟨#[]⟩) t rfl u ((e.ia a (A0 _)).2 (by omega)) (by decide) (by omega) (by omega) (by omega) (by omega) λb B C=>?_
 refine w b _ ⟨B.put (A0 _) (by omega) (by omega) (by omega),c.m.aY d (λp D=>?_),λz E m=>?_⟩ ⟨λm F=>?_,λm F=>?_⟩ C
 ·rw[List.mem_singleton.1 D];show CY (CL a)≠104/\CY (CL a)≠119/\CY (CL a)≠114;rw[rX];decide
 ·rw[List.mem_singleton.1 E];have:=c.all y (by simp) m;show dD y.u a 0 m<=_/\dD y.f a 1 m<=_;unfold dD;constructor<;>split<;>omega
 ·show dD y.f a 1 m=1/\_;unfold dD;by_cases f:m=a
  ·subst f;rw[if_pos rfl];exact⟨rfl,Fp.laid d (by decide) (by decide) v⟩
  ·rw[if_neg f];obtain⟨j,n⟩:=e.has m (by omega);exact⟨j,n.other d λo=>f (xp (by omega) (by omega) o).symm⟩
 ·show dD y.f a 1 m=0/\_;unfold dD;rw[if_neg (by omega)];obtain⟨j,n⟩:=e.ia m (by omega);exact⟨j,λh=>(n h).other d λo=>by have:=xp (by omega) h o;omega⟩
theorem Zl(n:cm g)(x:Ext g h)(C: ∀e s y mp,EW g e s 4 4 [y] mp (λ_=>none) (λ_=>none) (λ_=>False)->jM mp y 4->Ext g e->h.size<=e.size->R (J1 #[Ay s,Ay y.p,J3 true]) e):AA A P F3 #[] h R:=by
 refine Rt ?_;unfold Ld;refine yz λb V Sb D o E=>⟨_,rfl,?_⟩
 have W:=x.size;have X:=o.size;refine LW.start (B:=gD) (sh:=4) n D (x.trans o) (λc F=>by have:=E c F;omega) rfl rfl (λa=>rfl) (λa=>rfl) (λx G=>absurd rfl G) (by decide) (by decide) λY s p Z aa=>⟨_,_,rfl,?_⟩
 refine p.host (name:=oW) (by decide) (by decide) λH q I J r L=>⟨_,_,rfl,?_⟩
 have ab:=Af (r.dG (i:=0) rfl).1;refine Loop.rule (λt x f=> ∃(a:Nat) (y:Hs) (mp:List Pr),x=((a:Int),())/\t=4-a/\a<=4/\EW g f s a 4 [y] mp (λ_=>none) (λ_=>none) (λ_=>False)/\jM mp y a/\y.p=q/\y.name=oW/\H.size<=f.size) ?_
  ⟨0,⟨q,I,J,oW,λ_=>0,λ_=>0⟩,[],rfl,rfl,by omega,⟨r,Jl.empty,λz u m=>by rw[List.mem_singleton.1 u];exact⟨A0 _,A0 _⟩⟩,⟨λa M=>by omega,λa _=>⟨rfl,λ_=>Fp.empty⟩⟩,rfl,rfl,A0 _⟩
 rintro K t _ f ⟨a,y,mp,rfl,rfl,M,j,v,rfl,w,u⟩ N;dsimp only;refine ae.intro (λd=>?_) (λd=>?_)
 ·have d:a<4:=by have:=of_decide_eq_true d;omega
  refine zw n j d (by decide) v (by rw[w];decide) λac Q S T U=>⟨_,_,rfl,ae.no rfl ?_⟩
  rw[Aa (by omega)];exact N (4-(a+1)) _ _ (by omega) ⟨a+1,_,Q,rfl,rfl,d,S,T,rfl,w,by have:=U.size;omega⟩
 ·have d:a=4:=by have:=of_decide_eq_false d;omega
  subst d;have ad:=p.slt;have af:=L.size;exact ae.yes rfl (C f s y mp j v j.w.ext (by omega))
end
theorem sj {id tick k:Int}(a:1<=id/\id<=500)(b:0<=tick/\tick<=1099511627776)(c:k=2\/k=13\/k=18):Ed ⟨id,k,tick,0,0,0,false,⟨#[]⟩⟩=true:=by have d:bU id 1 500=true:=BX.2 a;have e:bU tick 0 1099511627776=true:=BX.2 b;have f:bU k 1 18=true:=BX.2 (by omega);unfold Ed EQ KG;rw[d,e,f];rcases c with rfl|rfl|rfl<;>rfl
theorem sk {id tick:Int}{data:A2O}(a:1<=id/\id<=500)(b:0<=tick/\tick<=1099511627776)(c:Ap data=true):Ed ⟨id,12,tick,0,0,0,false,data⟩=true:=by
 have d:bU id 1 500=true:=BX.2 a;have e:bU tick 0 1099511627776=true:=BX.2 b;unfold Ed EQ KG;dsimp only;rw[d,e,c];have:dP 12=true:=by decide
 rw[this,HG];rfl
theorem zx {id tick:Int}{p:cA}(a:1<=id/\id<=500)(b:0<=tick/\tick<=1099511627776)(c:Fb p=true):Ed ⟨id,1,tick,0,0,0,false,AX (CP p)⟩=true:=by
 have d:bU id 1 500=true:=BX.2 a;have e:bU tick 0 1099511627776=true:=BX.2 b;unfold Ed EQ KG;dsimp only;rw[d,e,EE,tV c];have:dP 1=true:=by decide
 rw[this,HG];rfl
theorem oX {a:Int}{wid:A2O}{b:Int}(c:1<=a/\a<=7)(d:Ap wid=true)(e:0<=b/\b<=500):Ju ⟨a,b,0⟩ wid=true:=by unfold Ju;rw[BX.2 c,d,BX.2 e];rfl
theorem Yf {a:br}{t:gP}{tick:Int}{c:Nat}(b:a.err=0)(d:Ju t a.wid=true):(Fe a t tick c).err=0:=by unfold Fe;rw[if_neg (by simp[b]),if_neg (by simp[d])];exact b
theorem zy {a:br}(b:FE a=true):a.more≠ []/\a.st.status=0/\a.st.fresh=true/\a.st.asked=0/\a.st.taken=0:=by unfold FE at b;simpa [and_assoc] using b
theorem zz {a:br}(d:a.err=0)(e:FE a=true)(m:2<=a.st.next/\a.st.next<=500)(f:0<=a.now/\a.now<=1099511627776):
  EN a WH= {a with st:= {a.st with asked:=a.st.next,next:=a.st.next+1},more:=a.more++ [⟨a.st.next,2,a.now,0,0,0,false,⟨#[]⟩⟩]}:=by
 obtain⟨g,h,i,j,l⟩:=zy e;have b:CQ a WH=⟨a.st.next,2,a.now,0,0,0,false,⟨#[]⟩⟩:=by unfold CQ;rw[if_neg (by omega)];rfl
 have ok:=sj (id:=a.st.next) (tick:=a.now) (k:=2) (by omega) f (.inl rfl);have c:Bc a.st (CQ a WH)=(0,{a.st with asked:=a.st.next,next:=a.st.next+1}):=by rw[b];unfold Bc;rw[if_neg (by simp[ok]),if_neg (by omega),if_neg (by simp[h]),if_neg (by simp)];unfold Nz Df;rw[if_pos (show(2:Int)<=2/\(2:Int)<=5 by decide),if_pos rfl,if_pos ⟨j,l,i⟩];rfl
 rw[nz d (.inl g) (by rw[c]),c,b]
theorem zA {a:br}{n1:Nat}(c:a.err=0)(e:2<=a.st.next/\a.st.next<=500)(f:0<=a.now/\a.now<=1099511627776)(g:Ap a.wid=true):(Em a n1).err=0/\(Em a n1).wid=a.wid/\(Em a n1).now=a.now/\(Em a n1).st=(if FE a=true then {a.st with asked:=a.st.next,next:=a.st.next+1} else a.st)/\(Em a n1).more=(if FE a=true then a.more++ [⟨a.st.next,2,a.now,0,0,0,false,⟨#[]⟩⟩] else a.more):=by
 unfold Em;split
 ·rename_i h;have b:=zz c h e f;have i:jY (EN a WH)=a.st.next:=by rw[b];show a.st.next+1-1=_;omega
  have d:Ju ⟨1,jY (EN a WH),0⟩ (EN a WH).wid=true:=by rw[i,b];exact oX (by decide) g (by omega)
  refine⟨Yf (by rw[b];exact c) d,?_,?_,?_,?_⟩
  ·unfold Fe;rw[if_neg (by rw[b];simp[c]),if_neg (by simp[d]),b]
  ·unfold Fe;rw[if_neg (by rw[b];simp[c]),if_neg (by simp[d]),b]
  ·rw[(Ik _ _ _ _).1,b]
  ·rw[(Ik _ _ _ _).2,b]
 ·exact⟨c,rfl,rfl,rfl,rfl⟩
theorem QV {a:br}{n1 n2:Nat}(f:a.err=0)(g:2<=a.st.next/\a.st.next<=500)(h:0<=a.now/\a.now<=1099511627776)(b:Ap a.wid=true):(Az a n1 n2).err=0/\(Az a n1 n2).st=(if FE a=true then {a.st with asked:=a.st.next,next:=a.st.next+1} else a.st)/\(Az a n1 n2).more=(if FE a=true then a.more++ [⟨a.st.next,2,a.now,0,0,0,false,⟨#[]⟩⟩] else a.more):=by
 obtain⟨c,i,j,d,e⟩:=zA (n1:=n1) f g h b;unfold Az;split
 ·refine⟨Yf c (by rw[i];exact oX (by decide) b (by decide)),?_,?_⟩
  ·rw[(Ik _ _ _ _).1,d]
  ·rw[(Ik _ _ _ _).2,e]
 ·exact⟨c,d,e⟩
theorem zB {x:bN}{p:cA}{n n0:Nat}{a:Int}(k:x.kind=1)(d:Fb p=true)(l:Ap x.wid=true)(r:0<=a/\a<=1099511611776):
  (DC x p (CJ none x.wid n a) n0).err=0/\(DC x p (CJ none x.wid n a) n0).st=⟨p,0,2,a,0,0,true,[],[],false,false⟩/\(DC x p (CJ none x.wid n a) n0).more= [⟨1,1,a,0,0,0,false,AX (CP p)⟩]/\(DC x p (CJ none x.wid n a) n0).wid=x.wid/\(DC x p (CJ none x.wid n a) n0).now=a:=by
 have ok:=zx (id:=1) (tick:=a) (p:=p) (by decide) (by omega) d;have f:(CJ none x.wid n a).err=0:=by show(if a<0\/1099511611776<a then(1:Int) else 0)=0;rw[if_neg (by omega)]
 have g:CQ (CJ none x.wid n a) (dh 1 (AX (CP p)))=⟨1,1,a,0,0,0,false,AX (CP p)⟩:=rfl;have h:Bc (CJ none x.wid n a).st (CQ (CJ none x.wid n a) (dh 1 (AX (CP p))))=(0,⟨p,0,2,a,0,0,true,[],[],false,false⟩):=by rw[g];unfold Bc;rw[if_neg (by simp[ok]),if_pos (show(CJ none x.wid n a).st.next=0 from rfl),if_pos ⟨rfl,rfl⟩];unfold Vp;dsimp only;rw[EE,tV d];rfl
 have i:=nz f (e:=dh 1 (AX (CP p))) (.inr (.inl (by show(0:Int)<=497;decide))) (by rw[h]);rw[h,g] at i;have base:(EN (CJ none x.wid n a) (dh 1 (AX (CP p)))).err=0/\(EN (CJ none x.wid n a) (dh 1 (AX (CP p)))).st=⟨p,0,2,a,0,0,true,[],[],false,false⟩/\(EN (CJ none x.wid n a) (dh 1 (AX (CP p)))).more= [⟨1,1,a,0,0,0,false,AX (CP p)⟩]/\(EN (CJ none x.wid n a) (dh 1 (AX (CP p)))).wid=x.wid/\(EN (CJ none x.wid n a) (dh 1 (AX (CP p)))).now=a:=by rw[i];exact⟨f,rfl,rfl,rfl,rfl⟩
 unfold DC;rw[if_pos k];split
 ·obtain⟨b,m,o,j,q⟩:=base;have c:Ju ⟨6,0,0⟩ (EN (CJ none x.wid n a) (dh 1 (AX (CP p)))).wid=true:=by rw[j];exact oX (by decide) l (by decide)
  refine⟨Yf b c,by rw[(Ik _ _ _ _).1,m],by rw[(Ik _ _ _ _).2,o],?_,?_⟩
  ·unfold Fe;rw[if_neg (by simp[b]),if_neg (by simp[c])];exact j
  ·unfold Fe;rw[if_neg (by simp[b]),if_neg (by simp[c])];exact q
 ·exact base
theorem sq {x:bN}{p:cA}{n n0 n1 n2:Nat}{a:Int}(h:x.kind=1)(i:Fb p=true)(c:Ap x.wid=true)(j:0<=a/\a<=1099511611776):
  (Az (FU x p (CJ none x.wid n a) n0) n1 n2).err=0/\(Az (FU x p (CJ none x.wid n a) n0) n1 n2).st=⟨p,0,3,a,2,0,true,[],[],false,false⟩/\(Az (FU x p (CJ none x.wid n a) n0) n1 n2).more= [⟨1,1,a,0,0,0,false,AX (CP p)⟩,⟨2,2,a,0,0,0,false,⟨#[]⟩⟩]:=by
 obtain⟨k,l,m,o,q⟩:=zB (n:=n) (n0:=n0) h i c j;have r:(FU x p (CJ none x.wid n a) n0).err=0:=k;have b:(FU x p (CJ none x.wid n a) n0).st=⟨p,0,2,a,0,0,true,[],[],false,false⟩:=l;have d:(FU x p (CJ none x.wid n a) n0).more= [⟨1,1,a,0,0,0,false,AX (CP p)⟩]:=m;have s:(FU x p (CJ none x.wid n a) n0).wid=x.wid:=o;have e:(FU x p (CJ none x.wid n a) n0).now=a:=q;obtain⟨t,f,g⟩:=QV (n1:=n1) (n2:=n2) r (by rw[b];exact⟨(by decide:(2:Int)<=2),(by decide:(2:Int)<=500)⟩) (by rw[e];omega) (by rw[s];exact c);have u:FE (FU x p (CJ none x.wid n a) n0)=true:=by unfold FE;rw[b,d];rfl
 rw[u,if_pos rfl] at f g;refine⟨t,?_,?_⟩
 ·rw[f,b];show(⟨p,0,2+1,a,2,0,true,[],[],false,false⟩:ba)=_;rfl
 ·rw[g,b,d,e];rfl
structure ASA (h:aa) (x:bN) (p:cA):Prop where
 V:View QS h x.steps p.steps
 lim:x.aA=p.aA
 len:p.steps.length<=1099511627776
 sz: ∀y∈p.steps,y.name.size<=1099511627776/\y.aL.size<=1099511627776
 name:x.name.size<=1099511627776
 wid:x.wid.size<=1099511627776
 aX:x.aX.size<=1099511627776
theorem oY {h:aa}{b:Nat}{T:Q7}{fr:Nat×Nat}{x:bN}(a:h[b]? =some (J2 x.c T fr)):Cells h ⟨b,0,none⟩ x.l:=Dj a rfl
theorem zC(x a:bN):Ye a.c 0 x.l=x.c:=rfl
theorem zD {h:aa}{x:bN}{K:Nat->aa->Prop}(i: ∀a,a[h.size]? =some (J2 x.c GD (0,0))->Ext h a->K h.size a):ak h (J2 bN.z.c GD) λb e=>aK e ⟨b,0,none⟩ x.l λd=>K b d:=
 ak.mk λe _ j k n=>aK.mk j (A0 12) λd f l o=>i d (by rw[zC] at f;exact f) (k.more l λc m=>by subst m;exact A0 _)
theorem mD {h:aa}{x:bI}{K:Nat->aa->Prop}(i: ∀a,a[h.size]? =some (J2 x.c BB (0,0))->Ext h a->K h.size a):ak h (J2 bI.z.c BB) λb e=>aK e ⟨b,0,none⟩ x.l λd=>K b d:=
 ak.mk λe _ j k n=>aK.mk j (A0 9) λd f l o=>i d (by rw[Vj] at f;exact f) (k.more l λc m=>by subst m;exact A0 _)
theorem EW.new {g h a:aa}{s b d:Nat}{l:List Hs}{e:List Pr}{f:dd}{i:du}{j:Nat->Prop}(k:EW g h s b d l e f i j)(x:Ext h a)(n:h.size<a.size):EW g a s b d l e f i (λc=>j c\/c=h.size):=
 k.own (x.ai λ_ _ h=>h.elim) λc m=>m.imp id λh=>by omega
theorem EW.less {g h:aa}{s b d:Nat}{l:List Hs}{e:List Pr}{f:dd}{i:du}{j O':Nat->Prop}(a:EW g h s b d l e f i j)(k: ∀c,O' c->j c):EW g h s b d l e f i O':=⟨a.w.less k,a.m,a.all⟩
theorem bO.aY {g h a:aa}{b:Nat->Prop}{c:Nat}{d:Obj}(m:Mod (bO g b) h a)(e:h[c]? =some d)(f:b c):a[c]? =some d:=m.af e λi=>i.2 f
abbrev Ot:bP:=⟨1,⟨#[97]⟩,⟨#[]⟩,1,0,0⟩
abbrev gg(sl:Sl)(a:A2O):bN:=⟨1,a,⟨#[119]⟩,⟨#[]⟩,sl,0,gX,0,0,0,0,false⟩
theorem zE {fl:dd}{b:du}{x:bN}{p:cA}{a:List UInt8×Int×Int}(e:1<=x.kind/\x.kind<=4)(c:OP x p=0)(d:b x.aX=some a):Kh fl b 1 x p=if a.1≠Ki x p then some (184,0,0) else some (0,a.2.1,a.2.2):=by unfold Kh;rw[if_neg (by omega),if_neg (by simp[c]),if_neg (by decide),d]
theorem Wq {fl:dd}{an:du}{x:bN}{p:cA}(c:1<=x.kind/\x.kind<=4)(a:OP x p=0)(b:an x.aX=none):Kh fl an 1 x p=(match fl x.wid with
   |none=>if x.kind=1 then none else some (180,0,0)
   |some l=>if x.kind=1 then some (181,0,0) else if(Bj l).status≠0 then some (182,0,0) else none):=by
 unfold Kh;rw[if_neg (by omega),if_neg (by simp[a]),if_neg (by decide),b]
 try rfl
theorem Vk.early {b e:dd}{c f:du}{m:Nat}{x:bN}{p:cA}{n i st nx j k l:Int}(o:Vk b c m x p n i st nx e f)(d:Kh b c 1 x p=some (j,k,l)):e=b/\f=c/\i=j/\st=k/\nx=l:=by
 rcases o with⟨q,r,a|⟨a,_⟩⟩|⟨a,_⟩
 ·rw[d] at a;cases a;exact⟨q,r,rfl,rfl,rfl⟩
 ·rw[d] at a;cases a
 ·rw[d] at a;cases a
theorem Vk.start {c k:dd}{d l:du}{n:Nat}{x:bN}{p:cA}{a m st nx:Int}(D:Vk c d n x p a m st nx k l)(b:x.kind=1)(o:OP x p=0)(E:d x.aX=none)(f:c x.wid=none)(q:0<=a/\a<=1099511611776):
  m=0/\st=0/\nx=3/\k=dE c x.wid [⟨1,1,a,0,0,0,false,AX (CP p)⟩,⟨2,2,a,0,0,0,false,⟨#[]⟩⟩]/\l=dE d x.aX (Ki x p,0,3)/\Bj [⟨1,1,a,0,0,0,false,AX (CP p)⟩,⟨2,2,a,0,0,0,false,⟨#[]⟩⟩]=⟨p,0,3,a,2,0,true,[],[],false,false⟩:=by
 obtain⟨r,H,s,I⟩:=kT o;have F:Kh c d 1 x p=none:=by rw[Wq (by omega) o E,f];show(if x.kind=1 then none else some (180,0,0))=none;rw[if_pos b]
 rcases D with⟨_,_,t|⟨_,i,_,_,n0,n1,n2,u⟩⟩|⟨_,i,n0,n1,n2,J,v,K,j,w,y,z,e⟩
 ·rw[F] at t;cases t
 ·exfalso;rw[f] at u;exact i (u.trans (sq b (r b) s q).1)
 ·rw[f] at v j e;obtain⟨G,B,C⟩:=sq (n:=n) (n0:=n0) (n1:=n1) (n2:=n2) b (r b) s q;rw[<- v] at G B C;rw[Option.getD_none,Ds,C] at j e;rw[B] at w y z e;exact⟨i,y,z,j,w,e⟩
section
variable {A : al} {g h : aa} {R : A2N}
theorem zF(E:cm g)(x:Ext g h)(ah: ∀v,Ext g v->h.size<=v.size->R (J3 true) v):AA A P JN #[] h R:=by
 refine SQ ?_;unfold Mc;refine Zl E x λa s y ai aj K a0 a1=>⟨_,_,_,rfl,?_⟩
 refine ak.mk λo _ al am a2=>?_
 have ao:=aj.new am (by omega);refine zD (x:=gg ⟨some ⟨a.size,0,none⟩,1,1⟩ ⟨#[114]⟩) λap q L=>?_
 have M:=ao.new L (Af q);generalize w:(λc=>((λc=>False\/c=a.size) c\/c=o.size))=z at M;have N:z a.size:=by rw[<- w];exact .inl (.inr rfl)
 have B:z o.size:=by rw[<- w];exact .inr rfl
 clear w;have O:ap[a.size]? =some (J2 Ot.c Bp (0,0)):=L.af al λh=>h
 have view: ∀ {Q:aa},Q[a.size]? =some (J2 Ot.c Bp (0,0))->View QS Q ⟨some ⟨a.size,0,none⟩,1,1⟩ [Ot]:=λaq=>(Own.lit (E:=QS) (l:= [Ot]) aq rfl (by decide)).view
 have C: ∀b:A2O,Ap b=true->OP (gg ⟨some ⟨a.size,0,none⟩,1,1⟩ b) ⟨[Ot],0⟩=0:=λb ar=>by
  unfold OP;rw[if_neg (λh=>by have o:=h.2;exact absurd o (by decide)),if_neg];rintro(h|h|h)
  ·exact absurd h.1 (show ¬(1:Int)=2 by decide)
  ·exact absurd h (show ¬Ap ⟨#[119]⟩=false by decide)
  ·rw[show(gg ⟨some ⟨a.size,0,none⟩,1,1⟩ b).aX=b from rfl,ar] at h;cases h
 refine Ud.mk _ (oY q) ?_;have S:=Qk (⟨#[119]⟩:A2O) (n:=4) (by decide);refine M.dz (i:=0) (x:=gg ⟨some ⟨a.size,0,none⟩,1,1⟩ ⟨#[114]⟩) (p:=⟨[Ot],0⟩) E rfl (by decide) (K.owns S) (view O) rfl (by decide) (by decide) λau av a3 a4 a5 a6 a7 a8 aw ax T U V D ay=>EJ.mk _ ⟨rfl,?_⟩
 obtain⟨rfl,rfl,rfl,rfl,rfl,-⟩:=ay.start rfl (C _ (by decide)) rfl rfl (by decide);refine mD (x:=dA 0 0 3) λa9 F G=>?_
 have az:=aw.new G (Af F);have W: ∀ {X:List Pr} {H:Hs},H.f=y.f->H.name=y.name->(∀ n r d,Bd X (FD n r d)=Bd ai (FD n r d))->Yb X H (A8 (⟨#[119]⟩:A2O) 4):=λaA aC aD=>by
  have:=K.owns S;unfold Yb at this ⊢;rw[aA,aC,aD];exact this
 have Y:=G.af (bO.aY D O N) λh=>h
 have Z:=G.af (bO.aY D q B) λh=>h
 rw[<- ax];refine Ud.mk _ (oY Z) ?_;refine az.dz (i:=0) (y:=av) (x:=gg ⟨some ⟨a.size,0,none⟩,1,1⟩ ⟨#[114]⟩) (p:=⟨[Ot],0⟩) E rfl (by decide) (W T U V) (view Y) rfl (by decide) (by decide) λaE aF ba bb bc bd be bf aG aH aI aJ aK t aL=>EJ.mk _ ⟨rfl,?_⟩
 have ac:=zE (fl:=dE (λ_=>none) (gg ⟨some ⟨a.size,0,none⟩,1,1⟩ ⟨#[114]⟩).wid [⟨1,1,0,0,0,0,false,AX (CP ⟨[Ot],0⟩)⟩,⟨2,2,0,0,0,0,false,⟨#[]⟩⟩]) (show(1:Int)<=1/\(1:Int)<=4 by decide) (C ⟨#[114]⟩ (by decide)) (Gl (f:=λ_=>none) (k:=⟨#[114]⟩) (x:=(Ki (gg ⟨some ⟨a.size,0,none⟩,1,1⟩ ⟨#[114]⟩) ⟨[Ot],0⟩,(0:Int),(3:Int))));rw[if_neg (by simp)] at ac;obtain⟨rfl,rfl,rfl,rfl,rfl⟩:=aL.early ac;refine mD (x:=dA 0 0 3) λbg ad e=>?_
 have aM:=aG.new e (Af ad);have aN:=e.af (bO.aY t Y (.inl N)) λh=>h
 have aO:=e.af (bO.aY t Z (.inl B)) λh=>h
 have aP:=e.af (bO.aY t F (.inr rfl)) λh=>h
 refine ab.bL (dR:=(gg ⟨some ⟨a.size,0,none⟩,1,1⟩ ⟨#[115]⟩).c) aO (of_decide_eq_true rfl) rfl λbh aQ j bi=>?_
 have aR:=aM.own (O':=λc=>(z c\/c=au.size)\/c=aE.size) (j.ai λc _ I=>by subst I;exact .inl (.inl B)) λc I=> .inl I
 have bj:=Af q;have bk:=D.size;have bm:=t.size;have bn:=Af F;have aS:=j.af aN (by omega);have aT:=j.af aP (by omega);have aU:=j.af ad (by omega);rw[<- aH];refine Ud.mk _ (oY aQ) ?_;refine aR.dz (i:=0) (y:=aF) (x:=gg ⟨some ⟨a.size,0,none⟩,1,1⟩ ⟨#[115]⟩) (p:=⟨[Ot],0⟩) E rfl (by decide) (W (aI.trans T) (aJ.trans U) λn r d=>(aK n r d).trans (V n r d)) (view aS) rfl (by decide) (by decide) λbo bp bq br bs bt bu bv aV bw bx bz bA J aW=>EJ.mk _ ⟨rfl,?_⟩
 have m:=Wq (fl:=dE (λ_=>none) (gg ⟨some ⟨a.size,0,none⟩,1,1⟩ ⟨#[114]⟩).wid [⟨1,1,0,0,0,0,false,AX (CP ⟨[Ot],0⟩)⟩,⟨2,2,0,0,0,0,false,⟨#[]⟩⟩]) (an:=dE (λ_=>none) ⟨#[114]⟩ (Ki (gg ⟨some ⟨a.size,0,none⟩,1,1⟩ ⟨#[114]⟩) ⟨[Ot],0⟩,(0:Int),(3:Int))) (x:=gg ⟨some ⟨a.size,0,none⟩,1,1⟩ ⟨#[115]⟩) (show(1:Int)<=1/\(1:Int)<=4 by decide) (C ⟨#[115]⟩ (by decide)) (QL (show(⟨#[115]⟩:A2O)≠⟨#[114]⟩ by decide));rw[Gl] at m;have m:_=if(1:Int)=1 then some ((181:Int),(0:Int),(0:Int)) else _:=m;rw[if_pos rfl] at m;obtain⟨rfl,rfl,rfl,rfl,rfl⟩:=aW.early m;refine mD (x:=dA 181 0 0) λaX aY u=>?_
 have af:=u.af (bO.aY J aT (.inl (.inr rfl))) λh=>h
 have ag:=u.af (bO.aY J aU (.inr rfl)) λh=>h
 refine ae.yes rfl (AC.mk (n:=0) (AL af rfl) (ae.yes rfl (AC.mk (n:=3) (AB af rfl) (ae.yes rfl (AC.mk (n:=0) (AL ag rfl) (ae.yes rfl (AC.mk (n:=3) (AB ag rfl) (ae.yes rfl (AC.mk (n:=181) (AL aY rfl) ?_)))))))));have aZ:=aV.on u;have bB:=e.size;have bC:=j.size;have bD:=J.size;have bE:=u.size;exact ah aX aZ.w.ext (by omega)
end
section
variable {A : al} {g h : aa} {s k N sh i : Nat} {l : List Hs} {mp : List Pr} {O : Nat -> Prop} {y : Hs} {fl : dd} {an : du} {R : A2N} {cb : Nat} {z : Nat -> Nat} {x : eK} {C : br}
structure sr (mp:List Pr) (fl:dd) (C:br):Prop where
 wid:Ap C.wid=true
 fits:C.fits ((fl C.wid).getD [])
 more:C.more≠ []
 st:Du C.st 500
 ok: ∀e∈C.more,Ed e=true/\e.data.size<1099511627776
 len:C.more.length+C.aq.length<=50/\C.conds.length<=50
 keys: ∀p∈C.conds,p.key.size<=1099511627776
 base:oV C (fl C.wid)
 cq:0<=C.cq/\C.cq<=4
 bW:0<=C.bW/\C.bW<=501
 now:0<=C.now/\C.now<=1099511627776
 next:2<=C.st.next/\C.st.next<=500
 err:C.err=0
 bes:C.beside none
theorem EW.j3 {k':Nat}(ac:cm g)(S:CW gD g h s k N sh l i y mp O cb z x C)(F:Jl mp fl an)(ad: ∀j∈l,∀n,j.u n<=3*k/\j.f n<=k)(G: ∀n,y.u n+2<=3*k'/\y.f n<=k)(ay:k+1<=k')(az:N+2<=3*k')(aA:k'<=490)(H:Yb mp y C.ao)(ae:C.ao<256)(L:sr mp fl C)
  (af:(∀ c∈C.conds,Bd mp c=true)-> ∀f d a b D,D=Az C a b->EW g f s k' sh (l.set i d) (cS mp (EI D++D.aq)) (dE fl C.wid ((fl C.wid).getD []++D.more)) an O->d.p=y.p->d.f=y.f->d.name=y.name->
   (∀ n r T,Bd (cS mp (EI D++D.aq)) (FD n r T)=Bd mp (FD n r T))->Bj ((fl C.wid).getD []++D.more)=D.st->Mod (bO g O) h f->R (J6 J9 0) f)
  (ag: ¬(∀ c∈C.conds,Bd mp c=true)-> ∀f d,EW g f s k' sh (l.set i d) mp fl an O->d.p=y.p->d.f=y.f->d.name=y.name->Mod (bO g O) h f->R (J6 J9 100) f):
  AA A P DW #[Ay cb] h R:=by
 have aC:gD.C=32000:=rfl;have hA:gD.A=1600:=rfl;have U:=S.w.sorted;obtain⟨q,ah,ai,V,W,aD,aj,ak,aE,al,am,ao,ap,aq⟩:=L;have ar: ∀a b,(Az C a b).err=0:=λa b=>(QV ap ao am q).1
 have t: ∀ {d:Hs},y.dB d-> ∀j∈l.set i d,∀n,j.u n<=3*k'/\j.f n<=k':=λ{d} t=>si (Q:=λj=> ∀n,j.u n<=3*k'/\j.f n<=k') (λj I n=>by have:=ad j I n;omega) λn=>by
  have:=G n;have:=t.u n;rw[t.f];omega
 refine sL ac S V (by omega) q W ae (by have:=G C.ao;omega) (by have:=G C.ao;omega) (by omega) (by omega) (by omega) (by omega) (by omega) (by omega) (by omega) aj (by omega) al (by omega)
  (λau=>absurd au H.1) (λa b d f n v=>absurd (ar a b) v) (λa b d f n v w=>by rw[H.2] at w;cases w) (λa b d f n _ w hd J K=>?_) λa b d f n _ w hd J K=>?_
 all_goals
  have e:=TI (n:=500) W V a b;have B:=Wx aq a b;have aF:=e.more;have aG:=e.aq;have X:=e.none ai;have Y:EI (Az C a b)++(Az C a b).aq≠ []:=λh=>by
   unfold EI at h;rw[if_neg X] at h;simp at h
  have av:Bd mp (bq C)=true:=rT F q ak
 ·have E: ¬(∀ c∈C.conds,Bd mp c=true):=λu=>hd (rW (by rw[e.wid];exact q) e.ok e.st B (by omega) Y (by simp;omega) λc m=>by
   rcases List.mem_cons.1 m with rfl|m
   ·exact H.2
   ·rcases List.mem_append.1 m with m|m
    ·exact u c m
    ·rw[List.mem_singleton.1 m];exact av)
  have v:EK (EI (Az C a b)++(Az C a b).aq)=0:=rP Y (by have:=rV (Az C a b);rw[A1];omega) λp aw=>by
   rcases List.mem_append.1 aw with h|h
   ·exact rU (by rw[e.wid];exact q) e.ok e.st p h
   ·exact B.ok p h
  have ax:dy mp (FD C.ao (y.f C.ao) y.name::(C.conds++ [bq C])) (EI (Az C a b)++(Az C a b).aq)=100:=by unfold dy;rw[if_neg (by simp;omega),if_neg (by rw[v];decide),if_neg λM=>E λc u=>List.all_eq_true.1 M c (by simp[u])]
  rw[ax];exact ag E f d ⟨J.put (by omega) (by omega) (by omega) (by omega),F,t n⟩ n.p n.f n.name K
 ·have E: ∀c∈C.conds,Bd mp c=true:=λc u=>by
   unfold dy at hd;split at hd
   ·cases hd
   ·split at hd
    ·rename_i h;exact absurd hd h
    ·split at hd
     ·rename_i M;exact List.all_eq_true.1 M c (by simp[u])
     ·cases hd
  have Z:(Az C a b).fits ((fl C.wid).getD []):=rQ ah;have aa:(fl C.wid).getD []++(Az C a b).more≠ []:=λh=>X (List.append_eq_nil_iff.1 h).2
  have ab:=F.done U (D:=Az C a b) (o:=none) (by rw[e.wid];exact q) (by rw[e.wid];exact Z) (by rw[e.wid];exact aa) e.st B (λr j I=>by cases I);rw[e.wid] at ab;exact af E f d a b _ rfl ⟨J.put (by omega) (by omega) (by omega) (by omega),ab,t n⟩ n.p n.f n.name (Zv U B) (YH Z aa e.st).2 K
end
def cz(a:Nat):ba:=⟨⟨[],0⟩,0,3+(a:Int),0,2,0,true,[],[],false,false⟩
abbrev lq:Ev:=⟨0,12,0,0,0,0,false,⟨#[120]⟩⟩
theorem tJ {a:Nat}(h:a<=498):Du (cz a) 0:=⟨A0 _,A0 _,As _,(by decide:(0:Int)<=0/\(0:Int)<=16000),(by decide:(0:Int)<=0/\(0:Int)<=1099511627776),(by omega:0<=3+(a:Int)/\3+(a:Int)<=501),(by decide:(0:Int)<=0/\(0:Int)<=4),λx b=>by cases b⟩
theorem APS {C:br}{a:Nat}(e:C.err=0)(b:C.st=cz a)(f:C.now=0)(i:C.more≠ []\/a<=494)(j:a<=497):
  EN C lq= {C with st:=cz (a+1),more:=C.more++ [⟨3+(a:Int),12,0,0,0,0,false,⟨#[120]⟩⟩]}:=by
 have c:CQ C lq=⟨3+(a:Int),12,0,0,0,0,false,⟨#[120]⟩⟩:=by unfold CQ;rw[b,f,if_neg (by show ¬(1:Int)>3+(a:Int);omega)];rfl
 have ok:=sk (id:=3+(a:Int)) (tick:=0) (data:=⟨#[120]⟩) (by omega) (by decide) (by decide);have d:Bc C.st (CQ C lq)=(0,cz (a+1)):=by rw[c,b];unfold Bc;rw[if_neg (by simp[ok]),if_neg (by show ¬3+(a:Int)=0;omega),if_neg (by simp[cz]),if_neg (by simp[cz])];unfold Nz JS;rw[if_neg (by simp),if_neg (by simp),if_neg (by simp),if_pos rfl];show((0:Int),({cz a with fresh:=true,next:=3+(a:Int)+1}:ba))=_;simp only[cz,N2,true_and,ba.mk.injEq,and_true];omega
 rw[nz e (i.imp id λh=> .inl (by rw[b];show 3+(a:Int)<=497;omega)) (by rw[d]),d,c]
def lr(sn d:Nat)(e a b c:Sl):ck:=⟨⟨#[119]⟩,(sn:Int),⟨0,3+(d:Int),false⟩,e,(cz d).V a b c⟩
section
variable {A : al} {g h : aa} {s sn : Nat} {O : Nat -> Prop} {fl : dd} {an : du} {R : A2N}
structure TD (g h:aa) (s bb p k n:Nat) (y:Hs) (mp:List Pr) (fl:dd) (an:du) (ev:List Ev):Prop where
 w:EW g h s n 4 [y] mp fl an (· =bb)
 hp:y.p=p
 ow:Yb mp y (A8 (⟨#[119]⟩:A2O) 4)
 fl:fl ⟨#[119]⟩=some ev
 st:Bj ev=cz k
 var: ∃es a b c,h[bb]? =some (J2 (lr (A8 (⟨#[119]⟩:A2O) 4) k es a b c).c Bg (0,0))/\Ia h (cz k) a b c
theorem Yb.same {d e:List Pr}{b c:Hs}{a:Nat}(f:Yb d b a)(j:c.f=b.f)(k:c.name=b.name)(l: ∀a r i,Bd e (FD a r i)=Bd d (FD a r i)):Yb e c a:=by unfold Yb at f ⊢;rw[j,k,l];exact f
theorem ALq {q p d n m:Nat}{t:Hs}{H:List Pr}{u:List Ev}{K:aa->Prop}(aR:cm g)(aS:TD g h s q p d n t H fl an u)(bn:d<=494)(bo:n<=480)(bp:m=min 30 (495-d))
  (aT: ∀W X aU aV aW,TD g W s q p (d+m) (n+1) X aU aV an aW->h.size<=W.size->K W):
  Hl h (⟨q,0,none⟩:Q6) λaX=>
   AA A P Ih #[Ay p,aX.v,J6 J9 0] h λaY I=> ∃Y:Q2,aY=J5 Y/\(
   AC J9 I (((⟨q,0,none⟩:Q6).add 6).add 3) λal=>
   Loop (λam (ao:Int×Unit) ap=>
    ae (decide (ao.1<(if((J8 J9 ((498:Int)-al)):Int)<30 then(J8 J9 ((498:Int)-al)) else 30))) (
     AA A P Cc #[J5 Y,(⟨0,12,0,0,0,0,false,(⟨#[120]⟩:A2O)⟩:Ev).v] ap λaZ aq=>aZ=J1 #[]/\(
     am ((J8 J9 (ao.1+(1:Int))),()) aq)) (
     AA A P DW #[J5 Y] ap λa0 Z=> ∃ar:Int,a0=J6 J9 ar/\(
     ae (ar != (0:Int)) (
      R (J3 false) Z) (
      AA A P H7 #[Ay p,.nilIface,J7 (⟨#[119]⟩:A2O)] Z λa1 au=>Mf λav=> ∃aw:Int,a1=J1 #[av.v,J6 J9 aw]/\(
      aK au (⟨q,0,none⟩:Q6) av.l λJ=>
      ae (aw != (0:Int)) (
       R (J3 false) J) (
       K J)))))) (0,()) I):=by
 obtain⟨y,rfl,ax,M,ay,a2,a,b,c,az,a3⟩:=aS;have nil: ∀j,¬gF (cz d) a b c j:=λj h=>by rcases h with⟨h,_⟩|⟨h,_⟩|⟨h,_⟩<;>exact h rfl
 refine Hl.mk _ (V9 az) (sG (l:= [t]) (i:=0) (O:=(· =q)) (now:=0) (y.w.less (O':=λj=>j=q\/gF (cz d) a b c j) λj r=>r.elim id λh=>absurd h (nil j)) (by simp) a3 (λj r=>absurd r (nil j)) λI aA z B N ab=>⟨_,rfl,?_⟩);have ac:=ab.af az λh=>h
 refine AC.mk (n:=3+(d:Int)) (Bl (by exact ac) rfl) ?_;have em:(if((J8 J9 ((498:Int)-(3+(d:Int)))):Int)<30 then(J8 J9 ((498:Int)-(3+(d:Int)))) else 30)=(m:Int):=by rw[wrap_i64 (by omega) (by omega)];split<;>omega
 rw[em];have N:CW gD g I s n (3*n) 4 [t] 0 t H (· =q) aA z B {JP ⟨#[119]⟩ (A8 (⟨#[119]⟩:A2O) 4) 0 (3+(d:Int)) false (cz d) 0 with st:=cz (d+0),more:= []}:=N;have aC:=ab.size;refine Loop.rule (λaD x Q=> ∃(f:Nat) (z:Nat->Nat) (B:eK) (L:List Ev),x=((f:Int),())/\aD=m-f/\f<=m/\CW gD g Q s n (3*n) 4 [t] 0 t H (· =q) aA z B {JP ⟨#[119]⟩ (A8 (⟨#[119]⟩:A2O) 4) 0 (3+(d:Int)) false (cz d) 0 with st:=cz (d+f),more:=L}/\
   L.length=f/\(∀ e∈L,Ed e=true/\e.data.size<1099511627776)/\ES Rf (u++L)=some (cz (d+f))/\Q[q]? =some (J2 (lr (A8 (⟨#[119]⟩:A2O) 4) d a2 a b c).c Bg (0,0))/\h.size<=Q.size) ?_
  ⟨0,z,B,[],rfl,rfl,As _,N,rfl,λe ad=>(by cases ad),by rw[AM];exact(y.m.dX _ _ M).ok.trans (congrArg some ay),ac,aC⟩
 clear N ac aC ab;rintro am aD _ Q ⟨f,z,B,L,rfl,rfl,bq,af,D,aE,aF,aG,bs⟩ a4;dsimp only;refine ae.intro (λv=>?_) (λv=>?_)
 ·have ag:f<m:=by have:=of_decide_eq_true v;omega
  refine Xz (n:=0) (e:=lq) af (tJ (by omega)) (by omega) (by decide) (by show L.length<1000;omega) λaq a5 a6 aH aI=>⟨rfl,?_⟩
  have a7:L≠ []\/d+f<=494:=by
   cases L with
   |nil=>right;simp at D;omega
   |cons e L=>left;simp
  have a8:=APS (C:= {JP ⟨#[119]⟩ (A8 (⟨#[119]⟩:A2O) 4) 0 (3+(d:Int)) false (cz d) 0 with st:=cz (d+f),more:=L}) rfl rfl rfl a7 (by omega);have aJ:=OM (l0:=u) (e:=lq) (C:= {JP ⟨#[119]⟩ (A8 (⟨#[119]⟩:A2O) 4) 0 (3+(d:Int)) false (cz d) 0 with st:=cz (d+f),more:=L}) aF;rw[a8] at aH aJ;rw[Aa (by omega)];refine a4 (m-(f+1)) _ _ (by omega) ⟨f+1,a5,a6,_,rfl,rfl,ag,aH,by rw[A1,D];rfl,λe ad=>?_,aJ,aI.af aG λE=>E.2 rfl,by have:=aI.size;omega⟩;rcases List.mem_append.1 ad with h|h
  ·exact aE e h
  ·rw[List.mem_singleton.1 h];exact⟨sk (by omega) (by decide) (by decide),(by decide:(⟨#[120]⟩:A2O).size<1099511627776)⟩
 ·have ag:f=m:=by have:=of_decide_eq_false v;omega
  subst ag;generalize a9:({JP ⟨#[119]⟩ (A8 (⟨#[119]⟩:A2O) 4) 0 (3+(d:Int)) false (cz d) 0 with st:=cz (d+f),more:=L}:br)=C at af;have k:=a9.symm;have sl:=Qk (⟨#[119]⟩:A2O) (n:=4) (by decide);have S:C.wid=⟨#[119]⟩:=by rw[k];rfl
  have aL:C.ao=A8 (⟨#[119]⟩:A2O) 4:=by rw[k];rfl
  have F:C.st=cz (d+f):=by rw[k]
  have T:C.more=L:=by rw[k]
  have U:C.aq= []:=by rw[k];rfl
  have ah:C.conds= []:=by rw[k];rfl
  have ne:L≠ []:=λh=>by rw[h] at D;simp at D;omega
  have G:sr H fl C:= {
   wid:=by rw[S];decide
   fits:=by rw[S,M];unfold br.fits;rw[F,T];exact aF
   more:=by rw[T];exact ne
   st:=by rw[F];exact(tJ (by omega)).up (by omega)
   ok:=by rw[T];exact aE
   len:=by rw[T,U,ah,D];exact⟨(by omega:f+0<=50),by decide⟩
   keys:=λp o=>by rw[ah] at o;cases o
   base:=by rw[S,M];show C.cq=(Bj u).status/\C.bW=(Bj u).next/\C.kept=false/\0<C.bW;rw[ay,k];exact⟨rfl,rfl,rfl,(by omega:0<3+(d:Int))⟩
   cq:=by rw[k];exact(by decide:(0:Int)<=0/\(0:Int)<=4)
   bW:=by rw[k];exact(by omega:0<=3+(d:Int)/\3+(d:Int)<=501)
   now:=by rw[k];exact(by decide:(0:Int)<=0/\(0:Int)<=1099511627776)
   next:=by rw[F];exact(by omega:2<=3+((d+f:Nat):Int)/\3+((d+f:Nat):Int)<=500)
   err:=by rw[k];rfl
   bes:=⟨λp o=>(by rw[U] at o;cases o),λp o=>(by rw[U] at o;cases o),λp o=>(by rw[U] at o;cases o)⟩}
  refine EW.j3 (k':=n+1) aR af y.m y.all (λaM=>by have:=y.all t (by simp) aM;omega) (A0 _) (by omega) (by omega) (by rw[aL];exact ax) (by rw[aL];omega) G (λ_ Z X n1 n2 ai ba V aN bb bc bd w aO=>⟨_,rfl,ae.no rfl ?_⟩) λr=>absurd (λaM v=>by rw[ah] at v;cases v) r
  have aP:=QV (n1:=n1) (n2:=n2) G.err G.next G.now G.wid;have be:FE C=false:=by unfold FE;rw[F];simp[cz]
  rw[be,<-ba] at aP;have bf:ai.st=cz (d+f):=aP.2.1.trans F;rw[bf] at w;rw[S,M] at w V;rw[<- aN];refine oS (i:=0) V.w rfl V.m (by decide) Gl λau bg bh bi j aj bt S' fr bu=>Mf.mk _ ⟨_,rfl,?_⟩
  have w:Bj (u++ai.more)=cz (d+f):=w;have bj:=V.on aj;have bk:=aj.af (aO.af aG λE=>E.2 rfl) λh=>h
  refine aK.mk bk (A0 18) λJ ak aQ bv=>ae.no rfl ?_
  rw[VU] at ak;have bm:Bj ((some u).getD []++ai.more)=cz (d+f):=w;rw[bm] at ak S';have bw:=aO.size;have bx:=aj.size;refine aT J X _ _ _ ⟨bj.own (aQ.ai λc r E=>E) λc r=> .inl r,aN,(show Yb _ _ _ from ax).same bb bc bd,Gl,w,bg,bh,bi,j,ak,S'.cO aQ λj h=>?_⟩ (by omega);rcases h with⟨h,_⟩|⟨h,_⟩|⟨h,_⟩<;>exact absurd rfl h
end
theorem AOr {x:Int}{n:Nat}(h0:0<n)(d:n<=1000): ∃b:Nat,b<n/\(J8 J9 ((x.tmod ((n:Nat):Int))+((n:Nat):Int))).tmod ((n:Nat):Int)=(b:Int):=by have e:x.tmod (n:Int)<n:=Int.tmod_lt_of_pos x (by omega);have f: -(n:Int)<x.tmod n:=Int.lt_tmod_of_pos _ (by omega);rw[wrap_i64 (by omega) (by omega)];obtain⟨a,c⟩: ∃a:Nat,x.tmod (n:Int)+n=(a:Int):=⟨(x.tmod (n:Int)+n).toNat,by omega⟩;rw[c,vU];exact⟨a % n,Cp _ h0,rfl⟩
structure dZ (h0 hc:aa) (ch:UInt8) (s u r:Option Nat):Prop where
 ext:Ext h0 hc
 s: ∀b,s=some b->h0.size<=b/\hc[b]? =some (J2 #[J6 J9 2,J6 J9 3] BQ (0,0))
 u: ∀b,u=some b->h0.size<=b/\hc[b]? =some (J2 #[.int .u8 (ch.toNat:Int)] Co (0,0))
 r: ∀b,r=some b->h0.size<=b/\hc[b]? =some (J2 bI.z.c BB (0,0))
theorem dZ.on {h0 hc e:aa}{ch:UInt8}{s u r:Option Nat}(c:dZ h0 hc ch s u r)(x:Ext hc e):dZ h0 e ch s u r:=
 ⟨c.ext.trans x,λb a=>⟨(c.s b a).1,x.af (c.s b a).2 λd=>d⟩,λb a=>⟨(c.u b a).1,x.af (c.u b a).2 λd=>d⟩,λb a=>⟨(c.r b a).1,x.af (c.r b a).2 λd=>d⟩⟩
section
variable {A : al} {h0 hc : aa} {ch : UInt8} {s u r : Option Nat} {i : Nat}
theorem dZ.cell {b:Nat}(c:dZ h0 hc ch (some b) u r):ag hc ((⟨b,0,none⟩:Q6).add (i % 2))=some (J6 J9 ((2+i % 2:Nat):Int)):=by have d:=(c.s b rfl).2;rcases RC i with a|a<;>rw[a]<;>exact AB d rfl
theorem dZ.o0 {c:Q6->Int->aa->Prop}(d:dZ h0 hc ch none u r)(h: ∀b e,dZ h0 e ch (some b) u r->c ⟨b,0,none⟩ ((2+i % 2:Nat):Int) e):
  ak hc (J2 #[J6 J9 2,J6 J9 3] BQ) λj a=>bC (some (⟨j,0,none⟩:Q6)) 2 ((i % 2:Nat):Int) λf=>AC J9 a (f.add (i % 2)) λt=>c f t a:=
 ak.mk λa _ k l n=>bC.mk rfl (Cp _ (by decide)) (by
  have g:dZ h0 a ch (some hc.size) u r:= {d.on l with s:=λb m=>by cases m;exact⟨d.ext.size,k⟩};exact AC.mk g.cell (h _ _ g))
theorem dZ.od {a:Nat->aa->Prop}(c:dZ h0 hc ch s none r)(e: ∀b d,dZ h0 d ch s (some b) r->a b d):ak hc (J2 #[.int .u8 (ch.toNat:Int)] Co) a:=
 ak.mk λj _ f g k=>e _ _ {c.on g with u:=λb h=>by cases h;exact⟨c.ext.size,f⟩}
theorem dZ.og {a:Nat->aa->Prop}(c:dZ h0 hc ch s u none)(e: ∀b d,dZ h0 d ch s u (some b)->a b d):ak hc (J2 bI.z.c BB) a:=
 ak.mk λj _ f g k=>e _ _ {c.on g with r:=λb h=>by cases h;exact⟨c.ext.size,f⟩}
theorem dZ.conv {b:Nat}{K:A2N}(a:dZ h0 hc ch s (some b) r)(c:K (J7 (AX [ch])) hc):BF A P (convert BU Ar (J4 (some (⟨b,0,none⟩:Q6)) 1 1)) hc K:=
 Jy (s:=⟨some ⟨b,0,none⟩,1,1⟩) YL ka Oc (Own.lit (E:=Gs) (l:= [ch]) (a.u b rfl).2 rfl (by simp[maxLen])).view c
end
theorem ARg {ch:UInt8}{K:Prop}(a:K):aG ((((⟨#[114]⟩:A2O).size+(AX [ch]).size:Nat):Int)<=IntKind.i64.max) K:=⟨by rw[AP];exact(by decide:((1+1:Nat):Int)<=IntKind.i64.max),a⟩
abbrev dM(a:Int)(b c:A2O):bN:=⟨a,b,⟨#[119]⟩,c,⟨none,0,0⟩,0,⟨none,0,0⟩,0,0,0,0,false⟩
abbrev eZ:cA:=⟨[],0⟩
theorem pS {b:Int}{e c:A2O}(g:b=1\/Ap c=true/\b≠1\/b=4)(h:Ap e=true):OP (dM b e c) eZ=0:=by
 unfold OP;rw[if_neg (λa=>by have:=a.2;exact absurd this (by decide)),if_neg];rintro(a|a|a)
 ·have j:b=2:=a.1;have f:Ap c=false:=a.2;rcases g with d|d|d
  ·omega
  ·rw[d.1] at f;cases f
  ·omega
 ·exact absurd a (show ¬Ap ⟨#[119]⟩=false by decide)
 ·rw[h] at a;cases a
theorem APi {b n:dd}{j o:du}{e:Nat}{a:Int}{c:A2O}{d:List Ev}{p st nx:Int}(q:a=2\/a=3)(z:Ap c=true)(B:j c=none)(k:b ⟨#[119]⟩=some d)(l:Bj d=cz 495)
  (C:Vk b j e (dM a c ⟨#[120]⟩) eZ 0 p st nx n o):n=b/\o=j/\p=2/\st=0/\nx=0:=by
 have D:Kh b j 1 (dM a c ⟨#[120]⟩) eZ=none:=by rw[Wq (by show 1<=a/\a<=4;omega) (pS (.inr (.inl ⟨by decide,by omega⟩)) z) B,k];show(if a=1 then some ((181:Int),(0:Int),(0:Int)) else if(Bj d).status≠0 then some (182,0,0) else none)=none;rw[if_neg (by omega),l,if_neg (by simp[cz])]
 have t: ∀f g h,(Az (FU (dM a c ⟨#[120]⟩) eZ (CJ (b ⟨#[119]⟩) ⟨#[119]⟩ e 0) f) g h).err=2:=λf g h=>by
  have E:DC (dM a c ⟨#[120]⟩) eZ (CJ (b ⟨#[119]⟩) ⟨#[119]⟩ e 0) f= {CJ (b ⟨#[119]⟩) ⟨#[119]⟩ e 0 with err:=2}:=by
   rw[k];have v: ∀m w,m≠18->EN (CJ (some d) ⟨#[119]⟩ e 0) (dh m w)= {CJ (some d) ⟨#[119]⟩ e 0 with err:=2}:=λm w q=>by
    unfold EN;rw[if_neg (by show ¬((0:Int)≠0);simp),if_pos ⟨rfl,by show WT (Bj d)=false;rw[l];decide,q⟩]
   unfold DC;rw[if_neg (by show ¬a=1;omega)];split
   ·exact v 12 _ (by decide)
   ·rw[if_pos (by show a=3;rename_i x;have x: ¬a=2:=x;omega),if_neg (by show ¬(Bj d).cancel=true;rw[l];simp[cz])];exact v 13 _ (by decide)
  unfold Az Em FE FU;rw[E,k];rfl
 rcases C with⟨F,G,y|⟨_,_,H,I,f,g,h,J⟩⟩|⟨_,_,f,g,h,L,K,h0,_⟩
 ·rw[D] at y;cases y
 ·exact⟨F,G,J.trans (t f g h),H,I⟩
 ·rw[K] at h0;rw[show(dM a c ⟨#[120]⟩).wid=⟨#[119]⟩ from rfl,t] at h0;cases h0
theorem AMZ {c z:dd}{g B:du}{d:Nat}{f:List Ev}{e st nx:Int}(D:g ⟨#[101,110,100]⟩=none)(o:c ⟨#[119]⟩=some f)(h:Bj f=cz 495)
  (E:Vk c g d (dM 4 ⟨#[101,110,100]⟩ ⟨#[]⟩) eZ 0 e st nx z B):e=0/\st=4/\nx=499:=by
 have F:Kh c g 1 (dM 4 ⟨#[101,110,100]⟩ ⟨#[]⟩) eZ=none:=by rw[Wq (by show(1:Int)<=4/\(4:Int)<=4;decide) (pS (.inr (.inr rfl)) (by decide)) D,o];show(if(4:Int)=1 then some ((181:Int),(0:Int),(0:Int)) else if(Bj f).status≠0 then some (182,0,0) else none)=none;rw[if_neg (by decide),h,if_neg (by simp[cz])]
 let b:=CJ (some f) (⟨#[119]⟩:A2O) d 0
 have G:CQ b (dh 18 ⟨#[]⟩)=⟨498,18,0,0,0,0,false,⟨#[]⟩⟩:=by unfold CQ;rw[show b.st=cz 495 from h];rfl
 have ok:=sj (id:=498) (tick:=0) (k:=18) (by decide) (by decide) (.inr (.inr rfl));have p:Bc b.st (CQ b (dh 18 ⟨#[]⟩))=(0,{Xx (cz 495) 4 with next:=499}):=by rw[G,show b.st=cz 495 from h];unfold Bc;rw[if_neg (by simp[ok])];rfl
 have q:=nz (C:=b) (e:=dh 18 ⟨#[]⟩) rfl (.inr (.inr rfl)) (by rw[p]);rw[p] at q;have t: ∀a n1 n2,(Az (FU (dM 4 ⟨#[101,110,100]⟩ ⟨#[]⟩) eZ (CJ (c ⟨#[119]⟩) ⟨#[119]⟩ d 0) a) n1 n2).err=0/\(Az (FU (dM 4 ⟨#[101,110,100]⟩ ⟨#[]⟩) eZ (CJ (c ⟨#[119]⟩) ⟨#[119]⟩ d 0) a) n1 n2).st= {Xx (cz 495) 4 with next:=499}:=λa n1 n2=>by
  rw[o];have H:DC (dM 4 ⟨#[101,110,100]⟩ ⟨#[]⟩) eZ b a=_:=q;have I: ∀C:br,C=FU (dM 4 ⟨#[101,110,100]⟩ ⟨#[]⟩) eZ b a->C.err=0/\C.st= {Xx (cz 495) 4 with next:=499}/\C.now=0/\C.wid=⟨#[119]⟩:=λC j=>by
   unfold FU at j;rw[H] at j;subst j;exact⟨rfl,rfl,rfl,rfl⟩
  obtain⟨J,l,K,L⟩:=I _ rfl;have v:=QV (n1:=n1) (n2:=n2) J (by rw[l];exact(by decide:(2:Int)<=499/\(499:Int)<=500)) (by rw[K];decide) (by rw[L];decide);refine⟨v.1,v.2.1.trans ?_⟩;have M:FE (FU (dM 4 ⟨#[101,110,100]⟩ ⟨#[]⟩) eZ b a)=false:=by unfold FE;rw[l];simp[Xx]
  rw[M,l];rfl
 rcases E with⟨_,_,w|⟨_,m,_,_,a,n1,n2,N⟩⟩|⟨_,m,a,n1,n2,O,n,h0,_,_,x,y,_⟩
 ·rw[F] at w;cases w
 ·exact absurd (N.trans (t a n1 n2).1) m
 ·have n:O=Az (FU (dM 4 ⟨#[101,110,100]⟩ ⟨#[]⟩) eZ (CJ (c ⟨#[119]⟩) ⟨#[119]⟩ d 0) a) n1 n2:=n;have:=(t a n1 n2).2;rw[<- n] at this;rw[this] at x y;exact⟨m,x,y⟩
section
variable {A : al} {h : aa} {R : A2N}
theorem AM5 {g d b:aa}{s f p k:Nat}{u:Hs}{v:List Pr}{r:dd}{l:du}{B:List Ev}{m:Int}{n:A2O}{w a o c:Sl}{y:A2N}(C:cm g)(D:TD g d s f p 495 k u v r l B)(X:k<=100)(E:m=2\/m=3)(F:Ap n=true)(G:l n=none)(x:Ext d b)
  (H:d[f]? =some (J2 (lr (A8 (⟨#[119]⟩:A2O) 4) 495 w a o c).c Bg (0,0))) (I:Ia d (cz 495) a o c)
  (J: ∀e j q,EW g e s (k+1) 4 [j] q r l (λc=>c=f\/(d.size<=c/\c<b.size))->j.p=p->Yb q j (A8 (⟨#[119]⟩:A2O) 4)->e[f]? =some (J2 (lr (A8 (⟨#[119]⟩:A2O) 4) 495 w a o c).c Bg (0,0))->Ia e (cz 495) a o c->
    Mod (bO g (λc=>c=f\/(d.size<=c/\c<b.size))) b e->y (dA 2 0 0).v e):AA A P Ao #[Ay p,.nilIface,J6 J9 0,(dM m n ⟨#[120]⟩).v] b y:=by
 obtain⟨K,rfl,z,L,M,-⟩:=D;have N:EW g b s k 4 [u] v r l (λc=>c=f\/(d.size<=c/\c<b.size)):=K.own x.mod λc b=>b
 refine N.dz (i:=0) (x:=dM m n ⟨#[120]⟩) (p:=eZ) C rfl (by omega) z View.nil rfl (by decide) (by decide) λe j q Y Z ab st nx O Q S T U t V=>?_
 obtain⟨rfl,rfl,rfl,rfl,rfl⟩:=APi E F G L M V;refine J e j q O Q (z.same S T U) (t.af (x.af H λh=>h) λW=>W.2 (.inl rfl)) ((I.ext x).cO t λac h=>?_) t;rcases h with⟨h,_⟩|⟨h,_⟩|⟨h,_⟩<;>exact absurd rfl h
theorem ADU {more:Int}(N:cm h)(a5: ∀k,Ext h k->R (J3 true) k):AA A P Ja #[J6 J9 more] h R:=by
 refine OU ?_;unfold JV;refine zF N Mod.refl λbV a6 bW=>⟨_,rfl,ae.no rfl ?_⟩
 refine Zl N a6 λaD s bX bY a7 aE ao a8=>⟨_,_,_,rfl,ah.mk λK a9=>ae.no rfl ?_⟩
 have aF:=Qk (⟨#[119]⟩:A2O) (n:=4) (by decide);refine a7.dz (i:=0) (x:=dM 1 ⟨#[115,116,97,114,116]⟩ ⟨#[]⟩) (p:=eZ) N rfl (by decide) (aE.owns aF) View.nil rfl (by decide) (by decide) λap l m q H ac st nx ad ba bb bc bd I aG=>EJ.mk _ ⟨rfl,a9 _ _ ?_⟩
 obtain⟨rfl,rfl,rfl,rfl,rfl,w⟩:=aG.start rfl (pS (.inl rfl) (by decide)) rfl rfl (by decide);refine ae.no rfl ?_;rw[<- ba];refine oS (i:=0) ad.w rfl ad.m (by decide) Gl λbe J a b c aq V F fr bf=>Mf.mk _ ⟨_,rfl,ak.mk λbZ _ aH af bg=>aK.mk aH (A0 18) λar ai au bh=>ae.no rfl ?_⟩
 rw[VU] at ai;generalize aI:be.size=y at*
 have aJ:EW h ar s 5 4 [l] m _ _ (· =y):=(((ad.on aq).new af (by omega)).own (au.ai λc _ d=> .inr (d.trans aI.symm)) λc d=> .inl d).less λc d=> .inr (d.trans aI.symm)
 generalize bi:dE (λ_=>none) (dM 1 ⟨#[115,116,97,114,116]⟩ ⟨#[]⟩).aX _=H at*
 have aL: ∀r,r≠⟨#[115,116,97,114,116]⟩->H r=none:=λr bj=>by rw[<- bi];exact QL bj
 generalize aM:dE (λ_=>none) (dM 1 ⟨#[115,116,97,114,116]⟩ ⟨#[]⟩).wid _=q at*
 generalize bk: [(⟨1,1,0,0,0,0,false,AX (CP eZ)⟩:Ev),⟨2,2,0,0,0,0,false,⟨#[]⟩⟩]=C at*
 have bm:TD h ar s y l.p 0 5 l m q H C:=by
  refine⟨aJ,rfl,(aE.owns aF).same bb bc bd,by rw[<- aM];exact Gl,w,J,a,b,c,?_,?_⟩
  ·rw[w] at ai;exact ai
  ·rw[w] at F;refine(F.ext af).cO au λbn h=>?_
   rcases h with⟨h,_⟩|⟨h,_⟩|⟨h,_⟩<;>exact absurd rfl h
 have b0:aD.size<=ar.size:=by have:=I.size;have:=aq.size;have:=af.size;omega
 clear aJ ai au bh af aH bg V F fr bf aq I w bk aM ad aG;refine Loop.rule (λT x j=> ∃(z n:Nat) (M:Hs) (m:List Pr) (q:dd) (C:List Ev),T=495-z/\z<=495/\n<=22/\(z=495\/z+150=30*n)/\TD h j s y l.p z n M m q H C) ?_
  ⟨0,5,l,m,q,C,rfl,by omega,by omega,.inr rfl,bm⟩
 rintro b1 T _ j ⟨z,n,M,m,q,C,rfl,b2,aN,bo,D⟩ aO;obtain⟨J,a,b,c,G,F⟩:=D.var;refine AC.mk (n:=3+(z:Int)) (Bl (by exact G) rfl) (ae.intro (λO=>?_) (λO=>?_))
 ·have av:z<=494:=by have:=of_decide_eq_true O;omega
  exact ALq N D av (by omega) rfl λk B E bp b3 aw a8=>aO (495-(z+min 30 (495-z))) _ _ (by omega) ⟨_,_,_,_,_,_,rfl,by omega,by omega,by omega,aw⟩
 have av:z=495:=by have:=of_decide_eq_false O;omega
 subst av;refine Av.mk ((cz 495).V a b c) (Dj (o:=6) G rfl) (sF λbq aj=>⟨_,rfl,ae.no rfl ?_⟩);obtain⟨al,b4,aP⟩:=AOr (x:=more) (n:=5) (by decide) (by decide);rw[show((5:Nat):Int)=5 from rfl] at aP;rw[aP];have aQ:TD h bq s y l.p 495 n M m q H C:=⟨D.w.on aj,D.hp,D.ow,D.fl,D.st,J,a,b,c,aj.af G λh=>h,F.ext aj⟩;refine Loop.rule (λT x j=> ∃(i n:Nat) (M:Hs) (m:List Pr),x=((i:Int),())/\T=al-i/\i<=al/\n<=22+i/\TD h j s y l.p 495 n M m q H C) ?_
  ⟨0,n,M,m,rfl,rfl,As _,by omega,aQ⟩
 clear aQ D G F aO aN bo aj;rintro b5 T _ j ⟨i,n,M,m,rfl,rfl,b6,aN,D⟩ br;obtain⟨aR,aS,aT,Q,w,J,a,U,c,G,F⟩:=D;dsimp only;refine ae.intro (λO=>?_) (λO=>?_)
 ·have bs:i<al:=by have:=of_decide_eq_true O;omega
  rw[show((i:Nat):Int).tmod 2=((i % 2:Nat):Int) from vU i 2];obtain⟨f,aU⟩: ∃f:UInt8,f.toNat=97+i:=⟨UInt8.ofNat (97+i),by rw[UInt8.toNat_ofNat'];omega⟩;have bt:J8 .u8 (J8 J9 ((97:Int)+(i:Int)))=(f.toNat:Int):=by rw[show(97:Int)+(i:Int)=((97+i:Nat):Int) from by omega,F5 (by omega),wrap_u8,aU];omega
  rw[bt];simp only[A6,Bk];refine ah.mk λax bu=>?_
  have lt:=Af G;have aV: ∀ {am:aa} {g:Nat} {B:Hs} {E:List Pr},TD h am s y l.p 495 (n+1) B E q H C->am[g]? =some (J2 (dA 2 0 0).c BB (0,0))->ax ((some ⟨g,0,none⟩),()) am:=λ{am g B E} aw bv=>by
   refine bu _ _ (ah.mk λb7 bw=>AC.mk (n:=2) (AL bv rfl) (ae.no rfl ?_));obtain⟨L,aW,W,_,_,bx,bz,bA,bB,S,X⟩:=aw;rw[<- aW];refine L.desc (i:=0) rfl λb8 ay=>?_
   rw[show WJ q ⟨#[119]⟩=dA 0 0 498 from by unfold WJ;rw[if_pos (by decide),Q];show dA 0 (Bj C).status (Bj C).next=_;rw[w];rfl];refine EJ.mk _ ⟨rfl,?_⟩;have aX:=ay.af S λh=>h
   refine AC.mk (n:=498) (Bl (by exact aX) rfl) ⟨Bl (by exact S) rfl,bw _ _ (ae.no rfl ?_)⟩;rw[Aa (by omega)];exact br (al-(i+1)) _ _ (by omega) ⟨i+1,n+1,B,E,rfl,rfl,bs,by omega,L.on ay,aW,W,Q,w,bx,bz,bA,bB,aX,X.ext ay⟩
  have bC:Ap (⟨#[114]⟩++AX [f])=true:=by
   have:f=97\/f=98\/f=99\/f=100\/f=101:=by simp only[<- UInt8.toNat_inj,aU];show 97+i=97\/97+i=98\/97+i=99\/97+i=100\/97+i=101;omega
   rcases this with rfl|rfl|rfl|rfl|rfl<;>decide
  have bD:((⟨#[114]⟩:A2O)++AX [f])≠⟨#[115,116,97,114,116]⟩:=λh=>by
   have:=congrArg ByteArray.size h;rw[HW,AP] at this;have this:2=5:=this;omega
  have aY: ∀ {d:aa} {aZ u r:Option Nat} {az:A2N},dZ j d f aZ u r->(∀ k B E,EW h k s (n+1) 4 [B] E q H (λc=>c=y\/(j.size<=c/\c<d.size))->B.p=l.p->Yb E B (A8 (⟨#[119]⟩:A2O) 4)->k[y]? =some (J2 (lr (A8 (⟨#[119]⟩:A2O) 4) 495 J a U c).c Bg (0,0))->Ia k (cz 495) a U c->
    Mod (bO h (λc=>c=y\/(j.size<=c/\c<d.size))) d k->az (dA 2 0 0).v k)->AA A P Ao #[Ay l.p,.nilIface,J6 J9 0,(dM ((2+i % 2:Nat):Int) (⟨#[114]⟩++AX [f]) ⟨#[120]⟩).v] d az:=λ{d aZ u r az} e bE=>by
   exact AM5 N ⟨aR,aS,aT,Q,w,J,a,U,c,G,F⟩ (by omega) (by omega) bC (aL _ bD) e.ext G F bE
  have bF: ∀ {d:aa} {b g:Nat} {u:Option Nat},dZ j d f (some b) u (some g)->AA A P Ao #[Ay l.p,.nilIface,J6 J9 0,(dM ((2+i % 2:Nat):Int) (⟨#[114]⟩++AX [f]) ⟨#[120]⟩).v] d λv bG=>EJ λt=>v=t.v/\(aK bG (⟨g,0,none⟩:Q6) t.l λbH=>ax ((some (⟨g,0,none⟩:Q6)),()) bH):=λ{d b g u} e=>by
   obtain⟨bJ,a0⟩:=e.r g rfl;have a1:g=y\/(j.size<=g/\g<d.size):= .inr ⟨bJ,Af a0⟩;refine aY e λk B E L an W S X Y=>EJ.mk _ ⟨rfl,aK.mk (Y.af a0 λZ=>Z.2 a1) (A0 9) λap ab I bK=>?_⟩
   rw[Vj] at ab;refine aV ⟨(L.own (O':=λc=>c=y\/(j.size<=c/\c<d.size)) (I.ai λc _ d=>by rw[d];exact a1) λc d=> .inl d).less λc d=> .inl d,an,W,Q,w,J,a,U,c,I.af S (by omega),X.cO I λbn h=>?_⟩ ab;rcases h with⟨h,_⟩|⟨h,_⟩|⟨h,_⟩<;>exact absurd rfl h
  have bL: ∀ {d:aa} {b:Nat} {u:Option Nat},dZ j d f (some b) u none->AA A P Ao #[Ay l.p,.nilIface,J6 J9 0,(dM ((2+i % 2:Nat):Int) (⟨#[114]⟩++AX [f]) ⟨#[120]⟩).v] d λv bM=>EJ λt=>v=t.v/\(ak bM (J2 bI.z.c BB) λg a2=>
    And (ag a2 ((⟨b,0,none⟩:Q6).add (i % 2))=some (J6 J9 ((2+i % 2:Nat):Int)))<|aK a2 (⟨g,0,none⟩:Q6) t.l λbN=>ax ((some (⟨g,0,none⟩:Q6)),()) bN):=λ{d b u} e=>by
   refine aY e λk B E L an W S X Y=>EJ.mk _ ⟨rfl,ak.mk λaD _ bP ao b9=>⟨?_,aK.mk bP (A0 9) λap ab I bK=>?_⟩⟩
   ·obtain⟨bQ,a3⟩:=e.s b rfl;have bR:=ao.af (Y.af a3 λZ=>Z.2 (.inr ⟨bQ,Af a3⟩)) λh=>h
    rcases RC i with ac|ac<;>rw[ac]<;>exact AB bR rfl
   ·rw[Vj] at ab;have aA:Ext k ap:=ao.more I λc d=>by subst d;exact A0 _
    exact aV ⟨(L.on aA).less λc d=> .inl d,an,W,Q,w,J,a,U,c,aA.af S λh=>h,X.ext aA⟩ ab
  have e:dZ j j f none none none:=⟨Mod.refl,λb h=>(by cases h),λb h=>(by cases h),λb h=>(by cases h)⟩
  repeat' first|exact e.cell|exact bF e|exact bL e|refine e.o0 λb h e=>?_|refine e.od λb h e=>?_|refine e.og λb h e=>?_|refine e.conv ⟨_,rfl,?_⟩|refine ARg ?_|refine And.intro ?_ ?_
 ·rw[<- aS];refine aR.dz (i:=0) (x:=dM 4 ⟨#[101,110,100]⟩ ⟨#[]⟩) (p:=eZ) N rfl (by omega) aT View.nil rfl (by decide) (by decide) λca B E bp cb ac st nx L an cc cd ce Y bS=>EJ.mk _ ⟨rfl,mD λbT aC a4=>?_⟩
  obtain⟨rfl,rfl,rfl⟩:=AMZ (aL _ (by decide)) Q w bS;have bU:=a4.af (Y.af G λZ=>Z.2 rfl) λh=>h
  exact AC.mk (n:=0) (AL aC rfl) (ae.yes rfl (AC.mk (n:=4) (AB aC rfl) (ae.yes rfl (AC.mk (n:=499) (AB aC rfl) (AC.mk (n:=498) (Bl (by exact bU) rfl) (a5 bT (L.on a4).w.ext))))))
end
end Go.Lf.G
