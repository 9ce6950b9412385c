/-
 A store, hosts over it, and blocks of one's own beside them (chapter 18).
-/
import Derived.Test.YtgpmoonnachoaaaGreatDoorLfV3ToZ27
import Derived.Test.YtgpmoonnachoaaaGreatDoorLfKToGA
import Derived.Test.YtgpmoonnachoaaaGreatDoorLfU2ToS3
set_option maxRecDepth 100000
set_option linter.unusedVariables false
set_option linter.unusedSimpArgs false
open Go.IntKind renaming i64→J9,wrap→J8
open Go.Value renaming string→J7,int→J6,pointer→J5,slice→J4,bool→J3,tuple→J1
open Go.Obj renaming cells→J2
open Go renaming Value→J0,Addr→Q6,TypeId→Q7,FuncId→Q8,Program→Q1
open Go.Addr renaming add→Q9,mk→Q5
namespace Go.Lf.G
open Go
open M (Sorted Af CY A9 Ag Ar BU Ai bC BH aQ BF)
structure Hs where
 p:Nat
 bh:Nat
 bu:Nat
 name:A2P
 f:Nat->Nat
 u:Nat->Nat
def Hs.bO(x:Hs)(c:Nat):Prop:=c=x.p\/c=x.bh\/c=x.bu
structure jh (g h:aa) (k:Nat->Nat) (s sh N:Nat) (l:List Hs):Prop where
 host: ∀(i:Nat) x,l[i]? =some x->Dw g h k s x.p x.bh x.bu x.name sh x.f x.u N
 jJ: ∀(i j:Nat) x y,l[i]? =some x->l[j]? =some y->i≠j-> ∀c,x.bO c-> ¬y.bO c
def LW(B:cI)(g h:aa)(s a N sh:Nat)(l:List Hs)(mp:List Pr)(O:Nat->Prop):Prop:=
 ∃(d:Hp) (b:Nat->Nat) (st:Db) (m:Bx) (e:Br) (nn:Nat),F6 B g h s d b st m e (1+3*a) (64*a) nn/\nn<=a/\Cm st=mp/\jh g h b s sh N l/\N<=1000000/\ ∀c,O c->b c=0/\c<h.size/\g.size<=c/\c≠s/\ ∀x∈l,¬x.bO c
section
variable {A : ar} {B : cI} {g h : aa} {s a N sh : Nat} {l : List Hs} {mp : List Pr} {O : Nat -> Prop} {R : A2O}
theorem jh.step {d:aa}{b k':Nat->Nat}{e:Nat->Prop}(f:jh g h b s sh N l)(k:Mod e h d)(m: ∀c,e c->b c≠0\/h.size<=c\/c=s\/ ∀x∈l,¬x.bO c)(n: ∀c,k' c≠0->b c≠0\/h.size<=c):jh g d k' s sh N l:=
 ⟨λi x j=>(f.host i x j).step k (λc o=>by
  rcases m c o with h|h|h|h
  ·exact .inl h
  ·exact .inr (.inl h)
  ·exact .inr (.inr (.inl h))
  ·exact .inr (.inr (.inr (h x (AM j))))) n,f.jJ⟩
theorem jh.set {h':aa}{k m:Nat->Nat}{S:Nat->Prop}{i j:Nat}{x x':Hs}(n:jh g h k s sh N l)(o:l[i]? =some x)(u:Mod S h h')(v: ∀c,S c->k c≠0\/h.size<=c\/c=s\/x.bO c)(w: ∀c,m c≠0->k c≠0\/h.size<=c)(y:Dw g h' m s x'.p x'.bh x'.bu x'.name sh x'.f x'.u j)(same: ∀c,x'.bO c↔x.bO c)(q:N<=j/\j<=1000000):jh g h' m s sh j (l.set i x'):=by
 have r:=(List.getElem?_eq_some_iff.1 o).1;refine⟨λd e b=>?_,λz C M P D E F c p=>?_⟩
 ·by_cases f:i=d
  ·subst f;rw[HN r] at b;cases b;exact y
  ·rw[Jx f] at b;refine((n.host d e b).step u (λc p=>?_) w).more q.1 q.2;rcases v c p with h|h|h|h
   ·exact .inl h
   ·exact .inr (.inl h)
   ·exact .inr (.inr (.inl h))
   ·exact .inr (.inr (.inr (n.jJ i d x e o b f c h)))
 ·have go: ∀ {d:Nat} {e:Hs},(l.set i x')[d]? =some e-> ∃t,l[d]? =some t/\ ∀c,e.bO c↔t.bO c:=λ{d e} b=>by
   by_cases f:i=d
   ·subst f;rw[HN r] at b;cases b;exact⟨x,o,same⟩
   ·rw[Jx f] at b;exact⟨e,b,λ_=>CM⟩
  obtain⟨G,H,I⟩:=go D;obtain⟨J,K,L⟩:=go E;exact λh=>n.jJ z C G J H K F c ((I c).1 p) ((L c).1 h)
theorem LW.ext(b:LW B g h s a N sh l mp O):Ext g h:=by obtain⟨d,e,st,m,f,nn,c,_⟩:=b;exact c.db.mem.ext
theorem LW.sorted(b:LW B g h s a N sh l mp O):Sorted mp:=by obtain⟨d,e,st,m,D,nn,c,_,rfl,_⟩:=b;exact c.db.sorted
theorem LW.own {e:aa}{O':Nat->Prop}(k:LW B g h s a N sh l mp O)(f:Mod O h e)(n: ∀c,O' c->O c\/(h.size<=c/\c<e.size)):LW B g e s a N sh l mp O':=by
 obtain⟨o,p,st,m,q,nn,d,r,t,j,u,out⟩:=k;have H:=d.db.mem.ext.size;have I:=f.size;have J:=d.lt;refine⟨o,p,st,m,q,nn,d.beside f (λc b=>⟨(out c b).1,(out c b).2.2.1⟩) (λh=>(out s h).2.2.2.1 rfl),r,t,j.step f (λc b=> .inr (.inr (.inr (out c b).2.2.2.2))) (λc b=> .inl b),u,λc b=>?_⟩;rcases n c b with h|⟨v,w⟩
 ·obtain⟨y,K,z,C,D⟩:=out c h;exact⟨y,by omega,z,C,D⟩
 ·refine⟨d.db.free v,w,by omega,by omega,λx E F=>?_⟩;obtain⟨i,G⟩:=E0 E;have:=(j.host i x G).lt c F;omega
theorem LW.on {b:aa}(d:LW B g h s a N sh l mp O)(x:Ext h b):LW B g b s a N sh l mp O:=d.own (x.ak λ_ _ h=>h.elim) λc e=> .inl e
theorem LW.less {O':Nat->Prop}(b:LW B g h s a N sh l mp O)(d: ∀c,O' c->O c):LW B g h s a N sh l mp O':=by obtain⟨e,f,st,m,i,nn,j,k,n,o,p,out⟩:=b;exact⟨e,f,st,m,i,nn,j,k,n,o,p,λc q=>out c (d c q)⟩
theorem LW.put {b c:Nat}(W:LW B g h s a N sh l mp O)(t:a<=b)(f:64*b<=B.C)(j:N<=c)(d:c<=1000000):LW B g h s b c sh l mp O:=by obtain⟨k,n,st,m,o,nn,p,u,q,e,v,out⟩:=W;exact⟨k,n,st,m,o,nn,p.put (by omega) (by omega) f,by omega,q,⟨λi x r=>(e.host i x r).more j d,e.jJ⟩,d,out⟩
abbrev bq(g:aa)(O:Nat->Prop):Nat->Prop:=λc=>g.size<=c/\ ¬O c
theorem LW.dK {b:aa}{w:Nat->Prop}{i a' e nn o:Nat}{x x':Hs}{J y:Hp}{d f:Nat->Nat}{st p:Db}{m z:Bx}{K C:Br}(j:F6 B g h s J d st m K (1+3*a) (64*a) nn)(D:jh g h d s sh N l)(out: ∀c,O c->d c=0/\c<h.size/\g.size<=c/\c≠s/\ ∀x∈l,¬x.bO c)
  (q:l[i]? =some x) (L:F6 B g b s y f p z C (1+3*a') (64*a') o) (M:o<=a') (r:Mod w h b) (t: ∀c,w c->d c≠0\/h.size<=c\/c=s\/x.bO c) (E: ∀c,f c≠0->d c≠0\/h.size<=c) (P:Dw g b f s x'.p x'.bh x'.bu x'.name sh x'.f x'.u e) (same: ∀c,x'.bO c↔x.bO c) (F:N<=e/\e<=1000000):
  LW B g b s a' e sh (l.set i x') (Cm p) O/\Mod (bq g O) h b:=by
 have W:=j.db.mem.ext.size;have X:=j.lt;have Y:=r.size;have G:=AM q;refine⟨⟨y,f,p,z,C,o,L,M,rfl,D.set q r t E P same F,F.2,λc k=>?_⟩,r.ak λc Z k=>⟨?_,λQ=>?_⟩⟩
 ·obtain⟨u,S,H,v,n⟩:=out c k;refine⟨Decidable.byContradiction λT=>?_,by omega,H,v,λU V I=>?_⟩
  ·rcases E c T with h|h
   ·exact h u
   ·omega
  ·rcases TX V with h|rfl
   ·exact n U h I
   ·exact n x G ((same c).1 I)
 ·rcases t c k with h|h|h|h
  ·exact(j.db.mem.own c h).1
  ·omega
  ·have:=j.base;omega
  ·exact((D.host i x q).bO c h).2.1
 ·obtain⟨u,S,H,v,n⟩:=out c Q;rcases t c k with h|h|h|h
  ·exact h u
  ·omega
  ·exact v h
  ·exact n x G h
theorem LW.host {name:A2P}(D:LW B g h s a N sh l mp O)(E:Ak name=true)(F:1<=sh/\sh<=16)
  (G: ∀j p k n,LW B g j s a N sh (l++ [⟨p,k,n,name,λ_=>0,λ_=>0⟩]) mp O->Ext h j->R (J1 #[Aq p,J6 J9 0]) j):AA A P Pk #[Aq s,J7 name,J6 J9 (sh:Int)] h R:=by
 obtain⟨H,I,st,m,J,nn,v,K,L,o,w,out⟩:=D;refine ARH v E F λj p k n M fresh x=>G j p k n ⟨H,I,st,m,J,nn,v.on x,K,L,⟨λi d b=>?_,λi e y z Q S T c f t=>?_⟩,w,λc f=>?_⟩ x
 ·rw[Pa] at b;split at b
  ·exact(o.host i d b).on x
  ·rw[Pc] at b;split at b
   ·cases b;exact M.more (An _) w
   ·cases b
 ·have go: ∀ {e:Nat} {d:Hs},(l++ [⟨p,k,n,name,λ_=>0,λ_=>0⟩])[e]? =some d->(e<l.length/\l[e]? =some d)\/(e=l.length/\ ∀c,d.bO c->h.size<=c):=λ{e d} b=>by
   rw[Pa] at b;split at b
   ·rename_i C;exact .inl ⟨C,b⟩
   ·rename_i C;rw[Pc] at b;split at b
    ·rename_i aa;cases b;exact .inr ⟨by omega,λc f=>(fresh c f).1⟩
    ·cases b
  rcases go Q with⟨U,q⟩|⟨U,q⟩<;>rcases go S with⟨V,r⟩|⟨V,r⟩
  ·exact o.jJ i e y z q r T c f t
  ·have:=(o.host i y q).lt c f;have:=r c t;omega
  ·have:=(o.host e z r).lt c t;have:=q c f;omega
  ·omega
 ·obtain⟨W,ab,X,Y,Z⟩:=out c f;have:=x.size;refine⟨W,by omega,X,Y,λd b u=>?_⟩;rcases List.mem_append.1 b with h|h
  ·exact Z d h u
  ·rw[List.mem_singleton.1 h] at u;have:=(fresh c u).1;omega
def Hs.mO(x:Hs)(b c:Nat):Hs:= {x with f:=dD x.f b c,u:=dD x.u b 0}
def Hs.lost(x:Hs)(b:Nat):Hs:= {x with f:=dD x.f b 0}
def Hs.jv(x:Hs)(b:Nat):Hs:= {x with u:=dD x.u b (x.u b+1)}
theorem LW.holds {i b:Nat}{x:Hs}(c:LW B g h s a N sh l mp O)(d:l[i]? =some x)(e:R (J6 J9 (x.f b:Int)) h):AA A P Cy #[Aq x.p,J6 J9 (b:Int)] h R:=by obtain⟨j,k,st,m,n,nn,o,p,q,f,r,out⟩:=c;exact Zd (f.host i x d) e
theorem LW.acquire {i b r:Nat}{x:Hs}{nm:A2P}(n:bZ g)(o:LW B g h s a N sh l mp O)(e:l[i]? =some x)(p:b<sh)(L:GI mp b r nm)(q:r+1<=2147483647)(hA:4+3*a<=B.A)(E:64*a+64<=B.C)(F:a+1<=1000000)(f:N+1<=1000000)
  (t: ∀d,LW B g d s (a+1) (N+1) sh (l.set i (x.mO b (r+1))) (cz mp [⟨CE b,Jn (r+1) x.name,false⟩]) O->Mod (bq g O) h d->R (J1 #[J6 J9 ((r+1:Nat):Int),J6 J9 0]) d):
  AA A P FD #[Aq x.p,J6 J9 (b:Int)] h R:=by
 obtain⟨G,H,st,m,I,nn,j,J,rfl,k,K,out⟩:=o;have u:=k.host i x e;refine AJK n j u p L q (by omega) (by omega) (by omega) f λd M Q S T U V W v w y z C=>?_
 have:=LW.dK (x':=x.mO b (r+1)) (a':=a+1) j k out e (v.put (by omega) (by omega) (by omega)) (by omega) z (λc D=>by
  rcases D with h|h|h|h|h
  ·exact .inl h
  ·exact .inr (.inl h)
  ·exact .inr (.inr (.inl h))
  ·exact .inr (.inr (.inr (.inr (.inl h))))
  ·exact .inr (.inr (.inr (.inr (.inr h))))) C y (λ_=>CM) ⟨BW _,f⟩
 rw[w] at this;exact t d this.1 this.2
theorem LW.number {i b:Nat}{x:Hs}(r:LW B g h s a N sh l mp O)(j:l[i]? =some x)(t:x.f b<=2147483647)(u:x.u b+1<16777216)(k:N+1<=1000000)
  (v:x.f b=0->R (.int .u64 0) h)
  (w:x.f b≠0-> ∀d,LW B g d s a (N+1) sh (l.set i (x.jv b)) mp O->Mod (bq g O) h d->R (.int .u64 ((x.f b*16777216+(x.u b+1):Nat):Int)) d):
  AA A P Gq #[Aq x.p,J6 J9 (b:Int)] h R:=by
 obtain⟨E,F,st,m,G,nn,n,y,rfl,o,H,out⟩:=r;have p:=o.host i x j;refine AK1 p t u k v λz d C q=>?_
 have f:=p.bO x.bu (.inr (.inr rfl));have:=LW.dK (x':=x.jv b) n o out j (n.beside q (λc e=>by subst e;exact⟨f.1,f.2.1⟩) λD=>f.2.2 D.symm) y q (λc e=> .inr (.inr (.inr (.inr (.inr e))))) (λc e=> .inl e) C (λ_=>CM) ⟨BW _,k⟩;exact w z d this.1 this.2
theorem LW.change {i d:Nat}{x:Hs}{conds sl:Sl}{cl lp:List Pr}(y:bZ g)(z:LW B g h s a N sh l mp O)(f:l[i]? =some x)(C:d<256)(D:x.f d<=2147483647)(hA:4+3*a<=B.A)(aa:64*a+64<=B.C)(ab:a+1<=1000000)(vc:View BQ h conds cl)(E:cl.length<=1000000)(v:View BQ h sl lp)(F:lp≠ []-> ∀b,sl.ai=some b->b<g.size\/O b)(G: ∀x∈cl,x.key.size<=1099511627776)
  (H:x.f d=0->R (J6 J9 170) h)
  (I:x.f d≠0->Bd mp (FY d (x.f d) x.name)=false-> ∀e,LW B g e s a N sh (l.set i (x.lost d)) mp O->Mod (bq g O) h e->R (J6 J9 170) e)
  (J:x.f d≠0->Bd mp (FY d (x.f d) x.name)=true->dw mp (FY d (x.f d) x.name::cl) lp≠0-> ∀e,Ext h e->R (J6 J9 (dw mp (FY d (x.f d) x.name::cl) lp)) e)
  (K:x.f d≠0->Bd mp (FY d (x.f d) x.name)=true->dw mp (FY d (x.f d) x.name::cl) lp=0-> ∀e,LW B g e s (a+1) N sh l (cz mp lp) O->Mod (bq g O) h e->R (J6 J9 0) e):
  AA A P GD #[Aq x.p,J6 J9 (d:Int),J4 conds.p conds.len conds.cap,J4 sl.p sl.len sl.cap] h R:=by
 obtain⟨ac,ad,st,m,ae,nn,j,L,rfl,n,u,out⟩:=z;have w:=n.host i x f;have af:=j.db.mem.ext.size;refine ASX y j w C D (by omega) (by omega) (by omega) vc E v (λM b Q=>?_) G H (λo S e p q r=>?_) J λo T U e ag ah ai aj ak al am p V q r W=>?_
 ·rcases F M b Q with h|h
  ·refine⟨by omega,j.db.base h,?_⟩;have:=(w.bO x.bh (.inr (.inl rfl))).2.1;omega
  ·obtain⟨X,Y,an,ao,Z⟩:=out b h;exact⟨Y,X,λt=>Z x (AM f) (.inr (.inl t))⟩
 ·have:=LW.dK (x':=x.lost d) j n out f p L r (λc k=>by
   rcases k with h|h
   ·exact .inr (.inl h)
   ·exact .inr (.inr (.inr (.inr (.inl h))))) (λc k=> .inl k) q (λ_=>CM) ⟨A0 _,u⟩
  exact I o S e this.1 this.2
 ·have:=LW.dK (x':=x) (a':=a+1) j n out f (p.put (by omega) (by omega) (by omega)) (by omega) r (λc k=>by
   rcases k with h|h|h
   ·exact .inl h
   ·exact .inr (.inl h)
   ·exact .inr (.inr (.inl h))) W q (λ_=>CM) ⟨A0 _,u⟩
  rw[V,show l.set i x=l from by
   obtain⟨ap,t⟩:=List.getElem?_eq_some_iff.1 f;rw[<- t,OR]] at this
  exact K o T U e this.1 this.2
end
abbrev cA:=A2P->Option (List Ev)
abbrev cP:=A2P->Option (List UInt8×Int×Int)
def Bv(l:List Ev):bg:=(El Sy l).getD Sy
structure Ru (l:List Ev):Prop where
 ne:l≠ []
 len:l.length<=500
 ok:El Sy l=some (Bv l)
 st:0<=(Bv l).status/\(Bv l).status<=4
theorem Ru.next {l:List Ev}(b:Ru l):(Bv l).next=l.length+1/\ ∀(i:Nat) (a:Ev),l[i]? =some a->a.id=i+1/\Ej a=true:=xl b.ok b.ne
def Sk(wid:A2P)(l:List Ev):List Pr:=l.map (Ol wid)
def TW(wid:A2P)(l:List Ev):Pr:=⟨KY wid,QS (Bv l).status.toNat (Bv l).next.toNat false,false⟩
def YV(a:A2P)(x:List UInt8×Int×Int):Pr:=⟨Ka a,iL x.1 x.2.1.toNat x.2.2.toNat,false⟩
structure Jj (mp:List Pr) (fl:cA) (an:cP):Prop where
 cJ: ∀wid,Ak wid=true-> ∀k,Kb (Ww wid) k=true->Af k mp=Af k (Sk wid ((fl wid).getD []))
 fS: ∀wid,Ak wid=true->Af (KY wid) mp=(fl wid).map (TW wid)
 kD: ∀bA,Ak bA=true->Af (Ka bA) mp=(an bA).map (YV bA)
 dH: ∀wid l,fl wid=some l->Ru l
 kF: ∀bA x,an bA=some x->(0<=x.2.1/\x.2.1<=4)/\(0<=x.2.2/\x.2.2<=501)/\x.1.length<=2000
theorem FE {s:A2P}(a:Ak s=true):s.size<=16:=(Ga.1 a).2.1
theorem Qz {wid:A2P}{l:List Ev}{i:Nat}{p:Pr}(b:(Sk wid l)[i]? =some p): ∃a,l[i]? =some a/\p=Ol wid a:=by unfold Sk at b;rw[C2] at b;obtain⟨a,c,rfl⟩:=Option.map_eq_some_iff.1 b;exact⟨a,c,rfl⟩
theorem QN {wid:A2P}{l:List Ev}(b: ∀(i:Nat) (a:Ev),l[i]? =some a->a.id=i+1/\Ej a=true){i:Nat}{a:Ev}(c:l[i]? =some a):(Ol wid a).key=eo wid (i+1):=by unfold Ol;rw[(b i a c).1];rfl
theorem XZ {wid:A2P}{l:List Ev}(j:l.length<=500)(c: ∀(i:Nat) (a:Ev),l[i]? =some a->a.id=i+1/\Ej a=true):Sorted (Sk wid l):=by unfold Sorted;rw[List.pairwise_iff_getElem];intro i k d b m;obtain⟨a,e,f⟩:=Qz (A2 d);obtain⟨n,g,h⟩:=Qz (A2 b);rw[f,h,QN c e,QN c g];unfold Sk at b;rw[Bs] at b;exact mo (by omega) (by omega)
theorem lK {q:A2P->Bool}{a:A2P}: ∀ {l:List Pr},Af a (l.filter λx=>q x.key)=if q a=true then Af a l else none
 | []=>by simp[M.QO]
 |x::l=>by
  rw[AS];by_cases b:x.key=a
  ·subst b;split
   ·rw[M.BD,M.BD,if_pos rfl,if_pos rfl]
   ·rename_i c;rw[lK,if_neg c]
  ·split
   ·rw[M.BD,if_neg b,lK,M.BD,if_neg b]
   ·rw[lK,M.BD,if_neg b]
theorem ANC {a:A2P}{b:Nat}{l:List Pr}(c: ∀x∈l.take b,x.key≠a):Af a (l.drop b)=Af a l:=by
 conv=>rhs;rw[<- CN b l]
 rw[M.LP,M.EI c,LN]
theorem APu {k:List Pr}{p:cA}{u:cP}{wid:A2P}{l:List Ev}{e:Nat}(s:Sorted k)(m:Jj k p u)(v:Ak wid=true)(n:p wid=some l)(A:e<=l.length):
  jg k (Ww wid) (eo wid (e+1)) 32=((Sk wid l).drop e).take 32:=by
 have h:=(m.dH wid l n).next.2;have w:=(m.dH wid l n).len;unfold jg;rw[show(32:Int).toNat=32 from rfl];congr 1;refine Sorted.ext (s.sublist Gk) ((XZ w h).sublist (List.drop_sublist _ _)) λc=>?_
 rw[lK (q:=λc=>Kb (Ww wid) c&& !aO c (eo wid (e+1)))];by_cases j:Kb (Ww wid) c=true
 ·rw[j,FG];have r:=m.cJ wid v c j;rw[n,HI] at r;by_cases f:aO c (eo wid (e+1))=true
  ·rw[f,if_neg (by simp)]
   symm
   refine M.EI λx g b=>?_
   obtain⟨i,a⟩:=E0 g;rw[C5] at a;obtain⟨t,d,rfl⟩:=Qz a;rw[QN h d] at b;subst b;have y:=(List.getElem?_eq_some_iff.1 d).1;by_cases z:i=0
   ·subst z;rw[G0,CZ] at f;cases f
   ·have:=OQ f;rw[mo (by omega) (by omega)] at this;cases this
  ·have o:aO c (eo wid (e+1))=false:=by simpa using f
   rw[o,if_pos (by rfl),r]
   symm
   refine ANC λx g b=>?_
   obtain⟨i,a⟩:=E0 g;rw[Ek] at a;split at a
   ·rename_i B;obtain⟨t,d,rfl⟩:=Qz a;have y:=(List.getElem?_eq_some_iff.1 d).1;rw[QN h d] at b;subst b;rw[mo (by omega) (by omega)] at o;cases o
   ·cases a
 ·rw[if_neg (by simp[j])]
  symm
  refine M.EI λx g b=>?_
  obtain⟨i,a⟩:=E0 g;rw[C5] at a;obtain⟨t,d,rfl⟩:=Qz a;rw[QN h d] at b;subst b;exact j (xt wid _)
theorem KF {a:A2P}{b m:List Pr}(s:Sorted m)(c: ∀d∈b,d.key≠a):Af a (cz m b)=Af a m:=by rw[YI a s,M.EI λx e=>c x (List.mem_reverse.1 e)]
theorem nq {b m:List Pr}(s:Sorted m){p:Pr}(d:p∈b)(e: ∀a∈b,a.key=p.key->a=p):Af p.key (cz m b)=if p.gone then none else some p:=by
 rw[YI p.key s];cases c:Af p.key b.reverse with
 |none=>
  exfalso;unfold Af at c;rw[Hb] at c;have:=c p (List.mem_reverse.2 d);simp at this
 |some a=>
  obtain⟨f,g⟩:=M.MN c;obtain rfl:=e a (List.mem_reverse.1 g) f;show alive (some a)=_;rw[Hw]
def du {a:Type}(f:A2P->Option a)(c:A2P)(x:a):A2P->Option a:=λb=>if b=c then some x else f b
theorem Jq {a:Type}{f:A2P->Option a}{b:A2P}{x:a}:du f b x b=some x:=if_pos rfl
theorem NJ {b:Type}{f:A2P->Option b}{c a:A2P}{x:b}(d:a≠c):du f c x a=f a:=if_neg d
def pG {a:Type}(f:A2P->Option a):Option (A2P×a)->A2P->Option a
 |none=>f
 |some (b,x)=>du f b x
structure fG (b:List Pr) (o:Option (A2P×(List UInt8×Int×Int))):Prop where
 fw: ∀p∈b,(BL p.key≠104/\BL p.key≠119/\BL p.key≠114)\/ ∃r x,o=some (r,x)/\p=YV r x
 has: ∀r x,o=some (r,x)->YV r x∈b/\Ak r=true/\(0<=x.2.1/\x.2.1<=4)/\(0<=x.2.2/\x.2.2<=501)/\x.1.length<=2000
theorem Jj.land {F b:List Pr}{h:cA}{A:cP}{wid:A2P}{more:List Ev}{t:Option (A2P×(List UInt8×Int×Int))}(q:Jj F h A)(s:Sorted F)(G:Ak wid=true)
  (o:Ru ((h wid).getD []++more)) (B:fG b t):
  Jj (cz F (more.map (Ol wid)++([TW wid ((h wid).getD []++more)]++b))) (du h wid ((h wid).getD []++more)) (pG A t):=by
 have N:=o.next.2;have P:=o.len;have u: ∀p∈b,BL p.key≠104/\BL p.key≠119:=λp C=>by
  rcases B.fw p C with a|⟨f,x,_,rfl⟩
  ·exact⟨a.1,a.2.1⟩
  ·exact⟨by show BL (Ka f)≠104;rw[LH];decide,by show BL (Ka f)≠119;rw[LH];decide⟩
 have rowAt: ∀e∈more,∃i:Nat,((h wid).getD []++more)[i]? =some e/\(Ol wid e).key=eo wid (i+1):=λe Q=>by
  obtain⟨i,v⟩:=E0 Q;have:((h wid).getD []++more)[((h wid).getD []).length+i]? =some e:=by rw[F0 (by omega),Tr];exact v
  exact⟨_,this,QN N this⟩
 refine⟨λd w D y=>?_,λd w=>?_,λf O=>?_,λd l E=>?_,λf x m=>?_⟩
 ·have k:=qZ y;by_cases e:d=wid
  ·subst e;rw[Jq,HI];by_cases H: ∃p∈more.map (Ol d),p.key=D
   ·obtain⟨p,C,rfl⟩:=H;obtain⟨n,z,rfl⟩:=List.mem_map.1 C;obtain⟨i,v,R⟩:=rowAt n z;have S:Ol d n∈Sk d ((h d).getD []++more):=List.mem_map.2 ⟨n,AM v,rfl⟩;rw[Sorted.find (XZ P N) S,nq s (Hc _ C) (λg j c=>?_)]
    ·rfl
    ·rcases List.mem_append.1 j with a|a
     ·obtain⟨T,U,rfl⟩:=List.mem_map.1 a;obtain⟨V,I,W⟩:=rowAt T U;have Z:=(List.getElem?_eq_some_iff.1 v).1;have aa:=(List.getElem?_eq_some_iff.1 I).1;rw[R,W] at c;have:=(AQV (FE G) (FE G) (by omega) (by omega) c).2;have:V=i:=by omega
      subst this;rw[v] at I;cases I;rfl
     ·rcases List.mem_append.1 a with a|a
      ·rw[List.mem_singleton.1 a] at c;rw[<- c] at k;rw[show BL (TW d ((h d).getD []++more)).key=119 from GG d] at k;exact absurd k (by decide)
      ·exact absurd (by rw[c];exact k) (u g a).1
   ·rw[KF s λg j c=>?_,q.cJ d w D y]
    ·unfold Sk;rw[Bm,M.LP,M.EI (l:=more.map (Ol d)) λx m X=>H ⟨x,m,X⟩];cases Af D (List.map (Ol d) ((h d).getD []))<;>rfl
    ·rcases List.mem_append.1 j with a|a
     ·exact H ⟨g,a,c⟩
     ·rcases List.mem_append.1 a with a|a
      ·rw[List.mem_singleton.1 a] at c;rw[<- c] at k;rw[show BL (TW d ((h d).getD []++more)).key=119 from GG d] at k;exact absurd k (by decide)
      ·exact absurd (by rw[c];exact k) (u g a).1
  ·rw[NJ e,KF s λg j c=>?_,q.cJ d w D y];rcases List.mem_append.1 j with a|a
   ·obtain⟨n,z,rfl⟩:=List.mem_map.1 a;rw[<- c] at y;exact e (xu (FE w) (FE G) y)
   ·rcases List.mem_append.1 a with a|a
    ·rw[List.mem_singleton.1 a] at c;rw[<- c] at k;rw[show BL (TW wid ((h wid).getD []++more)).key=119 from GG wid] at k;exact absurd k (by decide)
    ·exact absurd (by rw[c];exact k) (u g a).1
 ·by_cases e:d=wid
  ·subst e;rw[Jq];refine(nq (p:=TW d ((h d).getD []++more)) s (by simp) λg j c=>?_).trans rfl;rcases List.mem_append.1 j with a|a
   ·obtain⟨n,z,rfl⟩:=List.mem_map.1 a;have:=congrArg BL c;rw[show BL (Ol d n).key=104 from Ym _ _,show BL (TW d ((h d).getD []++more)).key=119 from GG d] at this;exact absurd this (by decide)
   ·rcases List.mem_append.1 a with a|a
    ·exact List.mem_singleton.1 a
    ·exact absurd ((congrArg BL c).trans (GG d)) (u g a).2
  ·rw[NJ e,KF s λg j c=>?_,q.fS d w];rcases List.mem_append.1 j with a|a
   ·obtain⟨n,z,rfl⟩:=List.mem_map.1 a;have:=congrArg BL c;rw[show BL (Ol wid n).key=104 from Ym _ _,GG] at this;exact absurd this (by decide)
   ·rcases List.mem_append.1 a with a|a
    ·rw[List.mem_singleton.1 a] at c;exact e (ANi c).symm
    ·exact absurd ((congrArg BL c).trans (GG d)) (u g a).2
 ·have no: ∀g∈more.map (Ol wid)++([TW wid ((h wid).getD []++more)]++b),g.key=Ka f-> ∃x,t=some (f,x)/\g=YV f x:=λg j c=>by
   have o:=(congrArg BL c).trans (LH f);rcases List.mem_append.1 j with a|a
   ·obtain⟨n,z,rfl⟩:=List.mem_map.1 a;rw[show BL (Ol wid n).key=104 from Ym _ _] at o;exact absurd o (by decide)
   ·rcases List.mem_append.1 a with a|a
    ·rw[List.mem_singleton.1 a,show BL (TW wid ((h wid).getD []++more)).key=119 from GG wid] at o;exact absurd o (by decide)
    ·rcases B.fw g a with a|⟨r,x,Y,rfl⟩
     ·exact absurd o a.2.2
     ·have:r=f:=xw c;subst this;exact⟨x,Y,rfl⟩
  cases t with
  |none=>
   rw[KF s λg j c=>?_,q.kD f O]
   ·rfl
   ·obtain⟨x,m,_⟩:=no g j c;cases m
  |some J=>
   obtain⟨r,x⟩:=J;show _=(du A r x f).map (YV f);by_cases e:f=r
   ·subst e;rw[Jq];refine(nq (p:=YV f x) s ?_ λg j c=>?_).trans rfl
    ·exact ID _ (ID _ (B.has f x rfl).1)
    ·obtain⟨K,L,rfl⟩:=no g j c;cases L;rfl
   ·rw[NJ e,KF s λg j c=>?_,q.kD f O];obtain⟨K,L,_⟩:=no g j c;cases L;exact e rfl
 ·by_cases e:d=wid
  ·subst e;rw[Jq] at E;cases E;exact o
  ·rw[NJ e] at E;exact q.dH d l E
 ·cases t with
  |none=>exact q.kF f x m
  |some J=>
   obtain⟨r,K⟩:=J;have m:du A r K f=some x:=m;by_cases e:f=r
   ·subst e;rw[Jq] at m;cases m;exact(B.has f x rfl).2.2
   ·rw[NJ e] at m;exact q.kF f x m
theorem Jj.aN {g b:List Pr}{j:cA}{k:cP}(a:Jj g j k)(s:Sorted g)(h: ∀p∈b,BL p.key≠104/\BL p.key≠119/\BL p.key≠114):Jj (cz g b) j k:=by
 refine⟨λf i n l=>?_,λf i=>?_,λm o=>?_,a.dH,a.kF⟩
 ·rw[KF s λc d e=>(h c d).1 (by rw[e];exact qZ l)];exact a.cJ f i n l
 ·rw[KF s λc d e=>(h c d).2.1 (by rw[e];exact GG f)];exact a.fS f i
 ·rw[KF s λc d e=>(h c d).2.2 (by rw[e];exact LH m)];exact a.kD m o
theorem Jj.empty:Jj [] (λ_=>none) (λ_=>none):=
 ⟨λb _ d _=>rfl,λb _=>rfl,λc _=>rfl,λb l a=>(by cases a),λc x a=>(by cases a)⟩
theorem AOH(a b:Nat):((a:Nat):Int).tmod ((b:Nat):Int)=((a % b:Nat):Int):=by rw[Int.tmod_eq_emod_of_nonneg (by omega)];rfl
theorem ag.and {b:Bool}{a c:Prop}(d:b=true->a)(e:b=false->c):ag b a c:=ag.intro d e
theorem KW {s:A2P}(a:s.size<18446744073709551616):(BR (bl s)).length<=10+s.size:=by have:=AV a;simp only[BR,A1,A7];omega
theorem yw {x:bP}(a:NF x=true):0<=x.kind/\x.kind<=3/\(x.kind=1\/x.kind=2\/x.kind=3)/\x.name.size<=16/\x.aM.size<=16/\0<=x.tries/\x.tries<=5/\0<=x.aC/\x.aC<=5/\0<=x.wait/\x.wait<=1000:=by
 have d: ∀ {s:A2P},Ak s=true->s.size<=16:=λa=>(Ga.1 a).2.1
 have z:Ho.size=0:=rfl;unfold NF at a;split at a
 ·rename_i e;simp only[A4,DA,decide_eq_true_eq,Ba] at a;obtain⟨⟨⟨g,h⟩,l⟩,m⟩:=a;have:=d h;rcases g with⟨b,c⟩|⟨b,c⟩
  ·rw[b];omega
  ·have:=d b;omega
 ·split at a
  ·rename_i i e;simp only[A4,decide_eq_true_eq,Ba] at a;obtain⟨⟨⟨⟨b,c⟩,j⟩,k⟩,f⟩:=a;rw[b,c];omega
  ·split at a
   ·rename_i i n e;simp only[A4,decide_eq_true_eq] at a;obtain⟨⟨⟨⟨b,c⟩,j⟩,k⟩,f⟩:=a;have:=d f;rw[b];omega
   ·cases a
theorem AJ7 {x:bP}(a:NF x=true):(G8 x).length<=100:=by
 obtain⟨b,c,d,e,f,g,h,i,j,k,l⟩:=yw a;have m:=AV (n:=x.kind.toNat) (by omega);have o:=AV (n:=x.tries.toNat) (by omega);have p:=AV (n:=x.aC.toNat) (by omega);have q:=AV (n:=x.wait.toNat) (by omega);have r:=KW (s:=x.name) (by omega);have t:=KW (s:=x.aM) (by omega);unfold G8;rw[A1];split
 ·simp only[A1];omega
 ·split<;>omega
theorem PU: ∀ {l:List bP},l.all NF=true->(l.flatMap G8).length<=l.length*100
 | [],_=>by simp
 |x::l,a=>by
  simp only[N4,A4] at a;have b:=AJ7 a.1;have c:=PU a.2;simp only[AH,A1,A5];omega
def X0(p:ck):J0:=J1 #[J7 (AX (if Fz p then Ci p else [])),J6 J9 (if Fz p then 0 else 130)]
section
variable {A : ar} {h : aa} {R : A2O}
theorem tY {l:List Ev}{sl:Sl}{t:bg}(v:View dU h sl l)(av:l.length<=500)(hd: ∀f∈l,f.data.size<1099511627776)(V:El Sy l=some t)
  (W: ∀y a b c,Ext h y->JK y t a b c->(∀ x,a.ai=some x\/b.ai=some x\/c.ai=some x->h.size<=x)->R (J1 #[(t.V a b c).v,J6 J9 0,J6 J9 0]) y):
  AA A P MQ #[J4 sl.p sl.len sl.cap] h R:=by
 refine ACh ?_;unfold WA;refine ao.mk λaw _ X Y E=>ao.mk λax _ F G ay=>?_
 rw[E] at F;rw[E];have Z:=Y.trans G;have aa: ∀x,(⟨none,0,0⟩:Sl).ai=some x\/(⟨none,0,0⟩:Sl).ai=some x\/(⟨none,0,0⟩:Sl).ai=some x->h.size+2<=x:=λx d=>by simp[Sl.ai] at d
 refine Loop.rule (λm x k=> ∃(i:Nat) (s:bg) (a b c:Sl),x=((i:Int),())/\m=l.length-i/\i<=l.length/\Ext h k/\k[h.size]? =some (J2 bH.z.c Av (0,0))/\k[h.size+1]? =some (J2 (s.V a b c).c Av (0,0))/\
   JK k s a b c/\(∀ x,a.ai=some x\/b.ai=some x\/c.ai=some x->h.size+2<=x)/\Dc s i/\El s (l.drop i)=some t) ?_
  ⟨0,Sy,⟨none,0,0⟩,⟨none,0,0⟩,⟨none,0,0⟩,rfl,rfl,An _,Z,G.ai X (λh=>h),F,⟨View.nil,View.nil,View.nil⟩,aa,Dc.zero,V⟩
 rintro K m _ H ⟨i,s,a,b,c,rfl,rfl,az,n,I,o,J,fr,L,g⟩ ab;have aA:=v.len;refine ag.intro (λz=>?_) (λz=>?_)
 ·have j:i<l.length:=by simp at z;omega
  obtain⟨f,p⟩: ∃f,l[i]? =some f:=⟨_,A2 j⟩;have ac:=AM p;have ad:l.drop i=f::l.drop (i+1):=by rw[DP j];rw[A2 j] at p;cases p;rfl
  rw[ad,El] at g;split at g;rotate_left
  ·cases g
  rename_i M;refine(v.ext n).idx p λaC _ ae=>Np.mk f ae ?_
  refine ao.mk λN _ q af ah=>aF.mk q (A0 8) λai O aj aD=>?_
  rw[pM] at O;have r:Ext H ai:=af.more aj λc e=>by subst e;exact A0 _
  have aE:=Ah o;refine Az.mk (s.V a b c) (FB (r.ai o λh=>h)) (Np.mk f (QV O) ?_);refine pX (J.ext r) L (by omega) (hd f ac) λaG ak al am an ap u=>Gl.mk _ ⟨_,rfl,?_⟩
  rw[M];have B:=r.trans an;refine ao.mk λaH _ aq C aI=>aF.mk aq (A0 12) λar Q S aJ=>ag.no rfl ?_
  rw[O8] at Q;have w:Ext H ar:=B.more (C.mod.trans S) λc e=>by subst e;exact B.size
  refine Az.mk _ (FB Q) (aF.mk (w.ai o λh=>h) (A0 12) λaK T D aL=>?_);rw[O8] at T;dsimp only;rw[Aa (by omega)];have aM:=r.size;have aN:=C.size;have aO:=B.size;have aP:=w.size;have aQ:=n.size;refine ab (l.length-(i+1)) _ _ (by omega) ⟨i+1,_,ak,al,am,rfl,rfl,j,(n.trans w).more D λc e=>by subst e;omega,D.ai (w.ai I λh=>h) (by omega),T,?_,λx d=>?_,Ti L M,g⟩
  ·have au:=ap.ext (C.more S λc e=>by subst e;exact A0 _);exact au.mod D (λx d e=>by have:=u x (.inl d);omega) (λx d e=>by have:=u x (.inr (.inl d));omega) (λx d e=>by have:=u x (.inr (.inr d));omega)
  ·have:=u x d;omega
 ·have j:i=l.length:=by simp at z;omega
  subst j;rw[Mb,El] at g;obtain rfl:s=t:=BY g;refine Az.mk (s.V a b c) (FB o) (aF.mk I (A0 12) λN q U ah=>?_);rw[O8] at q;refine Az.mk (s.V a b c) (FB q) (W N a b c (n.more U λc e=>by subst e;exact A0 _) (J.mod U (λx d e=>by have:=fr x (.inl d);omega) (λx d e=>by have:=fr x (.inr (.inl d));omega) (λx d e=>by have:=fr x (.inr (.inr d));omega)) λx d=>by have:=fr x d;omega)
theorem ARj {wid:A2P}{l:List Ev}{sl:Sl}(s:Ak wid=true)(v:View dU h sl l)(S:l.length<=1000)(hd: ∀a∈l,Ej a=true/\a.data.size<1099511627776)
  (z: ∀d f,Own BQ AR f d (l.map (Ol wid))->(∀ b,d.ai=some b->h.size<=b)->Ext h f->R (J1 #[J4 d.p d.len d.cap,J6 J9 0]) f):
  AA A P PT #[J7 wid,J4 sl.p sl.len sl.cap] h R:=by
 refine AGo ?_;unfold uQ;refine FL ⟨_,rfl,?_⟩;rw[s];refine ag.no rfl ?_;refine Loop.rule (λm x t=> ∃(i:Nat) (e:Sl),x=(e,(i:Int),())/\m=l.length-i/\i<=l.length/\Ext h t/\Own BQ AR t e ((l.take i).map (Ol wid))/\(∀ b,e.ai=some b->h.size<=b)) ?_
  ⟨0,⟨none,0,0⟩,rfl,rfl,An _,Mod.refl,Own.nil,λb k=>by simp[Sl.ai] at k⟩
 rintro K m _ u ⟨i,e,rfl,rfl,T,g,n,fr⟩ B;dsimp only;have U:=v.len;refine ag.intro (λo=>?_) (λo=>?_)
 ·have j:i<l.length:=by simp at o;omega
  obtain⟨a,p⟩: ∃a,l[i]? =some a:=⟨_,A2 j⟩;obtain⟨ok,C⟩:=hd a (AM p);obtain⟨_,⟨V,W⟩,_⟩:=RZ ok;refine(v.ext g).idx p λX _ D=>Np.mk a D ?_
  refine ao.mk λY _ F G Z=>aF.mk F (A0 8) λH q I aa=>?_
  rw[pM] at q;have J:Ext u H:=G.more I λc L=>by subst L;exact A0 _
  refine Np.mk a (QV q) (AK2 C λab w=>?_);unfold oH;rw[ok];refine⟨_,_,rfl,ag.no rfl (AC.mk (AO (w.ai q λh=>h) rfl) ?_)⟩;have ac:=FE s;rw[show a.id=((a.id.toNat:Nat):Int) from by omega];refine tV (by omega) (by omega) λad M=>⟨_,rfl,?_⟩
  have r:=(J.trans w).trans M;refine ao.aZ (E:=BQ) (x:=Ol wid a) rfl G5 (n.ext r) (by simp only[Bs,Ax];omega) (by simp only[Bs,Ax,maxLen];omega) λd f N O Q ae=>?_
  rw[Aa (by omega)];refine B (l.length-(i+1)) _ _ (by omega) ⟨i+1,d,rfl,rfl,j,(g.trans r).more O fr,?_,λb k=>?_⟩
  ·rw[AD,p,DB,Bm];exact N
  ·rcases Q b k with y|y
   ·exact fr b y
   ·have:=(g.trans r).size;omega
 ·have j:i=l.length:=by simp at o;omega
  rw[j,BT] at n;exact z e u n fr g
theorem tZ {t:cn}(o: ∀d,Ext h d->R (J1 #[J7 (if Gx ⟨t.kind,t.ref,t.turn⟩ t.wid then Zy ⟨t.kind,t.ref,t.turn⟩ t.wid else⟨#[]⟩),J6 J9 (if Gx ⟨t.kind,t.ref,t.turn⟩ t.wid then 0 else 1)]) d):AA A P Pn #[t.v] h R:=by
 refine AGU ?_;unfold uS;refine ao.mk λf _ a p _=>?_
 refine aj.mk λK y=>?_
 have key: ∀k:Bool,k= !Gx ⟨t.kind,t.ref,t.turn⟩ t.wid->K (k,()) f:=λk g=>by
  refine y _ _ ?_;cases b:Gx ⟨t.kind,t.ref,t.turn⟩ t.wid with
  |false=>
   have:=o f p;rw[b] at this g;exact ag.yes g this
  |true=>
   rw[b] at g;refine ag.no g ?_;have z: ∀d,Ext f d->R (J1 #[J7 (Zy ⟨t.kind,t.ref,t.turn⟩ t.wid),J6 J9 0]) d:=λd x=>by
    have:=o d (p.trans x);rw[b] at this;exact this
   unfold Gx at b;simp only[A4,Ba] at b;obtain⟨⟨⟨⟨Q,S⟩,l⟩,T,U⟩,V,W⟩:=b;have X:=FE l;have Y:=AV (n:=t.kind.toNat) (by omega);have Z:=AV (n:=t.ref.toNat) (by omega);have aa:=AV (n:=t.turn.toNat) (by omega);have ab:=KW (s:=t.wid) (by omega);refine AC.mk (AO a rfl) (AJ.mk (n:=t.wid) (AB a rfl) (AC.mk (n:=t.ref) (AB a rfl) (AC.mk (n:=t.turn) (AB a rfl) ?_)));rw[Oc (n:=t.kind) (by omega) (by omega)];refine Cc (by omega) λac q=>⟨_,rfl,?_⟩
   have i:=q.ai a λh=>h
   refine⟨AB i rfl,AB i rfl,AB i rfl,KR (by omega) λad r=>⟨_,rfl,?_⟩⟩;have m:=r.ai i λh=>h
   refine⟨AB m rfl,AB m rfl,by rw[AP,AP,max_i64];omega,?_⟩;rw[Oc (n:=t.ref) (by omega) (by omega)];refine Cc (by omega) λae u=>⟨_,rfl,?_⟩
   have B:=u.ai m λh=>h
   refine⟨AB B rfl,by rw[Aj,AP,AP,max_i64,A1];omega,?_⟩;rw[Oc (n:=t.turn) (by omega) (by omega)];refine Cc (by omega) λj C=>⟨_,rfl,⟨by rw[Aj,Aj,AP,AP,max_i64,A1,A1];omega,?_⟩⟩
   rw[Aj,Aj,Aj,A3,A3];exact z j (((q.trans r).trans u).trans C)
 have no: ∀ {P:Prop},¬P->(Gx ⟨t.kind,t.ref,t.turn⟩ t.wid=true->P)->K (true,()) f:=λD E=>key true (by
  cases b:Gx ⟨t.kind,t.ref,t.turn⟩ t.wid with
  |false=>rfl
  |true=>exact absurd (E b) D)
 have e:Gx ⟨t.kind,t.ref,t.turn⟩ t.wid=true->(1<=t.kind/\t.kind<=7)/\Ak t.wid=true/\(0<=t.ref/\t.ref<=500)/\0<=t.turn/\t.turn<=5:=λb=>by
  unfold Gx at b;simp only[A4,Ba] at b;obtain⟨⟨⟨F,l⟩,G⟩,H⟩:=b;exact⟨F,l,G,H⟩
 refine AC.mk (AO a rfl) (ag.intro (λc=>no (P:=1<=t.kind) (by simp at c;omega) λh=>(e h).1.1) λI=>?_);refine AC.mk (AO a rfl) (ag.intro (λc=>no (P:=t.kind<=7) (by simp at c;omega) λh=>(e h).1.2) λJ=>?_);refine AJ.mk (n:=t.wid) (AB a rfl) (FL ⟨_,rfl,ag.intro (λc=>no (P:=Ak t.wid=true) (by simp at c;simp[c]) λh=>(e h).2.1) λv=>?_⟩);refine AC.mk (n:=t.ref) (AB a rfl) (ag.intro (λc=>no (P:=0<=t.ref) (by simp at c;omega) λh=>(e h).2.2.1.1) λL=>?_);refine AC.mk (n:=t.ref) (AB a rfl) (ag.intro (λc=>no (P:=t.ref<=500) (by simp at c;omega) λh=>(e h).2.2.1.2) λM=>?_);refine AC.mk (n:=t.turn) (AB a rfl) (ag.intro (λc=>no (P:=0<=t.turn) (by simp at c;omega) λh=>(e h).2.2.2.1) λw=>?_);refine AC.mk (n:=t.turn) (AB a rfl) (key _ ?_);unfold Gx;simp at I J v L M w;have N:bW t.kind 1 7=true:=Ba.2 (by omega);have O:bW t.ref 0 500=true:=Ba.2 (by omega);rw[N,O,v];show _= !(bW t.turn 0 5);unfold bW;by_cases j:t.turn<=5
 ·simp[j,w]
 ·simp[j];omega
theorem u0 {s:Sl}{p:ck}(v:View QP h s p.steps)(U:p.steps.length<=1099511627776)(G: ∀b,Ext h b->R (X0 p) b):
  AA A P MV #[.agg #[J4 s.p s.len s.cap,J6 J9 p.aA]] h R:=by
 refine ACX ?_;unfold Vx;refine ao.mk λaA _ u k _=>?_
 refine AZ.mk (s:=s) (AO u rfl) (AC.mk (AB u rfl) ?_);refine yn (p:=p) (v.ext k) U λw o=>⟨_,rfl,?_⟩
 cases q:Fz p with
 |false=>
  refine ag.yes rfl ?_;have:=G w (k.trans o);rw[X0,q] at this;exact this
 |true=>
  refine ag.no rfl ?_;have V: ∀b,Ext w b->R (J1 #[J7 (AX (Ci p)),J6 J9 0]) b:=λb x=>by
   have:=G b ((k.trans o).trans x);rw[X0,q] at this;exact this
  simp only[Fz,A4,decide_eq_true_eq] at q;obtain⟨⟨aC,W⟩,H⟩:=q;have aD:=Ba.1 W;have y:=o.ai u (λh=>h);refine AC.mk (n:=p.aA) (AB y rfl) (AZ.mk (s:=s) (AO y rfl) ?_);rw[Oc (n:=p.aA) (by omega) (by omega)];refine Cc (by omega) λaE I=>⟨_,rfl,?_⟩
  have J:=I.ai y (λh=>h);refine⟨AO J rfl,?_⟩;rw[v.len,CF (by omega)];have aF:=AV (n:=p.aA.toNat) (by omega);have aG:=AV (n:=p.steps.length) (by omega);refine Cc (by omega) λX L=>⟨_,rfl,⟨by rw[AP,AP,max_i64];omega,?_⟩⟩
  have Y:=L.ai J (λh=>h);rw[Aj];refine AZ.mk (s:=s) (AO Y rfl) ?_;refine Loop.rule (λm x f=> ∃i:Nat,x=(AX ((Bc p.aA.toNat++Bc p.steps.length)++(p.steps.take i).flatMap G8),(i:Int),())/\Ext X f/\m=p.steps.length-i/\i<=p.steps.length) ?_ ⟨0,by simp,Mod.refl,rfl,by omega⟩;rintro K m _ f ⟨i,rfl,M,rfl,aH⟩ Z;have N:Ext w f:=(I.trans L).trans M;have aa:Ext h f:=(k.trans o).trans N;dsimp only;have aI:=v.len;refine ag.intro (λz=>?_) (λz=>?_)
  ·have B:i<p.steps.length:=by simp at z;omega
   obtain⟨x,C⟩: ∃x,p.steps[i]? =some x:=⟨_,A2 B⟩;have ab:=AM C;have ac:=List.all_eq_true.1 H x ab;obtain⟨aJ,aK,aL,aM,aN,aO,aP,aQ,aR,aS,aT⟩:=yw ac;have aU:((p.steps.take i).flatMap G8).length<=1600:=by
    have:=PU (l:=p.steps.take i) (List.all_eq_true.2 λad ae=>List.all_eq_true.1 H ad (DM ae));have:(p.steps.take i).length<=16:=by simp;omega
    omega
   have fin: ∀b,Ext f b->K (AX (((Bc p.aA.toNat++Bc p.steps.length)++(p.steps.take i).flatMap G8)++G8 x),J8 J9 ((i:Int)+1),()) b:=λb ah=>by
    rw[Aa (by omega)];refine Z (p.steps.length-(i+1)) _ _ (by omega) ⟨i+1,?_,M.trans ah,rfl,B⟩;rw[AD,C,DB,Ge];simp[A3]
   generalize ai:(Bc p.aA.toNat++Bc p.steps.length)++(p.steps.take i).flatMap G8=ak at*
   have aV:ak.length<=2000:=by rw[<- ai];simp only[A1];omega
   refine(v.ext aa).idx C λa _ c=>?_
   obtain⟨al,am,c2,an,c4,ap⟩:=yl c;refine AC.mk al (AJ.mk am (AJ.mk c2 (AC.mk an (AC.mk c4 (AC.mk ap ?_)))));refine ao.mk λaW _ aq ar aX=>af.oX aq λau O av aY=>?_
   have aw:Ext f au:=ar.more av λc aZ=>by omega
   refine AC.mk (n:=x.kind) (AO O rfl) ?_;rw[Oc (n:=x.kind) (by omega) (by omega)];refine Cc (by omega) λa0 Q=>⟨_,rfl,?_⟩
   have a1:=AV (n:=x.kind.toNat) (by omega);refine⟨by rw[AP,AP,max_i64];omega,?_⟩;have d:=Q.ai O (λh=>h);have D:=aw.trans Q;rw[Aj];refine AC.mk (n:=x.kind) (AO d rfl) ?_;have a2:=AV (n:=x.tries.toNat) (by omega);have a3:=AV (n:=x.aC.toNat) (by omega);have a4:=AV (n:=x.wait.toNat) (by omega);have a5:=KW (s:=x.name) (by omega);have a6:=KW (s:=x.aM) (by omega);refine aj.mk λa7 E=>?_
   refine ag.intro (λe=>?_) (λe=>?_)
   ·have e:x.kind=1:=by simpa using e
    refine AJ.mk (n:=x.name) (AB d rfl) (AC.mk (n:=x.tries) (AB d rfl) (AJ.mk (n:=x.aM) (AB d rfl) (AC.mk (n:=x.aC) (AB d rfl) (KR (by omega) λr j=>⟨_,rfl,?_⟩))));have t:=j.ai d (λh=>h);refine⟨AB t rfl,AB t rfl,AB t rfl,?_⟩;rw[Oc (n:=x.tries) (by omega) (by omega)];refine Cc (by omega) λa8 S=>⟨_,rfl,?_⟩
    have F:=S.ai t (λh=>h);refine⟨AB F rfl,AB F rfl,by rw[AP,AP,max_i64];omega,?_⟩;refine KR (by omega) λa9 T=>⟨_,rfl,?_⟩
    have ax:=T.ai F (λh=>h);refine⟨AB ax rfl,by rw[Aj,AP,AP,max_i64,A1];omega,?_⟩;rw[Oc (n:=x.aC) (by omega) (by omega)];refine Cc (by omega) λay az=>⟨_,rfl,⟨?_,?_,E _ _ ?_⟩⟩
    ·rw[Aj,Aj,AP,AP,max_i64];simp only[A1];omega
    ·simp only[Aj,AP,max_i64,A1];omega
    ·have:=fin ay ((((D.trans j).trans S).trans T).trans az);simp only[G8] at this;rw[if_pos e] at this;simp only[Aj,A3] at this ⊢;exact this
   ·have e:x.kind≠1:=by simpa using e
    refine ag.intro (λg=>?_) (λg=>?_)
    ·have g:x.kind=2:=by simpa using g
     refine AC.mk (n:=x.wait) (AB d rfl) ?_;rw[Oc (n:=x.wait) (by omega) (by omega)];refine Cc (by omega) λr j=>⟨_,rfl,⟨by rw[AP,AP,max_i64,A1];omega,E _ _ ?_⟩⟩
     have:=fin r (D.trans j);simp only[G8] at this;rw[if_neg e,if_pos g] at this;simp only[Aj,A3] at this ⊢;exact this
    ·have g:x.kind≠2:=by simpa using g
     refine ag.yes (by simp;omega) (AJ.mk (n:=x.name) (AB d rfl) (KR (by omega) λr j=>⟨_,rfl,⟨by rw[AP,AP,max_i64,A1];omega,E _ _ ?_⟩⟩));have:=fin r (D.trans j);simp only[G8] at this;rw[if_neg e,if_neg g] at this;simp only[Aj,A3] at this ⊢;exact this
  ·have B:i=p.steps.length:=by simp at z;omega
   have:=V f N;rw[AG (by omega)];exact this
end
def Lp(a:Nat):A2P:=AX [116,Bq a]
def K9(name:A2P):A2P:=AX (113::BR (bl name))
section
variable {A : ar} {h : aa} {R : A2O}
theorem ANx {a:Nat}(c:a<256)(d: ∀b,Ext h b->R (J7 (Lp a)) b):AA A P JX #[J6 J9 (a:Int)] h R:=by
 refine Ph ?_;unfold MJ;refine pY c λe f=>⟨_,rfl,⟨by rw[AP,max_i64];show((2:Nat):Int)<=9223372036854775807;decide,?_⟩⟩
 rw[show(⟨#[116]⟩:A2P)=AX [116] from rfl,Aj];exact d e f
theorem RI {name:A2P}(a:name.size<=1000000):(K9 name).size<=1000012:=by
 have b:=AV (n:=(bl name).length) (by rw[A7];omega);unfold K9;rw[AP];unfold BR;rw[A5,A1,A7] at*
 omega
theorem pP {name:A2P}(c:name.size<=1000000)(d: ∀a,Ext h a->R (J7 (K9 name)) a):AA A P Pb #[J7 name] h R:=by
 refine AHI ?_;unfold uN;have b:=RI c;unfold K9 at b;rw[AP,A5] at b;refine KR (by omega) λe f=>⟨_,rfl,⟨?_,?_⟩⟩
 ·rw[AP,max_i64,show(⟨#[113]⟩:A2P).size=1 from rfl];omega
 ·rw[show(⟨#[113]⟩:A2P)=AX [113] from rfl,Aj];exact d e f
theorem AMq {name id:A2P}(a:name.size<=1000000)(f:id.size<=1000000)(c: ∀b,Ext h b->R (J7 (K9 name++id)) b):AA A P Py #[J7 name,J7 id] h R:=by refine ADa ?_;unfold WX;exact pP a λd e=>⟨_,rfl,⟨by have:=RI a;rw[max_i64];omega,c d e⟩⟩
theorem tj {t:fO}{wid:A2P}(ok:Gx t wid=true)(r: ∀j,Ext h j->R (J1 #[(⟨t.kind,wid,t.ref,t.turn⟩:cn).v,J6 J9 0]) j):AA A P MX #[J7 (Zy t wid)] h R:=by
 have k:=ok;simp only[Gx,A4] at k;obtain⟨⟨⟨s,u⟩,v⟩,w⟩:=k;have V:=Ba.1 s;have W:=Ba.1 v;have X:=Ba.1 w;have Y:=(Ga.1 u).2.1;have Z:=Fb (n:=t.kind.toNat) (by omega);have aa:=Fb (n:=t.ref.toNat) (by omega);have ab:=Fb (n:=t.turn.toNat) (by omega);have x:=AV (n:=(bl wid).length) (by rw[A7];omega);have ac:(BR (bl wid)).length<=26:=by unfold BR;rw[A1,A7];rw[A7] at x;omega
 refine ADl ?_;unfold Vh Zy mq;refine ao.mk λy _ l m ad=>?_
 refine Jo λae z d=>⟨_,rfl,?_⟩
 refine DN (most:=7) z (by simp only[A1];omega) (by decide) λaf B C=>⟨_,rfl,?_⟩
 rw[CP (by omega) (by omega)] at*
 refine G7 B (by simp only[A1];omega) λah D E=>⟨_,rfl,?_⟩
 rw[IR (by rw[A7];omega)] at*
 refine DN (most:=500) D (by simp only[A1];omega) (by decide) λai F G=>⟨_,rfl,?_⟩
 rw[CP (by omega) (by omega)] at*
 have H:CQ 5 ⟨Bc t.turn.toNat,false⟩=(t.turn.toNat,⟨[],false⟩):=by have:=CP (n:=t.turn.toNat) (most:=5) (by omega) (by omega) [];rwa [AK] at this
 refine DN (most:=5) F (by simp only;omega) (by decide) λI o J=>⟨_,rfl,?_⟩
 rw[H] at*
 rw[Kv,show((t.kind.toNat:Nat):Int)=t.kind from OS (by omega),show((t.ref.toNat:Nat):Int)=t.ref from OS (by omega),show((t.turn.toNat:Nat):Int)=t.turn from OS (by omega)];refine ao.mk λak _ L e al=>aF.mk L (A0 4) λf p g am=>JC.mk ⟨t.kind,wid,t.ref,t.turn⟩ (Cr p rfl) ?_
 have an:=Ah l;have ap:=d.size;have i:=((C.trans E).trans G).trans J;have aq:=i.size;have M:f[h.size]? =some (J2 cn.z.c Fu (0,0)):=g.ai (e.ai (i.ai (d.ai l (λh=>h)) (by omega)) (λh=>h)) (by omega);have N:Ib f y.size ⟨[],false⟩:=g.ai (e.ai o (λh=>h)) (by have:=Ah o;omega);have O:Ext h f:=by
  have q:Ext h I:=(m.trans d).more i λc a=>by subst a;exact m.size
  exact(q.trans e).more g λc a=>by subst a;exact q.size
 refine tZ λar b=>⟨_,_,rfl,?_⟩
 rw[show(⟨t.kind,t.ref,t.turn⟩:fO)=t from rfl,if_pos ok];refine aj.mk λK Q=>ag.no rfl (MS (b.ai N λh=>h) ⟨_,rfl,Q _ _ (ag.no rfl ?_)⟩)
 refine JC.mk ⟨t.kind,wid,t.ref,t.turn⟩ (Cr (b.ai p λh=>h) rfl) (aF.mk (b.ai M λh=>h) (A0 4) λS T U au=>JC.mk ⟨t.kind,wid,t.ref,t.turn⟩ (Cr T rfl) ?_);exact r S ((O.trans b).more U λc a=>by subst a;exact A0 _)
end
end Go.Lf.G
namespace Go.Lf
open G
open Go
open M (Sorted Af CY A9 Ag Ar BU Ai bC BH aQ BF)
theorem View.dx {c:Type}{d:cF c}{e:Nat->Prop}{h f:aa}{s:Sl}{l:List c}(v:View d h s l)(m:Mod e h f)(j:l≠ []-> ∀b,s.ai=some b-> ¬e b):View d f s l:=by
 cases l with
 |nil=>exact⟨v.len,v.cap,λi x k=>by simp at k⟩
 |cons x l=>exact v.mod m (j (by simp))
end Go.Lf
namespace Go.Lf.G
open Go
open M (Sorted Af CY A9 Ag Ar BU Ai bC BH aQ BF)
end Go.Lf.G
namespace Go.Lf
open G
open Go
open M (Sorted Af CY A9 Ag Ar BU Ai bC BH aQ BF)
theorem View.mP {f:Type}{d:cF f}{h:aa}{s:Sl}{l:List f}(v:View d h s l)(j:l≠ []){b:Nat}(e:s.ai=some b):b<h.size:=by
 cases l with
 |nil=>exact absurd rfl j
 |cons x l=>
  obtain⟨a,k,c⟩:=v.cells 0 x rfl;have m:0<(d.enc x).length:=by rw[d.len];exact d.pos
  have:=VD (c 0 _ (A2 m));rw[aV,aV] at this;unfold Sl.ai at e;rw[k] at e;cases e;exact this
end Go.Lf
namespace Go.Lf.G
open Go
open M (Sorted Af CY A9 Ag Ar BU Ai bC BH aQ BF)
theorem af.mQ {h:aa}{b d:Nat}{v:J0}{l l':List J0}{T:Q7}{K:aa->Prop}(e:h[b]? =some (J2 ⟨l⟩ T (0,0)))(f:d<l.length)(j:l.set d v=l')
  (k: ∀c,c[b]? =some (J2 ⟨l'⟩ T (0,0))->Mod (· =b) h c->c.size=h.size->K c):af h ((⟨b,0,none⟩:Q6).add d) v K:=
 af.bM e f (Wa l d v) λc m=>k c (by rw[<- j];exact m)
theorem Ce {h:aa}{b j:Nat}{l:List J0}{T:Q7}{fr:Nat×Nat}{v:J0}(c:h[b]? =some (J2 ⟨l⟩ T fr))(d:l[j]? =some v):ah h ((⟨b,0,none⟩:Q6).add j)=some v:=
 AB c (by simp_all)
theorem Cj {h:aa}{b i c:Nat}{l:List J0}{T:Q7}{fr:Nat×Nat}{v:J0}(d:h[b]? =some (J2 ⟨l⟩ T fr))(e:l[i+c]? =some v):ah h (((⟨b,0,none⟩:Q6).add i).add c)=some v:=by rw[add_add];exact Ce d e
theorem AQ8 {h:aa}{b i c d:Nat}{l:List J0}{T:Q7}{fr:Nat×Nat}{v:J0}(e:h[b]? =some (J2 ⟨l⟩ T fr))(f:l[i+(c+d)]? =some v):ah h ((((⟨b,0,none⟩:Q6).add i).add c).add d)=some v:=by rw[add_add];exact Cj e f
structure eF where
 hp:Nat
 ev:Sl
 fs:bH
 a:Sl
 b:Sl
 c:Sl
 more:Sl
 au:Sl
 conds:Sl
abbrev eF.l(x:eF)(C:bz):List J0:= [Aq x.hp,J7 C.wid,J6 J9 (C.aq:Int),J6 J9 C.cu,J6 J9 C.bX,J3 C.kept,J4 x.ev.p x.ev.len x.ev.cap,
 J4 x.fs.steps.p x.fs.steps.len x.fs.steps.cap,J6 J9 x.fs.aA,J6 J9 x.fs.status,J6 J9 x.fs.next,J6 J9 x.fs.ba,J6 J9 x.fs.asked,J6 J9 x.fs.taken,J3 x.fs.fresh,J4 x.fs.aw.p x.fs.aw.len x.fs.aw.cap,J4 x.fs.al.p x.fs.al.len x.fs.al.cap,J3 x.fs.cancel,J3 x.fs.aS,
 J4 x.a.p x.a.len x.a.cap,J6 J9 C.st.prog.aA,J6 J9 C.st.status,J6 J9 C.st.next,J6 J9 C.st.ba,J6 J9 C.st.asked,J6 J9 C.st.taken,J3 C.st.fresh,J4 x.b.p x.b.len x.b.cap,J4 x.c.p x.c.len x.c.cap,J3 C.st.cancel,J3 C.st.aS,
 J4 x.more.p x.more.len x.more.cap,J4 x.au.p x.au.len x.au.cap,J4 x.conds.p x.conds.len x.conds.cap,J6 J9 C.err,J6 J9 C.now]
structure FX (h:aa) (cb:Nat) (z:Nat->Nat) (x:eF) (C:bz):Prop where
 ai:h[cb]? =some (J2 ⟨x.l C⟩ NK (0,0))
 zc:z cb=1
 st:JK h C.st x.a x.b x.c
 zs: ∀y,(C.st.prog.steps≠ []/\x.a.ai=some y)\/(C.st.aw≠ []/\x.b.ai=some y)\/(C.st.al≠ []/\x.c.ai=some y)->z y=5
 more:Own dU A8 h x.more C.more
 zm: ∀y,x.more.ai=some y->z y=2
 au:Own BQ AR h x.au C.au
 zp: ∀y,x.au.ai=some y->z y=3
 conds:Own BQ AR h x.conds C.conds
 zq: ∀y,x.conds.ai=some y->z y=4
theorem JK.dx {k:Nat->Prop}{h n:aa}{s:bg}{a b c:Sl}(f:JK h s a b c)(m:Mod k h n)(j: ∀y,(s.prog.steps≠ []/\a.ai=some y)\/(s.aw≠ []/\b.ai=some y)\/(s.al≠ []/\c.ai=some y)-> ¬k y):JK n s a b c:=
 ⟨f.steps.dx m λd y e=>j y (.inl ⟨d,e⟩),f.aw.dx m λd y e=>j y (.inr (.inl ⟨d,e⟩)),f.al.dx m λd y e=>j y (.inr (.inr ⟨d,e⟩))⟩
section
variable {A : ar} {B : cI} {g h : aa} {s a N sh cb : Nat} {l : List Hs} {mp : List Pr} {O : Nat -> Prop} {i : Nat} {y : Hs} {z : Nat -> Nat} {x : eF} {C : bz} {R : A2O}
theorem FX.mod {f:Nat->Prop}{j:aa}(b:FX h cb z x C)(m:Mod f h j)(e: ∀c,z c≠0-> ¬f c):FX j cb z x C:=
 ⟨m.ai b.ai (e cb (by rw[b.zc];decide)),b.zc,b.st.dx m λy d=>e y (by rw[b.zs y d];decide),b.zs,b.more.mod m λy d=>e y (by rw[b.zm y d];decide),b.zm,b.au.mod m λy d=>e y (by rw[b.zp y d];decide),b.zp,b.conds.mod m λy d=>e y (by rw[b.zq y d];decide),b.zq⟩
theorem FX.on {b:aa}(c:FX h cb z x C)(m:Ext h b):FX b cb z x C:=c.mod m λ_ _ h=>h
theorem FX.cell {d:aa}(b:FX h cb z x C){f:Int}(m:Mod (· =cb) h d)(k:d[cb]? =some (J2 ⟨x.l {C with err:=f}⟩ NK (0,0))):FX d cb z x {C with err:=f}:=by
 have ne: ∀y e,z y=e->e≠1-> ¬y=cb:=λy e j n o=>by subst o;rw[b.zc] at j;exact n j.symm
 exact⟨k,b.zc,b.st.dx m λy c=>ne y 5 (b.zs y c) (by decide),b.zs,b.more.mod m λy c=>ne y 2 (b.zm y c) (by decide),b.zm,b.au.mod m λy c=>ne y 3 (b.zp y c) (by decide),b.zp,b.conds.mod m λy c=>ne y 4 (b.zq y c) (by decide),b.zq⟩
theorem FX.err(c:FX h cb z x C){d:Int}{K:aa->Prop}(e: ∀b,FX b cb z x {C with err:=d}->Mod (· =cb) h b->b.size=h.size->K b):af h ((⟨cb,0,none⟩:Q6).add 34) (J6 J9 d) K:=
 af.mQ c.ai (of_decide_eq_true rfl) rfl λb f m j=>e b (c.cell m f) m j
def gO(z:Nat->Nat)(s:Sl)(b:Nat):Nat->Nat:=λc=>if s.ai=some c then b else z c
theorem pZ {s:Sl}{b c:Nat}(h:s.ai=some c):gO z s b c=b:=if_pos h
theorem qa {e f:Sl}{j:Nat}(k: ∀c,z c≠0->c<h.size)(m: ∀y,e.ai=some y->z y=j)(n: ∀b,f.ai=some b->e.ai=some b\/h.size<=b){c d:Nat}(o:z c=d)(p:d≠0):gO z f j c=d:=by grind [gO]
theorem qc {f d:Sl}{e:Nat}{j:aa}(k: ∀y,f.ai=some y->z y=e)(m:e≠0)(n: ∀b,d.ai=some b->f.ai=some b\/h.size<=b)(o: ∀b,d.ai=some b->b<j.size){c:Nat}(p:gO z d e c≠0):z c≠0\/(h.size<=c/\c<j.size):=by grind [gO]
theorem FX.lj(d:FX h cb z x C)(H: ∀c,z c≠0->c<h.size){src:Sl}{f:Ev}(v:View dU h src [f])(V:C.more.length<1000){K:aa->Prop}
  (M: ∀r j I,FX r cb I {x with more:=j} {C with more:=C.more++ [f]}->Mod (λc=>z c≠0) h r->(∀ c,I c≠0->z c≠0\/(h.size<=c/\c<r.size))->K r):
  BI A P (Builtin.append_ #[Bb,Bb] Bb #[J4 x.more.p x.more.len x.more.cap,J4 src.p src.len src.cap]) h λv n=> ∃t:Sl,v=J4 t.p t.len t.cap/\af n ((⟨cb,0,none⟩:Q6).add 31) (J4 t.p t.len t.cap) K:=by
 refine Fx (E:=dU) (s:=x.more) (src:=src) mD d.more v (by grind) (by simp only[Cd,maxLen];omega) λj n J o L _=>?_
 have u: ∀c k,z c=k->k≠2-> ¬x.more.ai=some c:=λc k p D f=>by rw[d.zm c f] at p;exact D p.symm
 have Q:=o.ai d.ai (u cb 1 d.zc (by decide));refine af.mQ Q (of_decide_eq_true rfl) (l':=({x with more:=j}:eF).l {C with more:=C.more++ [f]}) rfl λD S q W=>?_
 have F: ∀c k,z c=k->k≠1-> ¬c=cb:=λc k p n f=>by subst f;rw[d.zc] at p;exact n p.symm
 have X:=H cb (by rw[d.zc];decide);have T: ∀b,j.ai=some b->b<n.size:=λb w=>J.lt w
 have aN: ∀ {c G:Nat},z c=G->G≠0->gO z j 2 c=G:=λm U=>qa H d.zm L m U
 refine M D j (gO z j 2) ⟨S,aN d.zc (by decide),?_,λy e=>aN (d.zs y e) (by decide),?_,λy e=>pZ e,?_,λy e=>aN (d.zp y e) (by decide),?_,λy e=>aN (d.zq y e) (by decide)⟩ ?_ λc m=>?_
 ·exact(d.st.dx o λy e=>u y 5 (d.zs y e) (by decide)).dx q λy e=>F y 5 (d.zs y e) (by decide)
 ·refine J.mod q λb w f=>?_
  grind
 ·exact(d.au.mod o λy e=>u y 3 (d.zp y e) (by decide)).mod q λy e=>F y 3 (d.zp y e) (by decide)
 ·exact(d.conds.mod o λy e=>u y 4 (d.zq y e) (by decide)).mod q λy e=>F y 4 (d.zq y e) (by decide)
 ·exact(o.ak λc _ m=>by rw[d.zm c m];decide).trans (q.ak λc _ m=>by grind)
 ·exact qc d.zm (by decide) L (λb w=>by have:=T b w;omega) m
theorem FX.eI(d:FX h cb z x C)(I: ∀c,z c≠0->c<h.size){p:Pr}(W:C.au.length<1000){K:aa->Prop}
  (Q: ∀u f J,FX u cb J {x with au:=f} {C with au:=C.au++ [p]}->Mod (λc=>z c≠0) h u->(∀ c,J c≠0->z c≠0\/(h.size<=c/\c<u.size))->K u):
  ao h (J2 #[J7 p.key,J7 p.val,J3 p.gone] AR) λb m=>BI A P (Builtin.append_ #[AQ,AQ] AQ #[J4 x.au.p x.au.len x.au.cap,J4 (some (⟨b,0,none⟩:Q6)) 1 1]) m λv n=> ∃t:Sl,v=J4 t.p t.len t.cap/\af n ((⟨cb,0,none⟩:Q6).add 32) (J4 t.p t.len t.cap) K:=by
 refine ao.aZ (E:=BQ) (x:=p) (s:=x.au) (l:=C.au) rfl G5 d.au (by omega) (by simp only[maxLen];omega) λf m L o M _=>?_
 have w: ∀c j,z c=j->j≠3-> ¬x.au.ai=some c:=λc j q n D=>by rw[d.zp c D] at q;exact n q.symm
 have S:=o.ai d.ai (w cb 1 d.zc (by decide));refine af.mQ S (of_decide_eq_true rfl) (l':=({x with au:=f}:eF).l {C with au:=C.au++ [p]}) rfl λn T r X=>?_
 have G: ∀c j,z c=j->j≠1-> ¬c=cb:=λc j q m D=>by subst D;rw[d.zc] at q;exact m q.symm
 have Y:=I cb (by rw[d.zc];decide);have U: ∀b,f.ai=some b->b<m.size:=λb F=>L.lt F
 have aN: ∀ {c H:Nat},z c=H->H≠0->gO z f 3 c=H:=λk V=>qa I d.zp M k V
 refine Q n f (gO z f 3) ⟨T,aN d.zc (by decide),?_,λy e=>aN (d.zs y e) (by decide),?_,λy e=>aN (d.zm y e) (by decide),?_,λy e=>pZ e,?_,λy e=>aN (d.zq y e) (by decide)⟩ ?_ λc k=>?_
 ·exact(d.st.dx o λy e=>w y 5 (d.zs y e) (by decide)).dx r λy e=>G y 5 (d.zs y e) (by decide)
 ·exact(d.more.mod o λy e=>w y 2 (d.zm y e) (by decide)).mod r λy e=>G y 2 (d.zm y e) (by decide)
 ·refine L.mod r λb F D=>?_
  grind
 ·exact(d.conds.mod o λy e=>w y 4 (d.zq y e) (by decide)).mod r λy e=>G y 4 (d.zq y e) (by decide)
 ·exact(o.ak λc _ k=>by rw[d.zp c k];decide).trans (r.ak λc _ k=>by grind)
 ·exact qc d.zp (by decide) M (λb F=>by have:=U b F;omega) k
theorem FX.fK(d:FX h cb z x C)(I: ∀c,z c≠0->c<h.size){p:Pr}(W:C.conds.length<1000){K:aa->Prop}
  (Q: ∀u f J,FX u cb J {x with conds:=f} {C with conds:=C.conds++ [p]}->Mod (λc=>z c≠0) h u->(∀ c,J c≠0->z c≠0\/(h.size<=c/\c<u.size))->K u):
  ao h (J2 #[J7 p.key,J7 p.val,J3 p.gone] AR) λb m=>BI A P (Builtin.append_ #[AQ,AQ] AQ #[J4 x.conds.p x.conds.len x.conds.cap,J4 (some (⟨b,0,none⟩:Q6)) 1 1]) m λv n=> ∃t:Sl,v=J4 t.p t.len t.cap/\af n ((⟨cb,0,none⟩:Q6).add 33) (J4 t.p t.len t.cap) K:=by
 refine ao.aZ (E:=BQ) (x:=p) (s:=x.conds) (l:=C.conds) rfl G5 d.conds (by omega) (by simp only[maxLen];omega) λf m L o M _=>?_
 have w: ∀c j,z c=j->j≠4-> ¬x.conds.ai=some c:=λc j q n D=>by rw[d.zq c D] at q;exact n q.symm
 have S:=o.ai d.ai (w cb 1 d.zc (by decide));refine af.mQ S (of_decide_eq_true rfl) (l':=({x with conds:=f}:eF).l {C with conds:=C.conds++ [p]}) rfl λn T r X=>?_
 have G: ∀c j,z c=j->j≠1-> ¬c=cb:=λc j q m D=>by subst D;rw[d.zc] at q;exact m q.symm
 have Y:=I cb (by rw[d.zc];decide);have U: ∀b,f.ai=some b->b<m.size:=λb F=>L.lt F
 have aN: ∀ {c H:Nat},z c=H->H≠0->gO z f 4 c=H:=λk V=>qa I d.zq M k V
 refine Q n f (gO z f 4) ⟨T,aN d.zc (by decide),?_,λy e=>aN (d.zs y e) (by decide),?_,λy e=>aN (d.zm y e) (by decide),?_,λy e=>aN (d.zp y e) (by decide),?_,λy e=>pZ e⟩ ?_ λc k=>?_
 ·exact(d.st.dx o λy e=>w y 5 (d.zs y e) (by decide)).dx r λy e=>G y 5 (d.zs y e) (by decide)
 ·exact(d.more.mod o λy e=>w y 2 (d.zm y e) (by decide)).mod r λy e=>G y 2 (d.zm y e) (by decide)
 ·exact(d.au.mod o λy e=>w y 3 (d.zp y e) (by decide)).mod r λy e=>G y 3 (d.zp y e) (by decide)
 ·refine L.mod r λb F D=>?_
  grind
 ·exact(o.ak λc _ k=>by rw[d.zq c k];decide).trans (r.ak λc _ k=>by grind)
 ·exact qc d.zq (by decide) M (λb F=>by have:=U b F;omega) k
def Tk(t:bg)(a b c:Sl)(y:Nat):Prop:=(t.prog.steps≠ []/\a.ai=some y)\/(t.aw≠ []/\b.ai=some y)\/(t.al≠ []/\c.ai=some y)
open Classical in
noncomputable def jR (z:Nat->Nat) (t:bg) (a b c:Sl):Nat->Nat:=λy=>if Tk t a b c y then 5 else z y
theorem JK.lt {t:bg}{a b c:Sl}(f:JK h t a b c){y:Nat}(j:Tk t a b c y):y<h.size:=by
 rcases j with⟨d,e⟩|⟨d,e⟩|⟨d,e⟩
 ·exact f.steps.mP d e
 ·exact f.aw.mP d e
 ·exact f.al.mP d e
theorem FX.lr {n:aa}{t:bg}{f j k:Sl}(e:FX h cb z x C)(H: ∀c,z c≠0->c<h.size)(w:Ext h n)(D:JK n t f j k)(fr: ∀y,f.ai=some y\/j.ai=some y\/k.ai=some y->h.size<=y){K:aa->Prop}
  (I: ∀o E,FX o cb E {x with a:=f,b:=j,c:=k} {C with st:=t}->Mod (λc=>z c≠0) h o->Mod (· =cb) n o->(∀ c,E c≠0->z c≠0\/(h.size<=c/\c<o.size))->K o):
  aF n ((⟨cb,0,none⟩:Q6).add 19) (t.V f j k).l K:=by
 have q:=e.on w;have J:(⟨cb,0,none⟩:Q6).add 19=⟨cb,19,none⟩:=rfl;rw[J];refine aF.mk q.ai (of_decide_eq_true rfl) λL M m Q=>?_
 have S:=H cb (by rw[e.zc];decide);have P: ∀y,Tk t f j k y->h.size<=y:=λy d=>fr y (by
  rcases d with⟨_,h⟩|⟨_,h⟩|⟨_,h⟩
  ·exact .inl h
  ·exact .inr (.inl h)
  ·exact .inr (.inr h))
 have u: ∀c v,z c=v->v≠1-> ¬c=cb:=λc v F n G=>by subst G;rw[e.zc] at F;exact n F.symm
 have aN: ∀ {c r:Nat},z c=r->r≠0->jR z t f j k c=r:=λ{c r} p T=>by
  unfold jR
  grind
 refine I L (jR z t f j k) ⟨M,aN e.zc (by decide),?_,λy d=>if_pos d,q.more.mod m λy d=>u y 2 (e.zm y d) (by decide),λy d=>aN (e.zm y d) (by decide),q.au.mod m λy d=>u y 3 (e.zp y d) (by decide),λy d=>aN (e.zp y d) (by decide),q.conds.mod m λy d=>u y 4 (e.zq y d) (by decide),λy d=>aN (e.zq y d) (by decide)⟩ ?_ m λc p=>?_
 ·exact D.dx m λy d G=>by grind
 ·exact w.mod.trans (m.ak λc _ p=>by grind)
 ·unfold jR at p;split at p
  ·rename_i d;exact .inr ⟨P c d,by have:=D.lt d;have:=m.size;omega⟩
  ·exact .inl p
theorem FX.ld(b:FX h cb z x C):Cells h ((⟨cb,0,none⟩:Q6).add 19) (C.st.V x.a x.b x.c).l:=by have c:(⟨cb,0,none⟩:Q6).add 19=⟨cb,19,none⟩:=rfl;rw[c];exact Cr b.ai rfl
theorem LW.out(b:LW B g h s a N sh l mp O){c:Nat}(d:O c):c<h.size/\g.size<=c:=by
 obtain⟨e,f,st,m,j,nn,C,k,n,o,p,out⟩:=b
 simp_all
structure CW (B:cI) (g h:aa) (s a N sh:Nat) (l:List Hs) (i:Nat) (y:Hs) (mp:List Pr) (O:Nat->Prop) (cb:Nat) (z:Nat->Nat) (x:eF) (C:bz):Prop where
 w:LW B g h s a N sh (l.set i y) mp (λc=>O c\/z c≠0)
 il:i<l.length
 no: ∀c,z c≠0-> ¬O c
 hp:x.hp=y.p
 bF:FX h cb z x C
theorem CW.fT(b:CW B g h s a N sh l i y mp O cb z x C): ∀c,z c≠0->c<h.size:=λc d=>(b.w.out (.inr d)).1
theorem CW.zfr(b:CW B g h s a N sh l i y mp O cb z x C): ∀c,z c≠0->bq g O c:=λc d=>⟨(b.w.out (.inr d)).2,b.no c d⟩
theorem CW.frame {b:aa}(d:CW B g h s a N sh l i y mp O cb z x C)(m:Mod (λc=>z c≠0) h b):Mod (bq g O) h b:=m.ak λc _ e=>d.zfr c e
theorem CW.step {d:aa}{f:Nat->Nat}{x':eF}{j:bz}(b:CW B g h s a N sh l i y mp O cb z x C)(m:Mod (λc=>z c≠0) h d)(n: ∀c,f c≠0->z c≠0\/(h.size<=c/\c<d.size))(o:x'.hp=x.hp)(p:FX d cb f x' j):CW B g d s a N sh l i y mp O cb f x' j:=
 ⟨b.w.own (m.ak λc _ e=> .inr e) λc e=>by
   grind,
  b.il,λc e k=>by
   rcases n c e with h|h
   ·exact b.no c h k
   ·have:=(b.w.out (.inl k)).1;omega,
  o.trans b.hp,p⟩
theorem CW.on {c:aa}(b:CW B g h s a N sh l i y mp O cb z x C)(m:Ext h c):CW B g c s a N sh l i y mp O cb z x C:=⟨b.w.on m,b.il,b.no,b.hp,b.bF.on m⟩
theorem CW.wider {e:aa}{O':Nat->Prop}(b:CW B g h s a N sh l i y mp O cb z x C)(m:Mod O h e)(j: ∀c,O' c->O c\/(h.size<=c/\c<e.size)):CW B g e s a N sh l i y mp O' cb z x C:=
 ⟨b.w.own (m.ak λc _ d=> .inl d) λc d=>by
   grind,
  b.il,λc d f=>by
   rcases j c f with h|h
   ·exact b.no c d h
   ·have:=b.fT c d;omega,
  b.hp,b.bF.mod m λc d f=>b.no c d f⟩
end
theorem u5 {h:aa}{b:Nat}{T:Q7}{fr:Nat×Nat}{c:Ev}(d:h[b]? =some (J2 c.c T fr)):ah h (⟨b,0,none⟩:Q6)=some (J6 J9 c.id)/\ah h ((⟨b,0,none⟩:Q6).add 1)=some (J6 J9 c.kind)/\ah h ((⟨b,0,none⟩:Q6).add 2)=some (J6 J9 c.tick)/\ah h ((⟨b,0,none⟩:Q6).add 3)=some (J6 J9 c.ref)/\ah h ((⟨b,0,none⟩:Q6).add 4)=some (J6 J9 c.step)/\ah h ((⟨b,0,none⟩:Q6).add 5)=some (J6 J9 c.turn)/\ah h ((⟨b,0,none⟩:Q6).add 6)=some (J3 c.aM)/\ah h ((⟨b,0,none⟩:Q6).add 7)=some (J7 c.data):=
 ⟨AO d rfl,AB d rfl,AB d rfl,AB d rfl,AB d rfl,AB d rfl,AB d rfl,AB d rfl⟩
end Go.Lf.G
namespace Go.Lf
open G
open Go
open M (Sorted Af CY A9 Ag Ar BU Ai bC BH aQ BF)
theorem Cells.ju {h:aa}{a:Q6}{t:bH}(c:Cells h a t.l):ah h a=some (J4 t.steps.p t.steps.len t.steps.cap)/\ah h (a.add 1)=some (J6 J9 t.aA)/\ah h (a.add 2)=some (J6 J9 t.status)/\ah h (a.add 3)=some (J6 J9 t.next)/\ah h (a.add 4)=some (J6 J9 t.ba)/\ah h (a.add 5)=some (J6 J9 t.asked)/\ah h (a.add 6)=some (J6 J9 t.taken)/\ah h (a.add 7)=some (J3 t.fresh)/\ah h (a.add 8)=some (J4 t.aw.p t.aw.len t.aw.cap)/\ah h (a.add 9)=some (J4 t.al.p t.al.len t.al.cap)/\ah h (a.add 10)=some (J3 t.cancel)/\ah h (a.add 11)=some (J3 t.aS):=by have b:=c 0 _ rfl;rw[add_zero] at b;exact⟨b,c 1 _ rfl,c 2 _ rfl,c 3 _ rfl,c 4 _ rfl,c 5 _ rfl,c 6 _ rfl,c 7 _ rfl,c 8 _ rfl,c 9 _ rfl,c 10 _ rfl,c 11 _ rfl⟩
end Go.Lf
namespace Go.Lf.G
open Go
open M (Sorted Af CY A9 Ag Ar BU Ai bC BH aQ BF)
structure Hs.dp (y y':Hs):Prop where
 p:y'.p=y.p
 name:y'.name=y.name
 f:y'.f=y.f
 u: ∀m,y.u m<=y'.u m/\y'.u m<=y.u m+1
theorem Hs.dp.refl(y:Hs):y.dp y:=⟨rfl,rfl,rfl,λ_=>⟨A0 _,BW _⟩⟩
def dS(y c:Hs)(b d:Nat):Prop:= ∃v,y.u b<v/\v<=c.u b/\d=y.f b*16777216+v
def qd(y b:Hs)(C c:bz)(d:Nat):Prop:=c.err=0->y.f C.aq≠0->dS y b C.aq d
section
variable {A : ar} {B : cI} {g h : aa} {s a N sh cb : Nat} {l : List Hs} {mp : List Pr} {O : Nat -> Prop} {i : Nat} {y : Hs} {z : Nat -> Nat} {x : eF} {C : bz} {R : A2O}
theorem CW.put {b:Nat}(W:CW B g h s a N sh l i y mp O cb z x C)(c:N<=b)(d:b<=1000000)(e:64*a<=B.C):CW B g h s a b sh l i y mp O cb z x C:=⟨W.w.put (A0 _) e c d,W.il,W.no,W.hp,W.bF⟩
theorem CW.at(b:CW B g h s a N sh l i y mp O cb z x C):(l.set i y)[i]? =some y:=HN b.il
theorem CW.lw {d:aa}{f j:Nat}{k:List Pr}{e:Hs}(b:CW B g h s a N sh l i y mp O cb z x C)(n:LW B g d s j f sh ((l.set i y).set i e) k (λc=>O c\/z c≠0))(m:Mod (bq g (λc=>O c\/z c≠0)) h d)(o:e.p=y.p):CW B g d s j f sh l i e k O cb z x C:=
 ⟨by rw[List.set_set] at n;exact n,b.il,b.no,b.hp.trans o.symm,b.bF.mod m λc p q=>q.2 (.inr p)⟩
theorem u6 {t:bH}(c: ∀b,Ext h b->R (J3 (decide (t.next<=497))) b):AA A P MP #[t.v] h R:=by refine ADs ?_;unfold Vv;exact ao.mk λd _ e f j=>AC.mk (AB e rfl) (c d f)
theorem u7 {wid:A2P}{aq:Nat}{j k now:Int}{m:Bool}{v:Sl}{st:bg}{d e f:Sl}(E:LW B g h s a N sh (l.set i y) mp (λc=>O c\/Tk st d e f c))(Q:i<l.length)(F:JK h st d e f)(no: ∀c,Tk st d e f c-> ¬O c)
  (G: ∀w cb z x,CW B g w s a N sh l i y mp O cb z x (Hy wid aq j k m st now)->Ext h w->R (Aq cb) w):
  AA A P Kg #[Aq y.p,(⟨wid,(aq:Int),⟨j,k,m⟩,v,st.V d e f⟩:bT).v,J6 J9 now] h R:=by
 refine AA7 ?_;unfold Ug;refine ao.mk λo _ H I ad=>F5.mk ⟨wid,(aq:Int),⟨j,k,m⟩,v,st.V d e f⟩ (Cr H rfl) ?_
 have S:(⟨h.size,0,none⟩:Q6).add 6=⟨h.size,6,none⟩:=rfl;rw[S];refine Az.mk (st.V d e f) (Cr H rfl) ?_;refine ao.mk λp _ T U ae=>?_
 have r:Ext h p:=I.trans U
 let x:eF:=⟨y.p,v,st.V d e f,d,e,f,⟨none,0,0⟩,⟨none,0,0⟩,⟨none,0,0⟩⟩
 let t:bz:= {Hy wid aq j k m st now with err:=0}
 let z:Nat->Nat:=λc=>if c=o.size then 1 else jR (λ_=>0) st d e f c
 have V: ∀c,Tk st d e f c->c<h.size:=λc b=>F.lt b
 have W: ∀c,z c≠0->c=o.size\/Tk st d e f c:=λc b=>by
  by_cases q:c=o.size
  ·exact .inl q
  ·have b:jR (λ_=>0) st d e f c≠0:=by grind
   unfold jR at b;split at b
   ·rename_i X;exact .inr X
   ·exact absurd rfl b
 have Y:FX p o.size z x t:=⟨T,if_pos rfl,(F.ext r),λc b=>by
   have:=V c b;show z c=5;exact(if_neg (by omega)).trans (if_pos b),Own.nil,λc b=>by simp[x,Sl.ai] at b,Own.nil,λc b=>by simp[x,Sl.ai] at b,Own.nil,λc b=>by simp[x,Sl.ai] at b⟩
 have D:CW B g p s a N sh l i y mp O o.size z x t:=⟨E.own r.mod λc b=>by
   grind,Q,λc b J=>by
   rcases W c b with h|h
   ·have:=(E.out (.inl J)).1;omega
   ·exact no c h J,rfl,Y⟩
 refine aj.mk λK L=>aj.mk λZ aa=>?_
 have key: ∀u:Bool,(u=true↔now<0\/1099511611776<now)->Z (u,()) p:=λu ab=>by
  refine aa _ _ (ag.intro (λn=>?_) (λn=>?_))
  ·refine D.bF.err λac D3 M af=>L _ _ (G ac _ z x ?_ (r.more M λc b=>by subst b;exact I.size))
   have q:Hy wid aq j k m st now= {t with err:=1}:=by have:Hy wid aq j k m st now= {Hy wid aq j k m st now with err:=if now<0\/1099511611776<now then 1 else 0}:=rfl;rw[this,if_pos (ab.1 n)]
   rw[q];exact D.step (M.ak λc _ b=>by grind) (λc b=> .inl b) rfl D3
  ·have n:u=false:=n;refine L _ _ (G p _ z x ?_ r);have q:Hy wid aq j k m st now=t:=by have:Hy wid aq j k m st now= {Hy wid aq j k m st now with err:=if now<0\/1099511611776<now then 1 else 0}:=rfl;rw[this,if_neg λh=>by grind]
   rw[q];exact D
 refine ag.intro (λn=>key true (by simp at n;simp[n])) (λn=>key _ (by simp at n;simp;omega))
theorem u9(b:CW B g h s a N sh l i y mp O cb z x C)(d:0<=C.st.next/\C.st.next<=501)(c:R (J6 J9 (Sa C)) h):AA A P GJ #[Aq cb] h R:=by refine TM ?_;unfold Mr;refine aE (AC.mk (Cj b.bF.ai rfl) ?_);rw[wrap_i64 (by omega) (by omega)];exact c
theorem ZF {e:Ev}{n:Nat}(f:CW B g h s a N sh l i y mp O cb z x C)(an:Dc C.st n)(ap:n<=600)(hd:e.data.size<1099511627776)(aK:C.more.length<1000)
  (T: ∀Z aL x',CW B g Z s a N sh l i y mp O cb aL x' (Dn C e)->Mod (bq g O) h Z->R (J1 #[]) Z):AA A P DT #[Aq cb,e.v] h R:=by
 refine Tc ?_;unfold Nb;refine ao.mk λaM _ aN v a7=>aE (AC.mk (Ce (f.on v).bF.ai rfl) (ag.intro (λd=>?_) (λd=>?_)))
 ·have d:C.err≠0:=by simpa using d
  refine T aM z x ?_ v.mod;unfold Dn;rw[if_pos d];exact f.on v
 have ab:C.err=0:=by simpa using d
 have aq: ∀c,z c≠0-> ¬c=h.size:=λc o e=>by have:=f.fT c o;omega
 refine aE (AC.mk (Cj (f.on v).bF.ai rfl) (aE (AC.mk (Ce (f.on v).bF.ai rfl) ?_)));refine af.bM (j:=0) (dJ:=({e with id:=if 1>C.st.next then 1 else C.st.next}:Ev).c) aN (of_decide_eq_true rfl) rfl λa8 aO ar a9=>⟨Ce ((f.on v).bF.mod ar aq).ai rfl,?_⟩
 refine af.bM (j:=2) (dJ:=(Cq C e).c) aO (of_decide_eq_true rfl) rfl λac au aP ba=>?_
 have ad:Ext h ac:=v.more (ar.trans aP) λc o=>by omega
 refine aj.mk λK aQ=>?_
 have key: ∀(U:Bool) (F:aa),Ext ac F->(U=true↔C.more= []/\jc C.st=false/\e.kind≠18)->K (U,()) F:=λU F ae av=>by
  have L:=ad.trans ae;have G:=f.on L;have V:=ae.ai au λh=>h
  refine aQ _ _ (ag.intro (λd=>?_) (λd=>?_))
  ·refine aE (G.bF.err λk aR aS aT=>?_);have aw:Mod (λc=>z c≠0) F k:=aS.ak λc _ o=>by subst o;rw[f.bF.zc];decide
   refine T k z x ?_ (L.mod.trans (G.frame aw));unfold Dn;rw[if_neg (by simp[ab]),if_pos (av.1 d)];exact G.step aw (λc o=> .inl o) rfl aR
  have d:U=false:=d;have ax: ¬(C.more= []/\jc C.st=false/\e.kind≠18):=λh=>by rw[av.2 h] at d;cases d
  refine aj.mk λaU aV=>aE (Az.mk (C.st.V x.a x.b x.c) G.bF.ld (Np.mk (Cq C e) (QV V) ?_))
  have ay: ∀(k:aa) (ah:Nat) (p q r:Sl),Ext F k->k[ah]? =some (J2 ((Bo C.st (Cq C e)).2.V p q r).c Av (0,0))->JK k (Bo C.st (Cq C e)).2 p q r->(∀ y,p.ai=some y\/q.ai=some y\/r.ai=some y->h.size<=y)->
    aU (some ⟨ah,0,none⟩,(Bo C.st (Cq C e)).1,()) k:=λk ah p q r m aW M fr=>by
   have ai:=L.trans m;have ak:=f.on ai;refine aV _ _ (ag.intro (λd=>?_) (λd=>?_))
   ·have d:(Bo C.st (Cq C e)).1≠0:=by simpa using d
    refine aE (ak.bF.err λH al W az=>?_);have X:Mod (λc=>z c≠0) k H:=W.ak λc _ o=>by subst o;rw[f.bF.zc];decide
    refine T H z x ?_ (ai.mod.trans (ak.frame X));unfold Dn;rw[if_neg (by simp[ab]),if_neg ax,if_pos d];exact ak.step X (λc o=> .inl o) rfl al
   have aX:(Bo C.st (Cq C e)).1=0:=by simpa using d
   refine aE (Az.mk ((Bo C.st (Cq C e)).2.V p q r) (FB aW) (aE (f.bF.lr f.fT ai M fr λH bb al W X aY=>?_)));have aA:=f.step (x':= {x with a:=p,b:=q,c:=r}) W aY rfl al;have Q:=X.ai (m.ai V λh=>h) (λe=>aq cb (by rw[f.bF.zc];decide) e.symm);refine aE (AZ.mk (s:=x.more) (Ce aA.bF.ai rfl) (Np.mk (Cq C e) (QV Q) (ao.mk λI _ w aC aD=>?_)));have S:=aA.on aC;refine⟨Ce S.bF.ai rfl,?_⟩;have aZ:View dU I ⟨some ⟨H.size,0,none⟩,1,1⟩ [Cq C e]:=(Own.lit (E:=dU) (l:= [Cq C e]) w rfl (by simp[maxLen])).view;refine S.bF.lj S.fT aZ aK λa0 aG a1 a2 aH a3=>?_
   have a4:=S.step (x':= {x with a:=p,b:=q,c:=r,more:=aG}) aH a3 rfl a2;refine T a0 a1 {x with a:=p,b:=q,c:=r,more:=aG} ?_ ((f.frame W).trans (aC.mod.trans (S.frame aH)));have a5:Dn C e= {C with st:=(Bo C.st (Cq C e)).2,more:=C.more++ [Cq C e]}:=by unfold Dn;rw[if_neg (by simp[ab]),if_neg ax,if_neg (by simp[aX])]
   rw[a5];exact a4
  have bc:=ad.size;have bd:=ae.size;constructor
  ·refine pX G.bF.st an ap hd λk p q r m M J=>Gl.mk _ ⟨_,rfl,ao.mk λH _ Q u az=>⟨u5 ((m.trans u).ai V λh=>h),(f.on ((L.trans m).trans u)).bF.ld.ju,aF.mk Q (A0 12) λI w Y aD=>?_⟩⟩
   rw[O8] at w;have aI:Ext k I:=u.more Y λc o=>by omega
   exact ay I k.size p q r (m.trans aI) w (M.ext aI) λy t=>by have:=J y t;omega
  ·refine ao.mk λH _ Q u az=>⟨u5 (u.ai V λh=>h),(f.on (L.trans u)).bF.ld.ju,?_⟩
   refine pX (G.bF.st.ext u) an ap hd λk p q r m M J=>Gl.mk _ ⟨_,rfl,aF.mk (m.ai Q λh=>h) (A0 12) λI w Y aD=>?_⟩
   rw[O8] at w;have aT:=m.size;have a6:=M.mod Y (λy t e=>by have:=J y (.inl t);omega) (λy t e=>by have:=J y (.inr (.inl t));omega) (λy t e=>by have:=J y (.inr (.inr t));omega);exact ay I F.size p q r ((u.trans m).more Y λc o=>by omega) w a6 λy t=>by have:=J y t;omega
 have am:=f.on ad;refine aE (AZ.mk (s:=x.more) (Ce am.bF.ai rfl) ?_);have aJ:=am.bF.more.len;refine ag.intro (λd=>?_) (λd=>?_)
 ·have d:C.more= []:=by simp at d;exact CC (by omega)
  refine aE (Az.mk (C.st.V x.a x.b x.c) am.bF.ld (u6 λk m=>⟨_,rfl,?_⟩));refine ag.intro (λD=>?_) (λD=>?_)
  ·have D:jc C.st=false:=by unfold jc;simpa using D
   refine AC.mk (AB (m.ai au λh=>h) rfl) (key _ k m ?_);simp[d,D,Cq]
  ·have D:jc C.st=true:=by unfold jc;simpa using D
   refine key _ k m ?_;simp[D]
 ·have d:C.more≠ []:=λh=>by rw[h] at aJ;simp[aJ] at d
  refine key _ ac Mod.refl ?_;simp[d]
theorem ua {t:cn}{tick:Int}(r:CW B g h s a N sh l i y mp O cb z x C)(V:C.aq<256)(an:y.f C.aq<=2147483647)(ap:y.u C.aq+1<16777216)(H:N+1<=1000000)(J:64*a<=B.C)(aq:C.au.length<1000)(a5:tick<9223372036854775808)
  (L: ∀M ar x' e d,CW B g M s a (N+1) sh l i e mp O cb ar x' (Du C ⟨t.kind,t.ref,t.turn⟩ tick d)->y.dp e->qd y e C (Du C ⟨t.kind,t.ref,t.turn⟩ tick d) d->Mod (bq g O) h M->R (J1 #[]) M):AA A P GN #[Aq cb,t.v,J6 J9 tick] h R:=by
 refine Sz ?_;unfold Mv;refine ao.mk λav _ aw w a6=>aE (AC.mk (Ce (r.on w).bF.ai rfl) (ag.intro (λb=>?_) (λb=>?_)))
 ·have b:C.err≠0:=by simpa using b
  have D:Du C ⟨t.kind,t.ref,t.turn⟩ tick 0=C:=by unfold Du;rw[if_pos b]
  refine L av z x y 0 (by rw[D];exact(r.on w).put (by omega) H J) (Hs.dp.refl y) (λE=>absurd (by rw[D] at E;exact E) b) w.mod
 have W:C.err=0:=by simpa using b
 refine aE (AJ.mk (n:=C.wid) (Ce (r.on w).bF.ai rfl) (af.bM (j:=1) (dJ:=({t with wid:=C.wid}:cn).c) aw (of_decide_eq_true rfl) rfl λax ay az a7=>?_));have aA:Ext h ax:=w.more az λc q=>by omega
 refine JC.mk ({t with wid:=C.wid}:cn) (Cr ay rfl) (tZ λF aC=>⟨_,_,rfl,?_⟩);have Q:=aA.trans aC;have f:=r.on Q;cases X:Gx ⟨t.kind,t.ref,t.turn⟩ C.wid with
 |false=>
  refine ag.yes rfl (aE (f.bF.err λY aD aF a8=>?_));have Z:Mod (λc=>z c≠0) F Y:=aF.ak λc _ q=>by subst q;rw[r.bF.zc];decide
  have D:Du C ⟨t.kind,t.ref,t.turn⟩ tick 0= {C with err:=1}:=by unfold Du;rw[if_neg (by simp[W]),if_pos X]
  refine L Y z x y 0 ?_ (Hs.dp.refl y) (λE=>by rw[D] at E;exact absurd (show(1:Int)=0 from E) (by decide)) (Q.mod.trans (f.frame Z));rw[D];exact(f.step Z (λc q=> .inl q) rfl aD).put (by omega) H J
 |true=>
  refine ag.no rfl ?_;have aG:ah F (⟨cb,0,none⟩:Q6)=some (Aq y.p):=by have:=Ce (j:=0) f.bF.ai rfl;rw[add_zero,r.hp] at this;exact this
  refine aE (AY.mk aG (aE (AC.mk (Cj f.bF.ai rfl) ?_)));have fin: ∀(k:aa) (e:Hs) (d:Nat),CW B g k s a (N+1) sh l i e mp O cb z x C->y.dp e->(y.f C.aq≠0->dS y e C.aq d)->Mod (bq g O) F k->(∃ S:Int,Value.int .u64 (d:Int)= .int .u64 S/\(
    At (some (⟨cb,0,none⟩:Q6)) λaH=>
    AC J9 k ((aH.add 1).add 1) λaI=>
    AA A P Jz #[J6 J9 aI,.int .u64 S] k λv2 u=> ∃ab:A2P,v2=J7 ab/\(
    aj (λ(s:A2P×Unit) o=>
      At (some (⟨cb,0,none⟩:Q6)) λaJ=>
      AZ o (aJ.add 32) λT=>
      ao o (J2 #[J7 s.1,J7 (if true then Zy ⟨t.kind,t.ref,t.turn⟩ C.wid else⟨#[]⟩),J3 false] AR) λaK U=>
      BI A P (Builtin.append_ #[AQ,AQ] AQ #[J4 T.p T.len T.cap,J4 (some (⟨aK,0,none⟩:Q6)) 1 1]) U λaL aM=> ∃v:Sl,aL=J4 v.p v.len v.cap/\(
      At (some (⟨cb,0,none⟩:Q6)) λaN=>
      af aM (aN.add 32) (J4 v.p v.len v.cap) λaO=>
      R (J1 #[]) aO)) λK=>
     ag (decide (tick>=(0:Int))) (
      At (some (⟨cb,0,none⟩:Q6)) λaP=>
      AC J9 u ((aP.add 1).add 1) λaQ=>
      AA A P OD #[J6 J9 aQ,J6 J9 tick,.int .u64 S] u λaR aS=> ∃ac:A2P,aR=J7 ac/\(
      K (ac,()) aS)) (
      K (ab,()) u)))):=λk e d ad aT aU aV=>by
   refine⟨_,rfl,aE (AC.mk (Cj ad.bF.ai rfl) (AP6 V λu ae=>⟨_,rfl,aj.mk λK aW=>?_⟩))⟩;have ai:=ad.on ae;have key: ∀(o:aa),Ext u o->K (MF C.aq tick d,()) o:=λo I=>by
    have G:=ai.on I;refine aW _ _ (aE (AZ.mk (s:=x.au) (Ce G.bF.ai rfl) ?_));refine G.bF.eI (p:=⟨MF C.aq tick d,Zy ⟨t.kind,t.ref,t.turn⟩ C.wid,false⟩) G.fT aq λU ak aX aY al aZ=>?_
    have a0:=G.step (x':= {x with au:=ak}) al aZ rfl aY;refine L U aX {x with au:=ak} e d ?_ aT (λ_=>aU) (Q.mod.trans (aV.trans ((ae.trans I).mod.trans (G.frame al))));unfold Du;rw[if_neg (by simp[W]),if_neg (by simp[X])];exact a0
   refine ag.intro (λb=>?_) (λb=>?_)
   ·have b:0<=tick:=by simpa using b
    obtain⟨n,rfl⟩: ∃n:Nat,tick=n:=⟨tick.toNat,by omega⟩;refine aE (AC.mk (Cj ai.bF.ai rfl) (AP2 V (by omega) λo I=>⟨_,rfl,?_⟩));have:=key o I;unfold MF at this;rw[if_neg (by omega),A6] at this;exact this
   ·have b:tick<0:=by simp at b;omega
    have:=key u Mod.refl;unfold MF at this;rw[if_pos b] at this;exact this
  refine f.w.number f.at an ap H (λa1=>?_) λa9 k a2 am=>?_
  ·exact fin F y 0 (f.put (by omega) H J) (Hs.dp.refl y) (λh=>absurd a1 h) Mod.refl
  ·have a3:Mod (bq g O) F k:=am.ak λc _ q=>⟨q.1,λa4=>q.2 (.inl a4)⟩
   exact fin k (y.jv C.aq) _ (f.lw a2 am rfl) ⟨rfl,rfl,rfl,λm=>by
    show _<=dD y.u C.aq (y.u C.aq+1) m/\dD y.u C.aq (y.u C.aq+1) m<=_
    grind [dD]⟩ (λ_=>⟨_,Hj _,by show _<=dD y.u C.aq (y.u C.aq+1) C.aq;grind [dD],rfl⟩) a3
theorem ARn {t:cn}(k:CW B g h s a N sh l i y mp O cb z x C)(m:C.aq<256)(n:y.f C.aq<=2147483647)(o:y.u C.aq+1<16777216)(p:N+1<=1000000)(q:64*a<=B.C)(r:C.au.length<1000)
  (u: ∀b e f c d,CW B g b s a (N+1) sh l i c mp O cb e f (Du C ⟨t.kind,t.ref,t.turn⟩ (-1) d)->y.dp c->qd y c C (Du C ⟨t.kind,t.ref,t.turn⟩ (-1) d) d->Mod (bq g O) h b->R (J1 #[]) b):AA A P JF #[Aq cb,t.v] h R:=by
 refine TG ?_;unfold NA;refine ao.mk λG _ v j H=>JC.mk t (Cr v rfl) (ua (k.on j) m n o p q r (by decide) λb e f c d w D E F=>⟨rfl,u b e f c d w D E (j.mod.trans F)⟩)
theorem qe {t:cn}{tick:Int}(k:CW B g h s a N sh l i y mp O cb z x C)(m:C.aq<256)(n:y.f C.aq<=2147483647)(o:y.u C.aq+1<16777216)(p:N+1<=1000000)(q:64*a<=B.C)(r:C.au.length<1000)(G:tick<9223372036854775808)
  (u: ∀b e f c d,CW B g b s a (N+1) sh l i c mp O cb e f (Du C ⟨t.kind,t.ref,t.turn⟩ (if(0:Int)>tick then 0 else tick) d)->y.dp c->qd y c C (Du C ⟨t.kind,t.ref,t.turn⟩ (if(0:Int)>tick then 0 else tick) d) d->Mod (bq g O) h b->R (J1 #[]) b):AA A P En #[Aq cb,t.v,J6 J9 tick] h R:=by
 refine Vg ?_;unfold Oq;refine ao.mk λH _ v j I=>JC.mk t (Cr v rfl) (ua (k.on j) m n o p q r (by split<;>omega) λb e f c d w D E F=>⟨rfl,u b e f c d w D E (j.mod.trans F)⟩)
theorem ANw {key val:A2P}(b:CW B g h s a N sh l i y mp O cb z x C)(k:C.conds.length<1000)(m:C.au.length<1000)
  (n: ∀d o x',CW B g d s a N sh l i y mp O cb o x' (om C key val)->Mod (bq g O) h d->R (J1 #[]) d):AA A P I9 #[Aq cb,J7 key,J7 val] h R:=by
 refine TE ?_;unfold Mf;dsimp only[At];refine AZ.mk (s:=x.conds) (Ce b.bF.ai rfl) ?_;refine b.bF.fK (p:=⟨key,⟨#[]⟩,true⟩) b.fT k λF e G q f r=>?_
 have c:=b.step (x':= {x with conds:=e}) f r rfl q;refine AZ.mk (s:=x.au) (Ce c.bF.ai rfl) ?_;refine c.bF.eI (p:=⟨key,val,false⟩) c.fT m λt u v w j D=>?_
 have E:=c.step (x':= {x with conds:=e,au:=u}) j D rfl w;exact n t v _ E ((b.frame f).trans (c.frame j))
theorem AQ4(q:CW B g h s a N sh l i y mp O cb z x C)(H:0<=C.st.next/\C.st.next<=501)
  (r: ∀n,Ext h n->R (⟨0,(Dh C).1,(Dh C).2,⟨0,⟨#[]⟩,0,0⟩,⟨#[]⟩,⟨none,0,0⟩⟩:bo).v n):AA A P Gv #[Aq cb] h R:=by
 refine QI ?_;unfold KU;refine ao.mk λo _ t p I=>?_
 have b:=(q.on p).bF;refine aE (AC.mk (Cj b.ai rfl) (aj.mk λK u=>?_));have fin: ∀nx:Int,nx=(Dh C).2->K (nx,()) o:=λnx v=>by
  subst v;refine u _ _ (aE (AC.mk (Cj b.ai rfl) (aF.mk t (A0 9) λw D E J=>?_)));refine Dr.mk ⟨0,C.st.status,(Dh C).2,⟨0,⟨#[]⟩,0,0⟩,⟨#[]⟩,⟨none,0,0⟩⟩ (Cr D rfl) ?_;exact r w (p.more E λc L=>by omega)
 refine aj.mk λF G=>?_
 have key: ∀d:Bool,d=EG C->F (d,()) o:=λd M=>by
  refine G _ _ (ag.intro (λe=>?_) (λe=>?_))
  ·have e:d=true:=e;rw[wrap_i64 (by omega) (by omega)];refine fin _ ?_
   simp_all [Dh,if_pos]
  ·have e:d=false:=e;refine fin _ ?_
   simp_all [Dh,if_neg]
 have Q:=b.more.len;unfold EG at key;refine aE (AZ.mk (s:=x.more) (Ce b.ai rfl) (ag.intro (λf=>?_) (λf=>?_)));rotate_left
 ·have f:C.more= []:=by simp_all
  exact key _ (by simp[f])
 have f:C.more≠ []:=λh=>by grind
 refine aE (AC.mk (Cj b.ai rfl) (ag.intro (λj=>?_) (λj=>key _ (by simp at j;simp[j]))));refine aE (Ac.mk (Cj b.ai rfl) (ag.intro (λk=>?_) (λk=>key _ (by grind))));have k:C.st.fresh=true:=k;refine aE (AC.mk (Cj b.ai rfl) (ag.intro (λm=>?_) (λm=>key _ (by simp at m;simp[m]))));refine aE (AC.mk (Cj b.ai rfl) (key _ ?_))
 grind
end
def QQ:Ev:=⟨0,2,0,0,0,0,false,⟨#[]⟩⟩
def Ec(C:bz)(b:Nat):bz:=if EG C then Du (Dn C QQ) ⟨1,Sa (Dn C QQ),0⟩ (-1) b else C
def uc(C:bz):Int:=if(0:Int)>C.now+20 then 0 else C.now+20
def BA(C:bz)(b c:Nat):bz:=if C.more≠ []/\(Ec C b).st.status≠0 then Du (Ec C b) ⟨7,0,0⟩ (uc C) c else Ec C b
end Go.Lf.G
namespace Go.Lf
open G
open Go
open M (Sorted Af CY A9 Ag Ar BU Ai bC BH aQ BF)
structure bz.grown (C D:bz) (n k j:Nat):Prop where
 wid:D.wid=C.wid
 aq:D.aq=C.aq
 cu:D.cu=C.cu
 bX:D.bX=C.bX
 kept:D.kept=C.kept
 conds:D.conds=C.conds
 now:D.now=C.now
 more:D.more.length<=C.more.length+k
 none:C.more≠ []->D.more≠ []
 au:D.au.length<=C.au.length+j
 ok: ∀e∈D.more,Ej e=true/\e.data.size<1099511627776
 st:Dc D.st n
end Go.Lf
namespace Go.Lf.G
open Go
open M (Sorted Af CY A9 Ag Ar BU Ai bC BH aQ BF)
theorem Gy(C:bz)(t:fO)(tick:Int)(b:Nat):(Du C t tick b).st=C.st/\(Du C t tick b).more=C.more:=by
 unfold Du;split
 ·exact⟨rfl,rfl⟩
 ·split<;>exact⟨rfl,rfl⟩
theorem XB {C b:bz}{r u v:Nat}(G:C.grown b r u v)(t:fO)(tick:Int)(w:Nat):C.grown (Du b t tick w) r u (v+1):=by
 obtain⟨c,d,e,f,j,k,m,n,o,D,p,q⟩:=G;unfold Du;split
 ·exact⟨c,d,e,f,j,k,m,n,o,by omega,p,q⟩
 ·split
  ·exact⟨c,d,e,f,j,k,m,n,o,by show b.au.length<=_;omega,p,q⟩
  ·exact⟨c,d,e,f,j,k,m,n,o,by show(b.au++ [_]).length<=_;rw[A1,Cd];omega,p,q⟩
theorem Wx {C:bz}{b:Nat}(ok: ∀c∈C.more,Ej c=true/\c.data.size<1099511627776)(d:Dc C.st b):C.grown C b 0 0:=⟨rfl,rfl,rfl,rfl,rfl,rfl,rfl,A0 _,id,A0 _,ok,d⟩
end Go.Lf.G
namespace Go.Lf
open G
open Go
open M (Sorted Af CY A9 Ag Ar BU Ai bC BH aQ BF)
theorem Dc.up {s:bg}{c m:Nat}(b:Dc s c)(h:c<=m):Dc s m:=⟨by have:=b.aw;omega,by have:=b.al;omega,b.steps,b.aA,b.ba,b.next,b.st,b.waits⟩
end Go.Lf
namespace Go.Lf.G
open Go
open M (Sorted Af CY A9 Ag Ar BU Ai bC BH aQ BF)
theorem MG {C b:bz}{v w D:Nat}(G:C.grown b v w D){e:Ev}(hd:e.data.size<1099511627776):C.grown (Dn b e) (v+1) (w+1) D:=by
 obtain⟨c,d,f,j,k,m,n,E,t,o,p,q⟩:=G;unfold Dn;split
 ·exact⟨c,d,f,j,k,m,n,by omega,t,o,p,q.up (BW _)⟩
 ·split
  ·exact⟨c,d,f,j,k,m,n,by show b.more.length<=_;omega,t,o,p,q.up (BW _)⟩
  ·split
   ·exact⟨c,d,f,j,k,m,n,by show b.more.length<=_;omega,t,o,p,q.up (BW _)⟩
   ·rename_i r;have r:(Bo b.st (Cq b e)).1=0:=by simpa using r
    refine⟨c,d,f,j,k,m,n,by show(b.more++ [_]).length<=_;rw[A1,Cd];omega,λ_=>by show b.more++ [_]≠ [];simp,o,λx u=>?_,Ti q r⟩;have u:x∈b.more++ [Cq b e]:=u;rcases List.mem_append.1 u with h|h
    ·exact p x h
    ·rw[List.mem_singleton.1 h];exact⟨Qc r,hd⟩
structure Hs.dk (y y':Hs):Prop where
 p:y'.p=y.p
 name:y'.name=y.name
 f:y'.f=y.f
 u: ∀m,y.u m<=y'.u m/\y'.u m<=y.u m+2
section
variable {A : ar} {B : cI} {g h : aa} {s a N sh cb : Nat} {l : List Hs} {mp : List Pr} {O : Nat -> Prop} {i : Nat} {y : Hs} {z : Nat -> Nat} {x : eF} {C : bz} {R : A2O}
theorem FX.ptr {p:Nat}(b:FX h cb z x C)(c:x.hp=p):ah h (⟨cb,0,none⟩:Q6)=some (Aq p):=by have:=Ce (j:=0) b.ai rfl;rw[add_zero,c] at this;exact this
theorem FX.rT(b:FX h cb z x C):Cells h (((⟨cb,0,none⟩:Q6).add 1).add 2) (⟨C.cu,C.bX,C.kept⟩:cR).l:=by have c:((⟨cb,0,none⟩:Q6).add 1).add 2=⟨cb,3,none⟩:=rfl;rw[c];exact Cr b.ai rfl
end
end Go.Lf.G
namespace Go.Lf
open G
open Go
open M (Sorted Af CY A9 Ag Ar BU Ai bC BH aQ BF)
theorem Cells.rU {h:aa}{a:Q6}{t:cR}(c:Cells h a t.l):ah h a=some (J6 J9 t.status)/\ah h (a.add 1)=some (J6 J9 t.next)/\ah h (a.add 2)=some (J3 t.kept):=by have b:=c 0 _ rfl;rw[add_zero] at b;exact⟨b,c 1 _ rfl,c 2 _ rfl⟩
end Go.Lf
namespace Go.Lf.G
open Go
open M (Sorted Af CY A9 Ag Ar BU Ai bC BH aQ BF)
section
variable {A : ar} {B : cI} {g h : aa} {s a N sh cb : Nat} {l : List Hs} {mp : List Pr} {O : Nat -> Prop} {i : Nat} {y : Hs} {z : Nat -> Nat} {x : eF} {C : bz} {R : A2O}
theorem AQ9 {o:aa}{d:bz}(E:bZ g)(k:CW B g o s a N sh l i y mp O cb z x d)(aX:Ak d.wid=true)(bF: ∀u∈d.more,Ej u=true/\u.data.size<1099511627776)(bG:d.aq<256)(bH:y.f d.aq<=2147483647)(hA:4+3*a<=B.A)(bI:64*a+64<=B.C)(bJ:a+1<=1000000)
  (c6:d.more.length<=900) (c7:d.au.length<=900) (c8:d.conds.length<=900) (bK: ∀p∈d.conds,p.key.size<=1099511627776) (c9:0<=d.cu/\d.cu<128) (aY:0<=d.bX/\d.bX<=501) (aZ:0<=d.st.status/\d.st.status<=4) (a0:0<=d.st.next/\d.st.next<=501)
  (bL:d.err≠0-> ∀e,LW B g e s a N sh (l.set i y) mp O->Mod (bq g O) o e->R (J6 J9 d.err) e)
  (bM:d.err=0->y.f d.aq=0-> ∀e,LW B g e s a N sh (l.set i y) mp O->Mod (bq g O) o e->R (J6 J9 170) e)
  (bN:d.err=0->y.f d.aq≠0->Bd mp (FY d.aq (y.f d.aq) y.name)=false-> ∀e,LW B g e s a N sh (l.set i (y.lost d.aq)) mp O->Mod (bq g O) o e->R (J6 J9 170) e)
  (bO:d.err=0->y.f d.aq≠0->Bd mp (FY d.aq (y.f d.aq) y.name)=true->dw mp (FY d.aq (y.f d.aq) y.name::(d.conds++ [bD d])) (EA d++d.au)≠0-> ∀e,LW B g e s a N sh (l.set i y) mp O->Mod (bq g O) o e->R (J6 J9 (dw mp (FY d.aq (y.f d.aq) y.name::(d.conds++ [bD d])) (EA d++d.au))) e)
  (bP:d.err=0->y.f d.aq≠0->Bd mp (FY d.aq (y.f d.aq) y.name)=true->dw mp (FY d.aq (y.f d.aq) y.name::(d.conds++ [bD d])) (EA d++d.au)=0-> ∀e,LW B g e s (a+1) N sh (l.set i y) (cz mp (EA d++d.au)) O->Mod (bq g O) o e->R (J6 J9 0) e):
  At (some (⟨cb,0,none⟩:Q6)) λbQ=>
    AC J9 o (bQ.add 34) λbR=>
    ag (bR != (0:Int)) (
     At (some (⟨cb,0,none⟩:Q6)) λbS=>
     AC J9 o (bS.add 34) λbT=>
     R (J6 J9 bT) o) (
     At (some (⟨cb,0,none⟩:Q6)) λbU=>
     AJ o (bU.add 1) λbV=>
     AA A P GQ #[J7 bV] o λv1 aZ=> ∃a1:A2P,v1=J7 a1/\(
     ao aZ (J2 #[J7 (⟨#[]⟩:A2P),J7 (⟨#[]⟩:A2P),J3 false] AR) λb a0=>
     af a0 (⟨b,0,none⟩:Q6) (J7 a1) λbW=>
     af bW ((⟨b,0,none⟩:Q6).add 1) (J7 (⟨#[]⟩:A2P)) λbX=>
     af bX ((⟨b,0,none⟩:Q6).add 2) (J3 true) λJ=>
     aj (λ(da:Unit) v=>
       At (some (⟨cb,0,none⟩:Q6)) λbY=>
       AJ v (bY.add 1) λb0=>
       At (some (⟨cb,0,none⟩:Q6)) λb1=>
       AZ v (b1.add 31) λaD=>
       AA A P PT #[J7 b0,J4 aD.p aD.len aD.cap] v λv2 w=> ∃D:Sl,∃aG:Int,v2=J1 #[J4 D.p D.len D.cap,J6 J9 aG]/\(
       ag (aG != (0:Int)) (
        R (J6 J9 aG) w) (
        aj (λ(aH:Sl×Unit) q=>
          At (some (⟨cb,0,none⟩:Q6)) λad=>
          AY q ad λae=>
          At (some (⟨cb,0,none⟩:Q6)) λai=>
          AC J9 q ((ai.add 1).add 1) λak=>
          At (some (⟨cb,0,none⟩:Q6)) λa2=>
          AZ q (a2.add 33) λK=>
          AJ q (⟨b,0,none⟩:Q6) λb2=>
          AJ q ((⟨b,0,none⟩:Q6).add 1) λb3=>
          Ac q ((⟨b,0,none⟩:Q6).add 2) λb4=>
          At (some (⟨cb,0,none⟩:Q6)) λaI=>
          AZ q (aI.add 32) λF=>
          ao q (J2 #[J7 b2,J7 b3,J3 b4] AR) λb5 H=>
          And (ah H (aI.add 32)=some (J4 F.p F.len F.cap))<|
          And (ah H (a2.add 33)=some (J4 K.p K.len K.cap))<|
          And (ah H ((ai.add 1).add 1)=some (J6 J9 ak))<|
          And (ah H ad=some (J5 ae))<|
          BI A P (Builtin.append_ #[AQ,AQ] AQ #[J4 K.p K.len K.cap,J4 (some (⟨b5,0,none⟩:Q6)) 1 1]) H λb6 I=> ∃L:Sl,b6=J4 L.p L.len L.cap/\(
          And (ah I (aI.add 32)=some (J4 F.p F.len F.cap))<|
          And (ah I ((ai.add 1).add 1)=some (J6 J9 ak))<|
          And (ah I ad=some (J5 ae))<|
          BI A P (Builtin.append_ #[AQ,AQ] AQ #[J4 aH.1.p aH.1.len aH.1.cap,J4 F.p F.len F.cap]) I λb7 t=> ∃M:Sl,b7=J4 M.p M.len M.cap/\(
          And (ah t ((ai.add 1).add 1)=some (J6 J9 ak))<|
          And (ah t ad=some (J5 ae))<|
          AA A P GD #[J5 ae,J6 J9 ak,J4 L.p L.len L.cap,J4 M.p M.len M.cap] t λb8 b9=> ∃a3:Int,b8=J6 J9 a3/\(
          R (J6 J9 a3) b9)))) λal=>
         At (some (⟨cb,0,none⟩:Q6)) λca=>
         AZ w (ca.add 31) λcc=>
         ag (decide (((cc.len:Nat):Int)>(0:Int))) (
          At (some (⟨cb,0,none⟩:Q6)) λa4=>
          AC J9 w ((a4.add 19).add 2) λa5=>
          At (some (⟨cb,0,none⟩:Q6)) λa6=>
          AC J9 w ((a6.add 19).add 3) λa7=>
          ao w (J2 cR.z.c JE) λV am=>
          And (ah am ((a6.add 19).add 3)=some (J6 J9 a7))<|
          And (ah am ((a4.add 19).add 2)=some (J6 J9 a5))<|
          aF am (⟨V,0,none⟩:Q6) (⟨a5,a7,false⟩:cR).l λQ=>
          At (some (⟨cb,0,none⟩:Q6)) λcd=>
          AJ Q (cd.add 1) λce=>
          OU Q (⟨V,0,none⟩:Q6) λan=>
          AA A P GQ #[J7 ce] Q λcf ap=> ∃a8:A2P,cf=J7 a8/\(
          And (ah ap (⟨V,0,none⟩:Q6)=some (J6 J9 an.status)/\ah ap ((⟨V,0,none⟩:Q6).add 1)=some (J6 J9 an.next)/\ah ap ((⟨V,0,none⟩:Q6).add 2)=some (J3 an.kept))<|
          AA A P FK #[an.v] ap λcg a9=> ∃ba:A2P,cg=J7 ba/\(
          ao a9 (J2 #[J7 a8,J7 ba,J3 false] AR) λch ci=>
          BI A P (Builtin.append_ #[AQ,AQ] AQ #[J4 D.p D.len D.cap,J4 (some (⟨ch,0,none⟩:Q6)) 1 1]) ci λcj aJ=> ∃S:Sl,cj=J4 S.p S.len S.cap/\(
          al ((⟨S.p,S.len,S.cap⟩:Sl),()) aJ)))) (
          al ((⟨D.p,D.len,D.cap⟩:Sl),()) w)))) λaq=>
      At (some (⟨cb,0,none⟩:Q6)) λck=>
      AC J9 J (((ck.add 1).add 2).add 1) λcl=>
      ag (decide (cl>(0:Int))) (
       At (some (⟨cb,0,none⟩:Q6)) λcm=>
       AJ J (cm.add 1) λcn=>
       At (some (⟨cb,0,none⟩:Q6)) λar=>
       OU J ((ar.add 1).add 2) λau=>
       AA A P GQ #[J7 cn] J λco av=> ∃bb:A2P,co=J7 bb/\(
       And (ah av ((ar.add 1).add 2)=some (J6 J9 au.status)/\ah av (((ar.add 1).add 2).add 1)=some (J6 J9 au.next)/\ah av (((ar.add 1).add 2).add 2)=some (J3 au.kept))<|
       AA A P FK #[au.v] av λcp bc=> ∃bd:A2P,cp=J7 bd/\(
       af bc (⟨b,0,none⟩:Q6) (J7 bb) λbe=>
       af be ((⟨b,0,none⟩:Q6).add 1) (J7 bd) λbf=>
       af bf ((⟨b,0,none⟩:Q6).add 2) (J3 false) λaK=>
       aq () aK))) (
       aq () J))):=by
 have cq: ∀ {e:aa},CW B g e s a N sh l i y mp O cb z x d->LW B g e s a N sh (l.set i y) mp O:=λcr=>cr.w.less λc f=> .inl f
 refine aE (AC.mk (n:=d.err) (Ce k.bF.ai rfl) (ag.intro (λr=>?_) (λr=>?_)))
 ·exact aE (AC.mk (n:=d.err) (Ce k.bF.ai rfl) (bL (by simpa using r) o (cq k) Mod.refl))
 have aw:d.err=0:=by simpa using r
 have db:=FE aX;refine aE (AJ.mk (n:=d.wid) (Ce k.bF.ai rfl) (nD (by omega) ⟨_,rfl,?_⟩));refine ao.pair λb J dc bg aL dd=>?_
 have ax:=k.on aL;refine aj.mk λaq cs=>?_
 have bh: ∀v,Ext o v->v[b]? =some (J2 #[J7 (bD d).key,J7 (bD d).val,J3 (bD d).gone] AR (0,0))->aq () v:=λv aM ct=>by
  have W:=k.on aM;refine cs _ _ (aE (AJ.mk (n:=d.wid) (Ce W.bF.ai rfl) (aE (AZ.mk (s:=x.more) (Ce W.bF.ai rfl) ?_))));refine ARj aX W.bF.more.view (by omega) bF λps w aN aO ay=>⟨_,_,rfl,ag.no rfl ?_⟩
  have T:=W.on ay;refine aj.mk λal cu=>?_
  have bi: ∀q (sl:Sl),Ext v q->Own BQ AR q sl (EA d)->(∀ c,sl.ai=some c->v.size<=c)->al (sl,()) q:=λq sl az aP X=>by
   have Y:=W.on az;have aQ:=az.ai ct λh=>h
   refine cu _ _ (aE (AY.mk (Y.bF.ptr k.hp) (aE (AC.mk (Cj Y.bF.ai rfl) (aE (AZ.mk (s:=x.conds) (Ce Y.bF.ai rfl) ?_))))));refine AJ.mk (AO aQ rfl) (AJ.mk (AB aQ rfl) (Ac.mk (AB aQ rfl) (aE (AZ.mk (s:=x.au) (Ce Y.bF.ai rfl) (ao.mk λH _ cv Z de=>?_)))));have G:=Y.on Z;refine⟨Ce G.bF.ai rfl,Ce G.bF.ai rfl,Cj G.bF.ai rfl,G.bF.ptr k.hp,?_⟩;have src:View BQ H ⟨some ⟨q.size,0,none⟩,1,1⟩ [bD d]:=(Own.lit (E:=BQ) (l:= [bD d]) cv rfl (by simp[maxLen])).view;refine Fx (E:=BQ) (s:=x.conds) (src:=⟨some ⟨q.size,0,none⟩,1,1⟩) G5 G.bF.conds src (by simp only[Cd];omega) (by simp only[Cd,maxLen];omega) λcw I cx ab cy _=>?_
   have bj: ∀c aR,z c=aR->aR≠4-> ¬x.conds.ai=some c:=λc aR bk aY u=>by rw[G.bF.zq c u] at bk;exact aY bk.symm
   have aA:=ab.ai G.bF.ai (bj cb 1 k.bF.zc (by decide));have cB:ah I (⟨cb,0,none⟩:Q6)=some (Aq y.p):=by have:=Ce (j:=0) aA rfl;rw[add_zero,k.hp] at this;exact this
   refine⟨Ce aA rfl,Cj aA rfl,cB,?_⟩;have cC:Own BQ AR I x.au d.au:=G.bF.au.mod ab λc f=>bj c 3 (G.bF.zp c f) (by decide)
   have df:=aM.size;have dg:=az.size;have dh:=Z.size;have di:=ab.size;have cD:Own BQ AR I sl (EA d):=(aP.ext Z).mod ab λc f u=>by
    have:=k.fT c (by rw[k.bF.zq c u];decide);have:=X c f;omega
   have dj:(EA d).length<=901:=by unfold EA;rw[A1,Bs];split<;>simp<;>omega
   refine Fx (E:=BQ) (s:=sl) (src:=x.au) G5 cD cC.view (by omega) (by simp only[maxLen];omega) λdk t bm aC cE _=>?_
   have cF: ∀c,sl.ai=some c-> ¬c=cb:=λc f u=>by
    have:=X c f;have:=k.fT cb (by rw[k.bF.zc];decide);omega
   have bn:=aC.ai aA (λf=>cF cb f rfl);have cG:ah t (⟨cb,0,none⟩:Q6)=some (Aq y.p):=by have:=Ce (j:=0) bn rfl;rw[add_zero,k.hp] at this;exact this
   refine⟨Cj bn rfl,cG,?_⟩;have cH:Ext o H:=(aM.trans az).trans Z;have bo:Mod (λc=>z c≠0) o t:=(cH.mod.trans (ab.ak λc _ f=>by rw[k.bF.zq c f];decide)).then (aC.ak λc _ f=> .inr (by have:=X c f;omega));have dl:=aC.size;have aS:LW B g t s a N sh (l.set i y) mp (λc=>(O c\/z c≠0)\/(o.size<=c/\c<t.size)):=k.w.own (bo.ak λc _ f=> .inr f) λc f=>f
   have aT:Mod (bq g O) o t:=k.frame bo;have less: ∀ {e:aa} {bp:Nat} {br:List Hs} {bs:List Pr},LW B g e s bp N sh br bs (λc=>(O c\/z c≠0)\/(o.size<=c/\c<t.size))->LW B g e s bp N sh br bs O:=λU=>U.less λc f=> .inl (.inl f)
   have bt: ∀ {e:aa},Mod (bq g (λc=>(O c\/z c≠0)\/(o.size<=c/\c<t.size))) t e->Mod (bq g O) o e:=λm=>aT.trans (m.ak λc _ f=>⟨f.1,λcI=>f.2 (.inl (.inl cI))⟩)
   have cJ:Own BQ AR t cw (d.conds++ [bD d]):=cx.mod aC λc f u=>by
    have:=X c u;rcases cy c f with h|h
    ·have:=k.fT c (by rw[k.bF.zq c h];decide);omega
    ·have:=(aP.ext Z).lt u;have:=aP.lt u;omega
   refine aS.change E k.at bG bH hA bI bJ cJ.view (by rw[A1,Cd];omega) bm.view (λ_ c f=>?_) (λp cK=>?_) (λcL=>?_) (λac cM e U aU=>?_) (λac aV hd e bu=>?_) λac aV cN e U aU=>?_
   ·have lt:=bm.lt f;rcases cE c f with h|h
    ·have:=X c h;exact .inr (.inr ⟨by omega,lt⟩)
    ·exact .inr (.inr ⟨by omega,lt⟩)
   ·rcases List.mem_append.1 cK with h|h
    ·exact bK p h
    ·rw[List.mem_singleton.1 h];unfold bD;have:=Rn d.wid;split<;>(dsimp only;omega)
   ·exact⟨_,rfl,bM aw cL t (less aS) aT⟩
   ·rw[List.set_set] at U;exact⟨_,rfl,bN aw ac cM e (less U) (bt aU)⟩
   ·exact⟨_,rfl,bO aw ac aV hd e (less (aS.on bu)) (aT.trans bu.mod)⟩
   ·exact⟨_,rfl,bP aw ac aV cN e (less U) (bt aU)⟩
  have bv:=T.bF.more.len;refine aE (AZ.mk (s:=x.more) (Ce T.bF.ai rfl) (ag.intro (λr=>?_) (λr=>?_)))
  ·have cO:d.more≠ []:=λh=>by rw[h] at bv;simp[bv] at r
   refine aE (AC.mk (Cj T.bF.ai rfl) (aE (AC.mk (Cj T.bF.ai rfl) (ao.mk λam _ cP bw dm=>?_))));have bx:=T.on bw;refine⟨Cj bx.bF.ai rfl,Cj bx.bF.ai rfl,aF.mk cP (A0 3) λQ cQ cS dn=>?_⟩;have bA:Ext w Q:=bw.more cS λc f=>by subst f;exact A0 _
   have cT:=T.on bA;have bB:Cells Q (⟨w.size,0,none⟩:Q6) (⟨d.st.status,d.st.next,false⟩:cR).l:=Cr cQ rfl;refine aE (AJ.mk (n:=d.wid) (Ce cT.bF.ai rfl) (OU.mk ⟨d.st.status,d.st.next,false⟩ bB (nD (by omega) ⟨_,rfl,bB.rU,?_⟩)));refine tX (m:=⟨d.st.status,d.st.next,false⟩) (st:=d.st.status.toNat) (nx:=d.st.next.toNat) (by show d.st.status=_;omega) (by show d.st.next=_;omega) (by omega) (by omega) λa9 cU=>⟨_,rfl,?_⟩
   have aW:=bA.trans cU;refine ao.aZ (E:=BQ) (x:=⟨KY d.wid,QS d.st.status.toNat d.st.next.toNat false,false⟩) (s:=ps) rfl G5 (aN.ext aW) (by simp only[Bs];omega) (by simp only[Bs,maxLen];omega) λcV aJ cW cX cY _=>?_
   refine bi aJ cV ((ay.trans aW).more cX aO) ?_ λc f=>?_
   ·unfold EA;rw[if_neg cO];exact cW
   ·rcases cY c f with h|h
    ·exact aO c h
    ·have:=aW.size;have:=ay.size;omega
  ·have bC:d.more= []:=by simp at r;exact CC (by omega)
   refine bi w ps ay ?_ aO;unfold EA;rw[bC,if_pos rfl,AK];rw[bC] at aN;exact aN
 refine aE (AC.mk (AQ8 ax.bF.ai rfl) (ag.intro (λr=>?_) (λr=>?_)))
 ·have r:0<d.bX:=by simpa using r
  refine aE (AJ.mk (n:=d.wid) (Ce ax.bF.ai rfl) (aE (OU.mk ⟨d.cu,d.bX,d.kept⟩ ax.bF.rT (nD (by omega) ⟨_,rfl,ax.bF.rT.rU,?_⟩))));refine tX (m:=⟨d.cu,d.bX,d.kept⟩) (st:=d.cu.toNat) (nx:=d.bX.toNat) (by show d.cu=_;omega) (by show d.bX=_;omega) (by omega) (by omega) λbc bE=>⟨_,rfl,?_⟩
  have cZ:=bE.ai bg λh=>h
  refine af.bM (j:=0) cZ (of_decide_eq_true rfl) rfl λbe c0 c1 dp=>af.bM (j:=1) c0 (of_decide_eq_true rfl) rfl λbf c2 c3 dq=>af.bM (j:=2) c2 (of_decide_eq_true rfl) rfl λaK c4 c5 dr=>?_
  refine bh aK ((aL.trans bE).more ((c1.trans c3).trans c5) λc f=>by subst f;omega) ?_;unfold bD;rw[if_pos r];exact c4
 ·have r: ¬0<d.bX:=by simpa using r
  refine bh J aL ?_;unfold bD;rw[if_neg r];exact bg
end
theorem Xi {C:bz}{t:fO}{tick:Int}{c:Nat}(h:(Du C t tick c).err=0):C.err=0:=by
 unfold Du at h;split at h
 ·rename_i b;exact absurd h b
 ·rename_i b;simpa using b
theorem VP {C:bz}{b c:Nat}(h:(BA C b c).err=0):(Ec C b).err=0:=by
 unfold BA at h;split at h
 ·exact Xi h
 ·exact h
section
variable {A : ar} {B : cI} {g h : aa} {s a N sh cb : Nat} {l : List Hs} {mp : List Pr} {O : Nat -> Prop} {i : Nat} {y : Hs} {z : Nat -> Nat} {x : eF} {C : bz} {R : A2O}
theorem ud {b:Nat}(ok: ∀e∈C.more,Ej e=true/\e.data.size<1099511627776)(d:Dc C.st b)(f:Nat):C.grown (Ec C f) (b+1) 1 1:=by
 have c:=Wx ok d;unfold Ec;split
 ·exact XB (MG c (e:=QQ) (by show 0<1099511627776;decide)) _ _ _
 ·obtain⟨j,k,m,n,o,p,q,v,r,w,t,u⟩:=c;exact⟨j,k,m,n,o,p,q,by omega,r,by omega,t,u.up (BW _)⟩
theorem UU {n:Nat}(ok: ∀b∈C.more,Ej b=true/\b.data.size<1099511627776)(e:Dc C.st n)(c f:Nat):C.grown (BA C c f) (n+1) 1 2:=by
 have d:=ud ok e c;unfold BA;split
 ·exact XB d _ _ _
 ·obtain⟨j,k,m,o,p,q,r,t,u,D,v,w⟩:=d;exact⟨j,k,m,o,p,q,r,t,u,by omega,v,w⟩
theorem ue {ai:Nat}(au:bZ g)(o:CW B g h s a N sh l i y mp O cb z x C)(V:Dc C.st ai)(a2:ai+1<=600)(L:Ak C.wid=true)(Z: ∀e∈C.more,Ej e=true/\e.data.size<1099511627776)(ab:C.aq<256)(r:y.f C.aq<=2147483647)(a3:y.u C.aq+2<16777216)(ac:N+2<=1000000)
  (hA:4+3*a<=B.A) (av:64*a+64<=B.C) (aw:a+1<=1000000) (a4:C.more.length<=800) (a5:C.au.length<=800) (a6:C.conds.length<=800) (ax: ∀p∈C.conds,p.key.size<=1099511627776) (ay:0<=C.cu/\C.cu<128) (ak:0<=C.bX/\C.bX<=501) (a7: -4611686018427387904<=C.now/\C.now<=4611686018427387904)
  (az:y.f C.aq=0->R (J6 J9 170) h)
  (aA: ∀b c d j,y.dk d->(BA C b c).err≠0->LW B g j s a (N+2) sh (l.set i d) mp O->Mod (bq g O) h j->R (J6 J9 (BA C b c).err) j)
  (aC: ∀b c d j,y.dk d->(BA C b c).err=0->Bd mp (FY C.aq (y.f C.aq) y.name)=false->LW B g j s a (N+2) sh (l.set i (d.lost C.aq)) mp O->Mod (bq g O) h j->R (J6 J9 170) j)
  (aD: ∀b c d j,y.dk d->(BA C b c).err=0->Bd mp (FY C.aq (y.f C.aq) y.name)=true->dw mp (FY C.aq (y.f C.aq) y.name::(C.conds++ [bD C])) (EA (BA C b c)++(BA C b c).au)≠0->LW B g j s a (N+2) sh (l.set i d) mp O->Mod (bq g O) h j->R (J6 J9 (dw mp (FY C.aq (y.f C.aq) y.name::(C.conds++ [bD C])) (EA (BA C b c)++(BA C b c).au))) j)
  (aF: ∀b c d j,y.dk d->(EG C=true->y.f C.aq≠0->dS y d C.aq b)->(BA C b c).err=0->Bd mp (FY C.aq (y.f C.aq) y.name)=true->dw mp (FY C.aq (y.f C.aq) y.name::(C.conds++ [bD C])) (EA (BA C b c)++(BA C b c).au)=0->LW B g j s (a+1) (N+2) sh (l.set i d) (cz mp (EA (BA C b c)++(BA C b c).au)) O->Mod (bq g O) h j->R (J6 J9 0) j):
  AA A P Dl #[Aq cb] h R:=by
 refine Qv ?_;unfold Kc;have M:64*a<=B.C:=by omega
 refine aE (AY.mk (o.bF.ptr o.hp) (aE (AC.mk (Cj o.bF.ai rfl) (o.w.holds o.at ⟨_,rfl,ag.intro (λf=>az (by simpa using f)) λf=>?_⟩))));have aG:y.f C.aq≠0:=by simpa using f
 refine aj.mk λK aH=>?_
 have ad: ∀(q:aa) (H:Nat->Nat) (I:eF) (d:Hs) (b c:Nat),CW B g q s a (N+2) sh l i d mp O cb H I (BA C b c)->y.dk d->((BA C b c).err=0->EG C=true->y.f C.aq≠0->dS y d C.aq b)->Mod (bq g O) h q->K () q:=λq H I d b c J k W D=>by
  have G:=UU Z V b c;have ae:d.f (BA C b c).aq=y.f C.aq:=by rw[k.f,G.aq]
  have af:FY (BA C b c).aq (d.f (BA C b c).aq) d.name=FY C.aq (y.f C.aq) y.name:=by rw[ae,G.aq,k.name]
  have al:bD (BA C b c)=bD C:=by unfold bD;rw[G.bX,G.cu,G.kept,G.wid]
  refine aH _ _ (AQ9 au J (by rw[G.wid];exact L) G.ok (by rw[G.aq];exact ab) (by rw[ae];exact r) hA av aw (by have:=G.more;omega) (by have:=G.au;omega) (by rw[G.conds];omega) (by rw[G.conds];exact ax) (by rw[G.cu];exact ay) (by rw[G.bX];exact ak) G.st.st G.st.next
   (λn j u E=>aA b c d j k n u (D.trans E)) (λ_ aI=>absurd (by rw[<- ae];exact aI) aG) (λn _ w j u E=>?_) (λn _ w hd j u E=>?_) λn _ w hd j u E=>?_)
  ·rw[af] at w;rw[G.aq] at u;exact aC b c d j k n w u (D.trans E)
  ·rw[af] at w hd ⊢;rw[al,G.conds] at hd ⊢;exact aD b c d j k n w hd u (D.trans E)
  ·rw[af] at w hd;rw[al,G.conds] at hd;exact aF b c d j k (W n) n w hd u (D.trans E)
 have am:=o.bF.more.len;have aJ:y.dk y:=⟨rfl,rfl,rfl,λm=>by omega⟩;refine aE (AZ.mk (s:=x.more) (Ce o.bF.ai rfl) (ag.intro (λf=>?_) (λf=>?_)));rotate_left
 ·have f:C.more= []:=by simp at f;exact CC (by omega)
  have aK:EG C=false:=by unfold EG;rw[f];rfl
  refine ad h z x y 0 0 ?_ aJ (λ_ h=>by rw[aK] at h;cases h) Mod.refl;have aL:Ec C 0=C:=by unfold Ec EG;rw[f];rfl
  have:BA C 0 0=C:=by unfold BA;rw[aL,if_neg λh=>h.1 f]
  rw[this];exact o.put (by omega) ac M
 have an:C.more≠ []:=λh=>by rw[h] at am;simp[am] at f
 refine aj.mk λaM aN=>?_
 have ao: ∀(q:aa) (H:Nat->Nat) (I:eF) (d:Hs) (b:Nat),CW B g q s a (N+1) sh l i d mp O cb H I (Ec C b)->y.dp d->((Ec C b).err=0->EG C=true->y.f C.aq≠0->dS y d C.aq b)->Mod (bq g O) h q->aM () q:=λq H I d b J k W D=>by
  have G:=ud Z V b;refine aN _ _ (aE (AC.mk (Cj J.bF.ai rfl) (ag.intro (λf=>?_) (λf=>?_))))
  ·have f:(Ec C b).st.status≠0:=by simpa using f
   refine aE (AC.mk (Ce J.bF.ai rfl) ?_);rw[G.now,wrap_i64 (by omega) (by omega)];refine qe (t:=⟨7,⟨#[]⟩,0,0⟩) J (by rw[G.aq];exact ab) (by rw[k.f,G.aq];exact r) (by rw[G.aq];have:=k.u C.aq;omega) ac M (by have:=G.au;omega) (by omega) λj ap aq aO c X Q a8 aP=>⟨rfl,?_⟩
   refine ad j ap aq aO b c ?_ ⟨Q.p.trans k.p,Q.name.trans k.name,Q.f.trans k.f,λm=>by have:=k.u m;have:=Q.u m;omega⟩ (λn L r=>by
    obtain⟨v,v1,v2,aQ⟩:=W (VP n) L r;exact⟨v,v1,by have:=Q.u C.aq;omega,aQ⟩) (D.trans aP)
   have e:BA C b c=Du (Ec C b) ⟨7,0,0⟩ (uc C) c:=by unfold BA;rw[if_pos ⟨an,f⟩]
   rw[e];exact X
  ·have f:(Ec C b).st.status=0:=by simpa using f
   refine ad q H I d b 0 ?_ ⟨k.p,k.name,k.f,λm=>by have:=k.u m;omega⟩ (λn L r=>W (VP n) L r) D;have e:BA C b 0=Ec C b:=by unfold BA;rw[if_neg λh=>h.2 f]
   rw[e];exact J.put (by omega) ac M
 refine aj.mk λaR aS=>?_
 have S: ∀ah:Bool,ah=EG C->aR (ah,()) h:=λah ar=>by
  refine aS _ _ (ag.intro (λf=>?_) (λf=>?_))
  ·have f:EG C=true:=by rw[<- ar];exact f
   refine ZF (e:=QQ) o V (by omega) (by show 0<1099511627776;decide) (by omega) λak ap aq X aT=>⟨rfl,?_⟩
   have G:=MG (Wx Z V) (e:=QQ) (by show 0<1099511627776;decide);have nx:=G.st.next;refine u9 X G.st.next ⟨_,rfl,?_⟩;refine ARn (t:=⟨1,⟨#[]⟩,Sa (Dn C QQ),0⟩) X (by rw[G.aq];exact ab) (by rw[G.aq];exact r) (by rw[G.aq];omega) (by omega) M (by have:=G.au;omega) λaU aV aW aX b aY aZ a0 a1=>⟨rfl,?_⟩
   have e:Ec C b=Du (Dn C QQ) ⟨1,Sa (Dn C QQ),0⟩ (-1) b:=by unfold Ec;rw[if_pos f]
   refine ao aU aV aW aX b ?_ aZ (λn _ r=>by rw[e] at n;have:=a0 n;rw[G.aq] at this;exact this r) (aT.trans a1);rw[e];exact aY
  ·have f:EG C=false:=by rw[<- ar];exact f
   refine ao h z x y 0 ?_ (Hs.dp.refl y) (λ_ h=>by rw[f] at h;cases h) Mod.refl;have e:Ec C 0=C:=by unfold Ec;rw[if_neg (by simp[f])]
   rw[e];exact o.put (by omega) (by omega) M
 have Y:=o.bF;unfold EG at S;refine aE (AC.mk (Cj Y.ai rfl) (ag.intro (λT=>?_) (λT=>S _ (by simp at T;simp[T]))));refine aE (Ac.mk (Cj Y.ai rfl) (ag.intro (λF=>?_) (λF=>S _ (by have F:C.st.fresh=false:=F;simp[F]))));have F:C.st.fresh=true:=F;refine aE (AC.mk (Cj Y.ai rfl) (ag.intro (λU=>?_) (λU=>S _ (by simp at U;simp[U]))));refine aE (AC.mk (Cj Y.ai rfl) (S _ ?_));simp at T U;simp[an,T,F,U];rfl
end
abbrev ga:Sl:=⟨none,0,0⟩
def nv(wid:A2P)(b:Nat):Option (List Ev)->bT×Int
 |none=>(⟨wid,b,⟨0,0,false⟩,ga,bH.z⟩,180)
 |some l=>(⟨wid,b,⟨(Bv l).status,(Bv l).next,false⟩,ga,bH.z⟩,0)
def dR(b st nx:Int):bo:=⟨b,st,nx,⟨0,⟨#[]⟩,0,0⟩,⟨#[]⟩,ga⟩
theorem ZW(x y:bT):gv y.c 0 x.l=x.c:=rfl
theorem Kz(x y:bo):gv y.c 0 x.l=x.c:=rfl
theorem OW {h:aa}{b:Nat}{T:Q7}{fr:Nat×Nat}{x:bT}(c:h[b]? =some (J2 x.c T fr)):Cells h ⟨b,0,none⟩ x.l:=Cr c rfl
theorem Kj {h:aa}{b:Nat}{T:Q7}{fr:Nat×Nat}{x:bo}(c:h[b]? =some (J2 x.c T fr)):Cells h ⟨b,0,none⟩ x.l:=Cr c rfl
theorem nw {h:aa}{b:Nat}{T:Q7}{x y:bT}{K:bT->aa->Prop}(f:h[b]? =some (J2 y.c T (0,0)))(j: ∀c,Mod (· =b) h c->K x c):
  aF h ⟨b,0,none⟩ x.l λd=>F5 d ⟨b,0,none⟩ λk=>K k d:=
 aF.mk f (A0 18) λc e m s=>F5.mk x (OW (by rw[ZW] at e;exact e)) (j c m)
theorem Zu {h:aa}{b:Nat}{T:Q7}{x y:bo}{K:bo->aa->Prop}(f:h[b]? =some (J2 y.c T (0,0)))(j: ∀c,Mod (· =b) h c->K x c):
  aF h ⟨b,0,none⟩ x.l λd=>Dr d ⟨b,0,none⟩ λk=>K k d:=
 aF.mk f (A0 9) λc e m s=>Dr.mk x (Kj (by rw[Kz] at e;exact e)) (j c m)
theorem U0 {b:Ev}(h:Ej b=true):b.data.size<=2000:=by
 obtain⟨t,u,v,f,j⟩:=RZ h;by_cases k:b.kind=1
 ·obtain⟨p,m,ok⟩:=f k;have:=(wh m).2;have e:=congrArg List.length this;rw[A7] at e;rw[<- e];simp only[Fz,A4,decide_eq_true_eq] at ok;obtain⟨⟨w,o⟩,q⟩:=ok;have x:=Ba.1 o;have:=PU q;have z:=AV (n:=p.aA.toNat) (by omega);have C:=AV (n:=p.steps.length) (by omega);unfold Ci;simp only[A1];omega
 ·by_cases r:b.kind=12
  ·have:=FE (j r);omega
  ·have d:=ME h;unfold Ed at d;simp only[A4,DA,decide_eq_true_eq] at d;rcases d.2 with c|c
   ·rw[c];decide
   ·unfold eg at c;simp at c;omega
section
variable {A : ar} {B : cI} {g h : aa} {s a N sh : Nat} {l : List Hs} {mp : List Pr} {O : Nat -> Prop} {i : Nat} {y : Hs} {fl : cA} {an : cP} {R : A2O}
theorem LW.get {key:A2P}(c:LW B g h s a N sh l mp O)(d:key.size<=1099511627776)(e: ∀b,Ext h b->R (J1 #[J7 (Iy mp key).1,J3 (Iy mp key).2,J6 J9 0]) b):AA A P FP #[Aq s,J7 key] h R:=by obtain⟨j,k,st,m,n,nn,f,o,rfl,p,q,out⟩:=c;exact rJ f d e
theorem LW.scan {p f:A2P}{d:Int}(e:LW B g h s a N sh l mp O)(j:p.size<=1099511627776)(k: ∀sl b,Own BQ AR b sl (jg mp p f d)->(∀ c,sl.ai=some c->h.size<=c)->Ext h b->R (J1 #[J4 sl.p sl.len sl.cap,J6 J9 0]) b):AA A P Fg #[Aq s,J7 p,J7 f,J6 J9 d] h R:=by obtain⟨o,q,st,m,r,nn,n,t,rfl,u,v,out⟩:=e;exact AOl n j k
theorem LW.eG(d:LW B g h s a N sh l mp O)(b:l[i]? =some y):h[y.p]? =some (J2 #[Aq s,J7 y.name,J6 J9 (sh:Int),.map (some y.bh),.map (some y.bu)] Rf (0,0))/\1<=sh/\sh<=16:=by obtain⟨e,f,st,m,j,nn,k,n,o,c,p,out⟩:=d;exact⟨(c.host i y b).cell,(c.host i y b).sh⟩
theorem LW.store(b:LW B g h s a N sh l mp O)(c:l[i]? =some y)(d:R (Aq s) h):AA A P EJ #[Aq y.p] h R:=by refine VY ?_;unfold PE;exact ag.no rfl (aE (AY.mk (AO (b.eG c).1 rfl) d))
theorem LW.aH(b:LW B g h s a N sh l mp O)(c:l[i]? =some y)(d:R (J6 J9 (sh:Int)) h):AA A P FZ #[Aq y.p] h R:=by refine Ul ?_;unfold NY;exact ag.no rfl (aE (AC.mk (AB (b.eG c).1 rfl) d))
theorem Jj.eU(b:Jj mp fl an){wid:A2P}(c:Ak wid=true):Iy mp (KY wid)=match fl wid with|none=>(⟨#[]⟩,false)|some l=>(QS (Bv l).status.toNat (Bv l).next.toNat false,true):=by unfold Iy;rw[b.fS wid c];cases fl wid<;>rfl
theorem Jj.fJ(c:Jj mp fl an){b:A2P}(d:Ak b=true):Iy mp (Ka b)=match an b with|none=>(⟨#[]⟩,false)|some x=>(iL x.1 x.2.1.toNat x.2.2.toNat,true):=by unfold Iy;rw[c.kD b d];cases an b<;>rfl
theorem sM {wid:A2P}(v:LW B g h s a N sh l mp O)(o:l[i]? =some y)(w:Jj mp fl an)
  (F:Ak wid=false-> ∀f,Ext h f->R (J1 #[bT.z.v,J6 J9 1]) f)
  (G:Ak wid=true-> ∀f,Ext h f->R (J1 #[(nv wid (Au wid sh) (fl wid)).1.v,J6 J9 (nv wid (Au wid sh) (fl wid)).2]) f):
  AA A P MZ #[Aq y.p,J7 wid] h R:=by
 obtain⟨-,H,I⟩:=v.eG o;refine ABz ?_;unfold Vs;refine ao.mk λJ _ z p Y=>aj.mk λK L=>ag.no rfl (FL ⟨_,rfl,L _ _ ?_⟩)
 cases m:Ak wid with
 |false=>exact ag.yes rfl (nw z λb M=>F m b (p.more M λc j=>by subst j;exact A0 _))
 |true=>
  have Z:=FE m;have q:=v.on p;have fin: ∀ {b d:aa} {x:bT} {r:Int},Ext J b->Mod (· =h.size) b d->(x,r)=nv wid (Au wid sh) (fl wid)->R (J1 #[x.v,J6 J9 r]) d:=λ{b d x r} k t Q=>by
   have:=G m d ((p.trans k).more t λc j=>by subst j;exact A0 _);rw[<- Q] at this;exact this
  refine ag.no rfl (q.aH o ⟨_,rfl,R3 (by omega) H I ⟨_,_,rfl,ag.no rfl (q.store o ⟨_,rfl,nD (by omega) ⟨_,rfl,?_⟩⟩)⟩⟩);refine q.get (by rw[Rn];omega) λb k=>?_
  rw[w.eU m];have C:=k.ai z λh=>h
  cases u:fl wid with
  |none=>
   refine⟨_,_,_,rfl,ag.no rfl (ag.yes rfl (nw C λd t=>?_))⟩;exact fin k t (by rw[u];rfl)
  |some e=>
   have n:=w.dH wid e u;have nx:=n.next.1;have ab:=n.len;have st:=n.st;have ac:1<=e.length:=List.length_pos_iff.2 n.ne;refine⟨_,_,_,rfl,ag.no rfl (ag.no rfl (AKg (by omega) (by omega) (by omega) λd D=>oz.mk _ ⟨_,rfl,?_⟩))⟩;refine ao.mk λad _ S T ae=>aF.mk S (A0 3) λU V W af=>?_
   have E:Ext b U:=(D.trans T).more W λc j=>by subst j;exact D.size
   refine OU.mk _ (Cr V rfl) (nw (E.ai C λh=>h) λah X=>?_);refine fin (k.trans E) X ?_;rw[u];unfold nv;rw[show(((Bv e).status.toNat:Nat):Int)=(Bv e).status from by omega,show(((Bv e).next.toNat:Nat):Int)=(Bv e).next from by omega]
theorem AIG {e:A2P}(M:LW B g h s a N sh l mp O)(Q:l[i]? =some y)(z:Jj mp fl an)(C:Ak e=true)
  (D: ∀E,Ext h E->R (match an e with|none=>J1 #[J7 ⟨#[]⟩,bo.z.v,J3 false,J6 J9 0]|some x=>J1 #[J7 (AX x.1),(dR 0 x.2.1 x.2.2).v,J3 true,J6 J9 0]) E):AA A P LD #[Aq y.p,J7 e] h R:=by
 have af:=FE C;refine Wy ?_;unfold Pm;refine ao.mk λah _ S f ai=>?_
 have F:=M.on f;refine F.store Q ⟨_,rfl,tW (by omega) ⟨_,rfl,F.get (by rw[VN];omega) λj k=>?_⟩⟩;rw[z.fJ C];have m:=k.ai S λh=>h
 cases o:an e with
 |none=>
  refine⟨_,_,_,rfl,aj.mk λK p=>ag.no rfl (p _ _ (ag.yes rfl (Zu m λG T=>?_)))⟩;have:=D G ((f.trans k).more T λc d=>by subst d;exact A0 _);rw[o] at this;exact this
 |some x=>
  obtain⟨⟨ak,al⟩,⟨am,ap⟩,aq⟩:=z.kF e x o;refine⟨_,_,_,rfl,aj.mk λK p=>ag.no rfl (p _ _ (ag.no rfl ?_))⟩;unfold iL;have ar:=Fb (n:=x.2.1.toNat) (by omega);have au:=Fb (n:=x.2.2.toNat) (by omega);have av:=AV (n:=x.1.length) (by omega);have aw:(BR x.1).length<=2010:=by unfold BR;rw[A1];omega
  refine Jo λG H q=>⟨_,rfl,G7 H (by simp only[A1];omega) λax U r=>⟨_,rfl,?_⟩⟩
  rw[IR (by omega)] at*
  refine DN (most:=4) U (by simp only[A1];omega) (by decide) λay V t=>⟨_,rfl,?_⟩
  rw[CP (by omega) (by omega)] at*
  have W:CQ 501 ⟨Bc x.2.2.toNat,false⟩=(x.2.2.toNat,⟨[],false⟩):=by have:=CP (n:=x.2.2.toNat) (most:=501) (by omega) (by omega) [];rwa [AK] at this
  refine DN (most:=501) V (by simp only;omega) (by decide) λX Y u=>⟨_,rfl,?_⟩
  rw[W] at*
  refine ao.mk λaz _ Z v aA=>aF.mk Z (A0 9) λI J w aC=>?_
  have aD:=q.size;have aE:=r.size;have aG:=t.size;have aH:=u.size;have aI:=Ah m;have aa:Ib I j.size ⟨[],false⟩:=w.ai (v.ai Y λh=>h) (by have:=Ah H;omega);refine MS aa ⟨_,rfl,ag.no rfl ?_⟩;rw[Kz] at J;have ab:=w.ai (v.ai (u.ai (t.ai (r.ai (q.ai m λh=>h) (by omega)) (by omega)) (by omega)) λh=>h) (b:=h.size) (by omega);refine Dr.mk _ (Kj J) (Zu ab λac ad=>?_);have L:Ext j X:=q.more ((r.trans t).trans u) λc d=>by subst d;exact A0 _
  have ae:Ext j I:=(L.trans v).more w λc d=>by subst d;exact L.size
  have:=D ac (((f.trans k).trans ae).more ad λc d=>by subst d;exact A0 _);rw[o] at this;rw[show((x.2.1.toNat:Nat):Int)=x.2.1 from by omega,show((x.2.2.toNat:Nat):Int)=x.2.2 from by omega];exact this
end
theorem AKx {wid:A2P}{l:List Ev}{b i:Nat}{p:Pr}(h:(((Sk wid l).drop b).take 32)[i]? =some p): ∃c,l[b+i]? =some c/\p=Ol wid c:=by
 rw[Ek] at h;split at h
 ·rw[C5] at h;exact Qz h
 ·cases h
theorem JK.fresh {h j:aa}{k:Nat->Prop}{s:bg}{a b c:Sl}{n:Nat}(o:JK h s a b c)(m:Mod k h j)(fr: ∀x,a.ai=some x\/b.ai=some x\/c.ai=some x->n<=x)(f: ∀c,k c->c<n):JK j s a b c:=
 o.mod m (λx d e=>by have:=fr x (.inl d);have:=f x e;omega) (λx d e=>by have:=fr x (.inr (.inl d));have:=f x e;omega) (λx d e=>by have:=fr x (.inr (.inr d));have:=f x e;omega)
section
variable {A : ar} {B : cI} {g h : aa} {s a N sh : Nat} {l : List Hs} {mp : List Pr} {O : Nat -> Prop} {i : Nat} {y : Hs} {fl : cA} {an : cP} {R : A2O}
theorem sN {wid:A2P}{d:List Ev}{aX:J0}(ah:LW B g h s a N sh l mp O)(v:l[i]? =some y)(ai:Jj mp fl an)(ak:Ak wid=true)(al:fl wid=some d)
  (aY: ∀U e w z C,Ext h U->View dU U e d->JK U (Bv d) w z C->(∀ x,w.ai=some x\/z.ai=some x\/C.ai=some x->h.size<=x)->(∀ x,e.ai=some x->h.size<=x)->(∀ x y,e.ai=some x->w.ai=some y\/z.ai=some y\/C.ai=some y->x<y)->
   R (J1 #[(⟨wid,(Au wid sh:Int),⟨(Bv d).status,(Bv d).next,false⟩,e,(Bv d).V w z C⟩:bT).v,J6 J9 0]) U):AA A P IU #[Aq y.p,aX,J7 wid] h R:=by
 have V:=ai.dH wid d al;obtain⟨nx,aC⟩:=V.next;have aZ:=V.len;have bL:1<=d.length:=List.length_pos_iff.2 V.ne;have a0:=FE ak;refine ACU ?_;unfold Vw;refine ao.mk λW _ am D bM=>?_
 refine sM (ah.on D) v ai (λh=>by rw[ak] at h;cases h) λ_ k aD=>?_
 rw[al];refine SS.mk _ ⟨_,rfl,ao.mk λbN _ a1 a2 bO=>aF.mk a1 (A0 18) λX Q a3 bP=>ag.no rfl ?_⟩;rw[ZW] at Q;have ap:Ext k X:=a2.more a3 λc f=>by subst f;exact A0 _
 have aE:Ext W X:=aD.trans ap;have bQ:=Ah am;have a4:=aD.size;have bR:=ap.size;have bS:X[h.size]? =some (J2 bT.z.c Cv (0,0)):=aE.ai am λh=>h
 let fv:Sl->bT:=λe=>⟨wid,(Au wid sh:Int),⟨(Bv d).status,(Bv d).next,false⟩,e,bH.z⟩
 have Q:X[k.size]? =some (J2 (fv ga).c Cv (0,0)):=Q;refine aj.mk λK a5=>Ac.mk (n:=false) (Cj Q rfl) (ag.no rfl ?_)
 refine Loop.rule (λm x r=> ∃e:Sl,m=d.length-e.len/\e.len<=d.length/\Ext W r/\Ext k r/\r[k.size]? =some (J2 (fv e).c Cv (0,0))/\Own dU A8 r e (d.take e.len)/\(∀ b,e.ai=some b->k.size<b)) ?_
  ⟨ga,rfl,An _,aE,ap,Q,Own.nil,λb j=>by simp[Sl.ai] at j⟩
 rintro bU m _ aq ⟨e,rfl,a6,S,aG,t,I,fr⟩ a7;refine AZ.mk (s:=e) (Ce t rfl) (AC.mk (n:=(Bv d).next) (Cj t rfl) ?_);rw[nx,wrap_i64 (by omega) (by omega)];have aH:LW B g aq s a N sh l mp O:=ah.on (D.trans S);refine ag.intro (λF=>?_) (λF=>?_)
 ·have bV:e.len<d.length:=by simp at F;omega
  refine AZ.mk (s:=e) (Ce t rfl) (aH.store v ⟨_,rfl,Ce t rfl,tU (by omega) λaI Y=>⟨_,rfl,?_⟩⟩);have a8:=Y.ai t λh=>h
  refine⟨Ce a8 rfl,?_⟩;rw[Aa (by omega)];refine tV (by omega) (by omega) λa9 ar=>⟨_,rfl,?_⟩
  have au:=Y.trans ar;have ba:=aH.on au;refine ba.scan (by have:=ANG a0;omega) λps J av bb bc=>⟨_,_,rfl,ag.no rfl ?_⟩
  rw[APu ah.sorted ai ak al a6] at av;have u:=au.trans bc;have aJ:=av.len;have bW:ps.len=min 32 (d.length-e.len):=by rw[aJ,Ax,DG];unfold Sk;rw[Bs]
  refine ag.no (by simp;omega) ?_;have bd:=S.trans u;have be:=aG.trans u;refine Loop.rule (λm x r=> ∃(o:Nat) (q:Sl),x=((o:Int),())/\m=ps.len-o/\o<=ps.len/\q.len=e.len+o/\Ext W r/\Ext k r/\Mod (λc=>c=k.size\/e.ai=some c) J r/\r[k.size]? =some (J2 (fv q).c Cv (0,0))/\Own dU A8 r q (d.take q.len)/\(∀ b,q.ai=some b->k.size<b/\(e.ai=some b\/J.size<=b))) ?_
   ⟨0,e,rfl,rfl,An _,rfl,bd,be,Mod.refl,u.ai t λh=>h,I.ext u,λb j=>⟨fr b j,.inl j⟩⟩
  rintro bX m _ aw ⟨o,q,rfl,rfl,aK,bf,aL,aM,ax,L,aN,M⟩ bg;dsimp only;refine ag.intro (λF=>?_) (λF=>?_)
  ·have Z:o<ps.len:=by simpa using F
   have bY:e.len+o<d.length:=by omega
   obtain⟨p,aO⟩: ∃p,(((Sk wid d).drop e.len).take 32)[o]? =some p:=⟨_,A2 (by rw[<- aJ];exact Z)⟩;obtain⟨G,aa,rfl⟩:=AKx aO;have ok:=(aC _ _ aa).2;have hd:=U0 ok;have bZ:=yu (ME ok) (by omega);have bh:View BQ aw ps (((Sk wid d).drop e.len).take 32):=(av.view.mod ax λb j f=>by
    have:=bb b j;have:=au.size;have:=aG.size;have:=Ah t;rcases f with rfl|f
    ·omega
    ·have:=I.lt f;omega)
   refine bh.idx aO λb0 _ bi=>?_
   obtain⟨bj,bk,bm⟩:=bi.pair;refine AJ.mk bj (AJ.mk bk (Ac.mk bm (ao.pair λb ab b1 bn aP b2=>AJ.mk (n:=AX (Nf G)) (AB bn rfl) ?_)));refine AKX (by omega) λb3 aQ=>?_
   rw[(AM0 (by omega)).2 ⟨ok,rfl⟩];refine ox.mk G ⟨_,rfl,ao.mk λb4 _ bo bp b5=>aF.mk bo (A0 8) λbq aR br b6=>ag.no rfl ?_⟩;rw[pM] at aR;have H:Ext aw bq:=((aP.trans aQ).trans bp).more br λc f=>by subst f;exact(aP.trans aQ).size
   refine AZ.mk (s:=q) (Ce (H.ai L λh=>h) rfl) (Np.mk G (QV aR) ?_);refine ao.aZ (E:=dU) (x:=G) (s:=q) rfl mD (aN.ext H) (by simp only[Ax];omega) (by simp only[Ax,maxLen];omega) λT b7 aS ac bs b8=>?_
   have b9:=Ah L;have ca:=H.size;have cb:=ax.size;have bt: ¬q.ai=some k.size:=λh=>by have:=(M _ h).1;omega
   refine af.bM (dJ:=(fv T).c) (ac.ai (H.ai L λh=>h) bt) (of_decide_eq_true rfl) rfl λcc bu ad cd=>?_
   rw[Aa (by omega)];have aT:T.len=e.len+(o+1):=by have:=aS.len;rw[A1,Ax,Cd] at this;omega
   have ce:=D.size;have aU: ∀b,T.ai=some b->k.size<b/\(e.ai=some b\/J.size<=b):=λb j=>by
    rcases bs b j with h|h
    ·exact M b h
    ·exact⟨by omega,.inr (by omega)⟩
   have bv: ∀b,q.ai=some b->W.size<=b:=λb j=>by have:=(M b j).1;omega
   refine bg (ps.len-(o+1)) _ _ (by omega) ⟨o+1,T,rfl,rfl,Z,aT,((aL.trans H).more ac bv).more ad λc f=>by subst f;exact a4,((aM.trans H).more ac λb j=>by have:=(M b j).1;omega).more ad λc f=>by subst f;exact A0 _,?_,bu,?_,aU⟩
   ·refine(ax.trans H.mod).then ((ac.ak λc _ f=>?_).trans (ad.ak λc _ f=>?_))
    ·rcases(M c f).2 with h|h
     ·exact .inl (.inr h)
     ·exact .inr h
    ·exact .inl (.inl f)
   ·have bw:d.take T.len=d.take q.len++ [G]:=by rw[aT,bf,<-HJ,AD,aa];rfl
    rw[bw];exact aS.mod ad λb j f=>by have:=(aU b j).1;omega
  ·have Z:o=ps.len:=by simp at F;omega
   subst Z;exact a7 (d.length-q.len) _ _ (by omega) ⟨q,rfl,by omega,aL,aM,L,aN,λb j=>(M b j).1⟩
 ·have bx:e.len=d.length:=by simp at F;omega
  rw[bx,BT] at I;refine a5 () aq (AZ.mk (s:=e) (Ce t rfl) ?_);refine tY I.view aZ (λG aa=>by
   obtain⟨o,aK⟩:=E0 aa;have:=U0 (aC o G aK).2;omega) V.ok λaI w z C Y bz ay=>Gl.mk _ ⟨_,_,rfl,?_⟩
  refine ao.mk λa9 _ bA ar cf=>aF.mk bA (A0 12) λJ ae bB cg=>?_
  rw[O8] at ae;have aV:Ext aI J:=ar.more bB λc f=>by subst f;exact A0 _
  have u:=Y.trans aV;have az:=u.ai t λh=>h
  have bC:=u.ai ((S.ai am λh=>h)) λh=>h
  refine aj.mk λch bD=>ag.no rfl (AC.mk (n:=(Bv d).next) (AB ae rfl) (AC.mk (n:=(Bv d).next) (Cj az rfl) ?_))
  refine ag.no (by simp) (AC.mk (n:=(Bv d).status) (AB ae rfl) (AC.mk (n:=(Bv d).status) (Ce az rfl) (bD _ _ (ag.no (by simp) ?_))));have bE:=bz.ext aV;have ci:=Ah t;have cj:=S.size;have ck:=u.size;refine Az.mk _ (FB ae) ?_;have bF:(⟨k.size,0,none⟩:Q6).add 6=⟨k.size,6,none⟩:=rfl;rw[bF];refine aF.mk az (of_decide_eq_true rfl) λaw L aW cl=>?_
  refine F5.mk ⟨wid,(Au wid sh:Int),⟨(Bv d).status,(Bv d).next,false⟩,e,(Bv d).V w z C⟩ (OW (by exact L)) (nw (aW.ai bC (by omega)) λab bG=>?_);have aA:Mod (λc=>c=k.size\/c=h.size) J ab:=(aW.ak λc _ f=> .inl f).trans (bG.ak λc _ f=> .inr f);have bI:=bE.fresh (n:=aq.size) aA ay λc f=>by omega
  have bJ:View dU ab e d:=(I.view.ext u).mod aA λb j f=>by have:=fr b j;omega
  refine aY ab e w z C ((D.trans (S.trans u)).more aA λc f=>by have:=D.size;omega) bJ bI (λx v=>by have:=ay x v;have:=D.size;omega) (λx v=>by have:=fr x v;have:=D.size;omega) λx y v bK=>F2 (I.lt v) (ay y bK)
theorem sO {wid:A2P}{b:List Ev}{k:J0}(m:LW B g h s a N sh l mp O)(n:l[i]? =some y)(o:Jj mp fl an)(p:Ak wid=true)(q:fl wid=some b)
  (r: ∀c d e f j,Ext h c->View dU c d b->JK c (Bv b) e f j->(∀ x,e.ai=some x\/f.ai=some x\/j.ai=some x->h.size<=x)->(∀ x,d.ai=some x->h.size<=x)->
   R (J1 #[(⟨wid,(Au wid sh:Int),⟨(Bv b).status,(Bv b).next,false⟩,d,(Bv b).V e f j⟩:bT).v,J6 J9 0]) c):AA A P IU #[Aq y.p,k,J7 wid] h R:=
 sN m n o p q λc d e f j t V u v w _=>r c d e f j t V u v w
end
theorem OP {k v:A2P}(a:k≠⟨#[]⟩)(b:k.size<=64)(c:v.size<=8192):Ai ⟨k,v,false⟩=0:=by unfold Ai;rw[if_neg (by simp[a]),if_neg (by simp;omega)]
theorem sP {k:A2P}(a:k≠⟨#[]⟩)(b:k.size<=64):Ai ⟨k,⟨#[]⟩,true⟩=0:=by have z:(⟨#[]⟩:A2P).size=0:=rfl;unfold Ai;rw[if_neg (by simp[a]),if_neg (by simp;omega)]
theorem PV {a:A2P}(b:0<a.size):a≠⟨#[]⟩:=λc=>by rw[c] at b;cases b
theorem sQ: ∀ {l:List Pr},(∀ p∈l,Ai p=0)->F9 l=0
 | [],_=>rfl
 |x::l,a=>by
  unfold F9;rw[if_neg (by rw[a x (by simp)];decide)];exact sQ λp b=>a p (by simp[b])
theorem pH {l:List Pr}(a:l≠ [])(c:l.length<=64)(b: ∀p∈l,Ai p=0):EX l=0:=by unfold EX;rw[if_neg (by rw[Ts];exact a),if_neg (by omega)];exact sQ b
theorem AQc {wid:A2P}{a:Ev}(c:Ak wid=true)(b:Ej a=true):Ai (Ol wid a)=0:=by
 have d:=FE c;have e:=APB d a.id.toNat;have hd:=U0 b;have f:=yu (ME b) (by omega);refine OP (PV ?_) (by omega) ?_
 ·unfold eo;rw[AP];unfold kW;simp
 ·rw[AP];omega
theorem AQE {wid:A2P}{st nx:Nat}{a:Bool}(b:Ak wid=true)(c:st<128)(d:nx<=501):Ai ⟨KY wid,QS st nx a,false⟩=0:=by have e:=FE b;have:=AKV (kept:=a) c d;exact OP (PV (by rw[Rn];omega)) (by rw[Rn];omega) (by omega)
theorem ARq {a:A2P}{x:List UInt8×Int×Int}(b:Ak a=true)(c:0<=x.2.1/\x.2.1<=4)(d:0<=x.2.2/\x.2.2<=501)(e:x.1.length<=2000):Ai (YV a x)=0:=by have f:=FE b;have g:=Fb (n:=x.2.1.toNat) (by omega);have h:=Fb (n:=x.2.2.toNat) (by omega);have i:=AV (n:=x.1.length) (by omega);refine OP (PV (by rw[VN];omega)) (by rw[VN];omega) ?_;unfold iL BR;rw[AP];simp only[A1];omega
theorem Xa {t:fO}{wid:A2P}{sh num:Nat}{tick:Int}(a:Gx t wid=true):Ai ⟨MF sh tick num,Zy t wid,false⟩=0/\(BL (MF sh tick num)≠104/\BL (MF sh tick num)≠119/\BL (MF sh tick num)≠114)/\BL (MF sh tick num)≠108:=by
 unfold Gx at a;simp only[A4,Ba] at a;obtain⟨⟨⟨⟨c,d⟩,b⟩,e,f⟩,g,h⟩:=a;have:=xA (kind:=t.kind.toNat) (wid:=wid) (ref:=t.ref.toNat) (turn:=t.turn.toNat) (by omega) (FE b) (by omega) (by omega);unfold MF Zy;split
 ·rw[R5];exact⟨OP (PV (by rw[Ms];omega)) (by rw[Ms];omega) (by omega),⟨by decide,by decide,by decide⟩,by decide⟩
 ·rw[xy];exact⟨OP (PV (by rw[xq];omega)) (by rw[xq];omega) (by omega),⟨by decide,by decide,by decide⟩,by decide⟩
end Go.Lf.G
namespace Go.Lf
open G
open Go
open M (Sorted Af CY A9 Ag Ar BU Ai bC BH aQ BF)
def bz.fits(a:bz)(b:List Ev):Prop:=El Sy (b++a.more)=some a.st
end Go.Lf
namespace Go.Lf.G
open Go
open M (Sorted Af CY A9 Ag Ar BU Ai bC BH aQ BF)
theorem PG {a:bz}{c:List Ev}{d:Ev}(b:a.fits c):(Dn a d).fits c:=by
 unfold Dn;split
 ·exact b
 ·split
  ·exact b
  ·split
   ·exact b
   ·rename_i e;have e:(Bo a.st (Cq a d)).1=0:=by simpa using e
    show El Sy (c++(a.more++ [Cq a d]))=_;rw[<- A3];exact AIN b e
theorem Uv {a:bz}{c:List Ev}{t:fO}{tick:Int}{b:Nat}(d:a.fits c):(Du a t tick b).fits c:=by unfold bz.fits;rw[(Gy a t tick b).1,(Gy a t tick b).2];exact d
theorem sR {a:bz}{b:List Ev}{c f:Nat}(d:a.fits b):(BA a c f).fits b:=by
 have e:(Ec a c).fits b:=by
  unfold Ec;split
  ·exact Uv (PG d)
  ·exact d
 unfold BA;split
 ·exact Uv e
 ·exact e
abbrev iZ:=Option (A2P×(List UInt8×Int×Int))
end Go.Lf.G
namespace Go.Lf
open G
open Go
open M (Sorted Af CY A9 Ag Ar BU Ai bC BH aQ BF)
structure bz.beside (C:bz) (o:iZ):Prop where
 ok: ∀p∈C.au,Ai p=0
 fw: ∀p∈C.au,(BL p.key≠104/\BL p.key≠119/\BL p.key≠114)\/ ∃r x,o=some (r,x)/\p=YV r x
 la: ∀p∈C.au,BL p.key≠108
end Go.Lf
namespace Go.Lf.G
open Go
open M (Sorted Af CY A9 Ag Ar BU Ai bC BH aQ BF)
theorem MH {a:bz}{c:iZ}(b:a.beside c)(d:Ev):(Dn a d).beside c:=by have:=(OH a d).2.2.2.2.2.1;exact⟨by rw[this];exact b.ok,by rw[this];exact b.fw,by rw[this];exact b.la⟩
theorem UQ {d:bz}{f:iZ}(a:d.beside f)(t:fO)(tick:Int)(g:Nat):(Du d t tick g).beside f:=by
 unfold Du;split
 ·exact a
 ·split
  ·exact⟨a.ok,a.fw,a.la⟩
  ·rename_i c;have c:Gx t d.wid=true:=by simpa using c
   refine⟨λp e=>?_,λp e=>?_,λp e=>?_⟩<;>rcases List.mem_append.1 e with b|b
   ·exact a.ok p b
   ·rw[List.mem_singleton.1 b];exact(Xa c).1
   ·exact a.fw p b
   ·rw[List.mem_singleton.1 b];exact .inl (Xa c).2.1
   ·exact a.la p b
   ·rw[List.mem_singleton.1 b];exact(Xa c).2.2
theorem YF {a:bz}{b:iZ}(c:a.beside b)(d f:Nat):(BA a d f).beside b:=by
 have e:(Ec a d).beside b:=by
  unfold Ec;split
  ·exact UQ (MH c _) _ _ _
  ·exact c
 unfold BA;split
 ·exact UQ e _ _ _
 ·exact e
theorem AIa {e:bz}{c:A2P}{x:List UInt8×Int×Int}(a:e.beside none)(f:Ak c=true)(g:0<=x.2.1/\x.2.1<=4)(h:0<=x.2.2/\x.2.2<=501)(i:x.1.length<=2000):(om e (Ka c) (iL x.1 x.2.1.toNat x.2.2.toNat)).beside (some (c,x)):=by
 refine⟨λp d=>?_,λp d=>?_,λp d=>?_⟩<;>rcases List.mem_append.1 d with b|b
 ·exact a.ok p b
 ·rw[List.mem_singleton.1 b];exact ARq f g h i
 ·rcases a.fw p b with a|⟨j,k,a,_⟩
  ·exact .inl a
  ·cases a
 ·exact .inr ⟨c,x,rfl,List.mem_singleton.1 b⟩
 ·exact a.la p b
 ·rw[List.mem_singleton.1 b];show BL (Ka c)≠108;rw[LH];decide
theorem sS(a:bz)(b:Ev):(Dn a b).au=a.au:=(OH a b).2.2.2.2.2.1
theorem sT {b:bz}{p:Pr}(a:p∈b.au)(t:fO)(tick:Int)(c:Nat):p∈(Du b t tick c).au:=by
 unfold Du;split
 ·exact a
 ·split
  ·exact a
  ·exact Hc _ a
theorem AMe {a:bz}{p:Pr}(b:p∈a.au)(c e:Nat):p∈(BA a c e).au:=by
 have d:p∈(Ec a c).au:=by
  unfold Ec;split
  ·exact sT (by rw[sS];exact b) _ _ _
  ·exact b
 unfold BA;split
 ·exact sT d _ _ _
 ·exact d
theorem Jj.note {o b:List Pr}{v:cA}{k:cP}{j:iZ}(g:Jj o v k)(s:Sorted o)(l:fG b j):Jj (cz o b) v (pG k j):=by
 have w: ∀p∈b,BL p.key≠104/\BL p.key≠119:=λp A=>by
  rcases l.fw p A with m|⟨a,x,_,rfl⟩
  ·exact⟨m.1,m.2.1⟩
  ·exact⟨by show BL (Ka a)≠104;rw[LH];decide,by show BL (Ka a)≠119;rw[LH];decide⟩
 refine⟨λn q B y=>?_,λn q=>?_,λa z=>?_,g.dH,λa x f=>?_⟩
 ·rw[KF s λc e d=>(w c e).1 (by rw[d];exact qZ y)];exact g.cJ n q B y
 ·rw[KF s λc e d=>(w c e).2 (by rw[d];exact GG n)];exact g.fS n q
 ·have no: ∀c∈b,c.key=Ka a-> ∃x,j=some (a,x)/\c=YV a x:=λc e d=>by
   have C:=(congrArg BL d).trans (LH a);rcases l.fw c e with m|⟨h,x,D,rfl⟩
   ·exact absurd C m.2.2
   ·have:h=a:=xw d;subst this;exact⟨x,D,rfl⟩
  cases j with
  |none=>
   rw[KF s λc e d=>?_,g.kD a z]
   ·rfl
   ·obtain⟨x,f,_⟩:=no c e d;cases f
  |some r=>
   obtain⟨h,x⟩:=r;show _=(du k h x a).map (YV a);by_cases i:a=h
   ·subst i;rw[Jq];refine(nq (p:=YV a x) s (l.has a x rfl).1 λc e d=>?_).trans rfl;obtain⟨t,u,rfl⟩:=no c e d;cases u;rfl
   ·rw[NJ i,KF s λc e d=>?_,g.kD a z];obtain⟨t,u,_⟩:=no c e d;cases u;exact i rfl
 ·cases j with
  |none=>exact g.kF a x f
  |some r=>
   obtain⟨h,t⟩:=r;have f:du k h t a=some x:=f;by_cases i:a=h
   ·subst i;rw[Jq] at f;cases f;exact(l.has a x rfl).2.2
   ·rw[NJ i] at f;exact g.kF a x f
theorem ZQ {a:bz}{b:List Ev}{g:Nat}(c:a.fits b)(e:b++a.more≠ [])(f:Dc a.st g):Ru (b++a.more)/\Bv (b++a.more)=a.st:=by
 have d:Bv (b++a.more)=a.st:=by unfold Bv;rw[c];rfl
 have nx:=xl c e;have:=f.next;exact⟨⟨e,by omega,by rw[d];exact c,by rw[d];exact f.st⟩,d⟩
theorem AOj {a:Type}{f:A2P->Option a}{b:A2P}{x:a}(c:f b=some x):du f b x=f:=by
 funext e;unfold du;split
 ·rename_i d;rw[d,c]
 ·rfl
theorem Jj.done {c:List Pr}{a:cA}{g:cP}{D:bz}{o:iZ}{k:Nat}(h:Jj c a g)(s:Sorted c)(m:Ak D.wid=true)(n:D.fits ((a D.wid).getD []))(b:(a D.wid).getD []++D.more≠ [])(p:Dc D.st k)(q:D.beside o)
  (has: ∀d x,o=some (d,x)->YV d x∈D.au/\Ak d=true/\(0<=x.2.1/\x.2.1<=4)/\(0<=x.2.2/\x.2.2<=501)/\x.1.length<=2000):
  Jj (cz c (EA D++D.au)) (du a D.wid ((a D.wid).getD []++D.more)) (pG g o):=by
 have i:fG D.au o:=⟨q.fw,has⟩;obtain⟨r,t⟩:=ZQ n b p;by_cases e:D.more= []
 ·have f:EA D= []:=by unfold EA;rw[e];rfl
  rw[f,CT];have:du a D.wid ((a D.wid).getD []++D.more)=a:=by
   rw[e,AK] at b ⊢;cases j:a D.wid with
   |none=>rw[j] at b;exact absurd rfl b
   |some l=>exact AOj j
  rw[this];exact h.note s i
 ·have f:EA D++D.au=D.more.map (Ol D.wid)++([TW D.wid ((a D.wid).getD []++D.more)]++D.au):=by unfold EA TW;rw[if_neg e,A3,t]
  rw[f];exact h.land s m r i
theorem sU {e:List Pr}{c:cA}{h:cP}{a:bz}(i:Jj e c h)(j:Ak a.wid=true)(b:match c a.wid with|none=>a.bX=0|some l=>a.cu=(Bv l).status/\a.bX=(Bv l).next/\a.kept=false/\0<a.bX):Bd e (bD a)=true:=by
 have g:=i.eU j;cases f:c a.wid with
 |none=>
  rw[f] at b g;have b:a.bX=0:=b;have d:bD a=⟨KY a.wid,⟨#[]⟩,true⟩:=by unfold bD;rw[if_neg (by omega)]
  rw[d];unfold Bd;rw[if_pos rfl,g];rfl
 |some l=>
  rw[f] at b g;obtain⟨k,m,n,o⟩:=b;have d:bD a=⟨KY a.wid,QS a.cu.toNat a.bX.toNat a.kept,false⟩:=by unfold bD;rw[if_pos o]
  rw[d];unfold Bd;rw[if_neg (by simp),g,k,m,n];simp
theorem AMx {b:List Pr}{d:cA}{c:cP}{a:A2P}(e:Jj b d c)(f:Ak a=true)(h:c a=none):Bd b ⟨Ka a,⟨#[]⟩,true⟩=true:=by unfold Bd;have g:=e.fJ f;rw[h] at g;rw[if_pos rfl,g];rfl
theorem sV {b:bz}{g:Nat}(d:Ak b.wid=true)(ok: ∀c∈b.more,Ej c=true/\c.data.size<1099511627776)(e:Dc b.st g): ∀p∈EA b,Ai p=0:=by
 intro p f;have st:=e.st;have nx:=e.next;unfold EA at f;rcases List.mem_append.1 f with a|a
 ·obtain⟨c,h,rfl⟩:=List.mem_map.1 a;exact AQc d (ok c h).1
 ·split at a
  ·cases a
  ·rw[List.mem_singleton.1 a];exact AQE d (by omega) (by omega)
theorem sW(a:bz):(EA a).length<=a.more.length+1:=by unfold EA;rw[A1,Bs];split<;>simp
theorem sX {f e:List Pr}{a:bz}{g:iZ}{h:Nat}(i:Ak a.wid=true)(ok: ∀d∈a.more,Ej d=true/\d.data.size<1099511627776)(j:Dc a.st h)(k:a.beside g)(n:a.more.length+1+a.au.length<=64)(l:EA a++a.au≠ [])(o:e.length<=64)(b: ∀c∈e,Bd f c=true):dw f e (EA a++a.au)=0:=by
 have q:=sW a;have d:EX (EA a++a.au)=0:=pH l (by rw[A1];omega) λp m=>by
  rcases List.mem_append.1 m with b|b
  ·exact sV i ok j p b
  ·exact k.ok p b
 unfold dw;rw[if_neg (by omega),if_neg (by rw[d];decide),if_pos (List.all_eq_true.2 b)]
theorem Rh(a:Nat):BL (CE a)=108:=by unfold BL CE;rw[EN];rfl
theorem sY {d:List Pr}{b:bz}{i:iZ}(s:Sorted d)(j:b.beside i)(e g:Nat)(h:A2P):Bd (cz d (EA b++b.au)) (FY e g h)=Bd d (FY e g h):=by
 have f:Af (CE e) (cz d (EA b++b.au))=Af (CE e) d:=KF s λk l m=>by
  have c:=(congrArg BL m).trans (Rh e);rcases List.mem_append.1 l with a|a
  ·unfold EA at a;rcases List.mem_append.1 a with a|a
   ·obtain⟨f,_,rfl⟩:=List.mem_map.1 a;rw[show BL (Ol b.wid f).key=104 from Ym _ _] at c;exact absurd c (by decide)
   ·split at a
    ·cases a
    ·rw[List.mem_singleton.1 a] at c;rw[show BL (KY b.wid)=119 from GG _] at c;exact absurd c (by decide)
  ·exact j.la k a c
 rw[OG,OG];unfold Iy;rw[f]
def MB(x:ct)(p:ck):List UInt8:=Bc x.kind.toNat++(BR (bl x.wid)++(BR (if x.kind=2 then bl x.name else [])++(if x.kind=1 then Ci p else [])))
def PM(x:ct)(p:ck):Int:=if x.kind=1/\Fz p=false then 130 else if(x.kind=2/\Ak x.name=false)\/Ak x.wid=false\/Ak x.bA=false then 1 else 0
theorem ZY {x:ct}{p:ck}(h:PM x p=0):(x.kind=1->Fz p=true)/\(x.kind=2->Ak x.name=true)/\Ak x.wid=true/\Ak x.bA=true:=by
 unfold PM at h;split at h
 ·cases h
 ·rename_i b;split at h
  ·cases h
  ·rename_i a;simp only[not_or,not_and,Bool.not_eq_false] at b a;exact⟨b,a.1,a.2⟩
theorem RL {p:ck}(ok:Fz p=true):(Ci p).length<=1700:=by simp only[Fz,A4,decide_eq_true_eq] at ok;obtain⟨⟨c,a⟩,b⟩:=ok;have d:=Ba.1 a;have:=PU b;have e:=AV (n:=p.aA.toNat) (by omega);have f:=AV (n:=p.steps.length) (by omega);unfold Ci;simp only[A1];omega
theorem APP {x:ct}{p:ck}(h:PM x p=0)(f:1<=x.kind/\x.kind<=4):(MB x p).length<=2000:=by
 obtain⟨a,b,c,g⟩:=ZY h;have i:=FE c;have j:=Fb (n:=x.kind.toNat) (by omega);have k:=KW (s:=x.wid) (by omega);have l:(BR (if x.kind=2 then bl x.name else [])).length<=30:=by
  split
  ·rename_i d;have:=FE (b d);have:=KW (s:=x.name) (by omega);omega
  ·have:=AV (n:=0) (by omega);show(Bc 0++ []).length<=30;rw[AK];omega
 have m:(if x.kind=1 then Ci p else []).length<=1700:=by
  split
  ·rename_i e;exact RL (a e)
  ·simp
 unfold MB;simp only[A1];omega
section
variable {A : ar} {h : aa} {R : A2O}
theorem ANP {x:ct}{p:ck}(V:View QP h x.steps p.steps)(M:x.aA=p.aA)(len:p.steps.length<=1099511627776)(am:1<=x.kind/\x.kind<=4)
  (w: ∀e,Ext h e->R (J1 #[J7 (if PM x p=0 then AX (MB x p) else⟨#[]⟩),J6 J9 (PM x p)]) e):AA A P NP #[x.v] h R:=by
 refine AAB ?_;unfold Su;refine ao.mk λi _ j k an=>aj.mk λK N=>?_
 have y: ∀(n:Int) e,Ext h e->PM x p=n->n≠0->R (J1 #[J7 ⟨#[]⟩,J6 J9 n]) e:=λn e O Q r=>by
  have:=w e O;rw[Q,if_neg r] at this;exact this
 have z: ∀(ps:List UInt8) (b:aa),Ext i b->(x.kind=1->Fz p=true/\ps=Ci p)->(x.kind≠1->ps= [])->K (AX ps,()) b:=λps b f m B=>by
  have c:=f.ai j λh=>h
  have ap:ps.length<=1700:=by
   by_cases h:x.kind=1
   ·rw[(m h).2];exact RL (m h).1
   ·rw[B h];simp
  have C: ¬(x.kind=1/\Fz p=false):=λh=>by have:=(m h.1).1;rw[h.2] at this;cases this
  refine N _ _ (aj.mk λt S=>?_);have u: ∀o:Bool,(o=true↔(x.kind=2/\Ak x.name=false)\/Ak x.wid=false\/Ak x.bA=false)->t (o,()) b:=λo D=>by
   refine S _ _ (ag.intro (λg=>y 1 b (k.trans f) (by unfold PM;rw[if_neg C,if_pos (D.1 g)]) (by decide)) (λg=>?_));have g:o=false:=g;have T: ¬((x.kind=2/\Ak x.name=false)\/Ak x.wid=false\/Ak x.bA=false):=λh=>by rw[D.2 h] at g;cases g
   have E:PM x p=0:=by unfold PM;rw[if_neg C,if_neg T]
   obtain⟨aq,U,W,ar⟩:=ZY E;have au:=FE W;refine AJ.mk (n:=x.name) (AB c rfl) (aj.mk λX Y=>?_);have F: ∀d:List UInt8,d=(if x.kind=2 then bl x.name else [])->X (AX d,()) b:=λd G=>by
    have nl:d.length<=16:=by
     rw[G];split
     ·rename_i Z;rw[A7];exact FE (U Z)
     ·simp
    refine Y _ _ (AC.mk (n:=x.kind) (AO c rfl) (AJ.mk (n:=x.wid) (AB c rfl) ?_));rw[Oc (by omega) (by omega)];refine Cc (by omega) λav H=>⟨_,rfl,AB (H.ai c λh=>h) rfl,KR (by omega) λaw ab=>⟨_,rfl,?_⟩⟩
    have ax:=Fb (n:=x.kind.toNat) (by omega);have ay:=KW (s:=x.wid) (by omega);have az:(BR d).length<=30:=by unfold BR;rw[A1];have:=AV (n:=d.length) (by omega);omega
    refine⟨by rw[AP,AP,max_i64];omega,?_⟩;rw[Aj];refine Qw (l:=d) (by omega) λac ad=>⟨_,rfl,⟨by rw[AP,AP,A1,max_i64];omega,?_⟩⟩
    rw[Aj];refine⟨by rw[AP,AP,A1,A1,max_i64];omega,?_⟩;rw[Aj];have:=w ac ((((k.trans f).trans H).trans ab).trans ad);rw[E,if_pos rfl] at this;have ae:MB x p=((Bc x.kind.toNat++BR (bl x.wid))++BR d)++ps:=by
     unfold MB;rw[G];simp only[A3];congr 3;split
     ·rename_i h;rw[(m h).2]
     ·rename_i h;rw[B h]
    rw[ae] at this;exact this
   refine AC.mk (n:=x.kind) (AO c rfl) (ag.intro (λa=>?_) (λa=>?_))
   ·have a:x.kind≠2:=by simpa using a
    exact F [] (by rw[if_neg a])
   ·have a:x.kind=2:=by simpa using a
    have:=F (bl x.name) (by rw[if_pos a]);rw[Kv] at this;exact this
  have rest:(x.kind=2->Ak x.name=true)->AJ b ((⟨h.size,0,none⟩:Q6).add 2) λaf=>AA A P Bg #[J7 af] b λah v=> ∃I:Bool,ah=J3 I/\(ag (!I) (t (true,()) v) (
    AJ v ((⟨h.size,0,none⟩:Q6).add 1) λai=>AA A P Bg #[J7 ai] v λak al=> ∃J:Bool,ak=J3 J/\(t ((!J),()) al))):=λr=>
   AJ.mk (n:=x.wid) (AB c rfl) (FL ⟨_,rfl,ag.intro (λa=>u true (by simp at a;simp[a])) λa=>AJ.mk (n:=x.bA) (AB c rfl) (FL ⟨_,rfl,u _ (by
    have a:Ak x.wid=true:=by simpa using a
    simp only[a,CI,Bool.true_eq_false,false_or];constructor
    ·exact .inr
    ·rintro(⟨i,b⟩|h)
     ·rw[r i] at b;cases b
     ·exact h)⟩)⟩)
  refine AC.mk (n:=x.kind) (AO c rfl) (ag.intro (λa=>?_) (λa=>?_))
  ·have a:x.kind=2:=by simpa using a
   refine AJ.mk (n:=x.name) (AB c rfl) (FL ⟨_,rfl,ag.intro (λq=>u true (by simp at q;simp[a,q])) λq=>rest λ_=>by simpa using q⟩)
  ·have a:x.kind≠2:=by simpa using a
   exact rest λh=>absurd h a
 refine AC.mk (n:=x.kind) (AO j rfl) (ag.intro (λa=>?_) (λa=>?_))
 ·have a:x.kind=1:=by simpa using a
  refine AZ.mk (s:=x.steps) (AB j rfl) (AC.mk (n:=x.aA) (Cj (by exact j) rfl) ?_);rw[M];refine u0 (V.ext k) len λb f=>?_
  unfold X0;cases L:Fz p with
  |false=>exact⟨_,_,rfl,ag.yes rfl (y 130 b (k.trans f) (by unfold PM;rw[if_pos ⟨a,L⟩]) (by decide))⟩
  |true=>exact⟨_,_,rfl,ag.no rfl (z (Ci p) b f (λ_=>⟨L,rfl⟩) λh=>absurd a h)⟩
 ·have a:x.kind≠1:=by simpa using a
  exact z [] i Mod.refl (λh=>absurd h a) λ_=>rfl
end
def dF(a:Int)(b:A2P):Ev:=⟨0,a,0,0,0,0,false,b⟩
def Bu(c:Option (List Ev))(wid:A2P)(a:Nat)(b:Int):bz:=match c with
 |none=>Hy wid a 0 0 false Sy b
 |some l=>Hy wid a (Bv l).status (Bv l).next false (Bv l) b
def sZ(p:ck)(a:Int):Int:=if(0:Int)>a+p.aA then 0 else a+p.aA
def DI(x:ct)(p:ck)(a:bz)(b:Nat):bz:=
 if x.kind=1 then(if 0<p.aA then Du (Dn a (dF 1 (AX (Ci p)))) ⟨6,0,0⟩ (sZ p a.now) b else Dn a (dF 1 (AX (Ci p))))
 else if x.kind=2 then Dn a (dF 12 x.name)
 else if x.kind=3 then(if a.st.cancel=true then a else Dn a (dF 13 ⟨#[]⟩))
 else Dn a (dF 18 ⟨#[]⟩)
def Fy(x:ct)(p:ck)(a:bz)(b:Nat):bz:=om (DI x p a b) (Ka x.bA) (iL (MB x p) (Dh (DI x p a b)).1.toNat (Dh (DI x p a b)).2.toNat)
def Oa(b:cA)(c:cP)(d:Nat)(x:ct)(p:ck):Option (Int×Int×Int):=
 if x.kind<1\/4<x.kind then some (1,0,0)
 else if PM x p≠0 then some (PM x p,0,0)
 else if d=0 then some (170,0,0)
 else match c x.bA with
  |some a=>if a.1≠MB x p then some (184,0,0) else some (0,a.2.1,a.2.2)
  |none=>match b x.wid with
   |none=>if x.kind=1 then none else some (180,0,0)
   |some l=>if x.kind=1 then some (181,0,0) else if(Bv l).status≠0 then some (182,0,0) else none
theorem AJf {a:Option (List Ev)}{wid:A2P}{n:Nat}{now:Int}(h: ∀l,a=some l->Ru l):Dc (Bu a wid n now).st 500/\(Bu a wid n now).more= []/\(Bu a wid n now).au= []/\(Bu a wid n now).conds= []/\(Bu a wid n now).wid=wid/\(Bu a wid n now).aq=n/\(Bu a wid n now).now=now/\(Bu a wid n now).fits (a.getD []):=by
 cases a with
 |none=>exact⟨Dc.zero.up (by omega),rfl,rfl,rfl,rfl,rfl,rfl,rfl⟩
 |some l=>
  have b:=h l rfl;refine⟨?_,rfl,rfl,rfl,rfl,rfl,rfl,?_⟩
  ·have:=UN Dc.zero b.ok;exact this.up (by have:=b.len;omega)
  ·show El Sy (l++ [])=some (Bv l);rw[AK];exact b.ok
theorem ANA {x:ct}{p:ck}{a:bz}{num c:Nat}(u:PM x p=0)(ok: ∀e∈a.more,Ej e=true/\e.data.size<1099511627776)(v:Dc a.st c):a.grown (DI x p a num) (c+1) 1 1:=by
 obtain⟨w,y,C,D⟩:=ZY u;have b:=Wx ok v;have z:(⟨#[]⟩:A2P).size<1099511627776:=by decide
 have up: ∀ {d:bz},a.grown d (c+1) 1 0->a.grown d (c+1) 1 1:=λ{d} ⟨f,g,i,j,k,l,m,s,n,B,o,q⟩=>⟨f,g,i,j,k,l,m,s,n,by omega,o,q⟩
 unfold DI;split
 ·rename_i r;have t:(dF 1 (AX (Ci p))).data.size<1099511627776:=by show(AX (Ci p)).size<_;have:=RL (w r);rw[AP];omega
  split
  ·exact XB (MG b t) _ _ _
  ·exact up (MG b t)
 ·split
  ·rename_i r;exact up (MG b (e:=dF 12 x.name) (by have:=FE (y r);show x.name.size<_;omega))
  ·split
   ·split
    ·obtain⟨f,g,i,j,k,l,m,s,n,B,o,q⟩:=b;exact⟨f,g,i,j,k,l,m,by omega,n,by omega,o,q.up (BW _)⟩
    ·exact up (MG b z)
   ·exact up (MG b z)
theorem APx {x:ct}{p:ck}{a:bz}{c:Nat}{b:List Ev}(h:a.fits b):(DI x p a c).fits b:=by
 unfold DI;split
 ·split
  ·exact Uv (PG h)
  ·exact PG h
 ·split
  ·exact PG h
  ·split
   ·split
    ·exact h
    ·exact PG h
   ·exact PG h
theorem AKQ {x:ct}{p:ck}{c:bz}{d:Nat}(h:c.au= []):(DI x p c d).beside none:=by
 have b:c.beside none:=⟨(λp a=>by rw[h] at a;cases a),(λp a=>by rw[h] at a;cases a),(λp a=>by rw[h] at a;cases a)⟩;unfold DI;split
 ·split
  ·exact UQ (MH b _) _ _ _
  ·exact MH b _
 ·split
  ·exact MH b _
  ·split
   ·split
    ·exact b
    ·exact MH b _
   ·exact MH b _
theorem ta {b:bz}{c:Ev}(h:(Dn b c).err=0):b.err=0:=by
 unfold Dn at h;split at h
 ·rename_i a;exact absurd h a
 ·rename_i a;simpa using a
theorem pI {a:bz}{b:Ev}(h:(Dn a b).err=0):Dn a b= {a with st:=(Bo a.st (Cq a b)).2,more:=a.more++ [Cq a b]}/\(Bo a.st (Cq a b)).1=0:=by
 have d:=ta h;unfold Dn at h ⊢;rw[if_neg (by simp[d])] at h ⊢;split at h
 ·cases h
 ·rename_i e;rw[if_neg e];split at h
  ·rename_i c;exact absurd h c
  ·rename_i c;rw[if_neg c];exact⟨rfl,by simpa using c⟩
theorem AOm {a:bz}{b:Nat}(h:(Ec a b).err=0):a.err=0:=by
 unfold Ec at h;split at h
 ·exact ta (Xi h)
 ·exact h
theorem tc {a:bz}{c d:Nat}(h:(BA a c d).err=0):(BA a c d).st.status=(Dh a).1/\(BA a c d).st.next=(Dh a).2:=by
 have g:=VP h;have j:(BA a c d).st=(Ec a c).st:=by
  unfold BA;split
  ·exact(Gy _ _ _ _).1
  ·rfl
 rw[j];unfold Dh;by_cases e:EG a=true
 ·rw[if_pos e];unfold Ec at g ⊢;rw[if_pos e] at g ⊢;rw[(Gy _ _ _ _).1];obtain⟨k,b⟩:=pI (Xi g);rw[k];show(Bo a.st (Cq a QQ)).2.status=_/\(Bo a.st (Cq a QQ)).2.next=_;have ok:=Qc b;unfold Bo at b ⊢;rw[if_neg (by simp[ok])] at b ⊢;split at b
  ·rename_i i;rw[if_neg (λh=>by have h:(2:Int)=1:=h.1;cases h)] at b;cases b
  ·rename_i i;rw[if_neg i];split at b
   ·cases b
   ·rename_i l;rw[if_neg l];split at b
    ·cases b
    ·rename_i m;rw[if_neg m];cases f:Pi a.st (Cq a QQ) with
     |none=>rw[f] at b;cases b
     |some t=>
      unfold Pi at f;rw[if_pos (show 2<=(Cq a QQ).kind/\(Cq a QQ).kind<=5 from(by decide:(2:Int)<=2/\(2:Int)<=5))] at f;obtain⟨u,n,rfl⟩:=Option.map_eq_some_iff.1 f;exact⟨(QF n).2.2.2,rfl⟩
 ·rw[if_neg e];unfold Ec;rw[if_neg e];exact⟨rfl,rfl⟩
end Go.Lf.G
