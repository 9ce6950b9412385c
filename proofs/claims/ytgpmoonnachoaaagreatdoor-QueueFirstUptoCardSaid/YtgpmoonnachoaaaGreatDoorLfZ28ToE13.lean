/-
 A store, hosts over it, and blocks of one's own beside them (chapter 18).
-/
import Derived.Test.YtgpmoonnachoaaaGreatDoorLfV3ToZ27
import Derived.Test.YtgpmoonnachoaaaGreatDoorLfKToGA
import Derived.Test.YtgpmoonnachoaaaGreatDoorLfU2ToS3
set_option maxRecDepth 100000
set_option linter.unusedVariables false
set_option linter.unusedSimpArgs false
open Go.IntKind renaming i64→J9,wrap→J8
open Go.Value renaming string→J7,int→J6,pointer→J5,slice→J4,bool→J3,tuple→J1
open Go.Obj renaming cells→J2
open Go renaming Value→J0,Addr→Q6,TypeId→Q7,FuncId→Q8,Program→Q1
open Go.Addr renaming add→Q9,mk→Q5
namespace Go.Lf.G
open Go
open M (Sorted Af CY BA Ag Au BV Ai bB BH aP BF)
structure Hs where
 p:Nat
 bh:Nat
 bu:Nat
 name:A2Q
 f:Nat->Nat
 u:Nat->Nat
def Hs.bN(x:Hs)(c:Nat):Prop:=c=x.p\/c=x.bh\/c=x.bu
structure jk (g h:aa) (k:Nat->Nat) (s sh N:Nat) (l:List Hs):Prop where
 host: ∀(i:Nat) x,l[i]? =some x->Dw g h k s x.p x.bh x.bu x.name sh x.f x.u N
 jL: ∀(i j:Nat) x y,l[i]? =some x->l[j]? =some y->i≠j-> ∀c,x.bN c-> ¬y.bN c
def LW(B:cH)(g h:aa)(s a N sh:Nat)(l:List Hs)(mp:List Pr)(O:Nat->Prop):Prop:=
 ∃(d:Hp) (b:Nat->Nat) (st:Db) (m:Bx) (e:Bt) (nn:Nat),F8 B g h s d b st m e (1+3*a) (64*a) nn/\nn<=a/\Cm st=mp/\jk g h b s sh N l/\N<=1000000/\ ∀c,O c->b c=0/\c<h.size/\g.size<=c/\c≠s/\ ∀x∈l,¬x.bN c
section
variable {A : aq} {B : cH} {g h : aa} {s a N sh : Nat} {l : List Hs} {mp : List Pr} {O : Nat -> Prop} {R : A2P}
theorem jk.step {d:aa}{b k':Nat->Nat}{e:Nat->Prop}(f:jk g h b s sh N l)(k:Mod e h d)(m: ∀c,e c->b c≠0\/h.size<=c\/c=s\/ ∀x∈l,¬x.bN c)(n: ∀c,k' c≠0->b c≠0\/h.size<=c):jk g d k' s sh N l:=
 ⟨λi x j=>(f.host i x j).step k (λc o=>by
  rcases m c o with h|h|h|h
  ·exact .inl h
  ·exact .inr (.inl h)
  ·exact .inr (.inr (.inl h))
  ·exact .inr (.inr (.inr (h x (AM j))))) n,f.jL⟩
theorem jk.set {h':aa}{k m:Nat->Nat}{S:Nat->Prop}{i j:Nat}{x x':Hs}(n:jk g h k s sh N l)(o:l[i]? =some x)(u:Mod S h h')(v: ∀c,S c->k c≠0\/h.size<=c\/c=s\/x.bN c)(w: ∀c,m c≠0->k c≠0\/h.size<=c)(y:Dw g h' m s x'.p x'.bh x'.bu x'.name sh x'.f x'.u j)(same: ∀c,x'.bN c↔x.bN c)(q:N<=j/\j<=1000000):jk g h' m s sh j (l.set i x'):=by
 have r:=(List.getElem?_eq_some_iff.1 o).1;refine⟨λd e b=>?_,λz C M P D E F c p=>?_⟩
 ·by_cases f:i=d
  ·subst f;rw[HP r] at b;cases b;exact y
  ·rw[Kd f] at b;refine((n.host d e b).step u (λc p=>?_) w).more q.1 q.2;rcases v c p with h|h|h|h
   ·exact .inl h
   ·exact .inr (.inl h)
   ·exact .inr (.inr (.inl h))
   ·exact .inr (.inr (.inr (n.jL i d x e o b f c h)))
 ·have go: ∀ {d:Nat} {e:Hs},(l.set i x')[d]? =some e-> ∃t,l[d]? =some t/\ ∀c,e.bN c↔t.bN c:=λ{d e} b=>by
   by_cases f:i=d
   ·subst f;rw[HP r] at b;cases b;exact⟨x,o,same⟩
   ·rw[Kd f] at b;exact⟨e,b,λ_=>CM⟩
  obtain⟨G,H,I⟩:=go D;obtain⟨J,K,L⟩:=go E;exact λh=>n.jL z C G J H K F c ((I c).1 p) ((L c).1 h)
theorem LW.ext(b:LW B g h s a N sh l mp O):Ext g h:=by obtain⟨d,e,st,m,f,nn,c,_⟩:=b;exact c.db.mem.ext
theorem LW.sorted(b:LW B g h s a N sh l mp O):Sorted mp:=by obtain⟨d,e,st,m,D,nn,c,_,rfl,_⟩:=b;exact c.db.sorted
theorem LW.own {e:aa}{O':Nat->Prop}(k:LW B g h s a N sh l mp O)(f:Mod O h e)(n: ∀c,O' c->O c\/(h.size<=c/\c<e.size)):LW B g e s a N sh l mp O':=by
 obtain⟨o,p,st,m,q,nn,d,r,t,j,u,out⟩:=k;have H:=d.db.mem.ext.size;have I:=f.size;have J:=d.lt;refine⟨o,p,st,m,q,nn,d.beside f (λc b=>⟨(out c b).1,(out c b).2.2.1⟩) (λh=>(out s h).2.2.2.1 rfl),r,t,j.step f (λc b=> .inr (.inr (.inr (out c b).2.2.2.2))) (λc b=> .inl b),u,λc b=>?_⟩;rcases n c b with h|⟨v,w⟩
 ·obtain⟨y,K,z,C,D⟩:=out c h;exact⟨y,by omega,z,C,D⟩
 ·refine⟨d.db.free v,w,by omega,by omega,λx E F=>?_⟩;obtain⟨i,G⟩:=F0 E;have:=(j.host i x G).lt c F;omega
theorem LW.on {b:aa}(d:LW B g h s a N sh l mp O)(x:Ext h b):LW B g b s a N sh l mp O:=d.own (x.aj λ_ _ h=>h.elim) λc e=> .inl e
theorem LW.less {O':Nat->Prop}(b:LW B g h s a N sh l mp O)(d: ∀c,O' c->O c):LW B g h s a N sh l mp O':=by obtain⟨e,f,st,m,i,nn,j,k,n,o,p,out⟩:=b;exact⟨e,f,st,m,i,nn,j,k,n,o,p,λc q=>out c (d c q)⟩
theorem LW.put {b c:Nat}(W:LW B g h s a N sh l mp O)(t:a<=b)(f:64*b<=B.C)(j:N<=c)(d:c<=1000000):LW B g h s b c sh l mp O:=by obtain⟨k,n,st,m,o,nn,p,u,q,e,v,out⟩:=W;exact⟨k,n,st,m,o,nn,p.put (by omega) (by omega) f,by omega,q,⟨λi x r=>(e.host i x r).more j d,e.jL⟩,d,out⟩
abbrev bo(g:aa)(O:Nat->Prop):Nat->Prop:=λc=>g.size<=c/\ ¬O c
theorem LW.dK {b:aa}{w:Nat->Prop}{i a' e nn o:Nat}{x x':Hs}{J y:Hp}{d f:Nat->Nat}{st p:Db}{m z:Bx}{K C:Bt}(j:F8 B g h s J d st m K (1+3*a) (64*a) nn)(D:jk g h d s sh N l)(out: ∀c,O c->d c=0/\c<h.size/\g.size<=c/\c≠s/\ ∀x∈l,¬x.bN c)
  (q:l[i]? =some x) (L:F8 B g b s y f p z C (1+3*a') (64*a') o) (M:o<=a') (r:Mod w h b) (t: ∀c,w c->d c≠0\/h.size<=c\/c=s\/x.bN c) (E: ∀c,f c≠0->d c≠0\/h.size<=c) (P:Dw g b f s x'.p x'.bh x'.bu x'.name sh x'.f x'.u e) (same: ∀c,x'.bN c↔x.bN c) (F:N<=e/\e<=1000000):
  LW B g b s a' e sh (l.set i x') (Cm p) O/\Mod (bo g O) h b:=by
 have W:=j.db.mem.ext.size;have X:=j.lt;have Y:=r.size;have G:=AM q;refine⟨⟨y,f,p,z,C,o,L,M,rfl,D.set q r t E P same F,F.2,λc k=>?_⟩,r.aj λc Z k=>⟨?_,λQ=>?_⟩⟩
 ·obtain⟨u,S,H,v,n⟩:=out c k;refine⟨Decidable.byContradiction λT=>?_,by omega,H,v,λU V I=>?_⟩
  ·rcases E c T with h|h
   ·exact h u
   ·omega
  ·rcases Up V with h|rfl
   ·exact n U h I
   ·exact n x G ((same c).1 I)
 ·rcases t c k with h|h|h|h
  ·exact(j.db.mem.own c h).1
  ·omega
  ·have:=j.base;omega
  ·exact((D.host i x q).bN c h).2.1
 ·obtain⟨u,S,H,v,n⟩:=out c Q;rcases t c k with h|h|h|h
  ·exact h u
  ·omega
  ·exact v h
  ·exact n x G h
theorem LW.host {name:A2Q}(D:LW B g h s a N sh l mp O)(E:Ak name=true)(F:1<=sh/\sh<=16)
  (G: ∀j p k n,LW B g j s a N sh (l++ [⟨p,k,n,name,λ_=>0,λ_=>0⟩]) mp O->Ext h j->R (J1 #[Ar p,J6 J9 0]) j):AA A P Pk #[Ar s,J7 name,J6 J9 (sh:Int)] h R:=by
 obtain⟨H,I,st,m,J,nn,v,K,L,o,w,out⟩:=D;refine ARR v E F λj p k n M fresh x=>G j p k n ⟨H,I,st,m,J,nn,v.on x,K,L,⟨λi d b=>?_,λi e y z Q S T c f t=>?_⟩,w,λc f=>?_⟩ x
 ·rw[PA] at b;split at b
  ·exact(o.host i d b).on x
  ·rw[PB] at b;split at b
   ·cases b;exact M.more (As _) w
   ·cases b
 ·have go: ∀ {e:Nat} {d:Hs},(l++ [⟨p,k,n,name,λ_=>0,λ_=>0⟩])[e]? =some d->(e<l.length/\l[e]? =some d)\/(e=l.length/\ ∀c,d.bN c->h.size<=c):=λ{e d} b=>by
   rw[PA] at b;split at b
   ·rename_i C;exact .inl ⟨C,b⟩
   ·rename_i C;rw[PB] at b;split at b
    ·rename_i aa;cases b;exact .inr ⟨by omega,λc f=>(fresh c f).1⟩
    ·cases b
  rcases go Q with⟨U,q⟩|⟨U,q⟩<;>rcases go S with⟨V,r⟩|⟨V,r⟩
  ·exact o.jL i e y z q r T c f t
  ·have:=(o.host i y q).lt c f;have:=r c t;omega
  ·have:=(o.host e z r).lt c t;have:=q c f;omega
  ·omega
 ·obtain⟨W,ab,X,Y,Z⟩:=out c f;have:=x.size;refine⟨W,by omega,X,Y,λd b u=>?_⟩;rcases List.mem_append.1 b with h|h
  ·exact Z d h u
  ·rw[List.mem_singleton.1 h] at u;have:=(fresh c u).1;omega
def Hs.mO(x:Hs)(b c:Nat):Hs:= {x with f:=dC x.f b c,u:=dC x.u b 0}
def Hs.lost(x:Hs)(b:Nat):Hs:= {x with f:=dC x.f b 0}
def Hs.jx(x:Hs)(b:Nat):Hs:= {x with u:=dC x.u b (x.u b+1)}
theorem LW.holds {i b:Nat}{x:Hs}(c:LW B g h s a N sh l mp O)(d:l[i]? =some x)(e:R (J6 J9 (x.f b:Int)) h):AA A P Cz #[Ar x.p,J6 J9 (b:Int)] h R:=by obtain⟨j,k,st,m,n,nn,o,p,q,f,r,out⟩:=c;exact Zg (f.host i x d) e
theorem LW.acquire {i b r:Nat}{x:Hs}{nm:A2Q}(n:bY g)(o:LW B g h s a N sh l mp O)(e:l[i]? =some x)(p:b<sh)(L:GK mp b r nm)(q:r+1<=2147483647)(hA:4+3*a<=B.A)(E:64*a+64<=B.C)(F:a+1<=1000000)(f:N+1<=1000000)
  (t: ∀d,LW B g d s (a+1) (N+1) sh (l.set i (x.mO b (r+1))) (cz mp [⟨CF b,Jn (r+1) x.name,false⟩]) O->Mod (bo g O) h d->R (J1 #[J6 J9 ((r+1:Nat):Int),J6 J9 0]) d):
  AA A P FD #[Ar x.p,J6 J9 (b:Int)] h R:=by
 obtain⟨G,H,st,m,I,nn,j,J,rfl,k,K,out⟩:=o;have u:=k.host i x e;refine AJH n j u p L q (by omega) (by omega) (by omega) f λd M Q S T U V W v w y z C=>?_
 have:=LW.dK (x':=x.mO b (r+1)) (a':=a+1) j k out e (v.put (by omega) (by omega) (by omega)) (by omega) z (λc D=>by
  rcases D with h|h|h|h|h
  ·exact .inl h
  ·exact .inr (.inl h)
  ·exact .inr (.inr (.inl h))
  ·exact .inr (.inr (.inr (.inr (.inl h))))
  ·exact .inr (.inr (.inr (.inr (.inr h))))) C y (λ_=>CM) ⟨BY _,f⟩
 rw[w] at this;exact t d this.1 this.2
theorem LW.number {i b:Nat}{x:Hs}(r:LW B g h s a N sh l mp O)(j:l[i]? =some x)(t:x.f b<=2147483647)(u:x.u b+1<16777216)(k:N+1<=1000000)
  (v:x.f b=0->R (.int .u64 0) h)
  (w:x.f b≠0-> ∀d,LW B g d s a (N+1) sh (l.set i (x.jx b)) mp O->Mod (bo g O) h d->R (.int .u64 ((x.f b*16777216+(x.u b+1):Nat):Int)) d):
  AA A P Gq #[Ar x.p,J6 J9 (b:Int)] h R:=by
 obtain⟨E,F,st,m,G,nn,n,y,rfl,o,H,out⟩:=r;have p:=o.host i x j;refine AKz p t u k v λz d C q=>?_
 have f:=p.bN x.bu (.inr (.inr rfl));have:=LW.dK (x':=x.jx b) n o out j (n.beside q (λc e=>by subst e;exact⟨f.1,f.2.1⟩) λD=>f.2.2 D.symm) y q (λc e=> .inr (.inr (.inr (.inr (.inr e))))) (λc e=> .inl e) C (λ_=>CM) ⟨BY _,k⟩;exact w z d this.1 this.2
theorem LW.change {i d:Nat}{x:Hs}{conds sl:Sl}{cl lp:List Pr}(y:bY g)(z:LW B g h s a N sh l mp O)(f:l[i]? =some x)(C:d<256)(D:x.f d<=2147483647)(hA:4+3*a<=B.A)(aa:64*a+64<=B.C)(ab:a+1<=1000000)(vc:View BR h conds cl)(E:cl.length<=1000000)(v:View BR h sl lp)(F:lp≠ []-> ∀b,sl.ah=some b->b<g.size\/O b)(G: ∀x∈cl,x.key.size<=1099511627776)
  (H:x.f d=0->R (J6 J9 170) h)
  (I:x.f d≠0->Bf mp (FZ d (x.f d) x.name)=false-> ∀e,LW B g e s a N sh (l.set i (x.lost d)) mp O->Mod (bo g O) h e->R (J6 J9 170) e)
  (J:x.f d≠0->Bf mp (FZ d (x.f d) x.name)=true->dw mp (FZ d (x.f d) x.name::cl) lp≠0-> ∀e,Ext h e->R (J6 J9 (dw mp (FZ d (x.f d) x.name::cl) lp)) e)
  (K:x.f d≠0->Bf mp (FZ d (x.f d) x.name)=true->dw mp (FZ d (x.f d) x.name::cl) lp=0-> ∀e,LW B g e s (a+1) N sh l (cz mp lp) O->Mod (bo g O) h e->R (J6 J9 0) e):
  AA A P GH #[Ar x.p,J6 J9 (d:Int),J4 conds.p conds.len conds.cap,J4 sl.p sl.len sl.cap] h R:=by
 obtain⟨ac,ad,st,m,ae,nn,j,L,rfl,n,u,out⟩:=z;have w:=n.host i x f;have af:=j.db.mem.ext.size;refine ASi y j w C D (by omega) (by omega) (by omega) vc E v (λM b Q=>?_) G H (λo S e p q r=>?_) J λo T U e ag ah ai aj ak al am p V q r W=>?_
 ·rcases F M b Q with h|h
  ·refine⟨by omega,j.db.base h,?_⟩;have:=(w.bN x.bh (.inr (.inl rfl))).2.1;omega
  ·obtain⟨X,Y,an,ao,Z⟩:=out b h;exact⟨Y,X,λt=>Z x (AM f) (.inr (.inl t))⟩
 ·have:=LW.dK (x':=x.lost d) j n out f p L r (λc k=>by
   rcases k with h|h
   ·exact .inr (.inl h)
   ·exact .inr (.inr (.inr (.inr (.inl h))))) (λc k=> .inl k) q (λ_=>CM) ⟨A0 _,u⟩
  exact I o S e this.1 this.2
 ·have:=LW.dK (x':=x) (a':=a+1) j n out f (p.put (by omega) (by omega) (by omega)) (by omega) r (λc k=>by
   rcases k with h|h|h
   ·exact .inl h
   ·exact .inr (.inl h)
   ·exact .inr (.inr (.inl h))) W q (λ_=>CM) ⟨A0 _,u⟩
  rw[V,show l.set i x=l from by
   obtain⟨ap,t⟩:=List.getElem?_eq_some_iff.1 f;rw[<- t,P3]] at this
  exact K o T U e this.1 this.2
end
abbrev cu:=A2Q->Option (List Ev)
abbrev cK:=A2Q->Option (List UInt8×Int×Int)
def Bw(l:List Ev):bd:=(El Sy l).getD Sy
structure Rv (l:List Ev):Prop where
 ne:l≠ []
 len:l.length<=500
 ok:El Sy l=some (Bw l)
 st:0<=(Bw l).status/\(Bw l).status<=4
theorem Rv.next {l:List Ev}(b:Rv l):(Bw l).next=l.length+1/\ ∀(i:Nat) (a:Ev),l[i]? =some a->a.id=i+1/\Ej a=true:=xq b.ok b.ne
def Sk(wid:A2Q)(l:List Ev):List Pr:=l.map (Oo wid)
def TY(wid:A2Q)(l:List Ev):Pr:=⟨KZ wid,QS (Bw l).status.toNat (Bw l).next.toNat false,false⟩
def YU(a:A2Q)(x:List UInt8×Int×Int):Pr:=⟨Kb a,iN x.1 x.2.1.toNat x.2.2.toNat,false⟩
structure Jg (mp:List Pr) (fl:cu) (an:cK):Prop where
 cI: ∀wid,Ak wid=true-> ∀k,Kc (Wx wid) k=true->Af k mp=Af k (Sk wid ((fl wid).getD []))
 fS: ∀wid,Ak wid=true->Af (KZ wid) mp=(fl wid).map (TY wid)
 kF: ∀bA,Ak bA=true->Af (Kb bA) mp=(an bA).map (YU bA)
 dG: ∀wid l,fl wid=some l->Rv l
 kG: ∀bA x,an bA=some x->(0<=x.2.1/\x.2.1<=4)/\(0<=x.2.2/\x.2.2<=501)/\x.1.length<=2000
theorem FE {s:A2Q}(a:Ak s=true):s.size<=16:=(FQ.1 a).2.1
theorem Q4 {wid:A2Q}{l:List Ev}{i:Nat}{p:Pr}(b:(Sk wid l)[i]? =some p): ∃a,l[i]? =some a/\p=Oo wid a:=by unfold Sk at b;rw[By] at b;obtain⟨a,c,rfl⟩:=Option.map_eq_some_iff.1 b;exact⟨a,c,rfl⟩
theorem QN {wid:A2Q}{l:List Ev}(b: ∀(i:Nat) (a:Ev),l[i]? =some a->a.id=i+1/\Ej a=true){i:Nat}{a:Ev}(c:l[i]? =some a):(Oo wid a).key=eo wid (i+1):=by unfold Oo;rw[(b i a c).1];rfl
theorem XZ {wid:A2Q}{l:List Ev}(j:l.length<=500)(c: ∀(i:Nat) (a:Ev),l[i]? =some a->a.id=i+1/\Ej a=true):Sorted (Sk wid l):=by unfold Sorted;rw[List.pairwise_iff_getElem];intro i k d b m;obtain⟨a,e,f⟩:=Q4 (A2 d);obtain⟨n,g,h⟩:=Q4 (A2 b);rw[f,h,QN c e,QN c g];unfold Sk at b;rw[AN] at b;exact mo (by omega) (by omega)
theorem lL {q:A2Q->Bool}{a:A2Q}: ∀ {l:List Pr},Af a (l.filter λx=>q x.key)=if q a=true then Af a l else none
 | []=>by simp[M.QO]
 |x::l=>by
  rw[AT];by_cases b:x.key=a
  ·subst b;split
   ·rw[M.BD,M.BD,if_pos rfl,if_pos rfl]
   ·rename_i c;rw[lL,if_neg c]
  ·split
   ·rw[M.BD,if_neg b,lL,M.BD,if_neg b]
   ·rw[lL,M.BD,if_neg b]
theorem ANF {a:A2Q}{b:Nat}{l:List Pr}(c: ∀x∈l.take b,x.key≠a):Af a (l.drop b)=Af a l:=by
 conv=>rhs;rw[<- CN b l]
 rw[M.LM,M.EJ c,LR]
theorem AP2 {k:List Pr}{p:cu}{u:cK}{wid:A2Q}{l:List Ev}{e:Nat}(s:Sorted k)(m:Jg k p u)(v:Ak wid=true)(n:p wid=some l)(A:e<=l.length):
  jj k (Wx wid) (eo wid (e+1)) 32=((Sk wid l).drop e).take 32:=by
 have h:=(m.dG wid l n).next.2;have w:=(m.dG wid l n).len;unfold jj;rw[show(32:Int).toNat=32 from rfl];congr 1;refine Sorted.ext (s.sublist Gk) ((XZ w h).sublist (List.drop_sublist _ _)) λc=>?_
 rw[lL (q:=λc=>Kc (Wx wid) c&& !aM c (eo wid (e+1)))];by_cases j:Kc (Wx wid) c=true
 ·rw[j,Ek];have r:=m.cI wid v c j;rw[n,HI] at r;by_cases f:aM c (eo wid (e+1))=true
  ·rw[f,if_neg (by simp)]
   symm
   refine M.EJ λx g b=>?_
   obtain⟨i,a⟩:=F0 g;rw[C5] at a;obtain⟨t,d,rfl⟩:=Q4 a;rw[QN h d] at b;subst b;have y:=(List.getElem?_eq_some_iff.1 d).1;by_cases z:i=0
   ·subst z;rw[G3,CZ] at f;cases f
   ·have:=OT f;rw[mo (by omega) (by omega)] at this;cases this
  ·have o:aM c (eo wid (e+1))=false:=by simpa using f
   rw[o,if_pos (by rfl),r]
   symm
   refine ANF λx g b=>?_
   obtain⟨i,a⟩:=F0 g;rw[F2] at a;split at a
   ·rename_i B;obtain⟨t,d,rfl⟩:=Q4 a;have y:=(List.getElem?_eq_some_iff.1 d).1;rw[QN h d] at b;subst b;rw[mo (by omega) (by omega)] at o;cases o
   ·cases a
 ·rw[if_neg (by simp[j])]
  symm
  refine M.EJ λx g b=>?_
  obtain⟨i,a⟩:=F0 g;rw[C5] at a;obtain⟨t,d,rfl⟩:=Q4 a;rw[QN h d] at b;subst b;exact j (xA wid _)
theorem KG {a:A2Q}{b m:List Pr}(s:Sorted m)(c: ∀d∈b,d.key≠a):Af a (cz m b)=Af a m:=by rw[YI a s,M.EJ λx e=>c x (List.mem_reverse.1 e)]
theorem nq {b m:List Pr}(s:Sorted m){p:Pr}(d:p∈b)(e: ∀a∈b,a.key=p.key->a=p):Af p.key (cz m b)=if p.gone then none else some p:=by
 rw[YI p.key s];cases c:Af p.key b.reverse with
 |none=>
  exfalso;unfold Af at c;rw[Hb] at c;have:=c p (List.mem_reverse.2 d);simp at this
 |some a=>
  obtain⟨f,g⟩:=M.ML c;obtain rfl:=e a (List.mem_reverse.1 g) f;show alive (some a)=_;rw[Hw]
def du {a:Type}(f:A2Q->Option a)(c:A2Q)(x:a):A2Q->Option a:=λb=>if b=c then some x else f b
theorem Jr {a:Type}{f:A2Q->Option a}{b:A2Q}{x:a}:du f b x b=some x:=if_pos rfl
theorem NI {b:Type}{f:A2Q->Option b}{c a:A2Q}{x:b}(d:a≠c):du f c x a=f a:=if_neg d
def pF {a:Type}(f:A2Q->Option a):Option (A2Q×a)->A2Q->Option a
 |none=>f
 |some (b,x)=>du f b x
structure fG (b:List Pr) (o:Option (A2Q×(List UInt8×Int×Int))):Prop where
 fw: ∀p∈b,(BL p.key≠104/\BL p.key≠119/\BL p.key≠114)\/ ∃r x,o=some (r,x)/\p=YU r x
 has: ∀r x,o=some (r,x)->YU r x∈b/\Ak r=true/\(0<=x.2.1/\x.2.1<=4)/\(0<=x.2.2/\x.2.2<=501)/\x.1.length<=2000
theorem Jg.land {F b:List Pr}{h:cu}{A:cK}{wid:A2Q}{more:List Ev}{t:Option (A2Q×(List UInt8×Int×Int))}(q:Jg F h A)(s:Sorted F)(G:Ak wid=true)
  (o:Rv ((h wid).getD []++more)) (B:fG b t):
  Jg (cz F (more.map (Oo wid)++([TY wid ((h wid).getD []++more)]++b))) (du h wid ((h wid).getD []++more)) (pF A t):=by
 have N:=o.next.2;have P:=o.len;have u: ∀p∈b,BL p.key≠104/\BL p.key≠119:=λp C=>by
  rcases B.fw p C with a|⟨f,x,_,rfl⟩
  ·exact⟨a.1,a.2.1⟩
  ·exact⟨by show BL (Kb f)≠104;rw[LG];decide,by show BL (Kb f)≠119;rw[LG];decide⟩
 have rowAt: ∀e∈more,∃i:Nat,((h wid).getD []++more)[i]? =some e/\(Oo wid e).key=eo wid (i+1):=λe Q=>by
  obtain⟨i,v⟩:=F0 Q;have:((h wid).getD []++more)[((h wid).getD []).length+i]? =some e:=by rw[Fc (by omega),Ts];exact v
  exact⟨_,this,QN N this⟩
 refine⟨λd w D y=>?_,λd w=>?_,λf O=>?_,λd l E=>?_,λf x m=>?_⟩
 ·have k:=qZ y;by_cases e:d=wid
  ·subst e;rw[Jr,HI];by_cases H: ∃p∈more.map (Oo d),p.key=D
   ·obtain⟨p,C,rfl⟩:=H;obtain⟨n,z,rfl⟩:=List.mem_map.1 C;obtain⟨i,v,R⟩:=rowAt n z;have S:Oo d n∈Sk d ((h d).getD []++more):=List.mem_map.2 ⟨n,AM v,rfl⟩;rw[Sorted.find (XZ P N) S,nq s (Hc _ C) (λg j c=>?_)]
    ·rfl
    ·rcases List.mem_append.1 j with a|a
     ·obtain⟨T,U,rfl⟩:=List.mem_map.1 a;obtain⟨V,I,W⟩:=rowAt T U;have Z:=(List.getElem?_eq_some_iff.1 v).1;have aa:=(List.getElem?_eq_some_iff.1 I).1;rw[R,W] at c;have:=(AQe (FE G) (FE G) (by omega) (by omega) c).2;have:V=i:=by omega
      subst this;rw[v] at I;cases I;rfl
     ·rcases List.mem_append.1 a with a|a
      ·rw[List.mem_singleton.1 a] at c;rw[<- c] at k;rw[show BL (TY d ((h d).getD []++more)).key=119 from GI d] at k;exact absurd k (by decide)
      ·exact absurd (by rw[c];exact k) (u g a).1
   ·rw[KG s λg j c=>?_,q.cI d w D y]
    ·unfold Sk;rw[AW,M.LM,M.EJ (l:=more.map (Oo d)) λx m X=>H ⟨x,m,X⟩];cases Af D (List.map (Oo d) ((h d).getD []))<;>rfl
    ·rcases List.mem_append.1 j with a|a
     ·exact H ⟨g,a,c⟩
     ·rcases List.mem_append.1 a with a|a
      ·rw[List.mem_singleton.1 a] at c;rw[<- c] at k;rw[show BL (TY d ((h d).getD []++more)).key=119 from GI d] at k;exact absurd k (by decide)
      ·exact absurd (by rw[c];exact k) (u g a).1
  ·rw[NI e,KG s λg j c=>?_,q.cI d w D y];rcases List.mem_append.1 j with a|a
   ·obtain⟨n,z,rfl⟩:=List.mem_map.1 a;rw[<- c] at y;exact e (xC (FE w) (FE G) y)
   ·rcases List.mem_append.1 a with a|a
    ·rw[List.mem_singleton.1 a] at c;rw[<- c] at k;rw[show BL (TY wid ((h wid).getD []++more)).key=119 from GI wid] at k;exact absurd k (by decide)
    ·exact absurd (by rw[c];exact k) (u g a).1
 ·by_cases e:d=wid
  ·subst e;rw[Jr];refine(nq (p:=TY d ((h d).getD []++more)) s (by simp) λg j c=>?_).trans rfl;rcases List.mem_append.1 j with a|a
   ·obtain⟨n,z,rfl⟩:=List.mem_map.1 a;have:=congrArg BL c;rw[show BL (Oo d n).key=104 from Yk _ _,show BL (TY d ((h d).getD []++more)).key=119 from GI d] at this;exact absurd this (by decide)
   ·rcases List.mem_append.1 a with a|a
    ·exact List.mem_singleton.1 a
    ·exact absurd ((congrArg BL c).trans (GI d)) (u g a).2
  ·rw[NI e,KG s λg j c=>?_,q.fS d w];rcases List.mem_append.1 j with a|a
   ·obtain⟨n,z,rfl⟩:=List.mem_map.1 a;have:=congrArg BL c;rw[show BL (Oo wid n).key=104 from Yk _ _,GI] at this;exact absurd this (by decide)
   ·rcases List.mem_append.1 a with a|a
    ·rw[List.mem_singleton.1 a] at c;exact e (ANk c).symm
    ·exact absurd ((congrArg BL c).trans (GI d)) (u g a).2
 ·have no: ∀g∈more.map (Oo wid)++([TY wid ((h wid).getD []++more)]++b),g.key=Kb f-> ∃x,t=some (f,x)/\g=YU f x:=λg j c=>by
   have o:=(congrArg BL c).trans (LG f);rcases List.mem_append.1 j with a|a
   ·obtain⟨n,z,rfl⟩:=List.mem_map.1 a;rw[show BL (Oo wid n).key=104 from Yk _ _] at o;exact absurd o (by decide)
   ·rcases List.mem_append.1 a with a|a
    ·rw[List.mem_singleton.1 a,show BL (TY wid ((h wid).getD []++more)).key=119 from GI wid] at o;exact absurd o (by decide)
    ·rcases B.fw g a with a|⟨r,x,Y,rfl⟩
     ·exact absurd o a.2.2
     ·have:r=f:=xD c;subst this;exact⟨x,Y,rfl⟩
  cases t with
  |none=>
   rw[KG s λg j c=>?_,q.kF f O]
   ·rfl
   ·obtain⟨x,m,_⟩:=no g j c;cases m
  |some J=>
   obtain⟨r,x⟩:=J;show _=(du A r x f).map (YU f);by_cases e:f=r
   ·subst e;rw[Jr];refine(nq (p:=YU f x) s ?_ λg j c=>?_).trans rfl
    ·exact HJ _ (HJ _ (B.has f x rfl).1)
    ·obtain⟨K,L,rfl⟩:=no g j c;cases L;rfl
   ·rw[NI e,KG s λg j c=>?_,q.kF f O];obtain⟨K,L,_⟩:=no g j c;cases L;exact e rfl
 ·by_cases e:d=wid
  ·subst e;rw[Jr] at E;cases E;exact o
  ·rw[NI e] at E;exact q.dG d l E
 ·cases t with
  |none=>exact q.kG f x m
  |some J=>
   obtain⟨r,K⟩:=J;have m:du A r K f=some x:=m;by_cases e:f=r
   ·subst e;rw[Jr] at m;cases m;exact(B.has f x rfl).2.2
   ·rw[NI e] at m;exact q.kG f x m
theorem Jg.aN {g b:List Pr}{j:cu}{k:cK}(a:Jg g j k)(s:Sorted g)(h: ∀p∈b,BL p.key≠104/\BL p.key≠119/\BL p.key≠114):Jg (cz g b) j k:=by
 refine⟨λf i n l=>?_,λf i=>?_,λm o=>?_,a.dG,a.kG⟩
 ·rw[KG s λc d e=>(h c d).1 (by rw[e];exact qZ l)];exact a.cI f i n l
 ·rw[KG s λc d e=>(h c d).2.1 (by rw[e];exact GI f)];exact a.fS f i
 ·rw[KG s λc d e=>(h c d).2.2 (by rw[e];exact LG m)];exact a.kF m o
theorem Jg.empty:Jg [] (λ_=>none) (λ_=>none):=
 ⟨λb _ d _=>rfl,λb _=>rfl,λc _=>rfl,λb l a=>(by cases a),λc x a=>(by cases a)⟩
theorem AOK(a b:Nat):((a:Nat):Int).tmod ((b:Nat):Int)=((a % b:Nat):Int):=by rw[Int.tmod_eq_emod_of_nonneg (by omega)];rfl
theorem AM4 {w:aq}{a:aa}{s:A2Q}{r:A2P}(D:s.size<=1099511627776)(b:r (J3 (Ak s)) a):AA w P Jj #[J7 s] a r:=by
 refine TS ?_;unfold NW;refine Loop.rule (λm x g=> ∃i:Nat,x=((i:Int),())/\g=a/\m=s.size-i/\i<=s.size/\ ∀c∈(bl s).take i,33<=c.toNat/\c.toNat<=126) ?_ ⟨0,rfl,rfl,rfl,by omega,by simp⟩;rintro E m _ g ⟨i,rfl,e,rfl,F,j⟩ y;subst g;refine af.intro (λk=>?_) (λk=>?_)
 ·have l:i<s.size:=by simpa using k
  obtain⟨c,n⟩: ∃c,(bl s)[i]? =some c:=⟨_,A2 (by rw[A7];exact l)⟩;have z:c∈bl s:=AM n;dsimp only;rw[Nu n];refine ai.mk λA B=>⟨⟨by omega,by omega⟩,?_⟩
  have t: ∀h:Bool,(h=true↔ ¬(33<=c.toNat/\c.toNat<=126))->A (h,()) a:=λh u=>by
   refine B _ _ ?_;refine af.intro (λf=>?_) (λf=>?_)
   ·have e:Ak s=false:=by rw[OR];intro C;exact u.1 f ((FQ.1 C).2.2 c z)
    rw[e] at b;exact b
   ·rw[Aa (by omega)];refine y (s.size-(i+1)) _ _ (by omega) ⟨i+1,rfl,rfl,rfl,l,λx d=>?_⟩;rw[Ax,n,Ds] at d;rcases List.mem_append.1 d with d|d
    ·exact j x d
    ·simp at d;subst d;have f:h=false:=f;exact Decidable.byContradiction λg=>by rw[u.2 g] at f;cases f
  refine af.intro (λo=>t _ ⟨λ_=>by simp at o;omega,λ_=>rfl⟩) (λo=>⟨⟨by omega,by omega⟩,t _ ⟨λv=>by simp at v;omega,λv=>by simp at o;simp;omega⟩⟩)
 ·have l:i=s.size:=by simp at k;omega
  rw[AF (by rw[A7];omega)] at j;have e:Ak s=(decide (1<=s.size)&&decide (s.size<=16)):=by rw[DQ,FQ];simp only[A4,decide_eq_true_eq];exact⟨λa=>⟨a.1,a.2.1⟩,λa=>⟨a.1,a.2,j⟩⟩
  rw[e] at b;refine af.intro (λp=>?_) (λp=>?_)
  ·have q:1<=s.size:=by simp at p;omega
   rw[decide_eq_true q,Ek] at b;have e:decide ((s.size:Int)<=(16:Int))=decide (s.size<=16):=by rw[decide_eq_decide];omega
   rw[e];exact b
  ·have q: ¬1<=s.size:=by simp at p;omega
   rw[decide_eq_false q,Fl] at b;exact b
theorem af.and {b:Bool}{a c:Prop}(d:b=true->a)(e:b=false->c):af b a c:=af.intro d e
theorem KX {s:A2Q}(a:s.size<18446744073709551616):(BU (bl s)).length<=10+s.size:=by have:=AV a;simp only[BU,A1,A7];omega
theorem yA {x:bP}(a:NA x=true):0<=x.kind/\x.kind<=3/\(x.kind=1\/x.kind=2\/x.kind=3)/\x.name.size<=16/\x.aL.size<=16/\0<=x.tries/\x.tries<=5/\0<=x.aA/\x.aA<=5/\0<=x.wait/\x.wait<=1000:=by
 have d: ∀ {s:A2Q},Ak s=true->s.size<=16:=λa=>(FQ.1 a).2.1
 have z:Ho.size=0:=rfl;unfold NA at a;split at a
 ·rename_i e;simp only[A4,DB,decide_eq_true_eq,Bb] at a;obtain⟨⟨⟨g,h⟩,l⟩,m⟩:=a;have:=d h;rcases g with⟨b,c⟩|⟨b,c⟩
  ·rw[b];omega
  ·have:=d b;omega
 ·split at a
  ·rename_i i e;simp only[A4,decide_eq_true_eq,Bb] at a;obtain⟨⟨⟨⟨b,c⟩,j⟩,k⟩,f⟩:=a;rw[b,c];omega
  ·split at a
   ·rename_i i n e;simp only[A4,decide_eq_true_eq] at a;obtain⟨⟨⟨⟨b,c⟩,j⟩,k⟩,f⟩:=a;have:=d f;rw[b];omega
   ·cases a
theorem AJ4 {x:bP}(a:NA x=true):(G8 x).length<=100:=by
 obtain⟨b,c,d,e,f,g,h,i,j,k,l⟩:=yA a;have m:=AV (n:=x.kind.toNat) (by omega);have o:=AV (n:=x.tries.toNat) (by omega);have p:=AV (n:=x.aA.toNat) (by omega);have q:=AV (n:=x.wait.toNat) (by omega);have r:=KX (s:=x.name) (by omega);have t:=KX (s:=x.aL) (by omega);unfold G8;rw[A1];split
 ·simp only[A1];omega
 ·split<;>omega
theorem PV: ∀ {l:List bP},l.all NA=true->(l.flatMap G8).length<=l.length*100
 | [],_=>by simp
 |x::l,a=>by
  simp only[Nd,A4] at a;have b:=AJ4 a.1;have c:=PV a.2;simp only[AH,A1,A5];omega
def X0(p:cj):J0:=J1 #[J7 (AX (if F4 p then Ci p else [])),J6 J9 (if F4 p then 0 else 130)]
section
variable {A : aq} {h : aa} {R : A2P}
theorem u0 {l:List Ev}{sl:Sl}{t:bd}(v:View dU h sl l)(av:l.length<=500)(hd: ∀f∈l,f.data.size<1099511627776)(V:El Sy l=some t)
  (W: ∀y a b c,Ext h y->JI y t a b c->(∀ x,a.ah=some x\/b.ah=some x\/c.ah=some x->h.size<=x)->R (J1 #[(t.V a b c).v,J6 J9 0,J6 J9 0]) y):
  AA A P MO #[J4 sl.p sl.len sl.cap] h R:=by
 refine ACd ?_;unfold WB;refine al.mk λaw _ X Y E=>al.mk λax _ F G ay=>?_
 rw[E] at F;rw[E];have Z:=Y.trans G;have aa: ∀x,(⟨none,0,0⟩:Sl).ah=some x\/(⟨none,0,0⟩:Sl).ah=some x\/(⟨none,0,0⟩:Sl).ah=some x->h.size+2<=x:=λx d=>by simp[Sl.ah] at d
 refine Loop.rule (λm x k=> ∃(i:Nat) (s:bd) (a b c:Sl),x=((i:Int),())/\m=l.length-i/\i<=l.length/\Ext h k/\k[h.size]? =some (J2 bG.z.c Av (0,0))/\k[h.size+1]? =some (J2 (s.V a b c).c Av (0,0))/\
   JI k s a b c/\(∀ x,a.ah=some x\/b.ah=some x\/c.ah=some x->h.size+2<=x)/\Dc s i/\El s (l.drop i)=some t) ?_
  ⟨0,Sy,⟨none,0,0⟩,⟨none,0,0⟩,⟨none,0,0⟩,rfl,rfl,As _,Z,G.ah X (λh=>h),F,⟨View.nil,View.nil,View.nil⟩,aa,Dc.zero,V⟩
 rintro K m _ H ⟨i,s,a,b,c,rfl,rfl,az,n,I,o,J,fr,L,g⟩ ab;have aA:=v.len;refine af.intro (λz=>?_) (λz=>?_)
 ·have j:i<l.length:=by simp at z;omega
  obtain⟨f,p⟩: ∃f,l[i]? =some f:=⟨_,A2 j⟩;have ac:=AM p;have ad:l.drop i=f::l.drop (i+1):=by rw[DH j];rw[A2 j] at p;cases p;rfl
  rw[ad,El] at g;split at g;rotate_left
  ·cases g
  rename_i M;refine(v.ext n).idx p λaC _ ae=>Np.mk f ae ?_
  refine al.mk λN _ q ag ah=>aE.mk q (A0 8) λai O aj aD=>?_
  rw[pL] at O;have r:Ext H ai:=ag.more aj λc e=>by subst e;exact A0 _
  have aF:=Ah o;refine A8.mk (s.V a b c) (FB (r.ah o λh=>h)) (Np.mk f (QX O) ?_);refine pW (J.ext r) L (by omega) (hd f ac) λaG ak am an ao ap u=>Gl.mk _ ⟨_,rfl,?_⟩
  rw[M];have B:=r.trans ao;refine al.mk λaH _ aq C aI=>aE.mk aq (A0 12) λar Q S aJ=>af.no rfl ?_
  rw[PD] at Q;have w:Ext H ar:=B.more (C.mod.trans S) λc e=>by subst e;exact B.size
  refine A8.mk _ (FB Q) (aE.mk (w.ah o λh=>h) (A0 12) λaK T D aL=>?_);rw[PD] at T;dsimp only;rw[Aa (by omega)];have aM:=r.size;have aN:=C.size;have aO:=B.size;have aP:=w.size;have aQ:=n.size;refine ab (l.length-(i+1)) _ _ (by omega) ⟨i+1,_,ak,am,an,rfl,rfl,j,(n.trans w).more D λc e=>by subst e;omega,D.ah (w.ah I λh=>h) (by omega),T,?_,λx d=>?_,Tj L M,g⟩
  ·have au:=ap.ext (C.more S λc e=>by subst e;exact A0 _);exact au.mod D (λx d e=>by have:=u x (.inl d);omega) (λx d e=>by have:=u x (.inr (.inl d));omega) (λx d e=>by have:=u x (.inr (.inr d));omega)
  ·have:=u x d;omega
 ·have j:i=l.length:=by simp at z;omega
  subst j;rw[IT,El] at g;obtain rfl:s=t:=C2 g;refine A8.mk (s.V a b c) (FB o) (aE.mk I (A0 12) λN q U ah=>?_);rw[PD] at q;refine A8.mk (s.V a b c) (FB q) (W N a b c (n.more U λc e=>by subst e;exact A0 _) (J.mod U (λx d e=>by have:=fr x (.inl d);omega) (λx d e=>by have:=fr x (.inr (.inl d));omega) (λx d e=>by have:=fr x (.inr (.inr d));omega)) λx d=>by have:=fr x d;omega)
theorem ARv {wid:A2Q}{l:List Ev}{sl:Sl}(s:Ak wid=true)(v:View dU h sl l)(S:l.length<=1000)(hd: ∀a∈l,Ej a=true/\a.data.size<1099511627776)
  (z: ∀d f,Own BR AR f d (l.map (Oo wid))->(∀ b,d.ah=some b->h.size<=b)->Ext h f->R (J1 #[J4 d.p d.len d.cap,J6 J9 0]) f):
  AA A P PU #[J7 wid,J4 sl.p sl.len sl.cap] h R:=by
 refine AGo ?_;unfold uS;refine FL ⟨_,rfl,?_⟩;rw[s];refine af.no rfl ?_;refine Loop.rule (λm x t=> ∃(i:Nat) (e:Sl),x=(e,(i:Int),())/\m=l.length-i/\i<=l.length/\Ext h t/\Own BR AR t e ((l.take i).map (Oo wid))/\(∀ b,e.ah=some b->h.size<=b)) ?_
  ⟨0,⟨none,0,0⟩,rfl,rfl,As _,Mod.refl,Own.nil,λb k=>by simp[Sl.ah] at k⟩
 rintro K m _ u ⟨i,e,rfl,rfl,T,g,n,fr⟩ B;dsimp only;have U:=v.len;refine af.intro (λo=>?_) (λo=>?_)
 ·have j:i<l.length:=by simp at o;omega
  obtain⟨a,p⟩: ∃a,l[i]? =some a:=⟨_,A2 j⟩;obtain⟨ok,C⟩:=hd a (AM p);obtain⟨_,⟨V,W⟩,_⟩:=Rb ok;refine(v.ext g).idx p λX _ D=>Np.mk a D ?_
  refine al.mk λY _ F G Z=>aE.mk F (A0 8) λH q I aa=>?_
  rw[pL] at q;have J:Ext u H:=G.more I λc L=>by subst L;exact A0 _
  refine Np.mk a (QX q) (AK0 C λab w=>?_);unfold oH;rw[ok];refine⟨_,_,rfl,af.no rfl (AC.mk (AO (w.ah q λh=>h) rfl) ?_)⟩;have ac:=FE s;rw[show a.id=((a.id.toNat:Nat):Int) from by omega];refine tX (by omega) (by omega) λad M=>⟨_,rfl,?_⟩
  have r:=(J.trans w).trans M;refine al.aY (E:=BR) (x:=Oo wid a) rfl G5 (n.ext r) (by simp only[AN,AD];omega) (by simp only[AN,AD,maxLen];omega) λd f N O Q ae=>?_
  rw[Aa (by omega)];refine B (l.length-(i+1)) _ _ (by omega) ⟨i+1,d,rfl,rfl,j,(g.trans r).more O fr,?_,λb k=>?_⟩
  ·rw[Ax,p,Ds,AW];exact N
  ·rcases Q b k with y|y
   ·exact fr b y
   ·have:=(g.trans r).size;omega
 ·have j:i=l.length:=by simp at o;omega
  rw[j,BE] at n;exact z e u n fr g
theorem u5 {t:cm}(o: ∀d,Ext h d->R (J1 #[J7 (if Gx ⟨t.kind,t.ref,t.turn⟩ t.wid then gi ⟨t.kind,t.ref,t.turn⟩ t.wid else⟨#[]⟩),J6 J9 (if Gx ⟨t.kind,t.ref,t.turn⟩ t.wid then 0 else 1)]) d):AA A P Pn #[t.v] h R:=by
 refine AGU ?_;unfold uU;refine al.mk λf _ a p _=>?_
 refine ai.mk λK y=>?_
 have key: ∀k:Bool,k= !Gx ⟨t.kind,t.ref,t.turn⟩ t.wid->K (k,()) f:=λk g=>by
  refine y _ _ ?_;cases b:Gx ⟨t.kind,t.ref,t.turn⟩ t.wid with
  |false=>
   have:=o f p;rw[b] at this g;exact af.yes g this
  |true=>
   rw[b] at g;refine af.no g ?_;have z: ∀d,Ext f d->R (J1 #[J7 (gi ⟨t.kind,t.ref,t.turn⟩ t.wid),J6 J9 0]) d:=λd x=>by
    have:=o d (p.trans x);rw[b] at this;exact this
   unfold Gx at b;simp only[A4,Bb] at b;obtain⟨⟨⟨⟨Q,S⟩,l⟩,T,U⟩,V,W⟩:=b;have X:=FE l;have Y:=AV (n:=t.kind.toNat) (by omega);have Z:=AV (n:=t.ref.toNat) (by omega);have aa:=AV (n:=t.turn.toNat) (by omega);have ab:=KX (s:=t.wid) (by omega);refine AC.mk (AO a rfl) (AJ.mk (n:=t.wid) (AB a rfl) (AC.mk (n:=t.ref) (AB a rfl) (AC.mk (n:=t.turn) (AB a rfl) ?_)));rw[Od (n:=t.kind) (by omega) (by omega)];refine Cc (by omega) λac q=>⟨_,rfl,?_⟩
   have i:=q.ah a λh=>h
   refine⟨AB i rfl,AB i rfl,AB i rfl,KS (by omega) λad r=>⟨_,rfl,?_⟩⟩;have m:=r.ah i λh=>h
   refine⟨AB m rfl,AB m rfl,by rw[AP,AP,max_i64];omega,?_⟩;rw[Od (n:=t.ref) (by omega) (by omega)];refine Cc (by omega) λae u=>⟨_,rfl,?_⟩
   have B:=u.ah m λh=>h
   refine⟨AB B rfl,by rw[Aj,AP,AP,max_i64,A1];omega,?_⟩;rw[Od (n:=t.turn) (by omega) (by omega)];refine Cc (by omega) λj C=>⟨_,rfl,⟨by rw[Aj,Aj,AP,AP,max_i64,A1,A1];omega,?_⟩⟩
   rw[Aj,Aj,Aj,A3,A3];exact z j (((q.trans r).trans u).trans C)
 have no: ∀ {P:Prop},¬P->(Gx ⟨t.kind,t.ref,t.turn⟩ t.wid=true->P)->K (true,()) f:=λD E=>key true (by
  cases b:Gx ⟨t.kind,t.ref,t.turn⟩ t.wid with
  |false=>rfl
  |true=>exact absurd (E b) D)
 have e:Gx ⟨t.kind,t.ref,t.turn⟩ t.wid=true->(1<=t.kind/\t.kind<=7)/\Ak t.wid=true/\(0<=t.ref/\t.ref<=500)/\0<=t.turn/\t.turn<=5:=λb=>by
  unfold Gx at b;simp only[A4,Bb] at b;obtain⟨⟨⟨F,l⟩,G⟩,H⟩:=b;exact⟨F,l,G,H⟩
 refine AC.mk (AO a rfl) (af.intro (λc=>no (P:=1<=t.kind) (by simp at c;omega) λh=>(e h).1.1) λI=>?_);refine AC.mk (AO a rfl) (af.intro (λc=>no (P:=t.kind<=7) (by simp at c;omega) λh=>(e h).1.2) λJ=>?_);refine AJ.mk (n:=t.wid) (AB a rfl) (FL ⟨_,rfl,af.intro (λc=>no (P:=Ak t.wid=true) (by simp at c;simp[c]) λh=>(e h).2.1) λv=>?_⟩);refine AC.mk (n:=t.ref) (AB a rfl) (af.intro (λc=>no (P:=0<=t.ref) (by simp at c;omega) λh=>(e h).2.2.1.1) λL=>?_);refine AC.mk (n:=t.ref) (AB a rfl) (af.intro (λc=>no (P:=t.ref<=500) (by simp at c;omega) λh=>(e h).2.2.1.2) λM=>?_);refine AC.mk (n:=t.turn) (AB a rfl) (af.intro (λc=>no (P:=0<=t.turn) (by simp at c;omega) λh=>(e h).2.2.2.1) λw=>?_);refine AC.mk (n:=t.turn) (AB a rfl) (key _ ?_);unfold Gx;simp at I J v L M w;have N:bV t.kind 1 7=true:=Bb.2 (by omega);have O:bV t.ref 0 500=true:=Bb.2 (by omega);rw[N,O,v];show _= !(bV t.turn 0 5);unfold bV;by_cases j:t.turn<=5
 ·simp[j,w]
 ·simp[j];omega
theorem u6 {s:Sl}{p:cj}(v:View QP h s p.steps)(U:p.steps.length<=1099511627776)(G: ∀b,Ext h b->R (X0 p) b):
  AA A P MS #[.agg #[J4 s.p s.len s.cap,J6 J9 p.az]] h R:=by
 refine ACT ?_;unfold Vy;refine al.mk λaA _ u k _=>?_
 refine AZ.mk (s:=s) (AO u rfl) (AC.mk (AB u rfl) ?_);refine yu (p:=p) (v.ext k) U λw o=>⟨_,rfl,?_⟩
 cases q:F4 p with
 |false=>
  refine af.yes rfl ?_;have:=G w (k.trans o);rw[X0,q] at this;exact this
 |true=>
  refine af.no rfl ?_;have V: ∀b,Ext w b->R (J1 #[J7 (AX (Ci p)),J6 J9 0]) b:=λb x=>by
   have:=G b ((k.trans o).trans x);rw[X0,q] at this;exact this
  simp only[F4,A4,decide_eq_true_eq] at q;obtain⟨⟨aC,W⟩,H⟩:=q;have aD:=Bb.1 W;have y:=o.ah u (λh=>h);refine AC.mk (n:=p.az) (AB y rfl) (AZ.mk (s:=s) (AO y rfl) ?_);rw[Od (n:=p.az) (by omega) (by omega)];refine Cc (by omega) λaE I=>⟨_,rfl,?_⟩
  have J:=I.ah y (λh=>h);refine⟨AO J rfl,?_⟩;rw[v.len,CG (by omega)];have aF:=AV (n:=p.az.toNat) (by omega);have aG:=AV (n:=p.steps.length) (by omega);refine Cc (by omega) λX L=>⟨_,rfl,⟨by rw[AP,AP,max_i64];omega,?_⟩⟩
  have Y:=L.ah J (λh=>h);rw[Aj];refine AZ.mk (s:=s) (AO Y rfl) ?_;refine Loop.rule (λm x f=> ∃i:Nat,x=(AX ((Bd p.az.toNat++Bd p.steps.length)++(p.steps.take i).flatMap G8),(i:Int),())/\Ext X f/\m=p.steps.length-i/\i<=p.steps.length) ?_ ⟨0,by simp,Mod.refl,rfl,by omega⟩;rintro K m _ f ⟨i,rfl,M,rfl,aH⟩ Z;have N:Ext w f:=(I.trans L).trans M;have aa:Ext h f:=(k.trans o).trans N;dsimp only;have aI:=v.len;refine af.intro (λz=>?_) (λz=>?_)
  ·have B:i<p.steps.length:=by simp at z;omega
   obtain⟨x,C⟩: ∃x,p.steps[i]? =some x:=⟨_,A2 B⟩;have ab:=AM C;have ac:=List.all_eq_true.1 H x ab;obtain⟨aJ,aK,aL,aM,aN,aO,aP,aQ,aR,aS,aT⟩:=yA ac;have aU:((p.steps.take i).flatMap G8).length<=1600:=by
    have:=PV (l:=p.steps.take i) (List.all_eq_true.2 λad ag=>List.all_eq_true.1 H ad (DM ag));have:(p.steps.take i).length<=16:=by simp;omega
    omega
   have fin: ∀b,Ext f b->K (AX (((Bd p.az.toNat++Bd p.steps.length)++(p.steps.take i).flatMap G8)++G8 x),J8 J9 ((i:Int)+1),()) b:=λb ah=>by
    rw[Aa (by omega)];refine Z (p.steps.length-(i+1)) _ _ (by omega) ⟨i+1,?_,M.trans ah,rfl,B⟩;rw[Ax,C,Ds,Ge];simp[A3]
   generalize aj:(Bd p.az.toNat++Bd p.steps.length)++(p.steps.take i).flatMap G8=ak at*
   have aV:ak.length<=2000:=by rw[<- aj];simp only[A1];omega
   refine(v.ext aa).idx C λa _ c=>?_
   obtain⟨am,an,c2,ao,c4,ap⟩:=yt c;refine AC.mk am (AJ.mk an (AJ.mk c2 (AC.mk ao (AC.mk c4 (AC.mk ap ?_)))));refine al.mk λaW _ aq ar aX=>ae.oW aq λau O av aY=>?_
   have aw:Ext f au:=ar.more av λc aZ=>by omega
   refine AC.mk (n:=x.kind) (AO O rfl) ?_;rw[Od (n:=x.kind) (by omega) (by omega)];refine Cc (by omega) λa0 Q=>⟨_,rfl,?_⟩
   have a1:=AV (n:=x.kind.toNat) (by omega);refine⟨by rw[AP,AP,max_i64];omega,?_⟩;have d:=Q.ah O (λh=>h);have D:=aw.trans Q;rw[Aj];refine AC.mk (n:=x.kind) (AO d rfl) ?_;have a2:=AV (n:=x.tries.toNat) (by omega);have a3:=AV (n:=x.aA.toNat) (by omega);have a4:=AV (n:=x.wait.toNat) (by omega);have a5:=KX (s:=x.name) (by omega);have a6:=KX (s:=x.aL) (by omega);refine ai.mk λa7 E=>?_
   refine af.intro (λe=>?_) (λe=>?_)
   ·have e:x.kind=1:=by simpa using e
    refine AJ.mk (n:=x.name) (AB d rfl) (AC.mk (n:=x.tries) (AB d rfl) (AJ.mk (n:=x.aL) (AB d rfl) (AC.mk (n:=x.aA) (AB d rfl) (KS (by omega) λr j=>⟨_,rfl,?_⟩))));have t:=j.ah d (λh=>h);refine⟨AB t rfl,AB t rfl,AB t rfl,?_⟩;rw[Od (n:=x.tries) (by omega) (by omega)];refine Cc (by omega) λa8 S=>⟨_,rfl,?_⟩
    have F:=S.ah t (λh=>h);refine⟨AB F rfl,AB F rfl,by rw[AP,AP,max_i64];omega,?_⟩;refine KS (by omega) λa9 T=>⟨_,rfl,?_⟩
    have ax:=T.ah F (λh=>h);refine⟨AB ax rfl,by rw[Aj,AP,AP,max_i64,A1];omega,?_⟩;rw[Od (n:=x.aA) (by omega) (by omega)];refine Cc (by omega) λay az=>⟨_,rfl,⟨?_,?_,E _ _ ?_⟩⟩
    ·rw[Aj,Aj,AP,AP,max_i64];simp only[A1];omega
    ·simp only[Aj,AP,max_i64,A1];omega
    ·have:=fin ay ((((D.trans j).trans S).trans T).trans az);simp only[G8] at this;rw[if_pos e] at this;simp only[Aj,A3] at this ⊢;exact this
   ·have e:x.kind≠1:=by simpa using e
    refine af.intro (λg=>?_) (λg=>?_)
    ·have g:x.kind=2:=by simpa using g
     refine AC.mk (n:=x.wait) (AB d rfl) ?_;rw[Od (n:=x.wait) (by omega) (by omega)];refine Cc (by omega) λr j=>⟨_,rfl,⟨by rw[AP,AP,max_i64,A1];omega,E _ _ ?_⟩⟩
     have:=fin r (D.trans j);simp only[G8] at this;rw[if_neg e,if_pos g] at this;simp only[Aj,A3] at this ⊢;exact this
    ·have g:x.kind≠2:=by simpa using g
     refine af.yes (by simp;omega) (AJ.mk (n:=x.name) (AB d rfl) (KS (by omega) λr j=>⟨_,rfl,⟨by rw[AP,AP,max_i64,A1];omega,E _ _ ?_⟩⟩));have:=fin r (D.trans j);simp only[G8] at this;rw[if_neg e,if_neg g] at this;simp only[Aj,A3] at this ⊢;exact this
  ·have B:i=p.steps.length:=by simp at z;omega
   have:=V f N;rw[AF (by omega)];exact this
end
def Lm(a:Nat):A2Q:=AX [116,Br a]
def Kz(name:A2Q):A2Q:=AX (113::BU (bl name))
section
variable {A : aq} {h : aa} {R : A2P}
theorem ANz {a:Nat}(c:a<256)(d: ∀b,Ext h b->R (J7 (Lm a)) b):AA A P JW #[J6 J9 (a:Int)] h R:=by
 refine Ph ?_;unfold MI;refine pX c λe f=>⟨_,rfl,⟨by rw[AP,max_i64];show((2:Nat):Int)<=9223372036854775807;decide,?_⟩⟩
 rw[show(⟨#[116]⟩:A2Q)=AX [116] from rfl,Aj];exact d e f
theorem RL {name:A2Q}(a:name.size<=1000000):(Kz name).size<=1000012:=by
 have b:=AV (n:=(bl name).length) (by rw[A7];omega);unfold Kz;rw[AP];unfold BU;rw[A5,A1,A7] at*
 omega
theorem pO {name:A2Q}(c:name.size<=1000000)(d: ∀a,Ext h a->R (J7 (Kz name)) a):AA A P Pd #[J7 name] h R:=by
 refine AHH ?_;unfold uP;have b:=RL c;unfold Kz at b;rw[AP,A5] at b;refine KS (by omega) λe f=>⟨_,rfl,⟨?_,?_⟩⟩
 ·rw[AP,max_i64,show(⟨#[113]⟩:A2Q).size=1 from rfl];omega
 ·rw[show(⟨#[113]⟩:A2Q)=AX [113] from rfl,Aj];exact d e f
theorem AMq {name id:A2Q}(a:name.size<=1000000)(f:id.size<=1000000)(c: ∀b,Ext h b->R (J7 (Kz name++id)) b):AA A P Py #[J7 name,J7 id] h R:=by refine ADS ?_;unfold WY;exact pO a λd e=>⟨_,rfl,⟨by have:=RL a;rw[max_i64];omega,c d e⟩⟩
theorem tu {t:fO}{wid:A2Q}(ok:Gx t wid=true)(r: ∀j,Ext h j->R (J1 #[(⟨t.kind,wid,t.ref,t.turn⟩:cm).v,J6 J9 0]) j):AA A P MV #[J7 (gi t wid)] h R:=by
 have k:=ok;simp only[Gx,A4] at k;obtain⟨⟨⟨s,u⟩,v⟩,w⟩:=k;have V:=Bb.1 s;have W:=Bb.1 v;have X:=Bb.1 w;have Y:=(FQ.1 u).2.1;have Z:=Fe (n:=t.kind.toNat) (by omega);have aa:=Fe (n:=t.ref.toNat) (by omega);have ab:=Fe (n:=t.turn.toNat) (by omega);have x:=AV (n:=(bl wid).length) (by rw[A7];omega);have ac:(BU (bl wid)).length<=26:=by unfold BU;rw[A1,A7];rw[A7] at x;omega
 refine ADe ?_;unfold Vi gi mq;refine al.mk λy _ l m ad=>?_
 refine Jp λae z d=>⟨_,rfl,?_⟩
 refine DN (most:=7) z (by simp only[A1];omega) (by decide) λag B C=>⟨_,rfl,?_⟩
 rw[CP (by omega) (by omega)] at*
 refine G7 B (by simp only[A1];omega) λah D E=>⟨_,rfl,?_⟩
 rw[IR (by rw[A7];omega)] at*
 refine DN (most:=500) D (by simp only[A1];omega) (by decide) λaj F G=>⟨_,rfl,?_⟩
 rw[CP (by omega) (by omega)] at*
 have H:CQ 5 ⟨Bd t.turn.toNat,false⟩=(t.turn.toNat,⟨[],false⟩):=by have:=CP (n:=t.turn.toNat) (most:=5) (by omega) (by omega) [];rwa [AK] at this
 refine DN (most:=5) F (by simp only;omega) (by decide) λI o J=>⟨_,rfl,?_⟩
 rw[H] at*
 rw[Ku,show((t.kind.toNat:Nat):Int)=t.kind from P4 (by omega),show((t.ref.toNat:Nat):Int)=t.ref from P4 (by omega),show((t.turn.toNat:Nat):Int)=t.turn from P4 (by omega)];refine al.mk λak _ L e am=>aE.mk L (A0 4) λf p g an=>JA.mk ⟨t.kind,wid,t.ref,t.turn⟩ (Cr p rfl) ?_
 have ao:=Ah l;have ap:=d.size;have i:=((C.trans E).trans G).trans J;have aq:=i.size;have M:f[h.size]? =some (J2 cm.z.c Fy (0,0)):=g.ah (e.ah (i.ah (d.ah l (λh=>h)) (by omega)) (λh=>h)) (by omega);have N:Ia f y.size ⟨[],false⟩:=g.ah (e.ah o (λh=>h)) (by have:=Ah o;omega);have O:Ext h f:=by
  have q:Ext h I:=(m.trans d).more i λc a=>by subst a;exact m.size
  exact(q.trans e).more g λc a=>by subst a;exact q.size
 refine u5 λar b=>⟨_,_,rfl,?_⟩
 rw[show(⟨t.kind,t.ref,t.turn⟩:fO)=t from rfl,if_pos ok];refine ai.mk λK Q=>af.no rfl (MQ (b.ah N λh=>h) ⟨_,rfl,Q _ _ (af.no rfl ?_)⟩)
 refine JA.mk ⟨t.kind,wid,t.ref,t.turn⟩ (Cr (b.ah p λh=>h) rfl) (aE.mk (b.ah M λh=>h) (A0 4) λS T U au=>JA.mk ⟨t.kind,wid,t.ref,t.turn⟩ (Cr T rfl) ?_);exact r S ((O.trans b).more U λc a=>by subst a;exact A0 _)
end
end Go.Lf.G
namespace Go.Lf
open G
open Go
open M (Sorted Af CY BA Ag Au BV Ai bB BH aP BF)
theorem View.dx {c:Type}{d:cD c}{e:Nat->Prop}{h f:aa}{s:Sl}{l:List c}(v:View d h s l)(m:Mod e h f)(j:l≠ []-> ∀b,s.ah=some b-> ¬e b):View d f s l:=by
 cases l with
 |nil=>exact⟨v.len,v.cap,λi x k=>by simp at k⟩
 |cons x l=>exact v.mod m (j (by simp))
end Go.Lf
namespace Go.Lf.G
open Go
open M (Sorted Af CY BA Ag Au BV Ai bB BH aP BF)
end Go.Lf.G
namespace Go.Lf
open G
open Go
open M (Sorted Af CY BA Ag Au BV Ai bB BH aP BF)
theorem View.mP {f:Type}{d:cD f}{h:aa}{s:Sl}{l:List f}(v:View d h s l)(j:l≠ []){b:Nat}(e:s.ah=some b):b<h.size:=by
 cases l with
 |nil=>exact absurd rfl j
 |cons x l=>
  obtain⟨a,k,c⟩:=v.cells 0 x rfl;have m:0<(d.enc x).length:=by rw[d.len];exact d.pos
  have:=VD (c 0 _ (A2 m));rw[aU,aU] at this;unfold Sl.ah at e;rw[k] at e;cases e;exact this
end Go.Lf
namespace Go.Lf.G
open Go
open M (Sorted Af CY BA Ag Au BV Ai bB BH aP BF)
theorem ae.mQ {h:aa}{b d:Nat}{v:J0}{l l':List J0}{T:Q7}{K:aa->Prop}(e:h[b]? =some (J2 ⟨l⟩ T (0,0)))(f:d<l.length)(j:l.set d v=l')
  (k: ∀c,c[b]? =some (J2 ⟨l'⟩ T (0,0))->Mod (· =b) h c->c.size=h.size->K c):ae h ((⟨b,0,none⟩:Q6).add d) v K:=
 ae.bL e f (Wb l d v) λc m=>k c (by rw[<- j];exact m)
theorem Ce {h:aa}{b j:Nat}{l:List J0}{T:Q7}{fr:Nat×Nat}{v:J0}(c:h[b]? =some (J2 ⟨l⟩ T fr))(d:l[j]? =some v):ag h ((⟨b,0,none⟩:Q6).add j)=some v:=
 AB c (by simp_all)
theorem Cj {h:aa}{b i c:Nat}{l:List J0}{T:Q7}{fr:Nat×Nat}{v:J0}(d:h[b]? =some (J2 ⟨l⟩ T fr))(e:l[i+c]? =some v):ag h (((⟨b,0,none⟩:Q6).add i).add c)=some v:=by rw[add_add];exact Ce d e
theorem ARI {h:aa}{b i c d:Nat}{l:List J0}{T:Q7}{fr:Nat×Nat}{v:J0}(e:h[b]? =some (J2 ⟨l⟩ T fr))(f:l[i+(c+d)]? =some v):ag h ((((⟨b,0,none⟩:Q6).add i).add c).add d)=some v:=by rw[add_add];exact Cj e f
structure eF where
 hp:Nat
 ev:Sl
 fs:bG
 a:Sl
 b:Sl
 c:Sl
 more:Sl
 ar:Sl
 conds:Sl
abbrev eF.l(x:eF)(C:br):List J0:= [Ar x.hp,J7 C.wid,J6 J9 (C.ao:Int),J6 J9 C.ct,J6 J9 C.bW,J3 C.kept,J4 x.ev.p x.ev.len x.ev.cap,
 J4 x.fs.steps.p x.fs.steps.len x.fs.steps.cap,J6 J9 x.fs.az,J6 J9 x.fs.status,J6 J9 x.fs.next,J6 J9 x.fs.aZ,J6 J9 x.fs.asked,J6 J9 x.fs.taken,J3 x.fs.fresh,J4 x.fs.au.p x.fs.au.len x.fs.au.cap,J4 x.fs.ak.p x.fs.ak.len x.fs.ak.cap,J3 x.fs.cancel,J3 x.fs.aR,
 J4 x.a.p x.a.len x.a.cap,J6 J9 C.st.prog.az,J6 J9 C.st.status,J6 J9 C.st.next,J6 J9 C.st.aZ,J6 J9 C.st.asked,J6 J9 C.st.taken,J3 C.st.fresh,J4 x.b.p x.b.len x.b.cap,J4 x.c.p x.c.len x.c.cap,J3 C.st.cancel,J3 C.st.aR,
 J4 x.more.p x.more.len x.more.cap,J4 x.ar.p x.ar.len x.ar.cap,J4 x.conds.p x.conds.len x.conds.cap,J6 J9 C.err,J6 J9 C.now]
structure FY (h:aa) (cb:Nat) (z:Nat->Nat) (x:eF) (C:br):Prop where
 ah:h[cb]? =some (J2 ⟨x.l C⟩ NJ (0,0))
 zc:z cb=1
 st:JI h C.st x.a x.b x.c
 zs: ∀y,(C.st.prog.steps≠ []/\x.a.ah=some y)\/(C.st.au≠ []/\x.b.ah=some y)\/(C.st.ak≠ []/\x.c.ah=some y)->z y=5
 more:Own dU A9 h x.more C.more
 zm: ∀y,x.more.ah=some y->z y=2
 ar:Own BR AR h x.ar C.ar
 zp: ∀y,x.ar.ah=some y->z y=3
 conds:Own BR AR h x.conds C.conds
 zq: ∀y,x.conds.ah=some y->z y=4
theorem JI.dx {k:Nat->Prop}{h n:aa}{s:bd}{a b c:Sl}(f:JI h s a b c)(m:Mod k h n)(j: ∀y,(s.prog.steps≠ []/\a.ah=some y)\/(s.au≠ []/\b.ah=some y)\/(s.ak≠ []/\c.ah=some y)-> ¬k y):JI n s a b c:=
 ⟨f.steps.dx m λd y e=>j y (.inl ⟨d,e⟩),f.au.dx m λd y e=>j y (.inr (.inl ⟨d,e⟩)),f.ak.dx m λd y e=>j y (.inr (.inr ⟨d,e⟩))⟩
section
variable {A : aq} {B : cH} {g h : aa} {s a N sh cb : Nat} {l : List Hs} {mp : List Pr} {O : Nat -> Prop} {i : Nat} {y : Hs} {z : Nat -> Nat} {x : eF} {C : br} {R : A2P}
theorem FY.mod {f:Nat->Prop}{j:aa}(b:FY h cb z x C)(m:Mod f h j)(e: ∀c,z c≠0-> ¬f c):FY j cb z x C:=
 ⟨m.ah b.ah (e cb (by rw[b.zc];decide)),b.zc,b.st.dx m λy d=>e y (by rw[b.zs y d];decide),b.zs,b.more.mod m λy d=>e y (by rw[b.zm y d];decide),b.zm,b.ar.mod m λy d=>e y (by rw[b.zp y d];decide),b.zp,b.conds.mod m λy d=>e y (by rw[b.zq y d];decide),b.zq⟩
theorem FY.on {b:aa}(c:FY h cb z x C)(m:Ext h b):FY b cb z x C:=c.mod m λ_ _ h=>h
theorem FY.cell {d:aa}(b:FY h cb z x C){f:Int}(m:Mod (· =cb) h d)(k:d[cb]? =some (J2 ⟨x.l {C with err:=f}⟩ NJ (0,0))):FY d cb z x {C with err:=f}:=by
 have ne: ∀y e,z y=e->e≠1-> ¬y=cb:=λy e j n o=>by subst o;rw[b.zc] at j;exact n j.symm
 exact⟨k,b.zc,b.st.dx m λy c=>ne y 5 (b.zs y c) (by decide),b.zs,b.more.mod m λy c=>ne y 2 (b.zm y c) (by decide),b.zm,b.ar.mod m λy c=>ne y 3 (b.zp y c) (by decide),b.zp,b.conds.mod m λy c=>ne y 4 (b.zq y c) (by decide),b.zq⟩
theorem FY.err(c:FY h cb z x C){d:Int}{K:aa->Prop}(e: ∀b,FY b cb z x {C with err:=d}->Mod (· =cb) h b->b.size=h.size->K b):ae h ((⟨cb,0,none⟩:Q6).add 34) (J6 J9 d) K:=
 ae.mQ c.ah (of_decide_eq_true rfl) rfl λb f m j=>e b (c.cell m f) m j
def gP(z:Nat->Nat)(s:Sl)(b:Nat):Nat->Nat:=λc=>if s.ah=some c then b else z c
theorem pY {s:Sl}{b c:Nat}(h:s.ah=some c):gP z s b c=b:=if_pos h
theorem pZ {e f:Sl}{j:Nat}(k: ∀c,z c≠0->c<h.size)(m: ∀y,e.ah=some y->z y=j)(n: ∀b,f.ah=some b->e.ah=some b\/h.size<=b){c d:Nat}(o:z c=d)(p:d≠0):gP z f j c=d:=by grind [gP]
theorem qa {f d:Sl}{e:Nat}{j:aa}(k: ∀y,f.ah=some y->z y=e)(m:e≠0)(n: ∀b,d.ah=some b->f.ah=some b\/h.size<=b)(o: ∀b,d.ah=some b->b<j.size){c:Nat}(p:gP z d e c≠0):z c≠0\/(h.size<=c/\c<j.size):=by grind [gP]
theorem FY.lr(d:FY h cb z x C)(H: ∀c,z c≠0->c<h.size){src:Sl}{f:Ev}(v:View dU h src [f])(V:C.more.length<1000){K:aa->Prop}
  (M: ∀r j I,FY r cb I {x with more:=j} {C with more:=C.more++ [f]}->Mod (λc=>z c≠0) h r->(∀ c,I c≠0->z c≠0\/(h.size<=c/\c<r.size))->K r):
  BI A P (Builtin.append_ #[Bc,Bc] Bc #[J4 x.more.p x.more.len x.more.cap,J4 src.p src.len src.cap]) h λv n=> ∃t:Sl,v=J4 t.p t.len t.cap/\ae n ((⟨cb,0,none⟩:Q6).add 31) (J4 t.p t.len t.cap) K:=by
 refine Fz (E:=dU) (s:=x.more) (src:=src) mD d.more v (by grind) (by simp only[Cd,maxLen];omega) λj n J o L _=>?_
 have u: ∀c k,z c=k->k≠2-> ¬x.more.ah=some c:=λc k p D f=>by rw[d.zm c f] at p;exact D p.symm
 have Q:=o.ah d.ah (u cb 1 d.zc (by decide));refine ae.mQ Q (of_decide_eq_true rfl) (l':=({x with more:=j}:eF).l {C with more:=C.more++ [f]}) rfl λD S q W=>?_
 have F: ∀c k,z c=k->k≠1-> ¬c=cb:=λc k p n f=>by subst f;rw[d.zc] at p;exact n p.symm
 have X:=H cb (by rw[d.zc];decide);have T: ∀b,j.ah=some b->b<n.size:=λb w=>J.lt w
 have aN: ∀ {c G:Nat},z c=G->G≠0->gP z j 2 c=G:=λm U=>pZ H d.zm L m U
 refine M D j (gP z j 2) ⟨S,aN d.zc (by decide),?_,λy e=>aN (d.zs y e) (by decide),?_,λy e=>pY e,?_,λy e=>aN (d.zp y e) (by decide),?_,λy e=>aN (d.zq y e) (by decide)⟩ ?_ λc m=>?_
 ·exact(d.st.dx o λy e=>u y 5 (d.zs y e) (by decide)).dx q λy e=>F y 5 (d.zs y e) (by decide)
 ·refine J.mod q λb w f=>?_
  grind
 ·exact(d.ar.mod o λy e=>u y 3 (d.zp y e) (by decide)).mod q λy e=>F y 3 (d.zp y e) (by decide)
 ·exact(d.conds.mod o λy e=>u y 4 (d.zq y e) (by decide)).mod q λy e=>F y 4 (d.zq y e) (by decide)
 ·exact(o.aj λc _ m=>by rw[d.zm c m];decide).trans (q.aj λc _ m=>by grind)
 ·exact qa d.zm (by decide) L (λb w=>by have:=T b w;omega) m
theorem FY.eI(d:FY h cb z x C)(I: ∀c,z c≠0->c<h.size){p:Pr}(W:C.ar.length<1000){K:aa->Prop}
  (Q: ∀u f J,FY u cb J {x with ar:=f} {C with ar:=C.ar++ [p]}->Mod (λc=>z c≠0) h u->(∀ c,J c≠0->z c≠0\/(h.size<=c/\c<u.size))->K u):
  al h (J2 #[J7 p.key,J7 p.val,J3 p.gone] AR) λb m=>BI A P (Builtin.append_ #[AQ,AQ] AQ #[J4 x.ar.p x.ar.len x.ar.cap,J4 (some (⟨b,0,none⟩:Q6)) 1 1]) m λv n=> ∃t:Sl,v=J4 t.p t.len t.cap/\ae n ((⟨cb,0,none⟩:Q6).add 32) (J4 t.p t.len t.cap) K:=by
 refine al.aY (E:=BR) (x:=p) (s:=x.ar) (l:=C.ar) rfl G5 d.ar (by omega) (by simp only[maxLen];omega) λf m L o M _=>?_
 have w: ∀c j,z c=j->j≠3-> ¬x.ar.ah=some c:=λc j q n D=>by rw[d.zp c D] at q;exact n q.symm
 have S:=o.ah d.ah (w cb 1 d.zc (by decide));refine ae.mQ S (of_decide_eq_true rfl) (l':=({x with ar:=f}:eF).l {C with ar:=C.ar++ [p]}) rfl λn T r X=>?_
 have G: ∀c j,z c=j->j≠1-> ¬c=cb:=λc j q m D=>by subst D;rw[d.zc] at q;exact m q.symm
 have Y:=I cb (by rw[d.zc];decide);have U: ∀b,f.ah=some b->b<m.size:=λb F=>L.lt F
 have aN: ∀ {c H:Nat},z c=H->H≠0->gP z f 3 c=H:=λk V=>pZ I d.zp M k V
 refine Q n f (gP z f 3) ⟨T,aN d.zc (by decide),?_,λy e=>aN (d.zs y e) (by decide),?_,λy e=>aN (d.zm y e) (by decide),?_,λy e=>pY e,?_,λy e=>aN (d.zq y e) (by decide)⟩ ?_ λc k=>?_
 ·exact(d.st.dx o λy e=>w y 5 (d.zs y e) (by decide)).dx r λy e=>G y 5 (d.zs y e) (by decide)
 ·exact(d.more.mod o λy e=>w y 2 (d.zm y e) (by decide)).mod r λy e=>G y 2 (d.zm y e) (by decide)
 ·refine L.mod r λb F D=>?_
  grind
 ·exact(d.conds.mod o λy e=>w y 4 (d.zq y e) (by decide)).mod r λy e=>G y 4 (d.zq y e) (by decide)
 ·exact(o.aj λc _ k=>by rw[d.zp c k];decide).trans (r.aj λc _ k=>by grind)
 ·exact qa d.zp (by decide) M (λb F=>by have:=U b F;omega) k
theorem FY.fK(d:FY h cb z x C)(I: ∀c,z c≠0->c<h.size){p:Pr}(W:C.conds.length<1000){K:aa->Prop}
  (Q: ∀u f J,FY u cb J {x with conds:=f} {C with conds:=C.conds++ [p]}->Mod (λc=>z c≠0) h u->(∀ c,J c≠0->z c≠0\/(h.size<=c/\c<u.size))->K u):
  al h (J2 #[J7 p.key,J7 p.val,J3 p.gone] AR) λb m=>BI A P (Builtin.append_ #[AQ,AQ] AQ #[J4 x.conds.p x.conds.len x.conds.cap,J4 (some (⟨b,0,none⟩:Q6)) 1 1]) m λv n=> ∃t:Sl,v=J4 t.p t.len t.cap/\ae n ((⟨cb,0,none⟩:Q6).add 33) (J4 t.p t.len t.cap) K:=by
 refine al.aY (E:=BR) (x:=p) (s:=x.conds) (l:=C.conds) rfl G5 d.conds (by omega) (by simp only[maxLen];omega) λf m L o M _=>?_
 have w: ∀c j,z c=j->j≠4-> ¬x.conds.ah=some c:=λc j q n D=>by rw[d.zq c D] at q;exact n q.symm
 have S:=o.ah d.ah (w cb 1 d.zc (by decide));refine ae.mQ S (of_decide_eq_true rfl) (l':=({x with conds:=f}:eF).l {C with conds:=C.conds++ [p]}) rfl λn T r X=>?_
 have G: ∀c j,z c=j->j≠1-> ¬c=cb:=λc j q m D=>by subst D;rw[d.zc] at q;exact m q.symm
 have Y:=I cb (by rw[d.zc];decide);have U: ∀b,f.ah=some b->b<m.size:=λb F=>L.lt F
 have aN: ∀ {c H:Nat},z c=H->H≠0->gP z f 4 c=H:=λk V=>pZ I d.zq M k V
 refine Q n f (gP z f 4) ⟨T,aN d.zc (by decide),?_,λy e=>aN (d.zs y e) (by decide),?_,λy e=>aN (d.zm y e) (by decide),?_,λy e=>aN (d.zp y e) (by decide),?_,λy e=>pY e⟩ ?_ λc k=>?_
 ·exact(d.st.dx o λy e=>w y 5 (d.zs y e) (by decide)).dx r λy e=>G y 5 (d.zs y e) (by decide)
 ·exact(d.more.mod o λy e=>w y 2 (d.zm y e) (by decide)).mod r λy e=>G y 2 (d.zm y e) (by decide)
 ·exact(d.ar.mod o λy e=>w y 3 (d.zp y e) (by decide)).mod r λy e=>G y 3 (d.zp y e) (by decide)
 ·refine L.mod r λb F D=>?_
  grind
 ·exact(o.aj λc _ k=>by rw[d.zq c k];decide).trans (r.aj λc _ k=>by grind)
 ·exact qa d.zq (by decide) M (λb F=>by have:=U b F;omega) k
def Tm(t:bd)(a b c:Sl)(y:Nat):Prop:=(t.prog.steps≠ []/\a.ah=some y)\/(t.au≠ []/\b.ah=some y)\/(t.ak≠ []/\c.ah=some y)
open Classical in
noncomputable def jS (z:Nat->Nat) (t:bd) (a b c:Sl):Nat->Nat:=λy=>if Tm t a b c y then 5 else z y
theorem JI.lt {t:bd}{a b c:Sl}(f:JI h t a b c){y:Nat}(j:Tm t a b c y):y<h.size:=by
 rcases j with⟨d,e⟩|⟨d,e⟩|⟨d,e⟩
 ·exact f.steps.mP d e
 ·exact f.au.mP d e
 ·exact f.ak.mP d e
theorem FY.lu {n:aa}{t:bd}{f j k:Sl}(e:FY h cb z x C)(H: ∀c,z c≠0->c<h.size)(w:Ext h n)(D:JI n t f j k)(fr: ∀y,f.ah=some y\/j.ah=some y\/k.ah=some y->h.size<=y){K:aa->Prop}
  (I: ∀o E,FY o cb E {x with a:=f,b:=j,c:=k} {C with st:=t}->Mod (λc=>z c≠0) h o->Mod (· =cb) n o->(∀ c,E c≠0->z c≠0\/(h.size<=c/\c<o.size))->K o):
  aE n ((⟨cb,0,none⟩:Q6).add 19) (t.V f j k).l K:=by
 have q:=e.on w;have J:(⟨cb,0,none⟩:Q6).add 19=⟨cb,19,none⟩:=rfl;rw[J];refine aE.mk q.ah (of_decide_eq_true rfl) λL M m Q=>?_
 have S:=H cb (by rw[e.zc];decide);have P: ∀y,Tm t f j k y->h.size<=y:=λy d=>fr y (by
  rcases d with⟨_,h⟩|⟨_,h⟩|⟨_,h⟩
  ·exact .inl h
  ·exact .inr (.inl h)
  ·exact .inr (.inr h))
 have u: ∀c v,z c=v->v≠1-> ¬c=cb:=λc v F n G=>by subst G;rw[e.zc] at F;exact n F.symm
 have aN: ∀ {c r:Nat},z c=r->r≠0->jS z t f j k c=r:=λ{c r} p T=>by
  unfold jS
  grind
 refine I L (jS z t f j k) ⟨M,aN e.zc (by decide),?_,λy d=>if_pos d,q.more.mod m λy d=>u y 2 (e.zm y d) (by decide),λy d=>aN (e.zm y d) (by decide),q.ar.mod m λy d=>u y 3 (e.zp y d) (by decide),λy d=>aN (e.zp y d) (by decide),q.conds.mod m λy d=>u y 4 (e.zq y d) (by decide),λy d=>aN (e.zq y d) (by decide)⟩ ?_ m λc p=>?_
 ·exact D.dx m λy d G=>by grind
 ·exact w.mod.trans (m.aj λc _ p=>by grind)
 ·unfold jS at p;split at p
  ·rename_i d;exact .inr ⟨P c d,by have:=D.lt d;have:=m.size;omega⟩
  ·exact .inl p
theorem FY.ld(b:FY h cb z x C):Cells h ((⟨cb,0,none⟩:Q6).add 19) (C.st.V x.a x.b x.c).l:=by have c:(⟨cb,0,none⟩:Q6).add 19=⟨cb,19,none⟩:=rfl;rw[c];exact Cr b.ah rfl
theorem LW.out(b:LW B g h s a N sh l mp O){c:Nat}(d:O c):c<h.size/\g.size<=c:=by
 obtain⟨e,f,st,m,j,nn,C,k,n,o,p,out⟩:=b
 simp_all
structure CW (B:cH) (g h:aa) (s a N sh:Nat) (l:List Hs) (i:Nat) (y:Hs) (mp:List Pr) (O:Nat->Prop) (cb:Nat) (z:Nat->Nat) (x:eF) (C:br):Prop where
 w:LW B g h s a N sh (l.set i y) mp (λc=>O c\/z c≠0)
 il:i<l.length
 no: ∀c,z c≠0-> ¬O c
 hp:x.hp=y.p
 bE:FY h cb z x C
theorem CW.fT(b:CW B g h s a N sh l i y mp O cb z x C): ∀c,z c≠0->c<h.size:=λc d=>(b.w.out (.inr d)).1
theorem CW.zfr(b:CW B g h s a N sh l i y mp O cb z x C): ∀c,z c≠0->bo g O c:=λc d=>⟨(b.w.out (.inr d)).2,b.no c d⟩
theorem CW.frame {b:aa}(d:CW B g h s a N sh l i y mp O cb z x C)(m:Mod (λc=>z c≠0) h b):Mod (bo g O) h b:=m.aj λc _ e=>d.zfr c e
theorem CW.step {d:aa}{f:Nat->Nat}{x':eF}{j:br}(b:CW B g h s a N sh l i y mp O cb z x C)(m:Mod (λc=>z c≠0) h d)(n: ∀c,f c≠0->z c≠0\/(h.size<=c/\c<d.size))(o:x'.hp=x.hp)(p:FY d cb f x' j):CW B g d s a N sh l i y mp O cb f x' j:=
 ⟨b.w.own (m.aj λc _ e=> .inr e) λc e=>by
   grind,
  b.il,λc e k=>by
   rcases n c e with h|h
   ·exact b.no c h k
   ·have:=(b.w.out (.inl k)).1;omega,
  o.trans b.hp,p⟩
theorem CW.on {c:aa}(b:CW B g h s a N sh l i y mp O cb z x C)(m:Ext h c):CW B g c s a N sh l i y mp O cb z x C:=⟨b.w.on m,b.il,b.no,b.hp,b.bE.on m⟩
theorem CW.wider {e:aa}{O':Nat->Prop}(b:CW B g h s a N sh l i y mp O cb z x C)(m:Mod O h e)(j: ∀c,O' c->O c\/(h.size<=c/\c<e.size)):CW B g e s a N sh l i y mp O' cb z x C:=
 ⟨b.w.own (m.aj λc _ d=> .inl d) λc d=>by
   grind,
  b.il,λc d f=>by
   rcases j c f with h|h
   ·exact b.no c d h
   ·have:=b.fT c d;omega,
  b.hp,b.bE.mod m λc d f=>b.no c d f⟩
end
theorem u7 {h:aa}{b:Nat}{T:Q7}{fr:Nat×Nat}{c:Ev}(d:h[b]? =some (J2 c.c T fr)):ag h (⟨b,0,none⟩:Q6)=some (J6 J9 c.id)/\ag h ((⟨b,0,none⟩:Q6).add 1)=some (J6 J9 c.kind)/\ag h ((⟨b,0,none⟩:Q6).add 2)=some (J6 J9 c.tick)/\ag h ((⟨b,0,none⟩:Q6).add 3)=some (J6 J9 c.ref)/\ag h ((⟨b,0,none⟩:Q6).add 4)=some (J6 J9 c.step)/\ag h ((⟨b,0,none⟩:Q6).add 5)=some (J6 J9 c.turn)/\ag h ((⟨b,0,none⟩:Q6).add 6)=some (J3 c.aL)/\ag h ((⟨b,0,none⟩:Q6).add 7)=some (J7 c.data):=
 ⟨AO d rfl,AB d rfl,AB d rfl,AB d rfl,AB d rfl,AB d rfl,AB d rfl,AB d rfl⟩
end Go.Lf.G
namespace Go.Lf
open G
open Go
open M (Sorted Af CY BA Ag Au BV Ai bB BH aP BF)
theorem Cells.jw {h:aa}{a:Q6}{t:bG}(c:Cells h a t.l):ag h a=some (J4 t.steps.p t.steps.len t.steps.cap)/\ag h (a.add 1)=some (J6 J9 t.az)/\ag h (a.add 2)=some (J6 J9 t.status)/\ag h (a.add 3)=some (J6 J9 t.next)/\ag h (a.add 4)=some (J6 J9 t.aZ)/\ag h (a.add 5)=some (J6 J9 t.asked)/\ag h (a.add 6)=some (J6 J9 t.taken)/\ag h (a.add 7)=some (J3 t.fresh)/\ag h (a.add 8)=some (J4 t.au.p t.au.len t.au.cap)/\ag h (a.add 9)=some (J4 t.ak.p t.ak.len t.ak.cap)/\ag h (a.add 10)=some (J3 t.cancel)/\ag h (a.add 11)=some (J3 t.aR):=by have b:=c 0 _ rfl;rw[add_zero] at b;exact⟨b,c 1 _ rfl,c 2 _ rfl,c 3 _ rfl,c 4 _ rfl,c 5 _ rfl,c 6 _ rfl,c 7 _ rfl,c 8 _ rfl,c 9 _ rfl,c 10 _ rfl,c 11 _ rfl⟩
end Go.Lf
namespace Go.Lf.G
open Go
open M (Sorted Af CY BA Ag Au BV Ai bB BH aP BF)
structure Hs.dk (y y':Hs):Prop where
 p:y'.p=y.p
 name:y'.name=y.name
 f:y'.f=y.f
 u: ∀m,y.u m<=y'.u m/\y'.u m<=y.u m+1
theorem Hs.dk.refl(y:Hs):y.dk y:=⟨rfl,rfl,rfl,λ_=>⟨A0 _,BY _⟩⟩
def dS(y c:Hs)(b d:Nat):Prop:= ∃v,y.u b<v/\v<=c.u b/\d=y.f b*16777216+v
def qc(y b:Hs)(C c:br)(d:Nat):Prop:=c.err=0->y.f C.ao≠0->dS y b C.ao d
section
variable {A : aq} {B : cH} {g h : aa} {s a N sh cb : Nat} {l : List Hs} {mp : List Pr} {O : Nat -> Prop} {i : Nat} {y : Hs} {z : Nat -> Nat} {x : eF} {C : br} {R : A2P}
theorem CW.put {b:Nat}(W:CW B g h s a N sh l i y mp O cb z x C)(c:N<=b)(d:b<=1000000)(e:64*a<=B.C):CW B g h s a b sh l i y mp O cb z x C:=⟨W.w.put (A0 _) e c d,W.il,W.no,W.hp,W.bE⟩
theorem CW.at(b:CW B g h s a N sh l i y mp O cb z x C):(l.set i y)[i]? =some y:=HP b.il
theorem CW.lw {d:aa}{f j:Nat}{k:List Pr}{e:Hs}(b:CW B g h s a N sh l i y mp O cb z x C)(n:LW B g d s j f sh ((l.set i y).set i e) k (λc=>O c\/z c≠0))(m:Mod (bo g (λc=>O c\/z c≠0)) h d)(o:e.p=y.p):CW B g d s j f sh l i e k O cb z x C:=
 ⟨by rw[List.set_set] at n;exact n,b.il,b.no,b.hp.trans o.symm,b.bE.mod m λc p q=>q.2 (.inr p)⟩
theorem u9 {t:bG}(c: ∀b,Ext h b->R (J3 (decide (t.next<=497))) b):AA A P MN #[t.v] h R:=by refine ADl ?_;unfold Vw;exact al.mk λd _ e f j=>AC.mk (AB e rfl) (c d f)
theorem ua {wid:A2Q}{ao:Nat}{j k now:Int}{m:Bool}{v:Sl}{st:bd}{d e f:Sl}(E:LW B g h s a N sh (l.set i y) mp (λc=>O c\/Tm st d e f c))(Q:i<l.length)(F:JI h st d e f)(no: ∀c,Tm st d e f c-> ¬O c)
  (G: ∀w cb z x,CW B g w s a N sh l i y mp O cb z x (Hy wid ao j k m st now)->Ext h w->R (Ar cb) w):
  AA A P Kh #[Ar y.p,(⟨wid,(ao:Int),⟨j,k,m⟩,v,st.V d e f⟩:bS).v,J6 J9 now] h R:=by
 refine ABD ?_;unfold Ug;refine al.mk λo _ H I ad=>F7.mk ⟨wid,(ao:Int),⟨j,k,m⟩,v,st.V d e f⟩ (Cr H rfl) ?_
 have S:(⟨h.size,0,none⟩:Q6).add 6=⟨h.size,6,none⟩:=rfl;rw[S];refine A8.mk (st.V d e f) (Cr H rfl) ?_;refine al.mk λp _ T U ae=>?_
 have r:Ext h p:=I.trans U
 let x:eF:=⟨y.p,v,st.V d e f,d,e,f,⟨none,0,0⟩,⟨none,0,0⟩,⟨none,0,0⟩⟩
 let t:br:= {Hy wid ao j k m st now with err:=0}
 let z:Nat->Nat:=λc=>if c=o.size then 1 else jS (λ_=>0) st d e f c
 have V: ∀c,Tm st d e f c->c<h.size:=λc b=>F.lt b
 have W: ∀c,z c≠0->c=o.size\/Tm st d e f c:=λc b=>by
  by_cases q:c=o.size
  ·exact .inl q
  ·have b:jS (λ_=>0) st d e f c≠0:=by grind
   unfold jS at b;split at b
   ·rename_i X;exact .inr X
   ·exact absurd rfl b
 have Y:FY p o.size z x t:=⟨T,if_pos rfl,(F.ext r),λc b=>by
   have:=V c b;show z c=5;exact(if_neg (by omega)).trans (if_pos b),Own.nil,λc b=>by simp[x,Sl.ah] at b,Own.nil,λc b=>by simp[x,Sl.ah] at b,Own.nil,λc b=>by simp[x,Sl.ah] at b⟩
 have D:CW B g p s a N sh l i y mp O o.size z x t:=⟨E.own r.mod λc b=>by
   grind,Q,λc b J=>by
   rcases W c b with h|h
   ·have:=(E.out (.inl J)).1;omega
   ·exact no c h J,rfl,Y⟩
 refine ai.mk λK L=>ai.mk λZ aa=>?_
 have key: ∀u:Bool,(u=true↔now<0\/1099511611776<now)->Z (u,()) p:=λu ab=>by
  refine aa _ _ (af.intro (λn=>?_) (λn=>?_))
  ·refine D.bE.err λac D3 M ag=>L _ _ (G ac _ z x ?_ (r.more M λc b=>by subst b;exact I.size))
   have q:Hy wid ao j k m st now= {t with err:=1}:=by have:Hy wid ao j k m st now= {Hy wid ao j k m st now with err:=if now<0\/1099511611776<now then 1 else 0}:=rfl;rw[this,if_pos (ab.1 n)]
   rw[q];exact D.step (M.aj λc _ b=>by grind) (λc b=> .inl b) rfl D3
  ·have n:u=false:=n;refine L _ _ (G p _ z x ?_ r);have q:Hy wid ao j k m st now=t:=by have:Hy wid ao j k m st now= {Hy wid ao j k m st now with err:=if now<0\/1099511611776<now then 1 else 0}:=rfl;rw[this,if_neg λh=>by grind]
   rw[q];exact D
 refine af.intro (λn=>key true (by simp at n;simp[n])) (λn=>key _ (by simp at n;simp;omega))
theorem uc(b:CW B g h s a N sh l i y mp O cb z x C)(d:0<=C.st.next/\C.st.next<=501)(c:R (J6 J9 (Sa C)) h):AA A P GL #[Ar cb] h R:=by refine TM ?_;unfold Mq;refine aD (AC.mk (Cj b.bE.ah rfl) ?_);rw[wrap_i64 (by omega) (by omega)];exact c
theorem ZF {e:Ev}{n:Nat}(f:CW B g h s a N sh l i y mp O cb z x C)(ao:Dc C.st n)(ap:n<=600)(hd:e.data.size<1099511627776)(aK:C.more.length<1000)
  (T: ∀Z aL x',CW B g Z s a N sh l i y mp O cb aL x' (Dn C e)->Mod (bo g O) h Z->R (J1 #[]) Z):AA A P DT #[Ar cb,e.v] h R:=by
 refine Td ?_;unfold Nb;refine al.mk λaM _ aN v a7=>aD (AC.mk (Ce (f.on v).bE.ah rfl) (af.intro (λd=>?_) (λd=>?_)))
 ·have d:C.err≠0:=by simpa using d
  refine T aM z x ?_ v.mod;unfold Dn;rw[if_pos d];exact f.on v
 have ab:C.err=0:=by simpa using d
 have aq: ∀c,z c≠0-> ¬c=h.size:=λc o e=>by have:=f.fT c o;omega
 refine aD (AC.mk (Cj (f.on v).bE.ah rfl) (aD (AC.mk (Ce (f.on v).bE.ah rfl) ?_)));refine ae.bL (j:=0) (dH:=({e with id:=if 1>C.st.next then 1 else C.st.next}:Ev).c) aN (of_decide_eq_true rfl) rfl λa8 aO ar a9=>⟨Ce ((f.on v).bE.mod ar aq).ah rfl,?_⟩
 refine ae.bL (j:=2) (dH:=(Cq C e).c) aO (of_decide_eq_true rfl) rfl λac au aP ba=>?_
 have ad:Ext h ac:=v.more (ar.trans aP) λc o=>by omega
 refine ai.mk λK aQ=>?_
 have key: ∀(U:Bool) (F:aa),Ext ac F->(U=true↔C.more= []/\jf C.st=false/\e.kind≠18)->K (U,()) F:=λU F ag av=>by
  have L:=ad.trans ag;have G:=f.on L;have V:=ag.ah au λh=>h
  refine aQ _ _ (af.intro (λd=>?_) (λd=>?_))
  ·refine aD (G.bE.err λk aR aS aT=>?_);have aw:Mod (λc=>z c≠0) F k:=aS.aj λc _ o=>by subst o;rw[f.bE.zc];decide
   refine T k z x ?_ (L.mod.trans (G.frame aw));unfold Dn;rw[if_neg (by simp[ab]),if_pos (av.1 d)];exact G.step aw (λc o=> .inl o) rfl aR
  have d:U=false:=d;have ax: ¬(C.more= []/\jf C.st=false/\e.kind≠18):=λh=>by rw[av.2 h] at d;cases d
  refine ai.mk λaU aV=>aD (A8.mk (C.st.V x.a x.b x.c) G.bE.ld (Np.mk (Cq C e) (QX V) ?_))
  have ay: ∀(k:aa) (ah:Nat) (p q r:Sl),Ext F k->k[ah]? =some (J2 ((Bp C.st (Cq C e)).2.V p q r).c Av (0,0))->JI k (Bp C.st (Cq C e)).2 p q r->(∀ y,p.ah=some y\/q.ah=some y\/r.ah=some y->h.size<=y)->
    aU (some ⟨ah,0,none⟩,(Bp C.st (Cq C e)).1,()) k:=λk ah p q r m aW M fr=>by
   have aj:=L.trans m;have ak:=f.on aj;refine aV _ _ (af.intro (λd=>?_) (λd=>?_))
   ·have d:(Bp C.st (Cq C e)).1≠0:=by simpa using d
    refine aD (ak.bE.err λH am W az=>?_);have X:Mod (λc=>z c≠0) k H:=W.aj λc _ o=>by subst o;rw[f.bE.zc];decide
    refine T H z x ?_ (aj.mod.trans (ak.frame X));unfold Dn;rw[if_neg (by simp[ab]),if_neg ax,if_pos d];exact ak.step X (λc o=> .inl o) rfl am
   have aX:(Bp C.st (Cq C e)).1=0:=by simpa using d
   refine aD (A8.mk ((Bp C.st (Cq C e)).2.V p q r) (FB aW) (aD (f.bE.lu f.fT aj M fr λH bb am W X aY=>?_)));have aA:=f.step (x':= {x with a:=p,b:=q,c:=r}) W aY rfl am;have Q:=X.ah (m.ah V λh=>h) (λe=>aq cb (by rw[f.bE.zc];decide) e.symm);refine aD (AZ.mk (s:=x.more) (Ce aA.bE.ah rfl) (Np.mk (Cq C e) (QX Q) (al.mk λI _ w aC aF=>?_)));have S:=aA.on aC;refine⟨Ce S.bE.ah rfl,?_⟩;have aZ:View dU I ⟨some ⟨H.size,0,none⟩,1,1⟩ [Cq C e]:=(Own.lit (E:=dU) (l:= [Cq C e]) w rfl (by simp[maxLen])).view;refine S.bE.lr S.fT aZ aK λa0 aG a1 a2 aH a3=>?_
   have a4:=S.step (x':= {x with a:=p,b:=q,c:=r,more:=aG}) aH a3 rfl a2;refine T a0 a1 {x with a:=p,b:=q,c:=r,more:=aG} ?_ ((f.frame W).trans (aC.mod.trans (S.frame aH)));have a5:Dn C e= {C with st:=(Bp C.st (Cq C e)).2,more:=C.more++ [Cq C e]}:=by unfold Dn;rw[if_neg (by simp[ab]),if_neg ax,if_neg (by simp[aX])]
   rw[a5];exact a4
  have bc:=ad.size;have bd:=ag.size;constructor
  ·refine pW G.bE.st ao ap hd λk p q r m M J=>Gl.mk _ ⟨_,rfl,al.mk λH _ Q u az=>⟨u7 ((m.trans u).ah V λh=>h),(f.on ((L.trans m).trans u)).bE.ld.jw,aE.mk Q (A0 12) λI w Y aF=>?_⟩⟩
   rw[PD] at w;have aI:Ext k I:=u.more Y λc o=>by omega
   exact ay I k.size p q r (m.trans aI) w (M.ext aI) λy t=>by have:=J y t;omega
  ·refine al.mk λH _ Q u az=>⟨u7 (u.ah V λh=>h),(f.on (L.trans u)).bE.ld.jw,?_⟩
   refine pW (G.bE.st.ext u) ao ap hd λk p q r m M J=>Gl.mk _ ⟨_,rfl,aE.mk (m.ah Q λh=>h) (A0 12) λI w Y aF=>?_⟩
   rw[PD] at w;have aT:=m.size;have a6:=M.mod Y (λy t e=>by have:=J y (.inl t);omega) (λy t e=>by have:=J y (.inr (.inl t));omega) (λy t e=>by have:=J y (.inr (.inr t));omega);exact ay I F.size p q r ((u.trans m).more Y λc o=>by omega) w a6 λy t=>by have:=J y t;omega
 have an:=f.on ad;refine aD (AZ.mk (s:=x.more) (Ce an.bE.ah rfl) ?_);have aJ:=an.bE.more.len;refine af.intro (λd=>?_) (λd=>?_)
 ·have d:C.more= []:=by simp at d;exact CH (by omega)
  refine aD (A8.mk (C.st.V x.a x.b x.c) an.bE.ld (u9 λk m=>⟨_,rfl,?_⟩));refine af.intro (λD=>?_) (λD=>?_)
  ·have D:jf C.st=false:=by unfold jf;simpa using D
   refine AC.mk (AB (m.ah au λh=>h) rfl) (key _ k m ?_);simp[d,D,Cq]
  ·have D:jf C.st=true:=by unfold jf;simpa using D
   refine key _ k m ?_;simp[D]
 ·have d:C.more≠ []:=λh=>by rw[h] at aJ;simp[aJ] at d
  refine key _ ac Mod.refl ?_;simp[d]
theorem ud {t:cm}{tick:Int}(r:CW B g h s a N sh l i y mp O cb z x C)(V:C.ao<256)(ao:y.f C.ao<=2147483647)(ap:y.u C.ao+1<16777216)(H:N+1<=1000000)(J:64*a<=B.C)(aq:C.ar.length<1000)(a5:tick<9223372036854775808)
  (L: ∀M au x' e d,CW B g M s a (N+1) sh l i e mp O cb au x' (Du C ⟨t.kind,t.ref,t.turn⟩ tick d)->y.dk e->qc y e C (Du C ⟨t.kind,t.ref,t.turn⟩ tick d) d->Mod (bo g O) h M->R (J1 #[]) M):AA A P GR #[Ar cb,t.v,J6 J9 tick] h R:=by
 refine Sz ?_;unfold Mt;refine al.mk λav _ aw w a6=>aD (AC.mk (Ce (r.on w).bE.ah rfl) (af.intro (λb=>?_) (λb=>?_)))
 ·have b:C.err≠0:=by simpa using b
  have D:Du C ⟨t.kind,t.ref,t.turn⟩ tick 0=C:=by unfold Du;rw[if_pos b]
  refine L av z x y 0 (by rw[D];exact(r.on w).put (by omega) H J) (Hs.dk.refl y) (λE=>absurd (by rw[D] at E;exact E) b) w.mod
 have W:C.err=0:=by simpa using b
 refine aD (AJ.mk (n:=C.wid) (Ce (r.on w).bE.ah rfl) (ae.bL (j:=1) (dH:=({t with wid:=C.wid}:cm).c) aw (of_decide_eq_true rfl) rfl λax ay az a7=>?_));have aA:Ext h ax:=w.more az λc q=>by omega
 refine JA.mk ({t with wid:=C.wid}:cm) (Cr ay rfl) (u5 λF aC=>⟨_,_,rfl,?_⟩);have Q:=aA.trans aC;have f:=r.on Q;cases X:Gx ⟨t.kind,t.ref,t.turn⟩ C.wid with
 |false=>
  refine af.yes rfl (aD (f.bE.err λY aE aF a8=>?_));have Z:Mod (λc=>z c≠0) F Y:=aF.aj λc _ q=>by subst q;rw[r.bE.zc];decide
  have D:Du C ⟨t.kind,t.ref,t.turn⟩ tick 0= {C with err:=1}:=by unfold Du;rw[if_neg (by simp[W]),if_pos X]
  refine L Y z x y 0 ?_ (Hs.dk.refl y) (λE=>by rw[D] at E;exact absurd (show(1:Int)=0 from E) (by decide)) (Q.mod.trans (f.frame Z));rw[D];exact(f.step Z (λc q=> .inl q) rfl aE).put (by omega) H J
 |true=>
  refine af.no rfl ?_;have aG:ag F (⟨cb,0,none⟩:Q6)=some (Ar y.p):=by have:=Ce (j:=0) f.bE.ah rfl;rw[add_zero,r.hp] at this;exact this
  refine aD (AY.mk aG (aD (AC.mk (Cj f.bE.ah rfl) ?_)));have fin: ∀(k:aa) (e:Hs) (d:Nat),CW B g k s a (N+1) sh l i e mp O cb z x C->y.dk e->(y.f C.ao≠0->dS y e C.ao d)->Mod (bo g O) F k->(∃ S:Int,Value.int .u64 (d:Int)= .int .u64 S/\(
    At (some (⟨cb,0,none⟩:Q6)) λaH=>
    AC J9 k ((aH.add 1).add 1) λaI=>
    AA A P KA #[J6 J9 aI,.int .u64 S] k λv2 u=> ∃ab:A2Q,v2=J7 ab/\(
    ai (λ(s:A2Q×Unit) o=>
      At (some (⟨cb,0,none⟩:Q6)) λaJ=>
      AZ o (aJ.add 32) λT=>
      al o (J2 #[J7 s.1,J7 (if true then gi ⟨t.kind,t.ref,t.turn⟩ C.wid else⟨#[]⟩),J3 false] AR) λaK U=>
      BI A P (Builtin.append_ #[AQ,AQ] AQ #[J4 T.p T.len T.cap,J4 (some (⟨aK,0,none⟩:Q6)) 1 1]) U λaL aM=> ∃v:Sl,aL=J4 v.p v.len v.cap/\(
      At (some (⟨cb,0,none⟩:Q6)) λaN=>
      ae aM (aN.add 32) (J4 v.p v.len v.cap) λaO=>
      R (J1 #[]) aO)) λK=>
     af (decide (tick>=(0:Int))) (
      At (some (⟨cb,0,none⟩:Q6)) λaP=>
      AC J9 u ((aP.add 1).add 1) λaQ=>
      AA A P OE #[J6 J9 aQ,J6 J9 tick,.int .u64 S] u λaR aS=> ∃ac:A2Q,aR=J7 ac/\(
      K (ac,()) aS)) (
      K (ab,()) u)))):=λk e d ad aT aU aV=>by
   refine⟨_,rfl,aD (AC.mk (Cj ad.bE.ah rfl) (AQE V λu ah=>⟨_,rfl,ai.mk λK aW=>?_⟩))⟩;have aj:=ad.on ah;have key: ∀(o:aa),Ext u o->K (MC C.ao tick d,()) o:=λo I=>by
    have G:=aj.on I;refine aW _ _ (aD (AZ.mk (s:=x.ar) (Ce G.bE.ah rfl) ?_));refine G.bE.eI (p:=⟨MC C.ao tick d,gi ⟨t.kind,t.ref,t.turn⟩ C.wid,false⟩) G.fT aq λU ak aX aY am aZ=>?_
    have a0:=G.step (x':= {x with ar:=ak}) am aZ rfl aY;refine L U aX {x with ar:=ak} e d ?_ aT (λ_=>aU) (Q.mod.trans (aV.trans ((ah.trans I).mod.trans (G.frame am))));unfold Du;rw[if_neg (by simp[W]),if_neg (by simp[X])];exact a0
   refine af.intro (λb=>?_) (λb=>?_)
   ·have b:0<=tick:=by simpa using b
    obtain⟨n,rfl⟩: ∃n:Nat,tick=n:=⟨tick.toNat,by omega⟩;refine aD (AC.mk (Cj aj.bE.ah rfl) (AQA V (by omega) λo I=>⟨_,rfl,?_⟩));have:=key o I;unfold MC at this;rw[if_neg (by omega),A6] at this;exact this
   ·have b:tick<0:=by simp at b;omega
    have:=key u Mod.refl;unfold MC at this;rw[if_pos b] at this;exact this
  refine f.w.number f.at ao ap H (λa1=>?_) λa9 k a2 an=>?_
  ·exact fin F y 0 (f.put (by omega) H J) (Hs.dk.refl y) (λh=>absurd a1 h) Mod.refl
  ·have a3:Mod (bo g O) F k:=an.aj λc _ q=>⟨q.1,λa4=>q.2 (.inl a4)⟩
   exact fin k (y.jx C.ao) _ (f.lw a2 an rfl) ⟨rfl,rfl,rfl,λm=>by
    show _<=dC y.u C.ao (y.u C.ao+1) m/\dC y.u C.ao (y.u C.ao+1) m<=_
    grind [dC]⟩ (λ_=>⟨_,Hj _,by show _<=dC y.u C.ao (y.u C.ao+1) C.ao;grind [dC],rfl⟩) a3
theorem ARy {t:cm}(k:CW B g h s a N sh l i y mp O cb z x C)(m:C.ao<256)(n:y.f C.ao<=2147483647)(o:y.u C.ao+1<16777216)(p:N+1<=1000000)(q:64*a<=B.C)(r:C.ar.length<1000)
  (u: ∀b e f c d,CW B g b s a (N+1) sh l i c mp O cb e f (Du C ⟨t.kind,t.ref,t.turn⟩ (-1) d)->y.dk c->qc y c C (Du C ⟨t.kind,t.ref,t.turn⟩ (-1) d) d->Mod (bo g O) h b->R (J1 #[]) b):AA A P JD #[Ar cb,t.v] h R:=by
 refine TG ?_;unfold Mw;refine al.mk λG _ v j H=>JA.mk t (Cr v rfl) (ud (k.on j) m n o p q r (by decide) λb e f c d w D E F=>⟨rfl,u b e f c d w D E (j.mod.trans F)⟩)
theorem qd {t:cm}{tick:Int}(k:CW B g h s a N sh l i y mp O cb z x C)(m:C.ao<256)(n:y.f C.ao<=2147483647)(o:y.u C.ao+1<16777216)(p:N+1<=1000000)(q:64*a<=B.C)(r:C.ar.length<1000)(G:tick<9223372036854775808)
  (u: ∀b e f c d,CW B g b s a (N+1) sh l i c mp O cb e f (Du C ⟨t.kind,t.ref,t.turn⟩ (if(0:Int)>tick then 0 else tick) d)->y.dk c->qc y c C (Du C ⟨t.kind,t.ref,t.turn⟩ (if(0:Int)>tick then 0 else tick) d) d->Mod (bo g O) h b->R (J1 #[]) b):AA A P En #[Ar cb,t.v,J6 J9 tick] h R:=by
 refine Vh ?_;unfold Ou;refine al.mk λH _ v j I=>JA.mk t (Cr v rfl) (ud (k.on j) m n o p q r (by split<;>omega) λb e f c d w D E F=>⟨rfl,u b e f c d w D E (j.mod.trans F)⟩)
theorem ANy {key val:A2Q}(b:CW B g h s a N sh l i y mp O cb z x C)(k:C.conds.length<1000)(m:C.ar.length<1000)
  (n: ∀d o x',CW B g d s a N sh l i y mp O cb o x' (oh C key val)->Mod (bo g O) h d->R (J1 #[]) d):AA A P I7 #[Ar cb,J7 key,J7 val] h R:=by
 refine TE ?_;unfold Me;dsimp only[At];refine AZ.mk (s:=x.conds) (Ce b.bE.ah rfl) ?_;refine b.bE.fK (p:=⟨key,⟨#[]⟩,true⟩) b.fT k λF e G q f r=>?_
 have c:=b.step (x':= {x with conds:=e}) f r rfl q;refine AZ.mk (s:=x.ar) (Ce c.bE.ah rfl) ?_;refine c.bE.eI (p:=⟨key,val,false⟩) c.fT m λt u v w j D=>?_
 have E:=c.step (x':= {x with conds:=e,ar:=u}) j D rfl w;exact n t v _ E ((b.frame f).trans (c.frame j))
theorem ARD(q:CW B g h s a N sh l i y mp O cb z x C)(H:0<=C.st.next/\C.st.next<=501)
  (r: ∀n,Ext h n->R (⟨0,(Dh C).1,(Dh C).2,⟨0,⟨#[]⟩,0,0⟩,⟨#[]⟩,⟨none,0,0⟩⟩:bj).v n):AA A P Gv #[Ar cb] h R:=by
 refine QI ?_;unfold KV;refine al.mk λo _ t p I=>?_
 have b:=(q.on p).bE;refine aD (AC.mk (Cj b.ah rfl) (ai.mk λK u=>?_));have fin: ∀nx:Int,nx=(Dh C).2->K (nx,()) o:=λnx v=>by
  subst v;refine u _ _ (aD (AC.mk (Cj b.ah rfl) (aE.mk t (A0 9) λw D E J=>?_)));refine Dr.mk ⟨0,C.st.status,(Dh C).2,⟨0,⟨#[]⟩,0,0⟩,⟨#[]⟩,⟨none,0,0⟩⟩ (Cr D rfl) ?_;exact r w (p.more E λc L=>by omega)
 refine ai.mk λF G=>?_
 have key: ∀d:Bool,d=EH C->F (d,()) o:=λd M=>by
  refine G _ _ (af.intro (λe=>?_) (λe=>?_))
  ·have e:d=true:=e;rw[wrap_i64 (by omega) (by omega)];refine fin _ ?_
   simp_all [Dh,if_pos]
  ·have e:d=false:=e;refine fin _ ?_
   simp_all [Dh,if_neg]
 have Q:=b.more.len;unfold EH at key;refine aD (AZ.mk (s:=x.more) (Ce b.ah rfl) (af.intro (λf=>?_) (λf=>?_)));rotate_left
 ·have f:C.more= []:=by simp_all
  exact key _ (by simp[f])
 have f:C.more≠ []:=λh=>by grind
 refine aD (AC.mk (Cj b.ah rfl) (af.intro (λj=>?_) (λj=>key _ (by simp at j;simp[j]))));refine aD (Ac.mk (Cj b.ah rfl) (af.intro (λk=>?_) (λk=>key _ (by grind))));have k:C.st.fresh=true:=k;refine aD (AC.mk (Cj b.ah rfl) (af.intro (λm=>?_) (λm=>key _ (by simp at m;simp[m]))));refine aD (AC.mk (Cj b.ah rfl) (key _ ?_))
 grind
end
def QQ:Ev:=⟨0,2,0,0,0,0,false,⟨#[]⟩⟩
def Ed(C:br)(b:Nat):br:=if EH C then Du (Dn C QQ) ⟨1,Sa (Dn C QQ),0⟩ (-1) b else C
def ue(C:br):Int:=if(0:Int)>C.now+20 then 0 else C.now+20
def BB(C:br)(b c:Nat):br:=if C.more≠ []/\(Ed C b).st.status≠0 then Du (Ed C b) ⟨7,0,0⟩ (ue C) c else Ed C b
end Go.Lf.G
namespace Go.Lf
open G
open Go
open M (Sorted Af CY BA Ag Au BV Ai bB BH aP BF)
structure br.grown (C D:br) (n k j:Nat):Prop where
 wid:D.wid=C.wid
 ao:D.ao=C.ao
 ct:D.ct=C.ct
 bW:D.bW=C.bW
 kept:D.kept=C.kept
 conds:D.conds=C.conds
 now:D.now=C.now
 more:D.more.length<=C.more.length+k
 none:C.more≠ []->D.more≠ []
 ar:D.ar.length<=C.ar.length+j
 ok: ∀e∈D.more,Ej e=true/\e.data.size<1099511627776
 st:Dc D.st n
end Go.Lf
namespace Go.Lf.G
open Go
open M (Sorted Af CY BA Ag Au BV Ai bB BH aP BF)
theorem Gy(C:br)(t:fO)(tick:Int)(b:Nat):(Du C t tick b).st=C.st/\(Du C t tick b).more=C.more:=by
 unfold Du;split
 ·exact⟨rfl,rfl⟩
 ·split<;>exact⟨rfl,rfl⟩
theorem XD {C b:br}{r u v:Nat}(G:C.grown b r u v)(t:fO)(tick:Int)(w:Nat):C.grown (Du b t tick w) r u (v+1):=by
 obtain⟨c,d,e,f,j,k,m,n,o,D,p,q⟩:=G;unfold Du;split
 ·exact⟨c,d,e,f,j,k,m,n,o,by omega,p,q⟩
 ·split
  ·exact⟨c,d,e,f,j,k,m,n,o,by show b.ar.length<=_;omega,p,q⟩
  ·exact⟨c,d,e,f,j,k,m,n,o,by show(b.ar++ [_]).length<=_;rw[A1,Cd];omega,p,q⟩
theorem Wy {C:br}{b:Nat}(ok: ∀c∈C.more,Ej c=true/\c.data.size<1099511627776)(d:Dc C.st b):C.grown C b 0 0:=⟨rfl,rfl,rfl,rfl,rfl,rfl,rfl,A0 _,id,A0 _,ok,d⟩
end Go.Lf.G
namespace Go.Lf
open G
open Go
open M (Sorted Af CY BA Ag Au BV Ai bB BH aP BF)
theorem Dc.up {s:bd}{c m:Nat}(b:Dc s c)(h:c<=m):Dc s m:=⟨by have:=b.au;omega,by have:=b.ak;omega,b.steps,b.az,b.aZ,b.next,b.st,b.waits⟩
end Go.Lf
namespace Go.Lf.G
open Go
open M (Sorted Af CY BA Ag Au BV Ai bB BH aP BF)
theorem MF {C b:br}{v w D:Nat}(G:C.grown b v w D){e:Ev}(hd:e.data.size<1099511627776):C.grown (Dn b e) (v+1) (w+1) D:=by
 obtain⟨c,d,f,j,k,m,n,E,t,o,p,q⟩:=G;unfold Dn;split
 ·exact⟨c,d,f,j,k,m,n,by omega,t,o,p,q.up (BY _)⟩
 ·split
  ·exact⟨c,d,f,j,k,m,n,by show b.more.length<=_;omega,t,o,p,q.up (BY _)⟩
  ·split
   ·exact⟨c,d,f,j,k,m,n,by show b.more.length<=_;omega,t,o,p,q.up (BY _)⟩
   ·rename_i r;have r:(Bp b.st (Cq b e)).1=0:=by simpa using r
    refine⟨c,d,f,j,k,m,n,by show(b.more++ [_]).length<=_;rw[A1,Cd];omega,λ_=>by show b.more++ [_]≠ [];simp,o,λx u=>?_,Tj q r⟩;have u:x∈b.more++ [Cq b e]:=u;rcases List.mem_append.1 u with h|h
    ·exact p x h
    ·rw[List.mem_singleton.1 h];exact⟨Qd r,hd⟩
structure Hs.di (y y':Hs):Prop where
 p:y'.p=y.p
 name:y'.name=y.name
 f:y'.f=y.f
 u: ∀m,y.u m<=y'.u m/\y'.u m<=y.u m+2
section
variable {A : aq} {B : cH} {g h : aa} {s a N sh cb : Nat} {l : List Hs} {mp : List Pr} {O : Nat -> Prop} {i : Nat} {y : Hs} {z : Nat -> Nat} {x : eF} {C : br} {R : A2P}
theorem FY.ptr {p:Nat}(b:FY h cb z x C)(c:x.hp=p):ag h (⟨cb,0,none⟩:Q6)=some (Ar p):=by have:=Ce (j:=0) b.ah rfl;rw[add_zero,c] at this;exact this
theorem FY.rW(b:FY h cb z x C):Cells h (((⟨cb,0,none⟩:Q6).add 1).add 2) (⟨C.ct,C.bW,C.kept⟩:cQ).l:=by have c:((⟨cb,0,none⟩:Q6).add 1).add 2=⟨cb,3,none⟩:=rfl;rw[c];exact Cr b.ah rfl
end
end Go.Lf.G
namespace Go.Lf
open G
open Go
open M (Sorted Af CY BA Ag Au BV Ai bB BH aP BF)
theorem Cells.rX {h:aa}{a:Q6}{t:cQ}(c:Cells h a t.l):ag h a=some (J6 J9 t.status)/\ag h (a.add 1)=some (J6 J9 t.next)/\ag h (a.add 2)=some (J3 t.kept):=by have b:=c 0 _ rfl;rw[add_zero] at b;exact⟨b,c 1 _ rfl,c 2 _ rfl⟩
end Go.Lf
namespace Go.Lf.G
open Go
open M (Sorted Af CY BA Ag Au BV Ai bB BH aP BF)
section
variable {A : aq} {B : cH} {g h : aa} {s a N sh cb : Nat} {l : List Hs} {mp : List Pr} {O : Nat -> Prop} {i : Nat} {y : Hs} {z : Nat -> Nat} {x : eF} {C : br} {R : A2P}
theorem ARJ {o:aa}{d:br}(E:bY g)(k:CW B g o s a N sh l i y mp O cb z x d)(aX:Ak d.wid=true)(bF: ∀u∈d.more,Ej u=true/\u.data.size<1099511627776)(bG:d.ao<256)(bH:y.f d.ao<=2147483647)(hA:4+3*a<=B.A)(bI:64*a+64<=B.C)(bJ:a+1<=1000000)
  (c6:d.more.length<=900) (c7:d.ar.length<=900) (c8:d.conds.length<=900) (bK: ∀p∈d.conds,p.key.size<=1099511627776) (c9:0<=d.ct/\d.ct<128) (aY:0<=d.bW/\d.bW<=501) (aZ:0<=d.st.status/\d.st.status<=4) (a0:0<=d.st.next/\d.st.next<=501)
  (bL:d.err≠0-> ∀e,LW B g e s a N sh (l.set i y) mp O->Mod (bo g O) o e->R (J6 J9 d.err) e)
  (bM:d.err=0->y.f d.ao=0-> ∀e,LW B g e s a N sh (l.set i y) mp O->Mod (bo g O) o e->R (J6 J9 170) e)
  (bN:d.err=0->y.f d.ao≠0->Bf mp (FZ d.ao (y.f d.ao) y.name)=false-> ∀e,LW B g e s a N sh (l.set i (y.lost d.ao)) mp O->Mod (bo g O) o e->R (J6 J9 170) e)
  (bO:d.err=0->y.f d.ao≠0->Bf mp (FZ d.ao (y.f d.ao) y.name)=true->dw mp (FZ d.ao (y.f d.ao) y.name::(d.conds++ [bC d])) (EA d++d.ar)≠0-> ∀e,LW B g e s a N sh (l.set i y) mp O->Mod (bo g O) o e->R (J6 J9 (dw mp (FZ d.ao (y.f d.ao) y.name::(d.conds++ [bC d])) (EA d++d.ar))) e)
  (bP:d.err=0->y.f d.ao≠0->Bf mp (FZ d.ao (y.f d.ao) y.name)=true->dw mp (FZ d.ao (y.f d.ao) y.name::(d.conds++ [bC d])) (EA d++d.ar)=0-> ∀e,LW B g e s (a+1) N sh (l.set i y) (cz mp (EA d++d.ar)) O->Mod (bo g O) o e->R (J6 J9 0) e):
  At (some (⟨cb,0,none⟩:Q6)) λbQ=>
    AC J9 o (bQ.add 34) λbR=>
    af (bR != (0:Int)) (
     At (some (⟨cb,0,none⟩:Q6)) λbS=>
     AC J9 o (bS.add 34) λbT=>
     R (J6 J9 bT) o) (
     At (some (⟨cb,0,none⟩:Q6)) λbU=>
     AJ o (bU.add 1) λbV=>
     AA A P GU #[J7 bV] o λv1 aZ=> ∃a1:A2Q,v1=J7 a1/\(
     al aZ (J2 #[J7 (⟨#[]⟩:A2Q),J7 (⟨#[]⟩:A2Q),J3 false] AR) λb a0=>
     ae a0 (⟨b,0,none⟩:Q6) (J7 a1) λbW=>
     ae bW ((⟨b,0,none⟩:Q6).add 1) (J7 (⟨#[]⟩:A2Q)) λbX=>
     ae bX ((⟨b,0,none⟩:Q6).add 2) (J3 true) λJ=>
     ai (λ(da:Unit) v=>
       At (some (⟨cb,0,none⟩:Q6)) λbZ=>
       AJ v (bZ.add 1) λb0=>
       At (some (⟨cb,0,none⟩:Q6)) λb1=>
       AZ v (b1.add 31) λaF=>
       AA A P PU #[J7 b0,J4 aF.p aF.len aF.cap] v λv2 w=> ∃D:Sl,∃aG:Int,v2=J1 #[J4 D.p D.len D.cap,J6 J9 aG]/\(
       af (aG != (0:Int)) (
        R (J6 J9 aG) w) (
        ai (λ(aH:Sl×Unit) q=>
          At (some (⟨cb,0,none⟩:Q6)) λad=>
          AY q ad λah=>
          At (some (⟨cb,0,none⟩:Q6)) λaj=>
          AC J9 q ((aj.add 1).add 1) λak=>
          At (some (⟨cb,0,none⟩:Q6)) λa2=>
          AZ q (a2.add 33) λK=>
          AJ q (⟨b,0,none⟩:Q6) λb2=>
          AJ q ((⟨b,0,none⟩:Q6).add 1) λb3=>
          Ac q ((⟨b,0,none⟩:Q6).add 2) λb4=>
          At (some (⟨cb,0,none⟩:Q6)) λaI=>
          AZ q (aI.add 32) λF=>
          al q (J2 #[J7 b2,J7 b3,J3 b4] AR) λb5 H=>
          And (ag H (aI.add 32)=some (J4 F.p F.len F.cap))<|
          And (ag H (a2.add 33)=some (J4 K.p K.len K.cap))<|
          And (ag H ((aj.add 1).add 1)=some (J6 J9 ak))<|
          And (ag H ad=some (J5 ah))<|
          BI A P (Builtin.append_ #[AQ,AQ] AQ #[J4 K.p K.len K.cap,J4 (some (⟨b5,0,none⟩:Q6)) 1 1]) H λb6 I=> ∃L:Sl,b6=J4 L.p L.len L.cap/\(
          And (ag I (aI.add 32)=some (J4 F.p F.len F.cap))<|
          And (ag I ((aj.add 1).add 1)=some (J6 J9 ak))<|
          And (ag I ad=some (J5 ah))<|
          BI A P (Builtin.append_ #[AQ,AQ] AQ #[J4 aH.1.p aH.1.len aH.1.cap,J4 F.p F.len F.cap]) I λb7 t=> ∃M:Sl,b7=J4 M.p M.len M.cap/\(
          And (ag t ((aj.add 1).add 1)=some (J6 J9 ak))<|
          And (ag t ad=some (J5 ah))<|
          AA A P GH #[J5 ah,J6 J9 ak,J4 L.p L.len L.cap,J4 M.p M.len M.cap] t λb8 b9=> ∃a3:Int,b8=J6 J9 a3/\(
          R (J6 J9 a3) b9)))) λam=>
         At (some (⟨cb,0,none⟩:Q6)) λca=>
         AZ w (ca.add 31) λcc=>
         af (decide (((cc.len:Nat):Int)>(0:Int))) (
          At (some (⟨cb,0,none⟩:Q6)) λa4=>
          AC J9 w ((a4.add 19).add 2) λa5=>
          At (some (⟨cb,0,none⟩:Q6)) λa6=>
          AC J9 w ((a6.add 19).add 3) λa7=>
          al w (J2 cQ.z.c JC) λV an=>
          And (ag an ((a6.add 19).add 3)=some (J6 J9 a7))<|
          And (ag an ((a4.add 19).add 2)=some (J6 J9 a5))<|
          aE an (⟨V,0,none⟩:Q6) (⟨a5,a7,false⟩:cQ).l λQ=>
          At (some (⟨cb,0,none⟩:Q6)) λcd=>
          AJ Q (cd.add 1) λce=>
          OV Q (⟨V,0,none⟩:Q6) λao=>
          AA A P GU #[J7 ce] Q λcf ap=> ∃a8:A2Q,cf=J7 a8/\(
          And (ag ap (⟨V,0,none⟩:Q6)=some (J6 J9 ao.status)/\ag ap ((⟨V,0,none⟩:Q6).add 1)=some (J6 J9 ao.next)/\ag ap ((⟨V,0,none⟩:Q6).add 2)=some (J3 ao.kept))<|
          AA A P FK #[ao.v] ap λcg a9=> ∃ba:A2Q,cg=J7 ba/\(
          al a9 (J2 #[J7 a8,J7 ba,J3 false] AR) λch ci=>
          BI A P (Builtin.append_ #[AQ,AQ] AQ #[J4 D.p D.len D.cap,J4 (some (⟨ch,0,none⟩:Q6)) 1 1]) ci λcj aJ=> ∃S:Sl,cj=J4 S.p S.len S.cap/\(
          am ((⟨S.p,S.len,S.cap⟩:Sl),()) aJ)))) (
          am ((⟨D.p,D.len,D.cap⟩:Sl),()) w)))) λaq=>
      At (some (⟨cb,0,none⟩:Q6)) λck=>
      AC J9 J (((ck.add 1).add 2).add 1) λcl=>
      af (decide (cl>(0:Int))) (
       At (some (⟨cb,0,none⟩:Q6)) λcm=>
       AJ J (cm.add 1) λcn=>
       At (some (⟨cb,0,none⟩:Q6)) λar=>
       OV J ((ar.add 1).add 2) λau=>
       AA A P GU #[J7 cn] J λco av=> ∃bb:A2Q,co=J7 bb/\(
       And (ag av ((ar.add 1).add 2)=some (J6 J9 au.status)/\ag av (((ar.add 1).add 2).add 1)=some (J6 J9 au.next)/\ag av (((ar.add 1).add 2).add 2)=some (J3 au.kept))<|
       AA A P FK #[au.v] av λcp bc=> ∃bd:A2Q,cp=J7 bd/\(
       ae bc (⟨b,0,none⟩:Q6) (J7 bb) λbe=>
       ae be ((⟨b,0,none⟩:Q6).add 1) (J7 bd) λbf=>
       ae bf ((⟨b,0,none⟩:Q6).add 2) (J3 false) λaK=>
       aq () aK))) (
       aq () J))):=by
 have cq: ∀ {e:aa},CW B g e s a N sh l i y mp O cb z x d->LW B g e s a N sh (l.set i y) mp O:=λcr=>cr.w.less λc f=> .inl f
 refine aD (AC.mk (n:=d.err) (Ce k.bE.ah rfl) (af.intro (λr=>?_) (λr=>?_)))
 ·exact aD (AC.mk (n:=d.err) (Ce k.bE.ah rfl) (bL (by simpa using r) o (cq k) Mod.refl))
 have aw:d.err=0:=by simpa using r
 have db:=FE aX;refine aD (AJ.mk (n:=d.wid) (Ce k.bE.ah rfl) (nB (by omega) ⟨_,rfl,?_⟩));refine al.pair λb J dc bg aL dd=>?_
 have ax:=k.on aL;refine ai.mk λaq cs=>?_
 have bh: ∀v,Ext o v->v[b]? =some (J2 #[J7 (bC d).key,J7 (bC d).val,J3 (bC d).gone] AR (0,0))->aq () v:=λv aM ct=>by
  have W:=k.on aM;refine cs _ _ (aD (AJ.mk (n:=d.wid) (Ce W.bE.ah rfl) (aD (AZ.mk (s:=x.more) (Ce W.bE.ah rfl) ?_))));refine ARv aX W.bE.more.view (by omega) bF λps w aN aO ay=>⟨_,_,rfl,af.no rfl ?_⟩
  have T:=W.on ay;refine ai.mk λam cu=>?_
  have bi: ∀q (sl:Sl),Ext v q->Own BR AR q sl (EA d)->(∀ c,sl.ah=some c->v.size<=c)->am (sl,()) q:=λq sl az aP X=>by
   have Y:=W.on az;have aQ:=az.ah ct λh=>h
   refine cu _ _ (aD (AY.mk (Y.bE.ptr k.hp) (aD (AC.mk (Cj Y.bE.ah rfl) (aD (AZ.mk (s:=x.conds) (Ce Y.bE.ah rfl) ?_))))));refine AJ.mk (AO aQ rfl) (AJ.mk (AB aQ rfl) (Ac.mk (AB aQ rfl) (aD (AZ.mk (s:=x.ar) (Ce Y.bE.ah rfl) (al.mk λH _ cv Z de=>?_)))));have G:=Y.on Z;refine⟨Ce G.bE.ah rfl,Ce G.bE.ah rfl,Cj G.bE.ah rfl,G.bE.ptr k.hp,?_⟩;have src:View BR H ⟨some ⟨q.size,0,none⟩,1,1⟩ [bC d]:=(Own.lit (E:=BR) (l:= [bC d]) cv rfl (by simp[maxLen])).view;refine Fz (E:=BR) (s:=x.conds) (src:=⟨some ⟨q.size,0,none⟩,1,1⟩) G5 G.bE.conds src (by simp only[Cd];omega) (by simp only[Cd,maxLen];omega) λcw I cx ab cy _=>?_
   have bj: ∀c aR,z c=aR->aR≠4-> ¬x.conds.ah=some c:=λc aR bk aY u=>by rw[G.bE.zq c u] at bk;exact aY bk.symm
   have aA:=ab.ah G.bE.ah (bj cb 1 k.bE.zc (by decide));have cB:ag I (⟨cb,0,none⟩:Q6)=some (Ar y.p):=by have:=Ce (j:=0) aA rfl;rw[add_zero,k.hp] at this;exact this
   refine⟨Ce aA rfl,Cj aA rfl,cB,?_⟩;have cC:Own BR AR I x.ar d.ar:=G.bE.ar.mod ab λc f=>bj c 3 (G.bE.zp c f) (by decide)
   have df:=aM.size;have dg:=az.size;have dh:=Z.size;have di:=ab.size;have cD:Own BR AR I sl (EA d):=(aP.ext Z).mod ab λc f u=>by
    have:=k.fT c (by rw[k.bE.zq c u];decide);have:=X c f;omega
   have dj:(EA d).length<=901:=by unfold EA;rw[A1,AN];split<;>simp<;>omega
   refine Fz (E:=BR) (s:=sl) (src:=x.ar) G5 cD cC.view (by omega) (by simp only[maxLen];omega) λdk t bm aC cE _=>?_
   have cF: ∀c,sl.ah=some c-> ¬c=cb:=λc f u=>by
    have:=X c f;have:=k.fT cb (by rw[k.bE.zc];decide);omega
   have bn:=aC.ah aA (λf=>cF cb f rfl);have cG:ag t (⟨cb,0,none⟩:Q6)=some (Ar y.p):=by have:=Ce (j:=0) bn rfl;rw[add_zero,k.hp] at this;exact this
   refine⟨Cj bn rfl,cG,?_⟩;have cH:Ext o H:=(aM.trans az).trans Z;have bp:Mod (λc=>z c≠0) o t:=(cH.mod.trans (ab.aj λc _ f=>by rw[k.bE.zq c f];decide)).then (aC.aj λc _ f=> .inr (by have:=X c f;omega));have dl:=aC.size;have aS:LW B g t s a N sh (l.set i y) mp (λc=>(O c\/z c≠0)\/(o.size<=c/\c<t.size)):=k.w.own (bp.aj λc _ f=> .inr f) λc f=>f
   have aT:Mod (bo g O) o t:=k.frame bp;have less: ∀ {e:aa} {bq:Nat} {bs:List Hs} {bt:List Pr},LW B g e s bq N sh bs bt (λc=>(O c\/z c≠0)\/(o.size<=c/\c<t.size))->LW B g e s bq N sh bs bt O:=λU=>U.less λc f=> .inl (.inl f)
   have bu: ∀ {e:aa},Mod (bo g (λc=>(O c\/z c≠0)\/(o.size<=c/\c<t.size))) t e->Mod (bo g O) o e:=λm=>aT.trans (m.aj λc _ f=>⟨f.1,λcI=>f.2 (.inl (.inl cI))⟩)
   have cJ:Own BR AR t cw (d.conds++ [bC d]):=cx.mod aC λc f u=>by
    have:=X c u;rcases cy c f with h|h
    ·have:=k.fT c (by rw[k.bE.zq c h];decide);omega
    ·have:=(aP.ext Z).lt u;have:=aP.lt u;omega
   refine aS.change E k.at bG bH hA bI bJ cJ.view (by rw[A1,Cd];omega) bm.view (λ_ c f=>?_) (λp cK=>?_) (λcL=>?_) (λac cM e U aU=>?_) (λac aV hd e bv=>?_) λac aV cN e U aU=>?_
   ·have lt:=bm.lt f;rcases cE c f with h|h
    ·have:=X c h;exact .inr (.inr ⟨by omega,lt⟩)
    ·exact .inr (.inr ⟨by omega,lt⟩)
   ·rcases List.mem_append.1 cK with h|h
    ·exact bK p h
    ·rw[List.mem_singleton.1 h];unfold bC;have:=Ro d.wid;split<;>(dsimp only;omega)
   ·exact⟨_,rfl,bM aw cL t (less aS) aT⟩
   ·rw[List.set_set] at U;exact⟨_,rfl,bN aw ac cM e (less U) (bu aU)⟩
   ·exact⟨_,rfl,bO aw ac aV hd e (less (aS.on bv)) (aT.trans bv.mod)⟩
   ·exact⟨_,rfl,bP aw ac aV cN e (less U) (bu aU)⟩
  have bw:=T.bE.more.len;refine aD (AZ.mk (s:=x.more) (Ce T.bE.ah rfl) (af.intro (λr=>?_) (λr=>?_)))
  ·have cO:d.more≠ []:=λh=>by rw[h] at bw;simp[bw] at r
   refine aD (AC.mk (Cj T.bE.ah rfl) (aD (AC.mk (Cj T.bE.ah rfl) (al.mk λan _ cP bx dm=>?_))));have bz:=T.on bx;refine⟨Cj bz.bE.ah rfl,Cj bz.bE.ah rfl,aE.mk cP (A0 3) λQ cR cS dn=>?_⟩;have bA:Ext w Q:=bx.more cS λc f=>by subst f;exact A0 _
   have cT:=T.on bA;have bB:Cells Q (⟨w.size,0,none⟩:Q6) (⟨d.st.status,d.st.next,false⟩:cQ).l:=Cr cR rfl;refine aD (AJ.mk (n:=d.wid) (Ce cT.bE.ah rfl) (OV.mk ⟨d.st.status,d.st.next,false⟩ bB (nB (by omega) ⟨_,rfl,bB.rX,?_⟩)));refine tZ (m:=⟨d.st.status,d.st.next,false⟩) (st:=d.st.status.toNat) (nx:=d.st.next.toNat) (by show d.st.status=_;omega) (by show d.st.next=_;omega) (by omega) (by omega) λa9 cU=>⟨_,rfl,?_⟩
   have aW:=bA.trans cU;refine al.aY (E:=BR) (x:=⟨KZ d.wid,QS d.st.status.toNat d.st.next.toNat false,false⟩) (s:=ps) rfl G5 (aN.ext aW) (by simp only[AN];omega) (by simp only[AN,maxLen];omega) λcV aJ cW cX cY _=>?_
   refine bi aJ cV ((ay.trans aW).more cX aO) ?_ λc f=>?_
   ·unfold EA;rw[if_neg cO];exact cW
   ·rcases cY c f with h|h
    ·exact aO c h
    ·have:=aW.size;have:=ay.size;omega
  ·have bD:d.more= []:=by simp at r;exact CH (by omega)
   refine bi w ps ay ?_ aO;unfold EA;rw[bD,if_pos rfl,AK];rw[bD] at aN;exact aN
 refine aD (AC.mk (ARI ax.bE.ah rfl) (af.intro (λr=>?_) (λr=>?_)))
 ·have r:0<d.bW:=by simpa using r
  refine aD (AJ.mk (n:=d.wid) (Ce ax.bE.ah rfl) (aD (OV.mk ⟨d.ct,d.bW,d.kept⟩ ax.bE.rW (nB (by omega) ⟨_,rfl,ax.bE.rW.rX,?_⟩))));refine tZ (m:=⟨d.ct,d.bW,d.kept⟩) (st:=d.ct.toNat) (nx:=d.bW.toNat) (by show d.ct=_;omega) (by show d.bW=_;omega) (by omega) (by omega) λbc bE=>⟨_,rfl,?_⟩
  have cZ:=bE.ah bg λh=>h
  refine ae.bL (j:=0) cZ (of_decide_eq_true rfl) rfl λbe c0 c1 dp=>ae.bL (j:=1) c0 (of_decide_eq_true rfl) rfl λbf c2 c3 dq=>ae.bL (j:=2) c2 (of_decide_eq_true rfl) rfl λaK c4 c5 dr=>?_
  refine bh aK ((aL.trans bE).more ((c1.trans c3).trans c5) λc f=>by subst f;omega) ?_;unfold bC;rw[if_pos r];exact c4
 ·have r: ¬0<d.bW:=by simpa using r
  refine bh J aL ?_;unfold bC;rw[if_neg r];exact bg
end
theorem Xi {C:br}{t:fO}{tick:Int}{c:Nat}(h:(Du C t tick c).err=0):C.err=0:=by
 unfold Du at h;split at h
 ·rename_i b;exact absurd h b
 ·rename_i b;simpa using b
theorem VP {C:br}{b c:Nat}(h:(BB C b c).err=0):(Ed C b).err=0:=by
 unfold BB at h;split at h
 ·exact Xi h
 ·exact h
section
variable {A : aq} {B : cH} {g h : aa} {s a N sh cb : Nat} {l : List Hs} {mp : List Pr} {O : Nat -> Prop} {i : Nat} {y : Hs} {z : Nat -> Nat} {x : eF} {C : br} {R : A2P}
theorem uf {b:Nat}(ok: ∀e∈C.more,Ej e=true/\e.data.size<1099511627776)(d:Dc C.st b)(f:Nat):C.grown (Ed C f) (b+1) 1 1:=by
 have c:=Wy ok d;unfold Ed;split
 ·exact XD (MF c (e:=QQ) (by show 0<1099511627776;decide)) _ _ _
 ·obtain⟨j,k,m,n,o,p,q,v,r,w,t,u⟩:=c;exact⟨j,k,m,n,o,p,q,by omega,r,by omega,t,u.up (BY _)⟩
theorem UV {n:Nat}(ok: ∀b∈C.more,Ej b=true/\b.data.size<1099511627776)(e:Dc C.st n)(c f:Nat):C.grown (BB C c f) (n+1) 1 2:=by
 have d:=uf ok e c;unfold BB;split
 ·exact XD d _ _ _
 ·obtain⟨j,k,m,o,p,q,r,t,u,D,v,w⟩:=d;exact⟨j,k,m,o,p,q,r,t,u,by omega,v,w⟩
theorem ug {aj:Nat}(au:bY g)(o:CW B g h s a N sh l i y mp O cb z x C)(V:Dc C.st aj)(a2:aj+1<=600)(L:Ak C.wid=true)(Z: ∀e∈C.more,Ej e=true/\e.data.size<1099511627776)(ab:C.ao<256)(r:y.f C.ao<=2147483647)(a3:y.u C.ao+2<16777216)(ac:N+2<=1000000)
  (hA:4+3*a<=B.A) (av:64*a+64<=B.C) (aw:a+1<=1000000) (a4:C.more.length<=800) (a5:C.ar.length<=800) (a6:C.conds.length<=800) (ax: ∀p∈C.conds,p.key.size<=1099511627776) (ay:0<=C.ct/\C.ct<128) (ak:0<=C.bW/\C.bW<=501) (a7: -4611686018427387904<=C.now/\C.now<=4611686018427387904)
  (az:y.f C.ao=0->R (J6 J9 170) h)
  (aA: ∀b c d j,y.di d->(BB C b c).err≠0->LW B g j s a (N+2) sh (l.set i d) mp O->Mod (bo g O) h j->R (J6 J9 (BB C b c).err) j)
  (aC: ∀b c d j,y.di d->(BB C b c).err=0->Bf mp (FZ C.ao (y.f C.ao) y.name)=false->LW B g j s a (N+2) sh (l.set i (d.lost C.ao)) mp O->Mod (bo g O) h j->R (J6 J9 170) j)
  (aE: ∀b c d j,y.di d->(BB C b c).err=0->Bf mp (FZ C.ao (y.f C.ao) y.name)=true->dw mp (FZ C.ao (y.f C.ao) y.name::(C.conds++ [bC C])) (EA (BB C b c)++(BB C b c).ar)≠0->LW B g j s a (N+2) sh (l.set i d) mp O->Mod (bo g O) h j->R (J6 J9 (dw mp (FZ C.ao (y.f C.ao) y.name::(C.conds++ [bC C])) (EA (BB C b c)++(BB C b c).ar))) j)
  (aF: ∀b c d j,y.di d->(EH C=true->y.f C.ao≠0->dS y d C.ao b)->(BB C b c).err=0->Bf mp (FZ C.ao (y.f C.ao) y.name)=true->dw mp (FZ C.ao (y.f C.ao) y.name::(C.conds++ [bC C])) (EA (BB C b c)++(BB C b c).ar)=0->LW B g j s (a+1) (N+2) sh (l.set i d) (cz mp (EA (BB C b c)++(BB C b c).ar)) O->Mod (bo g O) h j->R (J6 J9 0) j):
  AA A P Dl #[Ar cb] h R:=by
 refine Qx ?_;unfold Kg;have M:64*a<=B.C:=by omega
 refine aD (AY.mk (o.bE.ptr o.hp) (aD (AC.mk (Cj o.bE.ah rfl) (o.w.holds o.at ⟨_,rfl,af.intro (λf=>az (by simpa using f)) λf=>?_⟩))));have aG:y.f C.ao≠0:=by simpa using f
 refine ai.mk λK aH=>?_
 have ad: ∀(q:aa) (H:Nat->Nat) (I:eF) (d:Hs) (b c:Nat),CW B g q s a (N+2) sh l i d mp O cb H I (BB C b c)->y.di d->((BB C b c).err=0->EH C=true->y.f C.ao≠0->dS y d C.ao b)->Mod (bo g O) h q->K () q:=λq H I d b c J k W D=>by
  have G:=UV Z V b c;have ae:d.f (BB C b c).ao=y.f C.ao:=by rw[k.f,G.ao]
  have ag:FZ (BB C b c).ao (d.f (BB C b c).ao) d.name=FZ C.ao (y.f C.ao) y.name:=by rw[ae,G.ao,k.name]
  have al:bC (BB C b c)=bC C:=by unfold bC;rw[G.bW,G.ct,G.kept,G.wid]
  refine aH _ _ (ARJ au J (by rw[G.wid];exact L) G.ok (by rw[G.ao];exact ab) (by rw[ae];exact r) hA av aw (by have:=G.more;omega) (by have:=G.ar;omega) (by rw[G.conds];omega) (by rw[G.conds];exact ax) (by rw[G.ct];exact ay) (by rw[G.bW];exact ak) G.st.st G.st.next
   (λn j u E=>aA b c d j k n u (D.trans E)) (λ_ aI=>absurd (by rw[<- ae];exact aI) aG) (λn _ w j u E=>?_) (λn _ w hd j u E=>?_) λn _ w hd j u E=>?_)
  ·rw[ag] at w;rw[G.ao] at u;exact aC b c d j k n w u (D.trans E)
  ·rw[ag] at w hd ⊢;rw[al,G.conds] at hd ⊢;exact aE b c d j k n w hd u (D.trans E)
  ·rw[ag] at w hd;rw[al,G.conds] at hd;exact aF b c d j k (W n) n w hd u (D.trans E)
 have am:=o.bE.more.len;have aJ:y.di y:=⟨rfl,rfl,rfl,λm=>by omega⟩;refine aD (AZ.mk (s:=x.more) (Ce o.bE.ah rfl) (af.intro (λf=>?_) (λf=>?_)));rotate_left
 ·have f:C.more= []:=by simp at f;exact CH (by omega)
  have aK:EH C=false:=by unfold EH;rw[f];rfl
  refine ad h z x y 0 0 ?_ aJ (λ_ h=>by rw[aK] at h;cases h) Mod.refl;have aL:Ed C 0=C:=by unfold Ed EH;rw[f];rfl
  have:BB C 0 0=C:=by unfold BB;rw[aL,if_neg λh=>h.1 f]
  rw[this];exact o.put (by omega) ac M
 have an:C.more≠ []:=λh=>by rw[h] at am;simp[am] at f
 refine ai.mk λaM aN=>?_
 have ao: ∀(q:aa) (H:Nat->Nat) (I:eF) (d:Hs) (b:Nat),CW B g q s a (N+1) sh l i d mp O cb H I (Ed C b)->y.dk d->((Ed C b).err=0->EH C=true->y.f C.ao≠0->dS y d C.ao b)->Mod (bo g O) h q->aM () q:=λq H I d b J k W D=>by
  have G:=uf Z V b;refine aN _ _ (aD (AC.mk (Cj J.bE.ah rfl) (af.intro (λf=>?_) (λf=>?_))))
  ·have f:(Ed C b).st.status≠0:=by simpa using f
   refine aD (AC.mk (Ce J.bE.ah rfl) ?_);rw[G.now,wrap_i64 (by omega) (by omega)];refine qd (t:=⟨7,⟨#[]⟩,0,0⟩) J (by rw[G.ao];exact ab) (by rw[k.f,G.ao];exact r) (by rw[G.ao];have:=k.u C.ao;omega) ac M (by have:=G.ar;omega) (by omega) λj ap aq aO c X Q a8 aP=>⟨rfl,?_⟩
   refine ad j ap aq aO b c ?_ ⟨Q.p.trans k.p,Q.name.trans k.name,Q.f.trans k.f,λm=>by have:=k.u m;have:=Q.u m;omega⟩ (λn L r=>by
    obtain⟨v,v1,v2,aQ⟩:=W (VP n) L r;exact⟨v,v1,by have:=Q.u C.ao;omega,aQ⟩) (D.trans aP)
   have e:BB C b c=Du (Ed C b) ⟨7,0,0⟩ (ue C) c:=by unfold BB;rw[if_pos ⟨an,f⟩]
   rw[e];exact X
  ·have f:(Ed C b).st.status=0:=by simpa using f
   refine ad q H I d b 0 ?_ ⟨k.p,k.name,k.f,λm=>by have:=k.u m;omega⟩ (λn L r=>W (VP n) L r) D;have e:BB C b 0=Ed C b:=by unfold BB;rw[if_neg λh=>h.2 f]
   rw[e];exact J.put (by omega) ac M
 refine ai.mk λaR aS=>?_
 have S: ∀ah:Bool,ah=EH C->aR (ah,()) h:=λah ar=>by
  refine aS _ _ (af.intro (λf=>?_) (λf=>?_))
  ·have f:EH C=true:=by rw[<- ar];exact f
   refine ZF (e:=QQ) o V (by omega) (by show 0<1099511627776;decide) (by omega) λak ap aq X aT=>⟨rfl,?_⟩
   have G:=MF (Wy Z V) (e:=QQ) (by show 0<1099511627776;decide);have nx:=G.st.next;refine uc X G.st.next ⟨_,rfl,?_⟩;refine ARy (t:=⟨1,⟨#[]⟩,Sa (Dn C QQ),0⟩) X (by rw[G.ao];exact ab) (by rw[G.ao];exact r) (by rw[G.ao];omega) (by omega) M (by have:=G.ar;omega) λaU aV aW aX b aY aZ a0 a1=>⟨rfl,?_⟩
   have e:Ed C b=Du (Dn C QQ) ⟨1,Sa (Dn C QQ),0⟩ (-1) b:=by unfold Ed;rw[if_pos f]
   refine ao aU aV aW aX b ?_ aZ (λn _ r=>by rw[e] at n;have:=a0 n;rw[G.ao] at this;exact this r) (aT.trans a1);rw[e];exact aY
  ·have f:EH C=false:=by rw[<- ar];exact f
   refine ao h z x y 0 ?_ (Hs.dk.refl y) (λ_ h=>by rw[f] at h;cases h) Mod.refl;have e:Ed C 0=C:=by unfold Ed;rw[if_neg (by simp[f])]
   rw[e];exact o.put (by omega) (by omega) M
 have Y:=o.bE;unfold EH at S;refine aD (AC.mk (Cj Y.ah rfl) (af.intro (λT=>?_) (λT=>S _ (by simp at T;simp[T]))));refine aD (Ac.mk (Cj Y.ah rfl) (af.intro (λF=>?_) (λF=>S _ (by have F:C.st.fresh=false:=F;simp[F]))));have F:C.st.fresh=true:=F;refine aD (AC.mk (Cj Y.ah rfl) (af.intro (λU=>?_) (λU=>S _ (by simp at U;simp[U]))));refine aD (AC.mk (Cj Y.ah rfl) (S _ ?_));simp at T U;simp[an,T,F,U];rfl
end
abbrev Zf:Sl:=⟨none,0,0⟩
def nv(wid:A2Q)(b:Nat):Option (List Ev)->bS×Int
 |none=>(⟨wid,b,⟨0,0,false⟩,Zf,bG.z⟩,180)
 |some l=>(⟨wid,b,⟨(Bw l).status,(Bw l).next,false⟩,Zf,bG.z⟩,0)
def dR(b st nx:Int):bj:=⟨b,st,nx,⟨0,⟨#[]⟩,0,0⟩,⟨#[]⟩,Zf⟩
theorem ZY(x y:bS):gw y.c 0 x.l=x.c:=rfl
theorem Ky(x y:bj):gw y.c 0 x.l=x.c:=rfl
theorem OX {h:aa}{b:Nat}{T:Q7}{fr:Nat×Nat}{x:bS}(c:h[b]? =some (J2 x.c T fr)):Cells h ⟨b,0,none⟩ x.l:=Cr c rfl
theorem Kj {h:aa}{b:Nat}{T:Q7}{fr:Nat×Nat}{x:bj}(c:h[b]? =some (J2 x.c T fr)):Cells h ⟨b,0,none⟩ x.l:=Cr c rfl
theorem nw {h:aa}{b:Nat}{T:Q7}{x y:bS}{K:bS->aa->Prop}(f:h[b]? =some (J2 y.c T (0,0)))(j: ∀c,Mod (· =b) h c->K x c):
  aE h ⟨b,0,none⟩ x.l λd=>F7 d ⟨b,0,none⟩ λk=>K k d:=
 aE.mk f (A0 18) λc e m s=>F7.mk x (OX (by rw[ZY] at e;exact e)) (j c m)
theorem Zy {h:aa}{b:Nat}{T:Q7}{x y:bj}{K:bj->aa->Prop}(f:h[b]? =some (J2 y.c T (0,0)))(j: ∀c,Mod (· =b) h c->K x c):
  aE h ⟨b,0,none⟩ x.l λd=>Dr d ⟨b,0,none⟩ λk=>K k d:=
 aE.mk f (A0 9) λc e m s=>Dr.mk x (Kj (by rw[Ky] at e;exact e)) (j c m)
theorem U0 {b:Ev}(h:Ej b=true):b.data.size<=2000:=by
 obtain⟨t,u,v,f,j⟩:=Rb h;by_cases k:b.kind=1
 ·obtain⟨p,m,ok⟩:=f k;have:=(wo m).2;have e:=congrArg List.length this;rw[A7] at e;rw[<- e];simp only[F4,A4,decide_eq_true_eq] at ok;obtain⟨⟨w,o⟩,q⟩:=ok;have x:=Bb.1 o;have:=PV q;have z:=AV (n:=p.az.toNat) (by omega);have C:=AV (n:=p.steps.length) (by omega);unfold Ci;simp only[A1];omega
 ·by_cases r:b.kind=12
  ·have:=FE (j r);omega
  ·have d:=MB h;unfold Ee at d;simp only[A4,DB,decide_eq_true_eq] at d;rcases d.2 with c|c
   ·rw[c];decide
   ·unfold eg at c;simp at c;omega
section
variable {A : aq} {B : cH} {g h : aa} {s a N sh : Nat} {l : List Hs} {mp : List Pr} {O : Nat -> Prop} {i : Nat} {y : Hs} {fl : cu} {an : cK} {R : A2P}
theorem LW.get {key:A2Q}(c:LW B g h s a N sh l mp O)(d:key.size<=1099511627776)(e: ∀b,Ext h b->R (J1 #[J7 (Iu mp key).1,J3 (Iu mp key).2,J6 J9 0]) b):AA A P FP #[Ar s,J7 key] h R:=by obtain⟨j,k,st,m,n,nn,f,o,rfl,p,q,out⟩:=c;exact rM f d e
theorem LW.scan {p f:A2Q}{d:Int}(e:LW B g h s a N sh l mp O)(j:p.size<=1099511627776)(k: ∀sl b,Own BR AR b sl (jj mp p f d)->(∀ c,sl.ah=some c->h.size<=c)->Ext h b->R (J1 #[J4 sl.p sl.len sl.cap,J6 J9 0]) b):AA A P Fj #[Ar s,J7 p,J7 f,J6 J9 d] h R:=by obtain⟨o,q,st,m,r,nn,n,t,rfl,u,v,out⟩:=e;exact AOp n j k
theorem LW.eG(d:LW B g h s a N sh l mp O)(b:l[i]? =some y):h[y.p]? =some (J2 #[Ar s,J7 y.name,J6 J9 (sh:Int),.map (some y.bh),.map (some y.bu)] Rh (0,0))/\1<=sh/\sh<=16:=by obtain⟨e,f,st,m,j,nn,k,n,o,c,p,out⟩:=d;exact⟨(c.host i y b).cell,(c.host i y b).sh⟩
theorem LW.store(b:LW B g h s a N sh l mp O)(c:l[i]? =some y)(d:R (Ar s) h):AA A P EK #[Ar y.p] h R:=by refine VY ?_;unfold PH;exact af.no rfl (aD (AY.mk (AO (b.eG c).1 rfl) d))
theorem LW.aH(b:LW B g h s a N sh l mp O)(c:l[i]? =some y)(d:R (J6 J9 (sh:Int)) h):AA A P Fa #[Ar y.p] h R:=by refine Ul ?_;unfold NY;exact af.no rfl (aD (AC.mk (AB (b.eG c).1 rfl) d))
theorem Jg.eU(b:Jg mp fl an){wid:A2Q}(c:Ak wid=true):Iu mp (KZ wid)=match fl wid with|none=>(⟨#[]⟩,false)|some l=>(QS (Bw l).status.toNat (Bw l).next.toNat false,true):=by unfold Iu;rw[b.fS wid c];cases fl wid<;>rfl
theorem Jg.fJ(c:Jg mp fl an){b:A2Q}(d:Ak b=true):Iu mp (Kb b)=match an b with|none=>(⟨#[]⟩,false)|some x=>(iN x.1 x.2.1.toNat x.2.2.toNat,true):=by unfold Iu;rw[c.kF b d];cases an b<;>rfl
theorem sP {wid:A2Q}(v:LW B g h s a N sh l mp O)(o:l[i]? =some y)(w:Jg mp fl an)
  (F:Ak wid=false-> ∀f,Ext h f->R (J1 #[bS.z.v,J6 J9 1]) f)
  (G:Ak wid=true-> ∀f,Ext h f->R (J1 #[(nv wid (Ap wid sh) (fl wid)).1.v,J6 J9 (nv wid (Ap wid sh) (fl wid)).2]) f):
  AA A P MW #[Ar y.p,J7 wid] h R:=by
 obtain⟨-,H,I⟩:=v.eG o;refine AB2 ?_;unfold Vt;refine al.mk λJ _ z p Y=>ai.mk λK L=>af.no rfl (FL ⟨_,rfl,L _ _ ?_⟩)
 cases m:Ak wid with
 |false=>exact af.yes rfl (nw z λb M=>F m b (p.more M λc j=>by subst j;exact A0 _))
 |true=>
  have Z:=FE m;have q:=v.on p;have fin: ∀ {b d:aa} {x:bS} {r:Int},Ext J b->Mod (· =h.size) b d->(x,r)=nv wid (Ap wid sh) (fl wid)->R (J1 #[x.v,J6 J9 r]) d:=λ{b d x r} k t Q=>by
   have:=G m d ((p.trans k).more t λc j=>by subst j;exact A0 _);rw[<- Q] at this;exact this
  refine af.no rfl (q.aH o ⟨_,rfl,OG (by omega) H I ⟨_,_,rfl,af.no rfl (q.store o ⟨_,rfl,nB (by omega) ⟨_,rfl,?_⟩⟩)⟩⟩);refine q.get (by rw[Ro];omega) λb k=>?_
  rw[w.eU m];have C:=k.ah z λh=>h
  cases u:fl wid with
  |none=>
   refine⟨_,_,_,rfl,af.no rfl (af.yes rfl (nw C λd t=>?_))⟩;exact fin k t (by rw[u];rfl)
  |some e=>
   have n:=w.dG wid e u;have nx:=n.next.1;have ab:=n.len;have st:=n.st;have ac:1<=e.length:=List.length_pos_iff.2 n.ne;refine⟨_,_,_,rfl,af.no rfl (af.no rfl (AKd (by omega) (by omega) (by omega) λd D=>oz.mk _ ⟨_,rfl,?_⟩))⟩;refine al.mk λad _ S T ae=>aE.mk S (A0 3) λU V W ag=>?_
   have E:Ext b U:=(D.trans T).more W λc j=>by subst j;exact D.size
   refine OV.mk _ (Cr V rfl) (nw (E.ah C λh=>h) λah X=>?_);refine fin (k.trans E) X ?_;rw[u];unfold nv;rw[show(((Bw e).status.toNat:Nat):Int)=(Bw e).status from by omega,show(((Bw e).next.toNat:Nat):Int)=(Bw e).next from by omega]
theorem AIE {e:A2Q}(M:LW B g h s a N sh l mp O)(Q:l[i]? =some y)(z:Jg mp fl an)(C:Ak e=true)
  (D: ∀E,Ext h E->R (match an e with|none=>J1 #[J7 ⟨#[]⟩,bj.z.v,J3 false,J6 J9 0]|some x=>J1 #[J7 (AX x.1),(dR 0 x.2.1 x.2.2).v,J3 true,J6 J9 0]) E):AA A P LA #[Ar y.p,J7 e] h R:=by
 have ag:=FE C;refine Wz ?_;unfold Pm;refine al.mk λah _ S f aj=>?_
 have F:=M.on f;refine F.store Q ⟨_,rfl,tY (by omega) ⟨_,rfl,F.get (by rw[VN];omega) λj k=>?_⟩⟩;rw[z.fJ C];have m:=k.ah S λh=>h
 cases o:an e with
 |none=>
  refine⟨_,_,_,rfl,ai.mk λK p=>af.no rfl (p _ _ (af.yes rfl (Zy m λG T=>?_)))⟩;have:=D G ((f.trans k).more T λc d=>by subst d;exact A0 _);rw[o] at this;exact this
 |some x=>
  obtain⟨⟨ak,am⟩,⟨ao,ap⟩,aq⟩:=z.kG e x o;refine⟨_,_,_,rfl,ai.mk λK p=>af.no rfl (p _ _ (af.no rfl ?_))⟩;unfold iN;have ar:=Fe (n:=x.2.1.toNat) (by omega);have au:=Fe (n:=x.2.2.toNat) (by omega);have av:=AV (n:=x.1.length) (by omega);have aw:(BU x.1).length<=2010:=by unfold BU;rw[A1];omega
  refine Jp λG H q=>⟨_,rfl,G7 H (by simp only[A1];omega) λax U r=>⟨_,rfl,?_⟩⟩
  rw[IR (by omega)] at*
  refine DN (most:=4) U (by simp only[A1];omega) (by decide) λay V t=>⟨_,rfl,?_⟩
  rw[CP (by omega) (by omega)] at*
  have W:CQ 501 ⟨Bd x.2.2.toNat,false⟩=(x.2.2.toNat,⟨[],false⟩):=by have:=CP (n:=x.2.2.toNat) (most:=501) (by omega) (by omega) [];rwa [AK] at this
  refine DN (most:=501) V (by simp only;omega) (by decide) λX Y u=>⟨_,rfl,?_⟩
  rw[W] at*
  refine al.mk λaz _ Z v aA=>aE.mk Z (A0 9) λI J w aC=>?_
  have aD:=q.size;have aF:=r.size;have aG:=t.size;have aH:=u.size;have aI:=Ah m;have aa:Ia I j.size ⟨[],false⟩:=w.ah (v.ah Y λh=>h) (by have:=Ah H;omega);refine MQ aa ⟨_,rfl,af.no rfl ?_⟩;rw[Ky] at J;have ab:=w.ah (v.ah (u.ah (t.ah (r.ah (q.ah m λh=>h) (by omega)) (by omega)) (by omega)) λh=>h) (b:=h.size) (by omega);refine Dr.mk _ (Kj J) (Zy ab λac ad=>?_);have L:Ext j X:=q.more ((r.trans t).trans u) λc d=>by subst d;exact A0 _
  have ae:Ext j I:=(L.trans v).more w λc d=>by subst d;exact L.size
  have:=D ac (((f.trans k).trans ae).more ad λc d=>by subst d;exact A0 _);rw[o] at this;rw[show((x.2.1.toNat:Nat):Int)=x.2.1 from by omega,show((x.2.2.toNat:Nat):Int)=x.2.2 from by omega];exact this
end
theorem AKv {wid:A2Q}{l:List Ev}{b i:Nat}{p:Pr}(h:(((Sk wid l).drop b).take 32)[i]? =some p): ∃c,l[b+i]? =some c/\p=Oo wid c:=by
 rw[F2] at h;split at h
 ·rw[C5] at h;exact Q4 h
 ·cases h
theorem JI.fresh {h j:aa}{k:Nat->Prop}{s:bd}{a b c:Sl}{n:Nat}(o:JI h s a b c)(m:Mod k h j)(fr: ∀x,a.ah=some x\/b.ah=some x\/c.ah=some x->n<=x)(f: ∀c,k c->c<n):JI j s a b c:=
 o.mod m (λx d e=>by have:=fr x (.inl d);have:=f x e;omega) (λx d e=>by have:=fr x (.inr (.inl d));have:=f x e;omega) (λx d e=>by have:=fr x (.inr (.inr d));have:=f x e;omega)
section
variable {A : aq} {B : cH} {g h : aa} {s a N sh : Nat} {l : List Hs} {mp : List Pr} {O : Nat -> Prop} {i : Nat} {y : Hs} {fl : cu} {an : cK} {R : A2P}
theorem sQ {wid:A2Q}{d:List Ev}{aX:J0}(ah:LW B g h s a N sh l mp O)(v:l[i]? =some y)(aj:Jg mp fl an)(ak:Ak wid=true)(am:fl wid=some d)
  (aY: ∀U e w z C,Ext h U->View dU U e d->JI U (Bw d) w z C->(∀ x,w.ah=some x\/z.ah=some x\/C.ah=some x->h.size<=x)->(∀ x,e.ah=some x->h.size<=x)->(∀ x y,e.ah=some x->w.ah=some y\/z.ah=some y\/C.ah=some y->x<y)->
   R (J1 #[(⟨wid,(Ap wid sh:Int),⟨(Bw d).status,(Bw d).next,false⟩,e,(Bw d).V w z C⟩:bS).v,J6 J9 0]) U):AA A P IU #[Ar y.p,aX,J7 wid] h R:=by
 have V:=aj.dG wid d am;obtain⟨nx,aC⟩:=V.next;have aZ:=V.len;have bL:1<=d.length:=List.length_pos_iff.2 V.ne;have a0:=FE ak;refine ACR ?_;unfold Vx;refine al.mk λW _ ao D bM=>?_
 refine sP (ah.on D) v aj (λh=>by rw[ak] at h;cases h) λ_ k aD=>?_
 rw[am];refine SS.mk _ ⟨_,rfl,al.mk λbN _ a1 a2 bO=>aE.mk a1 (A0 18) λX Q a3 bP=>af.no rfl ?_⟩;rw[ZY] at Q;have ap:Ext k X:=a2.more a3 λc f=>by subst f;exact A0 _
 have aF:Ext W X:=aD.trans ap;have bQ:=Ah ao;have a4:=aD.size;have bR:=ap.size;have bT:X[h.size]? =some (J2 bS.z.c Cv (0,0)):=aF.ah ao λh=>h
 let fv:Sl->bS:=λe=>⟨wid,(Ap wid sh:Int),⟨(Bw d).status,(Bw d).next,false⟩,e,bG.z⟩
 have Q:X[k.size]? =some (J2 (fv Zf).c Cv (0,0)):=Q;refine ai.mk λK a5=>Ac.mk (n:=false) (Cj Q rfl) (af.no rfl ?_)
 refine Loop.rule (λm x r=> ∃e:Sl,m=d.length-e.len/\e.len<=d.length/\Ext W r/\Ext k r/\r[k.size]? =some (J2 (fv e).c Cv (0,0))/\Own dU A9 r e (d.take e.len)/\(∀ b,e.ah=some b->k.size<b)) ?_
  ⟨Zf,rfl,As _,aF,ap,Q,Own.nil,λb j=>by simp[Sl.ah] at j⟩
 rintro bU m _ aq ⟨e,rfl,a6,S,aG,t,I,fr⟩ a7;refine AZ.mk (s:=e) (Ce t rfl) (AC.mk (n:=(Bw d).next) (Cj t rfl) ?_);rw[nx,wrap_i64 (by omega) (by omega)];have aH:LW B g aq s a N sh l mp O:=ah.on (D.trans S);refine af.intro (λF=>?_) (λF=>?_)
 ·have bV:e.len<d.length:=by simp at F;omega
  refine AZ.mk (s:=e) (Ce t rfl) (aH.store v ⟨_,rfl,Ce t rfl,tW (by omega) λaI Y=>⟨_,rfl,?_⟩⟩);have a8:=Y.ah t λh=>h
  refine⟨Ce a8 rfl,?_⟩;rw[Aa (by omega)];refine tX (by omega) (by omega) λa9 ar=>⟨_,rfl,?_⟩
  have au:=Y.trans ar;have ba:=aH.on au;refine ba.scan (by have:=ANH a0;omega) λps J av bb bc=>⟨_,_,rfl,af.no rfl ?_⟩
  rw[AP2 ah.sorted aj ak am a6] at av;have u:=au.trans bc;have aJ:=av.len;have bW:ps.len=min 32 (d.length-e.len):=by rw[aJ,AD,DE];unfold Sk;rw[AN]
  refine af.no (by simp;omega) ?_;have bd:=S.trans u;have be:=aG.trans u;refine Loop.rule (λm x r=> ∃(o:Nat) (q:Sl),x=((o:Int),())/\m=ps.len-o/\o<=ps.len/\q.len=e.len+o/\Ext W r/\Ext k r/\Mod (λc=>c=k.size\/e.ah=some c) J r/\r[k.size]? =some (J2 (fv q).c Cv (0,0))/\Own dU A9 r q (d.take q.len)/\(∀ b,q.ah=some b->k.size<b/\(e.ah=some b\/J.size<=b))) ?_
   ⟨0,e,rfl,rfl,As _,rfl,bd,be,Mod.refl,u.ah t λh=>h,I.ext u,λb j=>⟨fr b j,.inl j⟩⟩
  rintro bX m _ aw ⟨o,q,rfl,rfl,aK,bf,aL,aM,ax,L,aN,M⟩ bg;dsimp only;refine af.intro (λF=>?_) (λF=>?_)
  ·have Z:o<ps.len:=by simpa using F
   have bY:e.len+o<d.length:=by omega
   obtain⟨p,aO⟩: ∃p,(((Sk wid d).drop e.len).take 32)[o]? =some p:=⟨_,A2 (by rw[<- aJ];exact Z)⟩;obtain⟨G,aa,rfl⟩:=AKv aO;have ok:=(aC _ _ aa).2;have hd:=U0 ok;have bZ:=yz (MB ok) (by omega);have bh:View BR aw ps (((Sk wid d).drop e.len).take 32):=(av.view.mod ax λb j f=>by
    have:=bb b j;have:=au.size;have:=aG.size;have:=Ah t;rcases f with rfl|f
    ·omega
    ·have:=I.lt f;omega)
   refine bh.idx aO λb0 _ bi=>?_
   obtain⟨bj,bk,bm⟩:=bi.pair;refine AJ.mk bj (AJ.mk bk (Ac.mk bm (al.pair λb ab b1 bn aP b2=>AJ.mk (n:=AX (Nf G)) (AB bn rfl) ?_)));refine AKU (by omega) λb3 aQ=>?_
   rw[(AM0 (by omega)).2 ⟨ok,rfl⟩];refine ox.mk G ⟨_,rfl,al.mk λb4 _ bo bp b5=>aE.mk bo (A0 8) λbq aR br b6=>af.no rfl ?_⟩;rw[pL] at aR;have H:Ext aw bq:=((aP.trans aQ).trans bp).more br λc f=>by subst f;exact(aP.trans aQ).size
   refine AZ.mk (s:=q) (Ce (H.ah L λh=>h) rfl) (Np.mk G (QX aR) ?_);refine al.aY (E:=dU) (x:=G) (s:=q) rfl mD (aN.ext H) (by simp only[AD];omega) (by simp only[AD,maxLen];omega) λT b7 aS ac bs b8=>?_
   have b9:=Ah L;have ca:=H.size;have cb:=ax.size;have bt: ¬q.ah=some k.size:=λh=>by have:=(M _ h).1;omega
   refine ae.bL (dH:=(fv T).c) (ac.ah (H.ah L λh=>h) bt) (of_decide_eq_true rfl) rfl λcc bu ad cd=>?_
   rw[Aa (by omega)];have aT:T.len=e.len+(o+1):=by have:=aS.len;rw[A1,AD,Cd] at this;omega
   have ce:=D.size;have aU: ∀b,T.ah=some b->k.size<b/\(e.ah=some b\/J.size<=b):=λb j=>by
    rcases bs b j with h|h
    ·exact M b h
    ·exact⟨by omega,.inr (by omega)⟩
   have bv: ∀b,q.ah=some b->W.size<=b:=λb j=>by have:=(M b j).1;omega
   refine bg (ps.len-(o+1)) _ _ (by omega) ⟨o+1,T,rfl,rfl,Z,aT,((aL.trans H).more ac bv).more ad λc f=>by subst f;exact a4,((aM.trans H).more ac λb j=>by have:=(M b j).1;omega).more ad λc f=>by subst f;exact A0 _,?_,bu,?_,aU⟩
   ·refine(ax.trans H.mod).then ((ac.aj λc _ f=>?_).trans (ad.aj λc _ f=>?_))
    ·rcases(M c f).2 with h|h
     ·exact .inl (.inr h)
     ·exact .inr h
    ·exact .inl (.inl f)
   ·have bw:d.take T.len=d.take q.len++ [G]:=by rw[aT,bf,<-HK,Ax,aa];rfl
    rw[bw];exact aS.mod ad λb j f=>by have:=(aU b j).1;omega
  ·have Z:o=ps.len:=by simp at F;omega
   subst Z;exact a7 (d.length-q.len) _ _ (by omega) ⟨q,rfl,by omega,aL,aM,L,aN,λb j=>(M b j).1⟩
 ·have bx:e.len=d.length:=by simp at F;omega
  rw[bx,BE] at I;refine a5 () aq (AZ.mk (s:=e) (Ce t rfl) ?_);refine u0 I.view aZ (λG aa=>by
   obtain⟨o,aK⟩:=F0 aa;have:=U0 (aC o G aK).2;omega) V.ok λaI w z C Y bz ay=>Gl.mk _ ⟨_,_,rfl,?_⟩
  refine al.mk λa9 _ bA ar cf=>aE.mk bA (A0 12) λJ ag bB cg=>?_
  rw[PD] at ag;have aV:Ext aI J:=ar.more bB λc f=>by subst f;exact A0 _
  have u:=Y.trans aV;have az:=u.ah t λh=>h
  have bC:=u.ah ((S.ah ao λh=>h)) λh=>h
  refine ai.mk λch bD=>af.no rfl (AC.mk (n:=(Bw d).next) (AB ag rfl) (AC.mk (n:=(Bw d).next) (Cj az rfl) ?_))
  refine af.no (by simp) (AC.mk (n:=(Bw d).status) (AB ag rfl) (AC.mk (n:=(Bw d).status) (Ce az rfl) (bD _ _ (af.no (by simp) ?_))));have bE:=bz.ext aV;have ci:=Ah t;have cj:=S.size;have ck:=u.size;refine A8.mk _ (FB ag) ?_;have bF:(⟨k.size,0,none⟩:Q6).add 6=⟨k.size,6,none⟩:=rfl;rw[bF];refine aE.mk az (of_decide_eq_true rfl) λaw L aW cl=>?_
  refine F7.mk ⟨wid,(Ap wid sh:Int),⟨(Bw d).status,(Bw d).next,false⟩,e,(Bw d).V w z C⟩ (OX (by exact L)) (nw (aW.ah bC (by omega)) λab bH=>?_);have aA:Mod (λc=>c=k.size\/c=h.size) J ab:=(aW.aj λc _ f=> .inl f).trans (bH.aj λc _ f=> .inr f);have bI:=bE.fresh (n:=aq.size) aA ay λc f=>by omega
  have bJ:View dU ab e d:=(I.view.ext u).mod aA λb j f=>by have:=fr b j;omega
  refine aY ab e w z C ((D.trans (S.trans u)).more aA λc f=>by have:=D.size;omega) bJ bI (λx v=>by have:=ay x v;have:=D.size;omega) (λx v=>by have:=fr x v;have:=D.size;omega) λx y v bK=>Fk (I.lt v) (ay y bK)
theorem sR {wid:A2Q}{b:List Ev}{k:J0}(m:LW B g h s a N sh l mp O)(n:l[i]? =some y)(o:Jg mp fl an)(p:Ak wid=true)(q:fl wid=some b)
  (r: ∀c d e f j,Ext h c->View dU c d b->JI c (Bw b) e f j->(∀ x,e.ah=some x\/f.ah=some x\/j.ah=some x->h.size<=x)->(∀ x,d.ah=some x->h.size<=x)->
   R (J1 #[(⟨wid,(Ap wid sh:Int),⟨(Bw b).status,(Bw b).next,false⟩,d,(Bw b).V e f j⟩:bS).v,J6 J9 0]) c):AA A P IU #[Ar y.p,k,J7 wid] h R:=
 sQ m n o p q λc d e f j t V u v w _=>r c d e f j t V u v w
end
theorem OQ {k v:A2Q}(a:k≠⟨#[]⟩)(b:k.size<=64)(c:v.size<=8192):Ai ⟨k,v,false⟩=0:=by unfold Ai;rw[if_neg (by simp[a]),if_neg (by simp;omega)]
theorem sS {k:A2Q}(a:k≠⟨#[]⟩)(b:k.size<=64):Ai ⟨k,⟨#[]⟩,true⟩=0:=by have z:(⟨#[]⟩:A2Q).size=0:=rfl;unfold Ai;rw[if_neg (by simp[a]),if_neg (by simp;omega)]
theorem PW {a:A2Q}(b:0<a.size):a≠⟨#[]⟩:=λc=>by rw[c] at b;cases b
theorem sT: ∀ {l:List Pr},(∀ p∈l,Ai p=0)->GG l=0
 | [],_=>rfl
 |x::l,a=>by
  unfold GG;rw[if_neg (by rw[a x (by simp)];decide)];exact sT λp b=>a p (by simp[b])
theorem pG {l:List Pr}(a:l≠ [])(c:l.length<=64)(b: ∀p∈l,Ai p=0):EY l=0:=by unfold EY;rw[if_neg (by rw[TO];exact a),if_neg (by omega)];exact sT b
theorem AQl {wid:A2Q}{a:Ev}(c:Ak wid=true)(b:Ej a=true):Ai (Oo wid a)=0:=by
 have d:=FE c;have e:=APG d a.id.toNat;have hd:=U0 b;have f:=yz (MB b) (by omega);refine OQ (PW ?_) (by omega) ?_
 ·unfold eo;rw[AP];unfold kY;simp
 ·rw[AP];omega
theorem AQM {wid:A2Q}{st nx:Nat}{a:Bool}(b:Ak wid=true)(c:st<128)(d:nx<=501):Ai ⟨KZ wid,QS st nx a,false⟩=0:=by have e:=FE b;have:=AKS (kept:=a) c d;exact OQ (PW (by rw[Ro];omega)) (by rw[Ro];omega) (by omega)
theorem AR1 {a:A2Q}{x:List UInt8×Int×Int}(b:Ak a=true)(c:0<=x.2.1/\x.2.1<=4)(d:0<=x.2.2/\x.2.2<=501)(e:x.1.length<=2000):Ai (YU a x)=0:=by have f:=FE b;have g:=Fe (n:=x.2.1.toNat) (by omega);have h:=Fe (n:=x.2.2.toNat) (by omega);have i:=AV (n:=x.1.length) (by omega);refine OQ (PW (by rw[VN];omega)) (by rw[VN];omega) ?_;unfold iN BU;rw[AP];simp only[A1];omega
theorem Xa {t:fO}{wid:A2Q}{sh num:Nat}{tick:Int}(a:Gx t wid=true):Ai ⟨MC sh tick num,gi t wid,false⟩=0/\(BL (MC sh tick num)≠104/\BL (MC sh tick num)≠119/\BL (MC sh tick num)≠114)/\BL (MC sh tick num)≠108:=by
 unfold Gx at a;simp only[A4,Bb] at a;obtain⟨⟨⟨⟨c,d⟩,b⟩,e,f⟩,g,h⟩:=a;have:=xF (kind:=t.kind.toNat) (wid:=wid) (ref:=t.ref.toNat) (turn:=t.turn.toNat) (by omega) (FE b) (by omega) (by omega);unfold MC gi;split
 ·rw[R4];exact⟨OQ (PW (by rw[Mr];omega)) (by rw[Mr];omega) (by omega),⟨by decide,by decide,by decide⟩,by decide⟩
 ·rw[xE];exact⟨OQ (PW (by rw[xy];omega)) (by rw[xy];omega) (by omega),⟨by decide,by decide,by decide⟩,by decide⟩
end Go.Lf.G
namespace Go.Lf
open G
open Go
open M (Sorted Af CY BA Ag Au BV Ai bB BH aP BF)
def br.fits(a:br)(b:List Ev):Prop:=El Sy (b++a.more)=some a.st
end Go.Lf
namespace Go.Lf.G
open Go
open M (Sorted Af CY BA Ag Au BV Ai bB BH aP BF)
theorem PI {a:br}{c:List Ev}{d:Ev}(b:a.fits c):(Dn a d).fits c:=by
 unfold Dn;split
 ·exact b
 ·split
  ·exact b
  ·split
   ·exact b
   ·rename_i e;have e:(Bp a.st (Cq a d)).1=0:=by simpa using e
    show El Sy (c++(a.more++ [Cq a d]))=_;rw[<- A3];exact AIM b e
theorem Uv {a:br}{c:List Ev}{t:fO}{tick:Int}{b:Nat}(d:a.fits c):(Du a t tick b).fits c:=by unfold br.fits;rw[(Gy a t tick b).1,(Gy a t tick b).2];exact d
theorem sU {a:br}{b:List Ev}{c f:Nat}(d:a.fits b):(BB a c f).fits b:=by
 have e:(Ed a c).fits b:=by
  unfold Ed;split
  ·exact Uv (PI d)
  ·exact d
 unfold BB;split
 ·exact Uv e
 ·exact e
abbrev j5:=Option (A2Q×(List UInt8×Int×Int))
end Go.Lf.G
namespace Go.Lf
open G
open Go
open M (Sorted Af CY BA Ag Au BV Ai bB BH aP BF)
structure br.beside (C:br) (o:j5):Prop where
 ok: ∀p∈C.ar,Ai p=0
 fw: ∀p∈C.ar,(BL p.key≠104/\BL p.key≠119/\BL p.key≠114)\/ ∃r x,o=some (r,x)/\p=YU r x
 ll: ∀p∈C.ar,BL p.key≠108
end Go.Lf
namespace Go.Lf.G
open Go
open M (Sorted Af CY BA Ag Au BV Ai bB BH aP BF)
theorem MG {a:br}{c:j5}(b:a.beside c)(d:Ev):(Dn a d).beside c:=by have:=(OL a d).2.2.2.2.2.1;exact⟨by rw[this];exact b.ok,by rw[this];exact b.fw,by rw[this];exact b.ll⟩
theorem UR {d:br}{f:j5}(a:d.beside f)(t:fO)(tick:Int)(g:Nat):(Du d t tick g).beside f:=by
 unfold Du;split
 ·exact a
 ·split
  ·exact⟨a.ok,a.fw,a.ll⟩
  ·rename_i c;have c:Gx t d.wid=true:=by simpa using c
   refine⟨λp e=>?_,λp e=>?_,λp e=>?_⟩<;>rcases List.mem_append.1 e with b|b
   ·exact a.ok p b
   ·rw[List.mem_singleton.1 b];exact(Xa c).1
   ·exact a.fw p b
   ·rw[List.mem_singleton.1 b];exact .inl (Xa c).2.1
   ·exact a.ll p b
   ·rw[List.mem_singleton.1 b];exact(Xa c).2.2
theorem YF {a:br}{b:j5}(c:a.beside b)(d f:Nat):(BB a d f).beside b:=by
 have e:(Ed a d).beside b:=by
  unfold Ed;split
  ·exact UR (MG c _) _ _ _
  ·exact c
 unfold BB;split
 ·exact UR e _ _ _
 ·exact e
theorem AIZ {e:br}{c:A2Q}{x:List UInt8×Int×Int}(a:e.beside none)(f:Ak c=true)(g:0<=x.2.1/\x.2.1<=4)(h:0<=x.2.2/\x.2.2<=501)(i:x.1.length<=2000):(oh e (Kb c) (iN x.1 x.2.1.toNat x.2.2.toNat)).beside (some (c,x)):=by
 refine⟨λp d=>?_,λp d=>?_,λp d=>?_⟩<;>rcases List.mem_append.1 d with b|b
 ·exact a.ok p b
 ·rw[List.mem_singleton.1 b];exact AR1 f g h i
 ·rcases a.fw p b with a|⟨j,k,a,_⟩
  ·exact .inl a
  ·cases a
 ·exact .inr ⟨c,x,rfl,List.mem_singleton.1 b⟩
 ·exact a.ll p b
 ·rw[List.mem_singleton.1 b];show BL (Kb c)≠108;rw[LG];decide
theorem sV(a:br)(b:Ev):(Dn a b).ar=a.ar:=(OL a b).2.2.2.2.2.1
theorem sW {b:br}{p:Pr}(a:p∈b.ar)(t:fO)(tick:Int)(c:Nat):p∈(Du b t tick c).ar:=by
 unfold Du;split
 ·exact a
 ·split
  ·exact a
  ·exact Hc _ a
theorem AMd {a:br}{p:Pr}(b:p∈a.ar)(c e:Nat):p∈(BB a c e).ar:=by
 have d:p∈(Ed a c).ar:=by
  unfold Ed;split
  ·exact sW (by rw[sV];exact b) _ _ _
  ·exact b
 unfold BB;split
 ·exact sW d _ _ _
 ·exact d
theorem Jg.note {o b:List Pr}{v:cu}{k:cK}{j:j5}(g:Jg o v k)(s:Sorted o)(l:fG b j):Jg (cz o b) v (pF k j):=by
 have w: ∀p∈b,BL p.key≠104/\BL p.key≠119:=λp A=>by
  rcases l.fw p A with m|⟨a,x,_,rfl⟩
  ·exact⟨m.1,m.2.1⟩
  ·exact⟨by show BL (Kb a)≠104;rw[LG];decide,by show BL (Kb a)≠119;rw[LG];decide⟩
 refine⟨λn q B y=>?_,λn q=>?_,λa z=>?_,g.dG,λa x f=>?_⟩
 ·rw[KG s λc e d=>(w c e).1 (by rw[d];exact qZ y)];exact g.cI n q B y
 ·rw[KG s λc e d=>(w c e).2 (by rw[d];exact GI n)];exact g.fS n q
 ·have no: ∀c∈b,c.key=Kb a-> ∃x,j=some (a,x)/\c=YU a x:=λc e d=>by
   have C:=(congrArg BL d).trans (LG a);rcases l.fw c e with m|⟨h,x,D,rfl⟩
   ·exact absurd C m.2.2
   ·have:h=a:=xD d;subst this;exact⟨x,D,rfl⟩
  cases j with
  |none=>
   rw[KG s λc e d=>?_,g.kF a z]
   ·rfl
   ·obtain⟨x,f,_⟩:=no c e d;cases f
  |some r=>
   obtain⟨h,x⟩:=r;show _=(du k h x a).map (YU a);by_cases i:a=h
   ·subst i;rw[Jr];refine(nq (p:=YU a x) s (l.has a x rfl).1 λc e d=>?_).trans rfl;obtain⟨t,u,rfl⟩:=no c e d;cases u;rfl
   ·rw[NI i,KG s λc e d=>?_,g.kF a z];obtain⟨t,u,_⟩:=no c e d;cases u;exact i rfl
 ·cases j with
  |none=>exact g.kG a x f
  |some r=>
   obtain⟨h,t⟩:=r;have f:du k h t a=some x:=f;by_cases i:a=h
   ·subst i;rw[Jr] at f;cases f;exact(l.has a x rfl).2.2
   ·rw[NI i] at f;exact g.kG a x f
theorem ZT {a:br}{b:List Ev}{g:Nat}(c:a.fits b)(e:b++a.more≠ [])(f:Dc a.st g):Rv (b++a.more)/\Bw (b++a.more)=a.st:=by
 have d:Bw (b++a.more)=a.st:=by unfold Bw;rw[c];rfl
 have nx:=xq c e;have:=f.next;exact⟨⟨e,by omega,by rw[d];exact c,by rw[d];exact f.st⟩,d⟩
theorem AOn {a:Type}{f:A2Q->Option a}{b:A2Q}{x:a}(c:f b=some x):du f b x=f:=by
 funext e;unfold du;split
 ·rename_i d;rw[d,c]
 ·rfl
theorem Jg.done {c:List Pr}{a:cu}{g:cK}{D:br}{o:j5}{k:Nat}(h:Jg c a g)(s:Sorted c)(m:Ak D.wid=true)(n:D.fits ((a D.wid).getD []))(b:(a D.wid).getD []++D.more≠ [])(p:Dc D.st k)(q:D.beside o)
  (has: ∀d x,o=some (d,x)->YU d x∈D.ar/\Ak d=true/\(0<=x.2.1/\x.2.1<=4)/\(0<=x.2.2/\x.2.2<=501)/\x.1.length<=2000):
  Jg (cz c (EA D++D.ar)) (du a D.wid ((a D.wid).getD []++D.more)) (pF g o):=by
 have i:fG D.ar o:=⟨q.fw,has⟩;obtain⟨r,t⟩:=ZT n b p;by_cases e:D.more= []
 ·have f:EA D= []:=by unfold EA;rw[e];rfl
  rw[f,CT];have:du a D.wid ((a D.wid).getD []++D.more)=a:=by
   rw[e,AK] at b ⊢;cases j:a D.wid with
   |none=>rw[j] at b;exact absurd rfl b
   |some l=>exact AOn j
  rw[this];exact h.note s i
 ·have f:EA D++D.ar=D.more.map (Oo D.wid)++([TY D.wid ((a D.wid).getD []++D.more)]++D.ar):=by unfold EA TY;rw[if_neg e,A3,t]
  rw[f];exact h.land s m r i
theorem sX {e:List Pr}{c:cu}{h:cK}{a:br}(i:Jg e c h)(j:Ak a.wid=true)(b:match c a.wid with|none=>a.bW=0|some l=>a.ct=(Bw l).status/\a.bW=(Bw l).next/\a.kept=false/\0<a.bW):Bf e (bC a)=true:=by
 have g:=i.eU j;cases f:c a.wid with
 |none=>
  rw[f] at b g;have b:a.bW=0:=b;have d:bC a=⟨KZ a.wid,⟨#[]⟩,true⟩:=by unfold bC;rw[if_neg (by omega)]
  rw[d];unfold Bf;rw[if_pos rfl,g];rfl
 |some l=>
  rw[f] at b g;obtain⟨k,m,n,o⟩:=b;have d:bC a=⟨KZ a.wid,QS a.ct.toNat a.bW.toNat a.kept,false⟩:=by unfold bC;rw[if_pos o]
  rw[d];unfold Bf;rw[if_neg (by simp),g,k,m,n];simp
theorem AMx {b:List Pr}{d:cu}{c:cK}{a:A2Q}(e:Jg b d c)(f:Ak a=true)(h:c a=none):Bf b ⟨Kb a,⟨#[]⟩,true⟩=true:=by unfold Bf;have g:=e.fJ f;rw[h] at g;rw[if_pos rfl,g];rfl
theorem sY {b:br}{g:Nat}(d:Ak b.wid=true)(ok: ∀c∈b.more,Ej c=true/\c.data.size<1099511627776)(e:Dc b.st g): ∀p∈EA b,Ai p=0:=by
 intro p f;have st:=e.st;have nx:=e.next;unfold EA at f;rcases List.mem_append.1 f with a|a
 ·obtain⟨c,h,rfl⟩:=List.mem_map.1 a;exact AQl d (ok c h).1
 ·split at a
  ·cases a
  ·rw[List.mem_singleton.1 a];exact AQM d (by omega) (by omega)
theorem sZ(a:br):(EA a).length<=a.more.length+1:=by unfold EA;rw[A1,AN];split<;>simp
theorem ta {f e:List Pr}{a:br}{g:j5}{h:Nat}(i:Ak a.wid=true)(ok: ∀d∈a.more,Ej d=true/\d.data.size<1099511627776)(j:Dc a.st h)(k:a.beside g)(n:a.more.length+1+a.ar.length<=64)(l:EA a++a.ar≠ [])(o:e.length<=64)(b: ∀c∈e,Bf f c=true):dw f e (EA a++a.ar)=0:=by
 have q:=sZ a;have d:EY (EA a++a.ar)=0:=pG l (by rw[A1];omega) λp m=>by
  rcases List.mem_append.1 m with b|b
  ·exact sY i ok j p b
  ·exact k.ok p b
 unfold dw;rw[if_neg (by omega),if_neg (by rw[d];decide),if_pos (List.all_eq_true.2 b)]
theorem Ri(a:Nat):BL (CF a)=108:=by unfold BL CF;rw[EO];rfl
theorem tc {d:List Pr}{b:br}{i:j5}(s:Sorted d)(j:b.beside i)(e g:Nat)(h:A2Q):Bf (cz d (EA b++b.ar)) (FZ e g h)=Bf d (FZ e g h):=by
 have f:Af (CF e) (cz d (EA b++b.ar))=Af (CF e) d:=KG s λk l m=>by
  have c:=(congrArg BL m).trans (Ri e);rcases List.mem_append.1 l with a|a
  ·unfold EA at a;rcases List.mem_append.1 a with a|a
   ·obtain⟨f,_,rfl⟩:=List.mem_map.1 a;rw[show BL (Oo b.wid f).key=104 from Yk _ _] at c;exact absurd c (by decide)
   ·split at a
    ·cases a
    ·rw[List.mem_singleton.1 a] at c;rw[show BL (KZ b.wid)=119 from GI _] at c;exact absurd c (by decide)
  ·exact j.ll k a c
 rw[OI,OI];unfold Iu;rw[f]
def Lu(x:cq)(p:cj):List UInt8:=Bd x.kind.toNat++(BU (bl x.wid)++(BU (if x.kind=2 then bl x.name else [])++(if x.kind=1 then Ci p else [])))
def PM(x:cq)(p:cj):Int:=if x.kind=1/\F4 p=false then 130 else if(x.kind=2/\Ak x.name=false)\/Ak x.wid=false\/Ak x.bA=false then 1 else 0
theorem Za {x:cq}{p:cj}(h:PM x p=0):(x.kind=1->F4 p=true)/\(x.kind=2->Ak x.name=true)/\Ak x.wid=true/\Ak x.bA=true:=by
 unfold PM at h;split at h
 ·cases h
 ·rename_i b;split at h
  ·cases h
  ·rename_i a;simp only[not_or,not_and,Bool.not_eq_false] at b a;exact⟨b,a.1,a.2⟩
theorem RO {p:cj}(ok:F4 p=true):(Ci p).length<=1700:=by simp only[F4,A4,decide_eq_true_eq] at ok;obtain⟨⟨c,a⟩,b⟩:=ok;have d:=Bb.1 a;have:=PV b;have e:=AV (n:=p.az.toNat) (by omega);have f:=AV (n:=p.steps.length) (by omega);unfold Ci;simp only[A1];omega
theorem APU {x:cq}{p:cj}(h:PM x p=0)(f:1<=x.kind/\x.kind<=4):(Lu x p).length<=2000:=by
 obtain⟨a,b,c,g⟩:=Za h;have i:=FE c;have j:=Fe (n:=x.kind.toNat) (by omega);have k:=KX (s:=x.wid) (by omega);have l:(BU (if x.kind=2 then bl x.name else [])).length<=30:=by
  split
  ·rename_i d;have:=FE (b d);have:=KX (s:=x.name) (by omega);omega
  ·have:=AV (n:=0) (by omega);show(Bd 0++ []).length<=30;rw[AK];omega
 have m:(if x.kind=1 then Ci p else []).length<=1700:=by
  split
  ·rename_i e;exact RO (a e)
  ·simp
 unfold Lu;simp only[A1];omega
section
variable {A : aq} {h : aa} {R : A2P}
theorem ANR {x:cq}{p:cj}(V:View QP h x.steps p.steps)(M:x.az=p.az)(len:p.steps.length<=1099511627776)(an:1<=x.kind/\x.kind<=4)
  (w: ∀e,Ext h e->R (J1 #[J7 (if PM x p=0 then AX (Lu x p) else⟨#[]⟩),J6 J9 (PM x p)]) e):AA A P NN #[x.v] h R:=by
 refine AAF ?_;unfold Su;refine al.mk λi _ j k ao=>ai.mk λK N=>?_
 have y: ∀(n:Int) e,Ext h e->PM x p=n->n≠0->R (J1 #[J7 ⟨#[]⟩,J6 J9 n]) e:=λn e O Q r=>by
  have:=w e O;rw[Q,if_neg r] at this;exact this
 have z: ∀(ps:List UInt8) (b:aa),Ext i b->(x.kind=1->F4 p=true/\ps=Ci p)->(x.kind≠1->ps= [])->K (AX ps,()) b:=λps b f m B=>by
  have c:=f.ah j λh=>h
  have ap:ps.length<=1700:=by
   by_cases h:x.kind=1
   ·rw[(m h).2];exact RO (m h).1
   ·rw[B h];simp
  have C: ¬(x.kind=1/\F4 p=false):=λh=>by have:=(m h.1).1;rw[h.2] at this;cases this
  refine N _ _ (ai.mk λt S=>?_);have u: ∀o:Bool,(o=true↔(x.kind=2/\Ak x.name=false)\/Ak x.wid=false\/Ak x.bA=false)->t (o,()) b:=λo D=>by
   refine S _ _ (af.intro (λg=>y 1 b (k.trans f) (by unfold PM;rw[if_neg C,if_pos (D.1 g)]) (by decide)) (λg=>?_));have g:o=false:=g;have T: ¬((x.kind=2/\Ak x.name=false)\/Ak x.wid=false\/Ak x.bA=false):=λh=>by rw[D.2 h] at g;cases g
   have E:PM x p=0:=by unfold PM;rw[if_neg C,if_neg T]
   obtain⟨aq,U,W,ar⟩:=Za E;have au:=FE W;refine AJ.mk (n:=x.name) (AB c rfl) (ai.mk λX Y=>?_);have F: ∀d:List UInt8,d=(if x.kind=2 then bl x.name else [])->X (AX d,()) b:=λd G=>by
    have nl:d.length<=16:=by
     rw[G];split
     ·rename_i Z;rw[A7];exact FE (U Z)
     ·simp
    refine Y _ _ (AC.mk (n:=x.kind) (AO c rfl) (AJ.mk (n:=x.wid) (AB c rfl) ?_));rw[Od (by omega) (by omega)];refine Cc (by omega) λav H=>⟨_,rfl,AB (H.ah c λh=>h) rfl,KS (by omega) λaw ab=>⟨_,rfl,?_⟩⟩
    have ax:=Fe (n:=x.kind.toNat) (by omega);have ay:=KX (s:=x.wid) (by omega);have az:(BU d).length<=30:=by unfold BU;rw[A1];have:=AV (n:=d.length) (by omega);omega
    refine⟨by rw[AP,AP,max_i64];omega,?_⟩;rw[Aj];refine Qy (l:=d) (by omega) λac ad=>⟨_,rfl,⟨by rw[AP,AP,A1,max_i64];omega,?_⟩⟩
    rw[Aj];refine⟨by rw[AP,AP,A1,A1,max_i64];omega,?_⟩;rw[Aj];have:=w ac ((((k.trans f).trans H).trans ab).trans ad);rw[E,if_pos rfl] at this;have ae:Lu x p=((Bd x.kind.toNat++BU (bl x.wid))++BU d)++ps:=by
     unfold Lu;rw[G];simp only[A3];congr 3;split
     ·rename_i h;rw[(m h).2]
     ·rename_i h;rw[B h]
    rw[ae] at this;exact this
   refine AC.mk (n:=x.kind) (AO c rfl) (af.intro (λa=>?_) (λa=>?_))
   ·have a:x.kind≠2:=by simpa using a
    exact F [] (by rw[if_neg a])
   ·have a:x.kind=2:=by simpa using a
    have:=F (bl x.name) (by rw[if_pos a]);rw[Ku] at this;exact this
  have rest:(x.kind=2->Ak x.name=true)->AJ b ((⟨h.size,0,none⟩:Q6).add 2) λag=>AA A P Bj #[J7 ag] b λah v=> ∃I:Bool,ah=J3 I/\(af (!I) (t (true,()) v) (
    AJ v ((⟨h.size,0,none⟩:Q6).add 1) λaj=>AA A P Bj #[J7 aj] v λak am=> ∃J:Bool,ak=J3 J/\(t ((!J),()) am))):=λr=>
   AJ.mk (n:=x.wid) (AB c rfl) (FL ⟨_,rfl,af.intro (λa=>u true (by simp at a;simp[a])) λa=>AJ.mk (n:=x.bA) (AB c rfl) (FL ⟨_,rfl,u _ (by
    have a:Ak x.wid=true:=by simpa using a
    simp only[a,CI,Bool.true_eq_false,false_or];constructor
    ·exact .inr
    ·rintro(⟨i,b⟩|h)
     ·rw[r i] at b;cases b
     ·exact h)⟩)⟩)
  refine AC.mk (n:=x.kind) (AO c rfl) (af.intro (λa=>?_) (λa=>?_))
  ·have a:x.kind=2:=by simpa using a
   refine AJ.mk (n:=x.name) (AB c rfl) (FL ⟨_,rfl,af.intro (λq=>u true (by simp at q;simp[a,q])) λq=>rest λ_=>by simpa using q⟩)
  ·have a:x.kind≠2:=by simpa using a
   exact rest λh=>absurd h a
 refine AC.mk (n:=x.kind) (AO j rfl) (af.intro (λa=>?_) (λa=>?_))
 ·have a:x.kind=1:=by simpa using a
  refine AZ.mk (s:=x.steps) (AB j rfl) (AC.mk (n:=x.az) (Cj (by exact j) rfl) ?_);rw[M];refine u6 (V.ext k) len λb f=>?_
  unfold X0;cases L:F4 p with
  |false=>exact⟨_,_,rfl,af.yes rfl (y 130 b (k.trans f) (by unfold PM;rw[if_pos ⟨a,L⟩]) (by decide))⟩
  |true=>exact⟨_,_,rfl,af.no rfl (z (Ci p) b f (λ_=>⟨L,rfl⟩) λh=>absurd a h)⟩
 ·have a:x.kind≠1:=by simpa using a
  exact z [] i Mod.refl (λh=>absurd h a) λ_=>rfl
end
def dD(a:Int)(b:A2Q):Ev:=⟨0,a,0,0,0,0,false,b⟩
def Bv(c:Option (List Ev))(wid:A2Q)(a:Nat)(b:Int):br:=match c with
 |none=>Hy wid a 0 0 false Sy b
 |some l=>Hy wid a (Bw l).status (Bw l).next false (Bw l) b
def tf(p:cj)(a:Int):Int:=if(0:Int)>a+p.az then 0 else a+p.az
def DI(x:cq)(p:cj)(a:br)(b:Nat):br:=
 if x.kind=1 then(if 0<p.az then Du (Dn a (dD 1 (AX (Ci p)))) ⟨6,0,0⟩ (tf p a.now) b else Dn a (dD 1 (AX (Ci p))))
 else if x.kind=2 then Dn a (dD 12 x.name)
 else if x.kind=3 then(if a.st.cancel=true then a else Dn a (dD 13 ⟨#[]⟩))
 else Dn a (dD 18 ⟨#[]⟩)
def F3(x:cq)(p:cj)(a:br)(b:Nat):br:=oh (DI x p a b) (Kb x.bA) (iN (Lu x p) (Dh (DI x p a b)).1.toNat (Dh (DI x p a b)).2.toNat)
def Ob(b:cu)(c:cK)(d:Nat)(x:cq)(p:cj):Option (Int×Int×Int):=
 if x.kind<1\/4<x.kind then some (1,0,0)
 else if PM x p≠0 then some (PM x p,0,0)
 else if d=0 then some (170,0,0)
 else match c x.bA with
  |some a=>if a.1≠Lu x p then some (184,0,0) else some (0,a.2.1,a.2.2)
  |none=>match b x.wid with
   |none=>if x.kind=1 then none else some (180,0,0)
   |some l=>if x.kind=1 then some (181,0,0) else if(Bw l).status≠0 then some (182,0,0) else none
theorem AJd {a:Option (List Ev)}{wid:A2Q}{n:Nat}{now:Int}(h: ∀l,a=some l->Rv l):Dc (Bv a wid n now).st 500/\(Bv a wid n now).more= []/\(Bv a wid n now).ar= []/\(Bv a wid n now).conds= []/\(Bv a wid n now).wid=wid/\(Bv a wid n now).ao=n/\(Bv a wid n now).now=now/\(Bv a wid n now).fits (a.getD []):=by
 cases a with
 |none=>exact⟨Dc.zero.up (by omega),rfl,rfl,rfl,rfl,rfl,rfl,rfl⟩
 |some l=>
  have b:=h l rfl;refine⟨?_,rfl,rfl,rfl,rfl,rfl,rfl,?_⟩
  ·have:=UO Dc.zero b.ok;exact this.up (by have:=b.len;omega)
  ·show El Sy (l++ [])=some (Bw l);rw[AK];exact b.ok
theorem ANB {x:cq}{p:cj}{a:br}{num c:Nat}(u:PM x p=0)(ok: ∀e∈a.more,Ej e=true/\e.data.size<1099511627776)(v:Dc a.st c):a.grown (DI x p a num) (c+1) 1 1:=by
 obtain⟨w,y,C,D⟩:=Za u;have b:=Wy ok v;have z:(⟨#[]⟩:A2Q).size<1099511627776:=by decide
 have up: ∀ {d:br},a.grown d (c+1) 1 0->a.grown d (c+1) 1 1:=λ{d} ⟨f,g,i,j,k,l,m,s,n,B,o,q⟩=>⟨f,g,i,j,k,l,m,s,n,by omega,o,q⟩
 unfold DI;split
 ·rename_i r;have t:(dD 1 (AX (Ci p))).data.size<1099511627776:=by show(AX (Ci p)).size<_;have:=RO (w r);rw[AP];omega
  split
  ·exact XD (MF b t) _ _ _
  ·exact up (MF b t)
 ·split
  ·rename_i r;exact up (MF b (e:=dD 12 x.name) (by have:=FE (y r);show x.name.size<_;omega))
  ·split
   ·split
    ·obtain⟨f,g,i,j,k,l,m,s,n,B,o,q⟩:=b;exact⟨f,g,i,j,k,l,m,by omega,n,by omega,o,q.up (BY _)⟩
    ·exact up (MF b z)
   ·exact up (MF b z)
theorem AP5 {x:cq}{p:cj}{a:br}{c:Nat}{b:List Ev}(h:a.fits b):(DI x p a c).fits b:=by
 unfold DI;split
 ·split
  ·exact Uv (PI h)
  ·exact PI h
 ·split
  ·exact PI h
  ·split
   ·split
    ·exact h
    ·exact PI h
   ·exact PI h
theorem AKN {x:cq}{p:cj}{c:br}{d:Nat}(h:c.ar= []):(DI x p c d).beside none:=by
 have b:c.beside none:=⟨(λp a=>by rw[h] at a;cases a),(λp a=>by rw[h] at a;cases a),(λp a=>by rw[h] at a;cases a)⟩;unfold DI;split
 ·split
  ·exact UR (MG b _) _ _ _
  ·exact MG b _
 ·split
  ·exact MG b _
  ·split
   ·split
    ·exact b
    ·exact MG b _
   ·exact MG b _
theorem tg {b:br}{c:Ev}(h:(Dn b c).err=0):b.err=0:=by
 unfold Dn at h;split at h
 ·rename_i a;exact absurd h a
 ·rename_i a;simpa using a
theorem pH {a:br}{b:Ev}(h:(Dn a b).err=0):Dn a b= {a with st:=(Bp a.st (Cq a b)).2,more:=a.more++ [Cq a b]}/\(Bp a.st (Cq a b)).1=0:=by
 have d:=tg h;unfold Dn at h ⊢;rw[if_neg (by simp[d])] at h ⊢;split at h
 ·cases h
 ·rename_i e;rw[if_neg e];split at h
  ·rename_i c;exact absurd h c
  ·rename_i c;rw[if_neg c];exact⟨rfl,by simpa using c⟩
theorem AOq {a:br}{b:Nat}(h:(Ed a b).err=0):a.err=0:=by
 unfold Ed at h;split at h
 ·exact tg (Xi h)
 ·exact h
theorem th {a:br}{c d:Nat}(h:(BB a c d).err=0):(BB a c d).st.status=(Dh a).1/\(BB a c d).st.next=(Dh a).2:=by
 have g:=VP h;have j:(BB a c d).st=(Ed a c).st:=by
  unfold BB;split
  ·exact(Gy _ _ _ _).1
  ·rfl
 rw[j];unfold Dh;by_cases e:EH a=true
 ·rw[if_pos e];unfold Ed at g ⊢;rw[if_pos e] at g ⊢;rw[(Gy _ _ _ _).1];obtain⟨k,b⟩:=pH (Xi g);rw[k];show(Bp a.st (Cq a QQ)).2.status=_/\(Bp a.st (Cq a QQ)).2.next=_;have ok:=Qd b;unfold Bp at b ⊢;rw[if_neg (by simp[ok])] at b ⊢;split at b
  ·rename_i i;rw[if_neg (λh=>by have h:(2:Int)=1:=h.1;cases h)] at b;cases b
  ·rename_i i;rw[if_neg i];split at b
   ·cases b
   ·rename_i l;rw[if_neg l];split at b
    ·cases b
    ·rename_i m;rw[if_neg m];cases f:Pi a.st (Cq a QQ) with
     |none=>rw[f] at b;cases b
     |some t=>
      unfold Pi at f;rw[if_pos (show 2<=(Cq a QQ).kind/\(Cq a QQ).kind<=5 from(by decide:(2:Int)<=2/\(2:Int)<=5))] at f;obtain⟨u,n,rfl⟩:=Option.map_eq_some_iff.1 f;exact⟨(QF n).2.2.2,rfl⟩
 ·rw[if_neg e];unfold Ed;rw[if_neg e];exact⟨rfl,rfl⟩
end Go.Lf.G
