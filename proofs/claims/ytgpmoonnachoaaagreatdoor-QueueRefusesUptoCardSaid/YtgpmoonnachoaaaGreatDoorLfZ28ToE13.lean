/-
 A store, hosts over it, and blocks of one's own beside them (chapter 18).
-/
import Derived.Test.YtgpmoonnachoaaaGreatDoorLfV3ToZ27
import Derived.Test.YtgpmoonnachoaaaGreatDoorLfKToGA
import Derived.Test.YtgpmoonnachoaaaGreatDoorLfU2ToS3
set_option maxRecDepth 100000
set_option linter.unusedVariables false
set_option linter.unusedSimpArgs false
open Go.IntKind renaming i64→J9,wrap→J8
open Go.Value renaming string→J7,int→J6,pointer→J5,slice→J4,bool→J3,tuple→J1
open Go.Obj renaming cells→J2
open Go renaming Value→J0,Addr→Q6,TypeId→Q7,FuncId→Q8,Program→Q1
open Go.Addr renaming add→Q9,mk→Q5
namespace Go.Lf.G
open Go
open M (Sorted Af CZ A8 Ag Aq BU Ah bA BG aO BC)
structure Hs where
 p:Nat
 bh:Nat
 bu:Nat
 name:A2L
 f:Nat->Nat
 u:Nat->Nat
def Hs.bN(x:Hs)(c:Nat):Prop:=c=x.p\/c=x.bh\/c=x.bu
structure jg (g h:aa) (k:Nat->Nat) (s sh N:Nat) (l:List Hs):Prop where
 host: ∀(i:Nat) x,l[i]? =some x->Dw g h k s x.p x.bh x.bu x.name sh x.f x.u N
 jH: ∀(i j:Nat) x y,l[i]? =some x->l[j]? =some y->i≠j-> ∀c,x.bN c-> ¬y.bN c
def LW(B:cH)(g h:aa)(s a N sh:Nat)(l:List Hs)(mp:List Pr)(O:Nat->Prop):Prop:=
 ∃(d:Hp) (b:Nat->Nat) (st:Db) (m:Bx) (e:Bq) (nn:Nat),F7 B g h s d b st m e (1+3*a) (64*a) nn/\nn<=a/\Co st=mp/\jg g h b s sh N l/\N<=1000000/\ ∀c,O c->b c=0/\c<h.size/\g.size<=c/\c≠s/\ ∀x∈l,¬x.bN c
section
variable {A : aq} {B : cH} {g h : aa} {s a N sh : Nat} {l : List Hs} {mp : List Pr} {O : Nat -> Prop} {R : A2K}
theorem jg.step {d:aa}{b k':Nat->Nat}{e:Nat->Prop}(f:jg g h b s sh N l)(k:Mod e h d)(m: ∀c,e c->b c≠0\/h.size<=c\/c=s\/ ∀x∈l,¬x.bN c)(n: ∀c,k' c≠0->b c≠0\/h.size<=c):jg g d k' s sh N l:=
 ⟨λi x j=>(f.host i x j).step k (λc o=>by
  rcases m c o with h|h|h|h
  ·exact .inl h
  ·exact .inr (.inl h)
  ·exact .inr (.inr (.inl h))
  ·exact .inr (.inr (.inr (h x (AK j))))) n,f.jH⟩
theorem jg.set {h':aa}{k m:Nat->Nat}{S:Nat->Prop}{i j:Nat}{x x':Hs}(n:jg g h k s sh N l)(o:l[i]? =some x)(u:Mod S h h')(v: ∀c,S c->k c≠0\/h.size<=c\/c=s\/x.bN c)(w: ∀c,m c≠0->k c≠0\/h.size<=c)(y:Dw g h' m s x'.p x'.bh x'.bu x'.name sh x'.f x'.u j)(same: ∀c,x'.bN c↔x.bN c)(q:N<=j/\j<=1000000):jg g h' m s sh j (l.set i x'):=by
 have r:=(List.getElem?_eq_some_iff.1 o).1;refine⟨λd e b=>?_,λz C M P D E F c p=>?_⟩
 ·by_cases f:i=d
  ·subst f;rw[HN r] at b;cases b;exact y
  ·rw[JT f] at b;refine((n.host d e b).step u (λc p=>?_) w).more q.1 q.2;rcases v c p with h|h|h|h
   ·exact .inl h
   ·exact .inr (.inl h)
   ·exact .inr (.inr (.inl h))
   ·exact .inr (.inr (.inr (n.jH i d x e o b f c h)))
 ·have go: ∀ {d:Nat} {e:Hs},(l.set i x')[d]? =some e-> ∃t,l[d]? =some t/\ ∀c,e.bN c↔t.bN c:=λ{d e} b=>by
   by_cases f:i=d
   ·subst f;rw[HN r] at b;cases b;exact⟨x,o,same⟩
   ·rw[JT f] at b;exact⟨e,b,λ_=>CI⟩
  obtain⟨G,H,I⟩:=go D;obtain⟨J,K,L⟩:=go E;exact λh=>n.jH z C G J H K F c ((I c).1 p) ((L c).1 h)
theorem LW.ext(b:LW B g h s a N sh l mp O):Ext g h:=by obtain⟨d,e,st,m,f,nn,c,_⟩:=b;exact c.db.mem.ext
theorem LW.sorted(b:LW B g h s a N sh l mp O):Sorted mp:=by obtain⟨d,e,st,m,D,nn,c,_,rfl,_⟩:=b;exact c.db.sorted
theorem LW.own {e:aa}{O':Nat->Prop}(k:LW B g h s a N sh l mp O)(f:Mod O h e)(n: ∀c,O' c->O c\/(h.size<=c/\c<e.size)):LW B g e s a N sh l mp O':=by
 obtain⟨o,p,st,m,q,nn,d,r,t,j,u,out⟩:=k;have H:=d.db.mem.ext.size;have I:=f.size;have J:=d.lt;refine⟨o,p,st,m,q,nn,d.beside f (λc b=>⟨(out c b).1,(out c b).2.2.1⟩) (λh=>(out s h).2.2.2.1 rfl),r,t,j.step f (λc b=> .inr (.inr (.inr (out c b).2.2.2.2))) (λc b=> .inl b),u,λc b=>?_⟩;rcases n c b with h|⟨v,w⟩
 ·obtain⟨y,K,z,C,D⟩:=out c h;exact⟨y,by omega,z,C,D⟩
 ·refine⟨d.db.free v,w,by omega,by omega,λx E F=>?_⟩;obtain⟨i,G⟩:=F2 E;have:=(j.host i x G).lt c F;omega
theorem LW.on {b:aa}(d:LW B g h s a N sh l mp O)(x:Ext h b):LW B g b s a N sh l mp O:=d.own (x.aj λ_ _ h=>h.elim) λc e=> .inl e
theorem LW.less {O':Nat->Prop}(b:LW B g h s a N sh l mp O)(d: ∀c,O' c->O c):LW B g h s a N sh l mp O':=by obtain⟨e,f,st,m,i,nn,j,k,n,o,p,out⟩:=b;exact⟨e,f,st,m,i,nn,j,k,n,o,p,λc q=>out c (d c q)⟩
theorem LW.put {b c:Nat}(W:LW B g h s a N sh l mp O)(t:a<=b)(f:64*b<=B.C)(j:N<=c)(d:c<=1000000):LW B g h s b c sh l mp O:=by obtain⟨k,n,st,m,o,nn,p,u,q,e,v,out⟩:=W;exact⟨k,n,st,m,o,nn,p.put (by omega) (by omega) f,by omega,q,⟨λi x r=>(e.host i x r).more j d,e.jH⟩,d,out⟩
abbrev bB(g:aa)(O:Nat->Prop):Nat->Prop:=λc=>g.size<=c/\ ¬O c
theorem LW.dJ {b:aa}{w:Nat->Prop}{i a' e nn o:Nat}{x x':Hs}{J y:Hp}{d f:Nat->Nat}{st p:Db}{m z:Bx}{K C:Bq}(j:F7 B g h s J d st m K (1+3*a) (64*a) nn)(D:jg g h d s sh N l)(out: ∀c,O c->d c=0/\c<h.size/\g.size<=c/\c≠s/\ ∀x∈l,¬x.bN c)
  (q:l[i]? =some x) (L:F7 B g b s y f p z C (1+3*a') (64*a') o) (M:o<=a') (r:Mod w h b) (t: ∀c,w c->d c≠0\/h.size<=c\/c=s\/x.bN c) (E: ∀c,f c≠0->d c≠0\/h.size<=c) (P:Dw g b f s x'.p x'.bh x'.bu x'.name sh x'.f x'.u e) (same: ∀c,x'.bN c↔x.bN c) (F:N<=e/\e<=1000000):
  LW B g b s a' e sh (l.set i x') (Co p) O/\Mod (bB g O) h b:=by
 have W:=j.db.mem.ext.size;have X:=j.lt;have Y:=r.size;have G:=AK q;refine⟨⟨y,f,p,z,C,o,L,M,rfl,D.set q r t E P same F,F.2,λc k=>?_⟩,r.aj λc Z k=>⟨?_,λQ=>?_⟩⟩
 ·obtain⟨u,S,H,v,n⟩:=out c k;refine⟨Decidable.byContradiction λT=>?_,by omega,H,v,λU V I=>?_⟩
  ·rcases E c T with h|h
   ·exact h u
   ·omega
  ·rcases Up V with h|rfl
   ·exact n U h I
   ·exact n x G ((same c).1 I)
 ·rcases t c k with h|h|h|h
  ·exact(j.db.mem.own c h).1
  ·omega
  ·have:=j.base;omega
  ·exact((D.host i x q).bN c h).2.1
 ·obtain⟨u,S,H,v,n⟩:=out c Q;rcases t c k with h|h|h|h
  ·exact h u
  ·omega
  ·exact v h
  ·exact n x G h
theorem LW.host {name:A2L}(D:LW B g h s a N sh l mp O)(E:Aj name=true)(F:1<=sh/\sh<=16)
  (G: ∀j p k n,LW B g j s a N sh (l++ [⟨p,k,n,name,λ_=>0,λ_=>0⟩]) mp O->Ext h j->R (J1 #[Am p,J6 J9 0]) j):AA A P Pj #[Am s,J7 name,J6 J9 (sh:Int)] h R:=by
 obtain⟨H,I,st,m,J,nn,v,K,L,o,w,out⟩:=D;refine ARK v E F λj p k n M fresh x=>G j p k n ⟨H,I,st,m,J,nn,v.on x,K,L,⟨λi d b=>?_,λi e y z Q S T c f t=>?_⟩,w,λc f=>?_⟩ x
 ·rw[Pl] at b;split at b
  ·exact(o.host i d b).on x
  ·rw[PA] at b;split at b
   ·cases b;exact M.more (AD _) w
   ·cases b
 ·have go: ∀ {e:Nat} {d:Hs},(l++ [⟨p,k,n,name,λ_=>0,λ_=>0⟩])[e]? =some d->(e<l.length/\l[e]? =some d)\/(e=l.length/\ ∀c,d.bN c->h.size<=c):=λ{e d} b=>by
   rw[Pl] at b;split at b
   ·rename_i C;exact .inl ⟨C,b⟩
   ·rename_i C;rw[PA] at b;split at b
    ·rename_i aa;cases b;exact .inr ⟨by omega,λc f=>(fresh c f).1⟩
    ·cases b
  rcases go Q with⟨U,q⟩|⟨U,q⟩<;>rcases go S with⟨V,r⟩|⟨V,r⟩
  ·exact o.jH i e y z q r T c f t
  ·have:=(o.host i y q).lt c f;have:=r c t;omega
  ·have:=(o.host e z r).lt c t;have:=q c f;omega
  ·omega
 ·obtain⟨W,ab,X,Y,Z⟩:=out c f;have:=x.size;refine⟨W,by omega,X,Y,λd b u=>?_⟩;rcases List.mem_append.1 b with h|h
  ·exact Z d h u
  ·rw[List.mem_singleton.1 h] at u;have:=(fresh c u).1;omega
def Hs.mI(x:Hs)(b c:Nat):Hs:= {x with f:=dA x.f b c,u:=dA x.u b 0}
def Hs.lost(x:Hs)(b:Nat):Hs:= {x with f:=dA x.f b 0}
def Hs.jt(x:Hs)(b:Nat):Hs:= {x with u:=dA x.u b (x.u b+1)}
theorem LW.holds {i b:Nat}{x:Hs}(c:LW B g h s a N sh l mp O)(d:l[i]? =some x)(e:R (J6 J9 (x.f b:Int)) h):AA A P Cj #[Am x.p,J6 J9 (b:Int)] h R:=by obtain⟨j,k,st,m,n,nn,o,p,q,f,r,out⟩:=c;exact Zk (f.host i x d) e
theorem LW.acquire {i b r:Nat}{x:Hs}{nm:A2L}(n:bZ g)(o:LW B g h s a N sh l mp O)(e:l[i]? =some x)(p:b<sh)(L:GJ mp b r nm)(q:r+1<=2147483647)(hA:4+3*a<=B.A)(E:64*a+64<=B.C)(F:a+1<=1000000)(f:N+1<=1000000)
  (t: ∀d,LW B g d s (a+1) (N+1) sh (l.set i (x.mI b (r+1))) (cy mp [⟨CE b,Jq (r+1) x.name,false⟩]) O->Mod (bB g O) h d->R (J1 #[J6 J9 ((r+1:Nat):Int),J6 J9 0]) d):
  AA A P FJ #[Am x.p,J6 J9 (b:Int)] h R:=by
 obtain⟨G,H,st,m,I,nn,j,J,rfl,k,K,out⟩:=o;have u:=k.host i x e;refine AJJ n j u p L q (by omega) (by omega) (by omega) f λd M Q S T U V W v w y z C=>?_
 have:=LW.dJ (x':=x.mI b (r+1)) (a':=a+1) j k out e (v.put (by omega) (by omega) (by omega)) (by omega) z (λc D=>by
  rcases D with h|h|h|h|h
  ·exact .inl h
  ·exact .inr (.inl h)
  ·exact .inr (.inr (.inl h))
  ·exact .inr (.inr (.inr (.inr (.inl h))))
  ·exact .inr (.inr (.inr (.inr (.inr h))))) C y (λ_=>CI) ⟨BW _,f⟩
 rw[w] at this;exact t d this.1 this.2
theorem LW.number {i b:Nat}{x:Hs}(r:LW B g h s a N sh l mp O)(j:l[i]? =some x)(t:x.f b<=2147483647)(u:x.u b+1<16777216)(k:N+1<=1000000)
  (v:x.f b=0->R (.int .u64 0) h)
  (w:x.f b≠0-> ∀d,LW B g d s a (N+1) sh (l.set i (x.jt b)) mp O->Mod (bB g O) h d->R (.int .u64 ((x.f b*16777216+(x.u b+1):Nat):Int)) d):
  AA A P Gr #[Am x.p,J6 J9 (b:Int)] h R:=by
 obtain⟨E,F,st,m,G,nn,n,y,rfl,o,H,out⟩:=r;have p:=o.host i x j;refine AK2 p t u k v λz d C q=>?_
 have f:=p.bN x.bu (.inr (.inr rfl));have:=LW.dJ (x':=x.jt b) n o out j (n.beside q (λc e=>by subst e;exact⟨f.1,f.2.1⟩) λD=>f.2.2 D.symm) y q (λc e=> .inr (.inr (.inr (.inr (.inr e))))) (λc e=> .inl e) C (λ_=>CI) ⟨BW _,k⟩;exact w z d this.1 this.2
theorem LW.change {i d:Nat}{x:Hs}{conds sl:Sl}{cl lp:List Pr}(y:bZ g)(z:LW B g h s a N sh l mp O)(f:l[i]? =some x)(C:d<256)(D:x.f d<=2147483647)(hA:4+3*a<=B.A)(aa:64*a+64<=B.C)(ab:a+1<=1000000)(vc:View BR h conds cl)(E:cl.length<=1000000)(v:View BR h sl lp)(F:lp≠ []-> ∀b,sl.ah=some b->b<g.size\/O b)(G: ∀x∈cl,x.key.size<=1099511627776)
  (H:x.f d=0->R (J6 J9 170) h)
  (I:x.f d≠0->Bd mp (Ff d (x.f d) x.name)=false-> ∀e,LW B g e s a N sh (l.set i (x.lost d)) mp O->Mod (bB g O) h e->R (J6 J9 170) e)
  (J:x.f d≠0->Bd mp (Ff d (x.f d) x.name)=true->du mp (Ff d (x.f d) x.name::cl) lp≠0-> ∀e,Ext h e->R (J6 J9 (du mp (Ff d (x.f d) x.name::cl) lp)) e)
  (K:x.f d≠0->Bd mp (Ff d (x.f d) x.name)=true->du mp (Ff d (x.f d) x.name::cl) lp=0-> ∀e,LW B g e s (a+1) N sh l (cy mp lp) O->Mod (bB g O) h e->R (J6 J9 0) e):
  AA A P GG #[Am x.p,J6 J9 (d:Int),J4 conds.p conds.len conds.cap,J4 sl.p sl.len sl.cap] h R:=by
 obtain⟨ac,ad,st,m,ae,nn,j,L,rfl,n,u,out⟩:=z;have w:=n.host i x f;have af:=j.db.mem.ext.size;refine ASf y j w C D (by omega) (by omega) (by omega) vc E v (λM b Q=>?_) G H (λo S e p q r=>?_) J λo T U e ag ah ai aj ak al am p V q r W=>?_
 ·rcases F M b Q with h|h
  ·refine⟨by omega,j.db.base h,?_⟩;have:=(w.bN x.bh (.inr (.inl rfl))).2.1;omega
  ·obtain⟨X,Y,an,ao,Z⟩:=out b h;exact⟨Y,X,λt=>Z x (AK f) (.inr (.inl t))⟩
 ·have:=LW.dJ (x':=x.lost d) j n out f p L r (λc k=>by
   rcases k with h|h
   ·exact .inr (.inl h)
   ·exact .inr (.inr (.inr (.inr (.inl h))))) (λc k=> .inl k) q (λ_=>CI) ⟨A0 _,u⟩
  exact I o S e this.1 this.2
 ·have:=LW.dJ (x':=x) (a':=a+1) j n out f (p.put (by omega) (by omega) (by omega)) (by omega) r (λc k=>by
   rcases k with h|h|h
   ·exact .inl h
   ·exact .inr (.inl h)
   ·exact .inr (.inr (.inl h))) W q (λ_=>CI) ⟨A0 _,u⟩
  rw[V,show l.set i x=l from by
   obtain⟨ap,t⟩:=List.getElem?_eq_some_iff.1 f;rw[<- t,P0]] at this
  exact K o T U e this.1 this.2
end
abbrev cG:=A2L->Option (List Ev)
abbrev dk:=A2L->Option (List UInt8×Int×Int)
def Bu(l:List Ev):bd:=(Eo TA l).getD TA
structure R3 (l:List Ev):Prop where
 ne:l≠ []
 len:l.length<=500
 ok:Eo TA l=some (Bu l)
 st:0<=(Bu l).status/\(Bu l).status<=4
theorem R3.next {l:List Ev}(b:R3 l):(Bu l).next=l.length+1/\ ∀(i:Nat) (a:Ev),l[i]? =some a->a.id=i+1/\Em a=true:=wW b.ok b.ne
def Sq(wid:A2L)(l:List Ev):List Pr:=l.map (Om wid)
def Tc(wid:A2L)(l:List Ev):Pr:=⟨Ki wid,QX (Bu l).status.toNat (Bu l).next.toNat false,false⟩
def YZ(a:A2L)(x:List UInt8×Int×Int):Pr:=⟨Kk a,iI x.1 x.2.1.toNat x.2.2.toNat,false⟩
structure Jk (mp:List Pr) (fl:cG) (an:dk):Prop where
 cI: ∀wid,Aj wid=true-> ∀k,Km (XA wid) k=true->Af k mp=Af k (Sq wid ((fl wid).getD []))
 fR: ∀wid,Aj wid=true->Af (Ki wid) mp=(fl wid).map (Tc wid)
 kA: ∀bz,Aj bz=true->Af (Kk bz) mp=(an bz).map (YZ bz)
 dE: ∀wid l,fl wid=some l->R3 l
 kB: ∀bz x,an bz=some x->(0<=x.2.1/\x.2.1<=4)/\(0<=x.2.2/\x.2.2<=501)/\x.1.length<=2000
theorem FK {s:A2L}(a:Aj s=true):s.size<=16:=(FV.1 a).2.1
theorem RG {wid:A2L}{l:List Ev}{i:Nat}{p:Pr}(b:(Sq wid l)[i]? =some p): ∃a,l[i]? =some a/\p=Om wid a:=by unfold Sq at b;rw[C2] at b;obtain⟨a,c,rfl⟩:=Option.map_eq_some_iff.1 b;exact⟨a,c,rfl⟩
theorem QR {wid:A2L}{l:List Ev}(b: ∀(i:Nat) (a:Ev),l[i]? =some a->a.id=i+1/\Em a=true){i:Nat}{a:Ev}(c:l[i]? =some a):(Om wid a).key=eg wid (i+1):=by unfold Om;rw[(b i a c).1];rfl
theorem Xe {wid:A2L}{l:List Ev}(j:l.length<=500)(c: ∀(i:Nat) (a:Ev),l[i]? =some a->a.id=i+1/\Em a=true):Sorted (Sq wid l):=by unfold Sorted;rw[List.pairwise_iff_getElem];intro i k d b m;obtain⟨a,e,f⟩:=RG (A2 d);obtain⟨n,g,h⟩:=RG (A2 b);rw[f,h,QR c e,QR c g];unfold Sq at b;rw[Bs] at b;exact lX (by omega) (by omega)
theorem lH {q:A2L->Bool}{a:A2L}: ∀ {l:List Pr},Af a (l.filter λx=>q x.key)=if q a=true then Af a l else none
 | []=>by simp[M.QS]
 |x::l=>by
  rw[AS];by_cases b:x.key=a
  ·subst b;split
   ·rw[M.BB,M.BB,if_pos rfl,if_pos rfl]
   ·rename_i c;rw[lH,if_neg c]
  ·split
   ·rw[M.BB,if_neg b,lH,M.BB,if_neg b]
   ·rw[lH,M.BB,if_neg b]
theorem ANE {a:A2L}{b:Nat}{l:List Pr}(c: ∀x∈l.take b,x.key≠a):Af a (l.drop b)=Af a l:=by
 conv=>rhs;rw[<- DA b l]
 rw[M.LV,M.EI c,LO]
theorem APx {k:List Pr}{p:cG}{u:dk}{wid:A2L}{l:List Ev}{e:Nat}(s:Sorted k)(m:Jk k p u)(v:Aj wid=true)(n:p wid=some l)(A:e<=l.length):
  jf k (XA wid) (eg wid (e+1)) 32=((Sq wid l).drop e).take 32:=by
 have h:=(m.dE wid l n).next.2;have w:=(m.dE wid l n).len;unfold jf;rw[show(32:Int).toNat=32 from rfl];congr 1;refine Sorted.ext (s.sublist G4) ((Xe w h).sublist (List.drop_sublist _ _)) λc=>?_
 rw[lH (q:=λc=>Km (XA wid) c&& !aM c (eg wid (e+1)))];by_cases j:Km (XA wid) c=true
 ·rw[j,DB];have r:=m.cI wid v c j;rw[n,HI] at r;by_cases f:aM c (eg wid (e+1))=true
  ·rw[f,if_neg (by simp)]
   symm
   refine M.EI λx g b=>?_
   obtain⟨i,a⟩:=F2 g;rw[C5] at a;obtain⟨t,d,rfl⟩:=RG a;rw[QR h d] at b;subst b;have y:=(List.getElem?_eq_some_iff.1 d).1;by_cases z:i=0
   ·subst z;rw[G0,Ca] at f;cases f
   ·have:=OQ f;rw[lX (by omega) (by omega)] at this;cases this
  ·have o:aM c (eg wid (e+1))=false:=by simpa using f
   rw[o,if_pos (by rfl),r]
   symm
   refine ANE λx g b=>?_
   obtain⟨i,a⟩:=F2 g;rw[Fc] at a;split at a
   ·rename_i B;obtain⟨t,d,rfl⟩:=RG a;have y:=(List.getElem?_eq_some_iff.1 d).1;rw[QR h d] at b;subst b;rw[lX (by omega) (by omega)] at o;cases o
   ·cases a
 ·rw[if_neg (by simp[j])]
  symm
  refine M.EI λx g b=>?_
  obtain⟨i,a⟩:=F2 g;rw[C5] at a;obtain⟨t,d,rfl⟩:=RG a;rw[QR h d] at b;subst b;exact j (xk wid _)
theorem KL {a:A2L}{b m:List Pr}(s:Sorted m)(c: ∀d∈b,d.key≠a):Af a (cy m b)=Af a m:=by rw[YO a s,M.EI λx e=>c x (List.mem_reverse.1 e)]
theorem na {b m:List Pr}(s:Sorted m){p:Pr}(d:p∈b)(e: ∀a∈b,a.key=p.key->a=p):Af p.key (cy m b)=if p.gone then none else some p:=by
 rw[YO p.key s];cases c:Af p.key b.reverse with
 |none=>
  exfalso;unfold Af at c;rw[Hb] at c;have:=c p (List.mem_reverse.2 d);simp at this
 |some a=>
  obtain⟨f,g⟩:=M.MO c;obtain rfl:=e a (List.mem_reverse.1 g) f;show alive (some a)=_;rw[H7]
def dB {a:Type}(f:A2L->Option a)(c:A2L)(x:a):A2L->Option a:=λb=>if b=c then some x else f b
theorem Ju {a:Type}{f:A2L->Option a}{b:A2L}{x:a}:dB f b x b=some x:=if_pos rfl
theorem Pt {b:Type}{f:A2L->Option b}{c a:A2L}{x:b}(d:a≠c):dB f c x a=f a:=if_neg d
def pA {a:Type}(f:A2L->Option a):Option (A2L×a)->A2L->Option a
 |none=>f
 |some (b,x)=>dB f b x
structure fE (b:List Pr) (o:Option (A2L×(List UInt8×Int×Int))):Prop where
 fq: ∀p∈b,(BM p.key≠104/\BM p.key≠119/\BM p.key≠114)\/ ∃r x,o=some (r,x)/\p=YZ r x
 has: ∀r x,o=some (r,x)->YZ r x∈b/\Aj r=true/\(0<=x.2.1/\x.2.1<=4)/\(0<=x.2.2/\x.2.2<=501)/\x.1.length<=2000
theorem Jk.land {F b:List Pr}{h:cG}{A:dk}{wid:A2L}{more:List Ev}{t:Option (A2L×(List UInt8×Int×Int))}(q:Jk F h A)(s:Sorted F)(G:Aj wid=true)
  (o:R3 ((h wid).getD []++more)) (B:fE b t):
  Jk (cy F (more.map (Om wid)++([Tc wid ((h wid).getD []++more)]++b))) (dB h wid ((h wid).getD []++more)) (pA A t):=by
 have N:=o.next.2;have P:=o.len;have u: ∀p∈b,BM p.key≠104/\BM p.key≠119:=λp C=>by
  rcases B.fq p C with a|⟨f,x,_,rfl⟩
  ·exact⟨a.1,a.2.1⟩
  ·exact⟨by show BM (Kk f)≠104;rw[LM];decide,by show BM (Kk f)≠119;rw[LM];decide⟩
 have rowAt: ∀e∈more,∃i:Nat,((h wid).getD []++more)[i]? =some e/\(Om wid e).key=eg wid (i+1):=λe Q=>by
  obtain⟨i,v⟩:=F2 Q;have:((h wid).getD []++more)[((h wid).getD []).length+i]? =some e:=by rw[Fk (by omega),Ts];exact v
  exact⟨_,this,QR N this⟩
 refine⟨λd w D y=>?_,λd w=>?_,λf O=>?_,λd l E=>?_,λf x m=>?_⟩
 ·have k:=qW y;by_cases e:d=wid
  ·subst e;rw[Ju,HI];by_cases H: ∃p∈more.map (Om d),p.key=D
   ·obtain⟨p,C,rfl⟩:=H;obtain⟨n,z,rfl⟩:=List.mem_map.1 C;obtain⟨i,v,R⟩:=rowAt n z;have S:Om d n∈Sq d ((h d).getD []++more):=List.mem_map.2 ⟨n,AK v,rfl⟩;rw[Sorted.find (Xe P N) S,na s (Hc _ C) (λg j c=>?_)]
    ·rfl
    ·rcases List.mem_append.1 j with a|a
     ·obtain⟨T,U,rfl⟩:=List.mem_map.1 a;obtain⟨V,I,W⟩:=rowAt T U;have Z:=(List.getElem?_eq_some_iff.1 v).1;have aa:=(List.getElem?_eq_some_iff.1 I).1;rw[R,W] at c;have:=(AQZ (FK G) (FK G) (by omega) (by omega) c).2;have:V=i:=by omega
      subst this;rw[v] at I;cases I;rfl
     ·rcases List.mem_append.1 a with a|a
      ·rw[List.mem_singleton.1 a] at c;rw[<- c] at k;rw[show BM (Tc d ((h d).getD []++more)).key=119 from GH d] at k;exact absurd k (by decide)
      ·exact absurd (by rw[c];exact k) (u g a).1
   ·rw[KL s λg j c=>?_,q.cI d w D y]
    ·unfold Sq;rw[Bm,M.LV,M.EI (l:=more.map (Om d)) λx m X=>H ⟨x,m,X⟩];cases Af D (List.map (Om d) ((h d).getD []))<;>rfl
    ·rcases List.mem_append.1 j with a|a
     ·exact H ⟨g,a,c⟩
     ·rcases List.mem_append.1 a with a|a
      ·rw[List.mem_singleton.1 a] at c;rw[<- c] at k;rw[show BM (Tc d ((h d).getD []++more)).key=119 from GH d] at k;exact absurd k (by decide)
      ·exact absurd (by rw[c];exact k) (u g a).1
  ·rw[Pt e,KL s λg j c=>?_,q.cI d w D y];rcases List.mem_append.1 j with a|a
   ·obtain⟨n,z,rfl⟩:=List.mem_map.1 a;rw[<- c] at y;exact e (xl (FK w) (FK G) y)
   ·rcases List.mem_append.1 a with a|a
    ·rw[List.mem_singleton.1 a] at c;rw[<- c] at k;rw[show BM (Tc wid ((h wid).getD []++more)).key=119 from GH wid] at k;exact absurd k (by decide)
    ·exact absurd (by rw[c];exact k) (u g a).1
 ·by_cases e:d=wid
  ·subst e;rw[Ju];refine(na (p:=Tc d ((h d).getD []++more)) s (by simp) λg j c=>?_).trans rfl;rcases List.mem_append.1 j with a|a
   ·obtain⟨n,z,rfl⟩:=List.mem_map.1 a;have:=congrArg BM c;rw[show BM (Om d n).key=104 from Yq _ _,show BM (Tc d ((h d).getD []++more)).key=119 from GH d] at this;exact absurd this (by decide)
   ·rcases List.mem_append.1 a with a|a
    ·exact List.mem_singleton.1 a
    ·exact absurd ((congrArg BM c).trans (GH d)) (u g a).2
  ·rw[Pt e,KL s λg j c=>?_,q.fR d w];rcases List.mem_append.1 j with a|a
   ·obtain⟨n,z,rfl⟩:=List.mem_map.1 a;have:=congrArg BM c;rw[show BM (Om wid n).key=104 from Yq _ _,GH] at this;exact absurd this (by decide)
   ·rcases List.mem_append.1 a with a|a
    ·rw[List.mem_singleton.1 a] at c;exact e (ANh c).symm
    ·exact absurd ((congrArg BM c).trans (GH d)) (u g a).2
 ·have no: ∀g∈more.map (Om wid)++([Tc wid ((h wid).getD []++more)]++b),g.key=Kk f-> ∃x,t=some (f,x)/\g=YZ f x:=λg j c=>by
   have o:=(congrArg BM c).trans (LM f);rcases List.mem_append.1 j with a|a
   ·obtain⟨n,z,rfl⟩:=List.mem_map.1 a;rw[show BM (Om wid n).key=104 from Yq _ _] at o;exact absurd o (by decide)
   ·rcases List.mem_append.1 a with a|a
    ·rw[List.mem_singleton.1 a,show BM (Tc wid ((h wid).getD []++more)).key=119 from GH wid] at o;exact absurd o (by decide)
    ·rcases B.fq g a with a|⟨r,x,Y,rfl⟩
     ·exact absurd o a.2.2
     ·have:r=f:=xn c;subst this;exact⟨x,Y,rfl⟩
  cases t with
  |none=>
   rw[KL s λg j c=>?_,q.kA f O]
   ·rfl
   ·obtain⟨x,m,_⟩:=no g j c;cases m
  |some J=>
   obtain⟨r,x⟩:=J;show _=(dB A r x f).map (YZ f);by_cases e:f=r
   ·subst e;rw[Ju];refine(na (p:=YZ f x) s ?_ λg j c=>?_).trans rfl
    ·exact ID _ (ID _ (B.has f x rfl).1)
    ·obtain⟨K,L,rfl⟩:=no g j c;cases L;rfl
   ·rw[Pt e,KL s λg j c=>?_,q.kA f O];obtain⟨K,L,_⟩:=no g j c;cases L;exact e rfl
 ·by_cases e:d=wid
  ·subst e;rw[Ju] at E;cases E;exact o
  ·rw[Pt e] at E;exact q.dE d l E
 ·cases t with
  |none=>exact q.kB f x m
  |some J=>
   obtain⟨r,K⟩:=J;have m:dB A r K f=some x:=m;by_cases e:f=r
   ·subst e;rw[Ju] at m;cases m;exact(B.has f x rfl).2.2
   ·rw[Pt e] at m;exact q.kB f x m
theorem Jk.aR {g b:List Pr}{j:cG}{k:dk}(a:Jk g j k)(s:Sorted g)(h: ∀p∈b,BM p.key≠104/\BM p.key≠119/\BM p.key≠114):Jk (cy g b) j k:=by
 refine⟨λf i n l=>?_,λf i=>?_,λm o=>?_,a.dE,a.kB⟩
 ·rw[KL s λc d e=>(h c d).1 (by rw[e];exact qW l)];exact a.cI f i n l
 ·rw[KL s λc d e=>(h c d).2.1 (by rw[e];exact GH f)];exact a.fR f i
 ·rw[KL s λc d e=>(h c d).2.2 (by rw[e];exact LM m)];exact a.kA m o
theorem Jk.empty:Jk [] (λ_=>none) (λ_=>none):=
 ⟨λb _ d _=>rfl,λb _=>rfl,λc _=>rfl,λb l a=>(by cases a),λc x a=>(by cases a)⟩
theorem yl {w:aq}{a:aa}{s:A2L}{r:A2K}(D:s.size<=1099511627776)(b:r (J3 (Aj s)) a):AA w P Jm #[J7 s] a r:=by
 refine TW ?_;unfold NV;refine Loop.rule (λm x g=> ∃i:Nat,x=((i:Int),())/\g=a/\m=s.size-i/\i<=s.size/\ ∀c∈(bl s).take i,33<=c.toNat/\c.toNat<=126) ?_ ⟨0,rfl,rfl,rfl,by omega,by simp⟩;rintro E m _ g ⟨i,rfl,e,rfl,F,j⟩ y;subst g;refine af.intro (λk=>?_) (λk=>?_)
 ·have l:i<s.size:=by simpa using k
  obtain⟨c,n⟩: ∃c,(bl s)[i]? =some c:=⟨_,A2 (by rw[Ay];exact l)⟩;have z:c∈bl s:=AK n;dsimp only;rw[Nu n];refine ai.mk λA B=>⟨⟨by omega,by omega⟩,?_⟩
  have t: ∀h:Bool,(h=true↔ ¬(33<=c.toNat/\c.toNat<=126))->A (h,()) a:=λh u=>by
   refine B _ _ ?_;refine af.intro (λf=>?_) (λf=>?_)
   ·have e:Aj s=false:=by rw[OK];intro C;exact u.1 f ((FV.1 C).2.2 c z)
    rw[e] at b;exact b
   ·rw[Ae (by omega)];refine y (s.size-(i+1)) _ _ (by omega) ⟨i+1,rfl,rfl,rfl,l,λx d=>?_⟩;rw[As,n,CT] at d;rcases List.mem_append.1 d with d|d
    ·exact j x d
    ·simp at d;subst d;have f:h=false:=f;exact Decidable.byContradiction λg=>by rw[u.2 g] at f;cases f
  refine af.intro (λo=>t _ ⟨λ_=>by simp at o;omega,λ_=>rfl⟩) (λo=>⟨⟨by omega,by omega⟩,t _ ⟨λv=>by simp at v;omega,λv=>by simp at o;simp;omega⟩⟩)
 ·have l:i=s.size:=by simp at k;omega
  rw[AF (by rw[Ay];omega)] at j;have e:Aj s=(decide (1<=s.size)&&decide (s.size<=16)):=by rw[DS,FV];simp only[A4,decide_eq_true_eq];exact⟨λa=>⟨a.1,a.2.1⟩,λa=>⟨a.1,a.2,j⟩⟩
  rw[e] at b;refine af.intro (λp=>?_) (λp=>?_)
  ·have q:1<=s.size:=by simp at p;omega
   rw[decide_eq_true q,DB] at b;have e:decide ((s.size:Int)<=(16:Int))=decide (s.size<=16):=by rw[decide_eq_decide];omega
   rw[e];exact b
  ·have q: ¬1<=s.size:=by simp at p;omega
   rw[decide_eq_false q,DG] at b;exact b
theorem af.and {b:Bool}{a c:Prop}(d:b=true->a)(e:b=false->c):af b a c:=af.intro d e
theorem Kg {s:A2L}(a:s.size<18446744073709551616):(BQ (bl s)).length<=10+s.size:=by have:=AV a;simp only[BQ,A1,Ay];omega
theorem yn {x:bP}(a:NE x=true):0<=x.kind/\x.kind<=3/\(x.kind=1\/x.kind=2\/x.kind=3)/\x.name.size<=16/\x.aL.size<=16/\0<=x.tries/\x.tries<=5/\0<=x.aA/\x.aA<=5/\0<=x.wait/\x.wait<=1000:=by
 have d: ∀ {s:A2L},Aj s=true->s.size<=16:=λa=>(FV.1 a).2.1
 have z:Hr.size=0:=rfl;unfold NE at a;split at a
 ·rename_i e;simp only[A4,DE,decide_eq_true_eq,Ba] at a;obtain⟨⟨⟨g,h⟩,l⟩,m⟩:=a;have:=d h;rcases g with⟨b,c⟩|⟨b,c⟩
  ·rw[b];omega
  ·have:=d b;omega
 ·split at a
  ·rename_i i e;simp only[A4,decide_eq_true_eq,Ba] at a;obtain⟨⟨⟨⟨b,c⟩,j⟩,k⟩,f⟩:=a;rw[b,c];omega
  ·split at a
   ·rename_i i n e;simp only[A4,decide_eq_true_eq] at a;obtain⟨⟨⟨⟨b,c⟩,j⟩,k⟩,f⟩:=a;have:=d f;rw[b];omega
   ·cases a
theorem AJ7 {x:bP}(a:NE x=true):(G9 x).length<=100:=by
 obtain⟨b,c,d,e,f,g,h,i,j,k,l⟩:=yn a;have m:=AV (n:=x.kind.toNat) (by omega);have o:=AV (n:=x.tries.toNat) (by omega);have p:=AV (n:=x.aA.toNat) (by omega);have q:=AV (n:=x.wait.toNat) (by omega);have r:=Kg (s:=x.name) (by omega);have t:=Kg (s:=x.aL) (by omega);unfold G9;rw[A1];split
 ·simp only[A1];omega
 ·split<;>omega
theorem PT: ∀ {l:List bP},l.all NE=true->(l.flatMap G9).length<=l.length*100
 | [],_=>by simp
 |x::l,a=>by
  simp only[N5,A4] at a;have b:=AJ7 a.1;have c:=PT a.2;simp only[AH,A1,A5];omega
def YA(p:ck):J0:=J1 #[J7 (AY (if F4 p then Ci p else [])),J6 J9 (if F4 p then 0 else 130)]
section
variable {A : aq} {h : aa} {R : A2K}
theorem tU {l:List Ev}{sl:Sl}{t:bd}(v:View dS h sl l)(av:l.length<=500)(hd: ∀f∈l,f.data.size<1099511627776)(V:Eo TA l=some t)
  (W: ∀y a b c,Ext h y->JO y t a b c->(∀ x,a.ah=some x\/b.ah=some x\/c.ah=some x->h.size<=x)->R (J1 #[(t.V a b c).v,J6 J9 0,J6 J9 0]) y):
  AA A P MR #[J4 sl.p sl.len sl.cap] h R:=by
 refine ACo ?_;unfold WI;refine ao.mk λaw _ X Y E=>ao.mk λax _ F G ay=>?_
 rw[E] at F;rw[E];have Z:=Y.trans G;have aa: ∀x,(⟨none,0,0⟩:Sl).ah=some x\/(⟨none,0,0⟩:Sl).ah=some x\/(⟨none,0,0⟩:Sl).ah=some x->h.size+2<=x:=λx d=>by simp[Sl.ah] at d
 refine Loop.rule (λm x k=> ∃(i:Nat) (s:bd) (a b c:Sl),x=((i:Int),())/\m=l.length-i/\i<=l.length/\Ext h k/\k[h.size]? =some (J2 bG.z.c Ar (0,0))/\k[h.size+1]? =some (J2 (s.V a b c).c Ar (0,0))/\
   JO k s a b c/\(∀ x,a.ah=some x\/b.ah=some x\/c.ah=some x->h.size+2<=x)/\De s i/\Eo s (l.drop i)=some t) ?_
  ⟨0,TA,⟨none,0,0⟩,⟨none,0,0⟩,⟨none,0,0⟩,rfl,rfl,AD _,Z,G.ah X (λh=>h),F,⟨View.nil,View.nil,View.nil⟩,aa,De.zero,V⟩
 rintro K m _ H ⟨i,s,a,b,c,rfl,rfl,az,n,I,o,J,fr,L,g⟩ ab;have aA:=v.len;refine af.intro (λz=>?_) (λz=>?_)
 ·have j:i<l.length:=by simp at z;omega
  obtain⟨f,p⟩: ∃f,l[i]? =some f:=⟨_,A2 j⟩;have ac:=AK p;have ad:l.drop i=f::l.drop (i+1):=by rw[E0 j];rw[A2 j] at p;cases p;rfl
  rw[ad,Eo] at g;split at g;rotate_left
  ·cases g
  rename_i M;refine(v.ext n).idx p λaC _ ae=>Nn.mk f ae ?_
  refine ao.mk λN _ q ag ah=>aF.mk q (A0 8) λai O aj aD=>?_
  rw[pG] at O;have r:Ext H ai:=ag.more aj λc e=>by subst e;exact A0 _
  have aE:=Ai o;refine Az.mk (s.V a b c) (FH (r.ah o λh=>h)) (Nn.mk f (Qc O) ?_);refine pR (J.ext r) L (by omega) (hd f ac) λaG ak al am an ap u=>Gl.mk _ ⟨_,rfl,?_⟩
  rw[M];have B:=r.trans an;refine ao.mk λaH _ aq C aI=>aF.mk aq (A0 12) λar Q S aJ=>af.no rfl ?_
  rw[O9] at Q;have w:Ext H ar:=B.more (C.mod.trans S) λc e=>by subst e;exact B.size
  refine Az.mk _ (FH Q) (aF.mk (w.ah o λh=>h) (A0 12) λaK T D aL=>?_);rw[O9] at T;dsimp only;rw[Ae (by omega)];have aM:=r.size;have aN:=C.size;have aO:=B.size;have aP:=w.size;have aQ:=n.size;refine ab (l.length-(i+1)) _ _ (by omega) ⟨i+1,_,ak,al,am,rfl,rfl,j,(n.trans w).more D λc e=>by subst e;omega,D.ah (w.ah I λh=>h) (by omega),T,?_,λx d=>?_,Tp L M,g⟩
  ·have au:=ap.ext (C.more S λc e=>by subst e;exact A0 _);exact au.mod D (λx d e=>by have:=u x (.inl d);omega) (λx d e=>by have:=u x (.inr (.inl d));omega) (λx d e=>by have:=u x (.inr (.inr d));omega)
  ·have:=u x d;omega
 ·have j:i=l.length:=by simp at z;omega
  subst j;rw[Mn,Eo] at g;obtain rfl:s=t:=BY g;refine Az.mk (s.V a b c) (FH o) (aF.mk I (A0 12) λN q U ah=>?_);rw[O9] at q;refine Az.mk (s.V a b c) (FH q) (W N a b c (n.more U λc e=>by subst e;exact A0 _) (J.mod U (λx d e=>by have:=fr x (.inl d);omega) (λx d e=>by have:=fr x (.inr (.inl d));omega) (λx d e=>by have:=fr x (.inr (.inr d));omega)) λx d=>by have:=fr x d;omega)
theorem ARp {wid:A2L}{l:List Ev}{sl:Sl}(s:Aj wid=true)(v:View dS h sl l)(S:l.length<=1000)(hd: ∀a∈l,Em a=true/\a.data.size<1099511627776)
  (z: ∀d f,Own BR AR f d (l.map (Om wid))->(∀ b,d.ah=some b->h.size<=b)->Ext h f->R (J1 #[J4 d.p d.len d.cap,J6 J9 0]) f):
  AA A P PS #[J7 wid,J4 sl.p sl.len sl.cap] h R:=by
 refine AGo ?_;unfold uN;refine Ep ⟨_,rfl,?_⟩;rw[s];refine af.no rfl ?_;refine Loop.rule (λm x t=> ∃(i:Nat) (e:Sl),x=(e,(i:Int),())/\m=l.length-i/\i<=l.length/\Ext h t/\Own BR AR t e ((l.take i).map (Om wid))/\(∀ b,e.ah=some b->h.size<=b)) ?_
  ⟨0,⟨none,0,0⟩,rfl,rfl,AD _,Mod.refl,Own.nil,λb k=>by simp[Sl.ah] at k⟩
 rintro K m _ u ⟨i,e,rfl,rfl,T,g,n,fr⟩ B;dsimp only;have U:=v.len;refine af.intro (λo=>?_) (λo=>?_)
 ·have j:i<l.length:=by simp at o;omega
  obtain⟨a,p⟩: ∃a,l[i]? =some a:=⟨_,A2 j⟩;obtain⟨ok,C⟩:=hd a (AK p);obtain⟨_,⟨V,W⟩,_⟩:=Ri ok;refine(v.ext g).idx p λX _ D=>Nn.mk a D ?_
  refine ao.mk λY _ F G Z=>aF.mk F (A0 8) λH q I aa=>?_
  rw[pG] at q;have J:Ext u H:=G.more I λc L=>by subst L;exact A0 _
  refine Nn.mk a (Qc q) (AK3 C λab w=>?_);unfold oC;rw[ok];refine⟨_,_,rfl,af.no rfl (AC.mk (AO (w.ah q λh=>h) rfl) ?_)⟩;have ac:=FK s;rw[show a.id=((a.id.toNat:Nat):Int) from by omega];refine tP (by omega) (by omega) λad M=>⟨_,rfl,?_⟩
  have r:=(J.trans w).trans M;refine ao.aY (E:=BR) (x:=Om wid a) rfl G6 (n.ext r) (by simp only[Bs,Ax];omega) (by simp only[Bs,Ax,maxLen];omega) λd f N O Q ae=>?_
  rw[Ae (by omega)];refine B (l.length-(i+1)) _ _ (by omega) ⟨i+1,d,rfl,rfl,j,(g.trans r).more O fr,?_,λb k=>?_⟩
  ·rw[As,p,CT,Bm];exact N
  ·rcases Q b k with y|y
   ·exact fr b y
   ·have:=(g.trans r).size;omega
 ·have j:i=l.length:=by simp at o;omega
  rw[j,BT] at n;exact z e u n fr g
theorem tV {t:cm}(o: ∀d,Ext h d->R (J1 #[J7 (if Gy ⟨t.kind,t.ref,t.turn⟩ t.wid then gf ⟨t.kind,t.ref,t.turn⟩ t.wid else⟨#[]⟩),J6 J9 (if Gy ⟨t.kind,t.ref,t.turn⟩ t.wid then 0 else 1)]) d):AA A P Pm #[t.v] h R:=by
 refine AGU ?_;unfold uP;refine ao.mk λf _ a p _=>?_
 refine ai.mk λK y=>?_
 have key: ∀k:Bool,k= !Gy ⟨t.kind,t.ref,t.turn⟩ t.wid->K (k,()) f:=λk g=>by
  refine y _ _ ?_;cases b:Gy ⟨t.kind,t.ref,t.turn⟩ t.wid with
  |false=>
   have:=o f p;rw[b] at this g;exact af.yes g this
  |true=>
   rw[b] at g;refine af.no g ?_;have z: ∀d,Ext f d->R (J1 #[J7 (gf ⟨t.kind,t.ref,t.turn⟩ t.wid),J6 J9 0]) d:=λd x=>by
    have:=o d (p.trans x);rw[b] at this;exact this
   unfold Gy at b;simp only[A4,Ba] at b;obtain⟨⟨⟨⟨Q,S⟩,l⟩,T,U⟩,V,W⟩:=b;have X:=FK l;have Y:=AV (n:=t.kind.toNat) (by omega);have Z:=AV (n:=t.ref.toNat) (by omega);have aa:=AV (n:=t.turn.toNat) (by omega);have ab:=Kg (s:=t.wid) (by omega);refine AC.mk (AO a rfl) (AJ.mk (n:=t.wid) (AB a rfl) (AC.mk (n:=t.ref) (AB a rfl) (AC.mk (n:=t.turn) (AB a rfl) ?_)));rw[Od (n:=t.kind) (by omega) (by omega)];refine Cc (by omega) λac q=>⟨_,rfl,?_⟩
   have i:=q.ah a λh=>h
   refine⟨AB i rfl,AB i rfl,AB i rfl,KX (by omega) λad r=>⟨_,rfl,?_⟩⟩;have m:=r.ah i λh=>h
   refine⟨AB m rfl,AB m rfl,by rw[AP,AP,max_i64];omega,?_⟩;rw[Od (n:=t.ref) (by omega) (by omega)];refine Cc (by omega) λae u=>⟨_,rfl,?_⟩
   have B:=u.ah m λh=>h
   refine⟨AB B rfl,by rw[Ak,AP,AP,max_i64,A1];omega,?_⟩;rw[Od (n:=t.turn) (by omega) (by omega)];refine Cc (by omega) λj C=>⟨_,rfl,⟨by rw[Ak,Ak,AP,AP,max_i64,A1,A1];omega,?_⟩⟩
   rw[Ak,Ak,Ak,A3,A3];exact z j (((q.trans r).trans u).trans C)
 have no: ∀ {P:Prop},¬P->(Gy ⟨t.kind,t.ref,t.turn⟩ t.wid=true->P)->K (true,()) f:=λD E=>key true (by
  cases b:Gy ⟨t.kind,t.ref,t.turn⟩ t.wid with
  |false=>rfl
  |true=>exact absurd (E b) D)
 have e:Gy ⟨t.kind,t.ref,t.turn⟩ t.wid=true->(1<=t.kind/\t.kind<=7)/\Aj t.wid=true/\(0<=t.ref/\t.ref<=500)/\0<=t.turn/\t.turn<=5:=λb=>by
  unfold Gy at b;simp only[A4,Ba] at b;obtain⟨⟨⟨F,l⟩,G⟩,H⟩:=b;exact⟨F,l,G,H⟩
 refine AC.mk (AO a rfl) (af.intro (λc=>no (P:=1<=t.kind) (by simp at c;omega) λh=>(e h).1.1) λI=>?_);refine AC.mk (AO a rfl) (af.intro (λc=>no (P:=t.kind<=7) (by simp at c;omega) λh=>(e h).1.2) λJ=>?_);refine AJ.mk (n:=t.wid) (AB a rfl) (Ep ⟨_,rfl,af.intro (λc=>no (P:=Aj t.wid=true) (by simp at c;simp[c]) λh=>(e h).2.1) λv=>?_⟩);refine AC.mk (n:=t.ref) (AB a rfl) (af.intro (λc=>no (P:=0<=t.ref) (by simp at c;omega) λh=>(e h).2.2.1.1) λL=>?_);refine AC.mk (n:=t.ref) (AB a rfl) (af.intro (λc=>no (P:=t.ref<=500) (by simp at c;omega) λh=>(e h).2.2.1.2) λM=>?_);refine AC.mk (n:=t.turn) (AB a rfl) (af.intro (λc=>no (P:=0<=t.turn) (by simp at c;omega) λh=>(e h).2.2.2.1) λw=>?_);refine AC.mk (n:=t.turn) (AB a rfl) (key _ ?_);unfold Gy;simp at I J v L M w;have N:bV t.kind 1 7=true:=Ba.2 (by omega);have O:bV t.ref 0 500=true:=Ba.2 (by omega);rw[N,O,v];show _= !(bV t.turn 0 5);unfold bV;by_cases j:t.turn<=5
 ·simp[j,w]
 ·simp[j];omega
theorem tW {s:Sl}{p:ck}(v:View QT h s p.steps)(U:p.steps.length<=1099511627776)(G: ∀b,Ext h b->R (YA p) b):
  AA A P MW #[.agg #[J4 s.p s.len s.cap,J6 J9 p.az]] h R:=by
 refine ACe ?_;unfold WC;refine ao.mk λaA _ u k _=>?_
 refine AZ.mk (s:=s) (AO u rfl) (AC.mk (AB u rfl) ?_);refine yg (p:=p) (v.ext k) U λw o=>⟨_,rfl,?_⟩
 cases q:F4 p with
 |false=>
  refine af.yes rfl ?_;have:=G w (k.trans o);rw[YA,q] at this;exact this
 |true=>
  refine af.no rfl ?_;have V: ∀b,Ext w b->R (J1 #[J7 (AY (Ci p)),J6 J9 0]) b:=λb x=>by
   have:=G b ((k.trans o).trans x);rw[YA,q] at this;exact this
  simp only[F4,A4,decide_eq_true_eq] at q;obtain⟨⟨aC,W⟩,H⟩:=q;have aD:=Ba.1 W;have y:=o.ah u (λh=>h);refine AC.mk (n:=p.az) (AB y rfl) (AZ.mk (s:=s) (AO y rfl) ?_);rw[Od (n:=p.az) (by omega) (by omega)];refine Cc (by omega) λaE I=>⟨_,rfl,?_⟩
  have J:=I.ah y (λh=>h);refine⟨AO J rfl,?_⟩;rw[v.len,CF (by omega)];have aF:=AV (n:=p.az.toNat) (by omega);have aG:=AV (n:=p.steps.length) (by omega);refine Cc (by omega) λX L=>⟨_,rfl,⟨by rw[AP,AP,max_i64];omega,?_⟩⟩
  have Y:=L.ah J (λh=>h);rw[Ak];refine AZ.mk (s:=s) (AO Y rfl) ?_;refine Loop.rule (λm x f=> ∃i:Nat,x=(AY ((Bc p.az.toNat++Bc p.steps.length)++(p.steps.take i).flatMap G9),(i:Int),())/\Ext X f/\m=p.steps.length-i/\i<=p.steps.length) ?_ ⟨0,by simp,Mod.refl,rfl,by omega⟩;rintro K m _ f ⟨i,rfl,M,rfl,aH⟩ Z;have N:Ext w f:=(I.trans L).trans M;have aa:Ext h f:=(k.trans o).trans N;dsimp only;have aI:=v.len;refine af.intro (λz=>?_) (λz=>?_)
  ·have B:i<p.steps.length:=by simp at z;omega
   obtain⟨x,C⟩: ∃x,p.steps[i]? =some x:=⟨_,A2 B⟩;have ab:=AK C;have ac:=List.all_eq_true.1 H x ab;obtain⟨aJ,aK,aL,aM,aN,aO,aP,aQ,aR,aS,aT⟩:=yn ac;have aU:((p.steps.take i).flatMap G9).length<=1600:=by
    have:=PT (l:=p.steps.take i) (List.all_eq_true.2 λad ag=>List.all_eq_true.1 H ad (DM ag));have:(p.steps.take i).length<=16:=by simp;omega
    omega
   have fin: ∀b,Ext f b->K (AY (((Bc p.az.toNat++Bc p.steps.length)++(p.steps.take i).flatMap G9)++G9 x),J8 J9 ((i:Int)+1),()) b:=λb ah=>by
    rw[Ae (by omega)];refine Z (p.steps.length-(i+1)) _ _ (by omega) ⟨i+1,?_,M.trans ah,rfl,B⟩;rw[As,C,CT,G3];simp[A3]
   generalize aj:(Bc p.az.toNat++Bc p.steps.length)++(p.steps.take i).flatMap G9=ak at*
   have aV:ak.length<=2000:=by rw[<- aj];simp only[A1];omega
   refine(v.ext aa).idx C λa _ c=>?_
   obtain⟨al,am,c2,an,c4,ap⟩:=yf c;refine AC.mk al (AJ.mk am (AJ.mk c2 (AC.mk an (AC.mk c4 (AC.mk ap ?_)))));refine ao.mk λaW _ aq ar aX=>ae.oS aq λau O av aY=>?_
   have aw:Ext f au:=ar.more av λc aZ=>by omega
   refine AC.mk (n:=x.kind) (AO O rfl) ?_;rw[Od (n:=x.kind) (by omega) (by omega)];refine Cc (by omega) λa0 Q=>⟨_,rfl,?_⟩
   have a1:=AV (n:=x.kind.toNat) (by omega);refine⟨by rw[AP,AP,max_i64];omega,?_⟩;have d:=Q.ah O (λh=>h);have D:=aw.trans Q;rw[Ak];refine AC.mk (n:=x.kind) (AO d rfl) ?_;have a2:=AV (n:=x.tries.toNat) (by omega);have a3:=AV (n:=x.aA.toNat) (by omega);have a4:=AV (n:=x.wait.toNat) (by omega);have a5:=Kg (s:=x.name) (by omega);have a6:=Kg (s:=x.aL) (by omega);refine ai.mk λa7 E=>?_
   refine af.intro (λe=>?_) (λe=>?_)
   ·have e:x.kind=1:=by simpa using e
    refine AJ.mk (n:=x.name) (AB d rfl) (AC.mk (n:=x.tries) (AB d rfl) (AJ.mk (n:=x.aL) (AB d rfl) (AC.mk (n:=x.aA) (AB d rfl) (KX (by omega) λr j=>⟨_,rfl,?_⟩))));have t:=j.ah d (λh=>h);refine⟨AB t rfl,AB t rfl,AB t rfl,?_⟩;rw[Od (n:=x.tries) (by omega) (by omega)];refine Cc (by omega) λa8 S=>⟨_,rfl,?_⟩
    have F:=S.ah t (λh=>h);refine⟨AB F rfl,AB F rfl,by rw[AP,AP,max_i64];omega,?_⟩;refine KX (by omega) λa9 T=>⟨_,rfl,?_⟩
    have ax:=T.ah F (λh=>h);refine⟨AB ax rfl,by rw[Ak,AP,AP,max_i64,A1];omega,?_⟩;rw[Od (n:=x.aA) (by omega) (by omega)];refine Cc (by omega) λay az=>⟨_,rfl,⟨?_,?_,E _ _ ?_⟩⟩
    ·rw[Ak,Ak,AP,AP,max_i64];simp only[A1];omega
    ·simp only[Ak,AP,max_i64,A1];omega
    ·have:=fin ay ((((D.trans j).trans S).trans T).trans az);simp only[G9] at this;rw[if_pos e] at this;simp only[Ak,A3] at this ⊢;exact this
   ·have e:x.kind≠1:=by simpa using e
    refine af.intro (λg=>?_) (λg=>?_)
    ·have g:x.kind=2:=by simpa using g
     refine AC.mk (n:=x.wait) (AB d rfl) ?_;rw[Od (n:=x.wait) (by omega) (by omega)];refine Cc (by omega) λr j=>⟨_,rfl,⟨by rw[AP,AP,max_i64,A1];omega,E _ _ ?_⟩⟩
     have:=fin r (D.trans j);simp only[G9] at this;rw[if_neg e,if_pos g] at this;simp only[Ak,A3] at this ⊢;exact this
    ·have g:x.kind≠2:=by simpa using g
     refine af.yes (by simp;omega) (AJ.mk (n:=x.name) (AB d rfl) (KX (by omega) λr j=>⟨_,rfl,⟨by rw[AP,AP,max_i64,A1];omega,E _ _ ?_⟩⟩));have:=fin r (D.trans j);simp only[G9] at this;rw[if_neg e,if_neg g] at this;simp only[Ak,A3] at this ⊢;exact this
  ·have B:i=p.steps.length:=by simp at z;omega
   have:=V f N;rw[AF (by omega)];exact this
end
def KI(a:Nat):A2L:=AY [116,CL a]
def pJ(a:Nat):A2L:=AY [109,CL a]
def LF(name:A2L):A2L:=AY (113::BQ (bl name))
section
variable {A : aq} {h : aa} {R : A2K}
theorem tn {a:Nat}(c:a<256)(d: ∀b,Ext h b->R (J7 (KI a)) b):AA A P Jc #[J6 J9 (a:Int)] h R:=by
 refine Pg ?_;unfold MK;refine Ym c λe f=>⟨_,rfl,⟨by rw[AP,max_i64];show((2:Nat):Int)<=9223372036854775807;decide,?_⟩⟩
 rw[show(⟨#[116]⟩:A2L)=AY [116] from rfl,Ak];exact d e f
theorem ANa {a:Nat}(c:a<256)(d: ∀b,Ext h b->R (J7 (pJ a)) b):AA A P Me #[J6 J9 (a:Int)] h R:=by
 refine Tg ?_;unfold QJ;refine Ym c λe f=>⟨_,rfl,⟨by rw[AP,max_i64];show((2:Nat):Int)<=9223372036854775807;decide,?_⟩⟩
 rw[show(⟨#[109]⟩:A2L)=AY [109] from rfl,Ak];exact d e f
theorem RS {name:A2L}(a:name.size<=1000000):(LF name).size<=1000012:=by
 have b:=AV (n:=(bl name).length) (by rw[Ay];omega);unfold LF;rw[AP];unfold BQ;rw[A5,A1,Ay] at*
 omega
theorem pK {name:A2L}(c:name.size<=1000000)(d: ∀a,Ext h a->R (J7 (LF name)) a):AA A P Pb #[J7 name] h R:=by
 refine AHG ?_;unfold uK;have b:=RS c;unfold LF at b;rw[AP,A5] at b;refine KX (by omega) λe f=>⟨_,rfl,⟨?_,?_⟩⟩
 ·rw[AP,max_i64,show(⟨#[113]⟩:A2L).size=1 from rfl];omega
 ·rw[show(⟨#[113]⟩:A2L)=AY [113] from rfl,Ak];exact d e f
theorem AMp {name id:A2L}(a:name.size<=1000000)(f:id.size<=1000000)(c: ∀b,Ext h b->R (J7 (LF name++id)) b):AA A P Py #[J7 name,J7 id] h R:=by refine ADc ?_;unfold We;exact pK a λd e=>⟨_,rfl,⟨by have:=RS a;rw[max_i64];omega,c d e⟩⟩
theorem tq {t:fM}{wid:A2L}(ok:Gy t wid=true)(r: ∀j,Ext h j->R (J1 #[(⟨t.kind,wid,t.ref,t.turn⟩:cm).v,J6 J9 0]) j):AA A P Jr #[J7 (gf t wid)] h R:=by
 have k:=ok;simp only[Gy,A4] at k;obtain⟨⟨⟨s,u⟩,v⟩,w⟩:=k;have V:=Ba.1 s;have W:=Ba.1 v;have X:=Ba.1 w;have Y:=(FV.1 u).2.1;have Z:=Fg (n:=t.kind.toNat) (by omega);have aa:=Fg (n:=t.ref.toNat) (by omega);have ab:=Fg (n:=t.turn.toNat) (by omega);have x:=AV (n:=(bl wid).length) (by rw[Ay];omega);have ac:(BQ (bl wid)).length<=26:=by unfold BQ;rw[A1,Ay];rw[Ay] at x;omega
 refine ADm ?_;unfold Vo gf lY;refine ao.mk λy _ l m ad=>?_
 refine Js λae z d=>⟨_,rfl,?_⟩
 refine DN (most:=7) z (by simp only[A1];omega) (by decide) λag B C=>⟨_,rfl,?_⟩
 rw[CQ (by omega) (by omega)] at*
 refine G8 B (by simp only[A1];omega) λah D E=>⟨_,rfl,?_⟩
 rw[IW (by rw[Ay];omega)] at*
 refine DN (most:=500) D (by simp only[A1];omega) (by decide) λaj F G=>⟨_,rfl,?_⟩
 rw[CQ (by omega) (by omega)] at*
 have H:CS 5 ⟨Bc t.turn.toNat,false⟩=(t.turn.toNat,⟨[],false⟩):=by have:=CQ (n:=t.turn.toNat) (most:=5) (by omega) (by omega) [];rwa [AM] at this
 refine DN (most:=5) F (by simp only;omega) (by decide) λI o J=>⟨_,rfl,?_⟩
 rw[H] at*
 rw[K9,show((t.kind.toNat:Nat):Int)=t.kind from P2 (by omega),show((t.ref.toNat:Nat):Int)=t.ref from P2 (by omega),show((t.turn.toNat:Nat):Int)=t.turn from P2 (by omega)];refine ao.mk λak _ L e al=>aF.mk L (A0 4) λf p g am=>Iq.mk ⟨t.kind,wid,t.ref,t.turn⟩ (Cu p rfl) ?_
 have an:=Ai l;have ap:=d.size;have i:=((C.trans E).trans G).trans J;have aq:=i.size;have M:f[h.size]? =some (J2 cm.z.c FU (0,0)):=g.ah (e.ah (i.ah (d.ah l (λh=>h)) (by omega)) (λh=>h)) (by omega);have N:Ie f y.size ⟨[],false⟩:=g.ah (e.ah o (λh=>h)) (by have:=Ai o;omega);have O:Ext h f:=by
  have q:Ext h I:=(m.trans d).more i λc a=>by subst a;exact m.size
  exact(q.trans e).more g λc a=>by subst a;exact q.size
 refine tV λar b=>⟨_,_,rfl,?_⟩
 rw[show(⟨t.kind,t.ref,t.turn⟩:fM)=t from rfl,if_pos ok];refine ai.mk λK Q=>af.no rfl (MU (b.ah N λh=>h) ⟨_,rfl,Q _ _ (af.no rfl ?_)⟩)
 refine Iq.mk ⟨t.kind,wid,t.ref,t.turn⟩ (Cu (b.ah p λh=>h) rfl) (aF.mk (b.ah M λh=>h) (A0 4) λS T U au=>Iq.mk ⟨t.kind,wid,t.ref,t.turn⟩ (Cu T rfl) ?_);exact r S ((O.trans b).more U λc a=>by subst a;exact A0 _)
end
end Go.Lf.G
namespace Go.Lf
open G
open Go
open M (Sorted Af CZ A8 Ag Aq BU Ah bA BG aO BC)
theorem View.dv {c:Type}{d:cD c}{e:Nat->Prop}{h f:aa}{s:Sl}{l:List c}(v:View d h s l)(m:Mod e h f)(j:l≠ []-> ∀b,s.ah=some b-> ¬e b):View d f s l:=by
 cases l with
 |nil=>exact⟨v.len,v.cap,λi x k=>by simp at k⟩
 |cons x l=>exact v.mod m (j (by simp))
end Go.Lf
namespace Go.Lf.G
open Go
open M (Sorted Af CZ A8 Ag Aq BU Ah bA BG aO BC)
end Go.Lf.G
namespace Go.Lf
open G
open Go
open M (Sorted Af CZ A8 Ag Aq BU Ah bA BG aO BC)
theorem View.mJ {f:Type}{d:cD f}{h:aa}{s:Sl}{l:List f}(v:View d h s l)(j:l≠ []){b:Nat}(e:s.ah=some b):b<h.size:=by
 cases l with
 |nil=>exact absurd rfl j
 |cons x l=>
  obtain⟨a,k,c⟩:=v.cells 0 x rfl;have m:0<(d.enc x).length:=by rw[d.len];exact d.pos
  have:=VI (c 0 _ (A2 m));rw[aU,aU] at this;unfold Sl.ah at e;rw[k] at e;cases e;exact this
end Go.Lf
namespace Go.Lf.G
open Go
open M (Sorted Af CZ A8 Ag Aq BU Ah bA BG aO BC)
theorem ae.mK {h:aa}{b d:Nat}{v:J0}{l l':List J0}{T:Q7}{K:aa->Prop}(e:h[b]? =some (J2 ⟨l⟩ T (0,0)))(f:d<l.length)(j:l.set d v=l')
  (k: ∀c,c[b]? =some (J2 ⟨l'⟩ T (0,0))->Mod (· =b) h c->c.size=h.size->K c):ae h ((⟨b,0,none⟩:Q6).add d) v K:=
 ae.bL e f (Wb l d v) λc m=>k c (by rw[<- j];exact m)
theorem Ce {h:aa}{b j:Nat}{l:List J0}{T:Q7}{fr:Nat×Nat}{v:J0}(c:h[b]? =some (J2 ⟨l⟩ T fr))(d:l[j]? =some v):ag h ((⟨b,0,none⟩:Q6).add j)=some v:=
 AB c (by simp_all)
theorem Cn {h:aa}{b i c:Nat}{l:List J0}{T:Q7}{fr:Nat×Nat}{v:J0}(d:h[b]? =some (J2 ⟨l⟩ T fr))(e:l[i+c]? =some v):ag h (((⟨b,0,none⟩:Q6).add i).add c)=some v:=by rw[add_add];exact Ce d e
theorem ARC {h:aa}{b i c d:Nat}{l:List J0}{T:Q7}{fr:Nat×Nat}{v:J0}(e:h[b]? =some (J2 ⟨l⟩ T fr))(f:l[i+(c+d)]? =some v):ag h ((((⟨b,0,none⟩:Q6).add i).add c).add d)=some v:=by rw[add_add];exact Cn e f
structure eE where
 hp:Nat
 ev:Sl
 fs:bG
 a:Sl
 b:Sl
 c:Sl
 more:Sl
 ar:Sl
 conds:Sl
abbrev eE.l(x:eE)(C:br):List J0:= [Am x.hp,J7 C.wid,J6 J9 (C.ak:Int),J6 J9 C.cq,J6 J9 C.bW,J3 C.kept,J4 x.ev.p x.ev.len x.ev.cap,
 J4 x.fs.steps.p x.fs.steps.len x.fs.steps.cap,J6 J9 x.fs.az,J6 J9 x.fs.status,J6 J9 x.fs.next,J6 J9 x.fs.aZ,J6 J9 x.fs.asked,J6 J9 x.fs.taken,J3 x.fs.fresh,J4 x.fs.au.p x.fs.au.len x.fs.au.cap,J4 x.fs.al.p x.fs.al.len x.fs.al.cap,J3 x.fs.cancel,J3 x.fs.aQ,
 J4 x.a.p x.a.len x.a.cap,J6 J9 C.st.prog.az,J6 J9 C.st.status,J6 J9 C.st.next,J6 J9 C.st.aZ,J6 J9 C.st.asked,J6 J9 C.st.taken,J3 C.st.fresh,J4 x.b.p x.b.len x.b.cap,J4 x.c.p x.c.len x.c.cap,J3 C.st.cancel,J3 C.st.aQ,
 J4 x.more.p x.more.len x.more.cap,J4 x.ar.p x.ar.len x.ar.cap,J4 x.conds.p x.conds.len x.conds.cap,J6 J9 C.err,J6 J9 C.now]
structure Fe (h:aa) (cb:Nat) (z:Nat->Nat) (x:eE) (C:br):Prop where
 ah:h[cb]? =some (J2 ⟨x.l C⟩ NI (0,0))
 zc:z cb=1
 st:JO h C.st x.a x.b x.c
 zs: ∀y,(C.st.prog.steps≠ []/\x.a.ah=some y)\/(C.st.au≠ []/\x.b.ah=some y)\/(C.st.al≠ []/\x.c.ah=some y)->z y=5
 more:Own dS A7 h x.more C.more
 zm: ∀y,x.more.ah=some y->z y=2
 ar:Own BR AR h x.ar C.ar
 zp: ∀y,x.ar.ah=some y->z y=3
 conds:Own BR AR h x.conds C.conds
 zq: ∀y,x.conds.ah=some y->z y=4
theorem JO.dv {k:Nat->Prop}{h n:aa}{s:bd}{a b c:Sl}(f:JO h s a b c)(m:Mod k h n)(j: ∀y,(s.prog.steps≠ []/\a.ah=some y)\/(s.au≠ []/\b.ah=some y)\/(s.al≠ []/\c.ah=some y)-> ¬k y):JO n s a b c:=
 ⟨f.steps.dv m λd y e=>j y (.inl ⟨d,e⟩),f.au.dv m λd y e=>j y (.inr (.inl ⟨d,e⟩)),f.al.dv m λd y e=>j y (.inr (.inr ⟨d,e⟩))⟩
section
variable {A : aq} {B : cH} {g h : aa} {s a N sh cb : Nat} {l : List Hs} {mp : List Pr} {O : Nat -> Prop} {i : Nat} {y : Hs} {z : Nat -> Nat} {x : eE} {C : br} {R : A2K}
theorem Fe.mod {f:Nat->Prop}{j:aa}(b:Fe h cb z x C)(m:Mod f h j)(e: ∀c,z c≠0-> ¬f c):Fe j cb z x C:=
 ⟨m.ah b.ah (e cb (by rw[b.zc];decide)),b.zc,b.st.dv m λy d=>e y (by rw[b.zs y d];decide),b.zs,b.more.mod m λy d=>e y (by rw[b.zm y d];decide),b.zm,b.ar.mod m λy d=>e y (by rw[b.zp y d];decide),b.zp,b.conds.mod m λy d=>e y (by rw[b.zq y d];decide),b.zq⟩
theorem Fe.on {b:aa}(c:Fe h cb z x C)(m:Ext h b):Fe b cb z x C:=c.mod m λ_ _ h=>h
theorem Fe.cell {d:aa}(b:Fe h cb z x C){f:Int}(m:Mod (· =cb) h d)(k:d[cb]? =some (J2 ⟨x.l {C with err:=f}⟩ NI (0,0))):Fe d cb z x {C with err:=f}:=by
 have ne: ∀y e,z y=e->e≠1-> ¬y=cb:=λy e j n o=>by subst o;rw[b.zc] at j;exact n j.symm
 exact⟨k,b.zc,b.st.dv m λy c=>ne y 5 (b.zs y c) (by decide),b.zs,b.more.mod m λy c=>ne y 2 (b.zm y c) (by decide),b.zm,b.ar.mod m λy c=>ne y 3 (b.zp y c) (by decide),b.zp,b.conds.mod m λy c=>ne y 4 (b.zq y c) (by decide),b.zq⟩
theorem Fe.err(c:Fe h cb z x C){d:Int}{K:aa->Prop}(e: ∀b,Fe b cb z x {C with err:=d}->Mod (· =cb) h b->b.size=h.size->K b):ae h ((⟨cb,0,none⟩:Q6).add 34) (J6 J9 d) K:=
 ae.mK c.ah (of_decide_eq_true rfl) rfl λb f m j=>e b (c.cell m f) m j
def gN(z:Nat->Nat)(s:Sl)(b:Nat):Nat->Nat:=λc=>if s.ah=some c then b else z c
theorem pS {s:Sl}{b c:Nat}(h:s.ah=some c):gN z s b c=b:=if_pos h
theorem pT {e f:Sl}{j:Nat}(k: ∀c,z c≠0->c<h.size)(m: ∀y,e.ah=some y->z y=j)(n: ∀b,f.ah=some b->e.ah=some b\/h.size<=b){c d:Nat}(o:z c=d)(p:d≠0):gN z f j c=d:=by grind [gN]
theorem pU {f d:Sl}{e:Nat}{j:aa}(k: ∀y,f.ah=some y->z y=e)(m:e≠0)(n: ∀b,d.ah=some b->f.ah=some b\/h.size<=b)(o: ∀b,d.ah=some b->b<j.size){c:Nat}(p:gN z d e c≠0):z c≠0\/(h.size<=c/\c<j.size):=by grind [gN]
theorem Fe.lh(d:Fe h cb z x C)(H: ∀c,z c≠0->c<h.size){src:Sl}{f:Ev}(v:View dS h src [f])(V:C.more.length<1000){K:aa->Prop}
  (M: ∀r j I,Fe r cb I {x with more:=j} {C with more:=C.more++ [f]}->Mod (λc=>z c≠0) h r->(∀ c,I c≠0->z c≠0\/(h.size<=c/\c<r.size))->K r):
  BJ A P (Builtin.append_ #[Bb,Bb] Bb #[J4 x.more.p x.more.len x.more.cap,J4 src.p src.len src.cap]) h λv n=> ∃t:Sl,v=J4 t.p t.len t.cap/\ae n ((⟨cb,0,none⟩:Q6).add 31) (J4 t.p t.len t.cap) K:=by
 refine Fz (E:=dS) (s:=x.more) (src:=src) mu d.more v (by grind) (by simp only[Cd,maxLen];omega) λj n J o L _=>?_
 have u: ∀c k,z c=k->k≠2-> ¬x.more.ah=some c:=λc k p D f=>by rw[d.zm c f] at p;exact D p.symm
 have Q:=o.ah d.ah (u cb 1 d.zc (by decide));refine ae.mK Q (of_decide_eq_true rfl) (l':=({x with more:=j}:eE).l {C with more:=C.more++ [f]}) rfl λD S q W=>?_
 have F: ∀c k,z c=k->k≠1-> ¬c=cb:=λc k p n f=>by subst f;rw[d.zc] at p;exact n p.symm
 have X:=H cb (by rw[d.zc];decide);have T: ∀b,j.ah=some b->b<n.size:=λb w=>J.lt w
 have aR: ∀ {c G:Nat},z c=G->G≠0->gN z j 2 c=G:=λm U=>pT H d.zm L m U
 refine M D j (gN z j 2) ⟨S,aR d.zc (by decide),?_,λy e=>aR (d.zs y e) (by decide),?_,λy e=>pS e,?_,λy e=>aR (d.zp y e) (by decide),?_,λy e=>aR (d.zq y e) (by decide)⟩ ?_ λc m=>?_
 ·exact(d.st.dv o λy e=>u y 5 (d.zs y e) (by decide)).dv q λy e=>F y 5 (d.zs y e) (by decide)
 ·refine J.mod q λb w f=>?_
  grind
 ·exact(d.ar.mod o λy e=>u y 3 (d.zp y e) (by decide)).mod q λy e=>F y 3 (d.zp y e) (by decide)
 ·exact(d.conds.mod o λy e=>u y 4 (d.zq y e) (by decide)).mod q λy e=>F y 4 (d.zq y e) (by decide)
 ·exact(o.aj λc _ m=>by rw[d.zm c m];decide).trans (q.aj λc _ m=>by grind)
 ·exact pU d.zm (by decide) L (λb w=>by have:=T b w;omega) m
theorem Fe.eG(d:Fe h cb z x C)(I: ∀c,z c≠0->c<h.size){p:Pr}(W:C.ar.length<1000){K:aa->Prop}
  (Q: ∀u f J,Fe u cb J {x with ar:=f} {C with ar:=C.ar++ [p]}->Mod (λc=>z c≠0) h u->(∀ c,J c≠0->z c≠0\/(h.size<=c/\c<u.size))->K u):
  ao h (J2 #[J7 p.key,J7 p.val,J3 p.gone] AR) λb m=>BJ A P (Builtin.append_ #[AQ,AQ] AQ #[J4 x.ar.p x.ar.len x.ar.cap,J4 (some (⟨b,0,none⟩:Q6)) 1 1]) m λv n=> ∃t:Sl,v=J4 t.p t.len t.cap/\ae n ((⟨cb,0,none⟩:Q6).add 32) (J4 t.p t.len t.cap) K:=by
 refine ao.aY (E:=BR) (x:=p) (s:=x.ar) (l:=C.ar) rfl G6 d.ar (by omega) (by simp only[maxLen];omega) λf m L o M _=>?_
 have w: ∀c j,z c=j->j≠3-> ¬x.ar.ah=some c:=λc j q n D=>by rw[d.zp c D] at q;exact n q.symm
 have S:=o.ah d.ah (w cb 1 d.zc (by decide));refine ae.mK S (of_decide_eq_true rfl) (l':=({x with ar:=f}:eE).l {C with ar:=C.ar++ [p]}) rfl λn T r X=>?_
 have G: ∀c j,z c=j->j≠1-> ¬c=cb:=λc j q m D=>by subst D;rw[d.zc] at q;exact m q.symm
 have Y:=I cb (by rw[d.zc];decide);have U: ∀b,f.ah=some b->b<m.size:=λb F=>L.lt F
 have aR: ∀ {c H:Nat},z c=H->H≠0->gN z f 3 c=H:=λk V=>pT I d.zp M k V
 refine Q n f (gN z f 3) ⟨T,aR d.zc (by decide),?_,λy e=>aR (d.zs y e) (by decide),?_,λy e=>aR (d.zm y e) (by decide),?_,λy e=>pS e,?_,λy e=>aR (d.zq y e) (by decide)⟩ ?_ λc k=>?_
 ·exact(d.st.dv o λy e=>w y 5 (d.zs y e) (by decide)).dv r λy e=>G y 5 (d.zs y e) (by decide)
 ·exact(d.more.mod o λy e=>w y 2 (d.zm y e) (by decide)).mod r λy e=>G y 2 (d.zm y e) (by decide)
 ·refine L.mod r λb F D=>?_
  grind
 ·exact(d.conds.mod o λy e=>w y 4 (d.zq y e) (by decide)).mod r λy e=>G y 4 (d.zq y e) (by decide)
 ·exact(o.aj λc _ k=>by rw[d.zp c k];decide).trans (r.aj λc _ k=>by grind)
 ·exact pU d.zp (by decide) M (λb F=>by have:=U b F;omega) k
theorem Fe.fJ(d:Fe h cb z x C)(I: ∀c,z c≠0->c<h.size){p:Pr}(W:C.conds.length<1000){K:aa->Prop}
  (Q: ∀u f J,Fe u cb J {x with conds:=f} {C with conds:=C.conds++ [p]}->Mod (λc=>z c≠0) h u->(∀ c,J c≠0->z c≠0\/(h.size<=c/\c<u.size))->K u):
  ao h (J2 #[J7 p.key,J7 p.val,J3 p.gone] AR) λb m=>BJ A P (Builtin.append_ #[AQ,AQ] AQ #[J4 x.conds.p x.conds.len x.conds.cap,J4 (some (⟨b,0,none⟩:Q6)) 1 1]) m λv n=> ∃t:Sl,v=J4 t.p t.len t.cap/\ae n ((⟨cb,0,none⟩:Q6).add 33) (J4 t.p t.len t.cap) K:=by
 refine ao.aY (E:=BR) (x:=p) (s:=x.conds) (l:=C.conds) rfl G6 d.conds (by omega) (by simp only[maxLen];omega) λf m L o M _=>?_
 have w: ∀c j,z c=j->j≠4-> ¬x.conds.ah=some c:=λc j q n D=>by rw[d.zq c D] at q;exact n q.symm
 have S:=o.ah d.ah (w cb 1 d.zc (by decide));refine ae.mK S (of_decide_eq_true rfl) (l':=({x with conds:=f}:eE).l {C with conds:=C.conds++ [p]}) rfl λn T r X=>?_
 have G: ∀c j,z c=j->j≠1-> ¬c=cb:=λc j q m D=>by subst D;rw[d.zc] at q;exact m q.symm
 have Y:=I cb (by rw[d.zc];decide);have U: ∀b,f.ah=some b->b<m.size:=λb F=>L.lt F
 have aR: ∀ {c H:Nat},z c=H->H≠0->gN z f 4 c=H:=λk V=>pT I d.zq M k V
 refine Q n f (gN z f 4) ⟨T,aR d.zc (by decide),?_,λy e=>aR (d.zs y e) (by decide),?_,λy e=>aR (d.zm y e) (by decide),?_,λy e=>aR (d.zp y e) (by decide),?_,λy e=>pS e⟩ ?_ λc k=>?_
 ·exact(d.st.dv o λy e=>w y 5 (d.zs y e) (by decide)).dv r λy e=>G y 5 (d.zs y e) (by decide)
 ·exact(d.more.mod o λy e=>w y 2 (d.zm y e) (by decide)).mod r λy e=>G y 2 (d.zm y e) (by decide)
 ·exact(d.ar.mod o λy e=>w y 3 (d.zp y e) (by decide)).mod r λy e=>G y 3 (d.zp y e) (by decide)
 ·refine L.mod r λb F D=>?_
  grind
 ·exact(o.aj λc _ k=>by rw[d.zq c k];decide).trans (r.aj λc _ k=>by grind)
 ·exact pU d.zq (by decide) M (λb F=>by have:=U b F;omega) k
def Tv(t:bd)(a b c:Sl)(y:Nat):Prop:=(t.prog.steps≠ []/\a.ah=some y)\/(t.au≠ []/\b.ah=some y)\/(t.al≠ []/\c.ah=some y)
open Classical in
noncomputable def jO (z:Nat->Nat) (t:bd) (a b c:Sl):Nat->Nat:=λy=>if Tv t a b c y then 5 else z y
theorem JO.lt {t:bd}{a b c:Sl}(f:JO h t a b c){y:Nat}(j:Tv t a b c y):y<h.size:=by
 rcases j with⟨d,e⟩|⟨d,e⟩|⟨d,e⟩
 ·exact f.steps.mJ d e
 ·exact f.au.mJ d e
 ·exact f.al.mJ d e
theorem Fe.lj {n:aa}{t:bd}{f j k:Sl}(e:Fe h cb z x C)(H: ∀c,z c≠0->c<h.size)(w:Ext h n)(D:JO n t f j k)(fr: ∀y,f.ah=some y\/j.ah=some y\/k.ah=some y->h.size<=y){K:aa->Prop}
  (I: ∀o E,Fe o cb E {x with a:=f,b:=j,c:=k} {C with st:=t}->Mod (λc=>z c≠0) h o->Mod (· =cb) n o->(∀ c,E c≠0->z c≠0\/(h.size<=c/\c<o.size))->K o):
  aF n ((⟨cb,0,none⟩:Q6).add 19) (t.V f j k).l K:=by
 have q:=e.on w;have J:(⟨cb,0,none⟩:Q6).add 19=⟨cb,19,none⟩:=rfl;rw[J];refine aF.mk q.ah (of_decide_eq_true rfl) λL M m Q=>?_
 have S:=H cb (by rw[e.zc];decide);have P: ∀y,Tv t f j k y->h.size<=y:=λy d=>fr y (by
  rcases d with⟨_,h⟩|⟨_,h⟩|⟨_,h⟩
  ·exact .inl h
  ·exact .inr (.inl h)
  ·exact .inr (.inr h))
 have u: ∀c v,z c=v->v≠1-> ¬c=cb:=λc v F n G=>by subst G;rw[e.zc] at F;exact n F.symm
 have aR: ∀ {c r:Nat},z c=r->r≠0->jO z t f j k c=r:=λ{c r} p T=>by
  unfold jO
  grind
 refine I L (jO z t f j k) ⟨M,aR e.zc (by decide),?_,λy d=>if_pos d,q.more.mod m λy d=>u y 2 (e.zm y d) (by decide),λy d=>aR (e.zm y d) (by decide),q.ar.mod m λy d=>u y 3 (e.zp y d) (by decide),λy d=>aR (e.zp y d) (by decide),q.conds.mod m λy d=>u y 4 (e.zq y d) (by decide),λy d=>aR (e.zq y d) (by decide)⟩ ?_ m λc p=>?_
 ·exact D.dv m λy d G=>by grind
 ·exact w.mod.trans (m.aj λc _ p=>by grind)
 ·unfold jO at p;split at p
  ·rename_i d;exact .inr ⟨P c d,by have:=D.lt d;have:=m.size;omega⟩
  ·exact .inl p
theorem Fe.ld(b:Fe h cb z x C):Cells h ((⟨cb,0,none⟩:Q6).add 19) (C.st.V x.a x.b x.c).l:=by have c:(⟨cb,0,none⟩:Q6).add 19=⟨cb,19,none⟩:=rfl;rw[c];exact Cu b.ah rfl
theorem LW.out(b:LW B g h s a N sh l mp O){c:Nat}(d:O c):c<h.size/\g.size<=c:=by
 obtain⟨e,f,st,m,j,nn,C,k,n,o,p,out⟩:=b
 simp_all
structure CW (B:cH) (g h:aa) (s a N sh:Nat) (l:List Hs) (i:Nat) (y:Hs) (mp:List Pr) (O:Nat->Prop) (cb:Nat) (z:Nat->Nat) (x:eE) (C:br):Prop where
 w:LW B g h s a N sh (l.set i y) mp (λc=>O c\/z c≠0)
 il:i<l.length
 no: ∀c,z c≠0-> ¬O c
 hp:x.hp=y.p
 bE:Fe h cb z x C
theorem CW.fS(b:CW B g h s a N sh l i y mp O cb z x C): ∀c,z c≠0->c<h.size:=λc d=>(b.w.out (.inr d)).1
theorem CW.zfr(b:CW B g h s a N sh l i y mp O cb z x C): ∀c,z c≠0->bB g O c:=λc d=>⟨(b.w.out (.inr d)).2,b.no c d⟩
theorem CW.frame {b:aa}(d:CW B g h s a N sh l i y mp O cb z x C)(m:Mod (λc=>z c≠0) h b):Mod (bB g O) h b:=m.aj λc _ e=>d.zfr c e
theorem CW.step {d:aa}{f:Nat->Nat}{x':eE}{j:br}(b:CW B g h s a N sh l i y mp O cb z x C)(m:Mod (λc=>z c≠0) h d)(n: ∀c,f c≠0->z c≠0\/(h.size<=c/\c<d.size))(o:x'.hp=x.hp)(p:Fe d cb f x' j):CW B g d s a N sh l i y mp O cb f x' j:=
 ⟨b.w.own (m.aj λc _ e=> .inr e) λc e=>by
   grind,
  b.il,λc e k=>by
   rcases n c e with h|h
   ·exact b.no c h k
   ·have:=(b.w.out (.inl k)).1;omega,
  o.trans b.hp,p⟩
theorem CW.on {c:aa}(b:CW B g h s a N sh l i y mp O cb z x C)(m:Ext h c):CW B g c s a N sh l i y mp O cb z x C:=⟨b.w.on m,b.il,b.no,b.hp,b.bE.on m⟩
theorem CW.wider {e:aa}{O':Nat->Prop}(b:CW B g h s a N sh l i y mp O cb z x C)(m:Mod O h e)(j: ∀c,O' c->O c\/(h.size<=c/\c<e.size)):CW B g e s a N sh l i y mp O' cb z x C:=
 ⟨b.w.own (m.aj λc _ d=> .inl d) λc d=>by
   grind,
  b.il,λc d f=>by
   rcases j c f with h|h
   ·exact b.no c d h
   ·have:=b.fS c d;omega,
  b.hp,b.bE.mod m λc d f=>b.no c d f⟩
end
theorem tX {h:aa}{b:Nat}{T:Q7}{fr:Nat×Nat}{c:Ev}(d:h[b]? =some (J2 c.c T fr)):ag h (⟨b,0,none⟩:Q6)=some (J6 J9 c.id)/\ag h ((⟨b,0,none⟩:Q6).add 1)=some (J6 J9 c.kind)/\ag h ((⟨b,0,none⟩:Q6).add 2)=some (J6 J9 c.tick)/\ag h ((⟨b,0,none⟩:Q6).add 3)=some (J6 J9 c.ref)/\ag h ((⟨b,0,none⟩:Q6).add 4)=some (J6 J9 c.step)/\ag h ((⟨b,0,none⟩:Q6).add 5)=some (J6 J9 c.turn)/\ag h ((⟨b,0,none⟩:Q6).add 6)=some (J3 c.aL)/\ag h ((⟨b,0,none⟩:Q6).add 7)=some (J7 c.data):=
 ⟨AO d rfl,AB d rfl,AB d rfl,AB d rfl,AB d rfl,AB d rfl,AB d rfl,AB d rfl⟩
end Go.Lf.G
namespace Go.Lf
open G
open Go
open M (Sorted Af CZ A8 Ag Aq BU Ah bA BG aO BC)
theorem Cells.js {h:aa}{a:Q6}{t:bG}(c:Cells h a t.l):ag h a=some (J4 t.steps.p t.steps.len t.steps.cap)/\ag h (a.add 1)=some (J6 J9 t.az)/\ag h (a.add 2)=some (J6 J9 t.status)/\ag h (a.add 3)=some (J6 J9 t.next)/\ag h (a.add 4)=some (J6 J9 t.aZ)/\ag h (a.add 5)=some (J6 J9 t.asked)/\ag h (a.add 6)=some (J6 J9 t.taken)/\ag h (a.add 7)=some (J3 t.fresh)/\ag h (a.add 8)=some (J4 t.au.p t.au.len t.au.cap)/\ag h (a.add 9)=some (J4 t.al.p t.al.len t.al.cap)/\ag h (a.add 10)=some (J3 t.cancel)/\ag h (a.add 11)=some (J3 t.aQ):=by have b:=c 0 _ rfl;rw[add_zero] at b;exact⟨b,c 1 _ rfl,c 2 _ rfl,c 3 _ rfl,c 4 _ rfl,c 5 _ rfl,c 6 _ rfl,c 7 _ rfl,c 8 _ rfl,c 9 _ rfl,c 10 _ rfl,c 11 _ rfl⟩
end Go.Lf
namespace Go.Lf.G
open Go
open M (Sorted Af CZ A8 Ag Aq BU Ah bA BG aO BC)
structure Hs.dj (y y':Hs):Prop where
 p:y'.p=y.p
 name:y'.name=y.name
 f:y'.f=y.f
 u: ∀m,y.u m<=y'.u m/\y'.u m<=y.u m+1
theorem Hs.dj.refl(y:Hs):y.dj y:=⟨rfl,rfl,rfl,λ_=>⟨A0 _,BW _⟩⟩
def dQ(y c:Hs)(b d:Nat):Prop:= ∃v,y.u b<v/\v<=c.u b/\d=y.f b*16777216+v
def pV(y b:Hs)(C c:br)(d:Nat):Prop:=c.err=0->y.f C.ak≠0->dQ y b C.ak d
section
variable {A : aq} {B : cH} {g h : aa} {s a N sh cb : Nat} {l : List Hs} {mp : List Pr} {O : Nat -> Prop} {i : Nat} {y : Hs} {z : Nat -> Nat} {x : eE} {C : br} {R : A2K}
theorem CW.put {b:Nat}(W:CW B g h s a N sh l i y mp O cb z x C)(c:N<=b)(d:b<=1000000)(e:64*a<=B.C):CW B g h s a b sh l i y mp O cb z x C:=⟨W.w.put (A0 _) e c d,W.il,W.no,W.hp,W.bE⟩
theorem CW.at(b:CW B g h s a N sh l i y mp O cb z x C):(l.set i y)[i]? =some y:=HN b.il
theorem CW.lw {d:aa}{f j:Nat}{k:List Pr}{e:Hs}(b:CW B g h s a N sh l i y mp O cb z x C)(n:LW B g d s j f sh ((l.set i y).set i e) k (λc=>O c\/z c≠0))(m:Mod (bB g (λc=>O c\/z c≠0)) h d)(o:e.p=y.p):CW B g d s j f sh l i e k O cb z x C:=
 ⟨by rw[List.set_set] at n;exact n,b.il,b.no,b.hp.trans o.symm,b.bE.mod m λc p q=>q.2 (.inr p)⟩
theorem tY {t:bG}(c: ∀b,Ext h b->R (J3 (decide (t.next<=497))) b):AA A P MQ #[t.v] h R:=by refine ADs ?_;unfold WA;exact ao.mk λd _ e f j=>AC.mk (AB e rfl) (c d f)
theorem tZ {wid:A2L}{ak:Nat}{j k now:Int}{m:Bool}{v:Sl}{st:bd}{d e f:Sl}(E:LW B g h s a N sh (l.set i y) mp (λc=>O c\/Tv st d e f c))(Q:i<l.length)(F:JO h st d e f)(no: ∀c,Tv st d e f c-> ¬O c)
  (G: ∀w cb z x,CW B g w s a N sh l i y mp O cb z x (IA wid ak j k m st now)->Ext h w->R (Am cb) w):
  AA A P I9 #[Am y.p,(⟨wid,(ak:Int),⟨j,k,m⟩,v,st.V d e f⟩:bS).v,J6 J9 now] h R:=by
 refine ABF ?_;unfold Um;refine ao.mk λo _ H I ad=>Fp.mk ⟨wid,(ak:Int),⟨j,k,m⟩,v,st.V d e f⟩ (Cu H rfl) ?_
 have S:(⟨h.size,0,none⟩:Q6).add 6=⟨h.size,6,none⟩:=rfl;rw[S];refine Az.mk (st.V d e f) (Cu H rfl) ?_;refine ao.mk λp _ T U ae=>?_
 have r:Ext h p:=I.trans U
 let x:eE:=⟨y.p,v,st.V d e f,d,e,f,⟨none,0,0⟩,⟨none,0,0⟩,⟨none,0,0⟩⟩
 let t:br:= {IA wid ak j k m st now with err:=0}
 let z:Nat->Nat:=λc=>if c=o.size then 1 else jO (λ_=>0) st d e f c
 have V: ∀c,Tv st d e f c->c<h.size:=λc b=>F.lt b
 have W: ∀c,z c≠0->c=o.size\/Tv st d e f c:=λc b=>by
  by_cases q:c=o.size
  ·exact .inl q
  ·have b:jO (λ_=>0) st d e f c≠0:=by grind
   unfold jO at b;split at b
   ·rename_i X;exact .inr X
   ·exact absurd rfl b
 have Y:Fe p o.size z x t:=⟨T,if_pos rfl,(F.ext r),λc b=>by
   have:=V c b;show z c=5;exact(if_neg (by omega)).trans (if_pos b),Own.nil,λc b=>by simp[x,Sl.ah] at b,Own.nil,λc b=>by simp[x,Sl.ah] at b,Own.nil,λc b=>by simp[x,Sl.ah] at b⟩
 have D:CW B g p s a N sh l i y mp O o.size z x t:=⟨E.own r.mod λc b=>by
   grind,Q,λc b J=>by
   rcases W c b with h|h
   ·have:=(E.out (.inl J)).1;omega
   ·exact no c h J,rfl,Y⟩
 refine ai.mk λK L=>ai.mk λZ aa=>?_
 have key: ∀u:Bool,(u=true↔now<0\/1099511611776<now)->Z (u,()) p:=λu ab=>by
  refine aa _ _ (af.intro (λn=>?_) (λn=>?_))
  ·refine D.bE.err λac D3 M ag=>L _ _ (G ac _ z x ?_ (r.more M λc b=>by subst b;exact I.size))
   have q:IA wid ak j k m st now= {t with err:=1}:=by have:IA wid ak j k m st now= {IA wid ak j k m st now with err:=if now<0\/1099511611776<now then 1 else 0}:=rfl;rw[this,if_pos (ab.1 n)]
   rw[q];exact D.step (M.aj λc _ b=>by grind) (λc b=> .inl b) rfl D3
  ·have n:u=false:=n;refine L _ _ (G p _ z x ?_ r);have q:IA wid ak j k m st now=t:=by have:IA wid ak j k m st now= {IA wid ak j k m st now with err:=if now<0\/1099511611776<now then 1 else 0}:=rfl;rw[this,if_neg λh=>by grind]
   rw[q];exact D
 refine af.intro (λn=>key true (by simp at n;simp[n])) (λn=>key _ (by simp at n;simp;omega))
theorem u0(b:CW B g h s a N sh l i y mp O cb z x C)(d:0<=C.st.next/\C.st.next<=501)(c:R (J6 J9 (Sj C)) h):AA A P GK #[Am cb] h R:=by refine TQ ?_;unfold Mr;refine aD (AC.mk (Cn b.bE.ah rfl) ?_);rw[wrap_i64 (by omega) (by omega)];exact c
theorem ZK {e:Ev}{n:Nat}(f:CW B g h s a N sh l i y mp O cb z x C)(an:De C.st n)(ap:n<=600)(hd:e.data.size<1099511627776)(aK:C.more.length<1000)
  (T: ∀Z aL x',CW B g Z s a N sh l i y mp O cb aL x' (Dm C e)->Mod (bB g O) h Z->R (J1 #[]) Z):AA A P DR #[Am cb,e.v] h R:=by
 refine Ti ?_;unfold Na;refine ao.mk λaM _ aN v a7=>aD (AC.mk (Ce (f.on v).bE.ah rfl) (af.intro (λd=>?_) (λd=>?_)))
 ·have d:C.err≠0:=by simpa using d
  refine T aM z x ?_ v.mod;unfold Dm;rw[if_pos d];exact f.on v
 have ab:C.err=0:=by simpa using d
 have aq: ∀c,z c≠0-> ¬c=h.size:=λc o e=>by have:=f.fS c o;omega
 refine aD (AC.mk (Cn (f.on v).bE.ah rfl) (aD (AC.mk (Ce (f.on v).bE.ah rfl) ?_)));refine ae.bL (j:=0) (dH:=({e with id:=if 1>C.st.next then 1 else C.st.next}:Ev).c) aN (of_decide_eq_true rfl) rfl λa8 aO ar a9=>⟨Ce ((f.on v).bE.mod ar aq).ah rfl,?_⟩
 refine ae.bL (j:=2) (dH:=(Ct C e).c) aO (of_decide_eq_true rfl) rfl λac au aP ba=>?_
 have ad:Ext h ac:=v.more (ar.trans aP) λc o=>by omega
 refine ai.mk λK aQ=>?_
 have key: ∀(U:Bool) (F:aa),Ext ac F->(U=true↔C.more= []/\jb C.st=false/\e.kind≠18)->K (U,()) F:=λU F ag av=>by
  have L:=ad.trans ag;have G:=f.on L;have V:=ag.ah au λh=>h
  refine aQ _ _ (af.intro (λd=>?_) (λd=>?_))
  ·refine aD (G.bE.err λk aR aS aT=>?_);have aw:Mod (λc=>z c≠0) F k:=aS.aj λc _ o=>by subst o;rw[f.bE.zc];decide
   refine T k z x ?_ (L.mod.trans (G.frame aw));unfold Dm;rw[if_neg (by simp[ab]),if_pos (av.1 d)];exact G.step aw (λc o=> .inl o) rfl aR
  have d:U=false:=d;have ax: ¬(C.more= []/\jb C.st=false/\e.kind≠18):=λh=>by rw[av.2 h] at d;cases d
  refine ai.mk λaU aV=>aD (Az.mk (C.st.V x.a x.b x.c) G.bE.ld (Nn.mk (Ct C e) (Qc V) ?_))
  have ay: ∀(k:aa) (ah:Nat) (p q r:Sl),Ext F k->k[ah]? =some (J2 ((Bo C.st (Ct C e)).2.V p q r).c Ar (0,0))->JO k (Bo C.st (Ct C e)).2 p q r->(∀ y,p.ah=some y\/q.ah=some y\/r.ah=some y->h.size<=y)->
    aU (some ⟨ah,0,none⟩,(Bo C.st (Ct C e)).1,()) k:=λk ah p q r m aW M fr=>by
   have aj:=L.trans m;have ak:=f.on aj;refine aV _ _ (af.intro (λd=>?_) (λd=>?_))
   ·have d:(Bo C.st (Ct C e)).1≠0:=by simpa using d
    refine aD (ak.bE.err λH al W az=>?_);have X:Mod (λc=>z c≠0) k H:=W.aj λc _ o=>by subst o;rw[f.bE.zc];decide
    refine T H z x ?_ (aj.mod.trans (ak.frame X));unfold Dm;rw[if_neg (by simp[ab]),if_neg ax,if_pos d];exact ak.step X (λc o=> .inl o) rfl al
   have aX:(Bo C.st (Ct C e)).1=0:=by simpa using d
   refine aD (Az.mk ((Bo C.st (Ct C e)).2.V p q r) (FH aW) (aD (f.bE.lj f.fS aj M fr λH bb al W X aY=>?_)));have aA:=f.step (x':= {x with a:=p,b:=q,c:=r}) W aY rfl al;have Q:=X.ah (m.ah V λh=>h) (λe=>aq cb (by rw[f.bE.zc];decide) e.symm);refine aD (AZ.mk (s:=x.more) (Ce aA.bE.ah rfl) (Nn.mk (Ct C e) (Qc Q) (ao.mk λI _ w aC aE=>?_)));have S:=aA.on aC;refine⟨Ce S.bE.ah rfl,?_⟩;have aZ:View dS I ⟨some ⟨H.size,0,none⟩,1,1⟩ [Ct C e]:=(Own.lit (E:=dS) (l:= [Ct C e]) w rfl (by simp[maxLen])).view;refine S.bE.lh S.fS aZ aK λa0 aG a1 a2 aH a3=>?_
   have a4:=S.step (x':= {x with a:=p,b:=q,c:=r,more:=aG}) aH a3 rfl a2;refine T a0 a1 {x with a:=p,b:=q,c:=r,more:=aG} ?_ ((f.frame W).trans (aC.mod.trans (S.frame aH)));have a5:Dm C e= {C with st:=(Bo C.st (Ct C e)).2,more:=C.more++ [Ct C e]}:=by unfold Dm;rw[if_neg (by simp[ab]),if_neg ax,if_neg (by simp[aX])]
   rw[a5];exact a4
  have bc:=ad.size;have bd:=ag.size;constructor
  ·refine pR G.bE.st an ap hd λk p q r m M J=>Gl.mk _ ⟨_,rfl,ao.mk λH _ Q u az=>⟨tX ((m.trans u).ah V λh=>h),(f.on ((L.trans m).trans u)).bE.ld.js,aF.mk Q (A0 12) λI w Y aE=>?_⟩⟩
   rw[O9] at w;have aI:Ext k I:=u.more Y λc o=>by omega
   exact ay I k.size p q r (m.trans aI) w (M.ext aI) λy t=>by have:=J y t;omega
  ·refine ao.mk λH _ Q u az=>⟨tX (u.ah V λh=>h),(f.on (L.trans u)).bE.ld.js,?_⟩
   refine pR (G.bE.st.ext u) an ap hd λk p q r m M J=>Gl.mk _ ⟨_,rfl,aF.mk (m.ah Q λh=>h) (A0 12) λI w Y aE=>?_⟩
   rw[O9] at w;have aT:=m.size;have a6:=M.mod Y (λy t e=>by have:=J y (.inl t);omega) (λy t e=>by have:=J y (.inr (.inl t));omega) (λy t e=>by have:=J y (.inr (.inr t));omega);exact ay I F.size p q r ((u.trans m).more Y λc o=>by omega) w a6 λy t=>by have:=J y t;omega
 have am:=f.on ad;refine aD (AZ.mk (s:=x.more) (Ce am.bE.ah rfl) ?_);have aJ:=am.bE.more.len;refine af.intro (λd=>?_) (λd=>?_)
 ·have d:C.more= []:=by simp at d;exact Dd (by omega)
  refine aD (Az.mk (C.st.V x.a x.b x.c) am.bE.ld (tY λk m=>⟨_,rfl,?_⟩));refine af.intro (λD=>?_) (λD=>?_)
  ·have D:jb C.st=false:=by unfold jb;simpa using D
   refine AC.mk (AB (m.ah au λh=>h) rfl) (key _ k m ?_);simp[d,D,Ct]
  ·have D:jb C.st=true:=by unfold jb;simpa using D
   refine key _ k m ?_;simp[D]
 ·have d:C.more≠ []:=λh=>by rw[h] at aJ;simp[aJ] at d
  refine key _ ac Mod.refl ?_;simp[d]
theorem u5 {t:cm}{tick:Int}(r:CW B g h s a N sh l i y mp O cb z x C)(V:C.ak<256)(an:y.f C.ak<=2147483647)(ap:y.u C.ak+1<16777216)(H:N+1<=1000000)(J:64*a<=B.C)(aq:C.ar.length<1000)(a5:tick<9223372036854775808)
  (L: ∀M au x' e d,CW B g M s a (N+1) sh l i e mp O cb au x' (Dt C ⟨t.kind,t.ref,t.turn⟩ tick d)->y.dj e->pV y e C (Dt C ⟨t.kind,t.ref,t.turn⟩ tick d) d->Mod (bB g O) h M->R (J1 #[]) M):AA A P GN #[Am cb,t.v,J6 J9 tick] h R:=by
 refine TE ?_;unfold Mv;refine ao.mk λav _ aw w a6=>aD (AC.mk (Ce (r.on w).bE.ah rfl) (af.intro (λb=>?_) (λb=>?_)))
 ·have b:C.err≠0:=by simpa using b
  have D:Dt C ⟨t.kind,t.ref,t.turn⟩ tick 0=C:=by unfold Dt;rw[if_pos b]
  refine L av z x y 0 (by rw[D];exact(r.on w).put (by omega) H J) (Hs.dj.refl y) (λE=>absurd (by rw[D] at E;exact E) b) w.mod
 have W:C.err=0:=by simpa using b
 refine aD (AJ.mk (n:=C.wid) (Ce (r.on w).bE.ah rfl) (ae.bL (j:=1) (dH:=({t with wid:=C.wid}:cm).c) aw (of_decide_eq_true rfl) rfl λax ay az a7=>?_));have aA:Ext h ax:=w.more az λc q=>by omega
 refine Iq.mk ({t with wid:=C.wid}:cm) (Cu ay rfl) (tV λF aC=>⟨_,_,rfl,?_⟩);have Q:=aA.trans aC;have f:=r.on Q;cases X:Gy ⟨t.kind,t.ref,t.turn⟩ C.wid with
 |false=>
  refine af.yes rfl (aD (f.bE.err λY aE aF a8=>?_));have Z:Mod (λc=>z c≠0) F Y:=aF.aj λc _ q=>by subst q;rw[r.bE.zc];decide
  have D:Dt C ⟨t.kind,t.ref,t.turn⟩ tick 0= {C with err:=1}:=by unfold Dt;rw[if_neg (by simp[W]),if_pos X]
  refine L Y z x y 0 ?_ (Hs.dj.refl y) (λE=>by rw[D] at E;exact absurd (show(1:Int)=0 from E) (by decide)) (Q.mod.trans (f.frame Z));rw[D];exact(f.step Z (λc q=> .inl q) rfl aE).put (by omega) H J
 |true=>
  refine af.no rfl ?_;have aG:ag F (⟨cb,0,none⟩:Q6)=some (Am y.p):=by have:=Ce (j:=0) f.bE.ah rfl;rw[add_zero,r.hp] at this;exact this
  refine aD (AX.mk aG (aD (AC.mk (Cn f.bE.ah rfl) ?_)));have fin: ∀(k:aa) (e:Hs) (d:Nat),CW B g k s a (N+1) sh l i e mp O cb z x C->y.dj e->(y.f C.ak≠0->dQ y e C.ak d)->Mod (bB g O) F k->(∃ S:Int,Value.int .u64 (d:Int)= .int .u64 S/\(
    At (some (⟨cb,0,none⟩:Q6)) λaH=>
    AC J9 k ((aH.add 1).add 1) λaI=>
    AA A P KE #[J6 J9 aI,.int .u64 S] k λv2 u=> ∃ab:A2L,v2=J7 ab/\(
    ai (λ(s:A2L×Unit) o=>
      At (some (⟨cb,0,none⟩:Q6)) λaJ=>
      AZ o (aJ.add 32) λT=>
      ao o (J2 #[J7 s.1,J7 (if true then gf ⟨t.kind,t.ref,t.turn⟩ C.wid else⟨#[]⟩),J3 false] AR) λaK U=>
      BJ A P (Builtin.append_ #[AQ,AQ] AQ #[J4 T.p T.len T.cap,J4 (some (⟨aK,0,none⟩:Q6)) 1 1]) U λaL aM=> ∃v:Sl,aL=J4 v.p v.len v.cap/\(
      At (some (⟨cb,0,none⟩:Q6)) λaN=>
      ae aM (aN.add 32) (J4 v.p v.len v.cap) λaO=>
      R (J1 #[]) aO)) λK=>
     af (decide (tick>=(0:Int))) (
      At (some (⟨cb,0,none⟩:Q6)) λaP=>
      AC J9 u ((aP.add 1).add 1) λaQ=>
      AA A P OD #[J6 J9 aQ,J6 J9 tick,.int .u64 S] u λaR aS=> ∃ac:A2L,aR=J7 ac/\(
      K (ac,()) aS)) (
      K (ab,()) u)))):=λk e d ad aT aU aV=>by
   refine⟨_,rfl,aD (AC.mk (Cn ad.bE.ah rfl) (AP9 V λu ah=>⟨_,rfl,ai.mk λK aW=>?_⟩))⟩;have aj:=ad.on ah;have key: ∀(o:aa),Ext u o->K (MG C.ak tick d,()) o:=λo I=>by
    have G:=aj.on I;refine aW _ _ (aD (AZ.mk (s:=x.ar) (Ce G.bE.ah rfl) ?_));refine G.bE.eG (p:=⟨MG C.ak tick d,gf ⟨t.kind,t.ref,t.turn⟩ C.wid,false⟩) G.fS aq λU ak aX aY al aZ=>?_
    have a0:=G.step (x':= {x with ar:=ak}) al aZ rfl aY;refine L U aX {x with ar:=ak} e d ?_ aT (λ_=>aU) (Q.mod.trans (aV.trans ((ah.trans I).mod.trans (G.frame al))));unfold Dt;rw[if_neg (by simp[W]),if_neg (by simp[X])];exact a0
   refine af.intro (λb=>?_) (λb=>?_)
   ·have b:0<=tick:=by simpa using b
    obtain⟨n,rfl⟩: ∃n:Nat,tick=n:=⟨tick.toNat,by omega⟩;refine aD (AC.mk (Cn aj.bE.ah rfl) (AP5 V (by omega) λo I=>⟨_,rfl,?_⟩));have:=key o I;unfold MG at this;rw[if_neg (by omega),A6] at this;exact this
   ·have b:tick<0:=by simp at b;omega
    have:=key u Mod.refl;unfold MG at this;rw[if_pos b] at this;exact this
  refine f.w.number f.at an ap H (λa1=>?_) λa9 k a2 am=>?_
  ·exact fin F y 0 (f.put (by omega) H J) (Hs.dj.refl y) (λh=>absurd a1 h) Mod.refl
  ·have a3:Mod (bB g O) F k:=am.aj λc _ q=>⟨q.1,λa4=>q.2 (.inl a4)⟩
   exact fin k (y.jt C.ak) _ (f.lw a2 am rfl) ⟨rfl,rfl,rfl,λm=>by
    show _<=dA y.u C.ak (y.u C.ak+1) m/\dA y.u C.ak (y.u C.ak+1) m<=_
    grind [dA]⟩ (λ_=>⟨_,Hj _,by show _<=dA y.u C.ak (y.u C.ak+1) C.ak;grind [dA],rfl⟩) a3
theorem ARt {t:cm}(k:CW B g h s a N sh l i y mp O cb z x C)(m:C.ak<256)(n:y.f C.ak<=2147483647)(o:y.u C.ak+1<16777216)(p:N+1<=1000000)(q:64*a<=B.C)(r:C.ar.length<1000)
  (u: ∀b e f c d,CW B g b s a (N+1) sh l i c mp O cb e f (Dt C ⟨t.kind,t.ref,t.turn⟩ (-1) d)->y.dj c->pV y c C (Dt C ⟨t.kind,t.ref,t.turn⟩ (-1) d) d->Mod (bB g O) h b->R (J1 #[]) b):AA A P JI #[Am cb,t.v] h R:=by
 refine TJ ?_;unfold Mx;refine ao.mk λG _ v j H=>Iq.mk t (Cu v rfl) (u5 (k.on j) m n o p q r (by decide) λb e f c d w D E F=>⟨rfl,u b e f c d w D E (j.mod.trans F)⟩)
theorem pW {t:cm}{tick:Int}(k:CW B g h s a N sh l i y mp O cb z x C)(m:C.ak<256)(n:y.f C.ak<=2147483647)(o:y.u C.ak+1<16777216)(p:N+1<=1000000)(q:64*a<=B.C)(r:C.ar.length<1000)(G:tick<9223372036854775808)
  (u: ∀b e f c d,CW B g b s a (N+1) sh l i c mp O cb e f (Dt C ⟨t.kind,t.ref,t.turn⟩ (if(0:Int)>tick then 0 else tick) d)->y.dj c->pV y c C (Dt C ⟨t.kind,t.ref,t.turn⟩ (if(0:Int)>tick then 0 else tick) d) d->Mod (bB g O) h b->R (J1 #[]) b):AA A P Es #[Am cb,t.v,J6 J9 tick] h R:=by
 refine Vn ?_;unfold Ot;refine ao.mk λH _ v j I=>Iq.mk t (Cu v rfl) (u5 (k.on j) m n o p q r (by split<;>omega) λb e f c d w D E F=>⟨rfl,u b e f c d w D E (j.mod.trans F)⟩)
theorem ANw {key val:A2L}(b:CW B g h s a N sh l i y mp O cb z x C)(k:C.conds.length<1000)(m:C.ar.length<1000)
  (n: ∀d o x',CW B g d s a N sh l i y mp O cb o x' (nZ C key val)->Mod (bB g O) h d->R (J1 #[]) d):AA A P JD #[Am cb,J7 key,J7 val] h R:=by
 refine TH ?_;unfold Mg;dsimp only[At];refine AZ.mk (s:=x.conds) (Ce b.bE.ah rfl) ?_;refine b.bE.fJ (p:=⟨key,⟨#[]⟩,true⟩) b.fS k λF e G q f r=>?_
 have c:=b.step (x':= {x with conds:=e}) f r rfl q;refine AZ.mk (s:=x.ar) (Ce c.bE.ah rfl) ?_;refine c.bE.eG (p:=⟨key,val,false⟩) c.fS m λt u v w j D=>?_
 have E:=c.step (x':= {x with conds:=e,ar:=u}) j D rfl w;exact n t v _ E ((b.frame f).trans (c.frame j))
theorem AQ8(q:CW B g h s a N sh l i y mp O cb z x C)(H:0<=C.st.next/\C.st.next<=501)
  (r: ∀n,Ext h n->R (⟨0,(Di C).1,(Di C).2,⟨0,⟨#[]⟩,0,0⟩,⟨#[]⟩,⟨none,0,0⟩⟩:bg).v n):AA A P Gw #[Am cb] h R:=by
 refine QM ?_;unfold Kb;refine ao.mk λo _ t p I=>?_
 have b:=(q.on p).bE;refine aD (AC.mk (Cn b.ah rfl) (ai.mk λK u=>?_));have fin: ∀nx:Int,nx=(Di C).2->K (nx,()) o:=λnx v=>by
  subst v;refine u _ _ (aD (AC.mk (Cn b.ah rfl) (aF.mk t (A0 9) λw D E J=>?_)));refine Dq.mk ⟨0,C.st.status,(Di C).2,⟨0,⟨#[]⟩,0,0⟩,⟨#[]⟩,⟨none,0,0⟩⟩ (Cu D rfl) ?_;exact r w (p.more E λc L=>by omega)
 refine ai.mk λF G=>?_
 have key: ∀d:Bool,d=EH C->F (d,()) o:=λd M=>by
  refine G _ _ (af.intro (λe=>?_) (λe=>?_))
  ·have e:d=true:=e;rw[wrap_i64 (by omega) (by omega)];refine fin _ ?_
   simp_all [Di,if_pos]
  ·have e:d=false:=e;refine fin _ ?_
   simp_all [Di,if_neg]
 have Q:=b.more.len;unfold EH at key;refine aD (AZ.mk (s:=x.more) (Ce b.ah rfl) (af.intro (λf=>?_) (λf=>?_)));rotate_left
 ·have f:C.more= []:=by simp_all
  exact key _ (by simp[f])
 have f:C.more≠ []:=λh=>by grind
 refine aD (AC.mk (Cn b.ah rfl) (af.intro (λj=>?_) (λj=>key _ (by simp at j;simp[j]))));refine aD (Aa.mk (Cn b.ah rfl) (af.intro (λk=>?_) (λk=>key _ (by grind))));have k:C.st.fresh=true:=k;refine aD (AC.mk (Cn b.ah rfl) (af.intro (λm=>?_) (λm=>key _ (by simp at m;simp[m]))));refine aD (AC.mk (Cn b.ah rfl) (key _ ?_))
 grind
end
def QU:Ev:=⟨0,2,0,0,0,0,false,⟨#[]⟩⟩
def Ee(C:br)(b:Nat):br:=if EH C then Dt (Dm C QU) ⟨1,Sj (Dm C QU),0⟩ (-1) b else C
def u6(C:br):Int:=if(0:Int)>C.now+20 then 0 else C.now+20
def A9(C:br)(b c:Nat):br:=if C.more≠ []/\(Ee C b).st.status≠0 then Dt (Ee C b) ⟨7,0,0⟩ (u6 C) c else Ee C b
end Go.Lf.G
namespace Go.Lf
open G
open Go
open M (Sorted Af CZ A8 Ag Aq BU Ah bA BG aO BC)
structure br.grown (C D:br) (n k j:Nat):Prop where
 wid:D.wid=C.wid
 ak:D.ak=C.ak
 cq:D.cq=C.cq
 bW:D.bW=C.bW
 kept:D.kept=C.kept
 conds:D.conds=C.conds
 now:D.now=C.now
 more:D.more.length<=C.more.length+k
 none:C.more≠ []->D.more≠ []
 ar:D.ar.length<=C.ar.length+j
 ok: ∀e∈D.more,Em e=true/\e.data.size<1099511627776
 st:De D.st n
end Go.Lf
namespace Go.Lf.G
open Go
open M (Sorted Af CZ A8 Ag Aq BU Ah bA BG aO BC)
theorem Gz(C:br)(t:fM)(tick:Int)(b:Nat):(Dt C t tick b).st=C.st/\(Dt C t tick b).more=C.more:=by
 unfold Dt;split
 ·exact⟨rfl,rfl⟩
 ·split<;>exact⟨rfl,rfl⟩
theorem XG {C b:br}{r u v:Nat}(G:C.grown b r u v)(t:fM)(tick:Int)(w:Nat):C.grown (Dt b t tick w) r u (v+1):=by
 obtain⟨c,d,e,f,j,k,m,n,o,D,p,q⟩:=G;unfold Dt;split
 ·exact⟨c,d,e,f,j,k,m,n,o,by omega,p,q⟩
 ·split
  ·exact⟨c,d,e,f,j,k,m,n,o,by show b.ar.length<=_;omega,p,q⟩
  ·exact⟨c,d,e,f,j,k,m,n,o,by show(b.ar++ [_]).length<=_;rw[A1,Cd];omega,p,q⟩
theorem XB {C:br}{b:Nat}(ok: ∀c∈C.more,Em c=true/\c.data.size<1099511627776)(d:De C.st b):C.grown C b 0 0:=⟨rfl,rfl,rfl,rfl,rfl,rfl,rfl,A0 _,id,A0 _,ok,d⟩
end Go.Lf.G
namespace Go.Lf
open G
open Go
open M (Sorted Af CZ A8 Ag Aq BU Ah bA BG aO BC)
theorem De.up {s:bd}{c m:Nat}(b:De s c)(h:c<=m):De s m:=⟨by have:=b.au;omega,by have:=b.al;omega,b.steps,b.az,b.aZ,b.next,b.st,b.waits⟩
end Go.Lf
namespace Go.Lf.G
open Go
open M (Sorted Af CZ A8 Ag Aq BU Ah bA BG aO BC)
theorem MH {C b:br}{v w D:Nat}(G:C.grown b v w D){e:Ev}(hd:e.data.size<1099511627776):C.grown (Dm b e) (v+1) (w+1) D:=by
 obtain⟨c,d,f,j,k,m,n,E,t,o,p,q⟩:=G;unfold Dm;split
 ·exact⟨c,d,f,j,k,m,n,by omega,t,o,p,q.up (BW _)⟩
 ·split
  ·exact⟨c,d,f,j,k,m,n,by show b.more.length<=_;omega,t,o,p,q.up (BW _)⟩
  ·split
   ·exact⟨c,d,f,j,k,m,n,by show b.more.length<=_;omega,t,o,p,q.up (BW _)⟩
   ·rename_i r;have r:(Bo b.st (Ct b e)).1=0:=by simpa using r
    refine⟨c,d,f,j,k,m,n,by show(b.more++ [_]).length<=_;rw[A1,Cd];omega,λ_=>by show b.more++ [_]≠ [];simp,o,λx u=>?_,Tp q r⟩;have u:x∈b.more++ [Ct b e]:=u;rcases List.mem_append.1 u with h|h
    ·exact p x h
    ·rw[List.mem_singleton.1 h];exact⟨Qj r,hd⟩
structure Hs.dh (y y':Hs):Prop where
 p:y'.p=y.p
 name:y'.name=y.name
 f:y'.f=y.f
 u: ∀m,y.u m<=y'.u m/\y'.u m<=y.u m+2
section
variable {A : aq} {B : cH} {g h : aa} {s a N sh cb : Nat} {l : List Hs} {mp : List Pr} {O : Nat -> Prop} {i : Nat} {y : Hs} {z : Nat -> Nat} {x : eE} {C : br} {R : A2K}
theorem Fe.ptr {p:Nat}(b:Fe h cb z x C)(c:x.hp=p):ag h (⟨cb,0,none⟩:Q6)=some (Am p):=by have:=Ce (j:=0) b.ah rfl;rw[add_zero,c] at this;exact this
theorem Fe.rT(b:Fe h cb z x C):Cells h (((⟨cb,0,none⟩:Q6).add 1).add 2) (⟨C.cq,C.bW,C.kept⟩:cP).l:=by have c:((⟨cb,0,none⟩:Q6).add 1).add 2=⟨cb,3,none⟩:=rfl;rw[c];exact Cu b.ah rfl
end
end Go.Lf.G
namespace Go.Lf
open G
open Go
open M (Sorted Af CZ A8 Ag Aq BU Ah bA BG aO BC)
theorem Cells.rU {h:aa}{a:Q6}{t:cP}(c:Cells h a t.l):ag h a=some (J6 J9 t.status)/\ag h (a.add 1)=some (J6 J9 t.next)/\ag h (a.add 2)=some (J3 t.kept):=by have b:=c 0 _ rfl;rw[add_zero] at b;exact⟨b,c 1 _ rfl,c 2 _ rfl⟩
end Go.Lf
namespace Go.Lf.G
open Go
open M (Sorted Af CZ A8 Ag Aq BU Ah bA BG aO BC)
section
variable {A : aq} {B : cH} {g h : aa} {s a N sh cb : Nat} {l : List Hs} {mp : List Pr} {O : Nat -> Prop} {i : Nat} {y : Hs} {z : Nat -> Nat} {x : eE} {C : br} {R : A2K}
theorem ARD {o:aa}{d:br}(E:bZ g)(k:CW B g o s a N sh l i y mp O cb z x d)(aX:Aj d.wid=true)(bF: ∀u∈d.more,Em u=true/\u.data.size<1099511627776)(bG:d.ak<256)(bH:y.f d.ak<=2147483647)(hA:4+3*a<=B.A)(bI:64*a+64<=B.C)(bJ:a+1<=1000000)
  (c6:d.more.length<=900) (c7:d.ar.length<=900) (c8:d.conds.length<=900) (bK: ∀p∈d.conds,p.key.size<=1099511627776) (c9:0<=d.cq/\d.cq<128) (aY:0<=d.bW/\d.bW<=501) (aZ:0<=d.st.status/\d.st.status<=4) (a0:0<=d.st.next/\d.st.next<=501)
  (bL:d.err≠0-> ∀e,LW B g e s a N sh (l.set i y) mp O->Mod (bB g O) o e->R (J6 J9 d.err) e)
  (bM:d.err=0->y.f d.ak=0-> ∀e,LW B g e s a N sh (l.set i y) mp O->Mod (bB g O) o e->R (J6 J9 170) e)
  (bN:d.err=0->y.f d.ak≠0->Bd mp (Ff d.ak (y.f d.ak) y.name)=false-> ∀e,LW B g e s a N sh (l.set i (y.lost d.ak)) mp O->Mod (bB g O) o e->R (J6 J9 170) e)
  (bO:d.err=0->y.f d.ak≠0->Bd mp (Ff d.ak (y.f d.ak) y.name)=true->du mp (Ff d.ak (y.f d.ak) y.name::(d.conds++ [bC d])) (EA d++d.ar)≠0-> ∀e,LW B g e s a N sh (l.set i y) mp O->Mod (bB g O) o e->R (J6 J9 (du mp (Ff d.ak (y.f d.ak) y.name::(d.conds++ [bC d])) (EA d++d.ar))) e)
  (bP:d.err=0->y.f d.ak≠0->Bd mp (Ff d.ak (y.f d.ak) y.name)=true->du mp (Ff d.ak (y.f d.ak) y.name::(d.conds++ [bC d])) (EA d++d.ar)=0-> ∀e,LW B g e s (a+1) N sh (l.set i y) (cy mp (EA d++d.ar)) O->Mod (bB g O) o e->R (J6 J9 0) e):
  At (some (⟨cb,0,none⟩:Q6)) λbQ=>
    AC J9 o (bQ.add 34) λbR=>
    af (bR != (0:Int)) (
     At (some (⟨cb,0,none⟩:Q6)) λbS=>
     AC J9 o (bS.add 34) λbT=>
     R (J6 J9 bT) o) (
     At (some (⟨cb,0,none⟩:Q6)) λbU=>
     AJ o (bU.add 1) λbV=>
     AA A P GQ #[J7 bV] o λv1 aZ=> ∃a1:A2L,v1=J7 a1/\(
     ao aZ (J2 #[J7 (⟨#[]⟩:A2L),J7 (⟨#[]⟩:A2L),J3 false] AR) λb a0=>
     ae a0 (⟨b,0,none⟩:Q6) (J7 a1) λbW=>
     ae bW ((⟨b,0,none⟩:Q6).add 1) (J7 (⟨#[]⟩:A2L)) λbX=>
     ae bX ((⟨b,0,none⟩:Q6).add 2) (J3 true) λJ=>
     ai (λ(da:Unit) v=>
       At (some (⟨cb,0,none⟩:Q6)) λbY=>
       AJ v (bY.add 1) λb0=>
       At (some (⟨cb,0,none⟩:Q6)) λb1=>
       AZ v (b1.add 31) λaE=>
       AA A P PS #[J7 b0,J4 aE.p aE.len aE.cap] v λv2 w=> ∃D:Sl,∃aG:Int,v2=J1 #[J4 D.p D.len D.cap,J6 J9 aG]/\(
       af (aG != (0:Int)) (
        R (J6 J9 aG) w) (
        ai (λ(aH:Sl×Unit) q=>
          At (some (⟨cb,0,none⟩:Q6)) λad=>
          AX q ad λah=>
          At (some (⟨cb,0,none⟩:Q6)) λaj=>
          AC J9 q ((aj.add 1).add 1) λak=>
          At (some (⟨cb,0,none⟩:Q6)) λa2=>
          AZ q (a2.add 33) λK=>
          AJ q (⟨b,0,none⟩:Q6) λb2=>
          AJ q ((⟨b,0,none⟩:Q6).add 1) λb3=>
          Aa q ((⟨b,0,none⟩:Q6).add 2) λb4=>
          At (some (⟨cb,0,none⟩:Q6)) λaI=>
          AZ q (aI.add 32) λF=>
          ao q (J2 #[J7 b2,J7 b3,J3 b4] AR) λb5 H=>
          And (ag H (aI.add 32)=some (J4 F.p F.len F.cap))<|
          And (ag H (a2.add 33)=some (J4 K.p K.len K.cap))<|
          And (ag H ((aj.add 1).add 1)=some (J6 J9 ak))<|
          And (ag H ad=some (J5 ah))<|
          BJ A P (Builtin.append_ #[AQ,AQ] AQ #[J4 K.p K.len K.cap,J4 (some (⟨b5,0,none⟩:Q6)) 1 1]) H λb6 I=> ∃L:Sl,b6=J4 L.p L.len L.cap/\(
          And (ag I (aI.add 32)=some (J4 F.p F.len F.cap))<|
          And (ag I ((aj.add 1).add 1)=some (J6 J9 ak))<|
          And (ag I ad=some (J5 ah))<|
          BJ A P (Builtin.append_ #[AQ,AQ] AQ #[J4 aH.1.p aH.1.len aH.1.cap,J4 F.p F.len F.cap]) I λb7 t=> ∃M:Sl,b7=J4 M.p M.len M.cap/\(
          And (ag t ((aj.add 1).add 1)=some (J6 J9 ak))<|
          And (ag t ad=some (J5 ah))<|
          AA A P GG #[J5 ah,J6 J9 ak,J4 L.p L.len L.cap,J4 M.p M.len M.cap] t λb8 b9=> ∃a3:Int,b8=J6 J9 a3/\(
          R (J6 J9 a3) b9)))) λal=>
         At (some (⟨cb,0,none⟩:Q6)) λca=>
         AZ w (ca.add 31) λcc=>
         af (decide (((cc.len:Nat):Int)>(0:Int))) (
          At (some (⟨cb,0,none⟩:Q6)) λa4=>
          AC J9 w ((a4.add 19).add 2) λa5=>
          At (some (⟨cb,0,none⟩:Q6)) λa6=>
          AC J9 w ((a6.add 19).add 3) λa7=>
          ao w (J2 cP.z.c JH) λV am=>
          And (ag am ((a6.add 19).add 3)=some (J6 J9 a7))<|
          And (ag am ((a4.add 19).add 2)=some (J6 J9 a5))<|
          aF am (⟨V,0,none⟩:Q6) (⟨a5,a7,false⟩:cP).l λQ=>
          At (some (⟨cb,0,none⟩:Q6)) λcd=>
          AJ Q (cd.add 1) λce=>
          OU Q (⟨V,0,none⟩:Q6) λan=>
          AA A P GQ #[J7 ce] Q λcf ap=> ∃a8:A2L,cf=J7 a8/\(
          And (ag ap (⟨V,0,none⟩:Q6)=some (J6 J9 an.status)/\ag ap ((⟨V,0,none⟩:Q6).add 1)=some (J6 J9 an.next)/\ag ap ((⟨V,0,none⟩:Q6).add 2)=some (J3 an.kept))<|
          AA A P FN #[an.v] ap λcg a9=> ∃ba:A2L,cg=J7 ba/\(
          ao a9 (J2 #[J7 a8,J7 ba,J3 false] AR) λch ci=>
          BJ A P (Builtin.append_ #[AQ,AQ] AQ #[J4 D.p D.len D.cap,J4 (some (⟨ch,0,none⟩:Q6)) 1 1]) ci λcj aJ=> ∃S:Sl,cj=J4 S.p S.len S.cap/\(
          al ((⟨S.p,S.len,S.cap⟩:Sl),()) aJ)))) (
          al ((⟨D.p,D.len,D.cap⟩:Sl),()) w)))) λaq=>
      At (some (⟨cb,0,none⟩:Q6)) λck=>
      AC J9 J (((ck.add 1).add 2).add 1) λcl=>
      af (decide (cl>(0:Int))) (
       At (some (⟨cb,0,none⟩:Q6)) λcm=>
       AJ J (cm.add 1) λcn=>
       At (some (⟨cb,0,none⟩:Q6)) λar=>
       OU J ((ar.add 1).add 2) λau=>
       AA A P GQ #[J7 cn] J λco av=> ∃bb:A2L,co=J7 bb/\(
       And (ag av ((ar.add 1).add 2)=some (J6 J9 au.status)/\ag av (((ar.add 1).add 2).add 1)=some (J6 J9 au.next)/\ag av (((ar.add 1).add 2).add 2)=some (J3 au.kept))<|
       AA A P FN #[au.v] av λcp bc=> ∃bd:A2L,cp=J7 bd/\(
       ae bc (⟨b,0,none⟩:Q6) (J7 bb) λbe=>
       ae be ((⟨b,0,none⟩:Q6).add 1) (J7 bd) λbf=>
       ae bf ((⟨b,0,none⟩:Q6).add 2) (J3 false) λaK=>
       aq () aK))) (
       aq () J))):=by
 have cq: ∀ {e:aa},CW B g e s a N sh l i y mp O cb z x d->LW B g e s a N sh (l.set i y) mp O:=λcr=>cr.w.less λc f=> .inl f
 refine aD (AC.mk (n:=d.err) (Ce k.bE.ah rfl) (af.intro (λr=>?_) (λr=>?_)))
 ·exact aD (AC.mk (n:=d.err) (Ce k.bE.ah rfl) (bL (by simpa using r) o (cq k) Mod.refl))
 have aw:d.err=0:=by simpa using r
 have db:=FK aX;refine aD (AJ.mk (n:=d.wid) (Ce k.bE.ah rfl) (nw (by omega) ⟨_,rfl,?_⟩));refine ao.pair λb J dc bg aL dd=>?_
 have ax:=k.on aL;refine ai.mk λaq cs=>?_
 have bh: ∀v,Ext o v->v[b]? =some (J2 #[J7 (bC d).key,J7 (bC d).val,J3 (bC d).gone] AR (0,0))->aq () v:=λv aM ct=>by
  have W:=k.on aM;refine cs _ _ (aD (AJ.mk (n:=d.wid) (Ce W.bE.ah rfl) (aD (AZ.mk (s:=x.more) (Ce W.bE.ah rfl) ?_))));refine ARp aX W.bE.more.view (by omega) bF λps w aN aO ay=>⟨_,_,rfl,af.no rfl ?_⟩
  have T:=W.on ay;refine ai.mk λal cu=>?_
  have bi: ∀q (sl:Sl),Ext v q->Own BR AR q sl (EA d)->(∀ c,sl.ah=some c->v.size<=c)->al (sl,()) q:=λq sl az aP X=>by
   have Y:=W.on az;have aQ:=az.ah ct λh=>h
   refine cu _ _ (aD (AX.mk (Y.bE.ptr k.hp) (aD (AC.mk (Cn Y.bE.ah rfl) (aD (AZ.mk (s:=x.conds) (Ce Y.bE.ah rfl) ?_))))));refine AJ.mk (AO aQ rfl) (AJ.mk (AB aQ rfl) (Aa.mk (AB aQ rfl) (aD (AZ.mk (s:=x.ar) (Ce Y.bE.ah rfl) (ao.mk λH _ cv Z de=>?_)))));have G:=Y.on Z;refine⟨Ce G.bE.ah rfl,Ce G.bE.ah rfl,Cn G.bE.ah rfl,G.bE.ptr k.hp,?_⟩;have src:View BR H ⟨some ⟨q.size,0,none⟩,1,1⟩ [bC d]:=(Own.lit (E:=BR) (l:= [bC d]) cv rfl (by simp[maxLen])).view;refine Fz (E:=BR) (s:=x.conds) (src:=⟨some ⟨q.size,0,none⟩,1,1⟩) G6 G.bE.conds src (by simp only[Cd];omega) (by simp only[Cd,maxLen];omega) λcw I cx ab cz _=>?_
   have bj: ∀c aR,z c=aR->aR≠4-> ¬x.conds.ah=some c:=λc aR bk aY u=>by rw[G.bE.zq c u] at bk;exact aY bk.symm
   have aA:=ab.ah G.bE.ah (bj cb 1 k.bE.zc (by decide));have cB:ag I (⟨cb,0,none⟩:Q6)=some (Am y.p):=by have:=Ce (j:=0) aA rfl;rw[add_zero,k.hp] at this;exact this
   refine⟨Ce aA rfl,Cn aA rfl,cB,?_⟩;have cC:Own BR AR I x.ar d.ar:=G.bE.ar.mod ab λc f=>bj c 3 (G.bE.zp c f) (by decide)
   have df:=aM.size;have dg:=az.size;have dh:=Z.size;have di:=ab.size;have cD:Own BR AR I sl (EA d):=(aP.ext Z).mod ab λc f u=>by
    have:=k.fS c (by rw[k.bE.zq c u];decide);have:=X c f;omega
   have dj:(EA d).length<=901:=by unfold EA;rw[A1,Bs];split<;>simp<;>omega
   refine Fz (E:=BR) (s:=sl) (src:=x.ar) G6 cD cC.view (by omega) (by simp only[maxLen];omega) λdk t bm aC cE _=>?_
   have cF: ∀c,sl.ah=some c-> ¬c=cb:=λc f u=>by
    have:=X c f;have:=k.fS cb (by rw[k.bE.zc];decide);omega
   have bn:=aC.ah aA (λf=>cF cb f rfl);have cG:ag t (⟨cb,0,none⟩:Q6)=some (Am y.p):=by have:=Ce (j:=0) bn rfl;rw[add_zero,k.hp] at this;exact this
   refine⟨Cn bn rfl,cG,?_⟩;have cH:Ext o H:=(aM.trans az).trans Z;have bo:Mod (λc=>z c≠0) o t:=(cH.mod.trans (ab.aj λc _ f=>by rw[k.bE.zq c f];decide)).then (aC.aj λc _ f=> .inr (by have:=X c f;omega));have dl:=aC.size;have aS:LW B g t s a N sh (l.set i y) mp (λc=>(O c\/z c≠0)\/(o.size<=c/\c<t.size)):=k.w.own (bo.aj λc _ f=> .inr f) λc f=>f
   have aT:Mod (bB g O) o t:=k.frame bo;have less: ∀ {e:aa} {bp:Nat} {bq:List Hs} {bs:List Pr},LW B g e s bp N sh bq bs (λc=>(O c\/z c≠0)\/(o.size<=c/\c<t.size))->LW B g e s bp N sh bq bs O:=λU=>U.less λc f=> .inl (.inl f)
   have bt: ∀ {e:aa},Mod (bB g (λc=>(O c\/z c≠0)\/(o.size<=c/\c<t.size))) t e->Mod (bB g O) o e:=λm=>aT.trans (m.aj λc _ f=>⟨f.1,λcI=>f.2 (.inl (.inl cI))⟩)
   have cJ:Own BR AR t cw (d.conds++ [bC d]):=cx.mod aC λc f u=>by
    have:=X c u;rcases cz c f with h|h
    ·have:=k.fS c (by rw[k.bE.zq c h];decide);omega
    ·have:=(aP.ext Z).lt u;have:=aP.lt u;omega
   refine aS.change E k.at bG bH hA bI bJ cJ.view (by rw[A1,Cd];omega) bm.view (λ_ c f=>?_) (λp cK=>?_) (λcL=>?_) (λac cM e U aU=>?_) (λac aV hd e bu=>?_) λac aV cN e U aU=>?_
   ·have lt:=bm.lt f;rcases cE c f with h|h
    ·have:=X c h;exact .inr (.inr ⟨by omega,lt⟩)
    ·exact .inr (.inr ⟨by omega,lt⟩)
   ·rcases List.mem_append.1 cK with h|h
    ·exact bK p h
    ·rw[List.mem_singleton.1 h];unfold bC;have:=Ru d.wid;split<;>(dsimp only;omega)
   ·exact⟨_,rfl,bM aw cL t (less aS) aT⟩
   ·rw[List.set_set] at U;exact⟨_,rfl,bN aw ac cM e (less U) (bt aU)⟩
   ·exact⟨_,rfl,bO aw ac aV hd e (less (aS.on bu)) (aT.trans bu.mod)⟩
   ·exact⟨_,rfl,bP aw ac aV cN e (less U) (bt aU)⟩
  have bv:=T.bE.more.len;refine aD (AZ.mk (s:=x.more) (Ce T.bE.ah rfl) (af.intro (λr=>?_) (λr=>?_)))
  ·have cO:d.more≠ []:=λh=>by rw[h] at bv;simp[bv] at r
   refine aD (AC.mk (Cn T.bE.ah rfl) (aD (AC.mk (Cn T.bE.ah rfl) (ao.mk λam _ cQ bw dm=>?_))));have bx:=T.on bw;refine⟨Cn bx.bE.ah rfl,Cn bx.bE.ah rfl,aF.mk cQ (A0 3) λQ cR cS dn=>?_⟩;have bz:Ext w Q:=bw.more cS λc f=>by subst f;exact A0 _
   have cT:=T.on bz;have bA:Cells Q (⟨w.size,0,none⟩:Q6) (⟨d.st.status,d.st.next,false⟩:cP).l:=Cu cR rfl;refine aD (AJ.mk (n:=d.wid) (Ce cT.bE.ah rfl) (OU.mk ⟨d.st.status,d.st.next,false⟩ bA (nw (by omega) ⟨_,rfl,bA.rU,?_⟩)));refine tT (m:=⟨d.st.status,d.st.next,false⟩) (st:=d.st.status.toNat) (nx:=d.st.next.toNat) (by show d.st.status=_;omega) (by show d.st.next=_;omega) (by omega) (by omega) λa9 cU=>⟨_,rfl,?_⟩
   have aW:=bz.trans cU;refine ao.aY (E:=BR) (x:=⟨Ki d.wid,QX d.st.status.toNat d.st.next.toNat false,false⟩) (s:=ps) rfl G6 (aN.ext aW) (by simp only[Bs];omega) (by simp only[Bs,maxLen];omega) λcV aJ cW cX cY _=>?_
   refine bi aJ cV ((ay.trans aW).more cX aO) ?_ λc f=>?_
   ·unfold EA;rw[if_neg cO];exact cW
   ·rcases cY c f with h|h
    ·exact aO c h
    ·have:=aW.size;have:=ay.size;omega
  ·have bD:d.more= []:=by simp at r;exact Dd (by omega)
   refine bi w ps ay ?_ aO;unfold EA;rw[bD,if_pos rfl,AM];rw[bD] at aN;exact aN
 refine aD (AC.mk (ARC ax.bE.ah rfl) (af.intro (λr=>?_) (λr=>?_)))
 ·have r:0<d.bW:=by simpa using r
  refine aD (AJ.mk (n:=d.wid) (Ce ax.bE.ah rfl) (aD (OU.mk ⟨d.cq,d.bW,d.kept⟩ ax.bE.rT (nw (by omega) ⟨_,rfl,ax.bE.rT.rU,?_⟩))));refine tT (m:=⟨d.cq,d.bW,d.kept⟩) (st:=d.cq.toNat) (nx:=d.bW.toNat) (by show d.cq=_;omega) (by show d.bW=_;omega) (by omega) (by omega) λbc bE=>⟨_,rfl,?_⟩
  have cZ:=bE.ah bg λh=>h
  refine ae.bL (j:=0) cZ (of_decide_eq_true rfl) rfl λbe c0 c1 dp=>ae.bL (j:=1) c0 (of_decide_eq_true rfl) rfl λbf c2 c3 dq=>ae.bL (j:=2) c2 (of_decide_eq_true rfl) rfl λaK c4 c5 dr=>?_
  refine bh aK ((aL.trans bE).more ((c1.trans c3).trans c5) λc f=>by subst f;omega) ?_;unfold bC;rw[if_pos r];exact c4
 ·have r: ¬0<d.bW:=by simpa using r
  refine bh J aL ?_;unfold bC;rw[if_neg r];exact bg
end
theorem Xn {C:br}{t:fM}{tick:Int}{c:Nat}(h:(Dt C t tick c).err=0):C.err=0:=by
 unfold Dt at h;split at h
 ·rename_i b;exact absurd h b
 ·rename_i b;simpa using b
theorem VV {C:br}{b c:Nat}(h:(A9 C b c).err=0):(Ee C b).err=0:=by
 unfold A9 at h;split at h
 ·exact Xn h
 ·exact h
section
variable {A : aq} {B : cH} {g h : aa} {s a N sh cb : Nat} {l : List Hs} {mp : List Pr} {O : Nat -> Prop} {i : Nat} {y : Hs} {z : Nat -> Nat} {x : eE} {C : br} {R : A2K}
theorem u7 {b:Nat}(ok: ∀e∈C.more,Em e=true/\e.data.size<1099511627776)(d:De C.st b)(f:Nat):C.grown (Ee C f) (b+1) 1 1:=by
 have c:=XB ok d;unfold Ee;split
 ·exact XG (MH c (e:=QU) (by show 0<1099511627776;decide)) _ _ _
 ·obtain⟨j,k,m,n,o,p,q,v,r,w,t,u⟩:=c;exact⟨j,k,m,n,o,p,q,by omega,r,by omega,t,u.up (BW _)⟩
theorem Ub {n:Nat}(ok: ∀b∈C.more,Em b=true/\b.data.size<1099511627776)(e:De C.st n)(c f:Nat):C.grown (A9 C c f) (n+1) 1 2:=by
 have d:=u7 ok e c;unfold A9;split
 ·exact XG d _ _ _
 ·obtain⟨j,k,m,o,p,q,r,t,u,D,v,w⟩:=d;exact⟨j,k,m,o,p,q,r,t,u,by omega,v,w⟩
theorem u9 {aj:Nat}(au:bZ g)(o:CW B g h s a N sh l i y mp O cb z x C)(V:De C.st aj)(a2:aj+1<=600)(L:Aj C.wid=true)(Z: ∀e∈C.more,Em e=true/\e.data.size<1099511627776)(ab:C.ak<256)(r:y.f C.ak<=2147483647)(a3:y.u C.ak+2<16777216)(ac:N+2<=1000000)
  (hA:4+3*a<=B.A) (av:64*a+64<=B.C) (aw:a+1<=1000000) (a4:C.more.length<=800) (a5:C.ar.length<=800) (a6:C.conds.length<=800) (ax: ∀p∈C.conds,p.key.size<=1099511627776) (ay:0<=C.cq/\C.cq<128) (ak:0<=C.bW/\C.bW<=501) (a7: -4611686018427387904<=C.now/\C.now<=4611686018427387904)
  (az:y.f C.ak=0->R (J6 J9 170) h)
  (aA: ∀b c d j,y.dh d->(A9 C b c).err≠0->LW B g j s a (N+2) sh (l.set i d) mp O->Mod (bB g O) h j->R (J6 J9 (A9 C b c).err) j)
  (aC: ∀b c d j,y.dh d->(A9 C b c).err=0->Bd mp (Ff C.ak (y.f C.ak) y.name)=false->LW B g j s a (N+2) sh (l.set i (d.lost C.ak)) mp O->Mod (bB g O) h j->R (J6 J9 170) j)
  (aE: ∀b c d j,y.dh d->(A9 C b c).err=0->Bd mp (Ff C.ak (y.f C.ak) y.name)=true->du mp (Ff C.ak (y.f C.ak) y.name::(C.conds++ [bC C])) (EA (A9 C b c)++(A9 C b c).ar)≠0->LW B g j s a (N+2) sh (l.set i d) mp O->Mod (bB g O) h j->R (J6 J9 (du mp (Ff C.ak (y.f C.ak) y.name::(C.conds++ [bC C])) (EA (A9 C b c)++(A9 C b c).ar))) j)
  (aF: ∀b c d j,y.dh d->(EH C=true->y.f C.ak≠0->dQ y d C.ak b)->(A9 C b c).err=0->Bd mp (Ff C.ak (y.f C.ak) y.name)=true->du mp (Ff C.ak (y.f C.ak) y.name::(C.conds++ [bC C])) (EA (A9 C b c)++(A9 C b c).ar)=0->LW B g j s (a+1) (N+2) sh (l.set i d) (cy mp (EA (A9 C b c)++(A9 C b c).ar)) O->Mod (bB g O) h j->R (J6 J9 0) j):
  AA A P Cz #[Am cb] h R:=by
 refine RA ?_;unfold Kn;have M:64*a<=B.C:=by omega
 refine aD (AX.mk (o.bE.ptr o.hp) (aD (AC.mk (Cn o.bE.ah rfl) (o.w.holds o.at ⟨_,rfl,af.intro (λf=>az (by simpa using f)) λf=>?_⟩))));have aG:y.f C.ak≠0:=by simpa using f
 refine ai.mk λK aH=>?_
 have ad: ∀(q:aa) (H:Nat->Nat) (I:eE) (d:Hs) (b c:Nat),CW B g q s a (N+2) sh l i d mp O cb H I (A9 C b c)->y.dh d->((A9 C b c).err=0->EH C=true->y.f C.ak≠0->dQ y d C.ak b)->Mod (bB g O) h q->K () q:=λq H I d b c J k W D=>by
  have G:=Ub Z V b c;have ae:d.f (A9 C b c).ak=y.f C.ak:=by rw[k.f,G.ak]
  have ag:Ff (A9 C b c).ak (d.f (A9 C b c).ak) d.name=Ff C.ak (y.f C.ak) y.name:=by rw[ae,G.ak,k.name]
  have al:bC (A9 C b c)=bC C:=by unfold bC;rw[G.bW,G.cq,G.kept,G.wid]
  refine aH _ _ (ARD au J (by rw[G.wid];exact L) G.ok (by rw[G.ak];exact ab) (by rw[ae];exact r) hA av aw (by have:=G.more;omega) (by have:=G.ar;omega) (by rw[G.conds];omega) (by rw[G.conds];exact ax) (by rw[G.cq];exact ay) (by rw[G.bW];exact ak) G.st.st G.st.next
   (λn j u E=>aA b c d j k n u (D.trans E)) (λ_ aI=>absurd (by rw[<- ae];exact aI) aG) (λn _ w j u E=>?_) (λn _ w hd j u E=>?_) λn _ w hd j u E=>?_)
  ·rw[ag] at w;rw[G.ak] at u;exact aC b c d j k n w u (D.trans E)
  ·rw[ag] at w hd ⊢;rw[al,G.conds] at hd ⊢;exact aE b c d j k n w hd u (D.trans E)
  ·rw[ag] at w hd;rw[al,G.conds] at hd;exact aF b c d j k (W n) n w hd u (D.trans E)
 have am:=o.bE.more.len;have aJ:y.dh y:=⟨rfl,rfl,rfl,λm=>by omega⟩;refine aD (AZ.mk (s:=x.more) (Ce o.bE.ah rfl) (af.intro (λf=>?_) (λf=>?_)));rotate_left
 ·have f:C.more= []:=by simp at f;exact Dd (by omega)
  have aK:EH C=false:=by unfold EH;rw[f];rfl
  refine ad h z x y 0 0 ?_ aJ (λ_ h=>by rw[aK] at h;cases h) Mod.refl;have aL:Ee C 0=C:=by unfold Ee EH;rw[f];rfl
  have:A9 C 0 0=C:=by unfold A9;rw[aL,if_neg λh=>h.1 f]
  rw[this];exact o.put (by omega) ac M
 have an:C.more≠ []:=λh=>by rw[h] at am;simp[am] at f
 refine ai.mk λaM aN=>?_
 have ao: ∀(q:aa) (H:Nat->Nat) (I:eE) (d:Hs) (b:Nat),CW B g q s a (N+1) sh l i d mp O cb H I (Ee C b)->y.dj d->((Ee C b).err=0->EH C=true->y.f C.ak≠0->dQ y d C.ak b)->Mod (bB g O) h q->aM () q:=λq H I d b J k W D=>by
  have G:=u7 Z V b;refine aN _ _ (aD (AC.mk (Cn J.bE.ah rfl) (af.intro (λf=>?_) (λf=>?_))))
  ·have f:(Ee C b).st.status≠0:=by simpa using f
   refine aD (AC.mk (Ce J.bE.ah rfl) ?_);rw[G.now,wrap_i64 (by omega) (by omega)];refine pW (t:=⟨7,⟨#[]⟩,0,0⟩) J (by rw[G.ak];exact ab) (by rw[k.f,G.ak];exact r) (by rw[G.ak];have:=k.u C.ak;omega) ac M (by have:=G.ar;omega) (by omega) λj ap aq aO c X Q a8 aP=>⟨rfl,?_⟩
   refine ad j ap aq aO b c ?_ ⟨Q.p.trans k.p,Q.name.trans k.name,Q.f.trans k.f,λm=>by have:=k.u m;have:=Q.u m;omega⟩ (λn L r=>by
    obtain⟨v,v1,v2,aQ⟩:=W (VV n) L r;exact⟨v,v1,by have:=Q.u C.ak;omega,aQ⟩) (D.trans aP)
   have e:A9 C b c=Dt (Ee C b) ⟨7,0,0⟩ (u6 C) c:=by unfold A9;rw[if_pos ⟨an,f⟩]
   rw[e];exact X
  ·have f:(Ee C b).st.status=0:=by simpa using f
   refine ad q H I d b 0 ?_ ⟨k.p,k.name,k.f,λm=>by have:=k.u m;omega⟩ (λn L r=>W (VV n) L r) D;have e:A9 C b 0=Ee C b:=by unfold A9;rw[if_neg λh=>h.2 f]
   rw[e];exact J.put (by omega) ac M
 refine ai.mk λaR aS=>?_
 have S: ∀ah:Bool,ah=EH C->aR (ah,()) h:=λah ar=>by
  refine aS _ _ (af.intro (λf=>?_) (λf=>?_))
  ·have f:EH C=true:=by rw[<- ar];exact f
   refine ZK (e:=QU) o V (by omega) (by show 0<1099511627776;decide) (by omega) λak ap aq X aT=>⟨rfl,?_⟩
   have G:=MH (XB Z V) (e:=QU) (by show 0<1099511627776;decide);have nx:=G.st.next;refine u0 X G.st.next ⟨_,rfl,?_⟩;refine ARt (t:=⟨1,⟨#[]⟩,Sj (Dm C QU),0⟩) X (by rw[G.ak];exact ab) (by rw[G.ak];exact r) (by rw[G.ak];omega) (by omega) M (by have:=G.ar;omega) λaU aV aW aX b aY aZ a0 a1=>⟨rfl,?_⟩
   have e:Ee C b=Dt (Dm C QU) ⟨1,Sj (Dm C QU),0⟩ (-1) b:=by unfold Ee;rw[if_pos f]
   refine ao aU aV aW aX b ?_ aZ (λn _ r=>by rw[e] at n;have:=a0 n;rw[G.ak] at this;exact this r) (aT.trans a1);rw[e];exact aY
  ·have f:EH C=false:=by rw[<- ar];exact f
   refine ao h z x y 0 ?_ (Hs.dj.refl y) (λ_ h=>by rw[f] at h;cases h) Mod.refl;have e:Ee C 0=C:=by unfold Ee;rw[if_neg (by simp[f])]
   rw[e];exact o.put (by omega) (by omega) M
 have Y:=o.bE;unfold EH at S;refine aD (AC.mk (Cn Y.ah rfl) (af.intro (λT=>?_) (λT=>S _ (by simp at T;simp[T]))));refine aD (Aa.mk (Cn Y.ah rfl) (af.intro (λF=>?_) (λF=>S _ (by have F:C.st.fresh=false:=F;simp[F]))));have F:C.st.fresh=true:=F;refine aD (AC.mk (Cn Y.ah rfl) (af.intro (λU=>?_) (λU=>S _ (by simp at U;simp[U]))));refine aD (AC.mk (Cn Y.ah rfl) (S _ ?_));simp at T U;simp[an,T,F,U];rfl
end
abbrev gK:Sl:=⟨none,0,0⟩
def nc(wid:A2L)(b:Nat):Option (List Ev)->bS×Int
 |none=>(⟨wid,b,⟨0,0,false⟩,gK,bG.z⟩,180)
 |some l=>(⟨wid,b,⟨(Bu l).status,(Bu l).next,false⟩,gK,bG.z⟩,0)
def dX(b st nx:Int):bg:=⟨b,st,nx,⟨0,⟨#[]⟩,0,0⟩,⟨#[]⟩,gK⟩
theorem Zc(x y:bS):gr y.c 0 x.l=x.c:=rfl
theorem KP(x y:bg):gr y.c 0 x.l=x.c:=rfl
theorem OW {h:aa}{b:Nat}{T:Q7}{fr:Nat×Nat}{x:bS}(c:h[b]? =some (J2 x.c T fr)):Cells h ⟨b,0,none⟩ x.l:=Cu c rfl
theorem Kr {h:aa}{b:Nat}{T:Q7}{fr:Nat×Nat}{x:bg}(c:h[b]? =some (J2 x.c T fr)):Cells h ⟨b,0,none⟩ x.l:=Cu c rfl
theorem nf {h:aa}{b:Nat}{T:Q7}{x y:bS}{K:bS->aa->Prop}(f:h[b]? =some (J2 y.c T (0,0)))(j: ∀c,Mod (· =b) h c->K x c):
  aF h ⟨b,0,none⟩ x.l λd=>Fp d ⟨b,0,none⟩ λk=>K k d:=
 aF.mk f (A0 18) λc e m s=>Fp.mk x (OW (by rw[Zc] at e;exact e)) (j c m)
theorem kH {h:aa}{b:Nat}{T:Q7}{x y:bg}{K:bg->aa->Prop}(f:h[b]? =some (J2 y.c T (0,0)))(j: ∀c,Mod (· =b) h c->K x c):
  aF h ⟨b,0,none⟩ x.l λd=>Dq d ⟨b,0,none⟩ λk=>K k d:=
 aF.mk f (A0 9) λc e m s=>Dq.mk x (Kr (by rw[KP] at e;exact e)) (j c m)
theorem VF {b:Ev}(h:Em b=true):b.data.size<=2000:=by
 obtain⟨t,u,v,f,j⟩:=Ri h;by_cases k:b.kind=1
 ·obtain⟨p,m,ok⟩:=f k;have:=(w7 m).2;have e:=congrArg List.length this;rw[Ay] at e;rw[<- e];simp only[F4,A4,decide_eq_true_eq] at ok;obtain⟨⟨w,o⟩,q⟩:=ok;have x:=Ba.1 o;have:=PT q;have z:=AV (n:=p.az.toNat) (by omega);have C:=AV (n:=p.steps.length) (by omega);unfold Ci;simp only[A1];omega
 ·by_cases r:b.kind=12
  ·have:=FK (j r);omega
  ·have d:=MF h;unfold Ef at d;simp only[A4,DE,decide_eq_true_eq] at d;rcases d.2 with c|c
   ·rw[c];decide
   ·unfold dZ at c;simp at c;omega
section
variable {A : aq} {B : cH} {g h : aa} {s a N sh : Nat} {l : List Hs} {mp : List Pr} {O : Nat -> Prop} {i : Nat} {y : Hs} {fl : cG} {an : dk} {R : A2K}
theorem LW.get {key:A2L}(c:LW B g h s a N sh l mp O)(d:key.size<=1099511627776)(e: ∀b,Ext h b->R (J1 #[J7 (I1 mp key).1,J3 (I1 mp key).2,J6 J9 0]) b):AA A P FR #[Am s,J7 key] h R:=by obtain⟨j,k,st,m,n,nn,f,o,rfl,p,q,out⟩:=c;exact rJ f d e
theorem LW.scan {p f:A2L}{d:Int}(e:LW B g h s a N sh l mp O)(j:p.size<=1099511627776)(k: ∀sl b,Own BR AR b sl (jf mp p f d)->(∀ c,sl.ah=some c->h.size<=c)->Ext h b->R (J1 #[J4 sl.p sl.len sl.cap,J6 J9 0]) b):AA A P En #[Am s,J7 p,J7 f,J6 J9 d] h R:=by obtain⟨o,q,st,m,r,nn,n,t,rfl,u,v,out⟩:=e;exact AOl n j k
theorem LW.eF(d:LW B g h s a N sh l mp O)(b:l[i]? =some y):h[y.p]? =some (J2 #[Am s,J7 y.name,J6 J9 (sh:Int),.map (some y.bh),.map (some y.bu)] Rm (0,0))/\1<=sh/\sh<=16:=by obtain⟨e,f,st,m,j,nn,k,n,o,c,p,out⟩:=d;exact⟨(c.host i y b).cell,(c.host i y b).sh⟩
theorem LW.store(b:LW B g h s a N sh l mp O)(c:l[i]? =some y)(d:R (Am s) h):AA A P Dg #[Am y.p] h R:=by refine Vf ?_;unfold PH;exact af.no rfl (aD (AX.mk (AO (b.eF c).1 rfl) d))
theorem LW.aE(b:LW B g h s a N sh l mp O)(c:l[i]? =some y)(d:R (J6 J9 (sh:Int)) h):AA A P EY #[Am y.p] h R:=by refine Us ?_;unfold NW;exact af.no rfl (aD (AC.mk (AB (b.eF c).1 rfl) d))
theorem Jk.eT(b:Jk mp fl an){wid:A2L}(c:Aj wid=true):I1 mp (Ki wid)=match fl wid with|none=>(⟨#[]⟩,false)|some l=>(QX (Bu l).status.toNat (Bu l).next.toNat false,true):=by unfold I1;rw[b.fR wid c];cases fl wid<;>rfl
theorem Jk.fI(c:Jk mp fl an){b:A2L}(d:Aj b=true):I1 mp (Kk b)=match an b with|none=>(⟨#[]⟩,false)|some x=>(iI x.1 x.2.1.toNat x.2.2.toNat,true):=by unfold I1;rw[c.kA b d];cases an b<;>rfl
theorem sM {wid:A2L}(v:LW B g h s a N sh l mp O)(o:l[i]? =some y)(w:Jk mp fl an)
  (F:Aj wid=false-> ∀f,Ext h f->R (J1 #[bS.z.v,J6 J9 1]) f)
  (G:Aj wid=true-> ∀f,Ext h f->R (J1 #[(nc wid (Av wid sh) (fl wid)).1.v,J6 J9 (nc wid (Av wid sh) (fl wid)).2]) f):
  AA A P MZ #[Am y.p,J7 wid] h R:=by
 obtain⟨-,H,I⟩:=v.eF o;refine ACD ?_;unfold Vz;refine ao.mk λJ _ z p Y=>ai.mk λK L=>af.no rfl (Ep ⟨_,rfl,L _ _ ?_⟩)
 cases m:Aj wid with
 |false=>exact af.yes rfl (nf z λb M=>F m b (p.more M λc j=>by subst j;exact A0 _))
 |true=>
  have Z:=FK m;have q:=v.on p;have fin: ∀ {b d:aa} {x:bS} {r:Int},Ext J b->Mod (· =h.size) b d->(x,r)=nc wid (Av wid sh) (fl wid)->R (J1 #[x.v,J6 J9 r]) d:=λ{b d x r} k t Q=>by
   have:=G m d ((p.trans k).more t λc j=>by subst j;exact A0 _);rw[<- Q] at this;exact this
  refine af.no rfl (q.aE o ⟨_,rfl,R8 (by omega) H I ⟨_,_,rfl,af.no rfl (q.store o ⟨_,rfl,nw (by omega) ⟨_,rfl,?_⟩⟩)⟩⟩);refine q.get (by rw[Ru];omega) λb k=>?_
  rw[w.eT m];have C:=k.ah z λh=>h
  cases u:fl wid with
  |none=>
   refine⟨_,_,_,rfl,af.no rfl (af.yes rfl (nf C λd t=>?_))⟩;exact fin k t (by rw[u];rfl)
  |some e=>
   have n:=w.dE wid e u;have nx:=n.next.1;have ab:=n.len;have st:=n.st;have ac:1<=e.length:=List.length_pos_iff.2 n.ne;refine⟨_,_,_,rfl,af.no rfl (af.no rfl (AKi (by omega) (by omega) (by omega) λd D=>og.mk _ ⟨_,rfl,?_⟩))⟩;refine ao.mk λad _ S T ae=>aF.mk S (A0 3) λU V W ag=>?_
   have E:Ext b U:=(D.trans T).more W λc j=>by subst j;exact D.size
   refine OU.mk _ (Cu V rfl) (nf (E.ah C λh=>h) λah X=>?_);refine fin (k.trans E) X ?_;rw[u];unfold nc;rw[show(((Bu e).status.toNat:Nat):Int)=(Bu e).status from by omega,show(((Bu e).next.toNat:Nat):Int)=(Bu e).next from by omega]
theorem AIG {e:A2L}(M:LW B g h s a N sh l mp O)(Q:l[i]? =some y)(z:Jk mp fl an)(C:Aj e=true)
  (D: ∀E,Ext h E->R (match an e with|none=>J1 #[J7 ⟨#[]⟩,bg.z.v,J3 false,J6 J9 0]|some x=>J1 #[J7 (AY x.1),(dX 0 x.2.1 x.2.2).v,J3 true,J6 J9 0]) E):AA A P LH #[Am y.p,J7 e] h R:=by
 have ag:=FK C;refine XC ?_;unfold Pk;refine ao.mk λah _ S f aj=>?_
 have F:=M.on f;refine F.store Q ⟨_,rfl,tQ (by omega) ⟨_,rfl,F.get (by rw[VT];omega) λj k=>?_⟩⟩;rw[z.fI C];have m:=k.ah S λh=>h
 cases o:an e with
 |none=>
  refine⟨_,_,_,rfl,ai.mk λK p=>af.no rfl (p _ _ (af.yes rfl (kH m λG T=>?_)))⟩;have:=D G ((f.trans k).more T λc d=>by subst d;exact A0 _);rw[o] at this;exact this
 |some x=>
  obtain⟨⟨ak,al⟩,⟨am,ap⟩,aq⟩:=z.kB e x o;refine⟨_,_,_,rfl,ai.mk λK p=>af.no rfl (p _ _ (af.no rfl ?_))⟩;unfold iI;have ar:=Fg (n:=x.2.1.toNat) (by omega);have au:=Fg (n:=x.2.2.toNat) (by omega);have av:=AV (n:=x.1.length) (by omega);have aw:(BQ x.1).length<=2010:=by unfold BQ;rw[A1];omega
  refine Js λG H q=>⟨_,rfl,G8 H (by simp only[A1];omega) λax U r=>⟨_,rfl,?_⟩⟩
  rw[IW (by omega)] at*
  refine DN (most:=4) U (by simp only[A1];omega) (by decide) λay V t=>⟨_,rfl,?_⟩
  rw[CQ (by omega) (by omega)] at*
  have W:CS 501 ⟨Bc x.2.2.toNat,false⟩=(x.2.2.toNat,⟨[],false⟩):=by have:=CQ (n:=x.2.2.toNat) (most:=501) (by omega) (by omega) [];rwa [AM] at this
  refine DN (most:=501) V (by simp only;omega) (by decide) λX Y u=>⟨_,rfl,?_⟩
  rw[W] at*
  refine ao.mk λaz _ Z v aA=>aF.mk Z (A0 9) λI J w aC=>?_
  have aD:=q.size;have aE:=r.size;have aG:=t.size;have aH:=u.size;have aI:=Ai m;have aa:Ie I j.size ⟨[],false⟩:=w.ah (v.ah Y λh=>h) (by have:=Ai H;omega);refine MU aa ⟨_,rfl,af.no rfl ?_⟩;rw[KP] at J;have ab:=w.ah (v.ah (u.ah (t.ah (r.ah (q.ah m λh=>h) (by omega)) (by omega)) (by omega)) λh=>h) (b:=h.size) (by omega);refine Dq.mk _ (Kr J) (kH ab λac ad=>?_);have L:Ext j X:=q.more ((r.trans t).trans u) λc d=>by subst d;exact A0 _
  have ae:Ext j I:=(L.trans v).more w λc d=>by subst d;exact L.size
  have:=D ac (((f.trans k).trans ae).more ad λc d=>by subst d;exact A0 _);rw[o] at this;rw[show((x.2.1.toNat:Nat):Int)=x.2.1 from by omega,show((x.2.2.toNat:Nat):Int)=x.2.2 from by omega];exact this
end
theorem AKy {wid:A2L}{l:List Ev}{b i:Nat}{p:Pr}(h:(((Sq wid l).drop b).take 32)[i]? =some p): ∃c,l[b+i]? =some c/\p=Om wid c:=by
 rw[Fc] at h;split at h
 ·rw[C5] at h;exact RG h
 ·cases h
theorem JO.fresh {h j:aa}{k:Nat->Prop}{s:bd}{a b c:Sl}{n:Nat}(o:JO h s a b c)(m:Mod k h j)(fr: ∀x,a.ah=some x\/b.ah=some x\/c.ah=some x->n<=x)(f: ∀c,k c->c<n):JO j s a b c:=
 o.mod m (λx d e=>by have:=fr x (.inl d);have:=f x e;omega) (λx d e=>by have:=fr x (.inr (.inl d));have:=f x e;omega) (λx d e=>by have:=fr x (.inr (.inr d));have:=f x e;omega)
section
variable {A : aq} {B : cH} {g h : aa} {s a N sh : Nat} {l : List Hs} {mp : List Pr} {O : Nat -> Prop} {i : Nat} {y : Hs} {fl : cG} {an : dk} {R : A2K}
theorem sN {wid:A2L}{d:List Ev}{aX:J0}(ah:LW B g h s a N sh l mp O)(v:l[i]? =some y)(aj:Jk mp fl an)(ak:Aj wid=true)(al:fl wid=some d)
  (aY: ∀U e w z C,Ext h U->View dS U e d->JO U (Bu d) w z C->(∀ x,w.ah=some x\/z.ah=some x\/C.ah=some x->h.size<=x)->(∀ x,e.ah=some x->h.size<=x)->(∀ x y,e.ah=some x->w.ah=some y\/z.ah=some y\/C.ah=some y->x<y)->
   R (J1 #[(⟨wid,(Av wid sh:Int),⟨(Bu d).status,(Bu d).next,false⟩,e,(Bu d).V w z C⟩:bS).v,J6 J9 0]) U):AA A P Gc #[Am y.p,aX,J7 wid] h R:=by
 have V:=aj.dE wid d al;obtain⟨nx,aC⟩:=V.next;have aZ:=V.len;have bL:1<=d.length:=List.length_pos_iff.2 V.ne;have a0:=FK ak;refine ACc ?_;unfold WB;refine ao.mk λW _ am D bM=>?_
 refine sM (ah.on D) v aj (λh=>by rw[ak] at h;cases h) λ_ k aD=>?_
 rw[al];refine QZ.mk _ ⟨_,rfl,ao.mk λbN _ a1 a2 bO=>aF.mk a1 (A0 18) λX Q a3 bP=>af.no rfl ?_⟩;rw[Zc] at Q;have ap:Ext k X:=a2.more a3 λc f=>by subst f;exact A0 _
 have aE:Ext W X:=aD.trans ap;have bQ:=Ai am;have a4:=aD.size;have bR:=ap.size;have bT:X[h.size]? =some (J2 bS.z.c Cm (0,0)):=aE.ah am λh=>h
 let fv:Sl->bS:=λe=>⟨wid,(Av wid sh:Int),⟨(Bu d).status,(Bu d).next,false⟩,e,bG.z⟩
 have Q:X[k.size]? =some (J2 (fv gK).c Cm (0,0)):=Q;refine ai.mk λK a5=>Aa.mk (n:=false) (Cn Q rfl) (af.no rfl ?_)
 refine Loop.rule (λm x r=> ∃e:Sl,m=d.length-e.len/\e.len<=d.length/\Ext W r/\Ext k r/\r[k.size]? =some (J2 (fv e).c Cm (0,0))/\Own dS A7 r e (d.take e.len)/\(∀ b,e.ah=some b->k.size<b)) ?_
  ⟨gK,rfl,AD _,aE,ap,Q,Own.nil,λb j=>by simp[Sl.ah] at j⟩
 rintro bU m _ aq ⟨e,rfl,a6,S,aG,t,I,fr⟩ a7;refine AZ.mk (s:=e) (Ce t rfl) (AC.mk (n:=(Bu d).next) (Cn t rfl) ?_);rw[nx,wrap_i64 (by omega) (by omega)];have aH:LW B g aq s a N sh l mp O:=ah.on (D.trans S);refine af.intro (λF=>?_) (λF=>?_)
 ·have bV:e.len<d.length:=by simp at F;omega
  refine AZ.mk (s:=e) (Ce t rfl) (aH.store v ⟨_,rfl,Ce t rfl,tO (by omega) λaI Y=>⟨_,rfl,?_⟩⟩);have a8:=Y.ah t λh=>h
  refine⟨Ce a8 rfl,?_⟩;rw[Ae (by omega)];refine tP (by omega) (by omega) λa9 ar=>⟨_,rfl,?_⟩
  have au:=Y.trans ar;have ba:=aH.on au;refine ba.scan (by have:=ANG a0;omega) λps J av bb bc=>⟨_,_,rfl,af.no rfl ?_⟩
  rw[APx ah.sorted aj ak al a6] at av;have u:=au.trans bc;have aJ:=av.len;have bW:ps.len=min 32 (d.length-e.len):=by rw[aJ,Ax,DQ];unfold Sq;rw[Bs]
  refine af.no (by simp;omega) ?_;have bd:=S.trans u;have be:=aG.trans u;refine Loop.rule (λm x r=> ∃(o:Nat) (q:Sl),x=((o:Int),())/\m=ps.len-o/\o<=ps.len/\q.len=e.len+o/\Ext W r/\Ext k r/\Mod (λc=>c=k.size\/e.ah=some c) J r/\r[k.size]? =some (J2 (fv q).c Cm (0,0))/\Own dS A7 r q (d.take q.len)/\(∀ b,q.ah=some b->k.size<b/\(e.ah=some b\/J.size<=b))) ?_
   ⟨0,e,rfl,rfl,AD _,rfl,bd,be,Mod.refl,u.ah t λh=>h,I.ext u,λb j=>⟨fr b j,.inl j⟩⟩
  rintro bX m _ aw ⟨o,q,rfl,rfl,aK,bf,aL,aM,ax,L,aN,M⟩ bg;dsimp only;refine af.intro (λF=>?_) (λF=>?_)
  ·have Z:o<ps.len:=by simpa using F
   have bY:e.len+o<d.length:=by omega
   obtain⟨p,aO⟩: ∃p,(((Sq wid d).drop e.len).take 32)[o]? =some p:=⟨_,A2 (by rw[<- aJ];exact Z)⟩;obtain⟨G,aa,rfl⟩:=AKy aO;have ok:=(aC _ _ aa).2;have hd:=VF ok;have bZ:=yk (MF ok) (by omega);have bh:View BR aw ps (((Sq wid d).drop e.len).take 32):=(av.view.mod ax λb j f=>by
    have:=bb b j;have:=au.size;have:=aG.size;have:=Ai t;rcases f with rfl|f
    ·omega
    ·have:=I.lt f;omega)
   refine bh.idx aO λb0 _ bi=>?_
   obtain⟨bj,bk,bm⟩:=bi.pair;refine AJ.mk bj (AJ.mk bk (Aa.mk bm (ao.pair λb ab b1 bn aP b2=>AJ.mk (n:=AY (Nc G)) (AB bn rfl) ?_)));refine AKX (by omega) λb3 aQ=>?_
   rw[(AM0 (by omega)).2 ⟨ok,rfl⟩];refine o0.mk G ⟨_,rfl,ao.mk λb4 _ bo bp b5=>aF.mk bo (A0 8) λbq aR br b6=>af.no rfl ?_⟩;rw[pG] at aR;have H:Ext aw bq:=((aP.trans aQ).trans bp).more br λc f=>by subst f;exact(aP.trans aQ).size
   refine AZ.mk (s:=q) (Ce (H.ah L λh=>h) rfl) (Nn.mk G (Qc aR) ?_);refine ao.aY (E:=dS) (x:=G) (s:=q) rfl mu (aN.ext H) (by simp only[Ax];omega) (by simp only[Ax,maxLen];omega) λT b7 aS ac bs b8=>?_
   have b9:=Ai L;have ca:=H.size;have cb:=ax.size;have bt: ¬q.ah=some k.size:=λh=>by have:=(M _ h).1;omega
   refine ae.bL (dH:=(fv T).c) (ac.ah (H.ah L λh=>h) bt) (of_decide_eq_true rfl) rfl λcc bu ad cd=>?_
   rw[Ae (by omega)];have aT:T.len=e.len+(o+1):=by have:=aS.len;rw[A1,Ax,Cd] at this;omega
   have ce:=D.size;have aU: ∀b,T.ah=some b->k.size<b/\(e.ah=some b\/J.size<=b):=λb j=>by
    rcases bs b j with h|h
    ·exact M b h
    ·exact⟨by omega,.inr (by omega)⟩
   have bv: ∀b,q.ah=some b->W.size<=b:=λb j=>by have:=(M b j).1;omega
   refine bg (ps.len-(o+1)) _ _ (by omega) ⟨o+1,T,rfl,rfl,Z,aT,((aL.trans H).more ac bv).more ad λc f=>by subst f;exact a4,((aM.trans H).more ac λb j=>by have:=(M b j).1;omega).more ad λc f=>by subst f;exact A0 _,?_,bu,?_,aU⟩
   ·refine(ax.trans H.mod).then ((ac.aj λc _ f=>?_).trans (ad.aj λc _ f=>?_))
    ·rcases(M c f).2 with h|h
     ·exact .inl (.inr h)
     ·exact .inr h
    ·exact .inl (.inl f)
   ·have bw:d.take T.len=d.take q.len++ [G]:=by rw[aT,bf,<-HJ,As,aa];rfl
    rw[bw];exact aS.mod ad λb j f=>by have:=(aU b j).1;omega
  ·have Z:o=ps.len:=by simp at F;omega
   subst Z;exact a7 (d.length-q.len) _ _ (by omega) ⟨q,rfl,by omega,aL,aM,L,aN,λb j=>(M b j).1⟩
 ·have bx:e.len=d.length:=by simp at F;omega
  rw[bx,BT] at I;refine a5 () aq (AZ.mk (s:=e) (Ce t rfl) ?_);refine tU I.view aZ (λG aa=>by
   obtain⟨o,aK⟩:=F2 aa;have:=VF (aC o G aK).2;omega) V.ok λaI w z C Y bz ay=>Gl.mk _ ⟨_,_,rfl,?_⟩
  refine ao.mk λa9 _ bA ar cf=>aF.mk bA (A0 12) λJ ag bB cg=>?_
  rw[O9] at ag;have aV:Ext aI J:=ar.more bB λc f=>by subst f;exact A0 _
  have u:=Y.trans aV;have az:=u.ah t λh=>h
  have bC:=u.ah ((S.ah am λh=>h)) λh=>h
  refine ai.mk λch bD=>af.no rfl (AC.mk (n:=(Bu d).next) (AB ag rfl) (AC.mk (n:=(Bu d).next) (Cn az rfl) ?_))
  refine af.no (by simp) (AC.mk (n:=(Bu d).status) (AB ag rfl) (AC.mk (n:=(Bu d).status) (Ce az rfl) (bD _ _ (af.no (by simp) ?_))));have bE:=bz.ext aV;have ci:=Ai t;have cj:=S.size;have ck:=u.size;refine Az.mk _ (FH ag) ?_;have bF:(⟨k.size,0,none⟩:Q6).add 6=⟨k.size,6,none⟩:=rfl;rw[bF];refine aF.mk az (of_decide_eq_true rfl) λaw L aW cl=>?_
  refine Fp.mk ⟨wid,(Av wid sh:Int),⟨(Bu d).status,(Bu d).next,false⟩,e,(Bu d).V w z C⟩ (OW (by exact L)) (nf (aW.ah bC (by omega)) λab bH=>?_);have aA:Mod (λc=>c=k.size\/c=h.size) J ab:=(aW.aj λc _ f=> .inl f).trans (bH.aj λc _ f=> .inr f);have bI:=bE.fresh (n:=aq.size) aA ay λc f=>by omega
  have bJ:View dS ab e d:=(I.view.ext u).mod aA λb j f=>by have:=fr b j;omega
  refine aY ab e w z C ((D.trans (S.trans u)).more aA λc f=>by have:=D.size;omega) bJ bI (λx v=>by have:=ay x v;have:=D.size;omega) (λx v=>by have:=fr x v;have:=D.size;omega) λx y v bK=>Fl (I.lt v) (ay y bK)
theorem sO {wid:A2L}{b:List Ev}{k:J0}(m:LW B g h s a N sh l mp O)(n:l[i]? =some y)(o:Jk mp fl an)(p:Aj wid=true)(q:fl wid=some b)
  (r: ∀c d e f j,Ext h c->View dS c d b->JO c (Bu b) e f j->(∀ x,e.ah=some x\/f.ah=some x\/j.ah=some x->h.size<=x)->(∀ x,d.ah=some x->h.size<=x)->
   R (J1 #[(⟨wid,(Av wid sh:Int),⟨(Bu b).status,(Bu b).next,false⟩,d,(Bu b).V e f j⟩:bS).v,J6 J9 0]) c):AA A P Gc #[Am y.p,k,J7 wid] h R:=
 sN m n o p q λc d e f j t V u v w _=>r c d e f j t V u v w
end
theorem OP {k v:A2L}(a:k≠⟨#[]⟩)(b:k.size<=64)(c:v.size<=8192):Ah ⟨k,v,false⟩=0:=by unfold Ah;rw[if_neg (by simp[a]),if_neg (by simp;omega)]
theorem sP {k:A2L}(a:k≠⟨#[]⟩)(b:k.size<=64):Ah ⟨k,⟨#[]⟩,true⟩=0:=by have z:(⟨#[]⟩:A2L).size=0:=rfl;unfold Ah;rw[if_neg (by simp[a]),if_neg (by simp;omega)]
theorem PU {a:A2L}(b:0<a.size):a≠⟨#[]⟩:=λc=>by rw[c] at b;cases b
theorem sQ: ∀ {l:List Pr},(∀ p∈l,Ah p=0)->GD l=0
 | [],_=>rfl
 |x::l,a=>by
  unfold GD;rw[if_neg (by rw[a x (by simp)];decide)];exact sQ λp b=>a p (by simp[b])
theorem pB {l:List Pr}(a:l≠ [])(c:l.length<=64)(b: ∀p∈l,Ah p=0):EX l=0:=by unfold EX;rw[if_neg (by rw[TO];exact a),if_neg (by omega)];exact sQ b
theorem AQh {wid:A2L}{a:Ev}(c:Aj wid=true)(b:Em a=true):Ah (Om wid a)=0:=by
 have d:=FK c;have e:=APD d a.id.toNat;have hd:=VF b;have f:=yk (MF b) (by omega);refine OP (PU ?_) (by omega) ?_
 ·unfold eg;rw[AP];unfold kV;simp
 ·rw[AP];omega
theorem AQH {wid:A2L}{st nx:Nat}{a:Bool}(b:Aj wid=true)(c:st<128)(d:nx<=501):Ah ⟨Ki wid,QX st nx a,false⟩=0:=by have e:=FK b;have:=AKV (kept:=a) c d;exact OP (PU (by rw[Ru];omega)) (by rw[Ru];omega) (by omega)
theorem ARw {a:A2L}{x:List UInt8×Int×Int}(b:Aj a=true)(c:0<=x.2.1/\x.2.1<=4)(d:0<=x.2.2/\x.2.2<=501)(e:x.1.length<=2000):Ah (YZ a x)=0:=by have f:=FK b;have g:=Fg (n:=x.2.1.toNat) (by omega);have h:=Fg (n:=x.2.2.toNat) (by omega);have i:=AV (n:=x.1.length) (by omega);refine OP (PU (by rw[VT];omega)) (by rw[VT];omega) ?_;unfold iI BQ;rw[AP];simp only[A1];omega
theorem Xf {t:fM}{wid:A2L}{sh num:Nat}{tick:Int}(a:Gy t wid=true):Ah ⟨MG sh tick num,gf t wid,false⟩=0/\(BM (MG sh tick num)≠104/\BM (MG sh tick num)≠119/\BM (MG sh tick num)≠114)/\BM (MG sh tick num)≠108:=by
 unfold Gy at a;simp only[A4,Ba] at a;obtain⟨⟨⟨⟨c,d⟩,b⟩,e,f⟩,g,h⟩:=a;have:=xp (kind:=t.kind.toNat) (wid:=wid) (ref:=t.ref.toNat) (turn:=t.turn.toNat) (by omega) (FK b) (by omega) (by omega);unfold MG gf;split
 ·rw[SA];exact⟨OP (PU (by rw[Ms];omega)) (by rw[Ms];omega) (by omega),⟨by decide,by decide,by decide⟩,by decide⟩
 ·rw[xo];exact⟨OP (PU (by rw[xf];omega)) (by rw[xf];omega) (by omega),⟨by decide,by decide,by decide⟩,by decide⟩
end Go.Lf.G
namespace Go.Lf
open G
open Go
open M (Sorted Af CZ A8 Ag Aq BU Ah bA BG aO BC)
def br.fits(a:br)(b:List Ev):Prop:=Eo TA (b++a.more)=some a.st
end Go.Lf
namespace Go.Lf.G
open Go
open M (Sorted Af CZ A8 Ag Aq BU Ah bA BG aO BC)
theorem PI {a:br}{c:List Ev}{d:Ev}(b:a.fits c):(Dm a d).fits c:=by
 unfold Dm;split
 ·exact b
 ·split
  ·exact b
  ·split
   ·exact b
   ·rename_i e;have e:(Bo a.st (Ct a d)).1=0:=by simpa using e
    show Eo TA (c++(a.more++ [Ct a d]))=_;rw[<- A3];exact AIM b e
theorem VA {a:br}{c:List Ev}{t:fM}{tick:Int}{b:Nat}(d:a.fits c):(Dt a t tick b).fits c:=by unfold br.fits;rw[(Gz a t tick b).1,(Gz a t tick b).2];exact d
theorem sR {a:br}{b:List Ev}{c f:Nat}(d:a.fits b):(A9 a c f).fits b:=by
 have e:(Ee a c).fits b:=by
  unfold Ee;split
  ·exact VA (PI d)
  ·exact d
 unfold A9;split
 ·exact VA e
 ·exact e
abbrev iW:=Option (A2L×(List UInt8×Int×Int))
end Go.Lf.G
namespace Go.Lf
open G
open Go
open M (Sorted Af CZ A8 Ag Aq BU Ah bA BG aO BC)
structure br.beside (C:br) (o:iW):Prop where
 ok: ∀p∈C.ar,Ah p=0
 fq: ∀p∈C.ar,(BM p.key≠104/\BM p.key≠119/\BM p.key≠114)\/ ∃r x,o=some (r,x)/\p=YZ r x
 l9: ∀p∈C.ar,BM p.key≠108
end Go.Lf
namespace Go.Lf.G
open Go
open M (Sorted Af CZ A8 Ag Aq BU Ah bA BG aO BC)
theorem MI {a:br}{c:iW}(b:a.beside c)(d:Ev):(Dm a d).beside c:=by have:=(OI a d).2.2.2.2.2.1;exact⟨by rw[this];exact b.ok,by rw[this];exact b.fq,by rw[this];exact b.l9⟩
theorem UY {d:br}{f:iW}(a:d.beside f)(t:fM)(tick:Int)(g:Nat):(Dt d t tick g).beside f:=by
 unfold Dt;split
 ·exact a
 ·split
  ·exact⟨a.ok,a.fq,a.l9⟩
  ·rename_i c;have c:Gy t d.wid=true:=by simpa using c
   refine⟨λp e=>?_,λp e=>?_,λp e=>?_⟩<;>rcases List.mem_append.1 e with b|b
   ·exact a.ok p b
   ·rw[List.mem_singleton.1 b];exact(Xf c).1
   ·exact a.fq p b
   ·rw[List.mem_singleton.1 b];exact .inl (Xf c).2.1
   ·exact a.l9 p b
   ·rw[List.mem_singleton.1 b];exact(Xf c).2.2
theorem YL {a:br}{b:iW}(c:a.beside b)(d f:Nat):(A9 a d f).beside b:=by
 have e:(Ee a d).beside b:=by
  unfold Ee;split
  ·exact UY (MI c _) _ _ _
  ·exact c
 unfold A9;split
 ·exact UY e _ _ _
 ·exact e
theorem AIZ {e:br}{c:A2L}{x:List UInt8×Int×Int}(a:e.beside none)(f:Aj c=true)(g:0<=x.2.1/\x.2.1<=4)(h:0<=x.2.2/\x.2.2<=501)(i:x.1.length<=2000):(nZ e (Kk c) (iI x.1 x.2.1.toNat x.2.2.toNat)).beside (some (c,x)):=by
 refine⟨λp d=>?_,λp d=>?_,λp d=>?_⟩<;>rcases List.mem_append.1 d with b|b
 ·exact a.ok p b
 ·rw[List.mem_singleton.1 b];exact ARw f g h i
 ·rcases a.fq p b with a|⟨j,k,a,_⟩
  ·exact .inl a
  ·cases a
 ·exact .inr ⟨c,x,rfl,List.mem_singleton.1 b⟩
 ·exact a.l9 p b
 ·rw[List.mem_singleton.1 b];show BM (Kk c)≠108;rw[LM];decide
theorem sS(a:br)(b:Ev):(Dm a b).ar=a.ar:=(OI a b).2.2.2.2.2.1
theorem sT {b:br}{p:Pr}(a:p∈b.ar)(t:fM)(tick:Int)(c:Nat):p∈(Dt b t tick c).ar:=by
 unfold Dt;split
 ·exact a
 ·split
  ·exact a
  ·exact Hc _ a
theorem AMc {a:br}{p:Pr}(b:p∈a.ar)(c e:Nat):p∈(A9 a c e).ar:=by
 have d:p∈(Ee a c).ar:=by
  unfold Ee;split
  ·exact sT (by rw[sS];exact b) _ _ _
  ·exact b
 unfold A9;split
 ·exact sT d _ _ _
 ·exact d
theorem Jk.note {o b:List Pr}{v:cG}{k:dk}{j:iW}(g:Jk o v k)(s:Sorted o)(l:fE b j):Jk (cy o b) v (pA k j):=by
 have w: ∀p∈b,BM p.key≠104/\BM p.key≠119:=λp A=>by
  rcases l.fq p A with m|⟨a,x,_,rfl⟩
  ·exact⟨m.1,m.2.1⟩
  ·exact⟨by show BM (Kk a)≠104;rw[LM];decide,by show BM (Kk a)≠119;rw[LM];decide⟩
 refine⟨λn q B y=>?_,λn q=>?_,λa z=>?_,g.dE,λa x f=>?_⟩
 ·rw[KL s λc e d=>(w c e).1 (by rw[d];exact qW y)];exact g.cI n q B y
 ·rw[KL s λc e d=>(w c e).2 (by rw[d];exact GH n)];exact g.fR n q
 ·have no: ∀c∈b,c.key=Kk a-> ∃x,j=some (a,x)/\c=YZ a x:=λc e d=>by
   have C:=(congrArg BM d).trans (LM a);rcases l.fq c e with m|⟨h,x,D,rfl⟩
   ·exact absurd C m.2.2
   ·have:h=a:=xn d;subst this;exact⟨x,D,rfl⟩
  cases j with
  |none=>
   rw[KL s λc e d=>?_,g.kA a z]
   ·rfl
   ·obtain⟨x,f,_⟩:=no c e d;cases f
  |some r=>
   obtain⟨h,x⟩:=r;show _=(dB k h x a).map (YZ a);by_cases i:a=h
   ·subst i;rw[Ju];refine(na (p:=YZ a x) s (l.has a x rfl).1 λc e d=>?_).trans rfl;obtain⟨t,u,rfl⟩:=no c e d;cases u;rfl
   ·rw[Pt i,KL s λc e d=>?_,g.kA a z];obtain⟨t,u,_⟩:=no c e d;cases u;exact i rfl
 ·cases j with
  |none=>exact g.kB a x f
  |some r=>
   obtain⟨h,t⟩:=r;have f:dB k h t a=some x:=f;by_cases i:a=h
   ·subst i;rw[Ju] at f;cases f;exact(l.has a x rfl).2.2
   ·rw[Pt i] at f;exact g.kB a x f
theorem ZV {a:br}{b:List Ev}{g:Nat}(c:a.fits b)(e:b++a.more≠ [])(f:De a.st g):R3 (b++a.more)/\Bu (b++a.more)=a.st:=by
 have d:Bu (b++a.more)=a.st:=by unfold Bu;rw[c];rfl
 have nx:=wW c e;have:=f.next;exact⟨⟨e,by omega,by rw[d];exact c,by rw[d];exact f.st⟩,d⟩
theorem AOj {a:Type}{f:A2L->Option a}{b:A2L}{x:a}(c:f b=some x):dB f b x=f:=by
 funext e;unfold dB;split
 ·rename_i d;rw[d,c]
 ·rfl
theorem Jk.done {c:List Pr}{a:cG}{g:dk}{D:br}{o:iW}{k:Nat}(h:Jk c a g)(s:Sorted c)(m:Aj D.wid=true)(n:D.fits ((a D.wid).getD []))(b:(a D.wid).getD []++D.more≠ [])(p:De D.st k)(q:D.beside o)
  (has: ∀d x,o=some (d,x)->YZ d x∈D.ar/\Aj d=true/\(0<=x.2.1/\x.2.1<=4)/\(0<=x.2.2/\x.2.2<=501)/\x.1.length<=2000):
  Jk (cy c (EA D++D.ar)) (dB a D.wid ((a D.wid).getD []++D.more)) (pA g o):=by
 have i:fE D.ar o:=⟨q.fq,has⟩;obtain⟨r,t⟩:=ZV n b p;by_cases e:D.more= []
 ·have f:EA D= []:=by unfold EA;rw[e];rfl
  rw[f,CM];have:dB a D.wid ((a D.wid).getD []++D.more)=a:=by
   rw[e,AM] at b ⊢;cases j:a D.wid with
   |none=>rw[j] at b;exact absurd rfl b
   |some l=>exact AOj j
  rw[this];exact h.note s i
 ·have f:EA D++D.ar=D.more.map (Om D.wid)++([Tc D.wid ((a D.wid).getD []++D.more)]++D.ar):=by unfold EA Tc;rw[if_neg e,A3,t]
  rw[f];exact h.land s m r i
theorem sU {e:List Pr}{c:cG}{h:dk}{a:br}(i:Jk e c h)(j:Aj a.wid=true)(b:match c a.wid with|none=>a.bW=0|some l=>a.cq=(Bu l).status/\a.bW=(Bu l).next/\a.kept=false/\0<a.bW):Bd e (bC a)=true:=by
 have g:=i.eT j;cases f:c a.wid with
 |none=>
  rw[f] at b g;have b:a.bW=0:=b;have d:bC a=⟨Ki a.wid,⟨#[]⟩,true⟩:=by unfold bC;rw[if_neg (by omega)]
  rw[d];unfold Bd;rw[if_pos rfl,g];rfl
 |some l=>
  rw[f] at b g;obtain⟨k,m,n,o⟩:=b;have d:bC a=⟨Ki a.wid,QX a.cq.toNat a.bW.toNat a.kept,false⟩:=by unfold bC;rw[if_pos o]
  rw[d];unfold Bd;rw[if_neg (by simp),g,k,m,n];simp
theorem AMx {b:List Pr}{d:cG}{c:dk}{a:A2L}(e:Jk b d c)(f:Aj a=true)(h:c a=none):Bd b ⟨Kk a,⟨#[]⟩,true⟩=true:=by unfold Bd;have g:=e.fI f;rw[h] at g;rw[if_pos rfl,g];rfl
theorem sV {b:br}{g:Nat}(d:Aj b.wid=true)(ok: ∀c∈b.more,Em c=true/\c.data.size<1099511627776)(e:De b.st g): ∀p∈EA b,Ah p=0:=by
 intro p f;have st:=e.st;have nx:=e.next;unfold EA at f;rcases List.mem_append.1 f with a|a
 ·obtain⟨c,h,rfl⟩:=List.mem_map.1 a;exact AQh d (ok c h).1
 ·split at a
  ·cases a
  ·rw[List.mem_singleton.1 a];exact AQH d (by omega) (by omega)
theorem sW(a:br):(EA a).length<=a.more.length+1:=by unfold EA;rw[A1,Bs];split<;>simp
theorem sX {f e:List Pr}{a:br}{g:iW}{h:Nat}(i:Aj a.wid=true)(ok: ∀d∈a.more,Em d=true/\d.data.size<1099511627776)(j:De a.st h)(k:a.beside g)(n:a.more.length+1+a.ar.length<=64)(l:EA a++a.ar≠ [])(o:e.length<=64)(b: ∀c∈e,Bd f c=true):du f e (EA a++a.ar)=0:=by
 have q:=sW a;have d:EX (EA a++a.ar)=0:=pB l (by rw[A1];omega) λp m=>by
  rcases List.mem_append.1 m with b|b
  ·exact sV i ok j p b
  ·exact k.ok p b
 unfold du;rw[if_neg (by omega),if_neg (by rw[d];decide),if_pos (List.all_eq_true.2 b)]
theorem Rn(a:Nat):BM (CE a)=108:=by unfold BM CE;rw[EN];rfl
theorem sY {d:List Pr}{b:br}{i:iW}(s:Sorted d)(j:b.beside i)(e g:Nat)(h:A2L):Bd (cy d (EA b++b.ar)) (Ff e g h)=Bd d (Ff e g h):=by
 have f:Af (CE e) (cy d (EA b++b.ar))=Af (CE e) d:=KL s λk l m=>by
  have c:=(congrArg BM m).trans (Rn e);rcases List.mem_append.1 l with a|a
  ·unfold EA at a;rcases List.mem_append.1 a with a|a
   ·obtain⟨f,_,rfl⟩:=List.mem_map.1 a;rw[show BM (Om b.wid f).key=104 from Yq _ _] at c;exact absurd c (by decide)
   ·split at a
    ·cases a
    ·rw[List.mem_singleton.1 a] at c;rw[show BM (Ki b.wid)=119 from GH _] at c;exact absurd c (by decide)
  ·exact j.l9 k a c
 rw[OH,OH];unfold I1;rw[f]
def MC(x:cu)(p:ck):List UInt8:=Bc x.kind.toNat++(BQ (bl x.wid)++(BQ (if x.kind=2 then bl x.name else [])++(if x.kind=1 then Ci p else [])))
def QY(x:cu)(p:ck):Int:=if x.kind=1/\F4 p=false then 130 else if(x.kind=2/\Aj x.name=false)\/Aj x.wid=false\/Aj x.bz=false then 1 else 0
theorem Ze {x:cu}{p:ck}(h:QY x p=0):(x.kind=1->F4 p=true)/\(x.kind=2->Aj x.name=true)/\Aj x.wid=true/\Aj x.bz=true:=by
 unfold QY at h;split at h
 ·cases h
 ·rename_i b;split at h
  ·cases h
  ·rename_i a;simp only[not_or,not_and,Bool.not_eq_false] at b a;exact⟨b,a.1,a.2⟩
theorem RV {p:ck}(ok:F4 p=true):(Ci p).length<=1700:=by simp only[F4,A4,decide_eq_true_eq] at ok;obtain⟨⟨c,a⟩,b⟩:=ok;have d:=Ba.1 a;have:=PT b;have e:=AV (n:=p.az.toNat) (by omega);have f:=AV (n:=p.steps.length) (by omega);unfold Ci;simp only[A1];omega
theorem APR {x:cu}{p:ck}(h:QY x p=0)(f:1<=x.kind/\x.kind<=4):(MC x p).length<=2000:=by
 obtain⟨a,b,c,g⟩:=Ze h;have i:=FK c;have j:=Fg (n:=x.kind.toNat) (by omega);have k:=Kg (s:=x.wid) (by omega);have l:(BQ (if x.kind=2 then bl x.name else [])).length<=30:=by
  split
  ·rename_i d;have:=FK (b d);have:=Kg (s:=x.name) (by omega);omega
  ·have:=AV (n:=0) (by omega);show(Bc 0++ []).length<=30;rw[AM];omega
 have m:(if x.kind=1 then Ci p else []).length<=1700:=by
  split
  ·rename_i e;exact RV (a e)
  ·simp
 unfold MC;simp only[A1];omega
section
variable {A : aq} {h : aa} {R : A2K}
theorem ANP {x:cu}{p:ck}(V:View QT h x.steps p.steps)(M:x.az=p.az)(len:p.steps.length<=1099511627776)(am:1<=x.kind/\x.kind<=4)
  (w: ∀e,Ext h e->R (J1 #[J7 (if QY x p=0 then AY (MC x p) else⟨#[]⟩),J6 J9 (QY x p)]) e):AA A P NM #[x.v] h R:=by
 refine AAI ?_;unfold Sw;refine ao.mk λi _ j k an=>ai.mk λK N=>?_
 have y: ∀(n:Int) e,Ext h e->QY x p=n->n≠0->R (J1 #[J7 ⟨#[]⟩,J6 J9 n]) e:=λn e O Q r=>by
  have:=w e O;rw[Q,if_neg r] at this;exact this
 have z: ∀(ps:List UInt8) (b:aa),Ext i b->(x.kind=1->F4 p=true/\ps=Ci p)->(x.kind≠1->ps= [])->K (AY ps,()) b:=λps b f m B=>by
  have c:=f.ah j λh=>h
  have ap:ps.length<=1700:=by
   by_cases h:x.kind=1
   ·rw[(m h).2];exact RV (m h).1
   ·rw[B h];simp
  have C: ¬(x.kind=1/\F4 p=false):=λh=>by have:=(m h.1).1;rw[h.2] at this;cases this
  refine N _ _ (ai.mk λt S=>?_);have u: ∀o:Bool,(o=true↔(x.kind=2/\Aj x.name=false)\/Aj x.wid=false\/Aj x.bz=false)->t (o,()) b:=λo D=>by
   refine S _ _ (af.intro (λg=>y 1 b (k.trans f) (by unfold QY;rw[if_neg C,if_pos (D.1 g)]) (by decide)) (λg=>?_));have g:o=false:=g;have T: ¬((x.kind=2/\Aj x.name=false)\/Aj x.wid=false\/Aj x.bz=false):=λh=>by rw[D.2 h] at g;cases g
   have E:QY x p=0:=by unfold QY;rw[if_neg C,if_neg T]
   obtain⟨aq,U,W,ar⟩:=Ze E;have au:=FK W;refine AJ.mk (n:=x.name) (AB c rfl) (ai.mk λX Y=>?_);have F: ∀d:List UInt8,d=(if x.kind=2 then bl x.name else [])->X (AY d,()) b:=λd G=>by
    have nl:d.length<=16:=by
     rw[G];split
     ·rename_i Z;rw[Ay];exact FK (U Z)
     ·simp
    refine Y _ _ (AC.mk (n:=x.kind) (AO c rfl) (AJ.mk (n:=x.wid) (AB c rfl) ?_));rw[Od (by omega) (by omega)];refine Cc (by omega) λav H=>⟨_,rfl,AB (H.ah c λh=>h) rfl,KX (by omega) λaw ab=>⟨_,rfl,?_⟩⟩
    have ax:=Fg (n:=x.kind.toNat) (by omega);have ay:=Kg (s:=x.wid) (by omega);have az:(BQ d).length<=30:=by unfold BQ;rw[A1];have:=AV (n:=d.length) (by omega);omega
    refine⟨by rw[AP,AP,max_i64];omega,?_⟩;rw[Ak];refine RB (l:=d) (by omega) λac ad=>⟨_,rfl,⟨by rw[AP,AP,A1,max_i64];omega,?_⟩⟩
    rw[Ak];refine⟨by rw[AP,AP,A1,A1,max_i64];omega,?_⟩;rw[Ak];have:=w ac ((((k.trans f).trans H).trans ab).trans ad);rw[E,if_pos rfl] at this;have ae:MC x p=((Bc x.kind.toNat++BQ (bl x.wid))++BQ d)++ps:=by
     unfold MC;rw[G];simp only[A3];congr 3;split
     ·rename_i h;rw[(m h).2]
     ·rename_i h;rw[B h]
    rw[ae] at this;exact this
   refine AC.mk (n:=x.kind) (AO c rfl) (af.intro (λa=>?_) (λa=>?_))
   ·have a:x.kind≠2:=by simpa using a
    exact F [] (by rw[if_neg a])
   ·have a:x.kind=2:=by simpa using a
    have:=F (bl x.name) (by rw[if_pos a]);rw[K9] at this;exact this
  have rest:(x.kind=2->Aj x.name=true)->AJ b ((⟨h.size,0,none⟩:Q6).add 2) λag=>AA A P Bg #[J7 ag] b λah v=> ∃I:Bool,ah=J3 I/\(af (!I) (t (true,()) v) (
    AJ v ((⟨h.size,0,none⟩:Q6).add 1) λaj=>AA A P Bg #[J7 aj] v λak al=> ∃J:Bool,ak=J3 J/\(t ((!J),()) al))):=λr=>
   AJ.mk (n:=x.wid) (AB c rfl) (Ep ⟨_,rfl,af.intro (λa=>u true (by simp at a;simp[a])) λa=>AJ.mk (n:=x.bz) (AB c rfl) (Ep ⟨_,rfl,u _ (by
    have a:Aj x.wid=true:=by simpa using a
    simp only[a,CH,Bool.true_eq_false,false_or];constructor
    ·exact .inr
    ·rintro(⟨i,b⟩|h)
     ·rw[r i] at b;cases b
     ·exact h)⟩)⟩)
  refine AC.mk (n:=x.kind) (AO c rfl) (af.intro (λa=>?_) (λa=>?_))
  ·have a:x.kind=2:=by simpa using a
   refine AJ.mk (n:=x.name) (AB c rfl) (Ep ⟨_,rfl,af.intro (λq=>u true (by simp at q;simp[a,q])) λq=>rest λ_=>by simpa using q⟩)
  ·have a:x.kind≠2:=by simpa using a
   exact rest λh=>absurd h a
 refine AC.mk (n:=x.kind) (AO j rfl) (af.intro (λa=>?_) (λa=>?_))
 ·have a:x.kind=1:=by simpa using a
  refine AZ.mk (s:=x.steps) (AB j rfl) (AC.mk (n:=x.az) (Cn (by exact j) rfl) ?_);rw[M];refine tW (V.ext k) len λb f=>?_
  unfold YA;cases L:F4 p with
  |false=>exact⟨_,_,rfl,af.yes rfl (y 130 b (k.trans f) (by unfold QY;rw[if_pos ⟨a,L⟩]) (by decide))⟩
  |true=>exact⟨_,_,rfl,af.no rfl (z (Ci p) b f (λ_=>⟨L,rfl⟩) λh=>absurd a h)⟩
 ·have a:x.kind≠1:=by simpa using a
  exact z [] i Mod.refl (λh=>absurd h a) λ_=>rfl
end
def dC(a:Int)(b:A2L):Ev:=⟨0,a,0,0,0,0,false,b⟩
def Bt(c:Option (List Ev))(wid:A2L)(a:Nat)(b:Int):br:=match c with
 |none=>IA wid a 0 0 false TA b
 |some l=>IA wid a (Bu l).status (Bu l).next false (Bu l) b
def sZ(p:ck)(a:Int):Int:=if(0:Int)>a+p.az then 0 else a+p.az
def DI(x:cu)(p:ck)(a:br)(b:Nat):br:=
 if x.kind=1 then(if 0<p.az then Dt (Dm a (dC 1 (AY (Ci p)))) ⟨6,0,0⟩ (sZ p a.now) b else Dm a (dC 1 (AY (Ci p))))
 else if x.kind=2 then Dm a (dC 12 x.name)
 else if x.kind=3 then(if a.st.cancel=true then a else Dm a (dC 13 ⟨#[]⟩))
 else Dm a (dC 18 ⟨#[]⟩)
def F3(x:cu)(p:ck)(a:br)(b:Nat):br:=nZ (DI x p a b) (Kk x.bz) (iI (MC x p) (Di (DI x p a b)).1.toNat (Di (DI x p a b)).2.toNat)
def Oa(b:cG)(c:dk)(d:Nat)(x:cu)(p:ck):Option (Int×Int×Int):=
 if x.kind<1\/4<x.kind then some (1,0,0)
 else if QY x p≠0 then some (QY x p,0,0)
 else if d=0 then some (170,0,0)
 else match c x.bz with
  |some a=>if a.1≠MC x p then some (184,0,0) else some (0,a.2.1,a.2.2)
  |none=>match b x.wid with
   |none=>if x.kind=1 then none else some (180,0,0)
   |some l=>if x.kind=1 then some (181,0,0) else if(Bu l).status≠0 then some (182,0,0) else none
theorem AJe {a:Option (List Ev)}{wid:A2L}{n:Nat}{now:Int}(h: ∀l,a=some l->R3 l):De (Bt a wid n now).st 500/\(Bt a wid n now).more= []/\(Bt a wid n now).ar= []/\(Bt a wid n now).conds= []/\(Bt a wid n now).wid=wid/\(Bt a wid n now).ak=n/\(Bt a wid n now).now=now/\(Bt a wid n now).fits (a.getD []):=by
 cases a with
 |none=>exact⟨De.zero.up (by omega),rfl,rfl,rfl,rfl,rfl,rfl,rfl⟩
 |some l=>
  have b:=h l rfl;refine⟨?_,rfl,rfl,rfl,rfl,rfl,rfl,?_⟩
  ·have:=UV De.zero b.ok;exact this.up (by have:=b.len;omega)
  ·show Eo TA (l++ [])=some (Bu l);rw[AM];exact b.ok
theorem ANA {x:cu}{p:ck}{a:br}{num c:Nat}(u:QY x p=0)(ok: ∀e∈a.more,Em e=true/\e.data.size<1099511627776)(v:De a.st c):a.grown (DI x p a num) (c+1) 1 1:=by
 obtain⟨w,y,C,D⟩:=Ze u;have b:=XB ok v;have z:(⟨#[]⟩:A2L).size<1099511627776:=by decide
 have up: ∀ {d:br},a.grown d (c+1) 1 0->a.grown d (c+1) 1 1:=λ{d} ⟨f,g,i,j,k,l,m,s,n,B,o,q⟩=>⟨f,g,i,j,k,l,m,s,n,by omega,o,q⟩
 unfold DI;split
 ·rename_i r;have t:(dC 1 (AY (Ci p))).data.size<1099511627776:=by show(AY (Ci p)).size<_;have:=RV (w r);rw[AP];omega
  split
  ·exact XG (MH b t) _ _ _
  ·exact up (MH b t)
 ·split
  ·rename_i r;exact up (MH b (e:=dC 12 x.name) (by have:=FK (y r);show x.name.size<_;omega))
  ·split
   ·split
    ·obtain⟨f,g,i,j,k,l,m,s,n,B,o,q⟩:=b;exact⟨f,g,i,j,k,l,m,by omega,n,by omega,o,q.up (BW _)⟩
    ·exact up (MH b z)
   ·exact up (MH b z)
theorem AP0 {x:cu}{p:ck}{a:br}{c:Nat}{b:List Ev}(h:a.fits b):(DI x p a c).fits b:=by
 unfold DI;split
 ·split
  ·exact VA (PI h)
  ·exact PI h
 ·split
  ·exact PI h
  ·split
   ·split
    ·exact h
    ·exact PI h
   ·exact PI h
theorem AKQ {x:cu}{p:ck}{c:br}{d:Nat}(h:c.ar= []):(DI x p c d).beside none:=by
 have b:c.beside none:=⟨(λp a=>by rw[h] at a;cases a),(λp a=>by rw[h] at a;cases a),(λp a=>by rw[h] at a;cases a)⟩;unfold DI;split
 ·split
  ·exact UY (MI b _) _ _ _
  ·exact MI b _
 ·split
  ·exact MI b _
  ·split
   ·split
    ·exact b
    ·exact MI b _
   ·exact MI b _
theorem ta {b:br}{c:Ev}(h:(Dm b c).err=0):b.err=0:=by
 unfold Dm at h;split at h
 ·rename_i a;exact absurd h a
 ·rename_i a;simpa using a
theorem pC {a:br}{b:Ev}(h:(Dm a b).err=0):Dm a b= {a with st:=(Bo a.st (Ct a b)).2,more:=a.more++ [Ct a b]}/\(Bo a.st (Ct a b)).1=0:=by
 have d:=ta h;unfold Dm at h ⊢;rw[if_neg (by simp[d])] at h ⊢;split at h
 ·cases h
 ·rename_i e;rw[if_neg e];split at h
  ·rename_i c;exact absurd h c
  ·rename_i c;rw[if_neg c];exact⟨rfl,by simpa using c⟩
theorem AOm {a:br}{b:Nat}(h:(Ee a b).err=0):a.err=0:=by
 unfold Ee at h;split at h
 ·exact ta (Xn h)
 ·exact h
theorem tc {a:br}{c d:Nat}(h:(A9 a c d).err=0):(A9 a c d).st.status=(Di a).1/\(A9 a c d).st.next=(Di a).2:=by
 have g:=VV h;have j:(A9 a c d).st=(Ee a c).st:=by
  unfold A9;split
  ·exact(Gz _ _ _ _).1
  ·rfl
 rw[j];unfold Di;by_cases e:EH a=true
 ·rw[if_pos e];unfold Ee at g ⊢;rw[if_pos e] at g ⊢;rw[(Gz _ _ _ _).1];obtain⟨k,b⟩:=pC (Xn g);rw[k];show(Bo a.st (Ct a QU)).2.status=_/\(Bo a.st (Ct a QU)).2.next=_;have ok:=Qj b;unfold Bo at b ⊢;rw[if_neg (by simp[ok])] at b ⊢;split at b
  ·rename_i i;rw[if_neg (λh=>by have h:(2:Int)=1:=h.1;cases h)] at b;cases b
  ·rename_i i;rw[if_neg i];split at b
   ·cases b
   ·rename_i l;rw[if_neg l];split at b
    ·cases b
    ·rename_i m;rw[if_neg m];cases f:Ph a.st (Ct a QU) with
     |none=>rw[f] at b;cases b
     |some t=>
      unfold Ph at f;rw[if_pos (show 2<=(Ct a QU).kind/\(Ct a QU).kind<=5 from(by decide:(2:Int)<=2/\(2:Int)<=5))] at f;obtain⟨u,n,rfl⟩:=Option.map_eq_some_iff.1 f;exact⟨(QG n).2.2.2,rfl⟩
 ·rw[if_neg e];unfold Ee;rw[if_neg e];exact⟨rfl,rfl⟩
end Go.Lf.G
