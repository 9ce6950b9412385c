/-
 A store, hosts over it, and blocks of one's own beside them (chapter 18).
-/
import Derived.Test.YtgpmoonnachoaaaGreatDoorLfV3ToZ27
import Derived.Test.YtgpmoonnachoaaaGreatDoorLfKToGA
import Derived.Test.YtgpmoonnachoaaaGreatDoorLfU2ToS3
set_option maxRecDepth 100000
set_option linter.unusedVariables false
set_option linter.unusedSimpArgs false
open Go.IntKind renaming i64→J9,wrap→J8
open Go.Value renaming string→J7,int→J6,pointer→J5,slice→J4,bool→J3,tuple→J1
open Go.Obj renaming cells→J2
open Go renaming Value→J0,Addr→Q6,TypeId→Q7,FuncId→Q8,Program→Q1
open Go.Addr renaming add→Q9,mk→Q5
namespace Go.Lf.G
open Go
open M (Sorted Ad Bu Ay Ae Am BL Ag bo A9 aM A8)
structure Hs where
 p:Nat
 bh:Nat
 bu:Nat
 name:A2M
 f:Nat->Nat
 u:Nat->Nat
def Hs.bO(x:Hs)(c:Nat):Prop:=c=x.p\/c=x.bh\/c=x.bu
structure jo (g h:aa) (k:Nat->Nat) (s sh N:Nat) (l:List Hs):Prop where
 host: ∀(i:Nat) x,l[i]? =some x->Dx g h k s x.p x.bh x.bu x.name sh x.f x.u N
 lN: ∀(i j:Nat) x y,l[i]? =some x->l[j]? =some y->i≠j-> ∀c,x.bO c-> ¬y.bO c
def LW(B:cu)(g h:aa)(s a N sh:Nat)(l:List Hs)(mp:List Pr)(O:Nat->Prop):Prop:=
 ∃(d:Hp) (b:Nat->Nat) (st:Db) (m:Bx) (e:Bn) (nn:Nat),GK B g h s d b st m e (1+3*a) (64*a) nn/\nn<=a/\Cr st=mp/\jo g h b s sh N l/\N<=1000000/\ ∀c,O c->b c=0/\c<h.size/\g.size<=c/\c≠s/\ ∀x∈l,¬x.bO c
section
variable {A : al} {B : cu} {g h : aa} {s a N sh : Nat} {l : List Hs} {mp : List Pr} {O : Nat -> Prop} {R : A2L}
theorem jo.step {d:aa}{b k':Nat->Nat}{e:Nat->Prop}(f:jo g h b s sh N l)(k:Mod e h d)(m: ∀c,e c->b c≠0\/h.size<=c\/c=s\/ ∀x∈l,¬x.bO c)(n: ∀c,k' c≠0->b c≠0\/h.size<=c):jo g d k' s sh N l:=
 ⟨λi x j=>(f.host i x j).step k (λc o=>by
  rcases m c o with h|h|h|h
  ·exact .inl h
  ·exact .inr (.inl h)
  ·exact .inr (.inr (.inl h))
  ·exact .inr (.inr (.inr (h x (AM j))))) n,f.lN⟩
theorem jo.set {h':aa}{k m:Nat->Nat}{S:Nat->Prop}{i j:Nat}{x x':Hs}(n:jo g h k s sh N l)(o:l[i]? =some x)(v:Mod S h h')(w: ∀c,S c->k c≠0\/h.size<=c\/c=s\/x.bO c)(y: ∀c,m c≠0->k c≠0\/h.size<=c)(z:Dx g h' m s x'.p x'.bh x'.bu x'.name sh x'.f x'.u j)(same: ∀c,x'.bO c↔x.bO c)(q:N<=j/\j<=1000000):jo g h' m s sh j (l.set i x'):=by
 have r:=(List.getElem?_eq_some_iff.1 o).1;refine⟨λd e b=>?_,λC D P Q E F G c p=>?_⟩
 ·by_cases f:i=d
  ·subst f;rw[HT r] at b;cases b;exact z
  ·rw[JT f] at b;refine((n.host d e b).step v (λc p=>?_) y).more q.1 q.2;rcases w c p with h|h|h|h
   ·exact .inl h
   ·exact .inr (.inl h)
   ·exact .inr (.inr (.inl h))
   ·exact .inr (.inr (.inr (n.lN i d x e o b f c h)))
 ·have t: ∀ {d:Nat} {e:Hs},(l.set i x')[d]? =some e-> ∃u,l[d]? =some u/\ ∀c,e.bO c↔u.bO c:=λ{d e} b=>by
   by_cases f:i=d
   ·subst f;rw[HT r] at b;cases b;exact⟨x,o,same⟩
   ·rw[JT f] at b;exact⟨e,b,λ_=>Dd⟩
  obtain⟨H,I,J⟩:=t E;obtain⟨K,L,M⟩:=t F;exact λh=>n.lN C D H K I L G c ((J c).1 p) ((M c).1 h)
theorem LW.ext(b:LW B g h s a N sh l mp O):Ext g h:=by obtain⟨d,e,st,m,f,nn,c,_⟩:=b;exact c.db.mem.ext
theorem LW.sorted(b:LW B g h s a N sh l mp O):Sorted mp:=by obtain⟨d,e,st,m,D,nn,c,_,rfl,_⟩:=b;exact c.db.sorted
theorem LW.own {e:aa}{O':Nat->Prop}(k:LW B g h s a N sh l mp O)(f:Mod O h e)(n: ∀c,O' c->O c\/(h.size<=c/\c<e.size)):LW B g e s a N sh l mp O':=by
 obtain⟨o,p,st,m,q,nn,d,r,t,j,u,out⟩:=k;have H:=d.db.mem.ext.size;have I:=f.size;have J:=d.lt;refine⟨o,p,st,m,q,nn,d.beside f (λc b=>⟨(out c b).1,(out c b).2.2.1⟩) (λh=>(out s h).2.2.2.1 rfl),r,t,j.step f (λc b=> .inr (.inr (.inr (out c b).2.2.2.2))) (λc b=> .inl b),u,λc b=>?_⟩;rcases n c b with h|⟨v,w⟩
 ·obtain⟨y,K,z,C,D⟩:=out c h;exact⟨y,by omega,z,C,D⟩
 ·refine⟨d.db.free v,w,by omega,by omega,λx E F=>?_⟩;obtain⟨i,G⟩:=DE E;have:=(j.host i x G).lt c F;omega
theorem LW.on {b:aa}(d:LW B g h s a N sh l mp O)(x:Ext h b):LW B g b s a N sh l mp O:=d.own (x.aj λ_ _ h=>h.elim) λc e=> .inl e
theorem LW.less {O':Nat->Prop}(b:LW B g h s a N sh l mp O)(d: ∀c,O' c->O c):LW B g h s a N sh l mp O':=by obtain⟨e,f,st,m,i,nn,j,k,n,o,p,out⟩:=b;exact⟨e,f,st,m,i,nn,j,k,n,o,p,λc q=>out c (d c q)⟩
theorem LW.put {b c:Nat}(W:LW B g h s a N sh l mp O)(t:a<=b)(f:64*b<=B.C)(j:N<=c)(d:c<=1000000):LW B g h s b c sh l mp O:=by obtain⟨k,n,st,m,o,nn,p,u,q,e,v,out⟩:=W;exact⟨k,n,st,m,o,nn,p.put (by omega) (by omega) f,by omega,q,⟨λi x r=>(e.host i x r).more j d,e.lN⟩,d,out⟩
abbrev bz(g:aa)(O:Nat->Prop):Nat->Prop:=λc=>g.size<=c/\ ¬O c
theorem LW.dN {b:aa}{w:Nat->Prop}{i a' e nn o:Nat}{x x':Hs}{J y:Hp}{d f:Nat->Nat}{st p:Db}{m z:Bx}{K C:Bn}(j:GK B g h s J d st m K (1+3*a) (64*a) nn)(D:jo g h d s sh N l)(out: ∀c,O c->d c=0/\c<h.size/\g.size<=c/\c≠s/\ ∀x∈l,¬x.bO c)
  (q:l[i]? =some x) (L:GK B g b s y f p z C (1+3*a') (64*a') o) (M:o<=a') (r:Mod w h b) (t: ∀c,w c->d c≠0\/h.size<=c\/c=s\/x.bO c) (E: ∀c,f c≠0->d c≠0\/h.size<=c) (P:Dx g b f s x'.p x'.bh x'.bu x'.name sh x'.f x'.u e) (same: ∀c,x'.bO c↔x.bO c) (F:N<=e/\e<=1000000):
  LW B g b s a' e sh (l.set i x') (Cr p) O/\Mod (bz g O) h b:=by
 have W:=j.db.mem.ext.size;have X:=j.lt;have Y:=r.size;have G:=AM q;refine⟨⟨y,f,p,z,C,o,L,M,rfl,D.set q r t E P same F,F.2,λc k=>?_⟩,r.aj λc Z k=>⟨?_,λQ=>?_⟩⟩
 ·obtain⟨u,S,H,v,n⟩:=out c k;refine⟨Decidable.byContradiction λT=>?_,by omega,H,v,λU V I=>?_⟩
  ·rcases E c T with h|h
   ·exact h u
   ·omega
  ·rcases To V with h|rfl
   ·exact n U h I
   ·exact n x G ((same c).1 I)
 ·rcases t c k with h|h|h|h
  ·exact(j.db.mem.own c h).1
  ·omega
  ·have:=j.base;omega
  ·exact((D.host i x q).bO c h).2.1
 ·obtain⟨u,S,H,v,n⟩:=out c Q;rcases t c k with h|h|h|h
  ·exact h u
  ·omega
  ·exact v h
  ·exact n x G h
theorem LW.host {name:A2M}(E:LW B g h s a N sh l mp O)(F:Ak name=true)(G:1<=sh/\sh<=16)
  (H: ∀j p k n,LW B g j s a N sh (l++ [⟨p,k,n,name,λ_=>0,λ_=>0⟩]) mp O->Ext h j->R (J1 #[Ar p,J6 J9 0]) j):AA A P P7 #[Ar s,J7 name,J6 J9 (sh:Int)] h R:=by
 obtain⟨I,J,st,m,K,nn,v,L,M,o,w,out⟩:=E;refine ARk v F G λj p k n Q fresh x=>H j p k n ⟨I,J,st,m,K,nn,v.on x,L,M,⟨λi d b=>?_,λi e y z S T U c f t=>?_⟩,w,λc f=>?_⟩ x
 ·rw[List.getElem?_append] at b;split at b
  ·exact(o.host i d b).on x
  ·rw[A0L] at b;split at b
   ·cases b;exact Q.more (A5 _) w
   ·cases b
 ·have C: ∀ {e:Nat} {d:Hs},(l++ [⟨p,k,n,name,λ_=>0,λ_=>0⟩])[e]? =some d->(e<l.length/\l[e]? =some d)\/(e=l.length/\ ∀c,d.bO c->h.size<=c):=λ{e d} b=>by
   rw[List.getElem?_append] at b;split at b
   ·rename_i D;exact .inl ⟨D,b⟩
   ·rename_i D;rw[A0L] at b;split at b
    ·rename_i ab;cases b;exact .inr ⟨by omega,λc f=>(fresh c f).1⟩
    ·cases b
  rcases C S with⟨V,q⟩|⟨V,q⟩<;>rcases C T with⟨W,r⟩|⟨W,r⟩
  ·exact o.lN i e y z q r U c f t
  ·have:=(o.host i y q).lt c f;have:=r c t;omega
  ·have:=(o.host e z r).lt c t;have:=q c f;omega
  ·omega
 ·obtain⟨X,ac,Y,Z,aa⟩:=out c f;have:=x.size;refine⟨X,by omega,Y,Z,λd b u=>?_⟩;rcases List.mem_append.1 b with h|h
  ·exact aa d h u
  ·rw[List.mem_singleton.1 h] at u;have:=(fresh c u).1;omega
def Hs.nh(x:Hs)(b c:Nat):Hs:= {x with f:=dG x.f b c,u:=dG x.u b 0}
def Hs.lost(x:Hs)(b:Nat):Hs:= {x with f:=dG x.f b 0}
def Hs.jy(x:Hs)(b:Nat):Hs:= {x with u:=dG x.u b (x.u b+1)}
theorem LW.holds {i b:Nat}{x:Hs}(c:LW B g h s a N sh l mp O)(d:l[i]? =some x)(e:R (J6 J9 (x.f b:Int)) h):AA A P EN #[Ar x.p,J6 J9 (b:Int)] h R:=by obtain⟨j,k,st,m,n,nn,o,p,q,f,r,out⟩:=c;exact sD (f.host i x d) e
theorem LW.acquire {i b r:Nat}{x:Hs}{nm:A2M}(n:cy g)(o:LW B g h s a N sh l mp O)(e:l[i]? =some x)(p:b<sh)(L:Ga mp b r nm)(q:r+1<=2147483647)(hA:4+3*a<=B.A)(E:64*a+64<=B.C)(F:a+1<=1000000)(f:N+1<=1000000)
  (t: ∀d,LW B g d s (a+1) (N+1) sh (l.set i (x.nh b (r+1))) (cq mp [⟨CF b,KO (r+1) x.name,false⟩]) O->Mod (bz g O) h d->R (J1 #[J6 J9 ((r+1:Nat):Int),J6 J9 0]) d):
  AA A P FV #[Ar x.p,J6 J9 (b:Int)] h R:=by
 obtain⟨G,H,st,m,I,nn,j,J,rfl,k,K,out⟩:=o;have u:=k.host i x e;refine AJa n j u p L q (by omega) (by omega) (by omega) f λd M Q S T U V W v w y z C=>?_
 have:=LW.dN (x':=x.nh b (r+1)) (a':=a+1) j k out e (v.put (by omega) (by omega) (by omega)) (by omega) z (λc D=>by
  rcases D with h|h|h|h|h
  ·exact .inl h
  ·exact .inr (.inl h)
  ·exact .inr (.inr (.inl h))
  ·exact .inr (.inr (.inr (.inr (.inl h))))
  ·exact .inr (.inr (.inr (.inr (.inr h))))) C y (λ_=>Dd) ⟨BY _,f⟩
 rw[w] at this;exact t d this.1 this.2
theorem LW.number {i b:Nat}{x:Hs}(r:LW B g h s a N sh l mp O)(j:l[i]? =some x)(t:x.f b<=2147483647)(u:x.u b+1<16777216)(k:N+1<=1000000)
  (v:x.f b=0->R (.int .u64 0) h)
  (w:x.f b≠0-> ∀d,LW B g d s a (N+1) sh (l.set i (x.jy b)) mp O->Mod (bz g O) h d->R (.int .u64 ((x.f b*16777216+(x.u b+1):Nat):Int)) d):
  AA A P Gz #[Ar x.p,J6 J9 (b:Int)] h R:=by
 obtain⟨E,F,st,m,G,nn,n,y,rfl,o,H,out⟩:=r;have p:=o.host i x j;refine ALN p t u k v λz d C q=>?_
 have f:=p.bO x.bu (.inr (.inr rfl));have:=LW.dN (x':=x.jy b) n o out j (n.beside q (λc e=>by subst e;exact⟨f.1,f.2.1⟩) λD=>f.2.2 D.symm) y q (λc e=> .inr (.inr (.inr (.inr (.inr e))))) (λc e=> .inl e) C (λ_=>Dd) ⟨BY _,k⟩;exact w z d this.1 this.2
theorem LW.change {i n:Nat}{x:Hs}{conds sl:Sl}{e lp:List Pr}(z:cy g)(C:LW B g h s a N sh l mp O)(f:l[i]? =some x)(D:n<256)(E:x.f n<=2147483647)(hA:4+3*a<=B.A)(ab:64*a+64<=B.C)(ac:a+1<=1000000)(vc:View BO h conds e)(F:e.length<=1000000)(v:View BO h sl lp)(G:lp≠ []-> ∀b,sl.ag=some b->b<g.size\/O b)(H: ∀x∈e,x.key.size<=1099511627776)
  (I:x.f n=0->R (J6 J9 170) h)
  (J:x.f n≠0->CG mp (F3 n (x.f n) x.name)=false-> ∀d,LW B g d s a N sh (l.set i (x.lost n)) mp O->Mod (bz g O) h d->R (J6 J9 170) d)
  (K:x.f n≠0->CG mp (F3 n (x.f n) x.name)=true->dt mp (F3 n (x.f n) x.name::e) lp≠0-> ∀d,Ext h d->R (J6 J9 (dt mp (F3 n (x.f n) x.name::e) lp)) d)
  (L:x.f n≠0->CG mp (F3 n (x.f n) x.name)=true->dt mp (F3 n (x.f n) x.name::e) lp=0-> ∀d,LW B g d s (a+1) N sh l (cq mp lp) O->Mod (bz g O) h d->R (J6 J9 0) d):
  AA A P Fg #[Ar x.p,J6 J9 (n:Int),J4 conds.p conds.len conds.cap,J4 sl.p sl.len sl.cap] h R:=by
 obtain⟨ad,ae,st,m,af,nn,j,M,rfl,o,w,out⟩:=C;have y:=o.host i x f;have ag:=j.db.mem.ext.size;refine ASz z j y D E (by omega) (by omega) (by omega) vc F v (λQ b S=>?_) H I (λp T d q r t=>?_) K λp U V d ah ai aj ak al am an q W r t X=>?_
 ·rcases G Q b S with h|h
  ·refine⟨by omega,j.db.base h,?_⟩;have:=(y.bO x.bh (.inr (.inl rfl))).2.1;omega
  ·obtain⟨Y,Z,ao,ap,aa⟩:=out b h;exact⟨Z,Y,λu=>aa x (AM f) (.inr (.inl u))⟩
 ·have:=LW.dN (x':=x.lost n) j o out f q M t (λc k=>by
   rcases k with h|h
   ·exact .inr (.inl h)
   ·exact .inr (.inr (.inr (.inr (.inl h))))) (λc k=> .inl k) r (λ_=>Dd) ⟨A0 _,w⟩
  exact J p T d this.1 this.2
 ·have:=LW.dN (x':=x) (a':=a+1) j o out f (q.put (by omega) (by omega) (by omega)) (by omega) t (λc k=>by
   rcases k with h|h|h
   ·exact .inl h
   ·exact .inr (.inl h)
   ·exact .inr (.inr (.inl h))) X r (λ_=>Dd) ⟨A0 _,w⟩
  rw[W,show l.set i x=l from by
   obtain⟨aq,u⟩:=List.getElem?_eq_some_iff.1 f;rw[<- u,OR]] at this
  exact L p U V d this.1 this.2
end
abbrev cK:=A2M->Option (List Ev)
abbrev cO:=A2M->Option (List UInt8×Int×Int)
def Ai(l:List Ev):bg:=(FR UI l).getD UI
structure KE (l:List Ev):Prop where
 ne:l≠ []
 len:l.length<=500
 ok:FR UI l=some (Ai l)
 st:0<=(Ai l).status/\(Ai l).status<=4
theorem KE.next {l:List Ev}(b:KE l):(Ai l).next=l.length+1/\ ∀(i:Nat) (a:Ev),l[i]? =some a->a.id=i+1/\Dl a=true:=xP b.ok b.ne
def PL(wid:A2M)(l:List Ev):List Pr:=l.map (Nc wid)
def T9(wid:A2M)(l:List Ev):Pr:=⟨Es wid,I1 (Ai l).status.toNat (Ai l).next.toNat false,false⟩
def Yz(a:A2M)(x:List UInt8×Int×Int):Pr:=⟨JO a,iT x.1 x.2.1.toNat x.2.2.toNat,false⟩
structure KS (mp:List Pr) (fl:cK) (an:cO):Prop where
 cF: ∀wid,Ak wid=true-> ∀k,Md (Gb wid) k=true->Ad k mp=Ad k (PL wid ((fl wid).getD []))
 eY: ∀wid,Ak wid=true->Ad (Es wid) mp=(fl wid).map (T9 wid)
 kD: ∀aV,Ak aV=true->Ad (JO aV) mp=(an aV).map (Yz aV)
 cV: ∀wid l,fl wid=some l->KE l
 kF: ∀aV x,an aV=some x->(0<=x.2.1/\x.2.1<=4)/\(0<=x.2.2/\x.2.2<=501)/\x.1.length<=2000
theorem FB {s:A2M}(a:Ak s=true):s.size<=16:=(Gn.1 a).2.1
theorem NV {wid:A2M}{l:List Ev}{i:Nat}{p:Pr}(b:(PL wid l)[i]? =some p): ∃a,l[i]? =some a/\p=Nc wid a:=by unfold PL at b;rw[Cl] at b;obtain⟨a,c,rfl⟩:=Option.map_eq_some_iff.1 b;exact⟨a,c,rfl⟩
theorem Ov {wid:A2M}{l:List Ev}(b: ∀(i:Nat) (a:Ev),l[i]? =some a->a.id=i+1/\Dl a=true){i:Nat}{a:Ev}(c:l[i]? =some a):(Nc wid a).key=eA wid (i+1):=by unfold Nc;rw[(b i a c).1];rfl
theorem Rl {wid:A2M}{l:List Ev}(j:l.length<=500)(c: ∀(i:Nat) (a:Ev),l[i]? =some a->a.id=i+1/\Dl a=true):Sorted (PL wid l):=by unfold Sorted;rw[List.pairwise_iff_getElem];intro i k d b m;obtain⟨a,e,f⟩:=NV (A2 d);obtain⟨n,g,h⟩:=NV (A2 b);rw[f,h,Ov c e,Ov c g];unfold PL at b;rw[AS] at b;exact mM (by omega) (by omega)
theorem lX {q:A2M->Bool}{a:A2M}: ∀ {l:List Pr},Ad a (l.filter λx=>q x.key)=if q a=true then Ad a l else none
 | []=>by simp[M.Qk]
 |x::l=>by
  rw[AT];by_cases b:x.key=a
  ·subst b;split
   ·rw[M.BC,M.BC,if_pos rfl,if_pos rfl]
   ·rename_i c;rw[lX,if_neg c]
  ·split
   ·rw[M.BC,if_neg b,lX,M.BC,if_neg b]
   ·rw[lX,M.BC,if_neg b]
theorem ANQ {a:A2M}{b:Nat}{l:List Pr}(c: ∀x∈l.take b,x.key≠a):Ad a (l.drop b)=Ad a l:=by
 conv=>rhs;rw[<- DO b l]
 rw[M.L6,M.EO c,LI]
theorem AP8 {k:List Pr}{p:cK}{u:cO}{wid:A2M}{l:List Ev}{e:Nat}(s:Sorted k)(m:KS k p u)(v:Ak wid=true)(n:p wid=some l)(A:e<=l.length):
  jn k (Gb wid) (eA wid (e+1)) 32=((PL wid l).drop e).take 32:=by
 have h:=(m.cV wid l n).next.2;have w:=(m.cV wid l n).len;unfold jn;rw[show(32:Int).toNat=32 from rfl];congr 1;refine Sorted.ext (s.sublist Gk) ((Rl w h).sublist (List.drop_sublist _ _)) λc=>?_
 rw[lX (q:=λc=>Md (Gb wid) c&& !aO c (eA wid (e+1)))];by_cases j:Md (Gb wid) c=true
 ·rw[j,G3];have r:=m.cF wid v c j;rw[n,GB] at r;by_cases f:aO c (eA wid (e+1))=true
  ·rw[f,if_neg (by simp)]
   symm
   refine M.EO λx g b=>?_
   obtain⟨i,a⟩:=DE g;rw[C5] at a;obtain⟨t,d,rfl⟩:=NV a;rw[Ov h d] at b;subst b;have y:=(List.getElem?_eq_some_iff.1 d).1;by_cases z:i=0
   ·subst z;rw[G4,CY] at f;cases f
   ·have:=Oj f;rw[mM (by omega) (by omega)] at this;cases this
  ·have o:aO c (eA wid (e+1))=false:=by simpa using f
   rw[o,if_pos (by rfl),r]
   symm
   refine ANQ λx g b=>?_
   obtain⟨i,a⟩:=DE g;rw[Fc] at a;split at a
   ·rename_i B;obtain⟨t,d,rfl⟩:=NV a;have y:=(List.getElem?_eq_some_iff.1 d).1;rw[Ov h d] at b;subst b;rw[mM (by omega) (by omega)] at o;cases o
   ·cases a
 ·rw[if_neg (by simp[j])]
  symm
  refine M.EO λx g b=>?_
  obtain⟨i,a⟩:=DE g;rw[C5] at a;obtain⟨t,d,rfl⟩:=NV a;rw[Ov h d] at b;subst b;exact j (rJ wid _)
theorem Km {a:A2M}{b m:List Pr}(s:Sorted m)(c: ∀d∈b,d.key≠a):Ad a (cq m b)=Ad a m:=by rw[Yl a s,M.EO λx e=>c x (List.mem_reverse.1 e)]
theorem lY {b m:List Pr}(s:Sorted m){p:Pr}(d:p∈b)(e: ∀a∈b,a.key=p.key->a=p):Ad p.key (cq m b)=if p.gone then none else some p:=by
 rw[Yl p.key s];cases c:Ad p.key b.reverse with
 |none=>
  exfalso;unfold Ad at c;rw[Hh] at c;have:=c p (List.mem_reverse.2 d);simp at this
 |some a=>
  obtain⟨f,g⟩:=M.Oi c;obtain rfl:=e a (List.mem_reverse.1 g) f;show alive (some a)=_;rw[IP]
def dH {a:Type}(f:A2M->Option a)(c:A2M)(x:a):A2M->Option a:=λb=>if b=c then some x else f b
theorem JV {a:Type}{f:A2M->Option a}{b:A2M}{x:a}:dH f b x b=some x:=if_pos rfl
theorem Om {b:Type}{f:A2M->Option b}{c a:A2M}{x:b}(d:a≠c):dH f c x a=f a:=if_neg d
def pY {a:Type}(f:A2M->Option a):Option (A2M×a)->A2M->Option a
 |none=>f
 |some (b,x)=>dH f b x
structure fL (b:List Pr) (o:Option (A2M×(List UInt8×Int×Int))):Prop where
 dQ: ∀p∈b,(BH p.key≠104/\BH p.key≠119/\BH p.key≠114)\/ ∃r x,o=some (r,x)/\p=Yz r x
 has: ∀r x,o=some (r,x)->Yz r x∈b/\Ak r=true/\(0<=x.2.1/\x.2.1<=4)/\(0<=x.2.2/\x.2.2<=501)/\x.1.length<=2000
theorem KS.land {F b:List Pr}{h:cK}{A:cO}{wid:A2M}{more:List Ev}{t:Option (A2M×(List UInt8×Int×Int))}(q:KS F h A)(s:Sorted F)(G:Ak wid=true)
  (o:KE ((h wid).getD []++more)) (B:fL b t):
  KS (cq F (more.map (Nc wid)++([T9 wid ((h wid).getD []++more)]++b))) (dH h wid ((h wid).getD []++more)) (pY A t):=by
 have N:=o.next.2;have P:=o.len;have u: ∀p∈b,BH p.key≠104/\BH p.key≠119:=λp C=>by
  rcases B.dQ p C with a|⟨f,x,_,rfl⟩
  ·exact⟨a.1,a.2.1⟩
  ·exact⟨by show BH (JO f)≠104;rw[JY];decide,by show BH (JO f)≠119;rw[JY];decide⟩
 have rowAt: ∀e∈more,∃i:Nat,((h wid).getD []++more)[i]? =some e/\(Nc wid e).key=eA wid (i+1):=λe Q=>by
  obtain⟨i,v⟩:=DE Q;have:((h wid).getD []++more)[((h wid).getD []).length+i]? =some e:=by rw[Fk (by omega),T4];exact v
  exact⟨_,this,Ov N this⟩
 refine⟨λd w D y=>?_,λd w=>?_,λf O=>?_,λd l E=>?_,λf x m=>?_⟩
 ·have k:=ZU y;by_cases e:d=wid
  ·subst e;rw[JV,GB];by_cases H: ∃p∈more.map (Nc d),p.key=D
   ·obtain⟨p,C,rfl⟩:=H;obtain⟨n,z,rfl⟩:=List.mem_map.1 C;obtain⟨i,v,R⟩:=rowAt n z;have S:Nc d n∈PL d ((h d).getD []++more):=List.mem_map.2 ⟨n,AM v,rfl⟩;rw[Sorted.find (Rl P N) S,lY s (HJ _ C) (λg j c=>?_)]
    ·rfl
    ·rcases List.mem_append.1 j with a|a
     ·obtain⟨T,U,rfl⟩:=List.mem_map.1 a;obtain⟨V,I,W⟩:=rowAt T U;have Z:=(List.getElem?_eq_some_iff.1 v).1;have aa:=(List.getElem?_eq_some_iff.1 I).1;rw[R,W] at c;have:=(AQp (FB G) (FB G) (by omega) (by omega) c).2;have:V=i:=by omega
      subst this;rw[v] at I;cases I;rfl
     ·rcases List.mem_append.1 a with a|a
      ·rw[List.mem_singleton.1 a] at c;rw[<- c] at k;rw[show BH (T9 d ((h d).getD []++more)).key=119 from Dw d] at k;exact absurd k (by decide)
      ·exact absurd (by rw[c];exact k) (u g a).1
   ·rw[Km s λg j c=>?_,q.cF d w D y]
    ·unfold PL;rw[C2,M.L6,M.EO (l:=more.map (Nc d)) λx m X=>H ⟨x,m,X⟩];cases Ad D (List.map (Nc d) ((h d).getD []))<;>rfl
    ·rcases List.mem_append.1 j with a|a
     ·exact H ⟨g,a,c⟩
     ·rcases List.mem_append.1 a with a|a
      ·rw[List.mem_singleton.1 a] at c;rw[<- c] at k;rw[show BH (T9 d ((h d).getD []++more)).key=119 from Dw d] at k;exact absurd k (by decide)
      ·exact absurd (by rw[c];exact k) (u g a).1
  ·rw[Om e,Km s λg j c=>?_,q.cF d w D y];rcases List.mem_append.1 j with a|a
   ·obtain⟨n,z,rfl⟩:=List.mem_map.1 a;rw[<- c] at y;exact e (xU (FB w) (FB G) y)
   ·rcases List.mem_append.1 a with a|a
    ·rw[List.mem_singleton.1 a] at c;rw[<- c] at k;rw[show BH (T9 wid ((h wid).getD []++more)).key=119 from Dw wid] at k;exact absurd k (by decide)
    ·exact absurd (by rw[c];exact k) (u g a).1
 ·by_cases e:d=wid
  ·subst e;rw[JV];refine(lY (p:=T9 d ((h d).getD []++more)) s (by simp) λg j c=>?_).trans rfl;rcases List.mem_append.1 j with a|a
   ·obtain⟨n,z,rfl⟩:=List.mem_map.1 a;have:=congrArg BH c;rw[show BH (Nc d n).key=104 from Sn _ _,show BH (T9 d ((h d).getD []++more)).key=119 from Dw d] at this;exact absurd this (by decide)
   ·rcases List.mem_append.1 a with a|a
    ·exact List.mem_singleton.1 a
    ·exact absurd ((congrArg BH c).trans (Dw d)) (u g a).2
  ·rw[Om e,Km s λg j c=>?_,q.eY d w];rcases List.mem_append.1 j with a|a
   ·obtain⟨n,z,rfl⟩:=List.mem_map.1 a;have:=congrArg BH c;rw[show BH (Nc wid n).key=104 from Sn _ _,Dw] at this;exact absurd this (by decide)
   ·rcases List.mem_append.1 a with a|a
    ·rw[List.mem_singleton.1 a] at c;exact e (ANw c).symm
    ·exact absurd ((congrArg BH c).trans (Dw d)) (u g a).2
 ·have no: ∀g∈more.map (Nc wid)++([T9 wid ((h wid).getD []++more)]++b),g.key=JO f-> ∃x,t=some (f,x)/\g=Yz f x:=λg j c=>by
   have o:=(congrArg BH c).trans (JY f);rcases List.mem_append.1 j with a|a
   ·obtain⟨n,z,rfl⟩:=List.mem_map.1 a;rw[show BH (Nc wid n).key=104 from Sn _ _] at o;exact absurd o (by decide)
   ·rcases List.mem_append.1 a with a|a
    ·rw[List.mem_singleton.1 a,show BH (T9 wid ((h wid).getD []++more)).key=119 from Dw wid] at o;exact absurd o (by decide)
    ·rcases B.dQ g a with a|⟨r,x,Y,rfl⟩
     ·exact absurd o a.2.2
     ·have:r=f:=xV c;subst this;exact⟨x,Y,rfl⟩
  cases t with
  |none=>
   rw[Km s λg j c=>?_,q.kD f O]
   ·rfl
   ·obtain⟨x,m,_⟩:=no g j c;cases m
  |some J=>
   obtain⟨r,x⟩:=J;show _=(dH A r x f).map (Yz f);by_cases e:f=r
   ·subst e;rw[JV];refine(lY (p:=Yz f x) s ?_ λg j c=>?_).trans rfl
    ·exact IN _ (IN _ (B.has f x rfl).1)
    ·obtain⟨K,L,rfl⟩:=no g j c;cases L;rfl
   ·rw[Om e,Km s λg j c=>?_,q.kD f O];obtain⟨K,L,_⟩:=no g j c;cases L;exact e rfl
 ·by_cases e:d=wid
  ·subst e;rw[JV] at E;cases E;exact o
  ·rw[Om e] at E;exact q.cV d l E
 ·cases t with
  |none=>exact q.kF f x m
  |some J=>
   obtain⟨r,K⟩:=J;have m:dH A r K f=some x:=m;by_cases e:f=r
   ·subst e;rw[JV] at m;cases m;exact(B.has f x rfl).2.2
   ·rw[Om e] at m;exact q.kF f x m
theorem KS.aS {g b:List Pr}{j:cK}{k:cO}(a:KS g j k)(s:Sorted g)(h: ∀p∈b,BH p.key≠104/\BH p.key≠119/\BH p.key≠114):KS (cq g b) j k:=by
 refine⟨λf i n l=>?_,λf i=>?_,λm o=>?_,a.cV,a.kF⟩
 ·rw[Km s λc d e=>(h c d).1 (by rw[e];exact ZU l)];exact a.cF f i n l
 ·rw[Km s λc d e=>(h c d).2.1 (by rw[e];exact Dw f)];exact a.eY f i
 ·rw[Km s λc d e=>(h c d).2.2 (by rw[e];exact JY m)];exact a.kD m o
theorem KS.empty:KS [] (λ_=>none) (λ_=>none):=
 ⟨λb _ d _=>rfl,λb _=>rfl,λc _=>rfl,λb l a=>(by cases a),λc x a=>(by cases a)⟩
theorem af.and {b:Bool}{a c:Prop}(d:b=true->a)(e:b=false->c):af b a c:=af.intro d e
theorem LF {s:A2M}(a:s.size<18446744073709551616):(BI (bl s)).length<=10+s.size:=by have:=AV a;simp only[BI,A1,BB];omega
theorem yU {x:bQ}(a:NR x=true):0<=x.kind/\x.kind<=3/\(x.kind=1\/x.kind=2\/x.kind=3)/\x.name.size<=16/\x.aK.size<=16/\0<=x.tries/\x.tries<=5/\0<=x.aA/\x.aA<=5/\0<=x.wait/\x.wait<=1000:=by
 have d: ∀ {s:A2M},Ak s=true->s.size<=16:=λa=>(Gn.1 a).2.1
 have z:HZ.size=0:=rfl;unfold NR at a;split at a
 ·rename_i e;simp only[A3,DG,decide_eq_true_eq,Bd] at a;obtain⟨⟨⟨g,h⟩,l⟩,m⟩:=a;have:=d h;rcases g with⟨b,c⟩|⟨b,c⟩
  ·rw[b];omega
  ·have:=d b;omega
 ·split at a
  ·rename_i i e;simp only[A3,decide_eq_true_eq,Bd] at a;obtain⟨⟨⟨⟨b,c⟩,j⟩,k⟩,f⟩:=a;rw[b,c];omega
  ·split at a
   ·rename_i i n e;simp only[A3,decide_eq_true_eq] at a;obtain⟨⟨⟨⟨b,c⟩,j⟩,k⟩,f⟩:=a;have:=d f;rw[b];omega
   ·cases a
theorem AKQ {x:bQ}(a:NR x=true):(Ho x).length<=100:=by
 obtain⟨b,c,d,e,f,g,h,i,j,k,l⟩:=yU a;have m:=AV (n:=x.kind.toNat) (by omega);have o:=AV (n:=x.tries.toNat) (by omega);have p:=AV (n:=x.aA.toNat) (by omega);have q:=AV (n:=x.wait.toNat) (by omega);have r:=LF (s:=x.name) (by omega);have t:=LF (s:=x.aK) (by omega);unfold Ho;rw[A1];split
 ·simp only[A1];omega
 ·split<;>omega
theorem Pq: ∀ {l:List bQ},l.all NR=true->(l.flatMap Ho).length<=l.length*100
 | [],_=>by simp
 |x::l,a=>by
  simp only[DM,A3] at a;have b:=AKQ a.1;have c:=Pq a.2;simp only[AF,A1,A6];omega
def YU(p:cn):J0:=J1 #[J7 (AX (if GL p then Cq p else [])),J6 J9 (if GL p then 0 else 130)]
section
variable {A : al} {h : aa} {R : A2L}
theorem uu {l:List Ev}{sl:Sl}{t:bg}(v:View cw h sl l)(av:l.length<=500)(hd: ∀f∈l,f.data.size<1099511627776)(V:FR UI l=some t)
  (W: ∀y a b c,Ext h y->KA y t a b c->(∀ x,a.ag=some x\/b.ag=some x\/c.ag=some x->h.size<=x)->R (J1 #[(t.V a b c).v,J6 J9 0,J6 J9 0]) y):
  AA A P QI #[J4 sl.p sl.len sl.cap] h R:=by
 refine ADC ?_;unfold Wl;refine ao.mk λaw _ X Y E=>ao.mk λax _ F G ay=>?_
 rw[E] at F;rw[E];have Z:=Y.trans G;have aa: ∀x,(⟨none,0,0⟩:Sl).ag=some x\/(⟨none,0,0⟩:Sl).ag=some x\/(⟨none,0,0⟩:Sl).ag=some x->h.size+2<=x:=λx d=>by simp[Sl.ag] at d
 refine Loop.rule (λm x k=> ∃(i:Nat) (s:bg) (a b c:Sl),x=((i:Int),())/\m=l.length-i/\i<=l.length/\Ext h k/\k[h.size]? =some (J2 bF.z.c Av (0,0))/\k[h.size+1]? =some (J2 (s.V a b c).c Av (0,0))/\
   KA k s a b c/\(∀ x,a.ag=some x\/b.ag=some x\/c.ag=some x->h.size+2<=x)/\Ea s i/\FR s (l.drop i)=some t) ?_
  ⟨0,UI,⟨none,0,0⟩,⟨none,0,0⟩,⟨none,0,0⟩,rfl,rfl,A5 _,Z,G.ag X (λh=>h),F,⟨View.nil,View.nil,View.nil⟩,aa,Ea.zero,V⟩
 rintro K m _ H ⟨i,s,a,b,c,rfl,rfl,az,n,I,o,J,fr,L,g⟩ ab;have aA:=v.len;refine af.intro (λz=>?_) (λz=>?_)
 ·have j:i<l.length:=by simp at z;omega
  obtain⟨f,p⟩: ∃f,l[i]? =some f:=⟨_,A2 j⟩;have ac:=AM p;have ad:l.drop i=f::l.drop (i+1):=by rw[Fo j];rw[A2 j] at p;cases p;rfl
  rw[ad,FR] at g;split at g;rotate_left
  ·cases g
  rename_i M;refine(v.ext n).idx p λaC _ ae=>Mt.mk f ae ?_
  refine ao.mk λN _ q ag ah=>aL.mk q (A0 8) λai O aj aD=>?_
  rw[qg] at O;have r:Ext H ai:=ag.more aj λc e=>by subst e;exact A0 _
  have aE:=Aj o;refine Az.mk (s.V a b c) (Ep (r.ag o λh=>h)) (Mt.mk f (Qr O) ?_);refine qs (J.ext r) L (by omega) (hd f ac) λaF ak al am an ap u=>Hw.mk _ ⟨_,rfl,?_⟩
  rw[M];have B:=r.trans an;refine ao.mk λaG _ aq C aH=>aL.mk aq (A0 12) λar Q S aI=>af.no rfl ?_
  rw[Nn] at Q;have w:Ext H ar:=B.more (C.mod.trans S) λc e=>by subst e;exact B.size
  refine Az.mk _ (Ep Q) (aL.mk (w.ag o λh=>h) (A0 12) λaJ T D aK=>?_);rw[Nn] at T;dsimp only;rw[Ab (by omega)];have aM:=r.size;have aN:=C.size;have aO:=B.size;have aP:=w.size;have aQ:=n.size;refine ab (l.length-(i+1)) _ _ (by omega) ⟨i+1,_,ak,al,am,rfl,rfl,j,(n.trans w).more D λc e=>by subst e;omega,D.ag (w.ag I λh=>h) (by omega),T,?_,λx d=>?_,UO L M,g⟩
  ·have au:=ap.ext (C.more S λc e=>by subst e;exact A0 _);exact au.mod D (λx d e=>by have:=u x (.inl d);omega) (λx d e=>by have:=u x (.inr (.inl d));omega) (λx d e=>by have:=u x (.inr (.inr d));omega)
  ·have:=u x d;omega
 ·have j:i=l.length:=by simp at z;omega
  subst j;rw[P3,FR] at g;obtain rfl:s=t:=BE g;refine Az.mk (s.V a b c) (Ep o) (aL.mk I (A0 12) λN q U ah=>?_);rw[Nn] at q;refine Az.mk (s.V a b c) (Ep q) (W N a b c (n.more U λc e=>by subst e;exact A0 _) (J.mod U (λx d e=>by have:=fr x (.inl d);omega) (λx d e=>by have:=fr x (.inr (.inl d));omega) (λx d e=>by have:=fr x (.inr (.inr d));omega)) λx d=>by have:=fr x d;omega)
theorem AR8 {wid:A2M}{l:List Ev}{sl:Sl}(s:Ak wid=true)(v:View cw h sl l)(S:l.length<=1000)(hd: ∀a∈l,Dl a=true/\a.data.size<1099511627776)
  (z: ∀d f,Own BO AQ f d (l.map (Nc wid))->(∀ b,d.ag=some b->h.size<=b)->Ext h f->R (J1 #[J4 d.p d.len d.cap,J6 J9 0]) f):
  AA A P Pp #[J7 wid,J4 sl.p sl.len sl.cap] h R:=by
 refine AG9 ?_;unfold vx;refine Eg ⟨_,rfl,?_⟩;rw[s];refine af.no rfl ?_;refine Loop.rule (λm x t=> ∃(i:Nat) (e:Sl),x=(e,(i:Int),())/\m=l.length-i/\i<=l.length/\Ext h t/\Own BO AQ t e ((l.take i).map (Nc wid))/\(∀ b,e.ag=some b->h.size<=b)) ?_
  ⟨0,⟨none,0,0⟩,rfl,rfl,A5 _,Mod.refl,Own.nil,λb k=>by simp[Sl.ag] at k⟩
 rintro K m _ u ⟨i,e,rfl,rfl,T,g,n,fr⟩ B;dsimp only;have U:=v.len;refine af.intro (λo=>?_) (λo=>?_)
 ·have j:i<l.length:=by simp at o;omega
  obtain⟨a,p⟩: ∃a,l[i]? =some a:=⟨_,A2 j⟩;obtain⟨ok,C⟩:=hd a (AM p);obtain⟨_,⟨V,W⟩,_⟩:=R5 ok;refine(v.ext g).idx p λX _ D=>Mt.mk a D ?_
  refine ao.mk λY _ F G Z=>aL.mk F (A0 8) λH q I aa=>?_
  rw[qg] at q;have J:Ext u H:=G.more I λc L=>by subst L;exact A0 _
  refine Mt.mk a (Qr q) (yN C λab w=>?_);unfold p8;rw[ok];refine⟨_,_,rfl,af.no rfl (AC.mk (AL (w.ag q λh=>h) rfl) ?_)⟩;have ac:=FB s;rw[show a.id=((a.id.toNat:Nat):Int) from by omega];refine ue (by omega) (by omega) λad M=>⟨_,rfl,?_⟩
  have r:=(J.trans w).trans M;refine ao.aZ (E:=BO) (x:=Nc wid a) rfl Gc (n.ext r) (by simp only[AS,An];omega) (by simp only[AS,An,maxLen];omega) λd f N O Q ae=>?_
  rw[Ab (by omega)];refine B (l.length-(i+1)) _ _ (by omega) ⟨i+1,d,rfl,rfl,j,(g.trans r).more O fr,?_,λb k=>?_⟩
  ·rw[AD,p,CD,C2];exact N
  ·rcases Q b k with y|y
   ·exact fr b y
   ·have:=(g.trans r).size;omega
 ·have j:i=l.length:=by simp at o;omega
  rw[j,Bm] at n;exact z e u n fr g
theorem ARO {t:dx}(o: ∀d,Ext h d->R (J1 #[J7 (if KN ⟨t.kind,t.ref,t.turn⟩ t.wid then OX ⟨t.kind,t.ref,t.turn⟩ t.wid else⟨#[]⟩),J6 J9 (if KN ⟨t.kind,t.ref,t.turn⟩ t.wid then 0 else 1)]) d):AA A P Uz #[t.v] h R:=by
 refine AGl ?_;unfold vB;refine ao.mk λf _ a p _=>?_
 refine ai.mk λK y=>?_
 have key: ∀k:Bool,k= !KN ⟨t.kind,t.ref,t.turn⟩ t.wid->K (k,()) f:=λk g=>by
  refine y _ _ ?_;cases b:KN ⟨t.kind,t.ref,t.turn⟩ t.wid with
  |false=>
   have:=o f p;rw[b] at this g;exact af.yes g this
  |true=>
   rw[b] at g;refine af.no g ?_;have z: ∀d,Ext f d->R (J1 #[J7 (OX ⟨t.kind,t.ref,t.turn⟩ t.wid),J6 J9 0]) d:=λd x=>by
    have:=o d (p.trans x);rw[b] at this;exact this
   unfold KN at b;simp only[A3,Bd] at b;obtain⟨⟨⟨⟨Q,S⟩,l⟩,T,U⟩,V,W⟩:=b;have X:=FB l;have Y:=AV (n:=t.kind.toNat) (by omega);have Z:=AV (n:=t.ref.toNat) (by omega);have aa:=AV (n:=t.turn.toNat) (by omega);have ab:=LF (s:=t.wid) (by omega);refine AC.mk (AL a rfl) (AJ.mk (n:=t.wid) (AB a rfl) (AC.mk (n:=t.ref) (AB a rfl) (AC.mk (n:=t.turn) (AB a rfl) ?_)));rw[Oy (n:=t.kind) (by omega) (by omega)];refine CU (by omega) λac q=>⟨_,rfl,?_⟩
   have i:=q.ag a λh=>h
   refine⟨AB i rfl,AB i rfl,AB i rfl,MP (by omega) λad r=>⟨_,rfl,?_⟩⟩;have m:=r.ag i λh=>h
   refine⟨AB m rfl,AB m rfl,by rw[AP,AP,max_i64];omega,?_⟩;rw[Oy (n:=t.ref) (by omega) (by omega)];refine CU (by omega) λae u=>⟨_,rfl,?_⟩
   have B:=u.ag m λh=>h
   refine⟨AB B rfl,by rw[Ao,AP,AP,max_i64,A1];omega,?_⟩;rw[Oy (n:=t.turn) (by omega) (by omega)];refine CU (by omega) λj C=>⟨_,rfl,⟨by rw[Ao,Ao,AP,AP,max_i64,A1,A1];omega,?_⟩⟩
   rw[Ao,Ao,Ao,A4,A4];exact z j (((q.trans r).trans u).trans C)
 have no: ∀ {P:Prop},¬P->(KN ⟨t.kind,t.ref,t.turn⟩ t.wid=true->P)->K (true,()) f:=λD E=>key true (by
  cases b:KN ⟨t.kind,t.ref,t.turn⟩ t.wid with
  |false=>rfl
  |true=>exact absurd (E b) D)
 have e:KN ⟨t.kind,t.ref,t.turn⟩ t.wid=true->(1<=t.kind/\t.kind<=7)/\Ak t.wid=true/\(0<=t.ref/\t.ref<=500)/\0<=t.turn/\t.turn<=5:=λb=>by
  unfold KN at b;simp only[A3,Bd] at b;obtain⟨⟨⟨F,l⟩,G⟩,H⟩:=b;exact⟨F,l,G,H⟩
 refine AC.mk (AL a rfl) (af.intro (λc=>no (P:=1<=t.kind) (by simp at c;omega) λh=>(e h).1.1) λI=>?_);refine AC.mk (AL a rfl) (af.intro (λc=>no (P:=t.kind<=7) (by simp at c;omega) λh=>(e h).1.2) λJ=>?_);refine AJ.mk (n:=t.wid) (AB a rfl) (Eg ⟨_,rfl,af.intro (λc=>no (P:=Ak t.wid=true) (by simp at c;simp[c]) λh=>(e h).2.1) λv=>?_⟩);refine AC.mk (n:=t.ref) (AB a rfl) (af.intro (λc=>no (P:=0<=t.ref) (by simp at c;omega) λh=>(e h).2.2.1.1) λL=>?_);refine AC.mk (n:=t.ref) (AB a rfl) (af.intro (λc=>no (P:=t.ref<=500) (by simp at c;omega) λh=>(e h).2.2.1.2) λM=>?_);refine AC.mk (n:=t.turn) (AB a rfl) (af.intro (λc=>no (P:=0<=t.turn) (by simp at c;omega) λh=>(e h).2.2.2.1) λw=>?_);refine AC.mk (n:=t.turn) (AB a rfl) (key _ ?_);unfold KN;simp at I J v L M w;have N:bU t.kind 1 7=true:=Bd.2 (by omega);have O:bU t.ref 0 500=true:=Bd.2 (by omega);rw[N,O,v];show _= !(bU t.turn 0 5);unfold bU;by_cases j:t.turn<=5
 ·simp[j,w]
 ·simp[j];omega
theorem uv {s:Sl}{p:cn}(v:View Ql h s p.steps)(V:p.steps.length<=1099511627776)(H: ∀b,Ext h b->R (YU p) b):
  AA A P Mi #[.agg #[J4 s.p s.len s.cap,J6 J9 p.az]] h R:=by
 refine AC2 ?_;unfold WY;refine ao.mk λaA _ u k _=>?_
 refine Aa.mk (s:=s) (AL u rfl) (AC.mk (AB u rfl) ?_);refine yK (p:=p) (v.ext k) V λw o=>⟨_,rfl,?_⟩
 cases q:GL p with
 |false=>
  refine af.yes rfl ?_;have:=H w (k.trans o);rw[YU,q] at this;exact this
 |true=>
  refine af.no rfl ?_;have W: ∀b,Ext w b->R (J1 #[J7 (AX (Cq p)),J6 J9 0]) b:=λb x=>by
   have:=H b ((k.trans o).trans x);rw[YU,q] at this;exact this
  simp only[GL,A3,decide_eq_true_eq] at q;obtain⟨⟨aC,X⟩,I⟩:=q;have aD:=Bd.1 X;have y:=o.ag u (λh=>h);refine AC.mk (n:=p.az) (AB y rfl) (Aa.mk (s:=s) (AL y rfl) ?_);rw[Oy (n:=p.az) (by omega) (by omega)];refine CU (by omega) λaE J=>⟨_,rfl,?_⟩
  have L:=J.ag y (λh=>h);refine⟨AL L rfl,?_⟩;rw[v.len,Bt (by omega)];have aF:=AV (n:=p.az.toNat) (by omega);have aG:=AV (n:=p.steps.length) (by omega);refine CU (by omega) λY M=>⟨_,rfl,⟨by rw[AP,AP,max_i64];omega,?_⟩⟩
  have Z:=M.ag L (λh=>h);rw[Ao];refine Aa.mk (s:=s) (AL Z rfl) ?_;refine Loop.rule (λm x f=> ∃i:Nat,x=(AX ((Bb p.az.toNat++Bb p.steps.length)++(p.steps.take i).flatMap Ho),(i:Int),())/\Ext Y f/\m=p.steps.length-i/\i<=p.steps.length) ?_ ⟨0,by simp,Mod.refl,rfl,by omega⟩;rintro K m _ f ⟨i,rfl,N,rfl,aH⟩ aa;have O:Ext w f:=(J.trans M).trans N;have ab:Ext h f:=(k.trans o).trans O;dsimp only;have aI:=v.len;refine af.intro (λz=>?_) (λz=>?_)
  ·have B:i<p.steps.length:=by simp at z;omega
   obtain⟨x,C⟩: ∃x,p.steps[i]? =some x:=⟨_,A2 B⟩;have ac:=AM C;have ad:=List.all_eq_true.1 I x ac;obtain⟨aJ,aK,aL,aM,aN,aO,aP,aQ,aR,aS,aT⟩:=yU ad;have aU:((p.steps.take i).flatMap Ho).length<=1600:=by
    have:=Pq (l:=p.steps.take i) (List.all_eq_true.2 λag ah=>List.all_eq_true.1 I ag (Cd ah));have:(p.steps.take i).length<=16:=by simp;omega
    omega
   have D: ∀b,Ext f b->K (AX (((Bb p.az.toNat++Bb p.steps.length)++(p.steps.take i).flatMap Ho)++Ho x),J8 J9 ((i:Int)+1),()) b:=λb aj=>by
    rw[Ab (by omega)];refine aa (p.steps.length-(i+1)) _ _ (by omega) ⟨i+1,?_,N.trans aj,rfl,B⟩;rw[AD,C,CD,Ft];simp[A4]
   generalize ak:(Bb p.az.toNat++Bb p.steps.length)++(p.steps.take i).flatMap Ho=al at*
   have aV:al.length<=2000:=by rw[<- ak];simp only[A1];omega
   refine(v.ext ab).idx C λa _ c=>?_
   obtain⟨am,c1,c2,c3,an,ap⟩:=yJ c;refine AC.mk am (AJ.mk c1 (AJ.mk c2 (AC.mk c3 (AC.mk an (AC.mk ap ?_)))));refine ao.mk λaW _ aq ar aX=>ae.pB aq λau Q av aY=>?_
   have aw:Ext f au:=ar.more av λc aZ=>by omega
   refine AC.mk (n:=x.kind) (AL Q rfl) ?_;rw[Oy (n:=x.kind) (by omega) (by omega)];refine CU (by omega) λa0 S=>⟨_,rfl,?_⟩
   have a1:=AV (n:=x.kind.toNat) (by omega);refine⟨by rw[AP,AP,max_i64];omega,?_⟩;have d:=S.ag Q (λh=>h);have E:=aw.trans S;rw[Ao];refine AC.mk (n:=x.kind) (AL d rfl) ?_;have a2:=AV (n:=x.tries.toNat) (by omega);have a3:=AV (n:=x.aA.toNat) (by omega);have a4:=AV (n:=x.wait.toNat) (by omega);have a5:=LF (s:=x.name) (by omega);have a6:=LF (s:=x.aK) (by omega);refine ai.mk λa7 F=>?_
   refine af.intro (λe=>?_) (λe=>?_)
   ·have e:x.kind=1:=by simpa using e
    refine AJ.mk (n:=x.name) (AB d rfl) (AC.mk (n:=x.tries) (AB d rfl) (AJ.mk (n:=x.aK) (AB d rfl) (AC.mk (n:=x.aA) (AB d rfl) (MP (by omega) λr j=>⟨_,rfl,?_⟩))));have t:=j.ag d (λh=>h);refine⟨AB t rfl,AB t rfl,AB t rfl,?_⟩;rw[Oy (n:=x.tries) (by omega) (by omega)];refine CU (by omega) λa8 T=>⟨_,rfl,?_⟩
    have G:=T.ag t (λh=>h);refine⟨AB G rfl,AB G rfl,by rw[AP,AP,max_i64];omega,?_⟩;refine MP (by omega) λa9 U=>⟨_,rfl,?_⟩
    have ax:=U.ag G (λh=>h);refine⟨AB ax rfl,by rw[Ao,AP,AP,max_i64,A1];omega,?_⟩;rw[Oy (n:=x.aA) (by omega) (by omega)];refine CU (by omega) λay az=>⟨_,rfl,⟨?_,?_,F _ _ ?_⟩⟩
    ·rw[Ao,Ao,AP,AP,max_i64];simp only[A1];omega
    ·simp only[Ao,AP,max_i64,A1];omega
    ·have:=D ay ((((E.trans j).trans T).trans U).trans az);simp only[Ho] at this;rw[if_pos e] at this;simp only[Ao,A4] at this ⊢;exact this
   ·have e:x.kind≠1:=by simpa using e
    refine af.intro (λg=>?_) (λg=>?_)
    ·have g:x.kind=2:=by simpa using g
     refine AC.mk (n:=x.wait) (AB d rfl) ?_;rw[Oy (n:=x.wait) (by omega) (by omega)];refine CU (by omega) λr j=>⟨_,rfl,⟨by rw[AP,AP,max_i64,A1];omega,F _ _ ?_⟩⟩
     have:=D r (E.trans j);simp only[Ho] at this;rw[if_neg e,if_pos g] at this;simp only[Ao,A4] at this ⊢;exact this
    ·have g:x.kind≠2:=by simpa using g
     refine af.yes (by simp;omega) (AJ.mk (n:=x.name) (AB d rfl) (MP (by omega) λr j=>⟨_,rfl,⟨by rw[AP,AP,max_i64,A1];omega,F _ _ ?_⟩⟩));have:=D r (E.trans j);simp only[Ho] at this;rw[if_neg e,if_neg g] at this;simp only[Ao,A4] at this ⊢;exact this
  ·have B:i=p.steps.length:=by simp at z;omega
   have:=W f O;rw[Ax (by omega)];exact this
end
end Go.Lf.G
namespace Go.Lf
open G
open Go
open M (Sorted Ad Bu Ay Ae Am BL Ag bo A9 aM A8)
theorem View.dA {c:Type}{d:cJ c}{e:Nat->Prop}{h f:aa}{s:Sl}{l:List c}(v:View d h s l)(m:Mod e h f)(j:l≠ []-> ∀b,s.ag=some b-> ¬e b):View d f s l:=by
 cases l with
 |nil=>exact⟨v.len,v.cap,λi x k=>by simp at k⟩
 |cons x l=>exact v.mod m (j (by simp))
end Go.Lf
namespace Go.Lf.G
open Go
open M (Sorted Ad Bu Ay Ae Am BL Ag bo A9 aM A8)
end Go.Lf.G
namespace Go.Lf
open G
open Go
open M (Sorted Ad Bu Ay Ae Am BL Ag bo A9 aM A8)
theorem View.kH {f:Type}{d:cJ f}{h:aa}{s:Sl}{l:List f}(v:View d h s l)(j:l≠ []){b:Nat}(e:s.ag=some b):b<h.size:=by
 cases l with
 |nil=>exact absurd rfl j
 |cons x l=>
  obtain⟨a,k,c⟩:=v.cells 0 x rfl;have m:0<(d.enc x).length:=by rw[d.len];exact d.pos
  have:=Vb (c 0 _ (A2 m));rw[aU,aU] at this;unfold Sl.ag at e;rw[k] at e;cases e;exact this
end Go.Lf
namespace Go.Lf.G
open Go
open M (Sorted Ad Bu Ay Ae Am BL Ag bo A9 aM A8)
theorem ae.nq {h:aa}{b d:Nat}{v:J0}{l l':List J0}{T:Q7}{K:aa->Prop}(e:h[b]? =some (J2 ⟨l⟩ T (0,0)))(f:d<l.length)(j:l.set d v=l')
  (k: ∀c,c[b]? =some (J2 ⟨l'⟩ T (0,0))->Mod (· =b) h c->c.size=h.size->K c):ae h ((⟨b,0,none⟩:Q6).add d) v K:=
 ae.bJ e f (UP l d v) λc m=>k c (by rw[<- j];exact m)
theorem CJ {h:aa}{b j:Nat}{l:List J0}{T:Q7}{fr:Nat×Nat}{v:J0}(c:h[b]? =some (J2 ⟨l⟩ T fr))(d:l[j]? =some v):ah h ((⟨b,0,none⟩:Q6).add j)=some v:=
 AB c (by simp_all)
theorem Bz {h:aa}{b i c:Nat}{l:List J0}{T:Q7}{fr:Nat×Nat}{v:J0}(d:h[b]? =some (J2 ⟨l⟩ T fr))(e:l[i+c]? =some v):ah h (((⟨b,0,none⟩:Q6).add i).add c)=some v:=by rw[add_add];exact CJ d e
theorem ARa {h:aa}{b i c d:Nat}{l:List J0}{T:Q7}{fr:Nat×Nat}{v:J0}(e:h[b]? =some (J2 ⟨l⟩ T fr))(f:l[i+(c+d)]? =some v):ah h ((((⟨b,0,none⟩:Q6).add i).add c).add d)=some v:=by rw[add_add];exact Bz e f
structure eI where
 hp:Nat
 ev:Sl
 fs:bF
 a:Sl
 b:Sl
 c:Sl
 more:Sl
 ar:Sl
 conds:Sl
abbrev eI.l(x:eI)(C:bA):List J0:= [Ar x.hp,J7 C.wid,J6 J9 (C.aq:Int),J6 J9 C.cE,J6 J9 C.cj,J3 C.kept,J4 x.ev.p x.ev.len x.ev.cap,
 J4 x.fs.steps.p x.fs.steps.len x.fs.steps.cap,J6 J9 x.fs.az,J6 J9 x.fs.status,J6 J9 x.fs.next,J6 J9 x.fs.bd,J6 J9 x.fs.asked,J6 J9 x.fs.taken,J3 x.fs.fresh,J4 x.fs.au.p x.fs.au.len x.fs.au.cap,J4 x.fs.ak.p x.fs.ak.len x.fs.ak.cap,J3 x.fs.cancel,J3 x.fs.aQ,
 J4 x.a.p x.a.len x.a.cap,J6 J9 C.st.prog.az,J6 J9 C.st.status,J6 J9 C.st.next,J6 J9 C.st.bd,J6 J9 C.st.asked,J6 J9 C.st.taken,J3 C.st.fresh,J4 x.b.p x.b.len x.b.cap,J4 x.c.p x.c.len x.c.cap,J3 C.st.cancel,J3 C.st.aQ,
 J4 x.more.p x.more.len x.more.cap,J4 x.ar.p x.ar.len x.ar.cap,J4 x.conds.p x.conds.len x.conds.cap,J6 J9 C.err,J6 J9 C.now]
structure Fx (h:aa) (cb:Nat) (z:Nat->Nat) (x:eI) (C:bA):Prop where
 ag:h[cb]? =some (J2 ⟨x.l C⟩ NW (0,0))
 zc:z cb=1
 st:KA h C.st x.a x.b x.c
 zs: ∀y,(C.st.prog.steps≠ []/\x.a.ag=some y)\/(C.st.au≠ []/\x.b.ag=some y)\/(C.st.ak≠ []/\x.c.ag=some y)->z y=5
 more:Own cw Ah h x.more C.more
 zm: ∀y,x.more.ag=some y->z y=2
 ar:Own BO AQ h x.ar C.ar
 zp: ∀y,x.ar.ag=some y->z y=3
 conds:Own BO AQ h x.conds C.conds
 zq: ∀y,x.conds.ag=some y->z y=4
theorem KA.dA {k:Nat->Prop}{h n:aa}{s:bg}{a b c:Sl}(f:KA h s a b c)(m:Mod k h n)(j: ∀y,(s.prog.steps≠ []/\a.ag=some y)\/(s.au≠ []/\b.ag=some y)\/(s.ak≠ []/\c.ag=some y)-> ¬k y):KA n s a b c:=
 ⟨f.steps.dA m λd y e=>j y (.inl ⟨d,e⟩),f.au.dA m λd y e=>j y (.inr (.inl ⟨d,e⟩)),f.ak.dA m λd y e=>j y (.inr (.inr ⟨d,e⟩))⟩
section
variable {A : al} {B : cu} {g h : aa} {s a N sh cb : Nat} {l : List Hs} {mp : List Pr} {O : Nat -> Prop} {i : Nat} {y : Hs} {z : Nat -> Nat} {x : eI} {C : bA} {R : A2L}
theorem Fx.mod {f:Nat->Prop}{j:aa}(b:Fx h cb z x C)(m:Mod f h j)(e: ∀c,z c≠0-> ¬f c):Fx j cb z x C:=
 ⟨m.ag b.ag (e cb (by rw[b.zc];decide)),b.zc,b.st.dA m λy d=>e y (by rw[b.zs y d];decide),b.zs,b.more.mod m λy d=>e y (by rw[b.zm y d];decide),b.zm,b.ar.mod m λy d=>e y (by rw[b.zp y d];decide),b.zp,b.conds.mod m λy d=>e y (by rw[b.zq y d];decide),b.zq⟩
theorem Fx.on {b:aa}(c:Fx h cb z x C)(m:Ext h b):Fx b cb z x C:=c.mod m λ_ _ h=>h
theorem Fx.cell {d:aa}(b:Fx h cb z x C){f:Int}(m:Mod (· =cb) h d)(k:d[cb]? =some (J2 ⟨x.l {C with err:=f}⟩ NW (0,0))):Fx d cb z x {C with err:=f}:=by
 have ne: ∀y e,z y=e->e≠1-> ¬y=cb:=λy e j n o=>by subst o;rw[b.zc] at j;exact n j.symm
 exact⟨k,b.zc,b.st.dA m λy c=>ne y 5 (b.zs y c) (by decide),b.zs,b.more.mod m λy c=>ne y 2 (b.zm y c) (by decide),b.zm,b.ar.mod m λy c=>ne y 3 (b.zp y c) (by decide),b.zp,b.conds.mod m λy c=>ne y 4 (b.zq y c) (by decide),b.zq⟩
theorem Fx.err(c:Fx h cb z x C){d:Int}{K:aa->Prop}(e: ∀b,Fx b cb z x {C with err:=d}->Mod (· =cb) h b->b.size=h.size->K b):ae h ((⟨cb,0,none⟩:Q6).add 34) (J6 J9 d) K:=
 ae.nq c.ag (of_decide_eq_true rfl) rfl λb f m j=>e b (c.cell m f) m j
def gS(z:Nat->Nat)(s:Sl)(b:Nat):Nat->Nat:=λc=>if s.ag=some c then b else z c
theorem qv {s:Sl}{b c:Nat}(h:s.ag=some c):gS z s b c=b:=if_pos h
theorem qw {e f:Sl}{j:Nat}(k: ∀c,z c≠0->c<h.size)(m: ∀y,e.ag=some y->z y=j)(n: ∀b,f.ag=some b->e.ag=some b\/h.size<=b){c d:Nat}(o:z c=d)(p:d≠0):gS z f j c=d:=by grind [gS]
theorem qx {f d:Sl}{e:Nat}{j:aa}(k: ∀y,f.ag=some y->z y=e)(m:e≠0)(n: ∀b,d.ag=some b->f.ag=some b\/h.size<=b)(o: ∀b,d.ag=some b->b<j.size){c:Nat}(p:gS z d e c≠0):z c≠0\/(h.size<=c/\c<j.size):=by grind [gS]
theorem Fx.lF(d:Fx h cb z x C)(H: ∀c,z c≠0->c<h.size){src:Sl}{f:Ev}(v:View cw h src [f])(V:C.more.length<1000){K:aa->Prop}
  (M: ∀r j I,Fx r cb I {x with more:=j} {C with more:=C.more++ [f]}->Mod (λc=>z c≠0) h r->(∀ c,I c≠0->z c≠0\/(h.size<=c/\c<r.size))->K r):
  BG A P (Builtin.append_ #[Bc,Bc] Bc #[J4 x.more.p x.more.len x.more.cap,J4 src.p src.len src.cap]) h λv n=> ∃t:Sl,v=J4 t.p t.len t.cap/\ae n ((⟨cb,0,none⟩:Q6).add 31) (J4 t.p t.len t.cap) K:=by
 refine GJ (E:=cw) (s:=x.more) (src:=src) mU d.more v (by grind) (by simp only[Ds,maxLen];omega) λj n J o L _=>?_
 have u: ∀c k,z c=k->k≠2-> ¬x.more.ag=some c:=λc k p D f=>by rw[d.zm c f] at p;exact D p.symm
 have Q:=o.ag d.ag (u cb 1 d.zc (by decide));refine ae.nq Q (of_decide_eq_true rfl) (l':=({x with more:=j}:eI).l {C with more:=C.more++ [f]}) rfl λD S q W=>?_
 have F: ∀c k,z c=k->k≠1-> ¬c=cb:=λc k p n f=>by subst f;rw[d.zc] at p;exact n p.symm
 have X:=H cb (by rw[d.zc];decide);have T: ∀b,j.ag=some b->b<n.size:=λb w=>J.lt w
 have aS: ∀ {c G:Nat},z c=G->G≠0->gS z j 2 c=G:=λm U=>qw H d.zm L m U
 refine M D j (gS z j 2) ⟨S,aS d.zc (by decide),?_,λy e=>aS (d.zs y e) (by decide),?_,λy e=>qv e,?_,λy e=>aS (d.zp y e) (by decide),?_,λy e=>aS (d.zq y e) (by decide)⟩ ?_ λc m=>?_
 ·exact(d.st.dA o λy e=>u y 5 (d.zs y e) (by decide)).dA q λy e=>F y 5 (d.zs y e) (by decide)
 ·refine J.mod q λb w f=>?_
  grind
 ·exact(d.ar.mod o λy e=>u y 3 (d.zp y e) (by decide)).mod q λy e=>F y 3 (d.zp y e) (by decide)
 ·exact(d.conds.mod o λy e=>u y 4 (d.zq y e) (by decide)).mod q λy e=>F y 4 (d.zq y e) (by decide)
 ·exact(o.aj λc _ m=>by rw[d.zm c m];decide).trans (q.aj λc _ m=>by grind)
 ·exact qx d.zm (by decide) L (λb w=>by have:=T b w;omega) m
theorem Fx.fQ(d:Fx h cb z x C)(I: ∀c,z c≠0->c<h.size){p:Pr}(W:C.ar.length<1000){K:aa->Prop}
  (Q: ∀u f J,Fx u cb J {x with ar:=f} {C with ar:=C.ar++ [p]}->Mod (λc=>z c≠0) h u->(∀ c,J c≠0->z c≠0\/(h.size<=c/\c<u.size))->K u):
  ao h (J2 #[J7 p.key,J7 p.val,J3 p.gone] AQ) λb m=>BG A P (Builtin.append_ #[AR,AR] AR #[J4 x.ar.p x.ar.len x.ar.cap,J4 (some (⟨b,0,none⟩:Q6)) 1 1]) m λv n=> ∃t:Sl,v=J4 t.p t.len t.cap/\ae n ((⟨cb,0,none⟩:Q6).add 32) (J4 t.p t.len t.cap) K:=by
 refine ao.aZ (E:=BO) (x:=p) (s:=x.ar) (l:=C.ar) rfl Gc d.ar (by omega) (by simp only[maxLen];omega) λf m L o M _=>?_
 have w: ∀c j,z c=j->j≠3-> ¬x.ar.ag=some c:=λc j q n D=>by rw[d.zp c D] at q;exact n q.symm
 have S:=o.ag d.ag (w cb 1 d.zc (by decide));refine ae.nq S (of_decide_eq_true rfl) (l':=({x with ar:=f}:eI).l {C with ar:=C.ar++ [p]}) rfl λn T r X=>?_
 have G: ∀c j,z c=j->j≠1-> ¬c=cb:=λc j q m D=>by subst D;rw[d.zc] at q;exact m q.symm
 have Y:=I cb (by rw[d.zc];decide);have U: ∀b,f.ag=some b->b<m.size:=λb F=>L.lt F
 have aS: ∀ {c H:Nat},z c=H->H≠0->gS z f 3 c=H:=λk V=>qw I d.zp M k V
 refine Q n f (gS z f 3) ⟨T,aS d.zc (by decide),?_,λy e=>aS (d.zs y e) (by decide),?_,λy e=>aS (d.zm y e) (by decide),?_,λy e=>qv e,?_,λy e=>aS (d.zq y e) (by decide)⟩ ?_ λc k=>?_
 ·exact(d.st.dA o λy e=>w y 5 (d.zs y e) (by decide)).dA r λy e=>G y 5 (d.zs y e) (by decide)
 ·exact(d.more.mod o λy e=>w y 2 (d.zm y e) (by decide)).mod r λy e=>G y 2 (d.zm y e) (by decide)
 ·refine L.mod r λb F D=>?_
  grind
 ·exact(d.conds.mod o λy e=>w y 4 (d.zq y e) (by decide)).mod r λy e=>G y 4 (d.zq y e) (by decide)
 ·exact(o.aj λc _ k=>by rw[d.zp c k];decide).trans (r.aj λc _ k=>by grind)
 ·exact qx d.zp (by decide) M (λb F=>by have:=U b F;omega) k
theorem Fx.iD(d:Fx h cb z x C)(I: ∀c,z c≠0->c<h.size){p:Pr}(W:C.conds.length<1000){K:aa->Prop}
  (Q: ∀u f J,Fx u cb J {x with conds:=f} {C with conds:=C.conds++ [p]}->Mod (λc=>z c≠0) h u->(∀ c,J c≠0->z c≠0\/(h.size<=c/\c<u.size))->K u):
  ao h (J2 #[J7 p.key,J7 p.val,J3 p.gone] AQ) λb m=>BG A P (Builtin.append_ #[AR,AR] AR #[J4 x.conds.p x.conds.len x.conds.cap,J4 (some (⟨b,0,none⟩:Q6)) 1 1]) m λv n=> ∃t:Sl,v=J4 t.p t.len t.cap/\ae n ((⟨cb,0,none⟩:Q6).add 33) (J4 t.p t.len t.cap) K:=by
 refine ao.aZ (E:=BO) (x:=p) (s:=x.conds) (l:=C.conds) rfl Gc d.conds (by omega) (by simp only[maxLen];omega) λf m L o M _=>?_
 have w: ∀c j,z c=j->j≠4-> ¬x.conds.ag=some c:=λc j q n D=>by rw[d.zq c D] at q;exact n q.symm
 have S:=o.ag d.ag (w cb 1 d.zc (by decide));refine ae.nq S (of_decide_eq_true rfl) (l':=({x with conds:=f}:eI).l {C with conds:=C.conds++ [p]}) rfl λn T r X=>?_
 have G: ∀c j,z c=j->j≠1-> ¬c=cb:=λc j q m D=>by subst D;rw[d.zc] at q;exact m q.symm
 have Y:=I cb (by rw[d.zc];decide);have U: ∀b,f.ag=some b->b<m.size:=λb F=>L.lt F
 have aS: ∀ {c H:Nat},z c=H->H≠0->gS z f 4 c=H:=λk V=>qw I d.zq M k V
 refine Q n f (gS z f 4) ⟨T,aS d.zc (by decide),?_,λy e=>aS (d.zs y e) (by decide),?_,λy e=>aS (d.zm y e) (by decide),?_,λy e=>aS (d.zp y e) (by decide),?_,λy e=>qv e⟩ ?_ λc k=>?_
 ·exact(d.st.dA o λy e=>w y 5 (d.zs y e) (by decide)).dA r λy e=>G y 5 (d.zs y e) (by decide)
 ·exact(d.more.mod o λy e=>w y 2 (d.zm y e) (by decide)).mod r λy e=>G y 2 (d.zm y e) (by decide)
 ·exact(d.ar.mod o λy e=>w y 3 (d.zp y e) (by decide)).mod r λy e=>G y 3 (d.zp y e) (by decide)
 ·refine L.mod r λb F D=>?_
  grind
 ·exact(o.aj λc _ k=>by rw[d.zq c k];decide).trans (r.aj λc _ k=>by grind)
 ·exact qx d.zq (by decide) M (λb F=>by have:=U b F;omega) k
def iN(t:bg)(a b c:Sl)(y:Nat):Prop:=(t.prog.steps≠ []/\a.ag=some y)\/(t.au≠ []/\b.ag=some y)\/(t.ak≠ []/\c.ag=some y)
open Classical in
noncomputable def jT (z:Nat->Nat) (t:bg) (a b c:Sl):Nat->Nat:=λy=>if iN t a b c y then 5 else z y
theorem KA.lt {t:bg}{a b c:Sl}(f:KA h t a b c){y:Nat}(j:iN t a b c y):y<h.size:=by
 rcases j with⟨d,e⟩|⟨d,e⟩|⟨d,e⟩
 ·exact f.steps.kH d e
 ·exact f.au.kH d e
 ·exact f.ak.kH d e
theorem Fx.lG {n:aa}{t:bg}{f j k:Sl}(e:Fx h cb z x C)(H: ∀c,z c≠0->c<h.size)(w:Ext h n)(D:KA n t f j k)(fr: ∀y,f.ag=some y\/j.ag=some y\/k.ag=some y->h.size<=y){K:aa->Prop}
  (I: ∀o E,Fx o cb E {x with a:=f,b:=j,c:=k} {C with st:=t}->Mod (λc=>z c≠0) h o->Mod (· =cb) n o->(∀ c,E c≠0->z c≠0\/(h.size<=c/\c<o.size))->K o):
  aL n ((⟨cb,0,none⟩:Q6).add 19) (t.V f j k).l K:=by
 have q:=e.on w;have J:(⟨cb,0,none⟩:Q6).add 19=⟨cb,19,none⟩:=rfl;rw[J];refine aL.mk q.ag (of_decide_eq_true rfl) λL M m Q=>?_
 have S:=H cb (by rw[e.zc];decide);have P: ∀y,iN t f j k y->h.size<=y:=λy d=>fr y (by
  rcases d with⟨_,h⟩|⟨_,h⟩|⟨_,h⟩
  ·exact .inl h
  ·exact .inr (.inl h)
  ·exact .inr (.inr h))
 have u: ∀c v,z c=v->v≠1-> ¬c=cb:=λc v F n G=>by subst G;rw[e.zc] at F;exact n F.symm
 have aS: ∀ {c r:Nat},z c=r->r≠0->jT z t f j k c=r:=λ{c r} p T=>by
  unfold jT
  grind
 refine I L (jT z t f j k) ⟨M,aS e.zc (by decide),?_,λy d=>if_pos d,q.more.mod m λy d=>u y 2 (e.zm y d) (by decide),λy d=>aS (e.zm y d) (by decide),q.ar.mod m λy d=>u y 3 (e.zp y d) (by decide),λy d=>aS (e.zp y d) (by decide),q.conds.mod m λy d=>u y 4 (e.zq y d) (by decide),λy d=>aS (e.zq y d) (by decide)⟩ ?_ m λc p=>?_
 ·exact D.dA m λy d G=>by grind
 ·exact w.mod.trans (m.aj λc _ p=>by grind)
 ·unfold jT at p;split at p
  ·rename_i d;exact .inr ⟨P c d,by have:=D.lt d;have:=m.size;omega⟩
  ·exact .inl p
theorem Fx.ld(b:Fx h cb z x C):Cells h ((⟨cb,0,none⟩:Q6).add 19) (C.st.V x.a x.b x.c).l:=by have c:(⟨cb,0,none⟩:Q6).add 19=⟨cb,19,none⟩:=rfl;rw[c];exact Dn b.ag rfl
theorem LW.out(b:LW B g h s a N sh l mp O){c:Nat}(d:O c):c<h.size/\g.size<=c:=by
 obtain⟨e,f,st,m,j,nn,C,k,n,o,p,out⟩:=b
 simp_all
structure CW (B:cu) (g h:aa) (s a N sh:Nat) (l:List Hs) (i:Nat) (y:Hs) (mp:List Pr) (O:Nat->Prop) (cb:Nat) (z:Nat->Nat) (x:eI) (C:bA):Prop where
 w:LW B g h s a N sh (l.set i y) mp (λc=>O c\/z c≠0)
 il:i<l.length
 no: ∀c,z c≠0-> ¬O c
 hp:x.hp=y.p
 bG:Fx h cb z x C
theorem CW.ig(b:CW B g h s a N sh l i y mp O cb z x C): ∀c,z c≠0->c<h.size:=λc d=>(b.w.out (.inr d)).1
theorem CW.zfr(b:CW B g h s a N sh l i y mp O cb z x C): ∀c,z c≠0->bz g O c:=λc d=>⟨(b.w.out (.inr d)).2,b.no c d⟩
theorem CW.frame {b:aa}(d:CW B g h s a N sh l i y mp O cb z x C)(m:Mod (λc=>z c≠0) h b):Mod (bz g O) h b:=m.aj λc _ e=>d.zfr c e
theorem CW.step {d:aa}{f:Nat->Nat}{x':eI}{j:bA}(b:CW B g h s a N sh l i y mp O cb z x C)(m:Mod (λc=>z c≠0) h d)(n: ∀c,f c≠0->z c≠0\/(h.size<=c/\c<d.size))(o:x'.hp=x.hp)(p:Fx d cb f x' j):CW B g d s a N sh l i y mp O cb f x' j:=
 ⟨b.w.own (m.aj λc _ e=> .inr e) λc e=>by
   grind,
  b.il,λc e k=>by
   rcases n c e with h|h
   ·exact b.no c h k
   ·have:=(b.w.out (.inl k)).1;omega,
  o.trans b.hp,p⟩
theorem CW.on {c:aa}(b:CW B g h s a N sh l i y mp O cb z x C)(m:Ext h c):CW B g c s a N sh l i y mp O cb z x C:=⟨b.w.on m,b.il,b.no,b.hp,b.bG.on m⟩
theorem CW.wider {e:aa}{O':Nat->Prop}(b:CW B g h s a N sh l i y mp O cb z x C)(m:Mod O h e)(j: ∀c,O' c->O c\/(h.size<=c/\c<e.size)):CW B g e s a N sh l i y mp O' cb z x C:=
 ⟨b.w.own (m.aj λc _ d=> .inl d) λc d=>by
   grind,
  b.il,λc d f=>by
   rcases j c f with h|h
   ·exact b.no c d h
   ·have:=b.ig c d;omega,
  b.hp,b.bG.mod m λc d f=>b.no c d f⟩
end
theorem uw {h:aa}{b:Nat}{T:Q7}{fr:Nat×Nat}{c:Ev}(d:h[b]? =some (J2 c.c T fr)):ah h (⟨b,0,none⟩:Q6)=some (J6 J9 c.id)/\ah h ((⟨b,0,none⟩:Q6).add 1)=some (J6 J9 c.kind)/\ah h ((⟨b,0,none⟩:Q6).add 2)=some (J6 J9 c.tick)/\ah h ((⟨b,0,none⟩:Q6).add 3)=some (J6 J9 c.ref)/\ah h ((⟨b,0,none⟩:Q6).add 4)=some (J6 J9 c.step)/\ah h ((⟨b,0,none⟩:Q6).add 5)=some (J6 J9 c.turn)/\ah h ((⟨b,0,none⟩:Q6).add 6)=some (J3 c.aK)/\ah h ((⟨b,0,none⟩:Q6).add 7)=some (J7 c.data):=
 ⟨AL d rfl,AB d rfl,AB d rfl,AB d rfl,AB d rfl,AB d rfl,AB d rfl,AB d rfl⟩
end Go.Lf.G
namespace Go.Lf
open G
open Go
open M (Sorted Ad Bu Ay Ae Am BL Ag bo A9 aM A8)
theorem Cells.lH {h:aa}{a:Q6}{t:bF}(c:Cells h a t.l):ah h a=some (J4 t.steps.p t.steps.len t.steps.cap)/\ah h (a.add 1)=some (J6 J9 t.az)/\ah h (a.add 2)=some (J6 J9 t.status)/\ah h (a.add 3)=some (J6 J9 t.next)/\ah h (a.add 4)=some (J6 J9 t.bd)/\ah h (a.add 5)=some (J6 J9 t.asked)/\ah h (a.add 6)=some (J6 J9 t.taken)/\ah h (a.add 7)=some (J3 t.fresh)/\ah h (a.add 8)=some (J4 t.au.p t.au.len t.au.cap)/\ah h (a.add 9)=some (J4 t.ak.p t.ak.len t.ak.cap)/\ah h (a.add 10)=some (J3 t.cancel)/\ah h (a.add 11)=some (J3 t.aQ):=by have b:=c 0 _ rfl;rw[add_zero] at b;exact⟨b,c 1 _ rfl,c 2 _ rfl,c 3 _ rfl,c 4 _ rfl,c 5 _ rfl,c 6 _ rfl,c 7 _ rfl,c 8 _ rfl,c 9 _ rfl,c 10 _ rfl,c 11 _ rfl⟩
end Go.Lf
namespace Go.Lf.G
open Go
open M (Sorted Ad Bu Ay Ae Am BL Ag bo A9 aM A8)
structure Hs.dz (y y':Hs):Prop where
 p:y'.p=y.p
 name:y'.name=y.name
 f:y'.f=y.f
 u: ∀m,y.u m<=y'.u m/\y'.u m<=y.u m+1
theorem Hs.dz.refl(y:Hs):y.dz y:=⟨rfl,rfl,rfl,λ_=>⟨A0 _,BY _⟩⟩
def dW(y c:Hs)(b d:Nat):Prop:= ∃v,y.u b<v/\v<=c.u b/\d=y.f b*16777216+v
def qy(y b:Hs)(C c:bA)(d:Nat):Prop:=c.err=0->y.f C.aq≠0->dW y b C.aq d
section
variable {A : al} {B : cu} {g h : aa} {s a N sh cb : Nat} {l : List Hs} {mp : List Pr} {O : Nat -> Prop} {i : Nat} {y : Hs} {z : Nat -> Nat} {x : eI} {C : bA} {R : A2L}
theorem CW.put {b:Nat}(W:CW B g h s a N sh l i y mp O cb z x C)(c:N<=b)(d:b<=1000000)(e:64*a<=B.C):CW B g h s a b sh l i y mp O cb z x C:=⟨W.w.put (A0 _) e c d,W.il,W.no,W.hp,W.bG⟩
theorem CW.at(b:CW B g h s a N sh l i y mp O cb z x C):(l.set i y)[i]? =some y:=HT b.il
theorem CW.lw {d:aa}{f j:Nat}{k:List Pr}{e:Hs}(b:CW B g h s a N sh l i y mp O cb z x C)(n:LW B g d s j f sh ((l.set i y).set i e) k (λc=>O c\/z c≠0))(m:Mod (bz g (λc=>O c\/z c≠0)) h d)(o:e.p=y.p):CW B g d s j f sh l i e k O cb z x C:=
 ⟨by rw[List.set_set] at n;exact n,b.il,b.no,b.hp.trans o.symm,b.bG.mod m λc p q=>q.2 (.inr p)⟩
theorem ARh {t:bF}(c: ∀b,Ext h b->R (J3 (decide (t.next<=497))) b):AA A P QH #[t.v] h R:=by refine AEG ?_;unfold WX;exact ao.mk λd _ e f j=>AC.mk (AB e rfl) (c d f)
theorem AQg {wid:A2M}{j:Nat}{k m now:Int}{n:Bool}{w:Sl}{st:bg}{d e f:Sl}(F:LW B g h s a N sh (l.set i y) mp (λc=>O c\/iN st d e f c))(S:i<l.length)(G:KA h st d e f)(no: ∀c,iN st d e f c-> ¬O c)
  (H: ∀D cb z x,CW B g D s a N sh l i y mp O cb z x (PP wid j k m n st now)->Ext h D->R (Ar cb) D):
  AA A P Oo #[Ar y.p,(⟨wid,(j:Int),⟨k,m,n⟩,w,st.V d e f⟩:bX).v,J6 J9 now] h R:=by
 refine ABm ?_;unfold VC;refine ao.mk λp _ I J ae=>I7.mk ⟨wid,(j:Int),⟨k,m,n⟩,w,st.V d e f⟩ (Dn I rfl) ?_
 have T:(⟨h.size,0,none⟩:Q6).add 6=⟨h.size,6,none⟩:=rfl;rw[T];refine Az.mk (st.V d e f) (Dn I rfl) ?_;refine ao.mk λq _ U V ag=>?_
 have t:Ext h q:=J.trans V
 let x:eI:=⟨y.p,w,st.V d e f,d,e,f,⟨none,0,0⟩,⟨none,0,0⟩,⟨none,0,0⟩⟩
 let u:bA:= {PP wid j k m n st now with err:=0}
 let z:Nat->Nat:=λc=>if c=p.size then 1 else jT (λ_=>0) st d e f c
 have W: ∀c,iN st d e f c->c<h.size:=λc b=>G.lt b
 have X: ∀c,z c≠0->c=p.size\/iN st d e f c:=λc b=>by
  by_cases r:c=p.size
  ·exact .inl r
  ·have b:jT (λ_=>0) st d e f c≠0:=by grind
   unfold jT at b;split at b
   ·rename_i Y;exact .inr Y
   ·exact absurd rfl b
 have Z:Fx q p.size z x u:=⟨U,if_pos rfl,(G.ext t),λc b=>by
   have:=W c b;show z c=5;exact(if_neg (by omega)).trans (if_pos b),Own.nil,λc b=>by simp[x,Sl.ag] at b,Own.nil,λc b=>by simp[x,Sl.ag] at b,Own.nil,λc b=>by simp[x,Sl.ag] at b⟩
 have E:CW B g q s a N sh l i y mp O p.size z x u:=⟨F.own t.mod λc b=>by
   grind,S,λc b L=>by
   rcases X c b with h|h
   ·have:=(F.out (.inl L)).1;omega
   ·exact no c h L,rfl,Z⟩
 refine ai.mk λK M=>ai.mk λaa ab=>?_
 have key: ∀v:Bool,(v=true↔now<0\/1099511611776<now)->aa (v,()) q:=λv ac=>by
  refine ab _ _ (af.intro (λo=>?_) (λo=>?_))
  ·refine E.bG.err λad D3 Q ah=>M _ _ (H ad _ z x ?_ (t.more Q λc b=>by subst b;exact J.size))
   have r:PP wid j k m n st now= {u with err:=1}:=by have:PP wid j k m n st now= {PP wid j k m n st now with err:=if now<0\/1099511611776<now then 1 else 0}:=rfl;rw[this,if_pos (ac.1 o)]
   rw[r];exact E.step (Q.aj λc _ b=>by grind) (λc b=> .inl b) rfl D3
  ·have o:v=false:=o;refine M _ _ (H q _ z x ?_ t);have r:PP wid j k m n st now=u:=by have:PP wid j k m n st now= {PP wid j k m n st now with err:=if now<0\/1099511611776<now then 1 else 0}:=rfl;rw[this,if_neg λh=>by grind]
   rw[r];exact E
 refine af.intro (λo=>key true (by simp at o;simp[o])) (λo=>key _ (by simp at o;simp;omega))
theorem AQk(b:CW B g h s a N sh l i y mp O cb z x C)(d:0<=C.st.next/\C.st.next<=501)(c:R (J6 J9 (Wo C)) h):AA A P JL #[Ar cb] h R:=by refine Tj ?_;unfold NK;refine aD (AC.mk (Bz b.bG.ag rfl) ?_);rw[wrap_i64 (by omega) (by omega)];exact c
theorem mo {e:Ev}{am:Nat}(f:CW B g h s a N sh l i y mp O cb z x C)(an:Ea C.st am)(ap:am<=600)(hd:e.data.size<1099511627776)(aJ:C.more.length<1000)
  (S: ∀Y aK x',CW B g Y s a N sh l i y mp O cb aK x' (EF C e)->Mod (bz g O) h Y->R (J1 #[]) Y):AA A P Dr #[Ar cb,e.v] h R:=by
 refine UH ?_;unfold Ny;refine ao.mk λaM _ aN u a7=>aD (AC.mk (CJ (f.on u).bG.ag rfl) (af.intro (λd=>?_) (λd=>?_)))
 ·have d:C.err≠0:=by simpa using d
  refine S aM z x ?_ u.mod;unfold EF;rw[if_pos d];exact f.on u
 have Z:C.err=0:=by simpa using d
 have aq: ∀c,z c≠0-> ¬c=h.size:=λc n e=>by have:=f.ig c n;omega
 refine aD (AC.mk (Bz (f.on u).bG.ag rfl) (aD (AC.mk (CJ (f.on u).bG.ag rfl) ?_)));refine ae.bJ (j:=0) (dK:=({e with id:=if 1>C.st.next then 1 else C.st.next}:Ev).c) aN (of_decide_eq_true rfl) rfl λa8 aO ar a9=>⟨CJ ((f.on u).bG.mod ar aq).ag rfl,?_⟩
 refine ae.bJ (j:=2) (dK:=(Cc C e).c) aO (of_decide_eq_true rfl) rfl λab au aP ba=>?_
 have ac:Ext h ab:=u.more (ar.trans aP) λc n=>by omega
 refine ai.mk λK aQ=>?_
 have key: ∀(T:Bool) (D:aa),Ext ab D->(T=true↔C.more= []/\jh C.st=false/\e.kind≠18)->K (T,()) D:=λT D ad av=>by
  have J:=ac.trans ad;have F:=f.on J;have U:=ad.ag au λh=>h
  refine aQ _ _ (af.intro (λd=>?_) (λd=>?_))
  ·refine aD (F.bG.err λk aR aS aT=>?_);have aw:Mod (λc=>z c≠0) D k:=aS.aj λc _ n=>by subst n;rw[f.bG.zc];decide
   refine S k z x ?_ (J.mod.trans (F.frame aw));unfold EF;rw[if_neg (by simp[Z]),if_pos (av.1 d)];exact F.step aw (λc n=> .inl n) rfl aR
  have d:T=false:=d;have ax: ¬(C.more= []/\jh C.st=false/\e.kind≠18):=λh=>by rw[av.2 h] at d;cases d
  refine ai.mk λaU aV=>aD (Az.mk (C.st.V x.a x.b x.c) F.bG.ld (Mt.mk (Cc C e) (Qr U) ?_))
  have ay: ∀(k:aa) (ag:Nat) (o p q:Sl),Ext D k->k[ag]? =some (J2 ((Bh C.st (Cc C e)).2.V o p q).c Av (0,0))->KA k (Bh C.st (Cc C e)).2 o p q->(∀ y,o.ag=some y\/p.ag=some y\/q.ag=some y->h.size<=y)->
    aU (some ⟨ag,0,none⟩,(Bh C.st (Cc C e)).1,()) k:=λk ag o p q m aW L fr=>by
   have ah:=J.trans m;have aj:=f.on ah;refine aV _ _ (af.intro (λd=>?_) (λd=>?_))
   ·have d:(Bh C.st (Cc C e)).1≠0:=by simpa using d
    refine aD (aj.bG.err λG ak V az=>?_);have W:Mod (λc=>z c≠0) k G:=V.aj λc _ n=>by subst n;rw[f.bG.zc];decide
    refine S G z x ?_ (ah.mod.trans (aj.frame W));unfold EF;rw[if_neg (by simp[Z]),if_neg ax,if_pos d];exact aj.step W (λc n=> .inl n) rfl ak
   have aX:(Bh C.st (Cc C e)).1=0:=by simpa using d
   refine aD (Az.mk ((Bh C.st (Cc C e)).2.V o p q) (Ep aW) (aD (f.bG.lG f.ig ah L fr λG bb ak V W aY=>?_)));have aA:=f.step (x':= {x with a:=o,b:=p,c:=q}) V aY rfl ak;have M:=W.ag (m.ag U λh=>h) (λe=>aq cb (by rw[f.bG.zc];decide) e.symm);refine aD (Aa.mk (s:=x.more) (CJ aA.bG.ag rfl) (Mt.mk (Cc C e) (Qr M) (ao.mk λH _ v aC aE=>?_)));have Q:=aA.on aC;refine⟨CJ Q.bG.ag rfl,?_⟩;have aZ:View cw H ⟨some ⟨G.size,0,none⟩,1,1⟩ [Cc C e]:=(Own.lit (E:=cw) (l:= [Cc C e]) v rfl (by simp[maxLen])).view;refine Q.bG.lF Q.ig aZ aJ λa0 aF a1 a2 aG a3=>?_
   have a4:=Q.step (x':= {x with a:=o,b:=p,c:=q,more:=aF}) aG a3 rfl a2;refine S a0 a1 {x with a:=o,b:=p,c:=q,more:=aF} ?_ ((f.frame V).trans (aC.mod.trans (Q.frame aG)));have a5:EF C e= {C with st:=(Bh C.st (Cc C e)).2,more:=C.more++ [Cc C e]}:=by unfold EF;rw[if_neg (by simp[Z]),if_neg ax,if_neg (by simp[aX])]
   rw[a5];exact a4
  have bc:=ac.size;have bd:=ad.size;constructor
  ·refine qs F.bG.st an ap hd λk o p q m L I=>Hw.mk _ ⟨_,rfl,ao.mk λG _ M t az=>⟨uw ((m.trans t).ag U λh=>h),(f.on ((J.trans m).trans t)).bG.ld.lH,aL.mk M (A0 12) λH v X aE=>?_⟩⟩
   rw[Nn] at v;have aH:Ext k H:=t.more X λc n=>by omega
   exact ay H k.size o p q (m.trans aH) v (L.ext aH) λy r=>by have:=I y r;omega
  ·refine ao.mk λG _ M t az=>⟨uw (t.ag U λh=>h),(f.on (J.trans t)).bG.ld.lH,?_⟩
   refine qs (F.bG.st.ext t) an ap hd λk o p q m L I=>Hw.mk _ ⟨_,rfl,aL.mk (m.ag M λh=>h) (A0 12) λH v X aE=>?_⟩
   rw[Nn] at v;have aT:=m.size;have a6:=L.mod X (λy r e=>by have:=I y (.inl r);omega) (λy r e=>by have:=I y (.inr (.inl r));omega) (λy r e=>by have:=I y (.inr (.inr r));omega);exact ay H D.size o p q ((t.trans m).more X λc n=>by omega) v a6 λy r=>by have:=I y r;omega
 have al:=f.on ac;refine aD (Aa.mk (s:=x.more) (CJ al.bG.ag rfl) ?_);have aI:=al.bG.more.len;refine af.intro (λd=>?_) (λd=>?_)
 ·have d:C.more= []:=by simp at d;exact DA (by omega)
  refine aD (Az.mk (C.st.V x.a x.b x.c) al.bG.ld (ARh λk m=>⟨_,rfl,?_⟩));refine af.intro (λw=>?_) (λw=>?_)
  ·have w:jh C.st=false:=by unfold jh;simpa using w
   refine AC.mk (AB (m.ag au λh=>h) rfl) (key _ k m ?_);simp[d,w,Cc]
  ·have w:jh C.st=true:=by unfold jh;simpa using w
   refine key _ k m ?_;simp[w]
 ·have d:C.more≠ []:=λh=>by rw[h] at aI;simp[aI] at d
  refine key _ ab Mod.refl ?_;simp[d]
theorem ux {t:dx}{tick:Int}(r:CW B g h s a N sh l i y mp O cb z x C)(V:C.aq<256)(ap:y.f C.aq<=2147483647)(aq:y.u C.aq+1<16777216)(H:N+1<=1000000)(J:64*a<=B.C)(au:C.ar.length<1000)(a6:tick<9223372036854775808)
  (L: ∀M av x' e d,CW B g M s a (N+1) sh l i e mp O cb av x' (ET C ⟨t.kind,t.ref,t.turn⟩ tick d)->y.dz e->qy y e C (ET C ⟨t.kind,t.ref,t.turn⟩ tick d) d->Mod (bz g O) h M->R (J1 #[]) M):AA A P Gg #[Ar cb,t.v,J6 J9 tick] h R:=by
 refine TU ?_;unfold NM;refine ao.mk λaw _ ax w a7=>aD (AC.mk (CJ (r.on w).bG.ag rfl) (af.intro (λb=>?_) (λb=>?_)))
 ·have b:C.err≠0:=by simpa using b
  have D:ET C ⟨t.kind,t.ref,t.turn⟩ tick 0=C:=by unfold ET;rw[if_pos b]
  refine L aw z x y 0 (by rw[D];exact(r.on w).put (by omega) H J) (Hs.dz.refl y) (λE=>absurd (by rw[D] at E;exact E) b) w.mod
 have W:C.err=0:=by simpa using b
 refine aD (AJ.mk (n:=C.wid) (CJ (r.on w).bG.ag rfl) (ae.bJ (j:=1) (dK:=({t with wid:=C.wid}:dx).c) ax (of_decide_eq_true rfl) rfl λay az aA a8=>?_));have aC:Ext h ay:=w.more aA λc q=>by omega
 refine jk.mk ({t with wid:=C.wid}:dx) (Dn az rfl) (ARO λF aE=>⟨_,_,rfl,?_⟩);have Q:=aC.trans aE;have f:=r.on Q;cases X:KN ⟨t.kind,t.ref,t.turn⟩ C.wid with
 |false=>
  refine af.yes rfl (aD (f.bG.err λY aF aG a9=>?_));have Z:Mod (λc=>z c≠0) F Y:=aG.aj λc _ q=>by subst q;rw[r.bG.zc];decide
  have D:ET C ⟨t.kind,t.ref,t.turn⟩ tick 0= {C with err:=1}:=by unfold ET;rw[if_neg (by simp[W]),if_pos X]
  refine L Y z x y 0 ?_ (Hs.dz.refl y) (λE=>by rw[D] at E;exact absurd (show(1:Int)=0 from E) (by decide)) (Q.mod.trans (f.frame Z));rw[D];exact(f.step Z (λc q=> .inl q) rfl aF).put (by omega) H J
 |true=>
  refine af.no rfl ?_;have aH:ah F (⟨cb,0,none⟩:Q6)=some (Ar y.p):=by have:=CJ (j:=0) f.bG.ag rfl;rw[add_zero,r.hp] at this;exact this
  refine aD (AY.mk aH (aD (AC.mk (Bz f.bG.ag rfl) ?_)));have ab: ∀(k:aa) (e:Hs) (d:Nat),CW B g k s a (N+1) sh l i e mp O cb z x C->y.dz e->(y.f C.aq≠0->dW y e C.aq d)->Mod (bz g O) F k->(∃ S:Int,Value.int .u64 (d:Int)= .int .u64 S/\(
    At (some (⟨cb,0,none⟩:Q6)) λaI=>
    AC J9 k ((aI.add 1).add 1) λaJ=>
    AA A P Kg #[J6 J9 aJ,.int .u64 S] k λv2 u=> ∃ac:A2M,v2=J7 ac/\(
    ai (λ(s:A2M×Unit) o=>
      At (some (⟨cb,0,none⟩:Q6)) λaK=>
      Aa o (aK.add 32) λT=>
      ao o (J2 #[J7 s.1,J7 (if true then OX ⟨t.kind,t.ref,t.turn⟩ C.wid else⟨#[]⟩),J3 false] AQ) λaL U=>
      BG A P (Builtin.append_ #[AR,AR] AR #[J4 T.p T.len T.cap,J4 (some (⟨aL,0,none⟩:Q6)) 1 1]) U λaM aN=> ∃v:Sl,aM=J4 v.p v.len v.cap/\(
      At (some (⟨cb,0,none⟩:Q6)) λaO=>
      ae aN (aO.add 32) (J4 v.p v.len v.cap) λaP=>
      R (J1 #[]) aP)) λK=>
     af (decide (tick>=(0:Int))) (
      At (some (⟨cb,0,none⟩:Q6)) λaQ=>
      AC J9 u ((aQ.add 1).add 1) λaR=>
      AA A P OW #[J6 J9 aR,J6 J9 tick,.int .u64 S] u λaS aT=> ∃ad:A2M,aS=J7 ad/\(
      K (ad,()) aT)) (
      K (ac,()) u)))):=λk e d ag aU aV aW=>by
   refine⟨_,rfl,aD (AC.mk (Bz ag.bG.ag rfl) (AQK V λu aj=>⟨_,rfl,ai.mk λK aX=>?_⟩))⟩;have ak:=ag.on aj;have key: ∀(o:aa),Ext u o->K (La C.aq tick d,()) o:=λo I=>by
    have G:=ak.on I;refine aX _ _ (aD (Aa.mk (s:=x.ar) (CJ G.bG.ag rfl) ?_));refine G.bG.fQ (p:=⟨La C.aq tick d,OX ⟨t.kind,t.ref,t.turn⟩ C.wid,false⟩) G.ig au λU al aY aZ am a0=>?_
    have a1:=G.step (x':= {x with ar:=al}) am a0 rfl aZ;refine L U aY {x with ar:=al} e d ?_ aU (λ_=>aV) (Q.mod.trans (aW.trans ((aj.trans I).mod.trans (G.frame am))));unfold ET;rw[if_neg (by simp[W]),if_neg (by simp[X])];exact a1
   refine af.intro (λb=>?_) (λb=>?_)
   ·have b:0<=tick:=by simpa using b
    obtain⟨n,rfl⟩: ∃n:Nat,tick=n:=⟨tick.toNat,by omega⟩;refine aD (AC.mk (Bz ak.bG.ag rfl) (AQE V (by omega) λo I=>⟨_,rfl,?_⟩));have:=key o I;unfold La at this;rw[if_neg (by omega),As] at this;exact this
   ·have b:tick<0:=by simp at b;omega
    have:=key u Mod.refl;unfold La at this;rw[if_pos b] at this;exact this
  refine f.w.number f.at ap aq H (λa2=>?_) λba k a3 an=>?_
  ·exact ab F y 0 (f.put (by omega) H J) (Hs.dz.refl y) (λh=>absurd a2 h) Mod.refl
  ·have a4:Mod (bz g O) F k:=an.aj λc _ q=>⟨q.1,λa5=>q.2 (.inl a5)⟩
   exact ab k (y.jy C.aq) _ (f.lw a3 an rfl) ⟨rfl,rfl,rfl,λm=>by
    show _<=dG y.u C.aq (y.u C.aq+1) m/\dG y.u C.aq (y.u C.aq+1) m<=_
    grind [dG]⟩ (λ_=>⟨_,Hn _,by show _<=dG y.u C.aq (y.u C.aq+1) C.aq;grind [dG],rfl⟩) a4
theorem ASC {t:dx}(k:CW B g h s a N sh l i y mp O cb z x C)(m:C.aq<256)(n:y.f C.aq<=2147483647)(o:y.u C.aq+1<16777216)(p:N+1<=1000000)(q:64*a<=B.C)(r:C.ar.length<1000)
  (u: ∀b e f c d,CW B g b s a (N+1) sh l i c mp O cb e f (ET C ⟨t.kind,t.ref,t.turn⟩ (-1) d)->y.dz c->qy y c C (ET C ⟨t.kind,t.ref,t.turn⟩ (-1) d) d->Mod (bz g O) h b->R (J1 #[]) b):AA A P JZ #[Ar cb,t.v] h R:=by
 refine Ta ?_;unfold NP;refine ao.mk λG _ v j H=>jk.mk t (Dn v rfl) (ux (k.on j) m n o p q r (by decide) λb e f c d w D E F=>⟨rfl,u b e f c d w D E (j.mod.trans F)⟩)
theorem uy {t:dx}{tick:Int}(k:CW B g h s a N sh l i y mp O cb z x C)(m:C.aq<256)(n:y.f C.aq<=2147483647)(o:y.u C.aq+1<16777216)(p:N+1<=1000000)(q:64*a<=B.C)(r:C.ar.length<1000)(G:tick<9223372036854775808)
  (u: ∀b e f c d,CW B g b s a (N+1) sh l i c mp O cb e f (ET C ⟨t.kind,t.ref,t.turn⟩ (if(0:Int)>tick then 0 else tick) d)->y.dz c->qy y c C (ET C ⟨t.kind,t.ref,t.turn⟩ (if(0:Int)>tick then 0 else tick) d) d->Mod (bz g O) h b->R (J1 #[]) b):AA A P IW #[Ar cb,t.v,J6 J9 tick] h R:=by
 refine WG ?_;unfold PH;refine ao.mk λH _ v j I=>jk.mk t (Dn v rfl) (ux (k.on j) m n o p q r (by split<;>omega) λb e f c d w D E F=>⟨rfl,u b e f c d w D E (j.mod.trans F)⟩)
theorem AOC {key val:A2M}(b:CW B g h s a N sh l i y mp O cb z x C)(k:C.conds.length<1000)(m:C.ar.length<1000)
  (n: ∀d o x',CW B g d s a N sh l i y mp O cb o x' (oQ C key val)->Mod (bz g O) h d->R (J1 #[]) d):AA A P JR #[Ar cb,J7 key,J7 val] h R:=by
 refine TY ?_;unfold Ms;dsimp only[At];refine Aa.mk (s:=x.conds) (CJ b.bG.ag rfl) ?_;refine b.bG.iD (p:=⟨key,⟨#[]⟩,true⟩) b.ig k λF e G q f r=>?_
 have c:=b.step (x':= {x with conds:=e}) f r rfl q;refine Aa.mk (s:=x.ar) (CJ c.bG.ag rfl) ?_;refine c.bG.fQ (p:=⟨key,val,false⟩) c.ig m λt u v w j D=>?_
 have E:=c.step (x':= {x with conds:=e,ar:=u}) j D rfl w;exact n t v _ E ((b.frame f).trans (c.frame j))
theorem ARW(r:CW B g h s a N sh l i y mp O cb z x C)(I:0<=C.st.next/\C.st.next<=501)
  (t: ∀n,Ext h n->R (⟨0,(Di C).1,(Di C).2,⟨0,⟨#[]⟩,0,0⟩,⟨#[]⟩,⟨none,0,0⟩⟩:bV).v n):AA A P HV #[Ar cb] h R:=by
 refine Qf ?_;unfold LD;refine ao.mk λo _ u p J=>?_
 have b:=(r.on p).bG;refine aD (AC.mk (Bz b.ag rfl) (ai.mk λK v=>?_));have q: ∀nx:Int,nx=(Di C).2->K (nx,()) o:=λnx w=>by
  subst w;refine v _ _ (aD (AC.mk (Bz b.ag rfl) (aL.mk u (A0 9) λD E F L=>?_)));refine GR.mk ⟨0,C.st.status,(Di C).2,⟨0,⟨#[]⟩,0,0⟩,⟨#[]⟩,⟨none,0,0⟩⟩ (Dn E rfl) ?_;exact t D (p.more F λc M=>by omega)
 refine ai.mk λG H=>?_
 have key: ∀d:Bool,d=Dp C->G (d,()) o:=λd Q=>by
  refine H _ _ (af.intro (λe=>?_) (λe=>?_))
  ·have e:d=true:=e;rw[wrap_i64 (by omega) (by omega)];refine q _ ?_
   simp_all [Di,if_pos]
  ·have e:d=false:=e;refine q _ ?_
   simp_all [Di,if_neg]
 have S:=b.more.len;unfold Dp at key;refine aD (Aa.mk (s:=x.more) (CJ b.ag rfl) (af.intro (λf=>?_) (λf=>?_)));rotate_left
 ·have f:C.more= []:=by simp_all
  exact key _ (by simp[f])
 have f:C.more≠ []:=λh=>by grind
 refine aD (AC.mk (Bz b.ag rfl) (af.intro (λj=>?_) (λj=>key _ (by simp at j;simp[j]))));refine aD (AZ.mk (Bz b.ag rfl) (af.intro (λk=>?_) (λk=>key _ (by grind))));have k:C.st.fresh=true:=k;refine aD (AC.mk (Bz b.ag rfl) (af.intro (λm=>?_) (λm=>key _ (by simp at m;simp[m]))));refine aD (AC.mk (Bz b.ag rfl) (key _ ?_))
 grind
end
def Qm:Ev:=⟨0,2,0,0,0,0,false,⟨#[]⟩⟩
def EZ(C:bA)(b:Nat):bA:=if Dp C then ET (EF C Qm) ⟨1,Wo (EF C Qm),0⟩ (-1) b else C
def kT(C:bA):Int:=if(0:Int)>C.now+20 then 0 else C.now+20
def BF(C:bA)(b c:Nat):bA:=if C.more≠ []/\(EZ C b).st.status≠0 then ET (EZ C b) ⟨7,0,0⟩ (kT C) c else EZ C b
end Go.Lf.G
namespace Go.Lf
open G
open Go
open M (Sorted Ad Bu Ay Ae Am BL Ag bo A9 aM A8)
structure bA.grown (C D:bA) (n k j:Nat):Prop where
 wid:D.wid=C.wid
 aq:D.aq=C.aq
 cE:D.cE=C.cE
 cj:D.cj=C.cj
 kept:D.kept=C.kept
 conds:D.conds=C.conds
 now:D.now=C.now
 more:D.more.length<=C.more.length+k
 none:C.more≠ []->D.more≠ []
 ar:D.ar.length<=C.ar.length+j
 ok: ∀e∈D.more,Dl e=true/\e.data.size<1099511627776
 st:Ea D.st n
end Go.Lf
namespace Go.Lf.G
open Go
open M (Sorted Ad Bu Ay Ae Am BL Ag bo A9 aM A8)
theorem Ha(C:bA)(t:gA)(tick:Int)(b:Nat):(ET C t tick b).st=C.st/\(ET C t tick b).more=C.more:=by
 unfold ET;split
 ·exact⟨rfl,rfl⟩
 ·split<;>exact⟨rfl,rfl⟩
theorem XZ {C b:bA}{r u v:Nat}(G:C.grown b r u v)(t:gA)(tick:Int)(w:Nat):C.grown (ET b t tick w) r u (v+1):=by
 obtain⟨c,d,e,f,j,k,m,n,o,D,p,q⟩:=G;unfold ET;split
 ·exact⟨c,d,e,f,j,k,m,n,o,by omega,p,q⟩
 ·split
  ·exact⟨c,d,e,f,j,k,m,n,o,by show b.ar.length<=_;omega,p,q⟩
  ·exact⟨c,d,e,f,j,k,m,n,o,by show(b.ar++ [_]).length<=_;rw[A1,Ds];omega,p,q⟩
theorem XU {C:bA}{b:Nat}(ok: ∀c∈C.more,Dl c=true/\c.data.size<1099511627776)(d:Ea C.st b):C.grown C b 0 0:=⟨rfl,rfl,rfl,rfl,rfl,rfl,rfl,A0 _,id,A0 _,ok,d⟩
end Go.Lf.G
namespace Go.Lf
open G
open Go
open M (Sorted Ad Bu Ay Ae Am BL Ag bo A9 aM A8)
theorem Ea.up {s:bg}{c m:Nat}(b:Ea s c)(h:c<=m):Ea s m:=⟨by have:=b.au;omega,by have:=b.ak;omega,b.steps,b.az,b.bd,b.next,b.st,b.waits⟩
end Go.Lf
namespace Go.Lf.G
open Go
open M (Sorted Ad Bu Ay Ae Am BL Ag bo A9 aM A8)
theorem MU {C b:bA}{v w D:Nat}(G:C.grown b v w D){e:Ev}(hd:e.data.size<1099511627776):C.grown (EF b e) (v+1) (w+1) D:=by
 obtain⟨c,d,f,j,k,m,n,E,t,o,p,q⟩:=G;unfold EF;split
 ·exact⟨c,d,f,j,k,m,n,by omega,t,o,p,q.up (BY _)⟩
 ·split
  ·exact⟨c,d,f,j,k,m,n,by show b.more.length<=_;omega,t,o,p,q.up (BY _)⟩
  ·split
   ·exact⟨c,d,f,j,k,m,n,by show b.more.length<=_;omega,t,o,p,q.up (BY _)⟩
   ·rename_i r;have r:(Bh b.st (Cc b e)).1=0:=by simpa using r
    refine⟨c,d,f,j,k,m,n,by show(b.more++ [_]).length<=_;rw[A1,Ds];omega,λ_=>by show b.more++ [_]≠ [];simp,o,λx u=>?_,UO q r⟩;have u:x∈b.more++ [Cc b e]:=u;rcases List.mem_append.1 u with h|h
    ·exact p x h
    ·rw[List.mem_singleton.1 h];exact⟨Qx r,hd⟩
structure Hs.dS (y y':Hs):Prop where
 p:y'.p=y.p
 name:y'.name=y.name
 f:y'.f=y.f
 u: ∀m,y.u m<=y'.u m/\y'.u m<=y.u m+2
section
variable {A : al} {B : cu} {g h : aa} {s a N sh cb : Nat} {l : List Hs} {mp : List Pr} {O : Nat -> Prop} {i : Nat} {y : Hs} {z : Nat -> Nat} {x : eI} {C : bA} {R : A2L}
theorem Fx.ptr {p:Nat}(b:Fx h cb z x C)(c:x.hp=p):ah h (⟨cb,0,none⟩:Q6)=some (Ar p):=by have:=CJ (j:=0) b.ag rfl;rw[add_zero,c] at this;exact this
theorem Fx.sN(b:Fx h cb z x C):Cells h (((⟨cb,0,none⟩:Q6).add 1).add 2) (⟨C.cE,C.cj,C.kept⟩:cQ).l:=by have c:((⟨cb,0,none⟩:Q6).add 1).add 2=⟨cb,3,none⟩:=rfl;rw[c];exact Dn b.ag rfl
end
end Go.Lf.G
namespace Go.Lf
open G
open Go
open M (Sorted Ad Bu Ay Ae Am BL Ag bo A9 aM A8)
theorem Cells.nj {h:aa}{a:Q6}{t:cQ}(c:Cells h a t.l):ah h a=some (J6 J9 t.status)/\ah h (a.add 1)=some (J6 J9 t.next)/\ah h (a.add 2)=some (J3 t.kept):=by have b:=c 0 _ rfl;rw[add_zero] at b;exact⟨b,c 1 _ rfl,c 2 _ rfl⟩
end Go.Lf
namespace Go.Lf.G
open Go
open M (Sorted Ad Bu Ay Ae Am BL Ag bo A9 aM A8)
section
variable {A : al} {B : cu} {g h : aa} {s a N sh cb : Nat} {l : List Hs} {mp : List Pr} {O : Nat -> Prop} {i : Nat} {y : Hs} {z : Nat -> Nat} {x : eI} {C : bA} {R : A2L}
theorem ARb {o:aa}{d:bA}(E:cy g)(k:CW B g o s a N sh l i y mp O cb z x d)(aX:Ak d.wid=true)(bF: ∀u∈d.more,Dl u=true/\u.data.size<1099511627776)(bG:d.aq<256)(bH:y.f d.aq<=2147483647)(hA:4+3*a<=B.A)(bI:64*a+64<=B.C)(bJ:a+1<=1000000)
  (c6:d.more.length<=900) (c7:d.ar.length<=900) (c8:d.conds.length<=900) (bK: ∀p∈d.conds,p.key.size<=1099511627776) (c9:0<=d.cE/\d.cE<128) (aY:0<=d.cj/\d.cj<=501) (aZ:0<=d.st.status/\d.st.status<=4) (a0:0<=d.st.next/\d.st.next<=501)
  (bL:d.err≠0-> ∀e,LW B g e s a N sh (l.set i y) mp O->Mod (bz g O) o e->R (J6 J9 d.err) e)
  (bM:d.err=0->y.f d.aq=0-> ∀e,LW B g e s a N sh (l.set i y) mp O->Mod (bz g O) o e->R (J6 J9 170) e)
  (bN:d.err=0->y.f d.aq≠0->CG mp (F3 d.aq (y.f d.aq) y.name)=false-> ∀e,LW B g e s a N sh (l.set i (y.lost d.aq)) mp O->Mod (bz g O) o e->R (J6 J9 170) e)
  (bO:d.err=0->y.f d.aq≠0->CG mp (F3 d.aq (y.f d.aq) y.name)=true->dt mp (F3 d.aq (y.f d.aq) y.name::(d.conds++ [bD d])) (Er d++d.ar)≠0-> ∀e,LW B g e s a N sh (l.set i y) mp O->Mod (bz g O) o e->R (J6 J9 (dt mp (F3 d.aq (y.f d.aq) y.name::(d.conds++ [bD d])) (Er d++d.ar))) e)
  (bP:d.err=0->y.f d.aq≠0->CG mp (F3 d.aq (y.f d.aq) y.name)=true->dt mp (F3 d.aq (y.f d.aq) y.name::(d.conds++ [bD d])) (Er d++d.ar)=0-> ∀e,LW B g e s (a+1) N sh (l.set i y) (cq mp (Er d++d.ar)) O->Mod (bz g O) o e->R (J6 J9 0) e):
  At (some (⟨cb,0,none⟩:Q6)) λbQ=>
    AC J9 o (bQ.add 34) λbR=>
    af (bR != (0:Int)) (
     At (some (⟨cb,0,none⟩:Q6)) λbS=>
     AC J9 o (bS.add 34) λbT=>
     R (J6 J9 bT) o) (
     At (some (⟨cb,0,none⟩:Q6)) λbU=>
     AJ o (bU.add 1) λbV=>
     AA A P FU #[J7 bV] o λv1 aZ=> ∃a1:A2M,v1=J7 a1/\(
     ao aZ (J2 #[J7 (⟨#[]⟩:A2M),J7 (⟨#[]⟩:A2M),J3 false] AQ) λb a0=>
     ae a0 (⟨b,0,none⟩:Q6) (J7 a1) λbW=>
     ae bW ((⟨b,0,none⟩:Q6).add 1) (J7 (⟨#[]⟩:A2M)) λbX=>
     ae bX ((⟨b,0,none⟩:Q6).add 2) (J3 true) λJ=>
     ai (λ(da:Unit) v=>
       At (some (⟨cb,0,none⟩:Q6)) λbY=>
       AJ v (bY.add 1) λbZ=>
       At (some (⟨cb,0,none⟩:Q6)) λb0=>
       Aa v (b0.add 31) λaE=>
       AA A P Pp #[J7 bZ,J4 aE.p aE.len aE.cap] v λv2 w=> ∃D:Sl,∃aF:Int,v2=J1 #[J4 D.p D.len D.cap,J6 J9 aF]/\(
       af (aF != (0:Int)) (
        R (J6 J9 aF) w) (
        ai (λ(aG:Sl×Unit) q=>
          At (some (⟨cb,0,none⟩:Q6)) λad=>
          AY q ad λag=>
          At (some (⟨cb,0,none⟩:Q6)) λaj=>
          AC J9 q ((aj.add 1).add 1) λak=>
          At (some (⟨cb,0,none⟩:Q6)) λa2=>
          Aa q (a2.add 33) λK=>
          AJ q (⟨b,0,none⟩:Q6) λb1=>
          AJ q ((⟨b,0,none⟩:Q6).add 1) λb2=>
          AZ q ((⟨b,0,none⟩:Q6).add 2) λb3=>
          At (some (⟨cb,0,none⟩:Q6)) λaH=>
          Aa q (aH.add 32) λF=>
          ao q (J2 #[J7 b1,J7 b2,J3 b3] AQ) λb4 H=>
          And (ah H (aH.add 32)=some (J4 F.p F.len F.cap))<|
          And (ah H (a2.add 33)=some (J4 K.p K.len K.cap))<|
          And (ah H ((aj.add 1).add 1)=some (J6 J9 ak))<|
          And (ah H ad=some (J5 ag))<|
          BG A P (Builtin.append_ #[AR,AR] AR #[J4 K.p K.len K.cap,J4 (some (⟨b4,0,none⟩:Q6)) 1 1]) H λb5 I=> ∃L:Sl,b5=J4 L.p L.len L.cap/\(
          And (ah I (aH.add 32)=some (J4 F.p F.len F.cap))<|
          And (ah I ((aj.add 1).add 1)=some (J6 J9 ak))<|
          And (ah I ad=some (J5 ag))<|
          BG A P (Builtin.append_ #[AR,AR] AR #[J4 aG.1.p aG.1.len aG.1.cap,J4 F.p F.len F.cap]) I λb6 t=> ∃M:Sl,b6=J4 M.p M.len M.cap/\(
          And (ah t ((aj.add 1).add 1)=some (J6 J9 ak))<|
          And (ah t ad=some (J5 ag))<|
          AA A P Fg #[J5 ag,J6 J9 ak,J4 L.p L.len L.cap,J4 M.p M.len M.cap] t λb7 b8=> ∃a3:Int,b7=J6 J9 a3/\(
          R (J6 J9 a3) b8)))) λal=>
         At (some (⟨cb,0,none⟩:Q6)) λb9=>
         Aa w (b9.add 31) λca=>
         af (decide (((ca.len:Nat):Int)>(0:Int))) (
          At (some (⟨cb,0,none⟩:Q6)) λa4=>
          AC J9 w ((a4.add 19).add 2) λa5=>
          At (some (⟨cb,0,none⟩:Q6)) λa6=>
          AC J9 w ((a6.add 19).add 3) λa7=>
          ao w (J2 cQ.z.c IC) λV am=>
          And (ah am ((a6.add 19).add 3)=some (J6 J9 a7))<|
          And (ah am ((a4.add 19).add 2)=some (J6 J9 a5))<|
          aL am (⟨V,0,none⟩:Q6) (⟨a5,a7,false⟩:cQ).l λQ=>
          At (some (⟨cb,0,none⟩:Q6)) λcc=>
          AJ Q (cc.add 1) λcd=>
          Jz Q (⟨V,0,none⟩:Q6) λan=>
          AA A P FU #[J7 cd] Q λce ap=> ∃a8:A2M,ce=J7 a8/\(
          And (ah ap (⟨V,0,none⟩:Q6)=some (J6 J9 an.status)/\ah ap ((⟨V,0,none⟩:Q6).add 1)=some (J6 J9 an.next)/\ah ap ((⟨V,0,none⟩:Q6).add 2)=some (J3 an.kept))<|
          AA A P Dt #[an.v] ap λcf a9=> ∃ba:A2M,cf=J7 ba/\(
          ao a9 (J2 #[J7 a8,J7 ba,J3 false] AQ) λcg ch=>
          BG A P (Builtin.append_ #[AR,AR] AR #[J4 D.p D.len D.cap,J4 (some (⟨cg,0,none⟩:Q6)) 1 1]) ch λci aI=> ∃S:Sl,ci=J4 S.p S.len S.cap/\(
          al ((⟨S.p,S.len,S.cap⟩:Sl),()) aI)))) (
          al ((⟨D.p,D.len,D.cap⟩:Sl),()) w)))) λaq=>
      At (some (⟨cb,0,none⟩:Q6)) λcj=>
      AC J9 J (((cj.add 1).add 2).add 1) λck=>
      af (decide (ck>(0:Int))) (
       At (some (⟨cb,0,none⟩:Q6)) λcl=>
       AJ J (cl.add 1) λcm=>
       At (some (⟨cb,0,none⟩:Q6)) λar=>
       Jz J ((ar.add 1).add 2) λau=>
       AA A P FU #[J7 cm] J λcn av=> ∃bb:A2M,cn=J7 bb/\(
       And (ah av ((ar.add 1).add 2)=some (J6 J9 au.status)/\ah av (((ar.add 1).add 2).add 1)=some (J6 J9 au.next)/\ah av (((ar.add 1).add 2).add 2)=some (J3 au.kept))<|
       AA A P Dt #[au.v] av λco bc=> ∃bd:A2M,co=J7 bd/\(
       ae bc (⟨b,0,none⟩:Q6) (J7 bb) λbe=>
       ae be ((⟨b,0,none⟩:Q6).add 1) (J7 bd) λbf=>
       ae bf ((⟨b,0,none⟩:Q6).add 2) (J3 false) λaJ=>
       aq () aJ))) (
       aq () J))):=by
 have cp: ∀ {e:aa},CW B g e s a N sh l i y mp O cb z x d->LW B g e s a N sh (l.set i y) mp O:=λcr=>cr.w.less λc f=> .inl f
 refine aD (AC.mk (n:=d.err) (CJ k.bG.ag rfl) (af.intro (λr=>?_) (λr=>?_)))
 ·exact aD (AC.mk (n:=d.err) (CJ k.bG.ag rfl) (bL (by simpa using r) o (cp k) Mod.refl))
 have aw:d.err=0:=by simpa using r
 have db:=FB aX;refine aD (AJ.mk (n:=d.wid) (CJ k.bG.ag rfl) (R7 (by omega) ⟨_,rfl,?_⟩));refine ao.pair λb J dc bg aK dd=>?_
 have ax:=k.on aK;refine ai.mk λaq cs=>?_
 have bh: ∀v,Ext o v->v[b]? =some (J2 #[J7 (bD d).key,J7 (bD d).val,J3 (bD d).gone] AQ (0,0))->aq () v:=λv aM ct=>by
  have W:=k.on aM;refine cs _ _ (aD (AJ.mk (n:=d.wid) (CJ W.bG.ag rfl) (aD (Aa.mk (s:=x.more) (CJ W.bG.ag rfl) ?_))));refine AR8 aX W.bG.more.view (by omega) bF λps w aN aO ay=>⟨_,_,rfl,af.no rfl ?_⟩
  have T:=W.on ay;refine ai.mk λal cu=>?_
  have bi: ∀q (sl:Sl),Ext v q->Own BO AQ q sl (Er d)->(∀ c,sl.ag=some c->v.size<=c)->al (sl,()) q:=λq sl az aP X=>by
   have Y:=W.on az;have aQ:=az.ag ct λh=>h
   refine cu _ _ (aD (AY.mk (Y.bG.ptr k.hp) (aD (AC.mk (Bz Y.bG.ag rfl) (aD (Aa.mk (s:=x.conds) (CJ Y.bG.ag rfl) ?_))))));refine AJ.mk (AL aQ rfl) (AJ.mk (AB aQ rfl) (AZ.mk (AB aQ rfl) (aD (Aa.mk (s:=x.ar) (CJ Y.bG.ag rfl) (ao.mk λH _ cv Z de=>?_)))));have G:=Y.on Z;refine⟨CJ G.bG.ag rfl,CJ G.bG.ag rfl,Bz G.bG.ag rfl,G.bG.ptr k.hp,?_⟩;have src:View BO H ⟨some ⟨q.size,0,none⟩,1,1⟩ [bD d]:=(Own.lit (E:=BO) (l:= [bD d]) cv rfl (by simp[maxLen])).view;refine GJ (E:=BO) (s:=x.conds) (src:=⟨some ⟨q.size,0,none⟩,1,1⟩) Gc G.bG.conds src (by simp only[Ds];omega) (by simp only[Ds,maxLen];omega) λcw I cx ab cz _=>?_
   have bj: ∀c aR,z c=aR->aR≠4-> ¬x.conds.ag=some c:=λc aR bk aY u=>by rw[G.bG.zq c u] at bk;exact aY bk.symm
   have aA:=ab.ag G.bG.ag (bj cb 1 k.bG.zc (by decide));have cB:ah I (⟨cb,0,none⟩:Q6)=some (Ar y.p):=by have:=CJ (j:=0) aA rfl;rw[add_zero,k.hp] at this;exact this
   refine⟨CJ aA rfl,Bz aA rfl,cB,?_⟩;have cC:Own BO AQ I x.ar d.ar:=G.bG.ar.mod ab λc f=>bj c 3 (G.bG.zp c f) (by decide)
   have df:=aM.size;have dg:=az.size;have dh:=Z.size;have di:=ab.size;have cD:Own BO AQ I sl (Er d):=(aP.ext Z).mod ab λc f u=>by
    have:=k.ig c (by rw[k.bG.zq c u];decide);have:=X c f;omega
   have dj:(Er d).length<=901:=by unfold Er;rw[A1,AS];split<;>simp<;>omega
   refine GJ (E:=BO) (s:=sl) (src:=x.ar) Gc cD cC.view (by omega) (by simp only[maxLen];omega) λdk t bm aC cE _=>?_
   have cF: ∀c,sl.ag=some c-> ¬c=cb:=λc f u=>by
    have:=X c f;have:=k.ig cb (by rw[k.bG.zc];decide);omega
   have bn:=aC.ag aA (λf=>cF cb f rfl);have cG:ah t (⟨cb,0,none⟩:Q6)=some (Ar y.p):=by have:=CJ (j:=0) bn rfl;rw[add_zero,k.hp] at this;exact this
   refine⟨Bz bn rfl,cG,?_⟩;have cH:Ext o H:=(aM.trans az).trans Z;have bo:Mod (λc=>z c≠0) o t:=(cH.mod.trans (ab.aj λc _ f=>by rw[k.bG.zq c f];decide)).then (aC.aj λc _ f=> .inr (by have:=X c f;omega));have dl:=aC.size;have aS:LW B g t s a N sh (l.set i y) mp (λc=>(O c\/z c≠0)\/(o.size<=c/\c<t.size)):=k.w.own (bo.aj λc _ f=> .inr f) λc f=>f
   have aT:Mod (bz g O) o t:=k.frame bo;have less: ∀ {e:aa} {bp:Nat} {bq:List Hs} {br:List Pr},LW B g e s bp N sh bq br (λc=>(O c\/z c≠0)\/(o.size<=c/\c<t.size))->LW B g e s bp N sh bq br O:=λU=>U.less λc f=> .inl (.inl f)
   have bs: ∀ {e:aa},Mod (bz g (λc=>(O c\/z c≠0)\/(o.size<=c/\c<t.size))) t e->Mod (bz g O) o e:=λm=>aT.trans (m.aj λc _ f=>⟨f.1,λcI=>f.2 (.inl (.inl cI))⟩)
   have cJ:Own BO AQ t cw (d.conds++ [bD d]):=cx.mod aC λc f u=>by
    have:=X c u;rcases cz c f with h|h
    ·have:=k.ig c (by rw[k.bG.zq c h];decide);omega
    ·have:=(aP.ext Z).lt u;have:=aP.lt u;omega
   refine aS.change E k.at bG bH hA bI bJ cJ.view (by rw[A1,Ds];omega) bm.view (λ_ c f=>?_) (λp cK=>?_) (λcL=>?_) (λac cM e U aU=>?_) (λac aV hd e bt=>?_) λac aV cN e U aU=>?_
   ·have lt:=bm.lt f;rcases cE c f with h|h
    ·have:=X c h;exact .inr (.inr ⟨by omega,lt⟩)
    ·exact .inr (.inr ⟨by omega,lt⟩)
   ·rcases List.mem_append.1 cK with h|h
    ·exact bK p h
    ·rw[List.mem_singleton.1 h];unfold bD;have:=MV d.wid;split<;>(dsimp only;omega)
   ·exact⟨_,rfl,bM aw cL t (less aS) aT⟩
   ·rw[List.set_set] at U;exact⟨_,rfl,bN aw ac cM e (less U) (bs aU)⟩
   ·exact⟨_,rfl,bO aw ac aV hd e (less (aS.on bt)) (aT.trans bt.mod)⟩
   ·exact⟨_,rfl,bP aw ac aV cN e (less U) (bs aU)⟩
  have bu:=T.bG.more.len;refine aD (Aa.mk (s:=x.more) (CJ T.bG.ag rfl) (af.intro (λr=>?_) (λr=>?_)))
  ·have cO:d.more≠ []:=λh=>by rw[h] at bu;simp[bu] at r
   refine aD (AC.mk (Bz T.bG.ag rfl) (aD (AC.mk (Bz T.bG.ag rfl) (ao.mk λam _ cP bv dm=>?_))));have bw:=T.on bv;refine⟨Bz bw.bG.ag rfl,Bz bw.bG.ag rfl,aL.mk cP (A0 3) λQ cR cS dn=>?_⟩;have bx:Ext w Q:=bv.more cS λc f=>by subst f;exact A0 _
   have cT:=T.on bx;have bB:Cells Q (⟨w.size,0,none⟩:Q6) (⟨d.st.status,d.st.next,false⟩:cQ).l:=Dn cR rfl;refine aD (AJ.mk (n:=d.wid) (CJ cT.bG.ag rfl) (Jz.mk ⟨d.st.status,d.st.next,false⟩ bB (R7 (by omega) ⟨_,rfl,bB.nj,?_⟩)));refine nS (m:=⟨d.st.status,d.st.next,false⟩) (st:=d.st.status.toNat) (nx:=d.st.next.toNat) (by show d.st.status=_;omega) (by show d.st.next=_;omega) (by omega) (by omega) λa9 cU=>⟨_,rfl,?_⟩
   have aW:=bx.trans cU;refine ao.aZ (E:=BO) (x:=⟨Es d.wid,I1 d.st.status.toNat d.st.next.toNat false,false⟩) (s:=ps) rfl Gc (aN.ext aW) (by simp only[AS];omega) (by simp only[AS,maxLen];omega) λcV aI cW cX cY _=>?_
   refine bi aI cV ((ay.trans aW).more cX aO) ?_ λc f=>?_
   ·unfold Er;rw[if_neg cO];exact cW
   ·rcases cY c f with h|h
    ·exact aO c h
    ·have:=aW.size;have:=ay.size;omega
  ·have bC:d.more= []:=by simp at r;exact DA (by omega)
   refine bi w ps ay ?_ aO;unfold Er;rw[bC,if_pos rfl,AK];rw[bC] at aN;exact aN
 refine aD (AC.mk (ARa ax.bG.ag rfl) (af.intro (λr=>?_) (λr=>?_)))
 ·have r:0<d.cj:=by simpa using r
  refine aD (AJ.mk (n:=d.wid) (CJ ax.bG.ag rfl) (aD (Jz.mk ⟨d.cE,d.cj,d.kept⟩ ax.bG.sN (R7 (by omega) ⟨_,rfl,ax.bG.sN.nj,?_⟩))));refine nS (m:=⟨d.cE,d.cj,d.kept⟩) (st:=d.cE.toNat) (nx:=d.cj.toNat) (by show d.cE=_;omega) (by show d.cj=_;omega) (by omega) (by omega) λbc bE=>⟨_,rfl,?_⟩
  have cZ:=bE.ag bg λh=>h
  refine ae.bJ (j:=0) cZ (of_decide_eq_true rfl) rfl λbe c0 c1 dp=>ae.bJ (j:=1) c0 (of_decide_eq_true rfl) rfl λbf c2 c3 dq=>ae.bJ (j:=2) c2 (of_decide_eq_true rfl) rfl λaJ c4 c5 dr=>?_
  refine bh aJ ((aK.trans bE).more ((c1.trans c3).trans c5) λc f=>by subst f;omega) ?_;unfold bD;rw[if_pos r];exact c4
 ·have r: ¬0<d.cj:=by simpa using r
  refine bh J aK ?_;unfold bD;rw[if_neg r];exact bg
end
theorem YE {C:bA}{t:gA}{tick:Int}{c:Nat}(h:(ET C t tick c).err=0):C.err=0:=by
 unfold ET at h;split at h
 ·rename_i b;exact absurd h b
 ·rename_i b;simpa using b
theorem Vo {C:bA}{b c:Nat}(h:(BF C b c).err=0):(EZ C b).err=0:=by
 unfold BF at h;split at h
 ·exact YE h
 ·exact h
section
variable {A : al} {B : cu} {g h : aa} {s a N sh cb : Nat} {l : List Hs} {mp : List Pr} {O : Nat -> Prop} {i : Nat} {y : Hs} {z : Nat -> Nat} {x : eI} {C : bA} {R : A2L}
theorem uz {b:Nat}(ok: ∀e∈C.more,Dl e=true/\e.data.size<1099511627776)(d:Ea C.st b)(f:Nat):C.grown (EZ C f) (b+1) 1 1:=by
 have c:=XU ok d;unfold EZ;split
 ·exact XZ (MU c (e:=Qm) (by show 0<1099511627776;decide)) _ _ _
 ·obtain⟨j,k,m,n,o,p,q,v,r,w,t,u⟩:=c;exact⟨j,k,m,n,o,p,q,by omega,r,by omega,t,u.up (BY _)⟩
theorem uA {n:Nat}(ok: ∀b∈C.more,Dl b=true/\b.data.size<1099511627776)(e:Ea C.st n)(c f:Nat):C.grown (BF C c f) (n+1) 1 2:=by
 have d:=uz ok e c;unfold BF;split
 ·exact XZ d _ _ _
 ·obtain⟨j,k,m,o,p,q,r,t,u,D,v,w⟩:=d;exact⟨j,k,m,o,p,q,r,t,u,by omega,v,w⟩
theorem AN3 {aj:Nat}(au:cy g)(o:CW B g h s a N sh l i y mp O cb z x C)(V:Ea C.st aj)(a2:aj+1<=600)(L:Ak C.wid=true)(Z: ∀e∈C.more,Dl e=true/\e.data.size<1099511627776)(ab:C.aq<256)(r:y.f C.aq<=2147483647)(a3:y.u C.aq+2<16777216)(ac:N+2<=1000000)
  (hA:4+3*a<=B.A) (av:64*a+64<=B.C) (aw:a+1<=1000000) (a4:C.more.length<=800) (a5:C.ar.length<=800) (a6:C.conds.length<=800) (ax: ∀p∈C.conds,p.key.size<=1099511627776) (ay:0<=C.cE/\C.cE<128) (ak:0<=C.cj/\C.cj<=501) (a7: -4611686018427387904<=C.now/\C.now<=4611686018427387904)
  (az:y.f C.aq=0->R (J6 J9 170) h)
  (aA: ∀b c d j,y.dS d->(BF C b c).err≠0->LW B g j s a (N+2) sh (l.set i d) mp O->Mod (bz g O) h j->R (J6 J9 (BF C b c).err) j)
  (aC: ∀b c d j,y.dS d->(BF C b c).err=0->CG mp (F3 C.aq (y.f C.aq) y.name)=false->LW B g j s a (N+2) sh (l.set i (d.lost C.aq)) mp O->Mod (bz g O) h j->R (J6 J9 170) j)
  (aE: ∀b c d j,y.dS d->(BF C b c).err=0->CG mp (F3 C.aq (y.f C.aq) y.name)=true->dt mp (F3 C.aq (y.f C.aq) y.name::(C.conds++ [bD C])) (Er (BF C b c)++(BF C b c).ar)≠0->LW B g j s a (N+2) sh (l.set i d) mp O->Mod (bz g O) h j->R (J6 J9 (dt mp (F3 C.aq (y.f C.aq) y.name::(C.conds++ [bD C])) (Er (BF C b c)++(BF C b c).ar))) j)
  (aF: ∀b c d j,y.dS d->(Dp C=true->y.f C.aq≠0->dW y d C.aq b)->(BF C b c).err=0->CG mp (F3 C.aq (y.f C.aq) y.name)=true->dt mp (F3 C.aq (y.f C.aq) y.name::(C.conds++ [bD C])) (Er (BF C b c)++(BF C b c).ar)=0->LW B g j s (a+1) (N+2) sh (l.set i d) (cq mp (Er (BF C b c)++(BF C b c).ar)) O->Mod (bz g O) h j->R (J6 J9 0) j):
  AA A P IL #[Ar cb] h R:=by
 refine RZ ?_;unfold LK;have M:64*a<=B.C:=by omega
 refine aD (AY.mk (o.bG.ptr o.hp) (aD (AC.mk (Bz o.bG.ag rfl) (o.w.holds o.at ⟨_,rfl,af.intro (λf=>az (by simpa using f)) λf=>?_⟩))));have aG:y.f C.aq≠0:=by simpa using f
 refine ai.mk λK aH=>?_
 have ad: ∀(q:aa) (H:Nat->Nat) (I:eI) (d:Hs) (b c:Nat),CW B g q s a (N+2) sh l i d mp O cb H I (BF C b c)->y.dS d->((BF C b c).err=0->Dp C=true->y.f C.aq≠0->dW y d C.aq b)->Mod (bz g O) h q->K () q:=λq H I d b c J k W D=>by
  have G:=uA Z V b c;have ae:d.f (BF C b c).aq=y.f C.aq:=by rw[k.f,G.aq]
  have ag:F3 (BF C b c).aq (d.f (BF C b c).aq) d.name=F3 C.aq (y.f C.aq) y.name:=by rw[ae,G.aq,k.name]
  have al:bD (BF C b c)=bD C:=by unfold bD;rw[G.cj,G.cE,G.kept,G.wid]
  refine aH _ _ (ARb au J (by rw[G.wid];exact L) G.ok (by rw[G.aq];exact ab) (by rw[ae];exact r) hA av aw (by have:=G.more;omega) (by have:=G.ar;omega) (by rw[G.conds];omega) (by rw[G.conds];exact ax) (by rw[G.cE];exact ay) (by rw[G.cj];exact ak) G.st.st G.st.next
   (λn j u E=>aA b c d j k n u (D.trans E)) (λ_ aI=>absurd (by rw[<- ae];exact aI) aG) (λn _ w j u E=>?_) (λn _ w hd j u E=>?_) λn _ w hd j u E=>?_)
  ·rw[ag] at w;rw[G.aq] at u;exact aC b c d j k n w u (D.trans E)
  ·rw[ag] at w hd ⊢;rw[al,G.conds] at hd ⊢;exact aE b c d j k n w hd u (D.trans E)
  ·rw[ag] at w hd;rw[al,G.conds] at hd;exact aF b c d j k (W n) n w hd u (D.trans E)
 have am:=o.bG.more.len;have aJ:y.dS y:=⟨rfl,rfl,rfl,λm=>by omega⟩;refine aD (Aa.mk (s:=x.more) (CJ o.bG.ag rfl) (af.intro (λf=>?_) (λf=>?_)));rotate_left
 ·have f:C.more= []:=by simp at f;exact DA (by omega)
  have aK:Dp C=false:=by unfold Dp;rw[f];rfl
  refine ad h z x y 0 0 ?_ aJ (λ_ h=>by rw[aK] at h;cases h) Mod.refl;have aL:EZ C 0=C:=by unfold EZ Dp;rw[f];rfl
  have:BF C 0 0=C:=by unfold BF;rw[aL,if_neg λh=>h.1 f]
  rw[this];exact o.put (by omega) ac M
 have an:C.more≠ []:=λh=>by rw[h] at am;simp[am] at f
 refine ai.mk λaM aN=>?_
 have ao: ∀(q:aa) (H:Nat->Nat) (I:eI) (d:Hs) (b:Nat),CW B g q s a (N+1) sh l i d mp O cb H I (EZ C b)->y.dz d->((EZ C b).err=0->Dp C=true->y.f C.aq≠0->dW y d C.aq b)->Mod (bz g O) h q->aM () q:=λq H I d b J k W D=>by
  have G:=uz Z V b;refine aN _ _ (aD (AC.mk (Bz J.bG.ag rfl) (af.intro (λf=>?_) (λf=>?_))))
  ·have f:(EZ C b).st.status≠0:=by simpa using f
   refine aD (AC.mk (CJ J.bG.ag rfl) ?_);rw[G.now,wrap_i64 (by omega) (by omega)];refine uy (t:=⟨7,⟨#[]⟩,0,0⟩) J (by rw[G.aq];exact ab) (by rw[k.f,G.aq];exact r) (by rw[G.aq];have:=k.u C.aq;omega) ac M (by have:=G.ar;omega) (by omega) λj ap aq aO c X Q a8 aP=>⟨rfl,?_⟩
   refine ad j ap aq aO b c ?_ ⟨Q.p.trans k.p,Q.name.trans k.name,Q.f.trans k.f,λm=>by have:=k.u m;have:=Q.u m;omega⟩ (λn L r=>by
    obtain⟨v,v1,v2,aQ⟩:=W (Vo n) L r;exact⟨v,v1,by have:=Q.u C.aq;omega,aQ⟩) (D.trans aP)
   have e:BF C b c=ET (EZ C b) ⟨7,0,0⟩ (kT C) c:=by unfold BF;rw[if_pos ⟨an,f⟩]
   rw[e];exact X
  ·have f:(EZ C b).st.status=0:=by simpa using f
   refine ad q H I d b 0 ?_ ⟨k.p,k.name,k.f,λm=>by have:=k.u m;omega⟩ (λn L r=>W (Vo n) L r) D;have e:BF C b 0=EZ C b:=by unfold BF;rw[if_neg λh=>h.2 f]
   rw[e];exact J.put (by omega) ac M
 refine ai.mk λaR aS=>?_
 have S: ∀ah:Bool,ah=Dp C->aR (ah,()) h:=λah ar=>by
  refine aS _ _ (af.intro (λf=>?_) (λf=>?_))
  ·have f:Dp C=true:=by rw[<- ar];exact f
   refine mo (e:=Qm) o V (by omega) (by show 0<1099511627776;decide) (by omega) λak ap aq X aT=>⟨rfl,?_⟩
   have G:=MU (XU Z V) (e:=Qm) (by show 0<1099511627776;decide);have nx:=G.st.next;refine AQk X G.st.next ⟨_,rfl,?_⟩;refine ASC (t:=⟨1,⟨#[]⟩,Wo (EF C Qm),0⟩) X (by rw[G.aq];exact ab) (by rw[G.aq];exact r) (by rw[G.aq];omega) (by omega) M (by have:=G.ar;omega) λaU aV aW aX b aY aZ a0 a1=>⟨rfl,?_⟩
   have e:EZ C b=ET (EF C Qm) ⟨1,Wo (EF C Qm),0⟩ (-1) b:=by unfold EZ;rw[if_pos f]
   refine ao aU aV aW aX b ?_ aZ (λn _ r=>by rw[e] at n;have:=a0 n;rw[G.aq] at this;exact this r) (aT.trans a1);rw[e];exact aY
  ·have f:Dp C=false:=by rw[<- ar];exact f
   refine ao h z x y 0 ?_ (Hs.dz.refl y) (λ_ h=>by rw[f] at h;cases h) Mod.refl;have e:EZ C 0=C:=by unfold EZ;rw[if_neg (by simp[f])]
   rw[e];exact o.put (by omega) (by omega) M
 have Y:=o.bG;unfold Dp at S;refine aD (AC.mk (Bz Y.ag rfl) (af.intro (λT=>?_) (λT=>S _ (by simp at T;simp[T]))));refine aD (AZ.mk (Bz Y.ag rfl) (af.intro (λF=>?_) (λF=>S _ (by have F:C.st.fresh=false:=F;simp[F]))));have F:C.st.fresh=true:=F;refine aD (AC.mk (Bz Y.ag rfl) (af.intro (λU=>?_) (λU=>S _ (by simp at U;simp[U]))));refine aD (AC.mk (Bz Y.ag rfl) (S _ ?_));simp at T U;simp[an,T,F,U];rfl
end
abbrev Xb:Sl:=⟨none,0,0⟩
def nM(wid:A2M)(b:Nat):Option (List Ev)->bX×Int
 |none=>(⟨wid,b,⟨0,0,false⟩,Xb,bF.z⟩,180)
 |some l=>(⟨wid,b,⟨(Ai l).status,(Ai l).next,false⟩,Xb,bF.z⟩,0)
def fw(b st nx:Int):bV:=⟨b,st,nx,⟨0,⟨#[]⟩,0,0⟩,⟨#[]⟩,Xb⟩
theorem XP(x y:bX):gB y.c 0 x.l=x.c:=rfl
theorem QU(x y:bV):gB y.c 0 x.l=x.c:=rfl
theorem X6 {h:aa}{b:Nat}{T:Q7}{fr:Nat×Nat}{x:bX}(c:h[b]? =some (J2 x.c T fr)):Cells h ⟨b,0,none⟩ x.l:=Dn c rfl
theorem UG {h:aa}{b:Nat}{T:Q7}{fr:Nat×Nat}{x:bV}(c:h[b]? =some (J2 x.c T fr)):Cells h ⟨b,0,none⟩ x.l:=Dn c rfl
theorem kL {h:aa}{b:Nat}{T:Q7}{x y:bX}{K:bX->aa->Prop}(f:h[b]? =some (J2 y.c T (0,0)))(j: ∀c,Mod (· =b) h c->K x c):
  aL h ⟨b,0,none⟩ x.l λd=>I7 d ⟨b,0,none⟩ λk=>K k d:=
 aL.mk f (A0 18) λc e m s=>I7.mk x (X6 (by rw[XP] at e;exact e)) (j c m)
theorem kN {h:aa}{b:Nat}{T:Q7}{x y:bV}{K:bV->aa->Prop}(f:h[b]? =some (J2 y.c T (0,0)))(j: ∀c,Mod (· =b) h c->K x c):
  aL h ⟨b,0,none⟩ x.l λd=>GR d ⟨b,0,none⟩ λk=>K k d:=
 aL.mk f (A0 9) λc e m s=>GR.mk x (UG (by rw[QU] at e;exact e)) (j c m)
theorem OZ {b:Ev}(h:Dl b=true):b.data.size<=2000:=by
 obtain⟨t,u,v,f,j⟩:=R5 h;by_cases k:b.kind=1
 ·obtain⟨p,m,ok⟩:=f k;have:=(wG m).2;have e:=congrArg List.length this;rw[BB] at e;rw[<- e];simp only[GL,A3,decide_eq_true_eq] at ok;obtain⟨⟨w,o⟩,q⟩:=ok;have x:=Bd.1 o;have:=Pq q;have z:=AV (n:=p.az.toNat) (by omega);have C:=AV (n:=p.steps.length) (by omega);unfold Cq;simp only[A1];omega
 ·by_cases r:b.kind=12
  ·have:=FB (j r);omega
  ·have d:=GY h;unfold En at d;simp only[A3,DG,decide_eq_true_eq] at d;rcases d.2 with c|c
   ·rw[c];decide
   ·unfold dP at c;simp at c;omega
section
variable {A : al} {B : cu} {g h : aa} {s a N sh : Nat} {l : List Hs} {mp : List Pr} {O : Nat -> Prop} {i : Nat} {y : Hs} {fl : cK} {an : cO} {R : A2L}
theorem LW.get {key:A2M}(c:LW B g h s a N sh l mp O)(d:key.size<=1099511627776)(e: ∀b,Ext h b->R (J1 #[J7 (IQ mp key).1,J3 (IQ mp key).2,J6 J9 0]) b):AA A P Fh #[Ar s,J7 key] h R:=by obtain⟨j,k,st,m,n,nn,f,o,rfl,p,q,out⟩:=c;exact sC f d e
theorem LW.scan {p f:A2M}{d:Int}(e:LW B g h s a N sh l mp O)(j:p.size<=1099511627776)(k: ∀sl b,Own BO AQ b sl (jn mp p f d)->(∀ c,sl.ag=some c->h.size<=c)->Ext h b->R (J1 #[J4 sl.p sl.len sl.cap,J6 J9 0]) b):AA A P ER #[Ar s,J7 p,J7 f,J6 J9 d] h R:=by obtain⟨o,q,st,m,r,nn,n,t,rfl,u,v,out⟩:=e;exact AOz n j k
theorem LW.dR(d:LW B g h s a N sh l mp O)(b:l[i]? =some y):h[y.p]? =some (J2 #[Ar s,J7 y.name,J6 J9 (sh:Int),.map (some y.bh),.map (some y.bu)] SA (0,0))/\1<=sh/\sh<=16:=by obtain⟨e,f,st,m,j,nn,k,n,o,c,p,out⟩:=d;exact⟨(c.host i y b).cell,(c.host i y b).sh⟩
theorem LW.store(b:LW B g h s a N sh l mp O)(c:l[i]? =some y)(d:R (Ar s) h):AA A P Ez #[Ar y.p] h R:=by refine Vy ?_;unfold Pb;exact af.no rfl (aD (AY.mk (AL (b.dR c).1 rfl) d))
theorem LW.aF(b:LW B g h s a N sh l mp O)(c:l[i]? =some y)(d:R (J6 J9 (sh:Int)) h):AA A P G5 #[Ar y.p] h R:=by refine VF ?_;unfold Ns;exact af.no rfl (aD (AC.mk (AB (b.dR c).1 rfl) d))
theorem KS.eZ(b:KS mp fl an){wid:A2M}(c:Ak wid=true):IQ mp (Es wid)=match fl wid with|none=>(⟨#[]⟩,false)|some l=>(I1 (Ai l).status.toNat (Ai l).next.toNat false,true):=by unfold IQ;rw[b.eY wid c];cases fl wid<;>rfl
theorem KS.fP(c:KS mp fl an){b:A2M}(d:Ak b=true):IQ mp (JO b)=match an b with|none=>(⟨#[]⟩,false)|some x=>(iT x.1 x.2.1.toNat x.2.2.toNat,true):=by unfold IQ;rw[c.kD b d];cases an b<;>rfl
theorem tG {wid:A2M}(v:LW B g h s a N sh l mp O)(o:l[i]? =some y)(w:KS mp fl an)
  (G:Ak wid=false-> ∀f,Ext h f->R (J1 #[bX.z.v,J6 J9 1]) f)
  (H:Ak wid=true-> ∀f,Ext h f->R (J1 #[(nM wid (BA wid sh) (fl wid)).1.v,J6 J9 (nM wid (BA wid sh) (fl wid)).2]) f):
  AA A P KR #[Ar y.p,J7 wid] h R:=by
 obtain⟨-,I,J⟩:=v.dR o;refine Tu ?_;unfold QK;refine ao.mk λL _ z p Z=>ai.mk λK M=>af.no rfl (Eg ⟨_,rfl,M _ _ ?_⟩)
 cases m:Ak wid with
 |false=>exact af.yes rfl (kL z λb Q=>G m b (p.more Q λc j=>by subst j;exact A0 _))
 |true=>
  have ab:=FB m;have q:=v.on p;have C: ∀ {b d:aa} {x:bX} {r:Int},Ext L b->Mod (· =h.size) b d->(x,r)=nM wid (BA wid sh) (fl wid)->R (J1 #[x.v,J6 J9 r]) d:=λ{b d x r} k t S=>by
   have:=H m d ((p.trans k).more t λc j=>by subst j;exact A0 _);rw[<- S] at this;exact this
  refine af.no rfl (q.aF o ⟨_,rfl,Sq (by omega) I J ⟨_,_,rfl,af.no rfl (q.store o ⟨_,rfl,R7 (by omega) ⟨_,rfl,?_⟩⟩)⟩⟩);refine q.get (by rw[MV];omega) λb k=>?_
  rw[w.eZ m];have D:=k.ag z λh=>h
  cases u:fl wid with
  |none=>
   refine⟨_,_,_,rfl,af.no rfl (af.yes rfl (kL D λd t=>?_))⟩;exact C k t (by rw[u];rfl)
  |some e=>
   have n:=w.cV wid e u;have nx:=n.next.1;have ac:=n.len;have st:=n.st;have ad:1<=e.length:=List.length_pos_iff.2 n.ne;refine⟨_,_,_,rfl,af.no rfl (af.no rfl (ug (by omega) (by omega) (by omega) λd E=>mN.mk _ ⟨_,rfl,?_⟩))⟩;refine ao.mk λae _ T U ag=>aL.mk T (A0 3) λV W X ah=>?_
   have F:Ext b V:=(E.trans U).more X λc j=>by subst j;exact E.size
   refine Jz.mk _ (Dn W rfl) (kL (F.ag D λh=>h) λaj Y=>?_);refine C (k.trans F) Y ?_;rw[u];unfold nM;rw[show(((Ai e).status.toNat:Nat):Int)=(Ai e).status from by omega,show(((Ai e).next.toNat:Nat):Int)=(Ai e).next from by omega]
theorem AIU {e:A2M}(M:LW B g h s a N sh l mp O)(Q:l[i]? =some y)(z:KS mp fl an)(C:Ak e=true)
  (D: ∀E,Ext h E->R (match an e with|none=>J1 #[J7 ⟨#[]⟩,bV.z.v,J3 false,J6 J9 0]|some x=>J1 #[J7 (AX x.1),(fw 0 x.2.1 x.2.2).v,J3 true,J6 J9 0]) E):AA A P Ll #[Ar y.p,J7 e] h R:=by
 have ag:=FB C;refine XV ?_;unfold P8;refine ao.mk λah _ S f aj=>?_
 have F:=M.on f;refine F.store Q ⟨_,rfl,uf (by omega) ⟨_,rfl,F.get (by rw[Vl];omega) λj k=>?_⟩⟩;rw[z.fP C];have m:=k.ag S λh=>h
 cases o:an e with
 |none=>
  refine⟨_,_,_,rfl,ai.mk λK p=>af.no rfl (p _ _ (af.yes rfl (kN m λG T=>?_)))⟩;have:=D G ((f.trans k).more T λc d=>by subst d;exact A0 _);rw[o] at this;exact this
 |some x=>
  obtain⟨⟨ak,al⟩,⟨am,ap⟩,aq⟩:=z.kF e x o;refine⟨_,_,_,rfl,ai.mk λK p=>af.no rfl (p _ _ (af.no rfl ?_))⟩;unfold iT;have ar:=G6 (n:=x.2.1.toNat) (by omega);have au:=G6 (n:=x.2.2.toNat) (by omega);have av:=AV (n:=x.1.length) (by omega);have aw:(BI x.1).length<=2010:=by unfold BI;rw[A1];omega
  refine KP λG H q=>⟨_,rfl,Hm H (by simp only[A1];omega) λax U r=>⟨_,rfl,?_⟩⟩
  rw[Ij (by omega)] at*
  refine De (most:=4) U (by simp only[A1];omega) (by decide) λay V t=>⟨_,rfl,?_⟩
  rw[Co (by omega) (by omega)] at*
  have W:CE 501 ⟨Bb x.2.2.toNat,false⟩=(x.2.2.toNat,⟨[],false⟩):=by have:=Co (n:=x.2.2.toNat) (most:=501) (by omega) (by omega) [];rwa [AK] at this
  refine De (most:=501) V (by simp only;omega) (by decide) λX Y u=>⟨_,rfl,?_⟩
  rw[W] at*
  refine ao.mk λaz _ Z v aA=>aL.mk Z (A0 9) λI J w aC=>?_
  have aD:=q.size;have aE:=r.size;have aF:=t.size;have aG:=u.size;have aH:=Aj m;have aa:Ir I j.size ⟨[],false⟩:=w.ag (v.ag Y λh=>h) (by have:=Aj H;omega);refine Mg aa ⟨_,rfl,af.no rfl ?_⟩;rw[QU] at J;have ab:=w.ag (v.ag (u.ag (t.ag (r.ag (q.ag m λh=>h) (by omega)) (by omega)) (by omega)) λh=>h) (b:=h.size) (by omega);refine GR.mk _ (UG J) (kN ab λac ad=>?_);have L:Ext j X:=q.more ((r.trans t).trans u) λc d=>by subst d;exact A0 _
  have ae:Ext j I:=(L.trans v).more w λc d=>by subst d;exact L.size
  have:=D ac (((f.trans k).trans ae).more ad λc d=>by subst d;exact A0 _);rw[o] at this;rw[show((x.2.1.toNat:Nat):Int)=x.2.1 from by omega,show((x.2.2.toNat:Nat):Int)=x.2.2 from by omega];exact this
end
theorem ALI {wid:A2M}{l:List Ev}{b i:Nat}{p:Pr}(h:(((PL wid l).drop b).take 32)[i]? =some p): ∃c,l[b+i]? =some c/\p=Nc wid c:=by
 rw[Fc] at h;split at h
 ·rw[C5] at h;exact NV h
 ·cases h
theorem KA.fresh {h j:aa}{k:Nat->Prop}{s:bg}{a b c:Sl}{n:Nat}(o:KA h s a b c)(m:Mod k h j)(fr: ∀x,a.ag=some x\/b.ag=some x\/c.ag=some x->n<=x)(f: ∀c,k c->c<n):KA j s a b c:=
 o.mod m (λx d e=>by have:=fr x (.inl d);have:=f x e;omega) (λx d e=>by have:=fr x (.inr (.inl d));have:=f x e;omega) (λx d e=>by have:=fr x (.inr (.inr d));have:=f x e;omega)
section
variable {A : al} {B : cu} {g h : aa} {s a N sh : Nat} {l : List Hs} {mp : List Pr} {O : Nat -> Prop} {i : Nat} {y : Hs} {fl : cK} {an : cO} {R : A2L}
theorem AQh {wid:A2M}{d:List Ev}{aX:J0}(ah:LW B g h s a N sh l mp O)(v:l[i]? =some y)(aj:KS mp fl an)(ak:Ak wid=true)(al:fl wid=some d)
  (aY: ∀U e w z C,Ext h U->View cw U e d->KA U (Ai d) w z C->(∀ x,w.ag=some x\/z.ag=some x\/C.ag=some x->h.size<=x)->(∀ x,e.ag=some x->h.size<=x)->(∀ x y,e.ag=some x->w.ag=some y\/z.ag=some y\/C.ag=some y->x<y)->
   R (J1 #[(⟨wid,(BA wid sh:Int),⟨(Ai d).status,(Ai d).next,false⟩,e,(Ai d).V w z C⟩:bX).v,J6 J9 0]) U):AA A P Dz #[Ar y.p,aX,J7 wid] h R:=by
 have V:=aj.cV wid d al;obtain⟨nx,aC⟩:=V.next;have aZ:=V.len;have bL:1<=d.length:=List.length_pos_iff.2 V.ne;have a0:=FB ak;refine UK ?_;unfold QM;refine ao.mk λW _ am D bM=>?_
 refine tG (ah.on D) v aj (λh=>by rw[ak] at h;cases h) λ_ k aD=>?_
 rw[al];refine Qo.mk _ ⟨_,rfl,ao.mk λbN _ a1 a2 bO=>aL.mk a1 (A0 18) λX Q a3 bP=>af.no rfl ?_⟩;rw[XP] at Q;have ap:Ext k X:=a2.more a3 λc f=>by subst f;exact A0 _
 have aE:Ext W X:=aD.trans ap;have bQ:=Aj am;have a4:=aD.size;have bR:=ap.size;have bS:X[h.size]? =some (J2 bX.z.c DI (0,0)):=aE.ag am λh=>h
 let fv:Sl->bX:=λe=>⟨wid,(BA wid sh:Int),⟨(Ai d).status,(Ai d).next,false⟩,e,bF.z⟩
 have Q:X[k.size]? =some (J2 (fv Xb).c DI (0,0)):=Q;refine ai.mk λK a5=>AZ.mk (n:=false) (Bz Q rfl) (af.no rfl ?_)
 refine Loop.rule (λm x r=> ∃e:Sl,m=d.length-e.len/\e.len<=d.length/\Ext W r/\Ext k r/\r[k.size]? =some (J2 (fv e).c DI (0,0))/\Own cw Ah r e (d.take e.len)/\(∀ b,e.ag=some b->k.size<b)) ?_
  ⟨Xb,rfl,A5 _,aE,ap,Q,Own.nil,λb j=>by simp[Sl.ag] at j⟩
 rintro bT m _ aq ⟨e,rfl,a6,S,aF,t,I,fr⟩ a7;refine Aa.mk (s:=e) (CJ t rfl) (AC.mk (n:=(Ai d).next) (Bz t rfl) ?_);rw[nx,wrap_i64 (by omega) (by omega)];have aG:LW B g aq s a N sh l mp O:=ah.on (D.trans S);refine af.intro (λF=>?_) (λF=>?_)
 ·have bU:e.len<d.length:=by simp at F;omega
  refine Aa.mk (s:=e) (CJ t rfl) (aG.store v ⟨_,rfl,CJ t rfl,nR (by omega) λaH Y=>⟨_,rfl,?_⟩⟩);have a8:=Y.ag t λh=>h
  refine⟨CJ a8 rfl,?_⟩;rw[Ab (by omega)];refine ue (by omega) (by omega) λa9 ar=>⟨_,rfl,?_⟩
  have au:=Y.trans ar;have ba:=aG.on au;refine ba.scan (by have:=rI a0;omega) λps J av bb bc=>⟨_,_,rfl,af.no rfl ?_⟩
  rw[AP8 ah.sorted aj ak al a6] at av;have u:=au.trans bc;have aI:=av.len;have bV:ps.len=min 32 (d.length-e.len):=by rw[aI,An,Cp];unfold PL;rw[AS]
  refine af.no (by simp;omega) ?_;have bd:=S.trans u;have be:=aF.trans u;refine Loop.rule (λm x r=> ∃(o:Nat) (q:Sl),x=((o:Int),())/\m=ps.len-o/\o<=ps.len/\q.len=e.len+o/\Ext W r/\Ext k r/\Mod (λc=>c=k.size\/e.ag=some c) J r/\r[k.size]? =some (J2 (fv q).c DI (0,0))/\Own cw Ah r q (d.take q.len)/\(∀ b,q.ag=some b->k.size<b/\(e.ag=some b\/J.size<=b))) ?_
   ⟨0,e,rfl,rfl,A5 _,rfl,bd,be,Mod.refl,u.ag t λh=>h,I.ext u,λb j=>⟨fr b j,.inl j⟩⟩
  rintro bW m _ aw ⟨o,q,rfl,rfl,aJ,bf,aK,aM,ax,L,aN,M⟩ bg;dsimp only;refine af.intro (λF=>?_) (λF=>?_)
  ·have Z:o<ps.len:=by simpa using F
   have bY:e.len+o<d.length:=by omega
   obtain⟨p,aO⟩: ∃p,(((PL wid d).drop e.len).take 32)[o]? =some p:=⟨_,A2 (by rw[<- aI];exact Z)⟩;obtain⟨G,aa,rfl⟩:=ALI aO;have ok:=(aC _ _ aa).2;have hd:=OZ ok;have bZ:=MO (GY ok) (by omega);have bh:View BO aw ps (((PL wid d).drop e.len).take 32):=(av.view.mod ax λb j f=>by
    have:=bb b j;have:=au.size;have:=aF.size;have:=Aj t;rcases f with rfl|f
    ·omega
    ·have:=I.lt f;omega)
   refine bh.idx aO λb0 _ bi=>?_
   obtain⟨bj,bk,bm⟩:=bi.pair;refine AJ.mk bj (AJ.mk bk (AZ.mk bm (ao.pair λb ab b1 bn aP b2=>AJ.mk (n:=AX (EL G)) (AB bn rfl) ?_)));refine yP (by omega) λb3 aQ=>?_
   rw[(wI (by omega)).2 ⟨ok,rfl⟩];refine oS.mk G ⟨_,rfl,ao.mk λb4 _ bo bp b5=>aL.mk bo (A0 8) λbq aR br b6=>af.no rfl ?_⟩;rw[qg] at aR;have H:Ext aw bq:=((aP.trans aQ).trans bp).more br λc f=>by subst f;exact(aP.trans aQ).size
   refine Aa.mk (s:=q) (CJ (H.ag L λh=>h) rfl) (Mt.mk G (Qr aR) ?_);refine ao.aZ (E:=cw) (x:=G) (s:=q) rfl mU (aN.ext H) (by simp only[An];omega) (by simp only[An,maxLen];omega) λT b7 aS ac bs b8=>?_
   have b9:=Aj L;have ca:=H.size;have cb:=ax.size;have bt: ¬q.ag=some k.size:=λh=>by have:=(M _ h).1;omega
   refine ae.bJ (dK:=(fv T).c) (ac.ag (H.ag L λh=>h) bt) (of_decide_eq_true rfl) rfl λcc bu ad cd=>?_
   rw[Ab (by omega)];have aT:T.len=e.len+(o+1):=by have:=aS.len;rw[A1,An,Ds] at this;omega
   have ce:=D.size;have aU: ∀b,T.ag=some b->k.size<b/\(e.ag=some b\/J.size<=b):=λb j=>by
    rcases bs b j with h|h
    ·exact M b h
    ·exact⟨by omega,.inr (by omega)⟩
   have bv: ∀b,q.ag=some b->W.size<=b:=λb j=>by have:=(M b j).1;omega
   refine bg (ps.len-(o+1)) _ _ (by omega) ⟨o+1,T,rfl,rfl,Z,aT,((aK.trans H).more ac bv).more ad λc f=>by subst f;exact a4,((aM.trans H).more ac λb j=>by have:=(M b j).1;omega).more ad λc f=>by subst f;exact A0 _,?_,bu,?_,aU⟩
   ·refine(ax.trans H.mod).then ((ac.aj λc _ f=>?_).trans (ad.aj λc _ f=>?_))
    ·rcases(M c f).2 with h|h
     ·exact .inl (.inr h)
     ·exact .inr h
    ·exact .inl (.inl f)
   ·have bw:d.take T.len=d.take q.len++ [G]:=by rw[aT,bf,<-HK,AD,aa];rfl
    rw[bw];exact aS.mod ad λb j f=>by have:=(aU b j).1;omega
  ·have Z:o=ps.len:=by simp at F;omega
   subst Z;exact a7 (d.length-q.len) _ _ (by omega) ⟨q,rfl,by omega,aK,aM,L,aN,λb j=>(M b j).1⟩
 ·have bx:e.len=d.length:=by simp at F;omega
  rw[bx,Bm] at I;refine a5 () aq (Aa.mk (s:=e) (CJ t rfl) ?_);refine uu I.view aZ (λG aa=>by
   obtain⟨o,aJ⟩:=DE aa;have:=OZ (aC o G aJ).2;omega) V.ok λaH w z C Y bz ay=>Hw.mk _ ⟨_,_,rfl,?_⟩
  refine ao.mk λa9 _ bA ar cf=>aL.mk bA (A0 12) λJ ag bB cg=>?_
  rw[Nn] at ag;have aV:Ext aH J:=ar.more bB λc f=>by subst f;exact A0 _
  have u:=Y.trans aV;have az:=u.ag t λh=>h
  have bC:=u.ag ((S.ag am λh=>h)) λh=>h
  refine ai.mk λch bD=>af.no rfl (AC.mk (n:=(Ai d).next) (AB ag rfl) (AC.mk (n:=(Ai d).next) (Bz az rfl) ?_))
  refine af.no (by simp) (AC.mk (n:=(Ai d).status) (AB ag rfl) (AC.mk (n:=(Ai d).status) (CJ az rfl) (bD _ _ (af.no (by simp) ?_))));have bE:=bz.ext aV;have ci:=Aj t;have cj:=S.size;have ck:=u.size;refine Az.mk _ (Ep ag) ?_;have bG:(⟨k.size,0,none⟩:Q6).add 6=⟨k.size,6,none⟩:=rfl;rw[bG];refine aL.mk az (of_decide_eq_true rfl) λaw L aW cl=>?_
  refine I7.mk ⟨wid,(BA wid sh:Int),⟨(Ai d).status,(Ai d).next,false⟩,e,(Ai d).V w z C⟩ (X6 (by exact L)) (kL (aW.ag bC (by omega)) λab bH=>?_);have aA:Mod (λc=>c=k.size\/c=h.size) J ab:=(aW.aj λc _ f=> .inl f).trans (bH.aj λc _ f=> .inr f);have bI:=bE.fresh (n:=aq.size) aA ay λc f=>by omega
  have bJ:View cw ab e d:=(I.view.ext u).mod aA λb j f=>by have:=fr b j;omega
  refine aY ab e w z C ((D.trans (S.trans u)).more aA λc f=>by have:=D.size;omega) bJ bI (λx v=>by have:=ay x v;have:=D.size;omega) (λx v=>by have:=fr x v;have:=D.size;omega) λx y v bK=>Fl (I.lt v) (ay y bK)
theorem pZ {wid:A2M}{b:List Ev}{k:J0}(m:LW B g h s a N sh l mp O)(n:l[i]? =some y)(o:KS mp fl an)(p:Ak wid=true)(q:fl wid=some b)
  (r: ∀c d e f j,Ext h c->View cw c d b->KA c (Ai b) e f j->(∀ x,e.ag=some x\/f.ag=some x\/j.ag=some x->h.size<=x)->(∀ x,d.ag=some x->h.size<=x)->
   R (J1 #[(⟨wid,(BA wid sh:Int),⟨(Ai b).status,(Ai b).next,false⟩,d,(Ai b).V e f j⟩:bX).v,J6 J9 0]) c):AA A P Dz #[Ar y.p,k,J7 wid] h R:=
 AQh m n o p q λc d e f j t V u v w _=>r c d e f j t V u v w
end
theorem RX {a v:A2M}(b:a≠⟨#[]⟩)(c:a.size<=64)(d:v.size<=8192):Ag ⟨a,v,false⟩=0:=by unfold Ag;rw[if_neg (by simp[b]),if_neg (by simp;omega)]
theorem AK3 {a:A2M}(b:a≠⟨#[]⟩)(c:a.size<=64):Ag ⟨a,⟨#[]⟩,true⟩=0:=by have z:(⟨#[]⟩:A2M).size=0:=rfl;unfold Ag;rw[if_neg (by simp[b]),if_neg (by simp;omega)]
theorem VW {a:A2M}(b:0<a.size):a≠⟨#[]⟩:=λc=>by rw[c] at b;cases b
theorem tH: ∀ {l:List Pr},(∀ p∈l,Ag p=0)->GX l=0
 | [],_=>rfl
 |x::l,a=>by
  unfold GX;rw[if_neg (by rw[a x (by simp)];decide)];exact tH λp b=>a p (by simp[b])
theorem tI {l:List Pr}(a:l≠ [])(c:l.length<=64)(b: ∀p∈l,Ag p=0):Eo l=0:=by unfold Eo;rw[if_neg (by rw[T6];exact a),if_neg (by omega)];exact tH b
theorem tJ {wid:A2M}{a:Ev}(c:Ak wid=true)(b:Dl a=true):Ag (Nc wid a)=0:=by
 have d:=FB c;have e:=APO d a.id.toNat;have hd:=OZ b;have f:=MO (GY b) (by omega);refine RX (VW ?_) (by omega) ?_
 ·unfold eA;rw[AP];unfold lr;simp
 ·rw[AP];omega
theorem tK {wid:A2M}{st nx:Nat}{a:Bool}(b:Ak wid=true)(c:st<128)(d:nx<=501):Ag ⟨Es wid,I1 st nx a,false⟩=0:=by have e:=FB b;have:=AKr (kept:=a) c d;exact RX (VW (by rw[MV];omega)) (by rw[MV];omega) (by omega)
theorem ASF {a:A2M}{x:List UInt8×Int×Int}(b:Ak a=true)(c:0<=x.2.1/\x.2.1<=4)(d:0<=x.2.2/\x.2.2<=501)(e:x.1.length<=2000):Ag (Yz a x)=0:=by have f:=FB b;have g:=G6 (n:=x.2.1.toNat) (by omega);have h:=G6 (n:=x.2.2.toNat) (by omega);have i:=AV (n:=x.1.length) (by omega);refine RX (VW (by rw[Vl];omega)) (by rw[Vl];omega) ?_;unfold iT BI;rw[AP];simp only[A1];omega
theorem qa {t:gA}{wid:A2M}{a b:Nat}{tick:Int}(c:KN t wid=true):Ag ⟨La a tick b,OX t wid,false⟩=0/\(BH (La a tick b)≠104/\BH (La a tick b)≠119/\BH (La a tick b)≠114)/\BH (La a tick b)≠108:=by
 unfold KN at c;simp only[A3,Bd] at c;obtain⟨⟨⟨⟨e,f⟩,d⟩,g,h⟩,i,j⟩:=c;have:=AKR (kind:=t.kind.toNat) (wid:=wid) (ref:=t.ref.toNat) (turn:=t.turn.toNat) (by omega) (FB d) (by omega) (by omega);unfold La OX;split
 ·rw[Xq];exact⟨RX (VW (by rw[xT];omega)) (by rw[xT];omega) (by omega),⟨by decide,by decide,by decide⟩,by decide⟩
 ·rw[O0];exact⟨RX (VW (by rw[JN];omega)) (by rw[JN];omega) (by omega),⟨by decide,by decide,by decide⟩,by decide⟩
end Go.Lf.G
namespace Go.Lf
open G
open Go
open M (Sorted Ad Bu Ay Ae Am BL Ag bo A9 aM A8)
def bA.fits(a:bA)(b:List Ev):Prop:=FR UI (b++a.more)=some a.st
end Go.Lf
namespace Go.Lf.G
open Go
open M (Sorted Ad Bu Ay Ae Am BL Ag bo A9 aM A8)
theorem Rh {a:bA}{c:List Ev}{d:Ev}(b:a.fits c):(EF a d).fits c:=by
 unfold EF;split
 ·exact b
 ·split
  ·exact b
  ·split
   ·exact b
   ·rename_i e;have e:(Bh a.st (Cc a d)).1=0:=by simpa using e
    show FR UI (c++(a.more++ [Cc a d]))=_;rw[<- A4];exact AIb b e
theorem Zp {a:bA}{c:List Ev}{t:gA}{tick:Int}{b:Nat}(d:a.fits c):(ET a t tick b).fits c:=by unfold bA.fits;rw[(Ha a t tick b).1,(Ha a t tick b).2];exact d
theorem AKE {a:bA}{b:List Ev}{c f:Nat}(d:a.fits b):(BF a c f).fits b:=by
 have e:(EZ a c).fits b:=by
  unfold EZ;split
  ·exact Zp (Rh d)
  ·exact d
 unfold BF;split
 ·exact Zp e
 ·exact e
abbrev jb:=Option (A2M×(List UInt8×Int×Int))
end Go.Lf.G
namespace Go.Lf
open G
open Go
open M (Sorted Ad Bu Ay Ae Am BL Ag bo A9 aM A8)
structure bA.beside (C:bA) (o:jb):Prop where
 ok: ∀p∈C.ar,Ag p=0
 dQ: ∀p∈C.ar,(BH p.key≠104/\BH p.key≠119/\BH p.key≠114)\/ ∃r x,o=some (r,x)/\p=Yz r x
 lE: ∀p∈C.ar,BH p.key≠108
end Go.Lf
namespace Go.Lf.G
open Go
open M (Sorted Ad Bu Ay Ae Am BL Ag bo A9 aM A8)
theorem MW {a:bA}{c:jb}(b:a.beside c)(d:Ev):(EF a d).beside c:=by have:=(Od a d).2.2.2.2.2.1;exact⟨by rw[this];exact b.ok,by rw[this];exact b.dQ,by rw[this];exact b.lE⟩
theorem Uq {d:bA}{f:jb}(a:d.beside f)(t:gA)(tick:Int)(g:Nat):(ET d t tick g).beside f:=by
 unfold ET;split
 ·exact a
 ·split
  ·exact⟨a.ok,a.dQ,a.lE⟩
  ·rename_i c;have c:KN t d.wid=true:=by simpa using c
   refine⟨λp e=>?_,λp e=>?_,λp e=>?_⟩<;>rcases List.mem_append.1 e with b|b
   ·exact a.ok p b
   ·rw[List.mem_singleton.1 b];exact(qa c).1
   ·exact a.dQ p b
   ·rw[List.mem_singleton.1 b];exact .inl (qa c).2.1
   ·exact a.lE p b
   ·rw[List.mem_singleton.1 b];exact(qa c).2.2
theorem AG4 {a:bA}{b:jb}(c:a.beside b)(d f:Nat):(BF a d f).beside b:=by
 have e:(EZ a d).beside b:=by
  unfold EZ;split
  ·exact Uq (MW c _) _ _ _
  ·exact c
 unfold BF;split
 ·exact Uq e _ _ _
 ·exact e
theorem AIt {e:bA}{c:A2M}{x:List UInt8×Int×Int}(a:e.beside none)(f:Ak c=true)(g:0<=x.2.1/\x.2.1<=4)(h:0<=x.2.2/\x.2.2<=501)(i:x.1.length<=2000):(oQ e (JO c) (iT x.1 x.2.1.toNat x.2.2.toNat)).beside (some (c,x)):=by
 refine⟨λp d=>?_,λp d=>?_,λp d=>?_⟩<;>rcases List.mem_append.1 d with b|b
 ·exact a.ok p b
 ·rw[List.mem_singleton.1 b];exact ASF f g h i
 ·rcases a.dQ p b with a|⟨j,k,a,_⟩
  ·exact .inl a
  ·cases a
 ·exact .inr ⟨c,x,rfl,List.mem_singleton.1 b⟩
 ·exact a.lE p b
 ·rw[List.mem_singleton.1 b];show BH (JO c)≠108;rw[JY];decide
theorem tL(a:bA)(b:Ev):(EF a b).ar=a.ar:=(Od a b).2.2.2.2.2.1
theorem tM {b:bA}{p:Pr}(a:p∈b.ar)(t:gA)(tick:Int)(c:Nat):p∈(ET b t tick c).ar:=by
 unfold ET;split
 ·exact a
 ·split
  ·exact a
  ·exact HJ _ a
theorem AMq {a:bA}{p:Pr}(b:p∈a.ar)(c e:Nat):p∈(BF a c e).ar:=by
 have d:p∈(EZ a c).ar:=by
  unfold EZ;split
  ·exact tM (by rw[tL];exact b) _ _ _
  ·exact b
 unfold BF;split
 ·exact tM d _ _ _
 ·exact d
theorem KS.note {o b:List Pr}{v:cK}{k:cO}{j:jb}(g:KS o v k)(s:Sorted o)(l:fL b j):KS (cq o b) v (pY k j):=by
 have w: ∀p∈b,BH p.key≠104/\BH p.key≠119:=λp A=>by
  rcases l.dQ p A with m|⟨a,x,_,rfl⟩
  ·exact⟨m.1,m.2.1⟩
  ·exact⟨by show BH (JO a)≠104;rw[JY];decide,by show BH (JO a)≠119;rw[JY];decide⟩
 refine⟨λn q B y=>?_,λn q=>?_,λa z=>?_,g.cV,λa x f=>?_⟩
 ·rw[Km s λc e d=>(w c e).1 (by rw[d];exact ZU y)];exact g.cF n q B y
 ·rw[Km s λc e d=>(w c e).2 (by rw[d];exact Dw n)];exact g.eY n q
 ·have no: ∀c∈b,c.key=JO a-> ∃x,j=some (a,x)/\c=Yz a x:=λc e d=>by
   have C:=(congrArg BH d).trans (JY a);rcases l.dQ c e with m|⟨h,x,D,rfl⟩
   ·exact absurd C m.2.2
   ·have:h=a:=xV d;subst this;exact⟨x,D,rfl⟩
  cases j with
  |none=>
   rw[Km s λc e d=>?_,g.kD a z]
   ·rfl
   ·obtain⟨x,f,_⟩:=no c e d;cases f
  |some r=>
   obtain⟨h,x⟩:=r;show _=(dH k h x a).map (Yz a);by_cases i:a=h
   ·subst i;rw[JV];refine(lY (p:=Yz a x) s (l.has a x rfl).1 λc e d=>?_).trans rfl;obtain⟨t,u,rfl⟩:=no c e d;cases u;rfl
   ·rw[Om i,Km s λc e d=>?_,g.kD a z];obtain⟨t,u,_⟩:=no c e d;cases u;exact i rfl
 ·cases j with
  |none=>exact g.kF a x f
  |some r=>
   obtain⟨h,t⟩:=r;have f:dH k h t a=some x:=f;by_cases i:a=h
   ·subst i;rw[JV] at f;cases f;exact(l.has a x rfl).2.2
   ·rw[Om i] at f;exact g.kF a x f
theorem tN {a:bA}{b:List Ev}{g:Nat}(c:a.fits b)(e:b++a.more≠ [])(f:Ea a.st g):KE (b++a.more)/\Ai (b++a.more)=a.st:=by
 have d:Ai (b++a.more)=a.st:=by unfold Ai;rw[c];rfl
 have nx:=xP c e;have:=f.next;exact⟨⟨e,by omega,by rw[d];exact c,by rw[d];exact f.st⟩,d⟩
theorem AOx {a:Type}{f:A2M->Option a}{b:A2M}{x:a}(c:f b=some x):dH f b x=f:=by
 funext e;unfold dH;split
 ·rename_i d;rw[d,c]
 ·rfl
theorem KS.done {c:List Pr}{a:cK}{g:cO}{D:bA}{o:jb}{k:Nat}(h:KS c a g)(s:Sorted c)(m:Ak D.wid=true)(n:D.fits ((a D.wid).getD []))(b:(a D.wid).getD []++D.more≠ [])(p:Ea D.st k)(q:D.beside o)
  (has: ∀d x,o=some (d,x)->Yz d x∈D.ar/\Ak d=true/\(0<=x.2.1/\x.2.1<=4)/\(0<=x.2.2/\x.2.2<=501)/\x.1.length<=2000):
  KS (cq c (Er D++D.ar)) (dH a D.wid ((a D.wid).getD []++D.more)) (pY g o):=by
 have i:fL D.ar o:=⟨q.dQ,has⟩;obtain⟨r,t⟩:=tN n b p;by_cases e:D.more= []
 ·have f:Er D= []:=by unfold Er;rw[e];rfl
  rw[f,CN];have:dH a D.wid ((a D.wid).getD []++D.more)=a:=by
   rw[e,AK] at b ⊢;cases j:a D.wid with
   |none=>rw[j] at b;exact absurd rfl b
   |some l=>exact AOx j
  rw[this];exact h.note s i
 ·have f:Er D++D.ar=D.more.map (Nc D.wid)++([T9 D.wid ((a D.wid).getD []++D.more)]++D.ar):=by unfold Er T9;rw[if_neg e,A4,t]
  rw[f];exact h.land s m r i
theorem AJ3 {e:List Pr}{c:cK}{h:cO}{a:bA}(i:KS e c h)(j:Ak a.wid=true)(b:match c a.wid with|none=>a.cj=0|some l=>a.cE=(Ai l).status/\a.cj=(Ai l).next/\a.kept=false/\0<a.cj):CG e (bD a)=true:=by
 have g:=i.eZ j;cases f:c a.wid with
 |none=>
  rw[f] at b g;have b:a.cj=0:=b;have d:bD a=⟨Es a.wid,⟨#[]⟩,true⟩:=by unfold bD;rw[if_neg (by omega)]
  rw[d];unfold CG;rw[if_pos rfl,g];rfl
 |some l=>
  rw[f] at b g;obtain⟨k,m,n,o⟩:=b;have d:bD a=⟨Es a.wid,I1 a.cE.toNat a.cj.toNat a.kept,false⟩:=by unfold bD;rw[if_pos o]
  rw[d];unfold CG;rw[if_neg (by simp),g,k,m,n];simp
theorem ANC {b:List Pr}{d:cK}{c:cO}{a:A2M}(e:KS b d c)(f:Ak a=true)(h:c a=none):CG b ⟨JO a,⟨#[]⟩,true⟩=true:=by unfold CG;have g:=e.fP f;rw[h] at g;rw[if_pos rfl,g];rfl
theorem AOU {b:bA}{g:Nat}(d:Ak b.wid=true)(ok: ∀c∈b.more,Dl c=true/\c.data.size<1099511627776)(e:Ea b.st g): ∀p∈Er b,Ag p=0:=by
 intro p f;have st:=e.st;have nx:=e.next;unfold Er at f;rcases List.mem_append.1 f with a|a
 ·obtain⟨c,h,rfl⟩:=List.mem_map.1 a;exact tJ d (ok c h).1
 ·split at a
  ·cases a
  ·rw[List.mem_singleton.1 a];exact tK d (by omega) (by omega)
theorem ANT(a:bA):(Er a).length<=a.more.length+1:=by unfold Er;rw[A1,AS];split<;>simp
theorem AT7 {f e:List Pr}{a:bA}{g:jb}{h:Nat}(i:Ak a.wid=true)(ok: ∀d∈a.more,Dl d=true/\d.data.size<1099511627776)(j:Ea a.st h)(k:a.beside g)(n:a.more.length+1+a.ar.length<=64)(l:Er a++a.ar≠ [])(o:e.length<=64)(b: ∀c∈e,CG f c=true):dt f e (Er a++a.ar)=0:=by
 have q:=ANT a;have d:Eo (Er a++a.ar)=0:=tI l (by rw[A1];omega) λp m=>by
  rcases List.mem_append.1 m with b|b
  ·exact AOU i ok j p b
  ·exact k.ok p b
 unfold dt;rw[if_neg (by omega),if_neg (by rw[d];decide),if_pos (List.all_eq_true.2 b)]
theorem SB(a:Nat):BH (CF a)=108:=by unfold BH CF;rw[EJ];rfl
theorem AJK {d:List Pr}{b:bA}{i:jb}(s:Sorted d)(j:b.beside i)(e g:Nat)(h:A2M):CG (cq d (Er b++b.ar)) (F3 e g h)=CG d (F3 e g h):=by
 have f:Ad (CF e) (cq d (Er b++b.ar))=Ad (CF e) d:=Km s λk l m=>by
  have c:=(congrArg BH m).trans (SB e);rcases List.mem_append.1 l with a|a
  ·unfold Er at a;rcases List.mem_append.1 a with a|a
   ·obtain⟨f,_,rfl⟩:=List.mem_map.1 a;rw[show BH (Nc b.wid f).key=104 from Sn _ _] at c;exact absurd c (by decide)
   ·split at a
    ·cases a
    ·rw[List.mem_singleton.1 a] at c;rw[show BH (Es b.wid)=119 from Dw _] at c;exact absurd c (by decide)
  ·exact j.lE k a c
 rw[Oc,Oc];unfold IQ;rw[f]
def NE(x:cp)(p:cn):List UInt8:=Bb x.kind.toNat++(BI (bl x.wid)++(BI (if x.kind=2 then bl x.name else [])++(if x.kind=1 then Cq p else [])))
def Pg(x:cp)(p:cn):Int:=if x.kind=1/\GL p=false then 130 else if(x.kind=2/\Ak x.name=false)\/Ak x.wid=false\/Ak x.aV=false then 1 else 0
theorem kO {x:cp}{p:cn}(h:Pg x p=0):(x.kind=1->GL p=true)/\(x.kind=2->Ak x.name=true)/\Ak x.wid=true/\Ak x.aV=true:=by
 unfold Pg at h;split at h
 ·cases h
 ·rename_i b;split at h
  ·cases h
  ·rename_i a;simp only[not_or,not_and,Bool.not_eq_false] at b a;exact⟨b,a.1,a.2⟩
theorem Rs {p:cn}(ok:GL p=true):(Cq p).length<=1700:=by simp only[GL,A3,decide_eq_true_eq] at ok;obtain⟨⟨c,a⟩,b⟩:=ok;have d:=Bd.1 a;have:=Pq b;have e:=AV (n:=p.az.toNat) (by omega);have f:=AV (n:=p.steps.length) (by omega);unfold Cq;simp only[A1];omega
theorem APc {x:cp}{p:cn}(h:Pg x p=0)(f:1<=x.kind/\x.kind<=4):(NE x p).length<=2000:=by
 obtain⟨a,b,c,g⟩:=kO h;have i:=FB c;have j:=G6 (n:=x.kind.toNat) (by omega);have k:=LF (s:=x.wid) (by omega);have l:(BI (if x.kind=2 then bl x.name else [])).length<=30:=by
  split
  ·rename_i d;have:=FB (b d);have:=LF (s:=x.name) (by omega);omega
  ·have:=AV (n:=0) (by omega);show(Bb 0++ []).length<=30;rw[AK];omega
 have m:(if x.kind=1 then Cq p else []).length<=1700:=by
  split
  ·rename_i e;exact Rs (a e)
  ·simp
 unfold NE;simp only[A1];omega
section
variable {A : al} {h : aa} {R : A2L}
theorem ANd {x:cp}{p:cn}(V:View Ql h x.steps p.steps)(M:x.az=p.az)(len:p.steps.length<=1099511627776)(am:1<=x.kind/\x.kind<=4)
  (w: ∀e,Ext h e->R (J1 #[J7 (if Pg x p=0 then AX (NE x p) else⟨#[]⟩),J6 J9 (Pg x p)]) e):AA A P Nf #[x.v] h R:=by
 refine AAj ?_;unfold TQ;refine ao.mk λi _ j k an=>ai.mk λK N=>?_
 have y: ∀(n:Int) e,Ext h e->Pg x p=n->n≠0->R (J1 #[J7 ⟨#[]⟩,J6 J9 n]) e:=λn e O Q r=>by
  have:=w e O;rw[Q,if_neg r] at this;exact this
 have z: ∀(ps:List UInt8) (b:aa),Ext i b->(x.kind=1->GL p=true/\ps=Cq p)->(x.kind≠1->ps= [])->K (AX ps,()) b:=λps b f m B=>by
  have c:=f.ag j λh=>h
  have ap:ps.length<=1700:=by
   by_cases h:x.kind=1
   ·rw[(m h).2];exact Rs (m h).1
   ·rw[B h];simp
  have C: ¬(x.kind=1/\GL p=false):=λh=>by have:=(m h.1).1;rw[h.2] at this;cases this
  refine N _ _ (ai.mk λt S=>?_);have u: ∀o:Bool,(o=true↔(x.kind=2/\Ak x.name=false)\/Ak x.wid=false\/Ak x.aV=false)->t (o,()) b:=λo D=>by
   refine S _ _ (af.intro (λg=>y 1 b (k.trans f) (by unfold Pg;rw[if_neg C,if_pos (D.1 g)]) (by decide)) (λg=>?_));have g:o=false:=g;have T: ¬((x.kind=2/\Ak x.name=false)\/Ak x.wid=false\/Ak x.aV=false):=λh=>by rw[D.2 h] at g;cases g
   have E:Pg x p=0:=by unfold Pg;rw[if_neg C,if_neg T]
   obtain⟨aq,U,W,ar⟩:=kO E;have au:=FB W;refine AJ.mk (n:=x.name) (AB c rfl) (ai.mk λX Y=>?_);have F: ∀d:List UInt8,d=(if x.kind=2 then bl x.name else [])->X (AX d,()) b:=λd G=>by
    have nl:d.length<=16:=by
     rw[G];split
     ·rename_i Z;rw[BB];exact FB (U Z)
     ·simp
    refine Y _ _ (AC.mk (n:=x.kind) (AL c rfl) (AJ.mk (n:=x.wid) (AB c rfl) ?_));rw[Oy (by omega) (by omega)];refine CU (by omega) λav H=>⟨_,rfl,AB (H.ag c λh=>h) rfl,MP (by omega) λaw ab=>⟨_,rfl,?_⟩⟩
    have ax:=G6 (n:=x.kind.toNat) (by omega);have ay:=LF (s:=x.wid) (by omega);have az:(BI d).length<=30:=by unfold BI;rw[A1];have:=AV (n:=d.length) (by omega);omega
    refine⟨by rw[AP,AP,max_i64];omega,?_⟩;rw[Ao];refine PY (l:=d) (by omega) λac ad=>⟨_,rfl,⟨by rw[AP,AP,A1,max_i64];omega,?_⟩⟩
    rw[Ao];refine⟨by rw[AP,AP,A1,A1,max_i64];omega,?_⟩;rw[Ao];have:=w ac ((((k.trans f).trans H).trans ab).trans ad);rw[E,if_pos rfl] at this;have ae:NE x p=((Bb x.kind.toNat++BI (bl x.wid))++BI d)++ps:=by
     unfold NE;rw[G];simp only[A4];congr 3;split
     ·rename_i h;rw[(m h).2]
     ·rename_i h;rw[B h]
    rw[ae] at this;exact this
   refine AC.mk (n:=x.kind) (AL c rfl) (af.intro (λa=>?_) (λa=>?_))
   ·have a:x.kind≠2:=by simpa using a
    exact F [] (by rw[if_neg a])
   ·have a:x.kind=2:=by simpa using a
    have:=F (bl x.name) (by rw[if_pos a]);rw[Le] at this;exact this
  have rest:(x.kind=2->Ak x.name=true)->AJ b ((⟨h.size,0,none⟩:Q6).add 2) λag=>AA A P Bg #[J7 ag] b λah v=> ∃I:Bool,ah=J3 I/\(af (!I) (t (true,()) v) (
    AJ v ((⟨h.size,0,none⟩:Q6).add 1) λaj=>AA A P Bg #[J7 aj] v λak al=> ∃J:Bool,ak=J3 J/\(t ((!J),()) al))):=λr=>
   AJ.mk (n:=x.wid) (AB c rfl) (Eg ⟨_,rfl,af.intro (λa=>u true (by simp at a;simp[a])) λa=>AJ.mk (n:=x.aV) (AB c rfl) (Eg ⟨_,rfl,u _ (by
    have a:Ak x.wid=true:=by simpa using a
    simp only[a,CI,Bool.true_eq_false,false_or];constructor
    ·exact .inr
    ·rintro(⟨i,b⟩|h)
     ·rw[r i] at b;cases b
     ·exact h)⟩)⟩)
  refine AC.mk (n:=x.kind) (AL c rfl) (af.intro (λa=>?_) (λa=>?_))
  ·have a:x.kind=2:=by simpa using a
   refine AJ.mk (n:=x.name) (AB c rfl) (Eg ⟨_,rfl,af.intro (λq=>u true (by simp at q;simp[a,q])) λq=>rest λ_=>by simpa using q⟩)
  ·have a:x.kind≠2:=by simpa using a
   exact rest λh=>absurd h a
 refine AC.mk (n:=x.kind) (AL j rfl) (af.intro (λa=>?_) (λa=>?_))
 ·have a:x.kind=1:=by simpa using a
  refine Aa.mk (s:=x.steps) (AB j rfl) (AC.mk (n:=x.az) (Bz (by exact j) rfl) ?_);rw[M];refine uv (V.ext k) len λb f=>?_
  unfold YU;cases L:GL p with
  |false=>exact⟨_,_,rfl,af.yes rfl (y 130 b (k.trans f) (by unfold Pg;rw[if_pos ⟨a,L⟩]) (by decide))⟩
  |true=>exact⟨_,_,rfl,af.no rfl (z (Cq p) b f (λ_=>⟨L,rfl⟩) λh=>absurd a h)⟩
 ·have a:x.kind≠1:=by simpa using a
  exact z [] i Mod.refl (λh=>absurd h a) λ_=>rfl
end
def cX(a:Int)(b:A2M):Ev:=⟨0,a,0,0,0,0,false,b⟩
def BR(c:Option (List Ev))(wid:A2M)(a:Nat)(b:Int):bA:=match c with
 |none=>PP wid a 0 0 false UI b
 |some l=>PP wid a (Ai l).status (Ai l).next false (Ai l) b
def tO(p:cn)(a:Int):Int:=if(0:Int)>a+p.az then 0 else a+p.az
def Cw(x:cp)(p:cn)(a:bA)(b:Nat):bA:=
 if x.kind=1 then(if 0<p.az then ET (EF a (cX 1 (AX (Cq p)))) ⟨6,0,0⟩ (tO p a.now) b else EF a (cX 1 (AX (Cq p))))
 else if x.kind=2 then EF a (cX 12 x.name)
 else if x.kind=3 then(if a.st.cancel=true then a else EF a (cX 13 ⟨#[]⟩))
 else EF a (cX 18 ⟨#[]⟩)
def EP(x:cp)(p:cn)(a:bA)(b:Nat):bA:=oQ (Cw x p a b) (JO x.aV) (iT (NE x p) (Di (Cw x p a b)).1.toNat (Di (Cw x p a b)).2.toNat)
def NY(b:cK)(c:cO)(d:Nat)(x:cp)(p:cn):Option (Int×Int×Int):=
 if x.kind<1\/4<x.kind then some (1,0,0)
 else if Pg x p≠0 then some (Pg x p,0,0)
 else if d=0 then some (170,0,0)
 else match c x.aV with
  |some a=>if a.1≠NE x p then some (184,0,0) else some (0,a.2.1,a.2.2)
  |none=>match b x.wid with
   |none=>if x.kind=1 then none else some (180,0,0)
   |some l=>if x.kind=1 then some (181,0,0) else if(Ai l).status≠0 then some (182,0,0) else none
theorem AJv {a:Option (List Ev)}{wid:A2M}{n:Nat}{now:Int}(h: ∀l,a=some l->KE l):Ea (BR a wid n now).st 500/\(BR a wid n now).more= []/\(BR a wid n now).ar= []/\(BR a wid n now).conds= []/\(BR a wid n now).wid=wid/\(BR a wid n now).aq=n/\(BR a wid n now).now=now/\(BR a wid n now).fits (a.getD []):=by
 cases a with
 |none=>exact⟨Ea.zero.up (by omega),rfl,rfl,rfl,rfl,rfl,rfl,rfl⟩
 |some l=>
  have b:=h l rfl;refine⟨?_,rfl,rfl,rfl,rfl,rfl,rfl,?_⟩
  ·have:=y6 Ea.zero b.ok;exact this.up (by have:=b.len;omega)
  ·show FR UI (l++ [])=some (Ai l);rw[AK];exact b.ok
theorem ANN {x:cp}{p:cn}{a:bA}{num c:Nat}(u:Pg x p=0)(ok: ∀e∈a.more,Dl e=true/\e.data.size<1099511627776)(v:Ea a.st c):a.grown (Cw x p a num) (c+1) 1 1:=by
 obtain⟨w,y,C,D⟩:=kO u;have b:=XU ok v;have z:(⟨#[]⟩:A2M).size<1099511627776:=by decide
 have up: ∀ {d:bA},a.grown d (c+1) 1 0->a.grown d (c+1) 1 1:=λ{d} ⟨f,g,i,j,k,l,m,s,n,B,o,q⟩=>⟨f,g,i,j,k,l,m,s,n,by omega,o,q⟩
 unfold Cw;split
 ·rename_i r;have t:(cX 1 (AX (Cq p))).data.size<1099511627776:=by show(AX (Cq p)).size<_;have:=Rs (w r);rw[AP];omega
  split
  ·exact XZ (MU b t) _ _ _
  ·exact up (MU b t)
 ·split
  ·rename_i r;exact up (MU b (e:=cX 12 x.name) (by have:=FB (y r);show x.name.size<_;omega))
  ·split
   ·split
    ·obtain⟨f,g,i,j,k,l,m,s,n,B,o,q⟩:=b;exact⟨f,g,i,j,k,l,m,by omega,n,by omega,o,q.up (BY _)⟩
    ·exact up (MU b z)
   ·exact up (MU b z)
theorem AQC {x:cp}{p:cn}{a:bA}{c:Nat}{b:List Ev}(h:a.fits b):(Cw x p a c).fits b:=by
 unfold Cw;split
 ·split
  ·exact Zp (Rh h)
  ·exact Rh h
 ·split
  ·exact Rh h
  ·split
   ·split
    ·exact h
    ·exact Rh h
   ·exact Rh h
theorem AKn {x:cp}{p:cn}{c:bA}{d:Nat}(h:c.ar= []):(Cw x p c d).beside none:=by
 have b:c.beside none:=⟨(λp a=>by rw[h] at a;cases a),(λp a=>by rw[h] at a;cases a),(λp a=>by rw[h] at a;cases a)⟩;unfold Cw;split
 ·split
  ·exact Uq (MW b _) _ _ _
  ·exact MW b _
 ·split
  ·exact MW b _
  ·split
   ·split
    ·exact b
    ·exact MW b _
   ·exact MW b _
theorem tP {b:bA}{c:Ev}(h:(EF b c).err=0):b.err=0:=by
 unfold EF at h;split at h
 ·rename_i a;exact absurd h a
 ·rename_i a;simpa using a
theorem qc {a:bA}{b:Ev}(h:(EF a b).err=0):EF a b= {a with st:=(Bh a.st (Cc a b)).2,more:=a.more++ [Cc a b]}/\(Bh a.st (Cc a b)).1=0:=by
 have d:=tP h;unfold EF at h ⊢;rw[if_neg (by simp[d])] at h ⊢;split at h
 ·cases h
 ·rename_i e;rw[if_neg e];split at h
  ·rename_i c;exact absurd h c
  ·rename_i c;rw[if_neg c];exact⟨rfl,by simpa using c⟩
theorem AO0 {a:bA}{b:Nat}(h:(EZ a b).err=0):a.err=0:=by
 unfold EZ at h;split at h
 ·exact tP (YE h)
 ·exact h
theorem tQ {a:bA}{c d:Nat}(h:(BF a c d).err=0):(BF a c d).st.status=(Di a).1/\(BF a c d).st.next=(Di a).2:=by
 have g:=Vo h;have j:(BF a c d).st=(EZ a c).st:=by
  unfold BF;split
  ·exact(Ha _ _ _ _).1
  ·rfl
 rw[j];unfold Di;by_cases e:Dp a=true
 ·rw[if_pos e];unfold EZ at g ⊢;rw[if_pos e] at g ⊢;rw[(Ha _ _ _ _).1];obtain⟨k,b⟩:=qc (YE g);rw[k];show(Bh a.st (Cc a Qm)).2.status=_/\(Bh a.st (Cc a Qm)).2.next=_;have ok:=Qx b;unfold Bh at b ⊢;rw[if_neg (by simp[ok])] at b ⊢;split at b
  ·rename_i i;rw[if_neg (λh=>by have h:(2:Int)=1:=h.1;cases h)] at b;cases b
  ·rename_i i;rw[if_neg i];split at b
   ·cases b
   ·rename_i l;rw[if_neg l];split at b
    ·cases b
    ·rename_i m;rw[if_neg m];cases f:PM a.st (Cc a Qm) with
     |none=>rw[f] at b;cases b
     |some t=>
      unfold PM at f;rw[if_pos (show 2<=(Cc a Qm).kind/\(Cc a Qm).kind<=5 from(by decide:(2:Int)<=2/\(2:Int)<=5))] at f;obtain⟨u,n,rfl⟩:=Option.map_eq_some_iff.1 f;exact⟨(Qa n).2.2.2,rfl⟩
 ·rw[if_neg e];unfold EZ;rw[if_neg e];exact⟨rfl,rfl⟩
end Go.Lf.G
