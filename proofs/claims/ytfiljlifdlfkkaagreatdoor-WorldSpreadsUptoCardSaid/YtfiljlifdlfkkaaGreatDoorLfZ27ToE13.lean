/-
 Contracts: a host changes what is behind its fence, and tells numbers (chapter 18).
-/
import Derived.Test.YtfiljlifdlfkkaaGreatDoorLfC2ToZ26
import Derived.Test.YtfiljlifdlfkkaaGreatDoorLfKToGA
import Derived.Test.YtfiljlifdlfkkaaGreatDoorLfU2ToX2
set_option maxRecDepth 100000
set_option linter.unusedVariables false
set_option linter.unusedSimpArgs false
open Go.IntKind renaming i64→J9,wrap→J8
open Go.Value renaming string→J7,int→J6,pointer→J5,slice→J4,bool→J3,tuple→J1
open Go.Obj renaming cells→J2
open Go renaming Value→J0,Addr→Q6,TypeId→Q7,FuncId→Q8,Program→Q1
open Go.Addr renaming add→Q9,mk→Q5
namespace Go.Lf.G
open Go
open M (Sorted Ac Bt BF Ae Ak BH Ah aY A7 aF Aw)
section
variable {A : ao} {B : cX} {g h : aa} {s p bh bu : Nat} {q : Hp} {k : Nat -> Nat} {st : Db} {m : Bx} {D : YM} {bC c nn N : Nat} {name : A31} {au : Nat} {f u : Nat -> Nat} {R : A30}
def FE(a b:Nat)(name:A31):Pr:=⟨CQ a,Kk b name,false⟩
theorem Ob {mp:List Pr}{n r:Nat}{name:A31}:Bc mp (FE n r name)=((I5 mp (CQ n)).2&&decide ((I5 mp (CQ n)).1=Kk r name)):=rfl
theorem AUU {n:Nat}{conds sl:Sl}{e l:List Pr}(E:bL g)(y:F9 B g h s q k st m D bC c nn)(j:Dw g h k s p bh bu name au f u N)(an:n<256)(ao:f n<=2147483647)(hA:bC+3<=B.A)(ap:c+64<=B.C)(aq:nn+1<=1000000)(vc:View Be h conds e)(a9:e.length<=1000000)(v:View Be h sl l)(ar:l≠ []-> ∀b,sl.ag=some b->b<h.size/\k b=0/\b≠bh)(av: ∀x∈e,x.key.size<=1099511627776)
  (aw:f n=0->R (J6 J9 170) h)
  (ax:f n≠0->Bc (Dm st) (FE n (f n) name)=false-> ∀d,F9 B g d s q k st m D bC c nn->Dw g d k s p bh bu name au (dw f n 0) u N->Mod (λc=>h.size<=c\/c=bh) h d->R (J6 J9 170) d)
  (ay:f n≠0->Bc (Dm st) (FE n (f n) name)=true->df (Dm st) (FE n (f n) name::e) l≠0-> ∀d,Ext h d->R (J6 J9 (df (Dm st) (FE n (f n) name::e) l)) d)
  (az:f n≠0->Bc (Dm st) (FE n (f n) name)=true->df (Dm st) (FE n (f n) name::e) l=0-> ∀d F k' W aC aD,F.d=q.d->F.b=q.b->F9 B g d s F k' W aC aD (bC+3) (c+64) (nn+1)->Dm W=cu (Dm st) l->Dw g d k' s p bh bu name au f u N->Mod (λc=>k c≠0\/h.size<=c\/c=s) h d->(∀ c,k' c≠0->k c≠0\/h.size<=c)->R (J6 J9 0) d):
  AA A P GK #[Ar p,J6 J9 (n:Int),J4 conds.p conds.len conds.cap,J4 sl.p sl.len sl.cap] h R:=by
 refine AAx ?_;unfold TY;refine sA j ⟨_,rfl,ae.intro (λG=>?_) (λG=>?_)⟩
 ·exact aw (by simpa using G)
 have H:f n≠0:=by simpa using G
 refine aA (AL.mk (AB j.cell rfl) ?_);refine oJ (by omega) ao j.named λz aE=>⟨_,_,rfl,?_⟩
 refine UI an λba aF=>⟨_,rfl,?_⟩
 have aG:=aE.trans aF;refine aj.pair λb bb bc X aH bd=>?_
 have I:=aG.trans aH;have aI:=j.on I;have aJ:=y.on I;refine aA (AY.mk (AO aI.cell rfl) (AL.mk (AO X rfl) ?_));refine sy aJ (by rw[Kc];omega) λi Y=>⟨_,_,_,rfl,ae.no rfl ?_⟩
 have w:=I.trans Y;have o:=j.on w;have aK:=y.on w;have J:=Av Y X;have be:=w.size;have bf:=y.db.mem.ext.size;refine ah.mk λK Z=>?_
 have L:=Ob (mp:=Dm st) (n:=n) (r:=f n) (name:=name);have lost:Bc (Dm st) (FE n (f n) name)=false->K (true,()) i:=λaL=>by
  refine Z _ _ (ae.yes rfl (aA (Ed.mk (AB o.cell rfl) ?_)));refine o.strike λO aM aa=>⟨rfl,?_⟩
  have Q:=o.bz bh (.inr (.inl rfl));exact ax H aL O (aK.beside aa (λc a=>by subst a;exact⟨Q.1,Q.2.1⟩) λS=>Q.2.2 S.symm) aM ((w.ak λc _ a=>a.elim).trans (aa.ak λc _ a=> .inr a))
 have aN:Bc (Dm st) (FE n (f n) name)=true->K (false,()) i:=λab=>by
  refine Z _ _ (ae.no rfl (aA (AY.mk (AO o.cell rfl) (AL.mk (AO J rfl) (AL.mk (AB J rfl) (Aa.mk (AB J rfl) ?_))))));refine aj.mk λO _ aO T bg=>⟨AO (Av T o.cell) rfl,?_⟩
  have aP:Own Be AU O ⟨some ⟨i.size,0,none⟩,1,1⟩ [FE n (f n) name]:=Own.lit (E:=Be) (l:= [FE n (f n) name]) aO rfl (by simp[maxLen]);have ac:=w.trans T;refine II (E:=Be) (s:=⟨some ⟨i.size,0,none⟩,1,1⟩) (src:=conds) M.IR aP (vc.ext ac) (by simp only[Ax,Hc];omega) (by simp only[Ax,Hc,maxLen];omega) λaQ af aR ag bi _=>?_
  have t:Ext h af:=ac.then (ag.ak λc _ a=> .inr (by have:i.size=c:=(by simpa [Sl.ag] using a);omega));have aS:Ext i af:=T.then (ag.ak λc _ a=> .inr (by have:i.size=c:=(by simpa [Sl.ag] using a);omega));have aT:=y.on t;have aU:=j.on t;refine⟨AO (Av aS o.cell) rfl,?_⟩;have bj:=t.size;have aV: ∀x∈ [FE n (f n) name]++e,x.key.size<=1099511627776:=λx aW=>by
   rcases List.mem_append.1 aW with h|h
   ·rw[List.mem_singleton.1 h];show(CQ n).size<=_;rw[Kc];omega
   ·exact av x h
  refine APb (B:=B) (conds:=aQ) (sl:=sl) E aT hA ap aq aR.view (v.ext t) (λU aX aY=>by
   have:=ar U aX aY;exact⟨by omega,this.2.1⟩) aV (λU V aZ=>⟨_,rfl,ay H ab U V (t.trans aZ)⟩) λa0 V a1 ai a2 a3 a4 a5 a6 a7 a8 ak al=>⟨_,rfl,?_⟩
  refine az H ab a0 V a1 ai a2 a3 a4 a5 a6 a7 a8 (aU.step (k':=ai) ak (λc a=>by
   rcases a with h|h|h
   ·exact .inl h
   ·exact .inr (.inl h)
   ·exact .inr (.inr (.inl h))) al) ((t.ak λc _ a=>a.elim).trans (ak.ak λc _ a=>by
   rcases a with h|h|h
   ·exact .inl h
   ·exact .inr (.inl (by omega))
   ·exact .inr (.inr h))) λc a=>?_
  rcases al c a with h|h
  ·exact .inl h
  ·exact .inr (by omega)
 refine ae.intro (λz=>?_) (λz=>?_)
 ·refine lost ?_;have S:(I5 (Dm st) (CQ n)).2=false:=by simpa using z
  rw[L,S];rfl
 ·have am:(I5 (Dm st) (CQ n)).2=true:=by simpa using z
  cases C:bD (I5 (Dm st) (CQ n)).1 (Kk (f n) name) with
  |true=>
   refine aN ?_;rw[Bj] at C;rw[L,am,C];rfl
  |false=>
   refine lost ?_;rw[Bj] at C;rw[L,am,C];rfl
theorem AVq {a:Nat}(h:a<=2147483647):J8 .u64 ((J8 .u64 (a:Int))*((2:Int)^(24:Nat)))=((a*16777216:Nat):Int):=by rw[CJ (by omega),show((a:Int)*(2:Int)^(24:Nat))=((a*16777216:Nat):Int) from by rw[show((2:Int)^(24:Nat))=((16777216:Nat):Int) from by decide];simp];exact CJ (by omega)
theorem ox {a b:Nat}(d:a<18446744073709551616)(e:b<18446744073709551616):dK .u64 (a:Int) (b:Int)=((a ||| b:Nat):Int):=by
 have h:a ||| b<2^64:=ID (by simpa using d) (by simpa using e);unfold dK;have i:(BitVec.ofInt (IntKind.bits .u64) (a:Int) ||| BitVec.ofInt (IntKind.bits .u64) (b:Int)).toNat=a ||| b:=by show(BitVec.ofInt 64 (a:Int) ||| BitVec.ofInt 64 (b:Int)).toNat=a ||| b;rw[BitVec.toNat_or,BitVec.ofInt_natCast,BitVec.ofInt_natCast,BitVec.toNat_ofNat,BitVec.toNat_ofNat,A5 (by simpa using d),A5 (by simpa using e)]
 rw[i];exact CJ (by simpa using h)
theorem AU9 {a x:Nat}(h:a<=2147483647)(d:x<16777216):dK .u64 ((a*16777216:Nat):Int) (x:Int)=((a*16777216+x:Nat):Int):=by rw[ox (by omega) (by omega)];congr 1;have:=A0G (i:=24) (b:=x) (by simpa using d) a;rw[show 2^24*a=a*16777216 from by rw[Cl]] at this;exact this.symm
theorem AMB {a:Nat}(b:Dw g h k s p bh bu name au f u N)(t:f a<=2147483647)(y:u a+1<16777216)(z:N+1<=1000000)
  (C:f a=0->R (.int .u64 0) h)
  (E:f a≠0-> ∀e,Dw g e k s p bh bu name au f (dw u a (u a+1)) (N+1)->Mod (λc=>c=bu) h e->R (.int .u64 ((f a*16777216+(u a+1):Nat):Int)) e):
  AA A P Gt #[Ar p,J6 J9 (a:Int)] h R:=by
 refine Vi ?_;unfold Nq;refine sA b ⟨_,rfl,ae.intro (λi=>?_) (λi=>?_)⟩
 ·exact C (by simpa using i)
 have F:f a≠0:=by simpa using i
 obtain⟨G,v,L,w⟩:=b.used;obtain⟨H,I,M,j⟩:=b.held;refine aA (Ed.mk (AB b.cell rfl) ?_);refine MQ lZ gZ oL v ⟨_,w a,?_⟩;rw[show((u a:Nat):Int)+(1:Int)=((u a+1:Nat):Int) from by omega,CJ (by omega)];refine ALV lZ gZ v (by have:=b.cA;simp only[maxLen];omega) λJ l n O=>?_
 have o:=I.mod n b.ne;have d:=n.ag b.cell b.mE.2;have x: ∀m:Nat,(Lx m (UK a (.int .u64 ((u a+1:Nat):Int)) G)).getD (.int .u64 0)= .int .u64 (dw u a (u a+1) m:Int):=λm=>AKD w m
 have K:dw u a (u a+1) a=u a+1:=by unfold dw;rw[if_pos rfl]
 have key:dK .u64 (J8 .u64 ((J8 .u64 (f a:Int))*((2:Int)^(24:Nat)))) ((u a+1:Nat):Int)=((f a*16777216+(u a+1):Nat):Int):=by rw[AVq t,AU9 t y]
 have fin:=E F J ⟨d,⟨H,o,by omega,j⟩,⟨_,l,AK Yw (by omega),x⟩,b.bz,b.ne,b.named,b.sh,z⟩ n;rw[<- key] at fin;have r:=x a;rw[K] at r;refine aA (Ed.mk (AB d rfl) (aA (Ed.mk (AB d rfl) ⟨?_,?_⟩)))
 ·refine MQ lY gZ oK o ⟨_,j a,⟨AB d rfl,?_⟩⟩;exact MQ lZ gZ oL l ⟨_,r,⟨AB d rfl,fin⟩⟩
 ·refine MQ lZ gZ oL l ⟨_,r,⟨AB d rfl,?_⟩⟩;exact MQ lY gZ oK o ⟨_,j a,⟨AB d rfl,fin⟩⟩
theorem Gp.laid {b:List Pr}(e:Sorted b){d a:Nat}(i:1<=a)(j:a<=2147483647)(l:Am name=true):Gp (cu b [⟨CQ d,Kk a name,false⟩]) d a name:=by refine .inr ⟨i,j,l,?_⟩;unfold I5;rw[show cu b [⟨CQ d,Kk a name,false⟩]=eL b ⟨CQ d,Kk a name,false⟩ from rfl,Pn e,if_pos rfl,IG];rfl
theorem Gp.other {a:List Pr}(j:Sorted a){b e:Nat}{i key val:A31}{d:Bool}(l:Gp a b e i)(n:key≠CQ b):Gp (cu a [⟨key,val,d⟩]) b e i:=by
 have o:I5 (cu a [⟨key,val,d⟩]) (CQ b)=I5 a (CQ b):=by unfold I5;rw[show cu a [⟨key,val,d⟩]=eL a ⟨key,val,d⟩ from rfl,Pn j,if_neg n]
 unfold Gp;rw[o];exact l
theorem Gp.holds {b:List Pr}{d a:Nat}(i:Gp b d a name)(j:1<=a):Bc b (FE d a name)=true:=by
 rw[Ob];rcases i with⟨h,_,e⟩|⟨_,l,_,e⟩
 ·omega
 ·rw[e];simp
end
structure Hs where
 p:Nat
 bh:Nat
 bu:Nat
 name:A31
 f:Nat->Nat
 u:Nat->Nat
def Hs.bz(x:Hs)(c:Nat):Prop:=c=x.p\/c=x.bh\/c=x.bu
structure j4 (g h:aa) (k:Nat->Nat) (s sh N:Nat) (l:List Hs):Prop where
 host: ∀(i:Nat) x,l[i]? =some x->Dw g h k s x.p x.bh x.bu x.name sh x.f x.u N
 jq: ∀(i j:Nat) x y,l[i]? =some x->l[j]? =some y->i≠j-> ∀c,x.bz c-> ¬y.bz c
def LW(B:cX)(g h:aa)(s a N sh:Nat)(l:List Hs)(mp:List Pr)(O:Nat->Prop):Prop:=
 ∃(q:Hp) (b:Nat->Nat) (st:Db) (m:Bx) (d:YM) (nn:Nat),F9 B g h s q b st m d (1+3*a) (64*a) nn/\nn<=a/\Dm st=mp/\j4 g h b s sh N l/\N<=1000000/\ ∀c,O c->b c=0/\c<h.size/\g.size<=c/\c≠s/\ ∀x∈l,¬x.bz c
section
variable {A : ao} {B : cX} {g h : aa} {s a N sh : Nat} {l : List Hs} {mp : List Pr} {O : Nat -> Prop} {R : A30}
theorem j4.step {d:aa}{b k':Nat->Nat}{e:Nat->Prop}(f:j4 g h b s sh N l)(k:Mod e h d)(m: ∀c,e c->b c≠0\/h.size<=c\/c=s\/ ∀x∈l,¬x.bz c)(n: ∀c,k' c≠0->b c≠0\/h.size<=c):j4 g d k' s sh N l:=
 ⟨λi x j=>(f.host i x j).step k (λc o=>by
  rcases m c o with h|h|h|h
  ·exact .inl h
  ·exact .inr (.inl h)
  ·exact .inr (.inr (.inl h))
  ·exact .inr (.inr (.inr (h x (AG j))))) n,f.jq⟩
theorem j4.set {h':aa}{k m:Nat->Nat}{S:Nat->Prop}{i j:Nat}{x x':Hs}(n:j4 g h k s sh N l)(o:l[i]? =some x)(u:Mod S h h')(v: ∀c,S c->k c≠0\/h.size<=c\/c=s\/x.bz c)(w: ∀c,m c≠0->k c≠0\/h.size<=c)(y:Dw g h' m s x'.p x'.bh x'.bu x'.name sh x'.f x'.u j)(z: ∀c,x'.bz c↔x.bz c)(q:N<=j/\j<=1000000):j4 g h' m s sh j (l.set i x'):=by
 have r:=(List.getElem?_eq_some_iff.1 o).1;refine⟨λd e b=>?_,λC D P Q E F G c p=>?_⟩
 ·by_cases f:i=d
  ·subst f;rw[DM r] at b;cases b;exact y
  ·rw[DP f] at b;refine((n.host d e b).step u (λc p=>?_) w).more q.1 q.2;rcases v c p with h|h|h|h
   ·exact .inl h
   ·exact .inr (.inl h)
   ·exact .inr (.inr (.inl h))
   ·exact .inr (.inr (.inr (n.jq i d x e o b f c h)))
 ·have go: ∀ {d:Nat} {e:Hs},(l.set i x')[d]? =some e-> ∃t,l[d]? =some t/\ ∀c,e.bz c↔t.bz c:=λ{d e} b=>by
   by_cases f:i=d
   ·subst f;rw[DM r] at b;cases b;exact⟨x,o,z⟩
   ·rw[DP f] at b;exact⟨e,b,λ_=>CA⟩
  obtain⟨H,I,J⟩:=go E;obtain⟨K,L,M⟩:=go F;exact λh=>n.jq C D H K I L G c ((J c).1 p) ((M c).1 h)
theorem LW.ext(b:LW B g h s a N sh l mp O):Ext g h:=by obtain⟨q,d,st,m,e,nn,c,_⟩:=b;exact c.db.mem.ext
theorem LW.sorted(b:LW B g h s a N sh l mp O):Sorted mp:=by obtain⟨q,d,st,m,D,nn,c,_,rfl,_⟩:=b;exact c.db.sorted
theorem LW.own {e:aa}{O':Nat->Prop}(k:LW B g h s a N sh l mp O)(f:Mod O h e)(n: ∀c,O' c->O c\/(h.size<=c/\c<e.size)):LW B g e s a N sh l mp O':=by
 obtain⟨q,o,st,m,p,nn,d,r,t,j,u,out⟩:=k;have G:=d.db.mem.ext.size;have H:=f.size;have I:=d.lt;refine⟨q,o,st,m,p,nn,d.beside f (λc b=>⟨(out c b).1,(out c b).2.2.1⟩) (λh=>(out s h).2.2.2.1 rfl),r,t,j.step f (λc b=> .inr (.inr (.inr (out c b).2.2.2.2))) (λc b=> .inl b),u,λc b=>?_⟩;rcases n c b with h|⟨v,w⟩
 ·obtain⟨y,J,z,C,D⟩:=out c h;exact⟨y,by omega,z,C,D⟩
 ·refine⟨d.db.free v,w,by omega,by omega,λx E F=>?_⟩;obtain⟨i,hi⟩:=DB E;have:=(j.host i x hi).lt c F;omega
theorem LW.on {b:aa}(d:LW B g h s a N sh l mp O)(x:Ext h b):LW B g b s a N sh l mp O:=d.own (x.ak λ_ _ h=>h.elim) λc e=> .inl e
theorem LW.less {O':Nat->Prop}(b:LW B g h s a N sh l mp O)(d: ∀c,O' c->O c):LW B g h s a N sh l mp O':=by obtain⟨q,e,st,m,f,nn,i,j,k,n,o,out⟩:=b;exact⟨q,e,st,m,f,nn,i,j,k,n,o,λc p=>out c (d c p)⟩
theorem LW.put {b c:Nat}(W:LW B g h s a N sh l mp O)(t:a<=b)(f:64*b<=B.C)(j:N<=c)(d:c<=1000000):LW B g h s b c sh l mp O:=by obtain⟨q,k,st,m,n,nn,o,u,p,e,v,out⟩:=W;exact⟨q,k,st,m,n,nn,o.put (by omega) (by omega) f,by omega,p,⟨λi x r=>(e.host i x r).more j d,e.jq⟩,d,out⟩
abbrev aR(g:aa)(O:Nat->Prop):Nat->Prop:=λc=>g.size<=c/\ ¬O c
theorem LW.dF {b:aa}{y:Nat->Prop}{i a' e nn o:Nat}{x x':Hs}{q z:Hp}{d f:Nat->Nat}{st p:Db}{m C:Bx}{L D:YM}(j:F9 B g h s q d st m L (1+3*a) (64*a) nn)(E:j4 g h d s sh N l)(out: ∀c,O c->d c=0/\c<h.size/\g.size<=c/\c≠s/\ ∀x∈l,¬x.bz c)
  (r:l[i]? =some x) (M:F9 B g b s z f p C D (1+3*a') (64*a') o) (P:o<=a') (t:Mod y h b) (u: ∀c,y c->d c≠0\/h.size<=c\/c=s\/x.bz c) (F: ∀c,f c≠0->d c≠0\/h.size<=c) (Q:Dw g b f s x'.p x'.bh x'.bu x'.name sh x'.f x'.u e) (G: ∀c,x'.bz c↔x.bz c) (H:N<=e/\e<=1000000):
  LW B g b s a' e sh (l.set i x') (Dm p) O/\Mod (aR g O) h b:=by
 have X:=j.db.mem.ext.size;have Y:=j.lt;have Z:=t.size;have I:=AG r;refine⟨⟨z,f,p,C,D,o,M,P,rfl,E.set r t u F Q G H,H.2,λc k=>?_⟩,t.ak λc ab k=>⟨?_,λS=>?_⟩⟩
 ·obtain⟨v,T,J,w,n⟩:=out c k;refine⟨Decidable.byContradiction λU=>?_,by omega,J,w,λV W K=>?_⟩
  ·rcases F c U with h|h
   ·exact h v
   ·omega
  ·rcases OS W with h|rfl
   ·exact n V h K
   ·exact n x I ((G c).1 K)
 ·rcases u c k with h|h|h|h
  ·exact(j.db.mem.own c h).1
  ·omega
  ·have:=j.base;omega
  ·exact((E.host i x r).bz c h).2.1
 ·obtain⟨v,T,J,w,n⟩:=out c S;rcases u c k with h|h|h|h
  ·exact h v
  ·omega
  ·exact w h
  ·exact n x I h
theorem LW.host {name:A31}(E:LW B g h s a N sh l mp O)(F:Am name=true)(G:1<=sh/\sh<=16)
  (H: ∀j p k n,LW B g j s a N sh (l++ [⟨p,k,n,name,λ_=>0,λ_=>0⟩]) mp O->Ext h j->R (J1 #[Ar p,J6 J9 0]) j):AA A P QS #[Ar s,J7 name,J6 J9 (sh:Int)] h R:=by
 obtain⟨q,I,st,m,J,nn,w,K,L,o,y,out⟩:=E;refine AS5 w F G λj p k n M fresh x=>H j p k n ⟨q,I,st,m,J,nn,w.on x,K,L,⟨λi d b=>?_,λi e z C Q S T c f u=>?_⟩,y,λc f=>?_⟩ x
 ·rw[List.getElem?_append] at b;split at b
  ·exact(o.host i d b).on x
  ·rw[A0N] at b;split at b
   ·cases b;exact M.more (A6 _) y
   ·cases b
 ·have go: ∀ {e:Nat} {d:Hs},(l++ [⟨p,k,n,name,λ_=>0,λ_=>0⟩])[e]? =some d->(e<l.length/\l[e]? =some d)\/(e=l.length/\ ∀c,d.bz c->h.size<=c):=λ{e d} b=>by
   rw[List.getElem?_append] at b;split at b
   ·rename_i D;exact .inl ⟨D,b⟩
   ·rename_i D;rw[A0N] at b;split at b
    ·rename_i aa;cases b;exact .inr ⟨by omega,λc f=>(fresh c f).1⟩
    ·cases b
  rcases go Q with⟨U,r⟩|⟨U,r⟩<;>rcases go S with⟨V,t⟩|⟨V,t⟩
  ·exact o.jq i e z C r t T c f u
  ·have:=(o.host i z r).lt c f;have:=t c u;omega
  ·have:=(o.host e C t).lt c u;have:=r c f;omega
  ·omega
 ·obtain⟨W,ab,X,Y,Z⟩:=out c f;have:=x.size;refine⟨W,by omega,X,Y,λd b v=>?_⟩;rcases List.mem_append.1 b with h|h
  ·exact Z d h v
  ·rw[List.mem_singleton.1 h] at v;have:=(fresh c v).1;omega
def Hs.mw(x:Hs)(b c:Nat):Hs:= {x with f:=dw x.f b c,u:=dw x.u b 0}
def Hs.lost(x:Hs)(b:Nat):Hs:= {x with f:=dw x.f b 0}
def Hs.jf(x:Hs)(b:Nat):Hs:= {x with u:=dw x.u b (x.u b+1)}
theorem LW.holds {i b:Nat}{x:Hs}(c:LW B g h s a N sh l mp O)(d:l[i]? =some x)(e:R (J6 J9 (x.f b:Int)) h):AA A P BZ #[Ar x.p,J6 J9 (b:Int)] h R:=by obtain⟨q,j,st,m,k,nn,n,o,p,f,r,out⟩:=c;exact sA (f.host i x d) e
theorem LW.look {i b c:Nat}{x:Hs}{d:A31}(f:LW B g h s a N sh l mp O)(j:l[i]? =some x)(k:b<sh)(n:Gp mp b c d)(o: ∀e,Ext h e->R (J1 #[J6 J9 (c:Int),J7 d,J6 J9 0]) e):AA A P GY #[Ar x.p,J6 J9 (b:Int)] h R:=by obtain⟨q,t,st,m,u,nn,p,v,rfl,r,w,out⟩:=f;exact AJq p (r.host i x j) k n o
theorem LW.acquire {i b d:Nat}{x:Hs}{o:A31}(p:bL g)(r:LW B g h s a N sh l mp O)(f:l[i]? =some x)(t:b<sh)(u:Gp mp b d o)(v:d+1<=2147483647)(hA:4+3*a<=B.A)(H:64*a+64<=B.C)(I:a+1<=1000000)(j:N+1<=1000000)
  (w: ∀e,LW B g e s (a+1) (N+1) sh (l.set i (x.mw b (d+1))) (cu mp [⟨CQ b,Kk (d+1) x.name,false⟩]) O->Mod (aR g O) h e->R (J1 #[J6 J9 ((d+1:Nat):Int),J6 J9 0]) e):
  AA A P Ey #[Ar x.p,J6 J9 (b:Int)] h R:=by
 obtain⟨q,J,st,m,K,nn,k,L,rfl,n,M,out⟩:=r;have y:=n.host i x f;refine AKY p k y t u v (by omega) (by omega) (by omega) j λe Q S T U V W X z C D E F=>?_
 have:=LW.dF (x':=x.mw b (d+1)) (a':=a+1) k n out f (z.put (by omega) (by omega) (by omega)) (by omega) E (λc G=>by
  rcases G with h|h|h|h|h
  ·exact .inl h
  ·exact .inr (.inl h)
  ·exact .inr (.inr (.inl h))
  ·exact .inr (.inr (.inr (.inr (.inl h))))
  ·exact .inr (.inr (.inr (.inr (.inr h))))) F D (λ_=>CA) ⟨Ge _,j⟩
 rw[C] at this;exact w e this.1 this.2
theorem LW.number {i b:Nat}{x:Hs}(t:LW B g h s a N sh l mp O)(j:l[i]? =some x)(u:x.f b<=2147483647)(v:x.u b+1<16777216)(k:N+1<=1000000)
  (w:x.f b=0->R (.int .u64 0) h)
  (y:x.f b≠0-> ∀d,LW B g d s a (N+1) sh (l.set i (x.jf b)) mp O->Mod (aR g O) h d->R (.int .u64 ((x.f b*16777216+(x.u b+1):Nat):Int)) d):
  AA A P Gt #[Ar x.p,J6 J9 (b:Int)] h R:=by
 obtain⟨q,F,st,m,G,nn,n,z,rfl,o,H,out⟩:=t;have p:=o.host i x j;refine AMB p u v k w λC d D r=>?_
 have f:=p.bz x.bu (.inr (.inr rfl));have:=LW.dF (x':=x.jf b) n o out j (n.beside r (λc e=>by subst e;exact⟨f.1,f.2.1⟩) λE=>f.2.2 E.symm) z r (λc e=> .inr (.inr (.inr (.inr (.inr e))))) (λc e=> .inl e) D (λ_=>CA) ⟨Ge _,k⟩;exact y C d this.1 this.2
theorem LW.change {i d:Nat}{x:Hs}{conds sl:Sl}{cl lp:List Pr}(z:bL g)(C:LW B g h s a N sh l mp O)(f:l[i]? =some x)(D:d<256)(E:x.f d<=2147483647)(hA:4+3*a<=B.A)(ab:64*a+64<=B.C)(ac:a+1<=1000000)(vc:View Be h conds cl)(F:cl.length<=1000000)(v:View Be h sl lp)(G:lp≠ []-> ∀b,sl.ag=some b->b<g.size\/O b)(H: ∀x∈cl,x.key.size<=1099511627776)
  (I:x.f d=0->R (J6 J9 170) h)
  (J:x.f d≠0->Bc mp (FE d (x.f d) x.name)=false-> ∀e,LW B g e s a N sh (l.set i (x.lost d)) mp O->Mod (aR g O) h e->R (J6 J9 170) e)
  (K:x.f d≠0->Bc mp (FE d (x.f d) x.name)=true->df mp (FE d (x.f d) x.name::cl) lp≠0-> ∀e,Ext h e->R (J6 J9 (df mp (FE d (x.f d) x.name::cl) lp)) e)
  (L:x.f d≠0->Bc mp (FE d (x.f d) x.name)=true->df mp (FE d (x.f d) x.name::cl) lp=0-> ∀e,LW B g e s (a+1) N sh l (cu mp lp) O->Mod (aR g O) h e->R (J6 J9 0) e):
  AA A P GK #[Ar x.p,J6 J9 (d:Int),J4 conds.p conds.len conds.cap,J4 sl.p sl.len sl.cap] h R:=by
 obtain⟨q,ae,st,m,af,nn,j,M,rfl,n,w,out⟩:=C;have y:=n.host i x f;have ag:=j.db.mem.ext.size;refine AUU z j y D E (by omega) (by omega) (by omega) vc F v (λQ b S=>?_) H I (λo T e p r t=>?_) K λo U V e ah ai aj ak al am an p W r t X=>?_
 ·rcases G Q b S with h|h
  ·refine⟨by omega,j.db.base h,?_⟩;have:=(y.bz x.bh (.inr (.inl rfl))).2.1;omega
  ·obtain⟨Y,Z,ao,ap,aa⟩:=out b h;exact⟨Z,Y,λu=>aa x (AG f) (.inr (.inl u))⟩
 ·have:=LW.dF (x':=x.lost d) j n out f p M t (λc k=>by
   rcases k with h|h
   ·exact .inr (.inl h)
   ·exact .inr (.inr (.inr (.inr (.inl h))))) (λc k=> .inl k) r (λ_=>CA) ⟨A0 _,w⟩
  exact J o T e this.1 this.2
 ·have:=LW.dF (x':=x) (a':=a+1) j n out f (p.put (by omega) (by omega) (by omega)) (by omega) t (λc k=>by
   rcases k with h|h|h
   ·exact .inl h
   ·exact .inr (.inl h)
   ·exact .inr (.inr (.inl h))) X r (λ_=>CA) ⟨A0 _,w⟩
  rw[W,show l.set i x=l from by
   obtain⟨hi,u⟩:=List.getElem?_eq_some_iff.1 f;rw[<- u,OR]] at this
  exact L o U V e this.1 this.2
end
abbrev cq:=A31->Option (List Ev)
abbrev cL:=A31->Option (List UInt8×Int×Int)
def BM(l:List Ev):bj:=(Eb SC l).getD SC
structure Ng (l:List Ev):Prop where
 ne:l≠ []
 len:l.length<=500
 kd: ∀e∈l,jw e.kind
 ok:Eb SC l=some (BM l)
 st:0<=(BM l).status/\(BM l).status<=4
theorem Ng.next {l:List Ev}(b:Ng l):(BM l).next=l.length+1/\ ∀(i:Nat) (a:Ev),l[i]? =some a->a.id=i+1/\Ea a=true:=yL b.ok b.ne
def TZ(wid:A31)(l:List Ev):List Pr:=l.map (OI wid)
def UQ(wid:A31)(l:List Ev):Pr:=⟨KD wid,RG (BM l).status.toNat (BM l).next.toNat false,false⟩
def Zh(a:A31)(x:List UInt8×Int×Int):Pr:=⟨KS a,iy x.1 x.2.1.toNat x.2.2.toNat,false⟩
structure I4 (mp:List Pr) (fl:cq) (an:cL):Prop where
 cw: ∀wid,Am wid=true-> ∀k,Ky (Xx wid) k=true->Ac k mp=Ac k (TZ wid ((fl wid).getD []))
 fF: ∀wid,Am wid=true->Ac (KD wid) mp=(fl wid).map (UQ wid)
 jT: ∀bg,Am bg=true->Ac (KS bg) mp=(an bg).map (Zh bg)
 cJ: ∀wid l,fl wid=some l->Ng l
 jU: ∀bg x,an bg=some x->(0<=x.2.1/\x.2.1<=4)/\(0<=x.2.2/\x.2.2<=501)/\x.1.length<=2000
theorem FV {s:A31}(a:Am s=true):s.size<=16:=(Gb.1 a).2.1
theorem Rt {wid:A31}{l:List Ev}{i:Nat}{p:Pr}(b:(TZ wid l)[i]? =some p): ∃a,l[i]? =some a/\p=OI wid a:=by unfold TZ at b;rw[AN] at b;obtain⟨a,c,rfl⟩:=Option.map_eq_some_iff.1 b;exact⟨a,c,rfl⟩
theorem Q4 {wid:A31}{l:List Ev}(b: ∀(i:Nat) (a:Ev),l[i]? =some a->a.id=i+1/\Ea a=true){i:Nat}{a:Ev}(c:l[i]? =some a):(OI wid a).key=dR wid (i+1):=by unfold OI;rw[(b i a c).1];rfl
theorem YZ {wid:A31}{l:List Ev}(h:l.length<=500)(c: ∀(i:Nat) (a:Ev),l[i]? =some a->a.id=i+1/\Ea a=true):Sorted (TZ wid l):=by unfold Sorted;rw[List.pairwise_iff_getElem];intro i j hi b k;obtain⟨a,d,e⟩:=Rt (A2 hi);obtain⟨m,f,g⟩:=Rt (A2 b);rw[e,g,Q4 c d,Q4 c f];unfold TZ at b;rw[AF] at b;exact lK (by omega) (by omega)
theorem kZ {q:A31->Bool}{a:A31}: ∀ {l:List Pr},Ac a (l.filter λx=>q x.key)=if q a=true then Ac a l else none
 | []=>by simp[M.RA]
 |x::l=>by
  rw[AT];by_cases b:x.key=a
  ·subst b;split
   ·rw[M.BB,M.BB,if_pos rfl,if_pos rfl]
   ·rename_i c;rw[kZ,if_neg c]
  ·split
   ·rw[M.BB,if_neg b,kZ,M.BB,if_neg b]
   ·rw[kZ,M.BB,if_neg b]
theorem AOg {a:A31}{b:Nat}{l:List Pr}(c: ∀x∈l.take b,x.key≠a):Ac a (l.drop b)=Ac a l:=by
 conv=>rhs;rw[<- F1 b l]
 rw[M.Ld,M.EE c,Mb]
theorem ARa {j:List Pr}{o:cq}{t:cL}{wid:A31}{l:List Ev}{d:Nat}(s:Sorted j)(k:I4 j o t)(u:Am wid=true)(m:o wid=some l)(z:d<=l.length):
  iZ j (Xx wid) (dR wid (d+1)) 32=((TZ wid l).drop d).take 32:=by
 have g:=(k.cJ wid l m).next.2;have v:=(k.cJ wid l m).len;unfold iZ;rw[show(32:Int).toNat=32 from rfl];congr 1;refine Sorted.ext (s.sublist Hh) ((YZ v g).sublist (List.drop_sublist _ _)) λb=>?_
 rw[kZ (q:=λb=>Ky (Xx wid) b&& !aG b (dR wid (d+1)))];by_cases h:Ky (Xx wid) b=true
 ·rw[h,Ek];have p:=k.cw wid u b h;rw[m,HR] at p;by_cases e:aG b (dR wid (d+1))=true
  ·rw[e,if_neg (by simp)]
   symm
   refine M.EE λx f a=>?_
   obtain⟨i,hi⟩:=DB f;rw[C5] at hi;obtain⟨r,c,rfl⟩:=Rt hi;rw[Q4 g c] at a;subst a;have w:=(List.getElem?_eq_some_iff.1 c).1;by_cases y:i=0
   ·subst y;rw[CT,CS] at e;cases e
   ·have:=Oi e;rw[lK (by omega) (by omega)] at this;cases this
  ·have n:aG b (dR wid (d+1))=false:=by simpa using e
   rw[n,if_pos (by rfl),p]
   symm
   refine AOg λx f a=>?_
   obtain⟨i,hi⟩:=DB f;rw[Fo] at hi;split at hi
   ·rename_i A;obtain⟨r,c,rfl⟩:=Rt hi;have w:=(List.getElem?_eq_some_iff.1 c).1;rw[Q4 g c] at a;subst a;rw[lK (by omega) (by omega)] at n;cases n
   ·cases hi
 ·rw[if_neg (by simp[h])]
  symm
  refine M.EE λx f a=>?_
  obtain⟨i,hi⟩:=DB f;rw[C5] at hi;obtain⟨r,c,rfl⟩:=Rt hi;rw[Q4 g c] at a;subst a;exact h (yQ wid _)
theorem KP {a:A31}{b m:List Pr}(s:Sorted m)(c: ∀q∈b,q.key≠a):Ac a (cu m b)=Ac a m:=by rw[ZU a s,M.EE λx d=>c x (List.mem_reverse.1 d)]
theorem mM {b m:List Pr}(s:Sorted m){p:Pr}(c:p∈b)(d: ∀q∈b,q.key=p.key->q=p):Ac p.key (cu m b)=if p.gone then none else some p:=by
 rw[ZU p.key s];cases a:Ac p.key b.reverse with
 |none=>
  exfalso;unfold Ac at a;rw[Hi] at a;have:=a p (List.mem_reverse.2 c);simp at this
 |some q=>
  obtain⟨e,f⟩:=M.MW a;obtain rfl:=d q (List.mem_reverse.1 f) e;show alive (some q)=_;rw[IG]
def cT {a:Type}(f:A31->Option a)(b:A31)(x:a):A31->Option a:=λq=>if q=b then some x else f q
theorem Hm {a:Type}{f:A31->Option a}{b:A31}{x:a}:cT f b x b=some x:=if_pos rfl
theorem Rw {a:Type}{f:A31->Option a}{b q:A31}{x:a}(c:q≠b):cT f b x q=f q:=if_neg c
def pF {a:Type}(f:A31->Option a):Option (A31×a)->A31->Option a
 |none=>f
 |some (b,x)=>cT f b x
structure eY (b:List Pr) (o:Option (A31×(List UInt8×Int×Int))):Prop where
 ey: ∀p∈b,(BG p.key≠104/\BG p.key≠119/\BG p.key≠114)\/ ∃r x,o=some (r,x)/\p=Zh r x
 has: ∀r x,o=some (r,x)->Zh r x∈b/\Am r=true/\(0<=x.2.1/\x.2.1<=4)/\(0<=x.2.2/\x.2.2<=501)/\x.1.length<=2000
theorem I4.land {E b:List Pr}{g:cq}{z:cL}{wid:A31}{more:List Ev}{t:Option (A31×(List UInt8×Int×Int))}(o:I4 E g z)(s:Sorted E)(F:Am wid=true)
  (n:Ng ((g wid).getD []++more)) (A:eY b t):
  I4 (cu E (more.map (OI wid)++([UQ wid ((g wid).getD []++more)]++b))) (cT g wid ((g wid).getD []++more)) (pF z t):=by
 have L:=n.next.2;have O:=n.len;have u: ∀p∈b,BG p.key≠104/\BG p.key≠119:=λp B=>by
  rcases A.ey p B with a|⟨f,x,_,rfl⟩
  ·exact⟨a.1,a.2.1⟩
  ·exact⟨by show BG (KS f)≠104;rw[Jw];decide,by show BG (KS f)≠119;rw[Jw];decide⟩
 have rowAt: ∀e∈more,∃i:Nat,((g wid).getD []++more)[i]? =some e/\(OI wid e).key=dR wid (i+1):=λe P=>by
  obtain⟨i,hi⟩:=DB P;have:((g wid).getD []++more)[((g wid).getD []).length+i]? =some e:=by rw[DE (by omega),Nat.add_sub_cancel_left];exact hi
  exact⟨_,this,Q4 L this⟩
 refine⟨λd v C w=>?_,λd v=>?_,λf N=>?_,λd l D=>?_,λf x k=>?_⟩
 ·have j:=rE w;by_cases e:d=wid
  ·subst e;rw[Hm,HR];by_cases G: ∃p∈more.map (OI d),p.key=C
   ·obtain⟨p,B,rfl⟩:=G;obtain⟨m,y,rfl⟩:=List.mem_map.1 B;obtain⟨i,hi,Q⟩:=rowAt m y;have R:OI d m∈TZ d ((g d).getD []++more):=List.mem_map.2 ⟨m,AG hi,rfl⟩;rw[Sorted.find (YZ O L) R,mM s (Hj _ B) (λq h c=>?_)]
    ·rfl
    ·rcases List.mem_append.1 h with a|a
     ·obtain⟨S,T,rfl⟩:=List.mem_map.1 a;obtain⟨U,H,V⟩:=rowAt S T;have Y:=(List.getElem?_eq_some_iff.1 hi).1;have Z:=(List.getElem?_eq_some_iff.1 H).1;rw[Q,V] at c;have:=(ASM (FV F) (FV F) (by omega) (by omega) c).2;have:U=i:=by omega
      subst this;rw[hi] at H;cases H;rfl
     ·rcases List.mem_append.1 a with a|a
      ·rw[List.mem_singleton.1 a] at c;rw[<- c] at j;rw[show BG (UQ d ((g d).getD []++more)).key=119 from Fh d] at j;exact absurd j (by decide)
      ·exact absurd (by rw[c];exact j) (u q a).1
   ·rw[KP s λq h c=>?_,o.cw d v C w]
    ·unfold TZ;rw[Bs,M.Ld,M.EE (l:=more.map (OI d)) λx k W=>G ⟨x,k,W⟩];cases Ac C (List.map (OI d) ((g d).getD []))<;>rfl
    ·rcases List.mem_append.1 h with a|a
     ·exact G ⟨q,a,c⟩
     ·rcases List.mem_append.1 a with a|a
      ·rw[List.mem_singleton.1 a] at c;rw[<- c] at j;rw[show BG (UQ d ((g d).getD []++more)).key=119 from Fh d] at j;exact absurd j (by decide)
      ·exact absurd (by rw[c];exact j) (u q a).1
  ·rw[Rw e,KP s λq h c=>?_,o.cw d v C w];rcases List.mem_append.1 h with a|a
   ·obtain⟨m,y,rfl⟩:=List.mem_map.1 a;rw[<- c] at w;exact e (yR (FV v) (FV F) w)
   ·rcases List.mem_append.1 a with a|a
    ·rw[List.mem_singleton.1 a] at c;rw[<- c] at j;rw[show BG (UQ wid ((g wid).getD []++more)).key=119 from Fh wid] at j;exact absurd j (by decide)
    ·exact absurd (by rw[c];exact j) (u q a).1
 ·by_cases e:d=wid
  ·subst e;rw[Hm];refine(mM (p:=UQ d ((g d).getD []++more)) s (by simp) λq h c=>?_).trans rfl;rcases List.mem_append.1 h with a|a
   ·obtain⟨m,y,rfl⟩:=List.mem_map.1 a;have:=congrArg BG c;rw[show BG (OI d m).key=104 from WG _ _,show BG (UQ d ((g d).getD []++more)).key=119 from Fh d] at this;exact absurd this (by decide)
   ·rcases List.mem_append.1 a with a|a
    ·exact List.mem_singleton.1 a
    ·exact absurd ((congrArg BG c).trans (Fh d)) (u q a).2
  ·rw[Rw e,KP s λq h c=>?_,o.fF d v];rcases List.mem_append.1 h with a|a
   ·obtain⟨m,y,rfl⟩:=List.mem_map.1 a;have:=congrArg BG c;rw[show BG (OI wid m).key=104 from WG _ _,Fh] at this;exact absurd this (by decide)
   ·rcases List.mem_append.1 a with a|a
    ·rw[List.mem_singleton.1 a] at c;exact e (APB c).symm
    ·exact absurd ((congrArg BG c).trans (Fh d)) (u q a).2
 ·have no: ∀q∈more.map (OI wid)++([UQ wid ((g wid).getD []++more)]++b),q.key=KS f-> ∃x,t=some (f,x)/\q=Zh f x:=λq h c=>by
   have n:=(congrArg BG c).trans (Jw f);rcases List.mem_append.1 h with a|a
   ·obtain⟨m,y,rfl⟩:=List.mem_map.1 a;rw[show BG (OI wid m).key=104 from WG _ _] at n;exact absurd n (by decide)
   ·rcases List.mem_append.1 a with a|a
    ·rw[List.mem_singleton.1 a,show BG (UQ wid ((g wid).getD []++more)).key=119 from Fh wid] at n;exact absurd n (by decide)
    ·rcases A.ey q a with a|⟨r,x,X,rfl⟩
     ·exact absurd n a.2.2
     ·have:r=f:=yS c;subst this;exact⟨x,X,rfl⟩
  cases t with
  |none=>
   rw[KP s λq h c=>?_,o.jT f N]
   ·rfl
   ·obtain⟨x,k,_⟩:=no q h c;cases k
  |some I=>
   obtain⟨r,x⟩:=I;show _=(cT z r x f).map (Zh f);by_cases e:f=r
   ·subst e;rw[Hm];refine(mM (p:=Zh f x) s ?_ λq h c=>?_).trans rfl
    ·exact IT _ (IT _ (A.has f x rfl).1)
    ·obtain⟨J,K,rfl⟩:=no q h c;cases K;rfl
   ·rw[Rw e,KP s λq h c=>?_,o.jT f N];obtain⟨J,K,_⟩:=no q h c;cases K;exact e rfl
 ·by_cases e:d=wid
  ·subst e;rw[Hm] at D;cases D;exact n
  ·rw[Rw e] at D;exact o.cJ d l D
 ·cases t with
  |none=>exact o.jU f x k
  |some I=>
   obtain⟨r,J⟩:=I;have k:cT z r J f=some x:=k;by_cases e:f=r
   ·subst e;rw[Hm] at k;cases k;exact(A.has f x rfl).2.2
   ·rw[Rw e] at k;exact o.jU f x k
theorem I4.aM {f b:List Pr}{i:cq}{j:cL}(a:I4 f i j)(s:Sorted f)(g: ∀p∈b,BG p.key≠104/\BG p.key≠119/\BG p.key≠114):I4 (cu f b) i j:=by
 refine⟨λe h m k=>?_,λe h=>?_,λl n=>?_,a.cJ,a.jU⟩
 ·rw[KP s λq c d=>(g q c).1 (by rw[d];exact rE k)];exact a.cw e h m k
 ·rw[KP s λq c d=>(g q c).2.1 (by rw[d];exact Fh e)];exact a.fF e h
 ·rw[KP s λq c d=>(g q c).2.2 (by rw[d];exact Jw l)];exact a.jT l n
theorem I4.empty:I4 [] (λ_=>none) (λ_=>none):=
 ⟨λb _ d _=>rfl,λb _=>rfl,λc _=>rfl,λb l a=>(by cases a),λc x a=>(by cases a)⟩
theorem ae.and {b:Bool}{a c:Prop}(d:b=true->a)(e:b=false->c):ae b a c:=ae.intro d e
theorem Kq {s:A31}(a:s.size<18446744073709551616):(BU (bl s)).length<=10+s.size:=by have:=AX a;simp only[BU,A1,BA];omega
theorem ADy {x:bR}(a:NL x=true):0<=x.kind/\x.kind<=3/\(x.kind=1\/x.kind=2\/x.kind=3)/\x.name.size<=16/\x.aK.size<=16/\0<=x.tries/\x.tries<=5/\0<=x.az/\x.az<=5/\0<=x.wait/\x.wait<=1000:=by
 have d: ∀ {s:A31},Am s=true->s.size<=16:=λa=>(Gb.1 a).2.1
 have z:IQ.size=0:=rfl;unfold NL at a;split at a
 ·rename_i e;simp only[A3,CH,decide_eq_true_eq,Bb] at a;obtain⟨⟨⟨g,h⟩,l⟩,m⟩:=a;have:=d h;rcases g with⟨b,c⟩|⟨b,c⟩
  ·rw[b];omega
  ·have:=d b;omega
 ·split at a
  ·rename_i i e;simp only[A3,decide_eq_true_eq,Bb] at a;obtain⟨⟨⟨⟨b,c⟩,j⟩,k⟩,f⟩:=a;rw[b,c];omega
  ·split at a
   ·rename_i i n e;simp only[A3,decide_eq_true_eq] at a;obtain⟨⟨⟨⟨b,c⟩,j⟩,k⟩,f⟩:=a;have:=d f;rw[b];omega
   ·cases a
theorem ALC {x:bR}(a:NL x=true):(HZ x).length<=100:=by
 obtain⟨b,c,d,e,f,g,h,i,j,k,l⟩:=ADy a;have m:=AX (n:=x.kind.toNat) (by omega);have o:=AX (n:=x.tries.toNat) (by omega);have p:=AX (n:=x.az.toNat) (by omega);have q:=AX (n:=x.wait.toNat) (by omega);have r:=Kq (s:=x.name) (by omega);have t:=Kq (s:=x.aK) (by omega);unfold HZ;rw[A1];split
 ·simp only[A1];omega
 ·split<;>omega
theorem QB: ∀ {l:List bR},l.all NL=true->(l.flatMap HZ).length<=l.length*100
 | [],_=>by simp
 |x::l,a=>by
  simp only[N4,A3] at a;have b:=ALC a.1;have c:=QB a.2;simp only[AW,A1,Ax];omega
def ZA(p:bK):J0:=J1 #[J7 (Ad (if F3 p then Ca p else [])),J6 J9 (if F3 p then 0 else 130)]
section
variable {A : ao} {h : aa} {R : A30}
theorem YA {l:List Ev}{sl:Sl}{t:bj}(v:View de h sl l)(aw:l.length<=500)(hd: ∀f∈l,f.data.size<1099511627776/\jw f.kind)(W:Eb SC l=some t)
  (X: ∀y a b c,Ext h y->Ji y t a b c->(∀ x,a.ag=some x\/b.ag=some x\/c.ag=some x->h.size<=x)->R (J1 #[(t.V a b c).v,J6 J9 0,J6 J9 0]) y):
  AA A P Jp #[J4 sl.p sl.len sl.cap] h R:=by
 refine ADp ?_;unfold XR;refine aj.mk λax _ Y Z E=>aj.mk λay _ F G az=>?_
 rw[E] at F;rw[E];have aa:=Z.trans G;have ab: ∀x,(⟨none,0,0⟩:Sl).ag=some x\/(⟨none,0,0⟩:Sl).ag=some x\/(⟨none,0,0⟩:Sl).ag=some x->h.size+2<=x:=λx d=>by simp[Sl.ag] at d
 refine Loop.rule (λm x k=> ∃(i:Nat) (s:bj) (a b c:Sl),x=((i:Int),())/\m=l.length-i/\i<=l.length/\Ext h k/\k[h.size]? =some (J2 bE.z.c BN (0,0))/\k[h.size+1]? =some (J2 (s.V a b c).c BN (0,0))/\
   Ji k s a b c/\(∀ x,a.ag=some x\/b.ag=some x\/c.ag=some x->h.size+2<=x)/\Cz s i/\Eb s (l.drop i)=some t) ?_
  ⟨0,SC,⟨none,0,0⟩,⟨none,0,0⟩,⟨none,0,0⟩,rfl,rfl,A6 _,aa,G.ag Y (λh=>h),F,⟨View.nil,View.nil,View.nil⟩,ab,Cz.zero,W⟩
 rintro K m _ H ⟨i,s,a,b,c,rfl,rfl,hi,n,I,o,J,fr,L,g⟩ ac;have aA:=v.len;refine ae.intro (λz=>?_) (λz=>?_)
 ·have j:i<l.length:=by simp at z;omega
  obtain⟨f,p⟩: ∃f,l[i]? =some f:=⟨_,A2 j⟩;have M:=AG p;have af:l.drop i=f::l.drop (i+1):=by rw[FA j];rw[A2 j] at p;cases p;rfl
  rw[af,Eb] at g;split at g;rotate_left
  ·cases g
  rename_i N;refine(v.ext n).idx p λaC _ ag=>NV.mk f ag ?_
  refine aj.mk λO _ q ah ai=>aD.mk q (A0 8) λak Q al aE=>?_
  rw[mP] at Q;have r:Ext H ak:=ah.more al λc e=>by subst e;exact A0 _
  have aF:=Aj o;refine Bg.mk (s.V a b c) (JC (r.ag o λh=>h)) (NV.mk f (RJ Q) ?_);refine pT (J.ext r) L (by omega) (hd f M).1 (hd f M).2 λaG am an ao ap aq u=>Gn.mk _ ⟨_,rfl,?_⟩
  rw[N];have B:=r.trans ap;refine aj.mk λaH _ ar C aI=>aD.mk ar (A0 12) λau S T aJ=>ae.no rfl ?_
  rw[Pf] at S;have w:Ext H au:=B.more (C.mod.trans T) λc e=>by subst e;exact B.size
  refine Bg.mk _ (JC S) (aD.mk (w.ag o λh=>h) (A0 12) λaK U D aL=>?_);rw[Pf] at U;dsimp only;rw[Ab (by omega)];have aM:=r.size;have aN:=C.size;have aO:=B.size;have aP:=w.size;have aQ:=n.size;refine ac (l.length-(i+1)) _ _ (by omega) ⟨i+1,_,am,an,ao,rfl,rfl,j,(n.trans w).more D λc e=>by subst e;omega,D.ag (w.ag I λh=>h) (by omega),U,?_,λx d=>?_,Ug L N,g⟩
  ·have av:=aq.ext (C.more T λc e=>by subst e;exact A0 _);exact av.mod D (λx d e=>by have:=u x (.inl d);omega) (λx d e=>by have:=u x (.inr (.inl d));omega) (λx d e=>by have:=u x (.inr (.inr d));omega)
  ·have:=u x d;omega
 ·have j:i=l.length:=by simp at z;omega
  subst j;rw[PB,Eb] at g;obtain rfl:s=t:=B9 g;refine Bg.mk (s.V a b c) (JC o) (aD.mk I (A0 12) λO q V ai=>?_);rw[Pf] at q;refine Bg.mk (s.V a b c) (JC q) (X O a b c (n.more V λc e=>by subst e;exact A0 _) (J.mod V (λx d e=>by have:=fr x (.inl d);omega) (λx d e=>by have:=fr x (.inr (.inl d));omega) (λx d e=>by have:=fr x (.inr (.inr d));omega)) λx d=>by have:=fr x d;omega)
theorem ATU {wid:A31}{l:List Ev}{sl:Sl}(s:Am wid=true)(v:View de h sl l)(S:l.length<=1000)(hd: ∀a∈l,Ea a=true/\a.data.size<1099511627776)
  (z: ∀d f,Own Be AU f d (l.map (OI wid))->(∀ b,d.ag=some b->h.size<=b)->Ext h f->R (J1 #[J4 d.p d.len d.cap,J6 J9 0]) f):
  AA A P Pz #[J7 wid,J4 sl.p sl.len sl.cap] h R:=by
 refine AH3 ?_;unfold vC;refine FK ⟨_,rfl,?_⟩;rw[s];refine ae.no rfl ?_;refine Loop.rule (λm x t=> ∃(i:Nat) (e:Sl),x=(e,(i:Int),())/\m=l.length-i/\i<=l.length/\Ext h t/\Own Be AU t e ((l.take i).map (OI wid))/\(∀ b,e.ag=some b->h.size<=b)) ?_
  ⟨0,⟨none,0,0⟩,rfl,rfl,A6 _,Mod.refl,Own.nil,λb k=>by simp[Sl.ag] at k⟩
 rintro K m _ u ⟨i,e,rfl,rfl,hi,g,n,fr⟩ B;dsimp only;have T:=v.len;refine ae.intro (λo=>?_) (λo=>?_)
 ·have j:i<l.length:=by simp at o;omega
  obtain⟨a,p⟩: ∃a,l[i]? =some a:=⟨_,A2 j⟩;obtain⟨ok,C⟩:=hd a (AG p);obtain⟨_,⟨U,V⟩,_⟩:=SN ok;refine(v.ext g).idx p λW _ D=>NV.mk a D ?_
  refine aj.mk λX _ F G Y=>aD.mk F (A0 8) λH q I Z=>?_
  rw[mP] at q;have J:Ext u H:=G.more I λc L=>by subst L;exact A0 _
  refine NV.mk a (RJ q) (AMD C λaa w=>?_);unfold oC;rw[ok];refine⟨_,_,rfl,ae.no rfl (AC.mk (AO (w.ag q λh=>h) rfl) ?_)⟩;have ab:=FV s;rw[show a.id=((a.id.toNat:Nat):Int) from by omega];refine uJ (by omega) (by omega) λac M=>⟨_,rfl,?_⟩
  have r:=(J.trans w).trans M;refine aj.aU (E:=Be) (x:=OI wid a) rfl IR (n.ext r) (by simp only[AF,AD];omega) (by simp only[AF,AD,maxLen];omega) λd f N O Q af=>?_
  rw[Ab (by omega)];refine B (l.length-(i+1)) _ _ (by omega) ⟨i+1,d,rfl,rfl,j,(g.trans r).more O fr,?_,λb k=>?_⟩
  ·rw[AE,p,E0,Bs];exact N
  ·rcases Q b k with y|y
   ·exact fr b y
   ·have:=(g.trans r).size;omega
 ·have j:i=l.length:=by simp at o;omega
  rw[j,CD] at n;exact z e u n fr g
theorem uN {t:bQ}(m: ∀c,Ext h c->R (J1 #[J7 (if G9 ⟨t.kind,t.ref,t.turn⟩ t.wid then fR ⟨t.kind,t.ref,t.turn⟩ t.wid else⟨#[]⟩),J6 J9 (if G9 ⟨t.kind,t.ref,t.turn⟩ t.wid then 0 else 1)]) c):AA A P QV #[t.v] h R:=by
 refine AHf ?_;unfold vB;refine aj.mk λe _ a o _=>?_
 refine ah.mk λK y=>?_
 have key: ∀j:Bool,j= !G9 ⟨t.kind,t.ref,t.turn⟩ t.wid->K (j,()) e:=λj f=>by
  refine y _ _ ?_;cases b:G9 ⟨t.kind,t.ref,t.turn⟩ t.wid with
  |false=>
   have:=m e o;rw[b] at this f;exact ae.yes f this
  |true=>
   rw[b] at f;refine ae.no f ?_;have z: ∀c,Ext e c->R (J1 #[J7 (fR ⟨t.kind,t.ref,t.turn⟩ t.wid),J6 J9 0]) c:=λc x=>by
    have:=m c (o.trans x);rw[b] at this;exact this
   unfold G9 at b;simp only[A3,Bb] at b;obtain⟨⟨⟨⟨O,Q⟩,k⟩,S,T⟩,U,V⟩:=b;have W:=FV k;have X:=AX (n:=t.kind.toNat) (by omega);have Y:=AX (n:=t.ref.toNat) (by omega);have Z:=AX (n:=t.turn.toNat) (by omega);have aa:=Kq (s:=t.wid) (by omega);refine AC.mk (AO a rfl) (AL.mk (n:=t.wid) (AB a rfl) (AC.mk (n:=t.ref) (AB a rfl) (AC.mk (n:=t.turn) (AB a rfl) ?_)));rw[O0 (n:=t.kind) (by omega) (by omega)];refine Cf (by omega) λab p=>⟨_,rfl,?_⟩
   have g:=p.ag a λh=>h
   refine⟨AB g rfl,AB g rfl,AB g rfl,Kg (by omega) λac r=>⟨_,rfl,?_⟩⟩;have l:=r.ag g λh=>h
   refine⟨AB l rfl,AB l rfl,by rw[AP,AP,max_i64];omega,?_⟩;rw[O0 (n:=t.ref) (by omega) (by omega)];refine Cf (by omega) λaf u=>⟨_,rfl,?_⟩
   have B:=u.ag l λh=>h
   refine⟨AB B rfl,by rw[Aq,AP,AP,max_i64,A1];omega,?_⟩;rw[O0 (n:=t.turn) (by omega) (by omega)];refine Cf (by omega) λi C=>⟨_,rfl,⟨by rw[Aq,Aq,AP,AP,max_i64,A1,A1];omega,?_⟩⟩
   rw[Aq,Aq,Aq,A4,A4];exact z i (((p.trans r).trans u).trans C)
 have no: ∀ {P:Prop},¬P->(G9 ⟨t.kind,t.ref,t.turn⟩ t.wid=true->P)->K (true,()) e:=λD hi=>key true (by
  cases b:G9 ⟨t.kind,t.ref,t.turn⟩ t.wid with
  |false=>rfl
  |true=>exact absurd (hi b) D)
 have d:G9 ⟨t.kind,t.ref,t.turn⟩ t.wid=true->(1<=t.kind/\t.kind<=7)/\Am t.wid=true/\(0<=t.ref/\t.ref<=500)/\0<=t.turn/\t.turn<=5:=λb=>by
  unfold G9 at b;simp only[A3,Bb] at b;obtain⟨⟨⟨E,k⟩,F⟩,G⟩:=b;exact⟨E,k,F,G⟩
 refine AC.mk (AO a rfl) (ae.intro (λq=>no (P:=1<=t.kind) (by simp at q;omega) λh=>(d h).1.1) λH=>?_);refine AC.mk (AO a rfl) (ae.intro (λq=>no (P:=t.kind<=7) (by simp at q;omega) λh=>(d h).1.2) λI=>?_);refine AL.mk (n:=t.wid) (AB a rfl) (FK ⟨_,rfl,ae.intro (λq=>no (P:=Am t.wid=true) (by simp at q;simp[q]) λh=>(d h).2.1) λv=>?_⟩);refine AC.mk (n:=t.ref) (AB a rfl) (ae.intro (λq=>no (P:=0<=t.ref) (by simp at q;omega) λh=>(d h).2.2.1.1) λJ=>?_);refine AC.mk (n:=t.ref) (AB a rfl) (ae.intro (λq=>no (P:=t.ref<=500) (by simp at q;omega) λh=>(d h).2.2.1.2) λL=>?_);refine AC.mk (n:=t.turn) (AB a rfl) (ae.intro (λq=>no (P:=0<=t.turn) (by simp at q;omega) λh=>(d h).2.2.2.1) λw=>?_);refine AC.mk (n:=t.turn) (AB a rfl) (key _ ?_);unfold G9;simp at H I v J L w;have M:bP t.kind 1 7=true:=Bb.2 (by omega);have N:bP t.ref 0 500=true:=Bb.2 (by omega);rw[M,N,v];show _= !(bP t.turn 0 5);unfold bP;by_cases i:t.turn<=5
 ·simp[i,w]
 ·simp[i];omega
theorem uO {s:Sl}{p:bK}(v:View UT h s p.steps)(U:p.steps.length<=1099511627776)(G: ∀b,Ext h b->R (ZA p) b):
  AA A P Me #[.agg #[J4 s.p s.len s.cap,J6 J9 p.aw]] h R:=by
 refine ADe ?_;unfold XN;refine aj.mk λaE _ u k _=>?_
 refine AV.mk (s:=s) (AO u rfl) (AC.mk (AB u rfl) ?_);refine zX (p:=p) (v.ext k) U λw o=>⟨_,rfl,?_⟩
 cases q:F3 p with
 |false=>
  refine ae.yes rfl ?_;have:=G w (k.trans o);rw[ZA,q] at this;exact this
 |true=>
  refine ae.no rfl ?_;have V: ∀b,Ext w b->R (J1 #[J7 (Ad (Ca p)),J6 J9 0]) b:=λb x=>by
   have:=G b ((k.trans o).trans x);rw[ZA,q] at this;exact this
  simp only[F3,A3,decide_eq_true_eq] at q;obtain⟨⟨aF,W⟩,H⟩:=q;have aG:=Bb.1 W;have y:=o.ag u (λh=>h);refine AC.mk (n:=p.aw) (AB y rfl) (AV.mk (s:=s) (AO y rfl) ?_);rw[O0 (n:=p.aw) (by omega) (by omega)];refine Cf (by omega) λaH I=>⟨_,rfl,?_⟩
  have J:=I.ag y (λh=>h);refine⟨AO J rfl,?_⟩;rw[v.len,CJ (by omega)];have aI:=AX (n:=p.aw.toNat) (by omega);have aJ:=AX (n:=p.steps.length) (by omega);refine Cf (by omega) λX L=>⟨_,rfl,⟨by rw[AP,AP,max_i64];omega,?_⟩⟩
  have Y:=L.ag J (λh=>h);rw[Aq];refine AV.mk (s:=s) (AO Y rfl) ?_;refine Loop.rule (λm x f=> ∃i:Nat,x=(Ad ((Bp p.aw.toNat++Bp p.steps.length)++(p.steps.take i).flatMap HZ),(i:Int),())/\Ext X f/\m=p.steps.length-i/\i<=p.steps.length) ?_ ⟨0,by simp,Mod.refl,rfl,by omega⟩;rintro K m _ f ⟨i,rfl,M,rfl,hi⟩ Z;have N:Ext w f:=(I.trans L).trans M;have aa:Ext h f:=(k.trans o).trans N;dsimp only;have aK:=v.len;refine ae.intro (λz=>?_) (λz=>?_)
  ·have B:i<p.steps.length:=by simp at z;omega
   obtain⟨x,C⟩: ∃x,p.steps[i]? =some x:=⟨_,A2 B⟩;have ac:=AG C;have af:=List.all_eq_true.1 H x ac;obtain⟨aL,aM,aN,aO,aP,aQ,aR,aS,aT,aU,aV⟩:=ADy af;have aW:((p.steps.take i).flatMap HZ).length<=1600:=by
    have:=QB (l:=p.steps.take i) (List.all_eq_true.2 λag ai=>List.all_eq_true.1 H ag (DA ai));have:(p.steps.take i).length<=16:=by simp;omega
    omega
   have fin: ∀b,Ext f b->K (Ad (((Bp p.aw.toNat++Bp p.steps.length)++(p.steps.take i).flatMap HZ)++HZ x),J8 J9 ((i:Int)+1),()) b:=λb ak=>by
    rw[Ab (by omega)];refine Z (p.steps.length-(i+1)) _ _ (by omega) ⟨i+1,?_,M.trans ak,rfl,B⟩;rw[AE,C,E0,Mz];simp[A4]
   generalize al:(Bp p.aw.toNat++Bp p.steps.length)++(p.steps.take i).flatMap HZ=am at*
   have aX:am.length<=2000:=by rw[<- al];simp only[A1];omega
   refine(v.ext aa).idx C λa _ c=>?_
   obtain⟨an,ao,ap,aq,ar,au⟩:=zW c;refine AC.mk an (AL.mk ao (AL.mk ap (AC.mk aq (AC.mk ar (AC.mk au ?_)))));refine aj.mk λaY _ av aw aZ=>ab.oR av λax O ay a0=>?_
   have az:Ext f ax:=aw.more ay λc a1=>by omega
   refine AC.mk (n:=x.kind) (AO O rfl) ?_;rw[O0 (n:=x.kind) (by omega) (by omega)];refine Cf (by omega) λa2 Q=>⟨_,rfl,?_⟩
   have a3:=AX (n:=x.kind.toNat) (by omega);refine⟨by rw[AP,AP,max_i64];omega,?_⟩;have d:=Q.ag O (λh=>h);have D:=az.trans Q;rw[Aq];refine AC.mk (n:=x.kind) (AO d rfl) ?_;have a4:=AX (n:=x.tries.toNat) (by omega);have a5:=AX (n:=x.az.toNat) (by omega);have a6:=AX (n:=x.wait.toNat) (by omega);have a7:=Kq (s:=x.name) (by omega);have a8:=Kq (s:=x.aK) (by omega);refine ah.mk λa9 E=>?_
   refine ae.intro (λe=>?_) (λe=>?_)
   ·have e:x.kind=1:=by simpa using e
    refine AL.mk (n:=x.name) (AB d rfl) (AC.mk (n:=x.tries) (AB d rfl) (AL.mk (n:=x.aK) (AB d rfl) (AC.mk (n:=x.az) (AB d rfl) (Kg (by omega) λr j=>⟨_,rfl,?_⟩))));have t:=j.ag d (λh=>h);refine⟨AB t rfl,AB t rfl,AB t rfl,?_⟩;rw[O0 (n:=x.tries) (by omega) (by omega)];refine Cf (by omega) λba S=>⟨_,rfl,?_⟩
    have F:=S.ag t (λh=>h);refine⟨AB F rfl,AB F rfl,by rw[AP,AP,max_i64];omega,?_⟩;refine Kg (by omega) λbb T=>⟨_,rfl,?_⟩
    have aA:=T.ag F (λh=>h);refine⟨AB aA rfl,by rw[Aq,AP,AP,max_i64,A1];omega,?_⟩;rw[O0 (n:=x.az) (by omega) (by omega)];refine Cf (by omega) λaC aD=>⟨_,rfl,⟨?_,?_,E _ _ ?_⟩⟩
    ·rw[Aq,Aq,AP,AP,max_i64];simp only[A1];omega
    ·simp only[Aq,AP,max_i64,A1];omega
    ·have:=fin aC ((((D.trans j).trans S).trans T).trans aD);simp only[HZ] at this;rw[if_pos e] at this;simp only[Aq,A4] at this ⊢;exact this
   ·have e:x.kind≠1:=by simpa using e
    refine ae.intro (λg=>?_) (λg=>?_)
    ·have g:x.kind=2:=by simpa using g
     refine AC.mk (n:=x.wait) (AB d rfl) ?_;rw[O0 (n:=x.wait) (by omega) (by omega)];refine Cf (by omega) λr j=>⟨_,rfl,⟨by rw[AP,AP,max_i64,A1];omega,E _ _ ?_⟩⟩
     have:=fin r (D.trans j);simp only[HZ] at this;rw[if_neg e,if_pos g] at this;simp only[Aq,A4] at this ⊢;exact this
    ·have g:x.kind≠2:=by simpa using g
     refine ae.yes (by simp;omega) (AL.mk (n:=x.name) (AB d rfl) (Kg (by omega) λr j=>⟨_,rfl,⟨by rw[AP,AP,max_i64,A1];omega,E _ _ ?_⟩⟩));have:=fin r (D.trans j);simp only[HZ] at this;rw[if_neg e,if_neg g] at this;simp only[Aq,A4] at this ⊢;exact this
  ·have B:i=p.steps.length:=by simp at z;omega
   have:=V f N;rw[As (by omega)];exact this
end
def MF(a:Nat):A31:=Ad [116,Cq a]
def G8(a:Nat):A31:=Ad [109,Cq a]
def MC(name:A31):A31:=Ad (113::BU (bl name))
section
variable {A : ao} {h : aa} {R : A30}
theorem APN {a:Nat}(c:a<256)(d: ∀b,Ext h b->R (J7 (MF a)) b):AA A P Ja #[J6 J9 (a:Int)] h R:=by
 refine QN ?_;unfold MR;refine Zx c λe f=>⟨_,rfl,⟨by rw[AP,max_i64];show((2:Nat):Int)<=9223372036854775807;decide,?_⟩⟩
 rw[show(⟨#[116]⟩:A31)=Ad [116] from rfl,Aq];exact d e f
theorem AO4 {a:Nat}(c:a<256)(d: ∀b,Ext h b->R (J7 (G8 a)) b):AA A P Mi #[J6 J9 (a:Int)] h R:=by
 refine UZ ?_;unfold Qt;refine Zx c λe f=>⟨_,rfl,⟨by rw[AP,max_i64];show((2:Nat):Int)<=9223372036854775807;decide,?_⟩⟩
 rw[show(⟨#[109]⟩:A31)=Ad [109] from rfl,Aq];exact d e f
theorem Xo {name:A31}(a:name.size<=1000000):(MC name).size<=1000012:=by
 have b:=AX (n:=(bl name).length) (by rw[BA];omega);unfold MC;rw[AP];unfold BU;rw[Ax,A1,BA] at*
 omega
theorem ur {name:A31}(c:name.size<=1000000)(d: ∀a,Ext h a->R (J7 (MC name)) a):AA A P QI #[J7 name] h R:=by
 refine AIY ?_;unfold wq;have b:=Xo c;unfold MC at b;rw[AP,Ax] at b;refine Kg (by omega) λe f=>⟨_,rfl,⟨?_,?_⟩⟩
 ·rw[AP,max_i64,show(⟨#[113]⟩:A31).size=1 from rfl];omega
 ·rw[show(⟨#[113]⟩:A31)=Ad [113] from rfl,Aq];exact d e f
theorem AOD {name id:A31}(a:name.size<=1000000)(hi:id.size<=1000000)(c: ∀b,Ext h b->R (J7 (MC name++id)) b):AA A P Qg #[J7 name,J7 id] h R:=by refine AEV ?_;unfold Xg;exact ur a λd e=>⟨_,rfl,⟨by have:=Xo a;rw[max_i64];omega,c d e⟩⟩
theorem uu {t:fA}{wid:A31}(ok:G9 t wid=true)(r: ∀j,Ext h j->R (J1 #[(⟨t.kind,wid,t.ref,t.turn⟩:bQ).v,J6 J9 0]) j):AA A P Jt #[J7 (fR t wid)] h R:=by
 have k:=ok;simp only[G9,A3] at k;obtain⟨⟨⟨k0,s⟩,u⟩,v⟩:=k;have U:=Bb.1 k0;have V:=Bb.1 u;have W:=Bb.1 v;have X:=(Gb.1 s).2.1;have Y:=Fa (n:=t.kind.toNat) (by omega);have Z:=Fa (n:=t.ref.toNat) (by omega);have aa:=Fa (n:=t.turn.toNat) (by omega);have w:=AX (n:=(bl wid).length) (by rw[BA];omega);have ab:(BU (bl wid)).length<=26:=by unfold BU;rw[A1,BA];rw[BA] at w;omega
 refine AEi ?_;unfold XA fR lL;refine aj.mk λx _ l m ac=>?_
 refine NI λaf y d=>⟨_,rfl,?_⟩
 refine EQ (most:=7) y (by simp only[A1];omega) (by decide) λag z B=>⟨_,rfl,?_⟩
 rw[DR (by omega) (by omega)] at*
 refine Ic z (by simp only[A1];omega) λai C D=>⟨_,rfl,?_⟩
 rw[Ie (by rw[BA];omega)] at*
 refine EQ (most:=500) C (by simp only[A1];omega) (by decide) λak E F=>⟨_,rfl,?_⟩
 rw[DR (by omega) (by omega)] at*
 have G:CX 5 ⟨Bp t.turn.toNat,false⟩=(t.turn.toNat,⟨[],false⟩):=by have:=DR (n:=t.turn.toNat) (most:=5) (by omega) (by omega) [];rwa [AS] at this
 refine EQ (most:=5) E (by simp only;omega) (by decide) λH o I=>⟨_,rfl,?_⟩
 rw[G] at*
 rw[QJ,show((t.kind.toNat:Nat):Int)=t.kind from P0 (by omega),show((t.ref.toNat:Nat):Int)=t.ref from P0 (by omega),show((t.turn.toNat:Nat):Int)=t.turn from P0 (by omega)];refine aj.mk λal _ J e am=>aD.mk J (A0 4) λf p g an=>Ir.mk ⟨t.kind,wid,t.ref,t.turn⟩ (Cr p rfl) ?_
 have ao:=Aj l;have ap:=d.size;have i:=((B.trans D).trans F).trans I;have aq:=i.size;have L:f[h.size]? =some (J2 bQ.z.c FQ (0,0)):=g.ag (e.ag (i.ag (d.ag l (λh=>h)) (by omega)) (λh=>h)) (by omega);have M:KU f x.size ⟨[],false⟩:=g.ag (e.ag o (λh=>h)) (by have:=Aj o;omega);have N:Ext h f:=by
  have q:Ext h H:=(m.trans d).more i λc a=>by subst a;exact m.size
  exact(q.trans e).more g λc a=>by subst a;exact q.size
 refine uN λar b=>⟨_,_,rfl,?_⟩
 rw[show(⟨t.kind,t.ref,t.turn⟩:fA)=t from rfl,if_pos ok];refine ah.mk λK O=>ae.no rfl (QA (b.ag M λh=>h) ⟨_,rfl,O _ _ (ae.no rfl ?_)⟩)
 refine Ir.mk ⟨t.kind,wid,t.ref,t.turn⟩ (Cr (b.ag p λh=>h) rfl) (aD.mk (b.ag L λh=>h) (A0 4) λQ S T au=>Ir.mk ⟨t.kind,wid,t.ref,t.turn⟩ (Cr S rfl) ?_);exact r Q ((N.trans b).more T λc a=>by subst a;exact A0 _)
end
end Go.Lf.G
namespace Go.Lf
open G
open Go
open M (Sorted Ac Bt BF Ae Ak BH Ah aY A7 aF Aw)
theorem View.da {c:Type}{d:cr c}{e:Nat->Prop}{h f:aa}{s:Sl}{l:List c}(v:View d h s l)(m:Mod e h f)(j:l≠ []-> ∀b,s.ag=some b-> ¬e b):View d f s l:=by
 cases l with
 |nil=>exact⟨v.len,v.cap,λi x k=>by simp at k⟩
 |cons x l=>exact v.mod m (j (by simp))
end Go.Lf
namespace Go.Lf.G
open Go
open M (Sorted Ac Bt BF Ae Ak BH Ah aY A7 aF Aw)
end Go.Lf.G
namespace Go.Lf
open G
open Go
open M (Sorted Ac Bt BF Ae Ak BH Ah aY A7 aF Aw)
theorem View.iF {f:Type}{d:cr f}{h:aa}{s:Sl}{l:List f}(v:View d h s l)(j:l≠ []){b:Nat}(e:s.ag=some b):b<h.size:=by
 cases l with
 |nil=>exact absurd rfl j
 |cons x l=>
  obtain⟨a,k,c⟩:=v.cells 0 x rfl;have m:0<(d.enc x).length:=by rw[d.len];exact d.pos
  have:=ZH (c 0 _ (A2 m));rw[aQ,aQ] at this;unfold Sl.ag at e;rw[k] at e;cases e;exact this
end Go.Lf
namespace Go.Lf.G
open Go
open M (Sorted Ac Bt BF Ae Ak BH Ah aY A7 aF Aw)
theorem ab.mq {h:aa}{b d:Nat}{v:J0}{l l':List J0}{T:Q7}{K:aa->Prop}(e:h[b]? =some (J2 ⟨l⟩ T (0,0)))(f:d<l.length)(j:l.set d v=l')
  (k: ∀c,c[b]? =some (J2 ⟨l'⟩ T (0,0))->Mod (· =b) h c->c.size=h.size->K c):ab h ((⟨b,0,none⟩:Q6).add d) v K:=
 ab.bT e f (V0 l d v) λc m=>k c (by rw[<- j];exact m)
theorem Cg {h:aa}{b j:Nat}{l:List J0}{T:Q7}{fr:Nat×Nat}{v:J0}(c:h[b]? =some (J2 ⟨l⟩ T fr))(d:l[j]? =some v):af h ((⟨b,0,none⟩:Q6).add j)=some v:=
 AB c (by simp_all)
theorem Co {h:aa}{b i c:Nat}{l:List J0}{T:Q7}{fr:Nat×Nat}{v:J0}(d:h[b]? =some (J2 ⟨l⟩ T fr))(e:l[i+c]? =some v):af h (((⟨b,0,none⟩:Q6).add i).add c)=some v:=by rw[add_add];exact Cg d e
theorem ASz {h:aa}{b i c d:Nat}{l:List J0}{T:Q7}{fr:Nat×Nat}{v:J0}(e:h[b]? =some (J2 ⟨l⟩ T fr))(f:l[i+(c+d)]? =some v):af h ((((⟨b,0,none⟩:Q6).add i).add c).add d)=some v:=by rw[add_add];exact Co e f
structure dU where
 hp:Nat
 ev:Sl
 fs:bE
 a:Sl
 b:Sl
 c:Sl
 more:Sl
 aq:Sl
 conds:Sl
abbrev dU.l(x:dU)(C:ba):List J0:= [Ar x.hp,J7 C.wid,J6 J9 (C.ai:Int),J6 J9 C.bW,J6 J9 C.bO,J3 C.kept,J4 x.ev.p x.ev.len x.ev.cap,
 J4 x.fs.steps.p x.fs.steps.len x.fs.steps.cap,J6 J9 x.fs.aw,J6 J9 x.fs.status,J6 J9 x.fs.next,J6 J9 x.fs.aP,J6 J9 x.fs.asked,J6 J9 x.fs.taken,J3 x.fs.fresh,J4 x.fs.aC.p x.fs.aC.len x.fs.aC.cap,J4 x.fs.ar.p x.fs.ar.len x.fs.ar.cap,J3 x.fs.cancel,J3 x.fs.aI,
 J4 x.a.p x.a.len x.a.cap,J6 J9 C.st.prog.aw,J6 J9 C.st.status,J6 J9 C.st.next,J6 J9 C.st.aP,J6 J9 C.st.asked,J6 J9 C.st.taken,J3 C.st.fresh,J4 x.b.p x.b.len x.b.cap,J4 x.c.p x.c.len x.c.cap,J3 C.st.cancel,J3 C.st.aI,
 J4 x.more.p x.more.len x.more.cap,J4 x.aq.p x.aq.len x.aq.cap,J4 x.conds.p x.conds.len x.conds.cap,J6 J9 C.err,J6 J9 C.now]
structure FZ (h:aa) (cb:Nat) (z:Nat->Nat) (x:dU) (C:ba):Prop where
 ag:h[cb]? =some (J2 ⟨x.l C⟩ NT (0,0))
 zc:z cb=1
 st:Ji h C.st x.a x.b x.c
 zs: ∀y,(C.st.prog.steps≠ []/\x.a.ag=some y)\/(C.st.aC≠ []/\x.b.ag=some y)\/(C.st.ar≠ []/\x.c.ag=some y)->z y=5
 more:Own de BI h x.more C.more
 zm: ∀y,x.more.ag=some y->z y=2
 aq:Own Be AU h x.aq C.aq
 zp: ∀y,x.aq.ag=some y->z y=3
 conds:Own Be AU h x.conds C.conds
 zq: ∀y,x.conds.ag=some y->z y=4
theorem Ji.da {k:Nat->Prop}{h n:aa}{s:bj}{a b c:Sl}(f:Ji h s a b c)(m:Mod k h n)(j: ∀y,(s.prog.steps≠ []/\a.ag=some y)\/(s.aC≠ []/\b.ag=some y)\/(s.ar≠ []/\c.ag=some y)-> ¬k y):Ji n s a b c:=
 ⟨f.steps.da m λd y e=>j y (.inl ⟨d,e⟩),f.aC.da m λd y e=>j y (.inr (.inl ⟨d,e⟩)),f.ar.da m λd y e=>j y (.inr (.inr ⟨d,e⟩))⟩
section
variable {A : ao} {B : cX} {g h : aa} {s a N sh cb : Nat} {l : List Hs} {mp : List Pr} {O : Nat -> Prop} {i : Nat} {y : Hs} {z : Nat -> Nat} {x : dU} {C : ba} {R : A30}
theorem FZ.mod {f:Nat->Prop}{j:aa}(b:FZ h cb z x C)(m:Mod f h j)(e: ∀c,z c≠0-> ¬f c):FZ j cb z x C:=
 ⟨m.ag b.ag (e cb (by rw[b.zc];decide)),b.zc,b.st.da m λy d=>e y (by rw[b.zs y d];decide),b.zs,b.more.mod m λy d=>e y (by rw[b.zm y d];decide),b.zm,b.aq.mod m λy d=>e y (by rw[b.zp y d];decide),b.zp,b.conds.mod m λy d=>e y (by rw[b.zq y d];decide),b.zq⟩
theorem FZ.on {b:aa}(c:FZ h cb z x C)(m:Ext h b):FZ b cb z x C:=c.mod m λ_ _ h=>h
theorem FZ.cell {d:aa}(b:FZ h cb z x C){f:Int}(m:Mod (· =cb) h d)(k:d[cb]? =some (J2 ⟨x.l {C with err:=f}⟩ NT (0,0))):FZ d cb z x {C with err:=f}:=by
 have ne: ∀y e,z y=e->e≠1-> ¬y=cb:=λy e j n o=>by subst o;rw[b.zc] at j;exact n j.symm
 exact⟨k,b.zc,b.st.da m λy c=>ne y 5 (b.zs y c) (by decide),b.zs,b.more.mod m λy c=>ne y 2 (b.zm y c) (by decide),b.zm,b.aq.mod m λy c=>ne y 3 (b.zp y c) (by decide),b.zp,b.conds.mod m λy c=>ne y 4 (b.zq y c) (by decide),b.zq⟩
theorem FZ.err(c:FZ h cb z x C){d:Int}{K:aa->Prop}(e: ∀b,FZ b cb z x {C with err:=d}->Mod (· =cb) h b->b.size=h.size->K b):ab h ((⟨cb,0,none⟩:Q6).add 34) (J6 J9 d) K:=
 ab.mq c.ag (of_decide_eq_true rfl) rfl λb f m j=>e b (c.cell m f) m j
def gz(z:Nat->Nat)(s:Sl)(b:Nat):Nat->Nat:=λc=>if s.ag=some c then b else z c
theorem pU {s:Sl}{b c:Nat}(h:s.ag=some c):gz z s b c=b:=if_pos h
theorem pV {e f:Sl}{j:Nat}(k: ∀c,z c≠0->c<h.size)(m: ∀y,e.ag=some y->z y=j)(n: ∀b,f.ag=some b->e.ag=some b\/h.size<=b){c d:Nat}(o:z c=d)(p:d≠0):gz z f j c=d:=by grind [gz]
theorem pW {f d:Sl}{e:Nat}{j:aa}(k: ∀y,f.ag=some y->z y=e)(m:e≠0)(n: ∀b,d.ag=some b->f.ag=some b\/h.size<=b)(o: ∀b,d.ag=some b->b<j.size){c:Nat}(p:gz z d e c≠0):z c≠0\/(h.size<=c/\c<j.size):=by grind [gz]
theorem FZ.kK(d:FZ h cb z x C)(H: ∀c,z c≠0->c<h.size){src:Sl}{f:Ev}(v:View de h src [f])(V:C.more.length<1000){K:aa->Prop}
  (M: ∀r j I,FZ r cb I {x with more:=j} {C with more:=C.more++ [f]}->Mod (λc=>z c≠0) h r->(∀ c,I c≠0->z c≠0\/(h.size<=c/\c<r.size))->K r):
  Af A P (Builtin.append_ #[Ba,Ba] Ba #[J4 x.more.p x.more.len x.more.cap,J4 src.p src.len src.cap]) h λv n=> ∃t:Sl,v=J4 t.p t.len t.cap/\ab n ((⟨cb,0,none⟩:Q6).add 31) (J4 t.p t.len t.cap) K:=by
 refine II (E:=de) (s:=x.more) (src:=src) lU d.more v (by grind) (by simp only[BE,maxLen];omega) λj n J o L _=>?_
 have u: ∀c k,z c=k->k≠2-> ¬x.more.ag=some c:=λc k p D f=>by rw[d.zm c f] at p;exact D p.symm
 have Q:=o.ag d.ag (u cb 1 d.zc (by decide));refine ab.mq Q (of_decide_eq_true rfl) (l':=({x with more:=j}:dU).l {C with more:=C.more++ [f]}) rfl λD S q W=>?_
 have F: ∀c k,z c=k->k≠1-> ¬c=cb:=λc k p n f=>by subst f;rw[d.zc] at p;exact n p.symm
 have X:=H cb (by rw[d.zc];decide);have T: ∀b,j.ag=some b->b<n.size:=λb w=>J.lt w
 have aM: ∀ {c G:Nat},z c=G->G≠0->gz z j 2 c=G:=λm U=>pV H d.zm L m U
 refine M D j (gz z j 2) ⟨S,aM d.zc (by decide),?_,λy e=>aM (d.zs y e) (by decide),?_,λy e=>pU e,?_,λy e=>aM (d.zp y e) (by decide),?_,λy e=>aM (d.zq y e) (by decide)⟩ ?_ λc m=>?_
 ·exact(d.st.da o λy e=>u y 5 (d.zs y e) (by decide)).da q λy e=>F y 5 (d.zs y e) (by decide)
 ·refine J.mod q λb w f=>?_
  grind
 ·exact(d.aq.mod o λy e=>u y 3 (d.zp y e) (by decide)).mod q λy e=>F y 3 (d.zp y e) (by decide)
 ·exact(d.conds.mod o λy e=>u y 4 (d.zq y e) (by decide)).mod q λy e=>F y 4 (d.zq y e) (by decide)
 ·exact(o.ak λc _ m=>by rw[d.zm c m];decide).trans (q.ak λc _ m=>by grind)
 ·exact pW d.zm (by decide) L (λb w=>by have:=T b w;omega) m
theorem FZ.dX(d:FZ h cb z x C)(I: ∀c,z c≠0->c<h.size){p:Pr}(W:C.aq.length<1000){K:aa->Prop}
  (Q: ∀u f J,FZ u cb J {x with aq:=f} {C with aq:=C.aq++ [p]}->Mod (λc=>z c≠0) h u->(∀ c,J c≠0->z c≠0\/(h.size<=c/\c<u.size))->K u):
  aj h (J2 #[J7 p.key,J7 p.val,J3 p.gone] AU) λb m=>Af A P (Builtin.append_ #[AR,AR] AR #[J4 x.aq.p x.aq.len x.aq.cap,J4 (some (⟨b,0,none⟩:Q6)) 1 1]) m λv n=> ∃t:Sl,v=J4 t.p t.len t.cap/\ab n ((⟨cb,0,none⟩:Q6).add 32) (J4 t.p t.len t.cap) K:=by
 refine aj.aU (E:=Be) (x:=p) (s:=x.aq) (l:=C.aq) rfl IR d.aq (by omega) (by simp only[maxLen];omega) λf m L o M _=>?_
 have w: ∀c j,z c=j->j≠3-> ¬x.aq.ag=some c:=λc j q n D=>by rw[d.zp c D] at q;exact n q.symm
 have S:=o.ag d.ag (w cb 1 d.zc (by decide));refine ab.mq S (of_decide_eq_true rfl) (l':=({x with aq:=f}:dU).l {C with aq:=C.aq++ [p]}) rfl λn T r X=>?_
 have G: ∀c j,z c=j->j≠1-> ¬c=cb:=λc j q m D=>by subst D;rw[d.zc] at q;exact m q.symm
 have Y:=I cb (by rw[d.zc];decide);have U: ∀b,f.ag=some b->b<m.size:=λb F=>L.lt F
 have aM: ∀ {c H:Nat},z c=H->H≠0->gz z f 3 c=H:=λk V=>pV I d.zp M k V
 refine Q n f (gz z f 3) ⟨T,aM d.zc (by decide),?_,λy e=>aM (d.zs y e) (by decide),?_,λy e=>aM (d.zm y e) (by decide),?_,λy e=>pU e,?_,λy e=>aM (d.zq y e) (by decide)⟩ ?_ λc k=>?_
 ·exact(d.st.da o λy e=>w y 5 (d.zs y e) (by decide)).da r λy e=>G y 5 (d.zs y e) (by decide)
 ·exact(d.more.mod o λy e=>w y 2 (d.zm y e) (by decide)).mod r λy e=>G y 2 (d.zm y e) (by decide)
 ·refine L.mod r λb F D=>?_
  grind
 ·exact(d.conds.mod o λy e=>w y 4 (d.zq y e) (by decide)).mod r λy e=>G y 4 (d.zq y e) (by decide)
 ·exact(o.ak λc _ k=>by rw[d.zp c k];decide).trans (r.ak λc _ k=>by grind)
 ·exact pW d.zp (by decide) M (λb F=>by have:=U b F;omega) k
theorem FZ.fi(d:FZ h cb z x C)(I: ∀c,z c≠0->c<h.size){p:Pr}(W:C.conds.length<1000){K:aa->Prop}
  (Q: ∀u f J,FZ u cb J {x with conds:=f} {C with conds:=C.conds++ [p]}->Mod (λc=>z c≠0) h u->(∀ c,J c≠0->z c≠0\/(h.size<=c/\c<u.size))->K u):
  aj h (J2 #[J7 p.key,J7 p.val,J3 p.gone] AU) λb m=>Af A P (Builtin.append_ #[AR,AR] AR #[J4 x.conds.p x.conds.len x.conds.cap,J4 (some (⟨b,0,none⟩:Q6)) 1 1]) m λv n=> ∃t:Sl,v=J4 t.p t.len t.cap/\ab n ((⟨cb,0,none⟩:Q6).add 33) (J4 t.p t.len t.cap) K:=by
 refine aj.aU (E:=Be) (x:=p) (s:=x.conds) (l:=C.conds) rfl IR d.conds (by omega) (by simp only[maxLen];omega) λf m L o M _=>?_
 have w: ∀c j,z c=j->j≠4-> ¬x.conds.ag=some c:=λc j q n D=>by rw[d.zq c D] at q;exact n q.symm
 have S:=o.ag d.ag (w cb 1 d.zc (by decide));refine ab.mq S (of_decide_eq_true rfl) (l':=({x with conds:=f}:dU).l {C with conds:=C.conds++ [p]}) rfl λn T r X=>?_
 have G: ∀c j,z c=j->j≠1-> ¬c=cb:=λc j q m D=>by subst D;rw[d.zc] at q;exact m q.symm
 have Y:=I cb (by rw[d.zc];decide);have U: ∀b,f.ag=some b->b<m.size:=λb F=>L.lt F
 have aM: ∀ {c H:Nat},z c=H->H≠0->gz z f 4 c=H:=λk V=>pV I d.zq M k V
 refine Q n f (gz z f 4) ⟨T,aM d.zc (by decide),?_,λy e=>aM (d.zs y e) (by decide),?_,λy e=>aM (d.zm y e) (by decide),?_,λy e=>aM (d.zp y e) (by decide),?_,λy e=>pU e⟩ ?_ λc k=>?_
 ·exact(d.st.da o λy e=>w y 5 (d.zs y e) (by decide)).da r λy e=>G y 5 (d.zs y e) (by decide)
 ·exact(d.more.mod o λy e=>w y 2 (d.zm y e) (by decide)).mod r λy e=>G y 2 (d.zm y e) (by decide)
 ·exact(d.aq.mod o λy e=>w y 3 (d.zp y e) (by decide)).mod r λy e=>G y 3 (d.zp y e) (by decide)
 ·refine L.mod r λb F D=>?_
  grind
 ·exact(o.ak λc _ k=>by rw[d.zq c k];decide).trans (r.ak λc _ k=>by grind)
 ·exact pW d.zq (by decide) M (λb F=>by have:=U b F;omega) k
def SK(t:bj)(a b c:Sl)(y:Nat):Prop:=(t.prog.steps≠ []/\a.ag=some y)\/(t.aC≠ []/\b.ag=some y)\/(t.ar≠ []/\c.ag=some y)
open Classical in
noncomputable def jy (z:Nat->Nat) (t:bj) (a b c:Sl):Nat->Nat:=λy=>if SK t a b c y then 5 else z y
theorem Ji.lt {t:bj}{a b c:Sl}(f:Ji h t a b c){y:Nat}(j:SK t a b c y):y<h.size:=by
 rcases j with⟨d,e⟩|⟨d,e⟩|⟨d,e⟩
 ·exact f.steps.iF d e
 ·exact f.aC.iF d e
 ·exact f.ar.iF d e
theorem FZ.kL {n:aa}{t:bj}{f j k:Sl}(e:FZ h cb z x C)(H: ∀c,z c≠0->c<h.size)(w:Ext h n)(D:Ji n t f j k)(fr: ∀y,f.ag=some y\/j.ag=some y\/k.ag=some y->h.size<=y){K:aa->Prop}
  (I: ∀o E,FZ o cb E {x with a:=f,b:=j,c:=k} {C with st:=t}->Mod (λc=>z c≠0) h o->Mod (· =cb) n o->(∀ c,E c≠0->z c≠0\/(h.size<=c/\c<o.size))->K o):
  aD n ((⟨cb,0,none⟩:Q6).add 19) (t.V f j k).l K:=by
 have q:=e.on w;have J:(⟨cb,0,none⟩:Q6).add 19=⟨cb,19,none⟩:=rfl;rw[J];refine aD.mk q.ag (of_decide_eq_true rfl) λL M m Q=>?_
 have S:=H cb (by rw[e.zc];decide);have P: ∀y,SK t f j k y->h.size<=y:=λy d=>fr y (by
  rcases d with⟨_,h⟩|⟨_,h⟩|⟨_,h⟩
  ·exact .inl h
  ·exact .inr (.inl h)
  ·exact .inr (.inr h))
 have u: ∀c v,z c=v->v≠1-> ¬c=cb:=λc v F n G=>by subst G;rw[e.zc] at F;exact n F.symm
 have aM: ∀ {c r:Nat},z c=r->r≠0->jy z t f j k c=r:=λ{c r} p T=>by
  unfold jy
  grind
 refine I L (jy z t f j k) ⟨M,aM e.zc (by decide),?_,λy d=>if_pos d,q.more.mod m λy d=>u y 2 (e.zm y d) (by decide),λy d=>aM (e.zm y d) (by decide),q.aq.mod m λy d=>u y 3 (e.zp y d) (by decide),λy d=>aM (e.zp y d) (by decide),q.conds.mod m λy d=>u y 4 (e.zq y d) (by decide),λy d=>aM (e.zq y d) (by decide)⟩ ?_ m λc p=>?_
 ·exact D.da m λy d G=>by grind
 ·exact w.mod.trans (m.ak λc _ p=>by grind)
 ·unfold jy at p;split at p
  ·rename_i d;exact .inr ⟨P c d,by have:=D.lt d;have:=m.size;omega⟩
  ·exact .inl p
theorem FZ.ld(b:FZ h cb z x C):Cells h ((⟨cb,0,none⟩:Q6).add 19) (C.st.V x.a x.b x.c).l:=by have c:(⟨cb,0,none⟩:Q6).add 19=⟨cb,19,none⟩:=rfl;rw[c];exact Cr b.ag rfl
theorem LW.out(b:LW B g h s a N sh l mp O){c:Nat}(d:O c):c<h.size/\g.size<=c:=by
 obtain⟨q,e,st,m,f,nn,C,j,k,n,o,out⟩:=b
 simp_all
structure CW (B:cX) (g h:aa) (s a N sh:Nat) (l:List Hs) (i:Nat) (y:Hs) (mp:List Pr) (O:Nat->Prop) (cb:Nat) (z:Nat->Nat) (x:dU) (C:ba):Prop where
 w:LW B g h s a N sh (l.set i y) mp (λc=>O c\/z c≠0)
 il:i<l.length
 no: ∀c,z c≠0-> ¬O c
 hp:x.hp=y.p
 bq:FZ h cb z x C
theorem CW.fH(b:CW B g h s a N sh l i y mp O cb z x C): ∀c,z c≠0->c<h.size:=λc d=>(b.w.out (.inr d)).1
theorem CW.zfr(b:CW B g h s a N sh l i y mp O cb z x C): ∀c,z c≠0->aR g O c:=λc d=>⟨(b.w.out (.inr d)).2,b.no c d⟩
theorem CW.frame {b:aa}(d:CW B g h s a N sh l i y mp O cb z x C)(m:Mod (λc=>z c≠0) h b):Mod (aR g O) h b:=m.ak λc _ e=>d.zfr c e
theorem CW.step {d:aa}{f:Nat->Nat}{x':dU}{j:ba}(b:CW B g h s a N sh l i y mp O cb z x C)(m:Mod (λc=>z c≠0) h d)(n: ∀c,f c≠0->z c≠0\/(h.size<=c/\c<d.size))(o:x'.hp=x.hp)(p:FZ d cb f x' j):CW B g d s a N sh l i y mp O cb f x' j:=
 ⟨b.w.own (m.ak λc _ e=> .inr e) λc e=>by
   grind,
  b.il,λc e k=>by
   rcases n c e with h|h
   ·exact b.no c h k
   ·have:=(b.w.out (.inl k)).1;omega,
  o.trans b.hp,p⟩
theorem CW.on {c:aa}(b:CW B g h s a N sh l i y mp O cb z x C)(m:Ext h c):CW B g c s a N sh l i y mp O cb z x C:=⟨b.w.on m,b.il,b.no,b.hp,b.bq.on m⟩
theorem CW.wider {e:aa}{O':Nat->Prop}(b:CW B g h s a N sh l i y mp O cb z x C)(m:Mod O h e)(j: ∀c,O' c->O c\/(h.size<=c/\c<e.size)):CW B g e s a N sh l i y mp O' cb z x C:=
 ⟨b.w.own (m.ak λc _ d=> .inl d) λc d=>by
   grind,
  b.il,λc d f=>by
   rcases j c f with h|h
   ·exact b.no c d h
   ·have:=b.fH c d;omega,
  b.hp,b.bq.mod m λc d f=>b.no c d f⟩
end
theorem uP {h:aa}{b:Nat}{T:Q7}{fr:Nat×Nat}{c:Ev}(d:h[b]? =some (J2 c.c T fr)):af h (⟨b,0,none⟩:Q6)=some (J6 J9 c.id)/\af h ((⟨b,0,none⟩:Q6).add 1)=some (J6 J9 c.kind)/\af h ((⟨b,0,none⟩:Q6).add 2)=some (J6 J9 c.tick)/\af h ((⟨b,0,none⟩:Q6).add 3)=some (J6 J9 c.ref)/\af h ((⟨b,0,none⟩:Q6).add 4)=some (J6 J9 c.step)/\af h ((⟨b,0,none⟩:Q6).add 5)=some (J6 J9 c.turn)/\af h ((⟨b,0,none⟩:Q6).add 6)=some (J3 c.aK)/\af h ((⟨b,0,none⟩:Q6).add 7)=some (J7 c.data):=
 ⟨AO d rfl,AB d rfl,AB d rfl,AB d rfl,AB d rfl,AB d rfl,AB d rfl,AB d rfl⟩
end Go.Lf.G
namespace Go.Lf
open G
open Go
open M (Sorted Ac Bt BF Ae Ak BH Ah aY A7 aF Aw)
theorem Cells.je {h:aa}{a:Q6}{t:bE}(c:Cells h a t.l):af h a=some (J4 t.steps.p t.steps.len t.steps.cap)/\af h (a.add 1)=some (J6 J9 t.aw)/\af h (a.add 2)=some (J6 J9 t.status)/\af h (a.add 3)=some (J6 J9 t.next)/\af h (a.add 4)=some (J6 J9 t.aP)/\af h (a.add 5)=some (J6 J9 t.asked)/\af h (a.add 6)=some (J6 J9 t.taken)/\af h (a.add 7)=some (J3 t.fresh)/\af h (a.add 8)=some (J4 t.aC.p t.aC.len t.aC.cap)/\af h (a.add 9)=some (J4 t.ar.p t.ar.len t.ar.cap)/\af h (a.add 10)=some (J3 t.cancel)/\af h (a.add 11)=some (J3 t.aI):=by have b:=c 0 _ rfl;rw[add_zero] at b;exact⟨b,c 1 _ rfl,c 2 _ rfl,c 3 _ rfl,c 4 _ rfl,c 5 _ rfl,c 6 _ rfl,c 7 _ rfl,c 8 _ rfl,c 9 _ rfl,c 10 _ rfl,c 11 _ rfl⟩
end Go.Lf
namespace Go.Lf.G
open Go
open M (Sorted Ac Bt BF Ae Ak BH Ah aY A7 aF Aw)
structure Hs.cY (y y':Hs):Prop where
 p:y'.p=y.p
 name:y'.name=y.name
 f:y'.f=y.f
 u: ∀m,y.u m<=y'.u m/\y'.u m<=y.u m+1
theorem Hs.cY.refl(y:Hs):y.cY y:=⟨rfl,rfl,rfl,λ_=>⟨A0 _,Ge _⟩⟩
def dJ(y c:Hs)(b d:Nat):Prop:= ∃v,y.u b<v/\v<=c.u b/\d=y.f b*16777216+v
def pX(y b:Hs)(C c:ba)(d:Nat):Prop:=c.err=0->y.f C.ai≠0->dJ y b C.ai d
section
variable {A : ao} {B : cX} {g h : aa} {s a N sh cb : Nat} {l : List Hs} {mp : List Pr} {O : Nat -> Prop} {i : Nat} {y : Hs} {z : Nat -> Nat} {x : dU} {C : ba} {R : A30}
theorem CW.put {b:Nat}(W:CW B g h s a N sh l i y mp O cb z x C)(c:N<=b)(d:b<=1000000)(e:64*a<=B.C):CW B g h s a b sh l i y mp O cb z x C:=⟨W.w.put (A0 _) e c d,W.il,W.no,W.hp,W.bq⟩
theorem CW.at(b:CW B g h s a N sh l i y mp O cb z x C):(l.set i y)[i]? =some y:=DM b.il
theorem CW.lw {d:aa}{f j:Nat}{k:List Pr}{e:Hs}(b:CW B g h s a N sh l i y mp O cb z x C)(n:LW B g d s j f sh ((l.set i y).set i e) k (λc=>O c\/z c≠0))(m:Mod (aR g (λc=>O c\/z c≠0)) h d)(o:e.p=y.p):CW B g d s j f sh l i e k O cb z x C:=
 ⟨by rw[List.set_set] at n;exact n,b.il,b.no,b.hp.trans o.symm,b.bq.mod m λc p q=>q.2 (.inr p)⟩
theorem uQ {t:bE}(c: ∀b,Ext h b->R (J3 (decide (t.next<=497))) b):AA A P Ma #[t.v] h R:=by refine AEo ?_;unfold XL;exact aj.mk λd _ e f j=>AC.mk (AB e rfl) (c d f)
theorem pY {wid:A31}{ai:Nat}{j k now:Int}{m:Bool}{v:Sl}{st:bj}{d e f:Sl}(E:LW B g h s a N sh (l.set i y) mp (λc=>O c\/SK st d e f c))(Q:i<l.length)(F:Ji h st d e f)(no: ∀c,SK st d e f c-> ¬O c)
  (G: ∀w cb z x,CW B g w s a N sh l i y mp O cb z x (Gh wid ai j k m st now)->Ext h w->R (Ar cb) w):
  AA A P G6 #[Ar y.p,(⟨wid,(ai:Int),⟨j,k,m⟩,v,st.V d e f⟩:bG).v,J6 J9 now] h R:=by
 refine ACJ ?_;unfold Va;refine aj.mk λo _ H I af=>EC.mk ⟨wid,(ai:Int),⟨j,k,m⟩,v,st.V d e f⟩ (Cr H rfl) ?_
 have S:(⟨h.size,0,none⟩:Q6).add 6=⟨h.size,6,none⟩:=rfl;rw[S];refine Bg.mk (st.V d e f) (Cr H rfl) ?_;refine aj.mk λp _ T U ag=>?_
 have r:Ext h p:=I.trans U
 let x:dU:=⟨y.p,v,st.V d e f,d,e,f,⟨none,0,0⟩,⟨none,0,0⟩,⟨none,0,0⟩⟩
 let t:ba:= {Gh wid ai j k m st now with err:=0}
 let z:Nat->Nat:=λc=>if c=o.size then 1 else jy (λ_=>0) st d e f c
 have V: ∀c,SK st d e f c->c<h.size:=λc b=>F.lt b
 have W: ∀c,z c≠0->c=o.size\/SK st d e f c:=λc b=>by
  by_cases q:c=o.size
  ·exact .inl q
  ·have b:jy (λ_=>0) st d e f c≠0:=by grind
   unfold jy at b;split at b
   ·rename_i X;exact .inr X
   ·exact absurd rfl b
 have Y:FZ p o.size z x t:=⟨T,if_pos rfl,(F.ext r),λc b=>by
   have:=V c b;show z c=5;exact(if_neg (by omega)).trans (if_pos b),Own.nil,λc b=>by simp[x,Sl.ag] at b,Own.nil,λc b=>by simp[x,Sl.ag] at b,Own.nil,λc b=>by simp[x,Sl.ag] at b⟩
 have D:CW B g p s a N sh l i y mp O o.size z x t:=⟨E.own r.mod λc b=>by
   grind,Q,λc b J=>by
   rcases W c b with h|h
   ·have:=(E.out (.inl J)).1;omega
   ·exact no c h J,rfl,Y⟩
 refine ah.mk λK L=>ah.mk λZ aa=>?_
 have key: ∀u:Bool,(u=true↔now<0\/1099511611776<now)->Z (u,()) p:=λu ab=>by
  refine aa _ _ (ae.intro (λn=>?_) (λn=>?_))
  ·refine D.bq.err λac D3 M ak=>L _ _ (G ac _ z x ?_ (r.more M λc b=>by subst b;exact I.size))
   have q:Gh wid ai j k m st now= {t with err:=1}:=by have:Gh wid ai j k m st now= {Gh wid ai j k m st now with err:=if now<0\/1099511611776<now then 1 else 0}:=rfl;rw[this,if_pos (ab.1 n)]
   rw[q];exact D.step (M.ak λc _ b=>by grind) (λc b=> .inl b) rfl D3
  ·have n:u=false:=n;refine L _ _ (G p _ z x ?_ r);have q:Gh wid ai j k m st now=t:=by have:Gh wid ai j k m st now= {Gh wid ai j k m st now with err:=if now<0\/1099511611776<now then 1 else 0}:=rfl;rw[this,if_neg λh=>by grind]
   rw[q];exact D
 refine ae.intro (λn=>key true (by simp at n;simp[n])) (λn=>key _ (by simp at n;simp;omega))
theorem uR(b:CW B g h s a N sh l i y mp O cb z x C)(d:0<=C.st.next/\C.st.next<=501)(c:R (J6 J9 (TU C)) h):AA A P EH #[Ar cb] h R:=by refine UD ?_;unfold NC;refine aA (AC.mk (Co b.bq.ag rfl) ?_);rw[wrap_i64 (by omega) (by omega)];exact c
theorem UE {e:Ev}{n:Nat}(f:CW B g h s a N sh l i y mp O cb z x C)(ap:Cz C.st n)(aq:n<=600)(hd:e.data.size<1099511627776)(ar:jw e.kind)(aM:C.more.length<1000)
  (T: ∀Z aN x',CW B g Z s a N sh l i y mp O cb aN x' (DX C e)->Mod (aR g O) h Z->R (J1 #[]) Z):AA A P BQ #[Ar cb,e.v] h R:=by
 refine Ua ?_;unfold Ns;refine aj.mk λaO _ aP v ba=>aA (AC.mk (Cg (f.on v).bq.ag rfl) (ae.intro (λd=>?_) (λd=>?_)))
 ·have d:C.err≠0:=by simpa using d
  refine T aO z x ?_ v.mod;unfold DX;rw[if_pos d];exact f.on v
 have ac:C.err=0:=by simpa using d
 have au: ∀c,z c≠0-> ¬c=h.size:=λc o e=>by have:=f.fH c o;omega
 refine aA (AC.mk (Co (f.on v).bq.ag rfl) (aA (AC.mk (Cg (f.on v).bq.ag rfl) ?_)));refine ab.bT (j:=0) (dT:=({e with id:=if 1>C.st.next then 1 else C.st.next}:Ev).c) aP (of_decide_eq_true rfl) rfl λbb aQ av bc=>⟨Cg ((f.on v).bq.mod av au).ag rfl,?_⟩
 refine ab.bT (j:=2) (dT:=(CG C e).c) aQ (of_decide_eq_true rfl) rfl λaf aw aS bd=>?_
 have ag:Ext h af:=v.more (av.trans aS) λc o=>by omega
 refine ah.mk λK aT=>?_
 have key: ∀(U:Bool) (F:aa),Ext af F->(U=true↔C.more= []/\iX C.st=false/\e.kind≠18)->K (U,()) F:=λU F ai ax=>by
  have L:=ag.trans ai;have G:=f.on L;have V:=ai.ag aw λh=>h
  refine aT _ _ (ae.intro (λd=>?_) (λd=>?_))
  ·refine aA (G.bq.err λk aU aV aW=>?_);have ay:Mod (λc=>z c≠0) F k:=aV.ak λc _ o=>by subst o;rw[f.bq.zc];decide
   refine T k z x ?_ (L.mod.trans (G.frame ay));unfold DX;rw[if_neg (by simp[ac]),if_pos (ax.1 d)];exact G.step ay (λc o=> .inl o) rfl aU
  have d:U=false:=d;have az: ¬(C.more= []/\iX C.st=false/\e.kind≠18):=λh=>by rw[ax.2 h] at d;cases d
  refine ah.mk λaX aY=>aA (Bg.mk (C.st.V x.a x.b x.c) G.bq.ld (NV.mk (CG C e) (RJ V) ?_))
  have aC: ∀(k:aa) (ak:Nat) (p q r:Sl),Ext F k->k[ak]? =some (J2 ((Bf C.st (CG C e)).2.V p q r).c BN (0,0))->Ji k (Bf C.st (CG C e)).2 p q r->(∀ y,p.ag=some y\/q.ag=some y\/r.ag=some y->h.size<=y)->
    aX (some ⟨ak,0,none⟩,(Bf C.st (CG C e)).1,()) k:=λk ak p q r m aZ M fr=>by
   have al:=L.trans m;have am:=f.on al;refine aY _ _ (ae.intro (λd=>?_) (λd=>?_))
   ·have d:(Bf C.st (CG C e)).1≠0:=by simpa using d
    refine aA (am.bq.err λH an W aE=>?_);have X:Mod (λc=>z c≠0) k H:=W.ak λc _ o=>by subst o;rw[f.bq.zc];decide
    refine T H z x ?_ (al.mod.trans (am.frame X));unfold DX;rw[if_neg (by simp[ac]),if_neg az,if_pos d];exact am.step X (λc o=> .inl o) rfl an
   have a0:(Bf C.st (CG C e)).1=0:=by simpa using d
   refine aA (Bg.mk ((Bf C.st (CG C e)).2.V p q r) (JC aZ) (aA (f.bq.kL f.fH al M fr λH be an W X a1=>?_)));have aF:=f.step (x':= {x with a:=p,b:=q,c:=r}) W a1 rfl an;have Q:=X.ag (m.ag V λh=>h) (λe=>au cb (by rw[f.bq.zc];decide) e.symm);refine aA (AV.mk (s:=x.more) (Cg aF.bq.ag rfl) (NV.mk (CG C e) (RJ Q) (aj.mk λI _ w aG aH=>?_)));have S:=aF.on aG;refine⟨Cg S.bq.ag rfl,?_⟩;have a2:View de I ⟨some ⟨H.size,0,none⟩,1,1⟩ [CG C e]:=(Own.lit (E:=de) (l:= [CG C e]) w rfl (by simp[maxLen])).view;refine S.bq.kK S.fH a2 aM λa3 aI a4 a5 aJ a6=>?_
   have a7:=S.step (x':= {x with a:=p,b:=q,c:=r,more:=aI}) aJ a6 rfl a5;refine T a3 a4 {x with a:=p,b:=q,c:=r,more:=aI} ?_ ((f.frame W).trans (aG.mod.trans (S.frame aJ)));have a8:DX C e= {C with st:=(Bf C.st (CG C e)).2,more:=C.more++ [CG C e]}:=by unfold DX;rw[if_neg (by simp[ac]),if_neg az,if_neg (by simp[a0])]
   rw[a8];exact a7
  have bf:=ag.size;have bg:=ai.size;constructor
  ·refine pT G.bq.st ap aq hd ar λk p q r m M J=>Gn.mk _ ⟨_,rfl,aj.mk λH _ Q u aE=>⟨uP ((m.trans u).ag V λh=>h),(f.on ((L.trans m).trans u)).bq.ld.je,aD.mk Q (A0 12) λI w Y aH=>?_⟩⟩
   rw[Pf] at w;have aK:Ext k I:=u.more Y λc o=>by omega
   exact aC I k.size p q r (m.trans aK) w (M.ext aK) λy t=>by have:=J y t;omega
  ·refine aj.mk λH _ Q u aE=>⟨uP (u.ag V λh=>h),(f.on (L.trans u)).bq.ld.je,?_⟩
   refine pT (G.bq.st.ext u) ap aq hd ar λk p q r m M J=>Gn.mk _ ⟨_,rfl,aD.mk (m.ag Q λh=>h) (A0 12) λI w Y aH=>?_⟩
   rw[Pf] at w;have aW:=m.size;have a9:=M.mod Y (λy t e=>by have:=J y (.inl t);omega) (λy t e=>by have:=J y (.inr (.inl t));omega) (λy t e=>by have:=J y (.inr (.inr t));omega);exact aC I F.size p q r ((u.trans m).more Y λc o=>by omega) w a9 λy t=>by have:=J y t;omega
 have ao:=f.on ag;refine aA (AV.mk (s:=x.more) (Cg ao.bq.ag rfl) ?_);have aL:=ao.bq.more.len;refine ae.intro (λd=>?_) (λd=>?_)
 ·have d:C.more= []:=by simp at d;exact CM (by omega)
  refine aA (Bg.mk (C.st.V x.a x.b x.c) ao.bq.ld (uQ λk m=>⟨_,rfl,?_⟩));refine ae.intro (λD=>?_) (λD=>?_)
  ·have D:iX C.st=false:=by unfold iX;simpa using D
   refine AC.mk (AB (m.ag aw λh=>h) rfl) (key _ k m ?_);simp[d,D,CG]
  ·have D:iX C.st=true:=by unfold iX;simpa using D
   refine key _ k m ?_;simp[D]
 ·have d:C.more≠ []:=λh=>by rw[h] at aL;simp[aL] at d
  refine key _ af Mod.refl ?_;simp[d]
theorem uS {t:bQ}{tick:Int}(r:CW B g h s a N sh l i y mp O cb z x C)(V:C.ai<256)(ap:y.f C.ai<=2147483647)(ar:y.u C.ai+1<16777216)(H:N+1<=1000000)(J:64*a<=B.C)(au:C.aq.length<1000)(a7:tick<9223372036854775808)
  (L: ∀M av x' e d,CW B g M s a (N+1) sh l i e mp O cb av x' (Dq C ⟨t.kind,t.ref,t.turn⟩ tick d)->y.cY e->pX y e C (Dq C ⟨t.kind,t.ref,t.turn⟩ tick d) d->Mod (aR g O) h M->R (J1 #[]) M):AA A P GR #[Ar cb,t.v,J6 J9 tick] h R:=by
 refine Tp ?_;unfold NG;refine aj.mk λaw _ ax w a8=>aA (AC.mk (Cg (r.on w).bq.ag rfl) (ae.intro (λb=>?_) (λb=>?_)))
 ·have b:C.err≠0:=by simpa using b
  have D:Dq C ⟨t.kind,t.ref,t.turn⟩ tick 0=C:=by unfold Dq;rw[if_pos b]
  refine L aw z x y 0 (by rw[D];exact(r.on w).put (by omega) H J) (Hs.cY.refl y) (λE=>absurd (by rw[D] at E;exact E) b) w.mod
 have W:C.err=0:=by simpa using b
 refine aA (AL.mk (n:=C.wid) (Cg (r.on w).bq.ag rfl) (ab.bT (j:=1) (dT:=({t with wid:=C.wid}:bQ).c) ax (of_decide_eq_true rfl) rfl λay az aC a9=>?_));have aD:Ext h ay:=w.more aC λc q=>by omega
 refine Ir.mk ({t with wid:=C.wid}:bQ) (Cr az rfl) (uN λF aE=>⟨_,_,rfl,?_⟩);have Q:=aD.trans aE;have f:=r.on Q;cases X:G9 ⟨t.kind,t.ref,t.turn⟩ C.wid with
 |false=>
  refine ae.yes rfl (aA (f.bq.err λY aF aG ba=>?_));have Z:Mod (λc=>z c≠0) F Y:=aG.ak λc _ q=>by subst q;rw[r.bq.zc];decide
  have D:Dq C ⟨t.kind,t.ref,t.turn⟩ tick 0= {C with err:=1}:=by unfold Dq;rw[if_neg (by simp[W]),if_pos X]
  refine L Y z x y 0 ?_ (Hs.cY.refl y) (λE=>by rw[D] at E;exact absurd (show(1:Int)=0 from E) (by decide)) (Q.mod.trans (f.frame Z));rw[D];exact(f.step Z (λc q=> .inl q) rfl aF).put (by omega) H J
 |true=>
  refine ae.no rfl ?_;have aH:af F (⟨cb,0,none⟩:Q6)=some (Ar y.p):=by have:=Cg (j:=0) f.bq.ag rfl;rw[add_zero,r.hp] at this;exact this
  refine aA (AY.mk aH (aA (AC.mk (Co f.bq.ag rfl) ?_)));have fin: ∀(k:aa) (e:Hs) (d:Nat),CW B g k s a (N+1) sh l i e mp O cb z x C->y.cY e->(y.f C.ai≠0->dJ y e C.ai d)->Mod (aR g O) F k->(∃ S:Int,Value.int .u64 (d:Int)= .int .u64 S/\(
    At (some (⟨cb,0,none⟩:Q6)) λaI=>
    AC J9 k ((aI.add 1).add 1) λaJ=>
    AA A P KL #[J6 J9 aJ,.int .u64 S] k λv2 u=> ∃ac:A31,v2=J7 ac/\(
    ah (λ(s:A31×Unit) o=>
      At (some (⟨cb,0,none⟩:Q6)) λaK=>
      AV o (aK.add 32) λT=>
      aj o (J2 #[J7 s.1,J7 (if true then fR ⟨t.kind,t.ref,t.turn⟩ C.wid else⟨#[]⟩),J3 false] AU) λaL U=>
      Af A P (Builtin.append_ #[AR,AR] AR #[J4 T.p T.len T.cap,J4 (some (⟨aL,0,none⟩:Q6)) 1 1]) U λaM aN=> ∃v:Sl,aM=J4 v.p v.len v.cap/\(
      At (some (⟨cb,0,none⟩:Q6)) λaO=>
      ab aN (aO.add 32) (J4 v.p v.len v.cap) λaP=>
      R (J1 #[]) aP)) λK=>
     ae (decide (tick>=(0:Int))) (
      At (some (⟨cb,0,none⟩:Q6)) λaQ=>
      AC J9 u ((aQ.add 1).add 1) λaS=>
      AA A P OY #[J6 J9 aS,J6 J9 tick,.int .u64 S] u λaT aU=> ∃ag:A31,aT=J7 ag/\(
      K (ag,()) aU)) (
      K (ac,()) u)))):=λk e d ai aV aW aX=>by
   refine⟨_,rfl,aA (AC.mk (Co ai.bq.ag rfl) (ARu V λu ak=>⟨_,rfl,ah.mk λK aY=>?_⟩))⟩;have al:=ai.on ak;have key: ∀(o:aa),Ext u o->K (ML C.ai tick d,()) o:=λo I=>by
    have G:=al.on I;refine aY _ _ (aA (AV.mk (s:=x.aq) (Cg G.bq.ag rfl) ?_));refine G.bq.dX (p:=⟨ML C.ai tick d,fR ⟨t.kind,t.ref,t.turn⟩ C.wid,false⟩) G.fH au λU am aZ a0 an a1=>?_
    have a2:=G.step (x':= {x with aq:=am}) an a1 rfl a0;refine L U aZ {x with aq:=am} e d ?_ aV (λ_=>aW) (Q.mod.trans (aX.trans ((ak.trans I).mod.trans (G.frame an))));unfold Dq;rw[if_neg (by simp[W]),if_neg (by simp[X])];exact a2
   refine ae.intro (λb=>?_) (λb=>?_)
   ·have b:0<=tick:=by simpa using b
    obtain⟨n,rfl⟩: ∃n:Nat,tick=n:=⟨tick.toNat,by omega⟩;refine aA (AC.mk (Co al.bq.ag rfl) (ARn V (by omega) λo I=>⟨_,rfl,?_⟩));have:=key o I;unfold ML at this;rw[if_neg (by omega),An] at this;exact this
   ·have b:tick<0:=by simp at b;omega
    have:=key u Mod.refl;unfold ML at this;rw[if_pos b] at this;exact this
  refine f.w.number f.at ap ar H (λa3=>?_) λbb k a4 ao=>?_
  ·exact fin F y 0 (f.put (by omega) H J) (Hs.cY.refl y) (λh=>absurd a3 h) Mod.refl
  ·have a5:Mod (aR g O) F k:=ao.ak λc _ q=>⟨q.1,λa6=>q.2 (.inl a6)⟩
   exact fin k (y.jf C.ai) _ (f.lw a4 ao rfl) ⟨rfl,rfl,rfl,λm=>by
    show _<=dw y.u C.ai (y.u C.ai+1) m/\dw y.u C.ai (y.u C.ai+1) m<=_
    grind [dw]⟩ (λ_=>⟨_,Ks _,by show _<=dw y.u C.ai (y.u C.ai+1) C.ai;grind [dw],rfl⟩) a5
theorem ATY {t:bQ}(k:CW B g h s a N sh l i y mp O cb z x C)(m:C.ai<256)(n:y.f C.ai<=2147483647)(o:y.u C.ai+1<16777216)(p:N+1<=1000000)(q:64*a<=B.C)(r:C.aq.length<1000)
  (u: ∀b e f c d,CW B g b s a (N+1) sh l i c mp O cb e f (Dq C ⟨t.kind,t.ref,t.turn⟩ (-1) d)->y.cY c->pX y c C (Dq C ⟨t.kind,t.ref,t.turn⟩ (-1) d) d->Mod (aR g O) h b->R (J1 #[]) b):AA A P GX #[Ar cb,t.v] h R:=by
 refine Tw ?_;unfold NK;refine aj.mk λG _ v j H=>Ir.mk t (Cr v rfl) (uS (k.on j) m n o p q r (by decide) λb e f c d w D E F=>⟨rfl,u b e f c d w D E (j.mod.trans F)⟩)
theorem pZ {t:bQ}{tick:Int}(k:CW B g h s a N sh l i y mp O cb z x C)(m:C.ai<256)(n:y.f C.ai<=2147483647)(o:y.u C.ai+1<16777216)(p:N+1<=1000000)(q:64*a<=B.C)(r:C.aq.length<1000)(G:tick<9223372036854775808)
  (u: ∀b e f c d,CW B g b s a (N+1) sh l i c mp O cb e f (Dq C ⟨t.kind,t.ref,t.turn⟩ (if(0:Int)>tick then 0 else tick) d)->y.cY c->pX y c C (Dq C ⟨t.kind,t.ref,t.turn⟩ (if(0:Int)>tick then 0 else tick) d) d->Mod (aR g O) h b->R (J1 #[]) b):AA A P EF #[Ar cb,t.v,J6 J9 tick] h R:=by
 refine Wz ?_;unfold PK;refine aj.mk λH _ v j I=>Ir.mk t (Cr v rfl) (uS (k.on j) m n o p q r (by split<;>omega) λb e f c d w D E F=>⟨rfl,u b e f c d w D E (j.mod.trans F)⟩)
theorem APM {key val:A31}(b:CW B g h s a N sh l i y mp O cb z x C)(k:C.conds.length<1000)(m:C.aq.length<1000)
  (n: ∀d o x',CW B g d s a N sh l i y mp O cb o x' (nZ C key val)->Mod (aR g O) h d->R (J1 #[]) d):AA A P JH #[Ar cb,J7 key,J7 val] h R:=by
 refine Tu ?_;unfold Mo;dsimp only[At];refine AV.mk (s:=x.conds) (Cg b.bq.ag rfl) ?_;refine b.bq.fi (p:=⟨key,⟨#[]⟩,true⟩) b.fH k λF e G q f r=>?_
 have c:=b.step (x':= {x with conds:=e}) f r rfl q;refine AV.mk (s:=x.aq) (Cg c.bq.ag rfl) ?_;refine c.bq.dX (p:=⟨key,val,false⟩) c.fH m λt u v w j D=>?_
 have E:=c.step (x':= {x with conds:=e,aq:=u}) j D rfl w;exact n t v _ E ((b.frame f).trans (c.frame j))
theorem uT(q:CW B g h s a N sh l i y mp O cb z x C)(H:0<=C.st.next/\C.st.next<=501)
  (r: ∀n,Ext h n->R (⟨0,(Cy C).1,(Cy C).2,⟨0,⟨#[]⟩,0,0⟩,⟨#[]⟩,⟨none,0,0⟩⟩:aZ).v n):AA A P FH #[Ar cb] h R:=by
 refine Qv ?_;unfold Kn;refine aj.mk λo _ t p I=>?_
 have b:=(q.on p).bq;refine aA (AC.mk (Co b.ag rfl) (ah.mk λK u=>?_));have fin: ∀nx:Int,nx=(Cy C).2->K (nx,()) o:=λnx v=>by
  subst v;refine u _ _ (aA (AC.mk (Co b.ag rfl) (aD.mk t (A0 9) λw D E J=>?_)));refine Bu.mk ⟨0,C.st.status,(Cy C).2,⟨0,⟨#[]⟩,0,0⟩,⟨#[]⟩,⟨none,0,0⟩⟩ (Cr D rfl) ?_;exact r w (p.more E λc L=>by omega)
 refine ah.mk λF G=>?_
 have key: ∀d:Bool,d=ED C->F (d,()) o:=λd M=>by
  refine G _ _ (ae.intro (λe=>?_) (λe=>?_))
  ·have e:d=true:=e;rw[wrap_i64 (by omega) (by omega)];refine fin _ ?_
   simp_all [Cy,if_pos]
  ·have e:d=false:=e;refine fin _ ?_
   simp_all [Cy,if_neg]
 have Q:=b.more.len;unfold ED at key;refine aA (AV.mk (s:=x.more) (Cg b.ag rfl) (ae.intro (λf=>?_) (λf=>?_)));rotate_left
 ·have f:C.more= []:=by simp_all
  exact key _ (by simp[f])
 have f:C.more≠ []:=λh=>by grind
 refine aA (AC.mk (Co b.ag rfl) (ae.intro (λj=>?_) (λj=>key _ (by simp at j;simp[j]))));refine aA (Aa.mk (Co b.ag rfl) (ae.intro (λk=>?_) (λk=>key _ (by grind))));have k:C.st.fresh=true:=k;refine aA (AC.mk (Co b.ag rfl) (ae.intro (λm=>?_) (λm=>key _ (by simp at m;simp[m]))));refine aA (AC.mk (Co b.ag rfl) (key _ ?_))
 grind
end
def RB:Ev:=⟨0,2,0,0,0,0,false,⟨#[]⟩⟩
def EZ(C:ba)(b:Nat):ba:=if ED C then Dq (DX C RB) ⟨1,TU (DX C RB),0⟩ (-1) b else C
def uU(C:ba):Int:=if(0:Int)>C.now+20 then 0 else C.now+20
def Az(C:ba)(b c:Nat):ba:=if C.more≠ []/\(EZ C b).st.status≠0 then Dq (EZ C b) ⟨7,0,0⟩ (uU C) c else EZ C b
end Go.Lf.G
namespace Go.Lf
open G
open Go
open M (Sorted Ac Bt BF Ae Ak BH Ah aY A7 aF Aw)
structure ba.grown (C D:ba) (n k j:Nat):Prop where
 wid:D.wid=C.wid
 ai:D.ai=C.ai
 bW:D.bW=C.bW
 bO:D.bO=C.bO
 kept:D.kept=C.kept
 conds:D.conds=C.conds
 now:D.now=C.now
 more:D.more.length<=C.more.length+k
 none:C.more≠ []->D.more≠ []
 aq:D.aq.length<=C.aq.length+j
 ok: ∀e∈D.more,Ea e=true/\e.data.size<1099511627776
 st:Cz D.st n
end Go.Lf
namespace Go.Lf.G
open Go
open M (Sorted Ac Bt BF Ae Ak BH Ah aY A7 aF Aw)
theorem HV(C:ba)(t:fA)(tick:Int)(b:Nat):(Dq C t tick b).st=C.st/\(Dq C t tick b).more=C.more:=by
 unfold Dq;split
 ·exact⟨rfl,rfl⟩
 ·split<;>exact⟨rfl,rfl⟩
theorem X8 {C b:ba}{q r u:Nat}(G:C.grown b q r u)(t:fA)(tick:Int)(v:Nat):C.grown (Dq b t tick v) q r (u+1):=by
 obtain⟨g1,c,d,e,f,j,k,m,n,w,o,p⟩:=G;unfold Dq;split
 ·exact⟨g1,c,d,e,f,j,k,m,n,by omega,o,p⟩
 ·split
  ·exact⟨g1,c,d,e,f,j,k,m,n,by show b.aq.length<=_;omega,o,p⟩
  ·exact⟨g1,c,d,e,f,j,k,m,n,by show(b.aq++ [_]).length<=_;rw[A1,BE];omega,o,p⟩
theorem Xy {C:ba}{b:Nat}(ok: ∀c∈C.more,Ea c=true/\c.data.size<1099511627776)(d:Cz C.st b):C.grown C b 0 0:=⟨rfl,rfl,rfl,rfl,rfl,rfl,rfl,A0 _,id,A0 _,ok,d⟩
end Go.Lf.G
namespace Go.Lf
open G
open Go
open M (Sorted Ac Bt BF Ae Ak BH Ah aY A7 aF Aw)
theorem Cz.up {s:bj}{c m:Nat}(b:Cz s c)(h:c<=m):Cz s m:=⟨by have:=b.aC;omega,by have:=b.ar;omega,b.steps,b.aw,b.aP,b.next,b.st,b.waits⟩
end Go.Lf
namespace Go.Lf.G
open Go
open M (Sorted Ac Bt BF Ae Ak BH Ah aY A7 aF Aw)
theorem MM {C b:ba}{u v w:Nat}(G:C.grown b u v w){e:Ev}(hd:e.data.size<1099511627776):C.grown (DX b e) (u+1) (v+1) w:=by
 obtain⟨g1,c,d,f,j,k,m,D,r,n,o,p⟩:=G;unfold DX;split
 ·exact⟨g1,c,d,f,j,k,m,by omega,r,n,o,p.up (Ge _)⟩
 ·split
  ·exact⟨g1,c,d,f,j,k,m,by show b.more.length<=_;omega,r,n,o,p.up (Ge _)⟩
  ·split
   ·exact⟨g1,c,d,f,j,k,m,by show b.more.length<=_;omega,r,n,o,p.up (Ge _)⟩
   ·rename_i q;have q:(Bf b.st (CG b e)).1=0:=by simpa using q
    refine⟨g1,c,d,f,j,k,m,by show(b.more++ [_]).length<=_;rw[A1,BE];omega,λ_=>by show b.more++ [_]≠ [];simp,n,λx t=>?_,Ug p q⟩;have t:x∈b.more++ [CG b e]:=t;rcases List.mem_append.1 t with h|h
    ·exact o x h
    ·rw[List.mem_singleton.1 h];exact⟨RS q,hd⟩
structure Hs.cK (y y':Hs):Prop where
 p:y'.p=y.p
 name:y'.name=y.name
 f:y'.f=y.f
 u: ∀m,y.u m<=y'.u m/\y'.u m<=y.u m+2
section
variable {A : ao} {B : cX} {g h : aa} {s a N sh cb : Nat} {l : List Hs} {mp : List Pr} {O : Nat -> Prop} {i : Nat} {y : Hs} {z : Nat -> Nat} {x : dU} {C : ba} {R : A30}
theorem FZ.ptr {p:Nat}(b:FZ h cb z x C)(c:x.hp=p):af h (⟨cb,0,none⟩:Q6)=some (Ar p):=by have:=Cg (j:=0) b.ag rfl;rw[add_zero,c] at this;exact this
theorem FZ.sJ(b:FZ h cb z x C):Cells h (((⟨cb,0,none⟩:Q6).add 1).add 2) (⟨C.bW,C.bO,C.kept⟩:cI).l:=by have c:((⟨cb,0,none⟩:Q6).add 1).add 2=⟨cb,3,none⟩:=rfl;rw[c];exact Cr b.ag rfl
end
end Go.Lf.G
namespace Go.Lf
open G
open Go
open M (Sorted Ac Bt BF Ae Ak BH Ah aY A7 aF Aw)
theorem Cells.sK {h:aa}{a:Q6}{t:cI}(c:Cells h a t.l):af h a=some (J6 J9 t.status)/\af h (a.add 1)=some (J6 J9 t.next)/\af h (a.add 2)=some (J3 t.kept):=by have b:=c 0 _ rfl;rw[add_zero] at b;exact⟨b,c 1 _ rfl,c 2 _ rfl⟩
end Go.Lf
namespace Go.Lf.G
open Go
open M (Sorted Ac Bt BF Ae Ak BH Ah aY A7 aF Aw)
section
variable {A : ao} {B : cX} {g h : aa} {s a N sh cb : Nat} {l : List Hs} {mp : List Pr} {O : Nat -> Prop} {i : Nat} {y : Hs} {z : Nat -> Nat} {x : dU} {C : ba} {R : A30}
theorem AS0 {o:aa}{d:ba}(E:bL g)(k:CW B g o s a N sh l i y mp O cb z x d)(aZ:Am d.wid=true)(bF: ∀u∈d.more,Ea u=true/\u.data.size<1099511627776)(bG:d.ai<256)(bH:y.f d.ai<=2147483647)(hA:4+3*a<=B.A)(bI:64*a+64<=B.C)(bJ:a+1<=1000000)
  (c6:d.more.length<=900) (c7:d.aq.length<=900) (c8:d.conds.length<=900) (bK: ∀p∈d.conds,p.key.size<=1099511627776) (c9:0<=d.bW/\d.bW<128) (a0:0<=d.bO/\d.bO<=501) (a1:0<=d.st.status/\d.st.status<=4) (a2:0<=d.st.next/\d.st.next<=501)
  (bM:d.err≠0-> ∀e,LW B g e s a N sh (l.set i y) mp O->Mod (aR g O) o e->R (J6 J9 d.err) e)
  (bN:d.err=0->y.f d.ai=0-> ∀e,LW B g e s a N sh (l.set i y) mp O->Mod (aR g O) o e->R (J6 J9 170) e)
  (bO:d.err=0->y.f d.ai≠0->Bc mp (FE d.ai (y.f d.ai) y.name)=false-> ∀e,LW B g e s a N sh (l.set i (y.lost d.ai)) mp O->Mod (aR g O) o e->R (J6 J9 170) e)
  (bP:d.err=0->y.f d.ai≠0->Bc mp (FE d.ai (y.f d.ai) y.name)=true->df mp (FE d.ai (y.f d.ai) y.name::(d.conds++ [bo d])) (DW d++d.aq)≠0-> ∀e,LW B g e s a N sh (l.set i y) mp O->Mod (aR g O) o e->R (J6 J9 (df mp (FE d.ai (y.f d.ai) y.name::(d.conds++ [bo d])) (DW d++d.aq))) e)
  (bQ:d.err=0->y.f d.ai≠0->Bc mp (FE d.ai (y.f d.ai) y.name)=true->df mp (FE d.ai (y.f d.ai) y.name::(d.conds++ [bo d])) (DW d++d.aq)=0-> ∀e,LW B g e s (a+1) N sh (l.set i y) (cu mp (DW d++d.aq)) O->Mod (aR g O) o e->R (J6 J9 0) e):
  At (some (⟨cb,0,none⟩:Q6)) λbR=>
    AC J9 o (bR.add 34) λbS=>
    ae (bS != (0:Int)) (
     At (some (⟨cb,0,none⟩:Q6)) λbT=>
     AC J9 o (bT.add 34) λbU=>
     R (J6 J9 bU) o) (
     At (some (⟨cb,0,none⟩:Q6)) λbV=>
     AL o (bV.add 1) λbW=>
     AA A P GU #[J7 bW] o λv1 a1=> ∃a3:A31,v1=J7 a3/\(
     aj a1 (J2 #[J7 (⟨#[]⟩:A31),J7 (⟨#[]⟩:A31),J3 false] AU) λb a2=>
     ab a2 (⟨b,0,none⟩:Q6) (J7 a3) λbX=>
     ab bX ((⟨b,0,none⟩:Q6).add 1) (J7 (⟨#[]⟩:A31)) λbY=>
     ab bY ((⟨b,0,none⟩:Q6).add 2) (J3 true) λJ=>
     ah (λ(da:Unit) v=>
       At (some (⟨cb,0,none⟩:Q6)) λbZ=>
       AL v (bZ.add 1) λb0=>
       At (some (⟨cb,0,none⟩:Q6)) λb1=>
       AV v (b1.add 31) λaG=>
       AA A P Pz #[J7 b0,J4 aG.p aG.len aG.cap] v λv2 w=> ∃D:Sl,∃aH:Int,v2=J1 #[J4 D.p D.len D.cap,J6 J9 aH]/\(
       ae (aH != (0:Int)) (
        R (J6 J9 aH) w) (
        ah (λ(aI:Sl×Unit) q=>
          At (some (⟨cb,0,none⟩:Q6)) λai=>
          AY q ai λak=>
          At (some (⟨cb,0,none⟩:Q6)) λal=>
          AC J9 q ((al.add 1).add 1) λam=>
          At (some (⟨cb,0,none⟩:Q6)) λa4=>
          AV q (a4.add 33) λK=>
          AL q (⟨b,0,none⟩:Q6) λb2=>
          AL q ((⟨b,0,none⟩:Q6).add 1) λb3=>
          Aa q ((⟨b,0,none⟩:Q6).add 2) λb4=>
          At (some (⟨cb,0,none⟩:Q6)) λaJ=>
          AV q (aJ.add 32) λF=>
          aj q (J2 #[J7 b2,J7 b3,J3 b4] AU) λb5 H=>
          And (af H (aJ.add 32)=some (J4 F.p F.len F.cap))<|
          And (af H (a4.add 33)=some (J4 K.p K.len K.cap))<|
          And (af H ((al.add 1).add 1)=some (J6 J9 am))<|
          And (af H ai=some (J5 ak))<|
          Af A P (Builtin.append_ #[AR,AR] AR #[J4 K.p K.len K.cap,J4 (some (⟨b5,0,none⟩:Q6)) 1 1]) H λb6 I=> ∃L:Sl,b6=J4 L.p L.len L.cap/\(
          And (af I (aJ.add 32)=some (J4 F.p F.len F.cap))<|
          And (af I ((al.add 1).add 1)=some (J6 J9 am))<|
          And (af I ai=some (J5 ak))<|
          Af A P (Builtin.append_ #[AR,AR] AR #[J4 aI.1.p aI.1.len aI.1.cap,J4 F.p F.len F.cap]) I λb7 t=> ∃M:Sl,b7=J4 M.p M.len M.cap/\(
          And (af t ((al.add 1).add 1)=some (J6 J9 am))<|
          And (af t ai=some (J5 ak))<|
          AA A P GK #[J5 ak,J6 J9 am,J4 L.p L.len L.cap,J4 M.p M.len M.cap] t λb8 b9=> ∃a5:Int,b8=J6 J9 a5/\(
          R (J6 J9 a5) b9)))) λan=>
         At (some (⟨cb,0,none⟩:Q6)) λca=>
         AV w (ca.add 31) λcc=>
         ae (decide (((cc.len:Nat):Int)>(0:Int))) (
          At (some (⟨cb,0,none⟩:Q6)) λa6=>
          AC J9 w ((a6.add 19).add 2) λa7=>
          At (some (⟨cb,0,none⟩:Q6)) λa8=>
          AC J9 w ((a8.add 19).add 3) λa9=>
          aj w (J2 cI.z.c JN) λV ao=>
          And (af ao ((a8.add 19).add 3)=some (J6 J9 a9))<|
          And (af ao ((a6.add 19).add 2)=some (J6 J9 a7))<|
          aD ao (⟨V,0,none⟩:Q6) (⟨a7,a9,false⟩:cI).l λQ=>
          At (some (⟨cb,0,none⟩:Q6)) λcd=>
          AL Q (cd.add 1) λce=>
          Om Q (⟨V,0,none⟩:Q6) λap=>
          AA A P GU #[J7 ce] Q λcf aq=> ∃bb:A31,cf=J7 bb/\(
          And (af aq (⟨V,0,none⟩:Q6)=some (J6 J9 ap.status)/\af aq ((⟨V,0,none⟩:Q6).add 1)=some (J6 J9 ap.next)/\af aq ((⟨V,0,none⟩:Q6).add 2)=some (J3 ap.kept))<|
          AA A P FJ #[ap.v] aq λcg bc=> ∃bd:A31,cg=J7 bd/\(
          aj bc (J2 #[J7 bb,J7 bd,J3 false] AU) λch ci=>
          Af A P (Builtin.append_ #[AR,AR] AR #[J4 D.p D.len D.cap,J4 (some (⟨ch,0,none⟩:Q6)) 1 1]) ci λcj aK=> ∃S:Sl,cj=J4 S.p S.len S.cap/\(
          an ((⟨S.p,S.len,S.cap⟩:Sl),()) aK)))) (
          an ((⟨D.p,D.len,D.cap⟩:Sl),()) w)))) λar=>
      At (some (⟨cb,0,none⟩:Q6)) λck=>
      AC J9 J (((ck.add 1).add 2).add 1) λcl=>
      ae (decide (cl>(0:Int))) (
       At (some (⟨cb,0,none⟩:Q6)) λcm=>
       AL J (cm.add 1) λcn=>
       At (some (⟨cb,0,none⟩:Q6)) λau=>
       Om J ((au.add 1).add 2) λav=>
       AA A P GU #[J7 cn] J λco aw=> ∃be:A31,co=J7 be/\(
       And (af aw ((au.add 1).add 2)=some (J6 J9 av.status)/\af aw (((au.add 1).add 2).add 1)=some (J6 J9 av.next)/\af aw (((au.add 1).add 2).add 2)=some (J3 av.kept))<|
       AA A P FJ #[av.v] aw λcp bf=> ∃bg:A31,cp=J7 bg/\(
       ab bf (⟨b,0,none⟩:Q6) (J7 be) λbh=>
       ab bh ((⟨b,0,none⟩:Q6).add 1) (J7 bg) λbi=>
       ab bi ((⟨b,0,none⟩:Q6).add 2) (J3 false) λaL=>
       ar () aL))) (
       ar () J))):=by
 have cq: ∀ {e:aa},CW B g e s a N sh l i y mp O cb z x d->LW B g e s a N sh (l.set i y) mp O:=λcr=>cr.w.less λc f=> .inl f
 refine aA (AC.mk (n:=d.err) (Cg k.bq.ag rfl) (ae.intro (λr=>?_) (λr=>?_)))
 ·exact aA (AC.mk (n:=d.err) (Cg k.bq.ag rfl) (bM (by simpa using r) o (cq k) Mod.refl))
 have ax:d.err=0:=by simpa using r
 have db:=FV aZ;refine aA (AL.mk (n:=d.wid) (Cg k.bq.ag rfl) (mW (by omega) ⟨_,rfl,?_⟩));refine aj.pair λb J dc bj aM dd=>?_
 have ay:=k.on aM;refine ah.mk λar cs=>?_
 have bk: ∀v,Ext o v->v[b]? =some (J2 #[J7 (bo d).key,J7 (bo d).val,J3 (bo d).gone] AU (0,0))->ar () v:=λv aN ct=>by
  have W:=k.on aN;refine cs _ _ (aA (AL.mk (n:=d.wid) (Cg W.bq.ag rfl) (aA (AV.mk (s:=x.more) (Cg W.bq.ag rfl) ?_))));refine ATU aZ W.bq.more.view (by omega) bF λps w aO aP az=>⟨_,_,rfl,ae.no rfl ?_⟩
  have T:=W.on az;refine ah.mk λan cv=>?_
  have bm: ∀q (sl:Sl),Ext v q->Own Be AU q sl (DW d)->(∀ c,sl.ag=some c->v.size<=c)->an (sl,()) q:=λq sl aC aQ X=>by
   have Y:=W.on aC;have aS:=aC.ag ct λh=>h
   refine cv _ _ (aA (AY.mk (Y.bq.ptr k.hp) (aA (AC.mk (Co Y.bq.ag rfl) (aA (AV.mk (s:=x.conds) (Cg Y.bq.ag rfl) ?_))))));refine AL.mk (AO aS rfl) (AL.mk (AB aS rfl) (Aa.mk (AB aS rfl) (aA (AV.mk (s:=x.aq) (Cg Y.bq.ag rfl) (aj.mk λH _ cw Z de=>?_)))));have G:=Y.on Z;refine⟨Cg G.bq.ag rfl,Cg G.bq.ag rfl,Co G.bq.ag rfl,G.bq.ptr k.hp,?_⟩;have src:View Be H ⟨some ⟨q.size,0,none⟩,1,1⟩ [bo d]:=(Own.lit (E:=Be) (l:= [bo d]) cw rfl (by simp[maxLen])).view;refine II (E:=Be) (s:=x.conds) (src:=⟨some ⟨q.size,0,none⟩,1,1⟩) IR G.bq.conds src (by simp only[BE];omega) (by simp only[BE,maxLen];omega) λcx I cy ac cz _=>?_
   have bn: ∀c aT,z c=aT->aT≠4-> ¬x.conds.ag=some c:=λc aT bp a0 u=>by rw[G.bq.zq c u] at bp;exact a0 bp.symm
   have aE:=ac.ag G.bq.ag (bn cb 1 k.bq.zc (by decide));have cB:af I (⟨cb,0,none⟩:Q6)=some (Ar y.p):=by have:=Cg (j:=0) aE rfl;rw[add_zero,k.hp] at this;exact this
   refine⟨Cg aE rfl,Co aE rfl,cB,?_⟩;have cC:Own Be AU I x.aq d.aq:=G.bq.aq.mod ac λc f=>bn c 3 (G.bq.zp c f) (by decide)
   have dg:=aN.size;have dh:=aC.size;have di:=Z.size;have dj:=ac.size;have cD:Own Be AU I sl (DW d):=(aQ.ext Z).mod ac λc f u=>by
    have:=k.fH c (by rw[k.bq.zq c u];decide);have:=X c f;omega
   have dk:(DW d).length<=901:=by unfold DW;rw[A1,AF];split<;>simp<;>omega
   refine II (E:=Be) (s:=sl) (src:=x.aq) IR cD cC.view (by omega) (by simp only[maxLen];omega) λdl t lo aF cE _=>?_
   have cF: ∀c,sl.ag=some c-> ¬c=cb:=λc f u=>by
    have:=X c f;have:=k.fH cb (by rw[k.bq.zc];decide);omega
   have bq:=aF.ag aE (λf=>cF cb f rfl);have cG:af t (⟨cb,0,none⟩:Q6)=some (Ar y.p):=by have:=Cg (j:=0) bq rfl;rw[add_zero,k.hp] at this;exact this
   refine⟨Co bq rfl,cG,?_⟩;have cH:Ext o H:=(aN.trans aC).trans Z;have br:Mod (λc=>z c≠0) o t:=(cH.mod.trans (ac.ak λc _ f=>by rw[k.bq.zq c f];decide)).then (aF.ak λc _ f=> .inr (by have:=X c f;omega));have dm:=aF.size;have aU:LW B g t s a N sh (l.set i y) mp (λc=>(O c\/z c≠0)\/(o.size<=c/\c<t.size)):=k.w.own (br.ak λc _ f=> .inr f) λc f=>f
   have aV:Mod (aR g O) o t:=k.frame br;have less: ∀ {e:aa} {bs:Nat} {bt:List Hs} {bu:List Pr},LW B g e s bs N sh bt bu (λc=>(O c\/z c≠0)\/(o.size<=c/\c<t.size))->LW B g e s bs N sh bt bu O:=λU=>U.less λc f=> .inl (.inl f)
   have bv: ∀ {e:aa},Mod (aR g (λc=>(O c\/z c≠0)\/(o.size<=c/\c<t.size))) t e->Mod (aR g O) o e:=λm=>aV.trans (m.ak λc _ f=>⟨f.1,λcJ=>f.2 (.inl (.inl cJ))⟩)
   have cK:Own Be AU t cx (d.conds++ [bo d]):=cy.mod aF λc f u=>by
    have:=X c u;rcases cz c f with h|h
    ·have:=k.fH c (by rw[k.bq.zq c h];decide);omega
    ·have:=(aQ.ext Z).lt u;have:=aQ.lt u;omega
   refine aU.change E k.at bG bH hA bI bJ cK.view (by rw[A1,BE];omega) lo.view (λ_ c f=>?_) (λp cL=>?_) (λcM=>?_) (λag cN e U aW=>?_) (λag aX hd e bw=>?_) λag aX cO e U aW=>?_
   ·have lt:=lo.lt f;rcases cE c f with h|h
    ·have:=X c h;exact .inr (.inr ⟨by omega,lt⟩)
    ·exact .inr (.inr ⟨by omega,lt⟩)
   ·rcases List.mem_append.1 cL with h|h
    ·exact bK p h
    ·rw[List.mem_singleton.1 h];unfold bo;have:=Sn d.wid;split<;>(dsimp only;omega)
   ·exact⟨_,rfl,bN ax cM t (less aU) aV⟩
   ·rw[List.set_set] at U;exact⟨_,rfl,bO ax ag cN e (less U) (bv aW)⟩
   ·exact⟨_,rfl,bP ax ag aX hd e (less (aU.on bw)) (aV.trans bw.mod)⟩
   ·exact⟨_,rfl,bQ ax ag aX cO e (less U) (bv aW)⟩
  have bx:=T.bq.more.len;refine aA (AV.mk (s:=x.more) (Cg T.bq.ag rfl) (ae.intro (λr=>?_) (λr=>?_)))
  ·have cP:d.more≠ []:=λh=>by rw[h] at bx;simp[bx] at r
   refine aA (AC.mk (Co T.bq.ag rfl) (aA (AC.mk (Co T.bq.ag rfl) (aj.mk λao _ cQ bz dn=>?_))));have bA:=T.on bz;refine⟨Co bA.bq.ag rfl,Co bA.bq.ag rfl,aD.mk cQ (A0 3) λQ cR cS dp=>?_⟩;have bB:Ext w Q:=bz.more cS λc f=>by subst f;exact A0 _
   have cT:=T.on bB;have bC:Cells Q (⟨w.size,0,none⟩:Q6) (⟨d.st.status,d.st.next,false⟩:cI).l:=Cr cR rfl;refine aA (AL.mk (n:=d.wid) (Cg cT.bq.ag rfl) (Om.mk ⟨d.st.status,d.st.next,false⟩ bC (mW (by omega) ⟨_,rfl,bC.sK,?_⟩)));refine uL (m:=⟨d.st.status,d.st.next,false⟩) (st:=d.st.status.toNat) (nx:=d.st.next.toNat) (by show d.st.status=_;omega) (by show d.st.next=_;omega) (by omega) (by omega) λbc cU=>⟨_,rfl,?_⟩
   have aY:=bB.trans cU;refine aj.aU (E:=Be) (x:=⟨KD d.wid,RG d.st.status.toNat d.st.next.toNat false,false⟩) (s:=ps) rfl IR (aO.ext aY) (by simp only[AF];omega) (by simp only[AF,maxLen];omega) λcV aK cW cX cY _=>?_
   refine bm aK cV ((az.trans aY).more cX aP) ?_ λc f=>?_
   ·unfold DW;rw[if_neg cP];exact cW
   ·rcases cY c f with h|h
    ·exact aP c h
    ·have:=aY.size;have:=az.size;omega
  ·have bD:d.more= []:=by simp at r;exact CM (by omega)
   refine bm w ps az ?_ aP;unfold DW;rw[bD,if_pos rfl,AS];rw[bD] at aO;exact aO
 refine aA (AC.mk (ASz ay.bq.ag rfl) (ae.intro (λr=>?_) (λr=>?_)))
 ·have r:0<d.bO:=by simpa using r
  refine aA (AL.mk (n:=d.wid) (Cg ay.bq.ag rfl) (aA (Om.mk ⟨d.bW,d.bO,d.kept⟩ ay.bq.sJ (mW (by omega) ⟨_,rfl,ay.bq.sJ.sK,?_⟩))));refine uL (m:=⟨d.bW,d.bO,d.kept⟩) (st:=d.bW.toNat) (nx:=d.bO.toNat) (by show d.bW=_;omega) (by show d.bO=_;omega) (by omega) (by omega) λbf bE=>⟨_,rfl,?_⟩
  have cZ:=bE.ag bj λh=>h
  refine ab.bT (j:=0) cZ (of_decide_eq_true rfl) rfl λbh c0 c1 dq=>ab.bT (j:=1) c0 (of_decide_eq_true rfl) rfl λbi c2 c3 dr=>ab.bT (j:=2) c2 (of_decide_eq_true rfl) rfl λaL c4 c5 ds=>?_
  refine bk aL ((aM.trans bE).more ((c1.trans c3).trans c5) λc f=>by subst f;omega) ?_;unfold bo;rw[if_pos r];exact c4
 ·have r: ¬0<d.bO:=by simpa using r
  refine bk J aM ?_;unfold bo;rw[if_neg r];exact bj
end
theorem Yi {C:ba}{t:fA}{tick:Int}{c:Nat}(h:(Dq C t tick c).err=0):C.err=0:=by
 unfold Dq at h;split at h
 ·rename_i b;exact absurd h b
 ·rename_i b;simpa using b
theorem WI {C:ba}{b c:Nat}(h:(Az C b c).err=0):(EZ C b).err=0:=by
 unfold Az at h;split at h
 ·exact Yi h
 ·exact h
section
variable {A : ao} {B : cX} {g h : aa} {s a N sh cb : Nat} {l : List Hs} {mp : List Pr} {O : Nat -> Prop} {i : Nat} {y : Hs} {z : Nat -> Nat} {x : dU} {C : ba} {R : A30}
theorem uV {b:Nat}(ok: ∀e∈C.more,Ea e=true/\e.data.size<1099511627776)(c:Cz C.st b)(d:Nat):C.grown (EZ C d) (b+1) 1 1:=by
 have g0:=Xy ok c;unfold EZ;split
 ·exact X8 (MM g0 (e:=RB) (by show 0<1099511627776;decide)) _ _ _
 ·obtain⟨g1,f,j,k,m,n,o,t,p,u,q,r⟩:=g0;exact⟨g1,f,j,k,m,n,o,by omega,p,by omega,q,r.up (Ge _)⟩
theorem VO {n:Nat}(ok: ∀b∈C.more,Ea b=true/\b.data.size<1099511627776)(d:Cz C.st n)(c e:Nat):C.grown (Az C c e) (n+1) 1 2:=by
 have g0:=uV ok d c;unfold Az;split
 ·exact X8 g0 _ _ _
 ·obtain⟨g1,f,j,k,m,o,p,q,r,v,t,u⟩:=g0;exact⟨g1,f,j,k,m,o,p,q,r,by omega,t,u⟩
theorem uW {ak:Nat}(av:bL g)(o:CW B g h s a N sh l i y mp O cb z x C)(V:Cz C.st ak)(a4:ak+1<=600)(L:Am C.wid=true)(Z: ∀e∈C.more,Ea e=true/\e.data.size<1099511627776)(ab:C.ai<256)(r:y.f C.ai<=2147483647)(a5:y.u C.ai+2<16777216)(ac:N+2<=1000000)
  (hA:4+3*a<=B.A) (aw:64*a+64<=B.C) (ax:a+1<=1000000) (a6:C.more.length<=800) (a7:C.aq.length<=800) (a8:C.conds.length<=800) (ay: ∀p∈C.conds,p.key.size<=1099511627776) (az:0<=C.bW/\C.bW<128) (al:0<=C.bO/\C.bO<=501) (a9: -4611686018427387904<=C.now/\C.now<=4611686018427387904)
  (aC:y.f C.ai=0->R (J6 J9 170) h)
  (aD: ∀b c d j,y.cK d->(Az C b c).err≠0->LW B g j s a (N+2) sh (l.set i d) mp O->Mod (aR g O) h j->R (J6 J9 (Az C b c).err) j)
  (aE: ∀b c d j,y.cK d->(Az C b c).err=0->Bc mp (FE C.ai (y.f C.ai) y.name)=false->LW B g j s a (N+2) sh (l.set i (d.lost C.ai)) mp O->Mod (aR g O) h j->R (J6 J9 170) j)
  (aF: ∀b c d j,y.cK d->(Az C b c).err=0->Bc mp (FE C.ai (y.f C.ai) y.name)=true->df mp (FE C.ai (y.f C.ai) y.name::(C.conds++ [bo C])) (DW (Az C b c)++(Az C b c).aq)≠0->LW B g j s a (N+2) sh (l.set i d) mp O->Mod (aR g O) h j->R (J6 J9 (df mp (FE C.ai (y.f C.ai) y.name::(C.conds++ [bo C])) (DW (Az C b c)++(Az C b c).aq))) j)
  (aG: ∀b c d j,y.cK d->(ED C=true->y.f C.ai≠0->dJ y d C.ai b)->(Az C b c).err=0->Bc mp (FE C.ai (y.f C.ai) y.name)=true->df mp (FE C.ai (y.f C.ai) y.name::(C.conds++ [bo C])) (DW (Az C b c)++(Az C b c).aq)=0->LW B g j s (a+1) (N+2) sh (l.set i d) (cu mp (DW (Az C b c)++(Az C b c).aq)) O->Mod (aR g O) h j->R (J6 J9 0) j):
  AA A P Ci #[Ar cb] h R:=by
 refine Rn ?_;unfold Kz;have M:64*a<=B.C:=by omega
 refine aA (AY.mk (o.bq.ptr o.hp) (aA (AC.mk (Co o.bq.ag rfl) (o.w.holds o.at ⟨_,rfl,ae.intro (λf=>aC (by simpa using f)) λf=>?_⟩))));have aH:y.f C.ai≠0:=by simpa using f
 refine ah.mk λK aI=>?_
 have af: ∀(q:aa) (H:Nat->Nat) (I:dU) (d:Hs) (b c:Nat),CW B g q s a (N+2) sh l i d mp O cb H I (Az C b c)->y.cK d->((Az C b c).err=0->ED C=true->y.f C.ai≠0->dJ y d C.ai b)->Mod (aR g O) h q->K () q:=λq H I d b c J k W D=>by
  have G:=VO Z V b c;have ag:d.f (Az C b c).ai=y.f C.ai:=by rw[k.f,G.ai]
  have ai:FE (Az C b c).ai (d.f (Az C b c).ai) d.name=FE C.ai (y.f C.ai) y.name:=by rw[ag,G.ai,k.name]
  have am:bo (Az C b c)=bo C:=by unfold bo;rw[G.bO,G.bW,G.kept,G.wid]
  refine aI _ _ (AS0 av J (by rw[G.wid];exact L) G.ok (by rw[G.ai];exact ab) (by rw[ag];exact r) hA aw ax (by have:=G.more;omega) (by have:=G.aq;omega) (by rw[G.conds];omega) (by rw[G.conds];exact ay) (by rw[G.bW];exact az) (by rw[G.bO];exact al) G.st.st G.st.next
   (λn j u E=>aD b c d j k n u (D.trans E)) (λ_ aJ=>absurd (by rw[<- ag];exact aJ) aH) (λn _ w j u E=>?_) (λn _ w hd j u E=>?_) λn _ w hd j u E=>?_)
  ·rw[ai] at w;rw[G.ai] at u;exact aE b c d j k n w u (D.trans E)
  ·rw[ai] at w hd ⊢;rw[am,G.conds] at hd ⊢;exact aF b c d j k n w hd u (D.trans E)
  ·rw[ai] at w hd;rw[am,G.conds] at hd;exact aG b c d j k (W n) n w hd u (D.trans E)
 have an:=o.bq.more.len;have aK:y.cK y:=⟨rfl,rfl,rfl,λm=>by omega⟩;refine aA (AV.mk (s:=x.more) (Cg o.bq.ag rfl) (ae.intro (λf=>?_) (λf=>?_)));rotate_left
 ·have f:C.more= []:=by simp at f;exact CM (by omega)
  have aL:ED C=false:=by unfold ED;rw[f];rfl
  refine af h z x y 0 0 ?_ aK (λ_ h=>by rw[aL] at h;cases h) Mod.refl;have aM:EZ C 0=C:=by unfold EZ ED;rw[f];rfl
  have:Az C 0 0=C:=by unfold Az;rw[aM,if_neg λh=>h.1 f]
  rw[this];exact o.put (by omega) ac M
 have ao:C.more≠ []:=λh=>by rw[h] at an;simp[an] at f
 refine ah.mk λaN aO=>?_
 have ap: ∀(q:aa) (H:Nat->Nat) (I:dU) (d:Hs) (b:Nat),CW B g q s a (N+1) sh l i d mp O cb H I (EZ C b)->y.cY d->((EZ C b).err=0->ED C=true->y.f C.ai≠0->dJ y d C.ai b)->Mod (aR g O) h q->aN () q:=λq H I d b J k W D=>by
  have G:=uV Z V b;refine aO _ _ (aA (AC.mk (Co J.bq.ag rfl) (ae.intro (λf=>?_) (λf=>?_))))
  ·have f:(EZ C b).st.status≠0:=by simpa using f
   refine aA (AC.mk (Cg J.bq.ag rfl) ?_);rw[G.now,wrap_i64 (by omega) (by omega)];refine pZ (t:=⟨7,⟨#[]⟩,0,0⟩) J (by rw[G.ai];exact ab) (by rw[k.f,G.ai];exact r) (by rw[G.ai];have:=k.u C.ai;omega) ac M (by have:=G.aq;omega) (by omega) λj aq ar aP c X Q ba aQ=>⟨rfl,?_⟩
   refine af j aq ar aP b c ?_ ⟨Q.p.trans k.p,Q.name.trans k.name,Q.f.trans k.f,λm=>by have:=k.u m;have:=Q.u m;omega⟩ (λn L r=>by
    obtain⟨v,v1,v2,aS⟩:=W (WI n) L r;exact⟨v,v1,by have:=Q.u C.ai;omega,aS⟩) (D.trans aQ)
   have e:Az C b c=Dq (EZ C b) ⟨7,0,0⟩ (uU C) c:=by unfold Az;rw[if_pos ⟨ao,f⟩]
   rw[e];exact X
  ·have f:(EZ C b).st.status=0:=by simpa using f
   refine af q H I d b 0 ?_ ⟨k.p,k.name,k.f,λm=>by have:=k.u m;omega⟩ (λn L r=>W (WI n) L r) D;have e:Az C b 0=EZ C b:=by unfold Az;rw[if_neg λh=>h.2 f]
   rw[e];exact J.put (by omega) ac M
 refine ah.mk λaT aU=>?_
 have S: ∀aj:Bool,aj=ED C->aT (aj,()) h:=λaj au=>by
  refine aU _ _ (ae.intro (λf=>?_) (λf=>?_))
  ·have f:ED C=true:=by rw[<- au];exact f
   refine UE (e:=RB) o V (by omega) (by show 0<1099511627776;decide) (.inl (by decide)) (by omega) λal aq ar X aV=>⟨rfl,?_⟩
   have G:=MM (Xy Z V) (e:=RB) (by show 0<1099511627776;decide);have nx:=G.st.next;refine uR X G.st.next ⟨_,rfl,?_⟩;refine ATY (t:=⟨1,⟨#[]⟩,TU (DX C RB),0⟩) X (by rw[G.ai];exact ab) (by rw[G.ai];exact r) (by rw[G.ai];omega) (by omega) M (by have:=G.aq;omega) λaW aX aY aZ b a0 a1 a2 a3=>⟨rfl,?_⟩
   have e:EZ C b=Dq (DX C RB) ⟨1,TU (DX C RB),0⟩ (-1) b:=by unfold EZ;rw[if_pos f]
   refine ap aW aX aY aZ b ?_ a1 (λn _ r=>by rw[e] at n;have:=a2 n;rw[G.ai] at this;exact this r) (aV.trans a3);rw[e];exact a0
  ·have f:ED C=false:=by rw[<- au];exact f
   refine ap h z x y 0 ?_ (Hs.cY.refl y) (λ_ h=>by rw[f] at h;cases h) Mod.refl;have e:EZ C 0=C:=by unfold EZ;rw[if_neg (by simp[f])]
   rw[e];exact o.put (by omega) (by omega) M
 have Y:=o.bq;unfold ED at S;refine aA (AC.mk (Co Y.ag rfl) (ae.intro (λT=>?_) (λT=>S _ (by simp at T;simp[T]))));refine aA (Aa.mk (Co Y.ag rfl) (ae.intro (λF=>?_) (λF=>S _ (by have F:C.st.fresh=false:=F;simp[F]))));have F:C.st.fresh=true:=F;refine aA (AC.mk (Co Y.ag rfl) (ae.intro (λU=>?_) (λU=>S _ (by simp at U;simp[U]))));refine aA (AC.mk (Co Y.ag rfl) (S _ ?_));simp at T U;simp[ao,T,F,U];rfl
end
abbrev gP:Sl:=⟨none,0,0⟩
def mN(wid:A31)(b:Nat):Option (List Ev)->bG×Int
 |none=>(⟨wid,b,⟨0,0,false⟩,gP,bE.z⟩,180)
 |some l=>(⟨wid,b,⟨(BM l).status,(BM l).next,false⟩,gP,bE.z⟩,0)
def dD(b st nx:Int):aZ:=⟨b,st,nx,⟨0,⟨#[]⟩,0,0⟩,⟨#[]⟩,gP⟩
theorem Ud(x y:bG):gK y.c 0 x.l=x.c:=rfl
theorem MP(x y:aZ):gK y.c 0 x.l=x.c:=rfl
theorem Ml {h:aa}{b:Nat}{T:Q7}{fr:Nat×Nat}{x:bG}(c:h[b]? =some (J2 x.c T fr)):Cells h ⟨b,0,none⟩ x.l:=Cr c rfl
theorem Jq {h:aa}{b:Nat}{T:Q7}{fr:Nat×Nat}{x:aZ}(c:h[b]? =some (J2 x.c T fr)):Cells h ⟨b,0,none⟩ x.l:=Cr c rfl
theorem l9 {h:aa}{b:Nat}{T:Q7}{x y:bG}{K:bG->aa->Prop}(f:h[b]? =some (J2 y.c T (0,0)))(j: ∀c,Mod (· =b) h c->K x c):
  aD h ⟨b,0,none⟩ x.l λd=>EC d ⟨b,0,none⟩ λk=>K k d:=
 aD.mk f (A0 18) λc e m s=>EC.mk x (Ml (by rw[Ud] at e;exact e)) (j c m)
theorem KX {h:aa}{b:Nat}{T:Q7}{x y:aZ}{K:aZ->aa->Prop}(f:h[b]? =some (J2 y.c T (0,0)))(j: ∀c,Mod (· =b) h c->K x c):
  aD h ⟨b,0,none⟩ x.l λd=>Bu d ⟨b,0,none⟩ λk=>K k d:=
 aD.mk f (A0 9) λc e m s=>Bu.mk x (Jq (by rw[MP] at e;exact e)) (j c m)
theorem RI {b:Ev}(h:Ea b=true):b.data.size<=2000:=by
 obtain⟨t,hi,u,e,f⟩:=SN h;by_cases j:b.kind=1
 ·obtain⟨p,k,ok⟩:=e j;have:=(xY k).2;have q:=congrArg List.length this;rw[BA] at q;rw[<- q];simp only[F3,A3,decide_eq_true_eq] at ok;obtain⟨⟨v,m⟩,o⟩:=ok;have w:=Bb.1 m;have:=QB o;have x:=AX (n:=p.aw.toNat) (by omega);have z:=AX (n:=p.steps.length) (by omega);unfold Ca;simp only[A1];omega
 ·by_cases r:b.kind=12
  ·have:=FV (f r);omega
  ·have d:=Od h;unfold Ej at d;simp only[A3,CH,decide_eq_true_eq] at d;rcases d.2 with c|c
   ·rw[c];decide
   ·unfold dQ at c;simp at c;omega
section
variable {A : ao} {B : cX} {g h : aa} {s a N sh : Nat} {l : List Hs} {mp : List Pr} {O : Nat -> Prop} {i : Nat} {y : Hs} {fl : cq} {an : cL} {R : A30}
theorem LW.get {key:A31}(c:LW B g h s a N sh l mp O)(d:key.size<=1099511627776)(e: ∀b,Ext h b->R (J1 #[J7 (I5 mp key).1,J3 (I5 mp key).2,J6 J9 0]) b):AA A P FP #[Ar s,J7 key] h R:=by obtain⟨q,j,st,m,k,nn,f,n,rfl,o,p,out⟩:=c;exact sy f d e
theorem LW.scan {p f:A31}{d:Int}(e:LW B g h s a N sh l mp O)(j:p.size<=1099511627776)(k: ∀sl b,Own Be AU b sl (iZ mp p f d)->(∀ c,sl.ag=some c->h.size<=c)->Ext h b->R (J1 #[J4 sl.p sl.len sl.cap,J6 J9 0]) b):AA A P El #[Ar s,J7 p,J7 f,J6 J9 d] h R:=by obtain⟨q,o,st,m,r,nn,n,t,rfl,u,v,out⟩:=e;exact AP9 n j k
theorem LW.dW(d:LW B g h s a N sh l mp O)(b:l[i]? =some y):h[y.p]? =some (J2 #[Ar s,J7 y.name,J6 J9 (sh:Int),.map (some y.bh),.map (some y.bu)] SY (0,0))/\1<=sh/\sh<=16:=by obtain⟨q,e,st,m,f,nn,j,k,n,c,o,out⟩:=d;exact⟨(c.host i y b).cell,(c.host i y b).sh⟩
theorem LW.store(b:LW B g h s a N sh l mp O)(c:l[i]? =some y)(d:R (Ar s) h):AA A P Da #[Ar y.p] h R:=by refine WY ?_;unfold Pm;exact ae.no rfl (aA (AY.mk (AO (b.dW c).1 rfl) d))
theorem LW.au(b:LW B g h s a N sh l mp O)(c:l[i]? =some y)(d:R (J6 J9 (sh:Int)) h):AA A P EX #[Ar y.p] h R:=by refine Vf ?_;unfold Nk;exact ae.no rfl (aA (AC.mk (AB (b.dW c).1 rfl) d))
theorem I4.eG(b:I4 mp fl an){wid:A31}(c:Am wid=true):I5 mp (KD wid)=match fl wid with|none=>(⟨#[]⟩,false)|some l=>(RG (BM l).status.toNat (BM l).next.toNat false,true):=by unfold I5;rw[b.fF wid c];cases fl wid<;>rfl
theorem I4.fh(c:I4 mp fl an){b:A31}(d:Am b=true):I5 mp (KS b)=match an b with|none=>(⟨#[]⟩,false)|some x=>(iy x.1 x.2.1.toNat x.2.2.toNat,true):=by unfold I5;rw[c.jT b d];cases an b<;>rfl
theorem pG {wid:A31}(v:LW B g h s a N sh l mp O)(o:l[i]? =some y)(w:I4 mp fl an)
  (F:Am wid=false-> ∀f,Ext h f->R (J1 #[bG.z.v,J6 J9 1]) f)
  (G:Am wid=true-> ∀f,Ext h f->R (J1 #[(mN wid (Ao wid sh) (fl wid)).1.v,J6 J9 (mN wid (Ao wid sh) (fl wid)).2]) f):
  AA A P Jv #[Ar y.p,J7 wid] h R:=by
 obtain⟨-,H,I⟩:=v.dW o;refine ADH ?_;unfold XI;refine aj.mk λJ _ z p Y=>ah.mk λK L=>ae.no rfl (FK ⟨_,rfl,L _ _ ?_⟩)
 cases m:Am wid with
 |false=>exact ae.yes rfl (l9 z λb M=>F m b (p.more M λc j=>by subst j;exact A0 _))
 |true=>
  have Z:=FV m;have q:=v.on p;have fin: ∀ {b d:aa} {x:bG} {r:Int},Ext J b->Mod (· =h.size) b d->(x,r)=mN wid (Ao wid sh) (fl wid)->R (J1 #[x.v,J6 J9 r]) d:=λ{b d x r} k t Q=>by
   have:=G m d ((p.trans k).more t λc j=>by subst j;exact A0 _);rw[<- Q] at this;exact this
  refine ae.no rfl (q.au o ⟨_,rfl,uM (by omega) H I ⟨_,_,rfl,ae.no rfl (q.store o ⟨_,rfl,mW (by omega) ⟨_,rfl,?_⟩⟩)⟩⟩);refine q.get (by rw[Sn];omega) λb k=>?_
  rw[w.eG m];have C:=k.ag z λh=>h
  cases u:fl wid with
  |none=>
   refine⟨_,_,_,rfl,ae.no rfl (ae.yes rfl (l9 C λd t=>?_))⟩;exact fin k t (by rw[u];rfl)
  |some e=>
   have n:=w.cJ wid e u;have nx:=n.next.1;have ab:=n.len;have st:=n.st;have ac:1<=e.length:=List.length_pos_iff.2 n.ne;refine⟨_,_,_,rfl,ae.no rfl (ae.no rfl (ALq (by omega) (by omega) (by omega) λd D=>od.mk _ ⟨_,rfl,?_⟩))⟩;refine aj.mk λaf _ S T ag=>aD.mk S (A0 3) λU V W ai=>?_
   have E:Ext b U:=(D.trans T).more W λc j=>by subst j;exact D.size
   refine Om.mk _ (Cr V rfl) (l9 (E.ag C λh=>h) λak X=>?_);refine fin (k.trans E) X ?_;rw[u];unfold mN;rw[show(((BM e).status.toNat:Nat):Int)=(BM e).status from by omega,show(((BM e).next.toNat:Nat):Int)=(BM e).next from by omega]
theorem AJc {e:A31}(M:LW B g h s a N sh l mp O)(Q:l[i]? =some y)(z:I4 mp fl an)(C:Am e=true)
  (D: ∀E,Ext h E->R (match an e with|none=>J1 #[J7 ⟨#[]⟩,aZ.z.v,J3 false,J6 J9 0]|some x=>J1 #[J7 (Ad x.1),(dD 0 x.2.1 x.2.2).v,J3 true,J6 J9 0]) E):AA A P LY #[Ar y.p,J7 e] h R:=by
 have ai:=FV C;refine Xz ?_;unfold QU;refine aj.mk λak _ S f al=>?_
 have F:=M.on f;refine F.store Q ⟨_,rfl,uK (by omega) ⟨_,rfl,F.get (by rw[WE];omega) λj k=>?_⟩⟩;rw[z.fh C];have m:=k.ag S λh=>h
 cases o:an e with
 |none=>
  refine⟨_,_,_,rfl,ah.mk λK p=>ae.no rfl (p _ _ (ae.yes rfl (KX m λG T=>?_)))⟩;have:=D G ((f.trans k).more T λc d=>by subst d;exact A0 _);rw[o] at this;exact this
 |some x=>
  obtain⟨⟨am,ao⟩,⟨ap,aq⟩,ar⟩:=z.jU e x o;refine⟨_,_,_,rfl,ah.mk λK p=>ae.no rfl (p _ _ (ae.no rfl ?_))⟩;unfold iy;have au:=Fa (n:=x.2.1.toNat) (by omega);have av:=Fa (n:=x.2.2.toNat) (by omega);have aw:=AX (n:=x.1.length) (by omega);have ax:(BU x.1).length<=2010:=by unfold BU;rw[A1];omega
  refine NI λG H q=>⟨_,rfl,Ic H (by simp only[A1];omega) λay U r=>⟨_,rfl,?_⟩⟩
  rw[Ie (by omega)] at*
  refine EQ (most:=4) U (by simp only[A1];omega) (by decide) λaz V t=>⟨_,rfl,?_⟩
  rw[DR (by omega) (by omega)] at*
  have W:CX 501 ⟨Bp x.2.2.toNat,false⟩=(x.2.2.toNat,⟨[],false⟩):=by have:=DR (n:=x.2.2.toNat) (most:=501) (by omega) (by omega) [];rwa [AS] at this
  refine EQ (most:=501) V (by simp only;omega) (by decide) λX Y u=>⟨_,rfl,?_⟩
  rw[W] at*
  refine aj.mk λaA _ Z v aC=>aD.mk Z (A0 9) λI J w aE=>?_
  have aF:=q.size;have aG:=r.size;have aH:=t.size;have aI:=u.size;have aJ:=Aj m;have aa:KU I j.size ⟨[],false⟩:=w.ag (v.ag Y λh=>h) (by have:=Aj H;omega);refine QA aa ⟨_,rfl,ae.no rfl ?_⟩;rw[MP] at J;have ab:=w.ag (v.ag (u.ag (t.ag (r.ag (q.ag m λh=>h) (by omega)) (by omega)) (by omega)) λh=>h) (b:=h.size) (by omega);refine Bu.mk _ (Jq J) (KX ab λac af=>?_);have L:Ext j X:=q.more ((r.trans t).trans u) λc d=>by subst d;exact A0 _
  have ag:Ext j I:=(L.trans v).more w λc d=>by subst d;exact L.size
  have:=D ac (((f.trans k).trans ag).more af λc d=>by subst d;exact A0 _);rw[o] at this;rw[show((x.2.1.toNat:Nat):Int)=x.2.1 from by omega,show((x.2.2.toNat:Nat):Int)=x.2.2 from by omega];exact this
end
theorem AL4 {wid:A31}{l:List Ev}{b i:Nat}{p:Pr}(h:(((TZ wid l).drop b).take 32)[i]? =some p): ∃c,l[b+i]? =some c/\p=OI wid c:=by
 rw[Fo] at h;split at h
 ·rw[C5] at h;exact Rt h
 ·cases h
theorem Ji.fresh {h j:aa}{k:Nat->Prop}{s:bj}{a b c:Sl}{n:Nat}(o:Ji h s a b c)(m:Mod k h j)(fr: ∀x,a.ag=some x\/b.ag=some x\/c.ag=some x->n<=x)(f: ∀c,k c->c<n):Ji j s a b c:=
 o.mod m (λx d e=>by have:=fr x (.inl d);have:=f x e;omega) (λx d e=>by have:=fr x (.inr (.inl d));have:=f x e;omega) (λx d e=>by have:=fr x (.inr (.inr d));have:=f x e;omega)
section
variable {A : ao} {B : cX} {g h : aa} {s a N sh : Nat} {l : List Hs} {mp : List Pr} {O : Nat -> Prop} {i : Nat} {y : Hs} {fl : cq} {an : cL} {R : A30}
theorem pH {wid:A31}{d:List Ev}{aY:J0}(ak:LW B g h s a N sh l mp O)(v:l[i]? =some y)(al:I4 mp fl an)(am:Am wid=true)(ao:fl wid=some d)
  (aZ: ∀W e z C D,Ext h W->View de W e d->Ji W (BM d) z C D->(∀ x,z.ag=some x\/C.ag=some x\/D.ag=some x->h.size<=x)->(∀ x,e.ag=some x->h.size<=x)->(∀ x y,e.ag=some x->z.ag=some y\/C.ag=some y\/D.ag=some y->x<y)->
   R (J1 #[(⟨wid,(Ao wid sh:Int),⟨(BM d).status,(BM d).next,false⟩,e,(BM d).V z C D⟩:bG).v,J6 J9 0]) W):AA A P Fg #[Ar y.p,aY,J7 wid] h R:=by
 have Q:=al.cJ wid d ao;obtain⟨nx,aE⟩:=Q.next;have a0:=Q.len;have bN:1<=d.length:=List.length_pos_iff.2 Q.ne;have a1:=FV am;refine ADc ?_;unfold XM;refine aj.mk λX _ ap F bO=>?_
 refine pG (ak.on F) v al (λh=>by rw[am] at h;cases h) λ_ k aF=>?_
 rw[ao];refine LJ.mk _ ⟨_,rfl,aj.mk λbP _ a2 a3 bQ=>aD.mk a2 (A0 18) λY S a4 bR=>ae.no rfl ?_⟩;rw[Ud] at S;have aq:Ext k Y:=a3.more a4 λc f=>by subst f;exact A0 _
 have aG:Ext X Y:=aF.trans aq;have bS:=Aj ap;have a5:=aF.size;have bT:=aq.size;have bU:Y[h.size]? =some (J2 bG.z.c Bq (0,0)):=aG.ag ap λh=>h
 let fv:Sl->bG:=λe=>⟨wid,(Ao wid sh:Int),⟨(BM d).status,(BM d).next,false⟩,e,bE.z⟩
 have S:Y[k.size]? =some (J2 (fv gP).c Bq (0,0)):=S;refine ah.mk λK a6=>Aa.mk (n:=false) (Co S rfl) (ae.no rfl ?_)
 refine Loop.rule (λm x r=> ∃e:Sl,m=d.length-e.len/\e.len<=d.length/\Ext X r/\Ext k r/\r[k.size]? =some (J2 (fv e).c Bq (0,0))/\Own de BI r e (d.take e.len)/\(∀ b,e.ag=some b->k.size<b)) ?_
  ⟨gP,rfl,A6 _,aG,aq,S,Own.nil,λb j=>by simp[Sl.ag] at j⟩
 rintro bV m _ ar ⟨e,rfl,a7,T,aH,t,I,fr⟩ a8;refine AV.mk (s:=e) (Cg t rfl) (AC.mk (n:=(BM d).next) (Co t rfl) ?_);rw[nx,wrap_i64 (by omega) (by omega)];have aI:LW B g ar s a N sh l mp O:=ak.on (F.trans T);refine ae.intro (λG=>?_) (λG=>?_)
 ·have bW:e.len<d.length:=by simp at G;omega
  refine AV.mk (s:=e) (Cg t rfl) (aI.store v ⟨_,rfl,Cg t rfl,uI (by omega) λaJ Z=>⟨_,rfl,?_⟩⟩);have a9:=Z.ag t λh=>h
  refine⟨Cg a9 rfl,?_⟩;rw[Ab (by omega)];refine uJ (by omega) (by omega) λba au=>⟨_,rfl,?_⟩
  have av:=Z.trans au;have bb:=aI.on av;refine bb.scan (by have:=AOj a1;omega) λps J aw bc bd=>⟨_,_,rfl,ae.no rfl ?_⟩
  rw[ARa ak.sorted al am ao a7] at aw;have u:=av.trans bd;have aK:=aw.len;have bX:ps.len=min 32 (d.length-e.len):=by rw[aK,AD,HS];unfold TZ;rw[AF]
  refine ae.no (by simp;omega) ?_;have be:=T.trans u;have bf:=aH.trans u;refine Loop.rule (λm x r=> ∃(o:Nat) (q:Sl),x=((o:Int),())/\m=ps.len-o/\o<=ps.len/\q.len=e.len+o/\Ext X r/\Ext k r/\Mod (λc=>c=k.size\/e.ag=some c) J r/\r[k.size]? =some (J2 (fv q).c Bq (0,0))/\Own de BI r q (d.take q.len)/\(∀ b,q.ag=some b->k.size<b/\(e.ag=some b\/J.size<=b))) ?_
   ⟨0,e,rfl,rfl,A6 _,rfl,be,bf,Mod.refl,u.ag t λh=>h,I.ext u,λb j=>⟨fr b j,.inl j⟩⟩
  rintro bY m _ ax ⟨o,q,rfl,rfl,aL,bg,aM,aN,ay,L,aO,M⟩ bh;dsimp only;refine ae.intro (λG=>?_) (λG=>?_)
  ·have aa:o<ps.len:=by simpa using G
   have bZ:e.len+o<d.length:=by omega
   obtain⟨p,aP⟩: ∃p,(((TZ wid d).drop e.len).take 32)[o]? =some p:=⟨_,A2 (by rw[<- aK];exact aa)⟩;obtain⟨w,U,rfl⟩:=AL4 aP;have ok:=(aE _ _ U).2;have hd:=RI ok;have b0:=AGJ (Od ok) (by omega);have bi:View Be ax ps (((TZ wid d).drop e.len).take 32):=(aw.view.mod ay λb j f=>by
    have:=bc b j;have:=av.size;have:=aH.size;have:=Aj t;rcases f with rfl|f
    ·omega
    ·have:=I.lt f;omega)
   refine bi.idx aP λb1 _ bj=>?_
   obtain⟨bk,bm,bn⟩:=bj.pair;refine AL.mk bk (AL.mk bm (Aa.mk bn (aj.pair λb ac b2 bo aQ b3=>AL.mk (n:=Ad (Nv w)) (AB bo rfl) ?_)));refine ALe (by omega) λb4 aR=>?_
   rw[(AOS (by omega)).2 ⟨ok,rfl⟩];refine o0.mk w ⟨_,rfl,aj.mk λb5 _ bp bq b6=>aD.mk bp (A0 8) λbr aS bs b7=>ae.no rfl ?_⟩;rw[mP] at aS;have H:Ext ax br:=((aQ.trans aR).trans bq).more bs λc f=>by subst f;exact(aQ.trans aR).size
   refine AV.mk (s:=q) (Cg (H.ag L λh=>h) rfl) (NV.mk w (RJ aS) ?_);refine aj.aU (E:=de) (x:=w) (s:=q) rfl lU (aO.ext H) (by simp only[AD];omega) (by simp only[AD,maxLen];omega) λV b8 aT af bt b9=>?_
   have ca:=Aj L;have cb:=H.size;have cc:=ay.size;have bu: ¬q.ag=some k.size:=λh=>by have:=(M _ h).1;omega
   refine ab.bT (dT:=(fv V).c) (af.ag (H.ag L λh=>h) bu) (of_decide_eq_true rfl) rfl λcd bv ag ce=>?_
   rw[Ab (by omega)];have aU:V.len=e.len+(o+1):=by have:=aT.len;rw[A1,AD,BE] at this;omega
   have cf:=F.size;have aV: ∀b,V.ag=some b->k.size<b/\(e.ag=some b\/J.size<=b):=λb j=>by
    rcases bt b j with h|h
    ·exact M b h
    ·exact⟨by omega,.inr (by omega)⟩
   have bw: ∀b,q.ag=some b->X.size<=b:=λb j=>by have:=(M b j).1;omega
   refine bh (ps.len-(o+1)) _ _ (by omega) ⟨o+1,V,rfl,rfl,aa,aU,((aM.trans H).more af bw).more ag λc f=>by subst f;exact a5,((aN.trans H).more af λb j=>by have:=(M b j).1;omega).more ag λc f=>by subst f;exact A0 _,?_,bv,?_,aV⟩
   ·refine(ay.trans H.mod).then ((af.ak λc _ f=>?_).trans (ag.ak λc _ f=>?_))
    ·rcases(M c f).2 with h|h
     ·exact .inl (.inr h)
     ·exact .inr h
    ·exact .inl (.inl f)
   ·have bx:d.take V.len=d.take q.len++ [w]:=by rw[aU,bg,<-Jx,AE,U];rfl
    rw[bx];exact aT.mod ag λb j f=>by have:=(aV b j).1;omega
  ·have aa:o=ps.len:=by simp at G;omega
   subst aa;exact a8 (d.length-q.len) _ _ (by omega) ⟨q,rfl,by omega,aM,aN,L,aO,λb j=>(M b j).1⟩
 ·have bz:e.len=d.length:=by simp at G;omega
  rw[bz,CD] at I;refine a6 () ar (AV.mk (s:=e) (Cg t rfl) ?_);refine YA I.view a0 (λw U=>by
   obtain⟨o,aL⟩:=DB U;have:=RI (aE o w aL).2;exact⟨by omega,Q.kd w U⟩) Q.ok λaJ z C D Z bA az=>Gn.mk _ ⟨_,_,rfl,?_⟩
  refine aj.mk λba _ bB au cg=>aD.mk bB (A0 12) λJ ai bC ch=>?_
  rw[Pf] at ai;have aW:Ext aJ J:=au.more bC λc f=>by subst f;exact A0 _
  have u:=Z.trans aW;have aA:=u.ag t λh=>h
  have bD:=u.ag ((T.ag ap λh=>h)) λh=>h
  refine ah.mk λci bF=>ae.no rfl (AC.mk (n:=(BM d).next) (AB ai rfl) (AC.mk (n:=(BM d).next) (Co aA rfl) ?_))
  refine ae.no (by simp) (AC.mk (n:=(BM d).status) (AB ai rfl) (AC.mk (n:=(BM d).status) (Cg aA rfl) (bF _ _ (ae.no (by simp) ?_))));have bH:=bA.ext aW;have cj:=Aj t;have ck:=T.size;have cl:=u.size;refine Bg.mk _ (JC ai) ?_;have bI:(⟨k.size,0,none⟩:Q6).add 6=⟨k.size,6,none⟩:=rfl;rw[bI];refine aD.mk aA (of_decide_eq_true rfl) λax L aX cm=>?_
  refine EC.mk ⟨wid,(Ao wid sh:Int),⟨(BM d).status,(BM d).next,false⟩,e,(BM d).V z C D⟩ (Ml (by exact L)) (l9 (aX.ag bD (by omega)) λac bJ=>?_);have aC:Mod (λc=>c=k.size\/c=h.size) J ac:=(aX.ak λc _ f=> .inl f).trans (bJ.ak λc _ f=> .inr f);have bK:=bH.fresh (n:=ar.size) aC az λc f=>by omega
  have bL:View de ac e d:=(I.view.ext u).mod aC λb j f=>by have:=fr b j;omega
  refine aZ ac e z C D ((F.trans (T.trans u)).more aC λc f=>by have:=F.size;omega) bL bK (λx v=>by have:=az x v;have:=F.size;omega) (λx v=>by have:=fr x v;have:=F.size;omega) λx y v bM=>Fc (I.lt v) (az y bM)
theorem tV {wid:A31}{b:List Ev}{k:J0}(m:LW B g h s a N sh l mp O)(n:l[i]? =some y)(o:I4 mp fl an)(p:Am wid=true)(q:fl wid=some b)
  (r: ∀c d e f j,Ext h c->View de c d b->Ji c (BM b) e f j->(∀ x,e.ag=some x\/f.ag=some x\/j.ag=some x->h.size<=x)->(∀ x,d.ag=some x->h.size<=x)->
   R (J1 #[(⟨wid,(Ao wid sh:Int),⟨(BM b).status,(BM b).next,false⟩,d,(BM b).V e f j⟩:bG).v,J6 J9 0]) c):AA A P Fg #[Ar y.p,k,J7 wid] h R:=
 pH m n o p q λc d e f j t V u v w _=>r c d e f j t V u v w
end
theorem Oh {k v:A31}(a:k≠⟨#[]⟩)(b:k.size<=64)(c:v.size<=8192):Ah ⟨k,v,false⟩=0:=by unfold Ah;rw[if_neg (by simp[a]),if_neg (by simp;omega)]
theorem tW {k:A31}(a:k≠⟨#[]⟩)(b:k.size<=64):Ah ⟨k,⟨#[]⟩,true⟩=0:=by have z:(⟨#[]⟩:A31).size=0:=rfl;unfold Ah;rw[if_neg (by simp[a]),if_neg (by simp;omega)]
theorem QC {a:A31}(b:0<a.size):a≠⟨#[]⟩:=λc=>by rw[c] at b;cases b
theorem tX: ∀ {l:List Pr},(∀ p∈l,Ah p=0)->GJ l=0
 | [],_=>rfl
 |x::l,a=>by
  unfold GJ;rw[if_neg (by rw[a x (by simp)];decide)];exact tX λp b=>a p (by simp[b])
theorem pI {l:List Pr}(a:l≠ [])(c:l.length<=64)(b: ∀p∈l,Ah p=0):F5 l=0:=by unfold F5;rw[if_neg (by rw[To];exact a),if_neg (by omega)];exact tX b
theorem ASX {wid:A31}{a:Ev}(c:Am wid=true)(b:Ea a=true):Ah (OI wid a)=0:=by
 have d:=FV c;have e:=AQh d a.id.toNat;have hd:=RI b;have f:=AGJ (Od b) (by omega);refine Oh (QC ?_) (by omega) ?_
 ·unfold dR;rw[AP];unfold kG;simp
 ·rw[AP];omega
theorem AR1 {wid:A31}{st nx:Nat}{a:Bool}(b:Am wid=true)(c:st<128)(d:nx<=501):Ah ⟨KD wid,RG st nx a,false⟩=0:=by have e:=FV b;have:=ALc (kept:=a) c d;exact Oh (QC (by rw[Sn];omega)) (by rw[Sn];omega) (by omega)
theorem ATd {a:A31}{x:List UInt8×Int×Int}(b:Am a=true)(c:0<=x.2.1/\x.2.1<=4)(d:0<=x.2.2/\x.2.2<=501)(e:x.1.length<=2000):Ah (Zh a x)=0:=by have f:=FV b;have g:=Fa (n:=x.2.1.toNat) (by omega);have h:=Fa (n:=x.2.2.toNat) (by omega);have i:=AX (n:=x.1.length) (by omega);refine Oh (QC (by rw[WE];omega)) (by rw[WE];omega) ?_;unfold iy BU;rw[AP];simp only[A1];omega
theorem Ya {t:fA}{wid:A31}{sh num:Nat}{tick:Int}(a:G9 t wid=true):Ah ⟨ML sh tick num,fR t wid,false⟩=0/\(BG (ML sh tick num)≠104/\BG (ML sh tick num)≠119/\BG (ML sh tick num)≠114)/\BG (ML sh tick num)≠108:=by
 unfold G9 at a;simp only[A3,Bb] at a;obtain⟨⟨⟨⟨c,d⟩,b⟩,e,f⟩,g,h⟩:=a;have:=yU (kind:=t.kind.toNat) (wid:=wid) (ref:=t.ref.toNat) (turn:=t.turn.toNat) (by omega) (FV b) (by omega) (by omega);unfold ML fR;split
 ·rw[Pj];exact⟨Oh (QC (by rw[ND];omega)) (by rw[ND];omega) (by omega),⟨by decide,by decide,by decide⟩,by decide⟩
 ·rw[yT];exact⟨Oh (QC (by rw[yP];omega)) (by rw[yP];omega) (by omega),⟨by decide,by decide,by decide⟩,by decide⟩
end Go.Lf.G
namespace Go.Lf
open G
open Go
open M (Sorted Ac Bt BF Ae Ak BH Ah aY A7 aF Aw)
def ba.fits(a:ba)(b:List Ev):Prop:=Eb SC (b++a.more)=some a.st/\ ∀c∈b++a.more,jw c.kind
end Go.Lf
namespace Go.Lf.G
open Go
open M (Sorted Ac Bt BF Ae Ak BH Ah aY A7 aF Aw)
theorem Lj {a:ba}{d:List Ev}{b:Ev}(c:a.fits d)(g:jw b.kind):(DX a b).fits d:=by
 unfold DX;split
 ·exact c
 ·split
  ·exact c
  ·split
   ·exact c
   ·rename_i e;have e:(Bf a.st (CG a b)).1=0:=by simpa using e
    show Eb SC (d++(a.more++ [CG a b]))=_/\ ∀h∈d++(a.more++ [CG a b]),_;rw[<- A4];exact⟨yJ c.1 e,λx f=>(List.mem_append.1 f).elim (c.2 x) λf=>by rw[List.mem_singleton.1 f];exact g⟩
theorem Vn {a:ba}{c:List Ev}{t:fA}{tick:Int}{b:Nat}(d:a.fits c):(Dq a t tick b).fits c:=by unfold ba.fits;rw[(HV a t tick b).1,(HV a t tick b).2];exact d
theorem tY {a:ba}{b:List Ev}{c f:Nat}(d:a.fits b):(Az a c f).fits b:=by
 have e:(EZ a c).fits b:=by
  unfold EZ;split
  ·exact Vn (Lj d (.inl (by decide)))
  ·exact d
 unfold Az;split
 ·exact Vn e
 ·exact e
abbrev iM:=Option (A31×(List UInt8×Int×Int))
end Go.Lf.G
namespace Go.Lf
open G
open Go
open M (Sorted Ac Bt BF Ae Ak BH Ah aY A7 aF Aw)
structure ba.beside (C:ba) (o:iM):Prop where
 ok: ∀p∈C.aq,Ah p=0
 ey: ∀p∈C.aq,(BG p.key≠104/\BG p.key≠119/\BG p.key≠114)\/ ∃r x,o=some (r,x)/\p=Zh r x
 kI: ∀p∈C.aq,BG p.key≠108
end Go.Lf
namespace Go.Lf.G
open Go
open M (Sorted Ac Bt BF Ae Ak BH Ah aY A7 aF Aw)
theorem MO {a:ba}{c:iM}(b:a.beside c)(d:Ev):(DX a d).beside c:=by have:=(Oc a d).2.2.2.2.2.1;exact⟨by rw[this];exact b.ok,by rw[this];exact b.ey,by rw[this];exact b.kI⟩
theorem VM {d:ba}{f:iM}(a:d.beside f)(t:fA)(tick:Int)(g:Nat):(Dq d t tick g).beside f:=by
 unfold Dq;split
 ·exact a
 ·split
  ·exact⟨a.ok,a.ey,a.kI⟩
  ·rename_i c;have c:G9 t d.wid=true:=by simpa using c
   refine⟨λp e=>?_,λp e=>?_,λp e=>?_⟩<;>rcases List.mem_append.1 e with b|b
   ·exact a.ok p b
   ·rw[List.mem_singleton.1 b];exact(Ya c).1
   ·exact a.ey p b
   ·rw[List.mem_singleton.1 b];exact .inl (Ya c).2.1
   ·exact a.kI p b
   ·rw[List.mem_singleton.1 b];exact(Ya c).2.2
theorem ZP {a:ba}{b:iM}(c:a.beside b)(d f:Nat):(Az a d f).beside b:=by
 have e:(EZ a d).beside b:=by
  unfold EZ;split
  ·exact VM (MO c _) _ _ _
  ·exact c
 unfold Az;split
 ·exact VM e _ _ _
 ·exact e
theorem AJu {d:ba}{b:A31}{x:List UInt8×Int×Int}(a:d.beside none)(e:Am b=true)(f:0<=x.2.1/\x.2.1<=4)(g:0<=x.2.2/\x.2.2<=501)(h:x.1.length<=2000):(nZ d (KS b) (iy x.1 x.2.1.toNat x.2.2.toNat)).beside (some (b,x)):=by
 refine⟨λp c=>?_,λp c=>?_,λp c=>?_⟩<;>rcases List.mem_append.1 c with q|q
 ·exact a.ok p q
 ·rw[List.mem_singleton.1 q];exact ATd e f g h
 ·rcases a.ey p q with a|⟨i,j,a,_⟩
  ·exact .inl a
  ·cases a
 ·exact .inr ⟨b,x,rfl,List.mem_singleton.1 q⟩
 ·exact a.kI p q
 ·rw[List.mem_singleton.1 q];show BG (KS b)≠108;rw[Jw];decide
theorem tZ(a:ba)(b:Ev):(DX a b).aq=a.aq:=(Oc a b).2.2.2.2.2.1
theorem u6 {b:ba}{p:Pr}(a:p∈b.aq)(t:fA)(tick:Int)(c:Nat):p∈(Dq b t tick c).aq:=by
 unfold Dq;split
 ·exact a
 ·split
  ·exact a
  ·exact Hj _ a
theorem ANz {a:ba}{p:Pr}(b:p∈a.aq)(c e:Nat):p∈(Az a c e).aq:=by
 have d:p∈(EZ a c).aq:=by
  unfold EZ;split
  ·exact u6 (by rw[tZ];exact b) _ _ _
  ·exact b
 unfold Az;split
 ·exact u6 d _ _ _
 ·exact d
theorem I4.note {n b:List Pr}{v:cq}{j:cL}{i:iM}(f:I4 n v j)(s:Sorted n)(k:eY b i):I4 (cu n b) v (pF j i):=by
 have w: ∀p∈b,BG p.key≠104/\BG p.key≠119:=λp A=>by
  rcases k.ey p A with l|⟨a,x,_,rfl⟩
  ·exact⟨l.1,l.2.1⟩
  ·exact⟨by show BG (KS a)≠104;rw[Jw];decide,by show BG (KS a)≠119;rw[Jw];decide⟩
 refine⟨λm o B y=>?_,λm o=>?_,λa z=>?_,f.cJ,λa x e=>?_⟩
 ·rw[KP s λq d c=>(w q d).1 (by rw[c];exact rE y)];exact f.cw m o B y
 ·rw[KP s λq d c=>(w q d).2 (by rw[c];exact Fh m)];exact f.fF m o
 ·have no: ∀q∈b,q.key=KS a-> ∃x,i=some (a,x)/\q=Zh a x:=λq d c=>by
   have C:=(congrArg BG c).trans (Jw a);rcases k.ey q d with l|⟨g,x,D,rfl⟩
   ·exact absurd C l.2.2
   ·have:g=a:=yS c;subst this;exact⟨x,D,rfl⟩
  cases i with
  |none=>
   rw[KP s λq d c=>?_,f.jT a z]
   ·rfl
   ·obtain⟨x,e,_⟩:=no q d c;cases e
  |some r=>
   obtain⟨g,x⟩:=r;show _=(cT j g x a).map (Zh a);by_cases h:a=g
   ·subst h;rw[Hm];refine(mM (p:=Zh a x) s (k.has a x rfl).1 λq d c=>?_).trans rfl;obtain⟨t,u,rfl⟩:=no q d c;cases u;rfl
   ·rw[Rw h,KP s λq d c=>?_,f.jT a z];obtain⟨t,u,_⟩:=no q d c;cases u;exact h rfl
 ·cases i with
  |none=>exact f.jU a x e
  |some r=>
   obtain⟨g,t⟩:=r;have e:cT j g t a=some x:=e;by_cases h:a=g
   ·subst h;rw[Hm] at e;cases e;exact(k.has a x rfl).2.2
   ·rw[Rw h] at e;exact f.jU a x e
theorem pJ {a:ba}{b:List Ev}{g:Nat}(c:a.fits b)(e:b++a.more≠ [])(f:Cz a.st g):Ng (b++a.more)/\BM (b++a.more)=a.st:=by
 have d:BM (b++a.more)=a.st:=by unfold BM;rw[c.1];rfl
 have nx:=yL c.1 e;have:=f.next;exact⟨⟨e,by omega,c.2,by rw[d];exact c.1,by rw[d];exact f.st⟩,d⟩
theorem AP7 {a:Type}{f:A31->Option a}{b:A31}{x:a}(c:f b=some x):cT f b x=f:=by
 funext q;unfold cT;split
 ·rename_i d;rw[d,c]
 ·rfl
theorem I4.done {c:List Pr}{a:cq}{g:cL}{D:ba}{o:iM}{k:Nat}(h:I4 c a g)(s:Sorted c)(m:Am D.wid=true)(n:D.fits ((a D.wid).getD []))(b:(a D.wid).getD []++D.more≠ [])(p:Cz D.st k)(q:D.beside o)
  (has: ∀d x,o=some (d,x)->Zh d x∈D.aq/\Am d=true/\(0<=x.2.1/\x.2.1<=4)/\(0<=x.2.2/\x.2.2<=501)/\x.1.length<=2000):
  I4 (cu c (DW D++D.aq)) (cT a D.wid ((a D.wid).getD []++D.more)) (pF g o):=by
 have i:eY D.aq o:=⟨q.ey,has⟩;obtain⟨r,t⟩:=pJ n b p;by_cases e:D.more= []
 ·have f:DW D= []:=by unfold DW;rw[e];rfl
  rw[f,DG];have:cT a D.wid ((a D.wid).getD []++D.more)=a:=by
   rw[e,AS] at b ⊢;cases j:a D.wid with
   |none=>rw[j] at b;exact absurd rfl b
   |some l=>exact AP7 j
  rw[this];exact h.note s i
 ·have f:DW D++D.aq=D.more.map (OI D.wid)++([UQ D.wid ((a D.wid).getD []++D.more)]++D.aq):=by unfold DW UQ;rw[if_neg e,A4,t]
  rw[f];exact h.land s m r i
theorem u7 {e:List Pr}{c:cq}{h:cL}{a:ba}(i:I4 e c h)(j:Am a.wid=true)(b:match c a.wid with|none=>a.bO=0|some l=>a.bW=(BM l).status/\a.bO=(BM l).next/\a.kept=false/\0<a.bO):Bc e (bo a)=true:=by
 have g:=i.eG j;cases f:c a.wid with
 |none=>
  rw[f] at b g;have b:a.bO=0:=b;have d:bo a=⟨KD a.wid,⟨#[]⟩,true⟩:=by unfold bo;rw[if_neg (by omega)]
  rw[d];unfold Bc;rw[if_pos rfl,g];rfl
 |some l=>
  rw[f] at b g;obtain⟨k,m,n,o⟩:=b;have d:bo a=⟨KD a.wid,RG a.bW.toNat a.bO.toNat a.kept,false⟩:=by unfold bo;rw[if_pos o]
  rw[d];unfold Bc;rw[if_neg (by simp),g,k,m,n];simp
theorem AOP {b:List Pr}{d:cq}{c:cL}{a:A31}(e:I4 b d c)(f:Am a=true)(h:c a=none):Bc b ⟨KS a,⟨#[]⟩,true⟩=true:=by unfold Bc;have g:=e.fh f;rw[h] at g;rw[if_pos rfl,g];rfl
theorem u9 {b:ba}{g:Nat}(d:Am b.wid=true)(ok: ∀c∈b.more,Ea c=true/\c.data.size<1099511627776)(e:Cz b.st g): ∀p∈DW b,Ah p=0:=by
 intro p f;have st:=e.st;have nx:=e.next;unfold DW at f;rcases List.mem_append.1 f with a|a
 ·obtain⟨c,h,rfl⟩:=List.mem_map.1 a;exact ASX d (ok c h).1
 ·split at a
  ·cases a
  ·rw[List.mem_singleton.1 a];exact AR1 d (by omega) (by omega)
theorem ua(a:ba):(DW a).length<=a.more.length+1:=by unfold DW;rw[A1,AF];split<;>simp
theorem uc {f e:List Pr}{a:ba}{g:iM}{h:Nat}(i:Am a.wid=true)(ok: ∀d∈a.more,Ea d=true/\d.data.size<1099511627776)(j:Cz a.st h)(k:a.beside g)(n:a.more.length+1+a.aq.length<=64)(l:DW a++a.aq≠ [])(o:e.length<=64)(b: ∀c∈e,Bc f c=true):df f e (DW a++a.aq)=0:=by
 have q:=ua a;have d:F5 (DW a++a.aq)=0:=pI l (by rw[A1];omega) λp m=>by
  rcases List.mem_append.1 m with b|b
  ·exact u9 i ok j p b
  ·exact k.ok p b
 unfold df;rw[if_neg (by omega),if_neg (by rw[d];decide),if_pos (List.all_eq_true.2 b)]
theorem Sd(a:Nat):BG (CQ a)=108:=by unfold BG CQ;rw[FO];rfl
theorem ud {d:List Pr}{b:ba}{i:iM}(s:Sorted d)(j:b.beside i)(e g:Nat)(h:A31):Bc (cu d (DW b++b.aq)) (FE e g h)=Bc d (FE e g h):=by
 have f:Ac (CQ e) (cu d (DW b++b.aq))=Ac (CQ e) d:=KP s λq k l=>by
  have c:=(congrArg BG l).trans (Sd e);rcases List.mem_append.1 k with a|a
  ·unfold DW at a;rcases List.mem_append.1 a with a|a
   ·obtain⟨f,_,rfl⟩:=List.mem_map.1 a;rw[show BG (OI b.wid f).key=104 from WG _ _] at c;exact absurd c (by decide)
   ·split at a
    ·cases a
    ·rw[List.mem_singleton.1 a] at c;rw[show BG (KD b.wid)=119 from Fh _] at c;exact absurd c (by decide)
  ·exact j.kI q a c
 rw[Ob,Ob];unfold I5;rw[f]
def Lp(x:bU)(p:bK):List UInt8:=Bp x.kind.toNat++(BU (bl x.wid)++(BU (if x.kind=2 then bl x.name else [])++(if x.kind=1 then Ca p else [])))
def Qj(x:bU)(p:bK):Int:=if x.kind=1/\F3 p=false then 130 else if(x.kind=2/\Am x.name=false)\/Am x.wid=false\/Am x.bg=false then 1 else 0
theorem ke {x:bU}{p:bK}(h:Qj x p=0):(x.kind=1->F3 p=true)/\(x.kind=2->Am x.name=true)/\Am x.wid=true/\Am x.bg=true:=by
 unfold Qj at h;split at h
 ·cases h
 ·rename_i b;split at h
  ·cases h
  ·rename_i a;simp only[not_or,not_and,Bool.not_eq_false] at b a;exact⟨b,a.1,a.2⟩
theorem R7 {p:bK}(ok:F3 p=true):(Ca p).length<=1700:=by simp only[F3,A3,decide_eq_true_eq] at ok;obtain⟨⟨c,a⟩,b⟩:=ok;have d:=Bb.1 a;have:=QB b;have e:=AX (n:=p.aw.toNat) (by omega);have f:=AX (n:=p.steps.length) (by omega);unfold Ca;simp only[A1];omega
theorem AQ1 {x:bU}{p:bK}(h:Qj x p=0)(f:1<=x.kind/\x.kind<=4):(Lp x p).length<=2000:=by
 obtain⟨a,b,c,g⟩:=ke h;have i:=FV c;have j:=Fa (n:=x.kind.toNat) (by omega);have k:=Kq (s:=x.wid) (by omega);have l:(BU (if x.kind=2 then bl x.name else [])).length<=30:=by
  split
  ·rename_i d;have:=FV (b d);have:=Kq (s:=x.name) (by omega);omega
  ·have:=AX (n:=0) (by omega);show(Bp 0++ []).length<=30;rw[AS];omega
 have m:(if x.kind=1 then Ca p else []).length<=1700:=by
  split
  ·rename_i e;exact R7 (a e)
  ·simp
 unfold Lp;simp only[A1];omega
section
variable {A : ao} {h : aa} {R : A30}
theorem AOt {x:bU}{p:bK}(V:View UT h x.steps p.steps)(M:x.aw=p.aw)(len:p.steps.length<=1099511627776)(ao:1<=x.kind/\x.kind<=4)
  (w: ∀d,Ext h d->R (J1 #[J7 (if Qj x p=0 then Ad (Lp x p) else⟨#[]⟩),J6 J9 (Qj x p)]) d):AA A P Na #[x.v] h R:=by
 refine ABD ?_;unfold Ti;refine aj.mk λg _ i j ap=>ah.mk λK N=>?_
 have y: ∀(n:Int) d,Ext h d->Qj x p=n->n≠0->R (J1 #[J7 ⟨#[]⟩,J6 J9 n]) d:=λn d O Q r=>by
  have:=w d O;rw[Q,if_neg r] at this;exact this
 have z: ∀(ps:List UInt8) (a:aa),Ext g a->(x.kind=1->F3 p=true/\ps=Ca p)->(x.kind≠1->ps= [])->K (Ad ps,()) a:=λps a e k B=>by
  have b:=e.ag i λh=>h
  have aq:ps.length<=1700:=by
   by_cases h:x.kind=1
   ·rw[(k h).2];exact R7 (k h).1
   ·rw[B h];simp
  have C: ¬(x.kind=1/\F3 p=false):=λh=>by have:=(k h.1).1;rw[h.2] at this;cases this
  refine N _ _ (ah.mk λt S=>?_);have u: ∀m:Bool,(m=true↔(x.kind=2/\Am x.name=false)\/Am x.wid=false\/Am x.bg=false)->t (m,()) a:=λm D=>by
   refine S _ _ (ae.intro (λf=>y 1 a (j.trans e) (by unfold Qj;rw[if_neg C,if_pos (D.1 f)]) (by decide)) (λf=>?_));have f:m=false:=f;have T: ¬((x.kind=2/\Am x.name=false)\/Am x.wid=false\/Am x.bg=false):=λh=>by rw[D.2 h] at f;cases f
   have E:Qj x p=0:=by unfold Qj;rw[if_neg C,if_neg T]
   obtain⟨g1,U,W,ar⟩:=ke E;have au:=FV W;refine AL.mk (n:=x.name) (AB b rfl) (ah.mk λX Y=>?_);have F: ∀c:List UInt8,c=(if x.kind=2 then bl x.name else [])->X (Ad c,()) a:=λc G=>by
    have nl:c.length<=16:=by
     rw[G];split
     ·rename_i Z;rw[BA];exact FV (U Z)
     ·simp
    refine Y _ _ (AC.mk (n:=x.kind) (AO b rfl) (AL.mk (n:=x.wid) (AB b rfl) ?_));rw[O0 (by omega) (by omega)];refine Cf (by omega) λav H=>⟨_,rfl,AB (H.ag b λh=>h) rfl,Kg (by omega) λaw ab=>⟨_,rfl,?_⟩⟩
    have ax:=Fa (n:=x.kind.toNat) (by omega);have ay:=Kq (s:=x.wid) (by omega);have az:(BU c).length<=30:=by unfold BU;rw[A1];have:=AX (n:=c.length) (by omega);omega
    refine⟨by rw[AP,AP,max_i64];omega,?_⟩;rw[Aq];refine Ro (l:=c) (by omega) λac af=>⟨_,rfl,⟨by rw[AP,AP,A1,max_i64];omega,?_⟩⟩
    rw[Aq];refine⟨by rw[AP,AP,A1,A1,max_i64];omega,?_⟩;rw[Aq];have:=w ac ((((j.trans e).trans H).trans ab).trans af);rw[E,if_pos rfl] at this;have ag:Lp x p=((Bp x.kind.toNat++BU (bl x.wid))++BU c)++ps:=by
     unfold Lp;rw[G];simp only[A4];congr 3;split
     ·rename_i h;rw[(k h).2]
     ·rename_i h;rw[B h]
    rw[ag] at this;exact this
   refine AC.mk (n:=x.kind) (AO b rfl) (ae.intro (λq=>?_) (λq=>?_))
   ·have q:x.kind≠2:=by simpa using q
    exact F [] (by rw[if_neg q])
   ·have q:x.kind=2:=by simpa using q
    have:=F (bl x.name) (by rw[if_pos q]);rw[QJ] at this;exact this
  have rest:(x.kind=2->Am x.name=true)->AL a ((⟨h.size,0,none⟩:Q6).add 2) λai=>AA A P Bl #[J7 ai] a λak v=> ∃I:Bool,ak=J3 I/\(ae (!I) (t (true,()) v) (
    AL v ((⟨h.size,0,none⟩:Q6).add 1) λal=>AA A P Bl #[J7 al] v λam an=> ∃J:Bool,am=J3 J/\(t ((!J),()) an))):=λr=>
   AL.mk (n:=x.wid) (AB b rfl) (FK ⟨_,rfl,ae.intro (λq=>u true (by simp at q;simp[q])) λq=>AL.mk (n:=x.bg) (AB b rfl) (FK ⟨_,rfl,u _ (by
    have q:Am x.wid=true:=by simpa using q
    simp only[q,Cd,Bool.true_eq_false,false_or];constructor
    ·exact .inr
    ·rintro(⟨g,a⟩|h)
     ·rw[r g] at a;cases a
     ·exact h)⟩)⟩)
  refine AC.mk (n:=x.kind) (AO b rfl) (ae.intro (λq=>?_) (λq=>?_))
  ·have q:x.kind=2:=by simpa using q
   refine AL.mk (n:=x.name) (AB b rfl) (FK ⟨_,rfl,ae.intro (λo=>u true (by simp at o;simp[q,o])) λo=>rest λ_=>by simpa using o⟩)
  ·have q:x.kind≠2:=by simpa using q
   exact rest λh=>absurd h q
 refine AC.mk (n:=x.kind) (AO i rfl) (ae.intro (λq=>?_) (λq=>?_))
 ·have q:x.kind=1:=by simpa using q
  refine AV.mk (s:=x.steps) (AB i rfl) (AC.mk (n:=x.aw) (Co (by exact i) rfl) ?_);rw[M];refine uO (V.ext j) len λa e=>?_
  unfold ZA;cases L:F3 p with
  |false=>exact⟨_,_,rfl,ae.yes rfl (y 130 a (j.trans e) (by unfold Qj;rw[if_pos ⟨q,L⟩]) (by decide))⟩
  |true=>exact⟨_,_,rfl,ae.no rfl (z (Ca p) a e (λ_=>⟨L,rfl⟩) λh=>absurd q h)⟩
 ·have q:x.kind≠1:=by simpa using q
  exact z [] g Mod.refl (λh=>absurd h q) λ_=>rfl
end
def dp(a:Int)(b:A31):Ev:=⟨0,a,0,0,0,0,false,b⟩
def Bz(c:Option (List Ev))(wid:A31)(a:Nat)(b:Int):ba:=match c with
 |none=>Gh wid a 0 0 false SC b
 |some l=>Gh wid a (BM l).status (BM l).next false (BM l) b
def ue(p:bK)(a:Int):Int:=if(0:Int)>a+p.aw then 0 else a+p.aw
def DF(x:bU)(p:bK)(a:ba)(b:Nat):ba:=
 if x.kind=1 then(if 0<p.aw then Dq (DX a (dp 1 (Ad (Ca p)))) ⟨6,0,0⟩ (ue p a.now) b else DX a (dp 1 (Ad (Ca p))))
 else if x.kind=2 then DX a (dp 12 x.name)
 else if x.kind=3 then(if a.st.cancel=true then a else DX a (dp 13 ⟨#[]⟩))
 else DX a (dp 18 ⟨#[]⟩)
def Fz(x:bU)(p:bK)(a:ba)(b:Nat):ba:=nZ (DF x p a b) (KS x.bg) (iy (Lp x p) (Cy (DF x p a b)).1.toNat (Cy (DF x p a b)).2.toNat)
def Ox(b:cq)(c:cL)(d:Nat)(x:bU)(p:bK):Option (Int×Int×Int):=
 if x.kind<1\/4<x.kind then some (1,0,0)
 else if Qj x p≠0 then some (Qj x p,0,0)
 else if d=0 then some (170,0,0)
 else match c x.bg with
  |some a=>if a.1≠Lp x p then some (184,0,0) else some (0,a.2.1,a.2.2)
  |none=>match b x.wid with
   |none=>if x.kind=1 then none else some (180,0,0)
   |some l=>if x.kind=1 then some (181,0,0) else if(BM l).status≠0 then some (182,0,0) else none
theorem AKo {a:Option (List Ev)}{wid:A31}{n:Nat}{now:Int}(h: ∀l,a=some l->Ng l):Cz (Bz a wid n now).st 500/\(Bz a wid n now).more= []/\(Bz a wid n now).aq= []/\(Bz a wid n now).conds= []/\(Bz a wid n now).wid=wid/\(Bz a wid n now).ai=n/\(Bz a wid n now).now=now/\(Bz a wid n now).fits (a.getD []):=by
 cases a with
 |none=>exact⟨Cz.zero.up (by omega),rfl,rfl,rfl,rfl,rfl,rfl,rfl,λc d=>by cases d⟩
 |some l=>
  have b:=h l rfl;refine⟨?_,rfl,rfl,rfl,rfl,rfl,rfl,?_⟩
  ·have:=QP Cz.zero b.ok;exact this.up (by have:=b.len;omega)
  ·show Eb SC (l++ [])=some (BM l)/\ ∀c∈l++ [],_;rw[AS];exact⟨b.ok,b.kd⟩
theorem AOc {x:bU}{p:bK}{a:ba}{num b:Nat}(s:Qj x p=0)(ok: ∀e∈a.more,Ea e=true/\e.data.size<1099511627776)(t:Cz a.st b):a.grown (DF x p a num) (b+1) 1 1:=by
 obtain⟨u,v,y,B⟩:=ke s;have g0:=Xy ok t;have z:(⟨#[]⟩:A31).size<1099511627776:=by decide
 have up: ∀ {c:ba},a.grown c (b+1) 1 0->a.grown c (b+1) 1 1:=λ{c} ⟨g1,d,f,g,i,j,k,q,l,w,m,n⟩=>⟨g1,d,f,g,i,j,k,q,l,by omega,m,n⟩
 unfold DF;split
 ·rename_i o;have r:(dp 1 (Ad (Ca p))).data.size<1099511627776:=by show(Ad (Ca p)).size<_;have:=R7 (u o);rw[AP];omega
  split
  ·exact X8 (MM g0 r) _ _ _
  ·exact up (MM g0 r)
 ·split
  ·rename_i o;exact up (MM g0 (e:=dp 12 x.name) (by have:=FV (v o);show x.name.size<_;omega))
  ·split
   ·split
    ·obtain⟨g1,d,f,g,i,j,k,q,l,w,m,n⟩:=g0;exact⟨g1,d,f,g,i,j,k,by omega,l,by omega,m,n.up (Ge _)⟩
    ·exact up (MM g0 z)
   ·exact up (MM g0 z)
theorem ARe {x:bU}{p:bK}{a:ba}{c:Nat}{b:List Ev}(h:a.fits b):(DF x p a c).fits b:=by
 unfold DF;split
 ·split
  ·exact Vn (Lj h (.inl (show(1:Int)<6 by decide)))
  ·exact Lj h (.inl (show(1:Int)<6 by decide))
 ·split
  ·exact Lj h (.inr (show(12:Int)<=12 by decide))
  ·split
   ·split
    ·exact h
    ·exact Lj h (.inr (show(12:Int)<=13 by decide))
   ·exact Lj h (.inr (show(12:Int)<=18 by decide))
theorem ALY {x:bU}{p:bK}{c:ba}{d:Nat}(h:c.aq= []):(DF x p c d).beside none:=by
 have b:c.beside none:=⟨(λp a=>by rw[h] at a;cases a),(λp a=>by rw[h] at a;cases a),(λp a=>by rw[h] at a;cases a)⟩;unfold DF;split
 ·split
  ·exact VM (MO b _) _ _ _
  ·exact MO b _
 ·split
  ·exact MO b _
  ·split
   ·split
    ·exact b
    ·exact MO b _
   ·exact MO b _
theorem uf {b:ba}{c:Ev}(h:(DX b c).err=0):b.err=0:=by
 unfold DX at h;split at h
 ·rename_i a;exact absurd h a
 ·rename_i a;simpa using a
theorem pK {a:ba}{b:Ev}(h:(DX a b).err=0):DX a b= {a with st:=(Bf a.st (CG a b)).2,more:=a.more++ [CG a b]}/\(Bf a.st (CG a b)).1=0:=by
 have d:=uf h;unfold DX at h ⊢;rw[if_neg (by simp[d])] at h ⊢;split at h
 ·cases h
 ·rename_i e;rw[if_neg e];split at h
  ·rename_i c;exact absurd h c
  ·rename_i c;rw[if_neg c];exact⟨rfl,by simpa using c⟩
theorem AQA {a:ba}{b:Nat}(h:(EZ a b).err=0):a.err=0:=by
 unfold EZ at h;split at h
 ·exact uf (Yi h)
 ·exact h
theorem ug {a:ba}{c d:Nat}(h:(Az a c d).err=0):(Az a c d).st.status=(Cy a).1/\(Az a c d).st.next=(Cy a).2:=by
 have g:=WI h;have j:(Az a c d).st=(EZ a c).st:=by
  unfold Az;split
  ·exact(HV _ _ _ _).1
  ·rfl
 rw[j];unfold Cy;by_cases e:ED a=true
 ·rw[if_pos e];unfold EZ at g ⊢;rw[if_pos e] at g ⊢;rw[(HV _ _ _ _).1];obtain⟨k,b⟩:=pK (Yi g);rw[k];show(Bf a.st (CG a RB)).2.status=_/\(Bf a.st (CG a RB)).2.next=_;have ok:=RS b;unfold Bf at b ⊢;rw[if_neg (by simp[ok])] at b ⊢;split at b
  ·rename_i i;rw[if_neg (λh=>by have h:(2:Int)=1:=h.1;cases h)] at b;cases b
  ·rename_i i;rw[if_neg i];split at b
   ·cases b
   ·rename_i l;rw[if_neg l];split at b
    ·cases b
    ·rename_i m;rw[if_neg m];cases f:Ta a.st (CG a RB) with
     |none=>rw[f] at b;cases b
     |some t=>
      unfold Ta at f;rw[if_pos (show 2<=(CG a RB).kind/\(CG a RB).kind<=5 from(by decide:(2:Int)<=2/\(2:Int)<=5))] at f;obtain⟨u,n,rfl⟩:=Option.map_eq_some_iff.1 f;exact⟨(Qs n).2.2.2,rfl⟩
 ·rw[if_neg e];unfold EZ;rw[if_neg e];exact⟨rfl,rfl⟩
end Go.Lf.G
