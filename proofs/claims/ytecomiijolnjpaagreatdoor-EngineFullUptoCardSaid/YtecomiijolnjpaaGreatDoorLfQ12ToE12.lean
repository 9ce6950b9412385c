/-
 The law CasScans (chapter 10) over its formula.
-/
import Derived.Test.YtecomiijolnjpaaGreatDoorLfE2ToZ24
import Derived.Test.YtecomiijolnjpaaGreatDoorLfJToGA
import Derived.Test.YtecomiijolnjpaaGreatDoorLfU2ToY5
set_option maxRecDepth 100000
set_option linter.unusedVariables false
set_option linter.unusedSimpArgs false
open Go.IntKind renaming i64→J9,wrap→J8
open Go.Value renaming string→J7,int→J6,pointer→J5,slice→J4,bool→J3,tuple→J1
open Go.Obj renaming cells→J2
open Go renaming Value→J0,Addr→Q6,TypeId→Q7,FuncId→Q8,Program→Q1
open Go.Addr renaming add→Q9,mk→Q5
namespace Go.Lf.G
open Go
open M (Sorted Ae Cr BG Ag Aw Bf Aj bG BM aS BV)
theorem lL:P.underlying FI=some (.map BQ BQ):=by kernel_rfl
theorem lM:P.underlying EO=some (.map BQ Xm):=by kernel_rfl
theorem hU:P.underlying BQ=some (.int J9):=by kernel_rfl
theorem nR:(zeroValue BQ).calc P=some (J6 J9 0):=by kernel_rfl
theorem nS:(zeroValue Xm).calc P=some (.int .u64 0):=by kernel_rfl
def dD(f:Nat->Nat)(a r:Nat):Nat->Nat:=λm=>if m=a then r else f m
structure Dg (g h:aa) (k:Nat->Nat) (s p bh bu:Nat) (name:A2O) (aF:Nat) (f u:Nat->Nat) (N:Nat):Prop where
 cell:h[p]? =some (J2 #[Ay s,J7 name,J6 J9 (aF:Int),.map (some bh),.map (some bu)] Ql (0,0))
 held: ∃hm,Rq J9 h bh hm/\hm.length<=N/\ ∀n:Nat,(Kr n hm).getD (J6 J9 0)=J6 J9 (f n:Int)
 used: ∃um,Rq J9 h bu um/\um.length<=N/\ ∀n:Nat,(Kr n um).getD (.int .u64 0)= .int .u64 (u n:Int)
 bM: ∀c,c=p\/c=bh\/c=bu->k c=0/\g.size<=c/\c≠s
 ne:bh≠bu
 named:Ap name=true
 sh:1<=aF/\aF<=16
 cn:N<=1000000
def Fp(b:List Pr)(d r:Nat)(a:A2O):Prop:=(r=0/\a=⟨#[]⟩/\(JH b (CL d)).2=false)\/(1<=r/\r<=2147483647/\Ap a=true/\JH b (CL d)=(Jw r a,true))
section
variable {A : al} {B : cI} {g h : aa} {s p bh bu : Nat} {q : Hp} {k : Nat -> Nat} {st : Db} {m : Bx} {D : Bn} {aI c nn N : Nat} {name : A2O} {aF : Nat} {f u : Nat -> Nat} {R : A2N}
theorem Dg.lt(a:Dg g h k s p bh bu name aF f u N): ∀c,c=p\/c=bh\/c=bu->c<h.size:=by
 obtain⟨e,b,_⟩:=a.held;obtain⟨i,d,_⟩:=a.used;rintro c (rfl|rfl|rfl)
 ·exact Af a.cell
 ·exact b.lt
 ·exact d.lt
theorem Dg.mg(a:Dg g h k s p bh bu name aF f u N):p≠bh/\p≠bu:=by
 obtain⟨i,⟨_,_,b,_⟩,_⟩:=a.held;obtain⟨j,⟨_,_,d,_⟩,_⟩:=a.used;have e:=a.cell;constructor
 ·rintro rfl;rw[e] at b;cases b
 ·rintro rfl;rw[e] at d;cases d
theorem Dg.beside {d:aa}{e:Nat->Nat}{i:Nat->Prop}(a:Dg g h k s p bh bu name aF f u N)(b:Mod i h d)(hX: ∀c,c=p\/c=bh\/c=bu-> ¬i c)(l: ∀c,c=p\/c=bh\/c=bu->e c=0):Dg g d e s p bh bu name aF f u N:=by obtain⟨n,o,r,t⟩:=a.held;obtain⟨v,w,x,y⟩:=a.used;exact⟨b.af a.cell (hX p (.inl rfl)),⟨n,o.mod b (hX bh (.inr (.inl rfl))),r,t⟩,⟨v,w.mod b (hX bu (.inr (.inr rfl))),x,y⟩,λc j=>⟨l c j,(a.bM c j).2⟩,a.ne,a.named,a.sh,a.cn⟩
theorem Dg.on {a:aa}(b:Dg g h k s p bh bu name aF f u N)(x:Ext h a):Dg g a k s p bh bu name aF f u N:=b.beside x (λ_ _ h=>h) λc d=>(b.bM c d).1
theorem Dg.more {b:Nat}(a:Dg g h k s p bh bu name aF f u N)(r:N<=b)(d:b<=1000000):Dg g h k s p bh bu name aF f u b:=by obtain⟨e,i,t,j⟩:=a.held;obtain⟨l,n,v,o⟩:=a.used;exact⟨a.cell,⟨e,i,by omega,j⟩,⟨l,n,by omega,o⟩,a.bM,a.ne,a.named,a.sh,d⟩
theorem Dg.step {e:aa}{k':Nat->Nat}{i:Nat->Prop}(b:Dg g h k s p bh bu name aF f u N)(j:Mod i h e)(l: ∀c,i c->k c≠0\/h.size<=c\/c=s\/ ¬(c=p\/c=bh\/c=bu))(n: ∀c,k' c≠0->k c≠0\/h.size<=c):Dg g e k' s p bh bu name aF f u N:=by
 refine b.beside j (λc a o=>?_) λc a=>Decidable.byContradiction λr=>?_
 ·have d:=b.bM c a;have t:=b.lt c a;rcases l c o with h|h|h|h
  ·exact h d.1
  ·omega
  ·exact d.2.2 h
  ·exact h a
 ·have d:=b.bM c a;have t:=b.lt c a;rcases n c r with h|h
  ·exact h d.1
  ·omega
theorem APR {s:Nat}(b:Fa B g h s q k st m D aI c nn)(j:Ap name=true)(o:1<=aF/\aF<=16)
  (r: ∀a p bh bu,Dg g a k s p bh bu name aF (λ_=>0) (λ_=>0) 0->(∀ c,c=p\/c=bh\/c=bu->h.size<=c/\c<a.size)->Ext h a->R (J1 #[Ay p,J6 J9 0]) a):AA A P Oq #[Ay s,J7 name,J6 J9 (aF:Int)] h R:=by
 refine AFC ?_;unfold Zd;refine ah.mk λK t=>ae.no rfl (FN ⟨_,rfl,ae.no (by rw[j];rfl) (ae.no (decide_eq_false (by omega)) (t _ _ (ae.no (decide_eq_false (by omega)) ?_)))⟩)
 refine ak.mk λl _ v w H=>ak.mk λx _ y n I=>ak.mk λd _ z e J=>?_
 have C:=(w.trans n).trans e;have L:=b.db.mem.ext.size;have M:=b.lt;have E:d[h.size]? =some (.map #[] 0):=e.af (n.af v (λh=>h)) (λh=>h);have F:d[l.size]? =some (.map #[] 0):=e.af y (λh=>h);refine r d x.size h.size l.size ⟨z,⟨[],Rq.empty E,A0 _,λG=>rfl⟩,⟨[],Rq.empty F,A0 _,λG=>rfl⟩,λc i=>?_,by omega,j,o,by omega⟩ (λc i=>?_) C
 ·have:h.size<=c:=by rcases i with rfl|rfl|rfl<;>omega
  exact⟨b.db.free this,by omega,by omega⟩
 ·rcases i with rfl|rfl|rfl<;>omega
theorem YW {a:Nat}(b:Dg g h k s p bh bu name aF f u N)(d:R (J6 J9 (f a:Int)) h):AA A P Dp #[Ay p,J6 J9 (a:Int)] h R:=by obtain⟨j,e,l,i⟩:=b.held;refine UN ?_;unfold Nj;exact ae.no rfl (aD (Ez.mk (AB b.cell rfl) (LJ lL hU nR e ⟨_,i a,d⟩)))
theorem ANr {b:List (Int×J0)}{a r:Nat}(h: ∀m:Nat,(Kr m b).getD (J6 J9 0)=J6 J9 (f m:Int))(m:Nat):(Kr m (Ry a (J6 J9 (r:Int)) b)).getD (J6 J9 0)=J6 J9 (dD f a r m:Int):=by
 rw[YY];unfold dD;by_cases d:m=a
 ·subst d;rw[if_pos rfl,if_pos rfl];rfl
 ·rw[if_neg (by omega),if_neg d];exact h m
theorem xq {b:List (Int×J0)}{a r:Nat}(h: ∀m:Nat,(Kr m b).getD (.int .u64 0)= .int .u64 (f m:Int))(m:Nat):(Kr m (Ry a (.int .u64 (r:Int)) b)).getD (.int .u64 0)= .int .u64 (dD f a r m:Int):=by
 rw[YY];unfold dD;by_cases d:m=a
 ·subst d;rw[if_pos rfl,if_pos rfl];rfl
 ·rw[if_neg (by omega),if_neg d];exact h m
theorem Dg.strike {d:Nat}{j:Q7}{K:A2N}(a:Dg g h k s p bh bu name aF f u N)(l: ∀b,Dg g b k s p bh bu name aF (dD f d 0) u N->Mod (λc=>c=bh) h b->K (J1 #[]) b):BF A P (Builtin.delete_ #[FI,BQ] j #[.map (some bh),J6 J9 (d:Int)]) h K:=by
 obtain⟨z,n,o,r⟩:=a.held;obtain⟨t,v,w,x⟩:=a.used;refine AIm lL hU n λb y e C=>l b ⟨e.af a.cell a.mg.1,⟨_,y,AF ANz o,λm=>?_⟩,⟨t,v.mod e a.ne.symm,w,x⟩,a.bM,a.ne,a.named,a.sh,a.cn⟩ e
 rw[uE];unfold dD;by_cases i:m=d
 ·subst i;rw[if_pos rfl,if_pos rfl];rfl
 ·rw[if_neg (by omega),if_neg i];exact r m
theorem ANP {b r:Nat}{j:A2O}(w:Fa B g h s q k st m D aI c nn)(a:Dg g h k s p bh bu name aF f u N)(E:b<aF)(L:Fp (CZ st) b r j)(l: ∀n,Ext h n->R (J1 #[J6 J9 (r:Int),J7 j,J6 J9 0]) n):AA A P KW #[Ay p,J6 J9 (b:Int)] h R:=by
 have F:=a.sh;refine VT ?_;unfold Ob;refine ah.mk λK x=>ae.no rfl (ae.no (decide_eq_false (by omega)) (aD (AC.mk (AB a.cell rfl) (x _ _ (ae.no (decide_eq_false (by omega)) ?_)))))
 refine aD (AZ.mk (AL a.cell rfl) (Rw (by omega) λo d=>⟨_,rfl,⟨AL (Ah d a.cell) rfl,?_⟩⟩));refine qN (w.on d) (by rw[Js];omega) λt y=>⟨_,_,_,rfl,?_⟩
 have v:=d.trans y;refine ah.mk λG z=>ae.no rfl (z _ _ ?_)
 rcases L with⟨rfl,rfl,e⟩|⟨o,t,i,e⟩
 ·rw[e];exact ae.yes rfl (l _ v)
 ·rw[e];exact ae.no rfl (ALl o t i λi C=>⟨_,_,_,rfl,l i (v.trans C)⟩)
theorem AQt {k v:A2O}(a:k≠⟨#[]⟩)(d:k.size<=64)(e:v.size<=8192):EK [⟨k,v,false⟩]=0:=by
 have b:Aj ⟨k,v,false⟩=0:=by unfold Aj;rw[if_neg (by simp[a]),if_neg (by simp;omega)]
 unfold EK;rw[if_neg (by simp),if_neg (by simp)];unfold Fh;rw[if_neg (by rw[b];decide)];rfl
theorem AHw {d r:Nat}{av:A2O}(E:cm g)(T:Fa B g h s q k st m D aI c nn)(n:Dg g h k s p bh bu name aF f u N)(aR:d<aF)(L:Fp (CZ st) d r av)(aw:r+1<=2147483647)(hA:aI+3<=B.A)(aS:c+64<=B.C)(aT:nn+1<=1000000)(aU:N+1<=1000000)
  (aV: ∀U af k' ax aW aX,af.d=q.d->af.b=q.b->Fa B g U s af k' ax aW aX (aI+3) (c+64) (nn+1)->CZ ax=cS (CZ st) [⟨CL d,Jw (r+1) name,false⟩]->Dg g U k' s p bh bu name aF (dD f d (r+1)) (dD u d 0) (N+1)->
   Mod (λc=>k c≠0\/h.size<=c\/c=s\/c=bh\/c=bu) h U->(∀ c,k' c≠0->k c≠0\/h.size<=c)->R (J1 #[J6 J9 ((r+1:Nat):Int),J6 J9 0]) U):
  AA A P Ej #[Ay p,J6 J9 (d:Int)] h R:=by
 have bN:=n.sh;refine Ro ?_;unfold La;refine ANP T n aR L λM aY=>⟨_,_,_,rfl,ae.no rfl ?_⟩
 refine Rw (by omega) λai aZ=>⟨_,rfl,?_⟩
 have ay:=aY.trans aZ;refine ak.pair λb V bO az a0 bP=>?_
 have aA:=ay.trans a0;have bQ:=ay.size;have bR:=T.db.mem.ext.size;refine ah.mk λK a1=>?_
 have aC: ∀W y z,Ext h W->W[b]? =some (J2 #[J7 (CL d),J7 y,J3 z] AR (0,0))->Bd (CZ st) ⟨CL d,y,z⟩=true->K () W:=by
  intro W y z aj a2 a3;refine a1 _ _ ?_;have bS:=T.on aj;have a4:=n.on aj;refine aD (AJ.mk (AB a4.cell rfl) ?_);rw[Aa (by omega)];refine nQ (by omega) aw n.named λX aE=>⟨_,_,rfl,?_⟩
  have al:=aj.trans aE;refine ae.no rfl (ah.mk λa5 a6=>?_);have aG:=T.on al;have am:=n.on al;have I:=Ah aE a2;have an: ∀e O C,Ext X e->e[O]? =some (J2 #[J7 (CL d),J7 y,J3 z] AR (0,0))->e[C]? =some (J2 #[J7 (CL d),J7 (Jw (r+1) name),J3 false] AR (0,0))->X.size<=C->
    AA A P FO #[Ay s,J4 (some (⟨O,0,none⟩:Q6)) 1 1,J4 (some (⟨C,0,none⟩:Q6)) 1 1] e λa7 ao=> ∃aH:Int,a7=J6 J9 aH/\a5 (aH,()) ao:=by
   intro e O C w a8 aJ a9;have ba:=aG.on w;have bb:=am.on w;have aK:=al.trans w;have vc:View Ba e ⟨some ⟨O,0,none⟩,1,1⟩ [⟨CL d,y,z⟩]:=(Own.lit (E:=Ba) (l:= [⟨CL d,y,z⟩]) a8 rfl (by simp[maxLen])).view;have bc:View Ba e ⟨some ⟨C,0,none⟩,1,1⟩ [⟨CL d,Jw (r+1) name,false⟩]:=(Own.lit (E:=Ba) (l:= [⟨CL d,Jw (r+1) name,false⟩]) aJ rfl (by simp[maxLen])).view;have bd:=AQt (ALF d) (show(CL d).size<=64 by rw[Js];omega) (AJI aw n.named);have be:dy (CZ st) [⟨CL d,y,z⟩] [⟨CL d,Jw (r+1) name,false⟩]=0:=by unfold dy;rw[if_neg (by simp),if_neg (by rw[bd];decide),if_pos (by simp[a3])]
   have bf:k C=0:=aG.db.free a9;refine xo (B:=B) (conds:=⟨some ⟨O,0,none⟩,1,1⟩) (sl:=⟨some ⟨C,0,none⟩,1,1⟩) E ba hA aS aT vc bc (λ_ bg Y=>by
    have o:C=bg:=by simpa [Sl.af] using Y
    subst o;exact⟨Af aJ,bf⟩) (λx e=>by rw[List.mem_singleton.1 e];show(CL d).size<=_;rw[Js];omega) (λbi=>absurd be bi) λ_ ao bj Z bk bm bn bo bp bq br aL aM=>⟨_,rfl,a6 _ _ (ae.no rfl ?_)⟩
   have bT:=aK.size;have i:=bb.step (k':=Z) aL (λc a=>by
    rcases a with h|h|h
    ·exact .inl h
    ·exact .inr (.inl h)
    ·exact .inr (.inr (.inl h))) aM
   have bs:Mod (λc=>k c≠0\/h.size<=c\/c=s\/c=bh\/c=bu) h ao:=(aK.ai λc _ a=>a.elim).trans (aL.ai λc _ a=>by
    rcases a with h|h|h
    ·exact .inl h
    ·exact .inr (.inl (by omega))
    ·exact .inr (.inr (.inl h)))
   obtain⟨bU,bt,bV,bv⟩:=i.held;refine aD (Ez.mk (AB i.cell rfl) (aD (Ez.mk (AB i.cell rfl) ?_)));refine uF lL hU nR (v:=J6 J9 ((r+1:Nat):Int)) bt (by have:=i.cn;simp only[maxLen];omega) λbW bw ac bX=>?_
   obtain⟨bY,bx,bZ,bz⟩:=i.used;have bA:=bx.mod ac n.ne.symm;refine uF lM hU nS (v:= .int .u64 0) bA (by have:=i.cn;simp only[maxLen];omega) λbB bC ad b0=>?_
   have bD: ∀c,c=bh->Z c=0/\g.size<=c:=λc a=>⟨(i.bM c (.inr (.inl a))).1,(i.bM c (.inr (.inl a))).2.1⟩
   have bE: ∀c,c=bu->Z c=0/\g.size<=c:=λc a=>⟨(i.bM c (.inr (.inr a))).1,(i.bM c (.inr (.inr a))).2.1⟩
   have bF:=(bq.beside ac bD λo=>(i.bM s (.inr (.inl o))).2.2 rfl).beside ad bE λo=>(i.bM s (.inr (.inr o))).2.2 rfl
   refine aV bB bj Z bk bm bn bo bp bF br ⟨ad.af (ac.af i.cell n.mg.1) n.mg.2,⟨_,bw.mod ad n.ne,AF WW (by omega),λm=>ANr bv m⟩,⟨_,bC,AF WW (by omega),λm=>xq (r:=0) bz m⟩,i.bM,i.ne,i.named,i.sh,aU⟩ ((bs.trans (ac.ai λc _ a=> .inr (.inr (.inr (.inl a))))).trans (ad.ai λc _ a=> .inr (.inr (.inr (.inr a))))) λc a=>?_
   rcases aM c a with h|h
   ·exact .inl h
   ·exact .inr (by omega)
  have F: ∀ {e:aa},Ext X e->ag e ⟨p,0,none⟩=some (Ay s):=λw=>AL (Ah w am.cell) rfl
  have Q: ∀ {e:aa},Ext X e->ag e (⟨b,0,none⟩:Q6)=some (J7 (CL d))/\ag e ((⟨b,0,none⟩:Q6).add 1)=some (J7 y)/\ag e ((⟨b,0,none⟩:Q6).add 2)=some (J3 z):=λw=>⟨AL (Ah w I) rfl,AB (Ah w I) rfl,AB (Ah w I) rfl⟩
  refine aD (AZ.mk (AL am.cell rfl) (AJ.mk (AL I rfl) (AJ.mk (AB I rfl) (Ab.mk (AB I rfl) ?_))));refine⟨?_,?_⟩
  ·refine ak.mk λbG _ bH G b1=>⟨F G,?_⟩
   refine Rw (by omega) λY J=>⟨_,rfl,?_⟩
   have j:=G.trans J;refine⟨Q j,⟨F j,?_⟩⟩;refine ak.mk λa _ S H aN=>?_
   have t:=j.trans H;exact⟨Q t,⟨F t,an a _ _ t (Ah H (Ah J bH)) S j.size⟩⟩
  ·refine Rw (by omega) λbG G=>⟨_,rfl,⟨Q G,⟨F G,⟨?_,?_⟩⟩⟩⟩
   ·refine ak.mk λY _ ap J bI=>?_
    have j:=G.trans J;refine⟨F j,ak.mk λa _ S H aN=>?_⟩;have t:=j.trans H;exact⟨Q t,⟨F t,an a _ _ t (Ah H ap) S j.size⟩⟩
   ·refine ak.mk λY _ ap J bI=>?_
    have j:=G.trans J;refine⟨Q j,⟨F j,ak.mk λa _ S H aN=>?_⟩⟩;have t:=j.trans H;exact⟨F t,an a _ _ t S (Ah H ap) G.size⟩
 refine ae.intro (λaq=>?_) (λaq=>?_)
 ·have bJ:0<r:=by have:=of_decide_eq_true aq;omega
  rcases L with⟨M,_⟩|⟨M,ai,V,o⟩
  ·omega
  simp only[Bb,AI];refine ab.mk az (by simp) λaO ar bK b2=>?_
  have ar:aO[b]? =some (J2 #[J7 (CL d),J7 ⟨#[]⟩,J3 false] AR (0,0)):=by simpa using ar
  refine nQ M ai V λb3 aP=>⟨_,_,rfl,?_⟩
  refine ab.mk (Ah aP ar) (by simp) λaQ au bL b4=>?_
  have au:aQ[b]? =some (J2 #[J7 (CL d),J7 (Jw r av),J3 false] AR (0,0)):=by simpa using au
  have bM:Ext h aO:=aA.then (bK.ai λc _ a=> .inr (by omega));refine aC aQ _ _ ((bM.trans aP).then (bL.ai λc _ a=> .inr (by omega))) au ?_;unfold Bd;rw[o];simp
 ·have bJ:r=0:=by have:=of_decide_eq_false aq;omega
  rcases L with⟨M,_,o⟩|⟨M,ai,V,o⟩
  ·refine aC V _ _ aA az ?_;unfold Bd;rw[o];simp
  ·omega
end
section
variable {A : al} {B : cI} {g h : aa} {s p bh bu : Nat} {q : Hp} {k : Nat -> Nat} {st : Db} {m : Bx} {D : Bn} {aI c nn N : Nat} {name : A2O} {aF : Nat} {f u : Nat -> Nat} {R : A2N}
def FD(a r:Nat)(name:A2O):Pr:=⟨CL a,Jw r name,false⟩
theorem Tn {mp:List Pr}{n r:Nat}{name:A2O}:Bd mp (FD n r name)=((JH mp (CL n)).2&&decide ((JH mp (CL n)).1=Jw r name)):=rfl
theorem AQe {n:Nat}{conds sl:Sl}{e l:List Pr}(E:cm g)(y:Fa B g h s q k st m D aI c nn)(j:Dg g h k s p bh bu name aF f u N)(am:n<256)(an:f n<=2147483647)(hA:aI+3<=B.A)(ao:c+64<=B.C)(ap:nn+1<=1000000)(vc:View Ba h conds e)(a9:e.length<=1000000)(v:View Ba h sl l)(aq:l≠ []-> ∀b,sl.af=some b->b<h.size/\k b=0/\b≠bh)(ar: ∀x∈e,x.key.size<=1099511627776)
  (au:f n=0->R (J6 J9 170) h)
  (av:f n≠0->Bd (CZ st) (FD n (f n) name)=false-> ∀d,Fa B g d s q k st m D aI c nn->Dg g d k s p bh bu name aF (dD f n 0) u N->Mod (λc=>h.size<=c\/c=bh) h d->R (J6 J9 170) d)
  (aw:f n≠0->Bd (CZ st) (FD n (f n) name)=true->dy (CZ st) (FD n (f n) name::e) l≠0-> ∀d,Ext h d->R (J6 J9 (dy (CZ st) (FD n (f n) name::e) l)) d)
  (ax:f n≠0->Bd (CZ st) (FD n (f n) name)=true->dy (CZ st) (FD n (f n) name::e) l=0-> ∀d F k' W ay az,F.d=q.d->F.b=q.b->Fa B g d s F k' W ay az (aI+3) (c+64) (nn+1)->CZ W=cS (CZ st) l->Dg g d k' s p bh bu name aF f u N->Mod (λc=>k c≠0\/h.size<=c\/c=s) h d->(∀ c,k' c≠0->k c≠0\/h.size<=c)->R (J6 J9 0) d):
  AA A P HY #[Ay p,J6 J9 (n:Int),J4 conds.p conds.len conds.cap,J4 sl.p sl.len sl.cap] h R:=by
 refine Yi ?_;unfold RV;refine YW j ⟨_,rfl,ae.intro (λG=>?_) (λG=>?_)⟩
 ·exact au (by simpa using G)
 have H:f n≠0:=by simpa using G
 refine aD (AJ.mk (AB j.cell rfl) ?_);refine nQ (by omega) an j.named λz aA=>⟨_,_,rfl,?_⟩
 refine Rw am λba aC=>⟨_,rfl,?_⟩
 have aE:=aA.trans aC;refine ak.pair λb bb bc X aG bd=>?_
 have I:=aE.trans aG;have aH:=j.on I;have aJ:=y.on I;refine aD (AZ.mk (AL aH.cell rfl) (AJ.mk (AL X rfl) ?_));refine qN aJ (by rw[Js];omega) λi Y=>⟨_,_,_,rfl,ae.no rfl ?_⟩
 have w:=I.trans Y;have o:=j.on w;have aK:=y.on w;have J:=Ah Y X;have be:=w.size;have bf:=y.db.mem.ext.size;refine ah.mk λK Z=>?_
 have L:=Tn (mp:=CZ st) (n:=n) (r:=f n) (name:=name);have lost:Bd (CZ st) (FD n (f n) name)=false->K (true,()) i:=λaL=>by
  refine Z _ _ (ae.yes rfl (aD (Ez.mk (AB o.cell rfl) ?_)));refine o.strike λO aM aa=>⟨rfl,?_⟩
  have Q:=o.bM bh (.inr (.inl rfl));exact av H aL O (aK.beside aa (λc a=>by subst a;exact⟨Q.1,Q.2.1⟩) λS=>Q.2.2 S.symm) aM ((w.ai λc _ a=>a.elim).trans (aa.ai λc _ a=> .inr a))
 have aN:Bd (CZ st) (FD n (f n) name)=true->K (false,()) i:=λab=>by
  refine Z _ _ (ae.no rfl (aD (AZ.mk (AL o.cell rfl) (AJ.mk (AL J rfl) (AJ.mk (AB J rfl) (Ab.mk (AB J rfl) ?_))))));refine ak.mk λO _ aO T bg=>⟨AL (Ah T o.cell) rfl,?_⟩
  have aP:Own Ba AR O ⟨some ⟨i.size,0,none⟩,1,1⟩ [FD n (f n) name]:=Own.lit (E:=Ba) (l:= [FD n (f n) name]) aO rfl (by simp[maxLen]);have ac:=w.trans T;refine GI (E:=Ba) (s:=⟨some ⟨i.size,0,none⟩,1,1⟩) (src:=conds) M.HZ aP (vc.ext ac) (by simp only[A5,Ft];omega) (by simp only[A5,Ft,maxLen];omega) λaQ ad aR af bi _=>?_
  have t:Ext h ad:=ac.then (af.ai λc _ a=> .inr (by have:i.size=c:=(by simpa [Sl.af] using a);omega));have aS:Ext i ad:=T.then (af.ai λc _ a=> .inr (by have:i.size=c:=(by simpa [Sl.af] using a);omega));have aT:=y.on t;have aU:=j.on t;refine⟨AL (Ah aS o.cell) rfl,?_⟩;have bj:=t.size;have aV: ∀x∈ [FD n (f n) name]++e,x.key.size<=1099511627776:=λx aW=>by
   rcases List.mem_append.1 aW with h|h
   ·rw[List.mem_singleton.1 h];show(CL n).size<=_;rw[Js];omega
   ·exact ar x h
  refine xo (B:=B) (conds:=aQ) (sl:=sl) E aT hA ao ap aR.view (v.ext t) (λU aX aY=>by
   have:=aq U aX aY;exact⟨by omega,this.2.1⟩) aV (λU V aZ=>⟨_,rfl,aw H ab U V (t.trans aZ)⟩) λa0 V a1 ag a2 a3 a4 a5 a6 a7 a8 ai aj=>⟨_,rfl,?_⟩
  refine ax H ab a0 V a1 ag a2 a3 a4 a5 a6 a7 a8 (aU.step (k':=ag) ai (λc a=>by
   rcases a with h|h|h
   ·exact .inl h
   ·exact .inr (.inl h)
   ·exact .inr (.inr (.inl h))) aj) ((t.ai λc _ a=>a.elim).trans (ai.ai λc _ a=>by
   rcases a with h|h|h
   ·exact .inl h
   ·exact .inr (.inl (by omega))
   ·exact .inr (.inr h))) λc a=>?_
  rcases aj c a with h|h
  ·exact .inl h
  ·exact .inr (by omega)
 refine ae.intro (λz=>?_) (λz=>?_)
 ·refine lost ?_;have S:(JH (CZ st) (CL n)).2=false:=by simpa using z
  rw[L,S];rfl
 ·have al:(JH (CZ st) (CL n)).2=true:=by simpa using z
  cases C:bS (JH (CZ st) (CL n)).1 (Jw (f n) name) with
  |true=>
   refine aN ?_;rw[Cb] at C;rw[L,al,C];rfl
  |false=>
   refine lost ?_;rw[Cb] at C;rw[L,al,C];rfl
theorem ARy {r:Nat}(h:r<=2147483647):J8 .u64 ((J8 .u64 (r:Int))*((2:Int)^(24:Nat)))=((r*16777216:Nat):Int):=by rw[Bz (by omega),show((r:Int)*(2:Int)^(24:Nat))=((r*16777216:Nat):Int) from by rw[show((2:Int)^(24:Nat))=((16777216:Nat):Int) from by decide];simp];exact Bz (by omega)
theorem qo {a b:Nat}(d:a<18446744073709551616)(e:b<18446744073709551616):dY .u64 (a:Int) (b:Int)=((a ||| b:Nat):Int):=by
 have h:a ||| b<2^64:=Ks (by simpa using d) (by simpa using e);unfold dY;have i:(BitVec.ofInt (IntKind.bits .u64) (a:Int) ||| BitVec.ofInt (IntKind.bits .u64) (b:Int)).toNat=a ||| b:=by show(BitVec.ofInt 64 (a:Int) ||| BitVec.ofInt 64 (b:Int)).toNat=a ||| b;rw[BitVec.toNat_or,BitVec.ofInt_natCast,BitVec.ofInt_natCast,BitVec.toNat_ofNat,BitVec.toNat_ofNat,Ax (by simpa using d),Ax (by simpa using e)]
 rw[i];exact Bz (by simpa using h)
theorem ARG {r x:Nat}(h:r<=2147483647)(a:x<16777216):dY .u64 ((r*16777216:Nat):Int) (x:Int)=((r*16777216+x:Nat):Int):=by rw[qo (by omega) (by omega)];congr 1;have:=A0K (i:=24) (b:=x) (by simpa using a) r;rw[show 2^24*r=r*16777216 from by rw[CT]] at this;exact this.symm
theorem AJW {a:Nat}(b:Dg g h k s p bh bu name aF f u N)(v:f a<=2147483647)(z:u a+1<16777216)(C:N+1<=1000000)
  (E:f a=0->R (.int .u64 0) h)
  (F:f a≠0-> ∀e,Dg g e k s p bh bu name aF f (dD u a (u a+1)) (N+1)->Mod (λc=>c=bu) h e->R (.int .u64 ((f a*16777216+(u a+1):Nat):Int)) e):
  AA A P GR #[Ay p,J6 J9 (a:Int)] h R:=by
 refine Ta ?_;unfold Me;refine YW b ⟨_,rfl,ae.intro (λi=>?_) (λi=>?_)⟩
 ·exact E (by simpa using i)
 have G:f a≠0:=by simpa using i
 obtain⟨H,w,M,x⟩:=b.used;obtain⟨I,J,O,j⟩:=b.held;refine aD (Ez.mk (AB b.cell rfl) ?_);refine LJ lM hU nS w ⟨_,x a,?_⟩;rw[show((u a:Nat):Int)+(1:Int)=((u a+1:Nat):Int) from by omega,Bz (by omega)];refine AIt lM hU w (by have:=b.cn;simp only[maxLen];omega) λK l n Q=>?_
 have o:=J.mod n b.ne;have d:=n.af b.cell b.mg.2;have y: ∀m:Nat,(Kr m (Ry a (.int .u64 ((u a+1:Nat):Int)) H)).getD (.int .u64 0)= .int .u64 (dD u a (u a+1) m:Int):=λm=>xq x m
 have L:dD u a (u a+1) a=u a+1:=by unfold dD;rw[if_pos rfl]
 have key:dY .u64 (J8 .u64 ((J8 .u64 (f a:Int))*((2:Int)^(24:Nat)))) ((u a+1:Nat):Int)=((f a*16777216+(u a+1):Nat):Int):=by rw[ARy v,ARG v z]
 have r:=F G K ⟨d,⟨I,o,by omega,j⟩,⟨_,l,AF WW (by omega),y⟩,b.bM,b.ne,b.named,b.sh,C⟩ n;rw[<- key] at r;have t:=y a;rw[L] at t;refine aD (Ez.mk (AB d rfl) (aD (Ez.mk (AB d rfl) ⟨?_,?_⟩)))
 ·refine LJ lL hU nR o ⟨_,j a,⟨AB d rfl,?_⟩⟩;exact LJ lM hU nS l ⟨_,t,⟨AB d rfl,r⟩⟩
 ·refine LJ lM hU nS l ⟨_,t,⟨AB d rfl,?_⟩⟩;exact LJ lL hU nR o ⟨_,j a,⟨AB d rfl,r⟩⟩
theorem Fp.laid {a:List Pr}(d:Sorted a){b r:Nat}(e:1<=r)(i:r<=2147483647)(j:Ap name=true):Fp (cS a [⟨CL b,Jw r name,false⟩]) b r name:=by refine .inr ⟨e,i,j,?_⟩;unfold JH;rw[show cS a [⟨CL b,Jw r name,false⟩]=iS a ⟨CL b,Jw r name,false⟩ from rfl,qL d,if_pos rfl,Ip];rfl
theorem Fp.other {a:List Pr}(i:Sorted a){b r:Nat}{e key val:A2O}{d:Bool}(L:Fp a b r e)(j:key≠CL b):Fp (cS a [⟨key,val,d⟩]) b r e:=by
 have l:JH (cS a [⟨key,val,d⟩]) (CL b)=JH a (CL b):=by unfold JH;rw[show cS a [⟨key,val,d⟩]=iS a ⟨key,val,d⟩ from rfl,qL i,if_neg j]
 unfold Fp;rw[l];exact L
theorem Fp.empty {a:Nat}:Fp [] a 0 ⟨#[]⟩:= .inl ⟨rfl,rfl,rfl⟩
theorem Fp.holds {a:List Pr}{b r:Nat}(L:Fp a b r name)(e:1<=r):Bd a (FD b r name)=true:=by
 rw[Tn];rcases L with⟨h,_,d⟩|⟨_,i,_,d⟩
 ·omega
 ·rw[d];simp
end
structure Hs where
 p:Nat
 bh:Nat
 bu:Nat
 name:A2O
 f:Nat->Nat
 u:Nat->Nat
def Hs.bM(x:Hs)(c:Nat):Prop:=c=x.p\/c=x.bh\/c=x.bu
structure iT (g h:aa) (k:Nat->Nat) (s sh N:Nat) (l:List Hs):Prop where
 host: ∀(i:Nat) x,l[i]? =some x->Dg g h k s x.p x.bh x.bu x.name sh x.f x.u N
 kI: ∀(i j:Nat) x y,l[i]? =some x->l[j]? =some y->i≠j-> ∀c,x.bM c-> ¬y.bM c
def LW(B:cI)(g h:aa)(s a N sh:Nat)(l:List Hs)(mp:List Pr)(O:Nat->Prop):Prop:=
 ∃(d:Hp) (b:Nat->Nat) (st:Db) (m:Bx) (e:Bn) (nn:Nat),Fa B g h s d b st m e (1+3*a) (64*a) nn/\nn<=a/\CZ st=mp/\iT g h b s sh N l/\N<=1000000/\ ∀c,O c->b c=0/\c<h.size/\g.size<=c/\c≠s/\ ∀x∈l,¬x.bM c
section
variable {A : al} {B : cI} {g h : aa} {s a N sh : Nat} {l : List Hs} {mp : List Pr} {O : Nat -> Prop} {R : A2N}
theorem iT.step {d:aa}{b k':Nat->Nat}{e:Nat->Prop}(f:iT g h b s sh N l)(k:Mod e h d)(m: ∀c,e c->b c≠0\/h.size<=c\/c=s\/ ∀x∈l,¬x.bM c)(n: ∀c,k' c≠0->b c≠0\/h.size<=c):iT g d k' s sh N l:=
 ⟨λi x j=>(f.host i x j).step k (λc o=>by
  rcases m c o with h|h|h|h
  ·exact .inl h
  ·exact .inr (.inl h)
  ·exact .inr (.inr (.inl h))
  ·exact .inr (.inr (.inr (h x (AK j))))) n,f.kI⟩
theorem iT.set {h':aa}{k m:Nat->Nat}{S:Nat->Prop}{i j:Nat}{x x':Hs}(n:iT g h k s sh N l)(o:l[i]? =some x)(v:Mod S h h')(w: ∀c,S c->k c≠0\/h.size<=c\/c=s\/x.bM c)(y: ∀c,m c≠0->k c≠0\/h.size<=c)(z:Dg g h' m s x'.p x'.bh x'.bu x'.name sh x'.f x'.u j)(same: ∀c,x'.bM c↔x.bM c)(q:N<=j/\j<=1000000):iT g h' m s sh j (l.set i x'):=by
 have r:=(List.getElem?_eq_some_iff.1 o).1;refine⟨λd e b=>?_,λC D P Q E F G c p=>?_⟩
 ·by_cases f:i=d
  ·subst f;rw[HJ r] at b;cases b;exact z
  ·rw[Kd f] at b;refine((n.host d e b).step v (λc p=>?_) y).more q.1 q.2;rcases w c p with h|h|h|h
   ·exact .inl h
   ·exact .inr (.inl h)
   ·exact .inr (.inr (.inl h))
   ·exact .inr (.inr (.inr (n.kI i d x e o b f c h)))
 ·have t: ∀ {d:Nat} {e:Hs},(l.set i x')[d]? =some e-> ∃u,l[d]? =some u/\ ∀c,e.bM c↔u.bM c:=λ{d e} b=>by
   by_cases f:i=d
   ·subst f;rw[HJ r] at b;cases b;exact⟨x,o,same⟩
   ·rw[Kd f] at b;exact⟨e,b,λ_=>Dd⟩
  obtain⟨H,I,J⟩:=t E;obtain⟨K,L,M⟩:=t F;exact λh=>n.kI C D H K I L G c ((J c).1 p) ((M c).1 h)
theorem LW.ext(b:LW B g h s a N sh l mp O):Ext g h:=by obtain⟨d,e,st,m,f,nn,c,_⟩:=b;exact c.db.mem.ext
theorem LW.sorted(b:LW B g h s a N sh l mp O):Sorted mp:=by obtain⟨d,e,st,m,D,nn,c,_,rfl,_⟩:=b;exact c.db.sorted
theorem LW.own {e:aa}{O':Nat->Prop}(k:LW B g h s a N sh l mp O)(f:Mod O h e)(n: ∀c,O' c->O c\/(h.size<=c/\c<e.size)):LW B g e s a N sh l mp O':=by
 obtain⟨o,p,st,m,q,nn,d,r,t,j,u,out⟩:=k;have H:=d.db.mem.ext.size;have I:=f.size;have J:=d.lt;refine⟨o,p,st,m,q,nn,d.beside f (λc b=>⟨(out c b).1,(out c b).2.2.1⟩) (λh=>(out s h).2.2.2.1 rfl),r,t,j.step f (λc b=> .inr (.inr (.inr (out c b).2.2.2.2))) (λc b=> .inl b),u,λc b=>?_⟩;rcases n c b with h|⟨v,w⟩
 ·obtain⟨y,K,z,C,D⟩:=out c h;exact⟨y,by omega,z,C,D⟩
 ·refine⟨d.db.free v,w,by omega,by omega,λx E F=>?_⟩;obtain⟨i,G⟩:=G3 E;have:=(j.host i x G).lt c F;omega
theorem LW.on {b:aa}(d:LW B g h s a N sh l mp O)(x:Ext h b):LW B g b s a N sh l mp O:=d.own (x.ai λ_ _ h=>h.elim) λc e=> .inl e
theorem LW.less {O':Nat->Prop}(b:LW B g h s a N sh l mp O)(d: ∀c,O' c->O c):LW B g h s a N sh l mp O':=by obtain⟨e,f,st,m,i,nn,j,k,n,o,p,out⟩:=b;exact⟨e,f,st,m,i,nn,j,k,n,o,p,λc q=>out c (d c q)⟩
theorem LW.put {b c:Nat}(W:LW B g h s a N sh l mp O)(t:a<=b)(f:64*b<=B.C)(j:N<=c)(d:c<=1000000):LW B g h s b c sh l mp O:=by obtain⟨k,n,st,m,o,nn,p,u,q,e,v,out⟩:=W;exact⟨k,n,st,m,o,nn,p.put (by omega) (by omega) f,by omega,q,⟨λi x r=>(e.host i x r).more j d,e.kI⟩,d,out⟩
abbrev bO(g:aa)(O:Nat->Prop):Nat->Prop:=λc=>g.size<=c/\ ¬O c
theorem LW.dF {b:aa}{w:Nat->Prop}{i a' e nn o:Nat}{x x':Hs}{J y:Hp}{d f:Nat->Nat}{st p:Db}{m z:Bx}{K C:Bn}(j:Fa B g h s J d st m K (1+3*a) (64*a) nn)(D:iT g h d s sh N l)(out: ∀c,O c->d c=0/\c<h.size/\g.size<=c/\c≠s/\ ∀x∈l,¬x.bM c)
  (q:l[i]? =some x) (L:Fa B g b s y f p z C (1+3*a') (64*a') o) (M:o<=a') (r:Mod w h b) (t: ∀c,w c->d c≠0\/h.size<=c\/c=s\/x.bM c) (E: ∀c,f c≠0->d c≠0\/h.size<=c) (P:Dg g b f s x'.p x'.bh x'.bu x'.name sh x'.f x'.u e) (same: ∀c,x'.bM c↔x.bM c) (F:N<=e/\e<=1000000):
  LW B g b s a' e sh (l.set i x') (CZ p) O/\Mod (bO g O) h b:=by
 have W:=j.db.mem.ext.size;have X:=j.lt;have Y:=r.size;have G:=AK q;refine⟨⟨y,f,p,z,C,o,L,M,rfl,D.set q r t E P same F,F.2,λc k=>?_⟩,r.ai λc Z k=>⟨?_,λQ=>?_⟩⟩
 ·obtain⟨u,S,H,v,n⟩:=out c k;refine⟨Decidable.byContradiction λT=>?_,by omega,H,v,λU V I=>?_⟩
  ·rcases E c T with h|h
   ·exact h u
   ·omega
  ·rcases Vc V with h|rfl
   ·exact n U h I
   ·exact n x G ((same c).1 I)
 ·rcases t c k with h|h|h|h
  ·exact(j.db.mem.own c h).1
  ·omega
  ·have:=j.base;omega
  ·exact((D.host i x q).bM c h).2.1
 ·obtain⟨u,S,H,v,n⟩:=out c Q;rcases t c k with h|h|h|h
  ·exact h u
  ·omega
  ·exact v h
  ·exact n x G h
theorem LW.start {b:Nat}{Sb:Nat->Prop}{m:Bx}(k:cm g)(n:Cm h b Sb m)(d:Ext g h)(o: ∀c,Sb c->g.size<=c)(hd:m.down=false)(p:m.fuel= -1)(q: ∀f,ff m (aC nl f)=none)(r: ∀f,ff m (aC nn f)=none)(t: ∀x,ff m x≠none->(bl x).head? ≠some 116)(hA:1<=B.A)(u:bg m.files<=B.W0)
  (v: ∀e s,LW B g e s 0 0 sh [] [] (λ_=>False)->Ext g e->h.size<=s->R (J1 #[Ay s,J6 J9 0]) e):AA A P RD #[Ay b] h R:=
 ALe (B:=B) k n d o hd p q r t hA u λe s w y z C D G j mp H I E=>v e s ⟨w,y,z,C,D,0,j,A0 _,mp,⟨λi x d=>by simp at d,λi J x K d=>by simp at d⟩,by omega,λc F=>F.elim⟩ j.db.mem.ext E
theorem LW.host {name:A2O}(E:LW B g h s a N sh l mp O)(F:Ap name=true)(G:1<=sh/\sh<=16)
  (H: ∀j p k n,LW B g j s a N sh (l++ [⟨p,k,n,name,λ_=>0,λ_=>0⟩]) mp O->Ext h j->R (J1 #[Ay p,J6 J9 0]) j):AA A P Oq #[Ay s,J7 name,J6 J9 (sh:Int)] h R:=by
 obtain⟨I,J,st,m,K,nn,v,L,M,o,w,out⟩:=E;refine APR v F G λj p k n Q fresh x=>H j p k n ⟨I,J,st,m,K,nn,v.on x,L,M,⟨λi d b=>?_,λi e y z S T U c f t=>?_⟩,w,λc f=>?_⟩ x
 ·rw[List.getElem?_append] at b;split at b
  ·exact(o.host i d b).on x
  ·rw[A0U] at b;split at b
   ·cases b;exact Q.more (As _) w
   ·cases b
 ·have C: ∀ {e:Nat} {d:Hs},(l++ [⟨p,k,n,name,λ_=>0,λ_=>0⟩])[e]? =some d->(e<l.length/\l[e]? =some d)\/(e=l.length/\ ∀c,d.bM c->h.size<=c):=λ{e d} b=>by
   rw[List.getElem?_append] at b;split at b
   ·rename_i D;exact .inl ⟨D,b⟩
   ·rename_i D;rw[A0U] at b;split at b
    ·rename_i ab;cases b;exact .inr ⟨by omega,λc f=>(fresh c f).1⟩
    ·cases b
  rcases C S with⟨V,q⟩|⟨V,q⟩<;>rcases C T with⟨W,r⟩|⟨W,r⟩
  ·exact o.kI i e y z q r U c f t
  ·have:=(o.host i y q).lt c f;have:=r c t;omega
  ·have:=(o.host e z r).lt c t;have:=q c f;omega
  ·omega
 ·obtain⟨X,ac,Y,Z,aa⟩:=out c f;have:=x.size;refine⟨X,by omega,Y,Z,λd b u=>?_⟩;rcases List.mem_append.1 b with h|h
  ·exact aa d h u
  ·rw[List.mem_singleton.1 h] at u;have:=(fresh c u).1;omega
def Hs.lQ(x:Hs)(b r:Nat):Hs:= {x with f:=dD x.f b r,u:=dD x.u b 0}
def Hs.lost(x:Hs)(b:Nat):Hs:= {x with f:=dD x.f b 0}
def Hs.j6(x:Hs)(b:Nat):Hs:= {x with u:=dD x.u b (x.u b+1)}
theorem LW.holds {i b:Nat}{x:Hs}(c:LW B g h s a N sh l mp O)(d:l[i]? =some x)(e:R (J6 J9 (x.f b:Int)) h):AA A P Dp #[Ay x.p,J6 J9 (b:Int)] h R:=by obtain⟨j,k,st,m,n,nn,o,p,q,f,r,out⟩:=c;exact YW (f.host i x d) e
theorem LW.acquire {i b r:Nat}{x:Hs}{nm:A2O}(n:cm g)(o:LW B g h s a N sh l mp O)(e:l[i]? =some x)(p:b<sh)(L:Fp mp b r nm)(q:r+1<=2147483647)(hA:4+3*a<=B.A)(E:64*a+64<=B.C)(F:a+1<=1000000)(f:N+1<=1000000)
  (t: ∀d,LW B g d s (a+1) (N+1) sh (l.set i (x.lQ b (r+1))) (cS mp [⟨CL b,Jw (r+1) x.name,false⟩]) O->Mod (bO g O) h d->R (J1 #[J6 J9 ((r+1:Nat):Int),J6 J9 0]) d):
  AA A P Ej #[Ay x.p,J6 J9 (b:Int)] h R:=by
 obtain⟨G,H,st,m,I,nn,j,J,rfl,k,K,out⟩:=o;have u:=k.host i x e;refine AHw n j u p L q (by omega) (by omega) (by omega) f λd M Q S T U V W v w y z C=>?_
 have:=LW.dF (x':=x.lQ b (r+1)) (a':=a+1) j k out e (v.put (by omega) (by omega) (by omega)) (by omega) z (λc D=>by
  rcases D with h|h|h|h|h
  ·exact .inl h
  ·exact .inr (.inl h)
  ·exact .inr (.inr (.inl h))
  ·exact .inr (.inr (.inr (.inr (.inl h))))
  ·exact .inr (.inr (.inr (.inr (.inr h))))) C y (λ_=>Dd) ⟨BY _,f⟩
 rw[w] at this;exact t d this.1 this.2
theorem LW.number {i b:Nat}{x:Hs}(r:LW B g h s a N sh l mp O)(j:l[i]? =some x)(t:x.f b<=2147483647)(u:x.u b+1<16777216)(k:N+1<=1000000)
  (v:x.f b=0->R (.int .u64 0) h)
  (w:x.f b≠0-> ∀d,LW B g d s a (N+1) sh (l.set i (x.j6 b)) mp O->Mod (bO g O) h d->R (.int .u64 ((x.f b*16777216+(x.u b+1):Nat):Int)) d):
  AA A P GR #[Ay x.p,J6 J9 (b:Int)] h R:=by
 obtain⟨E,F,st,m,G,nn,n,y,rfl,o,H,out⟩:=r;have p:=o.host i x j;refine AJW p t u k v λz d C q=>?_
 have f:=p.bM x.bu (.inr (.inr rfl));have:=LW.dF (x':=x.j6 b) n o out j (n.beside q (λc e=>by subst e;exact⟨f.1,f.2.1⟩) λD=>f.2.2 D.symm) y q (λc e=> .inr (.inr (.inr (.inr (.inr e))))) (λc e=> .inl e) C (λ_=>Dd) ⟨BY _,k⟩;exact w z d this.1 this.2
theorem LW.change {i d:Nat}{x:Hs}{conds sl:Sl}{f lp:List Pr}(z:cm g)(C:LW B g h s a N sh l mp O)(j:l[i]? =some x)(D:d<256)(E:x.f d<=2147483647)(hA:4+3*a<=B.A)(ab:64*a+64<=B.C)(ac:a+1<=1000000)(vc:View Ba h conds f)(F:f.length<=1000000)(v:View Ba h sl lp)(G:lp≠ []-> ∀b,sl.af=some b->b<g.size\/O b)(H: ∀x∈f,x.key.size<=1099511627776)
  (I:x.f d=0->R (J6 J9 170) h)
  (J:x.f d≠0->Bd mp (FD d (x.f d) x.name)=false-> ∀e,LW B g e s a N sh (l.set i (x.lost d)) mp O->Mod (bO g O) h e->R (J6 J9 170) e)
  (K:x.f d≠0->Bd mp (FD d (x.f d) x.name)=true->dy mp (FD d (x.f d) x.name::f) lp≠0-> ∀e,Ext h e->R (J6 J9 (dy mp (FD d (x.f d) x.name::f) lp)) e)
  (L:x.f d≠0->Bd mp (FD d (x.f d) x.name)=true->dy mp (FD d (x.f d) x.name::f) lp=0-> ∀e,LW B g e s (a+1) N sh l (cS mp lp) O->Mod (bO g O) h e->R (J6 J9 0) e):
  AA A P HY #[Ay x.p,J6 J9 (d:Int),J4 conds.p conds.len conds.cap,J4 sl.p sl.len sl.cap] h R:=by
 obtain⟨ad,ae,st,m,af,nn,k,M,rfl,o,w,out⟩:=C;have y:=o.host i x j;have ag:=k.db.mem.ext.size;refine AQe z k y D E (by omega) (by omega) (by omega) vc F v (λQ b S=>?_) H I (λp T e q r t=>?_) K λp U V e ah ai aj ak al am an q W r t X=>?_
 ·rcases G Q b S with h|h
  ·refine⟨by omega,k.db.base h,?_⟩;have:=(y.bM x.bh (.inr (.inl rfl))).2.1;omega
  ·obtain⟨Y,Z,ao,ap,aa⟩:=out b h;exact⟨Z,Y,λu=>aa x (AK j) (.inr (.inl u))⟩
 ·have:=LW.dF (x':=x.lost d) k o out j q M t (λc n=>by
   rcases n with h|h
   ·exact .inr (.inl h)
   ·exact .inr (.inr (.inr (.inr (.inl h))))) (λc n=> .inl n) r (λ_=>Dd) ⟨A0 _,w⟩
  exact J p T e this.1 this.2
 ·have:=LW.dF (x':=x) (a':=a+1) k o out j (q.put (by omega) (by omega) (by omega)) (by omega) t (λc n=>by
   rcases n with h|h|h
   ·exact .inl h
   ·exact .inr (.inl h)
   ·exact .inr (.inr (.inl h))) X r (λ_=>Dd) ⟨A0 _,w⟩
  rw[W,show l.set i x=l from by
   obtain⟨aq,u⟩:=List.getElem?_eq_some_iff.1 j;rw[<- u,Pa]] at this
  exact L p U V e this.1 this.2
end
abbrev dd:=A2O->Option (List Ev)
abbrev du:=A2O->Option (List UInt8×Int×Int)
def Bj(l:List Ev):ba:=(ES Rf l).getD Rf
structure Sv (l:List Ev):Prop where
 ne:l≠ []
 len:l.length<=500
 ok:ES Rf l=some (Bj l)
 st:0<=(Bj l).status/\(Bj l).status<=4
theorem Sv.next {l:List Ev}(b:Sv l):(Bj l).next=l.length+1/\ ∀(i:Nat) (a:Ev),l[i]? =some a->a.id=i+1/\Ed a=true:=uH b.ok b.ne
def RX(wid:A2O)(l:List Ev):List Pr:=l.map (OQ wid)
def R6(wid:A2O)(l:List Ev):Pr:=⟨KX wid,Pe (Bj l).status.toNat (Bj l).next.toNat false,false⟩
def XM(a:A2O)(x:List UInt8×Int×Int):Pr:=⟨MQ a,iP x.1 x.2.1.toNat x.2.2.toNat,false⟩
structure Jl (mp:List Pr) (fl:dd) (an:du):Prop where
 cF: ∀wid,Ap wid=true-> ∀k,hG (VY wid) k=true->Ae k mp=Ae k (RX wid ((fl wid).getD []))
 hZ: ∀wid,Ap wid=true->Ae (KX wid) mp=(fl wid).map (R6 wid)
 jG: ∀aX,Ap aX=true->Ae (MQ aX) mp=(an aX).map (XM aX)
 dX: ∀wid l,fl wid=some l->Sv l
 jH: ∀aX x,an aX=some x->(0<=x.2.1/\x.2.1<=4)/\(0<=x.2.2/\x.2.2<=501)/\x.1.length<=2000
theorem FY {s:A2O}(a:Ap s=true):s.size<=16:=(Gz.1 a).2.1
theorem QJ {wid:A2O}{l:List Ev}{i:Nat}{p:Pr}(b:(RX wid l)[i]? =some p): ∃a,l[i]? =some a/\p=OQ wid a:=by unfold RX at b;rw[Bs] at b;obtain⟨a,c,rfl⟩:=Option.map_eq_some_iff.1 b;exact⟨a,c,rfl⟩
theorem Pb {wid:A2O}{l:List Ev}(b: ∀(i:Nat) (a:Ev),l[i]? =some a->a.id=i+1/\Ed a=true){i:Nat}{a:Ev}(c:l[i]? =some a):(OQ wid a).key=dV wid (i+1):=by unfold OQ;rw[(b i a c).1];rfl
theorem V8 {wid:A2O}{l:List Ev}(j:l.length<=500)(c: ∀(i:Nat) (a:Ev),l[i]? =some a->a.id=i+1/\Ed a=true):Sorted (RX wid l):=by unfold Sorted;rw[List.pairwise_iff_getElem];intro i k d b m;obtain⟨a,e,f⟩:=QJ (A2 d);obtain⟨n,g,h⟩:=QJ (A2 b);rw[f,h,Pb c e,Pb c g];unfold RX at b;rw[By] at b;exact lA (by omega) (by omega)
theorem my {q:A2O->Bool}{a:A2O}: ∀ {l:List Pr},Ae a (l.filter λx=>q x.key)=if q a=true then Ae a l else none
 | []=>by simp[M.Ti]
 |x::l=>by
  rw[B9];by_cases b:x.key=a
  ·subst b;split
   ·rw[M.BC,M.BC,if_pos rfl,if_pos rfl]
   ·rename_i c;rw[my,if_neg c]
  ·split
   ·rw[M.BC,if_neg b,my,M.BC,if_neg b]
   ·rw[my,M.BC,if_neg b]
theorem yR {a:A2O}{b:Nat}{l:List Pr}(c: ∀x∈l.take b,x.key≠a):Ae a (l.drop b)=Ae a l:=by
 conv=>rhs;rw[<- DM b l]
 rw[M.NL,M.ER c,LN]
theorem yS {k:List Pr}{p:dd}{u:du}{wid:A2O}{l:List Ev}{e:Nat}(s:Sorted k)(m:Jl k p u)(v:Ap wid=true)(n:p wid=some l)(A:e<=l.length):
  kp k (VY wid) (dV wid (e+1)) 32=((RX wid l).drop e).take 32:=by
 have h:=(m.dX wid l n).next.2;have w:=(m.dX wid l n).len;unfold kp;rw[show(32:Int).toNat=32 from rfl];congr 1;refine Sorted.ext (s.sublist Hc) ((V8 w h).sublist (List.drop_sublist _ _)) λc=>?_
 rw[my (q:=λc=>hG (VY wid) c&& !aN c (dV wid (e+1)))];by_cases j:hG (VY wid) c=true
 ·rw[j,Fk];have r:=m.cF wid v c j;rw[n,IN] at r;by_cases f:aN c (dV wid (e+1))=true
  ·rw[f,if_neg (by simp)]
   symm
   refine M.ER λx g b=>?_
   obtain⟨i,a⟩:=G3 g;rw[Bm] at a;obtain⟨t,d,rfl⟩:=QJ a;rw[Pb h d] at b;subst b;have y:=(List.getElem?_eq_some_iff.1 d).1;by_cases z:i=0
   ·subst z;rw[G4,Bq] at f;cases f
   ·have:=NU f;rw[lA (by omega) (by omega)] at this;cases this
  ·have o:aN c (dV wid (e+1))=false:=by simpa using f
   rw[o,if_pos (by rfl),r]
   symm
   refine yR λx g b=>?_
   obtain⟨i,a⟩:=G3 g;rw[Fl] at a;split at a
   ·rename_i B;obtain⟨t,d,rfl⟩:=QJ a;have y:=(List.getElem?_eq_some_iff.1 d).1;rw[Pb h d] at b;subst b;rw[lA (by omega) (by omega)] at o;cases o
   ·cases a
 ·rw[if_neg (by simp[j])]
  symm
  refine M.ER λx g b=>?_
  obtain⟨i,a⟩:=G3 g;rw[Bm] at a;obtain⟨t,d,rfl⟩:=QJ a;rw[Pb h d] at b;subst b;exact j (uJ wid _)
theorem Ky {a:A2O}{b m:List Pr}(s:Sorted m)(c: ∀d∈b,d.key≠a):Ae a (cS m b)=Ae a m:=by rw[XA a s,M.ER λx e=>c x (List.mem_reverse.1 e)]
theorem mz {b m:List Pr}(s:Sorted m){p:Pr}(d:p∈b)(e: ∀a∈b,a.key=p.key->a=p):Ae p.key (cS m b)=if p.gone then none else some p:=by
 rw[XA p.key s];cases c:Ae p.key b.reverse with
 |none=>
  exfalso;unfold Ae at c;rw[HD] at c;have:=c p (List.mem_reverse.2 d);simp at this
 |some a=>
  obtain⟨f,g⟩:=M.NT c;obtain rfl:=e a (List.mem_reverse.1 g) f;show alive (some a)=_;rw[Ip]
def dE {a:Type}(f:A2O->Option a)(c:A2O)(x:a):A2O->Option a:=λb=>if b=c then some x else f b
theorem Gl {a:Type}{f:A2O->Option a}{k:A2O}{x:a}:dE f k x k=some x:=if_pos rfl
theorem QL {b:Type}{f:A2O->Option b}{c a:A2O}{x:b}(d:a≠c):dE f c x a=f a:=if_neg d
def oQ {a:Type}(f:A2O->Option a):Option (A2O×a)->A2O->Option a
 |none=>f
 |some (b,x)=>dE f b x
structure fA (b:List Pr) (o:Option (A2O×(List UInt8×Int×Int))):Prop where
 fi: ∀p∈b,(CY p.key≠104/\CY p.key≠119/\CY p.key≠114)\/ ∃r x,o=some (r,x)/\p=XM r x
 has: ∀r x,o=some (r,x)->XM r x∈b/\Ap r=true/\(0<=x.2.1/\x.2.1<=4)/\(0<=x.2.2/\x.2.2<=501)/\x.1.length<=2000
theorem Jl.land {F b:List Pr}{g:dd}{A:du}{wid:A2O}{more:List Ev}{t:Option (A2O×(List UInt8×Int×Int))}(o:Jl F g A)(s:Sorted F)(G:Ap wid=true)
  (n:Sv ((g wid).getD []++more)) (B:fA b t):
  Jl (cS F (more.map (OQ wid)++([R6 wid ((g wid).getD []++more)]++b))) (dE g wid ((g wid).getD []++more)) (oQ A t):=by
 have N:=n.next.2;have P:=n.len;have u: ∀p∈b,CY p.key≠104/\CY p.key≠119:=λp C=>by
  rcases B.fi p C with a|⟨r,x,_,rfl⟩
  ·exact⟨a.1,a.2.1⟩
  ·exact⟨by show CY (MQ r)≠104;rw[MH];decide,by show CY (MQ r)≠119;rw[MH];decide⟩
 have rowAt: ∀e∈more,∃i:Nat,((g wid).getD []++more)[i]? =some e/\(OQ wid e).key=dV wid (i+1):=λe Q=>by
  obtain⟨i,v⟩:=G3 Q;have:((g wid).getD []++more)[((g wid).getD []).length+i]? =some e:=by rw[DB (by omega),UP];exact v
  exact⟨_,this,Pb N this⟩
 refine⟨λd w D y=>?_,λd w=>?_,λr O=>?_,λd l E=>?_,λr x k=>?_⟩
 ·have j:=qk y;by_cases e:d=wid
  ·subst e;rw[Gl,IN];by_cases H: ∃p∈more.map (OQ d),p.key=D
   ·obtain⟨p,C,rfl⟩:=H;obtain⟨m,z,rfl⟩:=List.mem_map.1 C;obtain⟨i,v,R⟩:=rowAt m z;have S:OQ d m∈RX d ((g d).getD []++more):=List.mem_map.2 ⟨m,AK v,rfl⟩;rw[Sorted.find (V8 P N) S,mz s (HE _ C) (λf h c=>?_)]
    ·rfl
    ·rcases List.mem_append.1 h with a|a
     ·obtain⟨T,U,rfl⟩:=List.mem_map.1 a;obtain⟨V,I,W⟩:=rowAt T U;have Z:=(List.getElem?_eq_some_iff.1 v).1;have aa:=(List.getElem?_eq_some_iff.1 I).1;rw[R,W] at c;have:=(AOj (FY G) (FY G) (by omega) (by omega) c).2;have:V=i:=by omega
      subst this;rw[v] at I;cases I;rfl
     ·rcases List.mem_append.1 a with a|a
      ·rw[List.mem_singleton.1 a] at c;rw[<- c] at j;rw[show CY (R6 d ((g d).getD []++more)).key=119 from Gh d] at j;exact absurd j (by decide)
      ·exact absurd (by rw[c];exact j) (u f a).1
   ·rw[Ky s λf h c=>?_,o.cF d w D y]
    ·unfold RX;rw[CH,M.NL,M.ER (l:=more.map (OQ d)) λx k X=>H ⟨x,k,X⟩];cases Ae D (List.map (OQ d) ((g d).getD []))<;>rfl
    ·rcases List.mem_append.1 h with a|a
     ·exact H ⟨f,a,c⟩
     ·rcases List.mem_append.1 a with a|a
      ·rw[List.mem_singleton.1 a] at c;rw[<- c] at j;rw[show CY (R6 d ((g d).getD []++more)).key=119 from Gh d] at j;exact absurd j (by decide)
      ·exact absurd (by rw[c];exact j) (u f a).1
  ·rw[QL e,Ky s λf h c=>?_,o.cF d w D y];rcases List.mem_append.1 h with a|a
   ·obtain⟨m,z,rfl⟩:=List.mem_map.1 a;rw[<- c] at y;exact e (uK (FY w) (FY G) y)
   ·rcases List.mem_append.1 a with a|a
    ·rw[List.mem_singleton.1 a] at c;rw[<- c] at j;rw[show CY (R6 wid ((g wid).getD []++more)).key=119 from Gh wid] at j;exact absurd j (by decide)
    ·exact absurd (by rw[c];exact j) (u f a).1
 ·by_cases e:d=wid
  ·subst e;rw[Gl];refine(mz (p:=R6 d ((g d).getD []++more)) s (by simp) λf h c=>?_).trans rfl;rcases List.mem_append.1 h with a|a
   ·obtain⟨m,z,rfl⟩:=List.mem_map.1 a;have:=congrArg CY c;rw[show CY (OQ d m).key=104 from nw _ _,show CY (R6 d ((g d).getD []++more)).key=119 from Gh d] at this;exact absurd this (by decide)
   ·rcases List.mem_append.1 a with a|a
    ·exact List.mem_singleton.1 a
    ·exact absurd ((congrArg CY c).trans (Gh d)) (u f a).2
  ·rw[QL e,Ky s λf h c=>?_,o.hZ d w];rcases List.mem_append.1 h with a|a
   ·obtain⟨m,z,rfl⟩:=List.mem_map.1 a;have:=congrArg CY c;rw[show CY (OQ wid m).key=104 from nw _ _,Gh] at this;exact absurd this (by decide)
   ·rcases List.mem_append.1 a with a|a
    ·rw[List.mem_singleton.1 a] at c;exact e (ALz c).symm
    ·exact absurd ((congrArg CY c).trans (Gh d)) (u f a).2
 ·have no: ∀f∈more.map (OQ wid)++([R6 wid ((g wid).getD []++more)]++b),f.key=MQ r-> ∃x,t=some (r,x)/\f=XM r x:=λf h c=>by
   have n:=(congrArg CY c).trans (MH r);rcases List.mem_append.1 h with a|a
   ·obtain⟨m,z,rfl⟩:=List.mem_map.1 a;rw[show CY (OQ wid m).key=104 from nw _ _] at n;exact absurd n (by decide)
   ·rcases List.mem_append.1 a with a|a
    ·rw[List.mem_singleton.1 a,show CY (R6 wid ((g wid).getD []++more)).key=119 from Gh wid] at n;exact absurd n (by decide)
    ·rcases B.fi f a with a|⟨q,x,Y,rfl⟩
     ·exact absurd n a.2.2
     ·have:q=r:=uL c;subst this;exact⟨x,Y,rfl⟩
  cases t with
  |none=>
   rw[Ky s λf h c=>?_,o.jG r O]
   ·rfl
   ·obtain⟨x,k,_⟩:=no f h c;cases k
  |some J=>
   obtain⟨q,x⟩:=J;show _=(dE A q x r).map (XM r);by_cases e:r=q
   ·subst e;rw[Gl];refine(mz (p:=XM r x) s ?_ λf h c=>?_).trans rfl
    ·exact IS _ (IS _ (B.has r x rfl).1)
    ·obtain⟨K,L,rfl⟩:=no f h c;cases L;rfl
   ·rw[QL e,Ky s λf h c=>?_,o.jG r O];obtain⟨K,L,_⟩:=no f h c;cases L;exact e rfl
 ·by_cases e:d=wid
  ·subst e;rw[Gl] at E;cases E;exact n
  ·rw[QL e] at E;exact o.dX d l E
 ·cases t with
  |none=>exact o.jH r x k
  |some J=>
   obtain⟨q,K⟩:=J;have k:dE A q K r=some x:=k;by_cases e:r=q
   ·subst e;rw[Gl] at k;cases k;exact(B.has r x rfl).2.2
   ·rw[QL e] at k;exact o.jH r x k
theorem Jl.aY {g b:List Pr}{j:dd}{k:du}(a:Jl g j k)(s:Sorted g)(h: ∀p∈b,CY p.key≠104/\CY p.key≠119/\CY p.key≠114):Jl (cS g b) j k:=by
 refine⟨λf i m l=>?_,λf i=>?_,λr n=>?_,a.dX,a.jH⟩
 ·rw[Ky s λc d e=>(h c d).1 (by rw[e];exact qk l)];exact a.cF f i m l
 ·rw[Ky s λc d e=>(h c d).2.1 (by rw[e];exact Gh f)];exact a.hZ f i
 ·rw[Ky s λc d e=>(h c d).2.2 (by rw[e];exact MH r)];exact a.jG r n
theorem Jl.empty:Jl [] (λ_=>none) (λ_=>none):=
 ⟨λb _ c _=>rfl,λb _=>rfl,λr _=>rfl,λb l a=>(by cases a),λr x a=>(by cases a)⟩
theorem vU(a b:Nat):((a:Nat):Int).tmod ((b:Nat):Int)=((a % b:Nat):Int):=by rw[Int.tmod_eq_emod_of_nonneg (by omega)];rfl
theorem ae.and {b:Bool}{a c:Prop}(d:b=true->a)(e:b=false->c):ae b a c:=ae.intro d e
theorem KC {s:A2O}(a:s.size<18446744073709551616):(BR (bl s)).length<=10+s.size:=by have:=AV a;simp only[BR,A1,BA];omega
theorem vV {x:bP}(a:MF x=true):0<=x.kind/\x.kind<=3/\(x.kind=1\/x.kind=2\/x.kind=3)/\x.name.size<=16/\x.aL.size<=16/\0<=x.tries/\x.tries<=5/\0<=x.aw/\x.aw<=5/\0<=x.wait/\x.wait<=1000:=by
 have d: ∀ {s:A2O},Ap s=true->s.size<=16:=λa=>(Gz.1 a).2.1
 have z:Gw.size=0:=rfl;unfold MF at a;split at a
 ·rename_i e;simp only[A3,Cl,decide_eq_true_eq,BX] at a;obtain⟨⟨⟨g,h⟩,l⟩,m⟩:=a;have:=d h;rcases g with⟨b,c⟩|⟨b,c⟩
  ·rw[b];omega
  ·have:=d b;omega
 ·split at a
  ·rename_i i e;simp only[A3,decide_eq_true_eq,BX] at a;obtain⟨⟨⟨⟨b,c⟩,j⟩,k⟩,f⟩:=a;rw[b,c];omega
  ·split at a
   ·rename_i i n e;simp only[A3,decide_eq_true_eq] at a;obtain⟨⟨⟨⟨b,c⟩,j⟩,k⟩,f⟩:=a;have:=d f;rw[b];omega
   ·cases a
theorem AIc {x:bP}(a:MF x=true):(Gi x).length<=100:=by
 obtain⟨b,c,d,e,f,g,h,i,j,k,l⟩:=vV a;have m:=AV (n:=x.kind.toNat) (by omega);have o:=AV (n:=x.tries.toNat) (by omega);have p:=AV (n:=x.aw.toNat) (by omega);have q:=AV (n:=x.wait.toNat) (by omega);have r:=KC (s:=x.name) (by omega);have t:=KC (s:=x.aL) (by omega);unfold Gi;rw[A1];split
 ·simp only[A1];omega
 ·split<;>omega
theorem Oa: ∀ {l:List bP},l.all MF=true->(l.flatMap Gi).length<=l.length*100
 | [],_=>by simp
 |x::l,a=>by
  simp only[MY,A3] at a;have b:=AIc a.1;have c:=Oa a.2;simp only[AH,A1,A5];omega
def Wm(p:cA):J0:=J1 #[J7 (AX (if Fb p then CP p else [])),J6 J9 (if Fb p then 0 else 130)]
section
variable {A : al} {h : aa} {R : A2N}
theorem AIk {l:List Ev}{sl:Sl}{t:ba}(v:View fW h sl l)(av:l.length<=500)(hd: ∀f∈l,f.data.size<1099511627776)(V:ES Rf l=some t)
  (W: ∀y a b c,Ext h y->Ia y t a b c->(∀ x,a.af=some x\/b.af=some x\/c.af=some x->h.size<=x)->R (J1 #[(t.V a b c).v,J6 J9 0,J6 J9 0]) y):
  AA A P O8 #[J4 sl.p sl.len sl.cap] h R:=by
 refine ABe ?_;unfold Us;refine ak.mk λaw _ X Y E=>ak.mk λax _ F G ay=>?_
 rw[E] at F;rw[E];have Z:=Y.trans G;have aa: ∀x,(⟨none,0,0⟩:Sl).af=some x\/(⟨none,0,0⟩:Sl).af=some x\/(⟨none,0,0⟩:Sl).af=some x->h.size+2<=x:=λx d=>by simp[Sl.af] at d
 refine Loop.rule (λm x k=> ∃(i:Nat) (s:ba) (a b c:Sl),x=((i:Int),())/\m=l.length-i/\i<=l.length/\Ext h k/\k[h.size]? =some (J2 bF.z.c Aq (0,0))/\k[h.size+1]? =some (J2 (s.V a b c).c Aq (0,0))/\
   Ia k s a b c/\(∀ x,a.af=some x\/b.af=some x\/c.af=some x->h.size+2<=x)/\Du s i/\ES s (l.drop i)=some t) ?_
  ⟨0,Rf,⟨none,0,0⟩,⟨none,0,0⟩,⟨none,0,0⟩,rfl,rfl,As _,Z,G.af X (λh=>h),F,⟨View.nil,View.nil,View.nil⟩,aa,Du.zero,V⟩
 rintro K m _ H ⟨i,s,a,b,c,rfl,rfl,az,n,I,o,J,fr,L,g⟩ ab;have aA:=v.len;refine ae.intro (λz=>?_) (λz=>?_)
 ·have j:i<l.length:=by simp at z;omega
  obtain⟨f,p⟩: ∃f,l[i]? =some f:=⟨_,A2 j⟩;have ac:=AK p;have ad:l.drop i=f::l.drop (i+1):=by rw[Fo j];rw[A2 j] at p;cases p;rfl
  rw[ad,ES] at g;split at g;rotate_left
  ·cases g
  rename_i M;refine(v.ext n).idx p λaC _ af=>Mo.mk f af ?_
  refine ak.mk λN _ q ag ah=>aK.mk q (A0 8) λai O aj aD=>?_
  rw[p5] at O;have r:Ext H ai:=ag.more aj λc e=>by subst e;exact A0 _
  have aE:=Af o;refine Av.mk (s.V a b c) (Eh (r.af o λh=>h)) (Mo.mk f (Ph O) ?_);refine pg (J.ext r) L (by omega) (hd f ac) λaF al am an ao ap u=>Gt.mk _ ⟨_,rfl,?_⟩
  rw[M];have B:=r.trans ao;refine ak.mk λaG _ aq C aH=>aK.mk aq (A0 12) λar Q S aI=>ae.no rfl ?_
  rw[OG] at Q;have w:Ext H ar:=B.more (C.mod.trans S) λc e=>by subst e;exact B.size
  refine Av.mk _ (Eh Q) (aK.mk (w.af o λh=>h) (A0 12) λaJ T D aL=>?_);rw[OG] at T;dsimp only;rw[Aa (by omega)];have aM:=r.size;have aN:=C.size;have aO:=B.size;have aP:=w.size;have aQ:=n.size;refine ab (l.length-(i+1)) _ _ (by omega) ⟨i+1,_,al,am,an,rfl,rfl,j,(n.trans w).more D λc e=>by subst e;omega,D.af (w.af I λh=>h) (by omega),T,?_,λx d=>?_,SH L M,g⟩
  ·have au:=ap.ext (C.more S λc e=>by subst e;exact A0 _);exact au.mod D (λx d e=>by have:=u x (.inl d);omega) (λx d e=>by have:=u x (.inr (.inl d));omega) (λx d e=>by have:=u x (.inr (.inr d));omega)
  ·have:=u x d;omega
 ·have j:i=l.length:=by simp at z;omega
  subst j;rw[Pc,ES] at g;obtain rfl:s=t:=C2 g;refine Av.mk (s.V a b c) (Eh o) (aK.mk I (A0 12) λN q U ah=>?_);rw[OG] at q;refine Av.mk (s.V a b c) (Eh q) (W N a b c (n.more U λc e=>by subst e;exact A0 _) (J.mod U (λx d e=>by have:=fr x (.inl d);omega) (λx d e=>by have:=fr x (.inr (.inl d));omega) (λx d e=>by have:=fr x (.inr (.inr d));omega)) λx d=>by have:=fr x d;omega)
theorem APq {wid:A2O}{l:List Ev}{sl:Sl}(s:Ap wid=true)(v:View fW h sl l)(S:l.length<=1000)(hd: ∀a∈l,Ed a=true/\a.data.size<1099511627776)
  (z: ∀d f,Own Ba AR f d (l.map (OQ wid))->(∀ b,d.af=some b->h.size<=b)->Ext h f->R (J1 #[J4 d.p d.len d.cap,J6 J9 0]) f):
  AA A P OZ #[J7 wid,J4 sl.p sl.len sl.cap] h R:=by
 refine AFc ?_;unfold Ze;refine FN ⟨_,rfl,?_⟩;rw[s];refine ae.no rfl ?_;refine Loop.rule (λm x t=> ∃(i:Nat) (e:Sl),x=(e,(i:Int),())/\m=l.length-i/\i<=l.length/\Ext h t/\Own Ba AR t e ((l.take i).map (OQ wid))/\(∀ b,e.af=some b->h.size<=b)) ?_
  ⟨0,⟨none,0,0⟩,rfl,rfl,As _,Mod.refl,Own.nil,λb k=>by simp[Sl.af] at k⟩
 rintro K m _ u ⟨i,e,rfl,rfl,T,g,n,fr⟩ B;dsimp only;have U:=v.len;refine ae.intro (λo=>?_) (λo=>?_)
 ·have j:i<l.length:=by simp at o;omega
  obtain⟨a,p⟩: ∃a,l[i]? =some a:=⟨_,A2 j⟩;obtain⟨ok,C⟩:=hd a (AK p);obtain⟨_,⟨V,W⟩,_⟩:=Qg ok;refine(v.ext g).idx p λX _ D=>Mo.mk a D ?_
  refine ak.mk λY _ F G Z=>aK.mk F (A0 8) λH q I aa=>?_
  rw[p5] at q;have J:Ext u H:=G.more I λc L=>by subst L;exact A0 _
  refine Mo.mk a (Ph q) (AJX C λab w=>?_);unfold nJ;rw[ok];refine⟨_,_,rfl,ae.no rfl (AC.mk (AL (w.af q λh=>h) rfl) ?_)⟩;have ac:=FY s;rw[show a.id=((a.id.toNat:Nat):Int) from by omega];refine sy (by omega) (by omega) λad M=>⟨_,rfl,?_⟩
  have r:=(J.trans w).trans M;refine ak.aZ (E:=Ba) (x:=OQ wid a) rfl HZ (n.ext r) (by simp only[By,AE];omega) (by simp only[By,AE,maxLen];omega) λd f N O Q af=>?_
  rw[Aa (by omega)];refine B (l.length-(i+1)) _ _ (by omega) ⟨i+1,d,rfl,rfl,j,(g.trans r).more O fr,?_,λb k=>?_⟩
  ·rw[AD,p,DG,CH];exact N
  ·rcases Q b k with y|y
   ·exact fr b y
   ·have:=(g.trans r).size;omega
 ·have j:i=l.length:=by simp at o;omega
  rw[j,BW] at n;exact z e u n fr g
theorem APA {t:dm}(o: ∀d,Ext h d->R (J1 #[J7 (if Ju ⟨t.kind,t.ref,t.turn⟩ t.wid then jC ⟨t.kind,t.ref,t.turn⟩ t.wid else⟨#[]⟩),J6 J9 (if Ju ⟨t.kind,t.ref,t.turn⟩ t.wid then 0 else 1)]) d):AA A P TQ #[t.v] h R:=by
 refine AFH ?_;unfold Zm;refine ak.mk λf _ a p _=>?_
 refine ah.mk λK y=>?_
 have key: ∀k:Bool,k= !Ju ⟨t.kind,t.ref,t.turn⟩ t.wid->K (k,()) f:=λk g=>by
  refine y _ _ ?_;cases b:Ju ⟨t.kind,t.ref,t.turn⟩ t.wid with
  |false=>
   have:=o f p;rw[b] at this g;exact ae.yes g this
  |true=>
   rw[b] at g;refine ae.no g ?_;have z: ∀d,Ext f d->R (J1 #[J7 (jC ⟨t.kind,t.ref,t.turn⟩ t.wid),J6 J9 0]) d:=λd x=>by
    have:=o d (p.trans x);rw[b] at this;exact this
   unfold Ju at b;simp only[A3,BX] at b;obtain⟨⟨⟨⟨Q,S⟩,l⟩,T,U⟩,V,W⟩:=b;have X:=FY l;have Y:=AV (n:=t.kind.toNat) (by omega);have Z:=AV (n:=t.ref.toNat) (by omega);have aa:=AV (n:=t.turn.toNat) (by omega);have ab:=KC (s:=t.wid) (by omega);refine AC.mk (AL a rfl) ?_;rw[Nh (n:=t.kind) (by omega) (by omega)];refine CS (by omega) λac q=>⟨_,rfl,?_⟩
   have i:=q.af a λh=>h
   refine AJ.mk (n:=t.wid) (AB i rfl) ⟨AB a rfl,Kz (by omega) λad r=>⟨_,rfl,⟨by rw[AP,AP,max_i64];omega,?_⟩⟩⟩;have m:=r.af i λh=>h
   refine AC.mk (n:=t.ref) (AB m rfl) ⟨AB i rfl,AB a rfl,?_⟩;rw[Nh (n:=t.ref) (by omega) (by omega)];refine CS (by omega) λaf u=>⟨_,rfl,⟨by rw[Ak,AP,AP,max_i64,A1];omega,?_⟩⟩
   have B:=u.af m λh=>h
   refine AC.mk (n:=t.turn) (AB B rfl) ⟨AB m rfl,AB i rfl,AB a rfl,?_⟩;rw[Nh (n:=t.turn) (by omega) (by omega)];refine CS (by omega) λj C=>⟨_,rfl,⟨by rw[Ak,Ak,AP,AP,max_i64,A1,A1];omega,?_⟩⟩
   rw[Ak,Ak,Ak,A4,A4];exact z j (((q.trans r).trans u).trans C)
 have no: ∀ {P:Prop},¬P->(Ju ⟨t.kind,t.ref,t.turn⟩ t.wid=true->P)->K (true,()) f:=λD E=>key true (by
  cases b:Ju ⟨t.kind,t.ref,t.turn⟩ t.wid with
  |false=>rfl
  |true=>exact absurd (E b) D)
 have e:Ju ⟨t.kind,t.ref,t.turn⟩ t.wid=true->(1<=t.kind/\t.kind<=7)/\Ap t.wid=true/\(0<=t.ref/\t.ref<=500)/\0<=t.turn/\t.turn<=5:=λb=>by
  unfold Ju at b;simp only[A3,BX] at b;obtain⟨⟨⟨F,l⟩,G⟩,H⟩:=b;exact⟨F,l,G,H⟩
 refine AC.mk (AL a rfl) (ae.intro (λc=>no (P:=1<=t.kind) (by simp at c;omega) λh=>(e h).1.1) λI=>?_);refine AC.mk (AL a rfl) (ae.intro (λc=>no (P:=t.kind<=7) (by simp at c;omega) λh=>(e h).1.2) λJ=>?_);refine AJ.mk (n:=t.wid) (AB a rfl) (FN ⟨_,rfl,ae.intro (λc=>no (P:=Ap t.wid=true) (by simp at c;simp[c]) λh=>(e h).2.1) λv=>?_⟩);refine AC.mk (n:=t.ref) (AB a rfl) (ae.intro (λc=>no (P:=0<=t.ref) (by simp at c;omega) λh=>(e h).2.2.1.1) λL=>?_);refine AC.mk (n:=t.ref) (AB a rfl) (ae.intro (λc=>no (P:=t.ref<=500) (by simp at c;omega) λh=>(e h).2.2.1.2) λM=>?_);refine AC.mk (n:=t.turn) (AB a rfl) (ae.intro (λc=>no (P:=0<=t.turn) (by simp at c;omega) λh=>(e h).2.2.2.1) λw=>?_);refine AC.mk (n:=t.turn) (AB a rfl) (key _ ?_);unfold Ju;simp at I J v L M w;have N:bU t.kind 1 7=true:=BX.2 (by omega);have O:bU t.ref 0 500=true:=BX.2 (by omega);rw[N,O,v];show _= !(bU t.turn 0 5);unfold bU;by_cases j:t.turn<=5
 ·simp[j,w]
 ·simp[j];omega
theorem sD {s:Sl}{p:cA}(v:View QS h s p.steps)(V:p.steps.length<=1099511627776)(H: ∀b,Ext h b->R (Wm p) b):
  AA A P LV #[.agg #[J4 s.p s.len s.cap,J6 J9 p.aA]] h R:=by
 refine ABU ?_;unfold Um;refine ak.mk λaE _ u k _=>?_
 refine AY.mk (s:=s) (AL u rfl) (AC.mk (AB u rfl) ?_);refine vP (p:=p) (v.ext k) V λw o=>⟨_,rfl,?_⟩
 cases q:Fb p with
 |false=>
  refine ae.yes rfl ?_;have:=H w (k.trans o);rw[Wm,q] at this;exact this
 |true=>
  refine ae.no rfl ?_;have W: ∀b,Ext w b->R (J1 #[J7 (AX (CP p)),J6 J9 0]) b:=λb x=>by
   have:=H b ((k.trans o).trans x);rw[Wm,q] at this;exact this
  simp only[Fb,A3,decide_eq_true_eq] at q;obtain⟨⟨aF,X⟩,I⟩:=q;have aG:=BX.1 X;have y:=o.af u (λh=>h);refine AC.mk (n:=p.aA) (AB y rfl) ?_;rw[Nh (n:=p.aA) (by omega) (by omega)];refine CS (by omega) λaH J=>⟨_,rfl,?_⟩
  have L:=J.af y (λh=>h);refine AY.mk (s:=s) (AL L rfl) ⟨AL y rfl,?_⟩;rw[v.len,Bz (by omega)];have aI:=AV (n:=p.aA.toNat) (by omega);have aJ:=AV (n:=p.steps.length) (by omega);refine CS (by omega) λY M=>⟨_,rfl,⟨by rw[AP,AP,max_i64];omega,?_⟩⟩
  have Z:=M.af L (λh=>h);rw[Ak];refine AY.mk (s:=s) (AL Z rfl) ?_;refine Loop.rule (λm x f=> ∃i:Nat,x=(AX ((BZ p.aA.toNat++BZ p.steps.length)++(p.steps.take i).flatMap Gi),(i:Int),())/\Ext Y f/\m=p.steps.length-i/\i<=p.steps.length) ?_ ⟨0,by simp,Mod.refl,rfl,by omega⟩;rintro K m _ f ⟨i,rfl,N,rfl,aK⟩ aa;have O:Ext w f:=(J.trans M).trans N;have ac:Ext h f:=(k.trans o).trans O;dsimp only;have aL:=v.len;refine ae.intro (λz=>?_) (λz=>?_)
  ·have B:i<p.steps.length:=by simp at z;omega
   obtain⟨x,C⟩: ∃x,p.steps[i]? =some x:=⟨_,A2 B⟩;have ad:=AK C;have af:=List.all_eq_true.1 I x ad;obtain⟨aM,aN,aO,aP,aQ,aR,aS,aT,aU,aV,aW⟩:=vV af;have aX:((p.steps.take i).flatMap Gi).length<=1600:=by
    have:=Oa (l:=p.steps.take i) (List.all_eq_true.2 λag ai=>List.all_eq_true.1 I ag (DO ai));have:(p.steps.take i).length<=16:=by simp;omega
    omega
   have D: ∀b,Ext f b->K (AX (((BZ p.aA.toNat++BZ p.steps.length)++(p.steps.take i).flatMap Gi)++Gi x),J8 J9 ((i:Int)+1),()) b:=λb aj=>by
    rw[Aa (by omega)];refine aa (p.steps.length-(i+1)) _ _ (by omega) ⟨i+1,?_,N.trans aj,rfl,B⟩;rw[AD,C,DG,GB];simp[A4]
   generalize al:(BZ p.aA.toNat++BZ p.steps.length)++(p.steps.take i).flatMap Gi=am at*
   have aY:am.length<=2000:=by rw[<- al];simp only[A1];omega
   refine(v.ext ac).idx C λa _ c=>?_
   obtain⟨an,ao,ap,aq,ar,au⟩:=vO c;refine AC.mk an (AJ.mk ao (AJ.mk ap (AC.mk aq (AC.mk ar (AC.mk au ?_)))));refine ak.mk λaZ _ av aw a0=>ab.nY av λax Q ay a1=>?_
   have az:Ext f ax:=aw.more ay λc a2=>by omega
   refine AC.mk (n:=x.kind) (AL Q rfl) ?_;rw[Nh (n:=x.kind) (by omega) (by omega)];refine CS (by omega) λa3 S=>⟨_,rfl,?_⟩
   have a4:=AV (n:=x.kind.toNat) (by omega);refine⟨by rw[AP,AP,max_i64];omega,?_⟩;have d:=S.af Q (λh=>h);have E:=az.trans S;rw[Ak];refine AC.mk (n:=x.kind) (AL d rfl) ?_;have a5:=AV (n:=x.tries.toNat) (by omega);have a6:=AV (n:=x.aw.toNat) (by omega);have a7:=AV (n:=x.wait.toNat) (by omega);have a8:=KC (s:=x.name) (by omega);have a9:=KC (s:=x.aL) (by omega);refine ah.mk λba F=>?_
   refine ae.intro (λe=>?_) (λe=>?_)
   ·have e:x.kind=1:=by simpa using e
    refine AJ.mk (n:=x.name) (AB d rfl) (Kz (by omega) λr j=>⟨_,rfl,?_⟩);have t:=j.af d (λh=>h);refine AC.mk (n:=x.tries) (AB t rfl) ⟨AB d rfl,?_⟩;rw[Nh (n:=x.tries) (by omega) (by omega)];refine CS (by omega) λbb T=>⟨_,rfl,⟨by rw[AP,AP,max_i64];omega,?_⟩⟩
    have G:=T.af t (λh=>h);refine AJ.mk (n:=x.aL) (AB G rfl) ⟨AB t rfl,AB d rfl,?_⟩;refine Kz (by omega) λbc U=>⟨_,rfl,⟨by rw[Ak,AP,AP,max_i64,A1];omega,?_⟩⟩
    have aA:=U.af G (λh=>h);refine AC.mk (n:=x.aw) (AB aA rfl) ⟨AB G rfl,AB t rfl,AB d rfl,?_⟩;rw[Nh (n:=x.aw) (by omega) (by omega)];refine CS (by omega) λaC aD=>⟨_,rfl,⟨?_,?_,F _ _ ?_⟩⟩
    ·rw[Ak,Ak,AP,AP,max_i64];simp only[A1];omega
    ·simp only[Ak,AP,max_i64,A1];omega
    ·have:=D aC ((((E.trans j).trans T).trans U).trans aD);simp only[Gi] at this;rw[if_pos e] at this;simp only[Ak,A4] at this ⊢;exact this
   ·have e:x.kind≠1:=by simpa using e
    refine ae.intro (λg=>?_) (λg=>?_)
    ·have g:x.kind=2:=by simpa using g
     refine AC.mk (n:=x.wait) (AB d rfl) ?_;rw[Nh (n:=x.wait) (by omega) (by omega)];refine CS (by omega) λr j=>⟨_,rfl,⟨by rw[AP,AP,max_i64,A1];omega,F _ _ ?_⟩⟩
     have:=D r (E.trans j);simp only[Gi] at this;rw[if_neg e,if_pos g] at this;simp only[Ak,A4] at this ⊢;exact this
    ·have g:x.kind≠2:=by simpa using g
     refine ae.yes (by simp;omega) (AJ.mk (n:=x.name) (AB d rfl) (Kz (by omega) λr j=>⟨_,rfl,⟨by rw[AP,AP,max_i64,A1];omega,F _ _ ?_⟩⟩));have:=D r (E.trans j);simp only[Gi] at this;rw[if_neg e,if_neg g] at this;simp only[Ak,A4] at this ⊢;exact this
  ·have B:i=p.steps.length:=by simp at z;omega
   have:=W f O;rw[AG (by omega)];exact this
end
end Go.Lf.G
namespace Go.Lf
open G
open Go
open M (Sorted Ae Cr BG Ag Aw Bf Aj bG BM aS BV)
theorem View.cO {c:Type}{d:cy c}{e:Nat->Prop}{h f:aa}{s:Sl}{l:List c}(v:View d h s l)(m:Mod e h f)(j:l≠ []-> ∀b,s.af=some b-> ¬e b):View d f s l:=by
 cases l with
 |nil=>exact⟨v.len,v.cap,λi x k=>by simp at k⟩
 |cons x l=>exact v.mod m (j (by simp))
end Go.Lf
namespace Go.Lf.G
open Go
open M (Sorted Ae Cr BG Ag Aw Bf Aj bG BM aS BV)
end Go.Lf.G
namespace Go.Lf
open G
open Go
open M (Sorted Ae Cr BG Ag Aw Bf Aj bG BM aS BV)
theorem View.nZ {f:Type}{d:cy f}{h:aa}{s:Sl}{l:List f}(v:View d h s l)(j:l≠ []){b:Nat}(e:s.af=some b):b<h.size:=by
 cases l with
 |nil=>exact absurd rfl j
 |cons x l=>
  obtain⟨a,k,c⟩:=v.cells 0 x rfl;have m:0<(d.enc x).length:=by rw[d.len];exact d.pos
  have:=Tt (c 0 _ (A2 m));rw[aM,aM] at this;unfold Sl.af at e;rw[k] at e;cases e;exact this
end Go.Lf
namespace Go.Lf.G
open Go
open M (Sorted Ae Cr BG Ag Aw Bf Aj bG BM aS BV)
theorem ab.lS {h:aa}{b d:Nat}{v:J0}{l l':List J0}{T:Q7}{K:aa->Prop}(e:h[b]? =some (J2 ⟨l⟩ T (0,0)))(f:d<l.length)(j:l.set d v=l')
  (k: ∀c,c[b]? =some (J2 ⟨l'⟩ T (0,0))->Mod (· =b) h c->c.size=h.size->K c):ab h ((⟨b,0,none⟩:Q6).add d) v K:=
 ab.bL e f (Wf l d v) λc m=>k c (by rw[<- j];exact m)
theorem Cg {h:aa}{b j:Nat}{l:List J0}{T:Q7}{fr:Nat×Nat}{v:J0}(c:h[b]? =some (J2 ⟨l⟩ T fr))(d:l[j]? =some v):ag h ((⟨b,0,none⟩:Q6).add j)=some v:=
 AB c (by rw[<- Pl];exact d)
theorem Bl {h:aa}{b i c:Nat}{l:List J0}{T:Q7}{fr:Nat×Nat}{v:J0}(d:h[b]? =some (J2 ⟨l⟩ T fr))(e:l[i+c]? =some v):ag h (((⟨b,0,none⟩:Q6).add i).add c)=some v:=by rw[add_add];exact Cg d e
theorem APL {h:aa}{b i c d:Nat}{l:List J0}{T:Q7}{fr:Nat×Nat}{v:J0}(e:h[b]? =some (J2 ⟨l⟩ T fr))(f:l[i+(c+d)]? =some v):ag h ((((⟨b,0,none⟩:Q6).add i).add c).add d)=some v:=by rw[add_add];exact Bl e f
structure eK where
 hp:Nat
 ev:Sl
 fs:bF
 a:Sl
 b:Sl
 c:Sl
 more:Sl
 aq:Sl
 conds:Sl
abbrev eK.l(x:eK)(C:br):List J0:= [Ay x.hp,J7 C.wid,J6 J9 (C.ao:Int),J6 J9 C.cq,J6 J9 C.bW,J3 C.kept,J4 x.ev.p x.ev.len x.ev.cap,
 J4 x.fs.steps.p x.fs.steps.len x.fs.steps.cap,J6 J9 x.fs.aA,J6 J9 x.fs.status,J6 J9 x.fs.next,J6 J9 x.fs.aW,J6 J9 x.fs.asked,J6 J9 x.fs.taken,J3 x.fs.fresh,J4 x.fs.ar.p x.fs.ar.len x.fs.ar.cap,J4 x.fs.aj.p x.fs.aj.len x.fs.aj.cap,J3 x.fs.cancel,J3 x.fs.aP,
 J4 x.a.p x.a.len x.a.cap,J6 J9 C.st.prog.aA,J6 J9 C.st.status,J6 J9 C.st.next,J6 J9 C.st.aW,J6 J9 C.st.asked,J6 J9 C.st.taken,J3 C.st.fresh,J4 x.b.p x.b.len x.b.cap,J4 x.c.p x.c.len x.c.cap,J3 C.st.cancel,J3 C.st.aP,
 J4 x.more.p x.more.len x.more.cap,J4 x.aq.p x.aq.len x.aq.cap,J4 x.conds.p x.conds.len x.conds.cap,J6 J9 C.err,J6 J9 C.now]
structure FC (h:aa) (cb:Nat) (z:Nat->Nat) (x:eK) (C:br):Prop where
 af:h[cb]? =some (J2 ⟨x.l C⟩ MK (0,0))
 zc:z cb=1
 st:Ia h C.st x.a x.b x.c
 zs: ∀y,(C.st.prog.steps≠ []/\x.a.af=some y)\/(C.st.ar≠ []/\x.b.af=some y)\/(C.st.aj≠ []/\x.c.af=some y)->z y=5
 more:Own fW BD h x.more C.more
 zm: ∀y,x.more.af=some y->z y=2
 aq:Own Ba AR h x.aq C.aq
 zp: ∀y,x.aq.af=some y->z y=3
 conds:Own Ba AR h x.conds C.conds
 zq: ∀y,x.conds.af=some y->z y=4
theorem Ia.cO {k:Nat->Prop}{h n:aa}{s:ba}{a b c:Sl}(f:Ia h s a b c)(m:Mod k h n)(j: ∀y,(s.prog.steps≠ []/\a.af=some y)\/(s.ar≠ []/\b.af=some y)\/(s.aj≠ []/\c.af=some y)-> ¬k y):Ia n s a b c:=
 ⟨f.steps.cO m λd y e=>j y (.inl ⟨d,e⟩),f.ar.cO m λd y e=>j y (.inr (.inl ⟨d,e⟩)),f.aj.cO m λd y e=>j y (.inr (.inr ⟨d,e⟩))⟩
section
variable {A : al} {B : cI} {g h : aa} {s a N sh cb : Nat} {l : List Hs} {mp : List Pr} {O : Nat -> Prop} {i : Nat} {y : Hs} {z : Nat -> Nat} {x : eK} {C : br} {R : A2N}
theorem FC.mod {f:Nat->Prop}{j:aa}(b:FC h cb z x C)(m:Mod f h j)(e: ∀c,z c≠0-> ¬f c):FC j cb z x C:=
 ⟨m.af b.af (e cb (by rw[b.zc];decide)),b.zc,b.st.cO m λy d=>e y (by rw[b.zs y d];decide),b.zs,b.more.mod m λy d=>e y (by rw[b.zm y d];decide),b.zm,b.aq.mod m λy d=>e y (by rw[b.zp y d];decide),b.zp,b.conds.mod m λy d=>e y (by rw[b.zq y d];decide),b.zq⟩
theorem FC.on {b:aa}(c:FC h cb z x C)(m:Ext h b):FC b cb z x C:=c.mod m λ_ _ h=>h
theorem FC.cell {d:aa}(b:FC h cb z x C){f:Int}(m:Mod (· =cb) h d)(k:d[cb]? =some (J2 ⟨x.l {C with err:=f}⟩ MK (0,0))):FC d cb z x {C with err:=f}:=by
 have ne: ∀y e,z y=e->e≠1-> ¬y=cb:=λy e j n o=>by subst o;rw[b.zc] at j;exact n j.symm
 exact⟨k,b.zc,b.st.cO m λy c=>ne y 5 (b.zs y c) (by decide),b.zs,b.more.mod m λy c=>ne y 2 (b.zm y c) (by decide),b.zm,b.aq.mod m λy c=>ne y 3 (b.zp y c) (by decide),b.zp,b.conds.mod m λy c=>ne y 4 (b.zq y c) (by decide),b.zq⟩
theorem FC.err(c:FC h cb z x C){d:Int}{K:aa->Prop}(e: ∀b,FC b cb z x {C with err:=d}->Mod (· =cb) h b->b.size=h.size->K b):ab h ((⟨cb,0,none⟩:Q6).add 34) (J6 J9 d) K:=
 ab.lS c.af (of_decide_eq_true rfl) rfl λb f m j=>e b (c.cell m f) m j
def gE(z:Nat->Nat)(s:Sl)(b:Nat):Nat->Nat:=λc=>if s.af=some c then b else z c
theorem ph {s:Sl}{b c:Nat}(h:s.af=some c):gE z s b c=b:=if_pos h
theorem pj {f j:Sl}{k:Nat}(n: ∀c,z c≠0->c<h.size)(o: ∀y,f.af=some y->z y=k)(p: ∀b,j.af=some b->f.af=some b\/h.size<=b){c d:Nat}(e:z c=d)(q:d≠0):gE z j k c=d:=by
 unfold gE;split
 ·rename_i r;rcases p c r with m|m
  ·rw[<- e,o c m]
  ·have:=n c (by rw[e];exact q);omega
 ·exact e
theorem pn {k d:Sl}{e:Nat}{m:aa}(o: ∀y,k.af=some y->z y=e)(p:e≠0)(q: ∀b,d.af=some b->k.af=some b\/h.size<=b)(r: ∀b,d.af=some b->b<m.size){c:Nat}(f:gE z d e c≠0):z c≠0\/(h.size<=c/\c<m.size):=by
 unfold gE at f;split at f
 ·rename_i n;rcases q c n with j|j
  ·exact .inl (by rw[o c j];exact p)
  ·exact .inr ⟨j,r c n⟩
 ·exact .inl f
theorem FC.ky(d:FC h cb z x C)(I: ∀c,z c≠0->c<h.size){src:Sl}{f:Ev}(v:View fW h src [f])(W:C.more.length<1000){K:aa->Prop}
  (Q: ∀u j J,FC u cb J {x with more:=j} {C with more:=C.more++ [f]}->Mod (λc=>z c≠0) h u->(∀ c,J c≠0->z c≠0\/(h.size<=c/\c<u.size))->K u):
  BF A P (Builtin.append_ #[Dh,Dh] Dh #[J4 x.more.p x.more.len x.more.cap,J4 src.p src.len src.cap]) h λv n=> ∃t:Sl,v=J4 t.p t.len t.cap/\ab n ((⟨cb,0,none⟩:Q6).add 31) (J4 t.p t.len t.cap) K:=by
 refine GI (E:=fW) (s:=x.more) (src:=src) vS d.more v (by simp only[CN];omega) (by simp only[CN,maxLen];omega) λj n L o D _=>?_
 have w: ∀c k,z c=k->k≠2-> ¬x.more.af=some c:=λc k p F f=>by rw[d.zm c f] at p;exact F p.symm
 have S:=o.af d.af (w cb 1 d.zc (by decide));refine ab.lS S (of_decide_eq_true rfl) (l':=({x with more:=j}:eK).l {C with more:=C.more++ [f]}) rfl λF T q X=>?_
 have G: ∀c k,z c=k->k≠1-> ¬c=cb:=λc k p n f=>by subst f;rw[d.zc] at p;exact n p.symm
 have Y:=I cb (by rw[d.zc];decide);have U: ∀b,j.af=some b->b<n.size:=λb r=>L.lt r
 have aY: ∀ {c H:Nat},z c=H->H≠0->gE z j 2 c=H:=λm V=>pj I d.zm D m V
 refine Q F j (gE z j 2) ⟨T,aY d.zc (by decide),?_,λy e=>aY (d.zs y e) (by decide),?_,λy e=>ph e,?_,λy e=>aY (d.zp y e) (by decide),?_,λy e=>aY (d.zq y e) (by decide)⟩ ?_ λc m=>?_
 ·exact(d.st.cO o λy e=>w y 5 (d.zs y e) (by decide)).cO q λy e=>G y 5 (d.zs y e) (by decide)
 ·refine L.mod q λb r f=>?_
  subst f;rcases D b r with M|M
  ·have:=d.zm b M;rw[d.zc] at this;cases this
  ·omega
 ·exact(d.aq.mod o λy e=>w y 3 (d.zp y e) (by decide)).mod q λy e=>G y 3 (d.zp y e) (by decide)
 ·exact(d.conds.mod o λy e=>w y 4 (d.zq y e) (by decide)).mod q λy e=>G y 4 (d.zq y e) (by decide)
 ·exact(o.ai λc _ m=>by rw[d.zm c m];decide).trans (q.ai λc _ m=>by subst m;rw[d.zc];decide)
 ·exact pn d.zm (by decide) D (λb r=>by have:=U b r;omega) m
theorem FC.fG(d:FC h cb z x C)(J: ∀c,z c≠0->c<h.size){p:Pr}(X:C.aq.length<1000){K:aa->Prop}
  (S: ∀D f L,FC D cb L {x with aq:=f} {C with aq:=C.aq++ [p]}->Mod (λc=>z c≠0) h D->(∀ c,L c≠0->z c≠0\/(h.size<=c/\c<D.size))->K D):
  ak h (J2 #[J7 p.key,J7 p.val,J3 p.gone] AR) λb m=>BF A P (Builtin.append_ #[AQ,AQ] AQ #[J4 x.aq.p x.aq.len x.aq.cap,J4 (some (⟨b,0,none⟩:Q6)) 1 1]) m λv n=> ∃t:Sl,v=J4 t.p t.len t.cap/\ab n ((⟨cb,0,none⟩:Q6).add 32) (J4 t.p t.len t.cap) K:=by
 refine ak.aZ (E:=Ba) (x:=p) (s:=x.aq) (l:=C.aq) rfl HZ d.aq (by omega) (by simp only[maxLen];omega) λf m M o G _=>?_
 have F: ∀c j,z c=j->j≠3-> ¬x.aq.af=some c:=λc j q n r=>by rw[d.zp c r] at q;exact n q.symm
 have T:=o.af d.af (F cb 1 d.zc (by decide));refine ab.lS T (of_decide_eq_true rfl) (l':=({x with aq:=f}:eK).l {C with aq:=C.aq++ [p]}) rfl λn U u Y=>?_
 have H: ∀c j,z c=j->j≠1-> ¬c=cb:=λc j q m r=>by subst r;rw[d.zc] at q;exact m q.symm
 have Z:=J cb (by rw[d.zc];decide);have V: ∀b,f.af=some b->b<m.size:=λb w=>M.lt w
 have aY: ∀ {c I:Nat},z c=I->I≠0->gE z f 3 c=I:=λk W=>pj J d.zp G k W
 refine S n f (gE z f 3) ⟨U,aY d.zc (by decide),?_,λy e=>aY (d.zs y e) (by decide),?_,λy e=>aY (d.zm y e) (by decide),?_,λy e=>ph e,?_,λy e=>aY (d.zq y e) (by decide)⟩ ?_ λc k=>?_
 ·exact(d.st.cO o λy e=>F y 5 (d.zs y e) (by decide)).cO u λy e=>H y 5 (d.zs y e) (by decide)
 ·exact(d.more.mod o λy e=>F y 2 (d.zm y e) (by decide)).mod u λy e=>H y 2 (d.zm y e) (by decide)
 ·refine M.mod u λb w r=>?_
  subst r;rcases G b w with Q|Q
  ·have:=d.zp b Q;rw[d.zc] at this;cases this
  ·omega
 ·exact(d.conds.mod o λy e=>F y 4 (d.zq y e) (by decide)).mod u λy e=>H y 4 (d.zq y e) (by decide)
 ·exact(o.ai λc _ k=>by rw[d.zp c k];decide).trans (u.ai λc _ k=>by subst k;rw[d.zc];decide)
 ·exact pn d.zp (by decide) G (λb w=>by have:=V b w;omega) k
theorem FC.ic(d:FC h cb z x C)(J: ∀c,z c≠0->c<h.size){p:Pr}(X:C.conds.length<1000){K:aa->Prop}
  (S: ∀D f L,FC D cb L {x with conds:=f} {C with conds:=C.conds++ [p]}->Mod (λc=>z c≠0) h D->(∀ c,L c≠0->z c≠0\/(h.size<=c/\c<D.size))->K D):
  ak h (J2 #[J7 p.key,J7 p.val,J3 p.gone] AR) λb m=>BF A P (Builtin.append_ #[AQ,AQ] AQ #[J4 x.conds.p x.conds.len x.conds.cap,J4 (some (⟨b,0,none⟩:Q6)) 1 1]) m λv n=> ∃t:Sl,v=J4 t.p t.len t.cap/\ab n ((⟨cb,0,none⟩:Q6).add 33) (J4 t.p t.len t.cap) K:=by
 refine ak.aZ (E:=Ba) (x:=p) (s:=x.conds) (l:=C.conds) rfl HZ d.conds (by omega) (by simp only[maxLen];omega) λf m M o G _=>?_
 have F: ∀c j,z c=j->j≠4-> ¬x.conds.af=some c:=λc j q n r=>by rw[d.zq c r] at q;exact n q.symm
 have T:=o.af d.af (F cb 1 d.zc (by decide));refine ab.lS T (of_decide_eq_true rfl) (l':=({x with conds:=f}:eK).l {C with conds:=C.conds++ [p]}) rfl λn U u Y=>?_
 have H: ∀c j,z c=j->j≠1-> ¬c=cb:=λc j q m r=>by subst r;rw[d.zc] at q;exact m q.symm
 have Z:=J cb (by rw[d.zc];decide);have V: ∀b,f.af=some b->b<m.size:=λb w=>M.lt w
 have aY: ∀ {c I:Nat},z c=I->I≠0->gE z f 4 c=I:=λk W=>pj J d.zq G k W
 refine S n f (gE z f 4) ⟨U,aY d.zc (by decide),?_,λy e=>aY (d.zs y e) (by decide),?_,λy e=>aY (d.zm y e) (by decide),?_,λy e=>aY (d.zp y e) (by decide),?_,λy e=>ph e⟩ ?_ λc k=>?_
 ·exact(d.st.cO o λy e=>F y 5 (d.zs y e) (by decide)).cO u λy e=>H y 5 (d.zs y e) (by decide)
 ·exact(d.more.mod o λy e=>F y 2 (d.zm y e) (by decide)).mod u λy e=>H y 2 (d.zm y e) (by decide)
 ·exact(d.aq.mod o λy e=>F y 3 (d.zp y e) (by decide)).mod u λy e=>H y 3 (d.zp y e) (by decide)
 ·refine M.mod u λb w r=>?_
  subst r;rcases G b w with Q|Q
  ·have:=d.zq b Q;rw[d.zc] at this;cases this
  ·omega
 ·exact(o.ai λc _ k=>by rw[d.zq c k];decide).trans (u.ai λc _ k=>by subst k;rw[d.zc];decide)
 ·exact pn d.zq (by decide) G (λb w=>by have:=V b w;omega) k
def gF(t:ba)(a b c:Sl)(y:Nat):Prop:=(t.prog.steps≠ []/\a.af=some y)\/(t.ar≠ []/\b.af=some y)\/(t.aj≠ []/\c.af=some y)
open Classical in
noncomputable def iM (z:Nat->Nat) (t:ba) (a b c:Sl):Nat->Nat:=λy=>if gF t a b c y then 5 else z y
theorem Ia.lt {t:ba}{a b c:Sl}(f:Ia h t a b c){y:Nat}(j:gF t a b c y):y<h.size:=by
 rcases j with⟨d,e⟩|⟨d,e⟩|⟨d,e⟩
 ·exact f.steps.nZ d e
 ·exact f.ar.nZ d e
 ·exact f.aj.nZ d e
theorem FC.kA {o:aa}{t:ba}{j k m:Sl}(e:FC h cb z x C)(E: ∀c,z c≠0->c<h.size)(F:Ext h o)(G:Ia o t j k m)(fr: ∀y,j.af=some y\/k.af=some y\/m.af=some y->h.size<=y){K:aa->Prop}
  (J: ∀p H,FC p cb H {x with a:=j,b:=k,c:=m} {C with st:=t}->Mod (λc=>z c≠0) h p->Mod (· =cb) o p->(∀ c,H c≠0->z c≠0\/(h.size<=c/\c<p.size))->K p):
  aK o ((⟨cb,0,none⟩:Q6).add 19) (t.V j k m).l K:=by
 have q:=e.on F;have L:(⟨cb,0,none⟩:Q6).add 19=⟨cb,19,none⟩:=rfl;rw[L];refine aK.mk q.af (of_decide_eq_true rfl) λM P n S=>?_
 have T:=E cb (by rw[e.zc];decide);have u: ∀y,gF t j k m y->h.size<=y:=λy d=>fr y (by
  rcases d with⟨_,h⟩|⟨_,h⟩|⟨_,h⟩
  ·exact .inl h
  ·exact .inr (.inl h)
  ·exact .inr (.inr h))
 have v: ∀c w,z c=w->w≠1-> ¬c=cb:=λc w I o D=>by subst D;rw[e.zc] at I;exact o I.symm
 have aY: ∀ {c r:Nat},z c=r->r≠0->iM z t j k m c=r:=λ{c r} f Q=>by
  unfold iM;rw[if_neg λd=>by have:=u c d;have:=E c (by rw[f];exact Q);omega];exact f
 refine J M (iM z t j k m) ⟨P,aY e.zc (by decide),?_,λy d=>if_pos d,q.more.mod n λy d=>v y 2 (e.zm y d) (by decide),λy d=>aY (e.zm y d) (by decide),q.aq.mod n λy d=>v y 3 (e.zp y d) (by decide),λy d=>aY (e.zp y d) (by decide),q.conds.mod n λy d=>v y 4 (e.zq y d) (by decide),λy d=>aY (e.zq y d) (by decide)⟩ ?_ n λc f=>?_
 ·exact G.cO n λy d D=>by subst D;have:=u y d;omega
 ·exact F.mod.trans (n.ai λc _ f=>by subst f;rw[e.zc];decide)
 ·unfold iM at f;split at f
  ·rename_i d;exact .inr ⟨u c d,by have:=G.lt d;have:=n.size;omega⟩
  ·exact .inl f
theorem FC.ld(b:FC h cb z x C):Cells h ((⟨cb,0,none⟩:Q6).add 19) (C.st.V x.a x.b x.c).l:=by have c:(⟨cb,0,none⟩:Q6).add 19=⟨cb,19,none⟩:=rfl;rw[c];exact Dj b.af rfl
theorem LW.out(d:LW B g h s a N sh l mp O){c:Nat}(b:O c):c<h.size/\g.size<=c:=by obtain⟨e,f,st,m,j,nn,C,k,n,o,p,out⟩:=d;exact⟨(out c b).2.1,(out c b).2.2.1⟩
structure CW (B:cI) (g h:aa) (s a N sh:Nat) (l:List Hs) (i:Nat) (y:Hs) (mp:List Pr) (O:Nat->Prop) (cb:Nat) (z:Nat->Nat) (x:eK) (C:br):Prop where
 w:LW B g h s a N sh (l.set i y) mp (λc=>O c\/z c≠0)
 il:i<l.length
 no: ∀c,z c≠0-> ¬O c
 hp:x.hp=y.p
 bD:FC h cb z x C
theorem CW.gS(b:CW B g h s a N sh l i y mp O cb z x C): ∀c,z c≠0->c<h.size:=λc d=>(b.w.out (.inr d)).1
theorem CW.xZ(b:CW B g h s a N sh l i y mp O cb z x C): ∀c,z c≠0->bO g O c:=λc d=>⟨(b.w.out (.inr d)).2,b.no c d⟩
theorem CW.frame {b:aa}(d:CW B g h s a N sh l i y mp O cb z x C)(m:Mod (λc=>z c≠0) h b):Mod (bO g O) h b:=m.ai λc _ e=>d.xZ c e
theorem CW.step {e:aa}{f:Nat->Nat}{x':eK}{j:br}(d:CW B g h s a N sh l i y mp O cb z x C)(m:Mod (λc=>z c≠0) h e)(k: ∀c,f c≠0->z c≠0\/(h.size<=c/\c<e.size))(o:x'.hp=x.hp)(p:FC e cb f x' j):CW B g e s a N sh l i y mp O cb f x' j:=
 ⟨d.w.own (m.ai λc _ b=> .inr b) λc b=>by
   rcases b with b|b
   ·exact .inl (.inl b)
   ·rcases k c b with h|h
    ·exact .inl (.inr h)
    ·exact .inr h,
  d.il,λc b n=>by
   rcases k c b with h|h
   ·exact d.no c h n
   ·have:=(d.w.out (.inl n)).1;omega,
  o.trans d.hp,p⟩
theorem CW.on {c:aa}(b:CW B g h s a N sh l i y mp O cb z x C)(m:Ext h c):CW B g c s a N sh l i y mp O cb z x C:=⟨b.w.on m,b.il,b.no,b.hp,b.bD.on m⟩
theorem CW.wider {e:aa}{O':Nat->Prop}(d:CW B g h s a N sh l i y mp O cb z x C)(m:Mod O h e)(j: ∀c,O' c->O c\/(h.size<=c/\c<e.size)):CW B g e s a N sh l i y mp O' cb z x C:=
 ⟨d.w.own (m.ai λc _ b=> .inl b) λc b=>by
   rcases b with b|b
   ·rcases j c b with h|h
    ·exact .inl (.inl h)
    ·exact .inr h
   ·exact .inl (.inr b),
  d.il,λc b f=>by
   rcases j c f with h|h
   ·exact d.no c b h
   ·have:=d.gS c b;omega,
  d.hp,d.bD.mod m λc b f=>d.no c b f⟩
end
theorem sE {h:aa}{b:Nat}{T:Q7}{fr:Nat×Nat}{c:Ev}(d:h[b]? =some (J2 c.c T fr)):ag h (⟨b,0,none⟩:Q6)=some (J6 J9 c.id)/\ag h ((⟨b,0,none⟩:Q6).add 1)=some (J6 J9 c.kind)/\ag h ((⟨b,0,none⟩:Q6).add 2)=some (J6 J9 c.tick)/\ag h ((⟨b,0,none⟩:Q6).add 3)=some (J6 J9 c.ref)/\ag h ((⟨b,0,none⟩:Q6).add 4)=some (J6 J9 c.step)/\ag h ((⟨b,0,none⟩:Q6).add 5)=some (J6 J9 c.turn)/\ag h ((⟨b,0,none⟩:Q6).add 6)=some (J3 c.aL)/\ag h ((⟨b,0,none⟩:Q6).add 7)=some (J7 c.data):=
 ⟨AL d rfl,AB d rfl,AB d rfl,AB d rfl,AB d rfl,AB d rfl,AB d rfl,AB d rfl⟩
end Go.Lf.G
namespace Go.Lf
open G
open Go
open M (Sorted Ae Cr BG Ag Aw Bf Aj bG BM aS BV)
theorem Cells.kB {h:aa}{a:Q6}{t:bF}(c:Cells h a t.l):ag h a=some (J4 t.steps.p t.steps.len t.steps.cap)/\ag h (a.add 1)=some (J6 J9 t.aA)/\ag h (a.add 2)=some (J6 J9 t.status)/\ag h (a.add 3)=some (J6 J9 t.next)/\ag h (a.add 4)=some (J6 J9 t.aW)/\ag h (a.add 5)=some (J6 J9 t.asked)/\ag h (a.add 6)=some (J6 J9 t.taken)/\ag h (a.add 7)=some (J3 t.fresh)/\ag h (a.add 8)=some (J4 t.ar.p t.ar.len t.ar.cap)/\ag h (a.add 9)=some (J4 t.aj.p t.aj.len t.aj.cap)/\ag h (a.add 10)=some (J3 t.cancel)/\ag h (a.add 11)=some (J3 t.aP):=by have b:=c 0 _ rfl;rw[add_zero] at b;exact⟨b,c 1 _ rfl,c 2 _ rfl,c 3 _ rfl,c 4 _ rfl,c 5 _ rfl,c 6 _ rfl,c 7 _ rfl,c 8 _ rfl,c 9 _ rfl,c 10 _ rfl,c 11 _ rfl⟩
end Go.Lf
namespace Go.Lf.G
open Go
open M (Sorted Ae Cr BG Ag Aw Bf Aj bG BM aS BV)
structure Hs.dq (y y':Hs):Prop where
 p:y'.p=y.p
 name:y'.name=y.name
 f:y'.f=y.f
 u: ∀m,y'.u m<=y.u m+1
theorem Hs.dq.refl(y:Hs):y.dq y:=⟨rfl,rfl,rfl,λ_=>BY _⟩
section
variable {A : al} {B : cI} {g h : aa} {s a N sh cb : Nat} {l : List Hs} {mp : List Pr} {O : Nat -> Prop} {i : Nat} {y : Hs} {z : Nat -> Nat} {x : eK} {C : br} {R : A2N}
theorem CW.put {b:Nat}(W:CW B g h s a N sh l i y mp O cb z x C)(c:N<=b)(d:b<=1000000)(e:64*a<=B.C):CW B g h s a b sh l i y mp O cb z x C:=⟨W.w.put (A0 _) e c d,W.il,W.no,W.hp,W.bD⟩
theorem CW.at(b:CW B g h s a N sh l i y mp O cb z x C):(l.set i y)[i]? =some y:=HJ b.il
theorem CW.lw {d:aa}{f j:Nat}{k:List Pr}{e:Hs}(b:CW B g h s a N sh l i y mp O cb z x C)(n:LW B g d s j f sh ((l.set i y).set i e) k (λc=>O c\/z c≠0))(m:Mod (bO g (λc=>O c\/z c≠0)) h d)(o:e.p=y.p):CW B g d s j f sh l i e k O cb z x C:=
 ⟨by rw[List.set_set] at n;exact n,b.il,b.no,b.hp.trans o.symm,b.bD.mod m λc p q=>q.2 (.inr p)⟩
theorem sF {t:bF}(c: ∀b,Ext h b->R (J3 (decide (t.next<=497))) b):AA A P LQ #[t.v] h R:=by refine ACd ?_;unfold Uk;exact ak.mk λd _ e f j=>AC.mk (AB e rfl) (c d f)
theorem sG {wid:A2O}{k:Nat}{m n now:Int}{o:Bool}{D:Sl}{st:ba}{d e f:Sl}(F:LW B g h s a N sh (l.set i y) mp (λc=>O c\/gF st d e f c))(U:i<l.length)(G:Ia h st d e f)(no: ∀c,gF st d e f c-> ¬O c)
  (H: ∀E cb z x,CW B g E s a N sh l i y mp O cb z x (JP wid k m n o st now)->Ext h E->R (Ay cb) E):
  AA A P Ih #[Ay y.p,(⟨wid,(k:Int),⟨m,n,o⟩,D,st.V d e f⟩:ck).v,J6 J9 now] h R:=by
 refine AAJ ?_;unfold TT;refine ak.mk λq _ I J af=>Hl.mk ⟨wid,(k:Int),⟨m,n,o⟩,D,st.V d e f⟩ (Dj I rfl) ?_
 have V:(⟨h.size,0,none⟩:Q6).add 6=⟨h.size,6,none⟩:=rfl;rw[V];refine Av.mk (st.V d e f) (Dj I rfl) ?_;refine ak.mk λr _ W X ag=>?_
 have t:Ext h r:=J.trans X
 let x:eK:=⟨y.p,D,st.V d e f,d,e,f,⟨none,0,0⟩,⟨none,0,0⟩,⟨none,0,0⟩⟩
 let u:br:= {JP wid k m n o st now with err:=0}
 let z:Nat->Nat:=λc=>if c=q.size then 1 else iM (λ_=>0) st d e f c
 have Y: ∀c,gF st d e f c->c<h.size:=λc b=>G.lt b
 have L: ∀c,z c≠0->c=q.size\/gF st d e f c:=λc b=>by
  by_cases p:c=q.size
  ·exact .inl p
  ·have b:iM (λ_=>0) st d e f c≠0:=by have:z c=iM (λ_=>0) st d e f c:=if_neg p;rw[<- this];exact b
   unfold iM at b;split at b
   ·rename_i Z;exact .inr Z
   ·exact absurd rfl b
 have aa:FC r q.size z x u:=⟨W,if_pos rfl,(G.ext t),λc b=>by
   have:=Y c b;show z c=5;exact(if_neg (by omega)).trans (if_pos b),Own.nil,λc b=>by simp[x,Sl.af] at b,Own.nil,λc b=>by simp[x,Sl.af] at b,Own.nil,λc b=>by simp[x,Sl.af] at b⟩
 have v:CW B g r s a N sh l i y mp O q.size z x u:=⟨F.own t.mod λc b=>by
   rcases b with b|b
   ·exact .inl (.inl b)
   ·rcases L c b with h|h
    ·exact .inr (by omega)
    ·exact .inl (.inr h),U,λc b M=>by
   rcases L c b with h|h
   ·have:=(F.out (.inl M)).1;omega
   ·exact no c h M,rfl,aa⟩
 refine ah.mk λK Q=>ah.mk λab ac=>?_
 have key: ∀w:Bool,(w=true↔now<0\/1099511611776<now)->ab (w,()) r:=λw S=>by
  refine ac _ _ (ae.intro (λj=>?_) (λj=>?_))
  ·refine v.bD.err λad D3 T ai=>Q _ _ (H ad _ z x ?_ (t.more T λc b=>by subst b;exact J.size))
   have p:JP wid k m n o st now= {u with err:=1}:=by have:JP wid k m n o st now= {JP wid k m n o st now with err:=if now<0\/1099511611776<now then 1 else 0}:=rfl;rw[this,if_pos (S.1 j)]
   rw[p];exact v.step (T.ai λc _ b=>by subst b;rw[v.bD.zc];decide) (λc b=> .inl b) rfl D3
  ·have j:w=false:=j;refine Q _ _ (H r _ z x ?_ t);have p:JP wid k m n o st now=u:=by have:JP wid k m n o st now= {JP wid k m n o st now with err:=if now<0\/1099511611776<now then 1 else 0}:=rfl;rw[this,if_neg λh=>by rw[S.2 h] at j;cases j]
   rw[p];exact v
 refine ae.intro (λj=>key true (by simp at j;simp[j])) (λj=>key _ (by simp at j;simp;omega))
theorem AOf(b:CW B g h s a N sh l i y mp O cb z x C)(d:0<=C.st.next/\C.st.next<=501)(c:R (J6 J9 (jY C)) h):AA A P Ij #[Ay cb] h R:=by refine Ru ?_;unfold Lt;refine aD (AC.mk (Bl b.bD.af rfl) ?_);rw[wrap_i64 (by omega) (by omega)];exact c
theorem Xz {e:Ev}{n:Nat}(f:CW B g h s a N sh l i y mp O cb z x C)(ao:Du C.st n)(ap:n<=600)(hd:e.data.size<1099511627776)(aJ:C.more.length<1000)
  (T: ∀Z aL x',CW B g Z s a N sh l i y mp O cb aL x' (EN C e)->Mod (bO g O) h Z->R (J1 #[]) Z):AA A P Cc #[Ay cb,e.v] h R:=by
 refine SA ?_;unfold Mg;refine ak.mk λaM _ aN v a7=>aD (AC.mk (Cg (f.on v).bD.af rfl) (ae.intro (λd=>?_) (λd=>?_)))
 ·have d:C.err≠0:=by simpa using d
  refine T aM z x ?_ v.mod;unfold EN;rw[if_pos d];exact f.on v
 have ac:C.err=0:=by simpa using d
 have aq: ∀c,z c≠0-> ¬c=h.size:=λc m e=>by have:=f.gS c m;omega
 refine aD (AC.mk (Bl (f.on v).bD.af rfl) (aD (AC.mk (Cg (f.on v).bD.af rfl) ?_)));refine ab.bL (j:=0) (dR:=({e with id:=if 1>C.st.next then 1 else C.st.next}:Ev).c) aN (of_decide_eq_true rfl) rfl λa8 aO ar a9=>⟨Cg ((f.on v).bD.mod ar aq).af rfl,?_⟩
 refine ab.bL (j:=2) (dR:=(CQ C e).c) aO (of_decide_eq_true rfl) rfl λad au aP ba=>?_
 have af:Ext h ad:=v.more (ar.trans aP) λc m=>by subst m;exact A0 _
 refine ah.mk λK aQ=>?_
 have key: ∀(U:Bool) (F:aa),Ext ad F->(U=true↔C.more= []/\WT C.st=false/\e.kind≠18)->K (U,()) F:=λU F ag av=>by
  have L:=af.trans ag;have G:=f.on L;have V:=ag.af au λh=>h
  refine aQ _ _ (ae.intro (λd=>?_) (λd=>?_))
  ·refine aD (G.bD.err λk aR aS aT=>?_);have aw:Mod (λc=>z c≠0) F k:=aS.ai λc _ m=>by subst m;rw[f.bD.zc];decide
   refine T k z x ?_ (L.mod.trans (G.frame aw));unfold EN;rw[if_neg (by simp[ac]),if_pos (av.1 d)];exact G.step aw (λc m=> .inl m) rfl aR
  have d:U=false:=d;have ax: ¬(C.more= []/\WT C.st=false/\e.kind≠18):=λh=>by rw[av.2 h] at d;cases d
  refine ah.mk λaU aV=>aD (Av.mk (C.st.V x.a x.b x.c) G.bD.ld (Mo.mk (CQ C e) (Ph V) ?_))
  have ay: ∀(k:aa) (ai:Nat) (p q r:Sl),Ext F k->k[ai]? =some (J2 ((Bc C.st (CQ C e)).2.V p q r).c Aq (0,0))->Ia k (Bc C.st (CQ C e)).2 p q r->(∀ y,p.af=some y\/q.af=some y\/r.af=some y->h.size<=y)->
    aU (some ⟨ai,0,none⟩,(Bc C.st (CQ C e)).1,()) k:=λk ai p q r o aW M fr=>by
   have aj:=L.trans o;have al:=f.on aj;refine aV _ _ (ae.intro (λd=>?_) (λd=>?_))
   ·have d:(Bc C.st (CQ C e)).1≠0:=by simpa using d
    refine aD (al.bD.err λH am W az=>?_);have X:Mod (λc=>z c≠0) k H:=W.ai λc _ m=>by subst m;rw[f.bD.zc];decide
    refine T H z x ?_ (aj.mod.trans (al.frame X));unfold EN;rw[if_neg (by simp[ac]),if_neg ax,if_pos d];exact al.step X (λc m=> .inl m) rfl am
   have aX:(Bc C.st (CQ C e)).1=0:=by simpa using d
   refine aD (Av.mk ((Bc C.st (CQ C e)).2.V p q r) (Eh aW) (aD (f.bD.kA f.gS aj M fr λH bb am W X aY=>?_)));have aA:=f.step (x':= {x with a:=p,b:=q,c:=r}) W aY rfl am;have Q:=X.af (o.af V λh=>h) (λe=>aq cb (by rw[f.bD.zc];decide) e.symm);refine aD (AY.mk (s:=x.more) (Cg aA.bD.af rfl) (Mo.mk (CQ C e) (Ph Q) (ak.mk λI _ w aC aE=>?_)));have S:=aA.on aC;refine⟨Cg S.bD.af rfl,?_⟩;have aZ:View fW I ⟨some ⟨H.size,0,none⟩,1,1⟩ [CQ C e]:=(Own.lit (E:=fW) (l:= [CQ C e]) w rfl (by simp[maxLen])).view;refine S.bD.ky S.gS aZ aJ λa0 aF a1 a2 aG a3=>?_
   have a4:=S.step (x':= {x with a:=p,b:=q,c:=r,more:=aF}) aG a3 rfl a2;refine T a0 a1 {x with a:=p,b:=q,c:=r,more:=aF} ?_ ((f.frame W).trans (aC.mod.trans (S.frame aG)));have a5:EN C e= {C with st:=(Bc C.st (CQ C e)).2,more:=C.more++ [CQ C e]}:=by unfold EN;rw[if_neg (by simp[ac]),if_neg ax,if_neg (by simp[aX])]
   rw[a5];exact a4
  have bc:=af.size;have bd:=ag.size;constructor
  ·refine pg G.bD.st ao ap hd λk p q r o M J=>Gt.mk _ ⟨_,rfl,ak.mk λH _ Q u az=>⟨sE ((o.trans u).af V λh=>h),(f.on ((L.trans o).trans u)).bD.ld.kB,aK.mk Q (A0 12) λI w Y aE=>?_⟩⟩
   rw[OG] at w;have aH:Ext k I:=u.more Y λc m=>by subst m;exact A0 _
   exact ay I k.size p q r (o.trans aH) w (M.ext aH) λy t=>by have:=J y t;omega
  ·refine ak.mk λH _ Q u az=>⟨sE (u.af V λh=>h),(f.on (L.trans u)).bD.ld.kB,?_⟩
   refine pg (G.bD.st.ext u) ao ap hd λk p q r o M J=>Gt.mk _ ⟨_,rfl,aK.mk (o.af Q λh=>h) (A0 12) λI w Y aE=>?_⟩
   rw[OG] at w;have aT:=o.size;have a6:=M.mod Y (λy t e=>by have:=J y (.inl t);omega) (λy t e=>by have:=J y (.inr (.inl t));omega) (λy t e=>by have:=J y (.inr (.inr t));omega);exact ay I F.size p q r ((u.trans o).more Y λc m=>by subst m;exact A0 _) w a6 λy t=>by have:=J y t;omega
 have an:=f.on af;refine aD (AY.mk (s:=x.more) (Cg an.bD.af rfl) ?_);have aI:=an.bD.more.len;refine ae.intro (λd=>?_) (λd=>?_)
 ·have d:C.more= []:=by simp at d;exact CC (by omega)
  refine aD (Av.mk (C.st.V x.a x.b x.c) an.bD.ld (sF λk o=>⟨_,rfl,?_⟩));refine ae.intro (λD=>?_) (λD=>?_)
  ·have D:WT C.st=false:=by unfold WT;simpa using D
   refine AC.mk (AB (o.af au λh=>h) rfl) (key _ k o ?_);simp[d,D,CQ]
  ·have D:WT C.st=true:=by unfold WT;simpa using D
   refine key _ k o ?_;simp[D]
 ·have d:C.more≠ []:=λh=>by rw[h] at aI;simp[aI] at d
  refine key _ ad Mod.refl ?_;simp[d]
theorem sH {t:dm}{tick:Int}(r:CW B g h s a N sh l i y mp O cb z x C)(T:C.ao<256)(an:y.f C.ao<=2147483647)(ao:y.u C.ao+1<16777216)(F:N+1<=1000000)(H:64*a<=B.C)(ap:C.aq.length<1000)(a3:tick<9223372036854775808)
  (I: ∀J ar x' o q,CW B g J s a (N+1) sh l i o mp O cb ar x' (Fe C ⟨t.kind,t.ref,t.turn⟩ tick q)->y.dq o->Mod (bO g O) h J->R (J1 #[]) J):AA A P Fu #[Ay cb,t.v,J6 J9 tick] h R:=by
 refine Rh ?_;unfold Lx;refine ak.mk λau _ av w a4=>aD (AC.mk (Cg (r.on w).bD.af rfl) (ae.intro (λb=>?_) (λb=>?_)))
 ·have b:C.err≠0:=by simpa using b
  refine I au z x y 0 ?_ (Hs.dq.refl y) w.mod;unfold Fe;rw[if_pos b];exact(r.on w).put (by omega) F H
 have U:C.err=0:=by simpa using b
 refine aD (AJ.mk (n:=C.wid) (Cg (r.on w).bD.af rfl) (ab.bL (j:=1) (dR:=({t with wid:=C.wid}:dm).c) av (of_decide_eq_true rfl) rfl λaw ax ay a5=>?_));have az:Ext h aw:=w.more ay λc e=>by subst e;exact A0 _
 refine Zp.mk ({t with wid:=C.wid}:dm) (Dj ax rfl) (APA λD aA=>⟨_,_,rfl,?_⟩);have L:=az.trans aA;have d:=r.on L;cases V:Ju ⟨t.kind,t.ref,t.turn⟩ C.wid with
 |false=>
  refine ae.yes rfl (aD (d.bD.err λW aC aE a6=>?_));have X:Mod (λc=>z c≠0) D W:=aE.ai λc _ e=>by subst e;rw[r.bD.zc];decide
  refine I W z x y 0 ?_ (Hs.dq.refl y) (L.mod.trans (d.frame X));unfold Fe;rw[if_neg (by simp[U]),if_pos V];exact(d.step X (λc e=> .inl e) rfl aC).put (by omega) F H
 |true=>
  refine ae.no rfl ?_;have aF:ag D (⟨cb,0,none⟩:Q6)=some (Ay y.p):=by have:=Cg (j:=0) d.bD.af rfl;rw[add_zero,r.hp] at this;exact this
  refine aD (AZ.mk aF (aD (AC.mk (Bl d.bD.af rfl) ?_)));have Y: ∀(f:aa) (o:Hs) (q:Nat),CW B g f s a (N+1) sh l i o mp O cb z x C->y.dq o->Mod (bO g O) D f->(∃ M:Int,Value.int .u64 (q:Int)= .int .u64 M/\(
    At (some (⟨cb,0,none⟩:Q6)) λaG=>
    AC J9 f ((aG.add 1).add 1) λaH=>
    AA A P Jg #[J6 J9 aH,.int .u64 M] f λv2 u=> ∃Z:A2O,v2=J7 Z/\(
    ah (λ(s:A2O×Unit) k=>
      At (some (⟨cb,0,none⟩:Q6)) λaI=>
      AY k (aI.add 32) λQ=>
      ak k (J2 #[J7 s.1,J7 (if true then jC ⟨t.kind,t.ref,t.turn⟩ C.wid else⟨#[]⟩),J3 false] AR) λaJ S=>
      BF A P (Builtin.append_ #[AQ,AQ] AQ #[J4 Q.p Q.len Q.cap,J4 (some (⟨aJ,0,none⟩:Q6)) 1 1]) S λaK aL=> ∃v:Sl,aK=J4 v.p v.len v.cap/\(
      At (some (⟨cb,0,none⟩:Q6)) λaM=>
      ab aL (aM.add 32) (J4 v.p v.len v.cap) λaN=>
      R (J1 #[]) aN)) λK=>
     ae (decide (tick>=(0:Int))) (
      At (some (⟨cb,0,none⟩:Q6)) λaO=>
      AC J9 u ((aO.add 1).add 1) λaP=>
      AA A P NK #[J6 J9 aP,J6 J9 tick,.int .u64 M] u λaQ aR=> ∃ac:A2O,aQ=J7 ac/\(
      K (ac,()) aR)) (
      K (Z,()) u)))):=λf o q ad aS aT=>by
   refine⟨_,rfl,aD (AC.mk (Bl ad.bD.af rfl) (zZ T λu af=>⟨_,rfl,ah.mk λK aU=>?_⟩))⟩;have ai:=ad.on af;have key: ∀(k:aa),Ext u k->K (Ns C.ao tick q,()) k:=λk G=>by
    have E:=ai.on G;refine aU _ _ (aD (AY.mk (s:=x.aq) (Cg E.bD.af rfl) ?_));refine E.bD.fG (p:=⟨Ns C.ao tick q,jC ⟨t.kind,t.ref,t.turn⟩ C.wid,false⟩) E.gS ap λS aj aV aW al aX=>?_
    have aY:=E.step (x':= {x with aq:=aj}) al aX rfl aW;refine I S aV {x with aq:=aj} o q ?_ aS (L.mod.trans (aT.trans ((af.trans G).mod.trans (E.frame al))));unfold Fe;rw[if_neg (by simp[U]),if_neg (by simp[V])];exact aY
   refine ae.intro (λb=>?_) (λb=>?_)
   ·have b:0<=tick:=by simpa using b
    obtain⟨n,rfl⟩: ∃n:Nat,tick=n:=⟨tick.toNat,by omega⟩;refine aD (AC.mk (Bl ai.bD.af rfl) (AOF T (by omega) λk G=>⟨_,rfl,?_⟩));have:=key k G;unfold Ns at this;rw[if_neg (by omega),A6] at this;exact this
   ·have b:tick<0:=by simp at b;omega
    have:=key u Mod.refl;unfold Ns at this;rw[if_pos b] at this;exact this
  refine d.w.number d.at an ao F (λa7=>?_) λa8 f aZ am=>?_
  ·exact Y D y 0 (d.put (by omega) F H) (Hs.dq.refl y) Mod.refl
  ·have a0:Mod (bO g O) D f:=am.ai λc _ e=>⟨e.1,λa1=>e.2 (.inl a1)⟩
   exact Y f (y.j6 C.ao) _ (d.lw aZ am rfl) ⟨rfl,rfl,rfl,λm=>by
    show dD y.u C.ao (y.u C.ao+1) m<=_;unfold dD;split
    ·rename_i a2;subst a2;omega
    ·omega⟩ a0
theorem APt {t:dm}(k:CW B g h s a N sh l i y mp O cb z x C)(m:C.ao<256)(n:y.f C.ao<=2147483647)(o:y.u C.ao+1<16777216)(p:N+1<=1000000)(q:64*a<=B.C)(r:C.aq.length<1000)
  (u: ∀b d e c f,CW B g b s a (N+1) sh l i c mp O cb d e (Fe C ⟨t.kind,t.ref,t.turn⟩ (-1) f)->y.dq c->Mod (bO g O) h b->R (J1 #[]) b):AA A P Iw #[Ay cb,t.v] h R:=by
 refine Rm ?_;unfold MC;refine ak.mk λF _ v j G=>Zp.mk t (Dj v rfl) (sH (k.on j) m n o p q r (by decide) λb d e c f w D E=>⟨rfl,u b d e c f w D (j.mod.trans E)⟩)
theorem sI {t:dm}{tick:Int}(k:CW B g h s a N sh l i y mp O cb z x C)(m:C.ao<256)(n:y.f C.ao<=2147483647)(o:y.u C.ao+1<16777216)(p:N+1<=1000000)(q:64*a<=B.C)(r:C.aq.length<1000)(F:tick<9223372036854775808)
  (u: ∀b d e c f,CW B g b s a (N+1) sh l i c mp O cb d e (Fe C ⟨t.kind,t.ref,t.turn⟩ (if(0:Int)>tick then 0 else tick) f)->y.dq c->Mod (bO g O) h b->R (J1 #[]) b):AA A P G9 #[Ay cb,t.v,J6 J9 tick] h R:=by
 refine UV ?_;unfold Nu;refine ak.mk λG _ v j H=>Zp.mk t (Dj v rfl) (sH (k.on j) m n o p q r (by split<;>omega) λb d e c f w D E=>⟨rfl,u b d e c f w D (j.mod.trans E)⟩)
theorem AMD {key val:A2O}(b:CW B g h s a N sh l i y mp O cb z x C)(k:C.conds.length<1000)(m:C.aq.length<1000)
  (n: ∀d o x',CW B g d s a N sh l i y mp O cb o x' (ny C key val)->Mod (bO g O) h d->R (J1 #[]) d):AA A P Im #[Ay cb,J7 key,J7 val] h R:=by
 refine Rk ?_;unfold Le;dsimp only[At];refine AY.mk (s:=x.conds) (Cg b.bD.af rfl) ?_;refine b.bD.ic (p:=⟨key,⟨#[]⟩,true⟩) b.gS k λF e G q f r=>?_
 have c:=b.step (x':= {x with conds:=e}) f r rfl q;refine AY.mk (s:=x.aq) (Cg c.bD.af rfl) ?_;refine c.bD.fG (p:=⟨key,val,false⟩) c.gS m λt u v w j D=>?_
 have E:=c.step (x':= {x with conds:=e,aq:=u}) j D rfl w;exact n t v _ E ((b.frame f).trans (c.frame j))
theorem APH(u:CW B g h s a N sh l i y mp O cb z x C)(M:0<=C.st.next/\C.st.next<=501)
  (v: ∀n,Ext h n->R (⟨0,(Dc C).1,(Dc C).2,⟨0,⟨#[]⟩,0,0⟩,⟨#[]⟩,⟨none,0,0⟩⟩:bI).v n):AA A P Gb #[Ay cb] h R:=by
 refine PU ?_;unfold Jz;refine ak.mk λo _ w p Q=>?_
 have b:=(u.on p).bD;refine aD (AC.mk (Bl b.af rfl) (ah.mk λK D=>?_));have q: ∀nx:Int,nx=(Dc C).2->K (nx,()) o:=λnx E=>by
  subst E;refine D _ _ (aD (AC.mk (Bl b.af rfl) (aK.mk w (A0 9) λF G H S=>?_)));refine FZ.mk ⟨0,C.st.status,(Dc C).2,⟨0,⟨#[]⟩,0,0⟩,⟨#[]⟩,⟨none,0,0⟩⟩ (Dj G rfl) ?_;exact v F (p.more H λc I=>by subst I;exact A0 _)
 refine ah.mk λJ L=>?_
 have key: ∀j:Bool,j=FE C->J (j,()) o:=λj r=>by
  refine L _ _ (ae.intro (λd=>?_) (λd=>?_))
  ·have d:j=true:=d;rw[wrap_i64 (by omega) (by omega)];refine q _ ?_;unfold Dc;rw[if_pos (by rw[<- r];exact d)]
  ·have d:j=false:=d;refine q _ ?_;unfold Dc;rw[if_neg (by rw[<- r,d];decide)]
 have t:=b.more.len;unfold FE at key;refine aD (AY.mk (s:=x.more) (Cg b.af rfl) (ae.intro (λe=>?_) (λe=>?_)));rotate_left
 ·have e:C.more= []:=by simp at e;exact CC (by omega)
  exact key _ (by simp[e])
 have e:C.more≠ []:=λh=>by rw[h] at t;simp[t] at e
 refine aD (AC.mk (Bl b.af rfl) (ae.intro (λk=>?_) (λk=>key _ (by simp at k;simp[k]))));refine aD (Ab.mk (Bl b.af rfl) (ae.intro (λf=>?_) (λf=>key _ (by have f:C.st.fresh=false:=f;simp[f]))));have f:C.st.fresh=true:=f;refine aD (AC.mk (Bl b.af rfl) (ae.intro (λm=>?_) (λm=>key _ (by simp at m;simp[m]))));refine aD (AC.mk (Bl b.af rfl) (key _ ?_));simp at k m;simp[e,k,f,m];rfl
end
def WH:Ev:=⟨0,2,0,0,0,0,false,⟨#[]⟩⟩
def Em(C:br)(b:Nat):br:=if FE C then Fe (EN C WH) ⟨1,jY (EN C WH),0⟩ (-1) b else C
def sJ(C:br):Int:=if(0:Int)>C.now+20 then 0 else C.now+20
def Az(C:br)(b c:Nat):br:=if C.more≠ []/\(Em C b).st.status≠0 then Fe (Em C b) ⟨7,0,0⟩ (sJ C) c else Em C b
end Go.Lf.G
namespace Go.Lf
open G
open Go
open M (Sorted Ae Cr BG Ag Aw Bf Aj bG BM aS BV)
structure br.grown (C D:br) (n k j:Nat):Prop where
 wid:D.wid=C.wid
 ao:D.ao=C.ao
 cq:D.cq=C.cq
 bW:D.bW=C.bW
 kept:D.kept=C.kept
 conds:D.conds=C.conds
 now:D.now=C.now
 more:D.more.length<=C.more.length+k
 none:C.more≠ []->D.more≠ []
 aq:D.aq.length<=C.aq.length+j
 ok: ∀e∈D.more,Ed e=true/\e.data.size<1099511627776
 st:Du D.st n
end Go.Lf
namespace Go.Lf.G
open Go
open M (Sorted Ae Cr BG Ag Aw Bf Aj bG BM aS BV)
theorem Ik(C:br)(t:gP)(tick:Int)(b:Nat):(Fe C t tick b).st=C.st/\(Fe C t tick b).more=C.more:=by
 unfold Fe;split
 ·exact⟨rfl,rfl⟩
 ·split<;>exact⟨rfl,rfl⟩
theorem Ve {C b:br}{r u v:Nat}(G:C.grown b r u v)(t:gP)(tick:Int)(w:Nat):C.grown (Fe b t tick w) r u (v+1):=by
 obtain⟨c,d,e,f,j,k,m,n,o,D,p,q⟩:=G;unfold Fe;split
 ·exact⟨c,d,e,f,j,k,m,n,o,by omega,p,q⟩
 ·split
  ·exact⟨c,d,e,f,j,k,m,n,o,by show b.aq.length<=_;omega,p,q⟩
  ·exact⟨c,d,e,f,j,k,m,n,o,by show(b.aq++ [_]).length<=_;rw[A1,CN];omega,p,q⟩
theorem VZ {C:br}{b:Nat}(ok: ∀c∈C.more,Ed c=true/\c.data.size<1099511627776)(d:Du C.st b):C.grown C b 0 0:=⟨rfl,rfl,rfl,rfl,rfl,rfl,rfl,A0 _,id,A0 _,ok,d⟩
end Go.Lf.G
namespace Go.Lf
open G
open Go
open M (Sorted Ae Cr BG Ag Aw Bf Aj bG BM aS BV)
theorem Du.up {s:ba}{c m:Nat}(b:Du s c)(h:c<=m):Du s m:=⟨by have:=b.ar;omega,by have:=b.aj;omega,b.steps,b.aA,b.aW,b.next,b.st,b.waits⟩
end Go.Lf
namespace Go.Lf.G
open Go
open M (Sorted Ae Cr BG Ag Aw Bf Aj bG BM aS BV)
theorem LF {C b:br}{v w D:Nat}(G:C.grown b v w D){e:Ev}(hd:e.data.size<1099511627776):C.grown (EN b e) (v+1) (w+1) D:=by
 obtain⟨c,d,f,j,k,m,n,E,t,o,p,q⟩:=G;unfold EN;split
 ·exact⟨c,d,f,j,k,m,n,by omega,t,o,p,q.up (BY _)⟩
 ·split
  ·exact⟨c,d,f,j,k,m,n,by show b.more.length<=_;omega,t,o,p,q.up (BY _)⟩
  ·split
   ·exact⟨c,d,f,j,k,m,n,by show b.more.length<=_;omega,t,o,p,q.up (BY _)⟩
   ·rename_i r;have r:(Bc b.st (CQ b e)).1=0:=by simpa using r
    refine⟨c,d,f,j,k,m,n,by show(b.more++ [_]).length<=_;rw[A1,CN];omega,λ_=>by show b.more++ [_]≠ [];simp,o,λx u=>?_,SH q r⟩;have u:x∈b.more++ [CQ b e]:=u;rcases List.mem_append.1 u with h|h
    ·exact p x h
    ·rw[List.mem_singleton.1 h];exact⟨Pm r,hd⟩
structure Hs.dB (y y':Hs):Prop where
 p:y'.p=y.p
 name:y'.name=y.name
 f:y'.f=y.f
 u: ∀m,y'.u m<=y.u m+2
section
variable {A : al} {B : cI} {g h : aa} {s a N sh cb : Nat} {l : List Hs} {mp : List Pr} {O : Nat -> Prop} {i : Nat} {y : Hs} {z : Nat -> Nat} {x : eK} {C : br} {R : A2N}
theorem FC.ptr {p:Nat}(b:FC h cb z x C)(c:x.hp=p):ag h (⟨cb,0,none⟩:Q6)=some (Ay p):=by have:=Cg (j:=0) b.af rfl;rw[add_zero,c] at this;exact this
theorem FC.qX(b:FC h cb z x C):Cells h (((⟨cb,0,none⟩:Q6).add 1).add 2) (⟨C.cq,C.bW,C.kept⟩:cN).l:=by have c:((⟨cb,0,none⟩:Q6).add 1).add 2=⟨cb,3,none⟩:=rfl;rw[c];exact Dj b.af rfl
end
end Go.Lf.G
namespace Go.Lf
open G
open Go
open M (Sorted Ae Cr BG Ag Aw Bf Aj bG BM aS BV)
theorem Cells.qY {h:aa}{a:Q6}{t:cN}(c:Cells h a t.l):ag h a=some (J6 J9 t.status)/\ag h (a.add 1)=some (J6 J9 t.next)/\ag h (a.add 2)=some (J3 t.kept):=by have b:=c 0 _ rfl;rw[add_zero] at b;exact⟨b,c 1 _ rfl,c 2 _ rfl⟩
end Go.Lf
namespace Go.Lf.G
open Go
open M (Sorted Ae Cr BG Ag Aw Bf Aj bG BM aS BV)
section
variable {A : al} {B : cI} {g h : aa} {s a N sh cb : Nat} {l : List Hs} {mp : List Pr} {O : Nat -> Prop} {i : Nat} {y : Hs} {z : Nat -> Nat} {x : eK} {C : br} {R : A2N}
theorem APM {o:aa}{d:br}(E:cm g)(k:CW B g o s a N sh l i y mp O cb z x d)(aV:Ap d.wid=true)(bE: ∀u∈d.more,Ed u=true/\u.data.size<1099511627776)(bF:d.ao<256)(bG:y.f d.ao<=2147483647)(hA:4+3*a<=B.A)(bH:64*a+64<=B.C)(bI:a+1<=1000000)
  (c6:d.more.length<=900) (c7:d.aq.length<=900) (c8:d.conds.length<=900) (bJ: ∀p∈d.conds,p.key.size<=1099511627776) (c9:0<=d.cq/\d.cq<128) (aW:0<=d.bW/\d.bW<=501) (aX:0<=d.st.status/\d.st.status<=4) (aY:0<=d.st.next/\d.st.next<=501)
  (bK:d.err≠0-> ∀e,LW B g e s a N sh (l.set i y) mp O->Mod (bO g O) o e->R (J6 J9 d.err) e)
  (bL:d.err=0->y.f d.ao=0-> ∀e,LW B g e s a N sh (l.set i y) mp O->Mod (bO g O) o e->R (J6 J9 170) e)
  (bM:d.err=0->y.f d.ao≠0->Bd mp (FD d.ao (y.f d.ao) y.name)=false-> ∀e,LW B g e s a N sh (l.set i (y.lost d.ao)) mp O->Mod (bO g O) o e->R (J6 J9 170) e)
  (bN:d.err=0->y.f d.ao≠0->Bd mp (FD d.ao (y.f d.ao) y.name)=true->dy mp (FD d.ao (y.f d.ao) y.name::(d.conds++ [bq d])) (EI d++d.aq)≠0-> ∀e,LW B g e s a N sh (l.set i y) mp O->Mod (bO g O) o e->R (J6 J9 (dy mp (FD d.ao (y.f d.ao) y.name::(d.conds++ [bq d])) (EI d++d.aq))) e)
  (bP:d.err=0->y.f d.ao≠0->Bd mp (FD d.ao (y.f d.ao) y.name)=true->dy mp (FD d.ao (y.f d.ao) y.name::(d.conds++ [bq d])) (EI d++d.aq)=0-> ∀e,LW B g e s (a+1) N sh (l.set i y) (cS mp (EI d++d.aq)) O->Mod (bO g O) o e->R (J6 J9 0) e):
  At (some (⟨cb,0,none⟩:Q6)) λbQ=>
    AC J9 o (bQ.add 34) λbR=>
    ae (bR != (0:Int)) (
     At (some (⟨cb,0,none⟩:Q6)) λbS=>
     AC J9 o (bS.add 34) λbT=>
     R (J6 J9 bT) o) (
     At (some (⟨cb,0,none⟩:Q6)) λbU=>
     AJ o (bU.add 1) λbV=>
     AA A P Fx #[J7 bV] o λv1 aX=> ∃aZ:A2O,v1=J7 aZ/\(
     ak aX (J2 #[J7 (⟨#[]⟩:A2O),J7 (⟨#[]⟩:A2O),J3 false] AR) λb aY=>
     ab aY (⟨b,0,none⟩:Q6) (J7 aZ) λbW=>
     ab bW ((⟨b,0,none⟩:Q6).add 1) (J7 (⟨#[]⟩:A2O)) λbX=>
     ab bX ((⟨b,0,none⟩:Q6).add 2) (J3 true) λD=>
     ah (λ(da:Unit) v=>
       At (some (⟨cb,0,none⟩:Q6)) λbY=>
       AJ v (bY.add 1) λbZ=>
       At (some (⟨cb,0,none⟩:Q6)) λb0=>
       AY v (b0.add 31) λaA=>
       AA A P OZ #[J7 bZ,J4 aA.p aA.len aA.cap] v λv2 w=> ∃F:Sl,∃aC:Int,v2=J1 #[J4 F.p F.len F.cap,J6 J9 aC]/\(
       ae (aC != (0:Int)) (
        R (J6 J9 aC) w) (
        ah (λ(aE:Sl×Unit) q=>
          At (some (⟨cb,0,none⟩:Q6)) λaf=>
          AZ q af λai=>
          At (some (⟨cb,0,none⟩:Q6)) λaj=>
          AC J9 q ((aj.add 1).add 1) λal=>
          At (some (⟨cb,0,none⟩:Q6)) λa0=>
          AY q (a0.add 33) λL=>
          AJ q (⟨b,0,none⟩:Q6) λb1=>
          AJ q ((⟨b,0,none⟩:Q6).add 1) λb2=>
          Ab q ((⟨b,0,none⟩:Q6).add 2) λb3=>
          ak q (J2 #[J7 b1,J7 b2,J3 b3] AR) λb4 I=>
          And (ag I (a0.add 33)=some (J4 L.p L.len L.cap))<|
          And (ag I ((aj.add 1).add 1)=some (J6 J9 al))<|
          And (ag I af=some (J5 ai))<|
          BF A P (Builtin.append_ #[AQ,AQ] AQ #[J4 L.p L.len L.cap,J4 (some (⟨b4,0,none⟩:Q6)) 1 1]) I λb5 J=> ∃M:Sl,b5=J4 M.p M.len M.cap/\(
          And (ag J ((aj.add 1).add 1)=some (J6 J9 al))<|
          And (ag J af=some (J5 ai))<|
          At (some (⟨cb,0,none⟩:Q6)) λaF=>
          AY J (aF.add 32) λG=>
          And (ag I (aF.add 32)=some (J4 G.p G.len G.cap))<|
          And (ag q (aF.add 32)=some (J4 G.p G.len G.cap))<|
          BF A P (Builtin.append_ #[AQ,AQ] AQ #[J4 aE.1.p aE.1.len aE.1.cap,J4 G.p G.len G.cap]) J λb6 t=> ∃Q:Sl,b6=J4 Q.p Q.len Q.cap/\(
          And (ag t ((aj.add 1).add 1)=some (J6 J9 al))<|
          And (ag t af=some (J5 ai))<|
          AA A P HY #[J5 ai,J6 J9 al,J4 M.p M.len M.cap,J4 Q.p Q.len Q.cap] t λb7 b8=> ∃a1:Int,b7=J6 J9 a1/\(
          R (J6 J9 a1) b8)))) λam=>
         At (some (⟨cb,0,none⟩:Q6)) λb9=>
         AY w (b9.add 31) λca=>
         ae (decide (((ca.len:Nat):Int)>(0:Int))) (
          At (some (⟨cb,0,none⟩:Q6)) λa2=>
          AC J9 w ((a2.add 19).add 2) λa3=>
          At (some (⟨cb,0,none⟩:Q6)) λa4=>
          AC J9 w ((a4.add 19).add 3) λa5=>
          ak w (J2 cN.z.c Iu) λV an=>
          And (ag an ((a4.add 19).add 3)=some (J6 J9 a5))<|
          And (ag an ((a2.add 19).add 2)=some (J6 J9 a3))<|
          aK an (⟨V,0,none⟩:Q6) (⟨a3,a5,false⟩:cN).l λK=>
          At (some (⟨cb,0,none⟩:Q6)) λcc=>
          AJ K (cc.add 1) λcd=>
          AA A P Fx #[J7 cd] K λce a6=> ∃a7:A2O,ce=J7 a7/\(
          NW a6 (⟨V,0,none⟩:Q6) λao=>
          And (ag K (⟨V,0,none⟩:Q6)=some (J6 J9 ao.status)/\ag K ((⟨V,0,none⟩:Q6).add 1)=some (J6 J9 ao.next)/\ag K ((⟨V,0,none⟩:Q6).add 2)=some (J3 ao.kept))<|
          AA A P Eo #[ao.v] a6 λcf a8=> ∃a9:A2O,cf=J7 a9/\(
          ak a8 (J2 #[J7 a7,J7 a9,J3 false] AR) λcg ch=>
          BF A P (Builtin.append_ #[AQ,AQ] AQ #[J4 F.p F.len F.cap,J4 (some (⟨cg,0,none⟩:Q6)) 1 1]) ch λci aG=> ∃S:Sl,ci=J4 S.p S.len S.cap/\(
          am ((⟨S.p,S.len,S.cap⟩:Sl),()) aG)))) (
          am ((⟨F.p,F.len,F.cap⟩:Sl),()) w)))) λap=>
      At (some (⟨cb,0,none⟩:Q6)) λcj=>
      AC J9 D (((cj.add 1).add 2).add 1) λck=>
      ae (decide (ck>(0:Int))) (
       At (some (⟨cb,0,none⟩:Q6)) λcl=>
       AJ D (cl.add 1) λcn=>
       AA A P Fx #[J7 cn] D λco ba=> ∃bb:A2O,co=J7 bb/\(
       At (some (⟨cb,0,none⟩:Q6)) λaq=>
       NW ba ((aq.add 1).add 2) λar=>
       And (ag D ((aq.add 1).add 2)=some (J6 J9 ar.status)/\ag D (((aq.add 1).add 2).add 1)=some (J6 J9 ar.next)/\ag D (((aq.add 1).add 2).add 2)=some (J3 ar.kept))<|
       AA A P Eo #[ar.v] ba λcp bc=> ∃bd:A2O,cp=J7 bd/\(
       ab bc (⟨b,0,none⟩:Q6) (J7 bb) λbe=>
       ab be ((⟨b,0,none⟩:Q6).add 1) (J7 bd) λbf=>
       ab bf ((⟨b,0,none⟩:Q6).add 2) (J3 false) λaH=>
       ap () aH))) (
       ap () D))):=by
 have cq: ∀ {e:aa},CW B g e s a N sh l i y mp O cb z x d->LW B g e s a N sh (l.set i y) mp O:=λcr=>cr.w.less λc f=> .inl f
 refine aD (AC.mk (n:=d.err) (Cg k.bD.af rfl) (ae.intro (λr=>?_) (λr=>?_)))
 ·exact aD (AC.mk (n:=d.err) (Cg k.bD.af rfl) (bK (by simpa using r) o (cq k) Mod.refl))
 have au:d.err=0:=by simpa using r
 have db:=FY aV;refine aD (AJ.mk (n:=d.wid) (Cg k.bD.af rfl) (mG (by omega) ⟨_,rfl,?_⟩));refine ak.pair λb D dc bg aI dd=>?_
 have av:=k.on aI;refine ah.mk λap cs=>?_
 have bh: ∀v,Ext o v->v[b]? =some (J2 #[J7 (bq d).key,J7 (bq d).val,J3 (bq d).gone] AR (0,0))->ap () v:=λv aJ ct=>by
  have W:=k.on aJ;refine cs _ _ (aD (AJ.mk (n:=d.wid) (Cg W.bD.af rfl) (aD (AY.mk (s:=x.more) (Cg W.bD.af rfl) ?_))));refine APq aV W.bD.more.view (by omega) bE λps w aL aM aw=>⟨_,_,rfl,ae.no rfl ?_⟩
  have T:=W.on aw;refine ah.mk λam cu=>?_
  have bi: ∀q (sl:Sl),Ext v q->Own Ba AR q sl (EI d)->(∀ c,sl.af=some c->v.size<=c)->am (sl,()) q:=λq sl ax aN X=>by
   have Y:=W.on ax;have aO:=ax.af ct λh=>h
   refine cu _ _ (aD (AZ.mk (Y.bD.ptr k.hp) (aD (AC.mk (Bl Y.bD.af rfl) (aD (AY.mk (s:=x.conds) (Cg Y.bD.af rfl) ?_))))));refine AJ.mk (AL aO rfl) (AJ.mk (AB aO rfl) (Ab.mk (AB aO rfl) (ak.mk λI _ cv Z de=>?_)));have H:=Y.on Z;refine⟨Cg H.bD.af rfl,Bl H.bD.af rfl,H.bD.ptr k.hp,?_⟩;have src:View Ba I ⟨some ⟨q.size,0,none⟩,1,1⟩ [bq d]:=(Own.lit (E:=Ba) (l:= [bq d]) cv rfl (by simp[maxLen])).view;refine GI (E:=Ba) (s:=x.conds) (src:=⟨some ⟨q.size,0,none⟩,1,1⟩) HZ H.bD.conds src (by simp only[CN];omega) (by simp only[CN,maxLen];omega) λcw J cx ac cy _=>?_
   have bj: ∀c aP,z c=aP->aP≠4-> ¬x.conds.af=some c:=λc aP bk aW u=>by rw[H.bD.zq c u] at bk;exact aW bk.symm
   have ay:=ac.af H.bD.af (bj cb 1 k.bD.zc (by decide));have cz:ag J (⟨cb,0,none⟩:Q6)=some (Ay y.p):=by have:=Cg (j:=0) ay rfl;rw[add_zero,k.hp] at this;exact this
   refine⟨Bl ay rfl,cz,aD (AY.mk (s:=x.aq) (Cg ay rfl) ⟨Cg H.bD.af rfl,Cg Y.bD.af rfl,?_⟩)⟩;have cB:Own Ba AR J x.aq d.aq:=H.bD.aq.mod ac λc f=>bj c 3 (H.bD.zp c f) (by decide)
   have df:=aJ.size;have dg:=ax.size;have dh:=Z.size;have di:=ac.size;have cC:Own Ba AR J sl (EI d):=(aN.ext Z).mod ac λc f u=>by
    have:=k.gS c (by rw[k.bD.zq c u];decide);have:=X c f;omega
   have dj:(EI d).length<=901:=by unfold EI;rw[A1,By];split<;>simp<;>omega
   refine GI (E:=Ba) (s:=sl) (src:=x.aq) HZ cC cB.view (by omega) (by simp only[maxLen];omega) λdk t bm az cD _=>?_
   have cE: ∀c,sl.af=some c-> ¬c=cb:=λc f u=>by
    have:=X c f;have:=k.gS cb (by rw[k.bD.zc];decide);omega
   have bn:=az.af ay (λf=>cE cb f rfl);have cF:ag t (⟨cb,0,none⟩:Q6)=some (Ay y.p):=by have:=Cg (j:=0) bn rfl;rw[add_zero,k.hp] at this;exact this
   refine⟨Bl bn rfl,cF,?_⟩;have cG:Ext o I:=(aJ.trans ax).trans Z;have bo:Mod (λc=>z c≠0) o t:=(cG.mod.trans (ac.ai λc _ f=>by rw[k.bD.zq c f];decide)).then (az.ai λc _ f=> .inr (by have:=X c f;omega));have dl:=az.size;have aQ:LW B g t s a N sh (l.set i y) mp (λc=>(O c\/z c≠0)\/(o.size<=c/\c<t.size)):=k.w.own (bo.ai λc _ f=> .inr f) λc f=>f
   have aR:Mod (bO g O) o t:=k.frame bo;have less: ∀ {e:aa} {bp:Nat} {bs:List Hs} {bt:List Pr},LW B g e s bp N sh bs bt (λc=>(O c\/z c≠0)\/(o.size<=c/\c<t.size))->LW B g e s bp N sh bs bt O:=λU=>U.less λc f=> .inl (.inl f)
   have bu: ∀ {e:aa},Mod (bO g (λc=>(O c\/z c≠0)\/(o.size<=c/\c<t.size))) t e->Mod (bO g O) o e:=λm=>aR.trans (m.ai λc _ f=>⟨f.1,λcH=>f.2 (.inl (.inl cH))⟩)
   have cI:Own Ba AR t cw (d.conds++ [bq d]):=cx.mod az λc f u=>by
    have:=X c u;rcases cy c f with h|h
    ·have:=k.gS c (by rw[k.bD.zq c h];decide);omega
    ·have:=(aN.ext Z).lt u;have:=aN.lt u;omega
   refine aQ.change E k.at bF bG hA bH bI cI.view (by rw[A1,CN];omega) bm.view (λ_ c f=>?_) (λp cJ=>?_) (λcK=>?_) (λad cL e U aS=>?_) (λad aT hd e bv=>?_) λad aT cM e U aS=>?_
   ·have lt:=bm.lt f;rcases cD c f with h|h
    ·have:=X c h;exact .inr (.inr ⟨by omega,lt⟩)
    ·exact .inr (.inr ⟨by omega,lt⟩)
   ·rcases List.mem_append.1 cJ with h|h
    ·exact bJ p h
    ·rw[List.mem_singleton.1 h];unfold bq;have:=Qs d.wid;split<;>(dsimp only;omega)
   ·exact⟨_,rfl,bL au cK t (less aQ) aR⟩
   ·rw[List.set_set] at U;exact⟨_,rfl,bM au ad cL e (less U) (bu aS)⟩
   ·exact⟨_,rfl,bN au ad aT hd e (less (aQ.on bv)) (aR.trans bv.mod)⟩
   ·exact⟨_,rfl,bP au ad aT cM e (less U) (bu aS)⟩
  have bw:=T.bD.more.len;refine aD (AY.mk (s:=x.more) (Cg T.bD.af rfl) (ae.intro (λr=>?_) (λr=>?_)))
  ·have cO:d.more≠ []:=λh=>by rw[h] at bw;simp[bw] at r
   refine aD (AC.mk (Bl T.bD.af rfl) (aD (AC.mk (Bl T.bD.af rfl) (ak.mk λan _ cP bx dm=>?_))));have bz:=T.on bx;refine⟨Bl bz.bD.af rfl,Bl bz.bD.af rfl,aK.mk cP (A0 3) λK cQ cR dn=>?_⟩;have bA:Ext w K:=bx.more cR λc f=>by subst f;exact A0 _
   have cT:=T.on bA;have bB:Cells K (⟨w.size,0,none⟩:Q6) (⟨d.st.status,d.st.next,false⟩:cN).l:=Dj cQ rfl;refine aD (AJ.mk (n:=d.wid) (Cg cT.bD.af rfl) (mG (by omega) ⟨_,rfl,NW.mk ⟨d.st.status,d.st.next,false⟩ bB ⟨bB.qY,?_⟩⟩));refine sC (m:=⟨d.st.status,d.st.next,false⟩) (st:=d.st.status.toNat) (nx:=d.st.next.toNat) (by show d.st.status=_;omega) (by show d.st.next=_;omega) (by omega) (by omega) λa8 cU=>⟨_,rfl,?_⟩
   have aU:=bA.trans cU;refine ak.aZ (E:=Ba) (x:=⟨KX d.wid,Pe d.st.status.toNat d.st.next.toNat false,false⟩) (s:=ps) rfl HZ (aL.ext aU) (by simp only[By];omega) (by simp only[By,maxLen];omega) λcV aG cW cX cY _=>?_
   refine bi aG cV ((aw.trans aU).more cX aM) ?_ λc f=>?_
   ·unfold EI;rw[if_neg cO];exact cW
   ·rcases cY c f with h|h
    ·exact aM c h
    ·have:=aU.size;have:=aw.size;omega
  ·have bC:d.more= []:=by simp at r;exact CC (by omega)
   refine bi w ps aw ?_ aM;unfold EI;rw[bC,if_pos rfl,AM];rw[bC] at aL;exact aL
 refine aD (AC.mk (APL av.bD.af rfl) (ae.intro (λr=>?_) (λr=>?_)))
 ·have r:0<d.bW:=by simpa using r
  refine aD (AJ.mk (n:=d.wid) (Cg av.bD.af rfl) (mG (by omega) ⟨_,rfl,aD (NW.mk ⟨d.cq,d.bW,d.kept⟩ av.bD.qX ⟨av.bD.qX.qY,?_⟩)⟩));refine sC (m:=⟨d.cq,d.bW,d.kept⟩) (st:=d.cq.toNat) (nx:=d.bW.toNat) (by show d.cq=_;omega) (by show d.bW=_;omega) (by omega) (by omega) λbc bD=>⟨_,rfl,?_⟩
  have cZ:=bD.af bg λh=>h
  refine ab.bL (j:=0) cZ (of_decide_eq_true rfl) rfl λbe c0 c1 dp=>ab.bL (j:=1) c0 (of_decide_eq_true rfl) rfl λbf c2 c3 dq=>ab.bL (j:=2) c2 (of_decide_eq_true rfl) rfl λaH c4 c5 dr=>?_
  refine bh aH ((aI.trans bD).more ((c1.trans c3).trans c5) λc f=>by subst f;omega) ?_;unfold bq;rw[if_pos r];exact c4
 ·have r: ¬0<d.bW:=by simpa using r
  refine bh D aI ?_;unfold bq;rw[if_neg r];exact bg
end
section
variable {A : al} {B : cI} {g h : aa} {s a N sh cb : Nat} {l : List Hs} {mp : List Pr} {O : Nat -> Prop} {i : Nat} {y : Hs} {z : Nat -> Nat} {x : eK} {C : br} {R : A2N}
theorem sK {b:Nat}(ok: ∀e∈C.more,Ed e=true/\e.data.size<1099511627776)(d:Du C.st b)(f:Nat):C.grown (Em C f) (b+1) 1 1:=by
 have c:=VZ ok d;unfold Em;split
 ·exact Ve (LF c (e:=WH) (by show 0<1099511627776;decide)) _ _ _
 ·obtain⟨j,k,m,n,o,p,q,v,r,w,t,u⟩:=c;exact⟨j,k,m,n,o,p,q,by omega,r,by omega,t,u.up (BY _)⟩
theorem TI {n:Nat}(ok: ∀b∈C.more,Ed b=true/\b.data.size<1099511627776)(e:Du C.st n)(c f:Nat):C.grown (Az C c f) (n+1) 1 2:=by
 have d:=sK ok e c;unfold Az;split
 ·exact Ve d _ _ _
 ·obtain⟨j,k,m,o,p,q,r,t,u,D,v,w⟩:=d;exact⟨j,k,m,o,p,q,r,t,u,by omega,v,w⟩
theorem sL {af:Nat}(ap:cm g)(n:CW B g h s a N sh l i y mp O cb z x C)(Q:Du C.st af)(aX:af+1<=600)(aq:Ap C.wid=true)(V: ∀e∈C.more,Ed e=true/\e.data.size<1099511627776)(W:C.ao<256)(X:y.f C.ao<=2147483647)(aY:y.u C.ao+2<16777216)(Y:N+2<=1000000)
  (hA:4+3*a<=B.A) (ar:64*a+64<=B.C) (au:a+1<=1000000) (aZ:C.more.length<=800) (a0:C.aq.length<=800) (a1:C.conds.length<=800) (av: ∀p∈C.conds,p.key.size<=1099511627776) (aw:0<=C.cq/\C.cq<128) (ag:0<=C.bW/\C.bW<=501) (a2: -4611686018427387904<=C.now/\C.now<=4611686018427387904)
  (ax:y.f C.ao=0->R (J6 J9 170) h)
  (ay: ∀b c d j,y.dB d->(Az C b c).err≠0->LW B g j s a (N+2) sh (l.set i d) mp O->Mod (bO g O) h j->R (J6 J9 (Az C b c).err) j)
  (az: ∀b c d j,y.dB d->(Az C b c).err=0->Bd mp (FD C.ao (y.f C.ao) y.name)=false->LW B g j s a (N+2) sh (l.set i (d.lost C.ao)) mp O->Mod (bO g O) h j->R (J6 J9 170) j)
  (aA: ∀b c d j,y.dB d->(Az C b c).err=0->Bd mp (FD C.ao (y.f C.ao) y.name)=true->dy mp (FD C.ao (y.f C.ao) y.name::(C.conds++ [bq C])) (EI (Az C b c)++(Az C b c).aq)≠0->LW B g j s a (N+2) sh (l.set i d) mp O->Mod (bO g O) h j->R (J6 J9 (dy mp (FD C.ao (y.f C.ao) y.name::(C.conds++ [bq C])) (EI (Az C b c)++(Az C b c).aq))) j)
  (aC: ∀b c d j,y.dB d->(Az C b c).err=0->Bd mp (FD C.ao (y.f C.ao) y.name)=true->dy mp (FD C.ao (y.f C.ao) y.name::(C.conds++ [bq C])) (EI (Az C b c)++(Az C b c).aq)=0->LW B g j s (a+1) (N+2) sh (l.set i d) (cS mp (EI (Az C b c)++(Az C b c).aq)) O->Mod (bO g O) h j->R (J6 J9 0) j):
  AA A P DW #[Ay cb] h R:=by
 refine QF ?_;unfold KF;have I:64*a<=B.C:=by omega
 refine aD (AZ.mk (n.bD.ptr n.hp) (aD (AC.mk (Bl n.bD.af rfl) (n.w.holds n.at ⟨_,rfl,ae.intro (λf=>ax (by simpa using f)) λf=>?_⟩))));have aE:y.f C.ao≠0:=by simpa using f
 refine ah.mk λK aF=>?_
 have Z: ∀(o:aa) (E:Nat->Nat) (F:eK) (d:Hs) (b c:Nat),CW B g o s a (N+2) sh l i d mp O cb E F (Az C b c)->y.dB d->Mod (bO g O) h o->K () o:=λo E F d b c H k u=>by
  have G:=TI V Q b c;have ab:d.f (Az C b c).ao=y.f C.ao:=by rw[k.f,G.ao]
  have ac:FD (Az C b c).ao (d.f (Az C b c).ao) d.name=FD C.ao (y.f C.ao) y.name:=by rw[ab,G.ao,k.name]
  have ai:bq (Az C b c)=bq C:=by unfold bq;rw[G.bW,G.cq,G.kept,G.wid]
  refine aF _ _ (APM ap H (by rw[G.wid];exact aq) G.ok (by rw[G.ao];exact W) (by rw[ab];exact X) hA ar au (by have:=G.more;omega) (by have:=G.aq;omega) (by rw[G.conds];omega) (by rw[G.conds];exact av) (by rw[G.cq];exact aw) (by rw[G.bW];exact ag) G.st.st G.st.next
   (λv j q w=>ay b c d j k v q (u.trans w)) (λ_ aG=>absurd (by rw[<- ab];exact aG) aE) (λv _ r j q w=>?_) (λv _ r hd j q w=>?_) λv _ r hd j q w=>?_)
  ·rw[ac] at r;rw[G.ao] at q;exact az b c d j k v r q (u.trans w)
  ·rw[ac] at r hd ⊢;rw[ai,G.conds] at hd ⊢;exact aA b c d j k v r hd q (u.trans w)
  ·rw[ac] at r hd;rw[ai,G.conds] at hd;exact aC b c d j k v r hd q (u.trans w)
 have aj:=n.bD.more.len;have aH:y.dB y:=⟨rfl,rfl,rfl,λm=>by omega⟩;refine aD (AY.mk (s:=x.more) (Cg n.bD.af rfl) (ae.intro (λf=>?_) (λf=>?_)));rotate_left
 ·have f:C.more= []:=by simp at f;exact CC (by omega)
  refine Z h z x y 0 0 ?_ aH Mod.refl;have aI:Em C 0=C:=by unfold Em FE;rw[f];rfl
  have:Az C 0 0=C:=by unfold Az;rw[aI,if_neg λh=>h.1 f]
  rw[this];exact n.put (by omega) Y I
 have ak:C.more≠ []:=λh=>by rw[h] at aj;simp[aj] at f
 refine ah.mk λaJ aK=>?_
 have al: ∀(o:aa) (E:Nat->Nat) (F:eK) (d:Hs) (b:Nat),CW B g o s a (N+1) sh l i d mp O cb E F (Em C b)->y.dq d->Mod (bO g O) h o->aJ () o:=λo E F d b H k u=>by
  have G:=sK V Q b;refine aK _ _ (aD (AC.mk (Bl H.bD.af rfl) (ae.intro (λf=>?_) (λf=>?_))))
  ·have f:(Em C b).st.status≠0:=by simpa using f
   refine aD (AC.mk (Cg H.bD.af rfl) ?_);rw[G.now,wrap_i64 (by omega) (by omega)];refine sI (t:=⟨7,⟨#[]⟩,0,0⟩) H (by rw[G.ao];exact W) (by rw[k.f,G.ao];exact X) (by rw[G.ao];have:=k.u C.ao;omega) Y I (by have:=G.aq;omega) (by omega) λj am an aL c S T aM=>⟨rfl,?_⟩
   refine Z j am an aL b c ?_ ⟨T.p.trans k.p,T.name.trans k.name,T.f.trans k.f,λm=>by have:=k.u m;have:=T.u m;omega⟩ (u.trans aM);have e:Az C b c=Fe (Em C b) ⟨7,0,0⟩ (sJ C) c:=by unfold Az;rw[if_pos ⟨ak,f⟩]
   rw[e];exact S
  ·have f:(Em C b).st.status=0:=by simpa using f
   refine Z o E F d b 0 ?_ ⟨k.p,k.name,k.f,λm=>by have:=k.u m;omega⟩ u;have e:Az C b 0=Em C b:=by unfold Az;rw[if_neg λh=>h.2 f]
   rw[e];exact H.put (by omega) Y I
 refine ah.mk λaN aO=>?_
 have J: ∀ad:Bool,ad=FE C->aN (ad,()) h:=λad ao=>by
  refine aO _ _ (ae.intro (λf=>?_) (λf=>?_))
  ·have f:FE C=true:=by rw[<- ao];exact f
   refine Xz (e:=WH) n Q (by omega) (by show 0<1099511627776;decide) (by omega) λag am an S aP=>⟨rfl,?_⟩
   have G:=LF (VZ V Q) (e:=WH) (by show 0<1099511627776;decide);have nx:=G.st.next;refine AOf S G.st.next ⟨_,rfl,?_⟩;refine APt (t:=⟨1,⟨#[]⟩,jY (EN C WH),0⟩) S (by rw[G.ao];exact W) (by rw[G.ao];exact X) (by rw[G.ao];omega) (by omega) I (by have:=G.aq;omega) λaQ aR aS aT b aU aV aW=>⟨rfl,?_⟩
   refine al aQ aR aS aT b ?_ aV (aP.trans aW);have e:Em C b=Fe (EN C WH) ⟨1,jY (EN C WH),0⟩ (-1) b:=by unfold Em;rw[if_pos f]
   rw[e];exact aU
  ·have f:FE C=false:=by rw[<- ao];exact f
   refine al h z x y 0 ?_ (Hs.dq.refl y) Mod.refl;have e:Em C 0=C:=by unfold Em;rw[if_neg (by simp[f])]
   rw[e];exact n.put (by omega) (by omega) I
 have U:=n.bD;unfold FE at J;refine aD (AC.mk (Bl U.af rfl) (ae.intro (λL=>?_) (λL=>J _ (by simp at L;simp[L]))));refine aD (Ab.mk (Bl U.af rfl) (ae.intro (λD=>?_) (λD=>J _ (by have D:C.st.fresh=false:=D;simp[D]))));have D:C.st.fresh=true:=D;refine aD (AC.mk (Bl U.af rfl) (ae.intro (λM=>?_) (λM=>J _ (by simp at M;simp[M]))));refine aD (AC.mk (Bl U.af rfl) (J _ ?_));simp at L M;simp[ak,L,D,M];rfl
end
abbrev gX:Sl:=⟨none,0,0⟩
def mB(wid:A2O)(b:Nat):Option (List Ev)->ck×Int
 |none=>(⟨wid,b,⟨0,0,false⟩,gX,bF.z⟩,180)
 |some l=>(⟨wid,b,⟨(Bj l).status,(Bj l).next,false⟩,gX,bF.z⟩,0)
def dA(b st nx:Int):bI:=⟨b,st,nx,⟨0,⟨#[]⟩,0,0⟩,⟨#[]⟩,gX⟩
def WJ(fl:dd)(wid:A2O):bI:=if Ap wid then(match fl wid with|none=>dA 180 0 0|some l=>dA 0 (Bj l).status (Bj l).next) else dA 1 0 0
theorem VU(x y:ck):Ye y.c 0 x.l=x.c:=rfl
theorem Vj(x y:bI):Ye y.c 0 x.l=x.c:=rfl
theorem V9 {h:aa}{b:Nat}{T:Q7}{fr:Nat×Nat}{x:ck}(c:h[b]? =some (J2 x.c T fr)):Cells h ⟨b,0,none⟩ x.l:=Dj c rfl
theorem WP {h:aa}{b:Nat}{T:Q7}{fr:Nat×Nat}{x:bI}(c:h[b]? =some (J2 x.c T fr)):Cells h ⟨b,0,none⟩ x.l:=Dj c rfl
theorem mC {h:aa}{b:Nat}{T:Q7}{x y:ck}{K:ck->aa->Prop}(f:h[b]? =some (J2 y.c T (0,0)))(j: ∀c,Mod (· =b) h c->K x c):
  aK h ⟨b,0,none⟩ x.l λd=>Hl d ⟨b,0,none⟩ λr=>K r d:=
 aK.mk f (A0 18) λc e m s=>Hl.mk x (V9 (by rw[VU] at e;exact e)) (j c m)
theorem TF {h:aa}{b:Nat}{T:Q7}{x y:bI}{K:bI->aa->Prop}(f:h[b]? =some (J2 y.c T (0,0)))(j: ∀c,Mod (· =b) h c->K x c):
  aK h ⟨b,0,none⟩ x.l λd=>FZ d ⟨b,0,none⟩ λr=>K r d:=
 aK.mk f (A0 9) λc e m s=>FZ.mk x (WP (by rw[Vj] at e;exact e)) (j c m)
theorem YO {b:Ev}(h:Ed b=true):b.data.size<=2000:=by
 obtain⟨t,u,v,f,j⟩:=Qg h;by_cases k:b.kind=1
 ·obtain⟨p,m,ok⟩:=f k;have:=(ZO m).2;have e:=congrArg List.length this;rw[BA] at e;rw[<- e];simp only[Fb,A3,decide_eq_true_eq] at ok;obtain⟨⟨w,o⟩,q⟩:=ok;have x:=BX.1 o;have:=Oa q;have z:=AV (n:=p.aA.toNat) (by omega);have C:=AV (n:=p.steps.length) (by omega);unfold CP;simp only[A1];omega
 ·by_cases r:b.kind=12
  ·have:=FY (j r);omega
  ·have d:=LD h;unfold EQ at d;simp only[A3,Cl,decide_eq_true_eq] at d;rcases d.2 with c|c
   ·rw[c];decide
   ·unfold dP at c;simp at c;omega
section
variable {A : al} {B : cI} {g h : aa} {s a N sh : Nat} {l : List Hs} {mp : List Pr} {O : Nat -> Prop} {i : Nat} {y : Hs} {fl : dd} {an : du} {R : A2N}
theorem LW.get {key:A2O}(c:LW B g h s a N sh l mp O)(d:key.size<=1099511627776)(e: ∀b,Ext h b->R (J1 #[J7 (JH mp key).1,J3 (JH mp key).2,J6 J9 0]) b):AA A P Eu #[Ay s,J7 key] h R:=by obtain⟨j,k,st,m,n,nn,f,o,rfl,p,q,out⟩:=c;exact qN f d e
theorem LW.scan {p f:A2O}{d:Int}(e:LW B g h s a N sh l mp O)(j:p.size<=1099511627776)(k: ∀sl b,Own Ba AR b sl (kp mp p f d)->(∀ c,sl.af=some c->h.size<=c)->Ext h b->R (J1 #[J4 sl.p sl.len sl.cap,J6 J9 0]) b):AA A P JG #[Ay s,J7 p,J7 f,J6 J9 d] h R:=by obtain⟨o,q,st,m,r,nn,n,t,rfl,u,v,out⟩:=e;exact AMx n j k
theorem LW.dG(d:LW B g h s a N sh l mp O)(b:l[i]? =some y):h[y.p]? =some (J2 #[Ay s,J7 y.name,J6 J9 (sh:Int),.map (some y.bh),.map (some y.bu)] Ql (0,0))/\1<=sh/\sh<=16:=by obtain⟨e,f,st,m,j,nn,k,n,o,c,p,out⟩:=d;exact⟨(c.host i y b).cell,(c.host i y b).sh⟩
theorem LW.store(b:LW B g h s a N sh l mp O)(c:l[i]? =some y)(d:R (Ay s) h):AA A P FW #[Ay y.p] h R:=by refine UL ?_;unfold OL;exact ae.no rfl (aD (AZ.mk (AL (b.dG c).1 rfl) d))
theorem LW.aF(b:LW B g h s a N sh l mp O)(c:l[i]? =some y)(d:R (J6 J9 (sh:Int)) h):AA A P GV #[Ay y.p] h R:=by refine TW ?_;unfold Ma;exact ae.no rfl (aD (AC.mk (AB (b.dG c).1 rfl) d))
theorem Jl.eQ(b:Jl mp fl an){wid:A2O}(c:Ap wid=true):JH mp (KX wid)=match fl wid with|none=>(⟨#[]⟩,false)|some l=>(Pe (Bj l).status.toNat (Bj l).next.toNat false,true):=by unfold JH;rw[b.hZ wid c];cases fl wid<;>rfl
theorem Jl.fE(c:Jl mp fl an){b:A2O}(d:Ap b=true):JH mp (MQ b)=match an b with|none=>(⟨#[]⟩,false)|some x=>(iP x.1 x.2.1.toNat x.2.2.toNat,true):=by unfold JH;rw[c.jG b d];cases an b<;>rfl
theorem oR {wid:A2O}(v:LW B g h s a N sh l mp O)(o:l[i]? =some y)(w:Jl mp fl an)
  (G:Ap wid=false-> ∀f,Ext h f->R (J1 #[ck.z.v,J6 J9 1]) f)
  (H:Ap wid=true-> ∀f,Ext h f->R (J1 #[(mB wid (A8 wid sh) (fl wid)).1.v,J6 J9 (mB wid (A8 wid sh) (fl wid)).2]) f):
  AA A P JX #[Ay y.p,J7 wid] h R:=by
 obtain⟨-,I,J⟩:=v.dG o;refine AA5 ?_;unfold Uh;refine ak.mk λL _ z p Z=>ah.mk λK M=>ae.no rfl (FN ⟨_,rfl,M _ _ ?_⟩)
 cases m:Ap wid with
 |false=>exact ae.yes rfl (mC z λb Q=>G m b (p.more Q λc j=>by subst j;exact A0 _))
 |true=>
  have ab:=FY m;have q:=v.on p;have C: ∀ {b d:aa} {x:ck} {r:Int},Ext L b->Mod (· =h.size) b d->(x,r)=mB wid (A8 wid sh) (fl wid)->R (J1 #[x.v,J6 J9 r]) d:=λ{b d x r} k t S=>by
   have:=H m d ((p.trans k).more t λc j=>by subst j;exact A0 _);rw[<- S] at this;exact this
  refine ae.no rfl (q.aF o ⟨_,rfl,Xi (by omega) I J ⟨_,_,rfl,ae.no rfl (q.store o ⟨_,rfl,mG (by omega) ⟨_,rfl,?_⟩⟩)⟩⟩);refine q.get (by rw[Qs];omega) λb k=>?_
  rw[w.eQ m];have D:=k.af z λh=>h
  cases u:fl wid with
  |none=>
   refine⟨_,_,_,rfl,ae.no rfl (ae.yes rfl (mC D λd t=>?_))⟩;exact C k t (by rw[u];rfl)
  |some e=>
   have n:=w.dX wid e u;have nx:=n.next.1;have ac:=n.len;have st:=n.st;have ad:1<=e.length:=List.length_pos_iff.2 n.ne;refine⟨_,_,_,rfl,ae.no rfl (ae.no rfl (AJB (by omega) (by omega) (by omega) λd E=>nC.mk _ ⟨_,rfl,?_⟩))⟩;refine ak.mk λaf _ T U ag=>aK.mk T (A0 3) λV W X ai=>?_
   have F:Ext b V:=(E.trans U).more X λc j=>by subst j;exact E.size
   refine NW.mk _ (Dj W rfl) (mC (F.af D λh=>h) λaj Y=>?_);refine C (k.trans F) Y ?_;rw[u];unfold mB;rw[show(((Bj e).status.toNat:Nat):Int)=(Bj e).status from by omega,show(((Bj e).next.toNat:Nat):Int)=(Bj e).next from by omega]
theorem yT {wid:A2O}(I:LW B g h s a N sh l mp O)(J:l[i]? =some y)(K:Jl mp fl an)
  (w: ∀e,Ext h e->R (WJ fl wid).v e):AA A P IL #[Ay y.p,J7 wid] h R:=by
 refine VJ ?_;unfold Oi;refine ak.mk λL _ M z ac=>?_
 have C: ∀ {x:ck} {n:Int} {f:aa},Ext L f->(n≠0->(dA n 0 0)=WJ fl wid)->(n=0->(dA 0 x.me.status x.me.next)=WJ fl wid)->
   ak f (J2 ck.z.c Bg) λp D=>aK D (⟨p,0,none⟩:Q6) x.l λd=>ae (n != (0:Int)) (
    aK d (⟨h.size,0,none⟩:Q6) (⟨n,0,0,⟨0,(⟨#[]⟩:A2O),0,0⟩,(⟨#[]⟩:A2O),(⟨none,0,0⟩:Sl)⟩:bI).l λb=>
    FZ b (⟨h.size,0,none⟩:Q6) λQ=>
    R (Q.v) b) (
    AC J9 d ((⟨p,0,none⟩:Q6).add 2) λS=>
    AC J9 d (((⟨p,0,none⟩:Q6).add 2).add 1) λT=>
    aK d (⟨h.size,0,none⟩:Q6) (⟨0,S,T,⟨0,(⟨#[]⟩:A2O),0,0⟩,(⟨#[]⟩:A2O),(⟨none,0,0⟩:Sl)⟩:bI).l λE=>
    FZ E (⟨h.size,0,none⟩:Q6) λU=>
    R (U.v) E):=λ{x n f} j V W=>by
  refine ak.mk λD _ X Y ad=>aK.mk X (A0 18) λd q Z af=>?_
  have F:Ext f d:=Y.more Z λc r=>by subst r;exact A0 _
  rw[VU] at q;have G:=F.af (j.af M λh=>h) λh=>h
  have H: ∀e,Mod (· =h.size) d e->Ext h e:=λe m=>((z.trans j).trans F).more m λc r=>by subst r;exact A0 _
  refine ae.intro (λt=>TF G λb u=>?_) (λt=>?_)
  ·have:=w b (H b u);rw[<- V (by simpa using t)] at this;exact this
  ·refine AC.mk (n:=x.me.status) (Cg (by exact q) rfl) (AC.mk (n:=x.me.next) (Bl (by exact q) rfl) (TF G λb u=>?_));have:=w b (H b u);rw[<- W (by simpa using t)] at this;exact this
 refine oR (I.on z) J K (λo f j=>Mf.mk _ ⟨_,rfl,C j (λ_=>by unfold WJ;rw[o];rfl) λh=>by cases h⟩) λo f j=>Mf.mk _ ⟨_,rfl,C j (λk=>?_) λk=>?_⟩
 ·unfold WJ;rw[o,if_pos rfl];cases v:fl wid with
  |none=>rfl
  |some ab=>rw[v] at k;exact absurd rfl k
 ·unfold WJ;rw[o,if_pos rfl];cases v:fl wid with
  |none=>rw[v] at k;cases k
  |some ab=>rfl
theorem yU {e:A2O}(M:LW B g h s a N sh l mp O)(Q:l[i]? =some y)(z:Jl mp fl an)(C:Ap e=true)
  (D: ∀E,Ext h E->R (match an e with|none=>J1 #[J7 ⟨#[]⟩,bI.z.v,J3 false,J6 J9 0]|some x=>J1 #[J7 (AX x.1),(dA 0 x.2.1 x.2.2).v,J3 true,J6 J9 0]) E):AA A P KR #[Ay y.p,J7 e] h R:=by
 have ag:=FY C;refine Va ?_;unfold Ou;refine ak.mk λai _ S f aj=>?_
 have F:=M.on f;refine F.store Q ⟨_,rfl,sA (by omega) ⟨_,rfl,F.get (by rw[UC];omega) λj k=>?_⟩⟩;rw[z.fE C];have m:=k.af S λh=>h
 cases o:an e with
 |none=>
  refine⟨_,_,_,rfl,ah.mk λK p=>ae.no rfl (p _ _ (ae.yes rfl (TF m λG T=>?_)))⟩;have:=D G ((f.trans k).more T λc d=>by subst d;exact A0 _);rw[o] at this;exact this
 |some x=>
  obtain⟨⟨al,am⟩,⟨ao,ap⟩,aq⟩:=z.jH e x o;refine⟨_,_,_,rfl,ah.mk λK p=>ae.no rfl (p _ _ (ae.no rfl ?_))⟩;unfold iP;have ar:=GX (n:=x.2.1.toNat) (by omega);have au:=GX (n:=x.2.2.toNat) (by omega);have av:=AV (n:=x.1.length) (by omega);have aw:(BR x.1).length<=2010:=by unfold BR;rw[A1];omega
  refine KP λG H q=>⟨_,rfl,Hy H (by simp only[A1];omega) λax U r=>⟨_,rfl,?_⟩⟩
  rw[JD (by omega)] at*
  refine DR (most:=4) U (by simp only[A1];omega) (by decide) λay V t=>⟨_,rfl,?_⟩
  rw[Ci (by omega) (by omega)] at*
  have W:Bw 501 ⟨BZ x.2.2.toNat,false⟩=(x.2.2.toNat,⟨[],false⟩):=by have:=Ci (n:=x.2.2.toNat) (most:=501) (by omega) (by omega) [];rwa [AM] at this
  refine DR (most:=501) V (by simp only;omega) (by decide) λX Y u=>⟨_,rfl,?_⟩
  rw[W] at*
  refine ak.mk λaz _ Z v aA=>aK.mk Z (A0 9) λI J w aC=>?_
  have aD:=q.size;have aE:=r.size;have aF:=t.size;have aG:=u.size;have aH:=Af m;have aa:Ib I j.size ⟨[],false⟩:=w.af (v.af Y λh=>h) (by have:=Af H;omega);refine Mt aa ⟨_,rfl,ae.no rfl ?_⟩;rw[Vj] at J;have ab:=w.af (v.af (u.af (t.af (r.af (q.af m λh=>h) (by omega)) (by omega)) (by omega)) λh=>h) (b:=h.size) (by omega);refine FZ.mk _ (WP J) (TF ab λac ad=>?_);have L:Ext j X:=q.more ((r.trans t).trans u) λc d=>by subst d;exact A0 _
  have af:Ext j I:=(L.trans v).more w λc d=>by subst d;exact L.size
  have:=D ac (((f.trans k).trans af).more ad λc d=>by subst d;exact A0 _);rw[o] at this;rw[show((x.2.1.toNat:Nat):Int)=x.2.1 from by omega,show((x.2.2.toNat:Nat):Int)=x.2.2 from by omega];exact this
end
theorem yV {wid:A2O}{l:List Ev}{b i:Nat}{p:Pr}(h:(((RX wid l).drop b).take 32)[i]? =some p): ∃c,l[b+i]? =some c/\p=OQ wid c:=by
 rw[Fl] at h;split at h
 ·rw[Bm] at h;exact QJ h
 ·cases h
theorem Ia.fresh {h j:aa}{k:Nat->Prop}{s:ba}{a b c:Sl}{n:Nat}(o:Ia h s a b c)(m:Mod k h j)(fr: ∀x,a.af=some x\/b.af=some x\/c.af=some x->n<=x)(f: ∀c,k c->c<n):Ia j s a b c:=
 o.mod m (λx d e=>by have:=fr x (.inl d);have:=f x e;omega) (λx d e=>by have:=fr x (.inr (.inl d));have:=f x e;omega) (λx d e=>by have:=fr x (.inr (.inr d));have:=f x e;omega)
section
variable {A : al} {B : cI} {g h : aa} {s a N sh : Nat} {l : List Hs} {mp : List Pr} {O : Nat -> Prop} {i : Nat} {y : Hs} {fl : dd} {an : du} {R : A2N}
theorem oS {wid:A2O}{d:List Ev}{aX:J0}(ai:LW B g h s a N sh l mp O)(D:l[i]? =some y)(aj:Jl mp fl an)(al:Ap wid=true)(am:fl wid=some d)
  (aY: ∀U e F G H,Ext h U->View fW U e d->Ia U (Bj d) F G H->(∀ x,F.af=some x\/G.af=some x\/H.af=some x->h.size<=x)->(∀ x,e.af=some x->h.size<=x)->
   R (J1 #[(⟨wid,(A8 wid sh:Int),⟨(Bj d).status,(Bj d).next,false⟩,e,(Bj d).V F G H⟩:ck).v,J6 J9 0]) U):AA A P H7 #[Ay y.p,aX,J7 wid] h R:=by
 have V:=aj.dX wid d am;obtain⟨nx,aA⟩:=V.next;have aZ:=V.len;have bK:1<=d.length:=List.length_pos_iff.2 V.ne;have a0:=FY al;refine ABR ?_;unfold Ul;refine ak.mk λW _ ao v bL=>?_
 refine oR (ai.on v) D aj (λh=>by rw[al] at h;cases h) λ_ k aC=>?_
 rw[am];refine Mf.mk _ ⟨_,rfl,ak.mk λbM _ a1 a2 bN=>aK.mk a1 (A0 18) λX M a3 bO=>ae.no rfl ?_⟩;rw[VU] at M;have ap:Ext k X:=a2.more a3 λc f=>by subst f;exact A0 _
 have aD:Ext W X:=aC.trans ap;have bP:=Af ao;have a4:=aC.size;have bQ:=ap.size;have bR:X[h.size]? =some (J2 ck.z.c Bg (0,0)):=aD.af ao λh=>h
 let fv:Sl->ck:=λe=>⟨wid,(A8 wid sh:Int),⟨(Bj d).status,(Bj d).next,false⟩,e,bF.z⟩
 have M:X[k.size]? =some (J2 (fv gX).c Bg (0,0)):=M;refine ah.mk λK a5=>Ab.mk (n:=false) (Bl M rfl) (ae.no rfl ?_)
 refine Loop.rule (λm x r=> ∃e:Sl,m=d.length-e.len/\e.len<=d.length/\Ext W r/\Ext k r/\r[k.size]? =some (J2 (fv e).c Bg (0,0))/\Own fW BD r e (d.take e.len)/\(∀ b,e.af=some b->k.size<b)) ?_
  ⟨gX,rfl,As _,aD,ap,M,Own.nil,λb j=>by simp[Sl.af] at j⟩
 rintro bS m _ aq ⟨e,rfl,a6,Q,aE,t,S,fr⟩ a7;refine AY.mk (s:=e) (Cg t rfl) (AC.mk (n:=(Bj d).next) (Bl t rfl) ?_);rw[nx,wrap_i64 (by omega) (by omega)];have aF:LW B g aq s a N sh l mp O:=ai.on (v.trans Q);refine ae.intro (λw=>?_) (λw=>?_)
 ·have bT:e.len<d.length:=by simp at w;omega
  refine aF.store D ⟨_,rfl,sx (by omega) λaG Y=>⟨_,rfl,?_⟩⟩;have a8:=Y.af t λh=>h
  refine AY.mk (s:=e) (Cg a8 rfl) ⟨Cg t rfl,Cg t rfl,?_⟩;rw[Aa (by omega)];refine sy (by omega) (by omega) λa9 ar=>⟨_,rfl,?_⟩
  have au:=Y.trans ar;have ba:=aF.on au;refine ba.scan (by have:=ALc a0;omega) λps I av bb bc=>⟨_,_,rfl,ae.no rfl ?_⟩
  rw[yS ai.sorted aj al am a6] at av;have u:=au.trans bc;have aH:=av.len;have bU:ps.len=min 32 (d.length-e.len):=by rw[aH,AE,DE];unfold RX;rw[By]
  refine ae.no (by simp;omega) ?_;have bd:=Q.trans u;have be:=aE.trans u;refine Loop.rule (λm x r=> ∃(o:Nat) (q:Sl),x=((o:Int),())/\m=ps.len-o/\o<=ps.len/\q.len=e.len+o/\Ext W r/\Ext k r/\Mod (λc=>c=k.size\/e.af=some c) I r/\r[k.size]? =some (J2 (fv q).c Bg (0,0))/\Own fW BD r q (d.take q.len)/\(∀ b,q.af=some b->k.size<b/\(e.af=some b\/I.size<=b))) ?_
   ⟨0,e,rfl,rfl,As _,rfl,bd,be,Mod.refl,u.af t λh=>h,S.ext u,λb j=>⟨fr b j,.inl j⟩⟩
  rintro bV m _ aw ⟨o,q,rfl,rfl,aI,bf,aJ,aL,ax,J,aM,L⟩ bg;dsimp only;refine ae.intro (λw=>?_) (λw=>?_)
  ·have Z:o<ps.len:=by simpa using w
   have bW:e.len+o<d.length:=by omega
   obtain⟨p,aN⟩: ∃p,(((RX wid d).drop e.len).take 32)[o]? =some p:=⟨_,A2 (by rw[<- aH];exact Z)⟩;obtain⟨z,aa,rfl⟩:=yV aN;have ok:=(aA _ _ aa).2;have hd:=YO ok;have bX:=vT (LD ok) (by omega);have bh:View Ba aw ps (((RX wid d).drop e.len).take 32):=(av.view.mod ax λb j f=>by
    have:=bb b j;have:=au.size;have:=aE.size;have:=Af t;rcases f with rfl|f
    ·omega
    ·have:=S.lt f;omega)
   refine bh.idx aN λbY _ bi=>?_
   obtain⟨bj,bk,bm⟩:=bi.pair;refine AJ.mk bj (AJ.mk bk (Ab.mk bm (ak.pair λb ac bZ bn aO b0=>AJ.mk (n:=AX (Mh z)) (AB bn rfl) ?_)));refine AI3 (by omega) λb1 aP=>?_
   rw[(ALM (by omega)).2 ⟨ok,rfl⟩];refine nA.mk z ⟨_,rfl,ak.mk λb2 _ bo bp b3=>aK.mk bo (A0 8) λbq aQ br b4=>ae.no rfl ?_⟩;rw[p5] at aQ;have C:Ext aw bq:=((aO.trans aP).trans bp).more br λc f=>by subst f;exact(aO.trans aP).size
   refine AY.mk (s:=q) (Cg (C.af J λh=>h) rfl) (Mo.mk z (Ph aQ) ?_);refine ak.aZ (E:=fW) (x:=z) (s:=q) rfl vS (aM.ext C) (by simp only[AE];omega) (by simp only[AE,maxLen];omega) λT b5 aR ad bs b6=>?_
   have b7:=Af J;have b8:=C.size;have b9:=ax.size;have bt: ¬q.af=some k.size:=λh=>by have:=(L _ h).1;omega
   refine ab.bL (dR:=(fv T).c) (ad.af (C.af J λh=>h) bt) (of_decide_eq_true rfl) rfl λca bu af cb=>?_
   rw[Aa (by omega)];have aS:T.len=e.len+(o+1):=by have:=aR.len;rw[A1,AE,CN] at this;omega
   have cc:=v.size;have aT: ∀b,T.af=some b->k.size<b/\(e.af=some b\/I.size<=b):=λb j=>by
    rcases bs b j with h|h
    ·exact L b h
    ·exact⟨by omega,.inr (by omega)⟩
   have bv: ∀b,q.af=some b->W.size<=b:=λb j=>by have:=(L b j).1;omega
   refine bg (ps.len-(o+1)) _ _ (by omega) ⟨o+1,T,rfl,rfl,Z,aS,((aJ.trans C).more ad bv).more af λc f=>by subst f;exact a4,((aL.trans C).more ad λb j=>by have:=(L b j).1;omega).more af λc f=>by subst f;exact A0 _,?_,bu,?_,aT⟩
   ·refine(ax.trans C.mod).then ((ad.ai λc _ f=>?_).trans (af.ai λc _ f=>?_))
    ·rcases(L c f).2 with h|h
     ·exact .inl (.inr h)
     ·exact .inr h
    ·exact .inl (.inl f)
   ·have bw:d.take T.len=d.take q.len++ [z]:=by rw[aS,bf,<-Ge,AD,aa];rfl
    rw[bw];exact aR.mod af λb j f=>by have:=(aT b j).1;omega
  ·have Z:o=ps.len:=by simp at w;omega
   subst Z;exact a7 (d.length-q.len) _ _ (by omega) ⟨q,rfl,by omega,aJ,aL,J,aM,λb j=>(L b j).1⟩
 ·have bx:e.len=d.length:=by simp at w;omega
  rw[bx,BW] at S;refine a5 () aq (AY.mk (s:=e) (Cg t rfl) ?_);refine AIk S.view aZ (λz aa=>by
   obtain⟨o,aI⟩:=G3 aa;have:=YO (aA o z aI).2;omega) V.ok λaG F G H Y bz aU=>Gt.mk _ ⟨_,_,rfl,?_⟩
  refine ak.mk λa9 _ bA ar cd=>aK.mk bA (A0 12) λI ag bB ce=>?_
  rw[OG] at ag;have aV:Ext aG I:=ar.more bB λc f=>by subst f;exact A0 _
  have u:=Y.trans aV;have ay:=u.af t λh=>h
  have bC:=u.af ((Q.af ao λh=>h)) λh=>h
  refine ah.mk λcf bD=>ae.no rfl (AC.mk (n:=(Bj d).next) (AB ag rfl) (AC.mk (n:=(Bj d).next) (Bl ay rfl) ?_))
  refine ae.no (by simp) (AC.mk (n:=(Bj d).status) (AB ag rfl) (AC.mk (n:=(Bj d).status) (Cg ay rfl) (bD _ _ (ae.no (by simp) ?_))));have bE:=bz.ext aV;have cg:=Af t;have ch:=Q.size;have ci:=u.size;refine Av.mk _ (Eh ag) ?_;have bG:(⟨k.size,0,none⟩:Q6).add 6=⟨k.size,6,none⟩:=rfl;rw[bG];refine aK.mk ay (of_decide_eq_true rfl) λaw J aW cj=>?_
  refine Hl.mk ⟨wid,(A8 wid sh:Int),⟨(Bj d).status,(Bj d).next,false⟩,e,(Bj d).V F G H⟩ (V9 (by exact J)) (mC (aW.af bC (by omega)) λac bH=>?_);have az:Mod (λc=>c=k.size\/c=h.size) I ac:=(aW.ai λc _ f=> .inl f).trans (bH.ai λc _ f=> .inr f);have bI:=bE.fresh (n:=aq.size) az aU λc f=>by omega
  have bJ:View fW ac e d:=(S.view.ext u).mod az λb j f=>by have:=fr b j;omega
  refine aY ac e F G H ((v.trans (Q.trans u)).more az λc f=>by have:=v.size;omega) bJ bI (λx D=>by have:=aU x D;have:=v.size;omega) λx D=>by have:=fr x D;have:=v.size;omega
end
theorem QC {a v:A2O}(b:a≠⟨#[]⟩)(c:a.size<=64)(d:v.size<=8192):Aj ⟨a,v,false⟩=0:=by unfold Aj;rw[if_neg (by simp[b]),if_neg (by simp;omega)]
theorem WY {a:A2O}(b:0<a.size):a≠⟨#[]⟩:=λc=>by rw[c] at b;cases b
theorem rO: ∀ {l:List Pr},(∀ p∈l,Aj p=0)->Fh l=0
 | [],_=>rfl
 |x::l,a=>by
  unfold Fh;rw[if_neg (by rw[a x (by simp)];decide)];exact rO λp b=>a p (by simp[b])
theorem rP {l:List Pr}(a:l≠ [])(c:l.length<=64)(b: ∀p∈l,Aj p=0):EK l=0:=by unfold EK;rw[if_neg (by rw[US];exact a),if_neg (by omega)];exact rO b
theorem yW {wid:A2O}{a:Ev}(c:Ap wid=true)(b:Ed a=true):Aj (OQ wid a)=0:=by
 have d:=FY c;have e:=ANQ d a.id.toNat;have hd:=YO b;have f:=vT (LD b) (by omega);refine QC (WY ?_) (by omega) ?_
 ·unfold dV;rw[AP];unfold jX;simp
 ·rw[AP];omega
theorem yX {wid:A2O}{st nx:Nat}{a:Bool}(b:Ap wid=true)(c:st<128)(d:nx<=501):Aj ⟨KX wid,Pe st nx a,false⟩=0:=by have e:=FY b;have:=AI1 (kept:=a) c d;exact QC (WY (by rw[Qs];omega)) (by rw[Qs];omega) (by omega)
theorem yY {a:A2O}{x:List UInt8×Int×Int}(b:Ap a=true)(c:0<=x.2.1/\x.2.1<=4)(d:0<=x.2.2/\x.2.2<=501)(e:x.1.length<=2000):Aj (XM a x)=0:=by have f:=FY b;have g:=GX (n:=x.2.1.toNat) (by omega);have h:=GX (n:=x.2.2.toNat) (by omega);have i:=AV (n:=x.1.length) (by omega);refine QC (WY (by rw[UC];omega)) (by rw[UC];omega) ?_;unfold iP BR;rw[AP];simp only[A1];omega
theorem oT {t:gP}{wid:A2O}{a b:Nat}{tick:Int}(c:Ju t wid=true):Aj ⟨Ns a tick b,jC t wid,false⟩=0/\(CY (Ns a tick b)≠104/\CY (Ns a tick b)≠119/\CY (Ns a tick b)≠114)/\CY (Ns a tick b)≠108:=by
 unfold Ju at c;simp only[A3,BX] at c;obtain⟨⟨⟨⟨e,f⟩,d⟩,g,h⟩,i,j⟩:=c;have:=AId (kind:=t.kind.toNat) (wid:=wid) (ref:=t.ref.toNat) (turn:=t.turn.toNat) (by omega) (FY d) (by omega) (by omega);unfold Ns jC;split
 ·rw[AJN];exact⟨QC (WY (by rw[Zc];omega)) (by rw[Zc];omega) (by omega),⟨by decide,by decide,by decide⟩,by decide⟩
 ·rw[AIY];exact⟨QC (WY (by rw[ZT];omega)) (by rw[ZT];omega) (by omega),⟨by decide,by decide,by decide⟩,by decide⟩
end Go.Lf.G
namespace Go.Lf
open G
open Go
open M (Sorted Ae Cr BG Ag Aw Bf Aj bG BM aS BV)
def br.fits(a:br)(b:List Ev):Prop:=ES Rf (b++a.more)=some a.st
end Go.Lf
namespace Go.Lf.G
open Go
open M (Sorted Ae Cr BG Ag Aw Bf Aj bG BM aS BV)
theorem OM {C:br}{l0:List Ev}{e:Ev}(a:C.fits l0):(EN C e).fits l0:=by
 unfold EN;split
 ·exact a
 ·split
  ·exact a
  ·split
   ·exact a
   ·rename_i b;have b:(Bc C.st (CQ C e)).1=0:=by simpa using b
    show ES Rf (l0++(C.more++ [CQ C e]))=_;rw[<- A4];exact AG5 a b
theorem X8 {a:br}{c:List Ev}{t:gP}{tick:Int}{b:Nat}(d:a.fits c):(Fe a t tick b).fits c:=by unfold br.fits;rw[(Ik a t tick b).1,(Ik a t tick b).2];exact d
theorem rQ {a:br}{b:List Ev}{c f:Nat}(d:a.fits b):(Az a c f).fits b:=by
 have e:(Em a c).fits b:=by
  unfold Em;split
  ·exact X8 (OM d)
  ·exact d
 unfold Az;split
 ·exact X8 e
 ·exact e
abbrev iK:=Option (A2O×(List UInt8×Int×Int))
end Go.Lf.G
namespace Go.Lf
open G
open Go
open M (Sorted Ae Cr BG Ag Aw Bf Aj bG BM aS BV)
structure br.beside (C:br) (o:iK):Prop where
 ok: ∀p∈C.aq,Aj p=0
 fi: ∀p∈C.aq,(CY p.key≠104/\CY p.key≠119/\CY p.key≠114)\/ ∃r x,o=some (r,x)/\p=XM r x
 kq: ∀p∈C.aq,CY p.key≠108
end Go.Lf
namespace Go.Lf.G
open Go
open M (Sorted Ae Cr BG Ag Aw Bf Aj bG BM aS BV)
theorem LG {a:br}{c:iK}(b:a.beside c)(d:Ev):(EN a d).beside c:=by have:=(YQ a d).2.2.2.2.2.1;exact⟨by rw[this];exact b.ok,by rw[this];exact b.fi,by rw[this];exact b.kq⟩
theorem TE {d:br}{f:iK}(a:d.beside f)(t:gP)(tick:Int)(g:Nat):(Fe d t tick g).beside f:=by
 unfold Fe;split
 ·exact a
 ·split
  ·exact⟨a.ok,a.fi,a.kq⟩
  ·rename_i c;have c:Ju t d.wid=true:=by simpa using c
   refine⟨λp e=>?_,λp e=>?_,λp e=>?_⟩<;>rcases List.mem_append.1 e with b|b
   ·exact a.ok p b
   ·rw[List.mem_singleton.1 b];exact(oT c).1
   ·exact a.fi p b
   ·rw[List.mem_singleton.1 b];exact .inl (oT c).2.1
   ·exact a.kq p b
   ·rw[List.mem_singleton.1 b];exact(oT c).2.2
theorem Wx {a:br}{b:iK}(c:a.beside b)(d f:Nat):(Az a d f).beside b:=by
 have e:(Em a d).beside b:=by
  unfold Em;split
  ·exact TE (LG c _) _ _ _
  ·exact c
 unfold Az;split
 ·exact TE e _ _ _
 ·exact e
theorem yZ {d:br}{r:A2O}{x:List UInt8×Int×Int}(a:d.beside none)(e:Ap r=true)(f:0<=x.2.1/\x.2.1<=4)(g:0<=x.2.2/\x.2.2<=501)(h:x.1.length<=2000):(ny d (MQ r) (iP x.1 x.2.1.toNat x.2.2.toNat)).beside (some (r,x)):=by
 refine⟨λp c=>?_,λp c=>?_,λp c=>?_⟩<;>rcases List.mem_append.1 c with b|b
 ·exact a.ok p b
 ·rw[List.mem_singleton.1 b];exact yY e f g h
 ·rcases a.fi p b with a|⟨i,j,a,_⟩
  ·exact .inl a
  ·cases a
 ·exact .inr ⟨r,x,rfl,List.mem_singleton.1 b⟩
 ·exact a.kq p b
 ·rw[List.mem_singleton.1 b];show CY (MQ r)≠108;rw[MH];decide
theorem rR(a:br)(b:Ev):(EN a b).aq=a.aq:=(YQ a b).2.2.2.2.2.1
theorem rS {b:br}{p:Pr}(a:p∈b.aq)(t:gP)(tick:Int)(c:Nat):p∈(Fe b t tick c).aq:=by
 unfold Fe;split
 ·exact a
 ·split
  ·exact a
  ·exact HE _ a
theorem za {a:br}{p:Pr}(b:p∈a.aq)(c e:Nat):p∈(Az a c e).aq:=by
 have d:p∈(Em a c).aq:=by
  unfold Em;split
  ·exact rS (by rw[rR];exact b) _ _ _
  ·exact b
 unfold Az;split
 ·exact rS d _ _ _
 ·exact d
theorem Jl.note {n b:List Pr}{v:dd}{j:du}{i:iK}(f:Jl n v j)(s:Sorted n)(k:fA b i):Jl (cS n b) v (oQ j i):=by
 have w: ∀p∈b,CY p.key≠104/\CY p.key≠119:=λp A=>by
  rcases k.fi p A with l|⟨r,x,_,rfl⟩
  ·exact⟨l.1,l.2.1⟩
  ·exact⟨by show CY (MQ r)≠104;rw[MH];decide,by show CY (MQ r)≠119;rw[MH];decide⟩
 refine⟨λm o B y=>?_,λm o=>?_,λr z=>?_,f.dX,λr x e=>?_⟩
 ·rw[Ky s λa d c=>(w a d).1 (by rw[c];exact qk y)];exact f.cF m o B y
 ·rw[Ky s λa d c=>(w a d).2 (by rw[c];exact Gh m)];exact f.hZ m o
 ·have no: ∀a∈b,a.key=MQ r-> ∃x,i=some (r,x)/\a=XM r x:=λa d c=>by
   have C:=(congrArg CY c).trans (MH r);rcases k.fi a d with l|⟨g,x,D,rfl⟩
   ·exact absurd C l.2.2
   ·have:g=r:=uL c;subst this;exact⟨x,D,rfl⟩
  cases i with
  |none=>
   rw[Ky s λa d c=>?_,f.jG r z]
   ·rfl
   ·obtain⟨x,e,_⟩:=no a d c;cases e
  |some q=>
   obtain⟨g,x⟩:=q;show _=(dE j g x r).map (XM r);by_cases h:r=g
   ·subst h;rw[Gl];refine(mz (p:=XM r x) s (k.has r x rfl).1 λa d c=>?_).trans rfl;obtain⟨t,u,rfl⟩:=no a d c;cases u;rfl
   ·rw[QL h,Ky s λa d c=>?_,f.jG r z];obtain⟨t,u,_⟩:=no a d c;cases u;exact h rfl
 ·cases i with
  |none=>exact f.jH r x e
  |some q=>
   obtain⟨g,t⟩:=q;have e:dE j g t r=some x:=e;by_cases h:r=g
   ·subst h;rw[Gl] at e;cases e;exact(k.has r x rfl).2.2
   ·rw[QL h] at e;exact f.jH r x e
theorem YH {a:br}{b:List Ev}{g:Nat}(c:a.fits b)(e:b++a.more≠ [])(f:Du a.st g):Sv (b++a.more)/\Bj (b++a.more)=a.st:=by
 have d:Bj (b++a.more)=a.st:=by unfold Bj;rw[c];rfl
 have nx:=uH c e;have:=f.next;exact⟨⟨e,by omega,by rw[d];exact c,by rw[d];exact f.st⟩,d⟩
theorem zd {a:Type}{f:A2O->Option a}{b:A2O}{x:a}(c:f b=some x):dE f b x=f:=by
 funext e;unfold dE;split
 ·rename_i d;rw[d,c]
 ·rfl
theorem Jl.done {c:List Pr}{a:dd}{f:du}{D:br}{o:iK}{j:Nat}(g:Jl c a f)(s:Sorted c)(k:Ap D.wid=true)(m:D.fits ((a D.wid).getD []))(b:(a D.wid).getD []++D.more≠ [])(n:Du D.st j)(p:D.beside o)
  (has: ∀r x,o=some (r,x)->XM r x∈D.aq/\Ap r=true/\(0<=x.2.1/\x.2.1<=4)/\(0<=x.2.2/\x.2.2<=501)/\x.1.length<=2000):
  Jl (cS c (EI D++D.aq)) (dE a D.wid ((a D.wid).getD []++D.more)) (oQ f o):=by
 have h:fA D.aq o:=⟨p.fi,has⟩;obtain⟨q,t⟩:=YH m b n;by_cases d:D.more= []
 ·have e:EI D= []:=by unfold EI;rw[d];rfl
  rw[e,Ds];have:dE a D.wid ((a D.wid).getD []++D.more)=a:=by
   rw[d,AM] at b ⊢;cases i:a D.wid with
   |none=>rw[i] at b;exact absurd rfl b
   |some l=>exact zd i
  rw[this];exact g.note s h
 ·have e:EI D++D.aq=D.more.map (OQ D.wid)++([R6 D.wid ((a D.wid).getD []++D.more)]++D.aq):=by unfold EI R6;rw[if_neg d,A4,t]
  rw[e];exact g.land s k q h
theorem rT {e:List Pr}{c:dd}{h:du}{a:br}(i:Jl e c h)(j:Ap a.wid=true)(b:match c a.wid with|none=>a.bW=0|some l=>a.cq=(Bj l).status/\a.bW=(Bj l).next/\a.kept=false/\0<a.bW):Bd e (bq a)=true:=by
 have g:=i.eQ j;cases f:c a.wid with
 |none=>
  rw[f] at b g;have b:a.bW=0:=b;have d:bq a=⟨KX a.wid,⟨#[]⟩,true⟩:=by unfold bq;rw[if_neg (by omega)]
  rw[d];unfold Bd;rw[if_pos rfl,g];rfl
 |some l=>
  rw[f] at b g;obtain⟨k,m,n,o⟩:=b;have d:bq a=⟨KX a.wid,Pe a.cq.toNat a.bW.toNat a.kept,false⟩:=by unfold bq;rw[if_pos o]
  rw[d];unfold Bd;rw[if_neg (by simp),g,k,m,n];simp
theorem ze {b:List Pr}{d:dd}{c:du}{a:A2O}(e:Jl b d c)(f:Ap a=true)(h:c a=none):Bd b ⟨MQ a,⟨#[]⟩,true⟩=true:=by unfold Bd;have g:=e.fE f;rw[h] at g;rw[if_pos rfl,g];rfl
theorem rU {b:br}{g:Nat}(d:Ap b.wid=true)(ok: ∀c∈b.more,Ed c=true/\c.data.size<1099511627776)(e:Du b.st g): ∀p∈EI b,Aj p=0:=by
 intro p f;have st:=e.st;have nx:=e.next;unfold EI at f;rcases List.mem_append.1 f with a|a
 ·obtain⟨c,h,rfl⟩:=List.mem_map.1 a;exact yW d (ok c h).1
 ·split at a
  ·cases a
  ·rw[List.mem_singleton.1 a];exact yX d (by omega) (by omega)
theorem rV(a:br):(EI a).length<=a.more.length+1:=by unfold EI;rw[A1,By];split<;>simp
theorem rW {f e:List Pr}{a:br}{g:iK}{h:Nat}(i:Ap a.wid=true)(ok: ∀d∈a.more,Ed d=true/\d.data.size<1099511627776)(j:Du a.st h)(k:a.beside g)(n:a.more.length+1+a.aq.length<=64)(l:EI a++a.aq≠ [])(o:e.length<=64)(b: ∀c∈e,Bd f c=true):dy f e (EI a++a.aq)=0:=by
 have q:=rV a;have d:EK (EI a++a.aq)=0:=rP l (by rw[A1];omega) λp m=>by
  rcases List.mem_append.1 m with b|b
  ·exact rU i ok j p b
  ·exact k.ok p b
 unfold dy;rw[if_neg (by omega),if_neg (by rw[d];decide),if_pos (List.all_eq_true.2 b)]
theorem rX(a:Nat):CY (CL a)=108:=by unfold CY CL;rw[EE];rfl
theorem Zv {d:List Pr}{b:br}{h:iK}(s:Sorted d)(i:b.beside h)(e r:Nat)(g:A2O):Bd (cS d (EI b++b.aq)) (FD e r g)=Bd d (FD e r g):=by
 have f:Ae (CL e) (cS d (EI b++b.aq))=Ae (CL e) d:=Ky s λj k l=>by
  have c:=(congrArg CY l).trans (rX e);rcases List.mem_append.1 k with a|a
  ·unfold EI at a;rcases List.mem_append.1 a with a|a
   ·obtain⟨f,_,rfl⟩:=List.mem_map.1 a;rw[show CY (OQ b.wid f).key=104 from nw _ _] at c;exact absurd c (by decide)
   ·split at a
    ·cases a
    ·rw[List.mem_singleton.1 a] at c;rw[show CY (KX b.wid)=119 from Gh _] at c;exact absurd c (by decide)
  ·exact i.kq j a c
 rw[Tn,Tn];unfold JH;rw[f]
end Go.Lf.G
