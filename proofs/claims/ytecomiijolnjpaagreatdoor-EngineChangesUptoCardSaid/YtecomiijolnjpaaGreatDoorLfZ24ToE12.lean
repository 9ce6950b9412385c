/-
 Contracts: strings.HasPrefix; what the document scans (chapter 10).
-/
import Derived.Test.YtecomiijolnjpaaGreatDoorLfE2ToZ23
import Derived.Test.YtecomiijolnjpaaGreatDoorLfJToGA
import Derived.Test.YtecomiijolnjpaaGreatDoorLfU2ToS3
set_option maxRecDepth 100000
set_option linter.unusedVariables false
set_option linter.unusedSimpArgs false
open Go.IntKind renaming i64→J9,wrap→J8
open Go.Value renaming string→J7,int→J6,pointer→J5,slice→J4,bool→J3,tuple→J1
open Go.Obj renaming cells→J2
open Go renaming Value→J0,Addr→Q6,TypeId→Q7,FuncId→Q8,Program→Q1
open Go.Addr renaming add→Q9,mk→Q5
namespace Go.Lf.G
open Go
open M (Sorted Ae Ca A8 Ag Ar BV Ah bE BF aS BL)
section
variable {A : al} {h : aa} {R : A2O}
end
theorem mq:P.underlying FU=some (.map Bb Bb):=by kernel_rfl
theorem mu:P.underlying Eb=some (.map Bb YQ):=by kernel_rfl
theorem ic:P.underlying Bb=some (.int J9):=by kernel_rfl
theorem oD:(zeroValue Bb).calc P=some (J6 J9 0):=by kernel_rfl
theorem oE:(zeroValue YQ).calc P=some (.int .u64 0):=by kernel_rfl
def dB(f:Nat->Nat)(a b:Nat):Nat->Nat:=λm=>if m=a then b else f m
structure Dk (g h:aa) (k:Nat->Nat) (s p bh bu:Nat) (name:A2P) (aG:Nat) (f u:Nat->Nat) (N:Nat):Prop where
 cell:h[p]? =some (J2 #[Ap s,J7 name,J6 J9 (aG:Int),.map (some bh),.map (some bu)] RD (0,0))
 held: ∃hm,SG J9 h bh hm/\hm.length<=N/\ ∀n:Nat,(LF n hm).getD (J6 J9 0)=J6 J9 (f n:Int)
 used: ∃um,SG J9 h bu um/\um.length<=N/\ ∀n:Nat,(LF n um).getD (.int .u64 0)= .int .u64 (u n:Int)
 bN: ∀c,c=p\/c=bh\/c=bu->k c=0/\g.size<=c/\c≠s
 ne:bh≠bu
 named:Au name=true
 sh:1<=aG/\aG<=16
 cp:N<=1000000
def F7(d:List Pr)(e a:Nat)(b:A2P):Prop:=(a=0/\b=⟨#[]⟩/\(Gc d (CF e)).2=false)\/(1<=a/\a<=2147483647/\Au b=true/\Gc d (CF e)=(Ji a b,true))
section
variable {A : al} {B : cE} {g h : aa} {s p bh bu : Nat} {q : Hp} {k : Nat -> Nat} {st : Db} {m : Bx} {D : Bl} {aJ c nn N : Nat} {name : A2P} {aG : Nat} {f u : Nat -> Nat} {R : A2O}
theorem Dk.lt(a:Dk g h k s p bh bu name aG f u N): ∀c,c=p\/c=bh\/c=bu->c<h.size:=by
 obtain⟨e,b,_⟩:=a.held;obtain⟨i,d,_⟩:=a.used;rintro c (rfl|rfl|rfl)
 ·exact Af a.cell
 ·exact b.lt
 ·exact d.lt
theorem Dk.mM(a:Dk g h k s p bh bu name aG f u N):p≠bh/\p≠bu:=by
 obtain⟨i,⟨_,_,b,_⟩,_⟩:=a.held;obtain⟨j,⟨_,_,d,_⟩,_⟩:=a.used;have e:=a.cell;constructor
 ·rintro rfl;rw[e] at b;cases b
 ·rintro rfl;rw[e] at d;cases d
theorem Dk.beside {d:aa}{e:Nat->Nat}{i:Nat->Prop}(a:Dk g h k s p bh bu name aG f u N)(b:Mod i h d)(hX: ∀c,c=p\/c=bh\/c=bu-> ¬i c)(l: ∀c,c=p\/c=bh\/c=bu->e c=0):Dk g d e s p bh bu name aG f u N:=by obtain⟨n,o,r,t⟩:=a.held;obtain⟨v,w,x,y⟩:=a.used;exact⟨b.af a.cell (hX p (.inl rfl)),⟨n,o.mod b (hX bh (.inr (.inl rfl))),r,t⟩,⟨v,w.mod b (hX bu (.inr (.inr rfl))),x,y⟩,λc j=>⟨l c j,(a.bN c j).2⟩,a.ne,a.named,a.sh,a.cp⟩
theorem Dk.on {a:aa}(b:Dk g h k s p bh bu name aG f u N)(x:Ext h a):Dk g a k s p bh bu name aG f u N:=b.beside x (λ_ _ h=>h) λc d=>(b.bN c d).1
theorem Dk.more {b:Nat}(a:Dk g h k s p bh bu name aG f u N)(r:N<=b)(d:b<=1000000):Dk g h k s p bh bu name aG f u b:=by obtain⟨e,i,t,j⟩:=a.held;obtain⟨l,n,v,o⟩:=a.used;exact⟨a.cell,⟨e,i,by omega,j⟩,⟨l,n,by omega,o⟩,a.bN,a.ne,a.named,a.sh,d⟩
theorem Dk.step {e:aa}{k':Nat->Nat}{i:Nat->Prop}(b:Dk g h k s p bh bu name aG f u N)(j:Mod i h e)(l: ∀c,i c->k c≠0\/h.size<=c\/c=s\/ ¬(c=p\/c=bh\/c=bu))(n: ∀c,k' c≠0->k c≠0\/h.size<=c):Dk g e k' s p bh bu name aG f u N:=by
 refine b.beside j (λc a o=>?_) λc a=>Decidable.byContradiction λr=>?_
 ·have d:=b.bN c a;have t:=b.lt c a;rcases l c o with h|h|h|h
  ·exact h d.1
  ·omega
  ·exact d.2.2 h
  ·exact h a
 ·have d:=b.bN c a;have t:=b.lt c a;rcases n c r with h|h
  ·exact h d.1
  ·omega
theorem AQI {s:Nat}(b:Fu B g h s q k st m D aJ c nn)(j:Au name=true)(o:1<=aG/\aG<=16)
  (r: ∀a p bh bu,Dk g a k s p bh bu name aG (λ_=>0) (λ_=>0) 0->(∀ c,c=p\/c=bh\/c=bu->h.size<=c/\c<a.size)->Ext h a->R (J1 #[Ap p,J6 J9 0]) a):AA A P PI #[Ap s,J7 name,J6 J9 (aG:Int)] h R:=by
 refine AFk ?_;unfold tM;refine ah.mk λK t=>ae.no rfl (Fb ⟨_,rfl,ae.no (by rw[j];rfl) (ae.no (decide_eq_false (by omega)) (t _ _ (ae.no (decide_eq_false (by omega)) ?_)))⟩)
 refine ak.mk λl _ v w H=>ak.mk λx _ y n I=>ak.mk λd _ z e J=>?_
 have C:=(w.trans n).trans e;have L:=b.db.mem.ext.size;have M:=b.lt;have E:d[h.size]? =some (.map #[] 0):=e.af (n.af v (λh=>h)) (λh=>h);have F:d[l.size]? =some (.map #[] 0):=e.af y (λh=>h);refine r d x.size h.size l.size ⟨z,⟨[],SG.empty E,A0 _,λG=>rfl⟩,⟨[],SG.empty F,A0 _,λG=>rfl⟩,λc i=>?_,by omega,j,o,by omega⟩ (λc i=>?_) C
 ·have:h.size<=c:=by rcases i with rfl|rfl|rfl<;>omega
  exact⟨b.db.free this,by omega,by omega⟩
 ·rcases i with rfl|rfl|rfl<;>omega
theorem ZA {a:Nat}(b:Dk g h k s p bh bu name aG f u N)(d:R (J6 J9 (f a:Int)) h):AA A P Dv #[Ap p,J6 J9 (a:Int)] h R:=by obtain⟨j,e,l,i⟩:=b.held;refine Ut ?_;unfold OC;exact ae.no rfl (aE (FM.mk (AB b.cell rfl) (La mq ic oD e ⟨_,i a,d⟩)))
theorem AOe {b:List (Int×J0)}{a d:Nat}(h: ∀m:Nat,(LF m b).getD (J6 J9 0)=J6 J9 (f m:Int))(m:Nat):(LF m (SY a (J6 J9 (d:Int)) b)).getD (J6 J9 0)=J6 J9 (dB f a d m:Int):=by
 rw[ZE];unfold dB;by_cases e:m=a
 ·subst e;rw[if_pos rfl,if_pos rfl];rfl
 ·rw[if_neg (by omega),if_neg e];exact h m
theorem yI {b:List (Int×J0)}{a r:Nat}(h: ∀m:Nat,(LF m b).getD (.int .u64 0)= .int .u64 (f m:Int))(m:Nat):(LF m (SY a (.int .u64 (r:Int)) b)).getD (.int .u64 0)= .int .u64 (dB f a r m:Int):=by
 rw[ZE];unfold dB;by_cases d:m=a
 ·subst d;rw[if_pos rfl,if_pos rfl];rfl
 ·rw[if_neg (by omega),if_neg d];exact h m
theorem Dk.strike {d:Nat}{j:Q7}{K:A2O}(a:Dk g h k s p bh bu name aG f u N)(l: ∀b,Dk g b k s p bh bu name aG (dB f d 0) u N->Mod (λc=>c=bh) h b->K (J1 #[]) b):BI A P (Builtin.delete_ #[FU,Bb] j #[.map (some bh),J6 J9 (d:Int)]) h K:=by
 obtain⟨z,n,o,r⟩:=a.held;obtain⟨t,v,w,x⟩:=a.used;refine AJS mq ic n λb y e C=>l b ⟨e.af a.cell a.mM.1,⟨_,y,AF AOn o,λm=>?_⟩,⟨t,v.mod e a.ne.symm,w,x⟩,a.bN,a.ne,a.named,a.sh,a.cp⟩ e
 rw[vS];unfold dB;by_cases i:m=d
 ·subst i;rw[if_pos rfl,if_pos rfl];rfl
 ·rw[if_neg (by omega),if_neg i];exact r m
theorem AOD {b j:Nat}{l:A2P}(w:Fu B g h s q k st m D aJ c nn)(a:Dk g h k s p bh bu name aG f u N)(E:b<aG)(L:F7 (CZ st) b j l)(n: ∀o,Ext h o->R (J1 #[J6 J9 (j:Int),J7 l,J6 J9 0]) o):AA A P Kj #[Ap p,J6 J9 (b:Int)] h R:=by
 have F:=a.sh;refine V9 ?_;unfold Ox;refine ah.mk λK x=>ae.no rfl (ae.no (decide_eq_false (by omega)) (aE (AC.mk (AB a.cell rfl) (x _ _ (ae.no (decide_eq_false (by omega)) ?_)))))
 refine aE (AZ.mk (AL a.cell rfl) (SS (by omega) λr d=>⟨_,rfl,⟨AL (Ai d a.cell) rfl,?_⟩⟩));refine rq (w.on d) (by rw[KG];omega) λt y=>⟨_,_,_,rfl,?_⟩
 have v:=d.trans y;refine ah.mk λG z=>ae.no rfl (z _ _ ?_)
 rcases L with⟨rfl,rfl,e⟩|⟨r,t,i,e⟩
 ·rw[e];exact ae.yes rfl (n _ v)
 ·rw[e];exact ae.no rfl (AMT r t i λi C=>⟨_,_,_,rfl,n i (v.trans C)⟩)
theorem ARe {k v:A2P}(a:k≠⟨#[]⟩)(d:k.size<=64)(e:v.size<=8192):EU [⟨k,v,false⟩]=0:=by
 have b:Ah ⟨k,v,false⟩=0:=by unfold Ah;rw[if_neg (by simp[a]),if_neg (by simp;omega)]
 unfold EU;rw[if_neg (by simp),if_neg (by simp)];unfold F4;rw[if_neg (by rw[b];decide)];rfl
theorem AIY {d r:Nat}{av:A2P}(E:cj g)(T:Fu B g h s q k st m D aJ c nn)(n:Dk g h k s p bh bu name aG f u N)(aR:d<aG)(L:F7 (CZ st) d r av)(aw:r+1<=2147483647)(hA:aJ+3<=B.A)(aS:c+64<=B.C)(aT:nn+1<=1000000)(aU:N+1<=1000000)
  (aV: ∀U af k' ax aW aX,af.d=q.d->af.b=q.b->Fu B g U s af k' ax aW aX (aJ+3) (c+64) (nn+1)->CZ ax=cM (CZ st) [⟨CF d,Ji (r+1) name,false⟩]->Dk g U k' s p bh bu name aG (dB f d (r+1)) (dB u d 0) (N+1)->
   Mod (λc=>k c≠0\/h.size<=c\/c=s\/c=bh\/c=bu) h U->(∀ c,k' c≠0->k c≠0\/h.size<=c)->R (J1 #[J6 J9 ((r+1:Nat):Int),J6 J9 0]) U):
  AA A P Ex #[Ap p,J6 J9 (d:Int)] h R:=by
 have bN:=n.sh;refine SC ?_;unfold Lt;refine AOD T n aR L λM aY=>⟨_,_,_,rfl,ae.no rfl ?_⟩
 refine SS (by omega) λai aZ=>⟨_,rfl,?_⟩
 have ay:=aY.trans aZ;refine ak.pair λb V bO az a0 bP=>?_
 have aA:=ay.trans a0;have bQ:=ay.size;have bR:=T.db.mem.ext.size;refine ah.mk λK a1=>?_
 have aC: ∀W y z,Ext h W->W[b]? =some (J2 #[J7 (CF d),J7 y,J3 z] AR (0,0))->BQ (CZ st) ⟨CF d,y,z⟩=true->K () W:=by
  intro W y z aj a2 a3;refine a1 _ _ ?_;have bS:=T.on aj;have a4:=n.on aj;refine aE (AJ.mk (AB a4.cell rfl) ?_);rw[Ab (by omega)];refine oC (by omega) aw n.named λX aD=>⟨_,_,rfl,?_⟩
  have al:=aj.trans aD;refine ae.no rfl (ah.mk λa5 a6=>?_);have aF:=T.on al;have am:=n.on al;have I:=Ai aD a2;have an: ∀e O C,Ext X e->e[O]? =some (J2 #[J7 (CF d),J7 y,J3 z] AR (0,0))->e[C]? =some (J2 #[J7 (CF d),J7 (Ji (r+1) name),J3 false] AR (0,0))->X.size<=C->
    AA A P Fe #[Ap s,J4 (some (⟨O,0,none⟩:Q6)) 1 1,J4 (some (⟨C,0,none⟩:Q6)) 1 1] e λa7 ao=> ∃aH:Int,a7=J6 J9 aH/\a5 (aH,()) ao:=by
   intro e O C w a8 aI a9;have ba:=aF.on w;have bb:=am.on w;have aK:=al.trans w;have vc:View BZ e ⟨some ⟨O,0,none⟩,1,1⟩ [⟨CF d,y,z⟩]:=(Own.lit (E:=BZ) (l:= [⟨CF d,y,z⟩]) a8 rfl (by simp[maxLen])).view;have bc:View BZ e ⟨some ⟨C,0,none⟩,1,1⟩ [⟨CF d,Ji (r+1) name,false⟩]:=(Own.lit (E:=BZ) (l:= [⟨CF d,Ji (r+1) name,false⟩]) aI rfl (by simp[maxLen])).view;have bd:=ARe (ALx d) (show(CF d).size<=64 by rw[KG];omega) (AJ0 aw n.named);have be:dx (CZ st) [⟨CF d,y,z⟩] [⟨CF d,Ji (r+1) name,false⟩]=0:=by unfold dx;rw[if_neg (by simp),if_neg (by rw[bd];decide),if_pos (by simp[a3])]
   have bf:k C=0:=aF.db.free a9;refine yG (B:=B) (conds:=⟨some ⟨O,0,none⟩,1,1⟩) (sl:=⟨some ⟨C,0,none⟩,1,1⟩) E ba hA aS aT vc bc (λ_ bg Y=>by
    have o:C=bg:=by simpa [Sl.af] using Y
    subst o;exact⟨Af aI,bf⟩) (λx e=>by rw[List.mem_singleton.1 e];show(CF d).size<=_;rw[KG];omega) (λbi=>absurd be bi) λ_ ao bj Z bk bm bn bo bp bq br aL aM=>⟨_,rfl,a6 _ _ (ae.no rfl ?_)⟩
   have bT:=aK.size;have i:=bb.step (k':=Z) aL (λc a=>by
    rcases a with h|h|h
    ·exact .inl h
    ·exact .inr (.inl h)
    ·exact .inr (.inr (.inl h))) aM
   have bs:Mod (λc=>k c≠0\/h.size<=c\/c=s\/c=bh\/c=bu) h ao:=(aK.ai λc _ a=>a.elim).trans (aL.ai λc _ a=>by
    rcases a with h|h|h
    ·exact .inl h
    ·exact .inr (.inl (by omega))
    ·exact .inr (.inr (.inl h)))
   obtain⟨bU,bt,bV,bv⟩:=i.held;refine aE (FM.mk (AB i.cell rfl) (aE (FM.mk (AB i.cell rfl) ?_)));refine vT mq ic oD (v:=J6 J9 ((r+1:Nat):Int)) bt (by have:=i.cp;simp only[maxLen];omega) λbW bw ac bX=>?_
   obtain⟨bY,bx,bZ,bz⟩:=i.used;have bA:=bx.mod ac n.ne.symm;refine vT mu ic oE (v:= .int .u64 0) bA (by have:=i.cp;simp only[maxLen];omega) λbB bC ad b0=>?_
   have bD: ∀c,c=bh->Z c=0/\g.size<=c:=λc a=>⟨(i.bN c (.inr (.inl a))).1,(i.bN c (.inr (.inl a))).2.1⟩
   have bE: ∀c,c=bu->Z c=0/\g.size<=c:=λc a=>⟨(i.bN c (.inr (.inr a))).1,(i.bN c (.inr (.inr a))).2.1⟩
   have bF:=(bq.beside ac bD λo=>(i.bN s (.inr (.inl o))).2.2 rfl).beside ad bE λo=>(i.bN s (.inr (.inr o))).2.2 rfl
   refine aV bB bj Z bk bm bn bo bp bF br ⟨ad.af (ac.af i.cell n.mM.1) n.mM.2,⟨_,bw.mod ad n.ne,AF XN (by omega),λm=>AOe bv m⟩,⟨_,bC,AF XN (by omega),λm=>yI (r:=0) bz m⟩,i.bN,i.ne,i.named,i.sh,aU⟩ ((bs.trans (ac.ai λc _ a=> .inr (.inr (.inr (.inl a))))).trans (ad.ai λc _ a=> .inr (.inr (.inr (.inr a))))) λc a=>?_
   rcases aM c a with h|h
   ·exact .inl h
   ·exact .inr (by omega)
  have F: ∀ {e:aa},Ext X e->ag e ⟨p,0,none⟩=some (Ap s):=λw=>AL (Ai w am.cell) rfl
  have Q: ∀ {e:aa},Ext X e->ag e (⟨b,0,none⟩:Q6)=some (J7 (CF d))/\ag e ((⟨b,0,none⟩:Q6).add 1)=some (J7 y)/\ag e ((⟨b,0,none⟩:Q6).add 2)=some (J3 z):=λw=>⟨AL (Ai w I) rfl,AB (Ai w I) rfl,AB (Ai w I) rfl⟩
  refine aE (AZ.mk (AL am.cell rfl) (AJ.mk (AL I rfl) (AJ.mk (AB I rfl) (Aa.mk (AB I rfl) ?_))));refine⟨?_,?_⟩
  ·refine ak.mk λbG _ bH G b1=>⟨F G,?_⟩
   refine SS (by omega) λY J=>⟨_,rfl,?_⟩
   have j:=G.trans J;refine⟨Q j,⟨F j,?_⟩⟩;refine ak.mk λa _ S H aN=>?_
   have t:=j.trans H;exact⟨Q t,⟨F t,an a _ _ t (Ai H (Ai J bH)) S j.size⟩⟩
  ·refine SS (by omega) λbG G=>⟨_,rfl,⟨Q G,⟨F G,⟨?_,?_⟩⟩⟩⟩
   ·refine ak.mk λY _ ap J bI=>?_
    have j:=G.trans J;refine⟨F j,ak.mk λa _ S H aN=>?_⟩;have t:=j.trans H;exact⟨Q t,⟨F t,an a _ _ t (Ai H ap) S j.size⟩⟩
   ·refine ak.mk λY _ ap J bI=>?_
    have j:=G.trans J;refine⟨Q j,⟨F j,ak.mk λa _ S H aN=>?_⟩⟩;have t:=j.trans H;exact⟨F t,an a _ _ t S (Ai H ap) G.size⟩
 refine ae.intro (λaq=>?_) (λaq=>?_)
 ·have bJ:0<r:=by have:=of_decide_eq_true aq;omega
  rcases L with⟨M,_⟩|⟨M,ai,V,o⟩
  ·omega
  simp only[Ba,AI];refine ab.mk az (by simp) λaO ar bK b2=>?_
  have ar:aO[b]? =some (J2 #[J7 (CF d),J7 ⟨#[]⟩,J3 false] AR (0,0)):=by simpa using ar
  refine oC M ai V λb3 aP=>⟨_,_,rfl,?_⟩
  refine ab.mk (Ai aP ar) (by simp) λaQ au bL b4=>?_
  have au:aQ[b]? =some (J2 #[J7 (CF d),J7 (Ji r av),J3 false] AR (0,0)):=by simpa using au
  have bM:Ext h aO:=aA.then (bK.ai λc _ a=> .inr (by omega));refine aC aQ _ _ ((bM.trans aP).then (bL.ai λc _ a=> .inr (by omega))) au ?_;unfold BQ;rw[o];simp
 ·have bJ:r=0:=by have:=of_decide_eq_false aq;omega
  rcases L with⟨M,_,o⟩|⟨M,ai,V,o⟩
  ·refine aC V _ _ aA az ?_;unfold BQ;rw[o];simp
  ·omega
end
section
variable {A : al} {B : cE} {g h : aa} {s p bh bu : Nat} {q : Hp} {k : Nat -> Nat} {st : Db} {m : Bx} {D : Bl} {aJ c nn N : Nat} {name : A2P} {aG : Nat} {f u : Nat -> Nat} {R : A2O}
def FC(a b:Nat)(name:A2P):Pr:=⟨CF a,Ji b name,false⟩
theorem UR {mp:List Pr}{n r:Nat}{name:A2P}:BQ mp (FC n r name)=((Gc mp (CF n)).2&&decide ((Gc mp (CF n)).1=Ji r name)):=rfl
theorem ARQ {n:Nat}{conds sl:Sl}{e l:List Pr}(E:cj g)(y:Fu B g h s q k st m D aJ c nn)(j:Dk g h k s p bh bu name aG f u N)(am:n<256)(an:f n<=2147483647)(hA:aJ+3<=B.A)(ao:c+64<=B.C)(ap:nn+1<=1000000)(vc:View BZ h conds e)(a9:e.length<=1000000)(v:View BZ h sl l)(aq:l≠ []-> ∀b,sl.af=some b->b<h.size/\k b=0/\b≠bh)(ar: ∀x∈e,x.key.size<=1099511627776)
  (au:f n=0->R (J6 J9 170) h)
  (av:f n≠0->BQ (CZ st) (FC n (f n) name)=false-> ∀d,Fu B g d s q k st m D aJ c nn->Dk g d k s p bh bu name aG (dB f n 0) u N->Mod (λc=>h.size<=c\/c=bh) h d->R (J6 J9 170) d)
  (aw:f n≠0->BQ (CZ st) (FC n (f n) name)=true->dx (CZ st) (FC n (f n) name::e) l≠0-> ∀d,Ext h d->R (J6 J9 (dx (CZ st) (FC n (f n) name::e) l)) d)
  (ax:f n≠0->BQ (CZ st) (FC n (f n) name)=true->dx (CZ st) (FC n (f n) name::e) l=0-> ∀d F k' W ay az,F.d=q.d->F.b=q.b->Fu B g d s F k' W ay az (aJ+3) (c+64) (nn+1)->CZ W=cM (CZ st) l->Dk g d k' s p bh bu name aG f u N->Mod (λc=>k c≠0\/h.size<=c\/c=s) h d->(∀ c,k' c≠0->k c≠0\/h.size<=c)->R (J6 J9 0) d):
  AA A P Hw #[Ap p,J6 J9 (n:Int),J4 conds.p conds.len conds.cap,J4 sl.p sl.len sl.cap] h R:=by
 refine ZT ?_;unfold Ru;refine ZA j ⟨_,rfl,ae.intro (λG=>?_) (λG=>?_)⟩
 ·exact au (by simpa using G)
 have H:f n≠0:=by simpa using G
 refine aE (AJ.mk (AB j.cell rfl) ?_);refine oC (by omega) an j.named λz aA=>⟨_,_,rfl,?_⟩
 refine SS am λba aC=>⟨_,rfl,?_⟩
 have aD:=aA.trans aC;refine ak.pair λb bb bc X aF bd=>?_
 have I:=aD.trans aF;have aH:=j.on I;have aI:=y.on I;refine aE (AZ.mk (AL aH.cell rfl) (AJ.mk (AL X rfl) ?_));refine rq aI (by rw[KG];omega) λi Y=>⟨_,_,_,rfl,ae.no rfl ?_⟩
 have w:=I.trans Y;have o:=j.on w;have aK:=y.on w;have J:=Ai Y X;have be:=w.size;have bf:=y.db.mem.ext.size;refine ah.mk λK Z=>?_
 have L:=UR (mp:=CZ st) (n:=n) (r:=f n) (name:=name);have lost:BQ (CZ st) (FC n (f n) name)=false->K (true,()) i:=λaL=>by
  refine Z _ _ (ae.yes rfl (aE (FM.mk (AB o.cell rfl) ?_)));refine o.strike λO aM aa=>⟨rfl,?_⟩
  have Q:=o.bN bh (.inr (.inl rfl));exact av H aL O (aK.beside aa (λc a=>by subst a;exact⟨Q.1,Q.2.1⟩) λS=>Q.2.2 S.symm) aM ((w.ai λc _ a=>a.elim).trans (aa.ai λc _ a=> .inr a))
 have aN:BQ (CZ st) (FC n (f n) name)=true->K (false,()) i:=λab=>by
  refine Z _ _ (ae.no rfl (aE (AZ.mk (AL o.cell rfl) (AJ.mk (AL J rfl) (AJ.mk (AB J rfl) (Aa.mk (AB J rfl) ?_))))));refine ak.mk λO _ aO T bg=>⟨AL (Ai T o.cell) rfl,?_⟩
  have aP:Own BZ AR O ⟨some ⟨i.size,0,none⟩,1,1⟩ [FC n (f n) name]:=Own.lit (E:=BZ) (l:= [FC n (f n) name]) aO rfl (by simp[maxLen]);have ac:=w.trans T;refine GX (E:=BZ) (s:=⟨some ⟨i.size,0,none⟩,1,1⟩) (src:=conds) M.Hy aP (vc.ext ac) (by simp only[A5,FG];omega) (by simp only[A5,FG,maxLen];omega) λaQ ad aR af bi _=>?_
  have t:Ext h ad:=ac.then (af.ai λc _ a=> .inr (by have:i.size=c:=(by simpa [Sl.af] using a);omega));have aS:Ext i ad:=T.then (af.ai λc _ a=> .inr (by have:i.size=c:=(by simpa [Sl.af] using a);omega));have aT:=y.on t;have aU:=j.on t;refine⟨AL (Ai aS o.cell) rfl,?_⟩;have bj:=t.size;have aV: ∀x∈ [FC n (f n) name]++e,x.key.size<=1099511627776:=λx aW=>by
   rcases List.mem_append.1 aW with h|h
   ·rw[List.mem_singleton.1 h];show(CF n).size<=_;rw[KG];omega
   ·exact ar x h
  refine yG (B:=B) (conds:=aQ) (sl:=sl) E aT hA ao ap aR.view (v.ext t) (λU aX aY=>by
   have:=aq U aX aY;exact⟨by omega,this.2.1⟩) aV (λU V aZ=>⟨_,rfl,aw H ab U V (t.trans aZ)⟩) λa0 V a1 ag a2 a3 a4 a5 a6 a7 a8 ai aj=>⟨_,rfl,?_⟩
  refine ax H ab a0 V a1 ag a2 a3 a4 a5 a6 a7 a8 (aU.step (k':=ag) ai (λc a=>by
   rcases a with h|h|h
   ·exact .inl h
   ·exact .inr (.inl h)
   ·exact .inr (.inr (.inl h))) aj) ((t.ai λc _ a=>a.elim).trans (ai.ai λc _ a=>by
   rcases a with h|h|h
   ·exact .inl h
   ·exact .inr (.inl (by omega))
   ·exact .inr (.inr h))) λc a=>?_
  rcases aj c a with h|h
  ·exact .inl h
  ·exact .inr (by omega)
 refine ae.intro (λz=>?_) (λz=>?_)
 ·refine lost ?_;have S:(Gc (CZ st) (CF n)).2=false:=by simpa using z
  rw[L,S];rfl
 ·have al:(Gc (CZ st) (CF n)).2=true:=by simpa using z
  cases C:bL (Gc (CZ st) (CF n)).1 (Ji (f n) name) with
  |true=>
   refine aN ?_;rw[CY] at C;rw[L,al,C];rfl
  |false=>
   refine lost ?_;rw[CY] at C;rw[L,al,C];rfl
theorem ASm {a:Nat}(h:a<=2147483647):J8 .u64 ((J8 .u64 (a:Int))*((2:Int)^(24:Nat)))=((a*16777216:Nat):Int):=by rw[Bv (by omega),show((a:Int)*(2:Int)^(24:Nat))=((a*16777216:Nat):Int) from by rw[show((2:Int)^(24:Nat))=((16777216:Nat):Int) from by decide];simp];exact Bv (by omega)
theorem qP {a b:Nat}(d:a<18446744073709551616)(e:b<18446744073709551616):dY .u64 (a:Int) (b:Int)=((a ||| b:Nat):Int):=by
 have h:a ||| b<2^64:=Ln (by simpa using d) (by simpa using e);unfold dY;have i:(BitVec.ofInt (IntKind.bits .u64) (a:Int) ||| BitVec.ofInt (IntKind.bits .u64) (b:Int)).toNat=a ||| b:=by show(BitVec.ofInt 64 (a:Int) ||| BitVec.ofInt 64 (b:Int)).toNat=a ||| b;rw[BitVec.toNat_or,BitVec.ofInt_natCast,BitVec.ofInt_natCast,BitVec.toNat_ofNat,BitVec.toNat_ofNat,As (by simpa using d),As (by simpa using e)]
 rw[i];exact Bv (by simpa using h)
theorem AR1 {a x:Nat}(h:a<=2147483647)(d:x<16777216):dY .u64 ((a*16777216:Nat):Int) (x:Int)=((a*16777216+x:Nat):Int):=by rw[qP (by omega) (by omega)];congr 1;have:=A0O (i:=24) (b:=x) (by simpa using d) a;rw[show 2^24*a=a*16777216 from by rw[Dd]] at this;exact this.symm
theorem AKC {a:Nat}(b:Dk g h k s p bh bu name aG f u N)(v:f a<=2147483647)(z:u a+1<16777216)(C:N+1<=1000000)
  (E:f a=0->R (.int .u64 0) h)
  (F:f a≠0-> ∀e,Dk g e k s p bh bu name aG f (dB u a (u a+1)) (N+1)->Mod (λc=>c=bu) h e->R (.int .u64 ((f a*16777216+(u a+1):Nat):Int)) e):
  AA A P Gh #[Ap p,J6 J9 (a:Int)] h R:=by
 refine UG ?_;unfold Mt;refine ZA b ⟨_,rfl,ae.intro (λi=>?_) (λi=>?_)⟩
 ·exact E (by simpa using i)
 have G:f a≠0:=by simpa using i
 obtain⟨H,w,M,x⟩:=b.used;obtain⟨I,J,O,j⟩:=b.held;refine aE (FM.mk (AB b.cell rfl) ?_);refine La mu ic oE w ⟨_,x a,?_⟩;rw[show((u a:Nat):Int)+(1:Int)=((u a+1:Nat):Int) from by omega,Bv (by omega)];refine AJZ mu ic w (by have:=b.cp;simp only[maxLen];omega) λK l n Q=>?_
 have o:=J.mod n b.ne;have d:=n.af b.cell b.mM.2;have y: ∀m:Nat,(LF m (SY a (.int .u64 ((u a+1:Nat):Int)) H)).getD (.int .u64 0)= .int .u64 (dB u a (u a+1) m:Int):=λm=>yI x m
 have L:dB u a (u a+1) a=u a+1:=by unfold dB;rw[if_pos rfl]
 have key:dY .u64 (J8 .u64 ((J8 .u64 (f a:Int))*((2:Int)^(24:Nat)))) ((u a+1:Nat):Int)=((f a*16777216+(u a+1):Nat):Int):=by rw[ASm v,AR1 v z]
 have r:=F G K ⟨d,⟨I,o,by omega,j⟩,⟨_,l,AF XN (by omega),y⟩,b.bN,b.ne,b.named,b.sh,C⟩ n;rw[<- key] at r;have t:=y a;rw[L] at t;refine aE (FM.mk (AB d rfl) (aE (FM.mk (AB d rfl) ⟨?_,?_⟩)))
 ·refine La mq ic oD o ⟨_,j a,⟨AB d rfl,?_⟩⟩;exact La mu ic oE l ⟨_,t,⟨AB d rfl,r⟩⟩
 ·refine La mu ic oE l ⟨_,t,⟨AB d rfl,?_⟩⟩;exact La mq ic oD o ⟨_,j a,⟨AB d rfl,r⟩⟩
theorem F7.laid {b:List Pr}(e:Sorted b){d a:Nat}(i:1<=a)(j:a<=2147483647)(l:Au name=true):F7 (cM b [⟨CF d,Ji a name,false⟩]) d a name:=by refine .inr ⟨i,j,l,?_⟩;unfold Gc;rw[show cM b [⟨CF d,Ji a name,false⟩]=j7 b ⟨CF d,Ji a name,false⟩ from rfl,rn e,if_pos rfl,I9];rfl
theorem F7.other {a:List Pr}(j:Sorted a){b e:Nat}{i key val:A2P}{d:Bool}(L:F7 a b e i)(l:key≠CF b):F7 (cM a [⟨key,val,d⟩]) b e i:=by
 have n:Gc (cM a [⟨key,val,d⟩]) (CF b)=Gc a (CF b):=by unfold Gc;rw[show cM a [⟨key,val,d⟩]=j7 a ⟨key,val,d⟩ from rfl,rn j,if_neg l]
 unfold F7;rw[n];exact L
theorem F7.empty {a:Nat}:F7 [] a 0 ⟨#[]⟩:= .inl ⟨rfl,rfl,rfl⟩
theorem F7.holds {b:List Pr}{d a:Nat}(L:F7 b d a name)(i:1<=a):BQ b (FC d a name)=true:=by
 rw[UR];rcases L with⟨h,_,e⟩|⟨_,j,_,e⟩
 ·omega
 ·rw[e];simp
end
structure Hs where
 p:Nat
 bh:Nat
 bu:Nat
 name:A2P
 f:Nat->Nat
 u:Nat->Nat
def Hs.bN(x:Hs)(c:Nat):Prop:=c=x.p\/c=x.bh\/c=x.bu
structure j8 (g h:aa) (k:Nat->Nat) (s sh N:Nat) (l:List Hs):Prop where
 host: ∀(i:Nat) x,l[i]? =some x->Dk g h k s x.p x.bh x.bu x.name sh x.f x.u N
 la: ∀(i j:Nat) x y,l[i]? =some x->l[j]? =some y->i≠j-> ∀c,x.bN c-> ¬y.bN c
def LW(B:cE)(g h:aa)(s a N sh:Nat)(l:List Hs)(mp:List Pr)(O:Nat->Prop):Prop:=
 ∃(d:Hp) (b:Nat->Nat) (st:Db) (m:Bx) (e:Bl) (nn:Nat),Fu B g h s d b st m e (1+3*a) (64*a) nn/\nn<=a/\CZ st=mp/\j8 g h b s sh N l/\N<=1000000/\ ∀c,O c->b c=0/\c<h.size/\g.size<=c/\c≠s/\ ∀x∈l,¬x.bN c
section
variable {A : al} {B : cE} {g h : aa} {s a N sh : Nat} {l : List Hs} {mp : List Pr} {O : Nat -> Prop} {R : A2O}
theorem j8.step {d:aa}{b k':Nat->Nat}{e:Nat->Prop}(f:j8 g h b s sh N l)(k:Mod e h d)(m: ∀c,e c->b c≠0\/h.size<=c\/c=s\/ ∀x∈l,¬x.bN c)(n: ∀c,k' c≠0->b c≠0\/h.size<=c):j8 g d k' s sh N l:=
 ⟨λi x j=>(f.host i x j).step k (λc o=>by
  rcases m c o with h|h|h|h
  ·exact .inl h
  ·exact .inr (.inl h)
  ·exact .inr (.inr (.inl h))
  ·exact .inr (.inr (.inr (h x (AK j))))) n,f.la⟩
theorem j8.set {h':aa}{k m:Nat->Nat}{S:Nat->Prop}{i j:Nat}{x x':Hs}(n:j8 g h k s sh N l)(o:l[i]? =some x)(v:Mod S h h')(w: ∀c,S c->k c≠0\/h.size<=c\/c=s\/x.bN c)(y: ∀c,m c≠0->k c≠0\/h.size<=c)(z:Dk g h' m s x'.p x'.bh x'.bu x'.name sh x'.f x'.u j)(same: ∀c,x'.bN c↔x.bN c)(q:N<=j/\j<=1000000):j8 g h' m s sh j (l.set i x'):=by
 have r:=(List.getElem?_eq_some_iff.1 o).1;refine⟨λd e b=>?_,λC D P Q E F G c p=>?_⟩
 ·by_cases f:i=d
  ·subst f;rw[HM r] at b;cases b;exact z
  ·rw[Ks f] at b;refine((n.host d e b).step v (λc p=>?_) y).more q.1 q.2;rcases w c p with h|h|h|h
   ·exact .inl h
   ·exact .inr (.inl h)
   ·exact .inr (.inr (.inl h))
   ·exact .inr (.inr (.inr (n.la i d x e o b f c h)))
 ·have t: ∀ {d:Nat} {e:Hs},(l.set i x')[d]? =some e-> ∃u,l[d]? =some u/\ ∀c,e.bN c↔u.bN c:=λ{d e} b=>by
   by_cases f:i=d
   ·subst f;rw[HM r] at b;cases b;exact⟨x,o,same⟩
   ·rw[Ks f] at b;exact⟨e,b,λ_=>Ds⟩
  obtain⟨H,I,J⟩:=t E;obtain⟨K,L,M⟩:=t F;exact λh=>n.la C D H K I L G c ((J c).1 p) ((M c).1 h)
theorem LW.ext(b:LW B g h s a N sh l mp O):Ext g h:=by obtain⟨d,e,st,m,f,nn,c,_⟩:=b;exact c.db.mem.ext
theorem LW.sorted(b:LW B g h s a N sh l mp O):Sorted mp:=by obtain⟨d,e,st,m,D,nn,c,_,rfl,_⟩:=b;exact c.db.sorted
theorem LW.own {e:aa}{O':Nat->Prop}(k:LW B g h s a N sh l mp O)(f:Mod O h e)(n: ∀c,O' c->O c\/(h.size<=c/\c<e.size)):LW B g e s a N sh l mp O':=by
 obtain⟨o,p,st,m,q,nn,d,r,t,j,u,out⟩:=k;have H:=d.db.mem.ext.size;have I:=f.size;have J:=d.lt;refine⟨o,p,st,m,q,nn,d.beside f (λc b=>⟨(out c b).1,(out c b).2.2.1⟩) (λh=>(out s h).2.2.2.1 rfl),r,t,j.step f (λc b=> .inr (.inr (.inr (out c b).2.2.2.2))) (λc b=> .inl b),u,λc b=>?_⟩;rcases n c b with h|⟨v,w⟩
 ·obtain⟨y,K,z,C,D⟩:=out c h;exact⟨y,by omega,z,C,D⟩
 ·refine⟨d.db.free v,w,by omega,by omega,λx E F=>?_⟩;obtain⟨i,G⟩:=Ge E;have:=(j.host i x G).lt c F;omega
theorem LW.on {b:aa}(d:LW B g h s a N sh l mp O)(x:Ext h b):LW B g b s a N sh l mp O:=d.own (x.ai λ_ _ h=>h.elim) λc e=> .inl e
theorem LW.less {b:Nat->Prop}(d:LW B g h s a N sh l mp O)(e: ∀c,b c->O c):LW B g h s a N sh l mp b:=by obtain⟨f,i,st,m,j,nn,k,n,o,p,q,out⟩:=d;exact⟨f,i,st,m,j,nn,k,n,o,p,q,λc r=>out c (e c r)⟩
theorem LW.put {b c:Nat}(W:LW B g h s a N sh l mp O)(t:a<=b)(f:64*b<=B.C)(j:N<=c)(d:c<=1000000):LW B g h s b c sh l mp O:=by obtain⟨k,n,st,m,o,nn,p,u,q,e,v,out⟩:=W;exact⟨k,n,st,m,o,nn,p.put (by omega) (by omega) f,by omega,q,⟨λi x r=>(e.host i x r).more j d,e.la⟩,d,out⟩
abbrev br(g:aa)(O:Nat->Prop):Nat->Prop:=λc=>g.size<=c/\ ¬O c
theorem LW.dD {b:aa}{w:Nat->Prop}{i a' e nn o:Nat}{x x':Hs}{J y:Hp}{d f:Nat->Nat}{st p:Db}{m z:Bx}{K C:Bl}(j:Fu B g h s J d st m K (1+3*a) (64*a) nn)(D:j8 g h d s sh N l)(out: ∀c,O c->d c=0/\c<h.size/\g.size<=c/\c≠s/\ ∀x∈l,¬x.bN c)
  (q:l[i]? =some x) (L:Fu B g b s y f p z C (1+3*a') (64*a') o) (M:o<=a') (r:Mod w h b) (t: ∀c,w c->d c≠0\/h.size<=c\/c=s\/x.bN c) (E: ∀c,f c≠0->d c≠0\/h.size<=c) (P:Dk g b f s x'.p x'.bh x'.bu x'.name sh x'.f x'.u e) (same: ∀c,x'.bN c↔x.bN c) (F:N<=e/\e<=1000000):
  LW B g b s a' e sh (l.set i x') (CZ p) O/\Mod (br g O) h b:=by
 have W:=j.db.mem.ext.size;have X:=j.lt;have Y:=r.size;have G:=AK q;refine⟨⟨y,f,p,z,C,o,L,M,rfl,D.set q r t E P same F,F.2,λc k=>?_⟩,r.ai λc Z k=>⟨?_,λQ=>?_⟩⟩
 ·obtain⟨u,S,H,v,n⟩:=out c k;refine⟨Decidable.byContradiction λT=>?_,by omega,H,v,λU V I=>?_⟩
  ·rcases E c T with h|h
   ·exact h u
   ·omega
  ·rcases Wb V with h|rfl
   ·exact n U h I
   ·exact n x G ((same c).1 I)
 ·rcases t c k with h|h|h|h
  ·exact(j.db.mem.own c h).1
  ·omega
  ·have:=j.base;omega
  ·exact((D.host i x q).bN c h).2.1
 ·obtain⟨u,S,H,v,n⟩:=out c Q;rcases t c k with h|h|h|h
  ·exact h u
  ·omega
  ·exact v h
  ·exact n x G h
theorem LW.start {b:Nat}{Sb:Nat->Prop}{m:Bx}(k:cj g)(n:Cm h b Sb m)(d:Ext g h)(o: ∀c,Sb c->g.size<=c)(hd:m.down=false)(p:m.fuel= -1)(q: ∀f,ff m (aD nl f)=none)(r: ∀f,ff m (aD nn f)=none)(t: ∀x,ff m x≠none->(bl x).head? ≠some 116)(hA:1<=B.A)(u:bg m.files<=B.W0)
  (v: ∀e s,LW B g e s 0 0 sh [] [] (λ_=>False)->Ext g e->h.size<=s->R (J1 #[Ap s,J6 J9 0]) e):AA A P Re #[Ap b] h R:=
 AML (B:=B) k n d o hd p q r t hA u λe s w y z C D G j mp H I E=>v e s ⟨w,y,z,C,D,0,j,A0 _,mp,⟨λi x d=>by simp at d,λi J x K d=>by simp at d⟩,by omega,λc F=>F.elim⟩ j.db.mem.ext E
theorem LW.host {name:A2P}(E:LW B g h s a N sh l mp O)(F:Au name=true)(G:1<=sh/\sh<=16)
  (H: ∀j p k n,LW B g j s a N sh (l++ [⟨p,k,n,name,λ_=>0,λ_=>0⟩]) mp O->Ext h j->R (J1 #[Ap p,J6 J9 0]) j):AA A P PI #[Ap s,J7 name,J6 J9 (sh:Int)] h R:=by
 obtain⟨I,J,st,m,K,nn,v,L,M,o,w,out⟩:=E;refine AQI v F G λj p k n Q fresh x=>H j p k n ⟨I,J,st,m,K,nn,v.on x,L,M,⟨λi d b=>?_,λi e y z S T U c f t=>?_⟩,w,λc f=>?_⟩ x
 ·rw[List.getElem?_append] at b;split at b
  ·exact(o.host i d b).on x
  ·rw[A0Y] at b;split at b
   ·cases b;exact Q.more (AD _) w
   ·cases b
 ·have C: ∀ {e:Nat} {d:Hs},(l++ [⟨p,k,n,name,λ_=>0,λ_=>0⟩])[e]? =some d->(e<l.length/\l[e]? =some d)\/(e=l.length/\ ∀c,d.bN c->h.size<=c):=λ{e d} b=>by
   rw[List.getElem?_append] at b;split at b
   ·rename_i D;exact .inl ⟨D,b⟩
   ·rename_i D;rw[A0Y] at b;split at b
    ·rename_i ab;cases b;exact .inr ⟨by omega,λc f=>(fresh c f).1⟩
    ·cases b
  rcases C S with⟨V,q⟩|⟨V,q⟩<;>rcases C T with⟨W,r⟩|⟨W,r⟩
  ·exact o.la i e y z q r U c f t
  ·have:=(o.host i y q).lt c f;have:=r c t;omega
  ·have:=(o.host e z r).lt c t;have:=q c f;omega
  ·omega
 ·obtain⟨X,ac,Y,Z,aa⟩:=out c f;have:=x.size;refine⟨X,by omega,Y,Z,λd b u=>?_⟩;rcases List.mem_append.1 b with h|h
  ·exact aa d h u
  ·rw[List.mem_singleton.1 h] at u;have:=(fresh c u).1;omega
def Hs.mB(x:Hs)(b c:Nat):Hs:= {x with f:=dB x.f b c,u:=dB x.u b 0}
def Hs.lost(x:Hs)(b:Nat):Hs:= {x with f:=dB x.f b 0}
def Hs.jh(x:Hs)(b:Nat):Hs:= {x with u:=dB x.u b (x.u b+1)}
theorem LW.holds {i b:Nat}{x:Hs}(c:LW B g h s a N sh l mp O)(d:l[i]? =some x)(e:R (J6 J9 (x.f b:Int)) h):AA A P Dv #[Ap x.p,J6 J9 (b:Int)] h R:=by obtain⟨j,k,st,m,n,nn,o,p,q,f,r,out⟩:=c;exact ZA (f.host i x d) e
theorem LW.acquire {i b r:Nat}{x:Hs}{nm:A2P}(n:cj g)(o:LW B g h s a N sh l mp O)(e:l[i]? =some x)(p:b<sh)(L:F7 mp b r nm)(q:r+1<=2147483647)(hA:4+3*a<=B.A)(E:64*a+64<=B.C)(F:a+1<=1000000)(f:N+1<=1000000)
  (t: ∀d,LW B g d s (a+1) (N+1) sh (l.set i (x.mB b (r+1))) (cM mp [⟨CF b,Ji (r+1) x.name,false⟩]) O->Mod (br g O) h d->R (J1 #[J6 J9 ((r+1:Nat):Int),J6 J9 0]) d):
  AA A P Ex #[Ap x.p,J6 J9 (b:Int)] h R:=by
 obtain⟨G,H,st,m,I,nn,j,J,rfl,k,K,out⟩:=o;have u:=k.host i x e;refine AIY n j u p L q (by omega) (by omega) (by omega) f λd M Q S T U V W v w y z C=>?_
 have:=LW.dD (x':=x.mB b (r+1)) (a':=a+1) j k out e (v.put (by omega) (by omega) (by omega)) (by omega) z (λc D=>by
  rcases D with h|h|h|h|h
  ·exact .inl h
  ·exact .inr (.inl h)
  ·exact .inr (.inr (.inl h))
  ·exact .inr (.inr (.inr (.inr (.inl h))))
  ·exact .inr (.inr (.inr (.inr (.inr h))))) C y (λ_=>Ds) ⟨Cd _,f⟩
 rw[w] at this;exact t d this.1 this.2
theorem LW.number {i b:Nat}{x:Hs}(r:LW B g h s a N sh l mp O)(j:l[i]? =some x)(t:x.f b<=2147483647)(u:x.u b+1<16777216)(k:N+1<=1000000)
  (v:x.f b=0->R (.int .u64 0) h)
  (w:x.f b≠0-> ∀d,LW B g d s a (N+1) sh (l.set i (x.jh b)) mp O->Mod (br g O) h d->R (.int .u64 ((x.f b*16777216+(x.u b+1):Nat):Int)) d):
  AA A P Gh #[Ap x.p,J6 J9 (b:Int)] h R:=by
 obtain⟨E,F,st,m,G,nn,n,y,rfl,o,H,out⟩:=r;have p:=o.host i x j;refine AKC p t u k v λz d C q=>?_
 have f:=p.bN x.bu (.inr (.inr rfl));have:=LW.dD (x':=x.jh b) n o out j (n.beside q (λc e=>by subst e;exact⟨f.1,f.2.1⟩) λD=>f.2.2 D.symm) y q (λc e=> .inr (.inr (.inr (.inr (.inr e))))) (λc e=> .inl e) C (λ_=>Ds) ⟨Cd _,k⟩;exact w z d this.1 this.2
theorem LW.change {i d:Nat}{x:Hs}{conds sl:Sl}{f lp:List Pr}(z:cj g)(C:LW B g h s a N sh l mp O)(j:l[i]? =some x)(D:d<256)(E:x.f d<=2147483647)(hA:4+3*a<=B.A)(ab:64*a+64<=B.C)(ac:a+1<=1000000)(vc:View BZ h conds f)(F:f.length<=1000000)(v:View BZ h sl lp)(G:lp≠ []-> ∀b,sl.af=some b->b<g.size\/O b)(H: ∀x∈f,x.key.size<=1099511627776)
  (I:x.f d=0->R (J6 J9 170) h)
  (J:x.f d≠0->BQ mp (FC d (x.f d) x.name)=false-> ∀e,LW B g e s a N sh (l.set i (x.lost d)) mp O->Mod (br g O) h e->R (J6 J9 170) e)
  (K:x.f d≠0->BQ mp (FC d (x.f d) x.name)=true->dx mp (FC d (x.f d) x.name::f) lp≠0-> ∀e,Ext h e->R (J6 J9 (dx mp (FC d (x.f d) x.name::f) lp)) e)
  (L:x.f d≠0->BQ mp (FC d (x.f d) x.name)=true->dx mp (FC d (x.f d) x.name::f) lp=0-> ∀e,LW B g e s (a+1) N sh l (cM mp lp) O->Mod (br g O) h e->R (J6 J9 0) e):
  AA A P Hw #[Ap x.p,J6 J9 (d:Int),J4 conds.p conds.len conds.cap,J4 sl.p sl.len sl.cap] h R:=by
 obtain⟨ad,ae,st,m,af,nn,k,M,rfl,o,w,out⟩:=C;have y:=o.host i x j;have ag:=k.db.mem.ext.size;refine ARQ z k y D E (by omega) (by omega) (by omega) vc F v (λQ b S=>?_) H I (λp T e q r t=>?_) K λp U V e ah ai aj ak al am an q W r t X=>?_
 ·rcases G Q b S with h|h
  ·refine⟨by omega,k.db.base h,?_⟩;have:=(y.bN x.bh (.inr (.inl rfl))).2.1;omega
  ·obtain⟨Y,Z,ao,ap,aa⟩:=out b h;exact⟨Z,Y,λu=>aa x (AK j) (.inr (.inl u))⟩
 ·have:=LW.dD (x':=x.lost d) k o out j q M t (λc n=>by
   rcases n with h|h
   ·exact .inr (.inl h)
   ·exact .inr (.inr (.inr (.inr (.inl h))))) (λc n=> .inl n) r (λ_=>Ds) ⟨A0 _,w⟩
  exact J p T e this.1 this.2
 ·have:=LW.dD (x':=x) (a':=a+1) k o out j (q.put (by omega) (by omega) (by omega)) (by omega) t (λc n=>by
   rcases n with h|h|h
   ·exact .inl h
   ·exact .inr (.inl h)
   ·exact .inr (.inr (.inl h))) X r (λ_=>Ds) ⟨A0 _,w⟩
  rw[W,show l.set i x=l from by
   obtain⟨aq,u⟩:=List.getElem?_eq_some_iff.1 j;rw[<- u,PB]] at this
  exact L p U V e this.1 this.2
end
abbrev cO:=A2P->Option (List Ev)
abbrev dv:=A2P->Option (List UInt8×Int×Int)
def Be(l:List Ev):aZ:=(ET Qs l).getD Qs
structure Ta (l:List Ev):Prop where
 ne:l≠ []
 len:l.length<=500
 ok:ET Qs l=some (Be l)
 st:0<=(Be l).status/\(Be l).status<=4
theorem Ta.next {l:List Ev}(b:Ta l):(Be l).next=l.length+1/\ ∀(i:Nat) (a:Ev),l[i]? =some a->a.id=i+1/\EX a=true:=vV b.ok b.ne
def Rv(wid:A2P)(l:List Ev):List Pr:=l.map (Oj wid)
def Sk(wid:A2P)(l:List Ev):Pr:=⟨Kk wid,Pz (Be l).status.toNat (Be l).next.toNat false,false⟩
def Xu(a:A2P)(x:List UInt8×Int×Int):Pr:=⟨Mf a,iV x.1 x.2.1.toNat x.2.2.toNat,false⟩
structure Jl (mp:List Pr) (fl:cO) (an:dv):Prop where
 cF: ∀wid,Au wid=true-> ∀k,hU (WE wid) k=true->Ae k mp=Ae k (Rv wid ((fl wid).getD []))
 ie: ∀wid,Au wid=true->Ae (Kk wid) mp=(fl wid).map (Sk wid)
 jV: ∀bz,Au bz=true->Ae (Mf bz) mp=(an bz).map (Xu bz)
 dF: ∀wid l,fl wid=some l->Ta l
 jW: ∀bz x,an bz=some x->(0<=x.2.1/\x.2.1<=4)/\(0<=x.2.2/\x.2.2<=501)/\x.1.length<=2000
theorem Fq {s:A2P}(a:Au s=true):s.size<=16:=(Hm.1 a).2.1
theorem Qd {wid:A2P}{l:List Ev}{i:Nat}{p:Pr}(b:(Rv wid l)[i]? =some p): ∃a,l[i]? =some a/\p=Oj wid a:=by unfold Rv at b;rw[Bm] at b;obtain⟨a,c,rfl⟩:=Option.map_eq_some_iff.1 b;exact⟨a,c,rfl⟩
theorem Pw {wid:A2P}{l:List Ev}(b: ∀(i:Nat) (a:Ev),l[i]? =some a->a.id=i+1/\EX a=true){i:Nat}{a:Ev}(c:l[i]? =some a):(Oj wid a).key=dW wid (i+1):=by unfold Oj;rw[(b i a c).1];rfl
theorem Wp {wid:A2P}{l:List Ev}(j:l.length<=500)(c: ∀(i:Nat) (a:Ev),l[i]? =some a->a.id=i+1/\EX a=true):Sorted (Rv wid l):=by unfold Sorted;rw[List.pairwise_iff_getElem];intro i k d b m;obtain⟨a,e,f⟩:=Qd (A2 d);obtain⟨n,g,h⟩:=Qd (A2 b);rw[f,h,Pw c e,Pw c g];unfold Rv at b;rw[BE] at b;exact lS (by omega) (by omega)
theorem mT {q:A2P->Bool}{a:A2P}: ∀ {l:List Pr},Ae a (l.filter λx=>q x.key)=if q a=true then Ae a l else none
 | []=>by simp[M.UM]
 |x::l=>by
  rw[B9];by_cases b:x.key=a
  ·subst b;split
   ·rw[M.BB,M.BB,if_pos rfl,if_pos rfl]
   ·rename_i c;rw[mT,if_neg c]
  ·split
   ·rw[M.BB,if_neg b,mT,M.BB,if_neg b]
   ·rw[mT,M.BB,if_neg b]
theorem AMH {a:A2P}{b:Nat}{l:List Pr}(c: ∀x∈l.take b,x.key≠a):Ae a (l.drop b)=Ae a l:=by
 conv=>rhs;rw[<- DP b l]
 rw[M.Nb,M.Ee c,Mn]
theorem AOx {k:List Pr}{p:cO}{u:dv}{wid:A2P}{l:List Ev}{e:Nat}(s:Sorted k)(m:Jl k p u)(v:Au wid=true)(n:p wid=some l)(A:e<=l.length):
  kP k (WE wid) (dW wid (e+1)) 32=((Rv wid l).drop e).take 32:=by
 have h:=(m.dF wid l n).next.2;have w:=(m.dF wid l n).len;unfold kP;rw[show(32:Int).toNat=32 from rfl];congr 1;refine Sorted.ext (s.sublist Hi) ((Wp w h).sublist (List.drop_sublist _ _)) λc=>?_
 rw[mT (q:=λc=>hU (WE wid) c&& !aO c (dW wid (e+1)))];by_cases j:hU (WE wid) c=true
 ·rw[j,Ek];have r:=m.cF wid v c j;rw[n,JT] at r;by_cases f:aO c (dW wid (e+1))=true
  ·rw[f,if_neg (by simp)]
   symm
   refine M.Ee λx g b=>?_
   obtain⟨i,a⟩:=Ge g;rw[Bs] at a;obtain⟨t,d,rfl⟩:=Qd a;rw[Pw h d] at b;subst b;have y:=(List.getElem?_eq_some_iff.1 d).1;by_cases z:i=0
   ·subst z;rw[Gk,Bo] at f;cases f
   ·have:=Nq f;rw[lS (by omega) (by omega)] at this;cases this
  ·have o:aO c (dW wid (e+1))=false:=by simpa using f
   rw[o,if_pos (by rfl),r]
   symm
   refine AMH λx g b=>?_
   obtain⟨i,a⟩:=Ge g;rw[Fo] at a;split at a
   ·rename_i B;obtain⟨t,d,rfl⟩:=Qd a;have y:=(List.getElem?_eq_some_iff.1 d).1;rw[Pw h d] at b;subst b;rw[lS (by omega) (by omega)] at o;cases o
   ·cases a
 ·rw[if_neg (by simp[j])]
  symm
  refine M.Ee λx g b=>?_
  obtain⟨i,a⟩:=Ge g;rw[Bs] at a;obtain⟨t,d,rfl⟩:=Qd a;rw[Pw h d] at b;subst b;exact j (w6 wid _)
theorem Jv {a:A2P}{b m:List Pr}(s:Sorted m)(c: ∀d∈b,d.key≠a):Ae a (cM m b)=Ae a m:=by rw[Xh a s,M.Ee λx e=>c x (List.mem_reverse.1 e)]
theorem lz {b m:List Pr}(s:Sorted m){p:Pr}(d:p∈b)(e: ∀a∈b,a.key=p.key->a=p):Ae p.key (cM m b)=if p.gone then none else some p:=by
 rw[Xh p.key s];cases c:Ae p.key b.reverse with
 |none=>
  exfalso;unfold Ae at c;rw[HI] at c;have:=c p (List.mem_reverse.2 d);simp at this
 |some a=>
  obtain⟨f,g⟩:=M.Np c;obtain rfl:=e a (List.mem_reverse.1 g) f;show alive (some a)=_;rw[I9]
def dC {a:Type}(f:A2P->Option a)(c:A2P)(x:a):A2P->Option a:=λb=>if b=c then some x else f b
theorem IB {a:Type}{f:A2P->Option a}{k:A2P}{x:a}:dC f k x k=some x:=if_pos rfl
theorem SQ {b:Type}{f:A2P->Option b}{c a:A2P}{x:b}(d:a≠c):dC f c x a=f a:=if_neg d
def pj {a:Type}(f:A2P->Option a):Option (A2P×a)->A2P->Option a
 |none=>f
 |some (b,x)=>dC f b x
structure fy (b:List Pr) (o:Option (A2P×(List UInt8×Int×Int))):Prop where
 fg: ∀p∈b,(BU p.key≠104/\BU p.key≠119/\BU p.key≠114)\/ ∃r x,o=some (r,x)/\p=Xu r x
 has: ∀r x,o=some (r,x)->Xu r x∈b/\Au r=true/\(0<=x.2.1/\x.2.1<=4)/\(0<=x.2.2/\x.2.2<=501)/\x.1.length<=2000
theorem Jl.land {F b:List Pr}{h:cO}{A:dv}{wid:A2P}{more:List Ev}{t:Option (A2P×(List UInt8×Int×Int))}(q:Jl F h A)(s:Sorted F)(G:Au wid=true)
  (o:Ta ((h wid).getD []++more)) (B:fy b t):
  Jl (cM F (more.map (Oj wid)++([Sk wid ((h wid).getD []++more)]++b))) (dC h wid ((h wid).getD []++more)) (pj A t):=by
 have N:=o.next.2;have P:=o.len;have u: ∀p∈b,BU p.key≠104/\BU p.key≠119:=λp C=>by
  rcases B.fg p C with a|⟨f,x,_,rfl⟩
  ·exact⟨a.1,a.2.1⟩
  ·exact⟨by show BU (Mf f)≠104;rw[Kg];decide,by show BU (Mf f)≠119;rw[Kg];decide⟩
 have rowAt: ∀e∈more,∃i:Nat,((h wid).getD []++more)[i]? =some e/\(Oj wid e).key=dW wid (i+1):=λe Q=>by
  obtain⟨i,v⟩:=Ge Q;have:((h wid).getD []++more)[((h wid).getD []).length+i]? =some e:=by rw[DE (by omega),V0];exact v
  exact⟨_,this,Pw N this⟩
 refine⟨λd w D y=>?_,λd w=>?_,λf O=>?_,λd l E=>?_,λf x m=>?_⟩
 ·have k:=qJ y;by_cases e:d=wid
  ·subst e;rw[IB,JT];by_cases H: ∃p∈more.map (Oj d),p.key=D
   ·obtain⟨p,C,rfl⟩:=H;obtain⟨n,z,rfl⟩:=List.mem_map.1 C;obtain⟨i,v,R⟩:=rowAt n z;have S:Oj d n∈Rv d ((h d).getD []++more):=List.mem_map.2 ⟨n,AK v,rfl⟩;rw[Sorted.find (Wp P N) S,lz s (HJ _ C) (λg j c=>?_)]
    ·rfl
    ·rcases List.mem_append.1 j with a|a
     ·obtain⟨T,U,rfl⟩:=List.mem_map.1 a;obtain⟨V,I,W⟩:=rowAt T U;have Z:=(List.getElem?_eq_some_iff.1 v).1;have aa:=(List.getElem?_eq_some_iff.1 I).1;rw[R,W] at c;have:=(APY (Fq G) (Fq G) (by omega) (by omega) c).2;have:V=i:=by omega
      subst this;rw[v] at I;cases I;rfl
     ·rcases List.mem_append.1 a with a|a
      ·rw[List.mem_singleton.1 a] at c;rw[<- c] at k;rw[show BU (Sk d ((h d).getD []++more)).key=119 from FY d] at k;exact absurd k (by decide)
      ·exact absurd (by rw[c];exact k) (u g a).1
   ·rw[Jv s λg j c=>?_,q.cF d w D y]
    ·unfold Rv;rw[CH,M.Nb,M.Ee (l:=more.map (Oj d)) λx m X=>H ⟨x,m,X⟩];cases Ae D (List.map (Oj d) ((h d).getD []))<;>rfl
    ·rcases List.mem_append.1 j with a|a
     ·exact H ⟨g,a,c⟩
     ·rcases List.mem_append.1 a with a|a
      ·rw[List.mem_singleton.1 a] at c;rw[<- c] at k;rw[show BU (Sk d ((h d).getD []++more)).key=119 from FY d] at k;exact absurd k (by decide)
      ·exact absurd (by rw[c];exact k) (u g a).1
  ·rw[SQ e,Jv s λg j c=>?_,q.cF d w D y];rcases List.mem_append.1 j with a|a
   ·obtain⟨n,z,rfl⟩:=List.mem_map.1 a;rw[<- c] at y;exact e (w7 (Fq w) (Fq G) y)
   ·rcases List.mem_append.1 a with a|a
    ·rw[List.mem_singleton.1 a] at c;rw[<- c] at k;rw[show BU (Sk wid ((h wid).getD []++more)).key=119 from FY wid] at k;exact absurd k (by decide)
    ·exact absurd (by rw[c];exact k) (u g a).1
 ·by_cases e:d=wid
  ·subst e;rw[IB];refine(lz (p:=Sk d ((h d).getD []++more)) s (by simp) λg j c=>?_).trans rfl;rcases List.mem_append.1 j with a|a
   ·obtain⟨n,z,rfl⟩:=List.mem_map.1 a;have:=congrArg BU c;rw[show BU (Oj d n).key=104 from Uh _ _,show BU (Sk d ((h d).getD []++more)).key=119 from FY d] at this;exact absurd this (by decide)
   ·rcases List.mem_append.1 a with a|a
    ·exact List.mem_singleton.1 a
    ·exact absurd ((congrArg BU c).trans (FY d)) (u g a).2
  ·rw[SQ e,Jv s λg j c=>?_,q.ie d w];rcases List.mem_append.1 j with a|a
   ·obtain⟨n,z,rfl⟩:=List.mem_map.1 a;have:=congrArg BU c;rw[show BU (Oj wid n).key=104 from Uh _ _,FY] at this;exact absurd this (by decide)
   ·rcases List.mem_append.1 a with a|a
    ·rw[List.mem_singleton.1 a] at c;exact e (AMg c).symm
    ·exact absurd ((congrArg BU c).trans (FY d)) (u g a).2
 ·have no: ∀g∈more.map (Oj wid)++([Sk wid ((h wid).getD []++more)]++b),g.key=Mf f-> ∃x,t=some (f,x)/\g=Xu f x:=λg j c=>by
   have o:=(congrArg BU c).trans (Kg f);rcases List.mem_append.1 j with a|a
   ·obtain⟨n,z,rfl⟩:=List.mem_map.1 a;rw[show BU (Oj wid n).key=104 from Uh _ _] at o;exact absurd o (by decide)
   ·rcases List.mem_append.1 a with a|a
    ·rw[List.mem_singleton.1 a,show BU (Sk wid ((h wid).getD []++more)).key=119 from FY wid] at o;exact absurd o (by decide)
    ·rcases B.fg g a with a|⟨r,x,Y,rfl⟩
     ·exact absurd o a.2.2
     ·have:r=f:=w8 c;subst this;exact⟨x,Y,rfl⟩
  cases t with
  |none=>
   rw[Jv s λg j c=>?_,q.jV f O]
   ·rfl
   ·obtain⟨x,m,_⟩:=no g j c;cases m
  |some J=>
   obtain⟨r,x⟩:=J;show _=(dC A r x f).map (Xu f);by_cases e:f=r
   ·subst e;rw[IB];refine(lz (p:=Xu f x) s ?_ λg j c=>?_).trans rfl
    ·exact Kd _ (Kd _ (B.has f x rfl).1)
    ·obtain⟨K,L,rfl⟩:=no g j c;cases L;rfl
   ·rw[SQ e,Jv s λg j c=>?_,q.jV f O];obtain⟨K,L,_⟩:=no g j c;cases L;exact e rfl
 ·by_cases e:d=wid
  ·subst e;rw[IB] at E;cases E;exact o
  ·rw[SQ e] at E;exact q.dF d l E
 ·cases t with
  |none=>exact q.jW f x m
  |some J=>
   obtain⟨r,K⟩:=J;have m:dC A r K f=some x:=m;by_cases e:f=r
   ·subst e;rw[IB] at m;cases m;exact(B.has f x rfl).2.2
   ·rw[SQ e] at m;exact q.jW f x m
theorem Jl.aW {g b:List Pr}{j:cO}{k:dv}(a:Jl g j k)(s:Sorted g)(h: ∀p∈b,BU p.key≠104/\BU p.key≠119/\BU p.key≠114):Jl (cM g b) j k:=by
 refine⟨λf i n l=>?_,λf i=>?_,λm o=>?_,a.dF,a.jW⟩
 ·rw[Jv s λc d e=>(h c d).1 (by rw[e];exact qJ l)];exact a.cF f i n l
 ·rw[Jv s λc d e=>(h c d).2.1 (by rw[e];exact FY f)];exact a.ie f i
 ·rw[Jv s λc d e=>(h c d).2.2 (by rw[e];exact Kg m)];exact a.jV m o
theorem Jl.empty:Jl [] (λ_=>none) (λ_=>none):=
 ⟨λb _ d _=>rfl,λb _=>rfl,λc _=>rfl,λb l a=>(by cases a),λc x a=>(by cases a)⟩
theorem ae.and {b:Bool}{a c:Prop}(d:b=true->a)(e:b=false->c):ae b a c:=ae.intro d e
theorem KN {s:A2P}(a:s.size<18446744073709551616):(BP (bl s)).length<=10+s.size:=by have:=AV a;simp only[BP,A1,BA];omega
theorem xw {x:bO}(a:MS x=true):0<=x.kind/\x.kind<=3/\(x.kind=1\/x.kind=2\/x.kind=3)/\x.name.size<=16/\x.aL.size<=16/\0<=x.tries/\x.tries<=5/\0<=x.az/\x.az<=5/\0<=x.wait/\x.wait<=1000:=by
 have d: ∀ {s:A2P},Au s=true->s.size<=16:=λa=>(Hm.1 a).2.1
 have z:Ha.size=0:=rfl;unfold MS at a;split at a
 ·rename_i e;simp only[A3,Cp,decide_eq_true_eq,BR] at a;obtain⟨⟨⟨g,h⟩,l⟩,m⟩:=a;have:=d h;rcases g with⟨b,c⟩|⟨b,c⟩
  ·rw[b];omega
  ·have:=d b;omega
 ·split at a
  ·rename_i i e;simp only[A3,decide_eq_true_eq,BR] at a;obtain⟨⟨⟨⟨b,c⟩,j⟩,k⟩,f⟩:=a;rw[b,c];omega
  ·split at a
   ·rename_i i n e;simp only[A3,decide_eq_true_eq] at a;obtain⟨⟨⟨⟨b,c⟩,j⟩,k⟩,f⟩:=a;have:=d f;rw[b];omega
   ·cases a
theorem AJI {x:bO}(a:MS x=true):(Gt x).length<=100:=by
 obtain⟨b,c,d,e,f,g,h,i,j,k,l⟩:=xw a;have m:=AV (n:=x.kind.toNat) (by omega);have o:=AV (n:=x.tries.toNat) (by omega);have p:=AV (n:=x.az.toNat) (by omega);have q:=AV (n:=x.wait.toNat) (by omega);have r:=KN (s:=x.name) (by omega);have t:=KN (s:=x.aL) (by omega);unfold Gt;rw[A1];split
 ·simp only[A1];omega
 ·split<;>omega
theorem Ow: ∀ {l:List bO},l.all MS=true->(l.flatMap Gt).length<=l.length*100
 | [],_=>by simp
 |x::l,a=>by
  simp only[Nd,A3] at a;have b:=AJI a.1;have c:=Ow a.2;simp only[AH,A1,A5];omega
def XV(p:ct):J0:=J1 #[J7 (AX (if Fx p then CP p else [])),J6 J9 (if Fx p then 0 else 130)]
section
variable {A : al} {h : aa} {R : A2O}
theorem AJQ {l:List Ev}{sl:Sl}{t:aZ}(v:View fZ h sl l)(av:l.length<=500)(hd: ∀f∈l,f.data.size<1099511627776)(V:ET Qs l=some t)
  (W: ∀y a b c,Ext h y->I1 y t a b c->(∀ x,a.af=some x\/b.af=some x\/c.af=some x->h.size<=x)->R (J1 #[(t.V a b c).v,J6 J9 0,J6 J9 0]) y):
  AA A P PW #[J4 sl.p sl.len sl.cap] h R:=by
 refine ACJ ?_;unfold VW;refine ak.mk λaw _ X Y E=>ak.mk λax _ F G ay=>?_
 rw[E] at F;rw[E];have Z:=Y.trans G;have aa: ∀x,(⟨none,0,0⟩:Sl).af=some x\/(⟨none,0,0⟩:Sl).af=some x\/(⟨none,0,0⟩:Sl).af=some x->h.size+2<=x:=λx d=>by simp[Sl.af] at d
 refine Loop.rule (λm x k=> ∃(i:Nat) (s:aZ) (a b c:Sl),x=((i:Int),())/\m=l.length-i/\i<=l.length/\Ext h k/\k[h.size]? =some (J2 bG.z.c Ao (0,0))/\k[h.size+1]? =some (J2 (s.V a b c).c Ao (0,0))/\
   I1 k s a b c/\(∀ x,a.af=some x\/b.af=some x\/c.af=some x->h.size+2<=x)/\De s i/\ET s (l.drop i)=some t) ?_
  ⟨0,Qs,⟨none,0,0⟩,⟨none,0,0⟩,⟨none,0,0⟩,rfl,rfl,AD _,Z,G.af X (λh=>h),F,⟨View.nil,View.nil,View.nil⟩,aa,De.zero,V⟩
 rintro K m _ H ⟨i,s,a,b,c,rfl,rfl,az,n,I,o,J,fr,L,g⟩ ab;have aA:=v.len;refine ae.intro (λz=>?_) (λz=>?_)
 ·have j:i<l.length:=by simp at z;omega
  obtain⟨f,p⟩: ∃f,l[i]? =some f:=⟨_,A2 j⟩;have ac:=AK p;have ad:l.drop i=f::l.drop (i+1):=by rw[FF j];rw[A2 j] at p;cases p;rfl
  rw[ad,ET] at g;split at g;rotate_left
  ·cases g
  rename_i M;refine(v.ext n).idx p λaC _ af=>NI.mk f af ?_
  refine ak.mk λN _ q ag ah=>aN.mk q (A0 8) λai O aj aD=>?_
  rw[pA] at O;have r:Ext H ai:=ag.more aj λc e=>by subst e;exact A0 _
  have aE:=Af o;refine Aw.mk (s.V a b c) (Et (r.af o λh=>h)) (NI.mk f (P7 O) ?_);refine pG (J.ext r) L (by omega) (hd f ac) λaF al am an ao ap u=>G9.mk _ ⟨_,rfl,?_⟩
  rw[M];have B:=r.trans ao;refine ak.mk λaG _ aq C aH=>aN.mk aq (A0 12) λar Q S aI=>ae.no rfl ?_
  rw[Ob] at Q;have w:Ext H ar:=B.more (C.mod.trans S) λc e=>by subst e;exact B.size
  refine Aw.mk _ (Et Q) (aN.mk (w.af o λh=>h) (A0 12) λaJ T D aK=>?_);rw[Ob] at T;dsimp only;rw[Ab (by omega)];have aL:=r.size;have aM:=C.size;have aO:=B.size;have aP:=w.size;have aQ:=n.size;refine ab (l.length-(i+1)) _ _ (by omega) ⟨i+1,_,al,am,an,rfl,rfl,j,(n.trans w).more D λc e=>by subst e;omega,D.af (w.af I λh=>h) (by omega),T,?_,λx d=>?_,TD L M,g⟩
  ·have au:=ap.ext (C.more S λc e=>by subst e;exact A0 _);exact au.mod D (λx d e=>by have:=u x (.inl d);omega) (λx d e=>by have:=u x (.inr (.inl d));omega) (λx d e=>by have:=u x (.inr (.inr d));omega)
  ·have:=u x d;omega
 ·have j:i=l.length:=by simp at z;omega
  subst j;rw[PC,ET] at g;obtain rfl:s=t:=BT g;refine Aw.mk (s.V a b c) (Et o) (aN.mk I (A0 12) λN q U ah=>?_);rw[Ob] at q;refine Aw.mk (s.V a b c) (Et q) (W N a b c (n.more U λc e=>by subst e;exact A0 _) (J.mod U (λx d e=>by have:=fr x (.inl d);omega) (λx d e=>by have:=fr x (.inr (.inl d));omega) (λx d e=>by have:=fr x (.inr (.inr d));omega)) λx d=>by have:=fr x d;omega)
theorem AQf {wid:A2P}{l:List Ev}{sl:Sl}(s:Au wid=true)(v:View fZ h sl l)(S:l.length<=1000)(hd: ∀a∈l,EX a=true/\a.data.size<1099511627776)
  (z: ∀d f,Own BZ AR f d (l.map (Oj wid))->(∀ b,d.af=some b->h.size<=b)->Ext h f->R (J1 #[J4 d.p d.len d.cap,J6 J9 0]) f):
  AA A P Ov #[J7 wid,J4 sl.p sl.len sl.cap] h R:=by
 refine AGA ?_;unfold tQ;refine Fb ⟨_,rfl,?_⟩;rw[s];refine ae.no rfl ?_;refine Loop.rule (λm x t=> ∃(i:Nat) (e:Sl),x=(e,(i:Int),())/\m=l.length-i/\i<=l.length/\Ext h t/\Own BZ AR t e ((l.take i).map (Oj wid))/\(∀ b,e.af=some b->h.size<=b)) ?_
  ⟨0,⟨none,0,0⟩,rfl,rfl,AD _,Mod.refl,Own.nil,λb k=>by simp[Sl.af] at k⟩
 rintro K m _ u ⟨i,e,rfl,rfl,T,g,n,fr⟩ B;dsimp only;have U:=v.len;refine ae.intro (λo=>?_) (λo=>?_)
 ·have j:i<l.length:=by simp at o;omega
  obtain⟨a,p⟩: ∃a,l[i]? =some a:=⟨_,A2 j⟩;obtain⟨ok,C⟩:=hd a (AK p);obtain⟨_,⟨V,W⟩,_⟩:=Qz ok;refine(v.ext g).idx p λX _ D=>NI.mk a D ?_
  refine ak.mk λY _ F G Z=>aN.mk F (A0 8) λH q I aa=>?_
  rw[pA] at q;have J:Ext u H:=G.more I λc L=>by subst L;exact A0 _
  refine NI.mk a (P7 q) (AKD C λab w=>?_);unfold om;rw[ok];refine⟨_,_,rfl,ae.no rfl (AC.mk (AL (w.af q λh=>h) rfl) ?_)⟩;have ac:=Fq s;rw[show a.id=((a.id.toNat:Nat):Int) from by omega];refine sZ (by omega) (by omega) λad M=>⟨_,rfl,?_⟩
  have r:=(J.trans w).trans M;refine ak.aY (E:=BZ) (x:=Oj wid a) rfl Hy (n.ext r) (by simp only[BE,AE];omega) (by simp only[BE,AE,maxLen];omega) λd f N O Q af=>?_
  rw[Ab (by omega)];refine B (l.length-(i+1)) _ _ (by omega) ⟨i+1,d,rfl,rfl,j,(g.trans r).more O fr,?_,λb k=>?_⟩
  ·rw[Ax,p,DM,CH];exact N
  ·rcases Q b k with y|y
   ·exact fr b y
   ·have:=(g.trans r).size;omega
 ·have j:i=l.length:=by simp at o;omega
  rw[j,C5] at n;exact z e u n fr g
theorem AP0 {t:cT}(o: ∀d,Ext h d->R (J1 #[J7 (if KI ⟨t.kind,t.ref,t.turn⟩ t.wid then ib ⟨t.kind,t.ref,t.turn⟩ t.wid else⟨#[]⟩),J6 J9 (if KI ⟨t.kind,t.ref,t.turn⟩ t.wid then 0 else 1)]) d):AA A P Tw #[t.v] h R:=by
 refine AFp ?_;unfold tX;refine ak.mk λf _ a p _=>?_
 refine ah.mk λK y=>?_
 have key: ∀k:Bool,k= !KI ⟨t.kind,t.ref,t.turn⟩ t.wid->K (k,()) f:=λk g=>by
  refine y _ _ ?_;cases b:KI ⟨t.kind,t.ref,t.turn⟩ t.wid with
  |false=>
   have:=o f p;rw[b] at this g;exact ae.yes g this
  |true=>
   rw[b] at g;refine ae.no g ?_;have z: ∀d,Ext f d->R (J1 #[J7 (ib ⟨t.kind,t.ref,t.turn⟩ t.wid),J6 J9 0]) d:=λd x=>by
    have:=o d (p.trans x);rw[b] at this;exact this
   unfold KI at b;simp only[A3,BR] at b;obtain⟨⟨⟨⟨Q,S⟩,l⟩,T,U⟩,V,W⟩:=b;have X:=Fq l;have Y:=AV (n:=t.kind.toNat) (by omega);have Z:=AV (n:=t.ref.toNat) (by omega);have aa:=AV (n:=t.turn.toNat) (by omega);have ab:=KN (s:=t.wid) (by omega);refine AC.mk (AL a rfl) ?_;rw[N9 (n:=t.kind) (by omega) (by omega)];refine CR (by omega) λac q=>⟨_,rfl,?_⟩
   have i:=q.af a λh=>h
   refine AJ.mk (n:=t.wid) (AB i rfl) ⟨AB a rfl,LK (by omega) λad r=>⟨_,rfl,⟨by rw[AP,AP,max_i64];omega,?_⟩⟩⟩;have m:=r.af i λh=>h
   refine AC.mk (n:=t.ref) (AB m rfl) ⟨AB i rfl,AB a rfl,?_⟩;rw[N9 (n:=t.ref) (by omega) (by omega)];refine CR (by omega) λaf u=>⟨_,rfl,⟨by rw[Ak,AP,AP,max_i64,A1];omega,?_⟩⟩
   have B:=u.af m λh=>h
   refine AC.mk (n:=t.turn) (AB B rfl) ⟨AB m rfl,AB i rfl,AB a rfl,?_⟩;rw[N9 (n:=t.turn) (by omega) (by omega)];refine CR (by omega) λj C=>⟨_,rfl,⟨by rw[Ak,Ak,AP,AP,max_i64,A1,A1];omega,?_⟩⟩
   rw[Ak,Ak,Ak,A4,A4];exact z j (((q.trans r).trans u).trans C)
 have no: ∀ {P:Prop},¬P->(KI ⟨t.kind,t.ref,t.turn⟩ t.wid=true->P)->K (true,()) f:=λD E=>key true (by
  cases b:KI ⟨t.kind,t.ref,t.turn⟩ t.wid with
  |false=>rfl
  |true=>exact absurd (E b) D)
 have e:KI ⟨t.kind,t.ref,t.turn⟩ t.wid=true->(1<=t.kind/\t.kind<=7)/\Au t.wid=true/\(0<=t.ref/\t.ref<=500)/\0<=t.turn/\t.turn<=5:=λb=>by
  unfold KI at b;simp only[A3,BR] at b;obtain⟨⟨⟨F,l⟩,G⟩,H⟩:=b;exact⟨F,l,G,H⟩
 refine AC.mk (AL a rfl) (ae.intro (λc=>no (P:=1<=t.kind) (by simp at c;omega) λh=>(e h).1.1) λI=>?_);refine AC.mk (AL a rfl) (ae.intro (λc=>no (P:=t.kind<=7) (by simp at c;omega) λh=>(e h).1.2) λJ=>?_);refine AJ.mk (n:=t.wid) (AB a rfl) (Fb ⟨_,rfl,ae.intro (λc=>no (P:=Au t.wid=true) (by simp at c;simp[c]) λh=>(e h).2.1) λv=>?_⟩);refine AC.mk (n:=t.ref) (AB a rfl) (ae.intro (λc=>no (P:=0<=t.ref) (by simp at c;omega) λh=>(e h).2.2.1.1) λL=>?_);refine AC.mk (n:=t.ref) (AB a rfl) (ae.intro (λc=>no (P:=t.ref<=500) (by simp at c;omega) λh=>(e h).2.2.1.2) λM=>?_);refine AC.mk (n:=t.turn) (AB a rfl) (ae.intro (λc=>no (P:=0<=t.turn) (by simp at c;omega) λh=>(e h).2.2.2.1) λw=>?_);refine AC.mk (n:=t.turn) (AB a rfl) (key _ ?_);unfold KI;simp at I J v L M w;have N:bU t.kind 1 7=true:=BR.2 (by omega);have O:bU t.ref 0 500=true:=BR.2 (by omega);rw[N,O,v];show _= !(bU t.turn 0 5);unfold bU;by_cases j:t.turn<=5
 ·simp[j,w]
 ·simp[j];omega
theorem tf {s:Sl}{p:ct}(v:View Oh h s p.steps)(V:p.steps.length<=1099511627776)(H: ∀b,Ext h b->R (XV p) b):
  AA A P Lm #[.agg #[J4 s.p s.len s.cap,J6 J9 p.aw]] h R:=by
 refine AB9 ?_;unfold VQ;refine ak.mk λaE _ u k _=>?_
 refine AY.mk (s:=s) (AL u rfl) (AC.mk (AB u rfl) ?_);refine xn (p:=p) (v.ext k) V λw o=>⟨_,rfl,?_⟩
 cases q:Fx p with
 |false=>
  refine ae.yes rfl ?_;have:=H w (k.trans o);rw[XV,q] at this;exact this
 |true=>
  refine ae.no rfl ?_;have W: ∀b,Ext w b->R (J1 #[J7 (AX (CP p)),J6 J9 0]) b:=λb x=>by
   have:=H b ((k.trans o).trans x);rw[XV,q] at this;exact this
  simp only[Fx,A3,decide_eq_true_eq] at q;obtain⟨⟨aF,X⟩,I⟩:=q;have aG:=BR.1 X;have y:=o.af u (λh=>h);refine AC.mk (n:=p.aw) (AB y rfl) ?_;rw[N9 (n:=p.aw) (by omega) (by omega)];refine CR (by omega) λaH J=>⟨_,rfl,?_⟩
  have L:=J.af y (λh=>h);refine AY.mk (s:=s) (AL L rfl) ⟨AL y rfl,?_⟩;rw[v.len,Bv (by omega)];have aI:=AV (n:=p.aw.toNat) (by omega);have aJ:=AV (n:=p.steps.length) (by omega);refine CR (by omega) λY M=>⟨_,rfl,⟨by rw[AP,AP,max_i64];omega,?_⟩⟩
  have Z:=M.af L (λh=>h);rw[Ak];refine AY.mk (s:=s) (AL Z rfl) ?_;refine Loop.rule (λm x f=> ∃i:Nat,x=(AX ((BX p.aw.toNat++BX p.steps.length)++(p.steps.take i).flatMap Gt),(i:Int),())/\Ext Y f/\m=p.steps.length-i/\i<=p.steps.length) ?_ ⟨0,by simp,Mod.refl,rfl,by omega⟩;rintro K m _ f ⟨i,rfl,N,rfl,aK⟩ aa;have O:Ext w f:=(J.trans M).trans N;have ac:Ext h f:=(k.trans o).trans O;dsimp only;have aL:=v.len;refine ae.intro (λz=>?_) (λz=>?_)
  ·have B:i<p.steps.length:=by simp at z;omega
   obtain⟨x,C⟩: ∃x,p.steps[i]? =some x:=⟨_,A2 B⟩;have ad:=AK C;have af:=List.all_eq_true.1 I x ad;obtain⟨aM,aN,aO,aP,aQ,aR,aS,aT,aU,aV,aW⟩:=xw af;have aX:((p.steps.take i).flatMap Gt).length<=1600:=by
    have:=Ow (l:=p.steps.take i) (List.all_eq_true.2 λag ai=>List.all_eq_true.1 I ag (DQ ai));have:(p.steps.take i).length<=16:=by simp;omega
    omega
   have D: ∀b,Ext f b->K (AX (((BX p.aw.toNat++BX p.steps.length)++(p.steps.take i).flatMap Gt)++Gt x),J8 J9 ((i:Int)+1),()) b:=λb aj=>by
    rw[Ab (by omega)];refine aa (p.steps.length-(i+1)) _ _ (by omega) ⟨i+1,?_,N.trans aj,rfl,B⟩;rw[Ax,C,DM,GC];simp[A4]
   generalize al:(BX p.aw.toNat++BX p.steps.length)++(p.steps.take i).flatMap Gt=am at*
   have aY:am.length<=2000:=by rw[<- al];simp only[A1];omega
   refine(v.ext ac).idx C λa _ c=>?_
   obtain⟨an,ao,ap,aq,ar,au⟩:=xl c;refine AC.mk an (AJ.mk ao (AJ.mk ap (AC.mk aq (AC.mk ar (AC.mk au ?_)))));refine ak.mk λaZ _ av aw a0=>ab.oK av λax Q ay a1=>?_
   have az:Ext f ax:=aw.more ay λc a2=>by omega
   refine AC.mk (n:=x.kind) (AL Q rfl) ?_;rw[N9 (n:=x.kind) (by omega) (by omega)];refine CR (by omega) λa3 S=>⟨_,rfl,?_⟩
   have a4:=AV (n:=x.kind.toNat) (by omega);refine⟨by rw[AP,AP,max_i64];omega,?_⟩;have d:=S.af Q (λh=>h);have E:=az.trans S;rw[Ak];refine AC.mk (n:=x.kind) (AL d rfl) ?_;have a5:=AV (n:=x.tries.toNat) (by omega);have a6:=AV (n:=x.az.toNat) (by omega);have a7:=AV (n:=x.wait.toNat) (by omega);have a8:=KN (s:=x.name) (by omega);have a9:=KN (s:=x.aL) (by omega);refine ah.mk λba F=>?_
   refine ae.intro (λe=>?_) (λe=>?_)
   ·have e:x.kind=1:=by simpa using e
    refine AJ.mk (n:=x.name) (AB d rfl) (LK (by omega) λr j=>⟨_,rfl,?_⟩);have t:=j.af d (λh=>h);refine AC.mk (n:=x.tries) (AB t rfl) ⟨AB d rfl,?_⟩;rw[N9 (n:=x.tries) (by omega) (by omega)];refine CR (by omega) λbb T=>⟨_,rfl,⟨by rw[AP,AP,max_i64];omega,?_⟩⟩
    have G:=T.af t (λh=>h);refine AJ.mk (n:=x.aL) (AB G rfl) ⟨AB t rfl,AB d rfl,?_⟩;refine LK (by omega) λbc U=>⟨_,rfl,⟨by rw[Ak,AP,AP,max_i64,A1];omega,?_⟩⟩
    have aA:=U.af G (λh=>h);refine AC.mk (n:=x.az) (AB aA rfl) ⟨AB G rfl,AB t rfl,AB d rfl,?_⟩;rw[N9 (n:=x.az) (by omega) (by omega)];refine CR (by omega) λaC aD=>⟨_,rfl,⟨?_,?_,F _ _ ?_⟩⟩
    ·rw[Ak,Ak,AP,AP,max_i64];simp only[A1];omega
    ·simp only[Ak,AP,max_i64,A1];omega
    ·have:=D aC ((((E.trans j).trans T).trans U).trans aD);simp only[Gt] at this;rw[if_pos e] at this;simp only[Ak,A4] at this ⊢;exact this
   ·have e:x.kind≠1:=by simpa using e
    refine ae.intro (λg=>?_) (λg=>?_)
    ·have g:x.kind=2:=by simpa using g
     refine AC.mk (n:=x.wait) (AB d rfl) ?_;rw[N9 (n:=x.wait) (by omega) (by omega)];refine CR (by omega) λr j=>⟨_,rfl,⟨by rw[AP,AP,max_i64,A1];omega,F _ _ ?_⟩⟩
     have:=D r (E.trans j);simp only[Gt] at this;rw[if_neg e,if_pos g] at this;simp only[Ak,A4] at this ⊢;exact this
    ·have g:x.kind≠2:=by simpa using g
     refine ae.yes (by simp;omega) (AJ.mk (n:=x.name) (AB d rfl) (LK (by omega) λr j=>⟨_,rfl,⟨by rw[AP,AP,max_i64,A1];omega,F _ _ ?_⟩⟩));have:=D r (E.trans j);simp only[Gt] at this;rw[if_neg e,if_neg g] at this;simp only[Ak,A4] at this ⊢;exact this
  ·have B:i=p.steps.length:=by simp at z;omega
   have:=W f O;rw[AG (by omega)];exact this
end
end Go.Lf.G
namespace Go.Lf
open G
open Go
open M (Sorted Ae Ca A8 Ag Ar BV Ah bE BF aS BL)
theorem View.cZ {c:Type}{d:cz c}{e:Nat->Prop}{h f:aa}{s:Sl}{l:List c}(v:View d h s l)(m:Mod e h f)(j:l≠ []-> ∀b,s.af=some b-> ¬e b):View d f s l:=by
 cases l with
 |nil=>exact⟨v.len,v.cap,λi x k=>by simp at k⟩
 |cons x l=>exact v.mod m (j (by simp))
end Go.Lf
namespace Go.Lf.G
open Go
open M (Sorted Ae Ca A8 Ag Ar BV Ah bE BF aS BL)
end Go.Lf.G
namespace Go.Lf
open G
open Go
open M (Sorted Ae Ca A8 Ag Ar BV Ah bE BF aS BL)
theorem View.oL {f:Type}{d:cz f}{h:aa}{s:Sl}{l:List f}(v:View d h s l)(j:l≠ []){b:Nat}(e:s.af=some b):b<h.size:=by
 cases l with
 |nil=>exact absurd rfl j
 |cons x l=>
  obtain⟨a,k,c⟩:=v.cells 0 x rfl;have m:0<(d.enc x).length:=by rw[d.len];exact d.pos
  have:=UV (c 0 _ (A2 m));rw[aM,aM] at this;unfold Sl.af at e;rw[k] at e;cases e;exact this
end Go.Lf
namespace Go.Lf.G
open Go
open M (Sorted Ae Ca A8 Ag Ar BV Ah bE BF aS BL)
theorem ab.mD {h:aa}{b d:Nat}{v:J0}{l l':List J0}{T:Q7}{K:aa->Prop}(e:h[b]? =some (J2 ⟨l⟩ T (0,0)))(f:d<l.length)(j:l.set d v=l')
  (k: ∀c,c[b]? =some (J2 ⟨l'⟩ T (0,0))->Mod (· =b) h c->c.size=h.size->K c):ab h ((⟨b,0,none⟩:Q6).add d) v K:=
 ab.bM e f (Wk l d v) λc m=>k c (by rw[<- j];exact m)
theorem CK {h:aa}{b j:Nat}{l:List J0}{T:Q7}{fr:Nat×Nat}{v:J0}(c:h[b]? =some (J2 ⟨l⟩ T fr))(d:l[j]? =some v):ag h ((⟨b,0,none⟩:Q6).add j)=some v:=
 AB c (by rw[<- Mz];exact d)
theorem Bf {h:aa}{b i c:Nat}{l:List J0}{T:Q7}{fr:Nat×Nat}{v:J0}(d:h[b]? =some (J2 ⟨l⟩ T fr))(e:l[i+c]? =some v):ag h (((⟨b,0,none⟩:Q6).add i).add c)=some v:=by rw[add_add];exact CK d e
theorem AQB {h:aa}{b i c d:Nat}{l:List J0}{T:Q7}{fr:Nat×Nat}{v:J0}(e:h[b]? =some (J2 ⟨l⟩ T fr))(f:l[i+(c+d)]? =some v):ag h ((((⟨b,0,none⟩:Q6).add i).add c).add d)=some v:=by rw[add_add];exact Bf e f
structure dE where
 hp:Nat
 ev:Sl
 fs:bG
 a:Sl
 b:Sl
 c:Sl
 more:Sl
 aq:Sl
 conds:Sl
abbrev dE.l(x:dE)(C:ba):List J0:= [Ap x.hp,J7 C.wid,J6 J9 (C.ao:Int),J6 J9 C.cn,J6 J9 C.bT,J3 C.kept,J4 x.ev.p x.ev.len x.ev.cap,
 J4 x.fs.steps.p x.fs.steps.len x.fs.steps.cap,J6 J9 x.fs.aw,J6 J9 x.fs.status,J6 J9 x.fs.next,J6 J9 x.fs.aX,J6 J9 x.fs.asked,J6 J9 x.fs.taken,J3 x.fs.fresh,J4 x.fs.ar.p x.fs.ar.len x.fs.ar.cap,J4 x.fs.aj.p x.fs.aj.len x.fs.aj.cap,J3 x.fs.cancel,J3 x.fs.aQ,
 J4 x.a.p x.a.len x.a.cap,J6 J9 C.st.prog.aw,J6 J9 C.st.status,J6 J9 C.st.next,J6 J9 C.st.aX,J6 J9 C.st.asked,J6 J9 C.st.taken,J3 C.st.fresh,J4 x.b.p x.b.len x.b.cap,J4 x.c.p x.c.len x.c.cap,J3 C.st.cancel,J3 C.st.aQ,
 J4 x.more.p x.more.len x.more.cap,J4 x.aq.p x.aq.len x.aq.cap,J4 x.conds.p x.conds.len x.conds.cap,J6 J9 C.err,J6 J9 C.now]
structure FO (h:aa) (cb:Nat) (z:Nat->Nat) (x:dE) (C:ba):Prop where
 af:h[cb]? =some (J2 ⟨x.l C⟩ MZ (0,0))
 zc:z cb=1
 st:I1 h C.st x.a x.b x.c
 zs: ∀y,(C.st.prog.steps≠ []/\x.a.af=some y)\/(C.st.ar≠ []/\x.b.af=some y)\/(C.st.aj≠ []/\x.c.af=some y)->z y=5
 more:Own fZ BC h x.more C.more
 zm: ∀y,x.more.af=some y->z y=2
 aq:Own BZ AR h x.aq C.aq
 zp: ∀y,x.aq.af=some y->z y=3
 conds:Own BZ AR h x.conds C.conds
 zq: ∀y,x.conds.af=some y->z y=4
theorem I1.cZ {k:Nat->Prop}{h n:aa}{s:aZ}{a b c:Sl}(f:I1 h s a b c)(m:Mod k h n)(j: ∀y,(s.prog.steps≠ []/\a.af=some y)\/(s.ar≠ []/\b.af=some y)\/(s.aj≠ []/\c.af=some y)-> ¬k y):I1 n s a b c:=
 ⟨f.steps.cZ m λd y e=>j y (.inl ⟨d,e⟩),f.ar.cZ m λd y e=>j y (.inr (.inl ⟨d,e⟩)),f.aj.cZ m λd y e=>j y (.inr (.inr ⟨d,e⟩))⟩
section
variable {A : al} {B : cE} {g h : aa} {s a N sh cb : Nat} {l : List Hs} {mp : List Pr} {O : Nat -> Prop} {i : Nat} {y : Hs} {z : Nat -> Nat} {x : dE} {C : ba} {R : A2O}
theorem FO.mod {f:Nat->Prop}{j:aa}(b:FO h cb z x C)(m:Mod f h j)(e: ∀c,z c≠0-> ¬f c):FO j cb z x C:=
 ⟨m.af b.af (e cb (by rw[b.zc];decide)),b.zc,b.st.cZ m λy d=>e y (by rw[b.zs y d];decide),b.zs,b.more.mod m λy d=>e y (by rw[b.zm y d];decide),b.zm,b.aq.mod m λy d=>e y (by rw[b.zp y d];decide),b.zp,b.conds.mod m λy d=>e y (by rw[b.zq y d];decide),b.zq⟩
theorem FO.on {b:aa}(c:FO h cb z x C)(m:Ext h b):FO b cb z x C:=c.mod m λ_ _ h=>h
theorem FO.cell {d:aa}(b:FO h cb z x C){f:Int}(m:Mod (· =cb) h d)(k:d[cb]? =some (J2 ⟨x.l {C with err:=f}⟩ MZ (0,0))):FO d cb z x {C with err:=f}:=by
 have ne: ∀y e,z y=e->e≠1-> ¬y=cb:=λy e j n o=>by subst o;rw[b.zc] at j;exact n j.symm
 exact⟨k,b.zc,b.st.cZ m λy c=>ne y 5 (b.zs y c) (by decide),b.zs,b.more.mod m λy c=>ne y 2 (b.zm y c) (by decide),b.zm,b.aq.mod m λy c=>ne y 3 (b.zp y c) (by decide),b.zp,b.conds.mod m λy c=>ne y 4 (b.zq y c) (by decide),b.zq⟩
theorem FO.err(c:FO h cb z x C){d:Int}{K:aa->Prop}(e: ∀b,FO b cb z x {C with err:=d}->Mod (· =cb) h b->b.size=h.size->K b):ab h ((⟨cb,0,none⟩:Q6).add 34) (J6 J9 d) K:=
 ab.mD c.af (of_decide_eq_true rfl) rfl λb f m j=>e b (c.cell m f) m j
def gG(z:Nat->Nat)(s:Sl)(b:Nat):Nat->Nat:=λc=>if s.af=some c then b else z c
theorem pH {s:Sl}{b c:Nat}(h:s.af=some c):gG z s b c=b:=if_pos h
theorem pI {f j:Sl}{k:Nat}(n: ∀c,z c≠0->c<h.size)(o: ∀y,f.af=some y->z y=k)(p: ∀b,j.af=some b->f.af=some b\/h.size<=b){c d:Nat}(e:z c=d)(q:d≠0):gG z j k c=d:=by
 unfold gG;split
 ·rename_i r;rcases p c r with m|m
  ·rw[<- e,o c m]
  ·have:=n c (by rw[e];exact q);omega
 ·exact e
theorem pJ {k d:Sl}{e:Nat}{m:aa}(o: ∀y,k.af=some y->z y=e)(p:e≠0)(q: ∀b,d.af=some b->k.af=some b\/h.size<=b)(r: ∀b,d.af=some b->b<m.size){c:Nat}(f:gG z d e c≠0):z c≠0\/(h.size<=c/\c<m.size):=by
 unfold gG at f;split at f
 ·rename_i n;rcases q c n with j|j
  ·exact .inl (by rw[o c j];exact p)
  ·exact .inr ⟨j,r c n⟩
 ·exact .inl f
theorem FO.kS(d:FO h cb z x C)(I: ∀c,z c≠0->c<h.size){src:Sl}{f:Ev}(v:View fZ h src [f])(W:C.more.length<1000){K:aa->Prop}
  (Q: ∀u j J,FO u cb J {x with more:=j} {C with more:=C.more++ [f]}->Mod (λc=>z c≠0) h u->(∀ c,J c≠0->z c≠0\/(h.size<=c/\c<u.size))->K u):
  BI A P (Builtin.append_ #[Dl,Dl] Dl #[J4 x.more.p x.more.len x.more.cap,J4 src.p src.len src.cap]) h λv n=> ∃t:Sl,v=J4 t.p t.len t.cap/\ab n ((⟨cb,0,none⟩:Q6).add 31) (J4 t.p t.len t.cap) K:=by
 refine GX (E:=fZ) (s:=x.more) (src:=src) xt d.more v (by simp only[CN];omega) (by simp only[CN,maxLen];omega) λj n L o D _=>?_
 have w: ∀c k,z c=k->k≠2-> ¬x.more.af=some c:=λc k p F f=>by rw[d.zm c f] at p;exact F p.symm
 have S:=o.af d.af (w cb 1 d.zc (by decide));refine ab.mD S (of_decide_eq_true rfl) (l':=({x with more:=j}:dE).l {C with more:=C.more++ [f]}) rfl λF T q X=>?_
 have G: ∀c k,z c=k->k≠1-> ¬c=cb:=λc k p n f=>by subst f;rw[d.zc] at p;exact n p.symm
 have Y:=I cb (by rw[d.zc];decide);have U: ∀b,j.af=some b->b<n.size:=λb r=>L.lt r
 have aW: ∀ {c H:Nat},z c=H->H≠0->gG z j 2 c=H:=λm V=>pI I d.zm D m V
 refine Q F j (gG z j 2) ⟨T,aW d.zc (by decide),?_,λy e=>aW (d.zs y e) (by decide),?_,λy e=>pH e,?_,λy e=>aW (d.zp y e) (by decide),?_,λy e=>aW (d.zq y e) (by decide)⟩ ?_ λc m=>?_
 ·exact(d.st.cZ o λy e=>w y 5 (d.zs y e) (by decide)).cZ q λy e=>G y 5 (d.zs y e) (by decide)
 ·refine L.mod q λb r f=>?_
  subst f;rcases D b r with M|M
  ·have:=d.zm b M;rw[d.zc] at this;cases this
  ·omega
 ·exact(d.aq.mod o λy e=>w y 3 (d.zp y e) (by decide)).mod q λy e=>G y 3 (d.zp y e) (by decide)
 ·exact(d.conds.mod o λy e=>w y 4 (d.zq y e) (by decide)).mod q λy e=>G y 4 (d.zq y e) (by decide)
 ·exact(o.ai λc _ m=>by rw[d.zm c m];decide).trans (q.ai λc _ m=>by subst m;rw[d.zc];decide)
 ·exact pJ d.zm (by decide) D (λb r=>by have:=U b r;omega) m
theorem FO.eo(d:FO h cb z x C)(J: ∀c,z c≠0->c<h.size){p:Pr}(X:C.aq.length<1000){K:aa->Prop}
  (S: ∀D f L,FO D cb L {x with aq:=f} {C with aq:=C.aq++ [p]}->Mod (λc=>z c≠0) h D->(∀ c,L c≠0->z c≠0\/(h.size<=c/\c<D.size))->K D):
  ak h (J2 #[J7 p.key,J7 p.val,J3 p.gone] AR) λb m=>BI A P (Builtin.append_ #[AQ,AQ] AQ #[J4 x.aq.p x.aq.len x.aq.cap,J4 (some (⟨b,0,none⟩:Q6)) 1 1]) m λv n=> ∃t:Sl,v=J4 t.p t.len t.cap/\ab n ((⟨cb,0,none⟩:Q6).add 32) (J4 t.p t.len t.cap) K:=by
 refine ak.aY (E:=BZ) (x:=p) (s:=x.aq) (l:=C.aq) rfl Hy d.aq (by omega) (by simp only[maxLen];omega) λf m M o G _=>?_
 have F: ∀c j,z c=j->j≠3-> ¬x.aq.af=some c:=λc j q n r=>by rw[d.zp c r] at q;exact n q.symm
 have T:=o.af d.af (F cb 1 d.zc (by decide));refine ab.mD T (of_decide_eq_true rfl) (l':=({x with aq:=f}:dE).l {C with aq:=C.aq++ [p]}) rfl λn U u Y=>?_
 have H: ∀c j,z c=j->j≠1-> ¬c=cb:=λc j q m r=>by subst r;rw[d.zc] at q;exact m q.symm
 have Z:=J cb (by rw[d.zc];decide);have V: ∀b,f.af=some b->b<m.size:=λb w=>M.lt w
 have aW: ∀ {c I:Nat},z c=I->I≠0->gG z f 3 c=I:=λk W=>pI J d.zp G k W
 refine S n f (gG z f 3) ⟨U,aW d.zc (by decide),?_,λy e=>aW (d.zs y e) (by decide),?_,λy e=>aW (d.zm y e) (by decide),?_,λy e=>pH e,?_,λy e=>aW (d.zq y e) (by decide)⟩ ?_ λc k=>?_
 ·exact(d.st.cZ o λy e=>F y 5 (d.zs y e) (by decide)).cZ u λy e=>H y 5 (d.zs y e) (by decide)
 ·exact(d.more.mod o λy e=>F y 2 (d.zm y e) (by decide)).mod u λy e=>H y 2 (d.zm y e) (by decide)
 ·refine M.mod u λb w r=>?_
  subst r;rcases G b w with Q|Q
  ·have:=d.zp b Q;rw[d.zc] at this;cases this
  ·omega
 ·exact(d.conds.mod o λy e=>F y 4 (d.zq y e) (by decide)).mod u λy e=>H y 4 (d.zq y e) (by decide)
 ·exact(o.ai λc _ k=>by rw[d.zp c k];decide).trans (u.ai λc _ k=>by subst k;rw[d.zc];decide)
 ·exact pJ d.zp (by decide) G (λb w=>by have:=V b w;omega) k
theorem FO.fH(d:FO h cb z x C)(J: ∀c,z c≠0->c<h.size){p:Pr}(X:C.conds.length<1000){K:aa->Prop}
  (S: ∀D f L,FO D cb L {x with conds:=f} {C with conds:=C.conds++ [p]}->Mod (λc=>z c≠0) h D->(∀ c,L c≠0->z c≠0\/(h.size<=c/\c<D.size))->K D):
  ak h (J2 #[J7 p.key,J7 p.val,J3 p.gone] AR) λb m=>BI A P (Builtin.append_ #[AQ,AQ] AQ #[J4 x.conds.p x.conds.len x.conds.cap,J4 (some (⟨b,0,none⟩:Q6)) 1 1]) m λv n=> ∃t:Sl,v=J4 t.p t.len t.cap/\ab n ((⟨cb,0,none⟩:Q6).add 33) (J4 t.p t.len t.cap) K:=by
 refine ak.aY (E:=BZ) (x:=p) (s:=x.conds) (l:=C.conds) rfl Hy d.conds (by omega) (by simp only[maxLen];omega) λf m M o G _=>?_
 have F: ∀c j,z c=j->j≠4-> ¬x.conds.af=some c:=λc j q n r=>by rw[d.zq c r] at q;exact n q.symm
 have T:=o.af d.af (F cb 1 d.zc (by decide));refine ab.mD T (of_decide_eq_true rfl) (l':=({x with conds:=f}:dE).l {C with conds:=C.conds++ [p]}) rfl λn U u Y=>?_
 have H: ∀c j,z c=j->j≠1-> ¬c=cb:=λc j q m r=>by subst r;rw[d.zc] at q;exact m q.symm
 have Z:=J cb (by rw[d.zc];decide);have V: ∀b,f.af=some b->b<m.size:=λb w=>M.lt w
 have aW: ∀ {c I:Nat},z c=I->I≠0->gG z f 4 c=I:=λk W=>pI J d.zq G k W
 refine S n f (gG z f 4) ⟨U,aW d.zc (by decide),?_,λy e=>aW (d.zs y e) (by decide),?_,λy e=>aW (d.zm y e) (by decide),?_,λy e=>aW (d.zp y e) (by decide),?_,λy e=>pH e⟩ ?_ λc k=>?_
 ·exact(d.st.cZ o λy e=>F y 5 (d.zs y e) (by decide)).cZ u λy e=>H y 5 (d.zs y e) (by decide)
 ·exact(d.more.mod o λy e=>F y 2 (d.zm y e) (by decide)).mod u λy e=>H y 2 (d.zm y e) (by decide)
 ·exact(d.aq.mod o λy e=>F y 3 (d.zp y e) (by decide)).mod u λy e=>H y 3 (d.zp y e) (by decide)
 ·refine M.mod u λb w r=>?_
  subst r;rcases G b w with Q|Q
  ·have:=d.zq b Q;rw[d.zc] at this;cases this
  ·omega
 ·exact(o.ai λc _ k=>by rw[d.zq c k];decide).trans (u.ai λc _ k=>by subst k;rw[d.zc];decide)
 ·exact pJ d.zq (by decide) G (λb w=>by have:=V b w;omega) k
def gH(t:aZ)(a b c:Sl)(y:Nat):Prop:=(t.prog.steps≠ []/\a.af=some y)\/(t.ar≠ []/\b.af=some y)\/(t.aj≠ []/\c.af=some y)
open Classical in
noncomputable def iQ (z:Nat->Nat) (t:aZ) (a b c:Sl):Nat->Nat:=λy=>if gH t a b c y then 5 else z y
theorem I1.lt {t:aZ}{a b c:Sl}(f:I1 h t a b c){y:Nat}(j:gH t a b c y):y<h.size:=by
 rcases j with⟨d,e⟩|⟨d,e⟩|⟨d,e⟩
 ·exact f.steps.oL d e
 ·exact f.ar.oL d e
 ·exact f.aj.oL d e
theorem FO.kT {o:aa}{t:aZ}{j k m:Sl}(e:FO h cb z x C)(E: ∀c,z c≠0->c<h.size)(F:Ext h o)(G:I1 o t j k m)(fr: ∀y,j.af=some y\/k.af=some y\/m.af=some y->h.size<=y){K:aa->Prop}
  (J: ∀p H,FO p cb H {x with a:=j,b:=k,c:=m} {C with st:=t}->Mod (λc=>z c≠0) h p->Mod (· =cb) o p->(∀ c,H c≠0->z c≠0\/(h.size<=c/\c<p.size))->K p):
  aN o ((⟨cb,0,none⟩:Q6).add 19) (t.V j k m).l K:=by
 have q:=e.on F;have L:(⟨cb,0,none⟩:Q6).add 19=⟨cb,19,none⟩:=rfl;rw[L];refine aN.mk q.af (of_decide_eq_true rfl) λM P n S=>?_
 have T:=E cb (by rw[e.zc];decide);have u: ∀y,gH t j k m y->h.size<=y:=λy d=>fr y (by
  rcases d with⟨_,h⟩|⟨_,h⟩|⟨_,h⟩
  ·exact .inl h
  ·exact .inr (.inl h)
  ·exact .inr (.inr h))
 have v: ∀c w,z c=w->w≠1-> ¬c=cb:=λc w I o D=>by subst D;rw[e.zc] at I;exact o I.symm
 have aW: ∀ {c r:Nat},z c=r->r≠0->iQ z t j k m c=r:=λ{c r} f Q=>by
  unfold iQ;rw[if_neg λd=>by have:=u c d;have:=E c (by rw[f];exact Q);omega];exact f
 refine J M (iQ z t j k m) ⟨P,aW e.zc (by decide),?_,λy d=>if_pos d,q.more.mod n λy d=>v y 2 (e.zm y d) (by decide),λy d=>aW (e.zm y d) (by decide),q.aq.mod n λy d=>v y 3 (e.zp y d) (by decide),λy d=>aW (e.zp y d) (by decide),q.conds.mod n λy d=>v y 4 (e.zq y d) (by decide),λy d=>aW (e.zq y d) (by decide)⟩ ?_ n λc f=>?_
 ·exact G.cZ n λy d D=>by subst D;have:=u y d;omega
 ·exact F.mod.trans (n.ai λc _ f=>by subst f;rw[e.zc];decide)
 ·unfold iQ at f;split at f
  ·rename_i d;exact .inr ⟨u c d,by have:=G.lt d;have:=n.size;omega⟩
  ·exact .inl f
theorem FO.ld(b:FO h cb z x C):Cells h ((⟨cb,0,none⟩:Q6).add 19) (C.st.V x.a x.b x.c).l:=by have c:(⟨cb,0,none⟩:Q6).add 19=⟨cb,19,none⟩:=rfl;rw[c];exact Dz b.af rfl
theorem LW.out(d:LW B g h s a N sh l mp O){c:Nat}(b:O c):c<h.size/\g.size<=c:=by obtain⟨e,f,st,m,j,nn,C,k,n,o,p,out⟩:=d;exact⟨(out c b).2.1,(out c b).2.2.1⟩
structure CW (B:cE) (g h:aa) (s a N sh:Nat) (l:List Hs) (i:Nat) (y:Hs) (mp:List Pr) (O:Nat->Prop) (cb:Nat) (z:Nat->Nat) (x:dE) (C:ba):Prop where
 w:LW B g h s a N sh (l.set i y) mp (λc=>O c\/z c≠0)
 il:i<l.length
 no: ∀c,z c≠0-> ¬O c
 hp:x.hp=y.p
 bo:FO h cb z x C
theorem CW.fI(b:CW B g h s a N sh l i y mp O cb z x C): ∀c,z c≠0->c<h.size:=λc d=>(b.w.out (.inr d)).1
theorem CW.zr(b:CW B g h s a N sh l i y mp O cb z x C): ∀c,z c≠0->br g O c:=λc d=>⟨(b.w.out (.inr d)).2,b.no c d⟩
theorem CW.frame {b:aa}(d:CW B g h s a N sh l i y mp O cb z x C)(m:Mod (λc=>z c≠0) h b):Mod (br g O) h b:=m.ai λc _ e=>d.zr c e
theorem CW.step {e:aa}{f:Nat->Nat}{x':dE}{j:ba}(d:CW B g h s a N sh l i y mp O cb z x C)(m:Mod (λc=>z c≠0) h e)(k: ∀c,f c≠0->z c≠0\/(h.size<=c/\c<e.size))(o:x'.hp=x.hp)(p:FO e cb f x' j):CW B g e s a N sh l i y mp O cb f x' j:=
 ⟨d.w.own (m.ai λc _ b=> .inr b) λc b=>by
   rcases b with b|b
   ·exact .inl (.inl b)
   ·rcases k c b with h|h
    ·exact .inl (.inr h)
    ·exact .inr h,
  d.il,λc b n=>by
   rcases k c b with h|h
   ·exact d.no c h n
   ·have:=(d.w.out (.inl n)).1;omega,
  o.trans d.hp,p⟩
theorem CW.on {c:aa}(b:CW B g h s a N sh l i y mp O cb z x C)(m:Ext h c):CW B g c s a N sh l i y mp O cb z x C:=⟨b.w.on m,b.il,b.no,b.hp,b.bo.on m⟩
theorem CW.wider {e:aa}{O':Nat->Prop}(d:CW B g h s a N sh l i y mp O cb z x C)(m:Mod O h e)(j: ∀c,O' c->O c\/(h.size<=c/\c<e.size)):CW B g e s a N sh l i y mp O' cb z x C:=
 ⟨d.w.own (m.ai λc _ b=> .inl b) λc b=>by
   rcases b with b|b
   ·rcases j c b with h|h
    ·exact .inl (.inl h)
    ·exact .inr h
   ·exact .inl (.inr b),
  d.il,λc b f=>by
   rcases j c f with h|h
   ·exact d.no c b h
   ·have:=d.fI c b;omega,
  d.hp,d.bo.mod m λc b f=>d.no c b f⟩
end
theorem tg {h:aa}{b:Nat}{T:Q7}{fr:Nat×Nat}{c:Ev}(d:h[b]? =some (J2 c.c T fr)):ag h (⟨b,0,none⟩:Q6)=some (J6 J9 c.id)/\ag h ((⟨b,0,none⟩:Q6).add 1)=some (J6 J9 c.kind)/\ag h ((⟨b,0,none⟩:Q6).add 2)=some (J6 J9 c.tick)/\ag h ((⟨b,0,none⟩:Q6).add 3)=some (J6 J9 c.ref)/\ag h ((⟨b,0,none⟩:Q6).add 4)=some (J6 J9 c.step)/\ag h ((⟨b,0,none⟩:Q6).add 5)=some (J6 J9 c.turn)/\ag h ((⟨b,0,none⟩:Q6).add 6)=some (J3 c.aL)/\ag h ((⟨b,0,none⟩:Q6).add 7)=some (J7 c.data):=
 ⟨AL d rfl,AB d rfl,AB d rfl,AB d rfl,AB d rfl,AB d rfl,AB d rfl,AB d rfl⟩
end Go.Lf.G
namespace Go.Lf
open G
open Go
open M (Sorted Ae Ca A8 Ag Ar BV Ah bE BF aS BL)
theorem Cells.kU {h:aa}{a:Q6}{t:bG}(c:Cells h a t.l):ag h a=some (J4 t.steps.p t.steps.len t.steps.cap)/\ag h (a.add 1)=some (J6 J9 t.aw)/\ag h (a.add 2)=some (J6 J9 t.status)/\ag h (a.add 3)=some (J6 J9 t.next)/\ag h (a.add 4)=some (J6 J9 t.aX)/\ag h (a.add 5)=some (J6 J9 t.asked)/\ag h (a.add 6)=some (J6 J9 t.taken)/\ag h (a.add 7)=some (J3 t.fresh)/\ag h (a.add 8)=some (J4 t.ar.p t.ar.len t.ar.cap)/\ag h (a.add 9)=some (J4 t.aj.p t.aj.len t.aj.cap)/\ag h (a.add 10)=some (J3 t.cancel)/\ag h (a.add 11)=some (J3 t.aQ):=by have b:=c 0 _ rfl;rw[add_zero] at b;exact⟨b,c 1 _ rfl,c 2 _ rfl,c 3 _ rfl,c 4 _ rfl,c 5 _ rfl,c 6 _ rfl,c 7 _ rfl,c 8 _ rfl,c 9 _ rfl,c 10 _ rfl,c 11 _ rfl⟩
end Go.Lf
namespace Go.Lf.G
open Go
open M (Sorted Ae Ca A8 Ag Ar BV Ah bE BF aS BL)
structure Hs.cK (y y':Hs):Prop where
 p:y'.p=y.p
 name:y'.name=y.name
 f:y'.f=y.f
 u: ∀m,y'.u m<=y.u m+1
theorem Hs.cK.refl(y:Hs):y.cK y:=⟨rfl,rfl,rfl,λ_=>Cd _⟩
section
variable {A : al} {B : cE} {g h : aa} {s a N sh cb : Nat} {l : List Hs} {mp : List Pr} {O : Nat -> Prop} {i : Nat} {y : Hs} {z : Nat -> Nat} {x : dE} {C : ba} {R : A2O}
theorem CW.put {b:Nat}(W:CW B g h s a N sh l i y mp O cb z x C)(c:N<=b)(d:b<=1000000)(e:64*a<=B.C):CW B g h s a b sh l i y mp O cb z x C:=⟨W.w.put (A0 _) e c d,W.il,W.no,W.hp,W.bo⟩
theorem CW.at(b:CW B g h s a N sh l i y mp O cb z x C):(l.set i y)[i]? =some y:=HM b.il
theorem CW.lw {d:aa}{f j:Nat}{k:List Pr}{e:Hs}(b:CW B g h s a N sh l i y mp O cb z x C)(n:LW B g d s j f sh ((l.set i y).set i e) k (λc=>O c\/z c≠0))(m:Mod (br g (λc=>O c\/z c≠0)) h d)(o:e.p=y.p):CW B g d s j f sh l i e k O cb z x C:=
 ⟨by rw[List.set_set] at n;exact n,b.il,b.no,b.hp.trans o.symm,b.bo.mod m λc p q=>q.2 (.inr p)⟩
theorem AQF {t:bG}(c: ∀b,Ext h b->R (J3 (decide (t.next<=497))) b):AA A P PV #[t.v] h R:=by refine ADK ?_;unfold VO;exact ak.mk λd _ e f j=>AC.mk (AB e rfl) (c d f)
theorem pK {wid:A2P}{k:Nat}{m n now:Int}{o:Bool}{D:Sl}{st:aZ}{d e f:Sl}(F:LW B g h s a N sh (l.set i y) mp (λc=>O c\/gH st d e f c))(U:i<l.length)(G:I1 h st d e f)(no: ∀c,gH st d e f c-> ¬O c)
  (H: ∀E cb z x,CW B g E s a N sh l i y mp O cb z x (Gw wid k m n o st now)->Ext h E->R (Ap cb) E):
  AA A P Iz #[Ap y.p,(⟨wid,(k:Int),⟨m,n,o⟩,D,st.V d e f⟩:cm).v,J6 J9 now] h R:=by
 refine AAx ?_;unfold T9;refine ak.mk λq _ I J af=>G7.mk ⟨wid,(k:Int),⟨m,n,o⟩,D,st.V d e f⟩ (Dz I rfl) ?_
 have V:(⟨h.size,0,none⟩:Q6).add 6=⟨h.size,6,none⟩:=rfl;rw[V];refine Aw.mk (st.V d e f) (Dz I rfl) ?_;refine ak.mk λr _ W X ag=>?_
 have t:Ext h r:=J.trans X
 let x:dE:=⟨y.p,D,st.V d e f,d,e,f,⟨none,0,0⟩,⟨none,0,0⟩,⟨none,0,0⟩⟩
 let u:ba:= {Gw wid k m n o st now with err:=0}
 let z:Nat->Nat:=λc=>if c=q.size then 1 else iQ (λ_=>0) st d e f c
 have Y: ∀c,gH st d e f c->c<h.size:=λc b=>G.lt b
 have L: ∀c,z c≠0->c=q.size\/gH st d e f c:=λc b=>by
  by_cases p:c=q.size
  ·exact .inl p
  ·have b:iQ (λ_=>0) st d e f c≠0:=by have:z c=iQ (λ_=>0) st d e f c:=if_neg p;rw[<- this];exact b
   unfold iQ at b;split at b
   ·rename_i Z;exact .inr Z
   ·exact absurd rfl b
 have aa:FO r q.size z x u:=⟨W,if_pos rfl,(G.ext t),λc b=>by
   have:=Y c b;show z c=5;exact(if_neg (by omega)).trans (if_pos b),Own.nil,λc b=>by simp[x,Sl.af] at b,Own.nil,λc b=>by simp[x,Sl.af] at b,Own.nil,λc b=>by simp[x,Sl.af] at b⟩
 have v:CW B g r s a N sh l i y mp O q.size z x u:=⟨F.own t.mod λc b=>by
   rcases b with b|b
   ·exact .inl (.inl b)
   ·rcases L c b with h|h
    ·exact .inr (by omega)
    ·exact .inl (.inr h),U,λc b M=>by
   rcases L c b with h|h
   ·have:=(F.out (.inl M)).1;omega
   ·exact no c h M,rfl,aa⟩
 refine ah.mk λK Q=>ah.mk λab ac=>?_
 have key: ∀w:Bool,(w=true↔now<0\/1099511611776<now)->ab (w,()) r:=λw S=>by
  refine ac _ _ (ae.intro (λj=>?_) (λj=>?_))
  ·refine v.bo.err λad D3 T ai=>Q _ _ (H ad _ z x ?_ (t.more T λc b=>by subst b;exact J.size))
   have p:Gw wid k m n o st now= {u with err:=1}:=by have:Gw wid k m n o st now= {Gw wid k m n o st now with err:=if now<0\/1099511611776<now then 1 else 0}:=rfl;rw[this,if_pos (S.1 j)]
   rw[p];exact v.step (T.ai λc _ b=>by subst b;rw[v.bo.zc];decide) (λc b=> .inl b) rfl D3
  ·have j:w=false:=j;refine Q _ _ (H r _ z x ?_ t);have p:Gw wid k m n o st now=u:=by have:Gw wid k m n o st now= {Gw wid k m n o st now with err:=if now<0\/1099511611776<now then 1 else 0}:=rfl;rw[this,if_neg λh=>by rw[S.2 h] at j;cases j]
   rw[p];exact v
 refine ae.intro (λj=>key true (by simp at j;simp[j])) (λj=>key _ (by simp at j;simp;omega))
theorem pL(b:CW B g h s a N sh l i y mp O cb z x C)(d:0<=C.st.next/\C.st.next<=501)(c:R (J6 J9 (iX C)) h):AA A P Dy #[Ap cb] h R:=by refine SK ?_;unfold MM;refine aE (AC.mk (Bf b.bo.af rfl) ?_);rw[wrap_i64 (by omega) (by omega)];exact c
theorem PP {e:Ev}{n:Nat}(f:CW B g h s a N sh l i y mp O cb z x C)(ao:De C.st n)(ap:n<=600)(hd:e.data.size<1099511627776)(aJ:C.more.length<1000)
  (T: ∀Z aK x',CW B g Z s a N sh l i y mp O cb aK x' (EK C e)->Mod (br g O) h Z->R (J1 #[]) Z):AA A P Bc #[Ap cb,e.v] h R:=by
 refine Su ?_;unfold Mv;refine ak.mk λaL _ aM v a7=>aE (AC.mk (CK (f.on v).bo.af rfl) (ae.intro (λd=>?_) (λd=>?_)))
 ·have d:C.err≠0:=by simpa using d
  refine T aL z x ?_ v.mod;unfold EK;rw[if_pos d];exact f.on v
 have ac:C.err=0:=by simpa using d
 have aq: ∀c,z c≠0-> ¬c=h.size:=λc m e=>by have:=f.fI c m;omega
 refine aE (AC.mk (Bf (f.on v).bo.af rfl) (aE (AC.mk (CK (f.on v).bo.af rfl) ?_)));refine ab.bM (j:=0) (dS:=({e with id:=if 1>C.st.next then 1 else C.st.next}:Ev).c) aM (of_decide_eq_true rfl) rfl λa8 aO ar a9=>⟨CK ((f.on v).bo.mod ar aq).af rfl,?_⟩
 refine ab.bM (j:=2) (dS:=(Cg C e).c) aO (of_decide_eq_true rfl) rfl λad au aP ba=>?_
 have af:Ext h ad:=v.more (ar.trans aP) λc m=>by subst m;exact A0 _
 refine ah.mk λK aQ=>?_
 have key: ∀(U:Bool) (F:aa),Ext ad F->(U=true↔C.more= []/\iW C.st=false/\e.kind≠18)->K (U,()) F:=λU F ag av=>by
  have L:=af.trans ag;have G:=f.on L;have V:=ag.af au λh=>h
  refine aQ _ _ (ae.intro (λd=>?_) (λd=>?_))
  ·refine aE (G.bo.err λk aR aS aT=>?_);have aw:Mod (λc=>z c≠0) F k:=aS.ai λc _ m=>by subst m;rw[f.bo.zc];decide
   refine T k z x ?_ (L.mod.trans (G.frame aw));unfold EK;rw[if_neg (by simp[ac]),if_pos (av.1 d)];exact G.step aw (λc m=> .inl m) rfl aR
  have d:U=false:=d;have ax: ¬(C.more= []/\iW C.st=false/\e.kind≠18):=λh=>by rw[av.2 h] at d;cases d
  refine ah.mk λaU aV=>aE (Aw.mk (C.st.V x.a x.b x.c) G.bo.ld (NI.mk (Cg C e) (P7 V) ?_))
  have ay: ∀(k:aa) (ai:Nat) (p q r:Sl),Ext F k->k[ai]? =some (J2 ((Bh C.st (Cg C e)).2.V p q r).c Ao (0,0))->I1 k (Bh C.st (Cg C e)).2 p q r->(∀ y,p.af=some y\/q.af=some y\/r.af=some y->h.size<=y)->
    aU (some ⟨ai,0,none⟩,(Bh C.st (Cg C e)).1,()) k:=λk ai p q r o aW M fr=>by
   have aj:=L.trans o;have al:=f.on aj;refine aV _ _ (ae.intro (λd=>?_) (λd=>?_))
   ·have d:(Bh C.st (Cg C e)).1≠0:=by simpa using d
    refine aE (al.bo.err λH am W az=>?_);have X:Mod (λc=>z c≠0) k H:=W.ai λc _ m=>by subst m;rw[f.bo.zc];decide
    refine T H z x ?_ (aj.mod.trans (al.frame X));unfold EK;rw[if_neg (by simp[ac]),if_neg ax,if_pos d];exact al.step X (λc m=> .inl m) rfl am
   have aX:(Bh C.st (Cg C e)).1=0:=by simpa using d
   refine aE (Aw.mk ((Bh C.st (Cg C e)).2.V p q r) (Et aW) (aE (f.bo.kT f.fI aj M fr λH bb am W X aY=>?_)));have aA:=f.step (x':= {x with a:=p,b:=q,c:=r}) W aY rfl am;have Q:=X.af (o.af V λh=>h) (λe=>aq cb (by rw[f.bo.zc];decide) e.symm);refine aE (AY.mk (s:=x.more) (CK aA.bo.af rfl) (NI.mk (Cg C e) (P7 Q) (ak.mk λI _ w aC aD=>?_)));have S:=aA.on aC;refine⟨CK S.bo.af rfl,?_⟩;have aZ:View fZ I ⟨some ⟨H.size,0,none⟩,1,1⟩ [Cg C e]:=(Own.lit (E:=fZ) (l:= [Cg C e]) w rfl (by simp[maxLen])).view;refine S.bo.kS S.fI aZ aJ λa0 aF a1 a2 aG a3=>?_
   have a4:=S.step (x':= {x with a:=p,b:=q,c:=r,more:=aF}) aG a3 rfl a2;refine T a0 a1 {x with a:=p,b:=q,c:=r,more:=aF} ?_ ((f.frame W).trans (aC.mod.trans (S.frame aG)));have a5:EK C e= {C with st:=(Bh C.st (Cg C e)).2,more:=C.more++ [Cg C e]}:=by unfold EK;rw[if_neg (by simp[ac]),if_neg ax,if_neg (by simp[aX])]
   rw[a5];exact a4
  have bc:=af.size;have bd:=ag.size;constructor
  ·refine pG G.bo.st ao ap hd λk p q r o M J=>G9.mk _ ⟨_,rfl,ak.mk λH _ Q u az=>⟨tg ((o.trans u).af V λh=>h),(f.on ((L.trans o).trans u)).bo.ld.kU,aN.mk Q (A0 12) λI w Y aD=>?_⟩⟩
   rw[Ob] at w;have aH:Ext k I:=u.more Y λc m=>by subst m;exact A0 _
   exact ay I k.size p q r (o.trans aH) w (M.ext aH) λy t=>by have:=J y t;omega
  ·refine ak.mk λH _ Q u az=>⟨tg (u.af V λh=>h),(f.on (L.trans u)).bo.ld.kU,?_⟩
   refine pG (G.bo.st.ext u) ao ap hd λk p q r o M J=>G9.mk _ ⟨_,rfl,aN.mk (o.af Q λh=>h) (A0 12) λI w Y aD=>?_⟩
   rw[Ob] at w;have aT:=o.size;have a6:=M.mod Y (λy t e=>by have:=J y (.inl t);omega) (λy t e=>by have:=J y (.inr (.inl t));omega) (λy t e=>by have:=J y (.inr (.inr t));omega);exact ay I F.size p q r ((u.trans o).more Y λc m=>by subst m;exact A0 _) w a6 λy t=>by have:=J y t;omega
 have an:=f.on af;refine aE (AY.mk (s:=x.more) (CK an.bo.af rfl) ?_);have aI:=an.bo.more.len;refine ae.intro (λd=>?_) (λd=>?_)
 ·have d:C.more= []:=by simp at d;exact CC (by omega)
  refine aE (Aw.mk (C.st.V x.a x.b x.c) an.bo.ld (AQF λk o=>⟨_,rfl,?_⟩));refine ae.intro (λD=>?_) (λD=>?_)
  ·have D:iW C.st=false:=by unfold iW;simpa using D
   refine AC.mk (AB (o.af au λh=>h) rfl) (key _ k o ?_);simp[d,D,Cg]
  ·have D:iW C.st=true:=by unfold iW;simpa using D
   refine key _ k o ?_;simp[D]
 ·have d:C.more≠ []:=λh=>by rw[h] at aI;simp[aI] at d
  refine key _ ad Mod.refl ?_;simp[d]
theorem th {t:cT}{tick:Int}(r:CW B g h s a N sh l i y mp O cb z x C)(T:C.ao<256)(an:y.f C.ao<=2147483647)(ao:y.u C.ao+1<16777216)(F:N+1<=1000000)(H:64*a<=B.C)(ap:C.aq.length<1000)(a3:tick<9223372036854775808)
  (I: ∀J ar x' o q,CW B g J s a (N+1) sh l i o mp O cb ar x' (Dc C ⟨t.kind,t.ref,t.turn⟩ tick q)->y.cK o->Mod (br g O) h J->R (J1 #[]) J):AA A P GG #[Ap cb,t.v,J6 J9 tick] h R:=by
 refine R5 ?_;unfold MO;refine ak.mk λau _ av w a4=>aE (AC.mk (CK (r.on w).bo.af rfl) (ae.intro (λb=>?_) (λb=>?_)))
 ·have b:C.err≠0:=by simpa using b
  refine I au z x y 0 ?_ (Hs.cK.refl y) w.mod;unfold Dc;rw[if_pos b];exact(r.on w).put (by omega) F H
 have U:C.err=0:=by simpa using b
 refine aE (AJ.mk (n:=C.wid) (CK (r.on w).bo.af rfl) (ab.bM (j:=1) (dS:=({t with wid:=C.wid}:cT).c) av (of_decide_eq_true rfl) rfl λaw ax ay a5=>?_));have az:Ext h aw:=w.more ay λc e=>by subst e;exact A0 _
 refine j4.mk ({t with wid:=C.wid}:cT) (Dz ax rfl) (AP0 λD aA=>⟨_,_,rfl,?_⟩);have L:=az.trans aA;have d:=r.on L;cases V:KI ⟨t.kind,t.ref,t.turn⟩ C.wid with
 |false=>
  refine ae.yes rfl (aE (d.bo.err λW aC aD a6=>?_));have X:Mod (λc=>z c≠0) D W:=aD.ai λc _ e=>by subst e;rw[r.bo.zc];decide
  refine I W z x y 0 ?_ (Hs.cK.refl y) (L.mod.trans (d.frame X));unfold Dc;rw[if_neg (by simp[U]),if_pos V];exact(d.step X (λc e=> .inl e) rfl aC).put (by omega) F H
 |true=>
  refine ae.no rfl ?_;have aF:ag D (⟨cb,0,none⟩:Q6)=some (Ap y.p):=by have:=CK (j:=0) d.bo.af rfl;rw[add_zero,r.hp] at this;exact this
  refine aE (AZ.mk aF (aE (AC.mk (Bf d.bo.af rfl) ?_)));have Y: ∀(f:aa) (o:Hs) (q:Nat),CW B g f s a (N+1) sh l i o mp O cb z x C->y.cK o->Mod (br g O) D f->(∃ M:Int,Value.int .u64 (q:Int)= .int .u64 M/\(
    At (some (⟨cb,0,none⟩:Q6)) λaG=>
    AC J9 f ((aG.add 1).add 1) λaH=>
    AA A P Js #[J6 J9 aH,.int .u64 M] f λv2 u=> ∃Z:A2P,v2=J7 Z/\(
    ah (λ(s:A2P×Unit) k=>
      At (some (⟨cb,0,none⟩:Q6)) λaI=>
      AY k (aI.add 32) λQ=>
      ak k (J2 #[J7 s.1,J7 (if true then ib ⟨t.kind,t.ref,t.turn⟩ C.wid else⟨#[]⟩),J3 false] AR) λaJ S=>
      BI A P (Builtin.append_ #[AQ,AQ] AQ #[J4 Q.p Q.len Q.cap,J4 (some (⟨aJ,0,none⟩:Q6)) 1 1]) S λaK aL=> ∃v:Sl,aK=J4 v.p v.len v.cap/\(
      At (some (⟨cb,0,none⟩:Q6)) λaM=>
      ab aL (aM.add 32) (J4 v.p v.len v.cap) λaN=>
      R (J1 #[]) aN)) λK=>
     ae (decide (tick>=(0:Int))) (
      At (some (⟨cb,0,none⟩:Q6)) λaO=>
      AC J9 u ((aO.add 1).add 1) λaP=>
      AA A P Na #[J6 J9 aP,J6 J9 tick,.int .u64 M] u λaQ aR=> ∃ac:A2P,aQ=J7 ac/\(
      K (ac,()) aR)) (
      K (Z,()) u)))):=λf o q ad aS aT=>by
   refine⟨_,rfl,aE (AC.mk (Bf ad.bo.af rfl) (AO9 T λu af=>⟨_,rfl,ah.mk λK aU=>?_⟩))⟩;have ai:=ad.on af;have key: ∀(k:aa),Ext u k->K (GQ C.ao tick q,()) k:=λk G=>by
    have E:=ai.on G;refine aU _ _ (aE (AY.mk (s:=x.aq) (CK E.bo.af rfl) ?_));refine E.bo.eo (p:=⟨GQ C.ao tick q,ib ⟨t.kind,t.ref,t.turn⟩ C.wid,false⟩) E.fI ap λS aj aV aW al aX=>?_
    have aY:=E.step (x':= {x with aq:=aj}) al aX rfl aW;refine I S aV {x with aq:=aj} o q ?_ aS (L.mod.trans (aT.trans ((af.trans G).mod.trans (E.frame al))));unfold Dc;rw[if_neg (by simp[U]),if_neg (by simp[V])];exact aY
   refine ae.intro (λb=>?_) (λb=>?_)
   ·have b:0<=tick:=by simpa using b
    obtain⟨n,rfl⟩: ∃n:Nat,tick=n:=⟨tick.toNat,by omega⟩;refine aE (AC.mk (Bf ai.bo.af rfl) (AO5 T (by omega) λk G=>⟨_,rfl,?_⟩));have:=key k G;unfold GQ at this;rw[if_neg (by omega),A6] at this;exact this
   ·have b:tick<0:=by simp at b;omega
    have:=key u Mod.refl;unfold GQ at this;rw[if_pos b] at this;exact this
  refine d.w.number d.at an ao F (λa7=>?_) λa8 f aZ am=>?_
  ·exact Y D y 0 (d.put (by omega) F H) (Hs.cK.refl y) Mod.refl
  ·have a0:Mod (br g O) D f:=am.ai λc _ e=>⟨e.1,λa1=>e.2 (.inl a1)⟩
   exact Y f (y.jh C.ao) _ (d.lw aZ am rfl) ⟨rfl,rfl,rfl,λm=>by
    show dB y.u C.ao (y.u C.ao+1) m<=_;unfold dB;split
    ·rename_i a2;subst a2;omega
    ·omega⟩ a0
theorem pM {t:cT}(k:CW B g h s a N sh l i y mp O cb z x C)(m:C.ao<256)(n:y.f C.ao<=2147483647)(o:y.u C.ao+1<16777216)(p:N+1<=1000000)(q:64*a<=B.C)(r:C.aq.length<1000)
  (u: ∀b d e c f,CW B g b s a (N+1) sh l i c mp O cb d e (Dc C ⟨t.kind,t.ref,t.turn⟩ (-1) f)->y.cK c->Mod (br g O) h b->R (J1 #[]) b):AA A P EC #[Ap cb,t.v] h R:=by
 refine SA ?_;unfold MQ;refine ak.mk λF _ v j G=>j4.mk t (Dz v rfl) (th (k.on j) m n o p q r (by decide) λb d e c f w D E=>⟨rfl,u b d e c f w D (j.mod.trans E)⟩)
theorem pN {t:cT}{tick:Int}(k:CW B g h s a N sh l i y mp O cb z x C)(m:C.ao<256)(n:y.f C.ao<=2147483647)(o:y.u C.ao+1<16777216)(p:N+1<=1000000)(q:64*a<=B.C)(r:C.aq.length<1000)(F:tick<9223372036854775808)
  (u: ∀b d e c f,CW B g b s a (N+1) sh l i c mp O cb d e (Dc C ⟨t.kind,t.ref,t.turn⟩ (if(0:Int)>tick then 0 else tick) f)->y.cK c->Mod (br g O) h b->R (J1 #[]) b):AA A P Eg #[Ap cb,t.v,J6 J9 tick] h R:=by
 refine U0 ?_;unfold OM;refine ak.mk λG _ v j H=>j4.mk t (Dz v rfl) (th (k.on j) m n o p q r (by split<;>omega) λb d e c f w D E=>⟨rfl,u b d e c f w D (j.mod.trans E)⟩)
theorem tj {key val:A2P}(b:CW B g h s a N sh l i y mp O cb z x C)(k:C.conds.length<1000)(m:C.aq.length<1000)
  (n: ∀d o x',CW B g d s a N sh l i y mp O cb o x' (kK C key val)->Mod (br g O) h d->R (J1 #[]) d):AA A P F8 #[Ap cb,J7 key,J7 val] h R:=by
 refine R8 ?_;unfold Lx;dsimp only[At];refine AY.mk (s:=x.conds) (CK b.bo.af rfl) ?_;refine b.bo.fH (p:=⟨key,⟨#[]⟩,true⟩) b.fI k λF e G q f r=>?_
 have c:=b.step (x':= {x with conds:=e}) f r rfl q;refine AY.mk (s:=x.aq) (CK c.bo.af rfl) ?_;refine c.bo.eo (p:=⟨key,val,false⟩) c.fI m λt u v w j D=>?_
 have E:=c.step (x':= {x with conds:=e,aq:=u}) j D rfl w;exact n t v _ E ((b.frame f).trans (c.frame j))
theorem tm(u:CW B g h s a N sh l i y mp O cb z x C)(M:0<=C.st.next/\C.st.next<=501)
  (v: ∀n,Ext h n->R (⟨0,(DU C).1,(DU C).2,⟨0,⟨#[]⟩,0,0⟩,⟨#[]⟩,⟨none,0,0⟩⟩:bS).v n):AA A P Dw #[Ap cb] h R:=by
 refine Po ?_;unfold KL;refine ak.mk λo _ w p Q=>?_
 have b:=(u.on p).bo;refine aE (AC.mk (Bf b.af rfl) (ah.mk λK D=>?_));have q: ∀nx:Int,nx=(DU C).2->K (nx,()) o:=λnx E=>by
  subst E;refine D _ _ (aE (AC.mk (Bf b.af rfl) (aN.mk w (A0 9) λF G H S=>?_)));refine Fs.mk ⟨0,C.st.status,(DU C).2,⟨0,⟨#[]⟩,0,0⟩,⟨#[]⟩,⟨none,0,0⟩⟩ (Dz G rfl) ?_;exact v F (p.more H λc I=>by subst I;exact A0 _)
 refine ah.mk λJ L=>?_
 have key: ∀j:Bool,j=FP C->J (j,()) o:=λj r=>by
  refine L _ _ (ae.intro (λd=>?_) (λd=>?_))
  ·have d:j=true:=d;rw[wrap_i64 (by omega) (by omega)];refine q _ ?_;unfold DU;rw[if_pos (by rw[<- r];exact d)]
  ·have d:j=false:=d;refine q _ ?_;unfold DU;rw[if_neg (by rw[<- r,d];decide)]
 have t:=b.more.len;unfold FP at key;refine aE (AY.mk (s:=x.more) (CK b.af rfl) (ae.intro (λe=>?_) (λe=>?_)));rotate_left
 ·have e:C.more= []:=by simp at e;exact CC (by omega)
  exact key _ (by simp[e])
 have e:C.more≠ []:=λh=>by rw[h] at t;simp[t] at e
 refine aE (AC.mk (Bf b.af rfl) (ae.intro (λk=>?_) (λk=>key _ (by simp at k;simp[k]))));refine aE (Aa.mk (Bf b.af rfl) (ae.intro (λf=>?_) (λf=>key _ (by have f:C.st.fresh=false:=f;simp[f]))));have f:C.st.fresh=true:=f;refine aE (AC.mk (Bf b.af rfl) (ae.intro (λm=>?_) (λm=>key _ (by simp at m;simp[m]))));refine aE (AC.mk (Bf b.af rfl) (key _ ?_));simp at k m;simp[e,k,f,m];rfl
end
def Wz:Ev:=⟨0,2,0,0,0,0,false,⟨#[]⟩⟩
def EY(C:ba)(b:Nat):ba:=if FP C then Dc (EK C Wz) ⟨1,iX (EK C Wz),0⟩ (-1) b else C
def tn(C:ba):Int:=if(0:Int)>C.now+20 then 0 else C.now+20
def Ay(C:ba)(b c:Nat):ba:=if C.more≠ []/\(EY C b).st.status≠0 then Dc (EY C b) ⟨7,0,0⟩ (tn C) c else EY C b
end Go.Lf.G
namespace Go.Lf
open G
open Go
open M (Sorted Ae Ca A8 Ag Ar BV Ah bE BF aS BL)
structure ba.grown (C D:ba) (n k j:Nat):Prop where
 wid:D.wid=C.wid
 ao:D.ao=C.ao
 cn:D.cn=C.cn
 bT:D.bT=C.bT
 kept:D.kept=C.kept
 conds:D.conds=C.conds
 now:D.now=C.now
 more:D.more.length<=C.more.length+k
 none:C.more≠ []->D.more≠ []
 aq:D.aq.length<=C.aq.length+j
 ok: ∀e∈D.more,EX e=true/\e.data.size<1099511627776
 st:De D.st n
end Go.Lf
namespace Go.Lf.G
open Go
open M (Sorted Ae Ca A8 Ag Ar BV Ah bE BF aS BL)
theorem I6(C:ba)(t:gk)(tick:Int)(b:Nat):(Dc C t tick b).st=C.st/\(Dc C t tick b).more=C.more:=by
 unfold Dc;split
 ·exact⟨rfl,rfl⟩
 ·split<;>exact⟨rfl,rfl⟩
theorem RB {C b:ba}{r u v:Nat}(G:C.grown b r u v)(t:gk)(tick:Int)(w:Nat):C.grown (Dc b t tick w) r u (v+1):=by
 obtain⟨c,d,e,f,j,k,m,n,o,D,p,q⟩:=G;unfold Dc;split
 ·exact⟨c,d,e,f,j,k,m,n,o,by omega,p,q⟩
 ·split
  ·exact⟨c,d,e,f,j,k,m,n,o,by show b.aq.length<=_;omega,p,q⟩
  ·exact⟨c,d,e,f,j,k,m,n,o,by show(b.aq++ [_]).length<=_;rw[A1,CN];omega,p,q⟩
theorem Qx {C:ba}{n:Nat}(ok: ∀b∈C.more,EX b=true/\b.data.size<1099511627776)(c:De C.st n):C.grown C n 0 0:=⟨rfl,rfl,rfl,rfl,rfl,rfl,rfl,A0 _,id,A0 _,ok,c⟩
end Go.Lf.G
namespace Go.Lf
open G
open Go
open M (Sorted Ae Ca A8 Ag Ar BV Ah bE BF aS BL)
theorem De.up {s:aZ}{c m:Nat}(b:De s c)(h:c<=m):De s m:=⟨by have:=b.ar;omega,by have:=b.aj;omega,b.steps,b.aw,b.aX,b.next,b.st,b.waits⟩
end Go.Lf
namespace Go.Lf.G
open Go
open M (Sorted Ae Ca A8 Ag Ar BV Ah bE BF aS BL)
theorem LX {C b:ba}{v w D:Nat}(G:C.grown b v w D){e:Ev}(hd:e.data.size<1099511627776):C.grown (EK b e) (v+1) (w+1) D:=by
 obtain⟨c,d,f,j,k,m,n,E,t,o,p,q⟩:=G;unfold EK;split
 ·exact⟨c,d,f,j,k,m,n,by omega,t,o,p,q.up (Cd _)⟩
 ·split
  ·exact⟨c,d,f,j,k,m,n,by show b.more.length<=_;omega,t,o,p,q.up (Cd _)⟩
  ·split
   ·exact⟨c,d,f,j,k,m,n,by show b.more.length<=_;omega,t,o,p,q.up (Cd _)⟩
   ·rename_i r;have r:(Bh b.st (Cg b e)).1=0:=by simpa using r
    refine⟨c,d,f,j,k,m,n,by show(b.more++ [_]).length<=_;rw[A1,CN];omega,λ_=>by show b.more++ [_]≠ [];simp,o,λx u=>?_,TD q r⟩;have u:x∈b.more++ [Cg b e]:=u;rcases List.mem_append.1 u with h|h
    ·exact p x h
    ·rw[List.mem_singleton.1 h];exact⟨QE r,hd⟩
structure Hs.dh (y y':Hs):Prop where
 p:y'.p=y.p
 name:y'.name=y.name
 f:y'.f=y.f
 u: ∀m,y'.u m<=y.u m+2
section
variable {A : al} {B : cE} {g h : aa} {s a N sh cb : Nat} {l : List Hs} {mp : List Pr} {O : Nat -> Prop} {i : Nat} {y : Hs} {z : Nat -> Nat} {x : dE} {C : ba} {R : A2O}
theorem FO.ptr {p:Nat}(b:FO h cb z x C)(c:x.hp=p):ag h (⟨cb,0,none⟩:Q6)=some (Ap p):=by have:=CK (j:=0) b.af rfl;rw[add_zero,c] at this;exact this
theorem FO.rF(b:FO h cb z x C):Cells h (((⟨cb,0,none⟩:Q6).add 1).add 2) (⟨C.cn,C.bT,C.kept⟩:cP).l:=by have c:((⟨cb,0,none⟩:Q6).add 1).add 2=⟨cb,3,none⟩:=rfl;rw[c];exact Dz b.af rfl
end
end Go.Lf.G
namespace Go.Lf
open G
open Go
open M (Sorted Ae Ca A8 Ag Ar BV Ah bE BF aS BL)
theorem Cells.rG {h:aa}{a:Q6}{t:cP}(c:Cells h a t.l):ag h a=some (J6 J9 t.status)/\ag h (a.add 1)=some (J6 J9 t.next)/\ag h (a.add 2)=some (J3 t.kept):=by have b:=c 0 _ rfl;rw[add_zero] at b;exact⟨b,c 1 _ rfl,c 2 _ rfl⟩
end Go.Lf
namespace Go.Lf.G
open Go
open M (Sorted Ae Ca A8 Ag Ar BV Ah bE BF aS BL)
section
variable {A : al} {B : cE} {g h : aa} {s a N sh cb : Nat} {l : List Hs} {mp : List Pr} {O : Nat -> Prop} {i : Nat} {y : Hs} {z : Nat -> Nat} {x : dE} {C : ba} {R : A2O}
theorem AQC {o:aa}{d:ba}(E:cj g)(k:CW B g o s a N sh l i y mp O cb z x d)(aV:Au d.wid=true)(bF: ∀u∈d.more,EX u=true/\u.data.size<1099511627776)(bG:d.ao<256)(bH:y.f d.ao<=2147483647)(hA:4+3*a<=B.A)(bI:64*a+64<=B.C)(bJ:a+1<=1000000)
  (c6:d.more.length<=900) (c7:d.aq.length<=900) (c8:d.conds.length<=900) (bK: ∀p∈d.conds,p.key.size<=1099511627776) (c9:0<=d.cn/\d.cn<128) (aW:0<=d.bT/\d.bT<=501) (aX:0<=d.st.status/\d.st.status<=4) (aY:0<=d.st.next/\d.st.next<=501)
  (bL:d.err≠0-> ∀e,LW B g e s a N sh (l.set i y) mp O->Mod (br g O) o e->R (J6 J9 d.err) e)
  (bM:d.err=0->y.f d.ao=0-> ∀e,LW B g e s a N sh (l.set i y) mp O->Mod (br g O) o e->R (J6 J9 170) e)
  (bN:d.err=0->y.f d.ao≠0->BQ mp (FC d.ao (y.f d.ao) y.name)=false-> ∀e,LW B g e s a N sh (l.set i (y.lost d.ao)) mp O->Mod (br g O) o e->R (J6 J9 170) e)
  (bO:d.err=0->y.f d.ao≠0->BQ mp (FC d.ao (y.f d.ao) y.name)=true->dx mp (FC d.ao (y.f d.ao) y.name::(d.conds++ [bB d])) (Dq d++d.aq)≠0-> ∀e,LW B g e s a N sh (l.set i y) mp O->Mod (br g O) o e->R (J6 J9 (dx mp (FC d.ao (y.f d.ao) y.name::(d.conds++ [bB d])) (Dq d++d.aq))) e)
  (bP:d.err=0->y.f d.ao≠0->BQ mp (FC d.ao (y.f d.ao) y.name)=true->dx mp (FC d.ao (y.f d.ao) y.name::(d.conds++ [bB d])) (Dq d++d.aq)=0-> ∀e,LW B g e s (a+1) N sh (l.set i y) (cM mp (Dq d++d.aq)) O->Mod (br g O) o e->R (J6 J9 0) e):
  At (some (⟨cb,0,none⟩:Q6)) λbQ=>
    AC J9 o (bQ.add 34) λbR=>
    ae (bR != (0:Int)) (
     At (some (⟨cb,0,none⟩:Q6)) λbS=>
     AC J9 o (bS.add 34) λbT=>
     R (J6 J9 bT) o) (
     At (some (⟨cb,0,none⟩:Q6)) λbU=>
     AJ o (bU.add 1) λbV=>
     AA A P GH #[J7 bV] o λv1 aX=> ∃aZ:A2P,v1=J7 aZ/\(
     ak aX (J2 #[J7 (⟨#[]⟩:A2P),J7 (⟨#[]⟩:A2P),J3 false] AR) λb aY=>
     ab aY (⟨b,0,none⟩:Q6) (J7 aZ) λbW=>
     ab bW ((⟨b,0,none⟩:Q6).add 1) (J7 (⟨#[]⟩:A2P)) λbX=>
     ab bX ((⟨b,0,none⟩:Q6).add 2) (J3 true) λD=>
     ah (λ(da:Unit) v=>
       At (some (⟨cb,0,none⟩:Q6)) λbY=>
       AJ v (bY.add 1) λbZ=>
       At (some (⟨cb,0,none⟩:Q6)) λb0=>
       AY v (b0.add 31) λaA=>
       AA A P Ov #[J7 bZ,J4 aA.p aA.len aA.cap] v λv2 w=> ∃F:Sl,∃aC:Int,v2=J1 #[J4 F.p F.len F.cap,J6 J9 aC]/\(
       ae (aC != (0:Int)) (
        R (J6 J9 aC) w) (
        ah (λ(aD:Sl×Unit) q=>
          At (some (⟨cb,0,none⟩:Q6)) λaf=>
          AZ q af λai=>
          At (some (⟨cb,0,none⟩:Q6)) λaj=>
          AC J9 q ((aj.add 1).add 1) λal=>
          At (some (⟨cb,0,none⟩:Q6)) λa0=>
          AY q (a0.add 33) λL=>
          AJ q (⟨b,0,none⟩:Q6) λb1=>
          AJ q ((⟨b,0,none⟩:Q6).add 1) λb2=>
          Aa q ((⟨b,0,none⟩:Q6).add 2) λb3=>
          ak q (J2 #[J7 b1,J7 b2,J3 b3] AR) λb4 I=>
          And (ag I (a0.add 33)=some (J4 L.p L.len L.cap))<|
          And (ag I ((aj.add 1).add 1)=some (J6 J9 al))<|
          And (ag I af=some (J5 ai))<|
          BI A P (Builtin.append_ #[AQ,AQ] AQ #[J4 L.p L.len L.cap,J4 (some (⟨b4,0,none⟩:Q6)) 1 1]) I λb5 J=> ∃M:Sl,b5=J4 M.p M.len M.cap/\(
          And (ag J ((aj.add 1).add 1)=some (J6 J9 al))<|
          And (ag J af=some (J5 ai))<|
          At (some (⟨cb,0,none⟩:Q6)) λaF=>
          AY J (aF.add 32) λG=>
          And (ag I (aF.add 32)=some (J4 G.p G.len G.cap))<|
          And (ag q (aF.add 32)=some (J4 G.p G.len G.cap))<|
          BI A P (Builtin.append_ #[AQ,AQ] AQ #[J4 aD.1.p aD.1.len aD.1.cap,J4 G.p G.len G.cap]) J λb6 t=> ∃Q:Sl,b6=J4 Q.p Q.len Q.cap/\(
          And (ag t ((aj.add 1).add 1)=some (J6 J9 al))<|
          And (ag t af=some (J5 ai))<|
          AA A P Hw #[J5 ai,J6 J9 al,J4 M.p M.len M.cap,J4 Q.p Q.len Q.cap] t λb7 b8=> ∃a1:Int,b7=J6 J9 a1/\(
          R (J6 J9 a1) b8)))) λam=>
         At (some (⟨cb,0,none⟩:Q6)) λb9=>
         AY w (b9.add 31) λca=>
         ae (decide (((ca.len:Nat):Int)>(0:Int))) (
          At (some (⟨cb,0,none⟩:Q6)) λa2=>
          AC J9 w ((a2.add 19).add 2) λa3=>
          At (some (⟨cb,0,none⟩:Q6)) λa4=>
          AC J9 w ((a4.add 19).add 3) λa5=>
          ak w (J2 cP.z.c JC) λV an=>
          And (ag an ((a4.add 19).add 3)=some (J6 J9 a5))<|
          And (ag an ((a2.add 19).add 2)=some (J6 J9 a3))<|
          aN an (⟨V,0,none⟩:Q6) (⟨a3,a5,false⟩:cP).l λK=>
          At (some (⟨cb,0,none⟩:Q6)) λcc=>
          AJ K (cc.add 1) λcd=>
          AA A P GH #[J7 cd] K λce a6=> ∃a7:A2P,ce=J7 a7/\(
          Ns a6 (⟨V,0,none⟩:Q6) λao=>
          And (ag K (⟨V,0,none⟩:Q6)=some (J6 J9 ao.status)/\ag K ((⟨V,0,none⟩:Q6).add 1)=some (J6 J9 ao.next)/\ag K ((⟨V,0,none⟩:Q6).add 2)=some (J3 ao.kept))<|
          AA A P FD #[ao.v] a6 λcf a8=> ∃a9:A2P,cf=J7 a9/\(
          ak a8 (J2 #[J7 a7,J7 a9,J3 false] AR) λcg ch=>
          BI A P (Builtin.append_ #[AQ,AQ] AQ #[J4 F.p F.len F.cap,J4 (some (⟨cg,0,none⟩:Q6)) 1 1]) ch λci aG=> ∃S:Sl,ci=J4 S.p S.len S.cap/\(
          am ((⟨S.p,S.len,S.cap⟩:Sl),()) aG)))) (
          am ((⟨F.p,F.len,F.cap⟩:Sl),()) w)))) λap=>
      At (some (⟨cb,0,none⟩:Q6)) λck=>
      AC J9 D (((ck.add 1).add 2).add 1) λcl=>
      ae (decide (cl>(0:Int))) (
       At (some (⟨cb,0,none⟩:Q6)) λcm=>
       AJ D (cm.add 1) λcn=>
       AA A P GH #[J7 cn] D λco bb=> ∃bc:A2P,co=J7 bc/\(
       At (some (⟨cb,0,none⟩:Q6)) λaq=>
       Ns bb ((aq.add 1).add 2) λar=>
       And (ag D ((aq.add 1).add 2)=some (J6 J9 ar.status)/\ag D (((aq.add 1).add 2).add 1)=some (J6 J9 ar.next)/\ag D (((aq.add 1).add 2).add 2)=some (J3 ar.kept))<|
       AA A P FD #[ar.v] bb λcp bd=> ∃be:A2P,cp=J7 be/\(
       ab bd (⟨b,0,none⟩:Q6) (J7 bc) λbf=>
       ab bf ((⟨b,0,none⟩:Q6).add 1) (J7 be) λbg=>
       ab bg ((⟨b,0,none⟩:Q6).add 2) (J3 false) λaH=>
       ap () aH))) (
       ap () D))):=by
 have cq: ∀ {e:aa},CW B g e s a N sh l i y mp O cb z x d->LW B g e s a N sh (l.set i y) mp O:=λcr=>cr.w.less λc f=> .inl f
 refine aE (AC.mk (n:=d.err) (CK k.bo.af rfl) (ae.intro (λr=>?_) (λr=>?_)))
 ·exact aE (AC.mk (n:=d.err) (CK k.bo.af rfl) (bL (by simpa using r) o (cq k) Mod.refl))
 have au:d.err=0:=by simpa using r
 have db:=Fq aV;refine aE (AJ.mk (n:=d.wid) (CK k.bo.af rfl) (nc (by omega) ⟨_,rfl,?_⟩));refine ak.pair λb D dc bh aI dd=>?_
 have av:=k.on aI;refine ah.mk λap cs=>?_
 have bi: ∀v,Ext o v->v[b]? =some (J2 #[J7 (bB d).key,J7 (bB d).val,J3 (bB d).gone] AR (0,0))->ap () v:=λv aJ ct=>by
  have W:=k.on aJ;refine cs _ _ (aE (AJ.mk (n:=d.wid) (CK W.bo.af rfl) (aE (AY.mk (s:=x.more) (CK W.bo.af rfl) ?_))));refine AQf aV W.bo.more.view (by omega) bF λps w aK aL aw=>⟨_,_,rfl,ae.no rfl ?_⟩
  have T:=W.on aw;refine ah.mk λam cu=>?_
  have bj: ∀q (sl:Sl),Ext v q->Own BZ AR q sl (Dq d)->(∀ c,sl.af=some c->v.size<=c)->am (sl,()) q:=λq sl ax aM X=>by
   have Y:=W.on ax;have aO:=ax.af ct λh=>h
   refine cu _ _ (aE (AZ.mk (Y.bo.ptr k.hp) (aE (AC.mk (Bf Y.bo.af rfl) (aE (AY.mk (s:=x.conds) (CK Y.bo.af rfl) ?_))))));refine AJ.mk (AL aO rfl) (AJ.mk (AB aO rfl) (Aa.mk (AB aO rfl) (ak.mk λI _ cv Z de=>?_)));have H:=Y.on Z;refine⟨CK H.bo.af rfl,Bf H.bo.af rfl,H.bo.ptr k.hp,?_⟩;have src:View BZ I ⟨some ⟨q.size,0,none⟩,1,1⟩ [bB d]:=(Own.lit (E:=BZ) (l:= [bB d]) cv rfl (by simp[maxLen])).view;refine GX (E:=BZ) (s:=x.conds) (src:=⟨some ⟨q.size,0,none⟩,1,1⟩) Hy H.bo.conds src (by simp only[CN];omega) (by simp only[CN,maxLen];omega) λcw J cx ac cy _=>?_
   have bk: ∀c aP,z c=aP->aP≠4-> ¬x.conds.af=some c:=λc aP bm aW u=>by rw[H.bo.zq c u] at bm;exact aW bm.symm
   have ay:=ac.af H.bo.af (bk cb 1 k.bo.zc (by decide));have cz:ag J (⟨cb,0,none⟩:Q6)=some (Ap y.p):=by have:=CK (j:=0) ay rfl;rw[add_zero,k.hp] at this;exact this
   refine⟨Bf ay rfl,cz,aE (AY.mk (s:=x.aq) (CK ay rfl) ⟨CK H.bo.af rfl,CK Y.bo.af rfl,?_⟩)⟩;have cB:Own BZ AR J x.aq d.aq:=H.bo.aq.mod ac λc f=>bk c 3 (H.bo.zp c f) (by decide)
   have df:=aJ.size;have dg:=ax.size;have dh:=Z.size;have di:=ac.size;have cC:Own BZ AR J sl (Dq d):=(aM.ext Z).mod ac λc f u=>by
    have:=k.fI c (by rw[k.bo.zq c u];decide);have:=X c f;omega
   have dj:(Dq d).length<=901:=by unfold Dq;rw[A1,BE];split<;>simp<;>omega
   refine GX (E:=BZ) (s:=sl) (src:=x.aq) Hy cC cB.view (by omega) (by simp only[maxLen];omega) λdk t bn az cD _=>?_
   have cE: ∀c,sl.af=some c-> ¬c=cb:=λc f u=>by
    have:=X c f;have:=k.fI cb (by rw[k.bo.zc];decide);omega
   have bo:=az.af ay (λf=>cE cb f rfl);have cF:ag t (⟨cb,0,none⟩:Q6)=some (Ap y.p):=by have:=CK (j:=0) bo rfl;rw[add_zero,k.hp] at this;exact this
   refine⟨Bf bo rfl,cF,?_⟩;have cG:Ext o I:=(aJ.trans ax).trans Z;have bp:Mod (λc=>z c≠0) o t:=(cG.mod.trans (ac.ai λc _ f=>by rw[k.bo.zq c f];decide)).then (az.ai λc _ f=> .inr (by have:=X c f;omega));have dl:=az.size;have aQ:LW B g t s a N sh (l.set i y) mp (λc=>(O c\/z c≠0)\/(o.size<=c/\c<t.size)):=k.w.own (bp.ai λc _ f=> .inr f) λc f=>f
   have aR:Mod (br g O) o t:=k.frame bp;have less: ∀ {e:aa} {bq:Nat} {bs:List Hs} {bt:List Pr},LW B g e s bq N sh bs bt (λc=>(O c\/z c≠0)\/(o.size<=c/\c<t.size))->LW B g e s bq N sh bs bt O:=λU=>U.less λc f=> .inl (.inl f)
   have bu: ∀ {e:aa},Mod (br g (λc=>(O c\/z c≠0)\/(o.size<=c/\c<t.size))) t e->Mod (br g O) o e:=λm=>aR.trans (m.ai λc _ f=>⟨f.1,λcH=>f.2 (.inl (.inl cH))⟩)
   have cI:Own BZ AR t cw (d.conds++ [bB d]):=cx.mod az λc f u=>by
    have:=X c u;rcases cy c f with h|h
    ·have:=k.fI c (by rw[k.bo.zq c h];decide);omega
    ·have:=(aM.ext Z).lt u;have:=aM.lt u;omega
   refine aQ.change E k.at bG bH hA bI bJ cI.view (by rw[A1,CN];omega) bn.view (λ_ c f=>?_) (λp cJ=>?_) (λcK=>?_) (λad cL e U aS=>?_) (λad aT hd e bv=>?_) λad aT cN e U aS=>?_
   ·have lt:=bn.lt f;rcases cD c f with h|h
    ·have:=X c h;exact .inr (.inr ⟨by omega,lt⟩)
    ·exact .inr (.inr ⟨by omega,lt⟩)
   ·rcases List.mem_append.1 cJ with h|h
    ·exact bK p h
    ·rw[List.mem_singleton.1 h];unfold bB;have:=RN d.wid;split<;>(dsimp only;omega)
   ·exact⟨_,rfl,bM au cK t (less aQ) aR⟩
   ·rw[List.set_set] at U;exact⟨_,rfl,bN au ad cL e (less U) (bu aS)⟩
   ·exact⟨_,rfl,bO au ad aT hd e (less (aQ.on bv)) (aR.trans bv.mod)⟩
   ·exact⟨_,rfl,bP au ad aT cN e (less U) (bu aS)⟩
  have bw:=T.bo.more.len;refine aE (AY.mk (s:=x.more) (CK T.bo.af rfl) (ae.intro (λr=>?_) (λr=>?_)))
  ·have cO:d.more≠ []:=λh=>by rw[h] at bw;simp[bw] at r
   refine aE (AC.mk (Bf T.bo.af rfl) (aE (AC.mk (Bf T.bo.af rfl) (ak.mk λan _ cQ bx dm=>?_))));have bz:=T.on bx;refine⟨Bf bz.bo.af rfl,Bf bz.bo.af rfl,aN.mk cQ (A0 3) λK cR cS dn=>?_⟩;have bA:Ext w K:=bx.more cS λc f=>by subst f;exact A0 _
   have cT:=T.on bA;have bC:Cells K (⟨w.size,0,none⟩:Q6) (⟨d.st.status,d.st.next,false⟩:cP).l:=Dz cR rfl;refine aE (AJ.mk (n:=d.wid) (CK cT.bo.af rfl) (nc (by omega) ⟨_,rfl,Ns.mk ⟨d.st.status,d.st.next,false⟩ bC ⟨bC.rG,?_⟩⟩));refine td (m:=⟨d.st.status,d.st.next,false⟩) (st:=d.st.status.toNat) (nx:=d.st.next.toNat) (by show d.st.status=_;omega) (by show d.st.next=_;omega) (by omega) (by omega) λa8 cU=>⟨_,rfl,?_⟩
   have aU:=bA.trans cU;refine ak.aY (E:=BZ) (x:=⟨Kk d.wid,Pz d.st.status.toNat d.st.next.toNat false,false⟩) (s:=ps) rfl Hy (aK.ext aU) (by simp only[BE];omega) (by simp only[BE,maxLen];omega) λcV aG cW cX cY _=>?_
   refine bj aG cV ((aw.trans aU).more cX aL) ?_ λc f=>?_
   ·unfold Dq;rw[if_neg cO];exact cW
   ·rcases cY c f with h|h
    ·exact aL c h
    ·have:=aU.size;have:=aw.size;omega
  ·have bD:d.more= []:=by simp at r;exact CC (by omega)
   refine bj w ps aw ?_ aL;unfold Dq;rw[bD,if_pos rfl,AM];rw[bD] at aK;exact aK
 refine aE (AC.mk (AQB av.bo.af rfl) (ae.intro (λr=>?_) (λr=>?_)))
 ·have r:0<d.bT:=by simpa using r
  refine aE (AJ.mk (n:=d.wid) (CK av.bo.af rfl) (nc (by omega) ⟨_,rfl,aE (Ns.mk ⟨d.cn,d.bT,d.kept⟩ av.bo.rF ⟨av.bo.rF.rG,?_⟩)⟩));refine td (m:=⟨d.cn,d.bT,d.kept⟩) (st:=d.cn.toNat) (nx:=d.bT.toNat) (by show d.cn=_;omega) (by show d.bT=_;omega) (by omega) (by omega) λbd bE=>⟨_,rfl,?_⟩
  have cZ:=bE.af bh λh=>h
  refine ab.bM (j:=0) cZ (of_decide_eq_true rfl) rfl λbf c0 c1 dp=>ab.bM (j:=1) c0 (of_decide_eq_true rfl) rfl λbg c2 c3 dq=>ab.bM (j:=2) c2 (of_decide_eq_true rfl) rfl λaH c4 c5 dr=>?_
  refine bi aH ((aI.trans bE).more ((c1.trans c3).trans c5) λc f=>by subst f;omega) ?_;unfold bB;rw[if_pos r];exact c4
 ·have r: ¬0<d.bT:=by simpa using r
  refine bi D aI ?_;unfold bB;rw[if_neg r];exact bh
end
section
variable {A : al} {B : cE} {g h : aa} {s a N sh cb : Nat} {l : List Hs} {mp : List Pr} {O : Nat -> Prop} {i : Nat} {y : Hs} {z : Nat -> Nat} {x : dE} {C : ba} {R : A2O}
theorem tq {b:Nat}(ok: ∀e∈C.more,EX e=true/\e.data.size<1099511627776)(d:De C.st b)(f:Nat):C.grown (EY C f) (b+1) 1 1:=by
 have c:=Qx ok d;unfold EY;split
 ·exact RB (LX c (e:=Wz) (by show 0<1099511627776;decide)) _ _ _
 ·obtain⟨j,k,m,n,o,p,q,v,r,w,t,u⟩:=c;exact⟨j,k,m,n,o,p,q,by omega,r,by omega,t,u.up (Cd _)⟩
theorem Tk {n:Nat}(ok: ∀b∈C.more,EX b=true/\b.data.size<1099511627776)(e:De C.st n)(c f:Nat):C.grown (Ay C c f) (n+1) 1 2:=by
 have d:=tq ok e c;unfold Ay;split
 ·exact RB d _ _ _
 ·obtain⟨j,k,m,o,p,q,r,t,u,D,v,w⟩:=d;exact⟨j,k,m,o,p,q,r,t,u,by omega,v,w⟩
theorem tt {af:Nat}(ap:cj g)(n:CW B g h s a N sh l i y mp O cb z x C)(Q:De C.st af)(aX:af+1<=600)(aq:Au C.wid=true)(V: ∀e∈C.more,EX e=true/\e.data.size<1099511627776)(W:C.ao<256)(X:y.f C.ao<=2147483647)(aY:y.u C.ao+2<16777216)(Y:N+2<=1000000)
  (hA:4+3*a<=B.A) (ar:64*a+64<=B.C) (au:a+1<=1000000) (aZ:C.more.length<=800) (a0:C.aq.length<=800) (a1:C.conds.length<=800) (av: ∀p∈C.conds,p.key.size<=1099511627776) (aw:0<=C.cn/\C.cn<128) (ag:0<=C.bT/\C.bT<=501) (a2: -4611686018427387904<=C.now/\C.now<=4611686018427387904)
  (ax:y.f C.ao=0->R (J6 J9 170) h)
  (ay: ∀b c d j,y.dh d->(Ay C b c).err≠0->LW B g j s a (N+2) sh (l.set i d) mp O->Mod (br g O) h j->R (J6 J9 (Ay C b c).err) j)
  (az: ∀b c d j,y.dh d->(Ay C b c).err=0->BQ mp (FC C.ao (y.f C.ao) y.name)=false->LW B g j s a (N+2) sh (l.set i (d.lost C.ao)) mp O->Mod (br g O) h j->R (J6 J9 170) j)
  (aA: ∀b c d j,y.dh d->(Ay C b c).err=0->BQ mp (FC C.ao (y.f C.ao) y.name)=true->dx mp (FC C.ao (y.f C.ao) y.name::(C.conds++ [bB C])) (Dq (Ay C b c)++(Ay C b c).aq)≠0->LW B g j s a (N+2) sh (l.set i d) mp O->Mod (br g O) h j->R (J6 J9 (dx mp (FC C.ao (y.f C.ao) y.name::(C.conds++ [bB C])) (Dq (Ay C b c)++(Ay C b c).aq))) j)
  (aC: ∀b c d j,y.dh d->(Ay C b c).err=0->BQ mp (FC C.ao (y.f C.ao) y.name)=true->dx mp (FC C.ao (y.f C.ao) y.name::(C.conds++ [bB C])) (Dq (Ay C b c)++(Ay C b c).aq)=0->LW B g j s (a+1) (N+2) sh (l.set i d) (cM mp (Dq (Ay C b c)++(Ay C b c).aq)) O->Mod (br g O) h j->R (J6 J9 0) j):
  AA A P CS #[Ap cb] h R:=by
 refine QZ ?_;unfold KQ;have I:64*a<=B.C:=by omega
 refine aE (AZ.mk (n.bo.ptr n.hp) (aE (AC.mk (Bf n.bo.af rfl) (n.w.holds n.at ⟨_,rfl,ae.intro (λf=>ax (by simpa using f)) λf=>?_⟩))));have aD:y.f C.ao≠0:=by simpa using f
 refine ah.mk λK aF=>?_
 have Z: ∀(o:aa) (E:Nat->Nat) (F:dE) (d:Hs) (b c:Nat),CW B g o s a (N+2) sh l i d mp O cb E F (Ay C b c)->y.dh d->Mod (br g O) h o->K () o:=λo E F d b c H k u=>by
  have G:=Tk V Q b c;have ab:d.f (Ay C b c).ao=y.f C.ao:=by rw[k.f,G.ao]
  have ac:FC (Ay C b c).ao (d.f (Ay C b c).ao) d.name=FC C.ao (y.f C.ao) y.name:=by rw[ab,G.ao,k.name]
  have ai:bB (Ay C b c)=bB C:=by unfold bB;rw[G.bT,G.cn,G.kept,G.wid]
  refine aF _ _ (AQC ap H (by rw[G.wid];exact aq) G.ok (by rw[G.ao];exact W) (by rw[ab];exact X) hA ar au (by have:=G.more;omega) (by have:=G.aq;omega) (by rw[G.conds];omega) (by rw[G.conds];exact av) (by rw[G.cn];exact aw) (by rw[G.bT];exact ag) G.st.st G.st.next
   (λv j q w=>ay b c d j k v q (u.trans w)) (λ_ aG=>absurd (by rw[<- ab];exact aG) aD) (λv _ r j q w=>?_) (λv _ r hd j q w=>?_) λv _ r hd j q w=>?_)
  ·rw[ac] at r;rw[G.ao] at q;exact az b c d j k v r q (u.trans w)
  ·rw[ac] at r hd ⊢;rw[ai,G.conds] at hd ⊢;exact aA b c d j k v r hd q (u.trans w)
  ·rw[ac] at r hd;rw[ai,G.conds] at hd;exact aC b c d j k v r hd q (u.trans w)
 have aj:=n.bo.more.len;have aH:y.dh y:=⟨rfl,rfl,rfl,λm=>by omega⟩;refine aE (AY.mk (s:=x.more) (CK n.bo.af rfl) (ae.intro (λf=>?_) (λf=>?_)));rotate_left
 ·have f:C.more= []:=by simp at f;exact CC (by omega)
  refine Z h z x y 0 0 ?_ aH Mod.refl;have aI:EY C 0=C:=by unfold EY FP;rw[f];rfl
  have:Ay C 0 0=C:=by unfold Ay;rw[aI,if_neg λh=>h.1 f]
  rw[this];exact n.put (by omega) Y I
 have ak:C.more≠ []:=λh=>by rw[h] at aj;simp[aj] at f
 refine ah.mk λaJ aK=>?_
 have al: ∀(o:aa) (E:Nat->Nat) (F:dE) (d:Hs) (b:Nat),CW B g o s a (N+1) sh l i d mp O cb E F (EY C b)->y.cK d->Mod (br g O) h o->aJ () o:=λo E F d b H k u=>by
  have G:=tq V Q b;refine aK _ _ (aE (AC.mk (Bf H.bo.af rfl) (ae.intro (λf=>?_) (λf=>?_))))
  ·have f:(EY C b).st.status≠0:=by simpa using f
   refine aE (AC.mk (CK H.bo.af rfl) ?_);rw[G.now,wrap_i64 (by omega) (by omega)];refine pN (t:=⟨7,⟨#[]⟩,0,0⟩) H (by rw[G.ao];exact W) (by rw[k.f,G.ao];exact X) (by rw[G.ao];have:=k.u C.ao;omega) Y I (by have:=G.aq;omega) (by omega) λj am an aL c S T aM=>⟨rfl,?_⟩
   refine Z j am an aL b c ?_ ⟨T.p.trans k.p,T.name.trans k.name,T.f.trans k.f,λm=>by have:=k.u m;have:=T.u m;omega⟩ (u.trans aM);have e:Ay C b c=Dc (EY C b) ⟨7,0,0⟩ (tn C) c:=by unfold Ay;rw[if_pos ⟨ak,f⟩]
   rw[e];exact S
  ·have f:(EY C b).st.status=0:=by simpa using f
   refine Z o E F d b 0 ?_ ⟨k.p,k.name,k.f,λm=>by have:=k.u m;omega⟩ u;have e:Ay C b 0=EY C b:=by unfold Ay;rw[if_neg λh=>h.2 f]
   rw[e];exact H.put (by omega) Y I
 refine ah.mk λaN aO=>?_
 have J: ∀ad:Bool,ad=FP C->aN (ad,()) h:=λad ao=>by
  refine aO _ _ (ae.intro (λf=>?_) (λf=>?_))
  ·have f:FP C=true:=by rw[<- ao];exact f
   refine PP (e:=Wz) n Q (by omega) (by show 0<1099511627776;decide) (by omega) λag am an S aP=>⟨rfl,?_⟩
   have G:=LX (Qx V Q) (e:=Wz) (by show 0<1099511627776;decide);have nx:=G.st.next;refine pL S G.st.next ⟨_,rfl,?_⟩;refine pM (t:=⟨1,⟨#[]⟩,iX (EK C Wz),0⟩) S (by rw[G.ao];exact W) (by rw[G.ao];exact X) (by rw[G.ao];omega) (by omega) I (by have:=G.aq;omega) λaQ aR aS aT b aU aV aW=>⟨rfl,?_⟩
   refine al aQ aR aS aT b ?_ aV (aP.trans aW);have e:EY C b=Dc (EK C Wz) ⟨1,iX (EK C Wz),0⟩ (-1) b:=by unfold EY;rw[if_pos f]
   rw[e];exact aU
  ·have f:FP C=false:=by rw[<- ao];exact f
   refine al h z x y 0 ?_ (Hs.cK.refl y) Mod.refl;have e:EY C 0=C:=by unfold EY;rw[if_neg (by simp[f])]
   rw[e];exact n.put (by omega) (by omega) I
 have U:=n.bo;unfold FP at J;refine aE (AC.mk (Bf U.af rfl) (ae.intro (λL=>?_) (λL=>J _ (by simp at L;simp[L]))));refine aE (Aa.mk (Bf U.af rfl) (ae.intro (λD=>?_) (λD=>J _ (by have D:C.st.fresh=false:=D;simp[D]))));have D:C.st.fresh=true:=D;refine aE (AC.mk (Bf U.af rfl) (ae.intro (λM=>?_) (λM=>J _ (by simp at M;simp[M]))));refine aE (AC.mk (Bf U.af rfl) (J _ ?_));simp at L M;simp[ak,L,D,M];rfl
end
abbrev gZ:Sl:=⟨none,0,0⟩
def mU(wid:A2P)(b:Nat):Option (List Ev)->cm×Int
 |none=>(⟨wid,b,⟨0,0,false⟩,gZ,bG.z⟩,180)
 |some l=>(⟨wid,b,⟨(Be l).status,(Be l).next,false⟩,gZ,bG.z⟩,0)
def dy(b st nx:Int):bS:=⟨b,st,nx,⟨0,⟨#[]⟩,0,0⟩,⟨#[]⟩,gZ⟩
def XB(fl:cO)(wid:A2P):bS:=if Au wid then(match fl wid with|none=>dy 180 0 0|some l=>dy 0 (Be l).status (Be l).next) else dy 1 0 0
theorem Sw(x y:cm):ZM y.c 0 x.l=x.c:=rfl
theorem lA(x y:bS):ZM y.c 0 x.l=x.c:=rfl
theorem SV {h:aa}{b:Nat}{T:Q7}{fr:Nat×Nat}{x:cm}(c:h[b]? =some (J2 x.c T fr)):Cells h ⟨b,0,none⟩ x.l:=Dz c rfl
theorem XG {h:aa}{b:Nat}{T:Q7}{fr:Nat×Nat}{x:bS}(c:h[b]? =some (J2 x.c T fr)):Cells h ⟨b,0,none⟩ x.l:=Dz c rfl
theorem mV {h:aa}{b:Nat}{T:Q7}{x y:cm}{K:cm->aa->Prop}(f:h[b]? =some (J2 y.c T (0,0)))(j: ∀c,Mod (· =b) h c->K x c):
  aN h ⟨b,0,none⟩ x.l λd=>G7 d ⟨b,0,none⟩ λk=>K k d:=
 aN.mk f (A0 18) λc e m s=>G7.mk x (SV (by rw[Sw] at e;exact e)) (j c m)
theorem Tg {h:aa}{b:Nat}{T:Q7}{x y:bS}{K:bS->aa->Prop}(f:h[b]? =some (J2 y.c T (0,0)))(j: ∀c,Mod (· =b) h c->K x c):
  aN h ⟨b,0,none⟩ x.l λd=>Fs d ⟨b,0,none⟩ λk=>K k d:=
 aN.mk f (A0 9) λc e m s=>Fs.mk x (XG (by rw[lA] at e;exact e)) (j c m)
theorem Yu {b:Ev}(h:EX b=true):b.data.size<=2000:=by
 obtain⟨t,u,v,f,j⟩:=Qz h;by_cases k:b.kind=1
 ·obtain⟨p,m,ok⟩:=f k;have:=(uV m).2;have e:=congrArg List.length this;rw[BA] at e;rw[<- e];simp only[Fx,A3,decide_eq_true_eq] at ok;obtain⟨⟨w,o⟩,q⟩:=ok;have x:=BR.1 o;have:=Ow q;have z:=AV (n:=p.aw.toNat) (by omega);have C:=AV (n:=p.steps.length) (by omega);unfold CP;simp only[A1];omega
 ·by_cases r:b.kind=12
  ·have:=Fq (j r);omega
  ·have d:=LQ h;unfold Ed at d;simp only[A3,Cp,decide_eq_true_eq] at d;rcases d.2 with c|c
   ·rw[c];decide
   ·unfold dQ at c;simp at c;omega
section
variable {A : al} {B : cE} {g h : aa} {s a N sh : Nat} {l : List Hs} {mp : List Pr} {O : Nat -> Prop} {i : Nat} {y : Hs} {fl : cO} {an : dv} {R : A2O}
theorem LW.get {key:A2P}(c:LW B g h s a N sh l mp O)(d:key.size<=1099511627776)(e: ∀b,Ext h b->R (J1 #[J7 (Gc mp key).1,J3 (Gc mp key).2,J6 J9 0]) b):AA A P DT #[Ap s,J7 key] h R:=by obtain⟨j,k,st,m,n,nn,f,o,rfl,p,q,out⟩:=c;exact rq f d e
theorem LW.scan {p f:A2P}{d:Int}(e:LW B g h s a N sh l mp O)(j:p.size<=1099511627776)(k: ∀sl b,Own BZ AR b sl (kP mp p f d)->(∀ c,sl.af=some c->h.size<=c)->Ext h b->R (J1 #[J4 sl.p sl.len sl.cap,J6 J9 0]) b):AA A P JU #[Ap s,J7 p,J7 f,J6 J9 d] h R:=by obtain⟨o,q,st,m,r,nn,n,t,rfl,u,v,out⟩:=e;exact ANm n j k
theorem LW.dG(d:LW B g h s a N sh l mp O)(b:l[i]? =some y):h[y.p]? =some (J2 #[Ap s,J7 y.name,J6 J9 (sh:Int),.map (some y.bh),.map (some y.bu)] RD (0,0))/\1<=sh/\sh<=16:=by obtain⟨e,f,st,m,j,nn,k,n,o,c,p,out⟩:=d;exact⟨(c.host i y b).cell,(c.host i y b).sh⟩
theorem LW.store(b:LW B g h s a N sh l mp O)(c:l[i]? =some y)(d:R (Ap s) h):AA A P Fj #[Ap y.p] h R:=by refine Uq ?_;unfold Oe;exact ae.no rfl (aE (AZ.mk (AL (b.dG c).1 rfl) d))
theorem LW.aG(b:LW B g h s a N sh l mp O)(c:l[i]? =some y)(d:R (J6 J9 (sh:Int)) h):AA A P Gj #[Ap y.p] h R:=by refine UC ?_;unfold Mq;exact ae.no rfl (aE (AC.mk (AB (b.dG c).1 rfl) d))
theorem Jl.eN(b:Jl mp fl an){wid:A2P}(c:Au wid=true):Gc mp (Kk wid)=match fl wid with|none=>(⟨#[]⟩,false)|some l=>(Pz (Be l).status.toNat (Be l).next.toNat false,true):=by unfold Gc;rw[b.ie wid c];cases fl wid<;>rfl
theorem Jl.fE(c:Jl mp fl an){b:A2P}(d:Au b=true):Gc mp (Mf b)=match an b with|none=>(⟨#[]⟩,false)|some x=>(iV x.1 x.2.1.toNat x.2.2.toNat,true):=by unfold Gc;rw[c.jV b d];cases an b<;>rfl
theorem pn {wid:A2P}(v:LW B g h s a N sh l mp O)(o:l[i]? =some y)(w:Jl mp fl an)
  (G:Au wid=false-> ∀f,Ext h f->R (J1 #[cm.z.v,J6 J9 1]) f)
  (H:Au wid=true-> ∀f,Ext h f->R (J1 #[(mU wid (Aq wid sh) (fl wid)).1.v,J6 J9 (mU wid (Aq wid sh) (fl wid)).2]) f):
  AA A P Jk #[Ap y.p,J7 wid] h R:=by
 obtain⟨-,I,J⟩:=v.dG o;refine ABj ?_;unfold VL;refine ak.mk λL _ z p Z=>ah.mk λK M=>ae.no rfl (Fb ⟨_,rfl,M _ _ ?_⟩)
 cases m:Au wid with
 |false=>exact ae.yes rfl (mV z λb Q=>G m b (p.more Q λc j=>by subst j;exact A0 _))
 |true=>
  have ab:=Fq m;have q:=v.on p;have C: ∀ {b d:aa} {x:cm} {r:Int},Ext L b->Mod (· =h.size) b d->(x,r)=mU wid (Aq wid sh) (fl wid)->R (J1 #[x.v,J6 J9 r]) d:=λ{b d x r} k t S=>by
   have:=H m d ((p.trans k).more t λc j=>by subst j;exact A0 _);rw[<- S] at this;exact this
  refine ae.no rfl (q.aG o ⟨_,rfl,YL (by omega) I J ⟨_,_,rfl,ae.no rfl (q.store o ⟨_,rfl,nc (by omega) ⟨_,rfl,?_⟩⟩)⟩⟩);refine q.get (by rw[RN];omega) λb k=>?_
  rw[w.eN m];have D:=k.af z λh=>h
  cases u:fl wid with
  |none=>
   refine⟨_,_,_,rfl,ae.no rfl (ae.yes rfl (mV D λd t=>?_))⟩;exact C k t (by rw[u];rfl)
  |some e=>
   have n:=w.dF wid e u;have nx:=n.next.1;have ac:=n.len;have st:=n.st;have ad:1<=e.length:=List.length_pos_iff.2 n.ne;refine⟨_,_,_,rfl,ae.no rfl (ae.no rfl (AJs (by omega) (by omega) (by omega) λd E=>nW.mk _ ⟨_,rfl,?_⟩))⟩;refine ak.mk λaf _ T U ag=>aN.mk T (A0 3) λV W X ai=>?_
   have F:Ext b V:=(E.trans U).more X λc j=>by subst j;exact E.size
   refine Ns.mk _ (Dz W rfl) (mV (F.af D λh=>h) λaj Y=>?_);refine C (k.trans F) Y ?_;rw[u];unfold mU;rw[show(((Be e).status.toNat:Nat):Int)=(Be e).status from by omega,show(((Be e).next.toNat:Nat):Int)=(Be e).next from by omega]
theorem APw {wid:A2P}(I:LW B g h s a N sh l mp O)(J:l[i]? =some y)(K:Jl mp fl an)
  (w: ∀e,Ext h e->R (XB fl wid).v e):AA A P Dg #[Ap y.p,J7 wid] h R:=by
 refine Vq ?_;unfold O8;refine ak.mk λL _ M z ac=>?_
 have C: ∀ {x:cm} {n:Int} {f:aa},Ext L f->(n≠0->(dy n 0 0)=XB fl wid)->(n=0->(dy 0 x.me.status x.me.next)=XB fl wid)->
   ak f (J2 cm.z.c CX) λp D=>aN D (⟨p,0,none⟩:Q6) x.l λd=>ae (n != (0:Int)) (
    aN d (⟨h.size,0,none⟩:Q6) (⟨n,0,0,⟨0,(⟨#[]⟩:A2P),0,0⟩,(⟨#[]⟩:A2P),(⟨none,0,0⟩:Sl)⟩:bS).l λb=>
    Fs b (⟨h.size,0,none⟩:Q6) λQ=>
    R (Q.v) b) (
    AC J9 d ((⟨p,0,none⟩:Q6).add 2) λS=>
    AC J9 d (((⟨p,0,none⟩:Q6).add 2).add 1) λT=>
    aN d (⟨h.size,0,none⟩:Q6) (⟨0,S,T,⟨0,(⟨#[]⟩:A2P),0,0⟩,(⟨#[]⟩:A2P),(⟨none,0,0⟩:Sl)⟩:bS).l λE=>
    Fs E (⟨h.size,0,none⟩:Q6) λU=>
    R (U.v) E):=λ{x n f} j V W=>by
  refine ak.mk λD _ X Y ad=>aN.mk X (A0 18) λd q Z af=>?_
  have F:Ext f d:=Y.more Z λc r=>by subst r;exact A0 _
  rw[Sw] at q;have G:=F.af (j.af M λh=>h) λh=>h
  have H: ∀e,Mod (· =h.size) d e->Ext h e:=λe m=>((z.trans j).trans F).more m λc r=>by subst r;exact A0 _
  refine ae.intro (λt=>Tg G λb u=>?_) (λt=>?_)
  ·have:=w b (H b u);rw[<- V (by simpa using t)] at this;exact this
  ·refine AC.mk (n:=x.me.status) (CK (by exact q) rfl) (AC.mk (n:=x.me.next) (Bf (by exact q) rfl) (Tg G λb u=>?_));have:=w b (H b u);rw[<- W (by simpa using t)] at this;exact this
 refine pn (I.on z) J K (λo f j=>MI.mk _ ⟨_,rfl,C j (λ_=>by unfold XB;rw[o];rfl) λh=>by cases h⟩) λo f j=>MI.mk _ ⟨_,rfl,C j (λk=>?_) λk=>?_⟩
 ·unfold XB;rw[o,if_pos rfl];cases v:fl wid with
  |none=>rfl
  |some ab=>rw[v] at k;exact absurd rfl k
 ·unfold XB;rw[o,if_pos rfl];cases v:fl wid with
  |none=>rw[v] at k;cases k
  |some ab=>rfl
theorem AHX {e:A2P}(M:LW B g h s a N sh l mp O)(Q:l[i]? =some y)(z:Jl mp fl an)(C:Au e=true)
  (D: ∀E,Ext h E->R (match an e with|none=>J1 #[J7 ⟨#[]⟩,bS.z.v,J3 false,J6 J9 0]|some x=>J1 #[J7 (AX x.1),(dy 0 x.2.1 x.2.2).v,J3 true,J6 J9 0]) E):AA A P Ka #[Ap y.p,J7 e] h R:=by
 have ag:=Fq C;refine WH ?_;unfold PL;refine ak.mk λai _ S f aj=>?_
 have F:=M.on f;refine F.store Q ⟨_,rfl,ta (by omega) ⟨_,rfl,F.get (by rw[Uf];omega) λj k=>?_⟩⟩;rw[z.fE C];have m:=k.af S λh=>h
 cases o:an e with
 |none=>
  refine⟨_,_,_,rfl,ah.mk λK p=>ae.no rfl (p _ _ (ae.yes rfl (Tg m λG T=>?_)))⟩;have:=D G ((f.trans k).more T λc d=>by subst d;exact A0 _);rw[o] at this;exact this
 |some x=>
  obtain⟨⟨al,am⟩,⟨ao,ap⟩,aq⟩:=z.jW e x o;refine⟨_,_,_,rfl,ah.mk λK p=>ae.no rfl (p _ _ (ae.no rfl ?_))⟩;unfold iV;have ar:=Gl (n:=x.2.1.toNat) (by omega);have au:=Gl (n:=x.2.2.toNat) (by omega);have av:=AV (n:=x.1.length) (by omega);have aw:(BP x.1).length<=2010:=by unfold BP;rw[A1];omega
  refine KY λG H q=>⟨_,rfl,IP H (by simp only[A1];omega) λax U r=>⟨_,rfl,?_⟩⟩
  rw[JQ (by omega)] at*
  refine DW (most:=4) U (by simp only[A1];omega) (by decide) λay V t=>⟨_,rfl,?_⟩
  rw[Ci (by omega) (by omega)] at*
  have W:Bu 501 ⟨BX x.2.2.toNat,false⟩=(x.2.2.toNat,⟨[],false⟩):=by have:=Ci (n:=x.2.2.toNat) (most:=501) (by omega) (by omega) [];rwa [AM] at this
  refine DW (most:=501) V (by simp only;omega) (by decide) λX Y u=>⟨_,rfl,?_⟩
  rw[W] at*
  refine ak.mk λaz _ Z v aA=>aN.mk Z (A0 9) λI J w aC=>?_
  have aD:=q.size;have aE:=r.size;have aF:=t.size;have aG:=u.size;have aH:=Af m;have aa:Ir I j.size ⟨[],false⟩:=w.af (v.af Y λh=>h) (by have:=Af H;omega);refine NM aa ⟨_,rfl,ae.no rfl ?_⟩;rw[lA] at J;have ab:=w.af (v.af (u.af (t.af (r.af (q.af m λh=>h) (by omega)) (by omega)) (by omega)) λh=>h) (b:=h.size) (by omega);refine Fs.mk _ (XG J) (Tg ab λac ad=>?_);have L:Ext j X:=q.more ((r.trans t).trans u) λc d=>by subst d;exact A0 _
  have af:Ext j I:=(L.trans v).more w λc d=>by subst d;exact L.size
  have:=D ac (((f.trans k).trans af).more ad λc d=>by subst d;exact A0 _);rw[o] at this;rw[show((x.2.1.toNat:Nat):Int)=x.2.1 from by omega,show((x.2.2.toNat:Nat):Int)=x.2.2 from by omega];exact this
end
theorem AJ8 {wid:A2P}{l:List Ev}{b i:Nat}{p:Pr}(h:(((Rv wid l).drop b).take 32)[i]? =some p): ∃c,l[b+i]? =some c/\p=Oj wid c:=by
 rw[Fo] at h;split at h
 ·rw[Bs] at h;exact Qd h
 ·cases h
theorem I1.fresh {h j:aa}{k:Nat->Prop}{s:aZ}{a b c:Sl}{n:Nat}(o:I1 h s a b c)(m:Mod k h j)(fr: ∀x,a.af=some x\/b.af=some x\/c.af=some x->n<=x)(f: ∀c,k c->c<n):I1 j s a b c:=
 o.mod m (λx d e=>by have:=fr x (.inl d);have:=f x e;omega) (λx d e=>by have:=fr x (.inr (.inl d));have:=f x e;omega) (λx d e=>by have:=fr x (.inr (.inr d));have:=f x e;omega)
section
variable {A : al} {B : cE} {g h : aa} {s a N sh : Nat} {l : List Hs} {mp : List Pr} {O : Nat -> Prop} {i : Nat} {y : Hs} {fl : cO} {an : dv} {R : A2O}
theorem mW {wid:A2P}{d:List Ev}{aX:J0}(ai:LW B g h s a N sh l mp O)(D:l[i]? =some y)(aj:Jl mp fl an)(al:Au wid=true)(am:fl wid=some d)
  (aY: ∀U e F G H,Ext h U->View fZ U e d->I1 U (Be d) F G H->(∀ x,F.af=some x\/G.af=some x\/H.af=some x->h.size<=x)->(∀ x,e.af=some x->h.size<=x)->
   R (J1 #[(⟨wid,(Aq wid sh:Int),⟨(Be d).status,(Be d).next,false⟩,e,(Be d).V F G H⟩:cm).v,J6 J9 0]) U):AA A P IR #[Ap y.p,aX,J7 wid] h R:=by
 have V:=aj.dF wid d am;obtain⟨nx,aA⟩:=V.next;have aZ:=V.len;have bK:1<=d.length:=List.length_pos_iff.2 V.ne;have a0:=Fq al;refine AB6 ?_;unfold VP;refine ak.mk λW _ ao v bL=>?_
 refine pn (ai.on v) D aj (λh=>by rw[al] at h;cases h) λ_ k aC=>?_
 rw[am];refine MI.mk _ ⟨_,rfl,ak.mk λbM _ a1 a2 bN=>aN.mk a1 (A0 18) λX M a3 bO=>ae.no rfl ?_⟩;rw[Sw] at M;have ap:Ext k X:=a2.more a3 λc f=>by subst f;exact A0 _
 have aD:Ext W X:=aC.trans ap;have bP:=Af ao;have a4:=aC.size;have bQ:=ap.size;have bR:X[h.size]? =some (J2 cm.z.c CX (0,0)):=aD.af ao λh=>h
 let fv:Sl->cm:=λe=>⟨wid,(Aq wid sh:Int),⟨(Be d).status,(Be d).next,false⟩,e,bG.z⟩
 have M:X[k.size]? =some (J2 (fv gZ).c CX (0,0)):=M;refine ah.mk λK a5=>Aa.mk (n:=false) (Bf M rfl) (ae.no rfl ?_)
 refine Loop.rule (λm x r=> ∃e:Sl,m=d.length-e.len/\e.len<=d.length/\Ext W r/\Ext k r/\r[k.size]? =some (J2 (fv e).c CX (0,0))/\Own fZ BC r e (d.take e.len)/\(∀ b,e.af=some b->k.size<b)) ?_
  ⟨gZ,rfl,AD _,aD,ap,M,Own.nil,λb j=>by simp[Sl.af] at j⟩
 rintro bS m _ aq ⟨e,rfl,a6,Q,aE,t,S,fr⟩ a7;refine AY.mk (s:=e) (CK t rfl) (AC.mk (n:=(Be d).next) (Bf t rfl) ?_);rw[nx,wrap_i64 (by omega) (by omega)];have aF:LW B g aq s a N sh l mp O:=ai.on (v.trans Q);refine ae.intro (λw=>?_) (λw=>?_)
 ·have bT:e.len<d.length:=by simp at w;omega
  refine aF.store D ⟨_,rfl,sY (by omega) λaG Y=>⟨_,rfl,?_⟩⟩;have a8:=Y.af t λh=>h
  refine AY.mk (s:=e) (CK a8 rfl) ⟨CK t rfl,CK t rfl,?_⟩;rw[Ab (by omega)];refine sZ (by omega) (by omega) λa9 ar=>⟨_,rfl,?_⟩
  have au:=Y.trans ar;have ba:=aF.on au;refine ba.scan (by have:=AMJ a0;omega) λps I av bb bc=>⟨_,_,rfl,ae.no rfl ?_⟩
  rw[AOx ai.sorted aj al am a6] at av;have u:=au.trans bc;have aH:=av.len;have bU:ps.len=min 32 (d.length-e.len):=by rw[aH,AE,DG];unfold Rv;rw[BE]
  refine ae.no (by simp;omega) ?_;have bd:=Q.trans u;have be:=aE.trans u;refine Loop.rule (λm x r=> ∃(o:Nat) (q:Sl),x=((o:Int),())/\m=ps.len-o/\o<=ps.len/\q.len=e.len+o/\Ext W r/\Ext k r/\Mod (λc=>c=k.size\/e.af=some c) I r/\r[k.size]? =some (J2 (fv q).c CX (0,0))/\Own fZ BC r q (d.take q.len)/\(∀ b,q.af=some b->k.size<b/\(e.af=some b\/I.size<=b))) ?_
   ⟨0,e,rfl,rfl,AD _,rfl,bd,be,Mod.refl,u.af t λh=>h,S.ext u,λb j=>⟨fr b j,.inl j⟩⟩
  rintro bV m _ aw ⟨o,q,rfl,rfl,aI,bf,aJ,aK,ax,J,aL,L⟩ bg;dsimp only;refine ae.intro (λw=>?_) (λw=>?_)
  ·have Z:o<ps.len:=by simpa using w
   have bW:e.len+o<d.length:=by omega
   obtain⟨p,aM⟩: ∃p,(((Rv wid d).drop e.len).take 32)[o]? =some p:=⟨_,A2 (by rw[<- aH];exact Z)⟩;obtain⟨z,aa,rfl⟩:=AJ8 aM;have ok:=(aA _ _ aa).2;have hd:=Yu ok;have bX:=xu (LQ ok) (by omega);have bh:View BZ aw ps (((Rv wid d).drop e.len).take 32):=(av.view.mod ax λb j f=>by
    have:=bb b j;have:=au.size;have:=aE.size;have:=Af t;rcases f with rfl|f
    ·omega
    ·have:=S.lt f;omega)
   refine bh.idx aM λbY _ bi=>?_
   obtain⟨bj,bk,bm⟩:=bi.pair;refine AJ.mk bj (AJ.mk bk (Aa.mk bm (ak.pair λb ac bZ bn aO b0=>AJ.mk (n:=AX (Mw z)) (AB bn rfl) ?_)));refine AJi (by omega) λb1 aP=>?_
   rw[(AL3 (by omega)).2 ⟨ok,rfl⟩];refine nU.mk z ⟨_,rfl,ak.mk λb2 _ bo bp b3=>aN.mk bo (A0 8) λbq aQ br b4=>ae.no rfl ?_⟩;rw[pA] at aQ;have C:Ext aw bq:=((aO.trans aP).trans bp).more br λc f=>by subst f;exact(aO.trans aP).size
   refine AY.mk (s:=q) (CK (C.af J λh=>h) rfl) (NI.mk z (P7 aQ) ?_);refine ak.aY (E:=fZ) (x:=z) (s:=q) rfl xt (aL.ext C) (by simp only[AE];omega) (by simp only[AE,maxLen];omega) λT b5 aR ad bs b6=>?_
   have b7:=Af J;have b8:=C.size;have b9:=ax.size;have bt: ¬q.af=some k.size:=λh=>by have:=(L _ h).1;omega
   refine ab.bM (dS:=(fv T).c) (ad.af (C.af J λh=>h) bt) (of_decide_eq_true rfl) rfl λca bu af cb=>?_
   rw[Ab (by omega)];have aS:T.len=e.len+(o+1):=by have:=aR.len;rw[A1,AE,CN] at this;omega
   have cc:=v.size;have aT: ∀b,T.af=some b->k.size<b/\(e.af=some b\/I.size<=b):=λb j=>by
    rcases bs b j with h|h
    ·exact L b h
    ·exact⟨by omega,.inr (by omega)⟩
   have bv: ∀b,q.af=some b->W.size<=b:=λb j=>by have:=(L b j).1;omega
   refine bg (ps.len-(o+1)) _ _ (by omega) ⟨o+1,T,rfl,rfl,Z,aS,((aJ.trans C).more ad bv).more af λc f=>by subst f;exact a4,((aK.trans C).more ad λb j=>by have:=(L b j).1;omega).more af λc f=>by subst f;exact A0 _,?_,bu,?_,aT⟩
   ·refine(ax.trans C.mod).then ((ad.ai λc _ f=>?_).trans (af.ai λc _ f=>?_))
    ·rcases(L c f).2 with h|h
     ·exact .inl (.inr h)
     ·exact .inr h
    ·exact .inl (.inl f)
   ·have bw:d.take T.len=d.take q.len++ [z]:=by rw[aS,bf,<-GB,Ax,aa];rfl
    rw[bw];exact aR.mod af λb j f=>by have:=(aT b j).1;omega
  ·have Z:o=ps.len:=by simp at w;omega
   subst Z;exact a7 (d.length-q.len) _ _ (by omega) ⟨q,rfl,by omega,aJ,aK,J,aL,λb j=>(L b j).1⟩
 ·have bx:e.len=d.length:=by simp at w;omega
  rw[bx,C5] at S;refine a5 () aq (AY.mk (s:=e) (CK t rfl) ?_);refine AJQ S.view aZ (λz aa=>by
   obtain⟨o,aI⟩:=Ge aa;have:=Yu (aA o z aI).2;omega) V.ok λaG F G H Y bz aU=>G9.mk _ ⟨_,_,rfl,?_⟩
  refine ak.mk λa9 _ bA ar cd=>aN.mk bA (A0 12) λI ag bB ce=>?_
  rw[Ob] at ag;have aV:Ext aG I:=ar.more bB λc f=>by subst f;exact A0 _
  have u:=Y.trans aV;have ay:=u.af t λh=>h
  have bC:=u.af ((Q.af ao λh=>h)) λh=>h
  refine ah.mk λcf bD=>ae.no rfl (AC.mk (n:=(Be d).next) (AB ag rfl) (AC.mk (n:=(Be d).next) (Bf ay rfl) ?_))
  refine ae.no (by simp) (AC.mk (n:=(Be d).status) (AB ag rfl) (AC.mk (n:=(Be d).status) (CK ay rfl) (bD _ _ (ae.no (by simp) ?_))));have bE:=bz.ext aV;have cg:=Af t;have ch:=Q.size;have ci:=u.size;refine Aw.mk _ (Et ag) ?_;have bF:(⟨k.size,0,none⟩:Q6).add 6=⟨k.size,6,none⟩:=rfl;rw[bF];refine aN.mk ay (of_decide_eq_true rfl) λaw J aW cj=>?_
  refine G7.mk ⟨wid,(Aq wid sh:Int),⟨(Be d).status,(Be d).next,false⟩,e,(Be d).V F G H⟩ (SV (by exact J)) (mV (aW.af bC (by omega)) λac bH=>?_);have az:Mod (λc=>c=k.size\/c=h.size) I ac:=(aW.ai λc _ f=> .inl f).trans (bH.ai λc _ f=> .inr f);have bI:=bE.fresh (n:=aq.size) az aU λc f=>by omega
  have bJ:View fZ ac e d:=(S.view.ext u).mod az λb j f=>by have:=fr b j;omega
  refine aY ac e F G H ((v.trans (Q.trans u)).more az λc f=>by have:=v.size;omega) bJ bI (λx D=>by have:=aU x D;have:=v.size;omega) λx D=>by have:=fr x D;have:=v.size;omega
end
theorem Nn {a v:A2P}(b:a≠⟨#[]⟩)(c:a.size<=64)(d:v.size<=8192):Ah ⟨a,v,false⟩=0:=by unfold Ah;rw[if_neg (by simp[b]),if_neg (by simp;omega)]
theorem AJr {a:A2P}(b:a≠⟨#[]⟩)(c:a.size<=64):Ah ⟨a,⟨#[]⟩,true⟩=0:=by have z:(⟨#[]⟩:A2P).size=0:=rfl;unfold Ah;rw[if_neg (by simp[b]),if_neg (by simp;omega)]
theorem XP {a:A2P}(b:0<a.size):a≠⟨#[]⟩:=λc=>by rw[c] at b;cases b
theorem sB: ∀ {l:List Pr},(∀ p∈l,Ah p=0)->F4 l=0
 | [],_=>rfl
 |x::l,a=>by
  unfold F4;rw[if_neg (by rw[a x (by simp)];decide)];exact sB λp b=>a p (by simp[b])
theorem sC {l:List Pr}(a:l≠ [])(c:l.length<=64)(b: ∀p∈l,Ah p=0):EU l=0:=by unfold EU;rw[if_neg (by rw[Vc];exact a),if_neg (by omega)];exact sB b
theorem APf {wid:A2P}{a:Ev}(c:Au wid=true)(b:EX a=true):Ah (Oj wid a)=0:=by
 have d:=Fq c;have e:=AOE d a.id.toNat;have hd:=Yu b;have f:=xu (LQ b) (by omega);refine Nn (XP ?_) (by omega) ?_
 ·unfold dW;rw[AP];unfold kJ;simp
 ·rw[AP];omega
theorem APH {wid:A2P}{st nx:Nat}{a:Bool}(b:Au wid=true)(c:st<128)(d:nx<=501):Ah ⟨Kk wid,Pz st nx a,false⟩=0:=by have e:=Fq b;have:=AJg (kept:=a) c d;exact Nn (XP (by rw[RN];omega)) (by rw[RN];omega) (by omega)
theorem AQj {a:A2P}{x:List UInt8×Int×Int}(b:Au a=true)(c:0<=x.2.1/\x.2.1<=4)(d:0<=x.2.2/\x.2.2<=501)(e:x.1.length<=2000):Ah (Xu a x)=0:=by have f:=Fq b;have g:=Gl (n:=x.2.1.toNat) (by omega);have h:=Gl (n:=x.2.2.toNat) (by omega);have i:=AV (n:=x.1.length) (by omega);refine Nn (XP (by rw[Uf];omega)) (by rw[Uf];omega) ?_;unfold iV BP;rw[AP];simp only[A1];omega
theorem Wq {t:gk}{wid:A2P}{sh num:Nat}{tick:Int}(a:KI t wid=true):Ah ⟨GQ sh tick num,ib t wid,false⟩=0/\(BU (GQ sh tick num)≠104/\BU (GQ sh tick num)≠119/\BU (GQ sh tick num)≠114)/\BU (GQ sh tick num)≠108:=by
 unfold KI at a;simp only[A3,BR] at a;obtain⟨⟨⟨⟨c,d⟩,b⟩,e,f⟩,g,h⟩:=a;have:=AJJ (kind:=t.kind.toNat) (wid:=wid) (ref:=t.ref.toNat) (turn:=t.turn.toNat) (by omega) (Fq b) (by omega) (by omega);unfold GQ ib;split
 ·rw[WY];exact⟨Nn (XP (by rw[vY];omega)) (by rw[vY];omega) (by omega),⟨by decide,by decide,by decide⟩,by decide⟩
 ·rw[WF];exact⟨Nn (XP (by rw[vZ];omega)) (by rw[vZ];omega) (by omega),⟨by decide,by decide,by decide⟩,by decide⟩
end Go.Lf.G
namespace Go.Lf
open G
open Go
open M (Sorted Ae Ca A8 Ag Ar BV Ah bE BF aS BL)
def ba.fits(a:ba)(b:List Ev):Prop:=ET Qs (b++a.more)=some a.st
end Go.Lf
namespace Go.Lf.G
open Go
open M (Sorted Ae Ca A8 Ag Ar BV Ah bE BF aS BL)
theorem JH {C:ba}{l0:List Ev}{e:Ev}(a:C.fits l0):(EK C e).fits l0:=by
 unfold EK;split
 ·exact a
 ·split
  ·exact a
  ·split
   ·exact a
   ·rename_i b;have b:(Bh C.st (Cg C e)).1=0:=by simpa using b
    show ET Qs (l0++(C.more++ [Cg C e]))=_;rw[<- A4];exact AHe a b
theorem Nf {a:ba}{b:List Ev}{t:gk}{tick:Int}{num:Nat}(c:a.fits b):(Dc a t tick num).fits b:=by unfold ba.fits;rw[(I6 a t tick num).1,(I6 a t tick num).2];exact c
theorem sD {a:ba}{b:List Ev}{c f:Nat}(d:a.fits b):(Ay a c f).fits b:=by
 have e:(EY a c).fits b:=by
  unfold EY;split
  ·exact Nf (JH d)
  ·exact d
 unfold Ay;split
 ·exact Nf e
 ·exact e
abbrev iO:=Option (A2P×(List UInt8×Int×Int))
end Go.Lf.G
namespace Go.Lf
open G
open Go
open M (Sorted Ae Ca A8 Ag Ar BV Ah bE BF aS BL)
structure ba.beside (C:ba) (o:iO):Prop where
 ok: ∀p∈C.aq,Ah p=0
 fg: ∀p∈C.aq,(BU p.key≠104/\BU p.key≠119/\BU p.key≠114)\/ ∃r x,o=some (r,x)/\p=Xu r x
 kQ: ∀p∈C.aq,BU p.key≠108
end Go.Lf
namespace Go.Lf.G
open Go
open M (Sorted Ae Ca A8 Ag Ar BV Ah bE BF aS BL)
theorem LY {a:ba}{c:iO}(b:a.beside c)(d:Ev):(EK a d).beside c:=by have:=(QA a d).2.2.2.2.2.1;exact⟨by rw[this];exact b.ok,by rw[this];exact b.fg,by rw[this];exact b.kQ⟩
theorem MV {d:ba}{f:iO}(a:d.beside f)(t:gk)(tick:Int)(g:Nat):(Dc d t tick g).beside f:=by
 unfold Dc;split
 ·exact a
 ·split
  ·exact⟨a.ok,a.fg,a.kQ⟩
  ·rename_i c;have c:KI t d.wid=true:=by simpa using c
   refine⟨λp e=>?_,λp e=>?_,λp e=>?_⟩<;>rcases List.mem_append.1 e with b|b
   ·exact a.ok p b
   ·rw[List.mem_singleton.1 b];exact(Wq c).1
   ·exact a.fg p b
   ·rw[List.mem_singleton.1 b];exact .inl (Wq c).2.1
   ·exact a.kQ p b
   ·rw[List.mem_singleton.1 b];exact(Wq c).2.2
theorem Xe {a:ba}{b:iO}(c:a.beside b)(d f:Nat):(Ay a d f).beside b:=by
 have e:(EY a d).beside b:=by
  unfold EY;split
  ·exact MV (LY c _) _ _ _
  ·exact c
 unfold Ay;split
 ·exact MV e _ _ _
 ·exact e
theorem AHr {e:ba}{c:A2P}{x:List UInt8×Int×Int}(a:e.beside none)(f:Au c=true)(g:0<=x.2.1/\x.2.1<=4)(h:0<=x.2.2/\x.2.2<=501)(i:x.1.length<=2000):(kK e (Mf c) (iV x.1 x.2.1.toNat x.2.2.toNat)).beside (some (c,x)):=by
 refine⟨λp d=>?_,λp d=>?_,λp d=>?_⟩<;>rcases List.mem_append.1 d with b|b
 ·exact a.ok p b
 ·rw[List.mem_singleton.1 b];exact AQj f g h i
 ·rcases a.fg p b with a|⟨j,k,a,_⟩
  ·exact .inl a
  ·cases a
 ·exact .inr ⟨c,x,rfl,List.mem_singleton.1 b⟩
 ·exact a.kQ p b
 ·rw[List.mem_singleton.1 b];show BU (Mf c)≠108;rw[Kg];decide
theorem sE(a:ba)(b:Ev):(EK a b).aq=a.aq:=(QA a b).2.2.2.2.2.1
theorem sF {b:ba}{p:Pr}(a:p∈b.aq)(t:gk)(tick:Int)(c:Nat):p∈(Dc b t tick c).aq:=by
 unfold Dc;split
 ·exact a
 ·split
  ·exact a
  ·exact HJ _ a
theorem ALg {a:ba}{p:Pr}(b:p∈a.aq)(c e:Nat):p∈(Ay a c e).aq:=by
 have d:p∈(EY a c).aq:=by
  unfold EY;split
  ·exact sF (by rw[sE];exact b) _ _ _
  ·exact b
 unfold Ay;split
 ·exact sF d _ _ _
 ·exact d
theorem Jl.note {o b:List Pr}{v:cO}{k:dv}{j:iO}(g:Jl o v k)(s:Sorted o)(l:fy b j):Jl (cM o b) v (pj k j):=by
 have w: ∀p∈b,BU p.key≠104/\BU p.key≠119:=λp A=>by
  rcases l.fg p A with m|⟨a,x,_,rfl⟩
  ·exact⟨m.1,m.2.1⟩
  ·exact⟨by show BU (Mf a)≠104;rw[Kg];decide,by show BU (Mf a)≠119;rw[Kg];decide⟩
 refine⟨λn q B y=>?_,λn q=>?_,λa z=>?_,g.dF,λa x f=>?_⟩
 ·rw[Jv s λc e d=>(w c e).1 (by rw[d];exact qJ y)];exact g.cF n q B y
 ·rw[Jv s λc e d=>(w c e).2 (by rw[d];exact FY n)];exact g.ie n q
 ·have no: ∀c∈b,c.key=Mf a-> ∃x,j=some (a,x)/\c=Xu a x:=λc e d=>by
   have C:=(congrArg BU d).trans (Kg a);rcases l.fg c e with m|⟨h,x,D,rfl⟩
   ·exact absurd C m.2.2
   ·have:h=a:=w8 d;subst this;exact⟨x,D,rfl⟩
  cases j with
  |none=>
   rw[Jv s λc e d=>?_,g.jV a z]
   ·rfl
   ·obtain⟨x,f,_⟩:=no c e d;cases f
  |some r=>
   obtain⟨h,x⟩:=r;show _=(dC k h x a).map (Xu a);by_cases i:a=h
   ·subst i;rw[IB];refine(lz (p:=Xu a x) s (l.has a x rfl).1 λc e d=>?_).trans rfl;obtain⟨t,u,rfl⟩:=no c e d;cases u;rfl
   ·rw[SQ i,Jv s λc e d=>?_,g.jV a z];obtain⟨t,u,_⟩:=no c e d;cases u;exact i rfl
 ·cases j with
  |none=>exact g.jW a x f
  |some r=>
   obtain⟨h,t⟩:=r;have f:dC k h t a=some x:=f;by_cases i:a=h
   ·subst i;rw[IB] at f;cases f;exact(l.has a x rfl).2.2
   ·rw[SQ i] at f;exact g.jW a x f
theorem Yn {a:ba}{b:List Ev}{g:Nat}(c:a.fits b)(e:b++a.more≠ [])(f:De a.st g):Ta (b++a.more)/\Be (b++a.more)=a.st:=by
 have d:Be (b++a.more)=a.st:=by unfold Be;rw[c];rfl
 have nx:=vV c e;have:=f.next;exact⟨⟨e,by omega,by rw[d];exact c,by rw[d];exact f.st⟩,d⟩
theorem ANk {a:Type}{f:A2P->Option a}{b:A2P}{x:a}(c:f b=some x):dC f b x=f:=by
 funext e;unfold dC;split
 ·rename_i d;rw[d,c]
 ·rfl
theorem Jl.done {c:List Pr}{a:cO}{g:dv}{D:ba}{o:iO}{k:Nat}(h:Jl c a g)(s:Sorted c)(m:Au D.wid=true)(n:D.fits ((a D.wid).getD []))(b:(a D.wid).getD []++D.more≠ [])(p:De D.st k)(q:D.beside o)
  (has: ∀d x,o=some (d,x)->Xu d x∈D.aq/\Au d=true/\(0<=x.2.1/\x.2.1<=4)/\(0<=x.2.2/\x.2.2<=501)/\x.1.length<=2000):
  Jl (cM c (Dq D++D.aq)) (dC a D.wid ((a D.wid).getD []++D.more)) (pj g o):=by
 have i:fy D.aq o:=⟨q.fg,has⟩;obtain⟨r,t⟩:=Yn n b p;by_cases e:D.more= []
 ·have f:Dq D= []:=by unfold Dq;rw[e];rfl
  rw[f,DA];have:dC a D.wid ((a D.wid).getD []++D.more)=a:=by
   rw[e,AM] at b ⊢;cases j:a D.wid with
   |none=>rw[j] at b;exact absurd rfl b
   |some l=>exact ANk j
  rw[this];exact h.note s i
 ·have f:Dq D++D.aq=D.more.map (Oj D.wid)++([Sk D.wid ((a D.wid).getD []++D.more)]++D.aq):=by unfold Dq Sk;rw[if_neg e,A4,t]
  rw[f];exact h.land s m r i
theorem sG {e:List Pr}{c:cO}{h:dv}{a:ba}(i:Jl e c h)(j:Au a.wid=true)(b:match c a.wid with|none=>a.bT=0|some l=>a.cn=(Be l).status/\a.bT=(Be l).next/\a.kept=false/\0<a.bT):BQ e (bB a)=true:=by
 have g:=i.eN j;cases f:c a.wid with
 |none=>
  rw[f] at b g;have b:a.bT=0:=b;have d:bB a=⟨Kk a.wid,⟨#[]⟩,true⟩:=by unfold bB;rw[if_neg (by omega)]
  rw[d];unfold BQ;rw[if_pos rfl,g];rfl
 |some l=>
  rw[f] at b g;obtain⟨k,m,n,o⟩:=b;have d:bB a=⟨Kk a.wid,Pz a.cn.toNat a.bT.toNat a.kept,false⟩:=by unfold bB;rw[if_pos o]
  rw[d];unfold BQ;rw[if_neg (by simp),g,k,m,n];simp
theorem AL1 {b:List Pr}{d:cO}{c:dv}{a:A2P}(e:Jl b d c)(f:Au a=true)(h:c a=none):BQ b ⟨Mf a,⟨#[]⟩,true⟩=true:=by unfold BQ;have g:=e.fE f;rw[h] at g;rw[if_pos rfl,g];rfl
theorem sH {b:ba}{g:Nat}(d:Au b.wid=true)(ok: ∀c∈b.more,EX c=true/\c.data.size<1099511627776)(e:De b.st g): ∀p∈Dq b,Ah p=0:=by
 intro p f;have st:=e.st;have nx:=e.next;unfold Dq at f;rcases List.mem_append.1 f with a|a
 ·obtain⟨c,h,rfl⟩:=List.mem_map.1 a;exact APf d (ok c h).1
 ·split at a
  ·cases a
  ·rw[List.mem_singleton.1 a];exact APH d (by omega) (by omega)
theorem sI(a:ba):(Dq a).length<=a.more.length+1:=by unfold Dq;rw[A1,BE];split<;>simp
theorem sJ {f e:List Pr}{a:ba}{g:iO}{h:Nat}(i:Au a.wid=true)(ok: ∀d∈a.more,EX d=true/\d.data.size<1099511627776)(j:De a.st h)(k:a.beside g)(n:a.more.length+1+a.aq.length<=64)(l:Dq a++a.aq≠ [])(o:e.length<=64)(b: ∀c∈e,BQ f c=true):dx f e (Dq a++a.aq)=0:=by
 have q:=sI a;have d:EU (Dq a++a.aq)=0:=sC l (by rw[A1];omega) λp m=>by
  rcases List.mem_append.1 m with b|b
  ·exact sH i ok j p b
  ·exact k.ok p b
 unfold dx;rw[if_neg (by omega),if_neg (by rw[d];decide),if_pos (List.all_eq_true.2 b)]
theorem WL(a:Nat):BU (CF a)=108:=by unfold BU CF;rw[EP];rfl
theorem sK {d:List Pr}{b:ba}{i:iO}(s:Sorted d)(j:b.beside i)(e g:Nat)(h:A2P):BQ (cM d (Dq b++b.aq)) (FC e g h)=BQ d (FC e g h):=by
 have f:Ae (CF e) (cM d (Dq b++b.aq))=Ae (CF e) d:=Jv s λk l m=>by
  have c:=(congrArg BU m).trans (WL e);rcases List.mem_append.1 l with a|a
  ·unfold Dq at a;rcases List.mem_append.1 a with a|a
   ·obtain⟨f,_,rfl⟩:=List.mem_map.1 a;rw[show BU (Oj b.wid f).key=104 from Uh _ _] at c;exact absurd c (by decide)
   ·split at a
    ·cases a
    ·rw[List.mem_singleton.1 a] at c;rw[show BU (Kk b.wid)=119 from FY _] at c;exact absurd c (by decide)
  ·exact j.kQ k a c
 rw[UR,UR];unfold Gc;rw[f]
end Go.Lf.G
