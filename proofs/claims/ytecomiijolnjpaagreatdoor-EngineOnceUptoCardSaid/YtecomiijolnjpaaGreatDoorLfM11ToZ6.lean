/-
 The skip list: putting.
-/
import Derived.Test.YtecomiijolnjpaaGreatDoorLfY6ToM10
import Derived.Test.YtecomiijolnjpaaGreatDoorLfU2ToY5
import Derived.Test.YtecomiijolnjpaaGreatDoorLfAToH
import Derived.Lib.AppendZerosOnto
import Derived.Lib.Overlaps
import Derived.Laws.IdiomCopy
import Derived.Laws.Externs
set_option maxRecDepth 100000
set_option linter.unusedVariables false
set_option linter.unusedSimpArgs false
open Go.IntKind renaming i64→J9,wrap→J8
open Go.Value renaming string→J7,int→J6,pointer→J5,slice→J4,bool→J3,tuple→J1
open Go.Obj renaming cells→J2
open Go renaming Value→J0,Addr→Q6,TypeId→Q7,FuncId→Q8,Program→Q1
open Go.Addr renaming add→Q9,mk→Q5
namespace Go.Lf.G.M
open Go Go.Lf Go.Lf.G
theorem AOG {z:Int}(b: -9223372036854775808<=z)(c:z<=9223372036854775807):J8 J9 z=z:=by
 have a:J8 J9 z=if z % 18446744073709551616>=9223372036854775808 then z % 18446744073709551616-18446744073709551616 else z % 18446744073709551616:=by simp[J8,IntKind.bits,IntKind.signed]
 rw[a];split<;>omega
theorem aF {a:Q6}{K:Q6->Prop}(b:K a):At (some a) K:=b
theorem AMn {l:ak}{c:aa}{key:A2P}{h:A2O}(t:key.size<=64)(n: ∀d:Nat,1<=d->d<=12->h (J6 J9 (d:Int)) c):AA l P Rw #[J7 key] c h:=by
 refine AEm ?_;unfold XI;refine Loop.rule (λm x e=> ∃(i:Nat) (a:Int),x=(a,(i:Int),())/\e=c/\m=key.size-i/\i<=key.size) ?_ ⟨0,2166136261,rfl,rfl,rfl,by omega⟩;rintro K m _ e ⟨i,a,rfl,f,rfl,u⟩ o;subst f;refine ae.intro (λb=>?_) (λb=>?_)
 ·have v:i<key.size:=by simp at b;omega
  refine⟨⟨by show(0:Int)<=(i:Int);omega,by show(i:Int)<_;omega⟩,o (key.size-(i+1)) _ _ (by omega) ⟨i+1,_,by rw[AZ (by omega)],rfl,rfl,by omega⟩⟩
 ·refine Loop.rule (λm x g=> ∃(i:Nat) (a:Int),x=(a,(i:Int),())/\g=e/\m=12-i/\1<=i/\i<=12) ?_ ⟨1,_,rfl,rfl,rfl,by omega,by omega⟩;rintro w m _ g ⟨i,a,rfl,f,rfl,p,q⟩ r;subst f;refine ah.mk λs j=>?_
  have k:s (false,()) g:=j _ _ (ae.no rfl (n i p q));refine ae.intro (λb=>?_) (λb=>k);have y:i<12:=by simp at b;omega
  cases z:((Gb .u32 a (3:Int))==(0:Int))
  ·exact k
  ·exact j _ _ (ae.yes rfl (r (12-(i+1)) _ _ (by omega) ⟨i+1,_,by rw[AZ (by omega)],rfl,rfl,by omega,by omega⟩))
theorem OD(i:Nat)(a b:List DC):Cw i (a++b)=(Cw i a).or (Cw i b):=by unfold Cw;rw[List.find?_append];cases a.find? (λx=>decide (i<x.ht))<;>rfl
theorem AHb {i:Nat}{l:List DC}(a: ∀x∈l,x.ht<=i):Cw i l=none:=by unfold Cw;rw[List.find?_eq_none.2 (λx b=>by have:=a x b;simp;omega)];rfl
theorem AKC {i:Nat}{l:List DC}{x:DC}(b:x∈l)(d:i<x.ht): ∃a,Cw i l=some a:=by
 cases c:Cw i l with
 |some a=>exact⟨a,rfl⟩
 |none=>have:=XZ c x b;omega
theorem R3 {ns:List DC}(c: ∀x∈ns,1<=x.ht/\x.ht<=12)(p:Nat):Cw 0 (ns.drop p)=(ns[p]?).map λx=>⟨x.af,0,none⟩:=by
 cases a:ns[p]? with
 |none=>rw[A06 (List.getElem?_eq_none_iff.1 a)];rfl
 |some x=>
  have b:=List.getElem?_eq_some_iff.1 a;rw[Fk b.1,b.2];have:=(c x (AF a)).1;unfold Cw;rw[DO];simp[GC Nat.zero_lt_one this]
def eQ(nx:Nat->Nat->Q2)(p i:Nat)(v:Q2):Nat->Nat->Q2:=λa b=>if a=p/\b=i then v else nx a b
theorem KD {p:Pr}{f g:Nat->Q2}(a: ∀i,f i=g i):FC p f=FC p g:=by rw[show f=g from funext a]
theorem XB {a b:Int}{f g:Nat->Q2}(c: ∀i,f i=g i):Dc f a b=Dc g a b:=by rw[show f=g from funext c]
theorem Lay.store {e:aa}{t:Nat}{ns:List DC}{nx:Nat->Nat->Q2}{s u:Int}(l:Lay e t ns nx s u){p i:Nat}(C:p<=ns.length)(z:i<12){v:Q2}{K:aa->Prop}
  (w: ∀c,Lay c t ns (eQ nx p i v) s u->Mod (cQ t ns) e c->c.size=e.size->K c):ab e (((addrAt t ns p).add 3).add (i*1)) (J5 v) K:=by
 rw[add_add,By];cases p with
 |zero=>
  show ab e ((⟨t,0,none⟩:Q6).add (3+i)) _ _;rw[BZ,AK];refine ab.mk l.head (by rw[cU];omega) λc d m o=>w c ⟨?_,λj x a=>⟨?_,(l.node j x a).2⟩,l.apart⟩ (m.ai λb _ d=> .inl d) o
  ·rw[d,AOg z,XB (g:=eQ nx 0 i v 0) (λh=>by simp[eQ])]
  ·rw[m.get _ (Af (l.node j x a).1) (l.node j x a).2,(l.node j x a).1,KD (g:=eQ nx 0 i v (j+1)) (λh=>by simp[eQ])]
 |succ p=>
  have k:=A2 (l:=ns) (i:=p) (by omega);have f:addrAt t ns (p+1)=⟨ns[p].af,0,none⟩:=by simp[addrAt,k]
  rw[f,BZ,AK];obtain⟨A,B⟩:=l.node p _ k;refine ab.mk A (by rw[Qv];omega) λc d m o=>w c ⟨?_,λj x a=>⟨?_,(l.node j x a).2⟩,l.apart⟩ (m.ai λb _ d=> .inr ⟨_,AF k,d.symm⟩) o
  ·rw[m.get _ (Af l.head) (λf=>B f.symm),l.head,XB (g:=eQ nx (p+1) i v 0) (λh=>by simp[eQ])]
  ·by_cases q:j=p
   ·subst q;rw[k] at a;cases a;rw[d,ui,KD (g:=eQ nx (j+1) i v (j+1)) (λh=>by simp[eQ])]
   ·have hd:x.af≠ns[p].af:=by
     have n:=List.getElem?_eq_some_iff.1 a;have y:=List.pairwise_iff_getElem.1 l.apart;rcases MD q with r|r
     ·have:=y j p n.1 (by omega) r;rw[n.2] at this;exact this
     ·have:=y p j (by omega) n.1 r;rw[n.2] at this;exact λf=>this f.symm
    rw[m.get _ (Af (l.node j x a).1) hd,(l.node j x a).1,KD (g:=eQ nx (p+1) i v (j+1)) (λh=>by simp[eQ,q])]
def EP(l:List Pr):Nat:=(l.map λx=>x.key.size+x.val.size).sum
structure cT (h:aa) (t:Nat) (ns:List DC) (l:List Pr):Prop where
 lay: ∃nx,Lay h t ns nx (l.length:Int) (EP l:Int)/\jW ns nx
 bZ:bZ ns=l
 sorted:Sorted l
 aO:Be l
theorem cT.mod {a c:aa}{t:Nat}{ns:List DC}{l:List Pr}{d:Nat->Prop}(T:cT a t ns l)(m:Mod d a c)(e: ∀b,cQ t ns b-> ¬d b):cT c t ns l:=by obtain⟨nx,L,K⟩:=T.lay;exact⟨⟨nx,L.mod m e,K⟩,T.bZ,T.sorted,T.aO⟩
theorem cT.ext {a b:aa}{t:Nat}{ns:List DC}{l:List Pr}(T:cT a t ns l)(m:Ext a b):cT b t ns l:=T.mod m λ_ _ a=>a
theorem cT.lt {a:aa}{t:Nat}{ns:List DC}{l:List Pr}(T:cT a t ns l){b:Nat}(c:cQ t ns b):b<a.size:=by obtain⟨nx,L,_⟩:=T.lay;exact L.lt c
theorem rQ {d:ak}{a:aa}{c:A2O}(e: ∀b,cT b a.size [] []->Ext a b->b.size=a.size+1->c (J5 (some ⟨a.size,0,none⟩)) b):AA d P QI #[] a c:=by
 refine AKj ?_;unfold tW;refine al.mk λf _ g h j=>e f ⟨⟨λ_ _=>none,⟨g,λl x a=>by simp at a,List.Pairwise.nil⟩,⟨λp i k m _=>?_,λx a=>by cases a⟩⟩,rfl,List.Pairwise.nil,λx a=>by cases a⟩ h j
 have:p=0:=by simpa using k
 subst this;rfl
theorem NY(l m:List Pr):EP (l++m)=EP l+EP m:=by simp[EP,List.sum_append]
theorem Re(x:Pr)(l:List Pr):EP (x::l)=x.key.size+x.val.size+EP l:=by simp[EP]
theorem AKb {l:List Pr}(g:Be l):EP l<=l.length*8256:=by
 induction l with
 |nil=>simp[EP]
 |cons x l b=>
  have f:=b λc d=>g c (by simp[d])
  have a:=g x (by simp);have h:x.key.size<=64/\x.val.size<=8192:=by
   unfold Am at a;split at a
   ·cases a
   ·split at a
    ·cases a
    ·rename_i e;simp at e;omega
  rw[Re,A6,BW];omega
theorem uk {x:Pr}(a:Am x=0):x.key.size<=64/\x.val.size<=8192:=by
 unfold Am at a;split at a
 ·cases a
 ·split at a
  ·cases a
  ·rename_i b;simp at b;omega
theorem AMM {p a:Pr}{nx:Nat->Q2}:(((FC p nx).setIfInBounds 0 (J7 a.key)).setIfInBounds 1 (J7 a.val)).setIfInBounds 2 (J3 a.gone)=FC a nx:=by apply Array.toList_inj.1;rw[Fm,Fm,Fm];rfl
theorem gz.zero {ns:List DC}{key:A2P}{p:Nat}(d: ∀x∈ns,1<=x.ht/\x.ht<=12)(b:Us ns key 0 p):p=aV key (bZ ns):=by
 rcases G0 p (aV key (bZ ns)) with a|a
 ·have e:=Xw key ns;have c:=A2 (l:=ns) (i:=p) (by omega);have f:=b.last p _ (A0 _) a c;have g:=d _ (AF c);omega
 ·have:=b.le;omega
def fS(nx:Nat->Nat->Q2)(c:Nat->Nat)(b:Q6)(i:Nat):Nat->Nat->Q2:=λp a=>if a<i/\p=c a then some b else nx p a
def jx(nx:Nat->Nat->Q2)(b:Nat->Nat)(i:Nat):Nat->Q2:=λa=>if a<i then nx (b a) a else none
def gA(nx:Nat->Nat->Q2)(c:Nat->Nat)(b:Q6)(d a:Nat):Nat->Nat->Q2:=λp i=>if p<=a then fS nx c b d p i else if p=a+1 then jx nx c d i else fS nx c b d (p-1) i
theorem nh {c:Type}{ns:List c}{x:c}{a b:Nat}(f:a<=ns.length):(ns.take a++x::ns.drop a)[b]? =if b<a then ns[b]? else if b=a then some x else ns[b-1]? :=by
 split
 ·rename_i d;rw[Fc (by simp;omega),Jx d]
 ·rename_i d;rw[DE (by simp;omega)];simp only[AH,GF f];split
  ·rename_i e;subst e;simp
  ·rename_i e;rw[show b-a=(b-a-1)+1 by omega,PC,Bm];congr 1;omega
theorem AN9 {b:Type}{ns:List b}{x:b}{a p:Nat}(c:a<=ns.length)(d:p<=a):(ns.take a++x::ns.drop a).drop p=(ns.take a).drop p++x::ns.drop a:=by rw[MT (by simp;omega)]
theorem AMN {b:Type}{ns:List b}{x:b}{a p:Nat}(c:a<=ns.length)(d:a<p):(ns.take a++x::ns.drop a).drop p=ns.drop (p-1):=by rw[R0,A06 (by simp;omega),CI];simp only[AH,GF c];rw[show p-a=(p-a-1)+1 by omega,HM,HN];congr 1;omega
theorem jW.insert {ns:List DC}{nx:Nat->Nat->Q2}{key:A2P}(K:jW ns nx){e:Nat->Nat}(t: ∀i,i<12->Us ns key i (e i)){x:DC}(E:1<=x.ht/\x.ht<=12):
  jW (ns.take (aV key (bZ ns))++x::ns.drop (aV key (bZ ns))) (gA nx e ⟨x.af,0,none⟩ x.ht (aV key (bZ ns))):=by
 have q:=Xw key ns;generalize m:aV key (bZ ns)=a at*
 refine⟨λp i L j d=>?_,λg c=>?_⟩
 ·unfold gA;split
  ·rename_i y;have s:i<SX ns p:=by
    cases p with
    |zero=>exact j
    |succ p=>
     unfold SX at d ⊢;simp only at d ⊢;rw[nh q,if_pos (by omega)] at d;exact d
   have z:=K.link p i (by omega) j s;have A:ns.drop p=(ns.take a).drop p++ns.drop a:=by rw[<- MT (by simp;omega),DG]
   have h:=t i j;rw[AN9 q y,OD];unfold fS;by_cases n:i<x.ht
   ·have F:Cw i (x::ns.drop a)=some ⟨x.af,0,none⟩:=by unfold Cw;rw[DO];simp[n]
    rw[F];by_cases u:p=e i
    ·rw[if_pos ⟨n,u⟩,AHb λg c=>?_]
     ·rfl
     ·obtain⟨v,B,G⟩:=DA c;simp at B;have M:(ns.take a).drop p=(ns.take a).drop p:=rfl;refine h.last (p+v) g (by omega) (by rw[m];omega) ?_;have:((ns.take a).drop p)[v]? =some g:=by rw[A2 (by simp;omega),G]
      rw[Bm,Jx (by omega)] at this;exact this
    ·rw[if_neg (λf=>u f.2),z,A,OD];have H:p<e i:=by
      rcases HP p (e i) with f|f|f
      ·exact f
      ·exact absurd f u
      ·exfalso;cases p with
       |zero=>omega
       |succ p=>
        have r:=A2 (l:=ns) (i:=p) (by omega);have N:=h.last p _ (by omega) (by rw[m];omega) r;simp[SX,r] at s;omega
     have o:=h.le;rw[m] at o;have w:=h.ht;obtain⟨b,I⟩: ∃b,e i=b+1:=⟨e i-1,by omega⟩;rw[I] at w H o;have r:=A2 (l:=ns) (i:=b) (by omega);simp[SX,r] at w;have J:ns[b]∈(ns.take a).drop p:=by refine AF (i:=b-p) ?_;rw[Bm,Jx (by omega),show p+(b-p)=b by omega,r]
     obtain⟨g,c⟩:=AKC J w;rw[c];rfl
   ·rw[if_neg (λf=>n f.1),z,A,OD];have:Cw i (x::ns.drop a)=Cw i (ns.drop a):=by unfold Cw;rw[DO];simp[n]
    rw[this]
  ·rename_i y;rw[AMN q (by omega)];split
   ·rename_i C;subst C;have n:i<x.ht:=by unfold SX at d;simp only at d;rw[nh q,if_neg (by omega),if_pos rfl] at d;exact d
    have h:=t i j;have o:=h.le;rw[m] at o;unfold jx;rw[if_pos n,K.link (e i) i (by omega) j h.ht,AF2 (k:=a-e i) (by simp;omega) λv g B c=>?_]
    ·rw[HN];congr 2;omega
    ·rw[Bm] at c;exact h.last _ g (by omega) (by rw[m];omega) c
   ·rename_i C;obtain⟨b,rfl⟩: ∃b,p=b+1:=⟨p-1,by omega⟩;rw[JT];have O:(ns.take a++x::ns.drop a).length=ns.length+1:=by simp;omega
    have s:i<SX ns b:=by unfold SX at d;simp only at d;rw[nh q,if_neg (by omega),if_neg (by omega)] at d;obtain⟨D,rfl⟩: ∃D,b=D+1:=⟨b-1,by omega⟩;unfold SX;simpa using d
    have o:=(t i j).le;rw[m] at o;unfold fS;rw[if_neg (λf=>by omega)];exact K.link b i (by omega) j s
 ·rw[Fl,HD] at c;rcases c with c|rfl|c
  ·exact K.ht g (DM c)
  ·exact E
  ·exact K.ht g (HQ c)
set_option maxHeartbeats 1000000 in
theorem rR {bU:ak}{s:aa}{t:Nat}{ns:List DC}{l:List Pr}{x:Pr}{au:A2O}(T:cT s t ns l)(cK:l.length<1099511627776)
  (av: ∀bc aw,cT aw t bc (Cs x l)->Mod (cQ t ns) s aw->(∀ b,cQ t bc b->cQ t ns b\/s.size<=b)->au (J6 J9 (Am x)) aw):
  AA bU P Jy #[J5 (some ⟨t,0,none⟩),.agg #[J7 x.key,J7 x.val,J3 x.gone]] s au:=by
 refine Yy ?_;unfold R4;refine al.mk λf _ u ax cL=>?_
 have bd:=T.ext ax;have ay:Am x≠0->au (J6 J9 (Am x)) f:=λw=>av ns f (by simpa [Cs,w] using bd) ax.mod (λb u=> .inl u)
 refine ah.mk λK az=>?_
 have aA:(decide (x.key=⟨#[]⟩)||(x.gone&& !decide (x.val=⟨#[]⟩)))=true->K (true,()) f:=λk=>az _ _ (ae.yes rfl (by
  have w:Am x=1:=by unfold Am;rw[if_pos k]
  have:=ay (by rw[w];decide);rw[w] at this;exact this))
 have be:(decide (x.key=⟨#[]⟩)||(x.gone&& !decide (x.val=⟨#[]⟩)))=false->K (false,()) f:=λk=>az _ _ (ae.no rfl (by
  refine ah.mk λbf aC=>?_
  have aD:(decide (x.key.size>64)||decide (x.val.size>8192))=true->bf (true,()) f:=λaE=>aC _ _ (ae.yes rfl (by
   have w:Am x=2:=by unfold Am;rw[if_neg (by simp[k]),if_pos aE]
   have:=ay (by rw[w];decide);rw[w] at this;exact this))
  have bV:(decide (x.key.size>64)||decide (x.val.size>8192))=false->bf (false,()) f:=λaE=>aC _ _ (ae.no rfl (by
   have w:Am x=0:=by unfold Am;rw[if_neg (by simp[k]),if_neg (by simp[aE])]
   have bW:=uk w;clear aA aC az aD ay;obtain⟨nx,aG,E⟩:=bd.lay;have Y:Cs x l=ins x l:=Qa w;have bg:=PQ (x:=x) T.sorted;have bh:=uq (x:=x) T.aO;have F:=T.bZ;have bX:Sorted (bZ ns):=by rw[F];exact T.sorted
   have cM:ns.length=l.length:=by rw[<- F];simp
   have cN:=AKb T.aO;refine AJ.mk (AL u rfl) ?_;refine Zm aG E bX λj I r Z=>⟨_,_,_,_,_,_,_,_,_,_,_,_,rfl,?_⟩
   have aH:=gz.zero E.ht (r 0 (by omega));have bi:=aG.ext Z;refine al.mk λbY _ b0 b1 cO=>?_
   have b2:bY[I.size]? =some (J2 (cR (λ_=>none)).toArray Dx (0,0)):=b0;simp only[BZ,AK];refine ab.mk b2 (by simp[BO]) λcP aI bj b3=>?_
   rw[Hw _ rfl] at aI;refine ab.mk aI (by simp[BO]) λcS aJ N b4=>?_
   rw[Hw _ rfl] at aJ;refine ab.mk aJ (by simp[BO]) λcV aK bk b5=>?_
   rw[Hw _ rfl] at aK;refine ab.mk aK (by simp[BO]) λcW aL bm b6=>?_
   rw[Hw _ rfl] at aL;refine ab.mk aL (by simp[BO]) λcX aM bn b7=>?_
   rw[Hw _ rfl] at aM;refine ab.mk aM (by simp[BO]) λcY aN bo b8=>?_
   rw[Hw _ rfl] at aN;refine ab.mk aN (by simp[BO]) λcZ aO bp b9=>?_
   rw[Hw _ rfl] at aO;refine ab.mk aO (by simp[BO]) λc0 aP bq ca=>?_
   rw[Hw _ rfl] at aP;refine ab.mk aP (by simp[BO]) λc1 aQ br cb=>?_
   rw[Hw _ rfl] at aQ;refine ab.mk aQ (by simp[BO]) λc2 aR bs cc=>?_
   rw[Hw _ rfl] at aR;refine ab.mk aR (by simp[BO]) λc3 aS bt cd=>?_
   rw[Hw _ rfl] at aS;refine ab.mk aS (by simp[BO]) λe aT bu ce=>?_
   rw[Hw _ rfl] at aT;have aU:e[I.size]? =some (J2 (cR (λi=>some (addrAt t ns (j i)))).toArray Dx (0,0)):=by rw[aT];congr 3
   have bv:=((((((((((bj.trans N).trans bk).trans bm).trans bn).trans bo).trans bp).trans bq).trans br).trans bs).trans bt).trans bu;have ac:Ext I e:=b1.then (bv.ai λc _ k=> .inr (by omega));have c4:=ac.size;have c5:=Af aU;have c6:=Z.size;clear bv aI aJ aK aL aM aN aO aP aQ aR aS aT bj N bk bm bn bo bp bq br bs bt bu b3 b4 b5 b6 b7 b8 b9 ca cb cc cd ce;have y:=bi.ext ac;have J:e[s.size]? =some (J2 #[J7 x.key,J7 x.val,J3 x.gone] AU (0,0)):=ac.af (Z.af u (by simp)) (by simp);have cf:=Xw x.key ns;have ad:Ext s e:=ax.trans (Z.trans ac);refine⟨by omega,Ab.mk (Ce aU (i:=0) (by omega)) ⟨by omega,Ab.mk (y.next (p:=j 0) (i:=0) (by rw[aH];omega) (by omega)) ?_⟩⟩;have cg:nx (j 0) 0=(ns[aV x.key (bZ ns)]?).map λd=>⟨d.af,0,none⟩:=by rw[E.link (j 0) 0 (by rw[aH];omega) (by omega) (r 0 (by omega)).ht,aH,R3 E.ht]
   rw[cg];have R:BU x.key l=match ns[aV x.key (bZ ns)]? with|some d=>decide (d.pr.key=x.key)|none=>false:=by unfold BU;rw[<- F];rw[show bZ ns=ns.map (·.pr) from rfl,Bk];cases ns[aV x.key (ns.map (·.pr))]? <;>rfl
   generalize aW:aV x.key (bZ ns)=a at*
   have af:aV x.key l=a:=by rw[<- F];exact aW
   have ag:Xp x l=ins x l:=mD x l;refine ah.mk λbw bx=>?_
   have ch: ∀d,ns[a]? =some d->d.pr.key=x.key->bw (true,()) e:=λd n D=>bx _ _ (ae.yes rfl (by
    have G:=List.getElem?_eq_some_iff.1 n;have ci:a<ns.length:=G.1;rw[n];have cj:=y.pair n;have c7:d.pr.key.size=x.key.size:=by rw[D]
    refine AC.mk (AB y.head lB.2) (AJ.mk (AL J rfl) (AJ.mk cj.2.1 ?_));have ck: ∃aX:Nat,EP l=d.pr.key.size+d.pr.val.size+aX/\EP (Cs x l)=x.key.size+x.val.size+aX:=by
     have aY:l=l.take a++d.pr::l.drop (a+1):=by
      have aZ:l[a]? =some d.pr:=by rw[<- F];simp[n]
      have f:=List.getElem?_eq_some_iff.1 aZ;rw[<- f.2,<-Fk f.1,DG]
     have S:Cs x l=l.take a++x::l.drop (a+1):=by rw[Y,<-ag];unfold Xp;rw[R,n,af,if_pos (by simp[D])];simp
     refine⟨EP (l.take a)+EP (l.drop (a+1)),?_,?_⟩
     ·conv=>lhs;rw[aY]
      rw[NY,Re];omega
     ·rw[S,NY,Re];omega
    obtain⟨aX,c8,c9⟩:=ck;have a0:J8 J9 ((EP l:Int)+J8 J9 ((x.val.size:Int)-(d.pr.val.size:Int)))=(EP (Cs x l):Int):=by
     have da:d.pr.val.size<=8192:=(uk (T.aO d.pr (by rw[<- F];exact List.mem_map.2 ⟨d,AF n,rfl⟩))).2;have aY:J8 J9 ((x.val.size:Int)-(d.pr.val.size:Int))=(x.val.size:Int)-(d.pr.val.size:Int):=by exact AOG (by omega) (by omega)
     rw[aY,show(EP l:Int)+((x.val.size:Int)-(d.pr.val.size:Int))=((EP (Cs x l):Nat):Int) by omega];exact Fu (by omega)
    rw[a0];refine aF ?_;rw[BZ,AK];refine ab.mk y.head (by rw[cU];omega) λbz bA ai db=>?_
    rw[uj] at bA;have aj:=y.node a d n;have a1:bz[s.size]? =some (J2 #[J7 x.key,J7 x.val,J3 x.gone] AU (0,0)):=ai.af J (by have:=aG.lt (.inl rfl:cQ t ns t);have:=T.lt (.inl rfl:cQ t ns t);omega);refine AJ.mk (AL a1 rfl) (AJ.mk (AL a1 rfl) (Ac.mk (AL a1 rfl) ?_));have cl:=ai.af aj.1 aj.2;refine aF ?_;refine ab.mk cl (by rw[Qv];omega) λdc cm cn dd=>?_
    rw[BZ,BZ];refine ab.mk cm (by rw[R1,Qv];omega) λde co cp df=>?_
    refine ab.mk co (by rw[R1,R1,Qv];omega) λa2 a3 cq dg=>?_
    simp only[AK] at a3;rw[AMM] at a3;have a4:Mod (λc=>c=d.af) bz a2:=(cn.trans cp).trans cq;have a5:cQ t ns t:= .inl rfl;have bB:cQ t ns d.af:= .inr ⟨d,AF n,rfl⟩;rw[<- w];refine av (ns.set a {d with pr:=x}) a2 ⟨⟨nx,⟨?_,λo z h=>?_,?_⟩,⟨λp i O am bC=>?_,λz h=>?_⟩⟩,?_,bg,bh⟩ ?_ λb u=>?_
    ·have a6:(Cs x l).length=l.length:=by rw[Y,<-ag];unfold Xp;rw[R,n,af,if_pos (by simp[D])];simp;omega
     rw[a6];exact a4.af bA (λq=>aj.2 q.symm)
    ·rw[My] at h;split at h
     ·rename_i H;subst H;simp[G.1] at h;subst h;exact⟨a3,aj.2⟩
     ·rename_i H;have A:=y.node o z h;refine⟨?_,A.2⟩;refine a4.af (ai.af A.1 A.2) ?_;have f:=List.getElem?_eq_some_iff.1 h;have bD:=List.pairwise_iff_getElem.1 y.apart;rcases MD H with a7|a7
      ·have:=bD a o G.1 f.1 a7;rw[f.2,G.2] at this;exact λq=>this q.symm
      ·have:=bD o a f.1 G.1 a7;rw[f.2,G.2] at this;exact this
    ·have q:(ns.set a {d with pr:=x}).map (·.af)=ns.map (·.af):=by
      rw[R2];apply List.ext_getElem?;intro o;rw[My];split
      ·rename_i H;subst H;simp[G.1,G.2]
      ·rfl
     have f:(ns.map (·.af)).Pairwise (· ≠ ·):=List.pairwise_map.2 y.apart;rw[<- q] at f;exact List.pairwise_map.1 f
    ·rw[Rg] at O;have cr:SX (ns.set a {d with pr:=x}) p=SX ns p:=by
      cases p with
      |zero=>rfl
      |succ p=>
       unfold SX;simp only;rw[My];by_cases H:a=p
       ·subst H;rw[if_pos rfl,if_pos ci,n]
       ·rw[if_neg H]
     rw[cr] at bC;rw[E.link p i O am bC];have key: ∀m:List DC,∀a,m[a]? =some d->Cw i (m.set a {d with pr:=x})=Cw i m:=by
      intro m
      induction m with
      |nil=>intro a s;simp at s
      |cons z m cs=>
       intro a s;cases a with
       |zero=>simp at s;subst s;by_cases hd:i<z.ht<;>simp[Cw,hd]
       |succ a=>
        have:=cs a (by simpa using s);unfold Cw at this ⊢;rw[List.set_cons_succ,DO,DO];split
        ·rfl
        ·exact this
     rcases G0 a p with f|f
     ·rw[List.drop_set_of_lt f]
     ·rw[List.drop_set];rw[if_neg (by omega)];exact(key _ _ (by rw[Bm];rw[<- n];congr 1;omega)).symm
    ·obtain⟨o,L,q⟩:=DA h;rw[List.getElem_set] at q;split at q
     ·subst q;exact E.ht d (AF n)
     ·subst q;exact E.ht _ (AT _)
    ·rw[Y,<-ag];unfold Xp;rw[R,n,af,if_pos (by simp[D])];show(ns.set a {d with pr:=x}).map (·.pr)=_;rw[R2,A0b];have:(ns.map (·.pr))=l:=F;rw[this];have aZ:a<l.length:=by omega
     simp[aZ]
    ·have N:Mod (cQ t ns) e a2:=(ai.ai λc _ k=>by subst k;exact a5).trans (a4.ai λc _ k=>by subst k;exact bB);exact ad.mod.trans N
    ·rcases u with rfl|⟨z,h,rfl⟩
     ·exact .inl (.inl rfl)
     ·obtain⟨o,L,q⟩:=DA h;rw[List.getElem_set] at q;split at q
      ·subst q;exact .inl bB
      ·subst q;exact .inl (.inr ⟨_,AT _,rfl⟩)))
   have bE:BU x.key l=false->bw (false,()) e:=λa5=>bx _ _ (ae.no rfl (by
    refine AJ.mk (AL J rfl) (AJ.mk (AL J rfl) (Ac.mk (AL J rfl) ?_));refine al.mk λbF _ ct an dh=>?_
    have bG:=an.af J (by simp);refine AJ.mk (AL bG rfl) ?_;refine AMn bW.1 λB cu cv=>⟨_,rfl,?_⟩
    have cw:bF[e.size]? =some (J2 (FC x (λ_=>none)) RB (0,0)):=ct;have cx:=y.ext an;have bH: ∀i,i<12->j i<=ns.length:=λi am=>by have:=(r i am).le;rw[aW] at this;omega
    have cy:=an.af aU (by simp);have U: ∀c,cQ t ns c->c<e.size:=λc k=>y.lt k
    have cz: ∀c,cQ t ns c->c<I.size:=λc k=>bi.lt k
    refine Loop.rule (λm d C=> ∃i:Nat,d=((i:Int),())/\m=B-i/\i<=B/\Mod (λc=>cQ t ns c\/c=e.size) bF C/\Lay C t ns (fS nx j ⟨e.size,0,none⟩ i) (l.length:Int) (EP l:Int)/\C[e.size]? =some (J2 (FC x (jx nx j i)) RB (0,0))) ?_
     ⟨0,rfl,rfl,by omega,Mod.refl,?_,?_⟩
    rotate_left
    ·have:fS nx j ⟨e.size,0,none⟩ 0=nx:=by funext p B;simp[fS]
     rw[this];exact cx
    ·have:jx nx j 0=λ_=>none:=by funext B;simp[jx]
     rw[this];exact cw
    rintro cB m _ C ⟨i,rfl,rfl,am,V,M,bI⟩ cC;have di:=V.size;have bJ:C[I.size]? =some (J2 (cR (λi=>some (addrAt t ns (j i)))).toArray Dx (0,0)):=V.af cy (λa8=>a8.elim (λf=>by have:=cz _ f;omega) (λf=>by omega));refine ae.intro (λk=>?_) (λk=>?_)
    ·have bK:i<B:=by simpa using k
     have Q:i<12:=by omega
     have W:(0:Int)<=(i:Int)/\(i:Int)<(12:Int):=⟨by omega,by omega⟩;refine⟨W,?_⟩;show Ab C ⟨I.size,i*1,none⟩ _;rw[By];refine Ab.mk (Ce bJ Q) ⟨W,?_⟩;show Ab C (((addrAt t ns (j i)).add 3).add (i*1)) _;refine Ab.mk (M.next (p:=j i) (i:=i) (bH i Q) Q) ⟨W,?_⟩;have cD:fS nx j ⟨e.size,0,none⟩ i (j i) i=nx (j i) i:=by simp[fS]
     show ab C ⟨e.size,3+i*1,none⟩ (J5 (fS nx j ⟨e.size,0,none⟩ i (j i) i)) _;rw[cD,By];refine ab.mk bI (by rw[Qv];omega) λbL bM a9 dj=>?_
     rw[ui] at bM;have cE:=M.mod a9 (λc k q=>by have:=U c k;omega);refine⟨W,?_⟩;show Ab bL ⟨I.size,i*1,none⟩ _;rw[By];refine Ab.mk (Ce (a9.af bJ (by omega)) Q) ⟨W,?_⟩;show ab bL (((addrAt t ns (j i)).add 3).add (i*1)) (J5 (some ⟨e.size,0,none⟩)) (λbN=>cB (J8 J9 ((i:Int)+(1:Int)),()) bN);refine cE.store (p:=j i) (i:=i) (bH i Q) Q (v:=some ⟨e.size,0,none⟩) (λbN bO bP dk=>?_)
     ·refine cC (B-(i+1)) _ _ (by omega) ⟨i+1,by rw[AZ (by omega)],rfl,by omega,(V.trans (a9.ai λc _ k=> .inr k)).trans (bP.ai λc _ k=> .inl k),?_,?_⟩
      ·have:eQ (fS nx j ⟨e.size,0,none⟩ i) (j i) i (some ⟨e.size,0,none⟩)=fS nx j ⟨e.size,0,none⟩ (i+1):=by
        funext p o;unfold eQ fS;by_cases L:o=i
        ·subst L;by_cases O:p=j o<;>simp[O]
        ·by_cases O:p=j o<;>simp[O,L,Nat.lt_succ_iff,Nat.le_iff_lt_or_eq]
       rw[this] at bO;exact bO
      ·rw[bP.af bM (λk=>by have:=U _ k;omega),KD (g:=jx nx j (i+1)) (λo=>?_)];unfold jx;by_cases L:o=i
       ·subst L;simp
       ·simp[L,Nat.lt_succ_iff,Nat.le_iff_lt_or_eq]
    ·have bK:i=B:=by simp at k;omega
     subst bK;refine AC.mk (AB M.head lB.1) ?_;refine aF ?_;rw[BZ,AK];refine ab.mk M.head (by rw[cU];omega) λdl ba bQ dm=>?_
     rw[AMC] at ba;have ao:cQ t ns t:= .inl rfl;have dn:=T.lt ao;have cF:C[s.size]? =some (J2 #[J7 x.key,J7 x.val,J3 x.gone] AU (0,0)):=V.af bG (λa8=>a8.elim (λf=>by have:=T.lt f;omega) (λf=>by omega));have bR:=bQ.af cF (by omega);refine aF ?_;rw[BZ,AK];refine AC.mk (AL ba lB.2) (AJ.mk (AL bR rfl) (AJ.mk (AL bR rfl) (aF ?_)));rw[BZ,AK];refine ab.mk ba (by rw[cU];omega) λap bb cG dp=>?_
     rw[uj] at bb;have S:Cs x l=l.take a++x::l.drop a:=by rw[Y,<-ag];unfold Xp;rw[a5,af];simp
     have dq:EP (Cs x l)=EP l+(x.key.size+x.val.size):=by
      rw[S,NY,Re];have:EP l=EP (l.take a)+EP (l.drop a):=by rw[<- NY,DG]
      omega
     have a6:(Cs x l).length=l.length+1:=by rw[S];simp;omega
     have a0:J8 J9 ((l.length:Int)+(1:Int))=((Cs x l).length:Int):=by rw[a6];exact AZ (by omega)
     have cH:J8 J9 ((EP l:Int)+J8 J9 ((x.key.size:Int)+(x.val.size:Int)))=(EP (Cs x l):Int):=by rw[show((x.key.size:Int)+(x.val.size:Int))=((x.key.size+x.val.size:Nat):Int) by omega,Fu (by omega),show(EP l:Int)+((x.key.size+x.val.size:Nat):Int)=((EP (Cs x l):Nat):Int) by omega];exact Fu (by omega)
     rw[a0,cH] at bb;have mt:Mod (λc=>c=t) C ap:=bQ.trans cG;have cI:=mt.af bI (by have:=U _ ao;omega);rw[<- w];refine av (ns.take a++⟨e.size,x,i⟩::ns.drop a) ap ⟨⟨gA nx j ⟨e.size,0,none⟩ i a,⟨?_,λo z h=>?_,?_⟩,?_⟩,?_,bg,bh⟩ ?_ λb u=>?_
     ·rw[bb,XB (g:=gA nx j ⟨e.size,0,none⟩ i a 0) (λB=>?_)];simp[gA]
     ·rw[nh cf] at h;split at h
      ·rename_i cJ;have A:=M.node o z h;refine⟨?_,A.2⟩;rw[mt.af A.1 A.2,KD (g:=gA nx j ⟨e.size,0,none⟩ i a (o+1)) (λB=>?_)];unfold gA;rw[if_pos (by omega)]
      ·rename_i cJ;split at h
       ·rename_i bS;subst bS;cases h;refine⟨?_,by have:=U _ ao;show e.size≠t;omega⟩;show ap[e.size]? =_;rw[cI,KD (g:=gA nx j ⟨e.size,0,none⟩ i o (o+1)) (λB=>?_)];unfold gA;rw[if_neg (by omega),if_pos rfl]
       ·rename_i bS;obtain⟨aq,rfl⟩: ∃aq,o=aq+1:=⟨o-1,by omega⟩;rw[JT] at h;have A:=M.node aq z h;refine⟨?_,A.2⟩;rw[mt.af A.1 A.2,KD (g:=gA nx j ⟨e.size,0,none⟩ i a (aq+1+1)) (λB=>?_)];unfold gA;rw[if_neg (by omega),if_neg (by omega),JT]
     ·have f:=M.apart;have bT: ∀z∈ns,z.af≠e.size:=λz h q=>by have:=U z.af (.inr ⟨z,h,rfl⟩);omega
      rw[<- DG a ns] at f;rw[List.pairwise_append] at f ⊢;refine⟨f.1,List.pairwise_cons.2 ⟨λz h=>λq=>bT z (HQ h) q.symm,f.2.1⟩,λd n z h=>?_⟩;rcases List.mem_cons.1 h with rfl|h
      ·exact bT d (DM n)
      ·exact f.2.2 d n z h
     ·have:=E.insert (key:=x.key) r (x:=⟨e.size,x,i⟩) ⟨cu,cv⟩;rw[aW] at this;exact this
     ·show(ns.take a++⟨e.size,x,i⟩::ns.drop a).map (·.pr)=_;have:(ns.map (·.pr))=l:=F;rw[S,<-this];simp[List.map_take,List.map_drop]
     ·have N:Mod (λc=>cQ t ns c\/c=e.size) e ap:=(an.mod.trans V).trans (mt.ai λc _ k=>by subst k;exact .inl ao);exact ad.mod.then (N.ai λc _ k=>k.elim .inl λf=> .inr (by have:=ad.size;omega))
     ·rcases u with rfl|⟨z,h,rfl⟩
      ·exact .inl (.inl rfl)
      ·rw[Fl,HD] at h;rcases h with h|rfl|h
       ·exact .inl (.inr ⟨z,DM h,rfl⟩)
       ·exact .inr (by have:=ad.size;exact this)
       ·exact .inl (.inr ⟨z,HQ h,rfl⟩)))
   cases n:ns[a]? with
   |none=>
    refine ae.no rfl (bE ?_);rw[R,n]
   |some d=>
    refine ae.yes rfl ?_;refine AJ.mk (y.pair n).1 (AJ.mk (AL J rfl) ?_);rw[CP];by_cases D:d.pr.key=x.key
    ·rw[decide_eq_true D];exact ch d n D
    ·rw[decide_eq_false D];exact bE (by rw[R,n];simp[D])))
  refine AJ.mk (AL u rfl) ?_;refine ae.intro (λr=>?_) (λr=>?_)
  ·exact aD (by simp at r;simp;omega)
  ·refine AJ.mk (AB u rfl) ?_;simp at r;cases X:decide ((x.val.size:Int)>(8192:Int))
   ·exact bV (by simp at X;simp;omega)
   ·exact aD (by simp at X;simp;omega)))
 refine ae.no rfl ?_;refine AJ.mk (AL u rfl) ?_;rw[CP];refine ae.intro (λr=>?_) (λr=>?_)
 ·exact aA (by simp at r;simp[r])
 ·refine Ac.mk (AB u rfl) ?_;simp at r;refine ae.intro (λar=>?_) (λar=>?_)
  ·refine AJ.mk (AB u rfl) ?_;rw[CP];cases X:(!decide (x.val=⟨#[]⟩))
   ·exact be (by simp[r,ar,X])
   ·exact aA (by simp[r,ar,X])
  ·exact be (by simp[r,ar])
theorem rO {c:ak}{a:aa}{t:Nat}{ns:List DC}{l:List Pr}{b:A2O}(T:cT a t ns l)(d:b (J1 #[J6 J9 (l.length:Int),J6 J9 (EP l:Int)]) a):AA c P Jw #[J5 (some ⟨t,0,none⟩)] a b:=by obtain⟨nx,L,_⟩:=T.lay;refine AAD ?_;unfold SC;refine ae.no rfl ?_;exact AC.mk (AB L.head lB.1) (AC.mk (AB L.head lB.2) d)
def UL:Pr:=⟨⟨#[]⟩,⟨#[]⟩,false⟩
def Mo(key:A2P)(l:List Pr):Pr×Bool:=match l[aV key l]? with|some a=>if a.key=key then(a,true) else(UL,false)|none=>(UL,false)
theorem three {a:aa}{b:Nat}{T:Q7}{j k l:J0}{f v:A2P}{g:Bool}{K:aa->Prop}(m:a[b]? =some (J2 #[j,k,l] T (0,0)))
  (n: ∀d,d[b]? =some (J2 #[J7 f,J7 v,J3 g] T (0,0))->Mod (λc=>c=b) a d->K d):
  ab a ⟨b,0,none⟩ (J7 f) λh=>ab h ((⟨b,0,none⟩:Q6).add 1) (J7 v) λi=>ab i ((⟨b,0,none⟩:Q6).add 2) (J3 g) λe=>K e:=by
 refine ab.mk m (by simp) λh o p u=>?_
 rw[BZ,BZ];refine ab.mk o (by simp) λi q r w=>?_
 refine ab.mk q (by simp) λe s t x=>?_
 exact n e (by simpa using s) ((p.trans r).trans t)
theorem uo {c d:aa}{t:Nat}{ns:List DC}{nx:Nat->Nat->Q2}{g h:Int}{key:A2P}{a:Nat->Nat}(L:Lay c t ns nx g h)(K:jW ns nx)(e: ∀i,i<12->Us ns key i (a i))(x:Ext c d):
  ag d (((addrAt t ns (a 0)).add 3).add (0*1))=some (J5 ((ns[aV key (bZ ns)]?).map λj=>⟨j.af,0,none⟩)):=by
 have b:=gz.zero K.ht (e 0 (by omega));have f:=Xw key ns;have k:=(L.ext x).next (p:=a 0) (i:=0) (by rw[b];exact f) (by omega);rw[k,K.link (a 0) 0 (by rw[b];exact f) (by omega) (e 0 (by omega)).ht,b,R3 K.ht]
theorem AP6 {z:ak}{d:aa}{t:Nat}{ns:List DC}{l:List Pr}{key:A2P}{m:A2O}(T:cT d t ns l)(A: ∀r,Ext d r->m (J1 #[(Mo key l).1.agg,J3 (Mo key l).2]) r):
  AA z P NE #[J5 (some ⟨t,0,none⟩),J7 key] d m:=by
 obtain⟨nx,L,s⟩:=T.lay;refine ZU ?_;unfold SE;refine al.mk λI _ B n J=>ae.no rfl ?_
 have C:Sorted (bZ ns):=by rw[T.bZ];exact T.sorted
 refine Zm (L.ext n) s C λM o D p=>⟨_,_,_,_,_,_,_,_,_,_,_,_,rfl,?_⟩
 refine aF ⟨by omega,Ab.mk (uo (L.ext n) s D p) ?_⟩;have u:=p.af B (by simp);have v:Ext d o:=n.trans p;have E:=L.ext v;have ag:Mo key l=match ns[aV key (bZ ns)]? with|some f=>if f.pr.key=key then(f.pr,true) else(UL,false)|none=>(UL,false):=by unfold Mo;rw[<- T.bZ];rw[show bZ ns=ns.map (·.pr) from rfl,Bk];cases ns[aV key (ns.map (·.pr))]? <;>rfl
 have w: ∀(g:Pr) (b:Bool) a,a[d.size]? =some (J2 #[J7 g.key,J7 g.val,J3 g.gone] AU (0,0))->Mod (λc=>c=d.size) o a->Mo key l=(g,b)->
   (AJ a (⟨d.size,0,none⟩:Q6) λF=>AJ a ((⟨d.size,0,none⟩:Q6).add 1) λG=>Ac a ((⟨d.size,0,none⟩:Q6).add 2) λH=>m (J1 #[.agg #[J7 F,J7 G,J3 H],J3 b]) a):=λg b a e h q=>by
  refine AJ.mk (AL e rfl) (AJ.mk (AB e rfl) (Ac.mk (AB e rfl) ?_));have:=A a (v.then (h.ai λc _ N=> .inr (by omega)));rw[q] at this;exact this
 refine ah.mk λK x=>?_
 have y:Mo key l=(UL,false)->K (false,()) o:=λq=>x _ _ (ae.no rfl (three u λa e h=>w UL false a e h q))
 cases i:ns[aV key (bZ ns)]? with
 |none=>
  rw[i] at ag;exact ae.no rfl (y ag)
 |some f=>
  rw[i] at ag;refine ae.yes rfl (aF ?_);have j:=E.pair i;refine AJ.mk j.1 ?_;rw[CP];by_cases k:f.pr.key=key
  ·rw[decide_eq_true k];refine x _ _ (ae.yes rfl ?_);rw[i];refine aF (AJ.mk j.1 (AJ.mk j.2.1 (Ac.mk j.2.2 ?_)));simp only[k,if_true] at ag;exact three u λa e h=>w f.pr true a e h ag
  ·rw[decide_eq_false k];simp only[k,if_false] at ag;exact y ag
theorem rJ {a c b:J0}:(#[]++ #[a]++ #[c,b]:Array J0)= #[a,c,b]:=rfl
theorem APe {A:ak}{s:aa}{b c t:Nat}{T U:Q7}{fr V:Nat×Nat}{ns:List DC}{l:List Pr}{key:A2P}(f:s[b]? =some (J2 #[J5 (some ⟨t,0,none⟩)] T fr))(I:s[c]? =some (J2 #[J7 key] U V))(j:cT s t ns l):
  EJ A P (.func (.func KI) #[] #[J5 (some ⟨b,0,none⟩),J5 (some ⟨c,0,none⟩)]) (λe=>cQ t ns e\/e=b\/e=c) s (l.drop (aV key l)):=by
 refine⟨?_,_,_,rfl,λW=>by kernel_rfl,λd u W X k h hd hB Y Z=>?_⟩
 ·rintro e (hd|rfl|rfl)
  ·exact j.lt hd
  ·exact Af f
  ·exact Af I
 rw[rJ];refine VP ?_;unfold Oo;have J:=(u b (.inr (.inl rfl))).trans f;have ab:=(u c (.inr (.inr rfl))).trans I;obtain⟨nx,v,o⟩:=j.lay;have L:Lay d t ns nx (l.length:Int) (EP l:Int):=
  ⟨(u t (.inl (.inl rfl))).trans v.head,λa x z=>⟨(u x.af (.inl (.inr ⟨x,AF z,rfl⟩))).trans (v.node a x z).1,(v.node a x z).2⟩,v.apart⟩
 have M: ∀e,cQ t ns e-> ¬k e:=λe ac=>hd e (.inl ac)
 refine Ab.mk (AL J rfl) (ae.no rfl (Ab.mk (AL J rfl) (AJ.mk (AL ab rfl) ?_)));have ad:Sorted (bZ ns):=by rw[j.bZ];exact j.sorted
 refine Zm L o ad λap af q B=>⟨_,_,_,_,_,_,_,_,_,_,_,_,rfl,?_⟩
 refine aF ⟨by omega,Ab.mk (uo L o q B) ?_⟩;have ah:aV key (bZ ns)=aV key l:=by rw[j.bZ]
 have aq:=mz key l;have ar:ns.length=l.length:=by rw[<- j.bZ];simp
 rw[ah];have ai:=hB.bg _ _ _ _ _ Z (B.ai (S':=λb=>¬k b/\d.size<=b) λ_ _ d=>d.elim);refine Loop.rule (λm x w=> ∃(a:Nat) (r:Nat->Prop),x=((ns[aV key l+a]?).map λn=>(⟨n.af,0,none⟩:Q6),())/\m=l.length-(aV key l+a)/\aV key l+a<=l.length/\Mod k d w/\(∀ b,r b->k b\/d.size<=b)/\X a true r w) ?_
  ⟨0,k,rfl,rfl,by omega,B.mod,λb f=> .inl f,ai⟩
 rintro K m _ w ⟨a,r,rfl,rfl,au,y,C,N⟩ aj;have D:(l.drop (aV key l)).length=l.length-aV key l:=by simp
 cases h:ns[aV key l+a]? with
 |none=>
  have:=List.getElem?_eq_none_iff.1 h;refine ae.no rfl ?_;exact⟨rfl,a,true,r,y,C,N,λ_=>by rw[D];omega,by rw[D];omega⟩
 |some n=>
  have av:=(List.getElem?_eq_some_iff.1 h).1;have E:=(L.mod y M).pair h;refine ae.yes rfl (aF (AJ.mk E.1 (AJ.mk E.2.1 (Ac.mk E.2.2 ?_))));have ag:(l.drop (aV key l))[a]? =some n.pr:=by
   rw[Bm];have O:(bZ ns)[aV key l+a]? =some n.pr:=by rw[show bZ ns=ns.map (·.pr) from rfl,Bk,h];rfl
   rw[j.bZ] at O;exact O
  refine EL.mono (Y a n.pr r w ag N) ?_;rintro _ al ⟨g,F,rfl,am,an,Q⟩;have aw:=y.size;have R: ∀b,F b->k b\/d.size<=b:=λb f=>(am b f).elim (C b) λaf=> .inr (by omega)
  have G:Mod k d al:=y.then (an.ai λb _ f=>C b f);refine⟨g,rfl,ae.intro (λq=>?_) (λq=>?_)⟩
  ·have H:g=false:=by simpa using q
   subst H;exact⟨rfl,a+1,false,F,G,R,Q,(λd=>by cases d),by rw[D];omega⟩
  ·have H:g=true:=by simpa using q
   subst H;refine aF ⟨by omega,?_⟩;have S:=(L.mod G M).next (p:=aV key l+a+1) (i:=0) (by omega) (by omega);have ao:addrAt t ns (aV key l+a+1)=⟨n.af,0,none⟩:=by simp[addrAt,h]
   rw[ao,o.link _ 0 (by omega) (by omega) (by have:=(o.ht n (AF h)).1;simp[SX,h];omega),R3 o.ht] at S;refine Ab.mk S ?_;exact aj (l.length-(aV key l+(a+1))) _ _ (by omega) ⟨a+1,F,rfl,rfl,by omega,G,R,Q⟩
theorem rP {A:ak}{a:aa}{t:Nat}{ns:List DC}{l:List Pr}{key:A2P}{f:A2O}(T:cT a t ns l)
  (i: ∀fv d,EJ A P fv (λb=>cQ t ns b\/b=a.size\/b=a.size+1) d (l.drop (aV key l))->Ext a d->d.size=a.size+2->f fv d):AA A P JK #[J5 (some ⟨t,0,none⟩),J7 key] a f:=by
 refine YN ?_;unfold QG;refine al.mk λp _ j k m=>al.mk λg _ n h q=>?_
 have e:Ext a g:=k.trans h;have o:=APe (A:=A) (h.af j (by simp)) n (T.ext e) (key:=key);refine i _ g (o.ai ?_ ?_ (λc _=>rfl)) e (by omega)
 ·rintro b (hd|rfl|rfl)
  ·exact .inl hd
  ·exact .inr (.inl rfl)
  ·exact .inr (.inr m)
 ·rintro b (hd|rfl|rfl)
  ·exact(T.ext e).lt hd
  ·omega
  ·omega
theorem ANN(l:List Pr):aV ⟨#[]⟩ l=0:=by
 have: ∀x:A2P,aQ x ⟨#[]⟩=false:=λx=>by
  have a:(⟨#[]⟩:A2P).toList= []:=by simp[ByteArray.toList_eq]
  unfold aQ;rw[a];cases x.toList<;>rfl
 cases l with
 |nil=>rfl
 |cons x l=>simp[aV,gP,this]
theorem rK(l:List Pr):l.drop (aV ⟨#[]⟩ l)=l:=by rw[ANN];rfl
def qb:Pr:=⟨⟨#[98]⟩,⟨#[49]⟩,false⟩
end Go.Lf.G.M
namespace Go.Lf.G
open Go
open M (aV Ag Sorted Be)
theorem ASX(a b:A2P):(!(aQ a b||bM a b))=aQ b a:=by
 cases c:aQ b a with
 |true=>
  have d:aQ a b=false:=by
   cases e:aQ a b with
   |false=>rfl
   |true=>have:=DJ c e;rw[Bl] at this;cases this
  have e:bM a b=false:=by rw[CP,decide_eq_false_iff_not];rintro rfl;rw[Bl] at c;cases c
  rw[d,e];rfl
 |false=>
  cases d:aQ a b with
  |true=>rfl
  |false=>
   have:=Nk d c;subst this;rw[CP];simp
theorem AGx {a b c:A2P}(e:aQ a b=true)(d:aQ c b=false):aQ a c=true:=by
 cases g:aQ a c with
 |true=>rfl
 |false=>
  cases f:aQ c a with
  |true=>rw[DJ f e] at d;cases d
  |false=>
   have:=Nk g f;subst this;rw[e] at d;cases d
theorem lU {l:List Pr}(c:Sorted l){i a:Nat}{p b:Pr}(d:l[i]? =some p)(e:l[a]? =some b)(f:i<a):aQ p.key b.key=true:=by obtain⟨g,rfl⟩:=List.getElem?_eq_some_iff.1 d;obtain⟨h,rfl⟩:=List.getElem?_eq_some_iff.1 e;exact List.pairwise_iff_getElem.1 c _ _ g h f
structure yt (l:List Pr) (key:A2P) (B:Nat):Prop where
 lt:B<Bh l
 below: ∀(x:Nat) (p:Pr),x<8*B->l[x]? =some p->aQ p.key key=true
 there: ∀(x:Nat) (p:Pr),l[x]? =some p->p.key=key->8*B<=x/\x<8*B+8
theorem ASJ {l:List Pr}{key:A2P}{b:Nat}(i:Sorted l)(o:l≠ [])(u:b<=Bh l)(q: ∀a,a<b->aQ key (Il l (8*a))=false)(r:b<Bh l->aQ key (Il l (8*b))=true):yt l key (b-1):=by
 have v:=vE o;have ag: ∀a,a<Bh l-> ∃g,l[8*a]? =some g/\Il l (8*a)=g.key:=by
  intro a j;have:8*a<l.length:=by unfold Bh at j;omega
  exact⟨l[8*a],A2 this,by unfold Il;rw[A2 this]⟩
 have k: ∀(x:Nat) (p:Pr),x<8*(b-1)->l[x]? =some p->aQ p.key key=true:=by intro x p h c;obtain⟨g,e,f⟩:=ag (b-1) (by omega);have d:=lU i c e h;have:=q (b-1) (by omega);rw[f] at this;exact AGx d this
 refine⟨by omega,k,λx p c f=>⟨?_,?_⟩⟩
 ·apply OK;intro h;have:=k x p h c;rw[f,Bl] at this;cases this
 ·apply Nat.lt_of_not_le;intro h;have w:=(List.getElem?_eq_some_iff.1 c).1;have step: ∀a,8*a<=x->a<Bh l->aQ key (Il l (8*a))=true->False:=by
   intro a j s d;obtain⟨g,e,t⟩:=ag a s;rw[t] at d;rcases G0 (8*a) x with m|m
   ·have:=lU i e c m;have:=DJ d this;rw[f,Bl] at this;cases this
   ·have:8*a=x:=by omega
    rw[this,c] at e;cases e;rw[f,Bl] at d;cases d
  have n:b<Bh l:=by unfold Bh;omega
  exact step b (by omega) n (r n)
theorem AQR {i a:Nat}(b:i+a<=2*1099511627776):J8 J9 ((J8 .u64 (J8 J9 (((i:Nat):Int)+((a:Nat):Int)))).fdiv ((2:Int)^(1:Nat)))=(((i+a) / 2:Nat):Int):=by rw[show((i:Nat):Int)+((a:Nat):Int)=((i+a:Nat):Int) by omega,Fu (by omega),Ba (by omega),QR,Fu (by omega)]
theorem AMz {n:ak}{f:aa}{fv:J0}{c:Nat}{p:Nat->Bool}{o:A2O}(D:c<=1099511627776)(z: ∀i b,i<=b->b<c->p i=true->p b=true)
  (A: ∀i d,i<c->Ext f d->EL n P fv #[J6 J9 (i:Int)] d λv g=>v=J3 (p i)/\Ext d g)
  (B: ∀h g,h<=c->(∀ b,b<h->p b=false)->(h<c->p h=true)->Ext f g->o (J6 J9 (h:Int)) g):AA n P Ph #[J6 J9 (c:Int),fv] f o:=by
 refine ACF ?_;unfold WG;refine Loop.rule (λm x d=> ∃i b:Nat,x=((i:Int),(b:Int),())/\m=b-i/\i<=b/\b<=c/\(∀ a,a<i->p a=false)/\(b<c->p b=true)/\Ext f d) ?_ ⟨0,c,rfl,rfl,by omega,A0 _,λa C=>by omega,λf=>by omega,Mod.refl⟩;rintro K m _ d ⟨i,b,rfl,rfl,k,q,r,s,j⟩ t;dsimp only;refine ae.intro (λl=>?_) (λl=>?_)
 ·have k:i<b:=by simp at l;omega
  rw[AQR (by omega)];refine ah.mk λE u=>?_
  have w:(i+b) / 2<c:=by omega
  refine EL.mono (A _ d w j) ?_;rintro v g ⟨rfl,y⟩;refine⟨_,rfl,ae.intro (λe=>?_) (λe=>?_)⟩
  ·have e:p ((i+b) / 2)=false:=by simpa using e
   refine u _ _ ?_;dsimp only;rw[AZ (by omega)];refine t (b-((i+b) / 2+1)) _ _ (by omega) ⟨(i+b) / 2+1,b,rfl,rfl,by omega,q,λa C=>?_,s,j.trans y⟩;cases f:p a with
   |false=>rfl
   |true=>rw[z a _ (by omega) w f] at e;cases e
  ·have e:p ((i+b) / 2)=true:=by simpa using e
   refine u _ _ ?_;exact t ((i+b) / 2-i) _ _ (by omega) ⟨i,(i+b) / 2,rfl,rfl,by omega,by omega,r,λ_=>e,j.trans y⟩
 ·have k:i=b:=by simp at l;omega
  subst k;exact B i d q r s j
abbrev yu:Q8:=IW
theorem yw {A:ak}{h:aa}{t D m:Nat}{l:List Pr}{f:List UInt8}{key:A2P}{R:A2O}(T:bX h t l f D m)(c:gD (aK (aT l f)) l f)
  (E: ∀d r,yt l key r->Ext h d->R (J6 J9 (r:Int)) d):AA A P Gi #[Az t,J7 key] h R:=by
 refine UC ?_;unfold NK;refine al.mk λe _ F G X=>al.mk λY _ H u Z=>?_
 have w:=Aj u F;have x:=G.trans u;obtain⟨n,ab,y,z,ac,_,_⟩:=(T.ext x).at_;refine Ab.mk (AL w rfl) (aF ?_);refine AY.mk (s:=n) (AL y rfl) ?_;have I:n.len=Bh l:=by rw[z.len,HY]
 have ad:=c.many;have ae:Bh l<=12501:=by unfold Bh;omega
 rw[I];have B: ∀b,b<Bh l-> ∃C,l[8*b]? =some C/\Il l (8*b)=C.key:=by
  intro b o;have:8*b<l.length:=by unfold Bh at o;omega
  exact⟨l[8*b],A2 this,by unfold Il;rw[A2 this]⟩
 refine AMz (p:=λb=>aQ key (Il l (8*b))) (by omega) (λi b af o g=>?_) (λi q m j=>?_) λk J K e L M=>⟨_,rfl,?_⟩
 ·rcases G0 i b with h|h
  ·obtain⟨ag,N,O⟩:=B i (by omega);obtain⟨ah,Q,S⟩:=B b o;have:=lU c.inc N Q (by omega);rw[O] at g;rw[S];exact DJ g this
  ·have:i=b:=by omega
   rw[this] at g;exact g
 ·have U:=EL.func (A:=A) (P:=P) (f:=yu) (first:= #[]) (bK:= #[Az h.size,Az e.size]) (args:= #[J6 J9 (i:Int)]) (h:=q) (R:=λv d=>v=J3 (aQ key (Il l (8*i)))/\Ext q d) (by kernel_rfl) ?_
  ·exact U
  ·show AA A P yu #[J6 J9 (i:Int),Az h.size,Az e.size] q _;refine Rj ?_;unfold LY;refine aF (Ab.mk (AL (Aj j w) rfl) (aF ?_));refine AY.mk (s:=n) (AL (Aj j y) rfl) ?_;refine(z.ext j).idx (RI m) λa ai V=>?_
   rw[As];refine AJ.mk V.str (aF ?_);refine AJ.mk (AL (Aj j H) rfl) ?_;rw[ASX];exact⟨rfl,Mod.refl⟩
 ·have W:(if((J8 J9 (((k:Nat):Int)-(1:Int))):Int)>0 then(J8 J9 (((k:Nat):Int)-(1:Int))) else 0)=((k-1:Nat):Int):=by rw[wrap_i64 (by omega) (by omega)];split<;>omega
  rw[W];exact E J (k-1) (ASJ c.inc c.ne K e L) (x.trans M)
def VO(key:A2P)(l:List Pr):Pr×Bool:=match Ag key l with|some a=>(a,true)|none=>(M.UL,false)
theorem AQi {l:List Pr}(g:Sorted l){p:Pr}(h:p∈l):Ag p.key l=some p:=by
 unfold Ag;cases d:l.find? λe=>decide (e.key=p.key) with
 |none=>
  have:=List.find?_eq_none.1 d p h;simp at this
 |some e=>
  have b:=Ix d;have b:e.key=p.key:=of_decide_eq_true b;obtain⟨i,f⟩:=Ge (ID d);obtain⟨j,c⟩:=Ge h;rcases HP i j with a|a|a
  ·have:=lU g f c a;rw[b,Bl] at this;cases this
  ·subst a;rw[f] at c;exact c
  ·have:=lU g c f a;rw[b,Bl] at this;cases this
theorem yx {l:List Pr}{key:A2P}(a: ∀p∈l,p.key≠key):Ag key l=none:=by unfold Ag;rw[HE];intro p b;simpa using a p b
theorem AQ7 {ai:ak}{d:aa}{t aj F:Nat}{l:List Pr}{f:List UInt8}{key:A2P}{G:A2O}(T:bX d t l f aj F)(q:gD (aK (aT l f)) l f)(am:key.size<=1099511627776)
  (an: ∀O,Ext d O->G (J1 #[(VO key l).1.agg,J3 (VO key l).2]) O):AA ai P Ki #[Az t,J7 key] d G:=by
 refine Ww ?_;unfold PU;refine al.mk λQ _ R A aV=>?_
 have tail: ∀g x,Ext d g->g[d.size]? =some (J2 #[J7 ⟨#[]⟩,J7 ⟨#[]⟩,J3 false] AU (0,0))-> ∀(h:Pr) (b:Bool),VO key l=(h,b)->x=Value.tuple #[.agg #[J7 h.key,J7 h.val,J3 h.gone],J3 b]->
   ∀ {r u:A2P} {v:Bool},r=h.key->u=h.val->v=h.gone->
   ab g (⟨d.size,0,none⟩:Q6) (J7 r) λS=>ab S ((⟨d.size,0,none⟩:Q6).add 1) (J7 u) λU=>ab U ((⟨d.size,0,none⟩:Q6).add 2) (J3 v) λn=>
    AJ n (⟨d.size,0,none⟩:Q6) λao=>AJ n ((⟨d.size,0,none⟩:Q6).add 1) λap=>Ac n ((⟨d.size,0,none⟩:Q6).add 2) λaq=>G (J1 #[.agg #[J7 ao,J7 ap,J3 aq],J3 b]) n:=by
  intro g x w ar h b au aW r u v av aw ax;subst av aw ax;refine ab.mk ar (by simp) λS ay az aX=>?_
  rw[BZ,BZ];refine ab.mk ay (by simp) λU aA aC aY=>?_
  refine ab.mk aA (by simp) λn H aD aZ=>?_
  refine AJ.mk (AL H rfl) (AJ.mk (AL H rfl) (Ac.mk (AL H rfl) ?_));have k:Ext d n:=⟨by have:=w.size;omega,λc aE _=>(aD.get c (by have:=w.size;omega) (by omega)).trans ((aC.get c (by have:=w.size;omega) (by omega)).trans ((az.get c (by have:=w.size;omega) (by omega)).trans (w.get c aE (λd=>d))))⟩;have:=an n k;rw[au] at this;exact this
 refine ah.mk λK aG=>?_
 refine ae.no rfl (aF ?_);obtain⟨a0,aH,I,a1,aI,_,_⟩:=(T.ext A).at_;refine AJ.mk (AB I rfl) ?_;refine y7 am ⟨_,rfl,?_⟩;rw[EN];refine aG _ _ ?_;refine ae.intro (λj=>?_) (λj=>?_)
 ·have j:gC f key=false:=by simpa using j
  have J:Ag key l=none:=yx λp y B=>by
   have:=q.has p y;rw[B,j] at this;cases this
  exact tail Q _ A R M.UL false (by unfold VO;rw[J]) rfl rfl rfl rfl
 ·refine aF (AY.mk (s:=aH) (AB I rfl) ?_);refine yw (T.ext A) q λa2 a hB C=>⟨_,rfl,AB (Aj C I) rfl,?_⟩
  have aJ:((KZ l).map λb=>AX (BJ b))[a]? =some (AX (BJ (Bu l a))):=by simp[KZ,hB.lt]
  refine(aI.ext C).idx aJ λa3 a4 aL=>?_
  rw[As];refine AJ.mk aL.str ?_;have aM: ∀p∈Bu l a,LM p:=λp y=>q.ok p (Pe y)
  have a5:=Qc q.ok hB.lt;refine rf aM (by omega) λps aN V W a6=>⟨_,_,rfl,?_⟩
  have X:ps.len=(Bu l a).length:=V.len;have a7:=QX hB.lt;have Y:=(A.trans C).trans W;have Z:=Aj W (Aj C R);refine Loop.rule (λm x aO=> ∃e:Nat,x=((e:Int),())/\m=(Bu l a).length-e/\e<=(Bu l a).length/\(∀ i p,i<e->(Bu l a)[i]? =some p->p.key≠key)/\Ext aN aO) ?_ ⟨0,rfl,rfl,by omega,λi p F=>by omega,Mod.refl⟩;rintro a8 m _ aP ⟨e,rfl,rfl,a9,ac,o⟩ aQ;dsimp only;refine ae.intro (λj=>?_) (λj=>?_)
  ·have D:e<(Bu l a).length:=by rw[X] at j;simp at j;omega
   have k:(Bu l a)[e]? =some (Bu l a)[e]:=A2 D;have ad:(Bu l a)[e]∈l:=Pe (AT D);generalize (Bu l a)[e]=p at k ad;refine(V.ext o).view.idx k λba bb aR=>?_
   obtain⟨r,u,v⟩:=aR.pair;rw[As];refine AJ.mk r (AJ.mk u (Ac.mk v ?_));refine al.pair λbc aS bd E L be=>?_
   refine AJ.mk (AL E rfl) ?_;refine ae.intro (λz=>?_) (λz=>?_)
   ·rw[CP,decide_eq_true_iff] at z;refine AJ.mk (AL E rfl) (AJ.mk (AB E rfl) (Ac.mk (AB E rfl) ?_));have af:=AQi q.inc ad;rw[z] at af;exact tail aS _ ((Y.trans o).trans L) (Aj L (Aj o Z)) p true (by unfold VO;rw[af]) rfl rfl rfl rfl
   ·rw[CP,decide_eq_false_iff_not] at z;rw[AZ (by omega)];refine aQ ((Bu l a).length-(e+1)) _ _ (by omega) ⟨e+1,rfl,rfl,D,λi h F N=>?_,o.trans L⟩;by_cases aU:i=e
    ·rw[aU,k] at N;cases N;exact z
    ·exact ac i h (by omega) N
  ·have D:e=(Bu l a).length:=by rw[X] at j;simp at j;omega
   have J:Ag key l=none:=yx λp y B=>by
    obtain⟨x,k⟩:=Ge y;obtain⟨Q,bf⟩:=hB.there x p k B;have ag:(Bu l a)[x-8*a]? =some p:=by rw[QE (by omega),show 8*a+(x-8*a)=x by omega];exact k
    have:=(List.getElem?_eq_some_iff.1 ag).1;exact ac (x-8*a) p (by omega) ag B
   exact tail aP _ (Y.trans o) (Aj o Z) M.UL false (by unfold VO;rw[J]) rfl rfl rfl rfl
theorem yy {key:A2P}{l:List Pr}(a:Sorted l){x:Nat}{p:Pr}(b:l[x]? =some p):x<aV key l↔aQ p.key key=true:=M.oK a b
theorem AMS {A:ak}{z:aa}{b c t lo hi:Nat}{a0 ao:Q7}{l:List Pr}{f:List UInt8}{key:A2P}(r:z[b]? =some (J2 #[Az t] a0 (0,0)))(ap:z[c]? =some (J2 #[J7 key] ao (0,0)))
  (T:bX z t l f lo hi) (bw:hi<=z.size) (B:gD (aK (aT l f)) l f):
  EJ A P (.func (.func Iu) #[] #[Az b,Az c]) (λe=>(lo<=e/\e<hi)\/e=b\/e=c) z (l.drop (aV key l)):=by
 refine⟨?_,_,_,rfl,λa1=>by kernel_rfl,λh J a1 aq n bx hd hB a2 a3=>?_⟩
 ·rintro e (hd|rfl|rfl)
  ·omega
  ·exact Af r
  ·exact Af ap
 rw[M.rJ];refine Sg ?_;unfold Mf;have L:=(J b (.inr (.inl rfl))).trans r;have ar:=(J c (.inr (.inr rfl))).trans ap;have au:bX h t l f lo hi:=by
  obtain⟨av,o,w,N,Y,Z,aw⟩:=T.at_;have ax: ∀ {s:Sl} {ay:List A2P},View IQ z s ay->(∀ e,s.af=some e->lo<=e/\e<hi)->View IQ h s ay:=λv a4=>⟨v.len,v.cap,λi x hi=>by
   obtain⟨a,az,a5⟩:=v.cells i x hi;refine⟨a,az,λj v aA=>?_⟩;rw[<- a5 j v aA];exact OZ (by rw[aN,aN];exact J _ (.inl (a4 _ (by simp[Sl.af,az]))))⟩
  exact⟨⟨av,o,(J t (.inl T.fj)).trans w,ax N Z,ax Y aw,Z,aw⟩,T.fj⟩
 have a6: ∀e,lo<=e->e<hi-> ¬n e:=λe w N=>hd e (.inl ⟨w,N⟩)
 obtain⟨av,o,aC,bz,aD,bA,a7⟩:=au.at_;refine aF (Ab.mk (AL L rfl) (ae.no rfl (aF (Ab.mk (AL L rfl) (aF (AY.mk (s:=o) (AB aC rfl) (aF (Ab.mk (AL L rfl) (aF (AJ.mk (AL ar rfl) ?_))))))))));refine yw au B λw d aE O=>⟨_,rfl,AB (Aj O aC) rfl,AL (Aj O L) rfl,?_⟩
 have aG:o.len=Bh l:=by rw[aD.len];simp[Gt]
 have a8:=aE.lt;refine⟨by rw[aG];omega,?_⟩;rw[As,aG];have bB:=M.mz key l;have bC:=B.many;have bD:Bh l<=12501:=by unfold Bh;omega
 have bE:8*d<=aV key l:=by
  apply OK;intro C;have a9:aV key l<l.length:=by unfold Bh at a8;omega
  obtain⟨aH,D⟩: ∃aH,l[aV key l]? =some aH:=⟨_,A2 a9⟩;have w:=aE.below _ _ C D;have N:=(yy B.inc D).2 w;omega
 have ab:(l.drop (aV key l)).length=l.length-aV key l:=by simp
 have ba:=hB.bg _ _ _ _ _ a3 (O.ai (S':=λb=>¬n b/\h.size<=b) λ_ _ h=>h.elim);have bb:View IQ h ⟨Ay o.p o.cap d 1,Bh l-d,o.cap-d⟩ (((KZ l).map λb=>AX (BJ b)).drop d):=by have:=aD.sub (lo:=d) (hi:=Bh l) (by omega) (by simp[Gt]);rw[AE (by simp[Gt])] at this;exact this
 have bc: ∀e,Sl.af ⟨Ay o.p o.cap d 1,Bh l-d,o.cap-d⟩=some e-> ¬n e:=λe k=>by
  have:=a7 e (Uz k);exact a6 e this.1 this.2
 refine Loop.rule (λm x G=> ∃(i:Nat) (E:Nat->Prop),x=((i:Int),())/\m=Bh l-d-i/\i<=Bh l-d/\Mod n h G/\(∀ b,E b->n b\/h.size<=b)/\aq (min (8*(d+i)) l.length-aV key l) true E G) ?_
  ⟨0,n,rfl,rfl,by omega,O.mod,λb r=> .inl r,by
   have:min (8*(d+0)) l.length-aV key l=0:=by omega
   rw[this];exact ba⟩
 rintro K m _ G ⟨i,E,rfl,rfl,hi,Q,aI,H⟩ bd;dsimp only;refine ae.intro (λq=>?_) (λq=>?_)
 ·have aJ:i<Bh l-d:=by simp at q;omega
  have R:d+i<Bh l:=by omega
  have bF:8*(d+i)<l.length:=by unfold Bh at R;omega
  have be:(((KZ l).map λb=>AX (BJ b)).drop d)[i]? =some (AX (BJ (Bu l (d+i)))):=by rw[Bm];simp[KZ,R]
  refine(bb.mod Q bc).idx be λbG bH bf=>?_
  rw[As];refine AJ.mk bf.str ?_;have bg: ∀p∈Bu l (d+i),LM p:=λp bh=>B.ok p (Pe bh)
  have bI:=Qc B.ok R;have bJ:=QX R;refine rf bg (by omega) λps Y ac aL bi=>⟨_,_,rfl,?_⟩
  have aM:ps.len=(Bu l (d+i)).length:=ac.len;have bj:min (8*(d+i)) l.length=8*(d+i):=by omega
  rw[bj] at H;have bK:=Q.size;have bk:=hB.wf _ _ _ _ H;have bm:=hB.bg _ _ _ _ _ H (aL.ai (S':=λb=>¬E b/\h.size<=b) λ_ _ h=>h.elim);have bn:Mod n h Y:=Q.trans aL.mod;refine Loop.rule (λm x S=> ∃(j:Nat) (u:Nat->Prop),x=((j:Int),())/\m=(Bu l (d+i)).length-j/\j<=(Bu l (d+i)).length/\Mod n h S/\(∀ b,u b->n b\/h.size<=b)/\(∀ e,ps.af=some e-> ¬u e/\e<S.size)/\View BR S ps (Bu l (d+i))/\aq (8*(d+i)+j-aV key l) true u S) ?_
   ⟨0,E,rfl,rfl,by omega,bn,aI,λe k=>⟨λh=>by have:=bi e k;have:=bk e h;omega,ac.lt k⟩,ac.view,bm⟩
  rintro bL m _ Z ⟨j,u,rfl,rfl,aA,ad,U,F,af,aO⟩ aP;dsimp only;refine ae.intro (λq=>?_) (λq=>?_)
  ·have I:j<(Bu l (d+i)).length:=by rw[aM] at q;simp at q;omega
   have D:(Bu l (d+i))[j]? =some (Bu l (d+i))[j]:=A2 I;have V:l[8*(d+i)+j]? =some (Bu l (d+i))[j]:=by rw[<- QE (by omega)];exact D
   generalize (Bu l (d+i))[j]=p at D V;refine af.idx D λbM bN bo=>?_
   obtain⟨bp,bq,br⟩:=bo.pair;rw[As];refine AJ.mk bp (AJ.mk bq (Ac.mk br ?_));refine al.pair λbO ai bP W y bQ=>?_
   have X:Mod n h ai:=ad.trans y.mod;have bR:=ad.size;have aR:=hB.bg _ _ _ _ _ aO (y.ai (S':=λb=>¬u b/\h.size<=b) λ_ _ h=>h.elim);have bs:ai[c]? =some (J2 #[J7 key] ao (0,0)):=X.af ar (hd c (.inr (.inr rfl)));refine ah.mk λbS aS=>?_
   refine AJ.mk (AL W rfl) (aF (AJ.mk (AL bs rfl) ?_));have bT:=(List.getElem?_eq_some_iff.1 V).1;have aU:=yy (key:=key) B.inc V;refine ae.intro (λC=>?_) (λC=>?_)
   ·have bt:aV key l<=8*(d+i)+j:=by apply OK;intro G;rw[aU.1 G] at C;cases C
    refine AJ.mk (AL W rfl) (AJ.mk (AB W rfl) (Ac.mk (AB W rfl) ?_));have ag:(l.drop (aV key l))[8*(d+i)+j-aV key l]? =some p:=by rw[Bm,show aV key l+(8*(d+i)+j-aV key l)=8*(d+i)+j by omega];exact V
    refine EL.mono (a2 _ p u ai ag aR) ?_;rintro _ bu ⟨g,aj,rfl,aW,am,aX⟩;have bU:=X.size;have aY: ∀b,aj b->n b\/h.size<=b:=λb r=>(aW b r).elim (U b) λw=> .inr (by omega)
    have aZ:Mod n h bu:=X.then (am.ai λb _ r=>U b r);refine⟨g,rfl,aS _ _ ?_⟩;dsimp only;cases g with
    |false=>exact ae.yes rfl ⟨rfl,_,false,aj,aZ,aY,aX,(λh=>by cases h),by rw[ab];omega⟩
    |true=>
     refine ae.no rfl ?_;rw[AZ (by omega)];refine aP ((Bu l (d+i)).length-(j+1)) _ _ (by omega) ⟨j+1,aj,rfl,rfl,I,aZ,aY,λe k=>⟨λh=>?_,by have:=F e k;have:=y.size;have:=am.size;omega⟩,?_,?_⟩
     ·rcases aW e h with h|h
      ·exact(F e k).1 h
      ·have:=(F e k).2;have:=y.size;omega
     ·exact(af.ext y).mod am λe k=>(F e k).1
     ·rw[show 8*(d+i)+(j+1)-aV key l=8*(d+i)+j-aV key l+1 by omega];exact aX
   ·have bv:aQ p.key key=true:=by simpa using C
    have bt:=aU.2 bv;refine aS _ _ (ae.no rfl ?_);rw[AZ (by omega)];refine aP ((Bu l (d+i)).length-(j+1)) _ _ (by omega) ⟨j+1,u,rfl,rfl,I,X,U,λe k=>⟨(F e k).1,by have:=(F e k).2;have:=y.size;omega⟩,af.ext y,?_⟩;rw[show 8*(d+i)+(j+1)-aV key l=8*(d+i)+j-aV key l by omega];exact aR
  ·have I:j=(Bu l (d+i)).length:=by rw[aM] at q;simp at q;omega
   rw[AZ (by omega)];refine bd (Bh l-d-(i+1)) _ _ (by omega) ⟨i+1,u,rfl,rfl,by omega,ad,U,?_⟩;have an:min (8*(d+(i+1))) l.length=8*(d+i)+j:=by rw[I];unfold Bu;rw[AH,DH];omega
   rw[an];exact aO
 ·have aJ:i=Bh l-d:=by simp at q;omega
  have an:min (8*(d+i)) l.length=l.length:=by rw[aJ,show d+(Bh l-d)=Bh l by omega];unfold Bh;omega
  rw[an] at H;exact⟨rfl,l.length-aV key l,true,E,Q,aI,H,λ_=>ab.symm,by rw[ab];omega⟩
theorem yz {A:ak}{a:aa}{t h g:Nat}{l:List Pr}{f:List UInt8}{key:A2P}{i:A2O}(T:bX a t l f h g)(u:g<=a.size)(m:gD (aK (aT l f)) l f)
  (n: ∀fv d,EJ A P fv (λb=>(h<=b/\b<g)\/b=a.size\/b=a.size+1) d (l.drop (aV key l))->Ext a d->d.size=a.size+2->i fv d):AA A P Ho #[Az t,J7 key] a i:=by
 refine VN ?_;unfold Oe;refine al.mk λv _ o p q=>al.mk λj _ r k w=>?_
 have e:Ext a j:=p.trans k;have s:=AMS (A:=A) (Aj k o) r (T.ext e) (by have:=e.size;omega) m (key:=key);refine n _ j (s.ai ?_ ?_ (λc _=>rfl)) e (by omega)
 ·rintro b (hd|rfl|rfl)
  ·exact .inl hd
  ·exact .inr (.inl rfl)
  ·exact .inr (.inr q)
 ·rintro b (hd|rfl|rfl)
  ·have:=e.size;omega
  ·omega
  ·omega
def fH(l:List Fi)(a:A2P):Nat:=match CZ a l with|none=>0|some f=>f.bU.size+f.soft.size
theorem xX {a:A2P}{f:Fi}{l:List Fi}:CZ a (f::l)=if f.name=a then some f else CZ a l:=by rw[GX]
theorem qX(a:A2P): ∀l:List Fi,fH l a+bd (Pv a l)<=bd l
 | []=>by simp[fH,CZ,Pv,bd]
 |f::l=>by
  have h:=qX a l;have e:bd (f::l)=f.bU.size+f.soft.size+1+bd l:=by simp[bd]
  by_cases b:f.name=a
  ·have c:fH (f::l) a=f.bU.size+f.soft.size:=by unfold fH;rw[xX,if_pos b]
   have d:Pv a (f::l)=Pv a l:=by simp[Pv,b]
   rw[c,d,e];omega
  ·have c:fH (f::l) a=fH l a:=by unfold fH;rw[xX,if_neg b]
   have d:Pv a (f::l)=f::Pv a l:=by simp[Pv,b]
   have g:bd (f::Pv a l)=f.bU.size+f.soft.size+1+bd (Pv a l):=by simp[bd]
   rw[c,d,g,e];omega
theorem xY: ∀(a:List A2P),a.Nodup-> ∀l:List Fi,(a.map (fH l)).sum<=bd l
 | [],_,l=>by simp
 |k::a,b,l=>by
  rw[List.nodup_cons] at b;have c:=xY a b.2 (Pv k l);have d:a.map (fH (Pv k l))=a.map (fH l):=CT λx e=>by
   unfold fH;rw[Zl,if_neg (λf=>by subst f;exact b.1 e)]
  rw[d] at c;have:=qX k l;simp only[C2,GP];omega
def iy(m:Bx)(a:A2P)(b:Nat):A2P:=(UD m (aC a b)).1
noncomputable def SQ (a:A2P) (m:Bx) (l:List Nat):List A2P:=l.flatMap λb=>(ka (bl (iy m a b))).map AX
theorem xZ {m:Bx}(hd:m.down=false)(a:A2P):(UD m a).1.size=fH m.files a:=by
 unfold UD fH;rw[if_neg (by simp[hd])];cases CZ a m.files with
 |none=>rfl
 |some f=>simp[Kx]
theorem qY {nm:A2P}{m:Bx}(hd:m.down=false){l:List Nat}(b:l.Pairwise (· < ·)):(SQ nm m l).length<=bd m.files:=by
 have e:(SQ nm m l).length<=((l.map (aC nm)).map (fH m.files)).sum:=by
  unfold SQ;clear b
  induction l with
  |nil=>simp
  |cons f l d=>
   have g:=AHB (qv (bl (iy m nm f)));rw[Av,iy,xZ hd] at g;simp only[AI,A1,BE,C2,GP] at d ⊢;unfold iy at d ⊢;omega
 refine A5 e (xY _ ?_ _);refine List.pairwise_map.2 (b.imp λ{a c} i h=>?_);have:=IZ h;omega
theorem y5 {R:ak}{d:aa}{b:Nat}{S:Nat->Prop}{m:Bx}{nm:A2P}{w:A2O}(E:cp d)(D:Cf d b S m)(hd:m.down=false)(aw:0<nm.size)(F:nm.size<=8)(T:bd m.files<=8000000000000)
  (U: ∀g l,lS nm m l->l.getLast?.getD 0=99999999->Ext d g->w (J1 #[J5 none,J4 none 0 0,J6 J9 2]) g)
  (V: ∀g l r sl,lS nm m l->l.getLast?.getD 0≠99999999->Ext d g->d.size<=r->g[r]? =some (J2 #[Az b,J7 nm,J6 J9 ((l.getLast?.getD 0+1:Nat):Int),J3 false] Zx (0,0))->View IQ g sl (SQ nm m l)->
   (∀ c,sl.af=some c->d.size<=c/\c≠r)->w (J1 #[Az r,J4 sl.p sl.len sl.cap,J6 J9 0]) g):AA R P RF #[Az b,J7 nm] d w:=by
 refine AI6 ?_;unfold tV;refine ae.no rfl (ah.mk λK W=>?_);have X:bM nm (⟨#[]⟩:A2P)=false:=by rw[CP,decide_eq_false_iff_not];rintro rfl;have:(⟨#[]⟩:A2P).size=0:=rfl;omega
 rw[X];refine ae.no rfl (W _ _ (ae.no (by simp;omega) ?_));refine xW E D hd (by omega) T λG Y l h v2 o _=>⟨Y,_,rfl,ae.no rfl ?_⟩
 have ax:l.length<=99999999:=by
  have Z: ∀(l:List Nat) (s:Nat),l.Pairwise (· < ·)->(∀ e∈l,s<e/\e<=99999999)->l.length+s<=99999999\/l= []:=by
   intro l
   induction l with
   |nil=>intro s _ _;exact .inr rfl
   |cons a l ab=>
    intro s y H;rw[RM] at y;have ay:=H a (by simp);rcases ab a y.2 (λe t=>⟨y.1 e t,(H e (An _ t)).2⟩) with d|d
    ·left;simp only[A6];omega
    ·subst d;left;simp;omega
  rcases Z l 0 h.inc (λe t=>by have:=(h.mem e).1 t;omega) with d|d
  ·omega
  ·subst d;simp
 refine Loop.rule (λI x p=> ∃(i:Nat) (sl:Sl),x=(sl,(((l.take i).getLast?.getD 0:Nat):Int),(i:Int),())/\Ext G p/\Own IQ Ar p sl (SQ nm m (l.take i))/\(∀ c,sl.af=some c->G.size<=c)/\i<=l.length/\I=l.length-i) ?_
  ⟨0,⟨none,0,0⟩,rfl,Mod.refl,Own.nil,λc n=>by simp[Sl.af] at n,AG _,rfl⟩
 rintro az I _ p ⟨i,sl,rfl,j,u,f,aA,rfl⟩ ac;have J:(l.map λe:Nat=>(e:Int)).length=l.length:=BE ..;rw[v2.len,J];refine ae.intro (λz=>?_) (λz=>?_)
 ·have q:i<l.length:=by simpa using z
  have ag:l[i]? =some l[i]:=A2 q;have ad:l[i]∈l:=AT q;obtain⟨aD,aE,L⟩:=(h.mem l[i]).1 ad;have M:l.take (i+1)=l.take i++ [l[i]]:=by rw[AD,ag];rfl
  have af:(l.take (i+1)).getLast?.getD 0=l[i]:=by rw[M,Tl];rfl
  have N:SQ nm m (l.take (i+1))=SQ nm m (l.take i)++(ka (bl (iy m nm l[i]))).map AX:=by rw[M];unfold SQ;rw[FF];simp
  have A:=qY (nm:=nm) (m:=m) hd (l:=l.take (i+1)) (h.inc.sublist (List.take_sublist _ _));rw[N,A1,BE] at A;rw[<- J,<-v2.len];refine(v2.ext j).idx (i:=i) (x:=(l[i]:Int)) (by rw[Bk,ag];rfl) λa _ c=>?_
  refine AC.mk c.int ?_;have O:=o.trans j;refine YE (E.ext O) (by omega) (by omega) λaF v=>⟨_,rfl,?_⟩
  refine oQ ((D.ext O).ext v) ⟨_,_,rfl,?_⟩;have ai:(UD m (aC nm l[i])).2=0:=by
   unfold UD;rw[if_neg (by simp[hd])];cases aj:CZ (aC nm l[i]) m.files with
   |none=>rw[aj] at L;cases L
   |some f=>rfl
  rw[ai];refine ae.no rfl ?_;have am:(UD m (aC nm l[i])).1.size<=8000000000000:=by rw[xZ hd];have:=qX (aC nm l[i]) m.files;omega
  refine APG am λaG an aH B ao=>⟨an,_,rfl,?_⟩
  refine Gd (E:=IQ) xT ((u.ext v).ext B) ao (by rw[BE];unfold iy at A;omega) (by rw[BE];unfold iy at A;simp[maxLen];omega) λap aI aq ar au aJ=>?_
  dsimp only;rw[AZ (by omega)];refine ac (l.length-(i+1)) _ _ (by omega) ⟨i+1,ap,?_,((j.trans v).trans B).more ar f,?_,λc n=>?_,q,rfl⟩
  ·rw[af]
  ·rw[N];exact aq
  ·rcases au c n with d|d
   ·exact f c d
   ·have:=j.size;have:=v.size;have:=B.size;omega
 ·have q:i=l.length:=by simp at z;omega
  subst q;rw[C5] at u ⊢;refine ae.intro (λk=>?_) (λk=>?_)
  ·have k:l.getLast?.getD 0=99999999:=by simp at k;omega
   exact U p l h k (o.trans j)
  ·have k:l.getLast?.getD 0≠99999999:=by simp at k;omega
   have aK:l.getLast?.getD 0<=99999999:=by
    cases av:l.getLast? with
    |none=>simp
    |some e=>
     have:=(h.mem e).1 (To av);simp;omega
   refine al.mk λF _ C Q aL=>?_
   dsimp only at C ⊢;rw[AZ (by omega)] at C;refine V F l p.size sl h k ((o.trans j).trans Q) (by have:=o.size;have:=j.size;omega) C (u.ext Q).view λc n=>by have:=f c n;have:=o.size;have:=u.lt n;omega
def EI(a:aa)(c b:Nat)(d:A2P)(e:Nat)(f:Bool):Prop:=a[c]? =some (J2 #[Az b,J7 d,J6 J9 (e:Int),J3 f] Zx (0,0))
theorem EI.mod {c d:aa}{a b:Nat}{e:A2P}{f:Nat}{g:Bool}{h:Nat->Prop}(L:EI c a b e f g)(x:Mod h c d)(i: ¬h a):EI d a b e f g:=x.af L i
theorem EI.ext {a c:aa}{d b:Nat}{e:A2P}{f:Nat}{g:Bool}(L:EI a d b e f g)(x:Ext a c):EI c d b e f g:=x.af L (λa=>a)
theorem Wz {s:ak}{a:aa}{d b e:Nat}{f rec:A2P}{p:Bool}{i:Nat->Prop}{m:Bx}{t:A2O}(H:cp a)(L:EI a d b f e p)(I:Cf a b i m)(u: ¬i d)(X: ∀j,Mod i a j->cp j)(J:f.size<=1099511627776)(K:e<=4294967295)(M:rec.size<=1048576)(Y:bd m.files<=8000000000000)
  (w: ∀j S',Cf j b S' (DY m (aC f e) (AX (Cb (bl rec)))).2->EI j d b f e (p||decide ((DY m (aC f e) (AX (Cb (bl rec)))).1=0))->Mod (λc=>i c\/c=d) a j->(∀ c,S' c->i c\/(a.size<=c/\c≠d))->t (J6 J9 (DY m (aC f e) (AX (Cb (bl rec)))).1) j):
  AA s P Gx #[Az d,J7 rec] a t:=by
 refine Xr ?_;unfold QM;refine ae.no rfl ?_;have Z:=Af L;have N:(bl rec).length<=1048576:=by rw[Av];exact M
 have O:=IK N;rw[Av] at O;have Q:rec=AX (bl rec):=(JR rec).symm;have R:AA s P HZ #[J7 rec] a λv l=> ∃x:A2P,∃y:Int,v=J1 #[J7 x,J6 J9 y]/\(x=AX (Cb (bl rec))/\y=0/\Ext a l):=by
  rw[Q];refine qP (by rw[JR] at *;omega) (λl=>by rw[JR] at *;omega) λ_ l k=>⟨_,_,rfl,?_,rfl,k⟩
  rw[JR]
 refine AA.mono R ?_;rintro v l ⟨ac,ad,rfl,rfl,rfl,k⟩;refine⟨_,_,rfl,ae.no rfl ?_⟩;have q:=L.ext k;refine aF (Ab.mk (AL q rfl) (aF (AJ.mk (AB q rfl) (aF (AC.mk (AB q rfl) ?_)))));refine YE (H.ext k) K J λaf S=>⟨_,rfl,?_⟩
 have n:=k.trans S;have z:=L.ext n;refine⟨AL z rfl,?_⟩;refine si (I.ext n) (by rw[AP];omega) λr o A B C=>⟨_,rfl,?_⟩
 have D:EI r d b f e p:=z.mod B u;have ag:=n.size;have E: ∀c,o c->i c\/(a.size<=c/\c≠d):=λc g=>(C c g).imp id λa=>⟨by omega,by omega⟩
 have F:Mod (λc=>i c\/c=d) a r:=(Ext.mod n).trans (B.ai λc _ g=> .inl g);refine ae.intro (λh=>?_) (λh=>?_)
 ·have h:(DY m (aC f e) (AX (Cb (bl rec)))).1≠0:=by simpa using h
  exact w r o A (by rw[decide_eq_false h,Bool.or_false];exact D) F E
 ·have h:(DY m (aC f e) (AX (Cb (bl rec)))).1=0:=by simpa using h
  refine aF (ab.dj D (by simp) λT U G ah=>?_);have V: ¬o d:=λg=>by rcases C d g with a|a;exact u a;omega
  have:=w T o (A.mod G λc g W=>V (W▸g)) (by rw[decide_eq_true h,HG];simpa [EI] using U) (F.then (G.ai λc _ g=> .inl (.inr g))) E;rw[h] at this;exact this
def Le(m:Bx)(a:A2P)(b:Bool):Int×Bx:=if b then F9 m a else(0,m)
theorem qZ {o:ak}{a:aa}{f b c:Nat}{d:A2P}{e:Bool}{g:Nat->Prop}{m:Bx}{j:A2O}(p:cp a)(L:EI a f b d c e)(k:Cf a b g m)(q: ¬g f)(r:d.size<=1099511627776)(s:c<=4294967295)
  (l: ∀h,Cf h b g (Le m (aC d c) e).2->EI h f b d c e->Mod g a h->j (J6 J9 (Le m (aC d c) e).1) h):
  AA o P JA #[Az f] a j:=by
 refine ABG ?_;unfold UO;refine ae.no rfl (aF (Ac.mk (AB L rfl) ?_));cases e with
 |false=>exact ae.yes rfl (l a k L Mod.refl)
 |true=>
  refine ae.no rfl (aF (Ab.mk (AL L rfl) (aF (AJ.mk (AB L rfl) (aF (AC.mk (AB L rfl) ?_))))));refine YE p s r λv i=>⟨_,rfl,⟨AL (L.ext i) rfl,?_⟩⟩
  refine sj (k.ext i) λt u n=>⟨_,rfl,?_⟩
  exact l t u ((L.ext i).mod n q) ((Ext.mod i).trans n)
theorem WV {v:ak}{h:aa}{g b a:Nat}{d:A2P}{f:Bool}{i:Nat->Prop}{m:Bx}{l:A2O}(w:cp h)(L:EI h g b d a f)(x:Cf h b i m)(p: ¬i g)(y:d.size<=1099511627776)(G:a<99999999)
  (z:(Le m (aC d a) f).1≠0-> ∀e,Cf e b i (Le m (aC d a) f).2->EI e g b d a f->Mod i h e->l (J1 #[J6 J9 0,J6 J9 (Le m (aC d a) f).1]) e)
  (A:(Le m (aC d a) f).1=0-> ∀e,Cf e b i (Le m (aC d a) f).2->EI e g b d (a+1) false->Mod (λc=>i c\/c=g) h e->l (J1 #[J6 J9 (a:Int),J6 J9 0]) e):
  AA v P Gs #[Az g] h l:=by
 refine Xx ?_;unfold Qg;refine ae.no rfl (aF (AC.mk (AB L rfl) (ae.no (by simp;omega) ?_)));refine qZ w L x p y (by omega) λB q n r=>⟨_,rfl,?_⟩
 refine ae.intro (λj=>?_) (λj=>?_)
 ·exact z (by simpa using j) B q n r
 ·have j:(Le m (aC d a) f).1=0:=by simpa using j
  refine aF (AC.mk (AB n rfl) ?_);rw[AZ (by omega)];refine aF (ab.dj n (by simp) λH C D I=>?_);refine aF (ab.dj C (by simp) λs E F J=>?_);have t:EI s g b d (a+1) false:=by simpa [EI] using E
  refine aF (AC.mk (AB t rfl) ?_);have o:J8 J9 (((a+1:Nat):Int)-1)=(a:Int):=by rw[wrap_i64 (by omega) (by omega)];omega
  rw[o];have u:=D.trans F;exact A j s (q.mod u λc k o=>p (o▸k)) t ((r.ai λc _ k=> .inl k).trans (u.ai λc _ k=> .inr k))
end Go.Lf.G
namespace Go.Lf
open Go
def ff(m:Bx)(a:A2P):Option (A2P×A2P):=(CZ a m.files).map λf=>(f.bU,f.soft)
theorem Ux {m:Bx}{a:A2P}:(CZ a m.files).isSome=(ff m a).isSome:=by unfold ff;cases CZ a m.files<;>rfl
theorem qw {m:Bx}(hd:m.down=false)(a:A2P):UD m a=match ff m a with|none=>(bo,31)|some p=>(p.1++p.2,0):=by unfold UD ff;rw[if_neg (by simp[hd])];cases CZ a m.files<;>rfl
theorem qx(m:Bx)(l:List Fi)(a:A2P):ff {G5 m with files:=l} a=(CZ a l).map λf=>(f.bU,f.soft):=rfl
theorem AKU {a x:A2P}(l:List Fi):CZ x (T9 a l)=if x=a then some ((CZ a l).getD ⟨a,bo,bo⟩) else CZ x l:=by
 unfold T9;cases c:CZ a l with
 |some f=>
  simp only[Option.isSome_some,if_true];by_cases b:x=a
  ·subst b;simp[c]
  ·rw[if_neg b]
 |none=>
  rw[if_neg (by simp),vG (λd e=>Rt c d e)];by_cases b:x=a
  ·subst b;simp
  ·rw[if_neg b,if_neg (λg=>b g.symm)]
def iu(m:Bx):Prop:=m.down=false/\m.fuel≠0
theorem vq {m:Bx}(g:iu m){k d:A2P}(c:LD k=false):(DY m k d).1=0/\ ∀x,ff (DY m k d).2 x=if x=k then some (((ff m k).getD (bo,bo)).1,((ff m k).getD (bo,bo)).2++d) else ff m x:=by
 unfold DY;rw[if_neg (by simp[g.1]),if_neg (by simp[c]),if_neg g.2];refine⟨rfl,λx=>?_⟩;rw[qx,Zr (g:=Rk d) (λ_=>rfl),AKU];unfold ff;by_cases a:x=k
 ·subst a;rw[if_pos rfl,if_pos rfl];cases b:CZ x m.files with
  |none=>simp[Rk]
  |some f=>
   have:=(KF b).1;simp[Rk,this]
 ·rw[if_neg a,if_neg a];cases b:CZ x m.files with
  |none=>rfl
  |some f=>
   have:=(KF b).1;simp only[IT];rw[if_neg (by rw[this];exact a)]
theorem vt {m:Bx}(g:iu m){b:A2P}{p:A2P×A2P}(c:ff m b=some p):(F9 m b).1=0/\ ∀x,ff (F9 m b).2 x=if x=b then some (p.1++p.2,bo) else ff m x:=by
 have a: ∃f,CZ b m.files=some f/\(f.bU,f.soft)=p:=by
  unfold ff at c;cases a:CZ b m.files with
  |none=>rw[a] at c;cases c
  |some f=>rw[a] at c;exact⟨f,rfl,Bs c⟩
 obtain⟨f,a,rfl⟩:=a;unfold F9;rw[if_neg (by simp[g.1]),if_neg (by simp[a]),if_neg g.2];refine⟨rfl,λx=>?_⟩;rw[qx,Zr (g:=R5) (λ_=>rfl)];by_cases d:x=b
 ·subst d;have:=(KF a).1;rw[if_pos rfl,a];simp[R5,this]
 ·rw[if_neg d];unfold ff;cases e:CZ x m.files with
  |none=>rfl
  |some h=>
   have:=(KF e).1;simp only[IT];rw[if_neg (by rw[this];exact d)]
theorem ANM {m:Bx}(g:iu m){a:A2P}(b:(ff m a).isSome=true):(Gl m a).1=0/\ ∀x,ff (Gl m a).2 x=if x=a then none else ff m x:=by
 have c:(CZ a m.files).isNone=false:=by
  rw[<- Ux] at b;cases c:CZ a m.files with
  |none=>rw[c] at b;cases b
  |some f=>rfl
 unfold Gl;rw[if_neg (by simp[g.1]),if_neg (by simp[c]),if_neg g.2];refine⟨rfl,λx=>?_⟩;rw[qx,Zl];split<;>rfl
theorem AL8 {m:Bx}(l:List Fi):({G5 m with files:=l}:Bx).down=m.down:=by show(G5 m).down=m.down;unfold G5;split<;>rfl
def Calm(m:Bx):Prop:=m.down=false/\m.fuel= -1
theorem Calm.goes {m:Bx}(c:Calm m):iu m:=⟨c.1,by rw[c.2];decide⟩
theorem vu {m:Bx}(c:Calm m):G5 m=m:=by unfold G5;rw[if_neg (by rw[c.2];decide)]
theorem AIJ {m:Bx}(c:Calm m)(a b:A2P):Calm (DY m a b).2:=by
 unfold DY;rw[if_neg (by simp[c.1])];split
 ·exact c
 ·rw[if_neg (by rw[c.2];decide),vu c];exact⟨c.1,c.2⟩
theorem ANO {m:Bx}(c:Calm m)(a:A2P):Calm (F9 m a).2:=by
 unfold F9;rw[if_neg (by simp[c.1])];split
 ·exact c
 ·rw[if_neg (by rw[c.2];decide),vu c];exact⟨c.1,c.2⟩
theorem vv: ∀ {l f:List Nat},l.Pairwise (· < ·)->f.Pairwise (· < ·)->(∀ e,e∈l↔e∈f)->l=f
 | [],[],_,_,_=>rfl
 | [],b::f,_,_,d=>by have:=(d b).2 (by simp);cases this
 |a::l,[],_,_,d=>by have:=(d a).1 (by simp);cases this
 |a::l,b::f,h,i,d=>by
  rw[RM] at h i;have k:a=b:=by
   rcases List.mem_cons.1 ((d a).1 (by simp)) with c|c
   ·exact c
   ·rcases List.mem_cons.1 ((d b).2 (by simp)) with j|j
    ·exact j.symm
    ·have:=i.1 a c;have:=h.1 b j;omega
  subst k;have:l=f:=vv h.2 i.2 λe=>by
   constructor
   ·intro g;rcases List.mem_cons.1 ((d e).1 (An _ g)) with c|c
    ·have:=h.1 e g;omega
    ·exact c
   ·intro g;rcases List.mem_cons.1 ((d e).2 (An _ g)) with c|c
    ·have:=i.1 e g;omega
    ·exact c
  rw[this]
end Go.Lf
namespace Go.Lf.G
open Go
theorem AQP {b:A2P}{m:Bx}{l:List Nat}{c:Nat->List A2P}(hd:m.down=false)(d: ∀a∈l,∃p,ff m (aC b a)=some p/\Mx (bl (p.1++p.2)) ((c a).map bl)):SQ b m l=l.flatMap c:=by
 unfold SQ
 induction l with
 |nil=>rfl
 |cons a l e=>
  obtain⟨p,f,g⟩:=d a (by simp);rw[AI,AI,e λh i=>d h (An _ i)];congr 1;have j:iy m b a=p.1++p.2:=by unfold iy;rw[qw hd,f]
  rw[j,APC g,B9]
  conv=>rhs;rw[<- KK (c a)]
  exact CT λx _=>JR x
theorem ra {nm:A2P}{a:Nat}(e:nm.size<=8)(b:a<=99999999):LD (aC nm a)=false:=by have c:=APJ (nm:=nm) b;unfold LD;rw[Hj,decide_eq_false_iff_not,decide_eq_false_iff_not];refine⟨λd=>?_,by omega⟩;rw[d] at c;have:bo.size=0:=rfl;omega
theorem APx {i:A2P}{m:Bx}{l:List Nat}(g:lS i m l):l.length<=99999999:=by
 have j: ∀(l:List Nat) (d:Nat),l.Pairwise (· < ·)->(∀ b∈l,d<b/\b<=99999999)->l.length+d<=99999999\/l= []:=by
  intro l
  induction l with
  |nil=>intro d _ _;exact .inr rfl
  |cons a l k=>
   intro d f h;rw[RM] at f;have n:=h a (by simp);rcases k a f.2 (λb e=>⟨f.1 b e,(h b (An _ e)).2⟩) with c|c
   ·left;simp only[A6];omega
   ·subst c;left;simp;omega
 rcases j l 0 g.inc (λb e=>by have:=(g.mem b).1 e;omega) with c|c
 ·omega
 ·subst c;simp
structure Lw (h:aa) (lg b:Nat) (nm:A2P) (hh:aa) (S:Nat->Prop) (m:Bx) (seg:Nat) (made:Bool):Prop where
 box:Cf hh b S m
 log:EI hh lg b nm seg made
 ext:Ext h hh
 fresh: ∀c,S c->h.size<=c/\c≠lg
 oH:h.size<=lg
theorem Lw.nS {d:aa}{a b:Nat}{e:A2P}{f:aa}{c:Nat->Prop}{m:Bx}{g:Nat}{h:Bool}(i:Lw d a b e f c m g h): ¬c a:=λj=>(i.fresh _ j).2 rfl
theorem Lw.on {c:aa}{d b:Nat}{e:A2P}{f g:aa}{h:Nat->Prop}{m:Bx}{i:Nat}{j:Bool}(a:Lw c d b e f h m i j)(x:Ext f g):Lw c d b e g h m i j:=
 ⟨a.box.ext x,a.log.ext x,a.ext.trans x,a.fresh,a.oH⟩
theorem Lw.env {a:aa}{h b:Nat}{i:A2P}{d e:aa}{f:Nat->Prop}{m:Bx}{j:Nat}{k:Bool}(g:Lw a h b i d f m j k)(l:cp a)(x:Mod f d e):cp e:=l.ext (g.ext.more x λc n=>(g.fresh c n).1)
theorem Lw.eQ {a:aa}{e b:Nat}{h:A2P}{i g:aa}{j k:Nat->Prop}{m l:Bx}{p n:Nat}{q o:Bool}(d:Lw a e b h i j m p q)(r:Cf g b k l)(L:EI g e b h n o)(x:Mod (λc=>j c\/c=e) i g)(s: ∀c,k c->j c\/(i.size<=c/\c≠e)):Lw a e b h g k l n o:=by
 have t:=d.ext.size;refine⟨r,L,d.ext.more x λc f=>?_,λc f=>?_,d.oH⟩
 ·rcases f with f|rfl
  ·exact(d.fresh c f).1
  ·exact d.oH
 ·rcases s c f with a|a
  ·exact d.fresh c a
  ·exact⟨by omega,a.2⟩
def aU(rec:A2P):A2P:=AX (Cb (bl rec))
theorem AOb {rec:A2P}(a:rec.size<=1048576):rec.size+5<=(aU rec).size/\(aU rec).size<=rec.size+14:=by have:=IK (r:=bl rec) (by rw[Av];exact a);rw[Av] at this;rw[aU,AP];exact this
theorem Lw.append {u:ak}{l:aa}{h b:Nat}{a rec:A2P}{i:aa}{n:Nat->Prop}{m:Bx}{e:Nat}{v:Bool}{p:A2O}(f:Lw l h b a i n m e v)(q:cp l)(c:Calm m)(w:a.size<=8)(y:e<=99999999)(r:rec.size<=1048576)(z:bd m.files<=8000000000000)
  (A: ∀g S' j,Lw l h b a g S' j e true->Calm j->(∀ x,ff j x=if x=aC a e then some (((ff m (aC a e)).getD (bo,bo)).1,((ff m (aC a e)).getD (bo,bo)).2++aU rec) else ff m x)->bd j.files<=bd m.files+rec.size+15->
   Mod (λc=>n c\/c=h) i g->(∀ c,S' c->n c\/(i.size<=c/\c≠h))->p (J6 J9 0) g):AA u P Gx #[Az h,J7 rec] i p:=by
 refine Wz (q.ext f.ext) f.log f.box f.nS (λg x=>f.env q x) (by omega) (by omega) r z λg S' B o s t=>?_
 obtain⟨C,D⟩:=vq c.goes (k:=aC a e) (d:=aU rec) (ra w y);have E:(DY m (aC a e) (AX (Cb (bl rec)))).1=0:=C;rw[E] at o ⊢;rw[decide_eq_true rfl,HG] at o;have F:=Uo f.box.aO (aC a e) (aU rec);have G:=AOb r;exact A g S' _ (f.eQ B o s t) (AIJ c _ _) D (A5 F (by omega)) s t
theorem Lw.sync {w:ak}{h:aa}{l b:Nat}{a:A2P}{n:aa}{o:Nat->Prop}{m:Bx}{d:Nat}{i:Bool}{r:A2O}(e:Lw h l b a n o m d i)(y:cp h)(c:Calm m)(D:a.size<=8)(E:d<=99999999)(z:i=true->(ff m (aC a d)).isSome=true)
  (s: ∀g j,Lw h l b a g o j d i->Calm j->(∀ x,ff j x=if x=aC a d/\i=true then(ff m x).map (λp=>(p.1++p.2,bo)) else ff m x)->bd j.files<=bd m.files->Mod o n g->r (J6 J9 0) g):AA w P JA #[Az l] n r:=by
 refine qZ (y.ext e.ext) e.log e.box e.nS (by omega) (by omega) λg t u k=>?_
 cases i with
 |false=>
  exact s g m (e.eQ t u (k.ai λc _ f=> .inl f) λc f=> .inl f) c (λx=>by rw[if_neg (by simp)]) (A0 _) k
 |true=>
  obtain⟨p,v⟩:=Option.isSome_iff_exists.1 (z rfl);obtain⟨A,B⟩:=vt c.goes v;have C:(Le m (aC a d) true).1=0:=A;rw[C];refine s g _ (e.eQ t u (k.ai λc _ f=> .inl f) λc f=> .inl f) (ANO c _) (λx=>?_) (Xn e.box.aO _) k;show ff (F9 m (aC a d)).2 x=_;rw[B];by_cases q:x=aC a d
  ·subst q;rw[if_pos rfl,if_pos ⟨rfl,rfl⟩,v];rfl
  ·rw[if_neg q,if_neg (λh=>q h.1)]
abbrev nx:A2P:=⟨#[120]⟩
open M (Sorted Ag Cs BC Ah Aw Be Am bH BK)
abbrev bR:=A2P->Option (A2P×A2P)
abbrev nl:A2P:=⟨#[108]⟩
abbrev nn:A2P:=⟨#[110]⟩
abbrev nt:A2P:=⟨#[116]⟩
def aX(a:Nat):A2P:=nt++AX (Lib.decDigits a)
theorem Wq(a:Nat):bl (aX a)=116::Lib.decDigits a:=by show(nt++AX (Lib.decDigits a)).data.toList=_;rw[Kp,N4];show [116]++(AX (Lib.decDigits a)).data.toList=_;rw[show(AX (Lib.decDigits a)).data.toList=Lib.decDigits a from Cc _];rfl
theorem JP {a b:Nat}(e:aX a=aX b):a=b:=by
 have c:=congrArg bl e;rw[Wq,Wq] at c;have f:Lib.decDigits a=Lib.decDigits b:=by injection c
 have d:=(Yo a).2;rw[f,(Yo b).2] at d;exact d.symm
theorem Qh(a:Nat):(bl (aC nl a)).head? =some 108:=by rw[RL];rfl
theorem TK(a:Nat):(bl (aC nn a)).head? =some 110:=by rw[RL];rfl
theorem ri(a:Nat):(bl (aX a)).head? =some 116:=by rw[Wq];rfl
theorem Vq(a b:Nat):aC nl a≠aC nn b:=λc=>by have:=Qh a;rw[c,TK] at this;cases this
theorem Ls(a b:Nat):aC nl a≠aX b:=λc=>by have:=Qh a;rw[c,ri] at this;cases this
theorem OX(a b:Nat):aC nn a≠aX b:=λc=>by have:=TK a;rw[c,ri] at this;cases this
def da(x:A2P):Prop:=(∃ a,x=aC nl a)\/(∃ a,x=aC nn a)\/ ∃a,x=aX a
def MJ(b G:bR):Prop:= ∀x,match b x with
 |none=>G x=none
 |some p=> ∃a,G x=if p.1++p.2.extract 0 a=bo then none else some (p.1++p.2.extract 0 a,bo)
theorem AQO(a:Nat):bo.extract 0 a=bo:=by
 have:(bo.extract 0 a).size=0:=by have:bo.size=0:=rfl;rw[RR];omega
 have b:=JR (bo.extract 0 a);have c:bl (bo.extract 0 a)= []:=Tm this;rw[c] at b;exact b.symm
def NS(a b:Option (A2P×A2P)):Prop:=b=a\/(a=some (bo,bo)/\b=none)
theorem MJ.bU {b G:bR}(c:MJ b G){x:A2P}(g: ∀p,b x=some p->p.2=bo):NS (b x) (G x):=by
 have:=c x;cases d:b x with
 |none=>rw[d] at this;exact .inl this
 |some p=>
  rw[d] at this;obtain⟨i,a⟩:=this;have e:=g p d;obtain⟨h,j⟩:=p;simp only at e;subst e;simp only[AQO,YK] at a;by_cases f:h=bo
  ·subst f;rw[if_pos rfl] at a;exact .inr ⟨rfl,a⟩
  ·rw[if_neg f] at a;exact .inl a
structure Wt (F:bR) (nm:A2P) (top:Nat) (R:Nat->List (List UInt8)):Prop where
 has: ∀n p,1<=n->n<=99999999->F (aC nm n)=some p->p.2=bo/\Mx (bl p.1) (R n)
 gK: ∀n,1<=n->n<=99999999->F (aC nm n)=none->R n= []
 out: ∀n,top<=n->n<=99999999->F (aC nm n)=none
 jJ: ∀n,(n=0\/top<=n)->R n= []
def KL {a:Type}(c:Nat->a)(s:Nat)(v:a):Nat->a:=λb=>if b=s then v else c b
theorem DK {a:Type}{b:Nat->a}{s:Nat}{v:a}:KL b s v s=v:=if_pos rfl
theorem Ei {b:Type}{c:Nat->b}{s a:Nat}{v:b}(d:a≠s):KL c s v a=c a:=if_neg d
theorem rj {a:List (List UInt8)}(b:Mx [] a):a= []:=b.uniq (.stop Tt)
theorem Wt.put {k G:bR}{f:A2P}{l dM:Nat}{m:Nat->List (List UInt8)}(i:Wt k f l m){s:Nat}{v:List (List UInt8)}(r:1<=s/\s<=99999999)(t:s<dM)(j: ∀a,1<=a->a<=99999999->a≠s->NS (k (aC f a)) (G (aC f a)))
  (n:(G (aC f s)=none/\v= [])\/ ∃x,G (aC f s)=some (x,bo)/\Mx (bl x) v) (u:l<=dM):Wt G f dM (KL m s v):=by
 refine⟨λa p g e c=>?_,λa g e c=>?_,λa o e=>?_,λa o=>?_⟩
 ·by_cases d:a=s
  ·subst d;rw[DK];rcases n with⟨b,_⟩|⟨x,b,h⟩
   ·rw[b] at c;cases c
   ·rw[b] at c;cases c;exact⟨rfl,h⟩
  ·rw[Ei d];rcases j a g e d with b|⟨b,h⟩
   ·exact i.has a p g e (b▸c)
   ·rw[h] at c;cases c
 ·by_cases d:a=s
  ·subst d;rw[DK];rcases n with⟨_,b⟩|⟨x,b,_⟩
   ·exact b
   ·rw[b] at c;cases c
  ·rw[Ei d];rcases j a g e d with b|⟨b,h⟩
   ·exact i.gK a g e (b▸c)
   ·obtain⟨_,q⟩:=i.has a _ g e b;exact rj q
 ·have d:a≠s:=by omega
  rcases j a (by omega) e d with b|⟨b,h⟩
  ·rw[b];exact i.out a (by omega) e
  ·exact h
 ·have d:a≠s:=by omega
  rw[Ei d];exact i.jJ a (by omega)
theorem Wt.aM {k G:bR}{f:A2P}{i:Nat}{l:Nat->List (List UInt8)}(d:Wt k f i l)(o:1<=i)(j: ∀a,1<=a->a<=99999999->NS (k (aC f a)) (G (aC f a))):Wt G f i l:=by
 refine⟨λa p g b e=>?_,λa g b e=>?_,λa m b=>?_,d.jJ⟩
 ·rcases j a (by omega) b with c|⟨c,h⟩
  ·exact d.has a p g b (c▸e)
  ·rw[h] at e;cases e
 ·rcases j a (by omega) b with c|⟨c,h⟩
  ·exact d.gK a g b (c▸e)
  ·obtain⟨_,n⟩:=d.has a _ g b c;exact rj n
 ·rcases j a (by omega) b with c|⟨c,h⟩
  ·rw[c];exact d.out a m b
  ·exact h
theorem Wt.up {c:bR}{d:A2P}{e f:Nat}{g:Nat->List (List UInt8)}(a:Wt c d e g)(i:e<=f):Wt c d f g:=
 ⟨a.has,a.gK,λb h=>a.out b (by omega),λb h=>a.jJ b (by omega)⟩
theorem Wt.drop {l G:bR}{e:A2P}{h:Nat}{m g:Nat->List (List UInt8)}(i:Wt l e h m)(j: ∀a,a<=99999999->(G (aC e a)=l (aC e a)/\g a=m a)\/(G (aC e a)=none/\g a= []))(n: ∀a,(a=0\/h<=a)->g a= []):Wt G e h g:=by
 refine⟨λa p k c f=>?_,λa k c f=>?_,λa o c=>?_,n⟩
 ·rcases j a c with⟨b,d⟩|⟨b,d⟩
  ·rw[d];exact i.has a p k c (b▸f)
  ·rw[b] at f;cases f
 ·rcases j a c with⟨b,d⟩|⟨b,d⟩
  ·rw[d];exact i.gK a k c (b▸f)
  ·exact d
 ·rcases j a c with⟨b,d⟩|⟨b,d⟩
  ·rw[b];exact i.out a o c
  ·exact b
theorem yA {rs:List (List UInt8)}{r:List UInt8}(b: ∀x∈rs++ [r],x.length<=1048576)(a:Nat):Mx (bl (AX (aK rs)++(AX (Cb r)).extract 0 a)) rs\/Mx (bl (AX (aK rs)++(AX (Cb r)).extract 0 a)) (rs++ [r]):=by
 have c:bl (AX (aK rs)++(AX (Cb r)).extract 0 a)=aK rs++(Cb r).take a:=by show(AX (aK rs)++(AX (Cb r)).extract 0 a).data.toList=_;rw[Kp,N4,SU,SW];rw[show(AX (aK rs)).data.toList=aK rs from Cc _,show(AX (Cb r)).data.toList=Cb r from Cc _];simp
 rw[c];by_cases d:a<(Cb r).length
 ·exact .inl (RS (λx e=>b x (by simp[e])) (AMi (b r (by simp)) d))
 ·right;rw[AE (by omega)];have:=RS (rs:=rs++ [r]) b (t:= []) Tt;simpa using this
structure Nt where
 next:Nat
 aU:Nat
 names:List Nat
def Dz(x:Nt):List UInt8:=BH x.next++BH x.aU++BH x.names.length++x.names.flatMap BH
structure gH (x:Nt):Prop where
 next:x.next<=99999999
 aU:1<=x.aU/\x.aU<=99999999
 ct:x.names.length<=60000
 below: ∀n∈x.names,n<x.next
 nd:x.names.Nodup
structure YF (b:List Pr):Prop where
 len:b.length<=64
 ok: ∀x∈b,LM x
theorem Uh: ∀ {l:List Nat},(∀ n∈l,n<=99999999)->(l.flatMap BH).length<=l.length*10
 | [],_=>by simp
 |n::l,a=>by
  have d:=AV (n:=n) (by have:=a n (by simp);omega);have e:=Uh (l:=l) λb c=>a b (An _ c)
  simp only[AI,A1,A6];omega
theorem yB {x:Nt}(a:gH x):(Dz x).length<=30+x.names.length*10:=by
 have c:=AV (n:=x.next) (by have:=a.next;omega);have d:=AV (n:=x.aU) (by have:=a.aU;omega);have e:=AV (n:=x.names.length) (by have:=a.ct;omega);have f:=Uh (l:=x.names) λn b=>by have:=a.below n b;have:=a.next;omega
 simp only[Dz,A1];omega
theorem Yu {s:Nat}{b:List Pr}(d:s<=99999999)(a:YF b):(BM s b).length<=20+64*8276:=by have e:=AV (n:=s) (by omega);have f:=AV (n:=b.length) (by have:=a.len;omega);have g:=Ll a.ok;have c:=a.len;have h:b.length*8276<=64*8276:=AS _ c;simp only[BM,A1];omega
structure Bg where
 L:Nat->List (List Pr)
 N:Nat->List Nt
 T:Nat->List Pr
 aR:Nat
 aY:Nat
def NF(a:Bg):List Nt:=(List.range a.aY).flatMap a.N
def Ak(a:Bg):Nt:=(NF a).getLast?.getD ⟨1,1,[]⟩
def IJ(a:Bg):List (List Pr):=(List.range a.aR).flatMap λb=>if b<(Ak a).aU then [] else a.L b
def Ea(a:Bg):List Pr:=BC [] (IJ a).flatten
def cz(a:Bg):List Pr:=BK (Ah (Ea a::(Ak a).names.map a.T))
structure BD (F:bR) (D:Bg):Prop where
 log:Wt F nl D.aR λn=>(D.L n).map (BM n)
 note:Wt F nn D.aY λn=>(D.N n).map Dz
 cM: ∀n∈(Ak D).names,F (aX n)=some (AX (Ja (D.T n)),bo)/\Gv (D.T n)
 fW: ∀n b,b∈D.L n->YF b
 dL: ∀n x,x∈D.N n->gH x
 dr: ∀x,F x≠none->(bl x).head? =some 116-> ∃n,x=aX n
 cC:1<=D.aR/\D.aR<=99999999/\1<=D.aY/\D.aY<=99999999
theorem yC {b:bR}{a:Bg}(c:BD b a):gH (Ak a):=by
 unfold Ak;cases d:(NF a).getLast? with
 |none=>exact⟨by simp,by simp,by simp,by simp,by simp⟩
 |some x=>
  have:=To d;obtain⟨e,_,f⟩:=List.mem_flatMap.1 this;exact c.dL e x f
theorem AS7 {l:List Pr}(t:Gv l):AX (Ja l)≠bo:=λd=>by
 have a:Ja l= []:=by have:=congrArg bl d;rw[EN] at this;exact this
 have e:aT l (Mh l)≠ []:=by simp[aT]
 unfold Ja at a;cases b:aT l (Mh l) with
 |nil=>exact e b
 |cons r f=>
  rw[b] at a;have g:(Cb r).length=0:=by have c:=congrArg List.length a;rw[XC,A1] at c;simp at c;simp[c.1]
  have h:=(IK (r:=r) (NW t.eE r (by rw[b];simp))).1;omega
theorem Uy {a b:Option (A2P×A2P)}{l:List Pr}(e:NS a b)(t:Gv l)(d:a=some (AX (Ja l),bo)):b=some (AX (Ja l),bo):=by
 rcases e with c|⟨c,_⟩
 ·exact c.trans d
 ·rw[d] at c;injection c with c;exact absurd (Prod.mk.inj c).1 (AS7 t)
theorem BD.same {c G:bR}{e:Bg}(b:BD c e)(h: ∀a,1<=a->a<=99999999->NS (c (aC nl a)) (G (aC nl a)))(i: ∀a,1<=a->a<=99999999->NS (c (aC nn a)) (G (aC nn a)))(j: ∀a∈(Ak e).names,NS (c (aX a)) (G (aX a)))
  (k: ∀x,G x≠none->c x≠none\/ ∃a,x=aX a):BD G e:=by
 refine⟨b.log.aM b.cC.1 h,b.note.aM b.cC.2.2.1 i,λa f=>?_,b.fW,b.dL,λx l hd=>?_,b.cC⟩
 ·obtain⟨d,g⟩:=b.cM a f;exact⟨Uy (j a f) g d,g⟩
 ·rcases k x l with d|d
  ·exact b.dr x d hd
  ·exact d
theorem BD.dB {g G:bR}{h:Bg}(d:BD g h)(c:MJ g G):BD G h:=by
 refine d.same (λb e f=>c.bU λp a=>(d.log.has b p e f a).1) (λb e f=>c.bU λp a=>(d.note.has b p e f a).1) (λb i=>c.bU λp a=>?_) λx j=> .inl λk=>j ?_
 ·rw[(d.cM b i).1] at a;cases a;rfl
 ·have:=c x;rw[k] at this;exact this
open M (Sorted Ag Cs BC Ah Aw Be Am bH BK aV BU Xp)
theorem APj {x:Pr}(a:LM x):Am x=0:=by
 have c:x.key≠(⟨#[]⟩:A2P):=λd=>a.key (by rw[d];rfl)
 have f:=a.bJ;have g:=a.cw;unfold M.Am;rw[if_neg ?_,if_neg ?_]
 ·simp only[Cp,decide_eq_true_eq];omega
 ·simp only[Cp,A3,decide_eq_true_eq,CA,decide_eq_false_iff_not];rintro(b|⟨b,e⟩)
  ·exact c b
  ·exact e (Zq (a.gone b))
theorem om {x:Pr}(a:Am x=0):LM x:=by
 unfold M.Am at a;split at a
 ·cases a
 ·rename_i b;split at a
  ·cases a
  ·rename_i c;simp only[Cp,A3,decide_eq_true_eq,CA,decide_eq_false_iff_not,not_or,not_and,Decidable.not_not] at b c;refine⟨λd=>b.1 (Zq d),by omega,by omega,λe=>?_⟩;rw[b.2 e];rfl
theorem yN {l:List Pr}(a: ∀x∈l,LM x):Be l:=λx b=>APj (a x b)
theorem yO(a:A2P): ∀ {b t:List Pr},Sorted t->Be b->Ag a (BC t b)=(Ag a b.reverse).or (Ag a t)
 | [],t,_,_=>rfl
 |x::b,t,s,g=>by
  have d:=g x (by simp);show Ag a (BC (Cs x t) b)=_;rw[yO a (M.PQ s) λe f=>g e (An _ f),SO,M.Ns,M.Qa d,M.XT x a s,M.BA];cases Ag a b.reverse with
  |some p=>rfl
  |none=>
   by_cases c:x.key=a
   ·rw[if_pos c,if_pos c];rfl
   ·rw[if_neg c,if_neg c];rfl
def alive(a:Option Pr):Option Pr:=a.filter λp=> !p.gone
theorem I9(x:Pr):alive (some x)=if x.gone then none else some x:=by unfold alive;cases a:x.gone<;>simp[Option.filter,a]
theorem ZI(a:A2P): ∀ {l:List Pr},Sorted l->Ag a (BK l)=alive (Ag a l)
 | [],_=>rfl
 |x::l,s=>by
  have e:=List.pairwise_cons.1 s;have c:=ZI a e.2;unfold M.BK at c ⊢;rw[AW,M.BA];by_cases b:x.key=a
  ·rw[if_pos b];cases d:x.gone with
   |false=>rw[if_pos (by rfl),M.BA,if_pos b,I9,d];rfl
   |true=>
    rw[if_neg (by simp),c];have:Ag a l=none:=M.EZ λf g h=>M.OU (e.1 f g) (b.trans h.symm)
    rw[this,I9,d];rfl
  ·rw[if_neg b];cases d:x.gone with
   |false=>rw[if_pos (by rfl),M.BA,if_neg b];exact c
   |true=>rw[if_neg (by simp)];exact c
theorem Uc {l:List Pr}(s:Sorted l):Sorted (BK l):=s.sublist Hc
def Lj(fr:List Pr)(ts:List (List Pr)):List Pr:=BK (Ah (fr::ts))
theorem Eh(fr:List Pr)(ts:List (List Pr)):Sorted (Lj fr ts):=Uc (M.Du _)
theorem Gc(a:A2P){fr:List Pr}{ts:List (List Pr)}(b:bH (fr::ts)):Ag a (Lj fr ts)=alive ((Ag a fr).or (Aw a ts)):=by unfold Lj;rw[ZI a (M.Du _),M.JL a b,M.EF]
def iU(m:List Pr)(p:Pr):List Pr:=m.take (aV p.key m)++(if p.gone then [] else [p])++m.drop (if BU p.key m then aV p.key m+1 else aV p.key m)
def dc(m b:List Pr):List Pr:=b.foldl iU m
theorem YM(a:A2P)(x:Pr)(l:List Pr):aV a (x::l)=if aQ x.key a then aV a l+1 else 0:=by unfold M.aV M.gP;rw[Mu];split<;>simp
theorem AJr(a:A2P)(x:Pr)(l:List Pr):BU a (x::l)=if aQ x.key a then BU a l else decide (x.key=a):=by unfold M.BU;rw[YM];by_cases b:aQ x.key a=true<;>simp[b]
def kC(a:A2P)(l:List Pr):List Pr:=l.filter λb=> !decide (b.key=a)
theorem yP {k:A2P}: ∀ {l:List Pr},Sorted l->l.take (aV k l)++l.drop (if BU k l then aV k l+1 else aV k l)=kC k l
 | [],_=>by simp[kC]
 |x::l,s=>by
  have c:=List.pairwise_cons.1 s;have d:=yP (k:=k) c.2;unfold kC at d ⊢;rw[YM,AJr,AW];by_cases a:aQ x.key k=true
  ·have i:x.key≠k:=M.OU a;have j:(!decide (x.key=k))=true:=by simp[i]
   simp only[a,if_true,j,HS,F0];rw[<- d];cases o:BU k l<;>simp
  ·rw[if_neg a,if_neg a,HX,CI];have e:l.filter (λm=> !decide (m.key=k))=l:=by
    refine List.filter_eq_self.2 λf n=>?_
    have g:=c.1 f n;by_cases h:f.key=k
    ·rw[h] at g;exact absurd g a
    ·simp[h]
   by_cases b:x.key=k
   ·rw[if_pos (by simp[b]),if_neg (by simp[b]),e];rfl
   ·rw[if_neg (by simp[b]),if_pos (by simp[b]),e];rfl
theorem yQ {m:List Pr}(s:Sorted m)(p:Pr):iU m p=if p.gone then kC p.key m else M.ins p m:=by
 unfold iU;cases a:p.gone with
 |true=>simp only[if_true,AN];exact yP s
 |false=>
  simp only[Cl,if_false];have:=M.mD p m;unfold M.Xp at this;exact this
theorem ANd(b c:A2P)(m:List Pr):Ag b (kC c m)=if c=b then none else Ag b m:=by
 unfold kC
 induction m with
 |nil=>split<;>rfl
 |cons x m f=>
  rw[AW,M.BA];by_cases d:x.key=c
  ·rw[if_neg (by simp[d]),f];by_cases a:c=b
   ·rw[if_pos a,if_pos a]
   ·rw[if_neg a,if_neg a,if_neg (λe=>a (d.symm.trans e))]
  ·rw[if_pos (by simp[d]),M.BA,f];by_cases a:x.key=b
   ·rw[if_pos a,if_pos a,if_neg (λe=>d (a.trans e.symm))]
   ·rw[if_neg a,if_neg a]
theorem yR {m:List Pr}(s:Sorted m)(p:Pr):Sorted (iU m p):=by
 rw[yQ s];split
 ·exact s.sublist Hc
 ·exact M.Wn p s
theorem rk {m:List Pr}(s:Sorted m)(p:Pr)(a:A2P):Ag a (iU m p)=if p.key=a then alive (some p) else Ag a m:=by
 rw[yQ s];cases b:p.gone with
 |true=>rw[if_pos rfl,ANd,I9,b];rfl
 |false=>rw[if_neg (by simp),M.XT p a s,I9,b];rfl
theorem yS: ∀ {b m:List Pr},Sorted m->Sorted (dc m b)
 | [],_,s=>s
 |p::b,m,s=>yS (b:=b) (yR s p)
theorem Xy(a:A2P): ∀ {b m:List Pr},Sorted m->Ag a (dc m b)=match Ag a b.reverse with|some p=>alive (some p)|none=>Ag a m
 | [],_,_=>rfl
 |p::b,m,s=>by
  show Ag a (dc (iU m p) b)=_;rw[Xy a (yR s p),SO,M.Ns,M.BA];cases Ag a b.reverse with
  |some d=>rfl
  |none=>
   rw[rk s];by_cases c:p.key=a
   ·rw[if_pos c,if_pos c];rfl
   ·rw[if_neg c,if_neg c];rfl
theorem yT {fr b:List Pr}{ts:List (List Pr)}(c:bH (fr::ts))(g:Be b):Lj (BC fr b) ts=dc (Lj fr ts) b:=by
 have e:=c.sorted fr (by simp);have f:bH (BC fr b::ts):=⟨λl a=>by
   rcases List.mem_cons.1 a with rfl|a
   ·exact M.Qz e
   ·exact c.sorted l (by simp[a]),λl a=>by
   rcases List.mem_cons.1 a with rfl|a
   ·exact M.XG (c.aO fr (by simp))
   ·exact c.aO l (by simp[a])⟩
 refine(Eh _ _).ext (yS (Eh _ _)) λd=>?_
 rw[Gc d f,yO d e g,Xy d (Eh _ _),Gc d c];cases Ag d b.reverse with
 |some p=>rfl
 |none=>rfl
theorem bH.gr {ts:List (List Pr)}(b:bH ts):bH ([]::ts):=⟨λl a=>by
  rcases List.mem_cons.1 a with rfl|a
  ·exact List.Pairwise.nil
  ·exact b.sorted l a,λl a=>by
  rcases List.mem_cons.1 a with rfl|a
  ·exact λ_ c=>by cases c
  ·exact b.aO l a⟩
theorem bH.tail {l:List Pr}{ts:List (List Pr)}(b:bH (l::ts)):bH ts:=⟨λx a=>b.sorted x (by simp[a]),λx a=>b.aO x (by simp[a])⟩
theorem AHc {fr:List Pr}{ts:List (List Pr)}(a:bH (fr::ts)):Lj [] (fr::ts)=Lj fr ts:=by
 refine(Eh _ _).ext (Eh _ _) λb=>?_
 rw[Gc b (bH.gr a),Gc b a,M.EF];rfl
theorem AHG(a b:Option Pr):alive (a.or (alive b))=alive (a.or b):=by
 cases a with
 |some p=>rfl
 |none=>
  cases b with
  |none=>rfl
  |some c=>cases d:c.gone<;>simp[I9,d,alive]
def GM(ts:List (List Pr)):List Pr:=BK (Ah ts)
theorem ox {ts:List (List Pr)}:Sorted (GM ts)/\Be (GM ts):=⟨Uc (M.Du _),λx a=>M.Xd _ x (List.mem_filter.1 a).1⟩
theorem bH.left {fr:List Pr}{ts:List (List Pr)}(b:bH (fr::ts)):bH [fr,GM ts]:=⟨λl a=>by
  rcases List.mem_cons.1 a with rfl|a
  ·exact b.sorted _ (by simp)
  ·rw[List.mem_singleton.1 a];exact ox.1,λl a=>by
  rcases List.mem_cons.1 a with rfl|a
  ·exact b.aO _ (by simp)
  ·rw[List.mem_singleton.1 a];exact ox.2⟩
theorem Vu {fr:List Pr}{ts:List (List Pr)}(b:bH (fr::ts)):Lj fr [GM ts]=Lj fr ts:=by
 refine(Eh _ _).ext (Eh _ _) λa=>?_
 rw[Gc a (bH.left b),Gc a b,M.EF];have:Ag a (GM ts)=alive (Aw a ts):=by unfold GM;rw[ZI a (M.Du _),M.JL a (bH.tail b)]
 rw[this];have c:Aw a ([]:List (List Pr))=none:=rfl;rw[c,Option.or_none,AHG]
theorem ABi {fr:List Pr}{ts:List (List Pr)}(a:bH (fr::ts))(c:GM ts= []):Lj fr []=Lj fr ts:=by
 rw[<- Vu a,c];have e:bH [fr]:=⟨λl b=>by rw[List.mem_singleton.1 b];exact a.sorted _ (by simp),λl b=>by rw[List.mem_singleton.1 b];exact a.aO _ (by simp)⟩;have f:bH [fr,[]]:=by have:=bH.left a;rw[c] at this;exact this
 refine(Eh _ _).ext (Eh _ _) λd=>?_
 rw[Gc d e,Gc d f,M.EF];rfl
theorem rm(l:List Pr):(BK l).length<=l.length:=(Hc).length_le
theorem TY {d:Type}{b:Nat->List d}{t:Nat}: ∀ {t':Nat},t<=t'->(∀ a,t<=a->a<t'->b a= [])->(List.range t').flatMap b=(List.range t).flatMap b
 |0,e,_=>by
  have:t=0:=by omega
  rw[this]
 |t'+1,e,c=>by
  by_cases f:t=t'+1
  ·rw[f]
  ·rw[N5,FF,TY (t':=t') (by omega) λa g h=>c a g (by omega)];rw[AI,c t' (by omega) (by omega)];simp
theorem Zb {c:Type}{a:Nat->List c}{s t:Nat}(e:s<t)(d: ∀b,s<b->a b= []):(List.range t).flatMap a=(List.range s).flatMap a++a s:=by rw[TY (t:=s+1) (by omega) λb f _=>d b (by omega),N5,FF];simp
theorem yY {d:Type}{b c:Nat->List d}{t:Nat}(e: ∀a,a<t->b a=c a):(List.range t).flatMap b=(List.range t).flatMap c:=by unfold List.flatMap;congr 1;exact CT λa f=>e a (List.mem_range.1 f)
theorem rp {a:Bg}{s:Nat}{l:List Nt}{x:Nt}(c:a.N s=l++ [x])(d: ∀b,s<b->a.N b= [])(e:s<a.aY):Ak a=x:=by unfold Ak NF;rw[Zb e d,c,<-A4,Tl];rfl
theorem BD.gl {c:bR}{b:Bg}(d:BD c b){a:Nat}(e:a=0\/b.aR<=a):b.L a= []:=by simpa using d.log.jJ a e
theorem BD.gu {c:bR}{b:Bg}(d:BD c b){a:Nat}(e:a=0\/b.aY<=a):b.N a= []:=by simpa using d.note.jJ a e
theorem BD.ji {b:bR}{c:Bg}(d:BD b c){a:Nat}(e:a<=99999999)(f:b (aC nl a)=none):c.L a= []:=by
 by_cases g:a=0
 ·exact d.gl (.inl g)
 ·simpa using d.log.gK a (by omega) e f
theorem BD.jm {b:bR}{c:Bg}(d:BD b c){a:Nat}(e:a<=99999999)(f:b (aC nn a)=none):c.N a= []:=by
 by_cases g:a=0
 ·exact d.gu (.inl g)
 ·simpa using d.note.gK a (by omega) e f
theorem yZ(t a b:List Pr):BC t (a++b)=BC (BC t a) b:=HT
theorem za:Be ([]:List Pr):=λ_ a=>by cases a
theorem AKL:Sorted ([]:List Pr):=List.Pairwise.nil
theorem zd(a:Bg):Sorted (Ea a)/\Be (Ea a):=⟨M.Qz AKL,M.XG za⟩
theorem Gv.aO {l:List Pr}(t:Gv l):Sorted l/\Be l:=⟨t.inc,yN t.ok⟩
theorem BD.fM {f:bR}{a:Bg}(e:BD f a):bH (Ea a::(Ak a).names.map a.T):=by
 refine⟨λl b=>?_,λl b=>?_⟩<;>rcases List.mem_cons.1 b with rfl|b
 ·exact(zd a).1
 ·obtain⟨c,d,rfl⟩:=List.mem_map.1 b;exact(e.cM c d).2.aO.1
 ·exact(zd a).2
 ·obtain⟨c,d,rfl⟩:=List.mem_map.1 b;exact(e.cM c d).2.aO.2
def Sd(a:Bg)(s:Nat)(b:List Pr):Bg:= {a with L:=KL a.L s (a.L s++ [b]),aR:=max a.aR (s+1)}
theorem ze {g:bR}{a:Bg}(h:BD g a){s:Nat}{b:List Pr}(m:(Ak a).aU<=s)(e: ∀c,s<c->a.L c= []):IJ (Sd a s b)=IJ a++ [b]:=by
 have f:s<max a.aR (s+1):=by omega
 have i:IJ a=(List.range s).flatMap (λc=>if c<(Ak a).aU then [] else a.L c)++a.L s:=by
  have j:IJ a=(List.range (max a.aR (s+1))).flatMap λc=>if c<(Ak a).aU then [] else a.L c:=by
   refine(TY (by omega) λc k n=>?_).symm;split
   ·rfl
   ·exact h.gl (.inr k)
  rw[j,Zb (s:=s) f (λc d=>by
   split
   ·rfl
   ·exact e c d),if_neg (by omega)]
 have l:IJ (Sd a s b)=(List.range s).flatMap (λc=>if c<(Ak a).aU then [] else KL a.L s (a.L s++ [b]) c)++KL a.L s (a.L s++ [b]) s:=by
  show(List.range (max a.aR (s+1))).flatMap (λc=>if c<(Ak a).aU then [] else KL a.L s (a.L s++ [b]) c)=_;rw[Zb (s:=s) f (λc d=>by
   split
   ·rfl
   ·rw[Ei (by omega)];exact e c d),if_neg (by omega)]
 rw[i,l,DK,A4];congr 1;exact yY λc d=>by rw[Ei (by omega)]
theorem AO5 {f:bR}{a:Bg}(c:BD f a){s:Nat}{b:List Pr}(g:(Ak a).aU<=s)(h: ∀d,s<d->a.L d= [])(i:YF b):Ea (Sd a s b)=BC (Ea a) b/\cz (Sd a s b)=dc (cz a) b:=by
 have e:Ea (Sd a s b)=BC (Ea a) b:=by unfold Ea;rw[ze c g h,N6,yZ];simp
 refine⟨e,?_⟩;have:=yT c.fM (yN i.ok);unfold cz;rw[e];exact this
theorem AQN {h G:bR}{d:Bg}(g:BD h d){s:Nat}{b:List Pr}(j:1<=s/\s+1<=99999999)(k:YF b)(l: ∀a,1<=a->a<=99999999->a≠s->NS (h (aC nl a)) (G (aC nl a)))(m: ∀a,1<=a->a<=99999999->NS (h (aC nn a)) (G (aC nn a)))
  (n: ∀a,NS (h (aX a)) (G (aX a))) (o: ∀x,(∀ a,x≠aC nl a)->G x≠none->h x≠none) (p: ∃x,G (aC nl s)=some (x,bo)/\Mx (bl x) ((d.L s++ [b]).map (BM s))):BD G (Sd d s b):=by
 have q: ∀a∈(Ak d).names,G (aX a)=some (AX (Ja (d.T a)),bo)/\Gv (d.T a):=λa r=>
  let ⟨t,i⟩:=g.cM a r
  ⟨Uy (n a) i t,i⟩
 refine⟨?_,?_,q,λa c e=>?_,g.dL,λx u hd=>?_,by have:=g.cC;refine⟨?_,?_,this.2.2.1,this.2.2.2⟩<;>simp only[Sd]<;>omega⟩
 ·have:=g.log.put (G:=G) (dM:=max d.aR (s+1)) (s:=s) (v:=(d.L s++ [b]).map (BM s)) ⟨j.1,by omega⟩ (by omega) (λa w y z=>l a w y z) (.inr p) (by omega);have f:(KL (λa=>(d.L a).map (BM a)) s ((d.L s++ [b]).map (BM s)))=λa=>((Sd d s b).L a).map (BM a):=by
   funext a;show _=(KL d.L s (d.L s++ [b]) a).map (BM a);by_cases f:a=s
   ·subst f;rw[DK,DK]
   ·rw[Ei f,Ei f]
  rw[f] at this;exact this
 ·exact g.note.aM g.cC.2.2.1 m
 ·by_cases f:a=s
  ·subst f;have e:c∈KL d.L a (d.L a++ [b]) a:=e;rw[DK] at e;rcases List.mem_append.1 e with e|e
   ·exact g.fW a c e
   ·rw[List.mem_singleton.1 e];exact k
  ·have e:c∈KL d.L s (d.L s++ [b]) a:=e;rw[Ei f] at e;exact g.fW a c e
 ·exact g.dr x (o x (λa f=>by rw[f,Qh] at hd;cases hd) u) hd
def addN(a:Bg)(s:Nat)(x:Nt)(T:Nat->List Pr):Bg:= {a with N:=KL a.N s [x],T:=T,aY:=max a.aY (s+1)}
theorem zf {a:Bg}{s:Nat}{x:Nt}{T:Nat->List Pr}(c: ∀b,s<b->a.N b= []):Ak (addN a s x T)=x:=by
 refine rp (s:=s) (l:= []) ?_ (λb d=>?_) ?_
 ·show KL a.N s [x] s=_;rw[DK];rfl
 ·show KL a.N s [x] b= [];rw[Ei (by omega)];exact c b d
 ·show s<max a.aY (s+1);omega
theorem zg {g G:bR}{d:Bg}(f:BD g d){s:Nat}{x:Nt}{T:Nat->List Pr}(i:1<=s/\s+1<=99999999)(j:gH x)(k: ∀a,s<a->d.N a= [])(l: ∀a,1<=a->a<=99999999->NS (g (aC nl a)) (G (aC nl a)))(m: ∀a,1<=a->a<=99999999->a≠s->NS (g (aC nn a)) (G (aC nn a)))
  (n: ∀a∈x.names,G (aX a)=some (AX (Ja (T a)),bo)/\Gv (T a)) (o: ∀x,(∀ a,x≠aC nn a)->(∀ a,x≠aX a)->G x≠none->g x≠none) (p: ∃c,G (aC nn s)=some (c,bo)/\Mx (bl c) [Dz x]):BD G (addN d s x T):=by
 refine⟨f.log.aM f.cC.1 l,?_,λa h=>?_,f.fW,λa c e=>?_,λc e hd=>?_,by have:=f.cC;refine⟨this.1,this.2.1,?_,?_⟩<;>simp only[addN]<;>omega⟩
 ·have:=f.note.put (G:=G) (dM:=max d.aY (s+1)) (s:=s) (v:= [Dz x]) ⟨i.1,by omega⟩ (by omega) (λa q r t=>m a q r t) (.inr p) (by omega);have b:(KL (λa=>(d.N a).map Dz) s [Dz x])=λa=>((addN d s x T).N a).map Dz:=by
   funext a;show _=(KL d.N s [x] a).map Dz;by_cases b:a=s
   ·subst b;rw[DK,DK];rfl
   ·rw[Ei b,Ei b]
  rw[b] at this;exact this
 ·rw[zf k] at h;exact n a h
 ·have e:c∈KL d.N s [x] a:=e;by_cases b:a=s
  ·rw[b,DK] at e;rw[List.mem_singleton.1 e];exact j
  ·rw[Ei b] at e;exact f.dL a c e
 ·by_cases b: ∃a,c=aX a
  ·exact b
  ·exact f.dr c (o c (λa b=>by rw[b,TK] at hd;cases hd) (λa u=>b ⟨a,u⟩) e) hd
theorem BD.fO {f G:bR}{e:Bg}(g:BD f e)(b: ∀x,(∀ a,a∉(Ak e).names->x≠aX a)->G x=f x):BD G e:=by
 refine g.same (λa _ _=> .inl (b _ λc _=>Ls a c)) (λa _ _=> .inl (b _ λc _=>OX a c)) (λa h=> .inl (b _ λc i d=>i (by rw[<- JP d];exact h))) λx j=>?_
 by_cases d: ∃a,x=aX a
 ·exact .inr d
 ·exact .inl (by rw[<- b x λa _ k=>d ⟨a,k⟩];exact j)
open Classical in
noncomputable def NQ (b:Bg) (G:bR):Bg:= {b with L:=λa=>if a<=99999999/\G (aC nl a)=none then [] else b.L a}
open Classical in
noncomputable def oB (b:Bg) (G:bR):Bg:= {b with N:=λa=>if a<=99999999/\G (aC nn a)=none then [] else b.N a}
theorem AJa {b:Bg}{f G:bR}(g:BD f b)(h: ∀a,a<=99999999->G (aC nl a)=f (aC nl a)\/(G (aC nl a)=none/\a<(Ak b).aU)):IJ (NQ b G)=IJ b:=by
 unfold IJ;refine yY λa i=>?_
 show(if a<(Ak b).aU then [] else if a<=99999999/\G (aC nl a)=none then [] else b.L a)=_;by_cases c:a<(Ak b).aU
 ·rw[if_pos c,if_pos c]
 ·rw[if_neg c,if_neg c];split
  ·rename_i d;rcases h a d.1 with e|e
   ·rw[e] at d;exact(g.ji d.1 d.2).symm
   ·exact absurd e.2 c
  ·rfl
theorem AO9 {i G:bR}{d:Bg}(c:BD i d)(n: ∀a,a<=99999999->G (aC nl a)=i (aC nl a)\/(G (aC nl a)=none/\a<(Ak d).aU))(j: ∀x,(∀ a,a<=99999999->x≠aC nl a)->G x=i x):BD G (NQ d G):=by
 refine⟨c.log.drop (λa g=>?_) (λa k=>?_),c.note.aM c.cC.2.2.1 λa q g=> .inl (j _ λl _ e=>Vq l a e.symm),λa k=>?_,λa b f=>?_,c.dL,λx o hd=>?_,c.cC⟩
 ·show _\/(G (aC nl a)=none/\((if a<=99999999/\G (aC nl a)=none then [] else d.L a).map (BM a))= []);rcases n a g with h|h
  ·by_cases m:G (aC nl a)=none
   ·right;exact⟨m,by rw[if_pos ⟨g,m⟩];rfl⟩
   ·left;refine⟨h,?_⟩;show((if a<=99999999/\G (aC nl a)=none then [] else d.L a).map (BM a))=_;rw[if_neg λp=>m p.2]
  ·right;exact⟨h.1,by rw[if_pos ⟨g,h.1⟩];rfl⟩
 ·show((if a<=99999999/\G (aC nl a)=none then [] else d.L a).map (BM a))= [];split
  ·rfl
  ·rw[c.gl k];rfl
 ·rw[j _ λl _ e=>Ls l a e.symm];exact c.cM a k
 ·have f:b∈(if a<=99999999/\G (aC nl a)=none then [] else d.L a):=f;split at f
  ·cases f
  ·exact c.fW a b f
 ·exact c.dr x (by rw[<- j x λa _ e=>by rw[e,Qh] at hd;cases hd];exact o) hd
theorem zi {b:Bg}{G:bR}{s:Nat}{x:Nt}(d:b.N s= [x])(e: ∀a,s<a->b.N a= [])(f:s<b.aY)(g:G (aC nn s)≠none):Ak (oB b G)=x:=by
 refine rp (s:=s) (l:= []) ?_ (λa c=>?_) f
 ·show(if s<=99999999/\G (aC nn s)=none then [] else b.N s)=_;rw[if_neg λc=>g c.2];exact d
 ·show(if a<=99999999/\G (aC nn a)=none then [] else b.N a)= [];split
  ·rfl
  ·exact e a c
theorem APT {j G:bR}{c:Bg}(d:BD j c){s:Nat}{x:Nt}(o:c.N s= [x])(g: ∀a,s<a->c.N a= [])(p:s<c.aY)(r:G (aC nn s)≠none)(t: ∀a,a<=99999999->G (aC nn a)=j (aC nn a)\/G (aC nn a)=none)(k: ∀x,(∀ a,a<=99999999->x≠aC nn a)->G x=j x):BD G (oB c G):=by
 have u:Ak (oB c G)=Ak c:=by rw[zi o g p r,rp (l:= []) o g p]
 refine⟨d.log.aM d.cC.1 λa y h=> .inl (k _ λm _ e=>Vq a m e),d.note.drop (λa h=>?_) (λa g=>?_),λa q=>?_,d.fW,λa b f=>?_,λx v hd=>?_,d.cC⟩
 ·rcases t a h with i|i
  ·by_cases n:G (aC nn a)=none
   ·right;refine⟨n,?_⟩;show((if a<=99999999/\G (aC nn a)=none then [] else c.N a).map Dz)= [];rw[if_pos ⟨h,n⟩];rfl
   ·left;refine⟨i,?_⟩;show((if a<=99999999/\G (aC nn a)=none then [] else c.N a).map Dz)=_;rw[if_neg λw=>n w.2]
  ·right;refine⟨i,?_⟩;show((if a<=99999999/\G (aC nn a)=none then [] else c.N a).map Dz)= [];rw[if_pos ⟨h,i⟩];rfl
 ·show((if a<=99999999/\G (aC nn a)=none then [] else c.N a).map Dz)= [];split
  ·rfl
  ·rw[d.gu g];rfl
 ·rw[u] at q;rw[k _ λm _ e=>OX m a e.symm];exact d.cM a q
 ·have f:b∈(if a<=99999999/\G (aC nn a)=none then [] else c.N a):=f;split at f
  ·cases f
  ·exact d.dL a b f
 ·exact d.dr x (by rw[<- k x λa _ e=>by rw[e,TK] at hd;cases hd];exact v) hd
structure lY (D:Bg) (s:Nat) (x:Nt) (T:Nat->List Pr) (D':Bg):Prop where
 L:D'.L=D.L
 aR:D'.aR=D.aR
 aY:D'.aY<=max D.aY (s+1)
 last:(Ak D'=Ak D/\D'.T=D.T)\/(Ak D'=x/\D'.T=T)
theorem AOF {a:Bg}{s:Nat}{x:Nt}{T:Nat->List Pr}(c: ∀b,s<b->a.N b= []):lY a s x T (addN a s x T):=⟨rfl,rfl,A0 _,.inr ⟨zf c,rfl⟩⟩
theorem API {a:Bg}{s:Nat}{x:Nt}{T:Nat->List Pr}:lY a s x T a:=⟨rfl,rfl,by omega,.inl ⟨rfl,rfl⟩⟩
theorem ANC {x:Nt}(c:gH x)(a:(Dz x).length<=1048576):Mx (bl (AX (Cb (Dz x)))) [Dz x]:=by rw[EN];have:=RS (rs:= [Dz x]) (λd b=>by rw[List.mem_singleton.1 b];exact a) (t:= []) Tt;simpa using this
theorem AM1 {c h:bR}{d:Bg}{s:Nat}{x:Nt}{T:Nat->List Pr}(e:BD c d)(n:1<=s/\s+1<=99999999)(i:gH x)(o:(Dz x).length<=1048576)(p: ∀a,s<=a->a<=99999999->c (aC nn a)=none)
  (q: ∀a∈x.names,c (aX a)=some (AX (Ja (T a)),bo)/\Gv (T a)) (b: ∀f,h f=if f=aC nn s then some (AX (Cb (Dz x)),bo) else c f):BD h (addN d s x T)/\ ∀a,s<a->d.N a= []:=by
 have j: ∀a,s<a->d.N a= []:=λa k=>by
  by_cases l:a<=99999999
  ·exact e.jm l (p a (by omega) l)
  ·exact e.gu (.inr (by have:=e.cC;omega))
 refine⟨zg e n i j (λa _ _=> .inl ?_) (λa _ _ r=> .inl ?_) (λa k=>?_) (λf t _ m=>?_) ⟨_,by rw[b,if_pos rfl],ANC i o⟩,j⟩
 ·rw[b,if_neg (Vq a s)]
 ·rw[b,if_neg λg=>r (IZ g)]
 ·rw[b,if_neg λg=>OX s a g.symm];exact q a k
 ·rw[b,if_neg (t s)] at m;exact m
theorem AMD {g F1 G:bR}{e:Bg}{s:Nat}{x:Nt}{T:Nat->List Pr}(b:BD g e)(B:1<=s/\s+1<=99999999)(Q:gH x)(R:(Dz x).length<=1048576)(C: ∀a,s<=a->a<=99999999->g (aC nn a)=none)
  (z: ∀a∈x.names,g (aX a)=some (AX (Ja (T a)),bo)/\Gv (T a)) (j: ∀f,F1 f=if f=aC nn s then some (bo,AX (Cb (Dz x))) else g f) (c:MJ F1 G): ∃k,BD G k/\lY e s x T k:=by
 have D: ∀a,s<a->e.N a= []:=λa u=>by
  by_cases E:a<=99999999
  ·exact b.jm E (C a (by omega) E)
  ·exact b.gu (.inr (by have:=b.cC;omega))
 have S:e.N s= []:=b.jm (by omega) (C s (A0 _) (by omega));have F: ∀a,1<=a->a<=99999999->NS (g (aC nl a)) (G (aC nl a)):=λa m n=>by
  have d:F1 (aC nl a)=g (aC nl a):=by rw[j,if_neg (Vq a s)]
  have:=c.bU (x:=aC nl a) λp h=>(b.log.has a p m n (d▸h)).1
  rwa [d] at this
 have H: ∀a,1<=a->a<=99999999->a≠s->NS (g (aC nn a)) (G (aC nn a)):=λa m n A=>by
  have d:F1 (aC nn a)=g (aC nn a):=by rw[j,if_neg λd=>A (IZ d)]
  have:=c.bU (x:=aC nn a) λp h=>(b.note.has a p m n (d▸h)).1
  rwa [d] at this
 have I: ∀a l,g (aX a)=some (AX (Ja l),bo)->Gv l->G (aX a)=some (AX (Ja l),bo):=λa l w t=>by
  have d:F1 (aX a)=g (aX a):=by rw[j,if_neg λd=>OX s a d.symm]
  have:=c.bU (x:=aX a) λp h=>by rw[d,w] at h;cases h;rfl
  rw[d] at this;exact Uy this t w
 have J: ∀f,(∀ a,f≠aC nn a)->G f≠none->g f≠none:=λf o U w=>U (by
  have:=c f;rw[j,if_neg (o s),w] at this;exact this)
 have K:=c (aC nn s);rw[j,if_pos rfl] at K;obtain⟨V,y⟩:=K;have i:=yA (rs:= []) (r:=Dz x) (λr L=>by rw[CI] at L;rw[List.mem_singleton.1 L];exact R) V;have W:AX (aK [])=bo:=rfl;rw[W] at i;have M:(G (aC nn s)=none\/ ∃f,G (aC nn s)=some (f,bo)/\Mx (bl f) [])-> ∃k,BD G k/\lY e s x T k:=λX=>by
  have Y:NF {e with aY:=max e.aY (s+1)}=NF e:=TY (by show e.aY<=max e.aY (s+1);omega) λa q _=>b.gu (.inr q)
  have N:Ak {e with aY:=max e.aY (s+1)}=Ak e:=by unfold Ak;rw[Y]
  refine⟨{e with aY:=max e.aY (s+1)},⟨b.log.aM b.cC.1 F,?_,λa O=>?_,b.fW,b.dL,λf o hd=>?_,by have:=b.cC;refine⟨this.1,this.2.1,?_,?_⟩<;>simp only[]<;>omega⟩,⟨rfl,rfl,A0 _,.inl ⟨N,rfl⟩⟩⟩
  ·have:=b.note.put (G:=G) (dM:=max e.aY (s+1)) (s:=s) (v:= []) ⟨B.1,by omega⟩ (by omega) (λa m n A=>H a m n A) (X.imp (λb=>⟨b,rfl⟩) λb=>b) (by omega);have d:(KL (λa=>(e.N a).map Dz) s [])=λa=>(e.N a).map Dz:=by
    funext a;by_cases d:a=s
    ·subst d;rw[DK,S];rfl
    ·rw[Ei d]
   rw[d] at this;exact this
  ·rw[N] at O;obtain⟨q,P⟩:=b.cM a O;exact⟨I a _ q P,P⟩
  ·exact b.dr f (J f (λa d=>by rw[d,TK] at hd;cases hd) o) hd
 split at y
 ·exact M (.inl y)
 ·rcases i with i|i
  ·exact M (.inr ⟨_,y,i⟩)
  ·exact⟨_,zg b B Q D F H (λa u=>⟨I a _ (z a u).1 (z a u).2,(z a u).2⟩) (λf q _ o=>J f q o) ⟨_,y,i⟩,AOF D⟩
theorem zj {f G:bR}{b:Bg}{s:Nat}{x:Nt}{T:Nat->List Pr}(m:BD f (addN b s x T))(n: ∀a,s<a->b.N a= [])(o:f (aC nn s)≠none)(g: ∀d,G d=f d\/(G d=none/\ ∃a,a<s/\a<=99999999/\d=aC nn a)): ∃e,BD G e/\Ak e=x/\e.T=T/\e.L=b.L/\e.aR=b.aR/\e.aY=max b.aY (s+1):=by
 have i:(addN b s x T).N s= [x]:=by show KL b.N s [x] s=_;rw[DK]
 have j: ∀a,s<a->(addN b s x T).N a= []:=λa p=>by show KL b.N s [x] a=_;rw[Ei (by omega)];exact n a p
 have k:s<(addN b s x T).aY:=by show s<max b.aY (s+1);omega
 have l:G (aC nn s)≠none:=by
  rcases g (aC nn s) with c|⟨_,a,c,_,h⟩
  ·rw[c];exact o
  ·have:=IZ h;omega
 refine⟨oB (addN b s x T) G,APT m i j k l (λa t=>?_) λd q=>?_,zi i j k l,rfl,rfl,rfl,rfl⟩
 ·rcases g (aC nn a) with c|c
  ·exact .inl c
  ·exact .inr c.1
 ·rcases g d with c|⟨_,a,_,r,h⟩
  ·exact c
  ·exact absurd h (q a r)
end Go.Lf.G
namespace Go.Lf
open Go
variable {α : Type} {E : cy α} {A : ak} {P : Q1}
def gF(a:Array J0):Nat->List J0->Array J0
 |_,[]=>a
 |o,v::b=>gF (a.setIfInBounds o v) (o+1) b
theorem IM: ∀(c:List J0) (a:Array J0) (b:Nat),(gF a b c).size=a.size
 | [],_,_=>rfl
 |v::d,a,b=>by unfold gF;rw[IM d];simp
theorem Nz: ∀(c:List J0) (b:Array J0) (a:Nat),a+c.length<=b.size->(gF b a c).toList=b.toList.take a++c++b.toList.drop (a+c.length)
 | [],b,a,e=>by simp[gF]
 |v::d,b,a,e=>by
  have f:b.size=b.toList.length:=by simp
  simp only[A6] at e;unfold gF;rw[Nz d _ (a+1) (by simp;omega)];rw[Fm,AD,List.take_set_of_le (A0 _),HJ (by omega),List.drop_set_of_lt (by omega)];simp only[CN,A4,A0t,A6,F0,CI];rw[show a+1+d.length=a+(d.length+1) by omega]
theorem cS {A:ak}: ∀(h:List J0) (c:Nat) {d:aa} {n b:Nat} {f:Array J0} {T:Q7},d[b]? =some (.cells f T (0,0))-> ∃e,(A.at d n).setCells b c h=A.at e n/\e[b]? =some (.cells (gF f c h) T (0,0))/\Mod (· =b) d e/\e.size=d.size
 | [],c,d,n,b,f,T,g=>⟨d,rfl,g,Mod.refl,rfl⟩
 |v::i,c,d,n,b,f,T,g=>by
  have j:(cZ d ⟨b,c,none⟩ v)[b]? =some (.cells (f.setIfInBounds c v) T (0,0)):=ue g;obtain⟨e,k,l,m,o⟩:=cS (A:=A) i (c+1) (n:=n) j;refine⟨e,?_,l,(Mod.set (S:=(· =b)) (a:=⟨b,c,none⟩) rfl).trans m,by rw[o,Ze]⟩;show((A.at d n).setCell ⟨b,c,none⟩ v).setCells b (c+1) i=_;rw[<- k];rfl
theorem APA {t h j T:Q7}{i:TypeInfo}{f:J0}(n:P.underlying t=some (.slice T))(o:P.underlying h=some (.int J9))(q:P.info? T=some i)(r:i.zero=some f)(D:i.size=1)(s:f.cells= #[f]){a:aa}{p:Q2}{cap b:Nat}{K:Sl->aa->Prop}
  (u:0<b) (F:cap<b) (w:b*i.bytes<=140737488355328) (k:b<=maxLen) (G:0<i.bytes)
  (x: ∀e c l,e[a.size]? =some (.cells l T (0,0))->l.size=c->b<=c->c<=maxLen->Ext a e->e.size=a.size+1->K ⟨some ⟨a.size,0,none⟩,b,c⟩ e):
  BB A P (Builtin.append_ #[t,h] j #[.slice p 0 cap,.int J9 (b:Int)]) a λv e=> ∃g:Sl,v= .slice g.p g.len g.cap/\K g e:=by
 intro d;have y:(Builtin.firstCells i.size 0 (.slice p 0 cap)).run P (A.at a d).drew= .ok ([]:List J0).toArray (A.at a d).drew:=by cases p<;>simp[Builtin.firstCells,loadCells,loadCellsFrom]
 have z:Builtin.nextslicecap (0+b) cap*i.bytes<=281474976710656:=by rw[AK];exact growslice_fits (by omega) w
 have m:=Lib.run_append_grow_zeros (A.at a d) t h j T i f J9 J9 n o q r p 0 cap [] y b u (by omega) (by omega) (by simp only[maxLen] at k;omega) (by omega) z;simp only[AK] at m;have B:=grownCap_ge (A.at a d) b cap T;have C:=grownCap_le_maxLen (A.at a d) b cap T k;generalize grownCap (A.at a d) b cap T=c at*
 refine⟨_,_,d+1,m,⟨some ⟨a.size,0,none⟩,b,c⟩,rfl,x _ c _ (PJ ..) ?_ B C (Mod.push a _) (by show(a.push _).size=a.size+1;simp)⟩;simp[Builtin.zeroCells,s];omega
theorem nH {t k T:Q7}(q:P.underlying t=some (.slice T))(r:(P.info? T).map (·.size)=some 1){d:aa}{b e g l h m:Nat}{a:Q6}{i:Array J0}{vs:List J0}{K:Int->aa->Prop}
  (j:d[b]? =some (.cells i T (0,0))) (s:vs.length=min h g) (u: ∀f v,vs[f]? =some v->ag d (a.add f)=some v) (G:e+vs.length<=i.size) (w: ∀v∈vs,Kh v=true)
  (x: ∀c,c[b]? =some (.cells (gF i e vs) T (0,0))->Mod (· =b) d c->c.size=d.size->K (vs.length:Int) c):
  BB A P (Builtin.copy_ #[t,t] k #[.slice (some ⟨b,e,none⟩) g l,.slice (some a) h m]) d λv c=> ∃o:Int,v= .int J9 o/\K o c:=by
 intro n;have p:=run_copy_cells (P:=P) (A.at d n) t t k T b e g l a h m vs q r s u
  (λf y=>by
   show(ag d ⟨b,e+f,none⟩).isSome=true;rw[Ha j,CH (by omega)];rfl)
  (λf y=>O5 j) (λv z=>PI (w v z))
 obtain⟨c,B,C,D,F⟩:=cS (A:=A) vs e (n:=n) j;rw[B] at p;exact⟨_,c,n,p,_,rfl,x c C D F⟩
def nI(A:ak)(P:Q1)(t b:Q7)(h fr:Q8)(s:Sl)(i:Int)(v:Sl)(e:aa)(d:A2O):Prop:=
 aH ((0:Int)<=i/\i<=((s.len:Nat):Int))<|
 ae (((v.len:Nat):Int)==(0:Int)) (
  d (.slice s.p s.len s.cap) e) (
  ae (i==((s.len:Nat):Int)) (
   BB A P (Builtin.append_ #[t,t] t #[.slice s.p s.len s.cap,.slice v.p v.len v.cap]) e λv1 j=> ∃c:Sl,v1= .slice c.p c.len c.cap/\(
   d (.slice c.p c.len c.cap) j)) (
   ae (decide ((J8 J9 (((s.len:Nat):Int)+((v.len:Nat):Int)))>((s.cap:Nat):Int))) (
    aH ((0:Int)<=i/\i<=((s.cap:Nat):Int))<|
    BB A P (Builtin.append_ #[t,b] t #[.slice (Ay s.p s.cap 0 1) (i.toNat-0) (s.cap-0),.int J9 (J8 J9 ((J8 J9 (((s.len:Nat):Int)+((v.len:Nat):Int)))-i))]) e λv2 k=> ∃a:Sl,v2= .slice a.p a.len a.cap/\(
    aH ((0:Int)<=i/\i<=((a.len:Nat):Int))<|
    BB A P (Builtin.copy_ #[t,t] b #[.slice (Ay a.p a.cap i.toNat 1) (a.len-i.toNat) (a.cap-i.toNat),.slice v.p v.len v.cap]) k λl m=> ∃n:Int,l= .int J9 n/\(
    aH ((0:Int)<=(J8 J9 (i+((v.len:Nat):Int)))/\(J8 J9 (i+((v.len:Nat):Int)))<=((a.len:Nat):Int))<|
    aH ((0:Int)<=i/\i<=((s.len:Nat):Int))<|
    BB A P (Builtin.copy_ #[t,t] b #[.slice (Ay a.p a.cap ((J8 J9 (i+((v.len:Nat):Int))).toNat) 1) (a.len-((J8 J9 (i+((v.len:Nat):Int))).toNat)) (a.cap-((J8 J9 (i+((v.len:Nat):Int))).toNat)),.slice (Ay s.p s.cap i.toNat 1) (s.len-i.toNat) (s.cap-i.toNat)]) m λo p=> ∃q:Int,o= .int J9 q/\(
    d (.slice a.p a.len a.cap) p)))) (
    aH ((0:Int)<=(J8 J9 (((s.len:Nat):Int)+((v.len:Nat):Int)))/\(J8 J9 (((s.len:Nat):Int)+((v.len:Nat):Int)))<=((s.cap:Nat):Int))<|
    aH ((0:Int)<=(J8 J9 (i+((v.len:Nat):Int)))/\(J8 J9 (i+((v.len:Nat):Int)))<=(((((J8 J9 (((s.len:Nat):Int)+((v.len:Nat):Int))).toNat)-0):Nat):Int))<|
    mT A P h #[.slice v.p v.len v.cap,.slice (Ay (Ay s.p s.cap 0 1) (s.cap-0) ((J8 J9 (i+((v.len:Nat):Int))).toNat) 1) ((((J8 J9 (((s.len:Nat):Int)+((v.len:Nat):Int))).toNat)-0)-((J8 J9 (i+((v.len:Nat):Int))).toNat)) ((s.cap-0)-((J8 J9 (i+((v.len:Nat):Int))).toNat))] e λr f=> ∃g:Bool,r= .bool g/\(
    ae (!g) (
     aH ((0:Int)<=(J8 J9 (i+((v.len:Nat):Int)))/\(J8 J9 (i+((v.len:Nat):Int)))<=(((((J8 J9 (((s.len:Nat):Int)+((v.len:Nat):Int))).toNat)-0):Nat):Int))<|
     aH ((0:Int)<=i/\i<=(((((J8 J9 (((s.len:Nat):Int)+((v.len:Nat):Int))).toNat)-0):Nat):Int))<|
     BB A P (Builtin.copy_ #[t,t] b #[.slice (Ay (Ay s.p s.cap 0 1) (s.cap-0) ((J8 J9 (i+((v.len:Nat):Int))).toNat) 1) ((((J8 J9 (((s.len:Nat):Int)+((v.len:Nat):Int))).toNat)-0)-((J8 J9 (i+((v.len:Nat):Int))).toNat)) ((s.cap-0)-((J8 J9 (i+((v.len:Nat):Int))).toNat)),.slice (Ay (Ay s.p s.cap 0 1) (s.cap-0) i.toNat 1) ((((J8 J9 (((s.len:Nat):Int)+((v.len:Nat):Int))).toNat)-0)-i.toNat) ((s.cap-0)-i.toNat)]) f λu w=> ∃x:Int,u= .int J9 x/\(
     aH ((0:Int)<=i/\i<=(((((J8 J9 (((s.len:Nat):Int)+((v.len:Nat):Int))).toNat)-0):Nat):Int))<|
     BB A P (Builtin.copy_ #[t,t] b #[.slice (Ay (Ay s.p s.cap 0 1) (s.cap-0) i.toNat 1) ((((J8 J9 (((s.len:Nat):Int)+((v.len:Nat):Int))).toNat)-0)-i.toNat) ((s.cap-0)-i.toNat),.slice v.p v.len v.cap]) w λy z=> ∃B:Int,y= .int J9 B/\(
     d (.slice (Ay s.p s.cap 0 1) (((J8 J9 (((s.len:Nat):Int)+((v.len:Nat):Int))).toNat)-0) (s.cap-0)) z))) (
     aH ((0:Int)<=((s.len:Nat):Int)/\((s.len:Nat):Int)<=(((((J8 J9 (((s.len:Nat):Int)+((v.len:Nat):Int))).toNat)-0):Nat):Int))<|
     BB A P (Builtin.copy_ #[t,t] b #[.slice (Ay (Ay s.p s.cap 0 1) (s.cap-0) (((s.len:Nat):Int).toNat) 1) ((((J8 J9 (((s.len:Nat):Int)+((v.len:Nat):Int))).toNat)-0)-(((s.len:Nat):Int).toNat)) ((s.cap-0)-(((s.len:Nat):Int).toNat)),.slice v.p v.len v.cap]) f λC D=> ∃F:Int,C= .int J9 F/\(
     aH ((0:Int)<=i/\i<=(((((J8 J9 (((s.len:Nat):Int)+((v.len:Nat):Int))).toNat)-0):Nat):Int))<|
     AA A P fr #[.slice (Ay (Ay s.p s.cap 0 1) (s.cap-0) i.toNat 1) ((((J8 J9 (((s.len:Nat):Int)+((v.len:Nat):Int))).toNat)-0)-i.toNat) ((s.cap-0)-i.toNat),.int J9 ((v.len:Nat):Int)] D λG H=>G= .tuple #[]/\(
     d (.slice (Ay s.p s.cap 0 1) (((J8 J9 (((s.len:Nat):Int)+((v.len:Nat):Int))).toNat)-0) (s.cap-0)) H)))))))
theorem WM {e:aa}{b:Nat}{f:Array J0}{T:Q7}{fr:Nat×Nat}(h:e[b]? =some (.cells f T fr)){a:List J0}{g:Nat}(i:(f.toList.drop g).take a.length=a): ∀c v,a[c]? =some v->ag e ((⟨b,g,none⟩:Q6).add c)=some v:=λc v d=>by
 rw[BZ,Ha h];have j:=(List.getElem?_eq_some_iff.1 d).1;rw[<- i,E0,if_pos j,Bm] at d;simpa using d
theorem vY {t af T ah:Q7}{ai fr:Q8}{G:J0}{H:Nat}(aj:P7 P t T 1 H=true)(k:E.w=1)(aD:P.underlying af=some (.int J9))(I:(P.info? T).bind (·.zero)=some G)(aE:G.cells= #[G])(hB:0<H)
  (aF: ∀args J,(callFunc ai args).run P J=((Extern.SlicesOverlaps.overlaps #[t,t] #[ah] args).run P J).andThen λv aG=> .ok (.value v) aG)
  {a:aa} {s:Sl} {l:List α} {x:α} {e:J0} {f:Nat} (S:Own E T a s l) (K:E.enc x= [e]) (o:a[f]? =some (.cells #[e] T (0,0))) (aH:s.af≠some f) (ak:l.length+1<=maxLen) (al:(l.length+1)*H<=140737488355328) {am:A2O}
  (U: ∀m r,Own E T r m (x::l)->Mod (λb=>s.af=some b) a r->(∀ b,m.af=some b->s.af=some b\/a.size<=b)->am (.slice m.p m.len m.cap) r):
  nI A P t af ai fr s (0:Int) ⟨some ⟨f,0,none⟩,1,1⟩ a am:=by
 unfold nI;have V:=S.len;have bj:maxLen<=9223372036854775807:=by simp[maxLen]
 obtain⟨q,i,z,w,an,W,aI,bk⟩:=Zy aj;have aJ:z=G:=by rw[w] at I;simp only[Hi] at I;rw[an] at I;exact Bs I
 subst aJ;have ao:Kh e=true:=E.one x e (by rw[K];simp);have bm:=Af o;refine⟨⟨GS _,by omega⟩,ae.no rfl ?_⟩;refine ae.intro (λy=>?_) (λy=>?_)
 ·have y:l= []:=by
   have:(0:Int)=((s.len:Nat):Int):=by simpa using y
   exact CD (by omega)
  subst y;have aK:View E a ⟨some ⟨f,0,none⟩,1,1⟩ [x]:=⟨rfl,A0 _,λj ap n=>⟨_,rfl,λaL u L=>by
   have aM:j=0:=by have:=(List.getElem?_eq_some_iff.1 n).1;simpa using this
   subst aM;simp only[Hn,BY] at n;subst n;rw[K] at L;have aO:aL=0:=by have:=(List.getElem?_eq_some_iff.1 L).1;simpa using this
   subst aO;simp only[Hn,BY] at L;subst L;rw[HL,BZ,BZ];exact AL o rfl⟩⟩
  have aP:P7 P t T E.w H=true:=by rw[k];exact aj
  exact Gd (s:=s) (src:=⟨some ⟨f,0,none⟩,1,1⟩) aP S aK (by simpa using al) (by simpa using ak) λm r aQ aR aS _=>U m r aQ aR aS
 ·have aT:0<l.length:=by
   have: ¬(0:Int)=((s.len:Nat):Int):=by simpa using y
   omega
  rcases S.row with⟨rfl,rfl⟩|⟨g,M,B,C,bn,aU,N,X⟩
  ·simp at aT
  ·rw[k,By] at N X;have d:(l.flatMap E.enc).length=l.length:=by rw[Jl,k,By]
   have aq: ∀v∈l.flatMap E.enc,Kh v=true:=λv D=>by
    obtain⟨ap,_,aV⟩:=List.mem_flatMap.1 D;exact E.one ap v aV
   have ar:g≠f:=λh=>aH (by rw[Sl.af,B,h];rfl)
   have bo:=Af C;have aW:J8 J9 (((s.len:Nat):Int)+(((1:Nat)):Int))=((l.length+1:Nat):Int):=by rw[V];exact AZ (by omega)
   have aX:J8 J9 ((0:Int)+(((1:Nat)):Int))=((1:Nat):Int):=by decide
   have aY:J8 J9 (((l.length+1:Nat):Int)-(0:Int))=((l.length+1:Nat):Int):=by rw[Int.sub_zero];exact Fu (by omega)
   have O:(P.info? T).map (·.size)=some 1:=by rw[w];simp[W]
   dsimp only;rw[aW,aX,aY];have aZ:((1:Nat):Int).toNat=1:=rfl;have a0:(0:Int).toNat=0:=rfl;have a1:((l.length+1:Nat):Int).toNat=l.length+1:=by omega
   rw[aZ,a0,a1];have au: ∀j v,[e][j]? =some v->ag a ((⟨f,0,none⟩:Q6).add j)=some v:=WM o (by simp);refine ae.intro (λY=>?_) (λY=>?_)
   ·have Z:s.cap<l.length+1:=by
     have:((s.cap:Nat):Int)<((l.length+1:Nat):Int):=by simpa using Y
     omega
    refine⟨⟨GS _,by omega⟩,?_⟩;refine APA (p:=Ay s.p s.cap 0 1) (cap:=s.cap) q aD w an W aE (by omega) Z (by rw[aI];exact al) ak (by omega) λbp c av a2 aw a3 a4 ab bq=>⟨⟨GS _,by dsimp only;omega⟩,?_⟩
    have a5:Ay (some (⟨a.size,0,none⟩:Q6)) c 0 1=some ⟨a.size,0,none⟩:=by unfold Ay;rw[if_neg (by omega)];rfl
    have a6:Ay (some (⟨a.size,0,none⟩:Q6)) c 1 1=some ⟨a.size,1,none⟩:=by unfold Ay;rw[if_neg (by omega)];rfl
    dsimp only;rw[a5];refine nH (vs:= [e]) q O a2 (by simp) (λj v n=>ab.ag (au j v n)) (by simp;omega) (λv D=>by rw[List.mem_singleton.1 D];exact ao) λa7 a8 ax br=>⟨⟨by omega,by omega⟩,⟨GS _,by omega⟩,?_⟩
    rw[a6,B];have Q:Ay (some (⟨g,0,none⟩:Q6)) s.cap 0 1=some ⟨g,0,none⟩:=by unfold Ay;rw[if_neg (by omega)];rfl
    rw[Q];have a9:a7[g]? =some (.cells M T (0,0)):=ax.af (ab.af C (λa=>a)) (by omega);refine nH (vs:=l.flatMap E.enc) q O a8 (by rw[d];omega) (WM a9 (by rw[d,Nx,<-V];exact X)) (by rw[IM,d];omega) aq λay ac R ba=>?_
    refine U ⟨some ⟨a.size,0,none⟩,l.length+1,c⟩ ay ⟨rfl,.inr ⟨a.size,_,rfl,ac,a3,a4,by rw[IM,IM,k,By];exact aw,?_⟩⟩ ?_ (λb F=> .inr (by simp[Sl.af] at F;omega))
    ·rw[Nz _ _ _ (by rw[IM,d];omega),Nz _ _ _ (by simp;omega)];rw[k,By,AI,K];have bb:av.toList.length=c:=by simp[aw]
     simp only[HX,CI,Dd];have bc:(([e]++av.toList.drop (0+1)).take 1)= [e]:=by simp
     rw[bc,NO (by simp[d])];rw[AE (by simp[d])]
    ·refine((Ext.mod ab).trans ((ax.trans R).ai (S':=λb=>s.af=some b\/b=a.size) λc az h=> .inr h)) |> λaA=>?_
     exact⟨aA.size,λb F bd=>aA.get b F (λbe=>be.elim bd (by omega))⟩
   ·have Z:l.length+1<=s.cap:=by
     have: ¬((s.cap:Nat):Int)<((l.length+1:Nat):Int):=by simpa using Y
     omega
    have Q: ∀c,0<c->Ay (some (⟨g,0,none⟩:Q6)) c 0 1=some ⟨g,0,none⟩:=λc az=>by
     unfold Ay;rw[if_neg (by omega)];rfl
    have bf: ∀c,1<c->Ay (some (⟨g,0,none⟩:Q6)) c 1 1=some ⟨g,1,none⟩:=λc az=>by
     unfold Ay;rw[if_neg (by omega)];rfl
    refine⟨⟨by omega,by omega⟩,⟨by omega,by omega⟩,?_⟩;rw[B,Q _ (by omega),Hv,Hv,Hv,Q _ (by omega),bf _ (by omega)];intro aC;refine⟨.bool false,a,aC,?_,false,rfl,ae.yes rfl ⟨⟨by omega,by omega⟩,⟨GS _,by omega⟩,?_⟩⟩
    ·rw[aF,Lib.run_overlaps_apart (A.at a aC) t ah T q 1 (λJ=>by rw[Go.run_sizeOf J w];simp[Program.cellsOf,w,W]) ⟨f,0,none⟩ ⟨g,1,none⟩ 1 1 _ _ (λh=>ar h.symm) T T 1 s.cap
      (by show(match a[f]? with|some (.cells c ad _)=>some (ad,c.size)|_=>none)=_;rw[o];rfl) (by show(match a[g]? with|some (.cells c ad _)=>some (ad,c.size)|_=>none)=_;rw[C];simp[N]) (by omega) (O5 o) (O5 o)]
     rfl
    ·refine nH (vs:=l.flatMap E.enc) q O C (by rw[d];omega) (WM C (by rw[d,Nx,<-V];exact X)) (by rw[d];omega) aq λay ac R ba=>⟨⟨GS _,by omega⟩,?_⟩
     refine nH (vs:= [e]) q O ac (by simp) (λj v n=>R.ag (au j v n) (by rw[aN];exact λh=>ar h.symm)) (by rw[IM];simp;omega) (λv D=>by rw[List.mem_singleton.1 D];exact ao) λbg bh bi bs=>?_
     refine U ⟨some ⟨g,0,none⟩,l.length+1,s.cap⟩ bg ⟨rfl,.inr ⟨g,_,rfl,bh,Z,aU,by rw[IM,IM,k,By];exact N,?_⟩⟩ ((R.trans bi).ai λb _ h=>by rw[Sl.af,B,h];rfl) (λb F=> .inl (by rw[Sl.af,B];exact F));rw[Nz _ _ _ (by rw[IM];simp;omega),Nz _ _ _ (by rw[d];omega)];rw[k,By,AI,K];have bb:M.toList.length=s.cap:=by simp[N]
     have bt:(M.toList.take 1).length=1:=by simp;omega
     simp only[HX,CI,Dd,AK];rw[A4 (M.toList.take 1),MT (by omega),HA (by omega),CI];rw[<- A4,NO (by simp[d])];rw[AE (by simp[d])]
end Go.Lf
namespace Go.Lf.G
open Go
def fG:cy Nat where
 enc t:= [Az t]
 w:=1
 len _:=rfl
 pos:=by omega
 one x v a:=by simp at a;subst a;rfl
theorem Cells.pt {b:aa}{a:Q6}{x:Nat}(c:Cells b a (fG.enc x)):ag b a=some (Az x):=by have d:=c 0 _ rfl;rwa [add_zero] at d
theorem uP:P7 P Ao BF fG.w 8=true:=by kernel_rfl
theorem ovT(args:Array J0)(a:World):(callFunc EG args).run P a=((Extern.SlicesOverlaps.overlaps #[Ao,Ao] #[Tu] args).run P a).andThen λv b=> .ok (.value v) b:=
 run_callFunc_extern (fn:=Proofs.Tryz.f209) Proofs.Tryz.func209 (by kernel_rfl) (by kernel_rfl) (by kernel_rfl) (by kernel_rfl) args a
theorem ovI(args:Array J0)(a:World):(callFunc Gf args).run P a=((Extern.SlicesOverlaps.overlaps #[Cu,Cu] #[Tu] args).run P a).andThen λv b=> .ok (.value v) b:=
 run_callFunc_extern (fn:=Proofs.Tryz.f211) Proofs.Tryz.func211 (by kernel_rfl) (by kernel_rfl) (by kernel_rfl) (by kernel_rfl) args a
theorem ATc:(P.info? BF).bind (·.zero)=some (J5 none):=by kernel_rfl
theorem ATr:(P.info? BN).bind (·.zero)=some (J6 J9 0):=by kernel_rfl
theorem uQ:P.underlying BN=some (.int J9):=by kernel_rfl
theorem AR0(a:ak)(s v:Sl)(i:Int)(b:aa)(c:A2O):Dr a s i v b c=nI a P Ao BN EG FO s i v b c:=rfl
theorem ASl(a:ak)(s v:Sl)(i:Int)(b:aa)(c:A2O):IA a s i v b c=nI a P Cu BN Gf Ie s i v b c:=rfl
theorem qi {g:ak}{a:aa}{s:Sl}{l:List Nat}{x d:Nat}{f:A2O}(h:Own fG BF a s l)(i:a[d]? =some (J2 #[Az x] BF (0,0)))(j:s.af≠some d)(m:l.length<=1000000)
  (k: ∀c e,Own fG BF e c (x::l)->Mod (λb=>s.af=some b) a e->(∀ b,c.af=some b->s.af=some b\/a.size<=b)->f (J4 c.p c.len c.cap) e):
  AA g P BI #[J4 s.p s.len s.cap,J6 J9 0,J4 (some (⟨d,0,none⟩:Q6)) 1 1] a f:=by
 refine GU (v:=⟨some ⟨d,0,none⟩,1,1⟩) ?_;rw[AR0];exact vY uP rfl uQ ATc rfl (by decide) ovT h rfl i j (by simp[maxLen];omega) (by omega) k
theorem qj {g:ak}{a:aa}{s:Sl}{l:List Int}{x:Int}{d:Nat}{f:A2O}(h:Own IC BN a s l)(i:a[d]? =some (J2 #[J6 J9 x] BN (0,0)))(j:s.af≠some d)(m:l.length<=1000000)
  (k: ∀c e,Own IC BN e c (x::l)->Mod (λb=>s.af=some b) a e->(∀ b,c.af=some b->s.af=some b\/a.size<=b)->f (J4 c.p c.len c.cap) e):
  AA g P Cv #[J4 s.p s.len s.cap,J6 J9 0,J4 (some (⟨d,0,none⟩:Q6)) 1 1] a f:=by
 refine Mk (v:=⟨some ⟨d,0,none⟩,1,1⟩) ?_;rw[ASl];exact vY qW rfl uQ ATr rfl (by decide) ovI h rfl i j (by simp[maxLen];omega) (by omega) k
structure Db where
 fr:List Pr
 ts:List (Nat×List Pr)
 next:Nat
 aU:Nat
 az:Nat
 aL:Nat
 bq:Bool
structure Hp where
 d:Nat
 b:Nat
 lg:Nat
 nt:Nat
 ft:Nat
 Sb:Nat->Prop
 ns:List M.DC
 tp:Sl
 np:Sl
 ps:List Nat
abbrev dY(q:Hp)(st:Db)(down:Bool):Array J0:= #[Az q.b,Az q.lg,Az q.nt,Az q.ft,J4 q.tp.p q.tp.len q.tp.cap,J4 q.np.p q.np.len q.np.cap,J6 J9 (st.next:Int),J6 J9 (st.aU:Int),J3 down]
abbrev dZ(st:Db):List Int:=st.ts.map λp=>(p.1:Int)
def lZ(h:aa)(k:Nat->Nat)(t:Nat)(l:List Pr):Prop:= ∃b a,bX h t l (Mh l) b a/\a<=h.size/\(∀ c,b<=c->c<a->k c=8)/\Gv l
structure bL (g h:aa) (q:Hp) (k:Nat->Nat) (st:Db) (m:Bx):Prop where
 cell:h[q.d]? =some (J2 (dY q st false) Et (0,0))
 box:Cf h q.b q.Sb m
 log:EI h q.lg q.b nl st.az st.bq
 dL:EI h q.nt q.b nn st.aL false
 fresh:M.cT h q.ft q.ns st.fr
 cn:Own fG BF h q.tp q.ps
 cY:q.ps.length=st.ts.length
 cM: ∀(i:Nat) (t:Nat) (p:Nat×List Pr),q.ps[i]? =some t->st.ts[i]? =some p->lZ h k t p.2
 names:Own IC BN h q.np (dZ st)
 kd:k q.d=1
 kb: ∀c,q.Sb c->k c=2
 kl:k q.lg=3
 kn:k q.nt=4
 kf: ∀c,M.cQ q.ft q.ns c->k c=5
 kt: ∀c,q.tp.af=some c->k c=6
 kx: ∀c,q.np.af=some c->k c=7
 own: ∀c,k c≠0->g.size<=c/\c<h.size
 ext:Ext g h
theorem TA {b:Type}{d:cy b}{T:Q7}{h:aa}{s:Sl}{l:List b}(e:Own d T h s l){c:Nat}(a:s.af=some c):c<h.size:=by
 rcases e.row with⟨rfl,_⟩|⟨g,j,f,i,_⟩
 ·simp[Sl.af] at a
 ·rw[Sl.af,f] at a;have:g=c:=by simpa using a
  subst this;exact Af i
theorem lZ.mod {h h':aa}{k d:Nat->Nat}{t:Nat}{l:List Pr}{e:Nat->Prop}(T:lZ h k t l)(x:Mod e h h')(i: ∀c,k c=8-> ¬e c)(j: ∀c,c<h.size->d c=k c):lZ h' d t l:=by obtain⟨n,o,p,r,f,s⟩:=T;exact⟨n,o,p.mod x λc a b=>i c (f c a b),A5 r x.size,λc a b=>by rw[j c (by omega)];exact f c a b,s⟩
structure DbR (C:Nat->Prop) (g h h':aa) (q:Hp) (k:Nat->Nat) (st:Db) (m:Bx):Prop where
 ext:Ext g h'
 size:h.size<=h'.size
 cell: ¬C 1->h'[q.d]? =some (J2 (dY q st false) Et (0,0))
 box: ¬C 2->Cf h' q.b q.Sb m
 log: ¬C 3->EI h' q.lg q.b nl st.az st.bq
 dL: ¬C 4->EI h' q.nt q.b nn st.aL false
 fresh: ¬C 5->M.cT h' q.ft q.ns st.fr
 cn: ¬C 6->Own fG BF h' q.tp q.ps
 names: ¬C 7->Own IC BN h' q.np (dZ st)
 cM: ¬C 8-> ∀k',(∀ c,c<h.size->k' c=k c)-> ∀(i:Nat) (t:Nat) (p:Nat×List Pr),q.ps[i]? =some t->st.ts[i]? =some p->lZ h' k' t p.2
theorem bL.rest {C:Nat->Prop}{g h h':aa}{q:Hp}{k:Nat->Nat}{st:Db}{m:Bx}(a:bL g h q k st m)(x:Mod (λc=>C (k c)) h h')(f: ¬C 0):DbR C g h h' q k st m:=by
 refine⟨⟨A5 a.ext.size x.size,λc d _=>?_⟩,x.size,λb=>x.af a.cell (by rw[a.kd];exact b),λb=>a.box.mod x λc d=>by rw[a.kb c d];exact b,λb=>a.log.mod x (by rw[a.kl];exact b),λb=>a.dL.mod x (by rw[a.kn];exact b),
  λb=>a.fresh.mod x λc d=>by rw[a.kf c d];exact b,λb=>a.cn.mod x λc d=>by rw[a.kt c d];exact b,λb=>a.names.mod x λc d=>by rw[a.kx c d];exact b,
  λb n e i t p j l=>(a.cM i t p j l).mod x (λc d=>by rw[d];exact b) e⟩
 have e:k c=0:=Decidable.byContradiction λh=>by have:=(a.own c h).1;omega
 exact(x.get c (GC d a.ext.size) (by rw[e];exact f)).trans (a.ext.get c d (λh=>h))
section
variable {g h h' : aa} {q : Hp} {k : Nat -> Nat} {st : Db} {m : Bx}
theorem bL.gN(a:bL g h q k st m):q.d<h.size:=Af a.cell
theorem bL.oN(a:bL g h q k st m):q.lg<h.size:=Af a.log
theorem bL.oO(a:bL g h q k st m):q.nt<h.size:=Af a.dL
theorem bL.kL(a:bL g h q k st m): ¬q.Sb q.lg:=λb=>by have:=a.kb _ b;rw[a.kl] at this;cases this
theorem bL.rT(a:bL g h q k st m): ¬q.Sb q.nt:=λb=>by have:=a.kb _ b;rw[a.kn] at this;cases this
theorem bL.mB(a:bL g h q k st m): ¬q.Sb q.d:=λb=>by have:=a.kb _ b;rw[a.kd] at this;cases this
theorem bL.dl(a:bL g h q k st m):q.d≠q.lg:=λb=>by have:=a.kd;rw[b,a.kl] at this;cases this
theorem bL.dn(a:bL g h q k st m):q.d≠q.nt:=λb=>by have:=a.kd;rw[b,a.kn] at this;cases this
theorem bL.bN(a:bL g h q k st m){c:Nat}(b:k c≠0):g.size<=c:=(a.own c b).1
theorem bL.on(a:bL g h q k st m)(x:Ext h h'):bL g h' q k st m:=by
 have b:=a.rest (C:=λ_=>False) x (λh=>h);exact⟨b.cell λh=>h,b.box λh=>h,b.log λh=>h,b.dL λh=>h,b.fresh λh=>h,b.cn λh=>h,a.cY,b.cM (λh=>h) k (λ_ _=>rfl),b.names λh=>h,a.kd,a.kb,a.kl,a.kn,a.kf,a.kt,a.kx,
  λc d=>⟨(a.own c d).1,GC (a.own c d).2 x.size⟩,b.ext⟩
theorem bL.beside {e:Nat->Prop}(a:bL g h q k st m)(x:Mod e h h')(f: ∀c,e c->k c=0/\g.size<=c):bL g h' q k st m:=by
 have j:Ext g h':=⟨A5 a.ext.size x.size,λc b _=>(x.get c (GC b a.ext.size) λh=>by have:=(f c h).2;omega).trans (a.ext.get c b (λh=>h))⟩;have d: ∀ {c},k c≠0-> ¬e c:=λb l=>b (f _ l).1
 exact⟨x.af a.cell (d (by rw[a.kd];decide)),a.box.mod x λc b=>d (by rw[a.kb c b];decide),a.log.mod x (d (by rw[a.kl];decide)),a.dL.mod x (d (by rw[a.kn];decide)),a.fresh.mod x λc b=>d (by rw[a.kf c b];decide),
  a.cn.mod x λc b=>d (by rw[a.kt c b];decide),a.cY,λi t p n o=>(a.cM i t p n o).mod x (λc b=>d (by rw[b];decide)) (λ_ _=>rfl),a.names.mod x λc b=>d (by rw[a.kx c b];decide),a.kd,a.kb,a.kl,a.kn,a.kf,a.kt,a.kx,
  λc b=>⟨(a.own c b).1,GC (a.own c b).2 x.size⟩,j⟩
open Classical in
noncomputable def LQ (k:Nat->Nat) (a:Nat) (b:Nat->Prop) (d:Nat):Nat->Nat:=λc=>if c<a then k c else if b c then d else 0
theorem GI {a b c:Nat}{d:Nat->Prop}(e:c<a):LQ k a d b c=k c:=by unfold LQ;rw[if_pos e]
theorem rr {a b c:Nat}{d:Nat->Prop}(f:a<=c)(e:d c):LQ k a d b c=b:=by unfold LQ;rw[if_neg (by omega),if_pos e]
theorem VD {a b c:Nat}{S:Nat->Prop}(e:a<=c)(d: ¬S c):LQ k a S b c=0:=by unfold LQ;rw[if_neg (by omega),if_neg d]
theorem bL.boxed(b:bL g h q k st m){S':Nat->Prop}{p:Bx}{j:Nat}{bA:Db}(r:Cf h' q.b S' p)(x:Mod (λc=>q.Sb c\/(j=3/\c=q.lg)\/(j=4/\c=q.nt)) h h')(s: ∀c,S' c->q.Sb c\/h.size<=c)
  (u:bA.fr=st.fr) (i:bA.ts=st.ts) (v:bA.next=st.next) (w:bA.aU=st.aU)
  (l:(j≠3/\bA.az=st.az/\bA.bq=st.bq)\/EI h' q.lg q.b nl bA.az bA.bq) (y:(j≠4/\bA.aL=st.aL)\/EI h' q.nt q.b nn bA.aL false):
  bL g h' {q with Sb:=S'} (LQ k h.size S' 2) bA p:=by
 have e:=b.rest (C:=λc=>c=2\/(j=3/\c=3)\/(j=4/\c=4)) (h':=h') (x.ai λc _ a=>by
  rcases a with a|⟨d,rfl⟩|⟨d,rfl⟩
  ·exact .inl (b.kb c a)
  ·exact .inr (.inl ⟨d,b.kl⟩)
  ·exact .inr (.inr ⟨d,b.kn⟩)) (by rintro(h|⟨_,h⟩|⟨_,h⟩)<;>cases h)
 have f: ∀ {c},c<h.size->LQ k h.size S' 2 c=k c:=λa=>GI a
 have z:dY {q with Sb:=S'} bA false=dY q st false:=by simp only[dY,v,w]
 refine⟨by rw[z];exact e.cell (by omega),r,?_,?_,by rw[u];exact e.fresh (by omega),e.cn (by omega),by rw[i];exact b.cY,by rw[i];exact e.cM (by omega) _ (λc a=>f a),by rw[dZ,i];exact e.names (by omega),
  by rw[f b.gN];exact b.kd,λc a=>?_,by rw[f b.oN];exact b.kl,by rw[f b.oO];exact b.kn,λc a=>by rw[f (b.fresh.lt a)];exact b.kf c a,λc a=>by rw[f (TA b.cn a)];exact b.kt c a,
  λc a=>by rw[f (TA b.names a)];exact b.kx c a,λc a=>?_,e.ext⟩
 ·rcases l with⟨d,n,A⟩|d
  ·rw[n,A];exact e.log (by omega)
  ·exact d
 ·rcases y with⟨d,n⟩|d
  ·rw[n];exact e.dL (by omega)
  ·exact d
 ·by_cases o:c<h.size
  ·rw[f o];rcases s c a with d|d
   ·exact b.kb c d
   ·omega
  ·exact rr (by omega) a
 ·by_cases o:c<h.size
  ·rw[f o] at a;exact⟨(b.own c a).1,by have:=e.size;omega⟩
  ·by_cases t:S' c
   ·exact⟨by have:=b.ext.size;omega,r.lt t⟩
   ·exact absurd (VD (by omega) t) a
theorem bL.oM(b:bL g h q k st m){f:List M.DC}{j:List Pr}(T:M.cT h' q.ft f j)(x:Mod (M.cQ q.ft q.ns) h h')(s: ∀c,M.cQ q.ft f c->M.cQ q.ft q.ns c\/h.size<=c):
  bL g h' {q with ns:=f} (LQ k h.size (M.cQ q.ft f) 5) {st with fr:=j} m:=by
 have d:=b.rest (C:=λc=>c=5) (h':=h') (x.ai λc _ a=>b.kf c a) (by decide);have e: ∀ {c},c<h.size->LQ k h.size (M.cQ q.ft f) 5 c=k c:=λa=>GI a
 refine⟨d.cell (by decide),d.box (by decide),d.log (by decide),d.dL (by decide),T,d.cn (by decide),b.cY,d.cM (by decide) _ (λc a=>e a),d.names (by decide),
  by rw[e b.gN];exact b.kd,λc a=>by rw[e (b.box.lt a)];exact b.kb c a,by rw[e b.oN];exact b.kl,by rw[e b.oO];exact b.kn,λc a=>?_,λc a=>by rw[e (TA b.cn a)];exact b.kt c a,
  λc a=>by rw[e (TA b.names a)];exact b.kx c a,λc a=>?_,d.ext⟩
 ·by_cases i:c<h.size
  ·rw[e i];rcases s c a with l|l
   ·exact b.kf c l
   ·omega
  ·exact rr (by omega) a
 ·by_cases i:c<h.size
  ·rw[e i] at a;exact⟨(b.own c a).1,by have:=d.size;omega⟩
  ·by_cases n:M.cQ q.ft f c
   ·exact⟨by have:=b.ext.size;omega,T.lt n⟩
   ·exact absurd (VD (by omega) n) a
theorem bL.renew(b:bL g h q k st m){gq:Nat}(T:M.cT h' gq [] [])(i:h.size<=gq)(a:h'[q.d]? =some (J2 (dY {q with ft:=gq} st false) Et (0,0)))(x:Mod (λc=>c=q.d) h h'):
  bL g h' {q with ft:=gq,ns:= []} (LQ k h.size (· =gq) 5) {st with fr:= []} m:=by
 have d:=b.rest (C:=λc=>c=1) (h':=h') (x.ai λc _ a=>by rw[a];exact b.kd) (by decide);have e: ∀ {c},c<h.size->LQ k h.size (· =gq) 5 c=k c:=λa=>GI a
 have j: ∀c,M.cQ gq [] c->c=gq:=λc a=>by
  rcases a with rfl|⟨x,l,_⟩
  ·rfl
  ·cases l
 refine⟨a,d.box (by decide),d.log (by decide),d.dL (by decide),T,d.cn (by decide),b.cY,d.cM (by decide) _ (λc a=>e a),d.names (by decide),
  by rw[e b.gN];exact b.kd,λc a=>by rw[e (b.box.lt a)];exact b.kb c a,by rw[e b.oN];exact b.kl,by rw[e b.oO];exact b.kn,λc a=>by rw[j c a];exact rr i rfl,λc a=>by rw[e (TA b.cn a)];exact b.kt c a,
  λc a=>by rw[e (TA b.names a)];exact b.kx c a,λc a=>?_,d.ext⟩
 by_cases n:c<h.size
 ·rw[e n] at a;exact⟨(b.own c a).1,by have:=d.size;omega⟩
 ·by_cases f:c=gq
  ·subst f;exact⟨by have:=b.ext.size;omega,T.lt (.inl rfl)⟩
  ·exact absurd (VD (S:=(· =gq)) (by omega) f) a
open Classical in
noncomputable def LJ (k:Nat->Nat) (b:Nat) (tp np:Sl) (a:Nat->Prop):Nat->Nat:=λc=>if k c≠0 then k c else if tp.af=some c then 6 else if np.af=some c then 7 else if a c then 8 else 0
theorem bL.eT(d:bL g h q k st m){tp np:Sl}{ps:List Nat}{ts:List (Nat×List Pr)}{next aU:Nat}{S:Nat->Prop}
  (a:h'[q.d]? =some (J2 (dY {q with tp:=tp,np:=np} {st with next:=next,aU:=aU} false) Et (0,0))) (x:Mod (λc=>c=q.d\/q.tp.af=some c\/q.np.af=some c) h h')
  (I:Own fG BF h' tp ps) (on:Own IC BN h' np (ts.map λp=>(p.1:Int))) (K:ps.length=ts.length)
  (r: ∀c,tp.af=some c->q.tp.af=some c\/(k c=0/\g.size<=c/\np.af≠some c/\ ¬S c)) (s: ∀c,np.af=some c->q.np.af=some c\/(k c=0/\g.size<=c/\tp.af≠some c/\ ¬S c)) (L: ∀c,S c->g.size<=c/\c<h'.size)
  (M: ∀(i:Nat) (t:Nat) (p:Nat×List Pr),ps[i]? =some t->ts[i]? =some p->(∃ e:Nat,q.ps[e]? =some t/\st.ts[e]? =some p)\/ ∃n j,bX h' t p.2 (Mh p.2) n j/\j<=h'.size/\(∀ c,n<=c->c<j->S c/\k c=0)/\Gv p.2):
  bL g h' {q with tp:=tp,np:=np,ps:=ps} (LJ k h.size tp np S) {st with ts:=ts,next:=next,aU:=aU} m:=by
 have l:=d.rest (C:=λc=>c=1\/c=6\/c=7) (h':=h') (x.ai λc _ a=>by
  rcases a with rfl|a|a
  ·exact .inl d.kd
  ·exact .inr (.inl (d.kt c a))
  ·exact .inr (.inr (d.kx c a))) (by decide)
 have f: ∀ {c e},k c=e->e≠0->LJ k h.size tp np S c=e:=λb u=>by unfold LJ;rw[if_pos (by rw[b];exact u)];exact b
 refine⟨a,l.box (by decide),l.log (by decide),l.dL (by decide),l.fresh (by decide),I,K,λi t p b u=>?_,on,f d.kd (by decide),λc a=>f (d.kb c a) (by decide),f d.kl (by decide),f d.kn (by decide),λc a=>f (d.kf c a) (by decide),λc a=>?_,λc a=>?_,λc a=>?_,l.ext⟩
 ·rcases M i t p b u with⟨e,N,O⟩|⟨n,j,v,w,y,z⟩
  ·obtain⟨n,j,v,w,y,z⟩:=l.cM (by decide) k (λ_ _=>rfl) e t p N O;exact⟨n,j,v,w,λc A B=>f (y c A B) (by decide),z⟩
  ·refine⟨n,j,v,w,λc A B=>?_,z⟩;obtain⟨D,E⟩:=y c A B;have P:tp.af≠some c:=λF=>by
    rcases r c F with h|h
    ·have:=d.kt c h;rw[E] at this;cases this
    ·exact h.2.2.2 D
   have Q:np.af≠some c:=λF=>by
    rcases s c F with h|h
    ·have:=d.kx c h;rw[E] at this;cases this
    ·exact h.2.2.2 D
   unfold LJ;rw[if_neg (by simp[E]),if_neg P,if_neg Q,if_pos D]
 ·rcases r c a with b|b
  ·exact f (d.kt c b) (by decide)
  ·unfold LJ;rw[if_neg (by simp[b.1]),if_pos a]
 ·rcases s c a with b|b
  ·exact f (d.kx c b) (by decide)
  ·unfold LJ;rw[if_neg (by simp[b.1]),if_neg b.2.2.1,if_pos a]
 ·by_cases o:k c=0
  ·unfold LJ at a;rw[if_neg (by simp[o])] at a;by_cases G:tp.af=some c
   ·refine⟨?_,TA I G⟩;rcases r c G with b|b
    ·have:=d.kt c b;rw[o] at this;cases this
    ·exact b.2.1
   ·rw[if_neg G] at a;by_cases H:np.af=some c
    ·refine⟨?_,TA on H⟩;rcases s c H with b|b
     ·have:=d.kx c b;rw[o] at this;cases this
     ·exact b.2.1
    ·rw[if_neg H] at a;by_cases J:S c
     ·exact L c J
     ·rw[if_neg J] at a;exact absurd rfl a
  ·exact⟨(d.own c o).1,by have:=(d.own c o).2;have:=l.size;omega⟩
end
structure JO (m m':Bx):Prop where
 up:m'.down=false
 calm:m.fuel= -1->m'.fuel= -1
theorem JO.refl {m:Bx}(a:m.down=false):JO m m:=⟨a,λa=>a⟩
theorem JO.trans {m c d:Bx}(a:JO m c)(b:JO c d):JO m d:=⟨b.up,λe=>b.calm (a.calm e)⟩
theorem ZA {m:Bx}(hd:m.down=false)(l:List Fi):JO m {G5 m with files:=l}:=by refine⟨(AL8 l).trans hd,λa=>?_⟩;show(G5 m).fuel= -1;unfold G5;rw[if_neg (by rw[a];decide)];exact a
theorem Ra {m:Bx}{k d:A2P}(hd:m.down=false)(b:LD k=false):(m.fuel=0/\DY m k d=(30,Mv m))\/((DY m k d).1=0/\JO m (DY m k d).2/\
  ∀x,ff (DY m k d).2 x=if x=k then some (((ff m k).getD (bo,bo)).1,((ff m k).getD (bo,bo)).2++d) else ff m x):=by
 by_cases a:m.fuel=0
 ·left;refine⟨a,?_⟩;unfold DY;rw[if_neg (by simp[hd]),if_neg (by simp[b]),if_pos a]
 ·right;obtain⟨c,e⟩:=vq ⟨hd,a⟩ (d:=d) b;refine⟨c,?_,e⟩;unfold DY;rw[if_neg (by simp[hd]),if_neg (by simp[b]),if_neg a];exact ZA hd _
theorem OI {m:Bx}{a:A2P}{p:A2P×A2P}(hd:m.down=false)(c:ff m a=some p):(m.fuel=0/\F9 m a=(30,Mv m))\/((F9 m a).1=0/\JO m (F9 m a).2/\ ∀x,ff (F9 m a).2 x=if x=a then some (p.1++p.2,bo) else ff m x):=by
 have d:(CZ a m.files).isNone=false:=by
  cases b:CZ a m.files with
  |none=>unfold ff at c;rw[b] at c;cases c
  |some f=>rfl
 by_cases b:m.fuel=0
 ·left;refine⟨b,?_⟩;unfold F9;rw[if_neg (by simp[hd]),if_neg (by simp[d]),if_pos b]
 ·right;obtain⟨e,g⟩:=vt ⟨hd,b⟩ c;refine⟨e,?_,g⟩;unfold F9;rw[if_neg (by simp[hd]),if_neg (by simp[d]),if_neg b];exact ZA hd _
theorem RA {m:Bx}{k:A2P}(hd:m.down=false)(b:(ff m k).isSome=true):(m.fuel=0/\Gl m k=(30,Mv m))\/((Gl m k).1=0/\JO m (Gl m k).2/\ ∀x,ff (Gl m k).2 x=if x=k then none else ff m x):=by
 have c:(CZ k m.files).isNone=false:=by
  rw[<- Ux] at b;cases a:CZ k m.files with
  |none=>rw[a] at b;cases b
  |some f=>rfl
 by_cases a:m.fuel=0
 ·left;refine⟨a,?_⟩;unfold Gl;rw[if_neg (by simp[hd]),if_neg (by simp[c]),if_pos a]
 ·right;obtain⟨d,e⟩:=ANM ⟨hd,a⟩ b;refine⟨d,?_,e⟩;unfold Gl;rw[if_neg (by simp[hd]),if_neg (by simp[c]),if_neg a];exact ZA hd _
theorem oC(m:Bx)(x:A2P):ff (Mv m) x=ff m x:=rfl
theorem ru(m:Bx):bd (Mv m).files=bd m.files:=rfl
theorem zk {aq:ak}{g:aa}{H b z:Nat}{h:A2P}{X:Bool}{n:Nat->Prop}{m:Bx}{upto:Int}{I:A2O}(ar:cp g)(au: ∀j,Mod n g j->cp j)(L:EI g H b h z X)(N:Cf g b n m)(hd:m.down=false)(av: ¬n H)(a2:h.size<=8)(aw:bd m.files<=8000000000000)
  (ax:upto>=(z:Int)->I (J6 J9 1) g)
  (ay:m.fuel≠ -1-> ∀j S' f,Cf j b S' f->f.down=true->Mod n g j->(∀ c,S' c->n c)->bd f.files<=bd m.files->(∀ x,ff f x=ff m x\/(ff f x=none/\ ∃d:Nat,1<=d/\d<=99999999/\(d:Int)<=upto/\x=aC h d))->I (J6 J9 30) j)
  (az:upto<(z:Int)-> ∀j S' f,Cf j b S' f->JO m f->Mod n g j->(∀ c,S' c->n c)->bd f.files<=bd m.files->(∀ d:Nat,1<=d->d<=99999999->(d:Int)<=upto->ff f (aC h d)=none)->
   (∀ x,(∀ d:Nat,1<=d->d<=99999999->(d:Int)<=upto->x≠aC h d)->ff f x=ff m x)->I (J6 J9 0) j):AA aq P JH #[Az H,J6 J9 upto] g I:=by
 refine ABK ?_;unfold UE;refine ah.mk λK aA=>ae.no rfl (aF (AC.mk (AB L rfl) (aA _ _ ?_)))
 refine ae.intro (λq=>ax (by simpa using q)) (λq=>?_);have aD:upto<(z:Int):=by simpa using q
 refine aF (Ab.mk (AL L rfl) (aF (AJ.mk (AB L rfl) ?_)));refine xW ar N hd (by omega) aw λY Z l A v2 ab O=>⟨Z,_,rfl,ae.no rfl ?_⟩
 have ac:(l.map λd:Nat=>(d:Int)).length=l.length:=BE ..;have J: ∀d∈l,1<=d/\d<=99999999/\(ff m (aC h d)).isSome=true:=λd e=>by
  have:=(A.mem d).1 e;rw[Ux] at this;exact this
 have a3:l.Nodup:=List.nodup_iff_pairwise_ne.2 (A.inc.imp λg=>Nat.ne_of_lt g);have a4:=APx A;refine Loop.rule (λad x s=> ∃(i:Nat) (B:Nat->Prop) (r:Bx),x=((i:Int),())/\Cf s b B r/\JO m r/\Mod n g s/\Mod n Y s/\(∀ c,B c->n c)/\bd r.files<=bd m.files/\(∀ d∈l.take i,(d:Int)<=upto->ff r (aC h d)=none)/\(∀ x,(∀ d∈l.take i,(d:Int)<=upto->x≠aC h d)->ff r x=ff m x)/\i<=l.length/\ad=l.length-i) ?_
  ⟨0,n,m,rfl,N.ext ab,JO.refl hd,Ext.mod ab,Mod.refl,λ_ g=>g,A0 _,by simp,λ_ _=>rfl,AG _,rfl⟩
 rintro a5 ad _ s ⟨i,B,r,rfl,Q,C,w,R,D,M,E,u,a6,rfl⟩ aE;have aG:View IC s Z (l.map λd:Nat=>(d:Int)):=v2.mod R λc v aH=>by have:=O c v;have:=N.lt aH;omega
 rw[v2.len,ac];refine ae.intro (λS=>?_) (λS=>?_)
 ·have F:i<l.length:=by simpa using S
  have ag:l[i]? =some l[i]:=A2 F;obtain⟨af,ai,aI⟩:=J l[i] (AT F);have y:l.take (i+1)=l.take i++ [l[i]]:=by rw[AD,ag];rfl
  have aJ: ∀d∈l.take i,d<l[i]:=λd e=>by
   have:=A.inc;rw[<- DG (i+1) l,y] at this;have aK:=(List.pairwise_append.1 (List.pairwise_append.1 this).1).2.2 d e l[i] (by simp);exact aK
  refine ah.mk λaL aM=>?_
  have aj: ∀S' f j,Cf j b S' f->JO m f->Mod n g j->Mod n Y j->(∀ c,S' c->n c)->bd f.files<=bd m.files->(∀ d∈l.take (i+1),(d:Int)<=upto->ff f (aC h d)=none)->(∀ x,(∀ d∈l.take (i+1),(d:Int)<=upto->x≠aC h d)->ff f x=ff m x)->aL () j:=λS' f j aN aO aP aQ aR aS aT O=>by
   refine aM _ _ ?_;dsimp only;rw[AZ (by omega)];exact aE (l.length-(i+1)) _ _ (by omega) ⟨i+1,S',f,rfl,aN,aO,aP,aQ,aR,aS,aT,O,F,rfl⟩
  rw[<- ac,<-v2.len];refine aG.idx (i:=i) (x:=(l[i]:Int)) (by rw[Bk,ag];rfl) λa _ c=>?_
  refine AC.mk c.int ?_;refine ae.intro (λq=>?_) (λq=>?_)
  ·have q:(l[i]:Int)<=upto:=by simpa using q
   have T:EI s H b h z X:=L.mod w av;refine aF (Ab.mk (AL T rfl) (aF (AJ.mk (AB T rfl) ?_)));refine YE (au s w) (by omega) (by omega) λa7 U=>⟨_,rfl,⟨AL (T.ext U) rfl,?_⟩⟩
   refine Wp (Q.ext U) λal am V aU an=>⟨_,rfl,?_⟩
   have aV:(ff r (aC h l[i])).isSome=true:=by rw[u (aC h l[i]) λd e _ G=>by have:=aJ d e;have:=IZ G;omega];exact aI
   have W:=(Ext.mod U).trans (aU.ai λc _ v=>D c v);rcases RA (k:=aC h l[i]) C.up aV with⟨aW,aX⟩|⟨aY,ds,ao⟩
   ·rw[aX] at V ⊢;refine ae.yes rfl (ay (λg=>by have:=C.calm g;rw[aW] at this;cases this) al am _ V rfl (w.trans W) (λc v=>D c (an c v)) M λx=>?_);show ff r x=_\/(ff r x=_/\_);by_cases t: ∃d,d∈l.take i/\(d:Int)<=upto/\x=aC h d
    ·obtain⟨d,e,o,rfl⟩:=t;have ap:=J d (DM e);exact .inr ⟨E d e o,d,ap.1,ap.2.1,o,rfl⟩
    ·exact .inl (u x λd e o G=>t ⟨d,e,o,G⟩)
   rw[aY];refine ae.no rfl (aj am _ al V (C.trans ds) (w.trans W) (R.trans W) (λc v=>D c (an c v)) (A5 (ZT _) M) ?_ ?_)
   ·intro d e o;rw[ao];split
    ·rfl
    ·rename_i aZ;rw[y] at e;rcases List.mem_append.1 e with e|e
     ·exact E d e o
     ·exact absurd (by rw[List.mem_singleton.1 e]) aZ
   ·intro x t;rw[ao,if_neg (t l[i] (by rw[y];exact List.mem_append.2 (.inr (List.mem_singleton.2 rfl))) q)];exact u x λd e=>t d (by rw[y];exact List.mem_append.2 (.inl e))
  ·have q: ¬(l[i]:Int)<=upto:=by simpa using q
   refine aj B r s Q C w R D M ?_ ?_
   ·intro d e o;rw[y] at e;rcases List.mem_append.1 e with e|e
    ·exact E d e o
    ·rw[List.mem_singleton.1 e] at o;exact absurd o q
   ·intro x t;exact u x λd e=>t d (by rw[y];exact List.mem_append.2 (.inl e))
 ·have F:i=l.length:=by simp at S;omega
  subst F;rw[C5] at E u;refine az aD s B r Q C w D M ?_ ?_
  ·intro d af ai o;by_cases e:d∈l
   ·exact E d e o
   ·rw[u (aC h d) λk a0 _ G=>e (by rw[IZ G];exact a0)];have: ¬((ff m (aC h d)).isSome=true):=λg=>e ((A.mem d).2 ⟨af,ai,by rw[Ux];exact g⟩)
    cases a1:ff m (aC h d) with
    |none=>rfl
    |some p=>rw[a1] at this;exact absurd rfl this
  ·intro x t;exact u x λd e o=>t d (J d e).1 (J d e).2.1 o
theorem ARR {a:Nat}(h:a<=99999999):LD (aX a)=false:=by
 have b:(aX a).size=1+(Lib.decDigits a).length:=by have:=Av (aX a);rw[Wq] at this;rw[<- this];simp;omega
 have c:(Lib.decDigits a).length<=20:=by rw[Lib.decDigits_length];exact Lib.nDigits_le20 a (by omega)
 unfold LD;rw[Hj,decide_eq_false_iff_not,decide_eq_false_iff_not];refine⟨λh=>?_,by omega⟩;rw[h] at b;have:bo.size=0:=rfl;omega
theorem QN {A:ak}{h:aa}{a:Nat}{R:A2O}(c:cp h)(l:a<=1099511627776)(d: ∀b,Ext h b->R (J7 (aX a)) b):AA A P JB #[J6 J9 a] h R:=by
 refine AIe ?_;unfold tX;refine xS c.cM (by omega) (by omega) λe f=>⟨_,rfl,?_⟩
 have i:Lib.itoa (a:Int)=Lib.decDigits a:=Lib.itoa_nonneg a;rw[i];have n:(Lib.decDigits a).length<=20:=by rw[Lib.decDigits_length];exact Lib.nDigits_le20 a (by omega)
 have j:(⟨(Lib.decDigits a).toArray⟩:A2P).size=(Lib.decDigits a).length:=by simp[ByteArray.size]
 refine⟨?_,?_⟩
 ·rw[j,max_i64];have:(⟨#[116]⟩:A2P).size=1:=rfl;omega
 ·exact d e f
def ZM(h:aa)(a:Nat):Prop:= ∃b c d e f i j l,h[a]? =some (J2 #[b,c,d,e,f,i,j,l,J3 true] Et (0,0))
theorem ZM.mod {b:Nat->Prop}{h c:aa}{a:Nat}(d:ZM h a)(x:Mod b h c)(e: ¬b a):ZM c a:=by obtain⟨f,i,j,l,n,o,p,r,hd⟩:=d;exact⟨f,i,j,l,n,o,p,r,x.af hd e⟩
theorem ARL {A:ak}{h:aa}{q:Hp}{st:Db}{R:A2O}(hd:h[q.d]? =some (J2 (dY q st false) Et (0,0)))(b: ∀a,ZM a q.d->Mod (· =q.d) h a->a.size=h.size->R (J6 J9 30) a):AA A P CU #[Az q.d,J6 J9 30] h R:=by
 refine AB2 ?_;unfold WC;refine ah.mk λK c=>ae.yes rfl (aF (ab.dj hd (by simp) λd e f i=>c _ _ (b d ?_ f i)))
 exact⟨_,_,_,_,_,_,_,_,by simpa using e⟩
section
variable {A : ak} {g h : aa} {q : Hp} {k : Nat -> Nat} {st : Db} {m : Bx} {R : A2O}
theorem bL.gO(a:bL g h q k st m)(b:cp g):cp h:=b.ext a.ext
def Grow(k a:Nat->Nat)(b:Nat):Prop:= ∀c,c<b->a c=k c
theorem Grow.refl {k:Nat->Nat}{a:Nat}:Grow k k a:=λ_ _=>rfl
theorem Grow.trans {k e f:Nat->Nat}{d i:Nat}(a:Grow k e d)(b:Grow e f i)(h:d<=i):Grow k f d:=λc j=>(b c (by omega)).trans (a c j)
theorem rv {k:Nat->Nat}{a b:Nat}{d:Nat->Prop}:Grow k (LQ k a d b) a:=λc e=>GI e
theorem AQk(b:bL g h q k st m)(t:st.next<=99999999)(M:st.aU<=99999999)(N:st.ts.length<=60000)(u: ∀p∈st.ts,p.1<=99999999)(E: ∀v,Ext h v->R (J7 (AX (Dz ⟨st.next,st.aU,st.ts.map (·.1)⟩))) v):AA A P Pk #[Az q.d] h R:=by
 refine ADq ?_;unfold Vt;refine aF (AC.mk (AB b.cell rfl) ?_);rw[Ba (by omega)];refine CR (by omega) λO w=>⟨_,rfl,?_⟩
 have f:=Aj w b.cell;refine aF (AC.mk (AB f rfl) ⟨AB b.cell rfl,?_⟩);rw[Ba (by omega)];refine CR (by omega) λQ y=>⟨_,rfl,?_⟩
 have z:=Aj y f;have S:=AV (n:=st.next) (by omega);have T:=AV (n:=st.aU) (by omega);have j:q.np.len=st.ts.length:=by rw[b.names.len];simp
 refine⟨by rw[AP,AP,max_i64];omega,?_⟩;refine aF (AY.mk (s:=q.np) (AB z rfl) ⟨AB f rfl,AB b.cell rfl,?_⟩);rw[j,Ba (by omega),Ae];refine CR (by omega) λF B=>⟨_,rfl,?_⟩
 have G:=Aj B z;have U:=AV (n:=st.ts.length) (by omega);refine⟨by rw[AP,AP,A1,max_i64];omega,?_⟩;refine aF (AY.mk (s:=q.np) (AB G rfl) ?_);rw[Ae];have C:=(w.trans y).trans B;have H:=(b.names.ext C).view;have V: ∀i,((st.ts.map (·.1)).take i).flatMap BH=((st.ts.map (·.1)).take i).flatMap BH:=λ_=>rfl
 refine Loop.rule (λD x o=> ∃i:Nat,x=(AX (BH st.next++BH st.aU++BH st.ts.length++((st.ts.map (·.1)).take i).flatMap BH),(i:Int),())/\D=st.ts.length-i/\i<=st.ts.length/\Ext F o) ?_ ⟨0,by simp,rfl,by omega,Mod.refl⟩;rintro K D _ o ⟨i,rfl,rfl,W,r⟩ I;dsimp only;refine ae.intro (λe=>?_) (λe=>?_)
 ·have d:i<st.ts.length:=by rw[<- j];simpa using e
  have ag:st.ts[i]? =some st.ts[i]:=A2 d;have X:=u st.ts[i] (AT d);refine(H.ext r).idx (i:=i) (x:=(st.ts[i].1:Int)) (by rw[dZ,Bk,ag];rfl) λa _ c=>AC.mk c.int ?_
  rw[Ba (by omega)];refine CR (by omega) λY J=>⟨_,rfl,?_⟩
  have Z:=AV (n:=st.ts[i].1) (by omega);have aa:=Uh (l:=(st.ts.map (·.1)).take i) λn t=>by
   obtain⟨p,L,rfl⟩:=List.mem_map.1 (DM t);exact u p L
  have ab:((st.ts.map (·.1)).take i).length<=60000:=by simp;omega
  refine⟨by rw[AP,AP,max_i64];simp only[A1];omega,?_⟩;rw[Ae,AZ (by omega)];refine I (st.ts.length-(i+1)) _ _ (by omega) ⟨i+1,?_,rfl,d,r.trans J⟩;rw[AD,Bk,ag];simp
 ·have d:i=st.ts.length:=by rw[j] at e;simp at e;omega
  subst d;have:=E o (C.trans r);rw[AE (by simp)];simpa [Dz] using this
theorem zl {n:Nat}{s:Sl}{l:List Pr}(z:cp g)(Q:bL g h q k st m)(hd:m.down=false)(T:Gv l)(an:View BR h s l)(B: ∀c,s.af=some c->c<h.size)(ao:n<=99999999)(ap:ff m (aX n)=none)(aq:bd m.files+(Ja l).length+1<=8796093022208)
  (S:m.fuel≠ -1-> ∀b S' e,Cf b q.b S' e->e.down=true->Mod q.Sb h b->(∀ c,S' c->q.Sb c\/h.size<=c)->(∀ x,x≠aX n->ff e x=ff m x)->bd e.files<=bd m.files+(Ja l).length+1->R (J1 #[J5 none,J6 J9 30]) b)
  (ar: ∀b S' C e t D U,bL g b {q with Sb:=S'} C st e->JO m e->(∀ x,ff e x=if x=aX n then some (AX (Ja l),bo) else ff m x)->bd e.files<=bd m.files+(Ja l).length+1->bX b t l (Mh l) D U->h.size<=D->U<=b.size->(∀ c,D<=c->C c=0)->
   Mod q.Sb h b->Grow k C h.size->R (J1 #[Az t,J6 J9 0]) b):AA A P NT #[Az q.d,J6 J9 (n:Int),J4 s.p s.len s.cap] h R:=by
 refine ADz ?_;unfold YA;refine AOf T an B λaC V=>⟨_,_,rfl,ae.no rfl ?_⟩
 have p:=Q.on V;refine aF (Ab.mk (AL p.cell rfl) ?_);refine QN (p.gO z) (by omega) λE F=>⟨_,rfl,⟨AL (p.on F).cell rfl,?_⟩⟩
 have W:=p.on F;have X:=V.trans F;have aD:=X.size;refine si W.box (by rw[AP];exact aq) λY f G H Z=>⟨_,rfl,?_⟩
 have I:=Uo Q.box.aO (aX n) (AX (Ja l));rw[AP] at I;have aa:Mod q.Sb h Y:=(Ext.mod X).trans H;have J: ∀c,f c->q.Sb c\/h.size<=c:=λc a=>(Z c a).imp id λh=>by omega
 rcases Ra (k:=aX n) (d:=AX (Ja l)) hd (ARR ao) with⟨K,L⟩|⟨L,M,r⟩
 ·rw[L] at G ⊢;refine ae.yes rfl ?_;exact S (by rw[K];decide) Y f _ G rfl aa J (λx _=>rfl) (by rw[ru,GB];exact Is _ _)
 rw[L];refine ae.no rfl ?_;have o:=W.boxed (j:=2) (bA:=st) G (H.ai λc _ a=> .inl a) Z rfl rfl rfl rfl (.inl ⟨by decide,rfl,rfl⟩) (.inl ⟨by decide,rfl⟩);generalize (DY m (aX n) (AX (Ja l))).2=ab at*
 have aE:Grow k (LQ k E.size f 2) E.size:=rv;refine aF (Ab.mk (AL o.cell rfl) ?_);refine QN (o.gO z) (by omega) λau u=>⟨_,rfl,⟨AL (o.on u).cell rfl,?_⟩⟩
 have ac:=o.on u;rw[ap] at r;have av:ff ab (aX n)=some (bo,bo++AX (Ja l)):=by rw[r,if_pos rfl];rfl
 refine sj ac.box λad v N=>⟨_,rfl,?_⟩
 have aw:=Xn o.box.aO (aX n);have af:Mod q.Sb h ad:=by refine aa.then ((Ext.mod u).trans N |>.ai λc _ a=>?_);exact(J c a)
 rcases OI M.up av with⟨K,O⟩|⟨O,ag,ah⟩
 ·rw[O] at v ⊢;refine ae.yes rfl ?_;exact S (λax=>by have:=M.calm ax;rw[K] at this;cases this) ad f _ v rfl af J (λx i=>by
   rw[oC,r,if_neg i]) I
 rw[O];refine ae.no rfl ?_;have w:=ac.boxed (j:=2) (bA:=st) v (N.ai λc _ a=> .inl a) (λc a=> .inl a) rfl rfl rfl rfl (.inl ⟨by decide,rfl,rfl⟩) (.inl ⟨by decide,rfl⟩);generalize (F9 ab (aX n)).2=ai at*
 refine aF (Ab.mk (AL w.cell rfl) ?_);refine QN (w.gO z) (by omega) λaj y=>⟨_,rfl,⟨AL (w.on y).cell rfl,?_⟩⟩
 have ak:=w.on y;refine oQ ak.box ⟨_,_,rfl,?_⟩;have ay:ff ai (aX n)=some (AX (Ja l),bo):=by rw[ah,if_pos rfl,RQ,RQ]
 rw[qw ag.up,ay];dsimp only;rw[YK];refine ae.no rfl ?_;refine yq T.eE λal t am az=>⟨_,_,rfl,?_⟩
 have aG:=u.size;have aH:=H.size;have aI:=N.size;have aJ:=y.size;have aA: ∀c,aj.size<=c->LQ (LQ k E.size f 2) au.size f 2 c=0:=λc a=>by
  have: ¬f c:=λB=>by have:=v.lt B;omega
  exact VD (by omega) this
 refine ar al f _ ai t aj.size al.size (ak.on am) (M.trans ag) (λx=>?_) (A5 aw I) az (by omega) (A0 _) (λc a=>aA c a) ?_ ?_
 ·rw[ah];by_cases i:x=aX n
  ·rw[if_pos i,if_pos i,RQ,RQ]
  ·rw[if_neg i,if_neg i,r,if_neg i]
 ·exact(af.trans (Ext.mod y)).trans (Ext.mod am)
 ·exact λc a=>by
   rw[GI (by omega),GI (by omega)]
end
end Go.Lf.G
