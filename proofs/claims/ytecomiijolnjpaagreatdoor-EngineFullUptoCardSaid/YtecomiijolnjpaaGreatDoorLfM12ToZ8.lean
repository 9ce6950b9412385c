/-
 The skip list: asking; the statements MemRuns and MemStops over the formulas.
-/
import Derived.Test.YtecomiijolnjpaaGreatDoorLfY6ToM11
import Derived.Test.YtecomiijolnjpaaGreatDoorLfU2ToY5
import Derived.Test.YtecomiijolnjpaaGreatDoorLfAToI
import Derived.Lib.AppendZerosOnto
import Derived.Lib.Overlaps
import Derived.Laws.IdiomCopy
import Derived.Laws.Externs
set_option maxRecDepth 100000
set_option linter.unusedVariables false
set_option linter.unusedSimpArgs false
open Go.IntKind renaming i64→J9,wrap→J8
open Go.Value renaming string→J7,int→J6,pointer→J5,slice→J4,bool→J3,tuple→J1
open Go.Obj renaming cells→J2
open Go renaming Value→J0,Addr→Q6,TypeId→Q7,FuncId→Q8,Program→Q1
open Go.Addr renaming add→Q9,mk→Q5
namespace Go.Lf.G.M
open Go Go.Lf Go.Lf.G
theorem rq {c:al}{a:aa}{t:Nat}{ns:List DD}{l:List Pr}{b:A2N}(T:cT a t ns l)(d:b (J1 #[J6 J9 (l.length:Int),J6 J9 (EG l:Int)]) a):AA c P Je #[J5 (some ⟨t,0,none⟩)] a b:=by obtain⟨nx,L,_⟩:=T.lay;refine ZE ?_;unfold RS;refine ae.no rfl ?_;exact AC.mk (AB L.head lh.1) (AC.mk (AB L.head lh.2) d)
def TL:Pr:=⟨⟨#[]⟩,⟨#[]⟩,false⟩
def ML(key:A2O)(l:List Pr):Pr×Bool:=match l[aS key l]? with|some a=>if a.key=key then(a,true) else(TL,false)|none=>(TL,false)
theorem three {a:aa}{b:Nat}{T:Q7}{j k l:J0}{f v:A2O}{g:Bool}{K:aa->Prop}(m:a[b]? =some (J2 #[j,k,l] T (0,0)))
  (n: ∀d,d[b]? =some (J2 #[J7 f,J7 v,J3 g] T (0,0))->Mod (λc=>c=b) a d->K d):
  ab a ⟨b,0,none⟩ (J7 f) λh=>ab h ((⟨b,0,none⟩:Q6).add 1) (J7 v) λi=>ab i ((⟨b,0,none⟩:Q6).add 2) (J3 g) λe=>K e:=by
 refine ab.mk m (by simp) λh o p u=>?_
 rw[Bb,Bb];refine ab.mk o (by simp) λi q r w=>?_
 refine ab.mk q (by simp) λe s t x=>?_
 exact n e (by simpa using s) ((p.trans r).trans t)
theorem tA {c d:aa}{t:Nat}{ns:List DD}{nx:Nat->Nat->Q2}{g h:Int}{key:A2O}{a:Nat->Nat}(L:Lay c t ns nx g h)(K:jR ns nx)(e: ∀i,i<12->Tu ns key i (a i))(x:Ext c d):
  ag d (((addrAt t ns (a 0)).add 3).add (0*1))=some (J5 ((ns[aS key (bV ns)]?).map λj=>⟨j.af,0,none⟩)):=by
 have b:=gI.zero K.ht (e 0 (by omega));have f:=Wy key ns;have k:=(L.ext x).next (p:=a 0) (i:=0) (by rw[b];exact f) (by omega);rw[k,K.link (a 0) 0 (by rw[b];exact f) (by omega) (e 0 (by omega)).ht,b,RF K.ht]
theorem yj {z:al}{d:aa}{t:Nat}{ns:List DD}{l:List Pr}{key:A2O}{m:A2N}(T:cT d t ns l)(A: ∀r,Ext d r->m (J1 #[(ML key l).1.agg,J3 (ML key l).2]) r):
  AA z P MW #[J5 (some ⟨t,0,none⟩),J7 key] d m:=by
 obtain⟨nx,L,s⟩:=T.lay;refine YV ?_;unfold RU;refine ak.mk λI _ B n J=>ae.no rfl ?_
 have C:Sorted (bV ns):=by rw[T.bV];exact T.sorted
 refine Yl (L.ext n) s C λM o D p=>⟨_,_,_,_,_,_,_,_,_,_,_,_,rfl,?_⟩
 refine aD ⟨by omega,AZ.mk (tA (L.ext n) s D p) ?_⟩;have u:=p.af B (by simp);have v:Ext d o:=n.trans p;have E:=L.ext v;have ag:ML key l=match ns[aS key (bV ns)]? with|some f=>if f.pr.key=key then(f.pr,true) else(TL,false)|none=>(TL,false):=by unfold ML;rw[<- T.bV];rw[show bV ns=ns.map (·.pr) from rfl,Bs];cases ns[aS key (ns.map (·.pr))]? <;>rfl
 have w: ∀(g:Pr) (b:Bool) a,a[d.size]? =some (J2 #[J7 g.key,J7 g.val,J3 g.gone] AR (0,0))->Mod (λc=>c=d.size) o a->ML key l=(g,b)->
   (AJ a (⟨d.size,0,none⟩:Q6) λF=>AJ a ((⟨d.size,0,none⟩:Q6).add 1) λG=>Ab a ((⟨d.size,0,none⟩:Q6).add 2) λH=>m (J1 #[.agg #[J7 F,J7 G,J3 H],J3 b]) a):=λg b a e h q=>by
  refine AJ.mk (AL e rfl) (AJ.mk (AB e rfl) (Ab.mk (AB e rfl) ?_));have:=A a (v.then (h.ai λc _ N=> .inr (by omega)));rw[q] at this;exact this
 refine ah.mk λK x=>?_
 have y:ML key l=(TL,false)->K (false,()) o:=λq=>x _ _ (ae.no rfl (three u λa e h=>w TL false a e h q))
 cases i:ns[aS key (bV ns)]? with
 |none=>
  rw[i] at ag;exact ae.no rfl (y ag)
 |some f=>
  rw[i] at ag;refine ae.yes rfl (aD ?_);have j:=E.pair i;refine AJ.mk j.1 ?_;rw[Cb];by_cases k:f.pr.key=key
  ·rw[decide_eq_true k];refine x _ _ (ae.yes rfl ?_);rw[i];refine aD (AJ.mk j.1 (AJ.mk j.2.1 (Ab.mk j.2.2 ?_)));simp only[k,if_true] at ag;exact three u λa e h=>w f.pr true a e h ag
  ·rw[decide_eq_false k];simp only[k,if_false] at ag;exact y ag
theorem rj {a c b:J0}:(#[]++ #[a]++ #[c,b]:Array J0)= #[a,c,b]:=rfl
theorem AOE {A:al}{s:aa}{b c t:Nat}{T U:Q7}{fr V:Nat×Nat}{ns:List DD}{l:List Pr}{key:A2O}(f:s[b]? =some (J2 #[J5 (some ⟨t,0,none⟩)] T fr))(I:s[c]? =some (J2 #[J7 key] U V))(j:cT s t ns l):
  Dx A P (.func (.func Jn) #[] #[J5 (some ⟨b,0,none⟩),J5 (some ⟨c,0,none⟩)]) (λe=>cP t ns e\/e=b\/e=c) s (l.drop (aS key l)):=by
 refine⟨?_,_,_,rfl,λW=>by kernel_rfl,λd u W X k h hd hB Y Z=>?_⟩
 ·rintro e (hd|rfl|rfl)
  ·exact j.lt hd
  ·exact Af f
  ·exact Af I
 rw[rj];refine UU ?_;unfold OC;have J:=(u b (.inr (.inl rfl))).trans f;have ab:=(u c (.inr (.inr rfl))).trans I;obtain⟨nx,v,o⟩:=j.lay;have L:Lay d t ns nx (l.length:Int) (EG l:Int):=
  ⟨(u t (.inl (.inl rfl))).trans v.head,λa x z=>⟨(u x.af (.inl (.inr ⟨x,AK z,rfl⟩))).trans (v.node a x z).1,(v.node a x z).2⟩,v.apart⟩
 have M: ∀e,cP t ns e-> ¬k e:=λe ac=>hd e (.inl ac)
 refine AZ.mk (AL J rfl) (ae.no rfl (AZ.mk (AL J rfl) (AJ.mk (AL ab rfl) ?_)));have ad:Sorted (bV ns):=by rw[j.bV];exact j.sorted
 refine Yl L o ad λap af q B=>⟨_,_,_,_,_,_,_,_,_,_,_,_,rfl,?_⟩
 refine aD ⟨by omega,AZ.mk (tA L o q B) ?_⟩;have ah:aS key (bV ns)=aS key l:=by rw[j.bV]
 have aq:=lX key l;have ar:ns.length=l.length:=by rw[<- j.bV];simp
 rw[ah];have ai:=hB.bd _ _ _ _ _ Z (B.ai (S':=λb=>¬k b/\d.size<=b) λ_ _ d=>d.elim);refine Loop.rule (λm x w=> ∃(a:Nat) (r:Nat->Prop),x=((ns[aS key l+a]?).map λn=>(⟨n.af,0,none⟩:Q6),())/\m=l.length-(aS key l+a)/\aS key l+a<=l.length/\Mod k d w/\(∀ b,r b->k b\/d.size<=b)/\X a true r w) ?_
  ⟨0,k,rfl,rfl,by omega,B.mod,λb f=> .inl f,ai⟩
 rintro K m _ w ⟨a,r,rfl,rfl,au,y,C,N⟩ aj;have D:(l.drop (aS key l)).length=l.length-aS key l:=by simp
 cases h:ns[aS key l+a]? with
 |none=>
  have:=List.getElem?_eq_none_iff.1 h;refine ae.no rfl ?_;exact⟨rfl,a,true,r,y,C,N,λ_=>by rw[D];omega,by rw[D];omega⟩
 |some n=>
  have av:=(List.getElem?_eq_some_iff.1 h).1;have E:=(L.mod y M).pair h;refine ae.yes rfl (aD (AJ.mk E.1 (AJ.mk E.2.1 (Ab.mk E.2.2 ?_))));have ag:(l.drop (aS key l))[a]? =some n.pr:=by
   rw[Bm];have O:(bV ns)[aS key l+a]? =some n.pr:=by rw[show bV ns=ns.map (·.pr) from rfl,Bs,h];rfl
   rw[j.bV] at O;exact O
  refine EH.mono (Y a n.pr r w ag N) ?_;rintro _ ak ⟨g,F,rfl,am,an,Q⟩;have aw:=y.size;have R: ∀b,F b->k b\/d.size<=b:=λb f=>(am b f).elim (C b) λaf=> .inr (by omega)
  have G:Mod k d ak:=y.then (an.ai λb _ f=>C b f);refine⟨g,rfl,ae.intro (λq=>?_) (λq=>?_)⟩
  ·have H:g=false:=by simpa using q
   subst H;exact⟨rfl,a+1,false,F,G,R,Q,(λd=>by cases d),by rw[D];omega⟩
  ·have H:g=true:=by simpa using q
   subst H;refine aD ⟨by omega,?_⟩;have S:=(L.mod G M).next (p:=aS key l+a+1) (i:=0) (by omega) (by omega);have ao:addrAt t ns (aS key l+a+1)=⟨n.af,0,none⟩:=by simp[addrAt,h]
   rw[ao,o.link _ 0 (by omega) (by omega) (by have:=(o.ht n (AK h)).1;simp[Re,h];omega),RF o.ht] at S;refine AZ.mk S ?_;exact aj (l.length-(aS key l+(a+1))) _ _ (by omega) ⟨a+1,F,rfl,rfl,by omega,G,R,Q⟩
theorem rr {A:al}{a:aa}{t:Nat}{ns:List DD}{l:List Pr}{key:A2O}{f:A2N}(T:cT a t ns l)
  (i: ∀fv d,Dx A P fv (λb=>cP t ns b\/b=a.size\/b=a.size+1) d (l.drop (aS key l))->Ext a d->d.size=a.size+2->f fv d):AA A P I5 #[J5 (some ⟨t,0,none⟩),J7 key] a f:=by
 refine XQ ?_;unfold PX;refine ak.mk λp _ j k m=>ak.mk λg _ n h q=>?_
 have e:Ext a g:=k.trans h;have o:=AOE (A:=A) (h.af j (by simp)) n (T.ext e) (key:=key);refine i _ g (o.ai ?_ ?_ (λc _=>rfl)) e (by omega)
 ·rintro b (hd|rfl|rfl)
  ·exact .inl hd
  ·exact .inr (.inl rfl)
  ·exact .inr (.inr m)
 ·rintro b (hd|rfl|rfl)
  ·exact(T.ext e).lt hd
  ·omega
  ·omega
theorem AL7(l:List Pr):aS ⟨#[]⟩ l=0:=by
 have: ∀x:A2O,aN x ⟨#[]⟩=false:=λx=>by
  have a:(⟨#[]⟩:A2O).toList= []:=by simp[ByteArray.toList_eq]
  unfold aN;rw[a];cases x.toList<;>rfl
 cases l with
 |nil=>rfl
 |cons x l=>simp[aS,gW,this]
theorem rk(l:List Pr):l.drop (aS ⟨#[]⟩ l)=l:=by rw[AL7];rfl
def qb:Pr:=⟨⟨#[98]⟩,⟨#[49]⟩,false⟩
end Go.Lf.G.M
namespace Go.Lf.G
open Go
open M (aS Ae Sorted Bf)
theorem AQk(a b:A2O):(!(aN a b||bS a b))=aN b a:=by
 cases c:aN b a with
 |true=>
  have d:aN a b=false:=by
   cases e:aN a b with
   |false=>rfl
   |true=>have:=DK c e;rw[Bq] at this;cases this
  have e:bS a b=false:=by rw[Cb,decide_eq_false_iff_not];rintro rfl;rw[Bq] at c;cases c
  rw[d,e];rfl
 |false=>
  cases d:aN a b with
  |true=>rfl
  |false=>
   have:=NF d c;subst this;rw[Cb];simp
theorem AFy {a b c:A2O}(e:aN a b=true)(d:aN c b=false):aN a c=true:=by
 cases g:aN a c with
 |true=>rfl
 |false=>
  cases f:aN c a with
  |true=>rw[DK f e] at d;cases d
  |false=>
   have:=NF g f;subst this;rw[e] at d;cases d
theorem lJ {l:List Pr}(c:Sorted l){i a:Nat}{p b:Pr}(d:l[i]? =some p)(e:l[a]? =some b)(f:i<a):aN p.key b.key=true:=by obtain⟨g,rfl⟩:=List.getElem?_eq_some_iff.1 d;obtain⟨h,rfl⟩:=List.getElem?_eq_some_iff.1 e;exact List.pairwise_iff_getElem.1 c _ _ g h f
structure wG (l:List Pr) (key:A2O) (B:Nat):Prop where
 lt:B<Bo l
 below: ∀(x:Nat) (p:Pr),x<8*B->l[x]? =some p->aN p.key key=true
 there: ∀(x:Nat) (p:Pr),l[x]? =some p->p.key=key->8*B<=x/\x<8*B+8
theorem AQV {l:List Pr}{key:A2O}{b:Nat}(i:Sorted l)(o:l≠ [])(u:b<=Bo l)(q: ∀a,a<b->aN key (IY l (8*a))=false)(r:b<Bo l->aN key (IY l (8*b))=true):wG l key (b-1):=by
 have v:=ue o;have ag: ∀a,a<Bo l-> ∃g,l[8*a]? =some g/\IY l (8*a)=g.key:=by
  intro a j;have:8*a<l.length:=by unfold Bo at j;omega
  exact⟨l[8*a],A2 this,by unfold IY;rw[A2 this]⟩
 have k: ∀(x:Nat) (p:Pr),x<8*(b-1)->l[x]? =some p->aN p.key key=true:=by intro x p h c;obtain⟨g,e,f⟩:=ag (b-1) (by omega);have d:=lJ i c e h;have:=q (b-1) (by omega);rw[f] at this;exact AFy d this
 refine⟨by omega,k,λx p c f=>⟨?_,?_⟩⟩
 ·apply OK;intro h;have:=k x p h c;rw[f,Bq] at this;cases this
 ·apply Nat.lt_of_not_le;intro h;have w:=(List.getElem?_eq_some_iff.1 c).1;have step: ∀a,8*a<=x->a<Bo l->aN key (IY l (8*a))=true->False:=by
   intro a j s d;obtain⟨g,e,t⟩:=ag a s;rw[t] at d;rcases FF (8*a) x with m|m
   ·have:=lJ i e c m;have:=DK d this;rw[f,Bq] at this;cases this
   ·have:8*a=x:=by omega
    rw[this,c] at e;cases e;rw[f,Bq] at d;cases d
  have n:b<Bo l:=by unfold Bo;omega
  exact step b (by omega) n (r n)
theorem AO0 {i a:Nat}(b:i+a<=2*1099511627776):J8 J9 ((J8 .u64 (J8 J9 (((i:Nat):Int)+((a:Nat):Int)))).fdiv ((2:Int)^(1:Nat)))=(((i+a) / 2:Nat):Int):=by rw[show((i:Nat):Int)+((a:Nat):Int)=((i+a:Nat):Int) by omega,F5 (by omega),Bz (by omega),Pj,F5 (by omega)]
theorem ALm {n:al}{f:aa}{fv:J0}{c:Nat}{p:Nat->Bool}{o:A2N}(D:c<=1099511627776)(z: ∀i b,i<=b->b<c->p i=true->p b=true)
  (A: ∀i d,i<c->Ext f d->EH n P fv #[J6 J9 (i:Int)] d λv g=>v=J3 (p i)/\Ext d g)
  (B: ∀h g,h<=c->(∀ b,b<h->p b=false)->(h<c->p h=true)->Ext f g->o (J6 J9 (h:Int)) g):AA n P Oy #[J6 J9 (c:Int),fv] f o:=by
 refine ABQ ?_;unfold VH;refine Loop.rule (λm x d=> ∃i b:Nat,x=((i:Int),(b:Int),())/\m=b-i/\i<=b/\b<=c/\(∀ a,a<i->p a=false)/\(b<c->p b=true)/\Ext f d) ?_ ⟨0,c,rfl,rfl,by omega,A0 _,λa C=>by omega,λf=>by omega,Mod.refl⟩;rintro K m _ d ⟨i,b,rfl,rfl,k,q,r,s,j⟩ t;dsimp only;refine ae.intro (λl=>?_) (λl=>?_)
 ·have k:i<b:=by simp at l;omega
  rw[AO0 (by omega)];refine ah.mk λE u=>?_
  have w:(i+b) / 2<c:=by omega
  refine EH.mono (A _ d w j) ?_;rintro v g ⟨rfl,y⟩;refine⟨_,rfl,ae.intro (λe=>?_) (λe=>?_)⟩
  ·have e:p ((i+b) / 2)=false:=by simpa using e
   refine u _ _ ?_;dsimp only;rw[Aa (by omega)];refine t (b-((i+b) / 2+1)) _ _ (by omega) ⟨(i+b) / 2+1,b,rfl,rfl,by omega,q,λa C=>?_,s,j.trans y⟩;cases f:p a with
   |false=>rfl
   |true=>rw[z a _ (by omega) w f] at e;cases e
  ·have e:p ((i+b) / 2)=true:=by simpa using e
   refine u _ _ ?_;exact t ((i+b) / 2-i) _ _ (by omega) ⟨i,(i+b) / 2,rfl,rfl,by omega,by omega,r,λ_=>e,j.trans y⟩
 ·have k:i=b:=by simp at l;omega
  subst k;exact B i d q r s j
abbrev wH:Q8:=IG
theorem wI {A:al}{h:aa}{t D m:Nat}{l:List Pr}{f:List UInt8}{key:A2O}{R:A2N}(T:bR h t l f D m)(c:gM (aH (aR l f)) l f)
  (E: ∀d r,wG l key r->Ext h d->R (J6 J9 (r:Int)) d):AA A P GQ #[Ay t,J7 key] h R:=by
 refine Sy ?_;unfold Md;refine ak.mk λe _ F G X=>ak.mk λY _ H u Z=>?_
 have w:=Ah u F;have x:=G.trans u;obtain⟨n,ab,y,z,ac,_,_⟩:=(T.ext x).at_;refine AZ.mk (AL w rfl) (aD ?_);refine AY.mk (s:=n) (AL y rfl) ?_;have I:n.len=Bo l:=by rw[z.len,Gv]
 have ad:=c.many;have ae:Bo l<=12501:=by unfold Bo;omega
 rw[I];have B: ∀b,b<Bo l-> ∃C,l[8*b]? =some C/\IY l (8*b)=C.key:=by
  intro b o;have:8*b<l.length:=by unfold Bo at o;omega
  exact⟨l[8*b],A2 this,by unfold IY;rw[A2 this]⟩
 refine ALm (p:=λb=>aN key (IY l (8*b))) (by omega) (λi b af o g=>?_) (λi q m j=>?_) λk J K e L M=>⟨_,rfl,?_⟩
 ·rcases FF i b with h|h
  ·obtain⟨ag,N,O⟩:=B i (by omega);obtain⟨ah,Q,S⟩:=B b o;have:=lJ c.inc N Q (by omega);rw[O] at g;rw[S];exact DK g this
  ·have:i=b:=by omega
   rw[this] at g;exact g
 ·have U:=EH.func (A:=A) (P:=P) (f:=wH) (first:= #[]) (bT:= #[Ay h.size,Ay e.size]) (args:= #[J6 J9 (i:Int)]) (h:=q) (R:=λv d=>v=J3 (aN key (IY l (8*i)))/\Ext q d) (by kernel_rfl) ?_
  ·exact U
  ·show AA A P wH #[J6 J9 (i:Int),Ay h.size,Ay e.size] q _;refine Qt ?_;unfold Ko;refine aD (AZ.mk (AL (Ah j w) rfl) (aD ?_));refine AY.mk (s:=n) (AL (Ah j y) rfl) ?_;refine(z.ext j).idx (QW m) λa ai V=>?_
   rw[A6];refine AJ.mk V.str (aD ?_);refine AJ.mk (AL (Ah j H) rfl) ?_;rw[AQk];exact⟨rfl,Mod.refl⟩
 ·have W:(if((J8 J9 (((k:Nat):Int)-(1:Int))):Int)>0 then(J8 J9 (((k:Nat):Int)-(1:Int))) else 0)=((k-1:Nat):Int):=by rw[wrap_i64 (by omega) (by omega)];split<;>omega
  rw[W];exact E J (k-1) (AQV c.inc c.ne K e L) (x.trans M)
def UR(key:A2O)(l:List Pr):Pr×Bool:=match Ae key l with|some a=>(a,true)|none=>(M.TL,false)
theorem APE {l:List Pr}(g:Sorted l){p:Pr}(h:p∈l):Ae p.key l=some p:=by
 unfold Ae;cases d:l.find? λe=>decide (e.key=p.key) with
 |none=>
  have:=List.find?_eq_none.1 d p h;simp at this
 |some e=>
  have b:=Ix d;have b:e.key=p.key:=of_decide_eq_true b;obtain⟨i,f⟩:=G3 (ID d);obtain⟨j,c⟩:=G3 h;rcases HP i j with a|a|a
  ·have:=lJ g f c a;rw[b,Bq] at this;cases this
  ·subst a;rw[f] at c;exact c
  ·have:=lJ g c f a;rw[b,Bq] at this;cases this
theorem wJ {l:List Pr}{key:A2O}(a: ∀p∈l,p.key≠key):Ae key l=none:=by unfold Ae;rw[HD];intro p b;simpa using a p b
theorem APY {ai:al}{d:aa}{t aj F:Nat}{l:List Pr}{f:List UInt8}{key:A2O}{G:A2N}(T:bR d t l f aj F)(q:gM (aH (aR l f)) l f)(am:key.size<=1099511627776)
  (an: ∀O,Ext d O->G (J1 #[(UR key l).1.agg,J3 (UR key l).2]) O):AA ai P KI #[Ay t,J7 key] d G:=by
 refine Vo ?_;unfold Ol;refine ak.mk λQ _ R A aV=>?_
 have tail: ∀g x,Ext d g->g[d.size]? =some (J2 #[J7 ⟨#[]⟩,J7 ⟨#[]⟩,J3 false] AR (0,0))-> ∀(h:Pr) (b:Bool),UR key l=(h,b)->x=Value.tuple #[.agg #[J7 h.key,J7 h.val,J3 h.gone],J3 b]->
   ∀ {r u:A2O} {v:Bool},r=h.key->u=h.val->v=h.gone->
   ab g (⟨d.size,0,none⟩:Q6) (J7 r) λS=>ab S ((⟨d.size,0,none⟩:Q6).add 1) (J7 u) λU=>ab U ((⟨d.size,0,none⟩:Q6).add 2) (J3 v) λn=>
    AJ n (⟨d.size,0,none⟩:Q6) λao=>AJ n ((⟨d.size,0,none⟩:Q6).add 1) λap=>Ab n ((⟨d.size,0,none⟩:Q6).add 2) λaq=>G (J1 #[.agg #[J7 ao,J7 ap,J3 aq],J3 b]) n:=by
  intro g x w ar h b au aW r u v av aw ax;subst av aw ax;refine ab.mk ar (by simp) λS ay az aX=>?_
  rw[Bb,Bb];refine ab.mk ay (by simp) λU aA aC aY=>?_
  refine ab.mk aA (by simp) λn H aE aZ=>?_
  refine AJ.mk (AL H rfl) (AJ.mk (AL H rfl) (Ab.mk (AL H rfl) ?_));have k:Ext d n:=⟨by have:=w.size;omega,λc aF _=>(aE.get c (by have:=w.size;omega) (by omega)).trans ((aC.get c (by have:=w.size;omega) (by omega)).trans ((az.get c (by have:=w.size;omega) (by omega)).trans (w.get c aF (λd=>d))))⟩;have:=an n k;rw[au] at this;exact this
 refine ah.mk λK aG=>?_
 refine ae.no rfl (aD ?_);obtain⟨a0,aI,I,a1,aJ,_,_⟩:=(T.ext A).at_;refine AJ.mk (AB I rfl) ?_;refine wk am ⟨_,rfl,?_⟩;rw[EE];refine aG _ _ ?_;refine ae.intro (λj=>?_) (λj=>?_)
 ·have j:gL f key=false:=by simpa using j
  have J:Ae key l=none:=wJ λp y B=>by
   have:=q.has p y;rw[B,j] at this;cases this
  exact tail Q _ A R M.TL false (by unfold UR;rw[J]) rfl rfl rfl rfl
 ·refine aD (AY.mk (s:=aI) (AB I rfl) ?_);refine wI (T.ext A) q λa2 a hB C=>⟨_,rfl,AB (Ah C I) rfl,?_⟩
  have aK:((KE l).map λb=>AX (BL b))[a]? =some (AX (BL (CB l a))):=by simp[KE,hB.lt]
  refine(aJ.ext C).idx aK λa3 a4 aL=>?_
  rw[A6];refine AJ.mk aL.str ?_;have aM: ∀p∈CB l a,Kj p:=λp y=>q.ok p (Ow y)
  have a5:=Pw q.ok hB.lt;refine qH aM (by omega) λps aN V W a6=>⟨_,_,rfl,?_⟩
  have X:ps.len=(CB l a).length:=V.len;have a7:=Pq hB.lt;have Y:=(A.trans C).trans W;have Z:=Ah W (Ah C R);refine Loop.rule (λm x aO=> ∃e:Nat,x=((e:Int),())/\m=(CB l a).length-e/\e<=(CB l a).length/\(∀ i p,i<e->(CB l a)[i]? =some p->p.key≠key)/\Ext aN aO) ?_ ⟨0,rfl,rfl,by omega,λi p F=>by omega,Mod.refl⟩;rintro a8 m _ aP ⟨e,rfl,rfl,a9,ac,o⟩ aQ;dsimp only;refine ae.intro (λj=>?_) (λj=>?_)
  ·have D:e<(CB l a).length:=by rw[X] at j;simp at j;omega
   have k:(CB l a)[e]? =some (CB l a)[e]:=A2 D;have ad:(CB l a)[e]∈l:=Ow (AW D);generalize (CB l a)[e]=p at k ad;refine(V.ext o).view.idx k λba bb aS=>?_
   obtain⟨r,u,v⟩:=aS.pair;rw[A6];refine AJ.mk r (AJ.mk u (Ab.mk v ?_));refine ak.pair λbc aT bd E L be=>?_
   refine AJ.mk (AL E rfl) ?_;refine ae.intro (λz=>?_) (λz=>?_)
   ·rw[Cb,decide_eq_true_iff] at z;refine AJ.mk (AL E rfl) (AJ.mk (AB E rfl) (Ab.mk (AB E rfl) ?_));have af:=APE q.inc ad;rw[z] at af;exact tail aT _ ((Y.trans o).trans L) (Ah L (Ah o Z)) p true (by unfold UR;rw[af]) rfl rfl rfl rfl
   ·rw[Cb,decide_eq_false_iff_not] at z;rw[Aa (by omega)];refine aQ ((CB l a).length-(e+1)) _ _ (by omega) ⟨e+1,rfl,rfl,D,λi h F N=>?_,o.trans L⟩;by_cases aU:i=e
    ·rw[aU,k] at N;cases N;exact z
    ·exact ac i h (by omega) N
  ·have D:e=(CB l a).length:=by rw[X] at j;simp at j;omega
   have J:Ae key l=none:=wJ λp y B=>by
    obtain⟨x,k⟩:=G3 y;obtain⟨Q,bf⟩:=hB.there x p k B;have ag:(CB l a)[x-8*a]? =some p:=by rw[PW (by omega),show 8*a+(x-8*a)=x by omega];exact k
    have:=(List.getElem?_eq_some_iff.1 ag).1;exact ac (x-8*a) p (by omega) ag B
   exact tail aP _ (Y.trans o) (Ah o Z) M.TL false (by unfold UR;rw[J]) rfl rfl rfl rfl
theorem wK {key:A2O}{l:List Pr}(a:Sorted l){x:Nat}{p:Pr}(b:l[x]? =some p):x<aS key l↔aN p.key key=true:=M.ox a b
theorem ALE {A:al}{z:aa}{b c t lo hi:Nat}{a0 ao:Q7}{l:List Pr}{f:List UInt8}{key:A2O}(r:z[b]? =some (J2 #[Ay t] a0 (0,0)))(ap:z[c]? =some (J2 #[J7 key] ao (0,0)))
  (T:bR z t l f lo hi) (bw:hi<=z.size) (B:gM (aH (aR l f)) l f):
  Dx A P (.func (.func Ii) #[] #[Ay b,Ay c]) (λe=>(lo<=e/\e<hi)\/e=b\/e=c) z (l.drop (aS key l)):=by
 refine⟨?_,_,_,rfl,λa1=>by kernel_rfl,λh J a1 aq n bx hd hB a2 a3=>?_⟩
 ·rintro e (hd|rfl|rfl)
  ·omega
  ·exact Af r
  ·exact Af ap
 rw[M.rj];refine Rj ?_;unfold MB;have L:=(J b (.inr (.inl rfl))).trans r;have ar:=(J c (.inr (.inr rfl))).trans ap;have au:bR h t l f lo hi:=by
  obtain⟨av,o,w,N,Y,Z,aw⟩:=T.at_;have ax: ∀ {s:Sl} {ay:List A2O},View IB z s ay->(∀ e,s.af=some e->lo<=e/\e<hi)->View IB h s ay:=λv a4=>⟨v.len,v.cap,λi x hi=>by
   obtain⟨a,az,a5⟩:=v.cells i x hi;refine⟨a,az,λj v aA=>?_⟩;rw[<- a5 j v aA];exact Pk (by rw[aM,aM];exact J _ (.inl (a4 _ (by simp[Sl.af,az]))))⟩
  exact⟨⟨av,o,(J t (.inl T.fx)).trans w,ax N Z,ax Y aw,Z,aw⟩,T.fx⟩
 have a6: ∀e,lo<=e->e<hi-> ¬n e:=λe w N=>hd e (.inl ⟨w,N⟩)
 obtain⟨av,o,aC,bz,aE,bA,a7⟩:=au.at_;refine aD (AZ.mk (AL L rfl) (ae.no rfl (aD (AZ.mk (AL L rfl) (aD (AY.mk (s:=o) (AB aC rfl) (aD (AZ.mk (AL L rfl) (aD (AJ.mk (AL ar rfl) ?_))))))))));refine wI au B λw d aF O=>⟨_,rfl,AB (Ah O aC) rfl,AL (Ah O L) rfl,?_⟩
 have aG:o.len=Bo l:=by rw[aE.len];simp[Gd]
 have a8:=aF.lt;refine⟨by rw[aG];omega,?_⟩;rw[A6,aG];have bB:=M.lX key l;have bC:=B.many;have bD:Bo l<=12501:=by unfold Bo;omega
 have bE:8*d<=aS key l:=by
  apply OK;intro C;have a9:aS key l<l.length:=by unfold Bo at a8;omega
  obtain⟨aI,D⟩: ∃aI,l[aS key l]? =some aI:=⟨_,A2 a9⟩;have w:=aF.below _ _ C D;have N:=(wK B.inc D).2 w;omega
 have ab:(l.drop (aS key l)).length=l.length-aS key l:=by simp
 have ba:=hB.bd _ _ _ _ _ a3 (O.ai (S':=λb=>¬n b/\h.size<=b) λ_ _ h=>h.elim);have bb:View IB h ⟨A7 o.p o.cap d 1,Bo l-d,o.cap-d⟩ (((KE l).map λb=>AX (BL b)).drop d):=by have:=aE.sub (lo:=d) (hi:=Bo l) (by omega) (by simp[Gd]);rw[AG (by simp[Gd])] at this;exact this
 have bc: ∀e,Sl.af ⟨A7 o.p o.cap d 1,Bo l-d,o.cap-d⟩=some e-> ¬n e:=λe k=>by
  have:=a7 e (Yq k);exact a6 e this.1 this.2
 refine Loop.rule (λm x G=> ∃(i:Nat) (E:Nat->Prop),x=((i:Int),())/\m=Bo l-d-i/\i<=Bo l-d/\Mod n h G/\(∀ b,E b->n b\/h.size<=b)/\aq (min (8*(d+i)) l.length-aS key l) true E G) ?_
  ⟨0,n,rfl,rfl,by omega,O.mod,λb r=> .inl r,by
   have:min (8*(d+0)) l.length-aS key l=0:=by omega
   rw[this];exact ba⟩
 rintro K m _ G ⟨i,E,rfl,rfl,hi,Q,aJ,H⟩ bd;dsimp only;refine ae.intro (λq=>?_) (λq=>?_)
 ·have aK:i<Bo l-d:=by simp at q;omega
  have R:d+i<Bo l:=by omega
  have bF:8*(d+i)<l.length:=by unfold Bo at R;omega
  have be:(((KE l).map λb=>AX (BL b)).drop d)[i]? =some (AX (BL (CB l (d+i)))):=by rw[Bm];simp[KE,R]
  refine(bb.mod Q bc).idx be λbG bH bf=>?_
  rw[A6];refine AJ.mk bf.str ?_;have bg: ∀p∈CB l (d+i),Kj p:=λp bh=>B.ok p (Ow bh)
  have bI:=Pw B.ok R;have bJ:=Pq R;refine qH bg (by omega) λps Y ac aL bi=>⟨_,_,rfl,?_⟩
  have aO:ps.len=(CB l (d+i)).length:=ac.len;have bj:min (8*(d+i)) l.length=8*(d+i):=by omega
  rw[bj] at H;have bK:=Q.size;have bk:=hB.wf _ _ _ _ H;have bm:=hB.bd _ _ _ _ _ H (aL.ai (S':=λb=>¬E b/\h.size<=b) λ_ _ h=>h.elim);have bn:Mod n h Y:=Q.trans aL.mod;refine Loop.rule (λm x S=> ∃(j:Nat) (u:Nat->Prop),x=((j:Int),())/\m=(CB l (d+i)).length-j/\j<=(CB l (d+i)).length/\Mod n h S/\(∀ b,u b->n b\/h.size<=b)/\(∀ e,ps.af=some e-> ¬u e/\e<S.size)/\View Ba S ps (CB l (d+i))/\aq (8*(d+i)+j-aS key l) true u S) ?_
   ⟨0,E,rfl,rfl,by omega,bn,aJ,λe k=>⟨λh=>by have:=bi e k;have:=bk e h;omega,ac.lt k⟩,ac.view,bm⟩
  rintro bL m _ Z ⟨j,u,rfl,rfl,aA,ad,U,F,af,aP⟩ aQ;dsimp only;refine ae.intro (λq=>?_) (λq=>?_)
  ·have I:j<(CB l (d+i)).length:=by rw[aO] at q;simp at q;omega
   have D:(CB l (d+i))[j]? =some (CB l (d+i))[j]:=A2 I;have V:l[8*(d+i)+j]? =some (CB l (d+i))[j]:=by rw[<- PW (by omega)];exact D
   generalize (CB l (d+i))[j]=p at D V;refine af.idx D λbM bN bo=>?_
   obtain⟨bp,bq,br⟩:=bo.pair;rw[A6];refine AJ.mk bp (AJ.mk bq (Ab.mk br ?_));refine ak.pair λbO ai bP W y bQ=>?_
   have X:Mod n h ai:=ad.trans y.mod;have bS:=ad.size;have aT:=hB.bd _ _ _ _ _ aP (y.ai (S':=λb=>¬u b/\h.size<=b) λ_ _ h=>h.elim);have bs:ai[c]? =some (J2 #[J7 key] ao (0,0)):=X.af ar (hd c (.inr (.inr rfl)));refine ah.mk λbT aU=>?_
   refine AJ.mk (AL W rfl) (aD (AJ.mk (AL bs rfl) ?_));have bU:=(List.getElem?_eq_some_iff.1 V).1;have aV:=wK (key:=key) B.inc V;refine ae.intro (λC=>?_) (λC=>?_)
   ·have bt:aS key l<=8*(d+i)+j:=by apply OK;intro G;rw[aV.1 G] at C;cases C
    refine AJ.mk (AL W rfl) (AJ.mk (AB W rfl) (Ab.mk (AB W rfl) ?_));have ag:(l.drop (aS key l))[8*(d+i)+j-aS key l]? =some p:=by rw[Bm,show aS key l+(8*(d+i)+j-aS key l)=8*(d+i)+j by omega];exact V
    refine EH.mono (a2 _ p u ai ag aT) ?_;rintro _ bu ⟨g,aj,rfl,aW,am,aX⟩;have bV:=X.size;have aY: ∀b,aj b->n b\/h.size<=b:=λb r=>(aW b r).elim (U b) λw=> .inr (by omega)
    have aZ:Mod n h bu:=X.then (am.ai λb _ r=>U b r);refine⟨g,rfl,aU _ _ ?_⟩;dsimp only;cases g with
    |false=>exact ae.yes rfl ⟨rfl,_,false,aj,aZ,aY,aX,(λh=>by cases h),by rw[ab];omega⟩
    |true=>
     refine ae.no rfl ?_;rw[Aa (by omega)];refine aQ ((CB l (d+i)).length-(j+1)) _ _ (by omega) ⟨j+1,aj,rfl,rfl,I,aZ,aY,λe k=>⟨λh=>?_,by have:=F e k;have:=y.size;have:=am.size;omega⟩,?_,?_⟩
     ·rcases aW e h with h|h
      ·exact(F e k).1 h
      ·have:=(F e k).2;have:=y.size;omega
     ·exact(af.ext y).mod am λe k=>(F e k).1
     ·rw[show 8*(d+i)+(j+1)-aS key l=8*(d+i)+j-aS key l+1 by omega];exact aX
   ·have bv:aN p.key key=true:=by simpa using C
    have bt:=aV.2 bv;refine aU _ _ (ae.no rfl ?_);rw[Aa (by omega)];refine aQ ((CB l (d+i)).length-(j+1)) _ _ (by omega) ⟨j+1,u,rfl,rfl,I,X,U,λe k=>⟨(F e k).1,by have:=(F e k).2;have:=y.size;omega⟩,af.ext y,?_⟩;rw[show 8*(d+i)+(j+1)-aS key l=8*(d+i)+j-aS key l by omega];exact aT
  ·have I:j=(CB l (d+i)).length:=by rw[aO] at q;simp at q;omega
   rw[Aa (by omega)];refine bd (Bo l-d-(i+1)) _ _ (by omega) ⟨i+1,u,rfl,rfl,by omega,ad,U,?_⟩;have an:min (8*(d+(i+1))) l.length=8*(d+i)+j:=by rw[I];unfold CB;rw[AE,DE];omega
   rw[an];exact aP
 ·have aK:i=Bo l-d:=by simp at q;omega
  have an:min (8*(d+i)) l.length=l.length:=by rw[aK,show d+(Bo l-d)=Bo l by omega];unfold Bo;omega
  rw[an] at H;exact⟨rfl,l.length-aS key l,true,E,Q,aJ,H,λ_=>ab.symm,by rw[ab];omega⟩
theorem wL {A:al}{a:aa}{t h g:Nat}{l:List Pr}{f:List UInt8}{key:A2O}{i:A2N}(T:bR a t l f h g)(u:g<=a.size)(m:gM (aH (aR l f)) l f)
  (n: ∀fv d,Dx A P fv (λb=>(h<=b/\b<g)\/b=a.size\/b=a.size+1) d (l.drop (aS key l))->Ext a d->d.size=a.size+2->i fv d):AA A P G6 #[Ay t,J7 key] a i:=by
 refine UQ ?_;unfold Nw;refine ak.mk λv _ o p q=>ak.mk λj _ r k w=>?_
 have e:Ext a j:=p.trans k;have s:=ALE (A:=A) (Ah k o) r (T.ext e) (by have:=e.size;omega) m (key:=key);refine n _ j (s.ai ?_ ?_ (λc _=>rfl)) e (by omega)
 ·rintro b (hd|rfl|rfl)
  ·exact .inl hd
  ·exact .inr (.inl rfl)
  ·exact .inr (.inr q)
 ·rintro b (hd|rfl|rfl)
  ·have:=e.size;omega
  ·omega
  ·omega
def fJ(l:List Fi)(a:A2O):Nat:=match Ca a l with|none=>0|some f=>f.bY.size+f.soft.size
theorem w7 {a:A2O}{f:Fi}{l:List Fi}:Ca a (f::l)=if f.name=a then some f else Ca a l:=by rw[F7]
theorem qE(a:A2O): ∀l:List Fi,fJ l a+bg (PI a l)<=bg l
 | []=>by simp[fJ,Ca,PI,bg]
 |f::l=>by
  have h:=qE a l;have e:bg (f::l)=f.bY.size+f.soft.size+1+bg l:=by simp[bg]
  by_cases b:f.name=a
  ·have c:fJ (f::l) a=f.bY.size+f.soft.size:=by unfold fJ;rw[w7,if_pos b]
   have d:PI a (f::l)=PI a l:=by simp[PI,b]
   rw[c,d,e];omega
  ·have c:fJ (f::l) a=fJ l a:=by unfold fJ;rw[w7,if_neg b]
   have d:PI a (f::l)=f::PI a l:=by simp[PI,b]
   have g:bg (f::PI a l)=f.bY.size+f.soft.size+1+bg (PI a l):=by simp[bg]
   rw[c,d,g,e];omega
theorem w8: ∀(a:List A2O),a.Nodup-> ∀l:List Fi,(a.map (fJ l)).sum<=bg l
 | [],_,l=>by simp
 |k::a,b,l=>by
  rw[List.nodup_cons] at b;have c:=w8 a b.2 (PI k l);have d:a.map (fJ (PI k l))=a.map (fJ l):=CM λx e=>by
   unfold fJ;rw[Yk,if_neg (λf=>by subst f;exact b.1 e)]
  rw[d] at c;have:=qE k l;simp only[BT,GP];omega
def iC(m:Bx)(a:A2O)(b:Nat):A2O:=(Sz m (aC a b)).1
noncomputable def Ra (a:A2O) (m:Bx) (l:List Nat):List A2O:=l.flatMap λb=>(jV (bl (iC m a b))).map AX
theorem w9 {m:Bx}(hd:m.down=false)(a:A2O):(Sz m a).1.size=fJ m.files a:=by
 unfold Sz fJ;rw[if_neg (by simp[hd])];cases Ca a m.files with
 |none=>rfl
 |some f=>simp[HW]
theorem qF {nm:A2O}{m:Bx}(hd:m.down=false){l:List Nat}(b:l.Pairwise (· < ·)):(Ra nm m l).length<=bg m.files:=by
 have e:(Ra nm m l).length<=((l.map (aC nm)).map (fJ m.files)).sum:=by
  unfold Ra;clear b
  induction l with
  |nil=>simp
  |cons f l d=>
   have g:=AGA (qd (bl (iC m nm f)));rw[BA,iC,w9 hd] at g;simp only[AH,A1,By,BT,GP] at d ⊢;unfold iC at d ⊢;omega
 refine AF e (w8 _ ?_ _);refine List.pairwise_map.2 (b.imp λ{a c} i h=>?_);have:=IK h;omega
theorem wc {R:al}{d:aa}{b:Nat}{S:Nat->Prop}{m:Bx}{nm:A2O}{w:A2N}(E:cm d)(D:Cm d b S m)(hd:m.down=false)(aw:0<nm.size)(F:nm.size<=8)(T:bg m.files<=8000000000000)
  (U: ∀g l,lH nm m l->l.getLast?.getD 0=99999999->Ext d g->w (J1 #[J5 none,J4 none 0 0,J6 J9 2]) g)
  (V: ∀g l r sl,lH nm m l->l.getLast?.getD 0≠99999999->Ext d g->d.size<=r->g[r]? =some (J2 #[Ay b,J7 nm,J6 J9 ((l.getLast?.getD 0+1:Nat):Int),J3 false] Yx (0,0))->View IB g sl (Ra nm m l)->
   (∀ c,sl.af=some c->d.size<=c/\c≠r)->w (J1 #[Ay r,J4 sl.p sl.len sl.cap,J6 J9 0]) g):AA R P QQ #[Ay b,J7 nm] d w:=by
 refine AH1 ?_;unfold ta;refine ae.no rfl (ah.mk λK W=>?_);have X:bS nm (⟨#[]⟩:A2O)=false:=by rw[Cb,decide_eq_false_iff_not];rintro rfl;have:(⟨#[]⟩:A2O).size=0:=rfl;omega
 rw[X];refine ae.no rfl (W _ _ (ae.no (by simp;omega) ?_));refine Zb E D hd (by omega) T λG Y l h v2 o _=>⟨Y,_,rfl,ae.no rfl ?_⟩
 have ax:l.length<=99999999:=by
  have Z: ∀(l:List Nat) (s:Nat),l.Pairwise (· < ·)->(∀ e∈l,s<e/\e<=99999999)->l.length+s<=99999999\/l= []:=by
   intro l
   induction l with
   |nil=>intro s _ _;exact .inr rfl
   |cons a l ab=>
    intro s y H;rw[RK] at y;have ay:=H a (by simp);rcases ab a y.2 (λe t=>⟨y.1 e t,(H e (An _ t)).2⟩) with d|d
    ·left;simp only[A5];omega
    ·subst d;left;simp;omega
  rcases Z l 0 h.inc (λe t=>by have:=(h.mem e).1 t;omega) with d|d
  ·omega
  ·subst d;simp
 refine Loop.rule (λI x p=> ∃(i:Nat) (sl:Sl),x=(sl,(((l.take i).getLast?.getD 0:Nat):Int),(i:Int),())/\Ext G p/\Own IB Ar p sl (Ra nm m (l.take i))/\(∀ c,sl.af=some c->G.size<=c)/\i<=l.length/\I=l.length-i) ?_
  ⟨0,⟨none,0,0⟩,rfl,Mod.refl,Own.nil,λc n=>by simp[Sl.af] at n,As _,rfl⟩
 rintro az I _ p ⟨i,sl,rfl,j,u,f,aA,rfl⟩ ac;have J:(l.map λe:Nat=>(e:Int)).length=l.length:=By ..;rw[v2.len,J];refine ae.intro (λz=>?_) (λz=>?_)
 ·have q:i<l.length:=by simpa using z
  have ag:l[i]? =some l[i]:=A2 q;have ad:l[i]∈l:=AW q;obtain⟨aD,aE,L⟩:=(h.mem l[i]).1 ad;have M:l.take (i+1)=l.take i++ [l[i]]:=by rw[AD,ag];rfl
  have af:(l.take (i+1)).getLast?.getD 0=l[i]:=by rw[M,SZ];rfl
  have N:Ra nm m (l.take (i+1))=Ra nm m (l.take i)++(jV (bl (iC m nm l[i]))).map AX:=by rw[M];unfold Ra;rw[GB];simp
  have A:=qF (nm:=nm) (m:=m) hd (l:=l.take (i+1)) (h.inc.sublist (List.take_sublist _ _));rw[N,A1,By] at A;rw[<- J,<-v2.len];refine(v2.ext j).idx (i:=i) (x:=(l[i]:Int)) (by rw[Bs,ag];rfl) λa _ c=>?_
  refine AC.mk c.int ?_;have O:=o.trans j;refine XI (E.ext O) (by omega) (by omega) λaF v=>⟨_,rfl,?_⟩
  refine oD ((D.ext O).ext v) ⟨_,_,rfl,?_⟩;have ai:(Sz m (aC nm l[i])).2=0:=by
   unfold Sz;rw[if_neg (by simp[hd])];cases aj:Ca (aC nm l[i]) m.files with
   |none=>rw[aj] at L;cases L
   |some f=>rfl
  rw[ai];refine ae.no rfl ?_;have am:(Sz m (aC nm l[i])).1.size<=8000000000000:=by rw[w9 hd];have:=qE (aC nm l[i]) m.files;omega
  refine ANs am λaG an aH B ao=>⟨an,_,rfl,?_⟩
  refine GI (E:=IB) vY ((u.ext v).ext B) ao (by rw[By];unfold iC at A;omega) (by rw[By];unfold iC at A;simp[maxLen];omega) λap aI aq ar au aJ=>?_
  dsimp only;rw[Aa (by omega)];refine ac (l.length-(i+1)) _ _ (by omega) ⟨i+1,ap,?_,((j.trans v).trans B).more ar f,?_,λc n=>?_,q,rfl⟩
  ·rw[af]
  ·rw[N];exact aq
  ·rcases au c n with d|d
   ·exact f c d
   ·have:=j.size;have:=v.size;have:=B.size;omega
 ·have q:i=l.length:=by simp at z;omega
  subst q;rw[BW] at u ⊢;refine ae.intro (λk=>?_) (λk=>?_)
  ·have k:l.getLast?.getD 0=99999999:=by simp at k;omega
   exact U p l h k (o.trans j)
  ·have k:l.getLast?.getD 0≠99999999:=by simp at k;omega
   have aK:l.getLast?.getD 0<=99999999:=by
    cases av:l.getLast? with
    |none=>simp
    |some e=>
     have:=(h.mem e).1 (T4 av);simp;omega
   refine ak.mk λF _ C Q aL=>?_
   dsimp only at C ⊢;rw[Aa (by omega)] at C;refine V F l p.size sl h k ((o.trans j).trans Q) (by have:=o.size;have:=j.size;omega) C (u.ext Q).view λc n=>by have:=f c n;have:=o.size;have:=u.lt n;omega
def EA(a:aa)(c b:Nat)(d:A2O)(e:Nat)(f:Bool):Prop:=a[c]? =some (J2 #[Ay b,J7 d,J6 J9 (e:Int),J3 f] Yx (0,0))
theorem EA.mod {c d:aa}{a b:Nat}{e:A2O}{f:Nat}{g:Bool}{h:Nat->Prop}(L:EA c a b e f g)(x:Mod h c d)(i: ¬h a):EA d a b e f g:=x.af L i
theorem EA.ext {a c:aa}{d b:Nat}{e:A2O}{f:Nat}{g:Bool}(L:EA a d b e f g)(x:Ext a c):EA c d b e f g:=x.af L (λa=>a)
theorem we {s:al}{a:aa}{d b e:Nat}{f rec:A2O}{p:Bool}{i:Nat->Prop}{m:Bx}{t:A2N}(H:cm a)(L:EA a d b f e p)(I:Cm a b i m)(u: ¬i d)(X: ∀j,Mod i a j->cm j)(J:f.size<=1099511627776)(K:e<=4294967295)(M:rec.size<=1048576)(Y:bg m.files<=8000000000000)
  (w: ∀j S',Cm j b S' (Dt m (aC f e) (AX (Cj (bl rec)))).2->EA j d b f e (p||decide ((Dt m (aC f e) (AX (Cj (bl rec)))).1=0))->Mod (λc=>i c\/c=d) a j->(∀ c,S' c->i c\/(a.size<=c/\c≠d))->t (J6 J9 (Dt m (aC f e) (AX (Cj (bl rec)))).1) j):
  AA s P JE #[Ay d,J7 rec] a t:=by
 refine Wt ?_;unfold Pf;refine ae.no rfl ?_;have Z:=Af L;have N:(bl rec).length<=1048576:=by rw[BA];exact M
 have O:=I6 N;rw[BA] at O;have Q:rec=AX (bl rec):=(KM rec).symm;have R:AA s P Gx #[J7 rec] a λv l=> ∃x:A2O,∃y:Int,v=J1 #[J7 x,J6 J9 y]/\(x=AX (Cj (bl rec))/\y=0/\Ext a l):=by
  rw[Q];refine qx (by rw[KM] at *;omega) (λl=>by rw[KM] at *;omega) λ_ l k=>⟨_,_,rfl,?_,rfl,k⟩
  rw[KM]
 refine AA.mono R ?_;rintro v l ⟨ac,ad,rfl,rfl,rfl,k⟩;refine⟨_,_,rfl,ae.no rfl ?_⟩;have q:=L.ext k;refine aD (AZ.mk (AL q rfl) (aD (AJ.mk (AB q rfl) (aD (AC.mk (AB q rfl) ?_)))));refine XI (H.ext k) K J λaf S=>⟨_,rfl,?_⟩
 have n:=k.trans S;have z:=L.ext n;refine⟨AL z rfl,?_⟩;refine rI (I.ext n) (by rw[AP];omega) λr o A B C=>⟨_,rfl,?_⟩
 have D:EA r d b f e p:=z.mod B u;have ag:=n.size;have E: ∀c,o c->i c\/(a.size<=c/\c≠d):=λc g=>(C c g).imp id λa=>⟨by omega,by omega⟩
 have F:Mod (λc=>i c\/c=d) a r:=(Ext.mod n).trans (B.ai λc _ g=> .inl g);refine ae.intro (λh=>?_) (λh=>?_)
 ·have h:(Dt m (aC f e) (AX (Cj (bl rec)))).1≠0:=by simpa using h
  exact w r o A (by rw[decide_eq_false h,Bool.or_false];exact D) F E
 ·have h:(Dt m (aC f e) (AX (Cj (bl rec)))).1=0:=by simpa using h
  refine aD (ab.dk D (by simp) λT U G ah=>?_);have V: ¬o d:=λg=>by rcases C d g with a|a;exact u a;omega
  have:=w T o (A.mod G λc g W=>V (W▸g)) (by rw[decide_eq_true h,HG];simpa [EA] using U) (F.then (G.ai λc _ g=> .inl (.inr g))) E;rw[h] at this;exact this
def MG(m:Bx)(a:A2O)(b:Bool):Int×Bx:=if b then Gr m a else(0,m)
theorem wg {o:al}{a:aa}{f b c:Nat}{d:A2O}{e:Bool}{g:Nat->Prop}{m:Bx}{j:A2N}(p:cm a)(L:EA a f b d c e)(k:Cm a b g m)(q: ¬g f)(r:d.size<=1099511627776)(s:c<=4294967295)
  (l: ∀h,Cm h b g (MG m (aC d c) e).2->EA h f b d c e->Mod g a h->j (J6 J9 (MG m (aC d c) e).1) h):
  AA o P KQ #[Ay f] a j:=by
 refine AAR ?_;unfold TP;refine ae.no rfl (aD (Ab.mk (AB L rfl) ?_));cases e with
 |false=>exact ae.yes rfl (l a k L Mod.refl)
 |true=>
  refine ae.no rfl (aD (AZ.mk (AL L rfl) (aD (AJ.mk (AB L rfl) (aD (AC.mk (AB L rfl) ?_))))));refine XI p s r λv i=>⟨_,rfl,⟨AL (L.ext i) rfl,?_⟩⟩
  refine rJ (k.ext i) λt u n=>⟨_,rfl,?_⟩
  exact l t u ((L.ext i).mod n q) ((Ext.mod i).trans n)
theorem VW {v:al}{h:aa}{g b a:Nat}{d:A2O}{f:Bool}{i:Nat->Prop}{m:Bx}{l:A2N}(w:cm h)(L:EA h g b d a f)(x:Cm h b i m)(p: ¬i g)(y:d.size<=1099511627776)(G:a<99999999)
  (z:(MG m (aC d a) f).1≠0-> ∀e,Cm e b i (MG m (aC d a) f).2->EA e g b d a f->Mod i h e->l (J1 #[J6 J9 0,J6 J9 (MG m (aC d a) f).1]) e)
  (A:(MG m (aC d a) f).1=0-> ∀e,Cm e b i (MG m (aC d a) f).2->EA e g b d (a+1) false->Mod (λc=>i c\/c=g) h e->l (J1 #[J6 J9 (a:Int),J6 J9 0]) e):
  AA v P Gc #[Ay g] h l:=by
 refine Wz ?_;unfold Pz;refine ae.no rfl (aD (AC.mk (AB L rfl) (ae.no (by simp;omega) ?_)));refine wg w L x p y (by omega) λB q n r=>⟨_,rfl,?_⟩
 refine ae.intro (λj=>?_) (λj=>?_)
 ·exact z (by simpa using j) B q n r
 ·have j:(MG m (aC d a) f).1=0:=by simpa using j
  refine aD (AC.mk (AB n rfl) ?_);rw[Aa (by omega)];refine aD (ab.dk n (by simp) λH C D I=>?_);refine aD (ab.dk C (by simp) λs E F J=>?_);have t:EA s g b d (a+1) false:=by simpa [EA] using E
  refine aD (AC.mk (AB t rfl) ?_);have o:J8 J9 (((a+1:Nat):Int)-1)=(a:Int):=by rw[wrap_i64 (by omega) (by omega)];omega
  rw[o];have u:=D.trans F;exact A j s (q.mod u λc k o=>p (o▸k)) t ((r.ai λc _ k=> .inl k).trans (u.ai λc _ k=> .inr k))
end Go.Lf.G
namespace Go.Lf
open Go
def ff(m:Bx)(a:A2O):Option (A2O×A2O):=(Ca a m.files).map λf=>(f.bY,f.soft)
theorem UA {m:Bx}{a:A2O}:(Ca a m.files).isSome=(ff m a).isSome:=by unfold ff;cases Ca a m.files<;>rfl
theorem qe {m:Bx}(hd:m.down=false)(a:A2O):Sz m a=match ff m a with|none=>(bz,31)|some p=>(p.1++p.2,0):=by unfold Sz ff;rw[if_neg (by simp[hd])];cases Ca a m.files<;>rfl
theorem qf(m:Bx)(l:List Fi)(a:A2O):ff {Ht m with files:=l} a=(Ca a l).map λf=>(f.bY,f.soft):=rfl
theorem AJO {a x:A2O}(l:List Fi):Ca x (Su a l)=if x=a then some ((Ca a l).getD ⟨a,bz,bz⟩) else Ca x l:=by
 unfold Su;cases c:Ca a l with
 |some f=>
  simp only[Option.isSome_some,if_true];by_cases b:x=a
  ·subst b;simp[c]
  ·rw[if_neg b]
 |none=>
  rw[if_neg (by simp),ug (λd e=>Qz c d e)];by_cases b:x=a
  ·subst b;simp
  ·rw[if_neg b,if_neg (λg=>b g.symm)]
def jA(m:Bx):Prop:=m.down=false/\m.fuel≠0
theorem ALV {m:Bx}(g:jA m){a d:A2O}(e:KZ a=false):(Dt m a d).1=0/\ ∀x,ff (Dt m a d).2 x=if x=a then some (((ff m a).getD (bz,bz)).1,((ff m a).getD (bz,bz)).2++d) else ff m x:=by
 unfold Dt;rw[if_neg (by simp[g.1]),if_neg (by simp[e]),if_neg g.2];refine⟨rfl,λx=>?_⟩;rw[qf,Yt (g:=Qu d) (λ_=>rfl),AJO];unfold ff;by_cases b:x=a
 ·subst b;rw[if_pos rfl,if_pos rfl];cases c:Ca x m.files with
  |none=>simp[Qu]
  |some f=>
   have:=(Jk c).1;simp[Qu,this]
 ·rw[if_neg b,if_neg b];cases c:Ca x m.files with
  |none=>rfl
  |some f=>
   have:=(Jk c).1;simp only[IT];rw[if_neg (by rw[this];exact b)]
theorem APb {m:Bx}(g:jA m){b:A2O}{p:A2O×A2O}(c:ff m b=some p):(Gr m b).1=0/\ ∀x,ff (Gr m b).2 x=if x=b then some (p.1++p.2,bz) else ff m x:=by
 have a: ∃f,Ca b m.files=some f/\(f.bY,f.soft)=p:=by
  unfold ff at c;cases a:Ca b m.files with
  |none=>rw[a] at c;cases c
  |some f=>rw[a] at c;exact⟨f,rfl,C2 c⟩
 obtain⟨f,a,rfl⟩:=a;unfold Gr;rw[if_neg (by simp[g.1]),if_neg (by simp[a]),if_neg g.2];refine⟨rfl,λx=>?_⟩;rw[qf,Yt (g:=RH) (λ_=>rfl)];by_cases d:x=b
 ·subst d;have:=(Jk a).1;rw[if_pos rfl,a];simp[RH,this]
 ·rw[if_neg d];unfold ff;cases e:Ca x m.files with
  |none=>rfl
  |some h=>
   have:=(Jk e).1;simp only[IT];rw[if_neg (by rw[this];exact d)]
theorem AL6 {m:Bx}(g:jA m){a:A2O}(b:(ff m a).isSome=true):(GU m a).1=0/\ ∀x,ff (GU m a).2 x=if x=a then none else ff m x:=by
 have c:(Ca a m.files).isNone=false:=by
  rw[<- UA] at b;cases c:Ca a m.files with
  |none=>rw[c] at b;cases b
  |some f=>rfl
 unfold GU;rw[if_neg (by simp[g.1]),if_neg (by simp[c]),if_neg g.2];refine⟨rfl,λx=>?_⟩;rw[qf,Yk];split<;>rfl
theorem AKv {m:Bx}(l:List Fi):({Ht m with files:=l}:Bx).down=m.down:=by show(Ht m).down=m.down;unfold Ht;split<;>rfl
theorem u6: ∀ {l f:List Nat},l.Pairwise (· < ·)->f.Pairwise (· < ·)->(∀ e,e∈l↔e∈f)->l=f
 | [],[],_,_,_=>rfl
 | [],b::f,_,_,d=>by have:=(d b).2 (by simp);cases this
 |a::l,[],_,_,d=>by have:=(d a).1 (by simp);cases this
 |a::l,b::f,h,i,d=>by
  rw[RK] at h i;have k:a=b:=by
   rcases List.mem_cons.1 ((d a).1 (by simp)) with c|c
   ·exact c
   ·rcases List.mem_cons.1 ((d b).2 (by simp)) with j|j
    ·exact j.symm
    ·have:=i.1 a c;have:=h.1 b j;omega
  subst k;have:l=f:=u6 h.2 i.2 λe=>by
   constructor
   ·intro g;rcases List.mem_cons.1 ((d e).1 (An _ g)) with c|c
    ·have:=h.1 e g;omega
    ·exact c
   ·intro g;rcases List.mem_cons.1 ((d e).2 (An _ g)) with c|c
    ·have:=i.1 e g;omega
    ·exact c
  rw[this]
end Go.Lf
namespace Go.Lf.G
open Go
theorem AOy {b:A2O}{m:Bx}{l:List Nat}{c:Nat->List A2O}(hd:m.down=false)(d: ∀a∈l,∃p,ff m (aC b a)=some p/\MU (bl (p.1++p.2)) ((c a).map bl)):Ra b m l=l.flatMap c:=by
 unfold Ra
 induction l with
 |nil=>rfl
 |cons a l e=>
  obtain⟨p,f,g⟩:=d a (by simp);rw[AH,AH,e λh i=>d h (An _ i)];congr 1;have j:iC m b a=p.1++p.2:=by unfold iC;rw[qe hd,f]
  rw[j,ANo g,AT]
  conv=>rhs;rw[<- Kx (c a)]
  exact CM λx _=>KM x
theorem wh {nm:A2O}{a:Nat}(e:nm.size<=8)(b:a<=99999999):KZ (aC nm a)=false:=by have c:=ANv (nm:=nm) b;unfold KZ;rw[Hi,decide_eq_false_iff_not,decide_eq_false_iff_not];refine⟨λd=>?_,by omega⟩;rw[d] at c;have:bz.size=0:=rfl;omega
theorem AOZ {i:A2O}{m:Bx}{l:List Nat}(g:lH i m l):l.length<=99999999:=by
 have j: ∀(l:List Nat) (d:Nat),l.Pairwise (· < ·)->(∀ b∈l,d<b/\b<=99999999)->l.length+d<=99999999\/l= []:=by
  intro l
  induction l with
  |nil=>intro d _ _;exact .inr rfl
  |cons a l k=>
   intro d f h;rw[RK] at f;have n:=h a (by simp);rcases k a f.2 (λb e=>⟨f.1 b e,(h b (An _ e)).2⟩) with c|c
   ·left;simp only[A5];omega
   ·subst c;left;simp;omega
 rcases j l 0 g.inc (λb e=>by have:=(g.mem b).1 e;omega) with c|c
 ·omega
 ·subst c;simp
structure Lw (h:aa) (lg b:Nat) (nm:A2O) (hh:aa) (S:Nat->Prop) (m:Bx) (seg:Nat) (made:Bool):Prop where
 box:Cm hh b S m
 log:EA hh lg b nm seg made
 ext:Ext h hh
 fresh: ∀c,S c->h.size<=c/\c≠lg
 lgn:h.size<=lg
def aT(rec:A2O):A2O:=AX (Cj (bl rec))
abbrev nx:A2O:=⟨#[120]⟩
open M (Sorted Ae Cr BG Ag Aw Bf Aj bG BM)
abbrev bQ:=A2O->Option (A2O×A2O)
abbrev nl:A2O:=⟨#[108]⟩
abbrev nn:A2O:=⟨#[110]⟩
abbrev nt:A2O:=⟨#[116]⟩
def aU(a:Nat):A2O:=nt++AX (Lib.decDigits a)
theorem Vi(a:Nat):bl (aU a)=116::Lib.decDigits a:=by show(nt++AX (Lib.decDigits a)).data.toList=_;rw[Kf,N4];show [116]++(AX (Lib.decDigits a)).data.toList=_;rw[show(AX (Lib.decDigits a)).data.toList=Lib.decDigits a from Ce _];rfl
theorem JB {a b:Nat}(e:aU a=aU b):a=b:=by
 have c:=congrArg bl e;rw[Vi,Vi] at c;have f:Lib.decDigits a=Lib.decDigits b:=by injection c
 have d:=(Xu a).2;rw[f,(Xu b).2] at d;exact d.symm
theorem P5(a:Nat):(bl (aC nl a)).head? =some 108:=by rw[QY];rfl
theorem R4(a:Nat):(bl (aC nn a)).head? =some 110:=by rw[QY];rfl
theorem qJ(a:Nat):(bl (aU a)).head? =some 116:=by rw[Vi];rfl
theorem Ur(a b:Nat):aC nl a≠aC nn b:=λc=>by have:=P5 a;rw[c,R4] at this;cases this
theorem K9(a b:Nat):aC nl a≠aU b:=λc=>by have:=P5 a;rw[c,qJ] at this;cases this
theorem Np(a b:Nat):aC nn a≠aU b:=λc=>by have:=R4 a;rw[c,qJ] at this;cases this
def da(x:A2O):Prop:=(∃ a,x=aC nl a)\/(∃ a,x=aC nn a)\/ ∃a,x=aU a
def LY(b G:bQ):Prop:= ∀x,match b x with
 |none=>G x=none
 |some p=> ∃a,G x=if p.1++p.2.extract 0 a=bz then none else some (p.1++p.2.extract 0 a,bz)
theorem AOx(a:Nat):bz.extract 0 a=bz:=by
 have:(bz.extract 0 a).size=0:=by have:bz.size=0:=rfl;rw[A0P];omega
 have b:=KM (bz.extract 0 a);have c:bl (bz.extract 0 a)= []:=Sa this;rw[c] at b;exact b.symm
def Mk(a b:Option (A2O×A2O)):Prop:=b=a\/(a=some (bz,bz)/\b=none)
theorem LY.bY {b G:bQ}(c:LY b G){x:A2O}(g: ∀p,b x=some p->p.2=bz):Mk (b x) (G x):=by
 have:=c x;cases d:b x with
 |none=>rw[d] at this;exact .inl this
 |some p=>
  rw[d] at this;obtain⟨i,a⟩:=this;have e:=g p d;obtain⟨h,j⟩:=p;simp only at e;subst e;simp only[AOx,XN] at a;by_cases f:h=bz
  ·subst f;rw[if_pos rfl] at a;exact .inr ⟨rfl,a⟩
  ·rw[if_neg f] at a;exact .inl a
structure gj (F:bQ) (nm:A2O) (top:Nat) (R:Nat->List (List UInt8)):Prop where
 has: ∀n p,1<=n->n<=99999999->F (aC nm n)=some p->p.2=bz/\MU (bl p.1) (R n)
 ia: ∀n,1<=n->n<=99999999->F (aC nm n)=none->R n= []
 out: ∀n,top<=n->n<=99999999->F (aC nm n)=none
 kD: ∀n,(n=0\/top<=n)->R n= []
def Jp {a:Type}(c:Nat->a)(s:Nat)(v:a):Nat->a:=λb=>if b=s then v else c b
theorem DL {a:Type}{b:Nat->a}{s:Nat}{v:a}:Jp b s v s=v:=if_pos rfl
theorem Ec {b:Type}{c:Nat->b}{s a:Nat}{v:b}(d:a≠s):Jp c s v a=c a:=if_neg d
theorem qK {a:List (List UInt8)}(b:MU [] a):a= []:=b.uniq (.stop Sk)
theorem gj.put {k G:bQ}{f:A2O}{l eX:Nat}{m:Nat->List (List UInt8)}(i:gj k f l m){s:Nat}{v:List (List UInt8)}(r:1<=s/\s<=99999999)(t:s<eX)(j: ∀a,1<=a->a<=99999999->a≠s->Mk (k (aC f a)) (G (aC f a)))
  (n:(G (aC f s)=none/\v= [])\/ ∃x,G (aC f s)=some (x,bz)/\MU (bl x) v) (u:l<=eX):gj G f eX (Jp m s v):=by
 refine⟨λa p g e c=>?_,λa g e c=>?_,λa o e=>?_,λa o=>?_⟩
 ·by_cases d:a=s
  ·subst d;rw[DL];rcases n with⟨b,_⟩|⟨x,b,h⟩
   ·rw[b] at c;cases c
   ·rw[b] at c;cases c;exact⟨rfl,h⟩
  ·rw[Ec d];rcases j a g e d with b|⟨b,h⟩
   ·exact i.has a p g e (b▸c)
   ·rw[h] at c;cases c
 ·by_cases d:a=s
  ·subst d;rw[DL];rcases n with⟨_,b⟩|⟨x,b,_⟩
   ·exact b
   ·rw[b] at c;cases c
  ·rw[Ec d];rcases j a g e d with b|⟨b,h⟩
   ·exact i.ia a g e (b▸c)
   ·obtain⟨_,q⟩:=i.has a _ g e b;exact qK q
 ·have d:a≠s:=by omega
  rcases j a (by omega) e d with b|⟨b,h⟩
  ·rw[b];exact i.out a (by omega) e
  ·exact h
 ·have d:a≠s:=by omega
  rw[Ec d];exact i.kD a (by omega)
theorem gj.aY {k G:bQ}{f:A2O}{i:Nat}{l:Nat->List (List UInt8)}(d:gj k f i l)(o:1<=i)(j: ∀a,1<=a->a<=99999999->Mk (k (aC f a)) (G (aC f a))):gj G f i l:=by
 refine⟨λa p g b e=>?_,λa g b e=>?_,λa m b=>?_,d.kD⟩
 ·rcases j a (by omega) b with c|⟨c,h⟩
  ·exact d.has a p g b (c▸e)
  ·rw[h] at e;cases e
 ·rcases j a (by omega) b with c|⟨c,h⟩
  ·exact d.ia a g b (c▸e)
  ·obtain⟨_,n⟩:=d.has a _ g b c;exact qK n
 ·rcases j a (by omega) b with c|⟨c,h⟩
  ·rw[c];exact d.out a m b
  ·exact h
theorem gj.drop {l G:bQ}{e:A2O}{h:Nat}{m g:Nat->List (List UInt8)}(i:gj l e h m)(j: ∀a,a<=99999999->(G (aC e a)=l (aC e a)/\g a=m a)\/(G (aC e a)=none/\g a= []))(n: ∀a,(a=0\/h<=a)->g a= []):gj G e h g:=by
 refine⟨λa p k c f=>?_,λa k c f=>?_,λa o c=>?_,n⟩
 ·rcases j a c with⟨b,d⟩|⟨b,d⟩
  ·rw[d];exact i.has a p k c (b▸f)
  ·rw[b] at f;cases f
 ·rcases j a c with⟨b,d⟩|⟨b,d⟩
  ·rw[d];exact i.ia a k c (b▸f)
  ·exact d
 ·rcases j a c with⟨b,d⟩|⟨b,d⟩
  ·rw[b];exact i.out a o c
  ·exact b
theorem wM {rs:List (List UInt8)}{r:List UInt8}(b: ∀x∈rs++ [r],x.length<=1048576)(a:Nat):MU (bl (AX (aH rs)++(AX (Cj r)).extract 0 a)) rs\/MU (bl (AX (aH rs)++(AX (Cj r)).extract 0 a)) (rs++ [r]):=by
 have c:bl (AX (aH rs)++(AX (Cj r)).extract 0 a)=aH rs++(Cj r).take a:=by show(AX (aH rs)++(AX (Cj r)).extract 0 a).data.toList=_;rw[Kf,N4,SO,SP];rw[show(AX (aH rs)).data.toList=aH rs from Ce _,show(AX (Cj r)).data.toList=Cj r from Ce _];simp
 rw[c];by_cases d:a<(Cj r).length
 ·exact .inl (Qf (λx e=>b x (by simp[e])) (ALU (b r (by simp)) d))
 ·right;rw[AG (by omega)];have:=Qf (rs:=rs++ [r]) b (t:= []) Sk;simpa using this
structure Nt where
 next:Nat
 aT:Nat
 names:List Nat
def Dn(x:Nt):List UInt8:=BZ x.next++BZ x.aT++BZ x.names.length++x.names.flatMap BZ
structure gQ (x:Nt):Prop where
 next:x.next<=99999999
 aT:1<=x.aT/\x.aT<=99999999
 cn:x.names.length<=60000
 below: ∀n∈x.names,n<x.next
 nd:x.names.Nodup
structure XJ (b:List Pr):Prop where
 len:b.length<=64
 ok: ∀x∈b,Kj x
theorem Tg: ∀ {l:List Nat},(∀ n∈l,n<=99999999)->(l.flatMap BZ).length<=l.length*10
 | [],_=>by simp
 |n::l,a=>by
  have d:=AV (n:=n) (by have:=a n (by simp);omega);have e:=Tg (l:=l) λb c=>a b (An _ c)
  simp only[AH,A1,A5];omega
theorem wN {x:Nt}(a:gQ x):(Dn x).length<=30+x.names.length*10:=by
 have c:=AV (n:=x.next) (by have:=a.next;omega);have d:=AV (n:=x.aT) (by have:=a.aT;omega);have e:=AV (n:=x.names.length) (by have:=a.cn;omega);have f:=Tg (l:=x.names) λn b=>by have:=a.below n b;have:=a.next;omega
 simp only[Dn,A1];omega
theorem X6 {s:Nat}{b:List Pr}(d:s<=99999999)(a:XJ b):(BN s b).length<=20+64*8276:=by have e:=AV (n:=s) (by omega);have f:=AV (n:=b.length) (by have:=a.len;omega);have g:=Kw a.ok;have c:=a.len;have h:b.length*8276<=64*8276:=AS _ c;simp only[BN,A1];omega
structure Bn where
 L:Nat->List (List Pr)
 N:Nat->List Nt
 T:Nat->List Pr
 aO:Nat
 aV:Nat
def MX(a:Bn):List Nt:=(List.range a.aV).flatMap a.N
def Ai(a:Bn):Nt:=(MX a).getLast?.getD ⟨1,1,[]⟩
def Hw(a:Bn):List (List Pr):=(List.range a.aO).flatMap λb=>if b<(Ai a).aT then [] else a.L b
def ET(a:Bn):List Pr:=BG [] (Hw a).flatten
def ct(a:Bn):List Pr:=BM (Ag (ET a::(Ai a).names.map a.T))
structure BH (F:bQ) (D:Bn):Prop where
 log:gj F nl D.aO λn=>(D.L n).map (BN n)
 note:gj F nn D.aV λn=>(D.N n).map Dn
 cL: ∀n∈(Ai D).names,F (aU n)=some (AX (JM (D.T n)),bz)/\Gg (D.T n)
 gf: ∀n b,b∈D.L n->XJ b
 dJ: ∀n x,x∈D.N n->gQ x
 dt: ∀x,F x≠none->(bl x).head? =some 116-> ∃n,x=aU n
 cw:1<=D.aO/\D.aO<=99999999/\1<=D.aV/\D.aV<=99999999
theorem wO {b:bQ}{a:Bn}(c:BH b a):gQ (Ai a):=by
 unfold Ai;cases d:(MX a).getLast? with
 |none=>exact⟨by simp,by simp,by simp,by simp,by simp⟩
 |some x=>
  have:=T4 d;obtain⟨e,_,f⟩:=List.mem_flatMap.1 this;exact c.dJ e x f
theorem ARK {l:List Pr}(t:Gg l):AX (JM l)≠bz:=λd=>by
 have a:JM l= []:=by have:=congrArg bl d;rw[EE] at this;exact this
 have e:aR l (ME l)≠ []:=by simp[aR]
 unfold JM at a;cases b:aR l (ME l) with
 |nil=>exact e b
 |cons r f=>
  rw[b] at a;have g:(Cj r).length=0:=by have c:=congrArg List.length a;rw[Vs,A1] at c;simp at c;simp[c.1]
  have h:=(I6 (r:=r) (Mr t.eG r (by rw[b];simp))).1;omega
theorem UB {a b:Option (A2O×A2O)}{l:List Pr}(e:Mk a b)(t:Gg l)(d:a=some (AX (JM l),bz)):b=some (AX (JM l),bz):=by
 rcases e with c|⟨c,_⟩
 ·exact c.trans d
 ·rw[d] at c;injection c with c;exact absurd (Prod.mk.inj c).1 (ARK t)
theorem BH.same {c G:bQ}{e:Bn}(b:BH c e)(h: ∀a,1<=a->a<=99999999->Mk (c (aC nl a)) (G (aC nl a)))(i: ∀a,1<=a->a<=99999999->Mk (c (aC nn a)) (G (aC nn a)))(j: ∀a∈(Ai e).names,Mk (c (aU a)) (G (aU a)))
  (k: ∀x,G x≠none->c x≠none\/ ∃a,x=aU a):BH G e:=by
 refine⟨b.log.aY b.cw.1 h,b.note.aY b.cw.2.2.1 i,λa f=>?_,b.gf,b.dJ,λx l hd=>?_,b.cw⟩
 ·obtain⟨d,g⟩:=b.cL a f;exact⟨UB (j a f) g d,g⟩
 ·rcases k x l with d|d
  ·exact b.dt x d hd
  ·exact d
theorem BH.dK {g G:bQ}{h:Bn}(d:BH g h)(c:LY g G):BH G h:=by
 refine d.same (λb e f=>c.bY λp a=>(d.log.has b p e f a).1) (λb e f=>c.bY λp a=>(d.note.has b p e f a).1) (λb i=>c.bY λp a=>?_) λx j=> .inl λk=>j ?_
 ·rw[(d.cL b i).1] at a;cases a;rfl
 ·have:=c x;rw[k] at this;exact this
open M (Sorted Ae Cr BG Ag Aw Bf Aj bG BM aS BV Wp)
theorem AOI {x:Pr}(a:Kj x):Aj x=0:=by
 have c:x.key≠(⟨#[]⟩:A2O):=λd=>a.key (by rw[d];rfl)
 have f:=a.bH;have g:=a.cp;unfold M.Aj;rw[if_neg ?_,if_neg ?_]
 ·simp only[Cl,decide_eq_true_eq];omega
 ·simp only[Cl,A3,decide_eq_true_eq,CA,decide_eq_false_iff_not];rintro(b|⟨b,e⟩)
  ·exact c b
  ·exact e (Yr (a.gone b))
theorem nN {x:Pr}(a:Aj x=0):Kj x:=by
 unfold M.Aj at a;split at a
 ·cases a
 ·rename_i b;split at a
  ·cases a
  ·rename_i c;simp only[Cl,A3,decide_eq_true_eq,CA,decide_eq_false_iff_not,not_or,not_and,Decidable.not_not] at b c;refine⟨λd=>b.1 (Yr d),by omega,by omega,λe=>?_⟩;rw[b.2 e];rfl
theorem wY {l:List Pr}(a: ∀x∈l,Kj x):Bf l:=λx b=>AOI (a x b)
theorem wZ(a:A2O): ∀ {b t:List Pr},Sorted t->Bf b->Ae a (BG t b)=(Ae a b.reverse).or (Ae a t)
 | [],t,_,_=>rfl
 |x::b,t,s,g=>by
  have d:=g x (by simp);show Ae a (BG (Cr x t) b)=_;rw[wZ a (M.Og s) λe f=>g e (An _ f),SD,M.NL,M.Pt d,M.WG x a s,M.BC];cases Ae a b.reverse with
  |some p=>rfl
  |none=>
   by_cases c:x.key=a
   ·rw[if_pos c,if_pos c];rfl
   ·rw[if_neg c,if_neg c];rfl
def alive(a:Option Pr):Option Pr:=a.filter λp=> !p.gone
theorem Ip(x:Pr):alive (some x)=if x.gone then none else some x:=by unfold alive;cases a:x.gone<;>simp[Option.filter,a]
theorem YK(a:A2O): ∀ {l:List Pr},Sorted l->Ae a (BM l)=alive (Ae a l)
 | [],_=>rfl
 |x::l,s=>by
  have e:=List.pairwise_cons.1 s;have c:=YK a e.2;unfold M.BM at c ⊢;rw[B9,M.BC];by_cases b:x.key=a
  ·rw[if_pos b];cases d:x.gone with
   |false=>rw[if_pos (by rfl),M.BC,if_pos b,Ip,d];rfl
   |true=>
    rw[if_neg (by simp),c];have:Ae a l=none:=M.ER λf g h=>M.Nk (e.1 f g) (b.trans h.symm)
    rw[this,Ip,d];rfl
  ·rw[if_neg b];cases d:x.gone with
   |false=>rw[if_pos (by rfl),M.BC,if_neg b];exact c
   |true=>rw[if_neg (by simp)];exact c
theorem Tc {l:List Pr}(s:Sorted l):Sorted (BM l):=s.sublist Hc
def Kv(fr:List Pr)(ts:List (List Pr)):List Pr:=BM (Ag (fr::ts))
theorem Eb(fr:List Pr)(ts:List (List Pr)):Sorted (Kv fr ts):=Tc (M.Dl _)
theorem GH(a:A2O){fr:List Pr}{ts:List (List Pr)}(b:bG (fr::ts)):Ae a (Kv fr ts)=alive ((Ae a fr).or (Aw a ts)):=by unfold Kv;rw[YK a (M.Dl _),M.I7 a b,M.Dr]
def iS(m:List Pr)(p:Pr):List Pr:=m.take (aS p.key m)++(if p.gone then [] else [p])++m.drop (if BV p.key m then aS p.key m+1 else aS p.key m)
def cS(m b:List Pr):List Pr:=b.foldl iS m
theorem XP(a:A2O)(x:Pr)(l:List Pr):aS a (x::l)=if aN x.key a then aS a l+1 else 0:=by unfold M.aS M.gW;rw[Mn];split<;>simp
theorem AIj(a:A2O)(x:Pr)(l:List Pr):BV a (x::l)=if aN x.key a then BV a l else decide (x.key=a):=by unfold M.BV;rw[XP];by_cases b:aN x.key a=true<;>simp[b]
def km(a:A2O)(l:List Pr):List Pr:=l.filter λb=> !decide (b.key=a)
theorem xf {k:A2O}: ∀ {l:List Pr},Sorted l->l.take (aS k l)++l.drop (if BV k l then aS k l+1 else aS k l)=km k l
 | [],_=>by simp[km]
 |x::l,s=>by
  have c:=List.pairwise_cons.1 s;have d:=xf (k:=k) c.2;unfold km at d ⊢;rw[XP,AIj,B9];by_cases a:aN x.key k=true
  ·have i:x.key≠k:=M.Nk a;have j:(!decide (x.key=k))=true:=by simp[i]
   simp only[a,if_true,j,HS,DQ];rw[<- d];cases o:BV k l<;>simp
  ·rw[if_neg a,if_neg a,I0,Ds];have e:l.filter (λm=> !decide (m.key=k))=l:=by
    refine List.filter_eq_self.2 λf n=>?_
    have g:=c.1 f n;by_cases h:f.key=k
    ·rw[h] at g;exact absurd g a
    ·simp[h]
   by_cases b:x.key=k
   ·rw[if_pos (by simp[b]),if_neg (by simp[b]),e];rfl
   ·rw[if_neg (by simp[b]),if_pos (by simp[b]),e];rfl
theorem xk {m:List Pr}(s:Sorted m)(p:Pr):iS m p=if p.gone then km p.key m else M.ins p m:=by
 unfold iS;cases a:p.gone with
 |true=>simp only[if_true,AM];exact xf s
 |false=>
  simp only[Cd,if_false];have:=M.mf p m;unfold M.Wp at this;exact this
theorem AMH(b c:A2O)(m:List Pr):Ae b (km c m)=if c=b then none else Ae b m:=by
 unfold km
 induction m with
 |nil=>split<;>rfl
 |cons x m f=>
  rw[B9,M.BC];by_cases d:x.key=c
  ·rw[if_neg (by simp[d]),f];by_cases a:c=b
   ·rw[if_pos a,if_pos a]
   ·rw[if_neg a,if_neg a,if_neg (λe=>a (d.symm.trans e))]
  ·rw[if_pos (by simp[d]),M.BC,f];by_cases a:x.key=b
   ·rw[if_pos a,if_pos a,if_neg (λe=>d (a.trans e.symm))]
   ·rw[if_neg a,if_neg a]
theorem xl {m:List Pr}(s:Sorted m)(p:Pr):Sorted (iS m p):=by
 rw[xk s];split
 ·exact s.sublist Hc
 ·exact M.Vf p s
theorem qL {m:List Pr}(s:Sorted m)(p:Pr)(a:A2O):Ae a (iS m p)=if p.key=a then alive (some p) else Ae a m:=by
 rw[xk s];cases b:p.gone with
 |true=>rw[if_pos rfl,AMH,Ip,b];rfl
 |false=>rw[if_neg (by simp),M.WG p a s,Ip,b];rfl
theorem xn: ∀ {b m:List Pr},Sorted m->Sorted (cS m b)
 | [],_,s=>s
 |p::b,m,s=>xn (b:=b) (xl s p)
theorem XA(a:A2O): ∀ {b m:List Pr},Sorted m->Ae a (cS m b)=match Ae a b.reverse with|some p=>alive (some p)|none=>Ae a m
 | [],_,_=>rfl
 |p::b,m,s=>by
  show Ae a (cS (iS m p) b)=_;rw[XA a (xl s p),SD,M.NL,M.BC];cases Ae a b.reverse with
  |some d=>rfl
  |none=>
   rw[qL s];by_cases c:p.key=a
   ·rw[if_pos c,if_pos c];rfl
   ·rw[if_neg c,if_neg c];rfl
theorem Za {fr b:List Pr}{ts:List (List Pr)}(c:bG (fr::ts))(g:Bf b):Kv (BG fr b) ts=cS (Kv fr ts) b:=by
 have e:=c.sorted fr (by simp);have f:bG (BG fr b::ts):=⟨λl a=>by
   rcases List.mem_cons.1 a with rfl|a
   ·exact M.QK e
   ·exact c.sorted l (by simp[a]),λl a=>by
   rcases List.mem_cons.1 a with rfl|a
   ·exact M.Vv (c.aQ fr (by simp))
   ·exact c.aQ l (by simp[a])⟩
 refine(Eb _ _).ext (xn (Eb _ _)) λd=>?_
 rw[GH d f,wZ d e g,XA d (Eb _ _),GH d c];cases Ae d b.reverse with
 |some p=>rfl
 |none=>rfl
theorem bG.gA {ts:List (List Pr)}(b:bG ts):bG ([]::ts):=⟨λl a=>by
  rcases List.mem_cons.1 a with rfl|a
  ·exact List.Pairwise.nil
  ·exact b.sorted l a,λl a=>by
  rcases List.mem_cons.1 a with rfl|a
  ·exact λ_ c=>by cases c
  ·exact b.aQ l a⟩
theorem bG.tail {l:List Pr}{ts:List (List Pr)}(b:bG (l::ts)):bG ts:=⟨λx a=>b.sorted x (by simp[a]),λx a=>b.aQ x (by simp[a])⟩
theorem AGc {fr:List Pr}{ts:List (List Pr)}(a:bG (fr::ts)):Kv [] (fr::ts)=Kv fr ts:=by
 refine(Eb _ _).ext (Eb _ _) λb=>?_
 rw[GH b (bG.gA a),GH b a,M.Dr];rfl
theorem AGG(a b:Option Pr):alive (a.or (alive b))=alive (a.or b):=by
 cases a with
 |some p=>rfl
 |none=>
  cases b with
  |none=>rfl
  |some c=>cases d:c.gone<;>simp[Ip,d,alive]
def Fy(ts:List (List Pr)):List Pr:=BM (Ag ts)
theorem nP {ts:List (List Pr)}:Sorted (Fy ts)/\Bf (Fy ts):=⟨Tc (M.Dl _),λx a=>M.WU _ x (List.mem_filter.1 a).1⟩
theorem bG.left {fr:List Pr}{ts:List (List Pr)}(b:bG (fr::ts)):bG [fr,Fy ts]:=⟨λl a=>by
  rcases List.mem_cons.1 a with rfl|a
  ·exact b.sorted _ (by simp)
  ·rw[List.mem_singleton.1 a];exact nP.1,λl a=>by
  rcases List.mem_cons.1 a with rfl|a
  ·exact b.aQ _ (by simp)
  ·rw[List.mem_singleton.1 a];exact nP.2⟩
theorem Uv {fr:List Pr}{ts:List (List Pr)}(b:bG (fr::ts)):Kv fr [Fy ts]=Kv fr ts:=by
 refine(Eb _ _).ext (Eb _ _) λa=>?_
 rw[GH a (bG.left b),GH a b,M.Dr];have:Ae a (Fy ts)=alive (Aw a ts):=by unfold Fy;rw[YK a (M.Dl _),M.I7 a (bG.tail b)]
 rw[this];have c:Aw a ([]:List (List Pr))=none:=rfl;rw[c,Option.or_none,AGG]
theorem AAv {fr:List Pr}{ts:List (List Pr)}(a:bG (fr::ts))(c:Fy ts= []):Kv fr []=Kv fr ts:=by
 rw[<- Uv a,c];have e:bG [fr]:=⟨λl b=>by rw[List.mem_singleton.1 b];exact a.sorted _ (by simp),λl b=>by rw[List.mem_singleton.1 b];exact a.aQ _ (by simp)⟩;have f:bG [fr,[]]:=by have:=bG.left a;rw[c] at this;exact this
 refine(Eb _ _).ext (Eb _ _) λd=>?_
 rw[GH d e,GH d f,M.Dr];rfl
theorem qM(l:List Pr):(BM l).length<=l.length:=(Hc).length_le
theorem SG {d:Type}{b:Nat->List d}{t:Nat}: ∀ {t':Nat},t<=t'->(∀ a,t<=a->a<t'->b a= [])->(List.range t').flatMap b=(List.range t).flatMap b
 |0,e,_=>by
  have:t=0:=by omega
  rw[this]
 |t'+1,e,c=>by
  by_cases f:t=t'+1
  ·rw[f]
  ·rw[N5,GB,SG (t':=t') (by omega) λa g h=>c a g (by omega)];rw[AH,c t' (by omega) (by omega)];simp
theorem YZ {c:Type}{a:Nat->List c}{s t:Nat}(e:s<t)(d: ∀b,s<b->a b= []):(List.range t).flatMap a=(List.range s).flatMap a++a s:=by rw[SG (t:=s+1) (by omega) λb f _=>d b (by omega),N5,GB];simp
theorem xt {d:Type}{b c:Nat->List d}{t:Nat}(e: ∀a,a<t->b a=c a):(List.range t).flatMap b=(List.range t).flatMap c:=by unfold List.flatMap;congr 1;exact CM λa f=>e a (List.mem_range.1 f)
theorem qO {a:Bn}{s:Nat}{l:List Nt}{x:Nt}(c:a.N s=l++ [x])(d: ∀b,s<b->a.N b= [])(e:s<a.aV):Ai a=x:=by unfold Ai MX;rw[YZ e d,c,<-A4,SZ];rfl
theorem BH.gy {c:bQ}{b:Bn}(d:BH c b){a:Nat}(e:a=0\/b.aO<=a):b.L a= []:=by simpa using d.log.kD a e
theorem BH.gB {c:bQ}{b:Bn}(d:BH c b){a:Nat}(e:a=0\/b.aV<=a):b.N a= []:=by simpa using d.note.kD a e
theorem BH.jh {b:bQ}{c:Bn}(d:BH b c){a:Nat}(e:a<=99999999)(f:b (aC nl a)=none):c.L a= []:=by
 by_cases g:a=0
 ·exact d.gy (.inl g)
 ·simpa using d.log.ia a (by omega) e f
theorem BH.jl {b:bQ}{c:Bn}(d:BH b c){a:Nat}(e:a<=99999999)(f:b (aC nn a)=none):c.N a= []:=by
 by_cases g:a=0
 ·exact d.gB (.inl g)
 ·simpa using d.note.ia a (by omega) e f
theorem xu(t a b:List Pr):BG t (a++b)=BG (BG t a) b:=HT
theorem xw:Bf ([]:List Pr):=λ_ a=>by cases a
theorem AJF:Sorted ([]:List Pr):=List.Pairwise.nil
theorem xy(a:Bn):Sorted (ET a)/\Bf (ET a):=⟨M.QK AJF,M.Vv xw⟩
theorem Gg.aQ {l:List Pr}(t:Gg l):Sorted l/\Bf l:=⟨t.inc,wY t.ok⟩
theorem BH.fQ {f:bQ}{a:Bn}(e:BH f a):bG (ET a::(Ai a).names.map a.T):=by
 refine⟨λl b=>?_,λl b=>?_⟩<;>rcases List.mem_cons.1 b with rfl|b
 ·exact(xy a).1
 ·obtain⟨c,d,rfl⟩:=List.mem_map.1 b;exact(e.cL c d).2.aQ.1
 ·exact(xy a).2
 ·obtain⟨c,d,rfl⟩:=List.mem_map.1 b;exact(e.cL c d).2.aQ.2
def Ri(a:Bn)(s:Nat)(b:List Pr):Bn:= {a with L:=Jp a.L s (a.L s++ [b]),aO:=max a.aO (s+1)}
theorem xz {g:bQ}{a:Bn}(h:BH g a){s:Nat}{b:List Pr}(m:(Ai a).aT<=s)(e: ∀c,s<c->a.L c= []):Hw (Ri a s b)=Hw a++ [b]:=by
 have f:s<max a.aO (s+1):=by omega
 have i:Hw a=(List.range s).flatMap (λc=>if c<(Ai a).aT then [] else a.L c)++a.L s:=by
  have j:Hw a=(List.range (max a.aO (s+1))).flatMap λc=>if c<(Ai a).aT then [] else a.L c:=by
   refine(SG (by omega) λc k n=>?_).symm;split
   ·rfl
   ·exact h.gy (.inr k)
  rw[j,YZ (s:=s) f (λc d=>by
   split
   ·rfl
   ·exact e c d),if_neg (by omega)]
 have l:Hw (Ri a s b)=(List.range s).flatMap (λc=>if c<(Ai a).aT then [] else Jp a.L s (a.L s++ [b]) c)++Jp a.L s (a.L s++ [b]) s:=by
  show(List.range (max a.aO (s+1))).flatMap (λc=>if c<(Ai a).aT then [] else Jp a.L s (a.L s++ [b]) c)=_;rw[YZ (s:=s) f (λc d=>by
   split
   ·rfl
   ·rw[Ec (by omega)];exact e c d),if_neg (by omega)]
 rw[i,l,DL,A4];congr 1;exact xt λc d=>by rw[Ec (by omega)]
theorem ANi {f:bQ}{a:Bn}(c:BH f a){s:Nat}{b:List Pr}(g:(Ai a).aT<=s)(h: ∀d,s<d->a.L d= [])(i:XJ b):ET (Ri a s b)=BG (ET a) b/\ct (Ri a s b)=cS (ct a) b:=by
 have e:ET (Ri a s b)=BG (ET a) b:=by unfold ET;rw[xz c g h,N6,xu];simp
 refine⟨e,?_⟩;have:=Za c.fQ (wY i.ok);unfold ct;rw[e];exact this
theorem AOw {h G:bQ}{d:Bn}(g:BH h d){s:Nat}{b:List Pr}(j:1<=s/\s+1<=99999999)(k:XJ b)(l: ∀a,1<=a->a<=99999999->a≠s->Mk (h (aC nl a)) (G (aC nl a)))(m: ∀a,1<=a->a<=99999999->Mk (h (aC nn a)) (G (aC nn a)))
  (n: ∀a,Mk (h (aU a)) (G (aU a))) (o: ∀x,(∀ a,x≠aC nl a)->G x≠none->h x≠none) (p: ∃x,G (aC nl s)=some (x,bz)/\MU (bl x) ((d.L s++ [b]).map (BN s))):BH G (Ri d s b):=by
 have q: ∀a∈(Ai d).names,G (aU a)=some (AX (JM (d.T a)),bz)/\Gg (d.T a):=λa r=>
  let ⟨t,i⟩:=g.cL a r
  ⟨UB (n a) i t,i⟩
 refine⟨?_,?_,q,λa c e=>?_,g.dJ,λx u hd=>?_,by have:=g.cw;refine⟨?_,?_,this.2.2.1,this.2.2.2⟩<;>simp only[Ri]<;>omega⟩
 ·have:=g.log.put (G:=G) (eX:=max d.aO (s+1)) (s:=s) (v:=(d.L s++ [b]).map (BN s)) ⟨j.1,by omega⟩ (by omega) (λa w y z=>l a w y z) (.inr p) (by omega);have f:(Jp (λa=>(d.L a).map (BN a)) s ((d.L s++ [b]).map (BN s)))=λa=>((Ri d s b).L a).map (BN a):=by
   funext a;show _=(Jp d.L s (d.L s++ [b]) a).map (BN a);by_cases f:a=s
   ·subst f;rw[DL,DL]
   ·rw[Ec f,Ec f]
  rw[f] at this;exact this
 ·exact g.note.aY g.cw.2.2.1 m
 ·by_cases f:a=s
  ·subst f;have e:c∈Jp d.L a (d.L a++ [b]) a:=e;rw[DL] at e;rcases List.mem_append.1 e with e|e
   ·exact g.gf a c e
   ·rw[List.mem_singleton.1 e];exact k
  ·have e:c∈Jp d.L s (d.L s++ [b]) a:=e;rw[Ec f] at e;exact g.gf a c e
 ·exact g.dt x (o x (λa f=>by rw[f,P5] at hd;cases hd) u) hd
def addN(a:Bn)(s:Nat)(x:Nt)(T:Nat->List Pr):Bn:= {a with N:=Jp a.N s [x],T:=T,aV:=max a.aV (s+1)}
theorem xA {a:Bn}{s:Nat}{x:Nt}{T:Nat->List Pr}(c: ∀b,s<b->a.N b= []):Ai (addN a s x T)=x:=by
 refine qO (s:=s) (l:= []) ?_ (λb d=>?_) ?_
 ·show Jp a.N s [x] s=_;rw[DL];rfl
 ·show Jp a.N s [x] b= [];rw[Ec (by omega)];exact c b d
 ·show s<max a.aV (s+1);omega
theorem xC {g G:bQ}{d:Bn}(f:BH g d){s:Nat}{x:Nt}{T:Nat->List Pr}(i:1<=s/\s+1<=99999999)(j:gQ x)(k: ∀a,s<a->d.N a= [])(l: ∀a,1<=a->a<=99999999->Mk (g (aC nl a)) (G (aC nl a)))(m: ∀a,1<=a->a<=99999999->a≠s->Mk (g (aC nn a)) (G (aC nn a)))
  (n: ∀a∈x.names,G (aU a)=some (AX (JM (T a)),bz)/\Gg (T a)) (o: ∀x,(∀ a,x≠aC nn a)->(∀ a,x≠aU a)->G x≠none->g x≠none) (p: ∃c,G (aC nn s)=some (c,bz)/\MU (bl c) [Dn x]):BH G (addN d s x T):=by
 refine⟨f.log.aY f.cw.1 l,?_,λa h=>?_,f.gf,λa c e=>?_,λc e hd=>?_,by have:=f.cw;refine⟨this.1,this.2.1,?_,?_⟩<;>simp only[addN]<;>omega⟩
 ·have:=f.note.put (G:=G) (eX:=max d.aV (s+1)) (s:=s) (v:= [Dn x]) ⟨i.1,by omega⟩ (by omega) (λa q r t=>m a q r t) (.inr p) (by omega);have b:(Jp (λa=>(d.N a).map Dn) s [Dn x])=λa=>((addN d s x T).N a).map Dn:=by
   funext a;show _=(Jp d.N s [x] a).map Dn;by_cases b:a=s
   ·subst b;rw[DL,DL];rfl
   ·rw[Ec b,Ec b]
  rw[b] at this;exact this
 ·rw[xA k] at h;exact n a h
 ·have e:c∈Jp d.N s [x] a:=e;by_cases b:a=s
  ·rw[b,DL] at e;rw[List.mem_singleton.1 e];exact j
  ·rw[Ec b] at e;exact f.dJ a c e
 ·by_cases b: ∃a,c=aU a
  ·exact b
  ·exact f.dt c (o c (λa b=>by rw[b,R4] at hd;cases hd) (λa u=>b ⟨a,u⟩) e) hd
theorem BH.fR {f G:bQ}{e:Bn}(g:BH f e)(b: ∀x,(∀ a,a∉(Ai e).names->x≠aU a)->G x=f x):BH G e:=by
 refine g.same (λa _ _=> .inl (b _ λc _=>K9 a c)) (λa _ _=> .inl (b _ λc _=>Np a c)) (λa h=> .inl (b _ λc i d=>i (by rw[<- JB d];exact h))) λx j=>?_
 by_cases d: ∃a,x=aU a
 ·exact .inr d
 ·exact .inl (by rw[<- b x λa _ k=>d ⟨a,k⟩];exact j)
open Classical in
noncomputable def Mi (b:Bn) (G:bQ):Bn:= {b with L:=λa=>if a<=99999999/\G (aC nl a)=none then [] else b.L a}
open Classical in
noncomputable def nT (b:Bn) (G:bQ):Bn:= {b with N:=λa=>if a<=99999999/\G (aC nn a)=none then [] else b.N a}
theorem AIR {b:Bn}{f G:bQ}(g:BH f b)(h: ∀a,a<=99999999->G (aC nl a)=f (aC nl a)\/(G (aC nl a)=none/\a<(Ai b).aT)):Hw (Mi b G)=Hw b:=by
 unfold Hw;refine xt λa i=>?_
 show(if a<(Ai b).aT then [] else if a<=99999999/\G (aC nl a)=none then [] else b.L a)=_;by_cases c:a<(Ai b).aT
 ·rw[if_pos c,if_pos c]
 ·rw[if_neg c,if_neg c];split
  ·rename_i d;rcases h a d.1 with e|e
   ·rw[e] at d;exact(g.jh d.1 d.2).symm
   ·exact absurd e.2 c
  ·rfl
theorem ANl {i G:bQ}{d:Bn}(c:BH i d)(n: ∀a,a<=99999999->G (aC nl a)=i (aC nl a)\/(G (aC nl a)=none/\a<(Ai d).aT))(j: ∀x,(∀ a,a<=99999999->x≠aC nl a)->G x=i x):BH G (Mi d G):=by
 refine⟨c.log.drop (λa g=>?_) (λa k=>?_),c.note.aY c.cw.2.2.1 λa q g=> .inl (j _ λl _ e=>Ur l a e.symm),λa k=>?_,λa b f=>?_,c.dJ,λx o hd=>?_,c.cw⟩
 ·show _\/(G (aC nl a)=none/\((if a<=99999999/\G (aC nl a)=none then [] else d.L a).map (BN a))= []);rcases n a g with h|h
  ·by_cases m:G (aC nl a)=none
   ·right;exact⟨m,by rw[if_pos ⟨g,m⟩];rfl⟩
   ·left;refine⟨h,?_⟩;show((if a<=99999999/\G (aC nl a)=none then [] else d.L a).map (BN a))=_;rw[if_neg λp=>m p.2]
  ·right;exact⟨h.1,by rw[if_pos ⟨g,h.1⟩];rfl⟩
 ·show((if a<=99999999/\G (aC nl a)=none then [] else d.L a).map (BN a))= [];split
  ·rfl
  ·rw[c.gy k];rfl
 ·rw[j _ λl _ e=>K9 l a e.symm];exact c.cL a k
 ·have f:b∈(if a<=99999999/\G (aC nl a)=none then [] else d.L a):=f;split at f
  ·cases f
  ·exact c.gf a b f
 ·exact c.dt x (by rw[<- j x λa _ e=>by rw[e,P5] at hd;cases hd];exact o) hd
theorem ACM {b:Bn}{G:bQ}{s:Nat}{x:Nt}(d:b.N s= [x])(e: ∀a,s<a->b.N a= [])(f:s<b.aV)(g:G (aC nn s)≠none):Ai (nT b G)=x:=by
 refine qO (s:=s) (l:= []) ?_ (λa c=>?_) f
 ·show(if s<=99999999/\G (aC nn s)=none then [] else b.N s)=_;rw[if_neg λc=>g c.2];exact d
 ·show(if a<=99999999/\G (aC nn a)=none then [] else b.N a)= [];split
  ·rfl
  ·exact e a c
theorem AN3 {j G:bQ}{c:Bn}(d:BH j c){s:Nat}{x:Nt}(o:c.N s= [x])(g: ∀a,s<a->c.N a= [])(p:s<c.aV)(r:G (aC nn s)≠none)(t: ∀a,a<=99999999->G (aC nn a)=j (aC nn a)\/G (aC nn a)=none)(k: ∀x,(∀ a,a<=99999999->x≠aC nn a)->G x=j x):BH G (nT c G):=by
 have u:Ai (nT c G)=Ai c:=by rw[ACM o g p r,qO (l:= []) o g p]
 refine⟨d.log.aY d.cw.1 λa y h=> .inl (k _ λm _ e=>Ur a m e),d.note.drop (λa h=>?_) (λa g=>?_),λa q=>?_,d.gf,λa b f=>?_,λx v hd=>?_,d.cw⟩
 ·rcases t a h with i|i
  ·by_cases n:G (aC nn a)=none
   ·right;refine⟨n,?_⟩;show((if a<=99999999/\G (aC nn a)=none then [] else c.N a).map Dn)= [];rw[if_pos ⟨h,n⟩];rfl
   ·left;refine⟨i,?_⟩;show((if a<=99999999/\G (aC nn a)=none then [] else c.N a).map Dn)=_;rw[if_neg λw=>n w.2]
  ·right;refine⟨i,?_⟩;show((if a<=99999999/\G (aC nn a)=none then [] else c.N a).map Dn)= [];rw[if_pos ⟨h,i⟩];rfl
 ·show((if a<=99999999/\G (aC nn a)=none then [] else c.N a).map Dn)= [];split
  ·rfl
  ·rw[d.gB g];rfl
 ·rw[u] at q;rw[k _ λm _ e=>Np m a e.symm];exact d.cL a q
 ·have f:b∈(if a<=99999999/\G (aC nn a)=none then [] else c.N a):=f;split at f
  ·cases f
  ·exact d.dJ a b f
 ·exact d.dt x (by rw[<- k x λa _ e=>by rw[e,R4] at hd;cases hd];exact v) hd
structure lN (D:Bn) (s:Nat) (x:Nt) (T:Nat->List Pr) (D':Bn):Prop where
 L:D'.L=D.L
 aO:D'.aO=D.aO
 aV:D'.aV<=max D.aV (s+1)
 last:(Ai D'=Ai D/\D'.T=D.T)\/(Ai D'=x/\D'.T=T)
theorem AMq {a:Bn}{s:Nat}{x:Nt}{T:Nat->List Pr}(c: ∀b,s<b->a.N b= []):lN a s x T (addN a s x T):=⟨rfl,rfl,A0 _,.inr ⟨xA c,rfl⟩⟩
theorem ANu {a:Bn}{s:Nat}{x:Nt}{T:Nat->List Pr}:lN a s x T a:=⟨rfl,rfl,by omega,.inl ⟨rfl,rfl⟩⟩
theorem AL0 {x:Nt}(c:gQ x)(a:(Dn x).length<=1048576):MU (bl (AX (Cj (Dn x)))) [Dn x]:=by rw[EE];have:=Qf (rs:= [Dn x]) (λr b=>by rw[List.mem_singleton.1 b];exact a) (t:= []) Sk;simpa using this
theorem ALo {c h:bQ}{d:Bn}{s:Nat}{x:Nt}{T:Nat->List Pr}(e:BH c d)(n:1<=s/\s+1<=99999999)(i:gQ x)(o:(Dn x).length<=1048576)(p: ∀a,s<=a->a<=99999999->c (aC nn a)=none)
  (q: ∀a∈x.names,c (aU a)=some (AX (JM (T a)),bz)/\Gg (T a)) (b: ∀f,h f=if f=aC nn s then some (AX (Cj (Dn x)),bz) else c f):BH h (addN d s x T)/\ ∀a,s<a->d.N a= []:=by
 have j: ∀a,s<a->d.N a= []:=λa k=>by
  by_cases l:a<=99999999
  ·exact e.jl l (p a (by omega) l)
  ·exact e.gB (.inr (by have:=e.cw;omega))
 refine⟨xC e n i j (λa _ _=> .inl ?_) (λa _ _ r=> .inl ?_) (λa k=>?_) (λf t _ m=>?_) ⟨_,by rw[b,if_pos rfl],AL0 i o⟩,j⟩
 ·rw[b,if_neg (Ur a s)]
 ·rw[b,if_neg λg=>r (IK g)]
 ·rw[b,if_neg λg=>Np s a g.symm];exact q a k
 ·rw[b,if_neg (t s)] at m;exact m
theorem AK0 {g F1 G:bQ}{e:Bn}{s:Nat}{x:Nt}{T:Nat->List Pr}(b:BH g e)(B:1<=s/\s+1<=99999999)(Q:gQ x)(R:(Dn x).length<=1048576)(C: ∀a,s<=a->a<=99999999->g (aC nn a)=none)
  (z: ∀a∈x.names,g (aU a)=some (AX (JM (T a)),bz)/\Gg (T a)) (j: ∀f,F1 f=if f=aC nn s then some (bz,AX (Cj (Dn x))) else g f) (c:LY F1 G): ∃k,BH G k/\lN e s x T k:=by
 have D: ∀a,s<a->e.N a= []:=λa u=>by
  by_cases E:a<=99999999
  ·exact b.jl E (C a (by omega) E)
  ·exact b.gB (.inr (by have:=b.cw;omega))
 have S:e.N s= []:=b.jl (by omega) (C s (A0 _) (by omega));have F: ∀a,1<=a->a<=99999999->Mk (g (aC nl a)) (G (aC nl a)):=λa m n=>by
  have d:F1 (aC nl a)=g (aC nl a):=by rw[j,if_neg (Ur a s)]
  have:=c.bY (x:=aC nl a) λp h=>(b.log.has a p m n (d▸h)).1
  rwa [d] at this
 have H: ∀a,1<=a->a<=99999999->a≠s->Mk (g (aC nn a)) (G (aC nn a)):=λa m n A=>by
  have d:F1 (aC nn a)=g (aC nn a):=by rw[j,if_neg λd=>A (IK d)]
  have:=c.bY (x:=aC nn a) λp h=>(b.note.has a p m n (d▸h)).1
  rwa [d] at this
 have I: ∀a l,g (aU a)=some (AX (JM l),bz)->Gg l->G (aU a)=some (AX (JM l),bz):=λa l w t=>by
  have d:F1 (aU a)=g (aU a):=by rw[j,if_neg λd=>Np s a d.symm]
  have:=c.bY (x:=aU a) λp h=>by rw[d,w] at h;cases h;rfl
  rw[d] at this;exact UB this t w
 have J: ∀f,(∀ a,f≠aC nn a)->G f≠none->g f≠none:=λf o U w=>U (by
  have:=c f;rw[j,if_neg (o s),w] at this;exact this)
 have K:=c (aC nn s);rw[j,if_pos rfl] at K;obtain⟨V,y⟩:=K;have i:=wM (rs:= []) (r:=Dn x) (λr L=>by rw[Ds] at L;rw[List.mem_singleton.1 L];exact R) V;have W:AX (aH [])=bz:=rfl;rw[W] at i;have M:(G (aC nn s)=none\/ ∃f,G (aC nn s)=some (f,bz)/\MU (bl f) [])-> ∃k,BH G k/\lN e s x T k:=λX=>by
  have Y:MX {e with aV:=max e.aV (s+1)}=MX e:=SG (by show e.aV<=max e.aV (s+1);omega) λa q _=>b.gB (.inr q)
  have N:Ai {e with aV:=max e.aV (s+1)}=Ai e:=by unfold Ai;rw[Y]
  refine⟨{e with aV:=max e.aV (s+1)},⟨b.log.aY b.cw.1 F,?_,λa O=>?_,b.gf,b.dJ,λf o hd=>?_,by have:=b.cw;refine⟨this.1,this.2.1,?_,?_⟩<;>simp only[]<;>omega⟩,⟨rfl,rfl,A0 _,.inl ⟨N,rfl⟩⟩⟩
  ·have:=b.note.put (G:=G) (eX:=max e.aV (s+1)) (s:=s) (v:= []) ⟨B.1,by omega⟩ (by omega) (λa m n A=>H a m n A) (X.imp (λb=>⟨b,rfl⟩) λb=>b) (by omega);have d:(Jp (λa=>(e.N a).map Dn) s [])=λa=>(e.N a).map Dn:=by
    funext a;by_cases d:a=s
    ·subst d;rw[DL,S];rfl
    ·rw[Ec d]
   rw[d] at this;exact this
  ·rw[N] at O;obtain⟨q,P⟩:=b.cL a O;exact⟨I a _ q P,P⟩
  ·exact b.dt f (J f (λa d=>by rw[d,R4] at hd;cases hd) o) hd
 split at y
 ·exact M (.inl y)
 ·rcases i with i|i
  ·exact M (.inr ⟨_,y,i⟩)
  ·exact⟨_,xC b B Q D F H (λa u=>⟨I a _ (z a u).1 (z a u).2,(z a u).2⟩) (λf q _ o=>J f q o) ⟨_,y,i⟩,AMq D⟩
theorem xD {f G:bQ}{b:Bn}{s:Nat}{x:Nt}{T:Nat->List Pr}(m:BH f (addN b s x T))(n: ∀a,s<a->b.N a= [])(o:f (aC nn s)≠none)(g: ∀d,G d=f d\/(G d=none/\ ∃a,a<s/\a<=99999999/\d=aC nn a)): ∃e,BH G e/\Ai e=x/\e.T=T/\e.L=b.L/\e.aO=b.aO/\e.aV=max b.aV (s+1):=by
 have i:(addN b s x T).N s= [x]:=by show Jp b.N s [x] s=_;rw[DL]
 have j: ∀a,s<a->(addN b s x T).N a= []:=λa p=>by show Jp b.N s [x] a=_;rw[Ec (by omega)];exact n a p
 have k:s<(addN b s x T).aV:=by show s<max b.aV (s+1);omega
 have l:G (aC nn s)≠none:=by
  rcases g (aC nn s) with c|⟨_,a,c,_,h⟩
  ·rw[c];exact o
  ·have:=IK h;omega
 refine⟨nT (addN b s x T) G,AN3 m i j k l (λa t=>?_) λd q=>?_,ACM i j k l,rfl,rfl,rfl,rfl⟩
 ·rcases g (aC nn a) with c|c
  ·exact .inl c
  ·exact .inr c.1
 ·rcases g d with c|⟨_,a,_,r,h⟩
  ·exact c
  ·exact absurd h (q a r)
end Go.Lf.G
namespace Go.Lf
open Go
variable {α : Type} {E : cy α} {A : al} {P : Q1}
def gO(a:Array J0):Nat->List J0->Array J0
 |_,[]=>a
 |o,v::r=>gO (a.setIfInBounds o v) (o+1) r
theorem Hz: ∀(c:List J0) (a:Array J0) (b:Nat),(gO a b c).size=a.size
 | [],_,_=>rfl
 |v::r,a,b=>by unfold gO;rw[Hz r];simp
theorem NQ: ∀(c:List J0) (b:Array J0) (a:Nat),a+c.length<=b.size->(gO b a c).toList=b.toList.take a++c++b.toList.drop (a+c.length)
 | [],b,a,d=>by simp[gO]
 |v::r,b,a,d=>by
  have e:b.size=b.toList.length:=by simp
  simp only[A5] at d;unfold gO;rw[NQ r _ (a+1) (by simp;omega)];rw[Fc,AD,List.take_set_of_le (A0 _),HJ (by omega),List.drop_set_of_lt (by omega)];simp only[DG,A4,List.singleton_append,A5,DQ,Ds];rw[show a+1+r.length=a+(r.length+1) by omega]
theorem cR {A:al}: ∀(h:List J0) (c:Nat) {d:aa} {n b:Nat} {f:Array J0} {T:Q7},d[b]? =some (.cells f T (0,0))-> ∃e,(A.at d n).setCells b c h=A.at e n/\e[b]? =some (.cells (gO f c h) T (0,0))/\Mod (· =b) d e/\e.size=d.size
 | [],c,d,n,b,f,T,g=>⟨d,rfl,g,Mod.refl,rfl⟩
 |v::r,c,d,n,b,f,T,g=>by
  have i:(cZ d ⟨b,c,none⟩ v)[b]? =some (.cells (f.setIfInBounds c v) T (0,0)):=tq g;obtain⟨e,j,k,l,m⟩:=cR (A:=A) r (c+1) (n:=n) i;refine⟨e,?_,k,(Mod.set (S:=(· =b)) (a:=⟨b,c,none⟩) rfl).trans l,by rw[m,Yd]⟩;show((A.at d n).setCell ⟨b,c,none⟩ v).setCells b (c+1) r=_;rw[<- j];rfl
theorem ANm {t h j T:Q7}{i:TypeInfo}{f:J0}(n:P.underlying t=some (.slice T))(o:P.underlying h=some (.int J9))(q:P.info? T=some i)(r:i.zero=some f)(D:i.size=1)(s:f.cells= #[f]){a:aa}{p:Q2}{cap b:Nat}{K:Sl->aa->Prop}
  (u:0<b) (F:cap<b) (w:b*i.bytes<=140737488355328) (k:b<=maxLen) (G:0<i.bytes)
  (x: ∀e c l,e[a.size]? =some (.cells l T (0,0))->l.size=c->b<=c->c<=maxLen->Ext a e->e.size=a.size+1->K ⟨some ⟨a.size,0,none⟩,b,c⟩ e):
  BF A P (Builtin.append_ #[t,h] j #[.slice p 0 cap,.int J9 (b:Int)]) a λv e=> ∃g:Sl,v= .slice g.p g.len g.cap/\K g e:=by
 intro d;have y:(Builtin.firstCells i.size 0 (.slice p 0 cap)).run P (A.at a d).drew= .ok ([]:List J0).toArray (A.at a d).drew:=by cases p<;>simp[Builtin.firstCells,loadCells,loadCellsFrom]
 have z:Builtin.nextslicecap (0+b) cap*i.bytes<=281474976710656:=by rw[AI];exact growslice_fits (by omega) w
 have m:=Lib.run_append_grow_zeros (A.at a d) t h j T i f J9 J9 n o q r p 0 cap [] y b u (by omega) (by omega) (by simp only[maxLen] at k;omega) (by omega) z;simp only[AI] at m;have B:=grownCap_ge (A.at a d) b cap T;have C:=grownCap_le_maxLen (A.at a d) b cap T k;generalize grownCap (A.at a d) b cap T=c at*
 refine⟨_,_,d+1,m,⟨some ⟨a.size,0,none⟩,b,c⟩,rfl,x _ c _ (PF ..) ?_ B C (Mod.push a _) (by show(a.push _).size=a.size+1;simp)⟩;simp[Builtin.zeroCells,s];omega
theorem nj {t k T:Q7}(q:P.underlying t=some (.slice T))(r:(P.info? T).map (·.size)=some 1){d:aa}{b e g l h m:Nat}{a:Q6}{i:Array J0}{vs:List J0}{K:Int->aa->Prop}
  (j:d[b]? =some (.cells i T (0,0))) (s:vs.length=min h g) (u: ∀f v,vs[f]? =some v->ag d (a.add f)=some v) (G:e+vs.length<=i.size) (w: ∀v∈vs,LA v=true)
  (x: ∀c,c[b]? =some (.cells (gO i e vs) T (0,0))->Mod (· =b) d c->c.size=d.size->K (vs.length:Int) c):
  BF A P (Builtin.copy_ #[t,t] k #[.slice (some ⟨b,e,none⟩) g l,.slice (some a) h m]) d λv c=> ∃o:Int,v= .int J9 o/\K o c:=by
 intro n;have p:=run_copy_cells (P:=P) (A.at d n) t t k T b e g l a h m vs q r s u
  (λf y=>by
   show(ag d ⟨b,e+f,none⟩).isSome=true;rw[Gy j,CD (by omega)];rfl)
  (λf y=>OO j) (λv z=>OY (w v z))
 obtain⟨c,B,C,D,F⟩:=cR (A:=A) vs e (n:=n) j;rw[B] at p;exact⟨_,c,n,p,_,rfl,x c C D F⟩
def nv(A:al)(P:Q1)(t b:Q7)(h fr:Q8)(s:Sl)(i:Int)(v:Sl)(e:aa)(d:A2N):Prop:=
 aG ((0:Int)<=i/\i<=((s.len:Nat):Int))<|
 ae (((v.len:Nat):Int)==(0:Int)) (
  d (.slice s.p s.len s.cap) e) (
  ae (i==((s.len:Nat):Int)) (
   BF A P (Builtin.append_ #[t,t] t #[.slice s.p s.len s.cap,.slice v.p v.len v.cap]) e λv1 j=> ∃c:Sl,v1= .slice c.p c.len c.cap/\(
   d (.slice c.p c.len c.cap) j)) (
   ae (decide ((J8 J9 (((s.len:Nat):Int)+((v.len:Nat):Int)))>((s.cap:Nat):Int))) (
    aG ((0:Int)<=i/\i<=((s.cap:Nat):Int))<|
    BF A P (Builtin.append_ #[t,b] t #[.slice (A7 s.p s.cap 0 1) (i.toNat-0) (s.cap-0),.int J9 (J8 J9 ((J8 J9 (((s.len:Nat):Int)+((v.len:Nat):Int)))-i))]) e λv2 k=> ∃a:Sl,v2= .slice a.p a.len a.cap/\(
    aG ((0:Int)<=i/\i<=((a.len:Nat):Int))<|
    BF A P (Builtin.copy_ #[t,t] b #[.slice (A7 a.p a.cap i.toNat 1) (a.len-i.toNat) (a.cap-i.toNat),.slice v.p v.len v.cap]) k λl m=> ∃n:Int,l= .int J9 n/\(
    aG ((0:Int)<=(J8 J9 (i+((v.len:Nat):Int)))/\(J8 J9 (i+((v.len:Nat):Int)))<=((a.len:Nat):Int))<|
    aG ((0:Int)<=i/\i<=((s.len:Nat):Int))<|
    BF A P (Builtin.copy_ #[t,t] b #[.slice (A7 a.p a.cap ((J8 J9 (i+((v.len:Nat):Int))).toNat) 1) (a.len-((J8 J9 (i+((v.len:Nat):Int))).toNat)) (a.cap-((J8 J9 (i+((v.len:Nat):Int))).toNat)),.slice (A7 s.p s.cap i.toNat 1) (s.len-i.toNat) (s.cap-i.toNat)]) m λo p=> ∃q:Int,o= .int J9 q/\(
    d (.slice a.p a.len a.cap) p)))) (
    aG ((0:Int)<=(J8 J9 (((s.len:Nat):Int)+((v.len:Nat):Int)))/\(J8 J9 (((s.len:Nat):Int)+((v.len:Nat):Int)))<=((s.cap:Nat):Int))<|
    aG ((0:Int)<=(J8 J9 (i+((v.len:Nat):Int)))/\(J8 J9 (i+((v.len:Nat):Int)))<=(((((J8 J9 (((s.len:Nat):Int)+((v.len:Nat):Int))).toNat)-0):Nat):Int))<|
    mI A P h #[.slice v.p v.len v.cap,.slice (A7 (A7 s.p s.cap 0 1) (s.cap-0) ((J8 J9 (i+((v.len:Nat):Int))).toNat) 1) ((((J8 J9 (((s.len:Nat):Int)+((v.len:Nat):Int))).toNat)-0)-((J8 J9 (i+((v.len:Nat):Int))).toNat)) ((s.cap-0)-((J8 J9 (i+((v.len:Nat):Int))).toNat))] e λr f=> ∃g:Bool,r= .bool g/\(
    ae (!g) (
     aG ((0:Int)<=(J8 J9 (i+((v.len:Nat):Int)))/\(J8 J9 (i+((v.len:Nat):Int)))<=(((((J8 J9 (((s.len:Nat):Int)+((v.len:Nat):Int))).toNat)-0):Nat):Int))<|
     aG ((0:Int)<=i/\i<=(((((J8 J9 (((s.len:Nat):Int)+((v.len:Nat):Int))).toNat)-0):Nat):Int))<|
     BF A P (Builtin.copy_ #[t,t] b #[.slice (A7 (A7 s.p s.cap 0 1) (s.cap-0) ((J8 J9 (i+((v.len:Nat):Int))).toNat) 1) ((((J8 J9 (((s.len:Nat):Int)+((v.len:Nat):Int))).toNat)-0)-((J8 J9 (i+((v.len:Nat):Int))).toNat)) ((s.cap-0)-((J8 J9 (i+((v.len:Nat):Int))).toNat)),.slice (A7 (A7 s.p s.cap 0 1) (s.cap-0) i.toNat 1) ((((J8 J9 (((s.len:Nat):Int)+((v.len:Nat):Int))).toNat)-0)-i.toNat) ((s.cap-0)-i.toNat)]) f λu w=> ∃x:Int,u= .int J9 x/\(
     aG ((0:Int)<=i/\i<=(((((J8 J9 (((s.len:Nat):Int)+((v.len:Nat):Int))).toNat)-0):Nat):Int))<|
     BF A P (Builtin.copy_ #[t,t] b #[.slice (A7 (A7 s.p s.cap 0 1) (s.cap-0) i.toNat 1) ((((J8 J9 (((s.len:Nat):Int)+((v.len:Nat):Int))).toNat)-0)-i.toNat) ((s.cap-0)-i.toNat),.slice v.p v.len v.cap]) w λy z=> ∃B:Int,y= .int J9 B/\(
     d (.slice (A7 s.p s.cap 0 1) (((J8 J9 (((s.len:Nat):Int)+((v.len:Nat):Int))).toNat)-0) (s.cap-0)) z))) (
     aG ((0:Int)<=((s.len:Nat):Int)/\((s.len:Nat):Int)<=(((((J8 J9 (((s.len:Nat):Int)+((v.len:Nat):Int))).toNat)-0):Nat):Int))<|
     BF A P (Builtin.copy_ #[t,t] b #[.slice (A7 (A7 s.p s.cap 0 1) (s.cap-0) (((s.len:Nat):Int).toNat) 1) ((((J8 J9 (((s.len:Nat):Int)+((v.len:Nat):Int))).toNat)-0)-(((s.len:Nat):Int).toNat)) ((s.cap-0)-(((s.len:Nat):Int).toNat)),.slice v.p v.len v.cap]) f λC D=> ∃F:Int,C= .int J9 F/\(
     aG ((0:Int)<=i/\i<=(((((J8 J9 (((s.len:Nat):Int)+((v.len:Nat):Int))).toNat)-0):Nat):Int))<|
     AA A P fr #[.slice (A7 (A7 s.p s.cap 0 1) (s.cap-0) i.toNat 1) ((((J8 J9 (((s.len:Nat):Int)+((v.len:Nat):Int))).toNat)-0)-i.toNat) ((s.cap-0)-i.toNat),.int J9 ((v.len:Nat):Int)] D λG H=>G= .tuple #[]/\(
     d (.slice (A7 s.p s.cap 0 1) (((J8 J9 (((s.len:Nat):Int)+((v.len:Nat):Int))).toNat)-0) (s.cap-0)) H)))))))
theorem VN {e:aa}{b:Nat}{f:Array J0}{T:Q7}{fr:Nat×Nat}(h:e[b]? =some (.cells f T fr)){a:List J0}{g:Nat}(i:(f.toList.drop g).take a.length=a): ∀c v,a[c]? =some v->ag e ((⟨b,g,none⟩:Q6).add c)=some v:=λc v d=>by
 rw[Bb,Gy h];have j:=(List.getElem?_eq_some_iff.1 d).1;rw[<- i,Fl,if_pos j,Bm] at d;simpa using d
theorem uA {t af T ah:Q7}{ai fr:Q8}{G:J0}{H:Nat}(aj:PO P t T 1 H=true)(k:E.w=1)(aD:P.underlying af=some (.int J9))(I:(P.info? T).bind (·.zero)=some G)(aE:G.cells= #[G])(hB:0<H)
  (aF: ∀args J,(callFunc ai args).run P J=((Extern.SlicesOverlaps.overlaps #[t,t] #[ah] args).run P J).andThen λv aG=> .ok (.value v) aG)
  {a:aa} {s:Sl} {l:List α} {x:α} {e:J0} {f:Nat} (S:Own E T a s l) (K:E.enc x= [e]) (o:a[f]? =some (.cells #[e] T (0,0))) (aH:s.af≠some f) (ak:l.length+1<=maxLen) (al:(l.length+1)*H<=140737488355328) {am:A2N}
  (U: ∀m r,Own E T r m (x::l)->Mod (λb=>s.af=some b) a r->(∀ b,m.af=some b->s.af=some b\/a.size<=b)->am (.slice m.p m.len m.cap) r):
  nv A P t af ai fr s (0:Int) ⟨some ⟨f,0,none⟩,1,1⟩ a am:=by
 unfold nv;have V:=S.len;have bj:maxLen<=9223372036854775807:=by simp[maxLen]
 obtain⟨q,i,z,w,an,W,aI,bk⟩:=Yy aj;have aJ:z=G:=by rw[w] at I;simp only[Hh] at I;rw[an] at I;exact C2 I
 subst aJ;have ao:LA e=true:=E.one x e (by rw[K];simp);have bm:=Af o;refine⟨⟨GS _,by omega⟩,ae.no rfl ?_⟩;refine ae.intro (λy=>?_) (λy=>?_)
 ·have y:l= []:=by
   have:(0:Int)=((s.len:Nat):Int):=by simpa using y
   exact CC (by omega)
  subst y;have aK:View E a ⟨some ⟨f,0,none⟩,1,1⟩ [x]:=⟨rfl,A0 _,λj ap n=>⟨_,rfl,λaL u L=>by
   have aN:j=0:=by have:=(List.getElem?_eq_some_iff.1 n).1;simpa using this
   subst aN;simp only[Hk,C5] at n;subst n;rw[K] at L;have aO:aL=0:=by have:=(List.getElem?_eq_some_iff.1 L).1;simpa using this
   subst aO;simp only[Hk,C5] at L;subst L;rw[HL,Bb,Bb];exact AL o rfl⟩⟩
  have aP:PO P t T E.w H=true:=by rw[k];exact aj
  exact GI (s:=s) (src:=⟨some ⟨f,0,none⟩,1,1⟩) aP S aK (by simpa using al) (by simpa using ak) λm r aQ aR aS _=>U m r aQ aR aS
 ·have aT:0<l.length:=by
   have: ¬(0:Int)=((s.len:Nat):Int):=by simpa using y
   omega
  rcases S.row with⟨rfl,rfl⟩|⟨g,M,B,C,bn,aU,N,X⟩
  ·simp at aT
  ·rw[k,Bk] at N X;have d:(l.flatMap E.enc).length=l.length:=by rw[JU,k,Bk]
   have aq: ∀v∈l.flatMap E.enc,LA v=true:=λv D=>by
    obtain⟨ap,_,aV⟩:=List.mem_flatMap.1 D;exact E.one ap v aV
   have ar:g≠f:=λh=>aH (by rw[Sl.af,B,h];rfl)
   have bo:=Af C;have aW:J8 J9 (((s.len:Nat):Int)+(((1:Nat)):Int))=((l.length+1:Nat):Int):=by rw[V];exact Aa (by omega)
   have aX:J8 J9 ((0:Int)+(((1:Nat)):Int))=((1:Nat):Int):=by decide
   have aY:J8 J9 (((l.length+1:Nat):Int)-(0:Int))=((l.length+1:Nat):Int):=by rw[Int.sub_zero];exact F5 (by omega)
   have O:(P.info? T).map (·.size)=some 1:=by rw[w];simp[W]
   dsimp only;rw[aW,aX,aY];have aZ:((1:Nat):Int).toNat=1:=rfl;have a0:(0:Int).toNat=0:=rfl;have a1:((l.length+1:Nat):Int).toNat=l.length+1:=by omega
   rw[aZ,a0,a1];have au: ∀j v,[e][j]? =some v->ag a ((⟨f,0,none⟩:Q6).add j)=some v:=VN o (by simp);refine ae.intro (λY=>?_) (λY=>?_)
   ·have Z:s.cap<l.length+1:=by
     have:((s.cap:Nat):Int)<((l.length+1:Nat):Int):=by simpa using Y
     omega
    refine⟨⟨GS _,by omega⟩,?_⟩;refine ANm (p:=A7 s.p s.cap 0 1) (cap:=s.cap) q aD w an W aE (by omega) Z (by rw[aI];exact al) ak (by omega) λbp c av a2 aw a3 a4 ab bq=>⟨⟨GS _,by dsimp only;omega⟩,?_⟩
    have a5:A7 (some (⟨a.size,0,none⟩:Q6)) c 0 1=some ⟨a.size,0,none⟩:=by unfold A7;rw[if_neg (by omega)];rfl
    have a6:A7 (some (⟨a.size,0,none⟩:Q6)) c 1 1=some ⟨a.size,1,none⟩:=by unfold A7;rw[if_neg (by omega)];rfl
    dsimp only;rw[a5];refine nj (vs:= [e]) q O a2 (by simp) (λj v n=>ab.ag (au j v n)) (by simp;omega) (λv D=>by rw[List.mem_singleton.1 D];exact ao) λa7 a8 ax br=>⟨⟨by omega,by omega⟩,⟨GS _,by omega⟩,?_⟩
    rw[a6,B];have Q:A7 (some (⟨g,0,none⟩:Q6)) s.cap 0 1=some ⟨g,0,none⟩:=by unfold A7;rw[if_neg (by omega)];rfl
    rw[Q];have a9:a7[g]? =some (.cells M T (0,0)):=ax.af (ab.af C (λa=>a)) (by omega);refine nj (vs:=l.flatMap E.enc) q O a8 (by rw[d];omega) (VN a9 (by rw[d,Nx,<-V];exact X)) (by rw[Hz,d];omega) aq λay ac R ba=>?_
    refine U ⟨some ⟨a.size,0,none⟩,l.length+1,c⟩ ay ⟨rfl,.inr ⟨a.size,_,rfl,ac,a3,a4,by rw[Hz,Hz,k,Bk];exact aw,?_⟩⟩ ?_ (λb F=> .inr (by simp[Sl.af] at F;omega))
    ·rw[NQ _ _ _ (by rw[Hz,d];omega),NQ _ _ _ (by simp;omega)];rw[k,Bk,AH,K];have bb:av.toList.length=c:=by simp[aw]
     simp only[I0,Ds,CN];have bc:(([e]++av.toList.drop (0+1)).take 1)= [e]:=by simp
     rw[bc,NO (by simp[d])];rw[AG (by simp[d])]
    ·refine((Ext.mod ab).trans ((ax.trans R).ai (S':=λb=>s.af=some b\/b=a.size) λc az h=> .inr h)) |> λaA=>?_
     exact⟨aA.size,λb F bd=>aA.get b F (λbe=>be.elim bd (by omega))⟩
   ·have Z:l.length+1<=s.cap:=by
     have: ¬((s.cap:Nat):Int)<((l.length+1:Nat):Int):=by simpa using Y
     omega
    have Q: ∀c,0<c->A7 (some (⟨g,0,none⟩:Q6)) c 0 1=some ⟨g,0,none⟩:=λc az=>by
     unfold A7;rw[if_neg (by omega)];rfl
    have bf: ∀c,1<c->A7 (some (⟨g,0,none⟩:Q6)) c 1 1=some ⟨g,1,none⟩:=λc az=>by
     unfold A7;rw[if_neg (by omega)];rfl
    refine⟨⟨by omega,by omega⟩,⟨by omega,by omega⟩,?_⟩;rw[B,Q _ (by omega),Hn,Hn,Hn,Q _ (by omega),bf _ (by omega)];intro aC;refine⟨.bool false,a,aC,?_,false,rfl,ae.yes rfl ⟨⟨by omega,by omega⟩,⟨GS _,by omega⟩,?_⟩⟩
    ·rw[aF,Lib.run_overlaps_apart (A.at a aC) t ah T q 1 (λJ=>by rw[Go.run_sizeOf J w];simp[Program.cellsOf,w,W]) ⟨f,0,none⟩ ⟨g,1,none⟩ 1 1 _ _ (λh=>ar h.symm) T T 1 s.cap
      (by show(match a[f]? with|some (.cells c ad _)=>some (ad,c.size)|_=>none)=_;rw[o];rfl) (by show(match a[g]? with|some (.cells c ad _)=>some (ad,c.size)|_=>none)=_;rw[C];simp[N]) (by omega) (OO o) (OO o)]
     rfl
    ·refine nj (vs:=l.flatMap E.enc) q O C (by rw[d];omega) (VN C (by rw[d,Nx,<-V];exact X)) (by rw[d];omega) aq λay ac R ba=>⟨⟨GS _,by omega⟩,?_⟩
     refine nj (vs:= [e]) q O ac (by simp) (λj v n=>R.ag (au j v n) (by rw[aM];exact λh=>ar h.symm)) (by rw[Hz];simp;omega) (λv D=>by rw[List.mem_singleton.1 D];exact ao) λbg bh bi bs=>?_
     refine U ⟨some ⟨g,0,none⟩,l.length+1,s.cap⟩ bg ⟨rfl,.inr ⟨g,_,rfl,bh,Z,aU,by rw[Hz,Hz,k,Bk];exact N,?_⟩⟩ ((R.trans bi).ai λb _ h=>by rw[Sl.af,B,h];rfl) (λb F=> .inl (by rw[Sl.af,B];exact F));rw[NQ _ _ _ (by rw[Hz];simp;omega),NQ _ _ _ (by rw[d];omega)];rw[k,Bk,AH,K];have bb:M.toList.length=s.cap:=by simp[N]
     have bt:(M.toList.take 1).length=1:=by simp;omega
     simp only[I0,Ds,CN,AI];rw[A4 (M.toList.take 1),MD (by omega),Hv (by omega),Ds];rw[<- A4,NO (by simp[d])];rw[AG (by simp[d])]
end Go.Lf
namespace Go.Lf.G
open Go
def fI:cy Nat where
 enc t:= [Ay t]
 w:=1
 len _:=rfl
 pos:=by omega
 one x v a:=by simp at a;subst a;rfl
theorem Cells.pt {b:aa}{a:Q6}{x:Nat}(c:Cells b a (fI.enc x)):ag b a=some (Ay x):=by have d:=c 0 _ rfl;rwa [add_zero] at d
theorem tL:PO P Am BI fI.w 8=true:=by kernel_rfl
theorem ovT(args:Array J0)(a:World):(callFunc Dv args).run P a=((Extern.SlicesOverlaps.overlaps #[Am,Am] #[pQ] args).run P a).andThen λv b=> .ok (.value v) b:=
 run_callFunc_extern (fn:=Proofs.Tryz.f209) Proofs.Tryz.func209 (by kernel_rfl) (by kernel_rfl) (by kernel_rfl) (by kernel_rfl) args a
theorem ovI(args:Array J0)(a:World):(callFunc GK args).run P a=((Extern.SlicesOverlaps.overlaps #[Cu,Cu] #[pQ] args).run P a).andThen λv b=> .ok (.value v) b:=
 run_callFunc_extern (fn:=Proofs.Tryz.f211) Proofs.Tryz.func211 (by kernel_rfl) (by kernel_rfl) (by kernel_rfl) (by kernel_rfl) args a
theorem ARo:(P.info? BI).bind (·.zero)=some (J5 none):=by kernel_rfl
theorem AR1:(P.info? BQ).bind (·.zero)=some (J6 J9 0):=by kernel_rfl
theorem tM:P.underlying BQ=some (.int J9):=by kernel_rfl
theorem AQG(a:al)(s v:Sl)(i:Int)(b:aa)(c:A2N):Di a s i v b c=nv a P Am BQ Dv Ey s i v b c:=rfl
theorem AQy(a:al)(s v:Sl)(i:Int)(b:aa)(c:A2N):Hg a s i v b c=nv a P Cu BQ GK IR s i v b c:=rfl
theorem pT {g:al}{a:aa}{s:Sl}{l:List Nat}{x d:Nat}{f:A2N}(h:Own fI BI a s l)(i:a[d]? =some (J2 #[Ay x] BI (0,0)))(j:s.af≠some d)(m:l.length<=1000000)
  (k: ∀c e,Own fI BI e c (x::l)->Mod (λb=>s.af=some b) a e->(∀ b,c.af=some b->s.af=some b\/a.size<=b)->f (J4 c.p c.len c.cap) e):
  AA g P BK #[J4 s.p s.len s.cap,J6 J9 0,J4 (some (⟨d,0,none⟩:Q6)) 1 1] a f:=by
 refine F4 (v:=⟨some ⟨d,0,none⟩,1,1⟩) ?_;rw[AQG];exact uA tL rfl tM ARo rfl (by decide) ovT h rfl i j (by simp[maxLen];omega) (by omega) k
theorem pU {g:al}{a:aa}{s:Sl}{l:List Int}{x:Int}{d:Nat}{f:A2N}(h:Own Ho BQ a s l)(i:a[d]? =some (J2 #[J6 J9 x] BQ (0,0)))(j:s.af≠some d)(m:l.length<=1000000)
  (k: ∀c e,Own Ho BQ e c (x::l)->Mod (λb=>s.af=some b) a e->(∀ b,c.af=some b->s.af=some b\/a.size<=b)->f (J4 c.p c.len c.cap) e):
  AA g P Cv #[J4 s.p s.len s.cap,J6 J9 0,J4 (some (⟨d,0,none⟩:Q6)) 1 1] a f:=by
 refine MJ (v:=⟨some ⟨d,0,none⟩,1,1⟩) ?_;rw[AQy];exact uA qD rfl tM AR1 rfl (by decide) ovI h rfl i j (by simp[maxLen];omega) (by omega) k
structure Db where
 fr:List Pr
 ts:List (Nat×List Pr)
 next:Nat
 aT:Nat
 au:Nat
 aJ:Nat
 bo:Bool
structure Hp where
 d:Nat
 b:Nat
 lg:Nat
 nt:Nat
 ft:Nat
 Sb:Nat->Prop
 ns:List M.DD
 tp:Sl
 np:Sl
 ps:List Nat
abbrev eg(q:Hp)(st:Db)(down:Bool):Array J0:= #[Ay q.b,Ay q.lg,Ay q.nt,Ay q.ft,J4 q.tp.p q.tp.len q.tp.cap,J4 q.np.p q.np.len q.np.cap,J6 J9 (st.next:Int),J6 J9 (st.aT:Int),J3 down]
abbrev eo(st:Db):List Int:=st.ts.map λp=>(p.1:Int)
def lO(h:aa)(k:Nat->Nat)(t:Nat)(l:List Pr):Prop:= ∃b a,bR h t l (ME l) b a/\a<=h.size/\(∀ c,b<=c->c<a->k c=8)/\Gg l
structure bJ (g h:aa) (q:Hp) (k:Nat->Nat) (st:Db) (m:Bx):Prop where
 cell:h[q.d]? =some (J2 (eg q st false) El (0,0))
 box:Cm h q.b q.Sb m
 log:EA h q.lg q.b nl st.au st.bo
 dJ:EA h q.nt q.b nn st.aJ false
 fresh:M.cT h q.ft q.ns st.fr
 cj:Own fI BI h q.tp q.ps
 cY:q.ps.length=st.ts.length
 cL: ∀(i:Nat) (t:Nat) (p:Nat×List Pr),q.ps[i]? =some t->st.ts[i]? =some p->lO h k t p.2
 names:Own Ho BQ h q.np (eo st)
 kd:k q.d=1
 kb: ∀c,q.Sb c->k c=2
 kl:k q.lg=3
 kn:k q.nt=4
 kf: ∀c,M.cP q.ft q.ns c->k c=5
 kt: ∀c,q.tp.af=some c->k c=6
 kx: ∀c,q.np.af=some c->k c=7
 own: ∀c,k c≠0->g.size<=c/\c<h.size
 ext:Ext g h
theorem Rv {b:Type}{d:cy b}{T:Q7}{h:aa}{s:Sl}{l:List b}(e:Own d T h s l){c:Nat}(a:s.af=some c):c<h.size:=by
 rcases e.row with⟨rfl,_⟩|⟨g,j,f,i,_⟩
 ·simp[Sl.af] at a
 ·rw[Sl.af,f] at a;have:g=c:=by simpa using a
  subst this;exact Af i
theorem lO.mod {h h':aa}{k d:Nat->Nat}{t:Nat}{l:List Pr}{e:Nat->Prop}(T:lO h k t l)(x:Mod e h h')(i: ∀c,k c=8-> ¬e c)(j: ∀c,c<h.size->d c=k c):lO h' d t l:=by obtain⟨n,o,p,r,f,s⟩:=T;exact⟨n,o,p.mod x λc a b=>i c (f c a b),AF r x.size,λc a b=>by rw[j c (by omega)];exact f c a b,s⟩
structure DbR (C:Nat->Prop) (g h h':aa) (q:Hp) (k:Nat->Nat) (st:Db) (m:Bx):Prop where
 ext:Ext g h'
 size:h.size<=h'.size
 cell: ¬C 1->h'[q.d]? =some (J2 (eg q st false) El (0,0))
 box: ¬C 2->Cm h' q.b q.Sb m
 log: ¬C 3->EA h' q.lg q.b nl st.au st.bo
 dJ: ¬C 4->EA h' q.nt q.b nn st.aJ false
 fresh: ¬C 5->M.cT h' q.ft q.ns st.fr
 cj: ¬C 6->Own fI BI h' q.tp q.ps
 names: ¬C 7->Own Ho BQ h' q.np (eo st)
 cL: ¬C 8-> ∀k',(∀ c,c<h.size->k' c=k c)-> ∀(i:Nat) (t:Nat) (p:Nat×List Pr),q.ps[i]? =some t->st.ts[i]? =some p->lO h' k' t p.2
theorem bJ.rest {C:Nat->Prop}{g h h':aa}{q:Hp}{k:Nat->Nat}{st:Db}{m:Bx}(a:bJ g h q k st m)(x:Mod (λc=>C (k c)) h h')(f: ¬C 0):DbR C g h h' q k st m:=by
 refine⟨⟨AF a.ext.size x.size,λc d _=>?_⟩,x.size,λb=>x.af a.cell (by rw[a.kd];exact b),λb=>a.box.mod x λc d=>by rw[a.kb c d];exact b,λb=>a.log.mod x (by rw[a.kl];exact b),λb=>a.dJ.mod x (by rw[a.kn];exact b),
  λb=>a.fresh.mod x λc d=>by rw[a.kf c d];exact b,λb=>a.cj.mod x λc d=>by rw[a.kt c d];exact b,λb=>a.names.mod x λc d=>by rw[a.kx c d];exact b,
  λb n e i t p j l=>(a.cL i t p j l).mod x (λc d=>by rw[d];exact b) e⟩
 have e:k c=0:=Decidable.byContradiction λh=>by have:=(a.own c h).1;omega
 exact(x.get c (GC d a.ext.size) (by rw[e];exact f)).trans (a.ext.get c d (λh=>h))
section
variable {g h h' : aa} {q : Hp} {k : Nat -> Nat} {st : Db} {m : Bx}
theorem bJ.gU(a:bJ g h q k st m):q.d<h.size:=Af a.cell
theorem bJ.oA(a:bJ g h q k st m):q.lg<h.size:=Af a.log
theorem bJ.oB(a:bJ g h q k st m):q.nt<h.size:=Af a.dJ
theorem bJ.kG(a:bJ g h q k st m): ¬q.Sb q.lg:=λb=>by have:=a.kb _ b;rw[a.kl] at this;cases this
theorem bJ.rz(a:bJ g h q k st m): ¬q.Sb q.nt:=λb=>by have:=a.kb _ b;rw[a.kn] at this;cases this
theorem bJ.lY(a:bJ g h q k st m): ¬q.Sb q.d:=λb=>by have:=a.kb _ b;rw[a.kd] at this;cases this
theorem bJ.dl(a:bJ g h q k st m):q.d≠q.lg:=λb=>by have:=a.kd;rw[b,a.kl] at this;cases this
theorem bJ.dn(a:bJ g h q k st m):q.d≠q.nt:=λb=>by have:=a.kd;rw[b,a.kn] at this;cases this
theorem bJ.on(a:bJ g h q k st m)(x:Ext h h'):bJ g h' q k st m:=by
 have b:=a.rest (C:=λ_=>False) x (λh=>h);exact⟨b.cell λh=>h,b.box λh=>h,b.log λh=>h,b.dJ λh=>h,b.fresh λh=>h,b.cj λh=>h,a.cY,b.cL (λh=>h) k (λ_ _=>rfl),b.names λh=>h,a.kd,a.kb,a.kl,a.kn,a.kf,a.kt,a.kx,
  λc d=>⟨(a.own c d).1,GC (a.own c d).2 x.size⟩,b.ext⟩
theorem bJ.beside {e:Nat->Prop}(a:bJ g h q k st m)(x:Mod e h h')(f: ∀c,e c->k c=0/\g.size<=c):bJ g h' q k st m:=by
 have j:Ext g h':=⟨AF a.ext.size x.size,λc b _=>(x.get c (GC b a.ext.size) λh=>by have:=(f c h).2;omega).trans (a.ext.get c b (λh=>h))⟩;have d: ∀ {c},k c≠0-> ¬e c:=λb l=>b (f _ l).1
 exact⟨x.af a.cell (d (by rw[a.kd];decide)),a.box.mod x λc b=>d (by rw[a.kb c b];decide),a.log.mod x (d (by rw[a.kl];decide)),a.dJ.mod x (d (by rw[a.kn];decide)),a.fresh.mod x λc b=>d (by rw[a.kf c b];decide),
  a.cj.mod x λc b=>d (by rw[a.kt c b];decide),a.cY,λi t p n o=>(a.cL i t p n o).mod x (λc b=>d (by rw[b];decide)) (λ_ _=>rfl),a.names.mod x λc b=>d (by rw[a.kx c b];decide),a.kd,a.kb,a.kl,a.kn,a.kf,a.kt,a.kx,
  λc b=>⟨(a.own c b).1,GC (a.own c b).2 x.size⟩,j⟩
open Classical in
noncomputable def Km (k:Nat->Nat) (a:Nat) (b:Nat->Prop) (d:Nat):Nat->Nat:=λc=>if c<a then k c else if b c then d else 0
theorem Fq {a b c:Nat}{d:Nat->Prop}(e:c<a):Km k a d b c=k c:=by unfold Km;rw[if_pos e]
theorem qP {a b c:Nat}{d:Nat->Prop}(f:a<=c)(e:d c):Km k a d b c=b:=by unfold Km;rw[if_neg (by omega),if_pos e]
theorem UH {a b c:Nat}{S:Nat->Prop}(e:a<=c)(d: ¬S c):Km k a S b c=0:=by unfold Km;rw[if_neg (by omega),if_neg d]
theorem bJ.boxed(b:bJ g h q k st m){S':Nat->Prop}{p:Bx}{j:Nat}{bE:Db}(r:Cm h' q.b S' p)(x:Mod (λc=>q.Sb c\/(j=3/\c=q.lg)\/(j=4/\c=q.nt)) h h')(s: ∀c,S' c->q.Sb c\/h.size<=c)
  (u:bE.fr=st.fr) (i:bE.ts=st.ts) (v:bE.next=st.next) (w:bE.aT=st.aT)
  (l:(j≠3/\bE.au=st.au/\bE.bo=st.bo)\/EA h' q.lg q.b nl bE.au bE.bo) (y:(j≠4/\bE.aJ=st.aJ)\/EA h' q.nt q.b nn bE.aJ false):
  bJ g h' {q with Sb:=S'} (Km k h.size S' 2) bE p:=by
 have e:=b.rest (C:=λc=>c=2\/(j=3/\c=3)\/(j=4/\c=4)) (h':=h') (x.ai λc _ a=>by
  rcases a with a|⟨d,rfl⟩|⟨d,rfl⟩
  ·exact .inl (b.kb c a)
  ·exact .inr (.inl ⟨d,b.kl⟩)
  ·exact .inr (.inr ⟨d,b.kn⟩)) (by rintro(h|⟨_,h⟩|⟨_,h⟩)<;>cases h)
 have f: ∀ {c},c<h.size->Km k h.size S' 2 c=k c:=λa=>Fq a
 have z:eg {q with Sb:=S'} bE false=eg q st false:=by simp only[eg,v,w]
 refine⟨by rw[z];exact e.cell (by omega),r,?_,?_,by rw[u];exact e.fresh (by omega),e.cj (by omega),by rw[i];exact b.cY,by rw[i];exact e.cL (by omega) _ (λc a=>f a),by rw[eo,i];exact e.names (by omega),
  by rw[f b.gU];exact b.kd,λc a=>?_,by rw[f b.oA];exact b.kl,by rw[f b.oB];exact b.kn,λc a=>by rw[f (b.fresh.lt a)];exact b.kf c a,λc a=>by rw[f (Rv b.cj a)];exact b.kt c a,
  λc a=>by rw[f (Rv b.names a)];exact b.kx c a,λc a=>?_,e.ext⟩
 ·rcases l with⟨d,n,A⟩|d
  ·rw[n,A];exact e.log (by omega)
  ·exact d
 ·rcases y with⟨d,n⟩|d
  ·rw[n];exact e.dJ (by omega)
  ·exact d
 ·by_cases o:c<h.size
  ·rw[f o];rcases s c a with d|d
   ·exact b.kb c d
   ·omega
  ·exact qP (by omega) a
 ·by_cases o:c<h.size
  ·rw[f o] at a;exact⟨(b.own c a).1,by have:=e.size;omega⟩
  ·by_cases t:S' c
   ·exact⟨by have:=b.ext.size;omega,r.lt t⟩
   ·exact absurd (UH (by omega) t) a
theorem bJ.oz(b:bJ g h q k st m){f:List M.DD}{j:List Pr}(T:M.cT h' q.ft f j)(x:Mod (M.cP q.ft q.ns) h h')(s: ∀c,M.cP q.ft f c->M.cP q.ft q.ns c\/h.size<=c):
  bJ g h' {q with ns:=f} (Km k h.size (M.cP q.ft f) 5) {st with fr:=j} m:=by
 have d:=b.rest (C:=λc=>c=5) (h':=h') (x.ai λc _ a=>b.kf c a) (by decide);have e: ∀ {c},c<h.size->Km k h.size (M.cP q.ft f) 5 c=k c:=λa=>Fq a
 refine⟨d.cell (by decide),d.box (by decide),d.log (by decide),d.dJ (by decide),T,d.cj (by decide),b.cY,d.cL (by decide) _ (λc a=>e a),d.names (by decide),
  by rw[e b.gU];exact b.kd,λc a=>by rw[e (b.box.lt a)];exact b.kb c a,by rw[e b.oA];exact b.kl,by rw[e b.oB];exact b.kn,λc a=>?_,λc a=>by rw[e (Rv b.cj a)];exact b.kt c a,
  λc a=>by rw[e (Rv b.names a)];exact b.kx c a,λc a=>?_,d.ext⟩
 ·by_cases i:c<h.size
  ·rw[e i];rcases s c a with l|l
   ·exact b.kf c l
   ·omega
  ·exact qP (by omega) a
 ·by_cases i:c<h.size
  ·rw[e i] at a;exact⟨(b.own c a).1,by have:=d.size;omega⟩
  ·by_cases n:M.cP q.ft f c
   ·exact⟨by have:=b.ext.size;omega,T.lt n⟩
   ·exact absurd (UH (by omega) n) a
theorem bJ.renew(b:bJ g h q k st m){gz:Nat}(T:M.cT h' gz [] [])(i:h.size<=gz)(a:h'[q.d]? =some (J2 (eg {q with ft:=gz} st false) El (0,0)))(x:Mod (λc=>c=q.d) h h'):
  bJ g h' {q with ft:=gz,ns:= []} (Km k h.size (· =gz) 5) {st with fr:= []} m:=by
 have d:=b.rest (C:=λc=>c=1) (h':=h') (x.ai λc _ a=>by rw[a];exact b.kd) (by decide);have e: ∀ {c},c<h.size->Km k h.size (· =gz) 5 c=k c:=λa=>Fq a
 have j: ∀c,M.cP gz [] c->c=gz:=λc a=>by
  rcases a with rfl|⟨x,l,_⟩
  ·rfl
  ·cases l
 refine⟨a,d.box (by decide),d.log (by decide),d.dJ (by decide),T,d.cj (by decide),b.cY,d.cL (by decide) _ (λc a=>e a),d.names (by decide),
  by rw[e b.gU];exact b.kd,λc a=>by rw[e (b.box.lt a)];exact b.kb c a,by rw[e b.oA];exact b.kl,by rw[e b.oB];exact b.kn,λc a=>by rw[j c a];exact qP i rfl,λc a=>by rw[e (Rv b.cj a)];exact b.kt c a,
  λc a=>by rw[e (Rv b.names a)];exact b.kx c a,λc a=>?_,d.ext⟩
 by_cases n:c<h.size
 ·rw[e n] at a;exact⟨(b.own c a).1,by have:=d.size;omega⟩
 ·by_cases f:c=gz
  ·subst f;exact⟨by have:=b.ext.size;omega,T.lt (.inl rfl)⟩
  ·exact absurd (UH (S:=(· =gz)) (by omega) f) a
open Classical in
noncomputable def Kc (k:Nat->Nat) (b:Nat) (tp np:Sl) (a:Nat->Prop):Nat->Nat:=λc=>if k c≠0 then k c else if tp.af=some c then 6 else if np.af=some c then 7 else if a c then 8 else 0
theorem bJ.eW(d:bJ g h q k st m){tp np:Sl}{ps:List Nat}{ts:List (Nat×List Pr)}{next aT:Nat}{S:Nat->Prop}
  (a:h'[q.d]? =some (J2 (eg {q with tp:=tp,np:=np} {st with next:=next,aT:=aT} false) El (0,0))) (x:Mod (λc=>c=q.d\/q.tp.af=some c\/q.np.af=some c) h h')
  (I:Own fI BI h' tp ps) (on:Own Ho BQ h' np (ts.map λp=>(p.1:Int))) (K:ps.length=ts.length)
  (r: ∀c,tp.af=some c->q.tp.af=some c\/(k c=0/\g.size<=c/\np.af≠some c/\ ¬S c)) (s: ∀c,np.af=some c->q.np.af=some c\/(k c=0/\g.size<=c/\tp.af≠some c/\ ¬S c)) (L: ∀c,S c->g.size<=c/\c<h'.size)
  (M: ∀(i:Nat) (t:Nat) (p:Nat×List Pr),ps[i]? =some t->ts[i]? =some p->(∃ e:Nat,q.ps[e]? =some t/\st.ts[e]? =some p)\/ ∃n j,bR h' t p.2 (ME p.2) n j/\j<=h'.size/\(∀ c,n<=c->c<j->S c/\k c=0)/\Gg p.2):
  bJ g h' {q with tp:=tp,np:=np,ps:=ps} (Kc k h.size tp np S) {st with ts:=ts,next:=next,aT:=aT} m:=by
 have l:=d.rest (C:=λc=>c=1\/c=6\/c=7) (h':=h') (x.ai λc _ a=>by
  rcases a with rfl|a|a
  ·exact .inl d.kd
  ·exact .inr (.inl (d.kt c a))
  ·exact .inr (.inr (d.kx c a))) (by decide)
 have f: ∀ {c e},k c=e->e≠0->Kc k h.size tp np S c=e:=λb u=>by unfold Kc;rw[if_pos (by rw[b];exact u)];exact b
 refine⟨a,l.box (by decide),l.log (by decide),l.dJ (by decide),l.fresh (by decide),I,K,λi t p b u=>?_,on,f d.kd (by decide),λc a=>f (d.kb c a) (by decide),f d.kl (by decide),f d.kn (by decide),λc a=>f (d.kf c a) (by decide),λc a=>?_,λc a=>?_,λc a=>?_,l.ext⟩
 ·rcases M i t p b u with⟨e,N,O⟩|⟨n,j,v,w,y,z⟩
  ·obtain⟨n,j,v,w,y,z⟩:=l.cL (by decide) k (λ_ _=>rfl) e t p N O;exact⟨n,j,v,w,λc A B=>f (y c A B) (by decide),z⟩
  ·refine⟨n,j,v,w,λc A B=>?_,z⟩;obtain⟨D,E⟩:=y c A B;have P:tp.af≠some c:=λF=>by
    rcases r c F with h|h
    ·have:=d.kt c h;rw[E] at this;cases this
    ·exact h.2.2.2 D
   have Q:np.af≠some c:=λF=>by
    rcases s c F with h|h
    ·have:=d.kx c h;rw[E] at this;cases this
    ·exact h.2.2.2 D
   unfold Kc;rw[if_neg (by simp[E]),if_neg P,if_neg Q,if_pos D]
 ·rcases r c a with b|b
  ·exact f (d.kt c b) (by decide)
  ·unfold Kc;rw[if_neg (by simp[b.1]),if_pos a]
 ·rcases s c a with b|b
  ·exact f (d.kx c b) (by decide)
  ·unfold Kc;rw[if_neg (by simp[b.1]),if_neg b.2.2.1,if_pos a]
 ·by_cases o:k c=0
  ·unfold Kc at a;rw[if_neg (by simp[o])] at a;by_cases G:tp.af=some c
   ·refine⟨?_,Rv I G⟩;rcases r c G with b|b
    ·have:=d.kt c b;rw[o] at this;cases this
    ·exact b.2.1
   ·rw[if_neg G] at a;by_cases H:np.af=some c
    ·refine⟨?_,Rv on H⟩;rcases s c H with b|b
     ·have:=d.kx c b;rw[o] at this;cases this
     ·exact b.2.1
    ·rw[if_neg H] at a;by_cases J:S c
     ·exact L c J
     ·rw[if_neg J] at a;exact absurd rfl a
  ·exact⟨(d.own c o).1,by have:=(d.own c o).2;have:=l.size;omega⟩
end
structure JA (m m':Bx):Prop where
 up:m'.down=false
 calm:m.fuel= -1->m'.fuel= -1
theorem JA.refl {m:Bx}(a:m.down=false):JA m m:=⟨a,λa=>a⟩
theorem JA.trans {m c d:Bx}(a:JA m c)(b:JA c d):JA m d:=⟨b.up,λe=>b.calm (a.calm e)⟩
theorem YE {m:Bx}(hd:m.down=false)(l:List Fi):JA m {Ht m with files:=l}:=by refine⟨(AKv l).trans hd,λa=>?_⟩;show(Ht m).fuel= -1;unfold Ht;rw[if_neg (by rw[a];decide)];exact a
theorem Qm {m:Bx}{k d:A2O}(hd:m.down=false)(b:KZ k=false):(m.fuel=0/\Dt m k d=(30,MR m))\/((Dt m k d).1=0/\JA m (Dt m k d).2/\
  ∀x,ff (Dt m k d).2 x=if x=k then some (((ff m k).getD (bz,bz)).1,((ff m k).getD (bz,bz)).2++d) else ff m x):=by
 by_cases a:m.fuel=0
 ·left;refine⟨a,?_⟩;unfold Dt;rw[if_neg (by simp[hd]),if_neg (by simp[b]),if_pos a]
 ·right;obtain⟨c,e⟩:=ALV ⟨hd,a⟩ (d:=d) b;refine⟨c,?_,e⟩;unfold Dt;rw[if_neg (by simp[hd]),if_neg (by simp[b]),if_neg a];exact YE hd _
theorem NZ {m:Bx}{a:A2O}{p:A2O×A2O}(hd:m.down=false)(c:ff m a=some p):(m.fuel=0/\Gr m a=(30,MR m))\/((Gr m a).1=0/\JA m (Gr m a).2/\ ∀x,ff (Gr m a).2 x=if x=a then some (p.1++p.2,bz) else ff m x):=by
 have d:(Ca a m.files).isNone=false:=by
  cases b:Ca a m.files with
  |none=>unfold ff at c;rw[b] at c;cases c
  |some f=>rfl
 by_cases b:m.fuel=0
 ·left;refine⟨b,?_⟩;unfold Gr;rw[if_neg (by simp[hd]),if_neg (by simp[d]),if_pos b]
 ·right;obtain⟨e,g⟩:=APb ⟨hd,b⟩ c;refine⟨e,?_,g⟩;unfold Gr;rw[if_neg (by simp[hd]),if_neg (by simp[d]),if_neg b];exact YE hd _
theorem QN {m:Bx}{k:A2O}(hd:m.down=false)(b:(ff m k).isSome=true):(m.fuel=0/\GU m k=(30,MR m))\/((GU m k).1=0/\JA m (GU m k).2/\ ∀x,ff (GU m k).2 x=if x=k then none else ff m x):=by
 have c:(Ca k m.files).isNone=false:=by
  rw[<- UA] at b;cases a:Ca k m.files with
  |none=>rw[a] at b;cases b
  |some f=>rfl
 by_cases a:m.fuel=0
 ·left;refine⟨a,?_⟩;unfold GU;rw[if_neg (by simp[hd]),if_neg (by simp[c]),if_pos a]
 ·right;obtain⟨d,e⟩:=AL6 ⟨hd,a⟩ b;refine⟨d,?_,e⟩;unfold GU;rw[if_neg (by simp[hd]),if_neg (by simp[c]),if_neg a];exact YE hd _
theorem nU(m:Bx)(x:A2O):ff (MR m) x=ff m x:=rfl
theorem qQ(m:Bx):bg (MR m).files=bg m.files:=rfl
theorem xE {aq:al}{g:aa}{H b z:Nat}{h:A2O}{X:Bool}{n:Nat->Prop}{m:Bx}{upto:Int}{I:A2N}(ar:cm g)(au: ∀j,Mod n g j->cm j)(L:EA g H b h z X)(N:Cm g b n m)(hd:m.down=false)(av: ¬n H)(a2:h.size<=8)(aw:bg m.files<=8000000000000)
  (ax:upto>=(z:Int)->I (J6 J9 1) g)
  (ay:m.fuel≠ -1-> ∀j S' f,Cm j b S' f->f.down=true->Mod n g j->(∀ c,S' c->n c)->bg f.files<=bg m.files->(∀ x,ff f x=ff m x\/(ff f x=none/\ ∃d:Nat,1<=d/\d<=99999999/\(d:Int)<=upto/\x=aC h d))->I (J6 J9 30) j)
  (az:upto<(z:Int)-> ∀j S' f,Cm j b S' f->JA m f->Mod n g j->(∀ c,S' c->n c)->bg f.files<=bg m.files->(∀ d:Nat,1<=d->d<=99999999->(d:Int)<=upto->ff f (aC h d)=none)->
   (∀ x,(∀ d:Nat,1<=d->d<=99999999->(d:Int)<=upto->x≠aC h d)->ff f x=ff m x)->I (J6 J9 0) j):AA aq P I1 #[Ay H,J6 J9 upto] g I:=by
 refine AAV ?_;unfold TA;refine ah.mk λK aA=>ae.no rfl (aD (AC.mk (AB L rfl) (aA _ _ ?_)))
 refine ae.intro (λq=>ax (by simpa using q)) (λq=>?_);have aE:upto<(z:Int):=by simpa using q
 refine aD (AZ.mk (AL L rfl) (aD (AJ.mk (AB L rfl) ?_)));refine Zb ar N hd (by omega) aw λY Z l A v2 ab O=>⟨Z,_,rfl,ae.no rfl ?_⟩
 have ac:(l.map λd:Nat=>(d:Int)).length=l.length:=By ..;have J: ∀d∈l,1<=d/\d<=99999999/\(ff m (aC h d)).isSome=true:=λd e=>by
  have:=(A.mem d).1 e;rw[UA] at this;exact this
 have a3:l.Nodup:=List.nodup_iff_pairwise_ne.2 (A.inc.imp λg=>Nat.ne_of_lt g);have a4:=AOZ A;refine Loop.rule (λad x s=> ∃(i:Nat) (B:Nat->Prop) (r:Bx),x=((i:Int),())/\Cm s b B r/\JA m r/\Mod n g s/\Mod n Y s/\(∀ c,B c->n c)/\bg r.files<=bg m.files/\(∀ d∈l.take i,(d:Int)<=upto->ff r (aC h d)=none)/\(∀ x,(∀ d∈l.take i,(d:Int)<=upto->x≠aC h d)->ff r x=ff m x)/\i<=l.length/\ad=l.length-i) ?_
  ⟨0,n,m,rfl,N.ext ab,JA.refl hd,Ext.mod ab,Mod.refl,λ_ g=>g,A0 _,by simp,λ_ _=>rfl,As _,rfl⟩
 rintro a5 ad _ s ⟨i,B,r,rfl,Q,C,w,R,D,M,E,u,a6,rfl⟩ aF;have aG:View Ho s Z (l.map λd:Nat=>(d:Int)):=v2.mod R λc v aH=>by have:=O c v;have:=N.lt aH;omega
 rw[v2.len,ac];refine ae.intro (λS=>?_) (λS=>?_)
 ·have F:i<l.length:=by simpa using S
  have ag:l[i]? =some l[i]:=A2 F;obtain⟨af,ai,aI⟩:=J l[i] (AW F);have y:l.take (i+1)=l.take i++ [l[i]]:=by rw[AD,ag];rfl
  have aJ: ∀d∈l.take i,d<l[i]:=λd e=>by
   have:=A.inc;rw[<- DM (i+1) l,y] at this;have aK:=(List.pairwise_append.1 (List.pairwise_append.1 this).1).2.2 d e l[i] (by simp);exact aK
  refine ah.mk λaL aM=>?_
  have aj: ∀S' f j,Cm j b S' f->JA m f->Mod n g j->Mod n Y j->(∀ c,S' c->n c)->bg f.files<=bg m.files->(∀ d∈l.take (i+1),(d:Int)<=upto->ff f (aC h d)=none)->(∀ x,(∀ d∈l.take (i+1),(d:Int)<=upto->x≠aC h d)->ff f x=ff m x)->aL () j:=λS' f j aN aO aP aQ aR aS aT O=>by
   refine aM _ _ ?_;dsimp only;rw[Aa (by omega)];exact aF (l.length-(i+1)) _ _ (by omega) ⟨i+1,S',f,rfl,aN,aO,aP,aQ,aR,aS,aT,O,F,rfl⟩
  rw[<- ac,<-v2.len];refine aG.idx (i:=i) (x:=(l[i]:Int)) (by rw[Bs,ag];rfl) λa _ c=>?_
  refine AC.mk c.int ?_;refine ae.intro (λq=>?_) (λq=>?_)
  ·have q:(l[i]:Int)<=upto:=by simpa using q
   have T:EA s H b h z X:=L.mod w av;refine aD (AZ.mk (AL T rfl) (aD (AJ.mk (AB T rfl) ?_)));refine XI (au s w) (by omega) (by omega) λa7 U=>⟨_,rfl,⟨AL (T.ext U) rfl,?_⟩⟩
   refine Vh (Q.ext U) λak am V aU an=>⟨_,rfl,?_⟩
   have aV:(ff r (aC h l[i])).isSome=true:=by rw[u (aC h l[i]) λd e _ G=>by have:=aJ d e;have:=IK G;omega];exact aI
   have W:=(Ext.mod U).trans (aU.ai λc _ v=>D c v);rcases QN (k:=aC h l[i]) C.up aV with⟨aW,aX⟩|⟨aY,ds,ao⟩
   ·rw[aX] at V ⊢;refine ae.yes rfl (ay (λg=>by have:=C.calm g;rw[aW] at this;cases this) ak am _ V rfl (w.trans W) (λc v=>D c (an c v)) M λx=>?_);show ff r x=_\/(ff r x=_/\_);by_cases t: ∃d,d∈l.take i/\(d:Int)<=upto/\x=aC h d
    ·obtain⟨d,e,o,rfl⟩:=t;have ap:=J d (DO e);exact .inr ⟨E d e o,d,ap.1,ap.2.1,o,rfl⟩
    ·exact .inl (u x λd e o G=>t ⟨d,e,o,G⟩)
   rw[aY];refine ae.no rfl (aj am _ ak V (C.trans ds) (w.trans W) (R.trans W) (λc v=>D c (an c v)) (AF (YU _) M) ?_ ?_)
   ·intro d e o;rw[ao];split
    ·rfl
    ·rename_i aZ;rw[y] at e;rcases List.mem_append.1 e with e|e
     ·exact E d e o
     ·exact absurd (by rw[List.mem_singleton.1 e]) aZ
   ·intro x t;rw[ao,if_neg (t l[i] (by rw[y];exact List.mem_append.2 (.inr (List.mem_singleton.2 rfl))) q)];exact u x λd e=>t d (by rw[y];exact List.mem_append.2 (.inl e))
  ·have q: ¬(l[i]:Int)<=upto:=by simpa using q
   refine aj B r s Q C w R D M ?_ ?_
   ·intro d e o;rw[y] at e;rcases List.mem_append.1 e with e|e
    ·exact E d e o
    ·rw[List.mem_singleton.1 e] at o;exact absurd o q
   ·intro x t;exact u x λd e=>t d (by rw[y];exact List.mem_append.2 (.inl e))
 ·have F:i=l.length:=by simp at S;omega
  subst F;rw[BW] at E u;refine az aE s B r Q C w D M ?_ ?_
  ·intro d af ai o;by_cases e:d∈l
   ·exact E d e o
   ·rw[u (aC h d) λk a0 _ G=>e (by rw[IK G];exact a0)];have: ¬((ff m (aC h d)).isSome=true):=λg=>e ((A.mem d).2 ⟨af,ai,by rw[UA];exact g⟩)
    cases a1:ff m (aC h d) with
    |none=>rfl
    |some p=>rw[a1] at this;exact absurd rfl this
  ·intro x t;exact u x λd e o=>t d (J d e).1 (J d e).2.1 o
theorem APr {a:Nat}(h:a<=99999999):KZ (aU a)=false:=by
 have b:(aU a).size=1+(Lib.decDigits a).length:=by have:=BA (aU a);rw[Vi] at this;rw[<- this];simp;omega
 have c:(Lib.decDigits a).length<=20:=by rw[Lib.decDigits_length];exact Lib.nDigits_le20 a (by omega)
 unfold KZ;rw[Hi,decide_eq_false_iff_not,decide_eq_false_iff_not];refine⟨λh=>?_,by omega⟩;rw[h] at b;have:bz.size=0:=rfl;omega
theorem Pg {A:al}{h:aa}{a:Nat}{R:A2N}(c:cm h)(l:a<=1099511627776)(d: ∀b,Ext h b->R (J7 (aU a)) b):AA A P Iq #[J6 J9 a] h R:=by
 refine AHa ?_;unfold td;refine vX c.cL (by omega) (by omega) λe f=>⟨_,rfl,?_⟩
 have i:Lib.itoa (a:Int)=Lib.decDigits a:=Lib.itoa_nonneg a;rw[i];have n:(Lib.decDigits a).length<=20:=by rw[Lib.decDigits_length];exact Lib.nDigits_le20 a (by omega)
 have j:(⟨(Lib.decDigits a).toArray⟩:A2O).size=(Lib.decDigits a).length:=by simp[ByteArray.size]
 refine⟨?_,?_⟩
 ·rw[j,max_i64];have:(⟨#[116]⟩:A2O).size=1:=rfl;omega
 ·exact d e f
def qR(h:aa)(a:Nat):Prop:= ∃b c d e f i j l,h[a]? =some (J2 #[b,c,d,e,f,i,j,l,J3 true] El (0,0))
theorem APm {A:al}{h:aa}{q:Hp}{st:Db}{R:A2N}(hd:h[q.d]? =some (J2 (eg q st false) El (0,0)))(b: ∀a,qR a q.d->Mod (· =q.d) h a->a.size=h.size->R (J6 J9 30) a):AA A P CV #[Ay q.d,J6 J9 30] h R:=by
 refine ABE ?_;unfold VE;refine ah.mk λK c=>ae.yes rfl (aD (ab.dk hd (by simp) λd e f i=>c _ _ (b d ?_ f i)))
 exact⟨_,_,_,_,_,_,_,_,by simpa using e⟩
section
variable {A : al} {g h : aa} {q : Hp} {k : Nat -> Nat} {st : Db} {m : Bx} {R : A2N}
theorem bJ.gV(a:bJ g h q k st m)(b:cm g):cm h:=b.ext a.ext
def Grow(k a:Nat->Nat)(b:Nat):Prop:= ∀c,c<b->a c=k c
theorem Grow.refl {k:Nat->Nat}{a:Nat}:Grow k k a:=λ_ _=>rfl
theorem qS {k:Nat->Nat}{a b:Nat}{d:Nat->Prop}:Grow k (Km k a d b) a:=λc e=>Fq e
theorem APF(b:bJ g h q k st m)(t:st.next<=99999999)(M:st.aT<=99999999)(N:st.ts.length<=60000)(u: ∀p∈st.ts,p.1<=99999999)(E: ∀v,Ext h v->R (J7 (AX (Dn ⟨st.next,st.aT,st.ts.map (·.1)⟩))) v):AA A P O5 #[Ay q.d] h R:=by
 refine AC0 ?_;unfold Uu;refine aD (AC.mk (AB b.cell rfl) ?_);rw[Bz (by omega)];refine CS (by omega) λO w=>⟨_,rfl,?_⟩
 have f:=Ah w b.cell;refine aD (AC.mk (AB f rfl) ⟨AB b.cell rfl,?_⟩);rw[Bz (by omega)];refine CS (by omega) λQ y=>⟨_,rfl,?_⟩
 have z:=Ah y f;have S:=AV (n:=st.next) (by omega);have T:=AV (n:=st.aT) (by omega);have j:q.np.len=st.ts.length:=by rw[b.names.len];simp
 refine⟨by rw[AP,AP,max_i64];omega,?_⟩;refine aD (AY.mk (s:=q.np) (AB z rfl) ⟨AB f rfl,AB b.cell rfl,?_⟩);rw[j,Bz (by omega),Ak];refine CS (by omega) λF B=>⟨_,rfl,?_⟩
 have G:=Ah B z;have U:=AV (n:=st.ts.length) (by omega);refine⟨by rw[AP,AP,A1,max_i64];omega,?_⟩;refine aD (AY.mk (s:=q.np) (AB G rfl) ?_);rw[Ak];have C:=(w.trans y).trans B;have H:=(b.names.ext C).view;have V: ∀i,((st.ts.map (·.1)).take i).flatMap BZ=((st.ts.map (·.1)).take i).flatMap BZ:=λ_=>rfl
 refine Loop.rule (λD x o=> ∃i:Nat,x=(AX (BZ st.next++BZ st.aT++BZ st.ts.length++((st.ts.map (·.1)).take i).flatMap BZ),(i:Int),())/\D=st.ts.length-i/\i<=st.ts.length/\Ext F o) ?_ ⟨0,by simp,rfl,by omega,Mod.refl⟩;rintro K D _ o ⟨i,rfl,rfl,W,r⟩ I;dsimp only;refine ae.intro (λe=>?_) (λe=>?_)
 ·have d:i<st.ts.length:=by rw[<- j];simpa using e
  have ag:st.ts[i]? =some st.ts[i]:=A2 d;have X:=u st.ts[i] (AW d);refine(H.ext r).idx (i:=i) (x:=(st.ts[i].1:Int)) (by rw[eo,Bs,ag];rfl) λa _ c=>AC.mk c.int ?_
  rw[Bz (by omega)];refine CS (by omega) λY J=>⟨_,rfl,?_⟩
  have Z:=AV (n:=st.ts[i].1) (by omega);have aa:=Tg (l:=(st.ts.map (·.1)).take i) λn t=>by
   obtain⟨p,L,rfl⟩:=List.mem_map.1 (DO t);exact u p L
  have ab:((st.ts.map (·.1)).take i).length<=60000:=by simp;omega
  refine⟨by rw[AP,AP,max_i64];simp only[A1];omega,?_⟩;rw[Ak,Aa (by omega)];refine I (st.ts.length-(i+1)) _ _ (by omega) ⟨i+1,?_,rfl,d,r.trans J⟩;rw[AD,Bs,ag];simp
 ·have d:i=st.ts.length:=by rw[j] at e;simp at e;omega
  subst d;have:=E o (C.trans r);rw[AG (by simp)];simpa [Dn] using this
theorem xF {n:Nat}{s:Sl}{l:List Pr}(z:cm g)(Q:bJ g h q k st m)(hd:m.down=false)(T:Gg l)(an:View Ba h s l)(B: ∀c,s.af=some c->c<h.size)(ao:n<=99999999)(ap:ff m (aU n)=none)(aq:bg m.files+(JM l).length+1<=8796093022208)
  (S:m.fuel≠ -1-> ∀b S' e,Cm b q.b S' e->e.down=true->Mod q.Sb h b->(∀ c,S' c->q.Sb c\/h.size<=c)->(∀ x,x≠aU n->ff e x=ff m x)->bg e.files<=bg m.files+(JM l).length+1->R (J1 #[J5 none,J6 J9 30]) b)
  (ar: ∀b S' C e t D U,bJ g b {q with Sb:=S'} C st e->JA m e->(∀ x,ff e x=if x=aU n then some (AX (JM l),bz) else ff m x)->bg e.files<=bg m.files+(JM l).length+1->bR b t l (ME l) D U->h.size<=D->U<=b.size->(∀ c,D<=c->C c=0)->
   Mod q.Sb h b->Grow k C h.size->R (J1 #[Ay t,J6 J9 0]) b):AA A P Ml #[Ay q.d,J6 J9 (n:Int),J4 s.p s.len s.cap] h R:=by
 refine ADA ?_;unfold XF;refine ANF T an B λaC V=>⟨_,_,rfl,ae.no rfl ?_⟩
 have p:=Q.on V;refine aD (AZ.mk (AL p.cell rfl) ?_);refine Pg (p.gV z) (by omega) λE F=>⟨_,rfl,⟨AL (p.on F).cell rfl,?_⟩⟩
 have W:=p.on F;have X:=V.trans F;have aE:=X.size;refine rI W.box (by rw[AP];exact aq) λY f G H Z=>⟨_,rfl,?_⟩
 have I:=YR Q.box.aQ (aU n) (AX (JM l));rw[AP] at I;have aa:Mod q.Sb h Y:=(Ext.mod X).trans H;have J: ∀c,f c->q.Sb c\/h.size<=c:=λc a=>(Z c a).imp id λh=>by omega
 rcases Qm (k:=aU n) (d:=AX (JM l)) hd (APr ao) with⟨K,L⟩|⟨L,M,r⟩
 ·rw[L] at G ⊢;refine ae.yes rfl ?_;exact S (by rw[K];decide) Y f _ G rfl aa J (λx _=>rfl) (by rw[qQ,Ge];exact Is _ _)
 rw[L];refine ae.no rfl ?_;have o:=W.boxed (j:=2) (bE:=st) G (H.ai λc _ a=> .inl a) Z rfl rfl rfl rfl (.inl ⟨by decide,rfl,rfl⟩) (.inl ⟨by decide,rfl⟩);generalize (Dt m (aU n) (AX (JM l))).2=ab at*
 have aF:Grow k (Km k E.size f 2) E.size:=qS;refine aD (AZ.mk (AL o.cell rfl) ?_);refine Pg (o.gV z) (by omega) λau u=>⟨_,rfl,⟨AL (o.on u).cell rfl,?_⟩⟩
 have ac:=o.on u;rw[ap] at r;have av:ff ab (aU n)=some (bz,bz++AX (JM l)):=by rw[r,if_pos rfl];rfl
 refine rJ ac.box λad v N=>⟨_,rfl,?_⟩
 have aw:=ni o.box.aQ (aU n);have af:Mod q.Sb h ad:=by refine aa.then ((Ext.mod u).trans N |>.ai λc _ a=>?_);exact(J c a)
 rcases NZ M.up av with⟨K,O⟩|⟨O,ag,ah⟩
 ·rw[O] at v ⊢;refine ae.yes rfl ?_;exact S (λax=>by have:=M.calm ax;rw[K] at this;cases this) ad f _ v rfl af J (λx i=>by
   rw[nU,r,if_neg i]) I
 rw[O];refine ae.no rfl ?_;have w:=ac.boxed (j:=2) (bE:=st) v (N.ai λc _ a=> .inl a) (λc a=> .inl a) rfl rfl rfl rfl (.inl ⟨by decide,rfl,rfl⟩) (.inl ⟨by decide,rfl⟩);generalize (Gr ab (aU n)).2=ai at*
 refine aD (AZ.mk (AL w.cell rfl) ?_);refine Pg (w.gV z) (by omega) λaj y=>⟨_,rfl,⟨AL (w.on y).cell rfl,?_⟩⟩
 have ak:=w.on y;refine oD ak.box ⟨_,_,rfl,?_⟩;have ay:ff ai (aU n)=some (AX (JM l),bz):=by rw[ah,if_pos rfl,Qd,Qd]
 rw[qe ag.up,ay];dsimp only;rw[XN];refine ae.no rfl ?_;refine wF T.eG λal t am az=>⟨_,_,rfl,?_⟩
 have aG:=u.size;have aH:=H.size;have aI:=N.size;have aJ:=y.size;have aA: ∀c,aj.size<=c->Km (Km k E.size f 2) au.size f 2 c=0:=λc a=>by
  have: ¬f c:=λB=>by have:=v.lt B;omega
  exact UH (by omega) this
 refine ar al f _ ai t aj.size al.size (ak.on am) (M.trans ag) (λx=>?_) (AF aw I) az (by omega) (A0 _) (λc a=>aA c a) ?_ ?_
 ·rw[ah];by_cases i:x=aU n
  ·rw[if_pos i,if_pos i,Qd,Qd]
  ·rw[if_neg i,if_neg i,r,if_neg i]
 ·exact(af.trans (Ext.mod y)).trans (Ext.mod am)
 ·exact λc a=>by
   rw[Fq (by omega),Fq (by omega)]
end
section
variable {A : al} {g h : aa} {q : Hp} {k : Nat -> Nat} {st : Db} {m : Bx} {R : A2N}
theorem bJ.fS(a:bJ g h q k st m)(e:cm g){d:aa}(x:Mod (λc=>q.Sb c\/c=q.lg\/c=q.nt) h d):cm d:=
 e.ext (a.rest (C:=λc=>c=2\/c=3\/c=4) (x.ai λc _ b=>by
  rcases b with b|rfl|rfl
  ·exact .inl (a.kb c b)
  ·exact .inr (.inl a.kl)
  ·exact .inr (.inr a.kn)) (by decide)).ext
def cM(st:Db):Nt:=⟨st.next,st.aT,st.ts.map (·.1)⟩
theorem xG {B:Bn}{T:Nat->List Pr}(I:cm g)(f:bJ g h q k st m)(hd:m.down=false)(ac:BH (ff m) B)(u:gQ (cM st))(ax: ∀a∈(cM st).names,ff m (aU a)=some (AX (JM (T a)),bz)/\Gg (T a))(ay:1<=st.aJ/\st.aJ+2<=99999999)
  (S: ∀a,st.aJ<=a->a<=99999999->ff m (aC nn a)=none) (bf:bg m.files+1000000<=8000000000000)
  (ad:m.fuel≠ -1-> ∀n S' o,Cm n q.b S' o->o.down=true->Mod (λc=>q.Sb c\/c=q.nt) h n->(∀ c,S' c->q.Sb c\/h.size<=c)->(∀ G,LY (ff o) G-> ∃l,BH G l/\lN B st.aJ (cM st) T l)->(∀ b,(∀ a,b≠aC nn a)->ff o b=ff m b)->bg o.files<=bg m.files+700000->R (J6 J9 30) n)
  (aM: ∀n S' az o l,bJ g n {q with Sb:=S'} az {st with aJ:=st.aJ+1} o->JA m o->BH (ff o) l->Ai l=cM st->l.T=T->l.L=B.L->l.aO=B.aO->l.aV<=max B.aV (st.aJ+1)->(∀ b,(∀ a,b≠aC nn a)->ff o b=ff m b)->
   (∀ a,st.aJ+1<=a->a<=99999999->ff o (aC nn a)=none)->bg o.files<=bg m.files+700000->Mod (λc=>q.Sb c\/c=q.nt) h n->Grow k az h.size->R (J6 J9 0) n):AA A P JY #[Ay q.d] h R:=by
 have aN: ∀p∈st.ts,p.1<=99999999:=λp aO=>by
  have v:=u.below p.1 (List.mem_map.2 ⟨p,aO,rfl⟩);have r:=u.next;simp only[cM] at v r;omega
 have aP:st.ts.length<=60000:=by have:=u.cn;simpa [cM] using this
 have aQ:=wN u;have aR:(cM st).names.length=st.ts.length:=by simp[cM]
 rw[aR] at aQ;have af:(Dn (cM st)).length<=1048576:=by omega
 refine ACB ?_;unfold Un;refine aD (AZ.mk (AB f.cell rfl) ?_);refine APF f u.next u.aT.2 aP aN λv U=>⟨_,rfl,⟨AB (f.on U).cell rfl,?_⟩⟩
 have J:=f.on U;have bh:=U.size;have aS:(AX (Dn ⟨st.next,st.aT,st.ts.map (·.1)⟩)).size=(Dn (cM st)).length:=by rw[AP];rfl
 refine we (J.gV I) J.dJ J.box J.rz (λn x=>J.fS I (x.ai λc _ e=> .inl e)) (by decide) (by omega) (by rw[aS];omega) (by omega) λr C K V aT aA=>⟨_,rfl,?_⟩
 rw[show bl (AX (Dn ⟨st.next,st.aT,st.ts.map (·.1)⟩))=Dn (cM st) from EE _] at K V ⊢;have aV:=YR f.box.aQ (aC nn st.aJ) (AX (Cj (Dn (cM st))));have bi:=(I6 af).2;rw[AP] at aV;have L:Mod (λc=>q.Sb c\/c=q.nt) h r:=(Ext.mod U).trans aT;have s: ∀c,C c->q.Sb c\/h.size<=c:=λc e=>(aA c e).imp id λh=>by omega
 rcases Qm (k:=aC nn st.aJ) (d:=AX (Cj (Dn (cM st)))) hd (wh (by decide) (by omega)) with⟨W,ag⟩|⟨ag,M,aE⟩
 ·rw[ag] at K ⊢;refine ae.yes rfl ?_;exact ad (by rw[W];decide) r C _ K rfl L s (λG c=>⟨B,ac.dK c,ANu⟩) (λb _=>rfl) (by rw[qQ];omega)
 rw[ag] at V ⊢;refine ae.no rfl ?_;rw[decide_eq_true rfl,HG] at V;generalize (Dt m (aC nn st.aJ) (AX (Cj (Dn (cM st))))).2=t at*
 rw[S st.aJ (A0 _) (by omega)] at aE;have X: ∀b,ff t b=if b=aC nn st.aJ then some (bz,AX (Cj (Dn (cM st)))) else ff m b:=λb=>by
  rw[aE];split<;>simp only[Option.getD_none,Qd]
 have ah: ¬C q.nt:=λe=>by
  rcases aA _ e with h|h
  ·exact f.rz h
  ·exact h.2 rfl
 have aW:r[q.d]? =some (J2 (eg q st false) El (0,0)):=L.af f.cell (by rintro(h|h);exact f.lY h;exact f.dn h);refine aD (AZ.mk (AB aW rfl) ?_);have aF:ff t (aC nn st.aJ)=some (bz,AX (Cj (Dn (cM st)))):=by rw[X,if_pos rfl]
 have aX:cm r:=f.fS I (L.ai λc _ e=>e.imp id .inr);refine VW aX V K ah (by decide) (by omega) (λaY w D ai aj=>⟨_,_,rfl,?_⟩) λaZ w D ai aj=>⟨_,_,rfl,?_⟩
 ·
  have a0:(Gr t (aC nn st.aJ)).1≠0:=aY;rcases NZ M.up aF with⟨W,E⟩|⟨E,_,_⟩
  ·have a1:MG t (aC nn st.aJ) true=(30,MR t):=E;rw[a1] at D ⊢;refine ae.yes rfl ?_;have z:Mod (λc=>q.Sb c\/c=q.nt) h w:=L.then (aj.ai λc _ e=>(s c e).imp .inl id);exact ad (λak=>by have:=M.calm ak;rw[W] at this;cases this) w C _ D rfl z s (λG c=>AK0 ac ⟨ay.1,by omega⟩ u af S ax (F1:=ff (MR t)) X c) (λb i=>by
    rw[nU,X,if_neg (i _)]) (by rw[qQ];omega)
  ·exact absurd E a0
 ·rcases NZ M.up aF with⟨W,E⟩|⟨E,al,a2⟩
  ·have aG:(Gr t (aC nn st.aJ)).1=0:=aZ;rw[E] at aG;cases aG
  have D:Cm w q.b C (Gr t (aC nn st.aJ)).2:=D;have bj:=ni K.aQ (aC nn st.aJ);generalize (Gr t (aC nn st.aJ)).2=aH at*
  refine ae.no rfl ?_;have N: ∀b,ff aH b=if b=aC nn st.aJ then some (AX (Cj (Dn (cM st))),bz) else ff m b:=λb=>by
   rw[a2];by_cases i:b=aC nn st.aJ
   ·rw[if_pos i,if_pos i];simp only[Qd]
   ·rw[if_neg i,if_neg i,X,if_neg i]
  obtain⟨aI,aK⟩:=ALo ac ⟨ay.1,by omega⟩ u af S ax N;have z:Mod (λc=>q.Sb c\/c=q.nt) h w:=L.then (aj.ai λc _ e=>by
   rcases e with e|rfl
   ·exact(s c e).imp .inl id
   ·exact .inl (.inr rfl))
  have a3:w[q.d]? =some (J2 (eg q st false) El (0,0)):=z.af f.cell (by rintro(h|h);exact f.lY h;exact f.dn h);refine aD (AZ.mk (AB a3 rfl) ?_);have a4:J8 J9 (((st.aJ:Nat):Int)-(1:Int))=(st.aJ:Int)-1:=wrap_i64 (by omega) (by omega);rw[a4];have a5:cm w:=f.fS I (z.ai λc _ e=>e.imp id .inr);have a6: ∀n,Mod C w n->cm n:=λn x=>f.fS I ((z.then (x.ai λc _ e=>(s c e).imp .inl id)).ai λc _ e=>e.imp id .inr)
  have aL:ff aH (aC nn st.aJ)≠none:=by rw[N,if_pos rfl];simp
  refine xE a5 a6 ai D al.up ah (by decide) (by omega) (λh=>absurd h (by omega)) (λa7 F am H an a8 Y ao a9 Z=>⟨_,rfl,?_⟩) λ_ F am H an ba Y ao a9 Z ap=>⟨_,rfl,?_⟩
  ·have aa:Mod (λc=>q.Sb c\/c=q.nt) h F:=z.then (Y.ai λc _ e=>(s c e).imp .inl id);obtain⟨l,aq,ar,au,av,aw,bb⟩:=xD (G:=ff H) aI aK aL λb=>by
    rcases Z b with v|⟨v,a,O,y,ab,r⟩
    ·exact .inl v
    ·exact .inr ⟨v,a,by omega,y,r⟩
   refine ad (λak=>a7 (al.calm (M.calm ak))) F am H an a8 aa (λc e=>s c (ao c e)) (λG c=>⟨l,aq.dK c,av,aw,by omega,.inr ⟨ar,au⟩⟩) (λb i=>?_) (by omega);rcases Z b with v|⟨_,a,_,_,_,r⟩
   ·rw[v,N,if_neg (i _)]
   ·exact absurd r (i a)
  ·have aa:Mod (λc=>q.Sb c\/c=q.nt) h F:=z.then (Y.ai λc _ e=>(s c e).imp .inl id);obtain⟨l,aq,ar,au,av,aw,bb⟩:=xD (G:=ff H) aI aK aL λb=>by
    by_cases i: ∃a:Nat,1<=a/\a<=99999999/\(a:Int)<=(st.aJ:Int)-1/\b=aC nn a
    ·obtain⟨a,O,y,ab,rfl⟩:=i;exact .inr ⟨Z a O y ab,a,by omega,y,rfl⟩
    ·exact .inl (ap b λa O y ab Q=>i ⟨a,O,y,ab,Q⟩)
   have bc: ∀b,(∀ a,b≠aC nn a)->ff H b=ff m b:=λb i=>by
    rw[ap b λa _ _ _=>i a,N,if_neg (i _)]
   have bd:EA F q.nt q.b nn (st.aJ+1) false:=ai.mod Y ah;have be:=f.boxed (j:=4) (bE:= {st with aJ:=st.aJ+1}) an (aa.ai λc _ e=>e.imp id λh=> .inr ⟨rfl,h⟩) (λc e=>s c (ao c e)) rfl rfl rfl rfl (.inl ⟨by decide,rfl,rfl⟩) (.inr bd);refine aM F am _ H l be ((M.trans al).trans ba) aq ar au av aw (by omega) bc (λa O y=>?_) (by omega) aa qS;rw[ap (aC nn a) λk _ _ bk Q=>by have:=IK Q;omega,N,if_neg λQ=>by have:=IK Q;omega];exact S a (by omega) y
end
end Go.Lf.G
namespace Go.Lf.G.M
open Go Go.Lf Go.Lf.G
theorem AJT {O:al}{n:aa}{b:Nat}{T:Q7}{fr:Nat×Nat}{s:Sl}{l:List Pr}(f:n[b]? =some (J2 #[J4 s.p s.len s.cap] T fr))(v:View Ba n s l)(ag:l.length<=1099511627776):
  Dx O P (.func (.func Cy) #[] #[J5 (some ⟨b,0,none⟩)]) (λc=>c<n.size/\(c=b\/s.af=some c)) n l:=by
 refine⟨λc o=>o.1,_,_,rfl,λQ=>by kernel_rfl,λe E Q R h ah hd hB S U=>?_⟩;rw[pO];refine Hr ?_;unfold EL;have F:=Af f;have V: ∀d,Mod h e d->d[b]? =some (J2 #[J4 s.p s.len s.cap] T fr):=λd m=>by
  have w:=E b ⟨F,.inl rfl⟩;exact m.af (w.trans f) (hd b ⟨F,.inl rfl⟩)
 have W: ∀i x,l[i]? =some x-> ∃a,s.p=some a/\ ∀d,Mod h e d->Cells d (a.add (i*3)) (Ba.enc x):=λi x G=>by
  obtain⟨a,q,o⟩:=v.cells i x G;refine⟨a,q,λd m X u r=>?_⟩;have H:=o X u r;have I:=Tt H;rw[aM,aM] at I;have J:a.block<n.size/\(a.block=b\/s.af=some a.block):=⟨I,.inr (by simp[Sl.af,q])⟩;have w:=E _ J;refine m.ag ((Pk ?_).trans H) ?_
  ·rw[aM,aM];exact w
  ·rw[aM,aM];exact hd _ J
 refine AY.mk (AL (V e Mod.refl) rfl) ?_;refine Loop.rule (λm x d=> ∃(i:Nat) (k:Nat->Prop),x=((i:Int),())/\m=l.length-i/\i<=l.length/\Mod h e d/\(∀ b,k b->h b\/e.size<=b)/\R i true k d) ?_ ⟨0,h,rfl,rfl,by omega,Mod.refl,λb f=> .inl f,U⟩;rintro K m _ d ⟨i,k,rfl,rfl,G,t,y,r⟩ Y;refine ae.intro (λj=>?_) (λj=>?_)
 ·have p:i<l.length:=by simp[v.len] at j;omega
  obtain⟨a,q,o⟩:=W i _ (A2 p);have z:=o d t;refine bC.mk q (by rw[v.len];exact p) ?_;refine AJ.mk (z.pair.1) (AJ.mk z.pair.2.1 (Ab.mk z.pair.2.2 ?_));refine ak.pair λai Z aj A B am=>?_
  refine AJ.mk (AL A rfl) (AJ.mk (AB A rfl) (Ab.mk (AB A rfl) ?_));have ab:=hB.bd _ _ _ _ _ r (B.ai (S':=λb=>¬k b/\e.size<=b) λ_ _ e=>e.elim);refine EH.mono (S i _ k Z (A2 p) ab) ?_;rintro _ ac ⟨g,C,rfl,ad,af,L⟩;have M: ∀b,C b->h b\/e.size<=b:=λb f=>(ad b f).elim (y b) λan=> .inr (by have:=t.size;have:=B.size;omega)
  have N:Mod h e ac:=(t.trans B.mod).then (af.ai λb _ f=>(y b f));refine⟨g,rfl,?_⟩;refine ae.intro (λj=>?_) (λj=>?_)
  ·refine⟨rfl,i+1,g,C,N,M,L,λD=>?_,by omega⟩;subst D;cases j
  ·have D:g=true:=by simpa using j
   subst D;exact Y _ _ _ (by omega) ⟨i+1,C,by rw[Aa (by omega)],rfl,by omega,N,M,L⟩
 ·have p:i=l.length:=by simp[v.len] at j;omega
  exact⟨rfl,i,true,k,t,y,r,λ_=>p,by omega⟩
theorem rB {d:al}{a:aa}{s:Sl}{l:List Pr}{e:A2N}(v:View Ba a s l)(g:l.length<=1099511627776)
  (h: ∀fv b,Dx d P fv (λc=>c<b.size/\(c=a.size\/s.af=some c)) b l->Ext a b->b.size=a.size+1->e fv b):AA d P CU #[J4 s.p s.len s.cap] a e:=by
 refine Ic ?_;unfold Ef;refine ak.mk λi _ j f k=>?_
 exact h _ i (AJT j (v.ext f) g) f k
theorem oC {aq:al}{t:aa}{fv:J0}{S:Nat->Prop}{l:List Pr}{e:A2O}{n:Int}{ar:A2N}(A:(fv= .nilFunc/\l= [])\/Dx aq P fv S t l)(bi:l.length<=1099511627776)
  (W: ∀G o,Own Ba AR o G (Ov e n l)->(∀ c,G.af=some c->t.size<=c)->Ext t o->ar (J4 G.p G.len G.cap) o):AA aq P Ka #[fv,J7 e,J6 J9 n] t ar:=by
 refine ADS ?_;unfold XH;refine ak.mk λau _ aX aY aZ=>ak.mk λq _ a0 av bj=>ak.mk λd _ a1 X bk=>?_
 have Y:Ext t d:=(aY.trans av).trans X;have a2:d[t.size]? =some (J2 #[J7 e] Ar (0,0)):=X.af (av.af aX (by simp)) (by simp);have aw:d[au.size]? =some (J2 #[J6 J9 n] BQ (0,0)):=X.af a0 (by simp);refine ah.mk λK ax=>?_
 have ay:Ov e n l= []->K (true,()) d:=λf=>ax _ _ (ae.yes rfl (W ⟨none,0,0⟩ d (f▸Own.nil) (λc j=>by simp[Sl.af] at j) Y))
 rcases A with⟨rfl,rfl⟩|A
 ·exact⟨trivial,ae.yes rfl (ay (by simp[Ov]))⟩
 refine⟨A.one.2.1,ae.no A.one.2.2 ?_⟩;refine AC.mk (AL aw rfl) ?_;cases Q:decide (n<=0)
 ·refine ax _ _ (ae.no rfl ?_);have Q:0<n:=by simpa using Q
  have az: ∀o:aa,Mod (λc=>c=q.size) d o->Ext t o:=λo m=>Y.then (m.ai λc _ j=> .inr (by omega))
  have bm:=(ZD (l:=l) (PV e)).length_le;refine Vt A (λb a=>Y.get b (A.1 b a) (by simp))
   (λi c Z r=>r[t.size]? =some (J2 #[J7 e] Ar (0,0))/\r[au.size]? =some (J2 #[J6 J9 n] BQ (0,0))/\ ∃(s:Sl) (u:List Pr),r[q.size]? =some (J2 #[J4 s.p s.len s.cap] AQ (0,0))/\Own Ba AR r s u/\(∀ b,Z b↔(b=q.size\/s.af=some b))/\(∀ b,s.af=some b->b<r.size/\q.size<b)/\match c with
    |none=>u=l.take i/\i<=(l.takeWhile (PV e)).length/\(i:Int)<n
    |some aA=>aA=some 0/\u=Ov e n l)
   (λb=>b=q.size) (λb a f=>by have:=A.1 b a;omega) ?_ ?_ ?_ ?_ ?_ ?_
  ·rintro i c Z r ⟨_,_,s,u,q,v,h,k,_⟩ b a;rcases(h b).1 a with rfl|d
   ·exact Af q
   ·exact(k b d).1
  ·rintro i c Z r o ⟨H,I,s,u,w,v,h,k,a3⟩ m;refine⟨m.af H (λt=>by omega),m.af I (λt=>by omega),s,u,m.af w (λac=>ac.1 ((h _).2 (.inl rfl))),v.mod m (λc j ac=>ac.1 ((h _).2 (.inr j))),h,λb a=>⟨?_,(k b a).2⟩,a3⟩;have:=m.size;have:=(k b a).1;omega
  ·exact⟨a2,aw,⟨none,0,0⟩,[],a1,Own.nil,λb=>by simp[Sl.af],λb a=>by simp[Sl.af] at a,by simp,by omega,by simpa using Q⟩
  ·rintro i x ad r rec bn bo J ⟨H,I,s,u,w,v,h,k,rfl,R,a4⟩ aC aZ a5 a6 a7 aD;have bp:=(List.getElem?_eq_some_iff.1 J).1;have aE:=Tf (p:=PV e) (l:=l) R;refine ak.pair λbq aF br a8 C bs=>?_
   refine⟨rec,C.af a5 (by simp),a6,?_⟩;generalize aG:aF.setIfInBounds (d.size+1) (.loop {rec with state:= .busy})=D;have B:Mod (λb=>b=d.size+1) aF D:=aG▸Mod.setObj rfl;have aH:D[d.size+1]? =some (.loop {rec with state:= .busy}):=by rw[<- aG];exact CR (by omega)
   have T:=B.af a8 (by omega);have U:=B.af (C.af H (by simp)) (by omega);have aI:=B.af (C.af I (by simp)) (by omega);have aJ:Mod (λb=>b=d.size+1) r D:=(Ext.mod C).trans B;have af:=B.af (C.af w (by simp)) (by omega);have bt:=Af w;have aK:=(v.ext C).mod B (λc j f=>aC ((h _).2 (.inr (f▸j))));have bu:=B.size;have aL:(l.take i).length=i:=by simp;omega
   refine ah.mk λag aM=>?_
   have a9:PV e x=false->ag (true,()) D:=λL=>aM _ _ (ae.yes rfl (aD _ _ (by
    refine⟨ad,λb a=> .inl a,aJ.ai λb _ a=> .inr a,aH,U,aI,s,l.take i,af,aK,h,λb a=>⟨?_,(k b a).2⟩,rfl,?_⟩
    ·have:=(k b a).1;omega
    ·have:=aE.2.1 _ J L;have H:(l.takeWhile (PV e)).take i=l.takeWhile (PV e):=AG (by omega);have I:(l.takeWhile (PV e)).take n.toNat=l.takeWhile (PV e):=AG (by omega);unfold Ov;rw[I,<-mT R,H])))
   have aO:PV e x=true->ag (false,()) D:=λL=>aM _ _ (ae.no rfl (by
    have bv:=aE.1 _ J L;refine AY.mk (AL af rfl) (AJ.mk (AL T rfl) (AJ.mk (AB T rfl) (Ab.mk (AB T rfl) ?_)));refine ak.aZ (E:=Ba) (x:=x) rfl HZ aK (by rw[aL];omega) (by rw[aL];simp[maxLen];omega) λy ba aP F ai _=>?_
    have bb:s.af≠some q.size:=λf=>by have:=k _ f;omega
    refine ab.mk (F.af af bb) (by simp) λaj bc M bw=>?_
    have bx:=F.size;have am:aj[q.size]? =some (J2 #[J4 y.p y.len y.cap] AQ (0,0)):=by simpa using bc
    have V:=aP.mod M (λc j f=>by
     rcases ai c j with d|d
     ·have:=k _ d;omega
     ·omega)
    have aQ:=M.af (F.af U (λf=>by have:=k _ f;omega)) (by omega);have an:=M.af (F.af aI (λf=>by have:=k _ f;omega)) (by omega);have bd:l.take i++ [x]=l.take (i+1):=by rw[AD,J];rfl
    rw[bd] at V;have aR: ∀b,(b=q.size\/y.af=some b)->ad b\/r.size<=b:=by
     rintro b (rfl|a)
     ·exact .inl ((h _).2 (.inl rfl))
     ·rcases ai b a with d|d
      ·exact .inl ((h _).2 (.inr d))
      ·exact .inr (by omega)
    have aS:Mod (λb=>ad b\/b=d.size+1) r aj:=
     ((aJ.ai λb _ a=> .inr a).trans (F.ai λb _ a=> .inl ((h _).2 (.inr a)))).trans (M.ai λb _ a=> .inl ((h _).2 (.inl a)))
    have aT:=M.af (F.af aH (λf=>aC ((h _).2 (.inr f)))) (by omega);have aU: ∀b,y.af=some b->b<aj.size/\q.size<b:=by
     intro b a;have bz:b<ba.size:=by
      rcases aP.row with⟨rfl,_⟩|⟨g,bA,L,be,_⟩
      ·simp[Sl.af] at a
      ·simp[Sl.af,L] at a;subst a;exact Af be
     refine⟨by omega,?_⟩;rcases ai b a with d|d
     ·exact(k _ d).2
     ·omega
    refine AY.mk (AL am rfl) (AC.mk (AL an rfl) ?_);have aV:y.len=i+1:=by rw[V.len];simp;omega
    refine ae.intro (λz=>aD _ _ ?_) (λz=>a7 _ ?_)
    ·refine⟨_,aR,aS,aT,aQ,an,y,_,am,V,λ_=>Dd,aU,rfl,?_⟩;have z:((i+1:Nat):Int)=n:=by rw[aV] at z;simpa using z
     unfold Ov;rw[<- z,A6,mT (by omega)]
    ·refine⟨_,aR,aS,aT,aQ,an,y,_,am,V,λ_=>Dd,aU,rfl,by omega,?_⟩;have z:((i+1:Nat):Int)≠n:=by rw[aV] at z;simpa using z
     omega))
   refine AJ.mk (AL U rfl) ?_;rw[Cb];refine ae.intro (λN=>?_) (λN=>?_)
   ·refine AJ.mk (AL T rfl) (AJ.mk (AL U rfl) ?_);show ag (!aN x.key e,()) D;cases aW:aN x.key e
    ·exact a9 (by simp at N;simp[PV,N,aW])
    ·exact aO (by simp[PV,aW])
   ·exact aO (by simp at N;simp[PV,N])
  ·rintro bf o ⟨_,_,s,u,w,v,h,k,rfl,R,a4⟩ O ao bg ap;have bh:=O.size;refine AY.mk (AL w rfl) ⟨ap,?_⟩;have:Ov e n l=l.take l.length:=by unfold Ov;rw[AG (by omega),<-mT R,AG (by omega)]
   rw[<- this] at v;refine W s _ (v.mod (Mod.setObj (S:=λc=>c=d.size) rfl) λc j f=>ao ((h _).2 (.inr (f▸j)))) (λc j=>by have:=k _ j;omega) ?_;exact(az o O).then (Mod.setObj (.inr (by omega)))
  ·rintro i aA bf o ⟨_,_,s,u,w,v,h,k,rfl,rfl⟩ J O ao bg ap;have bh:=O.size;refine AY.mk (AL w rfl) ⟨ap,?_⟩;refine W s _ (v.mod (Mod.setObj (S:=λc=>c=d.size) rfl) λc j f=>ao ((h _).2 (.inr (f▸j)))) (λc j=>by have:=k _ j;omega) ?_;exact(az o O).then (Mod.setObj (.inr (by omega)))
 ·refine ay ?_;have:n.toNat=0:=by simp at Q;omega
  simp[Ov,this]
end Go.Lf.G.M
namespace Go.Lf.G
open Go
open M (Sorted Ae Cr BG Ag Aw Bf Aj bG BM aS Ov PV)
def jE(f t k:A2O):Bool:= !aN k f&&(decide (t=⟨#[]⟩)||aN k t)
def P9(f t:A2O)(l:List Pr):List Pr:=l.filter λx=>jE f t x.key
def lP(m:List Pr)(f t:A2O)(a:Int):List Pr:=(P9 f t m).take a.toNat
theorem ZJ {p:Pr->Bool}{r:A2O->Bool}(a: ∀x,p x=r x.key)(k:A2O): ∀l:List Pr,Ae k (l.filter p)=if r k then Ae k l else none
 | []=>by split<;>rfl
 |x::l=>by
  have b:=ZJ a k l;rw[B9,M.BC];by_cases h:x.key=k
  ·rw[if_pos h];cases c:r k with
   |true=>rw[if_pos (by rw[a,h];exact c),M.BC,if_pos h];rfl
   |false=>
    rw[if_neg (by rw[a,h,c];decide),b,c];rfl
  ·rw[if_neg h];split
   ·rw[M.BC,if_neg h];exact b
   ·exact b
theorem fL(k:A2O): ∀ {l:List Pr},Sorted l->l.drop (aS k l)=l.filter λx=> !aN x.key k
 | [],_=>by simp
 |x::l,s=>by
  have b:=List.pairwise_cons.1 s;rw[XP,B9];by_cases h:aN x.key k=true
  ·rw[if_pos h,if_neg (by simp[h]),HM];exact fL k b.2
  ·have c: ∀a∈l,(!aN a.key k)=true:=λa d=>by
    have e:=b.1 a d;cases f:aN a.key k with
    |false=>rfl
    |true=>exact absurd (M.DK e f) h
   rw[if_neg h,if_pos (by simp[h]),Nx,List.filter_eq_self.2 c]
theorem qT(t:A2O): ∀ {l:List Pr},Sorted l->l.takeWhile (PV t)=l.filter (PV t)
 | [],_=>rfl
 |x::l,s=>by
  have c:=List.pairwise_cons.1 s;rw[Mn,B9];by_cases h:PV t x=true
  ·rw[if_pos h,if_pos h,qT t c.2]
  ·rw[if_neg h,if_neg h];refine(List.filter_eq_nil_iff.2 λd e a=>h ?_).symm;have f:=c.1 d e;unfold M.PV at a ⊢;rw[Cl] at a ⊢;rcases a with b|b
   ·exact .inl b
   ·exact .inr (M.DK f b)
theorem xH {f t:A2O}{l:List Pr}(s:Sorted l)(c:l.length<=1099511627776):Ov t 1099511627776 (l.drop (aS f l))=P9 f t l:=by
 unfold M.Ov;have b:Sorted (l.drop (aS f l)):=s.sublist (List.drop_sublist _ _);rw[qT t b,fL f s,T6,AG]
 ·unfold P9;exact It λx _=>by unfold jE M.PV;rw[Bool.and_comm]
 ·have d:=RT (λa=>PV t a&& !aN a.key f) l;have:(1099511627776:Int).toNat=1099511627776:=rfl;omega
theorem VX {f t:A2O}{l:List Pr}(s:Sorted l):Sorted (P9 f t l):=s.sublist Hc
theorem xI(k f t:A2O)(l:List Pr):Ae k (P9 f t l)=if jE f t k then Ae k l else none:=ZJ (λ_=>rfl) k l
theorem xJ(k f t:A2O): ∀a:List (List Pr),Aw k (a.map (P9 f t))=if jE f t k then Aw k a else none
 | []=>by split<;>rfl
 |l::a=>by
  rw[BT,M.Dr,M.Dr,xJ k f t a,xI];split<;>rfl
theorem xL {f t:A2O}{c:List (List Pr)}(d:bG c):bG (c.map (P9 f t)):=⟨λl a=>by
  obtain⟨x,b,rfl⟩:=List.mem_map.1 a;exact VX (d.sorted x b),λl a=>by
  obtain⟨x,b,rfl⟩:=List.mem_map.1 a;exact λe i=>d.aQ x b e (List.mem_filter.1 i).1⟩
theorem xM {f t:A2O}{a:List (List Pr)}(b:bG a):Ag (a.map (P9 f t))=P9 f t (Ag a):=
 (M.Dl _).ext (VX (M.Dl _)) λk=>by rw[M.I7 k (xL b),xJ,xI,M.I7 k b]
theorem AOz {f t:A2O}{a:List (List Pr)}(c:bG a)(b:Int):Ov t b (BM (Ag (a.map (P9 f t))))=lP (BM (Ag a)) f t b:=by
 rw[xM c];have d:BM (P9 f t (Ag a))=P9 f t (BM (Ag a)):=by unfold M.BM P9;rw[T6,T6];exact It λx _=>Bool.and_comm ..
 rw[d];unfold M.Ov lP;have h: ∀x∈P9 f t (BM (Ag a)),PV t x=true:=λx e=>by
  have:=(List.mem_filter.1 e).2;unfold jE at this;rw[A3] at this;exact this.2
 rw[qT t (VX (Tc (M.Dl _))),List.filter_eq_self.2 h]
def Rl(A:al)(h:aa)(s:Sl)(b:List (List Pr)):Prop:=
 ∃a,Own jv Be h s a/\a.length=b.length/\ ∀(i:Nat) (v:gZ) (l:List Pr),a[i]? =some v->b[i]? =some l->(∃ d,Dx A P v.v d h l/\ ∀c,d c->s.af≠some c)/\l.length<=1099511627776
theorem Dx.at {A:al}{fv:J0}{b T:Nat->Prop}{h e:aa}{l:List Pr}(d:Dx A P fv b h l)(x:Mod T h e)(f: ∀c,b c-> ¬T c):Dx A P fv b e l:=
 Dx.ai d (λ_ h=>h) (λc a=>by have:=d.1 c a;have:=x.size;omega) λc a=>x.get c (d.1 c a) (f c a)
theorem Rl.ext {A:al}{h a:aa}{s:Sl}{b:List (List Pr)}(q:Rl A h s b)(x:Ext h a):Rl A a s b:=by obtain⟨c,d,e,f⟩:=q;refine⟨c,d.ext x,e,λi v l j n=>?_⟩;obtain⟨⟨o,p,r⟩,t⟩:=f i v l j n;exact⟨⟨o,Dx.at p x (λ_ _ h=>h),r⟩,t⟩
theorem Rl.nil {A:al}{h:aa}:Rl A h ⟨none,0,0⟩ []:=⟨[],Own.nil,rfl,λi v l h=>by simp at h⟩
theorem Rl.kF {A:al}{h:aa}{s:Sl}{b:List (List Pr)}(q:Rl A h s b):M.rA A (λ_=>False) h s b:=by obtain⟨f,d,j,n⟩:=q;refine⟨f,d.view,λc a=>⟨d.lt a,λh=>h⟩,j,λi v l o p=> .inr ?_⟩;obtain⟨⟨t,e,u⟩,r⟩:=n i v l o p;exact⟨e.ai (λc a=>⟨e.1 c a,λh=>h⟩) (λc a=>a.1) (λ_ _=>rfl),r⟩
theorem Rl.one {A:al}{h a:aa}{fv:J0}{l:List Pr}{e:Nat->Prop}{b:Nat}(d:Dx A P fv e h l)(j:l.length<=1099511627776)(n:a[b]? =some (J2 #[fv] Be (0,0)))(x:Ext h a)(s:h.size<=b):Rl A a ⟨some ⟨b,0,none⟩,1,1⟩ [l]:=by
 refine⟨[⟨fv,d.one.1⟩],Own.lit (l:= [(⟨fv,d.one.1⟩:gZ)]) n rfl (by simp[maxLen]),rfl,λi v t a f=>?_⟩;have o:i=0:=by have:=(List.getElem?_eq_some_iff.1 a).1;simpa using this
 subst o;simp only[Hk,C5] at a f;subst a f;exact⟨⟨e,Dx.at d x (λ_ _ h=>h),λc p r=>by have:=d.1 c p;simp[Sl.af] at r;omega⟩,j⟩
theorem Rl.add {A:al}{h:aa}{s:Sl}{u:List (List Pr)}{fv:J0}{l:List Pr}{n:Nat->Prop}{K:Sl->aa->Prop}{F:Q7}(q:Rl A h s u)(f:Dx A P fv n h l)(G: ∀c,n c->s.af≠some c)(H:l.length<=1099511627776)(U:u.length<=1000000)
  (I: ∀a e,Rl A e a (u++ [l])->Mod (λb=>s.af=some b) h e->(∀ b,a.af=some b->s.af=some b\/h.size<=b)->K a e):
  ak h (J2 #[fv] Be) λb d=>BF A P (Builtin.append_ #[A9,A9] F #[J4 s.p s.len s.cap,J4 (some ⟨b,0,none⟩) 1 1]) d λv e=> ∃a:Sl,v=J4 a.p a.len a.cap/\K a e:=by
 obtain⟨p,J,z,w⟩:=q;refine ak.aZ (E:=jv) (x:=⟨fv,f.one.1⟩) (s:=s) (l:=p) rfl M.yi J (by omega) (by simp[maxLen];omega) λa e L B C _=>?_
 have D: ∀ {T:Nat->Prop} {y:J0} {o:List Pr},Dx A P y T h o->(∀ c,T c->s.af≠some c)-> ∃n,Dx A P y n e o/\ ∀c,n c->a.af≠some c:=λ{T} y o f r=>⟨T,Dx.at f B (λc t=>r c t),λc t N=>by
  rcases C c N with d|d
  ·exact r c t d
  ·have:=f.1 c t;omega⟩
 refine I a e ⟨p++ [⟨fv,f.one.1⟩],L,by simp[z],λi v o d j=>?_⟩ B C;by_cases O:i<p.length
 ·rw[E0 O] at d;rw[E0 (by omega)] at j;obtain⟨⟨T,Q,r⟩,S⟩:=w i v o d j;exact⟨D Q r,S⟩
 ·have w:i=p.length:=by have:=(List.getElem?_eq_some_iff.1 d).1;simp at this;omega
  subst w;rw[DB (A0 _)] at d;rw[DB (by omega)] at j;simp at d;rw[z] at j;simp at j;subst d j;exact⟨D f G,H⟩
section
variable {A : al} {g h : aa} {q : Hp} {k : Nat -> Nat} {st : Db} {m : Bx} {R : A2N}
def aE(st:Db):List (List Pr):=st.ts.map (·.2)
def CZ(st:Db):List Pr:=Kv st.fr (aE st)
theorem bJ.iJ(a:bJ g h q k st m): ∀p∈st.ts,Gg p.2:=λp c=>by
 obtain⟨i,b,rfl⟩:=DA c;have d:i<q.ps.length:=by rw[a.cY];exact b
 obtain⟨e,f,_,_,_,t⟩:=a.cL i q.ps[i] st.ts[i] (A2 d) (A2 b);exact t
theorem bJ.fQ(b:bJ g h q k st m):bG (st.fr::aE st):=by
 refine⟨λl a=>?_,λl a=>?_⟩<;>rcases List.mem_cons.1 a with rfl|a
 ·exact b.fresh.sorted
 ·obtain⟨p,c,rfl⟩:=List.mem_map.1 a;exact(b.iJ p c).aQ.1
 ·exact b.fresh.aQ
 ·obtain⟨p,c,rfl⟩:=List.mem_map.1 a;exact(b.iJ p c).aQ.2
theorem qU(f t:A2O)(l:List Pr):(P9 f t l).length<=l.length:=RT ..
theorem AQS {f t:A2O}(d:bJ g h q k st m)(aq:st.fr.length<=1000000)(ar:st.ts.length<=100000)
  (S: ∀fv e,Dx A P fv (λc=>c<e.size) e (Ag ((st.fr::aE st).map (P9 f t)))->Ext h e->R fv e):AA A P RA #[Ay q.d,J7 f,J7 t] h R:=by
 refine ADl ?_;unfold WR;refine aD (AZ.mk (AB d.cell rfl) ?_);refine M.rr d.fresh λfv j T y au=>⟨_,rfl,?_⟩
 refine M.oC (.inr T) (by rw[DE];omega) λsl av z aw B=>⟨_,rfl,?_⟩
 rw[xH d.fresh.sorted (by omega)] at z;have ax:=qU f t st.fr;refine M.rB z.view (by omega) λay U C D az=>⟨_,rfl,Xq.mk C.one.1 (ak.mk λaA _ V E aC=>?_)⟩
 have W:=Rl.one C (by omega) V E (A0 _);have F:=((y.trans B).trans D).trans E;have X:=d.on F;refine aD (AY.mk (s:=q.tp) (AB X.cell rfl) ?_);have aF:=d.cY;have Y:=d.cj.len;refine Loop.rule (λG x p=> ∃(i:Nat) (sl:Sl),x=(sl,(i:Int),())/\G=q.ps.length-i/\i<=q.ps.length/\Ext h p/\(∀ c,sl.af=some c->h.size<=c)/\Rl A p sl ((st.fr::(aE st).take i).map (P9 f t))) ?_ ⟨0,⟨some ⟨U.size,0,none⟩,1,1⟩,rfl,rfl,by omega,F,λc b=>by
  simp[Sl.af] at b;have:=((y.trans B).trans D).size;omega,by simpa using W⟩
 rintro K G _ p ⟨i,sl,rfl,rfl,aG,l,H,n⟩ Z;dsimp only;refine ae.intro (λr=>?_) (λr=>?_)
 ·have o:i<q.ps.length:=by rw[<- Y];simpa using r
  have aa:i<st.ts.length:=by omega
  have I:q.ps[i]? =some q.ps[i]:=A2 o;have J:st.ts[i]? =some st.ts[i]:=A2 aa;have ab:(aE st)[i]? =some st.ts[i].2:=by unfold aE;rw[Bs,J];rfl
  have L:=d.on l;refine L.cj.view.idx I λa _ c=>AZ.mk (Cells.pt c) ?_
  obtain⟨aH,aI,ac,ad,aJ,u⟩:=L.cL i _ _ I J;refine wL ac ad u.eG λaK aL af v aM=>⟨_,rfl,?_⟩
  have aN:=u.many;refine M.oC (.inr af) (by rw[DE];omega) λaO aP N ag O=>⟨_,rfl,?_⟩
  rw[xH u.aQ.1 (by omega)] at N;have aQ:=qU f t st.ts[i].2;refine M.rB N.view (by omega) λaR aS Q ah aT=>⟨_,rfl,Xq.mk Q.one.1 ?_⟩
  have w:=(v.trans O).trans ah;refine Rl.add (n.ext w) Q (λc b ai=>?_) (by omega) (by simp[aE];omega) λaj e al am an=>?_
  ·obtain⟨aU,ao,_,_⟩:=n;have aV:=ao.lt ai;rcases b.2 with j|j
   ·have:=(v.trans O).size;omega
   ·have:=ag c j;have:=v.size;omega
  ·rw[Aa (by omega)];refine Z (q.ps.length-(i+1)) _ _ (by omega) ⟨i+1,aj,rfl,rfl,o,?_,λc b=>?_,?_⟩
   ·exact(l.trans w).then (am.ai λc _ b=> .inr (H c b))
   ·rcases an c b with j|j
    ·exact H c j
    ·have:=l.size;have:=w.size;omega
   ·rw[AD,ab];simpa using al
 ·have o:i=q.ps.length:=by
   have: ¬i<q.tp.len:=by simpa using r
   omega
  subst o;rw[AG (by simp[aE];omega)] at n;refine M.rm n.kF (λc h=>h.elim) (by simp[aE];omega) (xL d.fQ) λfv e ap x _=>⟨_,rfl,S fv e (ap.ai (λc b=>b.1) (λc b=>b) (λ_ _=>rfl)) (l.trans x)⟩
theorem Xr(b:bJ g h q k st m){K:Bool×Unit->aa->Prop}(c:K (false,()) h):ae ((some (⟨q.d,0,none⟩:Q6)).isNone) (K (true,()) h) (At (some (⟨q.d,0,none⟩:Q6)) λa=>Ab h (a.add 8) λt=>K (t,()) h):=
 ae.no rfl (aD (Ab.mk (AB b.cell rfl) c))
theorem AO8 {f t:A2O}{d:Int}(a:bJ g h q k st m)(n:st.fr.length<=1000000)(o:st.ts.length<=100000)(E:(Ag (st.fr::aE st)).length<=1099511627776)
  (p: ∀s b,Own Ba AR b s (lP (CZ st) f t d)->(∀ c,s.af=some c->h.size<=c)->Ext h b->R (J1 #[J4 s.p s.len s.cap,J6 J9 0]) b):AA A P Oz #[Ay q.d,J7 f,J7 t,J6 J9 d] h R:=by
 refine ABy ?_;unfold Ug;refine ah.mk λK r=>Xr a (r _ _ (ae.no rfl ?_))
 refine AQS a n o λfv u v e=>⟨_,rfl,?_⟩
 refine M.rn (.inr v) λF w x i G=>⟨_,rfl,?_⟩
 have y:(BM (Ag ((st.fr::aE st).map (P9 f t)))).length<=1099511627776:=by rw[xM a.fQ];have u:=qM (P9 f t (Ag (st.fr::aE st)));have w:=qU f t (Ag (st.fr::aE st));omega
 refine M.oC (.inr x) y λj z l B C=>⟨j,rfl,?_⟩
 rw[AOz a.fQ] at l;exact p j z l (λc D=>by have:=B c D;have:=(e.trans i).size;omega) ((e.trans i).trans C)
theorem xN(key:A2O): ∀ {l:List Pr},Sorted l->M.ML key l=UR key l
 | [],_=>rfl
 |x::l,s=>by
  have a:=List.pairwise_cons.1 s;have b:=xN key a.2;unfold M.ML UR at b ⊢;rw[XP,M.BC];by_cases h:aN x.key key=true
  ·rw[if_pos h,if_neg (M.Nk h),PB];exact b
  ·rw[if_neg h,Hk];by_cases c:x.key=key
   ·simp[c]
   ·have d:Ae key l=none:=M.ER λe f i=>h (by
     have:=a.1 e f;rwa [i] at this)
    simp[c,d]
def JH(m:List Pr)(key:A2O):A2O×Bool:=match Ae key m with|some p=>(p.val,true)|none=>(⟨#[]⟩,false)
theorem xO {key:A2O}(d:bJ g h q k st m)(an:st.ts.length<=100000)(L:key.size<=1099511627776)
  (v: ∀C,Ext h C->R (J1 #[J7 (JH (CZ st) key).1,J3 (JH (CZ st) key).2,J6 J9 0]) C):AA A P NM #[Ay q.d,J7 key] h R:=by
 refine ADX ?_;unfold Vw;refine ah.mk λK N=>Xr d (N _ _ (ae.no rfl ?_))
 refine aD (AZ.mk (AB d.cell rfl) ?_);have D: ∀p,(Ae key st.fr).or (Aw key (aE st))=some p->JH (CZ st) key=(p.val, !p.gone):=λp f=>by
  have e:Ae key (CZ st)=alive (some p):=by unfold CZ;rw[GH key d.fQ,f]
  unfold JH;rw[e,Ip];cases O:p.gone with
  |false=>rfl
  |true=>
   have Q:Aj p=0:=by
    cases j:Ae key st.fr with
    |some x=>
     rw[j] at f;simp only[Option.some_or,C5] at f;subst f;exact d.fresh.aQ x (M.NT j).2
    |none=>
     rw[j,LN] at f;unfold M.Aw at f;obtain⟨l,S,T⟩:=A0f f;exact d.fQ.aQ l (An _ S) p (M.NT T).2
   have U:=(nN Q).gone O;show((⟨#[]⟩:A2O),false)=(p.val, !true);rw[Yr U];rfl
 have V:(Ae key st.fr).or (Aw key (aE st))=none->JH (CZ st) key=(⟨#[]⟩,false):=λf=>by
  have e:Ae key (CZ st)=alive none:=by unfold CZ;rw[GH key d.fQ,f]
  unfold JH;rw[e];rfl
 refine M.yj d.fresh λao W=>⟨_,_,_,_,rfl,?_⟩
 rw[xN key d.fresh.sorted];refine ak.pair λb X _ n Y ap=>?_
 have w:=W.trans Y;cases j:Ae key st.fr with
 |some p=>
  have e:UR key st.fr=(p,true):=by unfold UR;rw[j]
  rw[e] at n ⊢;refine ae.yes rfl (AJ.mk (AB n rfl) (Ab.mk (AB n rfl) ?_));have:=v X w;rw[D p (by rw[j];rfl)] at this;exact this
 |none=>
  have e:UR key st.fr=(M.TL,false):=by unfold UR;rw[j]
  rw[e] at n ⊢;refine ae.no rfl ?_;have Z:=d.on w;refine aD (AY.mk (s:=q.tp) (AB Z.cell rfl) ?_);have aq:=d.cY;have aa:=d.cj.len;refine Loop.rule (λE x y=> ∃i:Nat,x=((i:Int),())/\E=q.ps.length-i/\i<=q.ps.length/\Ext h y/\Aw key ((aE st).take i)=none) ?_ ⟨0,rfl,rfl,by omega,w,rfl⟩;rintro ar E _ y ⟨i,rfl,rfl,au,z,o⟩ ab;dsimp only;refine ae.intro (λB=>?_) (λB=>?_)
  ·have r:i<q.ps.length:=by rw[<- aa];simpa using B
   have ac:i<st.ts.length:=by omega
   have F:q.ps[i]? =some q.ps[i]:=A2 r;have G:st.ts[i]? =some st.ts[i]:=A2 ac;have ad:(aE st)[i]? =some st.ts[i].2:=by unfold aE;rw[Bs,G];rfl
   have H:=d.on z;refine H.cj.view.idx F λa _ c=>AZ.mk (Cells.pt c) ?_
   obtain⟨av,aw,af,ax,ay,ag⟩:=H.cL i _ _ F G;refine APY af ag.eG L λaz ai=>⟨_,_,_,_,rfl,?_⟩
   refine ak.pair λaA aj _ t al aC=>?_
   have I:=(z.trans ai).trans al;have J:(aE st).take (i+1)=(aE st).take i++ [st.ts[i].2]:=by rw[AD,ad];rfl
   have am:Aw key (aE st)=(Ae key st.ts[i].2).or (Aw key ((aE st).drop (i+1))):=by
    conv=>lhs;rw[<- DM (i+1) (aE st),J]
    rw[M.PN,M.PN,o,M.Dr];have:Aw key ([]:List (List Pr))=none:=rfl;rw[this,Option.or_none,LN]
   cases u:Ae key st.ts[i].2 with
   |some p=>
    have e:UR key st.ts[i].2=(p,true):=by unfold UR;rw[u]
    rw[e] at t ⊢;refine ae.yes rfl (AJ.mk (AB t rfl) (Ab.mk (AB t rfl) ?_));have:=v aj I;rw[D p (by rw[j,am,u];rfl)] at this;exact this
   |none=>
    have e:UR key st.ts[i].2=(M.TL,false):=by unfold UR;rw[u]
    rw[e] at t ⊢;refine ae.no rfl ?_;rw[Aa (by omega)];refine ab (q.ps.length-(i+1)) _ _ (by omega) ⟨i+1,rfl,rfl,r,I,?_⟩;rw[J,M.PN,o,M.Dr,u];rfl
  ·have r:i=q.ps.length:=by
    have: ¬i<q.tp.len:=by simpa using B
    omega
   subst r;rw[AG (by simp[aE];omega)] at o;have:=v y z;rw[V (by rw[j,o];rfl)] at this;exact this
end
end Go.Lf.G
