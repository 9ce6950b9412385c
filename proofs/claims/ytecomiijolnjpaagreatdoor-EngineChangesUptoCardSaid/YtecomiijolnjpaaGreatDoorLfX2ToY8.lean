/-
 Contracts: frames scanned, a log's segments, a log opened (chapters 2 and 4).
-/
import Derived.Test.YtecomiijolnjpaaGreatDoorLfU2ToS3
import Derived.Test.YtecomiijolnjpaaGreatDoorLfG1
import Derived.Laws.StructEq
import Derived.ChangeKeysEq
set_option maxRecDepth 100000
set_option linter.unusedVariables false
set_option linter.unusedSimpArgs false
open Go.IntKind renaming i64→J9,wrap→J8
open Go.Value renaming string→J7,int→J6,pointer→J5,slice→J4,bool→J3,tuple→J1
open Go.Obj renaming cells→J2
open Go renaming Value→J0,Addr→Q6,TypeId→Q7,FuncId→Q8,Program→Q1
open Go.Addr renaming add→Q9,mk→Q5
namespace Go.Lf.G
open Go
theorem xA:Pi P CB Az IV.w 16=true:=by kernel_rfl
theorem ra:Pi P Ct Bb IE.w 8=true:=by kernel_rfl
theorem AGk {l:List UInt8}{b:List (List UInt8)}(a:Mi l b):b.length<=l.length:=by
 induction a with
 |stop a=>exact AD _
 |step a s c=>have:=Zj a;simp only[A5];omega
theorem strL_bl(s:A2P):AX (bl s)=s:=by cases s;simp[AX]
theorem AOf {p:al}{a:aa}{s:A2P}{k:A2O}(A:s.size<=8000000000000)
  (q: ∀e sl r,Ext a e->View IV e sl ((kH (bl s)).map AX)->k (J1 #[J4 sl.p sl.len sl.cap,J6 J9 r]) e):AA p P Ki #[J7 s] a k:=by
 refine Va ?_;unfold RA;refine Loop.rule (λm x g=> ∃(sl:Sl) (dn b:List (List UInt8)) (l:List UInt8),x=(sl,AX l,())/\Ext a g/\Own IV Az g sl (dn.map AX)/\(∀ c,sl.af=some c->a.size<=c)/\Mi l b/\kH (bl s)=dn++b/\dn.length+l.length<=s.size/\m=l.length) ?_
  ⟨⟨none,0,0⟩,[],_,bl s,by rw[strL_bl],Mod.refl,Own.nil,λc h=>by simp[Sl.af] at h,qC _,rfl,by rw[BA];simp,rfl⟩
 rintro K m _ g ⟨sl,dn,b,l,rfl,x,n,f,i,j,B,rfl⟩ t;refine wX (by omega) λu d=>⟨_,_,_,rfl,?_⟩
 cases i with
 |stop o=>
  refine ae.no (by simp;omega) ?_;rw[AM] at j;exact q u sl _ (x.trans d) (by rw[j];exact(n.ext d).view)
 |step o i=>
  rename_i b;refine ae.yes (by simp;omega) ?_;have C:=Zj o;refine ak.aY (E:=IV) (x:=AX (Gp l).2.1) (s:=sl) (l:=dn.map AX) rfl xA (n.ext d) (by simp;omega) (by simp[maxLen];omega) λv D w y z F=>?_
  refine t (Gp l).2.2.length _ _ (by omega) ⟨v,dn++ [(Gp l).2.1],b,(Gp l).2.2,rfl,(x.trans d).more y f,?_,λc h=>?_,i,by rw[j];simp,by simp;omega,rfl⟩
  ·rw[CH];exact w
  ·rcases z c h with a|a
   ·exact f c a
   ·have:=x.size;have:=d.size;omega
theorem AQK {m:al}{c:aa}{s:Sl}{l:List Int}{t:A2O}(u:Own IE Bb c s l)(O:l.length<=8796093022208)
  (w: ∀n,View IE n s (l.mergeSort λx d=>decide (x<=d))->Mod (λb=>s.af=some b) c n->t (J1 #[]) n):AA m P Iy #[J4 s.p s.len s.cap] c t:=by
 intro j;have y:=u.len;rcases u.row with⟨rfl,rfl⟩|⟨g,o,p,h,B,Q,C,z⟩
 ·refine Calls.mono (Proofs.AnyM.slices_Sort_int_none Proofs.Tryz.iK none 0 (m.at c j)) ?_;rintro k D ⟨rfl,rfl⟩;exact⟨_,rfl,c,j,rfl,w c (by simpa using View.nil) Mod.refl⟩
 ·rw[p,y];have q:IE.w=1:=rfl;rw[q,Bk] at C z;have F: ∀a x,l[a]? =some x->o[a]? =some (Value.int J9 x):=λa x e=>by
   have f:=dt (E:=IE) e 0 (J6 J9 x) rfl;rw[<- z,q,Bk,Gk,Fo] at f;split at f
   ·simpa using f
   ·cases f
  refine Calls.mono (Proofs.AnyM.slices_Sort_int Proofs.Tryz.iK g 0 s.cap l (m.at c j) ?_ (Af h) (by omega)) ?_
  ·intro a e;have e:a<l.length:=by simpa using e
   have f:=F a l[a] (A2 e);have G:l.toArray[a]! =l[a]:=by simp[e]
   refine⟨?_,?_⟩
   ·show ag c ⟨g,0+a,none⟩=_;unfold ag;rw[h];simp only[Option.isSome_none,Cl,if_false,AI,G,f]
   ·show fW c ⟨g,0+a,none⟩=false;unfold fW;rw[h];simp
  ·rintro k D ⟨rfl,H,os,rfl⟩;have I:(c.modify g (Sort.onCells (Sort.putCells (Value.int J9) 0 (l.mergeSort λx d=>decide (x<=d)).toArray))++os)[g]? =some (J2 (Sort.putCells (Value.int J9) 0 (l.mergeSort λx d=>decide (x<=d)).toArray o) Bb (0,0)):=by rw[MA (by simpa using Af h),GP,if_pos rfl,h];rfl
   refine⟨_,rfl,c.modify g (Sort.onCells (Sort.putCells (Value.int J9) 0 (l.mergeSort λx d=>decide (x<=d)).toArray))++os,j+H,rfl,w _ ⟨?_,B,λa x e=>⟨⟨g,0,none⟩,p,λi v r=>?_⟩⟩ ⟨by simp,λb J K=>?_⟩⟩
   ·rw[A0S];exact y
   ·have L:i=0:=by have:=(List.getElem?_eq_some_iff.1 r).1;have k:(IE.enc x).length=1:=rfl;omega
    subst L;simp only[IE,HA,BY] at r;subst r;have A:a<(l.mergeSort λx d=>decide (x<=d)).length:=(List.getElem?_eq_some_iff.1 e).1;have M:a<o.size:=by rw[A0S] at A;omega
    rw[q,Bk,Ba,Ba,AI,Gk];unfold ag;rw[I];simp only[Option.isSome_none,Cl,if_false,Sort.putCells,Array.getElem?_mapIdx];rw[CD M,HN,if_pos ⟨AD _,by simpa using A⟩];have:(l.mergeSort λx d=>decide (x<=d)).toArray[a-0]! =x:=by rw[HD];simp[e]
    rw[this]
   ·have N:g≠b:=λk=>K (by rw[Sl.af,p,k];rfl)
    rw[MA (by simpa using J),GP,if_neg N]
structure mg (nm:A2P) (m:Bx) (l:List Nat):Prop where
 inc:l.Pairwise (· < ·)
 mem: ∀n,n∈l↔1<=n/\n<=99999999/\(Cb (aD nm n) m.files).isSome=true
theorem xC {k:A2P}{l:List Fi}:(Cb k l).isSome=true↔k∈l.map (·.name):=by
 constructor
 ·intro a;cases b:Cb k l with
  |none=>rw[b] at a;cases a
  |some f=>
   obtain⟨c,d⟩:=Jy b;exact List.mem_map.2 ⟨f,d,c⟩
 ·intro a;obtain⟨f,c,d⟩:=List.mem_map.1 a;cases b:Cb k l with
  |none=>exact absurd d (RY b f c)
  |some f=>rfl
theorem xD {m:Bx}(g:Gu m):(m.files.map (·.name)).Nodup:=List.pairwise_map.2 (g.sorted.imp λa=>OD a)
theorem AIx {ns:List Nat}(n:ns.Nodup): ∃l:List Nat,((ns.map λd:Nat=>(d:Int)).mergeSort λx e=>decide (x<=e))=l.map (λd:Nat=>(d:Int))/\l.Pairwise (· < ·)/\ ∀d,d∈l↔d∈ns:=by
 have f:=List.mergeSort_perm (ns.map λd:Nat=>(d:Int)) (λx e=>decide (x<=e));have k:((ns.map λd:Nat=>(d:Int)).mergeSort λx e=>decide (x<=e)).Pairwise (λx e=>decide (x<=e)=true):=
  List.pairwise_mergeSort (λa b c o h=>by simp at o h ⊢;omega) (λa b=>by simp;omega) _
 generalize (ns.map λd:Nat=>(d:Int)).mergeSort (λx e=>decide (x<=e))=L at f k;have i: ∀x∈L,((x.toNat:Nat):Int)=x:=λx g=>by
  obtain⟨d,_,rfl⟩:=List.mem_map.1 (f.subset g);simp
 have p:L=(L.map Int.toNat).map (λd:Nat=>(d:Int)):=by
  rw[AT]
  conv=>lhs;rw[<- Lo L]
  exact CM λx g=>(i x g).symm
 have q:L.Nodup:=f.symm.nodup (by
  rw[T4,NX];exact(List.nodup_iff_pairwise_ne.1 n).imp λr s=>r (by exact_mod_cast s))
 refine⟨L.map Int.toNat,p,?_,λd=>?_⟩
 ·rw[NX];have h:L.Pairwise λx e=>decide (x<=e)=true/\x≠e:=k.and (List.nodup_iff_pairwise_ne.1 q)
  refine h.imp_of_mem λ{a c} t u m=>?_
  have w:=i a t;have y:=i c u;have z:a<=c:=of_decide_eq_true m.1;have A:=m.2;omega
 ·constructor
  ·intro j;obtain⟨x,g,rfl⟩:=List.mem_map.1 j;obtain⟨B,v,rfl⟩:=List.mem_map.1 (f.subset g);simpa using v
  ·intro j;exact List.mem_map.2 ⟨(d:Int),f.symm.subset (List.mem_map.2 ⟨d,j,rfl⟩),by simp⟩
theorem xE {S:al}{h:aa}{b:Nat}{T:Nat->Prop}{m:Bx}{j:A2P}{N:A2O}(E:cj h)(D:Cm h b T m)(hd:m.down=false)(U:j.size<=1099511627776)(aL:bg m.files<=8000000000000)
  (V: ∀k s (l:List Nat),mg j m l->View IE k s (l.map λe:Nat=>(e:Int))->Ext h k->(∀ c,s.af=some c->h.size<=c)->N (J1 #[J4 s.p s.len s.cap,J6 J9 0]) k):AA S P KU #[Ap b,J7 j] h N:=by
 refine AA1 ?_;unfold Tn;refine uK D λs n F y aM=>⟨s,_,rfl,?_⟩
 have W:jN m=(m.files.map (·.name),0):=by unfold jN;rw[if_neg (by simp[hd])]
 rw[W] at F ⊢;refine ae.no rfl ?_;have X:=xD D.aC;have Y: ∀d∈m.files.map (·.name),d.size<=32:=λd g=>by
  obtain⟨f,Z,rfl⟩:=List.mem_map.1 g;exact D.aC.names f Z
 have aN:(m.files.map (·.name)).length<=8000000000000:=by have:=Uc m.files;simp;omega
 have ab: ∀d,(Cb d m.files).isSome=true↔d∈m.files.map (·.name):=λd=>xC
 dsimp only at F;generalize m.files.map (·.name)=names at*
 have v1:=F.view;refine Loop.rule (λO x G=> ∃(i:Nat) (sl:Sl) (ns:List Nat),x=(sl,(i:Int),())/\Ext n G/\Own IE Bb G sl (ns.map λe:Nat=>(e:Int))/\(∀ c,sl.af=some c->n.size<=c)/\i<=names.length/\ns.length<=i/\(ns.map (aD j)).Sublist (names.take i)/\(∀ e∈ns,1<=e/\e<=99999999)/\(∀ d:Nat,1<=d->d<=99999999->aD j d∈names.take i->d∈ns)/\O=names.length-i) ?_
  ⟨0,⟨none,0,0⟩,[],rfl,Mod.refl,Own.nil,λc o=>by simp[Sl.af] at o,AD _,A0 _,by simp,by simp,by simp,rfl⟩
 rintro K O _ G ⟨i,sl,ns,rfl,r,H,f,aO,aP,u,I,z,rfl⟩ ac;rw[v1.len];refine ae.intro (λJ=>?_) (λJ=>?_)
 ·have v:i<names.length:=by simpa using J
  refine ah.mk λad af=>?_
  have ag:names[i]? =some names[i]:=A2 v;rw[<- v1.len];refine(v1.ext r).idx ag λa _ c=>?_
  refine AJ.mk c.str ?_;refine ALy ((E.ext y).ext r) U (by have:=Y names[i] (AW v);omega) λai e w aj am=>⟨_,rfl,?_⟩
  have A:names.take (i+1)=names.take i++ [names[i]]:=by rw[Ax,ag];rfl
  have Q: ∀(p:Sl) (q:List Nat) (k:aa),Ext n k->Own IE Bb k p (q.map λe:Nat=>(e:Int))->(∀ c,p.af=some c->n.size<=c)->q.length<=i+1->(q.map (aD j)).Sublist (names.take (i+1))->(∀ e∈q,1<=e/\e<=99999999)->(∀ d:Nat,1<=d->d<=99999999->aD j d∈names.take (i+1)->d∈q)->ad (p,()) k:=λp q k an ao ap aq ar au av=>by
   refine af _ _ ?_;dsimp only;rw[Ab (by omega)];exact ac (names.length-(i+1)) _ _ (by omega) ⟨i+1,p,q,rfl,an,ao,ap,v,aq,ar,au,av,rfl⟩
  by_cases t:e=0
  ·refine ae.no (by simp[t]) (Q sl ns ai (r.trans w) (H.ext w) f (by omega) ?_ I ?_)
   ·rw[A];exact u.trans (List.sublist_append_left _ _)
   ·intro d B C g;rw[A] at g;rcases List.mem_append.1 g with g|g
    ·exact z d B C g
    ·exact absurd (List.mem_singleton.1 g).symm (aj t d B C)
  ·refine ae.yes (by simp;omega) ?_;obtain⟨aQ,ne⟩:=am t;refine ak.aY (E:=IE) (x:=(e:Int)) (s:=sl) (l:=ns.map λe:Nat=>(e:Int)) rfl ra (H.ext w) (by simp;omega) (by simp[maxLen];omega) λp aw ax ay az _=>?_
   refine Q p (ns++ [e]) aw ((r.trans w).more ay f) (by rw[CH];exact ax) (λc o=>?_) (by simp;omega) ?_ ?_ ?_
   ·rcases az c o with h|h
    ·exact f c h
    ·have:=r.size;have:=w.size;omega
   ·rw[A,CH];have aA: [e].map (aD j)= [names[i]]:=by rw[ne];rfl
    rw[aA];exact u.append (List.Sublist.refl _)
   ·intro d g;rcases List.mem_append.1 g with g|g
    ·exact I d g
    ·rw[List.mem_singleton.1 g];omega
   ·intro d B C g;rw[A] at g;rcases List.mem_append.1 g with g|g
    ·exact List.mem_append.2 (.inl (z d B C g))
    ·have:=Ib ((List.mem_singleton.1 g).trans ne);exact List.mem_append.2 (.inr (by simp[this]))
 ·have v:i=names.length:=by simp at J;omega
  subst v;rw[C5] at u z;have aC:ns.Nodup:=by have n:=u.nodup X;rw[T4,NX] at n;rw[T4];exact n.imp λh aE=>h (by rw[aE])
  obtain⟨l,aF,aG,aH⟩:=AIx aC;refine AQK H (by simp;omega) λaI R aJ=>⟨rfl,?_⟩
  rw[aF] at R;refine V aI sl l ⟨aG,λe=>?_⟩ R ((y.trans r).more aJ λc o=>by have:=f c o;have:=y.size;omega) λc o=>by have:=f c o;have:=y.size;omega
  rw[aH,ab];constructor
  ·intro t;obtain⟨L,M⟩:=I e t;exact⟨L,M,u.subset (List.mem_map.2 ⟨e,t,rfl⟩)⟩
  ·rintro⟨L,M,aK⟩;exact z e L M aK
structure bR (h:aa) (t:Nat) (l:List Pr) (f:List UInt8) (lo hi:Nat):Prop where
 at_: ∃fs bs:Sl,h[t]? =some (J2 #[J4 fs.p fs.len fs.cap,J4 bs.p bs.len bs.cap,J7 (AX f),J6 J9 (l.length:Int)] Ls (0,0))/\View IV h fs (CG l)/\View IV h bs ((KP l).map λb=>AX (BK b))/\
  (∀ c,fs.af=some c->lo<=c/\c<hi)/\(∀ c,bs.af=some c->lo<=c/\c<hi)
 fw:lo<=t/\t<hi
theorem bR.mod {i j:aa}{t:Nat}{l:List Pr}{f:List UInt8}{b d:Nat}{k:Nat->Prop}(T:bR i t l f b d)(m:Mod k i j)(e: ∀c,b<=c->c<d-> ¬k c):bR j t l f b d:=by obtain⟨n,o,p,q,r,g,h⟩:=T.at_;exact⟨⟨n,o,m.af p (e t T.fw.1 T.fw.2),q.mod m (λc a=>e c (g c a).1 (g c a).2),r.mod m (λc a=>e c (h c a).1 (h c a).2),g,h⟩,T.fw⟩
theorem bR.ext {a b:aa}{t:Nat}{l:List Pr}{f:List UInt8}{c d:Nat}(T:bR a t l f c d)(m:Ext a b):bR b t l f c d:=T.mod m λ_ _ _ a=>a
theorem WX(a:List UInt8)(b:List (List UInt8)):aI (a::b)=Cj a++aI b:=rfl
theorem AMt {w:al}{b:aa}{a:List (List UInt8)}{q:A2O}(l: ∀f∈a,f.length<=1048576)(y:(aI a).length<=1099511627776)
  (r: ∀h sl,Ext b h->View IV h sl (a.map AX)->(∀ c,sl.af=some c->b.size<=c/\c<h.size)->q (J1 #[J4 sl.p sl.len sl.cap,J6 J9 ((aI a).length:Int)]) h):AA w P Ki #[J7 (AX (aI a))] b q:=by
 refine Va ?_;unfold RA;refine Loop.rule (λm x n=> ∃(i:Nat) (sl:Sl),x=(sl,AX (aI (a.drop i)),())/\m=a.length-i/\i<=a.length/\Ext b n/\Own IV Az n sl ((a.take i).map AX)/\(∀ c,sl.af=some c->b.size<=c)) ?_
  ⟨0,⟨none,0,0⟩,rfl,rfl,by omega,Mod.refl,Own.nil,λc d=>by simp[Sl.af] at d⟩
 rintro K m _ n ⟨i,sl,rfl,rfl,z,o,g,p⟩ t;dsimp only;have O:a.length<=(aI a).length:=by
  clear y r z g t
  induction a with
  |nil=>simp
  |cons f a A=>
   have Q:=(JK (l f AN)).1;have:=A λx j=>l x (An _ j)
   simp only[aI,AH,A1,A5] at this ⊢;omega
 have B:(aI (a.drop i)).length<=1099511627776:=by
  have C:aI a=aI (a.take i)++aI (a.drop i):=by unfold aI;rw[<- GC,DP]
  have:=congrArg List.length C;rw[A1] at this;omega
 refine wX (AF B (by decide)) λD e=>⟨_,_,_,rfl,?_⟩
 by_cases k:i<a.length
 ·have j:a[i]? =some a[i]:=A2 k;have u:=l _ (AW k);have hd:a.drop i=a[i]::a.drop (i+1):=FF k;have v:=TQ j;generalize a[i]=f at j u hd v;rw[hd,WX,wI u];refine ae.yes rfl ?_;refine ak.aY (E:=IV) (x:=AX f) (s:=sl) rfl rj (g.ext e) (by simp only[BE,AE];omega) (by simp only[BE,AE,maxLen];omega) λF R G H I S=>?_
  refine t (a.length-(i+1)) _ _ (by omega) ⟨i+1,F,rfl,rfl,k,(o.trans e).more H p,?_,λc d=>?_⟩
  ·rw[v,CH];exact G
  ·rcases I c d with b|b
   ·exact p c b
   ·have:=o.size;have:=e.size;omega
 ·have J:a.drop i= []:=HE (by omega);have L:a.take i=a:=AG (by omega);rw[J];rw[L] at g;have M:=TT;refine ae.no (by simp only[aI,List.flatMap_nil];simpa using M) ?_;have N:J8 J9 (((AX (aI a)).size:Int)-((AX (aI [])).size:Int))=((aI a).length:Int):=by rw[AP,AP];show J8 J9 (((aI a).length:Int)-((0:Nat):Int))=_;rw[wrap_i64 (by omega) (by omega)];omega
  rw[N];exact r D sl (o.trans e) (g.ext e).view λc d=>⟨p c d,(g.ext e).lt d⟩
def YD(l:List Pr)(a:Nat):A2P:=match a with|0=>⟨#[]⟩|a+1=>Ip l a
theorem AQS {l:List Pr}(h: ∀p∈l,Kw p)(i:l.Pairwise λp j=>aO p.key j.key=true){a:Nat}{p:Pr}(b:l[a]? =some p):(aO p.key (YD l a)||bL p.key (YD l a))=false:=by
 have d:aO (YD l a) p.key=true:=by
  cases a with
  |zero=>
   have:=(h p (AK b)).key;unfold YD;rw[YT];have k:bl p.key≠ []:=by intro e;have:=BA p.key;rw[e] at this;simp at this;omega
   cases f:bl p.key with
   |nil=>exact absurd f k
   |cons c t=>
    simp only[decide_eq_true_eq];show([]:List UInt8)<bl p.key;rw[f];exact List.nil_lt_cons c t
  |succ a=>
   have m:a<l.length:=by have:=(List.getElem?_eq_some_iff.1 b).1;omega
   have g:l[a]? =some l[a]:=A2 m;have:=xZ i g b;show aO (Ip l a) p.key=true;unfold Ip;rw[g];exact this
 rw[Hk];refine⟨?_,?_⟩
 ·cases n:aO p.key (YD l a) with
  |false=>rfl
  |true=>have:=DJ d n;rw[Bo] at this;cases this
 ·rw[CY,decide_eq_false_iff_not];intro e;rw[e,Bo] at d;cases d
theorem APF {a N:Nat}(b:a=N+1)(c:N<=1099511627776):J8 J9 (((a:Nat):Int)-(1:Int))=((N:Nat):Int):=by subst b;rw[wrap_i64 (by omega) (by omega)];omega
theorem gP.jo {s:List UInt8}{l:List Pr}{f:List UInt8}(T:gP s l f):(aI (aR l f)).length<=1099511627776:=by
 have:=UQ (NK T);have b:=T.many;have a:(aR l f).length=Bn l+1:=by simp[aR,Gr]
 have c:Bn l<=12501:=by unfold Bn;omega
 rw[a] at this;have d:(Bn l+1)*1048590<=12502*1048590:=AS _ (by omega);omega
theorem y5 {bm:al}{e:aa}{l:List Pr}{f:List UInt8}{aN:A2O}(T:gP (aI (aR l f)) l f)
  (bn: ∀S t,Ext e S->bR S t l f e.size S.size->aN (J1 #[Ap t,J6 J9 0]) S):AA bm P NV #[J7 (AX (aI (aR l f)))] e aN:=by
 refine AEE ?_;unfold YC;have ck:=vx T.ne;have cl:=T.many;have cm:Bn l<=12501:=by unfold Bn;omega
 have aO:=T.jm;refine AMt (NK T) (gP.jo T) λh sl D v1 aP=>⟨sl,_,rfl,?_⟩
 have aQ:sl.len=Bn l+1:=by rw[v1.len];simp[aR,Gr]
 have cn:=v1.cap;rw[APF aQ (by omega)];refine ah.mk λK aS=>?_
 refine ae.no (by rw[AP];simp) ?_;refine aS _ _ (ae.no (by rw[aQ];simp;omega) ?_);clear aS;simp only[A6,HD];refine⟨⟨by omega,by omega⟩,?_⟩;have bo:((aR l f).map AX)[Bn l]? =some (AX (VB l f)):=by rw[Bm];unfold aR;rw[DE (by simp[Gr])];simp[Gr]
 refine v1.idx bo λa ai d=>?_
 refine AJ.mk d.str ?_;have aT:=XZ T;refine KY λaU aV U=>⟨_,rfl,?_⟩
 have V: ∀ {e:aa} {s:Sl} {ks:List A2P},Own IV Az e s ks-> ∀ {c:Nat} {aW:Rd},Ir e c aW->s.af≠some c:=λbp c aW bq=>bp.ne bq (by decide)
 refine ak.mk λW _ br F co=>?_
 have aX:Ir W h.size _:=Ai F aV;have cp:=AV (n:=Bn l) (by omega);have bs:VB l f=BX (Bn l)++(Gn (CG l)++(BX l.length++BP f)):=by unfold VB Gn;simp only[A4]
 rw[bs] at aX aT;have cq:=AV (n:=l.length) (by omega);have cr:(BP f).length=(BX f.length).length+f.length:=by simp[BP]
 have cs:=AV (n:=f.length) (by omega);have bt:=QN (ks:=CG l) (Oc T.ok);rw[HZ] at bt;refine DW (most:=Bn l) aX (AF aT (by decide)) (by omega) λbu aj am=>⟨_,rfl,?_⟩
 rw[Ci (by omega) (A0 _)] at aj ⊢;dsimp only at aj ⊢;refine ae.no (by simp) ?_;have ct:h.size<aU.size:=Af aV;have bv:=am.af br (by omega);have X:Ext e W:=(D.trans U).trans F;have cu:Ext e bu:=X.more am (λb bw=>by rw[bw];exact D.size);have aY: ∀ {g:aa},(∀ c,sl.af=some c->g[c]? =h[c]?)->View IV g ⟨A7 sl.p sl.cap 0 1,Bn l,sl.cap⟩ ((KP l).map λb=>AX (BK b)):=by
  intro g d;have v:View IV g sl ((aR l f).map AX):=⟨v1.len,v1.cap,λi x hi=>by
   obtain⟨a,ai,bx⟩:=v1.cells i x hi;refine⟨a,ai,λj v aZ=>?_⟩;rw[<- bx j v aZ];exact QD (by rw[aM,aM];exact d _ (by simp[Sl.af,ai]))⟩
  have:=v.sub (lo:=0) (hi:=Bn l) (AD _) (by simp[aR,Gr]);have G:(((aR l f).map AX).take (Bn l)).drop 0=(KP l).map λb=>AX (BK b):=by rw[On,List.map_take.symm];unfold aR;rw[OF (by simp[Gr]),AG (by simp[Gr]),AT];rfl
  rw[G] at this;exact this
 generalize cv:aU.size=r at*
 refine Loop.rule (λm x g=> ∃(i:Nat) (o:Sl),x=((i:Int),())/\m=Bn l-i/\i<=Bn l/\Ir g h.size ⟨Gn ((CG l).drop i)++(BX l.length++BP f),false⟩/\
  g[r]? =some (J2 #[J4 o.p o.len o.cap,J4 (A7 sl.p sl.cap 0 1) (Bn l) sl.cap,J7 ⟨#[]⟩,J6 J9 0] Ls (0,0))/\Own IV Az g o ((CG l).take i)/\(∀ c,o.af=some c->r<c)/\
  Mod (λc=>c=h.size\/r<=c) W g) ?_ ⟨0,⟨none,0,0⟩,rfl,rfl,by omega,aj,bv,Own.nil,λc d=>by simp[Sl.af] at d,am.ai λc _ d=> .inl d⟩
 rintro cw m _ a0 ⟨i,o,rfl,rfl,hi,y,an,H,B,a1⟩ a2;dsimp only;refine ae.intro (λq=>?_) (λq=>?_)
 ·have I:i<Bn l:=by simp at q;omega
  refine AY.mk (s:=o) (AL an rfl) ?_;have u:=Qo I;have hd:(CG l).drop i=Ip l (8*i)::(CG l).drop (i+1):=by
   have a3:i<(CG l).length:=by rw[HZ];exact I
   rw[FF a3];congr 1;rw[A2 a3] at u;exact BT u
  have a4:=TQ u;have a5:=Oc T.ok _ (AK u);generalize Ip l (8*i)=k at u hd a4 a5;have bz:Gn ((CG l).drop i)++(BX l.length++BP f)=BP (bl k)++(Gn ((CG l).drop (i+1))++(BX l.length++BP f)):=by rw[hd];simp[Gn]
  have bA:=QN (ks:=(CG l).drop i) λk bB=>Oc T.ok k (HW bB)
  rw[DG,HZ] at bA;have a6:(Gn ((CG l).drop i)++(BX l.length++BP f)).length<1099511627776:=by simp only[A1];omega
  rw[bz] at y a6;refine IP y a6 λJ Y ao=>⟨_,rfl,?_⟩
  rw[JQ (by rw[BA];omega)] at Y ⊢;dsimp only at Y ⊢;rw[EE];have Z:=ao.af an (by omega);have ap:=H.mod ao (λc d e=>V H y (e▸d));refine⟨AL Z rfl,?_⟩;refine ak.mk λbC _ bD L cx=>⟨AL (Ai L Z) rfl,?_⟩
  have bE:Own IV Az bC ⟨some ⟨J.size,0,none⟩,1,1⟩ [k]:=Own.lit (E:=IV) (l:= [k]) bD rfl (by simp[maxLen]);refine GX (s:=o) (src:=⟨some ⟨J.size,0,none⟩,1,1⟩) rj (ap.ext L) bE.view (by simp only[AE,CN];omega) (by simp only[AE,CN,maxLen];omega) λa7 cy bF aq bG cz=>?_
  have cB:r<J.size:=Af Z;have cC: ∀c,o.af=some c->c<J.size:=λc d=>ap.lt d
  have bI:=aq.af (Ai L Z) (λe=>by have:=B _ e;omega);refine ab.mk bI (by simp) λcD bJ ar cE=>?_
  have a8: ∀c,a7.af=some c->r<c:=λc d=>by
   rcases bG c d with e|e
   ·exact B c e
   ·omega
  rw[Ab (by omega)];refine a2 (Bn l-(i+1)) _ _ (by omega) ⟨i+1,a7,rfl,rfl,I,?_,by simpa using bJ,?_,a8,?_⟩
  ·refine ar.af (aq.af (Ai L Y) λe=>?_) (by omega);exact V ap Y e
  ·rw[a4];exact bF.mod ar (λc d e=>by have:=a8 c d;omega)
  ·have ac:Mod (λc=>c=h.size\/r<=c) a0 J:=ao.ai λc _ d=> .inl d
   exact(((a1.trans ac).trans L.mod).trans (aq.ai λc _ d=> .inr (by have:=B c d;omega))).trans (ar.ai λc _ d=> .inr (by omega))
 ·have I:i=Bn l:=by simp at q;omega
  subst I;clear a2;have bK:(CG l).drop (Bn l)= []:=HE (by rw[HZ];omega);have bM:(CG l).take (Bn l)=CG l:=AG (by rw[HZ];omega);rw[bK] at y;rw[bM] at H;have bN:J8 J9 (((Bn l:Nat):Int)*(8:Int))=((Bn l*8:Nat):Int):=by rw[wrap_i64 (by omega) (by omega)];omega
  rw[bN];have y:Ir a0 h.size ⟨BX l.length++BP f,false⟩:=y;have bO:l.length<=Bn l*8:=by unfold Bn;omega
  refine DW (most:=Bn l*8) y (by simp only[A1];omega) (by omega) λcF au av=>⟨_,rfl,?_⟩
  rw[Ci (by omega) bO] at au ⊢;dsimp only at au ⊢;have bP:=av.af an (by omega);rw[Ba,Ba];refine ab.mk bP (by simp) λbQ bS aw cG=>?_
  have a9:Ir bQ h.size ⟨BP f++ [],false⟩:=by rw[AM];exact aw.af au (by omega)
  refine IP a9 (by show(BP f++ []).length<_;rw[AM];omega) λcH ax ay=>⟨_,rfl,?_⟩
  rw[JQ (by omega)] at ax ⊢;dsimp only at ax ⊢;have bT:=ay.af bS (by omega);refine ab.mk bT (by simp) λC M az cI=>?_
  have bU:=az.af ax (show h.size≠r by omega);have M:C[r]? =some (J2 #[J4 o.p o.len o.cap,J4 (A7 sl.p sl.cap 0 1) (Bn l) sl.cap,J7 (AX f),J6 J9 (l.length:Int)] Ls (0,0)):=by simpa using M
  have aA:Own IV Az C o (CG l):=by have ac:=H.mod av (λc d e=>V H y (e▸d));have aC:=ac.mod aw (λc d e=>by have:=B c d;omega);have N:=aC.mod ay (λc d e=>V aC a9 (e▸d));exact N.mod az (λc d e=>by have:=B c d;omega)
  have O:Mod (λc=>c=h.size\/r<=c) W C:=
   (((a1.trans (av.ai λc _ d=> .inl d)).trans (aw.ai λc _ d=> .inr (by omega))).trans (ay.ai λc _ d=> .inl d)).trans (az.ai λc _ d=> .inr (by omega))
  have cJ:h.size<=r:=by omega
  have bV:Ext e C:=by refine⟨by have:=X.size;have:=O.size;omega,λc d _=>?_⟩;have:=D.size;have:=X.size;exact(O.get c (by omega) (by omega)).trans (X.get c d (λe=>e))
  have ba: ∀ {g:aa},Ext C g-> ∀c,sl.af=some c->g[c]? =h[c]? :=by intro g x c d;have:=aP c d;have cK:=O.size;have:=F.size;have:=U.size;exact((x.get c (by omega) (λe=>e)).trans (O.get c (by omega) (by omega))).trans ((F.get c (by omega) (λe=>e)).trans (U.get c (by omega) (λe=>e)))
  have bW: ∀c,Sl.af ⟨A7 sl.p sl.cap 0 1,Bn l,sl.cap⟩=some c->e.size<=c/\c<h.size:=λc d=>aP c (Ze d)
  refine ah.mk λcL bb=>?_
  refine NM bU ⟨_,rfl,ae.no rfl ?_⟩;have bX:f≠ []:=λG=>by rw[G] at aO;simp at aO
  refine AJ.mk (AL M rfl) (ae.no ?_ ?_)
  ·rw[Wo,EP,decide_eq_false_iff_not];exact bX
  refine AJ.mk (AL M rfl) ?_;refine bb _ _ (ae.no (by rw[AP];simp;omega) ?_);clear bb;refine Loop.rule (λm x g=> ∃i:Nat,x=(YD l (min (8*i) l.length),((min (8*i) l.length:Nat):Int),(i:Int),())/\m=Bn l-i/\i<=Bn l/\Ext C g) ?_ ⟨0,by simp[YD],rfl,by omega,Mod.refl⟩;rintro cM m _ bY ⟨i,rfl,rfl,hi,w⟩ bZ;dsimp only;have ad:=Ai w M;refine ae.intro (λq=>?_) (λq=>?_)
  ·have z:i<Bn l:=by simp at q;omega
   have aD:=QI z;have cN:8*i<l.length:=by unfold Bn at z;omega
   have b0:min (8*i) l.length=8*i:=by omega
   rw[b0];have b1:((KP l).map λb=>AX (BK b))[i]? =some (AX (BK (Bw l i))):=by simp[KP,z]
   refine(aY (ba w)).idx b1 λac cO b2=>?_
   rw[A6];refine AJ.mk b2.str ?_;have b3: ∀p∈Bw l i,Kw p:=λp b4=>T.ok p (PN b4)
   have cP:=QM T.ok z;refine ri b3 (by omega) λps A aE aF cQ=>⟨_,_,rfl,?_⟩
   have bc:=Ai aF ad;have Q:ps.len=(Bw l i).length:=aE.len;refine ah.mk λbd b5=>?_
   have aG:(Bw l i)[0]? =some (Bw l i)[0]:=A2 (by omega);have be:Ip l (8*i)=(Bw l i)[0].key:=by have:=Pq (l:=l) (i:=i) (j:=0) (by omega);rw[aG] at this;unfold Ip;rw[Gk] at this;rw[<- this]
   generalize (Bw l i)[0]=bf at aG be;have b6:bd (false,()) A:=by
    refine b5 _ _ (ae.no rfl ?_);refine Loop.rule (λm x g=> ∃j:Nat,x=(YD l (8*i+j),((8*i+j:Nat):Int),(j:Int),())/\m=(Bw l i).length-j/\j<=(Bw l i).length/\Ext A g) ?_ ⟨0,by simp,rfl,by omega,Mod.refl⟩;rintro cR m _ cS ⟨j,rfl,rfl,aZ,af⟩ b7;dsimp only;refine ae.intro (λq=>?_) (λq=>?_)
    ·have R:j<(Bw l i).length:=by rw[Q] at q;simp at q;omega
     have u:(Bw l i)[j]? =some (Bw l i)[j]:=A2 R;have aH:(Bw l i)[j]∈l:=PN (AW R);have aJ:l[8*i+j]? =some (Bw l i)[j]:=by rw[<- Pq (by omega)];exact u
     generalize (Bw l i)[j]=p at u aH aJ;have b8:=T.ok p aH;refine(aE.ext af).view.idx u λaC cT b9=>?_
     obtain⟨ca,cb,cc⟩:=b9.pair;rw[A6];refine AJ.mk ca (AJ.mk cb (Aa.mk cc ?_));refine ak.pair λcU cV cW aK bg cX=>?_
     refine ah.mk λcY cd=>?_
     refine AJ.mk (AL aK rfl) ?_;rw[AQS T.ok T.inc aJ];refine ae.no rfl ?_;have ce:=Ai bg (Ai af bc);refine AJ.mk (AL ce rfl) ?_;refine AJ.mk (AL aK rfl) ?_;have a5:=b8.bI;refine xN (by omega) ⟨_,rfl,?_⟩;rw[EP,T.has p aH];refine cd _ _ (ae.no rfl ?_);refine AJ.mk (AL aK rfl) ?_;rw[Ab (by omega),Ab (by omega)];refine b7 ((Bw l i).length-(j+1)) _ _ (by omega) ⟨j+1,?_,rfl,R,af.trans bg⟩;have cf:YD l (8*i+(j+1))=p.key:=by show Ip l (8*i+j)=p.key;unfold Ip;rw[aJ]
     rw[cf];rfl
    ·have R:j=(Bw l i).length:=by rw[Q] at q;simp at q;omega
     rw[Ab (by omega)];have aL:min (8*(i+1)) l.length=8*i+j:=by rw[R];unfold Bw;rw[AE,DG];omega
     refine bZ (Bn l-(i+1)) _ _ (by omega) ⟨i+1,?_,rfl,z,(w.trans aF).trans af⟩;rw[aL]
   have bh:bH ps.p ps.len 0 λN=>AJ A (N.add ((0:Int).toNat*3)) λcg=>AY A (⟨r,0,none⟩:Q6) λbi=>bH bi.p bi.len ((i:Nat):Int) λbj=>AJ A (bj.add (((i:Nat):Int).toNat*1)) λch=>bd ((!bL cg ch),()) A:=by
    obtain⟨N,ci,bk⟩:=aE.view.cells 0 bf aG;rw[HQ,add_zero] at bk;refine bH.mk (k:=0) ci (by omega) ?_;refine AJ.mk (n:=bf.key) (by show ag A (N.add 0)=_;rw[add_zero];exact bk.pair.1) ?_;refine AY.mk (s:=o) (AL bc rfl) ?_;refine((aA.ext w).ext aF).view.idx (Qo z) λbj cZ cj=>?_
    rw[A6];refine AJ.mk cj.str ?_;rw[be,CY,decide_eq_true rfl];exact b6
   refine ae.no rfl (ae.no (by rw[Q];simp;intro G;rw[G] at aD;simp at aD) (ae.no (by rw[Q];simp;omega) ?_));rw[Ab (by omega)];refine ae.intro (λq=>?_) (λ_=>bh);have:i+1<Bn l:=by simp at q;omega
   exact ae.no (by rw[Q,aD.2.2 this];rfl) bh
  ·have z:i=Bn l:=by simp at q;omega
   have aL:min (8*i) l.length=l.length:=by rw[z];omega
   rw[aL];refine AC.mk (AL ad rfl) (ae.no (by simp) ?_);refine bn bY r (bV.trans w) ⟨⟨o,⟨A7 sl.p sl.cap 0 1,Bn l,sl.cap⟩,ad,(aA.ext w).view,aY (ba w),λc d=>?_,λc d=>?_⟩,?_⟩
   ·have h:=(aA.ext w).lt d;have:=B c d;have:=D.size;omega
   ·have h:=bW c d;have:=O.size;have:=w.size;have:=F.size;have:=U.size;omega
   ·have:=Af ad;have:=D.size;omega
def Vo(g:al)(h:Int)(f:J0)(i:aa)(j:A2O):=Loop (λK (s:Int×Int×Unit) a=>ae (decide (s.1<s.2.1)) (ah (λ(b:Int×Int×Unit) k=>K (b.1,b.2.1,()) k) λc=>Du g P f #[J6 J9 (J8 J9 ((J8 .u64 (J8 J9 (s.1+s.2.1))).fdiv ((2:Int)^(1:Nat))))] a λv d=> ∃e:Bool,v=J3 e/\(ae (!e) (c ((J8 J9 ((J8 J9 ((J8 .u64 (J8 J9 (s.1+s.2.1))).fdiv ((2:Int)^(1:Nat))))+1)),s.2.1,()) d) (c (s.1,(J8 J9 ((J8 .u64 (J8 J9 (s.1+s.2.1))).fdiv ((2:Int)^(1:Nat)))),()) d))) (j (J6 J9 s.1) a)) (0,h,()) i
theorem AB5 {a b f c d}(e:Vo a b f c d):AA a P PQ #[J6 J9 b,f] c d:=Ac (CL 2 (AO (.block (.loop [(5,.one (.int J9)),(6,.one (.int J9))] [1] (AO FR (.bJ [(5,.one (.int J9)),(6,.one (.int J9))] [1] km)))) Br)) (by kernel_rfl) e
def Gm(b:al)(s:Sl)(v:Int)(c:aa)(d:A2O):=AA b P Il #[J4 s.p s.len s.cap,J6 J9 v] c λv1 e=> ∃a:Int,v1=J6 J9 a/\(d (J3 (decide (a>=0))) e)
theorem K9 {a s v b c}(d:Gm a s v b c):AA a P Ea #[J4 s.p s.len s.cap,J6 J9 v] b c:=Ac FB (by kernel_rfl) d
def Ig(g:al)(s:Sl)(v:Int)(e:aa)(d:A2O):=Loop (λK (b:Int×Unit) c=>ae (decide (b.1<(s.len:Int))) (bH s.p s.len b.1 λa=>AC J9 c (a.add (b.1.toNat*1)) λf=>ae (v==f) (d (J6 J9 b.1) c) (K ((J8 J9 (b.1+1)),()) c)) (d (J6 J9 (-1)) c)) (0,()) e
theorem Mc {a s v b c}(d:Ig a s v b c):AA a P Il #[J4 s.p s.len s.cap,J6 J9 v] b c:=Ac pV (by kernel_rfl) d
def IA(b:al)(s:Sl)(i:Int)(v:Sl)(e:aa)(d:A2O):=aH ((0:Int)<=i/\i<=(s.len:Int))<| ae ((v.len:Int)==0) (d (J4 s.p s.len s.cap) e) (ae (i==(s.len:Int)) (BI b P (Builtin.append_ #[Ct,Ct] Ct #[J4 s.p s.len s.cap,J4 v.p v.len v.cap]) e λv1 h=> ∃c:Sl,v1=J4 c.p c.len c.cap/\(d (J4 c.p c.len c.cap) h)) (ae (decide ((J8 J9 ((s.len:Int)+(v.len:Int)))>(s.cap:Int))) (aH ((0:Int)<=i/\i<=(s.cap:Int))<| BI b P (Builtin.append_ #[Ct,Bb] Ct #[J4 (A7 s.p s.cap 0 1) (i.toNat-0) (s.cap-0),J6 J9 (J8 J9 ((J8 J9 ((s.len:Int)+(v.len:Int)))-i))]) e λv2 j=> ∃a:Sl,v2=J4 a.p a.len a.cap/\(aH ((0:Int)<=i/\i<=(a.len:Int))<| BI b P (Builtin.copy_ #[Ct,Ct] Bb #[J4 (A7 a.p a.cap i.toNat 1) (a.len-i.toNat) (a.cap-i.toNat),J4 v.p v.len v.cap]) j λk l=> ∃m:Int,k=J6 J9 m/\(aH ((0:Int)<=(J8 J9 (i+(v.len:Int)))/\(J8 J9 (i+(v.len:Int)))<=(a.len:Int))<| aH ((0:Int)<=i/\i<=(s.len:Int))<| BI b P (Builtin.copy_ #[Ct,Ct] Bb #[J4 (A7 a.p a.cap ((J8 J9 (i+(v.len:Int))).toNat) 1) (a.len-((J8 J9 (i+(v.len:Int))).toNat)) (a.cap-((J8 J9 (i+(v.len:Int))).toNat)),J4 (A7 s.p s.cap i.toNat 1) (s.len-i.toNat) (s.cap-i.toNat)]) l λn o=> ∃p:Int,n=J6 J9 p/\(d (J4 a.p a.len a.cap) o)))) (aH ((0:Int)<=(J8 J9 ((s.len:Int)+(v.len:Int)))/\(J8 J9 ((s.len:Int)+(v.len:Int)))<=(s.cap:Int))<| aH ((0:Int)<=(J8 J9 (i+(v.len:Int)))/\(J8 J9 (i+(v.len:Int)))<=(((((J8 J9 ((s.len:Int)+(v.len:Int))).toNat)-0):Nat):Int))<| ng b P GZ #[J4 v.p v.len v.cap,J4 (A7 (A7 s.p s.cap 0 1) (s.cap-0) ((J8 J9 (i+(v.len:Int))).toNat) 1) ((((J8 J9 ((s.len:Int)+(v.len:Int))).toNat)-0)-((J8 J9 (i+(v.len:Int))).toNat)) ((s.cap-0)-((J8 J9 (i+(v.len:Int))).toNat))] e λq f=> ∃g:Bool,q=J3 g/\(ae (!g) (aH ((0:Int)<=(J8 J9 (i+(v.len:Int)))/\(J8 J9 (i+(v.len:Int)))<=(((((J8 J9 ((s.len:Int)+(v.len:Int))).toNat)-0):Nat):Int))<| aH ((0:Int)<=i/\i<=(((((J8 J9 ((s.len:Int)+(v.len:Int))).toNat)-0):Nat):Int))<| BI b P (Builtin.copy_ #[Ct,Ct] Bb #[J4 (A7 (A7 s.p s.cap 0 1) (s.cap-0) ((J8 J9 (i+(v.len:Int))).toNat) 1) ((((J8 J9 ((s.len:Int)+(v.len:Int))).toNat)-0)-((J8 J9 (i+(v.len:Int))).toNat)) ((s.cap-0)-((J8 J9 (i+(v.len:Int))).toNat)),J4 (A7 (A7 s.p s.cap 0 1) (s.cap-0) i.toNat 1) ((((J8 J9 ((s.len:Int)+(v.len:Int))).toNat)-0)-i.toNat) ((s.cap-0)-i.toNat)]) f λr t=> ∃u:Int,r=J6 J9 u/\(aH ((0:Int)<=i/\i<=(((((J8 J9 ((s.len:Int)+(v.len:Int))).toNat)-0):Nat):Int))<| BI b P (Builtin.copy_ #[Ct,Ct] Bb #[J4 (A7 (A7 s.p s.cap 0 1) (s.cap-0) i.toNat 1) ((((J8 J9 ((s.len:Int)+(v.len:Int))).toNat)-0)-i.toNat) ((s.cap-0)-i.toNat),J4 v.p v.len v.cap]) t λw x=> ∃y:Int,w=J6 J9 y/\(d (J4 (A7 s.p s.cap 0 1) (((J8 J9 ((s.len:Int)+(v.len:Int))).toNat)-0) (s.cap-0)) x))) (aH ((0:Int)<=(s.len:Int)/\(s.len:Int)<=(((((J8 J9 ((s.len:Int)+(v.len:Int))).toNat)-0):Nat):Int))<| BI b P (Builtin.copy_ #[Ct,Ct] Bb #[J4 (A7 (A7 s.p s.cap 0 1) (s.cap-0) ((s.len:Int).toNat) 1) ((((J8 J9 ((s.len:Int)+(v.len:Int))).toNat)-0)-((s.len:Int).toNat)) ((s.cap-0)-((s.len:Int).toNat)),J4 v.p v.len v.cap]) f λz A=> ∃B:Int,z=J6 J9 B/\(aH ((0:Int)<=i/\i<=(((((J8 J9 ((s.len:Int)+(v.len:Int))).toNat)-0):Nat):Int))<| AA b P Ii #[J4 (A7 (A7 s.p s.cap 0 1) (s.cap-0) i.toNat 1) ((((J8 J9 ((s.len:Int)+(v.len:Int))).toNat)-0)-i.toNat) ((s.cap-0)-i.toNat),J6 J9 (v.len:Int)] A λC D=>C=J1 #[]/\(d (J4 (A7 s.p s.cap 0 1) (((J8 J9 ((s.len:Int)+(v.len:Int))).toNat)-0) (s.cap-0)) D)))))))
theorem MX {a s i v b c}(d:IA a s i v b c):AA a P Cu #[J4 s.p s.len s.cap,J6 J9 i,J4 v.p v.len v.cap] b c:=Ac tG (by kernel_rfl) d
end Go.Lf.G
namespace Go.Lf.G.M
open Go Go.Lf Go.Lf.G
theorem toList_inj {a b:A2P}:(a.toList==b.toList)=decide (a=b):=by rw[ByteArray.toList_eq,ByteArray.toList_eq];rw[DH];simp[MD,<-Array.toList_inj]
def Ah(x:Pr):Int:=
 if(decide (x.key=⟨#[]⟩)||(x.gone&& !decide (x.val=⟨#[]⟩))) then 1 else if(decide (x.key.size>64)||decide (x.val.size>8192)) then 2 else 0
theorem CY {a b:A2P}:bL a b=decide (a=b):=toList_inj
def gY(key:A2P)(l:List Pr):List Pr:=l.takeWhile λa=>aO a.key key
def aS(key:A2P)(l:List Pr):Nat:=(gY key l).length
def BL(key:A2P)(l:List Pr):Bool:=match l[aS key l]? with|some a=>decide (a.key=key)|none=>false
theorem mI(key:A2P)(l:List Pr):aS key l<=l.length:=(A00 _).length_le
theorem UK {e:Type}{p:e->Bool}: ∀ {l:List e} {i:Nat},i<=(l.takeWhile p).length->(∀ x,l[i]? =some x->p x=true->i<(l.takeWhile p).length)/\(∀ x,l[i]? =some x->p x=false->i=(l.takeWhile p).length)/\(l[i]? =none->i=(l.takeWhile p).length)
 | [],i,a=>by simp at a;subst a;simp
 |y::l,0,a=>by
  refine⟨λx b c=>?_,λx b c=>?_,λa=>by simp at a⟩
  ·simp at b;subst b;simp[c]
  ·simp at b;subst b;simp[c]
 |y::l,i+1,a=>by
  rw[MT] at a ⊢;split at a
  ·rename_i f;have d:=UK (p:=p) (l:=l) (i:=i) (by simpa using a);simp only[f,if_true,A5];refine⟨λx b c=>?_,λx b c=>?_,λg=>?_⟩
   ·have:=d.1 x (by simpa using b) c;omega
   ·have:=d.2.1 x (by simpa using b) c;omega
   ·have:=d.2.2 (by simpa using g);omega
  ·simp at a
theorem Hy:Pi P AQ AR BZ.w 40=true:=by kernel_rfl
theorem AM6:Pi P JI AQ hG.w 24=true:=by kernel_rfl
theorem zF:Pi P A9 Bd jJ.w 8=true:=by kernel_rfl
def XY(x:Pr)(l:List Pr):List Pr:=l.take (aS x.key l)++ [x]++l.drop (if BL x.key l then aS x.key l+1 else aS x.key l)
def Ca(x:Pr)(l:List Pr):List Pr:=if Ah x≠0 then l else XY x l
theorem AOB(x:Pr)(l:List Pr):(XY x l).length<=l.length+1:=by unfold XY;have:=mI x.key l;simp;split<;>omega
theorem AMx(x:Pr)(l:List Pr):(Ca x l).length<=l.length+1:=by
 unfold Ca;split
 ·omega
 ·exact AOB x l
theorem qk {a:J0}{c:J0}:(#[]++ #[a]++ #[c]:Array J0)= #[a,c]:=rfl
theorem AF0 {G:al}{e H:aa}{fv:J0}{S:Nat->Prop}{l:List Pr}{I:A2O}(J:EJ G P fv S H l)(K: ∀b,S b->e[b]? =H[b]?)(ay:l.length<=1099511627776)
  (ad: ∀s h,Own BZ AR h s l->(∀ c,s.af=some c->e.size<=c)->Ext e h->I (J4 s.p s.len s.cap) h):AA G P Cs #[J4 none 0 0,fv] e I:=by
 refine Ht (s:=⟨none,0,0⟩) ?_;unfold ER;refine ak.mk λo _ a L az=>?_
 have M: ∀b,S b->b<e.size:=λb a=>by
  have:=K b a;rw[CD (J.1 b a)] at this;exact Af this
 have ae: ∀h:aa,Mod (λc=>c=e.size) o h->Ext e h:=λh m=>L.then (m.ai λc _ j=> .inr (by omega))
 refine Wd J (λb a=>(L.get b (M b a) (by simp)).trans (K b a))
  (λi c y p=>c=none/\ ∃s:Sl,p[e.size]? =some (J2 #[J4 s.p s.len s.cap] AQ (0,0))/\Own BZ AR p s (l.take i)/\(∀ b,y b↔(b=e.size\/s.af=some b))/\(∀ b,s.af=some b->b<p.size/\e.size<b))
  (λb=>b=e.size) (λb a d=>by have:=M b a;omega) ?_ ?_ ?_ ?_ ?_ ?_
 ·rintro i c y p ⟨_,s,q,r,f,k⟩ b a;rcases(f b).1 a with rfl|n
  ·exact Af q
  ·exact(k b n).1
 ·rintro i c y p h ⟨d,s,q,r,f,k⟩ m;refine⟨d,s,m.af q (λz=>z.1 ((f _).2 (.inl rfl))),r.mod m (λc j z=>z.1 ((f _).2 (.inr j))),f,λb a=>⟨?_,(k b a).2⟩⟩;have:=m.size;have:=(k b a).1;omega
 ·exact⟨rfl,⟨none,0,0⟩,a,Own.nil,λb=>by simp[Sl.af],λb a=>by simp[Sl.af] at a⟩
 ·rintro i x N p rec aA aC O ⟨_,s,q,r,f,k⟩ Q aD af ag ah aE;have aF:=(List.getElem?_eq_some_iff.1 O).1;refine ak.pair λaG R aH ai u aI=>?_
  refine⟨rec,u.af af (by simp),ag,?_⟩;generalize T:R.setIfInBounds (o.size+1) (.loop {rec with state:= .busy})=A;have t:Mod (λb=>b=o.size+1) R A:=T▸Mod.setObj rfl;have aj:A[o.size+1]? =some (.loop {rec with state:= .busy}):=by rw[<- T];exact CQ (by omega)
  have aJ:=Af q;have B:=t.af ai (by omega);have U:=t.af (u.af q (by simp)) (by omega);have am:=(r.ext u).mod t (λc j d=>Q ((f _).2 (.inr (d▸j))));refine AY.mk (AL U rfl) (AJ.mk (AL B rfl) (AJ.mk (AB B rfl) (Aa.mk (AB B rfl) ?_)));have V:(l.take i).length=i:=by simp;omega
  refine ak.aY (E:=BZ) (x:=x) rfl Hy am (by rw[V];omega) (by rw[V];simp[maxLen];omega) λW X Y v C _=>?_
  have aK:=t.size;have an:s.af≠some e.size:=λd=>by have:=k _ d;omega
  refine ab.mk (v.af U an) (by simp) λao ap D aL=>ah ao ?_
  refine⟨λb=>b=e.size\/W.af=some b,?_,?_,?_,rfl,W,by simpa using ap,?_,λ_=>Ds,?_⟩
  ·rintro b (rfl|a)
   ·exact .inl ((f _).2 (.inl rfl))
   ·rcases C b a with n|n
    ·exact .inl ((f _).2 (.inr n))
    ·exact .inr (by omega)
  ·have aq:Mod (λb=>N b\/b=o.size+1) p A:=u.mod.trans (t.ai λb _ a=> .inr a);have ar:Mod (λb=>N b\/b=o.size+1) p X:=aq.trans (v.ai λb _ a=> .inl ((f _).2 (.inr a)));exact ar.trans (D.ai λb _ a=> .inl ((f _).2 (.inl a)))
  ·refine D.af (v.af aj (λd=>Q ((f _).2 (.inr d)))) (by omega)
  ·have au:=Y.mod D (λc j d=>by
    rcases C c j with n|n
    ·have:=k _ n;omega
    ·omega)
   rw[Ax,O];exact au
  ·intro b a;have:=v.size;have aM:b<X.size:=by
    rcases Y.row with⟨rfl,_⟩|⟨g,av,F,w,_⟩
    ·simp[Sl.af] at a
    ·simp[Sl.af,F] at a;subst a;exact Af w
   refine⟨by omega,?_⟩;rcases C b a with n|n
   ·exact(k _ n).2
   ·omega
 ·rintro aw h ⟨_,s,q,r,f,k⟩ Z _ aN ac;have aO:=Z.size;refine AY.mk (AL q rfl) ⟨ac,?_⟩;rw[C5] at r;have ax:s.af≠some o.size:=λd=>by
   rcases r.row with⟨rfl,_⟩|⟨g,av,F,w,_⟩
   ·simp[Sl.af] at d
   ·simp[Sl.af,F] at d;rw[d,ac] at w;cases w
  refine ad s _ (r.mod (Mod.setObj (S:=λc=>c=o.size) rfl) λc j d=>ax (d▸j)) (λc j=>by have:=k _ j;omega) ?_;exact(ae h Z).then (Mod.setObj (.inr (by omega)))
 ·rintro i aP aw h ⟨d,_⟩;cases d
theorem Vs {e:al}{d f:aa}{fv:J0}{g:Nat->Prop}{l:List Pr}{h:A2O}(i:EJ e P fv g f l)(j: ∀b,g b->d[b]? =f[b]?)(k:l.length<=1099511627776)
  (m: ∀s a,Own BZ AR a s l->(∀ c,s.af=some c->d.size<=c)->Ext d a->h (J4 s.p s.len s.cap) a):AA e P Cr #[fv] d h:=by
 refine MG ?_;unfold IL;exact AF0 i j k λs a n o p=>⟨s,rfl,m s a n o p⟩
def BF(l:List Pr):List Pr:=l.filter λx=> !x.gone
theorem uw {b:Type}{p:b->Bool}: ∀ {l:List b} {i:Nat} {x:b},l[i]? =some x->p x=true->(l.filter p)[((l.take i).filter p).length]? =some x
 | [],i,x,a,_=>by simp at a
 |y::l,0,x,a,c=>by simp at a;subst a;simp[c]
 |y::l,i+1,x,a,c=>by
  have d:=uw (p:=p) (l:=l) (i:=i) (by simpa using a) c;rw[HX,B9,B9];split
  ·simpa using d
  ·exact d
theorem AEJ {a:Type}{p:a->Bool}(l:List a)(i:Nat):((l.take i).filter p).length<=(l.filter p).length:=((List.take_sublist i l).filter p).length_le
theorem AOw {Z:al}{D:aa}{b:Nat}{T:Q7}{fr:Nat×Nat}{fv:J0}{z:Nat->Prop}{l:List Pr}(a:D[b]? =some (J2 #[fv] T fr))(h:(fv= .nilFunc/\l= []/\ ∀c,¬z c)\/EJ Z P fv z D l):
  EJ Z P (.func (.func OU) #[] #[J5 (some ⟨b,0,none⟩)]) (λc=>z c\/c=b) D (BF l):=by
 have ax:=Af a;refine⟨?_,_,_,rfl,λab=>by kernel_rfl,λd E ab w F ay hd hB az G=>?_⟩
 ·rintro c (n|rfl)
  ·rcases h with h|h
   ·exact absurd n (h.2.2 c)
   ·exact h.1 c n
  ·exact ax
 rw[qk];refine AAv ?_;unfold Tz;refine YU.mk ay (ak.mk λu _ aA q aK=>?_);have ac:u[b]? =some (J2 #[fv] T fr):=by have r:=(E b (.inr rfl)).trans a;exact q.af r (by simp)
 refine Rj.mk (AL ac rfl) ?_;rcases h with⟨rfl,rfl,_⟩|h
 ·refine⟨trivial,ae.yes rfl ?_⟩;exact⟨rfl,0,true,F,q.mod,λb a=> .inl a,hB.bd _ _ _ _ _ G (q.ai λ_ _ d=>d.elim),λ_=>rfl,by simp⟩
 ·refine⟨h.one.2.1,ae.no h.one.2.2 ?_⟩;refine Rj.mk (AL ac rfl) ?_;have aC:=hB.wf _ _ _ _ G;have aD: ∀b,z b->b<d.size:=λb a=>by
   have:=E b (.inl a);rw[CD (h.1 b a)] at this;exact Af this
  have aE:=hB.bd _ _ _ _ _ G (q.ai (S':=λb=>¬F b/\d.size<=b) λ_ _ d=>d.elim);refine Wd h (λc n=>(q.get c (aD c n) (by simp)).trans (E c (.inl n)))
   (λi c e j=>j[d.size]? =some (J2 #[ab] MC (0,0))/\ ¬e d.size/\match c with
    |none=>w (BF (l.take i)).length true e j
    |some ad=>ad=none/\ ∃s,s<=(BF l).length/\w s false e j)
   F (λc n=>hd c (.inl n)) ?_ ?_ ?_ ?_ ?_ ?_
  ·rintro i c e j ⟨_,_,f⟩;cases c
   ·exact hB.wf _ _ _ _ f
   ·obtain⟨_,s,_,H⟩:=f;exact hB.wf _ _ _ _ H
  ·rintro i c e j I ⟨r,t,f⟩ m;refine⟨m.af r (λd=>by omega),t,?_⟩;have af:Mod (λb=>¬e b/\d.size<=b) j I:=m.ai λb _ a=>⟨a.1,by omega⟩
   cases c
   ·exact hB.bd _ _ _ _ _ f af
   ·obtain⟨H,s,J,aF⟩:=f;exact⟨H,s,J,hB.bd _ _ _ _ _ aF af⟩
  ·exact⟨aA,λd=>by have:=aC _ d;omega,aE⟩
  ·rintro i x e j rec aL aM L ⟨r,t,f⟩ M aN aG aH ag aI;refine ak.pair λaO ai aP aJ N aQ=>?_
   refine⟨rec,N.af aG (by simp),aH,?_⟩;generalize k:ai.setIfInBounds (u.size+1) (.loop {rec with state:= .busy})=v;have y:Mod (λb=>b=u.size+1) ai v:=k▸Mod.setObj rfl;have O:v[u.size+1]? =some (.loop {rec with state:= .busy}):=by rw[<- k];exact CQ (by omega)
   have A:=y.af aJ (by omega);have Q:=y.af (N.af r (by simp)) (by omega);have R:Mod (λb=>b=u.size+1) j v:=(Ext.mod N).trans y;have aj:w (BF (l.take i)).length true e v:=hB.bd _ _ _ _ _ f (R.ai λb _ a=>by subst a;exact⟨M,by omega⟩);have am:BF (l.take (i+1))=BF (l.take i)++BF [x]:=by rw[Ax,L];simp[BF]
   refine ah.mk λK an=>?_
   refine Aa.mk (AB A rfl) ?_;refine ae.intro (λo=>?_) (λo=>?_)
   ·have o:(!x.gone)=true:=o;refine Rj.mk (AL Q rfl) ?_;refine AJ.mk (AL A rfl) (AJ.mk (AB A rfl) (Aa.mk (AB A rfl) ?_));refine Du.mono (az _ _ e v (uw (p:=λx:Pr=> !x.gone) L o) aj) ?_;rintro _ S ⟨g,B,rfl,ao,C,ap⟩;refine⟨g,rfl,an _ _ ?_⟩;have aR:=AEJ (p:=λx:Pr=> !x.gone) l (i+1);have aq:(BF (l.take (i+1))).length=(BF (l.take i)).length+1:=by rw[am];simp only[BF,A1];simp[o]
    have ar:=C.af Q t;have au: ¬B d.size:=λn=>(ao _ n).elim t λd=>by have:=y.size;omega
    have av:Mod (λb=>e b\/b=u.size+1) j S:=(R.ai λb _ a=> .inr a).trans (C.ai λb _ a=> .inl a);have aw: ∀b,B b->e b\/j.size<=b:=λb a=>(ao b a).elim .inl λd=> .inr (by have:=y.size;omega)
    refine ae.intro (λk=>aI none S ?_) (λk=>ag S ?_)
    ·have k:g=false:=by simpa using k
     subst k;exact⟨B,aw,av,C.af O M,ar,au,rfl,_,by have:=aq;unfold BF at *;omega,ap⟩
    ·have k:g=true:=by simpa using k
     subst k;exact⟨B,aw,av,C.af O M,ar,au,by show w _ _ _ _;rw[aq];exact ap⟩
   ·have o:(!x.gone)=false:=o;refine an _ _ (ae.no rfl (ag v ?_));refine⟨e,λb a=> .inl a,R.ai λb _ a=> .inr a,O,Q,t,?_⟩;show w _ _ _ _;have:BF [x]= []:=by simp at o;simp[BF,o]
    rw[am,this,AM];exact aj
  ·rintro U I ⟨r,t,f⟩ V W X Y;refine⟨Y,rfl,(BF l).length,true,U,?_,?_,?_,λ_=>rfl,A0 _⟩
   ·exact(q.mod.trans V).then (Mod.setObj (.inr (by omega)))
   ·intro b a;exact(X b a).elim .inl λd=> .inr (by omega)
   ·rw[C5] at f;exact hB.bd _ _ _ _ _ f (Mod.setObj ⟨W,by omega⟩)
  ·rintro i ad U I ⟨r,t,rfl,s,J,f⟩ L V W X Y;refine⟨Y,rfl,s,false,U,?_,?_,?_,(λd=>by cases d),J⟩
   ·exact(q.mod.trans V).then (Mod.setObj (.inr (by omega)))
   ·intro b a;exact(X b a).elim .inl λd=> .inr (by omega)
   ·exact hB.bd _ _ _ _ _ f (Mod.setObj ⟨W,by omega⟩)
theorem rP {f:al}{d:aa}{fv:J0}{g:Nat->Prop}{l:List Pr}{i:A2O}(a:(fv= .nilFunc/\l= []/\ ∀c,¬g c)\/EJ f P fv g d l)
  (m: ∀j e,EJ f P j (λc=>g c\/c=d.size) e (BF l)->Ext d e->e.size=d.size+1->i j e):AA f P NN #[fv] d i:=by
 refine ADu ?_;unfold Xj;refine YU.mk ?_ (ak.mk λn _ o k p=>?_)
 ·rcases a with a|a
  ·rw[a.1];rfl
  ·exact a.one.1
 ·refine m _ n (AOw o ?_) k p;rcases a with a|a
  ·exact .inl a
  ·exact .inr (a.ai (λ_=>id) (λb h=>by have:=a.1 b h;omega) (λb h=>k.get b (a.1 b h) (by simp)))
def Pp(a:A2P)(x:Pr):Bool:=decide (a=⟨#[]⟩)||aO x.key a
def PM(a:A2P)(b:Int)(l:List Pr):List Pr:=(l.takeWhile (Pp a)).take b.toNat
theorem nC {b:Type}{p:b->Bool}: ∀ {l:List b} {i:Nat},i<=(l.takeWhile p).length->(l.takeWhile p).take i=l.take i
 | [],i,_=>by simp
 |y::l,0,_=>by simp
 |y::l,i+1,a=>by
  rw[MT] at a ⊢;split at a
  ·rename_i c;simp only[c,if_true,HX];rw[nC (by simpa using a)]
  ·simp at a
theorem QO: ∀(a:List UInt8),Op.bytesLess a a=false
 | []=>rfl
 |a::x=>by simp[Op.bytesLess,QO x]
theorem lL: ∀(a b:List UInt8),Op.bytesLess a b=false->Op.bytesLess b a=false->a=b
 | [],[],_,_=>rfl
 | [],_::_,c,_=>by simp[Op.bytesLess] at c
 |_::_,[],_,c=>by simp[Op.bytesLess] at c
 |a::x,b::f,d,e=>by
  simp only[Op.bytesLess,Hk,A0d,decide_eq_false_iff_not,beq_eq_false_iff_ne] at d e;have g:a=b:=by have h:=d.1;have i:=e.1;exact UInt8.le_antisymm (UInt8.not_lt.1 i) (UInt8.not_lt.1 h)
  subst g;rw[lL x f (d.2.resolve_left (by simp)) (e.2.resolve_left (by simp))]
theorem Sn: ∀(a b c:List UInt8),Op.bytesLess a b=true->Op.bytesLess b c=true->Op.bytesLess a c=true
 |_,[],_,f,_=>by simp[Op.bytesLess] at f
 |_,_::_,[],_,f=>by simp[Op.bytesLess] at f
 | [],_::_,_::_,_,_=>by simp[Op.bytesLess]
 |a::x,b::g,c::z,e,d=>by
  simp only[Op.bytesLess,Cp,A3,decide_eq_true_eq,beq_iff_eq] at e d ⊢;rcases e with e|⟨rfl,e⟩
  ·rcases d with d|⟨rfl,d⟩
   ·exact .inl (UInt8.lt_trans e d)
   ·exact .inl e
  ·rcases d with d|⟨rfl,d⟩
   ·exact .inl d
   ·exact .inr ⟨rfl,Sn x g z e d⟩
theorem Bo(a:A2P):aO a a=false:=QO _
theorem DJ {a b c:A2P}(d:aO a b=true)(e:aO b c=true):aO a c=true:=Sn _ _ _ d e
theorem NU {a b:A2P}(d:aO a b=false)(e:aO b a=false):a=b:=by
 have:=lL _ _ d e;have c:bL a b=true:=by simp[bL,this]
 rw[CY] at c;simpa using c
theorem Nq {a b:A2P}(c:aO a b=true):aO b a=false:=by
 cases d:aO b a
 ·rfl
 ·have:=DJ c d;rw[Bo] at this;cases this
theorem nD {a b c:A2P}(d:aO a b=true)(f:aO c b=false):aO a c=true:=by
 cases e:aO b c
 ·rw[NU f e];exact d
 ·exact DJ d e
theorem Yp {a b c:A2P}(e:aO b a=false)(d:aO c b=false):aO c a=false:=by
 cases f:aO c a
 ·rfl
 ·have:=nD f e;rw[this] at d;cases d
def upto(p a:Pr):Bool:=aO a.key p.key||bL a.key p.key
def Ij(p:Pr)(l:List Pr):List Pr:=l.dropWhile (upto p)
inductive LG:List (List Pr)->List Pr->Prop
 |done {ls:List (List Pr)} (h: ∀l,l∈ls->l= []):LG ls []
 |step {ls:List (List Pr)} {k:Nat} {p:Pr} {t out:List Pr} (hk:ls[k]? =some (p::t))
   (hmin: ∀j q u,ls[j]? =some (q::u)->aO q.key p.key=false/\(j<k->aO p.key q.key=true)) (hm:LG (ls.map (Ij p)) out):LG ls (p::out)
theorem LG.im {a:List (List Pr)}{out:List Pr}(m:LG a out)(b: ∀l,l∈a->l= []):out= []:=by
 cases m with
 |done _=>rfl
 |step c d e=>have:=b _ (AK c);cases this
theorem LG.gv {c:List (List Pr)}{out:List Pr}(m:LG c out){d:Nat}{p:Pr}{t:List Pr}(e:c[d]? =some (p::t))
  (h: ∀i g u,c[i]? =some (g::u)->aO g.key p.key=false/\(i<d->aO p.key g.key=true)): ∃j,out=p::j/\LG (c.map (Ij p)) j:=by
 cases m with
 |done a=>have:=a _ (AK e);cases this
 | @step _ k r s n f l o=>
  have q:d=k:=by
   rcases HU d k with a|a|a
   ·have b:=(l _ _ _ e).2 a;rw[(h _ _ _ f).1] at b;cases b
   ·exact a
   ·have b:=(h _ _ _ f).2 a;rw[(l _ _ _ e).1] at b;cases b
  subst q;rw[e] at f;cases f;exact⟨n,rfl,o⟩
theorem rH {d:Type}: ∀(a:List d) (b i:Nat) (v:d),(a.set i v).take b=(a.take b).set i v
 | [],b,i,v=>by simp
 |c::a,0,i,v=>by simp
 |c::a,b+1,0,v=>by simp
 |c::a,b+1,i+1,v=>by simp[rH a b i v]
end Go.Lf.G.M
namespace Go.Lf
open G
theorem Own.ji {T:Q7}{d:aa}{s:Sl}{l:List Sl}(e:Own hG T d s l){i:Nat}(y:i<l.length){x:Sl}{K:aa->Prop}{a:Q6}(f:s.p=some a)
  (q: ∀c,Own hG T c s (l.set i x)->Mod (λb=>s.af=some b) d c->c.size=d.size->K c):ab d (a.add (i*1)) (J4 x.p x.len x.cap) K:=by
 rcases e.row with⟨rfl,_⟩|⟨g,z,h,r,t,u,n,o⟩
 ·simp at f
 ·rw[h] at f;cases f;rw[Ba,AI,Bk];have j:hG.w=1:=rfl;rw[j,Bk] at n o;have A:=e.len;refine ab.mk r (by omega) λc k m v=>q c ⟨by simpa using e.len,.inr ⟨g,_,h,k,t,u,by simp[n,j],?_⟩⟩ (m.ai λb _ k=>by simp[Sl.af,h,k]) v
  rw[j,Bk,Fm,Go.Lf.G.M.rH,o];have p: ∀l:List Sl,l.flatMap hG.enc=l.map (λs=>Value.slice s.p s.len s.cap):=λl=>by
   induction l with
   |nil=>rfl
   |cons B l w=>rw[AH,w];rfl
  rw[p,p,Rr]
end Go.Lf
namespace Go.Lf.G.M
open Go Go.Lf Go.Lf.G
structure iS (lo:Nat) (h:aa) (O:Nat->Prop) (t:Sl) (sls:List Sl) (ls:List (List Pr)):Prop where
 len:sls.length=ls.length
 row: ∀(j:Nat) (sl:Sl) (l:List Pr),sls[j]? =some sl->ls[j]? =some l->View BZ h sl l/\l.length<=1099511627776/\ ∀c,sl.af=some c->lo<=c/\c<h.size/\t.af≠some c/\ ¬O c
theorem iS.mod {f:Nat}{b j:aa}{g k:Nat->Prop}{t t':Sl}{n:List Sl}{o:List (List Pr)}{p:Nat->Prop}(q:iS f b g t n o)(m:Mod p b j)(r: ∀c,f<=c->c<b.size->t.af≠some c-> ¬g c-> ¬p c)
  (s: ∀c,c<b.size->t'.af=some c->t.af=some c) (u: ∀c,c<b.size->k c->g c):iS f j k t' n o:=
 ⟨q.len,λw sl l h e=>by
  obtain⟨v,x,d⟩:=q.row w sl l h e;refine⟨v.mod m λc a=>r c (d c a).1 (d c a).2.1 (d c a).2.2.1 (d c a).2.2.2,x,λc a=>?_⟩;obtain⟨h,e,y,z⟩:=d c a;have:=m.size;exact⟨h,by omega,λi=>y (s c e i),λi=>z (u c e i)⟩⟩
end Go.Lf.G.M
namespace Go.Lf
open G
theorem View.val {b:aa}{s:Sl}{c:List hP}(v:View jJ b s c){i:Nat}{x:hP}(d:c[i]? =some x): ∃a,s.p=some a/\ag b (a.add (i*1))=some x.v:=by obtain⟨a,e,f⟩:=v.cells i x d;exact⟨a,e,f.val⟩
end Go.Lf
namespace Go.Lf.G.M
open Go Go.Lf Go.Lf.G
theorem AP9 {ba:al}{af:aa}{b:Nat}{T:Q7}{fr:Nat×Nat}{s:Sl}{S:Nat->Prop}{I:List hP}{os:List (Option (List Pr))}{out:List Pr}(D:af[b]? =some (J2 #[J4 s.p s.len s.cap] T fr))(v:View jJ af s I)
  (bb:I.length<=1099511627776) (bI:os.length=I.length)
  (bJ: ∀(i:Nat) (v:hP),I[i]? =some v->(v.v= .nilFunc/\os[i]? =some none)\/ ∃l,os[i]? =some (some l)/\EJ ba P v.v S af l/\l.length<=1099511627776) (bK:LG (os.filterMap id) out) (bc: ∀b,S b->b<af.size):
  EJ ba P (.func (.func Pm) #[] #[J5 (some ⟨b,0,none⟩)]) (λc=>S c\/(c<af.size/\(c=b\/s.af=some c))) af out:=by
 have bM:=Af D;refine⟨?_,_,_,rfl,λbN=>by kernel_rfl,λf aC bN aP R cn hd hB bO bd=>?_⟩
 ·rintro c (h|h)
  ·exact bc c h
  ·exact h.1
 rw[qk];refine ACz ?_;unfold VG;have be:=hB.wf _ _ _ _ bd;have bP:f[b]? =some (J2 #[J4 s.p s.len s.cap] T fr):=(aC b (.inr ⟨bM,.inl rfl⟩)).trans D;have bQ: ∀i x,I[i]? =some x-> ∃a,s.p=some a/\ag f (a.add (i*1))=some x.v:=λi x hi=>by
  obtain⟨a,aD,J⟩:=v.val hi;refine⟨a,aD,?_⟩;have bf:=UV J;rw[aM] at bf;have B:=aC _ (.inr ⟨bf,.inr (by simp[Sl.af,aD])⟩);exact(QD (by rw[aM];exact B)).trans J
 have bR: ∀c,S c->c<f.size:=λc h=>by
  have:=aC c (.inl h);rw[CD (bc c h)] at this;exact Af this
 refine AY.mk (AL bP rfl) ?_;refine Loop.rule (λm x L=> ∃(i:Nat) (t:Sl) (z:List Sl),x=(t,(i:Int),())/\m=I.length-i/\i<=I.length/\Ext f L/\Own hG AQ L t z/\(∀ c,t.af=some c->f.size<=c)/\iS f.size L R t z ((os.take i).filterMap id)/\z.length<=i) ?_
  ⟨0,⟨none,0,0⟩,[],rfl,rfl,by omega,Mod.refl,Own.nil,λc h=>by simp[Sl.af] at h,⟨by simp,λe sl l f=>by simp at f⟩,by simp⟩
 rintro K m _ L ⟨i,t,z,rfl,rfl,hi,O,C,ai,M,bg⟩ aq;refine ae.intro (λr=>?_) (λr=>?_)
 ·have aE:i<I.length:=by simp[v.len] at r;omega
  have bh:=A2 aE;refine ah.mk λco bi=>?_
  obtain⟨a,aD,J⟩:=bQ i _ bh;refine bH.mk aD (by rw[v.len];exact aE) ?_;refine Rj.mk (O.ag J) ?_;rcases bJ i _ bh with⟨bj,aQ⟩|⟨l,aQ,aR,bk⟩
  ·refine⟨by rw[bj];trivial,ae.no (by rw[bj];rfl) ?_⟩;refine bi _ _ (aq (I.length-(i+1)) _ _ (by omega) ⟨i+1,t,z,by rw[Ab (by omega)],rfl,by omega,O,C,ai,?_,by omega⟩);have:(os.take (i+1)).filterMap id=(os.take i).filterMap id:=by rw[Ax,aQ];simp
   rw[this];exact M
  ·refine⟨aR.one.2.1,ae.yes (by rw[aR.one.2.2];rfl) ?_⟩;refine Vs aR (λc h=>(O.get c (bR c h) (by simp)).trans (aC c (.inl h))) bk λar W aS au aF=>⟨ar,rfl,?_⟩
   refine ak.aY (E:=hG) (x:=ar) rfl AM6 (C.ext aF) (by omega) (by simp[maxLen];omega) λbm bS bT aG aT _=>?_
   have bU:Ext f bS:=(O.trans aF).then (aG.ai λc _ h=> .inr (ai c h));refine bi _ _ (aq (I.length-(i+1)) _ _ (by omega) ⟨i+1,bm,_,by rw[Ab (by omega)],rfl,by omega,bU,bT,?_,?_,?_⟩)
   ·intro c h;rcases aT c h with j|j
    ·exact ai c j
    ·have:=O.size;have:=aF.size;omega
   ·have B:(os.take (i+1)).filterMap id=(os.take i).filterMap id++ [l]:=by rw[Ax,aQ];simp
    rw[B];have aH:=(M.mod aF (λc _ _ _ _ f=>f) (λc _ f=>f) (λc _ f=>f)).mod (t':=bm) aG (λc _ _ N _=>N) (λc h j=>(aT c j).elim id λq=>by omega) (λc _ f=>f);refine⟨by simp[aH.len],λe sl H j q=>?_⟩;rcases HU e z.length with A|A|A
    ·rw[Fk A] at j;rw[Fk (by rw[<- aH.len];exact A)] at q;exact aH.row e sl H j q
    ·subst A;rw[A0e] at j;rw[aH.len,A0e] at q;cases j;cases q;have cp:t.af≠ar.af\/ar.af=none:=by
      cases aI:ar.af with
      |none=>exact .inr rfl
      |some c=>
       refine .inl λB=>?_
       have:=C.lt B;have:=au c aI;omega
     refine⟨(aS.view).mod aG λc h N=>?_,bk,λc h=>⟨?_,?_,?_,?_⟩⟩
     ·have:=C.lt N;have:=au c h;omega
     ·have:=au c h;have:=O.size;omega
     ·have:=aS.lt h;have:=aG.size;omega
     ·intro j;have:=aS.lt h;rcases aT c j with q|q
      ·have:=C.lt q;have:=au c h;omega
      ·omega
     ·intro j;have:=be c j;have:=au c h;have:=O.size;omega
    ·rw[Mu (by simp;omega)] at j;cases j
   ·simp;omega
 ·have aE:i=I.length:=by simp[v.len] at r;omega
  rw[aE,<-bI,C5] at M;have bn:=hB.bd _ _ _ _ _ bd (O.ai (S':=λb=>¬R b/\f.size<=b) λ_ _ f=>f.elim);refine Loop.rule (λm _ L=> ∃(i:Nat) (F:Nat->Prop) (z:List Sl) (k:List (List Pr)) (aj:List Pr),LG k aj/\m=aj.length/\(∀ n,out[i+n]? =aj[n]?)/\i+aj.length=out.length/\Mod R f L/\(∀ b,F b->R b\/f.size<=b)/\aP i true F L/\
    Own hG AQ L t z/\(∀ c,t.af=some c-> ¬F c)/\iS f.size L F t z k/\z.length<=1099511627776) ?_
   ⟨0,R,z,_,out,bK,rfl,λn=>by rw[AI],by omega,O.mod,λb D=> .inl D,bn,C,λc h N=>by have:=be c N;have:=ai c h;omega,M,by omega⟩
  clear aq M O C bg bn;rintro cq m _ L ⟨i,F,z,k,aj,bo,rfl,bp,aJ,aU,aV,A,C,aW,M,bg⟩ aq;have cr:=hB.wf _ _ _ _ A;refine Loop.rule (λm x aK=> ∃(d:Nat) (X:Int),x=(X,(d:Int),())/\aK=L/\m=k.length-d/\d<=k.length/\((X= -1/\ ∀e l,e<d->k[e]? =some l->l= [])\/
   ∃n p u,X=(n:Nat)/\n<d/\k[n]? =some (p::u)/\ ∀e o y,e<d->k[e]? =some (o::y)->aO o.key p.key=false/\(e<n->aO p.key o.key=true))) ?_
   ⟨0,-1,rfl,rfl,rfl,by omega,.inl ⟨rfl,λe l f=>by omega⟩⟩
  rintro cs m _ aK ⟨d,X,rfl,bV,rfl,N,aX⟩ aY;subst bV;have ct:=M.len;refine ae.intro (λr=>?_) (λr=>?_)
  ·have U:d<k.length:=by simp[C.len] at r;omega
   have G:=A2 U;have Y:=A2 (l:=z) (i:=d) (by omega);obtain⟨Z,bq,_⟩:=M.row d _ _ Y G;refine ah.mk λcu br=>?_
   refine C.view.idx Y λcv _ bW=>?_
   refine AY.mk bW.sl ?_;refine ah.mk λbs bt=>?_
   have bu:((X= -1/\ ∀e l,e<d+1->k[e]? =some l->l= [])\/
     ∃n p u,X=(n:Nat)/\n<d+1/\k[n]? =some (p::u)/\ ∀e o y,e<d+1->k[e]? =some (o::y)->aO o.key p.key=false/\(e<n->aO p.key o.key=true))->bs (false,()) aK:=λB=>
    bt _ _ (ae.no rfl (br _ _ (aY (k.length-(d+1)) _ _ (by omega) ⟨d+1,X,by rw[Ab (by omega)],rfl,rfl,by omega,B⟩)))
   have bv:(∃ n p u,(d:Int)=(n:Nat)/\n<d+1/\k[n]? =some (p::u)/\ ∀e o y,e<d+1->k[e]? =some (o::y)->aO o.key p.key=false/\(e<n->aO p.key o.key=true))->bs (true,()) aK:=λB=>
    bt _ _ (ae.yes rfl (br _ _ (aY (k.length-(d+1)) _ _ (by omega) ⟨d+1,d,by rw[Ab (by omega)],rfl,rfl,by omega,.inr B⟩)))
   refine ae.intro (λr=>?_) (λr=>?_)
   ·cases am:k[d] with
    |nil=>rw[am] at Z;have:=Z.len;simp[this] at r
    |cons o y=>
     rw[am] at Z G;rcases aX with⟨rfl,av⟩|⟨n,p,u,rfl,bw,ab,an⟩
     ·refine ae.yes (by simp) (bv ⟨d,o,y,rfl,by omega,G,λe ao ap A w=>?_⟩);rcases G0 e d with j|j
      ·have:=av e _ j w;cases this
      ·have:e=d:=by omega
       subst this;rw[G] at w;cases w;exact⟨Bo _,λf=>by omega⟩
     ·refine ae.no (by simp) ?_;refine Z.idx (i:=0) (x:=o) rfl λcw _ bX=>?_
      refine AJ.mk bX.pair.1 ?_;have aw:=A2 (l:=z) (i:=n) (by omega);obtain⟨aZ,_,_⟩:=M.row n _ _ aw ab;refine C.view.idx aw λbY _ a0=>?_
      refine AY.mk a0.sl ?_;refine aZ.idx (i:=0) (x:=p) rfl λbZ _ ax=>?_
      refine AJ.mk ax.pair.1 ?_;cases aI:aO o.key p.key
      ·refine bu (.inr ⟨n,p,u,rfl,by omega,ab,λe ao ap A w=>?_⟩);rcases G0 e d with j|j
       ·exact an e ao ap j w
       ·have:e=d:=by omega
        subst this;rw[G] at w;cases w;exact⟨aI,λf=>by omega⟩
      ·refine bv ⟨d,o,y,rfl,by omega,G,λe ao ap A w=>?_⟩;rcases G0 e d with j|j
       ·have q:=(an e ao ap j w).1;have W:=nD aI q;exact⟨Nq W,λ_=>W⟩
       ·have:e=d:=by omega
        subst this;rw[G] at w;cases w;exact⟨Bo _,λf=>by omega⟩
   ·have am:k[d]= []:=by
     have:=Z.len;cases am:k[d] with
     |nil=>rfl
     |cons o y=>rw[am] at this;simp[this] at r
    rw[am] at G;refine bu ?_;rcases aX with⟨rfl,av⟩|⟨n,p,u,rfl,bw,ab,an⟩
    ·refine .inl ⟨rfl,λe l A w=>?_⟩;rcases G0 e d with j|j
     ·exact av e l j w
     ·have:e=d:=by omega
      subst this;rw[G] at w;cases w;rfl
    ·refine .inr ⟨n,p,u,rfl,by omega,ab,λe ao ap A w=>?_⟩;rcases G0 e d with j|j
     ·exact an e ao ap j w
     ·have:e=d:=by omega
      subst this;rw[G] at w;cases w
  ·have U:d=k.length:=by simp[C.len] at r;omega
   subst U;clear aY;rcases aX with⟨rfl,av⟩|⟨n,p,u,rfl,bw,ab,an⟩
   ·refine ae.yes (by simp) ?_;have:aj= []:=bo.im λl bb=>by
     obtain⟨e,A,B⟩:=DB bb;exact av e l A (by rw[A2 A,B])
    subst this;refine⟨rfl,i,true,F,aU,aV,A,λ_=>by have:=aJ;simp only[FG] at this;omega,by have:=aJ;simp only[FG] at this;omega⟩
   ·refine ae.no (by simp) ?_;have b0: ∀e o y,k[e]? =some (o::y)->aO o.key p.key=false/\(e<n->aO p.key o.key=true):=λe o y J=>an e o y (List.getElem?_eq_some_iff.1 J).1 J
    obtain⟨bx,rfl,b1⟩:=bo.gv ab b0;have aw:=A2 (l:=z) (i:=n) (by omega);obtain⟨aZ,_,_⟩:=M.row n _ _ aw ab;refine C.view.idx aw λbY _ a0=>?_
    refine AY.mk a0.sl ?_;refine aZ.idx (i:=0) (x:=p) rfl λbZ _ ax=>?_
    refine AJ.mk ax.pair.1 (AJ.mk ax.pair.2.1 (Aa.mk ax.pair.2.2 ?_));refine ak.pair λb2 a1 cx b3 aL cy=>?_
    have b4:=C.ext aL;have b5:iS f.size a1 F t z k:=M.mod aL (λc _ _ _ _ f=>f) (λc _ f=>f) (λc _ f=>f);have b6:aP i true F a1:=hB.bd _ _ _ _ _ A (aL.ai (S':=λb=>¬F b/\f.size<=b) λ_ _ f=>f.elim);have b7:t.af≠some b2:=λB=>by have:=C.lt B;omega
    refine Loop.rule (λm x Q=> ∃(d:Nat) (V:List Sl),x=((d:Int),())/\m=k.length-d/\d<=k.length/\Mod (λc=>t.af=some c) a1 Q/\Own hG AQ Q t V/\iS f.size Q F t V ((k.take d).map (Ij p)++k.drop d)) ?_
     ⟨0,z,rfl,rfl,by omega,Mod.refl,b4,by simpa using b5⟩
    rintro cz m _ Q ⟨d,V,rfl,rfl,N,ay,ac,az⟩ b8;have b9:V.length=k.length:=by have:=az.len;simp at this;omega
    have aN:=ay.af b3 b7;refine ae.intro (λr=>?_) (λr=>?_)
    ·have U:d<k.length:=by simp[ac.len] at r;omega
     have Y:=A2 (l:=V) (i:=d) (by omega);have G:((k.take d).map (Ij p)++k.drop d)[d]? =some k[d]:=by rw[DE (by simp;omega)];simp;rw[GO (by omega),My];simp[U]
     obtain⟨Z,bq,cB⟩:=az.row d _ _ Y G;refine ac.view.idx Y λcC cD ca=>?_
     refine AY.mk ca.sl ?_;refine Loop.rule (λm x a2=> ∃(aA:Sl) (H:List Pr),x=(aA,())/\a2=Q/\m=H.length/\View BZ Q aA H/\(∀ c,aA.af=some c->V[d].af=some c)/\Ij p H=Ij p k[d]/\H.length<=1099511627776) ?_
      ⟨_,_,rfl,rfl,rfl,Z,λc f=>f,rfl,bq⟩
     rintro cE m _ a2 ⟨aA,H,rfl,cb,rfl,ad,a3,bz,bA⟩ cc;subst cb;refine ah.mk λcd bB=>?_
     have bC:Ij p H=H->cd (false,()) a2:=λB=>bB _ _ (ae.no rfl (by
      refine ac.view.idx Y λcF ce _=>?_
      refine ac.ji (i:=d) (by omega) ce λcf cg a4 cG=>?_
      refine b8 (k.length-(d+1)) _ _ (by omega) ⟨d+1,_,by rw[Ab (by omega)],rfl,by omega,ay.trans a4,cg,?_⟩;have a5:iS f.size cf F t V ((k.take d).map (Ij p)++k.drop d):=az.mod a4 (λc _ _ N _=>N) (λc _ f=>f) (λc _ f=>f);refine⟨?_,λe sl l j q=>?_⟩
      ·simp[b9];omega
      ·rcases HU e d with a6|a6|a6
       ·rw[Ks (by omega)] at j;refine a5.row e sl l j ?_;rw[Fk (by simp;omega)] at q ⊢;rw[Bm,Kf (by omega)] at q ⊢;exact q
       ·subst a6;rw[HM (by omega)] at j;cases j;rw[Fk (by simp;omega),Bm,Kf (by omega),A2 U] at q;simp at q;subst q;rw[<- bz,B];obtain⟨_,_,h⟩:=a5.row e _ _ Y G;exact⟨ad.mod a4 λc D=>(h c (a3 c D)).2.2.1,bA,λc D=>h c (a3 c D)⟩
       ·rw[Ks (by omega)] at j;refine a5.row e sl l j ?_;rw[DE (by simp;omega)] at q ⊢;simp only[BE,AE,Bs] at q ⊢;rw[<- q];congr 1;omega))
     refine ae.intro (λr=>?_) (λr=>?_)
     ·cases H with
      |nil=>have:=ad.len;simp[this] at r
      |cons o y=>
       refine ad.idx (i:=0) (x:=o) rfl λcH _ ch=>?_
       refine AJ.mk ch.pair.1 (AJ.mk (AL aN rfl) ?_);cases bD:(aO o.key p.key||bL o.key p.key)
       ·exact bC (by simp[Ij,upto,bD])
       ·have ci:=ad.len;simp at ci bA;refine bB _ _ (ae.yes rfl ⟨⟨by omega,by show(1:Int)<=((aA.len:Nat):Int);omega⟩,cc y.length _ _ (by simp) ⟨_,y,rfl,rfl,rfl,?_,?_,?_,by omega⟩⟩)
        ·have:=ad.sub (lo:=1) (hi:=(o::y).length) (by simp) (A0 _);rw[C5,<-ad.len] at this;exact this
        ·intro c h;exact a3 c (Ze h)
        ·rw[<- bz];simp[Ij,upto,bD]
     ·have:H= []:=by
       have:=ad.len;cases H with
       |nil=>rfl
       |cons o y=>simp[this] at r
      subst this;exact bC rfl
    ·have U:d=k.length:=by simp[ac.len] at r;omega
     subst U;rw[C5,PC,AM] at az;refine AJ.mk (AL aN rfl) (AJ.mk (AB aN rfl) (Aa.mk (AB aN rfl) ?_));have cj:aP i true F Q:=hB.bd _ _ _ _ _ b6 (ay.ai λc _ h=>⟨aW c h,ai c h⟩);have ck:out[i]? =some p:=by have:=bp 0;simpa using this
     refine Du.mono (bO i p F Q ck cj) ?_;rintro _ cl ⟨g,a7,rfl,a8,a9,bE⟩;have cI:=ay.size;have cJ:=aU.size;have bF: ∀b,a7 b->R b\/f.size<=b:=λb D=>(a8 b D).elim (aV b) λcK=> .inr (by omega)
     have cm:Mod R f Q:=(aU.trans aL.mod).then (ay.ai λb _ D=> .inr (ai b D));have bG:Mod R f cl:=cm.then (a9.ai λb _ D=>aV b D);refine⟨g,rfl,ae.intro (λr=>?_) (λr=>?_)⟩
     ·have J:g=false:=by simpa using r
      subst J;exact⟨rfl,i+1,false,a7,bG,bF,bE,(λf=>by cases f),by simp at aJ;omega⟩
     ·have J:g=true:=by simpa using r
      subst J;refine aq bx.length _ _ (by simp) ⟨i+1,a7,V,_,bx,b1,rfl,λn=>?_,by simp at aJ;omega,bG,bF,bE,ac.mod a9 (λc h=>aW c h),?_,?_,by omega⟩
      ·have:=bp (n+1);rw[show i+1+n=i+(n+1) by omega,this];rfl
      ·intro c h q;rcases a8 c q with W|W
       ·exact aW c h W
       ·have:=ac.lt h;omega
      ·exact az.mod a9 (λc _ _ _ N=>N) (λc _ f=>f) (λc h q=>(a8 c q).elim id λW=>by omega)
def Sorted(l:List Pr):Prop:=l.Pairwise λa b=>aO a.key b.key=true
def Ae(a:A2P)(l:List Pr):Option Pr:=l.find? λb=>decide (b.key=a)
theorem UM(a:A2P):Ae a []=none:=rfl
theorem BB(a:A2P)(x:Pr)(l:List Pr):Ae a (x::l)=if x.key=a then some x else Ae a l:=by unfold Ae;rw[DO];by_cases b:x.key=a<;>simp[b]
theorem Np {b:A2P}{l:List Pr}{x:Pr}(a:Ae b l=some x):x.key=b/\x∈l:=by unfold Ae at a;exact⟨by simpa using IN a,IS a⟩
theorem Ee {a:A2P}{l:List Pr}(b: ∀x∈l,x.key≠a):Ae a l=none:=by unfold Ae;rw[HI];simpa using b
theorem OD {a b:A2P}(c:aO a b=true):a≠b:=by rintro rfl;rw[Bo] at c;cases c
theorem Sorted.find {l:List Pr}(s:Sorted l){x:Pr}(a:x∈l):Ae x.key l=some x:=by
 induction l with
 |nil=>cases a
 |cons d l c=>
  rw[BB];have b:=List.pairwise_cons.1 s;rcases List.mem_cons.1 a with rfl|a
  ·simp
  ·rw[if_neg (OD (b.1 x a))];exact c b.2 a
theorem Sorted.ext: ∀ {l m:List Pr},Sorted l->Sorted m->(∀ d,Ae d l=Ae d m)->l=m
 | [],[],_,_,_=>rfl
 | [],a::m,_,_,b=>by have:=b a.key;rw[BB,if_pos rfl] at this;cases this
 |x::l,[],_,_,b=>by have:=b x.key;rw[BB,if_pos rfl] at this;cases this
 |x::l,a::m,sl,p,b=>by
  have g:=List.pairwise_cons.1 sl;have h:=List.pairwise_cons.1 p;have f:x.key=a.key:=by
   have e:=b x.key;have n:=b a.key;rw[BB,if_pos rfl] at e;rw[BB a.key a m,if_pos rfl] at n;have i:=(Np e.symm).2;have j:=(Np n).2;rcases List.mem_cons.1 i with c|i
   ·rw[c]
   ·rcases List.mem_cons.1 j with c|j
    ·rw[c]
    ·have q:=h.1 x i;have o:=g.1 a j;rw[Nq q] at o;cases o
  have r:x=a:=by have e:=b x.key;rw[BB,BB,if_pos rfl,if_pos f.symm] at e;exact BT e
  subst r;rw[Sorted.ext g.2 h.2 λd=>?_];have:=b d;rw[BB,BB] at this;by_cases f:x.key=d
  ·subst f;rw[Ee λa k c=>OD (g.1 a k) c.symm,Ee λa k c=>OD (h.1 a k) c.symm]
  ·simpa [f] using this
def ins(x:Pr):List Pr->List Pr
 | []=> [x]
 |q::l=>if aO q.key x.key then q::ins x l else if q.key=x.key then x::l else x::q::l
theorem mL(x:Pr): ∀l,XY x l=ins x l
 | []=>rfl
 |q::l=>by
  unfold ins;cases b:aO q.key x.key
  ·have a:gY x.key (q::l)= []:=by simp[gY,b]
   by_cases c:q.key=x.key
   ·simp[XY,aS,a,BL,c]
   ·simp[XY,aS,a,BL,c]
  ·have a:gY x.key (q::l)=q::gY x.key l:=by simp[gY,b]
   have d:aS x.key (q::l)=aS x.key l+1:=by simp[aS,a]
   have f:BL x.key (q::l)=BL x.key l:=by simp[BL,d]
   have e:=mL x l;unfold XY at e ⊢;rw[d,f];have g:(if BL x.key l=true then aS x.key l+1+1 else aS x.key l+1)=(if BL x.key l=true then aS x.key l+1 else aS x.key l)+1:=by split<;>rfl
   rw[g,HX,HS,F0,F0,e];simp
theorem ql {x b:Pr}: ∀ {l:List Pr},b∈ins x l->b=x\/b∈l
 | [],a=>by simp[ins] at a;exact .inl a
 |q::l,a=>by
  unfold ins at a;split at a
  ·rcases List.mem_cons.1 a with rfl|a
   ·exact .inr (by simp)
   ·rcases ql a with a|a
    ·exact .inl a
    ·exact .inr (by simp[a])
  ·split at a
   ·rcases List.mem_cons.1 a with rfl|a
    ·exact .inl rfl
    ·exact .inr (by simp[a])
   ·rcases List.mem_cons.1 a with rfl|a
    ·exact .inl rfl
    ·exact .inr a
theorem WK(x:Pr): ∀ {l:List Pr},Sorted l->Sorted (ins x l)
 | [],_=>A0f _ _
 |q::l,s=>by
  have b:=List.pairwise_cons.1 s;unfold ins;split
  ·rename_i d;refine List.pairwise_cons.2 ⟨λc a=>?_,WK x b.2⟩;rcases ql a with rfl|a
   ·exact d
   ·exact b.1 c a
  ·rename_i d;split
   ·rename_i e;refine List.pairwise_cons.2 ⟨λc a=>?_,b.2⟩;have:=b.1 c a;rwa [e] at this
   ·rename_i e;have f:aO x.key q.key=true:=by
     cases g:aO x.key q.key
     ·exact absurd (NU (by simpa using d) g) e
     ·rfl
    refine List.pairwise_cons.2 ⟨λc a=>?_,s⟩;rcases List.mem_cons.1 a with rfl|a
    ·exact f
    ·exact DJ f (b.1 c a)
theorem Wy(x:Pr)(a:A2P): ∀ {l:List Pr},Sorted l->Ae a (ins x l)=if x.key=a then some x else Ae a l
 | [],_=>by simp[ins,BB,UM]
 |q::l,s=>by
  have c:=List.pairwise_cons.1 s;unfold ins;split
  ·rename_i d;rw[BB,BB,Wy x a c.2];by_cases b:q.key=a
   ·have e:x.key≠a:=by rw[<- b];exact λf=>OD d f.symm
    simp[b,e]
   ·simp[b]
  ·split
   ·rename_i g;rw[BB,BB,g];by_cases b:x.key=a<;>simp[b]
   ·rw[BB]
def BV(l:List Pr):Prop:= ∀x∈l,Ah x=0
theorem QK {x:Pr}{l:List Pr}(a:Ah x=0):Ca x l=ins x l:=by simp[Ca,a,mL]
theorem O0 {x:Pr}{l:List Pr}(s:Sorted l):Sorted (Ca x l):=by
 by_cases a:Ah x=0
 ·rw[QK a];exact WK x s
 ·simpa [Ca,a] using s
theorem ux {x:Pr}{l:List Pr}(g:BV l):BV (Ca x l):=by
 by_cases a:Ah x=0
 ·rw[QK a];exact λb c=>(ql c).elim (λd=>d▸a) (g b)
 ·simpa [Ca,a] using g
def A8(t l:List Pr):List Pr:=l.foldl (λt x=>Ca x t) t
theorem Qf {l:List Pr}: ∀ {t},Sorted t->Sorted (A8 t l):=by
 induction l with
 |nil=>exact λs=>s
 |cons x l a=>exact λs=>a (O0 s)
theorem Wj {l:List Pr}: ∀ {t},BV t->BV (A8 t l):=by
 induction l with
 |nil=>exact λs=>s
 |cons x l a=>exact λs=>a (ux s)
theorem QT {l:List Pr}: ∀ {t},(A8 t l).length<=t.length+l.length:=by
 induction l with
 |nil=>exact λ{t}=>by simp[A8]
 |cons x l a=>intro t;have:=a (t:=Ca x t);have:=AMx x t;simp[A8] at *;omega
theorem AJf {l:List Pr}(a:A2P): ∀ {t},Sorted t->Sorted l->BV l->Ae a (A8 t l)=(Ae a l).or (Ae a t):=by
 induction l with
 |nil=>intro t _ _ _;simp[A8,UM]
 |cons x l f=>
  intro t st sl g;have d:=List.pairwise_cons.1 sl;show Ae a (A8 (Ca x t) l)=_;rw[f (O0 st) d.2 (λb c=>g b (by simp[c])),QK (g x (by simp)),Wy x a st,BB];by_cases e:x.key=a
  ·subst e;rw[Ee λb c h=>OD (d.1 b c) h.symm];simp
  ·simp[e]
def Ag(a:List (List Pr)):List Pr:=a.reverse.foldl A8 []
theorem NR(l:List Pr)(a:List (List Pr)):Ag (l::a)=A8 (Ag a) l:=by simp[Ag,I0]
theorem Dp: ∀a,Sorted (Ag a)
 | []=>List.Pairwise.nil
 |l::a=>by rw[NR];exact Qf (Dp a)
structure bE (ls:List (List Pr)):Prop where
 sorted: ∀l∈ls,Sorted l
 aC: ∀l∈ls,BV l
def Ar(a:A2P)(b:List (List Pr)):Option Pr:=b.findSome? (Ae a)
theorem ED(a:A2P)(l:List Pr)(b:List (List Pr)):Ar a (l::b)=(Ae a l).or (Ar a b):=by unfold Ar;rw[RE];cases Ae a l<;>rfl
theorem JL(b:A2P): ∀ {a},bE a->Ae b (Ag a)=Ar b a
 | [],_=>rfl
 |l::a,c=>by
  rw[NR,AJf b (Dp a) (c.sorted l (by simp)) (c.aC l (by simp)),JL b ⟨λm d=>c.sorted m (by simp[d]),λm d=>c.aC m (by simp[d])⟩,ED]
theorem UO(p:Pr)(l:List Pr):(Ij p l).Sublist l:=List.dropWhile_sublist _
theorem AIp {p q:Pr}(a:upto p q=false):aO p.key q.key=true:=by
 unfold upto at a;rw[CY] at a;simp at a;cases b:aO p.key q.key
 ·exact absurd (NU a.1 b) a.2
 ·rfl
theorem ALe {p b:Pr}(a:upto p b=true):aO p.key b.key=false:=by
 unfold upto at a;rw[CY] at a;simp at a;rcases a with a|a
 ·exact Nq a
 ·rw[a];exact Bo _
theorem Yt {p q:Pr}: ∀ {l:List Pr},Sorted l->q∈Ij p l->aO p.key q.key=true
 | [],_,a=>by cases a
 |y::l,s,a=>by
  have b:=List.pairwise_cons.1 s;unfold Ij at a;rw[List.dropWhile_cons] at a;split at a
  ·exact Yt b.2 a
  ·rename_i d;have c:=AIp (p:=p) (q:=y) (by simpa using d);rcases List.mem_cons.1 a with rfl|a
   ·exact c
   ·exact DJ c (b.1 q a)
theorem uy {p:Pr}{a:A2P}(b:aO p.key a=true): ∀ {l:List Pr},Ae a (Ij p l)=Ae a l
 | []=>rfl
 |y::l=>by
  unfold Ij;rw[List.dropWhile_cons];split
  ·rename_i d;have c:=ALe d;rw[BB,if_neg (by rintro rfl;rw[b] at c;cases c)];exact uy b
  ·rfl
theorem LG.ok {a:List (List Pr)}{out:List Pr}(m:LG a out):(∀ l∈a,Sorted l)->Sorted out/\ ∀b,Ae b out=Ar b a:=by
 induction m with
 |done g=>
  rename_i a;intro _;refine⟨List.Pairwise.nil,λb=>?_⟩;have: ∀a:List (List Pr),(∀ l∈a,l= [])->Ar b a=none:=λa g=>by
   unfold Ar;rw[RK];intro l d;rw[g l d];rfl
  rw[this a g];rfl
 | @step a b p t out F C y r=>
  intro h;have G: ∀l∈a.map (Ij p),Sorted l:=λl d=>by
   obtain⟨o,s,rfl⟩:=List.mem_map.1 d;exact(h o s).sublist (UO p o)
  obtain⟨D,E⟩:=r G;have H: ∀e∈out,aO p.key e.key=true:=λe q=>by
   have f:=D.find q;rw[E] at f;unfold Ar at f;obtain⟨l,d,k⟩:=A0h f;obtain⟨o,s,rfl⟩:=List.mem_map.1 d;exact Yt (h o s) (Np k).2
  refine⟨List.pairwise_cons.2 ⟨H,D⟩,λc=>?_⟩;have I: ∀l∈a,∀e∈l,aO e.key p.key=false:=λl d e q=>by
   obtain⟨i,v,j⟩:=DB d;cases l with
   |nil=>cases q
   |cons w u=>
    have f:=(C i w u (by rw[A2 v,j])).1;have z:=List.pairwise_cons.1 (h _ d);rcases List.mem_cons.1 q with rfl|q
    ·exact f
    ·cases k:aO e.key p.key
     ·rfl
     ·have:=DJ (z.1 e q) k;rw[this] at f;cases f
  rw[BB];by_cases A:p.key=c
  ·subst A;simp only[if_true];have: ∀(a:List (List Pr)) (b:Nat),a[b]? =some (p::t)->(∀ i e u,a[i]? =some (e::u)->i<b->aO p.key e.key=true)->(∀ l∈a,Sorted l)->Ar p.key a=some p:=by
    intro a
    induction a with
    |nil=>intro b g;simp at g
    |cons l a r=>
     intro b g y h;rw[ED];cases b with
     |zero=>simp at g;subst g;rw[BB,if_pos rfl];rfl
     |succ b=>
      have J:Ae p.key l=none:=by
       cases l with
       |nil=>rfl
       |cons w u=>
        have f:=y 0 w u rfl (by omega);have z:=List.pairwise_cons.1 (h _ (by simp:(w::u)∈(w::u)::a));refine Ee λx n j=>?_
        rcases List.mem_cons.1 n with rfl|n
        ·rw[j,Bo] at f;cases f
        ·have:=DJ f (z.1 x n);rw[j,Bo] at this;cases this
      rw[J,Mn];exact r b (by simpa using g) (λi e u v M=>y (i+1) e u (by simpa using v) (by omega)) (λl d=>h l (by simp[d]))
   rw[this a b F (λi e u v=>(C i e u v).2) h]
  ·rw[if_neg A,E];unfold Ar;cases k:aO p.key c
   ·
    have B:aO c p.key=true:=by
     cases B:aO c p.key
     ·exact absurd (NU k B) A
     ·rfl
    have K:(a.map (Ij p)).findSome? (Ae c)=none:=by
     rw[RK];intro l d;obtain⟨o,s,rfl⟩:=List.mem_map.1 d;refine Ee λx n j=>?_
     have:=Yt (h o s) n;rw[j,k] at this;cases this
    have L:a.findSome? (Ae c)=none:=by
     rw[RK];intro l d;refine Ee λx n j=>?_
     have:=I l d x n;rw[j,B] at this;cases this
    rw[K,L]
   ·have: ∀a:List (List Pr),(a.map (Ij p)).findSome? (Ae c)=a.findSome? (Ae c):=λa=>by
     induction a with
     |nil=>rfl
     |cons l a r=>rw[By,RE,RE,uy k,r]
    rw[this]
theorem Tj: ∀(e:List (List Pr)),(∀ l∈e,l= [])\/ ∃(f:Nat) (p:Pr) (t:List Pr),e[f]? =some (p::t)/\ ∀(a:Nat) (c:Pr) (u:List Pr),e[a]? =some (c::u)->aO c.key p.key=false/\(a<f->aO p.key c.key=true)
 | []=> .inl λl d=>by cases d
 |l::e=>by
  cases l with
  |nil=>
   rcases Tj e with d|⟨f,p,t,i,g⟩
   ·refine .inl λl j=>?_
    rcases List.mem_cons.1 j with rfl|j
    ·rfl
    ·exact d l j
   ·refine .inr ⟨f+1,p,t,by simpa using i,λa c u b=>?_⟩;cases a with
    |zero=>simp at b
    |succ a=>have:=g a c u (by simpa using b);exact⟨this.1,λd=>this.2 (by omega)⟩
  |cons k u=>
   rcases Tj e with d|⟨f,p,t,i,g⟩
   ·refine .inr ⟨0,k,u,rfl,λa c h b=>⟨?_,λd=>by omega⟩⟩;cases a with
    |zero=>simp at b;rw[b.1];exact Bo _
    |succ a=>have:=d _ (AK (by simpa using b));cases this
   ·cases m:aO p.key k.key
    ·refine .inr ⟨0,k,u,rfl,λa c h b=>⟨?_,λd=>by omega⟩⟩;cases a with
     |zero=>simp at b;rw[b.1];exact Bo _
     |succ a=>exact Yp m (g a c h (by simpa using b)).1
    ·refine .inr ⟨f+1,p,t,by simpa using i,λa c h b=>?_⟩;cases a with
     |zero=>simp at b;rw[<- b.1];exact⟨Nq m,λ_=>m⟩
     |succ a=>have:=g a c h (by simpa using b);exact⟨this.1,λd=>this.2 (by omega)⟩
def total(a:List (List Pr)):Nat:=(a.map List.length).sum
theorem Wv(p:Pr): ∀a,total (a.map (Ij p))<=total a
 | []=>A0 _
 |l::a=>by
  have:=Wv p a;have:=(UO p l).length_le;simp[total] at *;omega
theorem YH {p:Pr}{t:List Pr}: ∀ {ls:List (List Pr)} {k:Nat},ls[k]? =some (p::t)->total (ls.map (Ij p))<total ls
 | [],k,a=>by simp at a
 |l::ls,0,a=>by
  simp at a;subst a;have b:=Wv p ls;have c:=(UO p t).length_le;have d:Ij p (p::t)=Ij p t:=by simp[Ij,upto,CY]
  simp only[total,By,GS,d,A5] at*
  omega
 |l::ls,k+1,a=>by
  have b:=YH (p:=p) (t:=t) (ls:=ls) (k:=k) (by simpa using a);have c:=(UO p l).length_le;simp only[total,By,GS] at*
  omega
theorem AEG(a:List (List Pr)): ∃out,LG a out/\out.length<=total a:=by
 generalize h:total a=b
 induction b using Nat.strongRecOn generalizing a with
 |_ b d=>
  rcases Tj a with e|⟨i,p,t,c,f⟩
  ·exact⟨[],.done e,by simp⟩
  ·have j:=YH c;obtain⟨out,g,k⟩:=d _ (by omega) (a.map (Ij p)) rfl;exact⟨p::out,.step c f g,by simp;omega⟩
theorem rV {t l:List Pr}{a:Nat}{x:Pr}(b:l[a]? =some x):A8 t (l.take (a+1))=Ca x (A8 t (l.take a)):=by rw[Ax,b];simp only[A8,I0,DM,I2,N6]
theorem Sd: ∀a,(Ag a).length<=total a
 | []=>A0 _
 |l::a=>by
  rw[NR];have:=Sd a;have:=QT (l:=l) (t:=Ag a);simp[total] at *;omega
theorem XL: ∀a,BV (Ag a)
 | []=>λ_ b=>by cases b
 |l::a=>by rw[NR];exact Wj (XL a)
theorem zH(l:List Pr)(a:List (List Pr)):total (l::a)=l.length+total a:=by simp[total]
def rX(f:al)(d:Nat->Prop)(a:aa)(s:Sl)(e:List (List Pr)):Prop:=
 ∃b,View jJ a s b/\(∀ c,s.af=some c->c<a.size/\ ¬d c)/\b.length=e.length/\ ∀(i:Nat) (v:hP) (l:List Pr),b[i]? =some v->e[i]? =some l->(v.v= .nilFunc/\l= [])\/(EJ f P v.v (λc=>c<a.size/\ ¬d c) a l/\l.length<=1099511627776)
end Go.Lf.G.M
namespace Go.Lf
open G
theorem EJ.later {f:al}{d:Nat->Prop}{fv:J0}{b e:aa}{l:List Pr}(h:EJ f P fv (λc=>c<b.size/\ ¬d c) b l){g:Nat->Prop}(x:Mod g b e)(i: ∀c,c<b.size->g c->d c):EJ f P fv (λc=>c<e.size/\ ¬d c) e l:=
 h.ai (λc a=>⟨by have:=x.size;omega,a.2⟩) (λc a=>a.1) λc a=>x.get c a.1 λj=>a.2 (i c a.1 j)
end Go.Lf
namespace Go.Lf.G.M
open Go Go.Lf Go.Lf.G
theorem rO {p:al}{k:Nat->Prop}{a:aa}{s:Sl}{ls:List (List Pr)}{x:A2O}(G:rX p k a s ls)(hX: ∀c,k c->c<a.size)(t:ls.length<=1099511627776)(u:bE ls)
  (y: ∀fv n,EJ p P fv (λc=>c<n.size/\ ¬k c) n (Ag ls)->Ext a n->n.size=a.size+1->x fv n):AA p P Ot #[J4 s.p s.len s.cap] a x:=by
 obtain⟨q,v,z,w,A⟩:=G;refine AFy ?_;unfold tE;refine ak.mk λg _ B r C=>?_
 have H: ∃os:List (Option (List Pr)),os.length=q.length/\(∀ (i:Nat) (v:hP),q[i]? =some v->(v.v= .nilFunc/\os[i]? =some none)\/ ∃l,os[i]? =some (some l)/\EJ p P v.v (λc=>c<a.size/\ ¬k c) a l/\l.length<=1099511627776)/\
   (∀ l,l∈os.filterMap id->l∈ls)/\ ∀b,Ar b (os.filterMap id)=Ar b ls:=by
  clear v hX t u y B r C z
  induction q generalizing ls with
  |nil=>
   have:ls= []:=CC w.symm;subst this;exact⟨[],rfl,λi v a=>by simp at a,λl a=>by simp at a,λb=>rfl⟩
  |cons v q I=>
   cases ls with
   |nil=>simp at w
   |cons l ls=>
    obtain⟨os,g,h,D,E⟩:=I (ls:=ls) (by simpa using w) (λi v l g h=>A (i+1) v l (by simpa using g) (by simpa using h));rcases A 0 v l rfl rfl with⟨j,o⟩|⟨j,o⟩
    ·refine⟨none::os,by simp[g],λi v e=>?_,λm d=>?_,λb=>?_⟩
     ·cases i with
      |zero=>simp at e;subst e;exact .inl ⟨j,rfl⟩
      |succ i=>exact h i v (by simpa using e)
     ·simp at d;exact An _ (D m (by simpa using d))
     ·subst o;rw[ED];simpa [UM] using E b
    ·refine⟨some l::os,by simp[g],λi v e=>?_,λm d=>?_,λb=>?_⟩
     ·cases i with
      |zero=>simp at e;subst e;exact .inr ⟨l,rfl,j,o⟩
      |succ i=>exact h i v (by simpa using e)
     ·simp at d;rcases d with rfl|d
      ·simp
      ·exact An _ (D m (by simpa using d))
     ·rw[ED,XS];simp only[id];rw[ED,E b]
 obtain⟨os,J,K,L,M⟩:=H;obtain⟨out,d,_⟩:=AEG (os.filterMap id);have N:out=Ag ls:=by
  have F:=d.ok λl t=>u.sorted l (L l t)
  exact F.1.ext (Dp ls) λb=>by rw[F.2 b,M b,JL b u]
 subst N;refine y _ g ((AP9 (S:=λc=>c<a.size/\ ¬k c) B (v.ext r) (by omega) J (λi v e=>?_) d (λc f=>by omega)).ai ?_ (λc f=>f.1) (λc _=>rfl)) r C
 ·rcases K i v e with j|⟨l,j,o,O⟩
  ·exact .inl j
  ·exact .inr ⟨l,j,o.ai (λc f=>f) (λc f=>by omega) (λc f=>r.get c f.1 (λa=>a)),O⟩
 ·rintro c (f|⟨g,h⟩)
  ·exact⟨by omega,f.2⟩
  ·refine⟨g,?_⟩;rcases h with rfl|h
   ·intro a;have:=hX _ a;omega
   ·exact(z c h).2
theorem Ph(a:A2P)(b c:List (List Pr)):Ar a (b++c)=(Ar a b).or (Ar a c):=by unfold Ar;rw[List.findSome?_append]
theorem Nb(a:A2P)(l m:List Pr):Ae a (l++m)=(Ae a l).or (Ae a m):=by unfold Ae;rw[List.find?_append]
structure DC where
 af:Nat
 pr:Pr
 ht:Nat
def cR(nx:Nat->Q2):List J0:=(List.range 12).map λi=>J5 (nx i)
def FH(p:Pr)(nx:Nat->Q2):Array J0:=(([J7 p.key,J7 p.val,J3 p.gone]:List J0)++cR nx).toArray
def DY(nx:Nat->Q2)(a b:Int):Array J0:=(([J7 ⟨#[]⟩,J7 ⟨#[]⟩,J3 false]:List J0)++cR nx++([J6 J9 a,J6 J9 b]:List J0)).toArray
theorem BO(nx:Nat->Q2):(cR nx).length=12:=by simp[cR]
theorem Sr {nx:Nat->Q2}{i:Nat}(a:i<12):(cR nx)[i]? =some (J5 (nx i)):=by simp[cR,a]
theorem qj {nx:Nat->Q2}{i:Nat}(v:Q2):(cR nx).set i (J5 v)=cR (λa=>if a=i then v else nx a):=by
 refine List.ext_getElem? λa=>?_
 by_cases b:a<12
 ·rw[MY,Sr b,Sr b,BO];by_cases c:i=a
  ·subst c;simp[b]
  ·simp[c,Ne.symm c]
 ·rw[Mu (by simp[BO];omega),Mu (by simp[BO];omega)]
theorem AMz {p:Pr}{nx:Nat->Q2}{i:Nat}(a:i<12):(FH p nx)[3+i]? =some (J5 (nx i)):=by simp only[FH,N2];rw[DE (by simp)];simpa using Sr a
theorem ANZ {nx:Nat->Q2}{a b:Int}{i:Nat}(c:i<12):(DY nx a b)[3+i]? =some (J5 (nx i)):=by simp only[DY,N2];rw[A4,DE (by simp),Fk (by simp[BO];omega)];simpa using Sr c
theorem lK {nx:Nat->Q2}{a b:Int}:(DY nx a b)[15]? =some (J6 J9 a)/\(DY nx a b)[16]? =some (J6 J9 b):=by
 simp only[DY,N2];constructor
 ·rw[DE (by simp[BO])];simp[BO]
 ·rw[DE (by simp[BO])];simp[BO]
theorem Qb {p:Pr}{nx:Nat->Q2}:(FH p nx).size=15:=by simp[FH,BO]
theorem cV {nx:Nat->Q2}{a b:Int}:(DY nx a b).size=17:=by simp[DY,BO]
theorem uo {p:Pr}{nx:Nat->Q2}{i:Nat}(v:Q2):(FH p nx).setIfInBounds (3+i) (J5 v)=FH p (λa=>if a=i then v else nx a):=by apply Array.toList_inj.1;rw[Fm];simp only[FH,N3];rw[HL _ _ (by simp),<-qj v];simp
theorem AN4 {nx:Nat->Q2}{a b:Int}{i:Nat}(d:i<12)(v:Q2):(DY nx a b).setIfInBounds (3+i) (J5 v)=DY (λc=>if c=i then v else nx c) a b:=by apply Array.toList_inj.1;rw[Fm];simp only[DY,N3];rw[A4,HL _ _ (by simp),List.set_append_left _ _ (by simp[BO];omega),<-qj v];simp
theorem ALh {nx:Nat->Q2}{c a b:Int}:(DY nx c a).setIfInBounds 15 (J6 J9 b)=DY nx b a:=by apply Array.toList_inj.1;rw[Fm];simp only[DY,N3];rw[HL _ _ (by simp[BO])];simp[BO]
theorem ur {nx:Nat->Q2}{a c b:Int}:(DY nx a c).setIfInBounds 16 (J6 J9 b)=DY nx a b:=by apply Array.toList_inj.1;rw[Fm];simp only[DY,N3];rw[HL _ _ (by simp[BO])];simp[BO]
theorem Cf {a:aa}{b i:Nat}{l:Nat->Q2}{T:Q7}{fr:Nat×Nat}(c:a[b]? =some (J2 (cR l).toArray T fr))(d:i<12):ag a ⟨b,i,none⟩=some (J5 (l i)):=by rw[Hl c,N2];exact Sr d
def addrAt(t:Nat)(ns:List DC)(p:Nat):Q6:=match p with|0=>⟨t,0,none⟩|p+1=>match ns[p]? with|some x=>⟨x.af,0,none⟩|none=>⟨t,0,none⟩
def R4(ns:List DC)(p:Nat):Nat:=match p with|0=>12|p+1=>match ns[p]? with|some x=>x.ht|none=>0
def Cv(i:Nat)(l:List DC):Q2:=(l.find? λx=>decide (i<x.ht)).map λx=>⟨x.af,0,none⟩
def cQ(t:Nat)(ns:List DC)(b:Nat):Prop:=b=t\/ ∃x∈ns,x.af=b
structure Lay (h:aa) (t:Nat) (ns:List DC) (nx:Nat->Nat->Q2) (n sz:Int):Prop where
 head:h[t]? =some (J2 (DY (nx 0) n sz) uA (0,0))
 node: ∀(j:Nat) (x:DC),ns[j]? =some x->h[x.af]? =some (J2 (FH x.pr (nx (j+1))) Qi (0,0))/\x.af≠t
 apart:ns.Pairwise λx y=>x.af≠y.af
structure kq (ns:List DC) (nx:Nat->Nat->Q2):Prop where
 link: ∀p i,p<=ns.length->i<12->i<R4 ns p->nx p i=Cv i (ns.drop p)
 ht: ∀x∈ns,1<=x.ht/\x.ht<=12
theorem Lay.mod {c d:aa}{t:Nat}{ns:List DC}{nx:Nat->Nat->Q2}{e f:Int}{g:Nat->Prop}(l:Lay c t ns nx e f)(m:Mod g c d)(h: ∀b,cQ t ns b-> ¬g b):Lay d t ns nx e f:=
 ⟨m.af l.head (h _ (.inl rfl)),λi x a=>⟨m.af (l.node i x a).1 (h _ (.inr ⟨x,AK a,rfl⟩)),(l.node i x a).2⟩,l.apart⟩
theorem Lay.ext {a b:aa}{t:Nat}{ns:List DC}{nx:Nat->Nat->Q2}{c d:Int}(l:Lay a t ns nx c d)(m:Ext a b):Lay b t ns nx c d:=l.mod m λ_ _ a=>a
theorem Lay.lt {a:aa}{t:Nat}{ns:List DC}{nx:Nat->Nat->Q2}{c d:Int}(l:Lay a t ns nx c d){b:Nat}(e:cQ t ns b):b<a.size:=by
 rcases e with rfl|⟨x,f,rfl⟩
 ·exact Af l.head
 ·obtain⟨g,h,i⟩:=DB f;exact Af (l.node g x (by rw[A2 h,i])).1
theorem Lay.next {a:aa}{t:Nat}{ns:List DC}{nx:Nat->Nat->Q2}{d e:Int}(l:Lay a t ns nx d e){p i:Nat}(g:p<=ns.length)(b:i<12):ag a (((addrAt t ns p).add 3).add (i*1))=some (J5 (nx p i)):=by
 rw[add_add,Bk];cases p with
 |zero=>show ag a ((⟨t,0,none⟩:Q6).add (3+i))=_;exact AB l.head (ANZ b)
 |succ p=>
  have c:=A2 (l:=ns) (i:=p) (by omega);have f:addrAt t ns (p+1)=⟨ns[p].af,0,none⟩:=by simp[addrAt,c]
  rw[f];exact AB (l.node p _ c).1 (AMz b)
theorem Lay.pair {a:aa}{t:Nat}{ns:List DC}{nx:Nat->Nat->Q2}{d e:Int}(l:Lay a t ns nx d e){c:Nat}{x:DC}(f:ns[c]? =some x):
  ag a ⟨x.af,0,none⟩=some (J7 x.pr.key)/\ag a ((⟨x.af,0,none⟩:Q6).add 1)=some (J7 x.pr.val)/\ag a ((⟨x.af,0,none⟩:Q6).add 2)=some (J3 x.pr.gone):=by
 have b:=(l.node c x f).1;exact⟨AL b rfl,AB b rfl,AB b rfl⟩
theorem AGG {i:Nat}{l:List DC}{a:Q6}(b:Cv i l=some a): ∃e x,l[e]? =some x/\a=⟨x.af,0,none⟩/\i<x.ht/\ ∀(c:Nat) (d:DC),c<e->l[c]? =some d->d.ht<=i:=by
 induction l with
 |nil=>simp[Cv] at b
 |cons x l h=>
  unfold Cv at b;rw[DO] at b;by_cases f:i<x.ht
  ·simp[f] at b;exact⟨0,x,rfl,b.symm,f,λc d j=>by omega⟩
  ·simp[f] at b;obtain⟨e,d,k,m,n,o⟩:=h (by simpa [Cv] using b);refine⟨e+1,d,by simpa using k,m,n,λc z j g=>?_⟩;cases c with
   |zero=>simp at g;subst g;omega
   |succ c=>exact o c z (by omega) (by simpa using g)
theorem XE {i:Nat}{l:List DC}(a:Cv i l=none): ∀x∈l,x.ht<=i:=by intro x b;simp[Cv] at a;exact a x b
theorem AFh {i:Nat}{l:List DC}{k:Nat}(c:k<=l.length)(d: ∀(a:Nat) (b:DC),a<k->l[a]? =some b->b.ht<=i):Cv i l=Cv i (l.drop k):=by
 induction k generalizing l with
 |zero=>simp
 |succ k e=>
  cases l with
  |nil=>simp at c
  |cons x l=>
   have f:=d 0 x (by omega) rfl;rw[HS,<-e (by simpa using c) λa b h g=>d (a+1) b (by omega) (by simpa using g)];unfold Cv;rw[DO];simp[Nat.not_lt.2 f]
abbrev bV(ns:List DC):List Pr:=ns.map (·.pr)
theorem oO {key:A2P}: ∀ {l:List Pr},Sorted l-> ∀ {j:Nat} {x:Pr},l[j]? =some x->(j<aS key l↔aO x.key key=true)
 | [],_,j,x,a=>by simp at a
 |y::l,s,j,x,a=>by
  have d:=List.pairwise_cons.1 s;by_cases b:aO y.key key=true
  ·have c:aS key (y::l)=aS key l+1:=by simp[aS,gY,b]
   rw[c];cases j with
   |zero=>simp at a;subst a;simp[b]
   |succ j=>
    have:=oO (key:=key) d.2 (j:=j) (x:=x) (by simpa using a);rw[<- this];omega
  ·have c:aS key (y::l)=0:=by simp[aS,gY,b]
   rw[c];cases j with
   |zero=>simp at a;subst a;simp[b]
   |succ j=>
    have f:x∈l:=AK (by simpa using a);have g:=d.1 x f;constructor
    ·intro e;omega
    ·intro e;exact absurd (DJ g e) b
structure UW (ns:List DC) (key:A2P) (i p:Nat):Prop where
 le:p<=aS key (bV ns)
 ht:i<R4 ns p
 last: ∀(j:Nat) (y:DC),p<=j->j<aS key (bV ns)->ns[j]? =some y->y.ht<=i
theorem Xf(key:A2P)(ns:List DC):aS key (bV ns)<=ns.length:=by have:=mI key (bV ns);simpa using this
theorem Hu {a:Array J0}(l:Nat->Q2)(c:a=(cR l).toArray)(i:Nat)(v:Q2):a.setIfInBounds i (J5 v)=(cR (λb=>if b=i then v else l b)).toArray:=by subst c;apply Array.toList_inj.1;rw[Fm];exact qj v
theorem ALm {a:Nat}(b:a<100):J8 J9 (((a+1:Nat):Int)-(1:Int))=(a:Int):=by rw[show(((a+1:Nat):Int)-1)=(a:Int) by omega];exact Gz (by omega)
set_option maxHeartbeats 400000 in
theorem ZX {ap:al}{h:aa}{t:Nat}{ns:List DC}{nx:Nat->Nat->Q2}{aq ar:Int}{key:A2P}{H:A2O}(L:Lay h t ns nx aq ar)(K:kq ns nx)(s:Sorted (bV ns))
  (au: ∀(b:Nat->Nat) I,(∀ i,i<12->UW ns key i (b i))->Ext h I->H (.agg #[J5 (some (addrAt t ns (b 0))),J5 (some (addrAt t ns (b 1))),J5 (some (addrAt t ns (b 2))),J5 (some (addrAt t ns (b 3))),J5 (some (addrAt t ns (b 4))),J5 (some (addrAt t ns (b 5))),J5 (some (addrAt t ns (b 6))),J5 (some (addrAt t ns (b 7))),J5 (some (addrAt t ns (b 8))),J5 (some (addrAt t ns (b 9))),J5 (some (addrAt t ns (b 10))),J5 (some (addrAt t ns (b 11)))]) I):
  AA ap P Fp #[J5 (some ⟨t,0,none⟩),J7 key] h H:=by
 refine Un ?_;unfold OI;refine ak.mk λk _ av J a2=>ak.mk λo _ aw M a3=>?_
 have ax:Ext h o:=J.trans M;have a4:=Xf key ns;refine Loop.rule (λm x q=> ∃(p:Nat) (b:Nat->Nat) (l:Nat->Q2),x=(some (addrAt t ns p),(m:Int)-1,())/\m<=12/\Mod (λc=>c=k.size) o q/\p<=aS key (bV ns)/\(m=0\/m<=R4 ns p)/\
   q[k.size]? =some (J2 (cR l).toArray Dr (0,0))/\(∀ i,i<12->m<=i->UW ns key i (b i)/\l i=some (addrAt t ns (b i)))) ?_
  (m:=12) ⟨0,λ_=>0,λ_=>none,rfl,by omega,Mod.refl,by omega,.inr (by simp[R4]),aw,λi k o=>by omega⟩
 rintro a5 m _ q ⟨p,b,l,rfl,a6,C,w,y,e,d⟩ ay;have N:Ext h q:=ax.then (C.ai λc _ v=> .inr (by have:=J.size;omega));refine ae.intro (λv=>?_) (λv=>?_)
 ·cases m with
  |zero=>simp at v
  |succ i=>
   have z:i<12:=by omega
   have az:(((i+1:Nat):Int)-1)=(i:Int):=by omega
   rw[az];have O:=L.ext N;refine Loop.rule (λm x A=> ∃p:Nat,x=(some (addrAt t ns p),())/\A=q/\m=aS key (bV ns)-p/\p<=aS key (bV ns)/\i<R4 ns p) ?_ ⟨p,rfl,rfl,rfl,w,by rcases y with h|h<;>omega⟩;rintro a7 m _ A ⟨p,rfl,aA,rfl,w,y⟩ aC;subst aA;have D:nx p i=Cv i (ns.drop p):=K.link p i (by omega) z y;have ag:=O.next (p:=p) (i:=i) (by omega) z;refine ah.mk λaD Q=>?_
   have B:(0:Int)<=(i:Int)/\(i:Int)<(12:Int):=⟨by omega,by omega⟩;have R:(∀ (j:Nat) (r:DC),p<=j->j<aS key (bV ns)->ns[j]? =some r->r.ht<=i)->aD (false,()) A:=λaE=>Q _ _ (ae.no rfl (by
    refine⟨B,?_⟩;show ab A ((⟨k.size,0,none⟩:Q6).add (i*1)) _ _;rw[Ba,AI,Bk];refine ab.mk e (by simp[BO];omega) λa8 S E a9=>?_
    rw[Hu l rfl] at S;have aF:UW ns key i p:=⟨w,y,aE⟩;refine ay i _ _ (by omega) ⟨p,λf=>if f=i then p else b f,_,?_,by omega,C.trans E,w,.inr (by omega),S,λf n ba=>?_⟩
    ·cases i with
     |zero=>rfl
     |succ i=>rw[ALm (by omega),show(((i+1:Nat):Int)-1)=(i:Int) by omega]
    ·by_cases T:f=i
     ·subst T;simp[aF]
     ·simp[T];exact d f n (by omega)))
   refine⟨B,?_⟩;rw[A6];refine AZ.mk ag ?_;cases u:nx p i with
   |none=>
    refine ae.no rfl ?_;refine R λj r aG aH F=>?_
    rw[D] at u;refine XE u r ?_;rw[List.mem_drop_iff_getElem];have:=List.getElem?_eq_some_iff.1 F;exact⟨j-p,by omega,by rw[<- this.2];congr 1;omega⟩
   |some a=>
    refine ae.yes rfl ?_;refine⟨B,AZ.mk (u▸ag) ?_⟩;rw[D] at u;obtain⟨f,x,n,rfl,aI,aJ⟩:=AGG u;rw[Bs] at n;refine AJ.mk (O.pair n).1 ?_;have aK:(bV ns)[p+f]? =some x.pr:=by simp[bV,n]
    have U:=oO (key:=key) s aK;cases G:aO x.pr.key key
    ·refine R λj r aG aH F=>?_
     have bb:j<p+f:=by
      rcases G0 j (p+f) with k|k
      ·exact k
      ·have o:p+f<aS key (bV ns):=by omega
       rw[U.1 o] at G;cases G
     exact aJ (j-p) r (by omega) (by rw[Bs];rw[<- F];congr 1;omega)
    ·have o:=U.2 G;refine Q _ _ (ae.yes rfl ?_);refine⟨B,AZ.mk (u▸D▸ag) ?_⟩;have aL:addrAt t ns (p+f+1)=⟨x.af,0,none⟩:=by simp[addrAt,n]
     refine aC (aS key (bV ns)-(p+f+1)) _ _ (by omega) ⟨p+f+1,by rw[aL],rfl,rfl,by omega,by simp[R4,n,aI]⟩
 ·have aM:m=0:=by simp at v;omega
  subst aM;have aN:q[h.size]? =some (J2 (cR (λ_=>none)).toArray Dr (0,0)):=C.af (M.af av (by simp)) (by omega);simp only[Ba,AI];refine AZ.mk (Cf e (i:=0) (by omega)) ?_;refine AZ.mk (Cf e (i:=1) (by omega)) ?_;refine AZ.mk (Cf e (i:=2) (by omega)) ?_;refine AZ.mk (Cf e (i:=3) (by omega)) ?_;refine AZ.mk (Cf e (i:=4) (by omega)) ?_;refine AZ.mk (Cf e (i:=5) (by omega)) ?_;refine AZ.mk (Cf e (i:=6) (by omega)) ?_;refine AZ.mk (Cf e (i:=7) (by omega)) ?_;refine AZ.mk (Cf e (i:=8) (by omega)) ?_;refine AZ.mk (Cf e (i:=9) (by omega)) ?_;refine AZ.mk (Cf e (i:=10) (by omega)) ?_;refine AZ.mk (Cf e (i:=11) (by omega)) ?_;refine ab.mk aN (by simp[BO]) λbc V aP bd=>?_
  rw[Hu _ rfl] at V;refine ab.mk V (by simp[BO]) λbe W aQ bf=>?_
  rw[Hu _ rfl] at W;refine ab.mk W (by simp[BO]) λbg X aR bh=>?_
  rw[Hu _ rfl] at X;refine ab.mk X (by simp[BO]) λbi Y aT bj=>?_
  rw[Hu _ rfl] at Y;refine ab.mk Y (by simp[BO]) λbk Z aU bm=>?_
  rw[Hu _ rfl] at Z;refine ab.mk Z (by simp[BO]) λbn ac aV bo=>?_
  rw[Hu _ rfl] at ac;refine ab.mk ac (by simp[BO]) λbp ad E bq=>?_
  rw[Hu _ rfl] at ad;refine ab.mk ad (by simp[BO]) λbr af aW bs=>?_
  rw[Hu _ rfl] at af;refine ab.mk af (by simp[BO]) λbt ai aX bu=>?_
  rw[Hu _ rfl] at ai;refine ab.mk ai (by simp[BO]) λbv aj aY bw=>?_
  rw[Hu _ rfl] at aj;refine ab.mk aj (by simp[BO]) λbx am aZ bz=>?_
  rw[Hu _ rfl] at am;refine ab.mk am (by simp[BO]) λan ao a0 bA=>?_
  rw[Hu _ rfl] at ao;have g:an[h.size]? =some (J2 (cR l).toArray Dr (0,0)):=by rw[ao];congr 3
  refine AZ.mk (Cf g (i:=0) (by omega)) ?_;refine AZ.mk (Cf g (i:=1) (by omega)) ?_;refine AZ.mk (Cf g (i:=2) (by omega)) ?_;refine AZ.mk (Cf g (i:=3) (by omega)) ?_;refine AZ.mk (Cf g (i:=4) (by omega)) ?_;refine AZ.mk (Cf g (i:=5) (by omega)) ?_;refine AZ.mk (Cf g (i:=6) (by omega)) ?_;refine AZ.mk (Cf g (i:=7) (by omega)) ?_;refine AZ.mk (Cf g (i:=8) (by omega)) ?_;refine AZ.mk (Cf g (i:=9) (by omega)) ?_;refine AZ.mk (Cf g (i:=10) (by omega)) ?_;refine AZ.mk (Cf g (i:=11) (by omega)) ?_;have a1:=((((((((((aP.trans aQ).trans aR).trans aT).trans aU).trans aV).trans E).trans aW).trans aX).trans aY).trans aZ).trans a0;have:=au b an (λi z=>(d i z (by omega)).1) (N.then (a1.ai λc _ v=> .inr (by omega)));rw[(d 0 (by omega) (by omega)).2,(d 1 (by omega) (by omega)).2,(d 2 (by omega) (by omega)).2,(d 3 (by omega) (by omega)).2,(d 4 (by omega) (by omega)).2,(d 5 (by omega) (by omega)).2,(d 6 (by omega) (by omega)).2,(d 7 (by omega) (by omega)).2,(d 8 (by omega) (by omega)).2,(d 9 (by omega) (by omega)).2,(d 10 (by omega) (by omega)).2,(d 11 (by omega) (by omega)).2];exact this
theorem ANg {z:Int}(b: -9223372036854775808<=z)(c:z<=9223372036854775807):J8 J9 z=z:=by
 have a:J8 J9 z=if z % 18446744073709551616>=9223372036854775808 then z % 18446744073709551616-18446744073709551616 else z % 18446744073709551616:=by simp[J8,IntKind.bits,IntKind.signed]
 rw[a];split<;>omega
theorem aE {a:Q6}{K:Q6->Prop}(b:K a):At (some a) K:=b
theorem AMI {l:al}{c:aa}{key:A2P}{h:A2O}(t:key.size<=64)(n: ∀d:Nat,1<=d->d<=12->h (J6 J9 (d:Int)) c):AA l P Ra #[J7 key] c h:=by
 refine AEQ ?_;unfold Wm;refine Loop.rule (λm x e=> ∃(i:Nat) (a:Int),x=(a,(i:Int),())/\e=c/\m=key.size-i/\i<=key.size) ?_ ⟨0,2166136261,rfl,rfl,rfl,by omega⟩;rintro K m _ e ⟨i,a,rfl,f,rfl,u⟩ o;subst f;refine ae.intro (λb=>?_) (λb=>?_)
 ·have v:i<key.size:=by simp at b;omega
  refine⟨⟨by show(0:Int)<=(i:Int);omega,by show(i:Int)<_;omega⟩,o (key.size-(i+1)) _ _ (by omega) ⟨i+1,_,by rw[Ab (by omega)],rfl,rfl,by omega⟩⟩
 ·refine Loop.rule (λm x g=> ∃(i:Nat) (a:Int),x=(a,(i:Int),())/\g=e/\m=12-i/\1<=i/\i<=12) ?_ ⟨1,_,rfl,rfl,rfl,by omega,by omega⟩;rintro w m _ g ⟨i,a,rfl,f,rfl,p,q⟩ r;subst f;refine ah.mk λs j=>?_
  have k:s (false,()) g:=j _ _ (ae.no rfl (n i p q));refine ae.intro (λb=>?_) (λb=>k);have y:i<12:=by simp at b;omega
  cases z:((GU .u32 a (3:Int))==(0:Int))
  ·exact k
  ·exact j _ _ (ae.yes rfl (r (12-(i+1)) _ _ (by omega) ⟨i+1,_,by rw[Ab (by omega)],rfl,rfl,by omega,by omega⟩))
theorem Nr(i:Nat)(a b:List DC):Cv i (a++b)=(Cv i a).or (Cv i b):=by unfold Cv;rw[List.find?_append];cases a.find? (λx=>decide (i<x.ht))<;>rfl
theorem AHA {i:Nat}{l:List DC}(a: ∀x∈l,x.ht<=i):Cv i l=none:=by unfold Cv;rw[List.find?_eq_none.2 (λx b=>by have:=a x b;simp;omega)];rfl
theorem AJm {i:Nat}{l:List DC}{x:DC}(b:x∈l)(d:i<x.ht): ∃a,Cv i l=some a:=by
 cases c:Cv i l with
 |some a=>exact⟨a,rfl⟩
 |none=>have:=XE c x b;omega
theorem Rf {ns:List DC}(c: ∀x∈ns,1<=x.ht/\x.ht<=12)(p:Nat):Cv 0 (ns.drop p)=(ns[p]?).map λx=>⟨x.af,0,none⟩:=by
 cases a:ns[p]? with
 |none=>rw[A04 (List.getElem?_eq_none_iff.1 a)];rfl
 |some x=>
  have b:=List.getElem?_eq_some_iff.1 a;rw[FF b.1,b.2];have:=(c x (AK a)).1;unfold Cv;rw[DO];simp[GF Nat.zero_lt_one this]
def fX(nx:Nat->Nat->Q2)(p i:Nat)(v:Q2):Nat->Nat->Q2:=λa b=>if a=p/\b=i then v else nx a b
theorem Jw {p:Pr}{f g:Nat->Q2}(a: ∀i,f i=g i):FH p f=FH p g:=by rw[show f=g from funext a]
theorem WW {a b:Int}{f g:Nat->Q2}(c: ∀i,f i=g i):DY f a b=DY g a b:=by rw[show f=g from funext c]
theorem Lay.store {e:aa}{t:Nat}{ns:List DC}{nx:Nat->Nat->Q2}{s u:Int}(l:Lay e t ns nx s u){p i:Nat}(C:p<=ns.length)(z:i<12){v:Q2}{K:aa->Prop}
  (w: ∀c,Lay c t ns (fX nx p i v) s u->Mod (cQ t ns) e c->c.size=e.size->K c):ab e (((addrAt t ns p).add 3).add (i*1)) (J5 v) K:=by
 rw[add_add,Bk];cases p with
 |zero=>
  show ab e ((⟨t,0,none⟩:Q6).add (3+i)) _ _;rw[Ba,AI];refine ab.mk l.head (by rw[cV];omega) λc d m o=>w c ⟨?_,λj x a=>⟨?_,(l.node j x a).2⟩,l.apart⟩ (m.ai λb _ d=> .inl d) o
  ·rw[d,AN4 z,WW (g:=fX nx 0 i v 0) (λh=>by simp[fX])]
  ·rw[m.get _ (Af (l.node j x a).1) (l.node j x a).2,(l.node j x a).1,Jw (g:=fX nx 0 i v (j+1)) (λh=>by simp[fX])]
 |succ p=>
  have k:=A2 (l:=ns) (i:=p) (by omega);have f:addrAt t ns (p+1)=⟨ns[p].af,0,none⟩:=by simp[addrAt,k]
  rw[f,Ba,AI];obtain⟨A,B⟩:=l.node p _ k;refine ab.mk A (by rw[Qb];omega) λc d m o=>w c ⟨?_,λj x a=>⟨?_,(l.node j x a).2⟩,l.apart⟩ (m.ai λb _ d=> .inr ⟨_,AK k,d.symm⟩) o
  ·rw[m.get _ (Af l.head) (λf=>B f.symm),l.head,WW (g:=fX nx (p+1) i v 0) (λh=>by simp[fX])]
  ·by_cases q:j=p
   ·subst q;rw[k] at a;cases a;rw[d,uo,Jw (g:=fX nx (j+1) i v (j+1)) (λh=>by simp[fX])]
   ·have hd:x.af≠ns[p].af:=by
     have n:=List.getElem?_eq_some_iff.1 a;have y:=List.pairwise_iff_getElem.1 l.apart;rcases N4 q with r|r
     ·have:=y j p n.1 (by omega) r;rw[n.2] at this;exact this
     ·have:=y p j (by omega) n.1 r;rw[n.2] at this;exact λf=>this f.symm
    rw[m.get _ (Af (l.node j x a).1) hd,(l.node j x a).1,Jw (g:=fX nx (p+1) i v (j+1)) (λh=>by simp[fX,q])]
def ES(l:List Pr):Nat:=(l.map λx=>x.key.size+x.val.size).sum
structure cU (h:aa) (t:Nat) (ns:List DC) (l:List Pr):Prop where
 lay: ∃nx,Lay h t ns nx (l.length:Int) (ES l:Int)/\kq ns nx
 bV:bV ns=l
 sorted:Sorted l
 aC:BV l
theorem cU.mod {a c:aa}{t:Nat}{ns:List DC}{l:List Pr}{d:Nat->Prop}(T:cU a t ns l)(m:Mod d a c)(e: ∀b,cQ t ns b-> ¬d b):cU c t ns l:=by obtain⟨nx,L,K⟩:=T.lay;exact⟨⟨nx,L.mod m e,K⟩,T.bV,T.sorted,T.aC⟩
theorem cU.ext {a b:aa}{t:Nat}{ns:List DC}{l:List Pr}(T:cU a t ns l)(m:Ext a b):cU b t ns l:=T.mod m λ_ _ a=>a
theorem cU.lt {a:aa}{t:Nat}{ns:List DC}{l:List Pr}(T:cU a t ns l){b:Nat}(c:cQ t ns b):b<a.size:=by obtain⟨nx,L,_⟩:=T.lay;exact L.lt c
theorem rT {d:al}{a:aa}{c:A2O}(e: ∀b,cU b a.size [] []->Ext a b->b.size=a.size+1->c (J5 (some ⟨a.size,0,none⟩)) b):AA d P Pv #[] a c:=by
 refine AKJ ?_;unfold tZ;refine ak.mk λf _ g h j=>e f ⟨⟨λ_ _=>none,⟨g,λl x a=>by simp at a,List.Pairwise.nil⟩,⟨λp i k m _=>?_,λx a=>by cases a⟩⟩,rfl,List.Pairwise.nil,λx a=>by cases a⟩ h j
 have:p=0:=by simpa using k
 subst this;rfl
theorem NL(l m:List Pr):ES (l++m)=ES l+ES m:=by simp[ES,List.sum_append]
theorem RI(x:Pr)(l:List Pr):ES (x::l)=x.key.size+x.val.size+ES l:=by simp[ES]
theorem AKB {l:List Pr}(g:BV l):ES l<=l.length*8256:=by
 induction l with
 |nil=>simp[ES]
 |cons x l b=>
  have f:=b λc d=>g c (by simp[d])
  have a:=g x (by simp);have h:x.key.size<=64/\x.val.size<=8192:=by
   unfold Ah at a;split at a
   ·cases a
   ·split at a
    ·cases a
    ·rename_i e;simp at e;omega
  rw[RI,A5,BW];omega
theorem uu {x:Pr}(a:Ah x=0):x.key.size<=64/\x.val.size<=8192:=by
 unfold Ah at a;split at a
 ·cases a
 ·split at a
  ·cases a
  ·rename_i b;simp at b;omega
theorem ALq {p a:Pr}{nx:Nat->Q2}:(((FH p nx).setIfInBounds 0 (J7 a.key)).setIfInBounds 1 (J7 a.val)).setIfInBounds 2 (J3 a.gone)=FH a nx:=by apply Array.toList_inj.1;rw[Fm,Fm,Fm];rfl
theorem gK.zero {ns:List DC}{key:A2P}{p:Nat}(d: ∀x∈ns,1<=x.ht/\x.ht<=12)(b:UW ns key 0 p):p=aS key (bV ns):=by
 rcases G0 p (aS key (bV ns)) with a|a
 ·have e:=Xf key ns;have c:=A2 (l:=ns) (i:=p) (by omega);have f:=b.last p _ (A0 _) a c;have g:=d _ (AK c);omega
 ·have:=b.le;omega
def fY(nx:Nat->Nat->Q2)(c:Nat->Nat)(b:Q6)(i:Nat):Nat->Nat->Q2:=λp a=>if a<i/\p=c a then some b else nx p a
def jK(nx:Nat->Nat->Q2)(b:Nat->Nat)(i:Nat):Nat->Q2:=λa=>if a<i then nx (b a) a else none
def gL(nx:Nat->Nat->Q2)(c:Nat->Nat)(b:Q6)(d a:Nat):Nat->Nat->Q2:=λp i=>if p<=a then fY nx c b d p i else if p=a+1 then jK nx c d i else fY nx c b d (p-1) i
theorem nB {c:Type}{ns:List c}{x:c}{a b:Nat}(f:a<=ns.length):(ns.take a++x::ns.drop a)[b]? =if b<a then ns[b]? else if b=a then some x else ns[b-1]? :=by
 split
 ·rename_i d;rw[Fk (by simp;omega),Kf d]
 ·rename_i d;rw[DE (by simp;omega)];simp only[AE,GO f];split
  ·rename_i e;subst e;simp
  ·rename_i e;rw[show b-a=(b-a-1)+1 by omega,PJ,Bs];congr 1;omega
theorem ANX {b:Type}{ns:List b}{x:b}{a p:Nat}(c:a<=ns.length)(d:p<=a):(ns.take a++x::ns.drop a).drop p=(ns.take a).drop p++x::ns.drop a:=by rw[N5 (by simp;omega)]
theorem ALt {b:Type}{ns:List b}{x:b}{a p:Nat}(c:a<=ns.length)(d:a<p):(ns.take a++x::ns.drop a).drop p=ns.drop (p-1):=by rw[R2,A04 (by simp;omega),DA];simp only[AE,GO c];rw[show p-a=(p-a-1)+1 by omega,HS,HT];congr 1;omega
theorem kq.insert {ns:List DC}{nx:Nat->Nat->Q2}{key:A2P}(K:kq ns nx){e:Nat->Nat}(t: ∀i,i<12->UW ns key i (e i)){x:DC}(E:1<=x.ht/\x.ht<=12):
  kq (ns.take (aS key (bV ns))++x::ns.drop (aS key (bV ns))) (gL nx e ⟨x.af,0,none⟩ x.ht (aS key (bV ns))):=by
 have q:=Xf key ns;generalize m:aS key (bV ns)=a at*
 refine⟨λp i L j d=>?_,λg c=>?_⟩
 ·unfold gL;split
  ·rename_i y;have s:i<R4 ns p:=by
    cases p with
    |zero=>exact j
    |succ p=>
     unfold R4 at d ⊢;simp only at d ⊢;rw[nB q,if_pos (by omega)] at d;exact d
   have z:=K.link p i (by omega) j s;have A:ns.drop p=(ns.take a).drop p++ns.drop a:=by rw[<- N5 (by simp;omega),DP]
   have h:=t i j;rw[ANX q y,Nr];unfold fY;by_cases n:i<x.ht
   ·have F:Cv i (x::ns.drop a)=some ⟨x.af,0,none⟩:=by unfold Cv;rw[DO];simp[n]
    rw[F];by_cases u:p=e i
    ·rw[if_pos ⟨n,u⟩,AHA λg c=>?_]
     ·rfl
     ·obtain⟨v,B,G⟩:=DB c;simp at B;have M:(ns.take a).drop p=(ns.take a).drop p:=rfl;refine h.last (p+v) g (by omega) (by rw[m];omega) ?_;have:((ns.take a).drop p)[v]? =some g:=by rw[A2 (by simp;omega),G]
      rw[Bs,Kf (by omega)] at this;exact this
    ·rw[if_neg (λf=>u f.2),z,A,Nr];have H:p<e i:=by
      rcases HU p (e i) with f|f|f
      ·exact f
      ·exact absurd f u
      ·exfalso;cases p with
       |zero=>omega
       |succ p=>
        have r:=A2 (l:=ns) (i:=p) (by omega);have N:=h.last p _ (by omega) (by rw[m];omega) r;simp[R4,r] at s;omega
     have o:=h.le;rw[m] at o;have w:=h.ht;obtain⟨b,I⟩: ∃b,e i=b+1:=⟨e i-1,by omega⟩;rw[I] at w H o;have r:=A2 (l:=ns) (i:=b) (by omega);simp[R4,r] at w;have J:ns[b]∈(ns.take a).drop p:=by refine AK (i:=b-p) ?_;rw[Bs,Kf (by omega),show p+(b-p)=b by omega,r]
     obtain⟨g,c⟩:=AJm J w;rw[c];rfl
   ·rw[if_neg (λf=>n f.1),z,A,Nr];have:Cv i (x::ns.drop a)=Cv i (ns.drop a):=by unfold Cv;rw[DO];simp[n]
    rw[this]
  ·rename_i y;rw[ALt q (by omega)];split
   ·rename_i C;subst C;have n:i<x.ht:=by unfold R4 at d;simp only at d;rw[nB q,if_neg (by omega),if_pos rfl] at d;exact d
    have h:=t i j;have o:=h.le;rw[m] at o;unfold jK;rw[if_pos n,K.link (e i) i (by omega) j h.ht,AFh (k:=a-e i) (by simp;omega) λv g B c=>?_]
    ·rw[HT];congr 2;omega
    ·rw[Bs] at c;exact h.last _ g (by omega) (by rw[m];omega) c
   ·rename_i C;obtain⟨b,rfl⟩: ∃b,p=b+1:=⟨p-1,by omega⟩;rw[Kp];have O:(ns.take a++x::ns.drop a).length=ns.length+1:=by simp;omega
    have s:i<R4 ns b:=by unfold R4 at d;simp only at d;rw[nB q,if_neg (by omega),if_neg (by omega)] at d;obtain⟨D,rfl⟩: ∃D,b=D+1:=⟨b-1,by omega⟩;unfold R4;simpa using d
    have o:=(t i j).le;rw[m] at o;unfold fY;rw[if_neg (λf=>by omega)];exact K.link b i (by omega) j s
 ·rw[Fl,Hc] at c;rcases c with c|rfl|c
  ·exact K.ht g (DQ c)
  ·exact E
  ·exact K.ht g (HW c)
set_option maxHeartbeats 1000000 in
theorem rU {bU:al}{s:aa}{t:Nat}{ns:List DC}{l:List Pr}{x:Pr}{au:A2O}(T:cU s t ns l)(cK:l.length<1099511627776)
  (av: ∀bc aw,cU aw t bc (Ca x l)->Mod (cQ t ns) s aw->(∀ b,cQ t bc b->cQ t ns b\/s.size<=b)->au (J6 J9 (Ah x)) aw):
  AA bU P Jr #[J5 (some ⟨t,0,none⟩),.agg #[J7 x.key,J7 x.val,J3 x.gone]] s au:=by
 refine Yg ?_;unfold Rh;refine ak.mk λf _ u ax cL=>?_
 have bd:=T.ext ax;have ay:Ah x≠0->au (J6 J9 (Ah x)) f:=λw=>av ns f (by simpa [Ca,w] using bd) ax.mod (λb u=> .inl u)
 refine ah.mk λK az=>?_
 have aA:(decide (x.key=⟨#[]⟩)||(x.gone&& !decide (x.val=⟨#[]⟩)))=true->K (true,()) f:=λk=>az _ _ (ae.yes rfl (by
  have w:Ah x=1:=by unfold Ah;rw[if_pos k]
  have:=ay (by rw[w];decide);rw[w] at this;exact this))
 have be:(decide (x.key=⟨#[]⟩)||(x.gone&& !decide (x.val=⟨#[]⟩)))=false->K (false,()) f:=λk=>az _ _ (ae.no rfl (by
  refine ah.mk λbf aC=>?_
  have aD:(decide (x.key.size>64)||decide (x.val.size>8192))=true->bf (true,()) f:=λaF=>aC _ _ (ae.yes rfl (by
   have w:Ah x=2:=by unfold Ah;rw[if_neg (by simp[k]),if_pos aF]
   have:=ay (by rw[w];decide);rw[w] at this;exact this))
  have bW:(decide (x.key.size>64)||decide (x.val.size>8192))=false->bf (false,()) f:=λaF=>aC _ _ (ae.no rfl (by
   have w:Ah x=0:=by unfold Ah;rw[if_neg (by simp[k]),if_neg (by simp[aF])]
   have bX:=uu w;clear aA aC az aD ay;obtain⟨nx,aG,E⟩:=bd.lay;have Y:Ca x l=ins x l:=QK w;have bg:=O0 (x:=x) T.sorted;have bh:=ux (x:=x) T.aC;have F:=T.bV;have bY:Sorted (bV ns):=by rw[F];exact T.sorted
   have cM:ns.length=l.length:=by rw[<- F];simp
   have cN:=AKB T.aC;refine AJ.mk (AL u rfl) ?_;refine ZX aG E bY λj I r Z=>⟨_,_,_,_,_,_,_,_,_,_,_,_,rfl,?_⟩
   have aH:=gK.zero E.ht (r 0 (by omega));have bi:=aG.ext Z;refine ak.mk λbZ _ b0 b1 cO=>?_
   have b2:bZ[I.size]? =some (J2 (cR (λ_=>none)).toArray Dr (0,0)):=b0;simp only[Ba,AI];refine ab.mk b2 (by simp[BO]) λcP aI bj b3=>?_
   rw[Hu _ rfl] at aI;refine ab.mk aI (by simp[BO]) λcS aJ N b4=>?_
   rw[Hu _ rfl] at aJ;refine ab.mk aJ (by simp[BO]) λcT aK bk b5=>?_
   rw[Hu _ rfl] at aK;refine ab.mk aK (by simp[BO]) λcW aL bm b6=>?_
   rw[Hu _ rfl] at aL;refine ab.mk aL (by simp[BO]) λcX aM bn b7=>?_
   rw[Hu _ rfl] at aM;refine ab.mk aM (by simp[BO]) λcY aN bo b8=>?_
   rw[Hu _ rfl] at aN;refine ab.mk aN (by simp[BO]) λcZ aO bp b9=>?_
   rw[Hu _ rfl] at aO;refine ab.mk aO (by simp[BO]) λc0 aP bq ca=>?_
   rw[Hu _ rfl] at aP;refine ab.mk aP (by simp[BO]) λc1 aQ br cb=>?_
   rw[Hu _ rfl] at aQ;refine ab.mk aQ (by simp[BO]) λc2 aR bs cc=>?_
   rw[Hu _ rfl] at aR;refine ab.mk aR (by simp[BO]) λc3 aT bt cd=>?_
   rw[Hu _ rfl] at aT;refine ab.mk aT (by simp[BO]) λe aU bu ce=>?_
   rw[Hu _ rfl] at aU;have aV:e[I.size]? =some (J2 (cR (λi=>some (addrAt t ns (j i)))).toArray Dr (0,0)):=by rw[aU];congr 3
   have bv:=((((((((((bj.trans N).trans bk).trans bm).trans bn).trans bo).trans bp).trans bq).trans br).trans bs).trans bt).trans bu;have ac:Ext I e:=b1.then (bv.ai λc _ k=> .inr (by omega));have c4:=ac.size;have c5:=Af aV;have c6:=Z.size;clear bv aI aJ aK aL aM aN aO aP aQ aR aT aU bj N bk bm bn bo bp bq br bs bt bu b3 b4 b5 b6 b7 b8 b9 ca cb cc cd ce;have y:=bi.ext ac;have J:e[s.size]? =some (J2 #[J7 x.key,J7 x.val,J3 x.gone] AR (0,0)):=ac.af (Z.af u (by simp)) (by simp);have cf:=Xf x.key ns;have ad:Ext s e:=ax.trans (Z.trans ac);refine⟨by omega,AZ.mk (Cf aV (i:=0) (by omega)) ⟨by omega,AZ.mk (y.next (p:=j 0) (i:=0) (by rw[aH];omega) (by omega)) ?_⟩⟩;have cg:nx (j 0) 0=(ns[aS x.key (bV ns)]?).map λd=>⟨d.af,0,none⟩:=by rw[E.link (j 0) 0 (by rw[aH];omega) (by omega) (r 0 (by omega)).ht,aH,Rf E.ht]
   rw[cg];have R:BL x.key l=match ns[aS x.key (bV ns)]? with|some d=>decide (d.pr.key=x.key)|none=>false:=by unfold BL;rw[<- F];rw[show bV ns=ns.map (·.pr) from rfl,Bm];cases ns[aS x.key (ns.map (·.pr))]? <;>rfl
   generalize aW:aS x.key (bV ns)=a at*
   have af:aS x.key l=a:=by rw[<- F];exact aW
   have ag:XY x l=ins x l:=mL x l;refine ah.mk λbw bx=>?_
   have ch: ∀d,ns[a]? =some d->d.pr.key=x.key->bw (true,()) e:=λd n D=>bx _ _ (ae.yes rfl (by
    have G:=List.getElem?_eq_some_iff.1 n;have ci:a<ns.length:=G.1;rw[n];have cj:=y.pair n;have c7:d.pr.key.size=x.key.size:=by rw[D]
    refine AC.mk (AB y.head lK.2) (AJ.mk (AL J rfl) (AJ.mk cj.2.1 ?_));have ck: ∃aX:Nat,ES l=d.pr.key.size+d.pr.val.size+aX/\ES (Ca x l)=x.key.size+x.val.size+aX:=by
     have aY:l=l.take a++d.pr::l.drop (a+1):=by
      have aZ:l[a]? =some d.pr:=by rw[<- F];simp[n]
      have f:=List.getElem?_eq_some_iff.1 aZ;rw[<- f.2,<-FF f.1,DP]
     have S:Ca x l=l.take a++x::l.drop (a+1):=by rw[Y,<-ag];unfold XY;rw[R,n,af,if_pos (by simp[D])];simp
     refine⟨ES (l.take a)+ES (l.drop (a+1)),?_,?_⟩
     ·conv=>lhs;rw[aY]
      rw[NL,RI];omega
     ·rw[S,NL,RI];omega
    obtain⟨aX,c8,c9⟩:=ck;have a0:J8 J9 ((ES l:Int)+J8 J9 ((x.val.size:Int)-(d.pr.val.size:Int)))=(ES (Ca x l):Int):=by
     have da:d.pr.val.size<=8192:=(uu (T.aC d.pr (by rw[<- F];exact List.mem_map.2 ⟨d,AK n,rfl⟩))).2;have aY:J8 J9 ((x.val.size:Int)-(d.pr.val.size:Int))=(x.val.size:Int)-(d.pr.val.size:Int):=by exact ANg (by omega) (by omega)
     rw[aY,show(ES l:Int)+((x.val.size:Int)-(d.pr.val.size:Int))=((ES (Ca x l):Nat):Int) by omega];exact Gz (by omega)
    rw[a0];refine aE ?_;rw[Ba,AI];refine ab.mk y.head (by rw[cV];omega) λbz bA ai db=>?_
    rw[ur] at bA;have aj:=y.node a d n;have a1:bz[s.size]? =some (J2 #[J7 x.key,J7 x.val,J3 x.gone] AR (0,0)):=ai.af J (by have:=aG.lt (.inl rfl:cQ t ns t);have:=T.lt (.inl rfl:cQ t ns t);omega);refine AJ.mk (AL a1 rfl) (AJ.mk (AL a1 rfl) (Aa.mk (AL a1 rfl) ?_));have cl:=ai.af aj.1 aj.2;refine aE ?_;refine ab.mk cl (by rw[Qb];omega) λdc cm cn dd=>?_
    rw[Ba,Ba];refine ab.mk cm (by rw[Rg,Qb];omega) λde co cp df=>?_
    refine ab.mk co (by rw[Rg,Rg,Qb];omega) λa2 a3 cq dg=>?_
    simp only[AI] at a3;rw[ALq] at a3;have a4:Mod (λc=>c=d.af) bz a2:=(cn.trans cp).trans cq;have a5:cQ t ns t:= .inl rfl;have bB:cQ t ns d.af:= .inr ⟨d,AK n,rfl⟩;rw[<- w];refine av (ns.set a {d with pr:=x}) a2 ⟨⟨nx,⟨?_,λo z h=>?_,?_⟩,⟨λp i O am bC=>?_,λz h=>?_⟩⟩,?_,bg,bh⟩ ?_ λb u=>?_
    ·have a6:(Ca x l).length=l.length:=by rw[Y,<-ag];unfold XY;rw[R,n,af,if_pos (by simp[D])];simp;omega
     rw[a6];exact a4.af bA (λq=>aj.2 q.symm)
    ·rw[MY] at h;split at h
     ·rename_i H;subst H;simp[G.1] at h;subst h;exact⟨a3,aj.2⟩
     ·rename_i H;have A:=y.node o z h;refine⟨?_,A.2⟩;refine a4.af (ai.af A.1 A.2) ?_;have f:=List.getElem?_eq_some_iff.1 h;have bD:=List.pairwise_iff_getElem.1 y.apart;rcases N4 H with a7|a7
      ·have:=bD a o G.1 f.1 a7;rw[f.2,G.2] at this;exact λq=>this q.symm
      ·have:=bD o a f.1 G.1 a7;rw[f.2,G.2] at this;exact this
    ·have q:(ns.set a {d with pr:=x}).map (·.af)=ns.map (·.af):=by
      rw[Rr];apply List.ext_getElem?;intro o;rw[MY];split
      ·rename_i H;subst H;simp[G.1,G.2]
      ·rfl
     have f:(ns.map (·.af)).Pairwise (· ≠ ·):=List.pairwise_map.2 y.apart;rw[<- q] at f;exact List.pairwise_map.1 f
    ·rw[RC] at O;have cr:R4 (ns.set a {d with pr:=x}) p=R4 ns p:=by
      cases p with
      |zero=>rfl
      |succ p=>
       unfold R4;simp only;rw[MY];by_cases H:a=p
       ·subst H;rw[if_pos rfl,if_pos ci,n]
       ·rw[if_neg H]
     rw[cr] at bC;rw[E.link p i O am bC];have key: ∀m:List DC,∀a,m[a]? =some d->Cv i (m.set a {d with pr:=x})=Cv i m:=by
      intro m
      induction m with
      |nil=>intro a s;simp at s
      |cons z m cs=>
       intro a s;cases a with
       |zero=>simp at s;subst s;by_cases hd:i<z.ht<;>simp[Cv,hd]
       |succ a=>
        have:=cs a (by simpa using s);unfold Cv at this ⊢;rw[List.set_cons_succ,DO,DO];split
        ·rfl
        ·exact this
     rcases G0 a p with f|f
     ·rw[List.drop_set_of_lt f]
     ·rw[List.drop_set];rw[if_neg (by omega)];exact(key _ _ (by rw[Bs];rw[<- n];congr 1;omega)).symm
    ·obtain⟨o,L,q⟩:=DB h;rw[List.getElem_set] at q;split at q
     ·subst q;exact E.ht d (AK n)
     ·subst q;exact E.ht _ (AW _)
    ·rw[Y,<-ag];unfold XY;rw[R,n,af,if_pos (by simp[D])];show(ns.set a {d with pr:=x}).map (·.pr)=_;rw[Rr,A09];have:(ns.map (·.pr))=l:=F;rw[this];have aZ:a<l.length:=by omega
     simp[aZ]
    ·have N:Mod (cQ t ns) e a2:=(ai.ai λc _ k=>by subst k;exact a5).trans (a4.ai λc _ k=>by subst k;exact bB);exact ad.mod.trans N
    ·rcases u with rfl|⟨z,h,rfl⟩
     ·exact .inl (.inl rfl)
     ·obtain⟨o,L,q⟩:=DB h;rw[List.getElem_set] at q;split at q
      ·subst q;exact .inl bB
      ·subst q;exact .inl (.inr ⟨_,AW _,rfl⟩)))
   have bE:BL x.key l=false->bw (false,()) e:=λa5=>bx _ _ (ae.no rfl (by
    refine AJ.mk (AL J rfl) (AJ.mk (AL J rfl) (Aa.mk (AL J rfl) ?_));refine ak.mk λbF _ ct an dh=>?_
    have bG:=an.af J (by simp);refine AJ.mk (AL bG rfl) ?_;refine AMI bX.1 λB cu cv=>⟨_,rfl,?_⟩
    have cw:bF[e.size]? =some (J2 (FH x (λ_=>none)) Qi (0,0)):=ct;have cx:=y.ext an;have bH: ∀i,i<12->j i<=ns.length:=λi am=>by have:=(r i am).le;rw[aW] at this;omega
    have cy:=an.af aV (by simp);have U: ∀c,cQ t ns c->c<e.size:=λc k=>y.lt k
    have cz: ∀c,cQ t ns c->c<I.size:=λc k=>bi.lt k
    refine Loop.rule (λm d C=> ∃i:Nat,d=((i:Int),())/\m=B-i/\i<=B/\Mod (λc=>cQ t ns c\/c=e.size) bF C/\Lay C t ns (fY nx j ⟨e.size,0,none⟩ i) (l.length:Int) (ES l:Int)/\C[e.size]? =some (J2 (FH x (jK nx j i)) Qi (0,0))) ?_
     ⟨0,rfl,rfl,by omega,Mod.refl,?_,?_⟩
    rotate_left
    ·have:fY nx j ⟨e.size,0,none⟩ 0=nx:=by funext p B;simp[fY]
     rw[this];exact cx
    ·have:jK nx j 0=λ_=>none:=by funext B;simp[jK]
     rw[this];exact cw
    rintro cB m _ C ⟨i,rfl,rfl,am,V,M,bI⟩ cC;have di:=V.size;have bJ:C[I.size]? =some (J2 (cR (λi=>some (addrAt t ns (j i)))).toArray Dr (0,0)):=V.af cy (λa8=>a8.elim (λf=>by have:=cz _ f;omega) (λf=>by omega));refine ae.intro (λk=>?_) (λk=>?_)
    ·have bK:i<B:=by simpa using k
     have Q:i<12:=by omega
     have W:(0:Int)<=(i:Int)/\(i:Int)<(12:Int):=⟨by omega,by omega⟩;refine⟨W,?_⟩;show AZ C ⟨I.size,i*1,none⟩ _;rw[Bk];refine AZ.mk (Cf bJ Q) ⟨W,?_⟩;show AZ C (((addrAt t ns (j i)).add 3).add (i*1)) _;refine AZ.mk (M.next (p:=j i) (i:=i) (bH i Q) Q) ⟨W,?_⟩;have cD:fY nx j ⟨e.size,0,none⟩ i (j i) i=nx (j i) i:=by simp[fY]
     show ab C ⟨e.size,3+i*1,none⟩ (J5 (fY nx j ⟨e.size,0,none⟩ i (j i) i)) _;rw[cD,Bk];refine ab.mk bI (by rw[Qb];omega) λbL bM a9 dj=>?_
     rw[uo] at bM;have cE:=M.mod a9 (λc k q=>by have:=U c k;omega);refine⟨W,?_⟩;show AZ bL ⟨I.size,i*1,none⟩ _;rw[Bk];refine AZ.mk (Cf (a9.af bJ (by omega)) Q) ⟨W,?_⟩;show ab bL (((addrAt t ns (j i)).add 3).add (i*1)) (J5 (some ⟨e.size,0,none⟩)) (λbN=>cB (J8 J9 ((i:Int)+(1:Int)),()) bN);refine cE.store (p:=j i) (i:=i) (bH i Q) Q (v:=some ⟨e.size,0,none⟩) (λbN bO bP dk=>?_)
     ·refine cC (B-(i+1)) _ _ (by omega) ⟨i+1,by rw[Ab (by omega)],rfl,by omega,(V.trans (a9.ai λc _ k=> .inr k)).trans (bP.ai λc _ k=> .inl k),?_,?_⟩
      ·have:fX (fY nx j ⟨e.size,0,none⟩ i) (j i) i (some ⟨e.size,0,none⟩)=fY nx j ⟨e.size,0,none⟩ (i+1):=by
        funext p o;unfold fX fY;by_cases L:o=i
        ·subst L;by_cases O:p=j o<;>simp[O]
        ·by_cases O:p=j o<;>simp[O,L,Nat.lt_succ_iff,Nat.le_iff_lt_or_eq]
       rw[this] at bO;exact bO
      ·rw[bP.af bM (λk=>by have:=U _ k;omega),Jw (g:=jK nx j (i+1)) (λo=>?_)];unfold jK;by_cases L:o=i
       ·subst L;simp
       ·simp[L,Nat.lt_succ_iff,Nat.le_iff_lt_or_eq]
    ·have bK:i=B:=by simp at k;omega
     subst bK;refine AC.mk (AB M.head lK.1) ?_;refine aE ?_;rw[Ba,AI];refine ab.mk M.head (by rw[cV];omega) λdl ba bQ dm=>?_
     rw[ALh] at ba;have ao:cQ t ns t:= .inl rfl;have dn:=T.lt ao;have cF:C[s.size]? =some (J2 #[J7 x.key,J7 x.val,J3 x.gone] AR (0,0)):=V.af bG (λa8=>a8.elim (λf=>by have:=T.lt f;omega) (λf=>by omega));have bR:=bQ.af cF (by omega);refine aE ?_;rw[Ba,AI];refine AC.mk (AL ba lK.2) (AJ.mk (AL bR rfl) (AJ.mk (AL bR rfl) (aE ?_)));rw[Ba,AI];refine ab.mk ba (by rw[cV];omega) λap bb cG dp=>?_
     rw[ur] at bb;have S:Ca x l=l.take a++x::l.drop a:=by rw[Y,<-ag];unfold XY;rw[a5,af];simp
     have dq:ES (Ca x l)=ES l+(x.key.size+x.val.size):=by
      rw[S,NL,RI];have:ES l=ES (l.take a)+ES (l.drop a):=by rw[<- NL,DP]
      omega
     have a6:(Ca x l).length=l.length+1:=by rw[S];simp;omega
     have a0:J8 J9 ((l.length:Int)+(1:Int))=((Ca x l).length:Int):=by rw[a6];exact Ab (by omega)
     have cH:J8 J9 ((ES l:Int)+J8 J9 ((x.key.size:Int)+(x.val.size:Int)))=(ES (Ca x l):Int):=by rw[show((x.key.size:Int)+(x.val.size:Int))=((x.key.size+x.val.size:Nat):Int) by omega,Gz (by omega),show(ES l:Int)+((x.key.size+x.val.size:Nat):Int)=((ES (Ca x l):Nat):Int) by omega];exact Gz (by omega)
     rw[a0,cH] at bb;have mt:Mod (λc=>c=t) C ap:=bQ.trans cG;have cI:=mt.af bI (by have:=U _ ao;omega);rw[<- w];refine av (ns.take a++⟨e.size,x,i⟩::ns.drop a) ap ⟨⟨gL nx j ⟨e.size,0,none⟩ i a,⟨?_,λo z h=>?_,?_⟩,?_⟩,?_,bg,bh⟩ ?_ λb u=>?_
     ·rw[bb,WW (g:=gL nx j ⟨e.size,0,none⟩ i a 0) (λB=>?_)];simp[gL]
     ·rw[nB cf] at h;split at h
      ·rename_i cJ;have A:=M.node o z h;refine⟨?_,A.2⟩;rw[mt.af A.1 A.2,Jw (g:=gL nx j ⟨e.size,0,none⟩ i a (o+1)) (λB=>?_)];unfold gL;rw[if_pos (by omega)]
      ·rename_i cJ;split at h
       ·rename_i bS;subst bS;cases h;refine⟨?_,by have:=U _ ao;show e.size≠t;omega⟩;show ap[e.size]? =_;rw[cI,Jw (g:=gL nx j ⟨e.size,0,none⟩ i o (o+1)) (λB=>?_)];unfold gL;rw[if_neg (by omega),if_pos rfl]
       ·rename_i bS;obtain⟨aq,rfl⟩: ∃aq,o=aq+1:=⟨o-1,by omega⟩;rw[Kp] at h;have A:=M.node aq z h;refine⟨?_,A.2⟩;rw[mt.af A.1 A.2,Jw (g:=gL nx j ⟨e.size,0,none⟩ i a (aq+1+1)) (λB=>?_)];unfold gL;rw[if_neg (by omega),if_neg (by omega),Kp]
     ·have f:=M.apart;have bT: ∀z∈ns,z.af≠e.size:=λz h q=>by have:=U z.af (.inr ⟨z,h,rfl⟩);omega
      rw[<- DP a ns] at f;rw[List.pairwise_append] at f ⊢;refine⟨f.1,List.pairwise_cons.2 ⟨λz h=>λq=>bT z (HW h) q.symm,f.2.1⟩,λd n z h=>?_⟩;rcases List.mem_cons.1 h with rfl|h
      ·exact bT d (DQ n)
      ·exact f.2.2 d n z h
     ·have:=E.insert (key:=x.key) r (x:=⟨e.size,x,i⟩) ⟨cu,cv⟩;rw[aW] at this;exact this
     ·show(ns.take a++⟨e.size,x,i⟩::ns.drop a).map (·.pr)=_;have:(ns.map (·.pr))=l:=F;rw[S,<-this];simp[List.map_take,List.map_drop]
     ·have N:Mod (λc=>cQ t ns c\/c=e.size) e ap:=(an.mod.trans V).trans (mt.ai λc _ k=>by subst k;exact .inl ao);exact ad.mod.then (N.ai λc _ k=>k.elim .inl λf=> .inr (by have:=ad.size;omega))
     ·rcases u with rfl|⟨z,h,rfl⟩
      ·exact .inl (.inl rfl)
      ·rw[Fl,Hc] at h;rcases h with h|rfl|h
       ·exact .inl (.inr ⟨z,DQ h,rfl⟩)
       ·exact .inr (by have:=ad.size;exact this)
       ·exact .inl (.inr ⟨z,HW h,rfl⟩)))
   cases n:ns[a]? with
   |none=>
    refine ae.no rfl (bE ?_);rw[R,n]
   |some d=>
    refine ae.yes rfl ?_;refine AJ.mk (y.pair n).1 (AJ.mk (AL J rfl) ?_);rw[CY];by_cases D:d.pr.key=x.key
    ·rw[decide_eq_true D];exact ch d n D
    ·rw[decide_eq_false D];exact bE (by rw[R,n];simp[D])))
  refine AJ.mk (AL u rfl) ?_;refine ae.intro (λr=>?_) (λr=>?_)
  ·exact aD (by simp at r;simp;omega)
  ·refine AJ.mk (AB u rfl) ?_;simp at r;cases X:decide ((x.val.size:Int)>(8192:Int))
   ·exact bW (by simp at X;simp;omega)
   ·exact aD (by simp at X;simp;omega)))
 refine ae.no rfl ?_;refine AJ.mk (AL u rfl) ?_;rw[CY];refine ae.intro (λr=>?_) (λr=>?_)
 ·exact aA (by simp at r;simp[r])
 ·refine Aa.mk (AB u rfl) ?_;simp at r;refine ae.intro (λar=>?_) (λar=>?_)
  ·refine AJ.mk (AB u rfl) ?_;rw[CY];cases X:(!decide (x.val=⟨#[]⟩))
   ·exact be (by simp[r,ar,X])
   ·exact aA (by simp[r,ar,X])
  ·exact be (by simp[r,ar])
theorem rR {c:al}{a:aa}{t:Nat}{ns:List DC}{l:List Pr}{b:A2O}(T:cU a t ns l)(d:b (J1 #[J6 J9 (l.length:Int),J6 J9 (ES l:Int)]) a):AA c P Jq #[J5 (some ⟨t,0,none⟩)] a b:=by obtain⟨nx,L,_⟩:=T.lay;refine Zr ?_;unfold Rs;refine ae.no rfl ?_;exact AC.mk (AB L.head lK.1) (AC.mk (AB L.head lK.2) d)
def Tp:Pr:=⟨⟨#[]⟩,⟨#[]⟩,false⟩
def Ma(key:A2P)(l:List Pr):Pr×Bool:=match l[aS key l]? with|some a=>if a.key=key then(a,true) else(Tp,false)|none=>(Tp,false)
theorem three {a:aa}{b:Nat}{T:Q7}{j k l:J0}{f v:A2P}{g:Bool}{K:aa->Prop}(m:a[b]? =some (J2 #[j,k,l] T (0,0)))
  (n: ∀d,d[b]? =some (J2 #[J7 f,J7 v,J3 g] T (0,0))->Mod (λc=>c=b) a d->K d):
  ab a ⟨b,0,none⟩ (J7 f) λh=>ab h ((⟨b,0,none⟩:Q6).add 1) (J7 v) λi=>ab i ((⟨b,0,none⟩:Q6).add 2) (J3 g) λe=>K e:=by
 refine ab.mk m (by simp) λh o p u=>?_
 rw[Ba,Ba];refine ab.mk o (by simp) λi q r w=>?_
 refine ab.mk q (by simp) λe s t x=>?_
 exact n e (by simpa using s) ((p.trans r).trans t)
theorem uv {c d:aa}{t:Nat}{ns:List DC}{nx:Nat->Nat->Q2}{g h:Int}{key:A2P}{a:Nat->Nat}(L:Lay c t ns nx g h)(K:kq ns nx)(e: ∀i,i<12->UW ns key i (a i))(x:Ext c d):
  ag d (((addrAt t ns (a 0)).add 3).add (0*1))=some (J5 ((ns[aS key (bV ns)]?).map λj=>⟨j.af,0,none⟩)):=by
 have b:=gK.zero K.ht (e 0 (by omega));have f:=Xf key ns;have k:=(L.ext x).next (p:=a 0) (i:=0) (by rw[b];exact f) (by omega);rw[k,K.link (a 0) 0 (by rw[b];exact f) (by omega) (e 0 (by omega)).ht,b,Rf K.ht]
theorem zG {z:al}{d:aa}{t:Nat}{ns:List DC}{l:List Pr}{key:A2P}{m:A2O}(T:cU d t ns l)(A: ∀r,Ext d r->m (J1 #[(Ma key l).1.agg,J3 (Ma key l).2]) r):
  AA z P Mk #[J5 (some ⟨t,0,none⟩),J7 key] d m:=by
 obtain⟨nx,L,s⟩:=T.lay;refine Y9 ?_;unfold Rt;refine ak.mk λI _ B n J=>ae.no rfl ?_
 have C:Sorted (bV ns):=by rw[T.bV];exact T.sorted
 refine ZX (L.ext n) s C λM o D p=>⟨_,_,_,_,_,_,_,_,_,_,_,_,rfl,?_⟩
 refine aE ⟨by omega,AZ.mk (uv (L.ext n) s D p) ?_⟩;have u:=p.af B (by simp);have v:Ext d o:=n.trans p;have E:=L.ext v;have ag:Ma key l=match ns[aS key (bV ns)]? with|some f=>if f.pr.key=key then(f.pr,true) else(Tp,false)|none=>(Tp,false):=by unfold Ma;rw[<- T.bV];rw[show bV ns=ns.map (·.pr) from rfl,Bm];cases ns[aS key (ns.map (·.pr))]? <;>rfl
 have w: ∀(g:Pr) (b:Bool) a,a[d.size]? =some (J2 #[J7 g.key,J7 g.val,J3 g.gone] AR (0,0))->Mod (λc=>c=d.size) o a->Ma key l=(g,b)->
   (AJ a (⟨d.size,0,none⟩:Q6) λF=>AJ a ((⟨d.size,0,none⟩:Q6).add 1) λG=>Aa a ((⟨d.size,0,none⟩:Q6).add 2) λH=>m (J1 #[.agg #[J7 F,J7 G,J3 H],J3 b]) a):=λg b a e h q=>by
  refine AJ.mk (AL e rfl) (AJ.mk (AB e rfl) (Aa.mk (AB e rfl) ?_));have:=A a (v.then (h.ai λc _ N=> .inr (by omega)));rw[q] at this;exact this
 refine ah.mk λK x=>?_
 have y:Ma key l=(Tp,false)->K (false,()) o:=λq=>x _ _ (ae.no rfl (three u λa e h=>w Tp false a e h q))
 cases i:ns[aS key (bV ns)]? with
 |none=>
  rw[i] at ag;exact ae.no rfl (y ag)
 |some f=>
  rw[i] at ag;refine ae.yes rfl (aE ?_);have j:=E.pair i;refine AJ.mk j.1 ?_;rw[CY];by_cases k:f.pr.key=key
  ·rw[decide_eq_true k];refine x _ _ (ae.yes rfl ?_);rw[i];refine aE (AJ.mk j.1 (AJ.mk j.2.1 (Aa.mk j.2.2 ?_)));simp only[k,if_true] at ag;exact three u λa e h=>w f.pr true a e h ag
  ·rw[decide_eq_false k];simp only[k,if_false] at ag;exact y ag
theorem rM {a c b:J0}:(#[]++ #[a]++ #[c,b]:Array J0)= #[a,c,b]:=rfl
theorem AO3 {A:al}{s:aa}{b c t:Nat}{T U:Q7}{fr V:Nat×Nat}{ns:List DC}{l:List Pr}{key:A2P}(f:s[b]? =some (J2 #[J5 (some ⟨t,0,none⟩)] T fr))(I:s[c]? =some (J2 #[J7 key] U V))(j:cU s t ns l):
  EJ A P (.func (.func KA) #[] #[J5 (some ⟨b,0,none⟩),J5 (some ⟨c,0,none⟩)]) (λe=>cQ t ns e\/e=b\/e=c) s (l.drop (aS key l)):=by
 refine⟨?_,_,_,rfl,λW=>by kernel_rfl,λd u W X k h hd hB Y Z=>?_⟩
 ·rintro e (hd|rfl|rfl)
  ·exact j.lt hd
  ·exact Af f
  ·exact Af I
 rw[rM];refine Uy ?_;unfold OY;have J:=(u b (.inr (.inl rfl))).trans f;have ab:=(u c (.inr (.inr rfl))).trans I;obtain⟨nx,v,o⟩:=j.lay;have L:Lay d t ns nx (l.length:Int) (ES l:Int):=
  ⟨(u t (.inl (.inl rfl))).trans v.head,λa x z=>⟨(u x.af (.inl (.inr ⟨x,AK z,rfl⟩))).trans (v.node a x z).1,(v.node a x z).2⟩,v.apart⟩
 have M: ∀e,cQ t ns e-> ¬k e:=λe ac=>hd e (.inl ac)
 refine AZ.mk (AL J rfl) (ae.no rfl (AZ.mk (AL J rfl) (AJ.mk (AL ab rfl) ?_)));have ad:Sorted (bV ns):=by rw[j.bV];exact j.sorted
 refine ZX L o ad λap af q B=>⟨_,_,_,_,_,_,_,_,_,_,_,_,rfl,?_⟩
 refine aE ⟨by omega,AZ.mk (uv L o q B) ?_⟩;have ah:aS key (bV ns)=aS key l:=by rw[j.bV]
 have aq:=mI key l;have ar:ns.length=l.length:=by rw[<- j.bV];simp
 rw[ah];have ai:=hB.bd _ _ _ _ _ Z (B.ai (S':=λb=>¬k b/\d.size<=b) λ_ _ d=>d.elim);refine Loop.rule (λm x w=> ∃(a:Nat) (r:Nat->Prop),x=((ns[aS key l+a]?).map λn=>(⟨n.af,0,none⟩:Q6),())/\m=l.length-(aS key l+a)/\aS key l+a<=l.length/\Mod k d w/\(∀ b,r b->k b\/d.size<=b)/\X a true r w) ?_
  ⟨0,k,rfl,rfl,by omega,B.mod,λb f=> .inl f,ai⟩
 rintro K m _ w ⟨a,r,rfl,rfl,au,y,C,N⟩ aj;have D:(l.drop (aS key l)).length=l.length-aS key l:=by simp
 cases h:ns[aS key l+a]? with
 |none=>
  have:=List.getElem?_eq_none_iff.1 h;refine ae.no rfl ?_;exact⟨rfl,a,true,r,y,C,N,λ_=>by rw[D];omega,by rw[D];omega⟩
 |some n=>
  have av:=(List.getElem?_eq_some_iff.1 h).1;have E:=(L.mod y M).pair h;refine ae.yes rfl (aE (AJ.mk E.1 (AJ.mk E.2.1 (Aa.mk E.2.2 ?_))));have ag:(l.drop (aS key l))[a]? =some n.pr:=by
   rw[Bs];have O:(bV ns)[aS key l+a]? =some n.pr:=by rw[show bV ns=ns.map (·.pr) from rfl,Bm,h];rfl
   rw[j.bV] at O;exact O
  refine Du.mono (Y a n.pr r w ag N) ?_;rintro _ ak ⟨g,F,rfl,am,an,Q⟩;have aw:=y.size;have R: ∀b,F b->k b\/d.size<=b:=λb f=>(am b f).elim (C b) λaf=> .inr (by omega)
  have G:Mod k d ak:=y.then (an.ai λb _ f=>C b f);refine⟨g,rfl,ae.intro (λq=>?_) (λq=>?_)⟩
  ·have H:g=false:=by simpa using q
   subst H;exact⟨rfl,a+1,false,F,G,R,Q,(λd=>by cases d),by rw[D];omega⟩
  ·have H:g=true:=by simpa using q
   subst H;refine aE ⟨by omega,?_⟩;have S:=(L.mod G M).next (p:=aS key l+a+1) (i:=0) (by omega) (by omega);have ao:addrAt t ns (aS key l+a+1)=⟨n.af,0,none⟩:=by simp[addrAt,h]
   rw[ao,o.link _ 0 (by omega) (by omega) (by have:=(o.ht n (AK h)).1;simp[R4,h];omega),Rf o.ht] at S;refine AZ.mk S ?_;exact aj (l.length-(aS key l+(a+1))) _ _ (by omega) ⟨a+1,F,rfl,rfl,by omega,G,R,Q⟩
theorem rS {A:al}{a:aa}{t:Nat}{ns:List DC}{l:List Pr}{key:A2P}{f:A2O}(T:cU a t ns l)
  (i: ∀fv d,EJ A P fv (λb=>cQ t ns b\/b=a.size\/b=a.size+1) d (l.drop (aS key l))->Ext a d->d.size=a.size+2->f fv d):AA A P JJ #[J5 (some ⟨t,0,none⟩),J7 key] a f:=by
 refine Xy ?_;unfold Ps;refine ak.mk λp _ j k m=>ak.mk λg _ n h q=>?_
 have e:Ext a g:=k.trans h;have o:=AO3 (A:=A) (h.af j (by simp)) n (T.ext e) (key:=key);refine i _ g (o.ai ?_ ?_ (λc _=>rfl)) e (by omega)
 ·rintro b (hd|rfl|rfl)
  ·exact .inl hd
  ·exact .inr (.inl rfl)
  ·exact .inr (.inr m)
 ·rintro b (hd|rfl|rfl)
  ·exact(T.ext e).lt hd
  ·omega
  ·omega
theorem AMo(l:List Pr):aS ⟨#[]⟩ l=0:=by
 have: ∀x:A2P,aO x ⟨#[]⟩=false:=λx=>by
  have a:(⟨#[]⟩:A2P).toList= []:=by simp[ByteArray.toList_eq]
  unfold aO;rw[a];cases x.toList<;>rfl
 cases l with
 |nil=>rfl
 |cons x l=>simp[aS,gY,this]
theorem rN(l:List Pr):l.drop (aS ⟨#[]⟩ l)=l:=by rw[AMo];rfl
def qb:Pr:=⟨⟨#[98]⟩,⟨#[49]⟩,false⟩
end Go.Lf.G.M
namespace Go.Lf.G
open Go
open M (aS Ae Sorted BV)
theorem ARV(a b:A2P):(!(aO a b||bL a b))=aO b a:=by
 cases c:aO b a with
 |true=>
  have d:aO a b=false:=by
   cases e:aO a b with
   |false=>rfl
   |true=>have:=DJ c e;rw[Bo] at this;cases this
  have e:bL a b=false:=by rw[CY,decide_eq_false_iff_not];rintro rfl;rw[Bo] at c;cases c
  rw[d,e];rfl
 |false=>
  cases d:aO a b with
  |true=>rfl
  |false=>
   have:=NU d c;subst this;rw[CY];simp
theorem AGW {a b c:A2P}(e:aO a b=true)(d:aO c b=false):aO a c=true:=by
 cases g:aO a c with
 |true=>rfl
 |false=>
  cases f:aO c a with
  |true=>rw[DJ f e] at d;cases d
  |false=>
   have:=NU g f;subst this;rw[e] at d;cases d
theorem mj {l:List Pr}(c:Sorted l){i a:Nat}{p b:Pr}(d:l[i]? =some p)(e:l[a]? =some b)(f:i<a):aO p.key b.key=true:=by obtain⟨g,rfl⟩:=List.getElem?_eq_some_iff.1 d;obtain⟨h,rfl⟩:=List.getElem?_eq_some_iff.1 e;exact List.pairwise_iff_getElem.1 c _ _ g h f
structure y7 (l:List Pr) (key:A2P) (B:Nat):Prop where
 lt:B<Bn l
 below: ∀(x:Nat) (p:Pr),x<8*B->l[x]? =some p->aO p.key key=true
 there: ∀(x:Nat) (p:Pr),l[x]? =some p->p.key=key->8*B<=x/\x<8*B+8
theorem ARG {l:List Pr}{key:A2P}{b:Nat}(i:Sorted l)(o:l≠ [])(u:b<=Bn l)(q: ∀a,a<b->aO key (Ip l (8*a))=false)(r:b<Bn l->aO key (Ip l (8*b))=true):y7 l key (b-1):=by
 have v:=vx o;have ag: ∀a,a<Bn l-> ∃g,l[8*a]? =some g/\Ip l (8*a)=g.key:=by
  intro a j;have:8*a<l.length:=by unfold Bn at j;omega
  exact⟨l[8*a],A2 this,by unfold Ip;rw[A2 this]⟩
 have k: ∀(x:Nat) (p:Pr),x<8*(b-1)->l[x]? =some p->aO p.key key=true:=by intro x p h c;obtain⟨g,e,f⟩:=ag (b-1) (by omega);have d:=mj i c e h;have:=q (b-1) (by omega);rw[f] at this;exact AGW d this
 refine⟨by omega,k,λx p c f=>⟨?_,?_⟩⟩
 ·apply P0;intro h;have:=k x p h c;rw[f,Bo] at this;cases this
 ·apply Nat.lt_of_not_le;intro h;have w:=(List.getElem?_eq_some_iff.1 c).1;have step: ∀a,8*a<=x->a<Bn l->aO key (Ip l (8*a))=true->False:=by
   intro a j s d;obtain⟨g,e,t⟩:=ag a s;rw[t] at d;rcases G0 (8*a) x with m|m
   ·have:=mj i e c m;have:=DJ d this;rw[f,Bo] at this;cases this
   ·have:8*a=x:=by omega
    rw[this,c] at e;cases e;rw[f,Bo] at d;cases d
  have n:b<Bn l:=by unfold Bn;omega
  exact step b (by omega) n (r n)
theorem APq {i a:Nat}(b:i+a<=2*1099511627776):J8 J9 ((J8 .u64 (J8 J9 (((i:Nat):Int)+((a:Nat):Int)))).fdiv ((2:Int)^(1:Nat)))=(((i+a) / 2:Nat):Int):=by rw[show((i:Nat):Int)+((a:Nat):Int)=((i+a:Nat):Int) by omega,Gz (by omega),Bv (by omega),QC,Gz (by omega)]
theorem AMV {n:al}{f:aa}{fv:J0}{c:Nat}{p:Nat->Bool}{o:A2O}(D:c<=1099511627776)(z: ∀i b,i<=b->b<c->p i=true->p b=true)
  (A: ∀i d,i<c->Ext f d->Du n P fv #[J6 J9 (i:Int)] d λv g=>v=J3 (p i)/\Ext d g)
  (B: ∀h g,h<=c->(∀ b,b<h->p b=false)->(h<c->p h=true)->Ext f g->o (J6 J9 (h:Int)) g):AA n P PQ #[J6 J9 (c:Int),fv] f o:=by
 refine AB5 ?_;unfold Vo;refine Loop.rule (λm x d=> ∃i b:Nat,x=((i:Int),(b:Int),())/\m=b-i/\i<=b/\b<=c/\(∀ a,a<i->p a=false)/\(b<c->p b=true)/\Ext f d) ?_ ⟨0,c,rfl,rfl,by omega,A0 _,λa C=>by omega,λf=>by omega,Mod.refl⟩;rintro K m _ d ⟨i,b,rfl,rfl,k,q,r,s,j⟩ t;dsimp only;refine ae.intro (λl=>?_) (λl=>?_)
 ·have k:i<b:=by simp at l;omega
  rw[APq (by omega)];refine ah.mk λE u=>?_
  have w:(i+b) / 2<c:=by omega
  refine Du.mono (A _ d w j) ?_;rintro v g ⟨rfl,y⟩;refine⟨_,rfl,ae.intro (λe=>?_) (λe=>?_)⟩
  ·have e:p ((i+b) / 2)=false:=by simpa using e
   refine u _ _ ?_;dsimp only;rw[Ab (by omega)];refine t (b-((i+b) / 2+1)) _ _ (by omega) ⟨(i+b) / 2+1,b,rfl,rfl,by omega,q,λa C=>?_,s,j.trans y⟩;cases f:p a with
   |false=>rfl
   |true=>rw[z a _ (by omega) w f] at e;cases e
  ·have e:p ((i+b) / 2)=true:=by simpa using e
   refine u _ _ ?_;exact t ((i+b) / 2-i) _ _ (by omega) ⟨i,(i+b) / 2,rfl,rfl,by omega,by omega,r,λ_=>e,j.trans y⟩
 ·have k:i=b:=by simp at l;omega
  subst k;exact B i d q r s j
abbrev ya:Q8:=IY
theorem yb {A:al}{h:aa}{t D m:Nat}{l:List Pr}{f:List UInt8}{key:A2P}{R:A2O}(T:bR h t l f D m)(c:gP (aI (aR l f)) l f)
  (E: ∀d r,y7 l key r->Ext h d->R (J6 J9 (r:Int)) d):AA A P Gg #[Ap t,J7 key] h R:=by
 refine Td ?_;unfold Ms;refine ak.mk λe _ F G X=>ak.mk λY _ H u Z=>?_
 have w:=Ai u F;have x:=G.trans u;obtain⟨n,ab,y,z,ac,_,_⟩:=(T.ext x).at_;refine AZ.mk (AL w rfl) (aE ?_);refine AY.mk (s:=n) (AL y rfl) ?_;have I:n.len=Bn l:=by rw[z.len,HZ]
 have ad:=c.many;have ae:Bn l<=12501:=by unfold Bn;omega
 rw[I];have B: ∀b,b<Bn l-> ∃C,l[8*b]? =some C/\Ip l (8*b)=C.key:=by
  intro b o;have:8*b<l.length:=by unfold Bn at o;omega
  exact⟨l[8*b],A2 this,by unfold Ip;rw[A2 this]⟩
 refine AMV (p:=λb=>aO key (Ip l (8*b))) (by omega) (λi b af o g=>?_) (λi q m j=>?_) λk J K e L M=>⟨_,rfl,?_⟩
 ·rcases G0 i b with h|h
  ·obtain⟨ag,N,O⟩:=B i (by omega);obtain⟨ah,Q,S⟩:=B b o;have:=mj c.inc N Q (by omega);rw[O] at g;rw[S];exact DJ g this
  ·have:i=b:=by omega
   rw[this] at g;exact g
 ·have U:=Du.func (A:=A) (P:=P) (f:=ya) (first:= #[]) (bQ:= #[Ap h.size,Ap e.size]) (args:= #[J6 J9 (i:Int)]) (h:=q) (R:=λv d=>v=J3 (aO key (Ip l (8*i)))/\Ext q d) (by kernel_rfl) ?_
  ·exact U
  ·show AA A P ya #[J6 J9 (i:Int),Ap h.size,Ap e.size] q _;refine RO ?_;unfold LA;refine aE (AZ.mk (AL (Ai j w) rfl) (aE ?_));refine AY.mk (s:=n) (AL (Ai j y) rfl) ?_;refine(z.ext j).idx (Qo m) λa ai V=>?_
   rw[A6];refine AJ.mk V.str (aE ?_);refine AJ.mk (AL (Ai j H) rfl) ?_;rw[ARV];exact⟨rfl,Mod.refl⟩
 ·have W:(if((J8 J9 (((k:Nat):Int)-(1:Int))):Int)>0 then(J8 J9 (((k:Nat):Int)-(1:Int))) else 0)=((k-1:Nat):Int):=by rw[wrap_i64 (by omega) (by omega)];split<;>omega
  rw[W];exact E J (k-1) (ARG c.inc c.ne K e L) (x.trans M)
def Ux(key:A2P)(l:List Pr):Pr×Bool:=match Ae key l with|some a=>(a,true)|none=>(M.Tp,false)
theorem AP4 {l:List Pr}(g:Sorted l){p:Pr}(h:p∈l):Ae p.key l=some p:=by
 unfold Ae;cases d:l.find? λe=>decide (e.key=p.key) with
 |none=>
  have:=List.find?_eq_none.1 d p h;simp at this
 |some e=>
  have b:=IN d;have b:e.key=p.key:=of_decide_eq_true b;obtain⟨i,f⟩:=Ge (IS d);obtain⟨j,c⟩:=Ge h;rcases HU i j with a|a|a
  ·have:=mj g f c a;rw[b,Bo] at this;cases this
  ·subst a;rw[f] at c;exact c
  ·have:=mj g c f a;rw[b,Bo] at this;cases this
theorem yc {l:List Pr}{key:A2P}(a: ∀p∈l,p.key≠key):Ae key l=none:=by unfold Ae;rw[HI];intro p b;simpa using a p b
theorem AQN {ai:al}{d:aa}{t aj F:Nat}{l:List Pr}{f:List UInt8}{key:A2P}{G:A2O}(T:bR d t l f aj F)(q:gP (aI (aR l f)) l f)(am:key.size<=1099511627776)
  (an: ∀O,Ext d O->G (J1 #[(Ux key l).1.agg,J3 (Ux key l).2]) O):AA ai P KT #[Ap t,J7 key] d G:=by
 refine WT ?_;unfold PE;refine ak.mk λQ _ R A aV=>?_
 have tail: ∀g x,Ext d g->g[d.size]? =some (J2 #[J7 ⟨#[]⟩,J7 ⟨#[]⟩,J3 false] AR (0,0))-> ∀(h:Pr) (b:Bool),Ux key l=(h,b)->x=Value.tuple #[.agg #[J7 h.key,J7 h.val,J3 h.gone],J3 b]->
   ∀ {r u:A2P} {v:Bool},r=h.key->u=h.val->v=h.gone->
   ab g (⟨d.size,0,none⟩:Q6) (J7 r) λS=>ab S ((⟨d.size,0,none⟩:Q6).add 1) (J7 u) λU=>ab U ((⟨d.size,0,none⟩:Q6).add 2) (J3 v) λn=>
    AJ n (⟨d.size,0,none⟩:Q6) λao=>AJ n ((⟨d.size,0,none⟩:Q6).add 1) λap=>Aa n ((⟨d.size,0,none⟩:Q6).add 2) λaq=>G (J1 #[.agg #[J7 ao,J7 ap,J3 aq],J3 b]) n:=by
  intro g x w ar h b au aW r u v av aw ax;subst av aw ax;refine ab.mk ar (by simp) λS ay az aX=>?_
  rw[Ba,Ba];refine ab.mk ay (by simp) λU aA aC aY=>?_
  refine ab.mk aA (by simp) λn H aD aZ=>?_
  refine AJ.mk (AL H rfl) (AJ.mk (AL H rfl) (Aa.mk (AL H rfl) ?_));have k:Ext d n:=⟨by have:=w.size;omega,λc aF _=>(aD.get c (by have:=w.size;omega) (by omega)).trans ((aC.get c (by have:=w.size;omega) (by omega)).trans ((az.get c (by have:=w.size;omega) (by omega)).trans (w.get c aF (λd=>d))))⟩;have:=an n k;rw[au] at this;exact this
 refine ah.mk λK aG=>?_
 refine ae.no rfl (aE ?_);obtain⟨a0,aH,I,a1,aJ,_,_⟩:=(T.ext A).at_;refine AJ.mk (AB I rfl) ?_;refine xN am ⟨_,rfl,?_⟩;rw[EP];refine aG _ _ ?_;refine ae.intro (λj=>?_) (λj=>?_)
 ·have j:gO f key=false:=by simpa using j
  have J:Ae key l=none:=yc λp y B=>by
   have:=q.has p y;rw[B,j] at this;cases this
  exact tail Q _ A R M.Tp false (by unfold Ux;rw[J]) rfl rfl rfl rfl
 ·refine aE (AY.mk (s:=aH) (AB I rfl) ?_);refine yb (T.ext A) q λa2 a hB C=>⟨_,rfl,AB (Ai C I) rfl,?_⟩
  have aK:((KP l).map λb=>AX (BK b))[a]? =some (AX (BK (Bw l a))):=by simp[KP,hB.lt]
  refine(aJ.ext C).idx aK λa3 a4 aL=>?_
  rw[A6];refine AJ.mk aL.str ?_;have aM: ∀p∈Bw l a,Kw p:=λp y=>q.ok p (PN y)
  have a5:=QM q.ok hB.lt;refine ri aM (by omega) λps aN V W a6=>⟨_,_,rfl,?_⟩
  have X:ps.len=(Bw l a).length:=V.len;have a7:=QI hB.lt;have Y:=(A.trans C).trans W;have Z:=Ai W (Ai C R);refine Loop.rule (λm x aO=> ∃e:Nat,x=((e:Int),())/\m=(Bw l a).length-e/\e<=(Bw l a).length/\(∀ i p,i<e->(Bw l a)[i]? =some p->p.key≠key)/\Ext aN aO) ?_ ⟨0,rfl,rfl,by omega,λi p F=>by omega,Mod.refl⟩;rintro a8 m _ aP ⟨e,rfl,rfl,a9,ac,o⟩ aQ;dsimp only;refine ae.intro (λj=>?_) (λj=>?_)
  ·have D:e<(Bw l a).length:=by rw[X] at j;simp at j;omega
   have k:(Bw l a)[e]? =some (Bw l a)[e]:=A2 D;have ad:(Bw l a)[e]∈l:=PN (AW D);generalize (Bw l a)[e]=p at k ad;refine(V.ext o).view.idx k λba bb aS=>?_
   obtain⟨r,u,v⟩:=aS.pair;rw[A6];refine AJ.mk r (AJ.mk u (Aa.mk v ?_));refine ak.pair λbc aT bd E L be=>?_
   refine AJ.mk (AL E rfl) ?_;refine ae.intro (λz=>?_) (λz=>?_)
   ·rw[CY,decide_eq_true_iff] at z;refine AJ.mk (AL E rfl) (AJ.mk (AB E rfl) (Aa.mk (AB E rfl) ?_));have af:=AP4 q.inc ad;rw[z] at af;exact tail aT _ ((Y.trans o).trans L) (Ai L (Ai o Z)) p true (by unfold Ux;rw[af]) rfl rfl rfl rfl
   ·rw[CY,decide_eq_false_iff_not] at z;rw[Ab (by omega)];refine aQ ((Bw l a).length-(e+1)) _ _ (by omega) ⟨e+1,rfl,rfl,D,λi h F N=>?_,o.trans L⟩;by_cases aU:i=e
    ·rw[aU,k] at N;cases N;exact z
    ·exact ac i h (by omega) N
  ·have D:e=(Bw l a).length:=by rw[X] at j;simp at j;omega
   have J:Ae key l=none:=yc λp y B=>by
    obtain⟨x,k⟩:=Ge y;obtain⟨Q,bf⟩:=hB.there x p k B;have ag:(Bw l a)[x-8*a]? =some p:=by rw[Pq (by omega),show 8*a+(x-8*a)=x by omega];exact k
    have:=(List.getElem?_eq_some_iff.1 ag).1;exact ac (x-8*a) p (by omega) ag B
   exact tail aP _ (Y.trans o) (Ai o Z) M.Tp false (by unfold Ux;rw[J]) rfl rfl rfl rfl
theorem yd {key:A2P}{l:List Pr}(a:Sorted l){x:Nat}{p:Pr}(b:l[x]? =some p):x<aS key l↔aO p.key key=true:=M.oO a b
theorem ALw {A:al}{z:aa}{b c t lo hi:Nat}{a0 ao:Q7}{l:List Pr}{f:List UInt8}{key:A2P}(r:z[b]? =some (J2 #[Ap t] a0 (0,0)))(ap:z[c]? =some (J2 #[J7 key] ao (0,0)))
  (T:bR z t l f lo hi) (bw:hi<=z.size) (B:gP (aI (aR l f)) l f):
  EJ A P (.func (.func I5) #[] #[Ap b,Ap c]) (λe=>(lo<=e/\e<hi)\/e=b\/e=c) z (l.drop (aS key l)):=by
 refine⟨?_,_,_,rfl,λa1=>by kernel_rfl,λh J a1 aq n bx hd hB a2 a3=>?_⟩
 ·rintro e (hd|rfl|rfl)
  ·omega
  ·exact Af r
  ·exact Af ap
 rw[M.rM];refine R7 ?_;unfold MP;have L:=(J b (.inr (.inl rfl))).trans r;have ar:=(J c (.inr (.inr rfl))).trans ap;have au:bR h t l f lo hi:=by
  obtain⟨av,o,w,N,Y,Z,aw⟩:=T.at_;have ax: ∀ {s:Sl} {ay:List A2P},View IV z s ay->(∀ e,s.af=some e->lo<=e/\e<hi)->View IV h s ay:=λv a4=>⟨v.len,v.cap,λi x hi=>by
   obtain⟨a,az,a5⟩:=v.cells i x hi;refine⟨a,az,λj v aA=>?_⟩;rw[<- a5 j v aA];exact QD (by rw[aM,aM];exact J _ (.inl (a4 _ (by simp[Sl.af,az]))))⟩
  exact⟨⟨av,o,(J t (.inl T.fw)).trans w,ax N Z,ax Y aw,Z,aw⟩,T.fw⟩
 have a6: ∀e,lo<=e->e<hi-> ¬n e:=λe w N=>hd e (.inl ⟨w,N⟩)
 obtain⟨av,o,aC,bz,aD,bA,a7⟩:=au.at_;refine aE (AZ.mk (AL L rfl) (ae.no rfl (aE (AZ.mk (AL L rfl) (aE (AY.mk (s:=o) (AB aC rfl) (aE (AZ.mk (AL L rfl) (aE (AJ.mk (AL ar rfl) ?_))))))))));refine yb au B λw d aF O=>⟨_,rfl,AB (Ai O aC) rfl,AL (Ai O L) rfl,?_⟩
 have aG:o.len=Bn l:=by rw[aD.len];simp[Gr]
 have a8:=aF.lt;refine⟨by rw[aG];omega,?_⟩;rw[A6,aG];have bB:=M.mI key l;have bC:=B.many;have bD:Bn l<=12501:=by unfold Bn;omega
 have bE:8*d<=aS key l:=by
  apply P0;intro C;have a9:aS key l<l.length:=by unfold Bn at a8;omega
  obtain⟨aH,D⟩: ∃aH,l[aS key l]? =some aH:=⟨_,A2 a9⟩;have w:=aF.below _ _ C D;have N:=(yd B.inc D).2 w;omega
 have ab:(l.drop (aS key l)).length=l.length-aS key l:=by simp
 have ba:=hB.bd _ _ _ _ _ a3 (O.ai (S':=λb=>¬n b/\h.size<=b) λ_ _ h=>h.elim);have bb:View IV h ⟨A7 o.p o.cap d 1,Bn l-d,o.cap-d⟩ (((KP l).map λb=>AX (BK b)).drop d):=by have:=aD.sub (lo:=d) (hi:=Bn l) (by omega) (by simp[Gr]);rw[AG (by simp[Gr])] at this;exact this
 have bc: ∀e,Sl.af ⟨A7 o.p o.cap d 1,Bn l-d,o.cap-d⟩=some e-> ¬n e:=λe k=>by
  have:=a7 e (Ze k);exact a6 e this.1 this.2
 refine Loop.rule (λm x G=> ∃(i:Nat) (E:Nat->Prop),x=((i:Int),())/\m=Bn l-d-i/\i<=Bn l-d/\Mod n h G/\(∀ b,E b->n b\/h.size<=b)/\aq (min (8*(d+i)) l.length-aS key l) true E G) ?_
  ⟨0,n,rfl,rfl,by omega,O.mod,λb r=> .inl r,by
   have:min (8*(d+0)) l.length-aS key l=0:=by omega
   rw[this];exact ba⟩
 rintro K m _ G ⟨i,E,rfl,rfl,hi,Q,aJ,H⟩ bd;dsimp only;refine ae.intro (λq=>?_) (λq=>?_)
 ·have aK:i<Bn l-d:=by simp at q;omega
  have R:d+i<Bn l:=by omega
  have bF:8*(d+i)<l.length:=by unfold Bn at R;omega
  have be:(((KP l).map λb=>AX (BK b)).drop d)[i]? =some (AX (BK (Bw l (d+i)))):=by rw[Bs];simp[KP,R]
  refine(bb.mod Q bc).idx be λbG bH bf=>?_
  rw[A6];refine AJ.mk bf.str ?_;have bg: ∀p∈Bw l (d+i),Kw p:=λp bh=>B.ok p (PN bh)
  have bI:=QM B.ok R;have bJ:=QI R;refine ri bg (by omega) λps Y ac aL bi=>⟨_,_,rfl,?_⟩
  have aN:ps.len=(Bw l (d+i)).length:=ac.len;have bj:min (8*(d+i)) l.length=8*(d+i):=by omega
  rw[bj] at H;have bK:=Q.size;have bk:=hB.wf _ _ _ _ H;have bm:=hB.bd _ _ _ _ _ H (aL.ai (S':=λb=>¬E b/\h.size<=b) λ_ _ h=>h.elim);have bn:Mod n h Y:=Q.trans aL.mod;refine Loop.rule (λm x S=> ∃(j:Nat) (u:Nat->Prop),x=((j:Int),())/\m=(Bw l (d+i)).length-j/\j<=(Bw l (d+i)).length/\Mod n h S/\(∀ b,u b->n b\/h.size<=b)/\(∀ e,ps.af=some e-> ¬u e/\e<S.size)/\View BZ S ps (Bw l (d+i))/\aq (8*(d+i)+j-aS key l) true u S) ?_
   ⟨0,E,rfl,rfl,by omega,bn,aJ,λe k=>⟨λh=>by have:=bi e k;have:=bk e h;omega,ac.lt k⟩,ac.view,bm⟩
  rintro bL m _ Z ⟨j,u,rfl,rfl,aA,ad,U,F,af,aP⟩ aQ;dsimp only;refine ae.intro (λq=>?_) (λq=>?_)
  ·have I:j<(Bw l (d+i)).length:=by rw[aN] at q;simp at q;omega
   have D:(Bw l (d+i))[j]? =some (Bw l (d+i))[j]:=A2 I;have V:l[8*(d+i)+j]? =some (Bw l (d+i))[j]:=by rw[<- Pq (by omega)];exact D
   generalize (Bw l (d+i))[j]=p at D V;refine af.idx D λbM bN bo=>?_
   obtain⟨bp,bq,br⟩:=bo.pair;rw[A6];refine AJ.mk bp (AJ.mk bq (Aa.mk br ?_));refine ak.pair λbO ai bP W y bQ=>?_
   have X:Mod n h ai:=ad.trans y.mod;have bS:=ad.size;have aT:=hB.bd _ _ _ _ _ aP (y.ai (S':=λb=>¬u b/\h.size<=b) λ_ _ h=>h.elim);have bs:ai[c]? =some (J2 #[J7 key] ao (0,0)):=X.af ar (hd c (.inr (.inr rfl)));refine ah.mk λbT aU=>?_
   refine AJ.mk (AL W rfl) (aE (AJ.mk (AL bs rfl) ?_));have bU:=(List.getElem?_eq_some_iff.1 V).1;have aV:=yd (key:=key) B.inc V;refine ae.intro (λC=>?_) (λC=>?_)
   ·have bt:aS key l<=8*(d+i)+j:=by apply P0;intro G;rw[aV.1 G] at C;cases C
    refine AJ.mk (AL W rfl) (AJ.mk (AB W rfl) (Aa.mk (AB W rfl) ?_));have ag:(l.drop (aS key l))[8*(d+i)+j-aS key l]? =some p:=by rw[Bs,show aS key l+(8*(d+i)+j-aS key l)=8*(d+i)+j by omega];exact V
    refine Du.mono (a2 _ p u ai ag aT) ?_;rintro _ bu ⟨g,aj,rfl,aW,am,aX⟩;have bV:=X.size;have aY: ∀b,aj b->n b\/h.size<=b:=λb r=>(aW b r).elim (U b) λw=> .inr (by omega)
    have aZ:Mod n h bu:=X.then (am.ai λb _ r=>U b r);refine⟨g,rfl,aU _ _ ?_⟩;dsimp only;cases g with
    |false=>exact ae.yes rfl ⟨rfl,_,false,aj,aZ,aY,aX,(λh=>by cases h),by rw[ab];omega⟩
    |true=>
     refine ae.no rfl ?_;rw[Ab (by omega)];refine aQ ((Bw l (d+i)).length-(j+1)) _ _ (by omega) ⟨j+1,aj,rfl,rfl,I,aZ,aY,λe k=>⟨λh=>?_,by have:=F e k;have:=y.size;have:=am.size;omega⟩,?_,?_⟩
     ·rcases aW e h with h|h
      ·exact(F e k).1 h
      ·have:=(F e k).2;have:=y.size;omega
     ·exact(af.ext y).mod am λe k=>(F e k).1
     ·rw[show 8*(d+i)+(j+1)-aS key l=8*(d+i)+j-aS key l+1 by omega];exact aX
   ·have bv:aO p.key key=true:=by simpa using C
    have bt:=aV.2 bv;refine aU _ _ (ae.no rfl ?_);rw[Ab (by omega)];refine aQ ((Bw l (d+i)).length-(j+1)) _ _ (by omega) ⟨j+1,u,rfl,rfl,I,X,U,λe k=>⟨(F e k).1,by have:=(F e k).2;have:=y.size;omega⟩,af.ext y,?_⟩;rw[show 8*(d+i)+(j+1)-aS key l=8*(d+i)+j-aS key l by omega];exact aT
  ·have I:j=(Bw l (d+i)).length:=by rw[aN] at q;simp at q;omega
   rw[Ab (by omega)];refine bd (Bn l-d-(i+1)) _ _ (by omega) ⟨i+1,u,rfl,rfl,by omega,ad,U,?_⟩;have an:min (8*(d+(i+1))) l.length=8*(d+i)+j:=by rw[I];unfold Bw;rw[AE,DG];omega
   rw[an];exact aP
 ·have aK:i=Bn l-d:=by simp at q;omega
  have an:min (8*(d+i)) l.length=l.length:=by rw[aK,show d+(Bn l-d)=Bn l by omega];unfold Bn;omega
  rw[an] at H;exact⟨rfl,l.length-aS key l,true,E,Q,aJ,H,λ_=>ab.symm,by rw[ab];omega⟩
theorem ye {A:al}{a:aa}{t h g:Nat}{l:List Pr}{f:List UInt8}{key:A2P}{i:A2O}(T:bR a t l f h g)(u:g<=a.size)(m:gP (aI (aR l f)) l f)
  (n: ∀fv d,EJ A P fv (λb=>(h<=b/\b<g)\/b=a.size\/b=a.size+1) d (l.drop (aS key l))->Ext a d->d.size=a.size+2->i fv d):AA A P Hq #[Ap t,J7 key] a i:=by
 refine Uw ?_;unfold OP;refine ak.mk λv _ o p q=>ak.mk λj _ r k w=>?_
 have e:Ext a j:=p.trans k;have s:=ALw (A:=A) (Ai k o) r (T.ext e) (by have:=e.size;omega) m (key:=key);refine n _ j (s.ai ?_ ?_ (λc _=>rfl)) e (by omega)
 ·rintro b (hd|rfl|rfl)
  ·exact .inl hd
  ·exact .inr (.inl rfl)
  ·exact .inr (.inr q)
 ·rintro b (hd|rfl|rfl)
  ·have:=e.size;omega
  ·omega
  ·omega
end Go.Lf.G
