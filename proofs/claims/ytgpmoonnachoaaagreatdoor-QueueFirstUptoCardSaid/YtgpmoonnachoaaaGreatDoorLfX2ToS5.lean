/-
 Contracts: frames scanned, a log's segments, a log opened (chapters 2 and 4).
-/
import Derived.Test.YtgpmoonnachoaaaGreatDoorLfU2ToS3
import Derived.Test.YtgpmoonnachoaaaGreatDoorLfG1
import Derived.Laws.StructEq
import Derived.ChangeKeysEq
set_option maxRecDepth 100000
set_option linter.unusedVariables false
set_option linter.unusedSimpArgs false
open Go.IntKind renaming i64→J9,wrap→J8
open Go.Value renaming string→J7,int→J6,pointer→J5,slice→J4,bool→J3,tuple→J1
open Go.Obj renaming cells→J2
open Go renaming Value→J0,Addr→Q6,TypeId→Q7,FuncId→Q8,Program→Q1
open Go.Addr renaming add→Q9,mk→Q5
namespace Go.Lf.G
open Go
theorem rB:QE P BQ Az Fs.w 16=true:=by kernel_rfl
theorem rC:QE P DJ Bq IJ.w 8=true:=by kernel_rfl
theorem AHQ {l:List UInt8}{b:List (List UInt8)}(a:NR l b):b.length<=l.length:=by
 induction a with
 |stop a=>exact As _
 |step a s c=>have:=qQ a;simp only[A5];omega
theorem APk {p:aq}{a:aa}{s:A2Q}{k:A2P}(A:s.size<=8000000000000)
  (q: ∀e sl r,Ext a e->View Fs e sl ((kW (bl s)).map AX)->k (J1 #[J4 sl.p sl.len sl.cap,J6 J9 r]) e):AA p P LJ #[J7 s] a k:=by
 refine WH ?_;unfold Rf;refine Loop.rule (λm x g=> ∃(sl:Sl) (dn b:List (List UInt8)) (l:List UInt8),x=(sl,AX l,())/\Ext a g/\Own Fs Az g sl (dn.map AX)/\(∀ c,sl.ah=some c->a.size<=c)/\NR l b/\kW (bl s)=dn++b/\dn.length+l.length<=s.size/\m=l.length) ?_
  ⟨⟨none,0,0⟩,[],_,bl s,by rw[Ku],Mod.refl,Own.nil,λc h=>by simp[Sl.ah] at h,qS _,rfl,by rw[A7];simp,rfl⟩
 rintro K m _ g ⟨sl,dn,b,l,rfl,x,n,f,i,j,B,rfl⟩ t;refine yk (by omega) λu d=>⟨_,_,_,rfl,?_⟩
 cases i with
 |stop o=>
  refine af.no (by simp;omega) ?_;rw[AK] at j;exact q u sl _ (x.trans d) (by rw[j];exact(n.ext d).view)
 |step o i=>
  rename_i b;refine af.yes (by simp;omega) ?_;have C:=qQ o;refine al.aY (E:=Fs) (x:=AX (Gu l).2.1) (s:=sl) (l:=dn.map AX) rfl rB (n.ext d) (by simp;omega) (by simp[maxLen];omega) λv D w y z F=>?_
  refine t (Gu l).2.2.length _ _ (by omega) ⟨v,dn++ [(Gu l).2.1],b,(Gu l).2.2,rfl,(x.trans d).more y f,?_,λc h=>?_,i,by rw[j];simp,by simp;omega,rfl⟩
  ·rw[AW];exact w
  ·rcases z c h with a|a
   ·exact f c a
   ·have:=x.size;have:=d.size;omega
theorem ARV {m:aq}{c:aa}{s:Sl}{l:List Int}{t:A2P}(u:Own IJ Bq c s l)(O:l.length<=8796093022208)
  (w: ∀n,View IJ n s (l.mergeSort λx d=>decide (x<=d))->Mod (λb=>s.ah=some b) c n->t (J1 #[]) n):AA m P Iz #[J4 s.p s.len s.cap] c t:=by
 intro j;have y:=u.len;rcases u.row with⟨rfl,rfl⟩|⟨g,o,p,h,B,Q,C,z⟩
 ·refine Calls.mono (Proofs.AnyM.slices_Sort_int_none Proofs.Tryz.iX none 0 (m.at c j)) ?_;rintro k D ⟨rfl,rfl⟩;exact⟨_,rfl,c,j,rfl,w c (by simpa using View.nil) Mod.refl⟩
 ·rw[p,y];have q:IJ.w=1:=rfl;rw[q,Bs] at C z;have F: ∀a x,l[a]? =some x->o[a]? =some (Value.int J9 x):=λa x e=>by
   have f:=dB (E:=IJ) e 0 (J6 J9 x) rfl;rw[<- z,q,Bs,G3,F2] at f;split at f
   ·simpa using f
   ·cases f
  refine Calls.mono (Proofs.AnyM.slices_Sort_int Proofs.Tryz.iX g 0 s.cap l (m.at c j) ?_ (Ah h) (by omega)) ?_
  ·intro a e;have e:a<l.length:=by simpa using e
   have f:=F a l[a] (A2 e);have G:l.toArray[a]! =l[a]:=by simp[e]
   refine⟨?_,?_⟩
   ·show ag c ⟨g,0+a,none⟩=_;unfold ag;rw[h];simp only[Option.isSome_none,Cp,if_false,AI,G,f]
   ·show fZ c ⟨g,0+a,none⟩=false;unfold fZ;rw[h];simp
  ·rintro k D ⟨rfl,H,os,rfl⟩;have I:(c.modify g (Sort.onCells (Sort.putCells (Value.int J9) 0 (l.mergeSort λx d=>decide (x<=d)).toArray))++os)[g]? =some (J2 (Sort.putCells (Value.int J9) 0 (l.mergeSort λx d=>decide (x<=d)).toArray o) Bq (0,0)):=by rw[MD (by simpa using Ah h),GF,if_pos rfl,h];rfl
   refine⟨_,rfl,c.modify g (Sort.onCells (Sort.putCells (Value.int J9) 0 (l.mergeSort λx d=>decide (x<=d)).toArray))++os,j+H,rfl,w _ ⟨?_,B,λa x e=>⟨⟨g,0,none⟩,p,λi v r=>?_⟩⟩ ⟨by simp,λb J K=>?_⟩⟩
   ·rw[A0N];exact y
   ·have L:i=0:=by have:=(List.getElem?_eq_some_iff.1 r).1;have k:(IJ.enc x).length=1:=rfl;omega
    subst L;simp only[IJ,Hv,BW] at r;subst r;have A:a<(l.mergeSort λx d=>decide (x<=d)).length:=(List.getElem?_eq_some_iff.1 e).1;have M:a<o.size:=by rw[A0N] at A;omega
    rw[q,Bs,Bh,Bh,AI,G3];unfold ag;rw[I];simp only[Option.isSome_none,Cp,if_false,Sort.putCells,Array.getElem?_mapIdx];rw[Ft M,HS,if_pos ⟨As _,by simpa using A⟩];have:(l.mergeSort λx d=>decide (x<=d)).toArray[a-0]! =x:=by rw[HA];simp[e]
    rw[this]
   ·have N:g≠b:=λk=>K (by rw[Sl.ah,p,k];rfl)
    rw[MD (by simpa using J),GF,if_neg N]
structure mE (nm:A2Q) (m:Bx) (l:List Nat):Prop where
 inc:l.Pairwise (· < ·)
 mem: ∀n,n∈l↔1<=n/\n<=99999999/\(Cn (aC nm n) m.files).isSome=true
theorem yD {k:A2Q}{l:List Fi}:(Cn k l).isSome=true↔k∈l.map (·.name):=by
 constructor
 ·intro a;cases b:Cn k l with
  |none=>rw[b] at a;cases a
  |some f=>
   obtain⟨c,d⟩:=KI b;exact List.mem_map.2 ⟨f,d,c⟩
 ·intro a;obtain⟨f,c,d⟩:=List.mem_map.1 a;cases b:Cn k l with
  |none=>exact absurd d (Rx b f c)
  |some f=>rfl
theorem yE {m:Bx}(g:G9 m):(m.files.map (·.name)).Nodup:=List.pairwise_map.2 (g.sorted.imp λa=>Lj a)
theorem AJk {ns:List Nat}(n:ns.Nodup): ∃l:List Nat,((ns.map λd:Nat=>(d:Int)).mergeSort λx e=>decide (x<=e))=l.map (λd:Nat=>(d:Int))/\l.Pairwise (· < ·)/\ ∀d,d∈l↔d∈ns:=by
 have f:=List.mergeSort_perm (ns.map λd:Nat=>(d:Int)) (λx e=>decide (x<=e));have k:((ns.map λd:Nat=>(d:Int)).mergeSort λx e=>decide (x<=e)).Pairwise (λx e=>decide (x<=e)=true):=
  List.pairwise_mergeSort (λa b c o h=>by simp at o h ⊢;omega) (λa b=>by simp;omega) _
 generalize (ns.map λd:Nat=>(d:Int)).mergeSort (λx e=>decide (x<=e))=L at f k;have i: ∀x∈L,((x.toNat:Nat):Int)=x:=λx g=>by
  obtain⟨d,_,rfl⟩:=List.mem_map.1 (f.subset g);simp
 have p:L=(L.map Int.toNat).map (λd:Nat=>(d:Int)):=by
  rw[Bk]
  conv=>lhs;rw[<- KB L]
  exact CC λx g=>(i x g).symm
 have q:L.Nodup:=f.symm.nodup (by
  rw[SW,NX];exact(List.nodup_iff_pairwise_ne.1 n).imp λr s=>r (by exact_mod_cast s))
 refine⟨L.map Int.toNat,p,?_,λd=>?_⟩
 ·rw[NX];have h:L.Pairwise λx e=>decide (x<=e)=true/\x≠e:=k.and (List.nodup_iff_pairwise_ne.1 q)
  refine h.imp_of_mem λ{a c} t u m=>?_
  have w:=i a t;have y:=i c u;have z:a<=c:=of_decide_eq_true m.1;have A:=m.2;omega
 ·constructor
  ·intro j;obtain⟨x,g,rfl⟩:=List.mem_map.1 j;obtain⟨B,v,rfl⟩:=List.mem_map.1 (f.subset g);simpa using v
  ·intro j;exact List.mem_map.2 ⟨(d:Int),f.symm.subset (List.mem_map.2 ⟨d,j,rfl⟩),by simp⟩
theorem yF {R:aq}{h:aa}{b:Nat}{S:Nat->Prop}{m:Bx}{j:A2Q}{N:A2P}(E:bY h)(D:Cu h b S m)(hd:m.down=false)(T:j.size<=1099511627776)(aK:bg m.files<=8000000000000)
  (U: ∀k s (l:List Nat),mE j m l->View IJ k s (l.map λe:Nat=>(e:Int))->Ext h k->(∀ c,s.ah=some c->h.size<=c)->N (J1 #[J4 s.p s.len s.cap,J6 J9 0]) k):AA R P Kq #[Ar b,J7 j] h N:=by
 refine ABJ ?_;unfold UX;refine vZ D λs n F y aL=>⟨s,_,rfl,?_⟩
 have V:kg m=(m.files.map (·.name),0):=by unfold kg;rw[if_neg (by simp[hd])]
 rw[V] at F ⊢;refine af.no rfl ?_;have W:=yE D.aS;have X: ∀d∈m.files.map (·.name),d.size<=32:=λd g=>by
  obtain⟨f,Y,rfl⟩:=List.mem_map.1 g;exact D.aS.names f Y
 have aM:(m.files.map (·.name)).length<=8000000000000:=by have:=VK m.files;simp;omega
 have Z: ∀d,(Cn d m.files).isSome=true↔d∈m.files.map (·.name):=λd=>yD
 dsimp only at F;generalize m.files.map (·.name)=names at*
 have v1:=F.view;refine Loop.rule (λO x G=> ∃(i:Nat) (sl:Sl) (ns:List Nat),x=(sl,(i:Int),())/\Ext n G/\Own IJ Bq G sl (ns.map λe:Nat=>(e:Int))/\(∀ c,sl.ah=some c->n.size<=c)/\i<=names.length/\ns.length<=i/\(ns.map (aC j)).Sublist (names.take i)/\(∀ e∈ns,1<=e/\e<=99999999)/\(∀ d:Nat,1<=d->d<=99999999->aC j d∈names.take i->d∈ns)/\O=names.length-i) ?_
  ⟨0,⟨none,0,0⟩,[],rfl,Mod.refl,Own.nil,λc o=>by simp[Sl.ah] at o,As _,A0 _,by simp,by simp,by simp,rfl⟩
 rintro K O _ G ⟨i,sl,ns,rfl,r,H,f,aN,aO,u,I,z,rfl⟩ ab;rw[v1.len];refine af.intro (λJ=>?_) (λJ=>?_)
 ·have v:i<names.length:=by simpa using J
  refine ai.mk λac ad=>?_
  have ag:names[i]? =some names[i]:=A2 v;rw[<- v1.len];refine(v1.ext r).idx ag λa _ c=>?_
  refine AJ.mk c.str ?_;refine AMu ((E.ext y).ext r) T (by have:=X names[i] (Bm v);omega) λae e w ah aj=>⟨_,rfl,?_⟩
  have A:names.take (i+1)=names.take i++ [names[i]]:=by rw[Ax,ag];rfl
  have fin: ∀(p:Sl) (q:List Nat) (k:aa),Ext n k->Own IJ Bq k p (q.map λe:Nat=>(e:Int))->(∀ c,p.ah=some c->n.size<=c)->q.length<=i+1->(q.map (aC j)).Sublist (names.take (i+1))->(∀ e∈q,1<=e/\e<=99999999)->(∀ d:Nat,1<=d->d<=99999999->aC j d∈names.take (i+1)->d∈q)->ac (p,()) k:=λp q k ak am an ao ap ar au=>by
   refine ad _ _ ?_;dsimp only;rw[Aa (by omega)];exact ab (names.length-(i+1)) _ _ (by omega) ⟨i+1,p,q,rfl,ak,am,an,v,ao,ap,ar,au,rfl⟩
  by_cases t:e=0
  ·refine af.no (by simp[t]) (fin sl ns ae (r.trans w) (H.ext w) f (by omega) ?_ I ?_)
   ·rw[A];exact u.trans (List.sublist_append_left _ _)
   ·intro d B C g;rw[A] at g;rcases List.mem_append.1 g with g|g
    ·exact z d B C g
    ·exact absurd (List.mem_singleton.1 g).symm (ah t d B C)
  ·refine af.yes (by simp;omega) ?_;obtain⟨aP,ne⟩:=aj t;refine al.aY (E:=IJ) (x:=(e:Int)) (s:=sl) (l:=ns.map λe:Nat=>(e:Int)) rfl rC (H.ext w) (by simp;omega) (by simp[maxLen];omega) λp av aw ax ay _=>?_
   refine fin p (ns++ [e]) av ((r.trans w).more ax f) (by rw[AW];exact aw) (λc o=>?_) (by simp;omega) ?_ ?_ ?_
   ·rcases ay c o with h|h
    ·exact f c h
    ·have:=r.size;have:=w.size;omega
   ·rw[A,AW];have az: [e].map (aC j)= [names[i]]:=by rw[ne];rfl
    rw[az];exact u.append (List.Sublist.refl _)
   ·intro d g;rcases List.mem_append.1 g with g|g
    ·exact I d g
    ·rw[List.mem_singleton.1 g];omega
   ·intro d B C g;rw[A] at g;rcases List.mem_append.1 g with g|g
    ·exact List.mem_append.2 (.inl (z d B C g))
    ·have:=Ig ((List.mem_singleton.1 g).trans ne);exact List.mem_append.2 (.inr (by simp[this]))
 ·have v:i=names.length:=by simp at J;omega
  subst v;rw[BE] at u z;have aA:ns.Nodup:=by have n:=u.nodup W;rw[SW,NX] at n;rw[SW];exact n.imp λh aD=>h (by rw[aD])
  obtain⟨l,aE,aF,aG⟩:=AJk aA;refine ARV H (by simp;omega) λaH Q aI=>⟨rfl,?_⟩
  rw[aE] at Q;refine U aH sl l ⟨aF,λe=>?_⟩ Q ((y.trans r).more aI λc o=>by have:=f c o;have:=y.size;omega) λc o=>by have:=f c o;have:=y.size;omega
  rw[aG,Z];constructor
  ·intro t;obtain⟨L,M⟩:=I e t;exact⟨L,M,u.subset (List.mem_map.2 ⟨e,t,rfl⟩)⟩
  ·rintro⟨L,M,aJ⟩;exact z e L M aJ
structure bR (h:aa) (t:Nat) (l:List Pr) (f:List UInt8) (lo hi:Nat):Prop where
 at_: ∃fs bs:Sl,h[t]? =some (J2 #[J4 fs.p fs.len fs.cap,J4 bs.p bs.len bs.cap,J7 (AX f),J6 J9 (l.length:Int)] Ma (0,0))/\View Fs h fs (CV l)/\View Fs h bs ((Ka l).map λb=>AX (BP b))/\
  (∀ c,fs.ah=some c->lo<=c/\c<hi)/\(∀ c,bs.ah=some c->lo<=c/\c<hi)
 fB:lo<=t/\t<hi
theorem bR.mod {i j:aa}{t:Nat}{l:List Pr}{f:List UInt8}{b d:Nat}{k:Nat->Prop}(T:bR i t l f b d)(m:Mod k i j)(e: ∀c,b<=c->c<d-> ¬k c):bR j t l f b d:=by obtain⟨n,o,p,q,r,g,h⟩:=T.at_;exact⟨⟨n,o,m.ah p (e t T.fB.1 T.fB.2),q.mod m (λc a=>e c (g c a).1 (g c a).2),r.mod m (λc a=>e c (h c a).1 (h c a).2),g,h⟩,T.fB⟩
theorem bR.ext {a b:aa}{t:Nat}{l:List Pr}{f:List UInt8}{c d:Nat}(T:bR a t l f c d)(m:Ext a b):bR b t l f c d:=T.mod m λ_ _ _ a=>a
theorem XP(a:List UInt8)(b:List (List UInt8)):aJ (a::b)=Ct a++aJ b:=rfl
theorem ANx {w:aq}{b:aa}{a:List (List UInt8)}{q:A2P}(l: ∀f∈a,f.length<=1048576)(y:(aJ a).length<=1099511627776)
  (r: ∀h sl,Ext b h->View Fs h sl (a.map AX)->(∀ c,sl.ah=some c->b.size<=c/\c<h.size)->q (J1 #[J4 sl.p sl.len sl.cap,J6 J9 ((aJ a).length:Int)]) h):AA w P LJ #[J7 (AX (aJ a))] b q:=by
 refine WH ?_;unfold Rf;refine Loop.rule (λm x n=> ∃(i:Nat) (sl:Sl),x=(sl,AX (aJ (a.drop i)),())/\m=a.length-i/\i<=a.length/\Ext b n/\Own Fs Az n sl ((a.take i).map AX)/\(∀ c,sl.ah=some c->b.size<=c)) ?_
  ⟨0,⟨none,0,0⟩,rfl,rfl,by omega,Mod.refl,Own.nil,λc d=>by simp[Sl.ah] at d⟩
 rintro K m _ n ⟨i,sl,rfl,rfl,z,o,g,p⟩ t;dsimp only;have N:a.length<=(aJ a).length:=by
  clear y r z g t
  induction a with
  |nil=>simp
  |cons f a A=>
   have O:=(JL (l f Cl)).1;have:=A λx j=>l x (AG _ j)
   simp only[aJ,AH,A1,A5] at this ⊢;omega
 have B:(aJ (a.drop i)).length<=1099511627776:=by
  have C:aJ a=aJ (a.take i)++aJ (a.drop i):=by unfold aJ;rw[<- Ge,CN]
  have:=congrArg List.length C;rw[A1] at this;omega
 refine yk (AE B (by decide)) λD e=>⟨_,_,_,rfl,?_⟩
 by_cases k:i<a.length
 ·have j:a[i]? =some a[i]:=A2 k;have u:=l _ (Bm k);have hd:a.drop i=a[i]::a.drop (i+1):=DH k;have v:=T9 j;generalize a[i]=f at j u hd v;rw[hd,XP,y5 u];refine af.yes rfl ?_;refine al.aY (E:=Fs) (x:=AX f) (s:=sl) rfl rH (g.ext e) (by grind) (by simp only[AN,AD,maxLen];omega) λF Q G H I R=>?_
  refine t (a.length-(i+1)) _ _ (by omega) ⟨i+1,F,rfl,rfl,k,(o.trans e).more H p,?_,λc d=>?_⟩
  ·rw[v,AW];exact G
  ·rcases I c d with b|b
   ·exact p c b
   ·have:=o.size;have:=e.size;omega
 ·have J:a.drop i= []:=HD (by omega);have L:a.take i=a:=AF (by omega);rw[J];rw[L] at g;have S:=UD;refine af.no (by grind) ?_;have M:J8 J9 (((AX (aJ a)).size:Int)-((AX (aJ [])).size:Int))=((aJ a).length:Int):=by
   rw[AP,AP];show J8 J9 (((aJ a).length:Int)-((0:Nat):Int))=_
   grind [wrap_i64]
  rw[M];exact r D sl (o.trans e) (g.ext e).view λc d=>⟨p c d,(g.ext e).lt d⟩
def Ye(l:List Pr)(a:Nat):A2Q:=match a with|0=>⟨#[]⟩|a+1=>Iq l a
theorem ARf {l:List Pr}(d: ∀p∈l,La p)(e:l.Pairwise λp f=>aM p.key f.key=true){a:Nat}{p:Pr}(b:l[a]? =some p):(aM p.key (Ye l a)||bO p.key (Ye l a))=false:=by
 have k:aM (Ye l a) p.key=true:=by
  cases a with
  |zero=>
   have:=(d p (AM b)).key;unfold Ye;rw[R9];have g:bl p.key≠ []:=by grind [A7]
   cases h:bl p.key with
   |nil=>exact absurd h g
   |cons c t=>
    simp only[decide_eq_true_eq];show([]:List UInt8)<bl p.key
    simp_all
  |succ a=>
   have i:a<l.length:=by grind
   have j:l[a]? =some l[a]:=A2 i;have:=yZ e j b;show aM (Iq l a) p.key=true
   simp_all [Iq]
 rw[Hk]
 grind [aM,Ye,Da,CZ,CU,decide_eq_false_iff_not]
theorem AQJ {a N:Nat}(b:a=N+1)(c:N<=1099511627776):J8 J9 (((a:Nat):Int)-(1:Int))=((N:Nat):Int):=by grind [wrap_i64]
theorem gX.jD {s:List UInt8}{l:List Pr}{f:List UInt8}(T:gX s l f):(aJ (aT l f)).length<=1099511627776:=by
 have:=Uz (Nq T);have b:=T.many;have a:(aT l f).length=Bu l+1:=by simp[aT,I5]
 have c:Bu l<=12501:=by unfold Bu;omega
 rw[a] at this;have d:(Bu l+1)*1048590<=12502*1048590:=AS _ (by omega);omega
theorem z6 {bh:aq}{e:aa}{l:List Pr}{f:List UInt8}{aH:A2P}(T:gX (aJ (aT l f)) l f)
  (bi: ∀O t,Ext e O->bR O t l f e.size O.size->aH (J1 #[Ar t,J6 J9 0]) O):AA bh P N7 #[J7 (AX (aJ (aT l f)))] e aH:=by
 refine AEq ?_;unfold Yd;have ce:=wH T.ne;have cf:=T.many;have cg:Bu l<=12501:=by unfold Bu;omega
 have ch:=T.jB;refine ANx (Nq T) (gX.jD T) λh sl C v1 aI=>⟨sl,_,rfl,?_⟩
 have aK:sl.len=Bu l+1:=by rw[v1.len];simp[aT,I5]
 have ci:=v1.cap;rw[AQJ aK (by omega)];refine ai.mk λK aL=>?_
 refine af.no (by rw[AP];simp) ?_;refine aL _ _ (af.no (by rw[aK];simp;omega) ?_);clear aL;simp only[A6,HA];refine⟨⟨by omega,by omega⟩,?_⟩;have bj:((aT l f).map AX)[Bu l]? =some (AX (Vk l f)):=by simp_all [By,aT,Fc,I5]
 refine v1.idx bj λa aM d=>?_
 refine AJ.mk d.str ?_;have aN:=X9 T;refine Jp λaO aP Q=>⟨_,rfl,?_⟩
 have R: ∀ {e:aa} {s:Sl} {ks:List A2Q},Own Fs Az e s ks-> ∀ {c:Nat} {aQ:Rd},Ia e c aQ->s.ah≠some c:=λbk c aQ bm=>bk.ne bm (by decide)
 refine al.mk λS _ bn D cj=>?_
 have aR:Ia S h.size _:=Am D aP;have ck:=AV (n:=Bu l) (by omega);have bo:Vk l f=Bd (Bu l)++(Gt (CV l)++(Bd l.length++BU f)):=by unfold Vk Gt;simp_all
 rw[bo] at aR aN;have cl:=AV (n:=l.length) (by omega);have cm:(BU f).length=(Bd f.length).length+f.length:=by simp[BU]
 have cn:=AV (n:=f.length) (by omega);have bp:=Qp (ks:=CV l) (PE T.ok);rw[Hm] at bp;refine DN (most:=Bu l) aR (AE aN (by decide)) (by omega) λbq ac ad=>⟨_,rfl,?_⟩
 rw[CP (by omega) (A0 _)] at ac ⊢;dsimp only at ac ⊢;refine af.no (by simp) ?_;have co:h.size<aO.size:=Ah aP;have br:=ad.ah bn (by omega);have U:Ext e S:=(C.trans Q).trans D;have cp:Ext e bq:=U.more ad (λb bs=>by rw[bs];exact C.size);have aS: ∀ {g:aa},(∀ c,sl.ah=some c->g[c]? =h[c]?)->View Fs g ⟨BC sl.p sl.cap 0 1,Bu l,sl.cap⟩ ((Ka l).map λb=>AX (BP b)):=by
  intro g d;have v:View Fs g sl ((aT l f).map AX):=⟨v1.len,v1.cap,λi x hi=>by
   obtain⟨a,aM,bt⟩:=v1.cells i x hi;refine⟨a,aM,λj v aV=>?_⟩;rw[<- bt j v aV]
   grind [Qb,aU,Sl.ah]⟩
  have:=v.sub (lo:=0) (hi:=Bu l) (As _) (by simp[aT,I5]);have aW:(((aT l f).map AX).take (Bu l)).drop 0=(Ka l).map λb=>AX (BP b):=by simp_all [JT,aT,Of,I5,AF,Bk]
  rw[aW] at this;exact this
 generalize cq:aO.size=q at*
 refine Loop.rule (λm x g=> ∃(i:Nat) (o:Sl),x=((i:Int),())/\m=Bu l-i/\i<=Bu l/\Ia g h.size ⟨Gt ((CV l).drop i)++(Bd l.length++BU f),false⟩/\
  g[q]? =some (J2 #[J4 o.p o.len o.cap,J4 (BC sl.p sl.cap 0 1) (Bu l) sl.cap,J7 ⟨#[]⟩,J6 J9 0] Ma (0,0))/\Own Fs Az g o ((CV l).take i)/\(∀ c,o.ah=some c->q<c)/\
  Mod (λc=>c=h.size\/q<=c) S g) ?_ ⟨0,⟨none,0,0⟩,rfl,rfl,by omega,ac,br,Own.nil,λc d=>by simp[Sl.ah] at d,ad.aj λc _ d=> .inl d⟩
 rintro cr m _ aX ⟨i,o,rfl,rfl,hi,w,ah,F,G,aY⟩ aZ;dsimp only;refine af.intro (λr=>?_) (λr=>?_)
 ·have V:i<Bu l:=by simp at r;omega
  refine AZ.mk (s:=o) (AO ah rfl) ?_;have z:=RP V;have hd:(CV l).drop i=Iq l (8*i)::(CV l).drop (i+1):=by grind [CV,Hm,List.drop_eq_getElem_cons,List.getElem?_eq_getElem,Option.some.inj]
  have a0:=T9 z;have a1:=PE T.ok _ (AM z);generalize Iq l (8*i)=k at z hd a0 a1;have bu:Gt ((CV l).drop i)++(Bd l.length++BU f)=BU (bl k)++(Gt ((CV l).drop (i+1))++(Bd l.length++BU f)):=by rw[hd];simp[Gt]
  have bv:=Qp (ks:=(CV l).drop i) λk bw=>PE T.ok k (I0 bw)
  rw[DE,Hm] at bv;have a2:(Gt ((CV l).drop i)++(Bd l.length++BU f)).length<1099511627776:=by simp only[A1];omega
  rw[bu] at w a2;refine G7 w a2 λH W aj=>⟨_,rfl,?_⟩
  rw[IR (by rw[A7];omega)] at W ⊢;dsimp only at W ⊢;rw[EE];have X:=aj.ah ah (by omega);have ak:=F.mod aj (λc d e=>R F w (e▸d));refine⟨AO X rfl,?_⟩;refine al.mk λbx _ bz I cs=>⟨AO (Am I X) rfl,?_⟩
  have bA:Own Fs Az bx ⟨some ⟨H.size,0,none⟩,1,1⟩ [k]:=Own.lit (E:=Fs) (l:= [k]) bz rfl (by simp[maxLen]);refine Fz (s:=o) (src:=⟨some ⟨H.size,0,none⟩,1,1⟩) rH (ak.ext I) bA.view (by simp only[AD,Cd];omega) (by simp only[AD,Cd,maxLen];omega) λa3 ct bB am cu cv=>?_
  have cw:q<H.size:=Ah X;have cx: ∀c,o.ah=some c->c<H.size:=λc d=>ak.lt d
  have bC:=am.ah (Am I X) (λe=>by have:=G _ e;omega);refine ae.mk bC (by simp) λcy bD an cz=>?_
  have a4: ∀c,a3.ah=some c->q<c:=λc d=>by
   grind
  rw[Aa (by omega)];refine aZ (Bu l-(i+1)) _ _ (by omega) ⟨i+1,a3,rfl,rfl,V,?_,by simpa using bD,?_,a4,?_⟩
  ·refine an.ah (am.ah (Am I W) λe=>?_) (by omega);exact R ak W e
  ·rw[a0];exact bB.mod an (λc d e=>by have:=a4 c d;omega)
  ·have Y:Mod (λc=>c=h.size\/q<=c) aX H:=aj.aj λc _ d=> .inl d
   exact(((aY.trans Y).trans I.mod).trans (am.aj λc _ d=> .inr (by have:=G c d;omega))).trans (an.aj λc _ d=> .inr (by omega))
 ·have V:i=Bu l:=by simp at r;omega
  subst V;clear aZ;have bE:(CV l).drop (Bu l)= []:=HD (by rw[Hm];omega);have bF:(CV l).take (Bu l)=CV l:=AF (by rw[Hm];omega);rw[bE] at w;rw[bF] at F;have bG:J8 J9 (((Bu l:Nat):Int)*(8:Int))=((Bu l*8:Nat):Int):=by grind [wrap_i64]
  rw[bG];have w:Ia aX h.size ⟨Bd l.length++BU f,false⟩:=w;have bH:l.length<=Bu l*8:=by unfold Bu;omega
  refine DN (most:=Bu l*8) w (by grind) (by omega) λcB ao ap=>⟨_,rfl,?_⟩
  rw[CP (by omega) bH] at ao ⊢;dsimp only at ao ⊢;have bJ:=ap.ah ah (by omega);rw[Bh,Bh];refine ae.mk bJ (by simp) λbK bL ar cC=>?_
  have a5:Ia bK h.size ⟨BU f++ [],false⟩:=by rw[AK];exact ar.ah ao (by omega)
  refine G7 a5 (by grind) λcD au av=>⟨_,rfl,?_⟩
  rw[IR (by omega)] at au ⊢;dsimp only at au ⊢;have bM:=av.ah bL (by omega);refine ae.mk bM (by simp) λB J aw cE=>?_
  have bN:=aw.ah au (show h.size≠q by omega);have J:B[q]? =some (J2 #[J4 o.p o.len o.cap,J4 (BC sl.p sl.cap 0 1) (Bu l) sl.cap,J7 (AX f),J6 J9 (l.length:Int)] Ma (0,0)):=by simpa using J
  have ax:Own Fs Az B o (CV l):=by have Y:=F.mod ap (λc d e=>R F w (e▸d));have ay:=Y.mod ar (λc d e=>by have:=G c d;omega);have L:=ay.mod av (λc d e=>R ay a5 (e▸d));exact L.mod aw (λc d e=>by have:=G c d;omega)
  have M:Mod (λc=>c=h.size\/q<=c) S B:=
   (((aY.trans (ap.aj λc _ d=> .inl d)).trans (ar.aj λc _ d=> .inr (by omega))).trans (av.aj λc _ d=> .inl d)).trans (aw.aj λc _ d=> .inr (by omega))
  have cF:h.size<=q:=by omega
  have bP:Ext e B:=by refine⟨by have:=U.size;have:=M.size;omega,λc d _=>?_⟩;have:=C.size;have:=U.size;exact(M.get c (by omega) (by omega)).trans (U.get c d (λe=>e))
  have a6: ∀ {g:aa},Ext B g-> ∀c,sl.ah=some c->g[c]? =h[c]? :=by intro g x c d;have:=aI c d;have cG:=M.size;have:=D.size;have:=Q.size;exact((x.get c (by omega) (λe=>e)).trans (M.get c (by omega) (by omega))).trans ((D.get c (by omega) (λe=>e)).trans (Q.get c (by omega) (λe=>e)))
  have bQ: ∀c,Sl.ah ⟨BC sl.p sl.cap 0 1,Bu l,sl.cap⟩=some c->e.size<=c/\c<h.size:=λc d=>aI c (Zx d)
  refine ai.mk λcH a7=>?_
  refine MQ bN ⟨_,rfl,af.no rfl ?_⟩;have bS:f≠ []:=λaW=>by simp_all
  refine AJ.mk (AO J rfl) (af.no ?_ ?_)
  ·rw[XY,EO,decide_eq_false_iff_not];exact bS
  refine AJ.mk (AO J rfl) ?_;refine a7 _ _ (af.no (by rw[AP];simp;omega) ?_);clear a7;refine Loop.rule (λm x g=> ∃i:Nat,x=(Ye l (min (8*i) l.length),((min (8*i) l.length:Nat):Int),(i:Int),())/\m=Bu l-i/\i<=Bu l/\Ext B g) ?_ ⟨0,by simp[Ye],rfl,by omega,Mod.refl⟩;rintro cI m _ bT ⟨i,rfl,rfl,hi,u⟩ bU;dsimp only;have Z:=Am u J;refine af.intro (λr=>?_) (λr=>?_)
  ·have y:i<Bu l:=by simp at r;omega
   have cJ:=Qi y;have cK:8*i<l.length:=by unfold Bu at y;omega
   have bV:min (8*i) l.length=8*i:=by omega
   rw[bV];have bW:((Ka l).map λb=>AX (BP b))[i]? =some (AX (BP (CJ l i))):=by simp[Ka,y]
   refine(aS (a6 u)).idx bW λY cL bX=>?_
   rw[A6];refine AJ.mk bX.str ?_;have bY: ∀p∈CJ l i,La p:=λp bZ=>T.ok p (Pp bZ)
   have cM:=Qo T.ok y;refine rG bY (by omega) λps A az aA cN=>⟨_,_,rfl,?_⟩
   have a8:=Am aA Z;have b0:ps.len=(CJ l i).length:=az.len;refine ai.mk λa9 b1=>?_
   have aC:(CJ l i)[0]? =some (CJ l i)[0]:=A2 (by omega);have ba:Iq l (8*i)=(CJ l i)[0].key:=by have:=QJ (l:=l) (i:=i) (j:=0) (by omega);rw[aC] at this;unfold Iq;rw[G3] at this;rw[<- this]
   generalize (CJ l i)[0]=bb at aC ba;have go:a9 (false,()) A:=by
    refine b1 _ _ (af.no rfl ?_);refine Loop.rule (λm x g=> ∃j:Nat,x=(Ye l (8*i+j),((8*i+j:Nat):Int),(j:Int),())/\m=(CJ l i).length-j/\j<=(CJ l i).length/\Ext A g) ?_ ⟨0,by simp,rfl,by omega,Mod.refl⟩;rintro cO m _ cP ⟨j,rfl,rfl,aV,ab⟩ b2;dsimp only;refine af.intro (λr=>?_) (λr=>?_)
    ·have N:j<(CJ l i).length:=by grind
     have z:(CJ l i)[j]? =some (CJ l i)[j]:=A2 N;have aD:(CJ l i)[j]∈l:=Pp (Bm N);have aE:l[8*i+j]? =some (CJ l i)[j]:=by rw[<- QJ (by omega)];exact z
     generalize (CJ l i)[j]=p at z aD aE;have b3:=T.ok p aD;refine(az.ext ab).view.idx z λay cQ b4=>?_
     obtain⟨b5,b6,c2⟩:=b4.pair;rw[A6];refine AJ.mk b5 (AJ.mk b6 (Ac.mk c2 ?_));refine al.pair λcR cS cT aF bc cU=>?_
     refine ai.mk λcV b7=>?_
     refine AJ.mk (AO aF rfl) ?_;rw[ARf T.ok T.inc aE];refine af.no rfl ?_;have b8:=Am bc (Am ab a8);refine AJ.mk (AO b8 rfl) ?_;refine AJ.mk (AO aF rfl) ?_;have a1:=b3.bK;refine yN (by omega) ⟨_,rfl,?_⟩;rw[EO,T.has p aD];refine b7 _ _ (af.no rfl ?_);refine AJ.mk (AO aF rfl) ?_;rw[Aa (by omega),Aa (by omega)];refine b2 ((CJ l i).length-(j+1)) _ _ (by omega) ⟨j+1,?_,rfl,N,ab.trans bc⟩;have b9:Ye l (8*i+(j+1))=p.key:=by show Iq l (8*i+j)=p.key;unfold Iq;rw[aE]
     rw[b9];rfl
    ·have N:j=(CJ l i).length:=by grind
     rw[Aa (by omega)];have aG:min (8*(i+1)) l.length=8*i+j:=by rw[N];unfold CJ;rw[AD,DE];omega
     refine bU (Bu l-(i+1)) _ _ (by omega) ⟨i+1,?_,rfl,y,(u.trans aA).trans ab⟩;rw[aG]
   have bd:bI ps.p ps.len 0 λL=>AJ A (L.add ((0:Int).toNat*3)) λca=>AZ A (⟨q,0,none⟩:Q6) λbe=>bI be.p be.len ((i:Nat):Int) λbf=>AJ A (bf.add (((i:Nat):Int).toNat*1)) λcb=>a9 ((!bO ca cb),()) A:=by
    obtain⟨L,cc,bg⟩:=az.view.cells 0 bb aC;rw[HU,add_zero] at bg;refine bI.mk (k:=0) cc (by omega) ?_;refine AJ.mk (n:=bb.key) (by show ag A (L.add 0)=_;rw[add_zero];exact bg.pair.1) ?_;refine AZ.mk (s:=o) (AO a8 rfl) ?_;refine((ax.ext u).ext aA).view.idx (RP y) λbf cW cd=>?_
    rw[A6];refine AJ.mk cd.str ?_;rw[ba,CU,decide_eq_true rfl];exact go
   refine af.no rfl (af.no (by grind) (af.no (by rw[b0];simp;omega) ?_));rw[Aa (by omega)];refine af.intro (λr=>?_) (λ_=>bd);have:i+1<Bu l:=by simp at r;omega
   exact af.no (by grind) bd
  ·have y:i=Bu l:=by simp at r;omega
   have aG:min (8*i) l.length=l.length:=by rw[y];omega
   rw[aG];refine AC.mk (AO Z rfl) (af.no (by simp) ?_);refine bi bT q (bP.trans u) ⟨⟨o,⟨BC sl.p sl.cap 0 1,Bu l,sl.cap⟩,Z,(ax.ext u).view,aS (a6 u),λc d=>?_,λc d=>?_⟩,?_⟩
   ·have h:=(ax.ext u).lt d;have:=G c d;have:=C.size;omega
   ·have h:=bQ c d;have:=M.size;have:=u.size;have:=D.size;have:=Q.size;omega
   ·have:=Ah Z;have:=C.size;omega
def WZ(g:aq)(h:Int)(f:J0)(i:aa)(j:A2P):=Loop (λK (s:Int×Int×Unit) a=>af (decide (s.1<s.2.1)) (ai (λ(b:Int×Int×Unit) k=>K (b.1,b.2.1,()) k) λc=>Ec g P f #[J6 J9 (J8 J9 ((J8 .u64 (J8 J9 (s.1+s.2.1))).fdiv ((2:Int)^(1:Nat))))] a λv d=> ∃e:Bool,v=J3 e/\(af (!e) (c ((J8 J9 ((J8 J9 ((J8 .u64 (J8 J9 (s.1+s.2.1))).fdiv ((2:Int)^(1:Nat))))+1)),s.2.1,()) d) (c (s.1,(J8 J9 ((J8 .u64 (J8 J9 (s.1+s.2.1))).fdiv ((2:Int)^(1:Nat)))),()) d))) (j (J6 J9 s.1) a)) (0,h,()) i
theorem ACQ {a b f c d}(e:WZ a b f c d):AA a P Ps #[J6 J9 b,f] c d:=Ad (Ca 2 (AL (.block (.loop [(5,.one (.int J9)),(6,.one (.int J9))] [1] (AL Fh (.bH [(5,.one (.int J9)),(6,.one (.int J9))] [1] jW)))) Bn)) (by kernel_rfl) e
def Gs(b:aq)(s:Sl)(v:Int)(c:aa)(d:A2P):=AA b P Io #[J4 s.p s.len s.cap,J6 J9 v] c λv1 e=> ∃a:Int,v1=J6 J9 a/\(d (J3 (decide (a>=0))) e)
theorem Le {a s v b c}(d:Gs a s v b c):AA a P Eg #[J4 s.p s.len s.cap,J6 J9 v] b c:=Ad Ex (by kernel_rfl) d
def Ij(g:aq)(s:Sl)(v:Int)(e:aa)(d:A2P):=Loop (λK (b:Int×Unit) c=>af (decide (b.1<(s.len:Int))) (bI s.p s.len b.1 λa=>AC J9 c (a.add (b.1.toNat*1)) λf=>af (v==f) (d (J6 J9 b.1) c) (K ((J8 J9 (b.1+1)),()) c)) (d (J6 J9 (-1)) c)) (0,()) e
theorem NL {a s v b c}(d:Ij a s v b c):AA a P Io #[J4 s.p s.len s.cap,J6 J9 v] b c:=Ad ql (by kernel_rfl) d
def IE(b:aq)(s:Sl)(i:Int)(v:Sl)(e:aa)(d:A2P):=aG ((0:Int)<=i/\i<=(s.len:Int))<| af ((v.len:Int)==0) (d (J4 s.p s.len s.cap) e) (af (i==(s.len:Int)) (BI b P (Builtin.append_ #[DJ,DJ] DJ #[J4 s.p s.len s.cap,J4 v.p v.len v.cap]) e λv1 h=> ∃c:Sl,v1=J4 c.p c.len c.cap/\(d (J4 c.p c.len c.cap) h)) (af (decide ((J8 J9 ((s.len:Int)+(v.len:Int)))>(s.cap:Int))) (aG ((0:Int)<=i/\i<=(s.cap:Int))<| BI b P (Builtin.append_ #[DJ,Bq] DJ #[J4 (BC s.p s.cap 0 1) (i.toNat-0) (s.cap-0),J6 J9 (J8 J9 ((J8 J9 ((s.len:Int)+(v.len:Int)))-i))]) e λv2 j=> ∃a:Sl,v2=J4 a.p a.len a.cap/\(aG ((0:Int)<=i/\i<=(a.len:Int))<| BI b P (Builtin.copy_ #[DJ,DJ] Bq #[J4 (BC a.p a.cap i.toNat 1) (a.len-i.toNat) (a.cap-i.toNat),J4 v.p v.len v.cap]) j λk l=> ∃m:Int,k=J6 J9 m/\(aG ((0:Int)<=(J8 J9 (i+(v.len:Int)))/\(J8 J9 (i+(v.len:Int)))<=(a.len:Int))<| aG ((0:Int)<=i/\i<=(s.len:Int))<| BI b P (Builtin.copy_ #[DJ,DJ] Bq #[J4 (BC a.p a.cap ((J8 J9 (i+(v.len:Int))).toNat) 1) (a.len-((J8 J9 (i+(v.len:Int))).toNat)) (a.cap-((J8 J9 (i+(v.len:Int))).toNat)),J4 (BC s.p s.cap i.toNat 1) (s.len-i.toNat) (s.cap-i.toNat)]) l λn o=> ∃p:Int,n=J6 J9 p/\(d (J4 a.p a.len a.cap) o)))) (aG ((0:Int)<=(J8 J9 ((s.len:Int)+(v.len:Int)))/\(J8 J9 ((s.len:Int)+(v.len:Int)))<=(s.cap:Int))<| aG ((0:Int)<=(J8 J9 (i+(v.len:Int)))/\(J8 J9 (i+(v.len:Int)))<=(((((J8 J9 ((s.len:Int)+(v.len:Int))).toNat)-0):Nat):Int))<| nD b P Gh #[J4 v.p v.len v.cap,J4 (BC (BC s.p s.cap 0 1) (s.cap-0) ((J8 J9 (i+(v.len:Int))).toNat) 1) ((((J8 J9 ((s.len:Int)+(v.len:Int))).toNat)-0)-((J8 J9 (i+(v.len:Int))).toNat)) ((s.cap-0)-((J8 J9 (i+(v.len:Int))).toNat))] e λq f=> ∃g:Bool,q=J3 g/\(af (!g) (aG ((0:Int)<=(J8 J9 (i+(v.len:Int)))/\(J8 J9 (i+(v.len:Int)))<=(((((J8 J9 ((s.len:Int)+(v.len:Int))).toNat)-0):Nat):Int))<| aG ((0:Int)<=i/\i<=(((((J8 J9 ((s.len:Int)+(v.len:Int))).toNat)-0):Nat):Int))<| BI b P (Builtin.copy_ #[DJ,DJ] Bq #[J4 (BC (BC s.p s.cap 0 1) (s.cap-0) ((J8 J9 (i+(v.len:Int))).toNat) 1) ((((J8 J9 ((s.len:Int)+(v.len:Int))).toNat)-0)-((J8 J9 (i+(v.len:Int))).toNat)) ((s.cap-0)-((J8 J9 (i+(v.len:Int))).toNat)),J4 (BC (BC s.p s.cap 0 1) (s.cap-0) i.toNat 1) ((((J8 J9 ((s.len:Int)+(v.len:Int))).toNat)-0)-i.toNat) ((s.cap-0)-i.toNat)]) f λr t=> ∃u:Int,r=J6 J9 u/\(aG ((0:Int)<=i/\i<=(((((J8 J9 ((s.len:Int)+(v.len:Int))).toNat)-0):Nat):Int))<| BI b P (Builtin.copy_ #[DJ,DJ] Bq #[J4 (BC (BC s.p s.cap 0 1) (s.cap-0) i.toNat 1) ((((J8 J9 ((s.len:Int)+(v.len:Int))).toNat)-0)-i.toNat) ((s.cap-0)-i.toNat),J4 v.p v.len v.cap]) t λw x=> ∃y:Int,w=J6 J9 y/\(d (J4 (BC s.p s.cap 0 1) (((J8 J9 ((s.len:Int)+(v.len:Int))).toNat)-0) (s.cap-0)) x))) (aG ((0:Int)<=(s.len:Int)/\(s.len:Int)<=(((((J8 J9 ((s.len:Int)+(v.len:Int))).toNat)-0):Nat):Int))<| BI b P (Builtin.copy_ #[DJ,DJ] Bq #[J4 (BC (BC s.p s.cap 0 1) (s.cap-0) ((s.len:Int).toNat) 1) ((((J8 J9 ((s.len:Int)+(v.len:Int))).toNat)-0)-((s.len:Int).toNat)) ((s.cap-0)-((s.len:Int).toNat)),J4 v.p v.len v.cap]) f λz A=> ∃B:Int,z=J6 J9 B/\(aG ((0:Int)<=i/\i<=(((((J8 J9 ((s.len:Int)+(v.len:Int))).toNat)-0):Nat):Int))<| AA b P Ik #[J4 (BC (BC s.p s.cap 0 1) (s.cap-0) i.toNat 1) ((((J8 J9 ((s.len:Int)+(v.len:Int))).toNat)-0)-i.toNat) ((s.cap-0)-i.toNat),J6 J9 (v.len:Int)] A λC D=>C=J1 #[]/\(d (J4 (BC s.p s.cap 0 1) (((J8 J9 ((s.len:Int)+(v.len:Int))).toNat)-0) (s.cap-0)) D)))))))
theorem NG {a s i v b c}(d:IE a s i v b c):AA a P DK #[J4 s.p s.len s.cap,J6 J9 i,J4 v.p v.len v.cap] b c:=Ad uC (by kernel_rfl) d
end Go.Lf.G
namespace Go.Lf.G.M
open Go Go.Lf Go.Lf.G
theorem toList_inj {a b:A2Q}:(a.toList==b.toList)=decide (a=b):=by rw[ByteArray.toList_eq,ByteArray.toList_eq];rw[DQ];simp[MT,<-Array.toList_inj]
def Ai(x:Pr):Int:=
 if(decide (x.key=⟨#[]⟩)||(x.gone&& !decide (x.val=⟨#[]⟩))) then 1 else if(decide (x.key.size>64)||decide (x.val.size>8192)) then 2 else 0
theorem CU {a b:A2Q}:bO a b=decide (a=b):=toList_inj
def gB(key:A2Q)(l:List Pr):List Pr:=l.takeWhile λa=>aM a.key key
def aP(key:A2Q)(l:List Pr):Nat:=(gB key l).length
def BF(key:A2Q)(l:List Pr):Bool:=match l[aP key l]? with|some a=>decide (a.key=key)|none=>false
theorem mV(key:A2Q)(l:List Pr):aP key l<=l.length:=(Zs _).length_le
theorem Ut {e:Type}{p:e->Bool}: ∀ {l:List e} {i:Nat},i<=(l.takeWhile p).length->(∀ x,l[i]? =some x->p x=true->i<(l.takeWhile p).length)/\(∀ x,l[i]? =some x->p x=false->i=(l.takeWhile p).length)/\(l[i]? =none->i=(l.takeWhile p).length)
 | [],i,a=>by simp at a;subst a;simp
 |y::l,0,a=>by
  refine⟨λx b c=>?_,λx b c=>?_,λa=>by simp at a⟩
  ·simp at b;subst b;simp[c]
  ·simp at b;subst b;simp[c]
 |y::l,i+1,a=>by
  rw[IS] at a ⊢;split at a
  ·rename_i f;have d:=Ut (p:=p) (l:=l) (i:=i) (by simpa using a);simp only[f,if_true,A5];refine⟨λx b c=>?_,λx b c=>?_,λg=>?_⟩
   ·have:=d.1 x (by simpa using b) c;omega
   ·have:=d.2.1 x (by simpa using b) c;omega
   ·have:=d.2.2 (by simpa using g);omega
  ·simp at a
theorem G5:QE P AQ AR BR.w 40=true:=by kernel_rfl
theorem AOD:QE P JH AQ ie.w 24=true:=by kernel_rfl
theorem ARt:QE P BG Bl jZ.w 8=true:=by kernel_rfl
def X8(x:Pr)(l:List Pr):List Pr:=l.take (aP x.key l)++ [x]++l.drop (if BF x.key l then aP x.key l+1 else aP x.key l)
def CY(x:Pr)(l:List Pr):List Pr:=if Ai x≠0 then l else X8 x l
theorem APC(x:Pr)(l:List Pr):(X8 x l).length<=l.length+1:=by unfold X8;have:=mV x.key l;simp;split<;>omega
theorem AN4(x:Pr)(l:List Pr):(CY x l).length<=l.length+1:=by
 unfold CY;split
 ·omega
 ·exact APC x l
theorem qC {a:J0}{c:J0}:(#[]++ #[a]++ #[c]:Array J0)= #[a,c]:=rfl
theorem AGf {G:aq}{e H:aa}{fv:J0}{S:Nat->Prop}{l:List Pr}{I:A2P}(J:ER G P fv S H l)(K: ∀b,S b->e[b]? =H[b]?)(ax:l.length<=1099511627776)
  (ac: ∀s h,Own BR AR h s l->(∀ c,s.ah=some c->e.size<=c)->Ext e h->I (J4 s.p s.len s.cap) h):AA G P DD #[J4 none 0 0,fv] e I:=by
 refine IA (s:=⟨none,0,0⟩) ?_;unfold Ea;refine al.mk λo _ a L ay=>?_
 have M: ∀b,S b->b<e.size:=λb a=>by
  have:=K b a;rw[Ft (J.1 b a)] at this;exact Ah this
 have ad: ∀h:aa,Mod (λc=>c=e.size) o h->Ext e h:=λh m=>L.then (m.aj λc _ j=> .inr (by omega))
 refine XQ J (λb a=>(L.get b (M b a) (by simp)).trans (K b a))
  (λi c y p=>c=none/\ ∃s:Sl,p[e.size]? =some (J2 #[J4 s.p s.len s.cap] AQ (0,0))/\Own BR AR p s (l.take i)/\(∀ b,y b↔(b=e.size\/s.ah=some b))/\(∀ b,s.ah=some b->b<p.size/\e.size<b))
  (λb=>b=e.size) (λb a d=>by have:=M b a;omega) ?_ ?_ ?_ ?_ ?_ ?_
 ·rintro i c y p ⟨_,s,q,r,f,k⟩ b a;rcases(f b).1 a with rfl|n
  ·exact Ah q
  ·exact(k b n).1
 ·rintro i c y p h ⟨d,s,q,r,f,k⟩ m;refine⟨d,s,m.ah q (λz=>z.1 ((f _).2 (.inl rfl))),r.mod m (λc j z=>z.1 ((f _).2 (.inr j))),f,λb a=>⟨?_,(k b a).2⟩⟩;have:=m.size;have:=(k b a).1;omega
 ·exact⟨rfl,⟨none,0,0⟩,a,Own.nil,λb=>by simp[Sl.ah],λb a=>by simp[Sl.ah] at a⟩
 ·rintro i x N p rec az aA O ⟨_,s,q,r,f,k⟩ Q aC af ag ah aD;have aE:=(List.getElem?_eq_some_iff.1 O).1;refine al.pair λaF R aG ai u aH=>?_
  refine⟨rec,u.ah af (by simp),ag,?_⟩;generalize T:R.setIfInBounds (o.size+1) (.loop {rec with state:= .busy})=A;have t:Mod (λb=>b=o.size+1) R A:=T▸Mod.setObj rfl;have aj:A[o.size+1]? =some (.loop {rec with state:= .busy}):=by rw[<- T];exact Cb (by omega)
  have aI:=Ah q;have B:=t.ah ai (by omega);have U:=t.ah (u.ah q (by simp)) (by omega);have ak:=(r.ext u).mod t (λc j d=>Q ((f _).2 (.inr (d▸j))));refine AZ.mk (AO U rfl) (AJ.mk (AO B rfl) (AJ.mk (AB B rfl) (Ac.mk (AB B rfl) ?_)));have V:(l.take i).length=i:=by simp;omega
  refine al.aY (E:=BR) (x:=x) rfl G5 ak (by rw[V];omega) (by rw[V];simp[maxLen];omega) λW X Y v C _=>?_
  have aJ:=t.size;have am:s.ah≠some e.size:=λd=>by have:=k _ d;omega
  refine ae.mk (v.ah U am) (by simp) λan ao D aK=>ah an ?_
  refine⟨λb=>b=e.size\/W.ah=some b,?_,?_,?_,rfl,W,by simpa using ao,?_,λ_=>CM,?_⟩
  ·rintro b (rfl|a)
   ·exact .inl ((f _).2 (.inl rfl))
   ·rcases C b a with n|n
    ·exact .inl ((f _).2 (.inr n))
    ·exact .inr (by omega)
  ·have ap:Mod (λb=>N b\/b=o.size+1) p A:=u.mod.trans (t.aj λb _ a=> .inr a);have ar:Mod (λb=>N b\/b=o.size+1) p X:=ap.trans (v.aj λb _ a=> .inl ((f _).2 (.inr a)));exact ar.trans (D.aj λb _ a=> .inl ((f _).2 (.inl a)))
  ·refine D.ah (v.ah aj (λd=>Q ((f _).2 (.inr d)))) (by omega)
  ·have au:=Y.mod D (λc j d=>by
    rcases C c j with n|n
    ·have:=k _ n;omega
    ·omega)
   rw[Ax,O];exact au
  ·intro b a;have:=v.size;have aL:b<X.size:=by
    rcases Y.row with⟨rfl,_⟩|⟨g,av,F,w,_⟩
    ·simp[Sl.ah] at a
    ·simp[Sl.ah,F] at a;subst a;exact Ah w
   refine⟨by omega,?_⟩;rcases C b a with n|n
   ·exact(k _ n).2
   ·omega
 ·rintro O' h ⟨_,s,q,r,f,k⟩ Z _ aM ab;have aN:=Z.size;refine AZ.mk (AO q rfl) ⟨ab,?_⟩;rw[BE] at r;have aw:s.ah≠some o.size:=λd=>by
   rcases r.row with⟨rfl,_⟩|⟨g,av,F,w,_⟩
   ·simp[Sl.ah] at d
   ·simp[Sl.ah,F] at d;rw[d,ab] at w;cases w
  refine ac s _ (r.mod (Mod.setObj (S:=λc=>c=o.size) rfl) λc j d=>aw (d▸j)) (λc j=>by have:=k _ j;omega) ?_;exact(ad h Z).then (Mod.setObj (.inr (by omega)))
 ·rintro i aO O' h ⟨d,_⟩;cases d
theorem We {e:aq}{d f:aa}{fv:J0}{g:Nat->Prop}{l:List Pr}{h:A2P}(i:ER e P fv g f l)(j: ∀b,g b->d[b]? =f[b]?)(k:l.length<=1099511627776)
  (m: ∀s a,Own BR AR a s l->(∀ c,s.ah=some c->d.size<=c)->Ext d a->h (J4 s.p s.len s.cap) a):AA e P DC #[fv] d h:=by
 refine Mj ?_;unfold IM;exact AGf i j k λs a n o p=>⟨s,rfl,m s a n o p⟩
def BH(l:List Pr):List Pr:=l.filter λx=> !x.gone
theorem vK {b:Type}{p:b->Bool}: ∀ {l:List b} {i:Nat} {x:b},l[i]? =some x->p x=true->(l.filter p)[((l.take i).filter p).length]? =some x
 | [],i,x,a,_=>by simp at a
 |y::l,0,x,a,c=>by simp at a;subst a;simp[c]
 |y::l,i+1,x,a,c=>by
  have d:=vK (p:=p) (l:=l) (i:=i) (by simpa using a) c;rw[I2,AT,AT];split
  ·simpa using d
  ·exact d
theorem AEu {a:Type}{p:a->Bool}(l:List a)(i:Nat):((l.take i).filter p).length<=(l.filter p).length:=((List.take_sublist i l).filter p).length_le
theorem AP1 {Y:aq}{D:aa}{b:Nat}{T:Q7}{fr:Nat×Nat}{fv:J0}{z:Nat->Prop}{l:List Pr}(a:D[b]? =some (J2 #[fv] T fr))(h:(fv= .nilFunc/\l= []/\ ∀c,¬z c)\/ER Y P fv z D l):
  ER Y P (.func (.func Oy) #[] #[J5 (some ⟨b,0,none⟩)]) (λc=>z c\/c=b) D (BH l):=by
 have aw:=Ah a;refine⟨?_,_,_,rfl,λZ=>by kernel_rfl,λd E Z w F ax hd hB ay G=>?_⟩
 ·rintro c (n|rfl)
  ·rcases h with h|h
   ·exact absurd n (h.2.2 c)
   ·exact h.1 c n
  ·exact aw
 rw[qC];refine ABB ?_;unfold Uf;refine Yw.mk ax (al.mk λu _ az q aJ=>?_);have ab:u[b]? =some (J2 #[fv] T fr):=by have r:=(E b (.inr rfl)).trans a;exact q.ah r (by simp)
 refine SI.mk (AO ab rfl) ?_;rcases h with⟨rfl,rfl,_⟩|h
 ·refine⟨trivial,af.yes rfl ?_⟩;exact⟨rfl,0,true,F,q.mod,λb a=> .inl a,hB.ba _ _ _ _ _ G (q.aj λ_ _ d=>d.elim),λ_=>rfl,by simp⟩
 ·refine⟨h.one.2.1,af.no h.one.2.2 ?_⟩;refine SI.mk (AO ab rfl) ?_;have aA:=hB.wf _ _ _ _ G;have aC: ∀b,z b->b<d.size:=λb a=>by
   have:=E b (.inl a);rw[Ft (h.1 b a)] at this;exact Ah this
  have aD:=hB.ba _ _ _ _ _ G (q.aj (S':=λb=>¬F b/\d.size<=b) λ_ _ d=>d.elim);refine XQ h (λc n=>(q.get c (aC c n) (by simp)).trans (E c (.inl n)))
   (λi c e j=>j[d.size]? =some (J2 #[Z] Mg (0,0))/\ ¬e d.size/\match c with
    |none=>w (BH (l.take i)).length true e j
    |some ac=>ac=none/\ ∃s,s<=(BH l).length/\w s false e j)
   F (λc n=>hd c (.inl n)) ?_ ?_ ?_ ?_ ?_ ?_
  ·rintro i c e j ⟨_,_,f⟩;cases c
   ·exact hB.wf _ _ _ _ f
   ·obtain⟨_,s,_,H⟩:=f;exact hB.wf _ _ _ _ H
  ·rintro i c e j I ⟨r,t,f⟩ m;refine⟨m.ah r (λd=>by omega),t,?_⟩;have ad:Mod (λb=>¬e b/\d.size<=b) j I:=m.aj λb _ a=>⟨a.1,by omega⟩
   cases c
   ·exact hB.ba _ _ _ _ _ f ad
   ·obtain⟨H,s,J,aE⟩:=f;exact⟨H,s,J,hB.ba _ _ _ _ _ aE ad⟩
  ·exact⟨az,λd=>by have:=aA _ d;omega,aD⟩
  ·rintro i x e j rec aK aL L ⟨r,t,f⟩ M aM aF aG ae aH;refine al.pair λaN ag aO aI N aP=>?_
   refine⟨rec,N.ah aF (by simp),aG,?_⟩;generalize k:ag.setIfInBounds (u.size+1) (.loop {rec with state:= .busy})=v;have y:Mod (λb=>b=u.size+1) ag v:=k▸Mod.setObj rfl;have O:v[u.size+1]? =some (.loop {rec with state:= .busy}):=by rw[<- k];exact Cb (by omega)
   have A:=y.ah aI (by omega);have Q:=y.ah (N.ah r (by simp)) (by omega);have R:Mod (λb=>b=u.size+1) j v:=(Ext.mod N).trans y;have ah:w (BH (l.take i)).length true e v:=hB.ba _ _ _ _ _ f (R.aj λb _ a=>by subst a;exact⟨M,by omega⟩);have aj:BH (l.take (i+1))=BH (l.take i)++BH [x]:=by rw[Ax,L];simp[BH]
   refine ai.mk λK ak=>?_
   refine Ac.mk (AB A rfl) ?_;refine af.intro (λo=>?_) (λo=>?_)
   ·have o:(!x.gone)=true:=o;refine SI.mk (AO Q rfl) ?_;refine AJ.mk (AO A rfl) (AJ.mk (AB A rfl) (Ac.mk (AB A rfl) ?_));refine Ec.mono (ay _ _ e v (vK (p:=λx:Pr=> !x.gone) L o) ah) ?_;rintro _ S ⟨g,B,rfl,am,C,an⟩;refine⟨g,rfl,ak _ _ ?_⟩;have aQ:=AEu (p:=λx:Pr=> !x.gone) l (i+1);have ao:(BH (l.take (i+1))).length=(BH (l.take i)).length+1:=by rw[aj];simp only[BH,A1];simp[o]
    have ap:=C.ah Q t;have ar: ¬B d.size:=λn=>(am _ n).elim t λd=>by have:=y.size;omega
    have au:Mod (λb=>e b\/b=u.size+1) j S:=(R.aj λb _ a=> .inr a).trans (C.aj λb _ a=> .inl a);have av: ∀b,B b->e b\/j.size<=b:=λb a=>(am b a).elim .inl λd=> .inr (by have:=y.size;omega)
    refine af.intro (λk=>aH none S ?_) (λk=>ae S ?_)
    ·have k:g=false:=by simpa using k
     subst k;exact⟨B,av,au,C.ah O M,ap,ar,rfl,_,by have:=ao;unfold BH at *;omega,an⟩
    ·have k:g=true:=by simpa using k
     subst k;exact⟨B,av,au,C.ah O M,ap,ar,by show w _ _ _ _;rw[ao];exact an⟩
   ·have o:(!x.gone)=false:=o;refine ak _ _ (af.no rfl (ae v ?_));refine⟨e,λb a=> .inl a,R.aj λb _ a=> .inr a,O,Q,t,?_⟩;show w _ _ _ _;have:BH [x]= []:=by simp at o;simp[BH,o]
    rw[aj,this,AK];exact ah
  ·rintro O' I ⟨r,t,f⟩ U V W X;refine⟨X,rfl,(BH l).length,true,O',?_,?_,?_,λ_=>rfl,A0 _⟩
   ·exact(q.mod.trans U).then (Mod.setObj (.inr (by omega)))
   ·intro b a;exact(W b a).elim .inl λd=> .inr (by omega)
   ·rw[BE] at f;exact hB.ba _ _ _ _ _ f (Mod.setObj ⟨V,by omega⟩)
  ·rintro i ac O' I ⟨r,t,rfl,s,J,f⟩ L U V W X;refine⟨X,rfl,s,false,O',?_,?_,?_,(λd=>by cases d),J⟩
   ·exact(q.mod.trans U).then (Mod.setObj (.inr (by omega)))
   ·intro b a;exact(W b a).elim .inl λd=> .inr (by omega)
   ·exact hB.ba _ _ _ _ _ f (Mod.setObj ⟨V,by omega⟩)
theorem sq {f:aq}{d:aa}{fv:J0}{g:Nat->Prop}{l:List Pr}{i:A2P}(a:(fv= .nilFunc/\l= []/\ ∀c,¬g c)\/ER f P fv g d l)
  (m: ∀j e,ER f P j (λc=>g c\/c=d.size) e (BH l)->Ext d e->e.size=d.size+1->i j e):AA f P Ns #[fv] d i:=by
 refine AEO ?_;unfold YK;refine Yw.mk ?_ (al.mk λn _ o k p=>?_)
 ·rcases a with a|a
  ·rw[a.1];rfl
  ·exact a.one.1
 ·refine m _ n (AP1 o ?_) k p;rcases a with a|a
  ·exact .inl a
  ·exact .inr (a.aj (λ_=>id) (λb h=>by have:=a.1 b h;omega) (λb h=>k.get b (a.1 b h) (by simp)))
def RA(a:A2Q)(x:Pr):Bool:=decide (a=⟨#[]⟩)||aM x.key a
def Po(a:A2Q)(b:Int)(l:List Pr):List Pr:=(l.takeWhile (RA a)).take b.toNat
theorem nP {b:Type}{p:b->Bool}: ∀ {l:List b} {i:Nat},i<=(l.takeWhile p).length->(l.takeWhile p).take i=l.take i
 | [],i,_=>by simp
 |y::l,0,_=>by simp
 |y::l,i+1,a=>by
  rw[IS] at a ⊢;split at a
  ·rename_i c;simp only[c,if_true,I2];rw[nP (by simpa using a)]
  ·simp at a
theorem Qq: ∀(a:List UInt8),Op.bytesLess a a=false
 | []=>rfl
 |a::x=>by simp[Op.bytesLess,Qq x]
theorem lX: ∀(a b:List UInt8),Op.bytesLess a b=false->Op.bytesLess b a=false->a=b
 | [],[],_,_=>rfl
 | [],_::_,c,_=>by simp[Op.bytesLess] at c
 |_::_,[],_,c=>by simp[Op.bytesLess] at c
 |a::x,b::f,d,e=>by
  simp only[Op.bytesLess,Hk,A08,decide_eq_false_iff_not,beq_eq_false_iff_ne] at d e;have g:a=b:=by grind
  subst g;rw[lX x f (d.2.resolve_left (by simp)) (e.2.resolve_left (by simp))]
theorem TZ: ∀(a b c:List UInt8),Op.bytesLess a b=true->Op.bytesLess b c=true->Op.bytesLess a c=true
 |_,[],_,f,_=>by simp[Op.bytesLess] at f
 |_,_::_,[],_,f=>by simp[Op.bytesLess] at f
 | [],_::_,_::_,_,_=>by simp[Op.bytesLess]
 |a::x,b::g,c::z,e,d=>by
  simp only[Op.bytesLess,DB,A4,decide_eq_true_eq,beq_iff_eq] at e d ⊢;rcases e with e|⟨rfl,e⟩
  ·grind
  ·rcases d with d|⟨rfl,d⟩
   ·exact .inl d
   ·exact .inr ⟨rfl,TZ x g z e d⟩
theorem CZ(a:A2Q):aM a a=false:=Qq _
theorem Da {a b c:A2Q}(d:aM a b=true)(e:aM b c=true):aM a c=true:=TZ _ _ _ d e
theorem Nz {a b:A2Q}(d:aM a b=false)(e:aM b a=false):a=b:=by
 have:=lX _ _ d e;have c:bO a b=true:=by simp[bO,this]
 rw[CU] at c;simpa using c
theorem OT {a b:A2Q}(c:aM a b=true):aM b a=false:=by grind [aM,Da,CZ]
theorem nQ {a b c:A2Q}(d:aM a b=true)(e:aM c b=false):aM a c=true:=by grind [aM,Nz,Da]
theorem ZV {a b c:A2Q}(d:aM b a=false)(e:aM c b=false):aM c a=false:=by grind [aM,nQ]
def upto(p a:Pr):Bool:=aM a.key p.key||bO a.key p.key
def Il(p:Pr)(l:List Pr):List Pr:=l.dropWhile (upto p)
inductive Lp:List (List Pr)->List Pr->Prop
 |done {ls:List (List Pr)} (h: ∀l,l∈ls->l= []):Lp ls []
 |step {ls:List (List Pr)} {k:Nat} {p:Pr} {t out:List Pr} (hk:ls[k]? =some (p::t))
   (hmin: ∀j q u,ls[j]? =some (q::u)->aM q.key p.key=false/\(j<k->aM p.key q.key=true)) (hm:Lp (ls.map (Il p)) out):Lp ls (p::out)
theorem Lp.iz {a:List (List Pr)}{out:List Pr}(m:Lp a out)(b: ∀l,l∈a->l= []):out= []:=by
 cases m with
 |done _=>rfl
 |step c d e=>have:=b _ (AM c);cases this
theorem Lp.gC {a:List (List Pr)}{out:List Pr}(m:Lp a out){c:Nat}{p:Pr}{t:List Pr}(f:a[c]? =some (p::t))
  (h: ∀d b u,a[d]? =some (b::u)->aM b.key p.key=false/\(d<c->aM p.key b.key=true)): ∃e,out=p::e/\Lp (a.map (Il p)) e:=by
 cases m with
 |done g=>have:=g _ (AM f);cases this
 | @step _ i j k l n o q=>
  grind
theorem rY {d:Type}: ∀(a:List d) (b i:Nat) (v:d),(a.set i v).take b=(a.take b).set i v
 | [],b,i,v=>by simp
 |c::a,0,i,v=>by simp
 |c::a,b+1,0,v=>by simp
 |c::a,b+1,i+1,v=>by simp[rY a b i v]
end Go.Lf.G.M
namespace Go.Lf
open G
theorem Own.jy {T:Q7}{d:aa}{s:Sl}{l:List Sl}(e:Own ie T d s l){i:Nat}(y:i<l.length){x:Sl}{K:aa->Prop}{a:Q6}(f:s.p=some a)
  (q: ∀c,Own ie T c s (l.set i x)->Mod (λb=>s.ah=some b) d c->c.size=d.size->K c):ae d (a.add (i*1)) (J4 x.p x.len x.cap) K:=by
 rcases e.row with⟨rfl,_⟩|⟨g,z,h,r,t,u,n,o⟩
 ·simp at f
 ·rw[h] at f;cases f;rw[Bh,AI,Bs];have j:ie.w=1:=rfl;rw[j,Bs] at n o;have A:=e.len;refine ae.mk r (by omega) λc k m v=>q c ⟨by simpa using e.len,.inr ⟨g,_,h,k,t,u,by simp[n,j],?_⟩⟩ (m.aj λb _ k=>by simp[Sl.ah,h,k]) v
  rw[j,Bs,DS,Go.Lf.G.M.rY,o];have p: ∀l:List Sl,l.flatMap ie.enc=l.map (λs=>Value.slice s.p s.len s.cap):=λl=>by
   induction l with
   |nil=>rfl
   |cons B l w=>rw[AH,w];rfl
  rw[p,p,Rr]
end Go.Lf
namespace Go.Lf.G.M
open Go Go.Lf Go.Lf.G
structure jd (lo:Nat) (h:aa) (O:Nat->Prop) (t:Sl) (sls:List Sl) (ls:List (List Pr)):Prop where
 len:sls.length=ls.length
 row: ∀(j:Nat) (sl:Sl) (l:List Pr),sls[j]? =some sl->ls[j]? =some l->View BR h sl l/\l.length<=1099511627776/\ ∀c,sl.ah=some c->lo<=c/\c<h.size/\t.ah≠some c/\ ¬O c
theorem jd.mod {f:Nat}{b j:aa}{g O':Nat->Prop}{t t':Sl}{k:List Sl}{n:List (List Pr)}{o:Nat->Prop}(p:jd f b g t k n)(m:Mod o b j)(q: ∀c,f<=c->c<b.size->t.ah≠some c-> ¬g c-> ¬o c)
  (r: ∀c,c<b.size->t'.ah=some c->t.ah=some c) (s: ∀c,c<b.size->O' c->g c):jd f j O' t' k n:=
 ⟨p.len,λu sl l h e=>by
  obtain⟨v,w,d⟩:=p.row u sl l h e;refine⟨v.mod m λc a=>q c (d c a).1 (d c a).2.1 (d c a).2.2.1 (d c a).2.2.2,w,λc a=>?_⟩;obtain⟨h,e,x,y⟩:=d c a;have:=m.size;exact⟨h,by omega,λi=>x (r c e i),λi=>y (s c e i)⟩⟩
end Go.Lf.G.M
namespace Go.Lf
open G
theorem View.val {b:aa}{s:Sl}{c:List ig}(v:View jZ b s c){i:Nat}{x:ig}(d:c[i]? =some x): ∃a,s.p=some a/\ag b (a.add (i*1))=some x.v:=by obtain⟨a,e,f⟩:=v.cells i x d;exact⟨a,e,f.val⟩
end Go.Lf
namespace Go.Lf.G.M
open Go Go.Lf Go.Lf.G
theorem ARG {a6:aq}{ad:aa}{b:Nat}{T:Q7}{fr:Nat×Nat}{s:Sl}{S:Nat->Prop}{I:List ig}{os:List (Option (List Pr))}{out:List Pr}(B:ad[b]? =some (J2 #[J4 s.p s.len s.cap] T fr))(v:View jZ ad s I)
  (a7:I.length<=1099511627776) (bD:os.length=I.length)
  (bE: ∀(i:Nat) (v:ig),I[i]? =some v->(v.v= .nilFunc/\os[i]? =some none)\/ ∃l,os[i]? =some (some l)/\ER a6 P v.v S ad l/\l.length<=1099511627776) (bF:Lp (os.filterMap id) out) (cj: ∀b,S b->b<ad.size):
  ER a6 P (.func (.func QH) #[] #[J5 (some ⟨b,0,none⟩)]) (λc=>S c\/(c<ad.size/\(c=b\/s.ah=some c))) ad out:=by
 have bG:=Ah B;refine⟨?_,_,_,rfl,λbH=>by kernel_rfl,λf a8 bH aK R ck hd hB bJ a9=>?_⟩
 ·grind
 rw[qC];refine ADM ?_;unfold Vp;have bK:=hB.wf _ _ _ _ a9;have bL:f[b]? =some (J2 #[J4 s.p s.len s.cap] T fr):=(a8 b (.inr ⟨bG,.inl rfl⟩)).trans B;have bM: ∀i x,I[i]? =some x-> ∃a,s.p=some a/\ag f (a.add (i*1))=some x.v:=λi x hi=>by
  obtain⟨a,ba,N⟩:=v.val hi
  grind [VD,aU,Sl.ah,Qb,trans]
 have bN: ∀c,S c->c<f.size:=λc k=>by
  grind
 refine AZ.mk (AO bL rfl) ?_;refine Loop.rule (λm x J=> ∃(i:Nat) (t:Sl) (z:List Sl),x=(t,(i:Int),())/\m=I.length-i/\i<=I.length/\Ext f J/\Own ie AQ J t z/\(∀ c,t.ah=some c->f.size<=c)/\jd f.size J R t z ((os.take i).filterMap id)/\z.length<=i) ?_
  ⟨0,⟨none,0,0⟩,[],rfl,rfl,by omega,Mod.refl,Own.nil,λc k=>by simp[Sl.ah] at k,⟨by simp,λe sl l f=>by simp at f⟩,by simp⟩
 rintro K m _ J ⟨i,t,z,rfl,rfl,hi,M,C,ao,L,bb⟩ ap;refine af.intro (λr=>?_) (λr=>?_)
 ·have aA:i<I.length:=by simp[v.len] at r;omega
  have bc:=A2 aA;refine ai.mk λcl bd=>?_
  obtain⟨a,ba,N⟩:=bM i _ bc;refine bI.mk ba (by rw[v.len];exact aA) ?_;refine SI.mk (M.ag N) ?_;rcases bE i _ bc with⟨be,aL⟩|⟨l,aL,aN,bf⟩
  ·refine⟨by rw[be];trivial,af.no (by rw[be];rfl) ?_⟩;refine bd _ _ (ap (I.length-(i+1)) _ _ (by omega) ⟨i+1,t,z,by rw[Aa (by omega)],rfl,by omega,M,C,ao,?_,by omega⟩);have:(os.take (i+1)).filterMap id=(os.take i).filterMap id:=by rw[Ax,aL];simp
   rw[this];exact L
  ·refine⟨aN.one.2.1,af.yes (by rw[aN.one.2.2];rfl) ?_⟩;refine We aN (λc k=>(M.get c (bN c k) (by simp)).trans (a8 c (.inl k))) bf λar W aO aC aD=>⟨ar,rfl,?_⟩
   refine al.aY (E:=ie) (x:=ar) rfl AOD (C.ext aD) (by omega) (by simp[maxLen];omega) λbg bP bQ aE aP _=>?_
   have bR:Ext f bP:=(M.trans aD).then (aE.aj λc _ k=> .inr (ao c k));refine bd _ _ (ap (I.length-(i+1)) _ _ (by omega) ⟨i+1,bg,_,by rw[Aa (by omega)],rfl,by omega,bR,bQ,?_,?_,?_⟩)
   ·intro c k;rcases aP c k with h|h
    ·exact ao c h
    ·have:=M.size;have:=aD.size;omega
   ·have G:(os.take (i+1)).filterMap id=(os.take i).filterMap id++ [l]:=by rw[Ax,aL];simp
    rw[G];have aF:=(L.mod aD (λc _ _ _ _ f=>f) (λc _ f=>f) (λc _ f=>f)).mod (t':=bg) aE (λc _ _ O _=>O) (λc k h=>(aP c h).elim id λq=>by omega) (λc _ f=>f);refine⟨by simp[aF.len],λe sl H h q=>?_⟩;rcases HL e z.length with A|A|A
    ·rw[GC A] at h;rw[GC (by rw[<- aF.len];exact A)] at q;exact aF.row e sl H h q
    ·subst A;rw[A09] at h;rw[aF.len,A09] at q;cases h;cases q;have cm:t.ah≠ar.ah\/ar.ah=none:=by
      cases aG:ar.ah with
      |none=>exact .inr rfl
      |some c=>
       refine .inl λG=>?_
       have:=C.lt G;have:=aC c aG;omega
     refine⟨(aO.view).mod aE λc k O=>?_,bf,λc k=>⟨?_,?_,?_,?_⟩⟩
     ·grind
     ·have:=aC c k;have:=M.size;omega
     ·have:=aO.lt k;have:=aE.size;omega
     ·intro h;have:=aO.lt k;rcases aP c h with q|q
      ·have:=C.lt q;have:=aC c k;omega
      ·omega
     ·intro h;have:=bK c h;have:=aC c k;have:=M.size;omega
    ·rw[Mn (by simp;omega)] at h;cases h
   ·simp;omega
 ·have aA:i=I.length:=by simp[v.len] at r;omega
  rw[aA,<-bD,BE] at L;have bh:=hB.ba _ _ _ _ _ a9 (M.aj (S':=λb=>¬R b/\f.size<=b) λ_ _ f=>f.elim);refine Loop.rule (λm _ J=> ∃(i:Nat) (D:Nat->Prop) (z:List Sl) (j:List (List Pr)) (ae:List Pr),Lp j ae/\m=ae.length/\(∀ n,out[i+n]? =ae[n]?)/\i+ae.length=out.length/\Mod R f J/\(∀ b,D b->R b\/f.size<=b)/\aK i true D J/\
    Own ie AQ J t z/\(∀ c,t.ah=some c-> ¬D c)/\jd f.size J D t z j/\z.length<=1099511627776) ?_
   ⟨0,R,z,_,out,bF,rfl,λn=>by rw[AI],by omega,M.mod,λb B=> .inl B,bh,C,λc k O=>by grind,L,by omega⟩
  clear ap L M C bb bh;rintro cn m _ J ⟨i,D,z,j,ae,bi,rfl,bj,bk,aQ,aR,A,C,aS,L,bb⟩ ap;have co:=hB.wf _ _ _ _ A;refine Loop.rule (λm x aH=> ∃(d:Nat) (X:Int),x=(X,(d:Int),())/\aH=J/\m=j.length-d/\d<=j.length/\((X= -1/\ ∀e l,e<d->j[e]? =some l->l= [])\/
   ∃n p u,X=(n:Nat)/\n<d/\j[n]? =some (p::u)/\ ∀e o y,e<d->j[e]? =some (o::y)->aM o.key p.key=false/\(e<n->aM p.key o.key=true))) ?_
   ⟨0,-1,rfl,rfl,rfl,by omega,.inl ⟨rfl,λe l f=>by omega⟩⟩
  rintro cp m _ aH ⟨d,X,rfl,bS,rfl,O,aT⟩ aV;subst bS;have cq:=L.len;refine af.intro (λr=>?_) (λr=>?_)
  ·have U:d<j.length:=by simp[C.len] at r;omega
   have F:=A2 U;have Y:=A2 (l:=z) (i:=d) (by omega);obtain⟨Z,bm,_⟩:=L.row d _ _ Y F;refine ai.mk λcr bn=>?_
   refine C.view.idx Y λcs _ c2=>?_
   refine AZ.mk c2.sl ?_;refine ai.mk λbo bp=>?_
   have bq:((X= -1/\ ∀e l,e<d+1->j[e]? =some l->l= [])\/
     ∃n p u,X=(n:Nat)/\n<d+1/\j[n]? =some (p::u)/\ ∀e o y,e<d+1->j[e]? =some (o::y)->aM o.key p.key=false/\(e<n->aM p.key o.key=true))->bo (false,()) aH:=λG=>
    bp _ _ (af.no rfl (bn _ _ (aV (j.length-(d+1)) _ _ (by omega) ⟨d+1,X,by rw[Aa (by omega)],rfl,rfl,by omega,G⟩)))
   have br:(∃ n p u,(d:Int)=(n:Nat)/\n<d+1/\j[n]? =some (p::u)/\ ∀e o y,e<d+1->j[e]? =some (o::y)->aM o.key p.key=false/\(e<n->aM p.key o.key=true))->bo (true,()) aH:=λG=>
    bp _ _ (af.yes rfl (bn _ _ (aV (j.length-(d+1)) _ _ (by omega) ⟨d+1,d,by rw[Aa (by omega)],rfl,rfl,by omega,.inr G⟩)))
   refine af.intro (λr=>?_) (λr=>?_)
   ·cases ah:j[d] with
    |nil=>rw[ah] at Z;have:=Z.len;simp[this] at r
    |cons o y=>
     rw[ah] at Z F;rcases aT with⟨rfl,au⟩|⟨n,p,u,rfl,bs,ab,aj⟩
     ·refine af.yes (by simp) (br ⟨d,o,y,rfl,by omega,F,λe ak am A w=>?_⟩);rcases FA e d with h|h
      ·have:=au e _ h w;cases this
      ·have:e=d:=by omega
       subst this;rw[F] at w;cases w;exact⟨CZ _,λf=>by omega⟩
     ·refine af.no (by simp) ?_;refine Z.idx (i:=0) (x:=o) rfl λct _ bT=>?_
      refine AJ.mk bT.pair.1 ?_;have av:=A2 (l:=z) (i:=n) (by omega);obtain⟨aW,_,_⟩:=L.row n _ _ av ab;refine C.view.idx av λbU _ c4=>?_
      refine AZ.mk c4.sl ?_;refine aW.idx (i:=0) (x:=p) rfl λbV _ aw=>?_
      refine AJ.mk aw.pair.1 ?_;cases aG:aM o.key p.key
      ·refine bq (.inr ⟨n,p,u,rfl,by omega,ab,λe ak am A w=>?_⟩);rcases FA e d with h|h
       ·exact aj e ak am h w
       ·have:e=d:=by omega
        subst this;rw[F] at w;cases w;exact⟨aG,λf=>by omega⟩
      ·refine br ⟨d,o,y,rfl,by omega,F,λe ak am A w=>?_⟩;rcases FA e d with h|h
       ·have q:=(aj e ak am h w).1;have W:=nQ aG q;exact⟨OT W,λ_=>W⟩
       ·have:e=d:=by omega
        subst this;rw[F] at w;cases w;exact⟨CZ _,λf=>by omega⟩
   ·have ah:j[d]= []:=by
     have:=Z.len;cases ah:j[d] with
     |nil=>rfl
     |cons o y=>rw[ah] at this;simp[this] at r
    rw[ah] at F;refine bq ?_;rcases aT with⟨rfl,au⟩|⟨n,p,u,rfl,bs,ab,aj⟩
    ·refine .inl ⟨rfl,λe l A w=>?_⟩;rcases FA e d with h|h
     ·exact au e l h w
     ·have:e=d:=by omega
      subst this;rw[F] at w;cases w;rfl
    ·refine .inr ⟨n,p,u,rfl,by omega,ab,λe ak am A w=>?_⟩;rcases FA e d with h|h
     ·exact aj e ak am h w
     ·have:e=d:=by omega
      subst this;rw[F] at w;cases w
  ·have U:d=j.length:=by simp[C.len] at r;omega
   subst U;clear aV;rcases aT with⟨rfl,au⟩|⟨n,p,u,rfl,bs,ab,aj⟩
   ·refine af.yes (by simp) ?_;have:ae= []:=bi.iz λl a7=>by
     obtain⟨e,A,G⟩:=DA a7;exact au e l A (by grind)
    subst this;refine⟨rfl,i,true,D,aQ,aR,A,λ_=>by omega,by omega⟩
   ·refine af.no (by simp) ?_;have bW: ∀e o y,j[e]? =some (o::y)->aM o.key p.key=false/\(e<n->aM p.key o.key=true):=λe o y N=>aj e o y (List.getElem?_eq_some_iff.1 N).1 N
    obtain⟨bt,rfl,bX⟩:=bi.gC ab bW;have av:=A2 (l:=z) (i:=n) (by omega);obtain⟨aW,_,_⟩:=L.row n _ _ av ab;refine C.view.idx av λbU _ c4=>?_
    refine AZ.mk c4.sl ?_;refine aW.idx (i:=0) (x:=p) rfl λbV _ aw=>?_
    refine AJ.mk aw.pair.1 (AJ.mk aw.pair.2.1 (Ac.mk aw.pair.2.2 ?_));refine al.pair λbY aX cu bZ aI cv=>?_
    have b0:=C.ext aI;have b1:jd f.size aX D t z j:=L.mod aI (λc _ _ _ _ f=>f) (λc _ f=>f) (λc _ f=>f);have b2:aK i true D aX:=hB.ba _ _ _ _ _ A (aI.aj (S':=λb=>¬D b/\f.size<=b) λ_ _ f=>f.elim);have b3:t.ah≠some bY:=λG=>by have:=C.lt G;omega
    refine Loop.rule (λm x Q=> ∃(d:Nat) (V:List Sl),x=((d:Int),())/\m=j.length-d/\d<=j.length/\Mod (λc=>t.ah=some c) aX Q/\Own ie AQ Q t V/\jd f.size Q D t V ((j.take d).map (Il p)++j.drop d)) ?_
     ⟨0,z,rfl,rfl,by omega,Mod.refl,b0,by simpa using b1⟩
    rintro cw m _ Q ⟨d,V,rfl,rfl,O,ax,an,ay⟩ b4;have b5:V.length=j.length:=by have:=ay.len;simp at this;omega
    have aJ:=ax.ah bZ b3;refine af.intro (λr=>?_) (λr=>?_)
    ·have U:d<j.length:=by grind
     have Y:=A2 (l:=V) (i:=d) (by omega);have F:((j.take d).map (Il p)++j.drop d)[d]? =some j[d]:=by rw[Fc (by simp;omega)];simp;rw[Fm (by omega),MA];simp[U]
     obtain⟨Z,bm,cx⟩:=ay.row d _ _ Y F;refine an.view.idx Y λcy cz b6=>?_
     refine AZ.mk b6.sl ?_;refine Loop.rule (λm x aY=> ∃(az:Sl) (H:List Pr),x=(az,())/\aY=Q/\m=H.length/\View BR Q az H/\(∀ c,az.ah=some c->V[d].ah=some c)/\Il p H=Il p j[d]/\H.length<=1099511627776) ?_
      ⟨_,_,rfl,rfl,rfl,Z,λc f=>f,rfl,bm⟩
     rintro cB m _ aY ⟨az,H,rfl,b7,rfl,ac,aZ,bu,bv⟩ b8;subst b7;refine ai.mk λb9 bw=>?_
     have bx:Il p H=H->b9 (false,()) aY:=λG=>bw _ _ (af.no rfl (by
      refine an.view.idx Y λcC ca _=>?_
      refine an.jy (i:=d) (by omega) ca λcb cc a0 cD=>?_
      refine b4 (j.length-(d+1)) _ _ (by omega) ⟨d+1,_,by rw[Aa (by omega)],rfl,by omega,ax.trans a0,cc,?_⟩;have a1:jd f.size cb D t V ((j.take d).map (Il p)++j.drop d):=ay.mod a0 (λc _ _ O _=>O) (λc _ f=>f) (λc _ f=>f);refine⟨?_,λe sl l h q=>?_⟩
      ·simp[b5];omega
      ·rcases HL e d with a2|a2|a2
       ·rw[Kd (by omega)] at h;refine a1.row e sl l h ?_;rw[GC (by simp;omega)] at q ⊢;rw[By,A0a (by omega)] at q ⊢;exact q
       ·subst a2;rw[HP (by omega)] at h;cases h;rw[GC (by simp;omega),By,A0a (by omega),A2 U] at q;simp at q;subst q;rw[<- bu,G];obtain⟨_,_,k⟩:=a1.row e _ _ Y F;exact⟨ac.mod a0 λc B=>(k c (aZ c B)).2.2.1,bv,λc B=>k c (aZ c B)⟩
       ·rw[Kd (by omega)] at h;refine a1.row e sl l h ?_;rw[Fc (by simp;omega)] at q ⊢;simp only[AN,AD,C5] at q ⊢;rw[<- q];congr 1;omega))
     refine af.intro (λr=>?_) (λr=>?_)
     ·cases H with
      |nil=>have:=ac.len;simp[this] at r
      |cons o y=>
       refine ac.idx (i:=0) (x:=o) rfl λcE _ cd=>?_
       refine AJ.mk cd.pair.1 (AJ.mk (AO aJ rfl) ?_);cases bz:(aM o.key p.key||bO o.key p.key)
       ·exact bx (by simp[Il,upto,bz])
       ·have ce:=ac.len;simp at ce bv;refine bw _ _ (af.yes rfl ⟨⟨by omega,by show(1:Int)<=((az.len:Nat):Int);omega⟩,b8 y.length _ _ (by simp) ⟨_,y,rfl,rfl,rfl,?_,?_,?_,by omega⟩⟩)
        ·have:=ac.sub (lo:=1) (hi:=(o::y).length) (by simp) (A0 _);rw[BE,<-ac.len] at this;exact this
        ·intro c k;exact aZ c (Zx k)
        ·rw[<- bu];simp[Il,upto,bz]
     ·have:H= []:=by
       have:=ac.len;cases H with
       |nil=>rfl
       |cons o y=>simp[this] at r
      subst this;exact bx rfl
    ·have U:d=j.length:=by simp[an.len] at r;omega
     subst U;rw[BE,IT,AK] at ay;refine AJ.mk (AO aJ rfl) (AJ.mk (AB aJ rfl) (Ac.mk (AB aJ rfl) ?_));have cf:aK i true D Q:=hB.ba _ _ _ _ _ b2 (ax.aj λc _ k=>⟨aS c k,ao c k⟩);have cg:out[i]? =some p:=by have:=bj 0;simpa using this
     refine Ec.mono (bJ i p D Q cg cf) ?_;rintro _ ch ⟨g,a3,rfl,a4,a5,bA⟩;have cF:=ax.size;have cG:=aQ.size;have bB: ∀b,a3 b->R b\/f.size<=b:=λb B=>(a4 b B).elim (aR b) λcH=> .inr (by omega)
     have ci:Mod R f Q:=(aQ.trans aI.mod).then (ax.aj λb _ B=> .inr (ao b B));have bC:Mod R f ch:=ci.then (a5.aj λb _ B=>aR b B);refine⟨g,rfl,af.intro (λr=>?_) (λr=>?_)⟩
     ·have N:g=false:=by simpa using r
      subst N;exact⟨rfl,i+1,false,a3,bC,bB,bA,(λf=>by cases f),by simp at bk;omega⟩
     ·have N:g=true:=by simpa using r
      subst N;refine ap bt.length _ _ (by simp) ⟨i+1,a3,V,_,bt,bX,rfl,λn=>?_,by simp at bk;omega,bC,bB,bA,an.mod a5 (λc k=>aS c k),?_,?_,by omega⟩
      ·have:=bj (n+1);rw[show i+1+n=i+(n+1) by omega,this];rfl
      ·intro c k q;rcases a4 c q with W|W
       ·exact aS c k W
       ·have:=an.lt k;omega
      ·exact ay.mod a5 (λc _ _ _ O=>O) (λc _ f=>f) (λc k q=>(a4 c q).elim id λW=>by omega)
def Sorted(l:List Pr):Prop:=l.Pairwise λa b=>aM a.key b.key=true
def Af(a:A2Q)(l:List Pr):Option Pr:=l.find? λb=>decide (b.key=a)
theorem QO(a:A2Q):Af a []=none:=rfl
theorem BD(a:A2Q)(x:Pr)(l:List Pr):Af a (x::l)=if x.key=a then some x else Af a l:=by unfold Af;rw[E0];by_cases b:x.key=a<;>simp[b]
theorem ML {b:A2Q}{l:List Pr}{x:Pr}(a:Af b l=some x):x.key=b/\x∈l:=by unfold Af at a;exact⟨by simpa using RE a,LN a⟩
theorem EJ {a:A2Q}{l:List Pr}(b: ∀x∈l,x.key≠a):Af a l=none:=by unfold Af;rw[Hb];simpa using b
theorem Lj {a b:A2Q}(c:aM a b=true):a≠b:=by rintro rfl;rw[CZ] at c;cases c
theorem Sorted.find {l:List Pr}(s:Sorted l){x:Pr}(a:x∈l):Af x.key l=some x:=by
 induction l with
 |nil=>cases a
 |cons d l c=>
  rw[BD];have b:=List.pairwise_cons.1 s;rcases List.mem_cons.1 a with rfl|a
  ·simp
  ·rw[if_neg (Lj (b.1 x a))];exact c b.2 a
theorem Sorted.ext: ∀ {l m:List Pr},Sorted l->Sorted m->(∀ d,Af d l=Af d m)->l=m
 | [],[],_,_,_=>rfl
 | [],a::m,_,_,b=>by have:=b a.key;rw[BD,if_pos rfl] at this;cases this
 |x::l,[],_,_,b=>by have:=b x.key;rw[BD,if_pos rfl] at this;cases this
 |x::l,a::m,sl,p,b=>by
  have g:=List.pairwise_cons.1 sl;have h:=List.pairwise_cons.1 p;have f:x.key=a.key:=by
   have e:=b x.key;have n:=b a.key;rw[BD,if_pos rfl] at e;rw[BD a.key a m,if_pos rfl] at n;have i:=(ML e.symm).2;have j:=(ML n).2;rcases List.mem_cons.1 i with c|i
   ·rw[c]
   ·rcases List.mem_cons.1 j with c|j
    ·rw[c]
    ·have q:=h.1 x i;have o:=g.1 a j;rw[OT q] at o;cases o
  have r:x=a:=by have e:=b x.key;rw[BD,BD,if_pos rfl,if_pos f.symm] at e;exact C2 e
  subst r;rw[Sorted.ext g.2 h.2 λd=>?_];have:=b d;rw[BD,BD] at this;by_cases f:x.key=d
  ·subst f;rw[EJ λa k c=>Lj (g.1 a k) c.symm,EJ λa k c=>Lj (h.1 a k) c.symm]
  ·simpa [f] using this
def ins(x:Pr):List Pr->List Pr
 | []=> [x]
 |q::l=>if aM q.key x.key then q::ins x l else if q.key=x.key then x::l else x::q::l
theorem mY(x:Pr): ∀l,X8 x l=ins x l
 | []=>rfl
 |q::l=>by
  unfold ins;cases b:aM q.key x.key
  ·have a:gB x.key (q::l)= []:=by simp[gB,b]
   by_cases c:q.key=x.key
   ·simp[X8,aP,a,BF,c]
   ·simp[X8,aP,a,BF,c]
  ·have a:gB x.key (q::l)=q::gB x.key l:=by simp[gB,b]
   have d:aP x.key (q::l)=aP x.key l+1:=by simp[aP,a]
   have f:BF x.key (q::l)=BF x.key l:=by simp[BF,d]
   have e:=mY x l;unfold X8 at e ⊢;rw[d,f];have g:(if BF x.key l=true then aP x.key l+1+1 else aP x.key l+1)=(if BF x.key l=true then aP x.key l+1 else aP x.key l)+1:=by split<;>rfl
   rw[g,I2,HW,Dd,Dd,e];simp
theorem qD {x b:Pr}: ∀ {l:List Pr},b∈ins x l->b=x\/b∈l
 | [],a=>by simp[ins] at a;exact .inl a
 |q::l,a=>by
  unfold ins at a;split at a
  ·rcases List.mem_cons.1 a with rfl|a
   ·exact .inr (by simp)
   ·rcases qD a with a|a
    ·exact .inl a
    ·exact .inr (by simp[a])
  ·split at a
   ·rcases List.mem_cons.1 a with rfl|a
    ·exact .inl rfl
    ·exact .inr (by simp[a])
   ·rcases List.mem_cons.1 a with rfl|a
    ·exact .inl rfl
    ·exact .inr a
theorem XE(x:Pr): ∀ {l:List Pr},Sorted l->Sorted (ins x l)
 | [],_=>LS _ _
 |q::l,s=>by
  have b:=List.pairwise_cons.1 s;unfold ins;split
  ·rename_i d;refine List.pairwise_cons.2 ⟨λc a=>?_,XE x b.2⟩;rcases qD a with rfl|a
   ·exact d
   ·exact b.1 c a
  ·rename_i d;split
   ·rename_i e;refine List.pairwise_cons.2 ⟨λc a=>?_,b.2⟩;have:=b.1 c a;rwa [e] at this
   ·rename_i e;have f:aM x.key q.key=true:=by
     cases g:aM x.key q.key
     ·exact absurd (Nz (by simpa using d) g) e
     ·rfl
    refine List.pairwise_cons.2 ⟨λc a=>?_,s⟩;rcases List.mem_cons.1 a with rfl|a
    ·exact f
    ·exact Da f (b.1 c a)
theorem Xh(x:Pr)(a:A2Q): ∀ {l:List Pr},Sorted l->Af a (ins x l)=if x.key=a then some x else Af a l
 | [],_=>by simp[ins,BD,QO]
 |q::l,s=>by
  have c:=List.pairwise_cons.1 s;unfold ins;split
  ·rename_i d;rw[BD,BD,Xh x a c.2];by_cases b:q.key=a
   ·have e:x.key≠a:=by rw[<- b];exact λf=>Lj d f.symm
    simp[b,e]
   ·simp[b]
  ·split
   ·rename_i g;rw[BD,BD,g];by_cases b:x.key=a<;>simp[b]
   ·rw[BD]
def BV(l:List Pr):Prop:= ∀x∈l,Ai x=0
theorem Qm {x:Pr}{l:List Pr}(a:Ai x=0):CY x l=ins x l:=by simp[CY,a,mY]
theorem Pb {x:Pr}{l:List Pr}(s:Sorted l):Sorted (CY x l):=by
 by_cases a:Ai x=0
 ·rw[Qm a];exact XE x s
 ·simpa [CY,a] using s
theorem vL {x:Pr}{l:List Pr}(g:BV l):BV (CY x l):=by
 by_cases a:Ai x=0
 ·rw[Qm a];exact λb c=>(qD c).elim (λd=>d▸a) (g b)
 ·simpa [CY,a] using g
def BA(t l:List Pr):List Pr:=l.foldl (λt x=>CY x t) t
theorem RB {l:List Pr}: ∀ {t},Sorted t->Sorted (BA t l):=by
 induction l with
 |nil=>exact λs=>s
 |cons x l a=>exact λs=>a (Pb s)
theorem XU {l:List Pr}: ∀ {t},BV t->BV (BA t l):=by
 induction l with
 |nil=>exact λs=>s
 |cons x l a=>exact λs=>a (vL s)
theorem Qt {l:List Pr}: ∀ {t},(BA t l).length<=t.length+l.length:=by
 induction l with
 |nil=>exact λ{t}=>by simp[BA]
 |cons x l a=>intro t;have:=a (t:=CY x t);have:=AN4 x t;simp[BA] at *;omega
theorem AKQ {l:List Pr}(a:A2Q): ∀ {t},Sorted t->Sorted l->BV l->Af a (BA t l)=(Af a l).or (Af a t):=by
 induction l with
 |nil=>intro t _ _ _;simp[BA,QO]
 |cons x l f=>
  intro t st sl g;have d:=List.pairwise_cons.1 sl;show Af a (BA (CY x t) l)=_;rw[f (Pb st) d.2 (λb c=>g b (by simp[c])),Qm (g x (by simp)),Xh x a st,BD];by_cases e:x.key=a
  ·subst e;rw[EJ λb c h=>Lj (d.1 b c) h.symm];simp
  ·simp[e]
def Ag(a:List (List Pr)):List Pr:=a.reverse.foldl BA []
theorem Nv(l:List Pr)(a:List (List Pr)):Ag (l::a)=BA (Ag a) l:=by simp[Ag,Hi]
theorem Dz: ∀a,Sorted (Ag a)
 | []=>List.Pairwise.nil
 |l::a=>by rw[Nv];exact RB (Dz a)
structure bB (ls:List (List Pr)):Prop where
 sorted: ∀l∈ls,Sorted l
 aS: ∀l∈ls,BV l
def Au(a:A2Q)(b:List (List Pr)):Option Pr:=b.findSome? (Af a)
theorem EM(a:A2Q)(l:List Pr)(b:List (List Pr)):Au a (l::b)=(Af a l).or (Au a b):=by unfold Au;rw[RK];cases Af a l<;>rfl
theorem Kn(b:A2Q): ∀ {a},bB a->Af b (Ag a)=Au b a
 | [],_=>rfl
 |l::a,c=>by
  rw[Nv,AKQ b (Dz a) (c.sorted l (by simp)) (c.aS l (by simp)),Kn b ⟨λm d=>c.sorted m (by simp[d]),λm d=>c.aS m (by simp[d])⟩,EM]
theorem Uy(p:Pr)(l:List Pr):(Il p l).Sublist l:=List.dropWhile_sublist _
theorem AJb {p q:Pr}(a:upto p q=false):aM p.key q.key=true:=by
 unfold upto at a;rw[CU] at a;simp at a;cases b:aM p.key q.key
 ·exact absurd (Nz a.1 b) a.2
 ·rfl
theorem AMb {p b:Pr}(a:upto p b=true):aM p.key b.key=false:=by
 unfold upto at a;rw[CU] at a;simp at a;rcases a with a|a
 ·exact OT a
 ·rw[a];exact CZ _
theorem ZZ {p q:Pr}: ∀ {l:List Pr},Sorted l->q∈Il p l->aM p.key q.key=true
 | [],_,a=>by cases a
 |y::l,s,a=>by
  have b:=List.pairwise_cons.1 s;unfold Il at a;rw[List.dropWhile_cons] at a;split at a
  ·exact ZZ b.2 a
  ·rename_i d;have c:=AJb (p:=p) (q:=y) (by simpa using d);rcases List.mem_cons.1 a with rfl|a
   ·exact c
   ·exact Da c (b.1 q a)
theorem vM {p:Pr}{a:A2Q}(b:aM p.key a=true): ∀ {l:List Pr},Af a (Il p l)=Af a l
 | []=>rfl
 |y::l=>by
  unfold Il;rw[List.dropWhile_cons];split
  ·rename_i d;have c:=AMb d;rw[BD,if_neg (by rintro rfl;rw[b] at c;cases c)];exact vM b
  ·rfl
theorem Lp.ok {a:List (List Pr)}{out:List Pr}(m:Lp a out):(∀ l∈a,Sorted l)->Sorted out/\ ∀b,Af b out=Au b a:=by
 induction m with
 |done g=>
  rename_i a;intro _;refine⟨List.Pairwise.nil,λb=>?_⟩;have: ∀a:List (List Pr),(∀ l∈a,l= [])->Au b a=none:=λa g=>by
   unfold Au;rw[RM];intro l d;rw[g l d];rfl
  rw[this a g];rfl
 | @step a b p t out F C y r=>
  intro h;have G: ∀l∈a.map (Il p),Sorted l:=λl d=>by
   obtain⟨o,s,rfl⟩:=List.mem_map.1 d;exact(h o s).sublist (Uy p o)
  obtain⟨D,E⟩:=r G;have H: ∀e∈out,aM p.key e.key=true:=λe q=>by
   have f:=D.find q;rw[E] at f;unfold Au at f;obtain⟨l,d,k⟩:=A0c f;obtain⟨o,s,rfl⟩:=List.mem_map.1 d;exact ZZ (h o s) (ML k).2
  refine⟨List.pairwise_cons.2 ⟨H,D⟩,λc=>?_⟩;have I: ∀l∈a,∀e∈l,aM e.key p.key=false:=λl d e q=>by
   obtain⟨i,v,j⟩:=DA d;cases l with
   |nil=>cases q
   |cons w u=>
    have f:=(C i w u (by rw[A2 v,j])).1;have z:=List.pairwise_cons.1 (h _ d);rcases List.mem_cons.1 q with rfl|q
    ·exact f
    ·cases k:aM e.key p.key
     ·rfl
     ·have:=Da (z.1 e q) k;rw[this] at f;cases f
  rw[BD];by_cases A:p.key=c
  ·subst A;simp only[if_true];have: ∀(a:List (List Pr)) (b:Nat),a[b]? =some (p::t)->(∀ i e u,a[i]? =some (e::u)->i<b->aM p.key e.key=true)->(∀ l∈a,Sorted l)->Au p.key a=some p:=by
    intro a
    induction a with
    |nil=>intro b g;simp at g
    |cons l a r=>
     intro b g y h;rw[EM];cases b with
     |zero=>simp at g;subst g;rw[BD,if_pos rfl];rfl
     |succ b=>
      have J:Af p.key l=none:=by
       cases l with
       |nil=>rfl
       |cons w u=>
        have f:=y 0 w u rfl (by omega);have z:=List.pairwise_cons.1 (h _ (by simp:(w::u)∈(w::u)::a));refine EJ λx n j=>?_
        rcases List.mem_cons.1 n with rfl|n
        ·rw[j,CZ] at f;cases f
        ·have:=Da f (z.1 x n);rw[j,CZ] at this;cases this
      rw[J,LR];exact r b (by simpa using g) (λi e u v M=>y (i+1) e u (by simpa using v) (by omega)) (λl d=>h l (by simp[d]))
   rw[this a b F (λi e u v=>(C i e u v).2) h]
  ·rw[if_neg A,E];unfold Au;cases k:aM p.key c
   ·
    have B:aM c p.key=true:=by
     cases B:aM c p.key
     ·exact absurd (Nz k B) A
     ·rfl
    have K:(a.map (Il p)).findSome? (Af c)=none:=by
     rw[RM];intro l d;obtain⟨o,s,rfl⟩:=List.mem_map.1 d;refine EJ λx n j=>?_
     have:=ZZ (h o s) n;rw[j,k] at this;cases this
    have L:a.findSome? (Af c)=none:=by
     rw[RM];intro l d;refine EJ λx n j=>?_
     have:=I l d x n;rw[j,B] at this;cases this
    rw[K,L]
   ·have: ∀a:List (List Pr),(a.map (Il p)).findSome? (Af c)=a.findSome? (Af c):=λa=>by
     induction a with
     |nil=>rfl
     |cons l a r=>rw[B9,RK,RK,vM k,r]
    rw[this]
theorem UU: ∀(e:List (List Pr)),(∀ l∈e,l= [])\/ ∃(f:Nat) (p:Pr) (t:List Pr),e[f]? =some (p::t)/\ ∀(a:Nat) (c:Pr) (u:List Pr),e[a]? =some (c::u)->aM c.key p.key=false/\(a<f->aM p.key c.key=true)
 | []=> .inl λl d=>by cases d
 |l::e=>by
  cases l with
  |nil=>
   rcases UU e with d|⟨f,p,t,i,g⟩
   ·refine .inl λl j=>?_
    rcases List.mem_cons.1 j with rfl|j
    ·rfl
    ·exact d l j
   ·refine .inr ⟨f+1,p,t,by simpa using i,λa c u b=>?_⟩;cases a with
    |zero=>simp at b
    |succ a=>have:=g a c u (by simpa using b);exact⟨this.1,λd=>this.2 (by omega)⟩
  |cons k u=>
   rcases UU e with d|⟨f,p,t,i,g⟩
   ·refine .inr ⟨0,k,u,rfl,λa c h b=>⟨?_,λd=>by omega⟩⟩;cases a with
    |zero=>simp at b;rw[b.1];exact CZ _
    |succ a=>have:=d _ (AM (by simpa using b));cases this
   ·cases m:aM p.key k.key
    ·refine .inr ⟨0,k,u,rfl,λa c h b=>⟨?_,λd=>by omega⟩⟩;cases a with
     |zero=>simp at b;rw[b.1];exact CZ _
     |succ a=>exact ZV m (g a c h (by simpa using b)).1
    ·refine .inr ⟨f+1,p,t,by simpa using i,λa c h b=>?_⟩;cases a with
     |zero=>simp at b;rw[<- b.1];exact⟨OT m,λ_=>m⟩
     |succ a=>have:=g a c h (by simpa using b);exact⟨this.1,λd=>this.2 (by omega)⟩
def total(a:List (List Pr)):Nat:=(a.map List.length).sum
theorem Xe(p:Pr): ∀a,total (a.map (Il p))<=total a
 | []=>A0 _
 |l::a=>by
  have:=Xe p a;have:=(Uy p l).length_le;simp[total] at *;omega
theorem Yj {p:Pr}{t:List Pr}: ∀ {ls:List (List Pr)} {k:Nat},ls[k]? =some (p::t)->total (ls.map (Il p))<total ls
 | [],k,a=>by simp at a
 |l::ls,0,a=>by
  simp at a;subst a;have b:=Xe p ls;have c:=(Uy p t).length_le;have d:Il p (p::t)=Il p t:=by simp[Il,upto,CU]
  simp only[total,B9,FF,d,A5] at*
  omega
 |l::ls,k+1,a=>by
  have b:=Yj (p:=p) (t:=t) (ls:=ls) (k:=k) (by simpa using a);have c:=(Uy p l).length_le;simp only[total,B9,FF] at*
  omega
theorem AEr(a:List (List Pr)): ∃out,Lp a out/\out.length<=total a:=by
 generalize h:total a=b
 induction b using Nat.strongRecOn generalizing a with
 |_ b d=>
  rcases UU a with e|⟨i,p,t,c,f⟩
  ·exact⟨[],.done e,by simp⟩
  ·have j:=Yj c;obtain⟨out,g,k⟩:=d _ (by omega) (a.map (Il p)) rfl;exact⟨p::out,.step c f g,by simp;omega⟩
theorem sy {t l:List Pr}{a:Nat}{x:Pr}(b:l[a]? =some x):BA t (l.take (a+1))=CY x (BA t (l.take a)):=by rw[Ax,b];simp only[BA,Hi,Ds,I3,N6]
theorem TV: ∀a,(Ag a).length<=total a
 | []=>A0 _
 |l::a=>by
  rw[Nv];have:=TV a;have:=Qt (l:=l) (t:=Ag a);simp[total] at *;omega
theorem Xq: ∀a,BV (Ag a)
 | []=>λ_ b=>by cases b
 |l::a=>by rw[Nv];exact XU (Xq a)
theorem AJr(l:List Pr)(a:List (List Pr)):total (l::a)=l.length+total a:=by simp[total]
def sC(f:aq)(d:Nat->Prop)(a:aa)(s:Sl)(e:List (List Pr)):Prop:=
 ∃b,View jZ a s b/\(∀ c,s.ah=some c->c<a.size/\ ¬d c)/\b.length=e.length/\ ∀(i:Nat) (v:ig) (l:List Pr),b[i]? =some v->e[i]? =some l->(v.v= .nilFunc/\l= [])\/(ER f P v.v (λc=>c<a.size/\ ¬d c) a l/\l.length<=1099511627776)
end Go.Lf.G.M
namespace Go.Lf
open G
theorem ER.later {f:aq}{d:Nat->Prop}{fv:J0}{b e:aa}{l:List Pr}(h:ER f P fv (λc=>c<b.size/\ ¬d c) b l){g:Nat->Prop}(x:Mod g b e)(i: ∀c,c<b.size->g c->d c):ER f P fv (λc=>c<e.size/\ ¬d c) e l:=
 h.aj (λc a=>⟨by have:=x.size;omega,a.2⟩) (λc a=>a.1) λc a=>x.get c a.1 λj=>a.2 (i c a.1 j)
end Go.Lf
namespace Go.Lf.G.M
open Go Go.Lf Go.Lf.G
theorem sn {p:aq}{k:Nat->Prop}{a:aa}{s:Sl}{ls:List (List Pr)}{x:A2P}(G:sC p k a s ls)(hX: ∀c,k c->c<a.size)(t:ls.length<=1099511627776)(u:bB ls)
  (y: ∀fv n,ER p P fv (λc=>c<n.size/\ ¬k c) n (Ag ls)->Ext a n->n.size=a.size+1->x fv n):AA p P PS #[J4 s.p s.len s.cap] a x:=by
 obtain⟨q,v,z,w,A⟩:=G;refine AGd ?_;unfold vg;refine al.mk λg _ B r C=>?_
 have H: ∃os:List (Option (List Pr)),os.length=q.length/\(∀ (i:Nat) (v:ig),q[i]? =some v->(v.v= .nilFunc/\os[i]? =some none)\/ ∃l,os[i]? =some (some l)/\ER p P v.v (λc=>c<a.size/\ ¬k c) a l/\l.length<=1099511627776)/\
   (∀ l,l∈os.filterMap id->l∈ls)/\ ∀b,Au b (os.filterMap id)=Au b ls:=by
  clear v hX t u y B r C z
  induction q generalizing ls with
  |nil=>
   have:ls= []:=CH w.symm;subst this;exact⟨[],rfl,λi v a=>by simp at a,λl a=>by simp at a,λb=>rfl⟩
  |cons v q I=>
   cases ls with
   |nil=>simp at w
   |cons l ls=>
    obtain⟨os,g,h,D,E⟩:=I (ls:=ls) (by simpa using w) (λi v l g h=>A (i+1) v l (by simpa using g) (by simpa using h));rcases A 0 v l rfl rfl with⟨j,o⟩|⟨j,o⟩
    ·refine⟨none::os,by simp[g],λi v e=>?_,λm d=>?_,λb=>?_⟩
     ·cases i with
      |zero=>simp at e;subst e;exact .inl ⟨j,rfl⟩
      |succ i=>exact h i v (by simpa using e)
     ·simp at d;exact AG _ (D m (by simpa using d))
     ·subst o;rw[EM];simpa [QO] using E b
    ·refine⟨some l::os,by simp[g],λi v e=>?_,λm d=>?_,λb=>?_⟩
     ·cases i with
      |zero=>simp at e;subst e;exact .inr ⟨l,rfl,j,o⟩
      |succ i=>exact h i v (by simpa using e)
     ·simp at d;rcases d with rfl|d
      ·simp
      ·exact AG _ (D m (by simpa using d))
     ·rw[EM,Wk];simp only[id];rw[EM,E b]
 obtain⟨os,J,K,L,M⟩:=H;obtain⟨out,d,_⟩:=AEr (os.filterMap id);have N:out=Ag ls:=by
  have F:=d.ok λl t=>u.sorted l (L l t)
  exact F.1.ext (Dz ls) λb=>by rw[F.2 b,M b,Kn b u]
 subst N;refine y _ g ((ARG (S:=λc=>c<a.size/\ ¬k c) B (v.ext r) (by omega) J (λi v e=>?_) d (λc f=>by omega)).aj ?_ (λc f=>f.1) (λc _=>rfl)) r C
 ·rcases K i v e with j|⟨l,j,o,O⟩
  ·exact .inl j
  ·exact .inr ⟨l,j,o.aj (λc f=>f) (λc f=>by omega) (λc f=>r.get c f.1 (λa=>a)),O⟩
 ·rintro c (f|⟨g,h⟩)
  ·exact⟨by omega,f.2⟩
  ·refine⟨g,?_⟩;rcases h with rfl|h
   ·intro a;have:=hX _ a;omega
   ·exact(z c h).2
theorem QD(a:A2Q)(b c:List (List Pr)):Au a (b++c)=(Au a b).or (Au a c):=by unfold Au;rw[List.findSome?_append]
theorem LM(a:A2Q)(l m:List Pr):Af a (l++m)=(Af a l).or (Af a m):=by unfold Af;rw[List.find?_append]
structure DX where
 ah:Nat
 pr:Pr
 ht:Nat
def cS(nx:Nat->Q2):List J0:=(List.range 12).map λi=>J5 (nx i)
def FM(p:Pr)(nx:Nat->Q2):Array J0:=(([J7 p.key,J7 p.val,J3 p.gone]:List J0)++cS nx).toArray
def Dk(nx:Nat->Q2)(a b:Int):Array J0:=(([J7 ⟨#[]⟩,J7 ⟨#[]⟩,J3 false]:List J0)++cS nx++([J6 J9 a,J6 J9 b]:List J0)).toArray
theorem Ba(nx:Nat->Q2):(cS nx).length=12:=by simp[cS]
theorem Tc {nx:Nat->Q2}{i:Nat}(a:i<12):(cS nx)[i]? =some (J5 (nx i)):=by simp[cS,a]
theorem qB {nx:Nat->Q2}{i:Nat}(v:Q2):(cS nx).set i (J5 v)=cS (λa=>if a=i then v else nx a):=by
 refine List.ext_getElem? λa=>?_
 by_cases b:a<12
 ·rw[MY,Tc b,Tc b,Ba];by_cases c:i=a
  ·subst c;simp[b]
  ·simp[c,Ne.symm c]
 ·rw[Mn (by simp[Ba];omega),Mn (by simp[Ba];omega)]
theorem AN6 {p:Pr}{nx:Nat->Q2}{i:Nat}(a:i<12):(FM p nx)[3+i]? =some (J5 (nx i)):=by simp only[FM,N2];rw[Fc (by simp)];simpa using Tc a
theorem AOb {nx:Nat->Q2}{a b:Int}{i:Nat}(c:i<12):(Dk nx a b)[3+i]? =some (J5 (nx i)):=by simp only[Dk,N2];rw[A3,Fc (by simp),GC (by simp[Ba];omega)];simpa using Tc c
theorem lW {nx:Nat->Q2}{a b:Int}:(Dk nx a b)[15]? =some (J6 J9 a)/\(Dk nx a b)[16]? =some (J6 J9 b):=by
 simp only[Dk,N2];constructor
 ·rw[Fc (by simp[Ba])];simp[Ba]
 ·rw[Fc (by simp[Ba])];simp[Ba]
theorem Qz {p:Pr}{nx:Nat->Q2}:(FM p nx).size=15:=by simp[FM,Ba]
theorem cV {nx:Nat->Q2}{a b:Int}:(Dk nx a b).size=17:=by simp[Dk,Ba]
theorem vF {p:Pr}{nx:Nat->Q2}{i:Nat}(v:Q2):(FM p nx).setIfInBounds (3+i) (J5 v)=FM p (λa=>if a=i then v else nx a):=by apply Array.toList_inj.1;rw[DS];simp only[FM,N3];rw[HN _ _ (by simp),<-qB v];simp
theorem AO7 {nx:Nat->Q2}{a b:Int}{i:Nat}(d:i<12)(v:Q2):(Dk nx a b).setIfInBounds (3+i) (J5 v)=Dk (λc=>if c=i then v else nx c) a b:=by apply Array.toList_inj.1;rw[DS];simp only[Dk,N3];rw[A3,HN _ _ (by simp),ZS _ _ (by simp[Ba];omega),<-qB v];simp
theorem AMe {nx:Nat->Q2}{c a b:Int}:(Dk nx c a).setIfInBounds 15 (J6 J9 b)=Dk nx b a:=by apply Array.toList_inj.1;rw[DS];simp only[Dk,N3];rw[HN _ _ (by simp[Ba])];simp[Ba]
theorem vG {nx:Nat->Q2}{a c b:Int}:(Dk nx a c).setIfInBounds 16 (J6 J9 b)=Dk nx a b:=by apply Array.toList_inj.1;rw[DS];simp only[Dk,N3];rw[HN _ _ (by simp[Ba])];simp[Ba]
theorem Co {a:aa}{b i:Nat}{l:Nat->Q2}{T:Q7}{fr:Nat×Nat}(c:a[b]? =some (J2 (cS l).toArray T fr))(d:i<12):ag a ⟨b,i,none⟩=some (J5 (l i)):=by rw[Hr c,N2];exact Tc d
def addrAt(t:Nat)(ns:List DX)(p:Nat):Q6:=match p with|0=>⟨t,0,none⟩|p+1=>match ns[p]? with|some x=>⟨x.ah,0,none⟩|none=>⟨t,0,none⟩
def Sw(ns:List DX)(p:Nat):Nat:=match p with|0=>12|p+1=>match ns[p]? with|some x=>x.ht|none=>0
def DL(i:Nat)(l:List DX):Q2:=(l.find? λx=>decide (i<x.ht)).map λx=>⟨x.ah,0,none⟩
def cR(t:Nat)(ns:List DX)(b:Nat):Prop:=b=t\/ ∃x∈ns,x.ah=b
structure Lay (h:aa) (t:Nat) (ns:List DX) (nx:Nat->Nat->Q2) (n sz:Int):Prop where
 head:h[t]? =some (J2 (Dk (nx 0) n sz) vP (0,0))
 node: ∀(j:Nat) (x:DX),ns[j]? =some x->h[x.ah]? =some (J2 (FM x.pr (nx (j+1))) RG (0,0))/\x.ah≠t
 apart:ns.Pairwise λx y=>x.ah≠y.ah
structure kS (ns:List DX) (nx:Nat->Nat->Q2):Prop where
 link: ∀p i,p<=ns.length->i<12->i<Sw ns p->nx p i=DL i (ns.drop p)
 ht: ∀x∈ns,1<=x.ht/\x.ht<=12
theorem Lay.mod {c d:aa}{t:Nat}{ns:List DX}{nx:Nat->Nat->Q2}{e f:Int}{g:Nat->Prop}(l:Lay c t ns nx e f)(m:Mod g c d)(h: ∀b,cR t ns b-> ¬g b):Lay d t ns nx e f:=
 ⟨m.ah l.head (h _ (.inl rfl)),λi x a=>⟨m.ah (l.node i x a).1 (h _ (.inr ⟨x,AM a,rfl⟩)),(l.node i x a).2⟩,l.apart⟩
theorem Lay.ext {a b:aa}{t:Nat}{ns:List DX}{nx:Nat->Nat->Q2}{c d:Int}(l:Lay a t ns nx c d)(m:Ext a b):Lay b t ns nx c d:=l.mod m λ_ _ a=>a
theorem Lay.lt {a:aa}{t:Nat}{ns:List DX}{nx:Nat->Nat->Q2}{c d:Int}(l:Lay a t ns nx c d){b:Nat}(e:cR t ns b):b<a.size:=by
 rcases e with rfl|⟨x,f,rfl⟩
 ·exact Ah l.head
 ·obtain⟨g,h,i⟩:=DA f;exact Ah (l.node g x (by rw[A2 h,i])).1
theorem Lay.next {a:aa}{t:Nat}{ns:List DX}{nx:Nat->Nat->Q2}{d e:Int}(l:Lay a t ns nx d e){p i:Nat}(g:p<=ns.length)(b:i<12):ag a (((addrAt t ns p).add 3).add (i*1))=some (J5 (nx p i)):=by
 rw[add_add,Bs];cases p with
 |zero=>show ag a ((⟨t,0,none⟩:Q6).add (3+i))=_;exact AB l.head (AOb b)
 |succ p=>
  have c:=A2 (l:=ns) (i:=p) (by omega);have f:addrAt t ns (p+1)=⟨ns[p].ah,0,none⟩:=by simp[addrAt,c]
  rw[f];exact AB (l.node p _ c).1 (AN6 b)
theorem Lay.pair {a:aa}{t:Nat}{ns:List DX}{nx:Nat->Nat->Q2}{d e:Int}(l:Lay a t ns nx d e){c:Nat}{x:DX}(f:ns[c]? =some x):
  ag a ⟨x.ah,0,none⟩=some (J7 x.pr.key)/\ag a ((⟨x.ah,0,none⟩:Q6).add 1)=some (J7 x.pr.val)/\ag a ((⟨x.ah,0,none⟩:Q6).add 2)=some (J3 x.pr.gone):=by
 have b:=(l.node c x f).1;exact⟨AO b rfl,AB b rfl,AB b rfl⟩
theorem AGv {i:Nat}{l:List DX}{a:Q6}(b:DL i l=some a): ∃e x,l[e]? =some x/\a=⟨x.ah,0,none⟩/\i<x.ht/\ ∀(c:Nat) (d:DX),c<e->l[c]? =some d->d.ht<=i:=by
 induction l with
 |nil=>simp[DL] at b
 |cons x l h=>
  unfold DL at b;rw[E0] at b;by_cases f:i<x.ht
  ·simp[f] at b;exact⟨0,x,rfl,b.symm,f,λc d j=>by omega⟩
  ·simp[f] at b;obtain⟨e,d,k,m,n,o⟩:=h (by simpa [DL] using b);refine⟨e+1,d,by simpa using k,m,n,λc z j g=>?_⟩;cases c with
   |zero=>simp at g;subst g;omega
   |succ c=>exact o c z (by omega) (by simpa using g)
theorem Xl {i:Nat}{l:List DX}(a:DL i l=none): ∀x∈l,x.ht<=i:=by intro x b;simp[DL] at a;exact a x b
theorem AGL {i:Nat}{l:List DX}{k:Nat}(c:k<=l.length)(d: ∀(a:Nat) (b:DX),a<k->l[a]? =some b->b.ht<=i):DL i l=DL i (l.drop k):=by
 induction k generalizing l with
 |zero=>simp
 |succ k e=>
  cases l with
  |nil=>simp at c
  |cons x l=>
   have f:=d 0 x (by omega) rfl;rw[HW,<-e (by simpa using c) λa b h g=>d (a+1) b (by omega) (by simpa using g)];unfold DL;rw[E0];simp[Nat.not_lt.2 f]
abbrev bX(ns:List DX):List Pr:=ns.map (·.pr)
theorem p5 {key:A2Q}: ∀ {l:List Pr},Sorted l-> ∀ {j:Nat} {x:Pr},l[j]? =some x->(j<aP key l↔aM x.key key=true)
 | [],_,j,x,a=>by simp at a
 |y::l,s,j,x,a=>by
  have d:=List.pairwise_cons.1 s;by_cases b:aM y.key key=true
  ·have c:aP key (y::l)=aP key l+1:=by simp[aP,gB,b]
   rw[c];cases j with
   |zero=>simp at a;subst a;simp[b]
   |succ j=>
    have:=p5 (key:=key) d.2 (j:=j) (x:=x) (by simpa using a);rw[<- this];omega
  ·have c:aP key (y::l)=0:=by simp[aP,gB,b]
   rw[c];cases j with
   |zero=>simp at a;subst a;simp[b]
   |succ j=>
    have f:x∈l:=AM (by simpa using a);have g:=d.1 x f;constructor
    ·intro e;omega
    ·intro e;exact absurd (Da g e) b
structure VE (ns:List DX) (key:A2Q) (i p:Nat):Prop where
 le:p<=aP key (bX ns)
 ht:i<Sw ns p
 last: ∀(j:Nat) (y:DX),p<=j->j<aP key (bX ns)->ns[j]? =some y->y.ht<=i
theorem YG(key:A2Q)(ns:List DX):aP key (bX ns)<=ns.length:=by have:=mV key (bX ns);simpa using this
theorem IB {a:Array J0}(l:Nat->Q2)(c:a=(cS l).toArray)(i:Nat)(v:Q2):a.setIfInBounds i (J5 v)=(cS (λb=>if b=i then v else l b)).toArray:=by subst c;apply Array.toList_inj.1;rw[DS];exact qB v
theorem AMj {a:Nat}(b:a<100):J8 J9 (((a+1:Nat):Int)-(1:Int))=(a:Int):=by rw[show(((a+1:Nat):Int)-1)=(a:Int) by omega];exact Fb (by omega)
set_option maxHeartbeats 400000 in
theorem Zr {ao:aq}{h:aa}{t:Nat}{ns:List DX}{nx:Nat->Nat->Q2}{ap ar:Int}{key:A2Q}{H:A2P}(L:Lay h t ns nx ap ar)(K:kS ns nx)(s:Sorted (bX ns))
  (au: ∀(b:Nat->Nat) I,(∀ i,i<12->VE ns key i (b i))->Ext h I->H (.agg #[J5 (some (addrAt t ns (b 0))),J5 (some (addrAt t ns (b 1))),J5 (some (addrAt t ns (b 2))),J5 (some (addrAt t ns (b 3))),J5 (some (addrAt t ns (b 4))),J5 (some (addrAt t ns (b 5))),J5 (some (addrAt t ns (b 6))),J5 (some (addrAt t ns (b 7))),J5 (some (addrAt t ns (b 8))),J5 (some (addrAt t ns (b 9))),J5 (some (addrAt t ns (b 10))),J5 (some (addrAt t ns (b 11)))]) I):
  AA ao P F5 #[J5 (some ⟨t,0,none⟩),J7 key] h H:=by
 refine VW ?_;unfold Om;refine al.mk λk _ av J a2=>al.mk λo _ aw M a3=>?_
 have ax:Ext h o:=J.trans M;have a4:=YG key ns;refine Loop.rule (λm x q=> ∃(p:Nat) (b:Nat->Nat) (l:Nat->Q2),x=(some (addrAt t ns p),(m:Int)-1,())/\m<=12/\Mod (λc=>c=k.size) o q/\p<=aP key (bX ns)/\(m=0\/m<=Sw ns p)/\
   q[k.size]? =some (J2 (cS l).toArray ED (0,0))/\(∀ i,i<12->m<=i->VE ns key i (b i)/\l i=some (addrAt t ns (b i)))) ?_
  (m:=12) ⟨0,λ_=>0,λ_=>none,rfl,by omega,Mod.refl,by omega,.inr (by simp[Sw]),aw,λi k o=>by omega⟩
 rintro a5 m _ q ⟨p,b,l,rfl,a6,C,w,y,e,d⟩ ay;have N:Ext h q:=ax.then (C.aj λc _ v=> .inr (by have:=J.size;omega));refine af.intro (λv=>?_) (λv=>?_)
 ·cases m with
  |zero=>simp at v
  |succ i=>
   have z:i<12:=by omega
   have az:(((i+1:Nat):Int)-1)=(i:Int):=by omega
   rw[az];have O:=L.ext N;refine Loop.rule (λm x A=> ∃p:Nat,x=(some (addrAt t ns p),())/\A=q/\m=aP key (bX ns)-p/\p<=aP key (bX ns)/\i<Sw ns p) ?_ ⟨p,rfl,rfl,rfl,w,by rcases y with h|h<;>omega⟩;rintro a7 m _ A ⟨p,rfl,aA,rfl,w,y⟩ aC;subst aA;have D:nx p i=DL i (ns.drop p):=K.link p i (by omega) z y;have ag:=O.next (p:=p) (i:=i) (by omega) z;refine ai.mk λaD Q=>?_
   have B:(0:Int)<=(i:Int)/\(i:Int)<(12:Int):=⟨by omega,by omega⟩;have R:(∀ (j:Nat) (r:DX),p<=j->j<aP key (bX ns)->ns[j]? =some r->r.ht<=i)->aD (false,()) A:=λaE=>Q _ _ (af.no rfl (by
    refine⟨B,?_⟩;show ae A ((⟨k.size,0,none⟩:Q6).add (i*1)) _ _;rw[Bh,AI,Bs];refine ae.mk e (by simp[Ba];omega) λa8 S E a9=>?_
    rw[IB l rfl] at S;have aF:VE ns key i p:=⟨w,y,aE⟩;refine ay i _ _ (by omega) ⟨p,λf=>if f=i then p else b f,_,?_,by omega,C.trans E,w,.inr (by omega),S,λf n ba=>?_⟩
    ·cases i with
     |zero=>rfl
     |succ i=>rw[AMj (by omega),show(((i+1:Nat):Int)-1)=(i:Int) by omega]
    ·by_cases T:f=i
     ·subst T;simp[aF]
     ·simp[T];exact d f n (by omega)))
   refine⟨B,?_⟩;rw[A6];refine AY.mk ag ?_;cases u:nx p i with
   |none=>
    refine af.no rfl ?_;refine R λj r aG aH F=>?_
    rw[D] at u;refine Xl u r ?_;rw[List.mem_drop_iff_getElem];have:=List.getElem?_eq_some_iff.1 F;exact⟨j-p,by omega,by rw[<- this.2];congr 1;omega⟩
   |some a=>
    refine af.yes rfl ?_;refine⟨B,AY.mk (u▸ag) ?_⟩;rw[D] at u;obtain⟨f,x,n,rfl,aI,aJ⟩:=AGv u;rw[C5] at n;refine AJ.mk (O.pair n).1 ?_;have aK:(bX ns)[p+f]? =some x.pr:=by simp[bX,n]
    have U:=p5 (key:=key) s aK;cases G:aM x.pr.key key
    ·refine R λj r aG aH F=>?_
     have bb:j<p+f:=by
      rcases FA j (p+f) with k|k
      ·exact k
      ·have o:p+f<aP key (bX ns):=by omega
       rw[U.1 o] at G;cases G
     exact aJ (j-p) r (by omega) (by rw[C5];rw[<- F];congr 1;omega)
    ·have o:=U.2 G;refine Q _ _ (af.yes rfl ?_);refine⟨B,AY.mk (u▸D▸ag) ?_⟩;have aL:addrAt t ns (p+f+1)=⟨x.ah,0,none⟩:=by simp[addrAt,n]
     refine aC (aP key (bX ns)-(p+f+1)) _ _ (by omega) ⟨p+f+1,by rw[aL],rfl,rfl,by omega,by simp[Sw,n,aI]⟩
 ·have aN:m=0:=by simp at v;omega
  subst aN;have aO:q[h.size]? =some (J2 (cS (λ_=>none)).toArray ED (0,0)):=C.ah (M.ah av (by simp)) (by omega);simp only[Bh,AI];refine AY.mk (Co e (i:=0) (by omega)) ?_;refine AY.mk (Co e (i:=1) (by omega)) ?_;refine AY.mk (Co e (i:=2) (by omega)) ?_;refine AY.mk (Co e (i:=3) (by omega)) ?_;refine AY.mk (Co e (i:=4) (by omega)) ?_;refine AY.mk (Co e (i:=5) (by omega)) ?_;refine AY.mk (Co e (i:=6) (by omega)) ?_;refine AY.mk (Co e (i:=7) (by omega)) ?_;refine AY.mk (Co e (i:=8) (by omega)) ?_;refine AY.mk (Co e (i:=9) (by omega)) ?_;refine AY.mk (Co e (i:=10) (by omega)) ?_;refine AY.mk (Co e (i:=11) (by omega)) ?_;refine ae.mk aO (by simp[Ba]) λbc V aQ bd=>?_
  rw[IB _ rfl] at V;refine ae.mk V (by simp[Ba]) λbe W aR bf=>?_
  rw[IB _ rfl] at W;refine ae.mk W (by simp[Ba]) λbg X aS bh=>?_
  rw[IB _ rfl] at X;refine ae.mk X (by simp[Ba]) λbi Y aT bj=>?_
  rw[IB _ rfl] at Y;refine ae.mk Y (by simp[Ba]) λbk Z aU bm=>?_
  rw[IB _ rfl] at Z;refine ae.mk Z (by simp[Ba]) λbn ab aV bo=>?_
  rw[IB _ rfl] at ab;refine ae.mk ab (by simp[Ba]) λbp ac E bq=>?_
  rw[IB _ rfl] at ac;refine ae.mk ac (by simp[Ba]) λbr ad aW bs=>?_
  rw[IB _ rfl] at ad;refine ae.mk ad (by simp[Ba]) λbt ah aX bu=>?_
  rw[IB _ rfl] at ah;refine ae.mk ah (by simp[Ba]) λbv aj aY bw=>?_
  rw[IB _ rfl] at aj;refine ae.mk aj (by simp[Ba]) λbx ak aZ bz=>?_
  rw[IB _ rfl] at ak;refine ae.mk ak (by simp[Ba]) λam an a0 bA=>?_
  rw[IB _ rfl] at an;have g:am[h.size]? =some (J2 (cS l).toArray ED (0,0)):=by rw[an];congr 3
  refine AY.mk (Co g (i:=0) (by omega)) ?_;refine AY.mk (Co g (i:=1) (by omega)) ?_;refine AY.mk (Co g (i:=2) (by omega)) ?_;refine AY.mk (Co g (i:=3) (by omega)) ?_;refine AY.mk (Co g (i:=4) (by omega)) ?_;refine AY.mk (Co g (i:=5) (by omega)) ?_;refine AY.mk (Co g (i:=6) (by omega)) ?_;refine AY.mk (Co g (i:=7) (by omega)) ?_;refine AY.mk (Co g (i:=8) (by omega)) ?_;refine AY.mk (Co g (i:=9) (by omega)) ?_;refine AY.mk (Co g (i:=10) (by omega)) ?_;refine AY.mk (Co g (i:=11) (by omega)) ?_;have a1:=((((((((((aQ.trans aR).trans aS).trans aT).trans aU).trans aV).trans E).trans aW).trans aX).trans aY).trans aZ).trans a0;have:=au b am (λi z=>(d i z (by omega)).1) (N.then (a1.aj λc _ v=> .inr (by omega)));rw[(d 0 (by omega) (by omega)).2,(d 1 (by omega) (by omega)).2,(d 2 (by omega) (by omega)).2,(d 3 (by omega) (by omega)).2,(d 4 (by omega) (by omega)).2,(d 5 (by omega) (by omega)).2,(d 6 (by omega) (by omega)).2,(d 7 (by omega) (by omega)).2,(d 8 (by omega) (by omega)).2,(d 9 (by omega) (by omega)).2,(d 10 (by omega) (by omega)).2,(d 11 (by omega) (by omega)).2];exact this
theorem AOj {z:Int}(a: -9223372036854775808<=z)(b:z<=9223372036854775807):J8 J9 z=z:=by grind [J8,IntKind.bits,IntKind.signed]
theorem aD {a:Q6}{K:Q6->Prop}(b:K a):At (some a) K:=b
theorem ANG {l:aq}{c:aa}{key:A2Q}{h:A2P}(t:key.size<=64)(n: ∀d:Nat,1<=d->d<=12->h (J6 J9 (d:Int)) c):AA l P Rz #[J7 key] c h:=by
 refine AE1 ?_;unfold XW;refine Loop.rule (λm x e=> ∃(i:Nat) (a:Int),x=(a,(i:Int),())/\e=c/\m=key.size-i/\i<=key.size) ?_ ⟨0,2166136261,rfl,rfl,rfl,by omega⟩;rintro K m _ e ⟨i,a,rfl,f,rfl,u⟩ o;subst f;refine af.intro (λb=>?_) (λb=>?_)
 ·have v:i<key.size:=by simp at b;omega
  refine⟨⟨by grind,by show(i:Int)<_;omega⟩,o (key.size-(i+1)) _ _ (by omega) ⟨i+1,_,by rw[Aa (by omega)],rfl,rfl,by omega⟩⟩
 ·refine Loop.rule (λm x g=> ∃(i:Nat) (a:Int),x=(a,(i:Int),())/\g=e/\m=12-i/\1<=i/\i<=12) ?_ ⟨1,_,rfl,rfl,rfl,by omega,by omega⟩;rintro w m _ g ⟨i,a,rfl,f,rfl,p,q⟩ r;subst f;refine ai.mk λs j=>?_
  have k:s (false,()) g:=j _ _ (af.no rfl (n i p q));refine af.intro (λb=>?_) (λb=>k);have y:i<12:=by simp at b;omega
  cases z:((Gd .u32 a (3:Int))==(0:Int))
  ·exact k
  ·exact j _ _ (af.yes rfl (r (12-(i+1)) _ _ (by omega) ⟨i+1,_,by rw[Aa (by omega)],rfl,rfl,by omega,by omega⟩))
theorem OU(i:Nat)(a b:List DX):DL i (a++b)=(DL i a).or (DL i b):=by grind [DL,decide]
theorem AHr {i:Nat}{l:List DX}(a: ∀x∈l,x.ht<=i):DL i l=none:=by simp_all [DL,Hb]
theorem AKX {i:Nat}{l:List DX}{x:DX}(b:x∈l)(d:i<x.ht): ∃a,DL i l=some a:=by
 cases c:DL i l with
 |some a=>exact⟨a,rfl⟩
 |none=>have:=Xl c x b;omega
theorem SC {ns:List DX}(c: ∀x∈ns,1<=x.ht/\x.ht<=12)(p:Nat):DL 0 (ns.drop p)=(ns[p]?).map λx=>⟨x.ah,0,none⟩:=by
 cases a:ns[p]? with
 |none=>rw[Mz (List.getElem?_eq_none_iff.1 a)];rfl
 |some x=>
  have b:=List.getElem?_eq_some_iff.1 a;rw[DH b.1,b.2];have:=(c x (AM a)).1;unfold DL;rw[E0];simp[Fk Nat.zero_lt_one this]
def ga(nx:Nat->Nat->Q2)(p i:Nat)(v:Q2):Nat->Nat->Q2:=λa b=>if a=p/\b=i then v else nx a b
theorem KH {p:Pr}{f g:Nat->Q2}(a: ∀i,f i=g i):FM p f=FM p g:=by rw[show f=g from funext a]
theorem XO {a b:Int}{f g:Nat->Q2}(c: ∀i,f i=g i):Dk f a b=Dk g a b:=by rw[show f=g from funext c]
theorem Lay.store {e:aa}{t:Nat}{ns:List DX}{nx:Nat->Nat->Q2}{s u:Int}(l:Lay e t ns nx s u){p i:Nat}(C:p<=ns.length)(z:i<12){v:Q2}{K:aa->Prop}
  (w: ∀c,Lay c t ns (ga nx p i v) s u->Mod (cR t ns) e c->c.size=e.size->K c):ae e (((addrAt t ns p).add 3).add (i*1)) (J5 v) K:=by
 rw[add_add,Bs];cases p with
 |zero=>
  show ae e ((⟨t,0,none⟩:Q6).add (3+i)) _ _;rw[Bh,AI];refine ae.mk l.head (by rw[cV];omega) λc d m o=>w c ⟨?_,λj x a=>⟨?_,(l.node j x a).2⟩,l.apart⟩ (m.aj λb _ d=> .inl d) o
  ·rw[d,AO7 z,XO (g:=ga nx 0 i v 0) (λh=>by simp[ga])]
  ·rw[m.get _ (Ah (l.node j x a).1) (l.node j x a).2,(l.node j x a).1,KH (g:=ga nx 0 i v (j+1)) (λh=>by simp[ga])]
 |succ p=>
  have k:=A2 (l:=ns) (i:=p) (by omega);have f:addrAt t ns (p+1)=⟨ns[p].ah,0,none⟩:=by simp[addrAt,k]
  rw[f,Bh,AI];obtain⟨A,B⟩:=l.node p _ k;refine ae.mk A (by rw[Qz];omega) λc d m o=>w c ⟨?_,λj x a=>⟨?_,(l.node j x a).2⟩,l.apart⟩ (m.aj λb _ d=> .inr ⟨_,AM k,d.symm⟩) o
  ·rw[m.get _ (Ah l.head) (λf=>B f.symm),l.head,XO (g:=ga nx (p+1) i v 0) (λh=>by simp[ga])]
  ·by_cases q:j=p
   ·subst q;rw[k] at a;cases a;rw[d,vF,KH (g:=ga nx (j+1) i v (j+1)) (λh=>by simp[ga])]
   ·have hd:x.ah≠ns[p].ah:=by
     have n:=List.getElem?_eq_some_iff.1 a;have y:=List.pairwise_iff_getElem.1 l.apart;rcases N4 q with r|r
     ·have:=y j p n.1 (by omega) r;rw[n.2] at this;exact this
     ·have:=y p j (by omega) n.1 r;rw[n.2] at this;exact λf=>this f.symm
    rw[m.get _ (Ah (l.node j x a).1) hd,(l.node j x a).1,KH (g:=ga nx (p+1) i v (j+1)) (λh=>by simp[ga,q])]
def Eb(l:List Pr):Nat:=(l.map λx=>x.key.size+x.val.size).sum
structure cU (h:aa) (t:Nat) (ns:List DX) (l:List Pr):Prop where
 lay: ∃nx,Lay h t ns nx (l.length:Int) (Eb l:Int)/\kS ns nx
 bX:bX ns=l
 sorted:Sorted l
 aS:BV l
theorem cU.mod {a c:aa}{t:Nat}{ns:List DX}{l:List Pr}{d:Nat->Prop}(T:cU a t ns l)(m:Mod d a c)(e: ∀b,cR t ns b-> ¬d b):cU c t ns l:=by obtain⟨nx,L,K⟩:=T.lay;exact⟨⟨nx,L.mod m e,K⟩,T.bX,T.sorted,T.aS⟩
theorem cU.ext {a b:aa}{t:Nat}{ns:List DX}{l:List Pr}(T:cU a t ns l)(m:Ext a b):cU b t ns l:=T.mod m λ_ _ a=>a
theorem cU.lt {a:aa}{t:Nat}{ns:List DX}{l:List Pr}(T:cU a t ns l){b:Nat}(c:cR t ns b):b<a.size:=by obtain⟨nx,L,_⟩:=T.lay;exact L.lt c
theorem sw {d:aq}{a:aa}{c:A2P}(e: ∀b,cU b a.size [] []->Ext a b->b.size=a.size+1->c (J5 (some ⟨a.size,0,none⟩)) b):AA d P QM #[] a c:=by
 refine AK6 ?_;unfold uZ;refine al.mk λf _ g h j=>e f ⟨⟨λ_ _=>none,⟨g,λl x a=>by simp at a,List.Pairwise.nil⟩,⟨λp i k m _=>?_,λx a=>by cases a⟩⟩,rfl,List.Pairwise.nil,λx a=>by cases a⟩ h j
 have:p=0:=by simpa using k
 subst this;rfl
theorem Nr(l m:List Pr):Eb (l++m)=Eb l+Eb m:=by simp[Eb,List.sum_append]
theorem Rl(x:Pr)(l:List Pr):Eb (x::l)=x.key.size+x.val.size+Eb l:=by simp[Eb]
theorem AKy {l:List Pr}(g:BV l):Eb l<=l.length*8256:=by
 induction l with
 |nil=>simp[Eb]
 |cons x l a=>
  have d:=a λb c=>g b (by simp[c])
  have e:=g x (by simp);have f:x.key.size<=64/\x.val.size<=8192:=by grind [Ai]
  rw[Rl,A5,BT];omega
theorem vH {x:Pr}(a:Ai x=0):x.key.size<=64/\x.val.size<=8192:=by grind [Ai]
theorem AMn {p a:Pr}{nx:Nat->Q2}:(((FM p nx).setIfInBounds 0 (J7 a.key)).setIfInBounds 1 (J7 a.val)).setIfInBounds 2 (J3 a.gone)=FM a nx:=by apply Array.toList_inj.1;rw[DS,DS,DS];rfl
theorem gT.zero {ns:List DX}{key:A2Q}{p:Nat}(d: ∀x∈ns,1<=x.ht/\x.ht<=12)(b:VE ns key 0 p):p=aP key (bX ns):=by
 rcases FA p (aP key (bX ns)) with a|a
 ·have e:=YG key ns;have c:=A2 (l:=ns) (i:=p) (by omega);have f:=b.last p _ (A0 _) a c;have g:=d _ (AM c);omega
 ·have:=b.le;omega
def gb(nx:Nat->Nat->Q2)(c:Nat->Nat)(b:Q6)(i:Nat):Nat->Nat->Q2:=λp a=>if a<i/\p=c a then some b else nx p a
def ka(nx:Nat->Nat->Q2)(b:Nat->Nat)(i:Nat):Nat->Q2:=λa=>if a<i then nx (b a) a else none
def gU(nx:Nat->Nat->Q2)(c:Nat->Nat)(b:Q6)(d a:Nat):Nat->Nat->Q2:=λp i=>if p<=a then gb nx c b d p i else if p=a+1 then ka nx c d i else gb nx c b d (p-1) i
theorem vI {c:Type}{ns:List c}{x:c}{a b:Nat}(d:a<=ns.length):(ns.take a++x::ns.drop a)[b]? =if b<a then ns[b]? else if b=a then some x else ns[b-1]? :=by grind
theorem AOa {b:Type}{ns:List b}{x:b}{a p:Nat}(c:a<=ns.length)(d:p<=a):(ns.take a++x::ns.drop a).drop p=(ns.take a).drop p++x::ns.drop a:=by grind
theorem AMo {b:Type}{ns:List b}{x:b}{a p:Nat}(c:a<=ns.length)(d:a<p):(ns.take a++x::ns.drop a).drop p=ns.drop (p-1):=by rw[R2,Mz (by simp;omega),CT];simp only[AD,Fm c];rw[show p-a=(p-a-1)+1 by omega,HW,HX];congr 1;omega
theorem kS.insert {ns:List DX}{nx:Nat->Nat->Q2}{key:A2Q}(K:kS ns nx){d:Nat->Nat}(s: ∀i,i<12->VE ns key i (d i)){x:DX}(E:1<=x.ht/\x.ht<=12):
  kS (ns.take (aP key (bX ns))++x::ns.drop (aP key (bX ns))) (gU nx d ⟨x.ah,0,none⟩ x.ht (aP key (bX ns))):=by
 have t:=YG key ns;generalize j:aP key (bX ns)=a at*
 refine⟨λp i J g n=>?_,λh b=>?_⟩
 ·unfold gU;split
  ·rename_i w;have o:i<Sw ns p:=by
    cases p with
    |zero=>exact g
    |succ p=>
     unfold Sw at n ⊢
     grind
   have y:=K.link p i (by omega) g o;have z:ns.drop p=(ns.take a).drop p++ns.drop a:=by grind [List.take_append_drop]
   have f:=s i g;rw[AOa t w,OU];unfold gb;by_cases q:i<x.ht
   ·have F:DL i (x::ns.drop a)=some ⟨x.ah,0,none⟩:=by grind [DL]
    rw[F];by_cases u:p=d i
    ·rw[if_pos ⟨q,u⟩,AHr λh b=>?_]
     ·rfl
     ·obtain⟨A,B,L⟩:=DA b;simp at B;have M:(ns.take a).drop p=(ns.take a).drop p:=rfl;refine f.last (p+A) h (by omega) (by rw[j];omega) ?_
      grind
    ·rw[if_neg (λe=>u e.2),y,z,OU];have G:p<d i:=by
      rcases HL p (d i) with e|e|e
      ·exact e
      ·exact absurd e u
      ·exfalso;cases p with
       |zero=>omega
       |succ p=>
        have r:=A2 (l:=ns) (i:=p) (by omega);have N:=f.last p _ (by omega) (by rw[j];omega) r;simp[Sw,r] at o;omega
     have m:=f.le;rw[j] at m;have v:=f.ht;obtain⟨c,H⟩: ∃c,d i=c+1:=⟨d i-1,by omega⟩;rw[H] at v G m;have r:=A2 (l:=ns) (i:=c) (by omega);simp[Sw,r] at v;have I:ns[c]∈(ns.take a).drop p:=by
      refine AM (i:=c-p) ?_
      grind
     obtain⟨h,b⟩:=AKX I v;rw[b];rfl
   ·rw[if_neg (λe=>q e.1),y,z,OU];have:DL i (x::ns.drop a)=DL i (ns.drop a):=by grind [DL]
    rw[this]
  ·rename_i w;rw[AMo t (by omega)];split
   ·rename_i C;subst C;have q:i<x.ht:=by
     unfold Sw at n
     simp_all
    have f:=s i g;have m:=f.le;rw[j] at m;unfold ka;rw[if_pos q,K.link (d i) i (by omega) g f.ht,AGL (k:=a-d i) (by simp;omega) λA h B b=>?_]
    ·rw[HX];congr 2;omega
    ·rw[C5] at b;exact f.last _ h (by omega) (by rw[j];omega) b
   ·rename_i C;obtain⟨c,rfl⟩: ∃c,p=c+1:=⟨p-1,by omega⟩;rw[N5];have O:(ns.take a++x::ns.drop a).length=ns.length+1:=by simp;omega
    have o:i<Sw ns c:=by
     unfold Sw at n;simp only at n;rw[vI t,if_neg (by omega),if_neg (by omega)] at n;obtain⟨D,rfl⟩: ∃D,c=D+1:=⟨c-1,by omega⟩
     simp_all [Sw]
    have m:=(s i g).le;rw[j] at m;unfold gb;rw[if_neg (λe=>by omega)];exact K.link c i (by omega) g o
 ·rw[HT,GB] at b;rcases b with b|rfl|b
  ·exact K.ht h (DM b)
  ·exact E
  ·exact K.ht h (I0 b)
set_option maxHeartbeats 1000000 in
theorem sx {bU:aq}{s:aa}{t:Nat}{ns:List DX}{l:List Pr}{x:Pr}{an:A2P}(T:cU s t ns l)(cK:l.length<1099511627776)
  (ao: ∀ba ap,cU ap t ba (CY x l)->Mod (cR t ns) s ap->(∀ b,cR t ba b->cR t ns b\/s.size<=b)->an (J6 J9 (Ai x)) ap):
  AA bU P Jz #[J5 (some ⟨t,0,none⟩),.agg #[J7 x.key,J7 x.val,J3 x.gone]] s an:=by
 refine ZM ?_;unfold SG;refine al.mk λe _ u ar cL=>?_
 have bb:=T.ext ar;have au:Ai x≠0->an (J6 J9 (Ai x)) e:=λw=>ao ns e (by simpa [CY,w] using bb) ar.mod (λb u=> .inl u)
 refine ai.mk λK av=>?_
 have aw:(decide (x.key=⟨#[]⟩)||(x.gone&& !decide (x.val=⟨#[]⟩)))=true->K (true,()) e:=λj=>av _ _ (af.yes rfl (by
  have w:Ai x=1:=by unfold Ai;rw[if_pos j]
  have:=au (by rw[w];decide);rw[w] at this;exact this))
 have bc:(decide (x.key=⟨#[]⟩)||(x.gone&& !decide (x.val=⟨#[]⟩)))=false->K (false,()) e:=λj=>av _ _ (af.no rfl (by
  refine ai.mk λbd ax=>?_
  have ay:(decide (x.key.size>64)||decide (x.val.size>8192))=true->bd (true,()) e:=λaz=>ax _ _ (af.yes rfl (by
   have w:Ai x=2:=by unfold Ai;rw[if_neg (by simp[j]),if_pos az]
   have:=au (by rw[w];decide);rw[w] at this;exact this))
  have bV:(decide (x.key.size>64)||decide (x.val.size>8192))=false->bd (false,()) e:=λaz=>ax _ _ (af.no rfl (by
   have w:Ai x=0:=by unfold Ai;rw[if_neg (by simp[j]),if_neg (by simp[az])]
   have bW:=vH w;clear aw ax av ay au;obtain⟨nx,aA,D⟩:=bb.lay;have V:CY x l=ins x l:=Qm w;have be:=Pb (x:=x) T.sorted;have bf:=vL (x:=x) T.aS;have L:=T.bX;have bY:Sorted (bX ns):=by rw[L];exact T.sorted
   have cM:ns.length=l.length:=by rw[<- L];simp
   have cN:=AKy T.aS;refine AJ.mk (AO u rfl) ?_;refine Zr aA D bY λk F r W=>⟨_,_,_,_,_,_,_,_,_,_,_,_,rfl,?_⟩
   have aC:=gT.zero D.ht (r 0 (by omega));have bg:=aA.ext W;refine al.mk λbZ _ b0 b1 cO=>?_
   have b2:bZ[F.size]? =some (J2 (cS (λ_=>none)).toArray ED (0,0)):=b0;simp only[Bh,AI];refine ae.mk b2 (by simp[Ba]) λcP aE bh b3=>?_
   rw[IB _ rfl] at aE;refine ae.mk aE (by simp[Ba]) λcQ aF M b4=>?_
   rw[IB _ rfl] at aF;refine ae.mk aF (by simp[Ba]) λcT aG bi b5=>?_
   rw[IB _ rfl] at aG;refine ae.mk aG (by simp[Ba]) λcW aH bj b6=>?_
   rw[IB _ rfl] at aH;refine ae.mk aH (by simp[Ba]) λcX aI bk b7=>?_
   rw[IB _ rfl] at aI;refine ae.mk aI (by simp[Ba]) λcY aJ bm b8=>?_
   rw[IB _ rfl] at aJ;refine ae.mk aJ (by simp[Ba]) λcZ aK bn b9=>?_
   rw[IB _ rfl] at aK;refine ae.mk aK (by simp[Ba]) λc0 aL bo ca=>?_
   rw[IB _ rfl] at aL;refine ae.mk aL (by simp[Ba]) λc1 aM bp cb=>?_
   rw[IB _ rfl] at aM;refine ae.mk aM (by simp[Ba]) λc2 aN bq cc=>?_
   rw[IB _ rfl] at aN;refine ae.mk aN (by simp[Ba]) λc3 aO br cd=>?_
   rw[IB _ rfl] at aO;refine ae.mk aO (by simp[Ba]) λf aQ bs ce=>?_
   rw[IB _ rfl] at aQ;have aR:f[F.size]? =some (J2 (cS (λi=>some (addrAt t ns (k i)))).toArray ED (0,0)):=by rw[aQ];congr 3
   have bt:=((((((((((bh.trans M).trans bi).trans bj).trans bk).trans bm).trans bn).trans bo).trans bp).trans bq).trans br).trans bs;have X:Ext F f:=b1.then (bt.aj λc _ j=> .inr (by omega));have c4:=X.size;have c5:=Ah aR;have c6:=W.size;clear bt aE aF aG aH aI aJ aK aL aM aN aO aQ bh M bi bj bk bm bn bo bp bq br bs b3 b4 b5 b6 b7 b8 b9 ca cb cc cd ce;have y:=bg.ext X;have G:f[s.size]? =some (J2 #[J7 x.key,J7 x.val,J3 x.gone] AR (0,0)):=X.ah (W.ah u (by simp)) (by simp);have cf:=YG x.key ns;have aS:Ext s f:=ar.trans (W.trans X);refine⟨by omega,AY.mk (Co aR (i:=0) (by omega)) ⟨by omega,AY.mk (y.next (p:=k 0) (i:=0) (by rw[aC];omega) (by omega)) ?_⟩⟩;have cg:nx (k 0) 0=(ns[aP x.key (bX ns)]?).map λd=>⟨d.ah,0,none⟩:=by rw[D.link (k 0) 0 (by rw[aC];omega) (by omega) (r 0 (by omega)).ht,aC,SC D.ht]
   rw[cg];have Y:BF x.key l=match ns[aP x.key (bX ns)]? with|some d=>decide (d.pr.key=x.key)|none=>false:=by
    unfold BF
    grind
   generalize aT:aP x.key (bX ns)=a at*
   have Z:aP x.key l=a:=by rw[<- L];exact aT
   have ab:X8 x l=ins x l:=mY x l;refine ai.mk λbu bv=>?_
   have ch: ∀d,ns[a]? =some d->d.pr.key=x.key->bu (true,()) f:=λd n E=>bv _ _ (af.yes rfl (by
    have H:=List.getElem?_eq_some_iff.1 n;have ci:a<ns.length:=H.1;rw[n];have cj:=y.pair n;have c7:d.pr.key.size=x.key.size:=by rw[E]
    refine AC.mk (AB y.head lW.2) (AJ.mk (AO G rfl) (AJ.mk cj.2.1 ?_));have ck: ∃aU:Nat,Eb l=d.pr.key.size+d.pr.val.size+aU/\Eb (CY x l)=x.key.size+x.val.size+aU:=by
     have aV:l=l.take a++d.pr::l.drop (a+1):=by
      have aW:l[a]? =some d.pr:=by rw[<- L];simp[n]
      have e:=List.getElem?_eq_some_iff.1 aW;rw[<- e.2,<-DH e.1,CN]
     have Q:CY x l=l.take a++x::l.drop (a+1):=by rw[V,<-ab];unfold X8;rw[Y,n,Z,if_pos (by simp[E])];simp
     refine⟨Eb (l.take a)+Eb (l.drop (a+1)),?_,?_⟩
     ·conv=>lhs;rw[aV]
      rw[Nr,Rl];omega
     ·rw[Q,Nr,Rl];omega
    obtain⟨aU,c8,c9⟩:=ck;have aX:J8 J9 ((Eb l:Int)+J8 J9 ((x.val.size:Int)-(d.pr.val.size:Int)))=(Eb (CY x l):Int):=by
     have da:d.pr.val.size<=8192:=(vH (T.aS d.pr (by grind))).2;have aV:J8 J9 ((x.val.size:Int)-(d.pr.val.size:Int))=(x.val.size:Int)-(d.pr.val.size:Int):=by exact AOj (by omega) (by omega)
     rw[aV,show(Eb l:Int)+((x.val.size:Int)-(d.pr.val.size:Int))=((Eb (CY x l):Nat):Int) by omega];exact Fb (by omega)
    rw[aX];refine aD ?_;rw[Bh,AI];refine ae.mk y.head (by rw[cV];omega) λbw bx ac db=>?_
    rw[vG] at bx;have aY:=y.node a d n;have aZ:bw[s.size]? =some (J2 #[J7 x.key,J7 x.val,J3 x.gone] AR (0,0)):=ac.ah G (by have:=aA.lt (.inl rfl:cR t ns t);have:=T.lt (.inl rfl:cR t ns t);omega);refine AJ.mk (AO aZ rfl) (AJ.mk (AO aZ rfl) (Ac.mk (AO aZ rfl) ?_));have cl:=ac.ah aY.1 aY.2;refine aD ?_;refine ae.mk cl (by rw[Qz];omega) λdc cm cn dd=>?_
    rw[Bh,Bh];refine ae.mk cm (by rw[Rg,Qz];omega) λde co cp df=>?_
    refine ae.mk co (by rw[Rg,Rg,Qz];omega) λa0 bz cq dg=>?_
    simp only[AI] at bz;rw[AMn] at bz;have a1:Mod (λc=>c=d.ah) bw a0:=(cn.trans cp).trans cq;have a2:cR t ns t:= .inl rfl;have bA:cR t ns d.ah:= .inr ⟨d,AM n,rfl⟩;rw[<- w];refine ao (ns.set a {d with pr:=x}) a0 ⟨⟨nx,⟨?_,λq z h=>?_,?_⟩,⟨λp i ad ag bB=>?_,λz h=>?_⟩⟩,?_,be,bf⟩ ?_ λb u=>?_
    ·have a3:(CY x l).length=l.length:=by rw[V,<-ab];unfold X8;rw[Y,n,Z,if_pos (by simp[E])];simp;omega
     rw[a3];exact a1.ah bx (λo=>aY.2 o.symm)
    ·rw[MY] at h;split at h
     ·grind
     ·rename_i N;have A:=y.node q z h;refine⟨?_,A.2⟩;refine a1.ah (ac.ah A.1 A.2) ?_;have e:=List.getElem?_eq_some_iff.1 h;have bC:=List.pairwise_iff_getElem.1 y.apart;rcases N4 N with a4|a4
      ·have:=bC a q H.1 e.1 a4;rw[e.2,H.2] at this;exact λo=>this o.symm
      ·have:=bC q a e.1 H.1 a4;rw[e.2,H.2] at this;exact this
    ·have o:(ns.set a {d with pr:=x}).map (·.ah)=ns.map (·.ah):=by
      rw[Rr];apply List.ext_getElem?;intro q;rw[MY];split
      ·rename_i N;subst N;simp[H.1,H.2]
      ·rfl
     have e:(ns.map (·.ah)).Pairwise (· ≠ ·):=List.pairwise_map.2 y.apart;rw[<- o] at e;exact List.pairwise_map.1 e
    ·rw[RC] at ad;have cr:Sw (ns.set a {d with pr:=x}) p=Sw ns p:=by
      cases p with
      |zero=>rfl
      |succ p=>
       unfold Sw;simp only;rw[MY];by_cases N:a=p
       ·subst N;rw[if_pos rfl,if_pos ci,n]
       ·rw[if_neg N]
     rw[cr] at bB;rw[D.link p i ad ag bB];have key: ∀m:List DX,∀a,m[a]? =some d->DL i (m.set a {d with pr:=x})=DL i m:=by
      intro m
      induction m with
      |nil=>intro a s;simp at s
      |cons z m cs=>
       intro a s;cases a with
       |zero=>simp at s;subst s;by_cases hd:i<z.ht<;>simp[DL,hd]
       |succ a=>
        have:=cs a (by simpa using s);unfold DL at this ⊢;rw[List.set_cons_succ,E0,E0];split
        ·rfl
        ·exact this
     rcases FA a p with e|e
     ·rw[List.drop_set_of_lt e]
     ·rw[List.drop_set];rw[if_neg (by omega)];exact(key _ _ (by rw[C5];rw[<- n];congr 1;omega)).symm
    ·obtain⟨q,I,o⟩:=DA h;rw[List.getElem_set] at o;split at o
     ·subst o;exact D.ht d (AM n)
     ·subst o;exact D.ht _ (Bm _)
    ·rw[V,<-ab];unfold X8;rw[Y,n,Z,if_pos (by simp[E])];show(ns.set a {d with pr:=x}).map (·.pr)=_;rw[Rr,A04];have:(ns.map (·.pr))=l:=L;rw[this];have aW:a<l.length:=by omega
     simp[aW]
    ·have M:Mod (cR t ns) f a0:=(ac.aj λc _ j=>by subst j;exact a2).trans (a1.aj λc _ j=>by subst j;exact bA);exact aS.mod.trans M
    ·rcases u with rfl|⟨z,h,rfl⟩
     ·exact .inl (.inl rfl)
     ·obtain⟨q,I,o⟩:=DA h;rw[List.getElem_set] at o;split at o
      ·subst o;exact .inl bA
      ·subst o;exact .inl (.inr ⟨_,Bm _,rfl⟩)))
   have bD:BF x.key l=false->bu (false,()) f:=λa2=>bv _ _ (af.no rfl (by
    refine AJ.mk (AO G rfl) (AJ.mk (AO G rfl) (Ac.mk (AO G rfl) ?_));refine al.mk λbE _ ct ah dh=>?_
    have bF:=ah.ah G (by simp);refine AJ.mk (AO bF rfl) ?_;refine ANG bW.1 λB cu cv=>⟨_,rfl,?_⟩
    have cw:bE[f.size]? =some (J2 (FM x (λ_=>none)) RG (0,0)):=ct;have cx:=y.ext ah;have bG: ∀i,i<12->k i<=ns.length:=λi ag=>by have:=(r i ag).le;rw[aT] at this;omega
    have cy:=ah.ah aR (by simp);have a5: ∀c,cR t ns c->c<f.size:=λc j=>y.lt j
    have cz: ∀c,cR t ns c->c<F.size:=λc j=>bg.lt j
    refine Loop.rule (λm d C=> ∃i:Nat,d=((i:Int),())/\m=B-i/\i<=B/\Mod (λc=>cR t ns c\/c=f.size) bE C/\Lay C t ns (gb nx k ⟨f.size,0,none⟩ i) (l.length:Int) (Eb l:Int)/\C[f.size]? =some (J2 (FM x (ka nx k i)) RG (0,0))) ?_
     ⟨0,rfl,rfl,by omega,Mod.refl,?_,?_⟩
    rotate_left
    ·have:gb nx k ⟨f.size,0,none⟩ 0=nx:=by funext p B;simp[gb]
     rw[this];exact cx
    ·have:ka nx k 0=λ_=>none:=by funext B;simp[ka]
     rw[this];exact cw
    rintro cB m _ C ⟨i,rfl,rfl,ag,R,J,bH⟩ cC;have di:=R.size;have bI:C[F.size]? =some (J2 (cS (λi=>some (addrAt t ns (k i)))).toArray ED (0,0)):=R.ah cy (λa6=>a6.elim (λe=>by have:=cz _ e;omega) (λe=>by omega));refine af.intro (λj=>?_) (λj=>?_)
    ·have bJ:i<B:=by simpa using j
     have O:i<12:=by omega
     have S:(0:Int)<=(i:Int)/\(i:Int)<(12:Int):=⟨by omega,by omega⟩;refine⟨S,?_⟩;show AY C ⟨F.size,i*1,none⟩ _;rw[Bs];refine AY.mk (Co bI O) ⟨S,?_⟩;show AY C (((addrAt t ns (k i)).add 3).add (i*1)) _;refine AY.mk (J.next (p:=k i) (i:=i) (bG i O) O) ⟨S,?_⟩;have cD:gb nx k ⟨f.size,0,none⟩ i (k i) i=nx (k i) i:=by simp[gb]
     show ae C ⟨f.size,3+i*1,none⟩ (J5 (gb nx k ⟨f.size,0,none⟩ i (k i) i)) _;rw[cD,Bs];refine ae.mk bH (by rw[Qz];omega) λbK bL a7 dj=>?_
     rw[vF] at bL;have cE:=J.mod a7 (λc j o=>by have:=a5 c j;omega);refine⟨S,?_⟩;show AY bK ⟨F.size,i*1,none⟩ _;rw[Bs];refine AY.mk (Co (a7.ah bI (by omega)) O) ⟨S,?_⟩;show ae bK (((addrAt t ns (k i)).add 3).add (i*1)) (J5 (some ⟨f.size,0,none⟩)) (λbM=>cB (J8 J9 ((i:Int)+(1:Int)),()) bM);refine cE.store (p:=k i) (i:=i) (bG i O) O (v:=some ⟨f.size,0,none⟩) (λbM bN bO dk=>?_)
     ·refine cC (B-(i+1)) _ _ (by omega) ⟨i+1,by rw[Aa (by omega)],rfl,by omega,(R.trans (a7.aj λc _ j=> .inr j)).trans (bO.aj λc _ j=> .inl j),?_,?_⟩
      ·have:ga (gb nx k ⟨f.size,0,none⟩ i) (k i) i (some ⟨f.size,0,none⟩)=gb nx k ⟨f.size,0,none⟩ (i+1):=by
        funext p q;unfold ga gb;by_cases I:q=i
        ·subst I
         grind
        ·by_cases ad:p=k q<;>simp[ad,I,Nat.lt_succ_iff,Nat.le_iff_lt_or_eq]
       rw[this] at bN;exact bN
      ·rw[bO.ah bL (λj=>by have:=a5 _ j;omega),KH (g:=ka nx k (i+1)) (λq=>?_)];unfold ka;by_cases I:q=i
       ·subst I;simp
       ·simp[I,Nat.lt_succ_iff,Nat.le_iff_lt_or_eq]
    ·have bJ:i=B:=by simp at j;omega
     subst bJ;refine AC.mk (AB J.head lW.1) ?_;refine aD ?_;rw[Bh,AI];refine ae.mk J.head (by rw[cV];omega) λdl a8 bP dm=>?_
     rw[AMe] at a8;have bQ:cR t ns t:= .inl rfl;have dn:=T.lt bQ;have cF:C[s.size]? =some (J2 #[J7 x.key,J7 x.val,J3 x.gone] AR (0,0)):=R.ah bF (λa6=>a6.elim (λe=>by have:=T.lt e;omega) (λe=>by omega));have bR:=bP.ah cF (by omega);refine aD ?_;rw[Bh,AI];refine AC.mk (AO a8 lW.2) (AJ.mk (AO bR rfl) (AJ.mk (AO bR rfl) (aD ?_)));rw[Bh,AI];refine ae.mk a8 (by rw[cV];omega) λaj a9 cG dp=>?_
     rw[vG] at a9;have Q:CY x l=l.take a++x::l.drop a:=by rw[V,<-ab];unfold X8;rw[a2,Z];simp
     have dq:Eb (CY x l)=Eb l+(x.key.size+x.val.size):=by
      rw[Q,Nr,Rl];have:Eb l=Eb (l.take a)+Eb (l.drop a):=by rw[<- Nr,CN]
      omega
     have a3:(CY x l).length=l.length+1:=by rw[Q];simp;omega
     have aX:J8 J9 ((l.length:Int)+(1:Int))=((CY x l).length:Int):=by rw[a3];exact Aa (by omega)
     have cH:J8 J9 ((Eb l:Int)+J8 J9 ((x.key.size:Int)+(x.val.size:Int)))=(Eb (CY x l):Int):=by rw[show((x.key.size:Int)+(x.val.size:Int))=((x.key.size+x.val.size:Nat):Int) by omega,Fb (by omega),show(Eb l:Int)+((x.key.size+x.val.size:Nat):Int)=((Eb (CY x l):Nat):Int) by omega];exact Fb (by omega)
     rw[aX,cH] at a9;have mt:Mod (λc=>c=t) C aj:=bP.trans cG;have cI:=mt.ah bH (by omega);rw[<- w];refine ao (ns.take a++⟨f.size,x,i⟩::ns.drop a) aj ⟨⟨gU nx k ⟨f.size,0,none⟩ i a,⟨?_,λq z h=>?_,?_⟩,?_⟩,?_,be,bf⟩ ?_ λb u=>?_
     ·rw[a9,XO (g:=gU nx k ⟨f.size,0,none⟩ i a 0) (λB=>?_)];simp[gU]
     ·rw[vI cf] at h;split at h
      ·rename_i cJ;have A:=J.node q z h;refine⟨?_,A.2⟩;rw[mt.ah A.1 A.2,KH (g:=gU nx k ⟨f.size,0,none⟩ i a (q+1)) (λB=>?_)];unfold gU;rw[if_pos (by omega)]
      ·rename_i cJ;split at h
       ·rename_i bS;subst bS;cases h;refine⟨?_,by grind⟩;show aj[f.size]? =_;rw[cI,KH (g:=gU nx k ⟨f.size,0,none⟩ i q (q+1)) (λB=>?_)];unfold gU
        grind
       ·rename_i bS;obtain⟨ak,rfl⟩: ∃ak,q=ak+1:=⟨q-1,by omega⟩;rw[N5] at h;have A:=J.node ak z h;refine⟨?_,A.2⟩;rw[mt.ah A.1 A.2,KH (g:=gU nx k ⟨f.size,0,none⟩ i a (ak+1+1)) (λB=>?_)];unfold gU
        grind
     ·have e:=J.apart;have bT: ∀z∈ns,z.ah≠f.size:=λz h o=>by have:=a5 z.ah (.inr ⟨z,h,rfl⟩);omega
      rw[<- CN a ns] at e;rw[List.pairwise_append] at e ⊢;refine⟨e.1,List.pairwise_cons.2 ⟨λz h=>λo=>bT z (I0 h) o.symm,e.2.1⟩,λd n z h=>?_⟩;rcases List.mem_cons.1 h with rfl|h
      ·exact bT d (DM n)
      ·exact e.2.2 d n z h
     ·have:=D.insert (key:=x.key) r (x:=⟨f.size,x,i⟩) ⟨cu,cv⟩;rw[aT] at this;exact this
     ·show(ns.take a++⟨f.size,x,i⟩::ns.drop a).map (·.pr)=_;have:(ns.map (·.pr))=l:=L;rw[Q,<-this];simp[Pc,List.map_drop]
     ·have M:Mod (λc=>cR t ns c\/c=f.size) f aj:=(ah.mod.trans R).trans (mt.aj λc _ j=>by subst j;exact .inl bQ);exact aS.mod.then (M.aj λc _ j=>j.elim .inl λe=> .inr (by have:=aS.size;omega))
     ·rcases u with rfl|⟨z,h,rfl⟩
      ·exact .inl (.inl rfl)
      ·rw[HT,GB] at h;rcases h with h|rfl|h
       ·exact .inl (.inr ⟨z,DM h,rfl⟩)
       ·grind
       ·exact .inl (.inr ⟨z,I0 h,rfl⟩)))
   cases n:ns[a]? with
   |none=>
    refine af.no rfl (bD ?_);rw[Y,n]
   |some d=>
    refine af.yes rfl ?_;refine AJ.mk (y.pair n).1 (AJ.mk (AO G rfl) ?_);rw[CU];by_cases E:d.pr.key=x.key
    ·rw[decide_eq_true E];exact ch d n E
    ·rw[decide_eq_false E];exact bD (by grind)))
  refine AJ.mk (AO u rfl) ?_;refine af.intro (λr=>?_) (λr=>?_)
  ·exact ay (by simp at r;simp;omega)
  ·refine AJ.mk (AB u rfl) ?_;simp at r;cases U:decide ((x.val.size:Int)>(8192:Int))
   ·exact bV (by simp at U;simp;omega)
   ·exact ay (by simp at U;simp;omega)))
 refine af.no rfl ?_;refine AJ.mk (AO u rfl) ?_;rw[CU];refine af.intro (λr=>?_) (λr=>?_)
 ·exact aw (by simp at r;simp[r])
 ·refine Ac.mk (AB u rfl) ?_;simp at r;refine af.intro (λam=>?_) (λam=>?_)
  ·refine AJ.mk (AB u rfl) ?_;rw[CU];cases U:(!decide (x.val=⟨#[]⟩))
   ·exact bc (by simp[r,am,U])
   ·exact aw (by simp[r,am,U])
  ·exact bc (by simp[r,am])
theorem su {c:aq}{a:aa}{t:Nat}{ns:List DX}{l:List Pr}{b:A2P}(T:cU a t ns l)(d:b (J1 #[J6 J9 (l.length:Int),J6 J9 (Eb l:Int)]) a):AA c P Jy #[J5 (some ⟨t,0,none⟩)] a b:=by obtain⟨nx,L,_⟩:=T.lay;refine AAJ ?_;unfold Sd;refine af.no rfl ?_;exact AC.mk (AB L.head lW.1) (AC.mk (AB L.head lW.2) d)
def UY:Pr:=⟨⟨#[]⟩,⟨#[]⟩,false⟩
def NK(key:A2Q)(l:List Pr):Pr×Bool:=match l[aP key l]? with|some a=>if a.key=key then(a,true) else(UY,false)|none=>(UY,false)
theorem three {a:aa}{b:Nat}{T:Q7}{j k c2:J0}{f v:A2Q}{g:Bool}{K:aa->Prop}(l:a[b]? =some (J2 #[j,k,c2] T (0,0)))
  (m: ∀d,d[b]? =some (J2 #[J7 f,J7 v,J3 g] T (0,0))->Mod (λc=>c=b) a d->K d):
  ae a ⟨b,0,none⟩ (J7 f) λh=>ae h ((⟨b,0,none⟩:Q6).add 1) (J7 v) λi=>ae i ((⟨b,0,none⟩:Q6).add 2) (J3 g) λe=>K e:=by
 refine ae.mk l (by simp) λh n o t=>?_
 rw[Bh,Bh];refine ae.mk n (by simp) λi p q u=>?_
 refine ae.mk p (by simp) λe r s w=>?_
 exact m e (by simpa using r) ((o.trans q).trans s)
theorem vJ {c d:aa}{t:Nat}{ns:List DX}{nx:Nat->Nat->Q2}{g h:Int}{key:A2Q}{a:Nat->Nat}(L:Lay c t ns nx g h)(K:kS ns nx)(e: ∀i,i<12->VE ns key i (a i))(x:Ext c d):
  ag d (((addrAt t ns (a 0)).add 3).add (0*1))=some (J5 ((ns[aP key (bX ns)]?).map λj=>⟨j.ah,0,none⟩)):=by
 have b:=gT.zero K.ht (e 0 (by omega));have f:=YG key ns;have k:=(L.ext x).next (p:=a 0) (i:=0) (by rw[b];exact f) (by omega);rw[k,K.link (a 0) 0 (by rw[b];exact f) (by omega) (e 0 (by omega)).ht,b,SC K.ht]
theorem AQc {z:aq}{d:aa}{t:Nat}{ns:List DX}{l:List Pr}{key:A2Q}{m:A2P}(T:cU d t ns l)(A: ∀r,Ext d r->m (J1 #[(NK key l).1.agg,J3 (NK key l).2]) r):
  AA z P NT #[J5 (some ⟨t,0,none⟩),J7 key] d m:=by
 obtain⟨nx,L,s⟩:=T.lay;refine Ze ?_;unfold Sg;refine al.mk λI _ B n J=>af.no rfl ?_
 have C:Sorted (bX ns):=by rw[T.bX];exact T.sorted
 refine Zr (L.ext n) s C λM o D p=>⟨_,_,_,_,_,_,_,_,_,_,_,_,rfl,?_⟩
 refine aD ⟨by omega,AY.mk (vJ (L.ext n) s D p) ?_⟩;have u:=p.ah B (by simp);have v:Ext d o:=n.trans p;have E:=L.ext v;have ag:NK key l=match ns[aP key (bX ns)]? with|some f=>if f.pr.key=key then(f.pr,true) else(UY,false)|none=>(UY,false):=by unfold NK;rw[<- T.bX];rw[show bX ns=ns.map (·.pr) from rfl,By];cases ns[aP key (ns.map (·.pr))]? <;>rfl
 have w: ∀(g:Pr) (b:Bool) a,a[d.size]? =some (J2 #[J7 g.key,J7 g.val,J3 g.gone] AR (0,0))->Mod (λc=>c=d.size) o a->NK key l=(g,b)->
   (AJ a (⟨d.size,0,none⟩:Q6) λF=>AJ a ((⟨d.size,0,none⟩:Q6).add 1) λG=>Ac a ((⟨d.size,0,none⟩:Q6).add 2) λH=>m (J1 #[.agg #[J7 F,J7 G,J3 H],J3 b]) a):=λg b a e h q=>by
  refine AJ.mk (AO e rfl) (AJ.mk (AB e rfl) (Ac.mk (AB e rfl) ?_));have:=A a (v.then (h.aj λc _ N=> .inr (by omega)));rw[q] at this;exact this
 refine ai.mk λK x=>?_
 have y:NK key l=(UY,false)->K (false,()) o:=λq=>x _ _ (af.no rfl (three u λa e h=>w UY false a e h q))
 cases i:ns[aP key (bX ns)]? with
 |none=>
  rw[i] at ag;exact af.no rfl (y ag)
 |some f=>
  rw[i] at ag;refine af.yes rfl (aD ?_);have j:=E.pair i;refine AJ.mk j.1 ?_;rw[CU];by_cases k:f.pr.key=key
  ·rw[decide_eq_true k];refine x _ _ (af.yes rfl ?_);rw[i];refine aD (AJ.mk j.1 (AJ.mk j.2.1 (Ac.mk j.2.2 ?_)));simp only[k,if_true] at ag;exact three u λa e h=>w f.pr true a e h ag
  ·rw[decide_eq_false k];simp only[k,if_false] at ag;exact y ag
theorem sj {a c b:J0}:(#[]++ #[a]++ #[c,b]:Array J0)= #[a,c,b]:=rfl
theorem AP7 {A:aq}{s:aa}{b c t:Nat}{T S:Q7}{fr U:Nat×Nat}{ns:List DX}{l:List Pr}{key:A2Q}(f:s[b]? =some (J2 #[J5 (some ⟨t,0,none⟩)] T fr))(H:s[c]? =some (J2 #[J7 key] S U))(j:cU s t ns l):
  ER A P (.func (.func KM) #[] #[J5 (some ⟨b,0,none⟩),J5 (some ⟨c,0,none⟩)]) (λe=>cR t ns e\/e=b\/e=c) s (l.drop (aP key l)):=by
 refine⟨?_,_,_,rfl,λV=>by kernel_rfl,λd u V W k h hd hB X Y=>?_⟩
 ·rintro e (hd|rfl|rfl)
  ·exact j.lt hd
  ·exact Ah f
  ·exact Ah H
 rw[sj];refine Vg ?_;unfold O6;have I:=(u b (.inr (.inl rfl))).trans f;have Z:=(u c (.inr (.inr rfl))).trans H;obtain⟨nx,L0,o⟩:=j.lay;have L:Lay d t ns nx (l.length:Int) (Eb l:Int):=
  ⟨(u t (.inl (.inl rfl))).trans L0.head,λa x y=>⟨(u x.ah (.inl (.inr ⟨x,AM y,rfl⟩))).trans (L0.node a x y).1,(L0.node a x y).2⟩,L0.apart⟩
 have J: ∀e,cR t ns e-> ¬k e:=λe ab=>hd e (.inl ab)
 refine AY.mk (AO I rfl) (af.no rfl (AY.mk (AO I rfl) (AJ.mk (AO Z rfl) ?_)));have ac:Sorted (bX ns):=by rw[j.bX];exact j.sorted
 refine Zr L o ac λan ad q z=>⟨_,_,_,_,_,_,_,_,_,_,_,_,rfl,?_⟩
 refine aD ⟨by omega,AY.mk (vJ L o q z) ?_⟩;have ae:aP key (bX ns)=aP key l:=by rw[j.bX]
 have ao:=mV key l;have ap:ns.length=l.length:=by rw[<- j.bX];simp
 rw[ae];have ah:=hB.ba _ _ _ _ _ Y (z.aj (S':=λb=>¬k b/\d.size<=b) λ_ _ d=>d.elim);refine Loop.rule (λm x v=> ∃(a:Nat) (r:Nat->Prop),x=((ns[aP key l+a]?).map λn=>(⟨n.ah,0,none⟩:Q6),())/\m=l.length-(aP key l+a)/\aP key l+a<=l.length/\Mod k d v/\(∀ b,r b->k b\/d.size<=b)/\W a true r v) ?_
  ⟨0,k,rfl,rfl,by omega,z.mod,λb f=> .inl f,ah⟩
 rintro K m _ v ⟨a,r,rfl,rfl,ar,w,B,M⟩ ai;have C:(l.drop (aP key l)).length=l.length-aP key l:=by simp
 cases h:ns[aP key l+a]? with
 |none=>
  have:=List.getElem?_eq_none_iff.1 h;refine af.no rfl ?_;exact⟨rfl,a,true,r,w,B,M,λ_=>by rw[C];omega,by rw[C];omega⟩
 |some n=>
  have au:=(List.getElem?_eq_some_iff.1 h).1;have D:=(L.mod w J).pair h;refine af.yes rfl (aD (AJ.mk D.1 (AJ.mk D.2.1 (Ac.mk D.2.2 ?_))));have ag:(l.drop (aP key l))[a]? =some n.pr:=by
   rw[C5];have N:(bX ns)[aP key l+a]? =some n.pr:=by rw[show bX ns=ns.map (·.pr) from rfl,By,h];rfl
   rw[j.bX] at N;exact N
  refine Ec.mono (X a n.pr r v ag M) ?_;rintro _ aj ⟨g,E,rfl,ak,al,O⟩;have av:=w.size;have Q: ∀b,E b->k b\/d.size<=b:=λb f=>(ak b f).elim (B b) λad=> .inr (by omega)
  have F:Mod k d aj:=w.then (al.aj λb _ f=>B b f);refine⟨g,rfl,af.intro (λq=>?_) (λq=>?_)⟩
  ·have G:g=false:=by simpa using q
   subst G;exact⟨rfl,a+1,false,E,F,Q,O,(λd=>by cases d),by rw[C];omega⟩
  ·have G:g=true:=by simpa using q
   subst G;refine aD ⟨by omega,?_⟩;have R:=(L.mod F J).next (p:=aP key l+a+1) (i:=0) (by omega) (by omega);have am:addrAt t ns (aP key l+a+1)=⟨n.ah,0,none⟩:=by simp[addrAt,h]
   rw[am,o.link _ 0 (by omega) (by omega) (by have:=(o.ht n (AM h)).1;simp[Sw,h];omega),SC o.ht] at R;refine AY.mk R ?_;exact ai (l.length-(aP key l+(a+1))) _ _ (by omega) ⟨a+1,E,rfl,rfl,by omega,F,Q,O⟩
theorem sv {A:aq}{a:aa}{t:Nat}{ns:List DX}{l:List Pr}{key:A2Q}{f:A2P}(T:cU a t ns l)
  (i: ∀fv d,ER A P fv (λb=>cR t ns b\/b=a.size\/b=a.size+1) d (l.drop (aP key l))->Ext a d->d.size=a.size+2->f fv d):AA A P JJ #[J5 (some ⟨t,0,none⟩),J7 key] a f:=by
 refine YW ?_;unfold QK;refine al.mk λp _ j k m=>al.mk λg _ n h q=>?_
 have e:Ext a g:=k.trans h;have o:=AP7 (A:=A) (h.ah j (by simp)) n (T.ext e) (key:=key);refine i _ g (o.aj ?_ ?_ (λc _=>rfl)) e (by omega)
 ·rintro b (hd|rfl|rfl)
  ·exact .inl hd
  ·exact .inr (.inl rfl)
  ·exact .inr (.inr m)
 ·rintro b (hd|rfl|rfl)
  ·exact(T.ext e).lt hd
  ·omega
  ·omega
theorem ANs(l:List Pr):aP ⟨#[]⟩ l=0:=by
 have: ∀x:A2Q,aM x ⟨#[]⟩=false:=λx=>by
  have a:(⟨#[]⟩:A2Q).toList= []:=by simp[ByteArray.toList_eq]
  unfold aM;rw[a];cases x.toList<;>rfl
 cases l with
 |nil=>rfl
 |cons x l=>simp[aP,gB,this]
theorem sk(l:List Pr):l.drop (aP ⟨#[]⟩ l)=l:=by rw[ANs];rfl
def qb:Pr:=⟨⟨#[98]⟩,⟨#[49]⟩,false⟩
end Go.Lf.G.M
namespace Go.Lf.G
open Go
open M (aP Af Sorted BV)
theorem ASo(a b:A2Q):(!(aM a b||bO a b))=aM b a:=by
 cases e:aM b a with
 |true=>
  have c:aM a b=false:=by grind [aM,Da,CZ]
  have d:bO a b=false:=by
   rw[CU,decide_eq_false_iff_not]
   grind
  rw[c,d];rfl
 |false=>
  grind [aM,Nz,CU]
theorem AHC {a b c:A2Q}(d:aM a b=true)(e:aM c b=false):aM a c=true:=by grind [aM,Da,Nz]
theorem mG {l:List Pr}(c:Sorted l){i a:Nat}{p b:Pr}(d:l[i]? =some p)(e:l[a]? =some b)(f:i<a):aM p.key b.key=true:=by obtain⟨g,rfl⟩:=List.getElem?_eq_some_iff.1 d;obtain⟨h,rfl⟩:=List.getElem?_eq_some_iff.1 e;exact List.pairwise_iff_getElem.1 c _ _ g h f
structure za (l:List Pr) (key:A2Q) (B:Nat):Prop where
 lt:B<Bu l
 below: ∀(x:Nat) (p:Pr),x<8*B->l[x]? =some p->aM p.key key=true
 there: ∀(x:Nat) (p:Pr),l[x]? =some p->p.key=key->8*B<=x/\x<8*B+8
theorem ASZ {l:List Pr}{key:A2Q}{b:Nat}(j:Sorted l)(k:l≠ [])(t:b<=Bu l)(m: ∀a,a<b->aM key (Iq l (8*a))=false)(n:b<Bu l->aM key (Iq l (8*b))=true):za l key (b-1):=by
 have u:=wH k;have ag: ∀a,a<Bu l-> ∃d,l[8*a]? =some d/\Iq l (8*a)=d.key:=by grind [Bu,List.getElem?_eq_getElem,Iq]
 have o: ∀(x:Nat) (p:Pr),x<8*(b-1)->l[x]? =some p->aM p.key key=true:=by intro x p h e;obtain⟨d,f,g⟩:=ag (b-1) (by omega);have c:=mG j e f h;have:=m (b-1) (by omega);rw[g] at this;exact AHC c this
 refine⟨by omega,o,λx p e g=>⟨?_,?_⟩⟩
 ·grind [Nat.le_of_not_lt,CZ]
 ·apply Nat.lt_of_not_le;intro h;have v:=(List.getElem?_eq_some_iff.1 e).1;have step: ∀a,8*a<=x->a<Bu l->aM key (Iq l (8*a))=true->False:=by
   intro a w q c;obtain⟨d,f,r⟩:=ag a q;rw[r] at c;rcases FA (8*a) x with s|s
   ·grind [mG,Da,CZ]
   ·have:8*a=x:=by omega
    rw[this,e] at f;cases f;rw[g,CZ] at c;cases c
  have i:b<Bu l:=by unfold Bu;omega
  exact step b (by omega) i (n i)
theorem AQy {i a:Nat}(b:i+a<=2*1099511627776):J8 J9 ((J8 .u64 (J8 J9 (((i:Nat):Int)+((a:Nat):Int)))).fdiv ((2:Int)^(1:Nat)))=(((i+a) / 2:Nat):Int):=by rw[show((i:Nat):Int)+((a:Nat):Int)=((i+a:Nat):Int) by omega,Fb (by omega),CG (by omega),Qa,Fb (by omega)]
theorem ANV {n:aq}{f:aa}{fv:J0}{c:Nat}{p:Nat->Bool}{o:A2P}(C:c<=1099511627776)(D: ∀i b,i<=b->b<c->p i=true->p b=true)
  (y: ∀i d,i<c->Ext f d->Ec n P fv #[J6 J9 (i:Int)] d λv g=>v=J3 (p i)/\Ext d g)
  (z: ∀h g,h<=c->(∀ b,b<h->p b=false)->(h<c->p h=true)->Ext f g->o (J6 J9 (h:Int)) g):AA n P Ps #[J6 J9 (c:Int),fv] f o:=by
 refine ACQ ?_;unfold WZ;refine Loop.rule (λm x d=> ∃i b:Nat,x=((i:Int),(b:Int),())/\m=b-i/\i<=b/\b<=c/\(∀ a,a<i->p a=false)/\(b<c->p b=true)/\Ext f d) ?_ ⟨0,c,rfl,rfl,by omega,A0 _,λa A=>by omega,λf=>by omega,Mod.refl⟩;rintro K m _ d ⟨i,b,rfl,rfl,k,q,r,s,j⟩ t;dsimp only;refine af.intro (λl=>?_) (λl=>?_)
 ·have k:i<b:=by simp at l;omega
  rw[AQy (by omega)];refine ai.mk λE u=>?_
  have B:(i+b) / 2<c:=by omega
  refine Ec.mono (y _ d B j) ?_;rintro v g ⟨rfl,w⟩;refine⟨_,rfl,af.intro (λe=>?_) (λe=>?_)⟩
  ·have e:p ((i+b) / 2)=false:=by simpa using e
   refine u _ _ ?_;dsimp only;rw[Aa (by omega)];refine t (b-((i+b) / 2+1)) _ _ (by omega) ⟨(i+b) / 2+1,b,rfl,rfl,by omega,q,λa A=>?_,s,j.trans w⟩
   grind
  ·have e:p ((i+b) / 2)=true:=by simpa using e
   refine u _ _ ?_;exact t ((i+b) / 2-i) _ _ (by omega) ⟨i,(i+b) / 2,rfl,rfl,by omega,by omega,r,λ_=>e,j.trans w⟩
 ·have k:i=b:=by simp at l;omega
  subst k;exact z i d q r s j
abbrev zd:Q8:=Ib
theorem ze {A:aq}{h:aa}{t D k:Nat}{l:List Pr}{f:List UInt8}{key:A2Q}{R:A2P}(T:bR h t l f D k)(c:gX (aJ (aT l f)) l f)
  (E: ∀d q,za l key q->Ext h d->R (J6 J9 (q:Int)) d):AA A P Gp #[Ar t,J7 key] h R:=by
 refine UM ?_;unfold NZ;refine al.mk λe _ F G X=>al.mk λY _ H r Z=>?_
 have u:=Am r F;have w:=G.trans r;obtain⟨m,ab,x,y,ac,_,_⟩:=(T.ext w).at_;refine AY.mk (AO u rfl) (aD ?_);refine AZ.mk (s:=m) (AO x rfl) ?_;have I:m.len=Bu l:=by rw[y.len,Hm]
 have ad:=c.many;have ae:Bu l<=12501:=by unfold Bu;omega
 rw[I];have z: ∀b,b<Bu l-> ∃B,l[8*b]? =some B/\Iq l (8*b)=B.key:=by
  intro b n;have:8*b<l.length:=by unfold Bu at n;omega
  exact⟨l[8*b],A2 this,by unfold Iq;simp_all⟩
 refine ANV (p:=λb=>aM key (Iq l (8*b))) (by omega) (λi b af n C=>?_) (λi o k g=>?_) λj J K e L M=>⟨_,rfl,?_⟩
 ·rcases FA i b with h|h
  ·obtain⟨ag,N,O⟩:=z i (by omega);obtain⟨ah,Q,S⟩:=z b n;have:=mG c.inc N Q (by omega);rw[O] at C;rw[S];exact Da C this
  grind
 ·have U:=Ec.func (A:=A) (P:=P) (f:=zd) (first:= #[]) (bT:= #[Ar h.size,Ar e.size]) (args:= #[J6 J9 (i:Int)]) (h:=o) (R:=λv d=>v=J3 (aM key (Iq l (8*i)))/\Ext o d) (by kernel_rfl) ?_
  ·exact U
  ·show AA A P zd #[J6 J9 (i:Int),Ar h.size,Ar e.size] o _;refine Rp ?_;unfold Lg;refine aD (AY.mk (AO (Am g u) rfl) (aD ?_));refine AZ.mk (s:=m) (AO (Am g x) rfl) ?_;refine(y.ext g).idx (RP k) λa ai V=>?_
   rw[A6];refine AJ.mk V.str (aD ?_);refine AJ.mk (AO (Am g H) rfl) ?_;rw[ASo];exact⟨rfl,Mod.refl⟩
 ·have W:(if((J8 J9 (((j:Nat):Int)-(1:Int))):Int)>0 then(J8 J9 (((j:Nat):Int)-(1:Int))) else 0)=((j-1:Nat):Int):=by grind [wrap_i64]
  rw[W];exact E J (j-1) (ASZ c.inc c.ne K e L) (w.trans M)
def Vf(key:A2Q)(l:List Pr):Pr×Bool:=match Af key l with|some a=>(a,true)|none=>(M.UY,false)
theorem ARA {l:List Pr}(f:Sorted l){p:Pr}(h:p∈l):Af p.key l=some p:=by
 unfold Af;cases g:l.find? λd=>decide (d.key=p.key) with
 |none=>
  grind
 |some d=>
  have b:=RE g;have b:d.key=p.key:=of_decide_eq_true b;obtain⟨i,e⟩:=F0 (LN g);obtain⟨j,c⟩:=F0 h;rcases HL i j with a|a|a
  ·have:=mG f e c a;rw[b,CZ] at this;cases this
  ·subst a;rw[e] at c;exact c
  ·have:=mG f c e a;rw[b,CZ] at this;cases this
theorem zf {l:List Pr}{key:A2Q}(a: ∀p∈l,p.key≠key):Af key l=none:=by simp_all [Af,Hb]
theorem ARa {ac:aq}{d:aa}{t ad E:Nat}{l:List Pr}{f:List UInt8}{key:A2Q}{F:A2P}(T:bR d t l f ad E)(q:gX (aJ (aT l f)) l f)(ag:key.size<=1099511627776)
  (ah: ∀L,Ext d L->F (J1 #[(Vf key l).1.agg,J3 (Vf key l).2]) L):AA ac P Ko #[Ar t,J7 key] d F:=by
 refine XL ?_;unfold Pf;refine al.mk λN _ O y aR=>?_
 have tail: ∀g x,Ext d g->g[d.size]? =some (J2 #[J7 ⟨#[]⟩,J7 ⟨#[]⟩,J3 false] AR (0,0))-> ∀(h:Pr) (b:Bool),Vf key l=(h,b)->x=Value.tuple #[.agg #[J7 h.key,J7 h.val,J3 h.gone],J3 b]->
   ∀ {r u:A2Q} {c2:Bool},r=h.key->u=h.val->c2=h.gone->
   ae g (⟨d.size,0,none⟩:Q6) (J7 r) λQ=>ae Q ((⟨d.size,0,none⟩:Q6).add 1) (J7 u) λR=>ae R ((⟨d.size,0,none⟩:Q6).add 2) (J3 c2) λj=>
    AJ j (⟨d.size,0,none⟩:Q6) λaj=>AJ j ((⟨d.size,0,none⟩:Q6).add 1) λak=>Ac j ((⟨d.size,0,none⟩:Q6).add 2) λam=>F (J1 #[.agg #[J7 aj,J7 ak,J3 am],J3 b]) j:=by
  intro g x v an h b ao aS r u c2 ap ar au;subst ap ar au;refine ae.mk an (by simp) λQ av aw aU=>?_
  rw[Bh,Bh];refine ae.mk av (by simp) λR ax ay aV=>?_
  refine ae.mk ax (by simp) λj G az aW=>?_
  refine AJ.mk (AO G rfl) (AJ.mk (AO G rfl) (Ac.mk (AO G rfl) ?_));have k:Ext d j:=⟨by have:=v.size;omega,λc aA _=>(az.get c (by have:=v.size;omega) (by omega)).trans ((ay.get c (by have:=v.size;omega) (by omega)).trans ((aw.get c (by have:=v.size;omega) (by omega)).trans (v.get c aA (λd=>d))))⟩;have:=ah j k;rw[ao] at this;exact this
 refine ai.mk λK aC=>?_
 refine af.no rfl (aD ?_);obtain⟨aX,aE,H,aY,aF,_,_⟩:=(T.ext y).at_;refine AJ.mk (AB H rfl) ?_;refine yN ag ⟨_,rfl,?_⟩;rw[EO];refine aC _ _ ?_;refine af.intro (λn=>?_) (λn=>?_)
 ·have n:gW f key=false:=by simpa using n
  have I:Af key l=none:=zf λp w z=>by
   have:=q.has p w;rw[z,n] at this;cases this
  exact tail N _ y O M.UY false (by unfold Vf;rw[I]) rfl rfl rfl rfl
 ·refine aD (AZ.mk (s:=aE) (AB H rfl) ?_);refine ze (T.ext y) q λaZ a hB A=>⟨_,rfl,AB (Am A H) rfl,?_⟩
  have aG:((Ka l).map λb=>AX (BP b))[a]? =some (AX (BP (CJ l a))):=by simp[Ka,hB.lt]
  refine(aF.ext A).idx aG λa0 a1 aH=>?_
  rw[A6];refine AJ.mk aH.str ?_;have aI: ∀p∈CJ l a,La p:=λp w=>q.ok p (Pp w)
  have a2:=Qo q.ok hB.lt;refine rG aI (by omega) λps aK S U a3=>⟨_,_,rfl,?_⟩
  have a4:ps.len=(CJ l a).length:=S.len;have a5:=Qi hB.lt;have V:=(y.trans A).trans U;have W:=Am U (Am A O);refine Loop.rule (λm x aL=> ∃e:Nat,x=((e:Int),())/\m=(CJ l a).length-e/\e<=(CJ l a).length/\(∀ i p,i<e->(CJ l a)[i]? =some p->p.key≠key)/\Ext aK aL) ?_ ⟨0,rfl,rfl,by omega,λi p E=>by omega,Mod.refl⟩;rintro a6 m _ aM ⟨e,rfl,rfl,a7,X,o⟩ aN;dsimp only;refine af.intro (λn=>?_) (λn=>?_)
  ·have B:e<(CJ l a).length:=by grind
   have k:(CJ l a)[e]? =some (CJ l a)[e]:=A2 B;have Y:(CJ l a)[e]∈l:=Pp (Bm B);generalize (CJ l a)[e]=p at k Y;refine(S.ext o).view.idx k λa8 a9 aO=>?_
   obtain⟨r,u,c2⟩:=aO.pair;rw[A6];refine AJ.mk r (AJ.mk u (Ac.mk c2 ?_));refine al.pair λba aP bb C J bc=>?_
   refine AJ.mk (AO C rfl) ?_;refine af.intro (λD=>?_) (λD=>?_)
   ·rw[CU,decide_eq_true_iff] at D;refine AJ.mk (AO C rfl) (AJ.mk (AB C rfl) (Ac.mk (AB C rfl) ?_));have Z:=ARA q.inc Y;rw[D] at Z;exact tail aP _ ((V.trans o).trans J) (Am J (Am o W)) p true (by unfold Vf;rw[Z]) rfl rfl rfl rfl
   ·rw[CU,decide_eq_false_iff_not] at D;rw[Aa (by omega)];refine aN ((CJ l a).length-(e+1)) _ _ (by omega) ⟨e+1,rfl,rfl,B,λi h E aQ=>?_,o.trans J⟩;by_cases bd:i=e
    ·grind
    ·exact X i h (by omega) aQ
  ·have B:e=(CJ l a).length:=by grind
   have I:Af key l=none:=zf λp w z=>by
    obtain⟨x,k⟩:=F0 w;obtain⟨N,be⟩:=hB.there x p k z;have ab:(CJ l a)[x-8*a]? =some p:=by rw[QJ (by omega),show 8*a+(x-8*a)=x by omega];exact k
    have:=(List.getElem?_eq_some_iff.1 ab).1;exact X (x-8*a) p (by omega) ab z
   exact tail aM _ (V.trans o) (Am o W) M.UY false (by unfold Vf;rw[I]) rfl rfl rfl rfl
theorem zg {key:A2Q}{l:List Pr}(a:Sorted l){x:Nat}{p:Pr}(b:l[x]? =some p):x<aP key l↔aM p.key key=true:=M.p5 a b
theorem AMs {A:aq}{y:aa}{b c t lo hi:Nat}{aW an:Q7}{l:List Pr}{f:List UInt8}{key:A2Q}(r:y[b]? =some (J2 #[Ar t] aW (0,0)))(aX:y[c]? =some (J2 #[J7 key] an (0,0)))
  (T:bR y t l f lo hi) (bq:hi<=y.size) (z:gX (aJ (aT l f)) l f):
  ER A P (.func (.func I1) #[] #[Ar b,Ar c]) (λe=>(lo<=e/\e<hi)\/e=b\/e=c) y (l.drop (aP key l)):=by
 refine⟨?_,_,_,rfl,λaY=>by kernel_rfl,λh W aY ao k br hd hB aZ a0=>?_⟩
 ·grind
 rw[M.sj];refine TD ?_;unfold Mv;have H:=(W b (.inr (.inl rfl))).trans r;have ap:=(W c (.inr (.inr rfl))).trans aX;have ar:bR h t l f lo hi:=by
  obtain⟨au,o,u,I,X,Y,av⟩:=T.at_;have aw: ∀ {s:Sl} {ax:List A2Q},View Fs y s ax->(∀ e,s.ah=some e->lo<=e/\e<hi)->View Fs h s ax:=λv bs=>⟨v.len,v.cap,λi x hi=>by
   obtain⟨a,a1,a2⟩:=v.cells i x hi;refine⟨a,a1,λj v ay=>?_⟩;rw[<- a2 j v ay]
   grind [Qb,aU,Sl.ah]⟩
  exact⟨⟨au,o,(W t (.inl T.fB)).trans u,aw I Y,aw X av,Y,av⟩,T.fB⟩
 have a3: ∀e,lo<=e->e<hi-> ¬k e:=λe u I=>hd e (.inl ⟨u,I⟩)
 obtain⟨au,o,az,bt,aA,bu,a4⟩:=ar.at_;refine aD (AY.mk (AO H rfl) (af.no rfl (aD (AY.mk (AO H rfl) (aD (AZ.mk (s:=o) (AB az rfl) (aD (AY.mk (AO H rfl) (aD (AJ.mk (AO ap rfl) ?_))))))))));refine ze ar z λu d aC J=>⟨_,rfl,AB (Am J az) rfl,AO (Am J H) rfl,?_⟩
 have aE:o.len=Bu l:=by rw[aA.len];simp[I5]
 have bv:=aC.lt;refine⟨by rw[aE];omega,?_⟩;rw[A6,aE];have bw:=M.mV key l;have bx:=z.many;have bz:Bu l<=12501:=by unfold Bu;omega
 have bA:8*d<=aP key l:=by
  apply SM;intro L;have a5:aP key l<l.length:=by grind [Bu]
  obtain⟨aF,B⟩: ∃aF,l[aP key l]? =some aF:=⟨_,A2 a5⟩;have u:=aC.below _ _ L B;have I:=(zg z.inc B).2 u;omega
 have Z:(l.drop (aP key l)).length=l.length-aP key l:=by simp
 have a6:=hB.ba _ _ _ _ _ a0 (J.aj (S':=λb=>¬k b/\h.size<=b) λ_ _ h=>h.elim);have a7:View Fs h ⟨BC o.p o.cap d 1,Bu l-d,o.cap-d⟩ (((Ka l).map λb=>AX (BP b)).drop d):=by have:=aA.sub (lo:=d) (hi:=Bu l) (by omega) (by simp[I5]);rw[AF (by simp[I5])] at this;exact this
 have a8: ∀e,Sl.ah ⟨BC o.p o.cap d 1,Bu l-d,o.cap-d⟩=some e-> ¬k e:=λe n=>by
  have:=a4 e (Zx n);exact a3 e this.1 this.2
 refine Loop.rule (λm x ab=> ∃(i:Nat) (C:Nat->Prop),x=((i:Int),())/\m=Bu l-d-i/\i<=Bu l-d/\Mod k h ab/\(∀ b,C b->k b\/h.size<=b)/\ao (min (8*(d+i)) l.length-aP key l) true C ab) ?_
  ⟨0,k,rfl,rfl,by omega,J.mod,λb r=> .inl r,by
   have:min (8*(d+0)) l.length-aP key l=0:=by omega
   rw[this];exact a6⟩
 rintro K m _ ab ⟨i,C,rfl,rfl,hi,N,aG,E⟩ a9;dsimp only;refine af.intro (λF=>?_) (λF=>?_)
 ·have aH:i<Bu l-d:=by simp at F;omega
  have O:d+i<Bu l:=by omega
  have bB:8*(d+i)<l.length:=by unfold Bu at O;omega
  have ba:(((Ka l).map λb=>AX (BP b)).drop d)[i]? =some (AX (BP (CJ l (d+i)))):=by rw[C5];simp[Ka,O]
  refine(a7.mod N a8).idx ba λbC bD bb=>?_
  rw[A6];refine AJ.mk bb.str ?_;have bc: ∀p∈CJ l (d+i),La p:=λp bd=>z.ok p (Pp bd)
  have bE:=Qo z.ok O;have bF:=Qi O;refine rG bc (by omega) λps X ac aI bG=>⟨_,_,rfl,?_⟩
  have bH:ps.len=(CJ l (d+i)).length:=ac.len;have be:min (8*(d+i)) l.length=8*(d+i):=by omega
  rw[be] at E;have bI:=N.size;have bJ:=hB.wf _ _ _ _ E;have bf:=hB.ba _ _ _ _ _ E (aI.aj (S':=λb=>¬C b/\h.size<=b) λ_ _ h=>h.elim);have bg:Mod k h X:=N.trans aI.mod;refine Loop.rule (λm x Q=> ∃(j:Nat) (q:Nat->Prop),x=((j:Int),())/\m=(CJ l (d+i)).length-j/\j<=(CJ l (d+i)).length/\Mod k h Q/\(∀ b,q b->k b\/h.size<=b)/\(∀ e,ps.ah=some e-> ¬q e/\e<Q.size)/\View BR Q ps (CJ l (d+i))/\ao (8*(d+i)+j-aP key l) true q Q) ?_
   ⟨0,C,rfl,rfl,by omega,bg,aG,λe n=>⟨λh=>by grind,ac.lt n⟩,ac.view,bf⟩
  rintro bK m _ Y ⟨j,q,rfl,rfl,ay,ad,R,D,ae,aK⟩ aL;dsimp only;refine af.intro (λF=>?_) (λF=>?_)
  ·have G:j<(CJ l (d+i)).length:=by grind
   have B:(CJ l (d+i))[j]? =some (CJ l (d+i))[j]:=A2 G;have S:l[8*(d+i)+j]? =some (CJ l (d+i))[j]:=by rw[<- QJ (by omega)];exact B
   generalize (CJ l (d+i))[j]=p at B S;refine ae.idx B λbL bM bh=>?_
   obtain⟨bi,bj,c2⟩:=bh.pair;rw[A6];refine AJ.mk bi (AJ.mk bj (Ac.mk c2 ?_));refine al.pair λbN ah bO U w bP=>?_
   have V:Mod k h ah:=ad.trans w.mod;have bQ:=ad.size;have aN:=hB.ba _ _ _ _ _ aK (w.aj (S':=λb=>¬q b/\h.size<=b) λ_ _ h=>h.elim);have bk:ah[c]? =some (J2 #[J7 key] an (0,0)):=V.ah ap (hd c (.inr (.inr rfl)));refine ai.mk λbS aO=>?_
   refine AJ.mk (AO U rfl) (aD (AJ.mk (AO bk rfl) ?_));have bT:=(List.getElem?_eq_some_iff.1 S).1;have bm:=zg (key:=key) z.inc S;refine af.intro (λL=>?_) (λL=>?_)
   ·have bn:aP key l<=8*(d+i)+j:=by grind
    refine AJ.mk (AO U rfl) (AJ.mk (AB U rfl) (Ac.mk (AB U rfl) ?_));have ag:(l.drop (aP key l))[8*(d+i)+j-aP key l]? =some p:=by rw[C5,show aP key l+(8*(d+i)+j-aP key l)=8*(d+i)+j by omega];exact S
    refine Ec.mono (aZ _ p q ah ag aN) ?_;rintro _ bo ⟨g,aj,rfl,aQ,ak,aR⟩;have bU:=V.size;have aS: ∀b,aj b->k b\/h.size<=b:=λb r=>(aQ b r).elim (R b) λu=> .inr (by omega)
    have aV:Mod k h bo:=V.then (ak.aj λb _ r=>R b r);refine⟨g,rfl,aO _ _ ?_⟩;dsimp only;cases g with
    |false=>exact af.yes rfl ⟨rfl,_,false,aj,aV,aS,aR,(λh=>by cases h),by rw[Z];omega⟩
    |true=>
     refine af.no rfl ?_;rw[Aa (by omega)];refine aL ((CJ l (d+i)).length-(j+1)) _ _ (by omega) ⟨j+1,aj,rfl,rfl,G,aV,aS,λe n=>⟨λh=>?_,by have:=D e n;have:=w.size;have:=ak.size;omega⟩,?_,?_⟩
     ·rcases aQ e h with h|h
      ·exact(D e n).1 h
      ·have:=(D e n).2;have:=w.size;omega
     ·exact(ae.ext w).mod ak λe n=>(D e n).1
     ·rw[show 8*(d+i)+(j+1)-aP key l=8*(d+i)+j-aP key l+1 by omega];exact aR
   ·have bp:aM p.key key=true:=by simpa using L
    have bn:=bm.2 bp;refine aO _ _ (af.no rfl ?_);rw[Aa (by omega)];refine aL ((CJ l (d+i)).length-(j+1)) _ _ (by omega) ⟨j+1,q,rfl,rfl,G,V,R,λe n=>⟨(D e n).1,by have:=(D e n).2;have:=w.size;omega⟩,ae.ext w,?_⟩;rw[show 8*(d+i)+(j+1)-aP key l=8*(d+i)+j-aP key l by omega];exact aN
  ·have G:j=(CJ l (d+i)).length:=by grind
   rw[Aa (by omega)];refine a9 (Bu l-d-(i+1)) _ _ (by omega) ⟨i+1,q,rfl,rfl,by omega,ad,R,?_⟩;have am:min (8*(d+(i+1))) l.length=8*(d+i)+j:=by rw[G];unfold CJ;rw[AD,DE];omega
   rw[am];exact aK
 ·have aH:i=Bu l-d:=by simp at F;omega
  have am:min (8*(d+i)) l.length=l.length:=by rw[aH,show d+(Bu l-d)=Bu l by omega];unfold Bu;omega
  rw[am] at E;exact⟨rfl,l.length-aP key l,true,C,N,aG,E,λ_=>Z.symm,by rw[Z];omega⟩
theorem zi {A:aq}{a:aa}{t h e:Nat}{l:List Pr}{f:List UInt8}{key:A2Q}{i:A2P}(T:bR a t l f h e)(s:e<=a.size)(m:gX (aJ (aT l f)) l f)
  (n: ∀fv b,ER A P fv (λd=>(h<=d/\d<e)\/d=a.size\/d=a.size+1) b (l.drop (aP key l))->Ext a b->b.size=a.size+2->i fv b):AA A P Hu #[Ar t,J7 key] a i:=by
 refine Ve ?_;unfold Ow;refine al.mk λu _ o p v=>al.mk λj _ q k w=>?_
 have g:Ext a j:=p.trans k;have r:=AMs (A:=A) (Am k o) q (T.ext g) (by have:=g.size;omega) m (key:=key);refine n _ j (r.aj ?_ ?_ (λc _=>rfl)) g (by omega)
 ·omega
 omega
def fP(l:List Fi)(a:A2Q):Nat:=match Cn a l with|none=>0|some f=>f.bZ.size+f.soft.size
theorem yG {a:A2Q}{f:Fi}{l:List Fi}:Cn a (f::l)=if f.name=a then some f else Cn a l:=by rw[Ga]
theorem rD(a:A2Q): ∀l:List Fi,fP l a+bg (P8 a l)<=bg l
 | []=>by simp[fP,Cn,P8,bg]
 |f::l=>by
  have h:=rD a l;have e:bg (f::l)=f.bZ.size+f.soft.size+1+bg l:=by simp[bg]
  by_cases b:f.name=a
  ·have c:fP (f::l) a=f.bZ.size+f.soft.size:=by unfold fP;rw[yG,if_pos b]
   have d:P8 a (f::l)=P8 a l:=by simp[P8,b]
   rw[c,d,e];omega
  ·have c:fP (f::l) a=fP l a:=by unfold fP;rw[yG,if_neg b]
   have d:P8 a (f::l)=f::P8 a l:=by simp[P8,b]
   have g:bg (f::P8 a l)=f.bZ.size+f.soft.size+1+bg (P8 a l):=by simp[bg]
   rw[c,d,g,e];omega
theorem yH: ∀(a:List A2Q),a.Nodup-> ∀l:List Fi,(a.map (fP l)).sum<=bg l
 | [],_,l=>by simp
 |k::a,b,l=>by
  rw[List.nodup_cons] at b;have c:=yH a b.2 (P8 k l);have d:a.map (fP (P8 k l))=a.map (fP l):=CC λx e=>by
   unfold fP;rw[Zq,if_neg (λf=>by subst f;exact b.1 e)]
  rw[d] at c;have:=rD k l;simp only[B9,FF];omega
def iR(m:Bx)(a:A2Q)(b:Nat):A2Q:=(UN m (aC a b)).1
noncomputable def Sr (a:A2Q) (m:Bx) (l:List Nat):List A2Q:=l.flatMap λb=>(kW (bl (iR m a b))).map AX
theorem yI {m:Bx}(hd:m.down=false)(a:A2Q):(UN m a).1.size=fP m.files a:=by
 unfold UN fP;rw[if_neg (by simp[hd])];cases Cn a m.files with
 |none=>rfl
 |some f=>simp[Ks]
theorem rE {nm:A2Q}{m:Bx}(hd:m.down=false){l:List Nat}(b:l.Pairwise (· < ·)):(Sr nm m l).length<=bg m.files:=by
 have e:(Sr nm m l).length<=((l.map (aC nm)).map (fP m.files)).sum:=by
  unfold Sr;clear b
  induction l with
  |nil=>simp
  |cons f l d=>
   have g:=AHQ (qS (bl (iR m nm f)));rw[A7,iR,yI hd] at g;simp only[AH,A1,AN,B9,FF] at d ⊢;unfold iR at d ⊢;omega
 refine AE e (yH _ ?_ _);refine List.pairwise_map.2 (b.imp λ{a c} i h=>?_);have:=Ig h;omega
theorem yJ {R:aq}{d:aa}{b:Nat}{S:Nat->Prop}{m:Bx}{nm:A2Q}{w:A2P}(E:bY d)(D:Cu d b S m)(hd:m.down=false)(aw:0<nm.size)(F:nm.size<=8)(T:bg m.files<=8000000000000)
  (U: ∀g l,mE nm m l->l.getLast?.getD 0=99999999->Ext d g->w (J1 #[J5 none,J4 none 0 0,J6 J9 2]) g)
  (V: ∀g l r sl,mE nm m l->l.getLast?.getD 0≠99999999->Ext d g->d.size<=r->g[r]? =some (J2 #[Ar b,J7 nm,J6 J9 ((l.getLast?.getD 0+1:Nat):Int),J3 false] qF (0,0))->View Fs g sl (Sr nm m l)->
   (∀ c,sl.ah=some c->d.size<=c/\c≠r)->w (J1 #[Ar r,J4 sl.p sl.len sl.cap,J6 J9 0]) g):AA R P RI #[Ar b,J7 nm] d w:=by
 refine AJO ?_;unfold uY;refine af.no rfl (ai.mk λK W=>?_);have X:bO nm (⟨#[]⟩:A2Q)=false:=by rw[CU,decide_eq_false_iff_not];rintro rfl;have:(⟨#[]⟩:A2Q).size=0:=rfl;omega
 rw[X];refine af.no rfl (W _ _ (af.no (by simp;omega) ?_));refine yF E D hd (by omega) T λG Y l h v2 o _=>⟨Y,_,rfl,af.no rfl ?_⟩
 have ax:l.length<=99999999:=by
  have Z: ∀(l:List Nat) (s:Nat),l.Pairwise (· < ·)->(∀ e∈l,s<e/\e<=99999999)->l.length+s<=99999999\/l= []:=by
   intro l
   induction l with
   |nil=>intro s _ _;exact .inr rfl
   |cons a l ab=>
    intro s y H;rw[RT] at y;have ay:=H a (by simp);rcases ab a y.2 (λe t=>⟨y.1 e t,(H e (AG _ t)).2⟩) with d|d
    ·left;simp only[A5];omega
    ·subst d;left;simp;omega
  rcases Z l 0 h.inc (λe t=>by have:=(h.mem e).1 t;omega) with d|d
  ·omega
  ·subst d;simp
 refine Loop.rule (λI x p=> ∃(i:Nat) (sl:Sl),x=(sl,(((l.take i).getLast?.getD 0:Nat):Int),(i:Int),())/\Ext G p/\Own Fs Az p sl (Sr nm m (l.take i))/\(∀ c,sl.ah=some c->G.size<=c)/\i<=l.length/\I=l.length-i) ?_
  ⟨0,⟨none,0,0⟩,rfl,Mod.refl,Own.nil,λc n=>by simp[Sl.ah] at n,As _,rfl⟩
 rintro az I _ p ⟨i,sl,rfl,j,u,f,aA,rfl⟩ ac;have J:(l.map λe:Nat=>(e:Int)).length=l.length:=AN ..;rw[v2.len,J];refine af.intro (λz=>?_) (λz=>?_)
 ·have q:i<l.length:=by simpa using z
  have ag:l[i]? =some l[i]:=A2 q;have ad:l[i]∈l:=Bm q;obtain⟨aD,aE,L⟩:=(h.mem l[i]).1 ad;have M:l.take (i+1)=l.take i++ [l[i]]:=by rw[Ax,ag];rfl
  have ae:(l.take (i+1)).getLast?.getD 0=l[i]:=by rw[M,SZ];rfl
  have N:Sr nm m (l.take (i+1))=Sr nm m (l.take i)++(kW (bl (iR m nm l[i]))).map AX:=by rw[M];unfold Sr;rw[Ge];simp
  have A:=rE (nm:=nm) (m:=m) hd (l:=l.take (i+1)) (h.inc.sublist (List.take_sublist _ _));rw[N,A1,AN] at A;rw[<- J,<-v2.len];refine(v2.ext j).idx (i:=i) (x:=(l[i]:Int)) (by rw[By,ag];rfl) λa _ c=>?_
  refine AC.mk c.int ?_;have O:=o.trans j;refine YQ (E.ext O) (by omega) (by omega) λaF v=>⟨_,rfl,?_⟩
  refine pg ((D.ext O).ext v) ⟨_,_,rfl,?_⟩;have ah:(UN m (aC nm l[i])).2=0:=by
   unfold UN;rw[if_neg (by simp[hd])];cases aj:Cn (aC nm l[i]) m.files with
   |none=>rw[aj] at L;cases L
   |some f=>rfl
  rw[ah];refine af.no rfl ?_;have ak:(UN m (aC nm l[i])).1.size<=8000000000000:=by rw[yI hd];have:=rD (aC nm l[i]) m.files;omega
  refine APk ak λaG am aH B an=>⟨am,_,rfl,?_⟩
  refine Fz (E:=Fs) rB ((u.ext v).ext B) an (by rw[AN];unfold iR at A;omega) (by rw[AN];unfold iR at A;simp[maxLen];omega) λao aI ap ar au aJ=>?_
  dsimp only;rw[Aa (by omega)];refine ac (l.length-(i+1)) _ _ (by omega) ⟨i+1,ao,?_,((j.trans v).trans B).more ar f,?_,λc n=>?_,q,rfl⟩
  ·rw[ae]
  ·rw[N];exact ap
  ·rcases au c n with d|d
   ·exact f c d
   ·have:=j.size;have:=v.size;have:=B.size;omega
 ·have q:i=l.length:=by simp at z;omega
  subst q;rw[BE] at u ⊢;refine af.intro (λk=>?_) (λk=>?_)
  ·have k:l.getLast?.getD 0=99999999:=by simp at k;omega
   exact U p l h k (o.trans j)
  ·have k:l.getLast?.getD 0≠99999999:=by simp at k;omega
   have aK:l.getLast?.getD 0<=99999999:=by
    cases av:l.getLast? with
    |none=>simp
    |some e=>
     have:=(h.mem e).1 (T4 av);simp;omega
   refine al.mk λF _ C Q aL=>?_
   dsimp only at C ⊢;rw[Aa (by omega)] at C;refine V F l p.size sl h k ((o.trans j).trans Q) (by have:=o.size;have:=j.size;omega) C (u.ext Q).view λc n=>by have:=f c n;have:=o.size;have:=u.lt n;omega
def ET(a:aa)(c b:Nat)(d:A2Q)(e:Nat)(made:Bool):Prop:=a[c]? =some (J2 #[Ar b,J7 d,J6 J9 (e:Int),J3 made] qF (0,0))
theorem ET.mod {c d:aa}{a b:Nat}{e:A2Q}{f:Nat}{made:Bool}{g:Nat->Prop}(L:ET c a b e f made)(x:Mod g c d)(h: ¬g a):ET d a b e f made:=x.ah L h
theorem ET.ext {a c:aa}{d b:Nat}{e:A2Q}{f:Nat}{made:Bool}(L:ET a d b e f made)(x:Ext a c):ET c d b e f made:=x.ah L (λa=>a)
theorem yK {r:aq}{a:aa}{d b e:Nat}{f rec:A2Q}{made:Bool}{i:Nat->Prop}{m:Bx}{s:A2P}(G:bY a)(L:ET a d b f e made)(H:Cu a b i m)(t: ¬i d)(V: ∀j,Mod i a j->bY j)(I:f.size<=1099511627776)(J:e<=4294967295)(K:rec.size<=1048576)(W:bg m.files<=8000000000000)
  (u: ∀j S',Cu j b S' (EN m (aC f e) (AX (Ct (bl rec)))).2->ET j d b f e (made||decide ((EN m (aC f e) (AX (Ct (bl rec)))).1=0))->Mod (λc=>i c\/c=d) a j->(∀ c,S' c->i c\/(a.size<=c/\c≠d))->s (J6 J9 (EN m (aC f e) (AX (Ct (bl rec)))).1) j):
  AA r P JU #[Ar d,J7 rec] a s:=by
 refine YB ?_;unfold QT;refine af.no rfl ?_;have X:=Ah L;have M:(bl rec).length<=1048576:=by rw[A7];exact K
 have N:=JL M;rw[A7] at N;have O:rec=AX (bl rec):=(Ku rec).symm;have go:AA r P Hq #[J7 rec] a λv l=> ∃w:A2Q,∃x:Int,v=J1 #[J7 w,J6 J9 x]/\(w=AX (Ct (bl rec))/\x=0/\Ext a l):=by
  rw[O];refine rq (by rw[Ku] at *;omega) (λl=>by rw[Ku] at *;omega) λ_ l k=>⟨_,_,rfl,?_,rfl,k⟩
  rw[Ku]
 refine AA.mono go ?_;rintro v l ⟨Y,Z,rfl,rfl,rfl,k⟩;refine⟨_,_,rfl,af.no rfl ?_⟩;have p:=L.ext k;refine aD (AY.mk (AO p rfl) (aD (AJ.mk (AB p rfl) (aD (AC.mk (AB p rfl) ?_)))));refine YQ (G.ext k) J I λab Q=>⟨_,rfl,?_⟩
 have n:=k.trans Q;have y:=L.ext n;refine⟨AO y rfl,?_⟩;refine sH (H.ext n) (by rw[AP];omega) λq o z A B=>⟨_,rfl,?_⟩
 have C:ET q d b f e made:=y.mod A t;have ac:=n.size;have D: ∀c,o c->i c\/(a.size<=c/\c≠d):=λc g=>(B c g).imp id λa=>⟨by omega,by omega⟩
 have E:Mod (λc=>i c\/c=d) a q:=(Ext.mod n).trans (A.aj λc _ g=> .inl g);refine af.intro (λh=>?_) (λh=>?_)
 ·have h:(EN m (aC f e) (AX (Ct (bl rec)))).1≠0:=by simpa using h
  exact u q o z (by rw[decide_eq_false h,Bool.or_false];exact C) E D
 ·have h:(EN m (aC f e) (AX (Ct (bl rec)))).1=0:=by simpa using h
  refine aD (ae.dr C (by simp) λR S F ad=>?_);have T: ¬o d:=λg=>by rcases B d g with a|a;exact t a;omega
  have:=u R o (z.mod F λc g U=>T (U▸g)) (by rw[decide_eq_true h,IF];simpa [ET] using S) (E.then (F.aj λc _ g=> .inl (.inr g))) D;rw[h] at this;exact this
def NE(m:Bx)(a:A2Q)(made:Bool):Int×Bx:=if made then Hg m a else(0,m)
theorem yL {n:aq}{a:aa}{e b c:Nat}{d:A2Q}{made:Bool}{f:Nat->Prop}{m:Bx}{i:A2P}(o:bY a)(L:ET a e b d c made)(j:Cu a b f m)(p: ¬f e)(q:d.size<=1099511627776)(r:c<=4294967295)
  (k: ∀g,Cu g b f (NE m (aC d c) made).2->ET g e b d c made->Mod f a g->i (J6 J9 (NE m (aC d c) made).1) g):
  AA n P K9 #[Ar e] a i:=by
 refine ABO ?_;unfold Uc;refine af.no rfl (aD (Ac.mk (AB L rfl) ?_));cases made with
 |false=>exact af.yes rfl (k a j L Mod.refl)
 |true=>
  refine af.no rfl (aD (AY.mk (AO L rfl) (aD (AJ.mk (AB L rfl) (aD (AC.mk (AB L rfl) ?_))))));refine YQ o r q λu h=>⟨_,rfl,⟨AO (L.ext h) rfl,?_⟩⟩
  refine sI (j.ext h) λs t l=>⟨_,rfl,?_⟩
  exact k s t ((L.ext h).mod l p) ((Ext.mod h).trans l)
theorem Wv {u:aq}{g:aa}{f b a:Nat}{d:A2Q}{made:Bool}{h:Nat->Prop}{m:Bx}{k:A2P}(v:bY g)(L:ET g f b d a made)(w:Cu g b h m)(o: ¬h f)(x:d.size<=1099511627776)(F:a<99999999)
  (y:(NE m (aC d a) made).1≠0-> ∀e,Cu e b h (NE m (aC d a) made).2->ET e f b d a made->Mod h g e->k (J1 #[J6 J9 0,J6 J9 (NE m (aC d a) made).1]) e)
  (z:(NE m (aC d a) made).1=0-> ∀e,Cu e b h (NE m (aC d a) made).2->ET e f b d (a+1) false->Mod (λc=>h c\/c=f) g e->k (J1 #[J6 J9 (a:Int),J6 J9 0]) e):
  AA u P Gw #[Ar f] g k:=by
 refine YH ?_;unfold Qr;refine af.no rfl (aD (AC.mk (AB L rfl) (af.no (by simp;omega) ?_)));refine yL v L w o x (by omega) λA p l q=>⟨_,rfl,?_⟩
 refine af.intro (λi=>?_) (λi=>?_)
 ·exact y (by simpa using i) A p l q
 ·have i:(NE m (aC d a) made).1=0:=by simpa using i
  refine aD (AC.mk (AB l rfl) ?_);rw[Aa (by omega)];refine aD (ae.dr l (by simp) λG B C H=>?_);refine aD (ae.dr B (by simp) λr D E I=>?_);have s:ET r f b d (a+1) false:=by simpa [ET] using D
  refine aD (AC.mk (AB s rfl) ?_);have n:J8 J9 (((a+1:Nat):Int)-1)=(a:Int):=by rw[wrap_i64 (by omega) (by omega)];omega
  rw[n];have t:=C.trans E;exact z i r (p.mod t λc j n=>o (n▸j)) s ((q.aj λc _ j=> .inl j).trans (t.aj λc _ j=> .inr j))
end Go.Lf.G
