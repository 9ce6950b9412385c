/-
 Contracts: frames scanned, a log's segments, a log opened (chapters 2 and 4).
-/
import Derived.Test.YtgpmoonnachoaaaGreatDoorLfU2ToS3
import Derived.Test.YtgpmoonnachoaaaGreatDoorLfG1
import Derived.Laws.StructEq
import Derived.ChangeKeysEq
set_option maxRecDepth 100000
set_option linter.unusedVariables false
set_option linter.unusedSimpArgs false
open Go.IntKind renaming i64→J9,wrap→J8
open Go.Value renaming string→J7,int→J6,pointer→J5,slice→J4,bool→J3,tuple→J1
open Go.Obj renaming cells→J2
open Go renaming Value→J0,Addr→Q6,TypeId→Q7,FuncId→Q8,Program→Q1
open Go.Addr renaming add→Q9,mk→Q5
namespace Go.Lf.G
open Go
theorem yq:QF P CK BF IY.w 16=true:=by kernel_rfl
theorem ry:QF P DJ Bp IM.w 8=true:=by kernel_rfl
theorem AHP {l:List UInt8}{b:List (List UInt8)}(a:NQ l b):b.length<=l.length:=by
 induction a with
 |stop a=>exact AD _
 |step a s c=>have:=qM a;simp only[A5];omega
theorem APf {p:aq}{a:aa}{s:A2L}{k:A2K}(A:s.size<=8000000000000)
  (q: ∀e sl r,Ext a e->View IY e sl ((kT (bl s)).map AY)->k (J1 #[J4 sl.p sl.len sl.cap,J6 J9 r]) e):AA p P LQ #[J7 s] a k:=by
 refine WO ?_;unfold Rl;refine Loop.rule (λm x g=> ∃(sl:Sl) (dn b:List (List UInt8)) (l:List UInt8),x=(sl,AY l,())/\Ext a g/\Own IY BF g sl (dn.map AY)/\(∀ c,sl.ah=some c->a.size<=c)/\NQ l b/\kT (bl s)=dn++b/\dn.length+l.length<=s.size/\m=l.length) ?_
  ⟨⟨none,0,0⟩,[],_,bl s,by rw[K9],Mod.refl,Own.nil,λc h=>by simp[Sl.ah] at h,qO _,rfl,by rw[Ay];simp,rfl⟩
 rintro K m _ g ⟨sl,dn,b,l,rfl,x,n,f,i,j,B,rfl⟩ t;refine ya (by omega) λu d=>⟨_,_,_,rfl,?_⟩
 cases i with
 |stop o=>
  refine af.no (by simp;omega) ?_;rw[AM] at j;exact q u sl _ (x.trans d) (by rw[j];exact(n.ext d).view)
 |step o i=>
  rename_i b;refine af.yes (by simp;omega) ?_;have C:=qM o;refine ao.aY (E:=IY) (x:=AY (Gv l).2.1) (s:=sl) (l:=dn.map AY) rfl yq (n.ext d) (by simp;omega) (by simp[maxLen];omega) λv D w y z F=>?_
  refine t (Gv l).2.2.length _ _ (by omega) ⟨v,dn++ [(Gv l).2.1],b,(Gv l).2.2,rfl,(x.trans d).more y f,?_,λc h=>?_,i,by rw[j];simp,by simp;omega,rfl⟩
  ·rw[Bm];exact w
  ·rcases z c h with a|a
   ·exact f c a
   ·have:=x.size;have:=d.size;omega
theorem ARO {m:aq}{c:aa}{s:Sl}{l:List Int}{t:A2K}(u:Own IM Bp c s l)(O:l.length<=8796093022208)
  (w: ∀n,View IM n s (l.mergeSort λx d=>decide (x<=d))->Mod (λb=>s.ah=some b) c n->t (J1 #[]) n):AA m P I8 #[J4 s.p s.len s.cap] c t:=by
 intro j;have y:=u.len;rcases u.row with⟨rfl,rfl⟩|⟨g,o,p,h,B,Q,C,z⟩
 ·refine Calls.mono (Proofs.AnyM.slices_Sort_int_none Proofs.Tryz.iS none 0 (m.at c j)) ?_;rintro k D ⟨rfl,rfl⟩;exact⟨_,rfl,c,j,rfl,w c (by simpa using View.nil) Mod.refl⟩
 ·rw[p,y];have q:IM.w=1:=rfl;rw[q,Bk] at C z;have F: ∀a x,l[a]? =some x->o[a]? =some (Value.int J9 x):=λa x e=>by
   have f:=dy (E:=IM) e 0 (J6 J9 x) rfl;rw[<- z,q,Bk,G0,Fc] at f;split at f
   ·simpa using f
   ·cases f
  refine Calls.mono (Proofs.AnyM.slices_Sort_int Proofs.Tryz.iS g 0 s.cap l (m.at c j) ?_ (Ai h) (by omega)) ?_
  ·intro a e;have e:a<l.length:=by simpa using e
   have f:=F a l[a] (A2 e);have G:l.toArray[a]! =l[a]:=by simp[e]
   refine⟨?_,?_⟩
   ·show ag c ⟨g,0+a,none⟩=_;unfold ag;rw[h];simp only[Option.isSome_none,Cp,if_false,AI,G,f]
   ·show fY c ⟨g,0+a,none⟩=false;unfold fY;rw[h];simp
  ·rintro k D ⟨rfl,H,os,rfl⟩;have I:(c.modify g (Sort.onCells (Sort.putCells (Value.int J9) 0 (l.mergeSort λx d=>decide (x<=d)).toArray))++os)[g]? =some (J2 (Sort.putCells (Value.int J9) 0 (l.mergeSort λx d=>decide (x<=d)).toArray o) Bp (0,0)):=by rw[My (by simpa using Ai h),GC,if_pos rfl,h];rfl
   refine⟨_,rfl,c.modify g (Sort.onCells (Sort.putCells (Value.int J9) 0 (l.mergeSort λx d=>decide (x<=d)).toArray))++os,j+H,rfl,w _ ⟨?_,B,λa x e=>⟨⟨g,0,none⟩,p,λi v r=>?_⟩⟩ ⟨by simp,λb J K=>?_⟩⟩
   ·rw[A0M];exact y
   ·have L:i=0:=by have:=(List.getElem?_eq_some_iff.1 r).1;have k:(IM.enc x).length=1:=rfl;omega
    subst L;simp only[IM,Hv,BE] at r;subst r;have A:a<(l.mergeSort λx d=>decide (x<=d)).length:=(List.getElem?_eq_some_iff.1 e).1;have M:a<o.size:=by rw[A0M] at A;omega
    rw[q,Bk,Bf,Bf,AI,G0];unfold ag;rw[I];simp only[Option.isSome_none,Cp,if_false,Sort.putCells,Array.getElem?_mapIdx];rw[Ft M,HP,if_pos ⟨AD _,by simpa using A⟩];have:(l.mergeSort λx d=>decide (x<=d)).toArray[a-0]! =x:=by rw[HA];simp[e]
    rw[this]
   ·have N:g≠b:=λk=>K (by rw[Sl.ah,p,k];rfl)
    rw[My (by simpa using J),GC,if_neg N]
structure mw (nm:A2L) (m:Bx) (l:List Nat):Prop where
 inc:l.Pairwise (· < ·)
 mem: ∀n,n∈l↔1<=n/\n<=99999999/\(Cq (aC nm n) m.files).isSome=true
theorem yt {k:A2L}{l:List Fi}:(Cq k l).isSome=true↔k∈l.map (·.name):=by
 constructor
 ·intro a;cases b:Cq k l with
  |none=>rw[b] at a;cases a
  |some f=>
   obtain⟨c,d⟩:=KO b;exact List.mem_map.2 ⟨f,d,c⟩
 ·intro a;obtain⟨f,c,d⟩:=List.mem_map.1 a;cases b:Cq k l with
  |none=>exact absurd d (R5 b f c)
  |some f=>rfl
theorem yu {m:Bx}(g:HV m):(m.files.map (·.name)).Nodup:=List.pairwise_map.2 (g.sorted.imp λa=>Lp a)
theorem AJl {ns:List Nat}(n:ns.Nodup): ∃l:List Nat,((ns.map λd:Nat=>(d:Int)).mergeSort λx e=>decide (x<=e))=l.map (λd:Nat=>(d:Int))/\l.Pairwise (· < ·)/\ ∀d,d∈l↔d∈ns:=by
 have f:=List.mergeSort_perm (ns.map λd:Nat=>(d:Int)) (λx e=>decide (x<=e));have k:((ns.map λd:Nat=>(d:Int)).mergeSort λx e=>decide (x<=e)).Pairwise (λx e=>decide (x<=e)=true):=
  List.pairwise_mergeSort (λa b c o h=>by simp at o h ⊢;omega) (λa b=>by simp;omega) _
 generalize (ns.map λd:Nat=>(d:Int)).mergeSort (λx e=>decide (x<=e))=L at f k;have i: ∀x∈L,((x.toNat:Nat):Int)=x:=λx g=>by
  obtain⟨d,_,rfl⟩:=List.mem_map.1 (f.subset g);simp
 have p:L=(L.map Int.toNat).map (λd:Nat=>(d:Int)):=by
  rw[AT]
  conv=>lhs;rw[<- Kx L]
  exact CA λx g=>(i x g).symm
 have q:L.Nodup:=f.symm.nodup (by
  rw[SW,Nx];exact(List.nodup_iff_pairwise_ne.1 n).imp λr s=>r (by exact_mod_cast s))
 refine⟨L.map Int.toNat,p,?_,λd=>?_⟩
 ·rw[Nx];have h:L.Pairwise λx e=>decide (x<=e)=true/\x≠e:=k.and (List.nodup_iff_pairwise_ne.1 q)
  refine h.imp_of_mem λ{a c} t u m=>?_
  have w:=i a t;have y:=i c u;have z:a<=c:=of_decide_eq_true m.1;have A:=m.2;omega
 ·constructor
  ·intro j;obtain⟨x,g,rfl⟩:=List.mem_map.1 j;obtain⟨B,v,rfl⟩:=List.mem_map.1 (f.subset g);simpa using v
  ·intro j;exact List.mem_map.2 ⟨(d:Int),f.symm.subset (List.mem_map.2 ⟨d,j,rfl⟩),by simp⟩
theorem yw {R:aq}{h:aa}{b:Nat}{S:Nat->Prop}{m:Bx}{j:A2L}{N:A2K}(E:bZ h)(D:Cw h b S m)(hd:m.down=false)(T:j.size<=1099511627776)(aK:bj m.files<=8000000000000)
  (U: ∀k s (l:List Nat),mw j m l->View IM k s (l.map λe:Nat=>(e:Int))->Ext h k->(∀ c,s.ah=some c->h.size<=c)->N (J1 #[J4 s.p s.len s.cap,J6 J9 0]) k):AA R P Ky #[Am b,J7 j] h N:=by
 refine ABN ?_;unfold Ud;refine vQ D λs n F y aL=>⟨s,_,rfl,?_⟩
 have V:jX m=(m.files.map (·.name),0):=by unfold jX;rw[if_neg (by simp[hd])]
 rw[V] at F ⊢;refine af.no rfl ?_;have W:=yu D.aS;have X: ∀d∈m.files.map (·.name),d.size<=32:=λd g=>by
  obtain⟨f,Y,rfl⟩:=List.mem_map.1 g;exact D.aS.names f Y
 have aM:(m.files.map (·.name)).length<=8000000000000:=by have:=VP m.files;simp;omega
 have Z: ∀d,(Cq d m.files).isSome=true↔d∈m.files.map (·.name):=λd=>yt
 dsimp only at F;generalize m.files.map (·.name)=names at*
 have v1:=F.view;refine Loop.rule (λO x G=> ∃(i:Nat) (sl:Sl) (ns:List Nat),x=(sl,(i:Int),())/\Ext n G/\Own IM Bp G sl (ns.map λe:Nat=>(e:Int))/\(∀ c,sl.ah=some c->n.size<=c)/\i<=names.length/\ns.length<=i/\(ns.map (aC j)).Sublist (names.take i)/\(∀ e∈ns,1<=e/\e<=99999999)/\(∀ d:Nat,1<=d->d<=99999999->aC j d∈names.take i->d∈ns)/\O=names.length-i) ?_
  ⟨0,⟨none,0,0⟩,[],rfl,Mod.refl,Own.nil,λc o=>by simp[Sl.ah] at o,AD _,A0 _,by simp,by simp,by simp,rfl⟩
 rintro K O _ G ⟨i,sl,ns,rfl,r,H,f,aN,aO,u,I,z,rfl⟩ ab;rw[v1.len];refine af.intro (λJ=>?_) (λJ=>?_)
 ·have v:i<names.length:=by simpa using J
  refine ai.mk λac ad=>?_
  have ag:names[i]? =some names[i]:=A2 v;rw[<- v1.len];refine(v1.ext r).idx ag λa _ c=>?_
  refine AJ.mk c.str ?_;refine AMu ((E.ext y).ext r) T (by have:=X names[i] (AW v);omega) λae e w ah aj=>⟨_,rfl,?_⟩
  have A:names.take (i+1)=names.take i++ [names[i]]:=by rw[As,ag];rfl
  have fin: ∀(p:Sl) (q:List Nat) (k:aa),Ext n k->Own IM Bp k p (q.map λe:Nat=>(e:Int))->(∀ c,p.ah=some c->n.size<=c)->q.length<=i+1->(q.map (aC j)).Sublist (names.take (i+1))->(∀ e∈q,1<=e/\e<=99999999)->(∀ d:Nat,1<=d->d<=99999999->aC j d∈names.take (i+1)->d∈q)->ac (p,()) k:=λp q k ak al am an ap ar au=>by
   refine ad _ _ ?_;dsimp only;rw[Ae (by omega)];exact ab (names.length-(i+1)) _ _ (by omega) ⟨i+1,p,q,rfl,ak,al,am,v,an,ap,ar,au,rfl⟩
  by_cases t:e=0
  ·refine af.no (by simp[t]) (fin sl ns ae (r.trans w) (H.ext w) f (by omega) ?_ I ?_)
   ·rw[A];exact u.trans (List.sublist_append_left _ _)
   ·intro d B C g;rw[A] at g;rcases List.mem_append.1 g with g|g
    ·exact z d B C g
    ·exact absurd (List.mem_singleton.1 g).symm (ah t d B C)
  ·refine af.yes (by simp;omega) ?_;obtain⟨aP,ne⟩:=aj t;refine ao.aY (E:=IM) (x:=(e:Int)) (s:=sl) (l:=ns.map λe:Nat=>(e:Int)) rfl ry (H.ext w) (by simp;omega) (by simp[maxLen];omega) λp av aw ax ay _=>?_
   refine fin p (ns++ [e]) av ((r.trans w).more ax f) (by rw[Bm];exact aw) (λc o=>?_) (by simp;omega) ?_ ?_ ?_
   ·rcases ay c o with h|h
    ·exact f c h
    ·have:=r.size;have:=w.size;omega
   ·rw[A,Bm];have az: [e].map (aC j)= [names[i]]:=by rw[ne];rfl
    rw[az];exact u.append (List.Sublist.refl _)
   ·intro d g;rcases List.mem_append.1 g with g|g
    ·exact I d g
    ·rw[List.mem_singleton.1 g];omega
   ·intro d B C g;rw[A] at g;rcases List.mem_append.1 g with g|g
    ·exact List.mem_append.2 (.inl (z d B C g))
    ·have:=Ij ((List.mem_singleton.1 g).trans ne);exact List.mem_append.2 (.inr (by simp[this]))
 ·have v:i=names.length:=by simp at J;omega
  subst v;rw[BT] at u z;have aA:ns.Nodup:=by have n:=u.nodup W;rw[SW,Nx] at n;rw[SW];exact n.imp λh aD=>h (by rw[aD])
  obtain⟨l,aE,aF,aG⟩:=AJl aA;refine ARO H (by simp;omega) λaH Q aI=>⟨rfl,?_⟩
  rw[aE] at Q;refine U aH sl l ⟨aF,λe=>?_⟩ Q ((y.trans r).more aI λc o=>by have:=f c o;have:=y.size;omega) λc o=>by have:=f c o;have:=y.size;omega
  rw[aG,Z];constructor
  ·intro t;obtain⟨L,M⟩:=I e t;exact⟨L,M,u.subset (List.mem_map.2 ⟨e,t,rfl⟩)⟩
  ·rintro⟨L,M,aJ⟩;exact z e L M aJ
structure bR (h:aa) (t:Nat) (l:List Pr) (f:List UInt8) (lo hi:Nat):Prop where
 at_: ∃fs bs:Sl,h[t]? =some (J2 #[J4 fs.p fs.len fs.cap,J4 bs.p bs.len bs.cap,J7 (AY f),J6 J9 (l.length:Int)] Md (0,0))/\View IY h fs (CV l)/\View IY h bs ((Kj l).map λb=>AY (BP b))/\
  (∀ c,fs.ah=some c->lo<=c/\c<hi)/\(∀ c,bs.ah=some c->lo<=c/\c<hi)
 fA:lo<=t/\t<hi
theorem bR.mod {i j:aa}{t:Nat}{l:List Pr}{f:List UInt8}{b d:Nat}{k:Nat->Prop}(T:bR i t l f b d)(m:Mod k i j)(e: ∀c,b<=c->c<d-> ¬k c):bR j t l f b d:=by obtain⟨n,o,p,q,r,g,h⟩:=T.at_;exact⟨⟨n,o,m.ah p (e t T.fA.1 T.fA.2),q.mod m (λc a=>e c (g c a).1 (g c a).2),r.mod m (λc a=>e c (h c a).1 (h c a).2),g,h⟩,T.fA⟩
theorem bR.ext {a b:aa}{t:Nat}{l:List Pr}{f:List UInt8}{c d:Nat}(T:bR a t l f c d)(m:Ext a b):bR b t l f c d:=T.mod m λ_ _ _ a=>a
theorem XV(a:List UInt8)(b:List (List UInt8)):aJ (a::b)=Cv a++aJ b:=rfl
theorem ANv {w:aq}{b:aa}{a:List (List UInt8)}{q:A2K}(l: ∀f∈a,f.length<=1048576)(y:(aJ a).length<=1099511627776)
  (r: ∀h sl,Ext b h->View IY h sl (a.map AY)->(∀ c,sl.ah=some c->b.size<=c/\c<h.size)->q (J1 #[J4 sl.p sl.len sl.cap,J6 J9 ((aJ a).length:Int)]) h):AA w P LQ #[J7 (AY (aJ a))] b q:=by
 refine WO ?_;unfold Rl;refine Loop.rule (λm x n=> ∃(i:Nat) (sl:Sl),x=(sl,AY (aJ (a.drop i)),())/\m=a.length-i/\i<=a.length/\Ext b n/\Own IY BF n sl ((a.take i).map AY)/\(∀ c,sl.ah=some c->b.size<=c)) ?_
  ⟨0,⟨none,0,0⟩,rfl,rfl,by omega,Mod.refl,Own.nil,λc d=>by simp[Sl.ah] at d⟩
 rintro K m _ n ⟨i,sl,rfl,rfl,z,o,g,p⟩ t;dsimp only;have N:a.length<=(aJ a).length:=by
  clear y r z g t
  induction a with
  |nil=>simp
  |cons f a A=>
   have O:=(JQ (l f Cl)).1;have:=A λx j=>l x (AG _ j)
   simp only[aJ,AH,A1,A5] at this ⊢;omega
 have B:(aJ (a.drop i)).length<=1099511627776:=by
  have C:aJ a=aJ (a.take i)++aJ (a.drop i):=by unfold aJ;rw[<- G3,DA]
  have:=congrArg List.length C;rw[A1] at this;omega
 refine ya (AE B (by decide)) λD e=>⟨_,_,_,rfl,?_⟩
 by_cases k:i<a.length
 ·have j:a[i]? =some a[i]:=A2 k;have u:=l _ (AW k);have hd:a.drop i=a[i]::a.drop (i+1):=E0 k;have v:=UE j;generalize a[i]=f at j u hd v;rw[hd,XV,xR u];refine af.yes rfl ?_;refine ao.aY (E:=IY) (x:=AY f) (s:=sl) rfl rE (g.ext e) (by grind) (by simp only[Bs,Ax,maxLen];omega) λF Q G H I R=>?_
  refine t (a.length-(i+1)) _ _ (by omega) ⟨i+1,F,rfl,rfl,k,(o.trans e).more H p,?_,λc d=>?_⟩
  ·rw[v,Bm];exact G
  ·rcases I c d with b|b
   ·exact p c b
   ·have:=o.size;have:=e.size;omega
 ·have J:a.drop i= []:=HD (by omega);have L:a.take i=a:=AF (by omega);rw[J];rw[L] at g;have S:=UI;refine af.no (by grind) ?_;have M:J8 J9 (((AY (aJ a)).size:Int)-((AY (aJ [])).size:Int))=((aJ a).length:Int):=by
   rw[AP,AP];show J8 J9 (((aJ a).length:Int)-((0:Nat):Int))=_
   grind [wrap_i64]
  rw[M];exact r D sl (o.trans e) (g.ext e).view λc d=>⟨p c d,(g.ext e).lt d⟩
def Yj(l:List Pr)(a:Nat):A2L:=match a with|0=>⟨#[]⟩|a+1=>Iy l a
theorem ARX {l:List Pr}(d: ∀p∈l,Lg p)(e:l.Pairwise λp f=>aM p.key f.key=true){a:Nat}{p:Pr}(b:l[a]? =some p):(aM p.key (Yj l a)||bO p.key (Yj l a))=false:=by
 have k:aM (Yj l a) p.key=true:=by
  cases a with
  |zero=>
   have:=(d p (AK b)).key;unfold Yj;rw[VY];have g:bl p.key≠ []:=by grind [Ay]
   cases h:bl p.key with
   |nil=>exact absurd h g
   |cons c t=>
    simp only[decide_eq_true_eq];show([]:List UInt8)<bl p.key
    simp_all
  |succ a=>
   have i:a<l.length:=by grind
   have j:l[a]? =some l[a]:=A2 i;have:=yQ e j b;show aM (Iy l a) p.key=true
   simp_all [Iy]
 rw[Hk]
 grind [aM,Yj,Da,Ca,Bw,decide_eq_false_iff_not]
theorem AQE {a N:Nat}(b:a=N+1)(c:N<=1099511627776):J8 J9 (((a:Nat):Int)-(1:Int))=((N:Nat):Int):=by grind [wrap_i64]
theorem gV.jz {s:List UInt8}{l:List Pr}{f:List UInt8}(T:gV s l f):(aJ (aT l f)).length<=1099511627776:=by
 have:=VE (Np T);have b:=T.many;have a:(aT l f).length=Br l+1:=by simp[aT,JB]
 have c:Br l<=12501:=by unfold Br;omega
 rw[a] at this;have d:(Br l+1)*1048590<=12502*1048590:=AN _ (by omega);omega
theorem yR {bh:aq}{e:aa}{l:List Pr}{f:List UInt8}{aH:A2K}(T:gV (aJ (aT l f)) l f)
  (bi: ∀O t,Ext e O->bR O t l f e.size O.size->aH (J1 #[Am t,J6 J9 0]) O):AA bh P N8 #[J7 (AY (aJ (aT l f)))] e aH:=by
 refine AEo ?_;unfold Yi;have ce:=wx T.ne;have cf:=T.many;have cg:Br l<=12501:=by unfold Br;omega
 have ch:=T.jx;refine ANv (Np T) (gV.jz T) λh sl C v1 aI=>⟨sl,_,rfl,?_⟩
 have aK:sl.len=Br l+1:=by rw[v1.len];simp[aT,JB]
 have ci:=v1.cap;rw[AQE aK (by omega)];refine ai.mk λK aL=>?_
 refine af.no (by rw[AP];simp) ?_;refine aL _ _ (af.no (by rw[aK];simp;omega) ?_);clear aL;simp only[A6,HA];refine⟨⟨by omega,by omega⟩,?_⟩;have bj:((aT l f).map AY)[Br l]? =some (AY (Vq l f)):=by simp_all [C2,aT,Fk,JB]
 refine v1.idx bj λa aM d=>?_
 refine AJ.mk d.str ?_;have aN:=YF T;refine Js λaO aP Q=>⟨_,rfl,?_⟩
 have R: ∀ {e:aa} {s:Sl} {ks:List A2L},Own IY BF e s ks-> ∀ {c:Nat} {aQ:Rd},Ie e c aQ->s.ah≠some c:=λbk c aQ bm=>bk.ne bm (by decide)
 refine ao.mk λS _ bn D cj=>?_
 have aR:Ie S h.size _:=Ao D aP;have ck:=AV (n:=Br l) (by omega);have bo:Vq l f=Bc (Br l)++(Gu (CV l)++(Bc l.length++BQ f)):=by unfold Vq Gu;simp_all
 rw[bo] at aR aN;have cl:=AV (n:=l.length) (by omega);have cm:(BQ f).length=(Bc f.length).length+f.length:=by simp[BQ]
 have cn:=AV (n:=f.length) (by omega);have bp:=Qu (ks:=CV l) (PD T.ok);rw[Hq] at bp;refine DN (most:=Br l) aR (AE aN (by decide)) (by omega) λbq ac ad=>⟨_,rfl,?_⟩
 rw[CQ (by omega) (A0 _)] at ac ⊢;dsimp only at ac ⊢;refine af.no (by simp) ?_;have co:h.size<aO.size:=Ai aP;have br:=ad.ah bn (by omega);have U:Ext e S:=(C.trans Q).trans D;have cp:Ext e bq:=U.more ad (λb bs=>by rw[bs];exact C.size);have aS: ∀ {g:aa},(∀ c,sl.ah=some c->g[c]? =h[c]?)->View IY g ⟨BA sl.p sl.cap 0 1,Br l,sl.cap⟩ ((Kj l).map λb=>AY (BP b)):=by
  intro g d;have v:View IY g sl ((aT l f).map AY):=⟨v1.len,v1.cap,λi x hi=>by
   obtain⟨a,aM,bt⟩:=v1.cells i x hi;refine⟨a,aM,λj v aV=>?_⟩;rw[<- bt j v aV]
   grind [Qh,aU,Sl.ah]⟩
  have:=v.sub (lo:=0) (hi:=Br l) (AD _) (by simp[aT,JB]);have aW:(((aT l f).map AY).take (Br l)).drop 0=(Kj l).map λb=>AY (BP b):=by simp_all [IT,aT,NO,JB,AF,AT]
  rw[aW] at this;exact this
 generalize cq:aO.size=q at*
 refine Loop.rule (λm x g=> ∃(i:Nat) (o:Sl),x=((i:Int),())/\m=Br l-i/\i<=Br l/\Ie g h.size ⟨Gu ((CV l).drop i)++(Bc l.length++BQ f),false⟩/\
  g[q]? =some (J2 #[J4 o.p o.len o.cap,J4 (BA sl.p sl.cap 0 1) (Br l) sl.cap,J7 ⟨#[]⟩,J6 J9 0] Md (0,0))/\Own IY BF g o ((CV l).take i)/\(∀ c,o.ah=some c->q<c)/\
  Mod (λc=>c=h.size\/q<=c) S g) ?_ ⟨0,⟨none,0,0⟩,rfl,rfl,by omega,ac,br,Own.nil,λc d=>by simp[Sl.ah] at d,ad.aj λc _ d=> .inl d⟩
 rintro cr m _ aX ⟨i,o,rfl,rfl,hi,w,ah,F,G,aY⟩ aZ;dsimp only;refine af.intro (λr=>?_) (λr=>?_)
 ·have V:i<Br l:=by simp at r;omega
  refine AZ.mk (s:=o) (AO ah rfl) ?_;have z:=RX V;have hd:(CV l).drop i=Iy l (8*i)::(CV l).drop (i+1):=by grind [CV,Hq,List.drop_eq_getElem_cons,List.getElem?_eq_getElem,Option.some.inj]
  have a0:=UE z;have a1:=PD T.ok _ (AK z);generalize Iy l (8*i)=k at z hd a0 a1;have bu:Gu ((CV l).drop i)++(Bc l.length++BQ f)=BQ (bl k)++(Gu ((CV l).drop (i+1))++(Bc l.length++BQ f)):=by rw[hd];simp[Gu]
  have bv:=Qu (ks:=(CV l).drop i) λk bw=>PD T.ok k (HX bw)
  rw[DQ,Hq] at bv;have a2:(Gu ((CV l).drop i)++(Bc l.length++BQ f)).length<1099511627776:=by simp only[A1];omega
  rw[bu] at w a2;refine G8 w a2 λH W aj=>⟨_,rfl,?_⟩
  rw[IW (by rw[Ay];omega)] at W ⊢;dsimp only at W ⊢;rw[ED];have X:=aj.ah ah (by omega);have ak:=F.mod aj (λc d e=>R F w (e▸d));refine⟨AO X rfl,?_⟩;refine ao.mk λbx _ bz I cs=>⟨AO (Ao I X) rfl,?_⟩
  have bA:Own IY BF bx ⟨some ⟨H.size,0,none⟩,1,1⟩ [k]:=Own.lit (E:=IY) (l:= [k]) bz rfl (by simp[maxLen]);refine Fz (s:=o) (src:=⟨some ⟨H.size,0,none⟩,1,1⟩) rE (ak.ext I) bA.view (by simp only[Ax,Cd];omega) (by simp only[Ax,Cd,maxLen];omega) λa3 ct bB al cu cv=>?_
  have cw:q<H.size:=Ai X;have cx: ∀c,o.ah=some c->c<H.size:=λc d=>ak.lt d
  have bC:=al.ah (Ao I X) (λe=>by have:=G _ e;omega);refine ae.mk bC (by simp) λcy bD am cz=>?_
  have a4: ∀c,a3.ah=some c->q<c:=λc d=>by
   grind
  rw[Ae (by omega)];refine aZ (Br l-(i+1)) _ _ (by omega) ⟨i+1,a3,rfl,rfl,V,?_,by simpa using bD,?_,a4,?_⟩
  ·refine am.ah (al.ah (Ao I W) λe=>?_) (by omega);exact R ak W e
  ·rw[a0];exact bB.mod am (λc d e=>by have:=a4 c d;omega)
  ·have Y:Mod (λc=>c=h.size\/q<=c) aX H:=aj.aj λc _ d=> .inl d
   exact(((aY.trans Y).trans I.mod).trans (al.aj λc _ d=> .inr (by have:=G c d;omega))).trans (am.aj λc _ d=> .inr (by omega))
 ·have V:i=Br l:=by simp at r;omega
  subst V;clear aZ;have bE:(CV l).drop (Br l)= []:=HD (by rw[Hq];omega);have bF:(CV l).take (Br l)=CV l:=AF (by rw[Hq];omega);rw[bE] at w;rw[bF] at F;have bG:J8 J9 (((Br l:Nat):Int)*(8:Int))=((Br l*8:Nat):Int):=by grind [wrap_i64]
  rw[bG];have w:Ie aX h.size ⟨Bc l.length++BQ f,false⟩:=w;have bH:l.length<=Br l*8:=by unfold Br;omega
  refine DN (most:=Br l*8) w (by grind) (by omega) λcB an ap=>⟨_,rfl,?_⟩
  rw[CQ (by omega) bH] at an ⊢;dsimp only at an ⊢;have bJ:=ap.ah ah (by omega);rw[Bf,Bf];refine ae.mk bJ (by simp) λbK bL ar cC=>?_
  have a5:Ie bK h.size ⟨BQ f++ [],false⟩:=by rw[AM];exact ar.ah an (by omega)
  refine G8 a5 (by grind) λcD au av=>⟨_,rfl,?_⟩
  rw[IW (by omega)] at au ⊢;dsimp only at au ⊢;have bM:=av.ah bL (by omega);refine ae.mk bM (by simp) λB J aw cE=>?_
  have bN:=aw.ah au (show h.size≠q by omega);have J:B[q]? =some (J2 #[J4 o.p o.len o.cap,J4 (BA sl.p sl.cap 0 1) (Br l) sl.cap,J7 (AY f),J6 J9 (l.length:Int)] Md (0,0)):=by simpa using J
  have ax:Own IY BF B o (CV l):=by have Y:=F.mod ap (λc d e=>R F w (e▸d));have ay:=Y.mod ar (λc d e=>by have:=G c d;omega);have L:=ay.mod av (λc d e=>R ay a5 (e▸d));exact L.mod aw (λc d e=>by have:=G c d;omega)
  have M:Mod (λc=>c=h.size\/q<=c) S B:=
   (((aY.trans (ap.aj λc _ d=> .inl d)).trans (ar.aj λc _ d=> .inr (by omega))).trans (av.aj λc _ d=> .inl d)).trans (aw.aj λc _ d=> .inr (by omega))
  have cF:h.size<=q:=by omega
  have bP:Ext e B:=by refine⟨by have:=U.size;have:=M.size;omega,λc d _=>?_⟩;have:=C.size;have:=U.size;exact(M.get c (by omega) (by omega)).trans (U.get c d (λe=>e))
  have a6: ∀ {g:aa},Ext B g-> ∀c,sl.ah=some c->g[c]? =h[c]? :=by intro g x c d;have:=aI c d;have cG:=M.size;have:=D.size;have:=Q.size;exact((x.get c (by omega) (λe=>e)).trans (M.get c (by omega) (by omega))).trans ((D.get c (by omega) (λe=>e)).trans (Q.get c (by omega) (λe=>e)))
  have bQ: ∀c,Sl.ah ⟨BA sl.p sl.cap 0 1,Br l,sl.cap⟩=some c->e.size<=c/\c<h.size:=λc d=>aI c (Z0 d)
  refine ai.mk λcH a7=>?_
  refine MU bN ⟨_,rfl,af.no rfl ?_⟩;have bS:f≠ []:=λaW=>by simp_all
  refine AJ.mk (AO J rfl) (af.no ?_ ?_)
  ·rw[Xd,EN,decide_eq_false_iff_not];exact bS
  refine AJ.mk (AO J rfl) ?_;refine a7 _ _ (af.no (by rw[AP];simp;omega) ?_);clear a7;refine Loop.rule (λm x g=> ∃i:Nat,x=(Yj l (min (8*i) l.length),((min (8*i) l.length:Nat):Int),(i:Int),())/\m=Br l-i/\i<=Br l/\Ext B g) ?_ ⟨0,by simp[Yj],rfl,by omega,Mod.refl⟩;rintro cI m _ bT ⟨i,rfl,rfl,hi,u⟩ bU;dsimp only;have Z:=Ao u J;refine af.intro (λr=>?_) (λr=>?_)
  ·have y:i<Br l:=by simp at r;omega
   have cJ:=Qn y;have cK:8*i<l.length:=by unfold Br at y;omega
   have bV:min (8*i) l.length=8*i:=by omega
   rw[bV];have bW:((Kj l).map λb=>AY (BP b))[i]? =some (AY (BP (CG l i))):=by simp[Kj,y]
   refine(aS (a6 u)).idx bW λY cL bX=>?_
   rw[A6];refine AJ.mk bX.str ?_;have bY: ∀p∈CG l i,Lg p:=λp bZ=>T.ok p (Po bZ)
   have cM:=Qt T.ok y;refine rD bY (by omega) λps A az aA cN=>⟨_,_,rfl,?_⟩
   have a8:=Ao aA Z;have b0:ps.len=(CG l i).length:=az.len;refine ai.mk λa9 b1=>?_
   have aC:(CG l i)[0]? =some (CG l i)[0]:=A2 (by omega);have ba:Iy l (8*i)=(CG l i)[0].key:=by have:=QN (l:=l) (i:=i) (j:=0) (by omega);rw[aC] at this;unfold Iy;rw[G0] at this;rw[<- this]
   generalize (CG l i)[0]=bb at aC ba;have go:a9 (false,()) A:=by
    refine b1 _ _ (af.no rfl ?_);refine Loop.rule (λm x g=> ∃j:Nat,x=(Yj l (8*i+j),((8*i+j:Nat):Int),(j:Int),())/\m=(CG l i).length-j/\j<=(CG l i).length/\Ext A g) ?_ ⟨0,by simp,rfl,by omega,Mod.refl⟩;rintro cO m _ cP ⟨j,rfl,rfl,aV,ab⟩ b2;dsimp only;refine af.intro (λr=>?_) (λr=>?_)
    ·have N:j<(CG l i).length:=by grind
     have z:(CG l i)[j]? =some (CG l i)[j]:=A2 N;have aD:(CG l i)[j]∈l:=Po (AW N);have aE:l[8*i+j]? =some (CG l i)[j]:=by rw[<- QN (by omega)];exact z
     generalize (CG l i)[j]=p at z aD aE;have b3:=T.ok p aD;refine(az.ext ab).view.idx z λay cQ b4=>?_
     obtain⟨b5,b6,c2⟩:=b4.pair;rw[A6];refine AJ.mk b5 (AJ.mk b6 (Aa.mk c2 ?_));refine ao.pair λcR cS cT aF bc cU=>?_
     refine ai.mk λcV b7=>?_
     refine AJ.mk (AO aF rfl) ?_;rw[ARX T.ok T.inc aE];refine af.no rfl ?_;have b8:=Ao bc (Ao ab a8);refine AJ.mk (AO b8 rfl) ?_;refine AJ.mk (AO aF rfl) ?_;have a1:=b3.bK;refine yE (by omega) ⟨_,rfl,?_⟩;rw[EN,T.has p aD];refine b7 _ _ (af.no rfl ?_);refine AJ.mk (AO aF rfl) ?_;rw[Ae (by omega),Ae (by omega)];refine b2 ((CG l i).length-(j+1)) _ _ (by omega) ⟨j+1,?_,rfl,N,ab.trans bc⟩;have b9:Yj l (8*i+(j+1))=p.key:=by show Iy l (8*i+j)=p.key;unfold Iy;rw[aE]
     rw[b9];rfl
    ·have N:j=(CG l i).length:=by grind
     rw[Ae (by omega)];have aG:min (8*(i+1)) l.length=8*i+j:=by rw[N];unfold CG;rw[Ax,DQ];omega
     refine bU (Br l-(i+1)) _ _ (by omega) ⟨i+1,?_,rfl,y,(u.trans aA).trans ab⟩;rw[aG]
   have bd:bI ps.p ps.len 0 λL=>AJ A (L.add ((0:Int).toNat*3)) λca=>AZ A (⟨q,0,none⟩:Q6) λbe=>bI be.p be.len ((i:Nat):Int) λbf=>AJ A (bf.add (((i:Nat):Int).toNat*1)) λcb=>a9 ((!bO ca cb),()) A:=by
    obtain⟨L,cc,bg⟩:=az.view.cells 0 bb aC;rw[HT,add_zero] at bg;refine bI.mk (k:=0) cc (by omega) ?_;refine AJ.mk (n:=bb.key) (by show ag A (L.add 0)=_;rw[add_zero];exact bg.pair.1) ?_;refine AZ.mk (s:=o) (AO a8 rfl) ?_;refine((ax.ext u).ext aA).view.idx (RX y) λbf cW cd=>?_
    rw[A6];refine AJ.mk cd.str ?_;rw[ba,Bw,decide_eq_true rfl];exact go
   refine af.no rfl (af.no (by grind) (af.no (by rw[b0];simp;omega) ?_));rw[Ae (by omega)];refine af.intro (λr=>?_) (λ_=>bd);have:i+1<Br l:=by simp at r;omega
   exact af.no (by grind) bd
  ·have y:i=Br l:=by simp at r;omega
   have aG:min (8*i) l.length=l.length:=by rw[y];omega
   rw[aG];refine AC.mk (AO Z rfl) (af.no (by simp) ?_);refine bi bT q (bP.trans u) ⟨⟨o,⟨BA sl.p sl.cap 0 1,Br l,sl.cap⟩,Z,(ax.ext u).view,aS (a6 u),λc d=>?_,λc d=>?_⟩,?_⟩
   ·have h:=(ax.ext u).lt d;have:=G c d;have:=C.size;omega
   ·have h:=bQ c d;have:=M.size;have:=u.size;have:=D.size;have:=Q.size;omega
   ·have:=Ai Z;have:=C.size;omega
def Wj(g:aq)(h:Int)(f:J0)(i:aa)(j:A2K):=Loop (λK (s:Int×Int×Unit) a=>af (decide (s.1<s.2.1)) (ai (λ(b:Int×Int×Unit) k=>K (b.1,b.2.1,()) k) λc=>Ed g P f #[J6 J9 (J8 J9 ((J8 .u64 (J8 J9 (s.1+s.2.1))).fdiv ((2:Int)^(1:Nat))))] a λv d=> ∃e:Bool,v=J3 e/\(af (!e) (c ((J8 J9 ((J8 J9 ((J8 .u64 (J8 J9 (s.1+s.2.1))).fdiv ((2:Int)^(1:Nat))))+1)),s.2.1,()) d) (c (s.1,(J8 J9 ((J8 .u64 (J8 J9 (s.1+s.2.1))).fdiv ((2:Int)^(1:Nat)))),()) d))) (j (J6 J9 s.1) a)) (0,h,()) i
theorem ACb {a b f c d}(e:Wj a b f c d):AA a P Pq #[J6 J9 b,f] c d:=Ad (CY 2 (AL (.block (.loop [(5,.one (.int J9)),(6,.one (.int J9))] [1] (AL Fq (.bH [(5,.one (.int J9)),(6,.one (.int J9))] [1] jS)))) Bl)) (by kernel_rfl) e
def Gt(b:aq)(s:Sl)(v:Int)(c:aa)(d:A2K):=AA b P Iu #[J4 s.p s.len s.cap,J6 J9 v] c λv1 e=> ∃a:Int,v1=J6 J9 a/\(d (J3 (decide (a>=0))) e)
theorem Lj {a s v b c}(d:Gt a s v b c):AA a P Ei #[J4 s.p s.len s.cap,J6 J9 v] b c:=Ad FC (by kernel_rfl) d
def Im(g:aq)(s:Sl)(v:Int)(e:aa)(d:A2K):=Loop (λK (b:Int×Unit) c=>af (decide (b.1<(s.len:Int))) (bI s.p s.len b.1 λa=>AC J9 c (a.add (b.1.toNat*1)) λf=>af (v==f) (d (J6 J9 b.1) c) (K ((J8 J9 (b.1+1)),()) c)) (d (J6 J9 (-1)) c)) (0,()) e
theorem NK {a s v b c}(d:Im a s v b c):AA a P Iu #[J4 s.p s.len s.cap,J6 J9 v] b c:=Ad qf (by kernel_rfl) d
def IJ(b:aq)(s:Sl)(i:Int)(v:Sl)(e:aa)(d:A2K):=aH ((0:Int)<=i/\i<=(s.len:Int))<| af ((v.len:Int)==0) (d (J4 s.p s.len s.cap) e) (af (i==(s.len:Int)) (BJ b P (Builtin.append_ #[DJ,DJ] DJ #[J4 s.p s.len s.cap,J4 v.p v.len v.cap]) e λv1 h=> ∃c:Sl,v1=J4 c.p c.len c.cap/\(d (J4 c.p c.len c.cap) h)) (af (decide ((J8 J9 ((s.len:Int)+(v.len:Int)))>(s.cap:Int))) (aH ((0:Int)<=i/\i<=(s.cap:Int))<| BJ b P (Builtin.append_ #[DJ,Bp] DJ #[J4 (BA s.p s.cap 0 1) (i.toNat-0) (s.cap-0),J6 J9 (J8 J9 ((J8 J9 ((s.len:Int)+(v.len:Int)))-i))]) e λv2 j=> ∃a:Sl,v2=J4 a.p a.len a.cap/\(aH ((0:Int)<=i/\i<=(a.len:Int))<| BJ b P (Builtin.copy_ #[DJ,DJ] Bp #[J4 (BA a.p a.cap i.toNat 1) (a.len-i.toNat) (a.cap-i.toNat),J4 v.p v.len v.cap]) j λk l=> ∃m:Int,k=J6 J9 m/\(aH ((0:Int)<=(J8 J9 (i+(v.len:Int)))/\(J8 J9 (i+(v.len:Int)))<=(a.len:Int))<| aH ((0:Int)<=i/\i<=(s.len:Int))<| BJ b P (Builtin.copy_ #[DJ,DJ] Bp #[J4 (BA a.p a.cap ((J8 J9 (i+(v.len:Int))).toNat) 1) (a.len-((J8 J9 (i+(v.len:Int))).toNat)) (a.cap-((J8 J9 (i+(v.len:Int))).toNat)),J4 (BA s.p s.cap i.toNat 1) (s.len-i.toNat) (s.cap-i.toNat)]) l λn o=> ∃p:Int,n=J6 J9 p/\(d (J4 a.p a.len a.cap) o)))) (aH ((0:Int)<=(J8 J9 ((s.len:Int)+(v.len:Int)))/\(J8 J9 ((s.len:Int)+(v.len:Int)))<=(s.cap:Int))<| aH ((0:Int)<=(J8 J9 (i+(v.len:Int)))/\(J8 J9 (i+(v.len:Int)))<=(((((J8 J9 ((s.len:Int)+(v.len:Int))).toNat)-0):Nat):Int))<| nz b P Gh #[J4 v.p v.len v.cap,J4 (BA (BA s.p s.cap 0 1) (s.cap-0) ((J8 J9 (i+(v.len:Int))).toNat) 1) ((((J8 J9 ((s.len:Int)+(v.len:Int))).toNat)-0)-((J8 J9 (i+(v.len:Int))).toNat)) ((s.cap-0)-((J8 J9 (i+(v.len:Int))).toNat))] e λq f=> ∃g:Bool,q=J3 g/\(af (!g) (aH ((0:Int)<=(J8 J9 (i+(v.len:Int)))/\(J8 J9 (i+(v.len:Int)))<=(((((J8 J9 ((s.len:Int)+(v.len:Int))).toNat)-0):Nat):Int))<| aH ((0:Int)<=i/\i<=(((((J8 J9 ((s.len:Int)+(v.len:Int))).toNat)-0):Nat):Int))<| BJ b P (Builtin.copy_ #[DJ,DJ] Bp #[J4 (BA (BA s.p s.cap 0 1) (s.cap-0) ((J8 J9 (i+(v.len:Int))).toNat) 1) ((((J8 J9 ((s.len:Int)+(v.len:Int))).toNat)-0)-((J8 J9 (i+(v.len:Int))).toNat)) ((s.cap-0)-((J8 J9 (i+(v.len:Int))).toNat)),J4 (BA (BA s.p s.cap 0 1) (s.cap-0) i.toNat 1) ((((J8 J9 ((s.len:Int)+(v.len:Int))).toNat)-0)-i.toNat) ((s.cap-0)-i.toNat)]) f λr t=> ∃u:Int,r=J6 J9 u/\(aH ((0:Int)<=i/\i<=(((((J8 J9 ((s.len:Int)+(v.len:Int))).toNat)-0):Nat):Int))<| BJ b P (Builtin.copy_ #[DJ,DJ] Bp #[J4 (BA (BA s.p s.cap 0 1) (s.cap-0) i.toNat 1) ((((J8 J9 ((s.len:Int)+(v.len:Int))).toNat)-0)-i.toNat) ((s.cap-0)-i.toNat),J4 v.p v.len v.cap]) t λw x=> ∃y:Int,w=J6 J9 y/\(d (J4 (BA s.p s.cap 0 1) (((J8 J9 ((s.len:Int)+(v.len:Int))).toNat)-0) (s.cap-0)) x))) (aH ((0:Int)<=(s.len:Int)/\(s.len:Int)<=(((((J8 J9 ((s.len:Int)+(v.len:Int))).toNat)-0):Nat):Int))<| BJ b P (Builtin.copy_ #[DJ,DJ] Bp #[J4 (BA (BA s.p s.cap 0 1) (s.cap-0) ((s.len:Int).toNat) 1) ((((J8 J9 ((s.len:Int)+(v.len:Int))).toNat)-0)-((s.len:Int).toNat)) ((s.cap-0)-((s.len:Int).toNat)),J4 v.p v.len v.cap]) f λz A=> ∃B:Int,z=J6 J9 B/\(aH ((0:Int)<=i/\i<=(((((J8 J9 ((s.len:Int)+(v.len:Int))).toNat)-0):Nat):Int))<| AA b P Io #[J4 (BA (BA s.p s.cap 0 1) (s.cap-0) i.toNat 1) ((((J8 J9 ((s.len:Int)+(v.len:Int))).toNat)-0)-i.toNat) ((s.cap-0)-i.toNat),J6 J9 (v.len:Int)] A λC D=>C=J1 #[]/\(d (J4 (BA s.p s.cap 0 1) (((J8 J9 ((s.len:Int)+(v.len:Int))).toNat)-0) (s.cap-0)) D)))))))
theorem NH {a s i v b c}(d:IJ a s i v b c):AA a P DK #[J4 s.p s.len s.cap,J6 J9 i,J4 v.p v.len v.cap] b c:=Ad uw (by kernel_rfl) d
end Go.Lf.G
namespace Go.Lf.G.M
open Go Go.Lf Go.Lf.G
theorem toList_inj {a b:A2L}:(a.toList==b.toList)=decide (a=b):=by rw[ByteArray.toList_eq,ByteArray.toList_eq];rw[DS];simp[Mz,<-Array.toList_inj]
def Ah(x:Pr):Int:=
 if(decide (x.key=⟨#[]⟩)||(x.gone&& !decide (x.val=⟨#[]⟩))) then 1 else if(decide (x.key.size>64)||decide (x.val.size>8192)) then 2 else 0
theorem Bw {a b:A2L}:bO a b=decide (a=b):=toList_inj
def ia(key:A2L)(l:List Pr):List Pr:=l.takeWhile λa=>aM a.key key
def aO(key:A2L)(l:List Pr):Nat:=(ia key l).length
def BC(key:A2L)(l:List Pr):Bool:=match l[aO key l]? with|some a=>decide (a.key=key)|none=>false
theorem mP(key:A2L)(l:List Pr):aO key l<=l.length:=(Zs _).length_le
theorem Uz {e:Type}{p:e->Bool}: ∀ {l:List e} {i:Nat},i<=(l.takeWhile p).length->(∀ x,l[i]? =some x->p x=true->i<(l.takeWhile p).length)/\(∀ x,l[i]? =some x->p x=false->i=(l.takeWhile p).length)/\(l[i]? =none->i=(l.takeWhile p).length)
 | [],i,a=>by simp at a;subst a;simp
 |y::l,0,a=>by
  refine⟨λx b c=>?_,λx b c=>?_,λa=>by simp at a⟩
  ·simp at b;subst b;simp[c]
  ·simp at b;subst b;simp[c]
 |y::l,i+1,a=>by
  rw[MA] at a ⊢;split at a
  ·rename_i f;have d:=Uz (p:=p) (l:=l) (i:=i) (by simpa using a);simp only[f,if_true,A5];refine⟨λx b c=>?_,λx b c=>?_,λg=>?_⟩
   ·have:=d.1 x (by simpa using b) c;omega
   ·have:=d.2.1 x (by simpa using b) c;omega
   ·have:=d.2.2 (by simpa using g);omega
  ·simp at a
theorem G6:QF P AQ AR BR.w 40=true:=by kernel_rfl
theorem AN8:QF P JN AQ ib.w 24=true:=by kernel_rfl
theorem ARm:QF P BD Bj jV.w 8=true:=by kernel_rfl
def YD(x:Pr)(l:List Pr):List Pr:=l.take (aO x.key l)++ [x]++l.drop (if BC x.key l then aO x.key l+1 else aO x.key l)
def CZ(x:Pr)(l:List Pr):List Pr:=if Ah x≠0 then l else YD x l
theorem APA(x:Pr)(l:List Pr):(YD x l).length<=l.length+1:=by unfold YD;have:=mP x.key l;simp;split<;>omega
theorem ANz(x:Pr)(l:List Pr):(CZ x l).length<=l.length+1:=by
 unfold CZ;split
 ·omega
 ·exact APA x l
theorem qx {a:J0}{c:J0}:(#[]++ #[a]++ #[c]:Array J0)= #[a,c]:=rfl
theorem AGf {G:aq}{e H:aa}{fv:J0}{S:Nat->Prop}{l:List Pr}{I:A2K}(J:EQ G P fv S H l)(K: ∀b,S b->e[b]? =H[b]?)(ax:l.length<=1099511627776)
  (ac: ∀s h,Own BR AR h s l->(∀ c,s.ah=some c->e.size<=c)->Ext e h->I (J4 s.p s.len s.cap) h):AA G P DD #[J4 none 0 0,fv] e I:=by
 refine IE (s:=⟨none,0,0⟩) ?_;unfold Eb;refine ao.mk λo _ a L ay=>?_
 have M: ∀b,S b->b<e.size:=λb a=>by
  have:=K b a;rw[Ft (J.1 b a)] at this;exact Ai this
 have ad: ∀h:aa,Mod (λc=>c=e.size) o h->Ext e h:=λh m=>L.then (m.aj λc _ j=> .inr (by omega))
 refine XW J (λb a=>(L.get b (M b a) (by simp)).trans (K b a))
  (λi c y p=>c=none/\ ∃s:Sl,p[e.size]? =some (J2 #[J4 s.p s.len s.cap] AQ (0,0))/\Own BR AR p s (l.take i)/\(∀ b,y b↔(b=e.size\/s.ah=some b))/\(∀ b,s.ah=some b->b<p.size/\e.size<b))
  (λb=>b=e.size) (λb a d=>by have:=M b a;omega) ?_ ?_ ?_ ?_ ?_ ?_
 ·rintro i c y p ⟨_,s,q,r,f,k⟩ b a;rcases(f b).1 a with rfl|n
  ·exact Ai q
  ·exact(k b n).1
 ·rintro i c y p h ⟨d,s,q,r,f,k⟩ m;refine⟨d,s,m.ah q (λz=>z.1 ((f _).2 (.inl rfl))),r.mod m (λc j z=>z.1 ((f _).2 (.inr j))),f,λb a=>⟨?_,(k b a).2⟩⟩;have:=m.size;have:=(k b a).1;omega
 ·exact⟨rfl,⟨none,0,0⟩,a,Own.nil,λb=>by simp[Sl.ah],λb a=>by simp[Sl.ah] at a⟩
 ·rintro i x N p rec az aA O ⟨_,s,q,r,f,k⟩ Q aC af ag ah aD;have aE:=(List.getElem?_eq_some_iff.1 O).1;refine ao.pair λaF R aG ai u aH=>?_
  refine⟨rec,u.ah af (by simp),ag,?_⟩;generalize T:R.setIfInBounds (o.size+1) (.loop {rec with state:= .busy})=A;have t:Mod (λb=>b=o.size+1) R A:=T▸Mod.setObj rfl;have aj:A[o.size+1]? =some (.loop {rec with state:= .busy}):=by rw[<- T];exact Cb (by omega)
  have aI:=Ai q;have B:=t.ah ai (by omega);have U:=t.ah (u.ah q (by simp)) (by omega);have ak:=(r.ext u).mod t (λc j d=>Q ((f _).2 (.inr (d▸j))));refine AZ.mk (AO U rfl) (AJ.mk (AO B rfl) (AJ.mk (AB B rfl) (Aa.mk (AB B rfl) ?_)));have V:(l.take i).length=i:=by simp;omega
  refine ao.aY (E:=BR) (x:=x) rfl G6 ak (by rw[V];omega) (by rw[V];simp[maxLen];omega) λW X Y v C _=>?_
  have aJ:=t.size;have al:s.ah≠some e.size:=λd=>by have:=k _ d;omega
  refine ae.mk (v.ah U al) (by simp) λam an D aK=>ah am ?_
  refine⟨λb=>b=e.size\/W.ah=some b,?_,?_,?_,rfl,W,by simpa using an,?_,λ_=>CI,?_⟩
  ·rintro b (rfl|a)
   ·exact .inl ((f _).2 (.inl rfl))
   ·rcases C b a with n|n
    ·exact .inl ((f _).2 (.inr n))
    ·exact .inr (by omega)
  ·have ap:Mod (λb=>N b\/b=o.size+1) p A:=u.mod.trans (t.aj λb _ a=> .inr a);have ar:Mod (λb=>N b\/b=o.size+1) p X:=ap.trans (v.aj λb _ a=> .inl ((f _).2 (.inr a)));exact ar.trans (D.aj λb _ a=> .inl ((f _).2 (.inl a)))
  ·refine D.ah (v.ah aj (λd=>Q ((f _).2 (.inr d)))) (by omega)
  ·have au:=Y.mod D (λc j d=>by
    rcases C c j with n|n
    ·have:=k _ n;omega
    ·omega)
   rw[As,O];exact au
  ·intro b a;have:=v.size;have aL:b<X.size:=by
    rcases Y.row with⟨rfl,_⟩|⟨g,av,F,w,_⟩
    ·simp[Sl.ah] at a
    ·simp[Sl.ah,F] at a;subst a;exact Ai w
   refine⟨by omega,?_⟩;rcases C b a with n|n
   ·exact(k _ n).2
   ·omega
 ·rintro O' h ⟨_,s,q,r,f,k⟩ Z _ aM ab;have aN:=Z.size;refine AZ.mk (AO q rfl) ⟨ab,?_⟩;rw[BT] at r;have aw:s.ah≠some o.size:=λd=>by
   rcases r.row with⟨rfl,_⟩|⟨g,av,F,w,_⟩
   ·simp[Sl.ah] at d
   ·simp[Sl.ah,F] at d;rw[d,ab] at w;cases w
  refine ac s _ (r.mod (Mod.setObj (S:=λc=>c=o.size) rfl) λc j d=>aw (d▸j)) (λc j=>by have:=k _ j;omega) ?_;exact(ad h Z).then (Mod.setObj (.inr (by omega)))
 ·rintro i aO O' h ⟨d,_⟩;cases d
theorem Wm {e:aq}{d f:aa}{fv:J0}{g:Nat->Prop}{l:List Pr}{h:A2K}(i:EQ e P fv g f l)(j: ∀b,g b->d[b]? =f[b]?)(k:l.length<=1099511627776)
  (m: ∀s a,Own BR AR a s l->(∀ c,s.ah=some c->d.size<=c)->Ext d a->h (J4 s.p s.len s.cap) a):AA e P DC #[fv] d h:=by
 refine Mk ?_;unfold IR;exact AGf i j k λs a n o p=>⟨s,rfl,m s a n o p⟩
def BG(l:List Pr):List Pr:=l.filter λx=> !x.gone
theorem vF {b:Type}{p:b->Bool}: ∀ {l:List b} {i:Nat} {x:b},l[i]? =some x->p x=true->(l.filter p)[((l.take i).filter p).length]? =some x
 | [],i,x,a,_=>by simp at a
 |y::l,0,x,a,c=>by simp at a;subst a;simp[c]
 |y::l,i+1,x,a,c=>by
  have d:=vF (p:=p) (l:=l) (i:=i) (by simpa using a) c;rw[I0,AS,AS];split
  ·simpa using d
  ·exact d
theorem AEs {a:Type}{p:a->Bool}(l:List a)(i:Nat):((l.take i).filter p).length<=(l.filter p).length:=((List.take_sublist i l).filter p).length_le
theorem APw {Y:aq}{D:aa}{b:Nat}{T:Q7}{fr:Nat×Nat}{fv:J0}{z:Nat->Prop}{l:List Pr}(a:D[b]? =some (J2 #[fv] T fr))(h:(fv= .nilFunc/\l= []/\ ∀c,¬z c)\/EQ Y P fv z D l):
  EQ Y P (.func (.func Ox) #[] #[J5 (some ⟨b,0,none⟩)]) (λc=>z c\/c=b) D (BG l):=by
 have aw:=Ai a;refine⟨?_,_,_,rfl,λZ=>by kernel_rfl,λd E Z w F ax hd hB ay G=>?_⟩
 ·rintro c (n|rfl)
  ·rcases h with h|h
   ·exact absurd n (h.2.2 c)
   ·exact h.1 c n
  ·exact aw
 rw[qx];refine ABD ?_;unfold Ul;refine ZA.mk ax (ao.mk λu _ az q aJ=>?_);have ab:u[b]? =some (J2 #[fv] T fr):=by have r:=(E b (.inr rfl)).trans a;exact q.ah r (by simp)
 refine SS.mk (AO ab rfl) ?_;rcases h with⟨rfl,rfl,_⟩|h
 ·refine⟨trivial,af.yes rfl ?_⟩;exact⟨rfl,0,true,F,q.mod,λb a=> .inl a,hB.ba _ _ _ _ _ G (q.aj λ_ _ d=>d.elim),λ_=>rfl,by simp⟩
 ·refine⟨h.one.2.1,af.no h.one.2.2 ?_⟩;refine SS.mk (AO ab rfl) ?_;have aA:=hB.wf _ _ _ _ G;have aC: ∀b,z b->b<d.size:=λb a=>by
   have:=E b (.inl a);rw[Ft (h.1 b a)] at this;exact Ai this
  have aD:=hB.ba _ _ _ _ _ G (q.aj (S':=λb=>¬F b/\d.size<=b) λ_ _ d=>d.elim);refine XW h (λc n=>(q.get c (aC c n) (by simp)).trans (E c (.inl n)))
   (λi c e j=>j[d.size]? =some (J2 #[Z] Mi (0,0))/\ ¬e d.size/\match c with
    |none=>w (BG (l.take i)).length true e j
    |some ac=>ac=none/\ ∃s,s<=(BG l).length/\w s false e j)
   F (λc n=>hd c (.inl n)) ?_ ?_ ?_ ?_ ?_ ?_
  ·rintro i c e j ⟨_,_,f⟩;cases c
   ·exact hB.wf _ _ _ _ f
   ·obtain⟨_,s,_,H⟩:=f;exact hB.wf _ _ _ _ H
  ·rintro i c e j I ⟨r,t,f⟩ m;refine⟨m.ah r (λd=>by omega),t,?_⟩;have ad:Mod (λb=>¬e b/\d.size<=b) j I:=m.aj λb _ a=>⟨a.1,by omega⟩
   cases c
   ·exact hB.ba _ _ _ _ _ f ad
   ·obtain⟨H,s,J,aE⟩:=f;exact⟨H,s,J,hB.ba _ _ _ _ _ aE ad⟩
  ·exact⟨az,λd=>by have:=aA _ d;omega,aD⟩
  ·rintro i x e j rec aK aL L ⟨r,t,f⟩ M aM aF aG ae aH;refine ao.pair λaN ag aO aI N aP=>?_
   refine⟨rec,N.ah aF (by simp),aG,?_⟩;generalize k:ag.setIfInBounds (u.size+1) (.loop {rec with state:= .busy})=v;have y:Mod (λb=>b=u.size+1) ag v:=k▸Mod.setObj rfl;have O:v[u.size+1]? =some (.loop {rec with state:= .busy}):=by rw[<- k];exact Cb (by omega)
   have A:=y.ah aI (by omega);have Q:=y.ah (N.ah r (by simp)) (by omega);have R:Mod (λb=>b=u.size+1) j v:=(Ext.mod N).trans y;have ah:w (BG (l.take i)).length true e v:=hB.ba _ _ _ _ _ f (R.aj λb _ a=>by subst a;exact⟨M,by omega⟩);have aj:BG (l.take (i+1))=BG (l.take i)++BG [x]:=by rw[As,L];simp[BG]
   refine ai.mk λK ak=>?_
   refine Aa.mk (AB A rfl) ?_;refine af.intro (λo=>?_) (λo=>?_)
   ·have o:(!x.gone)=true:=o;refine SS.mk (AO Q rfl) ?_;refine AJ.mk (AO A rfl) (AJ.mk (AB A rfl) (Aa.mk (AB A rfl) ?_));refine Ed.mono (ay _ _ e v (vF (p:=λx:Pr=> !x.gone) L o) ah) ?_;rintro _ S ⟨g,B,rfl,al,C,am⟩;refine⟨g,rfl,ak _ _ ?_⟩;have aQ:=AEs (p:=λx:Pr=> !x.gone) l (i+1);have an:(BG (l.take (i+1))).length=(BG (l.take i)).length+1:=by rw[aj];simp only[BG,A1];simp[o]
    have ap:=C.ah Q t;have ar: ¬B d.size:=λn=>(al _ n).elim t λd=>by have:=y.size;omega
    have au:Mod (λb=>e b\/b=u.size+1) j S:=(R.aj λb _ a=> .inr a).trans (C.aj λb _ a=> .inl a);have av: ∀b,B b->e b\/j.size<=b:=λb a=>(al b a).elim .inl λd=> .inr (by have:=y.size;omega)
    refine af.intro (λk=>aH none S ?_) (λk=>ae S ?_)
    ·have k:g=false:=by simpa using k
     subst k;exact⟨B,av,au,C.ah O M,ap,ar,rfl,_,by have:=an;unfold BG at *;omega,am⟩
    ·have k:g=true:=by simpa using k
     subst k;exact⟨B,av,au,C.ah O M,ap,ar,by show w _ _ _ _;rw[an];exact am⟩
   ·have o:(!x.gone)=false:=o;refine ak _ _ (af.no rfl (ae v ?_));refine⟨e,λb a=> .inl a,R.aj λb _ a=> .inr a,O,Q,t,?_⟩;show w _ _ _ _;have:BG [x]= []:=by simp at o;simp[BG,o]
    rw[aj,this,AM];exact ah
  ·rintro O' I ⟨r,t,f⟩ U V W X;refine⟨X,rfl,(BG l).length,true,O',?_,?_,?_,λ_=>rfl,A0 _⟩
   ·exact(q.mod.trans U).then (Mod.setObj (.inr (by omega)))
   ·intro b a;exact(W b a).elim .inl λd=> .inr (by omega)
   ·rw[BT] at f;exact hB.ba _ _ _ _ _ f (Mod.setObj ⟨V,by omega⟩)
  ·rintro i ac O' I ⟨r,t,rfl,s,J,f⟩ L U V W X;refine⟨X,rfl,s,false,O',?_,?_,?_,(λd=>by cases d),J⟩
   ·exact(q.mod.trans U).then (Mod.setObj (.inr (by omega)))
   ·intro b a;exact(W b a).elim .inl λd=> .inr (by omega)
   ·exact hB.ba _ _ _ _ _ f (Mod.setObj ⟨V,by omega⟩)
theorem sj {f:aq}{d:aa}{fv:J0}{g:Nat->Prop}{l:List Pr}{i:A2K}(a:(fv= .nilFunc/\l= []/\ ∀c,¬g c)\/EQ f P fv g d l)
  (m: ∀j e,EQ f P j (λc=>g c\/c=d.size) e (BG l)->Ext d e->e.size=d.size+1->i j e):AA f P Ns #[fv] d i:=by
 refine AEU ?_;unfold YQ;refine ZA.mk ?_ (ao.mk λn _ o k p=>?_)
 ·rcases a with a|a
  ·rw[a.1];rfl
  ·exact a.one.1
 ·refine m _ n (APw o ?_) k p;rcases a with a|a
  ·exact .inl a
  ·exact .inr (a.aj (λ_=>id) (λb h=>by have:=a.1 b h;omega) (λb h=>k.get b (a.1 b h) (by simp)))
def RH(a:A2L)(x:Pr):Bool:=decide (a=⟨#[]⟩)||aM x.key a
def Pn(a:A2L)(b:Int)(l:List Pr):List Pr:=(l.takeWhile (RH a)).take b.toNat
theorem nK {b:Type}{p:b->Bool}: ∀ {l:List b} {i:Nat},i<=(l.takeWhile p).length->(l.takeWhile p).take i=l.take i
 | [],i,_=>by simp
 |y::l,0,_=>by simp
 |y::l,i+1,a=>by
  rw[MA] at a ⊢;split at a
  ·rename_i c;simp only[c,if_true,I0];rw[nK (by simpa using a)]
  ·simp at a
theorem Qv: ∀(a:List UInt8),Op.bytesLess a a=false
 | []=>rfl
 |a::x=>by simp[Op.bytesLess,Qv x]
theorem lR: ∀(a b:List UInt8),Op.bytesLess a b=false->Op.bytesLess b a=false->a=b
 | [],[],_,_=>rfl
 | [],_::_,c,_=>by simp[Op.bytesLess] at c
 |_::_,[],_,c=>by simp[Op.bytesLess] at c
 |a::x,b::f,d,e=>by
  simp only[Op.bytesLess,Hk,Jx,decide_eq_false_iff_not,beq_eq_false_iff_ne] at d e;have g:a=b:=by grind
  subst g;rw[lR x f (d.2.resolve_left (by simp)) (e.2.resolve_left (by simp))]
theorem Td: ∀(a b c:List UInt8),Op.bytesLess a b=true->Op.bytesLess b c=true->Op.bytesLess a c=true
 |_,[],_,f,_=>by simp[Op.bytesLess] at f
 |_,_::_,[],_,f=>by simp[Op.bytesLess] at f
 | [],_::_,_::_,_,_=>by simp[Op.bytesLess]
 |a::x,b::g,c::z,e,d=>by
  simp only[Op.bytesLess,DE,A4,decide_eq_true_eq,beq_iff_eq] at e d ⊢;rcases e with e|⟨rfl,e⟩
  ·grind
  ·rcases d with d|⟨rfl,d⟩
   ·exact .inl d
   ·exact .inr ⟨rfl,Td x g z e d⟩
theorem Ca(a:A2L):aM a a=false:=Qv _
theorem Da {a b c:A2L}(d:aM a b=true)(e:aM b c=true):aM a c=true:=Td _ _ _ d e
theorem N7 {a b:A2L}(d:aM a b=false)(e:aM b a=false):a=b:=by
 have:=lR _ _ d e;have c:bO a b=true:=by simp[bO,this]
 rw[Bw] at c;simpa using c
theorem OQ {a b:A2L}(c:aM a b=true):aM b a=false:=by grind [aM,Da,Ca]
theorem nL {a b c:A2L}(d:aM a b=true)(e:aM c b=false):aM a c=true:=by grind [aM,N7,Da]
theorem ZY {a b c:A2L}(d:aM b a=false)(e:aM c b=false):aM c a=false:=by grind [aM,nL]
def upto(p a:Pr):Bool:=aM a.key p.key||bO a.key p.key
def Ip(p:Pr)(l:List Pr):List Pr:=l.dropWhile (upto p)
inductive Ls:List (List Pr)->List Pr->Prop
 |done {ls:List (List Pr)} (h: ∀l,l∈ls->l= []):Ls ls []
 |step {ls:List (List Pr)} {k:Nat} {p:Pr} {t out:List Pr} (hk:ls[k]? =some (p::t))
   (hmin: ∀j q u,ls[j]? =some (q::u)->aM q.key p.key=false/\(j<k->aM p.key q.key=true)) (hm:Ls (ls.map (Ip p)) out):Ls ls (p::out)
theorem Ls.iv {a:List (List Pr)}{out:List Pr}(m:Ls a out)(b: ∀l,l∈a->l= []):out= []:=by
 cases m with
 |done _=>rfl
 |step c d e=>have:=b _ (AK c);cases this
theorem Ls.gy {a:List (List Pr)}{out:List Pr}(m:Ls a out){c:Nat}{p:Pr}{t:List Pr}(f:a[c]? =some (p::t))
  (h: ∀d b u,a[d]? =some (b::u)->aM b.key p.key=false/\(d<c->aM p.key b.key=true)): ∃e,out=p::e/\Ls (a.map (Ip p)) e:=by
 cases m with
 |done g=>have:=g _ (AK f);cases this
 | @step _ i j k l n o q=>
  grind
theorem rV {d:Type}: ∀(a:List d) (b i:Nat) (v:d),(a.set i v).take b=(a.take b).set i v
 | [],b,i,v=>by simp
 |c::a,0,i,v=>by simp
 |c::a,b+1,0,v=>by simp
 |c::a,b+1,i+1,v=>by simp[rV a b i v]
end Go.Lf.G.M
namespace Go.Lf
open G
theorem Own.ju {T:Q7}{d:aa}{s:Sl}{l:List Sl}(e:Own ib T d s l){i:Nat}(y:i<l.length){x:Sl}{K:aa->Prop}{a:Q6}(f:s.p=some a)
  (q: ∀c,Own ib T c s (l.set i x)->Mod (λb=>s.ah=some b) d c->c.size=d.size->K c):ae d (a.add (i*1)) (J4 x.p x.len x.cap) K:=by
 rcases e.row with⟨rfl,_⟩|⟨g,z,h,r,t,u,n,o⟩
 ·simp at f
 ·rw[h] at f;cases f;rw[Bf,AI,Bk];have j:ib.w=1:=rfl;rw[j,Bk] at n o;have A:=e.len;refine ae.mk r (by omega) λc k m v=>q c ⟨by simpa using e.len,.inr ⟨g,_,h,k,t,u,by simp[n,j],?_⟩⟩ (m.aj λb _ k=>by simp[Sl.ah,h,k]) v
  rw[j,Bk,Ek,Go.Lf.G.M.rV,o];have p: ∀l:List Sl,l.flatMap ib.enc=l.map (λs=>Value.slice s.p s.len s.cap):=λl=>by
   induction l with
   |nil=>rfl
   |cons B l w=>rw[AH,w];rfl
  rw[p,p,Rg]
end Go.Lf
namespace Go.Lf.G.M
open Go Go.Lf Go.Lf.G
structure j8 (lo:Nat) (h:aa) (O:Nat->Prop) (t:Sl) (sls:List Sl) (ls:List (List Pr)):Prop where
 len:sls.length=ls.length
 row: ∀(j:Nat) (sl:Sl) (l:List Pr),sls[j]? =some sl->ls[j]? =some l->View BR h sl l/\l.length<=1099511627776/\ ∀c,sl.ah=some c->lo<=c/\c<h.size/\t.ah≠some c/\ ¬O c
theorem j8.mod {f:Nat}{b j:aa}{g O':Nat->Prop}{t t':Sl}{k:List Sl}{n:List (List Pr)}{o:Nat->Prop}(p:j8 f b g t k n)(m:Mod o b j)(q: ∀c,f<=c->c<b.size->t.ah≠some c-> ¬g c-> ¬o c)
  (r: ∀c,c<b.size->t'.ah=some c->t.ah=some c) (s: ∀c,c<b.size->O' c->g c):j8 f j O' t' k n:=
 ⟨p.len,λu sl l h e=>by
  obtain⟨v,w,d⟩:=p.row u sl l h e;refine⟨v.mod m λc a=>q c (d c a).1 (d c a).2.1 (d c a).2.2.1 (d c a).2.2.2,w,λc a=>?_⟩;obtain⟨h,e,x,y⟩:=d c a;have:=m.size;exact⟨h,by omega,λi=>x (r c e i),λi=>y (s c e i)⟩⟩
end Go.Lf.G.M
namespace Go.Lf
open G
theorem View.val {b:aa}{s:Sl}{c:List ic}(v:View jV b s c){i:Nat}{x:ic}(d:c[i]? =some x): ∃a,s.p=some a/\ag b (a.add (i*1))=some x.v:=by obtain⟨a,e,f⟩:=v.cells i x d;exact⟨a,e,f.val⟩
end Go.Lf
namespace Go.Lf.G.M
open Go Go.Lf Go.Lf.G
theorem ARA {a6:aq}{ad:aa}{b:Nat}{T:Q7}{fr:Nat×Nat}{s:Sl}{S:Nat->Prop}{I:List ic}{os:List (Option (List Pr))}{out:List Pr}(B:ad[b]? =some (J2 #[J4 s.p s.len s.cap] T fr))(v:View jV ad s I)
  (a7:I.length<=1099511627776) (bD:os.length=I.length)
  (bE: ∀(i:Nat) (v:ic),I[i]? =some v->(v.v= .nilFunc/\os[i]? =some none)\/ ∃l,os[i]? =some (some l)/\EQ a6 P v.v S ad l/\l.length<=1099511627776) (bF:Ls (os.filterMap id) out) (cj: ∀b,S b->b<ad.size):
  EQ a6 P (.func (.func QK) #[] #[J5 (some ⟨b,0,none⟩)]) (λc=>S c\/(c<ad.size/\(c=b\/s.ah=some c))) ad out:=by
 have bG:=Ai B;refine⟨?_,_,_,rfl,λbH=>by kernel_rfl,λf a8 bH aK R ck hd hB bJ a9=>?_⟩
 ·grind
 rw[qx];refine ADW ?_;unfold Vv;have bK:=hB.wf _ _ _ _ a9;have bL:f[b]? =some (J2 #[J4 s.p s.len s.cap] T fr):=(a8 b (.inr ⟨bG,.inl rfl⟩)).trans B;have bM: ∀i x,I[i]? =some x-> ∃a,s.p=some a/\ag f (a.add (i*1))=some x.v:=λi x hi=>by
  obtain⟨a,ba,N⟩:=v.val hi
  grind [VI,aU,Sl.ah,Qh,trans]
 have bN: ∀c,S c->c<f.size:=λc k=>by
  grind
 refine AZ.mk (AO bL rfl) ?_;refine Loop.rule (λm x J=> ∃(i:Nat) (t:Sl) (z:List Sl),x=(t,(i:Int),())/\m=I.length-i/\i<=I.length/\Ext f J/\Own ib AQ J t z/\(∀ c,t.ah=some c->f.size<=c)/\j8 f.size J R t z ((os.take i).filterMap id)/\z.length<=i) ?_
  ⟨0,⟨none,0,0⟩,[],rfl,rfl,by omega,Mod.refl,Own.nil,λc k=>by simp[Sl.ah] at k,⟨by simp,λe sl l f=>by simp at f⟩,by simp⟩
 rintro K m _ J ⟨i,t,z,rfl,rfl,hi,M,C,an,L,bb⟩ ap;refine af.intro (λr=>?_) (λr=>?_)
 ·have aA:i<I.length:=by simp[v.len] at r;omega
  have bc:=A2 aA;refine ai.mk λcl bd=>?_
  obtain⟨a,ba,N⟩:=bM i _ bc;refine bI.mk ba (by rw[v.len];exact aA) ?_;refine SS.mk (M.ag N) ?_;rcases bE i _ bc with⟨be,aL⟩|⟨l,aL,aN,bf⟩
  ·refine⟨by rw[be];trivial,af.no (by rw[be];rfl) ?_⟩;refine bd _ _ (ap (I.length-(i+1)) _ _ (by omega) ⟨i+1,t,z,by rw[Ae (by omega)],rfl,by omega,M,C,an,?_,by omega⟩);have:(os.take (i+1)).filterMap id=(os.take i).filterMap id:=by rw[As,aL];simp
   rw[this];exact L
  ·refine⟨aN.one.2.1,af.yes (by rw[aN.one.2.2];rfl) ?_⟩;refine Wm aN (λc k=>(M.get c (bN c k) (by simp)).trans (a8 c (.inl k))) bf λar W aO aC aD=>⟨ar,rfl,?_⟩
   refine ao.aY (E:=ib) (x:=ar) rfl AN8 (C.ext aD) (by omega) (by simp[maxLen];omega) λbg bP bQ aE aP _=>?_
   have bR:Ext f bP:=(M.trans aD).then (aE.aj λc _ k=> .inr (an c k));refine bd _ _ (ap (I.length-(i+1)) _ _ (by omega) ⟨i+1,bg,_,by rw[Ae (by omega)],rfl,by omega,bR,bQ,?_,?_,?_⟩)
   ·intro c k;rcases aP c k with h|h
    ·exact an c h
    ·have:=M.size;have:=aD.size;omega
   ·have G:(os.take (i+1)).filterMap id=(os.take i).filterMap id++ [l]:=by rw[As,aL];simp
    rw[G];have aF:=(L.mod aD (λc _ _ _ _ f=>f) (λc _ f=>f) (λc _ f=>f)).mod (t':=bg) aE (λc _ _ O _=>O) (λc k h=>(aP c h).elim id λq=>by omega) (λc _ f=>f);refine⟨by simp[aF.len],λe sl H h q=>?_⟩;rcases HK e z.length with A|A|A
    ·rw[GB A] at h;rw[GB (by rw[<- aF.len];exact A)] at q;exact aF.row e sl H h q
    ·subst A;rw[A08] at h;rw[aF.len,A08] at q;cases h;cases q;have cm:t.ah≠ar.ah\/ar.ah=none:=by
      cases aG:ar.ah with
      |none=>exact .inr rfl
      |some c=>
       refine .inl λG=>?_
       have:=C.lt G;have:=aC c aG;omega
     refine⟨(aO.view).mod aE λc k O=>?_,bf,λc k=>⟨?_,?_,?_,?_⟩⟩
     ·grind
     ·have:=aC c k;have:=M.size;omega
     ·have:=aO.lt k;have:=aE.size;omega
     ·intro h;have:=aO.lt k;rcases aP c h with q|q
      ·have:=C.lt q;have:=aC c k;omega
      ·omega
     ·intro h;have:=bK c h;have:=aC c k;have:=M.size;omega
    ·rw[LS (by simp;omega)] at h;cases h
   ·simp;omega
 ·have aA:i=I.length:=by simp[v.len] at r;omega
  rw[aA,<-bD,BT] at L;have bh:=hB.ba _ _ _ _ _ a9 (M.aj (S':=λb=>¬R b/\f.size<=b) λ_ _ f=>f.elim);refine Loop.rule (λm _ J=> ∃(i:Nat) (D:Nat->Prop) (z:List Sl) (j:List (List Pr)) (ae:List Pr),Ls j ae/\m=ae.length/\(∀ n,out[i+n]? =ae[n]?)/\i+ae.length=out.length/\Mod R f J/\(∀ b,D b->R b\/f.size<=b)/\aK i true D J/\
    Own ib AQ J t z/\(∀ c,t.ah=some c-> ¬D c)/\j8 f.size J D t z j/\z.length<=1099511627776) ?_
   ⟨0,R,z,_,out,bF,rfl,λn=>by rw[AI],by omega,M.mod,λb B=> .inl B,bh,C,λc k O=>by grind,L,by omega⟩
  clear ap L M C bb bh;rintro cn m _ J ⟨i,D,z,j,ae,bi,rfl,bj,bk,aQ,aR,A,C,aS,L,bb⟩ ap;have co:=hB.wf _ _ _ _ A;refine Loop.rule (λm x aH=> ∃(d:Nat) (X:Int),x=(X,(d:Int),())/\aH=J/\m=j.length-d/\d<=j.length/\((X= -1/\ ∀e l,e<d->j[e]? =some l->l= [])\/
   ∃n p u,X=(n:Nat)/\n<d/\j[n]? =some (p::u)/\ ∀e o y,e<d->j[e]? =some (o::y)->aM o.key p.key=false/\(e<n->aM p.key o.key=true))) ?_
   ⟨0,-1,rfl,rfl,rfl,by omega,.inl ⟨rfl,λe l f=>by omega⟩⟩
  rintro cp m _ aH ⟨d,X,rfl,bS,rfl,O,aT⟩ aV;subst bS;have cq:=L.len;refine af.intro (λr=>?_) (λr=>?_)
  ·have U:d<j.length:=by simp[C.len] at r;omega
   have F:=A2 U;have Y:=A2 (l:=z) (i:=d) (by omega);obtain⟨Z,bm,_⟩:=L.row d _ _ Y F;refine ai.mk λcr bn=>?_
   refine C.view.idx Y λcs _ c2=>?_
   refine AZ.mk c2.sl ?_;refine ai.mk λbo bp=>?_
   have bq:((X= -1/\ ∀e l,e<d+1->j[e]? =some l->l= [])\/
     ∃n p u,X=(n:Nat)/\n<d+1/\j[n]? =some (p::u)/\ ∀e o y,e<d+1->j[e]? =some (o::y)->aM o.key p.key=false/\(e<n->aM p.key o.key=true))->bo (false,()) aH:=λG=>
    bp _ _ (af.no rfl (bn _ _ (aV (j.length-(d+1)) _ _ (by omega) ⟨d+1,X,by rw[Ae (by omega)],rfl,rfl,by omega,G⟩)))
   have br:(∃ n p u,(d:Int)=(n:Nat)/\n<d+1/\j[n]? =some (p::u)/\ ∀e o y,e<d+1->j[e]? =some (o::y)->aM o.key p.key=false/\(e<n->aM p.key o.key=true))->bo (true,()) aH:=λG=>
    bp _ _ (af.yes rfl (bn _ _ (aV (j.length-(d+1)) _ _ (by omega) ⟨d+1,d,by rw[Ae (by omega)],rfl,rfl,by omega,.inr G⟩)))
   refine af.intro (λr=>?_) (λr=>?_)
   ·cases ah:j[d] with
    |nil=>rw[ah] at Z;have:=Z.len;simp[this] at r
    |cons o y=>
     rw[ah] at Z F;rcases aT with⟨rfl,au⟩|⟨n,p,u,rfl,bs,ab,aj⟩
     ·refine af.yes (by simp) (br ⟨d,o,y,rfl,by omega,F,λe ak al A w=>?_⟩);rcases FA e d with h|h
      ·have:=au e _ h w;cases this
      ·have:e=d:=by omega
       subst this;rw[F] at w;cases w;exact⟨Ca _,λf=>by omega⟩
     ·refine af.no (by simp) ?_;refine Z.idx (i:=0) (x:=o) rfl λct _ bT=>?_
      refine AJ.mk bT.pair.1 ?_;have av:=A2 (l:=z) (i:=n) (by omega);obtain⟨aW,_,_⟩:=L.row n _ _ av ab;refine C.view.idx av λbU _ c4=>?_
      refine AZ.mk c4.sl ?_;refine aW.idx (i:=0) (x:=p) rfl λbV _ aw=>?_
      refine AJ.mk aw.pair.1 ?_;cases aG:aM o.key p.key
      ·refine bq (.inr ⟨n,p,u,rfl,by omega,ab,λe ak al A w=>?_⟩);rcases FA e d with h|h
       ·exact aj e ak al h w
       ·have:e=d:=by omega
        subst this;rw[F] at w;cases w;exact⟨aG,λf=>by omega⟩
      ·refine br ⟨d,o,y,rfl,by omega,F,λe ak al A w=>?_⟩;rcases FA e d with h|h
       ·have q:=(aj e ak al h w).1;have W:=nL aG q;exact⟨OQ W,λ_=>W⟩
       ·have:e=d:=by omega
        subst this;rw[F] at w;cases w;exact⟨Ca _,λf=>by omega⟩
   ·have ah:j[d]= []:=by
     have:=Z.len;cases ah:j[d] with
     |nil=>rfl
     |cons o y=>rw[ah] at this;simp[this] at r
    rw[ah] at F;refine bq ?_;rcases aT with⟨rfl,au⟩|⟨n,p,u,rfl,bs,ab,aj⟩
    ·refine .inl ⟨rfl,λe l A w=>?_⟩;rcases FA e d with h|h
     ·exact au e l h w
     ·have:e=d:=by omega
      subst this;rw[F] at w;cases w;rfl
    ·refine .inr ⟨n,p,u,rfl,by omega,ab,λe ak al A w=>?_⟩;rcases FA e d with h|h
     ·exact aj e ak al h w
     ·have:e=d:=by omega
      subst this;rw[F] at w;cases w
  ·have U:d=j.length:=by simp[C.len] at r;omega
   subst U;clear aV;rcases aT with⟨rfl,au⟩|⟨n,p,u,rfl,bs,ab,aj⟩
   ·refine af.yes (by simp) ?_;have:ae= []:=bi.iv λl a7=>by
     obtain⟨e,A,G⟩:=Ds a7;exact au e l A (by grind)
    subst this;refine⟨rfl,i,true,D,aQ,aR,A,λ_=>by omega,by omega⟩
   ·refine af.no (by simp) ?_;have bW: ∀e o y,j[e]? =some (o::y)->aM o.key p.key=false/\(e<n->aM p.key o.key=true):=λe o y N=>aj e o y (List.getElem?_eq_some_iff.1 N).1 N
    obtain⟨bt,rfl,bX⟩:=bi.gy ab bW;have av:=A2 (l:=z) (i:=n) (by omega);obtain⟨aW,_,_⟩:=L.row n _ _ av ab;refine C.view.idx av λbU _ c4=>?_
    refine AZ.mk c4.sl ?_;refine aW.idx (i:=0) (x:=p) rfl λbV _ aw=>?_
    refine AJ.mk aw.pair.1 (AJ.mk aw.pair.2.1 (Aa.mk aw.pair.2.2 ?_));refine ao.pair λbY aX cu bZ aI cv=>?_
    have b0:=C.ext aI;have b1:j8 f.size aX D t z j:=L.mod aI (λc _ _ _ _ f=>f) (λc _ f=>f) (λc _ f=>f);have b2:aK i true D aX:=hB.ba _ _ _ _ _ A (aI.aj (S':=λb=>¬D b/\f.size<=b) λ_ _ f=>f.elim);have b3:t.ah≠some bY:=λG=>by have:=C.lt G;omega
    refine Loop.rule (λm x Q=> ∃(d:Nat) (V:List Sl),x=((d:Int),())/\m=j.length-d/\d<=j.length/\Mod (λc=>t.ah=some c) aX Q/\Own ib AQ Q t V/\j8 f.size Q D t V ((j.take d).map (Ip p)++j.drop d)) ?_
     ⟨0,z,rfl,rfl,by omega,Mod.refl,b0,by simpa using b1⟩
    rintro cw m _ Q ⟨d,V,rfl,rfl,O,ax,am,ay⟩ b4;have b5:V.length=j.length:=by have:=ay.len;simp at this;omega
    have aJ:=ax.ah bZ b3;refine af.intro (λr=>?_) (λr=>?_)
    ·have U:d<j.length:=by grind
     have Y:=A2 (l:=V) (i:=d) (by omega);have F:((j.take d).map (Ip p)++j.drop d)[d]? =some j[d]:=by rw[Fk (by simp;omega)];simp;rw[Fm (by omega),Mu];simp[U]
     obtain⟨Z,bm,cx⟩:=ay.row d _ _ Y F;refine am.view.idx Y λcy cz b6=>?_
     refine AZ.mk b6.sl ?_;refine Loop.rule (λm x aY=> ∃(az:Sl) (H:List Pr),x=(az,())/\aY=Q/\m=H.length/\View BR Q az H/\(∀ c,az.ah=some c->V[d].ah=some c)/\Ip p H=Ip p j[d]/\H.length<=1099511627776) ?_
      ⟨_,_,rfl,rfl,rfl,Z,λc f=>f,rfl,bm⟩
     rintro cB m _ aY ⟨az,H,rfl,b7,rfl,ac,aZ,bu,bv⟩ b8;subst b7;refine ai.mk λb9 bw=>?_
     have bx:Ip p H=H->b9 (false,()) aY:=λG=>bw _ _ (af.no rfl (by
      refine am.view.idx Y λcC ca _=>?_
      refine am.ju (i:=d) (by omega) ca λcb cc a0 cD=>?_
      refine b4 (j.length-(d+1)) _ _ (by omega) ⟨d+1,_,by rw[Ae (by omega)],rfl,by omega,ax.trans a0,cc,?_⟩;have a1:j8 f.size cb D t V ((j.take d).map (Ip p)++j.drop d):=ay.mod a0 (λc _ _ O _=>O) (λc _ f=>f) (λc _ f=>f);refine⟨?_,λe sl l h q=>?_⟩
      ·simp[b5];omega
      ·rcases HK e d with a2|a2|a2
       ·rw[JT (by omega)] at h;refine a1.row e sl l h ?_;rw[GB (by simp;omega)] at q ⊢;rw[C2,A09 (by omega)] at q ⊢;exact q
       ·subst a2;rw[HN (by omega)] at h;cases h;rw[GB (by simp;omega),C2,A09 (by omega),A2 U] at q;simp at q;subst q;rw[<- bu,G];obtain⟨_,_,k⟩:=a1.row e _ _ Y F;exact⟨ac.mod a0 λc B=>(k c (aZ c B)).2.2.1,bv,λc B=>k c (aZ c B)⟩
       ·rw[JT (by omega)] at h;refine a1.row e sl l h ?_;rw[Fk (by simp;omega)] at q ⊢;simp only[Bs,Ax,C5] at q ⊢;rw[<- q];congr 1;omega))
     refine af.intro (λr=>?_) (λr=>?_)
     ·cases H with
      |nil=>have:=ac.len;simp[this] at r
      |cons o y=>
       refine ac.idx (i:=0) (x:=o) rfl λcE _ cd=>?_
       refine AJ.mk cd.pair.1 (AJ.mk (AO aJ rfl) ?_);cases bz:(aM o.key p.key||bO o.key p.key)
       ·exact bx (by simp[Ip,upto,bz])
       ·have ce:=ac.len;simp at ce bv;refine bw _ _ (af.yes rfl ⟨⟨by omega,by show(1:Int)<=((az.len:Nat):Int);omega⟩,b8 y.length _ _ (by simp) ⟨_,y,rfl,rfl,rfl,?_,?_,?_,by omega⟩⟩)
        ·have:=ac.sub (lo:=1) (hi:=(o::y).length) (by simp) (A0 _);rw[BT,<-ac.len] at this;exact this
        ·intro c k;exact aZ c (Z0 k)
        ·rw[<- bu];simp[Ip,upto,bz]
     ·have:H= []:=by
       have:=ac.len;cases H with
       |nil=>rfl
       |cons o y=>simp[this] at r
      subst this;exact bx rfl
    ·have U:d=j.length:=by simp[am.len] at r;omega
     subst U;rw[BT,Mn,AM] at ay;refine AJ.mk (AO aJ rfl) (AJ.mk (AB aJ rfl) (Aa.mk (AB aJ rfl) ?_));have cf:aK i true D Q:=hB.ba _ _ _ _ _ b2 (ax.aj λc _ k=>⟨aS c k,an c k⟩);have cg:out[i]? =some p:=by have:=bj 0;simpa using this
     refine Ed.mono (bJ i p D Q cg cf) ?_;rintro _ ch ⟨g,a3,rfl,a4,a5,bA⟩;have cF:=ax.size;have cG:=aQ.size;have bB: ∀b,a3 b->R b\/f.size<=b:=λb B=>(a4 b B).elim (aR b) λcH=> .inr (by omega)
     have ci:Mod R f Q:=(aQ.trans aI.mod).then (ax.aj λb _ B=> .inr (an b B));have bC:Mod R f ch:=ci.then (a5.aj λb _ B=>aR b B);refine⟨g,rfl,af.intro (λr=>?_) (λr=>?_)⟩
     ·have N:g=false:=by simpa using r
      subst N;exact⟨rfl,i+1,false,a3,bC,bB,bA,(λf=>by cases f),by simp at bk;omega⟩
     ·have N:g=true:=by simpa using r
      subst N;refine ap bt.length _ _ (by simp) ⟨i+1,a3,V,_,bt,bX,rfl,λn=>?_,by simp at bk;omega,bC,bB,bA,am.mod a5 (λc k=>aS c k),?_,?_,by omega⟩
      ·have:=bj (n+1);rw[show i+1+n=i+(n+1) by omega,this];rfl
      ·intro c k q;rcases a4 c q with W|W
       ·exact aS c k W
       ·have:=am.lt k;omega
      ·exact ay.mod a5 (λc _ _ _ O=>O) (λc _ f=>f) (λc k q=>(a4 c q).elim id λW=>by omega)
def Sorted(l:List Pr):Prop:=l.Pairwise λa b=>aM a.key b.key=true
def Af(a:A2L)(l:List Pr):Option Pr:=l.find? λb=>decide (b.key=a)
theorem QS(a:A2L):Af a []=none:=rfl
theorem BB(a:A2L)(x:Pr)(l:List Pr):Af a (x::l)=if x.key=a then some x else Af a l:=by unfold Af;rw[F0];by_cases b:x.key=a<;>simp[b]
theorem MO {b:A2L}{l:List Pr}{x:Pr}(a:Af b l=some x):x.key=b/\x∈l:=by unfold Af at a;exact⟨by simpa using RC a,LI a⟩
theorem EI {a:A2L}{l:List Pr}(b: ∀x∈l,x.key≠a):Af a l=none:=by unfold Af;rw[Hb];simpa using b
theorem Lp {a b:A2L}(c:aM a b=true):a≠b:=by rintro rfl;rw[Ca] at c;cases c
theorem Sorted.find {l:List Pr}(s:Sorted l){x:Pr}(a:x∈l):Af x.key l=some x:=by
 induction l with
 |nil=>cases a
 |cons d l c=>
  rw[BB];have b:=List.pairwise_cons.1 s;rcases List.mem_cons.1 a with rfl|a
  ·simp
  ·rw[if_neg (Lp (b.1 x a))];exact c b.2 a
theorem Sorted.ext: ∀ {l m:List Pr},Sorted l->Sorted m->(∀ d,Af d l=Af d m)->l=m
 | [],[],_,_,_=>rfl
 | [],a::m,_,_,b=>by have:=b a.key;rw[BB,if_pos rfl] at this;cases this
 |x::l,[],_,_,b=>by have:=b x.key;rw[BB,if_pos rfl] at this;cases this
 |x::l,a::m,sl,p,b=>by
  have g:=List.pairwise_cons.1 sl;have h:=List.pairwise_cons.1 p;have f:x.key=a.key:=by
   have e:=b x.key;have n:=b a.key;rw[BB,if_pos rfl] at e;rw[BB a.key a m,if_pos rfl] at n;have i:=(MO e.symm).2;have j:=(MO n).2;rcases List.mem_cons.1 i with c|i
   ·rw[c]
   ·rcases List.mem_cons.1 j with c|j
    ·rw[c]
    ·have q:=h.1 x i;have o:=g.1 a j;rw[OQ q] at o;cases o
  have r:x=a:=by have e:=b x.key;rw[BB,BB,if_pos rfl,if_pos f.symm] at e;exact BY e
  subst r;rw[Sorted.ext g.2 h.2 λd=>?_];have:=b d;rw[BB,BB] at this;by_cases f:x.key=d
  ·subst f;rw[EI λa k c=>Lp (g.1 a k) c.symm,EI λa k c=>Lp (h.1 a k) c.symm]
  ·simpa [f] using this
def ins(x:Pr):List Pr->List Pr
 | []=> [x]
 |q::l=>if aM q.key x.key then q::ins x l else if q.key=x.key then x::l else x::q::l
theorem mS(x:Pr): ∀l,YD x l=ins x l
 | []=>rfl
 |q::l=>by
  unfold ins;cases b:aM q.key x.key
  ·have a:ia x.key (q::l)= []:=by simp[ia,b]
   by_cases c:q.key=x.key
   ·simp[YD,aO,a,BC,c]
   ·simp[YD,aO,a,BC,c]
  ·have a:ia x.key (q::l)=q::ia x.key l:=by simp[ia,b]
   have d:aO x.key (q::l)=aO x.key l+1:=by simp[aO,a]
   have f:BC x.key (q::l)=BC x.key l:=by simp[BC,d]
   have e:=mS x l;unfold YD at e ⊢;rw[d,f];have g:(if BC x.key l=true then aO x.key l+1+1 else aO x.key l+1)=(if BC x.key l=true then aO x.key l+1 else aO x.key l)+1:=by split<;>rfl
   rw[g,I0,HU,CN,CN,e];simp
theorem qy {x b:Pr}: ∀ {l:List Pr},b∈ins x l->b=x\/b∈l
 | [],a=>by simp[ins] at a;exact .inl a
 |q::l,a=>by
  unfold ins at a;split at a
  ·rcases List.mem_cons.1 a with rfl|a
   ·exact .inr (by simp)
   ·rcases qy a with a|a
    ·exact .inl a
    ·exact .inr (by simp[a])
  ·split at a
   ·rcases List.mem_cons.1 a with rfl|a
    ·exact .inl rfl
    ·exact .inr (by simp[a])
   ·rcases List.mem_cons.1 a with rfl|a
    ·exact .inl rfl
    ·exact .inr a
theorem XH(x:Pr): ∀ {l:List Pr},Sorted l->Sorted (ins x l)
 | [],_=>P3 _ _
 |q::l,s=>by
  have b:=List.pairwise_cons.1 s;unfold ins;split
  ·rename_i d;refine List.pairwise_cons.2 ⟨λc a=>?_,XH x b.2⟩;rcases qy a with rfl|a
   ·exact d
   ·exact b.1 c a
  ·rename_i d;split
   ·rename_i e;refine List.pairwise_cons.2 ⟨λc a=>?_,b.2⟩;have:=b.1 c a;rwa [e] at this
   ·rename_i e;have f:aM x.key q.key=true:=by
     cases g:aM x.key q.key
     ·exact absurd (N7 (by simpa using d) g) e
     ·rfl
    refine List.pairwise_cons.2 ⟨λc a=>?_,s⟩;rcases List.mem_cons.1 a with rfl|a
    ·exact f
    ·exact Da f (b.1 c a)
theorem Xm(x:Pr)(a:A2L): ∀ {l:List Pr},Sorted l->Af a (ins x l)=if x.key=a then some x else Af a l
 | [],_=>by simp[ins,BB,QS]
 |q::l,s=>by
  have c:=List.pairwise_cons.1 s;unfold ins;split
  ·rename_i d;rw[BB,BB,Xm x a c.2];by_cases b:q.key=a
   ·have e:x.key≠a:=by rw[<- b];exact λf=>Lp d f.symm
    simp[b,e]
   ·simp[b]
  ·split
   ·rename_i g;rw[BB,BB,g];by_cases b:x.key=a<;>simp[b]
   ·rw[BB]
def BU(l:List Pr):Prop:= ∀x∈l,Ah x=0
theorem Qr {x:Pr}{l:List Pr}(a:Ah x=0):CZ x l=ins x l:=by simp[CZ,a,mS]
theorem PZ {x:Pr}{l:List Pr}(s:Sorted l):Sorted (CZ x l):=by
 by_cases a:Ah x=0
 ·rw[Qr a];exact XH x s
 ·simpa [CZ,a] using s
theorem vG {x:Pr}{l:List Pr}(g:BU l):BU (CZ x l):=by
 by_cases a:Ah x=0
 ·rw[Qr a];exact λb c=>(qy c).elim (λd=>d▸a) (g b)
 ·simpa [CZ,a] using g
def A8(t l:List Pr):List Pr:=l.foldl (λt x=>CZ x t) t
theorem RI {l:List Pr}: ∀ {t},Sorted t->Sorted (A8 t l):=by
 induction l with
 |nil=>exact λs=>s
 |cons x l a=>exact λs=>a (PZ s)
theorem XZ {l:List Pr}: ∀ {t},BU t->BU (A8 t l):=by
 induction l with
 |nil=>exact λs=>s
 |cons x l a=>exact λs=>a (vG s)
theorem Qy {l:List Pr}: ∀ {t},(A8 t l).length<=t.length+l.length:=by
 induction l with
 |nil=>exact λ{t}=>by simp[A8]
 |cons x l a=>intro t;have:=a (t:=CZ x t);have:=ANz x t;simp[A8] at *;omega
theorem AKT {l:List Pr}(a:A2L): ∀ {t},Sorted t->Sorted l->BU l->Af a (A8 t l)=(Af a l).or (Af a t):=by
 induction l with
 |nil=>intro t _ _ _;simp[A8,QS]
 |cons x l f=>
  intro t st sl g;have d:=List.pairwise_cons.1 sl;show Af a (A8 (CZ x t) l)=_;rw[f (PZ st) d.2 (λb c=>g b (by simp[c])),Qr (g x (by simp)),Xm x a st,BB];by_cases e:x.key=a
  ·subst e;rw[EI λb c h=>Lp (d.1 b c) h.symm];simp
  ·simp[e]
def Ag(a:List (List Pr)):List Pr:=a.reverse.foldl A8 []
theorem Nw(l:List Pr)(a:List (List Pr)):Ag (l::a)=A8 (Ag a) l:=by simp[Ag,Hi]
theorem Dz: ∀a,Sorted (Ag a)
 | []=>List.Pairwise.nil
 |l::a=>by rw[Nw];exact RI (Dz a)
structure bA (ls:List (List Pr)):Prop where
 sorted: ∀l∈ls,Sorted l
 aS: ∀l∈ls,BU l
def Aq(a:A2L)(b:List (List Pr)):Option Pr:=b.findSome? (Af a)
theorem EK(a:A2L)(l:List Pr)(b:List (List Pr)):Aq a (l::b)=(Af a l).or (Aq a b):=by unfold Aq;rw[RE];cases Af a l<;>rfl
theorem Kv(b:A2L): ∀ {a},bA a->Af b (Ag a)=Aq b a
 | [],_=>rfl
 |l::a,c=>by
  rw[Nw,AKT b (Dz a) (c.sorted l (by simp)) (c.aS l (by simp)),Kv b ⟨λm d=>c.sorted m (by simp[d]),λm d=>c.aS m (by simp[d])⟩,EK]
theorem VD(p:Pr)(l:List Pr):(Ip p l).Sublist l:=List.dropWhile_sublist _
theorem AJc {p q:Pr}(a:upto p q=false):aM p.key q.key=true:=by
 unfold upto at a;rw[Bw] at a;simp at a;cases b:aM p.key q.key
 ·exact absurd (N7 a.1 b) a.2
 ·rfl
theorem AMZ {p b:Pr}(a:upto p b=true):aM p.key b.key=false:=by
 unfold upto at a;rw[Bw] at a;simp at a;rcases a with a|a
 ·exact OQ a
 ·rw[a];exact Ca _
theorem Zd {p q:Pr}: ∀ {l:List Pr},Sorted l->q∈Ip p l->aM p.key q.key=true
 | [],_,a=>by cases a
 |y::l,s,a=>by
  have b:=List.pairwise_cons.1 s;unfold Ip at a;rw[List.dropWhile_cons] at a;split at a
  ·exact Zd b.2 a
  ·rename_i d;have c:=AJc (p:=p) (q:=y) (by simpa using d);rcases List.mem_cons.1 a with rfl|a
   ·exact c
   ·exact Da c (b.1 q a)
theorem vH {p:Pr}{a:A2L}(b:aM p.key a=true): ∀ {l:List Pr},Af a (Ip p l)=Af a l
 | []=>rfl
 |y::l=>by
  unfold Ip;rw[List.dropWhile_cons];split
  ·rename_i d;have c:=AMZ d;rw[BB,if_neg (by rintro rfl;rw[b] at c;cases c)];exact vH b
  ·rfl
theorem Ls.ok {a:List (List Pr)}{out:List Pr}(m:Ls a out):(∀ l∈a,Sorted l)->Sorted out/\ ∀b,Af b out=Aq b a:=by
 induction m with
 |done g=>
  rename_i a;intro _;refine⟨List.Pairwise.nil,λb=>?_⟩;have: ∀a:List (List Pr),(∀ l∈a,l= [])->Aq b a=none:=λa g=>by
   unfold Aq;rw[RK];intro l d;rw[g l d];rfl
  rw[this a g];rfl
 | @step a b p t out F C y r=>
  intro h;have G: ∀l∈a.map (Ip p),Sorted l:=λl d=>by
   obtain⟨o,s,rfl⟩:=List.mem_map.1 d;exact(h o s).sublist (VD p o)
  obtain⟨D,E⟩:=r G;have H: ∀e∈out,aM p.key e.key=true:=λe q=>by
   have f:=D.find q;rw[E] at f;unfold Aq at f;obtain⟨l,d,k⟩:=A0b f;obtain⟨o,s,rfl⟩:=List.mem_map.1 d;exact Zd (h o s) (MO k).2
  refine⟨List.pairwise_cons.2 ⟨H,D⟩,λc=>?_⟩;have I: ∀l∈a,∀e∈l,aM e.key p.key=false:=λl d e q=>by
   obtain⟨i,v,j⟩:=Ds d;cases l with
   |nil=>cases q
   |cons w u=>
    have f:=(C i w u (by rw[A2 v,j])).1;have z:=List.pairwise_cons.1 (h _ d);rcases List.mem_cons.1 q with rfl|q
    ·exact f
    ·cases k:aM e.key p.key
     ·rfl
     ·have:=Da (z.1 e q) k;rw[this] at f;cases f
  rw[BB];by_cases A:p.key=c
  ·subst A;simp only[if_true];have: ∀(a:List (List Pr)) (b:Nat),a[b]? =some (p::t)->(∀ i e u,a[i]? =some (e::u)->i<b->aM p.key e.key=true)->(∀ l∈a,Sorted l)->Aq p.key a=some p:=by
    intro a
    induction a with
    |nil=>intro b g;simp at g
    |cons l a r=>
     intro b g y h;rw[EK];cases b with
     |zero=>simp at g;subst g;rw[BB,if_pos rfl];rfl
     |succ b=>
      have J:Af p.key l=none:=by
       cases l with
       |nil=>rfl
       |cons w u=>
        have f:=y 0 w u rfl (by omega);have z:=List.pairwise_cons.1 (h _ (by simp:(w::u)∈(w::u)::a));refine EI λx n j=>?_
        rcases List.mem_cons.1 n with rfl|n
        ·rw[j,Ca] at f;cases f
        ·have:=Da f (z.1 x n);rw[j,Ca] at this;cases this
      rw[J,LO];exact r b (by simpa using g) (λi e u v M=>y (i+1) e u (by simpa using v) (by omega)) (λl d=>h l (by simp[d]))
   rw[this a b F (λi e u v=>(C i e u v).2) h]
  ·rw[if_neg A,E];unfold Aq;cases k:aM p.key c
   ·
    have B:aM c p.key=true:=by
     cases B:aM c p.key
     ·exact absurd (N7 k B) A
     ·rfl
    have K:(a.map (Ip p)).findSome? (Af c)=none:=by
     rw[RK];intro l d;obtain⟨o,s,rfl⟩:=List.mem_map.1 d;refine EI λx n j=>?_
     have:=Zd (h o s) n;rw[j,k] at this;cases this
    have L:a.findSome? (Af c)=none:=by
     rw[RK];intro l d;refine EI λx n j=>?_
     have:=I l d x n;rw[j,B] at this;cases this
    rw[K,L]
   ·have: ∀a:List (List Pr),(a.map (Ip p)).findSome? (Af c)=a.findSome? (Af c):=λa=>by
     induction a with
     |nil=>rfl
     |cons l a r=>rw[B9,RE,RE,vH k,r]
    rw[this]
theorem Ua: ∀(e:List (List Pr)),(∀ l∈e,l= [])\/ ∃(f:Nat) (p:Pr) (t:List Pr),e[f]? =some (p::t)/\ ∀(a:Nat) (c:Pr) (u:List Pr),e[a]? =some (c::u)->aM c.key p.key=false/\(a<f->aM p.key c.key=true)
 | []=> .inl λl d=>by cases d
 |l::e=>by
  cases l with
  |nil=>
   rcases Ua e with d|⟨f,p,t,i,g⟩
   ·refine .inl λl j=>?_
    rcases List.mem_cons.1 j with rfl|j
    ·rfl
    ·exact d l j
   ·refine .inr ⟨f+1,p,t,by simpa using i,λa c u b=>?_⟩;cases a with
    |zero=>simp at b
    |succ a=>have:=g a c u (by simpa using b);exact⟨this.1,λd=>this.2 (by omega)⟩
  |cons k u=>
   rcases Ua e with d|⟨f,p,t,i,g⟩
   ·refine .inr ⟨0,k,u,rfl,λa c h b=>⟨?_,λd=>by omega⟩⟩;cases a with
    |zero=>simp at b;rw[b.1];exact Ca _
    |succ a=>have:=d _ (AK (by simpa using b));cases this
   ·cases m:aM p.key k.key
    ·refine .inr ⟨0,k,u,rfl,λa c h b=>⟨?_,λd=>by omega⟩⟩;cases a with
     |zero=>simp at b;rw[b.1];exact Ca _
     |succ a=>exact ZY m (g a c h (by simpa using b)).1
    ·refine .inr ⟨f+1,p,t,by simpa using i,λa c h b=>?_⟩;cases a with
     |zero=>simp at b;rw[<- b.1];exact⟨OQ m,λ_=>m⟩
     |succ a=>have:=g a c h (by simpa using b);exact⟨this.1,λd=>this.2 (by omega)⟩
def total(a:List (List Pr)):Nat:=(a.map List.length).sum
theorem Xj(p:Pr): ∀a,total (a.map (Ip p))<=total a
 | []=>A0 _
 |l::a=>by
  have:=Xj p a;have:=(VD p l).length_le;simp[total] at *;omega
theorem Yp {p:Pr}{t:List Pr}: ∀ {ls:List (List Pr)} {k:Nat},ls[k]? =some (p::t)->total (ls.map (Ip p))<total ls
 | [],k,a=>by simp at a
 |l::ls,0,a=>by
  simp at a;subst a;have b:=Xj p ls;have c:=(VD p t).length_le;have d:Ip p (p::t)=Ip p t:=by simp[Ip,upto,Bw]
  simp only[total,B9,GO,d,A5] at*
  omega
 |l::ls,k+1,a=>by
  have b:=Yp (p:=p) (t:=t) (ls:=ls) (k:=k) (by simpa using a);have c:=(VD p l).length_le;simp only[total,B9,GO] at*
  omega
theorem AEp(a:List (List Pr)): ∃out,Ls a out/\out.length<=total a:=by
 generalize h:total a=b
 induction b using Nat.strongRecOn generalizing a with
 |_ b d=>
  rcases Ua a with e|⟨i,p,t,c,f⟩
  ·exact⟨[],.done e,by simp⟩
  ·have j:=Yp c;obtain⟨out,g,k⟩:=d _ (by omega) (a.map (Ip p)) rfl;exact⟨p::out,.step c f g,by simp;omega⟩
theorem sv {t l:List Pr}{a:Nat}{x:Pr}(b:l[a]? =some x):A8 t (l.take (a+1))=CZ x (A8 t (l.take a)):=by rw[As,b];simp only[A8,Hi,CT,I2,N4]
theorem TZ: ∀a,(Ag a).length<=total a
 | []=>A0 _
 |l::a=>by
  rw[Nw];have:=TZ a;have:=Qy (l:=l) (t:=Ag a);simp[total] at *;omega
theorem Xw: ∀a,BU (Ag a)
 | []=>λ_ b=>by cases b
 |l::a=>by rw[Nw];exact XZ (Xw a)
theorem AJu(l:List Pr)(a:List (List Pr)):total (l::a)=l.length+total a:=by simp[total]
def sy(f:aq)(d:Nat->Prop)(a:aa)(s:Sl)(e:List (List Pr)):Prop:=
 ∃b,View jV a s b/\(∀ c,s.ah=some c->c<a.size/\ ¬d c)/\b.length=e.length/\ ∀(i:Nat) (v:ic) (l:List Pr),b[i]? =some v->e[i]? =some l->(v.v= .nilFunc/\l= [])\/(EQ f P v.v (λc=>c<a.size/\ ¬d c) a l/\l.length<=1099511627776)
end Go.Lf.G.M
namespace Go.Lf
open G
theorem EQ.later {f:aq}{d:Nat->Prop}{fv:J0}{b e:aa}{l:List Pr}(h:EQ f P fv (λc=>c<b.size/\ ¬d c) b l){g:Nat->Prop}(x:Mod g b e)(i: ∀c,c<b.size->g c->d c):EQ f P fv (λc=>c<e.size/\ ¬d c) e l:=
 h.aj (λc a=>⟨by have:=x.size;omega,a.2⟩) (λc a=>a.1) λc a=>x.get c a.1 λj=>a.2 (i c a.1 j)
end Go.Lf
namespace Go.Lf.G.M
open Go Go.Lf Go.Lf.G
theorem si {p:aq}{k:Nat->Prop}{a:aa}{s:Sl}{ls:List (List Pr)}{x:A2K}(G:sy p k a s ls)(hX: ∀c,k c->c<a.size)(t:ls.length<=1099511627776)(u:bA ls)
  (y: ∀fv n,EQ p P fv (λc=>c<n.size/\ ¬k c) n (Ag ls)->Ext a n->n.size=a.size+1->x fv n):AA p P PP #[J4 s.p s.len s.cap] a x:=by
 obtain⟨q,v,z,w,A⟩:=G;refine AGd ?_;unfold uW;refine ao.mk λg _ B r C=>?_
 have H: ∃os:List (Option (List Pr)),os.length=q.length/\(∀ (i:Nat) (v:ic),q[i]? =some v->(v.v= .nilFunc/\os[i]? =some none)\/ ∃l,os[i]? =some (some l)/\EQ p P v.v (λc=>c<a.size/\ ¬k c) a l/\l.length<=1099511627776)/\
   (∀ l,l∈os.filterMap id->l∈ls)/\ ∀b,Aq b (os.filterMap id)=Aq b ls:=by
  clear v hX t u y B r C z
  induction q generalizing ls with
  |nil=>
   have:ls= []:=Dd w.symm;subst this;exact⟨[],rfl,λi v a=>by simp at a,λl a=>by simp at a,λb=>rfl⟩
  |cons v q I=>
   cases ls with
   |nil=>simp at w
   |cons l ls=>
    obtain⟨os,g,h,D,E⟩:=I (ls:=ls) (by simpa using w) (λi v l g h=>A (i+1) v l (by simpa using g) (by simpa using h));rcases A 0 v l rfl rfl with⟨j,o⟩|⟨j,o⟩
    ·refine⟨none::os,by simp[g],λi v e=>?_,λm d=>?_,λb=>?_⟩
     ·cases i with
      |zero=>simp at e;subst e;exact .inl ⟨j,rfl⟩
      |succ i=>exact h i v (by simpa using e)
     ·simp at d;exact AG _ (D m (by simpa using d))
     ·subst o;rw[EK];simpa [QS] using E b
    ·refine⟨some l::os,by simp[g],λi v e=>?_,λm d=>?_,λb=>?_⟩
     ·cases i with
      |zero=>simp at e;subst e;exact .inr ⟨l,rfl,j,o⟩
      |succ i=>exact h i v (by simpa using e)
     ·simp at d;rcases d with rfl|d
      ·simp
      ·exact AG _ (D m (by simpa using d))
     ·rw[EK,Wk];simp only[id];rw[EK,E b]
 obtain⟨os,J,K,L,M⟩:=H;obtain⟨out,d,_⟩:=AEp (os.filterMap id);have N:out=Ag ls:=by
  have F:=d.ok λl t=>u.sorted l (L l t)
  exact F.1.ext (Dz ls) λb=>by rw[F.2 b,M b,Kv b u]
 subst N;refine y _ g ((ARA (S:=λc=>c<a.size/\ ¬k c) B (v.ext r) (by omega) J (λi v e=>?_) d (λc f=>by omega)).aj ?_ (λc f=>f.1) (λc _=>rfl)) r C
 ·rcases K i v e with j|⟨l,j,o,O⟩
  ·exact .inl j
  ·exact .inr ⟨l,j,o.aj (λc f=>f) (λc f=>by omega) (λc f=>r.get c f.1 (λa=>a)),O⟩
 ·rintro c (f|⟨g,h⟩)
  ·exact⟨by omega,f.2⟩
  ·refine⟨g,?_⟩;rcases h with rfl|h
   ·intro a;have:=hX _ a;omega
   ·exact(z c h).2
theorem QE(a:A2L)(b c:List (List Pr)):Aq a (b++c)=(Aq a b).or (Aq a c):=by unfold Aq;rw[List.findSome?_append]
theorem LV(a:A2L)(l m:List Pr):Af a (l++m)=(Af a l).or (Af a m):=by unfold Af;rw[List.find?_append]
structure DX where
 ah:Nat
 pr:Pr
 ht:Nat
def cR(nx:Nat->Q2):List J0:=(List.range 12).map λi=>J5 (nx i)
def FO(p:Pr)(nx:Nat->Q2):Array J0:=(([J7 p.key,J7 p.val,J3 p.gone]:List J0)++cR nx).toArray
def Dk(nx:Nat->Q2)(a b:Int):Array J0:=(([J7 ⟨#[]⟩,J7 ⟨#[]⟩,J3 false]:List J0)++cR nx++([J6 J9 a,J6 J9 b]:List J0)).toArray
theorem BZ(nx:Nat->Q2):(cR nx).length=12:=by simp[cR]
theorem Tf {nx:Nat->Q2}{i:Nat}(a:i<12):(cR nx)[i]? =some (J5 (nx i)):=by simp[cR,a]
theorem qw {nx:Nat->Q2}{i:Nat}(v:Q2):(cR nx).set i (J5 v)=cR (λa=>if a=i then v else nx a):=by
 refine List.ext_getElem? λa=>?_
 by_cases b:a<12
 ·rw[MD,Tf b,Tf b,BZ];by_cases c:i=a
  ·subst c;simp[b]
  ·simp[c,Ne.symm c]
 ·rw[LS (by simp[BZ];omega),LS (by simp[BZ];omega)]
theorem AN1 {p:Pr}{nx:Nat->Q2}{i:Nat}(a:i<12):(FO p nx)[3+i]? =some (J5 (nx i)):=by simp only[FO,MT];rw[Fk (by simp)];simpa using Tf a
theorem AOX {nx:Nat->Q2}{a b:Int}{i:Nat}(c:i<12):(Dk nx a b)[3+i]? =some (J5 (nx i)):=by simp only[Dk,MT];rw[A3,Fk (by simp),GB (by simp[BZ];omega)];simpa using Tf c
theorem lQ {nx:Nat->Q2}{a b:Int}:(Dk nx a b)[15]? =some (J6 J9 a)/\(Dk nx a b)[16]? =some (J6 J9 b):=by
 simp only[Dk,MT];constructor
 ·rw[Fk (by simp[BZ])];simp[BZ]
 ·rw[Fk (by simp[BZ])];simp[BZ]
theorem RD {p:Pr}{nx:Nat->Q2}:(FO p nx).size=15:=by simp[FO,BZ]
theorem cU {nx:Nat->Q2}{a b:Int}:(Dk nx a b).size=17:=by simp[Dk,BZ]
theorem vA {p:Pr}{nx:Nat->Q2}{i:Nat}(v:Q2):(FO p nx).setIfInBounds (3+i) (J5 v)=FO p (λa=>if a=i then v else nx a):=by apply Array.toList_inj.1;rw[Ek];simp only[FO,MY];rw[HM _ _ (by simp),<-qw v];simp
theorem AO3 {nx:Nat->Q2}{a b:Int}{i:Nat}(d:i<12)(v:Q2):(Dk nx a b).setIfInBounds (3+i) (J5 v)=Dk (λc=>if c=i then v else nx c) a b:=by apply Array.toList_inj.1;rw[Ek];simp only[Dk,MY];rw[A3,HM _ _ (by simp),ZS _ _ (by simp[BZ];omega),<-qw v];simp
theorem AMd {nx:Nat->Q2}{c a b:Int}:(Dk nx c a).setIfInBounds 15 (J6 J9 b)=Dk nx b a:=by apply Array.toList_inj.1;rw[Ek];simp only[Dk,MY];rw[HM _ _ (by simp[BZ])];simp[BZ]
theorem vB {nx:Nat->Q2}{a c b:Int}:(Dk nx a c).setIfInBounds 16 (J6 J9 b)=Dk nx a b:=by apply Array.toList_inj.1;rw[Ek];simp only[Dk,MY];rw[HM _ _ (by simp[BZ])];simp[BZ]
theorem Cs {a:aa}{b i:Nat}{l:Nat->Q2}{T:Q7}{fr:Nat×Nat}(c:a[b]? =some (J2 (cR l).toArray T fr))(d:i<12):ag a ⟨b,i,none⟩=some (J5 (l i)):=by rw[Hw c,MT];exact Tf d
def addrAt(t:Nat)(ns:List DX)(p:Nat):Q6:=match p with|0=>⟨t,0,none⟩|p+1=>match ns[p]? with|some x=>⟨x.ah,0,none⟩|none=>⟨t,0,none⟩
def Sz(ns:List DX)(p:Nat):Nat:=match p with|0=>12|p+1=>match ns[p]? with|some x=>x.ht|none=>0
def DL(i:Nat)(l:List DX):Q2:=(l.find? λx=>decide (i<x.ht)).map λx=>⟨x.ah,0,none⟩
def cQ(t:Nat)(ns:List DX)(b:Nat):Prop:=b=t\/ ∃x∈ns,x.ah=b
structure Lay (h:aa) (t:Nat) (ns:List DX) (nx:Nat->Nat->Q2) (n sz:Int):Prop where
 head:h[t]? =some (J2 (Dk (nx 0) n sz) vK (0,0))
 node: ∀(j:Nat) (x:DX),ns[j]? =some x->h[x.ah]? =some (J2 (FO x.pr (nx (j+1))) RN (0,0))/\x.ah≠t
 apart:ns.Pairwise λx y=>x.ah≠y.ah
structure kP (ns:List DX) (nx:Nat->Nat->Q2):Prop where
 link: ∀p i,p<=ns.length->i<12->i<Sz ns p->nx p i=DL i (ns.drop p)
 ht: ∀x∈ns,1<=x.ht/\x.ht<=12
theorem Lay.mod {c d:aa}{t:Nat}{ns:List DX}{nx:Nat->Nat->Q2}{e f:Int}{g:Nat->Prop}(l:Lay c t ns nx e f)(m:Mod g c d)(h: ∀b,cQ t ns b-> ¬g b):Lay d t ns nx e f:=
 ⟨m.ah l.head (h _ (.inl rfl)),λi x a=>⟨m.ah (l.node i x a).1 (h _ (.inr ⟨x,AK a,rfl⟩)),(l.node i x a).2⟩,l.apart⟩
theorem Lay.ext {a b:aa}{t:Nat}{ns:List DX}{nx:Nat->Nat->Q2}{c d:Int}(l:Lay a t ns nx c d)(m:Ext a b):Lay b t ns nx c d:=l.mod m λ_ _ a=>a
theorem Lay.lt {a:aa}{t:Nat}{ns:List DX}{nx:Nat->Nat->Q2}{c d:Int}(l:Lay a t ns nx c d){b:Nat}(e:cQ t ns b):b<a.size:=by
 rcases e with rfl|⟨x,f,rfl⟩
 ·exact Ai l.head
 ·obtain⟨g,h,i⟩:=Ds f;exact Ai (l.node g x (by rw[A2 h,i])).1
theorem Lay.next {a:aa}{t:Nat}{ns:List DX}{nx:Nat->Nat->Q2}{d e:Int}(l:Lay a t ns nx d e){p i:Nat}(g:p<=ns.length)(b:i<12):ag a (((addrAt t ns p).add 3).add (i*1))=some (J5 (nx p i)):=by
 rw[add_add,Bk];cases p with
 |zero=>show ag a ((⟨t,0,none⟩:Q6).add (3+i))=_;exact AB l.head (AOX b)
 |succ p=>
  have c:=A2 (l:=ns) (i:=p) (by omega);have f:addrAt t ns (p+1)=⟨ns[p].ah,0,none⟩:=by simp[addrAt,c]
  rw[f];exact AB (l.node p _ c).1 (AN1 b)
theorem Lay.pair {a:aa}{t:Nat}{ns:List DX}{nx:Nat->Nat->Q2}{d e:Int}(l:Lay a t ns nx d e){c:Nat}{x:DX}(f:ns[c]? =some x):
  ag a ⟨x.ah,0,none⟩=some (J7 x.pr.key)/\ag a ((⟨x.ah,0,none⟩:Q6).add 1)=some (J7 x.pr.val)/\ag a ((⟨x.ah,0,none⟩:Q6).add 2)=some (J3 x.pr.gone):=by
 have b:=(l.node c x f).1;exact⟨AO b rfl,AB b rfl,AB b rfl⟩
theorem AGv {i:Nat}{l:List DX}{a:Q6}(b:DL i l=some a): ∃e x,l[e]? =some x/\a=⟨x.ah,0,none⟩/\i<x.ht/\ ∀(c:Nat) (d:DX),c<e->l[c]? =some d->d.ht<=i:=by
 induction l with
 |nil=>simp[DL] at b
 |cons x l h=>
  unfold DL at b;rw[F0] at b;by_cases f:i<x.ht
  ·simp[f] at b;exact⟨0,x,rfl,b.symm,f,λc d j=>by omega⟩
  ·simp[f] at b;obtain⟨e,d,k,m,n,o⟩:=h (by simpa [DL] using b);refine⟨e+1,d,by simpa using k,m,n,λc z j g=>?_⟩;cases c with
   |zero=>simp at g;subst g;omega
   |succ c=>exact o c z (by omega) (by simpa using g)
theorem Xq {i:Nat}{l:List DX}(a:DL i l=none): ∀x∈l,x.ht<=i:=by intro x b;simp[DL] at a;exact a x b
theorem AGL {i:Nat}{l:List DX}{k:Nat}(c:k<=l.length)(d: ∀(a:Nat) (b:DX),a<k->l[a]? =some b->b.ht<=i):DL i l=DL i (l.drop k):=by
 induction k generalizing l with
 |zero=>simp
 |succ k e=>
  cases l with
  |nil=>simp at c
  |cons x l=>
   have f:=d 0 x (by omega) rfl;rw[HU,<-e (by simpa using c) λa b h g=>d (a+1) b (by omega) (by simpa using g)];unfold DL;rw[F0];simp[Nat.not_lt.2 f]
abbrev bX(ns:List DX):List Pr:=ns.map (·.pr)
theorem oV {key:A2L}: ∀ {l:List Pr},Sorted l-> ∀ {j:Nat} {x:Pr},l[j]? =some x->(j<aO key l↔aM x.key key=true)
 | [],_,j,x,a=>by simp at a
 |y::l,s,j,x,a=>by
  have d:=List.pairwise_cons.1 s;by_cases b:aM y.key key=true
  ·have c:aO key (y::l)=aO key l+1:=by simp[aO,ia,b]
   rw[c];cases j with
   |zero=>simp at a;subst a;simp[b]
   |succ j=>
    have:=oV (key:=key) d.2 (j:=j) (x:=x) (by simpa using a);rw[<- this];omega
  ·have c:aO key (y::l)=0:=by simp[aO,ia,b]
   rw[c];cases j with
   |zero=>simp at a;subst a;simp[b]
   |succ j=>
    have f:x∈l:=AK (by simpa using a);have g:=d.1 x f;constructor
    ·intro e;omega
    ·intro e;exact absurd (Da g e) b
structure VJ (ns:List DX) (key:A2L) (i p:Nat):Prop where
 le:p<=aO key (bX ns)
 ht:i<Sz ns p
 last: ∀(j:Nat) (y:DX),p<=j->j<aO key (bX ns)->ns[j]? =some y->y.ht<=i
theorem YM(key:A2L)(ns:List DX):aO key (bX ns)<=ns.length:=by have:=mP key (bX ns);simpa using this
theorem IG {a:Array J0}(l:Nat->Q2)(c:a=(cR l).toArray)(i:Nat)(v:Q2):a.setIfInBounds i (J5 v)=(cR (λb=>if b=i then v else l b)).toArray:=by subst c;apply Array.toList_inj.1;rw[Ek];exact qw v
theorem AMi {a:Nat}(b:a<100):J8 J9 (((a+1:Nat):Int)-(1:Int))=(a:Int):=by rw[show(((a+1:Nat):Int)-1)=(a:Int) by omega];exact GY (by omega)
set_option maxHeartbeats 400000 in
theorem Zv {an:aq}{h:aa}{t:Nat}{ns:List DX}{nx:Nat->Nat->Q2}{ap ar:Int}{key:A2L}{H:A2K}(L:Lay h t ns nx ap ar)(K:kP ns nx)(s:Sorted (bX ns))
  (au: ∀(b:Nat->Nat) I,(∀ i,i<12->VJ ns key i (b i))->Ext h I->H (.agg #[J5 (some (addrAt t ns (b 0))),J5 (some (addrAt t ns (b 1))),J5 (some (addrAt t ns (b 2))),J5 (some (addrAt t ns (b 3))),J5 (some (addrAt t ns (b 4))),J5 (some (addrAt t ns (b 5))),J5 (some (addrAt t ns (b 6))),J5 (some (addrAt t ns (b 7))),J5 (some (addrAt t ns (b 8))),J5 (some (addrAt t ns (b 9))),J5 (some (addrAt t ns (b 10))),J5 (some (addrAt t ns (b 11)))]) I):
  AA an P F5 #[J5 (some ⟨t,0,none⟩),J7 key] h H:=by
 refine Vd ?_;unfold Ol;refine ao.mk λk _ av J a2=>ao.mk λo _ aw M a3=>?_
 have ax:Ext h o:=J.trans M;have a4:=YM key ns;refine Loop.rule (λm x q=> ∃(p:Nat) (b:Nat->Nat) (l:Nat->Q2),x=(some (addrAt t ns p),(m:Int)-1,())/\m<=12/\Mod (λc=>c=k.size) o q/\p<=aO key (bX ns)/\(m=0\/m<=Sz ns p)/\
   q[k.size]? =some (J2 (cR l).toArray EC (0,0))/\(∀ i,i<12->m<=i->VJ ns key i (b i)/\l i=some (addrAt t ns (b i)))) ?_
  (m:=12) ⟨0,λ_=>0,λ_=>none,rfl,by omega,Mod.refl,by omega,.inr (by simp[Sz]),aw,λi k o=>by omega⟩
 rintro a5 m _ q ⟨p,b,l,rfl,a6,C,w,y,e,d⟩ ay;have N:Ext h q:=ax.then (C.aj λc _ v=> .inr (by have:=J.size;omega));refine af.intro (λv=>?_) (λv=>?_)
 ·cases m with
  |zero=>simp at v
  |succ i=>
   have z:i<12:=by omega
   have az:(((i+1:Nat):Int)-1)=(i:Int):=by omega
   rw[az];have O:=L.ext N;refine Loop.rule (λm x A=> ∃p:Nat,x=(some (addrAt t ns p),())/\A=q/\m=aO key (bX ns)-p/\p<=aO key (bX ns)/\i<Sz ns p) ?_ ⟨p,rfl,rfl,rfl,w,by rcases y with h|h<;>omega⟩;rintro a7 m _ A ⟨p,rfl,aA,rfl,w,y⟩ aC;subst aA;have D:nx p i=DL i (ns.drop p):=K.link p i (by omega) z y;have ag:=O.next (p:=p) (i:=i) (by omega) z;refine ai.mk λaD Q=>?_
   have B:(0:Int)<=(i:Int)/\(i:Int)<(12:Int):=⟨by omega,by omega⟩;have R:(∀ (j:Nat) (r:DX),p<=j->j<aO key (bX ns)->ns[j]? =some r->r.ht<=i)->aD (false,()) A:=λaE=>Q _ _ (af.no rfl (by
    refine⟨B,?_⟩;show ae A ((⟨k.size,0,none⟩:Q6).add (i*1)) _ _;rw[Bf,AI,Bk];refine ae.mk e (by simp[BZ];omega) λa8 S E a9=>?_
    rw[IG l rfl] at S;have aF:VJ ns key i p:=⟨w,y,aE⟩;refine ay i _ _ (by omega) ⟨p,λf=>if f=i then p else b f,_,?_,by omega,C.trans E,w,.inr (by omega),S,λf n ba=>?_⟩
    ·cases i with
     |zero=>rfl
     |succ i=>rw[AMi (by omega),show(((i+1:Nat):Int)-1)=(i:Int) by omega]
    ·by_cases T:f=i
     ·subst T;simp[aF]
     ·simp[T];exact d f n (by omega)))
   refine⟨B,?_⟩;rw[A6];refine AX.mk ag ?_;cases u:nx p i with
   |none=>
    refine af.no rfl ?_;refine R λj r aG aH F=>?_
    rw[D] at u;refine Xq u r ?_;rw[List.mem_drop_iff_getElem];have:=List.getElem?_eq_some_iff.1 F;exact⟨j-p,by omega,by rw[<- this.2];congr 1;omega⟩
   |some a=>
    refine af.yes rfl ?_;refine⟨B,AX.mk (u▸ag) ?_⟩;rw[D] at u;obtain⟨f,x,n,rfl,aI,aJ⟩:=AGv u;rw[C5] at n;refine AJ.mk (O.pair n).1 ?_;have aK:(bX ns)[p+f]? =some x.pr:=by simp[bX,n]
    have U:=oV (key:=key) s aK;cases G:aM x.pr.key key
    ·refine R λj r aG aH F=>?_
     have bb:j<p+f:=by
      rcases FA j (p+f) with k|k
      ·exact k
      ·have o:p+f<aO key (bX ns):=by omega
       rw[U.1 o] at G;cases G
     exact aJ (j-p) r (by omega) (by rw[C5];rw[<- F];congr 1;omega)
    ·have o:=U.2 G;refine Q _ _ (af.yes rfl ?_);refine⟨B,AX.mk (u▸D▸ag) ?_⟩;have aL:addrAt t ns (p+f+1)=⟨x.ah,0,none⟩:=by simp[addrAt,n]
     refine aC (aO key (bX ns)-(p+f+1)) _ _ (by omega) ⟨p+f+1,by rw[aL],rfl,rfl,by omega,by simp[Sz,n,aI]⟩
 ·have aN:m=0:=by simp at v;omega
  subst aN;have aP:q[h.size]? =some (J2 (cR (λ_=>none)).toArray EC (0,0)):=C.ah (M.ah av (by simp)) (by omega);simp only[Bf,AI];refine AX.mk (Cs e (i:=0) (by omega)) ?_;refine AX.mk (Cs e (i:=1) (by omega)) ?_;refine AX.mk (Cs e (i:=2) (by omega)) ?_;refine AX.mk (Cs e (i:=3) (by omega)) ?_;refine AX.mk (Cs e (i:=4) (by omega)) ?_;refine AX.mk (Cs e (i:=5) (by omega)) ?_;refine AX.mk (Cs e (i:=6) (by omega)) ?_;refine AX.mk (Cs e (i:=7) (by omega)) ?_;refine AX.mk (Cs e (i:=8) (by omega)) ?_;refine AX.mk (Cs e (i:=9) (by omega)) ?_;refine AX.mk (Cs e (i:=10) (by omega)) ?_;refine AX.mk (Cs e (i:=11) (by omega)) ?_;refine ae.mk aP (by simp[BZ]) λbc V aQ bd=>?_
  rw[IG _ rfl] at V;refine ae.mk V (by simp[BZ]) λbe W aR bf=>?_
  rw[IG _ rfl] at W;refine ae.mk W (by simp[BZ]) λbg X aS bh=>?_
  rw[IG _ rfl] at X;refine ae.mk X (by simp[BZ]) λbi Y aT bj=>?_
  rw[IG _ rfl] at Y;refine ae.mk Y (by simp[BZ]) λbk Z aU bm=>?_
  rw[IG _ rfl] at Z;refine ae.mk Z (by simp[BZ]) λbn ab aV bo=>?_
  rw[IG _ rfl] at ab;refine ae.mk ab (by simp[BZ]) λbp ac E bq=>?_
  rw[IG _ rfl] at ac;refine ae.mk ac (by simp[BZ]) λbr ad aW bs=>?_
  rw[IG _ rfl] at ad;refine ae.mk ad (by simp[BZ]) λbt ah aX bu=>?_
  rw[IG _ rfl] at ah;refine ae.mk ah (by simp[BZ]) λbv aj aY bw=>?_
  rw[IG _ rfl] at aj;refine ae.mk aj (by simp[BZ]) λbx ak aZ bz=>?_
  rw[IG _ rfl] at ak;refine ae.mk ak (by simp[BZ]) λal am a0 bA=>?_
  rw[IG _ rfl] at am;have g:al[h.size]? =some (J2 (cR l).toArray EC (0,0)):=by rw[am];congr 3
  refine AX.mk (Cs g (i:=0) (by omega)) ?_;refine AX.mk (Cs g (i:=1) (by omega)) ?_;refine AX.mk (Cs g (i:=2) (by omega)) ?_;refine AX.mk (Cs g (i:=3) (by omega)) ?_;refine AX.mk (Cs g (i:=4) (by omega)) ?_;refine AX.mk (Cs g (i:=5) (by omega)) ?_;refine AX.mk (Cs g (i:=6) (by omega)) ?_;refine AX.mk (Cs g (i:=7) (by omega)) ?_;refine AX.mk (Cs g (i:=8) (by omega)) ?_;refine AX.mk (Cs g (i:=9) (by omega)) ?_;refine AX.mk (Cs g (i:=10) (by omega)) ?_;refine AX.mk (Cs g (i:=11) (by omega)) ?_;have a1:=((((((((((aQ.trans aR).trans aS).trans aT).trans aU).trans aV).trans E).trans aW).trans aX).trans aY).trans aZ).trans a0;have:=au b al (λi z=>(d i z (by omega)).1) (N.then (a1.aj λc _ v=> .inr (by omega)));rw[(d 0 (by omega) (by omega)).2,(d 1 (by omega) (by omega)).2,(d 2 (by omega) (by omega)).2,(d 3 (by omega) (by omega)).2,(d 4 (by omega) (by omega)).2,(d 5 (by omega) (by omega)).2,(d 6 (by omega) (by omega)).2,(d 7 (by omega) (by omega)).2,(d 8 (by omega) (by omega)).2,(d 9 (by omega) (by omega)).2,(d 10 (by omega) (by omega)).2,(d 11 (by omega) (by omega)).2];exact this
theorem AOf {z:Int}(a: -9223372036854775808<=z)(b:z<=9223372036854775807):J8 J9 z=z:=by grind [J8,IntKind.bits,IntKind.signed]
theorem aD {a:Q6}{K:Q6->Prop}(b:K a):At (some a) K:=b
theorem ANF {l:aq}{c:aa}{key:A2L}{h:A2K}(t:key.size<=64)(n: ∀d:Nat,1<=d->d<=12->h (J6 J9 (d:Int)) c):AA l P R7 #[J7 key] c h:=by
 refine AEz ?_;unfold Xb;refine Loop.rule (λm x e=> ∃(i:Nat) (a:Int),x=(a,(i:Int),())/\e=c/\m=key.size-i/\i<=key.size) ?_ ⟨0,2166136261,rfl,rfl,rfl,by omega⟩;rintro K m _ e ⟨i,a,rfl,f,rfl,u⟩ o;subst f;refine af.intro (λb=>?_) (λb=>?_)
 ·have v:i<key.size:=by simp at b;omega
  refine⟨⟨by grind,by show(i:Int)<_;omega⟩,o (key.size-(i+1)) _ _ (by omega) ⟨i+1,_,by rw[Ae (by omega)],rfl,rfl,by omega⟩⟩
 ·refine Loop.rule (λm x g=> ∃(i:Nat) (a:Int),x=(a,(i:Int),())/\g=e/\m=12-i/\1<=i/\i<=12) ?_ ⟨1,_,rfl,rfl,rfl,by omega,by omega⟩;rintro w m _ g ⟨i,a,rfl,f,rfl,p,q⟩ r;subst f;refine ai.mk λs j=>?_
  have k:s (false,()) g:=j _ _ (af.no rfl (n i p q));refine af.intro (λb=>?_) (λb=>k);have y:i<12:=by simp at b;omega
  cases z:((Gd .u32 a (3:Int))==(0:Int))
  ·exact k
  ·exact j _ _ (af.yes rfl (r (12-(i+1)) _ _ (by omega) ⟨i+1,_,by rw[Ae (by omega)],rfl,rfl,by omega,by omega⟩))
theorem OT(i:Nat)(a b:List DX):DL i (a++b)=(DL i a).or (DL i b):=by grind [DL,decide]
theorem AHs {i:Nat}{l:List DX}(a: ∀x∈l,x.ht<=i):DL i l=none:=by simp_all [DL,Hb]
theorem AKc {i:Nat}{l:List DX}{x:DX}(b:x∈l)(d:i<x.ht): ∃a,DL i l=some a:=by
 cases c:DL i l with
 |some a=>exact⟨a,rfl⟩
 |none=>have:=Xq c x b;omega
theorem SI {ns:List DX}(c: ∀x∈ns,1<=x.ht/\x.ht<=12)(p:Nat):DL 0 (ns.drop p)=(ns[p]?).map λx=>⟨x.ah,0,none⟩:=by
 cases a:ns[p]? with
 |none=>rw[Pc (List.getElem?_eq_none_iff.1 a)];rfl
 |some x=>
  have b:=List.getElem?_eq_some_iff.1 a;rw[E0 b.1,b.2];have:=(c x (AK a)).1;unfold DL;rw[F0];simp[Fl Nat.zero_lt_one this]
def fZ(nx:Nat->Nat->Q2)(p i:Nat)(v:Q2):Nat->Nat->Q2:=λa b=>if a=p/\b=i then v else nx a b
theorem KM {p:Pr}{f g:Nat->Q2}(a: ∀i,f i=g i):FO p f=FO p g:=by rw[show f=g from funext a]
theorem XU {a b:Int}{f g:Nat->Q2}(c: ∀i,f i=g i):Dk f a b=Dk g a b:=by rw[show f=g from funext c]
theorem Lay.store {e:aa}{t:Nat}{ns:List DX}{nx:Nat->Nat->Q2}{s u:Int}(l:Lay e t ns nx s u){p i:Nat}(C:p<=ns.length)(z:i<12){v:Q2}{K:aa->Prop}
  (w: ∀c,Lay c t ns (fZ nx p i v) s u->Mod (cQ t ns) e c->c.size=e.size->K c):ae e (((addrAt t ns p).add 3).add (i*1)) (J5 v) K:=by
 rw[add_add,Bk];cases p with
 |zero=>
  show ae e ((⟨t,0,none⟩:Q6).add (3+i)) _ _;rw[Bf,AI];refine ae.mk l.head (by rw[cU];omega) λc d m o=>w c ⟨?_,λj x a=>⟨?_,(l.node j x a).2⟩,l.apart⟩ (m.aj λb _ d=> .inl d) o
  ·rw[d,AO3 z,XU (g:=fZ nx 0 i v 0) (λh=>by simp[fZ])]
  ·rw[m.get _ (Ai (l.node j x a).1) (l.node j x a).2,(l.node j x a).1,KM (g:=fZ nx 0 i v (j+1)) (λh=>by simp[fZ])]
 |succ p=>
  have k:=A2 (l:=ns) (i:=p) (by omega);have f:addrAt t ns (p+1)=⟨ns[p].ah,0,none⟩:=by simp[addrAt,k]
  rw[f,Bf,AI];obtain⟨A,B⟩:=l.node p _ k;refine ae.mk A (by rw[RD];omega) λc d m o=>w c ⟨?_,λj x a=>⟨?_,(l.node j x a).2⟩,l.apart⟩ (m.aj λb _ d=> .inr ⟨_,AK k,d.symm⟩) o
  ·rw[m.get _ (Ai l.head) (λf=>B f.symm),l.head,XU (g:=fZ nx (p+1) i v 0) (λh=>by simp[fZ])]
  ·by_cases q:j=p
   ·subst q;rw[k] at a;cases a;rw[d,vA,KM (g:=fZ nx (j+1) i v (j+1)) (λh=>by simp[fZ])]
   ·have hd:x.ah≠ns[p].ah:=by
     have n:=List.getElem?_eq_some_iff.1 a;have y:=List.pairwise_iff_getElem.1 l.apart;rcases N2 q with r|r
     ·have:=y j p n.1 (by omega) r;rw[n.2] at this;exact this
     ·have:=y p j (by omega) n.1 r;rw[n.2] at this;exact λf=>this f.symm
    rw[m.get _ (Ai (l.node j x a).1) hd,(l.node j x a).1,KM (g:=fZ nx (p+1) i v (j+1)) (λh=>by simp[fZ,q])]
def Ec(l:List Pr):Nat:=(l.map λx=>x.key.size+x.val.size).sum
structure cT (h:aa) (t:Nat) (ns:List DX) (l:List Pr):Prop where
 lay: ∃nx,Lay h t ns nx (l.length:Int) (Ec l:Int)/\kP ns nx
 bX:bX ns=l
 sorted:Sorted l
 aS:BU l
theorem cT.mod {a c:aa}{t:Nat}{ns:List DX}{l:List Pr}{d:Nat->Prop}(T:cT a t ns l)(m:Mod d a c)(e: ∀b,cQ t ns b-> ¬d b):cT c t ns l:=by obtain⟨nx,L,K⟩:=T.lay;exact⟨⟨nx,L.mod m e,K⟩,T.bX,T.sorted,T.aS⟩
theorem cT.ext {a b:aa}{t:Nat}{ns:List DX}{l:List Pr}(T:cT a t ns l)(m:Ext a b):cT b t ns l:=T.mod m λ_ _ a=>a
theorem cT.lt {a:aa}{t:Nat}{ns:List DX}{l:List Pr}(T:cT a t ns l){b:Nat}(c:cQ t ns b):b<a.size:=by obtain⟨nx,L,_⟩:=T.lay;exact L.lt c
theorem sr {d:aq}{a:aa}{c:A2K}(e: ∀b,cT b a.size [] []->Ext a b->b.size=a.size+1->c (J5 (some ⟨a.size,0,none⟩)) b):AA d P QQ #[] a c:=by
 refine AK9 ?_;unfold uU;refine ao.mk λf _ g h j=>e f ⟨⟨λ_ _=>none,⟨g,λl x a=>by simp at a,List.Pairwise.nil⟩,⟨λp i k m _=>?_,λx a=>by cases a⟩⟩,rfl,List.Pairwise.nil,λx a=>by cases a⟩ h j
 have:p=0:=by simpa using k
 subst this;rfl
theorem Nq(l m:List Pr):Ec (l++m)=Ec l+Ec m:=by simp[Ec,List.sum_append]
theorem Rq(x:Pr)(l:List Pr):Ec (x::l)=x.key.size+x.val.size+Ec l:=by simp[Ec]
theorem AK1 {l:List Pr}(g:BU l):Ec l<=l.length*8256:=by
 induction l with
 |nil=>simp[Ec]
 |cons x l a=>
  have d:=a λb c=>g b (by simp[c])
  have e:=g x (by simp);have f:x.key.size<=64/\x.val.size<=8192:=by grind [Ah]
  rw[Rq,A5,By];omega
theorem vC {x:Pr}(a:Ah x=0):x.key.size<=64/\x.val.size<=8192:=by grind [Ah]
theorem AMm {p a:Pr}{nx:Nat->Q2}:(((FO p nx).setIfInBounds 0 (J7 a.key)).setIfInBounds 1 (J7 a.val)).setIfInBounds 2 (J3 a.gone)=FO a nx:=by apply Array.toList_inj.1;rw[Ek,Ek,Ek];rfl
theorem gR.zero {ns:List DX}{key:A2L}{p:Nat}(d: ∀x∈ns,1<=x.ht/\x.ht<=12)(b:VJ ns key 0 p):p=aO key (bX ns):=by
 rcases FA p (aO key (bX ns)) with a|a
 ·have e:=YM key ns;have c:=A2 (l:=ns) (i:=p) (by omega);have f:=b.last p _ (A0 _) a c;have g:=d _ (AK c);omega
 ·have:=b.le;omega
def ga(nx:Nat->Nat->Q2)(c:Nat->Nat)(b:Q6)(i:Nat):Nat->Nat->Q2:=λp a=>if a<i/\p=c a then some b else nx p a
def jW(nx:Nat->Nat->Q2)(b:Nat->Nat)(i:Nat):Nat->Q2:=λa=>if a<i then nx (b a) a else none
def gS(nx:Nat->Nat->Q2)(c:Nat->Nat)(b:Q6)(d a:Nat):Nat->Nat->Q2:=λp i=>if p<=a then ga nx c b d p i else if p=a+1 then jW nx c d i else ga nx c b d (p-1) i
theorem vD {c:Type}{ns:List c}{x:c}{a b:Nat}(d:a<=ns.length):(ns.take a++x::ns.drop a)[b]? =if b<a then ns[b]? else if b=a then some x else ns[b-1]? :=by grind
theorem AOW {b:Type}{ns:List b}{x:b}{a p:Nat}(c:a<=ns.length)(d:p<=a):(ns.take a++x::ns.drop a).drop p=(ns.take a).drop p++x::ns.drop a:=by grind
theorem AMn {b:Type}{ns:List b}{x:b}{a p:Nat}(c:a<=ns.length)(d:a<p):(ns.take a++x::ns.drop a).drop p=ns.drop (p-1):=by rw[R1,Pc (by simp;omega),CM];simp only[Ax,Fm c];rw[show p-a=(p-a-1)+1 by omega,HU,HW];congr 1;omega
theorem kP.insert {ns:List DX}{nx:Nat->Nat->Q2}{key:A2L}(K:kP ns nx){d:Nat->Nat}(s: ∀i,i<12->VJ ns key i (d i)){x:DX}(E:1<=x.ht/\x.ht<=12):
  kP (ns.take (aO key (bX ns))++x::ns.drop (aO key (bX ns))) (gS nx d ⟨x.ah,0,none⟩ x.ht (aO key (bX ns))):=by
 have t:=YM key ns;generalize j:aO key (bX ns)=a at*
 refine⟨λp i J g n=>?_,λh b=>?_⟩
 ·unfold gS;split
  ·rename_i w;have o:i<Sz ns p:=by
    cases p with
    |zero=>exact g
    |succ p=>
     unfold Sz at n ⊢
     grind
   have y:=K.link p i (by omega) g o;have z:ns.drop p=(ns.take a).drop p++ns.drop a:=by grind [List.take_append_drop]
   have f:=s i g;rw[AOW t w,OT];unfold ga;by_cases q:i<x.ht
   ·have F:DL i (x::ns.drop a)=some ⟨x.ah,0,none⟩:=by grind [DL]
    rw[F];by_cases u:p=d i
    ·rw[if_pos ⟨q,u⟩,AHs λh b=>?_]
     ·rfl
     ·obtain⟨A,B,L⟩:=Ds b;simp at B;have M:(ns.take a).drop p=(ns.take a).drop p:=rfl;refine f.last (p+A) h (by omega) (by rw[j];omega) ?_
      grind
    ·rw[if_neg (λe=>u e.2),y,z,OT];have G:p<d i:=by
      rcases HK p (d i) with e|e|e
      ·exact e
      ·exact absurd e u
      ·exfalso;cases p with
       |zero=>omega
       |succ p=>
        have r:=A2 (l:=ns) (i:=p) (by omega);have N:=f.last p _ (by omega) (by rw[j];omega) r;simp[Sz,r] at o;omega
     have m:=f.le;rw[j] at m;have v:=f.ht;obtain⟨c,H⟩: ∃c,d i=c+1:=⟨d i-1,by omega⟩;rw[H] at v G m;have r:=A2 (l:=ns) (i:=c) (by omega);simp[Sz,r] at v;have I:ns[c]∈(ns.take a).drop p:=by
      refine AK (i:=c-p) ?_
      grind
     obtain⟨h,b⟩:=AKc I v;rw[b];rfl
   ·rw[if_neg (λe=>q e.1),y,z,OT];have:DL i (x::ns.drop a)=DL i (ns.drop a):=by grind [DL]
    rw[this]
  ·rename_i w;rw[AMn t (by omega)];split
   ·rename_i C;subst C;have q:i<x.ht:=by
     unfold Sz at n
     simp_all
    have f:=s i g;have m:=f.le;rw[j] at m;unfold jW;rw[if_pos q,K.link (d i) i (by omega) g f.ht,AGL (k:=a-d i) (by simp;omega) λA h B b=>?_]
    ·rw[HW];congr 2;omega
    ·rw[C5] at b;exact f.last _ h (by omega) (by rw[j];omega) b
   ·rename_i C;obtain⟨c,rfl⟩: ∃c,p=c+1:=⟨p-1,by omega⟩;rw[N3];have O:(ns.take a++x::ns.drop a).length=ns.length+1:=by simp;omega
    have o:i<Sz ns c:=by
     unfold Sz at n;simp only at n;rw[vD t,if_neg (by omega),if_neg (by omega)] at n;obtain⟨D,rfl⟩: ∃D,c=D+1:=⟨c-1,by omega⟩
     simp_all [Sz]
    have m:=(s i g).le;rw[j] at m;unfold ga;rw[if_neg (λe=>by omega)];exact K.link c i (by omega) g o
 ·rw[HS,Gk] at b;rcases b with b|rfl|b
  ·exact K.ht h (DM b)
  ·exact E
  ·exact K.ht h (HX b)
set_option maxHeartbeats 1000000 in
theorem su {bU:aq}{s:aa}{t:Nat}{ns:List DX}{l:List Pr}{x:Pr}{am:A2K}(T:cT s t ns l)(cK:l.length<1099511627776)
  (an: ∀ba ap,cT ap t ba (CZ x l)->Mod (cQ t ns) s ap->(∀ b,cQ t ba b->cQ t ns b\/s.size<=b)->am (J6 J9 (Ah x)) ap):
  AA bU P KD #[J5 (some ⟨t,0,none⟩),.agg #[J7 x.key,J7 x.val,J3 x.gone]] s am:=by
 refine ZP ?_;unfold SN;refine ao.mk λe _ u ar cL=>?_
 have bb:=T.ext ar;have au:Ah x≠0->am (J6 J9 (Ah x)) e:=λw=>an ns e (by simpa [CZ,w] using bb) ar.mod (λb u=> .inl u)
 refine ai.mk λK av=>?_
 have aw:(decide (x.key=⟨#[]⟩)||(x.gone&& !decide (x.val=⟨#[]⟩)))=true->K (true,()) e:=λj=>av _ _ (af.yes rfl (by
  have w:Ah x=1:=by unfold Ah;rw[if_pos j]
  have:=au (by rw[w];decide);rw[w] at this;exact this))
 have bc:(decide (x.key=⟨#[]⟩)||(x.gone&& !decide (x.val=⟨#[]⟩)))=false->K (false,()) e:=λj=>av _ _ (af.no rfl (by
  refine ai.mk λbd ax=>?_
  have ay:(decide (x.key.size>64)||decide (x.val.size>8192))=true->bd (true,()) e:=λaz=>ax _ _ (af.yes rfl (by
   have w:Ah x=2:=by unfold Ah;rw[if_neg (by simp[j]),if_pos az]
   have:=au (by rw[w];decide);rw[w] at this;exact this))
  have bV:(decide (x.key.size>64)||decide (x.val.size>8192))=false->bd (false,()) e:=λaz=>ax _ _ (af.no rfl (by
   have w:Ah x=0:=by unfold Ah;rw[if_neg (by simp[j]),if_neg (by simp[az])]
   have bW:=vC w;clear aw ax av ay au;obtain⟨nx,aA,D⟩:=bb.lay;have V:CZ x l=ins x l:=Qr w;have be:=PZ (x:=x) T.sorted;have bf:=vG (x:=x) T.aS;have L:=T.bX;have bY:Sorted (bX ns):=by rw[L];exact T.sorted
   have cM:ns.length=l.length:=by rw[<- L];simp
   have cN:=AK1 T.aS;refine AJ.mk (AO u rfl) ?_;refine Zv aA D bY λk F r W=>⟨_,_,_,_,_,_,_,_,_,_,_,_,rfl,?_⟩
   have aC:=gR.zero D.ht (r 0 (by omega));have bg:=aA.ext W;refine ao.mk λbZ _ b0 b1 cO=>?_
   have b2:bZ[F.size]? =some (J2 (cR (λ_=>none)).toArray EC (0,0)):=b0;simp only[Bf,AI];refine ae.mk b2 (by simp[BZ]) λcP aE bh b3=>?_
   rw[IG _ rfl] at aE;refine ae.mk aE (by simp[BZ]) λcS aF M b4=>?_
   rw[IG _ rfl] at aF;refine ae.mk aF (by simp[BZ]) λcV aG bi b5=>?_
   rw[IG _ rfl] at aG;refine ae.mk aG (by simp[BZ]) λcW aH bj b6=>?_
   rw[IG _ rfl] at aH;refine ae.mk aH (by simp[BZ]) λcX aI bk b7=>?_
   rw[IG _ rfl] at aI;refine ae.mk aI (by simp[BZ]) λcY aJ bm b8=>?_
   rw[IG _ rfl] at aJ;refine ae.mk aJ (by simp[BZ]) λcZ aK bn b9=>?_
   rw[IG _ rfl] at aK;refine ae.mk aK (by simp[BZ]) λc0 aL bo ca=>?_
   rw[IG _ rfl] at aL;refine ae.mk aL (by simp[BZ]) λc1 aM bp cb=>?_
   rw[IG _ rfl] at aM;refine ae.mk aM (by simp[BZ]) λc2 aN bq cc=>?_
   rw[IG _ rfl] at aN;refine ae.mk aN (by simp[BZ]) λc3 aP br cd=>?_
   rw[IG _ rfl] at aP;refine ae.mk aP (by simp[BZ]) λf aQ bs ce=>?_
   rw[IG _ rfl] at aQ;have aR:f[F.size]? =some (J2 (cR (λi=>some (addrAt t ns (k i)))).toArray EC (0,0)):=by rw[aQ];congr 3
   have bt:=((((((((((bh.trans M).trans bi).trans bj).trans bk).trans bm).trans bn).trans bo).trans bp).trans bq).trans br).trans bs;have X:Ext F f:=b1.then (bt.aj λc _ j=> .inr (by omega));have c4:=X.size;have c5:=Ai aR;have c6:=W.size;clear bt aE aF aG aH aI aJ aK aL aM aN aP aQ bh M bi bj bk bm bn bo bp bq br bs b3 b4 b5 b6 b7 b8 b9 ca cb cc cd ce;have y:=bg.ext X;have G:f[s.size]? =some (J2 #[J7 x.key,J7 x.val,J3 x.gone] AR (0,0)):=X.ah (W.ah u (by simp)) (by simp);have cf:=YM x.key ns;have aS:Ext s f:=ar.trans (W.trans X);refine⟨by omega,AX.mk (Cs aR (i:=0) (by omega)) ⟨by omega,AX.mk (y.next (p:=k 0) (i:=0) (by rw[aC];omega) (by omega)) ?_⟩⟩;have cg:nx (k 0) 0=(ns[aO x.key (bX ns)]?).map λd=>⟨d.ah,0,none⟩:=by rw[D.link (k 0) 0 (by rw[aC];omega) (by omega) (r 0 (by omega)).ht,aC,SI D.ht]
   rw[cg];have Y:BC x.key l=match ns[aO x.key (bX ns)]? with|some d=>decide (d.pr.key=x.key)|none=>false:=by
    unfold BC
    grind
   generalize aT:aO x.key (bX ns)=a at*
   have Z:aO x.key l=a:=by rw[<- L];exact aT
   have ab:YD x l=ins x l:=mS x l;refine ai.mk λbu bv=>?_
   have ch: ∀d,ns[a]? =some d->d.pr.key=x.key->bu (true,()) f:=λd n E=>bv _ _ (af.yes rfl (by
    have H:=List.getElem?_eq_some_iff.1 n;have ci:a<ns.length:=H.1;rw[n];have cj:=y.pair n;have c7:d.pr.key.size=x.key.size:=by rw[E]
    refine AC.mk (AB y.head lQ.2) (AJ.mk (AO G rfl) (AJ.mk cj.2.1 ?_));have ck: ∃aU:Nat,Ec l=d.pr.key.size+d.pr.val.size+aU/\Ec (CZ x l)=x.key.size+x.val.size+aU:=by
     have aV:l=l.take a++d.pr::l.drop (a+1):=by
      have aW:l[a]? =some d.pr:=by rw[<- L];simp[n]
      have e:=List.getElem?_eq_some_iff.1 aW;rw[<- e.2,<-E0 e.1,DA]
     have Q:CZ x l=l.take a++x::l.drop (a+1):=by rw[V,<-ab];unfold YD;rw[Y,n,Z,if_pos (by simp[E])];simp
     refine⟨Ec (l.take a)+Ec (l.drop (a+1)),?_,?_⟩
     ·conv=>lhs;rw[aV]
      rw[Nq,Rq];omega
     ·rw[Q,Nq,Rq];omega
    obtain⟨aU,c8,c9⟩:=ck;have aX:J8 J9 ((Ec l:Int)+J8 J9 ((x.val.size:Int)-(d.pr.val.size:Int)))=(Ec (CZ x l):Int):=by
     have da:d.pr.val.size<=8192:=(vC (T.aS d.pr (by grind))).2;have aV:J8 J9 ((x.val.size:Int)-(d.pr.val.size:Int))=(x.val.size:Int)-(d.pr.val.size:Int):=by exact AOf (by omega) (by omega)
     rw[aV,show(Ec l:Int)+((x.val.size:Int)-(d.pr.val.size:Int))=((Ec (CZ x l):Nat):Int) by omega];exact GY (by omega)
    rw[aX];refine aD ?_;rw[Bf,AI];refine ae.mk y.head (by rw[cU];omega) λbw bx ac db=>?_
    rw[vB] at bx;have aY:=y.node a d n;have aZ:bw[s.size]? =some (J2 #[J7 x.key,J7 x.val,J3 x.gone] AR (0,0)):=ac.ah G (by have:=aA.lt (.inl rfl:cQ t ns t);have:=T.lt (.inl rfl:cQ t ns t);omega);refine AJ.mk (AO aZ rfl) (AJ.mk (AO aZ rfl) (Aa.mk (AO aZ rfl) ?_));have cl:=ac.ah aY.1 aY.2;refine aD ?_;refine ae.mk cl (by rw[RD];omega) λdc cm cn dd=>?_
    rw[Bf,Bf];refine ae.mk cm (by rw[R2,RD];omega) λde co cp df=>?_
    refine ae.mk co (by rw[R2,R2,RD];omega) λa0 bz cq dg=>?_
    simp only[AI] at bz;rw[AMm] at bz;have a1:Mod (λc=>c=d.ah) bw a0:=(cn.trans cp).trans cq;have a2:cQ t ns t:= .inl rfl;have bA:cQ t ns d.ah:= .inr ⟨d,AK n,rfl⟩;rw[<- w];refine an (ns.set a {d with pr:=x}) a0 ⟨⟨nx,⟨?_,λq z h=>?_,?_⟩,⟨λp i ad ag bB=>?_,λz h=>?_⟩⟩,?_,be,bf⟩ ?_ λb u=>?_
    ·have a3:(CZ x l).length=l.length:=by rw[V,<-ab];unfold YD;rw[Y,n,Z,if_pos (by simp[E])];simp;omega
     rw[a3];exact a1.ah bx (λo=>aY.2 o.symm)
    ·rw[MD] at h;split at h
     ·grind
     ·rename_i N;have A:=y.node q z h;refine⟨?_,A.2⟩;refine a1.ah (ac.ah A.1 A.2) ?_;have e:=List.getElem?_eq_some_iff.1 h;have bC:=List.pairwise_iff_getElem.1 y.apart;rcases N2 N with a4|a4
      ·have:=bC a q H.1 e.1 a4;rw[e.2,H.2] at this;exact λo=>this o.symm
      ·have:=bC q a e.1 H.1 a4;rw[e.2,H.2] at this;exact this
    ·have o:(ns.set a {d with pr:=x}).map (·.ah)=ns.map (·.ah):=by
      rw[Rg];apply List.ext_getElem?;intro q;rw[MD];split
      ·rename_i N;subst N;simp[H.1,H.2]
      ·rfl
     have e:(ns.map (·.ah)).Pairwise (· ≠ ·):=List.pairwise_map.2 y.apart;rw[<- o] at e;exact List.pairwise_map.1 e
    ·rw[Rr] at ad;have cr:Sz (ns.set a {d with pr:=x}) p=Sz ns p:=by
      cases p with
      |zero=>rfl
      |succ p=>
       unfold Sz;simp only;rw[MD];by_cases N:a=p
       ·subst N;rw[if_pos rfl,if_pos ci,n]
       ·rw[if_neg N]
     rw[cr] at bB;rw[D.link p i ad ag bB];have key: ∀m:List DX,∀a,m[a]? =some d->DL i (m.set a {d with pr:=x})=DL i m:=by
      intro m
      induction m with
      |nil=>intro a s;simp at s
      |cons z m cs=>
       intro a s;cases a with
       |zero=>simp at s;subst s;by_cases hd:i<z.ht<;>simp[DL,hd]
       |succ a=>
        have:=cs a (by simpa using s);unfold DL at this ⊢;rw[List.set_cons_succ,F0,F0];split
        ·rfl
        ·exact this
     rcases FA a p with e|e
     ·rw[List.drop_set_of_lt e]
     ·rw[List.drop_set];rw[if_neg (by omega)];exact(key _ _ (by rw[C5];rw[<- n];congr 1;omega)).symm
    ·obtain⟨q,I,o⟩:=Ds h;rw[List.getElem_set] at o;split at o
     ·subst o;exact D.ht d (AK n)
     ·subst o;exact D.ht _ (AW _)
    ·rw[V,<-ab];unfold YD;rw[Y,n,Z,if_pos (by simp[E])];show(ns.set a {d with pr:=x}).map (·.pr)=_;rw[Rg,A04];have:(ns.map (·.pr))=l:=L;rw[this];have aW:a<l.length:=by omega
     simp[aW]
    ·have M:Mod (cQ t ns) f a0:=(ac.aj λc _ j=>by subst j;exact a2).trans (a1.aj λc _ j=>by subst j;exact bA);exact aS.mod.trans M
    ·rcases u with rfl|⟨z,h,rfl⟩
     ·exact .inl (.inl rfl)
     ·obtain⟨q,I,o⟩:=Ds h;rw[List.getElem_set] at o;split at o
      ·subst o;exact .inl bA
      ·subst o;exact .inl (.inr ⟨_,AW _,rfl⟩)))
   have bD:BC x.key l=false->bu (false,()) f:=λa2=>bv _ _ (af.no rfl (by
    refine AJ.mk (AO G rfl) (AJ.mk (AO G rfl) (Aa.mk (AO G rfl) ?_));refine ao.mk λbE _ ct ah dh=>?_
    have bF:=ah.ah G (by simp);refine AJ.mk (AO bF rfl) ?_;refine ANF bW.1 λB cu cv=>⟨_,rfl,?_⟩
    have cw:bE[f.size]? =some (J2 (FO x (λ_=>none)) RN (0,0)):=ct;have cx:=y.ext ah;have bG: ∀i,i<12->k i<=ns.length:=λi ag=>by have:=(r i ag).le;rw[aT] at this;omega
    have cy:=ah.ah aR (by simp);have a5: ∀c,cQ t ns c->c<f.size:=λc j=>y.lt j
    have cz: ∀c,cQ t ns c->c<F.size:=λc j=>bg.lt j
    refine Loop.rule (λm d C=> ∃i:Nat,d=((i:Int),())/\m=B-i/\i<=B/\Mod (λc=>cQ t ns c\/c=f.size) bE C/\Lay C t ns (ga nx k ⟨f.size,0,none⟩ i) (l.length:Int) (Ec l:Int)/\C[f.size]? =some (J2 (FO x (jW nx k i)) RN (0,0))) ?_
     ⟨0,rfl,rfl,by omega,Mod.refl,?_,?_⟩
    rotate_left
    ·have:ga nx k ⟨f.size,0,none⟩ 0=nx:=by funext p B;simp[ga]
     rw[this];exact cx
    ·have:jW nx k 0=λ_=>none:=by funext B;simp[jW]
     rw[this];exact cw
    rintro cB m _ C ⟨i,rfl,rfl,ag,R,J,bH⟩ cC;have di:=R.size;have bI:C[F.size]? =some (J2 (cR (λi=>some (addrAt t ns (k i)))).toArray EC (0,0)):=R.ah cy (λa6=>a6.elim (λe=>by have:=cz _ e;omega) (λe=>by omega));refine af.intro (λj=>?_) (λj=>?_)
    ·have bJ:i<B:=by simpa using j
     have O:i<12:=by omega
     have S:(0:Int)<=(i:Int)/\(i:Int)<(12:Int):=⟨by omega,by omega⟩;refine⟨S,?_⟩;show AX C ⟨F.size,i*1,none⟩ _;rw[Bk];refine AX.mk (Cs bI O) ⟨S,?_⟩;show AX C (((addrAt t ns (k i)).add 3).add (i*1)) _;refine AX.mk (J.next (p:=k i) (i:=i) (bG i O) O) ⟨S,?_⟩;have cD:ga nx k ⟨f.size,0,none⟩ i (k i) i=nx (k i) i:=by simp[ga]
     show ae C ⟨f.size,3+i*1,none⟩ (J5 (ga nx k ⟨f.size,0,none⟩ i (k i) i)) _;rw[cD,Bk];refine ae.mk bH (by rw[RD];omega) λbK bL a7 dj=>?_
     rw[vA] at bL;have cE:=J.mod a7 (λc j o=>by have:=a5 c j;omega);refine⟨S,?_⟩;show AX bK ⟨F.size,i*1,none⟩ _;rw[Bk];refine AX.mk (Cs (a7.ah bI (by omega)) O) ⟨S,?_⟩;show ae bK (((addrAt t ns (k i)).add 3).add (i*1)) (J5 (some ⟨f.size,0,none⟩)) (λbM=>cB (J8 J9 ((i:Int)+(1:Int)),()) bM);refine cE.store (p:=k i) (i:=i) (bG i O) O (v:=some ⟨f.size,0,none⟩) (λbM bN bO dk=>?_)
     ·refine cC (B-(i+1)) _ _ (by omega) ⟨i+1,by rw[Ae (by omega)],rfl,by omega,(R.trans (a7.aj λc _ j=> .inr j)).trans (bO.aj λc _ j=> .inl j),?_,?_⟩
      ·have:fZ (ga nx k ⟨f.size,0,none⟩ i) (k i) i (some ⟨f.size,0,none⟩)=ga nx k ⟨f.size,0,none⟩ (i+1):=by
        funext p q;unfold fZ ga;by_cases I:q=i
        ·subst I
         grind
        ·by_cases ad:p=k q<;>simp[ad,I,Nat.lt_succ_iff,Nat.le_iff_lt_or_eq]
       rw[this] at bN;exact bN
      ·rw[bO.ah bL (λj=>by have:=a5 _ j;omega),KM (g:=jW nx k (i+1)) (λq=>?_)];unfold jW;by_cases I:q=i
       ·subst I;simp
       ·simp[I,Nat.lt_succ_iff,Nat.le_iff_lt_or_eq]
    ·have bJ:i=B:=by simp at j;omega
     subst bJ;refine AC.mk (AB J.head lQ.1) ?_;refine aD ?_;rw[Bf,AI];refine ae.mk J.head (by rw[cU];omega) λdl a8 bP dm=>?_
     rw[AMd] at a8;have bQ:cQ t ns t:= .inl rfl;have dn:=T.lt bQ;have cF:C[s.size]? =some (J2 #[J7 x.key,J7 x.val,J3 x.gone] AR (0,0)):=R.ah bF (λa6=>a6.elim (λe=>by have:=T.lt e;omega) (λe=>by omega));have bR:=bP.ah cF (by omega);refine aD ?_;rw[Bf,AI];refine AC.mk (AO a8 lQ.2) (AJ.mk (AO bR rfl) (AJ.mk (AO bR rfl) (aD ?_)));rw[Bf,AI];refine ae.mk a8 (by rw[cU];omega) λaj a9 cG dp=>?_
     rw[vB] at a9;have Q:CZ x l=l.take a++x::l.drop a:=by rw[V,<-ab];unfold YD;rw[a2,Z];simp
     have dq:Ec (CZ x l)=Ec l+(x.key.size+x.val.size):=by
      rw[Q,Nq,Rq];have:Ec l=Ec (l.take a)+Ec (l.drop a):=by rw[<- Nq,DA]
      omega
     have a3:(CZ x l).length=l.length+1:=by rw[Q];simp;omega
     have aX:J8 J9 ((l.length:Int)+(1:Int))=((CZ x l).length:Int):=by rw[a3];exact Ae (by omega)
     have cH:J8 J9 ((Ec l:Int)+J8 J9 ((x.key.size:Int)+(x.val.size:Int)))=(Ec (CZ x l):Int):=by rw[show((x.key.size:Int)+(x.val.size:Int))=((x.key.size+x.val.size:Nat):Int) by omega,GY (by omega),show(Ec l:Int)+((x.key.size+x.val.size:Nat):Int)=((Ec (CZ x l):Nat):Int) by omega];exact GY (by omega)
     rw[aX,cH] at a9;have mt:Mod (λc=>c=t) C aj:=bP.trans cG;have cI:=mt.ah bH (by omega);rw[<- w];refine an (ns.take a++⟨f.size,x,i⟩::ns.drop a) aj ⟨⟨gS nx k ⟨f.size,0,none⟩ i a,⟨?_,λq z h=>?_,?_⟩,?_⟩,?_,be,bf⟩ ?_ λb u=>?_
     ·rw[a9,XU (g:=gS nx k ⟨f.size,0,none⟩ i a 0) (λB=>?_)];simp[gS]
     ·rw[vD cf] at h;split at h
      ·rename_i cJ;have A:=J.node q z h;refine⟨?_,A.2⟩;rw[mt.ah A.1 A.2,KM (g:=gS nx k ⟨f.size,0,none⟩ i a (q+1)) (λB=>?_)];unfold gS;rw[if_pos (by omega)]
      ·rename_i cJ;split at h
       ·rename_i bS;subst bS;cases h;refine⟨?_,by grind⟩;show aj[f.size]? =_;rw[cI,KM (g:=gS nx k ⟨f.size,0,none⟩ i q (q+1)) (λB=>?_)];unfold gS
        grind
       ·rename_i bS;obtain⟨ak,rfl⟩: ∃ak,q=ak+1:=⟨q-1,by omega⟩;rw[N3] at h;have A:=J.node ak z h;refine⟨?_,A.2⟩;rw[mt.ah A.1 A.2,KM (g:=gS nx k ⟨f.size,0,none⟩ i a (ak+1+1)) (λB=>?_)];unfold gS
        grind
     ·have e:=J.apart;have bT: ∀z∈ns,z.ah≠f.size:=λz h o=>by have:=a5 z.ah (.inr ⟨z,h,rfl⟩);omega
      rw[<- DA a ns] at e;rw[List.pairwise_append] at e ⊢;refine⟨e.1,List.pairwise_cons.2 ⟨λz h=>λo=>bT z (HX h) o.symm,e.2.1⟩,λd n z h=>?_⟩;rcases List.mem_cons.1 h with rfl|h
      ·exact bT d (DM n)
      ·exact e.2.2 d n z h
     ·have:=D.insert (key:=x.key) r (x:=⟨f.size,x,i⟩) ⟨cu,cv⟩;rw[aT] at this;exact this
     ·show(ns.take a++⟨f.size,x,i⟩::ns.drop a).map (·.pr)=_;have:(ns.map (·.pr))=l:=L;rw[Q,<-this];simp[Pa,List.map_drop]
     ·have M:Mod (λc=>cQ t ns c\/c=f.size) f aj:=(ah.mod.trans R).trans (mt.aj λc _ j=>by subst j;exact .inl bQ);exact aS.mod.then (M.aj λc _ j=>j.elim .inl λe=> .inr (by have:=aS.size;omega))
     ·rcases u with rfl|⟨z,h,rfl⟩
      ·exact .inl (.inl rfl)
      ·rw[HS,Gk] at h;rcases h with h|rfl|h
       ·exact .inl (.inr ⟨z,DM h,rfl⟩)
       ·grind
       ·exact .inl (.inr ⟨z,HX h,rfl⟩)))
   cases n:ns[a]? with
   |none=>
    refine af.no rfl (bD ?_);rw[Y,n]
   |some d=>
    refine af.yes rfl ?_;refine AJ.mk (y.pair n).1 (AJ.mk (AO G rfl) ?_);rw[Bw];by_cases E:d.pr.key=x.key
    ·rw[decide_eq_true E];exact ch d n E
    ·rw[decide_eq_false E];exact bD (by grind)))
  refine AJ.mk (AO u rfl) ?_;refine af.intro (λr=>?_) (λr=>?_)
  ·exact ay (by simp at r;simp;omega)
  ·refine AJ.mk (AB u rfl) ?_;simp at r;cases U:decide ((x.val.size:Int)>(8192:Int))
   ·exact bV (by simp at U;simp;omega)
   ·exact ay (by simp at U;simp;omega)))
 refine af.no rfl ?_;refine AJ.mk (AO u rfl) ?_;rw[Bw];refine af.intro (λr=>?_) (λr=>?_)
 ·exact aw (by simp at r;simp[r])
 ·refine Aa.mk (AB u rfl) ?_;simp at r;refine af.intro (λal=>?_) (λal=>?_)
  ·refine AJ.mk (AB u rfl) ?_;rw[Bw];cases U:(!decide (x.val=⟨#[]⟩))
   ·exact bc (by simp[r,al,U])
   ·exact aw (by simp[r,al,U])
  ·exact bc (by simp[r,al])
theorem sn {c:aq}{a:aa}{t:Nat}{ns:List DX}{l:List Pr}{b:A2K}(T:cT a t ns l)(d:b (J1 #[J6 J9 (l.length:Int),J6 J9 (Ec l:Int)]) a):AA c P KC #[J5 (some ⟨t,0,none⟩)] a b:=by obtain⟨nx,L,_⟩:=T.lay;refine AAN ?_;unfold Sk;refine af.no rfl ?_;exact AC.mk (AB L.head lQ.1) (AC.mk (AB L.head lQ.2) d)
def Ue:Pr:=⟨⟨#[]⟩,⟨#[]⟩,false⟩
def NJ(key:A2L)(l:List Pr):Pr×Bool:=match l[aO key l]? with|some a=>if a.key=key then(a,true) else(Ue,false)|none=>(Ue,false)
theorem three {a:aa}{b:Nat}{T:Q7}{j k c2:J0}{f v:A2L}{g:Bool}{K:aa->Prop}(l:a[b]? =some (J2 #[j,k,c2] T (0,0)))
  (m: ∀d,d[b]? =some (J2 #[J7 f,J7 v,J3 g] T (0,0))->Mod (λc=>c=b) a d->K d):
  ae a ⟨b,0,none⟩ (J7 f) λh=>ae h ((⟨b,0,none⟩:Q6).add 1) (J7 v) λi=>ae i ((⟨b,0,none⟩:Q6).add 2) (J3 g) λe=>K e:=by
 refine ae.mk l (by simp) λh n o t=>?_
 rw[Bf,Bf];refine ae.mk n (by simp) λi p q u=>?_
 refine ae.mk p (by simp) λe r s w=>?_
 exact m e (by simpa using r) ((o.trans q).trans s)
theorem vE {c d:aa}{t:Nat}{ns:List DX}{nx:Nat->Nat->Q2}{g h:Int}{key:A2L}{a:Nat->Nat}(L:Lay c t ns nx g h)(K:kP ns nx)(e: ∀i,i<12->VJ ns key i (a i))(x:Ext c d):
  ag d (((addrAt t ns (a 0)).add 3).add (0*1))=some (J5 ((ns[aO key (bX ns)]?).map λj=>⟨j.ah,0,none⟩)):=by
 have b:=gR.zero K.ht (e 0 (by omega));have f:=YM key ns;have k:=(L.ext x).next (p:=a 0) (i:=0) (by rw[b];exact f) (by omega);rw[k,K.link (a 0) 0 (by rw[b];exact f) (by omega) (e 0 (by omega)).ht,b,SI K.ht]
theorem AQX {z:aq}{d:aa}{t:Nat}{ns:List DX}{l:List Pr}{key:A2L}{m:A2K}(T:cT d t ns l)(A: ∀r,Ext d r->m (J1 #[(NJ key l).1.agg,J3 (NJ key l).2]) r):
  AA z P NS #[J5 (some ⟨t,0,none⟩),J7 key] d m:=by
 obtain⟨nx,L,s⟩:=T.lay;refine Zj ?_;unfold Sm;refine ao.mk λI _ B n J=>af.no rfl ?_
 have C:Sorted (bX ns):=by rw[T.bX];exact T.sorted
 refine Zv (L.ext n) s C λM o D p=>⟨_,_,_,_,_,_,_,_,_,_,_,_,rfl,?_⟩
 refine aD ⟨by omega,AX.mk (vE (L.ext n) s D p) ?_⟩;have u:=p.ah B (by simp);have v:Ext d o:=n.trans p;have E:=L.ext v;have ag:NJ key l=match ns[aO key (bX ns)]? with|some f=>if f.pr.key=key then(f.pr,true) else(Ue,false)|none=>(Ue,false):=by unfold NJ;rw[<- T.bX];rw[show bX ns=ns.map (·.pr) from rfl,C2];cases ns[aO key (ns.map (·.pr))]? <;>rfl
 have w: ∀(g:Pr) (b:Bool) a,a[d.size]? =some (J2 #[J7 g.key,J7 g.val,J3 g.gone] AR (0,0))->Mod (λc=>c=d.size) o a->NJ key l=(g,b)->
   (AJ a (⟨d.size,0,none⟩:Q6) λF=>AJ a ((⟨d.size,0,none⟩:Q6).add 1) λG=>Aa a ((⟨d.size,0,none⟩:Q6).add 2) λH=>m (J1 #[.agg #[J7 F,J7 G,J3 H],J3 b]) a):=λg b a e h q=>by
  refine AJ.mk (AO e rfl) (AJ.mk (AB e rfl) (Aa.mk (AB e rfl) ?_));have:=A a (v.then (h.aj λc _ N=> .inr (by omega)));rw[q] at this;exact this
 refine ai.mk λK x=>?_
 have y:NJ key l=(Ue,false)->K (false,()) o:=λq=>x _ _ (af.no rfl (three u λa e h=>w Ue false a e h q))
 cases i:ns[aO key (bX ns)]? with
 |none=>
  rw[i] at ag;exact af.no rfl (y ag)
 |some f=>
  rw[i] at ag;refine af.yes rfl (aD ?_);have j:=E.pair i;refine AJ.mk j.1 ?_;rw[Bw];by_cases k:f.pr.key=key
  ·rw[decide_eq_true k];refine x _ _ (af.yes rfl ?_);rw[i];refine aD (AJ.mk j.1 (AJ.mk j.2.1 (Aa.mk j.2.2 ?_)));simp only[k,if_true] at ag;exact three u λa e h=>w f.pr true a e h ag
  ·rw[decide_eq_false k];simp only[k,if_false] at ag;exact y ag
theorem sd {a c b:J0}:(#[]++ #[a]++ #[c,b]:Array J0)= #[a,c,b]:=rfl
theorem AP2 {A:aq}{s:aa}{b c t:Nat}{T U:Q7}{fr V:Nat×Nat}{ns:List DX}{l:List Pr}{key:A2L}(f:s[b]? =some (J2 #[J5 (some ⟨t,0,none⟩)] T fr))(I:s[c]? =some (J2 #[J7 key] U V))(j:cT s t ns l):
  EQ A P (.func (.func KR) #[] #[J5 (some ⟨b,0,none⟩),J5 (some ⟨c,0,none⟩)]) (λe=>cQ t ns e\/e=b\/e=c) s (l.drop (aO key l)):=by
 refine⟨?_,_,_,rfl,λW=>by kernel_rfl,λd u W X k h hd hB Y Z=>?_⟩
 ·rintro e (hd|rfl|rfl)
  ·exact j.lt hd
  ·exact Ai f
  ·exact Ai I
 rw[sd];refine Vl ?_;unfold O0;have J:=(u b (.inr (.inl rfl))).trans f;have ab:=(u c (.inr (.inr rfl))).trans I;obtain⟨nx,v,o⟩:=j.lay;have L:Lay d t ns nx (l.length:Int) (Ec l:Int):=
  ⟨(u t (.inl (.inl rfl))).trans v.head,λa x z=>⟨(u x.ah (.inl (.inr ⟨x,AK z,rfl⟩))).trans (v.node a x z).1,(v.node a x z).2⟩,v.apart⟩
 have M: ∀e,cQ t ns e-> ¬k e:=λe ac=>hd e (.inl ac)
 refine AX.mk (AO J rfl) (af.no rfl (AX.mk (AO J rfl) (AJ.mk (AO ab rfl) ?_)));have ad:Sorted (bX ns):=by rw[j.bX];exact j.sorted
 refine Zv L o ad λao ae q B=>⟨_,_,_,_,_,_,_,_,_,_,_,_,rfl,?_⟩
 refine aD ⟨by omega,AX.mk (vE L o q B) ?_⟩;have ah:aO key (bX ns)=aO key l:=by rw[j.bX]
 have ap:=mP key l;have ar:ns.length=l.length:=by rw[<- j.bX];simp
 rw[ah];have ai:=hB.ba _ _ _ _ _ Z (B.aj (S':=λb=>¬k b/\d.size<=b) λ_ _ d=>d.elim);refine Loop.rule (λm x w=> ∃(a:Nat) (r:Nat->Prop),x=((ns[aO key l+a]?).map λn=>(⟨n.ah,0,none⟩:Q6),())/\m=l.length-(aO key l+a)/\aO key l+a<=l.length/\Mod k d w/\(∀ b,r b->k b\/d.size<=b)/\X a true r w) ?_
  ⟨0,k,rfl,rfl,by omega,B.mod,λb f=> .inl f,ai⟩
 rintro K m _ w ⟨a,r,rfl,rfl,au,y,C,N⟩ aj;have D:(l.drop (aO key l)).length=l.length-aO key l:=by simp
 cases h:ns[aO key l+a]? with
 |none=>
  have:=List.getElem?_eq_none_iff.1 h;refine af.no rfl ?_;exact⟨rfl,a,true,r,y,C,N,λ_=>by rw[D];omega,by rw[D];omega⟩
 |some n=>
  have av:=(List.getElem?_eq_some_iff.1 h).1;have E:=(L.mod y M).pair h;refine af.yes rfl (aD (AJ.mk E.1 (AJ.mk E.2.1 (Aa.mk E.2.2 ?_))));have ag:(l.drop (aO key l))[a]? =some n.pr:=by
   rw[C5];have O:(bX ns)[aO key l+a]? =some n.pr:=by rw[show bX ns=ns.map (·.pr) from rfl,C2,h];rfl
   rw[j.bX] at O;exact O
  refine Ed.mono (Y a n.pr r w ag N) ?_;rintro _ ak ⟨g,F,rfl,al,am,Q⟩;have aw:=y.size;have R: ∀b,F b->k b\/d.size<=b:=λb f=>(al b f).elim (C b) λae=> .inr (by omega)
  have G:Mod k d ak:=y.then (am.aj λb _ f=>C b f);refine⟨g,rfl,af.intro (λq=>?_) (λq=>?_)⟩
  ·have H:g=false:=by simpa using q
   subst H;exact⟨rfl,a+1,false,F,G,R,Q,(λd=>by cases d),by rw[D];omega⟩
  ·have H:g=true:=by simpa using q
   subst H;refine aD ⟨by omega,?_⟩;have S:=(L.mod G M).next (p:=aO key l+a+1) (i:=0) (by omega) (by omega);have an:addrAt t ns (aO key l+a+1)=⟨n.ah,0,none⟩:=by simp[addrAt,h]
   rw[an,o.link _ 0 (by omega) (by omega) (by have:=(o.ht n (AK h)).1;simp[Sz,h];omega),SI o.ht] at S;refine AX.mk S ?_;exact aj (l.length-(aO key l+(a+1))) _ _ (by omega) ⟨a+1,F,rfl,rfl,by omega,G,R,Q⟩
theorem sq {A:aq}{a:aa}{t:Nat}{ns:List DX}{l:List Pr}{key:A2L}{f:A2K}(T:cT a t ns l)
  (i: ∀fv d,EQ A P fv (λb=>cQ t ns b\/b=a.size\/b=a.size+1) d (l.drop (aO key l))->Ext a d->d.size=a.size+2->f fv d):AA A P JP #[J5 (some ⟨t,0,none⟩),J7 key] a f:=by
 refine Yb ?_;unfold QO;refine ao.mk λp _ j k m=>ao.mk λg _ n h q=>?_
 have e:Ext a g:=k.trans h;have o:=AP2 (A:=A) (h.ah j (by simp)) n (T.ext e) (key:=key);refine i _ g (o.aj ?_ ?_ (λc _=>rfl)) e (by omega)
 ·rintro b (hd|rfl|rfl)
  ·exact .inl hd
  ·exact .inr (.inl rfl)
  ·exact .inr (.inr m)
 ·rintro b (hd|rfl|rfl)
  ·exact(T.ext e).lt hd
  ·omega
  ·omega
theorem ANq(l:List Pr):aO ⟨#[]⟩ l=0:=by
 have: ∀x:A2L,aM x ⟨#[]⟩=false:=λx=>by
  have a:(⟨#[]⟩:A2L).toList= []:=by simp[ByteArray.toList_eq]
  unfold aM;rw[a];cases x.toList<;>rfl
 cases l with
 |nil=>rfl
 |cons x l=>simp[aO,ia,this]
theorem se(l:List Pr):l.drop (aO ⟨#[]⟩ l)=l:=by rw[ANq];rfl
def qb:Pr:=⟨⟨#[98]⟩,⟨#[49]⟩,false⟩
end Go.Lf.G.M
namespace Go.Lf.G
open Go
open M (aO Af Sorted BU)
theorem ASm(a b:A2L):(!(aM a b||bO a b))=aM b a:=by
 cases e:aM b a with
 |true=>
  have c:aM a b=false:=by grind [aM,Da,Ca]
  have d:bO a b=false:=by
   rw[Bw,decide_eq_false_iff_not]
   grind
  rw[c,d];rfl
 |false=>
  grind [aM,N7,Bw]
theorem AHB {a b c:A2L}(d:aM a b=true)(e:aM c b=false):aM a c=true:=by grind [aM,Da,N7]
theorem mz {l:List Pr}(c:Sorted l){i a:Nat}{p b:Pr}(d:l[i]? =some p)(e:l[a]? =some b)(f:i<a):aM p.key b.key=true:=by obtain⟨g,rfl⟩:=List.getElem?_eq_some_iff.1 d;obtain⟨h,rfl⟩:=List.getElem?_eq_some_iff.1 e;exact List.pairwise_iff_getElem.1 c _ _ g h f
structure yS (l:List Pr) (key:A2L) (B:Nat):Prop where
 lt:B<Br l
 below: ∀(x:Nat) (p:Pr),x<8*B->l[x]? =some p->aM p.key key=true
 there: ∀(x:Nat) (p:Pr),l[x]? =some p->p.key=key->8*B<=x/\x<8*B+8
theorem ASX {l:List Pr}{key:A2L}{b:Nat}(j:Sorted l)(k:l≠ [])(t:b<=Br l)(m: ∀a,a<b->aM key (Iy l (8*a))=false)(n:b<Br l->aM key (Iy l (8*b))=true):yS l key (b-1):=by
 have u:=wx k;have ag: ∀a,a<Br l-> ∃d,l[8*a]? =some d/\Iy l (8*a)=d.key:=by grind [Br,List.getElem?_eq_getElem,Iy]
 have o: ∀(x:Nat) (p:Pr),x<8*(b-1)->l[x]? =some p->aM p.key key=true:=by intro x p h e;obtain⟨d,f,g⟩:=ag (b-1) (by omega);have c:=mz j e f h;have:=m (b-1) (by omega);rw[g] at this;exact AHB c this
 refine⟨by omega,o,λx p e g=>⟨?_,?_⟩⟩
 ·grind [Nat.le_of_not_lt,Ca]
 ·apply Nat.lt_of_not_le;intro h;have v:=(List.getElem?_eq_some_iff.1 e).1;have step: ∀a,8*a<=x->a<Br l->aM key (Iy l (8*a))=true->False:=by
   intro a w q c;obtain⟨d,f,r⟩:=ag a q;rw[r] at c;rcases FA (8*a) x with s|s
   ·grind [mz,Da,Ca]
   ·have:8*a=x:=by omega
    rw[this,e] at f;cases f;rw[g,Ca] at c;cases c
  have i:b<Br l:=by unfold Br;omega
  exact step b (by omega) i (n i)
theorem AQs {i a:Nat}(b:i+a<=2*1099511627776):J8 J9 ((J8 .u64 (J8 J9 (((i:Nat):Int)+((a:Nat):Int)))).fdiv ((2:Int)^(1:Nat)))=(((i+a) / 2:Nat):Int):=by rw[show((i:Nat):Int)+((a:Nat):Int)=((i+a:Nat):Int) by omega,GY (by omega),CF (by omega),Qg,GY (by omega)]
theorem ANT {n:aq}{f:aa}{fv:J0}{c:Nat}{p:Nat->Bool}{o:A2K}(C:c<=1099511627776)(D: ∀i b,i<=b->b<c->p i=true->p b=true)
  (y: ∀i d,i<c->Ext f d->Ed n P fv #[J6 J9 (i:Int)] d λv g=>v=J3 (p i)/\Ext d g)
  (z: ∀h g,h<=c->(∀ b,b<h->p b=false)->(h<c->p h=true)->Ext f g->o (J6 J9 (h:Int)) g):AA n P Pq #[J6 J9 (c:Int),fv] f o:=by
 refine ACb ?_;unfold Wj;refine Loop.rule (λm x d=> ∃i b:Nat,x=((i:Int),(b:Int),())/\m=b-i/\i<=b/\b<=c/\(∀ a,a<i->p a=false)/\(b<c->p b=true)/\Ext f d) ?_ ⟨0,c,rfl,rfl,by omega,A0 _,λa A=>by omega,λf=>by omega,Mod.refl⟩;rintro K m _ d ⟨i,b,rfl,rfl,k,q,r,s,j⟩ t;dsimp only;refine af.intro (λl=>?_) (λl=>?_)
 ·have k:i<b:=by simp at l;omega
  rw[AQs (by omega)];refine ai.mk λE u=>?_
  have B:(i+b) / 2<c:=by omega
  refine Ed.mono (y _ d B j) ?_;rintro v g ⟨rfl,w⟩;refine⟨_,rfl,af.intro (λe=>?_) (λe=>?_)⟩
  ·have e:p ((i+b) / 2)=false:=by simpa using e
   refine u _ _ ?_;dsimp only;rw[Ae (by omega)];refine t (b-((i+b) / 2+1)) _ _ (by omega) ⟨(i+b) / 2+1,b,rfl,rfl,by omega,q,λa A=>?_,s,j.trans w⟩
   grind
  ·have e:p ((i+b) / 2)=true:=by simpa using e
   refine u _ _ ?_;exact t ((i+b) / 2-i) _ _ (by omega) ⟨i,(i+b) / 2,rfl,rfl,by omega,by omega,r,λ_=>e,j.trans w⟩
 ·have k:i=b:=by simp at l;omega
  subst k;exact z i d q r s j
abbrev yT:Q8:=Ig
theorem yU {A:aq}{h:aa}{t D k:Nat}{l:List Pr}{f:List UInt8}{key:A2L}{R:A2K}(T:bR h t l f D k)(c:gV (aJ (aT l f)) l f)
  (E: ∀d q,yS l key q->Ext h d->R (J6 J9 (q:Int)) d):AA A P Gp #[Am t,J7 key] h R:=by
 refine UT ?_;unfold NY;refine ao.mk λe _ F G X=>ao.mk λY _ H r Z=>?_
 have u:=Ao r F;have w:=G.trans r;obtain⟨m,ab,x,y,ac,_,_⟩:=(T.ext w).at_;refine AX.mk (AO u rfl) (aD ?_);refine AZ.mk (s:=m) (AO x rfl) ?_;have I:m.len=Br l:=by rw[y.len,Hq]
 have ad:=c.many;have ae:Br l<=12501:=by unfold Br;omega
 rw[I];have z: ∀b,b<Br l-> ∃B,l[8*b]? =some B/\Iy l (8*b)=B.key:=by
  intro b n;have:8*b<l.length:=by unfold Br at n;omega
  exact⟨l[8*b],A2 this,by unfold Iy;simp_all⟩
 refine ANT (p:=λb=>aM key (Iy l (8*b))) (by omega) (λi b af n C=>?_) (λi o k g=>?_) λj J K e L M=>⟨_,rfl,?_⟩
 ·rcases FA i b with h|h
  ·obtain⟨ag,N,O⟩:=z i (by omega);obtain⟨ah,Q,S⟩:=z b n;have:=mz c.inc N Q (by omega);rw[O] at C;rw[S];exact Da C this
  grind
 ·have U:=Ed.func (A:=A) (P:=P) (f:=yT) (first:= #[]) (bT:= #[Am h.size,Am e.size]) (args:= #[J6 J9 (i:Int)]) (h:=o) (R:=λv d=>v=J3 (aM key (Iy l (8*i)))/\Ext o d) (by kernel_rfl) ?_
  ·exact U
  ·show AA A P yT #[J6 J9 (i:Int),Am h.size,Am e.size] o _;refine Rv ?_;unfold Ll;refine aD (AX.mk (AO (Ao g u) rfl) (aD ?_));refine AZ.mk (s:=m) (AO (Ao g x) rfl) ?_;refine(y.ext g).idx (RX k) λa ai V=>?_
   rw[A6];refine AJ.mk V.str (aD ?_);refine AJ.mk (AO (Ao g H) rfl) ?_;rw[ASm];exact⟨rfl,Mod.refl⟩
 ·have W:(if((J8 J9 (((j:Nat):Int)-(1:Int))):Int)>0 then(J8 J9 (((j:Nat):Int)-(1:Int))) else 0)=((j-1:Nat):Int):=by grind [wrap_i64]
  rw[W];exact E J (j-1) (ASX c.inc c.ne K e L) (w.trans M)
def Vk(key:A2L)(l:List Pr):Pr×Bool:=match Af key l with|some a=>(a,true)|none=>(M.Ue,false)
theorem AQ5 {l:List Pr}(f:Sorted l){p:Pr}(h:p∈l):Af p.key l=some p:=by
 unfold Af;cases g:l.find? λd=>decide (d.key=p.key) with
 |none=>
  grind
 |some d=>
  have b:=RC g;have b:d.key=p.key:=of_decide_eq_true b;obtain⟨i,e⟩:=F2 (LI g);obtain⟨j,c⟩:=F2 h;rcases HK i j with a|a|a
  ·have:=mz f e c a;rw[b,Ca] at this;cases this
  ·subst a;rw[e] at c;exact c
  ·have:=mz f c e a;rw[b,Ca] at this;cases this
theorem yV {l:List Pr}{key:A2L}(a: ∀p∈l,p.key≠key):Af key l=none:=by simp_all [Af,Hb]
theorem ARS {ac:aq}{d:aa}{t ad E:Nat}{l:List Pr}{f:List UInt8}{key:A2L}{F:A2K}(T:bR d t l f ad E)(q:gV (aJ (aT l f)) l f)(ag:key.size<=1099511627776)
  (ah: ∀L,Ext d L->F (J1 #[(Vk key l).1.agg,J3 (Vk key l).2]) L):AA ac P Kw #[Am t,J7 key] d F:=by
 refine XQ ?_;unfold Pe;refine ao.mk λN _ O y aR=>?_
 have tail: ∀g x,Ext d g->g[d.size]? =some (J2 #[J7 ⟨#[]⟩,J7 ⟨#[]⟩,J3 false] AR (0,0))-> ∀(h:Pr) (b:Bool),Vk key l=(h,b)->x=Value.tuple #[.agg #[J7 h.key,J7 h.val,J3 h.gone],J3 b]->
   ∀ {r u:A2L} {c2:Bool},r=h.key->u=h.val->c2=h.gone->
   ae g (⟨d.size,0,none⟩:Q6) (J7 r) λQ=>ae Q ((⟨d.size,0,none⟩:Q6).add 1) (J7 u) λR=>ae R ((⟨d.size,0,none⟩:Q6).add 2) (J3 c2) λj=>
    AJ j (⟨d.size,0,none⟩:Q6) λaj=>AJ j ((⟨d.size,0,none⟩:Q6).add 1) λak=>Aa j ((⟨d.size,0,none⟩:Q6).add 2) λal=>F (J1 #[.agg #[J7 aj,J7 ak,J3 al],J3 b]) j:=by
  intro g x v am h b an aS r u c2 ap ar au;subst ap ar au;refine ae.mk am (by simp) λQ av aw aU=>?_
  rw[Bf,Bf];refine ae.mk av (by simp) λR ax ay aV=>?_
  refine ae.mk ax (by simp) λj G az aW=>?_
  refine AJ.mk (AO G rfl) (AJ.mk (AO G rfl) (Aa.mk (AO G rfl) ?_));have k:Ext d j:=⟨by have:=v.size;omega,λc aA _=>(az.get c (by have:=v.size;omega) (by omega)).trans ((ay.get c (by have:=v.size;omega) (by omega)).trans ((aw.get c (by have:=v.size;omega) (by omega)).trans (v.get c aA (λd=>d))))⟩;have:=ah j k;rw[an] at this;exact this
 refine ai.mk λK aC=>?_
 refine af.no rfl (aD ?_);obtain⟨aX,aE,H,aY,aF,_,_⟩:=(T.ext y).at_;refine AJ.mk (AB H rfl) ?_;refine yE ag ⟨_,rfl,?_⟩;rw[EN];refine aC _ _ ?_;refine af.intro (λn=>?_) (λn=>?_)
 ·have n:gU f key=false:=by simpa using n
  have I:Af key l=none:=yV λp w z=>by
   have:=q.has p w;rw[z,n] at this;cases this
  exact tail N _ y O M.Ue false (by unfold Vk;rw[I]) rfl rfl rfl rfl
 ·refine aD (AZ.mk (s:=aE) (AB H rfl) ?_);refine yU (T.ext y) q λaZ a hB A=>⟨_,rfl,AB (Ao A H) rfl,?_⟩
  have aG:((Kj l).map λb=>AY (BP b))[a]? =some (AY (BP (CG l a))):=by simp[Kj,hB.lt]
  refine(aF.ext A).idx aG λa0 a1 aH=>?_
  rw[A6];refine AJ.mk aH.str ?_;have aI: ∀p∈CG l a,Lg p:=λp w=>q.ok p (Po w)
  have a2:=Qt q.ok hB.lt;refine rD aI (by omega) λps aK S U a3=>⟨_,_,rfl,?_⟩
  have a4:ps.len=(CG l a).length:=S.len;have a5:=Qn hB.lt;have V:=(y.trans A).trans U;have W:=Ao U (Ao A O);refine Loop.rule (λm x aL=> ∃e:Nat,x=((e:Int),())/\m=(CG l a).length-e/\e<=(CG l a).length/\(∀ i p,i<e->(CG l a)[i]? =some p->p.key≠key)/\Ext aK aL) ?_ ⟨0,rfl,rfl,by omega,λi p E=>by omega,Mod.refl⟩;rintro a6 m _ aM ⟨e,rfl,rfl,a7,X,o⟩ aN;dsimp only;refine af.intro (λn=>?_) (λn=>?_)
  ·have B:e<(CG l a).length:=by grind
   have k:(CG l a)[e]? =some (CG l a)[e]:=A2 B;have Y:(CG l a)[e]∈l:=Po (AW B);generalize (CG l a)[e]=p at k Y;refine(S.ext o).view.idx k λa8 a9 aO=>?_
   obtain⟨r,u,c2⟩:=aO.pair;rw[A6];refine AJ.mk r (AJ.mk u (Aa.mk c2 ?_));refine ao.pair λba aP bb C J bc=>?_
   refine AJ.mk (AO C rfl) ?_;refine af.intro (λD=>?_) (λD=>?_)
   ·rw[Bw,decide_eq_true_iff] at D;refine AJ.mk (AO C rfl) (AJ.mk (AB C rfl) (Aa.mk (AB C rfl) ?_));have Z:=AQ5 q.inc Y;rw[D] at Z;exact tail aP _ ((V.trans o).trans J) (Ao J (Ao o W)) p true (by unfold Vk;rw[Z]) rfl rfl rfl rfl
   ·rw[Bw,decide_eq_false_iff_not] at D;rw[Ae (by omega)];refine aN ((CG l a).length-(e+1)) _ _ (by omega) ⟨e+1,rfl,rfl,B,λi h E aQ=>?_,o.trans J⟩;by_cases bd:i=e
    ·grind
    ·exact X i h (by omega) aQ
  ·have B:e=(CG l a).length:=by grind
   have I:Af key l=none:=yV λp w z=>by
    obtain⟨x,k⟩:=F2 w;obtain⟨N,be⟩:=hB.there x p k z;have ab:(CG l a)[x-8*a]? =some p:=by rw[QN (by omega),show 8*a+(x-8*a)=x by omega];exact k
    have:=(List.getElem?_eq_some_iff.1 ab).1;exact X (x-8*a) p (by omega) ab z
   exact tail aM _ (V.trans o) (Ao o W) M.Ue false (by unfold Vk;rw[I]) rfl rfl rfl rfl
theorem yW {key:A2L}{l:List Pr}(a:Sorted l){x:Nat}{p:Pr}(b:l[x]? =some p):x<aO key l↔aM p.key key=true:=M.oV a b
theorem AMr {A:aq}{y:aa}{b c t lo hi:Nat}{aW am:Q7}{l:List Pr}{f:List UInt8}{key:A2L}(r:y[b]? =some (J2 #[Am t] aW (0,0)))(aX:y[c]? =some (J2 #[J7 key] am (0,0)))
  (T:bR y t l f lo hi) (bq:hi<=y.size) (z:gV (aJ (aT l f)) l f):
  EQ A P (.func (.func JA) #[] #[Am b,Am c]) (λe=>(lo<=e/\e<hi)\/e=b\/e=c) y (l.drop (aO key l)):=by
 refine⟨?_,_,_,rfl,λaY=>by kernel_rfl,λh W aY an k br hd hB aZ a0=>?_⟩
 ·grind
 rw[M.sd];refine TG ?_;unfold Mw;have H:=(W b (.inr (.inl rfl))).trans r;have ap:=(W c (.inr (.inr rfl))).trans aX;have ar:bR h t l f lo hi:=by
  obtain⟨au,o,u,I,X,Y,av⟩:=T.at_;have aw: ∀ {s:Sl} {ax:List A2L},View IY y s ax->(∀ e,s.ah=some e->lo<=e/\e<hi)->View IY h s ax:=λv bs=>⟨v.len,v.cap,λi x hi=>by
   obtain⟨a,a1,a2⟩:=v.cells i x hi;refine⟨a,a1,λj v ay=>?_⟩;rw[<- a2 j v ay]
   grind [Qh,aU,Sl.ah]⟩
  exact⟨⟨au,o,(W t (.inl T.fA)).trans u,aw I Y,aw X av,Y,av⟩,T.fA⟩
 have a3: ∀e,lo<=e->e<hi-> ¬k e:=λe u I=>hd e (.inl ⟨u,I⟩)
 obtain⟨au,o,az,bt,aA,bu,a4⟩:=ar.at_;refine aD (AX.mk (AO H rfl) (af.no rfl (aD (AX.mk (AO H rfl) (aD (AZ.mk (s:=o) (AB az rfl) (aD (AX.mk (AO H rfl) (aD (AJ.mk (AO ap rfl) ?_))))))))));refine yU ar z λu d aC J=>⟨_,rfl,AB (Ao J az) rfl,AO (Ao J H) rfl,?_⟩
 have aE:o.len=Br l:=by rw[aA.len];simp[JB]
 have bv:=aC.lt;refine⟨by rw[aE];omega,?_⟩;rw[A6,aE];have bw:=M.mP key l;have bx:=z.many;have bz:Br l<=12501:=by unfold Br;omega
 have bA:8*d<=aO key l:=by
  apply SM;intro L;have a5:aO key l<l.length:=by grind [Br]
  obtain⟨aF,B⟩: ∃aF,l[aO key l]? =some aF:=⟨_,A2 a5⟩;have u:=aC.below _ _ L B;have I:=(yW z.inc B).2 u;omega
 have Z:(l.drop (aO key l)).length=l.length-aO key l:=by simp
 have a6:=hB.ba _ _ _ _ _ a0 (J.aj (S':=λb=>¬k b/\h.size<=b) λ_ _ h=>h.elim);have a7:View IY h ⟨BA o.p o.cap d 1,Br l-d,o.cap-d⟩ (((Kj l).map λb=>AY (BP b)).drop d):=by have:=aA.sub (lo:=d) (hi:=Br l) (by omega) (by simp[JB]);rw[AF (by simp[JB])] at this;exact this
 have a8: ∀e,Sl.ah ⟨BA o.p o.cap d 1,Br l-d,o.cap-d⟩=some e-> ¬k e:=λe n=>by
  have:=a4 e (Z0 n);exact a3 e this.1 this.2
 refine Loop.rule (λm x ab=> ∃(i:Nat) (C:Nat->Prop),x=((i:Int),())/\m=Br l-d-i/\i<=Br l-d/\Mod k h ab/\(∀ b,C b->k b\/h.size<=b)/\an (min (8*(d+i)) l.length-aO key l) true C ab) ?_
  ⟨0,k,rfl,rfl,by omega,J.mod,λb r=> .inl r,by
   have:min (8*(d+0)) l.length-aO key l=0:=by omega
   rw[this];exact a6⟩
 rintro K m _ ab ⟨i,C,rfl,rfl,hi,N,aG,E⟩ a9;dsimp only;refine af.intro (λF=>?_) (λF=>?_)
 ·have aH:i<Br l-d:=by simp at F;omega
  have O:d+i<Br l:=by omega
  have bB:8*(d+i)<l.length:=by unfold Br at O;omega
  have ba:(((Kj l).map λb=>AY (BP b)).drop d)[i]? =some (AY (BP (CG l (d+i)))):=by rw[C5];simp[Kj,O]
  refine(a7.mod N a8).idx ba λbC bD bb=>?_
  rw[A6];refine AJ.mk bb.str ?_;have bc: ∀p∈CG l (d+i),Lg p:=λp bd=>z.ok p (Po bd)
  have bE:=Qt z.ok O;have bF:=Qn O;refine rD bc (by omega) λps X ac aI bG=>⟨_,_,rfl,?_⟩
  have bH:ps.len=(CG l (d+i)).length:=ac.len;have be:min (8*(d+i)) l.length=8*(d+i):=by omega
  rw[be] at E;have bI:=N.size;have bJ:=hB.wf _ _ _ _ E;have bf:=hB.ba _ _ _ _ _ E (aI.aj (S':=λb=>¬C b/\h.size<=b) λ_ _ h=>h.elim);have bg:Mod k h X:=N.trans aI.mod;refine Loop.rule (λm x Q=> ∃(j:Nat) (q:Nat->Prop),x=((j:Int),())/\m=(CG l (d+i)).length-j/\j<=(CG l (d+i)).length/\Mod k h Q/\(∀ b,q b->k b\/h.size<=b)/\(∀ e,ps.ah=some e-> ¬q e/\e<Q.size)/\View BR Q ps (CG l (d+i))/\an (8*(d+i)+j-aO key l) true q Q) ?_
   ⟨0,C,rfl,rfl,by omega,bg,aG,λe n=>⟨λh=>by grind,ac.lt n⟩,ac.view,bf⟩
  rintro bK m _ Y ⟨j,q,rfl,rfl,ay,ad,R,D,ae,aK⟩ aL;dsimp only;refine af.intro (λF=>?_) (λF=>?_)
  ·have G:j<(CG l (d+i)).length:=by grind
   have B:(CG l (d+i))[j]? =some (CG l (d+i))[j]:=A2 G;have S:l[8*(d+i)+j]? =some (CG l (d+i))[j]:=by rw[<- QN (by omega)];exact B
   generalize (CG l (d+i))[j]=p at B S;refine ae.idx B λbL bM bh=>?_
   obtain⟨bi,bj,c2⟩:=bh.pair;rw[A6];refine AJ.mk bi (AJ.mk bj (Aa.mk c2 ?_));refine ao.pair λbN ah bO U w bP=>?_
   have V:Mod k h ah:=ad.trans w.mod;have bQ:=ad.size;have aN:=hB.ba _ _ _ _ _ aK (w.aj (S':=λb=>¬q b/\h.size<=b) λ_ _ h=>h.elim);have bk:ah[c]? =some (J2 #[J7 key] am (0,0)):=V.ah ap (hd c (.inr (.inr rfl)));refine ai.mk λbS aP=>?_
   refine AJ.mk (AO U rfl) (aD (AJ.mk (AO bk rfl) ?_));have bT:=(List.getElem?_eq_some_iff.1 S).1;have bm:=yW (key:=key) z.inc S;refine af.intro (λL=>?_) (λL=>?_)
   ·have bn:aO key l<=8*(d+i)+j:=by grind
    refine AJ.mk (AO U rfl) (AJ.mk (AB U rfl) (Aa.mk (AB U rfl) ?_));have ag:(l.drop (aO key l))[8*(d+i)+j-aO key l]? =some p:=by rw[C5,show aO key l+(8*(d+i)+j-aO key l)=8*(d+i)+j by omega];exact S
    refine Ed.mono (aZ _ p q ah ag aN) ?_;rintro _ bo ⟨g,aj,rfl,aQ,ak,aR⟩;have bU:=V.size;have aS: ∀b,aj b->k b\/h.size<=b:=λb r=>(aQ b r).elim (R b) λu=> .inr (by omega)
    have aV:Mod k h bo:=V.then (ak.aj λb _ r=>R b r);refine⟨g,rfl,aP _ _ ?_⟩;dsimp only;cases g with
    |false=>exact af.yes rfl ⟨rfl,_,false,aj,aV,aS,aR,(λh=>by cases h),by rw[Z];omega⟩
    |true=>
     refine af.no rfl ?_;rw[Ae (by omega)];refine aL ((CG l (d+i)).length-(j+1)) _ _ (by omega) ⟨j+1,aj,rfl,rfl,G,aV,aS,λe n=>⟨λh=>?_,by have:=D e n;have:=w.size;have:=ak.size;omega⟩,?_,?_⟩
     ·rcases aQ e h with h|h
      ·exact(D e n).1 h
      ·have:=(D e n).2;have:=w.size;omega
     ·exact(ae.ext w).mod ak λe n=>(D e n).1
     ·rw[show 8*(d+i)+(j+1)-aO key l=8*(d+i)+j-aO key l+1 by omega];exact aR
   ·have bp:aM p.key key=true:=by simpa using L
    have bn:=bm.2 bp;refine aP _ _ (af.no rfl ?_);rw[Ae (by omega)];refine aL ((CG l (d+i)).length-(j+1)) _ _ (by omega) ⟨j+1,q,rfl,rfl,G,V,R,λe n=>⟨(D e n).1,by have:=(D e n).2;have:=w.size;omega⟩,ae.ext w,?_⟩;rw[show 8*(d+i)+(j+1)-aO key l=8*(d+i)+j-aO key l by omega];exact aN
  ·have G:j=(CG l (d+i)).length:=by grind
   rw[Ae (by omega)];refine a9 (Br l-d-(i+1)) _ _ (by omega) ⟨i+1,q,rfl,rfl,by omega,ad,R,?_⟩;have al:min (8*(d+(i+1))) l.length=8*(d+i)+j:=by rw[G];unfold CG;rw[Ax,DQ];omega
   rw[al];exact aK
 ·have aH:i=Br l-d:=by simp at F;omega
  have al:min (8*(d+i)) l.length=l.length:=by rw[aH,show d+(Br l-d)=Br l by omega];unfold Br;omega
  rw[al] at E;exact⟨rfl,l.length-aO key l,true,C,N,aG,E,λ_=>Z.symm,by rw[Z];omega⟩
theorem yX {A:aq}{a:aa}{t h e:Nat}{l:List Pr}{f:List UInt8}{key:A2L}{i:A2K}(T:bR a t l f h e)(s:e<=a.size)(m:gV (aJ (aT l f)) l f)
  (n: ∀fv b,EQ A P fv (λd=>(h<=d/\d<e)\/d=a.size\/d=a.size+1) b (l.drop (aO key l))->Ext a b->b.size=a.size+2->i fv b):AA A P Hz #[Am t,J7 key] a i:=by
 refine Vj ?_;unfold Ov;refine ao.mk λu _ o p v=>ao.mk λj _ q k w=>?_
 have g:Ext a j:=p.trans k;have r:=AMr (A:=A) (Ao k o) q (T.ext g) (by have:=g.size;omega) m (key:=key);refine n _ j (r.aj ?_ ?_ (λc _=>rfl)) g (by omega)
 ·omega
 omega
def fO(l:List Fi)(a:A2L):Nat:=match Cq a l with|none=>0|some f=>f.bY.size+f.soft.size
theorem yx {a:A2L}{f:Fi}{l:List Fi}:Cq a (f::l)=if f.name=a then some f else Cq a l:=by rw[GZ]
theorem rz(a:A2L): ∀l:List Fi,fO l a+bj (P8 a l)<=bj l
 | []=>by simp[fO,Cq,P8,bj]
 |f::l=>by
  have h:=rz a l;have e:bj (f::l)=f.bY.size+f.soft.size+1+bj l:=by simp[bj]
  by_cases b:f.name=a
  ·have c:fO (f::l) a=f.bY.size+f.soft.size:=by unfold fO;rw[yx,if_pos b]
   have d:P8 a (f::l)=P8 a l:=by simp[P8,b]
   rw[c,d,e];omega
  ·have c:fO (f::l) a=fO l a:=by unfold fO;rw[yx,if_neg b]
   have d:P8 a (f::l)=f::P8 a l:=by simp[P8,b]
   have g:bj (f::P8 a l)=f.bY.size+f.soft.size+1+bj (P8 a l):=by simp[bj]
   rw[c,d,g,e];omega
theorem yy: ∀(a:List A2L),a.Nodup-> ∀l:List Fi,(a.map (fO l)).sum<=bj l
 | [],_,l=>by simp
 |k::a,b,l=>by
  rw[List.nodup_cons] at b;have c:=yy a b.2 (P8 k l);have d:a.map (fO (P8 k l))=a.map (fO l):=CA λx e=>by
   unfold fO;rw[Zu,if_neg (λf=>by subst f;exact b.1 e)]
  rw[d] at c;have:=rz k l;simp only[B9,GO];omega
def iM(m:Bx)(a:A2L)(b:Nat):A2L:=(UU m (aC a b)).1
noncomputable def Sv (a:A2L) (m:Bx) (l:List Nat):List A2L:=l.flatMap λb=>(kT (bl (iM m a b))).map AY
theorem yz {m:Bx}(hd:m.down=false)(a:A2L):(UU m a).1.size=fO m.files a:=by
 unfold UU fO;rw[if_neg (by simp[hd])];cases Cq a m.files with
 |none=>rfl
 |some f=>simp[Kp]
theorem rA {nm:A2L}{m:Bx}(hd:m.down=false){l:List Nat}(b:l.Pairwise (· < ·)):(Sv nm m l).length<=bj m.files:=by
 have e:(Sv nm m l).length<=((l.map (aC nm)).map (fO m.files)).sum:=by
  unfold Sv;clear b
  induction l with
  |nil=>simp
  |cons f l d=>
   have g:=AHP (qO (bl (iM m nm f)));rw[Ay,iM,yz hd] at g;simp only[AH,A1,Bs,B9,GO] at d ⊢;unfold iM at d ⊢;omega
 refine AE e (yy _ ?_ _);refine List.pairwise_map.2 (b.imp λ{a c} i h=>?_);have:=Ij h;omega
theorem yA {R:aq}{d:aa}{b:Nat}{S:Nat->Prop}{m:Bx}{nm:A2L}{w:A2K}(E:bZ d)(D:Cw d b S m)(hd:m.down=false)(aw:0<nm.size)(F:nm.size<=8)(T:bj m.files<=8000000000000)
  (U: ∀g l,mw nm m l->l.getLast?.getD 0=99999999->Ext d g->w (J1 #[J5 none,J4 none 0 0,J6 J9 2]) g)
  (V: ∀g l r sl,mw nm m l->l.getLast?.getD 0≠99999999->Ext d g->d.size<=r->g[r]? =some (J2 #[Am b,J7 nm,J6 J9 ((l.getLast?.getD 0+1:Nat):Int),J3 false] qA (0,0))->View IY g sl (Sv nm m l)->
   (∀ c,sl.ah=some c->d.size<=c/\c≠r)->w (J1 #[Am r,J4 sl.p sl.len sl.cap,J6 J9 0]) g):AA R P RP #[Am b,J7 nm] d w:=by
 refine AJQ ?_;unfold uT;refine af.no rfl (ai.mk λK W=>?_);have X:bO nm (⟨#[]⟩:A2L)=false:=by rw[Bw,decide_eq_false_iff_not];rintro rfl;have:(⟨#[]⟩:A2L).size=0:=rfl;omega
 rw[X];refine af.no rfl (W _ _ (af.no (by simp;omega) ?_));refine yw E D hd (by omega) T λG Y l h v2 o _=>⟨Y,_,rfl,af.no rfl ?_⟩
 have ax:l.length<=99999999:=by
  have Z: ∀(l:List Nat) (s:Nat),l.Pairwise (· < ·)->(∀ e∈l,s<e/\e<=99999999)->l.length+s<=99999999\/l= []:=by
   intro l
   induction l with
   |nil=>intro s _ _;exact .inr rfl
   |cons a l ab=>
    intro s y H;rw[RR] at y;have ay:=H a (by simp);rcases ab a y.2 (λe t=>⟨y.1 e t,(H e (AG _ t)).2⟩) with d|d
    ·left;simp only[A5];omega
    ·subst d;left;simp;omega
  rcases Z l 0 h.inc (λe t=>by have:=(h.mem e).1 t;omega) with d|d
  ·omega
  ·subst d;simp
 refine Loop.rule (λI x p=> ∃(i:Nat) (sl:Sl),x=(sl,(((l.take i).getLast?.getD 0:Nat):Int),(i:Int),())/\Ext G p/\Own IY BF p sl (Sv nm m (l.take i))/\(∀ c,sl.ah=some c->G.size<=c)/\i<=l.length/\I=l.length-i) ?_
  ⟨0,⟨none,0,0⟩,rfl,Mod.refl,Own.nil,λc n=>by simp[Sl.ah] at n,AD _,rfl⟩
 rintro az I _ p ⟨i,sl,rfl,j,u,f,aA,rfl⟩ ac;have J:(l.map λe:Nat=>(e:Int)).length=l.length:=Bs ..;rw[v2.len,J];refine af.intro (λz=>?_) (λz=>?_)
 ·have q:i<l.length:=by simpa using z
  have ag:l[i]? =some l[i]:=A2 q;have ad:l[i]∈l:=AW q;obtain⟨aD,aE,L⟩:=(h.mem l[i]).1 ad;have M:l.take (i+1)=l.take i++ [l[i]]:=by rw[As,ag];rfl
  have ae:(l.take (i+1)).getLast?.getD 0=l[i]:=by rw[M,SZ];rfl
  have N:Sv nm m (l.take (i+1))=Sv nm m (l.take i)++(kT (bl (iM m nm l[i]))).map AY:=by rw[M];unfold Sv;rw[G3];simp
  have A:=rA (nm:=nm) (m:=m) hd (l:=l.take (i+1)) (h.inc.sublist (List.take_sublist _ _));rw[N,A1,Bs] at A;rw[<- J,<-v2.len];refine(v2.ext j).idx (i:=i) (x:=(l[i]:Int)) (by rw[C2,ag];rfl) λa _ c=>?_
  refine AC.mk c.int ?_;have O:=o.trans j;refine YV (E.ext O) (by omega) (by omega) λaF v=>⟨_,rfl,?_⟩
  refine p8 ((D.ext O).ext v) ⟨_,_,rfl,?_⟩;have ah:(UU m (aC nm l[i])).2=0:=by
   unfold UU;rw[if_neg (by simp[hd])];cases aj:Cq (aC nm l[i]) m.files with
   |none=>rw[aj] at L;cases L
   |some f=>rfl
  rw[ah];refine af.no rfl ?_;have ak:(UU m (aC nm l[i])).1.size<=8000000000000:=by rw[yz hd];have:=rz (aC nm l[i]) m.files;omega
  refine APf ak λaG al aH B am=>⟨al,_,rfl,?_⟩
  refine Fz (E:=IY) yq ((u.ext v).ext B) am (by rw[Bs];unfold iM at A;omega) (by rw[Bs];unfold iM at A;simp[maxLen];omega) λan aI ap ar au aJ=>?_
  dsimp only;rw[Ae (by omega)];refine ac (l.length-(i+1)) _ _ (by omega) ⟨i+1,an,?_,((j.trans v).trans B).more ar f,?_,λc n=>?_,q,rfl⟩
  ·rw[ae]
  ·rw[N];exact ap
  ·rcases au c n with d|d
   ·exact f c d
   ·have:=j.size;have:=v.size;have:=B.size;omega
 ·have q:i=l.length:=by simp at z;omega
  subst q;rw[BT] at u ⊢;refine af.intro (λk=>?_) (λk=>?_)
  ·have k:l.getLast?.getD 0=99999999:=by simp at k;omega
   exact U p l h k (o.trans j)
  ·have k:l.getLast?.getD 0≠99999999:=by simp at k;omega
   have aK:l.getLast?.getD 0<=99999999:=by
    cases av:l.getLast? with
    |none=>simp
    |some e=>
     have:=(h.mem e).1 (T4 av);simp;omega
   refine ao.mk λF _ C Q aL=>?_
   dsimp only at C ⊢;rw[Ae (by omega)] at C;refine V F l p.size sl h k ((o.trans j).trans Q) (by have:=o.size;have:=j.size;omega) C (u.ext Q).view λc n=>by have:=f c n;have:=o.size;have:=u.lt n;omega
def ES(a:aa)(c b:Nat)(d:A2L)(e:Nat)(made:Bool):Prop:=a[c]? =some (J2 #[Am b,J7 d,J6 J9 (e:Int),J3 made] qA (0,0))
theorem ES.mod {c d:aa}{a b:Nat}{e:A2L}{f:Nat}{made:Bool}{g:Nat->Prop}(L:ES c a b e f made)(x:Mod g c d)(h: ¬g a):ES d a b e f made:=x.ah L h
theorem ES.ext {a c:aa}{d b:Nat}{e:A2L}{f:Nat}{made:Bool}(L:ES a d b e f made)(x:Ext a c):ES c d b e f made:=x.ah L (λa=>a)
theorem yB {r:aq}{a:aa}{d b e:Nat}{f rec:A2L}{made:Bool}{i:Nat->Prop}{m:Bx}{s:A2K}(G:bZ a)(L:ES a d b f e made)(H:Cw a b i m)(t: ¬i d)(V: ∀j,Mod i a j->bZ j)(I:f.size<=1099511627776)(J:e<=4294967295)(K:rec.size<=1048576)(W:bj m.files<=8000000000000)
  (u: ∀j S',Cw j b S' (EM m (aC f e) (AY (Cv (bl rec)))).2->ES j d b f e (made||decide ((EM m (aC f e) (AY (Cv (bl rec)))).1=0))->Mod (λc=>i c\/c=d) a j->(∀ c,S' c->i c\/(a.size<=c/\c≠d))->s (J6 J9 (EM m (aC f e) (AY (Cv (bl rec)))).1) j):
  AA r P JZ #[Am d,J7 rec] a s:=by
 refine YH ?_;unfold Qa;refine af.no rfl ?_;have X:=Ai L;have M:(bl rec).length<=1048576:=by rw[Ay];exact K
 have N:=JQ M;rw[Ay] at N;have O:rec=AY (bl rec):=(K9 rec).symm;have go:AA r P Ht #[J7 rec] a λv l=> ∃w:A2L,∃x:Int,v=J1 #[J7 w,J6 J9 x]/\(w=AY (Cv (bl rec))/\x=0/\Ext a l):=by
  rw[O];refine rm (by rw[K9] at *;omega) (λl=>by rw[K9] at *;omega) λ_ l k=>⟨_,_,rfl,?_,rfl,k⟩
  rw[K9]
 refine AA.mono go ?_;rintro v l ⟨Y,Z,rfl,rfl,rfl,k⟩;refine⟨_,_,rfl,af.no rfl ?_⟩;have p:=L.ext k;refine aD (AX.mk (AO p rfl) (aD (AJ.mk (AB p rfl) (aD (AC.mk (AB p rfl) ?_)))));refine YV (G.ext k) J I λab Q=>⟨_,rfl,?_⟩
 have n:=k.trans Q;have y:=L.ext n;refine⟨AO y rfl,?_⟩;refine sE (H.ext n) (by rw[AP];omega) λq o z A B=>⟨_,rfl,?_⟩
 have C:ES q d b f e made:=y.mod A t;have ac:=n.size;have D: ∀c,o c->i c\/(a.size<=c/\c≠d):=λc g=>(B c g).imp id λa=>⟨by omega,by omega⟩
 have E:Mod (λc=>i c\/c=d) a q:=(Ext.mod n).trans (A.aj λc _ g=> .inl g);refine af.intro (λh=>?_) (λh=>?_)
 ·have h:(EM m (aC f e) (AY (Cv (bl rec)))).1≠0:=by simpa using h
  exact u q o z (by rw[decide_eq_false h,Bool.or_false];exact C) E D
 ·have h:(EM m (aC f e) (AY (Cv (bl rec)))).1=0:=by simpa using h
  refine aD (ae.dq C (by simp) λR S F ad=>?_);have T: ¬o d:=λg=>by rcases B d g with a|a;exact t a;omega
  have:=u R o (z.mod F λc g U=>T (U▸g)) (by rw[decide_eq_true h,IF];simpa [ES] using S) (E.then (F.aj λc _ g=> .inl (.inr g))) D;rw[h] at this;exact this
def NF(m:Bx)(a:A2L)(made:Bool):Int×Bx:=if made then Hm m a else(0,m)
theorem yC {n:aq}{a:aa}{e b c:Nat}{d:A2L}{made:Bool}{f:Nat->Prop}{m:Bx}{i:A2K}(o:bZ a)(L:ES a e b d c made)(j:Cw a b f m)(p: ¬f e)(q:d.size<=1099511627776)(r:c<=4294967295)
  (k: ∀g,Cw g b f (NF m (aC d c) made).2->ES g e b d c made->Mod f a g->i (J6 J9 (NF m (aC d c) made).1) g):
  AA n P LG #[Am e] a i:=by
 refine ABU ?_;unfold Ui;refine af.no rfl (aD (Aa.mk (AB L rfl) ?_));cases made with
 |false=>exact af.yes rfl (k a j L Mod.refl)
 |true=>
  refine af.no rfl (aD (AX.mk (AO L rfl) (aD (AJ.mk (AB L rfl) (aD (AC.mk (AB L rfl) ?_))))));refine YV o r q λu h=>⟨_,rfl,⟨AO (L.ext h) rfl,?_⟩⟩
  refine sF (j.ext h) λs t l=>⟨_,rfl,?_⟩
  exact k s t ((L.ext h).mod l p) ((Ext.mod h).trans l)
theorem Wy {u:aq}{g:aa}{f b a:Nat}{d:A2L}{made:Bool}{h:Nat->Prop}{m:Bx}{k:A2K}(v:bZ g)(L:ES g f b d a made)(w:Cw g b h m)(o: ¬h f)(x:d.size<=1099511627776)(F:a<99999999)
  (y:(NF m (aC d a) made).1≠0-> ∀e,Cw e b h (NF m (aC d a) made).2->ES e f b d a made->Mod h g e->k (J1 #[J6 J9 0,J6 J9 (NF m (aC d a) made).1]) e)
  (z:(NF m (aC d a) made).1=0-> ∀e,Cw e b h (NF m (aC d a) made).2->ES e f b d (a+1) false->Mod (λc=>h c\/c=f) g e->k (J1 #[J6 J9 (a:Int),J6 J9 0]) e):
  AA u P Gx #[Am f] g k:=by
 refine YN ?_;unfold Qw;refine af.no rfl (aD (AC.mk (AB L rfl) (af.no (by simp;omega) ?_)));refine yC v L w o x (by omega) λA p l q=>⟨_,rfl,?_⟩
 refine af.intro (λi=>?_) (λi=>?_)
 ·exact y (by simpa using i) A p l q
 ·have i:(NF m (aC d a) made).1=0:=by simpa using i
  refine aD (AC.mk (AB l rfl) ?_);rw[Ae (by omega)];refine aD (ae.dq l (by simp) λG B C H=>?_);refine aD (ae.dq B (by simp) λr D E I=>?_);have s:ES r f b d (a+1) false:=by simpa [ES] using D
  refine aD (AC.mk (AB s rfl) ?_);have n:J8 J9 (((a+1:Nat):Int)-1)=(a:Int):=by rw[wrap_i64 (by omega) (by omega)];omega
  rw[n];have t:=C.trans E;exact z i r (p.mod t λc j n=>o (n▸j)) s ((q.aj λc _ j=> .inl j).trans (t.aj λc _ j=> .inr j))
end Go.Lf.G
