/-
 Contracts: frames scanned, a log's segments, a log opened (chapters 2 and 4).
-/
import Derived.Test.YtgpmoonnachoaaaGreatDoorLfU2ToS3
import Derived.Test.YtgpmoonnachoaaaGreatDoorLfG1
import Derived.Laws.StructEq
import Derived.ChangeKeysEq
set_option maxRecDepth 100000
set_option linter.unusedVariables false
set_option linter.unusedSimpArgs false
open Go.IntKind renaming i64→J9,wrap→J8
open Go.Value renaming string→J7,int→J6,pointer→J5,slice→J4,bool→J3,tuple→J1
open Go.Obj renaming cells→J2
open Go renaming Value→J0,Addr→Q6,TypeId→Q7,FuncId→Q8,Program→Q1
open Go.Addr renaming add→Q9,mk→Q5
namespace Go.Lf.G
open Go
theorem yF:QP P CL BI Ik.w 16=true:=by kernel_rfl
theorem rW:QP P Cz Bq IY.w 8=true:=by kernel_rfl
theorem AHO {l:List UInt8}{b:List (List UInt8)}(a:NW l b):b.length<=l.length:=by
 induction a with
 |stop a=>exact A5 _
 |step a s c=>have:=rf a;simp only[A6];omega
theorem APX {p:al}{a:aa}{s:A2K}{k:A2J}(A:s.size<=8000000000000)
  (q: ∀e sl r,Ext a e->View Ik e sl ((kW (bl s)).map AY)->k (J1 #[J4 sl.p sl.len sl.cap,J6 J9 r]) e):AA p P Lg #[J7 s] a k:=by
 refine WU ?_;unfold Rx;refine Loop.rule (λm x g=> ∃(sl:Sl) (dn b:List (List UInt8)) (l:List UInt8),x=(sl,AY l,())/\Ext a g/\Own Ik BI g sl (dn.map AY)/\(∀ c,sl.ag=some c->a.size<=c)/\NW l b/\kW (bl s)=dn++b/\dn.length+l.length<=s.size/\m=l.length) ?_
  ⟨⟨none,0,0⟩,[],_,bl s,by rw[LP],Mod.refl,Own.nil,λc h=>by simp[Sl.ag] at h,ri _,rfl,by rw[A8];simp,rfl⟩
 rintro K m _ g ⟨sl,dn,b,l,rfl,x,n,f,i,j,B,rfl⟩ t;refine rO (by omega) λu d=>⟨_,_,_,rfl,?_⟩
 cases i with
 |stop o=>
  refine af.no (by simp;omega) ?_;rw[AM] at j;exact q u sl _ (x.trans d) (by rw[j];exact(n.ext d).view)
 |step o i=>
  rename_i b;refine af.yes (by simp;omega) ?_;have C:=rf o;refine ao.aZ (E:=Ik) (x:=AY (Dc l).2.1) (s:=sl) (l:=dn.map AY) rfl yF (n.ext d) (by simp;omega) (by simp[maxLen];omega) λv D w y z F=>?_
  refine t (Dc l).2.2.length _ _ (by omega) ⟨v,dn++ [(Dc l).2.1],b,(Dc l).2.2,rfl,(x.trans d).more y f,?_,λc h=>?_,i,by rw[j];simp,by simp;omega,rfl⟩
  ·rw[C2];exact w
  ·rcases z c h with a|a
   ·exact f c a
   ·have:=x.size;have:=d.size;omega
theorem ARS {m:al}{c:aa}{s:Sl}{l:List Int}{t:A2J}(u:Own IY Bq c s l)(O:l.length<=8796093022208)
  (w: ∀n,View IY n s (l.mergeSort λx d=>decide (x<=d))->Mod (λb=>s.ag=some b) c n->t (J1 #[]) n):AA m P JE #[J4 s.p s.len s.cap] c t:=by
 intro j;have y:=u.len;rcases u.row with⟨rfl,rfl⟩|⟨g,o,p,h,B,Q,C,z⟩
 ·refine Calls.mono (Proofs.AnyM.slices_Sort_int_none Proofs.Tryz.iW none 0 (m.at c j)) ?_;rintro k D ⟨rfl,rfl⟩;exact⟨_,rfl,c,j,rfl,w c (by simpa using View.nil) Mod.refl⟩
 ·rw[p,y];have q:IY.w=1:=rfl;rw[q,Bs] at C z;have F: ∀a x,l[a]? =some x->o[a]? =some (Value.int J9 x):=λa x e=>by
   have f:=dA (E:=IY) e 0 (J6 J9 x) rfl;rw[<- z,q,Bs,FG,F0] at f;split at f
   ·simpa using f
   ·cases f
  refine Calls.mono (Proofs.AnyM.slices_Sort_int Proofs.Tryz.iW g 0 s.cap l (m.at c j) ?_ (Ai h) (by omega)) ?_
  ·intro a e;have e:a<l.length:=by simpa using e
   have f:=F a l[a] (A2 e);have G:l.toArray[a]! =l[a]:=by simp[e]
   refine⟨?_,?_⟩
   ·show ah c ⟨g,0+a,none⟩=_;unfold ah;rw[h];simp only[Option.isSome_none,Cd,if_false,AI,G,f]
   ·show fX c ⟨g,0+a,none⟩=false;unfold fX;rw[h];simp
  ·rintro k D ⟨rfl,H,os,rfl⟩;have I:(c.modify g (Sort.onCells (Sort.putCells (Value.int J9) 0 (l.mergeSort λx d=>decide (x<=d)).toArray))++os)[g]? =some (J2 (Sort.putCells (Value.int J9) 0 (l.mergeSort λx d=>decide (x<=d)).toArray o) Bq (0,0)):=by rw[LR (by simpa using Ai h),Gk,if_pos rfl,h];rfl
   refine⟨_,rfl,c.modify g (Sort.onCells (Sort.putCells (Value.int J9) 0 (l.mergeSort λx d=>decide (x<=d)).toArray))++os,j+H,rfl,w _ ⟨?_,B,λa x e=>⟨⟨g,0,none⟩,p,λi v r=>?_⟩⟩ ⟨by simp,λb J K=>?_⟩⟩
   ·rw[A0F];exact y
   ·have L:i=0:=by have:=(List.getElem?_eq_some_iff.1 r).1;have k:(IY.enc x).length=1:=rfl;omega
    subst L;simp only[IY,Hn,BE] at r;subst r;have A:a<(l.mergeSort λx d=>decide (x<=d)).length:=(List.getElem?_eq_some_iff.1 e).1;have M:a<o.size:=by rw[A0F] at A;omega
    rw[q,Bs,Be,Be,AI,FG];unfold ah;rw[I];simp only[Option.isSome_none,Cd,if_false,Sort.putCells,Array.getElem?_mapIdx];rw[Fo M,HP,if_pos ⟨A5 _,by simpa using A⟩];have:(l.mergeSort λx d=>decide (x<=d)).toArray[a-0]! =x:=by rw[Hv];simp[e]
    rw[this]
   ·have N:g≠b:=λk=>K (by rw[Sl.ag,p,k];rfl)
    rw[LR (by simpa using J),Gk,if_neg N]
structure mI (nm:A2K) (m:Bx) (l:List Nat):Prop where
 inc:l.Pairwise (· < ·)
 mem: ∀n,n∈l↔1<=n/\n<=99999999/\(Cc (aC nm n) m.files).isSome=true
theorem yG {k:A2K}{l:List Fi}:(Cc k l).isSome=true↔k∈l.map (·.name):=by
 constructor
 ·intro a;cases b:Cc k l with
  |none=>rw[b] at a;cases a
  |some f=>
   obtain⟨c,d⟩:=JJ b;exact List.mem_map.2 ⟨f,d,c⟩
 ·intro a;obtain⟨f,c,d⟩:=List.mem_map.1 a;cases b:Cc k l with
  |none=>exact absurd d (SH b f c)
  |some f=>rfl
theorem yH {m:Bx}(g:Hm m):(m.files.map (·.name)).Nodup:=List.pairwise_map.2 (g.sorted.imp λa=>Nl a)
theorem AJe {ns:List Nat}(n:ns.Nodup): ∃l:List Nat,((ns.map λd:Nat=>(d:Int)).mergeSort λx e=>decide (x<=e))=l.map (λd:Nat=>(d:Int))/\l.Pairwise (· < ·)/\ ∀d,d∈l↔d∈ns:=by
 have f:=List.mergeSort_perm (ns.map λd:Nat=>(d:Int)) (λx e=>decide (x<=e));have k:((ns.map λd:Nat=>(d:Int)).mergeSort λx e=>decide (x<=e)).Pairwise (λx e=>decide (x<=e)=true):=
  List.pairwise_mergeSort (λa b c o h=>by simp at o h ⊢;omega) (λa b=>by simp;omega) _
 generalize (ns.map λd:Nat=>(d:Int)).mergeSort (λx e=>decide (x<=e))=L at f k;have i: ∀x∈L,((x.toNat:Nat):Int)=x:=λx g=>by
  obtain⟨d,_,rfl⟩:=List.mem_map.1 (f.subset g);simp
 have p:L=(L.map Int.toNat).map (λd:Nat=>(d:Int)):=by
  rw[AT]
  conv=>lhs;rw[<- Kd L]
  exact CH λx g=>(i x g).symm
 have q:L.Nodup:=f.symm.nodup (by
  rw[Sp,N3];exact(List.nodup_iff_pairwise_ne.1 n).imp λr s=>r (by exact_mod_cast s))
 refine⟨L.map Int.toNat,p,?_,λd=>?_⟩
 ·rw[N3];have h:L.Pairwise λx e=>decide (x<=e)=true/\x≠e:=k.and (List.nodup_iff_pairwise_ne.1 q)
  refine h.imp_of_mem λ{a c} t u m=>?_
  have w:=i a t;have y:=i c u;have z:a<=c:=of_decide_eq_true m.1;have A:=m.2;omega
 ·constructor
  ·intro j;obtain⟨x,g,rfl⟩:=List.mem_map.1 j;obtain⟨B,v,rfl⟩:=List.mem_map.1 (f.subset g);simpa using v
  ·intro j;exact List.mem_map.2 ⟨(d:Int),f.symm.subset (List.mem_map.2 ⟨d,j,rfl⟩),by simp⟩
theorem yI {S:al}{h:aa}{b:Nat}{T:Nat->Prop}{m:Bx}{j:A2K}{N:A2J}(E:cp h)(D:Cf h b T m)(hd:m.down=false)(U:j.size<=1099511627776)(aL:ba m.files<=8000000000000)
  (V: ∀k s (l:List Nat),mI j m l->View IY k s (l.map λe:Nat=>(e:Int))->Ext h k->(∀ c,s.ag=some c->h.size<=c)->N (J1 #[J4 s.p s.len s.cap,J6 J9 0]) k):AA S P LJ #[Ap b,J7 j] h N:=by
 refine ABi ?_;unfold Ug;refine vQ D λs n F y aM=>⟨s,_,rfl,?_⟩
 have W:jU m=(m.files.map (·.name),0):=by unfold jU;rw[if_neg (by simp[hd])]
 rw[W] at F ⊢;refine af.no rfl ?_;have X:=yH D.aQ;have Y: ∀d∈m.files.map (·.name),d.size<=32:=λd g=>by
  obtain⟨f,Z,rfl⟩:=List.mem_map.1 g;exact D.aQ.names f Z
 have aN:(m.files.map (·.name)).length<=8000000000000:=by have:=VU m.files;simp;omega
 have ab: ∀d,(Cc d m.files).isSome=true↔d∈m.files.map (·.name):=λd=>yG
 dsimp only at F;generalize m.files.map (·.name)=names at*
 have v1:=F.view;refine Loop.rule (λO x G=> ∃(i:Nat) (sl:Sl) (ns:List Nat),x=(sl,(i:Int),())/\Ext n G/\Own IY Bq G sl (ns.map λe:Nat=>(e:Int))/\(∀ c,sl.ag=some c->n.size<=c)/\i<=names.length/\ns.length<=i/\(ns.map (aC j)).Sublist (names.take i)/\(∀ e∈ns,1<=e/\e<=99999999)/\(∀ d:Nat,1<=d->d<=99999999->aC j d∈names.take i->d∈ns)/\O=names.length-i) ?_
  ⟨0,⟨none,0,0⟩,[],rfl,Mod.refl,Own.nil,λc o=>by simp[Sl.ag] at o,A5 _,A0 _,by simp,by simp,by simp,rfl⟩
 rintro K O _ G ⟨i,sl,ns,rfl,r,H,f,aO,aP,u,I,z,rfl⟩ ac;rw[v1.len];refine af.intro (λJ=>?_) (λJ=>?_)
 ·have v:i<names.length:=by simpa using J
  refine ai.mk λad ae=>?_
  have ah:names[i]? =some names[i]:=A2 v;rw[<- v1.len];refine(v1.ext r).idx ah λa _ c=>?_
  refine AJ.mk c.str ?_;refine AMm ((E.ext y).ext r) U (by have:=Y names[i] (AW v);omega) λag e w aj ak=>⟨_,rfl,?_⟩
  have A:names.take (i+1)=names.take i++ [names[i]]:=by rw[AD,ah];rfl
  have Q: ∀(p:Sl) (q:List Nat) (k:aa),Ext n k->Own IY Bq k p (q.map λe:Nat=>(e:Int))->(∀ c,p.ag=some c->n.size<=c)->q.length<=i+1->(q.map (aC j)).Sublist (names.take (i+1))->(∀ e∈q,1<=e/\e<=99999999)->(∀ d:Nat,1<=d->d<=99999999->aC j d∈names.take (i+1)->d∈q)->ad (p,()) k:=λp q k am an ap aq ar au av=>by
   refine ae _ _ ?_;dsimp only;rw[Ab (by omega)];exact ac (names.length-(i+1)) _ _ (by omega) ⟨i+1,p,q,rfl,am,an,ap,v,aq,ar,au,av,rfl⟩
  by_cases t:e=0
  ·refine af.no (by simp[t]) (Q sl ns ag (r.trans w) (H.ext w) f (by omega) ?_ I ?_)
   ·rw[A];exact u.trans (List.sublist_append_left _ _)
   ·intro d B C g;rw[A] at g;rcases List.mem_append.1 g with g|g
    ·exact z d B C g
    ·exact absurd (List.mem_singleton.1 g).symm (aj t d B C)
  ·refine af.yes (by simp;omega) ?_;obtain⟨aQ,ne⟩:=ak t;refine ao.aZ (E:=IY) (x:=(e:Int)) (s:=sl) (l:=ns.map λe:Nat=>(e:Int)) rfl rW (H.ext w) (by simp;omega) (by simp[maxLen];omega) λp aw ax ay az _=>?_
   refine Q p (ns++ [e]) aw ((r.trans w).more ay f) (by rw[C2];exact ax) (λc o=>?_) (by simp;omega) ?_ ?_ ?_
   ·rcases az c o with h|h
    ·exact f c h
    ·have:=r.size;have:=w.size;omega
   ·rw[A,C2];have aA: [e].map (aC j)= [names[i]]:=by rw[ne];rfl
    rw[aA];exact u.append (List.Sublist.refl _)
   ·intro d g;rcases List.mem_append.1 g with g|g
    ·exact I d g
    ·rw[List.mem_singleton.1 g];omega
   ·intro d B C g;rw[A] at g;rcases List.mem_append.1 g with g|g
    ·exact List.mem_append.2 (.inl (z d B C g))
    ·have:=Iw ((List.mem_singleton.1 g).trans ne);exact List.mem_append.2 (.inr (by simp[this]))
 ·have v:i=names.length:=by simp at J;omega
  subst v;rw[Bk] at u z;have aD:ns.Nodup:=by have n:=u.nodup X;rw[Sp,N3] at n;rw[Sp];exact n.imp λh aE=>h (by rw[aE])
  obtain⟨l,aF,aG,aH⟩:=AJe aD;refine ARS H (by simp;omega) λaI R aJ=>⟨rfl,?_⟩
  rw[aF] at R;refine V aI sl l ⟨aG,λe=>?_⟩ R ((y.trans r).more aJ λc o=>by have:=f c o;have:=y.size;omega) λc o=>by have:=f c o;have:=y.size;omega
  rw[aH,ab];constructor
  ·intro t;obtain⟨L,M⟩:=I e t;exact⟨L,M,u.subset (List.mem_map.2 ⟨e,t,rfl⟩)⟩
  ·rintro⟨L,M,aK⟩;exact z e L M aK
structure bR (h:aa) (t:Nat) (l:List Pr) (f:List UInt8) (lo hi:Nat):Prop where
 at_: ∃fs bs:Sl,h[t]? =some (J2 #[J4 fs.p fs.len fs.cap,J4 bs.p bs.len bs.cap,J7 (AY f),J6 J9 (l.length:Int)] Me (0,0))/\View Ik h fs (CV l)/\View Ik h bs ((Ku l).map λb=>AY (BO b))/\
  (∀ c,fs.ag=some c->lo<=c/\c<hi)/\(∀ c,bs.ag=some c->lo<=c/\c<hi)
 fA:lo<=t/\t<hi
theorem bR.mod {i j:aa}{t:Nat}{l:List Pr}{f:List UInt8}{b d:Nat}{k:Nat->Prop}(T:bR i t l f b d)(m:Mod k i j)(e: ∀c,b<=c->c<d-> ¬k c):bR j t l f b d:=by obtain⟨n,o,p,q,r,g,h⟩:=T.at_;exact⟨⟨n,o,m.ag p (e t T.fA.1 T.fA.2),q.mod m (λc a=>e c (g c a).1 (g c a).2),r.mod m (λc a=>e c (h c a).1 (h c a).2),g,h⟩,T.fA⟩
theorem bR.ext {a b:aa}{t:Nat}{l:List Pr}{f:List UInt8}{c d:Nat}(T:bR a t l f c d)(m:Ext a b):bR b t l f c d:=T.mod m λ_ _ _ a=>a
theorem Xb(a:List UInt8)(b:List (List UInt8)):aI (a::b)=CY a++aI b:=rfl
theorem ANq {w:al}{b:aa}{a:List (List UInt8)}{q:A2J}(l: ∀f∈a,f.length<=1048576)(y:(aI a).length<=1099511627776)
  (r: ∀h sl,Ext b h->View Ik h sl (a.map AY)->(∀ c,sl.ag=some c->b.size<=c/\c<h.size)->q (J1 #[J4 sl.p sl.len sl.cap,J6 J9 ((aI a).length:Int)]) h):AA w P Lg #[J7 (AY (aI a))] b q:=by
 refine WU ?_;unfold Rx;refine Loop.rule (λm x n=> ∃(i:Nat) (sl:Sl),x=(sl,AY (aI (a.drop i)),())/\m=a.length-i/\i<=a.length/\Ext b n/\Own Ik BI n sl ((a.take i).map AY)/\(∀ c,sl.ag=some c->b.size<=c)) ?_
  ⟨0,⟨none,0,0⟩,rfl,rfl,by omega,Mod.refl,Own.nil,λc d=>by simp[Sl.ag] at d⟩
 rintro K m _ n ⟨i,sl,rfl,rfl,z,o,g,p⟩ t;dsimp only;have N:a.length<=(aI a).length:=by
  clear y r z g t
  induction a with
  |nil=>simp
  |cons f a A=>
   have O:=(Jc (l f CC)).1;have:=A λx j=>l x (AG _ j)
   simp only[aI,AF,A1,A6] at this ⊢;omega
 have B:(aI (a.drop i)).length<=1099511627776:=by
  have C:aI a=aI (a.take i)++aI (a.drop i):=by unfold aI;rw[<- Fm,DE]
  have:=congrArg List.length C;rw[A1] at this;omega
 refine rO (AH B (by decide)) λD e=>⟨_,_,_,rfl,?_⟩
 by_cases k:i<a.length
 ·have j:a[i]? =some a[i]:=A2 k;have u:=l _ (AW k);have hd:a.drop i=a[i]::a.drop (i+1):=Fl k;have v:=UO j;generalize a[i]=f at j u hd v;rw[hd,Xb,rH u];refine af.yes rfl ?_;refine ao.aZ (E:=Ik) (x:=AY f) (s:=sl) rfl si (g.ext e) (by grind) (by simp only[B9,As,maxLen];omega) λF Q G H I R=>?_
  refine t (a.length-(i+1)) _ _ (by omega) ⟨i+1,F,rfl,rfl,k,(o.trans e).more H p,?_,λc d=>?_⟩
  ·rw[v,C2];exact G
  ·rcases I c d with b|b
   ·exact p c b
   ·have:=o.size;have:=e.size;omega
 ·have J:a.drop i= []:=HA (by omega);have L:a.take i=a:=Ax (by omega);rw[J];rw[L] at g;have S:=UT;refine af.no (by grind) ?_;have M:J8 J9 (((AY (aI a)).size:Int)-((AY (aI [])).size:Int))=((aI a).length:Int):=by
   rw[AP,AP];show J8 J9 (((aI a).length:Int)-((0:Nat):Int))=_
   grind [wrap_i64]
  rw[M];exact r D sl (o.trans e) (g.ext e).view λc d=>⟨p c d,(g.ext e).lt d⟩
def ZB(l:List Pr)(a:Nat):A2K:=match a with|0=>⟨#[]⟩|a+1=>JA l a
theorem ARb {l:List Pr}(d: ∀p∈l,Ls p)(e:l.Pairwise λp f=>aN p.key f.key=true){a:Nat}{p:Pr}(b:l[a]? =some p):(aN p.key (ZB l a)||bQ p.key (ZB l a))=false:=by
 have k:aN (ZB l a) p.key=true:=by
  cases a with
  |zero=>
   have:=(d p (AK b)).key;unfold ZB;rw[ZY];have g:bl p.key≠ []:=by grind [A8]
   cases h:bl p.key with
   |nil=>exact absurd h g
   |cons c t=>
    simp only[decide_eq_true_eq];show([]:List UInt8)<bl p.key
    simp_all
  |succ a=>
   have i:a<l.length:=by grind
   have j:l[a]? =some l[a]:=A2 i;have:=ze e j b;show aN (JA l a) p.key=true
   simp_all [JA]
 rw[GC]
 grind [aN,ZB,DX,CX,Cn,decide_eq_false_iff_not]
theorem AP6 {a N:Nat}(b:a=N+1)(c:N<=1099511627776):J8 J9 (((a:Nat):Int)-(1:Int))=((N:Nat):Int):=by grind [wrap_i64]
theorem gU.jy {s:List UInt8}{l:List Pr}{f:List UInt8}(T:gU s l f):(aI (aT l f)).length<=1099511627776:=by
 have:=VH (Nw T);have b:=T.many;have a:(aT l f).length=Bt l+1:=by simp[aT,JH]
 have c:Bt l<=12501:=by unfold Bt;omega
 rw[a] at this;have d:(Bt l+1)*1048590<=12502*1048590:=AN _ (by omega);omega
theorem zg {bh:al}{e:aa}{l:List Pr}{f:List UInt8}{aH:A2J}(T:gU (aI (aT l f)) l f)
  (bi: ∀O t,Ext e O->bR O t l f e.size O.size->aH (J1 #[Ap t,J6 J9 0]) O):AA bh P OE #[J7 (AY (aI (aT l f)))] e aH:=by
 refine AEt ?_;unfold ZA;have ce:=wE T.ne;have cf:=T.many;have cg:Bt l<=12501:=by unfold Bt;omega
 have ch:=T.jw;refine ANq (Nw T) (gU.jy T) λh sl C v1 aJ=>⟨sl,_,rfl,?_⟩
 have aK:sl.len=Bt l+1:=by rw[v1.len];simp[aT,JH]
 have ci:=v1.cap;rw[AP6 aK (by omega)];refine ai.mk λK aL=>?_
 refine af.no (by rw[AP];simp) ?_;refine aL _ _ (af.no (by rw[aK];simp;omega) ?_);clear aL;simp only[An,Hv];refine⟨⟨by omega,by omega⟩,?_⟩;have bj:((aT l f).map AY)[Bt l]? =some (AY (Vt l f)):=by simp_all [C5,aT,F2,JH]
 refine v1.idx bj λa aM d=>?_
 refine AJ.mk d.str ?_;have aN:=YR T;refine KI λaO aP Q=>⟨_,rfl,?_⟩
 have R: ∀ {e:aa} {s:Sl} {ks:List A2K},Own Ik BI e s ks-> ∀ {c:Nat} {aQ:Rd},Ip e c aQ->s.ag≠some c:=λbk c aQ bm=>bk.ne bm (by decide)
 refine ao.mk λS _ bn D cj=>?_
 have aR:Ip S h.size _:=Am D aP;have ck:=AV (n:=Bt l) (by omega);have bo:Vt l f=BU (Bt l)++(G6 (CV l)++(BU l.length++BF f)):=by unfold Vt G6;simp_all
 rw[bo] at aR aN;have cl:=AV (n:=l.length) (by omega);have cm:(BF f).length=(BU f.length).length+f.length:=by simp[BF]
 have cn:=AV (n:=f.length) (by omega);have bp:=Qx (ks:=CV l) (PL T.ok);rw[IE] at bp;refine DY (most:=Bt l) aR (AH aN (by decide)) (by omega) λbq ac ad=>⟨_,rfl,?_⟩
 rw[Co (by omega) (A0 _)] at ac ⊢;dsimp only at ac ⊢;refine af.no (by simp) ?_;have co:h.size<aO.size:=Ai aP;have br:=ad.ag bn (by omega);have U:Ext e S:=(C.trans Q).trans D;have cp:Ext e bq:=U.more ad (λb bs=>by rw[bs];exact C.size);have aS: ∀ {g:aa},(∀ c,sl.ag=some c->g[c]? =h[c]?)->View Ik g ⟨Az sl.p sl.cap 0 1,Bt l,sl.cap⟩ ((Ku l).map λb=>AY (BO b)):=by
  intro g d;have v:View Ik g sl ((aT l f).map AY):=⟨v1.len,v1.cap,λi x hi=>by
   obtain⟨a,aM,bt⟩:=v1.cells i x hi;refine⟨a,aM,λj v aV=>?_⟩;rw[<- bt j v aV]
   grind [Qn,aU,Sl.ag]⟩
  have:=v.sub (lo:=0) (hi:=Bt l) (A5 _) (by simp[aT,JH]);have aW:(((aT l f).map AY).take (Bt l)).drop 0=(Ku l).map λb=>AY (BO b):=by simp_all [HL,aT,N5,JH,Ax,AT]
  rw[aW] at this;exact this
 generalize cq:aO.size=q at*
 refine Loop.rule (λm x g=> ∃(i:Nat) (o:Sl),x=((i:Int),())/\m=Bt l-i/\i<=Bt l/\Ip g h.size ⟨G6 ((CV l).drop i)++(BU l.length++BF f),false⟩/\
  g[q]? =some (J2 #[J4 o.p o.len o.cap,J4 (Az sl.p sl.cap 0 1) (Bt l) sl.cap,J7 ⟨#[]⟩,J6 J9 0] Me (0,0))/\Own Ik BI g o ((CV l).take i)/\(∀ c,o.ag=some c->q<c)/\
  Mod (λc=>c=h.size\/q<=c) S g) ?_ ⟨0,⟨none,0,0⟩,rfl,rfl,by omega,ac,br,Own.nil,λc d=>by simp[Sl.ag] at d,ad.aj λc _ d=> .inl d⟩
 rintro cr m _ aX ⟨i,o,rfl,rfl,hi,w,ag,F,G,aY⟩ aZ;dsimp only;refine af.intro (λr=>?_) (λr=>?_)
 ·have V:i<Bt l:=by simp at r;omega
  refine Aa.mk (s:=o) (AL ag rfl) ?_;have z:=Ri V;have hd:(CV l).drop i=JA l (8*i)::(CV l).drop (i+1):=by grind [CV,IE,List.drop_eq_getElem_cons,List.getElem?_eq_getElem,Option.some.inj]
  have a0:=UO z;have a1:=PL T.ok _ (AK z);generalize JA l (8*i)=k at z hd a0 a1;have bu:G6 ((CV l).drop i)++(BU l.length++BF f)=BF (bl k)++(G6 ((CV l).drop (i+1))++(BU l.length++BF f)):=by rw[hd];simp[G6]
  have bv:=Qx (ks:=(CV l).drop i) λk bw=>PL T.ok k (HX bw)
  rw[Cl,IE] at bv;have a2:(G6 ((CV l).drop i)++(BU l.length++BF f)).length<1099511627776:=by simp only[A1];omega
  rw[bu] at w a2;refine Hg w a2 λH W aj=>⟨_,rfl,?_⟩
  rw[Ih (by rw[A8];omega)] at W ⊢;dsimp only at W ⊢;rw[EC];have X:=aj.ag ag (by omega);have ak:=F.mod aj (λc d e=>R F w (e▸d));refine⟨AL X rfl,?_⟩;refine ao.mk λbx _ bz I cs=>⟨AL (Am I X) rfl,?_⟩
  have bA:Own Ik BI bx ⟨some ⟨H.size,0,none⟩,1,1⟩ [k]:=Own.lit (E:=Ik) (l:= [k]) bz rfl (by simp[maxLen]);refine GG (s:=o) (src:=⟨some ⟨H.size,0,none⟩,1,1⟩) si (ak.ext I) bA.view (by simp only[As,CN];omega) (by simp only[As,CN,maxLen];omega) λa3 ct bB am cu cv=>?_
  have cw:q<H.size:=Ai X;have cx: ∀c,o.ag=some c->c<H.size:=λc d=>ak.lt d
  have bC:=am.ag (Am I X) (λe=>by have:=G _ e;omega);refine ae.mk bC (by simp) λcy bD an cz=>?_
  have a4: ∀c,a3.ag=some c->q<c:=λc d=>by
   grind
  rw[Ab (by omega)];refine aZ (Bt l-(i+1)) _ _ (by omega) ⟨i+1,a3,rfl,rfl,V,?_,by simpa using bD,?_,a4,?_⟩
  ·refine an.ag (am.ag (Am I W) λe=>?_) (by omega);exact R ak W e
  ·rw[a0];exact bB.mod an (λc d e=>by have:=a4 c d;omega)
  ·have Y:Mod (λc=>c=h.size\/q<=c) aX H:=aj.aj λc _ d=> .inl d
   exact(((aY.trans Y).trans I.mod).trans (am.aj λc _ d=> .inr (by have:=G c d;omega))).trans (an.aj λc _ d=> .inr (by omega))
 ·have V:i=Bt l:=by simp at r;omega
  subst V;clear aZ;have bF:(CV l).drop (Bt l)= []:=HA (by rw[IE];omega);have bG:(CV l).take (Bt l)=CV l:=Ax (by rw[IE];omega);rw[bF] at w;rw[bG] at F;have bH:J8 J9 (((Bt l:Nat):Int)*(8:Int))=((Bt l*8:Nat):Int):=by grind [wrap_i64]
  rw[bH];have w:Ip aX h.size ⟨BU l.length++BF f,false⟩:=w;have bI:l.length<=Bt l*8:=by unfold Bt;omega
  refine DY (most:=Bt l*8) w (by grind) (by omega) λcB ap aq=>⟨_,rfl,?_⟩
  rw[Co (by omega) bI] at ap ⊢;dsimp only at ap ⊢;have bJ:=aq.ag ag (by omega);rw[Be,Be];refine ae.mk bJ (by simp) λbK bL ar cC=>?_
  have a5:Ip bK h.size ⟨BF f++ [],false⟩:=by rw[AM];exact ar.ag ap (by omega)
  refine Hg a5 (by grind) λcD au av=>⟨_,rfl,?_⟩
  rw[Ih (by omega)] at au ⊢;dsimp only at au ⊢;have bM:=av.ag bL (by omega);refine ae.mk bM (by simp) λB J aw cE=>?_
  have bN:=aw.ag au (show h.size≠q by omega);have J:B[q]? =some (J2 #[J4 o.p o.len o.cap,J4 (Az sl.p sl.cap 0 1) (Bt l) sl.cap,J7 (AY f),J6 J9 (l.length:Int)] Me (0,0)):=by simpa using J
  have ax:Own Ik BI B o (CV l):=by have Y:=F.mod aq (λc d e=>R F w (e▸d));have ay:=Y.mod ar (λc d e=>by have:=G c d;omega);have L:=ay.mod av (λc d e=>R ay a5 (e▸d));exact L.mod aw (λc d e=>by have:=G c d;omega)
  have M:Mod (λc=>c=h.size\/q<=c) S B:=
   (((aY.trans (aq.aj λc _ d=> .inl d)).trans (ar.aj λc _ d=> .inr (by omega))).trans (av.aj λc _ d=> .inl d)).trans (aw.aj λc _ d=> .inr (by omega))
  have cF:h.size<=q:=by omega
  have bO:Ext e B:=by refine⟨by have:=U.size;have:=M.size;omega,λc d _=>?_⟩;have:=C.size;have:=U.size;exact(M.get c (by omega) (by omega)).trans (U.get c d (λe=>e))
  have a6: ∀ {g:aa},Ext B g-> ∀c,sl.ag=some c->g[c]? =h[c]? :=by intro g x c d;have:=aJ c d;have cG:=M.size;have:=D.size;have:=Q.size;exact((x.get c (by omega) (λe=>e)).trans (M.get c (by omega) (by omega))).trans ((D.get c (by omega) (λe=>e)).trans (Q.get c (by omega) (λe=>e)))
  have bP: ∀c,Sl.ag ⟨Az sl.p sl.cap 0 1,Bt l,sl.cap⟩=some c->e.size<=c/\c<h.size:=λc d=>aJ c (qJ d)
  refine ai.mk λcH a7=>?_
  refine MU bN ⟨_,rfl,af.no rfl ?_⟩;have bS:f≠ []:=λaW=>by simp_all
  refine AJ.mk (AL J rfl) (af.no ?_ ?_)
  ·rw[Xl,EF,decide_eq_false_iff_not];exact bS
  refine AJ.mk (AL J rfl) ?_;refine a7 _ _ (af.no (by rw[AP];simp;omega) ?_);clear a7;refine Loop.rule (λm x g=> ∃i:Nat,x=(ZB l (min (8*i) l.length),((min (8*i) l.length:Nat):Int),(i:Int),())/\m=Bt l-i/\i<=Bt l/\Ext B g) ?_ ⟨0,by simp[ZB],rfl,by omega,Mod.refl⟩;rintro cI m _ bT ⟨i,rfl,rfl,hi,u⟩ bU;dsimp only;have Z:=Am u J;refine af.intro (λr=>?_) (λr=>?_)
  ·have y:i<Bt l:=by simp at r;omega
   have cJ:=Qt y;have cK:8*i<l.length:=by unfold Bt at y;omega
   have bV:min (8*i) l.length=8*i:=by omega
   rw[bV];have bW:((Ku l).map λb=>AY (BO b))[i]? =some (AY (BO (CE l i))):=by simp[Ku,y]
   refine(aS (a6 u)).idx bW λY cL bX=>?_
   rw[An];refine AJ.mk bX.str ?_;have bY: ∀p∈CE l i,Ls p:=λp bZ=>T.ok p (Pv bZ)
   have cM:=Qw T.ok y;refine se bY (by omega) λps A az aA cN=>⟨_,_,rfl,?_⟩
   have a8:=Am aA Z;have b0:ps.len=(CE l i).length:=az.len;refine ai.mk λa9 b1=>?_
   have aC:(CE l i)[0]? =some (CE l i)[0]:=A2 (by omega);have ba:JA l (8*i)=(CE l i)[0].key:=by have:=QW (l:=l) (i:=i) (j:=0) (by omega);rw[aC] at this;unfold JA;rw[FG] at this;rw[<- this]
   generalize (CE l i)[0]=bb at aC ba;have b2:a9 (false,()) A:=by
    refine b1 _ _ (af.no rfl ?_);refine Loop.rule (λm x g=> ∃j:Nat,x=(ZB l (8*i+j),((8*i+j:Nat):Int),(j:Int),())/\m=(CE l i).length-j/\j<=(CE l i).length/\Ext A g) ?_ ⟨0,by simp,rfl,by omega,Mod.refl⟩;rintro cO m _ cP ⟨j,rfl,rfl,aV,ab⟩ b3;dsimp only;refine af.intro (λr=>?_) (λr=>?_)
    ·have N:j<(CE l i).length:=by grind
     have z:(CE l i)[j]? =some (CE l i)[j]:=A2 N;have aD:(CE l i)[j]∈l:=Pv (AW N);have aE:l[8*i+j]? =some (CE l i)[j]:=by rw[<- QW (by omega)];exact z
     generalize (CE l i)[j]=p at z aD aE;have b4:=T.ok p aD;refine(az.ext ab).view.idx z λay cQ b5=>?_
     obtain⟨b6,c1,c2⟩:=b5.pair;rw[An];refine AJ.mk b6 (AJ.mk c1 (AZ.mk c2 ?_));refine ao.pair λcR cS cT aF bc cU=>?_
     refine ai.mk λcV b7=>?_
     refine AJ.mk (AL aF rfl) ?_;rw[ARb T.ok T.inc aE];refine af.no rfl ?_;have b8:=Am bc (Am ab a8);refine AJ.mk (AL b8 rfl) ?_;refine AJ.mk (AL aF rfl) ?_;have a1:=b4.bI;refine yQ (by omega) ⟨_,rfl,?_⟩;rw[EF,T.has p aD];refine b7 _ _ (af.no rfl ?_);refine AJ.mk (AL aF rfl) ?_;rw[Ab (by omega),Ab (by omega)];refine b3 ((CE l i).length-(j+1)) _ _ (by omega) ⟨j+1,?_,rfl,N,ab.trans bc⟩;have b9:ZB l (8*i+(j+1))=p.key:=by show JA l (8*i+j)=p.key;unfold JA;rw[aE]
     rw[b9];rfl
    ·have N:j=(CE l i).length:=by grind
     rw[Ab (by omega)];have aG:min (8*(i+1)) l.length=8*i+j:=by rw[N];unfold CE;rw[As,Cl];omega
     refine bU (Bt l-(i+1)) _ _ (by omega) ⟨i+1,?_,rfl,y,(u.trans aA).trans ab⟩;rw[aG]
   have bd:bE ps.p ps.len 0 λL=>AJ A (L.add ((0:Int).toNat*3)) λca=>Aa A (⟨q,0,none⟩:Q6) λbe=>bE be.p be.len ((i:Nat):Int) λbf=>AJ A (bf.add (((i:Nat):Int).toNat*1)) λcb=>a9 ((!bQ ca cb),()) A:=by
    obtain⟨L,cc,bg⟩:=az.view.cells 0 bb aC;rw[HT,add_zero] at bg;refine bE.mk (k:=0) cc (by omega) ?_;refine AJ.mk (n:=bb.key) (by show ah A (L.add 0)=_;rw[add_zero];exact bg.pair.1) ?_;refine Aa.mk (s:=o) (AL a8 rfl) ?_;refine((ax.ext u).ext aA).view.idx (Ri y) λbf cW cd=>?_
    rw[An];refine AJ.mk cd.str ?_;rw[ba,Cn,decide_eq_true rfl];exact b2
   refine af.no rfl (af.no (by grind) (af.no (by rw[b0];simp;omega) ?_));rw[Ab (by omega)];refine af.intro (λr=>?_) (λ_=>bd);have:i+1<Bt l:=by simp at r;omega
   exact af.no (by grind) bd
  ·have y:i=Bt l:=by simp at r;omega
   have aG:min (8*i) l.length=l.length:=by rw[y];omega
   rw[aG];refine AC.mk (AL Z rfl) (af.no (by simp) ?_);refine bi bT q (bO.trans u) ⟨⟨o,⟨Az sl.p sl.cap 0 1,Bt l,sl.cap⟩,Z,(ax.ext u).view,aS (a6 u),λc d=>?_,λc d=>?_⟩,?_⟩
   ·have h:=(ax.ext u).lt d;have:=G c d;have:=C.size;omega
   ·have h:=bP c d;have:=M.size;have:=u.size;have:=D.size;have:=Q.size;omega
   ·have:=Ai Z;have:=C.size;omega
def Wo(g:al)(h:Int)(f:J0)(i:aa)(j:A2J):=Loop (λK (s:Int×Int×Unit) a=>af (decide (s.1<s.2.1)) (ai (λ(b:Int×Int×Unit) k=>K (b.1,b.2.1,()) k) λc=>Eh g P f #[J6 J9 (J8 J9 ((J8 .u64 (J8 J9 (s.1+s.2.1))).fdiv ((2:Int)^(1:Nat))))] a λv d=> ∃e:Bool,v=J3 e/\(af (!e) (c ((J8 J9 ((J8 J9 ((J8 .u64 (J8 J9 (s.1+s.2.1))).fdiv ((2:Int)^(1:Nat))))+1)),s.2.1,()) d) (c (s.1,(J8 J9 ((J8 .u64 (J8 J9 (s.1+s.2.1))).fdiv ((2:Int)^(1:Nat)))),()) d))) (j (J6 J9 s.1) a)) (0,h,()) i
theorem ACm {a b f c d}(e:Wo a b f c d):AA a P Px #[J6 J9 b,f] c d:=Ac (CQ 2 (AO (.block (.loop [(5,.one (.int J9)),(6,.one (.int J9))] [1] (AO Fy (.bL [(5,.one (.int J9)),(6,.one (.int J9))] [1] kN)))) Bp)) (by kernel_rfl) e
def Gz(b:al)(s:Sl)(v:Int)(c:aa)(d:A2J):=AA b P I8 #[J4 s.p s.len s.cap,J6 J9 v] c λv1 e=> ∃a:Int,v1=J6 J9 a/\(d (J3 (decide (a>=0))) e)
theorem Lt {a s v b c}(d:Gz a s v b c):AA a P Em #[J4 s.p s.len s.cap,J6 J9 v] b c:=Ac FO (by kernel_rfl) d
def I4(g:al)(s:Sl)(v:Int)(e:aa)(d:A2J):=Loop (λK (b:Int×Unit) c=>af (decide (b.1<(s.len:Int))) (bE s.p s.len b.1 λa=>AC J9 c (a.add (b.1.toNat*1)) λf=>af (v==f) (d (J6 J9 b.1) c) (K ((J8 J9 (b.1+1)),()) c)) (d (J6 J9 (-1)) c)) (0,()) e
theorem NQ {a s v b c}(d:I4 a s v b c):AA a P I8 #[J4 s.p s.len s.cap,J6 J9 v] b c:=Ac qx (by kernel_rfl) d
def IV(b:al)(s:Sl)(i:Int)(v:Sl)(e:aa)(d:A2J):=aG ((0:Int)<=i/\i<=(s.len:Int))<| af ((v.len:Int)==0) (d (J4 s.p s.len s.cap) e) (af (i==(s.len:Int)) (BD b P (Builtin.append_ #[Cz,Cz] Cz #[J4 s.p s.len s.cap,J4 v.p v.len v.cap]) e λv1 h=> ∃c:Sl,v1=J4 c.p c.len c.cap/\(d (J4 c.p c.len c.cap) h)) (af (decide ((J8 J9 ((s.len:Int)+(v.len:Int)))>(s.cap:Int))) (aG ((0:Int)<=i/\i<=(s.cap:Int))<| BD b P (Builtin.append_ #[Cz,Bq] Cz #[J4 (Az s.p s.cap 0 1) (i.toNat-0) (s.cap-0),J6 J9 (J8 J9 ((J8 J9 ((s.len:Int)+(v.len:Int)))-i))]) e λv2 j=> ∃a:Sl,v2=J4 a.p a.len a.cap/\(aG ((0:Int)<=i/\i<=(a.len:Int))<| BD b P (Builtin.copy_ #[Cz,Cz] Bq #[J4 (Az a.p a.cap i.toNat 1) (a.len-i.toNat) (a.cap-i.toNat),J4 v.p v.len v.cap]) j λk l=> ∃m:Int,k=J6 J9 m/\(aG ((0:Int)<=(J8 J9 (i+(v.len:Int)))/\(J8 J9 (i+(v.len:Int)))<=(a.len:Int))<| aG ((0:Int)<=i/\i<=(s.len:Int))<| BD b P (Builtin.copy_ #[Cz,Cz] Bq #[J4 (Az a.p a.cap ((J8 J9 (i+(v.len:Int))).toNat) 1) (a.len-((J8 J9 (i+(v.len:Int))).toNat)) (a.cap-((J8 J9 (i+(v.len:Int))).toNat)),J4 (Az s.p s.cap i.toNat 1) (s.len-i.toNat) (s.cap-i.toNat)]) l λn o=> ∃p:Int,n=J6 J9 p/\(d (J4 a.p a.len a.cap) o)))) (aG ((0:Int)<=(J8 J9 ((s.len:Int)+(v.len:Int)))/\(J8 J9 ((s.len:Int)+(v.len:Int)))<=(s.cap:Int))<| aG ((0:Int)<=(J8 J9 (i+(v.len:Int)))/\(J8 J9 (i+(v.len:Int)))<=(((((J8 J9 ((s.len:Int)+(v.len:Int))).toNat)-0):Nat):Int))<| nK b P Gq #[J4 v.p v.len v.cap,J4 (Az (Az s.p s.cap 0 1) (s.cap-0) ((J8 J9 (i+(v.len:Int))).toNat) 1) ((((J8 J9 ((s.len:Int)+(v.len:Int))).toNat)-0)-((J8 J9 (i+(v.len:Int))).toNat)) ((s.cap-0)-((J8 J9 (i+(v.len:Int))).toNat))] e λq f=> ∃g:Bool,q=J3 g/\(af (!g) (aG ((0:Int)<=(J8 J9 (i+(v.len:Int)))/\(J8 J9 (i+(v.len:Int)))<=(((((J8 J9 ((s.len:Int)+(v.len:Int))).toNat)-0):Nat):Int))<| aG ((0:Int)<=i/\i<=(((((J8 J9 ((s.len:Int)+(v.len:Int))).toNat)-0):Nat):Int))<| BD b P (Builtin.copy_ #[Cz,Cz] Bq #[J4 (Az (Az s.p s.cap 0 1) (s.cap-0) ((J8 J9 (i+(v.len:Int))).toNat) 1) ((((J8 J9 ((s.len:Int)+(v.len:Int))).toNat)-0)-((J8 J9 (i+(v.len:Int))).toNat)) ((s.cap-0)-((J8 J9 (i+(v.len:Int))).toNat)),J4 (Az (Az s.p s.cap 0 1) (s.cap-0) i.toNat 1) ((((J8 J9 ((s.len:Int)+(v.len:Int))).toNat)-0)-i.toNat) ((s.cap-0)-i.toNat)]) f λr t=> ∃u:Int,r=J6 J9 u/\(aG ((0:Int)<=i/\i<=(((((J8 J9 ((s.len:Int)+(v.len:Int))).toNat)-0):Nat):Int))<| BD b P (Builtin.copy_ #[Cz,Cz] Bq #[J4 (Az (Az s.p s.cap 0 1) (s.cap-0) i.toNat 1) ((((J8 J9 ((s.len:Int)+(v.len:Int))).toNat)-0)-i.toNat) ((s.cap-0)-i.toNat),J4 v.p v.len v.cap]) t λw x=> ∃y:Int,w=J6 J9 y/\(d (J4 (Az s.p s.cap 0 1) (((J8 J9 ((s.len:Int)+(v.len:Int))).toNat)-0) (s.cap-0)) x))) (aG ((0:Int)<=(s.len:Int)/\(s.len:Int)<=(((((J8 J9 ((s.len:Int)+(v.len:Int))).toNat)-0):Nat):Int))<| BD b P (Builtin.copy_ #[Cz,Cz] Bq #[J4 (Az (Az s.p s.cap 0 1) (s.cap-0) ((s.len:Int).toNat) 1) ((((J8 J9 ((s.len:Int)+(v.len:Int))).toNat)-0)-((s.len:Int).toNat)) ((s.cap-0)-((s.len:Int).toNat)),J4 v.p v.len v.cap]) f λz A=> ∃B:Int,z=J6 J9 B/\(aG ((0:Int)<=i/\i<=(((((J8 J9 ((s.len:Int)+(v.len:Int))).toNat)-0):Nat):Int))<| AA b P I5 #[J4 (Az (Az s.p s.cap 0 1) (s.cap-0) i.toNat 1) ((((J8 J9 ((s.len:Int)+(v.len:Int))).toNat)-0)-i.toNat) ((s.cap-0)-i.toNat),J6 J9 (v.len:Int)] A λC D=>C=J1 #[]/\(d (J4 (Az s.p s.cap 0 1) (((J8 J9 ((s.len:Int)+(v.len:Int))).toNat)-0) (s.cap-0)) D)))))))
theorem NL {a s i v b c}(d:IV a s i v b c):AA a P DC #[J4 s.p s.len s.cap,J6 J9 i,J4 v.p v.len v.cap] b c:=Ac uv (by kernel_rfl) d
end Go.Lf.G
namespace Go.Lf.G.M
open Go Go.Lf Go.Lf.G
theorem toList_inj {a b:A2K}:(a.toList==b.toList)=decide (a=b):=by rw[ByteArray.toList_eq,ByteArray.toList_eq];rw[G0];simp[LS,<-Array.toList_inj]
def Aj(x:Pr):Int:=
 if(decide (x.key=⟨#[]⟩)||(x.gone&& !decide (x.val=⟨#[]⟩))) then 1 else if(decide (x.key.size>64)||decide (x.val.size>8192)) then 2 else 0
theorem Cn {a b:A2K}:bQ a b=decide (a=b):=toList_inj
def ic(key:A2K)(l:List Pr):List Pr:=l.takeWhile λa=>aN a.key key
def aR(key:A2K)(l:List Pr):Nat:=(ic key l).length
def BH(key:A2K)(l:List Pr):Bool:=match l[aR key l]? with|some a=>decide (a.key=key)|none=>false
theorem mZ(key:A2K)(l:List Pr):aR key l<=l.length:=(Wf _).length_le
theorem VA {e:Type}{p:e->Bool}: ∀ {l:List e} {i:Nat},i<=(l.takeWhile p).length->(∀ x,l[i]? =some x->p x=true->i<(l.takeWhile p).length)/\(∀ x,l[i]? =some x->p x=false->i=(l.takeWhile p).length)/\(l[i]? =none->i=(l.takeWhile p).length)
 | [],i,a=>by simp at a;subst a;simp
 |y::l,0,a=>by
  refine⟨λx b c=>?_,λx b c=>?_,λa=>by simp at a⟩
  ·simp at b;subst b;simp[c]
  ·simp at b;subst b;simp[c]
 |y::l,i+1,a=>by
  rw[Mb] at a ⊢;split at a
  ·rename_i f;have d:=VA (p:=p) (l:=l) (i:=i) (by simpa using a);simp only[f,if_true,A6];refine⟨λx b c=>?_,λx b c=>?_,λg=>?_⟩
   ·have:=d.1 x (by simpa using b) c;omega
   ·have:=d.2.1 x (by simpa using b) c;omega
   ·have:=d.2.2 (by simpa using g);omega
  ·simp at a
theorem GX:QP P AR AQ BM.w 40=true:=by kernel_rfl
theorem AN4:QP P JZ AR ig.w 24=true:=by kernel_rfl
theorem ARl:QP P A9 Bj jS.w 8=true:=by kernel_rfl
def YQ(x:Pr)(l:List Pr):List Pr:=l.take (aR x.key l)++ [x]++l.drop (if BH x.key l then aR x.key l+1 else aR x.key l)
def CZ(x:Pr)(l:List Pr):List Pr:=if Aj x≠0 then l else YQ x l
theorem AO5(x:Pr)(l:List Pr):(YQ x l).length<=l.length+1:=by unfold YQ;have:=mZ x.key l;simp;split<;>omega
theorem ANv(x:Pr)(l:List Pr):(CZ x l).length<=l.length+1:=by
 unfold CZ;split
 ·omega
 ·exact AO5 x l
theorem qM {a:J0}{c:J0}:(#[]++ #[a]++ #[c]:Array J0)= #[a,c]:=rfl
theorem AGj {G:al}{e H:aa}{fv:J0}{S:Nat->Prop}{l:List Pr}{I:A2J}(J:ES G P fv S H l)(K: ∀b,S b->e[b]? =H[b]?)(ax:l.length<=1099511627776)
  (ac: ∀s h,Own BM AQ h s l->(∀ c,s.ag=some c->e.size<=c)->Ext e h->I (J4 s.p s.len s.cap) h):AA G P Cy #[J4 none 0 0,fv] e I:=by
 refine IM (s:=⟨none,0,0⟩) ?_;unfold Ef;refine ao.mk λo _ a L ay=>?_
 have M: ∀b,S b->b<e.size:=λb a=>by
  have:=K b a;rw[Fo (J.1 b a)] at this;exact Ai this
 have ad: ∀h:aa,Mod (λc=>c=e.size) o h->Ext e h:=λh m=>L.then (m.aj λc _ j=> .inr (by omega))
 refine Xd J (λb a=>(L.get b (M b a) (by simp)).trans (K b a))
  (λi c y p=>c=none/\ ∃s:Sl,p[e.size]? =some (J2 #[J4 s.p s.len s.cap] AR (0,0))/\Own BM AQ p s (l.take i)/\(∀ b,y b↔(b=e.size\/s.ag=some b))/\(∀ b,s.ag=some b->b<p.size/\e.size<b))
  (λb=>b=e.size) (λb a d=>by have:=M b a;omega) ?_ ?_ ?_ ?_ ?_ ?_
 ·rintro i c y p ⟨_,s,q,r,f,k⟩ b a;rcases(f b).1 a with rfl|n
  ·exact Ai q
  ·exact(k b n).1
 ·rintro i c y p h ⟨d,s,q,r,f,k⟩ m;refine⟨d,s,m.ag q (λz=>z.1 ((f _).2 (.inl rfl))),r.mod m (λc j z=>z.1 ((f _).2 (.inr j))),f,λb a=>⟨?_,(k b a).2⟩⟩;have:=m.size;have:=(k b a).1;omega
 ·exact⟨rfl,⟨none,0,0⟩,a,Own.nil,λb=>by simp[Sl.ag],λb a=>by simp[Sl.ag] at a⟩
 ·rintro i x N p rec az aA O ⟨_,s,q,r,f,k⟩ Q aC af ag ah aD;have aE:=(List.getElem?_eq_some_iff.1 O).1;refine ao.pair λaF R aG ai u aH=>?_
  refine⟨rec,u.ag af (by simp),ag,?_⟩;generalize T:R.setIfInBounds (o.size+1) (.loop {rec with state:= .busy})=A;have t:Mod (λb=>b=o.size+1) R A:=T▸Mod.setObj rfl;have aj:A[o.size+1]? =some (.loop {rec with state:= .busy}):=by rw[<- T];exact Cg (by omega)
  have aI:=Ai q;have B:=t.ag ai (by omega);have U:=t.ag (u.ag q (by simp)) (by omega);have ak:=(r.ext u).mod t (λc j d=>Q ((f _).2 (.inr (d▸j))));refine Aa.mk (AL U rfl) (AJ.mk (AL B rfl) (AJ.mk (AB B rfl) (AZ.mk (AB B rfl) ?_)));have V:(l.take i).length=i:=by simp;omega
  refine ao.aZ (E:=BM) (x:=x) rfl GX ak (by rw[V];omega) (by rw[V];simp[maxLen];omega) λW X Y v C _=>?_
  have aJ:=t.size;have am:s.ag≠some e.size:=λd=>by have:=k _ d;omega
  refine ae.mk (v.ag U am) (by simp) λan ap D aK=>ah an ?_
  refine⟨λb=>b=e.size\/W.ag=some b,?_,?_,?_,rfl,W,by simpa using ap,?_,λ_=>CI,?_⟩
  ·rintro b (rfl|a)
   ·exact .inl ((f _).2 (.inl rfl))
   ·rcases C b a with n|n
    ·exact .inl ((f _).2 (.inr n))
    ·exact .inr (by omega)
  ·have aq:Mod (λb=>N b\/b=o.size+1) p A:=u.mod.trans (t.aj λb _ a=> .inr a);have ar:Mod (λb=>N b\/b=o.size+1) p X:=aq.trans (v.aj λb _ a=> .inl ((f _).2 (.inr a)));exact ar.trans (D.aj λb _ a=> .inl ((f _).2 (.inl a)))
  ·refine D.ag (v.ag aj (λd=>Q ((f _).2 (.inr d)))) (by omega)
  ·have au:=Y.mod D (λc j d=>by
    rcases C c j with n|n
    ·have:=k _ n;omega
    ·omega)
   rw[AD,O];exact au
  ·intro b a;have:=v.size;have aL:b<X.size:=by
    rcases Y.row with⟨rfl,_⟩|⟨g,av,F,w,_⟩
    ·simp[Sl.ag] at a
    ·simp[Sl.ag,F] at a;subst a;exact Ai w
   refine⟨by omega,?_⟩;rcases C b a with n|n
   ·exact(k _ n).2
   ·omega
 ·rintro O' h ⟨_,s,q,r,f,k⟩ Z _ aM ab;have aN:=Z.size;refine Aa.mk (AL q rfl) ⟨ab,?_⟩;rw[Bk] at r;have aw:s.ag≠some o.size:=λd=>by
   rcases r.row with⟨rfl,_⟩|⟨g,av,F,w,_⟩
   ·simp[Sl.ag] at d
   ·simp[Sl.ag,F] at d;rw[d,ab] at w;cases w
  refine ac s _ (r.mod (Mod.setObj (S:=λc=>c=o.size) rfl) λc j d=>aw (d▸j)) (λc j=>by have:=k _ j;omega) ?_;exact(ad h Z).then (Mod.setObj (.inr (by omega)))
 ·rintro i aO O' h ⟨d,_⟩;cases d
theorem Wq {e:al}{d f:aa}{fv:J0}{g:Nat->Prop}{l:List Pr}{h:A2J}(i:ES e P fv g f l)(j: ∀b,g b->d[b]? =f[b]?)(k:l.length<=1099511627776)
  (m: ∀s a,Own BM AQ a s l->(∀ c,s.ag=some c->d.size<=c)->Ext d a->h (J4 s.p s.len s.cap) a):AA e P Cw #[fv] d h:=by
 refine Mm ?_;unfold Ic;exact AGj i j k λs a n o p=>⟨s,rfl,m s a n o p⟩
def BC(l:List Pr):List Pr:=l.filter λx=> !x.gone
theorem vG {b:Type}{p:b->Bool}: ∀ {l:List b} {i:Nat} {x:b},l[i]? =some x->p x=true->(l.filter p)[((l.take i).filter p).length]? =some x
 | [],i,x,a,_=>by simp at a
 |y::l,0,x,a,c=>by simp at a;subst a;simp[c]
 |y::l,i+1,x,a,c=>by
  have d:=vG (p:=p) (l:=l) (i:=i) (by simpa using a) c;rw[I0,AS,AS];split
  ·simpa using d
  ·exact d
theorem AEx {a:Type}{p:a->Bool}(l:List a)(i:Nat):((l.take i).filter p).length<=(l.filter p).length:=((List.take_sublist i l).filter p).length_le
theorem APo {Y:al}{D:aa}{b:Nat}{T:Q7}{fr:Nat×Nat}{fv:J0}{z:Nat->Prop}{l:List Pr}(a:D[b]? =some (J2 #[fv] T fr))(h:(fv= .nilFunc/\l= []/\ ∀c,¬z c)\/ES Y P fv z D l):
  ES Y P (.func (.func O8) #[] #[J5 (some ⟨b,0,none⟩)]) (λc=>z c\/c=b) D (BC l):=by
 have aw:=Ai a;refine⟨?_,_,_,rfl,λZ=>by kernel_rfl,λd E Z w F ax hd hB ay G=>?_⟩
 ·rintro c (n|rfl)
  ·rcases h with h|h
   ·exact absurd n (h.2.2 c)
   ·exact h.1 c n
  ·exact aw
 rw[qM];refine ABb ?_;unfold Un;refine ZZ.mk ax (ao.mk λu _ az q aJ=>?_);have ab:u[b]? =some (J2 #[fv] T fr):=by have r:=(E b (.inr rfl)).trans a;exact q.ag r (by simp)
 refine Sk.mk (AL ab rfl) ?_;rcases h with⟨rfl,rfl,_⟩|h
 ·refine⟨trivial,af.yes rfl ?_⟩;exact⟨rfl,0,true,F,q.mod,λb a=> .inl a,hB.bj _ _ _ _ _ G (q.aj λ_ _ d=>d.elim),λ_=>rfl,by simp⟩
 ·refine⟨h.one.2.1,af.no h.one.2.2 ?_⟩;refine Sk.mk (AL ab rfl) ?_;have aA:=hB.wf _ _ _ _ G;have aC: ∀b,z b->b<d.size:=λb a=>by
   have:=E b (.inl a);rw[Fo (h.1 b a)] at this;exact Ai this
  have aD:=hB.bj _ _ _ _ _ G (q.aj (S':=λb=>¬F b/\d.size<=b) λ_ _ d=>d.elim);refine Xd h (λc n=>(q.get c (aC c n) (by simp)).trans (E c (.inl n)))
   (λi c e j=>j[d.size]? =some (J2 #[Z] Mk (0,0))/\ ¬e d.size/\match c with
    |none=>w (BC (l.take i)).length true e j
    |some ac=>ac=none/\ ∃s,s<=(BC l).length/\w s false e j)
   F (λc n=>hd c (.inl n)) ?_ ?_ ?_ ?_ ?_ ?_
  ·rintro i c e j ⟨_,_,f⟩;cases c
   ·exact hB.wf _ _ _ _ f
   ·obtain⟨_,s,_,H⟩:=f;exact hB.wf _ _ _ _ H
  ·rintro i c e j I ⟨r,t,f⟩ m;refine⟨m.ag r (λd=>by omega),t,?_⟩;have ad:Mod (λb=>¬e b/\d.size<=b) j I:=m.aj λb _ a=>⟨a.1,by omega⟩
   cases c
   ·exact hB.bj _ _ _ _ _ f ad
   ·obtain⟨H,s,J,aE⟩:=f;exact⟨H,s,J,hB.bj _ _ _ _ _ aE ad⟩
  ·exact⟨az,λd=>by have:=aA _ d;omega,aD⟩
  ·rintro i x e j rec aK aL L ⟨r,t,f⟩ M aM aF aG ae aH;refine ao.pair λaN ag aO aI N aP=>?_
   refine⟨rec,N.ag aF (by simp),aG,?_⟩;generalize k:ag.setIfInBounds (u.size+1) (.loop {rec with state:= .busy})=v;have y:Mod (λb=>b=u.size+1) ag v:=k▸Mod.setObj rfl;have O:v[u.size+1]? =some (.loop {rec with state:= .busy}):=by rw[<- k];exact Cg (by omega)
   have A:=y.ag aI (by omega);have Q:=y.ag (N.ag r (by simp)) (by omega);have R:Mod (λb=>b=u.size+1) j v:=(Ext.mod N).trans y;have ah:w (BC (l.take i)).length true e v:=hB.bj _ _ _ _ _ f (R.aj λb _ a=>by subst a;exact⟨M,by omega⟩);have aj:BC (l.take (i+1))=BC (l.take i)++BC [x]:=by rw[AD,L];simp[BC]
   refine ai.mk λK ak=>?_
   refine AZ.mk (AB A rfl) ?_;refine af.intro (λo=>?_) (λo=>?_)
   ·have o:(!x.gone)=true:=o;refine Sk.mk (AL Q rfl) ?_;refine AJ.mk (AL A rfl) (AJ.mk (AB A rfl) (AZ.mk (AB A rfl) ?_));refine Eh.mono (ay _ _ e v (vG (p:=λx:Pr=> !x.gone) L o) ah) ?_;rintro _ S ⟨g,B,rfl,am,C,an⟩;refine⟨g,rfl,ak _ _ ?_⟩;have aQ:=AEx (p:=λx:Pr=> !x.gone) l (i+1);have ap:(BC (l.take (i+1))).length=(BC (l.take i)).length+1:=by rw[aj];simp only[BC,A1];simp[o]
    have aq:=C.ag Q t;have ar: ¬B d.size:=λn=>(am _ n).elim t λd=>by have:=y.size;omega
    have au:Mod (λb=>e b\/b=u.size+1) j S:=(R.aj λb _ a=> .inr a).trans (C.aj λb _ a=> .inl a);have av: ∀b,B b->e b\/j.size<=b:=λb a=>(am b a).elim .inl λd=> .inr (by have:=y.size;omega)
    refine af.intro (λk=>aH none S ?_) (λk=>ae S ?_)
    ·have k:g=false:=by simpa using k
     subst k;exact⟨B,av,au,C.ag O M,aq,ar,rfl,_,by have:=ap;unfold BC at *;omega,an⟩
    ·have k:g=true:=by simpa using k
     subst k;exact⟨B,av,au,C.ag O M,aq,ar,by show w _ _ _ _;rw[ap];exact an⟩
   ·have o:(!x.gone)=false:=o;refine ak _ _ (af.no rfl (ae v ?_));refine⟨e,λb a=> .inl a,R.aj λb _ a=> .inr a,O,Q,t,?_⟩;show w _ _ _ _;have:BC [x]= []:=by simp at o;simp[BC,o]
    rw[aj,this,AM];exact ah
  ·rintro O' I ⟨r,t,f⟩ U V W X;refine⟨X,rfl,(BC l).length,true,O',?_,?_,?_,λ_=>rfl,A0 _⟩
   ·exact(q.mod.trans U).then (Mod.setObj (.inr (by omega)))
   ·intro b a;exact(W b a).elim .inl λd=> .inr (by omega)
   ·rw[Bk] at f;exact hB.bj _ _ _ _ _ f (Mod.setObj ⟨V,by omega⟩)
  ·rintro i ac O' I ⟨r,t,rfl,s,J,f⟩ L U V W X;refine⟨X,rfl,s,false,O',?_,?_,?_,(λd=>by cases d),J⟩
   ·exact(q.mod.trans U).then (Mod.setObj (.inr (by omega)))
   ·intro b a;exact(W b a).elim .inl λd=> .inr (by omega)
   ·exact hB.bj _ _ _ _ _ f (Mod.setObj ⟨V,by omega⟩)
theorem sN {f:al}{d:aa}{fv:J0}{g:Nat->Prop}{l:List Pr}{i:A2J}(a:(fv= .nilFunc/\l= []/\ ∀c,¬g c)\/ES f P fv g d l)
  (m: ∀j e,ES f P j (λc=>g c\/c=d.size) e (BC l)->Ext d e->e.size=d.size+1->i j e):AA f P N7 #[fv] d i:=by
 refine AEZ ?_;unfold Yf;refine ZZ.mk ?_ (ao.mk λn _ o k p=>?_)
 ·rcases a with a|a
  ·rw[a.1];rfl
  ·exact a.one.1
 ·refine m _ n (APo o ?_) k p;rcases a with a|a
  ·exact .inl a
  ·exact .inr (a.aj (λ_=>id) (λb h=>by have:=a.1 b h;omega) (λb h=>k.get b (a.1 b h) (by simp)))
def RS(a:A2K)(x:Pr):Bool:=decide (a=⟨#[]⟩)||aN x.key a
def Pt(a:A2K)(b:Int)(l:List Pr):List Pr:=(l.takeWhile (RS a)).take b.toNat
theorem nW {b:Type}{p:b->Bool}: ∀ {l:List b} {i:Nat},i<=(l.takeWhile p).length->(l.takeWhile p).take i=l.take i
 | [],i,_=>by simp
 |y::l,0,_=>by simp
 |y::l,i+1,a=>by
  rw[Mb] at a ⊢;split at a
  ·rename_i c;simp only[c,if_true,I0];rw[nW (by simpa using a)]
  ·simp at a
theorem Qy: ∀(a:List UInt8),Op.bytesLess a a=false
 | []=>rfl
 |a::x=>by simp[Op.bytesLess,Qy x]
theorem mg: ∀(a b:List UInt8),Op.bytesLess a b=false->Op.bytesLess b a=false->a=b
 | [],[],_,_=>rfl
 | [],_::_,c,_=>by simp[Op.bytesLess] at c
 |_::_,[],_,c=>by simp[Op.bytesLess] at c
 |a::x,b::f,d,e=>by
  simp only[Op.bytesLess,GC,A01,decide_eq_false_iff_not,beq_eq_false_iff_ne] at d e;have g:a=b:=by grind
  subst g;rw[mg x f (d.2.resolve_left (by simp)) (e.2.resolve_left (by simp))]
theorem Tm: ∀(a b c:List UInt8),Op.bytesLess a b=true->Op.bytesLess b c=true->Op.bytesLess a c=true
 |_,[],_,f,_=>by simp[Op.bytesLess] at f
 |_,_::_,[],_,f=>by simp[Op.bytesLess] at f
 | [],_::_,_::_,_,_=>by simp[Op.bytesLess]
 |a::x,b::g,c::z,e,d=>by
  simp only[Op.bytesLess,Ds,A3,decide_eq_true_eq,beq_iff_eq] at e d ⊢;rcases e with e|⟨rfl,e⟩
  ·grind
  ·rcases d with d|⟨rfl,d⟩
   ·exact .inl d
   ·exact .inr ⟨rfl,Tm x g z e d⟩
theorem CX(a:A2K):aN a a=false:=Qy _
theorem DX {a b c:A2K}(d:aN a b=true)(e:aN b c=true):aN a c=true:=Tm _ _ _ d e
theorem OD {a b:A2K}(d:aN a b=false)(e:aN b a=false):a=b:=by
 have:=mg _ _ d e;have c:bQ a b=true:=by simp[bQ,this]
 rw[Cn] at c;simpa using c
theorem OZ {a b:A2K}(c:aN a b=true):aN b a=false:=by grind [aN,DX,CX]
theorem nX {a b c:A2K}(d:aN a b=true)(e:aN c b=false):aN a c=true:=by grind [aN,OD,DX]
theorem Zv {a b c:A2K}(d:aN b a=false)(e:aN c b=false):aN c a=false:=by grind [aN,nX]
def upto(p a:Pr):Bool:=aN a.key p.key||bQ a.key p.key
def I6(p:Pr)(l:List Pr):List Pr:=l.dropWhile (upto p)
inductive MB:List (List Pr)->List Pr->Prop
 |done {ls:List (List Pr)} (h: ∀l,l∈ls->l= []):MB ls []
 |step {ls:List (List Pr)} {k:Nat} {p:Pr} {t out:List Pr} (hk:ls[k]? =some (p::t))
   (hmin: ∀j q u,ls[j]? =some (q::u)->aN q.key p.key=false/\(j<k->aN p.key q.key=true)) (hm:MB (ls.map (I6 p)) out):MB ls (p::out)
theorem MB.iz {a:List (List Pr)}{out:List Pr}(m:MB a out)(b: ∀l,l∈a->l= []):out= []:=by
 cases m with
 |done _=>rfl
 |step c d e=>have:=b _ (AK c);cases this
theorem MB.gA {a:List (List Pr)}{out:List Pr}(m:MB a out){c:Nat}{p:Pr}{t:List Pr}(f:a[c]? =some (p::t))
  (h: ∀d b u,a[d]? =some (b::u)->aN b.key p.key=false/\(d<c->aN p.key b.key=true)): ∃e,out=p::e/\MB (a.map (I6 p)) e:=by
 cases m with
 |done g=>have:=g _ (AK f);cases this
 | @step _ i j k l n o q=>
  grind
theorem sF {d:Type}: ∀(a:List d) (b i:Nat) (v:d),(a.set i v).take b=(a.take b).set i v
 | [],b,i,v=>by simp
 |c::a,0,i,v=>by simp
 |c::a,b+1,0,v=>by simp
 |c::a,b+1,i+1,v=>by simp[sF a b i v]
end Go.Lf.G.M
namespace Go.Lf
open G
theorem Own.ju {T:Q7}{d:aa}{s:Sl}{l:List Sl}(e:Own ig T d s l){i:Nat}(y:i<l.length){x:Sl}{K:aa->Prop}{a:Q6}(f:s.p=some a)
  (q: ∀c,Own ig T c s (l.set i x)->Mod (λb=>s.ag=some b) d c->c.size=d.size->K c):ae d (a.add (i*1)) (J4 x.p x.len x.cap) K:=by
 rcases e.row with⟨rfl,_⟩|⟨g,z,h,r,t,u,n,o⟩
 ·simp at f
 ·rw[h] at f;cases f;rw[Be,AI,Bs];have j:ig.w=1:=rfl;rw[j,Bs] at n o;have A:=e.len;refine ae.mk r (by omega) λc k m v=>q c ⟨by simpa using e.len,.inr ⟨g,_,h,k,t,u,by simp[n,j],?_⟩⟩ (m.aj λb _ k=>by simp[Sl.ag,h,k]) v
  rw[j,Bs,DQ,Go.Lf.G.M.sF,o];have p: ∀l:List Sl,l.flatMap ig.enc=l.map (λs=>Value.slice s.p s.len s.cap):=λl=>by
   induction l with
   |nil=>rfl
   |cons B l w=>rw[AF,w];rfl
  rw[p,p,Pc]
end Go.Lf
namespace Go.Lf.G.M
open Go Go.Lf Go.Lf.G
structure j8 (lo:Nat) (h:aa) (O:Nat->Prop) (t:Sl) (sls:List Sl) (ls:List (List Pr)):Prop where
 len:sls.length=ls.length
 row: ∀(j:Nat) (sl:Sl) (l:List Pr),sls[j]? =some sl->ls[j]? =some l->View BM h sl l/\l.length<=1099511627776/\ ∀c,sl.ag=some c->lo<=c/\c<h.size/\t.ag≠some c/\ ¬O c
theorem j8.mod {f:Nat}{b j:aa}{g O':Nat->Prop}{t t':Sl}{k:List Sl}{n:List (List Pr)}{o:Nat->Prop}(p:j8 f b g t k n)(m:Mod o b j)(q: ∀c,f<=c->c<b.size->t.ag≠some c-> ¬g c-> ¬o c)
  (r: ∀c,c<b.size->t'.ag=some c->t.ag=some c) (s: ∀c,c<b.size->O' c->g c):j8 f j O' t' k n:=
 ⟨p.len,λu sl l h e=>by
  obtain⟨v,w,d⟩:=p.row u sl l h e;refine⟨v.mod m λc a=>q c (d c a).1 (d c a).2.1 (d c a).2.2.1 (d c a).2.2.2,w,λc a=>?_⟩;obtain⟨h,e,x,y⟩:=d c a;have:=m.size;exact⟨h,by omega,λi=>x (r c e i),λi=>y (s c e i)⟩⟩
end Go.Lf.G.M
namespace Go.Lf
open G
theorem View.val {b:aa}{s:Sl}{c:List ij}(v:View jS b s c){i:Nat}{x:ij}(d:c[i]? =some x): ∃a,s.p=some a/\ah b (a.add (i*1))=some x.v:=by obtain⟨a,e,f⟩:=v.cells i x d;exact⟨a,e,f.val⟩
end Go.Lf
namespace Go.Lf.G.M
open Go Go.Lf Go.Lf.G
theorem ARF {a7:al}{ad:aa}{b:Nat}{T:Q7}{fr:Nat×Nat}{s:Sl}{S:Nat->Prop}{I:List ij}{os:List (Option (List Pr))}{out:List Pr}(B:ad[b]? =some (J2 #[J4 s.p s.len s.cap] T fr))(v:View jS ad s I)
  (a8:I.length<=1099511627776) (bF:os.length=I.length)
  (bG: ∀(i:Nat) (v:ij),I[i]? =some v->(v.v= .nilFunc/\os[i]? =some none)\/ ∃l,os[i]? =some (some l)/\ES a7 P v.v S ad l/\l.length<=1099511627776) (bH:MB (os.filterMap id) out) (cj: ∀b,S b->b<ad.size):
  ES a7 P (.func (.func QT) #[] #[J5 (some ⟨b,0,none⟩)]) (λc=>S c\/(c<ad.size/\(c=b\/s.ag=some c))) ad out:=by
 have bI:=Ai B;refine⟨?_,_,_,rfl,λbJ=>by kernel_rfl,λf a9 bJ aK R ck hd hB bK ba=>?_⟩
 ·grind
 rw[qM];refine ADf ?_;unfold V8;have bL:=hB.wf _ _ _ _ ba;have bM:f[b]? =some (J2 #[J4 s.p s.len s.cap] T fr):=(a9 b (.inr ⟨bI,.inl rfl⟩)).trans B;have bN: ∀i x,I[i]? =some x-> ∃a,s.p=some a/\ah f (a.add (i*1))=some x.v:=λi x hi=>by
  obtain⟨a,bb,N⟩:=v.val hi
  grind [VN,aU,Sl.ag,Qn,trans]
 have bO: ∀c,S c->c<f.size:=λc k=>by
  grind
 refine Aa.mk (AL bM rfl) ?_;refine Loop.rule (λm x J=> ∃(i:Nat) (t:Sl) (z:List Sl),x=(t,(i:Int),())/\m=I.length-i/\i<=I.length/\Ext f J/\Own ig AR J t z/\(∀ c,t.ag=some c->f.size<=c)/\j8 f.size J R t z ((os.take i).filterMap id)/\z.length<=i) ?_
  ⟨0,⟨none,0,0⟩,[],rfl,rfl,by omega,Mod.refl,Own.nil,λc k=>by simp[Sl.ag] at k,⟨by simp,λe sl l f=>by simp at f⟩,by simp⟩
 rintro K m _ J ⟨i,t,z,rfl,rfl,hi,M,C,ap,L,bc⟩ aq;refine af.intro (λr=>?_) (λr=>?_)
 ·have aA:i<I.length:=by simp[v.len] at r;omega
  have bd:=A2 aA;refine ai.mk λcl be=>?_
  obtain⟨a,bb,N⟩:=bN i _ bd;refine bE.mk bb (by rw[v.len];exact aA) ?_;refine Sk.mk (M.ah N) ?_;rcases bG i _ bd with⟨bf,aL⟩|⟨l,aL,aM,bg⟩
  ·refine⟨by rw[bf];trivial,af.no (by rw[bf];rfl) ?_⟩;refine be _ _ (aq (I.length-(i+1)) _ _ (by omega) ⟨i+1,t,z,by rw[Ab (by omega)],rfl,by omega,M,C,ap,?_,by omega⟩);have:(os.take (i+1)).filterMap id=(os.take i).filterMap id:=by rw[AD,aL];simp
   rw[this];exact L
  ·refine⟨aM.one.2.1,af.yes (by rw[aM.one.2.2];rfl) ?_⟩;refine Wq aM (λc k=>(M.get c (bO c k) (by simp)).trans (a9 c (.inl k))) bg λar W aO aC aD=>⟨ar,rfl,?_⟩
   refine ao.aZ (E:=ig) (x:=ar) rfl AN4 (C.ext aD) (by omega) (by simp[maxLen];omega) λbh bP bR aE aP _=>?_
   have bS:Ext f bP:=(M.trans aD).then (aE.aj λc _ k=> .inr (ap c k));refine be _ _ (aq (I.length-(i+1)) _ _ (by omega) ⟨i+1,bh,_,by rw[Ab (by omega)],rfl,by omega,bS,bR,?_,?_,?_⟩)
   ·intro c k;rcases aP c k with h|h
    ·exact ap c h
    ·have:=M.size;have:=aD.size;omega
   ·have G:(os.take (i+1)).filterMap id=(os.take i).filterMap id++ [l]:=by rw[AD,aL];simp
    rw[G];have aF:=(L.mod aD (λc _ _ _ _ f=>f) (λc _ f=>f) (λc _ f=>f)).mod (t':=bh) aE (λc _ _ O _=>O) (λc k h=>(aP c h).elim id λq=>by omega) (λc _ f=>f);refine⟨by simp[aF.len],λe sl H h q=>?_⟩;rcases IS e z.length with A|A|A
    ·rw[Ge A] at h;rw[Ge (by rw[<- aF.len];exact A)] at q;exact aF.row e sl H h q
    ·subst A;rw[A02] at h;rw[aF.len,A02] at q;cases h;cases q;have cm:t.ag≠ar.ag\/ar.ag=none:=by
      cases aG:ar.ag with
      |none=>exact .inr rfl
      |some c=>
       refine .inl λG=>?_
       have:=C.lt G;have:=aC c aG;omega
     refine⟨(aO.view).mod aE λc k O=>?_,bg,λc k=>⟨?_,?_,?_,?_⟩⟩
     ·grind
     ·have:=aC c k;have:=M.size;omega
     ·have:=aO.lt k;have:=aE.size;omega
     ·intro h;have:=aO.lt k;rcases aP c h with q|q
      ·have:=C.lt q;have:=aC c k;omega
      ·omega
     ·intro h;have:=bL c h;have:=aC c k;have:=M.size;omega
    ·rw[Lz (by simp;omega)] at h;cases h
   ·simp;omega
 ·have aA:i=I.length:=by simp[v.len] at r;omega
  rw[aA,<-bF,Bk] at L;have bi:=hB.bj _ _ _ _ _ ba (M.aj (S':=λb=>¬R b/\f.size<=b) λ_ _ f=>f.elim);refine Loop.rule (λm _ J=> ∃(i:Nat) (D:Nat->Prop) (z:List Sl) (j:List (List Pr)) (ae:List Pr),MB j ae/\m=ae.length/\(∀ n,out[i+n]? =ae[n]?)/\i+ae.length=out.length/\Mod R f J/\(∀ b,D b->R b\/f.size<=b)/\aK i true D J/\
    Own ig AR J t z/\(∀ c,t.ag=some c-> ¬D c)/\j8 f.size J D t z j/\z.length<=1099511627776) ?_
   ⟨0,R,z,_,out,bH,rfl,λn=>by rw[AI],by omega,M.mod,λb B=> .inl B,bi,C,λc k O=>by grind,L,by omega⟩
  clear aq L M C bc bi;rintro cn m _ J ⟨i,D,z,j,ae,bj,rfl,bk,bm,aQ,aR,A,C,aS,L,bc⟩ aq;have co:=hB.wf _ _ _ _ A;refine Loop.rule (λm x aH=> ∃(d:Nat) (X:Int),x=(X,(d:Int),())/\aH=J/\m=j.length-d/\d<=j.length/\((X= -1/\ ∀e l,e<d->j[e]? =some l->l= [])\/
   ∃n p u,X=(n:Nat)/\n<d/\j[n]? =some (p::u)/\ ∀e o y,e<d->j[e]? =some (o::y)->aN o.key p.key=false/\(e<n->aN p.key o.key=true))) ?_
   ⟨0,-1,rfl,rfl,rfl,by omega,.inl ⟨rfl,λe l f=>by omega⟩⟩
  rintro cp m _ aH ⟨d,X,rfl,bT,rfl,O,aT⟩ aV;subst bT;have cq:=L.len;refine af.intro (λr=>?_) (λr=>?_)
  ·have U:d<j.length:=by simp[C.len] at r;omega
   have F:=A2 U;have Y:=A2 (l:=z) (i:=d) (by omega);obtain⟨Z,bn,_⟩:=L.row d _ _ Y F;refine ai.mk λcr bo=>?_
   refine C.view.idx Y λcs _ c2=>?_
   refine Aa.mk c2.sl ?_;refine ai.mk λbp bq=>?_
   have br:((X= -1/\ ∀e l,e<d+1->j[e]? =some l->l= [])\/
     ∃n p u,X=(n:Nat)/\n<d+1/\j[n]? =some (p::u)/\ ∀e o y,e<d+1->j[e]? =some (o::y)->aN o.key p.key=false/\(e<n->aN p.key o.key=true))->bp (false,()) aH:=λG=>
    bq _ _ (af.no rfl (bo _ _ (aV (j.length-(d+1)) _ _ (by omega) ⟨d+1,X,by rw[Ab (by omega)],rfl,rfl,by omega,G⟩)))
   have bs:(∃ n p u,(d:Int)=(n:Nat)/\n<d+1/\j[n]? =some (p::u)/\ ∀e o y,e<d+1->j[e]? =some (o::y)->aN o.key p.key=false/\(e<n->aN p.key o.key=true))->bp (true,()) aH:=λG=>
    bq _ _ (af.yes rfl (bo _ _ (aV (j.length-(d+1)) _ _ (by omega) ⟨d+1,d,by rw[Ab (by omega)],rfl,rfl,by omega,.inr G⟩)))
   refine af.intro (λr=>?_) (λr=>?_)
   ·cases ag:j[d] with
    |nil=>rw[ag] at Z;have:=Z.len;simp[this] at r
    |cons o y=>
     rw[ag] at Z F;rcases aT with⟨rfl,au⟩|⟨n,p,u,rfl,bt,ab,aj⟩
     ·refine af.yes (by simp) (bs ⟨d,o,y,rfl,by omega,F,λe ak am A w=>?_⟩);rcases Ft e d with h|h
      ·have:=au e _ h w;cases this
      ·have:e=d:=by omega
       subst this;rw[F] at w;cases w;exact⟨CX _,λf=>by omega⟩
     ·refine af.no (by simp) ?_;refine Z.idx (i:=0) (x:=o) rfl λct _ c3=>?_
      refine AJ.mk c3.pair.1 ?_;have av:=A2 (l:=z) (i:=n) (by omega);obtain⟨aW,_,_⟩:=L.row n _ _ av ab;refine C.view.idx av λbU _ aX=>?_
      refine Aa.mk aX.sl ?_;refine aW.idx (i:=0) (x:=p) rfl λbV _ aw=>?_
      refine AJ.mk aw.pair.1 ?_;cases aG:aN o.key p.key
      ·refine br (.inr ⟨n,p,u,rfl,by omega,ab,λe ak am A w=>?_⟩);rcases Ft e d with h|h
       ·exact aj e ak am h w
       ·have:e=d:=by omega
        subst this;rw[F] at w;cases w;exact⟨aG,λf=>by omega⟩
      ·refine bs ⟨d,o,y,rfl,by omega,F,λe ak am A w=>?_⟩;rcases Ft e d with h|h
       ·have q:=(aj e ak am h w).1;have W:=nX aG q;exact⟨OZ W,λ_=>W⟩
       ·have:e=d:=by omega
        subst this;rw[F] at w;cases w;exact⟨CX _,λf=>by omega⟩
   ·have ag:j[d]= []:=by
     have:=Z.len;cases ag:j[d] with
     |nil=>rfl
     |cons o y=>rw[ag] at this;simp[this] at r
    rw[ag] at F;refine br ?_;rcases aT with⟨rfl,au⟩|⟨n,p,u,rfl,bt,ab,aj⟩
    ·refine .inl ⟨rfl,λe l A w=>?_⟩;rcases Ft e d with h|h
     ·exact au e l h w
     ·have:e=d:=by omega
      subst this;rw[F] at w;cases w;rfl
    ·refine .inr ⟨n,p,u,rfl,by omega,ab,λe ak am A w=>?_⟩;rcases Ft e d with h|h
     ·exact aj e ak am h w
     ·have:e=d:=by omega
      subst this;rw[F] at w;cases w
  ·have U:d=j.length:=by simp[C.len] at r;omega
   subst U;clear aV;rcases aT with⟨rfl,au⟩|⟨n,p,u,rfl,bt,ab,aj⟩
   ·refine af.yes (by simp) ?_;have:ae= []:=bj.iz λl a8=>by
     obtain⟨e,A,G⟩:=Dd a8;exact au e l A (by grind)
    subst this;refine⟨rfl,i,true,D,aQ,aR,A,λ_=>by omega,by omega⟩
   ·refine af.no (by simp) ?_;have bW: ∀e o y,j[e]? =some (o::y)->aN o.key p.key=false/\(e<n->aN p.key o.key=true):=λe o y N=>aj e o y (List.getElem?_eq_some_iff.1 N).1 N
    obtain⟨bu,rfl,bX⟩:=bj.gA ab bW;have av:=A2 (l:=z) (i:=n) (by omega);obtain⟨aW,_,_⟩:=L.row n _ _ av ab;refine C.view.idx av λbU _ aX=>?_
    refine Aa.mk aX.sl ?_;refine aW.idx (i:=0) (x:=p) rfl λbV _ aw=>?_
    refine AJ.mk aw.pair.1 (AJ.mk aw.pair.2.1 (AZ.mk aw.pair.2.2 ?_));refine ao.pair λbY aY cu bZ aI cv=>?_
    have b0:=C.ext aI;have b1:j8 f.size aY D t z j:=L.mod aI (λc _ _ _ _ f=>f) (λc _ f=>f) (λc _ f=>f);have b2:aK i true D aY:=hB.bj _ _ _ _ _ A (aI.aj (S':=λb=>¬D b/\f.size<=b) λ_ _ f=>f.elim);have b3:t.ag≠some bY:=λG=>by have:=C.lt G;omega
    refine Loop.rule (λm x Q=> ∃(d:Nat) (V:List Sl),x=((d:Int),())/\m=j.length-d/\d<=j.length/\Mod (λc=>t.ag=some c) aY Q/\Own ig AR Q t V/\j8 f.size Q D t V ((j.take d).map (I6 p)++j.drop d)) ?_
     ⟨0,z,rfl,rfl,by omega,Mod.refl,b0,by simpa using b1⟩
    rintro cw m _ Q ⟨d,V,rfl,rfl,O,ax,an,ay⟩ b4;have b5:V.length=j.length:=by have:=ay.len;simp at this;omega
    have aJ:=ax.ag bZ b3;refine af.intro (λr=>?_) (λr=>?_)
    ·have U:d<j.length:=by grind
     have Y:=A2 (l:=V) (i:=d) (by omega);have F:((j.take d).map (I6 p)++j.drop d)[d]? =some j[d]:=by rw[F2 (by simp;omega)];simp;rw[Fk (by omega),LI];simp[U]
     obtain⟨Z,bn,cx⟩:=ay.row d _ _ Y F;refine an.view.idx Y λcy cz b6=>?_
     refine Aa.mk b6.sl ?_;refine Loop.rule (λm x aZ=> ∃(az:Sl) (H:List Pr),x=(az,())/\aZ=Q/\m=H.length/\View BM Q az H/\(∀ c,az.ag=some c->V[d].ag=some c)/\I6 p H=I6 p j[d]/\H.length<=1099511627776) ?_
      ⟨_,_,rfl,rfl,rfl,Z,λc f=>f,rfl,bn⟩
     rintro cB m _ aZ ⟨az,H,rfl,b7,rfl,ac,a0,bv,bw⟩ b8;subst b7;refine ai.mk λb9 bx=>?_
     have bz:I6 p H=H->b9 (false,()) aZ:=λG=>bx _ _ (af.no rfl (by
      refine an.view.idx Y λcC ca _=>?_
      refine an.ju (i:=d) (by omega) ca λcb cc a1 cD=>?_
      refine b4 (j.length-(d+1)) _ _ (by omega) ⟨d+1,_,by rw[Ab (by omega)],rfl,by omega,ax.trans a1,cc,?_⟩;have a2:j8 f.size cb D t V ((j.take d).map (I6 p)++j.drop d):=ay.mod a1 (λc _ _ O _=>O) (λc _ f=>f) (λc _ f=>f);refine⟨?_,λe sl l h q=>?_⟩
      ·simp[b5];omega
      ·rcases IS e d with a3|a3|a3
       ·rw[IT (by omega)] at h;refine a2.row e sl l h ?_;rw[Ge (by simp;omega)] at q ⊢;rw[C5,A03 (by omega)] at q ⊢;exact q
       ·subst a3;rw[HN (by omega)] at h;cases h;rw[Ge (by simp;omega),C5,A03 (by omega),A2 U] at q;simp at q;subst q;rw[<- bv,G];obtain⟨_,_,k⟩:=a2.row e _ _ Y F;exact⟨ac.mod a1 λc B=>(k c (a0 c B)).2.2.1,bw,λc B=>k c (a0 c B)⟩
       ·rw[IT (by omega)] at h;refine a2.row e sl l h ?_;rw[F2 (by simp;omega)] at q ⊢;simp only[B9,As,BY] at q ⊢;rw[<- q];congr 1;omega))
     refine af.intro (λr=>?_) (λr=>?_)
     ·cases H with
      |nil=>have:=ac.len;simp[this] at r
      |cons o y=>
       refine ac.idx (i:=0) (x:=o) rfl λcE _ cd=>?_
       refine AJ.mk cd.pair.1 (AJ.mk (AL aJ rfl) ?_);cases bA:(aN o.key p.key||bQ o.key p.key)
       ·exact bz (by simp[I6,upto,bA])
       ·have ce:=ac.len;simp at ce bw;refine bx _ _ (af.yes rfl ⟨⟨by omega,by show(1:Int)<=((az.len:Nat):Int);omega⟩,b8 y.length _ _ (by simp) ⟨_,y,rfl,rfl,rfl,?_,?_,?_,by omega⟩⟩)
        ·have:=ac.sub (lo:=1) (hi:=(o::y).length) (by simp) (A0 _);rw[Bk,<-ac.len] at this;exact this
        ·intro c k;exact a0 c (qJ k)
        ·rw[<- bv];simp[I6,upto,bA]
     ·have:H= []:=by
       have:=ac.len;cases H with
       |nil=>rfl
       |cons o y=>simp[this] at r
      subst this;exact bz rfl
    ·have U:d=j.length:=by simp[an.len] at r;omega
     subst U;rw[Bk,OR,AM] at ay;refine AJ.mk (AL aJ rfl) (AJ.mk (AB aJ rfl) (AZ.mk (AB aJ rfl) ?_));have cf:aK i true D Q:=hB.bj _ _ _ _ _ b2 (ax.aj λc _ k=>⟨aS c k,ap c k⟩);have cg:out[i]? =some p:=by have:=bk 0;simpa using this
     refine Eh.mono (bK i p D Q cg cf) ?_;rintro _ ch ⟨g,a4,rfl,a5,a6,bB⟩;have cF:=ax.size;have cG:=aQ.size;have bC: ∀b,a4 b->R b\/f.size<=b:=λb B=>(a5 b B).elim (aR b) λcH=> .inr (by omega)
     have ci:Mod R f Q:=(aQ.trans aI.mod).then (ax.aj λb _ B=> .inr (ap b B));have bD:Mod R f ch:=ci.then (a6.aj λb _ B=>aR b B);refine⟨g,rfl,af.intro (λr=>?_) (λr=>?_)⟩
     ·have N:g=false:=by simpa using r
      subst N;exact⟨rfl,i+1,false,a4,bD,bC,bB,(λf=>by cases f),by simp at bm;omega⟩
     ·have N:g=true:=by simpa using r
      subst N;refine aq bu.length _ _ (by simp) ⟨i+1,a4,V,_,bu,bX,rfl,λn=>?_,by simp at bm;omega,bD,bC,bB,an.mod a6 (λc k=>aS c k),?_,?_,by omega⟩
      ·have:=bk (n+1);rw[show i+1+n=i+(n+1) by omega,this];rfl
      ·intro c k q;rcases a5 c q with W|W
       ·exact aS c k W
       ·have:=an.lt k;omega
      ·exact ay.mod a6 (λc _ _ _ O=>O) (λc _ f=>f) (λc k q=>(a5 c q).elim id λW=>by omega)
def Sorted(l:List Pr):Prop:=l.Pairwise λa b=>aN a.key b.key=true
def Af(a:A2K)(l:List Pr):Option Pr:=l.find? λb=>decide (b.key=a)
theorem VE(a:A2K):Af a []=none:=rfl
theorem BB(a:A2K)(x:Pr)(l:List Pr):Af a (x::l)=if x.key=a then some x else Af a l:=by unfold Af;rw[DS];by_cases b:x.key=a<;>simp[b]
theorem OY {b:A2K}{l:List Pr}{x:Pr}(a:Af b l=some x):x.key=b/\x∈l:=by unfold Af at a;exact⟨by simpa using PA a,Lo a⟩
theorem Ep {a:A2K}{l:List Pr}(b: ∀x∈l,x.key≠a):Af a l=none:=by unfold Af;rw[GW];simpa using b
theorem Nl {a b:A2K}(c:aN a b=true):a≠b:=by rintro rfl;rw[CX] at c;cases c
theorem Sorted.find {l:List Pr}(s:Sorted l){x:Pr}(a:x∈l):Af x.key l=some x:=by
 induction l with
 |nil=>cases a
 |cons d l c=>
  rw[BB];have b:=List.pairwise_cons.1 s;rcases List.mem_cons.1 a with rfl|a
  ·simp
  ·rw[if_neg (Nl (b.1 x a))];exact c b.2 a
theorem Sorted.ext: ∀ {l m:List Pr},Sorted l->Sorted m->(∀ d,Af d l=Af d m)->l=m
 | [],[],_,_,_=>rfl
 | [],a::m,_,_,b=>by have:=b a.key;rw[BB,if_pos rfl] at this;cases this
 |x::l,[],_,_,b=>by have:=b x.key;rw[BB,if_pos rfl] at this;cases this
 |x::l,a::m,sl,p,b=>by
  have g:=List.pairwise_cons.1 sl;have h:=List.pairwise_cons.1 p;have f:x.key=a.key:=by
   have e:=b x.key;have n:=b a.key;rw[BB,if_pos rfl] at e;rw[BB a.key a m,if_pos rfl] at n;have i:=(OY e.symm).2;have j:=(OY n).2;rcases List.mem_cons.1 i with c|i
   ·rw[c]
   ·rcases List.mem_cons.1 j with c|j
    ·rw[c]
    ·have q:=h.1 x i;have o:=g.1 a j;rw[OZ q] at o;cases o
  have r:x=a:=by have e:=b x.key;rw[BB,BB,if_pos rfl,if_pos f.symm] at e;exact By e
  subst r;rw[Sorted.ext g.2 h.2 λd=>?_];have:=b d;rw[BB,BB] at this;by_cases f:x.key=d
  ·subst f;rw[Ep λa k c=>Nl (g.1 a k) c.symm,Ep λa k c=>Nl (h.1 a k) c.symm]
  ·simpa [f] using this
def ins(x:Pr):List Pr->List Pr
 | []=> [x]
 |q::l=>if aN q.key x.key then q::ins x l else if q.key=x.key then x::l else x::q::l
theorem nf(x:Pr): ∀l,YQ x l=ins x l
 | []=>rfl
 |q::l=>by
  unfold ins;cases b:aN q.key x.key
  ·have a:ic x.key (q::l)= []:=by simp[ic,b]
   by_cases c:q.key=x.key
   ·simp[YQ,aR,a,BH,c]
   ·simp[YQ,aR,a,BH,c]
  ·have a:ic x.key (q::l)=q::ic x.key l:=by simp[ic,b]
   have d:aR x.key (q::l)=aR x.key l+1:=by simp[aR,a]
   have f:BH x.key (q::l)=BH x.key l:=by simp[BH,d]
   have e:=nf x l;unfold YQ at e ⊢;rw[d,f];have g:(if BH x.key l=true then aR x.key l+1+1 else aR x.key l+1)=(if BH x.key l=true then aR x.key l+1 else aR x.key l)+1:=by split<;>rfl
   rw[g,I0,HU,DG,DG,e];simp
theorem qN {x b:Pr}: ∀ {l:List Pr},b∈ins x l->b=x\/b∈l
 | [],a=>by simp[ins] at a;exact .inl a
 |q::l,a=>by
  unfold ins at a;split at a
  ·rcases List.mem_cons.1 a with rfl|a
   ·exact .inr (by simp)
   ·rcases qN a with a|a
    ·exact .inl a
    ·exact .inr (by simp[a])
  ·split at a
   ·rcases List.mem_cons.1 a with rfl|a
    ·exact .inl rfl
    ·exact .inr (by simp[a])
   ·rcases List.mem_cons.1 a with rfl|a
    ·exact .inl rfl
    ·exact .inr a
theorem XL(x:Pr): ∀ {l:List Pr},Sorted l->Sorted (ins x l)
 | [],_=>A04 _ _
 |q::l,s=>by
  have b:=List.pairwise_cons.1 s;unfold ins;split
  ·rename_i d;refine List.pairwise_cons.2 ⟨λc a=>?_,XL x b.2⟩;rcases qN a with rfl|a
   ·exact d
   ·exact b.1 c a
  ·rename_i d;split
   ·rename_i e;refine List.pairwise_cons.2 ⟨λc a=>?_,b.2⟩;have:=b.1 c a;rwa [e] at this
   ·rename_i e;have f:aN x.key q.key=true:=by
     cases g:aN x.key q.key
     ·exact absurd (OD (by simpa using d) g) e
     ·rfl
    refine List.pairwise_cons.2 ⟨λc a=>?_,s⟩;rcases List.mem_cons.1 a with rfl|a
    ·exact f
    ·exact DX f (b.1 c a)
theorem Xw(x:Pr)(a:A2K): ∀ {l:List Pr},Sorted l->Af a (ins x l)=if x.key=a then some x else Af a l
 | [],_=>by simp[ins,BB,VE]
 |q::l,s=>by
  have c:=List.pairwise_cons.1 s;unfold ins;split
  ·rename_i d;rw[BB,BB,Xw x a c.2];by_cases b:q.key=a
   ·have e:x.key≠a:=by rw[<- b];exact λf=>Nl d f.symm
    simp[b,e]
   ·simp[b]
  ·split
   ·rename_i g;rw[BB,BB,g];by_cases b:x.key=a<;>simp[b]
   ·rw[BB]
def BV(l:List Pr):Prop:= ∀x∈l,Aj x=0
theorem Qu {x:Pr}{l:List Pr}(a:Aj x=0):CZ x l=ins x l:=by simp[CZ,a,nf]
theorem Pj {x:Pr}{l:List Pr}(s:Sorted l):Sorted (CZ x l):=by
 by_cases a:Aj x=0
 ·rw[Qu a];exact XL x s
 ·simpa [CZ,a] using s
theorem vH {x:Pr}{l:List Pr}(g:BV l):BV (CZ x l):=by
 by_cases a:Aj x=0
 ·rw[Qu a];exact λb c=>(qN c).elim (λd=>d▸a) (g b)
 ·simpa [CZ,a] using g
def A7(t l:List Pr):List Pr:=l.foldl (λt x=>CZ x t) t
theorem RX {l:List Pr}: ∀ {t},Sorted t->Sorted (A7 t l):=by
 induction l with
 |nil=>exact λs=>s
 |cons x l a=>exact λs=>a (Pj s)
theorem Xh {l:List Pr}: ∀ {t},BV t->BV (A7 t l):=by
 induction l with
 |nil=>exact λs=>s
 |cons x l a=>exact λs=>a (vH s)
theorem RB {l:List Pr}: ∀ {t},(A7 t l).length<=t.length+l.length:=by
 induction l with
 |nil=>exact λ{t}=>by simp[A7]
 |cons x l a=>intro t;have:=a (t:=CZ x t);have:=ANv x t;simp[A7] at *;omega
theorem AKT {l:List Pr}(a:A2K): ∀ {t},Sorted t->Sorted l->BV l->Af a (A7 t l)=(Af a l).or (Af a t):=by
 induction l with
 |nil=>intro t _ _ _;simp[A7,VE]
 |cons x l f=>
  intro t st sl g;have d:=List.pairwise_cons.1 sl;show Af a (A7 (CZ x t) l)=_;rw[f (Pj st) d.2 (λb c=>g b (by simp[c])),Qu (g x (by simp)),Xw x a st,BB];by_cases e:x.key=a
  ·subst e;rw[Ep λb c h=>Nl (d.1 b c) h.symm];simp
  ·simp[e]
def Ah(a:List (List Pr)):List Pr:=a.reverse.foldl A7 []
theorem N9(l:List Pr)(a:List (List Pr)):Ah (l::a)=A7 (Ah a) l:=by simp[Ah,I2]
theorem Dy: ∀a,Sorted (Ah a)
 | []=>List.Pairwise.nil
 |l::a=>by rw[N9];exact RX (Dy a)
structure bB (ls:List (List Pr)):Prop where
 sorted: ∀l∈ls,Sorted l
 aQ: ∀l∈ls,BV l
def Ar(a:A2K)(b:List (List Pr)):Option Pr:=b.findSome? (Af a)
theorem EO(a:A2K)(l:List Pr)(b:List (List Pr)):Ar a (l::b)=(Af a l).or (Ar a b):=by unfold Ar;rw[PB];cases Af a l<;>rfl
theorem LF(b:A2K): ∀ {a},bB a->Af b (Ah a)=Ar b a
 | [],_=>rfl
 |l::a,c=>by
  rw[N9,AKT b (Dy a) (c.sorted l (by simp)) (c.aQ l (by simp)),LF b ⟨λm d=>c.sorted m (by simp[d]),λm d=>c.aQ m (by simp[d])⟩,EO]
theorem VG(p:Pr)(l:List Pr):(I6 p l).Sublist l:=List.dropWhile_sublist _
theorem AJU {p q:Pr}(a:upto p q=false):aN p.key q.key=true:=by
 unfold upto at a;rw[Cn] at a;simp at a;cases b:aN p.key q.key
 ·exact absurd (OD a.1 b) a.2
 ·rfl
theorem AMR {p b:Pr}(a:upto p b=true):aN p.key b.key=false:=by
 unfold upto at a;rw[Cn] at a;simp at a;rcases a with a|a
 ·exact OZ a
 ·rw[a];exact CX _
theorem Zz {p q:Pr}: ∀ {l:List Pr},Sorted l->q∈I6 p l->aN p.key q.key=true
 | [],_,a=>by cases a
 |y::l,s,a=>by
  have b:=List.pairwise_cons.1 s;unfold I6 at a;rw[List.dropWhile_cons] at a;split at a
  ·exact Zz b.2 a
  ·rename_i d;have c:=AJU (p:=p) (q:=y) (by simpa using d);rcases List.mem_cons.1 a with rfl|a
   ·exact c
   ·exact DX c (b.1 q a)
theorem vI {p:Pr}{a:A2K}(b:aN p.key a=true): ∀ {l:List Pr},Af a (I6 p l)=Af a l
 | []=>rfl
 |y::l=>by
  unfold I6;rw[List.dropWhile_cons];split
  ·rename_i d;have c:=AMR d;rw[BB,if_neg (by rintro rfl;rw[b] at c;cases c)];exact vI b
  ·rfl
theorem MB.ok {a:List (List Pr)}{out:List Pr}(m:MB a out):(∀ l∈a,Sorted l)->Sorted out/\ ∀b,Af b out=Ar b a:=by
 induction m with
 |done g=>
  rename_i a;intro _;refine⟨List.Pairwise.nil,λb=>?_⟩;have: ∀a:List (List Pr),(∀ l∈a,l= [])->Ar b a=none:=λa g=>by
   unfold Ar;rw[PC];intro l d;rw[g l d];rfl
  rw[this a g];rfl
 | @step a b p t out F C y r=>
  intro h;have G: ∀l∈a.map (I6 p),Sorted l:=λl d=>by
   obtain⟨o,s,rfl⟩:=List.mem_map.1 d;exact(h o s).sublist (VG p o)
  obtain⟨D,E⟩:=r G;have H: ∀e∈out,aN p.key e.key=true:=λe q=>by
   have f:=D.find q;rw[E] at f;unfold Ar at f;obtain⟨l,d,k⟩:=A06 f;obtain⟨o,s,rfl⟩:=List.mem_map.1 d;exact Zz (h o s) (OY k).2
  refine⟨List.pairwise_cons.2 ⟨H,D⟩,λc=>?_⟩;have I: ∀l∈a,∀e∈l,aN e.key p.key=false:=λl d e q=>by
   obtain⟨i,v,j⟩:=Dd d;cases l with
   |nil=>cases q
   |cons w u=>
    have f:=(C i w u (by rw[A2 v,j])).1;have z:=List.pairwise_cons.1 (h _ d);rcases List.mem_cons.1 q with rfl|q
    ·exact f
    ·cases k:aN e.key p.key
     ·rfl
     ·have:=DX (z.1 e q) k;rw[this] at f;cases f
  rw[BB];by_cases A:p.key=c
  ·subst A;simp only[if_true];have: ∀(a:List (List Pr)) (b:Nat),a[b]? =some (p::t)->(∀ i e u,a[i]? =some (e::u)->i<b->aN p.key e.key=true)->(∀ l∈a,Sorted l)->Ar p.key a=some p:=by
    intro a
    induction a with
    |nil=>intro b g;simp at g
    |cons l a r=>
     intro b g y h;rw[EO];cases b with
     |zero=>simp at g;subst g;rw[BB,if_pos rfl];rfl
     |succ b=>
      have J:Af p.key l=none:=by
       cases l with
       |nil=>rfl
       |cons w u=>
        have f:=y 0 w u rfl (by omega);have z:=List.pairwise_cons.1 (h _ (by simp:(w::u)∈(w::u)::a));refine Ep λx n j=>?_
        rcases List.mem_cons.1 n with rfl|n
        ·rw[j,CX] at f;cases f
        ·have:=DX f (z.1 x n);rw[j,CX] at this;cases this
      rw[J,Ly];exact r b (by simpa using g) (λi e u v M=>y (i+1) e u (by simpa using v) (by omega)) (λl d=>h l (by simp[d]))
   rw[this a b F (λi e u v=>(C i e u v).2) h]
  ·rw[if_neg A,E];unfold Ar;cases k:aN p.key c
   ·
    have B:aN c p.key=true:=by
     cases B:aN c p.key
     ·exact absurd (OD k B) A
     ·rfl
    have K:(a.map (I6 p)).findSome? (Af c)=none:=by
     rw[PC];intro l d;obtain⟨o,s,rfl⟩:=List.mem_map.1 d;refine Ep λx n j=>?_
     have:=Zz (h o s) n;rw[j,k] at this;cases this
    have L:a.findSome? (Af c)=none:=by
     rw[PC];intro l d;refine Ep λx n j=>?_
     have:=I l d x n;rw[j,B] at this;cases this
    rw[K,L]
   ·have: ∀a:List (List Pr),(a.map (I6 p)).findSome? (Af c)=a.findSome? (Af c):=λa=>by
     induction a with
     |nil=>rfl
     |cons l a r=>rw[BT,PB,PB,vI k,r]
    rw[this]
theorem Ue: ∀(e:List (List Pr)),(∀ l∈e,l= [])\/ ∃(f:Nat) (p:Pr) (t:List Pr),e[f]? =some (p::t)/\ ∀(a:Nat) (c:Pr) (u:List Pr),e[a]? =some (c::u)->aN c.key p.key=false/\(a<f->aN p.key c.key=true)
 | []=> .inl λl d=>by cases d
 |l::e=>by
  cases l with
  |nil=>
   rcases Ue e with d|⟨f,p,t,i,g⟩
   ·refine .inl λl j=>?_
    rcases List.mem_cons.1 j with rfl|j
    ·rfl
    ·exact d l j
   ·refine .inr ⟨f+1,p,t,by simpa using i,λa c u b=>?_⟩;cases a with
    |zero=>simp at b
    |succ a=>have:=g a c u (by simpa using b);exact⟨this.1,λd=>this.2 (by omega)⟩
  |cons k u=>
   rcases Ue e with d|⟨f,p,t,i,g⟩
   ·refine .inr ⟨0,k,u,rfl,λa c h b=>⟨?_,λd=>by omega⟩⟩;cases a with
    |zero=>simp at b;rw[b.1];exact CX _
    |succ a=>have:=d _ (AK (by simpa using b));cases this
   ·cases m:aN p.key k.key
    ·refine .inr ⟨0,k,u,rfl,λa c h b=>⟨?_,λd=>by omega⟩⟩;cases a with
     |zero=>simp at b;rw[b.1];exact CX _
     |succ a=>exact Zv m (g a c h (by simpa using b)).1
    ·refine .inr ⟨f+1,p,t,by simpa using i,λa c h b=>?_⟩;cases a with
     |zero=>simp at b;rw[<- b.1];exact⟨OZ m,λ_=>m⟩
     |succ a=>have:=g a c h (by simpa using b);exact⟨this.1,λd=>this.2 (by omega)⟩
def total(a:List (List Pr)):Nat:=(a.map List.length).sum
theorem Xt(p:Pr): ∀a,total (a.map (I6 p))<=total a
 | []=>A0 _
 |l::a=>by
  have:=Xt p a;have:=(VG p l).length_le;simp[total] at *;omega
theorem ZH {p:Pr}{t:List Pr}: ∀ {ls:List (List Pr)} {k:Nat},ls[k]? =some (p::t)->total (ls.map (I6 p))<total ls
 | [],k,a=>by simp at a
 |l::ls,0,a=>by
  simp at a;subst a;have b:=Xt p ls;have c:=(VG p t).length_le;have d:I6 p (p::t)=I6 p t:=by simp[I6,upto,Cn]
  simp only[total,BT,GF,d,A6] at*
  omega
 |l::ls,k+1,a=>by
  have b:=ZH (p:=p) (t:=t) (ls:=ls) (k:=k) (by simpa using a);have c:=(VG p l).length_le;simp only[total,BT,GF] at*
  omega
theorem AEu(a:List (List Pr)): ∃out,MB a out/\out.length<=total a:=by
 generalize h:total a=b
 induction b using Nat.strongRecOn generalizing a with
 |_ b d=>
  rcases Ue a with e|⟨i,p,t,c,f⟩
  ·exact⟨[],.done e,by simp⟩
  ·have j:=ZH c;obtain⟨out,g,k⟩:=d _ (by omega) (a.map (I6 p)) rfl;exact⟨p::out,.step c f g,by simp;omega⟩
theorem sU {t l:List Pr}{a:Nat}{x:Pr}(b:l[a]? =some x):A7 t (l.take (a+1))=CZ x (A7 t (l.take a)):=by rw[AD,b];simp only[A7,I2,CA,I3,MD]
theorem Tg: ∀a,(Ah a).length<=total a
 | []=>A0 _
 |l::a=>by
  rw[N9];have:=Tg a;have:=RB (l:=l) (t:=Ah a);simp[total] at *;omega
theorem YD: ∀a,BV (Ah a)
 | []=>λ_ b=>by cases b
 |l::a=>by rw[N9];exact Xh (YD a)
theorem AJn(l:List Pr)(a:List (List Pr)):total (l::a)=l.length+total a:=by simp[total]
def sY(f:al)(d:Nat->Prop)(a:aa)(s:Sl)(e:List (List Pr)):Prop:=
 ∃b,View jS a s b/\(∀ c,s.ag=some c->c<a.size/\ ¬d c)/\b.length=e.length/\ ∀(i:Nat) (v:ij) (l:List Pr),b[i]? =some v->e[i]? =some l->(v.v= .nilFunc/\l= [])\/(ES f P v.v (λc=>c<a.size/\ ¬d c) a l/\l.length<=1099511627776)
end Go.Lf.G.M
namespace Go.Lf
open G
theorem ES.later {f:al}{d:Nat->Prop}{fv:J0}{b e:aa}{l:List Pr}(h:ES f P fv (λc=>c<b.size/\ ¬d c) b l){g:Nat->Prop}(x:Mod g b e)(i: ∀c,c<b.size->g c->d c):ES f P fv (λc=>c<e.size/\ ¬d c) e l:=
 h.aj (λc a=>⟨by have:=x.size;omega,a.2⟩) (λc a=>a.1) λc a=>x.get c a.1 λj=>a.2 (i c a.1 j)
end Go.Lf
namespace Go.Lf.G.M
open Go Go.Lf Go.Lf.G
theorem sM {p:al}{k:Nat->Prop}{a:aa}{s:Sl}{ls:List (List Pr)}{x:A2J}(G:sY p k a s ls)(hX: ∀c,k c->c<a.size)(t:ls.length<=1099511627776)(u:bB ls)
  (y: ∀fv n,ES p P fv (λc=>c<n.size/\ ¬k c) n (Ah ls)->Ext a n->n.size=a.size+1->x fv n):AA p P PZ #[J4 s.p s.len s.cap] a x:=by
 obtain⟨q,v,z,w,A⟩:=G;refine AGh ?_;unfold uX;refine ao.mk λg _ B r C=>?_
 have H: ∃os:List (Option (List Pr)),os.length=q.length/\(∀ (i:Nat) (v:ij),q[i]? =some v->(v.v= .nilFunc/\os[i]? =some none)\/ ∃l,os[i]? =some (some l)/\ES p P v.v (λc=>c<a.size/\ ¬k c) a l/\l.length<=1099511627776)/\
   (∀ l,l∈os.filterMap id->l∈ls)/\ ∀b,Ar b (os.filterMap id)=Ar b ls:=by
  clear v hX t u y B r C z
  induction q generalizing ls with
  |nil=>
   have:ls= []:=CT w.symm;subst this;exact⟨[],rfl,λi v a=>by simp at a,λl a=>by simp at a,λb=>rfl⟩
  |cons v q I=>
   cases ls with
   |nil=>simp at w
   |cons l ls=>
    obtain⟨os,g,h,D,E⟩:=I (ls:=ls) (by simpa using w) (λi v l g h=>A (i+1) v l (by simpa using g) (by simpa using h));rcases A 0 v l rfl rfl with⟨j,o⟩|⟨j,o⟩
    ·refine⟨none::os,by simp[g],λi v e=>?_,λm d=>?_,λb=>?_⟩
     ·cases i with
      |zero=>simp at e;subst e;exact .inl ⟨j,rfl⟩
      |succ i=>exact h i v (by simpa using e)
     ·simp at d;exact AG _ (D m (by simpa using d))
     ·subst o;rw[EO];simpa [VE] using E b
    ·refine⟨some l::os,by simp[g],λi v e=>?_,λm d=>?_,λb=>?_⟩
     ·cases i with
      |zero=>simp at e;subst e;exact .inr ⟨l,rfl,j,o⟩
      |succ i=>exact h i v (by simpa using e)
     ·simp at d;rcases d with rfl|d
      ·simp
      ·exact AG _ (D m (by simpa using d))
     ·rw[EO,US];simp only[id];rw[EO,E b]
 obtain⟨os,J,K,L,M⟩:=H;obtain⟨out,d,_⟩:=AEu (os.filterMap id);have N:out=Ah ls:=by
  have F:=d.ok λl t=>u.sorted l (L l t)
  exact F.1.ext (Dy ls) λb=>by rw[F.2 b,M b,LF b u]
 subst N;refine y _ g ((ARF (S:=λc=>c<a.size/\ ¬k c) B (v.ext r) (by omega) J (λi v e=>?_) d (λc f=>by omega)).aj ?_ (λc f=>f.1) (λc _=>rfl)) r C
 ·rcases K i v e with j|⟨l,j,o,O⟩
  ·exact .inl j
  ·exact .inr ⟨l,j,o.aj (λc f=>f) (λc f=>by omega) (λc f=>r.get c f.1 (λa=>a)),O⟩
 ·rintro c (f|⟨g,h⟩)
  ·exact⟨by omega,f.2⟩
  ·refine⟨g,?_⟩;rcases h with rfl|h
   ·intro a;have:=hX _ a;omega
   ·exact(z c h).2
def pb:Pr:=⟨⟨#[98]⟩,⟨#[]⟩,false⟩
theorem QO(a:A2K)(b c:List (List Pr)):Ar a (b++c)=(Ar a b).or (Ar a c):=by unfold Ar;rw[List.findSome?_append]
theorem OM(a:A2K)(l m:List Pr):Af a (l++m)=(Af a l).or (Af a m):=by unfold Af;rw[List.find?_append]
structure DL where
 ag:Nat
 pr:Pr
 ht:Nat
def cT(nx:Nat->Q2):List J0:=(List.range 12).map λi=>J5 (nx i)
def FW(p:Pr)(nx:Nat->Q2):Array J0:=(([J7 p.key,J7 p.val,J3 p.gone]:List J0)++cT nx).toArray
def Dh(nx:Nat->Q2)(a b:Int):Array J0:=(([J7 ⟨#[]⟩,J7 ⟨#[]⟩,J3 false]:List J0)++cT nx++([J6 J9 a,J6 J9 b]:List J0)).toArray
theorem Ba(nx:Nat->Q2):(cT nx).length=12:=by simp[cT]
theorem Tt {nx:Nat->Q2}{i:Nat}(a:i<12):(cT nx)[i]? =some (J5 (nx i)):=by simp[cT,a]
theorem qK {nx:Nat->Q2}{i:Nat}(v:Q2):(cT nx).set i (J5 v)=cT (λa=>if a=i then v else nx a):=by
 refine List.ext_getElem? λa=>?_
 by_cases b:a<12
 ·rw[Mn,Tt b,Tt b,Ba];by_cases c:i=a
  ·subst c;simp[b]
  ·simp[c,Ne.symm c]
 ·rw[Lz (by simp[Ba];omega),Lz (by simp[Ba];omega)]
theorem ANx {p:Pr}{nx:Nat->Q2}{i:Nat}(a:i<12):(FW p nx)[3+i]? =some (J5 (nx i)):=by simp only[FW,Mu];rw[F2 (by simp)];simpa using Tt a
theorem AOT {nx:Nat->Q2}{a b:Int}{i:Nat}(c:i<12):(Dh nx a b)[3+i]? =some (J5 (nx i)):=by simp only[Dh,Mu];rw[A4,F2 (by simp),Ge (by simp[Ba];omega)];simpa using Tt c
theorem mf {nx:Nat->Q2}{a b:Int}:(Dh nx a b)[15]? =some (J6 J9 a)/\(Dh nx a b)[16]? =some (J6 J9 b):=by
 simp only[Dh,Mu];constructor
 ·rw[F2 (by simp[Ba])];simp[Ba]
 ·rw[F2 (by simp[Ba])];simp[Ba]
theorem RO {p:Pr}{nx:Nat->Q2}:(FW p nx).size=15:=by simp[FW,Ba]
theorem cZ {nx:Nat->Q2}{a b:Int}:(Dh nx a b).size=17:=by simp[Dh,Ba]
theorem vB {p:Pr}{nx:Nat->Q2}{i:Nat}(v:Q2):(FW p nx).setIfInBounds (3+i) (J5 v)=FW p (λa=>if a=i then v else nx a):=by apply Array.toList_inj.1;rw[DQ];simp only[FW,My];rw[HK _ _ (by simp),<-qK v];simp
theorem AOz {nx:Nat->Q2}{a b:Int}{i:Nat}(d:i<12)(v:Q2):(Dh nx a b).setIfInBounds (3+i) (J5 v)=Dh (λc=>if c=i then v else nx c) a b:=by apply Array.toList_inj.1;rw[DQ];simp only[Dh,My];rw[A4,HK _ _ (by simp),Wk _ _ (by simp[Ba];omega),<-qK v];simp
theorem AMU {nx:Nat->Q2}{c a b:Int}:(Dh nx c a).setIfInBounds 15 (J6 J9 b)=Dh nx b a:=by apply Array.toList_inj.1;rw[DQ];simp only[Dh,My];rw[HK _ _ (by simp[Ba])];simp[Ba]
theorem vC {nx:Nat->Q2}{a c b:Int}:(Dh nx a c).setIfInBounds 16 (J6 J9 b)=Dh nx a b:=by apply Array.toList_inj.1;rw[DQ];simp only[Dh,My];rw[HK _ _ (by simp[Ba])];simp[Ba]
theorem Cs {a:aa}{b i:Nat}{l:Nat->Q2}{T:Q7}{fr:Nat×Nat}(c:a[b]? =some (J2 (cT l).toArray T fr))(d:i<12):ah a ⟨b,i,none⟩=some (J5 (l i)):=by rw[IG c,Mu];exact Tt d
def addrAt(t:Nat)(ns:List DL)(p:Nat):Q6:=match p with|0=>⟨t,0,none⟩|p+1=>match ns[p]? with|some x=>⟨x.ag,0,none⟩|none=>⟨t,0,none⟩
def TI(ns:List DL)(p:Nat):Nat:=match p with|0=>12|p+1=>match ns[p]? with|some x=>x.ht|none=>0
def DD(i:Nat)(l:List DL):Q2:=(l.find? λx=>decide (i<x.ht)).map λx=>⟨x.ag,0,none⟩
def cS(t:Nat)(ns:List DL)(b:Nat):Prop:=b=t\/ ∃x∈ns,x.ag=b
structure Lay (h:aa) (t:Nat) (ns:List DL) (nx:Nat->Nat->Q2) (n sz:Int):Prop where
 head:h[t]? =some (J2 (Dh (nx 0) n sz) vK (0,0))
 node: ∀(j:Nat) (x:DL),ns[j]? =some x->h[x.ag]? =some (J2 (FW x.pr (nx (j+1))) Ra (0,0))/\x.ag≠t
 apart:ns.Pairwise λx y=>x.ag≠y.ag
structure kR (ns:List DL) (nx:Nat->Nat->Q2):Prop where
 link: ∀p i,p<=ns.length->i<12->i<TI ns p->nx p i=DD i (ns.drop p)
 ht: ∀x∈ns,1<=x.ht/\x.ht<=12
theorem Lay.mod {c d:aa}{t:Nat}{ns:List DL}{nx:Nat->Nat->Q2}{e f:Int}{g:Nat->Prop}(l:Lay c t ns nx e f)(m:Mod g c d)(h: ∀b,cS t ns b-> ¬g b):Lay d t ns nx e f:=
 ⟨m.ag l.head (h _ (.inl rfl)),λi x a=>⟨m.ag (l.node i x a).1 (h _ (.inr ⟨x,AK a,rfl⟩)),(l.node i x a).2⟩,l.apart⟩
theorem Lay.ext {a b:aa}{t:Nat}{ns:List DL}{nx:Nat->Nat->Q2}{c d:Int}(l:Lay a t ns nx c d)(m:Ext a b):Lay b t ns nx c d:=l.mod m λ_ _ a=>a
theorem Lay.lt {a:aa}{t:Nat}{ns:List DL}{nx:Nat->Nat->Q2}{c d:Int}(l:Lay a t ns nx c d){b:Nat}(e:cS t ns b):b<a.size:=by
 rcases e with rfl|⟨x,f,rfl⟩
 ·exact Ai l.head
 ·obtain⟨g,h,i⟩:=Dd f;exact Ai (l.node g x (by rw[A2 h,i])).1
theorem Lay.next {a:aa}{t:Nat}{ns:List DL}{nx:Nat->Nat->Q2}{d e:Int}(l:Lay a t ns nx d e){p i:Nat}(g:p<=ns.length)(b:i<12):ah a (((addrAt t ns p).add 3).add (i*1))=some (J5 (nx p i)):=by
 rw[add_add,Bs];cases p with
 |zero=>show ah a ((⟨t,0,none⟩:Q6).add (3+i))=_;exact AB l.head (AOT b)
 |succ p=>
  have c:=A2 (l:=ns) (i:=p) (by omega);have f:addrAt t ns (p+1)=⟨ns[p].ag,0,none⟩:=by simp[addrAt,c]
  rw[f];exact AB (l.node p _ c).1 (ANx b)
theorem Lay.pair {a:aa}{t:Nat}{ns:List DL}{nx:Nat->Nat->Q2}{d e:Int}(l:Lay a t ns nx d e){c:Nat}{x:DL}(f:ns[c]? =some x):
  ah a ⟨x.ag,0,none⟩=some (J7 x.pr.key)/\ah a ((⟨x.ag,0,none⟩:Q6).add 1)=some (J7 x.pr.val)/\ah a ((⟨x.ag,0,none⟩:Q6).add 2)=some (J3 x.pr.gone):=by
 have b:=(l.node c x f).1;exact⟨AL b rfl,AB b rfl,AB b rfl⟩
theorem AGz {i:Nat}{l:List DL}{a:Q6}(b:DD i l=some a): ∃e x,l[e]? =some x/\a=⟨x.ag,0,none⟩/\i<x.ht/\ ∀(c:Nat) (d:DL),c<e->l[c]? =some d->d.ht<=i:=by
 induction l with
 |nil=>simp[DD] at b
 |cons x l h=>
  unfold DD at b;rw[DS] at b;by_cases f:i<x.ht
  ·simp[f] at b;exact⟨0,x,rfl,b.symm,f,λc d j=>by omega⟩
  ·simp[f] at b;obtain⟨e,d,k,m,n,o⟩:=h (by simpa [DD] using b);refine⟨e+1,d,by simpa using k,m,n,λc z j g=>?_⟩;cases c with
   |zero=>simp at g;subst g;omega
   |succ c=>exact o c z (by omega) (by simpa using g)
theorem X7 {i:Nat}{l:List DL}(a:DD i l=none): ∀x∈l,x.ht<=i:=by intro x b;simp[DD] at a;exact a x b
theorem AGP {i:Nat}{l:List DL}{k:Nat}(c:k<=l.length)(d: ∀(a:Nat) (b:DL),a<k->l[a]? =some b->b.ht<=i):DD i l=DD i (l.drop k):=by
 induction k generalizing l with
 |zero=>simp
 |succ k e=>
  cases l with
  |nil=>simp at c
  |cons x l=>
   have f:=d 0 x (by omega) rfl;rw[HU,<-e (by simpa using c) λa b h g=>d (a+1) b (by omega) (by simpa using g)];unfold DD;rw[DS];simp[Nat.not_lt.2 f]
abbrev bW(ns:List DL):List Pr:=ns.map (·.pr)
theorem pn {key:A2K}: ∀ {l:List Pr},Sorted l-> ∀ {j:Nat} {x:Pr},l[j]? =some x->(j<aR key l↔aN x.key key=true)
 | [],_,j,x,a=>by simp at a
 |y::l,s,j,x,a=>by
  have d:=List.pairwise_cons.1 s;by_cases b:aN y.key key=true
  ·have c:aR key (y::l)=aR key l+1:=by simp[aR,ic,b]
   rw[c];cases j with
   |zero=>simp at a;subst a;simp[b]
   |succ j=>
    have:=pn (key:=key) d.2 (j:=j) (x:=x) (by simpa using a);rw[<- this];omega
  ·have c:aR key (y::l)=0:=by simp[aR,ic,b]
   rw[c];cases j with
   |zero=>simp at a;subst a;simp[b]
   |succ j=>
    have f:x∈l:=AK (by simpa using a);have g:=d.1 x f;constructor
    ·intro e;omega
    ·intro e;exact absurd (DX g e) b
structure VO (ns:List DL) (key:A2K) (i p:Nat):Prop where
 le:p<=aR key (bW ns)
 ht:i<TI ns p
 last: ∀(j:Nat) (y:DL),p<=j->j<aR key (bW ns)->ns[j]? =some y->y.ht<=i
theorem Ya(key:A2K)(ns:List DL):aR key (bW ns)<=ns.length:=by have:=mZ key (bW ns);simpa using this
theorem IQ {a:Array J0}(l:Nat->Q2)(c:a=(cT l).toArray)(i:Nat)(v:Q2):a.setIfInBounds i (J5 v)=(cT (λb=>if b=i then v else l b)).toArray:=by subst c;apply Array.toList_inj.1;rw[DQ];exact qK v
theorem AMY {a:Nat}(b:a<100):J8 J9 (((a+1:Nat):Int)-(1:Int))=(a:Int):=by rw[show(((a+1:Nat):Int)-1)=(a:Int) by omega];exact Eb (by omega)
set_option maxHeartbeats 400000 in
theorem qL {ap:al}{h:aa}{t:Nat}{ns:List DL}{nx:Nat->Nat->Q2}{aq ar:Int}{key:A2K}{H:A2J}(L:Lay h t ns nx aq ar)(K:kR ns nx)(s:Sorted (bW ns))
  (au: ∀(b:Nat->Nat) I,(∀ i,i<12->VO ns key i (b i))->Ext h I->H (.agg #[J5 (some (addrAt t ns (b 0))),J5 (some (addrAt t ns (b 1))),J5 (some (addrAt t ns (b 2))),J5 (some (addrAt t ns (b 3))),J5 (some (addrAt t ns (b 4))),J5 (some (addrAt t ns (b 5))),J5 (some (addrAt t ns (b 6))),J5 (some (addrAt t ns (b 7))),J5 (some (addrAt t ns (b 8))),J5 (some (addrAt t ns (b 9))),J5 (some (addrAt t ns (b 10))),J5 (some (addrAt t ns (b 11)))]) I):
  AA ap P GK #[J5 (some ⟨t,0,none⟩),J7 key] h H:=by
 refine Vg ?_;unfold Ou;refine ao.mk λk _ av J a2=>ao.mk λo _ aw M a3=>?_
 have ax:Ext h o:=J.trans M;have a4:=Ya key ns;refine Loop.rule (λm x q=> ∃(p:Nat) (b:Nat->Nat) (l:Nat->Q2),x=(some (addrAt t ns p),(m:Int)-1,())/\m<=12/\Mod (λc=>c=k.size) o q/\p<=aR key (bW ns)/\(m=0\/m<=TI ns p)/\
   q[k.size]? =some (J2 (cT l).toArray Dz (0,0))/\(∀ i,i<12->m<=i->VO ns key i (b i)/\l i=some (addrAt t ns (b i)))) ?_
  (m:=12) ⟨0,λ_=>0,λ_=>none,rfl,by omega,Mod.refl,by omega,.inr (by simp[TI]),aw,λi k o=>by omega⟩
 rintro a5 m _ q ⟨p,b,l,rfl,a6,C,w,y,e,d⟩ ay;have N:Ext h q:=ax.then (C.aj λc _ v=> .inr (by have:=J.size;omega));refine af.intro (λv=>?_) (λv=>?_)
 ·cases m with
  |zero=>simp at v
  |succ i=>
   have z:i<12:=by omega
   have az:(((i+1:Nat):Int)-1)=(i:Int):=by omega
   rw[az];have O:=L.ext N;refine Loop.rule (λm x A=> ∃p:Nat,x=(some (addrAt t ns p),())/\A=q/\m=aR key (bW ns)-p/\p<=aR key (bW ns)/\i<TI ns p) ?_ ⟨p,rfl,rfl,rfl,w,by rcases y with h|h<;>omega⟩;rintro a7 m _ A ⟨p,rfl,aA,rfl,w,y⟩ aC;subst aA;have D:nx p i=DD i (ns.drop p):=K.link p i (by omega) z y;have ah:=O.next (p:=p) (i:=i) (by omega) z;refine ai.mk λaD Q=>?_
   have B:(0:Int)<=(i:Int)/\(i:Int)<(12:Int):=⟨by omega,by omega⟩;have R:(∀ (j:Nat) (r:DL),p<=j->j<aR key (bW ns)->ns[j]? =some r->r.ht<=i)->aD (false,()) A:=λaE=>Q _ _ (af.no rfl (by
    refine⟨B,?_⟩;show ae A ((⟨k.size,0,none⟩:Q6).add (i*1)) _ _;rw[Be,AI,Bs];refine ae.mk e (by simp[Ba];omega) λa8 S E a9=>?_
    rw[IQ l rfl] at S;have aF:VO ns key i p:=⟨w,y,aE⟩;refine ay i _ _ (by omega) ⟨p,λf=>if f=i then p else b f,_,?_,by omega,C.trans E,w,.inr (by omega),S,λf n ba=>?_⟩
    ·cases i with
     |zero=>rfl
     |succ i=>rw[AMY (by omega),show(((i+1:Nat):Int)-1)=(i:Int) by omega]
    ·by_cases T:f=i
     ·subst T;simp[aF]
     ·simp[T];exact d f n (by omega)))
   refine⟨B,?_⟩;rw[An];refine AX.mk ah ?_;cases u:nx p i with
   |none=>
    refine af.no rfl ?_;refine R λj r aG aH F=>?_
    rw[D] at u;refine X7 u r ?_;rw[List.mem_drop_iff_getElem];have:=List.getElem?_eq_some_iff.1 F;exact⟨j-p,by omega,by rw[<- this.2];congr 1;omega⟩
   |some a=>
    refine af.yes rfl ?_;refine⟨B,AX.mk (u▸ah) ?_⟩;rw[D] at u;obtain⟨f,x,n,rfl,aI,aJ⟩:=AGz u;rw[BY] at n;refine AJ.mk (O.pair n).1 ?_;have aK:(bW ns)[p+f]? =some x.pr:=by simp[bW,n]
    have U:=pn (key:=key) s aK;cases G:aN x.pr.key key
    ·refine R λj r aG aH F=>?_
     have bb:j<p+f:=by
      rcases Ft j (p+f) with k|k
      ·exact k
      ·have o:p+f<aR key (bW ns):=by omega
       rw[U.1 o] at G;cases G
     exact aJ (j-p) r (by omega) (by rw[BY];rw[<- F];congr 1;omega)
    ·have o:=U.2 G;refine Q _ _ (af.yes rfl ?_);refine⟨B,AX.mk (u▸D▸ah) ?_⟩;have aL:addrAt t ns (p+f+1)=⟨x.ag,0,none⟩:=by simp[addrAt,n]
     refine aC (aR key (bW ns)-(p+f+1)) _ _ (by omega) ⟨p+f+1,by rw[aL],rfl,rfl,by omega,by simp[TI,n,aI]⟩
 ·have aM:m=0:=by simp at v;omega
  subst aM;have aO:q[h.size]? =some (J2 (cT (λ_=>none)).toArray Dz (0,0)):=C.ag (M.ag av (by simp)) (by omega);simp only[Be,AI];refine AX.mk (Cs e (i:=0) (by omega)) ?_;refine AX.mk (Cs e (i:=1) (by omega)) ?_;refine AX.mk (Cs e (i:=2) (by omega)) ?_;refine AX.mk (Cs e (i:=3) (by omega)) ?_;refine AX.mk (Cs e (i:=4) (by omega)) ?_;refine AX.mk (Cs e (i:=5) (by omega)) ?_;refine AX.mk (Cs e (i:=6) (by omega)) ?_;refine AX.mk (Cs e (i:=7) (by omega)) ?_;refine AX.mk (Cs e (i:=8) (by omega)) ?_;refine AX.mk (Cs e (i:=9) (by omega)) ?_;refine AX.mk (Cs e (i:=10) (by omega)) ?_;refine AX.mk (Cs e (i:=11) (by omega)) ?_;refine ae.mk aO (by simp[Ba]) λbc V aP bd=>?_
  rw[IQ _ rfl] at V;refine ae.mk V (by simp[Ba]) λbe W aQ bf=>?_
  rw[IQ _ rfl] at W;refine ae.mk W (by simp[Ba]) λbg X aS bh=>?_
  rw[IQ _ rfl] at X;refine ae.mk X (by simp[Ba]) λbi Y aT bj=>?_
  rw[IQ _ rfl] at Y;refine ae.mk Y (by simp[Ba]) λbk Z aU bm=>?_
  rw[IQ _ rfl] at Z;refine ae.mk Z (by simp[Ba]) λbn ab aV bo=>?_
  rw[IQ _ rfl] at ab;refine ae.mk ab (by simp[Ba]) λbp ac E bq=>?_
  rw[IQ _ rfl] at ac;refine ae.mk ac (by simp[Ba]) λbr ad aW bs=>?_
  rw[IQ _ rfl] at ad;refine ae.mk ad (by simp[Ba]) λbt ag aX bu=>?_
  rw[IQ _ rfl] at ag;refine ae.mk ag (by simp[Ba]) λbv aj aY bw=>?_
  rw[IQ _ rfl] at aj;refine ae.mk aj (by simp[Ba]) λbx ak aZ bz=>?_
  rw[IQ _ rfl] at ak;refine ae.mk ak (by simp[Ba]) λam an a0 bA=>?_
  rw[IQ _ rfl] at an;have g:am[h.size]? =some (J2 (cT l).toArray Dz (0,0)):=by rw[an];congr 3
  refine AX.mk (Cs g (i:=0) (by omega)) ?_;refine AX.mk (Cs g (i:=1) (by omega)) ?_;refine AX.mk (Cs g (i:=2) (by omega)) ?_;refine AX.mk (Cs g (i:=3) (by omega)) ?_;refine AX.mk (Cs g (i:=4) (by omega)) ?_;refine AX.mk (Cs g (i:=5) (by omega)) ?_;refine AX.mk (Cs g (i:=6) (by omega)) ?_;refine AX.mk (Cs g (i:=7) (by omega)) ?_;refine AX.mk (Cs g (i:=8) (by omega)) ?_;refine AX.mk (Cs g (i:=9) (by omega)) ?_;refine AX.mk (Cs g (i:=10) (by omega)) ?_;refine AX.mk (Cs g (i:=11) (by omega)) ?_;have a1:=((((((((((aP.trans aQ).trans aS).trans aT).trans aU).trans aV).trans E).trans aW).trans aX).trans aY).trans aZ).trans a0;have:=au b am (λi z=>(d i z (by omega)).1) (N.then (a1.aj λc _ v=> .inr (by omega)));rw[(d 0 (by omega) (by omega)).2,(d 1 (by omega) (by omega)).2,(d 2 (by omega) (by omega)).2,(d 3 (by omega) (by omega)).2,(d 4 (by omega) (by omega)).2,(d 5 (by omega) (by omega)).2,(d 6 (by omega) (by omega)).2,(d 7 (by omega) (by omega)).2,(d 8 (by omega) (by omega)).2,(d 9 (by omega) (by omega)).2,(d 10 (by omega) (by omega)).2,(d 11 (by omega) (by omega)).2];exact this
theorem AOb {z:Int}(a: -9223372036854775808<=z)(b:z<=9223372036854775807):J8 J9 z=z:=by grind [J8,IntKind.bits,IntKind.signed]
theorem aD {a:Q6}{K:Q6->Prop}(b:K a):At (some a) K:=b
theorem AM4 {l:al}{c:aa}{key:A2K}{h:A2J}(t:key.size<=64)(n: ∀d:Nat,1<=d->d<=12->h (J6 J9 (d:Int)) c):AA l P SQ #[J7 key] c h:=by
 refine AE4 ?_;unfold Xj;refine Loop.rule (λm x e=> ∃(i:Nat) (a:Int),x=(a,(i:Int),())/\e=c/\m=key.size-i/\i<=key.size) ?_ ⟨0,2166136261,rfl,rfl,rfl,by omega⟩;rintro K m _ e ⟨i,a,rfl,f,rfl,u⟩ o;subst f;refine af.intro (λb=>?_) (λb=>?_)
 ·have v:i<key.size:=by simp at b;omega
  refine⟨⟨by grind,by show(i:Int)<_;omega⟩,o (key.size-(i+1)) _ _ (by omega) ⟨i+1,_,by rw[Ab (by omega)],rfl,rfl,by omega⟩⟩
 ·refine Loop.rule (λm x g=> ∃(i:Nat) (a:Int),x=(a,(i:Int),())/\g=e/\m=12-i/\1<=i/\i<=12) ?_ ⟨1,_,rfl,rfl,rfl,by omega,by omega⟩;rintro w m _ g ⟨i,a,rfl,f,rfl,p,q⟩ r;subst f;refine ai.mk λs j=>?_
  have k:s (false,()) g:=j _ _ (af.no rfl (n i p q));refine af.intro (λb=>?_) (λb=>k);have y:i<12:=by simp at b;omega
  cases z:((Gm .u32 a (3:Int))==(0:Int))
  ·exact k
  ·exact j _ _ (af.yes rfl (r (12-(i+1)) _ _ (by omega) ⟨i+1,_,by rw[Ab (by omega)],rfl,rfl,by omega,by omega⟩))
theorem Oa(i:Nat)(a b:List DL):DD i (a++b)=(DD i a).or (DD i b):=by grind [DD,decide]
theorem AHo {i:Nat}{l:List DL}(a: ∀x∈l,x.ht<=i):DD i l=none:=by simp_all [DD,GW]
theorem AKY {i:Nat}{l:List DL}{x:DL}(b:x∈l)(d:i<x.ht): ∃a,DD i l=some a:=by
 cases c:DD i l with
 |some a=>exact⟨a,rfl⟩
 |none=>have:=X7 c x b;omega
theorem Sa {ns:List DL}(c: ∀x∈ns,1<=x.ht/\x.ht<=12)(p:Nat):DD 0 (ns.drop p)=(ns[p]?).map λx=>⟨x.ag,0,none⟩:=by
 cases a:ns[p]? with
 |none=>rw[Wr (List.getElem?_eq_none_iff.1 a)];rfl
 |some x=>
  have b:=List.getElem?_eq_some_iff.1 a;rw[Fl b.1,b.2];have:=(c x (AK a)).1;unfold DD;rw[DS];simp[Fc Nat.zero_lt_one this]
def fY(nx:Nat->Nat->Q2)(p i:Nat)(v:Q2):Nat->Nat->Q2:=λa b=>if a=p/\b=i then v else nx a b
theorem KX {p:Pr}{f g:Nat->Q2}(a: ∀i,f i=g i):FW p f=FW p g:=by rw[show f=g from funext a]
theorem Xa {a b:Int}{f g:Nat->Q2}(c: ∀i,f i=g i):Dh f a b=Dh g a b:=by rw[show f=g from funext c]
theorem Lay.store {e:aa}{t:Nat}{ns:List DL}{nx:Nat->Nat->Q2}{s u:Int}(l:Lay e t ns nx s u){p i:Nat}(C:p<=ns.length)(z:i<12){v:Q2}{K:aa->Prop}
  (w: ∀c,Lay c t ns (fY nx p i v) s u->Mod (cS t ns) e c->c.size=e.size->K c):ae e (((addrAt t ns p).add 3).add (i*1)) (J5 v) K:=by
 rw[add_add,Bs];cases p with
 |zero=>
  show ae e ((⟨t,0,none⟩:Q6).add (3+i)) _ _;rw[Be,AI];refine ae.mk l.head (by rw[cZ];omega) λc d m o=>w c ⟨?_,λj x a=>⟨?_,(l.node j x a).2⟩,l.apart⟩ (m.aj λb _ d=> .inl d) o
  ·rw[d,AOz z,Xa (g:=fY nx 0 i v 0) (λh=>by simp[fY])]
  ·rw[m.get _ (Ai (l.node j x a).1) (l.node j x a).2,(l.node j x a).1,KX (g:=fY nx 0 i v (j+1)) (λh=>by simp[fY])]
 |succ p=>
  have k:=A2 (l:=ns) (i:=p) (by omega);have f:addrAt t ns (p+1)=⟨ns[p].ag,0,none⟩:=by simp[addrAt,k]
  rw[f,Be,AI];obtain⟨A,B⟩:=l.node p _ k;refine ae.mk A (by rw[RO];omega) λc d m o=>w c ⟨?_,λj x a=>⟨?_,(l.node j x a).2⟩,l.apart⟩ (m.aj λb _ d=> .inr ⟨_,AK k,d.symm⟩) o
  ·rw[m.get _ (Ai l.head) (λf=>B f.symm),l.head,Xa (g:=fY nx (p+1) i v 0) (λh=>by simp[fY])]
  ·by_cases q:j=p
   ·subst q;rw[k] at a;cases a;rw[d,vB,KX (g:=fY nx (j+1) i v (j+1)) (λh=>by simp[fY])]
   ·have hd:x.ag≠ns[p].ag:=by
     have n:=List.getElem?_eq_some_iff.1 a;have y:=List.pairwise_iff_getElem.1 l.apart;rcases Mz q with r|r
     ·have:=y j p n.1 (by omega) r;rw[n.2] at this;exact this
     ·have:=y p j (by omega) n.1 r;rw[n.2] at this;exact λf=>this f.symm
    rw[m.get _ (Ai (l.node j x a).1) hd,(l.node j x a).1,KX (g:=fY nx (p+1) i v (j+1)) (λh=>by simp[fY,q])]
def Eg(l:List Pr):Nat:=(l.map λx=>x.key.size+x.val.size).sum
structure cY (h:aa) (t:Nat) (ns:List DL) (l:List Pr):Prop where
 lay: ∃nx,Lay h t ns nx (l.length:Int) (Eg l:Int)/\kR ns nx
 bW:bW ns=l
 sorted:Sorted l
 aQ:BV l
theorem cY.mod {a c:aa}{t:Nat}{ns:List DL}{l:List Pr}{d:Nat->Prop}(T:cY a t ns l)(m:Mod d a c)(e: ∀b,cS t ns b-> ¬d b):cY c t ns l:=by obtain⟨nx,L,K⟩:=T.lay;exact⟨⟨nx,L.mod m e,K⟩,T.bW,T.sorted,T.aQ⟩
theorem cY.ext {a b:aa}{t:Nat}{ns:List DL}{l:List Pr}(T:cY a t ns l)(m:Ext a b):cY b t ns l:=T.mod m λ_ _ a=>a
theorem cY.lt {a:aa}{t:Nat}{ns:List DL}{l:List Pr}(T:cY a t ns l){b:Nat}(c:cS t ns b):b<a.size:=by obtain⟨nx,L,_⟩:=T.lay;exact L.lt c
theorem sS {d:al}{a:aa}{c:A2J}(e: ∀b,cY b a.size [] []->Ext a b->b.size=a.size+1->c (J5 (some ⟨a.size,0,none⟩)) b):AA d P QZ #[] a c:=by
 refine AK4 ?_;unfold uV;refine ao.mk λf _ g h j=>e f ⟨⟨λ_ _=>none,⟨g,λl x a=>by simp at a,List.Pairwise.nil⟩,⟨λp i k m _=>?_,λx a=>by cases a⟩⟩,rfl,List.Pairwise.nil,λx a=>by cases a⟩ h j
 have:p=0:=by simpa using k
 subst this;rfl
theorem Ny(l m:List Pr):Eg (l++m)=Eg l+Eg m:=by simp[Eg,List.sum_append]
theorem R5(x:Pr)(l:List Pr):Eg (x::l)=x.key.size+x.val.size+Eg l:=by simp[Eg]
theorem AKy {l:List Pr}(g:BV l):Eg l<=l.length*8256:=by
 induction l with
 |nil=>simp[Eg]
 |cons x l a=>
  have d:=a λb c=>g b (by simp[c])
  have e:=g x (by simp);have f:x.key.size<=64/\x.val.size<=8192:=by grind [Aj]
  rw[R5,A6,Bm];omega
theorem vD {x:Pr}(a:Aj x=0):x.key.size<=64/\x.val.size<=8192:=by grind [Aj]
theorem AMd {p a:Pr}{nx:Nat->Q2}:(((FW p nx).setIfInBounds 0 (J7 a.key)).setIfInBounds 1 (J7 a.val)).setIfInBounds 2 (J3 a.gone)=FW a nx:=by apply Array.toList_inj.1;rw[DQ,DQ,DQ];rfl
theorem gQ.zero {ns:List DL}{key:A2K}{p:Nat}(d: ∀x∈ns,1<=x.ht/\x.ht<=12)(b:VO ns key 0 p):p=aR key (bW ns):=by
 rcases Ft p (aR key (bW ns)) with a|a
 ·have e:=Ya key ns;have c:=A2 (l:=ns) (i:=p) (by omega);have f:=b.last p _ (A0 _) a c;have g:=d _ (AK c);omega
 ·have:=b.le;omega
def fZ(nx:Nat->Nat->Q2)(c:Nat->Nat)(b:Q6)(i:Nat):Nat->Nat->Q2:=λp a=>if a<i/\p=c a then some b else nx p a
def jT(nx:Nat->Nat->Q2)(b:Nat->Nat)(i:Nat):Nat->Q2:=λa=>if a<i then nx (b a) a else none
def gR(nx:Nat->Nat->Q2)(c:Nat->Nat)(b:Q6)(d a:Nat):Nat->Nat->Q2:=λp i=>if p<=a then fZ nx c b d p i else if p=a+1 then jT nx c d i else fZ nx c b d (p-1) i
theorem vE {c:Type}{ns:List c}{x:c}{a b:Nat}(d:a<=ns.length):(ns.take a++x::ns.drop a)[b]? =if b<a then ns[b]? else if b=a then some x else ns[b-1]? :=by grind
theorem AOS {b:Type}{ns:List b}{x:b}{a p:Nat}(c:a<=ns.length)(d:p<=a):(ns.take a++x::ns.drop a).drop p=(ns.take a).drop p++x::ns.drop a:=by grind
theorem AMe {b:Type}{ns:List b}{x:b}{a p:Nat}(c:a<=ns.length)(d:a<p):(ns.take a++x::ns.drop a).drop p=ns.drop (p-1):=by rw[P4,Wr (by simp;omega),DA];simp only[As,Fk c];rw[show p-a=(p-a-1)+1 by omega,HU,HW];congr 1;omega
theorem kR.insert {ns:List DL}{nx:Nat->Nat->Q2}{key:A2K}(K:kR ns nx){d:Nat->Nat}(s: ∀i,i<12->VO ns key i (d i)){x:DL}(E:1<=x.ht/\x.ht<=12):
  kR (ns.take (aR key (bW ns))++x::ns.drop (aR key (bW ns))) (gR nx d ⟨x.ag,0,none⟩ x.ht (aR key (bW ns))):=by
 have t:=Ya key ns;generalize j:aR key (bW ns)=a at*
 refine⟨λp i J g n=>?_,λh b=>?_⟩
 ·unfold gR;split
  ·rename_i w;have o:i<TI ns p:=by
    cases p with
    |zero=>exact g
    |succ p=>
     unfold TI at n ⊢
     grind
   have y:=K.link p i (by omega) g o;have z:ns.drop p=(ns.take a).drop p++ns.drop a:=by grind [List.take_append_drop]
   have f:=s i g;rw[AOS t w,Oa];unfold fZ;by_cases q:i<x.ht
   ·have F:DD i (x::ns.drop a)=some ⟨x.ag,0,none⟩:=by grind [DD]
    rw[F];by_cases u:p=d i
    ·rw[if_pos ⟨q,u⟩,AHo λh b=>?_]
     ·rfl
     ·obtain⟨A,B,L⟩:=Dd b;simp at B;have M:(ns.take a).drop p=(ns.take a).drop p:=rfl;refine f.last (p+A) h (by omega) (by rw[j];omega) ?_
      grind
    ·rw[if_neg (λe=>u e.2),y,z,Oa];have G:p<d i:=by
      rcases IS p (d i) with e|e|e
      ·exact e
      ·exact absurd e u
      ·exfalso;cases p with
       |zero=>omega
       |succ p=>
        have r:=A2 (l:=ns) (i:=p) (by omega);have N:=f.last p _ (by omega) (by rw[j];omega) r;simp[TI,r] at o;omega
     have m:=f.le;rw[j] at m;have v:=f.ht;obtain⟨c,H⟩: ∃c,d i=c+1:=⟨d i-1,by omega⟩;rw[H] at v G m;have r:=A2 (l:=ns) (i:=c) (by omega);simp[TI,r] at v;have I:ns[c]∈(ns.take a).drop p:=by
      refine AK (i:=c-p) ?_
      grind
     obtain⟨h,b⟩:=AKY I v;rw[b];rfl
   ·rw[if_neg (λe=>q e.1),y,z,Oa];have:DD i (x::ns.drop a)=DD i (ns.drop a):=by grind [DD]
    rw[this]
  ·rename_i w;rw[AMe t (by omega)];split
   ·rename_i C;subst C;have q:i<x.ht:=by
     unfold TI at n
     simp_all
    have f:=s i g;have m:=f.le;rw[j] at m;unfold jT;rw[if_pos q,K.link (d i) i (by omega) g f.ht,AGP (k:=a-d i) (by simp;omega) λA h B b=>?_]
    ·rw[HW];congr 2;omega
    ·rw[BY] at b;exact f.last _ h (by omega) (by rw[j];omega) b
   ·rename_i C;obtain⟨c,rfl⟩: ∃c,p=c+1:=⟨p-1,by omega⟩;rw[MA];have O:(ns.take a++x::ns.drop a).length=ns.length+1:=by simp;omega
    have o:i<TI ns c:=by
     unfold TI at n;simp only at n;rw[vE t,if_neg (by omega),if_neg (by omega)] at n;obtain⟨D,rfl⟩: ∃D,c=D+1:=⟨c-1,by omega⟩
     simp_all [TI]
    have m:=(s i g).le;rw[j] at m;unfold fZ;rw[if_neg (λe=>by omega)];exact K.link c i (by omega) g o
 ·rw[HS,HM] at b;rcases b with b|rfl|b
  ·exact K.ht h (DB b)
  ·exact E
  ·exact K.ht h (HX b)
set_option maxHeartbeats 1000000 in
theorem sT {bU:al}{s:aa}{t:Nat}{ns:List DL}{l:List Pr}{x:Pr}{an:A2J}(T:cY s t ns l)(cK:l.length<1099511627776)
  (ap: ∀ba aq,cY aq t ba (CZ x l)->Mod (cS t ns) s aq->(∀ b,cS t ba b->cS t ns b\/s.size<=b)->an (J6 J9 (Aj x)) aq):
  AA bU P KS #[J5 (some ⟨t,0,none⟩),.agg #[J7 x.key,J7 x.val,J3 x.gone]] s an:=by
 refine Zo ?_;unfold Sg;refine ao.mk λe _ u ar cL=>?_
 have bb:=T.ext ar;have au:Aj x≠0->an (J6 J9 (Aj x)) e:=λw=>ap ns e (by simpa [CZ,w] using bb) ar.mod (λb u=> .inl u)
 refine ai.mk λK av=>?_
 have aw:(decide (x.key=⟨#[]⟩)||(x.gone&& !decide (x.val=⟨#[]⟩)))=true->K (true,()) e:=λj=>av _ _ (af.yes rfl (by
  have w:Aj x=1:=by unfold Aj;rw[if_pos j]
  have:=au (by rw[w];decide);rw[w] at this;exact this))
 have bc:(decide (x.key=⟨#[]⟩)||(x.gone&& !decide (x.val=⟨#[]⟩)))=false->K (false,()) e:=λj=>av _ _ (af.no rfl (by
  refine ai.mk λbd ax=>?_
  have ay:(decide (x.key.size>64)||decide (x.val.size>8192))=true->bd (true,()) e:=λaz=>ax _ _ (af.yes rfl (by
   have w:Aj x=2:=by unfold Aj;rw[if_neg (by simp[j]),if_pos az]
   have:=au (by rw[w];decide);rw[w] at this;exact this))
  have bV:(decide (x.key.size>64)||decide (x.val.size>8192))=false->bd (false,()) e:=λaz=>ax _ _ (af.no rfl (by
   have w:Aj x=0:=by unfold Aj;rw[if_neg (by simp[j]),if_neg (by simp[az])]
   have bX:=vD w;clear aw ax av ay au;obtain⟨nx,aA,D⟩:=bb.lay;have V:CZ x l=ins x l:=Qu w;have be:=Pj (x:=x) T.sorted;have bf:=vH (x:=x) T.aQ;have L:=T.bW;have bY:Sorted (bW ns):=by rw[L];exact T.sorted
   have cM:ns.length=l.length:=by rw[<- L];simp
   have cN:=AKy T.aQ;refine AJ.mk (AL u rfl) ?_;refine qL aA D bY λk F r W=>⟨_,_,_,_,_,_,_,_,_,_,_,_,rfl,?_⟩
   have aC:=gQ.zero D.ht (r 0 (by omega));have bg:=aA.ext W;refine ao.mk λbZ _ b0 b1 cO=>?_
   have b2:bZ[F.size]? =some (J2 (cT (λ_=>none)).toArray Dz (0,0)):=b0;simp only[Be,AI];refine ae.mk b2 (by simp[Ba]) λcP aE bh b3=>?_
   rw[IQ _ rfl] at aE;refine ae.mk aE (by simp[Ba]) λcQ aF M b4=>?_
   rw[IQ _ rfl] at aF;refine ae.mk aF (by simp[Ba]) λcR aG bi b5=>?_
   rw[IQ _ rfl] at aG;refine ae.mk aG (by simp[Ba]) λcU aH bj b6=>?_
   rw[IQ _ rfl] at aH;refine ae.mk aH (by simp[Ba]) λcV aI bk b7=>?_
   rw[IQ _ rfl] at aI;refine ae.mk aI (by simp[Ba]) λcW aJ bm b8=>?_
   rw[IQ _ rfl] at aJ;refine ae.mk aJ (by simp[Ba]) λcX aK bn b9=>?_
   rw[IQ _ rfl] at aK;refine ae.mk aK (by simp[Ba]) λc0 aL bo ca=>?_
   rw[IQ _ rfl] at aL;refine ae.mk aL (by simp[Ba]) λc1 aM bp cb=>?_
   rw[IQ _ rfl] at aM;refine ae.mk aM (by simp[Ba]) λc2 aN bq cc=>?_
   rw[IQ _ rfl] at aN;refine ae.mk aN (by simp[Ba]) λc3 aO br cd=>?_
   rw[IQ _ rfl] at aO;refine ae.mk aO (by simp[Ba]) λf aP bs ce=>?_
   rw[IQ _ rfl] at aP;have aQ:f[F.size]? =some (J2 (cT (λi=>some (addrAt t ns (k i)))).toArray Dz (0,0)):=by rw[aP];congr 3
   have bt:=((((((((((bh.trans M).trans bi).trans bj).trans bk).trans bm).trans bn).trans bo).trans bp).trans bq).trans br).trans bs;have X:Ext F f:=b1.then (bt.aj λc _ j=> .inr (by omega));have c4:=X.size;have c5:=Ai aQ;have c6:=W.size;clear bt aE aF aG aH aI aJ aK aL aM aN aO aP bh M bi bj bk bm bn bo bp bq br bs b3 b4 b5 b6 b7 b8 b9 ca cb cc cd ce;have y:=bg.ext X;have G:f[s.size]? =some (J2 #[J7 x.key,J7 x.val,J3 x.gone] AQ (0,0)):=X.ag (W.ag u (by simp)) (by simp);have cf:=Ya x.key ns;have aS:Ext s f:=ar.trans (W.trans X);refine⟨by omega,AX.mk (Cs aQ (i:=0) (by omega)) ⟨by omega,AX.mk (y.next (p:=k 0) (i:=0) (by rw[aC];omega) (by omega)) ?_⟩⟩;have cg:nx (k 0) 0=(ns[aR x.key (bW ns)]?).map λd=>⟨d.ag,0,none⟩:=by rw[D.link (k 0) 0 (by rw[aC];omega) (by omega) (r 0 (by omega)).ht,aC,Sa D.ht]
   rw[cg];have Y:BH x.key l=match ns[aR x.key (bW ns)]? with|some d=>decide (d.pr.key=x.key)|none=>false:=by
    unfold BH
    grind
   generalize aT:aR x.key (bW ns)=a at*
   have Z:aR x.key l=a:=by rw[<- L];exact aT
   have ab:YQ x l=ins x l:=nf x l;refine ai.mk λbu bv=>?_
   have ch: ∀d,ns[a]? =some d->d.pr.key=x.key->bu (true,()) f:=λd n E=>bv _ _ (af.yes rfl (by
    have H:=List.getElem?_eq_some_iff.1 n;have ci:a<ns.length:=H.1;rw[n];have cj:=y.pair n;have c7:d.pr.key.size=x.key.size:=by rw[E]
    refine AC.mk (AB y.head mf.2) (AJ.mk (AL G rfl) (AJ.mk cj.2.1 ?_));have ck: ∃aU:Nat,Eg l=d.pr.key.size+d.pr.val.size+aU/\Eg (CZ x l)=x.key.size+x.val.size+aU:=by
     have aV:l=l.take a++d.pr::l.drop (a+1):=by
      have aW:l[a]? =some d.pr:=by rw[<- L];simp[n]
      have e:=List.getElem?_eq_some_iff.1 aW;rw[<- e.2,<-Fl e.1,DE]
     have Q:CZ x l=l.take a++x::l.drop (a+1):=by rw[V,<-ab];unfold YQ;rw[Y,n,Z,if_pos (by simp[E])];simp
     refine⟨Eg (l.take a)+Eg (l.drop (a+1)),?_,?_⟩
     ·conv=>lhs;rw[aV]
      rw[Ny,R5];omega
     ·rw[Q,Ny,R5];omega
    obtain⟨aU,c8,c9⟩:=ck;have aX:J8 J9 ((Eg l:Int)+J8 J9 ((x.val.size:Int)-(d.pr.val.size:Int)))=(Eg (CZ x l):Int):=by
     have da:d.pr.val.size<=8192:=(vD (T.aQ d.pr (by grind))).2;have aV:J8 J9 ((x.val.size:Int)-(d.pr.val.size:Int))=(x.val.size:Int)-(d.pr.val.size:Int):=by exact AOb (by omega) (by omega)
     rw[aV,show(Eg l:Int)+((x.val.size:Int)-(d.pr.val.size:Int))=((Eg (CZ x l):Nat):Int) by omega];exact Eb (by omega)
    rw[aX];refine aD ?_;rw[Be,AI];refine ae.mk y.head (by rw[cZ];omega) λbw bx ac db=>?_
    rw[vC] at bx;have aY:=y.node a d n;have aZ:bw[s.size]? =some (J2 #[J7 x.key,J7 x.val,J3 x.gone] AQ (0,0)):=ac.ag G (by have:=aA.lt (.inl rfl:cS t ns t);have:=T.lt (.inl rfl:cS t ns t);omega);refine AJ.mk (AL aZ rfl) (AJ.mk (AL aZ rfl) (AZ.mk (AL aZ rfl) ?_));have cl:=ac.ag aY.1 aY.2;refine aD ?_;refine ae.mk cl (by rw[RO];omega) λdc cm cn dd=>?_
    rw[Be,Be];refine ae.mk cm (by rw[Pa,RO];omega) λde co cp df=>?_
    refine ae.mk co (by rw[Pa,Pa,RO];omega) λa0 bz cq dg=>?_
    simp only[AI] at bz;rw[AMd] at bz;have a1:Mod (λc=>c=d.ag) bw a0:=(cn.trans cp).trans cq;have a2:cS t ns t:= .inl rfl;have bA:cS t ns d.ag:= .inr ⟨d,AK n,rfl⟩;rw[<- w];refine ap (ns.set a {d with pr:=x}) a0 ⟨⟨nx,⟨?_,λq z h=>?_,?_⟩,⟨λp i ad ag bB=>?_,λz h=>?_⟩⟩,?_,be,bf⟩ ?_ λb u=>?_
    ·have a3:(CZ x l).length=l.length:=by rw[V,<-ab];unfold YQ;rw[Y,n,Z,if_pos (by simp[E])];simp;omega
     rw[a3];exact a1.ag bx (λo=>aY.2 o.symm)
    ·rw[Mn] at h;split at h
     ·grind
     ·rename_i N;have A:=y.node q z h;refine⟨?_,A.2⟩;refine a1.ag (ac.ag A.1 A.2) ?_;have e:=List.getElem?_eq_some_iff.1 h;have bC:=List.pairwise_iff_getElem.1 y.apart;rcases Mz N with a4|a4
      ·have:=bC a q H.1 e.1 a4;rw[e.2,H.2] at this;exact λo=>this o.symm
      ·have:=bC q a e.1 H.1 a4;rw[e.2,H.2] at this;exact this
    ·have o:(ns.set a {d with pr:=x}).map (·.ag)=ns.map (·.ag):=by
      rw[Pc];apply List.ext_getElem?;intro q;rw[Mn];split
      ·rename_i N;subst N;simp[H.1,H.2]
      ·rfl
     have e:(ns.map (·.ag)).Pairwise (· ≠ ·):=List.pairwise_map.2 y.apart;rw[<- o] at e;exact List.pairwise_map.1 e
    ·rw[Pl] at ad;have cr:TI (ns.set a {d with pr:=x}) p=TI ns p:=by
      cases p with
      |zero=>rfl
      |succ p=>
       unfold TI;simp only;rw[Mn];by_cases N:a=p
       ·subst N;rw[if_pos rfl,if_pos ci,n]
       ·rw[if_neg N]
     rw[cr] at bB;rw[D.link p i ad ag bB];have key: ∀m:List DL,∀a,m[a]? =some d->DD i (m.set a {d with pr:=x})=DD i m:=by
      intro m
      induction m with
      |nil=>intro a s;simp at s
      |cons z m cs=>
       intro a s;cases a with
       |zero=>simp at s;subst s;by_cases hd:i<z.ht<;>simp[DD,hd]
       |succ a=>
        have:=cs a (by simpa using s);unfold DD at this ⊢;rw[List.set_cons_succ,DS,DS];split
        ·rfl
        ·exact this
     rcases Ft a p with e|e
     ·rw[XS e]
     ·rw[List.drop_set];rw[if_neg (by omega)];exact(key _ _ (by rw[BY];rw[<- n];congr 1;omega)).symm
    ·obtain⟨q,I,o⟩:=Dd h;rw[List.getElem_set] at o;split at o
     ·subst o;exact D.ht d (AK n)
     ·subst o;exact D.ht _ (AW _)
    ·rw[V,<-ab];unfold YQ;rw[Y,n,Z,if_pos (by simp[E])];show(ns.set a {d with pr:=x}).map (·.pr)=_;rw[Pc,Zs];have:(ns.map (·.pr))=l:=L;rw[this];have aW:a<l.length:=by omega
     simp[aW]
    ·have M:Mod (cS t ns) f a0:=(ac.aj λc _ j=>by subst j;exact a2).trans (a1.aj λc _ j=>by subst j;exact bA);exact aS.mod.trans M
    ·rcases u with rfl|⟨z,h,rfl⟩
     ·exact .inl (.inl rfl)
     ·obtain⟨q,I,o⟩:=Dd h;rw[List.getElem_set] at o;split at o
      ·subst o;exact .inl bA
      ·subst o;exact .inl (.inr ⟨_,AW _,rfl⟩)))
   have bD:BH x.key l=false->bu (false,()) f:=λa2=>bv _ _ (af.no rfl (by
    refine AJ.mk (AL G rfl) (AJ.mk (AL G rfl) (AZ.mk (AL G rfl) ?_));refine ao.mk λbE _ ct ah dh=>?_
    have bF:=ah.ag G (by simp);refine AJ.mk (AL bF rfl) ?_;refine AM4 bX.1 λB cu cv=>⟨_,rfl,?_⟩
    have cw:bE[f.size]? =some (J2 (FW x (λ_=>none)) Ra (0,0)):=ct;have cx:=y.ext ah;have bG: ∀i,i<12->k i<=ns.length:=λi ag=>by have:=(r i ag).le;rw[aT] at this;omega
    have cy:=ah.ag aQ (by simp);have a5: ∀c,cS t ns c->c<f.size:=λc j=>y.lt j
    have cz: ∀c,cS t ns c->c<F.size:=λc j=>bg.lt j
    refine Loop.rule (λm d C=> ∃i:Nat,d=((i:Int),())/\m=B-i/\i<=B/\Mod (λc=>cS t ns c\/c=f.size) bE C/\Lay C t ns (fZ nx k ⟨f.size,0,none⟩ i) (l.length:Int) (Eg l:Int)/\C[f.size]? =some (J2 (FW x (jT nx k i)) Ra (0,0))) ?_
     ⟨0,rfl,rfl,by omega,Mod.refl,?_,?_⟩
    rotate_left
    ·have:fZ nx k ⟨f.size,0,none⟩ 0=nx:=by funext p B;simp[fZ]
     rw[this];exact cx
    ·have:jT nx k 0=λ_=>none:=by funext B;simp[jT]
     rw[this];exact cw
    rintro cB m _ C ⟨i,rfl,rfl,ag,R,J,bH⟩ cC;have di:=R.size;have bI:C[F.size]? =some (J2 (cT (λi=>some (addrAt t ns (k i)))).toArray Dz (0,0)):=R.ag cy (λa6=>a6.elim (λe=>by have:=cz _ e;omega) (λe=>by omega));refine af.intro (λj=>?_) (λj=>?_)
    ·have bJ:i<B:=by simpa using j
     have O:i<12:=by omega
     have S:(0:Int)<=(i:Int)/\(i:Int)<(12:Int):=⟨by omega,by omega⟩;refine⟨S,?_⟩;show AX C ⟨F.size,i*1,none⟩ _;rw[Bs];refine AX.mk (Cs bI O) ⟨S,?_⟩;show AX C (((addrAt t ns (k i)).add 3).add (i*1)) _;refine AX.mk (J.next (p:=k i) (i:=i) (bG i O) O) ⟨S,?_⟩;have cD:fZ nx k ⟨f.size,0,none⟩ i (k i) i=nx (k i) i:=by simp[fZ]
     show ae C ⟨f.size,3+i*1,none⟩ (J5 (fZ nx k ⟨f.size,0,none⟩ i (k i) i)) _;rw[cD,Bs];refine ae.mk bH (by rw[RO];omega) λbK bL a7 dj=>?_
     rw[vB] at bL;have cE:=J.mod a7 (λc j o=>by have:=a5 c j;omega);refine⟨S,?_⟩;show AX bK ⟨F.size,i*1,none⟩ _;rw[Bs];refine AX.mk (Cs (a7.ag bI (by omega)) O) ⟨S,?_⟩;show ae bK (((addrAt t ns (k i)).add 3).add (i*1)) (J5 (some ⟨f.size,0,none⟩)) (λbM=>cB (J8 J9 ((i:Int)+(1:Int)),()) bM);refine cE.store (p:=k i) (i:=i) (bG i O) O (v:=some ⟨f.size,0,none⟩) (λbM bN bO dk=>?_)
     ·refine cC (B-(i+1)) _ _ (by omega) ⟨i+1,by rw[Ab (by omega)],rfl,by omega,(R.trans (a7.aj λc _ j=> .inr j)).trans (bO.aj λc _ j=> .inl j),?_,?_⟩
      ·have:fY (fZ nx k ⟨f.size,0,none⟩ i) (k i) i (some ⟨f.size,0,none⟩)=fZ nx k ⟨f.size,0,none⟩ (i+1):=by
        funext p q;unfold fY fZ;by_cases I:q=i
        ·subst I
         grind
        ·by_cases ad:p=k q<;>simp[ad,I,Nat.lt_succ_iff,ZS]
       rw[this] at bN;exact bN
      ·rw[bO.ag bL (λj=>by have:=a5 _ j;omega),KX (g:=jT nx k (i+1)) (λq=>?_)];unfold jT;by_cases I:q=i
       ·subst I;simp
       ·simp[I,Nat.lt_succ_iff,ZS]
    ·have bJ:i=B:=by simp at j;omega
     subst bJ;refine AC.mk (AB J.head mf.1) ?_;refine aD ?_;rw[Be,AI];refine ae.mk J.head (by rw[cZ];omega) λdl a8 bP dm=>?_
     rw[AMU] at a8;have bQ:cS t ns t:= .inl rfl;have dn:=T.lt bQ;have cF:C[s.size]? =some (J2 #[J7 x.key,J7 x.val,J3 x.gone] AQ (0,0)):=R.ag bF (λa6=>a6.elim (λe=>by have:=T.lt e;omega) (λe=>by omega));have bR:=bP.ag cF (by omega);refine aD ?_;rw[Be,AI];refine AC.mk (AL a8 mf.2) (AJ.mk (AL bR rfl) (AJ.mk (AL bR rfl) (aD ?_)));rw[Be,AI];refine ae.mk a8 (by rw[cZ];omega) λaj a9 cG dp=>?_
     rw[vC] at a9;have Q:CZ x l=l.take a++x::l.drop a:=by rw[V,<-ab];unfold YQ;rw[a2,Z];simp
     have dq:Eg (CZ x l)=Eg l+(x.key.size+x.val.size):=by
      rw[Q,Ny,R5];have:Eg l=Eg (l.take a)+Eg (l.drop a):=by rw[<- Ny,DE]
      omega
     have a3:(CZ x l).length=l.length+1:=by rw[Q];simp;omega
     have aX:J8 J9 ((l.length:Int)+(1:Int))=((CZ x l).length:Int):=by rw[a3];exact Ab (by omega)
     have cH:J8 J9 ((Eg l:Int)+J8 J9 ((x.key.size:Int)+(x.val.size:Int)))=(Eg (CZ x l):Int):=by rw[show((x.key.size:Int)+(x.val.size:Int))=((x.key.size+x.val.size:Nat):Int) by omega,Eb (by omega),show(Eg l:Int)+((x.key.size+x.val.size:Nat):Int)=((Eg (CZ x l):Nat):Int) by omega];exact Eb (by omega)
     rw[aX,cH] at a9;have mt:Mod (λc=>c=t) C aj:=bP.trans cG;have cI:=mt.ag bH (by omega);rw[<- w];refine ap (ns.take a++⟨f.size,x,i⟩::ns.drop a) aj ⟨⟨gR nx k ⟨f.size,0,none⟩ i a,⟨?_,λq z h=>?_,?_⟩,?_⟩,?_,be,bf⟩ ?_ λb u=>?_
     ·rw[a9,Xa (g:=gR nx k ⟨f.size,0,none⟩ i a 0) (λB=>?_)];simp[gR]
     ·rw[vE cf] at h;split at h
      ·rename_i cJ;have A:=J.node q z h;refine⟨?_,A.2⟩;rw[mt.ag A.1 A.2,KX (g:=gR nx k ⟨f.size,0,none⟩ i a (q+1)) (λB=>?_)];unfold gR;rw[if_pos (by omega)]
      ·rename_i cJ;split at h
       ·rename_i bS;subst bS;cases h;refine⟨?_,by grind⟩;show aj[f.size]? =_;rw[cI,KX (g:=gR nx k ⟨f.size,0,none⟩ i q (q+1)) (λB=>?_)];unfold gR
        grind
       ·rename_i bS;obtain⟨ak,rfl⟩: ∃ak,q=ak+1:=⟨q-1,by omega⟩;rw[MA] at h;have A:=J.node ak z h;refine⟨?_,A.2⟩;rw[mt.ag A.1 A.2,KX (g:=gR nx k ⟨f.size,0,none⟩ i a (ak+1+1)) (λB=>?_)];unfold gR
        grind
     ·have e:=J.apart;have bT: ∀z∈ns,z.ag≠f.size:=λz h o=>by have:=a5 z.ag (.inr ⟨z,h,rfl⟩);omega
      rw[<- DE a ns] at e;rw[List.pairwise_append] at e ⊢;refine⟨e.1,List.pairwise_cons.2 ⟨λz h=>λo=>bT z (HX h) o.symm,e.2.1⟩,λd n z h=>?_⟩;rcases List.mem_cons.1 h with rfl|h
      ·exact bT d (DB n)
      ·exact e.2.2 d n z h
     ·have:=D.insert (key:=x.key) r (x:=⟨f.size,x,i⟩) ⟨cu,cv⟩;rw[aT] at this;exact this
     ·show(ns.take a++⟨f.size,x,i⟩::ns.drop a).map (·.pr)=_;have:(ns.map (·.pr))=l:=L;rw[Q,<-this];simp[List.map_take,List.map_drop]
     ·have M:Mod (λc=>cS t ns c\/c=f.size) f aj:=(ah.mod.trans R).trans (mt.aj λc _ j=>by subst j;exact .inl bQ);exact aS.mod.then (M.aj λc _ j=>j.elim .inl λe=> .inr (by have:=aS.size;omega))
     ·rcases u with rfl|⟨z,h,rfl⟩
      ·exact .inl (.inl rfl)
      ·rw[HS,HM] at h;rcases h with h|rfl|h
       ·exact .inl (.inr ⟨z,DB h,rfl⟩)
       ·grind
       ·exact .inl (.inr ⟨z,HX h,rfl⟩)))
   cases n:ns[a]? with
   |none=>
    refine af.no rfl (bD ?_);rw[Y,n]
   |some d=>
    refine af.yes rfl ?_;refine AJ.mk (y.pair n).1 (AJ.mk (AL G rfl) ?_);rw[Cn];by_cases E:d.pr.key=x.key
    ·rw[decide_eq_true E];exact ch d n E
    ·rw[decide_eq_false E];exact bD (by grind)))
  refine AJ.mk (AL u rfl) ?_;refine af.intro (λr=>?_) (λr=>?_)
  ·exact ay (by simp at r;simp;omega)
  ·refine AJ.mk (AB u rfl) ?_;simp at r;cases U:decide ((x.val.size:Int)>(8192:Int))
   ·exact bV (by simp at U;simp;omega)
   ·exact ay (by simp at U;simp;omega)))
 refine af.no rfl ?_;refine AJ.mk (AL u rfl) ?_;rw[Cn];refine af.intro (λr=>?_) (λr=>?_)
 ·exact aw (by simp at r;simp[r])
 ·refine AZ.mk (AB u rfl) ?_;simp at r;refine af.intro (λam=>?_) (λam=>?_)
  ·refine AJ.mk (AB u rfl) ?_;rw[Cn];cases U:(!decide (x.val=⟨#[]⟩))
   ·exact bc (by simp[r,am,U])
   ·exact aw (by simp[r,am,U])
  ·exact bc (by simp[r,am])
theorem sQ {c:al}{a:aa}{t:Nat}{ns:List DL}{l:List Pr}{b:A2J}(T:cY a t ns l)(d:b (J1 #[J6 J9 (l.length:Int),J6 J9 (Eg l:Int)]) a):AA c P KR #[J5 (some ⟨t,0,none⟩)] a b:=by obtain⟨nx,L,_⟩:=T.lay;refine AAk ?_;unfold Sw;refine af.no rfl ?_;exact AC.mk (AB L.head mf.1) (AC.mk (AB L.head mf.2) d)
def Uh:Pr:=⟨⟨#[]⟩,⟨#[]⟩,false⟩
def NP(key:A2K)(l:List Pr):Pr×Bool:=match l[aR key l]? with|some a=>if a.key=key then(a,true) else(Uh,false)|none=>(Uh,false)
theorem three {a:aa}{b:Nat}{T:Q7}{j c1 c2:J0}{f v:A2K}{g:Bool}{K:aa->Prop}(k:a[b]? =some (J2 #[j,c1,c2] T (0,0)))
  (l: ∀d,d[b]? =some (J2 #[J7 f,J7 v,J3 g] T (0,0))->Mod (λc=>c=b) a d->K d):
  ae a ⟨b,0,none⟩ (J7 f) λh=>ae h ((⟨b,0,none⟩:Q6).add 1) (J7 v) λi=>ae i ((⟨b,0,none⟩:Q6).add 2) (J3 g) λe=>K e:=by
 refine ae.mk k (by simp) λh m n s=>?_
 rw[Be,Be];refine ae.mk m (by simp) λi o p t=>?_
 refine ae.mk o (by simp) λe q r u=>?_
 exact l e (by simpa using q) ((n.trans p).trans r)
theorem vF {c d:aa}{t:Nat}{ns:List DL}{nx:Nat->Nat->Q2}{g h:Int}{key:A2K}{a:Nat->Nat}(L:Lay c t ns nx g h)(K:kR ns nx)(e: ∀i,i<12->VO ns key i (a i))(x:Ext c d):
  ah d (((addrAt t ns (a 0)).add 3).add (0*1))=some (J5 ((ns[aR key (bW ns)]?).map λj=>⟨j.ag,0,none⟩)):=by
 have b:=gQ.zero K.ht (e 0 (by omega));have f:=Ya key ns;have k:=(L.ext x).next (p:=a 0) (i:=0) (by rw[b];exact f) (by omega);rw[k,K.link (a 0) 0 (by rw[b];exact f) (by omega) (e 0 (by omega)).ht,b,Sa K.ht]
theorem AQR {z:al}{d:aa}{t:Nat}{ns:List DL}{l:List Pr}{key:A2K}{m:A2J}(T:cY d t ns l)(A: ∀r,Ext d r->m (J1 #[(NP key l).1.agg,J3 (NP key l).2]) r):
  AA z P Nb #[J5 (some ⟨t,0,none⟩),J7 key] d m:=by
 obtain⟨nx,L,s⟩:=T.lay;refine AAD ?_;unfold Sy;refine ao.mk λI _ B n J=>af.no rfl ?_
 have C:Sorted (bW ns):=by rw[T.bW];exact T.sorted
 refine qL (L.ext n) s C λM o D p=>⟨_,_,_,_,_,_,_,_,_,_,_,_,rfl,?_⟩
 refine aD ⟨by omega,AX.mk (vF (L.ext n) s D p) ?_⟩;have u:=p.ag B (by simp);have v:Ext d o:=n.trans p;have E:=L.ext v;have ah:NP key l=match ns[aR key (bW ns)]? with|some f=>if f.pr.key=key then(f.pr,true) else(Uh,false)|none=>(Uh,false):=by unfold NP;rw[<- T.bW];rw[show bW ns=ns.map (·.pr) from rfl,C5];cases ns[aR key (ns.map (·.pr))]? <;>rfl
 have w: ∀(g:Pr) (b:Bool) a,a[d.size]? =some (J2 #[J7 g.key,J7 g.val,J3 g.gone] AQ (0,0))->Mod (λc=>c=d.size) o a->NP key l=(g,b)->
   (AJ a (⟨d.size,0,none⟩:Q6) λF=>AJ a ((⟨d.size,0,none⟩:Q6).add 1) λG=>AZ a ((⟨d.size,0,none⟩:Q6).add 2) λH=>m (J1 #[.agg #[J7 F,J7 G,J3 H],J3 b]) a):=λg b a e h q=>by
  refine AJ.mk (AL e rfl) (AJ.mk (AB e rfl) (AZ.mk (AB e rfl) ?_));have:=A a (v.then (h.aj λc _ N=> .inr (by omega)));rw[q] at this;exact this
 refine ai.mk λK x=>?_
 have y:NP key l=(Uh,false)->K (false,()) o:=λq=>x _ _ (af.no rfl (three u λa e h=>w Uh false a e h q))
 cases i:ns[aR key (bW ns)]? with
 |none=>
  rw[i] at ah;exact af.no rfl (y ah)
 |some f=>
  rw[i] at ah;refine af.yes rfl (aD ?_);have j:=E.pair i;refine AJ.mk j.1 ?_;rw[Cn];by_cases k:f.pr.key=key
  ·rw[decide_eq_true k];refine x _ _ (af.yes rfl ?_);rw[i];refine aD (AJ.mk j.1 (AJ.mk j.2.1 (AZ.mk j.2.2 ?_)));simp only[k,if_true] at ah;exact three u λa e h=>w f.pr true a e h ah
  ·rw[decide_eq_false k];simp only[k,if_false] at ah;exact y ah
theorem sK {a c b:J0}:(#[]++ #[a]++ #[c,b]:Array J0)= #[a,c,b]:=rfl
theorem APu {A:al}{s:aa}{b c t:Nat}{T U:Q7}{fr V:Nat×Nat}{ns:List DL}{l:List Pr}{key:A2K}(f:s[b]? =some (J2 #[J5 (some ⟨t,0,none⟩)] T fr))(I:s[c]? =some (J2 #[J7 key] U V))(j:cY s t ns l):
  ES A P (.func (.func Ka) #[] #[J5 (some ⟨b,0,none⟩),J5 (some ⟨c,0,none⟩)]) (λe=>cS t ns e\/e=b\/e=c) s (l.drop (aR key l)):=by
 refine⟨?_,_,_,rfl,λW=>by kernel_rfl,λd u W X k h hd hB Y Z=>?_⟩
 ·rintro e (hd|rfl|rfl)
  ·exact j.lt hd
  ·exact Ai f
  ·exact Ai I
 rw[sK];refine Vq ?_;unfold PG;have J:=(u b (.inr (.inl rfl))).trans f;have ab:=(u c (.inr (.inr rfl))).trans I;obtain⟨nx,v,o⟩:=j.lay;have L:Lay d t ns nx (l.length:Int) (Eg l:Int):=
  ⟨(u t (.inl (.inl rfl))).trans v.head,λa x z=>⟨(u x.ag (.inl (.inr ⟨x,AK z,rfl⟩))).trans (v.node a x z).1,(v.node a x z).2⟩,v.apart⟩
 have M: ∀e,cS t ns e-> ¬k e:=λe ac=>hd e (.inl ac)
 refine AX.mk (AL J rfl) (af.no rfl (AX.mk (AL J rfl) (AJ.mk (AL ab rfl) ?_)));have ad:Sorted (bW ns):=by rw[j.bW];exact j.sorted
 refine qL L o ad λap ae q B=>⟨_,_,_,_,_,_,_,_,_,_,_,_,rfl,?_⟩
 refine aD ⟨by omega,AX.mk (vF L o q B) ?_⟩;have ag:aR key (bW ns)=aR key l:=by rw[j.bW]
 have aq:=mZ key l;have ar:ns.length=l.length:=by rw[<- j.bW];simp
 rw[ag];have ai:=hB.bj _ _ _ _ _ Z (B.aj (S':=λb=>¬k b/\d.size<=b) λ_ _ d=>d.elim);refine Loop.rule (λm x w=> ∃(a:Nat) (r:Nat->Prop),x=((ns[aR key l+a]?).map λn=>(⟨n.ag,0,none⟩:Q6),())/\m=l.length-(aR key l+a)/\aR key l+a<=l.length/\Mod k d w/\(∀ b,r b->k b\/d.size<=b)/\X a true r w) ?_
  ⟨0,k,rfl,rfl,by omega,B.mod,λb f=> .inl f,ai⟩
 rintro K m _ w ⟨a,r,rfl,rfl,au,y,C,N⟩ aj;have D:(l.drop (aR key l)).length=l.length-aR key l:=by simp
 cases h:ns[aR key l+a]? with
 |none=>
  have:=List.getElem?_eq_none_iff.1 h;refine af.no rfl ?_;exact⟨rfl,a,true,r,y,C,N,λ_=>by rw[D];omega,by rw[D];omega⟩
 |some n=>
  have av:=(List.getElem?_eq_some_iff.1 h).1;have E:=(L.mod y M).pair h;refine af.yes rfl (aD (AJ.mk E.1 (AJ.mk E.2.1 (AZ.mk E.2.2 ?_))));have ah:(l.drop (aR key l))[a]? =some n.pr:=by
   rw[BY];have O:(bW ns)[aR key l+a]? =some n.pr:=by rw[show bW ns=ns.map (·.pr) from rfl,C5,h];rfl
   rw[j.bW] at O;exact O
  refine Eh.mono (Y a n.pr r w ah N) ?_;rintro _ ak ⟨g,F,rfl,am,an,Q⟩;have aw:=y.size;have R: ∀b,F b->k b\/d.size<=b:=λb f=>(am b f).elim (C b) λae=> .inr (by omega)
  have G:Mod k d ak:=y.then (an.aj λb _ f=>C b f);refine⟨g,rfl,af.intro (λq=>?_) (λq=>?_)⟩
  ·have H:g=false:=by simpa using q
   subst H;exact⟨rfl,a+1,false,F,G,R,Q,(λd=>by cases d),by rw[D];omega⟩
  ·have H:g=true:=by simpa using q
   subst H;refine aD ⟨by omega,?_⟩;have S:=(L.mod G M).next (p:=aR key l+a+1) (i:=0) (by omega) (by omega);have ao:addrAt t ns (aR key l+a+1)=⟨n.ag,0,none⟩:=by simp[addrAt,h]
   rw[ao,o.link _ 0 (by omega) (by omega) (by have:=(o.ht n (AK h)).1;simp[TI,h];omega),Sa o.ht] at S;refine AX.mk S ?_;exact aj (l.length-(aR key l+(a+1))) _ _ (by omega) ⟨a+1,F,rfl,rfl,by omega,G,R,Q⟩
theorem sR {A:al}{a:aa}{t:Nat}{ns:List DL}{l:List Pr}{key:A2K}{f:A2J}(T:cY a t ns l)
  (i: ∀fv d,ES A P fv (λb=>cS t ns b\/b=a.size\/b=a.size+1) d (l.drop (aR key l))->Ext a d->d.size=a.size+2->f fv d):AA A P Ja #[J5 (some ⟨t,0,none⟩),J7 key] a f:=by
 refine Yu ?_;unfold QX;refine ao.mk λp _ j k m=>ao.mk λg _ n h q=>?_
 have e:Ext a g:=k.trans h;have o:=APu (A:=A) (h.ag j (by simp)) n (T.ext e) (key:=key);refine i _ g (o.aj ?_ ?_ (λc _=>rfl)) e (by omega)
 ·rintro b (hd|rfl|rfl)
  ·exact .inl hd
  ·exact .inr (.inl rfl)
  ·exact .inr (.inr m)
 ·rintro b (hd|rfl|rfl)
  ·exact(T.ext e).lt hd
  ·omega
  ·omega
theorem ANj(l:List Pr):aR ⟨#[]⟩ l=0:=by
 have: ∀x:A2K,aN x ⟨#[]⟩=false:=λx=>by
  have a:(⟨#[]⟩:A2K).toList= []:=by simp[ByteArray.toList_eq]
  unfold aN;rw[a];cases x.toList<;>rfl
 cases l with
 |nil=>rfl
 |cons x l=>simp[aR,ic,this]
theorem sL(l:List Pr):l.drop (aR ⟨#[]⟩ l)=l:=by rw[ANj];rfl
def qb:Pr:=⟨⟨#[98]⟩,⟨#[49]⟩,false⟩
end Go.Lf.G.M
namespace Go.Lf.G
open Go
open M (aR Af Sorted BV)
theorem ASl(a b:A2K):(!(aN a b||bQ a b))=aN b a:=by
 cases e:aN b a with
 |true=>
  have c:aN a b=false:=by grind [aN,DX,CX]
  have d:bQ a b=false:=by
   rw[Cn,decide_eq_false_iff_not]
   grind
  rw[c,d];rfl
 |false=>
  grind [aN,OD,Cn]
theorem AHE {a b c:A2K}(d:aN a b=true)(e:aN c b=false):aN a c=true:=by grind [aN,DX,OD]
theorem mK {l:List Pr}(c:Sorted l){i a:Nat}{p b:Pr}(d:l[i]? =some p)(e:l[a]? =some b)(f:i<a):aN p.key b.key=true:=by obtain⟨g,rfl⟩:=List.getElem?_eq_some_iff.1 d;obtain⟨h,rfl⟩:=List.getElem?_eq_some_iff.1 e;exact List.pairwise_iff_getElem.1 c _ _ g h f
structure zi (l:List Pr) (key:A2K) (B:Nat):Prop where
 lt:B<Bt l
 below: ∀(x:Nat) (p:Pr),x<8*B->l[x]? =some p->aN p.key key=true
 there: ∀(x:Nat) (p:Pr),l[x]? =some p->p.key=key->8*B<=x/\x<8*B+8
theorem ASY {l:List Pr}{key:A2K}{b:Nat}(j:Sorted l)(k:l≠ [])(t:b<=Bt l)(m: ∀a,a<b->aN key (JA l (8*a))=false)(n:b<Bt l->aN key (JA l (8*b))=true):zi l key (b-1):=by
 have u:=wE k;have ah: ∀a,a<Bt l-> ∃d,l[8*a]? =some d/\JA l (8*a)=d.key:=by grind [Bt,List.getElem?_eq_getElem,JA]
 have o: ∀(x:Nat) (p:Pr),x<8*(b-1)->l[x]? =some p->aN p.key key=true:=by intro x p h e;obtain⟨d,f,g⟩:=ah (b-1) (by omega);have c:=mK j e f h;have:=m (b-1) (by omega);rw[g] at this;exact AHE c this
 refine⟨by omega,o,λx p e g=>⟨?_,?_⟩⟩
 ·grind [Nat.le_of_not_lt,CX]
 ·apply Nat.lt_of_not_le;intro h;have v:=(List.getElem?_eq_some_iff.1 e).1;have step: ∀a,8*a<=x->a<Bt l->aN key (JA l (8*a))=true->False:=by
   intro a w q c;obtain⟨d,f,r⟩:=ah a q;rw[r] at c;rcases Ft (8*a) x with s|s
   ·grind [mK,DX,CX]
   ·have:8*a=x:=by omega
    rw[this,e] at f;cases f;rw[g,CX] at c;cases c
  have i:b<Bt l:=by unfold Bt;omega
  exact step b (by omega) i (n i)
theorem AQq {i a:Nat}(b:i+a<=2*1099511627776):J8 J9 ((J8 .u64 (J8 J9 (((i:Nat):Int)+((a:Nat):Int)))).fdiv ((2:Int)^(1:Nat)))=(((i+a) / 2:Nat):Int):=by rw[show((i:Nat):Int)+((a:Nat):Int)=((i+a:Nat):Int) by omega,Eb (by omega),Bu (by omega),Qm,Eb (by omega)]
theorem ANH {n:al}{f:aa}{fv:J0}{c:Nat}{p:Nat->Bool}{o:A2J}(C:c<=1099511627776)(D: ∀i b,i<=b->b<c->p i=true->p b=true)
  (y: ∀i d,i<c->Ext f d->Eh n P fv #[J6 J9 (i:Int)] d λv g=>v=J3 (p i)/\Ext d g)
  (z: ∀h g,h<=c->(∀ b,b<h->p b=false)->(h<c->p h=true)->Ext f g->o (J6 J9 (h:Int)) g):AA n P Px #[J6 J9 (c:Int),fv] f o:=by
 refine ACm ?_;unfold Wo;refine Loop.rule (λm x d=> ∃i b:Nat,x=((i:Int),(b:Int),())/\m=b-i/\i<=b/\b<=c/\(∀ a,a<i->p a=false)/\(b<c->p b=true)/\Ext f d) ?_ ⟨0,c,rfl,rfl,by omega,A0 _,λa A=>by omega,λf=>by omega,Mod.refl⟩;rintro K m _ d ⟨i,b,rfl,rfl,k,q,r,s,j⟩ t;dsimp only;refine af.intro (λl=>?_) (λl=>?_)
 ·have k:i<b:=by simp at l;omega
  rw[AQq (by omega)];refine ai.mk λE u=>?_
  have B:(i+b) / 2<c:=by omega
  refine Eh.mono (y _ d B j) ?_;rintro v g ⟨rfl,w⟩;refine⟨_,rfl,af.intro (λe=>?_) (λe=>?_)⟩
  ·have e:p ((i+b) / 2)=false:=by simpa using e
   refine u _ _ ?_;dsimp only;rw[Ab (by omega)];refine t (b-((i+b) / 2+1)) _ _ (by omega) ⟨(i+b) / 2+1,b,rfl,rfl,by omega,q,λa A=>?_,s,j.trans w⟩
   grind
  ·have e:p ((i+b) / 2)=true:=by simpa using e
   refine u _ _ ?_;exact t ((i+b) / 2-i) _ _ (by omega) ⟨i,(i+b) / 2,rfl,rfl,by omega,by omega,r,λ_=>e,j.trans w⟩
 ·have k:i=b:=by simp at l;omega
  subst k;exact z i d q r s j
abbrev zj:Q8:=Iq
theorem zk {A:al}{h:aa}{t D k:Nat}{l:List Pr}{f:List UInt8}{key:A2K}{R:A2J}(T:bR h t l f D k)(c:gU (aI (aT l f)) l f)
  (E: ∀d q,zi l key q->Ext h d->R (J6 J9 (q:Int)) d):AA A P Gv #[Ap t,J7 key] h R:=by
 refine Ua ?_;unfold Ni;refine ao.mk λe _ F G X=>ao.mk λY _ H r Z=>?_
 have u:=Am r F;have w:=G.trans r;obtain⟨m,ab,x,y,ac,_,_⟩:=(T.ext w).at_;refine AX.mk (AL u rfl) (aD ?_);refine Aa.mk (s:=m) (AL x rfl) ?_;have I:m.len=Bt l:=by rw[y.len,IE]
 have ad:=c.many;have ae:Bt l<=12501:=by unfold Bt;omega
 rw[I];have z: ∀b,b<Bt l-> ∃B,l[8*b]? =some B/\JA l (8*b)=B.key:=by
  intro b n;have:8*b<l.length:=by unfold Bt at n;omega
  exact⟨l[8*b],A2 this,by unfold JA;simp_all⟩
 refine ANH (p:=λb=>aN key (JA l (8*b))) (by omega) (λi b af n C=>?_) (λi o k g=>?_) λj J K e L M=>⟨_,rfl,?_⟩
 ·rcases Ft i b with h|h
  ·obtain⟨ag,N,O⟩:=z i (by omega);obtain⟨ah,Q,S⟩:=z b n;have:=mK c.inc N Q (by omega);rw[O] at C;rw[S];exact DX C this
  grind
 ·have U:=Eh.func (A:=A) (P:=P) (f:=zj) (first:= #[]) (bV:= #[Ap h.size,Ap e.size]) (args:= #[J6 J9 (i:Int)]) (h:=o) (R:=λv d=>v=J3 (aN key (JA l (8*i)))/\Ext o d) (by kernel_rfl) ?_
  ·exact U
  ·show AA A P zj #[J6 J9 (i:Int),Ap h.size,Ap e.size] o _;refine R9 ?_;unfold Lx;refine aD (AX.mk (AL (Am g u) rfl) (aD ?_));refine Aa.mk (s:=m) (AL (Am g x) rfl) ?_;refine(y.ext g).idx (Ri k) λa ai V=>?_
   rw[An];refine AJ.mk V.str (aD ?_);refine AJ.mk (AL (Am g H) rfl) ?_;rw[ASl];exact⟨rfl,Mod.refl⟩
 ·have W:(if((J8 J9 (((j:Nat):Int)-(1:Int))):Int)>0 then(J8 J9 (((j:Nat):Int)-(1:Int))) else 0)=((j-1:Nat):Int):=by grind [wrap_i64]
  rw[W];exact E J (j-1) (ASY c.inc c.ne K e L) (w.trans M)
def Vp(key:A2K)(l:List Pr):Pr×Bool:=match Af key l with|some a=>(a,true)|none=>(M.Uh,false)
theorem AQ7 {l:List Pr}(f:Sorted l){p:Pr}(h:p∈l):Af p.key l=some p:=by
 unfold Af;cases g:l.find? λd=>decide (d.key=p.key) with
 |none=>
  grind
 |some d=>
  have b:=PA g;have b:d.key=p.key:=of_decide_eq_true b;obtain⟨i,e⟩:=Ek (Lo g);obtain⟨j,c⟩:=Ek h;rcases IS i j with a|a|a
  ·have:=mK f e c a;rw[b,CX] at this;cases this
  ·subst a;rw[e] at c;exact c
  ·have:=mK f c e a;rw[b,CX] at this;cases this
theorem zl {l:List Pr}{key:A2K}(a: ∀p∈l,p.key≠key):Af key l=none:=by simp_all [Af,GW]
theorem ARV {ab:al}{d:aa}{t ac D:Nat}{l:List Pr}{f:List UInt8}{key:A2K}{E:A2J}(T:bR d t l f ac D)(q:gU (aI (aT l f)) l f)(ad:key.size<=1099511627776)
  (ag: ∀J,Ext d J->E (J1 #[(Vp key l).1.agg,J3 (Vp key l).2]) J):AA ab P LG #[Ap t,J7 key] d E:=by
 refine XW ?_;unfold Pm;refine ao.mk λL _ N w aQ=>?_
 have tail: ∀g x,Ext d g->g[d.size]? =some (J2 #[J7 ⟨#[]⟩,J7 ⟨#[]⟩,J3 false] AQ (0,0))-> ∀(h:Pr) (b:Bool),Vp key l=(h,b)->x=Value.tuple #[.agg #[J7 h.key,J7 h.val,J3 h.gone],J3 b]->
   ∀ {r c1:A2K} {c2:Bool},r=h.key->c1=h.val->c2=h.gone->
   ae g (⟨d.size,0,none⟩:Q6) (J7 r) λO=>ae O ((⟨d.size,0,none⟩:Q6).add 1) (J7 c1) λQ=>ae Q ((⟨d.size,0,none⟩:Q6).add 2) (J3 c2) λj=>
    AJ j (⟨d.size,0,none⟩:Q6) λah=>AJ j ((⟨d.size,0,none⟩:Q6).add 1) λaj=>AZ j ((⟨d.size,0,none⟩:Q6).add 2) λak=>E (J1 #[.agg #[J7 ah,J7 aj,J3 ak],J3 b]) j:=by
  intro g x u am h b an aR r c1 c2 ap aq ar;subst ap aq ar;refine ae.mk am (by simp) λO au av aS=>?_
  rw[Be,Be];refine ae.mk au (by simp) λQ aw ax aU=>?_
  refine ae.mk aw (by simp) λj F ay aV=>?_
  refine AJ.mk (AL F rfl) (AJ.mk (AL F rfl) (AZ.mk (AL F rfl) ?_));have k:Ext d j:=⟨by have:=u.size;omega,λc az _=>(ay.get c (by have:=u.size;omega) (by omega)).trans ((ax.get c (by have:=u.size;omega) (by omega)).trans ((av.get c (by have:=u.size;omega) (by omega)).trans (u.get c az (λd=>d))))⟩;have:=ag j k;rw[an] at this;exact this
 refine ai.mk λK aA=>?_
 refine af.no rfl (aD ?_);obtain⟨aW,aC,G,aX,aE,_,_⟩:=(T.ext w).at_;refine AJ.mk (AB G rfl) ?_;refine yQ ad ⟨_,rfl,?_⟩;rw[EF];refine aA _ _ ?_;refine af.intro (λn=>?_) (λn=>?_)
 ·have n:gT f key=false:=by simpa using n
  have H:Af key l=none:=zl λp v y=>by
   have:=q.has p v;rw[y,n] at this;cases this
  exact tail L _ w N M.Uh false (by unfold Vp;rw[H]) rfl rfl rfl rfl
 ·refine aD (Aa.mk (s:=aC) (AB G rfl) ?_);refine zk (T.ext w) q λaY a hB z=>⟨_,rfl,AB (Am z G) rfl,?_⟩
  have aF:((Ku l).map λb=>AY (BO b))[a]? =some (AY (BO (CE l a))):=by simp[Ku,hB.lt]
  refine(aE.ext z).idx aF λaZ a0 aG=>?_
  rw[An];refine AJ.mk aG.str ?_;have aH: ∀p∈CE l a,Ls p:=λp v=>q.ok p (Pv v)
  have a1:=Qw q.ok hB.lt;refine se aH (by omega) λps aJ R S a2=>⟨_,_,rfl,?_⟩
  have a3:ps.len=(CE l a).length:=R.len;have a4:=Qt hB.lt;have U:=(w.trans z).trans S;have V:=Am S (Am z N);refine Loop.rule (λm x aK=> ∃e:Nat,x=((e:Int),())/\m=(CE l a).length-e/\e<=(CE l a).length/\(∀ i p,i<e->(CE l a)[i]? =some p->p.key≠key)/\Ext aJ aK) ?_ ⟨0,rfl,rfl,by omega,λi p D=>by omega,Mod.refl⟩;rintro a5 m _ aL ⟨e,rfl,rfl,a6,W,o⟩ aM;dsimp only;refine af.intro (λn=>?_) (λn=>?_)
  ·have A:e<(CE l a).length:=by grind
   have k:(CE l a)[e]? =some (CE l a)[e]:=A2 A;have X:(CE l a)[e]∈l:=Pv (AW A);generalize (CE l a)[e]=p at k X;refine(R.ext o).view.idx k λa7 a8 aN=>?_
   obtain⟨r,c1,c2⟩:=aN.pair;rw[An];refine AJ.mk r (AJ.mk c1 (AZ.mk c2 ?_));refine ao.pair λa9 aO ba B I bb=>?_
   refine AJ.mk (AL B rfl) ?_;refine af.intro (λC=>?_) (λC=>?_)
   ·rw[Cn,decide_eq_true_iff] at C;refine AJ.mk (AL B rfl) (AJ.mk (AB B rfl) (AZ.mk (AB B rfl) ?_));have Y:=AQ7 q.inc X;rw[C] at Y;exact tail aO _ ((U.trans o).trans I) (Am I (Am o V)) p true (by unfold Vp;rw[Y]) rfl rfl rfl rfl
   ·rw[Cn,decide_eq_false_iff_not] at C;rw[Ab (by omega)];refine aM ((CE l a).length-(e+1)) _ _ (by omega) ⟨e+1,rfl,rfl,A,λi h D aP=>?_,o.trans I⟩;by_cases bc:i=e
    ·grind
    ·exact W i h (by omega) aP
  ·have A:e=(CE l a).length:=by grind
   have H:Af key l=none:=zl λp v y=>by
    obtain⟨x,k⟩:=Ek v;obtain⟨L,bd⟩:=hB.there x p k y;have Z:(CE l a)[x-8*a]? =some p:=by rw[QW (by omega),show 8*a+(x-8*a)=x by omega];exact k
    have:=(List.getElem?_eq_some_iff.1 Z).1;exact W (x-8*a) p (by omega) Z y
   exact tail aL _ (U.trans o) (Am o V) M.Uh false (by unfold Vp;rw[H]) rfl rfl rfl rfl
theorem zo {key:A2K}{l:List Pr}(a:Sorted l){x:Nat}{p:Pr}(b:l[x]? =some p):x<aR key l↔aN p.key key=true:=M.pn a b
theorem AMk {A:al}{y:aa}{b c t lo hi:Nat}{aW an:Q7}{l:List Pr}{f:List UInt8}{key:A2K}(r:y[b]? =some (J2 #[Ap t] aW (0,0)))(aX:y[c]? =some (J2 #[J7 key] an (0,0)))
  (T:bR y t l f lo hi) (bp:hi<=y.size) (z:gU (aI (aT l f)) l f):
  ES A P (.func (.func JF) #[] #[Ap b,Ap c]) (λe=>(lo<=e/\e<hi)\/e=b\/e=c) y (l.drop (aR key l)):=by
 refine⟨?_,_,_,rfl,λaY=>by kernel_rfl,λh W aY ap k bq hd hB aZ a0=>?_⟩
 ·grind
 rw[M.sK];refine TM ?_;unfold NE;have H:=(W b (.inr (.inl rfl))).trans r;have aq:=(W c (.inr (.inr rfl))).trans aX;have ar:bR h t l f lo hi:=by
  obtain⟨au,o,u,I,X,Y,av⟩:=T.at_;have aw: ∀ {s:Sl} {ax:List A2K},View Ik y s ax->(∀ e,s.ag=some e->lo<=e/\e<hi)->View Ik h s ax:=λv br=>⟨v.len,v.cap,λi x hi=>by
   obtain⟨a,a1,a2⟩:=v.cells i x hi;refine⟨a,a1,λj v ay=>?_⟩;rw[<- a2 j v ay]
   grind [Qn,aU,Sl.ag]⟩
  exact⟨⟨au,o,(W t (.inl T.fA)).trans u,aw I Y,aw X av,Y,av⟩,T.fA⟩
 have a3: ∀e,lo<=e->e<hi-> ¬k e:=λe u I=>hd e (.inl ⟨u,I⟩)
 obtain⟨au,o,az,bs,aA,bt,a4⟩:=ar.at_;refine aD (AX.mk (AL H rfl) (af.no rfl (aD (AX.mk (AL H rfl) (aD (Aa.mk (s:=o) (AB az rfl) (aD (AX.mk (AL H rfl) (aD (AJ.mk (AL aq rfl) ?_))))))))));refine zk ar z λu d aC J=>⟨_,rfl,AB (Am J az) rfl,AL (Am J H) rfl,?_⟩
 have aE:o.len=Bt l:=by rw[aA.len];simp[JH]
 have bu:=aC.lt;refine⟨by rw[aE];omega,?_⟩;rw[An,aE];have bv:=M.mZ key l;have bw:=z.many;have bx:Bt l<=12501:=by unfold Bt;omega
 have bz:8*d<=aR key l:=by
  apply RR;intro L;have a5:aR key l<l.length:=by grind [Bt]
  obtain⟨aF,B⟩: ∃aF,l[aR key l]? =some aF:=⟨_,A2 a5⟩;have u:=aC.below _ _ L B;have I:=(zo z.inc B).2 u;omega
 have Z:(l.drop (aR key l)).length=l.length-aR key l:=by simp
 have a6:=hB.bj _ _ _ _ _ a0 (J.aj (S':=λb=>¬k b/\h.size<=b) λ_ _ h=>h.elim);have a7:View Ik h ⟨Az o.p o.cap d 1,Bt l-d,o.cap-d⟩ (((Ku l).map λb=>AY (BO b)).drop d):=by have:=aA.sub (lo:=d) (hi:=Bt l) (by omega) (by simp[JH]);rw[Ax (by simp[JH])] at this;exact this
 have a8: ∀e,Sl.ag ⟨Az o.p o.cap d 1,Bt l-d,o.cap-d⟩=some e-> ¬k e:=λe n=>by
  have:=a4 e (qJ n);exact a3 e this.1 this.2
 refine Loop.rule (λm x ab=> ∃(i:Nat) (C:Nat->Prop),x=((i:Int),())/\m=Bt l-d-i/\i<=Bt l-d/\Mod k h ab/\(∀ b,C b->k b\/h.size<=b)/\ap (min (8*(d+i)) l.length-aR key l) true C ab) ?_
  ⟨0,k,rfl,rfl,by omega,J.mod,λb r=> .inl r,by
   have:min (8*(d+0)) l.length-aR key l=0:=by omega
   rw[this];exact a6⟩
 rintro K m _ ab ⟨i,C,rfl,rfl,hi,N,aG,E⟩ a9;dsimp only;refine af.intro (λF=>?_) (λF=>?_)
 ·have aH:i<Bt l-d:=by simp at F;omega
  have O:d+i<Bt l:=by omega
  have bA:8*(d+i)<l.length:=by unfold Bt at O;omega
  have ba:(((Ku l).map λb=>AY (BO b)).drop d)[i]? =some (AY (BO (CE l (d+i)))):=by rw[BY];simp[Ku,O]
  refine(a7.mod N a8).idx ba λbB bC bb=>?_
  rw[An];refine AJ.mk bb.str ?_;have bc: ∀p∈CE l (d+i),Ls p:=λp bd=>z.ok p (Pv bd)
  have bD:=Qw z.ok O;have bE:=Qt O;refine se bc (by omega) λps X ac aJ bF=>⟨_,_,rfl,?_⟩
  have bG:ps.len=(CE l (d+i)).length:=ac.len;have be:min (8*(d+i)) l.length=8*(d+i):=by omega
  rw[be] at E;have bH:=N.size;have bI:=hB.wf _ _ _ _ E;have bf:=hB.bj _ _ _ _ _ E (aJ.aj (S':=λb=>¬C b/\h.size<=b) λ_ _ h=>h.elim);have bg:Mod k h X:=N.trans aJ.mod;refine Loop.rule (λm x Q=> ∃(j:Nat) (q:Nat->Prop),x=((j:Int),())/\m=(CE l (d+i)).length-j/\j<=(CE l (d+i)).length/\Mod k h Q/\(∀ b,q b->k b\/h.size<=b)/\(∀ e,ps.ag=some e-> ¬q e/\e<Q.size)/\View BM Q ps (CE l (d+i))/\ap (8*(d+i)+j-aR key l) true q Q) ?_
   ⟨0,C,rfl,rfl,by omega,bg,aG,λe n=>⟨λh=>by grind,ac.lt n⟩,ac.view,bf⟩
  rintro bJ m _ Y ⟨j,q,rfl,rfl,ay,ad,R,D,ae,aK⟩ aL;dsimp only;refine af.intro (λF=>?_) (λF=>?_)
  ·have G:j<(CE l (d+i)).length:=by grind
   have B:(CE l (d+i))[j]? =some (CE l (d+i))[j]:=A2 G;have S:l[8*(d+i)+j]? =some (CE l (d+i))[j]:=by rw[<- QW (by omega)];exact B
   generalize (CE l (d+i))[j]=p at B S;refine ae.idx B λbK bL bh=>?_
   obtain⟨bi,c1,c2⟩:=bh.pair;rw[An];refine AJ.mk bi (AJ.mk c1 (AZ.mk c2 ?_));refine ao.pair λbM ag bN U w bO=>?_
   have V:Mod k h ag:=ad.trans w.mod;have bP:=ad.size;have aM:=hB.bj _ _ _ _ _ aK (w.aj (S':=λb=>¬q b/\h.size<=b) λ_ _ h=>h.elim);have bj:ag[c]? =some (J2 #[J7 key] an (0,0)):=V.ag aq (hd c (.inr (.inr rfl)));refine ai.mk λbQ aO=>?_
   refine AJ.mk (AL U rfl) (aD (AJ.mk (AL bj rfl) ?_));have bS:=(List.getElem?_eq_some_iff.1 S).1;have bk:=zo (key:=key) z.inc S;refine af.intro (λL=>?_) (λL=>?_)
   ·have bm:aR key l<=8*(d+i)+j:=by grind
    refine AJ.mk (AL U rfl) (AJ.mk (AB U rfl) (AZ.mk (AB U rfl) ?_));have ah:(l.drop (aR key l))[8*(d+i)+j-aR key l]? =some p:=by rw[BY,show aR key l+(8*(d+i)+j-aR key l)=8*(d+i)+j by omega];exact S
    refine Eh.mono (aZ _ p q ag ah aM) ?_;rintro _ bn ⟨g,aj,rfl,aP,ak,aQ⟩;have bT:=V.size;have aS: ∀b,aj b->k b\/h.size<=b:=λb r=>(aP b r).elim (R b) λu=> .inr (by omega)
    have aV:Mod k h bn:=V.then (ak.aj λb _ r=>R b r);refine⟨g,rfl,aO _ _ ?_⟩;dsimp only;cases g with
    |false=>exact af.yes rfl ⟨rfl,_,false,aj,aV,aS,aQ,(λh=>by cases h),by rw[Z];omega⟩
    |true=>
     refine af.no rfl ?_;rw[Ab (by omega)];refine aL ((CE l (d+i)).length-(j+1)) _ _ (by omega) ⟨j+1,aj,rfl,rfl,G,aV,aS,λe n=>⟨λh=>?_,by have:=D e n;have:=w.size;have:=ak.size;omega⟩,?_,?_⟩
     ·rcases aP e h with h|h
      ·exact(D e n).1 h
      ·have:=(D e n).2;have:=w.size;omega
     ·exact(ae.ext w).mod ak λe n=>(D e n).1
     ·rw[show 8*(d+i)+(j+1)-aR key l=8*(d+i)+j-aR key l+1 by omega];exact aQ
   ·have bo:aN p.key key=true:=by simpa using L
    have bm:=bk.2 bo;refine aO _ _ (af.no rfl ?_);rw[Ab (by omega)];refine aL ((CE l (d+i)).length-(j+1)) _ _ (by omega) ⟨j+1,q,rfl,rfl,G,V,R,λe n=>⟨(D e n).1,by have:=(D e n).2;have:=w.size;omega⟩,ae.ext w,?_⟩;rw[show 8*(d+i)+(j+1)-aR key l=8*(d+i)+j-aR key l by omega];exact aM
  ·have G:j=(CE l (d+i)).length:=by grind
   rw[Ab (by omega)];refine a9 (Bt l-d-(i+1)) _ _ (by omega) ⟨i+1,q,rfl,rfl,by omega,ad,R,?_⟩;have am:min (8*(d+(i+1))) l.length=8*(d+i)+j:=by rw[G];unfold CE;rw[As,Cl];omega
   rw[am];exact aK
 ·have aH:i=Bt l-d:=by simp at F;omega
  have am:min (8*(d+i)) l.length=l.length:=by rw[aH,show d+(Bt l-d)=Bt l by omega];unfold Bt;omega
  rw[am] at E;exact⟨rfl,l.length-aR key l,true,C,N,aG,E,λ_=>Z.symm,by rw[Z];omega⟩
theorem zr {A:al}{a:aa}{t h e:Nat}{l:List Pr}{f:List UInt8}{key:A2K}{i:A2J}(T:bR a t l f h e)(s:e<=a.size)(m:gU (aI (aT l f)) l f)
  (n: ∀fv b,ES A P fv (λd=>(h<=d/\d<e)\/d=a.size\/d=a.size+1) b (l.drop (aR key l))->Ext a b->b.size=a.size+2->i fv b):AA A P IK #[Ap t,J7 key] a i:=by
 refine Vo ?_;unfold O0;refine ao.mk λu _ o p v=>ao.mk λj _ q k w=>?_
 have g:Ext a j:=p.trans k;have r:=AMk (A:=A) (Am k o) q (T.ext g) (by have:=g.size;omega) m (key:=key);refine n _ j (r.aj ?_ ?_ (λc _=>rfl)) g (by omega)
 ·omega
 omega
def fM(l:List Fi)(a:A2K):Nat:=match Cc a l with|none=>0|some f=>f.bX.size+f.soft.size
theorem yJ {a:A2K}{f:Fi}{l:List Fi}:Cc a (f::l)=if f.name=a then some f else Cc a l:=by rw[Gg]
theorem rX(a:A2K): ∀l:List Fi,fM l a+ba (QE a l)<=ba l
 | []=>by simp[fM,Cc,QE,ba]
 |f::l=>by
  have h:=rX a l;have e:ba (f::l)=f.bX.size+f.soft.size+1+ba l:=by simp[ba]
  by_cases b:f.name=a
  ·have c:fM (f::l) a=f.bX.size+f.soft.size:=by unfold fM;rw[yJ,if_pos b]
   have d:QE a (f::l)=QE a l:=by simp[QE,b]
   rw[c,d,e];omega
  ·have c:fM (f::l) a=fM l a:=by unfold fM;rw[yJ,if_neg b]
   have d:QE a (f::l)=f::QE a l:=by simp[QE,b]
   have g:ba (f::QE a l)=f.bX.size+f.soft.size+1+ba (QE a l):=by simp[ba]
   rw[c,d,g,e];omega
theorem yK: ∀(a:List A2K),a.Nodup-> ∀l:List Fi,(a.map (fM l)).sum<=ba l
 | [],_,l=>by simp
 |k::a,b,l=>by
  rw[List.nodup_cons] at b;have c:=yK a b.2 (QE k l);have d:a.map (fM (QE k l))=a.map (fM l):=CH λx e=>by
   unfold fM;rw[rq,if_neg (λf=>by subst f;exact b.1 e)]
  rw[d] at c;have:=rX k l;simp only[BT,GF];omega
def iR(m:Bx)(a:A2K)(b:Nat):A2K:=(FD m (aC a b)).1
noncomputable def TF (a:A2K) (m:Bx) (l:List Nat):List A2K:=l.flatMap λb=>(kW (bl (iR m a b))).map AY
theorem yL {m:Bx}(hd:m.down=false)(a:A2K):(FD m a).1.size=fM m.files a:=by
 unfold FD fM;rw[if_neg (by simp[hd])];cases Cc a m.files with
 |none=>rfl
 |some f=>simp[Hk]
theorem rY {nm:A2K}{m:Bx}(hd:m.down=false){l:List Nat}(b:l.Pairwise (· < ·)):(TF nm m l).length<=ba m.files:=by
 have e:(TF nm m l).length<=((l.map (aC nm)).map (fM m.files)).sum:=by
  unfold TF;clear b
  induction l with
  |nil=>simp
  |cons f l d=>
   have g:=AHO (ri (bl (iR m nm f)));rw[A8,iR,yL hd] at g;simp only[AF,A1,B9,BT,GF] at d ⊢;unfold iR at d ⊢;omega
 refine AH e (yK _ ?_ _);refine List.pairwise_map.2 (b.imp λ{a c} i h=>?_);have:=Iw h;omega
theorem yM {R:al}{d:aa}{b:Nat}{S:Nat->Prop}{m:Bx}{nm:A2K}{w:A2J}(E:cp d)(D:Cf d b S m)(hd:m.down=false)(aw:0<nm.size)(F:nm.size<=8)(T:ba m.files<=8000000000000)
  (U: ∀g l,mI nm m l->l.getLast?.getD 0=99999999->Ext d g->w (J1 #[J5 none,J4 none 0 0,J6 J9 2]) g)
  (V: ∀g l r sl,mI nm m l->l.getLast?.getD 0≠99999999->Ext d g->d.size<=r->g[r]? =some (J2 #[Ap b,J7 nm,J6 J9 ((l.getLast?.getD 0+1:Nat):Int),J3 false] qQ (0,0))->View Ik g sl (TF nm m l)->
   (∀ c,sl.ag=some c->d.size<=c/\c≠r)->w (J1 #[Ap r,J4 sl.p sl.len sl.cap,J6 J9 0]) g):AA R P Rc #[Ap b,J7 nm] d w:=by
 refine AJH ?_;unfold uU;refine af.no rfl (ai.mk λK W=>?_);have X:bQ nm (⟨#[]⟩:A2K)=false:=by rw[Cn,decide_eq_false_iff_not];rintro rfl;have:(⟨#[]⟩:A2K).size=0:=rfl;omega
 rw[X];refine af.no rfl (W _ _ (af.no (by simp;omega) ?_));refine yI E D hd (by omega) T λG Y l h v2 o _=>⟨Y,_,rfl,af.no rfl ?_⟩
 have ax:l.length<=99999999:=by
  have Z: ∀(l:List Nat) (s:Nat),l.Pairwise (· < ·)->(∀ e∈l,s<e/\e<=99999999)->l.length+s<=99999999\/l= []:=by
   intro l
   induction l with
   |nil=>intro s _ _;exact .inr rfl
   |cons a l ab=>
    intro s y H;rw[PJ] at y;have ay:=H a (by simp);rcases ab a y.2 (λe t=>⟨y.1 e t,(H e (AG _ t)).2⟩) with d|d
    ·left;simp only[A6];omega
    ·subst d;left;simp;omega
  rcases Z l 0 h.inc (λe t=>by have:=(h.mem e).1 t;omega) with d|d
  ·omega
  ·subst d;simp
 refine Loop.rule (λI x p=> ∃(i:Nat) (sl:Sl),x=(sl,(((l.take i).getLast?.getD 0:Nat):Int),(i:Int),())/\Ext G p/\Own Ik BI p sl (TF nm m (l.take i))/\(∀ c,sl.ag=some c->G.size<=c)/\i<=l.length/\I=l.length-i) ?_
  ⟨0,⟨none,0,0⟩,rfl,Mod.refl,Own.nil,λc n=>by simp[Sl.ag] at n,A5 _,rfl⟩
 rintro az I _ p ⟨i,sl,rfl,j,u,f,aA,rfl⟩ ac;have J:(l.map λe:Nat=>(e:Int)).length=l.length:=B9 ..;rw[v2.len,J];refine af.intro (λz=>?_) (λz=>?_)
 ·have q:i<l.length:=by simpa using z
  have ah:l[i]? =some l[i]:=A2 q;have ad:l[i]∈l:=AW q;obtain⟨aD,aE,L⟩:=(h.mem l[i]).1 ad;have M:l.take (i+1)=l.take i++ [l[i]]:=by rw[AD,ah];rfl
  have ae:(l.take (i+1)).getLast?.getD 0=l[i]:=by rw[M,Ss];rfl
  have N:TF nm m (l.take (i+1))=TF nm m (l.take i)++(kW (bl (iR m nm l[i]))).map AY:=by rw[M];unfold TF;rw[Fm];simp
  have A:=rY (nm:=nm) (m:=m) hd (l:=l.take (i+1)) (h.inc.sublist (List.take_sublist _ _));rw[N,A1,B9] at A;rw[<- J,<-v2.len];refine(v2.ext j).idx (i:=i) (x:=(l[i]:Int)) (by rw[C5,ah];rfl) λa _ c=>?_
  refine AC.mk c.int ?_;have O:=o.trans j;refine Ym (E.ext O) (by omega) (by omega) λaF v=>⟨_,rfl,?_⟩
  refine YZ ((D.ext O).ext v) ⟨_,_,rfl,?_⟩;have ag:(FD m (aC nm l[i])).2=0:=by
   unfold FD;rw[if_neg (by simp[hd])];cases aj:Cc (aC nm l[i]) m.files with
   |none=>rw[aj] at L;cases L
   |some f=>rfl
  rw[ag];refine af.no rfl ?_;have ak:(FD m (aC nm l[i])).1.size<=8000000000000:=by rw[yL hd];have:=rX (aC nm l[i]) m.files;omega
  refine APX ak λaG am aH B an=>⟨am,_,rfl,?_⟩
  refine GG (E:=Ik) yF ((u.ext v).ext B) an (by rw[B9];unfold iR at A;omega) (by rw[B9];unfold iR at A;simp[maxLen];omega) λap aI aq ar au aJ=>?_
  dsimp only;rw[Ab (by omega)];refine ac (l.length-(i+1)) _ _ (by omega) ⟨i+1,ap,?_,((j.trans v).trans B).more ar f,?_,λc n=>?_,q,rfl⟩
  ·rw[ae]
  ·rw[N];exact aq
  ·rcases au c n with d|d
   ·exact f c d
   ·have:=j.size;have:=v.size;have:=B.size;omega
 ·have q:i=l.length:=by simp at z;omega
  subst q;rw[Bk] at u ⊢;refine af.intro (λk=>?_) (λk=>?_)
  ·have k:l.getLast?.getD 0=99999999:=by simp at k;omega
   exact U p l h k (o.trans j)
  ·have k:l.getLast?.getD 0≠99999999:=by simp at k;omega
   have aK:l.getLast?.getD 0<=99999999:=by
    cases av:l.getLast? with
    |none=>simp
    |some e=>
     have:=(h.mem e).1 (SD av);simp;omega
   refine ao.mk λF _ C Q aL=>?_
   dsimp only at C ⊢;rw[Ab (by omega)] at C;refine V F l p.size sl h k ((o.trans j).trans Q) (by have:=o.size;have:=j.size;omega) C (u.ext Q).view λc n=>by have:=f c n;have:=o.size;have:=u.lt n;omega
def EY(a:aa)(c b:Nat)(d:A2K)(e:Nat)(f:Bool):Prop:=a[c]? =some (J2 #[Ap b,J7 d,J6 J9 (e:Int),J3 f] qQ (0,0))
theorem EY.mod {c d:aa}{a b:Nat}{e:A2K}{f:Nat}{g:Bool}{h:Nat->Prop}(L:EY c a b e f g)(x:Mod h c d)(i: ¬h a):EY d a b e f g:=x.ag L i
theorem EY.ext {a c:aa}{d b:Nat}{e:A2K}{f:Nat}{g:Bool}(L:EY a d b e f g)(x:Ext a c):EY c d b e f g:=x.ag L (λa=>a)
theorem yN {s:al}{a:aa}{d b e:Nat}{f rec:A2K}{p:Bool}{i:Nat->Prop}{m:Bx}{t:A2J}(H:cp a)(L:EY a d b f e p)(I:Cf a b i m)(u: ¬i d)(X: ∀j,Mod i a j->cp j)(J:f.size<=1099511627776)(K:e<=4294967295)(M:rec.size<=1048576)(Y:ba m.files<=8000000000000)
  (w: ∀j S',Cf j b S' (CS m (aC f e) (AY (CY (bl rec)))).2->EY j d b f e (p||decide ((CS m (aC f e) (AY (CY (bl rec)))).1=0))->Mod (λc=>i c\/c=d) a j->(∀ c,S' c->i c\/(a.size<=c/\c≠d))->t (J6 J9 (CS m (aC f e) (AY (CY (bl rec)))).1) j):
  AA s P Jk #[Ap d,J7 rec] a t:=by
 refine YU ?_;unfold Qg;refine af.no rfl ?_;have Z:=Ai L;have N:(bl rec).length<=1048576:=by rw[A8];exact M
 have O:=Jc N;rw[A8] at O;have Q:rec=AY (bl rec):=(LP rec).symm;have R:AA s P Fp #[J7 rec] a λv l=> ∃x:A2K,∃y:Int,v=J1 #[J7 x,J6 J9 y]/\(x=AY (CY (bl rec))/\y=0/\Ext a l):=by
  rw[Q];refine YX (by rw[LP] at *;omega) (λl=>by rw[LP] at *;omega) λ_ l k=>⟨_,_,rfl,?_,rfl,k⟩
  rw[LP]
 refine AA.mono R ?_;rintro v l ⟨ab,ac,rfl,rfl,rfl,k⟩;refine⟨_,_,rfl,af.no rfl ?_⟩;have q:=L.ext k;refine aD (AX.mk (AL q rfl) (aD (AJ.mk (AB q rfl) (aD (AC.mk (AB q rfl) ?_)))));refine Ym (H.ext k) K J λad S=>⟨_,rfl,?_⟩
 have n:=k.trans S;have z:=L.ext n;refine⟨AL z rfl,?_⟩;refine Xe (I.ext n) (by rw[AP];omega) λr o A B C=>⟨_,rfl,?_⟩
 have D:EY r d b f e p:=z.mod B u;have ag:=n.size;have E: ∀c,o c->i c\/(a.size<=c/\c≠d):=λc g=>(C c g).imp id λa=>⟨by omega,by omega⟩
 have F:Mod (λc=>i c\/c=d) a r:=(Ext.mod n).trans (B.aj λc _ g=> .inl g);refine af.intro (λh=>?_) (λh=>?_)
 ·have h:(CS m (aC f e) (AY (CY (bl rec)))).1≠0:=by simpa using h
  exact w r o A (by rw[decide_eq_false h,Bool.or_false];exact D) F E
 ·have h:(CS m (aC f e) (AY (CY (bl rec)))).1=0:=by simpa using h
  refine aD (ae.dt D (by simp) λT U G ah=>?_);have V: ¬o d:=λg=>by rcases C d g with a|a;exact u a;omega
  have:=w T o (A.mod G λc g W=>V (W▸g)) (by rw[decide_eq_true h,HI];simpa [EY] using U) (F.then (G.aj λc _ g=> .inl (.inr g))) E;rw[h] at this;exact this
def NI(m:Bx)(a:A2K)(b:Bool):Int×Bx:=if b then FR m a else(0,m)
theorem yO {o:al}{a:aa}{f b c:Nat}{d:A2K}{e:Bool}{g:Nat->Prop}{m:Bx}{j:A2J}(p:cp a)(L:EY a f b d c e)(k:Cf a b g m)(q: ¬g f)(r:d.size<=1099511627776)(s:c<=4294967295)
  (l: ∀h,Cf h b g (NI m (aC d c) e).2->EY h f b d c e->Mod g a h->j (J6 J9 (NI m (aC d c) e).1) h):
  AA o P LV #[Ap f] a j:=by
 refine ABm ?_;unfold Uk;refine af.no rfl (aD (AZ.mk (AB L rfl) ?_));cases e with
 |false=>exact af.yes rfl (l a k L Mod.refl)
 |true=>
  refine af.no rfl (aD (AX.mk (AL L rfl) (aD (AJ.mk (AB L rfl) (aD (AC.mk (AB L rfl) ?_))))));refine Ym p s r λv i=>⟨_,rfl,⟨AL (L.ext i) rfl,?_⟩⟩
  refine pA (k.ext i) λt u n=>⟨_,rfl,?_⟩
  exact l t u ((L.ext i).mod n q) ((Ext.mod i).trans n)
theorem XD {v:al}{h:aa}{g b a:Nat}{d:A2K}{f:Bool}{i:Nat->Prop}{m:Bx}{l:A2J}(w:cp h)(L:EY h g b d a f)(x:Cf h b i m)(p: ¬i g)(y:d.size<=1099511627776)(G:a<99999999)
  (z:(NI m (aC d a) f).1≠0-> ∀e,Cf e b i (NI m (aC d a) f).2->EY e g b d a f->Mod i h e->l (J1 #[J6 J9 0,J6 J9 (NI m (aC d a) f).1]) e)
  (A:(NI m (aC d a) f).1=0-> ∀e,Cf e b i (NI m (aC d a) f).2->EY e g b d (a+1) false->Mod (λc=>i c\/c=g) h e->l (J1 #[J6 J9 (a:Int),J6 J9 0]) e):
  AA v P G8 #[Ap g] h l:=by
 refine Yb ?_;unfold Qz;refine af.no rfl (aD (AC.mk (AB L rfl) (af.no (by simp;omega) ?_)));refine yO w L x p y (by omega) λB q n r=>⟨_,rfl,?_⟩
 refine af.intro (λj=>?_) (λj=>?_)
 ·exact z (by simpa using j) B q n r
 ·have j:(NI m (aC d a) f).1=0:=by simpa using j
  refine aD (AC.mk (AB n rfl) ?_);rw[Ab (by omega)];refine aD (ae.dt n (by simp) λH C D I=>?_);refine aD (ae.dt C (by simp) λs E F J=>?_);have t:EY s g b d (a+1) false:=by simpa [EY] using E
  refine aD (AC.mk (AB t rfl) ?_);have o:J8 J9 (((a+1:Nat):Int)-1)=(a:Int):=by rw[wrap_i64 (by omega) (by omega)];omega
  rw[o];have u:=D.trans F;exact A j s (q.mod u λc k o=>p (o▸k)) t ((r.aj λc _ k=> .inl k).trans (u.aj λc _ k=> .inr k))
end Go.Lf.G
