/-
 Contracts: frames scanned, a log's segments, a log opened (chapters 2 and 4).
-/
import Derived.Test.YtgpmoonnachoaaaGreatDoorLfU2ToS3
import Derived.Test.YtgpmoonnachoaaaGreatDoorLfG1
import Derived.Laws.StructEq
import Derived.ChangeKeysEq
set_option maxRecDepth 100000
set_option linter.unusedVariables false
set_option linter.unusedSimpArgs false
open Go.IntKind renaming i64→J9,wrap→J8
open Go.Value renaming string→J7,int→J6,pointer→J5,slice→J4,bool→J3,tuple→J1
open Go.Obj renaming cells→J2
open Go renaming Value→J0,Addr→Q6,TypeId→Q7,FuncId→Q8,Program→Q1
open Go.Addr renaming add→Q9,mk→Q5
namespace Go.Lf.G
open Go
theorem yX:QZ P CP BK Im.w 16=true:=by kernel_rfl
theorem sn:QZ P DC Bp Ib.w 8=true:=by kernel_rfl
theorem AHh {l:List UInt8}{b:List (List UInt8)}(a:Ni l b):b.length<=l.length:=by
 induction a with
 |stop a=>exact A5 _
 |step a s c=>have:=rr a;simp only[A6];omega
theorem APn {p:al}{a:aa}{s:A2M}{k:A2L}(A:s.size<=8000000000000)
  (q: ∀e sl r,Ext a e->View Im e sl ((lq (bl s)).map AX)->k (J1 #[J4 sl.p sl.len sl.cap,J6 J9 r]) e):AA p P Lu #[J7 s] a k:=by
 refine Wq ?_;unfold R9;refine Loop.rule (λm x g=> ∃(sl:Sl) (dn b:List (List UInt8)) (l:List UInt8),x=(sl,AX l,())/\Ext a g/\Own Im BK g sl (dn.map AX)/\(∀ c,sl.ag=some c->a.size<=c)/\Ni l b/\lq (bl s)=dn++b/\dn.length+l.length<=s.size/\m=l.length) ?_
  ⟨⟨none,0,0⟩,[],_,bl s,by rw[Le],Mod.refl,Own.nil,λc h=>by simp[Sl.ag] at h,ry _,rfl,by rw[BB];simp,rfl⟩
 rintro K m _ g ⟨sl,dn,b,l,rfl,x,n,f,i,j,B,rfl⟩ t;refine rX (by omega) λu d=>⟨_,_,_,rfl,?_⟩
 cases i with
 |stop o=>
  refine af.no (by simp;omega) ?_;rw[AK] at j;exact q u sl _ (x.trans d) (by rw[j];exact(n.ext d).view)
 |step o i=>
  rename_i b;refine af.yes (by simp;omega) ?_;have C:=rr o;refine ao.aZ (E:=Im) (x:=AX (Dh l).2.1) (s:=sl) (l:=dn.map AX) rfl yX (n.ext d) (by simp;omega) (by simp[maxLen];omega) λv D w y z F=>?_
  refine t (Dh l).2.2.length _ _ (by omega) ⟨v,dn++ [(Dh l).2.1],b,(Dh l).2.2,rfl,(x.trans d).more y f,?_,λc h=>?_,i,by rw[j];simp,by simp;omega,rfl⟩
  ·rw[C2];exact w
  ·rcases z c h with a|a
   ·exact f c a
   ·have:=x.size;have:=d.size;omega
theorem ARm {m:al}{c:aa}{s:Sl}{l:List Int}{t:A2L}(u:Own Ib Bp c s l)(O:l.length<=8796093022208)
  (w: ∀n,View Ib n s (l.mergeSort λx d=>decide (x<=d))->Mod (λb=>s.ag=some b) c n->t (J1 #[]) n):AA m P JH #[J4 s.p s.len s.cap] c t:=by
 intro j;have y:=u.len;rcases u.row with⟨rfl,rfl⟩|⟨g,o,p,h,B,Q,C,z⟩
 ·refine Calls.mono (Proofs.AnyM.slices_Sort_int_none Proofs.Tryz.j6 none 0 (m.at c j)) ?_;rintro k D ⟨rfl,rfl⟩;exact⟨_,rfl,c,j,rfl,w c (by simpa using View.nil) Mod.refl⟩
 ·rw[p,y];have q:Ib.w=1:=rfl;rw[q,By] at C z;have F: ∀a x,l[a]? =some x->o[a]? =some (Value.int J9 x):=λa x e=>by
   have f:=dE (E:=Ib) e 0 (J6 J9 x) rfl;rw[<- z,q,By,G4,Fc] at f;split at f
   ·simpa using f
   ·cases f
  refine Calls.mono (Proofs.AnyM.slices_Sort_int Proofs.Tryz.j6 g 0 s.cap l (m.at c j) ?_ (Aj h) (by omega)) ?_
  ·intro a e;have e:a<l.length:=by simpa using e
   have f:=F a l[a] (A2 e);have G:l.toArray[a]! =l[a]:=by simp[e]
   refine⟨?_,?_⟩
   ·show ah c ⟨g,0+a,none⟩=_;unfold ah;rw[h];simp only[Option.isSome_none,CA,if_false,AI,G,f]
   ·show gh c ⟨g,0+a,none⟩=false;unfold gh;rw[h];simp
  ·rintro k D ⟨rfl,H,os,rfl⟩;have I:(c.modify g (Sort.onCells (Sort.putCells (Value.int J9) 0 (l.mergeSort λx d=>decide (x<=d)).toArray))++os)[g]? =some (J2 (Sort.putCells (Value.int J9) 0 (l.mergeSort λx d=>decide (x<=d)).toArray o) Bp (0,0)):=by rw[IT (by simpa using Aj h),GO,if_pos rfl,h];rfl
   refine⟨_,rfl,c.modify g (Sort.onCells (Sort.putCells (Value.int J9) 0 (l.mergeSort λx d=>decide (x<=d)).toArray))++os,j+H,rfl,w _ ⟨?_,B,λa x e=>⟨⟨g,0,none⟩,p,λi v r=>?_⟩⟩ ⟨by simp,λb J K=>?_⟩⟩
   ·rw[A0G];exact y
   ·have L:i=0:=by have:=(List.getElem?_eq_some_iff.1 r).1;have k:(Ib.enc x).length=1:=rfl;omega
    subst L;simp only[Ib,HC,BT] at r;subst r;have A:a<(l.mergeSort λx d=>decide (x<=d)).length:=(List.getElem?_eq_some_iff.1 e).1;have M:a<o.size:=by rw[A0G] at A;omega
    rw[q,By,Bf,Bf,AI,G4];unfold ah;rw[I];simp only[Option.isSome_none,CA,if_false,Sort.putCells,Array.getElem?_mapIdx];rw[FA M,HU,if_pos ⟨A5 _,by simpa using A⟩];have:(l.mergeSort λx d=>decide (x<=d)).toArray[a-0]! =x:=by rw[HD];simp[e]
    rw[this]
   ·have N:g≠b:=λk=>K (by rw[Sl.ag,p,k];rfl)
    rw[IT (by simpa using J),GO,if_neg N]
structure mV (nm:A2M) (m:Bx) (l:List Nat):Prop where
 inc:l.Pairwise (· < ·)
 mem: ∀n,n∈l↔1<=n/\n<=99999999/\(Cb (aC nm n) m.files).isSome=true
theorem yY {k:A2M}{l:List Fi}:(Cb k l).isSome=true↔k∈l.map (·.name):=by
 constructor
 ·intro a;cases b:Cb k l with
  |none=>rw[b] at a;cases a
  |some f=>
   obtain⟨c,d⟩:=JP b;exact List.mem_map.2 ⟨f,d,c⟩
 ·intro a;obtain⟨f,c,d⟩:=List.mem_map.1 a;cases b:Cb k l with
  |none=>exact absurd d (Sa b f c)
  |some f=>rfl
theorem yZ {m:Bx}(g:Hq m):(m.files.map (·.name)).Nodup:=List.pairwise_map.2 (g.sorted.imp λa=>NI a)
theorem AJ4 {ns:List Nat}(n:ns.Nodup): ∃l:List Nat,((ns.map λd:Nat=>(d:Int)).mergeSort λx e=>decide (x<=e))=l.map (λd:Nat=>(d:Int))/\l.Pairwise (· < ·)/\ ∀d,d∈l↔d∈ns:=by
 have f:=List.mergeSort_perm (ns.map λd:Nat=>(d:Int)) (λx e=>decide (x<=e));have k:((ns.map λd:Nat=>(d:Int)).mergeSort λx e=>decide (x<=e)).Pairwise (λx e=>decide (x<=e)=true):=
  List.pairwise_mergeSort (λa b c o h=>by simp at o h ⊢;omega) (λa b=>by simp;omega) _
 generalize (ns.map λd:Nat=>(d:Int)).mergeSort (λx e=>decide (x<=e))=L at f k;have i: ∀x∈L,((x.toNat:Nat):Int)=x:=λx g=>by
  obtain⟨d,_,rfl⟩:=List.mem_map.1 (f.subset g);simp
 have p:L=(L.map Int.toNat).map (λd:Nat=>(d:Int)):=by
  rw[AW]
  conv=>lhs;rw[<- Kp L]
  exact CM λx g=>(i x g).symm
 have q:L.Nodup:=f.symm.nodup (by
  rw[SM,N6];exact(List.nodup_iff_pairwise_ne.1 n).imp λr s=>r (by exact_mod_cast s))
 refine⟨L.map Int.toNat,p,?_,λd=>?_⟩
 ·rw[N6];have h:L.Pairwise λx e=>decide (x<=e)=true/\x≠e:=k.and (List.nodup_iff_pairwise_ne.1 q)
  refine h.imp_of_mem λ{a c} t u m=>?_
  have w:=i a t;have y:=i c u;have z:a<=c:=of_decide_eq_true m.1;have A:=m.2;omega
 ·constructor
  ·intro j;obtain⟨x,g,rfl⟩:=List.mem_map.1 j;obtain⟨B,v,rfl⟩:=List.mem_map.1 (f.subset g);simpa using v
  ·intro j;exact List.mem_map.2 ⟨(d:Int),f.symm.subset (List.mem_map.2 ⟨d,j,rfl⟩),by simp⟩
theorem za {S:al}{h:aa}{b:Nat}{T:Nat->Prop}{m:Bx}{j:A2M}{N:A2L}(E:cy h)(D:Ce h b T m)(hd:m.down=false)(U:j.size<=1099511627776)(aL:ba m.files<=8000000000000)
  (V: ∀k s (l:List Nat),mV j m l->View Ib k s (l.map λe:Nat=>(e:Int))->Ext h k->(∀ c,s.ag=some c->h.size<=c)->N (J1 #[J4 s.p s.len s.cap,J6 J9 0]) k):AA S P LZ #[Ar b,J7 j] h N:=by
 refine ABu ?_;unfold Uu;refine wo D λs n F y aM=>⟨s,_,rfl,?_⟩
 have W:kg m=(m.files.map (·.name),0):=by unfold kg;rw[if_neg (by simp[hd])]
 rw[W] at F ⊢;refine af.no rfl ?_;have X:=yZ D.aR;have Y: ∀d∈m.files.map (·.name),d.size<=32:=λd g=>by
  obtain⟨f,Z,rfl⟩:=List.mem_map.1 g;exact D.aR.names f Z
 have aN:(m.files.map (·.name)).length<=8000000000000:=by have:=Vj m.files;simp;omega
 have ab: ∀d,(Cb d m.files).isSome=true↔d∈m.files.map (·.name):=λd=>yY
 dsimp only at F;generalize m.files.map (·.name)=names at*
 have v1:=F.view;refine Loop.rule (λO x G=> ∃(i:Nat) (sl:Sl) (ns:List Nat),x=(sl,(i:Int),())/\Ext n G/\Own Ib Bp G sl (ns.map λe:Nat=>(e:Int))/\(∀ c,sl.ag=some c->n.size<=c)/\i<=names.length/\ns.length<=i/\(ns.map (aC j)).Sublist (names.take i)/\(∀ e∈ns,1<=e/\e<=99999999)/\(∀ d:Nat,1<=d->d<=99999999->aC j d∈names.take i->d∈ns)/\O=names.length-i) ?_
  ⟨0,⟨none,0,0⟩,[],rfl,Mod.refl,Own.nil,λc o=>by simp[Sl.ag] at o,A5 _,A0 _,by simp,by simp,by simp,rfl⟩
 rintro K O _ G ⟨i,sl,ns,rfl,r,H,f,aO,aP,u,I,z,rfl⟩ ac;rw[v1.len];refine af.intro (λJ=>?_) (λJ=>?_)
 ·have v:i<names.length:=by simpa using J
  refine ai.mk λad ae=>?_
  have ah:names[i]? =some names[i]:=A2 v;rw[<- v1.len];refine(v1.ext r).idx ah λa _ c=>?_
  refine AJ.mk c.str ?_;refine AM9 ((E.ext y).ext r) U (by have:=Y names[i] (B9 v);omega) λag e w aj ak=>⟨_,rfl,?_⟩
  have A:names.take (i+1)=names.take i++ [names[i]]:=by rw[AD,ah];rfl
  have Q: ∀(p:Sl) (q:List Nat) (k:aa),Ext n k->Own Ib Bp k p (q.map λe:Nat=>(e:Int))->(∀ c,p.ag=some c->n.size<=c)->q.length<=i+1->(q.map (aC j)).Sublist (names.take (i+1))->(∀ e∈q,1<=e/\e<=99999999)->(∀ d:Nat,1<=d->d<=99999999->aC j d∈names.take (i+1)->d∈q)->ad (p,()) k:=λp q k am an ap aq ar au av=>by
   refine ae _ _ ?_;dsimp only;rw[Ab (by omega)];exact ac (names.length-(i+1)) _ _ (by omega) ⟨i+1,p,q,rfl,am,an,ap,v,aq,ar,au,av,rfl⟩
  by_cases t:e=0
  ·refine af.no (by simp[t]) (Q sl ns ag (r.trans w) (H.ext w) f (by omega) ?_ I ?_)
   ·rw[A];exact u.trans (List.sublist_append_left _ _)
   ·intro d B C g;rw[A] at g;rcases List.mem_append.1 g with g|g
    ·exact z d B C g
    ·exact absurd (List.mem_singleton.1 g).symm (aj t d B C)
  ·refine af.yes (by simp;omega) ?_;obtain⟨aQ,ne⟩:=ak t;refine ao.aZ (E:=Ib) (x:=(e:Int)) (s:=sl) (l:=ns.map λe:Nat=>(e:Int)) rfl sn (H.ext w) (by simp;omega) (by simp[maxLen];omega) λp aw ax ay az _=>?_
   refine Q p (ns++ [e]) aw ((r.trans w).more ay f) (by rw[C2];exact ax) (λc o=>?_) (by simp;omega) ?_ ?_ ?_
   ·rcases az c o with h|h
    ·exact f c h
    ·have:=r.size;have:=w.size;omega
   ·rw[A,C2];have aA: [e].map (aC j)= [names[i]]:=by rw[ne];rfl
    rw[aA];exact u.append (List.Sublist.refl _)
   ·intro d g;rcases List.mem_append.1 g with g|g
    ·exact I d g
    ·rw[List.mem_singleton.1 g];omega
   ·intro d B C g;rw[A] at g;rcases List.mem_append.1 g with g|g
    ·exact List.mem_append.2 (.inl (z d B C g))
    ·have:=Iz ((List.mem_singleton.1 g).trans ne);exact List.mem_append.2 (.inr (by simp[this]))
 ·have v:i=names.length:=by simp at J;omega
  subst v;rw[Bm] at u z;have aD:ns.Nodup:=by have n:=u.nodup X;rw[SM,N6] at n;rw[SM];exact n.imp λh aE=>h (by rw[aE])
  obtain⟨l,aF,aG,aH⟩:=AJ4 aD;refine ARm H (by simp;omega) λaI R aJ=>⟨rfl,?_⟩
  rw[aF] at R;refine V aI sl l ⟨aG,λe=>?_⟩ R ((y.trans r).more aJ λc o=>by have:=f c o;have:=y.size;omega) λc o=>by have:=f c o;have:=y.size;omega
  rw[aH,ab];constructor
  ·intro t;obtain⟨L,M⟩:=I e t;exact⟨L,M,u.subset (List.mem_map.2 ⟨e,t,rfl⟩)⟩
  ·rintro⟨L,M,aK⟩;exact z e L M aK
structure bS (h:aa) (t:Nat) (l:List Pr) (f:List UInt8) (lo hi:Nat):Prop where
 at_: ∃fs bs:Sl,h[t]? =some (J2 #[J4 fs.p fs.len fs.cap,J4 bs.p bs.len bs.cap,J7 (AX f),J6 J9 (l.length:Int)] Mo (0,0))/\View Im h fs (CV l)/\View Im h bs ((LJ l).map λb=>AX (BQ b))/\
  (∀ c,fs.ag=some c->lo<=c/\c<hi)/\(∀ c,bs.ag=some c->lo<=c/\c<hi)
 fJ:lo<=t/\t<hi
theorem bS.mod {i j:aa}{t:Nat}{l:List Pr}{f:List UInt8}{b d:Nat}{k:Nat->Prop}(T:bS i t l f b d)(m:Mod k i j)(e: ∀c,b<=c->c<d-> ¬k c):bS j t l f b d:=by obtain⟨n,o,p,q,r,g,h⟩:=T.at_;exact⟨⟨n,o,m.ag p (e t T.fJ.1 T.fJ.2),q.mod m (λc a=>e c (g c a).1 (g c a).2),r.mod m (λc a=>e c (h c a).1 (h c a).2),g,h⟩,T.fJ⟩
theorem bS.ext {a b:aa}{t:Nat}{l:List Pr}{f:List UInt8}{c d:Nat}(T:bS a t l f c d)(m:Ext a b):bS b t l f c d:=T.mod m λ_ _ _ a=>a
theorem Xp(a:List UInt8)(b:List (List UInt8)):aI (a::b)=Ca a++aI b:=rfl
theorem AOB {w:al}{b:aa}{a:List (List UInt8)}{q:A2L}(l: ∀f∈a,f.length<=1048576)(y:(aI a).length<=1099511627776)
  (r: ∀h sl,Ext b h->View Im h sl (a.map AX)->(∀ c,sl.ag=some c->b.size<=c/\c<h.size)->q (J1 #[J4 sl.p sl.len sl.cap,J6 J9 ((aI a).length:Int)]) h):AA w P Lu #[J7 (AX (aI a))] b q:=by
 refine Wq ?_;unfold R9;refine Loop.rule (λm x n=> ∃(i:Nat) (sl:Sl),x=(sl,AX (aI (a.drop i)),())/\m=a.length-i/\i<=a.length/\Ext b n/\Own Im BK n sl ((a.take i).map AX)/\(∀ c,sl.ag=some c->b.size<=c)) ?_
  ⟨0,⟨none,0,0⟩,rfl,rfl,by omega,Mod.refl,Own.nil,λc d=>by simp[Sl.ag] at d⟩
 rintro K m _ n ⟨i,sl,rfl,rfl,z,o,g,p⟩ t;dsimp only;have N:a.length<=(aI a).length:=by
  clear y r z g t
  induction a with
  |nil=>simp
  |cons f a A=>
   have O:=(Jh (l f CH)).1;have:=A λx j=>l x (AH _ j)
   simp only[aI,AF,A1,A6] at this ⊢;omega
 have B:(aI (a.drop i)).length<=1099511627776:=by
  have C:aI a=aI (a.take i)++aI (a.drop i):=by unfold aI;rw[<- Ft,DO]
  have:=congrArg List.length C;rw[A1] at this;omega
 refine rX (AG B (by decide)) λD e=>⟨_,_,_,rfl,?_⟩
 by_cases k:i<a.length
 ·have j:a[i]? =some a[i]:=A2 k;have u:=l _ (B9 k);have hd:a.drop i=a[i]::a.drop (i+1):=Fo k;have v:=Uc j;generalize a[i]=f at j u hd v;rw[hd,Xp,rQ u];refine af.yes rfl ?_;refine ao.aZ (E:=Im) (x:=AX f) (s:=sl) rfl sx (g.ext e) (by grind) (by simp only[AS,An,maxLen];omega) λF Q G H I R=>?_
  refine t (a.length-(i+1)) _ _ (by omega) ⟨i+1,F,rfl,rfl,k,(o.trans e).more H p,?_,λc d=>?_⟩
  ·rw[v,C2];exact G
  ·rcases I c d with b|b
   ·exact p c b
   ·have:=o.size;have:=e.size;omega
 ·have J:a.drop i= []:=HE (by omega);have L:a.take i=a:=Ax (by omega);rw[J];rw[L] at g;have S:=Uf;refine af.no (by grind) ?_;have M:J8 J9 (((AX (aI a)).size:Int)-((AX (aI [])).size:Int))=((aI a).length:Int):=by
   rw[AP,AP];show J8 J9 (((aI a).length:Int)-((0:Nat):Int))=_
   grind [wrap_i64]
  rw[M];exact r D sl (o.trans e) (g.ext e).view λc d=>⟨p c d,(g.ext e).lt d⟩
def ZK(l:List Pr)(a:Nat):A2M:=match a with|0=>⟨#[]⟩|a+1=>JD l a
theorem ARv {l:List Pr}(d: ∀p∈l,MG p)(e:l.Pairwise λp f=>aO p.key f.key=true){a:Nat}{p:Pr}(b:l[a]? =some p):(aO p.key (ZK l a)||bR p.key (ZK l a))=false:=by
 have k:aO (ZK l a) p.key=true:=by
  cases a with
  |zero=>
   have:=(d p (AM b)).key;unfold ZK;rw[Vr];have g:bl p.key≠ []:=by grind [BB]
   cases h:bl p.key with
   |nil=>exact absurd h g
   |cons c t=>
    simp only[decide_eq_true_eq];show([]:List UInt8)<bl p.key
    simp_all
  |succ a=>
   have i:a<l.length:=by grind
   have j:l[a]? =some l[a]:=A2 i;have:=zE e j b;show aO (JD l a) p.key=true
   simp_all [JD]
 rw[GS]
 grind [aO,ZK,Da,CY,Cn,decide_eq_false_iff_not]
theorem AQQ {a N:Nat}(b:a=N+1)(c:N<=1099511627776):J8 J9 (((a:Nat):Int)-(1:Int))=((N:Nat):Int):=by grind [wrap_i64]
theorem hG.jD {s:List UInt8}{l:List Pr}{f:List UInt8}(T:hG s l f):(aI (aT l f)).length<=1099511627776:=by
 have:=VU (OD T);have b:=T.many;have a:(aT l f).length=Br l+1:=by simp[aT,JM]
 have c:Br l<=12501:=by unfold Br;omega
 rw[a] at this;have d:(Br l+1)*1048590<=12502*1048590:=AN _ (by omega);omega
theorem zF {bh:al}{e:aa}{l:List Pr}{f:List UInt8}{aH:A2L}(T:hG (aI (aT l f)) l f)
  (bi: ∀O t,Ext e O->bS O t l f e.size O.size->aH (J1 #[Ar t,J6 J9 0]) O):AA bh P OQ #[J7 (AX (aI (aT l f)))] e aH:=by
 refine AE6 ?_;unfold ZJ;have ce:=xf T.ne;have cf:=T.many;have cg:Br l<=12501:=by unfold Br;omega
 have ch:=T.jB;refine AOB (OD T) (hG.jD T) λh sl C v1 aJ=>⟨sl,_,rfl,?_⟩
 have aK:sl.len=Br l+1:=by rw[v1.len];simp[aT,JM]
 have ci:=v1.cap;rw[AQQ aK (by omega)];refine ai.mk λK aL=>?_
 refine af.no (by rw[AP];simp) ?_;refine aL _ _ (af.no (by rw[aK];simp;omega) ?_);clear aL;simp only[As,HD];refine⟨⟨by omega,by omega⟩,?_⟩;have bj:((aT l f).map AX)[Br l]? =some (AX (WI l f)):=by simp_all [Cl,aT,Fk,JM]
 refine v1.idx bj λa aM d=>?_
 refine AJ.mk d.str ?_;have aN:=Ya T;refine KP λaO aP Q=>⟨_,rfl,?_⟩
 have R: ∀ {e:aa} {s:Sl} {ks:List A2M},Own Im BK e s ks-> ∀ {c:Nat} {aQ:Rd},Ir e c aQ->s.ag≠some c:=λbk c aQ bm=>bk.ne bm (by decide)
 refine ao.mk λS _ bn D cj=>?_
 have aR:Ir S h.size _:=Ap D aP;have ck:=AV (n:=Br l) (by omega);have bo:WI l f=Bb (Br l)++(G9 (CV l)++(Bb l.length++BI f)):=by unfold WI G9;simp_all
 rw[bo] at aR aN;have cl:=AV (n:=l.length) (by omega);have cm:(BI f).length=(Bb f.length).length+f.length:=by simp[BI]
 have cn:=AV (n:=f.length) (by omega);have bp:=RI (ks:=CV l) (PW T.ok);rw[II] at bp;refine De (most:=Br l) aR (AG aN (by decide)) (by omega) λbq ac ad=>⟨_,rfl,?_⟩
 rw[Co (by omega) (A0 _)] at ac ⊢;dsimp only at ac ⊢;refine af.no (by simp) ?_;have co:h.size<aO.size:=Aj aP;have br:=ad.ag bn (by omega);have U:Ext e S:=(C.trans Q).trans D;have cp:Ext e bq:=U.more ad (λb bs=>by rw[bs];exact C.size);have aS: ∀ {g:aa},(∀ c,sl.ag=some c->g[c]? =h[c]?)->View Im g ⟨A7 sl.p sl.cap 0 1,Br l,sl.cap⟩ ((LJ l).map λb=>AX (BQ b)):=by
  intro g d;have v:View Im g sl ((aT l f).map AX):=⟨v1.len,v1.cap,λi x hi=>by
   obtain⟨a,aM,bt⟩:=v1.cells i x hi;refine⟨a,aM,λj v aV=>?_⟩;rw[<- bt j v aV]
   grind [Qw,aU,Sl.ag]⟩
  have:=v.sub (lo:=0) (hi:=Br l) (A5 _) (by simp[aT,JM]);have aW:(((aT l f).map AX).take (Br l)).drop 0=(LJ l).map λb=>AX (BQ b):=by simp_all [HP,aT,No,JM,Ax,AW]
  rw[aW] at this;exact this
 generalize cq:aO.size=q at*
 refine Loop.rule (λm x g=> ∃(i:Nat) (o:Sl),x=((i:Int),())/\m=Br l-i/\i<=Br l/\Ir g h.size ⟨G9 ((CV l).drop i)++(Bb l.length++BI f),false⟩/\
  g[q]? =some (J2 #[J4 o.p o.len o.cap,J4 (A7 sl.p sl.cap 0 1) (Br l) sl.cap,J7 ⟨#[]⟩,J6 J9 0] Mo (0,0))/\Own Im BK g o ((CV l).take i)/\(∀ c,o.ag=some c->q<c)/\
  Mod (λc=>c=h.size\/q<=c) S g) ?_ ⟨0,⟨none,0,0⟩,rfl,rfl,by omega,ac,br,Own.nil,λc d=>by simp[Sl.ag] at d,ad.aj λc _ d=> .inl d⟩
 rintro cr m _ aX ⟨i,o,rfl,rfl,hi,w,ag,F,G,aY⟩ aZ;dsimp only;refine af.intro (λr=>?_) (λr=>?_)
 ·have V:i<Br l:=by simp at r;omega
  refine Aa.mk (s:=o) (AL ag rfl) ?_;have z:=Rt V;have hd:(CV l).drop i=JD l (8*i)::(CV l).drop (i+1):=by grind [CV,II,List.drop_eq_getElem_cons,List.getElem?_eq_getElem,Option.some.inj]
  have a0:=Uc z;have a1:=PW T.ok _ (AM z);generalize JD l (8*i)=k at z hd a0 a1;have bu:G9 ((CV l).drop i)++(Bb l.length++BI f)=BI (bl k)++(G9 ((CV l).drop (i+1))++(Bb l.length++BI f)):=by rw[hd];simp[G9]
  have bv:=RI (ks:=(CV l).drop i) λk bw=>PW T.ok k (Hj bw)
  rw[Cp,II] at bv;have a2:(G9 ((CV l).drop i)++(Bb l.length++BI f)).length<1099511627776:=by simp only[A1];omega
  rw[bu] at w a2;refine Hm w a2 λH W aj=>⟨_,rfl,?_⟩
  rw[Ij (by rw[BB];omega)] at W ⊢;dsimp only at W ⊢;rw[EG];have X:=aj.ag ag (by omega);have ak:=F.mod aj (λc d e=>R F w (e▸d));refine⟨AL X rfl,?_⟩;refine ao.mk λbx _ bz I cs=>⟨AL (Ap I X) rfl,?_⟩
  have bA:Own Im BK bx ⟨some ⟨H.size,0,none⟩,1,1⟩ [k]:=Own.lit (E:=Im) (l:= [k]) bz rfl (by simp[maxLen]);refine GJ (s:=o) (src:=⟨some ⟨H.size,0,none⟩,1,1⟩) sx (ak.ext I) bA.view (by simp only[An,Ds];omega) (by simp only[An,Ds,maxLen];omega) λa3 ct bB am cu cv=>?_
  have cw:q<H.size:=Aj X;have cx: ∀c,o.ag=some c->c<H.size:=λc d=>ak.lt d
  have bC:=am.ag (Ap I X) (λe=>by have:=G _ e;omega);refine ae.mk bC (by simp) λcy bD an cz=>?_
  have a4: ∀c,a3.ag=some c->q<c:=λc d=>by
   grind
  rw[Ab (by omega)];refine aZ (Br l-(i+1)) _ _ (by omega) ⟨i+1,a3,rfl,rfl,V,?_,by simpa using bD,?_,a4,?_⟩
  ·refine an.ag (am.ag (Ap I W) λe=>?_) (by omega);exact R ak W e
  ·rw[a0];exact bB.mod an (λc d e=>by have:=a4 c d;omega)
  ·have Y:Mod (λc=>c=h.size\/q<=c) aX H:=aj.aj λc _ d=> .inl d
   exact(((aY.trans Y).trans I.mod).trans (am.aj λc _ d=> .inr (by have:=G c d;omega))).trans (an.aj λc _ d=> .inr (by omega))
 ·have V:i=Br l:=by simp at r;omega
  subst V;clear aZ;have bF:(CV l).drop (Br l)= []:=HE (by rw[II];omega);have bG:(CV l).take (Br l)=CV l:=Ax (by rw[II];omega);rw[bF] at w;rw[bG] at F;have bH:J8 J9 (((Br l:Nat):Int)*(8:Int))=((Br l*8:Nat):Int):=by grind [wrap_i64]
  rw[bH];have w:Ir aX h.size ⟨Bb l.length++BI f,false⟩:=w;have bI:l.length<=Br l*8:=by unfold Br;omega
  refine De (most:=Br l*8) w (by grind) (by omega) λcB ap aq=>⟨_,rfl,?_⟩
  rw[Co (by omega) bI] at ap ⊢;dsimp only at ap ⊢;have bJ:=aq.ag ag (by omega);rw[Bf,Bf];refine ae.mk bJ (by simp) λbK bL ar cC=>?_
  have a5:Ir bK h.size ⟨BI f++ [],false⟩:=by rw[AK];exact ar.ag ap (by omega)
  refine Hm a5 (by grind) λcD au av=>⟨_,rfl,?_⟩
  rw[Ij (by omega)] at au ⊢;dsimp only at au ⊢;have bM:=av.ag bL (by omega);refine ae.mk bM (by simp) λB J aw cE=>?_
  have bN:=aw.ag au (show h.size≠q by omega);have J:B[q]? =some (J2 #[J4 o.p o.len o.cap,J4 (A7 sl.p sl.cap 0 1) (Br l) sl.cap,J7 (AX f),J6 J9 (l.length:Int)] Mo (0,0)):=by simpa using J
  have ax:Own Im BK B o (CV l):=by have Y:=F.mod aq (λc d e=>R F w (e▸d));have ay:=Y.mod ar (λc d e=>by have:=G c d;omega);have L:=ay.mod av (λc d e=>R ay a5 (e▸d));exact L.mod aw (λc d e=>by have:=G c d;omega)
  have M:Mod (λc=>c=h.size\/q<=c) S B:=
   (((aY.trans (aq.aj λc _ d=> .inl d)).trans (ar.aj λc _ d=> .inr (by omega))).trans (av.aj λc _ d=> .inl d)).trans (aw.aj λc _ d=> .inr (by omega))
  have cF:h.size<=q:=by omega
  have bO:Ext e B:=by refine⟨by have:=U.size;have:=M.size;omega,λc d _=>?_⟩;have:=C.size;have:=U.size;exact(M.get c (by omega) (by omega)).trans (U.get c d (λe=>e))
  have a6: ∀ {g:aa},Ext B g-> ∀c,sl.ag=some c->g[c]? =h[c]? :=by intro g x c d;have:=aJ c d;have cG:=M.size;have:=D.size;have:=Q.size;exact((x.get c (by omega) (λe=>e)).trans (M.get c (by omega) (by omega))).trans ((D.get c (by omega) (λe=>e)).trans (Q.get c (by omega) (λe=>e)))
  have bP: ∀c,Sl.ag ⟨A7 sl.p sl.cap 0 1,Br l,sl.cap⟩=some c->e.size<=c/\c<h.size:=λc d=>aJ c (qS d)
  refine ai.mk λcH a7=>?_
  refine Mg bN ⟨_,rfl,af.no rfl ?_⟩;have bQ:f≠ []:=λaW=>by simp_all
  refine AJ.mk (AL J rfl) (af.no ?_ ?_)
  ·rw[X0,EJ,decide_eq_false_iff_not];exact bQ
  refine AJ.mk (AL J rfl) ?_;refine a7 _ _ (af.no (by rw[AP];simp;omega) ?_);clear a7;refine Loop.rule (λm x g=> ∃i:Nat,x=(ZK l (min (8*i) l.length),((min (8*i) l.length:Nat):Int),(i:Int),())/\m=Br l-i/\i<=Br l/\Ext B g) ?_ ⟨0,by simp[ZK],rfl,by omega,Mod.refl⟩;rintro cI m _ bT ⟨i,rfl,rfl,hi,u⟩ bU;dsimp only;have Z:=Ap u J;refine af.intro (λr=>?_) (λr=>?_)
  ·have y:i<Br l:=by simp at r;omega
   have cJ:=RA y;have cK:8*i<l.length:=by unfold Br at y;omega
   have bV:min (8*i) l.length=8*i:=by omega
   rw[bV];have bW:((LJ l).map λb=>AX (BQ b))[i]? =some (AX (BQ (CK l i))):=by simp[LJ,y]
   refine(aS (a6 u)).idx bW λY cL bX=>?_
   rw[As];refine AJ.mk bX.str ?_;have bY: ∀p∈CK l i,MG p:=λp bZ=>T.ok p (QA bZ)
   have cM:=RH T.ok y;refine sw bY (by omega) λps A az aA cN=>⟨_,_,rfl,?_⟩
   have a8:=Ap aA Z;have b0:ps.len=(CK l i).length:=az.len;refine ai.mk λa9 b1=>?_
   have aC:(CK l i)[0]? =some (CK l i)[0]:=A2 (by omega);have ba:JD l (8*i)=(CK l i)[0].key:=by have:=Qg (l:=l) (i:=i) (j:=0) (by omega);rw[aC] at this;unfold JD;rw[G4] at this;rw[<- this]
   generalize (CK l i)[0]=bb at aC ba;have b2:a9 (false,()) A:=by
    refine b1 _ _ (af.no rfl ?_);refine Loop.rule (λm x g=> ∃j:Nat,x=(ZK l (8*i+j),((8*i+j:Nat):Int),(j:Int),())/\m=(CK l i).length-j/\j<=(CK l i).length/\Ext A g) ?_ ⟨0,by simp,rfl,by omega,Mod.refl⟩;rintro cO m _ cP ⟨j,rfl,rfl,aV,ab⟩ b3;dsimp only;refine af.intro (λr=>?_) (λr=>?_)
    ·have N:j<(CK l i).length:=by grind
     have z:(CK l i)[j]? =some (CK l i)[j]:=A2 N;have aD:(CK l i)[j]∈l:=QA (B9 N);have aE:l[8*i+j]? =some (CK l i)[j]:=by rw[<- Qg (by omega)];exact z
     generalize (CK l i)[j]=p at z aD aE;have b4:=T.ok p aD;refine(az.ext ab).view.idx z λay cQ b5=>?_
     obtain⟨b6,c1,c2⟩:=b5.pair;rw[As];refine AJ.mk b6 (AJ.mk c1 (AZ.mk c2 ?_));refine ao.pair λcR cS cT aF bc cU=>?_
     refine ai.mk λcV b7=>?_
     refine AJ.mk (AL aF rfl) ?_;rw[ARv T.ok T.inc aE];refine af.no rfl ?_;have b8:=Ap bc (Ap ab a8);refine AJ.mk (AL b8 rfl) ?_;refine AJ.mk (AL aF rfl) ?_;have a1:=b4.bI;refine zo (by omega) ⟨_,rfl,?_⟩;rw[EJ,T.has p aD];refine b7 _ _ (af.no rfl ?_);refine AJ.mk (AL aF rfl) ?_;rw[Ab (by omega),Ab (by omega)];refine b3 ((CK l i).length-(j+1)) _ _ (by omega) ⟨j+1,?_,rfl,N,ab.trans bc⟩;have b9:ZK l (8*i+(j+1))=p.key:=by show JD l (8*i+j)=p.key;unfold JD;rw[aE]
     rw[b9];rfl
    ·have N:j=(CK l i).length:=by grind
     rw[Ab (by omega)];have aG:min (8*(i+1)) l.length=8*i+j:=by rw[N];unfold CK;rw[An,Cp];omega
     refine bU (Br l-(i+1)) _ _ (by omega) ⟨i+1,?_,rfl,y,(u.trans aA).trans ab⟩;rw[aG]
   have bd:bE ps.p ps.len 0 λL=>AJ A (L.add ((0:Int).toNat*3)) λca=>Aa A (⟨q,0,none⟩:Q6) λbe=>bE be.p be.len ((i:Nat):Int) λbf=>AJ A (bf.add (((i:Nat):Int).toNat*1)) λcb=>a9 ((!bR ca cb),()) A:=by
    obtain⟨L,cc,bg⟩:=az.view.cells 0 bb aC;rw[HX,add_zero] at bg;refine bE.mk (k:=0) cc (by omega) ?_;refine AJ.mk (n:=bb.key) (by show ah A (L.add 0)=_;rw[add_zero];exact bg.pair.1) ?_;refine Aa.mk (s:=o) (AL a8 rfl) ?_;refine((ax.ext u).ext aA).view.idx (Rt y) λbf cW cd=>?_
    rw[As];refine AJ.mk cd.str ?_;rw[ba,Cn,decide_eq_true rfl];exact b2
   refine af.no rfl (af.no (by grind) (af.no (by rw[b0];simp;omega) ?_));rw[Ab (by omega)];refine af.intro (λr=>?_) (λ_=>bd);have:i+1<Br l:=by simp at r;omega
   exact af.no (by grind) bd
  ·have y:i=Br l:=by simp at r;omega
   have aG:min (8*i) l.length=l.length:=by rw[y];omega
   rw[aG];refine AC.mk (AL Z rfl) (af.no (by simp) ?_);refine bi bT q (bO.trans u) ⟨⟨o,⟨A7 sl.p sl.cap 0 1,Br l,sl.cap⟩,Z,(ax.ext u).view,aS (a6 u),λc d=>?_,λc d=>?_⟩,?_⟩
   ·have h:=(ax.ext u).lt d;have:=G c d;have:=C.size;omega
   ·have h:=bP c d;have:=M.size;have:=u.size;have:=D.size;have:=Q.size;omega
   ·have:=Aj Z;have:=C.size;omega
def XD(g:al)(h:Int)(f:J0)(i:aa)(j:A2L):=Loop (λK (s:Int×Int×Unit) a=>af (decide (s.1<s.2.1)) (ai (λ(b:Int×Int×Unit) k=>K (b.1,b.2.1,()) k) λc=>Em g P f #[J6 J9 (J8 J9 ((J8 .u64 (J8 J9 (s.1+s.2.1))).fdiv ((2:Int)^(1:Nat))))] a λv d=> ∃e:Bool,v=J3 e/\(af (!e) (c ((J8 J9 ((J8 J9 ((J8 .u64 (J8 J9 (s.1+s.2.1))).fdiv ((2:Int)^(1:Nat))))+1)),s.2.1,()) d) (c (s.1,(J8 J9 ((J8 .u64 (J8 J9 (s.1+s.2.1))).fdiv ((2:Int)^(1:Nat)))),()) d))) (j (J6 J9 s.1) a)) (0,h,()) i
theorem AC1 {a b f c d}(e:XD a b f c d):AA a P QC #[J6 J9 b,f] c d:=Ac (CX 2 (AO (.block (.loop [(5,.one (.int J9)),(6,.one (.int J9))] [1] (AO Fz (.bM [(5,.one (.int J9)),(6,.one (.int J9))] [1] kV)))) Bo)) (by kernel_rfl) e
def G7(b:al)(s:Sl)(v:Int)(c:aa)(d:A2L):=AA b P JB #[J4 s.p s.len s.cap,J6 J9 v] c λv1 e=> ∃a:Int,v1=J6 J9 a/\(d (J3 (decide (a>=0))) e)
theorem MH {a s v b c}(d:G7 a s v b c):AA a P Eu #[J4 s.p s.len s.cap,J6 J9 v] b c:=Ac FN (by kernel_rfl) d
def I6(g:al)(s:Sl)(v:Int)(e:aa)(d:A2L):=Loop (λK (b:Int×Unit) c=>af (decide (b.1<(s.len:Int))) (bE s.p s.len b.1 λa=>AC J9 c (a.add (b.1.toNat*1)) λf=>af (v==f) (d (J6 J9 b.1) c) (K ((J8 J9 (b.1+1)),()) c)) (d (J6 J9 (-1)) c)) (0,()) e
theorem Na {a s v b c}(d:I6 a s v b c):AA a P JB #[J4 s.p s.len s.cap,J6 J9 v] b c:=Ac qG (by kernel_rfl) d
def IZ(b:al)(s:Sl)(i:Int)(v:Sl)(e:aa)(d:A2L):=aG ((0:Int)<=i/\i<=(s.len:Int))<| af ((v.len:Int)==0) (d (J4 s.p s.len s.cap) e) (af (i==(s.len:Int)) (BG b P (Builtin.append_ #[DC,DC] DC #[J4 s.p s.len s.cap,J4 v.p v.len v.cap]) e λv1 h=> ∃c:Sl,v1=J4 c.p c.len c.cap/\(d (J4 c.p c.len c.cap) h)) (af (decide ((J8 J9 ((s.len:Int)+(v.len:Int)))>(s.cap:Int))) (aG ((0:Int)<=i/\i<=(s.cap:Int))<| BG b P (Builtin.append_ #[DC,Bp] DC #[J4 (A7 s.p s.cap 0 1) (i.toNat-0) (s.cap-0),J6 J9 (J8 J9 ((J8 J9 ((s.len:Int)+(v.len:Int)))-i))]) e λv2 j=> ∃a:Sl,v2=J4 a.p a.len a.cap/\(aG ((0:Int)<=i/\i<=(a.len:Int))<| BG b P (Builtin.copy_ #[DC,DC] Bp #[J4 (A7 a.p a.cap i.toNat 1) (a.len-i.toNat) (a.cap-i.toNat),J4 v.p v.len v.cap]) j λk l=> ∃m:Int,k=J6 J9 m/\(aG ((0:Int)<=(J8 J9 (i+(v.len:Int)))/\(J8 J9 (i+(v.len:Int)))<=(a.len:Int))<| aG ((0:Int)<=i/\i<=(s.len:Int))<| BG b P (Builtin.copy_ #[DC,DC] Bp #[J4 (A7 a.p a.cap ((J8 J9 (i+(v.len:Int))).toNat) 1) (a.len-((J8 J9 (i+(v.len:Int))).toNat)) (a.cap-((J8 J9 (i+(v.len:Int))).toNat)),J4 (A7 s.p s.cap i.toNat 1) (s.len-i.toNat) (s.cap-i.toNat)]) l λn o=> ∃p:Int,n=J6 J9 p/\(d (J4 a.p a.len a.cap) o)))) (aG ((0:Int)<=(J8 J9 ((s.len:Int)+(v.len:Int)))/\(J8 J9 ((s.len:Int)+(v.len:Int)))<=(s.cap:Int))<| aG ((0:Int)<=(J8 J9 (i+(v.len:Int)))/\(J8 J9 (i+(v.len:Int)))<=(((((J8 J9 ((s.len:Int)+(v.len:Int))).toNat)-0):Nat):Int))<| nY b P Gu #[J4 v.p v.len v.cap,J4 (A7 (A7 s.p s.cap 0 1) (s.cap-0) ((J8 J9 (i+(v.len:Int))).toNat) 1) ((((J8 J9 ((s.len:Int)+(v.len:Int))).toNat)-0)-((J8 J9 (i+(v.len:Int))).toNat)) ((s.cap-0)-((J8 J9 (i+(v.len:Int))).toNat))] e λq f=> ∃g:Bool,q=J3 g/\(af (!g) (aG ((0:Int)<=(J8 J9 (i+(v.len:Int)))/\(J8 J9 (i+(v.len:Int)))<=(((((J8 J9 ((s.len:Int)+(v.len:Int))).toNat)-0):Nat):Int))<| aG ((0:Int)<=i/\i<=(((((J8 J9 ((s.len:Int)+(v.len:Int))).toNat)-0):Nat):Int))<| BG b P (Builtin.copy_ #[DC,DC] Bp #[J4 (A7 (A7 s.p s.cap 0 1) (s.cap-0) ((J8 J9 (i+(v.len:Int))).toNat) 1) ((((J8 J9 ((s.len:Int)+(v.len:Int))).toNat)-0)-((J8 J9 (i+(v.len:Int))).toNat)) ((s.cap-0)-((J8 J9 (i+(v.len:Int))).toNat)),J4 (A7 (A7 s.p s.cap 0 1) (s.cap-0) i.toNat 1) ((((J8 J9 ((s.len:Int)+(v.len:Int))).toNat)-0)-i.toNat) ((s.cap-0)-i.toNat)]) f λr t=> ∃u:Int,r=J6 J9 u/\(aG ((0:Int)<=i/\i<=(((((J8 J9 ((s.len:Int)+(v.len:Int))).toNat)-0):Nat):Int))<| BG b P (Builtin.copy_ #[DC,DC] Bp #[J4 (A7 (A7 s.p s.cap 0 1) (s.cap-0) i.toNat 1) ((((J8 J9 ((s.len:Int)+(v.len:Int))).toNat)-0)-i.toNat) ((s.cap-0)-i.toNat),J4 v.p v.len v.cap]) t λw x=> ∃y:Int,w=J6 J9 y/\(d (J4 (A7 s.p s.cap 0 1) (((J8 J9 ((s.len:Int)+(v.len:Int))).toNat)-0) (s.cap-0)) x))) (aG ((0:Int)<=(s.len:Int)/\(s.len:Int)<=(((((J8 J9 ((s.len:Int)+(v.len:Int))).toNat)-0):Nat):Int))<| BG b P (Builtin.copy_ #[DC,DC] Bp #[J4 (A7 (A7 s.p s.cap 0 1) (s.cap-0) ((s.len:Int).toNat) 1) ((((J8 J9 ((s.len:Int)+(v.len:Int))).toNat)-0)-((s.len:Int).toNat)) ((s.cap-0)-((s.len:Int).toNat)),J4 v.p v.len v.cap]) f λz A=> ∃B:Int,z=J6 J9 B/\(aG ((0:Int)<=i/\i<=(((((J8 J9 ((s.len:Int)+(v.len:Int))).toNat)-0):Nat):Int))<| AA b P I8 #[J4 (A7 (A7 s.p s.cap 0 1) (s.cap-0) i.toNat 1) ((((J8 J9 ((s.len:Int)+(v.len:Int))).toNat)-0)-i.toNat) ((s.cap-0)-i.toNat),J6 J9 (v.len:Int)] A λC D=>C=J1 #[]/\(d (J4 (A7 s.p s.cap 0 1) (((J8 J9 ((s.len:Int)+(v.len:Int))).toNat)-0) (s.cap-0)) D)))))))
theorem NU {a s i v b c}(d:IZ a s i v b c):AA a P DD #[J4 s.p s.len s.cap,J6 J9 i,J4 v.p v.len v.cap] b c:=Ac uQ (by kernel_rfl) d
end Go.Lf.G
namespace Go.Lf.G.M
open Go Go.Lf Go.Lf.G
theorem toList_inj {a b:A2M}:(a.toList==b.toList)=decide (a=b):=by rw[ByteArray.toList_eq,ByteArray.toList_eq];rw[DS];simp[Mu,<-Array.toList_inj]
def Ag(x:Pr):Int:=
 if(decide (x.key=⟨#[]⟩)||(x.gone&& !decide (x.val=⟨#[]⟩))) then 1 else if(decide (x.key.size>64)||decide (x.val.size>8192)) then 2 else 0
theorem Cn {a b:A2M}:bR a b=decide (a=b):=toList_inj
def iq(key:A2M)(l:List Pr):List Pr:=l.takeWhile λa=>aO a.key key
def aM(key:A2M)(l:List Pr):Nat:=(iq key l).length
def A8(key:A2M)(l:List Pr):Bool:=match l[aM key l]? with|some a=>decide (a.key=key)|none=>false
theorem nB(key:A2M)(l:List Pr):aM key l<=l.length:=(Wr _).length_le
theorem VN {e:Type}{p:e->Bool}: ∀ {l:List e} {i:Nat},i<=(l.takeWhile p).length->(∀ x,l[i]? =some x->p x=true->i<(l.takeWhile p).length)/\(∀ x,l[i]? =some x->p x=false->i=(l.takeWhile p).length)/\(l[i]? =none->i=(l.takeWhile p).length)
 | [],i,a=>by simp at a;subst a;simp
 |y::l,0,a=>by
  refine⟨λx b c=>?_,λx b c=>?_,λa=>by simp at a⟩
  ·simp at b;subst b;simp[c]
  ·simp at b;subst b;simp[c]
 |y::l,i+1,a=>by
  rw[My] at a ⊢;split at a
  ·rename_i f;have d:=VN (p:=p) (l:=l) (i:=i) (by simpa using a);simp only[f,if_true,A6];refine⟨λx b c=>?_,λx b c=>?_,λg=>?_⟩
   ·have:=d.1 x (by simpa using b) c;omega
   ·have:=d.2.1 x (by simpa using b) c;omega
   ·have:=d.2.2 (by simpa using g);omega
  ·simp at a
theorem Gc:QZ P AR AQ BO.w 40=true:=by kernel_rfl
theorem AOM:QZ P Jf AR iu.w 24=true:=by kernel_rfl
theorem AR6:QZ P BD Bj jZ.w 8=true:=by kernel_rfl
def YY(x:Pr)(l:List Pr):List Pr:=l.take (aM x.key l)++ [x]++l.drop (if A8 x.key l then aM x.key l+1 else aM x.key l)
def Bu(x:Pr)(l:List Pr):List Pr:=if Ag x≠0 then l else YY x l
theorem APL(x:Pr)(l:List Pr):(YY x l).length<=l.length+1:=by unfold YY;have:=nB x.key l;simp;split<;>omega
theorem AOE(x:Pr)(l:List Pr):(Bu x l).length<=l.length+1:=by
 unfold Bu;split
 ·omega
 ·exact APL x l
theorem qV {a:J0}{c:J0}:(#[]++ #[a]++ #[c]:Array J0)= #[a,c]:=rfl
theorem AG0 {G:al}{e H:aa}{fv:J0}{S:Nat->Prop}{l:List Pr}{I:A2L}(J:EY G P fv S H l)(K: ∀b,S b->e[b]? =H[b]?)(ax:l.length<=1099511627776)
  (ac: ∀s h,Own BO AQ h s l->(∀ c,s.ag=some c->e.size<=c)->Ext e h->I (J4 s.p s.len s.cap) h):AA G P Cz #[J4 none 0 0,fv] e I:=by
 refine IV (s:=⟨none,0,0⟩) ?_;unfold Ej;refine ao.mk λo _ a L ay=>?_
 have M: ∀b,S b->b<e.size:=λb a=>by
  have:=K b a;rw[FA (J.1 b a)] at this;exact Aj this
 have ad: ∀h:aa,Mod (λc=>c=e.size) o h->Ext e h:=λh m=>L.then (m.aj λc _ j=> .inr (by omega))
 refine Xr J (λb a=>(L.get b (M b a) (by simp)).trans (K b a))
  (λi c y p=>c=none/\ ∃s:Sl,p[e.size]? =some (J2 #[J4 s.p s.len s.cap] AR (0,0))/\Own BO AQ p s (l.take i)/\(∀ b,y b↔(b=e.size\/s.ag=some b))/\(∀ b,s.ag=some b->b<p.size/\e.size<b))
  (λb=>b=e.size) (λb a d=>by have:=M b a;omega) ?_ ?_ ?_ ?_ ?_ ?_
 ·rintro i c y p ⟨_,s,q,r,f,k⟩ b a;rcases(f b).1 a with rfl|n
  ·exact Aj q
  ·exact(k b n).1
 ·rintro i c y p h ⟨d,s,q,r,f,k⟩ m;refine⟨d,s,m.ag q (λz=>z.1 ((f _).2 (.inl rfl))),r.mod m (λc j z=>z.1 ((f _).2 (.inr j))),f,λb a=>⟨?_,(k b a).2⟩⟩;have:=m.size;have:=(k b a).1;omega
 ·exact⟨rfl,⟨none,0,0⟩,a,Own.nil,λb=>by simp[Sl.ag],λb a=>by simp[Sl.ag] at a⟩
 ·rintro i x N p rec az aA O ⟨_,s,q,r,f,k⟩ Q aC af ag ah aD;have aE:=(List.getElem?_eq_some_iff.1 O).1;refine ao.pair λaF R aG ai u aH=>?_
  refine⟨rec,u.ag af (by simp),ag,?_⟩;generalize T:R.setIfInBounds (o.size+1) (.loop {rec with state:= .busy})=A;have t:Mod (λb=>b=o.size+1) R A:=T▸Mod.setObj rfl;have aj:A[o.size+1]? =some (.loop {rec with state:= .busy}):=by rw[<- T];exact Cf (by omega)
  have aI:=Aj q;have B:=t.ag ai (by omega);have U:=t.ag (u.ag q (by simp)) (by omega);have ak:=(r.ext u).mod t (λc j d=>Q ((f _).2 (.inr (d▸j))));refine Aa.mk (AL U rfl) (AJ.mk (AL B rfl) (AJ.mk (AB B rfl) (AZ.mk (AB B rfl) ?_)));have V:(l.take i).length=i:=by simp;omega
  refine ao.aZ (E:=BO) (x:=x) rfl Gc ak (by rw[V];omega) (by rw[V];simp[maxLen];omega) λW X Y v C _=>?_
  have aJ:=t.size;have am:s.ag≠some e.size:=λd=>by have:=k _ d;omega
  refine ae.mk (v.ag U am) (by simp) λan ap D aK=>ah an ?_
  refine⟨λb=>b=e.size\/W.ag=some b,?_,?_,?_,rfl,W,by simpa using ap,?_,λ_=>Dd,?_⟩
  ·rintro b (rfl|a)
   ·exact .inl ((f _).2 (.inl rfl))
   ·rcases C b a with n|n
    ·exact .inl ((f _).2 (.inr n))
    ·exact .inr (by omega)
  ·have aq:Mod (λb=>N b\/b=o.size+1) p A:=u.mod.trans (t.aj λb _ a=> .inr a);have ar:Mod (λb=>N b\/b=o.size+1) p X:=aq.trans (v.aj λb _ a=> .inl ((f _).2 (.inr a)));exact ar.trans (D.aj λb _ a=> .inl ((f _).2 (.inl a)))
  ·refine D.ag (v.ag aj (λd=>Q ((f _).2 (.inr d)))) (by omega)
  ·have au:=Y.mod D (λc j d=>by
    rcases C c j with n|n
    ·have:=k _ n;omega
    ·omega)
   rw[AD,O];exact au
  ·intro b a;have:=v.size;have aL:b<X.size:=by
    rcases Y.row with⟨rfl,_⟩|⟨g,av,F,w,_⟩
    ·simp[Sl.ag] at a
    ·simp[Sl.ag,F] at a;subst a;exact Aj w
   refine⟨by omega,?_⟩;rcases C b a with n|n
   ·exact(k _ n).2
   ·omega
 ·rintro O' h ⟨_,s,q,r,f,k⟩ Z _ aM ab;have aN:=Z.size;refine Aa.mk (AL q rfl) ⟨ab,?_⟩;rw[Bm] at r;have aw:s.ag≠some o.size:=λd=>by
   rcases r.row with⟨rfl,_⟩|⟨g,av,F,w,_⟩
   ·simp[Sl.ag] at d
   ·simp[Sl.ag,F] at d;rw[d,ab] at w;cases w
  refine ac s _ (r.mod (Mod.setObj (S:=λc=>c=o.size) rfl) λc j d=>aw (d▸j)) (λc j=>by have:=k _ j;omega) ?_;exact(ad h Z).then (Mod.setObj (.inr (by omega)))
 ·rintro i aO O' h ⟨d,_⟩;cases d
theorem XF {e:al}{d f:aa}{fv:J0}{g:Nat->Prop}{l:List Pr}{h:A2L}(i:EY e P fv g f l)(j: ∀b,g b->d[b]? =f[b]?)(k:l.length<=1099511627776)
  (m: ∀s a,Own BO AQ a s l->(∀ c,s.ag=some c->d.size<=c)->Ext d a->h (J4 s.p s.len s.cap) a):AA e P Cy #[fv] d h:=by
 refine NA ?_;unfold Ie;exact AG0 i j k λs a n o p=>⟨s,rfl,m s a n o p⟩
def A9(l:List Pr):List Pr:=l.filter λx=> !x.gone
theorem w6 {b:Type}{p:b->Bool}: ∀ {l:List b} {i:Nat} {x:b},l[i]? =some x->p x=true->(l.filter p)[((l.take i).filter p).length]? =some x
 | [],i,x,a,_=>by simp at a
 |y::l,0,x,a,c=>by simp at a;subst a;simp[c]
 |y::l,i+1,x,a,c=>by
  have d:=w6 (p:=p) (l:=l) (i:=i) (by simpa using a) c;rw[I2,AT,AT];split
  ·simpa using d
  ·exact d
theorem AFA {a:Type}{p:a->Bool}(l:List a)(i:Nat):((l.take i).filter p).length<=(l.filter p).length:=((List.take_sublist i l).filter p).length_le
theorem AP7 {Y:al}{D:aa}{b:Nat}{T:Q7}{fr:Nat×Nat}{fv:J0}{z:Nat->Prop}{l:List Pr}(a:D[b]? =some (J2 #[fv] T fr))(h:(fv= .nilFunc/\l= []/\ ∀c,¬z c)\/EY Y P fv z D l):
  EY Y P (.func (.func PN) #[] #[J5 (some ⟨b,0,none⟩)]) (λc=>z c\/c=b) D (A9 l):=by
 have aw:=Aj a;refine⟨?_,_,_,rfl,λZ=>by kernel_rfl,λd E Z w F ax hd hB ay G=>?_⟩
 ·rintro c (n|rfl)
  ·rcases h with h|h
   ·exact absurd n (h.2.2 c)
   ·exact h.1 c n
  ·exact aw
 rw[qV];refine ABj ?_;unfold VB;refine Ze.mk ax (ao.mk λu _ az q aJ=>?_);have ab:u[b]? =some (J2 #[fv] T fr):=by have r:=(E b (.inr rfl)).trans a;exact q.ag r (by simp)
 refine TA.mk (AL ab rfl) ?_;rcases h with⟨rfl,rfl,_⟩|h
 ·refine⟨trivial,af.yes rfl ?_⟩;exact⟨rfl,0,true,F,q.mod,λb a=> .inl a,hB.bj _ _ _ _ _ G (q.aj λ_ _ d=>d.elim),λ_=>rfl,by simp⟩
 ·refine⟨h.one.2.1,af.no h.one.2.2 ?_⟩;refine TA.mk (AL ab rfl) ?_;have aA:=hB.wf _ _ _ _ G;have aC: ∀b,z b->b<d.size:=λb a=>by
   have:=E b (.inl a);rw[FA (h.1 b a)] at this;exact Aj this
  have aD:=hB.bj _ _ _ _ _ G (q.aj (S':=λb=>¬F b/\d.size<=b) λ_ _ d=>d.elim);refine Xr h (λc n=>(q.get c (aC c n) (by simp)).trans (E c (.inl n)))
   (λi c e j=>j[d.size]? =some (J2 #[Z] Mv (0,0))/\ ¬e d.size/\match c with
    |none=>w (A9 (l.take i)).length true e j
    |some ac=>ac=none/\ ∃s,s<=(A9 l).length/\w s false e j)
   F (λc n=>hd c (.inl n)) ?_ ?_ ?_ ?_ ?_ ?_
  ·rintro i c e j ⟨_,_,f⟩;cases c
   ·exact hB.wf _ _ _ _ f
   ·obtain⟨_,s,_,H⟩:=f;exact hB.wf _ _ _ _ H
  ·rintro i c e j I ⟨r,t,f⟩ m;refine⟨m.ag r (λd=>by omega),t,?_⟩;have ad:Mod (λb=>¬e b/\d.size<=b) j I:=m.aj λb _ a=>⟨a.1,by omega⟩
   cases c
   ·exact hB.bj _ _ _ _ _ f ad
   ·obtain⟨H,s,J,aE⟩:=f;exact⟨H,s,J,hB.bj _ _ _ _ _ aE ad⟩
  ·exact⟨az,λd=>by have:=aA _ d;omega,aD⟩
  ·rintro i x e j rec aK aL L ⟨r,t,f⟩ M aM aF aG ae aH;refine ao.pair λaN ag aO aI N aP=>?_
   refine⟨rec,N.ag aF (by simp),aG,?_⟩;generalize k:ag.setIfInBounds (u.size+1) (.loop {rec with state:= .busy})=v;have y:Mod (λb=>b=u.size+1) ag v:=k▸Mod.setObj rfl;have O:v[u.size+1]? =some (.loop {rec with state:= .busy}):=by rw[<- k];exact Cf (by omega)
   have A:=y.ag aI (by omega);have Q:=y.ag (N.ag r (by simp)) (by omega);have R:Mod (λb=>b=u.size+1) j v:=(Ext.mod N).trans y;have ah:w (A9 (l.take i)).length true e v:=hB.bj _ _ _ _ _ f (R.aj λb _ a=>by subst a;exact⟨M,by omega⟩);have aj:A9 (l.take (i+1))=A9 (l.take i)++A9 [x]:=by rw[AD,L];simp[A9]
   refine ai.mk λK ak=>?_
   refine AZ.mk (AB A rfl) ?_;refine af.intro (λo=>?_) (λo=>?_)
   ·have o:(!x.gone)=true:=o;refine TA.mk (AL Q rfl) ?_;refine AJ.mk (AL A rfl) (AJ.mk (AB A rfl) (AZ.mk (AB A rfl) ?_));refine Em.mono (ay _ _ e v (w6 (p:=λx:Pr=> !x.gone) L o) ah) ?_;rintro _ S ⟨g,B,rfl,am,C,an⟩;refine⟨g,rfl,ak _ _ ?_⟩;have aQ:=AFA (p:=λx:Pr=> !x.gone) l (i+1);have ap:(A9 (l.take (i+1))).length=(A9 (l.take i)).length+1:=by rw[aj];simp only[A9,A1];simp[o]
    have aq:=C.ag Q t;have ar: ¬B d.size:=λn=>(am _ n).elim t λd=>by have:=y.size;omega
    have au:Mod (λb=>e b\/b=u.size+1) j S:=(R.aj λb _ a=> .inr a).trans (C.aj λb _ a=> .inl a);have av: ∀b,B b->e b\/j.size<=b:=λb a=>(am b a).elim .inl λd=> .inr (by have:=y.size;omega)
    refine af.intro (λk=>aH none S ?_) (λk=>ae S ?_)
    ·have k:g=false:=by simpa using k
     subst k;exact⟨B,av,au,C.ag O M,aq,ar,rfl,_,by have:=ap;unfold A9 at *;omega,an⟩
    ·have k:g=true:=by simpa using k
     subst k;exact⟨B,av,au,C.ag O M,aq,ar,by show w _ _ _ _;rw[ap];exact an⟩
   ·have o:(!x.gone)=false:=o;refine ak _ _ (af.no rfl (ae v ?_));refine⟨e,λb a=> .inl a,R.aj λb _ a=> .inr a,O,Q,t,?_⟩;show w _ _ _ _;have:A9 [x]= []:=by simp at o;simp[A9,o]
    rw[aj,this,AK];exact ah
  ·rintro O' I ⟨r,t,f⟩ U V W X;refine⟨X,rfl,(A9 l).length,true,O',?_,?_,?_,λ_=>rfl,A0 _⟩
   ·exact(q.mod.trans U).then (Mod.setObj (.inr (by omega)))
   ·intro b a;exact(W b a).elim .inl λd=> .inr (by omega)
   ·rw[Bm] at f;exact hB.bj _ _ _ _ _ f (Mod.setObj ⟨V,by omega⟩)
  ·rintro i ac O' I ⟨r,t,rfl,s,J,f⟩ L U V W X;refine⟨X,rfl,s,false,O',?_,?_,?_,(λd=>by cases d),J⟩
   ·exact(q.mod.trans U).then (Mod.setObj (.inr (by omega)))
   ·intro b a;exact(W b a).elim .inl λd=> .inr (by omega)
   ·exact hB.bj _ _ _ _ _ f (Mod.setObj ⟨V,by omega⟩)
theorem sY {f:al}{d:aa}{fv:J0}{g:Nat->Prop}{l:List Pr}{i:A2L}(a:(fv= .nilFunc/\l= []/\ ∀c,¬g c)\/EY f P fv g d l)
  (m: ∀j e,EY f P j (λc=>g c\/c=d.size) e (A9 l)->Ext d e->e.size=d.size+1->i j e):AA f P OG #[fv] d i:=by
 refine AEm ?_;unfold Yn;refine Ze.mk ?_ (ao.mk λn _ o k p=>?_)
 ·rcases a with a|a
  ·rw[a.1];rfl
  ·exact a.one.1
 ·refine m _ n (AP7 o ?_) k p;rcases a with a|a
  ·exact .inl a
  ·exact .inr (a.aj (λ_=>id) (λb h=>by have:=a.1 b h;omega) (λb h=>k.get b (a.1 b h) (by simp)))
def Rf(a:A2M)(x:Pr):Bool:=decide (a=⟨#[]⟩)||aO x.key a
def P9(a:A2M)(b:Int)(l:List Pr):List Pr:=(l.takeWhile (Rf a)).take b.toNat
theorem oE {b:Type}{p:b->Bool}: ∀ {l:List b} {i:Nat},i<=(l.takeWhile p).length->(l.takeWhile p).take i=l.take i
 | [],i,_=>by simp
 |y::l,0,_=>by simp
 |y::l,i+1,a=>by
  rw[My] at a ⊢;split at a
  ·rename_i c;simp only[c,if_true,I2];rw[oE (by simpa using a)]
  ·simp at a
theorem RJ: ∀(a:List UInt8),Op.bytesLess a a=false
 | []=>rfl
 |a::x=>by simp[Op.bytesLess,RJ x]
theorem mG: ∀(a b:List UInt8),Op.bytesLess a b=false->Op.bytesLess b a=false->a=b
 | [],[],_,_=>rfl
 | [],_::_,c,_=>by simp[Op.bytesLess] at c
 |_::_,[],_,c=>by simp[Op.bytesLess] at c
 |a::x,b::f,d,e=>by
  simp only[Op.bytesLess,GS,A03,decide_eq_false_iff_not,beq_eq_false_iff_ne] at d e;have g:a=b:=by grind
  subst g;rw[mG x f (d.2.resolve_left (by simp)) (e.2.resolve_left (by simp))]
theorem UA: ∀(a b c:List UInt8),Op.bytesLess a b=true->Op.bytesLess b c=true->Op.bytesLess a c=true
 |_,[],_,f,_=>by simp[Op.bytesLess] at f
 |_,_::_,[],_,f=>by simp[Op.bytesLess] at f
 | [],_::_,_::_,_,_=>by simp[Op.bytesLess]
 |a::x,b::g,c::z,e,d=>by
  simp only[Op.bytesLess,DG,A3,decide_eq_true_eq,beq_iff_eq] at e d ⊢;rcases e with e|⟨rfl,e⟩
  ·grind
  ·rcases d with d|⟨rfl,d⟩
   ·exact .inl d
   ·exact .inr ⟨rfl,UA x g z e d⟩
theorem CY(a:A2M):aO a a=false:=RJ _
theorem Da {a b c:A2M}(d:aO a b=true)(e:aO b c=true):aO a c=true:=UA _ _ _ d e
theorem OP {a b:A2M}(d:aO a b=false)(e:aO b a=false):a=b:=by
 have:=mG _ _ d e;have c:bR a b=true:=by simp[bR,this]
 rw[Cn] at c;simpa using c
theorem Oj {a b:A2M}(c:aO a b=true):aO b a=false:=by grind [aO,Da,CY]
theorem oF {a b c:A2M}(d:aO a b=true)(e:aO c b=false):aO a c=true:=by grind [aO,OP,Da]
theorem Zz {a b c:A2M}(d:aO b a=false)(e:aO c b=false):aO c a=false:=by grind [aO,oF]
def upto(p a:Pr):Bool:=aO a.key p.key||bR a.key p.key
def I9(p:Pr)(l:List Pr):List Pr:=l.dropWhile (upto p)
inductive ML:List (List Pr)->List Pr->Prop
 |done {ls:List (List Pr)} (h: ∀l,l∈ls->l= []):ML ls []
 |step {ls:List (List Pr)} {k:Nat} {p:Pr} {t out:List Pr} (hk:ls[k]? =some (p::t))
   (hmin: ∀j q u,ls[j]? =some (q::u)->aO q.key p.key=false/\(j<k->aO p.key q.key=true)) (hm:ML (ls.map (I9 p)) out):ML ls (p::out)
theorem ML.iE {a:List (List Pr)}{out:List Pr}(m:ML a out)(b: ∀l,l∈a->l= []):out= []:=by
 cases m with
 |done _=>rfl
 |step c d e=>have:=b _ (AM c);cases this
theorem ML.gG {a:List (List Pr)}{out:List Pr}(m:ML a out){c:Nat}{p:Pr}{t:List Pr}(f:a[c]? =some (p::t))
  (h: ∀d b u,a[d]? =some (b::u)->aO b.key p.key=false/\(d<c->aO p.key b.key=true)): ∃e,out=p::e/\ML (a.map (I9 p)) e:=by
 cases m with
 |done g=>have:=g _ (AM f);cases this
 | @step _ i j k l n o q=>
  grind
theorem AIG {d:Type}: ∀(a:List d) (b i:Nat) (v:d),(a.set i v).take b=(a.take b).set i v
 | [],b,i,v=>by simp
 |c::a,0,i,v=>by simp
 |c::a,b+1,0,v=>by simp
 |c::a,b+1,i+1,v=>by simp[AIG a b i v]
end Go.Lf.G.M
namespace Go.Lf
open G
theorem Own.jz {T:Q7}{d:aa}{s:Sl}{l:List Sl}(e:Own iu T d s l){i:Nat}(y:i<l.length){x:Sl}{K:aa->Prop}{a:Q6}(f:s.p=some a)
  (q: ∀c,Own iu T c s (l.set i x)->Mod (λb=>s.ag=some b) d c->c.size=d.size->K c):ae d (a.add (i*1)) (J4 x.p x.len x.cap) K:=by
 rcases e.row with⟨rfl,_⟩|⟨g,z,h,r,t,u,n,o⟩
 ·simp at f
 ·rw[h] at f;cases f;rw[Bf,AI,By];have j:iu.w=1:=rfl;rw[j,By] at n o;have A:=e.len;refine ae.mk r (by omega) λc k m v=>q c ⟨by simpa using e.len,.inr ⟨g,_,h,k,t,u,by simp[n,j],?_⟩⟩ (m.aj λb _ k=>by simp[Sl.ag,h,k]) v
  rw[j,By,F0,Go.Lf.G.M.AIG,o];have p: ∀l:List Sl,l.flatMap iu.enc=l.map (λs=>Value.slice s.p s.len s.cap):=λl=>by
   induction l with
   |nil=>rfl
   |cons B l w=>rw[AF,w];rfl
  rw[p,p,PF]
end Go.Lf
namespace Go.Lf.G.M
open Go Go.Lf Go.Lf.G
structure jf (lo:Nat) (h:aa) (O:Nat->Prop) (t:Sl) (sls:List Sl) (ls:List (List Pr)):Prop where
 len:sls.length=ls.length
 row: ∀(j:Nat) (sl:Sl) (l:List Pr),sls[j]? =some sl->ls[j]? =some l->View BO h sl l/\l.length<=1099511627776/\ ∀c,sl.ag=some c->lo<=c/\c<h.size/\t.ag≠some c/\ ¬O c
theorem jf.mod {f:Nat}{b j:aa}{g O':Nat->Prop}{t t':Sl}{k:List Sl}{n:List (List Pr)}{o:Nat->Prop}(p:jf f b g t k n)(m:Mod o b j)(q: ∀c,f<=c->c<b.size->t.ag≠some c-> ¬g c-> ¬o c)
  (r: ∀c,c<b.size->t'.ag=some c->t.ag=some c) (s: ∀c,c<b.size->O' c->g c):jf f j O' t' k n:=
 ⟨p.len,λu sl l h e=>by
  obtain⟨v,w,d⟩:=p.row u sl l h e;refine⟨v.mod m λc a=>q c (d c a).1 (d c a).2.1 (d c a).2.2.1 (d c a).2.2.2,w,λc a=>?_⟩;obtain⟨h,e,x,y⟩:=d c a;have:=m.size;exact⟨h,by omega,λi=>x (r c e i),λi=>y (s c e i)⟩⟩
end Go.Lf.G.M
namespace Go.Lf
open G
theorem View.val {b:aa}{s:Sl}{c:List iv}(v:View jZ b s c){i:Nat}{x:iv}(d:c[i]? =some x): ∃a,s.p=some a/\ah b (a.add (i*1))=some x.v:=by obtain⟨a,e,f⟩:=v.cells i x d;exact⟨a,e,f.val⟩
end Go.Lf
namespace Go.Lf.G.M
open Go Go.Lf Go.Lf.G
theorem ARY {a7:al}{ad:aa}{b:Nat}{T:Q7}{fr:Nat×Nat}{s:Sl}{S:Nat->Prop}{I:List iv}{os:List (Option (List Pr))}{out:List Pr}(B:ad[b]? =some (J2 #[J4 s.p s.len s.cap] T fr))(v:View jZ ad s I)
  (a8:I.length<=1099511627776) (bF:os.length=I.length)
  (bG: ∀(i:Nat) (v:iv),I[i]? =some v->(v.v= .nilFunc/\os[i]? =some none)\/ ∃l,os[i]? =some (some l)/\EY a7 P v.v S ad l/\l.length<=1099511627776) (bH:ML (os.filterMap id) out) (cj: ∀b,S b->b<ad.size):
  EY a7 P (.func (.func Qd) #[] #[J5 (some ⟨b,0,none⟩)]) (λc=>S c\/(c<ad.size/\(c=b\/s.ag=some c))) ad out:=by
 have bI:=Aj B;refine⟨?_,_,_,rfl,λbJ=>by kernel_rfl,λf a9 bJ aK R ck hd hB bK ba=>?_⟩
 ·grind
 rw[qV];refine ADu ?_;unfold WQ;have bL:=hB.wf _ _ _ _ ba;have bM:f[b]? =some (J2 #[J4 s.p s.len s.cap] T fr):=(a9 b (.inr ⟨bI,.inl rfl⟩)).trans B;have bN: ∀i x,I[i]? =some x-> ∃a,s.p=some a/\ah f (a.add (i*1))=some x.v:=λi x hi=>by
  obtain⟨a,bb,N⟩:=v.val hi
  grind [Vb,aU,Sl.ag,Qw,trans]
 have bO: ∀c,S c->c<f.size:=λc k=>by
  grind
 refine Aa.mk (AL bM rfl) ?_;refine Loop.rule (λm x J=> ∃(i:Nat) (t:Sl) (z:List Sl),x=(t,(i:Int),())/\m=I.length-i/\i<=I.length/\Ext f J/\Own iu AR J t z/\(∀ c,t.ag=some c->f.size<=c)/\jf f.size J R t z ((os.take i).filterMap id)/\z.length<=i) ?_
  ⟨0,⟨none,0,0⟩,[],rfl,rfl,by omega,Mod.refl,Own.nil,λc k=>by simp[Sl.ag] at k,⟨by simp,λe sl l f=>by simp at f⟩,by simp⟩
 rintro K m _ J ⟨i,t,z,rfl,rfl,hi,M,C,ap,L,bc⟩ aq;refine af.intro (λr=>?_) (λr=>?_)
 ·have aA:i<I.length:=by simp[v.len] at r;omega
  have bd:=A2 aA;refine ai.mk λcl be=>?_
  obtain⟨a,bb,N⟩:=bN i _ bd;refine bE.mk bb (by rw[v.len];exact aA) ?_;refine TA.mk (M.ah N) ?_;rcases bG i _ bd with⟨bf,aL⟩|⟨l,aL,aM,bg⟩
  ·refine⟨by rw[bf];trivial,af.no (by rw[bf];rfl) ?_⟩;refine be _ _ (aq (I.length-(i+1)) _ _ (by omega) ⟨i+1,t,z,by rw[Ab (by omega)],rfl,by omega,M,C,ap,?_,by omega⟩);have:(os.take (i+1)).filterMap id=(os.take i).filterMap id:=by rw[AD,aL];simp
   rw[this];exact L
  ·refine⟨aM.one.2.1,af.yes (by rw[aM.one.2.2];rfl) ?_⟩;refine XF aM (λc k=>(M.get c (bO c k) (by simp)).trans (a9 c (.inl k))) bg λar W aN aC aD=>⟨ar,rfl,?_⟩
   refine ao.aZ (E:=iu) (x:=ar) rfl AOM (C.ext aD) (by omega) (by simp[maxLen];omega) λbh bP bQ aE aP _=>?_
   have bS:Ext f bP:=(M.trans aD).then (aE.aj λc _ k=> .inr (ap c k));refine be _ _ (aq (I.length-(i+1)) _ _ (by omega) ⟨i+1,bh,_,by rw[Ab (by omega)],rfl,by omega,bS,bQ,?_,?_,?_⟩)
   ·intro c k;rcases aP c k with h|h
    ·exact ap c h
    ·have:=M.size;have:=aD.size;omega
   ·have G:(os.take (i+1)).filterMap id=(os.take i).filterMap id++ [l]:=by rw[AD,aL];simp
    rw[G];have aF:=(L.mod aD (λc _ _ _ _ f=>f) (λc _ f=>f) (λc _ f=>f)).mod (t':=bh) aE (λc _ _ O _=>O) (λc k h=>(aP c h).elim id λq=>by omega) (λc _ f=>f);refine⟨by simp[aF.len],λe sl H h q=>?_⟩;rcases Jx e z.length with A|A|A
    ·rw[GF A] at h;rw[GF (by rw[<- aF.len];exact A)] at q;exact aF.row e sl H h q
    ·subst A;rw[A04] at h;rw[aF.len,A04] at q;cases h;cases q;have cm:t.ag≠ar.ag\/ar.ag=none:=by
      cases aG:ar.ag with
      |none=>exact .inr rfl
      |some c=>
       refine .inl λG=>?_
       have:=C.lt G;have:=aC c aG;omega
     refine⟨(aN.view).mod aE λc k O=>?_,bg,λc k=>⟨?_,?_,?_,?_⟩⟩
     ·grind
     ·have:=aC c k;have:=M.size;omega
     ·have:=aN.lt k;have:=aE.size;omega
     ·intro h;have:=aN.lt k;rcases aP c h with q|q
      ·have:=C.lt q;have:=aC c k;omega
      ·omega
     ·intro h;have:=bL c h;have:=aC c k;have:=M.size;omega
    ·rw[LN (by simp;omega)] at h;cases h
   ·simp;omega
 ·have aA:i=I.length:=by simp[v.len] at r;omega
  rw[aA,<-bF,Bm] at L;have bi:=hB.bj _ _ _ _ _ ba (M.aj (S':=λb=>¬R b/\f.size<=b) λ_ _ f=>f.elim);refine Loop.rule (λm _ J=> ∃(i:Nat) (D:Nat->Prop) (z:List Sl) (j:List (List Pr)) (ae:List Pr),ML j ae/\m=ae.length/\(∀ n,out[i+n]? =ae[n]?)/\i+ae.length=out.length/\Mod R f J/\(∀ b,D b->R b\/f.size<=b)/\aK i true D J/\
    Own iu AR J t z/\(∀ c,t.ag=some c-> ¬D c)/\jf f.size J D t z j/\z.length<=1099511627776) ?_
   ⟨0,R,z,_,out,bH,rfl,λn=>by rw[AI],by omega,M.mod,λb B=> .inl B,bi,C,λc k O=>by grind,L,by omega⟩
  clear aq L M C bc bi;rintro cn m _ J ⟨i,D,z,j,ae,bj,rfl,bk,bm,aQ,aR,A,C,aS,L,bc⟩ aq;have co:=hB.wf _ _ _ _ A;refine Loop.rule (λm x aH=> ∃(d:Nat) (X:Int),x=(X,(d:Int),())/\aH=J/\m=j.length-d/\d<=j.length/\((X= -1/\ ∀e l,e<d->j[e]? =some l->l= [])\/
   ∃n p u,X=(n:Nat)/\n<d/\j[n]? =some (p::u)/\ ∀e o y,e<d->j[e]? =some (o::y)->aO o.key p.key=false/\(e<n->aO p.key o.key=true))) ?_
   ⟨0,-1,rfl,rfl,rfl,by omega,.inl ⟨rfl,λe l f=>by omega⟩⟩
  rintro cp m _ aH ⟨d,X,rfl,bT,rfl,O,aT⟩ aV;subst bT;have cq:=L.len;refine af.intro (λr=>?_) (λr=>?_)
  ·have U:d<j.length:=by simp[C.len] at r;omega
   have F:=A2 U;have Y:=A2 (l:=z) (i:=d) (by omega);obtain⟨Z,bn,_⟩:=L.row d _ _ Y F;refine ai.mk λcr bo=>?_
   refine C.view.idx Y λcs _ c2=>?_
   refine Aa.mk c2.sl ?_;refine ai.mk λbp bq=>?_
   have br:((X= -1/\ ∀e l,e<d+1->j[e]? =some l->l= [])\/
     ∃n p u,X=(n:Nat)/\n<d+1/\j[n]? =some (p::u)/\ ∀e o y,e<d+1->j[e]? =some (o::y)->aO o.key p.key=false/\(e<n->aO p.key o.key=true))->bp (false,()) aH:=λG=>
    bq _ _ (af.no rfl (bo _ _ (aV (j.length-(d+1)) _ _ (by omega) ⟨d+1,X,by rw[Ab (by omega)],rfl,rfl,by omega,G⟩)))
   have bs:(∃ n p u,(d:Int)=(n:Nat)/\n<d+1/\j[n]? =some (p::u)/\ ∀e o y,e<d+1->j[e]? =some (o::y)->aO o.key p.key=false/\(e<n->aO p.key o.key=true))->bp (true,()) aH:=λG=>
    bq _ _ (af.yes rfl (bo _ _ (aV (j.length-(d+1)) _ _ (by omega) ⟨d+1,d,by rw[Ab (by omega)],rfl,rfl,by omega,.inr G⟩)))
   refine af.intro (λr=>?_) (λr=>?_)
   ·cases ag:j[d] with
    |nil=>rw[ag] at Z;have:=Z.len;simp[this] at r
    |cons o y=>
     rw[ag] at Z F;rcases aT with⟨rfl,au⟩|⟨n,p,u,rfl,bt,ab,aj⟩
     ·refine af.yes (by simp) (bs ⟨d,o,y,rfl,by omega,F,λe ak am A w=>?_⟩);rcases FF e d with h|h
      ·have:=au e _ h w;cases this
      ·have:e=d:=by omega
       subst this;rw[F] at w;cases w;exact⟨CY _,λf=>by omega⟩
     ·refine af.no (by simp) ?_;refine Z.idx (i:=0) (x:=o) rfl λct _ c3=>?_
      refine AJ.mk c3.pair.1 ?_;have av:=A2 (l:=z) (i:=n) (by omega);obtain⟨aW,_,_⟩:=L.row n _ _ av ab;refine C.view.idx av λbU _ aX=>?_
      refine Aa.mk aX.sl ?_;refine aW.idx (i:=0) (x:=p) rfl λbV _ aw=>?_
      refine AJ.mk aw.pair.1 ?_;cases aG:aO o.key p.key
      ·refine br (.inr ⟨n,p,u,rfl,by omega,ab,λe ak am A w=>?_⟩);rcases FF e d with h|h
       ·exact aj e ak am h w
       ·have:e=d:=by omega
        subst this;rw[F] at w;cases w;exact⟨aG,λf=>by omega⟩
      ·refine bs ⟨d,o,y,rfl,by omega,F,λe ak am A w=>?_⟩;rcases FF e d with h|h
       ·have q:=(aj e ak am h w).1;have W:=oF aG q;exact⟨Oj W,λ_=>W⟩
       ·have:e=d:=by omega
        subst this;rw[F] at w;cases w;exact⟨CY _,λf=>by omega⟩
   ·have ag:j[d]= []:=by
     have:=Z.len;cases ag:j[d] with
     |nil=>rfl
     |cons o y=>rw[ag] at this;simp[this] at r
    rw[ag] at F;refine br ?_;rcases aT with⟨rfl,au⟩|⟨n,p,u,rfl,bt,ab,aj⟩
    ·refine .inl ⟨rfl,λe l A w=>?_⟩;rcases FF e d with h|h
     ·exact au e l h w
     ·have:e=d:=by omega
      subst this;rw[F] at w;cases w;rfl
    ·refine .inr ⟨n,p,u,rfl,by omega,ab,λe ak am A w=>?_⟩;rcases FF e d with h|h
     ·exact aj e ak am h w
     ·have:e=d:=by omega
      subst this;rw[F] at w;cases w
  ·have U:d=j.length:=by simp[C.len] at r;omega
   subst U;clear aV;rcases aT with⟨rfl,au⟩|⟨n,p,u,rfl,bt,ab,aj⟩
   ·refine af.yes (by simp) ?_;have:ae= []:=bj.iE λl a8=>by
     obtain⟨e,A,G⟩:=DB a8;exact au e l A (by grind)
    subst this;refine⟨rfl,i,true,D,aQ,aR,A,λ_=>by omega,by omega⟩
   ·refine af.no (by simp) ?_;have bW: ∀e o y,j[e]? =some (o::y)->aO o.key p.key=false/\(e<n->aO p.key o.key=true):=λe o y N=>aj e o y (List.getElem?_eq_some_iff.1 N).1 N
    obtain⟨bu,rfl,bX⟩:=bj.gG ab bW;have av:=A2 (l:=z) (i:=n) (by omega);obtain⟨aW,_,_⟩:=L.row n _ _ av ab;refine C.view.idx av λbU _ aX=>?_
    refine Aa.mk aX.sl ?_;refine aW.idx (i:=0) (x:=p) rfl λbV _ aw=>?_
    refine AJ.mk aw.pair.1 (AJ.mk aw.pair.2.1 (AZ.mk aw.pair.2.2 ?_));refine ao.pair λbY aY cu bZ aI cv=>?_
    have b0:=C.ext aI;have b1:jf f.size aY D t z j:=L.mod aI (λc _ _ _ _ f=>f) (λc _ f=>f) (λc _ f=>f);have b2:aK i true D aY:=hB.bj _ _ _ _ _ A (aI.aj (S':=λb=>¬D b/\f.size<=b) λ_ _ f=>f.elim);have b3:t.ag≠some bY:=λG=>by have:=C.lt G;omega
    refine Loop.rule (λm x Q=> ∃(d:Nat) (V:List Sl),x=((d:Int),())/\m=j.length-d/\d<=j.length/\Mod (λc=>t.ag=some c) aY Q/\Own iu AR Q t V/\jf f.size Q D t V ((j.take d).map (I9 p)++j.drop d)) ?_
     ⟨0,z,rfl,rfl,by omega,Mod.refl,b0,by simpa using b1⟩
    rintro cw m _ Q ⟨d,V,rfl,rfl,O,ax,an,ay⟩ b4;have b5:V.length=j.length:=by have:=ay.len;simp at this;omega
    have aJ:=ax.ag bZ b3;refine af.intro (λr=>?_) (λr=>?_)
    ·have U:d<j.length:=by grind
     have Y:=A2 (l:=V) (i:=d) (by omega);have F:((j.take d).map (I9 p)++j.drop d)[d]? =some j[d]:=by rw[Fk (by simp;omega)];simp;rw[Fm (by omega),LO];simp[U]
     obtain⟨Z,bn,cx⟩:=ay.row d _ _ Y F;refine an.view.idx Y λcy cz b6=>?_
     refine Aa.mk b6.sl ?_;refine Loop.rule (λm x aZ=> ∃(az:Sl) (H:List Pr),x=(az,())/\aZ=Q/\m=H.length/\View BO Q az H/\(∀ c,az.ag=some c->V[d].ag=some c)/\I9 p H=I9 p j[d]/\H.length<=1099511627776) ?_
      ⟨_,_,rfl,rfl,rfl,Z,λc f=>f,rfl,bn⟩
     rintro cB m _ aZ ⟨az,H,rfl,b7,rfl,ac,a0,bv,bw⟩ b8;subst b7;refine ai.mk λb9 bx=>?_
     have bz:I9 p H=H->b9 (false,()) aZ:=λG=>bx _ _ (af.no rfl (by
      refine an.view.idx Y λcC ca _=>?_
      refine an.jz (i:=d) (by omega) ca λcb cc a1 cD=>?_
      refine b4 (j.length-(d+1)) _ _ (by omega) ⟨d+1,_,by rw[Ab (by omega)],rfl,by omega,ax.trans a1,cc,?_⟩;have a2:jf f.size cb D t V ((j.take d).map (I9 p)++j.drop d):=ay.mod a1 (λc _ _ O _=>O) (λc _ f=>f) (λc _ f=>f);refine⟨?_,λe sl l h q=>?_⟩
      ·simp[b5];omega
      ·rcases Jx e d with a3|a3|a3
       ·rw[JT (by omega)] at h;refine a2.row e sl l h ?_;rw[GF (by simp;omega)] at q ⊢;rw[Cl,A05 (by omega)] at q ⊢;exact q
       ·subst a3;rw[HT (by omega)] at h;cases h;rw[GF (by simp;omega),Cl,A05 (by omega),A2 U] at q;simp at q;subst q;rw[<- bv,G];obtain⟨_,_,k⟩:=a2.row e _ _ Y F;exact⟨ac.mod a1 λc B=>(k c (a0 c B)).2.2.1,bw,λc B=>k c (a0 c B)⟩
       ·rw[JT (by omega)] at h;refine a2.row e sl l h ?_;rw[Fk (by simp;omega)] at q ⊢;simp only[AS,An,C5] at q ⊢;rw[<- q];congr 1;omega))
     refine af.intro (λr=>?_) (λr=>?_)
     ·cases H with
      |nil=>have:=ac.len;simp[this] at r
      |cons o y=>
       refine ac.idx (i:=0) (x:=o) rfl λcE _ cd=>?_
       refine AJ.mk cd.pair.1 (AJ.mk (AL aJ rfl) ?_);cases bA:(aO o.key p.key||bR o.key p.key)
       ·exact bz (by simp[I9,upto,bA])
       ·have ce:=ac.len;simp at ce bw;refine bx _ _ (af.yes rfl ⟨⟨by omega,by show(1:Int)<=((az.len:Nat):Int);omega⟩,b8 y.length _ _ (by simp) ⟨_,y,rfl,rfl,rfl,?_,?_,?_,by omega⟩⟩)
        ·have:=ac.sub (lo:=1) (hi:=(o::y).length) (by simp) (A0 _);rw[Bm,<-ac.len] at this;exact this
        ·intro c k;exact a0 c (qS k)
        ·rw[<- bv];simp[I9,upto,bA]
     ·have:H= []:=by
       have:=ac.len;cases H with
       |nil=>rfl
       |cons o y=>simp[this] at r
      subst this;exact bz rfl
    ·have U:d=j.length:=by simp[an.len] at r;omega
     subst U;rw[Bm,P3,AK] at ay;refine AJ.mk (AL aJ rfl) (AJ.mk (AB aJ rfl) (AZ.mk (AB aJ rfl) ?_));have cf:aK i true D Q:=hB.bj _ _ _ _ _ b2 (ax.aj λc _ k=>⟨aS c k,ap c k⟩);have cg:out[i]? =some p:=by have:=bk 0;simpa using this
     refine Em.mono (bK i p D Q cg cf) ?_;rintro _ ch ⟨g,a4,rfl,a5,a6,bB⟩;have cF:=ax.size;have cG:=aQ.size;have bC: ∀b,a4 b->R b\/f.size<=b:=λb B=>(a5 b B).elim (aR b) λcH=> .inr (by omega)
     have ci:Mod R f Q:=(aQ.trans aI.mod).then (ax.aj λb _ B=> .inr (ap b B));have bD:Mod R f ch:=ci.then (a6.aj λb _ B=>aR b B);refine⟨g,rfl,af.intro (λr=>?_) (λr=>?_)⟩
     ·have N:g=false:=by simpa using r
      subst N;exact⟨rfl,i+1,false,a4,bD,bC,bB,(λf=>by cases f),by simp at bm;omega⟩
     ·have N:g=true:=by simpa using r
      subst N;refine aq bu.length _ _ (by simp) ⟨i+1,a4,V,_,bu,bX,rfl,λn=>?_,by simp at bm;omega,bD,bC,bB,an.mod a6 (λc k=>aS c k),?_,?_,by omega⟩
      ·have:=bk (n+1);rw[show i+1+n=i+(n+1) by omega,this];rfl
      ·intro c k q;rcases a5 c q with W|W
       ·exact aS c k W
       ·have:=an.lt k;omega
      ·exact ay.mod a6 (λc _ _ _ O=>O) (λc _ f=>f) (λc k q=>(a5 c q).elim id λW=>by omega)
def Sorted(l:List Pr):Prop:=l.Pairwise λa b=>aO a.key b.key=true
def Ad(a:A2M)(l:List Pr):Option Pr:=l.find? λb=>decide (b.key=a)
theorem Qk(a:A2M):Ad a []=none:=rfl
theorem BC(a:A2M)(x:Pr)(l:List Pr):Ad a (x::l)=if x.key=a then some x else Ad a l:=by unfold Ad;rw[F2];by_cases b:x.key=a<;>simp[b]
theorem Oi {b:A2M}{l:List Pr}{x:Pr}(a:Ad b l=some x):x.key=b/\x∈l:=by unfold Ad at a;exact⟨by simpa using R0 a,Ly a⟩
theorem EO {a:A2M}{l:List Pr}(b: ∀x∈l,x.key≠a):Ad a l=none:=by unfold Ad;rw[Hh];simpa using b
theorem NI {a b:A2M}(c:aO a b=true):a≠b:=by rintro rfl;rw[CY] at c;cases c
theorem Sorted.find {l:List Pr}(s:Sorted l){x:Pr}(a:x∈l):Ad x.key l=some x:=by
 induction l with
 |nil=>cases a
 |cons d l c=>
  rw[BC];have b:=List.pairwise_cons.1 s;rcases List.mem_cons.1 a with rfl|a
  ·simp
  ·rw[if_neg (NI (b.1 x a))];exact c b.2 a
theorem Sorted.ext: ∀ {l m:List Pr},Sorted l->Sorted m->(∀ d,Ad d l=Ad d m)->l=m
 | [],[],_,_,_=>rfl
 | [],a::m,_,_,b=>by have:=b a.key;rw[BC,if_pos rfl] at this;cases this
 |x::l,[],_,_,b=>by have:=b x.key;rw[BC,if_pos rfl] at this;cases this
 |x::l,a::m,sl,p,b=>by
  have g:=List.pairwise_cons.1 sl;have h:=List.pairwise_cons.1 p;have f:x.key=a.key:=by
   have e:=b x.key;have n:=b a.key;rw[BC,if_pos rfl] at e;rw[BC a.key a m,if_pos rfl] at n;have i:=(Oi e.symm).2;have j:=(Oi n).2;rcases List.mem_cons.1 i with c|i
   ·rw[c]
   ·rcases List.mem_cons.1 j with c|j
    ·rw[c]
    ·have q:=h.1 x i;have o:=g.1 a j;rw[Oj q] at o;cases o
  have r:x=a:=by have e:=b x.key;rw[BC,BC,if_pos rfl,if_pos f.symm] at e;exact BE e
  subst r;rw[Sorted.ext g.2 h.2 λd=>?_];have:=b d;rw[BC,BC] at this;by_cases f:x.key=d
  ·subst f;rw[EO λa k c=>NI (g.1 a k) c.symm,EO λa k c=>NI (h.1 a k) c.symm]
  ·simpa [f] using this
def ins(x:Pr):List Pr->List Pr
 | []=> [x]
 |q::l=>if aO q.key x.key then q::ins x l else if q.key=x.key then x::l else x::q::l
theorem nE(x:Pr): ∀l,YY x l=ins x l
 | []=>rfl
 |q::l=>by
  unfold ins;cases b:aO q.key x.key
  ·have a:iq x.key (q::l)= []:=by simp[iq,b]
   by_cases c:q.key=x.key
   ·simp[YY,aM,a,A8,c]
   ·simp[YY,aM,a,A8,c]
  ·have a:iq x.key (q::l)=q::iq x.key l:=by simp[iq,b]
   have d:aM x.key (q::l)=aM x.key l+1:=by simp[aM,a]
   have f:A8 x.key (q::l)=A8 x.key l:=by simp[A8,d]
   have e:=nE x l;unfold YY at e ⊢;rw[d,f];have g:(if A8 x.key l=true then aM x.key l+1+1 else aM x.key l+1)=(if A8 x.key l=true then aM x.key l+1 else aM x.key l)+1:=by split<;>rfl
   rw[g,I2,I0,DH,DH,e];simp
theorem qW {x b:Pr}: ∀ {l:List Pr},b∈ins x l->b=x\/b∈l
 | [],a=>by simp[ins] at a;exact .inl a
 |q::l,a=>by
  unfold ins at a;split at a
  ·rcases List.mem_cons.1 a with rfl|a
   ·exact .inr (by simp)
   ·rcases qW a with a|a
    ·exact .inl a
    ·exact .inr (by simp[a])
  ·split at a
   ·rcases List.mem_cons.1 a with rfl|a
    ·exact .inl rfl
    ·exact .inr (by simp[a])
   ·rcases List.mem_cons.1 a with rfl|a
    ·exact .inl rfl
    ·exact .inr a
theorem Xa(x:Pr): ∀ {l:List Pr},Sorted l->Sorted (ins x l)
 | [],_=>LL _ _
 |q::l,s=>by
  have b:=List.pairwise_cons.1 s;unfold ins;split
  ·rename_i d;refine List.pairwise_cons.2 ⟨λc a=>?_,Xa x b.2⟩;rcases qW a with rfl|a
   ·exact d
   ·exact b.1 c a
  ·rename_i d;split
   ·rename_i e;refine List.pairwise_cons.2 ⟨λc a=>?_,b.2⟩;have:=b.1 c a;rwa [e] at this
   ·rename_i e;have f:aO x.key q.key=true:=by
     cases g:aO x.key q.key
     ·exact absurd (OP (by simpa using d) g) e
     ·rfl
    refine List.pairwise_cons.2 ⟨λc a=>?_,s⟩;rcases List.mem_cons.1 a with rfl|a
    ·exact f
    ·exact Da f (b.1 c a)
theorem YC(x:Pr)(a:A2M): ∀ {l:List Pr},Sorted l->Ad a (ins x l)=if x.key=a then some x else Ad a l
 | [],_=>by simp[ins,BC,Qk]
 |q::l,s=>by
  have c:=List.pairwise_cons.1 s;unfold ins;split
  ·rename_i d;rw[BC,BC,YC x a c.2];by_cases b:q.key=a
   ·have e:x.key≠a:=by rw[<- b];exact λf=>NI d f.symm
    simp[b,e]
   ·simp[b]
  ·split
   ·rename_i g;rw[BC,BC,g];by_cases b:x.key=a<;>simp[b]
   ·rw[BC]
def BL(l:List Pr):Prop:= ∀x∈l,Ag x=0
theorem RF {x:Pr}{l:List Pr}(a:Ag x=0):Bu x l=ins x l:=by simp[Bu,a,nE]
theorem Px {x:Pr}{l:List Pr}(s:Sorted l):Sorted (Bu x l):=by
 by_cases a:Ag x=0
 ·rw[RF a];exact Xa x s
 ·simpa [Bu,a] using s
theorem w7 {x:Pr}{l:List Pr}(g:BL l):BL (Bu x l):=by
 by_cases a:Ag x=0
 ·rw[RF a];exact λb c=>(qW c).elim (λd=>d▸a) (g b)
 ·simpa [Bu,a] using g
def Ay(t l:List Pr):List Pr:=l.foldl (λt x=>Bu x t) t
theorem Ri {l:List Pr}: ∀ {t},Sorted t->Sorted (Ay t l):=by
 induction l with
 |nil=>exact λs=>s
 |cons x l a=>exact λs=>a (Px s)
theorem Xw {l:List Pr}: ∀ {t},BL t->BL (Ay t l):=by
 induction l with
 |nil=>exact λs=>s
 |cons x l a=>exact λs=>a (w7 s)
theorem RQ {l:List Pr}: ∀ {t},(Ay t l).length<=t.length+l.length:=by
 induction l with
 |nil=>exact λ{t}=>by simp[Ay]
 |cons x l a=>intro t;have:=a (t:=Bu x t);have:=AOE x t;simp[Ay] at *;omega
theorem AKq {l:List Pr}(a:A2M): ∀ {t},Sorted t->Sorted l->BL l->Ad a (Ay t l)=(Ad a l).or (Ad a t):=by
 induction l with
 |nil=>intro t _ _ _;simp[Ay,Qk]
 |cons x l f=>
  intro t st sl g;have d:=List.pairwise_cons.1 sl;show Ad a (Ay (Bu x t) l)=_;rw[f (Px st) d.2 (λb c=>g b (by simp[c])),RF (g x (by simp)),YC x a st,BC];by_cases e:x.key=a
  ·subst e;rw[EO λb c h=>NI (d.1 b c) h.symm];simp
  ·simp[e]
def Ae(a:List (List Pr)):List Pr:=a.reverse.foldl Ay []
theorem OI(l:List Pr)(a:List (List Pr)):Ae (l::a)=Ay (Ae a) l:=by simp[Ae,I3]
theorem EC: ∀a,Sorted (Ae a)
 | []=>List.Pairwise.nil
 |l::a=>by rw[OI];exact Ri (EC a)
structure bo (ls:List (List Pr)):Prop where
 sorted: ∀l∈ls,Sorted l
 aR: ∀l∈ls,BL l
def Am(a:A2M)(b:List (List Pr)):Option Pr:=b.findSome? (Ad a)
theorem ES(a:A2M)(l:List Pr)(b:List (List Pr)):Am a (l::b)=(Ad a l).or (Am a b):=by unfold Am;rw[R1];cases Ad a l<;>rfl
theorem LX(b:A2M): ∀ {a},bo a->Ad b (Ae a)=Am b a
 | [],_=>rfl
 |l::a,c=>by
  rw[OI,AKq b (EC a) (c.sorted l (by simp)) (c.aR l (by simp)),LX b ⟨λm d=>c.sorted m (by simp[d]),λm d=>c.aR m (by simp[d])⟩,ES]
theorem VT(p:Pr)(l:List Pr):(I9 p l).Sublist l:=List.dropWhile_sublist _
theorem AJt {p q:Pr}(a:upto p q=false):aO p.key q.key=true:=by
 unfold upto at a;rw[Cn] at a;simp at a;cases b:aO p.key q.key
 ·exact absurd (OP a.1 b) a.2
 ·rfl
theorem AMo {p b:Pr}(a:upto p b=true):aO p.key b.key=false:=by
 unfold upto at a;rw[Cn] at a;simp at a;rcases a with a|a
 ·exact Oj a
 ·rw[a];exact CY _
theorem qX {p q:Pr}: ∀ {l:List Pr},Sorted l->q∈I9 p l->aO p.key q.key=true
 | [],_,a=>by cases a
 |y::l,s,a=>by
  have b:=List.pairwise_cons.1 s;unfold I9 at a;rw[List.dropWhile_cons] at a;split at a
  ·exact qX b.2 a
  ·rename_i d;have c:=AJt (p:=p) (q:=y) (by simpa using d);rcases List.mem_cons.1 a with rfl|a
   ·exact c
   ·exact Da c (b.1 q a)
theorem w8 {p:Pr}{a:A2M}(b:aO p.key a=true): ∀ {l:List Pr},Ad a (I9 p l)=Ad a l
 | []=>rfl
 |y::l=>by
  unfold I9;rw[List.dropWhile_cons];split
  ·rename_i d;have c:=AMo d;rw[BC,if_neg (by rintro rfl;rw[b] at c;cases c)];exact w8 b
  ·rfl
theorem ML.ok {a:List (List Pr)}{out:List Pr}(m:ML a out):(∀ l∈a,Sorted l)->Sorted out/\ ∀b,Ad b out=Am b a:=by
 induction m with
 |done g=>
  rename_i a;intro _;refine⟨List.Pairwise.nil,λb=>?_⟩;have: ∀a:List (List Pr),(∀ l∈a,l= [])->Am b a=none:=λa g=>by
   unfold Am;rw[R2];intro l d;rw[g l d];rfl
  rw[this a g];rfl
 | @step a b p t out F C y r=>
  intro h;have G: ∀l∈a.map (I9 p),Sorted l:=λl d=>by
   obtain⟨o,s,rfl⟩:=List.mem_map.1 d;exact(h o s).sublist (VT p o)
  obtain⟨D,E⟩:=r G;have H: ∀e∈out,aO p.key e.key=true:=λe q=>by
   have f:=D.find q;rw[E] at f;unfold Am at f;obtain⟨l,d,k⟩:=A07 f;obtain⟨o,s,rfl⟩:=List.mem_map.1 d;exact qX (h o s) (Oi k).2
  refine⟨List.pairwise_cons.2 ⟨H,D⟩,λc=>?_⟩;have I: ∀l∈a,∀e∈l,aO e.key p.key=false:=λl d e q=>by
   obtain⟨i,v,j⟩:=DB d;cases l with
   |nil=>cases q
   |cons w u=>
    have f:=(C i w u (by rw[A2 v,j])).1;have z:=List.pairwise_cons.1 (h _ d);rcases List.mem_cons.1 q with rfl|q
    ·exact f
    ·cases k:aO e.key p.key
     ·rfl
     ·have:=Da (z.1 e q) k;rw[this] at f;cases f
  rw[BC];by_cases A:p.key=c
  ·subst A;simp only[if_true];have: ∀(a:List (List Pr)) (b:Nat),a[b]? =some (p::t)->(∀ i e u,a[i]? =some (e::u)->i<b->aO p.key e.key=true)->(∀ l∈a,Sorted l)->Am p.key a=some p:=by
    intro a
    induction a with
    |nil=>intro b g;simp at g
    |cons l a r=>
     intro b g y h;rw[ES];cases b with
     |zero=>simp at g;subst g;rw[BC,if_pos rfl];rfl
     |succ b=>
      have J:Ad p.key l=none:=by
       cases l with
       |nil=>rfl
       |cons w u=>
        have f:=y 0 w u rfl (by omega);have z:=List.pairwise_cons.1 (h _ (by simp:(w::u)∈(w::u)::a));refine EO λx n j=>?_
        rcases List.mem_cons.1 n with rfl|n
        ·rw[j,CY] at f;cases f
        ·have:=Da f (z.1 x n);rw[j,CY] at this;cases this
      rw[J,LI];exact r b (by simpa using g) (λi e u v M=>y (i+1) e u (by simpa using v) (by omega)) (λl d=>h l (by simp[d]))
   rw[this a b F (λi e u v=>(C i e u v).2) h]
  ·rw[if_neg A,E];unfold Am;cases k:aO p.key c
   ·
    have B:aO c p.key=true:=by
     cases B:aO c p.key
     ·exact absurd (OP k B) A
     ·rfl
    have K:(a.map (I9 p)).findSome? (Ad c)=none:=by
     rw[R2];intro l d;obtain⟨o,s,rfl⟩:=List.mem_map.1 d;refine EO λx n j=>?_
     have:=qX (h o s) n;rw[j,k] at this;cases this
    have L:a.findSome? (Ad c)=none:=by
     rw[R2];intro l d;refine EO λx n j=>?_
     have:=I l d x n;rw[j,B] at this;cases this
    rw[K,L]
   ·have: ∀a:List (List Pr),(a.map (I9 p)).findSome? (Ad c)=a.findSome? (Ad c):=λa=>by
     induction a with
     |nil=>rfl
     |cons l a r=>rw[BW,R1,R1,w8 k,r]
    rw[this]
theorem Us: ∀(e:List (List Pr)),(∀ l∈e,l= [])\/ ∃(f:Nat) (p:Pr) (t:List Pr),e[f]? =some (p::t)/\ ∀(a:Nat) (c:Pr) (u:List Pr),e[a]? =some (c::u)->aO c.key p.key=false/\(a<f->aO p.key c.key=true)
 | []=> .inl λl d=>by cases d
 |l::e=>by
  cases l with
  |nil=>
   rcases Us e with d|⟨f,p,t,i,g⟩
   ·refine .inl λl j=>?_
    rcases List.mem_cons.1 j with rfl|j
    ·rfl
    ·exact d l j
   ·refine .inr ⟨f+1,p,t,by simpa using i,λa c u b=>?_⟩;cases a with
    |zero=>simp at b
    |succ a=>have:=g a c u (by simpa using b);exact⟨this.1,λd=>this.2 (by omega)⟩
  |cons k u=>
   rcases Us e with d|⟨f,p,t,i,g⟩
   ·refine .inr ⟨0,k,u,rfl,λa c h b=>⟨?_,λd=>by omega⟩⟩;cases a with
    |zero=>simp at b;rw[b.1];exact CY _
    |succ a=>have:=d _ (AM (by simpa using b));cases this
   ·cases m:aO p.key k.key
    ·refine .inr ⟨0,k,u,rfl,λa c h b=>⟨?_,λd=>by omega⟩⟩;cases a with
     |zero=>simp at b;rw[b.1];exact CY _
     |succ a=>exact Zz m (g a c h (by simpa using b)).1
    ·refine .inr ⟨f+1,p,t,by simpa using i,λa c h b=>?_⟩;cases a with
     |zero=>simp at b;rw[<- b.1];exact⟨Oj m,λ_=>m⟩
     |succ a=>have:=g a c h (by simpa using b);exact⟨this.1,λd=>this.2 (by omega)⟩
def total(a:List (List Pr)):Nat:=(a.map List.length).sum
theorem YA(p:Pr): ∀a,total (a.map (I9 p))<=total a
 | []=>A0 _
 |l::a=>by
  have:=YA p a;have:=(VT p l).length_le;simp[total] at *;omega
theorem ZP {p:Pr}{t:List Pr}: ∀ {ls:List (List Pr)} {k:Nat},ls[k]? =some (p::t)->total (ls.map (I9 p))<total ls
 | [],k,a=>by simp at a
 |l::ls,0,a=>by
  simp at a;subst a;have b:=YA p ls;have c:=(VT p t).length_le;have d:I9 p (p::t)=I9 p t:=by simp[I9,upto,Cn]
  simp only[total,BW,GW,d,A6] at*
  omega
 |l::ls,k+1,a=>by
  have b:=ZP (p:=p) (t:=t) (ls:=ls) (k:=k) (by simpa using a);have c:=(VT p l).length_le;simp only[total,BW,GW] at*
  omega
theorem AE7(a:List (List Pr)): ∃out,ML a out/\out.length<=total a:=by
 generalize h:total a=b
 induction b using Nat.strongRecOn generalizing a with
 |_ b d=>
  rcases Us a with e|⟨i,p,t,c,f⟩
  ·exact⟨[],.done e,by simp⟩
  ·have j:=ZP c;obtain⟨out,g,k⟩:=d _ (by omega) (a.map (I9 p)) rfl;exact⟨p::out,.step c f g,by simp;omega⟩
theorem th {t l:List Pr}{a:Nat}{x:Pr}(b:l[a]? =some x):Ay t (l.take (a+1))=Bu x (Ay t (l.take a)):=by rw[AD,b];simp only[Ay,I3,CD,Is,N2]
theorem Tw: ∀a,(Ae a).length<=total a
 | []=>A0 _
 |l::a=>by
  rw[OI];have:=Tw a;have:=RQ (l:=l) (t:=Ae a);simp[total] at *;omega
theorem YM: ∀a,BL (Ae a)
 | []=>λ_ b=>by cases b
 |l::a=>by rw[OI];exact Xw (YM a)
theorem AKD(l:List Pr)(a:List (List Pr)):total (l::a)=l.length+total a:=by simp[total]
def tq(f:al)(d:Nat->Prop)(a:aa)(s:Sl)(e:List (List Pr)):Prop:=
 ∃b,View jZ a s b/\(∀ c,s.ag=some c->c<a.size/\ ¬d c)/\b.length=e.length/\ ∀(i:Nat) (v:iv) (l:List Pr),b[i]? =some v->e[i]? =some l->(v.v= .nilFunc/\l= [])\/(EY f P v.v (λc=>c<a.size/\ ¬d c) a l/\l.length<=1099511627776)
end Go.Lf.G.M
namespace Go.Lf
open G
theorem EY.later {f:al}{d:Nat->Prop}{fv:J0}{b e:aa}{l:List Pr}(h:EY f P fv (λc=>c<b.size/\ ¬d c) b l){g:Nat->Prop}(x:Mod g b e)(i: ∀c,c<b.size->g c->d c):EY f P fv (λc=>c<e.size/\ ¬d c) e l:=
 h.aj (λc a=>⟨by have:=x.size;omega,a.2⟩) (λc a=>a.1) λc a=>x.get c a.1 λj=>a.2 (i c a.1 j)
end Go.Lf
namespace Go.Lf.G.M
open Go Go.Lf Go.Lf.G
theorem sV {p:al}{k:Nat->Prop}{a:aa}{s:Sl}{ls:List (List Pr)}{x:A2L}(G:tq p k a s ls)(hX: ∀c,k c->c<a.size)(t:ls.length<=1099511627776)(u:bo ls)
  (y: ∀fv n,EY p P fv (λc=>c<n.size/\ ¬k c) n (Ae ls)->Ext a n->n.size=a.size+1->x fv n):AA p P Pn #[J4 s.p s.len s.cap] a x:=by
 obtain⟨q,v,z,w,A⟩:=G;refine AGy ?_;unfold vI;refine ao.mk λg _ B r C=>?_
 have H: ∃os:List (Option (List Pr)),os.length=q.length/\(∀ (i:Nat) (v:iv),q[i]? =some v->(v.v= .nilFunc/\os[i]? =some none)\/ ∃l,os[i]? =some (some l)/\EY p P v.v (λc=>c<a.size/\ ¬k c) a l/\l.length<=1099511627776)/\
   (∀ l,l∈os.filterMap id->l∈ls)/\ ∀b,Am b (os.filterMap id)=Am b ls:=by
  clear v hX t u y B r C z
  induction q generalizing ls with
  |nil=>
   have:ls= []:=DA w.symm;subst this;exact⟨[],rfl,λi v a=>by simp at a,λl a=>by simp at a,λb=>rfl⟩
  |cons v q I=>
   cases ls with
   |nil=>simp at w
   |cons l ls=>
    obtain⟨os,g,h,D,E⟩:=I (ls:=ls) (by simpa using w) (λi v l g h=>A (i+1) v l (by simpa using g) (by simpa using h));rcases A 0 v l rfl rfl with⟨j,o⟩|⟨j,o⟩
    ·refine⟨none::os,by simp[g],λi v e=>?_,λm d=>?_,λb=>?_⟩
     ·cases i with
      |zero=>simp at e;subst e;exact .inl ⟨j,rfl⟩
      |succ i=>exact h i v (by simpa using e)
     ·simp at d;exact AH _ (D m (by simpa using d))
     ·subst o;rw[ES];simpa [Qk] using E b
    ·refine⟨some l::os,by simp[g],λi v e=>?_,λm d=>?_,λb=>?_⟩
     ·cases i with
      |zero=>simp at e;subst e;exact .inr ⟨l,rfl,j,o⟩
      |succ i=>exact h i v (by simpa using e)
     ·simp at d;rcases d with rfl|d
      ·simp
      ·exact AH _ (D m (by simpa using d))
     ·rw[ES,Wa];simp only[id];rw[ES,E b]
 obtain⟨os,J,K,L,M⟩:=H;obtain⟨out,d,_⟩:=AE7 (os.filterMap id);have N:out=Ae ls:=by
  have F:=d.ok λl t=>u.sorted l (L l t)
  exact F.1.ext (EC ls) λb=>by rw[F.2 b,M b,LX b u]
 subst N;refine y _ g ((ARY (S:=λc=>c<a.size/\ ¬k c) B (v.ext r) (by omega) J (λi v e=>?_) d (λc f=>by omega)).aj ?_ (λc f=>f.1) (λc _=>rfl)) r C
 ·rcases K i v e with j|⟨l,j,o,O⟩
  ·exact .inl j
  ·exact .inr ⟨l,j,o.aj (λc f=>f) (λc f=>by omega) (λc f=>r.get c f.1 (λa=>a)),O⟩
 ·rintro c (f|⟨g,h⟩)
  ·exact⟨by omega,f.2⟩
  ·refine⟨g,?_⟩;rcases h with rfl|h
   ·intro a;have:=hX _ a;omega
   ·exact(z c h).2
def pb:Pr:=⟨⟨#[98]⟩,⟨#[]⟩,false⟩
theorem QY(a:A2M)(b c:List (List Pr)):Am a (b++c)=(Am a b).or (Am a c):=by unfold Am;rw[List.findSome?_append]
theorem L6(a:A2M)(l m:List Pr):Ad a (l++m)=(Ad a l).or (Ad a m):=by unfold Ad;rw[List.find?_append]
structure DT where
 ag:Nat
 pr:Pr
 ht:Nat
def cZ(nx:Nat->Q2):List J0:=(List.range 12).map λi=>J5 (nx i)
def Fa(p:Pr)(nx:Nat->Q2):Array J0:=(([J7 p.key,J7 p.val,J3 p.gone]:List J0)++cZ nx).toArray
def Dk(nx:Nat->Q2)(a b:Int):Array J0:=(([J7 ⟨#[]⟩,J7 ⟨#[]⟩,J3 false]:List J0)++cZ nx++([J6 J9 a,J6 J9 b]:List J0)).toArray
theorem Ba(nx:Nat->Q2):(cZ nx).length=12:=by simp[cZ]
theorem UE {nx:Nat->Q2}{i:Nat}(a:i<12):(cZ nx)[i]? =some (J5 (nx i)):=by simp[cZ,a]
theorem qT {nx:Nat->Q2}{i:Nat}(v:Q2):(cZ nx).set i (J5 v)=cZ (λa=>if a=i then v else nx a):=by
 refine List.ext_getElem? λa=>?_
 by_cases b:a<12
 ·rw[Mz,UE b,UE b,Ba];by_cases c:i=a
  ·subst c;simp[b]
  ·simp[c,Ne.symm c]
 ·rw[LN (by simp[Ba];omega),LN (by simp[Ba];omega)]
theorem AOG {p:Pr}{nx:Nat->Q2}{i:Nat}(a:i<12):(Fa p nx)[3+i]? =some (J5 (nx i)):=by simp only[Fa,MA];rw[Fk (by simp)];simpa using UE a
theorem AOm {nx:Nat->Q2}{a b:Int}{i:Nat}(c:i<12):(Dk nx a b)[3+i]? =some (J5 (nx i)):=by simp only[Dk,MA];rw[A4,Fk (by simp),GF (by simp[Ba];omega)];simpa using UE c
theorem mF {nx:Nat->Q2}{a b:Int}:(Dk nx a b)[15]? =some (J6 J9 a)/\(Dk nx a b)[16]? =some (J6 J9 b):=by
 simp only[Dk,MA];constructor
 ·rw[Fk (by simp[Ba])];simp[Ba]
 ·rw[Fk (by simp[Ba])];simp[Ba]
theorem Rc {p:Pr}{nx:Nat->Q2}:(Fa p nx).size=15:=by simp[Fa,Ba]
theorem di {nx:Nat->Q2}{a b:Int}:(Dk nx a b).size=17:=by simp[Dk,Ba]
theorem vV {p:Pr}{nx:Nat->Q2}{i:Nat}(v:Q2):(Fa p nx).setIfInBounds (3+i) (J5 v)=Fa p (λa=>if a=i then v else nx a):=by apply Array.toList_inj.1;rw[F0];simp only[Fa,MD];rw[HN _ _ (by simp),<-qT v];simp
theorem APG {nx:Nat->Q2}{a b:Int}{i:Nat}(d:i<12)(v:Q2):(Dk nx a b).setIfInBounds (3+i) (J5 v)=Dk (λc=>if c=i then v else nx c) a b:=by apply Array.toList_inj.1;rw[F0];simp only[Dk,MD];rw[A4,HN _ _ (by simp),Xs _ _ (by simp[Ba];omega),<-qT v];simp
theorem AMr {nx:Nat->Q2}{c a b:Int}:(Dk nx c a).setIfInBounds 15 (J6 J9 b)=Dk nx b a:=by apply Array.toList_inj.1;rw[F0];simp only[Dk,MD];rw[HN _ _ (by simp[Ba])];simp[Ba]
theorem vW {nx:Nat->Q2}{a c b:Int}:(Dk nx a c).setIfInBounds 16 (J6 J9 b)=Dk nx a b:=by apply Array.toList_inj.1;rw[F0];simp only[Dk,MD];rw[HN _ _ (by simp[Ba])];simp[Ba]
theorem Cs {a:aa}{b i:Nat}{l:Nat->Q2}{T:Q7}{fr:Nat×Nat}(c:a[b]? =some (J2 (cZ l).toArray T fr))(d:i<12):ah a ⟨b,i,none⟩=some (J5 (l i)):=by rw[IJ c,MA];exact UE d
def addrAt(t:Nat)(ns:List DT)(p:Nat):Q6:=match p with|0=>⟨t,0,none⟩|p+1=>match ns[p]? with|some x=>⟨x.ag,0,none⟩|none=>⟨t,0,none⟩
def TS(ns:List DT)(p:Nat):Nat:=match p with|0=>12|p+1=>match ns[p]? with|some x=>x.ht|none=>0
def DF(i:Nat)(l:List DT):Q2:=(l.find? λx=>decide (i<x.ht)).map λx=>⟨x.ag,0,none⟩
def cY(t:Nat)(ns:List DT)(b:Nat):Prop:=b=t\/ ∃x∈ns,x.ag=b
structure Lay (h:aa) (t:Nat) (ns:List DT) (nx:Nat->Nat->Q2) (n sz:Int):Prop where
 head:h[t]? =some (J2 (Dk (nx 0) n sz) we (0,0))
 node: ∀(j:Nat) (x:DT),ns[j]? =some x->h[x.ag]? =some (J2 (Fa x.pr (nx (j+1))) Rm (0,0))/\x.ag≠t
 apart:ns.Pairwise λx y=>x.ag≠y.ag
structure kZ (ns:List DT) (nx:Nat->Nat->Q2):Prop where
 link: ∀p i,p<=ns.length->i<12->i<TS ns p->nx p i=DF i (ns.drop p)
 ht: ∀x∈ns,1<=x.ht/\x.ht<=12
theorem Lay.mod {c d:aa}{t:Nat}{ns:List DT}{nx:Nat->Nat->Q2}{e f:Int}{g:Nat->Prop}(l:Lay c t ns nx e f)(m:Mod g c d)(h: ∀b,cY t ns b-> ¬g b):Lay d t ns nx e f:=
 ⟨m.ag l.head (h _ (.inl rfl)),λi x a=>⟨m.ag (l.node i x a).1 (h _ (.inr ⟨x,AM a,rfl⟩)),(l.node i x a).2⟩,l.apart⟩
theorem Lay.ext {a b:aa}{t:Nat}{ns:List DT}{nx:Nat->Nat->Q2}{c d:Int}(l:Lay a t ns nx c d)(m:Ext a b):Lay b t ns nx c d:=l.mod m λ_ _ a=>a
theorem Lay.lt {a:aa}{t:Nat}{ns:List DT}{nx:Nat->Nat->Q2}{c d:Int}(l:Lay a t ns nx c d){b:Nat}(e:cY t ns b):b<a.size:=by
 rcases e with rfl|⟨x,f,rfl⟩
 ·exact Aj l.head
 ·obtain⟨g,h,i⟩:=DB f;exact Aj (l.node g x (by rw[A2 h,i])).1
theorem Lay.next {a:aa}{t:Nat}{ns:List DT}{nx:Nat->Nat->Q2}{d e:Int}(l:Lay a t ns nx d e){p i:Nat}(g:p<=ns.length)(b:i<12):ah a (((addrAt t ns p).add 3).add (i*1))=some (J5 (nx p i)):=by
 rw[add_add,By];cases p with
 |zero=>show ah a ((⟨t,0,none⟩:Q6).add (3+i))=_;exact AB l.head (AOm b)
 |succ p=>
  have c:=A2 (l:=ns) (i:=p) (by omega);have f:addrAt t ns (p+1)=⟨ns[p].ag,0,none⟩:=by simp[addrAt,c]
  rw[f];exact AB (l.node p _ c).1 (AOG b)
theorem Lay.pair {a:aa}{t:Nat}{ns:List DT}{nx:Nat->Nat->Q2}{d e:Int}(l:Lay a t ns nx d e){c:Nat}{x:DT}(f:ns[c]? =some x):
  ah a ⟨x.ag,0,none⟩=some (J7 x.pr.key)/\ah a ((⟨x.ag,0,none⟩:Q6).add 1)=some (J7 x.pr.val)/\ah a ((⟨x.ag,0,none⟩:Q6).add 2)=some (J3 x.pr.gone):=by
 have b:=(l.node c x f).1;exact⟨AL b rfl,AB b rfl,AB b rfl⟩
theorem AHH {i:Nat}{l:List DT}{a:Q6}(b:DF i l=some a): ∃e x,l[e]? =some x/\a=⟨x.ag,0,none⟩/\i<x.ht/\ ∀(c:Nat) (d:DT),c<e->l[c]? =some d->d.ht<=i:=by
 induction l with
 |nil=>simp[DF] at b
 |cons x l h=>
  unfold DF at b;rw[F2] at b;by_cases f:i<x.ht
  ·simp[f] at b;exact⟨0,x,rfl,b.symm,f,λc d j=>by omega⟩
  ·simp[f] at b;obtain⟨e,d,k,m,n,o⟩:=h (by simpa [DF] using b);refine⟨e+1,d,by simpa using k,m,n,λc z j g=>?_⟩;cases c with
   |zero=>simp at g;subst g;omega
   |succ c=>exact o c z (by omega) (by simpa using g)
theorem YH {i:Nat}{l:List DT}(a:DF i l=none): ∀x∈l,x.ht<=i:=by intro x b;simp[DF] at a;exact a x b
theorem AGc {i:Nat}{l:List DT}{k:Nat}(c:k<=l.length)(d: ∀(a:Nat) (b:DT),a<k->l[a]? =some b->b.ht<=i):DF i l=DF i (l.drop k):=by
 induction k generalizing l with
 |zero=>simp
 |succ k e=>
  cases l with
  |nil=>simp at c
  |cons x l=>
   have f:=d 0 x (by omega) rfl;rw[I0,<-e (by simpa using c) λa b h g=>d (a+1) b (by omega) (by simpa using g)];unfold DF;rw[F2];simp[Nat.not_lt.2 f]
abbrev bY(ns:List DT):List Pr:=ns.map (·.pr)
theorem pE {key:A2M}: ∀ {l:List Pr},Sorted l-> ∀ {j:Nat} {x:Pr},l[j]? =some x->(j<aM key l↔aO x.key key=true)
 | [],_,j,x,a=>by simp at a
 |y::l,s,j,x,a=>by
  have d:=List.pairwise_cons.1 s;by_cases b:aO y.key key=true
  ·have c:aM key (y::l)=aM key l+1:=by simp[aM,iq,b]
   rw[c];cases j with
   |zero=>simp at a;subst a;simp[b]
   |succ j=>
    have:=pE (key:=key) d.2 (j:=j) (x:=x) (by simpa using a);rw[<- this];omega
  ·have c:aM key (y::l)=0:=by simp[aM,iq,b]
   rw[c];cases j with
   |zero=>simp at a;subst a;simp[b]
   |succ j=>
    have f:x∈l:=AM (by simpa using a);have g:=d.1 x f;constructor
    ·intro e;omega
    ·intro e;exact absurd (Da g e) b
structure Vd (ns:List DT) (key:A2M) (i p:Nat):Prop where
 le:p<=aM key (bY ns)
 ht:i<TS ns p
 last: ∀(j:Nat) (y:DT),p<=j->j<aM key (bY ns)->ns[j]? =some y->y.ht<=i
theorem Yj(key:A2M)(ns:List DT):aM key (bY ns)<=ns.length:=by have:=nB key (bY ns);simpa using this
theorem IX {a:Array J0}(l:Nat->Q2)(c:a=(cZ l).toArray)(i:Nat)(v:Q2):a.setIfInBounds i (J5 v)=(cZ (λb=>if b=i then v else l b)).toArray:=by subst c;apply Array.toList_inj.1;rw[F0];exact qT v
theorem AMv {a:Nat}(b:a<100):J8 J9 (((a+1:Nat):Int)-(1:Int))=(a:Int):=by rw[show(((a+1:Nat):Int)-1)=(a:Int) by omega];exact ED (by omega)
set_option maxHeartbeats 400000 in
theorem qU {ap:al}{h:aa}{t:Nat}{ns:List DT}{nx:Nat->Nat->Q2}{aq ar:Int}{key:A2M}{H:A2L}(L:Lay h t ns nx aq ar)(K:kZ ns nx)(s:Sorted (bY ns))
  (au: ∀(b:Nat->Nat) I,(∀ i,i<12->Vd ns key i (b i))->Ext h I->H (.agg #[J5 (some (addrAt t ns (b 0))),J5 (some (addrAt t ns (b 1))),J5 (some (addrAt t ns (b 2))),J5 (some (addrAt t ns (b 3))),J5 (some (addrAt t ns (b 4))),J5 (some (addrAt t ns (b 5))),J5 (some (addrAt t ns (b 6))),J5 (some (addrAt t ns (b 7))),J5 (some (addrAt t ns (b 8))),J5 (some (addrAt t ns (b 9))),J5 (some (addrAt t ns (b 10))),J5 (some (addrAt t ns (b 11)))]) I):
  AA ap P GN #[J5 (some ⟨t,0,none⟩),J7 key] h H:=by
 refine Vw ?_;unfold PD;refine ao.mk λk _ av J a2=>ao.mk λo _ aw M a3=>?_
 have ax:Ext h o:=J.trans M;have a4:=Yj key ns;refine Loop.rule (λm x q=> ∃(p:Nat) (b:Nat->Nat) (l:Nat->Q2),x=(some (addrAt t ns p),(m:Int)-1,())/\m<=12/\Mod (λc=>c=k.size) o q/\p<=aM key (bY ns)/\(m=0\/m<=TS ns p)/\
   q[k.size]? =some (J2 (cZ l).toArray EE (0,0))/\(∀ i,i<12->m<=i->Vd ns key i (b i)/\l i=some (addrAt t ns (b i)))) ?_
  (m:=12) ⟨0,λ_=>0,λ_=>none,rfl,by omega,Mod.refl,by omega,.inr (by simp[TS]),aw,λi k o=>by omega⟩
 rintro a5 m _ q ⟨p,b,l,rfl,a6,C,w,y,e,d⟩ ay;have N:Ext h q:=ax.then (C.aj λc _ v=> .inr (by have:=J.size;omega));refine af.intro (λv=>?_) (λv=>?_)
 ·cases m with
  |zero=>simp at v
  |succ i=>
   have z:i<12:=by omega
   have az:(((i+1:Nat):Int)-1)=(i:Int):=by omega
   rw[az];have O:=L.ext N;refine Loop.rule (λm x A=> ∃p:Nat,x=(some (addrAt t ns p),())/\A=q/\m=aM key (bY ns)-p/\p<=aM key (bY ns)/\i<TS ns p) ?_ ⟨p,rfl,rfl,rfl,w,by rcases y with h|h<;>omega⟩;rintro a7 m _ A ⟨p,rfl,aA,rfl,w,y⟩ aC;subst aA;have D:nx p i=DF i (ns.drop p):=K.link p i (by omega) z y;have ah:=O.next (p:=p) (i:=i) (by omega) z;refine ai.mk λaD Q=>?_
   have B:(0:Int)<=(i:Int)/\(i:Int)<(12:Int):=⟨by omega,by omega⟩;have R:(∀ (j:Nat) (r:DT),p<=j->j<aM key (bY ns)->ns[j]? =some r->r.ht<=i)->aD (false,()) A:=λaE=>Q _ _ (af.no rfl (by
    refine⟨B,?_⟩;show ae A ((⟨k.size,0,none⟩:Q6).add (i*1)) _ _;rw[Bf,AI,By];refine ae.mk e (by simp[Ba];omega) λa8 S E a9=>?_
    rw[IX l rfl] at S;have aF:Vd ns key i p:=⟨w,y,aE⟩;refine ay i _ _ (by omega) ⟨p,λf=>if f=i then p else b f,_,?_,by omega,C.trans E,w,.inr (by omega),S,λf n ba=>?_⟩
    ·cases i with
     |zero=>rfl
     |succ i=>rw[AMv (by omega),show(((i+1:Nat):Int)-1)=(i:Int) by omega]
    ·by_cases T:f=i
     ·subst T;simp[aF]
     ·simp[T];exact d f n (by omega)))
   refine⟨B,?_⟩;rw[As];refine AY.mk ah ?_;cases u:nx p i with
   |none=>
    refine af.no rfl ?_;refine R λj r aG aH F=>?_
    rw[D] at u;refine YH u r ?_;rw[List.mem_drop_iff_getElem];have:=List.getElem?_eq_some_iff.1 F;exact⟨j-p,by omega,by rw[<- this.2];congr 1;omega⟩
   |some a=>
    refine af.yes rfl ?_;refine⟨B,AY.mk (u▸ah) ?_⟩;rw[D] at u;obtain⟨f,x,n,rfl,aI,aJ⟩:=AHH u;rw[C5] at n;refine AJ.mk (O.pair n).1 ?_;have aK:(bY ns)[p+f]? =some x.pr:=by simp[bY,n]
    have U:=pE (key:=key) s aK;cases G:aO x.pr.key key
    ·refine R λj r aG aH F=>?_
     have bb:j<p+f:=by
      rcases FF j (p+f) with k|k
      ·exact k
      ·have o:p+f<aM key (bY ns):=by omega
       rw[U.1 o] at G;cases G
     exact aJ (j-p) r (by omega) (by rw[C5];rw[<- F];congr 1;omega)
    ·have o:=U.2 G;refine Q _ _ (af.yes rfl ?_);refine⟨B,AY.mk (u▸D▸ah) ?_⟩;have aL:addrAt t ns (p+f+1)=⟨x.ag,0,none⟩:=by simp[addrAt,n]
     refine aC (aM key (bY ns)-(p+f+1)) _ _ (by omega) ⟨p+f+1,by rw[aL],rfl,rfl,by omega,by simp[TS,n,aI]⟩
 ·have aN:m=0:=by simp at v;omega
  subst aN;have aP:q[h.size]? =some (J2 (cZ (λ_=>none)).toArray EE (0,0)):=C.ag (M.ag av (by simp)) (by omega);simp only[Bf,AI];refine AY.mk (Cs e (i:=0) (by omega)) ?_;refine AY.mk (Cs e (i:=1) (by omega)) ?_;refine AY.mk (Cs e (i:=2) (by omega)) ?_;refine AY.mk (Cs e (i:=3) (by omega)) ?_;refine AY.mk (Cs e (i:=4) (by omega)) ?_;refine AY.mk (Cs e (i:=5) (by omega)) ?_;refine AY.mk (Cs e (i:=6) (by omega)) ?_;refine AY.mk (Cs e (i:=7) (by omega)) ?_;refine AY.mk (Cs e (i:=8) (by omega)) ?_;refine AY.mk (Cs e (i:=9) (by omega)) ?_;refine AY.mk (Cs e (i:=10) (by omega)) ?_;refine AY.mk (Cs e (i:=11) (by omega)) ?_;refine ae.mk aP (by simp[Ba]) λbc V aQ bd=>?_
  rw[IX _ rfl] at V;refine ae.mk V (by simp[Ba]) λbe W aR bf=>?_
  rw[IX _ rfl] at W;refine ae.mk W (by simp[Ba]) λbg X aS bh=>?_
  rw[IX _ rfl] at X;refine ae.mk X (by simp[Ba]) λbi Y aT bj=>?_
  rw[IX _ rfl] at Y;refine ae.mk Y (by simp[Ba]) λbk Z aU bm=>?_
  rw[IX _ rfl] at Z;refine ae.mk Z (by simp[Ba]) λbn ab aV bo=>?_
  rw[IX _ rfl] at ab;refine ae.mk ab (by simp[Ba]) λbp ac E bq=>?_
  rw[IX _ rfl] at ac;refine ae.mk ac (by simp[Ba]) λbr ad aW bs=>?_
  rw[IX _ rfl] at ad;refine ae.mk ad (by simp[Ba]) λbt ag aX bu=>?_
  rw[IX _ rfl] at ag;refine ae.mk ag (by simp[Ba]) λbv aj aY bw=>?_
  rw[IX _ rfl] at aj;refine ae.mk aj (by simp[Ba]) λbx ak aZ bz=>?_
  rw[IX _ rfl] at ak;refine ae.mk ak (by simp[Ba]) λam an a0 bA=>?_
  rw[IX _ rfl] at an;have g:am[h.size]? =some (J2 (cZ l).toArray EE (0,0)):=by rw[an];congr 3
  refine AY.mk (Cs g (i:=0) (by omega)) ?_;refine AY.mk (Cs g (i:=1) (by omega)) ?_;refine AY.mk (Cs g (i:=2) (by omega)) ?_;refine AY.mk (Cs g (i:=3) (by omega)) ?_;refine AY.mk (Cs g (i:=4) (by omega)) ?_;refine AY.mk (Cs g (i:=5) (by omega)) ?_;refine AY.mk (Cs g (i:=6) (by omega)) ?_;refine AY.mk (Cs g (i:=7) (by omega)) ?_;refine AY.mk (Cs g (i:=8) (by omega)) ?_;refine AY.mk (Cs g (i:=9) (by omega)) ?_;refine AY.mk (Cs g (i:=10) (by omega)) ?_;refine AY.mk (Cs g (i:=11) (by omega)) ?_;have a1:=((((((((((aQ.trans aR).trans aS).trans aT).trans aU).trans aV).trans E).trans aW).trans aX).trans aY).trans aZ).trans a0;have:=au b am (λi z=>(d i z (by omega)).1) (N.then (a1.aj λc _ v=> .inr (by omega)));rw[(d 0 (by omega) (by omega)).2,(d 1 (by omega) (by omega)).2,(d 2 (by omega) (by omega)).2,(d 3 (by omega) (by omega)).2,(d 4 (by omega) (by omega)).2,(d 5 (by omega) (by omega)).2,(d 6 (by omega) (by omega)).2,(d 7 (by omega) (by omega)).2,(d 8 (by omega) (by omega)).2,(d 9 (by omega) (by omega)).2,(d 10 (by omega) (by omega)).2,(d 11 (by omega) (by omega)).2];exact this
theorem AOu {z:Int}(a: -9223372036854775808<=z)(b:z<=9223372036854775807):J8 J9 z=z:=by grind [J8,IntKind.bits,IntKind.signed]
theorem aD {a:Q6}{K:Q6->Prop}(b:K a):At (some a) K:=b
theorem ANR {l:al}{c:aa}{key:A2M}{h:A2L}(t:key.size<=64)(n: ∀d:Nat,1<=d->d<=12->h (J6 J9 (d:Int)) c):AA l P Sm #[J7 key] c h:=by
 refine AFH ?_;unfold Xy;refine Loop.rule (λm x e=> ∃(i:Nat) (a:Int),x=(a,(i:Int),())/\e=c/\m=key.size-i/\i<=key.size) ?_ ⟨0,2166136261,rfl,rfl,rfl,by omega⟩;rintro K m _ e ⟨i,a,rfl,f,rfl,u⟩ o;subst f;refine af.intro (λb=>?_) (λb=>?_)
 ·have v:i<key.size:=by simp at b;omega
  refine⟨⟨by grind,by show(i:Int)<_;omega⟩,o (key.size-(i+1)) _ _ (by omega) ⟨i+1,_,by rw[Ab (by omega)],rfl,rfl,by omega⟩⟩
 ·refine Loop.rule (λm x g=> ∃(i:Nat) (a:Int),x=(a,(i:Int),())/\g=e/\m=12-i/\1<=i/\i<=12) ?_ ⟨1,_,rfl,rfl,rfl,by omega,by omega⟩;rintro w m _ g ⟨i,a,rfl,f,rfl,p,q⟩ r;subst f;refine ai.mk λs j=>?_
  have k:s (false,()) g:=j _ _ (af.no rfl (n i p q));refine af.intro (λb=>?_) (λb=>k);have y:i<12:=by simp at b;omega
  cases z:((Gr .u32 a (3:Int))==(0:Int))
  ·exact k
  ·exact j _ _ (af.yes rfl (r (12-(i+1)) _ _ (by omega) ⟨i+1,_,by rw[Ab (by omega)],rfl,rfl,by omega,by omega⟩))
theorem Ol(i:Nat)(a b:List DT):DF i (a++b)=(DF i a).or (DF i b):=by grind [DF,decide]
theorem AH8 {i:Nat}{l:List DT}(a: ∀x∈l,x.ht<=i):DF i l=none:=by simp_all [DF,Hh]
theorem AKv {i:Nat}{l:List DT}{x:DT}(b:x∈l)(d:i<x.ht): ∃a,DF i l=some a:=by
 cases c:DF i l with
 |some a=>exact⟨a,rfl⟩
 |none=>have:=YH c x b;omega
theorem Sw {ns:List DT}(c: ∀x∈ns,1<=x.ht/\x.ht<=12)(p:Nat):DF 0 (ns.drop p)=(ns[p]?).map λx=>⟨x.ag,0,none⟩:=by
 cases a:ns[p]? with
 |none=>rw[PA (List.getElem?_eq_none_iff.1 a)];rfl
 |some x=>
  have b:=List.getElem?_eq_some_iff.1 a;rw[Fo b.1,b.2];have:=(c x (AM a)).1;unfold DF;rw[F2];simp[Fl Nat.zero_lt_one this]
def gj(nx:Nat->Nat->Q2)(p i:Nat)(v:Q2):Nat->Nat->Q2:=λa b=>if a=p/\b=i then v else nx a b
theorem Kn {p:Pr}{f g:Nat->Q2}(a: ∀i,f i=g i):Fa p f=Fa p g:=by rw[show f=g from funext a]
theorem Xo {a b:Int}{f g:Nat->Q2}(c: ∀i,f i=g i):Dk f a b=Dk g a b:=by rw[show f=g from funext c]
theorem Lay.store {e:aa}{t:Nat}{ns:List DT}{nx:Nat->Nat->Q2}{s u:Int}(l:Lay e t ns nx s u){p i:Nat}(C:p<=ns.length)(z:i<12){v:Q2}{K:aa->Prop}
  (w: ∀c,Lay c t ns (gj nx p i v) s u->Mod (cY t ns) e c->c.size=e.size->K c):ae e (((addrAt t ns p).add 3).add (i*1)) (J5 v) K:=by
 rw[add_add,By];cases p with
 |zero=>
  show ae e ((⟨t,0,none⟩:Q6).add (3+i)) _ _;rw[Bf,AI];refine ae.mk l.head (by rw[di];omega) λc d m o=>w c ⟨?_,λj x a=>⟨?_,(l.node j x a).2⟩,l.apart⟩ (m.aj λb _ d=> .inl d) o
  ·rw[d,APG z,Xo (g:=gj nx 0 i v 0) (λh=>by simp[gj])]
  ·rw[m.get _ (Aj (l.node j x a).1) (l.node j x a).2,(l.node j x a).1,Kn (g:=gj nx 0 i v (j+1)) (λh=>by simp[gj])]
 |succ p=>
  have k:=A2 (l:=ns) (i:=p) (by omega);have f:addrAt t ns (p+1)=⟨ns[p].ag,0,none⟩:=by simp[addrAt,k]
  rw[f,Bf,AI];obtain⟨A,B⟩:=l.node p _ k;refine ae.mk A (by rw[Rc];omega) λc d m o=>w c ⟨?_,λj x a=>⟨?_,(l.node j x a).2⟩,l.apart⟩ (m.aj λb _ d=> .inr ⟨_,AM k,d.symm⟩) o
  ·rw[m.get _ (Aj l.head) (λf=>B f.symm),l.head,Xo (g:=gj nx (p+1) i v 0) (λh=>by simp[gj])]
  ·by_cases q:j=p
   ·subst q;rw[k] at a;cases a;rw[d,vV,Kn (g:=gj nx (j+1) i v (j+1)) (λh=>by simp[gj])]
   ·have hd:x.ag≠ns[p].ag:=by
     have n:=List.getElem?_eq_some_iff.1 a;have y:=List.pairwise_iff_getElem.1 l.apart;rcases MT q with r|r
     ·have:=y j p n.1 (by omega) r;rw[n.2] at this;exact this
     ·have:=y p j (by omega) n.1 r;rw[n.2] at this;exact λf=>this f.symm
    rw[m.get _ (Aj (l.node j x a).1) hd,(l.node j x a).1,Kn (g:=gj nx (p+1) i v (j+1)) (λh=>by simp[gj,q])]
def El(l:List Pr):Nat:=(l.map λx=>x.key.size+x.val.size).sum
structure dh (h:aa) (t:Nat) (ns:List DT) (l:List Pr):Prop where
 lay: ∃nx,Lay h t ns nx (l.length:Int) (El l:Int)/\kZ ns nx
 bY:bY ns=l
 sorted:Sorted l
 aR:BL l
theorem dh.mod {a c:aa}{t:Nat}{ns:List DT}{l:List Pr}{d:Nat->Prop}(T:dh a t ns l)(m:Mod d a c)(e: ∀b,cY t ns b-> ¬d b):dh c t ns l:=by obtain⟨nx,L,K⟩:=T.lay;exact⟨⟨nx,L.mod m e,K⟩,T.bY,T.sorted,T.aR⟩
theorem dh.ext {a b:aa}{t:Nat}{ns:List DT}{l:List Pr}(T:dh a t ns l)(m:Ext a b):dh b t ns l:=T.mod m λ_ _ a=>a
theorem dh.lt {a:aa}{t:Nat}{ns:List DT}{l:List Pr}(T:dh a t ns l){b:Nat}(c:cY t ns b):b<a.size:=by obtain⟨nx,L,_⟩:=T.lay;exact L.lt c
theorem td {d:al}{a:aa}{c:A2L}(e: ∀b,dh b a.size [] []->Ext a b->b.size=a.size+1->c (J5 (some ⟨a.size,0,none⟩)) b):AA d P Qj #[] a c:=by
 refine ALT ?_;unfold vG;refine ao.mk λf _ g h j=>e f ⟨⟨λ_ _=>none,⟨g,λl x a=>by simp at a,List.Pairwise.nil⟩,⟨λp i k m _=>?_,λx a=>by cases a⟩⟩,rfl,List.Pairwise.nil,λx a=>by cases a⟩ h j
 have:p=0:=by simpa using k
 subst this;rfl
theorem OE(l m:List Pr):El (l++m)=El l+El m:=by simp[El,List.sum_append]
theorem SG(x:Pr)(l:List Pr):El (x::l)=x.key.size+x.val.size+El l:=by simp[El]
theorem ALM {l:List Pr}(g:BL l):El l<=l.length*8256:=by
 induction l with
 |nil=>simp[El]
 |cons x l a=>
  have d:=a λb c=>g b (by simp[c])
  have e:=g x (by simp);have f:x.key.size<=64/\x.val.size<=8192:=by grind [Ag]
  rw[SG,A6,Bs];omega
theorem vX {x:Pr}(a:Ag x=0):x.key.size<=64/\x.val.size<=8192:=by grind [Ag]
theorem AM1 {p a:Pr}{nx:Nat->Q2}:(((Fa p nx).setIfInBounds 0 (J7 a.key)).setIfInBounds 1 (J7 a.val)).setIfInBounds 2 (J3 a.gone)=Fa a nx:=by apply Array.toList_inj.1;rw[F0,F0,F0];rfl
theorem gW.zero {ns:List DT}{key:A2M}{p:Nat}(d: ∀x∈ns,1<=x.ht/\x.ht<=12)(b:Vd ns key 0 p):p=aM key (bY ns):=by
 rcases FF p (aM key (bY ns)) with a|a
 ·have e:=Yj key ns;have c:=A2 (l:=ns) (i:=p) (by omega);have f:=b.last p _ (A0 _) a c;have g:=d _ (AM c);omega
 ·have:=b.le;omega
def gk(nx:Nat->Nat->Q2)(c:Nat->Nat)(b:Q6)(i:Nat):Nat->Nat->Q2:=λp a=>if a<i/\p=c a then some b else nx p a
def ka(nx:Nat->Nat->Q2)(b:Nat->Nat)(i:Nat):Nat->Q2:=λa=>if a<i then nx (b a) a else none
def gX(nx:Nat->Nat->Q2)(c:Nat->Nat)(b:Q6)(d a:Nat):Nat->Nat->Q2:=λp i=>if p<=a then gk nx c b d p i else if p=a+1 then ka nx c d i else gk nx c b d (p-1) i
theorem vY {c:Type}{ns:List c}{x:c}{a b:Nat}(d:a<=ns.length):(ns.take a++x::ns.drop a)[b]? =if b<a then ns[b]? else if b=a then some x else ns[b-1]? :=by grind
theorem AOl {b:Type}{ns:List b}{x:b}{a p:Nat}(c:a<=ns.length)(d:p<=a):(ns.take a++x::ns.drop a).drop p=(ns.take a).drop p++x::ns.drop a:=by grind
theorem AM2 {b:Type}{ns:List b}{x:b}{a p:Nat}(c:a<=ns.length)(d:a<p):(ns.take a++x::ns.drop a).drop p=ns.drop (p-1):=by rw[PB,PA (by simp;omega),CN];simp only[An,Fm c];rw[show p-a=(p-a-1)+1 by omega,I0,Hk];congr 1;omega
theorem kZ.insert {ns:List DT}{nx:Nat->Nat->Q2}{key:A2M}(K:kZ ns nx){d:Nat->Nat}(s: ∀i,i<12->Vd ns key i (d i)){x:DT}(E:1<=x.ht/\x.ht<=12):
  kZ (ns.take (aM key (bY ns))++x::ns.drop (aM key (bY ns))) (gX nx d ⟨x.ag,0,none⟩ x.ht (aM key (bY ns))):=by
 have t:=Yj key ns;generalize j:aM key (bY ns)=a at*
 refine⟨λp i J g n=>?_,λh b=>?_⟩
 ·unfold gX;split
  ·rename_i w;have o:i<TS ns p:=by
    cases p with
    |zero=>exact g
    |succ p=>
     unfold TS at n ⊢
     grind
   have y:=K.link p i (by omega) g o;have z:ns.drop p=(ns.take a).drop p++ns.drop a:=by grind [List.take_append_drop]
   have f:=s i g;rw[AOl t w,Ol];unfold gk;by_cases q:i<x.ht
   ·have F:DF i (x::ns.drop a)=some ⟨x.ag,0,none⟩:=by grind [DF]
    rw[F];by_cases u:p=d i
    ·rw[if_pos ⟨q,u⟩,AH8 λh b=>?_]
     ·rfl
     ·obtain⟨A,B,L⟩:=DB b;simp at B;have M:(ns.take a).drop p=(ns.take a).drop p:=rfl;refine f.last (p+A) h (by omega) (by rw[j];omega) ?_
      grind
    ·rw[if_neg (λe=>u e.2),y,z,Ol];have G:p<d i:=by
      rcases Jx p (d i) with e|e|e
      ·exact e
      ·exact absurd e u
      ·exfalso;cases p with
       |zero=>omega
       |succ p=>
        have r:=A2 (l:=ns) (i:=p) (by omega);have N:=f.last p _ (by omega) (by rw[j];omega) r;simp[TS,r] at o;omega
     have m:=f.le;rw[j] at m;have v:=f.ht;obtain⟨c,H⟩: ∃c,d i=c+1:=⟨d i-1,by omega⟩;rw[H] at v G m;have r:=A2 (l:=ns) (i:=c) (by omega);simp[TS,r] at v;have I:ns[c]∈(ns.take a).drop p:=by
      refine AM (i:=c-p) ?_
      grind
     obtain⟨h,b⟩:=AKv I v;rw[b];rfl
   ·rw[if_neg (λe=>q e.1),y,z,Ol];have:DF i (x::ns.drop a)=DF i (ns.drop a):=by grind [DF]
    rw[this]
  ·rename_i w;rw[AM2 t (by omega)];split
   ·rename_i C;subst C;have q:i<x.ht:=by
     unfold TS at n
     simp_all
    have f:=s i g;have m:=f.le;rw[j] at m;unfold ka;rw[if_pos q,K.link (d i) i (by omega) g f.ht,AGc (k:=a-d i) (by simp;omega) λA h B b=>?_]
    ·rw[Hk];congr 2;omega
    ·rw[C5] at b;exact f.last _ h (by omega) (by rw[j];omega) b
   ·rename_i C;obtain⟨c,rfl⟩: ∃c,p=c+1:=⟨p-1,by omega⟩;rw[MY];have O:(ns.take a++x::ns.drop a).length=ns.length+1:=by simp;omega
    have o:i<TS ns c:=by
     unfold TS at n;simp only at n;rw[vY t,if_neg (by omega),if_neg (by omega)] at n;obtain⟨D,rfl⟩: ∃D,c=D+1:=⟨c-1,by omega⟩
     simp_all [TS]
    have m:=(s i g).le;rw[j] at m;unfold gk;rw[if_neg (λe=>by omega)];exact K.link c i (by omega) g o
 ·rw[HW,HS] at b;rcases b with b|rfl|b
  ·exact K.ht h (Cd b)
  ·exact E
  ·exact K.ht h (Hj b)
set_option maxHeartbeats 1000000 in
theorem tf {bU:al}{s:aa}{t:Nat}{ns:List DT}{l:List Pr}{x:Pr}{an:A2L}(T:dh s t ns l)(cK:l.length<1099511627776)
  (ap: ∀ba aq,dh aq t ba (Bu x l)->Mod (cY t ns) s aq->(∀ b,cY t ba b->cY t ns b\/s.size<=b)->an (J6 J9 (Ag x)) aq):
  AA bU P Kc #[J5 (some ⟨t,0,none⟩),.agg #[J7 x.key,J7 x.val,J3 x.gone]] s an:=by
 refine Zt ?_;unfold Sy;refine ao.mk λe _ u ar cL=>?_
 have bb:=T.ext ar;have au:Ag x≠0->an (J6 J9 (Ag x)) e:=λw=>ap ns e (by simpa [Bu,w] using bb) ar.mod (λb u=> .inl u)
 refine ai.mk λK av=>?_
 have aw:(decide (x.key=⟨#[]⟩)||(x.gone&& !decide (x.val=⟨#[]⟩)))=true->K (true,()) e:=λj=>av _ _ (af.yes rfl (by
  have w:Ag x=1:=by unfold Ag;rw[if_pos j]
  have:=au (by rw[w];decide);rw[w] at this;exact this))
 have bc:(decide (x.key=⟨#[]⟩)||(x.gone&& !decide (x.val=⟨#[]⟩)))=false->K (false,()) e:=λj=>av _ _ (af.no rfl (by
  refine ai.mk λbd ax=>?_
  have ay:(decide (x.key.size>64)||decide (x.val.size>8192))=true->bd (true,()) e:=λaz=>ax _ _ (af.yes rfl (by
   have w:Ag x=2:=by unfold Ag;rw[if_neg (by simp[j]),if_pos az]
   have:=au (by rw[w];decide);rw[w] at this;exact this))
  have bV:(decide (x.key.size>64)||decide (x.val.size>8192))=false->bd (false,()) e:=λaz=>ax _ _ (af.no rfl (by
   have w:Ag x=0:=by unfold Ag;rw[if_neg (by simp[j]),if_neg (by simp[az])]
   have bW:=vX w;clear aw ax av ay au;obtain⟨nx,aA,D⟩:=bb.lay;have V:Bu x l=ins x l:=RF w;have be:=Px (x:=x) T.sorted;have bf:=w7 (x:=x) T.aR;have L:=T.bY;have bX:Sorted (bY ns):=by rw[L];exact T.sorted
   have cM:ns.length=l.length:=by rw[<- L];simp
   have cN:=ALM T.aR;refine AJ.mk (AL u rfl) ?_;refine qU aA D bX λk F r W=>⟨_,_,_,_,_,_,_,_,_,_,_,_,rfl,?_⟩
   have aC:=gW.zero D.ht (r 0 (by omega));have bg:=aA.ext W;refine ao.mk λbZ _ b0 b1 cO=>?_
   have b2:bZ[F.size]? =some (J2 (cZ (λ_=>none)).toArray EE (0,0)):=b0;simp only[Bf,AI];refine ae.mk b2 (by simp[Ba]) λcP aE bh b3=>?_
   rw[IX _ rfl] at aE;refine ae.mk aE (by simp[Ba]) λcQ aF M b4=>?_
   rw[IX _ rfl] at aF;refine ae.mk aF (by simp[Ba]) λcR aG bi b5=>?_
   rw[IX _ rfl] at aG;refine ae.mk aG (by simp[Ba]) λcS aH bj b6=>?_
   rw[IX _ rfl] at aH;refine ae.mk aH (by simp[Ba]) λcT aI bk b7=>?_
   rw[IX _ rfl] at aI;refine ae.mk aI (by simp[Ba]) λcU aJ bm b8=>?_
   rw[IX _ rfl] at aJ;refine ae.mk aJ (by simp[Ba]) λcV aK bn b9=>?_
   rw[IX _ rfl] at aK;refine ae.mk aK (by simp[Ba]) λcW aL bo ca=>?_
   rw[IX _ rfl] at aL;refine ae.mk aL (by simp[Ba]) λcX aN bp cb=>?_
   rw[IX _ rfl] at aN;refine ae.mk aN (by simp[Ba]) λc0 aO bq cc=>?_
   rw[IX _ rfl] at aO;refine ae.mk aO (by simp[Ba]) λc1 aP br cd=>?_
   rw[IX _ rfl] at aP;refine ae.mk aP (by simp[Ba]) λf aQ bs ce=>?_
   rw[IX _ rfl] at aQ;have aR:f[F.size]? =some (J2 (cZ (λi=>some (addrAt t ns (k i)))).toArray EE (0,0)):=by rw[aQ];congr 3
   have bt:=((((((((((bh.trans M).trans bi).trans bj).trans bk).trans bm).trans bn).trans bo).trans bp).trans bq).trans br).trans bs;have X:Ext F f:=b1.then (bt.aj λc _ j=> .inr (by omega));have c2:=X.size;have c3:=Aj aR;have c4:=W.size;clear bt aE aF aG aH aI aJ aK aL aN aO aP aQ bh M bi bj bk bm bn bo bp bq br bs b3 b4 b5 b6 b7 b8 b9 ca cb cc cd ce;have y:=bg.ext X;have G:f[s.size]? =some (J2 #[J7 x.key,J7 x.val,J3 x.gone] AQ (0,0)):=X.ag (W.ag u (by simp)) (by simp);have cf:=Yj x.key ns;have aS:Ext s f:=ar.trans (W.trans X);refine⟨by omega,AY.mk (Cs aR (i:=0) (by omega)) ⟨by omega,AY.mk (y.next (p:=k 0) (i:=0) (by rw[aC];omega) (by omega)) ?_⟩⟩;have cg:nx (k 0) 0=(ns[aM x.key (bY ns)]?).map λd=>⟨d.ag,0,none⟩:=by rw[D.link (k 0) 0 (by rw[aC];omega) (by omega) (r 0 (by omega)).ht,aC,Sw D.ht]
   rw[cg];have Y:A8 x.key l=match ns[aM x.key (bY ns)]? with|some d=>decide (d.pr.key=x.key)|none=>false:=by
    unfold A8
    grind
   generalize aT:aM x.key (bY ns)=a at*
   have Z:aM x.key l=a:=by rw[<- L];exact aT
   have ab:YY x l=ins x l:=nE x l;refine ai.mk λbu bv=>?_
   have ch: ∀d,ns[a]? =some d->d.pr.key=x.key->bu (true,()) f:=λd n E=>bv _ _ (af.yes rfl (by
    have H:=List.getElem?_eq_some_iff.1 n;have ci:a<ns.length:=H.1;rw[n];have cj:=y.pair n;have c5:d.pr.key.size=x.key.size:=by rw[E]
    refine AC.mk (AB y.head mF.2) (AJ.mk (AL G rfl) (AJ.mk cj.2.1 ?_));have ck: ∃aU:Nat,El l=d.pr.key.size+d.pr.val.size+aU/\El (Bu x l)=x.key.size+x.val.size+aU:=by
     have aV:l=l.take a++d.pr::l.drop (a+1):=by
      have aW:l[a]? =some d.pr:=by rw[<- L];simp[n]
      have e:=List.getElem?_eq_some_iff.1 aW;rw[<- e.2,<-Fo e.1,DO]
     have Q:Bu x l=l.take a++x::l.drop (a+1):=by rw[V,<-ab];unfold YY;rw[Y,n,Z,if_pos (by simp[E])];simp
     refine⟨El (l.take a)+El (l.drop (a+1)),?_,?_⟩
     ·conv=>lhs;rw[aV]
      rw[OE,SG];omega
     ·rw[Q,OE,SG];omega
    obtain⟨aU,c6,c7⟩:=ck;have aX:J8 J9 ((El l:Int)+J8 J9 ((x.val.size:Int)-(d.pr.val.size:Int)))=(El (Bu x l):Int):=by
     have c8:d.pr.val.size<=8192:=(vX (T.aR d.pr (by grind))).2;have aV:J8 J9 ((x.val.size:Int)-(d.pr.val.size:Int))=(x.val.size:Int)-(d.pr.val.size:Int):=by exact AOu (by omega) (by omega)
     rw[aV,show(El l:Int)+((x.val.size:Int)-(d.pr.val.size:Int))=((El (Bu x l):Nat):Int) by omega];exact ED (by omega)
    rw[aX];refine aD ?_;rw[Bf,AI];refine ae.mk y.head (by rw[di];omega) λbw bx ac c9=>?_
    rw[vW] at bx;have aY:=y.node a d n;have aZ:bw[s.size]? =some (J2 #[J7 x.key,J7 x.val,J3 x.gone] AQ (0,0)):=ac.ag G (by have:=aA.lt (.inl rfl:cY t ns t);have:=T.lt (.inl rfl:cY t ns t);omega);refine AJ.mk (AL aZ rfl) (AJ.mk (AL aZ rfl) (AZ.mk (AL aZ rfl) ?_));have cl:=ac.ag aY.1 aY.2;refine aD ?_;refine ae.mk cl (by rw[Rc];omega) λda cm cn db=>?_
    rw[Bf,Bf];refine ae.mk cm (by rw[PC,Rc];omega) λdc co cp dd=>?_
    refine ae.mk co (by rw[PC,PC,Rc];omega) λa0 bz cq de=>?_
    simp only[AI] at bz;rw[AM1] at bz;have a1:Mod (λc=>c=d.ag) bw a0:=(cn.trans cp).trans cq;have a2:cY t ns t:= .inl rfl;have bA:cY t ns d.ag:= .inr ⟨d,AM n,rfl⟩;rw[<- w];refine ap (ns.set a {d with pr:=x}) a0 ⟨⟨nx,⟨?_,λq z h=>?_,?_⟩,⟨λp i ad ag bB=>?_,λz h=>?_⟩⟩,?_,be,bf⟩ ?_ λb u=>?_
    ·have a3:(Bu x l).length=l.length:=by rw[V,<-ab];unfold YY;rw[Y,n,Z,if_pos (by simp[E])];simp;omega
     rw[a3];exact a1.ag bx (λo=>aY.2 o.symm)
    ·rw[Mz] at h;split at h
     ·grind
     ·rename_i N;have A:=y.node q z h;refine⟨?_,A.2⟩;refine a1.ag (ac.ag A.1 A.2) ?_;have e:=List.getElem?_eq_some_iff.1 h;have bC:=List.pairwise_iff_getElem.1 y.apart;rcases MT N with a4|a4
      ·have:=bC a q H.1 e.1 a4;rw[e.2,H.2] at this;exact λo=>this o.symm
      ·have:=bC q a e.1 H.1 a4;rw[e.2,H.2] at this;exact this
    ·have o:(ns.set a {d with pr:=x}).map (·.ag)=ns.map (·.ag):=by
      rw[PF];apply List.ext_getElem?;intro q;rw[Mz];split
      ·rename_i N;subst N;simp[H.1,H.2]
      ·rfl
     have e:(ns.map (·.ag)).Pairwise (· ≠ ·):=List.pairwise_map.2 y.apart;rw[<- o] at e;exact List.pairwise_map.1 e
    ·rw[PJ] at ad;have cr:TS (ns.set a {d with pr:=x}) p=TS ns p:=by
      cases p with
      |zero=>rfl
      |succ p=>
       unfold TS;simp only;rw[Mz];by_cases N:a=p
       ·subst N;rw[if_pos rfl,if_pos ci,n]
       ·rw[if_neg N]
     rw[cr] at bB;rw[D.link p i ad ag bB];have key: ∀m:List DT,∀a,m[a]? =some d->DF i (m.set a {d with pr:=x})=DF i m:=by
      intro m
      induction m with
      |nil=>intro a s;simp at s
      |cons z m cs=>
       intro a s;cases a with
       |zero=>simp at s;subst s;by_cases hd:i<z.ht<;>simp[DF,hd]
       |succ a=>
        have:=cs a (by simpa using s);unfold DF at this ⊢;rw[List.set_cons_succ,F2,F2];split
        ·rfl
        ·exact this
     rcases FF a p with e|e
     ·rw[Zs e]
     ·rw[List.drop_set];rw[if_neg (by omega)];exact(key _ _ (by rw[C5];rw[<- n];congr 1;omega)).symm
    ·obtain⟨q,I,o⟩:=DB h;rw[List.getElem_set] at o;split at o
     ·subst o;exact D.ht d (AM n)
     ·subst o;exact D.ht _ (B9 _)
    ·rw[V,<-ab];unfold YY;rw[Y,n,Z,if_pos (by simp[E])];show(ns.set a {d with pr:=x}).map (·.pr)=_;rw[PF,ZS];have:(ns.map (·.pr))=l:=L;rw[this];have aW:a<l.length:=by omega
     simp[aW]
    ·have M:Mod (cY t ns) f a0:=(ac.aj λc _ j=>by subst j;exact a2).trans (a1.aj λc _ j=>by subst j;exact bA);exact aS.mod.trans M
    ·rcases u with rfl|⟨z,h,rfl⟩
     ·exact .inl (.inl rfl)
     ·obtain⟨q,I,o⟩:=DB h;rw[List.getElem_set] at o;split at o
      ·subst o;exact .inl bA
      ·subst o;exact .inl (.inr ⟨_,B9 _,rfl⟩)))
   have bD:A8 x.key l=false->bu (false,()) f:=λa2=>bv _ _ (af.no rfl (by
    refine AJ.mk (AL G rfl) (AJ.mk (AL G rfl) (AZ.mk (AL G rfl) ?_));refine ao.mk λbE _ ct ah df=>?_
    have bF:=ah.ag G (by simp);refine AJ.mk (AL bF rfl) ?_;refine ANR bW.1 λB cu cv=>⟨_,rfl,?_⟩
    have cw:bE[f.size]? =some (J2 (Fa x (λ_=>none)) Rm (0,0)):=ct;have cx:=y.ext ah;have bG: ∀i,i<12->k i<=ns.length:=λi ag=>by have:=(r i ag).le;rw[aT] at this;omega
    have cy:=ah.ag aR (by simp);have a5: ∀c,cY t ns c->c<f.size:=λc j=>y.lt j
    have cz: ∀c,cY t ns c->c<F.size:=λc j=>bg.lt j
    refine Loop.rule (λm d C=> ∃i:Nat,d=((i:Int),())/\m=B-i/\i<=B/\Mod (λc=>cY t ns c\/c=f.size) bE C/\Lay C t ns (gk nx k ⟨f.size,0,none⟩ i) (l.length:Int) (El l:Int)/\C[f.size]? =some (J2 (Fa x (ka nx k i)) Rm (0,0))) ?_
     ⟨0,rfl,rfl,by omega,Mod.refl,?_,?_⟩
    rotate_left
    ·have:gk nx k ⟨f.size,0,none⟩ 0=nx:=by funext p B;simp[gk]
     rw[this];exact cx
    ·have:ka nx k 0=λ_=>none:=by funext B;simp[ka]
     rw[this];exact cw
    rintro cB m _ C ⟨i,rfl,rfl,ag,R,J,bH⟩ cC;have dg:=R.size;have bI:C[F.size]? =some (J2 (cZ (λi=>some (addrAt t ns (k i)))).toArray EE (0,0)):=R.ag cy (λa6=>a6.elim (λe=>by have:=cz _ e;omega) (λe=>by omega));refine af.intro (λj=>?_) (λj=>?_)
    ·have bJ:i<B:=by simpa using j
     have O:i<12:=by omega
     have S:(0:Int)<=(i:Int)/\(i:Int)<(12:Int):=⟨by omega,by omega⟩;refine⟨S,?_⟩;show AY C ⟨F.size,i*1,none⟩ _;rw[By];refine AY.mk (Cs bI O) ⟨S,?_⟩;show AY C (((addrAt t ns (k i)).add 3).add (i*1)) _;refine AY.mk (J.next (p:=k i) (i:=i) (bG i O) O) ⟨S,?_⟩;have cD:gk nx k ⟨f.size,0,none⟩ i (k i) i=nx (k i) i:=by simp[gk]
     show ae C ⟨f.size,3+i*1,none⟩ (J5 (gk nx k ⟨f.size,0,none⟩ i (k i) i)) _;rw[cD,By];refine ae.mk bH (by rw[Rc];omega) λbK bL a7 dj=>?_
     rw[vV] at bL;have cE:=J.mod a7 (λc j o=>by have:=a5 c j;omega);refine⟨S,?_⟩;show AY bK ⟨F.size,i*1,none⟩ _;rw[By];refine AY.mk (Cs (a7.ag bI (by omega)) O) ⟨S,?_⟩;show ae bK (((addrAt t ns (k i)).add 3).add (i*1)) (J5 (some ⟨f.size,0,none⟩)) (λbM=>cB (J8 J9 ((i:Int)+(1:Int)),()) bM);refine cE.store (p:=k i) (i:=i) (bG i O) O (v:=some ⟨f.size,0,none⟩) (λbM bN bO dk=>?_)
     ·refine cC (B-(i+1)) _ _ (by omega) ⟨i+1,by rw[Ab (by omega)],rfl,by omega,(R.trans (a7.aj λc _ j=> .inr j)).trans (bO.aj λc _ j=> .inl j),?_,?_⟩
      ·have:gj (gk nx k ⟨f.size,0,none⟩ i) (k i) i (some ⟨f.size,0,none⟩)=gk nx k ⟨f.size,0,none⟩ (i+1):=by
        funext p q;unfold gj gk;by_cases I:q=i
        ·subst I
         grind
        ·by_cases ad:p=k q<;>simp[ad,I,Nat.lt_succ_iff,Nat.le_iff_lt_or_eq]
       rw[this] at bN;exact bN
      ·rw[bO.ag bL (λj=>by have:=a5 _ j;omega),Kn (g:=ka nx k (i+1)) (λq=>?_)];unfold ka;by_cases I:q=i
       ·subst I;simp
       ·simp[I,Nat.lt_succ_iff,Nat.le_iff_lt_or_eq]
    ·have bJ:i=B:=by simp at j;omega
     subst bJ;refine AC.mk (AB J.head mF.1) ?_;refine aD ?_;rw[Bf,AI];refine ae.mk J.head (by rw[di];omega) λdl a8 bP dm=>?_
     rw[AMr] at a8;have bQ:cY t ns t:= .inl rfl;have dn:=T.lt bQ;have cF:C[s.size]? =some (J2 #[J7 x.key,J7 x.val,J3 x.gone] AQ (0,0)):=R.ag bF (λa6=>a6.elim (λe=>by have:=T.lt e;omega) (λe=>by omega));have bR:=bP.ag cF (by omega);refine aD ?_;rw[Bf,AI];refine AC.mk (AL a8 mF.2) (AJ.mk (AL bR rfl) (AJ.mk (AL bR rfl) (aD ?_)));rw[Bf,AI];refine ae.mk a8 (by rw[di];omega) λaj a9 cG dp=>?_
     rw[vW] at a9;have Q:Bu x l=l.take a++x::l.drop a:=by rw[V,<-ab];unfold YY;rw[a2,Z];simp
     have dq:El (Bu x l)=El l+(x.key.size+x.val.size):=by
      rw[Q,OE,SG];have:El l=El (l.take a)+El (l.drop a):=by rw[<- OE,DO]
      omega
     have a3:(Bu x l).length=l.length+1:=by rw[Q];simp;omega
     have aX:J8 J9 ((l.length:Int)+(1:Int))=((Bu x l).length:Int):=by rw[a3];exact Ab (by omega)
     have cH:J8 J9 ((El l:Int)+J8 J9 ((x.key.size:Int)+(x.val.size:Int)))=(El (Bu x l):Int):=by rw[show((x.key.size:Int)+(x.val.size:Int))=((x.key.size+x.val.size:Nat):Int) by omega,ED (by omega),show(El l:Int)+((x.key.size+x.val.size:Nat):Int)=((El (Bu x l):Nat):Int) by omega];exact ED (by omega)
     rw[aX,cH] at a9;have mt:Mod (λc=>c=t) C aj:=bP.trans cG;have cI:=mt.ag bH (by omega);rw[<- w];refine ap (ns.take a++⟨f.size,x,i⟩::ns.drop a) aj ⟨⟨gX nx k ⟨f.size,0,none⟩ i a,⟨?_,λq z h=>?_,?_⟩,?_⟩,?_,be,bf⟩ ?_ λb u=>?_
     ·rw[a9,Xo (g:=gX nx k ⟨f.size,0,none⟩ i a 0) (λB=>?_)];simp[gX]
     ·rw[vY cf] at h;split at h
      ·rename_i cJ;have A:=J.node q z h;refine⟨?_,A.2⟩;rw[mt.ag A.1 A.2,Kn (g:=gX nx k ⟨f.size,0,none⟩ i a (q+1)) (λB=>?_)];unfold gX;rw[if_pos (by omega)]
      ·rename_i cJ;split at h
       ·rename_i bS;subst bS;cases h;refine⟨?_,by grind⟩;show aj[f.size]? =_;rw[cI,Kn (g:=gX nx k ⟨f.size,0,none⟩ i q (q+1)) (λB=>?_)];unfold gX
        grind
       ·rename_i bS;obtain⟨ak,rfl⟩: ∃ak,q=ak+1:=⟨q-1,by omega⟩;rw[MY] at h;have A:=J.node ak z h;refine⟨?_,A.2⟩;rw[mt.ag A.1 A.2,Kn (g:=gX nx k ⟨f.size,0,none⟩ i a (ak+1+1)) (λB=>?_)];unfold gX
        grind
     ·have e:=J.apart;have bT: ∀z∈ns,z.ag≠f.size:=λz h o=>by have:=a5 z.ag (.inr ⟨z,h,rfl⟩);omega
      rw[<- DO a ns] at e;rw[List.pairwise_append] at e ⊢;refine⟨e.1,List.pairwise_cons.2 ⟨λz h=>λo=>bT z (Hj h) o.symm,e.2.1⟩,λd n z h=>?_⟩;rcases List.mem_cons.1 h with rfl|h
      ·exact bT d (Cd n)
      ·exact e.2.2 d n z h
     ·have:=D.insert (key:=x.key) r (x:=⟨f.size,x,i⟩) ⟨cu,cv⟩;rw[aT] at this;exact this
     ·show(ns.take a++⟨f.size,x,i⟩::ns.drop a).map (·.pr)=_;have:(ns.map (·.pr))=l:=L;rw[Q,<-this];simp[List.map_take,List.map_drop]
     ·have M:Mod (λc=>cY t ns c\/c=f.size) f aj:=(ah.mod.trans R).trans (mt.aj λc _ j=>by subst j;exact .inl bQ);exact aS.mod.then (M.aj λc _ j=>j.elim .inl λe=> .inr (by have:=aS.size;omega))
     ·rcases u with rfl|⟨z,h,rfl⟩
      ·exact .inl (.inl rfl)
      ·rw[HW,HS] at h;rcases h with h|rfl|h
       ·exact .inl (.inr ⟨z,Cd h,rfl⟩)
       ·grind
       ·exact .inl (.inr ⟨z,Hj h,rfl⟩)))
   cases n:ns[a]? with
   |none=>
    refine af.no rfl (bD ?_);rw[Y,n]
   |some d=>
    refine af.yes rfl ?_;refine AJ.mk (y.pair n).1 (AJ.mk (AL G rfl) ?_);rw[Cn];by_cases E:d.pr.key=x.key
    ·rw[decide_eq_true E];exact ch d n E
    ·rw[decide_eq_false E];exact bD (by grind)))
  refine AJ.mk (AL u rfl) ?_;refine af.intro (λr=>?_) (λr=>?_)
  ·exact ay (by simp at r;simp;omega)
  ·refine AJ.mk (AB u rfl) ?_;simp at r;cases U:decide ((x.val.size:Int)>(8192:Int))
   ·exact bV (by simp at U;simp;omega)
   ·exact ay (by simp at U;simp;omega)))
 refine af.no rfl ?_;refine AJ.mk (AL u rfl) ?_;rw[Cn];refine af.intro (λr=>?_) (λr=>?_)
 ·exact aw (by simp at r;simp[r])
 ·refine AZ.mk (AB u rfl) ?_;simp at r;refine af.intro (λam=>?_) (λam=>?_)
  ·refine AJ.mk (AB u rfl) ?_;rw[Cn];cases U:(!decide (x.val=⟨#[]⟩))
   ·exact bc (by simp[r,am,U])
   ·exact aw (by simp[r,am,U])
  ·exact bc (by simp[r,am])
theorem ta {c:al}{a:aa}{t:Nat}{ns:List DT}{l:List Pr}{b:A2L}(T:dh a t ns l)(d:b (J1 #[J6 J9 (l.length:Int),J6 J9 (El l:Int)]) a):AA c P Kb #[J5 (some ⟨t,0,none⟩)] a b:=by obtain⟨nx,L,_⟩:=T.lay;refine AAp ?_;unfold TJ;refine af.no rfl ?_;exact AC.mk (AB L.head mF.1) (AC.mk (AB L.head mF.2) d)
def Uv:Pr:=⟨⟨#[]⟩,⟨#[]⟩,false⟩
def NZ(key:A2M)(l:List Pr):Pr×Bool:=match l[aM key l]? with|some a=>if a.key=key then(a,true) else(Uv,false)|none=>(Uv,false)
theorem three {a:aa}{b:Nat}{T:Q7}{j c1 c2:J0}{f v:A2M}{g:Bool}{K:aa->Prop}(k:a[b]? =some (J2 #[j,c1,c2] T (0,0)))
  (l: ∀d,d[b]? =some (J2 #[J7 f,J7 v,J3 g] T (0,0))->Mod (λc=>c=b) a d->K d):
  ae a ⟨b,0,none⟩ (J7 f) λh=>ae h ((⟨b,0,none⟩:Q6).add 1) (J7 v) λi=>ae i ((⟨b,0,none⟩:Q6).add 2) (J3 g) λe=>K e:=by
 refine ae.mk k (by simp) λh m n s=>?_
 rw[Bf,Bf];refine ae.mk m (by simp) λi o p t=>?_
 refine ae.mk o (by simp) λe q r u=>?_
 exact l e (by simpa using q) ((n.trans p).trans r)
theorem vZ {c d:aa}{t:Nat}{ns:List DT}{nx:Nat->Nat->Q2}{g h:Int}{key:A2M}{a:Nat->Nat}(L:Lay c t ns nx g h)(K:kZ ns nx)(e: ∀i,i<12->Vd ns key i (a i))(x:Ext c d):
  ah d (((addrAt t ns (a 0)).add 3).add (0*1))=some (J5 ((ns[aM key (bY ns)]?).map λj=>⟨j.ag,0,none⟩)):=by
 have b:=gW.zero K.ht (e 0 (by omega));have f:=Yj key ns;have k:=(L.ext x).next (p:=a 0) (i:=0) (by rw[b];exact f) (by omega);rw[k,K.link (a 0) 0 (by rw[b];exact f) (by omega) (e 0 (by omega)).ht,b,Sw K.ht]
theorem AQm {z:al}{d:aa}{t:Nat}{ns:List DT}{l:List Pr}{key:A2M}{m:A2L}(T:dh d t ns l)(A: ∀r,Ext d r->m (J1 #[(NZ key l).1.agg,J3 (NZ key l).2]) r):
  AA z P Nk #[J5 (some ⟨t,0,none⟩),J7 key] d m:=by
 obtain⟨nx,L,s⟩:=T.lay;refine AAG ?_;unfold TK;refine ao.mk λI _ B n J=>af.no rfl ?_
 have C:Sorted (bY ns):=by rw[T.bY];exact T.sorted
 refine qU (L.ext n) s C λM o D p=>⟨_,_,_,_,_,_,_,_,_,_,_,_,rfl,?_⟩
 refine aD ⟨by omega,AY.mk (vZ (L.ext n) s D p) ?_⟩;have u:=p.ag B (by simp);have v:Ext d o:=n.trans p;have E:=L.ext v;have ah:NZ key l=match ns[aM key (bY ns)]? with|some f=>if f.pr.key=key then(f.pr,true) else(Uv,false)|none=>(Uv,false):=by unfold NZ;rw[<- T.bY];rw[show bY ns=ns.map (·.pr) from rfl,Cl];cases ns[aM key (ns.map (·.pr))]? <;>rfl
 have w: ∀(g:Pr) (b:Bool) a,a[d.size]? =some (J2 #[J7 g.key,J7 g.val,J3 g.gone] AQ (0,0))->Mod (λc=>c=d.size) o a->NZ key l=(g,b)->
   (AJ a (⟨d.size,0,none⟩:Q6) λF=>AJ a ((⟨d.size,0,none⟩:Q6).add 1) λG=>AZ a ((⟨d.size,0,none⟩:Q6).add 2) λH=>m (J1 #[.agg #[J7 F,J7 G,J3 H],J3 b]) a):=λg b a e h q=>by
  refine AJ.mk (AL e rfl) (AJ.mk (AB e rfl) (AZ.mk (AB e rfl) ?_));have:=A a (v.then (h.aj λc _ N=> .inr (by omega)));rw[q] at this;exact this
 refine ai.mk λK x=>?_
 have y:NZ key l=(Uv,false)->K (false,()) o:=λq=>x _ _ (af.no rfl (three u λa e h=>w Uv false a e h q))
 cases i:ns[aM key (bY ns)]? with
 |none=>
  rw[i] at ah;exact af.no rfl (y ah)
 |some f=>
  rw[i] at ah;refine af.yes rfl (aD ?_);have j:=E.pair i;refine AJ.mk j.1 ?_;rw[Cn];by_cases k:f.pr.key=key
  ·rw[decide_eq_true k];refine x _ _ (af.yes rfl ?_);rw[i];refine aD (AJ.mk j.1 (AJ.mk j.2.1 (AZ.mk j.2.2 ?_)));simp only[k,if_true] at ah;exact three u λa e h=>w f.pr true a e h ah
  ·rw[decide_eq_false k];simp only[k,if_false] at ah;exact y ah
theorem sT {a c b:J0}:(#[]++ #[a]++ #[c,b]:Array J0)= #[a,c,b]:=rfl
theorem AQD {A:al}{s:aa}{b c t:Nat}{T U:Q7}{fr V:Nat×Nat}{ns:List DT}{l:List Pr}{key:A2M}(f:s[b]? =some (J2 #[J5 (some ⟨t,0,none⟩)] T fr))(I:s[c]? =some (J2 #[J7 key] U V))(j:dh s t ns l):
  EY A P (.func (.func Kr) #[] #[J5 (some ⟨b,0,none⟩),J5 (some ⟨c,0,none⟩)]) (λe=>cY t ns e\/e=b\/e=c) s (l.drop (aM key l)):=by
 refine⟨?_,_,_,rfl,λW=>by kernel_rfl,λd u W X k h hd hB Y Z=>?_⟩
 ·rintro e (hd|rfl|rfl)
  ·exact j.lt hd
  ·exact Aj f
  ·exact Aj I
 rw[sT];refine WF ?_;unfold PS;have J:=(u b (.inr (.inl rfl))).trans f;have ab:=(u c (.inr (.inr rfl))).trans I;obtain⟨nx,v,o⟩:=j.lay;have L:Lay d t ns nx (l.length:Int) (El l:Int):=
  ⟨(u t (.inl (.inl rfl))).trans v.head,λa x z=>⟨(u x.ag (.inl (.inr ⟨x,AM z,rfl⟩))).trans (v.node a x z).1,(v.node a x z).2⟩,v.apart⟩
 have M: ∀e,cY t ns e-> ¬k e:=λe ac=>hd e (.inl ac)
 refine AY.mk (AL J rfl) (af.no rfl (AY.mk (AL J rfl) (AJ.mk (AL ab rfl) ?_)));have ad:Sorted (bY ns):=by rw[j.bY];exact j.sorted
 refine qU L o ad λap ae q B=>⟨_,_,_,_,_,_,_,_,_,_,_,_,rfl,?_⟩
 refine aD ⟨by omega,AY.mk (vZ L o q B) ?_⟩;have ag:aM key (bY ns)=aM key l:=by rw[j.bY]
 have aq:=nB key l;have ar:ns.length=l.length:=by rw[<- j.bY];simp
 rw[ag];have ai:=hB.bj _ _ _ _ _ Z (B.aj (S':=λb=>¬k b/\d.size<=b) λ_ _ d=>d.elim);refine Loop.rule (λm x w=> ∃(a:Nat) (r:Nat->Prop),x=((ns[aM key l+a]?).map λn=>(⟨n.ag,0,none⟩:Q6),())/\m=l.length-(aM key l+a)/\aM key l+a<=l.length/\Mod k d w/\(∀ b,r b->k b\/d.size<=b)/\X a true r w) ?_
  ⟨0,k,rfl,rfl,by omega,B.mod,λb f=> .inl f,ai⟩
 rintro K m _ w ⟨a,r,rfl,rfl,au,y,C,N⟩ aj;have D:(l.drop (aM key l)).length=l.length-aM key l:=by simp
 cases h:ns[aM key l+a]? with
 |none=>
  have:=List.getElem?_eq_none_iff.1 h;refine af.no rfl ?_;exact⟨rfl,a,true,r,y,C,N,λ_=>by rw[D];omega,by rw[D];omega⟩
 |some n=>
  have av:=(List.getElem?_eq_some_iff.1 h).1;have E:=(L.mod y M).pair h;refine af.yes rfl (aD (AJ.mk E.1 (AJ.mk E.2.1 (AZ.mk E.2.2 ?_))));have ah:(l.drop (aM key l))[a]? =some n.pr:=by
   rw[C5];have O:(bY ns)[aM key l+a]? =some n.pr:=by rw[show bY ns=ns.map (·.pr) from rfl,Cl,h];rfl
   rw[j.bY] at O;exact O
  refine Em.mono (Y a n.pr r w ah N) ?_;rintro _ ak ⟨g,F,rfl,am,an,Q⟩;have aw:=y.size;have R: ∀b,F b->k b\/d.size<=b:=λb f=>(am b f).elim (C b) λae=> .inr (by omega)
  have G:Mod k d ak:=y.then (an.aj λb _ f=>C b f);refine⟨g,rfl,af.intro (λq=>?_) (λq=>?_)⟩
  ·have H:g=false:=by simpa using q
   subst H;exact⟨rfl,a+1,false,F,G,R,Q,(λd=>by cases d),by rw[D];omega⟩
  ·have H:g=true:=by simpa using q
   subst H;refine aD ⟨by omega,?_⟩;have S:=(L.mod G M).next (p:=aM key l+a+1) (i:=0) (by omega) (by omega);have ao:addrAt t ns (aM key l+a+1)=⟨n.ag,0,none⟩:=by simp[addrAt,h]
   rw[ao,o.link _ 0 (by omega) (by omega) (by have:=(o.ht n (AM h)).1;simp[TS,h];omega),Sw o.ht] at S;refine AY.mk S ?_;exact aj (l.length-(aM key l+(a+1))) _ _ (by omega) ⟨a+1,F,rfl,rfl,by omega,G,R,Q⟩
theorem tc {A:al}{a:aa}{t:Nat}{ns:List DT}{l:List Pr}{key:A2M}{f:A2L}(T:dh a t ns l)
  (i: ∀fv d,EY A P fv (λb=>cY t ns b\/b=a.size\/b=a.size+1) d (l.drop (aM key l))->Ext a d->d.size=a.size+2->f fv d):AA A P Jg #[J5 (some ⟨t,0,none⟩),J7 key] a f:=by
 refine Y9 ?_;unfold Qh;refine ao.mk λp _ j k m=>ao.mk λg _ n h q=>?_
 have e:Ext a g:=k.trans h;have o:=AQD (A:=A) (h.ag j (by simp)) n (T.ext e) (key:=key);refine i _ g (o.aj ?_ ?_ (λc _=>rfl)) e (by omega)
 ·rintro b (hd|rfl|rfl)
  ·exact .inl hd
  ·exact .inr (.inl rfl)
  ·exact .inr (.inr m)
 ·rintro b (hd|rfl|rfl)
  ·exact(T.ext e).lt hd
  ·omega
  ·omega
theorem AN4(l:List Pr):aM ⟨#[]⟩ l=0:=by
 have: ∀x:A2M,aO x ⟨#[]⟩=false:=λx=>by
  have a:(⟨#[]⟩:A2M).toList= []:=by simp[ByteArray.toList_eq]
  unfold aO;rw[a];cases x.toList<;>rfl
 cases l with
 |nil=>rfl
 |cons x l=>simp[aM,iq,this]
theorem sU(l:List Pr):l.drop (aM ⟨#[]⟩ l)=l:=by rw[AN4];rfl
def qb:Pr:=⟨⟨#[98]⟩,⟨#[49]⟩,false⟩
end Go.Lf.G.M
namespace Go.Lf.G
open Go
open M (aM Ad Sorted BL)
theorem AS4(a b:A2M):(!(aO a b||bR a b))=aO b a:=by
 cases e:aO b a with
 |true=>
  have c:aO a b=false:=by grind [aO,Da,CY]
  have d:bR a b=false:=by
   rw[Cn,decide_eq_false_iff_not]
   grind
  rw[c,d];rfl
 |false=>
  grind [aO,OP,Cn]
theorem AHW {a b c:A2M}(d:aO a b=true)(e:aO c b=false):aO a c=true:=by grind [aO,Da,OP]
theorem mX {l:List Pr}(c:Sorted l){i a:Nat}{p b:Pr}(d:l[i]? =some p)(e:l[a]? =some b)(f:i<a):aO p.key b.key=true:=by obtain⟨g,rfl⟩:=List.getElem?_eq_some_iff.1 d;obtain⟨h,rfl⟩:=List.getElem?_eq_some_iff.1 e;exact List.pairwise_iff_getElem.1 c _ _ g h f
structure zG (l:List Pr) (key:A2M) (B:Nat):Prop where
 lt:B<Br l
 below: ∀(x:Nat) (p:Pr),x<8*B->l[x]? =some p->aO p.key key=true
 there: ∀(x:Nat) (p:Pr),l[x]? =some p->p.key=key->8*B<=x/\x<8*B+8
theorem ASq {l:List Pr}{key:A2M}{b:Nat}(j:Sorted l)(k:l≠ [])(t:b<=Br l)(m: ∀a,a<b->aO key (JD l (8*a))=false)(n:b<Br l->aO key (JD l (8*b))=true):zG l key (b-1):=by
 have u:=xf k;have ah: ∀a,a<Br l-> ∃d,l[8*a]? =some d/\JD l (8*a)=d.key:=by grind [Br,List.getElem?_eq_getElem,JD]
 have o: ∀(x:Nat) (p:Pr),x<8*(b-1)->l[x]? =some p->aO p.key key=true:=by intro x p h e;obtain⟨d,f,g⟩:=ah (b-1) (by omega);have c:=mX j e f h;have:=m (b-1) (by omega);rw[g] at this;exact AHW c this
 refine⟨by omega,o,λx p e g=>⟨?_,?_⟩⟩
 ·grind [Nat.le_of_not_lt,CY]
 ·apply Nat.lt_of_not_le;intro h;have v:=(List.getElem?_eq_some_iff.1 e).1;have step: ∀a,8*a<=x->a<Br l->aO key (JD l (8*a))=true->False:=by
   intro a w q c;obtain⟨d,f,r⟩:=ah a q;rw[r] at c;rcases FF (8*a) x with s|s
   ·grind [mX,Da,CY]
   ·have:8*a=x:=by omega
    rw[this,e] at f;cases f;rw[g,CY] at c;cases c
  have i:b<Br l:=by unfold Br;omega
  exact step b (by omega) i (n i)
theorem AQ9 {i a:Nat}(b:i+a<=2*1099511627776):J8 J9 ((J8 .u64 (J8 J9 (((i:Nat):Int)+((a:Nat):Int)))).fdiv ((2:Int)^(1:Nat)))=(((i+a) / 2:Nat):Int):=by rw[show((i:Nat):Int)+((a:Nat):Int)=((i+a:Nat):Int) by omega,ED (by omega),Bt (by omega),Qu,ED (by omega)]
theorem ANg {n:al}{f:aa}{fv:J0}{c:Nat}{p:Nat->Bool}{o:A2L}(C:c<=1099511627776)(D: ∀i b,i<=b->b<c->p i=true->p b=true)
  (y: ∀i d,i<c->Ext f d->Em n P fv #[J6 J9 (i:Int)] d λv g=>v=J3 (p i)/\Ext d g)
  (z: ∀h g,h<=c->(∀ b,b<h->p b=false)->(h<c->p h=true)->Ext f g->o (J6 J9 (h:Int)) g):AA n P QC #[J6 J9 (c:Int),fv] f o:=by
 refine AC1 ?_;unfold XD;refine Loop.rule (λm x d=> ∃i b:Nat,x=((i:Int),(b:Int),())/\m=b-i/\i<=b/\b<=c/\(∀ a,a<i->p a=false)/\(b<c->p b=true)/\Ext f d) ?_ ⟨0,c,rfl,rfl,by omega,A0 _,λa A=>by omega,λf=>by omega,Mod.refl⟩;rintro K m _ d ⟨i,b,rfl,rfl,k,q,r,s,j⟩ t;dsimp only;refine af.intro (λl=>?_) (λl=>?_)
 ·have k:i<b:=by simp at l;omega
  rw[AQ9 (by omega)];refine ai.mk λE u=>?_
  have B:(i+b) / 2<c:=by omega
  refine Em.mono (y _ d B j) ?_;rintro v g ⟨rfl,w⟩;refine⟨_,rfl,af.intro (λe=>?_) (λe=>?_)⟩
  ·have e:p ((i+b) / 2)=false:=by simpa using e
   refine u _ _ ?_;dsimp only;rw[Ab (by omega)];refine t (b-((i+b) / 2+1)) _ _ (by omega) ⟨(i+b) / 2+1,b,rfl,rfl,by omega,q,λa A=>?_,s,j.trans w⟩
   grind
  ·have e:p ((i+b) / 2)=true:=by simpa using e
   refine u _ _ ?_;exact t ((i+b) / 2-i) _ _ (by omega) ⟨i,(i+b) / 2,rfl,rfl,by omega,by omega,r,λ_=>e,j.trans w⟩
 ·have k:i=b:=by simp at l;omega
  subst k;exact z i d q r s j
abbrev zH:Q8:=Iu
theorem zI {A:al}{h:aa}{t D k:Nat}{l:List Pr}{f:List UInt8}{key:A2M}{R:A2L}(T:bS h t l f D k)(c:hG (aI (aT l f)) l f)
  (E: ∀d q,zG l key q->Ext h d->R (J6 J9 (q:Int)) d):AA A P Gy #[Ar t,J7 key] h R:=by
 refine Un ?_;unfold Nu;refine ao.mk λe _ F G X=>ao.mk λY _ H r Z=>?_
 have u:=Ap r F;have w:=G.trans r;obtain⟨m,ab,x,y,ac,_,_⟩:=(T.ext w).at_;refine AY.mk (AL u rfl) (aD ?_);refine Aa.mk (s:=m) (AL x rfl) ?_;have I:m.len=Br l:=by rw[y.len,II]
 have ad:=c.many;have ae:Br l<=12501:=by unfold Br;omega
 rw[I];have z: ∀b,b<Br l-> ∃B,l[8*b]? =some B/\JD l (8*b)=B.key:=by
  intro b n;have:8*b<l.length:=by unfold Br at n;omega
  exact⟨l[8*b],A2 this,by unfold JD;simp_all⟩
 refine ANg (p:=λb=>aO key (JD l (8*b))) (by omega) (λi b af n C=>?_) (λi o k g=>?_) λj J K e L M=>⟨_,rfl,?_⟩
 ·rcases FF i b with h|h
  ·obtain⟨ag,N,O⟩:=z i (by omega);obtain⟨ah,Q,S⟩:=z b n;have:=mX c.inc N Q (by omega);rw[O] at C;rw[S];exact Da C this
  grind
 ·have U:=Em.func (A:=A) (P:=P) (f:=zH) (first:= #[]) (bW:= #[Ar h.size,Ar e.size]) (args:= #[J6 J9 (i:Int)]) (h:=o) (R:=λv d=>v=J3 (aO key (JD l (8*i)))/\Ext o d) (by kernel_rfl) ?_
  ·exact U
  ·show AA A P zH #[J6 J9 (i:Int),Ar h.size,Ar e.size] o _;refine SN ?_;unfold MI;refine aD (AY.mk (AL (Ap g u) rfl) (aD ?_));refine Aa.mk (s:=m) (AL (Ap g x) rfl) ?_;refine(y.ext g).idx (Rt k) λa ai V=>?_
   rw[As];refine AJ.mk V.str (aD ?_);refine AJ.mk (AL (Ap g H) rfl) ?_;rw[AS4];exact⟨rfl,Mod.refl⟩
 ·have W:(if((J8 J9 (((j:Nat):Int)-(1:Int))):Int)>0 then(J8 J9 (((j:Nat):Int)-(1:Int))) else 0)=((j-1:Nat):Int):=by grind [wrap_i64]
  rw[W];exact E J (j-1) (ASq c.inc c.ne K e L) (w.trans M)
def WC(key:A2M)(l:List Pr):Pr×Bool:=match Ad key l with|some a=>(a,true)|none=>(M.Uv,false)
theorem ART {l:List Pr}(f:Sorted l){p:Pr}(h:p∈l):Ad p.key l=some p:=by
 unfold Ad;cases g:l.find? λd=>decide (d.key=p.key) with
 |none=>
  grind
 |some d=>
  have b:=R0 g;have b:d.key=p.key:=of_decide_eq_true b;obtain⟨i,e⟩:=DE (Ly g);obtain⟨j,c⟩:=DE h;rcases Jx i j with a|a|a
  ·have:=mX f e c a;rw[b,CY] at this;cases this
  ·subst a;rw[e] at c;exact c
  ·have:=mX f c e a;rw[b,CY] at this;cases this
theorem zJ {l:List Pr}{key:A2M}(a: ∀p∈l,p.key≠key):Ad key l=none:=by simp_all [Ad,Hh]
theorem ARp {ab:al}{d:aa}{t ac D:Nat}{l:List Pr}{f:List UInt8}{key:A2M}{E:A2L}(T:bS d t l f ac D)(q:hG (aI (aT l f)) l f)(ad:key.size<=1099511627776)
  (ag: ∀J,Ext d J->E (J1 #[(WC key l).1.agg,J3 (WC key l).2]) J):AA ab P LY #[Ar t,J7 key] d E:=by
 refine Xl ?_;unfold Pz;refine ao.mk λL _ N w aQ=>?_
 have tail: ∀g x,Ext d g->g[d.size]? =some (J2 #[J7 ⟨#[]⟩,J7 ⟨#[]⟩,J3 false] AQ (0,0))-> ∀(h:Pr) (b:Bool),WC key l=(h,b)->x=Value.tuple #[.agg #[J7 h.key,J7 h.val,J3 h.gone],J3 b]->
   ∀ {r c1:A2M} {c2:Bool},r=h.key->c1=h.val->c2=h.gone->
   ae g (⟨d.size,0,none⟩:Q6) (J7 r) λO=>ae O ((⟨d.size,0,none⟩:Q6).add 1) (J7 c1) λQ=>ae Q ((⟨d.size,0,none⟩:Q6).add 2) (J3 c2) λj=>
    AJ j (⟨d.size,0,none⟩:Q6) λah=>AJ j ((⟨d.size,0,none⟩:Q6).add 1) λaj=>AZ j ((⟨d.size,0,none⟩:Q6).add 2) λak=>E (J1 #[.agg #[J7 ah,J7 aj,J3 ak],J3 b]) j:=by
  intro g x u am h b an aR r c1 c2 ap aq ar;subst ap aq ar;refine ae.mk am (by simp) λO au av aS=>?_
  rw[Bf,Bf];refine ae.mk au (by simp) λQ aw ax aU=>?_
  refine ae.mk aw (by simp) λj F ay aV=>?_
  refine AJ.mk (AL F rfl) (AJ.mk (AL F rfl) (AZ.mk (AL F rfl) ?_));have k:Ext d j:=⟨by have:=u.size;omega,λc az _=>(ay.get c (by have:=u.size;omega) (by omega)).trans ((ax.get c (by have:=u.size;omega) (by omega)).trans ((av.get c (by have:=u.size;omega) (by omega)).trans (u.get c az (λd=>d))))⟩;have:=ag j k;rw[an] at this;exact this
 refine ai.mk λK aA=>?_
 refine af.no rfl (aD ?_);obtain⟨aW,aC,G,aX,aE,_,_⟩:=(T.ext w).at_;refine AJ.mk (AB G rfl) ?_;refine zo ad ⟨_,rfl,?_⟩;rw[EJ];refine aA _ _ ?_;refine af.intro (λn=>?_) (λn=>?_)
 ·have n:gZ f key=false:=by simpa using n
  have H:Ad key l=none:=zJ λp v y=>by
   have:=q.has p v;rw[y,n] at this;cases this
  exact tail L _ w N M.Uv false (by unfold WC;rw[H]) rfl rfl rfl rfl
 ·refine aD (Aa.mk (s:=aC) (AB G rfl) ?_);refine zI (T.ext w) q λaY a hB z=>⟨_,rfl,AB (Ap z G) rfl,?_⟩
  have aF:((LJ l).map λb=>AX (BQ b))[a]? =some (AX (BQ (CK l a))):=by simp[LJ,hB.lt]
  refine(aE.ext z).idx aF λaZ a0 aG=>?_
  rw[As];refine AJ.mk aG.str ?_;have aH: ∀p∈CK l a,MG p:=λp v=>q.ok p (QA v)
  have a1:=RH q.ok hB.lt;refine sw aH (by omega) λps aJ R S a2=>⟨_,_,rfl,?_⟩
  have a3:ps.len=(CK l a).length:=R.len;have a4:=RA hB.lt;have U:=(w.trans z).trans S;have V:=Ap S (Ap z N);refine Loop.rule (λm x aK=> ∃e:Nat,x=((e:Int),())/\m=(CK l a).length-e/\e<=(CK l a).length/\(∀ i p,i<e->(CK l a)[i]? =some p->p.key≠key)/\Ext aJ aK) ?_ ⟨0,rfl,rfl,by omega,λi p D=>by omega,Mod.refl⟩;rintro a5 m _ aL ⟨e,rfl,rfl,a6,W,o⟩ aM;dsimp only;refine af.intro (λn=>?_) (λn=>?_)
  ·have A:e<(CK l a).length:=by grind
   have k:(CK l a)[e]? =some (CK l a)[e]:=A2 A;have X:(CK l a)[e]∈l:=QA (B9 A);generalize (CK l a)[e]=p at k X;refine(R.ext o).view.idx k λa7 a8 aN=>?_
   obtain⟨r,c1,c2⟩:=aN.pair;rw[As];refine AJ.mk r (AJ.mk c1 (AZ.mk c2 ?_));refine ao.pair λa9 aO ba B I bb=>?_
   refine AJ.mk (AL B rfl) ?_;refine af.intro (λC=>?_) (λC=>?_)
   ·rw[Cn,decide_eq_true_iff] at C;refine AJ.mk (AL B rfl) (AJ.mk (AB B rfl) (AZ.mk (AB B rfl) ?_));have Y:=ART q.inc X;rw[C] at Y;exact tail aO _ ((U.trans o).trans I) (Ap I (Ap o V)) p true (by unfold WC;rw[Y]) rfl rfl rfl rfl
   ·rw[Cn,decide_eq_false_iff_not] at C;rw[Ab (by omega)];refine aM ((CK l a).length-(e+1)) _ _ (by omega) ⟨e+1,rfl,rfl,A,λi h D aP=>?_,o.trans I⟩;by_cases bc:i=e
    ·grind
    ·exact W i h (by omega) aP
  ·have A:e=(CK l a).length:=by grind
   have H:Ad key l=none:=zJ λp v y=>by
    obtain⟨x,k⟩:=DE v;obtain⟨L,bd⟩:=hB.there x p k y;have Z:(CK l a)[x-8*a]? =some p:=by rw[Qg (by omega),show 8*a+(x-8*a)=x by omega];exact k
    have:=(List.getElem?_eq_some_iff.1 Z).1;exact W (x-8*a) p (by omega) Z y
   exact tail aL _ (U.trans o) (Ap o V) M.Uv false (by unfold WC;rw[H]) rfl rfl rfl rfl
theorem zK {key:A2M}{l:List Pr}(a:Sorted l){x:Nat}{p:Pr}(b:l[x]? =some p):x<aM key l↔aO p.key key=true:=M.pE a b
theorem AM7 {A:al}{y:aa}{b c t lo hi:Nat}{aW an:Q7}{l:List Pr}{f:List UInt8}{key:A2M}(r:y[b]? =some (J2 #[Ar t] aW (0,0)))(aX:y[c]? =some (J2 #[J7 key] an (0,0)))
  (T:bS y t l f lo hi) (bp:hi<=y.size) (z:hG (aI (aT l f)) l f):
  EY A P (.func (.func JK) #[] #[Ar b,Ar c]) (λe=>(lo<=e/\e<hi)\/e=b\/e=c) y (l.drop (aM key l)):=by
 refine⟨?_,_,_,rfl,λaY=>by kernel_rfl,λh W aY ap k bq hd hB aZ a0=>?_⟩
 ·grind
 rw[M.sT];refine TW ?_;unfold NN;have H:=(W b (.inr (.inl rfl))).trans r;have aq:=(W c (.inr (.inr rfl))).trans aX;have ar:bS h t l f lo hi:=by
  obtain⟨au,o,u,I,X,Y,av⟩:=T.at_;have aw: ∀ {s:Sl} {ax:List A2M},View Im y s ax->(∀ e,s.ag=some e->lo<=e/\e<hi)->View Im h s ax:=λv br=>⟨v.len,v.cap,λi x hi=>by
   obtain⟨a,a1,a2⟩:=v.cells i x hi;refine⟨a,a1,λj v ay=>?_⟩;rw[<- a2 j v ay]
   grind [Qw,aU,Sl.ag]⟩
  exact⟨⟨au,o,(W t (.inl T.fJ)).trans u,aw I Y,aw X av,Y,av⟩,T.fJ⟩
 have a3: ∀e,lo<=e->e<hi-> ¬k e:=λe u I=>hd e (.inl ⟨u,I⟩)
 obtain⟨au,o,az,bs,aA,bt,a4⟩:=ar.at_;refine aD (AY.mk (AL H rfl) (af.no rfl (aD (AY.mk (AL H rfl) (aD (Aa.mk (s:=o) (AB az rfl) (aD (AY.mk (AL H rfl) (aD (AJ.mk (AL aq rfl) ?_))))))))));refine zI ar z λu d aC J=>⟨_,rfl,AB (Ap J az) rfl,AL (Ap J H) rfl,?_⟩
 have aE:o.len=Br l:=by rw[aA.len];simp[JM]
 have bu:=aC.lt;refine⟨by rw[aE];omega,?_⟩;rw[As,aE];have bv:=M.nB key l;have bw:=z.many;have bx:Br l<=12501:=by unfold Br;omega
 have bz:8*d<=aM key l:=by
  apply Sf;intro L;have a5:aM key l<l.length:=by grind [Br]
  obtain⟨aF,B⟩: ∃aF,l[aM key l]? =some aF:=⟨_,A2 a5⟩;have u:=aC.below _ _ L B;have I:=(zK z.inc B).2 u;omega
 have Z:(l.drop (aM key l)).length=l.length-aM key l:=by simp
 have a6:=hB.bj _ _ _ _ _ a0 (J.aj (S':=λb=>¬k b/\h.size<=b) λ_ _ h=>h.elim);have a7:View Im h ⟨A7 o.p o.cap d 1,Br l-d,o.cap-d⟩ (((LJ l).map λb=>AX (BQ b)).drop d):=by have:=aA.sub (lo:=d) (hi:=Br l) (by omega) (by simp[JM]);rw[Ax (by simp[JM])] at this;exact this
 have a8: ∀e,Sl.ag ⟨A7 o.p o.cap d 1,Br l-d,o.cap-d⟩=some e-> ¬k e:=λe n=>by
  have:=a4 e (qS n);exact a3 e this.1 this.2
 refine Loop.rule (λm x ab=> ∃(i:Nat) (C:Nat->Prop),x=((i:Int),())/\m=Br l-d-i/\i<=Br l-d/\Mod k h ab/\(∀ b,C b->k b\/h.size<=b)/\ap (min (8*(d+i)) l.length-aM key l) true C ab) ?_
  ⟨0,k,rfl,rfl,by omega,J.mod,λb r=> .inl r,by
   have:min (8*(d+0)) l.length-aM key l=0:=by omega
   rw[this];exact a6⟩
 rintro K m _ ab ⟨i,C,rfl,rfl,hi,N,aG,E⟩ a9;dsimp only;refine af.intro (λF=>?_) (λF=>?_)
 ·have aH:i<Br l-d:=by simp at F;omega
  have O:d+i<Br l:=by omega
  have bA:8*(d+i)<l.length:=by unfold Br at O;omega
  have ba:(((LJ l).map λb=>AX (BQ b)).drop d)[i]? =some (AX (BQ (CK l (d+i)))):=by rw[C5];simp[LJ,O]
  refine(a7.mod N a8).idx ba λbB bC bb=>?_
  rw[As];refine AJ.mk bb.str ?_;have bc: ∀p∈CK l (d+i),MG p:=λp bd=>z.ok p (QA bd)
  have bD:=RH z.ok O;have bE:=RA O;refine sw bc (by omega) λps X ac aJ bF=>⟨_,_,rfl,?_⟩
  have bG:ps.len=(CK l (d+i)).length:=ac.len;have be:min (8*(d+i)) l.length=8*(d+i):=by omega
  rw[be] at E;have bH:=N.size;have bI:=hB.wf _ _ _ _ E;have bf:=hB.bj _ _ _ _ _ E (aJ.aj (S':=λb=>¬C b/\h.size<=b) λ_ _ h=>h.elim);have bg:Mod k h X:=N.trans aJ.mod;refine Loop.rule (λm x Q=> ∃(j:Nat) (q:Nat->Prop),x=((j:Int),())/\m=(CK l (d+i)).length-j/\j<=(CK l (d+i)).length/\Mod k h Q/\(∀ b,q b->k b\/h.size<=b)/\(∀ e,ps.ag=some e-> ¬q e/\e<Q.size)/\View BO Q ps (CK l (d+i))/\ap (8*(d+i)+j-aM key l) true q Q) ?_
   ⟨0,C,rfl,rfl,by omega,bg,aG,λe n=>⟨λh=>by grind,ac.lt n⟩,ac.view,bf⟩
  rintro bJ m _ Y ⟨j,q,rfl,rfl,ay,ad,R,D,ae,aK⟩ aL;dsimp only;refine af.intro (λF=>?_) (λF=>?_)
  ·have G:j<(CK l (d+i)).length:=by grind
   have B:(CK l (d+i))[j]? =some (CK l (d+i))[j]:=A2 G;have S:l[8*(d+i)+j]? =some (CK l (d+i))[j]:=by rw[<- Qg (by omega)];exact B
   generalize (CK l (d+i))[j]=p at B S;refine ae.idx B λbK bL bh=>?_
   obtain⟨bi,c1,c2⟩:=bh.pair;rw[As];refine AJ.mk bi (AJ.mk c1 (AZ.mk c2 ?_));refine ao.pair λbM ag bN U w bO=>?_
   have V:Mod k h ag:=ad.trans w.mod;have bP:=ad.size;have aN:=hB.bj _ _ _ _ _ aK (w.aj (S':=λb=>¬q b/\h.size<=b) λ_ _ h=>h.elim);have bj:ag[c]? =some (J2 #[J7 key] an (0,0)):=V.ag aq (hd c (.inr (.inr rfl)));refine ai.mk λbQ aP=>?_
   refine AJ.mk (AL U rfl) (aD (AJ.mk (AL bj rfl) ?_));have bR:=(List.getElem?_eq_some_iff.1 S).1;have bk:=zK (key:=key) z.inc S;refine af.intro (λL=>?_) (λL=>?_)
   ·have bm:aM key l<=8*(d+i)+j:=by grind
    refine AJ.mk (AL U rfl) (AJ.mk (AB U rfl) (AZ.mk (AB U rfl) ?_));have ah:(l.drop (aM key l))[8*(d+i)+j-aM key l]? =some p:=by rw[C5,show aM key l+(8*(d+i)+j-aM key l)=8*(d+i)+j by omega];exact S
    refine Em.mono (aZ _ p q ag ah aN) ?_;rintro _ bn ⟨g,aj,rfl,aQ,ak,aR⟩;have bT:=V.size;have aS: ∀b,aj b->k b\/h.size<=b:=λb r=>(aQ b r).elim (R b) λu=> .inr (by omega)
    have aV:Mod k h bn:=V.then (ak.aj λb _ r=>R b r);refine⟨g,rfl,aP _ _ ?_⟩;dsimp only;cases g with
    |false=>exact af.yes rfl ⟨rfl,_,false,aj,aV,aS,aR,(λh=>by cases h),by rw[Z];omega⟩
    |true=>
     refine af.no rfl ?_;rw[Ab (by omega)];refine aL ((CK l (d+i)).length-(j+1)) _ _ (by omega) ⟨j+1,aj,rfl,rfl,G,aV,aS,λe n=>⟨λh=>?_,by have:=D e n;have:=w.size;have:=ak.size;omega⟩,?_,?_⟩
     ·rcases aQ e h with h|h
      ·exact(D e n).1 h
      ·have:=(D e n).2;have:=w.size;omega
     ·exact(ae.ext w).mod ak λe n=>(D e n).1
     ·rw[show 8*(d+i)+(j+1)-aM key l=8*(d+i)+j-aM key l+1 by omega];exact aR
   ·have bo:aO p.key key=true:=by simpa using L
    have bm:=bk.2 bo;refine aP _ _ (af.no rfl ?_);rw[Ab (by omega)];refine aL ((CK l (d+i)).length-(j+1)) _ _ (by omega) ⟨j+1,q,rfl,rfl,G,V,R,λe n=>⟨(D e n).1,by have:=(D e n).2;have:=w.size;omega⟩,ae.ext w,?_⟩;rw[show 8*(d+i)+(j+1)-aM key l=8*(d+i)+j-aM key l by omega];exact aN
  ·have G:j=(CK l (d+i)).length:=by grind
   rw[Ab (by omega)];refine a9 (Br l-d-(i+1)) _ _ (by omega) ⟨i+1,q,rfl,rfl,by omega,ad,R,?_⟩;have am:min (8*(d+(i+1))) l.length=8*(d+i)+j:=by rw[G];unfold CK;rw[An,Cp];omega
   rw[am];exact aK
 ·have aH:i=Br l-d:=by simp at F;omega
  have am:min (8*(d+i)) l.length=l.length:=by rw[aH,show d+(Br l-d)=Br l by omega];unfold Br;omega
  rw[am] at E;exact⟨rfl,l.length-aM key l,true,C,N,aG,E,λ_=>Z.symm,by rw[Z];omega⟩
theorem zL {A:al}{a:aa}{t h e:Nat}{l:List Pr}{f:List UInt8}{key:A2M}{i:A2L}(T:bS a t l f h e)(s:e<=a.size)(m:hG (aI (aT l f)) l f)
  (n: ∀fv b,EY A P fv (λd=>(h<=d/\d<e)\/d=a.size\/d=a.size+1) b (l.drop (aM key l))->Ext a b->b.size=a.size+2->i fv b):AA A P IM #[Ar t,J7 key] a i:=by
 refine WB ?_;unfold PK;refine ao.mk λu _ o p v=>ao.mk λj _ q k w=>?_
 have g:Ext a j:=p.trans k;have r:=AM7 (A:=A) (Ap k o) q (T.ext g) (by have:=g.size;omega) m (key:=key);refine n _ j (r.aj ?_ ?_ (λc _=>rfl)) g (by omega)
 ·omega
 omega
def fT(l:List Fi)(a:A2M):Nat:=match Cb a l with|none=>0|some f=>f.bZ.size+f.soft.size
theorem zd {a:A2M}{f:Fi}{l:List Fi}:Cb a (f::l)=if f.name=a then some f else Cb a l:=by rw[Gl]
theorem sq(a:A2M): ∀l:List Fi,fT l a+ba (QO a l)<=ba l
 | []=>by simp[fT,Cb,QO,ba]
 |f::l=>by
  have h:=sq a l;have e:ba (f::l)=f.bZ.size+f.soft.size+1+ba l:=by simp[ba]
  by_cases b:f.name=a
  ·have c:fT (f::l) a=f.bZ.size+f.soft.size:=by unfold fT;rw[zd,if_pos b]
   have d:QO a (f::l)=QO a l:=by simp[QO,b]
   rw[c,d,e];omega
  ·have c:fT (f::l) a=fT l a:=by unfold fT;rw[zd,if_neg b]
   have d:QO a (f::l)=f::QO a l:=by simp[QO,b]
   have g:ba (f::QO a l)=f.bZ.size+f.soft.size+1+ba (QO a l):=by simp[ba]
   rw[c,d,g,e];omega
theorem ze: ∀(a:List A2M),a.Nodup-> ∀l:List Fi,(a.map (fT l)).sum<=ba l
 | [],_,l=>by simp
 |k::a,b,l=>by
  rw[List.nodup_cons] at b;have c:=ze a b.2 (QO k l);have d:a.map (fT (QO k l))=a.map (fT l):=CM λx e=>by
   unfold fT;rw[rE,if_neg (λf=>by subst f;exact b.1 e)]
  rw[d] at c;have:=sq k l;simp only[BW,GW];omega
def iW(m:Bx)(a:A2M)(b:Nat):A2M:=(FK m (aC a b)).1
noncomputable def TP (a:A2M) (m:Bx) (l:List Nat):List A2M:=l.flatMap λb=>(lq (bl (iW m a b))).map AX
theorem zg {m:Bx}(hd:m.down=false)(a:A2M):(FK m a).1.size=fT m.files a:=by
 unfold FK fT;rw[if_neg (by simp[hd])];cases Cb a m.files with
 |none=>rfl
 |some f=>simp[HA]
theorem sr {nm:A2M}{m:Bx}(hd:m.down=false){l:List Nat}(b:l.Pairwise (· < ·)):(TP nm m l).length<=ba m.files:=by
 have e:(TP nm m l).length<=((l.map (aC nm)).map (fT m.files)).sum:=by
  unfold TP;clear b
  induction l with
  |nil=>simp
  |cons f l d=>
   have g:=AHh (ry (bl (iW m nm f)));rw[BB,iW,zg hd] at g;simp only[AF,A1,AS,BW,GW] at d ⊢;unfold iW at d ⊢;omega
 refine AG e (ze _ ?_ _);refine List.pairwise_map.2 (b.imp λ{a c} i h=>?_);have:=Iz h;omega
theorem zi {R:al}{d:aa}{b:Nat}{S:Nat->Prop}{m:Bx}{nm:A2M}{w:A2L}(E:cy d)(D:Ce d b S m)(hd:m.down=false)(aw:0<nm.size)(F:nm.size<=8)(T:ba m.files<=8000000000000)
  (U: ∀g l,mV nm m l->l.getLast?.getD 0=99999999->Ext d g->w (J1 #[J5 none,J4 none 0 0,J6 J9 2]) g)
  (V: ∀g l r sl,mV nm m l->l.getLast?.getD 0≠99999999->Ext d g->d.size<=r->g[r]? =some (J2 #[Ar b,J7 nm,J6 J9 ((l.getLast?.getD 0+1:Nat):Int),J3 false] ra (0,0))->View Im g sl (TP nm m l)->
   (∀ c,sl.ag=some c->d.size<=c/\c≠r)->w (J1 #[Ar r,J4 sl.p sl.len sl.cap,J6 J9 0]) g):AA R P Ro #[Ar b,J7 nm] d w:=by
 refine AJg ?_;unfold vF;refine af.no rfl (ai.mk λK W=>?_);have X:bR nm (⟨#[]⟩:A2M)=false:=by rw[Cn,decide_eq_false_iff_not];rintro rfl;have:(⟨#[]⟩:A2M).size=0:=rfl;omega
 rw[X];refine af.no rfl (W _ _ (af.no (by simp;omega) ?_));refine za E D hd (by omega) T λG Y l h v2 o _=>⟨Y,_,rfl,af.no rfl ?_⟩
 have ax:l.length<=99999999:=by
  have Z: ∀(l:List Nat) (s:Nat),l.Pairwise (· < ·)->(∀ e∈l,s<e/\e<=99999999)->l.length+s<=99999999\/l= []:=by
   intro l
   induction l with
   |nil=>intro s _ _;exact .inr rfl
   |cons a l ab=>
    intro s y H;rw[Rr] at y;have ay:=H a (by simp);rcases ab a y.2 (λe t=>⟨y.1 e t,(H e (AH _ t)).2⟩) with d|d
    ·left;simp only[A6];omega
    ·subst d;left;simp;omega
  rcases Z l 0 h.inc (λe t=>by have:=(h.mem e).1 t;omega) with d|d
  ·omega
  ·subst d;simp
 refine Loop.rule (λI x p=> ∃(i:Nat) (sl:Sl),x=(sl,(((l.take i).getLast?.getD 0:Nat):Int),(i:Int),())/\Ext G p/\Own Im BK p sl (TP nm m (l.take i))/\(∀ c,sl.ag=some c->G.size<=c)/\i<=l.length/\I=l.length-i) ?_
  ⟨0,⟨none,0,0⟩,rfl,Mod.refl,Own.nil,λc n=>by simp[Sl.ag] at n,A5 _,rfl⟩
 rintro az I _ p ⟨i,sl,rfl,j,u,f,aA,rfl⟩ ac;have J:(l.map λe:Nat=>(e:Int)).length=l.length:=AS ..;rw[v2.len,J];refine af.intro (λz=>?_) (λz=>?_)
 ·have q:i<l.length:=by simpa using z
  have ah:l[i]? =some l[i]:=A2 q;have ad:l[i]∈l:=B9 q;obtain⟨aD,aE,L⟩:=(h.mem l[i]).1 ad;have M:l.take (i+1)=l.take i++ [l[i]]:=by rw[AD,ah];rfl
  have ae:(l.take (i+1)).getLast?.getD 0=l[i]:=by rw[M,SO];rfl
  have N:TP nm m (l.take (i+1))=TP nm m (l.take i)++(lq (bl (iW m nm l[i]))).map AX:=by rw[M];unfold TP;rw[Ft];simp
  have A:=sr (nm:=nm) (m:=m) hd (l:=l.take (i+1)) (h.inc.sublist (List.take_sublist _ _));rw[N,A1,AS] at A;rw[<- J,<-v2.len];refine(v2.ext j).idx (i:=i) (x:=(l[i]:Int)) (by rw[Cl,ah];rfl) λa _ c=>?_
  refine AC.mk c.int ?_;have O:=o.trans j;refine Yv (E.ext O) (by omega) (by omega) λaF v=>⟨_,rfl,?_⟩
  refine Yi ((D.ext O).ext v) ⟨_,_,rfl,?_⟩;have ag:(FK m (aC nm l[i])).2=0:=by
   unfold FK;rw[if_neg (by simp[hd])];cases aj:Cb (aC nm l[i]) m.files with
   |none=>rw[aj] at L;cases L
   |some f=>rfl
  rw[ag];refine af.no rfl ?_;have ak:(FK m (aC nm l[i])).1.size<=8000000000000:=by rw[zg hd];have:=sq (aC nm l[i]) m.files;omega
  refine APn ak λaG am aH B an=>⟨am,_,rfl,?_⟩
  refine GJ (E:=Im) yX ((u.ext v).ext B) an (by rw[AS];unfold iW at A;omega) (by rw[AS];unfold iW at A;simp[maxLen];omega) λap aI aq ar au aJ=>?_
  dsimp only;rw[Ab (by omega)];refine ac (l.length-(i+1)) _ _ (by omega) ⟨i+1,ap,?_,((j.trans v).trans B).more ar f,?_,λc n=>?_,q,rfl⟩
  ·rw[ae]
  ·rw[N];exact aq
  ·rcases au c n with d|d
   ·exact f c d
   ·have:=j.size;have:=v.size;have:=B.size;omega
 ·have q:i=l.length:=by simp at z;omega
  subst q;rw[Bm] at u ⊢;refine af.intro (λk=>?_) (λk=>?_)
  ·have k:l.getLast?.getD 0=99999999:=by simp at k;omega
   exact U p l h k (o.trans j)
  ·have k:l.getLast?.getD 0≠99999999:=by simp at k;omega
   have aK:l.getLast?.getD 0<=99999999:=by
    cases av:l.getLast? with
    |none=>simp
    |some e=>
     have:=(h.mem e).1 (SP av);simp;omega
   refine ao.mk λF _ C Q aL=>?_
   dsimp only at C ⊢;rw[Ab (by omega)] at C;refine V F l p.size sl h k ((o.trans j).trans Q) (by have:=o.size;have:=j.size;omega) C (u.ext Q).view λc n=>by have:=f c n;have:=o.size;have:=u.lt n;omega
def Ed(a:aa)(c b:Nat)(d:A2M)(e:Nat)(made:Bool):Prop:=a[c]? =some (J2 #[Ar b,J7 d,J6 J9 (e:Int),J3 made] ra (0,0))
theorem Ed.mod {c d:aa}{a b:Nat}{e:A2M}{f:Nat}{made:Bool}{g:Nat->Prop}(L:Ed c a b e f made)(x:Mod g c d)(h: ¬g a):Ed d a b e f made:=x.ag L h
theorem Ed.ext {a c:aa}{d b:Nat}{e:A2M}{f:Nat}{made:Bool}(L:Ed a d b e f made)(x:Ext a c):Ed c d b e f made:=x.ag L (λa=>a)
theorem zj {r:al}{a:aa}{d b e:Nat}{f rec:A2M}{made:Bool}{i:Nat->Prop}{m:Bx}{s:A2L}(G:cy a)(L:Ed a d b f e made)(H:Ce a b i m)(t: ¬i d)(W: ∀j,Mod i a j->cy j)(I:f.size<=1099511627776)(J:e<=4294967295)(K:rec.size<=1048576)(X:ba m.files<=8000000000000)
  (u: ∀j S',Ce j b S' (CS m (aC f e) (AX (Ca (bl rec)))).2->Ed j d b f e (made||decide ((CS m (aC f e) (AX (Ca (bl rec)))).1=0))->Mod (λc=>i c\/c=d) a j->(∀ c,S' c->i c\/(a.size<=c/\c≠d))->s (J6 J9 (CS m (aC f e) (AX (Ca (bl rec)))).1) j):
  AA r P Jq #[Ar d,J7 rec] a s:=by
 refine Yd ?_;unfold Qp;refine af.no rfl ?_;have Y:=Aj L;have M:(bl rec).length<=1048576:=by rw[BB];exact K
 have N:=Jh M;rw[BB] at N;have O:rec=AX (bl rec):=(Le rec).symm;have Q:AA r P Fy #[J7 rec] a λv l=> ∃w:A2M,∃x:Int,v=J1 #[J7 w,J6 J9 x]/\(w=AX (Ca (bl rec))/\x=0/\Ext a l):=by
  rw[O];refine Yg (by rw[Le] at *;omega) (λl=>by rw[Le] at *;omega) λ_ l k=>⟨_,_,rfl,?_,rfl,k⟩
  rw[Le]
 refine AA.mono Q ?_;rintro v l ⟨Z,ab,rfl,rfl,rfl,k⟩;refine⟨_,_,rfl,af.no rfl ?_⟩;have p:=L.ext k;refine aD (AY.mk (AL p rfl) (aD (AJ.mk (AB p rfl) (aD (AC.mk (AB p rfl) ?_)))));refine Yv (G.ext k) J I λac R=>⟨_,rfl,?_⟩
 have n:=k.trans R;have y:=L.ext n;refine⟨AL y rfl,?_⟩;refine Xt (H.ext n) (by rw[AP];omega) λq o z A B=>⟨_,rfl,?_⟩
 have C:Ed q d b f e made:=y.mod A t;have ad:=n.size;have D: ∀c,o c->i c\/(a.size<=c/\c≠d):=λc g=>(B c g).imp id λa=>⟨by omega,by omega⟩
 have E:Mod (λc=>i c\/c=d) a q:=(Ext.mod n).trans (A.aj λc _ g=> .inl g);refine af.intro (λh=>?_) (λh=>?_)
 ·have h:(CS m (aC f e) (AX (Ca (bl rec)))).1≠0:=by simpa using h
  exact u q o z (by rw[decide_eq_false h,Bool.or_false];exact C) E D
 ·have h:(CS m (aC f e) (AX (Ca (bl rec)))).1=0:=by simpa using h
  refine aD (ae.dw C (by simp) λS T F ag=>?_);have U: ¬o d:=λg=>by rcases B d g with a|a;exact t a;omega
  have:=u S o (z.mod F λc g V=>U (V▸g)) (by rw[decide_eq_true h,HL];simpa [Ed] using T) (E.then (F.aj λc _ g=> .inl (.inr g))) D;rw[h] at this;exact this
def NS(m:Bx)(a:A2M)(made:Bool):Int×Bx:=if made then FY m a else(0,m)
theorem zk {n:al}{a:aa}{e b c:Nat}{d:A2M}{made:Bool}{f:Nat->Prop}{m:Bx}{i:A2L}(o:cy a)(L:Ed a e b d c made)(j:Ce a b f m)(p: ¬f e)(q:d.size<=1099511627776)(r:c<=4294967295)
  (k: ∀g,Ce g b f (NS m (aC d c) made).2->Ed g e b d c made->Mod f a g->i (J6 J9 (NS m (aC d c) made).1) g):
  AA n P Lj #[Ar e] a i:=by
 refine ABz ?_;unfold Uy;refine af.no rfl (aD (AZ.mk (AB L rfl) ?_));cases made with
 |false=>exact af.yes rfl (k a j L Mod.refl)
 |true=>
  refine af.no rfl (aD (AY.mk (AL L rfl) (aD (AJ.mk (AB L rfl) (aD (AC.mk (AB L rfl) ?_))))));refine Yv o r q λu h=>⟨_,rfl,⟨AL (L.ext h) rfl,?_⟩⟩
  refine pL (j.ext h) λs t l=>⟨_,rfl,?_⟩
  exact k s t ((L.ext h).mod l p) ((Ext.mod h).trans l)
theorem XR {u:al}{g:aa}{f b a:Nat}{d:A2M}{made:Bool}{h:Nat->Prop}{m:Bx}{k:A2L}(v:cy g)(L:Ed g f b d a made)(w:Ce g b h m)(o: ¬h f)(x:d.size<=1099511627776)(F:a<99999999)
  (y:(NS m (aC d a) made).1≠0-> ∀e,Ce e b h (NS m (aC d a) made).2->Ed e f b d a made->Mod h g e->k (J1 #[J6 J9 0,J6 J9 (NS m (aC d a) made).1]) e)
  (z:(NS m (aC d a) made).1=0-> ∀e,Ce e b h (NS m (aC d a) made).2->Ed e f b d (a+1) false->Mod (λc=>h c\/c=f) g e->k (J1 #[J6 J9 (a:Int),J6 J9 0]) e):
  AA u P HY #[Ar f] g k:=by
 refine Yk ?_;unfold RL;refine af.no rfl (aD (AC.mk (AB L rfl) (af.no (by simp;omega) ?_)));refine zk v L w o x (by omega) λA p l q=>⟨_,rfl,?_⟩
 refine af.intro (λi=>?_) (λi=>?_)
 ·exact y (by simpa using i) A p l q
 ·have i:(NS m (aC d a) made).1=0:=by simpa using i
  refine aD (AC.mk (AB l rfl) ?_);rw[Ab (by omega)];refine aD (ae.dw l (by simp) λG B C H=>?_);refine aD (ae.dw B (by simp) λr D E I=>?_);have s:Ed r f b d (a+1) false:=by simpa [Ed] using D
  refine aD (AC.mk (AB s rfl) ?_);have n:J8 J9 (((a+1:Nat):Int)-1)=(a:Int):=by rw[wrap_i64 (by omega) (by omega)];omega
  rw[n];have t:=C.trans E;exact z i r (p.mod t λc j n=>o (n▸j)) s ((q.aj λc _ j=> .inl j).trans (t.aj λc _ j=> .inr j))
end Go.Lf.G
