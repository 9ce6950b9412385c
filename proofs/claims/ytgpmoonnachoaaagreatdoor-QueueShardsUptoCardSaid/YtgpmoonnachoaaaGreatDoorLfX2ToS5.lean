/-
 Contracts: frames scanned, a log's segments, a log opened (chapters 2 and 4).
-/
import Derived.Test.YtgpmoonnachoaaaGreatDoorLfU2ToS3
import Derived.Test.YtgpmoonnachoaaaGreatDoorLfG1
import Derived.Laws.StructEq
import Derived.ChangeKeysEq
set_option maxRecDepth 100000
set_option linter.unusedVariables false
set_option linter.unusedSimpArgs false
open Go.IntKind renaming i64→J9,wrap→J8
open Go.Value renaming string→J7,int→J6,pointer→J5,slice→J4,bool→J3,tuple→J1
open Go.Obj renaming cells→J2
open Go renaming Value→J0,Addr→Q6,TypeId→Q7,FuncId→Q8,Program→Q1
open Go.Addr renaming add→Q9,mk→Q5
namespace Go.Lf.G
open Go
theorem yz:QE P CK BC IW.w 16=true:=by kernel_rfl
theorem rA:QE P DJ Bp IJ.w 8=true:=by kernel_rfl
theorem AHR {l:List UInt8}{b:List (List UInt8)}(a:NS l b):b.length<=l.length:=by
 induction a with
 |stop a=>exact An _
 |step a s c=>have:=Zz a;simp only[A5];omega
theorem APc {p:ar}{a:aa}{s:A2P}{k:A2O}(A:s.size<=8000000000000)
  (q: ∀e sl r,Ext a e->View IW e sl ((kU (bl s)).map AX)->k (J1 #[J4 sl.p sl.len sl.cap,J6 J9 r]) e):AA p P LK #[J7 s] a k:=by
 refine WG ?_;unfold Rc;refine Loop.rule (λm x g=> ∃(sl:Sl) (dn b:List (List UInt8)) (l:List UInt8),x=(sl,AX l,())/\Ext a g/\Own IW BC g sl (dn.map AX)/\(∀ c,sl.ai=some c->a.size<=c)/\NS l b/\kU (bl s)=dn++b/\dn.length+l.length<=s.size/\m=l.length) ?_
  ⟨⟨none,0,0⟩,[],_,bl s,by rw[Kv],Mod.refl,Own.nil,λc h=>by simp[Sl.ai] at h,qS _,rfl,by rw[A7];simp,rfl⟩
 rintro K m _ g ⟨sl,dn,b,l,rfl,x,n,f,i,j,B,rfl⟩ t;refine yg (by omega) λu d=>⟨_,_,_,rfl,?_⟩
 cases i with
 |stop o=>
  refine ag.no (by simp;omega) ?_;rw[AK] at j;exact q u sl _ (x.trans d) (by rw[j];exact(n.ext d).view)
 |step o i=>
  rename_i b;refine ag.yes (by simp;omega) ?_;have C:=Zz o;refine ao.aZ (E:=IW) (x:=AX (Gu l).2.1) (s:=sl) (l:=dn.map AX) rfl yz (n.ext d) (by simp;omega) (by simp[maxLen];omega) λv D w y z F=>?_
  refine t (Gu l).2.2.length _ _ (by omega) ⟨v,dn++ [(Gu l).2.1],b,(Gu l).2.2,rfl,(x.trans d).more y f,?_,λc h=>?_,i,by rw[j];simp,by simp;omega,rfl⟩
  ·rw[Bm];exact w
  ·rcases z c h with a|a
   ·exact f c a
   ·have:=x.size;have:=d.size;omega
theorem ARK {m:ar}{c:aa}{s:Sl}{l:List Int}{t:A2O}(u:Own IJ Bp c s l)(O:l.length<=8796093022208)
  (w: ∀n,View IJ n s (l.mergeSort λx d=>decide (x<=d))->Mod (λb=>s.ai=some b) c n->t (J1 #[]) n):AA m P I5 #[J4 s.p s.len s.cap] c t:=by
 intro j;have y:=u.len;rcases u.row with⟨rfl,rfl⟩|⟨g,o,p,h,B,Q,C,z⟩
 ·refine Calls.mono (Proofs.AnyM.slices_Sort_int_none Proofs.Tryz.iV none 0 (m.at c j)) ?_;rintro k D ⟨rfl,rfl⟩;exact⟨_,rfl,c,j,rfl,w c (by simpa using View.nil) Mod.refl⟩
 ·rw[p,y];have q:IJ.w=1:=rfl;rw[q,Bk] at C z;have F: ∀a x,l[a]? =some x->o[a]? =some (Value.int J9 x):=λa x e=>by
   have f:=dC (E:=IJ) e 0 (J6 J9 x) rfl;rw[<- z,q,Bk,G0,Ek] at f;split at f
   ·simpa using f
   ·cases f
  refine Calls.mono (Proofs.AnyM.slices_Sort_int Proofs.Tryz.iV g 0 s.cap l (m.at c j) ?_ (Ah h) (by omega)) ?_
  ·intro a e;have e:a<l.length:=by simpa using e
   have f:=F a l[a] (A2 e);have G:l.toArray[a]! =l[a]:=by simp[e]
   refine⟨?_,?_⟩
   ·show ah c ⟨g,0+a,none⟩=_;unfold ah;rw[h];simp only[Option.isSome_none,Cp,if_false,AI,G,f]
   ·show fZ c ⟨g,0+a,none⟩=false;unfold fZ;rw[h];simp
  ·rintro k D ⟨rfl,H,os,rfl⟩;have I:(c.modify g (Sort.onCells (Sort.putCells (Value.int J9) 0 (l.mergeSort λx d=>decide (x<=d)).toArray))++os)[g]? =some (J2 (Sort.putCells (Value.int J9) 0 (l.mergeSort λx d=>decide (x<=d)).toArray o) Bp (0,0)):=by rw[Mu (by simpa using Ah h),GF,if_pos rfl,h];rfl
   refine⟨_,rfl,c.modify g (Sort.onCells (Sort.putCells (Value.int J9) 0 (l.mergeSort λx d=>decide (x<=d)).toArray))++os,j+H,rfl,w _ ⟨?_,B,λa x e=>⟨⟨g,0,none⟩,p,λi v r=>?_⟩⟩ ⟨by simp,λb J K=>?_⟩⟩
   ·rw[A0M];exact y
   ·have L:i=0:=by have:=(List.getElem?_eq_some_iff.1 r).1;have k:(IJ.enc x).length=1:=rfl;omega
    subst L;simp only[IJ,Hv,BE] at r;subst r;have A:a<(l.mergeSort λx d=>decide (x<=d)).length:=(List.getElem?_eq_some_iff.1 e).1;have M:a<o.size:=by rw[A0M] at A;omega
    rw[q,Bk,Bf,Bf,AI,G0];unfold ah;rw[I];simp only[Option.isSome_none,Cp,if_false,Sort.putCells,Array.getElem?_mapIdx];rw[Fm M,HP,if_pos ⟨An _,by simpa using A⟩];have:(l.mergeSort λx d=>decide (x<=d)).toArray[a-0]! =x:=by rw[HA];simp[e]
    rw[this]
   ·have N:g≠b:=λk=>K (by rw[Sl.ai,p,k];rfl)
    rw[Mu (by simpa using J),GF,if_neg N]
structure mE (nm:A2P) (m:Bx) (l:List Nat):Prop where
 inc:l.Pairwise (· < ·)
 mem: ∀n,n∈l↔1<=n/\n<=99999999/\(Cn (aD nm n) m.files).isSome=true
theorem yA {k:A2P}{l:List Fi}:(Cn k l).isSome=true↔k∈l.map (·.name):=by
 constructor
 ·intro a;cases b:Cn k l with
  |none=>rw[b] at a;cases a
  |some f=>
   obtain⟨c,d⟩:=KH b;exact List.mem_map.2 ⟨f,d,c⟩
 ·intro a;obtain⟨f,c,d⟩:=List.mem_map.1 a;cases b:Cn k l with
  |none=>exact absurd d (Rx b f c)
  |some f=>rfl
theorem yB {m:Bx}(g:G9 m):(m.files.map (·.name)).Nodup:=List.pairwise_map.2 (g.sorted.imp λa=>Lj a)
theorem AJm {ns:List Nat}(n:ns.Nodup): ∃l:List Nat,((ns.map λd:Nat=>(d:Int)).mergeSort λx e=>decide (x<=e))=l.map (λd:Nat=>(d:Int))/\l.Pairwise (· < ·)/\ ∀d,d∈l↔d∈ns:=by
 have f:=List.mergeSort_perm (ns.map λd:Nat=>(d:Int)) (λx e=>decide (x<=e));have k:((ns.map λd:Nat=>(d:Int)).mergeSort λx e=>decide (x<=e)).Pairwise (λx e=>decide (x<=e)=true):=
  List.pairwise_mergeSort (λa b c o h=>by simp at o h ⊢;omega) (λa b=>by simp;omega) _
 generalize (ns.map λd:Nat=>(d:Int)).mergeSort (λx e=>decide (x<=e))=L at f k;have i: ∀x∈L,((x.toNat:Nat):Int)=x:=λx g=>by
  obtain⟨d,_,rfl⟩:=List.mem_map.1 (f.subset g);simp
 have p:L=(L.map Int.toNat).map (λd:Nat=>(d:Int)):=by
  rw[AT]
  conv=>lhs;rw[<- Ks L]
  exact CD λx g=>(i x g).symm
 have q:L.Nodup:=f.symm.nodup (by
  rw[SU,No];exact(List.nodup_iff_pairwise_ne.1 n).imp λr s=>r (by exact_mod_cast s))
 refine⟨L.map Int.toNat,p,?_,λd=>?_⟩
 ·rw[No];have h:L.Pairwise λx e=>decide (x<=e)=true/\x≠e:=k.and (List.nodup_iff_pairwise_ne.1 q)
  refine h.imp_of_mem λ{a c} t u m=>?_
  have w:=i a t;have y:=i c u;have z:a<=c:=of_decide_eq_true m.1;have A:=m.2;omega
 ·constructor
  ·intro j;obtain⟨x,g,rfl⟩:=List.mem_map.1 j;obtain⟨B,v,rfl⟩:=List.mem_map.1 (f.subset g);simpa using v
  ·intro j;exact List.mem_map.2 ⟨(d:Int),f.symm.subset (List.mem_map.2 ⟨d,j,rfl⟩),by simp⟩
theorem yC {R:ar}{h:aa}{b:Nat}{S:Nat->Prop}{m:Bx}{j:A2P}{N:A2O}(E:bZ h)(D:Cu h b S m)(hd:m.down=false)(T:j.size<=1099511627776)(aK:bj m.files<=8000000000000)
  (U: ∀k s (l:List Nat),mE j m l->View IJ k s (l.map λe:Nat=>(e:Int))->Ext h k->(∀ c,s.ai=some c->h.size<=c)->N (J1 #[J4 s.p s.len s.cap,J6 J9 0]) k):AA R P Kr #[Aq b,J7 j] h N:=by
 refine ABB ?_;unfold UW;refine vT D λs n F y aL=>⟨s,_,rfl,?_⟩
 have V:ka m=(m.files.map (·.name),0):=by unfold ka;rw[if_neg (by simp[hd])]
 rw[V] at F ⊢;refine ag.no rfl ?_;have W:=yB D.aT;have X: ∀d∈m.files.map (·.name),d.size<=32:=λd g=>by
  obtain⟨f,Y,rfl⟩:=List.mem_map.1 g;exact D.aT.names f Y
 have aM:(m.files.map (·.name)).length<=8000000000000:=by have:=VK m.files;simp;omega
 have Z: ∀d,(Cn d m.files).isSome=true↔d∈m.files.map (·.name):=λd=>yA
 dsimp only at F;generalize m.files.map (·.name)=names at*
 have v1:=F.view;refine Loop.rule (λO x G=> ∃(i:Nat) (sl:Sl) (ns:List Nat),x=(sl,(i:Int),())/\Ext n G/\Own IJ Bp G sl (ns.map λe:Nat=>(e:Int))/\(∀ c,sl.ai=some c->n.size<=c)/\i<=names.length/\ns.length<=i/\(ns.map (aD j)).Sublist (names.take i)/\(∀ e∈ns,1<=e/\e<=99999999)/\(∀ d:Nat,1<=d->d<=99999999->aD j d∈names.take i->d∈ns)/\O=names.length-i) ?_
  ⟨0,⟨none,0,0⟩,[],rfl,Mod.refl,Own.nil,λc o=>by simp[Sl.ai] at o,An _,A0 _,by simp,by simp,by simp,rfl⟩
 rintro K O _ G ⟨i,sl,ns,rfl,r,H,f,aN,aO,u,I,z,rfl⟩ ab;rw[v1.len];refine ag.intro (λJ=>?_) (λJ=>?_)
 ·have v:i<names.length:=by simpa using J
  refine aj.mk λac ad=>?_
  have ah:names[i]? =some names[i]:=A2 v;rw[<- v1.len];refine(v1.ext r).idx ah λa _ c=>?_
  refine AJ.mk c.str ?_;refine AMu ((E.ext y).ext r) T (by have:=X names[i] (AW v);omega) λae e w af ai=>⟨_,rfl,?_⟩
  have A:names.take (i+1)=names.take i++ [names[i]]:=by rw[AD,ah];rfl
  have fin: ∀(p:Sl) (q:List Nat) (k:aa),Ext n k->Own IJ Bp k p (q.map λe:Nat=>(e:Int))->(∀ c,p.ai=some c->n.size<=c)->q.length<=i+1->(q.map (aD j)).Sublist (names.take (i+1))->(∀ e∈q,1<=e/\e<=99999999)->(∀ d:Nat,1<=d->d<=99999999->aD j d∈names.take (i+1)->d∈q)->ac (p,()) k:=λp q k ak al am an ap aq au=>by
   refine ad _ _ ?_;dsimp only;rw[Aa (by omega)];exact ab (names.length-(i+1)) _ _ (by omega) ⟨i+1,p,q,rfl,ak,al,am,v,an,ap,aq,au,rfl⟩
  by_cases t:e=0
  ·refine ag.no (by simp[t]) (fin sl ns ae (r.trans w) (H.ext w) f (by omega) ?_ I ?_)
   ·rw[A];exact u.trans (List.sublist_append_left _ _)
   ·intro d B C g;rw[A] at g;rcases List.mem_append.1 g with g|g
    ·exact z d B C g
    ·exact absurd (List.mem_singleton.1 g).symm (af t d B C)
  ·refine ag.yes (by simp;omega) ?_;obtain⟨aP,ne⟩:=ai t;refine ao.aZ (E:=IJ) (x:=(e:Int)) (s:=sl) (l:=ns.map λe:Nat=>(e:Int)) rfl rA (H.ext w) (by simp;omega) (by simp[maxLen];omega) λp av aw ax ay _=>?_
   refine fin p (ns++ [e]) av ((r.trans w).more ax f) (by rw[Bm];exact aw) (λc o=>?_) (by simp;omega) ?_ ?_ ?_
   ·rcases ay c o with h|h
    ·exact f c h
    ·have:=r.size;have:=w.size;omega
   ·rw[A,Bm];have az: [e].map (aD j)= [names[i]]:=by rw[ne];rfl
    rw[az];exact u.append (List.Sublist.refl _)
   ·intro d g;rcases List.mem_append.1 g with g|g
    ·exact I d g
    ·rw[List.mem_singleton.1 g];omega
   ·intro d B C g;rw[A] at g;rcases List.mem_append.1 g with g|g
    ·exact List.mem_append.2 (.inl (z d B C g))
    ·have:=Ih ((List.mem_singleton.1 g).trans ne);exact List.mem_append.2 (.inr (by simp[this]))
 ·have v:i=names.length:=by simp at J;omega
  subst v;rw[BT] at u z;have aA:ns.Nodup:=by have n:=u.nodup W;rw[SU,No] at n;rw[SU];exact n.imp λh aC=>h (by rw[aC])
  obtain⟨l,aE,aF,aG⟩:=AJm aA;refine ARK H (by simp;omega) λaH Q aI=>⟨rfl,?_⟩
  rw[aE] at Q;refine U aH sl l ⟨aF,λe=>?_⟩ Q ((y.trans r).more aI λc o=>by have:=f c o;have:=y.size;omega) λc o=>by have:=f c o;have:=y.size;omega
  rw[aG,Z];constructor
  ·intro t;obtain⟨L,M⟩:=I e t;exact⟨L,M,u.subset (List.mem_map.2 ⟨e,t,rfl⟩)⟩
  ·rintro⟨L,M,aJ⟩;exact z e L M aJ
structure bS (h:aa) (t:Nat) (l:List Pr) (f:List UInt8) (lo hi:Nat):Prop where
 at_: ∃fs bs:Sl,h[t]? =some (J2 #[J4 fs.p fs.len fs.cap,J4 bs.p bs.len bs.cap,J7 (AX f),J6 J9 (l.length:Int)] Md (0,0))/\View IW h fs (CU l)/\View IW h bs ((KZ l).map λb=>AX (BP b))/\
  (∀ c,fs.ai=some c->lo<=c/\c<hi)/\(∀ c,bs.ai=some c->lo<=c/\c<hi)
 fB:lo<=t/\t<hi
theorem bS.mod {i j:aa}{t:Nat}{l:List Pr}{f:List UInt8}{b d:Nat}{k:Nat->Prop}(T:bS i t l f b d)(m:Mod k i j)(e: ∀c,b<=c->c<d-> ¬k c):bS j t l f b d:=by obtain⟨n,o,p,q,r,g,h⟩:=T.at_;exact⟨⟨n,o,m.ai p (e t T.fB.1 T.fB.2),q.mod m (λc a=>e c (g c a).1 (g c a).2),r.mod m (λc a=>e c (h c a).1 (h c a).2),g,h⟩,T.fB⟩
theorem bS.ext {a b:aa}{t:Nat}{l:List Pr}{f:List UInt8}{c d:Nat}(T:bS a t l f c d)(m:Ext a b):bS b t l f c d:=T.mod m λ_ _ _ a=>a
theorem XO(a:List UInt8)(b:List (List UInt8)):aK (a::b)=Ct a++aK b:=rfl
theorem ANv {w:ar}{b:aa}{a:List (List UInt8)}{q:A2O}(l: ∀f∈a,f.length<=1048576)(y:(aK a).length<=1099511627776)
  (r: ∀h sl,Ext b h->View IW h sl (a.map AX)->(∀ c,sl.ai=some c->b.size<=c/\c<h.size)->q (J1 #[J4 sl.p sl.len sl.cap,J6 J9 ((aK a).length:Int)]) h):AA w P LK #[J7 (AX (aK a))] b q:=by
 refine WG ?_;unfold Rc;refine Loop.rule (λm x n=> ∃(i:Nat) (sl:Sl),x=(sl,AX (aK (a.drop i)),())/\m=a.length-i/\i<=a.length/\Ext b n/\Own IW BC n sl ((a.take i).map AX)/\(∀ c,sl.ai=some c->b.size<=c)) ?_
  ⟨0,⟨none,0,0⟩,rfl,rfl,by omega,Mod.refl,Own.nil,λc d=>by simp[Sl.ai] at d⟩
 rintro K m _ n ⟨i,sl,rfl,rfl,z,o,g,p⟩ t;dsimp only;have N:a.length<=(aK a).length:=by
  clear y r z g t
  induction a with
  |nil=>simp
  |cons f a A=>
   have O:=(JM (l f Cl)).1;have:=A λx j=>l x (AF _ j)
   simp only[aK,AH,A1,A5] at this ⊢;omega
 have B:(aK (a.drop i)).length<=1099511627776:=by
  have C:aK a=aK (a.take i)++aK (a.drop i):=by unfold aK;rw[<- Ge,CN]
  have:=congrArg List.length C;rw[A1] at this;omega
 refine yg (AE B (by decide)) λD e=>⟨_,_,_,rfl,?_⟩
 by_cases k:i<a.length
 ·have j:a[i]? =some a[i]:=A2 k;have u:=l _ (AW k);have hd:a.drop i=a[i]::a.drop (i+1):=DP k;have v:=T9 j;generalize a[i]=f at j u hd v;rw[hd,XO,xX u];refine ag.yes rfl ?_;refine ao.aZ (E:=IW) (x:=AX f) (s:=sl) rfl rE (g.ext e) (by grind) (by simp only[Bs,Ax,maxLen];omega) λF Q G H I R=>?_
  refine t (a.length-(i+1)) _ _ (by omega) ⟨i+1,F,rfl,rfl,k,(o.trans e).more H p,?_,λc d=>?_⟩
  ·rw[v,Bm];exact G
  ·rcases I c d with b|b
   ·exact p c b
   ·have:=o.size;have:=e.size;omega
 ·have J:a.drop i= []:=HD (by omega);have L:a.take i=a:=AG (by omega);rw[J];rw[L] at g;have S:=UD;refine ag.no (by grind) ?_;have M:J8 J9 (((AX (aK a)).size:Int)-((AX (aK [])).size:Int))=((aK a).length:Int):=by
   rw[AP,AP];show J8 J9 (((aK a).length:Int)-((0:Nat):Int))=_
   grind [wrap_i64]
  rw[M];exact r D sl (o.trans e) (g.ext e).view λc d=>⟨p c d,(g.ext e).lt d⟩
def Yf(l:List Pr)(a:Nat):A2P:=match a with|0=>⟨#[]⟩|a+1=>Iu l a
theorem ART {l:List Pr}(d: ∀p∈l,La p)(e:l.Pairwise λp f=>aO p.key f.key=true){a:Nat}{p:Pr}(b:l[a]? =some p):(aO p.key (Yf l a)||bR p.key (Yf l a))=false:=by
 have k:aO (Yf l a) p.key=true:=by
  cases a with
  |zero=>
   have:=(d p (AM b)).key;unfold Yf;rw[VT];have g:bl p.key≠ []:=by grind [A7]
   cases h:bl p.key with
   |nil=>exact absurd h g
   |cons c t=>
    simp only[decide_eq_true_eq];show([]:List UInt8)<bl p.key
    simp_all
  |succ a=>
   have i:a<l.length:=by grind
   have j:l[a]? =some l[a]:=A2 i;have:=yW e j b;show aO (Iu l a) p.key=true
   simp_all [Iu]
 rw[Hk]
 grind [aO,Yf,Da,CZ,Ca,decide_eq_false_iff_not]
theorem AQB {a N:Nat}(b:a=N+1)(c:N<=1099511627776):J8 J9 (((a:Nat):Int)-(1:Int))=((N:Nat):Int):=by grind [wrap_i64]
theorem gW.jB {s:List UInt8}{l:List Pr}{f:List UInt8}(T:gW s l f):(aK (aU l f)).length<=1099511627776:=by
 have:=Uz (Nq T);have b:=T.many;have a:(aU l f).length=Bt l+1:=by simp[aU,I7]
 have c:Bt l<=12501:=by unfold Bt;omega
 rw[a] at this;have d:(Bt l+1)*1048590<=12502*1048590:=AN _ (by omega);omega
theorem yX {bh:ar}{e:aa}{l:List Pr}{f:List UInt8}{aH:A2O}(T:gW (aK (aU l f)) l f)
  (bi: ∀O t,Ext e O->bS O t l f e.size O.size->aH (J1 #[Aq t,J6 J9 0]) O):AA bh P Nz #[J7 (AX (aK (aU l f)))] e aH:=by
 refine AEl ?_;unfold Ye;have ce:=wE T.ne;have cf:=T.many;have cg:Bt l<=12501:=by unfold Bt;omega
 have ch:=T.jz;refine ANv (Nq T) (gW.jB T) λh sl C v1 aI=>⟨sl,_,rfl,?_⟩
 have aJ:sl.len=Bt l+1:=by rw[v1.len];simp[aU,I7]
 have ci:=v1.cap;rw[AQB aJ (by omega)];refine aj.mk λK aL=>?_
 refine ag.no (by rw[AP];simp) ?_;refine aL _ _ (ag.no (by rw[aJ];simp;omega) ?_);clear aL;simp only[A6,HA];refine⟨⟨by omega,by omega⟩,?_⟩;have bj:((aU l f).map AX)[Bt l]? =some (AX (Vj l f)):=by simp_all [C2,aU,F0,I7]
 refine v1.idx bj λa aM d=>?_
 refine AJ.mk d.str ?_;have aN:=X9 T;refine Jo λaO aP Q=>⟨_,rfl,?_⟩
 have R: ∀ {e:aa} {s:Sl} {ks:List A2P},Own IW BC e s ks-> ∀ {c:Nat} {aQ:Rd},Ib e c aQ->s.ai≠some c:=λbk c aQ bm=>bk.ne bm (by decide)
 refine ao.mk λS _ bn D cj=>?_
 have aR:Ib S h.size _:=Am D aP;have ck:=AV (n:=Bt l) (by omega);have bo:Vj l f=Bc (Bt l)++(Gt (CU l)++(Bc l.length++BR f)):=by unfold Vj Gt;simp_all
 rw[bo] at aR aN;have cl:=AV (n:=l.length) (by omega);have cm:(BR f).length=(Bc f.length).length+f.length:=by simp[BR]
 have cn:=AV (n:=f.length) (by omega);have bp:=Qo (ks:=CU l) (O9 T.ok);rw[Hm] at bp;refine DN (most:=Bt l) aR (AE aN (by decide)) (by omega) λbq ac ad=>⟨_,rfl,?_⟩
 rw[CP (by omega) (A0 _)] at ac ⊢;dsimp only at ac ⊢;refine ag.no (by simp) ?_;have co:h.size<aO.size:=Ah aP;have br:=ad.ai bn (by omega);have U:Ext e S:=(C.trans Q).trans D;have cp:Ext e bq:=U.more ad (λb bs=>by rw[bs];exact C.size);have aS: ∀ {g:aa},(∀ c,sl.ai=some c->g[c]? =h[c]?)->View IW g ⟨BB sl.p sl.cap 0 1,Bt l,sl.cap⟩ ((KZ l).map λb=>AX (BP b)):=by
  intro g d;have v:View IW g sl ((aU l f).map AX):=⟨v1.len,v1.cap,λi x hi=>by
   obtain⟨a,aM,bt⟩:=v1.cells i x hi;refine⟨a,aM,λj v aT=>?_⟩;rw[<- bt j v aT]
   grind [Qa,aV,Sl.ai]⟩
  have:=v.sub (lo:=0) (hi:=Bt l) (An _) (by simp[aU,I7]);have aW:(((aU l f).map AX).take (Bt l)).drop 0=(KZ l).map λb=>AX (BP b):=by simp_all [IT,aU,Nx,I7,AG,AT]
  rw[aW] at this;exact this
 generalize cq:aO.size=q at*
 refine Loop.rule (λm x g=> ∃(i:Nat) (o:Sl),x=((i:Int),())/\m=Bt l-i/\i<=Bt l/\Ib g h.size ⟨Gt ((CU l).drop i)++(Bc l.length++BR f),false⟩/\
  g[q]? =some (J2 #[J4 o.p o.len o.cap,J4 (BB sl.p sl.cap 0 1) (Bt l) sl.cap,J7 ⟨#[]⟩,J6 J9 0] Md (0,0))/\Own IW BC g o ((CU l).take i)/\(∀ c,o.ai=some c->q<c)/\
  Mod (λc=>c=h.size\/q<=c) S g) ?_ ⟨0,⟨none,0,0⟩,rfl,rfl,by omega,ac,br,Own.nil,λc d=>by simp[Sl.ai] at d,ad.ak λc _ d=> .inl d⟩
 rintro cr m _ aX ⟨i,o,rfl,rfl,hi,w,ae,F,G,aY⟩ aZ;dsimp only;refine ag.intro (λr=>?_) (λr=>?_)
 ·have V:i<Bt l:=by simp at r;omega
  refine AZ.mk (s:=o) (AO ae rfl) ?_;have z:=RN V;have hd:(CU l).drop i=Iu l (8*i)::(CU l).drop (i+1):=by grind [CU,Hm,List.drop_eq_getElem_cons,List.getElem?_eq_getElem,Option.some.inj]
  have a0:=T9 z;have a1:=O9 T.ok _ (AM z);generalize Iu l (8*i)=k at z hd a0 a1;have bu:Gt ((CU l).drop i)++(Bc l.length++BR f)=BR (bl k)++(Gt ((CU l).drop (i+1))++(Bc l.length++BR f)):=by rw[hd];simp[Gt]
  have bv:=Qo (ks:=(CU l).drop i) λk bw=>O9 T.ok k (HX bw)
  rw[DG,Hm] at bv;have a2:(Gt ((CU l).drop i)++(Bc l.length++BR f)).length<1099511627776:=by simp only[A1];omega
  rw[bu] at w a2;refine G7 w a2 λH W ai=>⟨_,rfl,?_⟩
  rw[IR (by rw[A7];omega)] at W ⊢;dsimp only at W ⊢;rw[EE];have X:=ai.ai ae (by omega);have ak:=F.mod ai (λc d e=>R F w (e▸d));refine⟨AO X rfl,?_⟩;refine ao.mk λbx _ bz I cs=>⟨AO (Am I X) rfl,?_⟩
  have bA:Own IW BC bx ⟨some ⟨H.size,0,none⟩,1,1⟩ [k]:=Own.lit (E:=IW) (l:= [k]) bz rfl (by simp[maxLen]);refine Fx (s:=o) (src:=⟨some ⟨H.size,0,none⟩,1,1⟩) rE (ak.ext I) bA.view (by simp only[Ax,Cd];omega) (by simp only[Ax,Cd,maxLen];omega) λa3 ct bB al cu cv=>?_
  have cw:q<H.size:=Ah X;have cx: ∀c,o.ai=some c->c<H.size:=λc d=>ak.lt d
  have bC:=al.ai (Am I X) (λe=>by have:=G _ e;omega);refine af.mk bC (by simp) λcy bD am cz=>?_
  have a4: ∀c,a3.ai=some c->q<c:=λc d=>by
   grind
  rw[Aa (by omega)];refine aZ (Bt l-(i+1)) _ _ (by omega) ⟨i+1,a3,rfl,rfl,V,?_,by simpa using bD,?_,a4,?_⟩
  ·refine am.ai (al.ai (Am I W) λe=>?_) (by omega);exact R ak W e
  ·rw[a0];exact bB.mod am (λc d e=>by have:=a4 c d;omega)
  ·have Y:Mod (λc=>c=h.size\/q<=c) aX H:=ai.ak λc _ d=> .inl d
   exact(((aY.trans Y).trans I.mod).trans (al.ak λc _ d=> .inr (by have:=G c d;omega))).trans (am.ak λc _ d=> .inr (by omega))
 ·have V:i=Bt l:=by simp at r;omega
  subst V;clear aZ;have bE:(CU l).drop (Bt l)= []:=HD (by rw[Hm];omega);have bF:(CU l).take (Bt l)=CU l:=AG (by rw[Hm];omega);rw[bE] at w;rw[bF] at F;have bG:J8 J9 (((Bt l:Nat):Int)*(8:Int))=((Bt l*8:Nat):Int):=by grind [wrap_i64]
  rw[bG];have w:Ib aX h.size ⟨Bc l.length++BR f,false⟩:=w;have bH:l.length<=Bt l*8:=by unfold Bt;omega
  refine DN (most:=Bt l*8) w (by grind) (by omega) λcB an ap=>⟨_,rfl,?_⟩
  rw[CP (by omega) bH] at an ⊢;dsimp only at an ⊢;have bI:=ap.ai ae (by omega);rw[Bf,Bf];refine af.mk bI (by simp) λbK bL aq cC=>?_
  have a5:Ib bK h.size ⟨BR f++ [],false⟩:=by rw[AK];exact aq.ai an (by omega)
  refine G7 a5 (by grind) λcD au av=>⟨_,rfl,?_⟩
  rw[IR (by omega)] at au ⊢;dsimp only at au ⊢;have bM:=av.ai bL (by omega);refine af.mk bM (by simp) λB J aw cE=>?_
  have bN:=aw.ai au (show h.size≠q by omega);have J:B[q]? =some (J2 #[J4 o.p o.len o.cap,J4 (BB sl.p sl.cap 0 1) (Bt l) sl.cap,J7 (AX f),J6 J9 (l.length:Int)] Md (0,0)):=by simpa using J
  have ax:Own IW BC B o (CU l):=by have Y:=F.mod ap (λc d e=>R F w (e▸d));have ay:=Y.mod aq (λc d e=>by have:=G c d;omega);have L:=ay.mod av (λc d e=>R ay a5 (e▸d));exact L.mod aw (λc d e=>by have:=G c d;omega)
  have M:Mod (λc=>c=h.size\/q<=c) S B:=
   (((aY.trans (ap.ak λc _ d=> .inl d)).trans (aq.ak λc _ d=> .inr (by omega))).trans (av.ak λc _ d=> .inl d)).trans (aw.ak λc _ d=> .inr (by omega))
  have cF:h.size<=q:=by omega
  have bO:Ext e B:=by refine⟨by have:=U.size;have:=M.size;omega,λc d _=>?_⟩;have:=C.size;have:=U.size;exact(M.get c (by omega) (by omega)).trans (U.get c d (λe=>e))
  have a6: ∀ {g:aa},Ext B g-> ∀c,sl.ai=some c->g[c]? =h[c]? :=by intro g x c d;have:=aI c d;have cG:=M.size;have:=D.size;have:=Q.size;exact((x.get c (by omega) (λe=>e)).trans (M.get c (by omega) (by omega))).trans ((D.get c (by omega) (λe=>e)).trans (Q.get c (by omega) (λe=>e)))
  have bP: ∀c,Sl.ai ⟨BB sl.p sl.cap 0 1,Bt l,sl.cap⟩=some c->e.size<=c/\c<h.size:=λc d=>aI c (Zt d)
  refine aj.mk λcH a7=>?_
  refine MS bN ⟨_,rfl,ag.no rfl ?_⟩;have bQ:f≠ []:=λaW=>by simp_all
  refine AJ.mk (AO J rfl) (ag.no ?_ ?_)
  ·rw[XY,EN,decide_eq_false_iff_not];exact bQ
  refine AJ.mk (AO J rfl) ?_;refine a7 _ _ (ag.no (by rw[AP];simp;omega) ?_);clear a7;refine Loop.rule (λm x g=> ∃i:Nat,x=(Yf l (min (8*i) l.length),((min (8*i) l.length:Nat):Int),(i:Int),())/\m=Bt l-i/\i<=Bt l/\Ext B g) ?_ ⟨0,by simp[Yf],rfl,by omega,Mod.refl⟩;rintro cI m _ bT ⟨i,rfl,rfl,hi,u⟩ bU;dsimp only;have Z:=Am u J;refine ag.intro (λr=>?_) (λr=>?_)
  ·have y:i<Bt l:=by simp at r;omega
   have cJ:=Qh y;have cK:8*i<l.length:=by unfold Bt at y;omega
   have bV:min (8*i) l.length=8*i:=by omega
   rw[bV];have bW:((KZ l).map λb=>AX (BP b))[i]? =some (AX (BP (CG l i))):=by simp[KZ,y]
   refine(aS (a6 u)).idx bW λY cL bX=>?_
   rw[A6];refine AJ.mk bX.str ?_;have bY: ∀p∈CG l i,La p:=λp bZ=>T.ok p (Pp bZ)
   have cM:=Qn T.ok y;refine rD bY (by omega) λps A az aA cN=>⟨_,_,rfl,?_⟩
   have a8:=Am aA Z;have b0:ps.len=(CG l i).length:=az.len;refine aj.mk λa9 b1=>?_
   have aC:(CG l i)[0]? =some (CG l i)[0]:=A2 (by omega);have ba:Iu l (8*i)=(CG l i)[0].key:=by have:=QJ (l:=l) (i:=i) (j:=0) (by omega);rw[aC] at this;unfold Iu;rw[G0] at this;rw[<- this]
   generalize (CG l i)[0]=bb at aC ba;have go:a9 (false,()) A:=by
    refine b1 _ _ (ag.no rfl ?_);refine Loop.rule (λm x g=> ∃j:Nat,x=(Yf l (8*i+j),((8*i+j:Nat):Int),(j:Int),())/\m=(CG l i).length-j/\j<=(CG l i).length/\Ext A g) ?_ ⟨0,by simp,rfl,by omega,Mod.refl⟩;rintro cO m _ cP ⟨j,rfl,rfl,aT,ab⟩ b2;dsimp only;refine ag.intro (λr=>?_) (λr=>?_)
    ·have N:j<(CG l i).length:=by grind
     have z:(CG l i)[j]? =some (CG l i)[j]:=A2 N;have aD:(CG l i)[j]∈l:=Pp (AW N);have aE:l[8*i+j]? =some (CG l i)[j]:=by rw[<- QJ (by omega)];exact z
     generalize (CG l i)[j]=p at z aD aE;have b3:=T.ok p aD;refine(az.ext ab).view.idx z λay cQ b4=>?_
     obtain⟨b5,b6,c2⟩:=b4.pair;rw[A6];refine AJ.mk b5 (AJ.mk b6 (Ac.mk c2 ?_));refine ao.pair λcR cS cT aF bc cU=>?_
     refine aj.mk λcV b7=>?_
     refine AJ.mk (AO aF rfl) ?_;rw[ART T.ok T.inc aE];refine ag.no rfl ?_;have b8:=Am bc (Am ab a8);refine AJ.mk (AO b8 rfl) ?_;refine AJ.mk (AO aF rfl) ?_;have a1:=b3.bL;refine yK (by omega) ⟨_,rfl,?_⟩;rw[EN,T.has p aD];refine b7 _ _ (ag.no rfl ?_);refine AJ.mk (AO aF rfl) ?_;rw[Aa (by omega),Aa (by omega)];refine b2 ((CG l i).length-(j+1)) _ _ (by omega) ⟨j+1,?_,rfl,N,ab.trans bc⟩;have b9:Yf l (8*i+(j+1))=p.key:=by show Iu l (8*i+j)=p.key;unfold Iu;rw[aE]
     rw[b9];rfl
    ·have N:j=(CG l i).length:=by grind
     rw[Aa (by omega)];have aG:min (8*(i+1)) l.length=8*i+j:=by rw[N];unfold CG;rw[Ax,DG];omega
     refine bU (Bt l-(i+1)) _ _ (by omega) ⟨i+1,?_,rfl,y,(u.trans aA).trans ab⟩;rw[aG]
   have bd:bJ ps.p ps.len 0 λL=>AJ A (L.add ((0:Int).toNat*3)) λca=>AZ A (⟨q,0,none⟩:Q6) λbe=>bJ be.p be.len ((i:Nat):Int) λbf=>AJ A (bf.add (((i:Nat):Int).toNat*1)) λcb=>a9 ((!bR ca cb),()) A:=by
    obtain⟨L,cc,bg⟩:=az.view.cells 0 bb aC;rw[HT,add_zero] at bg;refine bJ.mk (k:=0) cc (by omega) ?_;refine AJ.mk (n:=bb.key) (by show ah A (L.add 0)=_;rw[add_zero];exact bg.pair.1) ?_;refine AZ.mk (s:=o) (AO a8 rfl) ?_;refine((ax.ext u).ext aA).view.idx (RN y) λbf cW cd=>?_
    rw[A6];refine AJ.mk cd.str ?_;rw[ba,Ca,decide_eq_true rfl];exact go
   refine ag.no rfl (ag.no (by grind) (ag.no (by rw[b0];simp;omega) ?_));rw[Aa (by omega)];refine ag.intro (λr=>?_) (λ_=>bd);have:i+1<Bt l:=by simp at r;omega
   exact ag.no (by grind) bd
  ·have y:i=Bt l:=by simp at r;omega
   have aG:min (8*i) l.length=l.length:=by rw[y];omega
   rw[aG];refine AC.mk (AO Z rfl) (ag.no (by simp) ?_);refine bi bT q (bO.trans u) ⟨⟨o,⟨BB sl.p sl.cap 0 1,Bt l,sl.cap⟩,Z,(ax.ext u).view,aS (a6 u),λc d=>?_,λc d=>?_⟩,?_⟩
   ·have h:=(ax.ext u).lt d;have:=G c d;have:=C.size;omega
   ·have h:=bP c d;have:=M.size;have:=u.size;have:=D.size;have:=Q.size;omega
   ·have:=Ah Z;have:=C.size;omega
def WY(g:ar)(h:Int)(f:J0)(i:aa)(j:A2O):=Loop (λK (s:Int×Int×Unit) a=>ag (decide (s.1<s.2.1)) (aj (λ(b:Int×Int×Unit) k=>K (b.1,b.2.1,()) k) λc=>Eb g P f #[J6 J9 (J8 J9 ((J8 .u64 (J8 J9 (s.1+s.2.1))).fdiv ((2:Int)^(1:Nat))))] a λv d=> ∃e:Bool,v=J3 e/\(ag (!e) (c ((J8 J9 ((J8 J9 ((J8 .u64 (J8 J9 (s.1+s.2.1))).fdiv ((2:Int)^(1:Nat))))+1)),s.2.1,()) d) (c (s.1,(J8 J9 ((J8 .u64 (J8 J9 (s.1+s.2.1))).fdiv ((2:Int)^(1:Nat)))),()) d))) (j (J6 J9 s.1) a)) (0,h,()) i
theorem ACT {a b f c d}(e:WY a b f c d):AA a P Ps #[J6 J9 b,f] c d:=Ae (CX 2 (AL (.block (.loop [(5,.one (.int J9)),(6,.one (.int J9))] [1] (AL Fs (.bK [(5,.one (.int J9)),(6,.one (.int J9))] [1] jV)))) Bl)) (by kernel_rfl) e
def Gs(b:ar)(s:Sl)(v:Int)(c:aa)(d:A2O):=AA b P Iq #[J4 s.p s.len s.cap,J6 J9 v] c λv1 e=> ∃a:Int,v1=J6 J9 a/\(d (J3 (decide (a>=0))) e)
theorem Le {a s v b c}(d:Gs a s v b c):AA a P Eg #[J4 s.p s.len s.cap,J6 J9 v] b c:=Ae Ex (by kernel_rfl) d
def Ik(g:ar)(s:Sl)(v:Int)(e:aa)(d:A2O):=Loop (λK (b:Int×Unit) c=>ag (decide (b.1<(s.len:Int))) (bJ s.p s.len b.1 λa=>AC J9 c (a.add (b.1.toNat*1)) λf=>ag (v==f) (d (J6 J9 b.1) c) (K ((J8 J9 (b.1+1)),()) c)) (d (J6 J9 (-1)) c)) (0,()) e
theorem NM {a s v b c}(d:Ik a s v b c):AA a P Iq #[J4 s.p s.len s.cap,J6 J9 v] b c:=Ae qm (by kernel_rfl) d
def IE(b:ar)(s:Sl)(i:Int)(v:Sl)(e:aa)(d:A2O):=aI ((0:Int)<=i/\i<=(s.len:Int))<| ag ((v.len:Int)==0) (d (J4 s.p s.len s.cap) e) (ag (i==(s.len:Int)) (BI b P (Builtin.append_ #[DJ,DJ] DJ #[J4 s.p s.len s.cap,J4 v.p v.len v.cap]) e λv1 h=> ∃c:Sl,v1=J4 c.p c.len c.cap/\(d (J4 c.p c.len c.cap) h)) (ag (decide ((J8 J9 ((s.len:Int)+(v.len:Int)))>(s.cap:Int))) (aI ((0:Int)<=i/\i<=(s.cap:Int))<| BI b P (Builtin.append_ #[DJ,Bp] DJ #[J4 (BB s.p s.cap 0 1) (i.toNat-0) (s.cap-0),J6 J9 (J8 J9 ((J8 J9 ((s.len:Int)+(v.len:Int)))-i))]) e λv2 j=> ∃a:Sl,v2=J4 a.p a.len a.cap/\(aI ((0:Int)<=i/\i<=(a.len:Int))<| BI b P (Builtin.copy_ #[DJ,DJ] Bp #[J4 (BB a.p a.cap i.toNat 1) (a.len-i.toNat) (a.cap-i.toNat),J4 v.p v.len v.cap]) j λk l=> ∃m:Int,k=J6 J9 m/\(aI ((0:Int)<=(J8 J9 (i+(v.len:Int)))/\(J8 J9 (i+(v.len:Int)))<=(a.len:Int))<| aI ((0:Int)<=i/\i<=(s.len:Int))<| BI b P (Builtin.copy_ #[DJ,DJ] Bp #[J4 (BB a.p a.cap ((J8 J9 (i+(v.len:Int))).toNat) 1) (a.len-((J8 J9 (i+(v.len:Int))).toNat)) (a.cap-((J8 J9 (i+(v.len:Int))).toNat)),J4 (BB s.p s.cap i.toNat 1) (s.len-i.toNat) (s.cap-i.toNat)]) l λn o=> ∃p:Int,n=J6 J9 p/\(d (J4 a.p a.len a.cap) o)))) (aI ((0:Int)<=(J8 J9 ((s.len:Int)+(v.len:Int)))/\(J8 J9 ((s.len:Int)+(v.len:Int)))<=(s.cap:Int))<| aI ((0:Int)<=(J8 J9 (i+(v.len:Int)))/\(J8 J9 (i+(v.len:Int)))<=(((((J8 J9 ((s.len:Int)+(v.len:Int))).toNat)-0):Nat):Int))<| nF b P Gh #[J4 v.p v.len v.cap,J4 (BB (BB s.p s.cap 0 1) (s.cap-0) ((J8 J9 (i+(v.len:Int))).toNat) 1) ((((J8 J9 ((s.len:Int)+(v.len:Int))).toNat)-0)-((J8 J9 (i+(v.len:Int))).toNat)) ((s.cap-0)-((J8 J9 (i+(v.len:Int))).toNat))] e λq f=> ∃g:Bool,q=J3 g/\(ag (!g) (aI ((0:Int)<=(J8 J9 (i+(v.len:Int)))/\(J8 J9 (i+(v.len:Int)))<=(((((J8 J9 ((s.len:Int)+(v.len:Int))).toNat)-0):Nat):Int))<| aI ((0:Int)<=i/\i<=(((((J8 J9 ((s.len:Int)+(v.len:Int))).toNat)-0):Nat):Int))<| BI b P (Builtin.copy_ #[DJ,DJ] Bp #[J4 (BB (BB s.p s.cap 0 1) (s.cap-0) ((J8 J9 (i+(v.len:Int))).toNat) 1) ((((J8 J9 ((s.len:Int)+(v.len:Int))).toNat)-0)-((J8 J9 (i+(v.len:Int))).toNat)) ((s.cap-0)-((J8 J9 (i+(v.len:Int))).toNat)),J4 (BB (BB s.p s.cap 0 1) (s.cap-0) i.toNat 1) ((((J8 J9 ((s.len:Int)+(v.len:Int))).toNat)-0)-i.toNat) ((s.cap-0)-i.toNat)]) f λr t=> ∃u:Int,r=J6 J9 u/\(aI ((0:Int)<=i/\i<=(((((J8 J9 ((s.len:Int)+(v.len:Int))).toNat)-0):Nat):Int))<| BI b P (Builtin.copy_ #[DJ,DJ] Bp #[J4 (BB (BB s.p s.cap 0 1) (s.cap-0) i.toNat 1) ((((J8 J9 ((s.len:Int)+(v.len:Int))).toNat)-0)-i.toNat) ((s.cap-0)-i.toNat),J4 v.p v.len v.cap]) t λw x=> ∃y:Int,w=J6 J9 y/\(d (J4 (BB s.p s.cap 0 1) (((J8 J9 ((s.len:Int)+(v.len:Int))).toNat)-0) (s.cap-0)) x))) (aI ((0:Int)<=(s.len:Int)/\(s.len:Int)<=(((((J8 J9 ((s.len:Int)+(v.len:Int))).toNat)-0):Nat):Int))<| BI b P (Builtin.copy_ #[DJ,DJ] Bp #[J4 (BB (BB s.p s.cap 0 1) (s.cap-0) ((s.len:Int).toNat) 1) ((((J8 J9 ((s.len:Int)+(v.len:Int))).toNat)-0)-((s.len:Int).toNat)) ((s.cap-0)-((s.len:Int).toNat)),J4 v.p v.len v.cap]) f λz A=> ∃B:Int,z=J6 J9 B/\(aI ((0:Int)<=i/\i<=(((((J8 J9 ((s.len:Int)+(v.len:Int))).toNat)-0):Nat):Int))<| AA b P Il #[J4 (BB (BB s.p s.cap 0 1) (s.cap-0) i.toNat 1) ((((J8 J9 ((s.len:Int)+(v.len:Int))).toNat)-0)-i.toNat) ((s.cap-0)-i.toNat),J6 J9 (v.len:Int)] A λC D=>C=J1 #[]/\(d (J4 (BB s.p s.cap 0 1) (((J8 J9 ((s.len:Int)+(v.len:Int))).toNat)-0) (s.cap-0)) D)))))))
theorem NI {a s i v b c}(d:IE a s i v b c):AA a P DK #[J4 s.p s.len s.cap,J6 J9 i,J4 v.p v.len v.cap] b c:=Ae uA (by kernel_rfl) d
end Go.Lf.G
namespace Go.Lf.G.M
open Go Go.Lf Go.Lf.G
theorem toList_inj {a b:A2P}:(a.toList==b.toList)=decide (a=b):=by rw[ByteArray.toList_eq,ByteArray.toList_eq];rw[Fc];simp[My,<-Array.toList_inj]
def Ai(x:Pr):Int:=
 if(decide (x.key=⟨#[]⟩)||(x.gone&& !decide (x.val=⟨#[]⟩))) then 1 else if(decide (x.key.size>64)||decide (x.val.size>8192)) then 2 else 0
theorem Ca {a b:A2P}:bR a b=decide (a=b):=toList_inj
def ic(key:A2P)(l:List Pr):List Pr:=l.takeWhile λa=>aO a.key key
def aQ(key:A2P)(l:List Pr):Nat:=(ic key l).length
def BF(key:A2P)(l:List Pr):Bool:=match l[aQ key l]? with|some a=>decide (a.key=key)|none=>false
theorem mV(key:A2P)(l:List Pr):aQ key l<=l.length:=(Ys _).length_le
theorem Ut {e:Type}{p:e->Bool}: ∀ {l:List e} {i:Nat},i<=(l.takeWhile p).length->(∀ x,l[i]? =some x->p x=true->i<(l.takeWhile p).length)/\(∀ x,l[i]? =some x->p x=false->i=(l.takeWhile p).length)/\(l[i]? =none->i=(l.takeWhile p).length)
 | [],i,a=>by simp at a;subst a;simp
 |y::l,0,a=>by
  refine⟨λx b c=>?_,λx b c=>?_,λa=>by simp at a⟩
  ·simp at b;subst b;simp[c]
  ·simp at b;subst b;simp[c]
 |y::l,i+1,a=>by
  rw[Mz] at a ⊢;split at a
  ·rename_i f;have d:=Ut (p:=p) (l:=l) (i:=i) (by simpa using a);simp only[f,if_true,A5];refine⟨λx b c=>?_,λx b c=>?_,λg=>?_⟩
   ·have:=d.1 x (by simpa using b) c;omega
   ·have:=d.2.1 x (by simpa using b) c;omega
   ·have:=d.2.2 (by simpa using g);omega
  ·simp at a
theorem G5:QE P AQ AR BQ.w 40=true:=by kernel_rfl
theorem AN9:QE P JJ AQ ie.w 24=true:=by kernel_rfl
theorem ARh:QE P BG Bj jY.w 8=true:=by kernel_rfl
def X8(x:Pr)(l:List Pr):List Pr:=l.take (aQ x.key l)++ [x]++l.drop (if BF x.key l then aQ x.key l+1 else aQ x.key l)
def CY(x:Pr)(l:List Pr):List Pr:=if Ai x≠0 then l else X8 x l
theorem AO8(x:Pr)(l:List Pr):(X8 x l).length<=l.length+1:=by unfold X8;have:=mV x.key l;simp;split<;>omega
theorem AN0(x:Pr)(l:List Pr):(CY x l).length<=l.length+1:=by
 unfold CY;split
 ·omega
 ·exact AO8 x l
theorem qE {a:J0}{c:J0}:(#[]++ #[a]++ #[c]:Array J0)= #[a,c]:=rfl
theorem AGf {G:ar}{e H:aa}{fv:J0}{S:Nat->Prop}{l:List Pr}{I:A2O}(J:EQ G P fv S H l)(K: ∀b,S b->e[b]? =H[b]?)(ax:l.length<=1099511627776)
  (ac: ∀s h,Own BQ AR h s l->(∀ c,s.ai=some c->e.size<=c)->Ext e h->I (J4 s.p s.len s.cap) h):AA G P DD #[J4 none 0 0,fv] e I:=by
 refine IA (s:=⟨none,0,0⟩) ?_;unfold EZ;refine ao.mk λo _ a L ay=>?_
 have M: ∀b,S b->b<e.size:=λb a=>by
  have:=K b a;rw[Fm (J.1 b a)] at this;exact Ah this
 have ad: ∀h:aa,Mod (λc=>c=e.size) o h->Ext e h:=λh m=>L.then (m.ak λc _ j=> .inr (by omega))
 refine XP J (λb a=>(L.get b (M b a) (by simp)).trans (K b a))
  (λi c y p=>c=none/\ ∃s:Sl,p[e.size]? =some (J2 #[J4 s.p s.len s.cap] AQ (0,0))/\Own BQ AR p s (l.take i)/\(∀ b,y b↔(b=e.size\/s.ai=some b))/\(∀ b,s.ai=some b->b<p.size/\e.size<b))
  (λb=>b=e.size) (λb a d=>by have:=M b a;omega) ?_ ?_ ?_ ?_ ?_ ?_
 ·rintro i c y p ⟨_,s,q,r,f,k⟩ b a;rcases(f b).1 a with rfl|n
  ·exact Ah q
  ·exact(k b n).1
 ·rintro i c y p h ⟨d,s,q,r,f,k⟩ m;refine⟨d,s,m.ai q (λz=>z.1 ((f _).2 (.inl rfl))),r.mod m (λc j z=>z.1 ((f _).2 (.inr j))),f,λb a=>⟨?_,(k b a).2⟩⟩;have:=m.size;have:=(k b a).1;omega
 ·exact⟨rfl,⟨none,0,0⟩,a,Own.nil,λb=>by simp[Sl.ai],λb a=>by simp[Sl.ai] at a⟩
 ·rintro i x N p rec az aA O ⟨_,s,q,r,f,k⟩ Q aC ae ag ah aD;have aE:=(List.getElem?_eq_some_iff.1 O).1;refine ao.pair λaF R aG ai u aH=>?_
  refine⟨rec,u.ai ae (by simp),ag,?_⟩;generalize T:R.setIfInBounds (o.size+1) (.loop {rec with state:= .busy})=A;have t:Mod (λb=>b=o.size+1) R A:=T▸Mod.setObj rfl;have aj:A[o.size+1]? =some (.loop {rec with state:= .busy}):=by rw[<- T];exact Cb (by omega)
  have aI:=Ah q;have B:=t.ai ai (by omega);have U:=t.ai (u.ai q (by simp)) (by omega);have ak:=(r.ext u).mod t (λc j d=>Q ((f _).2 (.inr (d▸j))));refine AZ.mk (AO U rfl) (AJ.mk (AO B rfl) (AJ.mk (AB B rfl) (Ac.mk (AB B rfl) ?_)));have V:(l.take i).length=i:=by simp;omega
  refine ao.aZ (E:=BQ) (x:=x) rfl G5 ak (by rw[V];omega) (by rw[V];simp[maxLen];omega) λW X Y v C _=>?_
  have aJ:=t.size;have al:s.ai≠some e.size:=λd=>by have:=k _ d;omega
  refine af.mk (v.ai U al) (by simp) λam an D aK=>ah am ?_
  refine⟨λb=>b=e.size\/W.ai=some b,?_,?_,?_,rfl,W,by simpa using an,?_,λ_=>CM,?_⟩
  ·rintro b (rfl|a)
   ·exact .inl ((f _).2 (.inl rfl))
   ·rcases C b a with n|n
    ·exact .inl ((f _).2 (.inr n))
    ·exact .inr (by omega)
  ·have ap:Mod (λb=>N b\/b=o.size+1) p A:=u.mod.trans (t.ak λb _ a=> .inr a);have aq:Mod (λb=>N b\/b=o.size+1) p X:=ap.trans (v.ak λb _ a=> .inl ((f _).2 (.inr a)));exact aq.trans (D.ak λb _ a=> .inl ((f _).2 (.inl a)))
  ·refine D.ai (v.ai aj (λd=>Q ((f _).2 (.inr d)))) (by omega)
  ·have au:=Y.mod D (λc j d=>by
    rcases C c j with n|n
    ·have:=k _ n;omega
    ·omega)
   rw[AD,O];exact au
  ·intro b a;have:=v.size;have aL:b<X.size:=by
    rcases Y.row with⟨rfl,_⟩|⟨g,av,F,w,_⟩
    ·simp[Sl.ai] at a
    ·simp[Sl.ai,F] at a;subst a;exact Ah w
   refine⟨by omega,?_⟩;rcases C b a with n|n
   ·exact(k _ n).2
   ·omega
 ·rintro O' h ⟨_,s,q,r,f,k⟩ Z _ aM ab;have aN:=Z.size;refine AZ.mk (AO q rfl) ⟨ab,?_⟩;rw[BT] at r;have aw:s.ai≠some o.size:=λd=>by
   rcases r.row with⟨rfl,_⟩|⟨g,av,F,w,_⟩
   ·simp[Sl.ai] at d
   ·simp[Sl.ai,F] at d;rw[d,ab] at w;cases w
  refine ac s _ (r.mod (Mod.setObj (S:=λc=>c=o.size) rfl) λc j d=>aw (d▸j)) (λc j=>by have:=k _ j;omega) ?_;exact(ad h Z).then (Mod.setObj (.inr (by omega)))
 ·rintro i aO O' h ⟨d,_⟩;cases d
theorem Wd {e:ar}{d f:aa}{fv:J0}{g:Nat->Prop}{l:List Pr}{h:A2O}(i:EQ e P fv g f l)(j: ∀b,g b->d[b]? =f[b]?)(k:l.length<=1099511627776)
  (m: ∀s a,Own BQ AR a s l->(∀ c,s.ai=some c->d.size<=c)->Ext d a->h (J4 s.p s.len s.cap) a):AA e P DC #[fv] d h:=by
 refine Mk ?_;unfold IM;exact AGf i j k λs a n o p=>⟨s,rfl,m s a n o p⟩
def BH(l:List Pr):List Pr:=l.filter λx=> !x.gone
theorem vI {b:Type}{p:b->Bool}: ∀ {l:List b} {i:Nat} {x:b},l[i]? =some x->p x=true->(l.filter p)[((l.take i).filter p).length]? =some x
 | [],i,x,a,_=>by simp at a
 |y::l,0,x,a,c=>by simp at a;subst a;simp[c]
 |y::l,i+1,x,a,c=>by
  have d:=vI (p:=p) (l:=l) (i:=i) (by simpa using a) c;rw[I0,AS,AS];split
  ·simpa using d
  ·exact d
theorem AEp {a:Type}{p:a->Bool}(l:List a)(i:Nat):((l.take i).filter p).length<=(l.filter p).length:=((List.take_sublist i l).filter p).length_le
theorem APt {Y:ar}{D:aa}{b:Nat}{T:Q7}{fr:Nat×Nat}{fv:J0}{z:Nat->Prop}{l:List Pr}(a:D[b]? =some (J2 #[fv] T fr))(h:(fv= .nilFunc/\l= []/\ ∀c,¬z c)\/EQ Y P fv z D l):
  EQ Y P (.func (.func Ow) #[] #[J5 (some ⟨b,0,none⟩)]) (λc=>z c\/c=b) D (BH l):=by
 have aw:=Ah a;refine⟨?_,_,_,rfl,λZ=>by kernel_rfl,λd E Z w F ax hd hB ay G=>?_⟩
 ·rintro c (n|rfl)
  ·rcases h with h|h
   ·exact absurd n (h.2.2 c)
   ·exact h.1 c n
  ·exact aw
 rw[qE];refine AA5 ?_;unfold Ue;refine Yx.mk ax (ao.mk λu _ az q aJ=>?_);have ab:u[b]? =some (J2 #[fv] T fr):=by have r:=(E b (.inr rfl)).trans a;exact q.ai r (by simp)
 refine SI.mk (AO ab rfl) ?_;rcases h with⟨rfl,rfl,_⟩|h
 ·refine⟨trivial,ag.yes rfl ?_⟩;exact⟨rfl,0,true,F,q.mod,λb a=> .inl a,hB.bd _ _ _ _ _ G (q.ak λ_ _ d=>d.elim),λ_=>rfl,by simp⟩
 ·refine⟨h.one.2.1,ag.no h.one.2.2 ?_⟩;refine SI.mk (AO ab rfl) ?_;have aA:=hB.wf _ _ _ _ G;have aC: ∀b,z b->b<d.size:=λb a=>by
   have:=E b (.inl a);rw[Fm (h.1 b a)] at this;exact Ah this
  have aD:=hB.bd _ _ _ _ _ G (q.ak (S':=λb=>¬F b/\d.size<=b) λ_ _ d=>d.elim);refine XP h (λc n=>(q.get c (aC c n) (by simp)).trans (E c (.inl n)))
   (λi c e j=>j[d.size]? =some (J2 #[Z] Mh (0,0))/\ ¬e d.size/\match c with
    |none=>w (BH (l.take i)).length true e j
    |some ac=>ac=none/\ ∃s,s<=(BH l).length/\w s false e j)
   F (λc n=>hd c (.inl n)) ?_ ?_ ?_ ?_ ?_ ?_
  ·rintro i c e j ⟨_,_,f⟩;cases c
   ·exact hB.wf _ _ _ _ f
   ·obtain⟨_,s,_,H⟩:=f;exact hB.wf _ _ _ _ H
  ·rintro i c e j I ⟨r,t,f⟩ m;refine⟨m.ai r (λd=>by omega),t,?_⟩;have ad:Mod (λb=>¬e b/\d.size<=b) j I:=m.ak λb _ a=>⟨a.1,by omega⟩
   cases c
   ·exact hB.bd _ _ _ _ _ f ad
   ·obtain⟨H,s,J,aE⟩:=f;exact⟨H,s,J,hB.bd _ _ _ _ _ aE ad⟩
  ·exact⟨az,λd=>by have:=aA _ d;omega,aD⟩
  ·rintro i x e j rec aK aL L ⟨r,t,f⟩ M aM aF aG ae aH;refine ao.pair λaN af aO aI N aP=>?_
   refine⟨rec,N.ai aF (by simp),aG,?_⟩;generalize k:af.setIfInBounds (u.size+1) (.loop {rec with state:= .busy})=v;have y:Mod (λb=>b=u.size+1) af v:=k▸Mod.setObj rfl;have O:v[u.size+1]? =some (.loop {rec with state:= .busy}):=by rw[<- k];exact Cb (by omega)
   have A:=y.ai aI (by omega);have Q:=y.ai (N.ai r (by simp)) (by omega);have R:Mod (λb=>b=u.size+1) j v:=(Ext.mod N).trans y;have ah:w (BH (l.take i)).length true e v:=hB.bd _ _ _ _ _ f (R.ak λb _ a=>by subst a;exact⟨M,by omega⟩);have ai:BH (l.take (i+1))=BH (l.take i)++BH [x]:=by rw[AD,L];simp[BH]
   refine aj.mk λK ak=>?_
   refine Ac.mk (AB A rfl) ?_;refine ag.intro (λo=>?_) (λo=>?_)
   ·have o:(!x.gone)=true:=o;refine SI.mk (AO Q rfl) ?_;refine AJ.mk (AO A rfl) (AJ.mk (AB A rfl) (Ac.mk (AB A rfl) ?_));refine Eb.mono (ay _ _ e v (vI (p:=λx:Pr=> !x.gone) L o) ah) ?_;rintro _ S ⟨g,B,rfl,al,C,am⟩;refine⟨g,rfl,ak _ _ ?_⟩;have aQ:=AEp (p:=λx:Pr=> !x.gone) l (i+1);have an:(BH (l.take (i+1))).length=(BH (l.take i)).length+1:=by rw[ai];simp only[BH,A1];simp[o]
    have ap:=C.ai Q t;have aq: ¬B d.size:=λn=>(al _ n).elim t λd=>by have:=y.size;omega
    have au:Mod (λb=>e b\/b=u.size+1) j S:=(R.ak λb _ a=> .inr a).trans (C.ak λb _ a=> .inl a);have av: ∀b,B b->e b\/j.size<=b:=λb a=>(al b a).elim .inl λd=> .inr (by have:=y.size;omega)
    refine ag.intro (λk=>aH none S ?_) (λk=>ae S ?_)
    ·have k:g=false:=by simpa using k
     subst k;exact⟨B,av,au,C.ai O M,ap,aq,rfl,_,by have:=an;unfold BH at *;omega,am⟩
    ·have k:g=true:=by simpa using k
     subst k;exact⟨B,av,au,C.ai O M,ap,aq,by show w _ _ _ _;rw[an];exact am⟩
   ·have o:(!x.gone)=false:=o;refine ak _ _ (ag.no rfl (ae v ?_));refine⟨e,λb a=> .inl a,R.ak λb _ a=> .inr a,O,Q,t,?_⟩;show w _ _ _ _;have:BH [x]= []:=by simp at o;simp[BH,o]
    rw[ai,this,AK];exact ah
  ·rintro O' I ⟨r,t,f⟩ U V W X;refine⟨X,rfl,(BH l).length,true,O',?_,?_,?_,λ_=>rfl,A0 _⟩
   ·exact(q.mod.trans U).then (Mod.setObj (.inr (by omega)))
   ·intro b a;exact(W b a).elim .inl λd=> .inr (by omega)
   ·rw[BT] at f;exact hB.bd _ _ _ _ _ f (Mod.setObj ⟨V,by omega⟩)
  ·rintro i ac O' I ⟨r,t,rfl,s,J,f⟩ L U V W X;refine⟨X,rfl,s,false,O',?_,?_,?_,(λd=>by cases d),J⟩
   ·exact(q.mod.trans U).then (Mod.setObj (.inr (by omega)))
   ·intro b a;exact(W b a).elim .inl λd=> .inr (by omega)
   ·exact hB.bd _ _ _ _ _ f (Mod.setObj ⟨V,by omega⟩)
theorem sj {f:ar}{d:aa}{fv:J0}{g:Nat->Prop}{l:List Pr}{i:A2O}(a:(fv= .nilFunc/\l= []/\ ∀c,¬g c)\/EQ f P fv g d l)
  (m: ∀j e,EQ f P j (λc=>g c\/c=d.size) e (BH l)->Ext d e->e.size=d.size+1->i j e):AA f P Ns #[fv] d i:=by
 refine AES ?_;unfold YK;refine Yx.mk ?_ (ao.mk λn _ o k p=>?_)
 ·rcases a with a|a
  ·rw[a.1];rfl
  ·exact a.one.1
 ·refine m _ n (APt o ?_) k p;rcases a with a|a
  ·exact .inl a
  ·exact .inr (a.ak (λ_=>id) (λb h=>by have:=a.1 b h;omega) (λb h=>k.get b (a.1 b h) (by simp)))
def Q3(a:A2P)(x:Pr):Bool:=decide (a=⟨#[]⟩)||aO x.key a
def Po(a:A2P)(b:Int)(l:List Pr):List Pr:=(l.takeWhile (Q3 a)).take b.toNat
theorem nQ {b:Type}{p:b->Bool}: ∀ {l:List b} {i:Nat},i<=(l.takeWhile p).length->(l.takeWhile p).take i=l.take i
 | [],i,_=>by simp
 |y::l,0,_=>by simp
 |y::l,i+1,a=>by
  rw[Mz] at a ⊢;split at a
  ·rename_i c;simp only[c,if_true,I0];rw[nQ (by simpa using a)]
  ·simp at a
theorem Qp: ∀(a:List UInt8),Op.bytesLess a a=false
 | []=>rfl
 |a::x=>by simp[Op.bytesLess,Qp x]
theorem lW: ∀(a b:List UInt8),Op.bytesLess a b=false->Op.bytesLess b a=false->a=b
 | [],[],_,_=>rfl
 | [],_::_,c,_=>by simp[Op.bytesLess] at c
 |_::_,[],_,c=>by simp[Op.bytesLess] at c
 |a::x,b::f,d,e=>by
  simp only[Op.bytesLess,Hk,A07,decide_eq_false_iff_not,beq_eq_false_iff_ne] at d e;have g:a=b:=by grind
  subst g;rw[lW x f (d.2.resolve_left (by simp)) (e.2.resolve_left (by simp))]
theorem TY: ∀(a b c:List UInt8),Op.bytesLess a b=true->Op.bytesLess b c=true->Op.bytesLess a c=true
 |_,[],_,f,_=>by simp[Op.bytesLess] at f
 |_,_::_,[],_,f=>by simp[Op.bytesLess] at f
 | [],_::_,_::_,_,_=>by simp[Op.bytesLess]
 |a::x,b::g,c::z,e,d=>by
  simp only[Op.bytesLess,DA,A4,decide_eq_true_eq,beq_iff_eq] at e d ⊢;rcases e with e|⟨rfl,e⟩
  ·grind
  ·rcases d with d|⟨rfl,d⟩
   ·exact .inl d
   ·exact .inr ⟨rfl,TY x g z e d⟩
theorem CZ(a:A2P):aO a a=false:=Qp _
theorem Da {a b c:A2P}(d:aO a b=true)(e:aO b c=true):aO a c=true:=TY _ _ _ d e
theorem Ny {a b:A2P}(d:aO a b=false)(e:aO b a=false):a=b:=by
 have:=lW _ _ d e;have c:bR a b=true:=by simp[bR,this]
 rw[Ca] at c;simpa using c
theorem OQ {a b:A2P}(c:aO a b=true):aO b a=false:=by grind [aO,Da,CZ]
theorem nR {a b c:A2P}(d:aO a b=true)(e:aO c b=false):aO a c=true:=by grind [aO,Ny,Da]
theorem ZT {a b c:A2P}(d:aO b a=false)(e:aO c b=false):aO c a=false:=by grind [aO,nR]
def upto(p a:Pr):Bool:=aO a.key p.key||bR a.key p.key
def Im(p:Pr)(l:List Pr):List Pr:=l.dropWhile (upto p)
inductive Lr:List (List Pr)->List Pr->Prop
 |done {ls:List (List Pr)} (h: ∀l,l∈ls->l= []):Lr ls []
 |step {ls:List (List Pr)} {k:Nat} {p:Pr} {t out:List Pr} (hk:ls[k]? =some (p::t))
   (hmin: ∀j q u,ls[j]? =some (q::u)->aO q.key p.key=false/\(j<k->aO p.key q.key=true)) (hm:Lr (ls.map (Im p)) out):Lr ls (p::out)
theorem Lr.iw {a:List (List Pr)}{out:List Pr}(m:Lr a out)(b: ∀l,l∈a->l= []):out= []:=by
 cases m with
 |done _=>rfl
 |step c d e=>have:=b _ (AM c);cases this
theorem Lr.gB {a:List (List Pr)}{out:List Pr}(m:Lr a out){c:Nat}{p:Pr}{t:List Pr}(f:a[c]? =some (p::t))
  (h: ∀d b u,a[d]? =some (b::u)->aO b.key p.key=false/\(d<c->aO p.key b.key=true)): ∃e,out=p::e/\Lr (a.map (Im p)) e:=by
 cases m with
 |done g=>have:=g _ (AM f);cases this
 | @step _ i j k l n o q=>
  grind
theorem rV {d:Type}: ∀(a:List d) (b i:Nat) (v:d),(a.set i v).take b=(a.take b).set i v
 | [],b,i,v=>by simp
 |c::a,0,i,v=>by simp
 |c::a,b+1,0,v=>by simp
 |c::a,b+1,i+1,v=>by simp[rV a b i v]
end Go.Lf.G.M
namespace Go.Lf
open G
theorem Own.jw {T:Q7}{d:aa}{s:Sl}{l:List Sl}(e:Own ie T d s l){i:Nat}(y:i<l.length){x:Sl}{K:aa->Prop}{a:Q6}(f:s.p=some a)
  (q: ∀c,Own ie T c s (l.set i x)->Mod (λb=>s.ai=some b) d c->c.size=d.size->K c):af d (a.add (i*1)) (J4 x.p x.len x.cap) K:=by
 rcases e.row with⟨rfl,_⟩|⟨g,z,h,r,t,u,n,o⟩
 ·simp at f
 ·rw[h] at f;cases f;rw[Bf,AI,Bk];have j:ie.w=1:=rfl;rw[j,Bk] at n o;have A:=e.len;refine af.mk r (by omega) λc k m v=>q c ⟨by simpa using e.len,.inr ⟨g,_,h,k,t,u,by simp[n,j],?_⟩⟩ (m.ak λb _ k=>by simp[Sl.ai,h,k]) v
  rw[j,Bk,DS,Go.Lf.G.M.rV,o];have p: ∀l:List Sl,l.flatMap ie.enc=l.map (λs=>Value.slice s.p s.len s.cap):=λl=>by
   induction l with
   |nil=>rfl
   |cons B l w=>rw[AH,w];rfl
  rw[p,p,R1]
end Go.Lf
namespace Go.Lf.G.M
open Go Go.Lf Go.Lf.G
structure ja (lo:Nat) (h:aa) (O:Nat->Prop) (t:Sl) (sls:List Sl) (ls:List (List Pr)):Prop where
 len:sls.length=ls.length
 row: ∀(j:Nat) (sl:Sl) (l:List Pr),sls[j]? =some sl->ls[j]? =some l->View BQ h sl l/\l.length<=1099511627776/\ ∀c,sl.ai=some c->lo<=c/\c<h.size/\t.ai≠some c/\ ¬O c
theorem ja.mod {f:Nat}{b j:aa}{g O':Nat->Prop}{t t':Sl}{k:List Sl}{n:List (List Pr)}{o:Nat->Prop}(p:ja f b g t k n)(m:Mod o b j)(q: ∀c,f<=c->c<b.size->t.ai≠some c-> ¬g c-> ¬o c)
  (r: ∀c,c<b.size->t'.ai=some c->t.ai=some c) (s: ∀c,c<b.size->O' c->g c):ja f j O' t' k n:=
 ⟨p.len,λu sl l h e=>by
  obtain⟨v,w,d⟩:=p.row u sl l h e;refine⟨v.mod m λc a=>q c (d c a).1 (d c a).2.1 (d c a).2.2.1 (d c a).2.2.2,w,λc a=>?_⟩;obtain⟨h,e,x,y⟩:=d c a;have:=m.size;exact⟨h,by omega,λi=>x (r c e i),λi=>y (s c e i)⟩⟩
end Go.Lf.G.M
namespace Go.Lf
open G
theorem View.val {b:aa}{s:Sl}{c:List ig}(v:View jY b s c){i:Nat}{x:ig}(d:c[i]? =some x): ∃a,s.p=some a/\ah b (a.add (i*1))=some x.v:=by obtain⟨a,e,f⟩:=v.cells i x d;exact⟨a,e,f.val⟩
end Go.Lf
namespace Go.Lf.G.M
open Go Go.Lf Go.Lf.G
theorem AQ6 {a6:ar}{ad:aa}{b:Nat}{T:Q7}{fr:Nat×Nat}{s:Sl}{S:Nat->Prop}{I:List ig}{os:List (Option (List Pr))}{out:List Pr}(B:ad[b]? =some (J2 #[J4 s.p s.len s.cap] T fr))(v:View jY ad s I)
  (a7:I.length<=1099511627776) (bD:os.length=I.length)
  (bE: ∀(i:Nat) (v:ig),I[i]? =some v->(v.v= .nilFunc/\os[i]? =some none)\/ ∃l,os[i]? =some (some l)/\EQ a6 P v.v S ad l/\l.length<=1099511627776) (bF:Lr (os.filterMap id) out) (cj: ∀b,S b->b<ad.size):
  EQ a6 P (.func (.func QH) #[] #[J5 (some ⟨b,0,none⟩)]) (λc=>S c\/(c<ad.size/\(c=b\/s.ai=some c))) ad out:=by
 have bG:=Ah B;refine⟨?_,_,_,rfl,λbH=>by kernel_rfl,λf a8 bH aK R ck hd hB bI a9=>?_⟩
 ·grind
 rw[qE];refine ADT ?_;unfold Vo;have bK:=hB.wf _ _ _ _ a9;have bL:f[b]? =some (J2 #[J4 s.p s.len s.cap] T fr):=(a8 b (.inr ⟨bG,.inl rfl⟩)).trans B;have bM: ∀i x,I[i]? =some x-> ∃a,s.p=some a/\ah f (a.add (i*1))=some x.v:=λi x hi=>by
  obtain⟨a,ba,N⟩:=v.val hi
  grind [VD,aV,Sl.ai,Qa,trans]
 have bN: ∀c,S c->c<f.size:=λc k=>by
  grind
 refine AZ.mk (AO bL rfl) ?_;refine Loop.rule (λm x J=> ∃(i:Nat) (t:Sl) (z:List Sl),x=(t,(i:Int),())/\m=I.length-i/\i<=I.length/\Ext f J/\Own ie AQ J t z/\(∀ c,t.ai=some c->f.size<=c)/\ja f.size J R t z ((os.take i).filterMap id)/\z.length<=i) ?_
  ⟨0,⟨none,0,0⟩,[],rfl,rfl,by omega,Mod.refl,Own.nil,λc k=>by simp[Sl.ai] at k,⟨by simp,λe sl l f=>by simp at f⟩,by simp⟩
 rintro K m _ J ⟨i,t,z,rfl,rfl,hi,M,C,an,L,bb⟩ ap;refine ag.intro (λr=>?_) (λr=>?_)
 ·have aA:i<I.length:=by simp[v.len] at r;omega
  have bc:=A2 aA;refine aj.mk λcl bd=>?_
  obtain⟨a,ba,N⟩:=bM i _ bc;refine bJ.mk ba (by rw[v.len];exact aA) ?_;refine SI.mk (M.ah N) ?_;rcases bE i _ bc with⟨be,aL⟩|⟨l,aL,aM,bf⟩
  ·refine⟨by rw[be];trivial,ag.no (by rw[be];rfl) ?_⟩;refine bd _ _ (ap (I.length-(i+1)) _ _ (by omega) ⟨i+1,t,z,by rw[Aa (by omega)],rfl,by omega,M,C,an,?_,by omega⟩);have:(os.take (i+1)).filterMap id=(os.take i).filterMap id:=by rw[AD,aL];simp
   rw[this];exact L
  ·refine⟨aM.one.2.1,ag.yes (by rw[aM.one.2.2];rfl) ?_⟩;refine Wd aM (λc k=>(M.get c (bN c k) (by simp)).trans (a8 c (.inl k))) bf λaq W aN aC aD=>⟨aq,rfl,?_⟩
   refine ao.aZ (E:=ie) (x:=aq) rfl AN9 (C.ext aD) (by omega) (by simp[maxLen];omega) λbg bO bP aE aP _=>?_
   have bQ:Ext f bO:=(M.trans aD).then (aE.ak λc _ k=> .inr (an c k));refine bd _ _ (ap (I.length-(i+1)) _ _ (by omega) ⟨i+1,bg,_,by rw[Aa (by omega)],rfl,by omega,bQ,bP,?_,?_,?_⟩)
   ·intro c k;rcases aP c k with h|h
    ·exact an c h
    ·have:=M.size;have:=aD.size;omega
   ·have G:(os.take (i+1)).filterMap id=(os.take i).filterMap id++ [l]:=by rw[AD,aL];simp
    rw[G];have aF:=(L.mod aD (λc _ _ _ _ f=>f) (λc _ f=>f) (λc _ f=>f)).mod (t':=bg) aE (λc _ _ O _=>O) (λc k h=>(aP c h).elim id λq=>by omega) (λc _ f=>f);refine⟨by simp[aF.len],λe sl H h q=>?_⟩;rcases HK e z.length with A|A|A
    ·rw[GC A] at h;rw[GC (by rw[<- aF.len];exact A)] at q;exact aF.row e sl H h q
    ·subst A;rw[A08] at h;rw[aF.len,A08] at q;cases h;cases q;have cm:t.ai≠aq.ai\/aq.ai=none:=by
      cases aG:aq.ai with
      |none=>exact .inr rfl
      |some c=>
       refine .inl λG=>?_
       have:=C.lt G;have:=aC c aG;omega
     refine⟨(aN.view).mod aE λc k O=>?_,bf,λc k=>⟨?_,?_,?_,?_⟩⟩
     ·grind
     ·have:=aC c k;have:=M.size;omega
     ·have:=aN.lt k;have:=aE.size;omega
     ·intro h;have:=aN.lt k;rcases aP c h with q|q
      ·have:=C.lt q;have:=aC c k;omega
      ·omega
     ·intro h;have:=bK c h;have:=aC c k;have:=M.size;omega
    ·rw[LR (by simp;omega)] at h;cases h
   ·simp;omega
 ·have aA:i=I.length:=by simp[v.len] at r;omega
  rw[aA,<-bD,BT] at L;have bh:=hB.bd _ _ _ _ _ a9 (M.ak (S':=λb=>¬R b/\f.size<=b) λ_ _ f=>f.elim);refine Loop.rule (λm _ J=> ∃(i:Nat) (D:Nat->Prop) (z:List Sl) (j:List (List Pr)) (ae:List Pr),Lr j ae/\m=ae.length/\(∀ n,out[i+n]? =ae[n]?)/\i+ae.length=out.length/\Mod R f J/\(∀ b,D b->R b\/f.size<=b)/\aK i true D J/\
    Own ie AQ J t z/\(∀ c,t.ai=some c-> ¬D c)/\ja f.size J D t z j/\z.length<=1099511627776) ?_
   ⟨0,R,z,_,out,bF,rfl,λn=>by rw[AI],by omega,M.mod,λb B=> .inl B,bh,C,λc k O=>by grind,L,by omega⟩
  clear ap L M C bb bh;rintro cn m _ J ⟨i,D,z,j,ae,bi,rfl,bj,bk,aQ,aR,A,C,aS,L,bb⟩ ap;have co:=hB.wf _ _ _ _ A;refine Loop.rule (λm x aH=> ∃(d:Nat) (X:Int),x=(X,(d:Int),())/\aH=J/\m=j.length-d/\d<=j.length/\((X= -1/\ ∀e l,e<d->j[e]? =some l->l= [])\/
   ∃n p u,X=(n:Nat)/\n<d/\j[n]? =some (p::u)/\ ∀e o y,e<d->j[e]? =some (o::y)->aO o.key p.key=false/\(e<n->aO p.key o.key=true))) ?_
   ⟨0,-1,rfl,rfl,rfl,by omega,.inl ⟨rfl,λe l f=>by omega⟩⟩
  rintro cp m _ aH ⟨d,X,rfl,bS,rfl,O,aT⟩ aU;subst bS;have cq:=L.len;refine ag.intro (λr=>?_) (λr=>?_)
  ·have U:d<j.length:=by simp[C.len] at r;omega
   have F:=A2 U;have Y:=A2 (l:=z) (i:=d) (by omega);obtain⟨Z,bm,_⟩:=L.row d _ _ Y F;refine aj.mk λcr bn=>?_
   refine C.view.idx Y λcs _ c2=>?_
   refine AZ.mk c2.sl ?_;refine aj.mk λbo bp=>?_
   have bq:((X= -1/\ ∀e l,e<d+1->j[e]? =some l->l= [])\/
     ∃n p u,X=(n:Nat)/\n<d+1/\j[n]? =some (p::u)/\ ∀e o y,e<d+1->j[e]? =some (o::y)->aO o.key p.key=false/\(e<n->aO p.key o.key=true))->bo (false,()) aH:=λG=>
    bp _ _ (ag.no rfl (bn _ _ (aU (j.length-(d+1)) _ _ (by omega) ⟨d+1,X,by rw[Aa (by omega)],rfl,rfl,by omega,G⟩)))
   have br:(∃ n p u,(d:Int)=(n:Nat)/\n<d+1/\j[n]? =some (p::u)/\ ∀e o y,e<d+1->j[e]? =some (o::y)->aO o.key p.key=false/\(e<n->aO p.key o.key=true))->bo (true,()) aH:=λG=>
    bp _ _ (ag.yes rfl (bn _ _ (aU (j.length-(d+1)) _ _ (by omega) ⟨d+1,d,by rw[Aa (by omega)],rfl,rfl,by omega,.inr G⟩)))
   refine ag.intro (λr=>?_) (λr=>?_)
   ·cases af:j[d] with
    |nil=>rw[af] at Z;have:=Z.len;simp[this] at r
    |cons o y=>
     rw[af] at Z F;rcases aT with⟨rfl,au⟩|⟨n,p,u,rfl,bs,ab,ai⟩
     ·refine ag.yes (by simp) (br ⟨d,o,y,rfl,by omega,F,λe ak al A w=>?_⟩);rcases Fo e d with h|h
      ·have:=au e _ h w;cases this
      ·have:e=d:=by omega
       subst this;rw[F] at w;cases w;exact⟨CZ _,λf=>by omega⟩
     ·refine ag.no (by simp) ?_;refine Z.idx (i:=0) (x:=o) rfl λct _ bT=>?_
      refine AJ.mk bT.pair.1 ?_;have av:=A2 (l:=z) (i:=n) (by omega);obtain⟨aW,_,_⟩:=L.row n _ _ av ab;refine C.view.idx av λbU _ c4=>?_
      refine AZ.mk c4.sl ?_;refine aW.idx (i:=0) (x:=p) rfl λbV _ aw=>?_
      refine AJ.mk aw.pair.1 ?_;cases aG:aO o.key p.key
      ·refine bq (.inr ⟨n,p,u,rfl,by omega,ab,λe ak al A w=>?_⟩);rcases Fo e d with h|h
       ·exact ai e ak al h w
       ·have:e=d:=by omega
        subst this;rw[F] at w;cases w;exact⟨aG,λf=>by omega⟩
      ·refine br ⟨d,o,y,rfl,by omega,F,λe ak al A w=>?_⟩;rcases Fo e d with h|h
       ·have q:=(ai e ak al h w).1;have W:=nR aG q;exact⟨OQ W,λ_=>W⟩
       ·have:e=d:=by omega
        subst this;rw[F] at w;cases w;exact⟨CZ _,λf=>by omega⟩
   ·have af:j[d]= []:=by
     have:=Z.len;cases af:j[d] with
     |nil=>rfl
     |cons o y=>rw[af] at this;simp[this] at r
    rw[af] at F;refine bq ?_;rcases aT with⟨rfl,au⟩|⟨n,p,u,rfl,bs,ab,ai⟩
    ·refine .inl ⟨rfl,λe l A w=>?_⟩;rcases Fo e d with h|h
     ·exact au e l h w
     ·have:e=d:=by omega
      subst this;rw[F] at w;cases w;rfl
    ·refine .inr ⟨n,p,u,rfl,by omega,ab,λe ak al A w=>?_⟩;rcases Fo e d with h|h
     ·exact ai e ak al h w
     ·have:e=d:=by omega
      subst this;rw[F] at w;cases w
  ·have U:d=j.length:=by simp[C.len] at r;omega
   subst U;clear aU;rcases aT with⟨rfl,au⟩|⟨n,p,u,rfl,bs,ab,ai⟩
   ·refine ag.yes (by simp) ?_;have:ae= []:=bi.iw λl a7=>by
     obtain⟨e,A,G⟩:=Ds a7;exact au e l A (by grind)
    subst this;refine⟨rfl,i,true,D,aQ,aR,A,λ_=>by omega,by omega⟩
   ·refine ag.no (by simp) ?_;have bW: ∀e o y,j[e]? =some (o::y)->aO o.key p.key=false/\(e<n->aO p.key o.key=true):=λe o y N=>ai e o y (List.getElem?_eq_some_iff.1 N).1 N
    obtain⟨bt,rfl,bX⟩:=bi.gB ab bW;have av:=A2 (l:=z) (i:=n) (by omega);obtain⟨aW,_,_⟩:=L.row n _ _ av ab;refine C.view.idx av λbU _ c4=>?_
    refine AZ.mk c4.sl ?_;refine aW.idx (i:=0) (x:=p) rfl λbV _ aw=>?_
    refine AJ.mk aw.pair.1 (AJ.mk aw.pair.2.1 (Ac.mk aw.pair.2.2 ?_));refine ao.pair λbY aX cu bZ aI cv=>?_
    have b0:=C.ext aI;have b1:ja f.size aX D t z j:=L.mod aI (λc _ _ _ _ f=>f) (λc _ f=>f) (λc _ f=>f);have b2:aK i true D aX:=hB.bd _ _ _ _ _ A (aI.ak (S':=λb=>¬D b/\f.size<=b) λ_ _ f=>f.elim);have b3:t.ai≠some bY:=λG=>by have:=C.lt G;omega
    refine Loop.rule (λm x Q=> ∃(d:Nat) (V:List Sl),x=((d:Int),())/\m=j.length-d/\d<=j.length/\Mod (λc=>t.ai=some c) aX Q/\Own ie AQ Q t V/\ja f.size Q D t V ((j.take d).map (Im p)++j.drop d)) ?_
     ⟨0,z,rfl,rfl,by omega,Mod.refl,b0,by simpa using b1⟩
    rintro cw m _ Q ⟨d,V,rfl,rfl,O,ax,am,ay⟩ b4;have b5:V.length=j.length:=by have:=ay.len;simp at this;omega
    have aJ:=ax.ai bZ b3;refine ag.intro (λr=>?_) (λr=>?_)
    ·have U:d<j.length:=by grind
     have Y:=A2 (l:=V) (i:=d) (by omega);have F:((j.take d).map (Im p)++j.drop d)[d]? =some j[d]:=by rw[F0 (by simp;omega)];simp;rw[Fk (by omega),Mn];simp[U]
     obtain⟨Z,bm,cx⟩:=ay.row d _ _ Y F;refine am.view.idx Y λcy cz b6=>?_
     refine AZ.mk b6.sl ?_;refine Loop.rule (λm x aY=> ∃(az:Sl) (H:List Pr),x=(az,())/\aY=Q/\m=H.length/\View BQ Q az H/\(∀ c,az.ai=some c->V[d].ai=some c)/\Im p H=Im p j[d]/\H.length<=1099511627776) ?_
      ⟨_,_,rfl,rfl,rfl,Z,λc f=>f,rfl,bm⟩
     rintro cB m _ aY ⟨az,H,rfl,b7,rfl,ac,aZ,bu,bv⟩ b8;subst b7;refine aj.mk λb9 bw=>?_
     have bx:Im p H=H->b9 (false,()) aY:=λG=>bw _ _ (ag.no rfl (by
      refine am.view.idx Y λcC ca _=>?_
      refine am.jw (i:=d) (by omega) ca λcb cc a0 cD=>?_
      refine b4 (j.length-(d+1)) _ _ (by omega) ⟨d+1,_,by rw[Aa (by omega)],rfl,by omega,ax.trans a0,cc,?_⟩;have a1:ja f.size cb D t V ((j.take d).map (Im p)++j.drop d):=ay.mod a0 (λc _ _ O _=>O) (λc _ f=>f) (λc _ f=>f);refine⟨?_,λe sl l h q=>?_⟩
      ·simp[b5];omega
      ·rcases HK e d with a2|a2|a2
       ·rw[Jx (by omega)] at h;refine a1.row e sl l h ?_;rw[GC (by simp;omega)] at q ⊢;rw[C2,A09 (by omega)] at q ⊢;exact q
       ·subst a2;rw[HN (by omega)] at h;cases h;rw[GC (by simp;omega),C2,A09 (by omega),A2 U] at q;simp at q;subst q;rw[<- bu,G];obtain⟨_,_,k⟩:=a1.row e _ _ Y F;exact⟨ac.mod a0 λc B=>(k c (aZ c B)).2.2.1,bv,λc B=>k c (aZ c B)⟩
       ·rw[Jx (by omega)] at h;refine a1.row e sl l h ?_;rw[F0 (by simp;omega)] at q ⊢;simp only[Bs,Ax,C5] at q ⊢;rw[<- q];congr 1;omega))
     refine ag.intro (λr=>?_) (λr=>?_)
     ·cases H with
      |nil=>have:=ac.len;simp[this] at r
      |cons o y=>
       refine ac.idx (i:=0) (x:=o) rfl λcE _ cd=>?_
       refine AJ.mk cd.pair.1 (AJ.mk (AO aJ rfl) ?_);cases bz:(aO o.key p.key||bR o.key p.key)
       ·exact bx (by simp[Im,upto,bz])
       ·have ce:=ac.len;simp at ce bv;refine bw _ _ (ag.yes rfl ⟨⟨by omega,by show(1:Int)<=((az.len:Nat):Int);omega⟩,b8 y.length _ _ (by simp) ⟨_,y,rfl,rfl,rfl,?_,?_,?_,by omega⟩⟩)
        ·have:=ac.sub (lo:=1) (hi:=(o::y).length) (by simp) (A0 _);rw[BT,<-ac.len] at this;exact this
        ·intro c k;exact aZ c (Zt k)
        ·rw[<- bu];simp[Im,upto,bz]
     ·have:H= []:=by
       have:=ac.len;cases H with
       |nil=>rfl
       |cons o y=>simp[this] at r
      subst this;exact bx rfl
    ·have U:d=j.length:=by simp[am.len] at r;omega
     subst U;rw[BT,Mb,AK] at ay;refine AJ.mk (AO aJ rfl) (AJ.mk (AB aJ rfl) (Ac.mk (AB aJ rfl) ?_));have cf:aK i true D Q:=hB.bd _ _ _ _ _ b2 (ax.ak λc _ k=>⟨aS c k,an c k⟩);have cg:out[i]? =some p:=by have:=bj 0;simpa using this
     refine Eb.mono (bI i p D Q cg cf) ?_;rintro _ ch ⟨g,a3,rfl,a4,a5,bA⟩;have cF:=ax.size;have cG:=aQ.size;have bB: ∀b,a3 b->R b\/f.size<=b:=λb B=>(a4 b B).elim (aR b) λcH=> .inr (by omega)
     have ci:Mod R f Q:=(aQ.trans aI.mod).then (ax.ak λb _ B=> .inr (an b B));have bC:Mod R f ch:=ci.then (a5.ak λb _ B=>aR b B);refine⟨g,rfl,ag.intro (λr=>?_) (λr=>?_)⟩
     ·have N:g=false:=by simpa using r
      subst N;exact⟨rfl,i+1,false,a3,bC,bB,bA,(λf=>by cases f),by simp at bk;omega⟩
     ·have N:g=true:=by simpa using r
      subst N;refine ap bt.length _ _ (by simp) ⟨i+1,a3,V,_,bt,bX,rfl,λn=>?_,by simp at bk;omega,bC,bB,bA,am.mod a5 (λc k=>aS c k),?_,?_,by omega⟩
      ·have:=bj (n+1);rw[show i+1+n=i+(n+1) by omega,this];rfl
      ·intro c k q;rcases a4 c q with W|W
       ·exact aS c k W
       ·have:=am.lt k;omega
      ·exact ay.mod a5 (λc _ _ _ O=>O) (λc _ f=>f) (λc k q=>(a4 c q).elim id λW=>by omega)
def Sorted(l:List Pr):Prop:=l.Pairwise λa b=>aO a.key b.key=true
def Af(a:A2P)(l:List Pr):Option Pr:=l.find? λb=>decide (b.key=a)
theorem QO(a:A2P):Af a []=none:=rfl
theorem BD(a:A2P)(x:Pr)(l:List Pr):Af a (x::l)=if x.key=a then some x else Af a l:=by unfold Af;rw[DE];by_cases b:x.key=a<;>simp[b]
theorem MN {b:A2P}{l:List Pr}{x:Pr}(a:Af b l=some x):x.key=b/\x∈l:=by unfold Af at a;exact⟨by simpa using Rg a,Lz a⟩
theorem EI {a:A2P}{l:List Pr}(b: ∀x∈l,x.key≠a):Af a l=none:=by unfold Af;rw[Hb];simpa using b
theorem Lj {a b:A2P}(c:aO a b=true):a≠b:=by rintro rfl;rw[CZ] at c;cases c
theorem Sorted.find {l:List Pr}(s:Sorted l){x:Pr}(a:x∈l):Af x.key l=some x:=by
 induction l with
 |nil=>cases a
 |cons d l c=>
  rw[BD];have b:=List.pairwise_cons.1 s;rcases List.mem_cons.1 a with rfl|a
  ·simp
  ·rw[if_neg (Lj (b.1 x a))];exact c b.2 a
theorem Sorted.ext: ∀ {l m:List Pr},Sorted l->Sorted m->(∀ d,Af d l=Af d m)->l=m
 | [],[],_,_,_=>rfl
 | [],a::m,_,_,b=>by have:=b a.key;rw[BD,if_pos rfl] at this;cases this
 |x::l,[],_,_,b=>by have:=b x.key;rw[BD,if_pos rfl] at this;cases this
 |x::l,a::m,sl,p,b=>by
  have g:=List.pairwise_cons.1 sl;have h:=List.pairwise_cons.1 p;have f:x.key=a.key:=by
   have e:=b x.key;have n:=b a.key;rw[BD,if_pos rfl] at e;rw[BD a.key a m,if_pos rfl] at n;have i:=(MN e.symm).2;have j:=(MN n).2;rcases List.mem_cons.1 i with c|i
   ·rw[c]
   ·rcases List.mem_cons.1 j with c|j
    ·rw[c]
    ·have q:=h.1 x i;have o:=g.1 a j;rw[OQ q] at o;cases o
  have r:x=a:=by have e:=b x.key;rw[BD,BD,if_pos rfl,if_pos f.symm] at e;exact BY e
  subst r;rw[Sorted.ext g.2 h.2 λd=>?_];have:=b d;rw[BD,BD] at this;by_cases f:x.key=d
  ·subst f;rw[EI λa k c=>Lj (g.1 a k) c.symm,EI λa k c=>Lj (h.1 a k) c.symm]
  ·simpa [f] using this
def ins(x:Pr):List Pr->List Pr
 | []=> [x]
 |q::l=>if aO q.key x.key then q::ins x l else if q.key=x.key then x::l else x::q::l
theorem mY(x:Pr): ∀l,X8 x l=ins x l
 | []=>rfl
 |q::l=>by
  unfold ins;cases b:aO q.key x.key
  ·have a:ic x.key (q::l)= []:=by simp[ic,b]
   by_cases c:q.key=x.key
   ·simp[X8,aQ,a,BF,c]
   ·simp[X8,aQ,a,BF,c]
  ·have a:ic x.key (q::l)=q::ic x.key l:=by simp[ic,b]
   have d:aQ x.key (q::l)=aQ x.key l+1:=by simp[aQ,a]
   have f:BF x.key (q::l)=BF x.key l:=by simp[BF,d]
   have e:=mY x l;unfold X8 at e ⊢;rw[d,f];have g:(if BF x.key l=true then aQ x.key l+1+1 else aQ x.key l+1)=(if BF x.key l=true then aQ x.key l+1 else aQ x.key l)+1:=by split<;>rfl
   rw[g,I0,HU,Dd,Dd,e];simp
theorem qF {x b:Pr}: ∀ {l:List Pr},b∈ins x l->b=x\/b∈l
 | [],a=>by simp[ins] at a;exact .inl a
 |q::l,a=>by
  unfold ins at a;split at a
  ·rcases List.mem_cons.1 a with rfl|a
   ·exact .inr (by simp)
   ·rcases qF a with a|a
    ·exact .inl a
    ·exact .inr (by simp[a])
  ·split at a
   ·rcases List.mem_cons.1 a with rfl|a
    ·exact .inl rfl
    ·exact .inr (by simp[a])
   ·rcases List.mem_cons.1 a with rfl|a
    ·exact .inl rfl
    ·exact .inr a
theorem XC(x:Pr): ∀ {l:List Pr},Sorted l->Sorted (ins x l)
 | [],_=>P0 _ _
 |q::l,s=>by
  have b:=List.pairwise_cons.1 s;unfold ins;split
  ·rename_i d;refine List.pairwise_cons.2 ⟨λc a=>?_,XC x b.2⟩;rcases qF a with rfl|a
   ·exact d
   ·exact b.1 c a
  ·rename_i d;split
   ·rename_i e;refine List.pairwise_cons.2 ⟨λc a=>?_,b.2⟩;have:=b.1 c a;rwa [e] at this
   ·rename_i e;have f:aO x.key q.key=true:=by
     cases g:aO x.key q.key
     ·exact absurd (Ny (by simpa using d) g) e
     ·rfl
    refine List.pairwise_cons.2 ⟨λc a=>?_,s⟩;rcases List.mem_cons.1 a with rfl|a
    ·exact f
    ·exact Da f (b.1 c a)
theorem Xh(x:Pr)(a:A2P): ∀ {l:List Pr},Sorted l->Af a (ins x l)=if x.key=a then some x else Af a l
 | [],_=>by simp[ins,BD,QO]
 |q::l,s=>by
  have c:=List.pairwise_cons.1 s;unfold ins;split
  ·rename_i d;rw[BD,BD,Xh x a c.2];by_cases b:q.key=a
   ·have e:x.key≠a:=by rw[<- b];exact λf=>Lj d f.symm
    simp[b,e]
   ·simp[b]
  ·split
   ·rename_i g;rw[BD,BD,g];by_cases b:x.key=a<;>simp[b]
   ·rw[BD]
def BU(l:List Pr):Prop:= ∀x∈l,Ai x=0
theorem Ql {x:Pr}{l:List Pr}(a:Ai x=0):CY x l=ins x l:=by simp[CY,a,mY]
theorem PZ {x:Pr}{l:List Pr}(s:Sorted l):Sorted (CY x l):=by
 by_cases a:Ai x=0
 ·rw[Ql a];exact XC x s
 ·simpa [CY,a] using s
theorem vJ {x:Pr}{l:List Pr}(g:BU l):BU (CY x l):=by
 by_cases a:Ai x=0
 ·rw[Ql a];exact λb c=>(qF c).elim (λd=>d▸a) (g b)
 ·simpa [CY,a] using g
def A9(t l:List Pr):List Pr:=l.foldl (λt x=>CY x t) t
theorem Q4 {l:List Pr}: ∀ {t},Sorted t->Sorted (A9 t l):=by
 induction l with
 |nil=>exact λs=>s
 |cons x l a=>exact λs=>a (PZ s)
theorem XT {l:List Pr}: ∀ {t},BU t->BU (A9 t l):=by
 induction l with
 |nil=>exact λs=>s
 |cons x l a=>exact λs=>a (vJ s)
theorem Qs {l:List Pr}: ∀ {t},(A9 t l).length<=t.length+l.length:=by
 induction l with
 |nil=>exact λ{t}=>by simp[A9]
 |cons x l a=>intro t;have:=a (t:=CY x t);have:=AN0 x t;simp[A9] at *;omega
theorem AKT {l:List Pr}(a:A2P): ∀ {t},Sorted t->Sorted l->BU l->Af a (A9 t l)=(Af a l).or (Af a t):=by
 induction l with
 |nil=>intro t _ _ _;simp[A9,QO]
 |cons x l f=>
  intro t st sl g;have d:=List.pairwise_cons.1 sl;show Af a (A9 (CY x t) l)=_;rw[f (PZ st) d.2 (λb c=>g b (by simp[c])),Ql (g x (by simp)),Xh x a st,BD];by_cases e:x.key=a
  ·subst e;rw[EI λb c h=>Lj (d.1 b c) h.symm];simp
  ·simp[e]
def Ag(a:List (List Pr)):List Pr:=a.reverse.foldl A9 []
theorem Nu(l:List Pr)(a:List (List Pr)):Ag (l::a)=A9 (Ag a) l:=by simp[Ag,Hi]
theorem Dz: ∀a,Sorted (Ag a)
 | []=>List.Pairwise.nil
 |l::a=>by rw[Nu];exact Q4 (Dz a)
structure bC (ls:List (List Pr)):Prop where
 sorted: ∀l∈ls,Sorted l
 aT: ∀l∈ls,BU l
def Ar(a:A2P)(b:List (List Pr)):Option Pr:=b.findSome? (Af a)
theorem EL(a:A2P)(l:List Pr)(b:List (List Pr)):Ar a (l::b)=(Af a l).or (Ar a b):=by unfold Ar;rw[Rr];cases Af a l<;>rfl
theorem Ko(b:A2P): ∀ {a},bC a->Af b (Ag a)=Ar b a
 | [],_=>rfl
 |l::a,c=>by
  rw[Nu,AKT b (Dz a) (c.sorted l (by simp)) (c.aT l (by simp)),Ko b ⟨λm d=>c.sorted m (by simp[d]),λm d=>c.aT m (by simp[d])⟩,EL]
theorem Uy(p:Pr)(l:List Pr):(Im p l).Sublist l:=List.dropWhile_sublist _
theorem AJd {p q:Pr}(a:upto p q=false):aO p.key q.key=true:=by
 unfold upto at a;rw[Ca] at a;simp at a;cases b:aO p.key q.key
 ·exact absurd (Ny a.1 b) a.2
 ·rfl
theorem AMc {p b:Pr}(a:upto p b=true):aO p.key b.key=false:=by
 unfold upto at a;rw[Ca] at a;simp at a;rcases a with a|a
 ·exact OQ a
 ·rw[a];exact CZ _
theorem ZX {p q:Pr}: ∀ {l:List Pr},Sorted l->q∈Im p l->aO p.key q.key=true
 | [],_,a=>by cases a
 |y::l,s,a=>by
  have b:=List.pairwise_cons.1 s;unfold Im at a;rw[List.dropWhile_cons] at a;split at a
  ·exact ZX b.2 a
  ·rename_i d;have c:=AJd (p:=p) (q:=y) (by simpa using d);rcases List.mem_cons.1 a with rfl|a
   ·exact c
   ·exact Da c (b.1 q a)
theorem vK {p:Pr}{a:A2P}(b:aO p.key a=true): ∀ {l:List Pr},Af a (Im p l)=Af a l
 | []=>rfl
 |y::l=>by
  unfold Im;rw[List.dropWhile_cons];split
  ·rename_i d;have c:=AMc d;rw[BD,if_neg (by rintro rfl;rw[b] at c;cases c)];exact vK b
  ·rfl
theorem Lr.ok {a:List (List Pr)}{out:List Pr}(m:Lr a out):(∀ l∈a,Sorted l)->Sorted out/\ ∀b,Af b out=Ar b a:=by
 induction m with
 |done g=>
  rename_i a;intro _;refine⟨List.Pairwise.nil,λb=>?_⟩;have: ∀a:List (List Pr),(∀ l∈a,l= [])->Ar b a=none:=λa g=>by
   unfold Ar;rw[RC];intro l d;rw[g l d];rfl
  rw[this a g];rfl
 | @step a b p t out F C y r=>
  intro h;have G: ∀l∈a.map (Im p),Sorted l:=λl d=>by
   obtain⟨o,s,rfl⟩:=List.mem_map.1 d;exact(h o s).sublist (Uy p o)
  obtain⟨D,E⟩:=r G;have H: ∀e∈out,aO p.key e.key=true:=λe q=>by
   have f:=D.find q;rw[E] at f;unfold Ar at f;obtain⟨l,d,k⟩:=A0b f;obtain⟨o,s,rfl⟩:=List.mem_map.1 d;exact ZX (h o s) (MN k).2
  refine⟨List.pairwise_cons.2 ⟨H,D⟩,λc=>?_⟩;have I: ∀l∈a,∀e∈l,aO e.key p.key=false:=λl d e q=>by
   obtain⟨i,v,j⟩:=Ds d;cases l with
   |nil=>cases q
   |cons w u=>
    have f:=(C i w u (by rw[A2 v,j])).1;have z:=List.pairwise_cons.1 (h _ d);rcases List.mem_cons.1 q with rfl|q
    ·exact f
    ·cases k:aO e.key p.key
     ·rfl
     ·have:=Da (z.1 e q) k;rw[this] at f;cases f
  rw[BD];by_cases A:p.key=c
  ·subst A;simp only[if_true];have: ∀(a:List (List Pr)) (b:Nat),a[b]? =some (p::t)->(∀ i e u,a[i]? =some (e::u)->i<b->aO p.key e.key=true)->(∀ l∈a,Sorted l)->Ar p.key a=some p:=by
    intro a
    induction a with
    |nil=>intro b g;simp at g
    |cons l a r=>
     intro b g y h;rw[EL];cases b with
     |zero=>simp at g;subst g;rw[BD,if_pos rfl];rfl
     |succ b=>
      have J:Af p.key l=none:=by
       cases l with
       |nil=>rfl
       |cons w u=>
        have f:=y 0 w u rfl (by omega);have z:=List.pairwise_cons.1 (h _ (by simp:(w::u)∈(w::u)::a));refine EI λx n j=>?_
        rcases List.mem_cons.1 n with rfl|n
        ·rw[j,CZ] at f;cases f
        ·have:=Da f (z.1 x n);rw[j,CZ] at this;cases this
      rw[J,LN];exact r b (by simpa using g) (λi e u v M=>y (i+1) e u (by simpa using v) (by omega)) (λl d=>h l (by simp[d]))
   rw[this a b F (λi e u v=>(C i e u v).2) h]
  ·rw[if_neg A,E];unfold Ar;cases k:aO p.key c
   ·
    have B:aO c p.key=true:=by
     cases B:aO c p.key
     ·exact absurd (Ny k B) A
     ·rfl
    have K:(a.map (Im p)).findSome? (Af c)=none:=by
     rw[RC];intro l d;obtain⟨o,s,rfl⟩:=List.mem_map.1 d;refine EI λx n j=>?_
     have:=ZX (h o s) n;rw[j,k] at this;cases this
    have L:a.findSome? (Af c)=none:=by
     rw[RC];intro l d;refine EI λx n j=>?_
     have:=I l d x n;rw[j,B] at this;cases this
    rw[K,L]
   ·have: ∀a:List (List Pr),(a.map (Im p)).findSome? (Af c)=a.findSome? (Af c):=λa=>by
     induction a with
     |nil=>rfl
     |cons l a r=>rw[B9,Rr,Rr,vK k,r]
    rw[this]
theorem UT: ∀(e:List (List Pr)),(∀ l∈e,l= [])\/ ∃(f:Nat) (p:Pr) (t:List Pr),e[f]? =some (p::t)/\ ∀(a:Nat) (c:Pr) (u:List Pr),e[a]? =some (c::u)->aO c.key p.key=false/\(a<f->aO p.key c.key=true)
 | []=> .inl λl d=>by cases d
 |l::e=>by
  cases l with
  |nil=>
   rcases UT e with d|⟨f,p,t,i,g⟩
   ·refine .inl λl j=>?_
    rcases List.mem_cons.1 j with rfl|j
    ·rfl
    ·exact d l j
   ·refine .inr ⟨f+1,p,t,by simpa using i,λa c u b=>?_⟩;cases a with
    |zero=>simp at b
    |succ a=>have:=g a c u (by simpa using b);exact⟨this.1,λd=>this.2 (by omega)⟩
  |cons k u=>
   rcases UT e with d|⟨f,p,t,i,g⟩
   ·refine .inr ⟨0,k,u,rfl,λa c h b=>⟨?_,λd=>by omega⟩⟩;cases a with
    |zero=>simp at b;rw[b.1];exact CZ _
    |succ a=>have:=d _ (AM (by simpa using b));cases this
   ·cases m:aO p.key k.key
    ·refine .inr ⟨0,k,u,rfl,λa c h b=>⟨?_,λd=>by omega⟩⟩;cases a with
     |zero=>simp at b;rw[b.1];exact CZ _
     |succ a=>exact ZT m (g a c h (by simpa using b)).1
    ·refine .inr ⟨f+1,p,t,by simpa using i,λa c h b=>?_⟩;cases a with
     |zero=>simp at b;rw[<- b.1];exact⟨OQ m,λ_=>m⟩
     |succ a=>have:=g a c h (by simpa using b);exact⟨this.1,λd=>this.2 (by omega)⟩
def total(a:List (List Pr)):Nat:=(a.map List.length).sum
theorem Xe(p:Pr): ∀a,total (a.map (Im p))<=total a
 | []=>A0 _
 |l::a=>by
  have:=Xe p a;have:=(Uy p l).length_le;simp[total] at *;omega
theorem Yl {p:Pr}{t:List Pr}: ∀ {ls:List (List Pr)} {k:Nat},ls[k]? =some (p::t)->total (ls.map (Im p))<total ls
 | [],k,a=>by simp at a
 |l::ls,0,a=>by
  simp at a;subst a;have b:=Xe p ls;have c:=(Uy p t).length_le;have d:Im p (p::t)=Im p t:=by simp[Im,upto,Ca]
  simp only[total,B9,GP,d,A5] at*
  omega
 |l::ls,k+1,a=>by
  have b:=Yl (p:=p) (t:=t) (ls:=ls) (k:=k) (by simpa using a);have c:=(Uy p l).length_le;simp only[total,B9,GP] at*
  omega
theorem AEm(a:List (List Pr)): ∃out,Lr a out/\out.length<=total a:=by
 generalize h:total a=b
 induction b using Nat.strongRecOn generalizing a with
 |_ b d=>
  rcases UT a with e|⟨i,p,t,c,f⟩
  ·exact⟨[],.done e,by simp⟩
  ·have j:=Yl c;obtain⟨out,g,k⟩:=d _ (by omega) (a.map (Im p)) rfl;exact⟨p::out,.step c f g,by simp;omega⟩
theorem sv {t l:List Pr}{a:Nat}{x:Pr}(b:l[a]? =some x):A9 t (l.take (a+1))=CY x (A9 t (l.take a)):=by rw[AD,b];simp only[A9,Hi,DB,I2,N3]
theorem TU: ∀a,(Ag a).length<=total a
 | []=>A0 _
 |l::a=>by
  rw[Nu];have:=TU a;have:=Qs (l:=l) (t:=Ag a);simp[total] at *;omega
theorem Xq: ∀a,BU (Ag a)
 | []=>λ_ b=>by cases b
 |l::a=>by rw[Nu];exact XT (Xq a)
theorem AJu(l:List Pr)(a:List (List Pr)):total (l::a)=l.length+total a:=by simp[total]
def sy(f:ar)(d:Nat->Prop)(a:aa)(s:Sl)(e:List (List Pr)):Prop:=
 ∃b,View jY a s b/\(∀ c,s.ai=some c->c<a.size/\ ¬d c)/\b.length=e.length/\ ∀(i:Nat) (v:ig) (l:List Pr),b[i]? =some v->e[i]? =some l->(v.v= .nilFunc/\l= [])\/(EQ f P v.v (λc=>c<a.size/\ ¬d c) a l/\l.length<=1099511627776)
end Go.Lf.G.M
namespace Go.Lf
open G
theorem EQ.later {f:ar}{d:Nat->Prop}{fv:J0}{b e:aa}{l:List Pr}(h:EQ f P fv (λc=>c<b.size/\ ¬d c) b l){g:Nat->Prop}(x:Mod g b e)(i: ∀c,c<b.size->g c->d c):EQ f P fv (λc=>c<e.size/\ ¬d c) e l:=
 h.ak (λc a=>⟨by have:=x.size;omega,a.2⟩) (λc a=>a.1) λc a=>x.get c a.1 λj=>a.2 (i c a.1 j)
end Go.Lf
namespace Go.Lf.G.M
open Go Go.Lf Go.Lf.G
theorem si {p:ar}{k:Nat->Prop}{a:aa}{s:Sl}{ls:List (List Pr)}{x:A2O}(G:sy p k a s ls)(hX: ∀c,k c->c<a.size)(t:ls.length<=1099511627776)(u:bC ls)
  (y: ∀fv n,EQ p P fv (λc=>c<n.size/\ ¬k c) n (Ag ls)->Ext a n->n.size=a.size+1->x fv n):AA p P PQ #[J4 s.p s.len s.cap] a x:=by
 obtain⟨q,v,z,w,A⟩:=G;refine AGd ?_;unfold uZ;refine ao.mk λg _ B r C=>?_
 have H: ∃os:List (Option (List Pr)),os.length=q.length/\(∀ (i:Nat) (v:ig),q[i]? =some v->(v.v= .nilFunc/\os[i]? =some none)\/ ∃l,os[i]? =some (some l)/\EQ p P v.v (λc=>c<a.size/\ ¬k c) a l/\l.length<=1099511627776)/\
   (∀ l,l∈os.filterMap id->l∈ls)/\ ∀b,Ar b (os.filterMap id)=Ar b ls:=by
  clear v hX t u y B r C z
  induction q generalizing ls with
  |nil=>
   have:ls= []:=CC w.symm;subst this;exact⟨[],rfl,λi v a=>by simp at a,λl a=>by simp at a,λb=>rfl⟩
  |cons v q I=>
   cases ls with
   |nil=>simp at w
   |cons l ls=>
    obtain⟨os,g,h,D,E⟩:=I (ls:=ls) (by simpa using w) (λi v l g h=>A (i+1) v l (by simpa using g) (by simpa using h));rcases A 0 v l rfl rfl with⟨j,o⟩|⟨j,o⟩
    ·refine⟨none::os,by simp[g],λi v e=>?_,λm d=>?_,λb=>?_⟩
     ·cases i with
      |zero=>simp at e;subst e;exact .inl ⟨j,rfl⟩
      |succ i=>exact h i v (by simpa using e)
     ·simp at d;exact AF _ (D m (by simpa using d))
     ·subst o;rw[EL];simpa [QO] using E b
    ·refine⟨some l::os,by simp[g],λi v e=>?_,λm d=>?_,λb=>?_⟩
     ·cases i with
      |zero=>simp at e;subst e;exact .inr ⟨l,rfl,j,o⟩
      |succ i=>exact h i v (by simpa using e)
     ·simp at d;rcases d with rfl|d
      ·simp
      ·exact AF _ (D m (by simpa using d))
     ·rw[EL,Wg];simp only[id];rw[EL,E b]
 obtain⟨os,J,K,L,M⟩:=H;obtain⟨out,d,_⟩:=AEm (os.filterMap id);have N:out=Ag ls:=by
  have F:=d.ok λl t=>u.sorted l (L l t)
  exact F.1.ext (Dz ls) λb=>by rw[F.2 b,M b,Ko b u]
 subst N;refine y _ g ((AQ6 (S:=λc=>c<a.size/\ ¬k c) B (v.ext r) (by omega) J (λi v e=>?_) d (λc f=>by omega)).ak ?_ (λc f=>f.1) (λc _=>rfl)) r C
 ·rcases K i v e with j|⟨l,j,o,O⟩
  ·exact .inl j
  ·exact .inr ⟨l,j,o.ak (λc f=>f) (λc f=>by omega) (λc f=>r.get c f.1 (λa=>a)),O⟩
 ·rintro c (f|⟨g,h⟩)
  ·exact⟨by omega,f.2⟩
  ·refine⟨g,?_⟩;rcases h with rfl|h
   ·intro a;have:=hX _ a;omega
   ·exact(z c h).2
theorem QD(a:A2P)(b c:List (List Pr)):Ar a (b++c)=(Ar a b).or (Ar a c):=by unfold Ar;rw[List.findSome?_append]
theorem LP(a:A2P)(l m:List Pr):Af a (l++m)=(Af a l).or (Af a m):=by unfold Af;rw[List.find?_append]
structure DX where
 ai:Nat
 pr:Pr
 ht:Nat
def cU(nx:Nat->Q2):List J0:=(List.range 12).map λi=>J5 (nx i)
def FM(p:Pr)(nx:Nat->Q2):Array J0:=(([J7 p.key,J7 p.val,J3 p.gone]:List J0)++cU nx).toArray
def Dk(nx:Nat->Q2)(a b:Int):Array J0:=(([J7 ⟨#[]⟩,J7 ⟨#[]⟩,J3 false]:List J0)++cU nx++([J6 J9 a,J6 J9 b]:List J0)).toArray
theorem BZ(nx:Nat->Q2):(cU nx).length=12:=by simp[cU]
theorem Ta {nx:Nat->Q2}{i:Nat}(a:i<12):(cU nx)[i]? =some (J5 (nx i)):=by simp[cU,a]
theorem qD {nx:Nat->Q2}{i:Nat}(v:Q2):(cU nx).set i (J5 v)=cU (λa=>if a=i then v else nx a):=by
 refine List.ext_getElem? λa=>?_
 by_cases b:a<12
 ·rw[MA,Ta b,Ta b,BZ];by_cases c:i=a
  ·subst c;simp[b]
  ·simp[c,Ne.symm c]
 ·rw[LR (by simp[BZ];omega),LR (by simp[BZ];omega)]
theorem AN2 {p:Pr}{nx:Nat->Q2}{i:Nat}(a:i<12):(FM p nx)[3+i]? =some (J5 (nx i)):=by simp only[FM,MD];rw[F0 (by simp)];simpa using Ta a
theorem AOY {nx:Nat->Q2}{a b:Int}{i:Nat}(c:i<12):(Dk nx a b)[3+i]? =some (J5 (nx i)):=by simp only[Dk,MD];rw[A3,F0 (by simp),GC (by simp[BZ];omega)];simpa using Ta c
theorem lV {nx:Nat->Q2}{a b:Int}:(Dk nx a b)[15]? =some (J6 J9 a)/\(Dk nx a b)[16]? =some (J6 J9 b):=by
 simp only[Dk,MD];constructor
 ·rw[F0 (by simp[BZ])];simp[BZ]
 ·rw[F0 (by simp[BZ])];simp[BZ]
theorem Qx {p:Pr}{nx:Nat->Q2}:(FM p nx).size=15:=by simp[FM,BZ]
theorem cX {nx:Nat->Q2}{a b:Int}:(Dk nx a b).size=17:=by simp[Dk,BZ]
theorem vD {p:Pr}{nx:Nat->Q2}{i:Nat}(v:Q2):(FM p nx).setIfInBounds (3+i) (J5 v)=FM p (λa=>if a=i then v else nx a):=by apply Array.toList_inj.1;rw[DS];simp only[FM,MT];rw[HM _ _ (by simp),<-qD v];simp
theorem AO3 {nx:Nat->Q2}{a b:Int}{i:Nat}(d:i<12)(v:Q2):(Dk nx a b).setIfInBounds (3+i) (J5 v)=Dk (λc=>if c=i then v else nx c) a b:=by apply Array.toList_inj.1;rw[DS];simp only[Dk,MT];rw[A3,HM _ _ (by simp),ZD _ _ (by simp[BZ];omega),<-qD v];simp
theorem AMf {nx:Nat->Q2}{c a b:Int}:(Dk nx c a).setIfInBounds 15 (J6 J9 b)=Dk nx b a:=by apply Array.toList_inj.1;rw[DS];simp only[Dk,MT];rw[HM _ _ (by simp[BZ])];simp[BZ]
theorem vE {nx:Nat->Q2}{a c b:Int}:(Dk nx a c).setIfInBounds 16 (J6 J9 b)=Dk nx a b:=by apply Array.toList_inj.1;rw[DS];simp only[Dk,MT];rw[HM _ _ (by simp[BZ])];simp[BZ]
theorem Co {a:aa}{b i:Nat}{l:Nat->Q2}{T:Q7}{fr:Nat×Nat}(c:a[b]? =some (J2 (cU l).toArray T fr))(d:i<12):ah a ⟨b,i,none⟩=some (J5 (l i)):=by rw[Hr c,MD];exact Ta d
def addrAt(t:Nat)(ns:List DX)(p:Nat):Q6:=match p with|0=>⟨t,0,none⟩|p+1=>match ns[p]? with|some x=>⟨x.ai,0,none⟩|none=>⟨t,0,none⟩
def Sw(ns:List DX)(p:Nat):Nat:=match p with|0=>12|p+1=>match ns[p]? with|some x=>x.ht|none=>0
def DL(i:Nat)(l:List DX):Q2:=(l.find? λx=>decide (i<x.ht)).map λx=>⟨x.ai,0,none⟩
def cT(t:Nat)(ns:List DX)(b:Nat):Prop:=b=t\/ ∃x∈ns,x.ai=b
structure Lay (h:aa) (t:Nat) (ns:List DX) (nx:Nat->Nat->Q2) (n sz:Int):Prop where
 head:h[t]? =some (J2 (Dk (nx 0) n sz) vN (0,0))
 node: ∀(j:Nat) (x:DX),ns[j]? =some x->h[x.ai]? =some (J2 (FM x.pr (nx (j+1))) RD (0,0))/\x.ai≠t
 apart:ns.Pairwise λx y=>x.ai≠y.ai
structure kQ (ns:List DX) (nx:Nat->Nat->Q2):Prop where
 link: ∀p i,p<=ns.length->i<12->i<Sw ns p->nx p i=DL i (ns.drop p)
 ht: ∀x∈ns,1<=x.ht/\x.ht<=12
theorem Lay.mod {c d:aa}{t:Nat}{ns:List DX}{nx:Nat->Nat->Q2}{e f:Int}{g:Nat->Prop}(l:Lay c t ns nx e f)(m:Mod g c d)(h: ∀b,cT t ns b-> ¬g b):Lay d t ns nx e f:=
 ⟨m.ai l.head (h _ (.inl rfl)),λi x a=>⟨m.ai (l.node i x a).1 (h _ (.inr ⟨x,AM a,rfl⟩)),(l.node i x a).2⟩,l.apart⟩
theorem Lay.ext {a b:aa}{t:Nat}{ns:List DX}{nx:Nat->Nat->Q2}{c d:Int}(l:Lay a t ns nx c d)(m:Ext a b):Lay b t ns nx c d:=l.mod m λ_ _ a=>a
theorem Lay.lt {a:aa}{t:Nat}{ns:List DX}{nx:Nat->Nat->Q2}{c d:Int}(l:Lay a t ns nx c d){b:Nat}(e:cT t ns b):b<a.size:=by
 rcases e with rfl|⟨x,f,rfl⟩
 ·exact Ah l.head
 ·obtain⟨g,h,i⟩:=Ds f;exact Ah (l.node g x (by rw[A2 h,i])).1
theorem Lay.next {a:aa}{t:Nat}{ns:List DX}{nx:Nat->Nat->Q2}{d e:Int}(l:Lay a t ns nx d e){p i:Nat}(g:p<=ns.length)(b:i<12):ah a (((addrAt t ns p).add 3).add (i*1))=some (J5 (nx p i)):=by
 rw[add_add,Bk];cases p with
 |zero=>show ah a ((⟨t,0,none⟩:Q6).add (3+i))=_;exact AB l.head (AOY b)
 |succ p=>
  have c:=A2 (l:=ns) (i:=p) (by omega);have f:addrAt t ns (p+1)=⟨ns[p].ai,0,none⟩:=by simp[addrAt,c]
  rw[f];exact AB (l.node p _ c).1 (AN2 b)
theorem Lay.pair {a:aa}{t:Nat}{ns:List DX}{nx:Nat->Nat->Q2}{d e:Int}(l:Lay a t ns nx d e){c:Nat}{x:DX}(f:ns[c]? =some x):
  ah a ⟨x.ai,0,none⟩=some (J7 x.pr.key)/\ah a ((⟨x.ai,0,none⟩:Q6).add 1)=some (J7 x.pr.val)/\ah a ((⟨x.ai,0,none⟩:Q6).add 2)=some (J3 x.pr.gone):=by
 have b:=(l.node c x f).1;exact⟨AO b rfl,AB b rfl,AB b rfl⟩
theorem AGv {i:Nat}{l:List DX}{a:Q6}(b:DL i l=some a): ∃e x,l[e]? =some x/\a=⟨x.ai,0,none⟩/\i<x.ht/\ ∀(c:Nat) (d:DX),c<e->l[c]? =some d->d.ht<=i:=by
 induction l with
 |nil=>simp[DL] at b
 |cons x l h=>
  unfold DL at b;rw[DE] at b;by_cases f:i<x.ht
  ·simp[f] at b;exact⟨0,x,rfl,b.symm,f,λc d j=>by omega⟩
  ·simp[f] at b;obtain⟨e,d,k,m,n,o⟩:=h (by simpa [DL] using b);refine⟨e+1,d,by simpa using k,m,n,λc z j g=>?_⟩;cases c with
   |zero=>simp at g;subst g;omega
   |succ c=>exact o c z (by omega) (by simpa using g)
theorem Xl {i:Nat}{l:List DX}(a:DL i l=none): ∀x∈l,x.ht<=i:=by intro x b;simp[DL] at a;exact a x b
theorem AGK {i:Nat}{l:List DX}{k:Nat}(c:k<=l.length)(d: ∀(a:Nat) (b:DX),a<k->l[a]? =some b->b.ht<=i):DL i l=DL i (l.drop k):=by
 induction k generalizing l with
 |zero=>simp
 |succ k e=>
  cases l with
  |nil=>simp at c
  |cons x l=>
   have f:=d 0 x (by omega) rfl;rw[HU,<-e (by simpa using c) λa b h g=>d (a+1) b (by omega) (by simpa using g)];unfold DL;rw[DE];simp[Nat.not_lt.2 f]
abbrev bY(ns:List DX):List Pr:=ns.map (·.pr)
theorem p6 {key:A2P}: ∀ {l:List Pr},Sorted l-> ∀ {j:Nat} {x:Pr},l[j]? =some x->(j<aQ key l↔aO x.key key=true)
 | [],_,j,x,a=>by simp at a
 |y::l,s,j,x,a=>by
  have d:=List.pairwise_cons.1 s;by_cases b:aO y.key key=true
  ·have c:aQ key (y::l)=aQ key l+1:=by simp[aQ,ic,b]
   rw[c];cases j with
   |zero=>simp at a;subst a;simp[b]
   |succ j=>
    have:=p6 (key:=key) d.2 (j:=j) (x:=x) (by simpa using a);rw[<- this];omega
  ·have c:aQ key (y::l)=0:=by simp[aQ,ic,b]
   rw[c];cases j with
   |zero=>simp at a;subst a;simp[b]
   |succ j=>
    have f:x∈l:=AM (by simpa using a);have g:=d.1 x f;constructor
    ·intro e;omega
    ·intro e;exact absurd (Da g e) b
structure VE (ns:List DX) (key:A2P) (i p:Nat):Prop where
 le:p<=aQ key (bY ns)
 ht:i<Sw ns p
 last: ∀(j:Nat) (y:DX),p<=j->j<aQ key (bY ns)->ns[j]? =some y->y.ht<=i
theorem YG(key:A2P)(ns:List DX):aQ key (bY ns)<=ns.length:=by have:=mV key (bY ns);simpa using this
theorem IB {a:Array J0}(l:Nat->Q2)(c:a=(cU l).toArray)(i:Nat)(v:Q2):a.setIfInBounds i (J5 v)=(cU (λb=>if b=i then v else l b)).toArray:=by subst c;apply Array.toList_inj.1;rw[DS];exact qD v
theorem AMk {a:Nat}(b:a<100):J8 J9 (((a+1:Nat):Int)-(1:Int))=(a:Int):=by rw[show(((a+1:Nat):Int)-1)=(a:Int) by omega];exact Fa (by omega)
set_option maxHeartbeats 400000 in
theorem Zo {an:ar}{h:aa}{t:Nat}{ns:List DX}{nx:Nat->Nat->Q2}{ap aq:Int}{key:A2P}{H:A2O}(L:Lay h t ns nx ap aq)(K:kQ ns nx)(s:Sorted (bY ns))
  (au: ∀(b:Nat->Nat) I,(∀ i,i<12->VE ns key i (b i))->Ext h I->H (.agg #[J5 (some (addrAt t ns (b 0))),J5 (some (addrAt t ns (b 1))),J5 (some (addrAt t ns (b 2))),J5 (some (addrAt t ns (b 3))),J5 (some (addrAt t ns (b 4))),J5 (some (addrAt t ns (b 5))),J5 (some (addrAt t ns (b 6))),J5 (some (addrAt t ns (b 7))),J5 (some (addrAt t ns (b 8))),J5 (some (addrAt t ns (b 9))),J5 (some (addrAt t ns (b 10))),J5 (some (addrAt t ns (b 11)))]) I):
  AA an P F3 #[J5 (some ⟨t,0,none⟩),J7 key] h H:=by
 refine VX ?_;unfold Oj;refine ao.mk λk _ av J a2=>ao.mk λo _ aw M a3=>?_
 have ax:Ext h o:=J.trans M;have a4:=YG key ns;refine Loop.rule (λm x q=> ∃(p:Nat) (b:Nat->Nat) (l:Nat->Q2),x=(some (addrAt t ns p),(m:Int)-1,())/\m<=12/\Mod (λc=>c=k.size) o q/\p<=aQ key (bY ns)/\(m=0\/m<=Sw ns p)/\
   q[k.size]? =some (J2 (cU l).toArray ED (0,0))/\(∀ i,i<12->m<=i->VE ns key i (b i)/\l i=some (addrAt t ns (b i)))) ?_
  (m:=12) ⟨0,λ_=>0,λ_=>none,rfl,by omega,Mod.refl,by omega,.inr (by simp[Sw]),aw,λi k o=>by omega⟩
 rintro a5 m _ q ⟨p,b,l,rfl,a6,C,w,y,e,d⟩ ay;have N:Ext h q:=ax.then (C.ak λc _ v=> .inr (by have:=J.size;omega));refine ag.intro (λv=>?_) (λv=>?_)
 ·cases m with
  |zero=>simp at v
  |succ i=>
   have z:i<12:=by omega
   have az:(((i+1:Nat):Int)-1)=(i:Int):=by omega
   rw[az];have O:=L.ext N;refine Loop.rule (λm x A=> ∃p:Nat,x=(some (addrAt t ns p),())/\A=q/\m=aQ key (bY ns)-p/\p<=aQ key (bY ns)/\i<Sw ns p) ?_ ⟨p,rfl,rfl,rfl,w,by rcases y with h|h<;>omega⟩;rintro a7 m _ A ⟨p,rfl,aA,rfl,w,y⟩ aC;subst aA;have D:nx p i=DL i (ns.drop p):=K.link p i (by omega) z y;have ah:=O.next (p:=p) (i:=i) (by omega) z;refine aj.mk λaD Q=>?_
   have B:(0:Int)<=(i:Int)/\(i:Int)<(12:Int):=⟨by omega,by omega⟩;have R:(∀ (j:Nat) (r:DX),p<=j->j<aQ key (bY ns)->ns[j]? =some r->r.ht<=i)->aD (false,()) A:=λaE=>Q _ _ (ag.no rfl (by
    refine⟨B,?_⟩;show af A ((⟨k.size,0,none⟩:Q6).add (i*1)) _ _;rw[Bf,AI,Bk];refine af.mk e (by simp[BZ];omega) λa8 S E a9=>?_
    rw[IB l rfl] at S;have aF:VE ns key i p:=⟨w,y,aE⟩;refine ay i _ _ (by omega) ⟨p,λf=>if f=i then p else b f,_,?_,by omega,C.trans E,w,.inr (by omega),S,λf n ba=>?_⟩
    ·cases i with
     |zero=>rfl
     |succ i=>rw[AMk (by omega),show(((i+1:Nat):Int)-1)=(i:Int) by omega]
    ·by_cases T:f=i
     ·subst T;simp[aF]
     ·simp[T];exact d f n (by omega)))
   refine⟨B,?_⟩;rw[A6];refine AY.mk ah ?_;cases u:nx p i with
   |none=>
    refine ag.no rfl ?_;refine R λj r aG aH F=>?_
    rw[D] at u;refine Xl u r ?_;rw[List.mem_drop_iff_getElem];have:=List.getElem?_eq_some_iff.1 F;exact⟨j-p,by omega,by rw[<- this.2];congr 1;omega⟩
   |some a=>
    refine ag.yes rfl ?_;refine⟨B,AY.mk (u▸ah) ?_⟩;rw[D] at u;obtain⟨f,x,n,rfl,aI,aJ⟩:=AGv u;rw[C5] at n;refine AJ.mk (O.pair n).1 ?_;have aK:(bY ns)[p+f]? =some x.pr:=by simp[bY,n]
    have U:=p6 (key:=key) s aK;cases G:aO x.pr.key key
    ·refine R λj r aG aH F=>?_
     have bb:j<p+f:=by
      rcases Fo j (p+f) with k|k
      ·exact k
      ·have o:p+f<aQ key (bY ns):=by omega
       rw[U.1 o] at G;cases G
     exact aJ (j-p) r (by omega) (by rw[C5];rw[<- F];congr 1;omega)
    ·have o:=U.2 G;refine Q _ _ (ag.yes rfl ?_);refine⟨B,AY.mk (u▸D▸ah) ?_⟩;have aL:addrAt t ns (p+f+1)=⟨x.ai,0,none⟩:=by simp[addrAt,n]
     refine aC (aQ key (bY ns)-(p+f+1)) _ _ (by omega) ⟨p+f+1,by rw[aL],rfl,rfl,by omega,by simp[Sw,n,aI]⟩
 ·have aM:m=0:=by simp at v;omega
  subst aM;have aN:q[h.size]? =some (J2 (cU (λ_=>none)).toArray ED (0,0)):=C.ai (M.ai av (by simp)) (by omega);simp only[Bf,AI];refine AY.mk (Co e (i:=0) (by omega)) ?_;refine AY.mk (Co e (i:=1) (by omega)) ?_;refine AY.mk (Co e (i:=2) (by omega)) ?_;refine AY.mk (Co e (i:=3) (by omega)) ?_;refine AY.mk (Co e (i:=4) (by omega)) ?_;refine AY.mk (Co e (i:=5) (by omega)) ?_;refine AY.mk (Co e (i:=6) (by omega)) ?_;refine AY.mk (Co e (i:=7) (by omega)) ?_;refine AY.mk (Co e (i:=8) (by omega)) ?_;refine AY.mk (Co e (i:=9) (by omega)) ?_;refine AY.mk (Co e (i:=10) (by omega)) ?_;refine AY.mk (Co e (i:=11) (by omega)) ?_;refine af.mk aN (by simp[BZ]) λbc V aP bd=>?_
  rw[IB _ rfl] at V;refine af.mk V (by simp[BZ]) λbe W aR bf=>?_
  rw[IB _ rfl] at W;refine af.mk W (by simp[BZ]) λbg X aS bh=>?_
  rw[IB _ rfl] at X;refine af.mk X (by simp[BZ]) λbi Y aT bj=>?_
  rw[IB _ rfl] at Y;refine af.mk Y (by simp[BZ]) λbk Z aU bm=>?_
  rw[IB _ rfl] at Z;refine af.mk Z (by simp[BZ]) λbn ab aV bo=>?_
  rw[IB _ rfl] at ab;refine af.mk ab (by simp[BZ]) λbp ac E bq=>?_
  rw[IB _ rfl] at ac;refine af.mk ac (by simp[BZ]) λbr ad aW bs=>?_
  rw[IB _ rfl] at ad;refine af.mk ad (by simp[BZ]) λbt ae aX bu=>?_
  rw[IB _ rfl] at ae;refine af.mk ae (by simp[BZ]) λbv ai aY bw=>?_
  rw[IB _ rfl] at ai;refine af.mk ai (by simp[BZ]) λbx ak aZ bz=>?_
  rw[IB _ rfl] at ak;refine af.mk ak (by simp[BZ]) λal am a0 bA=>?_
  rw[IB _ rfl] at am;have g:al[h.size]? =some (J2 (cU l).toArray ED (0,0)):=by rw[am];congr 3
  refine AY.mk (Co g (i:=0) (by omega)) ?_;refine AY.mk (Co g (i:=1) (by omega)) ?_;refine AY.mk (Co g (i:=2) (by omega)) ?_;refine AY.mk (Co g (i:=3) (by omega)) ?_;refine AY.mk (Co g (i:=4) (by omega)) ?_;refine AY.mk (Co g (i:=5) (by omega)) ?_;refine AY.mk (Co g (i:=6) (by omega)) ?_;refine AY.mk (Co g (i:=7) (by omega)) ?_;refine AY.mk (Co g (i:=8) (by omega)) ?_;refine AY.mk (Co g (i:=9) (by omega)) ?_;refine AY.mk (Co g (i:=10) (by omega)) ?_;refine AY.mk (Co g (i:=11) (by omega)) ?_;have a1:=((((((((((aP.trans aR).trans aS).trans aT).trans aU).trans aV).trans E).trans aW).trans aX).trans aY).trans aZ).trans a0;have:=au b al (λi z=>(d i z (by omega)).1) (N.then (a1.ak λc _ v=> .inr (by omega)));rw[(d 0 (by omega) (by omega)).2,(d 1 (by omega) (by omega)).2,(d 2 (by omega) (by omega)).2,(d 3 (by omega) (by omega)).2,(d 4 (by omega) (by omega)).2,(d 5 (by omega) (by omega)).2,(d 6 (by omega) (by omega)).2,(d 7 (by omega) (by omega)).2,(d 8 (by omega) (by omega)).2,(d 9 (by omega) (by omega)).2,(d 10 (by omega) (by omega)).2,(d 11 (by omega) (by omega)).2];exact this
theorem AOf {z:Int}(a: -9223372036854775808<=z)(b:z<=9223372036854775807):J8 J9 z=z:=by grind [J8,IntKind.bits,IntKind.signed]
theorem aE {a:Q6}{K:Q6->Prop}(b:K a):At (some a) K:=b
theorem ANF {l:ar}{c:aa}{key:A2P}{h:A2O}(t:key.size<=64)(n: ∀d:Nat,1<=d->d<=12->h (J6 J9 (d:Int)) c):AA l P Rz #[J7 key] c h:=by
 refine AEw ?_;unfold XW;refine Loop.rule (λm x e=> ∃(i:Nat) (a:Int),x=(a,(i:Int),())/\e=c/\m=key.size-i/\i<=key.size) ?_ ⟨0,2166136261,rfl,rfl,rfl,by omega⟩;rintro K m _ e ⟨i,a,rfl,f,rfl,u⟩ o;subst f;refine ag.intro (λb=>?_) (λb=>?_)
 ·have v:i<key.size:=by simp at b;omega
  refine⟨⟨by grind,by show(i:Int)<_;omega⟩,o (key.size-(i+1)) _ _ (by omega) ⟨i+1,_,by rw[Aa (by omega)],rfl,rfl,by omega⟩⟩
 ·refine Loop.rule (λm x g=> ∃(i:Nat) (a:Int),x=(a,(i:Int),())/\g=e/\m=12-i/\1<=i/\i<=12) ?_ ⟨1,_,rfl,rfl,rfl,by omega,by omega⟩;rintro w m _ g ⟨i,a,rfl,f,rfl,p,q⟩ r;subst f;refine aj.mk λs j=>?_
  have k:s (false,()) g:=j _ _ (ag.no rfl (n i p q));refine ag.intro (λb=>?_) (λb=>k);have y:i<12:=by simp at b;omega
  cases z:((Gd .u32 a (3:Int))==(0:Int))
  ·exact k
  ·exact j _ _ (ag.yes rfl (r (12-(i+1)) _ _ (by omega) ⟨i+1,_,by rw[Aa (by omega)],rfl,rfl,by omega,by omega⟩))
theorem OT(i:Nat)(a b:List DX):DL i (a++b)=(DL i a).or (DL i b):=by grind [DL,decide]
theorem AHt {i:Nat}{l:List DX}(a: ∀x∈l,x.ht<=i):DL i l=none:=by simp_all [DL,Hb]
theorem AKa {i:Nat}{l:List DX}{x:DX}(b:x∈l)(d:i<x.ht): ∃a,DL i l=some a:=by
 cases c:DL i l with
 |some a=>exact⟨a,rfl⟩
 |none=>have:=Xl c x b;omega
theorem SC {ns:List DX}(c: ∀x∈ns,1<=x.ht/\x.ht<=12)(p:Nat):DL 0 (ns.drop p)=(ns[p]?).map λx=>⟨x.ai,0,none⟩:=by
 cases a:ns[p]? with
 |none=>rw[P4 (List.getElem?_eq_none_iff.1 a)];rfl
 |some x=>
  have b:=List.getElem?_eq_some_iff.1 a;rw[DP b.1,b.2];have:=(c x (AM a)).1;unfold DL;rw[DE];simp[F2 Nat.zero_lt_one this]
def gb(nx:Nat->Nat->Q2)(p i:Nat)(v:Q2):Nat->Nat->Q2:=λa b=>if a=p/\b=i then v else nx a b
theorem KG {p:Pr}{f g:Nat->Q2}(a: ∀i,f i=g i):FM p f=FM p g:=by rw[show f=g from funext a]
theorem XN {a b:Int}{f g:Nat->Q2}(c: ∀i,f i=g i):Dk f a b=Dk g a b:=by rw[show f=g from funext c]
theorem Lay.store {e:aa}{t:Nat}{ns:List DX}{nx:Nat->Nat->Q2}{s u:Int}(l:Lay e t ns nx s u){p i:Nat}(C:p<=ns.length)(z:i<12){v:Q2}{K:aa->Prop}
  (w: ∀c,Lay c t ns (gb nx p i v) s u->Mod (cT t ns) e c->c.size=e.size->K c):af e (((addrAt t ns p).add 3).add (i*1)) (J5 v) K:=by
 rw[add_add,Bk];cases p with
 |zero=>
  show af e ((⟨t,0,none⟩:Q6).add (3+i)) _ _;rw[Bf,AI];refine af.mk l.head (by rw[cX];omega) λc d m o=>w c ⟨?_,λj x a=>⟨?_,(l.node j x a).2⟩,l.apart⟩ (m.ak λb _ d=> .inl d) o
  ·rw[d,AO3 z,XN (g:=gb nx 0 i v 0) (λh=>by simp[gb])]
  ·rw[m.get _ (Ah (l.node j x a).1) (l.node j x a).2,(l.node j x a).1,KG (g:=gb nx 0 i v (j+1)) (λh=>by simp[gb])]
 |succ p=>
  have k:=A2 (l:=ns) (i:=p) (by omega);have f:addrAt t ns (p+1)=⟨ns[p].ai,0,none⟩:=by simp[addrAt,k]
  rw[f,Bf,AI];obtain⟨A,B⟩:=l.node p _ k;refine af.mk A (by rw[Qx];omega) λc d m o=>w c ⟨?_,λj x a=>⟨?_,(l.node j x a).2⟩,l.apart⟩ (m.ak λb _ d=> .inr ⟨_,AM k,d.symm⟩) o
  ·rw[m.get _ (Ah l.head) (λf=>B f.symm),l.head,XN (g:=gb nx (p+1) i v 0) (λh=>by simp[gb])]
  ·by_cases q:j=p
   ·subst q;rw[k] at a;cases a;rw[d,vD,KG (g:=gb nx (j+1) i v (j+1)) (λh=>by simp[gb])]
   ·have hd:x.ai≠ns[p].ai:=by
     have n:=List.getElem?_eq_some_iff.1 a;have y:=List.pairwise_iff_getElem.1 l.apart;rcases MY q with r|r
     ·have:=y j p n.1 (by omega) r;rw[n.2] at this;exact this
     ·have:=y p j (by omega) n.1 r;rw[n.2] at this;exact λf=>this f.symm
    rw[m.get _ (Ah (l.node j x a).1) hd,(l.node j x a).1,KG (g:=gb nx (p+1) i v (j+1)) (λh=>by simp[gb,q])]
def Ea(l:List Pr):Nat:=(l.map λx=>x.key.size+x.val.size).sum
structure cW (h:aa) (t:Nat) (ns:List DX) (l:List Pr):Prop where
 lay: ∃nx,Lay h t ns nx (l.length:Int) (Ea l:Int)/\kQ ns nx
 bY:bY ns=l
 sorted:Sorted l
 aT:BU l
theorem cW.mod {a c:aa}{t:Nat}{ns:List DX}{l:List Pr}{d:Nat->Prop}(T:cW a t ns l)(m:Mod d a c)(e: ∀b,cT t ns b-> ¬d b):cW c t ns l:=by obtain⟨nx,L,K⟩:=T.lay;exact⟨⟨nx,L.mod m e,K⟩,T.bY,T.sorted,T.aT⟩
theorem cW.ext {a b:aa}{t:Nat}{ns:List DX}{l:List Pr}(T:cW a t ns l)(m:Ext a b):cW b t ns l:=T.mod m λ_ _ a=>a
theorem cW.lt {a:aa}{t:Nat}{ns:List DX}{l:List Pr}(T:cW a t ns l){b:Nat}(c:cT t ns b):b<a.size:=by obtain⟨nx,L,_⟩:=T.lay;exact L.lt c
theorem sr {d:ar}{a:aa}{c:A2O}(e: ∀b,cW b a.size [] []->Ext a b->b.size=a.size+1->c (J5 (some ⟨a.size,0,none⟩)) b):AA d P QM #[] a c:=by
 refine AK8 ?_;unfold uX;refine ao.mk λf _ g h j=>e f ⟨⟨λ_ _=>none,⟨g,λl x a=>by simp at a,List.Pairwise.nil⟩,⟨λp i k m _=>?_,λx a=>by cases a⟩⟩,rfl,List.Pairwise.nil,λx a=>by cases a⟩ h j
 have:p=0:=by simpa using k
 subst this;rfl
theorem Nr(l m:List Pr):Ea (l++m)=Ea l+Ea m:=by simp[Ea,List.sum_append]
theorem Rk(x:Pr)(l:List Pr):Ea (x::l)=x.key.size+x.val.size+Ea l:=by simp[Ea]
theorem AK0 {l:List Pr}(g:BU l):Ea l<=l.length*8256:=by
 induction l with
 |nil=>simp[Ea]
 |cons x l a=>
  have d:=a λb c=>g b (by simp[c])
  have e:=g x (by simp);have f:x.key.size<=64/\x.val.size<=8192:=by grind [Ai]
  rw[Rk,A5,By];omega
theorem vF {x:Pr}(a:Ai x=0):x.key.size<=64/\x.val.size<=8192:=by grind [Ai]
theorem AMn {p a:Pr}{nx:Nat->Q2}:(((FM p nx).setIfInBounds 0 (J7 a.key)).setIfInBounds 1 (J7 a.val)).setIfInBounds 2 (J3 a.gone)=FM a nx:=by apply Array.toList_inj.1;rw[DS,DS,DS];rfl
theorem gR.zero {ns:List DX}{key:A2P}{p:Nat}(d: ∀x∈ns,1<=x.ht/\x.ht<=12)(b:VE ns key 0 p):p=aQ key (bY ns):=by
 rcases Fo p (aQ key (bY ns)) with a|a
 ·have e:=YG key ns;have c:=A2 (l:=ns) (i:=p) (by omega);have f:=b.last p _ (A0 _) a c;have g:=d _ (AM c);omega
 ·have:=b.le;omega
def gf(nx:Nat->Nat->Q2)(c:Nat->Nat)(b:Q6)(i:Nat):Nat->Nat->Q2:=λp a=>if a<i/\p=c a then some b else nx p a
def jZ(nx:Nat->Nat->Q2)(b:Nat->Nat)(i:Nat):Nat->Q2:=λa=>if a<i then nx (b a) a else none
def gS(nx:Nat->Nat->Q2)(c:Nat->Nat)(b:Q6)(d a:Nat):Nat->Nat->Q2:=λp i=>if p<=a then gf nx c b d p i else if p=a+1 then jZ nx c d i else gf nx c b d (p-1) i
theorem vG {c:Type}{ns:List c}{x:c}{a b:Nat}(d:a<=ns.length):(ns.take a++x::ns.drop a)[b]? =if b<a then ns[b]? else if b=a then some x else ns[b-1]? :=by grind
theorem AOX {b:Type}{ns:List b}{x:b}{a p:Nat}(c:a<=ns.length)(d:p<=a):(ns.take a++x::ns.drop a).drop p=(ns.take a).drop p++x::ns.drop a:=by grind
theorem AMo {b:Type}{ns:List b}{x:b}{a p:Nat}(c:a<=ns.length)(d:a<p):(ns.take a++x::ns.drop a).drop p=ns.drop (p-1):=by rw[PJ,P4 (by simp;omega),CT];simp only[Ax,Fk c];rw[show p-a=(p-a-1)+1 by omega,HU,HW];congr 1;omega
theorem kQ.insert {ns:List DX}{nx:Nat->Nat->Q2}{key:A2P}(K:kQ ns nx){d:Nat->Nat}(s: ∀i,i<12->VE ns key i (d i)){x:DX}(E:1<=x.ht/\x.ht<=12):
  kQ (ns.take (aQ key (bY ns))++x::ns.drop (aQ key (bY ns))) (gS nx d ⟨x.ai,0,none⟩ x.ht (aQ key (bY ns))):=by
 have t:=YG key ns;generalize j:aQ key (bY ns)=a at*
 refine⟨λp i J g n=>?_,λh b=>?_⟩
 ·unfold gS;split
  ·rename_i w;have o:i<Sw ns p:=by
    cases p with
    |zero=>exact g
    |succ p=>
     unfold Sw at n ⊢
     grind
   have y:=K.link p i (by omega) g o;have z:ns.drop p=(ns.take a).drop p++ns.drop a:=by grind [List.take_append_drop]
   have f:=s i g;rw[AOX t w,OT];unfold gf;by_cases q:i<x.ht
   ·have F:DL i (x::ns.drop a)=some ⟨x.ai,0,none⟩:=by grind [DL]
    rw[F];by_cases u:p=d i
    ·rw[if_pos ⟨q,u⟩,AHt λh b=>?_]
     ·rfl
     ·obtain⟨A,B,L⟩:=Ds b;simp at B;have M:(ns.take a).drop p=(ns.take a).drop p:=rfl;refine f.last (p+A) h (by omega) (by rw[j];omega) ?_
      grind
    ·rw[if_neg (λe=>u e.2),y,z,OT];have G:p<d i:=by
      rcases HK p (d i) with e|e|e
      ·exact e
      ·exact absurd e u
      ·exfalso;cases p with
       |zero=>omega
       |succ p=>
        have r:=A2 (l:=ns) (i:=p) (by omega);have N:=f.last p _ (by omega) (by rw[j];omega) r;simp[Sw,r] at o;omega
     have m:=f.le;rw[j] at m;have v:=f.ht;obtain⟨c,H⟩: ∃c,d i=c+1:=⟨d i-1,by omega⟩;rw[H] at v G m;have r:=A2 (l:=ns) (i:=c) (by omega);simp[Sw,r] at v;have I:ns[c]∈(ns.take a).drop p:=by
      refine AM (i:=c-p) ?_
      grind
     obtain⟨h,b⟩:=AKa I v;rw[b];rfl
   ·rw[if_neg (λe=>q e.1),y,z,OT];have:DL i (x::ns.drop a)=DL i (ns.drop a):=by grind [DL]
    rw[this]
  ·rename_i w;rw[AMo t (by omega)];split
   ·rename_i C;subst C;have q:i<x.ht:=by
     unfold Sw at n
     simp_all
    have f:=s i g;have m:=f.le;rw[j] at m;unfold jZ;rw[if_pos q,K.link (d i) i (by omega) g f.ht,AGK (k:=a-d i) (by simp;omega) λA h B b=>?_]
    ·rw[HW];congr 2;omega
    ·rw[C5] at b;exact f.last _ h (by omega) (by rw[j];omega) b
   ·rename_i C;obtain⟨c,rfl⟩: ∃c,p=c+1:=⟨p-1,by omega⟩;rw[N2];have O:(ns.take a++x::ns.drop a).length=ns.length+1:=by simp;omega
    have o:i<Sw ns c:=by
     unfold Sw at n;simp only at n;rw[vG t,if_neg (by omega),if_neg (by omega)] at n;obtain⟨D,rfl⟩: ∃D,c=D+1:=⟨c-1,by omega⟩
     simp_all [Sw]
    have m:=(s i g).le;rw[j] at m;unfold gf;rw[if_neg (λe=>by omega)];exact K.link c i (by omega) g o
 ·rw[HS,GB] at b;rcases b with b|rfl|b
  ·exact K.ht h (DM b)
  ·exact E
  ·exact K.ht h (HX b)
set_option maxHeartbeats 1000000 in
theorem su {bU:ar}{s:aa}{t:Nat}{ns:List DX}{l:List Pr}{x:Pr}{am:A2O}(T:cW s t ns l)(cK:l.length<1099511627776)
  (an: ∀ba ap,cW ap t ba (CY x l)->Mod (cT t ns) s ap->(∀ b,cT t ba b->cT t ns b\/s.size<=b)->am (J6 J9 (Ai x)) ap):
  AA bU P Jy #[J5 (some ⟨t,0,none⟩),.agg #[J7 x.key,J7 x.val,J3 x.gone]] s am:=by
 refine ZK ?_;unfold SG;refine ao.mk λe _ u aq cL=>?_
 have bb:=T.ext aq;have au:Ai x≠0->am (J6 J9 (Ai x)) e:=λw=>an ns e (by simpa [CY,w] using bb) aq.mod (λb u=> .inl u)
 refine aj.mk λK av=>?_
 have aw:(decide (x.key=⟨#[]⟩)||(x.gone&& !decide (x.val=⟨#[]⟩)))=true->K (true,()) e:=λj=>av _ _ (ag.yes rfl (by
  have w:Ai x=1:=by unfold Ai;rw[if_pos j]
  have:=au (by rw[w];decide);rw[w] at this;exact this))
 have bc:(decide (x.key=⟨#[]⟩)||(x.gone&& !decide (x.val=⟨#[]⟩)))=false->K (false,()) e:=λj=>av _ _ (ag.no rfl (by
  refine aj.mk λbd ax=>?_
  have ay:(decide (x.key.size>64)||decide (x.val.size>8192))=true->bd (true,()) e:=λaz=>ax _ _ (ag.yes rfl (by
   have w:Ai x=2:=by unfold Ai;rw[if_neg (by simp[j]),if_pos az]
   have:=au (by rw[w];decide);rw[w] at this;exact this))
  have bV:(decide (x.key.size>64)||decide (x.val.size>8192))=false->bd (false,()) e:=λaz=>ax _ _ (ag.no rfl (by
   have w:Ai x=0:=by unfold Ai;rw[if_neg (by simp[j]),if_neg (by simp[az])]
   have bW:=vF w;clear aw ax av ay au;obtain⟨nx,aA,D⟩:=bb.lay;have V:CY x l=ins x l:=Ql w;have be:=PZ (x:=x) T.sorted;have bf:=vJ (x:=x) T.aT;have L:=T.bY;have bX:Sorted (bY ns):=by rw[L];exact T.sorted
   have cM:ns.length=l.length:=by rw[<- L];simp
   have cN:=AK0 T.aT;refine AJ.mk (AO u rfl) ?_;refine Zo aA D bX λk F r W=>⟨_,_,_,_,_,_,_,_,_,_,_,_,rfl,?_⟩
   have aC:=gR.zero D.ht (r 0 (by omega));have bg:=aA.ext W;refine ao.mk λbZ _ b0 b1 cO=>?_
   have b2:bZ[F.size]? =some (J2 (cU (λ_=>none)).toArray ED (0,0)):=b0;simp only[Bf,AI];refine af.mk b2 (by simp[BZ]) λcP aD bh b3=>?_
   rw[IB _ rfl] at aD;refine af.mk aD (by simp[BZ]) λcQ aF M b4=>?_
   rw[IB _ rfl] at aF;refine af.mk aF (by simp[BZ]) λcR aG bi b5=>?_
   rw[IB _ rfl] at aG;refine af.mk aG (by simp[BZ]) λcS aH bj b6=>?_
   rw[IB _ rfl] at aH;refine af.mk aH (by simp[BZ]) λcV aI bk b7=>?_
   rw[IB _ rfl] at aI;refine af.mk aI (by simp[BZ]) λcY aJ bm b8=>?_
   rw[IB _ rfl] at aJ;refine af.mk aJ (by simp[BZ]) λcZ aK bn b9=>?_
   rw[IB _ rfl] at aK;refine af.mk aK (by simp[BZ]) λc0 aL bo ca=>?_
   rw[IB _ rfl] at aL;refine af.mk aL (by simp[BZ]) λc1 aM bp cb=>?_
   rw[IB _ rfl] at aM;refine af.mk aM (by simp[BZ]) λc2 aN bq cc=>?_
   rw[IB _ rfl] at aN;refine af.mk aN (by simp[BZ]) λc3 aO br cd=>?_
   rw[IB _ rfl] at aO;refine af.mk aO (by simp[BZ]) λf aP bs ce=>?_
   rw[IB _ rfl] at aP;have aR:f[F.size]? =some (J2 (cU (λi=>some (addrAt t ns (k i)))).toArray ED (0,0)):=by rw[aP];congr 3
   have bt:=((((((((((bh.trans M).trans bi).trans bj).trans bk).trans bm).trans bn).trans bo).trans bp).trans bq).trans br).trans bs;have X:Ext F f:=b1.then (bt.ak λc _ j=> .inr (by omega));have c4:=X.size;have c5:=Ah aR;have c6:=W.size;clear bt aD aF aG aH aI aJ aK aL aM aN aO aP bh M bi bj bk bm bn bo bp bq br bs b3 b4 b5 b6 b7 b8 b9 ca cb cc cd ce;have y:=bg.ext X;have G:f[s.size]? =some (J2 #[J7 x.key,J7 x.val,J3 x.gone] AR (0,0)):=X.ai (W.ai u (by simp)) (by simp);have cf:=YG x.key ns;have aS:Ext s f:=aq.trans (W.trans X);refine⟨by omega,AY.mk (Co aR (i:=0) (by omega)) ⟨by omega,AY.mk (y.next (p:=k 0) (i:=0) (by rw[aC];omega) (by omega)) ?_⟩⟩;have cg:nx (k 0) 0=(ns[aQ x.key (bY ns)]?).map λd=>⟨d.ai,0,none⟩:=by rw[D.link (k 0) 0 (by rw[aC];omega) (by omega) (r 0 (by omega)).ht,aC,SC D.ht]
   rw[cg];have Y:BF x.key l=match ns[aQ x.key (bY ns)]? with|some d=>decide (d.pr.key=x.key)|none=>false:=by
    unfold BF
    grind
   generalize aT:aQ x.key (bY ns)=a at*
   have Z:aQ x.key l=a:=by rw[<- L];exact aT
   have ab:X8 x l=ins x l:=mY x l;refine aj.mk λbu bv=>?_
   have ch: ∀d,ns[a]? =some d->d.pr.key=x.key->bu (true,()) f:=λd n E=>bv _ _ (ag.yes rfl (by
    have H:=List.getElem?_eq_some_iff.1 n;have ci:a<ns.length:=H.1;rw[n];have cj:=y.pair n;have c7:d.pr.key.size=x.key.size:=by rw[E]
    refine AC.mk (AB y.head lV.2) (AJ.mk (AO G rfl) (AJ.mk cj.2.1 ?_));have ck: ∃aU:Nat,Ea l=d.pr.key.size+d.pr.val.size+aU/\Ea (CY x l)=x.key.size+x.val.size+aU:=by
     have aV:l=l.take a++d.pr::l.drop (a+1):=by
      have aW:l[a]? =some d.pr:=by rw[<- L];simp[n]
      have e:=List.getElem?_eq_some_iff.1 aW;rw[<- e.2,<-DP e.1,CN]
     have Q:CY x l=l.take a++x::l.drop (a+1):=by rw[V,<-ab];unfold X8;rw[Y,n,Z,if_pos (by simp[E])];simp
     refine⟨Ea (l.take a)+Ea (l.drop (a+1)),?_,?_⟩
     ·conv=>lhs;rw[aV]
      rw[Nr,Rk];omega
     ·rw[Q,Nr,Rk];omega
    obtain⟨aU,c8,c9⟩:=ck;have aX:J8 J9 ((Ea l:Int)+J8 J9 ((x.val.size:Int)-(d.pr.val.size:Int)))=(Ea (CY x l):Int):=by
     have da:d.pr.val.size<=8192:=(vF (T.aT d.pr (by grind))).2;have aV:J8 J9 ((x.val.size:Int)-(d.pr.val.size:Int))=(x.val.size:Int)-(d.pr.val.size:Int):=by exact AOf (by omega) (by omega)
     rw[aV,show(Ea l:Int)+((x.val.size:Int)-(d.pr.val.size:Int))=((Ea (CY x l):Nat):Int) by omega];exact Fa (by omega)
    rw[aX];refine aE ?_;rw[Bf,AI];refine af.mk y.head (by rw[cX];omega) λbw bx ac db=>?_
    rw[vE] at bx;have aY:=y.node a d n;have aZ:bw[s.size]? =some (J2 #[J7 x.key,J7 x.val,J3 x.gone] AR (0,0)):=ac.ai G (by have:=aA.lt (.inl rfl:cT t ns t);have:=T.lt (.inl rfl:cT t ns t);omega);refine AJ.mk (AO aZ rfl) (AJ.mk (AO aZ rfl) (Ac.mk (AO aZ rfl) ?_));have cl:=ac.ai aY.1 aY.2;refine aE ?_;refine af.mk cl (by rw[Qx];omega) λdc cm cn dd=>?_
    rw[Bf,Bf];refine af.mk cm (by rw[R0,Qx];omega) λde co cp df=>?_
    refine af.mk co (by rw[R0,R0,Qx];omega) λa0 bz cq dg=>?_
    simp only[AI] at bz;rw[AMn] at bz;have a1:Mod (λc=>c=d.ai) bw a0:=(cn.trans cp).trans cq;have a2:cT t ns t:= .inl rfl;have bA:cT t ns d.ai:= .inr ⟨d,AM n,rfl⟩;rw[<- w];refine an (ns.set a {d with pr:=x}) a0 ⟨⟨nx,⟨?_,λq z h=>?_,?_⟩,⟨λp i ad ae bB=>?_,λz h=>?_⟩⟩,?_,be,bf⟩ ?_ λb u=>?_
    ·have a3:(CY x l).length=l.length:=by rw[V,<-ab];unfold X8;rw[Y,n,Z,if_pos (by simp[E])];simp;omega
     rw[a3];exact a1.ai bx (λo=>aY.2 o.symm)
    ·rw[MA] at h;split at h
     ·grind
     ·rename_i N;have A:=y.node q z h;refine⟨?_,A.2⟩;refine a1.ai (ac.ai A.1 A.2) ?_;have e:=List.getElem?_eq_some_iff.1 h;have bC:=List.pairwise_iff_getElem.1 y.apart;rcases MY N with a4|a4
      ·have:=bC a q H.1 e.1 a4;rw[e.2,H.2] at this;exact λo=>this o.symm
      ·have:=bC q a e.1 H.1 a4;rw[e.2,H.2] at this;exact this
    ·have o:(ns.set a {d with pr:=x}).map (·.ai)=ns.map (·.ai):=by
      rw[R1];apply List.ext_getElem?;intro q;rw[MA];split
      ·rename_i N;subst N;simp[H.1,H.2]
      ·rfl
     have e:(ns.map (·.ai)).Pairwise (· ≠ ·):=List.pairwise_map.2 y.apart;rw[<- o] at e;exact List.pairwise_map.1 e
    ·rw[R2] at ad;have cr:Sw (ns.set a {d with pr:=x}) p=Sw ns p:=by
      cases p with
      |zero=>rfl
      |succ p=>
       unfold Sw;simp only;rw[MA];by_cases N:a=p
       ·subst N;rw[if_pos rfl,if_pos ci,n]
       ·rw[if_neg N]
     rw[cr] at bB;rw[D.link p i ad ae bB];have key: ∀m:List DX,∀a,m[a]? =some d->DL i (m.set a {d with pr:=x})=DL i m:=by
      intro m
      induction m with
      |nil=>intro a s;simp at s
      |cons z m cs=>
       intro a s;cases a with
       |zero=>simp at s;subst s;by_cases hd:i<z.ht<;>simp[DL,hd]
       |succ a=>
        have:=cs a (by simpa using s);unfold DL at this ⊢;rw[List.set_cons_succ,DE,DE];split
        ·rfl
        ·exact this
     rcases Fo a p with e|e
     ·rw[List.drop_set_of_lt e]
     ·rw[List.drop_set];rw[if_neg (by omega)];exact(key _ _ (by rw[C5];rw[<- n];congr 1;omega)).symm
    ·obtain⟨q,I,o⟩:=Ds h;rw[List.getElem_set] at o;split at o
     ·subst o;exact D.ht d (AM n)
     ·subst o;exact D.ht _ (AW _)
    ·rw[V,<-ab];unfold X8;rw[Y,n,Z,if_pos (by simp[E])];show(ns.set a {d with pr:=x}).map (·.pr)=_;rw[R1,A03];have:(ns.map (·.pr))=l:=L;rw[this];have aW:a<l.length:=by omega
     simp[aW]
    ·have M:Mod (cT t ns) f a0:=(ac.ak λc _ j=>by subst j;exact a2).trans (a1.ak λc _ j=>by subst j;exact bA);exact aS.mod.trans M
    ·rcases u with rfl|⟨z,h,rfl⟩
     ·exact .inl (.inl rfl)
     ·obtain⟨q,I,o⟩:=Ds h;rw[List.getElem_set] at o;split at o
      ·subst o;exact .inl bA
      ·subst o;exact .inl (.inr ⟨_,AW _,rfl⟩)))
   have bD:BF x.key l=false->bu (false,()) f:=λa2=>bv _ _ (ag.no rfl (by
    refine AJ.mk (AO G rfl) (AJ.mk (AO G rfl) (Ac.mk (AO G rfl) ?_));refine ao.mk λbE _ ct ah dh=>?_
    have bF:=ah.ai G (by simp);refine AJ.mk (AO bF rfl) ?_;refine ANF bW.1 λB cu cv=>⟨_,rfl,?_⟩
    have cw:bE[f.size]? =some (J2 (FM x (λ_=>none)) RD (0,0)):=ct;have cx:=y.ext ah;have bG: ∀i,i<12->k i<=ns.length:=λi ae=>by have:=(r i ae).le;rw[aT] at this;omega
    have cy:=ah.ai aR (by simp);have a5: ∀c,cT t ns c->c<f.size:=λc j=>y.lt j
    have cz: ∀c,cT t ns c->c<F.size:=λc j=>bg.lt j
    refine Loop.rule (λm d C=> ∃i:Nat,d=((i:Int),())/\m=B-i/\i<=B/\Mod (λc=>cT t ns c\/c=f.size) bE C/\Lay C t ns (gf nx k ⟨f.size,0,none⟩ i) (l.length:Int) (Ea l:Int)/\C[f.size]? =some (J2 (FM x (jZ nx k i)) RD (0,0))) ?_
     ⟨0,rfl,rfl,by omega,Mod.refl,?_,?_⟩
    rotate_left
    ·have:gf nx k ⟨f.size,0,none⟩ 0=nx:=by funext p B;simp[gf]
     rw[this];exact cx
    ·have:jZ nx k 0=λ_=>none:=by funext B;simp[jZ]
     rw[this];exact cw
    rintro cB m _ C ⟨i,rfl,rfl,ae,R,J,bH⟩ cC;have di:=R.size;have bI:C[F.size]? =some (J2 (cU (λi=>some (addrAt t ns (k i)))).toArray ED (0,0)):=R.ai cy (λa6=>a6.elim (λe=>by have:=cz _ e;omega) (λe=>by omega));refine ag.intro (λj=>?_) (λj=>?_)
    ·have bJ:i<B:=by simpa using j
     have O:i<12:=by omega
     have S:(0:Int)<=(i:Int)/\(i:Int)<(12:Int):=⟨by omega,by omega⟩;refine⟨S,?_⟩;show AY C ⟨F.size,i*1,none⟩ _;rw[Bk];refine AY.mk (Co bI O) ⟨S,?_⟩;show AY C (((addrAt t ns (k i)).add 3).add (i*1)) _;refine AY.mk (J.next (p:=k i) (i:=i) (bG i O) O) ⟨S,?_⟩;have cD:gf nx k ⟨f.size,0,none⟩ i (k i) i=nx (k i) i:=by simp[gf]
     show af C ⟨f.size,3+i*1,none⟩ (J5 (gf nx k ⟨f.size,0,none⟩ i (k i) i)) _;rw[cD,Bk];refine af.mk bH (by rw[Qx];omega) λbK bL a7 dj=>?_
     rw[vD] at bL;have cE:=J.mod a7 (λc j o=>by have:=a5 c j;omega);refine⟨S,?_⟩;show AY bK ⟨F.size,i*1,none⟩ _;rw[Bk];refine AY.mk (Co (a7.ai bI (by omega)) O) ⟨S,?_⟩;show af bK (((addrAt t ns (k i)).add 3).add (i*1)) (J5 (some ⟨f.size,0,none⟩)) (λbM=>cB (J8 J9 ((i:Int)+(1:Int)),()) bM);refine cE.store (p:=k i) (i:=i) (bG i O) O (v:=some ⟨f.size,0,none⟩) (λbM bN bO dk=>?_)
     ·refine cC (B-(i+1)) _ _ (by omega) ⟨i+1,by rw[Aa (by omega)],rfl,by omega,(R.trans (a7.ak λc _ j=> .inr j)).trans (bO.ak λc _ j=> .inl j),?_,?_⟩
      ·have:gb (gf nx k ⟨f.size,0,none⟩ i) (k i) i (some ⟨f.size,0,none⟩)=gf nx k ⟨f.size,0,none⟩ (i+1):=by
        funext p q;unfold gb gf;by_cases I:q=i
        ·subst I
         grind
        ·by_cases ad:p=k q<;>simp[ad,I,Nat.lt_succ_iff,Nat.le_iff_lt_or_eq]
       rw[this] at bN;exact bN
      ·rw[bO.ai bL (λj=>by have:=a5 _ j;omega),KG (g:=jZ nx k (i+1)) (λq=>?_)];unfold jZ;by_cases I:q=i
       ·subst I;simp
       ·simp[I,Nat.lt_succ_iff,Nat.le_iff_lt_or_eq]
    ·have bJ:i=B:=by simp at j;omega
     subst bJ;refine AC.mk (AB J.head lV.1) ?_;refine aE ?_;rw[Bf,AI];refine af.mk J.head (by rw[cX];omega) λdl a8 bP dm=>?_
     rw[AMf] at a8;have bQ:cT t ns t:= .inl rfl;have dn:=T.lt bQ;have cF:C[s.size]? =some (J2 #[J7 x.key,J7 x.val,J3 x.gone] AR (0,0)):=R.ai bF (λa6=>a6.elim (λe=>by have:=T.lt e;omega) (λe=>by omega));have bR:=bP.ai cF (by omega);refine aE ?_;rw[Bf,AI];refine AC.mk (AO a8 lV.2) (AJ.mk (AO bR rfl) (AJ.mk (AO bR rfl) (aE ?_)));rw[Bf,AI];refine af.mk a8 (by rw[cX];omega) λai a9 cG dp=>?_
     rw[vE] at a9;have Q:CY x l=l.take a++x::l.drop a:=by rw[V,<-ab];unfold X8;rw[a2,Z];simp
     have dq:Ea (CY x l)=Ea l+(x.key.size+x.val.size):=by
      rw[Q,Nr,Rk];have:Ea l=Ea (l.take a)+Ea (l.drop a):=by rw[<- Nr,CN]
      omega
     have a3:(CY x l).length=l.length+1:=by rw[Q];simp;omega
     have aX:J8 J9 ((l.length:Int)+(1:Int))=((CY x l).length:Int):=by rw[a3];exact Aa (by omega)
     have cH:J8 J9 ((Ea l:Int)+J8 J9 ((x.key.size:Int)+(x.val.size:Int)))=(Ea (CY x l):Int):=by rw[show((x.key.size:Int)+(x.val.size:Int))=((x.key.size+x.val.size:Nat):Int) by omega,Fa (by omega),show(Ea l:Int)+((x.key.size+x.val.size:Nat):Int)=((Ea (CY x l):Nat):Int) by omega];exact Fa (by omega)
     rw[aX,cH] at a9;have mt:Mod (λc=>c=t) C ai:=bP.trans cG;have cI:=mt.ai bH (by omega);rw[<- w];refine an (ns.take a++⟨f.size,x,i⟩::ns.drop a) ai ⟨⟨gS nx k ⟨f.size,0,none⟩ i a,⟨?_,λq z h=>?_,?_⟩,?_⟩,?_,be,bf⟩ ?_ λb u=>?_
     ·rw[a9,XN (g:=gS nx k ⟨f.size,0,none⟩ i a 0) (λB=>?_)];simp[gS]
     ·rw[vG cf] at h;split at h
      ·rename_i cJ;have A:=J.node q z h;refine⟨?_,A.2⟩;rw[mt.ai A.1 A.2,KG (g:=gS nx k ⟨f.size,0,none⟩ i a (q+1)) (λB=>?_)];unfold gS;rw[if_pos (by omega)]
      ·rename_i cJ;split at h
       ·rename_i bS;subst bS;cases h;refine⟨?_,by grind⟩;show ai[f.size]? =_;rw[cI,KG (g:=gS nx k ⟨f.size,0,none⟩ i q (q+1)) (λB=>?_)];unfold gS
        grind
       ·rename_i bS;obtain⟨ak,rfl⟩: ∃ak,q=ak+1:=⟨q-1,by omega⟩;rw[N2] at h;have A:=J.node ak z h;refine⟨?_,A.2⟩;rw[mt.ai A.1 A.2,KG (g:=gS nx k ⟨f.size,0,none⟩ i a (ak+1+1)) (λB=>?_)];unfold gS
        grind
     ·have e:=J.apart;have bT: ∀z∈ns,z.ai≠f.size:=λz h o=>by have:=a5 z.ai (.inr ⟨z,h,rfl⟩);omega
      rw[<- CN a ns] at e;rw[List.pairwise_append] at e ⊢;refine⟨e.1,List.pairwise_cons.2 ⟨λz h=>λo=>bT z (HX h) o.symm,e.2.1⟩,λd n z h=>?_⟩;rcases List.mem_cons.1 h with rfl|h
      ·exact bT d (DM n)
      ·exact e.2.2 d n z h
     ·have:=D.insert (key:=x.key) r (x:=⟨f.size,x,i⟩) ⟨cu,cv⟩;rw[aT] at this;exact this
     ·show(ns.take a++⟨f.size,x,i⟩::ns.drop a).map (·.pr)=_;have:(ns.map (·.pr))=l:=L;rw[Q,<-this];simp[P3,List.map_drop]
     ·have M:Mod (λc=>cT t ns c\/c=f.size) f ai:=(ah.mod.trans R).trans (mt.ak λc _ j=>by subst j;exact .inl bQ);exact aS.mod.then (M.ak λc _ j=>j.elim .inl λe=> .inr (by have:=aS.size;omega))
     ·rcases u with rfl|⟨z,h,rfl⟩
      ·exact .inl (.inl rfl)
      ·rw[HS,GB] at h;rcases h with h|rfl|h
       ·exact .inl (.inr ⟨z,DM h,rfl⟩)
       ·grind
       ·exact .inl (.inr ⟨z,HX h,rfl⟩)))
   cases n:ns[a]? with
   |none=>
    refine ag.no rfl (bD ?_);rw[Y,n]
   |some d=>
    refine ag.yes rfl ?_;refine AJ.mk (y.pair n).1 (AJ.mk (AO G rfl) ?_);rw[Ca];by_cases E:d.pr.key=x.key
    ·rw[decide_eq_true E];exact ch d n E
    ·rw[decide_eq_false E];exact bD (by grind)))
  refine AJ.mk (AO u rfl) ?_;refine ag.intro (λr=>?_) (λr=>?_)
  ·exact ay (by simp at r;simp;omega)
  ·refine AJ.mk (AB u rfl) ?_;simp at r;cases U:decide ((x.val.size:Int)>(8192:Int))
   ·exact bV (by simp at U;simp;omega)
   ·exact ay (by simp at U;simp;omega)))
 refine ag.no rfl ?_;refine AJ.mk (AO u rfl) ?_;rw[Ca];refine ag.intro (λr=>?_) (λr=>?_)
 ·exact aw (by simp at r;simp[r])
 ·refine Ac.mk (AB u rfl) ?_;simp at r;refine ag.intro (λal=>?_) (λal=>?_)
  ·refine AJ.mk (AB u rfl) ?_;rw[Ca];cases U:(!decide (x.val=⟨#[]⟩))
   ·exact bc (by simp[r,al,U])
   ·exact aw (by simp[r,al,U])
  ·exact bc (by simp[r,al])
theorem sn {c:ar}{a:aa}{t:Nat}{ns:List DX}{l:List Pr}{b:A2O}(T:cW a t ns l)(d:b (J1 #[J6 J9 (l.length:Int),J6 J9 (Ea l:Int)]) a):AA c P Jw #[J5 (some ⟨t,0,none⟩)] a b:=by obtain⟨nx,L,_⟩:=T.lay;refine AAF ?_;unfold Sd;refine ag.no rfl ?_;exact AC.mk (AB L.head lV.1) (AC.mk (AB L.head lV.2) d)
def UX:Pr:=⟨⟨#[]⟩,⟨#[]⟩,false⟩
def NL(key:A2P)(l:List Pr):Pr×Bool:=match l[aQ key l]? with|some a=>if a.key=key then(a,true) else(UX,false)|none=>(UX,false)
theorem three {a:aa}{b:Nat}{T:Q7}{j k c2:J0}{f v:A2P}{g:Bool}{K:aa->Prop}(l:a[b]? =some (J2 #[j,k,c2] T (0,0)))
  (m: ∀d,d[b]? =some (J2 #[J7 f,J7 v,J3 g] T (0,0))->Mod (λc=>c=b) a d->K d):
  af a ⟨b,0,none⟩ (J7 f) λh=>af h ((⟨b,0,none⟩:Q6).add 1) (J7 v) λi=>af i ((⟨b,0,none⟩:Q6).add 2) (J3 g) λe=>K e:=by
 refine af.mk l (by simp) λh n o t=>?_
 rw[Bf,Bf];refine af.mk n (by simp) λi p q u=>?_
 refine af.mk p (by simp) λe r s w=>?_
 exact m e (by simpa using r) ((o.trans q).trans s)
theorem vH {c d:aa}{t:Nat}{ns:List DX}{nx:Nat->Nat->Q2}{g h:Int}{key:A2P}{a:Nat->Nat}(L:Lay c t ns nx g h)(K:kQ ns nx)(e: ∀i,i<12->VE ns key i (a i))(x:Ext c d):
  ah d (((addrAt t ns (a 0)).add 3).add (0*1))=some (J5 ((ns[aQ key (bY ns)]?).map λj=>⟨j.ai,0,none⟩)):=by
 have b:=gR.zero K.ht (e 0 (by omega));have f:=YG key ns;have k:=(L.ext x).next (p:=a 0) (i:=0) (by rw[b];exact f) (by omega);rw[k,K.link (a 0) 0 (by rw[b];exact f) (by omega) (e 0 (by omega)).ht,b,SC K.ht]
theorem AQT {z:ar}{d:aa}{t:Nat}{ns:List DX}{l:List Pr}{key:A2P}{m:A2O}(T:cW d t ns l)(A: ∀r,Ext d r->m (J1 #[(NL key l).1.agg,J3 (NL key l).2]) r):
  AA z P NU #[J5 (some ⟨t,0,none⟩),J7 key] d m:=by
 obtain⟨nx,L,s⟩:=T.lay;refine Zc ?_;unfold Sg;refine ao.mk λI _ B n J=>ag.no rfl ?_
 have C:Sorted (bY ns):=by rw[T.bY];exact T.sorted
 refine Zo (L.ext n) s C λM o D p=>⟨_,_,_,_,_,_,_,_,_,_,_,_,rfl,?_⟩
 refine aE ⟨by omega,AY.mk (vH (L.ext n) s D p) ?_⟩;have u:=p.ai B (by simp);have v:Ext d o:=n.trans p;have E:=L.ext v;have ah:NL key l=match ns[aQ key (bY ns)]? with|some f=>if f.pr.key=key then(f.pr,true) else(UX,false)|none=>(UX,false):=by unfold NL;rw[<- T.bY];rw[show bY ns=ns.map (·.pr) from rfl,C2];cases ns[aQ key (ns.map (·.pr))]? <;>rfl
 have w: ∀(g:Pr) (b:Bool) a,a[d.size]? =some (J2 #[J7 g.key,J7 g.val,J3 g.gone] AR (0,0))->Mod (λc=>c=d.size) o a->NL key l=(g,b)->
   (AJ a (⟨d.size,0,none⟩:Q6) λF=>AJ a ((⟨d.size,0,none⟩:Q6).add 1) λG=>Ac a ((⟨d.size,0,none⟩:Q6).add 2) λH=>m (J1 #[.agg #[J7 F,J7 G,J3 H],J3 b]) a):=λg b a e h q=>by
  refine AJ.mk (AO e rfl) (AJ.mk (AB e rfl) (Ac.mk (AB e rfl) ?_));have:=A a (v.then (h.ak λc _ N=> .inr (by omega)));rw[q] at this;exact this
 refine aj.mk λK x=>?_
 have y:NL key l=(UX,false)->K (false,()) o:=λq=>x _ _ (ag.no rfl (three u λa e h=>w UX false a e h q))
 cases i:ns[aQ key (bY ns)]? with
 |none=>
  rw[i] at ah;exact ag.no rfl (y ah)
 |some f=>
  rw[i] at ah;refine ag.yes rfl (aE ?_);have j:=E.pair i;refine AJ.mk j.1 ?_;rw[Ca];by_cases k:f.pr.key=key
  ·rw[decide_eq_true k];refine x _ _ (ag.yes rfl ?_);rw[i];refine aE (AJ.mk j.1 (AJ.mk j.2.1 (Ac.mk j.2.2 ?_)));simp only[k,if_true] at ah;exact three u λa e h=>w f.pr true a e h ah
  ·rw[decide_eq_false k];simp only[k,if_false] at ah;exact y ah
theorem sd {a c b:J0}:(#[]++ #[a]++ #[c,b]:Array J0)= #[a,c,b]:=rfl
theorem APz {A:ar}{s:aa}{b c t:Nat}{T U:Q7}{fr V:Nat×Nat}{ns:List DX}{l:List Pr}{key:A2P}(f:s[b]? =some (J2 #[J5 (some ⟨t,0,none⟩)] T fr))(I:s[c]? =some (J2 #[J7 key] U V))(j:cW s t ns l):
  EQ A P (.func (.func KL) #[] #[J5 (some ⟨b,0,none⟩),J5 (some ⟨c,0,none⟩)]) (λe=>cT t ns e\/e=b\/e=c) s (l.drop (aQ key l)):=by
 refine⟨?_,_,_,rfl,λW=>by kernel_rfl,λd u W X k h hd hB Y Z=>?_⟩
 ·rintro e (hd|rfl|rfl)
  ·exact j.lt hd
  ·exact Ah f
  ·exact Ah I
 rw[sd];refine Vf ?_;unfold Oz;have J:=(u b (.inr (.inl rfl))).trans f;have ab:=(u c (.inr (.inr rfl))).trans I;obtain⟨nx,v,o⟩:=j.lay;have L:Lay d t ns nx (l.length:Int) (Ea l:Int):=
  ⟨(u t (.inl (.inl rfl))).trans v.head,λa x z=>⟨(u x.ai (.inl (.inr ⟨x,AM z,rfl⟩))).trans (v.node a x z).1,(v.node a x z).2⟩,v.apart⟩
 have M: ∀e,cT t ns e-> ¬k e:=λe ac=>hd e (.inl ac)
 refine AY.mk (AO J rfl) (ag.no rfl (AY.mk (AO J rfl) (AJ.mk (AO ab rfl) ?_)));have ad:Sorted (bY ns):=by rw[j.bY];exact j.sorted
 refine Zo L o ad λao ae q B=>⟨_,_,_,_,_,_,_,_,_,_,_,_,rfl,?_⟩
 refine aE ⟨by omega,AY.mk (vH L o q B) ?_⟩;have af:aQ key (bY ns)=aQ key l:=by rw[j.bY]
 have ap:=mV key l;have aq:ns.length=l.length:=by rw[<- j.bY];simp
 rw[af];have ai:=hB.bd _ _ _ _ _ Z (B.ak (S':=λb=>¬k b/\d.size<=b) λ_ _ d=>d.elim);refine Loop.rule (λm x w=> ∃(a:Nat) (r:Nat->Prop),x=((ns[aQ key l+a]?).map λn=>(⟨n.ai,0,none⟩:Q6),())/\m=l.length-(aQ key l+a)/\aQ key l+a<=l.length/\Mod k d w/\(∀ b,r b->k b\/d.size<=b)/\X a true r w) ?_
  ⟨0,k,rfl,rfl,by omega,B.mod,λb f=> .inl f,ai⟩
 rintro K m _ w ⟨a,r,rfl,rfl,au,y,C,N⟩ aj;have D:(l.drop (aQ key l)).length=l.length-aQ key l:=by simp
 cases h:ns[aQ key l+a]? with
 |none=>
  have:=List.getElem?_eq_none_iff.1 h;refine ag.no rfl ?_;exact⟨rfl,a,true,r,y,C,N,λ_=>by rw[D];omega,by rw[D];omega⟩
 |some n=>
  have av:=(List.getElem?_eq_some_iff.1 h).1;have E:=(L.mod y M).pair h;refine ag.yes rfl (aE (AJ.mk E.1 (AJ.mk E.2.1 (Ac.mk E.2.2 ?_))));have ah:(l.drop (aQ key l))[a]? =some n.pr:=by
   rw[C5];have O:(bY ns)[aQ key l+a]? =some n.pr:=by rw[show bY ns=ns.map (·.pr) from rfl,C2,h];rfl
   rw[j.bY] at O;exact O
  refine Eb.mono (Y a n.pr r w ah N) ?_;rintro _ ak ⟨g,F,rfl,al,am,Q⟩;have aw:=y.size;have R: ∀b,F b->k b\/d.size<=b:=λb f=>(al b f).elim (C b) λae=> .inr (by omega)
  have G:Mod k d ak:=y.then (am.ak λb _ f=>C b f);refine⟨g,rfl,ag.intro (λq=>?_) (λq=>?_)⟩
  ·have H:g=false:=by simpa using q
   subst H;exact⟨rfl,a+1,false,F,G,R,Q,(λd=>by cases d),by rw[D];omega⟩
  ·have H:g=true:=by simpa using q
   subst H;refine aE ⟨by omega,?_⟩;have S:=(L.mod G M).next (p:=aQ key l+a+1) (i:=0) (by omega) (by omega);have an:addrAt t ns (aQ key l+a+1)=⟨n.ai,0,none⟩:=by simp[addrAt,h]
   rw[an,o.link _ 0 (by omega) (by omega) (by have:=(o.ht n (AM h)).1;simp[Sw,h];omega),SC o.ht] at S;refine AY.mk S ?_;exact aj (l.length-(aQ key l+(a+1))) _ _ (by omega) ⟨a+1,F,rfl,rfl,by omega,G,R,Q⟩
theorem sq {A:ar}{a:aa}{t:Nat}{ns:List DX}{l:List Pr}{key:A2P}{f:A2O}(T:cW a t ns l)
  (i: ∀fv d,EQ A P fv (λb=>cT t ns b\/b=a.size\/b=a.size+1) d (l.drop (aQ key l))->Ext a d->d.size=a.size+2->f fv d):AA A P JL #[J5 (some ⟨t,0,none⟩),J7 key] a f:=by
 refine YX ?_;unfold QK;refine ao.mk λp _ j k m=>ao.mk λg _ n h q=>?_
 have e:Ext a g:=k.trans h;have o:=APz (A:=A) (h.ai j (by simp)) n (T.ext e) (key:=key);refine i _ g (o.ak ?_ ?_ (λc _=>rfl)) e (by omega)
 ·rintro b (hd|rfl|rfl)
  ·exact .inl hd
  ·exact .inr (.inl rfl)
  ·exact .inr (.inr m)
 ·rintro b (hd|rfl|rfl)
  ·exact(T.ext e).lt hd
  ·omega
  ·omega
theorem ANq(l:List Pr):aQ ⟨#[]⟩ l=0:=by
 have: ∀x:A2P,aO x ⟨#[]⟩=false:=λx=>by
  have a:(⟨#[]⟩:A2P).toList= []:=by simp[ByteArray.toList_eq]
  unfold aO;rw[a];cases x.toList<;>rfl
 cases l with
 |nil=>rfl
 |cons x l=>simp[aQ,ic,this]
theorem se(l:List Pr):l.drop (aQ ⟨#[]⟩ l)=l:=by rw[ANq];rfl
def qb:Pr:=⟨⟨#[98]⟩,⟨#[49]⟩,false⟩
end Go.Lf.G.M
namespace Go.Lf.G
open Go
open M (aQ Af Sorted BU)
theorem ASe(a b:A2P):(!(aO a b||bR a b))=aO b a:=by
 cases e:aO b a with
 |true=>
  have c:aO a b=false:=by grind [aO,Da,CZ]
  have d:bR a b=false:=by
   rw[Ca,decide_eq_false_iff_not]
   grind
  rw[c,d];rfl
 |false=>
  grind [aO,Ny,Ca]
theorem AHD {a b c:A2P}(d:aO a b=true)(e:aO c b=false):aO a c=true:=by grind [aO,Da,Ny]
theorem mG {l:List Pr}(c:Sorted l){i a:Nat}{p b:Pr}(d:l[i]? =some p)(e:l[a]? =some b)(f:i<a):aO p.key b.key=true:=by obtain⟨g,rfl⟩:=List.getElem?_eq_some_iff.1 d;obtain⟨h,rfl⟩:=List.getElem?_eq_some_iff.1 e;exact List.pairwise_iff_getElem.1 c _ _ g h f
structure yY (l:List Pr) (key:A2P) (B:Nat):Prop where
 lt:B<Bt l
 below: ∀(x:Nat) (p:Pr),x<8*B->l[x]? =some p->aO p.key key=true
 there: ∀(x:Nat) (p:Pr),l[x]? =some p->p.key=key->8*B<=x/\x<8*B+8
theorem ASO {l:List Pr}{key:A2P}{b:Nat}(j:Sorted l)(k:l≠ [])(t:b<=Bt l)(m: ∀a,a<b->aO key (Iu l (8*a))=false)(n:b<Bt l->aO key (Iu l (8*b))=true):yY l key (b-1):=by
 have u:=wE k;have ah: ∀a,a<Bt l-> ∃d,l[8*a]? =some d/\Iu l (8*a)=d.key:=by grind [Bt,List.getElem?_eq_getElem,Iu]
 have o: ∀(x:Nat) (p:Pr),x<8*(b-1)->l[x]? =some p->aO p.key key=true:=by intro x p h e;obtain⟨d,f,g⟩:=ah (b-1) (by omega);have c:=mG j e f h;have:=m (b-1) (by omega);rw[g] at this;exact AHD c this
 refine⟨by omega,o,λx p e g=>⟨?_,?_⟩⟩
 ·grind [Nat.le_of_not_lt,CZ]
 ·apply Nat.lt_of_not_le;intro h;have v:=(List.getElem?_eq_some_iff.1 e).1;have step: ∀a,8*a<=x->a<Bt l->aO key (Iu l (8*a))=true->False:=by
   intro a w q c;obtain⟨d,f,r⟩:=ah a q;rw[r] at c;rcases Fo (8*a) x with s|s
   ·grind [mG,Da,CZ]
   ·have:8*a=x:=by omega
    rw[this,e] at f;cases f;rw[g,CZ] at c;cases c
  have i:b<Bt l:=by unfold Bt;omega
  exact step b (by omega) i (n i)
theorem AQo {i a:Nat}(b:i+a<=2*1099511627776):J8 J9 ((J8 .u64 (J8 J9 (((i:Nat):Int)+((a:Nat):Int)))).fdiv ((2:Int)^(1:Nat)))=(((i+a) / 2:Nat):Int):=by rw[show((i:Nat):Int)+((a:Nat):Int)=((i+a:Nat):Int) by omega,Fa (by omega),CF (by omega),QZ,Fa (by omega)]
theorem ANT {n:ar}{f:aa}{fv:J0}{c:Nat}{p:Nat->Bool}{o:A2O}(C:c<=1099511627776)(D: ∀i b,i<=b->b<c->p i=true->p b=true)
  (y: ∀i d,i<c->Ext f d->Eb n P fv #[J6 J9 (i:Int)] d λv g=>v=J3 (p i)/\Ext d g)
  (z: ∀h g,h<=c->(∀ b,b<h->p b=false)->(h<c->p h=true)->Ext f g->o (J6 J9 (h:Int)) g):AA n P Ps #[J6 J9 (c:Int),fv] f o:=by
 refine ACT ?_;unfold WY;refine Loop.rule (λm x d=> ∃i b:Nat,x=((i:Int),(b:Int),())/\m=b-i/\i<=b/\b<=c/\(∀ a,a<i->p a=false)/\(b<c->p b=true)/\Ext f d) ?_ ⟨0,c,rfl,rfl,by omega,A0 _,λa A=>by omega,λf=>by omega,Mod.refl⟩;rintro K m _ d ⟨i,b,rfl,rfl,k,q,r,s,j⟩ t;dsimp only;refine ag.intro (λl=>?_) (λl=>?_)
 ·have k:i<b:=by simp at l;omega
  rw[AQo (by omega)];refine aj.mk λE u=>?_
  have B:(i+b) / 2<c:=by omega
  refine Eb.mono (y _ d B j) ?_;rintro v g ⟨rfl,w⟩;refine⟨_,rfl,ag.intro (λe=>?_) (λe=>?_)⟩
  ·have e:p ((i+b) / 2)=false:=by simpa using e
   refine u _ _ ?_;dsimp only;rw[Aa (by omega)];refine t (b-((i+b) / 2+1)) _ _ (by omega) ⟨(i+b) / 2+1,b,rfl,rfl,by omega,q,λa A=>?_,s,j.trans w⟩
   grind
  ·have e:p ((i+b) / 2)=true:=by simpa using e
   refine u _ _ ?_;exact t ((i+b) / 2-i) _ _ (by omega) ⟨i,(i+b) / 2,rfl,rfl,by omega,by omega,r,λ_=>e,j.trans w⟩
 ·have k:i=b:=by simp at l;omega
  subst k;exact z i d q r s j
abbrev yZ:Q8:=Ic
theorem z6 {A:ar}{h:aa}{t D k:Nat}{l:List Pr}{f:List UInt8}{key:A2P}{R:A2O}(T:bS h t l f D k)(c:gW (aK (aU l f)) l f)
  (E: ∀d q,yY l key q->Ext h d->R (J6 J9 (q:Int)) d):AA A P Gp #[Aq t,J7 key] h R:=by
 refine UL ?_;unfold NZ;refine ao.mk λe _ F G X=>ao.mk λY _ H r Z=>?_
 have u:=Am r F;have w:=G.trans r;obtain⟨m,ab,x,y,ac,_,_⟩:=(T.ext w).at_;refine AY.mk (AO u rfl) (aE ?_);refine AZ.mk (s:=m) (AO x rfl) ?_;have I:m.len=Bt l:=by rw[y.len,Hm]
 have ad:=c.many;have ae:Bt l<=12501:=by unfold Bt;omega
 rw[I];have z: ∀b,b<Bt l-> ∃B,l[8*b]? =some B/\Iu l (8*b)=B.key:=by
  intro b n;have:8*b<l.length:=by unfold Bt at n;omega
  exact⟨l[8*b],A2 this,by unfold Iu;simp_all⟩
 refine ANT (p:=λb=>aO key (Iu l (8*b))) (by omega) (λi b af n C=>?_) (λi o k g=>?_) λj J K e L M=>⟨_,rfl,?_⟩
 ·rcases Fo i b with h|h
  ·obtain⟨ag,N,O⟩:=z i (by omega);obtain⟨ah,Q,S⟩:=z b n;have:=mG c.inc N Q (by omega);rw[O] at C;rw[S];exact Da C this
  grind
 ·have U:=Eb.func (A:=A) (P:=P) (f:=yZ) (first:= #[]) (bU:= #[Aq h.size,Aq e.size]) (args:= #[J6 J9 (i:Int)]) (h:=o) (R:=λv d=>v=J3 (aO key (Iu l (8*i)))/\Ext o d) (by kernel_rfl) ?_
  ·exact U
  ·show AA A P yZ #[J6 J9 (i:Int),Aq h.size,Aq e.size] o _;refine Ro ?_;unfold Lg;refine aE (AY.mk (AO (Am g u) rfl) (aE ?_));refine AZ.mk (s:=m) (AO (Am g x) rfl) ?_;refine(y.ext g).idx (RN k) λa ai V=>?_
   rw[A6];refine AJ.mk V.str (aE ?_);refine AJ.mk (AO (Am g H) rfl) ?_;rw[ASe];exact⟨rfl,Mod.refl⟩
 ·have W:(if((J8 J9 (((j:Nat):Int)-(1:Int))):Int)>0 then(J8 J9 (((j:Nat):Int)-(1:Int))) else 0)=((j-1:Nat):Int):=by grind [wrap_i64]
  rw[W];exact E J (j-1) (ASO c.inc c.ne K e L) (w.trans M)
def Ve(key:A2P)(l:List Pr):Pr×Bool:=match Af key l with|some a=>(a,true)|none=>(M.UX,false)
theorem AQ1 {l:List Pr}(f:Sorted l){p:Pr}(h:p∈l):Af p.key l=some p:=by
 unfold Af;cases g:l.find? λd=>decide (d.key=p.key) with
 |none=>
  grind
 |some d=>
  have b:=Rg g;have b:d.key=p.key:=of_decide_eq_true b;obtain⟨i,e⟩:=E0 (Lz g);obtain⟨j,c⟩:=E0 h;rcases HK i j with a|a|a
  ·have:=mG f e c a;rw[b,CZ] at this;cases this
  ·subst a;rw[e] at c;exact c
  ·have:=mG f c e a;rw[b,CZ] at this;cases this
theorem za {l:List Pr}{key:A2P}(a: ∀p∈l,p.key≠key):Af key l=none:=by simp_all [Af,Hb]
theorem ARO {ac:ar}{d:aa}{t ad E:Nat}{l:List Pr}{f:List UInt8}{key:A2P}{F:A2O}(T:bS d t l f ad E)(q:gW (aK (aU l f)) l f)(ae:key.size<=1099511627776)
  (ah: ∀L,Ext d L->F (J1 #[(Ve key l).1.agg,J3 (Ve key l).2]) L):AA ac P Kq #[Aq t,J7 key] d F:=by
 refine XK ?_;unfold Pf;refine ao.mk λN _ O y aR=>?_
 have tail: ∀g x,Ext d g->g[d.size]? =some (J2 #[J7 ⟨#[]⟩,J7 ⟨#[]⟩,J3 false] AR (0,0))-> ∀(h:Pr) (b:Bool),Ve key l=(h,b)->x=Value.tuple #[.agg #[J7 h.key,J7 h.val,J3 h.gone],J3 b]->
   ∀ {r u:A2P} {c2:Bool},r=h.key->u=h.val->c2=h.gone->
   af g (⟨d.size,0,none⟩:Q6) (J7 r) λQ=>af Q ((⟨d.size,0,none⟩:Q6).add 1) (J7 u) λR=>af R ((⟨d.size,0,none⟩:Q6).add 2) (J3 c2) λj=>
    AJ j (⟨d.size,0,none⟩:Q6) λai=>AJ j ((⟨d.size,0,none⟩:Q6).add 1) λak=>Ac j ((⟨d.size,0,none⟩:Q6).add 2) λal=>F (J1 #[.agg #[J7 ai,J7 ak,J3 al],J3 b]) j:=by
  intro g x v am h b an aS r u c2 ap aq au;subst ap aq au;refine af.mk am (by simp) λQ av aw aT=>?_
  rw[Bf,Bf];refine af.mk av (by simp) λR ax ay aV=>?_
  refine af.mk ax (by simp) λj G az aW=>?_
  refine AJ.mk (AO G rfl) (AJ.mk (AO G rfl) (Ac.mk (AO G rfl) ?_));have k:Ext d j:=⟨by have:=v.size;omega,λc aA _=>(az.get c (by have:=v.size;omega) (by omega)).trans ((ay.get c (by have:=v.size;omega) (by omega)).trans ((aw.get c (by have:=v.size;omega) (by omega)).trans (v.get c aA (λd=>d))))⟩;have:=ah j k;rw[an] at this;exact this
 refine aj.mk λK aC=>?_
 refine ag.no rfl (aE ?_);obtain⟨aX,aD,H,aY,aF,_,_⟩:=(T.ext y).at_;refine AJ.mk (AB H rfl) ?_;refine yK ae ⟨_,rfl,?_⟩;rw[EN];refine aC _ _ ?_;refine ag.intro (λn=>?_) (λn=>?_)
 ·have n:gV f key=false:=by simpa using n
  have I:Af key l=none:=za λp w z=>by
   have:=q.has p w;rw[z,n] at this;cases this
  exact tail N _ y O M.UX false (by unfold Ve;rw[I]) rfl rfl rfl rfl
 ·refine aE (AZ.mk (s:=aD) (AB H rfl) ?_);refine z6 (T.ext y) q λaZ a hB A=>⟨_,rfl,AB (Am A H) rfl,?_⟩
  have aG:((KZ l).map λb=>AX (BP b))[a]? =some (AX (BP (CG l a))):=by simp[KZ,hB.lt]
  refine(aF.ext A).idx aG λa0 a1 aH=>?_
  rw[A6];refine AJ.mk aH.str ?_;have aI: ∀p∈CG l a,La p:=λp w=>q.ok p (Pp w)
  have a2:=Qn q.ok hB.lt;refine rD aI (by omega) λps aJ S U a3=>⟨_,_,rfl,?_⟩
  have a4:ps.len=(CG l a).length:=S.len;have a5:=Qh hB.lt;have V:=(y.trans A).trans U;have W:=Am U (Am A O);refine Loop.rule (λm x aL=> ∃e:Nat,x=((e:Int),())/\m=(CG l a).length-e/\e<=(CG l a).length/\(∀ i p,i<e->(CG l a)[i]? =some p->p.key≠key)/\Ext aJ aL) ?_ ⟨0,rfl,rfl,by omega,λi p E=>by omega,Mod.refl⟩;rintro a6 m _ aM ⟨e,rfl,rfl,a7,X,o⟩ aN;dsimp only;refine ag.intro (λn=>?_) (λn=>?_)
  ·have B:e<(CG l a).length:=by grind
   have k:(CG l a)[e]? =some (CG l a)[e]:=A2 B;have Y:(CG l a)[e]∈l:=Pp (AW B);generalize (CG l a)[e]=p at k Y;refine(S.ext o).view.idx k λa8 a9 aO=>?_
   obtain⟨r,u,c2⟩:=aO.pair;rw[A6];refine AJ.mk r (AJ.mk u (Ac.mk c2 ?_));refine ao.pair λba aP bb C J bc=>?_
   refine AJ.mk (AO C rfl) ?_;refine ag.intro (λD=>?_) (λD=>?_)
   ·rw[Ca,decide_eq_true_iff] at D;refine AJ.mk (AO C rfl) (AJ.mk (AB C rfl) (Ac.mk (AB C rfl) ?_));have Z:=AQ1 q.inc Y;rw[D] at Z;exact tail aP _ ((V.trans o).trans J) (Am J (Am o W)) p true (by unfold Ve;rw[Z]) rfl rfl rfl rfl
   ·rw[Ca,decide_eq_false_iff_not] at D;rw[Aa (by omega)];refine aN ((CG l a).length-(e+1)) _ _ (by omega) ⟨e+1,rfl,rfl,B,λi h E aQ=>?_,o.trans J⟩;by_cases bd:i=e
    ·grind
    ·exact X i h (by omega) aQ
  ·have B:e=(CG l a).length:=by grind
   have I:Af key l=none:=za λp w z=>by
    obtain⟨x,k⟩:=E0 w;obtain⟨N,be⟩:=hB.there x p k z;have ab:(CG l a)[x-8*a]? =some p:=by rw[QJ (by omega),show 8*a+(x-8*a)=x by omega];exact k
    have:=(List.getElem?_eq_some_iff.1 ab).1;exact X (x-8*a) p (by omega) ab z
   exact tail aM _ (V.trans o) (Am o W) M.UX false (by unfold Ve;rw[I]) rfl rfl rfl rfl
theorem zd {key:A2P}{l:List Pr}(a:Sorted l){x:Nat}{p:Pr}(b:l[x]? =some p):x<aQ key l↔aO p.key key=true:=M.p6 a b
theorem AMs {A:ar}{y:aa}{b c t lo hi:Nat}{aW am:Q7}{l:List Pr}{f:List UInt8}{key:A2P}(r:y[b]? =some (J2 #[Aq t] aW (0,0)))(aX:y[c]? =some (J2 #[J7 key] am (0,0)))
  (T:bS y t l f lo hi) (bq:hi<=y.size) (z:gW (aK (aU l f)) l f):
  EQ A P (.func (.func I6) #[] #[Aq b,Aq c]) (λe=>(lo<=e/\e<hi)\/e=b\/e=c) y (l.drop (aQ key l)):=by
 refine⟨?_,_,_,rfl,λaY=>by kernel_rfl,λh W aY an k br hd hB aZ a0=>?_⟩
 ·grind
 rw[M.sd];refine TD ?_;unfold Mw;have H:=(W b (.inr (.inl rfl))).trans r;have ap:=(W c (.inr (.inr rfl))).trans aX;have aq:bS h t l f lo hi:=by
  obtain⟨au,o,u,I,X,Y,av⟩:=T.at_;have aw: ∀ {s:Sl} {ax:List A2P},View IW y s ax->(∀ e,s.ai=some e->lo<=e/\e<hi)->View IW h s ax:=λv bs=>⟨v.len,v.cap,λi x hi=>by
   obtain⟨a,a1,a2⟩:=v.cells i x hi;refine⟨a,a1,λj v ay=>?_⟩;rw[<- a2 j v ay]
   grind [Qa,aV,Sl.ai]⟩
  exact⟨⟨au,o,(W t (.inl T.fB)).trans u,aw I Y,aw X av,Y,av⟩,T.fB⟩
 have a3: ∀e,lo<=e->e<hi-> ¬k e:=λe u I=>hd e (.inl ⟨u,I⟩)
 obtain⟨au,o,az,bt,aA,bu,a4⟩:=aq.at_;refine aE (AY.mk (AO H rfl) (ag.no rfl (aE (AY.mk (AO H rfl) (aE (AZ.mk (s:=o) (AB az rfl) (aE (AY.mk (AO H rfl) (aE (AJ.mk (AO ap rfl) ?_))))))))));refine z6 aq z λu d aC J=>⟨_,rfl,AB (Am J az) rfl,AO (Am J H) rfl,?_⟩
 have aD:o.len=Bt l:=by rw[aA.len];simp[I7]
 have bv:=aC.lt;refine⟨by rw[aD];omega,?_⟩;rw[A6,aD];have bw:=M.mV key l;have bx:=z.many;have bz:Bt l<=12501:=by unfold Bt;omega
 have bA:8*d<=aQ key l:=by
  apply SD;intro L;have a5:aQ key l<l.length:=by grind [Bt]
  obtain⟨aF,B⟩: ∃aF,l[aQ key l]? =some aF:=⟨_,A2 a5⟩;have u:=aC.below _ _ L B;have I:=(zd z.inc B).2 u;omega
 have Z:(l.drop (aQ key l)).length=l.length-aQ key l:=by simp
 have a6:=hB.bd _ _ _ _ _ a0 (J.ak (S':=λb=>¬k b/\h.size<=b) λ_ _ h=>h.elim);have a7:View IW h ⟨BB o.p o.cap d 1,Bt l-d,o.cap-d⟩ (((KZ l).map λb=>AX (BP b)).drop d):=by have:=aA.sub (lo:=d) (hi:=Bt l) (by omega) (by simp[I7]);rw[AG (by simp[I7])] at this;exact this
 have a8: ∀e,Sl.ai ⟨BB o.p o.cap d 1,Bt l-d,o.cap-d⟩=some e-> ¬k e:=λe n=>by
  have:=a4 e (Zt n);exact a3 e this.1 this.2
 refine Loop.rule (λm x ab=> ∃(i:Nat) (C:Nat->Prop),x=((i:Int),())/\m=Bt l-d-i/\i<=Bt l-d/\Mod k h ab/\(∀ b,C b->k b\/h.size<=b)/\an (min (8*(d+i)) l.length-aQ key l) true C ab) ?_
  ⟨0,k,rfl,rfl,by omega,J.mod,λb r=> .inl r,by
   have:min (8*(d+0)) l.length-aQ key l=0:=by omega
   rw[this];exact a6⟩
 rintro K m _ ab ⟨i,C,rfl,rfl,hi,N,aG,E⟩ a9;dsimp only;refine ag.intro (λF=>?_) (λF=>?_)
 ·have aH:i<Bt l-d:=by simp at F;omega
  have O:d+i<Bt l:=by omega
  have bB:8*(d+i)<l.length:=by unfold Bt at O;omega
  have ba:(((KZ l).map λb=>AX (BP b)).drop d)[i]? =some (AX (BP (CG l (d+i)))):=by rw[C5];simp[KZ,O]
  refine(a7.mod N a8).idx ba λbC bD bb=>?_
  rw[A6];refine AJ.mk bb.str ?_;have bc: ∀p∈CG l (d+i),La p:=λp bd=>z.ok p (Pp bd)
  have bE:=Qn z.ok O;have bF:=Qh O;refine rD bc (by omega) λps X ac aI bG=>⟨_,_,rfl,?_⟩
  have bH:ps.len=(CG l (d+i)).length:=ac.len;have be:min (8*(d+i)) l.length=8*(d+i):=by omega
  rw[be] at E;have bI:=N.size;have bJ:=hB.wf _ _ _ _ E;have bf:=hB.bd _ _ _ _ _ E (aI.ak (S':=λb=>¬C b/\h.size<=b) λ_ _ h=>h.elim);have bg:Mod k h X:=N.trans aI.mod;refine Loop.rule (λm x Q=> ∃(j:Nat) (q:Nat->Prop),x=((j:Int),())/\m=(CG l (d+i)).length-j/\j<=(CG l (d+i)).length/\Mod k h Q/\(∀ b,q b->k b\/h.size<=b)/\(∀ e,ps.ai=some e-> ¬q e/\e<Q.size)/\View BQ Q ps (CG l (d+i))/\an (8*(d+i)+j-aQ key l) true q Q) ?_
   ⟨0,C,rfl,rfl,by omega,bg,aG,λe n=>⟨λh=>by grind,ac.lt n⟩,ac.view,bf⟩
  rintro bK m _ Y ⟨j,q,rfl,rfl,ay,ad,R,D,ae,aJ⟩ aL;dsimp only;refine ag.intro (λF=>?_) (λF=>?_)
  ·have G:j<(CG l (d+i)).length:=by grind
   have B:(CG l (d+i))[j]? =some (CG l (d+i))[j]:=A2 G;have S:l[8*(d+i)+j]? =some (CG l (d+i))[j]:=by rw[<- QJ (by omega)];exact B
   generalize (CG l (d+i))[j]=p at B S;refine ae.idx B λbL bM bh=>?_
   obtain⟨bi,bj,c2⟩:=bh.pair;rw[A6];refine AJ.mk bi (AJ.mk bj (Ac.mk c2 ?_));refine ao.pair λbN af bO U w bP=>?_
   have V:Mod k h af:=ad.trans w.mod;have bQ:=ad.size;have aM:=hB.bd _ _ _ _ _ aJ (w.ak (S':=λb=>¬q b/\h.size<=b) λ_ _ h=>h.elim);have bk:af[c]? =some (J2 #[J7 key] am (0,0)):=V.ai ap (hd c (.inr (.inr rfl)));refine aj.mk λbR aN=>?_
   refine AJ.mk (AO U rfl) (aE (AJ.mk (AO bk rfl) ?_));have bT:=(List.getElem?_eq_some_iff.1 S).1;have bm:=zd (key:=key) z.inc S;refine ag.intro (λL=>?_) (λL=>?_)
   ·have bn:aQ key l<=8*(d+i)+j:=by grind
    refine AJ.mk (AO U rfl) (AJ.mk (AB U rfl) (Ac.mk (AB U rfl) ?_));have ah:(l.drop (aQ key l))[8*(d+i)+j-aQ key l]? =some p:=by rw[C5,show aQ key l+(8*(d+i)+j-aQ key l)=8*(d+i)+j by omega];exact S
    refine Eb.mono (aZ _ p q af ah aM) ?_;rintro _ bo ⟨g,ai,rfl,aP,ak,aR⟩;have bU:=V.size;have aS: ∀b,ai b->k b\/h.size<=b:=λb r=>(aP b r).elim (R b) λu=> .inr (by omega)
    have aT:Mod k h bo:=V.then (ak.ak λb _ r=>R b r);refine⟨g,rfl,aN _ _ ?_⟩;dsimp only;cases g with
    |false=>exact ag.yes rfl ⟨rfl,_,false,ai,aT,aS,aR,(λh=>by cases h),by rw[Z];omega⟩
    |true=>
     refine ag.no rfl ?_;rw[Aa (by omega)];refine aL ((CG l (d+i)).length-(j+1)) _ _ (by omega) ⟨j+1,ai,rfl,rfl,G,aT,aS,λe n=>⟨λh=>?_,by have:=D e n;have:=w.size;have:=ak.size;omega⟩,?_,?_⟩
     ·rcases aP e h with h|h
      ·exact(D e n).1 h
      ·have:=(D e n).2;have:=w.size;omega
     ·exact(ae.ext w).mod ak λe n=>(D e n).1
     ·rw[show 8*(d+i)+(j+1)-aQ key l=8*(d+i)+j-aQ key l+1 by omega];exact aR
   ·have bp:aO p.key key=true:=by simpa using L
    have bn:=bm.2 bp;refine aN _ _ (ag.no rfl ?_);rw[Aa (by omega)];refine aL ((CG l (d+i)).length-(j+1)) _ _ (by omega) ⟨j+1,q,rfl,rfl,G,V,R,λe n=>⟨(D e n).1,by have:=(D e n).2;have:=w.size;omega⟩,ae.ext w,?_⟩;rw[show 8*(d+i)+(j+1)-aQ key l=8*(d+i)+j-aQ key l by omega];exact aM
  ·have G:j=(CG l (d+i)).length:=by grind
   rw[Aa (by omega)];refine a9 (Bt l-d-(i+1)) _ _ (by omega) ⟨i+1,q,rfl,rfl,by omega,ad,R,?_⟩;have al:min (8*(d+(i+1))) l.length=8*(d+i)+j:=by rw[G];unfold CG;rw[Ax,DG];omega
   rw[al];exact aJ
 ·have aH:i=Bt l-d:=by simp at F;omega
  have al:min (8*(d+i)) l.length=l.length:=by rw[aH,show d+(Bt l-d)=Bt l by omega];unfold Bt;omega
  rw[al] at E;exact⟨rfl,l.length-aQ key l,true,C,N,aG,E,λ_=>Z.symm,by rw[Z];omega⟩
theorem ze {A:ar}{a:aa}{t h e:Nat}{l:List Pr}{f:List UInt8}{key:A2P}{i:A2O}(T:bS a t l f h e)(s:e<=a.size)(m:gW (aK (aU l f)) l f)
  (n: ∀fv b,EQ A P fv (λd=>(h<=d/\d<e)\/d=a.size\/d=a.size+1) b (l.drop (aQ key l))->Ext a b->b.size=a.size+2->i fv b):AA A P Hu #[Aq t,J7 key] a i:=by
 refine Vd ?_;unfold Ou;refine ao.mk λu _ o p v=>ao.mk λj _ q k w=>?_
 have g:Ext a j:=p.trans k;have r:=AMs (A:=A) (Am k o) q (T.ext g) (by have:=g.size;omega) m (key:=key);refine n _ j (r.ak ?_ ?_ (λc _=>rfl)) g (by omega)
 ·omega
 omega
def fP(l:List Fi)(a:A2P):Nat:=match Cn a l with|none=>0|some f=>f.cj.size+f.soft.size
theorem yD {a:A2P}{f:Fi}{l:List Fi}:Cn a (f::l)=if f.name=a then some f else Cn a l:=by rw[GZ]
theorem rB(a:A2P): ∀l:List Fi,fP l a+bj (P8 a l)<=bj l
 | []=>by simp[fP,Cn,P8,bj]
 |f::l=>by
  have h:=rB a l;have e:bj (f::l)=f.cj.size+f.soft.size+1+bj l:=by simp[bj]
  by_cases b:f.name=a
  ·have c:fP (f::l) a=f.cj.size+f.soft.size:=by unfold fP;rw[yD,if_pos b]
   have d:P8 a (f::l)=P8 a l:=by simp[P8,b]
   rw[c,d,e];omega
  ·have c:fP (f::l) a=fP l a:=by unfold fP;rw[yD,if_neg b]
   have d:P8 a (f::l)=f::P8 a l:=by simp[P8,b]
   have g:bj (f::P8 a l)=f.cj.size+f.soft.size+1+bj (P8 a l):=by simp[bj]
   rw[c,d,g,e];omega
theorem yE: ∀(a:List A2P),a.Nodup-> ∀l:List Fi,(a.map (fP l)).sum<=bj l
 | [],_,l=>by simp
 |k::a,b,l=>by
  rw[List.nodup_cons] at b;have c:=yE a b.2 (P8 k l);have d:a.map (fP (P8 k l))=a.map (fP l):=CD λx e=>by
   unfold fP;rw[Zm,if_neg (λf=>by subst f;exact b.1 e)]
  rw[d] at c;have:=rB k l;simp only[B9,GP];omega
def iP(m:Bx)(a:A2P)(b:Nat):A2P:=(UM m (aD a b)).1
noncomputable def Sr (a:A2P) (m:Bx) (l:List Nat):List A2P:=l.flatMap λb=>(kU (bl (iP m a b))).map AX
theorem yF {m:Bx}(hd:m.down=false)(a:A2P):(UM m a).1.size=fP m.files a:=by
 unfold UM fP;rw[if_neg (by simp[hd])];cases Cn a m.files with
 |none=>rfl
 |some f=>simp[Kf]
theorem ACM {nm:A2P}{m:Bx}(hd:m.down=false){l:List Nat}(b:l.Pairwise (· < ·)):(Sr nm m l).length<=bj m.files:=by
 have e:(Sr nm m l).length<=((l.map (aD nm)).map (fP m.files)).sum:=by
  unfold Sr;clear b
  induction l with
  |nil=>simp
  |cons f l d=>
   have g:=AHR (qS (bl (iP m nm f)));rw[A7,iP,yF hd] at g;simp only[AH,A1,Bs,B9,GP] at d ⊢;unfold iP at d ⊢;omega
 refine AE e (yE _ ?_ _);refine List.pairwise_map.2 (b.imp λ{a c} i h=>?_);have:=Ih h;omega
theorem yG {R:ar}{d:aa}{b:Nat}{S:Nat->Prop}{m:Bx}{nm:A2P}{w:A2O}(E:bZ d)(D:Cu d b S m)(hd:m.down=false)(aw:0<nm.size)(F:nm.size<=8)(T:bj m.files<=8000000000000)
  (U: ∀g l,mE nm m l->l.getLast?.getD 0=99999999->Ext d g->w (J1 #[J5 none,J4 none 0 0,J6 J9 2]) g)
  (V: ∀g l r sl,mE nm m l->l.getLast?.getD 0≠99999999->Ext d g->d.size<=r->g[r]? =some (J2 #[Aq b,J7 nm,J6 J9 ((l.getLast?.getD 0+1:Nat):Int),J3 false] Z0 (0,0))->View IW g sl (Sr nm m l)->
   (∀ c,sl.ai=some c->d.size<=c/\c≠r)->w (J1 #[Aq r,J4 sl.p sl.len sl.cap,J6 J9 0]) g):AA R P RG #[Aq b,J7 nm] d w:=by
 refine AJR ?_;unfold uW;refine ag.no rfl (aj.mk λK W=>?_);have X:bR nm (⟨#[]⟩:A2P)=false:=by rw[Ca,decide_eq_false_iff_not];rintro rfl;have:(⟨#[]⟩:A2P).size=0:=rfl;omega
 rw[X];refine ag.no rfl (W _ _ (ag.no (by simp;omega) ?_));refine yC E D hd (by omega) T λG Y l h v2 o _=>⟨Y,_,rfl,ag.no rfl ?_⟩
 have ax:l.length<=99999999:=by
  have Z: ∀(l:List Nat) (s:Nat),l.Pairwise (· < ·)->(∀ e∈l,s<e/\e<=99999999)->l.length+s<=99999999\/l= []:=by
   intro l
   induction l with
   |nil=>intro s _ _;exact .inr rfl
   |cons a l ab=>
    intro s y H;rw[RK] at y;have ay:=H a (by simp);rcases ab a y.2 (λe t=>⟨y.1 e t,(H e (AF _ t)).2⟩) with d|d
    ·left;simp only[A5];omega
    ·subst d;left;simp;omega
  rcases Z l 0 h.inc (λe t=>by have:=(h.mem e).1 t;omega) with d|d
  ·omega
  ·subst d;simp
 refine Loop.rule (λI x p=> ∃(i:Nat) (sl:Sl),x=(sl,(((l.take i).getLast?.getD 0:Nat):Int),(i:Int),())/\Ext G p/\Own IW BC p sl (Sr nm m (l.take i))/\(∀ c,sl.ai=some c->G.size<=c)/\i<=l.length/\I=l.length-i) ?_
  ⟨0,⟨none,0,0⟩,rfl,Mod.refl,Own.nil,λc n=>by simp[Sl.ai] at n,An _,rfl⟩
 rintro az I _ p ⟨i,sl,rfl,j,u,f,aA,rfl⟩ ac;have J:(l.map λe:Nat=>(e:Int)).length=l.length:=Bs ..;rw[v2.len,J];refine ag.intro (λz=>?_) (λz=>?_)
 ·have q:i<l.length:=by simpa using z
  have ah:l[i]? =some l[i]:=A2 q;have ad:l[i]∈l:=AW q;obtain⟨aC,aE,L⟩:=(h.mem l[i]).1 ad;have M:l.take (i+1)=l.take i++ [l[i]]:=by rw[AD,ah];rfl
  have ae:(l.take (i+1)).getLast?.getD 0=l[i]:=by rw[M,SW];rfl
  have N:Sr nm m (l.take (i+1))=Sr nm m (l.take i)++(kU (bl (iP m nm l[i]))).map AX:=by rw[M];unfold Sr;rw[Ge];simp
  have A:=ACM (nm:=nm) (m:=m) hd (l:=l.take (i+1)) (h.inc.sublist (List.take_sublist _ _));rw[N,A1,Bs] at A;rw[<- J,<-v2.len];refine(v2.ext j).idx (i:=i) (x:=(l[i]:Int)) (by rw[C2,ah];rfl) λa _ c=>?_
  refine AC.mk c.int ?_;have O:=o.trans j;refine YR (E.ext O) (by omega) (by omega) λaF v=>⟨_,rfl,?_⟩
  refine pj ((D.ext O).ext v) ⟨_,_,rfl,?_⟩;have af:(UM m (aD nm l[i])).2=0:=by
   unfold UM;rw[if_neg (by simp[hd])];cases ai:Cn (aD nm l[i]) m.files with
   |none=>rw[ai] at L;cases L
   |some f=>rfl
  rw[af];refine ag.no rfl ?_;have ak:(UM m (aD nm l[i])).1.size<=8000000000000:=by rw[yF hd];have:=rB (aD nm l[i]) m.files;omega
  refine APc ak λaG al aH B am=>⟨al,_,rfl,?_⟩
  refine Fx (E:=IW) yz ((u.ext v).ext B) am (by rw[Bs];unfold iP at A;omega) (by rw[Bs];unfold iP at A;simp[maxLen];omega) λan aI ap aq au aJ=>?_
  dsimp only;rw[Aa (by omega)];refine ac (l.length-(i+1)) _ _ (by omega) ⟨i+1,an,?_,((j.trans v).trans B).more aq f,?_,λc n=>?_,q,rfl⟩
  ·rw[ae]
  ·rw[N];exact ap
  ·rcases au c n with d|d
   ·exact f c d
   ·have:=j.size;have:=v.size;have:=B.size;omega
 ·have q:i=l.length:=by simp at z;omega
  subst q;rw[BT] at u ⊢;refine ag.intro (λk=>?_) (λk=>?_)
  ·have k:l.getLast?.getD 0=99999999:=by simp at k;omega
   exact U p l h k (o.trans j)
  ·have k:l.getLast?.getD 0≠99999999:=by simp at k;omega
   have aK:l.getLast?.getD 0<=99999999:=by
    cases av:l.getLast? with
    |none=>simp
    |some e=>
     have:=(h.mem e).1 (SZ av);simp;omega
   refine ao.mk λF _ C Q aL=>?_
   dsimp only at C ⊢;rw[Aa (by omega)] at C;refine V F l p.size sl h k ((o.trans j).trans Q) (by have:=o.size;have:=j.size;omega) C (u.ext Q).view λc n=>by have:=f c n;have:=o.size;have:=u.lt n;omega
def ES(a:aa)(c b:Nat)(d:A2P)(e:Nat)(made:Bool):Prop:=a[c]? =some (J2 #[Aq b,J7 d,J6 J9 (e:Int),J3 made] Z0 (0,0))
theorem ES.mod {c d:aa}{a b:Nat}{e:A2P}{f:Nat}{made:Bool}{g:Nat->Prop}(L:ES c a b e f made)(x:Mod g c d)(h: ¬g a):ES d a b e f made:=x.ai L h
theorem ES.ext {a c:aa}{d b:Nat}{e:A2P}{f:Nat}{made:Bool}(L:ES a d b e f made)(x:Ext a c):ES c d b e f made:=x.ai L (λa=>a)
theorem yH {r:ar}{a:aa}{d b e:Nat}{f rec:A2P}{made:Bool}{i:Nat->Prop}{m:Bx}{s:A2O}(G:bZ a)(L:ES a d b f e made)(H:Cu a b i m)(t: ¬i d)(V: ∀j,Mod i a j->bZ j)(I:f.size<=1099511627776)(J:e<=4294967295)(K:rec.size<=1048576)(W:bj m.files<=8000000000000)
  (u: ∀j S',Cu j b S' (EM m (aD f e) (AX (Ct (bl rec)))).2->ES j d b f e (made||decide ((EM m (aD f e) (AX (Ct (bl rec)))).1=0))->Mod (λc=>i c\/c=d) a j->(∀ c,S' c->i c\/(a.size<=c/\c≠d))->s (J6 J9 (EM m (aD f e) (AX (Ct (bl rec)))).1) j):
  AA r P JV #[Aq d,J7 rec] a s:=by
 refine YB ?_;unfold QT;refine ag.no rfl ?_;have X:=Ah L;have M:(bl rec).length<=1048576:=by rw[A7];exact K
 have N:=JM M;rw[A7] at N;have O:rec=AX (bl rec):=(Kv rec).symm;have go:AA r P Hq #[J7 rec] a λv l=> ∃w:A2P,∃x:Int,v=J1 #[J7 w,J6 J9 x]/\(w=AX (Ct (bl rec))/\x=0/\Ext a l):=by
  rw[O];refine rq (by rw[Kv] at *;omega) (λl=>by rw[Kv] at *;omega) λ_ l k=>⟨_,_,rfl,?_,rfl,k⟩
  rw[Kv]
 refine AA.mono go ?_;rintro v l ⟨Y,Z,rfl,rfl,rfl,k⟩;refine⟨_,_,rfl,ag.no rfl ?_⟩;have p:=L.ext k;refine aE (AY.mk (AO p rfl) (aE (AJ.mk (AB p rfl) (aE (AC.mk (AB p rfl) ?_)))));refine YR (G.ext k) J I λab Q=>⟨_,rfl,?_⟩
 have n:=k.trans Q;have y:=L.ext n;refine⟨AO y rfl,?_⟩;refine sE (H.ext n) (by rw[AP];omega) λq o z A B=>⟨_,rfl,?_⟩
 have C:ES q d b f e made:=y.mod A t;have ac:=n.size;have D: ∀c,o c->i c\/(a.size<=c/\c≠d):=λc g=>(B c g).imp id λa=>⟨by omega,by omega⟩
 have E:Mod (λc=>i c\/c=d) a q:=(Ext.mod n).trans (A.ak λc _ g=> .inl g);refine ag.intro (λh=>?_) (λh=>?_)
 ·have h:(EM m (aD f e) (AX (Ct (bl rec)))).1≠0:=by simpa using h
  exact u q o z (by rw[decide_eq_false h,Bool.or_false];exact C) E D
 ·have h:(EM m (aD f e) (AX (Ct (bl rec)))).1=0:=by simpa using h
  refine aE (af.dt C (by simp) λR S F ad=>?_);have T: ¬o d:=λg=>by rcases B d g with a|a;exact t a;omega
  have:=u R o (z.mod F λc g U=>T (U▸g)) (by rw[decide_eq_true h,IF];simpa [ES] using S) (E.then (F.ak λc _ g=> .inl (.inr g))) D;rw[h] at this;exact this
def NG(m:Bx)(a:A2P)(made:Bool):Int×Bx:=if made then Hg m a else(0,m)
theorem yI {n:ar}{a:aa}{e b c:Nat}{d:A2P}{made:Bool}{f:Nat->Prop}{m:Bx}{i:A2O}(o:bZ a)(L:ES a e b d c made)(j:Cu a b f m)(p: ¬f e)(q:d.size<=1099511627776)(r:c<=4294967295)
  (k: ∀g,Cu g b f (NG m (aD d c) made).2->ES g e b d c made->Mod f a g->i (J6 J9 (NG m (aD d c) made).1) g):
  AA n P LA #[Aq e] a i:=by
 refine ABJ ?_;unfold Ub;refine ag.no rfl (aE (Ac.mk (AB L rfl) ?_));cases made with
 |false=>exact ag.yes rfl (k a j L Mod.refl)
 |true=>
  refine ag.no rfl (aE (AY.mk (AO L rfl) (aE (AJ.mk (AB L rfl) (aE (AC.mk (AB L rfl) ?_))))));refine YR o r q λu h=>⟨_,rfl,⟨AO (L.ext h) rfl,?_⟩⟩
  refine sF (j.ext h) λs t l=>⟨_,rfl,?_⟩
  exact k s t ((L.ext h).mod l p) ((Ext.mod h).trans l)
theorem Wu {u:ar}{g:aa}{f b a:Nat}{d:A2P}{made:Bool}{h:Nat->Prop}{m:Bx}{k:A2O}(v:bZ g)(L:ES g f b d a made)(w:Cu g b h m)(o: ¬h f)(x:d.size<=1099511627776)(F:a<99999999)
  (y:(NG m (aD d a) made).1≠0-> ∀e,Cu e b h (NG m (aD d a) made).2->ES e f b d a made->Mod h g e->k (J1 #[J6 J9 0,J6 J9 (NG m (aD d a) made).1]) e)
  (z:(NG m (aD d a) made).1=0-> ∀e,Cu e b h (NG m (aD d a) made).2->ES e f b d (a+1) false->Mod (λc=>h c\/c=f) g e->k (J1 #[J6 J9 (a:Int),J6 J9 0]) e):
  AA u P Gw #[Aq f] g k:=by
 refine YH ?_;unfold Qq;refine ag.no rfl (aE (AC.mk (AB L rfl) (ag.no (by simp;omega) ?_)));refine yI v L w o x (by omega) λA p l q=>⟨_,rfl,?_⟩
 refine ag.intro (λi=>?_) (λi=>?_)
 ·exact y (by simpa using i) A p l q
 ·have i:(NG m (aD d a) made).1=0:=by simpa using i
  refine aE (AC.mk (AB l rfl) ?_);rw[Aa (by omega)];refine aE (af.dt l (by simp) λG B C H=>?_);refine aE (af.dt B (by simp) λr D E I=>?_);have s:ES r f b d (a+1) false:=by simpa [ES] using D
  refine aE (AC.mk (AB s rfl) ?_);have n:J8 J9 (((a+1:Nat):Int)-1)=(a:Int):=by rw[wrap_i64 (by omega) (by omega)];omega
  rw[n];have t:=C.trans E;exact z i r (p.mod t λc j n=>o (n▸j)) s ((q.ak λc _ j=> .inl j).trans (t.ak λc _ j=> .inr j))
end Go.Lf.G
