/-
 Contracts: the box (chapter 3): the names in their order; List; Crash.
-/
import Derived.Test.YtgpmoonnachoaaaGreatDoorLfU2ToS1
import Derived.Test.YtgpmoonnachoaaaGreatDoorLfG1
import Derived.Laws.StructEq
import Derived.ChangeKeysEq
set_option maxRecDepth 100000
set_option linter.unusedVariables false
set_option linter.unusedSimpArgs false
open Go.IntKind renaming i64→J9,wrap→J8
open Go.Value renaming string→J7,int→J6,pointer→J5,slice→J4,bool→J3,tuple→J1
open Go.Obj renaming cells→J2
open Go renaming Value→J0,Addr→Q6,TypeId→Q7,FuncId→Q8,Program→Q1
open Go.Addr renaming add→Q9,mk→Q5
namespace Go.Lf.G
open Go
abbrev oU:Q8:=Fe
theorem AQh {d:ak}{a:aa}{b:Option Nat}{e:A2H}(g: ∀T c,c[a.size]? =some (J2 #[.map b] T (0,0))->Ext a c->c.size=a.size+1->e (.func (.func oU) #[] #[Ak a.size]) c):
  AA d P BR #[.map b] a e:=by
 intro f;have h:=Proofs.AnyZ.keys_in Proofs.Tryz.jg Fence.wide 5 trivial rfl b (d.at a f);have i:=callsIn_wide.1 h;refine Calls.mono i ?_;rintro j k ⟨rfl,rfl⟩;refine⟨_,rfl,a.push (J2 #[.map b] (Proofs.Tryz.cQ.t 23)),f,rfl,?_⟩;exact g (Proofs.Tryz.cQ.t 23) (a.push (J2 #[.map b] (Proofs.Tryz.cQ.t 23))) (by simp) (Mod.push a _) (by simp)
theorem AS3(m:Nat):Proofs.AnyZ.SortsIn P Proofs.Tryz.dQ Fence.wide m:=
 ⟨λag off a c b d e f=>callsIn_wide.2 (Proofs.AnyM.slices_Sort_string Proofs.Tryz.jh ag off a c b d e f),
 λp a b=>callsIn_wide.2 (Proofs.AnyM.slices_Sort_string_none Proofs.Tryz.jh p a b)⟩
theorem AMb {A:ak}{h:aa}{c i:Nat}{T:Q7}{m:List (A2I×J0)}{l:List A2I}{o:A2H}(p:h[c]? =some (J2 #[.map (some i)] T (0,0)))(M:UA h i m)
  (B:oW l) (C:(m.map (·.1)).Perm l) (d:m.length<=8796093022208)
  (q: ∀s j,Own IR BD j s l->Ext h j->(∀ b,s.ag=some b->h.size<=b)->o (J4 s.p s.len s.cap) j):
  AA A P Er #[.func (.func oU) #[] #[Ak c]] h o:=by
 intro n;obtain⟨k,D,E,r⟩:=AKm (P:=P) (kt:=BD) Ns (w:=A.at h n) M;have F:SeqGives Fence.wide 2 P oU #[Ak c] Proofs.encStr (λe=>e.Perm (strKeys k)) (Maps.size k) (A.at h n):=
  Proofs.AnyZ.keys_gives (ρ:=Proofs.Tryz.cQ) {Proofs.Tryz.jg with} Fence.wide _ trivial rfl (by omega) c i _ k _ (show c<h.size from Ag p) (by show ah h ⟨c,0,none⟩=_;rw[KZ p];rfl) D
 have G:=Proofs.AnyZ.sorted_in Proofs.Tryz.iQ Fence.wide 5 trivial trivial trivial trivial rfl (by omega) (AS3 _) (Proofs.enters_of Proofs.Tryz.func117 (by kernel_rfl) rfl) oU #[Ak c] trivial (Proofs.enters_of Proofs.Tryz.func118 (by kernel_rfl) rfl) _ _ (by rw[r];simp[maxLen];omega) (by rw[r];omega) _ F;have H:=callsIn_wide.1 G;refine Calls.mono H ?_;rintro V a ⟨v,e,rfl,I,t,W,f⟩;have u:a=A.at a.heap a.drawn:=wk (A:=A) (h:=h) (n:=n) rfl f.os f.tape f.output;have y:e.Perm (l.map λx=>x.data.toList):=by
  refine(I.trans E).trans ?_;have:=C.map λx:A2I=>x.data.toList
  simpa [B9,Fl] using this
 have J:e.length=l.length:=by have:=y.length_eq;simpa using this
 rw[AJo B y,AMx] at t;have z:Ext h a.heap:=⟨f.size,λb d _=>f.block b d⟩;rcases t.2 with⟨rfl,X⟩|⟨g,K,L,rfl,N,O,Q,R,S,U⟩
 ·have:l= []:=DA (by omega);subst this;exact⟨_,rfl,a.heap,a.drawn,u,q ⟨none,0,0⟩ _ Own.nil z (λb d=>by simp[Sl.ag] at d)⟩
 ·refine⟨_,rfl,a.heap,a.drawn,u,q ⟨some ⟨g,0,none⟩,e.length,K⟩ _ ⟨J,.inr ⟨g,L,rfl,O,Q,R,S,U⟩⟩ z (λb d=>?_)⟩;simp[Sl.ag] at d;subst d;exact N
def kI(m:Bx):List A2I×Int:=if m.down then([],30) else(m.files.map (·.name),0)
theorem ES.names {d:aa}{b e:Nat}{a:List (Fi×Nat)}{m:Bx}(c:ES d b e a m):((fg a).map (·.1)).Perm (m.files.map (·.name))/\(fg a).length<=8796093022208:=by
 refine⟨?_,?_⟩
 ·have:=c.perm.map (·.name);simpa [fg,B9,Fl] using this
 ·have f:=c.perm.length_eq;have g:=Sq m.files;have h:=c.aO.wt;simp at f ⊢;omega
theorem ES.eo {h:ak}{a:aa}{b i:Nat}{l:List (Fi×Nat)}{m:Bx}(d:ES a b i l m){R:Sl->aa->Prop}
  (n: ∀s f,Own IR BD f s (m.files.map (·.name))->Ext a f->(∀ c,s.ag=some c->a.size<=c)->R s f):
  AA h P BR #[.map (some i)] a λv1 g=> ∃j:J0,v1=j/\(
   AA h P Er #[j] g λv2 o=> ∃e:Sl,v2=J4 e.p e.len e.cap/\R e o):=by
 refine AQh λT v p k w=>⟨_,rfl,?_⟩
 refine AMb p (d.map.mod k (λa=>a)) (Ug.1 d.aO.sorted) d.names.1 d.names.2 λs g q r t=>⟨s,rfl,?_⟩
 exact n s g q (k.trans r) (λc u=>by have:=t c u;omega)
theorem wT {i:ak}{a:aa}{b:Nat}{j:Nat->Prop}{m:Bx}{h:A2H}(d:Bl a b j m)
  (e: ∀s g,Own IR BD g s (kI m).1->Ext a g->(∀ c,s.ag=some c->a.size<=c)->h (J1 #[J4 s.p s.len s.cap,J6 J9 (kI m).2]) g):AA i P Ld #[Ak b] a h:=by
 obtain⟨n,o,d,p⟩:=d;refine ABr ?_;unfold VP;refine mq d.head ⟨_,rfl,?_⟩;unfold kI at e;refine af.intro (λhd=>?_) (λhd=>?_)
 ·rw[if_pos hd] at e;exact e ⟨none,0,0⟩ a Own.nil Mod.refl (λc k=>by simp[Sl.ag] at k)
 rw[if_neg (by simp[hd])] at e;exact aE (Ef.mk (AL d.head rfl) (d.eo λs g l x f=>e s g l x f))
theorem ES.add {i f:aa}{b h c:Nat}{j:List (Fi×Nat)}{m:Bx}{x:Fi}{l:List Fi}(e:ES i b h j m)(M:UA f h (fg (j++ [(x,c)])))(o:f[c]? =some (J2 #[J7 x.bM,J7 x.soft] Pe (0,0)))
  (r:i.size<=c) (k:Mod (· =h) i f) (d:(x::m.files).Perm l) (g:Es {m with files:=l}):ES f b h (j++ [(x,c)]) {m with files:=l}:=by
 refine⟨k.ag e.head e.fU.symm,M,?_,?_,?_,g⟩
 ·intro p d;rcases List.mem_append.1 d with d|d
  ·exact k.ag (e.cells p d) (e.eW d).2
  ·simp at d;subst d;exact o
 ·rw[By];exact(On _ _).trans ((e.perm.cons _).trans d)
 ·rw[By];refine List.nodup_append.2 ⟨e.nodup,by simp,?_⟩;intro a q s n;obtain⟨p,d,rfl⟩:=List.mem_map.1 q;simp at n;subst n;have:=Ag (e.cells p d);omega
theorem zG:Ra P CX BD IR.w 16=true:=by kernel_rfl
theorem sI:Ra P Cj Bp GV.w 8=true:=by kernel_rfl
theorem AHQ {l:List UInt8}{b:List (List UInt8)}(a:Nf l b):b.length<=l.length:=by
 induction a with
 |stop a=>exact A5 _
 |step a s c=>have:=rJ a;simp only[A6];omega
theorem APh {p:ak}{a:aa}{s:A2I}{k:A2H}(A:s.size<=8000000000000)
  (q: ∀e sl r,Ext a e->View IR e sl ((lJ (bl s)).map AX)->k (J1 #[J4 sl.p sl.len sl.cap,J6 J9 r]) e):AA p P Le #[J7 s] a k:=by
 refine Ws ?_;unfold SN;refine Loop.rule (λm x g=> ∃(sl:Sl) (dn b:List (List UInt8)) (l:List UInt8),x=(sl,AX l,())/\Ext a g/\Own IR BD g sl (dn.map AX)/\(∀ c,sl.ag=some c->a.size<=c)/\Nf l b/\lJ (bl s)=dn++b/\dn.length+l.length<=s.size/\m=l.length) ?_
  ⟨⟨none,0,0⟩,[],_,bl s,by rw[KQ],Mod.refl,Own.nil,λc h=>by simp[Sl.ag] at h,rL _,rfl,by rw[A7];simp,rfl⟩
 rintro K m _ g ⟨sl,dn,b,l,rfl,x,n,f,i,j,B,rfl⟩ t;refine sA (by omega) λu d=>⟨_,_,_,rfl,?_⟩
 cases i with
 |stop o=>
  refine af.no (by simp;omega) ?_;rw[AN] at j;exact q u sl _ (x.trans d) (by rw[j];exact(n.ext d).view)
 |step o i=>
  rename_i b;refine af.yes (by simp;omega) ?_;have C:=rJ o;refine ao.bq (E:=IR) (x:=AX (De l).2.1) (s:=sl) (l:=dn.map AX) rfl zG (n.ext d) (by simp;omega) (by simp[maxLen];omega) λv D w y z F=>?_
  refine t (De l).2.2.length _ _ (by omega) ⟨v,dn++ [(De l).2.1],b,(De l).2.2,rfl,(x.trans d).more y f,?_,λc h=>?_,i,by rw[j];simp,by simp;omega,rfl⟩
  ·rw[By];exact w
  ·rcases z c h with a|a
   ·exact f c a
   ·have:=x.size;have:=d.size;omega
theorem ARX {m:ak}{c:aa}{s:Sl}{l:List Int}{t:A2H}(u:Own GV Bp c s l)(O:l.length<=8796093022208)
  (w: ∀n,View GV n s (l.mergeSort λx d=>decide (x<=d))->Mod (λb=>s.ag=some b) c n->t (J1 #[]) n):AA m P JG #[J4 s.p s.len s.cap] c t:=by
 intro j;have y:=u.len;rcases u.row with⟨rfl,rfl⟩|⟨g,o,p,h,B,Q,C,z⟩
 ·refine Calls.mono (Proofs.AnyM.slices_Sort_int_none Proofs.Tryz.ji none 0 (m.at c j)) ?_;rintro k D ⟨rfl,rfl⟩;exact⟨_,rfl,c,j,rfl,w c (by simpa using View.nil) Mod.refl⟩
 ·rw[p,y];have q:GV.w=1:=rfl;rw[q,Bs] at C z;have F: ∀a x,l[a]? =some x->o[a]? =some (Value.int J9 x):=λa x e=>by
   have f:=dL (E:=GV) e 0 (J6 J9 x) rfl;rw[<- z,q,Bs,G0,Fm] at f;split at f
   ·simpa using f
   ·cases f
  refine Calls.mono (Proofs.AnyM.slices_Sort_int Proofs.Tryz.ji g 0 s.cap l (m.at c j) ?_ (Ag h) (by omega)) ?_
  ·intro a e;have e:a<l.length:=by simpa using e
   have f:=F a l[a] (A2 e);have G:l.toArray[a]! =l[a]:=by simp[e]
   refine⟨?_,?_⟩
   ·show ah c ⟨g,0+a,none⟩=_;unfold ah;rw[h];simp only[Option.isSome_none,Cl,if_false,AI,G,f]
   ·show gw c ⟨g,0+a,none⟩=false;unfold gw;rw[h];simp
  ·rintro k D ⟨rfl,H,os,rfl⟩;have I:(c.modify g (Sort.onCells (Sort.putCells (Value.int J9) 0 (l.mergeSort λx d=>decide (x<=d)).toArray))++os)[g]? =some (J2 (Sort.putCells (Value.int J9) 0 (l.mergeSort λx d=>decide (x<=d)).toArray o) Bp (0,0)):=by rw[ID (by simpa using Ag h),HS,if_pos rfl,h];rfl
   refine⟨_,rfl,c.modify g (Sort.onCells (Sort.putCells (Value.int J9) 0 (l.mergeSort λx d=>decide (x<=d)).toArray))++os,j+H,rfl,w _ ⟨?_,B,λa x e=>⟨⟨g,0,none⟩,p,λi v r=>?_⟩⟩ ⟨by simp,λb J K=>?_⟩⟩
   ·rw[A0F];exact y
   ·have L:i=0:=by have:=(List.getElem?_eq_some_iff.1 r).1;have k:(GV.enc x).length=1:=rfl;omega
    subst L;simp only[GV,HA,BT] at r;subst r;have A:a<(l.mergeSort λx d=>decide (x<=d)).length:=(List.getElem?_eq_some_iff.1 e).1;have M:a<o.size:=by rw[A0F] at A;omega
    rw[q,Bs,Bq,Bq,AI,G0];unfold ah;rw[I];simp only[Option.isSome_none,Cl,if_false,Sort.putCells,Array.getElem?_mapIdx];rw[Ft M,HP,if_pos ⟨A5 _,by simpa using A⟩];have:(l.mergeSort λx d=>decide (x<=d)).toArray[a-0]! =x:=by rw[JT];simp[e]
    rw[this]
   ·have N:g≠b:=λk=>K (by rw[Sl.ag,p,k];rfl)
    rw[ID (by simpa using J),HS,if_neg N]
structure nq (nm:A2I) (m:Bx) (l:List Nat):Prop where
 inc:l.Pairwise (· < ·)
 mem: ∀n,n∈l↔1<=n/\n<=99999999/\(CE (aD nm n) m.files).isSome=true
theorem zH {k:A2I}{l:List Fi}:(CE k l).isSome=true↔k∈l.map (·.name):=by
 constructor
 ·intro a;cases b:CE k l with
  |none=>rw[b] at a;cases a
  |some f=>
   obtain⟨c,d⟩:=IE b;exact List.mem_map.2 ⟨f,d,c⟩
 ·intro a;obtain⟨f,c,d⟩:=List.mem_map.1 a;cases b:CE k l with
  |none=>exact absurd d (PX b f c)
  |some f=>rfl
theorem zI {m:Bx}(g:Es m):(m.files.map (·.name)).Nodup:=List.pairwise_map.2 (g.sorted.imp λa=>Lx a)
theorem AJm {ns:List Nat}(n:ns.Nodup): ∃l:List Nat,((ns.map λd:Nat=>(d:Int)).mergeSort λx e=>decide (x<=e))=l.map (λd:Nat=>(d:Int))/\l.Pairwise (· < ·)/\ ∀d,d∈l↔d∈ns:=by
 have f:=List.mergeSort_perm (ns.map λd:Nat=>(d:Int)) (λx e=>decide (x<=e));have k:((ns.map λd:Nat=>(d:Int)).mergeSort λx e=>decide (x<=e)).Pairwise (λx e=>decide (x<=e)=true):=
  List.pairwise_mergeSort (λa b c o h=>by simp at o h ⊢;omega) (λa b=>by simp;omega) _
 generalize (ns.map λd:Nat=>(d:Int)).mergeSort (λx e=>decide (x<=e))=L at f k;have i: ∀x∈L,((x.toNat:Nat):Int)=x:=λx g=>by
  obtain⟨d,_,rfl⟩:=List.mem_map.1 (f.subset g);simp
 have p:L=(L.map Int.toNat).map (λd:Nat=>(d:Int)):=by
  rw[B9]
  conv=>lhs;rw[<- Jx L]
  exact CD λx g=>(i x g).symm
 have q:L.Nodup:=f.symm.nodup (by
  rw[Ss,MY];exact(List.nodup_iff_pairwise_ne.1 n).imp λr s=>r (by exact_mod_cast s))
 refine⟨L.map Int.toNat,p,?_,λd=>?_⟩
 ·rw[MY];have h:L.Pairwise λx e=>decide (x<=e)=true/\x≠e:=k.and (List.nodup_iff_pairwise_ne.1 q)
  refine h.imp_of_mem λ{a c} t u m=>?_
  have w:=i a t;have y:=i c u;have z:a<=c:=of_decide_eq_true m.1;have A:=m.2;omega
 ·constructor
  ·intro j;obtain⟨x,g,rfl⟩:=List.mem_map.1 j;obtain⟨B,v,rfl⟩:=List.mem_map.1 (f.subset g);simpa using v
  ·intro j;exact List.mem_map.2 ⟨(d:Int),f.symm.subset (List.mem_map.2 ⟨d,j,rfl⟩),by simp⟩
theorem zJ {S:ak}{h:aa}{b:Nat}{T:Nat->Prop}{m:Bx}{j:A2I}{N:A2H}(E:cu h)(D:Bl h b T m)(hd:m.down=false)(U:j.size<=1099511627776)(aM:aY m.files<=8000000000000)
  (V: ∀k s (l:List Nat),nq j m l->View GV k s (l.map λe:Nat=>(e:Int))->Ext h k->(∀ c,s.ag=some c->h.size<=c)->N (J1 #[J4 s.p s.len s.cap,J6 J9 0]) k):AA S P LH #[Ak b,J7 j] h N:=by
 refine ABq ?_;unfold U0;refine wT D λs n F y aN=>⟨s,_,rfl,?_⟩
 have W:kI m=(m.files.map (·.name),0):=by unfold kI;rw[if_neg (by simp[hd])]
 rw[W] at F ⊢;refine af.no rfl ?_;have X:=zI D.aO;have Y: ∀d∈m.files.map (·.name),d.size<=32:=λd g=>by
  obtain⟨f,Z,rfl⟩:=List.mem_map.1 g;exact D.aO.names f Z
 have aO:(m.files.map (·.name)).length<=8000000000000:=by have:=Sq m.files;simp;omega
 have ab: ∀d,(CE d m.files).isSome=true↔d∈m.files.map (·.name):=λd=>zH
 dsimp only at F;generalize m.files.map (·.name)=names at*
 have v1:=F.view;refine Loop.rule (λO x G=> ∃(i:Nat) (sl:Sl) (ns:List Nat),x=(sl,(i:Int),())/\Ext n G/\Own GV Bp G sl (ns.map λe:Nat=>(e:Int))/\(∀ c,sl.ag=some c->n.size<=c)/\i<=names.length/\ns.length<=i/\(ns.map (aD j)).Sublist (names.take i)/\(∀ e∈ns,1<=e/\e<=99999999)/\(∀ d:Nat,1<=d->d<=99999999->aD j d∈names.take i->d∈ns)/\O=names.length-i) ?_
  ⟨0,⟨none,0,0⟩,[],rfl,Mod.refl,Own.nil,λc o=>by simp[Sl.ag] at o,A5 _,A0 _,by simp,by simp,by simp,rfl⟩
 rintro K O _ G ⟨i,sl,ns,rfl,r,H,f,aP,aQ,u,I,z,rfl⟩ ac;rw[v1.len];refine af.intro (λJ=>?_) (λJ=>?_)
 ·have v:i<names.length:=by simpa using J
  refine ai.mk λae ag=>?_
  have ah:names[i]? =some names[i]:=A2 v;rw[<- v1.len];refine(v1.ext r).idx ah λa _ c=>?_
  refine AJ.mk c.str ?_;refine AMw ((E.ext y).ext r) U (by have:=Y names[i] (AS v);omega) λaj e w al am=>⟨_,rfl,?_⟩
  have A:names.take (i+1)=names.take i++ [names[i]]:=by rw[Ax,ah];rfl
  have Q: ∀(p:Sl) (q:List Nat) (k:aa),Ext n k->Own GV Bp k p (q.map λe:Nat=>(e:Int))->(∀ c,p.ag=some c->n.size<=c)->q.length<=i+1->(q.map (aD j)).Sublist (names.take (i+1))->(∀ e∈q,1<=e/\e<=99999999)->(∀ d:Nat,1<=d->d<=99999999->aD j d∈names.take (i+1)->d∈q)->ae (p,()) k:=λp q k an ap aq ar au av aw=>by
   refine ag _ _ ?_;dsimp only;rw[Aa (by omega)];exact ac (names.length-(i+1)) _ _ (by omega) ⟨i+1,p,q,rfl,an,ap,aq,v,ar,au,av,aw,rfl⟩
  by_cases t:e=0
  ·refine af.no (by simp[t]) (Q sl ns aj (r.trans w) (H.ext w) f (by omega) ?_ I ?_)
   ·rw[A];exact u.trans (List.sublist_append_left _ _)
   ·intro d B C g;rw[A] at g;rcases List.mem_append.1 g with g|g
    ·exact z d B C g
    ·exact absurd (List.mem_singleton.1 g).symm (al t d B C)
  ·refine af.yes (by simp;omega) ?_;obtain⟨aR,ne⟩:=am t;refine ao.bq (E:=GV) (x:=(e:Int)) (s:=sl) (l:=ns.map λe:Nat=>(e:Int)) rfl sI (H.ext w) (by simp;omega) (by simp[maxLen];omega) λp ax ay az aA _=>?_
   refine Q p (ns++ [e]) ax ((r.trans w).more az f) (by rw[By];exact ay) (λc o=>?_) (by simp;omega) ?_ ?_ ?_
   ·rcases aA c o with h|h
    ·exact f c h
    ·have:=r.size;have:=w.size;omega
   ·rw[A,By];have aC: [e].map (aD j)= [names[i]]:=by rw[ne];rfl
    rw[aC];exact u.append (List.Sublist.refl _)
   ·intro d g;rcases List.mem_append.1 g with g|g
    ·exact I d g
    ·rw[List.mem_singleton.1 g];omega
   ·intro d B C g;rw[A] at g;rcases List.mem_append.1 g with g|g
    ·exact List.mem_append.2 (.inl (z d B C g))
    ·have:=Iz ((List.mem_singleton.1 g).trans ne);exact List.mem_append.2 (.inr (by simp[this]))
 ·have v:i=names.length:=by simp at J;omega
  subst v;rw[Bk] at u z;have aE:ns.Nodup:=by have n:=u.nodup X;rw[Ss,MY] at n;rw[Ss];exact n.imp λh aF=>h (by rw[aF])
  obtain⟨l,aG,aH,aI⟩:=AJm aE;refine ARX H (by simp;omega) λaJ R aK=>⟨rfl,?_⟩
  rw[aG] at R;refine V aJ sl l ⟨aH,λe=>?_⟩ R ((y.trans r).more aK λc o=>by have:=f c o;have:=y.size;omega) λc o=>by have:=f c o;have:=y.size;omega
  rw[aI,ab];constructor
  ·intro t;obtain⟨L,M⟩:=I e t;exact⟨L,M,u.subset (List.mem_map.2 ⟨e,t,rfl⟩)⟩
  ·rintro⟨L,M,aL⟩;exact z e L M aL
structure bW (h:aa) (t:Nat) (l:List Pr) (f:List UInt8) (lo hi:Nat):Prop where
 at_: ∃fs bs:Sl,h[t]? =some (J2 #[J4 fs.p fs.len fs.cap,J4 bs.p bs.len bs.cap,J7 (AX f),J6 J9 (l.length:Int)] Mg (0,0))/\View IR h fs (Cb l)/\View IR h bs ((Kv l).map λb=>AX (BN b))/\
  (∀ c,fs.ag=some c->lo<=c/\c<hi)/\(∀ c,bs.ag=some c->lo<=c/\c<hi)
 fP:lo<=t/\t<hi
theorem bW.mod {i j:aa}{t:Nat}{l:List Pr}{f:List UInt8}{b d:Nat}{k:Nat->Prop}(T:bW i t l f b d)(m:Mod k i j)(e: ∀c,b<=c->c<d-> ¬k c):bW j t l f b d:=by obtain⟨n,o,p,q,r,g,h⟩:=T.at_;exact⟨⟨n,o,m.ag p (e t T.fP.1 T.fP.2),q.mod m (λc a=>e c (g c a).1 (g c a).2),r.mod m (λc a=>e c (h c a).1 (h c a).2),g,h⟩,T.fP⟩
theorem bW.ext {a b:aa}{t:Nat}{l:List Pr}{f:List UInt8}{c d:Nat}(T:bW a t l f c d)(m:Ext a b):bW b t l f c d:=T.mod m λ_ _ _ a=>a
theorem Xt(a:List UInt8)(b:List (List UInt8)):aL (a::b)=Cg a++aL b:=rfl
theorem ANx {w:ak}{b:aa}{a:List (List UInt8)}{q:A2H}(l: ∀f∈a,f.length<=1048576)(y:(aL a).length<=1099511627776)
  (r: ∀h sl,Ext b h->View IR h sl (a.map AX)->(∀ c,sl.ag=some c->b.size<=c/\c<h.size)->q (J1 #[J4 sl.p sl.len sl.cap,J6 J9 ((aL a).length:Int)]) h):AA w P Le #[J7 (AX (aL a))] b q:=by
 refine Ws ?_;unfold SN;refine Loop.rule (λm x n=> ∃(i:Nat) (sl:Sl),x=(sl,AX (aL (a.drop i)),())/\m=a.length-i/\i<=a.length/\Ext b n/\Own IR BD n sl ((a.take i).map AX)/\(∀ c,sl.ag=some c->b.size<=c)) ?_
  ⟨0,⟨none,0,0⟩,rfl,rfl,by omega,Mod.refl,Own.nil,λc d=>by simp[Sl.ag] at d⟩
 rintro K m _ n ⟨i,sl,rfl,rfl,z,o,g,p⟩ t;dsimp only;have N:a.length<=(aL a).length:=by
  clear y r z g t
  induction a with
  |nil=>simp
  |cons f a A=>
   have O:=(Ij (l f Cd)).1;have:=A λx j=>l x (AG _ j)
   simp only[aL,AH,A1,A6] at this ⊢;omega
 have B:(aL (a.drop i)).length<=1099511627776:=by
  have C:aL a=aL (a.take i)++aL (a.drop i):=by unfold aL;rw[<- Fo,DH]
  have:=congrArg List.length C;rw[A1] at this;omega
 refine sA (As B (by decide)) λD e=>⟨_,_,_,rfl,?_⟩
 by_cases k:i<a.length
 ·have j:a[i]? =some a[i]:=A2 k;have u:=l _ (AS k);have hd:a.drop i=a[i]::a.drop (i+1):=F2 k;have v:=Uf j;generalize a[i]=f at j u hd v;rw[hd,Xt,sq u];refine af.yes rfl ?_;refine ao.bq (E:=IR) (x:=AX f) (s:=sl) rfl sP (g.ext e) (by grind) (by simp only[AW,An,maxLen];omega) λF Q G H I R=>?_
  refine t (a.length-(i+1)) _ _ (by omega) ⟨i+1,F,rfl,rfl,k,(o.trans e).more H p,?_,λc d=>?_⟩
  ·rw[v,By];exact G
  ·rcases I c d with b|b
   ·exact p c b
   ·have:=o.size;have:=e.size;omega
 ·have J:a.drop i= []:=I0 (by omega);have L:a.take i=a:=AE (by omega);rw[J];rw[L] at g;have S:=Uj;refine af.no (by grind) ?_;have M:J8 J9 (((AX (aL a)).size:Int)-((AX (aL [])).size:Int))=((aL a).length:Int):=by
   rw[AP,AP];show J8 J9 (((aL a).length:Int)-((0:Nat):Int))=_
   grind [wrap_i64]
  rw[M];exact r D sl (o.trans e) (g.ext e).view λc d=>⟨p c d,(g.ext e).lt d⟩
def ZO(l:List Pr)(a:Nat):A2I:=match a with|0=>⟨#[]⟩|a+1=>JD l a
theorem ARg {l:List Pr}(d: ∀p∈l,Lr p)(e:l.Pairwise λp f=>aR p.key f.key=true){a:Nat}{p:Pr}(b:l[a]? =some p):(aR p.key (ZO l a)||bU p.key (ZO l a))=false:=by
 have k:aR (ZO l a) p.key=true:=by
  cases a with
  |zero=>
   have:=(d p (AM b)).key;unfold ZO;rw[Zk];have g:bl p.key≠ []:=by grind [A7]
   cases h:bl p.key with
   |nil=>exact absurd h g
   |cons c t=>
    simp only[decide_eq_true_eq];show([]:List UInt8)<bl p.key
    simp_all
  |succ a=>
   have i:a<l.length:=by grind
   have j:l[a]? =some l[a]:=A2 i;have:=AFR e j b;show aR (JD l a) p.key=true
   simp_all [JD]
 rw[Gk]
 grind [aR,ZO,DY,Cf,CZ,decide_eq_false_iff_not]
theorem AQH {a N:Nat}(b:a=N+1)(c:N<=1099511627776):J8 J9 (((a:Nat):Int)-(1:Int))=((N:Nat):Int):=by grind [wrap_i64]
theorem ik.jO {s:List UInt8}{l:List Pr}{f:List UInt8}(T:ik s l f):(aL (aT l f)).length<=1099511627776:=by
 have:=Vd (OC T);have b:=T.many;have a:(aT l f).length=CG l+1:=by simp[aT,JK]
 have c:CG l<=12501:=by unfold CG;omega
 rw[a] at this;have d:(CG l+1)*1048590<=12502*1048590:=AK _ (by omega);omega
theorem AIk {bi:ak}{e:aa}{l:List Pr}{f:List UInt8}{aI:A2H}(T:ik (aL (aT l f)) l f)
  (bj: ∀O t,Ext e O->bW O t l f e.size O.size->aI (J1 #[Ak t,J6 J9 0]) O):AA bi P OT #[J7 (AX (aL (aT l f)))] e aI:=by
 refine AEv ?_;unfold ZN;have cf:=AIG T.ne;have cg:=T.many;have ch:CG l<=12501:=by unfold CG;omega
 have ci:=T.jM;refine ANx (OC T) (ik.jO T) λh sl C v1 aJ=>⟨sl,_,rfl,?_⟩
 have aK:sl.len=CG l+1:=by rw[v1.len];simp[aT,JK]
 have cj:=v1.cap;rw[AQH aK (by omega)];refine ai.mk λK aM=>?_
 refine af.no (by rw[AP];simp) ?_;refine aM _ _ (af.no (by rw[aK];simp;omega) ?_);clear aM;simp only[AF,JT];refine⟨⟨by omega,by omega⟩,?_⟩;have bk:((aT l f).map AX)[CG l]? =some (AX (WL l f)):=by simp_all [BE,aT,Ek,JK]
 refine v1.idx bk λa aN d=>?_
 refine AJ.mk d.str ?_;have aO:=Yc T;refine KG λaP aQ Q=>⟨_,rfl,?_⟩
 have R: ∀ {e:aa} {s:Sl} {ks:List A2I},Own IR BD e s ks-> ∀ {c:Nat} {aR:Rd},Iw e c aR->s.ag≠some c:=λbm c aR bn=>bm.ne bn (by decide)
 refine ao.mk λS _ bo D ck=>?_
 have aS:Iw S h.size _:=Ap D aQ;have cl:=AV (n:=CG l) (by omega);have bp:WL l f=BX (CG l)++(G6 (Cb l)++(BX l.length++BG f)):=by unfold WL G6;simp_all
 rw[bp] at aS aO;have cm:=AV (n:=l.length) (by omega);have cn:(BG f).length=(BX f.length).length+f.length:=by simp[BG]
 have co:=AV (n:=f.length) (by omega);have bq:=RO (ks:=Cb l) (Pi T.ok);rw[IB] at bq;refine DZ (most:=CG l) aS (As aO (by decide)) (by omega) λbr ac ag=>⟨_,rfl,?_⟩
 rw[Cr (by omega) (A0 _)] at ac ⊢;dsimp only at ac ⊢;refine af.no (by simp) ?_;have cp:h.size<aP.size:=Ag aQ;have bs:=ag.ag bo (by omega);have U:Ext e S:=(C.trans Q).trans D;have cq:Ext e br:=U.more ag (λb bt=>by rw[bt];exact C.size);have aV: ∀ {g:aa},(∀ c,sl.ag=some c->g[c]? =h[c]?)->View IR g ⟨BI sl.p sl.cap 0 1,CG l,sl.cap⟩ ((Kv l).map λb=>AX (BN b)):=by
  intro g d;have v:View IR g sl ((aT l f).map AX):=⟨v1.len,v1.cap,λi x hi=>by
   obtain⟨a,aN,bu⟩:=v1.cells i x hi;refine⟨a,aN,λj v aW=>?_⟩;rw[<- bu j v aW]
   grind [Qy,aU,Sl.ag]⟩
  have:=v.sub (lo:=0) (hi:=CG l) (A5 _) (by simp[aT,JK]);have aX:(((aT l f).map AX).take (CG l)).drop 0=(Kv l).map λb=>AX (BN b):=by simp_all [HM,aT,N4,JK,AE,B9]
  rw[aX] at this;exact this
 generalize cr:aP.size=q at*
 refine Loop.rule (λm x g=> ∃(i:Nat) (o:Sl),x=((i:Int),())/\m=CG l-i/\i<=CG l/\Iw g h.size ⟨G6 ((Cb l).drop i)++(BX l.length++BG f),false⟩/\
  g[q]? =some (J2 #[J4 o.p o.len o.cap,J4 (BI sl.p sl.cap 0 1) (CG l) sl.cap,J7 ⟨#[]⟩,J6 J9 0] Mg (0,0))/\Own IR BD g o ((Cb l).take i)/\(∀ c,o.ag=some c->q<c)/\
  Mod (λc=>c=h.size\/q<=c) S g) ?_ ⟨0,⟨none,0,0⟩,rfl,rfl,by omega,ac,bs,Own.nil,λc d=>by simp[Sl.ag] at d,ag.aj λc _ d=> .inl d⟩
 rintro cs m _ aY ⟨i,o,rfl,rfl,hi,w,aj,F,G,aZ⟩ a0;dsimp only;refine af.intro (λr=>?_) (λr=>?_)
 ·have V:i<CG l:=by simp at r;omega
  refine Ad.mk (s:=o) (AL aj rfl) ?_;have z:=R5 V;have hd:(Cb l).drop i=JD l (8*i)::(Cb l).drop (i+1):=by grind [Cb,IB,List.drop_eq_getElem_cons,List.getElem?_eq_getElem,Option.some.inj]
  have a1:=Uf z;have a2:=Pi T.ok _ (AM z);generalize JD l (8*i)=k at z hd a1 a2;have bv:G6 ((Cb l).drop i)++(BX l.length++BG f)=BG (bl k)++(G6 ((Cb l).drop (i+1))++(BX l.length++BG f)):=by rw[hd];simp[G6]
  have bw:=RO (ks:=(Cb l).drop i) λk bx=>Pi T.ok k (Hc bx)
  rw[CI,IB] at bw;have a3:(G6 ((Cb l).drop i)++(BX l.length++BG f)).length<1099511627776:=by simp only[A1];omega
  rw[bv] at w a3;refine Hl w a3 λH W al=>⟨_,rfl,?_⟩
  rw[Ik (by rw[A7];omega)] at W ⊢;dsimp only at W ⊢;rw[ED];have X:=al.ag aj (by omega);have am:=F.mod al (λc d e=>R F w (e▸d));refine⟨AL X rfl,?_⟩;refine ao.mk λbz _ bA I ct=>⟨AL (Ap I X) rfl,?_⟩
  have bB:Own IR BD bz ⟨some ⟨H.size,0,none⟩,1,1⟩ [k]:=Own.lit (E:=IR) (l:= [k]) bA rfl (by simp[maxLen]);refine GK (s:=o) (src:=⟨some ⟨H.size,0,none⟩,1,1⟩) sP (am.ext I) bB.view (by simp only[An,CN];omega) (by simp only[An,CN,maxLen];omega) λa4 cu bC an cv cw=>?_
  have cx:q<H.size:=Ag X;have cy: ∀c,o.ag=some c->c<H.size:=λc d=>am.lt d
  have bD:=an.ag (Ap I X) (λe=>by have:=G _ e;omega);refine ae.mk bD (by simp) λcz bE ap cB=>?_
  have a5: ∀c,a4.ag=some c->q<c:=λc d=>by
   grind
  rw[Aa (by omega)];refine a0 (CG l-(i+1)) _ _ (by omega) ⟨i+1,a4,rfl,rfl,V,?_,by simpa using bE,?_,a5,?_⟩
  ·refine ap.ag (an.ag (Ap I W) λe=>?_) (by omega);exact R am W e
  ·rw[a1];exact bC.mod ap (λc d e=>by have:=a5 c d;omega)
  ·have Y:Mod (λc=>c=h.size\/q<=c) aY H:=al.aj λc _ d=> .inl d
   exact(((aZ.trans Y).trans I.mod).trans (an.aj λc _ d=> .inr (by have:=G c d;omega))).trans (ap.aj λc _ d=> .inr (by omega))
 ·have V:i=CG l:=by simp at r;omega
  subst V;clear a0;have bF:(Cb l).drop (CG l)= []:=I0 (by rw[IB];omega);have bG:(Cb l).take (CG l)=Cb l:=AE (by rw[IB];omega);rw[bF] at w;rw[bG] at F;have bH:J8 J9 (((CG l:Nat):Int)*(8:Int))=((CG l*8:Nat):Int):=by grind [wrap_i64]
  rw[bH];have w:Iw aY h.size ⟨BX l.length++BG f,false⟩:=w;have bI:l.length<=CG l*8:=by unfold CG;omega
  refine DZ (most:=CG l*8) w (by grind) (by omega) λcC aq ar=>⟨_,rfl,?_⟩
  rw[Cr (by omega) bI] at aq ⊢;dsimp only at aq ⊢;have bK:=ar.ag aj (by omega);rw[Bq,Bq];refine ae.mk bK (by simp) λbL bM au cD=>?_
  have a6:Iw bL h.size ⟨BG f++ [],false⟩:=by rw[AN];exact au.ag aq (by omega)
  refine Hl a6 (by grind) λcE av aw=>⟨_,rfl,?_⟩
  rw[Ik (by omega)] at av ⊢;dsimp only at av ⊢;have bN:=aw.ag bM (by omega);refine ae.mk bN (by simp) λB J ax cF=>?_
  have bO:=ax.ag av (show h.size≠q by omega);have J:B[q]? =some (J2 #[J4 o.p o.len o.cap,J4 (BI sl.p sl.cap 0 1) (CG l) sl.cap,J7 (AX f),J6 J9 (l.length:Int)] Mg (0,0)):=by simpa using J
  have ay:Own IR BD B o (Cb l):=by have Y:=F.mod ar (λc d e=>R F w (e▸d));have az:=Y.mod au (λc d e=>by have:=G c d;omega);have L:=az.mod aw (λc d e=>R az a6 (e▸d));exact L.mod ax (λc d e=>by have:=G c d;omega)
  have M:Mod (λc=>c=h.size\/q<=c) S B:=
   (((aZ.trans (ar.aj λc _ d=> .inl d)).trans (au.aj λc _ d=> .inr (by omega))).trans (aw.aj λc _ d=> .inl d)).trans (ax.aj λc _ d=> .inr (by omega))
  have cG:h.size<=q:=by omega
  have bP:Ext e B:=by refine⟨by have:=U.size;have:=M.size;omega,λc d _=>?_⟩;have:=C.size;have:=U.size;exact(M.get c (by omega) (by omega)).trans (U.get c d (λe=>e))
  have a7: ∀ {g:aa},Ext B g-> ∀c,sl.ag=some c->g[c]? =h[c]? :=by intro g x c d;have:=aJ c d;have cH:=M.size;have:=D.size;have:=Q.size;exact((x.get c (by omega) (λe=>e)).trans (M.get c (by omega) (by omega))).trans ((D.get c (by omega) (λe=>e)).trans (Q.get c (by omega) (λe=>e)))
  have bQ: ∀c,Sl.ag ⟨BI sl.p sl.cap 0 1,CG l,sl.cap⟩=some c->e.size<=c/\c<h.size:=λc d=>aJ c (re d)
  refine ai.mk λcI a8=>?_
  refine MZ bO ⟨_,rfl,af.no rfl ?_⟩;have bR:f≠ []:=λaX=>by simp_all
  refine AJ.mk (AL J rfl) (af.no ?_ ?_)
  ·rw[X7,EF,decide_eq_false_iff_not];exact bR
  refine AJ.mk (AL J rfl) ?_;refine a8 _ _ (af.no (by rw[AP];simp;omega) ?_);clear a8;refine Loop.rule (λm x g=> ∃i:Nat,x=(ZO l (min (8*i) l.length),((min (8*i) l.length:Nat):Int),(i:Int),())/\m=CG l-i/\i<=CG l/\Ext B g) ?_ ⟨0,by simp[ZO],rfl,by omega,Mod.refl⟩;rintro cJ m _ bS ⟨i,rfl,rfl,hi,u⟩ bT;dsimp only;have Z:=Ap u J;refine af.intro (λr=>?_) (λr=>?_)
  ·have y:i<CG l:=by simp at r;omega
   have cK:=RG y;have cL:8*i<l.length:=by unfold CG at y;omega
   have bV:min (8*i) l.length=8*i:=by omega
   rw[bV];have bX:((Kv l).map λb=>AX (BN b))[i]? =some (AX (BN (CU l i))):=by simp[Kv,y]
   refine(aV (a7 u)).idx bX λY cM bY=>?_
   rw[AF];refine AJ.mk bY.str ?_;have bZ: ∀p∈CU l i,Lr p:=λp b0=>T.ok p (QI b0)
   have cN:=RN T.ok y;refine sN bZ (by omega) λps A aA aC cO=>⟨_,_,rfl,?_⟩
   have a9:=Ap aC Z;have b1:ps.len=(CU l i).length:=aA.len;refine ai.mk λba b2=>?_
   have aD:(CU l i)[0]? =some (CU l i)[0]:=A2 (by omega);have bb:JD l (8*i)=(CU l i)[0].key:=by have:=Qk (l:=l) (i:=i) (j:=0) (by omega);rw[aD] at this;unfold JD;rw[G0] at this;rw[<- this]
   generalize (CU l i)[0]=bc at aD bb;have b3:ba (false,()) A:=by
    refine b2 _ _ (af.no rfl ?_);refine Loop.rule (λm x g=> ∃j:Nat,x=(ZO l (8*i+j),((8*i+j:Nat):Int),(j:Int),())/\m=(CU l i).length-j/\j<=(CU l i).length/\Ext A g) ?_ ⟨0,by simp,rfl,by omega,Mod.refl⟩;rintro cP m _ cQ ⟨j,rfl,rfl,aW,ab⟩ b4;dsimp only;refine af.intro (λr=>?_) (λr=>?_)
    ·have N:j<(CU l i).length:=by grind
     have z:(CU l i)[j]? =some (CU l i)[j]:=A2 N;have aE:(CU l i)[j]∈l:=QI (AS N);have aF:l[8*i+j]? =some (CU l i)[j]:=by rw[<- Qk (by omega)];exact z
     generalize (CU l i)[j]=p at z aE aF;have b5:=T.ok p aE;refine(aA.ext ab).view.idx z λaz cR b6=>?_
     obtain⟨b7,c1,c2⟩:=b6.pair;rw[AF];refine AJ.mk b7 (AJ.mk c1 (AZ.mk c2 ?_));refine ao.pair λcS cT cU aG bd cV=>?_
     refine ai.mk λcW b8=>?_
     refine AJ.mk (AL aG rfl) ?_;rw[ARg T.ok T.inc aF];refine af.no rfl ?_;have b9:=Ap bd (Ap ab a9);refine AJ.mk (AL b9 rfl) ?_;refine AJ.mk (AL aG rfl) ?_;have a2:=b5.bL;refine zS (by omega) ⟨_,rfl,?_⟩;rw[EF,T.has p aE];refine b8 _ _ (af.no rfl ?_);refine AJ.mk (AL aG rfl) ?_;rw[Aa (by omega),Aa (by omega)];refine b4 ((CU l i).length-(j+1)) _ _ (by omega) ⟨j+1,?_,rfl,N,ab.trans bd⟩;have ca:ZO l (8*i+(j+1))=p.key:=by show JD l (8*i+j)=p.key;unfold JD;rw[aF]
     rw[ca];rfl
    ·have N:j=(CU l i).length:=by grind
     rw[Aa (by omega)];have aH:min (8*(i+1)) l.length=8*i+j:=by rw[N];unfold CU;rw[An,CI];omega
     refine bT (CG l-(i+1)) _ _ (by omega) ⟨i+1,?_,rfl,y,(u.trans aC).trans ab⟩;rw[aH]
   have be:bJ ps.p ps.len 0 λL=>AJ A (L.add ((0:Int).toNat*3)) λcb=>Ad A (⟨q,0,none⟩:Q6) λbf=>bJ bf.p bf.len ((i:Nat):Int) λbg=>AJ A (bg.add (((i:Nat):Int).toNat*1)) λcc=>ba ((!bU cb cc),()) A:=by
    obtain⟨L,cd,bh⟩:=aA.view.cells 0 bc aD;rw[HT,add_zero] at bh;refine bJ.mk (k:=0) cd (by omega) ?_;refine AJ.mk (n:=bc.key) (by show ah A (L.add 0)=_;rw[add_zero];exact bh.pair.1) ?_;refine Ad.mk (s:=o) (AL a9 rfl) ?_;refine((ay.ext u).ext aC).view.idx (R5 y) λbg cX ce=>?_
    rw[AF];refine AJ.mk ce.str ?_;rw[bb,CZ,decide_eq_true rfl];exact b3
   refine af.no rfl (af.no (by grind) (af.no (by rw[b1];simp;omega) ?_));rw[Aa (by omega)];refine af.intro (λr=>?_) (λ_=>be);have:i+1<CG l:=by simp at r;omega
   exact af.no (by grind) be
  ·have y:i=CG l:=by simp at r;omega
   have aH:min (8*i) l.length=l.length:=by rw[y];omega
   rw[aH];refine AC.mk (AL Z rfl) (af.no (by simp) ?_);refine bj bS q (bP.trans u) ⟨⟨o,⟨BI sl.p sl.cap 0 1,CG l,sl.cap⟩,Z,(ay.ext u).view,aV (a7 u),λc d=>?_,λc d=>?_⟩,?_⟩
   ·have h:=(ay.ext u).lt d;have:=G c d;have:=C.size;omega
   ·have h:=bQ c d;have:=M.size;have:=u.size;have:=D.size;have:=Q.size;omega
   ·have:=Ag Z;have:=C.size;omega
def XG(g:ak)(h:Int)(f:J0)(i:aa)(j:A2H):=Loop (λK (s:Int×Int×Unit) a=>af (decide (s.1<s.2.1)) (ai (λ(b:Int×Int×Unit) k=>K (b.1,b.2.1,()) k) λc=>F4 g P f #[J6 J9 (J8 J9 ((J8 .u64 (J8 J9 (s.1+s.2.1))).fdiv ((2:Int)^(1:Nat))))] a λv d=>∃e,v=J3 e/\af (!e) (c ((J8 J9 ((J8 J9 ((J8 .u64 (J8 J9 (s.1+s.2.1))).fdiv ((2:Int)^(1:Nat))))+1)),s.2.1,()) d) (c (s.1,(J8 J9 ((J8 .u64 (J8 J9 (s.1+s.2.1))).fdiv ((2:Int)^(1:Nat)))),()) d)) (j (J6 J9 s.1) a)) (0,h,()) i
theorem ACs {a b f c d}(e:XG a b f c d):AA a P QK #[J6 J9 b,f] c d:=Ae (Cc 2 (AO (.block (.loop [(5,.one (.int J9)),(6,.one (.int J9))] [1] (AO Fy (.bN [(5,.one (.int J9)),(6,.one (.int J9))] [1] lA)))) CK)) (by kernel_rfl) e
def Gz(b:ak)(s:Sl)(v:Int)(c:aa)(d:A2H):=AA b P JB #[J4 s.p s.len s.cap,J6 J9 v] c λv1 e=>∃a,v1=J6 J9 a/\d (J3 (decide (a>=0))) e
theorem Lt {a s v b c}(d:Gz a s v b c):AA a P Ex #[J4 s.p s.len s.cap,J6 J9 v] b c:=Ae F6 (by kernel_rfl) d
def I6(g:ak)(s:Sl)(v:Int)(e:aa)(d:A2H):=Loop (λK (b:Int×Unit) c=>af (decide (b.1<(s.len:Int))) (bJ s.p s.len b.1 λa=>AC J9 c (a.add (b.1.toNat*1)) λf=>af (v==f) (d (J6 J9 b.1) c) (K ((J8 J9 (b.1+1)),()) c)) (d (J6 J9 (-1)) c)) (0,()) e
theorem NV {a s v b c}(d:I6 a s v b c):AA a P JB #[J4 s.p s.len s.cap,J6 J9 v] b c:=Ae (AO AU (AO (AO AU (.block (.loop [(8,.one (.int J9))] [0,1,7] lz))) CK)) (by kernel_rfl) d
def IY(b:ak)(s:Sl)(i:Int)(v:Sl)(e:aa)(d:A2H):=aN ((0:Int)<=i/\i<=(s.len:Int))<| af ((v.len:Int)==0) (d (J4 s.p s.len s.cap) e) (af (i==(s.len:Int)) (BK b P (Builtin.append_ #[Cj,Cj] Cj #[J4 s.p s.len s.cap,J4 v.p v.len v.cap]) e λv1 h=>∃c:Sl,v1=J4 c.p c.len c.cap/\d (J4 c.p c.len c.cap) h) (af (decide ((J8 J9 ((s.len:Int)+(v.len:Int)))>(s.cap:Int))) (aN ((0:Int)<=i/\i<=(s.cap:Int))<| BK b P (Builtin.append_ #[Cj,Bp] Cj #[J4 (BI s.p s.cap 0 1) (i.toNat-0) (s.cap-0),J6 J9 (J8 J9 ((J8 J9 ((s.len:Int)+(v.len:Int)))-i))]) e λv2 j=>∃a:Sl,v2=J4 a.p a.len a.cap/\(aN ((0:Int)<=i/\i<=(a.len:Int))<| BK b P (Builtin.copy_ #[Cj,Cj] Bp #[J4 (BI a.p a.cap i.toNat 1) (a.len-i.toNat) (a.cap-i.toNat),J4 v.p v.len v.cap]) j λk l=>∃m,k=J6 J9 m/\(aN ((0:Int)<=(J8 J9 (i+(v.len:Int)))/\(J8 J9 (i+(v.len:Int)))<=(a.len:Int))<| aN ((0:Int)<=i/\i<=(s.len:Int))<| BK b P (Builtin.copy_ #[Cj,Cj] Bp #[J4 (BI a.p a.cap ((J8 J9 (i+(v.len:Int))).toNat) 1) (a.len-((J8 J9 (i+(v.len:Int))).toNat)) (a.cap-((J8 J9 (i+(v.len:Int))).toNat)),J4 (BI s.p s.cap i.toNat 1) (s.len-i.toNat) (s.cap-i.toNat)]) l λn o=>∃p,n=J6 J9 p/\d (J4 a.p a.len a.cap) o))) (aN ((0:Int)<=(J8 J9 ((s.len:Int)+(v.len:Int)))/\(J8 J9 ((s.len:Int)+(v.len:Int)))<=(s.cap:Int))<| aN ((0:Int)<=(J8 J9 (i+(v.len:Int)))/\(J8 J9 (i+(v.len:Int)))<=(((((J8 J9 ((s.len:Int)+(v.len:Int))).toNat)-0):Nat):Int))<| oE b P Gr #[J4 v.p v.len v.cap,J4 (BI (BI s.p s.cap 0 1) (s.cap-0) ((J8 J9 (i+(v.len:Int))).toNat) 1) ((((J8 J9 ((s.len:Int)+(v.len:Int))).toNat)-0)-((J8 J9 (i+(v.len:Int))).toNat)) ((s.cap-0)-((J8 J9 (i+(v.len:Int))).toNat))] e λq f=>∃g,q=J3 g/\af (!g) (aN ((0:Int)<=(J8 J9 (i+(v.len:Int)))/\(J8 J9 (i+(v.len:Int)))<=(((((J8 J9 ((s.len:Int)+(v.len:Int))).toNat)-0):Nat):Int))<| aN ((0:Int)<=i/\i<=(((((J8 J9 ((s.len:Int)+(v.len:Int))).toNat)-0):Nat):Int))<| BK b P (Builtin.copy_ #[Cj,Cj] Bp #[J4 (BI (BI s.p s.cap 0 1) (s.cap-0) ((J8 J9 (i+(v.len:Int))).toNat) 1) ((((J8 J9 ((s.len:Int)+(v.len:Int))).toNat)-0)-((J8 J9 (i+(v.len:Int))).toNat)) ((s.cap-0)-((J8 J9 (i+(v.len:Int))).toNat)),J4 (BI (BI s.p s.cap 0 1) (s.cap-0) i.toNat 1) ((((J8 J9 ((s.len:Int)+(v.len:Int))).toNat)-0)-i.toNat) ((s.cap-0)-i.toNat)]) f λr t=>∃u,r=J6 J9 u/\(aN ((0:Int)<=i/\i<=(((((J8 J9 ((s.len:Int)+(v.len:Int))).toNat)-0):Nat):Int))<| BK b P (Builtin.copy_ #[Cj,Cj] Bp #[J4 (BI (BI s.p s.cap 0 1) (s.cap-0) i.toNat 1) ((((J8 J9 ((s.len:Int)+(v.len:Int))).toNat)-0)-i.toNat) ((s.cap-0)-i.toNat),J4 v.p v.len v.cap]) t λw x=>∃y,w=J6 J9 y/\d (J4 (BI s.p s.cap 0 1) (((J8 J9 ((s.len:Int)+(v.len:Int))).toNat)-0) (s.cap-0)) x)) (aN ((0:Int)<=(s.len:Int)/\(s.len:Int)<=(((((J8 J9 ((s.len:Int)+(v.len:Int))).toNat)-0):Nat):Int))<| BK b P (Builtin.copy_ #[Cj,Cj] Bp #[J4 (BI (BI s.p s.cap 0 1) (s.cap-0) ((s.len:Int).toNat) 1) ((((J8 J9 ((s.len:Int)+(v.len:Int))).toNat)-0)-((s.len:Int).toNat)) ((s.cap-0)-((s.len:Int).toNat)),J4 v.p v.len v.cap]) f λz A=>∃B,z=J6 J9 B/\(aN ((0:Int)<=i/\i<=(((((J8 J9 ((s.len:Int)+(v.len:Int))).toNat)-0):Nat):Int))<| AA b P I8 #[J4 (BI (BI s.p s.cap 0 1) (s.cap-0) i.toNat 1) ((((J8 J9 ((s.len:Int)+(v.len:Int))).toNat)-0)-i.toNat) ((s.cap-0)-i.toNat),J6 J9 (v.len:Int)] A λC D=>C=J1 #[]/\d (J4 (BI s.p s.cap 0 1) (((J8 J9 ((s.len:Int)+(v.len:Int))).toNat)-0) (s.cap-0)) D)))))
theorem NN {a s i v b c}(d:IY a s i v b c):AA a P DF #[J4 s.p s.len s.cap,J6 J9 i,J4 v.p v.len v.cap] b c:=Ae vu (by kernel_rfl) d
end Go.Lf.G
namespace Go.Lf.G.M
open Go Go.Lf Go.Lf.G
theorem toList_inj {a b:A2I}:(a.toList==b.toList)=decide (a=b):=by rw[ByteArray.toList_eq,ByteArray.toList_eq];rw[Ge];simp[LR,<-Array.toList_inj]
def Ah(x:Pr):Int:=
 if(decide (x.key=⟨#[]⟩)||(x.gone&& !decide (x.val=⟨#[]⟩))) then 1 else if(decide (x.key.size>64)||decide (x.val.size>8192)) then 2 else 0
theorem CZ {a b:A2I}:bU a b=decide (a=b):=toList_inj
def iD(key:A2I)(l:List Pr):List Pr:=l.takeWhile λa=>aR a.key key
def aP(key:A2I)(l:List Pr):Nat:=(iD key l).length
def Ay(key:A2I)(l:List Pr):Bool:=match l[aP key l]? with|some a=>decide (a.key=key)|none=>false
theorem nN(key:A2I)(l:List Pr):aP key l<=l.length:=(Wg _).length_le
theorem VV {e:Type}{p:e->Bool}: ∀ {l:List e} {i:Nat},i<=(l.takeWhile p).length->(∀ x,l[i]? =some x->p x=true->i<(l.takeWhile p).length)/\(∀ x,l[i]? =some x->p x=false->i=(l.takeWhile p).length)/\(l[i]? =none->i=(l.takeWhile p).length)
 | [],i,a=>by simp at a;subst a;simp
 |y::l,0,a=>by
  refine⟨λx b c=>?_,λx b c=>?_,λa=>by simp at a⟩
  ·simp at b;subst b;simp[c]
  ·simp at b;subst b;simp[c]
 |y::l,i+1,a=>by
  rw[LS] at a ⊢;split at a
  ·rename_i f;have d:=VV (p:=p) (l:=l) (i:=i) (by simpa using a);simp only[f,if_true,A6];refine⟨λx b c=>?_,λx b c=>?_,λg=>?_⟩
   ·have:=d.1 x (by simpa using b) c;omega
   ·have:=d.2.1 x (by simpa using b) c;omega
   ·have:=d.2.2 (by simpa using g);omega
  ·simp at a
theorem GZ:Ra P AR AQ BO.w 40=true:=by kernel_rfl
theorem AOC:Ra P Je AR iG.w 24=true:=by kernel_rfl
theorem ARr:Ra P A9 Br kG.w 8=true:=by kernel_rfl
def Yb(x:Pr)(l:List Pr):List Pr:=l.take (aP x.key l)++ [x]++l.drop (if Ay x.key l then aP x.key l+1 else aP x.key l)
def Bw(x:Pr)(l:List Pr):List Pr:=if Ah x≠0 then l else Yb x l
theorem APC(x:Pr)(l:List Pr):(Yb x l).length<=l.length+1:=by unfold Yb;have:=nN x.key l;simp;split<;>omega
theorem AN1(x:Pr)(l:List Pr):(Bw x l).length<=l.length+1:=by
 unfold Bw;split
 ·omega
 ·exact APC x l
theorem ri {a:J0}{c:J0}:(#[]++ #[a]++ #[c]:Array J0)= #[a,c]:=rfl
theorem AGj {G:ak}{e H:aa}{fv:J0}{S:Nat->Prop}{l:List Pr}{I:A2H}(J:EY G P fv S H l)(K: ∀b,S b->e[b]? =H[b]?)(ay:l.length<=1099511627776)
  (ac: ∀s h,Own BO AQ h s l->(∀ c,s.ag=some c->e.size<=c)->Ext e h->I (J4 s.p s.len s.cap) h):AA G P DD #[J4 none 0 0,fv] e I:=by
 refine IM (s:=⟨none,0,0⟩) ?_;unfold En;refine ao.mk λo _ a L az=>?_
 have M: ∀b,S b->b<e.size:=λb a=>by
  have:=K b a;rw[Ft (J.1 b a)] at this;exact Ag this
 have af: ∀h:aa,Mod (λc=>c=e.size) o h->Ext e h:=λh m=>L.then (m.aj λc _ j=> .inr (by omega))
 refine Xu J (λb a=>(L.get b (M b a) (by simp)).trans (K b a))
  (λi c y p=>c=none/\ ∃s:Sl,p[e.size]? =some (J2 #[J4 s.p s.len s.cap] AR (0,0))/\Own BO AQ p s (l.take i)/\(∀ b,y b↔(b=e.size\/s.ag=some b))/\(∀ b,s.ag=some b->b<p.size/\e.size<b))
  (λb=>b=e.size) (λb a d=>by have:=M b a;omega) ?_ ?_ ?_ ?_ ?_ ?_
 ·rintro i c y p ⟨_,s,q,r,f,k⟩ b a;rcases(f b).1 a with rfl|n
  ·exact Ag q
  ·exact(k b n).1
 ·rintro i c y p h ⟨d,s,q,r,f,k⟩ m;refine⟨d,s,m.ag q (λz=>z.1 ((f _).2 (.inl rfl))),r.mod m (λc j z=>z.1 ((f _).2 (.inr j))),f,λb a=>⟨?_,(k b a).2⟩⟩;have:=m.size;have:=(k b a).1;omega
 ·exact⟨rfl,⟨none,0,0⟩,a,Own.nil,λb=>by simp[Sl.ag],λb a=>by simp[Sl.ag] at a⟩
 ·rintro i x N p rec aA aC O ⟨_,s,q,r,f,k⟩ Q aD ag ah ai aE;have aF:=(List.getElem?_eq_some_iff.1 O).1;refine ao.pair λaG R aH aj u aI=>?_
  refine⟨rec,u.ag ag (by simp),ah,?_⟩;generalize T:R.setIfInBounds (o.size+1) (.loop {rec with state:= .busy})=A;have t:Mod (λb=>b=o.size+1) R A:=T▸Mod.setObj rfl;have al:A[o.size+1]? =some (.loop {rec with state:= .busy}):=by rw[<- T];exact Ci (by omega)
  have aJ:=Ag q;have B:=t.ag aj (by omega);have U:=t.ag (u.ag q (by simp)) (by omega);have am:=(r.ext u).mod t (λc j d=>Q ((f _).2 (.inr (d▸j))));refine Ad.mk (AL U rfl) (AJ.mk (AL B rfl) (AJ.mk (AB B rfl) (AZ.mk (AB B rfl) ?_)));have V:(l.take i).length=i:=by simp;omega
  refine ao.bq (E:=BO) (x:=x) rfl GZ am (by rw[V];omega) (by rw[V];simp[maxLen];omega) λW X Y v C _=>?_
  have aK:=t.size;have an:s.ag≠some e.size:=λd=>by have:=k _ d;omega
  refine ae.mk (v.ag U an) (by simp) λap aq D aL=>ai ap ?_
  refine⟨λb=>b=e.size\/W.ag=some b,?_,?_,?_,rfl,W,by simpa using aq,?_,λ_=>CH,?_⟩
  ·rintro b (rfl|a)
   ·exact .inl ((f _).2 (.inl rfl))
   ·rcases C b a with n|n
    ·exact .inl ((f _).2 (.inr n))
    ·exact .inr (by omega)
  ·have ar:Mod (λb=>N b\/b=o.size+1) p A:=u.mod.trans (t.aj λb _ a=> .inr a);have au:Mod (λb=>N b\/b=o.size+1) p X:=ar.trans (v.aj λb _ a=> .inl ((f _).2 (.inr a)));exact au.trans (D.aj λb _ a=> .inl ((f _).2 (.inl a)))
  ·refine D.ag (v.ag al (λd=>Q ((f _).2 (.inr d)))) (by omega)
  ·have av:=Y.mod D (λc j d=>by
    rcases C c j with n|n
    ·have:=k _ n;omega
    ·omega)
   rw[Ax,O];exact av
  ·intro b a;have:=v.size;have aM:b<X.size:=by
    rcases Y.row with⟨rfl,_⟩|⟨g,aw,F,w,_⟩
    ·simp[Sl.ag] at a
    ·simp[Sl.ag,F] at a;subst a;exact Ag w
   refine⟨by omega,?_⟩;rcases C b a with n|n
   ·exact(k _ n).2
   ·omega
 ·rintro O' h ⟨_,s,q,r,f,k⟩ Z _ aN ab;have aO:=Z.size;refine Ad.mk (AL q rfl) ⟨ab,?_⟩;rw[Bk] at r;have ax:s.ag≠some o.size:=λd=>by
   rcases r.row with⟨rfl,_⟩|⟨g,aw,F,w,_⟩
   ·simp[Sl.ag] at d
   ·simp[Sl.ag,F] at d;rw[d,ab] at w;cases w
  refine ac s _ (r.mod (Mod.setObj (S:=λc=>c=o.size) rfl) λc j d=>ax (d▸j)) (λc j=>by have:=k _ j;omega) ?_;exact(af h Z).then (Mod.setObj (.inr (by omega)))
 ·rintro i aP O' h ⟨d,_⟩;cases d
theorem XI {e:ak}{d f:aa}{fv:J0}{g:Nat->Prop}{l:List Pr}{h:A2H}(i:EY e P fv g f l)(j: ∀b,g b->d[b]? =f[b]?)(k:l.length<=1099511627776)
  (m: ∀s a,Own BO AQ a s l->(∀ c,s.ag=some c->d.size<=c)->Ext d a->h (J4 s.p s.len s.cap) a):AA e P DC #[fv] d h:=by
 refine Mr ?_;unfold Ig;exact AGj i j k λs a n o p=>⟨s,rfl,m s a n o p⟩
def Az(l:List Pr):List Pr:=l.filter λx=> !x.gone
theorem wC {b:Type}{p:b->Bool}: ∀ {l:List b} {i:Nat} {x:b},l[i]? =some x->p x=true->(l.filter p)[((l.take i).filter p).length]? =some x
 | [],i,x,a,_=>by simp at a
 |y::l,0,x,a,c=>by simp at a;subst a;simp[c]
 |y::l,i+1,x,a,c=>by
  have d:=wC (p:=p) (l:=l) (i:=i) (by simpa using a) c;rw[HU,AT,AT];split
  ·simpa using d
  ·exact d
theorem AEz {a:Type}{p:a->Bool}(l:List a)(i:Nat):((l.take i).filter p).length<=(l.filter p).length:=((OR i l).filter p).length_le
theorem AP0 {Y:ak}{D:aa}{b:Nat}{T:Q7}{fr:Nat×Nat}{fv:J0}{z:Nat->Prop}{l:List Pr}(a:D[b]? =some (J2 #[fv] T fr))(h:(fv= .nilFunc/\l= []/\ ∀c,¬z c)\/EY Y P fv z D l):
  EY Y P (.func (.func PU) #[] #[J5 (some ⟨b,0,none⟩)]) (λc=>z c\/c=b) D (Az l):=by
 have ax:=Ag a;refine⟨?_,_,_,rfl,λZ=>by kernel_rfl,λd E Z w F ay hd hB az G=>?_⟩
 ·rintro c (n|rfl)
  ·rcases h with h|h
   ·exact absurd n (h.2.2 c)
   ·exact h.1 c n
  ·exact ax
 rw[ri];refine ABk ?_;unfold VH;refine Zl.mk ay (ao.mk λu _ aA q aK=>?_);have ab:u[b]? =some (J2 #[fv] T fr):=by have r:=(E b (.inr rfl)).trans a;exact q.ag r (by simp)
 refine TH.mk (AL ab rfl) ?_;rcases h with⟨rfl,rfl,_⟩|h
 ·refine⟨trivial,af.yes rfl ?_⟩;exact⟨rfl,0,true,F,q.mod,λb a=> .inl a,hB.br _ _ _ _ _ G (q.aj λ_ _ d=>d.elim),λ_=>rfl,by simp⟩
 ·refine⟨h.one.2.1,af.no h.one.2.2 ?_⟩;refine TH.mk (AL ab rfl) ?_;have aC:=hB.wf _ _ _ _ G;have aD: ∀b,z b->b<d.size:=λb a=>by
   have:=E b (.inl a);rw[Ft (h.1 b a)] at this;exact Ag this
  have aE:=hB.br _ _ _ _ _ G (q.aj (S':=λb=>¬F b/\d.size<=b) λ_ _ d=>d.elim);refine Xu h (λc n=>(q.get c (aD c n) (by simp)).trans (E c (.inl n)))
   (λi c e j=>j[d.size]? =some (J2 #[Z] Ml (0,0))/\ ¬e d.size/\match c with
    |none=>w (Az (l.take i)).length true e j
    |some ac=>ac=none/\ ∃s,s<=(Az l).length/\w s false e j)
   F (λc n=>hd c (.inl n)) ?_ ?_ ?_ ?_ ?_ ?_
  ·rintro i c e j ⟨_,_,f⟩;cases c
   ·exact hB.wf _ _ _ _ f
   ·obtain⟨_,s,_,H⟩:=f;exact hB.wf _ _ _ _ H
  ·rintro i c e j I ⟨r,t,f⟩ m;refine⟨m.ag r (λd=>by omega),t,?_⟩;have ae:Mod (λb=>¬e b/\d.size<=b) j I:=m.aj λb _ a=>⟨a.1,by omega⟩
   cases c
   ·exact hB.br _ _ _ _ _ f ae
   ·obtain⟨H,s,J,aF⟩:=f;exact⟨H,s,J,hB.br _ _ _ _ _ aF ae⟩
  ·exact⟨aA,λd=>by have:=aC _ d;omega,aE⟩
  ·rintro i x e j rec aL aM L ⟨r,t,f⟩ M aN aG aH ag aI;refine ao.pair λaO ah aP aJ N aQ=>?_
   refine⟨rec,N.ag aG (by simp),aH,?_⟩;generalize k:ah.setIfInBounds (u.size+1) (.loop {rec with state:= .busy})=v;have y:Mod (λb=>b=u.size+1) ah v:=k▸Mod.setObj rfl;have O:v[u.size+1]? =some (.loop {rec with state:= .busy}):=by rw[<- k];exact Ci (by omega)
   have A:=y.ag aJ (by omega);have Q:=y.ag (N.ag r (by simp)) (by omega);have R:Mod (λb=>b=u.size+1) j v:=(Ext.mod N).trans y;have aj:w (Az (l.take i)).length true e v:=hB.br _ _ _ _ _ f (R.aj λb _ a=>by subst a;exact⟨M,by omega⟩);have al:Az (l.take (i+1))=Az (l.take i)++Az [x]:=by rw[Ax,L];simp[Az]
   refine ai.mk λK am=>?_
   refine AZ.mk (AB A rfl) ?_;refine af.intro (λo=>?_) (λo=>?_)
   ·have o:(!x.gone)=true:=o;refine TH.mk (AL Q rfl) ?_;refine AJ.mk (AL A rfl) (AJ.mk (AB A rfl) (AZ.mk (AB A rfl) ?_));refine F4.mono (az _ _ e v (wC (p:=λx:Pr=> !x.gone) L o) aj) ?_;rintro _ S ⟨g,B,rfl,an,C,ap⟩;refine⟨g,rfl,am _ _ ?_⟩;have aR:=AEz (p:=λx:Pr=> !x.gone) l (i+1);have aq:(Az (l.take (i+1))).length=(Az (l.take i)).length+1:=by rw[al];simp only[Az,A1];simp[o]
    have ar:=C.ag Q t;have au: ¬B d.size:=λn=>(an _ n).elim t λd=>by have:=y.size;omega
    have av:Mod (λb=>e b\/b=u.size+1) j S:=(R.aj λb _ a=> .inr a).trans (C.aj λb _ a=> .inl a);have aw: ∀b,B b->e b\/j.size<=b:=λb a=>(an b a).elim .inl λd=> .inr (by have:=y.size;omega)
    refine af.intro (λk=>aI none S ?_) (λk=>ag S ?_)
    ·have k:g=false:=by simpa using k
     subst k;exact⟨B,aw,av,C.ag O M,ar,au,rfl,_,by have:=aq;unfold Az at *;omega,ap⟩
    ·have k:g=true:=by simpa using k
     subst k;exact⟨B,aw,av,C.ag O M,ar,au,by show w _ _ _ _;rw[aq];exact ap⟩
   ·have o:(!x.gone)=false:=o;refine am _ _ (af.no rfl (ag v ?_));refine⟨e,λb a=> .inl a,R.aj λb _ a=> .inr a,O,Q,t,?_⟩;show w _ _ _ _;have:Az [x]= []:=by simp at o;simp[Az,o]
    rw[al,this,AN];exact aj
  ·rintro O' I ⟨r,t,f⟩ U V W X;refine⟨X,rfl,(Az l).length,true,O',?_,?_,?_,λ_=>rfl,A0 _⟩
   ·exact(q.mod.trans U).then (Mod.setObj (.inr (by omega)))
   ·intro b a;exact(W b a).elim .inl λd=> .inr (by omega)
   ·rw[Bk] at f;exact hB.br _ _ _ _ _ f (Mod.setObj ⟨V,by omega⟩)
  ·rintro i ac O' I ⟨r,t,rfl,s,J,f⟩ L U V W X;refine⟨X,rfl,s,false,O',?_,?_,?_,(λd=>by cases d),J⟩
   ·exact(q.mod.trans U).then (Mod.setObj (.inr (by omega)))
   ·intro b a;exact(W b a).elim .inl λd=> .inr (by omega)
   ·exact hB.br _ _ _ _ _ f (Mod.setObj ⟨V,by omega⟩)
theorem tF {f:ak}{d:aa}{fv:J0}{g:Nat->Prop}{l:List Pr}{i:A2H}(a:(fv= .nilFunc/\l= []/\ ∀c,¬g c)\/EY f P fv g d l)
  (m: ∀j e,EY f P j (λc=>g c\/c=d.size) e (Az l)->Ext d e->e.size=d.size+1->i j e):AA f P OG #[fv] d i:=by
 refine AEb ?_;unfold Yp;refine Zl.mk ?_ (ao.mk λn _ o k p=>?_)
 ·rcases a with a|a
  ·rw[a.1];rfl
  ·exact a.one.1
 ·refine m _ n (AP0 o ?_) k p;rcases a with a|a
  ·exact .inl a
  ·exact .inr (a.aj (λ_=>id) (λb h=>by have:=a.1 b h;omega) (λb h=>k.get b (a.1 b h) (by simp)))
def Rn(a:A2I)(x:Pr):Bool:=decide (a=⟨#[]⟩)||aR x.key a
def QH(a:A2I)(b:Int)(l:List Pr):List Pr:=(l.takeWhile (Rn a)).take b.toNat
theorem oP {b:Type}{p:b->Bool}: ∀ {l:List b} {i:Nat},i<=(l.takeWhile p).length->(l.takeWhile p).take i=l.take i
 | [],i,_=>by simp
 |y::l,0,_=>by simp
 |y::l,i+1,a=>by
  rw[LS] at a ⊢;split at a
  ·rename_i c;simp only[c,if_true,HU];rw[oP (by simpa using a)]
  ·simp at a
theorem RP: ∀(a:List UInt8),Op.bytesLess a a=false
 | []=>rfl
 |a::x=>by simp[Op.bytesLess,RP x]
theorem mR: ∀(a b:List UInt8),Op.bytesLess a b=false->Op.bytesLess b a=false->a=b
 | [],[],_,_=>rfl
 | [],_::_,c,_=>by simp[Op.bytesLess] at c
 |_::_,[],_,c=>by simp[Op.bytesLess] at c
 |a::x,b::f,d,e=>by
  simp only[Op.bytesLess,Gk,A04,decide_eq_false_iff_not,beq_eq_false_iff_ne] at d e;have g:a=b:=by grind
  subst g;rw[mR x f (d.2.resolve_left (by simp)) (e.2.resolve_left (by simp))]
theorem UG: ∀(a b c:List UInt8),Op.bytesLess a b=true->Op.bytesLess b c=true->Op.bytesLess a c=true
 |_,[],_,f,_=>by simp[Op.bytesLess] at f
 |_,_::_,[],_,f=>by simp[Op.bytesLess] at f
 | [],_::_,_::_,_,_=>by simp[Op.bytesLess]
 |a::x,b::g,c::z,e,d=>by
  simp only[Op.bytesLess,DE,A3,decide_eq_true_eq,beq_iff_eq] at e d ⊢;rcases e with e|⟨rfl,e⟩
  ·grind
  ·rcases d with d|⟨rfl,d⟩
   ·exact .inl d
   ·exact .inr ⟨rfl,UG x g z e d⟩
theorem Cf(a:A2I):aR a a=false:=RP _
theorem DY {a b c:A2I}(d:aR a b=true)(e:aR b c=true):aR a c=true:=UG _ _ _ d e
theorem OQ {a b:A2I}(d:aR a b=false)(e:aR b a=false):a=b:=by
 have:=mR _ _ d e;have c:bU a b=true:=by simp[bU,this]
 rw[CZ] at c;simpa using c
theorem Om {a b:A2I}(c:aR a b=true):aR b a=false:=by grind [aR,DY,Cf]
theorem oQ {a b c:A2I}(d:aR a b=true)(e:aR c b=false):aR a c=true:=by grind [aR,OQ,DY]
theorem rj {a b c:A2I}(d:aR b a=false)(e:aR c b=false):aR c a=false:=by grind [aR,oQ]
def upto(p a:Pr):Bool:=aR a.key p.key||bU a.key p.key
def I9(p:Pr)(l:List Pr):List Pr:=l.dropWhile (upto p)
inductive MB:List (List Pr)->List Pr->Prop
 |done {ls:List (List Pr)} (h: ∀l,l∈ls->l= []):MB ls []
 |step {ls:List (List Pr)} {k:Nat} {p:Pr} {t out:List Pr} (hk:ls[k]? =some (p::t))
   (hmin: ∀j q u,ls[j]? =some (q::u)->aR q.key p.key=false/\(j<k->aR p.key q.key=true)) (hm:MB (ls.map (I9 p)) out):MB ls (p::out)
theorem MB.iP {a:List (List Pr)}{out:List Pr}(m:MB a out)(b: ∀l,l∈a->l= []):out= []:=by
 cases m with
 |done _=>rfl
 |step c d e=>have:=b _ (AM c);cases this
theorem MB.gQ {a:List (List Pr)}{out:List Pr}(m:MB a out){c:Nat}{p:Pr}{t:List Pr}(f:a[c]? =some (p::t))
  (h: ∀d b u,a[d]? =some (b::u)->aR b.key p.key=false/\(d<c->aR p.key b.key=true)): ∃e,out=p::e/\MB (a.map (I9 p)) e:=by
 cases m with
 |done g=>have:=g _ (AM f);cases this
 | @step _ i j k l n o q=>
  grind
theorem tw {d:Type}: ∀(a:List d) (b i:Nat) (v:d),(a.set i v).take b=(a.take b).set i v
 | [],b,i,v=>by simp
 |c::a,0,i,v=>by simp
 |c::a,b+1,0,v=>by simp
 |c::a,b+1,i+1,v=>by simp[tw a b i v]
end Go.Lf.G.M
namespace Go.Lf
open G
theorem Own.jK {T:Q7}{d:aa}{s:Sl}{l:List Sl}(e:Own iG T d s l){i:Nat}(y:i<l.length){x:Sl}{K:aa->Prop}{a:Q6}(f:s.p=some a)
  (q: ∀c,Own iG T c s (l.set i x)->Mod (λb=>s.ag=some b) d c->c.size=d.size->K c):ae d (a.add (i*1)) (J4 x.p x.len x.cap) K:=by
 rcases e.row with⟨rfl,_⟩|⟨g,z,h,r,t,u,n,o⟩
 ·simp at f
 ·rw[h] at f;cases f;rw[Bq,AI,Bs];have j:iG.w=1:=rfl;rw[j,Bs] at n o;have A:=e.len;refine ae.mk r (by omega) λc k m v=>q c ⟨by simpa using e.len,.inr ⟨g,_,h,k,t,u,by simp[n,j],?_⟩⟩ (m.aj λb _ k=>by simp[Sl.ag,h,k]) v
  rw[j,Bs,DS,Go.Lf.G.M.tw,o];have p: ∀l:List Sl,l.flatMap iG.enc=l.map (λs=>Value.slice s.p s.len s.cap):=λl=>by
   induction l with
   |nil=>rfl
   |cons B l w=>rw[AH,w];rfl
  rw[p,p,Pc]
end Go.Lf
namespace Go.Lf.G.M
open Go Go.Lf Go.Lf.G
structure jr (lo:Nat) (h:aa) (O:Nat->Prop) (t:Sl) (sls:List Sl) (ls:List (List Pr)):Prop where
 len:sls.length=ls.length
 row: ∀(j:Nat) (sl:Sl) (l:List Pr),sls[j]? =some sl->ls[j]? =some l->View BO h sl l/\l.length<=1099511627776/\ ∀c,sl.ag=some c->lo<=c/\c<h.size/\t.ag≠some c/\ ¬O c
theorem jr.mod {f:Nat}{b j:aa}{g O':Nat->Prop}{t t':Sl}{k:List Sl}{n:List (List Pr)}{o:Nat->Prop}(p:jr f b g t k n)(m:Mod o b j)(q: ∀c,f<=c->c<b.size->t.ag≠some c-> ¬g c-> ¬o c)
  (r: ∀c,c<b.size->t'.ag=some c->t.ag=some c) (s: ∀c,c<b.size->O' c->g c):jr f j O' t' k n:=
 ⟨p.len,λu sl l h e=>by
  obtain⟨v,w,d⟩:=p.row u sl l h e;refine⟨v.mod m λc a=>q c (d c a).1 (d c a).2.1 (d c a).2.2.1 (d c a).2.2.2,w,λc a=>?_⟩;obtain⟨h,e,x,y⟩:=d c a;have:=m.size;exact⟨h,by omega,λi=>x (r c e i),λi=>y (s c e i)⟩⟩
end Go.Lf.G.M
namespace Go.Lf
open G
theorem View.val {b:aa}{s:Sl}{c:List iH}(v:View kG b s c){i:Nat}{x:iH}(d:c[i]? =some x): ∃a,s.p=some a/\ah b (a.add (i*1))=some x.v:=by obtain⟨a,e,f⟩:=v.cells i x d;exact⟨a,e,f.val⟩
end Go.Lf
namespace Go.Lf.G.M
open Go Go.Lf Go.Lf.G
theorem ARL {a8:ak}{ae:aa}{b:Nat}{T:Q7}{fr:Nat×Nat}{s:Sl}{S:Nat->Prop}{I:List iH}{os:List (Option (List Pr))}{out:List Pr}(B:ae[b]? =some (J2 #[J4 s.p s.len s.cap] T fr))(v:View kG ae s I)
  (a9:I.length<=1099511627776) (bF:os.length=I.length)
  (bG: ∀(i:Nat) (v:iH),I[i]? =some v->(v.v= .nilFunc/\os[i]? =some none)\/ ∃l,os[i]? =some (some l)/\EY a8 P v.v S ae l/\l.length<=1099511627776) (bH:MB (os.filterMap id) out) (ck: ∀b,S b->b<ae.size):
  EY a8 P (.func (.func Qi) #[] #[J5 (some ⟨b,0,none⟩)]) (λc=>S c\/(c<ae.size/\(c=b\/s.ag=some c))) ae out:=by
 have bI:=Ag B;refine⟨?_,_,_,rfl,λbK=>by kernel_rfl,λf ba bK aL R cl hd hB bL bb=>?_⟩
 ·grind
 rw[ri];refine ADi ?_;unfold WS;have bM:=hB.wf _ _ _ _ bb;have bN:f[b]? =some (J2 #[J4 s.p s.len s.cap] T fr):=(ba b (.inr ⟨bI,.inl rfl⟩)).trans B;have bO: ∀i x,I[i]? =some x-> ∃a,s.p=some a/\ah f (a.add (i*1))=some x.v:=λi x hi=>by
  obtain⟨a,bc,N⟩:=v.val hi
  grind [Vk,aU,Sl.ag,Qy,trans]
 have bP: ∀c,S c->c<f.size:=λc k=>by
  grind
 refine Ad.mk (AL bN rfl) ?_;refine Loop.rule (λm x J=> ∃(i:Nat) (t:Sl) (z:List Sl),x=(t,(i:Int),())/\m=I.length-i/\i<=I.length/\Ext f J/\Own iG AR J t z/\(∀ c,t.ag=some c->f.size<=c)/\jr f.size J R t z ((os.take i).filterMap id)/\z.length<=i) ?_
  ⟨0,⟨none,0,0⟩,[],rfl,rfl,by omega,Mod.refl,Own.nil,λc k=>by simp[Sl.ag] at k,⟨by simp,λe sl l f=>by simp at f⟩,by simp⟩
 rintro K m _ J ⟨i,t,z,rfl,rfl,hi,M,C,aq,L,bd⟩ ar;refine af.intro (λr=>?_) (λr=>?_)
 ·have aC:i<I.length:=by simp[v.len] at r;omega
  have be:=A2 aC;refine ai.mk λcm bf=>?_
  obtain⟨a,bc,N⟩:=bO i _ be;refine bJ.mk bc (by rw[v.len];exact aC) ?_;refine TH.mk (M.ah N) ?_;rcases bG i _ be with⟨bg,aM⟩|⟨l,aM,aN,bh⟩
  ·refine⟨by rw[bg];trivial,af.no (by rw[bg];rfl) ?_⟩;refine bf _ _ (ar (I.length-(i+1)) _ _ (by omega) ⟨i+1,t,z,by rw[Aa (by omega)],rfl,by omega,M,C,aq,?_,by omega⟩);have:(os.take (i+1)).filterMap id=(os.take i).filterMap id:=by rw[Ax,aM];simp
   rw[this];exact L
  ·refine⟨aN.one.2.1,af.yes (by rw[aN.one.2.2];rfl) ?_⟩;refine XI aN (λc k=>(M.get c (bP c k) (by simp)).trans (ba c (.inl k))) bh λau W aO aD aE=>⟨au,rfl,?_⟩
   refine ao.bq (E:=iG) (x:=au) rfl AOC (C.ext aE) (by omega) (by simp[maxLen];omega) λbi bQ bR aF aP _=>?_
   have bS:Ext f bQ:=(M.trans aE).then (aF.aj λc _ k=> .inr (aq c k));refine bf _ _ (ar (I.length-(i+1)) _ _ (by omega) ⟨i+1,bi,_,by rw[Aa (by omega)],rfl,by omega,bS,bR,?_,?_,?_⟩)
   ·intro c k;rcases aP c k with h|h
    ·exact aq c h
    ·have:=M.size;have:=aE.size;omega
   ·have G:(os.take (i+1)).filterMap id=(os.take i).filterMap id++ [l]:=by rw[Ax,aM];simp
    rw[G];have aG:=(L.mod aE (λc _ _ _ _ f=>f) (λc _ f=>f) (λc _ f=>f)).mod (t':=bi) aF (λc _ _ O _=>O) (λc k h=>(aP c h).elim id λq=>by omega) (λc _ f=>f);refine⟨by simp[aG.len],λe sl H h q=>?_⟩;rcases IH e z.length with A|A|A
    ·rw[G3 A] at h;rw[G3 (by rw[<- aG.len];exact A)] at q;exact aG.row e sl H h q
    ·subst A;rw[A05] at h;rw[aG.len,A05] at q;cases h;cases q;have cn:t.ag≠au.ag\/au.ag=none:=by
      cases aH:au.ag with
      |none=>exact .inr rfl
      |some c=>
       refine .inl λG=>?_
       have:=C.lt G;have:=aD c aH;omega
     refine⟨(aO.view).mod aF λc k O=>?_,bh,λc k=>⟨?_,?_,?_,?_⟩⟩
     ·grind
     ·have:=aD c k;have:=M.size;omega
     ·have:=aO.lt k;have:=aF.size;omega
     ·intro h;have:=aO.lt k;rcases aP c h with q|q
      ·have:=C.lt q;have:=aD c k;omega
      ·omega
     ·intro h;have:=bM c h;have:=aD c k;have:=M.size;omega
    ·rw[LO (by simp;omega)] at h;cases h
   ·simp;omega
 ·have aC:i=I.length:=by simp[v.len] at r;omega
  rw[aC,<-bF,Bk] at L;have bj:=hB.br _ _ _ _ _ bb (M.aj (S':=λb=>¬R b/\f.size<=b) λ_ _ f=>f.elim);refine Loop.rule (λm _ J=> ∃(i:Nat) (D:Nat->Prop) (z:List Sl) (j:List (List Pr)) (ag:List Pr),MB j ag/\m=ag.length/\(∀ n,out[i+n]? =ag[n]?)/\i+ag.length=out.length/\Mod R f J/\(∀ b,D b->R b\/f.size<=b)/\aL i true D J/\
    Own iG AR J t z/\(∀ c,t.ag=some c-> ¬D c)/\jr f.size J D t z j/\z.length<=1099511627776) ?_
   ⟨0,R,z,_,out,bH,rfl,λn=>by rw[AI],by omega,M.mod,λb B=> .inl B,bj,C,λc k O=>by grind,L,by omega⟩
  clear ar L M C bd bj;rintro co m _ J ⟨i,D,z,j,ag,bk,rfl,bm,bn,aQ,aS,A,C,aT,L,bd⟩ ar;have cp:=hB.wf _ _ _ _ A;refine Loop.rule (λm x aI=> ∃(d:Nat) (X:Int),x=(X,(d:Int),())/\aI=J/\m=j.length-d/\d<=j.length/\((X= -1/\ ∀e l,e<d->j[e]? =some l->l= [])\/
   ∃n p u,X=(n:Nat)/\n<d/\j[n]? =some (p::u)/\ ∀e o y,e<d->j[e]? =some (o::y)->aR o.key p.key=false/\(e<n->aR p.key o.key=true))) ?_
   ⟨0,-1,rfl,rfl,rfl,by omega,.inl ⟨rfl,λe l f=>by omega⟩⟩
  rintro cq m _ aI ⟨d,X,rfl,bT,rfl,O,aV⟩ aW;subst bT;have cr:=L.len;refine af.intro (λr=>?_) (λr=>?_)
  ·have U:d<j.length:=by simp[C.len] at r;omega
   have F:=A2 U;have Y:=A2 (l:=z) (i:=d) (by omega);obtain⟨Z,bo,_⟩:=L.row d _ _ Y F;refine ai.mk λcs bp=>?_
   refine C.view.idx Y λct _ c2=>?_
   refine Ad.mk c2.sl ?_;refine ai.mk λbq br=>?_
   have bs:((X= -1/\ ∀e l,e<d+1->j[e]? =some l->l= [])\/
     ∃n p u,X=(n:Nat)/\n<d+1/\j[n]? =some (p::u)/\ ∀e o y,e<d+1->j[e]? =some (o::y)->aR o.key p.key=false/\(e<n->aR p.key o.key=true))->bq (false,()) aI:=λG=>
    br _ _ (af.no rfl (bp _ _ (aW (j.length-(d+1)) _ _ (by omega) ⟨d+1,X,by rw[Aa (by omega)],rfl,rfl,by omega,G⟩)))
   have bt:(∃ n p u,(d:Int)=(n:Nat)/\n<d+1/\j[n]? =some (p::u)/\ ∀e o y,e<d+1->j[e]? =some (o::y)->aR o.key p.key=false/\(e<n->aR p.key o.key=true))->bq (true,()) aI:=λG=>
    br _ _ (af.yes rfl (bp _ _ (aW (j.length-(d+1)) _ _ (by omega) ⟨d+1,d,by rw[Aa (by omega)],rfl,rfl,by omega,.inr G⟩)))
   refine af.intro (λr=>?_) (λr=>?_)
   ·cases aj:j[d] with
    |nil=>rw[aj] at Z;have:=Z.len;simp[this] at r
    |cons o y=>
     rw[aj] at Z F;rcases aV with⟨rfl,av⟩|⟨n,p,u,rfl,bu,ab,al⟩
     ·refine af.yes (by simp) (bt ⟨d,o,y,rfl,by omega,F,λe am an A w=>?_⟩);rcases Fc e d with h|h
      ·have:=av e _ h w;cases this
      ·have:e=d:=by omega
       subst this;rw[F] at w;cases w;exact⟨Cf _,λf=>by omega⟩
     ·refine af.no (by simp) ?_;refine Z.idx (i:=0) (x:=o) rfl λcu _ c3=>?_
      refine AJ.mk c3.pair.1 ?_;have aw:=A2 (l:=z) (i:=n) (by omega);obtain⟨aX,_,_⟩:=L.row n _ _ aw ab;refine C.view.idx aw λbV _ aY=>?_
      refine Ad.mk aY.sl ?_;refine aX.idx (i:=0) (x:=p) rfl λbW _ ax=>?_
      refine AJ.mk ax.pair.1 ?_;cases aH:aR o.key p.key
      ·refine bs (.inr ⟨n,p,u,rfl,by omega,ab,λe am an A w=>?_⟩);rcases Fc e d with h|h
       ·exact al e am an h w
       ·have:e=d:=by omega
        subst this;rw[F] at w;cases w;exact⟨aH,λf=>by omega⟩
      ·refine bt ⟨d,o,y,rfl,by omega,F,λe am an A w=>?_⟩;rcases Fc e d with h|h
       ·have q:=(al e am an h w).1;have W:=oQ aH q;exact⟨Om W,λ_=>W⟩
       ·have:e=d:=by omega
        subst this;rw[F] at w;cases w;exact⟨Cf _,λf=>by omega⟩
   ·have aj:j[d]= []:=by
     have:=Z.len;cases aj:j[d] with
     |nil=>rfl
     |cons o y=>rw[aj] at this;simp[this] at r
    rw[aj] at F;refine bs ?_;rcases aV with⟨rfl,av⟩|⟨n,p,u,rfl,bu,ab,al⟩
    ·refine .inl ⟨rfl,λe l A w=>?_⟩;rcases Fc e d with h|h
     ·exact av e l h w
     ·have:e=d:=by omega
      subst this;rw[F] at w;cases w;rfl
    ·refine .inr ⟨n,p,u,rfl,by omega,ab,λe am an A w=>?_⟩;rcases Fc e d with h|h
     ·exact al e am an h w
     ·have:e=d:=by omega
      subst this;rw[F] at w;cases w
  ·have U:d=j.length:=by simp[C.len] at r;omega
   subst U;clear aW;rcases aV with⟨rfl,av⟩|⟨n,p,u,rfl,bu,ab,al⟩
   ·refine af.yes (by simp) ?_;have:ag= []:=bk.iP λl a9=>by
     obtain⟨e,A,G⟩:=CC a9;exact av e l A (by grind)
    subst this;refine⟨rfl,i,true,D,aQ,aS,A,λ_=>by omega,by omega⟩
   ·refine af.no (by simp) ?_;have bX: ∀e o y,j[e]? =some (o::y)->aR o.key p.key=false/\(e<n->aR p.key o.key=true):=λe o y N=>al e o y (List.getElem?_eq_some_iff.1 N).1 N
    obtain⟨bv,rfl,bY⟩:=bk.gQ ab bX;have aw:=A2 (l:=z) (i:=n) (by omega);obtain⟨aX,_,_⟩:=L.row n _ _ aw ab;refine C.view.idx aw λbV _ aY=>?_
    refine Ad.mk aY.sl ?_;refine aX.idx (i:=0) (x:=p) rfl λbW _ ax=>?_
    refine AJ.mk ax.pair.1 (AJ.mk ax.pair.2.1 (AZ.mk ax.pair.2.2 ?_));refine ao.pair λbZ aZ cv b0 aJ cw=>?_
    have b1:=C.ext aJ;have b2:jr f.size aZ D t z j:=L.mod aJ (λc _ _ _ _ f=>f) (λc _ f=>f) (λc _ f=>f);have b3:aL i true D aZ:=hB.br _ _ _ _ _ A (aJ.aj (S':=λb=>¬D b/\f.size<=b) λ_ _ f=>f.elim);have b4:t.ag≠some bZ:=λG=>by have:=C.lt G;omega
    refine Loop.rule (λm x Q=> ∃(d:Nat) (V:List Sl),x=((d:Int),())/\m=j.length-d/\d<=j.length/\Mod (λc=>t.ag=some c) aZ Q/\Own iG AR Q t V/\jr f.size Q D t V ((j.take d).map (I9 p)++j.drop d)) ?_
     ⟨0,z,rfl,rfl,by omega,Mod.refl,b1,by simpa using b2⟩
    rintro cx m _ Q ⟨d,V,rfl,rfl,O,ay,ap,az⟩ b5;have b6:V.length=j.length:=by have:=az.len;simp at this;omega
    have aK:=ay.ag b0 b4;refine af.intro (λr=>?_) (λr=>?_)
    ·have U:d<j.length:=by grind
     have Y:=A2 (l:=V) (i:=d) (by omega);have F:((j.take d).map (I9 p)++j.drop d)[d]? =some j[d]:=by rw[Ek (by simp;omega)];simp;rw[GS (by omega),Nat.sub_self];simp[U]
     obtain⟨Z,bo,cy⟩:=az.row d _ _ Y F;refine ap.view.idx Y λcz cB b7=>?_
     refine Ad.mk b7.sl ?_;refine Loop.rule (λm x a0=> ∃(aA:Sl) (H:List Pr),x=(aA,())/\a0=Q/\m=H.length/\View BO Q aA H/\(∀ c,aA.ag=some c->V[d].ag=some c)/\I9 p H=I9 p j[d]/\H.length<=1099511627776) ?_
      ⟨_,_,rfl,rfl,rfl,Z,λc f=>f,rfl,bo⟩
     rintro cC m _ a0 ⟨aA,H,rfl,b8,rfl,ac,a1,bw,bx⟩ b9;subst b8;refine ai.mk λca bz=>?_
     have bA:I9 p H=H->ca (false,()) a0:=λG=>bz _ _ (af.no rfl (by
      refine ap.view.idx Y λcD cb _=>?_
      refine ap.jK (i:=d) (by omega) cb λcc cd a2 cE=>?_
      refine b5 (j.length-(d+1)) _ _ (by omega) ⟨d+1,_,by rw[Aa (by omega)],rfl,by omega,ay.trans a2,cd,?_⟩;have a3:jr f.size cc D t V ((j.take d).map (I9 p)++j.drop d):=az.mod a2 (λc _ _ O _=>O) (λc _ f=>f) (λc _ f=>f);refine⟨?_,λe sl l h q=>?_⟩
      ·simp[b6];omega
      ·rcases IH e d with a4|a4|a4
       ·rw[IN (by omega)] at h;refine a3.row e sl l h ?_;rw[G3 (by simp;omega)] at q ⊢;rw[BE,A06 (by omega)] at q ⊢;exact q
       ·subst a4;rw[HN (by omega)] at h;cases h;rw[G3 (by simp;omega),BE,A06 (by omega),A2 U] at q;simp at q;subst q;rw[<- bw,G];obtain⟨_,_,k⟩:=a3.row e _ _ Y F;exact⟨ac.mod a2 λc B=>(k c (a1 c B)).2.2.1,bx,λc B=>k c (a1 c B)⟩
       ·rw[IN (by omega)] at h;refine a3.row e sl l h ?_;rw[Ek (by simp;omega)] at q ⊢;simp only[AW,An,C5] at q ⊢;rw[<- q];congr 1;omega))
     refine af.intro (λr=>?_) (λr=>?_)
     ·cases H with
      |nil=>have:=ac.len;simp[this] at r
      |cons o y=>
       refine ac.idx (i:=0) (x:=o) rfl λcF _ ce=>?_
       refine AJ.mk ce.pair.1 (AJ.mk (AL aK rfl) ?_);cases bB:(aR o.key p.key||bU o.key p.key)
       ·exact bA (by simp[I9,upto,bB])
       ·have cf:=ac.len;simp at cf bx;refine bz _ _ (af.yes rfl ⟨⟨by omega,by show(1:Int)<=((aA.len:Nat):Int);omega⟩,b9 y.length _ _ (by simp) ⟨_,y,rfl,rfl,rfl,?_,?_,?_,by omega⟩⟩)
        ·have:=ac.sub (lo:=1) (hi:=(o::y).length) (by simp) (A0 _);rw[Bk,<-ac.len] at this;exact this
        ·intro c k;exact a1 c (re k)
        ·rw[<- bw];simp[I9,upto,bB]
     ·have:H= []:=by
       have:=ac.len;cases H with
       |nil=>rfl
       |cons o y=>simp[this] at r
      subst this;exact bA rfl
    ·have U:d=j.length:=by simp[ap.len] at r;omega
     subst U;rw[Bk,OS,AN] at az;refine AJ.mk (AL aK rfl) (AJ.mk (AB aK rfl) (AZ.mk (AB aK rfl) ?_));have cg:aL i true D Q:=hB.br _ _ _ _ _ b3 (ay.aj λc _ k=>⟨aT c k,aq c k⟩);have ch:out[i]? =some p:=by have:=bm 0;simpa using this
     refine F4.mono (bL i p D Q ch cg) ?_;rintro _ ci ⟨g,a5,rfl,a6,a7,bC⟩;have cG:=ay.size;have cH:=aQ.size;have bD: ∀b,a5 b->R b\/f.size<=b:=λb B=>(a6 b B).elim (aS b) λcI=> .inr (by omega)
     have cj:Mod R f Q:=(aQ.trans aJ.mod).then (ay.aj λb _ B=> .inr (aq b B));have bE:Mod R f ci:=cj.then (a7.aj λb _ B=>aS b B);refine⟨g,rfl,af.intro (λr=>?_) (λr=>?_)⟩
     ·have N:g=false:=by simpa using r
      subst N;exact⟨rfl,i+1,false,a5,bE,bD,bC,(λf=>by cases f),by simp at bn;omega⟩
     ·have N:g=true:=by simpa using r
      subst N;refine ar bv.length _ _ (by simp) ⟨i+1,a5,V,_,bv,bY,rfl,λn=>?_,by simp at bn;omega,bE,bD,bC,ap.mod a7 (λc k=>aT c k),?_,?_,by omega⟩
      ·have:=bm (n+1);rw[show i+1+n=i+(n+1) by omega,this];rfl
      ·intro c k q;rcases a6 c q with W|W
       ·exact aT c k W
       ·have:=ap.lt k;omega
      ·exact az.mod a7 (λc _ _ _ O=>O) (λc _ f=>f) (λc k q=>(a6 c q).elim id λW=>by omega)
def Sorted(l:List Pr):Prop:=l.Pairwise λa b=>aR a.key b.key=true
def Ab(a:A2I)(l:List Pr):Option Pr:=l.find? λb=>decide (b.key=a)
theorem VZ(a:A2I):Ab a []=none:=rfl
theorem BB(a:A2I)(x:Pr)(l:List Pr):Ab a (x::l)=if x.key=a then some x else Ab a l:=by unfold Ab;rw[E0];by_cases b:x.key=a<;>simp[b]
theorem Ol {b:A2I}{l:List Pr}{x:Pr}(a:Ab b l=some x):x.key=b/\x∈l:=by unfold Ab at a;exact⟨by simpa using PB a,Lk a⟩
theorem Eh {a:A2I}{l:List Pr}(b: ∀x∈l,x.key≠a):Ab a l=none:=by unfold Ab;rw[GO];simpa using b
theorem Lx {a b:A2I}(c:aR a b=true):a≠b:=by rintro rfl;rw[Cf] at c;cases c
theorem Sorted.find {l:List Pr}(s:Sorted l){x:Pr}(a:x∈l):Ab x.key l=some x:=by
 induction l with
 |nil=>cases a
 |cons d l c=>
  rw[BB];have b:=List.pairwise_cons.1 s;rcases List.mem_cons.1 a with rfl|a
  ·simp
  ·rw[if_neg (Lx (b.1 x a))];exact c b.2 a
theorem Sorted.ext: ∀ {l m:List Pr},Sorted l->Sorted m->(∀ d,Ab d l=Ab d m)->l=m
 | [],[],_,_,_=>rfl
 | [],a::m,_,_,b=>by have:=b a.key;rw[BB,if_pos rfl] at this;cases this
 |x::l,[],_,_,b=>by have:=b x.key;rw[BB,if_pos rfl] at this;cases this
 |x::l,a::m,sl,p,b=>by
  have g:=List.pairwise_cons.1 sl;have h:=List.pairwise_cons.1 p;have f:x.key=a.key:=by
   have e:=b x.key;have n:=b a.key;rw[BB,if_pos rfl] at e;rw[BB a.key a m,if_pos rfl] at n;have i:=(Ol e.symm).2;have j:=(Ol n).2;rcases List.mem_cons.1 i with c|i
   ·rw[c]
   ·rcases List.mem_cons.1 j with c|j
    ·rw[c]
    ·have q:=h.1 x i;have o:=g.1 a j;rw[Om q] at o;cases o
  have r:x=a:=by have e:=b x.key;rw[BB,BB,if_pos rfl,if_pos f.symm] at e;exact Bm e
  subst r;rw[Sorted.ext g.2 h.2 λd=>?_];have:=b d;rw[BB,BB] at this;by_cases f:x.key=d
  ·subst f;rw[Eh λa k c=>Lx (g.1 a k) c.symm,Eh λa k c=>Lx (h.1 a k) c.symm]
  ·simpa [f] using this
def ins(x:Pr):List Pr->List Pr
 | []=> [x]
 |q::l=>if aR q.key x.key then q::ins x l else if q.key=x.key then x::l else x::q::l
theorem nR(x:Pr): ∀l,Yb x l=ins x l
 | []=>rfl
 |q::l=>by
  unfold ins;cases b:aR q.key x.key
  ·have a:iD x.key (q::l)= []:=by simp[iD,b]
   by_cases c:q.key=x.key
   ·simp[Yb,aP,a,Ay,c]
   ·simp[Yb,aP,a,Ay,c]
  ·have a:iD x.key (q::l)=q::iD x.key l:=by simp[iD,b]
   have d:aP x.key (q::l)=aP x.key l+1:=by simp[aP,a]
   have f:Ay x.key (q::l)=Ay x.key l:=by simp[Ay,d]
   have e:=nR x l;unfold Yb at e ⊢;rw[d,f];have g:(if Ay x.key l=true then aP x.key l+1+1 else aP x.key l+1)=(if Ay x.key l=true then aP x.key l+1 else aP x.key l)+1:=by split<;>rfl
   rw[g,HU,IF,DO,DO,e];simp
theorem rk {x b:Pr}: ∀ {l:List Pr},b∈ins x l->b=x\/b∈l
 | [],a=>by simp[ins] at a;exact .inl a
 |q::l,a=>by
  unfold ins at a;split at a
  ·rcases List.mem_cons.1 a with rfl|a
   ·exact .inr (by simp)
   ·rcases rk a with a|a
    ·exact .inl a
    ·exact .inr (by simp[a])
  ·split at a
   ·rcases List.mem_cons.1 a with rfl|a
    ·exact .inl rfl
    ·exact .inr (by simp[a])
   ·rcases List.mem_cons.1 a with rfl|a
    ·exact .inl rfl
    ·exact .inr a
theorem Xc(x:Pr): ∀ {l:List Pr},Sorted l->Sorted (ins x l)
 | [],_=>LL _ _
 |q::l,s=>by
  have b:=List.pairwise_cons.1 s;unfold ins;split
  ·rename_i d;refine List.pairwise_cons.2 ⟨λc a=>?_,Xc x b.2⟩;rcases rk a with rfl|a
   ·exact d
   ·exact b.1 c a
  ·rename_i d;split
   ·rename_i e;refine List.pairwise_cons.2 ⟨λc a=>?_,b.2⟩;have:=b.1 c a;rwa [e] at this
   ·rename_i e;have f:aR x.key q.key=true:=by
     cases g:aR x.key q.key
     ·exact absurd (OQ (by simpa using d) g) e
     ·rfl
    refine List.pairwise_cons.2 ⟨λc a=>?_,s⟩;rcases List.mem_cons.1 a with rfl|a
    ·exact f
    ·exact DY f (b.1 c a)
theorem YF(x:Pr)(a:A2I): ∀ {l:List Pr},Sorted l->Ab a (ins x l)=if x.key=a then some x else Ab a l
 | [],_=>by simp[ins,BB,VZ]
 |q::l,s=>by
  have c:=List.pairwise_cons.1 s;unfold ins;split
  ·rename_i d;rw[BB,BB,YF x a c.2];by_cases b:q.key=a
   ·have e:x.key≠a:=by rw[<- b];exact λf=>Lx d f.symm
    simp[b,e]
   ·simp[b]
  ·split
   ·rename_i g;rw[BB,BB,g];by_cases b:x.key=a<;>simp[b]
   ·rw[BB]
def BF(l:List Pr):Prop:= ∀x∈l,Ah x=0
theorem RJ {x:Pr}{l:List Pr}(a:Ah x=0):Bw x l=ins x l:=by simp[Bw,a,nR]
theorem P8 {x:Pr}{l:List Pr}(s:Sorted l):Sorted (Bw x l):=by
 by_cases a:Ah x=0
 ·rw[RJ a];exact Xc x s
 ·simpa [Bw,a] using s
theorem wE {x:Pr}{l:List Pr}(g:BF l):BF (Bw x l):=by
 by_cases a:Ah x=0
 ·rw[RJ a];exact λb c=>(rk c).elim (λd=>d▸a) (g b)
 ·simpa [Bw,a] using g
def Av(t l:List Pr):List Pr:=l.foldl (λt x=>Bw x t) t
theorem Rs {l:List Pr}: ∀ {t},Sorted t->Sorted (Av t l):=by
 induction l with
 |nil=>exact λs=>s
 |cons x l a=>exact λs=>a (P8 s)
theorem Xy {l:List Pr}: ∀ {t},BF t->BF (Av t l):=by
 induction l with
 |nil=>exact λs=>s
 |cons x l a=>exact λs=>a (wE s)
theorem RY {l:List Pr}: ∀ {t},(Av t l).length<=t.length+l.length:=by
 induction l with
 |nil=>exact λ{t}=>by simp[Av]
 |cons x l a=>intro t;have:=a (t:=Bw x t);have:=AN1 x t;simp[Av] at *;omega
theorem AKW {l:List Pr}(a:A2I): ∀ {t},Sorted t->Sorted l->BF l->Ab a (Av t l)=(Ab a l).or (Ab a t):=by
 induction l with
 |nil=>intro t _ _ _;simp[Av,VZ]
 |cons x l f=>
  intro t st sl g;have d:=List.pairwise_cons.1 sl;show Ab a (Av (Bw x t) l)=_;rw[f (P8 st) d.2 (λb c=>g b (by simp[c])),RJ (g x (by simp)),YF x a st,BB];by_cases e:x.key=a
  ·subst e;rw[Eh λb c h=>Lx (d.1 b c) h.symm];simp
  ·simp[e]
def Ac(a:List (List Pr)):List Pr:=a.reverse.foldl Av []
theorem OM(l:List Pr)(a:List (List Pr)):Ac (l::a)=Av (Ac a) l:=by simp[Ac,HW]
theorem Dz: ∀a,Sorted (Ac a)
 | []=>List.Pairwise.nil
 |l::a=>by rw[OM];exact Rs (Dz a)
structure bz (ls:List (List Pr)):Prop where
 sorted: ∀l∈ls,Sorted l
 aO: ∀l∈ls,BF l
def Am(a:A2I)(b:List (List Pr)):Option Pr:=b.findSome? (Ab a)
theorem EQ(a:A2I)(l:List Pr)(b:List (List Pr)):Am a (l::b)=(Ab a l).or (Am a b):=by unfold Am;rw[PC];cases Ab a l<;>rfl
theorem LF(b:A2I): ∀ {a},bz a->Ab b (Ac a)=Am b a
 | [],_=>rfl
 |l::a,c=>by
  rw[OM,AKW b (Dz a) (c.sorted l (by simp)) (c.aO l (by simp)),LF b ⟨λm d=>c.sorted m (by simp[d]),λm d=>c.aO m (by simp[d])⟩,EQ]
theorem Vb(p:Pr)(l:List Pr):(I9 p l).Sublist l:=List.dropWhile_sublist _
theorem AJc {p q:Pr}(a:upto p q=false):aR p.key q.key=true:=by
 unfold upto at a;rw[CZ] at a;simp at a;cases b:aR p.key q.key
 ·exact absurd (OQ a.1 b) a.2
 ·rfl
theorem AMa {p b:Pr}(a:upto p b=true):aR p.key b.key=false:=by
 unfold upto at a;rw[CZ] at a;simp at a;rcases a with a|a
 ·exact Om a
 ·rw[a];exact Cf _
theorem rm {p q:Pr}: ∀ {l:List Pr},Sorted l->q∈I9 p l->aR p.key q.key=true
 | [],_,a=>by cases a
 |y::l,s,a=>by
  have b:=List.pairwise_cons.1 s;unfold I9 at a;rw[List.dropWhile_cons] at a;split at a
  ·exact rm b.2 a
  ·rename_i d;have c:=AJc (p:=p) (q:=y) (by simpa using d);rcases List.mem_cons.1 a with rfl|a
   ·exact c
   ·exact DY c (b.1 q a)
theorem wF {p:Pr}{a:A2I}(b:aR p.key a=true): ∀ {l:List Pr},Ab a (I9 p l)=Ab a l
 | []=>rfl
 |y::l=>by
  unfold I9;rw[List.dropWhile_cons];split
  ·rename_i d;have c:=AMa d;rw[BB,if_neg (by rintro rfl;rw[b] at c;cases c)];exact wF b
  ·rfl
theorem MB.ok {a:List (List Pr)}{out:List Pr}(m:MB a out):(∀ l∈a,Sorted l)->Sorted out/\ ∀b,Ab b out=Am b a:=by
 induction m with
 |done g=>
  rename_i a;intro _;refine⟨List.Pairwise.nil,λb=>?_⟩;have: ∀a:List (List Pr),(∀ l∈a,l= [])->Am b a=none:=λa g=>by
   unfold Am;rw[PF];intro l d;rw[g l d];rfl
  rw[this a g];rfl
 | @step a b p t out F C y r=>
  intro h;have G: ∀l∈a.map (I9 p),Sorted l:=λl d=>by
   obtain⟨o,s,rfl⟩:=List.mem_map.1 d;exact(h o s).sublist (Vb p o)
  obtain⟨D,E⟩:=r G;have H: ∀e∈out,aR p.key e.key=true:=λe q=>by
   have f:=D.find q;rw[E] at f;unfold Am at f;obtain⟨l,d,k⟩:=A08 f;obtain⟨o,s,rfl⟩:=List.mem_map.1 d;exact rm (h o s) (Ol k).2
  refine⟨List.pairwise_cons.2 ⟨H,D⟩,λc=>?_⟩;have I: ∀l∈a,∀e∈l,aR e.key p.key=false:=λl d e q=>by
   obtain⟨i,v,j⟩:=CC d;cases l with
   |nil=>cases q
   |cons w u=>
    have f:=(C i w u (by rw[A2 v,j])).1;have z:=List.pairwise_cons.1 (h _ d);rcases List.mem_cons.1 q with rfl|q
    ·exact f
    ·cases k:aR e.key p.key
     ·rfl
     ·have:=DY (z.1 e q) k;rw[this] at f;cases f
  rw[BB];by_cases A:p.key=c
  ·subst A;simp only[if_true];have: ∀(a:List (List Pr)) (b:Nat),a[b]? =some (p::t)->(∀ i e u,a[i]? =some (e::u)->i<b->aR p.key e.key=true)->(∀ l∈a,Sorted l)->Am p.key a=some p:=by
    intro a
    induction a with
    |nil=>intro b g;simp at g
    |cons l a r=>
     intro b g y h;rw[EQ];cases b with
     |zero=>simp at g;subst g;rw[BB,if_pos rfl];rfl
     |succ b=>
      have J:Ab p.key l=none:=by
       cases l with
       |nil=>rfl
       |cons w u=>
        have f:=y 0 w u rfl (by omega);have z:=List.pairwise_cons.1 (h _ (by simp:(w::u)∈(w::u)::a));refine Eh λx n j=>?_
        rcases List.mem_cons.1 n with rfl|n
        ·rw[j,Cf] at f;cases f
        ·have:=DY f (z.1 x n);rw[j,Cf] at this;cases this
      rw[J,Lo];exact r b (by simpa using g) (λi e u v M=>y (i+1) e u (by simpa using v) (by omega)) (λl d=>h l (by simp[d]))
   rw[this a b F (λi e u v=>(C i e u v).2) h]
  ·rw[if_neg A,E];unfold Am;cases k:aR p.key c
   ·
    have B:aR c p.key=true:=by
     cases B:aR c p.key
     ·exact absurd (OQ k B) A
     ·rfl
    have K:(a.map (I9 p)).findSome? (Ab c)=none:=by
     rw[PF];intro l d;obtain⟨o,s,rfl⟩:=List.mem_map.1 d;refine Eh λx n j=>?_
     have:=rm (h o s) n;rw[j,k] at this;cases this
    have L:a.findSome? (Ab c)=none:=by
     rw[PF];intro l d;refine Eh λx n j=>?_
     have:=I l d x n;rw[j,B] at this;cases this
    rw[K,L]
   ·have: ∀a:List (List Pr),(a.map (I9 p)).findSome? (Ab c)=a.findSome? (Ab c):=λa=>by
     induction a with
     |nil=>rfl
     |cons l a r=>rw[BW,PC,PC,wF k,r]
    rw[this]
theorem Uy: ∀(e:List (List Pr)),(∀ l∈e,l= [])\/ ∃(f:Nat) (p:Pr) (t:List Pr),e[f]? =some (p::t)/\ ∀(a:Nat) (c:Pr) (u:List Pr),e[a]? =some (c::u)->aR c.key p.key=false/\(a<f->aR p.key c.key=true)
 | []=> .inl λl d=>by cases d
 |l::e=>by
  cases l with
  |nil=>
   rcases Uy e with d|⟨f,p,t,i,g⟩
   ·refine .inl λl j=>?_
    rcases List.mem_cons.1 j with rfl|j
    ·rfl
    ·exact d l j
   ·refine .inr ⟨f+1,p,t,by simpa using i,λa c u b=>?_⟩;cases a with
    |zero=>simp at b
    |succ a=>have:=g a c u (by simpa using b);exact⟨this.1,λd=>this.2 (by omega)⟩
  |cons k u=>
   rcases Uy e with d|⟨f,p,t,i,g⟩
   ·refine .inr ⟨0,k,u,rfl,λa c h b=>⟨?_,λd=>by omega⟩⟩;cases a with
    |zero=>simp at b;rw[b.1];exact Cf _
    |succ a=>have:=d _ (AM (by simpa using b));cases this
   ·cases m:aR p.key k.key
    ·refine .inr ⟨0,k,u,rfl,λa c h b=>⟨?_,λd=>by omega⟩⟩;cases a with
     |zero=>simp at b;rw[b.1];exact Cf _
     |succ a=>exact rj m (g a c h (by simpa using b)).1
    ·refine .inr ⟨f+1,p,t,by simpa using i,λa c h b=>?_⟩;cases a with
     |zero=>simp at b;rw[<- b.1];exact⟨Om m,λ_=>m⟩
     |succ a=>have:=g a c h (by simpa using b);exact⟨this.1,λd=>this.2 (by omega)⟩
def total(a:List (List Pr)):Nat:=(a.map List.length).sum
theorem YB(p:Pr): ∀a,total (a.map (I9 p))<=total a
 | []=>A0 _
 |l::a=>by
  have:=YB p a;have:=(Vb p l).length_le;simp[total] at *;omega
theorem ZV {p:Pr}{t:List Pr}: ∀ {ls:List (List Pr)} {k:Nat},ls[k]? =some (p::t)->total (ls.map (I9 p))<total ls
 | [],k,a=>by simp at a
 |l::ls,0,a=>by
  simp at a;subst a;have b:=YB p ls;have c:=(Vb p t).length_le;have d:I9 p (p::t)=I9 p t:=by simp[I9,upto,CZ]
  simp only[total,BW,GB,d,A6] at*
  omega
 |l::ls,k+1,a=>by
  have b:=ZV (p:=p) (t:=t) (ls:=ls) (k:=k) (by simpa using a);have c:=(Vb p l).length_le;simp only[total,BW,GB] at*
  omega
theorem AEw(a:List (List Pr)): ∃out,MB a out/\out.length<=total a:=by
 generalize h:total a=b
 induction b using Nat.strongRecOn generalizing a with
 |_ b d=>
  rcases Uy a with e|⟨i,p,t,c,f⟩
  ·exact⟨[],.done e,by simp⟩
  ·have j:=ZV c;obtain⟨out,g,k⟩:=d _ (by omega) (a.map (I9 p)) rfl;exact⟨p::out,.step c f g,by simp;omega⟩
theorem tL {t l:List Pr}{a:Nat}{x:Pr}(b:l[a]? =some x):Av t (l.take (a+1))=Bw x (Av t (l.take a)):=by rw[Ax,b];simp only[Av,HW,Ds,HX,Mz]
theorem UC: ∀a,(Ac a).length<=total a
 | []=>A0 _
 |l::a=>by
  rw[OM];have:=UC a;have:=RY (l:=l) (t:=Ac a);simp[total] at *;omega
theorem YP: ∀a,BF (Ac a)
 | []=>λ_ b=>by cases b
 |l::a=>by rw[OM];exact Xy (YP a)
theorem AJw(l:List Pr)(a:List (List Pr)):total (l::a)=l.length+total a:=by simp[total]
def tO(f:ak)(d:Nat->Prop)(a:aa)(s:Sl)(e:List (List Pr)):Prop:=
 ∃b,View kG a s b/\(∀ c,s.ag=some c->c<a.size/\ ¬d c)/\b.length=e.length/\ ∀(i:Nat) (v:iH) (l:List Pr),b[i]? =some v->e[i]? =some l->(v.v= .nilFunc/\l= [])\/(EY f P v.v (λc=>c<a.size/\ ¬d c) a l/\l.length<=1099511627776)
end Go.Lf.G.M
namespace Go.Lf
open G
theorem EY.later {f:ak}{d:Nat->Prop}{fv:J0}{b e:aa}{l:List Pr}(h:EY f P fv (λc=>c<b.size/\ ¬d c) b l){g:Nat->Prop}(x:Mod g b e)(i: ∀c,c<b.size->g c->d c):EY f P fv (λc=>c<e.size/\ ¬d c) e l:=
 h.aj (λc a=>⟨by have:=x.size;omega,a.2⟩) (λc a=>a.1) λc a=>x.get c a.1 λj=>a.2 (i c a.1 j)
end Go.Lf
namespace Go.Lf.G.M
open Go Go.Lf Go.Lf.G
theorem tE {p:ak}{k:Nat->Prop}{a:aa}{s:Sl}{ls:List (List Pr)}{x:A2H}(G:tO p k a s ls)(hX: ∀c,k c->c<a.size)(t:ls.length<=1099511627776)(u:bz ls)
  (y: ∀fv n,EY p P fv (λc=>c<n.size/\ ¬k c) n (Ac ls)->Ext a n->n.size=a.size+1->x fv n):AA p P Pw #[J4 s.p s.len s.cap] a x:=by
 obtain⟨q,v,z,w,A⟩:=G;refine AGi ?_;unfold vX;refine ao.mk λg _ B r C=>?_
 have H: ∃os:List (Option (List Pr)),os.length=q.length/\(∀ (i:Nat) (v:iH),q[i]? =some v->(v.v= .nilFunc/\os[i]? =some none)\/ ∃l,os[i]? =some (some l)/\EY p P v.v (λc=>c<a.size/\ ¬k c) a l/\l.length<=1099511627776)/\
   (∀ l,l∈os.filterMap id->l∈ls)/\ ∀b,Am b (os.filterMap id)=Am b ls:=by
  clear v hX t u y B r C z
  induction q generalizing ls with
  |nil=>
   have:ls= []:=DA w.symm;subst this;exact⟨[],rfl,λi v a=>by simp at a,λl a=>by simp at a,λb=>rfl⟩
  |cons v q I=>
   cases ls with
   |nil=>simp at w
   |cons l ls=>
    obtain⟨os,g,h,D,E⟩:=I (ls:=ls) (by simpa using w) (λi v l g h=>A (i+1) v l (by simpa using g) (by simpa using h));rcases A 0 v l rfl rfl with⟨j,o⟩|⟨j,o⟩
    ·refine⟨none::os,by simp[g],λi v e=>?_,λm d=>?_,λb=>?_⟩
     ·cases i with
      |zero=>simp at e;subst e;exact .inl ⟨j,rfl⟩
      |succ i=>exact h i v (by simpa using e)
     ·simp at d;exact AG _ (D m (by simpa using d))
     ·subst o;rw[EQ];simpa [VZ] using E b
    ·refine⟨some l::os,by simp[g],λi v e=>?_,λm d=>?_,λb=>?_⟩
     ·cases i with
      |zero=>simp at e;subst e;exact .inr ⟨l,rfl,j,o⟩
      |succ i=>exact h i v (by simpa using e)
     ·simp at d;rcases d with rfl|d
      ·simp
      ·exact AG _ (D m (by simpa using d))
     ·rw[EQ,V0];simp only[id];rw[EQ,E b]
 obtain⟨os,J,K,L,M⟩:=H;obtain⟨out,d,_⟩:=AEw (os.filterMap id);have N:out=Ac ls:=by
  have F:=d.ok λl t=>u.sorted l (L l t)
  exact F.1.ext (Dz ls) λb=>by rw[F.2 b,M b,LF b u]
 subst N;refine y _ g ((ARL (S:=λc=>c<a.size/\ ¬k c) B (v.ext r) (by omega) J (λi v e=>?_) d (λc f=>by omega)).aj ?_ (λc f=>f.1) (λc _=>rfl)) r C
 ·rcases K i v e with j|⟨l,j,o,O⟩
  ·exact .inl j
  ·exact .inr ⟨l,j,o.aj (λc f=>f) (λc f=>by omega) (λc f=>r.get c f.1 (λa=>a)),O⟩
 ·rintro c (f|⟨g,h⟩)
  ·exact⟨by omega,f.2⟩
  ·refine⟨g,?_⟩;rcases h with rfl|h
   ·intro a;have:=hX _ a;omega
   ·exact(z c h).2
def pb:Pr:=⟨⟨#[98]⟩,⟨#[]⟩,false⟩
theorem Qf(a:A2I)(b c:List (List Pr)):Am a (b++c)=(Am a b).or (Am a c):=by unfold Am;rw[List.findSome?_append]
theorem Oc(a:A2I)(l m:List Pr):Ab a (l++m)=(Ab a l).or (Ab a m):=by unfold Ab;rw[List.find?_append]
structure DR where
 ag:Nat
 pr:Pr
 ht:Nat
def dq(nx:Nat->Q2):List J0:=(List.range 12).map λi=>J5 (nx i)
def FX(p:Pr)(nx:Nat->Q2):Array J0:=(([J7 p.key,J7 p.val,J3 p.gone]:List J0)++dq nx).toArray
def Di(nx:Nat->Q2)(a b:Int):Array J0:=(([J7 ⟨#[]⟩,J7 ⟨#[]⟩,J3 false]:List J0)++dq nx++([J6 J9 a,J6 J9 b]:List J0)).toArray
theorem BV(nx:Nat->Q2):(dq nx).length=12:=by simp[dq]
theorem UK {nx:Nat->Q2}{i:Nat}(a:i<12):(dq nx)[i]? =some (J5 (nx i)):=by simp[dq,a]
theorem rf {nx:Nat->Q2}{i:Nat}(v:Q2):(dq nx).set i (J5 v)=dq (λa=>if a=i then v else nx a):=by
 refine List.ext_getElem? λa=>?_
 by_cases b:a<12
 ·rw[Mb,UK b,UK b,BV];by_cases c:i=a
  ·subst c;simp[b]
  ·simp[c,Ne.symm c]
 ·rw[LO (by simp[BV];omega),LO (by simp[BV];omega)]
theorem AN3 {p:Pr}{nx:Nat->Q2}{i:Nat}(a:i<12):(FX p nx)[3+i]? =some (J5 (nx i)):=by simp only[FX,Mn];rw[Ek (by simp)];simpa using UK a
theorem AOa {nx:Nat->Q2}{a b:Int}{i:Nat}(c:i<12):(Di nx a b)[3+i]? =some (J5 (nx i)):=by simp only[Di,Mn];rw[A4,Ek (by simp),G3 (by simp[BV];omega)];simpa using UK c
theorem mQ {nx:Nat->Q2}{a b:Int}:(Di nx a b)[15]? =some (J6 J9 a)/\(Di nx a b)[16]? =some (J6 J9 b):=by
 simp only[Di,Mn];constructor
 ·rw[Ek (by simp[BV])];simp[BV]
 ·rw[Ek (by simp[BV])];simp[BV]
theorem Rl {p:Pr}{nx:Nat->Q2}:(FX p nx).size=15:=by simp[FX,BV]
theorem du {nx:Nat->Q2}{a b:Int}:(Di nx a b).size=17:=by simp[Di,BV]
theorem wu {p:Pr}{nx:Nat->Q2}{i:Nat}(v:Q2):(FX p nx).setIfInBounds (3+i) (J5 v)=FX p (λa=>if a=i then v else nx a):=by apply Array.toList_inj.1;rw[DS];simp only[FX,Mu];rw[HL _ _ (by simp),<-rf v];simp
theorem AO7 {nx:Nat->Q2}{a b:Int}{i:Nat}(d:i<12)(v:Q2):(Di nx a b).setIfInBounds (3+i) (J5 v)=Di (λc=>if c=i then v else nx c) a b:=by apply Array.toList_inj.1;rw[DS];simp only[Di,Mu];rw[A4,HL _ _ (by simp),Wr _ _ (by simp[BV];omega),<-rf v];simp
theorem AMd {nx:Nat->Q2}{c a b:Int}:(Di nx c a).setIfInBounds 15 (J6 J9 b)=Di nx b a:=by apply Array.toList_inj.1;rw[DS];simp only[Di,Mu];rw[HL _ _ (by simp[BV])];simp[BV]
theorem wv {nx:Nat->Q2}{a c b:Int}:(Di nx a c).setIfInBounds 16 (J6 J9 b)=Di nx a b:=by apply Array.toList_inj.1;rw[DS];simp only[Di,Mu];rw[HL _ _ (by simp[BV])];simp[BV]
theorem Cu {a:aa}{b i:Nat}{l:Nat->Q2}{T:Q7}{fr:Nat×Nat}(c:a[b]? =some (J2 (dq l).toArray T fr))(d:i<12):ah a ⟨b,i,none⟩=some (J5 (l i)):=by rw[KZ c,Mn];exact UK d
def addrAt(t:Nat)(ns:List DR)(p:Nat):Q6:=match p with|0=>⟨t,0,none⟩|p+1=>match ns[p]? with|some x=>⟨x.ag,0,none⟩|none=>⟨t,0,none⟩
def Ta(ns:List DR)(p:Nat):Nat:=match p with|0=>12|p+1=>match ns[p]? with|some x=>x.ht|none=>0
def DI(i:Nat)(l:List DR):Q2:=(l.find? λx=>decide (i<x.ht)).map λx=>⟨x.ag,0,none⟩
def dk(t:Nat)(ns:List DR)(b:Nat):Prop:=b=t\/ ∃x∈ns,x.ag=b
structure Lay (h:aa) (t:Nat) (ns:List DR) (nx:Nat->Nat->Q2) (n sz:Int):Prop where
 head:h[t]? =some (J2 (Di (nx 0) n sz) wH (0,0))
 node: ∀(j:Nat) (x:DR),ns[j]? =some x->h[x.ag]? =some (J2 (FX x.pr (nx (j+1))) Rv (0,0))/\x.ag≠t
 apart:ns.Pairwise λx y=>x.ag≠y.ag
structure lE (ns:List DR) (nx:Nat->Nat->Q2):Prop where
 link: ∀p i,p<=ns.length->i<12->i<Ta ns p->nx p i=DI i (ns.drop p)
 ht: ∀x∈ns,1<=x.ht/\x.ht<=12
theorem Lay.mod {c d:aa}{t:Nat}{ns:List DR}{nx:Nat->Nat->Q2}{e f:Int}{g:Nat->Prop}(l:Lay c t ns nx e f)(m:Mod g c d)(h: ∀b,dk t ns b-> ¬g b):Lay d t ns nx e f:=
 ⟨m.ag l.head (h _ (.inl rfl)),λi x a=>⟨m.ag (l.node i x a).1 (h _ (.inr ⟨x,AM a,rfl⟩)),(l.node i x a).2⟩,l.apart⟩
theorem Lay.ext {a b:aa}{t:Nat}{ns:List DR}{nx:Nat->Nat->Q2}{c d:Int}(l:Lay a t ns nx c d)(m:Ext a b):Lay b t ns nx c d:=l.mod m λ_ _ a=>a
theorem Lay.lt {a:aa}{t:Nat}{ns:List DR}{nx:Nat->Nat->Q2}{c d:Int}(l:Lay a t ns nx c d){b:Nat}(e:dk t ns b):b<a.size:=by
 rcases e with rfl|⟨x,f,rfl⟩
 ·exact Ag l.head
 ·obtain⟨g,h,i⟩:=CC f;exact Ag (l.node g x (by rw[A2 h,i])).1
theorem Lay.next {a:aa}{t:Nat}{ns:List DR}{nx:Nat->Nat->Q2}{d e:Int}(l:Lay a t ns nx d e){p i:Nat}(g:p<=ns.length)(b:i<12):ah a (((addrAt t ns p).add 3).add (i*1))=some (J5 (nx p i)):=by
 rw[add_add,Bs];cases p with
 |zero=>show ah a ((⟨t,0,none⟩:Q6).add (3+i))=_;exact AB l.head (AOa b)
 |succ p=>
  have c:=A2 (l:=ns) (i:=p) (by omega);have f:addrAt t ns (p+1)=⟨ns[p].ag,0,none⟩:=by simp[addrAt,c]
  rw[f];exact AB (l.node p _ c).1 (AN3 b)
theorem Lay.pair {a:aa}{t:Nat}{ns:List DR}{nx:Nat->Nat->Q2}{d e:Int}(l:Lay a t ns nx d e){c:Nat}{x:DR}(f:ns[c]? =some x):
  ah a ⟨x.ag,0,none⟩=some (J7 x.pr.key)/\ah a ((⟨x.ag,0,none⟩:Q6).add 1)=some (J7 x.pr.val)/\ah a ((⟨x.ag,0,none⟩:Q6).add 2)=some (J3 x.pr.gone):=by
 have b:=(l.node c x f).1;exact⟨AL b rfl,AB b rfl,AB b rfl⟩
theorem AG1 {i:Nat}{l:List DR}{a:Q6}(b:DI i l=some a): ∃e x,l[e]? =some x/\a=⟨x.ag,0,none⟩/\i<x.ht/\ ∀(c:Nat) (d:DR),c<e->l[c]? =some d->d.ht<=i:=by
 induction l with
 |nil=>simp[DI] at b
 |cons x l h=>
  unfold DI at b;rw[E0] at b;by_cases f:i<x.ht
  ·simp[f] at b;exact⟨0,x,rfl,b.symm,f,λc d j=>by omega⟩
  ·simp[f] at b;obtain⟨e,d,k,m,n,o⟩:=h (by simpa [DI] using b);refine⟨e+1,d,by simpa using k,m,n,λc z j g=>?_⟩;cases c with
   |zero=>simp at g;subst g;omega
   |succ c=>exact o c z (by omega) (by simpa using g)
theorem YK {i:Nat}{l:List DR}(a:DI i l=none): ∀x∈l,x.ht<=i:=by intro x b;simp[DI] at a;exact a x b
theorem AGP {i:Nat}{l:List DR}{k:Nat}(c:k<=l.length)(d: ∀(a:Nat) (b:DR),a<k->l[a]? =some b->b.ht<=i):DI i l=DI i (l.drop k):=by
 induction k generalizing l with
 |zero=>simp
 |succ k e=>
  cases l with
  |nil=>simp at c
  |cons x l=>
   have f:=d 0 x (by omega) rfl;rw[IF,<-e (by simpa using c) λa b h g=>d (a+1) b (by omega) (by simpa using g)];unfold DI;rw[E0];simp[Nat.not_lt.2 f]
abbrev ck(ns:List DR):List Pr:=ns.map (·.pr)
theorem pS {key:A2I}: ∀ {l:List Pr},Sorted l-> ∀ {j:Nat} {x:Pr},l[j]? =some x->(j<aP key l↔aR x.key key=true)
 | [],_,j,x,a=>by simp at a
 |y::l,s,j,x,a=>by
  have d:=List.pairwise_cons.1 s;by_cases b:aR y.key key=true
  ·have c:aP key (y::l)=aP key l+1:=by simp[aP,iD,b]
   rw[c];cases j with
   |zero=>simp at a;subst a;simp[b]
   |succ j=>
    have:=pS (key:=key) d.2 (j:=j) (x:=x) (by simpa using a);rw[<- this];omega
  ·have c:aP key (y::l)=0:=by simp[aP,iD,b]
   rw[c];cases j with
   |zero=>simp at a;subst a;simp[b]
   |succ j=>
    have f:x∈l:=AM (by simpa using a);have g:=d.1 x f;constructor
    ·intro e;omega
    ·intro e;exact absurd (DY g e) b
structure Vl (ns:List DR) (key:A2I) (i p:Nat):Prop where
 le:p<=aP key (ck ns)
 ht:i<Ta ns p
 last: ∀(j:Nat) (y:DR),p<=j->j<aP key (ck ns)->ns[j]? =some y->y.ht<=i
theorem Yl(key:A2I)(ns:List DR):aP key (ck ns)<=ns.length:=by have:=nN key (ck ns);simpa using this
theorem IQ {a:Array J0}(l:Nat->Q2)(c:a=(dq l).toArray)(i:Nat)(v:Q2):a.setIfInBounds i (J5 v)=(dq (λb=>if b=i then v else l b)).toArray:=by subst c;apply Array.toList_inj.1;rw[DS];exact rf v
theorem AMi {a:Nat}(b:a<100):J8 J9 (((a+1:Nat):Int)-(1:Int))=(a:Int):=by rw[show(((a+1:Nat):Int)-1)=(a:Int) by omega];exact El (by omega)
set_option maxHeartbeats 400000 in
theorem rh {aq:ak}{h:aa}{t:Nat}{ns:List DR}{nx:Nat->Nat->Q2}{ar au:Int}{key:A2I}{H:A2H}(L:Lay h t ns nx ar au)(K:lE ns nx)(s:Sorted (ck ns))
  (av: ∀(b:Nat->Nat) I,(∀ i,i<12->Vl ns key i (b i))->Ext h I->H (.agg #[J5 (some (addrAt t ns (b 0))),J5 (some (addrAt t ns (b 1))),J5 (some (addrAt t ns (b 2))),J5 (some (addrAt t ns (b 3))),J5 (some (addrAt t ns (b 4))),J5 (some (addrAt t ns (b 5))),J5 (some (addrAt t ns (b 6))),J5 (some (addrAt t ns (b 7))),J5 (some (addrAt t ns (b 8))),J5 (some (addrAt t ns (b 9))),J5 (some (addrAt t ns (b 10))),J5 (some (addrAt t ns (b 11)))]) I):
  AA aq P GM #[J5 (some ⟨t,0,none⟩),J7 key] h H:=by
 refine WB ?_;unfold PL;refine ao.mk λk _ aw J a3=>ao.mk λo _ ax M a4=>?_
 have ay:Ext h o:=J.trans M;have a5:=Yl key ns;refine Loop.rule (λm x q=> ∃(p:Nat) (b:Nat->Nat) (l:Nat->Q2),x=(some (addrAt t ns p),(m:Int)-1,())/\m<=12/\Mod (λc=>c=k.size) o q/\p<=aP key (ck ns)/\(m=0\/m<=Ta ns p)/\
   q[k.size]? =some (J2 (dq l).toArray EA (0,0))/\(∀ i,i<12->m<=i->Vl ns key i (b i)/\l i=some (addrAt t ns (b i)))) ?_
  (m:=12) ⟨0,λ_=>0,λ_=>none,rfl,by omega,Mod.refl,by omega,.inr (by simp[Ta]),ax,λi k o=>by omega⟩
 rintro a6 m _ q ⟨p,b,l,rfl,a7,C,w,y,e,d⟩ az;have N:Ext h q:=ay.then (C.aj λc _ v=> .inr (by have:=J.size;omega));refine af.intro (λv=>?_) (λv=>?_)
 ·cases m with
  |zero=>simp at v
  |succ i=>
   have z:i<12:=by omega
   have aA:(((i+1:Nat):Int)-1)=(i:Int):=by omega
   rw[aA];have O:=L.ext N;refine Loop.rule (λm x A=> ∃p:Nat,x=(some (addrAt t ns p),())/\A=q/\m=aP key (ck ns)-p/\p<=aP key (ck ns)/\i<Ta ns p) ?_ ⟨p,rfl,rfl,rfl,w,by rcases y with h|h<;>omega⟩;rintro a8 m _ A ⟨p,rfl,aC,rfl,w,y⟩ aD;subst aC;have D:nx p i=DI i (ns.drop p):=K.link p i (by omega) z y;have ah:=O.next (p:=p) (i:=i) (by omega) z;refine ai.mk λaE Q=>?_
   have B:(0:Int)<=(i:Int)/\(i:Int)<(12:Int):=⟨by omega,by omega⟩;have R:(∀ (j:Nat) (r:DR),p<=j->j<aP key (ck ns)->ns[j]? =some r->r.ht<=i)->aE (false,()) A:=λaF=>Q _ _ (af.no rfl (by
    refine⟨B,?_⟩;show ae A ((⟨k.size,0,none⟩:Q6).add (i*1)) _ _;rw[Bq,AI,Bs];refine ae.mk e (by simp[BV];omega) λa9 S E ba=>?_
    rw[IQ l rfl] at S;have aG:Vl ns key i p:=⟨w,y,aF⟩;refine az i _ _ (by omega) ⟨p,λf=>if f=i then p else b f,_,?_,by omega,C.trans E,w,.inr (by omega),S,λf n bb=>?_⟩
    ·cases i with
     |zero=>rfl
     |succ i=>rw[AMi (by omega),show(((i+1:Nat):Int)-1)=(i:Int) by omega]
    ·by_cases T:f=i
     ·subst T;simp[aG]
     ·simp[T];exact d f n (by omega)))
   refine⟨B,?_⟩;rw[AF];refine AY.mk ah ?_;cases u:nx p i with
   |none=>
    refine af.no rfl ?_;refine R λj r aH aI F=>?_
    rw[D] at u;refine YK u r ?_;rw[List.mem_drop_iff_getElem];have:=List.getElem?_eq_some_iff.1 F;exact⟨j-p,by omega,by rw[<- this.2];congr 1;omega⟩
   |some a=>
    refine af.yes rfl ?_;refine⟨B,AY.mk (u▸ah) ?_⟩;rw[D] at u;obtain⟨f,x,n,rfl,aJ,aK⟩:=AG1 u;rw[C5] at n;refine AJ.mk (O.pair n).1 ?_;have aL:(ck ns)[p+f]? =some x.pr:=by simp[ck,n]
    have U:=pS (key:=key) s aL;cases G:aR x.pr.key key
    ·refine R λj r aH aI F=>?_
     have bc:j<p+f:=by
      rcases Fc j (p+f) with k|k
      ·exact k
      ·have o:p+f<aP key (ck ns):=by omega
       rw[U.1 o] at G;cases G
     exact aK (j-p) r (by omega) (by rw[C5];rw[<- F];congr 1;omega)
    ·have o:=U.2 G;refine Q _ _ (af.yes rfl ?_);refine⟨B,AY.mk (u▸D▸ah) ?_⟩;have aM:addrAt t ns (p+f+1)=⟨x.ag,0,none⟩:=by simp[addrAt,n]
     refine aD (aP key (ck ns)-(p+f+1)) _ _ (by omega) ⟨p+f+1,by rw[aM],rfl,rfl,by omega,by simp[Ta,n,aJ]⟩
 ·have aN:m=0:=by simp at v;omega
  subst aN;have aO:q[h.size]? =some (J2 (dq (λ_=>none)).toArray EA (0,0)):=C.ag (M.ag aw (by simp)) (by omega);simp only[Bq,AI];refine AY.mk (Cu e (i:=0) (by omega)) ?_;refine AY.mk (Cu e (i:=1) (by omega)) ?_;refine AY.mk (Cu e (i:=2) (by omega)) ?_;refine AY.mk (Cu e (i:=3) (by omega)) ?_;refine AY.mk (Cu e (i:=4) (by omega)) ?_;refine AY.mk (Cu e (i:=5) (by omega)) ?_;refine AY.mk (Cu e (i:=6) (by omega)) ?_;refine AY.mk (Cu e (i:=7) (by omega)) ?_;refine AY.mk (Cu e (i:=8) (by omega)) ?_;refine AY.mk (Cu e (i:=9) (by omega)) ?_;refine AY.mk (Cu e (i:=10) (by omega)) ?_;refine AY.mk (Cu e (i:=11) (by omega)) ?_;refine ae.mk aO (by simp[BV]) λbd V aQ be=>?_
  rw[IQ _ rfl] at V;refine ae.mk V (by simp[BV]) λbf W aS bg=>?_
  rw[IQ _ rfl] at W;refine ae.mk W (by simp[BV]) λbh X aT bi=>?_
  rw[IQ _ rfl] at X;refine ae.mk X (by simp[BV]) λbj Y aU bk=>?_
  rw[IQ _ rfl] at Y;refine ae.mk Y (by simp[BV]) λbm Z aV bn=>?_
  rw[IQ _ rfl] at Z;refine ae.mk Z (by simp[BV]) λbo ab aW bp=>?_
  rw[IQ _ rfl] at ab;refine ae.mk ab (by simp[BV]) λbq ac E br=>?_
  rw[IQ _ rfl] at ac;refine ae.mk ac (by simp[BV]) λbs ag aX bt=>?_
  rw[IQ _ rfl] at ag;refine ae.mk ag (by simp[BV]) λbu aj aY bv=>?_
  rw[IQ _ rfl] at aj;refine ae.mk aj (by simp[BV]) λbw al aZ bx=>?_
  rw[IQ _ rfl] at al;refine ae.mk al (by simp[BV]) λbz am a0 bA=>?_
  rw[IQ _ rfl] at am;refine ae.mk am (by simp[BV]) λan ap a1 bB=>?_
  rw[IQ _ rfl] at ap;have g:an[h.size]? =some (J2 (dq l).toArray EA (0,0)):=by rw[ap];congr 3
  refine AY.mk (Cu g (i:=0) (by omega)) ?_;refine AY.mk (Cu g (i:=1) (by omega)) ?_;refine AY.mk (Cu g (i:=2) (by omega)) ?_;refine AY.mk (Cu g (i:=3) (by omega)) ?_;refine AY.mk (Cu g (i:=4) (by omega)) ?_;refine AY.mk (Cu g (i:=5) (by omega)) ?_;refine AY.mk (Cu g (i:=6) (by omega)) ?_;refine AY.mk (Cu g (i:=7) (by omega)) ?_;refine AY.mk (Cu g (i:=8) (by omega)) ?_;refine AY.mk (Cu g (i:=9) (by omega)) ?_;refine AY.mk (Cu g (i:=10) (by omega)) ?_;refine AY.mk (Cu g (i:=11) (by omega)) ?_;have a2:=((((((((((aQ.trans aS).trans aT).trans aU).trans aV).trans aW).trans E).trans aX).trans aY).trans aZ).trans a0).trans a1;have:=av b an (λi z=>(d i z (by omega)).1) (N.then (a2.aj λc _ v=> .inr (by omega)));rw[(d 0 (by omega) (by omega)).2,(d 1 (by omega) (by omega)).2,(d 2 (by omega) (by omega)).2,(d 3 (by omega) (by omega)).2,(d 4 (by omega) (by omega)).2,(d 5 (by omega) (by omega)).2,(d 6 (by omega) (by omega)).2,(d 7 (by omega) (by omega)).2,(d 8 (by omega) (by omega)).2,(d 9 (by omega) (by omega)).2,(d 10 (by omega) (by omega)).2,(d 11 (by omega) (by omega)).2];exact this
theorem AOh {z:Int}(a: -9223372036854775808<=z)(b:z<=9223372036854775807):J8 J9 z=z:=by grind [J8,IntKind.bits,IntKind.signed]
theorem aE {a:Q6}{K:Q6->Prop}(b:K a):At (some a) K:=b
theorem ANE {l:ak}{c:aa}{key:A2I}{h:A2H}(t:key.size<=64)(n: ∀d:Nat,1<=d->d<=12->h (J6 J9 (d:Int)) c):AA l P Sw #[J7 key] c h:=by
 refine AE6 ?_;unfold X0;refine Loop.rule (λm x e=> ∃(i:Nat) (a:Int),x=(a,(i:Int),())/\e=c/\m=key.size-i/\i<=key.size) ?_ ⟨0,2166136261,rfl,rfl,rfl,by omega⟩;rintro K m _ e ⟨i,a,rfl,f,rfl,u⟩ o;subst f;refine af.intro (λb=>?_) (λb=>?_)
 ·have v:i<key.size:=by simp at b;omega
  refine⟨⟨by grind,by show(i:Int)<_;omega⟩,o (key.size-(i+1)) _ _ (by omega) ⟨i+1,_,by rw[Aa (by omega)],rfl,rfl,by omega⟩⟩
 ·refine Loop.rule (λm x g=> ∃(i:Nat) (a:Int),x=(a,(i:Int),())/\g=e/\m=12-i/\1<=i/\i<=12) ?_ ⟨1,_,rfl,rfl,rfl,by omega,by omega⟩;rintro w m _ g ⟨i,a,rfl,f,rfl,p,q⟩ r;subst f;refine ai.mk λs j=>?_
  have k:s (false,()) g:=j _ _ (af.no rfl (n i p q));refine af.intro (λb=>?_) (λb=>k);have y:i<12:=by simp at b;omega
  cases z:((Gn .u32 a (3:Int))==(0:Int))
  ·exact k
  ·exact j _ _ (af.yes rfl (r (12-(i+1)) _ _ (by omega) ⟨i+1,_,by rw[Aa (by omega)],rfl,rfl,by omega,by omega⟩))
theorem Oo(i:Nat)(a b:List DR):DI i (a++b)=(DI i a).or (DI i b):=by grind [DI,decide]
theorem AHv {i:Nat}{l:List DR}(a: ∀x∈l,x.ht<=i):DI i l=none:=by simp_all [DI,GO]
theorem AKb {i:Nat}{l:List DR}{x:DR}(b:x∈l)(d:i<x.ht): ∃a,DI i l=some a:=by
 cases c:DI i l with
 |some a=>exact⟨a,rfl⟩
 |none=>have:=YK c x b;omega
theorem TD {ns:List DR}(c: ∀x∈ns,1<=x.ht/\x.ht<=12)(p:Nat):DI 0 (ns.drop p)=(ns[p]?).map λx=>⟨x.ag,0,none⟩:=by
 cases a:ns[p]? with
 |none=>rw[WD (List.getElem?_eq_none_iff.1 a)];rfl
 |some x=>
  have b:=List.getElem?_eq_some_iff.1 a;rw[F2 b.1,b.2];have:=(c x (AM a)).1;unfold DI;rw[E0];simp[F0 Nat.zero_lt_one this]
def gA(nx:Nat->Nat->Q2)(p i:Nat)(v:Q2):Nat->Nat->Q2:=λa b=>if a=p/\b=i then v else nx a b
theorem KY {p:Pr}{f g:Nat->Q2}(a: ∀i,f i=g i):FX p f=FX p g:=by rw[show f=g from funext a]
theorem Xr {a b:Int}{f g:Nat->Q2}(c: ∀i,f i=g i):Di f a b=Di g a b:=by rw[show f=g from funext c]
theorem Lay.store {e:aa}{t:Nat}{ns:List DR}{nx:Nat->Nat->Q2}{s u:Int}(l:Lay e t ns nx s u){p i:Nat}(C:p<=ns.length)(z:i<12){v:Q2}{K:aa->Prop}
  (w: ∀c,Lay c t ns (gA nx p i v) s u->Mod (dk t ns) e c->c.size=e.size->K c):ae e (((addrAt t ns p).add 3).add (i*1)) (J5 v) K:=by
 rw[add_add,Bs];cases p with
 |zero=>
  show ae e ((⟨t,0,none⟩:Q6).add (3+i)) _ _;rw[Bq,AI];refine ae.mk l.head (by rw[du];omega) λc d m o=>w c ⟨?_,λj x a=>⟨?_,(l.node j x a).2⟩,l.apart⟩ (m.aj λb _ d=> .inl d) o
  ·rw[d,AO7 z,Xr (g:=gA nx 0 i v 0) (λh=>by simp[gA])]
  ·rw[m.get _ (Ag (l.node j x a).1) (l.node j x a).2,(l.node j x a).1,KY (g:=gA nx 0 i v (j+1)) (λh=>by simp[gA])]
 |succ p=>
  have k:=A2 (l:=ns) (i:=p) (by omega);have f:addrAt t ns (p+1)=⟨ns[p].ag,0,none⟩:=by simp[addrAt,k]
  rw[f,Bq,AI];obtain⟨A,B⟩:=l.node p _ k;refine ae.mk A (by rw[Rl];omega) λc d m o=>w c ⟨?_,λj x a=>⟨?_,(l.node j x a).2⟩,l.apart⟩ (m.aj λb _ d=> .inr ⟨_,AM k,d.symm⟩) o
  ·rw[m.get _ (Ag l.head) (λf=>B f.symm),l.head,Xr (g:=gA nx (p+1) i v 0) (λh=>by simp[gA])]
  ·by_cases q:j=p
   ·subst q;rw[k] at a;cases a;rw[d,wu,KY (g:=gA nx (j+1) i v (j+1)) (λh=>by simp[gA])]
   ·have hd:x.ag≠ns[p].ag:=by
     have n:=List.getElem?_eq_some_iff.1 a;have y:=List.pairwise_iff_getElem.1 l.apart;rcases My q with r|r
     ·have:=y j p n.1 (by omega) r;rw[n.2] at this;exact this
     ·have:=y p j (by omega) n.1 r;rw[n.2] at this;exact λf=>this f.symm
    rw[m.get _ (Ag (l.node j x a).1) hd,(l.node j x a).1,KY (g:=gA nx (p+1) i v (j+1)) (λh=>by simp[gA,q])]
def Eo(l:List Pr):Nat:=(l.map λx=>x.key.size+x.val.size).sum
structure dt (h:aa) (t:Nat) (ns:List DR) (l:List Pr):Prop where
 lay: ∃nx,Lay h t ns nx (l.length:Int) (Eo l:Int)/\lE ns nx
 ck:ck ns=l
 sorted:Sorted l
 aO:BF l
theorem dt.mod {a c:aa}{t:Nat}{ns:List DR}{l:List Pr}{d:Nat->Prop}(T:dt a t ns l)(m:Mod d a c)(e: ∀b,dk t ns b-> ¬d b):dt c t ns l:=by obtain⟨nx,L,K⟩:=T.lay;exact⟨⟨nx,L.mod m e,K⟩,T.ck,T.sorted,T.aO⟩
theorem dt.ext {a b:aa}{t:Nat}{ns:List DR}{l:List Pr}(T:dt a t ns l)(m:Ext a b):dt b t ns l:=T.mod m λ_ _ a=>a
theorem dt.lt {a:aa}{t:Nat}{ns:List DR}{l:List Pr}(T:dt a t ns l){b:Nat}(c:dk t ns b):b<a.size:=by obtain⟨nx,L,_⟩:=T.lay;exact L.lt c
theorem tJ {d:ak}{a:aa}{c:A2H}(e: ∀b,dt b a.size [] []->Ext a b->b.size=a.size+1->c (J5 (some ⟨a.size,0,none⟩)) b):AA d P Qn #[] a c:=by
 refine AK9 ?_;unfold vV;refine ao.mk λf _ g h j=>e f ⟨⟨λ_ _=>none,⟨g,λl x a=>by simp at a,List.Pairwise.nil⟩,⟨λp i k m _=>?_,λx a=>by cases a⟩⟩,rfl,List.Pairwise.nil,λx a=>by cases a⟩ h j
 have:p=0:=by simpa using k
 subst this;rfl
theorem OD(l m:List Pr):Eo (l++m)=Eo l+Eo m:=by simp[Eo,List.sum_append]
theorem SQ(x:Pr)(l:List Pr):Eo (x::l)=x.key.size+x.val.size+Eo l:=by simp[Eo]
theorem AK2 {l:List Pr}(g:BF l):Eo l<=l.length*8256:=by
 induction l with
 |nil=>simp[Eo]
 |cons x l a=>
  have d:=a λb c=>g b (by simp[c])
  have e:=g x (by simp);have f:x.key.size<=64/\x.val.size<=8192:=by grind [Ah]
  rw[SQ,A6,Dd];omega
theorem wz {x:Pr}(a:Ah x=0):x.key.size<=64/\x.val.size<=8192:=by grind [Ah]
theorem AMn {p a:Pr}{nx:Nat->Q2}:(((FX p nx).setIfInBounds 0 (J7 a.key)).setIfInBounds 1 (J7 a.val)).setIfInBounds 2 (J3 a.gone)=FX a nx:=by apply Array.toList_inj.1;rw[DS,DS,DS];rfl
theorem ic.zero {ns:List DR}{key:A2I}{p:Nat}(d: ∀x∈ns,1<=x.ht/\x.ht<=12)(b:Vl ns key 0 p):p=aP key (ck ns):=by
 rcases Fc p (aP key (ck ns)) with a|a
 ·have e:=Yl key ns;have c:=A2 (l:=ns) (i:=p) (by omega);have f:=b.last p _ (A0 _) a c;have g:=d _ (AM c);omega
 ·have:=b.le;omega
def gB(nx:Nat->Nat->Q2)(c:Nat->Nat)(b:Q6)(i:Nat):Nat->Nat->Q2:=λp a=>if a<i/\p=c a then some b else nx p a
def kH(nx:Nat->Nat->Q2)(b:Nat->Nat)(i:Nat):Nat->Q2:=λa=>if a<i then nx (b a) a else none
def ie(nx:Nat->Nat->Q2)(c:Nat->Nat)(b:Q6)(d a:Nat):Nat->Nat->Q2:=λp i=>if p<=a then gB nx c b d p i else if p=a+1 then kH nx c d i else gB nx c b d (p-1) i
theorem wA {c:Type}{ns:List c}{x:c}{a b:Nat}(d:a<=ns.length):(ns.take a++x::ns.drop a)[b]? =if b<a then ns[b]? else if b=a then some x else ns[b-1]? :=by grind
theorem AOZ {b:Type}{ns:List b}{x:b}{a p:Nat}(c:a<=ns.length)(d:p<=a):(ns.take a++x::ns.drop a).drop p=(ns.take a).drop p++x::ns.drop a:=by grind
theorem AMo {b:Type}{ns:List b}{x:b}{a p:Nat}(c:a<=ns.length)(d:a<p):(ns.take a++x::ns.drop a).drop p=ns.drop (p-1):=by rw[List.drop_append,WD (by simp;omega),CT];simp only[An,GS c];rw[show p-a=(p-a-1)+1 by omega,IF,Hh];congr 1;omega
theorem lE.insert {ns:List DR}{nx:Nat->Nat->Q2}{key:A2I}(K:lE ns nx){d:Nat->Nat}(s: ∀i,i<12->Vl ns key i (d i)){x:DR}(E:1<=x.ht/\x.ht<=12):
  lE (ns.take (aP key (ck ns))++x::ns.drop (aP key (ck ns))) (ie nx d ⟨x.ag,0,none⟩ x.ht (aP key (ck ns))):=by
 have t:=Yl key ns;generalize j:aP key (ck ns)=a at*
 refine⟨λp i J g n=>?_,λh b=>?_⟩
 ·unfold ie;split
  ·rename_i w;have o:i<Ta ns p:=by
    cases p with
    |zero=>exact g
    |succ p=>
     unfold Ta at n ⊢
     grind
   have y:=K.link p i (by omega) g o;have z:ns.drop p=(ns.take a).drop p++ns.drop a:=by grind [List.take_append_drop]
   have f:=s i g;rw[AOZ t w,Oo];unfold gB;by_cases q:i<x.ht
   ·have F:DI i (x::ns.drop a)=some ⟨x.ag,0,none⟩:=by grind [DI]
    rw[F];by_cases u:p=d i
    ·rw[if_pos ⟨q,u⟩,AHv λh b=>?_]
     ·rfl
     ·obtain⟨A,B,L⟩:=CC b;simp at B;have M:(ns.take a).drop p=(ns.take a).drop p:=rfl;refine f.last (p+A) h (by omega) (by rw[j];omega) ?_
      grind
    ·rw[if_neg (λe=>u e.2),y,z,Oo];have G:p<d i:=by
      rcases IH p (d i) with e|e|e
      ·exact e
      ·exact absurd e u
      ·exfalso;cases p with
       |zero=>omega
       |succ p=>
        have r:=A2 (l:=ns) (i:=p) (by omega);have N:=f.last p _ (by omega) (by rw[j];omega) r;simp[Ta,r] at o;omega
     have m:=f.le;rw[j] at m;have v:=f.ht;obtain⟨c,H⟩: ∃c,d i=c+1:=⟨d i-1,by omega⟩;rw[H] at v G m;have r:=A2 (l:=ns) (i:=c) (by omega);simp[Ta,r] at v;have I:ns[c]∈(ns.take a).drop p:=by
      refine AM (i:=c-p) ?_
      grind
     obtain⟨h,b⟩:=AKb I v;rw[b];rfl
   ·rw[if_neg (λe=>q e.1),y,z,Oo];have:DI i (x::ns.drop a)=DI i (ns.drop a):=by grind [DI]
    rw[this]
  ·rename_i w;rw[AMo t (by omega)];split
   ·rename_i C;subst C;have q:i<x.ht:=by
     unfold Ta at n
     simp_all
    have f:=s i g;have m:=f.le;rw[j] at m;unfold kH;rw[if_pos q,K.link (d i) i (by omega) g f.ht,AGP (k:=a-d i) (by simp;omega) λA h B b=>?_]
    ·rw[Hh];congr 2;omega
    ·rw[C5] at b;exact f.last _ h (by omega) (by rw[j];omega) b
   ·rename_i C;obtain⟨c,rfl⟩: ∃c,p=c+1:=⟨p-1,by omega⟩;rw[Nat.add_sub_cancel];have O:(ns.take a++x::ns.drop a).length=ns.length+1:=by simp;omega
    have o:i<Ta ns c:=by
     unfold Ta at n;simp only at n;rw[wA t,if_neg (by omega),if_neg (by omega)] at n;obtain⟨D,rfl⟩: ∃D,c=D+1:=⟨c-1,by omega⟩
     simp_all [Ta]
    have m:=(s i g).le;rw[j] at m;unfold gB;rw[if_neg (λe=>by omega)];exact K.link c i (by omega) g o
 ·rw[HR,Hb] at b;rcases b with b|rfl|b
  ·exact K.ht h (C2 b)
  ·exact E
  ·exact K.ht h (Hc b)
set_option maxHeartbeats 1000000 in
theorem tK {bV:ak}{s:aa}{t:Nat}{ns:List DR}{l:List Pr}{x:Pr}{ap:A2H}(T:dt s t ns l)(cL:l.length<1099511627776)
  (aq: ∀bb ar,dt ar t bb (Bw x l)->Mod (dk t ns) s ar->(∀ b,dk t bb b->dk t ns b\/s.size<=b)->ap (J6 J9 (Ah x)) ar):
  AA bV P KT #[J5 (some ⟨t,0,none⟩),.agg #[J7 x.key,J7 x.val,J3 x.gone]] s ap:=by
 refine Zy ?_;unfold TF;refine ao.mk λe _ u au cM=>?_
 have bc:=T.ext au;have av:Ah x≠0->ap (J6 J9 (Ah x)) e:=λw=>aq ns e (by simpa [Bw,w] using bc) au.mod (λb u=> .inl u)
 refine ai.mk λK aw=>?_
 have ax:(decide (x.key=⟨#[]⟩)||(x.gone&& !decide (x.val=⟨#[]⟩)))=true->K (true,()) e:=λj=>aw _ _ (af.yes rfl (by
  have w:Ah x=1:=by unfold Ah;rw[if_pos j]
  have:=av (by rw[w];decide);rw[w] at this;exact this))
 have bd:(decide (x.key=⟨#[]⟩)||(x.gone&& !decide (x.val=⟨#[]⟩)))=false->K (false,()) e:=λj=>aw _ _ (af.no rfl (by
  refine ai.mk λbe ay=>?_
  have az:(decide (x.key.size>64)||decide (x.val.size>8192))=true->be (true,()) e:=λaA=>ay _ _ (af.yes rfl (by
   have w:Ah x=2:=by unfold Ah;rw[if_neg (by simp[j]),if_pos aA]
   have:=av (by rw[w];decide);rw[w] at this;exact this))
  have bW:(decide (x.key.size>64)||decide (x.val.size>8192))=false->be (false,()) e:=λaA=>ay _ _ (af.no rfl (by
   have w:Ah x=0:=by unfold Ah;rw[if_neg (by simp[j]),if_neg (by simp[aA])]
   have bX:=wz w;clear ax ay aw az av;obtain⟨nx,aC,D⟩:=bc.lay;have V:Bw x l=ins x l:=RJ w;have bf:=P8 (x:=x) T.sorted;have bg:=wE (x:=x) T.aO;have L:=T.ck;have bY:Sorted (ck ns):=by rw[L];exact T.sorted
   have cN:ns.length=l.length:=by rw[<- L];simp
   have cO:=AK2 T.aO;refine AJ.mk (AL u rfl) ?_;refine rh aC D bY λk F r W=>⟨_,_,_,_,_,_,_,_,_,_,_,_,rfl,?_⟩
   have aD:=ic.zero D.ht (r 0 (by omega));have bh:=aC.ext W;refine ao.mk λbZ _ b0 b1 cP=>?_
   have b2:bZ[F.size]? =some (J2 (dq (λ_=>none)).toArray EA (0,0)):=b0;simp only[Bq,AI];refine ae.mk b2 (by simp[BV]) λcQ aF bi b3=>?_
   rw[IQ _ rfl] at aF;refine ae.mk aF (by simp[BV]) λcR aG M b4=>?_
   rw[IQ _ rfl] at aG;refine ae.mk aG (by simp[BV]) λcS aH bj b5=>?_
   rw[IQ _ rfl] at aH;refine ae.mk aH (by simp[BV]) λcT aI bk b6=>?_
   rw[IQ _ rfl] at aI;refine ae.mk aI (by simp[BV]) λcU aJ bm b7=>?_
   rw[IQ _ rfl] at aJ;refine ae.mk aJ (by simp[BV]) λcV aK bn b8=>?_
   rw[IQ _ rfl] at aK;refine ae.mk aK (by simp[BV]) λcW aL bo b9=>?_
   rw[IQ _ rfl] at aL;refine ae.mk aL (by simp[BV]) λcX aM bp ca=>?_
   rw[IQ _ rfl] at aM;refine ae.mk aM (by simp[BV]) λcY aN bq cb=>?_
   rw[IQ _ rfl] at aN;refine ae.mk aN (by simp[BV]) λcZ aO br cc=>?_
   rw[IQ _ rfl] at aO;refine ae.mk aO (by simp[BV]) λc0 aQ bs cd=>?_
   rw[IQ _ rfl] at aQ;refine ae.mk aQ (by simp[BV]) λf aR bt ce=>?_
   rw[IQ _ rfl] at aR;have aS:f[F.size]? =some (J2 (dq (λi=>some (addrAt t ns (k i)))).toArray EA (0,0)):=by rw[aR];congr 3
   have bu:=((((((((((bi.trans M).trans bj).trans bk).trans bm).trans bn).trans bo).trans bp).trans bq).trans br).trans bs).trans bt;have X:Ext F f:=b1.then (bu.aj λc _ j=> .inr (by omega));have c1:=X.size;have c2:=Ag aS;have c3:=W.size;clear bu aF aG aH aI aJ aK aL aM aN aO aQ aR bi M bj bk bm bn bo bp bq br bs bt b3 b4 b5 b6 b7 b8 b9 ca cb cc cd ce;have y:=bh.ext X;have G:f[s.size]? =some (J2 #[J7 x.key,J7 x.val,J3 x.gone] AQ (0,0)):=X.ag (W.ag u (by simp)) (by simp);have cf:=Yl x.key ns;have aT:Ext s f:=au.trans (W.trans X);refine⟨by omega,AY.mk (Cu aS (i:=0) (by omega)) ⟨by omega,AY.mk (y.next (p:=k 0) (i:=0) (by rw[aD];omega) (by omega)) ?_⟩⟩;have cg:nx (k 0) 0=(ns[aP x.key (ck ns)]?).map λd=>⟨d.ag,0,none⟩:=by rw[D.link (k 0) 0 (by rw[aD];omega) (by omega) (r 0 (by omega)).ht,aD,TD D.ht]
   rw[cg];have Y:Ay x.key l=match ns[aP x.key (ck ns)]? with|some d=>decide (d.pr.key=x.key)|none=>false:=by
    unfold Ay
    grind
   generalize aU:aP x.key (ck ns)=a at*
   have Z:aP x.key l=a:=by rw[<- L];exact aU
   have ab:Yb x l=ins x l:=nR x l;refine ai.mk λbv bw=>?_
   have ch: ∀d,ns[a]? =some d->d.pr.key=x.key->bv (true,()) f:=λd n E=>bw _ _ (af.yes rfl (by
    have H:=List.getElem?_eq_some_iff.1 n;have ci:a<ns.length:=H.1;rw[n];have cj:=y.pair n;have c4:d.pr.key.size=x.key.size:=by rw[E]
    refine AC.mk (AB y.head mQ.2) (AJ.mk (AL G rfl) (AJ.mk cj.2.1 ?_));have cl: ∃aV:Nat,Eo l=d.pr.key.size+d.pr.val.size+aV/\Eo (Bw x l)=x.key.size+x.val.size+aV:=by
     have aW:l=l.take a++d.pr::l.drop (a+1):=by
      have aX:l[a]? =some d.pr:=by rw[<- L];simp[n]
      have e:=List.getElem?_eq_some_iff.1 aX;rw[<- e.2,<-F2 e.1,DH]
     have Q:Bw x l=l.take a++x::l.drop (a+1):=by rw[V,<-ab];unfold Yb;rw[Y,n,Z,if_pos (by simp[E])];simp
     refine⟨Eo (l.take a)+Eo (l.drop (a+1)),?_,?_⟩
     ·conv=>lhs;rw[aW]
      rw[OD,SQ];omega
     ·rw[Q,OD,SQ];omega
    obtain⟨aV,c5,c6⟩:=cl;have aY:J8 J9 ((Eo l:Int)+J8 J9 ((x.val.size:Int)-(d.pr.val.size:Int)))=(Eo (Bw x l):Int):=by
     have c7:d.pr.val.size<=8192:=(wz (T.aO d.pr (by grind))).2;have aW:J8 J9 ((x.val.size:Int)-(d.pr.val.size:Int))=(x.val.size:Int)-(d.pr.val.size:Int):=by exact AOh (by omega) (by omega)
     rw[aW,show(Eo l:Int)+((x.val.size:Int)-(d.pr.val.size:Int))=((Eo (Bw x l):Nat):Int) by omega];exact El (by omega)
    rw[aY];refine aE ?_;rw[Bq,AI];refine ae.mk y.head (by rw[du];omega) λbx bz ac c8=>?_
    rw[wv] at bz;have aZ:=y.node a d n;have a0:bx[s.size]? =some (J2 #[J7 x.key,J7 x.val,J3 x.gone] AQ (0,0)):=ac.ag G (by have:=aC.lt (.inl rfl:dk t ns t);have:=T.lt (.inl rfl:dk t ns t);omega);refine AJ.mk (AL a0 rfl) (AJ.mk (AL a0 rfl) (AZ.mk (AL a0 rfl) ?_));have cm:=ac.ag aZ.1 aZ.2;refine aE ?_;refine ae.mk cm (by rw[Rl];omega) λc9 cn co da=>?_
    rw[Bq,Bq];refine ae.mk cn (by rw[Pa,Rl];omega) λdb cp cq dc=>?_
    refine ae.mk cp (by rw[Pa,Pa,Rl];omega) λa1 bA cr dd=>?_
    simp only[AI] at bA;rw[AMn] at bA;have a2:Mod (λc=>c=d.ag) bx a1:=(co.trans cq).trans cr;have a3:dk t ns t:= .inl rfl;have bB:dk t ns d.ag:= .inr ⟨d,AM n,rfl⟩;rw[<- w];refine aq (ns.set a {d with pr:=x}) a1 ⟨⟨nx,⟨?_,λq z h=>?_,?_⟩,⟨λp i ag ah bC=>?_,λz h=>?_⟩⟩,?_,bf,bg⟩ ?_ λb u=>?_
    ·have a4:(Bw x l).length=l.length:=by rw[V,<-ab];unfold Yb;rw[Y,n,Z,if_pos (by simp[E])];simp;omega
     rw[a4];exact a2.ag bz (λo=>aZ.2 o.symm)
    ·rw[Mb] at h;split at h
     ·grind
     ·rename_i N;have A:=y.node q z h;refine⟨?_,A.2⟩;refine a2.ag (ac.ag A.1 A.2) ?_;have e:=List.getElem?_eq_some_iff.1 h;have bD:=List.pairwise_iff_getElem.1 y.apart;rcases My N with a5|a5
      ·have:=bD a q H.1 e.1 a5;rw[e.2,H.2] at this;exact λo=>this o.symm
      ·have:=bD q a e.1 H.1 a5;rw[e.2,H.2] at this;exact this
    ·have o:(ns.set a {d with pr:=x}).map (·.ag)=ns.map (·.ag):=by
      rw[Pc];apply List.ext_getElem?;intro q;rw[Mb];split
      ·rename_i N;subst N;simp[H.1,H.2]
      ·rfl
     have e:(ns.map (·.ag)).Pairwise (· ≠ ·):=List.pairwise_map.2 y.apart;rw[<- o] at e;exact List.pairwise_map.1 e
    ·rw[PA] at ag;have cs:Ta (ns.set a {d with pr:=x}) p=Ta ns p:=by
      cases p with
      |zero=>rfl
      |succ p=>
       unfold Ta;simp only;rw[Mb];by_cases N:a=p
       ·subst N;rw[if_pos rfl,if_pos ci,n]
       ·rw[if_neg N]
     rw[cs] at bC;rw[D.link p i ag ah bC];have key: ∀m:List DR,∀a,m[a]? =some d->DI i (m.set a {d with pr:=x})=DI i m:=by
      intro m
      induction m with
      |nil=>intro a s;simp at s
      |cons z m ct=>
       intro a s;cases a with
       |zero=>simp at s;subst s;by_cases hd:i<z.ht<;>simp[DI,hd]
       |succ a=>
        have:=ct a (by simpa using s);unfold DI at this ⊢;rw[List.set_cons_succ,E0,E0];split
        ·rfl
        ·exact this
     rcases Fc a p with e|e
     ·rw[ZS e]
     ·rw[List.drop_set];rw[if_neg (by omega)];exact(key _ _ (by rw[C5];rw[<- n];congr 1;omega)).symm
    ·obtain⟨q,I,o⟩:=CC h;rw[List.getElem_set] at o;split at o
     ·subst o;exact D.ht d (AM n)
     ·subst o;exact D.ht _ (AS _)
    ·rw[V,<-ab];unfold Yb;rw[Y,n,Z,if_pos (by simp[E])];show(ns.set a {d with pr:=x}).map (·.pr)=_;rw[Pc,A01];have:(ns.map (·.pr))=l:=L;rw[this];have aX:a<l.length:=by omega
     simp[aX]
    ·have M:Mod (dk t ns) f a1:=(ac.aj λc _ j=>by subst j;exact a3).trans (a2.aj λc _ j=>by subst j;exact bB);exact aT.mod.trans M
    ·rcases u with rfl|⟨z,h,rfl⟩
     ·exact .inl (.inl rfl)
     ·obtain⟨q,I,o⟩:=CC h;rw[List.getElem_set] at o;split at o
      ·subst o;exact .inl bB
      ·subst o;exact .inl (.inr ⟨_,AS _,rfl⟩)))
   have bE:Ay x.key l=false->bv (false,()) f:=λa3=>bw _ _ (af.no rfl (by
    refine AJ.mk (AL G rfl) (AJ.mk (AL G rfl) (AZ.mk (AL G rfl) ?_));refine ao.mk λbF _ cu aj de=>?_
    have bG:=aj.ag G (by simp);refine AJ.mk (AL bG rfl) ?_;refine ANE bX.1 λB cv cw=>⟨_,rfl,?_⟩
    have cx:bF[f.size]? =some (J2 (FX x (λ_=>none)) Rv (0,0)):=cu;have cy:=y.ext aj;have bH: ∀i,i<12->k i<=ns.length:=λi ah=>by have:=(r i ah).le;rw[aU] at this;omega
    have cz:=aj.ag aS (by simp);have a6: ∀c,dk t ns c->c<f.size:=λc j=>y.lt j
    have cB: ∀c,dk t ns c->c<F.size:=λc j=>bh.lt j
    refine Loop.rule (λm d C=> ∃i:Nat,d=((i:Int),())/\m=B-i/\i<=B/\Mod (λc=>dk t ns c\/c=f.size) bF C/\Lay C t ns (gB nx k ⟨f.size,0,none⟩ i) (l.length:Int) (Eo l:Int)/\C[f.size]? =some (J2 (FX x (kH nx k i)) Rv (0,0))) ?_
     ⟨0,rfl,rfl,by omega,Mod.refl,?_,?_⟩
    rotate_left
    ·have:gB nx k ⟨f.size,0,none⟩ 0=nx:=by funext p B;simp[gB]
     rw[this];exact cy
    ·have:kH nx k 0=λ_=>none:=by funext B;simp[kH]
     rw[this];exact cx
    rintro cC m _ C ⟨i,rfl,rfl,ah,R,J,bI⟩ cD;have df:=R.size;have bJ:C[F.size]? =some (J2 (dq (λi=>some (addrAt t ns (k i)))).toArray EA (0,0)):=R.ag cz (λa7=>a7.elim (λe=>by have:=cB _ e;omega) (λe=>by omega));refine af.intro (λj=>?_) (λj=>?_)
    ·have bK:i<B:=by simpa using j
     have O:i<12:=by omega
     have S:(0:Int)<=(i:Int)/\(i:Int)<(12:Int):=⟨by omega,by omega⟩;refine⟨S,?_⟩;show AY C ⟨F.size,i*1,none⟩ _;rw[Bs];refine AY.mk (Cu bJ O) ⟨S,?_⟩;show AY C (((addrAt t ns (k i)).add 3).add (i*1)) _;refine AY.mk (J.next (p:=k i) (i:=i) (bH i O) O) ⟨S,?_⟩;have cE:gB nx k ⟨f.size,0,none⟩ i (k i) i=nx (k i) i:=by simp[gB]
     show ae C ⟨f.size,3+i*1,none⟩ (J5 (gB nx k ⟨f.size,0,none⟩ i (k i) i)) _;rw[cE,Bs];refine ae.mk bI (by rw[Rl];omega) λbL bM a8 dg=>?_
     rw[wu] at bM;have cF:=J.mod a8 (λc j o=>by have:=a6 c j;omega);refine⟨S,?_⟩;show AY bL ⟨F.size,i*1,none⟩ _;rw[Bs];refine AY.mk (Cu (a8.ag bJ (by omega)) O) ⟨S,?_⟩;show ae bL (((addrAt t ns (k i)).add 3).add (i*1)) (J5 (some ⟨f.size,0,none⟩)) (λbN=>cC (J8 J9 ((i:Int)+(1:Int)),()) bN);refine cF.store (p:=k i) (i:=i) (bH i O) O (v:=some ⟨f.size,0,none⟩) (λbN bO bP dh=>?_)
     ·refine cD (B-(i+1)) _ _ (by omega) ⟨i+1,by rw[Aa (by omega)],rfl,by omega,(R.trans (a8.aj λc _ j=> .inr j)).trans (bP.aj λc _ j=> .inl j),?_,?_⟩
      ·have:gA (gB nx k ⟨f.size,0,none⟩ i) (k i) i (some ⟨f.size,0,none⟩)=gB nx k ⟨f.size,0,none⟩ (i+1):=by
        funext p q;unfold gA gB;by_cases I:q=i
        ·subst I
         grind
        ·by_cases ag:p=k q<;>simp[ag,I,Nat.lt_succ_iff,Nat.le_iff_lt_or_eq]
       rw[this] at bO;exact bO
      ·rw[bP.ag bM (λj=>by have:=a6 _ j;omega),KY (g:=kH nx k (i+1)) (λq=>?_)];unfold kH;by_cases I:q=i
       ·subst I;simp
       ·simp[I,Nat.lt_succ_iff,Nat.le_iff_lt_or_eq]
    ·have bK:i=B:=by simp at j;omega
     subst bK;refine AC.mk (AB J.head mQ.1) ?_;refine aE ?_;rw[Bq,AI];refine ae.mk J.head (by rw[du];omega) λdi a9 bQ dj=>?_
     rw[AMd] at a9;have bR:dk t ns t:= .inl rfl;have dl:=T.lt bR;have cG:C[s.size]? =some (J2 #[J7 x.key,J7 x.val,J3 x.gone] AQ (0,0)):=R.ag bG (λa7=>a7.elim (λe=>by have:=T.lt e;omega) (λe=>by omega));have bS:=bQ.ag cG (by omega);refine aE ?_;rw[Bq,AI];refine AC.mk (AL a9 mQ.2) (AJ.mk (AL bS rfl) (AJ.mk (AL bS rfl) (aE ?_)));rw[Bq,AI];refine ae.mk a9 (by rw[du];omega) λal ba cH dm=>?_
     rw[wv] at ba;have Q:Bw x l=l.take a++x::l.drop a:=by rw[V,<-ab];unfold Yb;rw[a3,Z];simp
     have dn:Eo (Bw x l)=Eo l+(x.key.size+x.val.size):=by
      rw[Q,OD,SQ];have:Eo l=Eo (l.take a)+Eo (l.drop a):=by rw[<- OD,DH]
      omega
     have a4:(Bw x l).length=l.length+1:=by rw[Q];simp;omega
     have aY:J8 J9 ((l.length:Int)+(1:Int))=((Bw x l).length:Int):=by rw[a4];exact Aa (by omega)
     have cI:J8 J9 ((Eo l:Int)+J8 J9 ((x.key.size:Int)+(x.val.size:Int)))=(Eo (Bw x l):Int):=by rw[show((x.key.size:Int)+(x.val.size:Int))=((x.key.size+x.val.size:Nat):Int) by omega,El (by omega),show(Eo l:Int)+((x.key.size+x.val.size:Nat):Int)=((Eo (Bw x l):Nat):Int) by omega];exact El (by omega)
     rw[aY,cI] at ba;have mt:Mod (λc=>c=t) C al:=bQ.trans cH;have cJ:=mt.ag bI (by omega);rw[<- w];refine aq (ns.take a++⟨f.size,x,i⟩::ns.drop a) al ⟨⟨ie nx k ⟨f.size,0,none⟩ i a,⟨?_,λq z h=>?_,?_⟩,?_⟩,?_,bf,bg⟩ ?_ λb u=>?_
     ·rw[ba,Xr (g:=ie nx k ⟨f.size,0,none⟩ i a 0) (λB=>?_)];simp[ie]
     ·rw[wA cf] at h;split at h
      ·rename_i cK;have A:=J.node q z h;refine⟨?_,A.2⟩;rw[mt.ag A.1 A.2,KY (g:=ie nx k ⟨f.size,0,none⟩ i a (q+1)) (λB=>?_)];unfold ie;rw[if_pos (by omega)]
      ·rename_i cK;split at h
       ·rename_i bT;subst bT;cases h;refine⟨?_,by grind⟩;show al[f.size]? =_;rw[cJ,KY (g:=ie nx k ⟨f.size,0,none⟩ i q (q+1)) (λB=>?_)];unfold ie
        grind
       ·rename_i bT;obtain⟨am,rfl⟩: ∃am,q=am+1:=⟨q-1,by omega⟩;rw[Nat.add_sub_cancel] at h;have A:=J.node am z h;refine⟨?_,A.2⟩;rw[mt.ag A.1 A.2,KY (g:=ie nx k ⟨f.size,0,none⟩ i a (am+1+1)) (λB=>?_)];unfold ie
        grind
     ·have e:=J.apart;have bU: ∀z∈ns,z.ag≠f.size:=λz h o=>by have:=a6 z.ag (.inr ⟨z,h,rfl⟩);omega
      rw[<- DH a ns] at e;rw[List.pairwise_append] at e ⊢;refine⟨e.1,List.pairwise_cons.2 ⟨λz h=>λo=>bU z (Hc h) o.symm,e.2.1⟩,λd n z h=>?_⟩;rcases List.mem_cons.1 h with rfl|h
      ·exact bU d (C2 n)
      ·exact e.2.2 d n z h
     ·have:=D.insert (key:=x.key) r (x:=⟨f.size,x,i⟩) ⟨cv,cw⟩;rw[aU] at this;exact this
     ·show(ns.take a++⟨f.size,x,i⟩::ns.drop a).map (·.pr)=_;have:(ns.map (·.pr))=l:=L;rw[Q,<-this];simp[List.map_take,List.map_drop]
     ·have M:Mod (λc=>dk t ns c\/c=f.size) f al:=(aj.mod.trans R).trans (mt.aj λc _ j=>by subst j;exact .inl bR);exact aT.mod.then (M.aj λc _ j=>j.elim .inl λe=> .inr (by have:=aT.size;omega))
     ·rcases u with rfl|⟨z,h,rfl⟩
      ·exact .inl (.inl rfl)
      ·rw[HR,Hb] at h;rcases h with h|rfl|h
       ·exact .inl (.inr ⟨z,C2 h,rfl⟩)
       ·grind
       ·exact .inl (.inr ⟨z,Hc h,rfl⟩)))
   cases n:ns[a]? with
   |none=>
    refine af.no rfl (bE ?_);rw[Y,n]
   |some d=>
    refine af.yes rfl ?_;refine AJ.mk (y.pair n).1 (AJ.mk (AL G rfl) ?_);rw[CZ];by_cases E:d.pr.key=x.key
    ·rw[decide_eq_true E];exact ch d n E
    ·rw[decide_eq_false E];exact bE (by grind)))
  refine AJ.mk (AL u rfl) ?_;refine af.intro (λr=>?_) (λr=>?_)
  ·exact az (by simp at r;simp;omega)
  ·refine AJ.mk (AB u rfl) ?_;simp at r;cases U:decide ((x.val.size:Int)>(8192:Int))
   ·exact bW (by simp at U;simp;omega)
   ·exact az (by simp at U;simp;omega)))
 refine af.no rfl ?_;refine AJ.mk (AL u rfl) ?_;rw[CZ];refine af.intro (λr=>?_) (λr=>?_)
 ·exact ax (by simp at r;simp[r])
 ·refine AZ.mk (AB u rfl) ?_;simp at r;refine af.intro (λan=>?_) (λan=>?_)
  ·refine AJ.mk (AB u rfl) ?_;rw[CZ];cases U:(!decide (x.val=⟨#[]⟩))
   ·exact bd (by simp[r,an,U])
   ·exact ax (by simp[r,an,U])
  ·exact bd (by simp[r,an])
theorem tH {c:ak}{a:aa}{t:Nat}{ns:List DR}{l:List Pr}{b:A2H}(T:dt a t ns l)(d:b (J1 #[J6 J9 (l.length:Int),J6 J9 (Eo l:Int)]) a):AA c P KS #[J5 (some ⟨t,0,none⟩)] a b:=by obtain⟨nx,L,_⟩:=T.lay;refine AAs ?_;unfold TN;refine af.no rfl ?_;exact AC.mk (AB L.head mQ.1) (AC.mk (AB L.head mQ.2) d)
def VA:Pr:=⟨⟨#[]⟩,⟨#[]⟩,false⟩
def NU(key:A2I)(l:List Pr):Pr×Bool:=match l[aP key l]? with|some a=>if a.key=key then(a,true) else(VA,false)|none=>(VA,false)
theorem three {a:aa}{b:Nat}{T:Q7}{j c1 c2:J0}{f v:A2I}{g:Bool}{K:aa->Prop}(k:a[b]? =some (J2 #[j,c1,c2] T (0,0)))
  (l: ∀d,d[b]? =some (J2 #[J7 f,J7 v,J3 g] T (0,0))->Mod (λc=>c=b) a d->K d):
  ae a ⟨b,0,none⟩ (J7 f) λh=>ae h ((⟨b,0,none⟩:Q6).add 1) (J7 v) λi=>ae i ((⟨b,0,none⟩:Q6).add 2) (J3 g) λe=>K e:=by
 refine ae.mk k (by simp) λh m n s=>?_
 rw[Bq,Bq];refine ae.mk m (by simp) λi o p t=>?_
 refine ae.mk o (by simp) λe q r u=>?_
 exact l e (by simpa using q) ((n.trans p).trans r)
theorem wB {c d:aa}{t:Nat}{ns:List DR}{nx:Nat->Nat->Q2}{g h:Int}{key:A2I}{a:Nat->Nat}(L:Lay c t ns nx g h)(K:lE ns nx)(e: ∀i,i<12->Vl ns key i (a i))(x:Ext c d):
  ah d (((addrAt t ns (a 0)).add 3).add (0*1))=some (J5 ((ns[aP key (ck ns)]?).map λj=>⟨j.ag,0,none⟩)):=by
 have b:=ic.zero K.ht (e 0 (by omega));have f:=Yl key ns;have k:=(L.ext x).next (p:=a 0) (i:=0) (by rw[b];exact f) (by omega);rw[k,K.link (a 0) 0 (by rw[b];exact f) (by omega) (e 0 (by omega)).ht,b,TD K.ht]
theorem AQa {z:ak}{d:aa}{t:Nat}{ns:List DR}{l:List Pr}{key:A2I}{m:A2H}(T:dt d t ns l)(A: ∀r,Ext d r->m (J1 #[(NU key l).1.agg,J3 (NU key l).2]) r):
  AA z P Nh #[J5 (some ⟨t,0,none⟩),J7 key] d m:=by
 obtain⟨nx,L,s⟩:=T.lay;refine AAO ?_;unfold TP;refine ao.mk λI _ B n J=>af.no rfl ?_
 have C:Sorted (ck ns):=by rw[T.ck];exact T.sorted
 refine rh (L.ext n) s C λM o D p=>⟨_,_,_,_,_,_,_,_,_,_,_,_,rfl,?_⟩
 refine aE ⟨by omega,AY.mk (wB (L.ext n) s D p) ?_⟩;have u:=p.ag B (by simp);have v:Ext d o:=n.trans p;have E:=L.ext v;have ah:NU key l=match ns[aP key (ck ns)]? with|some f=>if f.pr.key=key then(f.pr,true) else(VA,false)|none=>(VA,false):=by unfold NU;rw[<- T.ck];rw[show ck ns=ns.map (·.pr) from rfl,BE];cases ns[aP key (ns.map (·.pr))]? <;>rfl
 have w: ∀(g:Pr) (b:Bool) a,a[d.size]? =some (J2 #[J7 g.key,J7 g.val,J3 g.gone] AQ (0,0))->Mod (λc=>c=d.size) o a->NU key l=(g,b)->
   (AJ a (⟨d.size,0,none⟩:Q6) λF=>AJ a ((⟨d.size,0,none⟩:Q6).add 1) λG=>AZ a ((⟨d.size,0,none⟩:Q6).add 2) λH=>m (J1 #[.agg #[J7 F,J7 G,J3 H],J3 b]) a):=λg b a e h q=>by
  refine AJ.mk (AL e rfl) (AJ.mk (AB e rfl) (AZ.mk (AB e rfl) ?_));have:=A a (v.then (h.aj λc _ N=> .inr (by omega)));rw[q] at this;exact this
 refine ai.mk λK x=>?_
 have y:NU key l=(VA,false)->K (false,()) o:=λq=>x _ _ (af.no rfl (three u λa e h=>w VA false a e h q))
 cases i:ns[aP key (ck ns)]? with
 |none=>
  rw[i] at ah;exact af.no rfl (y ah)
 |some f=>
  rw[i] at ah;refine af.yes rfl (aE ?_);have j:=E.pair i;refine AJ.mk j.1 ?_;rw[CZ];by_cases k:f.pr.key=key
  ·rw[decide_eq_true k];refine x _ _ (af.yes rfl ?_);rw[i];refine aE (AJ.mk j.1 (AJ.mk j.2.1 (AZ.mk j.2.2 ?_)));simp only[k,if_true] at ah;exact three u λa e h=>w f.pr true a e h ah
  ·rw[decide_eq_false k];simp only[k,if_false] at ah;exact y ah
theorem tC {a c b:J0}:(#[]++ #[a]++ #[c,b]:Array J0)= #[a,c,b]:=rfl
theorem AP6 {A:ak}{s:aa}{b c t:Nat}{T U:Q7}{fr V:Nat×Nat}{ns:List DR}{l:List Pr}{key:A2I}(f:s[b]? =some (J2 #[J5 (some ⟨t,0,none⟩)] T fr))(I:s[c]? =some (J2 #[J7 key] U V))(j:dt s t ns l):
  EY A P (.func (.func Kb) #[] #[J5 (some ⟨b,0,none⟩),J5 (some ⟨c,0,none⟩)]) (λe=>dk t ns e\/e=b\/e=c) s (l.drop (aP key l)):=by
 refine⟨?_,_,_,rfl,λW=>by kernel_rfl,λd u W X k h hd hB Y Z=>?_⟩
 ·rintro e (hd|rfl|rfl)
  ·exact j.lt hd
  ·exact Ag f
  ·exact Ag I
 rw[tC];refine WI ?_;unfold PZ;have J:=(u b (.inr (.inl rfl))).trans f;have ab:=(u c (.inr (.inr rfl))).trans I;obtain⟨nx,v,o⟩:=j.lay;have L:Lay d t ns nx (l.length:Int) (Eo l:Int):=
  ⟨(u t (.inl (.inl rfl))).trans v.head,λa x z=>⟨(u x.ag (.inl (.inr ⟨x,AM z,rfl⟩))).trans (v.node a x z).1,(v.node a x z).2⟩,v.apart⟩
 have M: ∀e,dk t ns e-> ¬k e:=λe ac=>hd e (.inl ac)
 refine AY.mk (AL J rfl) (af.no rfl (AY.mk (AL J rfl) (AJ.mk (AL ab rfl) ?_)));have ae:Sorted (ck ns):=by rw[j.ck];exact j.sorted
 refine rh L o ae λaq ag q B=>⟨_,_,_,_,_,_,_,_,_,_,_,_,rfl,?_⟩
 refine aE ⟨by omega,AY.mk (wB L o q B) ?_⟩;have ai:aP key (ck ns)=aP key l:=by rw[j.ck]
 have ar:=nN key l;have au:ns.length=l.length:=by rw[<- j.ck];simp
 rw[ai];have aj:=hB.br _ _ _ _ _ Z (B.aj (S':=λb=>¬k b/\d.size<=b) λ_ _ d=>d.elim);refine Loop.rule (λm x w=> ∃(a:Nat) (r:Nat->Prop),x=((ns[aP key l+a]?).map λn=>(⟨n.ag,0,none⟩:Q6),())/\m=l.length-(aP key l+a)/\aP key l+a<=l.length/\Mod k d w/\(∀ b,r b->k b\/d.size<=b)/\X a true r w) ?_
  ⟨0,k,rfl,rfl,by omega,B.mod,λb f=> .inl f,aj⟩
 rintro K m _ w ⟨a,r,rfl,rfl,av,y,C,N⟩ al;have D:(l.drop (aP key l)).length=l.length-aP key l:=by simp
 cases h:ns[aP key l+a]? with
 |none=>
  have:=List.getElem?_eq_none_iff.1 h;refine af.no rfl ?_;exact⟨rfl,a,true,r,y,C,N,λ_=>by rw[D];omega,by rw[D];omega⟩
 |some n=>
  have aw:=(List.getElem?_eq_some_iff.1 h).1;have E:=(L.mod y M).pair h;refine af.yes rfl (aE (AJ.mk E.1 (AJ.mk E.2.1 (AZ.mk E.2.2 ?_))));have ah:(l.drop (aP key l))[a]? =some n.pr:=by
   rw[C5];have O:(ck ns)[aP key l+a]? =some n.pr:=by rw[show ck ns=ns.map (·.pr) from rfl,BE,h];rfl
   rw[j.ck] at O;exact O
  refine F4.mono (Y a n.pr r w ah N) ?_;rintro _ am ⟨g,F,rfl,an,ao,Q⟩;have ax:=y.size;have R: ∀b,F b->k b\/d.size<=b:=λb f=>(an b f).elim (C b) λag=> .inr (by omega)
  have G:Mod k d am:=y.then (ao.aj λb _ f=>C b f);refine⟨g,rfl,af.intro (λq=>?_) (λq=>?_)⟩
  ·have H:g=false:=by simpa using q
   subst H;exact⟨rfl,a+1,false,F,G,R,Q,(λd=>by cases d),by rw[D];omega⟩
  ·have H:g=true:=by simpa using q
   subst H;refine aE ⟨by omega,?_⟩;have S:=(L.mod G M).next (p:=aP key l+a+1) (i:=0) (by omega) (by omega);have ap:addrAt t ns (aP key l+a+1)=⟨n.ag,0,none⟩:=by simp[addrAt,h]
   rw[ap,o.link _ 0 (by omega) (by omega) (by have:=(o.ht n (AM h)).1;simp[Ta,h];omega),TD o.ht] at S;refine AY.mk S ?_;exact al (l.length-(aP key l+(a+1))) _ _ (by omega) ⟨a+1,F,rfl,rfl,by omega,G,R,Q⟩
theorem tI {A:ak}{a:aa}{t:Nat}{ns:List DR}{l:List Pr}{key:A2I}{f:A2H}(T:dt a t ns l)
  (i: ∀fv d,EY A P fv (λb=>dk t ns b\/b=a.size\/b=a.size+1) d (l.drop (aP key l))->Ext a d->d.size=a.size+2->f fv d):AA A P Jf #[J5 (some ⟨t,0,none⟩),J7 key] a f:=by
 refine ZE ?_;unfold Ql;refine ao.mk λp _ j k m=>ao.mk λg _ n h q=>?_
 have e:Ext a g:=k.trans h;have o:=AP6 (A:=A) (h.ag j (by simp)) n (T.ext e) (key:=key);refine i _ g (o.aj ?_ ?_ (λc _=>rfl)) e (by omega)
 ·rintro b (hd|rfl|rfl)
  ·exact .inl hd
  ·exact .inr (.inl rfl)
  ·exact .inr (.inr m)
 ·rintro b (hd|rfl|rfl)
  ·exact(T.ext e).lt hd
  ·omega
  ·omega
theorem ANs(l:List Pr):aP ⟨#[]⟩ l=0:=by
 have: ∀x:A2I,aR x ⟨#[]⟩=false:=λx=>by
  have a:(⟨#[]⟩:A2I).toList= []:=by simp[ByteArray.toList_eq]
  unfold aR;rw[a];cases x.toList<;>rfl
 cases l with
 |nil=>rfl
 |cons x l=>simp[aP,iD,this]
theorem tD(l:List Pr):l.drop (aP ⟨#[]⟩ l)=l:=by rw[ANs];rfl
def qb:Pr:=⟨⟨#[98]⟩,⟨#[49]⟩,false⟩
end Go.Lf.G.M
namespace Go.Lf.G
open Go
open M (aP Ab Sorted BF)
theorem ASt(a b:A2I):(!(aR a b||bU a b))=aR b a:=by
 cases e:aR b a with
 |true=>
  have c:aR a b=false:=by grind [aR,DY,Cf]
  have d:bU a b=false:=by
   rw[CZ,decide_eq_false_iff_not]
   grind
  rw[c,d];rfl
 |false=>
  grind [aR,OQ,CZ]
theorem AHG {a b c:A2I}(d:aR a b=true)(e:aR c b=false):aR a c=true:=by grind [aR,DY,OQ]
theorem nw {l:List Pr}(c:Sorted l){i a:Nat}{p b:Pr}(d:l[i]? =some p)(e:l[a]? =some b)(f:i<a):aR p.key b.key=true:=by obtain⟨g,rfl⟩:=List.getElem?_eq_some_iff.1 d;obtain⟨h,rfl⟩:=List.getElem?_eq_some_iff.1 e;exact List.pairwise_iff_getElem.1 c _ _ g h f
structure AR6 (l:List Pr) (key:A2I) (B:Nat):Prop where
 lt:B<CG l
 below: ∀(x:Nat) (p:Pr),x<8*B->l[x]? =some p->aR p.key key=true
 there: ∀(x:Nat) (p:Pr),l[x]? =some p->p.key=key->8*B<=x/\x<8*B+8
theorem ASb {l:List Pr}{key:A2I}{b:Nat}(j:Sorted l)(k:l≠ [])(t:b<=CG l)(m: ∀a,a<b->aR key (JD l (8*a))=false)(n:b<CG l->aR key (JD l (8*b))=true):AR6 l key (b-1):=by
 have u:=AIG k;have ah: ∀a,a<CG l-> ∃d,l[8*a]? =some d/\JD l (8*a)=d.key:=by grind [CG,List.getElem?_eq_getElem,JD]
 have o: ∀(x:Nat) (p:Pr),x<8*(b-1)->l[x]? =some p->aR p.key key=true:=by intro x p h e;obtain⟨d,f,g⟩:=ah (b-1) (by omega);have c:=nw j e f h;have:=m (b-1) (by omega);rw[g] at this;exact AHG c this
 refine⟨by omega,o,λx p e g=>⟨?_,?_⟩⟩
 ·grind [Nat.le_of_not_lt,Cf]
 ·apply Nat.lt_of_not_le;intro h;have v:=(List.getElem?_eq_some_iff.1 e).1;have step: ∀a,8*a<=x->a<CG l->aR key (JD l (8*a))=true->False:=by
   intro a w q c;obtain⟨d,f,r⟩:=ah a q;rw[r] at c;rcases Fc (8*a) x with s|s
   ·grind [nw,DY,Cf]
   ·have:8*a=x:=by omega
    rw[this,e] at f;cases f;rw[g,Cf] at c;cases c
  have i:b<CG l:=by unfold CG;omega
  exact step b (by omega) i (n i)
theorem AQz {i a:Nat}(b:i+a<=2*1099511627776):J8 J9 ((J8 .u64 (J8 J9 (((i:Nat):Int)+((a:Nat):Int)))).fdiv ((2:Int)^(1:Nat)))=(((i+a) / 2:Nat):Int):=by rw[show((i:Nat):Int)+((a:Nat):Int)=((i+a:Nat):Int) by omega,El (by omega),CJ (by omega),Qx,El (by omega)]
theorem ANR {n:ak}{f:aa}{fv:J0}{c:Nat}{p:Nat->Bool}{o:A2H}(C:c<=1099511627776)(D: ∀i b,i<=b->b<c->p i=true->p b=true)
  (y: ∀i d,i<c->Ext f d->F4 n P fv #[J6 J9 (i:Int)] d λv g=>v=J3 (p i)/\Ext d g)
  (z: ∀h g,h<=c->(∀ b,b<h->p b=false)->(h<c->p h=true)->Ext f g->o (J6 J9 (h:Int)) g):AA n P QK #[J6 J9 (c:Int),fv] f o:=by
 refine ACs ?_;unfold XG;refine Loop.rule (λm x d=> ∃i b:Nat,x=((i:Int),(b:Int),())/\m=b-i/\i<=b/\b<=c/\(∀ a,a<i->p a=false)/\(b<c->p b=true)/\Ext f d) ?_ ⟨0,c,rfl,rfl,by omega,A0 _,λa A=>by omega,λf=>by omega,Mod.refl⟩;rintro K m _ d ⟨i,b,rfl,rfl,k,q,r,s,j⟩ t;dsimp only;refine af.intro (λl=>?_) (λl=>?_)
 ·have k:i<b:=by simp at l;omega
  rw[AQz (by omega)];refine ai.mk λE u=>?_
  have B:(i+b) / 2<c:=by omega
  refine F4.mono (y _ d B j) ?_;rintro v g ⟨rfl,w⟩;refine⟨_,rfl,af.intro (λe=>?_) (λe=>?_)⟩
  ·have e:p ((i+b) / 2)=false:=by simpa using e
   refine u _ _ ?_;dsimp only;rw[Aa (by omega)];refine t (b-((i+b) / 2+1)) _ _ (by omega) ⟨(i+b) / 2+1,b,rfl,rfl,by omega,q,λa A=>?_,s,j.trans w⟩
   grind
  ·have e:p ((i+b) / 2)=true:=by simpa using e
   refine u _ _ ?_;exact t ((i+b) / 2-i) _ _ (by omega) ⟨i,(i+b) / 2,rfl,rfl,by omega,by omega,r,λ_=>e,j.trans w⟩
 ·have k:i=b:=by simp at l;omega
  subst k;exact z i d q r s j
abbrev AJF:Q8:=Iy
theorem AHa {A:ak}{h:aa}{t D k:Nat}{l:List Pr}{f:List UInt8}{key:A2I}{R:A2H}(T:bW h t l f D k)(c:ik (aL (aT l f)) l f)
  (E: ∀d q,AR6 l key q->Ext h d->R (J6 J9 (q:Int)) d):AA A P Gv #[Ak t,J7 key] h R:=by
 refine Uu ?_;unfold Np;refine ao.mk λe _ F G X=>ao.mk λY _ H r Z=>?_
 have u:=Ap r F;have w:=G.trans r;obtain⟨m,ab,x,y,ac,_,_⟩:=(T.ext w).at_;refine AY.mk (AL u rfl) (aE ?_);refine Ad.mk (s:=m) (AL x rfl) ?_;have I:m.len=CG l:=by rw[y.len,IB]
 have ae:=c.many;have af:CG l<=12501:=by unfold CG;omega
 rw[I];have z: ∀b,b<CG l-> ∃B,l[8*b]? =some B/\JD l (8*b)=B.key:=by
  intro b n;have:8*b<l.length:=by unfold CG at n;omega
  exact⟨l[8*b],A2 this,by unfold JD;simp_all⟩
 refine ANR (p:=λb=>aR key (JD l (8*b))) (by omega) (λi b ag n C=>?_) (λi o k g=>?_) λj J K e L M=>⟨_,rfl,?_⟩
 ·rcases Fc i b with h|h
  ·obtain⟨ah,N,O⟩:=z i (by omega);obtain⟨ai,Q,S⟩:=z b n;have:=nw c.inc N Q (by omega);rw[O] at C;rw[S];exact DY C this
  grind
 ·have U:=F4.func (A:=A) (P:=P) (f:=AJF) (first:= #[]) (cp:= #[Ak h.size,Ak e.size]) (args:= #[J6 J9 (i:Int)]) (h:=o) (R:=λv d=>v=J3 (aR key (JD l (8*i)))/\Ext o d) (by kernel_rfl) ?_
  ·exact U
  ·show AA A P AJF #[J6 J9 (i:Int),Ak h.size,Ak e.size] o _;refine Sa ?_;unfold Lu;refine aE (AY.mk (AL (Ap g u) rfl) (aE ?_));refine Ad.mk (s:=m) (AL (Ap g x) rfl) ?_;refine(y.ext g).idx (R5 k) λa aj V=>?_
   rw[AF];refine AJ.mk V.str (aE ?_);refine AJ.mk (AL (Ap g H) rfl) ?_;rw[ASt];exact⟨rfl,Mod.refl⟩
 ·have W:(if((J8 J9 (((j:Nat):Int)-(1:Int))):Int)>0 then(J8 J9 (((j:Nat):Int)-(1:Int))) else 0)=((j-1:Nat):Int):=by grind [wrap_i64]
  rw[W];exact E J (j-1) (ASb c.inc c.ne K e L) (w.trans M)
def WH(key:A2I)(l:List Pr):Pr×Bool:=match Ab key l with|some a=>(a,true)|none=>(M.VA,false)
theorem ARH {l:List Pr}(f:Sorted l){p:Pr}(h:p∈l):Ab p.key l=some p:=by
 unfold Ab;cases g:l.find? λd=>decide (d.key=p.key) with
 |none=>
  grind
 |some d=>
  have b:=PB g;have b:d.key=p.key:=of_decide_eq_true b;obtain⟨i,e⟩:=DB (Lk g);obtain⟨j,c⟩:=DB h;rcases IH i j with a|a|a
  ·have:=nw f e c a;rw[b,Cf] at this;cases this
  ·subst a;rw[e] at c;exact c
  ·have:=nw f c e a;rw[b,Cf] at this;cases this
theorem AFM {l:List Pr}{key:A2I}(a: ∀p∈l,p.key≠key):Ab key l=none:=by simp_all [Ab,GO]
theorem ARa {ab:ak}{d:aa}{t ac D:Nat}{l:List Pr}{f:List UInt8}{key:A2I}{E:A2H}(T:bW d t l f ac D)(q:ik (aL (aT l f)) l f)(ag:key.size<=1099511627776)
  (ah: ∀J,Ext d J->E (J1 #[(WH key l).1.agg,J3 (WH key l).2]) J):AA ab P LG #[Ak t,J7 key] d E:=by
 refine Xp ?_;unfold QA;refine ao.mk λL _ N w aR=>?_
 have tail: ∀g x,Ext d g->g[d.size]? =some (J2 #[J7 ⟨#[]⟩,J7 ⟨#[]⟩,J3 false] AQ (0,0))-> ∀(h:Pr) (b:Bool),WH key l=(h,b)->x=Value.tuple #[.agg #[J7 h.key,J7 h.val,J3 h.gone],J3 b]->
   ∀ {r c1:A2I} {c2:Bool},r=h.key->c1=h.val->c2=h.gone->
   ae g (⟨d.size,0,none⟩:Q6) (J7 r) λO=>ae O ((⟨d.size,0,none⟩:Q6).add 1) (J7 c1) λQ=>ae Q ((⟨d.size,0,none⟩:Q6).add 2) (J3 c2) λj=>
    AJ j (⟨d.size,0,none⟩:Q6) λaj=>AJ j ((⟨d.size,0,none⟩:Q6).add 1) λal=>AZ j ((⟨d.size,0,none⟩:Q6).add 2) λam=>E (J1 #[.agg #[J7 aj,J7 al,J3 am],J3 b]) j:=by
  intro g x u an h b ap aS r c1 c2 aq ar au;subst aq ar au;refine ae.mk an (by simp) λO av aw aU=>?_
  rw[Bq,Bq];refine ae.mk av (by simp) λQ ax ay aV=>?_
  refine ae.mk ax (by simp) λj F az aW=>?_
  refine AJ.mk (AL F rfl) (AJ.mk (AL F rfl) (AZ.mk (AL F rfl) ?_));have k:Ext d j:=⟨by have:=u.size;omega,λc aA _=>(az.get c (by have:=u.size;omega) (by omega)).trans ((ay.get c (by have:=u.size;omega) (by omega)).trans ((aw.get c (by have:=u.size;omega) (by omega)).trans (u.get c aA (λd=>d))))⟩;have:=ah j k;rw[ap] at this;exact this
 refine ai.mk λK aC=>?_
 refine af.no rfl (aE ?_);obtain⟨aX,aD,G,aY,aF,_,_⟩:=(T.ext w).at_;refine AJ.mk (AB G rfl) ?_;refine zS ag ⟨_,rfl,?_⟩;rw[EF];refine aC _ _ ?_;refine af.intro (λn=>?_) (λn=>?_)
 ·have n:ij f key=false:=by simpa using n
  have H:Ab key l=none:=AFM λp v y=>by
   have:=q.has p v;rw[y,n] at this;cases this
  exact tail L _ w N M.VA false (by unfold WH;rw[H]) rfl rfl rfl rfl
 ·refine aE (Ad.mk (s:=aD) (AB G rfl) ?_);refine AHa (T.ext w) q λaZ a hB z=>⟨_,rfl,AB (Ap z G) rfl,?_⟩
  have aG:((Kv l).map λb=>AX (BN b))[a]? =some (AX (BN (CU l a))):=by simp[Kv,hB.lt]
  refine(aF.ext z).idx aG λa0 a1 aH=>?_
  rw[AF];refine AJ.mk aH.str ?_;have aI: ∀p∈CU l a,Lr p:=λp v=>q.ok p (QI v)
  have a2:=RN q.ok hB.lt;refine sN aI (by omega) λps aJ R S a3=>⟨_,_,rfl,?_⟩
  have a4:ps.len=(CU l a).length:=R.len;have a5:=RG hB.lt;have U:=(w.trans z).trans S;have V:=Ap S (Ap z N);refine Loop.rule (λm x aK=> ∃e:Nat,x=((e:Int),())/\m=(CU l a).length-e/\e<=(CU l a).length/\(∀ i p,i<e->(CU l a)[i]? =some p->p.key≠key)/\Ext aJ aK) ?_ ⟨0,rfl,rfl,by omega,λi p D=>by omega,Mod.refl⟩;rintro a6 m _ aM ⟨e,rfl,rfl,a7,W,o⟩ aN;dsimp only;refine af.intro (λn=>?_) (λn=>?_)
  ·have A:e<(CU l a).length:=by grind
   have k:(CU l a)[e]? =some (CU l a)[e]:=A2 A;have X:(CU l a)[e]∈l:=QI (AS A);generalize (CU l a)[e]=p at k X;refine(R.ext o).view.idx k λa8 a9 aO=>?_
   obtain⟨r,c1,c2⟩:=aO.pair;rw[AF];refine AJ.mk r (AJ.mk c1 (AZ.mk c2 ?_));refine ao.pair λba aP bb B I bc=>?_
   refine AJ.mk (AL B rfl) ?_;refine af.intro (λC=>?_) (λC=>?_)
   ·rw[CZ,decide_eq_true_iff] at C;refine AJ.mk (AL B rfl) (AJ.mk (AB B rfl) (AZ.mk (AB B rfl) ?_));have Y:=ARH q.inc X;rw[C] at Y;exact tail aP _ ((U.trans o).trans I) (Ap I (Ap o V)) p true (by unfold WH;rw[Y]) rfl rfl rfl rfl
   ·rw[CZ,decide_eq_false_iff_not] at C;rw[Aa (by omega)];refine aN ((CU l a).length-(e+1)) _ _ (by omega) ⟨e+1,rfl,rfl,A,λi h D aQ=>?_,o.trans I⟩;by_cases bd:i=e
    ·grind
    ·exact W i h (by omega) aQ
  ·have A:e=(CU l a).length:=by grind
   have H:Ab key l=none:=AFM λp v y=>by
    obtain⟨x,k⟩:=DB v;obtain⟨L,be⟩:=hB.there x p k y;have Z:(CU l a)[x-8*a]? =some p:=by rw[Qk (by omega),show 8*a+(x-8*a)=x by omega];exact k
    have:=(List.getElem?_eq_some_iff.1 Z).1;exact W (x-8*a) p (by omega) Z y
   exact tail aM _ (U.trans o) (Ap o V) M.VA false (by unfold WH;rw[H]) rfl rfl rfl rfl
theorem AQR {key:A2I}{l:List Pr}(a:Sorted l){x:Nat}{p:Pr}(b:l[x]? =some p):x<aP key l↔aR p.key key=true:=M.pS a b
theorem AMu {A:ak}{y:aa}{b c t lo hi:Nat}{aX ap:Q7}{l:List Pr}{f:List UInt8}{key:A2I}(r:y[b]? =some (J2 #[Ak t] aX (0,0)))(aY:y[c]? =some (J2 #[J7 key] ap (0,0)))
  (T:bW y t l f lo hi) (bq:hi<=y.size) (z:ik (aL (aT l f)) l f):
  EY A P (.func (.func JI) #[] #[Ak b,Ak c]) (λe=>(lo<=e/\e<hi)\/e=b\/e=c) y (l.drop (aP key l)):=by
 refine⟨?_,_,_,rfl,λaZ=>by kernel_rfl,λh W aZ aq k br hd hB a0 a1=>?_⟩
 ·grind
 rw[M.tC];refine Te ?_;unfold NH;have H:=(W b (.inr (.inl rfl))).trans r;have ar:=(W c (.inr (.inr rfl))).trans aY;have au:bW h t l f lo hi:=by
  obtain⟨av,o,u,I,X,Y,aw⟩:=T.at_;have ax: ∀ {s:Sl} {ay:List A2I},View IR y s ay->(∀ e,s.ag=some e->lo<=e/\e<hi)->View IR h s ay:=λv bs=>⟨v.len,v.cap,λi x hi=>by
   obtain⟨a,a2,a3⟩:=v.cells i x hi;refine⟨a,a2,λj v az=>?_⟩;rw[<- a3 j v az]
   grind [Qy,aU,Sl.ag]⟩
  exact⟨⟨av,o,(W t (.inl T.fP)).trans u,ax I Y,ax X aw,Y,aw⟩,T.fP⟩
 have a4: ∀e,lo<=e->e<hi-> ¬k e:=λe u I=>hd e (.inl ⟨u,I⟩)
 obtain⟨av,o,aA,bt,aC,bu,a5⟩:=au.at_;refine aE (AY.mk (AL H rfl) (af.no rfl (aE (AY.mk (AL H rfl) (aE (Ad.mk (s:=o) (AB aA rfl) (aE (AY.mk (AL H rfl) (aE (AJ.mk (AL ar rfl) ?_))))))))));refine AHa au z λu d aD J=>⟨_,rfl,AB (Ap J aA) rfl,AL (Ap J H) rfl,?_⟩
 have aF:o.len=CG l:=by rw[aC.len];simp[JK]
 have bv:=aD.lt;refine⟨by rw[aF];omega,?_⟩;rw[AF,aF];have bw:=M.nN key l;have bx:=z.many;have bz:CG l<=12501:=by unfold CG;omega
 have bA:8*d<=aP key l:=by
  apply RT;intro L;have a6:aP key l<l.length:=by grind [CG]
  obtain⟨aG,B⟩: ∃aG,l[aP key l]? =some aG:=⟨_,A2 a6⟩;have u:=aD.below _ _ L B;have I:=(AQR z.inc B).2 u;omega
 have Z:(l.drop (aP key l)).length=l.length-aP key l:=by simp
 have a7:=hB.br _ _ _ _ _ a1 (J.aj (S':=λb=>¬k b/\h.size<=b) λ_ _ h=>h.elim);have a8:View IR h ⟨BI o.p o.cap d 1,CG l-d,o.cap-d⟩ (((Kv l).map λb=>AX (BN b)).drop d):=by have:=aC.sub (lo:=d) (hi:=CG l) (by omega) (by simp[JK]);rw[AE (by simp[JK])] at this;exact this
 have a9: ∀e,Sl.ag ⟨BI o.p o.cap d 1,CG l-d,o.cap-d⟩=some e-> ¬k e:=λe n=>by
  have:=a5 e (re n);exact a4 e this.1 this.2
 refine Loop.rule (λm x ab=> ∃(i:Nat) (C:Nat->Prop),x=((i:Int),())/\m=CG l-d-i/\i<=CG l-d/\Mod k h ab/\(∀ b,C b->k b\/h.size<=b)/\aq (min (8*(d+i)) l.length-aP key l) true C ab) ?_
  ⟨0,k,rfl,rfl,by omega,J.mod,λb r=> .inl r,by
   have:min (8*(d+0)) l.length-aP key l=0:=by omega
   rw[this];exact a7⟩
 rintro K m _ ab ⟨i,C,rfl,rfl,hi,N,aH,E⟩ ba;dsimp only;refine af.intro (λF=>?_) (λF=>?_)
 ·have aI:i<CG l-d:=by simp at F;omega
  have O:d+i<CG l:=by omega
  have bB:8*(d+i)<l.length:=by unfold CG at O;omega
  have bb:(((Kv l).map λb=>AX (BN b)).drop d)[i]? =some (AX (BN (CU l (d+i)))):=by rw[C5];simp[Kv,O]
  refine(a8.mod N a9).idx bb λbC bD bc=>?_
  rw[AF];refine AJ.mk bc.str ?_;have bd: ∀p∈CU l (d+i),Lr p:=λp be=>z.ok p (QI be)
  have bE:=RN z.ok O;have bF:=RG O;refine sN bd (by omega) λps X ac aJ bG=>⟨_,_,rfl,?_⟩
  have bH:ps.len=(CU l (d+i)).length:=ac.len;have bf:min (8*(d+i)) l.length=8*(d+i):=by omega
  rw[bf] at E;have bI:=N.size;have bJ:=hB.wf _ _ _ _ E;have bg:=hB.br _ _ _ _ _ E (aJ.aj (S':=λb=>¬C b/\h.size<=b) λ_ _ h=>h.elim);have bh:Mod k h X:=N.trans aJ.mod;refine Loop.rule (λm x Q=> ∃(j:Nat) (q:Nat->Prop),x=((j:Int),())/\m=(CU l (d+i)).length-j/\j<=(CU l (d+i)).length/\Mod k h Q/\(∀ b,q b->k b\/h.size<=b)/\(∀ e,ps.ag=some e-> ¬q e/\e<Q.size)/\View BO Q ps (CU l (d+i))/\aq (8*(d+i)+j-aP key l) true q Q) ?_
   ⟨0,C,rfl,rfl,by omega,bh,aH,λe n=>⟨λh=>by grind,ac.lt n⟩,ac.view,bg⟩
  rintro bK m _ Y ⟨j,q,rfl,rfl,az,ae,R,D,ag,aK⟩ aM;dsimp only;refine af.intro (λF=>?_) (λF=>?_)
  ·have G:j<(CU l (d+i)).length:=by grind
   have B:(CU l (d+i))[j]? =some (CU l (d+i))[j]:=A2 G;have S:l[8*(d+i)+j]? =some (CU l (d+i))[j]:=by rw[<- Qk (by omega)];exact B
   generalize (CU l (d+i))[j]=p at B S;refine ag.idx B λbL bM bi=>?_
   obtain⟨bj,c1,c2⟩:=bi.pair;rw[AF];refine AJ.mk bj (AJ.mk c1 (AZ.mk c2 ?_));refine ao.pair λbN aj bO U w bP=>?_
   have V:Mod k h aj:=ae.trans w.mod;have bQ:=ae.size;have aN:=hB.br _ _ _ _ _ aK (w.aj (S':=λb=>¬q b/\h.size<=b) λ_ _ h=>h.elim);have bk:aj[c]? =some (J2 #[J7 key] ap (0,0)):=V.ag ar (hd c (.inr (.inr rfl)));refine ai.mk λbR aO=>?_
   refine AJ.mk (AL U rfl) (aE (AJ.mk (AL bk rfl) ?_));have bS:=(List.getElem?_eq_some_iff.1 S).1;have bm:=AQR (key:=key) z.inc S;refine af.intro (λL=>?_) (λL=>?_)
   ·have bn:aP key l<=8*(d+i)+j:=by grind
    refine AJ.mk (AL U rfl) (AJ.mk (AB U rfl) (AZ.mk (AB U rfl) ?_));have ah:(l.drop (aP key l))[8*(d+i)+j-aP key l]? =some p:=by rw[C5,show aP key l+(8*(d+i)+j-aP key l)=8*(d+i)+j by omega];exact S
    refine F4.mono (a0 _ p q aj ah aN) ?_;rintro _ bo ⟨g,al,rfl,aQ,am,aS⟩;have bT:=V.size;have aV: ∀b,al b->k b\/h.size<=b:=λb r=>(aQ b r).elim (R b) λu=> .inr (by omega)
    have aW:Mod k h bo:=V.then (am.aj λb _ r=>R b r);refine⟨g,rfl,aO _ _ ?_⟩;dsimp only;cases g with
    |false=>exact af.yes rfl ⟨rfl,_,false,al,aW,aV,aS,(λh=>by cases h),by rw[Z];omega⟩
    |true=>
     refine af.no rfl ?_;rw[Aa (by omega)];refine aM ((CU l (d+i)).length-(j+1)) _ _ (by omega) ⟨j+1,al,rfl,rfl,G,aW,aV,λe n=>⟨λh=>?_,by have:=D e n;have:=w.size;have:=am.size;omega⟩,?_,?_⟩
     ·rcases aQ e h with h|h
      ·exact(D e n).1 h
      ·have:=(D e n).2;have:=w.size;omega
     ·exact(ag.ext w).mod am λe n=>(D e n).1
     ·rw[show 8*(d+i)+(j+1)-aP key l=8*(d+i)+j-aP key l+1 by omega];exact aS
   ·have bp:aR p.key key=true:=by simpa using L
    have bn:=bm.2 bp;refine aO _ _ (af.no rfl ?_);rw[Aa (by omega)];refine aM ((CU l (d+i)).length-(j+1)) _ _ (by omega) ⟨j+1,q,rfl,rfl,G,V,R,λe n=>⟨(D e n).1,by have:=(D e n).2;have:=w.size;omega⟩,ag.ext w,?_⟩;rw[show 8*(d+i)+(j+1)-aP key l=8*(d+i)+j-aP key l by omega];exact aN
  ·have G:j=(CU l (d+i)).length:=by grind
   rw[Aa (by omega)];refine ba (CG l-d-(i+1)) _ _ (by omega) ⟨i+1,q,rfl,rfl,by omega,ae,R,?_⟩;have an:min (8*(d+(i+1))) l.length=8*(d+i)+j:=by rw[G];unfold CU;rw[An,CI];omega
   rw[an];exact aK
 ·have aI:i=CG l-d:=by simp at F;omega
  have an:min (8*(d+i)) l.length=l.length:=by rw[aI,show d+(CG l-d)=CG l by omega];unfold CG;omega
  rw[an] at E;exact⟨rfl,l.length-aP key l,true,C,N,aH,E,λ_=>Z.symm,by rw[Z];omega⟩
theorem AIK {A:ak}{a:aa}{t h e:Nat}{l:List Pr}{f:List UInt8}{key:A2I}{i:A2H}(T:bW a t l f h e)(s:e<=a.size)(m:ik (aL (aT l f)) l f)
  (n: ∀fv b,EY A P fv (λd=>(h<=d/\d<e)\/d=a.size\/d=a.size+1) b (l.drop (aP key l))->Ext a b->b.size=a.size+2->i fv b):AA A P II #[Ak t,J7 key] a i:=by
 refine WG ?_;unfold PT;refine ao.mk λu _ o p v=>ao.mk λj _ q k w=>?_
 have g:Ext a j:=p.trans k;have r:=AMu (A:=A) (Ap k o) q (T.ext g) (by have:=g.size;omega) m (key:=key);refine n _ j (r.aj ?_ ?_ (λc _=>rfl)) g (by omega)
 ·omega
 omega
end Go.Lf.G
