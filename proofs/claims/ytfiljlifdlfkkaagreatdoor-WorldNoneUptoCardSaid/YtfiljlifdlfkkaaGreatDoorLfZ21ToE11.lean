/-
 Contracts: a store of conditions over a calm box (chapter 10).
-/
import Derived.Test.YtfiljlifdlfkkaaGreatDoorLfC2ToZ20
import Derived.Test.YtfiljlifdlfkkaaGreatDoorLfZ2ToC1
import Derived.Test.YtfiljlifdlfkkaaGreatDoorLfKToGA
import Derived.Test.YtfiljlifdlfkkaaGreatDoorLfU2ToX2
set_option maxRecDepth 100000
set_option linter.unusedVariables false
set_option linter.unusedSimpArgs false
open Go.IntKind renaming i64→J9,wrap→J8
open Go.Value renaming string→J7,int→J6,pointer→J5,slice→J4,bool→J3,tuple→J1
open Go.Obj renaming cells→J2
open Go renaming Value→J0,Addr→Q6,TypeId→Q7,FuncId→Q8,Program→Q1
open Go.Addr renaming add→Q9,mk→Q5
namespace Go.Lf.G
open Go
open M (Sorted Ab Bw BJ Af Ak BN Ah ba BB aH Az)
structure GU (B:cX) (g h:aa) (s:Nat) (q:Hp) (k:Nat->Nat) (st:Db) (m:Bx) (D:Yw) (bD c n:Nat):Prop where
 db:Dc B g h q k st m D bD c
 cell:h[s]? =some (J2 #[Ap q.d,J6 J9 (n:Int)] y6 (0,0))
 kz:k s=0
 base:g.size<=s
 fuel:m.fuel= -1
 cB:n<=1000000
def de(m a l:List Pr):Int:=if a.length>64 then 2 else if GM l≠0 then GM l else if a.all (Be m) then 0 else 100
theorem AKM {m:List Pr}{c:Pr}:Be m c= !(((JM m c.key).2==c.gone)||((JM m c.key).2&& !bB (JM m c.key).1 c.val)):=by unfold Be;rw[Bl];cases c.gone<;>cases (JM m c.key).2<;>simp
section
variable {A : ao} {B : cX} {g h : aa} {s : Nat} {q : Hp} {k : Nat -> Nat} {st : Db} {m : Bx} {D : Yw} {bD c n : Nat} {R : A2X}
theorem GU.on {b:aa}(a:GU B g h s q k st m D bD c n)(x:Ext h b):GU B g b s q k st m D bD c n:=⟨a.db.on x,Ay x a.cell,a.kz,a.base,a.fuel,a.cB⟩
theorem GU.beside {d:aa}{b:Nat->Prop}(a:GU B g h s q k st m D bD c n)(x:Mod b h d)(hX: ∀c,b c->k c=0/\g.size<=c)(e: ¬b s):GU B g d s q k st m D bD c n:=⟨a.db.beside x hX,x.ag a.cell e,a.kz,a.base,a.fuel,a.cB⟩
theorem GU.put {d b:Nat}(a:GU B g h s q k st m D bD c n)(e:bD<=d)(f:c<=b)(i:b<=B.C):GU B g h s q k st m D d b n:=⟨a.db.put e f i,a.cell,a.kz,a.base,a.fuel,a.cB⟩
theorem GU.lt(a:GU B g h s q k st m D bD c n):s<h.size:=Ai a.cell
theorem GU.step {b:aa}{d:Hp}{k':Nat->Nat}{f:Db}{e:Bx}{i:Yw}{j l:Nat}(a:GU B g h s q k st m D bD c n)(p:Dc B g b d k' f e i j l)(hd:d.d=q.d)(r:e.fuel= -1)(t:Mod (λc=>k c≠0) h b)(u: ∀c,k' c≠0->k c≠0\/h.size<=c):GU B g b s d k' f e i j l n:=by
 refine⟨p,by rw[hd];exact t.ag a.cell (by rw[a.kz];simp),Decidable.byContradiction λv=>?_,a.base,r,a.cB⟩;have:=a.lt;rcases u s v with o|o
 ·exact o a.kz
 ·omega
theorem sX {key:A2Y}(b:GU B g h s q k st m D bD c n)(d:key.size<=1099511627776)(e: ∀a,Ext h a->R (J1 #[J7 (JM (Dy st) key).1,J3 (JM (Dy st) key).2,J6 J9 0]) a):AA A P Fh #[Ap s,J7 key] h R:=by refine AA5 ?_;unfold UV;refine ab.no rfl (aA (AY.mk (AO b.cell rfl) ?_));obtain⟨i,f,j,l⟩:=b.db.gy;exact ARo b.db.mem f d λa x=>⟨_,_,_,rfl,e a x⟩
theorem ARI {p:A2Y}(Q:p.size<=1099511627776)(t: ∀u,Ext h u->R (J7 (Rf p)) u):AA A P WO #[J7 p] h R:=by
 refine AIu ?_;unfold xC;have y:J8 J9 ((p.size:Int)-(1:Int))=(p.size:Int)-1:=wrap_i64 (by omega) (by omega);rw[y];have S:p.data.toList.length=p.size:=by rw[Ds];rfl
 refine Loop.rule (λv x f=> ∃b:Nat,x=((b:Int)-1,())/\v=b/\f=h/\b<=p.size/\ ∀x∈p.data.toList.drop b,¬x<255) ?_ ⟨p.size,rfl,rfl,rfl,A0 _,λx e=>by rw[HD (by omega)] at e;cases e⟩;rintro K v _ f ⟨b,rfl,T,rfl,U,o⟩ z;dsimp only;refine ab.intro (λr=>?_) (λr=>?_)
 ·have V:1<=b:=by have:=of_decide_eq_true r;omega
  obtain⟨i,rfl⟩: ∃i,b=i+1:=⟨b-1,by omega⟩;have C:((i+1:Nat):Int)-1=(i:Int):=by omega
  rw[C];refine⟨by omega,?_⟩;have af:p.data.toList[i]? =some (p.data.toList[i]'(by omega)):=A2 _;generalize F:p.data.toList[i]'(by omega)=a at*
  have G:dC p (i:Int)=(a.toNat:Int):=by
   unfold dC;have:p[i]? =some a:=by rw[show p[i]? =p.data[i]? from rfl,<-RR];exact af
   rw[show((i:Int).toNat)=i from rfl,this];rfl
  rw[G];have H:p.data.toList.drop i=a::p.data.toList.drop (i+1):=by rw[FA (by omega),F]
  refine ab.intro (λd=>?_) (λd=>?_)
  ·have d:a<255:=by rw[UInt8.lt_iff_toNat_lt];have:=of_decide_eq_true d;show a.toNat<255;omega
   have W:a.toNat<255:=UInt8.lt_iff_toNat_lt.1 d;refine⟨by omega,⟨by omega,?_⟩⟩;have I:J8 .u8 ((a.toNat:Int)+(1:Int))=((a+1).toNat:Int):=by
    rw[show(a.toNat:Int)+1=((a.toNat+1:Nat):Int) from by omega,wrap_u8];have j:(a+1).toNat=a.toNat+1:=by rw[UInt8.toNat_add];show(a.toNat+1) % 256=_;omega
    rw[j];omega
   rw[I];refine ai.mk λw _ J L X=>?_
   have v2:View Ik w ⟨some ⟨f.size,0,none⟩,1,1⟩ [a+1]:=(Own.lit (E:=Ik) (l:= [a+1]) J rfl (by simp[maxLen])).view;refine NC (s:=⟨some ⟨f.size,0,none⟩,1,1⟩) mu mq SB v2 ⟨_,rfl,?_⟩;have M:(Ae [a+1]).size=1:=AP _;have Y:(p.extract 0 i).size<=p.size:=by rw[ByteArray.size_extract];omega
   refine⟨by rw[show(i:Int).toNat=i from rfl,M];show(((p.extract 0 i).size+1:Nat):Int)<=9223372036854775807;omega,?_⟩;have:=t w L;have N:Rf p=p.extract 0 i++Ae [a+1]:=by unfold Rf;rw[zA af d o];apply Nd;rw[HK,A0D];apply NO;rw[LO,Array.toList_extract];show p.data.toList.take i++ [a+1]=_++(Ae [a+1]).data.toList;rw[show(Ae [a+1]).data.toList= [a+1] from CE _];simp
   rw[N] at this;exact this
  ·have d: ¬a<255:=λh=>by
    have:=UInt8.lt_iff_toNat_lt.1 h;have j:(255:UInt8).toNat=255:=rfl;have:=of_decide_eq_false d;omega
   rw[show J8 J9 ((i:Int)-(1:Int))=(i:Int)-1 from wrap_i64 (by omega) (by omega)];refine z i _ _ (by omega) ⟨i,rfl,rfl,rfl,by omega,λx e=>?_⟩;rw[H] at e;rcases List.mem_cons.1 e with rfl|e
   ·exact d
   ·exact o x e
 ·have O:b=0:=by have:=of_decide_eq_false r;omega
  subst O;have:=t f Mod.refl;have j:Rf p=⟨#[]⟩:=by unfold Rf;rw[rY (by simpa using o)];rfl
  rw[j] at this;exact this
theorem ARP {p f:A2Y}{e:Int}(b:GU B g h s q k st m D bD c n)(l:p.size<=1099511627776)(o: ∀sl d,Own Bg AU d sl (jb (Dy st) p f e)->(∀ c,sl.ag=some c->h.size<=c)->Ext h d->R (J1 #[J4 sl.p sl.len sl.cap,J6 J9 0]) d):AA A P FE #[Ap s,J7 p,J7 f,J6 J9 e] h R:=by
 refine AAL ?_;unfold SK;refine ab.no rfl (aA (AY.mk (AO b.cell rfl) ?_));refine ARI l λC a=>⟨_,rfl,⟨a.af (AO b.cell rfl),?_⟩⟩
 have i:=b.on a;obtain⟨r,t,u,E⟩:=i.db.gy;have v:(if(!aI p f)=true then p else f)=fZ p f:=by unfold fZ;cases aI p f<;>rfl
 rw[v];refine AT1 i.db.mem r t u λsl w j x y=>⟨sl,_,rfl,?_⟩
 rw[ARS] at j;exact o sl w j (λc z=>by have:=x c z;have:=a.size;omega) (a.trans y)
theorem AQj {conds sl:Sl}{d l:List Pr}(aE:bR g)(r:GU B g h s q k st m D bD c n)(hA:bD+3<=B.A)(aF:c+64<=B.C)(aG:n+1<=1000000)(vc:View Bg h conds d)(v:View Bg h sl l)(aH:l≠ []-> ∀b,sl.ag=some b->b<h.size/\k b=0)(aI: ∀x∈d,x.key.size<=1099511627776)
  (z:de (Dy st) d l≠0-> ∀t,Ext h t->R (J6 J9 (de (Dy st) d l)) t)
  (H:de (Dy st) d l=0-> ∀t I U V aK aL,I.d=q.d->I.b=q.b->GU B g t s I U V aK aL (bD+3) (c+64) (n+1)->Dy V=cu (Dy st) l->Mod (λc=>k c≠0\/h.size<=c\/c=s) h t->(∀ c,U c≠0->k c≠0\/h.size<=c)->R (J6 J9 0) t):
  AA A P GG #[Ap s,J4 conds.p conds.len conds.cap,J4 sl.p sl.len sl.cap] h R:=by
 refine ADG ?_;unfold Vl;refine ab.no rfl ?_;rw[vc.len];refine ab.intro (λf=>?_) (λf=>?_)
 ·have C:d.length>64:=by have:=of_decide_eq_true f;omega
  have j:de (Dy st) d l=2:=by unfold de;rw[if_pos C]
  have:=z (by rw[j];decide) h Mod.refl;rwa [j] at this
 have C: ¬d.length>64:=by have:=of_decide_eq_false f;omega
 refine AJl (s:=sl) v λo W=>⟨_,rfl,?_⟩
 refine ab.intro (λJ=>?_) (λJ=>?_)
 ·have u:GM l≠0:=by simpa using J
  have j:de (Dy st) d l=GM l:=by unfold de;rw[if_neg C,if_pos u]
  have:=z (by rw[j];exact u) o W;rwa [j] at this
 have u:GM l=0:=by simpa using J
 have j:de (Dy st) d l=if d.all (Be (Dy st)) then 0 else 100:=by unfold de;rw[if_neg C,if_neg (by rw[u];simp)]
 rw[j] at z H;refine Loop.rule (λX x p=> ∃i:Nat,x=((i:Int),())/\X=d.length-i/\i<=d.length/\Ext h p/\(d.take i).all (Be (Dy st))=true) ?_ ⟨0,rfl,rfl,A5 _,W,rfl⟩;rintro K X _ p ⟨i,rfl,rfl,hi,w,L⟩ aM;have E:=r.on w;dsimp only;refine ab.intro (λf=>?_) (λf=>?_)
 ·have y:i<d.length:=by have:=of_decide_eq_true f;omega
  have af:d[i]? =some d[i]:=A2 y;have aN:=aI d[i] (BT y);have aO:d[i]∈d:=BT y;have aP:d.take (i+1)=d.take i++ [d[i]]:=by rw[AE,af];rfl
  generalize d[i]=x at*
  rw[<- vc.len];refine(vc.ext w).idx af λa _ M=>?_
  obtain⟨M,aQ,aR⟩:=M.pair;refine AL.mk M (AL.mk aQ (Aa.mk aR (ai.pair λb N aW Y Z aX=>?_)));have O:=E.on Z;refine aA (AY.mk (AO O.cell rfl) (AL.mk (AO Y rfl) ?_));obtain⟨aY,aS,aZ,a0⟩:=O.db.gy;refine ARo O.db.mem aS aN λQ aa=>⟨_,_,_,rfl,ab.no rfl ?_⟩
  have ac:=Ay aa Y;have ag:=(w.trans Z).trans aa;refine ah.mk λaj ak=>?_
  have p:=AKM (m:=Dy st) (c:=x);have al:Be (Dy st) x=false->aj (true,()) Q:=λS=>ak _ _ (ab.yes rfl (by
   have T: ¬d.all (Be (Dy st))=true:=λh=>by
    have:=List.all_eq_true.1 h x aO;rw[S] at this;cases this
   rw[if_neg T] at z;exact z (by decide) Q ag))
  have aJ:Be (Dy st) x=true->aj (false,()) Q:=λS=>ak _ _ (ab.no rfl (by
   rw[Ac (by omega)];refine aM (d.length-(i+1)) _ _ (by omega) ⟨i+1,rfl,rfl,y,ag,?_⟩;rw[aP,List.all_append,L];simp[S]))
  refine Aa.mk (AB ac rfl) (ab.intro (λo=>?_) (λo=>?_))
  ·exact al (by rw[p,o];rfl)
  ·refine ab.intro (λF=>?_) (λF=>?_)
   ·refine AL.mk (AB ac rfl) ?_;cases N:bB (JM (Dy st) x.key).1 x.val with
    |true=>exact aJ (by rw[p,o,F,N];rfl)
    |false=>exact al (by rw[p,o,F,N];rfl)
   ·exact aJ (by rw[p,o,F];rfl)
 ·have y:i=d.length:=by have:=of_decide_eq_false f;omega
  subst y;rw[CH] at L;rw[if_pos L] at H;have a1:=w.size;refine aA (AY.mk (AO E.cell rfl) ?_);refine ALn (B:=B) (s:=sl) aE E.db r.fuel hA (v.ext w) (λT b am=>by have:=aH T b am;exact⟨by omega,this.2⟩) aF λa2 an ao ap aq ar au aT av aw ax a3 ay az=>⟨_,rfl,?_⟩
  rw[if_pos u] at ax;have G:=E.step av au aw ay az;rw[u];refine ab.no rfl (aA (AC.mk (AB G.cell rfl) (aA ?_)));rw[Ac (by have:=r.cB;omega)];simp only[Bp,AF];refine ae.mk G.cell (by simp) λaC aU aD a4=>?_
  have aV:GU B g aC s an ao ap aq ar (bD+3) (c+64) (n+1):=⟨av.beside aD (λc e=>by subst e;exact⟨G.kz,r.base⟩),by simpa using aU,G.kz,r.base,aw,aG⟩;have am:=r.base;refine H rfl aC an ao ap aq ar au aT aV ax (((w.ak λc _ e=>e.elim).trans (ay.ak λc _ e=> .inl e)).trans (aD.ak λc _ e=> .inr (.inr e))) λc e=>?_
  rcases az c e with h|h
  ·exact .inl h
  ·exact .inr (by omega)
end
section
variable {A : ao} {B : cX} {g h : aa} {m : Bx} {D : Yw} {bD c : Nat} {R : A2X}
theorem APm {b:Nat}{Sb:Nat->Prop}(n:bR g)(o:Dw h b Sb m)(p:Ext g h)(q: ∀c,Sb c->g.size<=c)(r:Calm m)(t:m.files= [])
  (u: ∀a s f i j v w,f.b=b->GU B g a s f i j v w 1 0 0->Dy j= []->Mod (λc=>Sb c\/h.size<=c) h a->(∀ c,i c≠0->Sb c\/h.size<=c)->h.size<=s->R (J1 #[Ap s,J6 J9 0]) a):AA A P UH #[Ap b] h R:=by
 refine AKr ?_;unfold wF;refine ARb (B:=B) n o p q r t λx y z C E F G d H I _ k J=>⟨_,_,rfl,ab.no rfl (ai.mk λK _ L l N=>?_)⟩
 have M:=d.mem.ext.size;exact u K x.size y z C E F G ⟨d.on l,L,d.free (A0 _),M,H,A5 _⟩ I ((k.ak λc _ e=> .inl e).trans (l.ak λc _ e=>e.elim)) J k.size
end
structure AXN where
 kind:Int
 cs:Sl
 bs:Sl
 key:A2Y
 bV:A2Y
 most:Int
 all:Bool
structure AXY (N:Nat) (h:aa) (x:AXN) (cl l:List Pr):Prop where
 cs:View Bg h x.cs cl
 bs:View Bg h x.bs l
 keys: ∀c∈cl,c.key.size<=N
 key:x.key.size<=N
section
variable {A : ao} {h : aa} {R : A2X}
end
theorem mD:P.underlying F5=some (.map BM BM):=by kernel_rfl
theorem mE:P.underlying FC=some (.map BM lL):=by kernel_rfl
theorem hG:P.underlying BM=some (.int J9):=by kernel_rfl
theorem pd:(zeroValue BM).calc P=some (J6 J9 0):=by kernel_rfl
theorem pg:(zeroValue lL).calc P=some (.int .u64 0):=by kernel_rfl
def du(f:Nat->Nat)(a b:Nat):Nat->Nat:=λm=>if m=a then b else f m
structure EF (g h:aa) (k:Nat->Nat) (s p bh bu:Nat) (name:A2Y) (aC:Nat) (f u:Nat->Nat) (N:Nat):Prop where
 cell:h[p]? =some (J2 #[Ap s,J7 name,J6 J9 (aC:Int),.map (some bh),.map (some bu)] Te (0,0))
 held: ∃hm,Uu J9 h bh hm/\hm.length<=N/\ ∀n:Nat,(Ml n hm).getD (J6 J9 0)=J6 J9 (f n:Int)
 used: ∃um,Uu J9 h bu um/\um.length<=N/\ ∀n:Nat,(Ml n um).getD (.int .u64 0)= .int .u64 (u n:Int)
 bA: ∀c,c=p\/c=bh\/c=bu->k c=0/\g.size<=c/\c≠s
 ne:bh≠bu
 named:Am name=true
 sh:1<=aC/\aC<=16
 cB:N<=1000000
def G7(d:List Pr)(e a:Nat)(b:A2Y):Prop:=(a=0/\b=⟨#[]⟩/\(JM d (CS e)).2=false)\/(1<=a/\a<=2147483647/\Am b=true/\JM d (CS e)=(LZ a b,true))
section
variable {A : ao} {B : cX} {g h : aa} {s p bh bu : Nat} {q : Hp} {k : Nat -> Nat} {st : Db} {m : Bx} {D : Yw} {bD c nn N : Nat} {name : A2Y} {aC : Nat} {f u : Nat -> Nat} {R : A2X}
theorem EF.lt(a:EF g h k s p bh bu name aC f u N): ∀c,c=p\/c=bh\/c=bu->c<h.size:=by
 obtain⟨e,b,_⟩:=a.held;obtain⟨i,d,_⟩:=a.used;rintro c (rfl|rfl|rfl)
 ·exact Ai a.cell
 ·exact b.lt
 ·exact d.lt
theorem EF.mR(a:EF g h k s p bh bu name aC f u N):p≠bh/\p≠bu:=by
 obtain⟨i,⟨_,_,b,_⟩,_⟩:=a.held;obtain⟨j,⟨_,_,d,_⟩,_⟩:=a.used;have e:=a.cell;constructor
 ·rintro rfl;rw[e] at b;cases b
 ·rintro rfl;rw[e] at d;cases d
theorem EF.beside {d:aa}{e:Nat->Nat}{i:Nat->Prop}(a:EF g h k s p bh bu name aC f u N)(b:Mod i h d)(hX: ∀c,c=p\/c=bh\/c=bu-> ¬i c)(l: ∀c,c=p\/c=bh\/c=bu->e c=0):EF g d e s p bh bu name aC f u N:=by obtain⟨n,o,r,t⟩:=a.held;obtain⟨v,w,x,y⟩:=a.used;exact⟨b.ag a.cell (hX p (.inl rfl)),⟨n,o.mod b (hX bh (.inr (.inl rfl))),r,t⟩,⟨v,w.mod b (hX bu (.inr (.inr rfl))),x,y⟩,λc j=>⟨l c j,(a.bA c j).2⟩,a.ne,a.named,a.sh,a.cB⟩
theorem EF.on {a:aa}(b:EF g h k s p bh bu name aC f u N)(x:Ext h a):EF g a k s p bh bu name aC f u N:=b.beside x (λ_ _ h=>h) λc d=>(b.bA c d).1
theorem EF.more {b:Nat}(a:EF g h k s p bh bu name aC f u N)(r:N<=b)(d:b<=1000000):EF g h k s p bh bu name aC f u b:=by obtain⟨e,i,t,j⟩:=a.held;obtain⟨l,n,v,o⟩:=a.used;exact⟨a.cell,⟨e,i,by omega,j⟩,⟨l,n,by omega,o⟩,a.bA,a.ne,a.named,a.sh,d⟩
theorem EF.step {e:aa}{k':Nat->Nat}{i:Nat->Prop}(b:EF g h k s p bh bu name aC f u N)(j:Mod i h e)(l: ∀c,i c->k c≠0\/h.size<=c\/c=s\/ ¬(c=p\/c=bh\/c=bu))(n: ∀c,k' c≠0->k c≠0\/h.size<=c):EF g e k' s p bh bu name aC f u N:=by
 refine b.beside j (λc a o=>?_) λc a=>Decidable.byContradiction λr=>?_
 ·have d:=b.bA c a;have t:=b.lt c a;rcases l c o with h|h|h|h
  ·exact h d.1
  ·omega
  ·exact d.2.2 h
  ·exact h a
 ·have d:=b.bA c a;have t:=b.lt c a;rcases n c r with h|h
  ·exact h d.1
  ·omega
theorem AUP {s:Nat}(b:GU B g h s q k st m D bD c nn)(j:Am name=true)(o:1<=aC/\aC<=16)
  (r: ∀a p bh bu,EF g a k s p bh bu name aC (λ_=>0) (λ_=>0) 0->(∀ c,c=p\/c=bh\/c=bu->h.size<=c/\c<a.size)->Ext h a->R (J1 #[Ap p,J6 J9 0]) a):AA A P RA #[Ap s,J7 name,J6 J9 (aC:Int)] h R:=by
 refine AIS ?_;unfold wB;refine ah.mk λK t=>ab.no rfl (Fa ⟨_,rfl,ab.no (by rw[j];rfl) (ab.no (decide_eq_false (by omega)) (t _ _ (ab.no (decide_eq_false (by omega)) ?_)))⟩)
 refine ai.mk λl _ v w H=>ai.mk λx _ y n I=>ai.mk λd _ z e J=>?_
 have C:=(w.trans n).trans e;have L:=b.db.mem.ext.size;have M:=b.lt;have E:d[h.size]? =some (.map #[] 0):=e.ag (n.ag v (λh=>h)) (λh=>h);have F:d[l.size]? =some (.map #[] 0):=e.ag y (λh=>h);refine r d x.size h.size l.size ⟨z,⟨[],Uu.empty E,A0 _,λG=>rfl⟩,⟨[],Uu.empty F,A0 _,λG=>rfl⟩,λc i=>?_,by omega,j,o,by omega⟩ (λc i=>?_) C
 ·have:h.size<=c:=by rcases i with rfl|rfl|rfl<;>omega
  exact⟨b.db.free this,by omega,by omega⟩
 ·rcases i with rfl|rfl|rfl<;>omega
theorem sY {a:Nat}(b:EF g h k s p bh bu name aC f u N)(d:R (J6 J9 (f a:Int)) h):AA A P Bc #[Ap p,J6 J9 (a:Int)] h R:=by obtain⟨j,e,l,i⟩:=b.held;refine XR ?_;unfold Ps;exact ab.no rfl (aA (Ex.mk (AB b.cell rfl) (NH mD hG pd e ⟨_,i a,d⟩)))
theorem AST {b:List (Int×J0)}{a d:Nat}(h: ∀m:Nat,(Ml m b).getD (J6 J9 0)=J6 J9 (f m:Int))(m:Nat):(Ml m (VB a (J6 J9 (d:Int)) b)).getD (J6 J9 0)=J6 J9 (du f a d m:Int):=by
 rw[rZ];unfold du;by_cases e:m=a
 ·subst e;rw[if_pos rfl,if_pos rfl];rfl
 ·rw[if_neg (by omega),if_neg e];exact h m
theorem ALG {b:List (Int×J0)}{a r:Nat}(h: ∀m:Nat,(Ml m b).getD (.int .u64 0)= .int .u64 (f m:Int))(m:Nat):(Ml m (VB a (.int .u64 (r:Int)) b)).getD (.int .u64 0)= .int .u64 (du f a r m:Int):=by
 rw[rZ];unfold du;by_cases d:m=a
 ·subst d;rw[if_pos rfl,if_pos rfl];rfl
 ·rw[if_neg (by omega),if_neg d];exact h m
theorem EF.strike {d:Nat}{j:Q7}{K:A2X}(a:EF g h k s p bh bu name aC f u N)(l: ∀b,EF g b k s p bh bu name aC (du f d 0) u N->Mod (λc=>c=bh) h b->K (J1 #[]) b):Ad A P (Builtin.delete_ #[F5,BM] j #[.map (some bh),J6 J9 (d:Int)]) h K:=by
 obtain⟨z,n,o,r⟩:=a.held;obtain⟨t,v,w,x⟩:=a.used;refine AMV mD hG n λb y e C=>l b ⟨e.ag a.cell a.mR.1,⟨_,y,AK ASa o,λm=>?_⟩,⟨t,v.mod e a.ne.symm,w,x⟩,a.bA,a.ne,a.named,a.sh,a.cB⟩ e
 rw[zB];unfold du;by_cases i:m=d
 ·subst i;rw[if_pos rfl,if_pos rfl];rfl
 ·rw[if_neg (by omega),if_neg i];exact r m
theorem AKt {b j:Nat}{l:A2Y}(w:GU B g h s q k st m D bD c nn)(a:EF g h k s p bh bu name aC f u N)(F:b<aC)(x:G7 (Dy st) b j l)(n: ∀o,Ext h o->R (J1 #[J6 J9 (j:Int),J7 l,J6 J9 0]) o):AA A P Gp #[Ap p,J6 J9 (b:Int)] h R:=by
 have G:=a.sh;refine YY ?_;unfold Qn;refine ah.mk λK y=>ab.no rfl (ab.no (decide_eq_false (by omega)) (aA (AC.mk (AB a.cell rfl) (y _ _ (ab.no (decide_eq_false (by omega)) ?_)))))
 refine aA (AY.mk (AO a.cell rfl) (U0 (by omega) λr d=>⟨_,rfl,⟨AO (Ay d a.cell) rfl,?_⟩⟩));refine sX (w.on d) (by rw[LQ];omega) λt z=>⟨_,_,_,rfl,?_⟩
 have v:=d.trans z;refine ah.mk λH C=>ab.no rfl (C _ _ ?_)
 rcases x with⟨rfl,rfl,e⟩|⟨r,t,i,e⟩
 ·rw[e];exact ab.yes rfl (n _ v)
 ·rw[e];exact ab.no rfl (APw r t i λi E=>⟨_,_,_,rfl,n i (v.trans E)⟩)
theorem AWC {k v:A2Y}(a:k≠⟨#[]⟩)(d:k.size<=64)(e:v.size<=8192):GM [⟨k,v,false⟩]=0:=by
 have b:Ah ⟨k,v,false⟩=0:=by unfold Ah;rw[if_neg (by simp[a]),if_neg (by simp;omega)]
 unfold GM;rw[if_neg (by simp),if_neg (by simp)];unfold Ga;rw[if_neg (by rw[b];decide)];rfl
theorem ALc {d r:Nat}{au:A2Y}(E:bR g)(Q:GU B g h s q k st m D bD c nn)(n:EF g h k s p bh bu name aC f u N)(aP:d<aC)(ac:G7 (Dy st) d r au)(av:r+1<=2147483647)(hA:bD+3<=B.A)(aQ:c+64<=B.C)(aR:nn+1<=1000000)(aS:N+1<=1000000)
  (aT: ∀S ag k' aw aU aV,ag.d=q.d->ag.b=q.b->GU B g S s ag k' aw aU aV (bD+3) (c+64) (nn+1)->Dy aw=cu (Dy st) [⟨CS d,LZ (r+1) name,false⟩]->EF g S k' s p bh bu name aC (du f d (r+1)) (du u d 0) (N+1)->
   Mod (λc=>k c≠0\/h.size<=c\/c=s\/c=bh\/c=bu) h S->(∀ c,k' c≠0->k c≠0\/h.size<=c)->R (J1 #[J6 J9 ((r+1:Nat):Int),J6 J9 0]) S):
  AA A P EU #[Ap p,J6 J9 (d:Int)] h R:=by
 have bM:=n.sh;refine Us ?_;unfold Nc;refine AKt Q n aP ac λL aW=>⟨_,_,_,rfl,ab.no rfl ?_⟩
 refine U0 (by omega) λaj aX=>⟨_,rfl,?_⟩
 have ax:=aW.trans aX;refine ai.pair λb T bN ay aY bO=>?_
 have az:=ax.trans aY;have bP:=ax.size;have bQ:=Q.db.mem.ext.size;refine ah.mk λK aZ=>?_
 have aD: ∀U y z,Ext h U->U[b]? =some (J2 #[J7 (CS d),J7 y,J3 z] AU (0,0))->Be (Dy st) ⟨CS d,y,z⟩=true->K () U:=by
  intro U y z ak a0 a1;refine aZ _ _ ?_;have bS:=Q.on ak;have a2:=n.on ak;refine aA (AL.mk (AB a2.cell rfl) ?_);rw[Ac (by omega)];refine pb (by omega) av n.named λV aE=>⟨_,_,rfl,?_⟩
  have al:=ak.trans aE;refine ab.no rfl (ah.mk λa3 a4=>?_);have aF:=Q.on al;have am:=n.on al;have I:=Ay aE a0;have go: ∀e M C,Ext V e->e[M]? =some (J2 #[J7 (CS d),J7 y,J3 z] AU (0,0))->e[C]? =some (J2 #[J7 (CS d),J7 (LZ (r+1) name),J3 false] AU (0,0))->V.size<=C->
    AA A P GG #[Ap s,J4 (some (⟨M,0,none⟩:Q6)) 1 1,J4 (some (⟨C,0,none⟩:Q6)) 1 1] e λa5 an=> ∃aG:Int,a5=J6 J9 aG/\a3 (aG,()) an:=by
   intro e M C w a6 aH a7;have a8:=aF.on w;have a9:=am.on w;have aI:=al.trans w;have vc:View Bg e ⟨some ⟨M,0,none⟩,1,1⟩ [⟨CS d,y,z⟩]:=(Own.lit (E:=Bg) (l:= [⟨CS d,y,z⟩]) a6 rfl (by simp[maxLen])).view;have ba:View Bg e ⟨some ⟨C,0,none⟩,1,1⟩ [⟨CS d,LZ (r+1) name,false⟩]:=(Own.lit (E:=Bg) (l:= [⟨CS d,LZ (r+1) name,false⟩]) aH rfl (by simp[maxLen])).view;have bb:=AWC (APN d) (show(CS d).size<=64 by rw[LQ];omega) (AM3 av n.named);have bc:de (Dy st) [⟨CS d,y,z⟩] [⟨CS d,LZ (r+1) name,false⟩]=0:=by unfold de;rw[if_neg (by simp),if_neg (by rw[bb];decide),if_pos (by simp[a1])]
   have bd:k C=0:=aF.db.free a7;refine AQj (B:=B) (conds:=⟨some ⟨M,0,none⟩,1,1⟩) (sl:=⟨some ⟨C,0,none⟩,1,1⟩) E a8 hA aQ aR vc ba (λ_ be W=>by
    have o:C=be:=by simpa [Sl.ag] using W
    subst o;exact⟨Ai aH,bd⟩) (λx e=>by rw[List.mem_singleton.1 e];show(CS d).size<=_;rw[LQ];omega) (λbf=>absurd bc bf) λ_ an bg X bi bj bk bm bn bo bp aJ aK=>⟨_,rfl,a4 _ _ (ab.no rfl ?_)⟩
   have bT:=aI.size;have i:=a9.step (k':=X) aJ (λc a=>by
    rcases a with h|h|h
    ·exact .inl h
    ·exact .inr (.inl h)
    ·exact .inr (.inr (.inl h))) aK
   have bq:Mod (λc=>k c≠0\/h.size<=c\/c=s\/c=bh\/c=bu) h an:=(aI.ak λc _ a=>a.elim).trans (aJ.ak λc _ a=>by
    rcases a with h|h|h
    ·exact .inl h
    ·exact .inr (.inl (by omega))
    ·exact .inr (.inr (.inl h)))
   obtain⟨bU,br,bV,bs⟩:=i.held;refine aA (Ex.mk (AB i.cell rfl) (aA (Ex.mk (AB i.cell rfl) ?_)));refine zC mD hG pd (v:=J6 J9 ((r+1:Nat):Int)) br (by have:=i.cB;simp only[maxLen];omega) λbW bt Y bX=>?_
   obtain⟨bY,bv,bZ,bw⟩:=i.used;have bx:=bv.mod Y n.ne.symm;refine zC mE hG pg (v:= .int .u64 0) bx (by have:=i.cB;simp only[maxLen];omega) λbz bA Z b0=>?_
   have bB: ∀c,c=bh->X c=0/\g.size<=c:=λc a=>⟨(i.bA c (.inr (.inl a))).1,(i.bA c (.inr (.inl a))).2.1⟩
   have bC: ∀c,c=bu->X c=0/\g.size<=c:=λc a=>⟨(i.bA c (.inr (.inr a))).1,(i.bA c (.inr (.inr a))).2.1⟩
   have bE:=(bo.beside Y bB λo=>(i.bA s (.inr (.inl o))).2.2 rfl).beside Z bC λo=>(i.bA s (.inr (.inr o))).2.2 rfl
   refine aT bz bg X bi bj bk bm bn bE bp ⟨Z.ag (Y.ag i.cell n.mR.1) n.mR.2,⟨_,bt.mod Z n.ne,AK Ze (by omega),λm=>AST bs m⟩,⟨_,bA,AK Ze (by omega),λm=>ALG (r:=0) bw m⟩,i.bA,i.ne,i.named,i.sh,aS⟩ ((bq.trans (Y.ak λc _ a=> .inr (.inr (.inr (.inl a))))).trans (Z.ak λc _ a=> .inr (.inr (.inr (.inr a))))) λc a=>?_
   rcases aK c a with h|h
   ·exact .inl h
   ·exact .inr (by omega)
  have F: ∀ {e:aa},Ext V e->af e ⟨p,0,none⟩=some (Ap s):=λw=>AO (Ay w am.cell) rfl
  have row: ∀ {e:aa},Ext V e->af e (⟨b,0,none⟩:Q6)=some (J7 (CS d))/\af e ((⟨b,0,none⟩:Q6).add 1)=some (J7 y)/\af e ((⟨b,0,none⟩:Q6).add 2)=some (J3 z):=λw=>⟨AO (Ay w I) rfl,AB (Ay w I) rfl,AB (Ay w I) rfl⟩
  refine aA (AY.mk (AO am.cell rfl) (AL.mk (AO I rfl) (AL.mk (AB I rfl) (Aa.mk (AB I rfl) ?_))));refine⟨?_,?_⟩
  ·refine ai.mk λbF _ bG G b1=>⟨F G,?_⟩
   refine U0 (by omega) λW J=>⟨_,rfl,?_⟩
   have j:=G.trans J;refine⟨row j,⟨F j,?_⟩⟩;refine ai.mk λa _ O H aL=>?_
   have t:=j.trans H;exact⟨row t,⟨F t,go a _ _ t (Ay H (Ay J bG)) O j.size⟩⟩
  ·refine U0 (by omega) λbF G=>⟨_,rfl,⟨row G,⟨F G,⟨?_,?_⟩⟩⟩⟩
   ·refine ai.mk λW _ ao J bH=>?_
    have j:=G.trans J;refine⟨F j,ai.mk λa _ O H aL=>?_⟩;have t:=j.trans H;exact⟨row t,⟨F t,go a _ _ t (Ay H ao) O j.size⟩⟩
   ·refine ai.mk λW _ ao J bH=>?_
    have j:=G.trans J;refine⟨row j,⟨F j,ai.mk λa _ O H aL=>?_⟩⟩;have t:=j.trans H;exact⟨F t,go a _ _ t O (Ay H ao) G.size⟩
 refine ab.intro (λap=>?_) (λap=>?_)
 ·have bI:0<r:=by have:=of_decide_eq_true ap;omega
  rcases ac with⟨L,_⟩|⟨L,aj,T,o⟩
  ·omega
  simp only[Bp,AF];refine ae.mk ay (by simp) λaM aq bJ b2=>?_
  have aq:aM[b]? =some (J2 #[J7 (CS d),J7 ⟨#[]⟩,J3 false] AU (0,0)):=by simpa using aq
  refine pb L aj T λb3 aN=>⟨_,_,rfl,?_⟩
  refine ae.mk (Ay aN aq) (by simp) λaO ar bK b4=>?_
  have ar:aO[b]? =some (J2 #[J7 (CS d),J7 (LZ r au),J3 false] AU (0,0)):=by simpa using ar
  have bL:Ext h aM:=az.then (bJ.ak λc _ a=> .inr (by omega));refine aD aO _ _ ((bL.trans aN).then (bK.ak λc _ a=> .inr (by omega))) ar ?_;unfold Be;rw[o];simp
 ·have bI:r=0:=by have:=of_decide_eq_false ap;omega
  rcases ac with⟨L,_,o⟩|⟨L,aj,T,o⟩
  ·refine aD T _ _ az ay ?_;unfold Be;rw[o];simp
  ·omega
end
section
variable {A : ao} {B : cX} {g h : aa} {s p bh bu : Nat} {q : Hp} {k : Nat -> Nat} {st : Db} {m : Bx} {D : Yw} {bD c nn N : Nat} {name : A2Y} {aC : Nat} {f u : Nat -> Nat} {R : A2X}
def FW(a b:Nat)(name:A2Y):Pr:=⟨CS a,LZ b name,false⟩
theorem PQ {mp:List Pr}{n r:Nat}{name:A2Y}:Be mp (FW n r name)=((JM mp (CS n)).2&&decide ((JM mp (CS n)).1=LZ r name)):=rfl
theorem AVu {n:Nat}{conds sl:Sl}{e l:List Pr}(E:bR g)(y:GU B g h s q k st m D bD c nn)(j:EF g h k s p bh bu name aC f u N)(an:n<256)(ao:f n<=2147483647)(hA:bD+3<=B.A)(ap:c+64<=B.C)(aq:nn+1<=1000000)(vc:View Bg h conds e)(a9:e.length<=1000000)(v:View Bg h sl l)(ar:l≠ []-> ∀b,sl.ag=some b->b<h.size/\k b=0/\b≠bh)(au: ∀x∈e,x.key.size<=1099511627776)
  (av:f n=0->R (J6 J9 170) h)
  (aw:f n≠0->Be (Dy st) (FW n (f n) name)=false-> ∀d,GU B g d s q k st m D bD c nn->EF g d k s p bh bu name aC (du f n 0) u N->Mod (λc=>h.size<=c\/c=bh) h d->R (J6 J9 170) d)
  (ax:f n≠0->Be (Dy st) (FW n (f n) name)=true->de (Dy st) (FW n (f n) name::e) l≠0-> ∀d,Ext h d->R (J6 J9 (de (Dy st) (FW n (f n) name::e) l)) d)
  (ay:f n≠0->Be (Dy st) (FW n (f n) name)=true->de (Dy st) (FW n (f n) name::e) l=0-> ∀d F k' W az aD,F.d=q.d->F.b=q.b->GU B g d s F k' W az aD (bD+3) (c+64) (nn+1)->Dy W=cu (Dy st) l->EF g d k' s p bh bu name aC f u N->Mod (λc=>k c≠0\/h.size<=c\/c=s) h d->(∀ c,k' c≠0->k c≠0\/h.size<=c)->R (J6 J9 0) d):
  AA A P Gb #[Ap p,J6 J9 (n:Int),J4 conds.p conds.len conds.cap,J4 sl.p sl.len sl.cap] h R:=by
 refine ABX ?_;unfold UZ;refine sY j ⟨_,rfl,ab.intro (λG=>?_) (λG=>?_)⟩
 ·exact av (by simpa using G)
 have H:f n≠0:=by simpa using G
 refine aA (AL.mk (AB j.cell rfl) ?_);refine pb (by omega) ao j.named λz aE=>⟨_,_,rfl,?_⟩
 refine U0 an λba aF=>⟨_,rfl,?_⟩
 have aG:=aE.trans aF;refine ai.pair λb bb bc X aH bd=>?_
 have I:=aG.trans aH;have aI:=j.on I;have aJ:=y.on I;refine aA (AY.mk (AO aI.cell rfl) (AL.mk (AO X rfl) ?_));refine sX aJ (by rw[LQ];omega) λi Y=>⟨_,_,_,rfl,ab.no rfl ?_⟩
 have w:=I.trans Y;have o:=j.on w;have aK:=y.on w;have J:=Ay Y X;have be:=w.size;have bf:=y.db.mem.ext.size;refine ah.mk λK Z=>?_
 have L:=PQ (mp:=Dy st) (n:=n) (r:=f n) (name:=name);have lost:Be (Dy st) (FW n (f n) name)=false->K (true,()) i:=λaL=>by
  refine Z _ _ (ab.yes rfl (aA (Ex.mk (AB o.cell rfl) ?_)));refine o.strike λO aM aa=>⟨rfl,?_⟩
  have Q:=o.bA bh (.inr (.inl rfl));exact aw H aL O (aK.beside aa (λc a=>by subst a;exact⟨Q.1,Q.2.1⟩) λS=>Q.2.2 S.symm) aM ((w.ak λc _ a=>a.elim).trans (aa.ak λc _ a=> .inr a))
 have aN:Be (Dy st) (FW n (f n) name)=true->K (false,()) i:=λac=>by
  refine Z _ _ (ab.no rfl (aA (AY.mk (AO o.cell rfl) (AL.mk (AO J rfl) (AL.mk (AB J rfl) (Aa.mk (AB J rfl) ?_))))));refine ai.mk λO _ aO T bg=>⟨AO (Ay T o.cell) rfl,?_⟩
  have aP:Own Bg AU O ⟨some ⟨i.size,0,none⟩,1,1⟩ [FW n (f n) name]:=Own.lit (E:=Bg) (l:= [FW n (f n) name]) aO rfl (by simp[maxLen]);have ae:=w.trans T;refine IZ (E:=Bg) (s:=⟨some ⟨i.size,0,none⟩,1,1⟩) (src:=conds) M.Ii aP (vc.ext ae) (by simp only[An,HU];omega) (by simp only[An,HU,maxLen];omega) λaQ af aR ag bi _=>?_
  have t:Ext h af:=ae.then (ag.ak λc _ a=> .inr (by have:i.size=c:=(by simpa [Sl.ag] using a);omega));have aS:Ext i af:=T.then (ag.ak λc _ a=> .inr (by have:i.size=c:=(by simpa [Sl.ag] using a);omega));have aT:=y.on t;have aU:=j.on t;refine⟨AO (Ay aS o.cell) rfl,?_⟩;have bj:=t.size;have aV: ∀x∈ [FW n (f n) name]++e,x.key.size<=1099511627776:=λx aW=>by
   rcases List.mem_append.1 aW with h|h
   ·rw[List.mem_singleton.1 h];show(CS n).size<=_;rw[LQ];omega
   ·exact au x h
  refine AQj (B:=B) (conds:=aQ) (sl:=sl) E aT hA ap aq aR.view (v.ext t) (λU aX aY=>by
   have:=ar U aX aY;exact⟨by omega,this.2.1⟩) aV (λU V aZ=>⟨_,rfl,ax H ac U V (t.trans aZ)⟩) λa0 V a1 aj a2 a3 a4 a5 a6 a7 a8 ak al=>⟨_,rfl,?_⟩
  refine ay H ac a0 V a1 aj a2 a3 a4 a5 a6 a7 a8 (aU.step (k':=aj) ak (λc a=>by
   rcases a with h|h|h
   ·exact .inl h
   ·exact .inr (.inl h)
   ·exact .inr (.inr (.inl h))) al) ((t.ak λc _ a=>a.elim).trans (ak.ak λc _ a=>by
   rcases a with h|h|h
   ·exact .inl h
   ·exact .inr (.inl (by omega))
   ·exact .inr (.inr h))) λc a=>?_
  rcases al c a with h|h
  ·exact .inl h
  ·exact .inr (by omega)
 refine ab.intro (λz=>?_) (λz=>?_)
 ·refine lost ?_;have S:(JM (Dy st) (CS n)).2=false:=by simpa using z
  rw[L,S];rfl
 ·have am:(JM (Dy st) (CS n)).2=true:=by simpa using z
  cases C:bB (JM (Dy st) (CS n)).1 (LZ (f n) name) with
  |true=>
   refine aN ?_;rw[Bl] at C;rw[L,am,C];rfl
  |false=>
   refine lost ?_;rw[Bl] at C;rw[L,am,C];rfl
theorem AXT {a:Nat}(h:a<=2147483647):J8 .u64 ((J8 .u64 (a:Int))*((2:Int)^(24:Nat)))=((a*16777216:Nat):Int):=by rw[CL (by omega),show((a:Int)*(2:Int)^(24:Nat))=((a*16777216:Nat):Int) from by rw[show((2:Int)^(24:Nat))=((16777216:Nat):Int) from by decide];simp];exact CL (by omega)
theorem sv {a b:Nat}(d:a<18446744073709551616)(e:b<18446744073709551616):dS .u64 (a:Int) (b:Int)=((a ||| b:Nat):Int):=by
 have h:a ||| b<2^64:=I2 (by simpa using d) (by simpa using e);unfold dS;have i:(BitVec.ofInt (IntKind.bits .u64) (a:Int) ||| BitVec.ofInt (IntKind.bits .u64) (b:Int)).toNat=a ||| b:=by show(BitVec.ofInt 64 (a:Int) ||| BitVec.ofInt 64 (b:Int)).toNat=a ||| b;rw[BitVec.toNat_or,BitVec.ofInt_natCast,BitVec.ofInt_natCast,BitVec.toNat_ofNat,BitVec.toNat_ofNat,As (by simpa using d),As (by simpa using e)]
 rw[i];exact CL (by simpa using h)
theorem AWb {a x:Nat}(h:a<=2147483647)(d:x<16777216):dS .u64 ((a*16777216:Nat):Int) (x:Int)=((a*16777216+x:Nat):Int):=by rw[sv (by omega) (by omega)];congr 1;have:=A0H (i:=24) (b:=x) (by simpa using d) a;rw[show 2^24*a=a*16777216 from by rw[Cp]] at this;exact this.symm
theorem ANI {a:Nat}(b:EF g h k s p bh bu name aC f u N)(t:f a<=2147483647)(y:u a+1<16777216)(z:N+1<=1000000)
  (C:f a=0->R (.int .u64 0) h)
  (E:f a≠0-> ∀e,EF g e k s p bh bu name aC f (du u a (u a+1)) (N+1)->Mod (λc=>c=bu) h e->R (.int .u64 ((f a*16777216+(u a+1):Nat):Int)) e):
  AA A P HY #[Ap p,J6 J9 (a:Int)] h R:=by
 refine WR ?_;unfold Og;refine sY b ⟨_,rfl,ab.intro (λi=>?_) (λi=>?_)⟩
 ·exact C (by simpa using i)
 have F:f a≠0:=by simpa using i
 obtain⟨G,v,L,w⟩:=b.used;obtain⟨H,I,M,j⟩:=b.held;refine aA (Ex.mk (AB b.cell rfl) ?_);refine NH mE hG pg v ⟨_,w a,?_⟩;rw[show((u a:Nat):Int)+(1:Int)=((u a+1:Nat):Int) from by omega,CL (by omega)];refine AMc mE hG v (by have:=b.cB;simp only[maxLen];omega) λJ l n O=>?_
 have o:=I.mod n b.ne;have d:=n.ag b.cell b.mR.2;have x: ∀m:Nat,(Ml m (VB a (.int .u64 ((u a+1:Nat):Int)) G)).getD (.int .u64 0)= .int .u64 (du u a (u a+1) m:Int):=λm=>ALG w m
 have K:du u a (u a+1) a=u a+1:=by unfold du;rw[if_pos rfl]
 have key:dS .u64 (J8 .u64 ((J8 .u64 (f a:Int))*((2:Int)^(24:Nat)))) ((u a+1:Nat):Int)=((f a*16777216+(u a+1):Nat):Int):=by rw[AXT t,AWb t y]
 have fin:=E F J ⟨d,⟨H,o,by omega,j⟩,⟨_,l,AK Ze (by omega),x⟩,b.bA,b.ne,b.named,b.sh,z⟩ n;rw[<- key] at fin;have r:=x a;rw[K] at r;refine aA (Ex.mk (AB d rfl) (aA (Ex.mk (AB d rfl) ⟨?_,?_⟩)))
 ·refine NH mD hG pd o ⟨_,j a,⟨AB d rfl,?_⟩⟩;exact NH mE hG pg l ⟨_,r,⟨AB d rfl,fin⟩⟩
 ·refine NH mE hG pg l ⟨_,r,⟨AB d rfl,?_⟩⟩;exact NH mD hG pd o ⟨_,j a,⟨AB d rfl,fin⟩⟩
theorem G7.laid {b:List Pr}(e:Sorted b){d a:Nat}(i:1<=a)(j:a<=2147483647)(l:Am name=true):G7 (cu b [⟨CS d,LZ a name,false⟩]) d a name:=by refine .inr ⟨i,j,l,?_⟩;unfold JM;rw[show cu b [⟨CS d,LZ a name,false⟩]=eN b ⟨CS d,LZ a name,false⟩ from rfl,QY e,if_pos rfl,IX];rfl
theorem G7.other {a:List Pr}(j:Sorted a){b e:Nat}{i key val:A2Y}{d:Bool}(l:G7 a b e i)(n:key≠CS b):G7 (cu a [⟨key,val,d⟩]) b e i:=by
 have o:JM (cu a [⟨key,val,d⟩]) (CS b)=JM a (CS b):=by unfold JM;rw[show cu a [⟨key,val,d⟩]=eN a ⟨key,val,d⟩ from rfl,QY j,if_neg n]
 unfold G7;rw[o];exact l
theorem G7.holds {b:List Pr}{d a:Nat}(i:G7 b d a name)(j:1<=a):Be b (FW d a name)=true:=by
 rw[PQ];rcases i with⟨h,_,e⟩|⟨_,l,_,e⟩
 ·omega
 ·rw[e];simp
end
structure Hs where
 p:Nat
 bh:Nat
 bu:Nat
 name:A2Y
 f:Nat->Nat
 u:Nat->Nat
def Hs.bA(x:Hs)(c:Nat):Prop:=c=x.p\/c=x.bh\/c=x.bu
structure jc (g h:aa) (k:Nat->Nat) (s sh N:Nat) (l:List Hs):Prop where
 host: ∀(i:Nat) x,l[i]? =some x->EF g h k s x.p x.bh x.bu x.name sh x.f x.u N
 jy: ∀(i j:Nat) x y,l[i]? =some x->l[j]? =some y->i≠j-> ∀c,x.bA c-> ¬y.bA c
def LW(B:cX)(g h:aa)(s a N sh:Nat)(l:List Hs)(mp:List Pr)(O:Nat->Prop):Prop:=
 ∃(q:Hp) (b:Nat->Nat) (st:Db) (m:Bx) (d:Yw) (nn:Nat),GU B g h s q b st m d (1+3*a) (64*a) nn/\nn<=a/\Dy st=mp/\jc g h b s sh N l/\N<=1000000/\ ∀c,O c->b c=0/\c<h.size/\g.size<=c/\c≠s/\ ∀x∈l,¬x.bA c
section
variable {A : ao} {B : cX} {g h : aa} {s a N sh : Nat} {l : List Hs} {mp : List Pr} {O : Nat -> Prop} {R : A2X}
theorem jc.step {d:aa}{b k':Nat->Nat}{e:Nat->Prop}(f:jc g h b s sh N l)(k:Mod e h d)(m: ∀c,e c->b c≠0\/h.size<=c\/c=s\/ ∀x∈l,¬x.bA c)(n: ∀c,k' c≠0->b c≠0\/h.size<=c):jc g d k' s sh N l:=
 ⟨λi x j=>(f.host i x j).step k (λc o=>by
  rcases m c o with h|h|h|h
  ·exact .inl h
  ·exact .inr (.inl h)
  ·exact .inr (.inr (.inl h))
  ·exact .inr (.inr (.inr (h x (AG j))))) n,f.jy⟩
theorem jc.set {h':aa}{k m:Nat->Nat}{S:Nat->Prop}{i j:Nat}{x x':Hs}(n:jc g h k s sh N l)(o:l[i]? =some x)(u:Mod S h h')(v: ∀c,S c->k c≠0\/h.size<=c\/c=s\/x.bA c)(w: ∀c,m c≠0->k c≠0\/h.size<=c)(y:EF g h' m s x'.p x'.bh x'.bu x'.name sh x'.f x'.u j)(z: ∀c,x'.bA c↔x.bA c)(q:N<=j/\j<=1000000):jc g h' m s sh j (l.set i x'):=by
 have r:=(List.getElem?_eq_some_iff.1 o).1;refine⟨λd e b=>?_,λC D P Q E F G c p=>?_⟩
 ·by_cases f:i=d
  ·subst f;rw[G4 r] at b;cases b;exact y
  ·rw[Hj f] at b;refine((n.host d e b).step u (λc p=>?_) w).more q.1 q.2;rcases v c p with h|h|h|h
   ·exact .inl h
   ·exact .inr (.inl h)
   ·exact .inr (.inr (.inl h))
   ·exact .inr (.inr (.inr (n.jy i d x e o b f c h)))
 ·have go: ∀ {d:Nat} {e:Hs},(l.set i x')[d]? =some e-> ∃t,l[d]? =some t/\ ∀c,e.bA c↔t.bA c:=λ{d e} b=>by
   by_cases f:i=d
   ·subst f;rw[G4 r] at b;cases b;exact⟨x,o,z⟩
   ·rw[Hj f] at b;exact⟨e,b,λ_=>CC⟩
  obtain⟨H,I,J⟩:=go E;obtain⟨K,L,M⟩:=go F;exact λh=>n.jy C D H K I L G c ((J c).1 p) ((M c).1 h)
theorem LW.ext(b:LW B g h s a N sh l mp O):Ext g h:=by obtain⟨q,d,st,m,e,nn,c,_⟩:=b;exact c.db.mem.ext
theorem LW.sorted(b:LW B g h s a N sh l mp O):Sorted mp:=by obtain⟨q,d,st,m,D,nn,c,_,rfl,_⟩:=b;exact c.db.sorted
theorem LW.own {e:aa}{O':Nat->Prop}(k:LW B g h s a N sh l mp O)(f:Mod O h e)(n: ∀c,O' c->O c\/(h.size<=c/\c<e.size)):LW B g e s a N sh l mp O':=by
 obtain⟨q,o,st,m,p,nn,d,r,t,j,u,out⟩:=k;have G:=d.db.mem.ext.size;have H:=f.size;have I:=d.lt;refine⟨q,o,st,m,p,nn,d.beside f (λc b=>⟨(out c b).1,(out c b).2.2.1⟩) (λh=>(out s h).2.2.2.1 rfl),r,t,j.step f (λc b=> .inr (.inr (.inr (out c b).2.2.2.2))) (λc b=> .inl b),u,λc b=>?_⟩;rcases n c b with h|⟨v,w⟩
 ·obtain⟨y,J,z,C,D⟩:=out c h;exact⟨y,by omega,z,C,D⟩
 ·refine⟨d.db.free v,w,by omega,by omega,λx E F=>?_⟩;obtain⟨i,hi⟩:=DG E;have:=(j.host i x hi).lt c F;omega
theorem LW.on {b:aa}(d:LW B g h s a N sh l mp O)(x:Ext h b):LW B g b s a N sh l mp O:=d.own (x.ak λ_ _ h=>h.elim) λc e=> .inl e
theorem LW.less {O':Nat->Prop}(b:LW B g h s a N sh l mp O)(d: ∀c,O' c->O c):LW B g h s a N sh l mp O':=by obtain⟨q,e,st,m,f,nn,i,j,k,n,o,out⟩:=b;exact⟨q,e,st,m,f,nn,i,j,k,n,o,λc p=>out c (d c p)⟩
theorem LW.put {b c:Nat}(W:LW B g h s a N sh l mp O)(t:a<=b)(f:64*b<=B.C)(j:N<=c)(d:c<=1000000):LW B g h s b c sh l mp O:=by obtain⟨q,k,st,m,n,nn,o,u,p,e,v,out⟩:=W;exact⟨q,k,st,m,n,nn,o.put (by omega) (by omega) f,by omega,p,⟨λi x r=>(e.host i x r).more j d,e.jy⟩,d,out⟩
abbrev aR(g:aa)(O:Nat->Prop):Nat->Prop:=λc=>g.size<=c/\ ¬O c
theorem LW.dB {b:aa}{y:Nat->Prop}{i a' e nn o:Nat}{x x':Hs}{q z:Hp}{d f:Nat->Nat}{st p:Db}{m C:Bx}{L D:Yw}(j:GU B g h s q d st m L (1+3*a) (64*a) nn)(E:jc g h d s sh N l)(out: ∀c,O c->d c=0/\c<h.size/\g.size<=c/\c≠s/\ ∀x∈l,¬x.bA c)
  (r:l[i]? =some x) (M:GU B g b s z f p C D (1+3*a') (64*a') o) (P:o<=a') (t:Mod y h b) (u: ∀c,y c->d c≠0\/h.size<=c\/c=s\/x.bA c) (F: ∀c,f c≠0->d c≠0\/h.size<=c) (Q:EF g b f s x'.p x'.bh x'.bu x'.name sh x'.f x'.u e) (G: ∀c,x'.bA c↔x.bA c) (H:N<=e/\e<=1000000):
  LW B g b s a' e sh (l.set i x') (Dy p) O/\Mod (aR g O) h b:=by
 have X:=j.db.mem.ext.size;have Y:=j.lt;have Z:=t.size;have I:=AG r;refine⟨⟨z,f,p,C,D,o,M,P,rfl,E.set r t u F Q G H,H.2,λc k=>?_⟩,t.ak λc ab k=>⟨?_,λS=>?_⟩⟩
 ·obtain⟨v,T,J,w,n⟩:=out c k;refine⟨Decidable.byContradiction λU=>?_,by omega,J,w,λV W K=>?_⟩
  ·rcases F c U with h|h
   ·exact h v
   ·omega
  ·rcases OS W with h|rfl
   ·exact n V h K
   ·exact n x I ((G c).1 K)
 ·rcases u c k with h|h|h|h
  ·exact(j.db.mem.own c h).1
  ·omega
  ·have:=j.base;omega
  ·exact((E.host i x r).bA c h).2.1
 ·obtain⟨v,T,J,w,n⟩:=out c S;rcases u c k with h|h|h|h
  ·exact h v
  ·omega
  ·exact w h
  ·exact n x I h
theorem LW.host {name:A2Y}(E:LW B g h s a N sh l mp O)(F:Am name=true)(G:1<=sh/\sh<=16)
  (H: ∀j p k n,LW B g j s a N sh (l++ [⟨p,k,n,name,λ_=>0,λ_=>0⟩]) mp O->Ext h j->R (J1 #[Ap p,J6 J9 0]) j):AA A P RA #[Ap s,J7 name,J6 J9 (sh:Int)] h R:=by
 obtain⟨q,I,st,m,J,nn,w,K,L,o,y,out⟩:=E;refine AUP w F G λj p k n M fresh x=>H j p k n ⟨q,I,st,m,J,nn,w.on x,K,L,⟨λi d b=>?_,λi e z C Q S T c f u=>?_⟩,y,λc f=>?_⟩ x
 ·rw[List.getElem?_append] at b;split at b
  ·exact(o.host i d b).on x
  ·rw[A0O] at b;split at b
   ·cases b;exact M.more (A5 _) y
   ·cases b
 ·have go: ∀ {e:Nat} {d:Hs},(l++ [⟨p,k,n,name,λ_=>0,λ_=>0⟩])[e]? =some d->(e<l.length/\l[e]? =some d)\/(e=l.length/\ ∀c,d.bA c->h.size<=c):=λ{e d} b=>by
   rw[List.getElem?_append] at b;split at b
   ·rename_i D;exact .inl ⟨D,b⟩
   ·rename_i D;rw[A0O] at b;split at b
    ·rename_i aa;cases b;exact .inr ⟨by omega,λc f=>(fresh c f).1⟩
    ·cases b
  rcases go Q with⟨U,r⟩|⟨U,r⟩<;>rcases go S with⟨V,t⟩|⟨V,t⟩
  ·exact o.jy i e z C r t T c f u
  ·have:=(o.host i z r).lt c f;have:=t c u;omega
  ·have:=(o.host e C t).lt c u;have:=r c f;omega
  ·omega
 ·obtain⟨W,ab,X,Y,Z⟩:=out c f;have:=x.size;refine⟨W,by omega,X,Y,λd b v=>?_⟩;rcases List.mem_append.1 b with h|h
  ·exact Z d h v
  ·rw[List.mem_singleton.1 h] at v;have:=(fresh c v).1;omega
def Hs.mL(x:Hs)(b c:Nat):Hs:= {x with f:=du x.f b c,u:=du x.u b 0}
def Hs.lost(x:Hs)(b:Nat):Hs:= {x with f:=du x.f b 0}
def Hs.jn(x:Hs)(b:Nat):Hs:= {x with u:=du x.u b (x.u b+1)}
theorem LW.holds {i b:Nat}{x:Hs}(c:LW B g h s a N sh l mp O)(d:l[i]? =some x)(e:R (J6 J9 (x.f b:Int)) h):AA A P Bc #[Ap x.p,J6 J9 (b:Int)] h R:=by obtain⟨q,j,st,m,k,nn,n,o,p,f,r,out⟩:=c;exact sY (f.host i x d) e
theorem LW.look {i b c:Nat}{x:Hs}{d:A2Y}(f:LW B g h s a N sh l mp O)(j:l[i]? =some x)(k:b<sh)(n:G7 mp b c d)(o: ∀e,Ext h e->R (J1 #[J6 J9 (c:Int),J7 d,J6 J9 0]) e):AA A P Gp #[Ap x.p,J6 J9 (b:Int)] h R:=by obtain⟨q,t,st,m,u,nn,p,v,rfl,r,w,out⟩:=f;exact AKt p (r.host i x j) k n o
theorem LW.acquire {i b d:Nat}{x:Hs}{o:A2Y}(p:bR g)(r:LW B g h s a N sh l mp O)(f:l[i]? =some x)(t:b<sh)(u:G7 mp b d o)(v:d+1<=2147483647)(hA:4+3*a<=B.A)(H:64*a+64<=B.C)(I:a+1<=1000000)(j:N+1<=1000000)
  (w: ∀e,LW B g e s (a+1) (N+1) sh (l.set i (x.mL b (d+1))) (cu mp [⟨CS b,LZ (d+1) x.name,false⟩]) O->Mod (aR g O) h e->R (J1 #[J6 J9 ((d+1:Nat):Int),J6 J9 0]) e):
  AA A P EU #[Ap x.p,J6 J9 (b:Int)] h R:=by
 obtain⟨q,J,st,m,K,nn,k,L,rfl,n,M,out⟩:=r;have y:=n.host i x f;refine ALc p k y t u v (by omega) (by omega) (by omega) j λe Q S T U V W X z C D E F=>?_
 have:=LW.dB (x':=x.mL b (d+1)) (a':=a+1) k n out f (z.put (by omega) (by omega) (by omega)) (by omega) E (λc G=>by
  rcases G with h|h|h|h|h
  ·exact .inl h
  ·exact .inr (.inl h)
  ·exact .inr (.inr (.inl h))
  ·exact .inr (.inr (.inr (.inr (.inl h))))
  ·exact .inr (.inr (.inr (.inr (.inr h))))) F D (λ_=>CC) ⟨FG _,j⟩
 rw[C] at this;exact w e this.1 this.2
theorem LW.number {i b:Nat}{x:Hs}(t:LW B g h s a N sh l mp O)(j:l[i]? =some x)(u:x.f b<=2147483647)(v:x.u b+1<16777216)(k:N+1<=1000000)
  (w:x.f b=0->R (.int .u64 0) h)
  (y:x.f b≠0-> ∀d,LW B g d s a (N+1) sh (l.set i (x.jn b)) mp O->Mod (aR g O) h d->R (.int .u64 ((x.f b*16777216+(x.u b+1):Nat):Int)) d):
  AA A P HY #[Ap x.p,J6 J9 (b:Int)] h R:=by
 obtain⟨q,F,st,m,G,nn,n,z,rfl,o,H,out⟩:=t;have p:=o.host i x j;refine ANI p u v k w λC d D r=>?_
 have f:=p.bA x.bu (.inr (.inr rfl));have:=LW.dB (x':=x.jn b) n o out j (n.beside r (λc e=>by subst e;exact⟨f.1,f.2.1⟩) λE=>f.2.2 E.symm) z r (λc e=> .inr (.inr (.inr (.inr (.inr e))))) (λc e=> .inl e) D (λ_=>CC) ⟨FG _,k⟩;exact y C d this.1 this.2
theorem LW.change {i d:Nat}{x:Hs}{conds sl:Sl}{cl lp:List Pr}(z:bR g)(C:LW B g h s a N sh l mp O)(f:l[i]? =some x)(D:d<256)(E:x.f d<=2147483647)(hA:4+3*a<=B.A)(ab:64*a+64<=B.C)(ac:a+1<=1000000)(vc:View Bg h conds cl)(F:cl.length<=1000000)(v:View Bg h sl lp)(G:lp≠ []-> ∀b,sl.ag=some b->b<g.size\/O b)(H: ∀x∈cl,x.key.size<=1099511627776)
  (I:x.f d=0->R (J6 J9 170) h)
  (J:x.f d≠0->Be mp (FW d (x.f d) x.name)=false-> ∀e,LW B g e s a N sh (l.set i (x.lost d)) mp O->Mod (aR g O) h e->R (J6 J9 170) e)
  (K:x.f d≠0->Be mp (FW d (x.f d) x.name)=true->de mp (FW d (x.f d) x.name::cl) lp≠0-> ∀e,Ext h e->R (J6 J9 (de mp (FW d (x.f d) x.name::cl) lp)) e)
  (L:x.f d≠0->Be mp (FW d (x.f d) x.name)=true->de mp (FW d (x.f d) x.name::cl) lp=0-> ∀e,LW B g e s (a+1) N sh l (cu mp lp) O->Mod (aR g O) h e->R (J6 J9 0) e):
  AA A P Gb #[Ap x.p,J6 J9 (d:Int),J4 conds.p conds.len conds.cap,J4 sl.p sl.len sl.cap] h R:=by
 obtain⟨q,ae,st,m,af,nn,j,M,rfl,n,w,out⟩:=C;have y:=n.host i x f;have ag:=j.db.mem.ext.size;refine AVu z j y D E (by omega) (by omega) (by omega) vc F v (λQ b S=>?_) H I (λo T e p r t=>?_) K λo U V e ah ai aj ak al am an p W r t X=>?_
 ·rcases G Q b S with h|h
  ·refine⟨by omega,j.db.base h,?_⟩;have:=(y.bA x.bh (.inr (.inl rfl))).2.1;omega
  ·obtain⟨Y,Z,ao,ap,aa⟩:=out b h;exact⟨Z,Y,λu=>aa x (AG f) (.inr (.inl u))⟩
 ·have:=LW.dB (x':=x.lost d) j n out f p M t (λc k=>by
   rcases k with h|h
   ·exact .inr (.inl h)
   ·exact .inr (.inr (.inr (.inr (.inl h))))) (λc k=> .inl k) r (λ_=>CC) ⟨A0 _,w⟩
  exact J o T e this.1 this.2
 ·have:=LW.dB (x':=x) (a':=a+1) j n out f (p.put (by omega) (by omega) (by omega)) (by omega) t (λc k=>by
   rcases k with h|h|h
   ·exact .inl h
   ·exact .inr (.inl h)
   ·exact .inr (.inr (.inl h))) X r (λ_=>CC) ⟨A0 _,w⟩
  rw[W,show l.set i x=l from by
   obtain⟨hi,u⟩:=List.getElem?_eq_some_iff.1 f;rw[<- u,OR]] at this
  exact L o U V e this.1 this.2
end
abbrev cn:=A2Y->Option (List Ev)
abbrev cL:=A2Y->Option (List UInt8×Int×Int)
def BP(l:List Ev):aW:=(Ew TM l).getD TM
structure OW (l:List Ev):Prop where
 ne:l≠ []
 len:l.length<=500
 ok:Ew TM l=some (BP l)
 st:0<=(BP l).status/\(BP l).status<=4
theorem OW.next {l:List Ev}(b:OW l):(BP l).next=l.length+1/\ ∀(i:Nat) (a:Ev),l[i]? =some a->a.id=i+1/\Er a=true:=zF b.ok b.ne
def Ua(wid:A2Y)(l:List Ev):List Pr:=l.map (O6 wid)
def VG(wid:A2Y)(l:List Ev):Pr:=⟨Kg wid,R4 (BP l).status.toNat (BP l).next.toNat false,false⟩
def fy(a:A2Y)(x:List UInt8×Int×Int):Pr:=⟨LA a,iC x.1 x.2.1.toNat x.2.2.toNat,false⟩
structure Jc (mp:List Pr) (fl:cn) (an:cL):Prop where
 cy: ∀wid,Am wid=true-> ∀k,Lt (Yd wid) k=true->Ab k mp=Ab k (Ua wid ((fl wid).getD []))
 fH: ∀wid,Am wid=true->Ab (Kg wid) mp=(fl wid).map (VG wid)
 jX: ∀bj,Am bj=true->Ab (LA bj) mp=(an bj).map (fy bj)
 cR: ∀wid l,fl wid=some l->OW l
 jY: ∀bj x,an bj=some x->(0<=x.2.1/\x.2.1<=4)/\(0<=x.2.2/\x.2.2<=501)/\x.1.length<=2000
theorem Fs {s:A2Y}(a:Am s=true):s.size<=16:=(Gt.1 a).2.1
theorem Su {wid:A2Y}{l:List Ev}{i:Nat}{p:Pr}(b:(Ua wid l)[i]? =some p): ∃a,l[i]? =some a/\p=O6 wid a:=by unfold Ua at b;rw[B9] at b;obtain⟨a,c,rfl⟩:=Option.map_eq_some_iff.1 b;exact⟨a,c,rfl⟩
theorem Rw {wid:A2Y}{l:List Ev}(b: ∀(i:Nat) (a:Ev),l[i]? =some a->a.id=i+1/\Er a=true){i:Nat}{a:Ev}(c:l[i]? =some a):(O6 wid a).key=dP wid (i+1):=by unfold O6;rw[(b i a c).1];rfl
theorem ZH {wid:A2Y}{l:List Ev}(h:l.length<=500)(c: ∀(i:Nat) (a:Ev),l[i]? =some a->a.id=i+1/\Er a=true):Sorted (Ua wid l):=by unfold Sorted;rw[List.pairwise_iff_getElem];intro i j hi b k;obtain⟨a,d,e⟩:=Su (A2 hi);obtain⟨m,f,g⟩:=Su (A2 b);rw[e,g,Rw c d,Rw c f];unfold Ua at b;rw[AT] at b;exact lV (by omega) (by omega)
theorem ly {q:A2Y->Bool}{a:A2Y}: ∀ {l:List Pr},Ab a (l.filter λx=>q x.key)=if q a=true then Ab a l else none
 | []=>by simp[M.Rx]
 |x::l=>by
  rw[AS];by_cases b:x.key=a
  ·subst b;split
   ·rw[M.BG,M.BG,if_pos rfl,if_pos rfl]
   ·rename_i c;rw[ly,if_neg c]
  ·split
   ·rw[M.BG,if_neg b,ly,M.BG,if_neg b]
   ·rw[ly,M.BG,if_neg b]
theorem APh {a:A2Y}{b:Nat}{l:List Pr}(c: ∀x∈l.take b,x.key≠a):Ab a (l.drop b)=Ab a l:=by
 conv=>rhs;rw[<- F0 b l]
 rw[M.MV,M.EQ c,LS]
theorem ASm {j:List Pr}{o:cn}{t:cL}{wid:A2Y}{l:List Ev}{d:Nat}(s:Sorted j)(k:Jc j o t)(u:Am wid=true)(m:o wid=some l)(z:d<=l.length):
  jb j (Yd wid) (dP wid (d+1)) 32=((Ua wid l).drop d).take 32:=by
 have g:=(k.cR wid l m).next.2;have v:=(k.cR wid l m).len;unfold jb;rw[show(32:Int).toNat=32 from rfl];congr 1;refine Sorted.ext (s.sublist GS) ((ZH v g).sublist (List.drop_sublist _ _)) λb=>?_
 rw[ly (q:=λb=>Lt (Yd wid) b&& !aI b (dP wid (d+1)))];by_cases h:Lt (Yd wid) b=true
 ·rw[h,Ek];have p:=k.cy wid u b h;rw[m,HM] at p;by_cases e:aI b (dP wid (d+1))=true
  ·rw[e,if_neg (by simp)]
   symm
   refine M.EQ λx f a=>?_
   obtain⟨i,hi⟩:=DG f;rw[By] at hi;obtain⟨r,c,rfl⟩:=Su hi;rw[Rw g c] at a;subst a;have w:=(List.getElem?_eq_some_iff.1 c).1;by_cases y:i=0
   ·subst y;rw[DB,CV] at e;cases e
   ·have:=PX e;rw[lV (by omega) (by omega)] at this;cases this
  ·have n:aI b (dP wid (d+1))=false:=by simpa using e
   rw[n,if_pos (by rfl),p]
   symm
   refine APh λx f a=>?_
   obtain⟨i,hi⟩:=DG f;rw[F1] at hi;split at hi
   ·rename_i A;obtain⟨r,c,rfl⟩:=Su hi;have w:=(List.getElem?_eq_some_iff.1 c).1;rw[Rw g c] at a;subst a;rw[lV (by omega) (by omega)] at n;cases n
   ·cases hi
 ·rw[if_neg (by simp[h])]
  symm
  refine M.EQ λx f a=>?_
  obtain⟨i,hi⟩:=DG f;rw[By] at hi;obtain⟨r,c,rfl⟩:=Su hi;rw[Rw g c] at a;subst a;exact h (zK wid _)
theorem Ky {a:A2Y}{b m:List Pr}(s:Sorted m)(c: ∀q∈b,q.key≠a):Ab a (cu m b)=Ab a m:=by rw[p9 a s,M.EQ λx d=>c x (List.mem_reverse.1 d)]
theorem na {b m:List Pr}(s:Sorted m){p:Pr}(c:p∈b)(d: ∀q∈b,q.key=p.key->q=p):Ab p.key (cu m b)=if p.gone then none else some p:=by
 rw[p9 p.key s];cases a:Ab p.key b.reverse with
 |none=>
  exfalso;unfold Ab at a;rw[GW] at a;have:=a p (List.mem_reverse.2 c);simp at this
 |some q=>
  obtain⟨e,f⟩:=M.NM a;obtain rfl:=d q (List.mem_reverse.1 f) e;show alive (some q)=_;rw[IX]
def cU {a:Type}(f:A2Y->Option a)(b:A2Y)(x:a):A2Y->Option a:=λq=>if q=b then some x else f q
theorem IB {a:Type}{f:A2Y->Option a}{b:A2Y}{x:a}:cU f b x b=some x:=if_pos rfl
theorem Sy {a:Type}{f:A2Y->Option a}{b q:A2Y}{x:a}(c:q≠b):cU f b x q=f q:=if_neg c
def qa {a:Type}(f:A2Y->Option a):Option (A2Y×a)->A2Y->Option a
 |none=>f
 |some (b,x)=>cU f b x
structure fh (b:List Pr) (o:Option (A2Y×(List UInt8×Int×Int))):Prop where
 eg: ∀p∈b,(BL p.key≠104/\BL p.key≠119/\BL p.key≠114)\/ ∃r x,o=some (r,x)/\p=fy r x
 has: ∀r x,o=some (r,x)->fy r x∈b/\Am r=true/\(0<=x.2.1/\x.2.1<=4)/\(0<=x.2.2/\x.2.2<=501)/\x.1.length<=2000
theorem Jc.land {E b:List Pr}{g:cn}{z:cL}{wid:A2Y}{more:List Ev}{t:Option (A2Y×(List UInt8×Int×Int))}(o:Jc E g z)(s:Sorted E)(F:Am wid=true)
  (n:OW ((g wid).getD []++more)) (A:fh b t):
  Jc (cu E (more.map (O6 wid)++([VG wid ((g wid).getD []++more)]++b))) (cU g wid ((g wid).getD []++more)) (qa z t):=by
 have L:=n.next.2;have O:=n.len;have u: ∀p∈b,BL p.key≠104/\BL p.key≠119:=λp B=>by
  rcases A.eg p B with a|⟨f,x,_,rfl⟩
  ·exact⟨a.1,a.2.1⟩
  ·exact⟨by show BL (LA f)≠104;rw[KY];decide,by show BL (LA f)≠119;rw[KY];decide⟩
 have rowAt: ∀e∈more,∃i:Nat,((g wid).getD []++more)[i]? =some e/\(O6 wid e).key=dP wid (i+1):=λe P=>by
  obtain⟨i,hi⟩:=DG P;have:((g wid).getD []++more)[((g wid).getD []).length+i]? =some e:=by rw[Fo (by omega),Tr];exact hi
  exact⟨_,this,Rw L this⟩
 refine⟨λd v C w=>?_,λd v=>?_,λf N=>?_,λd l D=>?_,λf x k=>?_⟩
 ·have j:=se w;by_cases e:d=wid
  ·subst e;rw[IB,HM];by_cases G: ∃p∈more.map (O6 d),p.key=C
   ·obtain⟨p,B,rfl⟩:=G;obtain⟨m,y,rfl⟩:=List.mem_map.1 B;obtain⟨i,hi,Q⟩:=rowAt m y;have R:O6 d m∈Ua d ((g d).getD []++more):=List.mem_map.2 ⟨m,AG hi,rfl⟩;rw[Sorted.find (ZH O L) R,na s (Hb _ B) (λq h c=>?_)]
    ·rfl
    ·rcases List.mem_append.1 h with a|a
     ·obtain⟨S,T,rfl⟩:=List.mem_map.1 a;obtain⟨U,H,V⟩:=rowAt S T;have Y:=(List.getElem?_eq_some_iff.1 hi).1;have Z:=(List.getElem?_eq_some_iff.1 H).1;rw[Q,V] at c;have:=(ATZ (Fs F) (Fs F) (by omega) (by omega) c).2;have:U=i:=by omega
      subst this;rw[hi] at H;cases H;rfl
     ·rcases List.mem_append.1 a with a|a
      ·rw[List.mem_singleton.1 a] at c;rw[<- c] at j;rw[show BL (VG d ((g d).getD []++more)).key=119 from F8 d] at j;exact absurd j (by decide)
      ·exact absurd (by rw[c];exact j) (u q a).1
   ·rw[Ky s λq h c=>?_,o.cy d v C w]
    ·unfold Ua;rw[Cl,M.MV,M.EQ (l:=more.map (O6 d)) λx k W=>G ⟨x,k,W⟩];cases Ab C (List.map (O6 d) ((g d).getD []))<;>rfl
    ·rcases List.mem_append.1 h with a|a
     ·exact G ⟨q,a,c⟩
     ·rcases List.mem_append.1 a with a|a
      ·rw[List.mem_singleton.1 a] at c;rw[<- c] at j;rw[show BL (VG d ((g d).getD []++more)).key=119 from F8 d] at j;exact absurd j (by decide)
      ·exact absurd (by rw[c];exact j) (u q a).1
  ·rw[Sy e,Ky s λq h c=>?_,o.cy d v C w];rcases List.mem_append.1 h with a|a
   ·obtain⟨m,y,rfl⟩:=List.mem_map.1 a;rw[<- c] at w;exact e (zL (Fs v) (Fs F) w)
   ·rcases List.mem_append.1 a with a|a
    ·rw[List.mem_singleton.1 a] at c;rw[<- c] at j;rw[show BL (VG wid ((g wid).getD []++more)).key=119 from F8 wid] at j;exact absurd j (by decide)
    ·exact absurd (by rw[c];exact j) (u q a).1
 ·by_cases e:d=wid
  ·subst e;rw[IB];refine(na (p:=VG d ((g d).getD []++more)) s (by simp) λq h c=>?_).trans rfl;rcases List.mem_append.1 h with a|a
   ·obtain⟨m,y,rfl⟩:=List.mem_map.1 a;have:=congrArg BL c;rw[show BL (O6 d m).key=104 from XB _ _,show BL (VG d ((g d).getD []++more)).key=119 from F8 d] at this;exact absurd this (by decide)
   ·rcases List.mem_append.1 a with a|a
    ·exact List.mem_singleton.1 a
    ·exact absurd ((congrArg BL c).trans (F8 d)) (u q a).2
  ·rw[Sy e,Ky s λq h c=>?_,o.fH d v];rcases List.mem_append.1 h with a|a
   ·obtain⟨m,y,rfl⟩:=List.mem_map.1 a;have:=congrArg BL c;rw[show BL (O6 wid m).key=104 from XB _ _,F8] at this;exact absurd this (by decide)
   ·rcases List.mem_append.1 a with a|a
    ·rw[List.mem_singleton.1 a] at c;exact e (AQH c).symm
    ·exact absurd ((congrArg BL c).trans (F8 d)) (u q a).2
 ·have no: ∀q∈more.map (O6 wid)++([VG wid ((g wid).getD []++more)]++b),q.key=LA f-> ∃x,t=some (f,x)/\q=fy f x:=λq h c=>by
   have n:=(congrArg BL c).trans (KY f);rcases List.mem_append.1 h with a|a
   ·obtain⟨m,y,rfl⟩:=List.mem_map.1 a;rw[show BL (O6 wid m).key=104 from XB _ _] at n;exact absurd n (by decide)
   ·rcases List.mem_append.1 a with a|a
    ·rw[List.mem_singleton.1 a,show BL (VG wid ((g wid).getD []++more)).key=119 from F8 wid] at n;exact absurd n (by decide)
    ·rcases A.eg q a with a|⟨r,x,X,rfl⟩
     ·exact absurd n a.2.2
     ·have:r=f:=zM c;subst this;exact⟨x,X,rfl⟩
  cases t with
  |none=>
   rw[Ky s λq h c=>?_,o.jX f N]
   ·rfl
   ·obtain⟨x,k,_⟩:=no q h c;cases k
  |some I=>
   obtain⟨r,x⟩:=I;show _=(cU z r x f).map (fy f);by_cases e:f=r
   ·subst e;rw[IB];refine(na (p:=fy f x) s ?_ λq h c=>?_).trans rfl
    ·exact ID _ (ID _ (A.has f x rfl).1)
    ·obtain⟨J,K,rfl⟩:=no q h c;cases K;rfl
   ·rw[Sy e,Ky s λq h c=>?_,o.jX f N];obtain⟨J,K,_⟩:=no q h c;cases K;exact e rfl
 ·by_cases e:d=wid
  ·subst e;rw[IB] at D;cases D;exact n
  ·rw[Sy e] at D;exact o.cR d l D
 ·cases t with
  |none=>exact o.jY f x k
  |some I=>
   obtain⟨r,J⟩:=I;have k:cU z r J f=some x:=k;by_cases e:f=r
   ·subst e;rw[IB] at k;cases k;exact(A.has f x rfl).2.2
   ·rw[Sy e] at k;exact o.jY f x k
theorem Jc.aF {f b:List Pr}{i:cn}{j:cL}(a:Jc f i j)(s:Sorted f)(g: ∀p∈b,BL p.key≠104/\BL p.key≠119/\BL p.key≠114):Jc (cu f b) i j:=by
 refine⟨λe h m k=>?_,λe h=>?_,λl n=>?_,a.cR,a.jY⟩
 ·rw[Ky s λq c d=>(g q c).1 (by rw[d];exact se k)];exact a.cy e h m k
 ·rw[Ky s λq c d=>(g q c).2.1 (by rw[d];exact F8 e)];exact a.fH e h
 ·rw[Ky s λq c d=>(g q c).2.2 (by rw[d];exact KY l)];exact a.jX l n
theorem Jc.empty:Jc [] (λ_=>none) (λ_=>none):=
 ⟨λb _ d _=>rfl,λb _=>rfl,λc _=>rfl,λb l a=>(by cases a),λc x a=>(by cases a)⟩
theorem ab.and {b:Bool}{a c:Prop}(d:b=true->a)(e:b=false->c):ab b a c:=ab.intro d e
theorem Ll {s:A2Y}(a:s.size<18446744073709551616):(BX (bl s)).length<=10+s.size:=by have:=AZ a;simp only[BX,A1,BF];omega
theorem AEm {x:bI}(a:OA x=true):0<=x.kind/\x.kind<=3/\(x.kind=1\/x.kind=2\/x.kind=3)/\x.name.size<=16/\x.aG.size<=16/\0<=x.tries/\x.tries<=5/\0<=x.az/\x.az<=5/\0<=x.wait/\x.wait<=1000:=by
 have d: ∀ {s:A2Y},Am s=true->s.size<=16:=λa=>(Gt.1 a).2.1
 have z:IQ.size=0:=rfl;unfold OA at a;split at a
 ·rename_i e;simp only[A3,CI,decide_eq_true_eq,Ba] at a;obtain⟨⟨⟨g,h⟩,l⟩,m⟩:=a;have:=d h;rcases g with⟨b,c⟩|⟨b,c⟩
  ·rw[b];omega
  ·have:=d b;omega
 ·split at a
  ·rename_i i e;simp only[A3,decide_eq_true_eq,Ba] at a;obtain⟨⟨⟨⟨b,c⟩,j⟩,k⟩,f⟩:=a;rw[b,c];omega
  ·split at a
   ·rename_i i n e;simp only[A3,decide_eq_true_eq] at a;obtain⟨⟨⟨⟨b,c⟩,j⟩,k⟩,f⟩:=a;have:=d f;rw[b];omega
   ·cases a
theorem AMK {x:bI}(a:OA x=true):(Hy x).length<=100:=by
 obtain⟨b,c,d,e,f,g,h,i,j,k,l⟩:=AEm a;have m:=AZ (n:=x.kind.toNat) (by omega);have o:=AZ (n:=x.tries.toNat) (by omega);have p:=AZ (n:=x.az.toNat) (by omega);have q:=AZ (n:=x.wait.toNat) (by omega);have r:=Ll (s:=x.name) (by omega);have t:=Ll (s:=x.aG) (by omega);unfold Hy;rw[A1];split
 ·simp only[A1];omega
 ·split<;>omega
theorem Ql: ∀ {l:List bI},l.all OA=true->(l.flatMap Hy).length<=l.length*100
 | [],_=>by simp
 |x::l,a=>by
  simp only[N5,A3] at a;have b:=AMK a.1;have c:=Ql a.2;simp only[AM,A1,An];omega
def Zm(p:bL):J0:=J1 #[J7 (Ae (if GJ p then Ce p else [])),J6 J9 (if GJ p then 0 else 130)]
section
variable {A : ao} {h : aa} {R : A2X}
theorem Yk {l:List Ev}{sl:Sl}{t:aW}(v:View dd h sl l)(aw:l.length<=500)(hd: ∀f∈l,f.data.size<1099511627776)(V:Ew TM l=some t)
  (W: ∀y a b c,Ext h y->JQ y t a b c->(∀ x,a.ag=some x\/b.ag=some x\/c.ag=some x->h.size<=x)->R (J1 #[(t.V a b c).v,J6 J9 0,J6 J9 0]) y):
  AA A P KT #[J4 sl.p sl.len sl.cap] h R:=by
 refine AEc ?_;unfold X8;refine ai.mk λax _ X Y E=>ai.mk λay _ F G az=>?_
 rw[E] at F;rw[E];have Z:=Y.trans G;have aa: ∀x,(⟨none,0,0⟩:Sl).ag=some x\/(⟨none,0,0⟩:Sl).ag=some x\/(⟨none,0,0⟩:Sl).ag=some x->h.size+2<=x:=λx d=>by simp[Sl.ag] at d
 refine Loop.rule (λm x k=> ∃(i:Nat) (s:aW) (a b c:Sl),x=((i:Int),())/\m=l.length-i/\i<=l.length/\Ext h k/\k[h.size]? =some (J2 bz.z.c Au (0,0))/\k[h.size+1]? =some (J2 (s.V a b c).c Au (0,0))/\
   JQ k s a b c/\(∀ x,a.ag=some x\/b.ag=some x\/c.ag=some x->h.size+2<=x)/\DI s i/\Ew s (l.drop i)=some t) ?_
  ⟨0,TM,⟨none,0,0⟩,⟨none,0,0⟩,⟨none,0,0⟩,rfl,rfl,A5 _,Z,G.ag X (λh=>h),F,⟨View.nil,View.nil,View.nil⟩,aa,DI.zero,V⟩
 rintro K m _ H ⟨i,s,a,b,c,rfl,rfl,hi,n,I,o,J,fr,L,g⟩ ac;have aA:=v.len;refine ab.intro (λz=>?_) (λz=>?_)
 ·have j:i<l.length:=by simp at z;omega
  obtain⟨f,p⟩: ∃f,l[i]? =some f:=⟨_,A2 j⟩;have ae:=AG p;have af:l.drop i=f::l.drop (i+1):=by rw[FA j];rw[A2 j] at p;cases p;rfl
  rw[af,Ew] at g;split at g;rotate_left
  ·cases g
  rename_i M;refine(v.ext n).idx p λaC _ ag=>Nh.mk f ag ?_
  refine ai.mk λN _ q ah aj=>aD.mk q (A0 8) λak O al aE=>?_
  rw[ni] at O;have r:Ext H ak:=ah.more al λc e=>by subst e;exact A0 _
  have aF:=Ai o;refine A9.mk (s.V a b c) (FP (r.ag o λh=>h)) (Nh.mk f (R7 O) ?_);refine qv (J.ext r) L (by omega) (hd f ae) λaG am an ao ap aq u=>GV.mk _ ⟨_,rfl,?_⟩
  rw[M];have B:=r.trans ap;refine ai.mk λaH _ ar C aI=>aD.mk ar (A0 12) λau Q S aJ=>ab.no rfl ?_
  rw[OY] at Q;have w:Ext H au:=B.more (C.mod.trans S) λc e=>by subst e;exact B.size
  refine A9.mk _ (FP Q) (aD.mk (w.ag o λh=>h) (A0 12) λaK T D aL=>?_);rw[OY] at T;dsimp only;rw[Ac (by omega)];have aM:=r.size;have aN:=C.size;have aO:=B.size;have aP:=w.size;have aQ:=n.size;refine ac (l.length-(i+1)) _ _ (by omega) ⟨i+1,_,am,an,ao,rfl,rfl,j,(n.trans w).more D λc e=>by subst e;omega,D.ag (w.ag I λh=>h) (by omega),T,?_,λx d=>?_,VU L M,g⟩
  ·have av:=aq.ext (C.more S λc e=>by subst e;exact A0 _);exact av.mod D (λx d e=>by have:=u x (.inl d);omega) (λx d e=>by have:=u x (.inr (.inl d));omega) (λx d e=>by have:=u x (.inr (.inr d));omega)
  ·have:=u x d;omega
 ·have j:i=l.length:=by simp at z;omega
  subst j;rw[PC,Ew] at g;obtain rfl:s=t:=Bk g;refine A9.mk (s.V a b c) (FP o) (aD.mk I (A0 12) λN q U aj=>?_);rw[OY] at q;refine A9.mk (s.V a b c) (FP q) (W N a b c (n.more U λc e=>by subst e;exact A0 _) (J.mod U (λx d e=>by have:=fr x (.inl d);omega) (λx d e=>by have:=fr x (.inr (.inl d));omega) (λx d e=>by have:=fr x (.inr (.inr d));omega)) λx d=>by have:=fr x d;omega)
theorem AUq {wid:A2Y}{l:List Ev}{sl:Sl}(s:Am wid=true)(v:View dd h sl l)(S:l.length<=1000)(hd: ∀a∈l,Er a=true/\a.data.size<1099511627776)
  (z: ∀d f,Own Bg AU f d (l.map (O6 wid))->(∀ b,d.ag=some b->h.size<=b)->Ext h f->R (J1 #[J4 d.p d.len d.cap,J6 J9 0]) f):
  AA A P Qj #[J7 wid,J4 sl.p sl.len sl.cap] h R:=by
 refine AI1 ?_;unfold ACM;refine Fa ⟨_,rfl,?_⟩;rw[s];refine ab.no rfl ?_;refine Loop.rule (λm x t=> ∃(i:Nat) (e:Sl),x=(e,(i:Int),())/\m=l.length-i/\i<=l.length/\Ext h t/\Own Bg AU t e ((l.take i).map (O6 wid))/\(∀ b,e.ag=some b->h.size<=b)) ?_
  ⟨0,⟨none,0,0⟩,rfl,rfl,A5 _,Mod.refl,Own.nil,λb k=>by simp[Sl.ag] at k⟩
 rintro K m _ u ⟨i,e,rfl,rfl,hi,g,n,fr⟩ B;dsimp only;have T:=v.len;refine ab.intro (λo=>?_) (λo=>?_)
 ·have j:i<l.length:=by simp at o;omega
  obtain⟨a,p⟩: ∃a,l[i]? =some a:=⟨_,A2 j⟩;obtain⟨ok,C⟩:=hd a (AG p);obtain⟨_,⟨U,V⟩,_⟩:=TW ok;refine(v.ext g).idx p λW _ D=>Nh.mk a D ?_
  refine ai.mk λX _ F G Y=>aD.mk F (A0 8) λH q I Z=>?_
  rw[ni] at q;have J:Ext u H:=G.more I λc L=>by subst L;exact A0 _
  refine Nh.mk a (R7 q) (ANK C λaa w=>?_);unfold oX;rw[ok];refine⟨_,_,rfl,ab.no rfl (AC.mk (AO (w.ag q λh=>h) rfl) ?_)⟩;have ac:=Fs s;rw[show a.id=((a.id.toNat:Nat):Int) from by omega];refine vm (by omega) (by omega) λae M=>⟨_,rfl,?_⟩
  have r:=(J.trans w).trans M;refine ai.aV (E:=Bg) (x:=O6 wid a) rfl Ii (n.ext r) (by simp only[AT,Ax];omega) (by simp only[AT,Ax,maxLen];omega) λd f N O Q af=>?_
  rw[Ac (by omega)];refine B (l.length-(i+1)) _ _ (by omega) ⟨i+1,d,rfl,rfl,j,(g.trans r).more O fr,?_,λb k=>?_⟩
  ·rw[AE,p,DM,Cl];exact N
  ·rcases Q b k with y|y
   ·exact fr b y
   ·have:=(g.trans r).size;omega
 ·have j:i=l.length:=by simp at o;omega
  rw[j,CH] at n;exact z e u n fr g
theorem vu {t:bS}(m: ∀c,Ext h c->R (J1 #[J7 (if Hq ⟨t.kind,t.ref,t.turn⟩ t.wid then fV ⟨t.kind,t.ref,t.turn⟩ t.wid else⟨#[]⟩),J6 J9 (if Hq ⟨t.kind,t.ref,t.turn⟩ t.wid then 0 else 1)]) c):AA A P RD #[t.v] h R:=by
 refine AIZ ?_;unfold xD;refine ai.mk λe _ a o _=>?_
 refine ah.mk λK y=>?_
 have key: ∀j:Bool,j= !Hq ⟨t.kind,t.ref,t.turn⟩ t.wid->K (j,()) e:=λj f=>by
  refine y _ _ ?_;cases b:Hq ⟨t.kind,t.ref,t.turn⟩ t.wid with
  |false=>
   have:=m e o;rw[b] at this f;exact ab.yes f this
  |true=>
   rw[b] at f;refine ab.no f ?_;have z: ∀c,Ext e c->R (J1 #[J7 (fV ⟨t.kind,t.ref,t.turn⟩ t.wid),J6 J9 0]) c:=λc x=>by
    have:=m c (o.trans x);rw[b] at this;exact this
   unfold Hq at b;simp only[A3,Ba] at b;obtain⟨⟨⟨⟨O,Q⟩,k⟩,S,T⟩,U,V⟩:=b;have W:=Fs k;have X:=AZ (n:=t.kind.toNat) (by omega);have Y:=AZ (n:=t.ref.toNat) (by omega);have Z:=AZ (n:=t.turn.toNat) (by omega);have aa:=Ll (s:=t.wid) (by omega);refine AC.mk (AO a rfl) (AL.mk (n:=t.wid) (AB a rfl) (AC.mk (n:=t.ref) (AB a rfl) (AC.mk (n:=t.turn) (AB a rfl) ?_)));rw[Po (n:=t.kind) (by omega) (by omega)];refine Cj (by omega) λac p=>⟨_,rfl,?_⟩
   have g:=p.ag a λh=>h
   refine⟨AB g rfl,AB g rfl,AB g rfl,LU (by omega) λae r=>⟨_,rfl,?_⟩⟩;have l:=r.ag g λh=>h
   refine⟨AB l rfl,AB l rfl,by rw[AP,AP,max_i64];omega,?_⟩;rw[Po (n:=t.ref) (by omega) (by omega)];refine Cj (by omega) λaf u=>⟨_,rfl,?_⟩
   have B:=u.ag l λh=>h
   refine⟨AB B rfl,by rw[Aq,AP,AP,max_i64,A1];omega,?_⟩;rw[Po (n:=t.turn) (by omega) (by omega)];refine Cj (by omega) λi C=>⟨_,rfl,⟨by rw[Aq,Aq,AP,AP,max_i64,A1,A1];omega,?_⟩⟩
   rw[Aq,Aq,Aq,A4,A4];exact z i (((p.trans r).trans u).trans C)
 have no: ∀ {P:Prop},¬P->(Hq ⟨t.kind,t.ref,t.turn⟩ t.wid=true->P)->K (true,()) e:=λD hi=>key true (by
  cases b:Hq ⟨t.kind,t.ref,t.turn⟩ t.wid with
  |false=>rfl
  |true=>exact absurd (hi b) D)
 have d:Hq ⟨t.kind,t.ref,t.turn⟩ t.wid=true->(1<=t.kind/\t.kind<=7)/\Am t.wid=true/\(0<=t.ref/\t.ref<=500)/\0<=t.turn/\t.turn<=5:=λb=>by
  unfold Hq at b;simp only[A3,Ba] at b;obtain⟨⟨⟨E,k⟩,F⟩,G⟩:=b;exact⟨E,k,F,G⟩
 refine AC.mk (AO a rfl) (ab.intro (λq=>no (P:=1<=t.kind) (by simp at q;omega) λh=>(d h).1.1) λH=>?_);refine AC.mk (AO a rfl) (ab.intro (λq=>no (P:=t.kind<=7) (by simp at q;omega) λh=>(d h).1.2) λI=>?_);refine AL.mk (n:=t.wid) (AB a rfl) (Fa ⟨_,rfl,ab.intro (λq=>no (P:=Am t.wid=true) (by simp at q;simp[q]) λh=>(d h).2.1) λv=>?_⟩);refine AC.mk (n:=t.ref) (AB a rfl) (ab.intro (λq=>no (P:=0<=t.ref) (by simp at q;omega) λh=>(d h).2.2.1.1) λJ=>?_);refine AC.mk (n:=t.ref) (AB a rfl) (ab.intro (λq=>no (P:=t.ref<=500) (by simp at q;omega) λh=>(d h).2.2.1.2) λL=>?_);refine AC.mk (n:=t.turn) (AB a rfl) (ab.intro (λq=>no (P:=0<=t.turn) (by simp at q;omega) λh=>(d h).2.2.2.1) λw=>?_);refine AC.mk (n:=t.turn) (AB a rfl) (key _ ?_);unfold Hq;simp at H I v J L w;have M:bQ t.kind 1 7=true:=Ba.2 (by omega);have N:bQ t.ref 0 500=true:=Ba.2 (by omega);rw[M,N,v];show _= !(bQ t.turn 0 5);unfold bQ;by_cases i:t.turn<=5
 ·simp[i,w]
 ·simp[i];omega
theorem vv {s:Sl}{p:bL}(v:View TF h s p.steps)(U:p.steps.length<=1099511627776)(G: ∀b,Ext h b->R (Zm p) b):
  AA A P NV #[.agg #[J4 s.p s.len s.cap,J6 J9 p.au]] h R:=by
 refine AEP ?_;unfold Xy;refine ai.mk λaE _ u k _=>?_
 refine AV.mk (s:=s) (AO u rfl) (AC.mk (AB u rfl) ?_);refine AHl (p:=p) (v.ext k) U λw o=>⟨_,rfl,?_⟩
 cases q:GJ p with
 |false=>
  refine ab.yes rfl ?_;have:=G w (k.trans o);rw[Zm,q] at this;exact this
 |true=>
  refine ab.no rfl ?_;have V: ∀b,Ext w b->R (J1 #[J7 (Ae (Ce p)),J6 J9 0]) b:=λb x=>by
   have:=G b ((k.trans o).trans x);rw[Zm,q] at this;exact this
  simp only[GJ,A3,decide_eq_true_eq] at q;obtain⟨⟨aF,W⟩,H⟩:=q;have aG:=Ba.1 W;have y:=o.ag u (λh=>h);refine AC.mk (n:=p.au) (AB y rfl) (AV.mk (s:=s) (AO y rfl) ?_);rw[Po (n:=p.au) (by omega) (by omega)];refine Cj (by omega) λaH I=>⟨_,rfl,?_⟩
  have J:=I.ag y (λh=>h);refine⟨AO J rfl,?_⟩;rw[v.len,CL (by omega)];have aI:=AZ (n:=p.au.toNat) (by omega);have aJ:=AZ (n:=p.steps.length) (by omega);refine Cj (by omega) λX L=>⟨_,rfl,⟨by rw[AP,AP,max_i64];omega,?_⟩⟩
  have Y:=L.ag J (λh=>h);rw[Aq];refine AV.mk (s:=s) (AO Y rfl) ?_;refine Loop.rule (λm x f=> ∃i:Nat,x=(Ae ((Bt p.au.toNat++Bt p.steps.length)++(p.steps.take i).flatMap Hy),(i:Int),())/\Ext X f/\m=p.steps.length-i/\i<=p.steps.length) ?_ ⟨0,by simp,Mod.refl,rfl,by omega⟩;rintro K m _ f ⟨i,rfl,M,rfl,hi⟩ Z;have N:Ext w f:=(I.trans L).trans M;have aa:Ext h f:=(k.trans o).trans N;dsimp only;have aK:=v.len;refine ab.intro (λz=>?_) (λz=>?_)
  ·have B:i<p.steps.length:=by simp at z;omega
   obtain⟨x,C⟩: ∃x,p.steps[i]? =some x:=⟨_,A2 B⟩;have ac:=AG C;have af:=List.all_eq_true.1 H x ac;obtain⟨aL,aM,aN,aO,aP,aQ,aR,aS,aT,aU,aV⟩:=AEm af;have aW:((p.steps.take i).flatMap Hy).length<=1600:=by
    have:=Ql (l:=p.steps.take i) (List.all_eq_true.2 λag aj=>List.all_eq_true.1 H ag (DE aj));have:(p.steps.take i).length<=16:=by simp;omega
    omega
   have fin: ∀b,Ext f b->K (Ae (((Bt p.au.toNat++Bt p.steps.length)++(p.steps.take i).flatMap Hy)++Hy x),J8 J9 ((i:Int)+1),()) b:=λb ak=>by
    rw[Ac (by omega)];refine Z (p.steps.length-(i+1)) _ _ (by omega) ⟨i+1,?_,M.trans ak,rfl,B⟩;rw[AE,C,DM,JT];simp[A4]
   generalize al:(Bt p.au.toNat++Bt p.steps.length)++(p.steps.take i).flatMap Hy=am at*
   have aX:am.length<=2000:=by rw[<- al];simp only[A1];omega
   refine(v.ext aa).idx C λa _ c=>?_
   obtain⟨an,ao,ap,aq,ar,au⟩:=ATA c;refine AC.mk an (AL.mk ao (AL.mk ap (AC.mk aq (AC.mk ar (AC.mk au ?_)))));refine ai.mk λaY _ av aw aZ=>ae.pw av λax O ay a0=>?_
   have az:Ext f ax:=aw.more ay λc a1=>by omega
   refine AC.mk (n:=x.kind) (AO O rfl) ?_;rw[Po (n:=x.kind) (by omega) (by omega)];refine Cj (by omega) λa2 Q=>⟨_,rfl,?_⟩
   have a3:=AZ (n:=x.kind.toNat) (by omega);refine⟨by rw[AP,AP,max_i64];omega,?_⟩;have d:=Q.ag O (λh=>h);have D:=az.trans Q;rw[Aq];refine AC.mk (n:=x.kind) (AO d rfl) ?_;have a4:=AZ (n:=x.tries.toNat) (by omega);have a5:=AZ (n:=x.az.toNat) (by omega);have a6:=AZ (n:=x.wait.toNat) (by omega);have a7:=Ll (s:=x.name) (by omega);have a8:=Ll (s:=x.aG) (by omega);refine ah.mk λa9 E=>?_
   refine ab.intro (λe=>?_) (λe=>?_)
   ·have e:x.kind=1:=by simpa using e
    refine AL.mk (n:=x.name) (AB d rfl) (AC.mk (n:=x.tries) (AB d rfl) (AL.mk (n:=x.aG) (AB d rfl) (AC.mk (n:=x.az) (AB d rfl) (LU (by omega) λr j=>⟨_,rfl,?_⟩))));have t:=j.ag d (λh=>h);refine⟨AB t rfl,AB t rfl,AB t rfl,?_⟩;rw[Po (n:=x.tries) (by omega) (by omega)];refine Cj (by omega) λba S=>⟨_,rfl,?_⟩
    have F:=S.ag t (λh=>h);refine⟨AB F rfl,AB F rfl,by rw[AP,AP,max_i64];omega,?_⟩;refine LU (by omega) λbb T=>⟨_,rfl,?_⟩
    have aA:=T.ag F (λh=>h);refine⟨AB aA rfl,by rw[Aq,AP,AP,max_i64,A1];omega,?_⟩;rw[Po (n:=x.az) (by omega) (by omega)];refine Cj (by omega) λaC aD=>⟨_,rfl,⟨?_,?_,E _ _ ?_⟩⟩
    ·rw[Aq,Aq,AP,AP,max_i64];simp only[A1];omega
    ·simp only[Aq,AP,max_i64,A1];omega
    ·have:=fin aC ((((D.trans j).trans S).trans T).trans aD);simp only[Hy] at this;rw[if_pos e] at this;simp only[Aq,A4] at this ⊢;exact this
   ·have e:x.kind≠1:=by simpa using e
    refine ab.intro (λg=>?_) (λg=>?_)
    ·have g:x.kind=2:=by simpa using g
     refine AC.mk (n:=x.wait) (AB d rfl) ?_;rw[Po (n:=x.wait) (by omega) (by omega)];refine Cj (by omega) λr j=>⟨_,rfl,⟨by rw[AP,AP,max_i64,A1];omega,E _ _ ?_⟩⟩
     have:=fin r (D.trans j);simp only[Hy] at this;rw[if_neg e,if_pos g] at this;simp only[Aq,A4] at this ⊢;exact this
    ·have g:x.kind≠2:=by simpa using g
     refine ab.yes (by simp;omega) (AL.mk (n:=x.name) (AB d rfl) (LU (by omega) λr j=>⟨_,rfl,⟨by rw[AP,AP,max_i64,A1];omega,E _ _ ?_⟩⟩));have:=fin r (D.trans j);simp only[Hy] at this;rw[if_neg e,if_neg g] at this;simp only[Aq,A4] at this ⊢;exact this
  ·have B:i=p.steps.length:=by simp at z;omega
   have:=V f N;rw[AD (by omega)];exact this
end
def Mw(a:Nat):A2Y:=Ae [116,Cu a]
def Hm(a:Nat):A2Y:=Ae [109,Cu a]
def Mo(name:A2Y):A2Y:=Ae (113::BX (bl name))
section
variable {A : ao} {h : aa} {R : A2X}
theorem AQU {a:Nat}(c:a<256)(d: ∀b,Ext h b->R (J7 (Mw a)) b):AA A P Ju #[J6 J9 (a:Int)] h R:=by
 refine Qw ?_;unfold NI;refine nC c λe f=>⟨_,rfl,⟨by rw[AP,max_i64];show((2:Nat):Int)<=9223372036854775807;decide,?_⟩⟩
 rw[show(⟨#[116]⟩:A2Y)=Ae [116] from rfl,Aq];exact d e f
theorem AP6 {a:Nat}(c:a<256)(d: ∀b,Ext h b->R (J7 (Hm a)) b):AA A P Na #[J6 J9 (a:Int)] h R:=by
 refine VM ?_;unfold Rm;refine nC c λe f=>⟨_,rfl,⟨by rw[AP,max_i64];show((2:Nat):Int)<=9223372036854775807;decide,?_⟩⟩
 rw[show(⟨#[109]⟩:A2Y)=Ae [109] from rfl,Aq];exact d e f
theorem YV {name:A2Y}(a:name.size<=1000000):(Mo name).size<=1000012:=by
 have b:=AZ (n:=(bl name).length) (by rw[BF];omega);unfold Mo;rw[AP];unfold BX;rw[An,A1,BF] at*
 omega
theorem uL {name:A2Y}(c:name.size<=1000000)(d: ∀a,Ext h a->R (J7 (Mo name)) a):AA A P Qr #[J7 name] h R:=by
 refine AJb ?_;unfold wZ;have b:=YV c;unfold Mo at b;rw[AP,An] at b;refine LU (by omega) λe f=>⟨_,rfl,⟨?_,?_⟩⟩
 ·rw[AP,max_i64,show(⟨#[113]⟩:A2Y).size=1 from rfl];omega
 ·rw[show(⟨#[113]⟩:A2Y)=Ae [113] from rfl,Aq];exact d e f
theorem APH {name id:A2Y}(a:name.size<=1000000)(hi:id.size<=1000000)(c: ∀b,Ext h b->R (J7 (Mo name++id)) b):AA A P RU #[J7 name,J7 id] h R:=by refine AFM ?_;unfold YN;exact uL a λd e=>⟨_,rfl,⟨by have:=YV a;rw[max_i64];omega,c d e⟩⟩
theorem uM {t:fE}{wid:A2Y}(ok:Hq t wid=true)(r: ∀j,Ext h j->R (J1 #[(⟨t.kind,wid,t.ref,t.turn⟩:bS).v,J6 J9 0]) j):AA A P KV #[J7 (fV t wid)] h R:=by
 have k:=ok;simp only[Hq,A3] at k;obtain⟨⟨⟨k0,s⟩,u⟩,v⟩:=k;have U:=Ba.1 k0;have V:=Ba.1 u;have W:=Ba.1 v;have X:=(Gt.1 s).2.1;have Y:=F3 (n:=t.kind.toNat) (by omega);have Z:=F3 (n:=t.ref.toNat) (by omega);have aa:=F3 (n:=t.turn.toNat) (by omega);have w:=AZ (n:=(bl wid).length) (by rw[BF];omega);have ac:(BX (bl wid)).length<=26:=by unfold BX;rw[A1,BF];rw[BF] at w;omega
 refine AFa ?_;unfold Xf fV lW;refine ai.mk λx _ l m ae=>?_
 refine N7 λaf y d=>⟨_,rfl,?_⟩
 refine Ei (most:=7) y (by simp only[A1];omega) (by decide) λag z B=>⟨_,rfl,?_⟩
 rw[De (by omega) (by omega)] at*
 refine Iw z (by simp only[A1];omega) λaj C D=>⟨_,rfl,?_⟩
 rw[Iz (by rw[BF];omega)] at*
 refine Ei (most:=500) C (by simp only[A1];omega) (by decide) λak E F=>⟨_,rfl,?_⟩
 rw[De (by omega) (by omega)] at*
 have G:CZ 5 ⟨Bt t.turn.toNat,false⟩=(t.turn.toNat,⟨[],false⟩):=by have:=De (n:=t.turn.toNat) (most:=5) (by omega) (by omega) [];rwa [AI] at this
 refine Ei (most:=5) E (by simp only;omega) (by decide) λH o I=>⟨_,rfl,?_⟩
 rw[G] at*
 rw[Qs,show((t.kind.toNat:Nat):Int)=t.kind from P0 (by omega),show((t.ref.toNat:Nat):Int)=t.ref from P0 (by omega),show((t.turn.toNat:Nat):Int)=t.turn from P0 (by omega)];refine ai.mk λal _ J e am=>aD.mk J (A0 4) λf p g an=>JH.mk ⟨t.kind,wid,t.ref,t.turn⟩ (Bz p rfl) ?_
 have ao:=Ai l;have ap:=d.size;have i:=((B.trans D).trans F).trans I;have aq:=i.size;have L:f[h.size]? =some (J2 bS.z.c Fj (0,0)):=g.ag (e.ag (i.ag (d.ag l (λh=>h)) (by omega)) (λh=>h)) (by omega);have M:LF f x.size ⟨[],false⟩:=g.ag (e.ag o (λh=>h)) (by have:=Ai o;omega);have N:Ext h f:=by
  have q:Ext h H:=(m.trans d).more i λc a=>by subst a;exact m.size
  exact(q.trans e).more g λc a=>by subst a;exact q.size
 refine vu λar b=>⟨_,_,rfl,?_⟩
 rw[show(⟨t.kind,t.ref,t.turn⟩:fE)=t from rfl,if_pos ok];refine ah.mk λK O=>ab.no rfl (Qk (b.ag M λh=>h) ⟨_,rfl,O _ _ (ab.no rfl ?_)⟩)
 refine JH.mk ⟨t.kind,wid,t.ref,t.turn⟩ (Bz (b.ag p λh=>h) rfl) (aD.mk (b.ag L λh=>h) (A0 4) λQ S T au=>JH.mk ⟨t.kind,wid,t.ref,t.turn⟩ (Bz S rfl) ?_);exact r Q ((N.trans b).more T λc a=>by subst a;exact A0 _)
end
end Go.Lf.G
namespace Go.Lf
open G
open Go
open M (Sorted Ab Bw BJ Af Ak BN Ah ba BB aH Az)
theorem View.dh {c:Type}{d:cr c}{e:Nat->Prop}{h f:aa}{s:Sl}{l:List c}(v:View d h s l)(m:Mod e h f)(j:l≠ []-> ∀b,s.ag=some b-> ¬e b):View d f s l:=by
 cases l with
 |nil=>exact⟨v.len,v.cap,λi x k=>by simp at k⟩
 |cons x l=>exact v.mod m (j (by simp))
end Go.Lf
namespace Go.Lf.G
open Go
open M (Sorted Ab Bw BJ Af Ak BN Ah ba BB aH Az)
end Go.Lf.G
namespace Go.Lf
open G
open Go
open M (Sorted Ab Bw BJ Af Ak BN Ah ba BB aH Az)
theorem View.kR {f:Type}{d:cr f}{h:aa}{s:Sl}{l:List f}(v:View d h s l)(j:l≠ []){b:Nat}(e:s.ag=some b):b<h.size:=by
 cases l with
 |nil=>exact absurd rfl j
 |cons x l=>
  obtain⟨a,k,c⟩:=v.cells 0 x rfl;have m:0<(d.enc x).length:=by rw[d.len];exact d.pos
  have:=Zt (c 0 _ (A2 m));rw[aP,aP] at this;unfold Sl.ag at e;rw[k] at e;cases e;exact this
end Go.Lf
namespace Go.Lf.G
open Go
open M (Sorted Ab Bw BJ Af Ak BN Ah ba BB aH Az)
theorem ae.mJ {h:aa}{b d:Nat}{v:J0}{l l':List J0}{T:Q7}{K:aa->Prop}(e:h[b]? =some (J2 ⟨l⟩ T (0,0)))(f:d<l.length)(j:l.set d v=l')
  (k: ∀c,c[b]? =some (J2 ⟨l'⟩ T (0,0))->Mod (· =b) h c->c.size=h.size->K c):ae h ((⟨b,0,none⟩:Q6).add d) v K:=
 ae.bE e f (Vc l d v) λc m=>k c (by rw[<- j];exact m)
theorem Cm {h:aa}{b j:Nat}{l:List J0}{T:Q7}{fr:Nat×Nat}{v:J0}(c:h[b]? =some (J2 ⟨l⟩ T fr))(d:l[j]? =some v):af h ((⟨b,0,none⟩:Q6).add j)=some v:=
 AB c (by simp_all)
theorem Ct {h:aa}{b i c:Nat}{l:List J0}{T:Q7}{fr:Nat×Nat}{v:J0}(d:h[b]? =some (J2 ⟨l⟩ T fr))(e:l[i+c]? =some v):af h (((⟨b,0,none⟩:Q6).add i).add c)=some v:=by rw[add_add];exact Cm d e
theorem AUG {h:aa}{b i c d:Nat}{l:List J0}{T:Q7}{fr:Nat×Nat}{v:J0}(e:h[b]? =some (J2 ⟨l⟩ T fr))(f:l[i+(c+d)]? =some v):af h ((((⟨b,0,none⟩:Q6).add i).add c).add d)=some v:=by rw[add_add];exact Ct e f
structure dR where
 hp:Nat
 ev:Sl
 fs:bz
 a:Sl
 b:Sl
 c:Sl
 more:Sl
 ar:Sl
 conds:Sl
abbrev dR.l(x:dR)(C:bd):List J0:= [Ap x.hp,J7 C.wid,J6 J9 (C.aj:Int),J6 J9 C.bW,J6 J9 C.bP,J3 C.kept,J4 x.ev.p x.ev.len x.ev.cap,
 J4 x.fs.steps.p x.fs.steps.len x.fs.steps.cap,J6 J9 x.fs.au,J6 J9 x.fs.status,J6 J9 x.fs.next,J6 J9 x.fs.aO,J6 J9 x.fs.asked,J6 J9 x.fs.taken,J3 x.fs.fresh,J4 x.fs.aw.p x.fs.aw.len x.fs.aw.cap,J4 x.fs.aq.p x.fs.aq.len x.fs.aq.cap,J3 x.fs.cancel,J3 x.fs.aL,
 J4 x.a.p x.a.len x.a.cap,J6 J9 C.st.prog.au,J6 J9 C.st.status,J6 J9 C.st.next,J6 J9 C.st.aO,J6 J9 C.st.asked,J6 J9 C.st.taken,J3 C.st.fresh,J4 x.b.p x.b.len x.b.cap,J4 x.c.p x.c.len x.c.cap,J3 C.st.cancel,J3 C.st.aL,
 J4 x.more.p x.more.len x.more.cap,J4 x.ar.p x.ar.len x.ar.cap,J4 x.conds.p x.conds.len x.conds.cap,J6 J9 C.err,J6 J9 C.now]
structure Fy (h:aa) (cb:Nat) (z:Nat->Nat) (x:dR) (C:bd):Prop where
 ag:h[cb]? =some (J2 ⟨x.l C⟩ OI (0,0))
 zc:z cb=1
 st:JQ h C.st x.a x.b x.c
 zs: ∀y,(C.st.prog.steps≠ []/\x.a.ag=some y)\/(C.st.aw≠ []/\x.b.ag=some y)\/(C.st.aq≠ []/\x.c.ag=some y)->z y=5
 more:Own dd A8 h x.more C.more
 zm: ∀y,x.more.ag=some y->z y=2
 ar:Own Bg AU h x.ar C.ar
 zp: ∀y,x.ar.ag=some y->z y=3
 conds:Own Bg AU h x.conds C.conds
 zq: ∀y,x.conds.ag=some y->z y=4
theorem JQ.dh {k:Nat->Prop}{h n:aa}{s:aW}{a b c:Sl}(f:JQ h s a b c)(m:Mod k h n)(j: ∀y,(s.prog.steps≠ []/\a.ag=some y)\/(s.aw≠ []/\b.ag=some y)\/(s.aq≠ []/\c.ag=some y)-> ¬k y):JQ n s a b c:=
 ⟨f.steps.dh m λd y e=>j y (.inl ⟨d,e⟩),f.aw.dh m λd y e=>j y (.inr (.inl ⟨d,e⟩)),f.aq.dh m λd y e=>j y (.inr (.inr ⟨d,e⟩))⟩
section
variable {A : ao} {B : cX} {g h : aa} {s a N sh cb : Nat} {l : List Hs} {mp : List Pr} {O : Nat -> Prop} {i : Nat} {y : Hs} {z : Nat -> Nat} {x : dR} {C : bd} {R : A2X}
theorem Fy.mod {f:Nat->Prop}{j:aa}(b:Fy h cb z x C)(m:Mod f h j)(e: ∀c,z c≠0-> ¬f c):Fy j cb z x C:=
 ⟨m.ag b.ag (e cb (by rw[b.zc];decide)),b.zc,b.st.dh m λy d=>e y (by rw[b.zs y d];decide),b.zs,b.more.mod m λy d=>e y (by rw[b.zm y d];decide),b.zm,b.ar.mod m λy d=>e y (by rw[b.zp y d];decide),b.zp,b.conds.mod m λy d=>e y (by rw[b.zq y d];decide),b.zq⟩
theorem Fy.on {b:aa}(c:Fy h cb z x C)(m:Ext h b):Fy b cb z x C:=c.mod m λ_ _ h=>h
theorem Fy.cell {d:aa}(b:Fy h cb z x C){f:Int}(m:Mod (· =cb) h d)(k:d[cb]? =some (J2 ⟨x.l {C with err:=f}⟩ OI (0,0))):Fy d cb z x {C with err:=f}:=by
 have ne: ∀y e,z y=e->e≠1-> ¬y=cb:=λy e j n o=>by subst o;rw[b.zc] at j;exact n j.symm
 exact⟨k,b.zc,b.st.dh m λy c=>ne y 5 (b.zs y c) (by decide),b.zs,b.more.mod m λy c=>ne y 2 (b.zm y c) (by decide),b.zm,b.ar.mod m λy c=>ne y 3 (b.zp y c) (by decide),b.zp,b.conds.mod m λy c=>ne y 4 (b.zq y c) (by decide),b.zq⟩
theorem Fy.err(c:Fy h cb z x C){d:Int}{K:aa->Prop}(e: ∀b,Fy b cb z x {C with err:=d}->Mod (· =cb) h b->b.size=h.size->K b):ae h ((⟨cb,0,none⟩:Q6).add 34) (J6 J9 d) K:=
 ae.mJ c.ag (of_decide_eq_true rfl) rfl λb f m j=>e b (c.cell m f) m j
def gE(z:Nat->Nat)(s:Sl)(b:Nat):Nat->Nat:=λc=>if s.ag=some c then b else z c
theorem qx {s:Sl}{b c:Nat}(h:s.ag=some c):gE z s b c=b:=if_pos h
theorem qy {e f:Sl}{j:Nat}(k: ∀c,z c≠0->c<h.size)(m: ∀y,e.ag=some y->z y=j)(n: ∀b,f.ag=some b->e.ag=some b\/h.size<=b){c d:Nat}(o:z c=d)(p:d≠0):gE z f j c=d:=by grind [gE]
theorem qz {f d:Sl}{e:Nat}{j:aa}(k: ∀y,f.ag=some y->z y=e)(m:e≠0)(n: ∀b,d.ag=some b->f.ag=some b\/h.size<=b)(o: ∀b,d.ag=some b->b<j.size){c:Nat}(p:gE z d e c≠0):z c≠0\/(h.size<=c/\c<j.size):=by grind [gE]
theorem Fy.kS(d:Fy h cb z x C)(H: ∀c,z c≠0->c<h.size){src:Sl}{f:Ev}(v:View dd h src [f])(V:C.more.length<1000){K:aa->Prop}
  (M: ∀r j I,Fy r cb I {x with more:=j} {C with more:=C.more++ [f]}->Mod (λc=>z c≠0) h r->(∀ c,I c≠0->z c≠0\/(h.size<=c/\c<r.size))->K r):
  Ad A P (Builtin.append_ #[Bd,Bd] Bd #[J4 x.more.p x.more.len x.more.cap,J4 src.p src.len src.cap]) h λv n=> ∃t:Sl,v=J4 t.p t.len t.cap/\ae n ((⟨cb,0,none⟩:Q6).add 31) (J4 t.p t.len t.cap) K:=by
 refine IZ (E:=dd) (s:=x.more) (src:=src) my d.more v (by grind) (by simp only[BE,maxLen];omega) λj n J o L _=>?_
 have u: ∀c k,z c=k->k≠2-> ¬x.more.ag=some c:=λc k p D f=>by rw[d.zm c f] at p;exact D p.symm
 have Q:=o.ag d.ag (u cb 1 d.zc (by decide));refine ae.mJ Q (of_decide_eq_true rfl) (l':=({x with more:=j}:dR).l {C with more:=C.more++ [f]}) rfl λD S q W=>?_
 have F: ∀c k,z c=k->k≠1-> ¬c=cb:=λc k p n f=>by subst f;rw[d.zc] at p;exact n p.symm
 have X:=H cb (by rw[d.zc];decide);have T: ∀b,j.ag=some b->b<n.size:=λb w=>J.lt w
 have aF: ∀ {c G:Nat},z c=G->G≠0->gE z j 2 c=G:=λm U=>qy H d.zm L m U
 refine M D j (gE z j 2) ⟨S,aF d.zc (by decide),?_,λy e=>aF (d.zs y e) (by decide),?_,λy e=>qx e,?_,λy e=>aF (d.zp y e) (by decide),?_,λy e=>aF (d.zq y e) (by decide)⟩ ?_ λc m=>?_
 ·exact(d.st.dh o λy e=>u y 5 (d.zs y e) (by decide)).dh q λy e=>F y 5 (d.zs y e) (by decide)
 ·refine J.mod q λb w f=>?_
  grind
 ·exact(d.ar.mod o λy e=>u y 3 (d.zp y e) (by decide)).mod q λy e=>F y 3 (d.zp y e) (by decide)
 ·exact(d.conds.mod o λy e=>u y 4 (d.zq y e) (by decide)).mod q λy e=>F y 4 (d.zq y e) (by decide)
 ·exact(o.ak λc _ m=>by rw[d.zm c m];decide).trans (q.ak λc _ m=>by grind)
 ·exact qz d.zm (by decide) L (λb w=>by have:=T b w;omega) m
theorem Fy.dU(d:Fy h cb z x C)(I: ∀c,z c≠0->c<h.size){p:Pr}(W:C.ar.length<1000){K:aa->Prop}
  (Q: ∀u f J,Fy u cb J {x with ar:=f} {C with ar:=C.ar++ [p]}->Mod (λc=>z c≠0) h u->(∀ c,J c≠0->z c≠0\/(h.size<=c/\c<u.size))->K u):
  ai h (J2 #[J7 p.key,J7 p.val,J3 p.gone] AU) λb m=>Ad A P (Builtin.append_ #[AR,AR] AR #[J4 x.ar.p x.ar.len x.ar.cap,J4 (some (⟨b,0,none⟩:Q6)) 1 1]) m λv n=> ∃t:Sl,v=J4 t.p t.len t.cap/\ae n ((⟨cb,0,none⟩:Q6).add 32) (J4 t.p t.len t.cap) K:=by
 refine ai.aV (E:=Bg) (x:=p) (s:=x.ar) (l:=C.ar) rfl Ii d.ar (by omega) (by simp only[maxLen];omega) λf m L o M _=>?_
 have w: ∀c j,z c=j->j≠3-> ¬x.ar.ag=some c:=λc j q n D=>by rw[d.zp c D] at q;exact n q.symm
 have S:=o.ag d.ag (w cb 1 d.zc (by decide));refine ae.mJ S (of_decide_eq_true rfl) (l':=({x with ar:=f}:dR).l {C with ar:=C.ar++ [p]}) rfl λn T r X=>?_
 have G: ∀c j,z c=j->j≠1-> ¬c=cb:=λc j q m D=>by subst D;rw[d.zc] at q;exact m q.symm
 have Y:=I cb (by rw[d.zc];decide);have U: ∀b,f.ag=some b->b<m.size:=λb F=>L.lt F
 have aF: ∀ {c H:Nat},z c=H->H≠0->gE z f 3 c=H:=λk V=>qy I d.zp M k V
 refine Q n f (gE z f 3) ⟨T,aF d.zc (by decide),?_,λy e=>aF (d.zs y e) (by decide),?_,λy e=>aF (d.zm y e) (by decide),?_,λy e=>qx e,?_,λy e=>aF (d.zq y e) (by decide)⟩ ?_ λc k=>?_
 ·exact(d.st.dh o λy e=>w y 5 (d.zs y e) (by decide)).dh r λy e=>G y 5 (d.zs y e) (by decide)
 ·exact(d.more.mod o λy e=>w y 2 (d.zm y e) (by decide)).mod r λy e=>G y 2 (d.zm y e) (by decide)
 ·refine L.mod r λb F D=>?_
  grind
 ·exact(d.conds.mod o λy e=>w y 4 (d.zq y e) (by decide)).mod r λy e=>G y 4 (d.zq y e) (by decide)
 ·exact(o.ak λc _ k=>by rw[d.zp c k];decide).trans (r.ak λc _ k=>by grind)
 ·exact qz d.zp (by decide) M (λb F=>by have:=U b F;omega) k
theorem Fy.fw(d:Fy h cb z x C)(I: ∀c,z c≠0->c<h.size){p:Pr}(W:C.conds.length<1000){K:aa->Prop}
  (Q: ∀u f J,Fy u cb J {x with conds:=f} {C with conds:=C.conds++ [p]}->Mod (λc=>z c≠0) h u->(∀ c,J c≠0->z c≠0\/(h.size<=c/\c<u.size))->K u):
  ai h (J2 #[J7 p.key,J7 p.val,J3 p.gone] AU) λb m=>Ad A P (Builtin.append_ #[AR,AR] AR #[J4 x.conds.p x.conds.len x.conds.cap,J4 (some (⟨b,0,none⟩:Q6)) 1 1]) m λv n=> ∃t:Sl,v=J4 t.p t.len t.cap/\ae n ((⟨cb,0,none⟩:Q6).add 33) (J4 t.p t.len t.cap) K:=by
 refine ai.aV (E:=Bg) (x:=p) (s:=x.conds) (l:=C.conds) rfl Ii d.conds (by omega) (by simp only[maxLen];omega) λf m L o M _=>?_
 have w: ∀c j,z c=j->j≠4-> ¬x.conds.ag=some c:=λc j q n D=>by rw[d.zq c D] at q;exact n q.symm
 have S:=o.ag d.ag (w cb 1 d.zc (by decide));refine ae.mJ S (of_decide_eq_true rfl) (l':=({x with conds:=f}:dR).l {C with conds:=C.conds++ [p]}) rfl λn T r X=>?_
 have G: ∀c j,z c=j->j≠1-> ¬c=cb:=λc j q m D=>by subst D;rw[d.zc] at q;exact m q.symm
 have Y:=I cb (by rw[d.zc];decide);have U: ∀b,f.ag=some b->b<m.size:=λb F=>L.lt F
 have aF: ∀ {c H:Nat},z c=H->H≠0->gE z f 4 c=H:=λk V=>qy I d.zq M k V
 refine Q n f (gE z f 4) ⟨T,aF d.zc (by decide),?_,λy e=>aF (d.zs y e) (by decide),?_,λy e=>aF (d.zm y e) (by decide),?_,λy e=>aF (d.zp y e) (by decide),?_,λy e=>qx e⟩ ?_ λc k=>?_
 ·exact(d.st.dh o λy e=>w y 5 (d.zs y e) (by decide)).dh r λy e=>G y 5 (d.zs y e) (by decide)
 ·exact(d.more.mod o λy e=>w y 2 (d.zm y e) (by decide)).mod r λy e=>G y 2 (d.zm y e) (by decide)
 ·exact(d.ar.mod o λy e=>w y 3 (d.zp y e) (by decide)).mod r λy e=>G y 3 (d.zp y e) (by decide)
 ·refine L.mod r λb F D=>?_
  grind
 ·exact(o.ak λc _ k=>by rw[d.zq c k];decide).trans (r.ak λc _ k=>by grind)
 ·exact qz d.zq (by decide) M (λb F=>by have:=U b F;omega) k
def TV(t:aW)(a b c:Sl)(y:Nat):Prop:=(t.prog.steps≠ []/\a.ag=some y)\/(t.aw≠ []/\b.ag=some y)\/(t.aq≠ []/\c.ag=some y)
open Classical in
noncomputable def jF (z:Nat->Nat) (t:aW) (a b c:Sl):Nat->Nat:=λy=>if TV t a b c y then 5 else z y
theorem JQ.lt {t:aW}{a b c:Sl}(f:JQ h t a b c){y:Nat}(j:TV t a b c y):y<h.size:=by
 rcases j with⟨d,e⟩|⟨d,e⟩|⟨d,e⟩
 ·exact f.steps.kR d e
 ·exact f.aw.kR d e
 ·exact f.aq.kR d e
theorem Fy.kT {n:aa}{t:aW}{f j k:Sl}(e:Fy h cb z x C)(H: ∀c,z c≠0->c<h.size)(w:Ext h n)(D:JQ n t f j k)(fr: ∀y,f.ag=some y\/j.ag=some y\/k.ag=some y->h.size<=y){K:aa->Prop}
  (I: ∀o E,Fy o cb E {x with a:=f,b:=j,c:=k} {C with st:=t}->Mod (λc=>z c≠0) h o->Mod (· =cb) n o->(∀ c,E c≠0->z c≠0\/(h.size<=c/\c<o.size))->K o):
  aD n ((⟨cb,0,none⟩:Q6).add 19) (t.V f j k).l K:=by
 have q:=e.on w;have J:(⟨cb,0,none⟩:Q6).add 19=⟨cb,19,none⟩:=rfl;rw[J];refine aD.mk q.ag (of_decide_eq_true rfl) λL M m Q=>?_
 have S:=H cb (by rw[e.zc];decide);have P: ∀y,TV t f j k y->h.size<=y:=λy d=>fr y (by
  rcases d with⟨_,h⟩|⟨_,h⟩|⟨_,h⟩
  ·exact .inl h
  ·exact .inr (.inl h)
  ·exact .inr (.inr h))
 have u: ∀c v,z c=v->v≠1-> ¬c=cb:=λc v F n G=>by subst G;rw[e.zc] at F;exact n F.symm
 have aF: ∀ {c r:Nat},z c=r->r≠0->jF z t f j k c=r:=λ{c r} p T=>by
  unfold jF
  grind
 refine I L (jF z t f j k) ⟨M,aF e.zc (by decide),?_,λy d=>if_pos d,q.more.mod m λy d=>u y 2 (e.zm y d) (by decide),λy d=>aF (e.zm y d) (by decide),q.ar.mod m λy d=>u y 3 (e.zp y d) (by decide),λy d=>aF (e.zp y d) (by decide),q.conds.mod m λy d=>u y 4 (e.zq y d) (by decide),λy d=>aF (e.zq y d) (by decide)⟩ ?_ m λc p=>?_
 ·exact D.dh m λy d G=>by grind
 ·exact w.mod.trans (m.ak λc _ p=>by grind)
 ·unfold jF at p;split at p
  ·rename_i d;exact .inr ⟨P c d,by have:=D.lt d;have:=m.size;omega⟩
  ·exact .inl p
theorem Fy.ld(b:Fy h cb z x C):Cells h ((⟨cb,0,none⟩:Q6).add 19) (C.st.V x.a x.b x.c).l:=by have c:(⟨cb,0,none⟩:Q6).add 19=⟨cb,19,none⟩:=rfl;rw[c];exact Bz b.ag rfl
theorem LW.out(b:LW B g h s a N sh l mp O){c:Nat}(d:O c):c<h.size/\g.size<=c:=by
 obtain⟨q,e,st,m,f,nn,C,j,k,n,o,out⟩:=b
 simp_all
structure CW (B:cX) (g h:aa) (s a N sh:Nat) (l:List Hs) (i:Nat) (y:Hs) (mp:List Pr) (O:Nat->Prop) (cb:Nat) (z:Nat->Nat) (x:dR) (C:bd):Prop where
 w:LW B g h s a N sh (l.set i y) mp (λc=>O c\/z c≠0)
 il:i<l.length
 no: ∀c,z c≠0-> ¬O c
 hp:x.hp=y.p
 bq:Fy h cb z x C
theorem CW.fJ(b:CW B g h s a N sh l i y mp O cb z x C): ∀c,z c≠0->c<h.size:=λc d=>(b.w.out (.inr d)).1
theorem CW.zfr(b:CW B g h s a N sh l i y mp O cb z x C): ∀c,z c≠0->aR g O c:=λc d=>⟨(b.w.out (.inr d)).2,b.no c d⟩
theorem CW.frame {b:aa}(d:CW B g h s a N sh l i y mp O cb z x C)(m:Mod (λc=>z c≠0) h b):Mod (aR g O) h b:=m.ak λc _ e=>d.zfr c e
theorem CW.step {d:aa}{f:Nat->Nat}{x':dR}{j:bd}(b:CW B g h s a N sh l i y mp O cb z x C)(m:Mod (λc=>z c≠0) h d)(n: ∀c,f c≠0->z c≠0\/(h.size<=c/\c<d.size))(o:x'.hp=x.hp)(p:Fy d cb f x' j):CW B g d s a N sh l i y mp O cb f x' j:=
 ⟨b.w.own (m.ak λc _ e=> .inr e) λc e=>by
   grind,
  b.il,λc e k=>by
   rcases n c e with h|h
   ·exact b.no c h k
   ·have:=(b.w.out (.inl k)).1;omega,
  o.trans b.hp,p⟩
theorem CW.on {c:aa}(b:CW B g h s a N sh l i y mp O cb z x C)(m:Ext h c):CW B g c s a N sh l i y mp O cb z x C:=⟨b.w.on m,b.il,b.no,b.hp,b.bq.on m⟩
theorem CW.wider {e:aa}{O':Nat->Prop}(b:CW B g h s a N sh l i y mp O cb z x C)(m:Mod O h e)(j: ∀c,O' c->O c\/(h.size<=c/\c<e.size)):CW B g e s a N sh l i y mp O' cb z x C:=
 ⟨b.w.own (m.ak λc _ d=> .inl d) λc d=>by
   grind,
  b.il,λc d f=>by
   rcases j c f with h|h
   ·exact b.no c d h
   ·have:=b.fJ c d;omega,
  b.hp,b.bq.mod m λc d f=>b.no c d f⟩
end
theorem vx {h:aa}{b:Nat}{T:Q7}{fr:Nat×Nat}{c:Ev}(d:h[b]? =some (J2 c.c T fr)):af h (⟨b,0,none⟩:Q6)=some (J6 J9 c.id)/\af h ((⟨b,0,none⟩:Q6).add 1)=some (J6 J9 c.kind)/\af h ((⟨b,0,none⟩:Q6).add 2)=some (J6 J9 c.tick)/\af h ((⟨b,0,none⟩:Q6).add 3)=some (J6 J9 c.ref)/\af h ((⟨b,0,none⟩:Q6).add 4)=some (J6 J9 c.step)/\af h ((⟨b,0,none⟩:Q6).add 5)=some (J6 J9 c.turn)/\af h ((⟨b,0,none⟩:Q6).add 6)=some (J3 c.aG)/\af h ((⟨b,0,none⟩:Q6).add 7)=some (J7 c.data):=
 ⟨AO d rfl,AB d rfl,AB d rfl,AB d rfl,AB d rfl,AB d rfl,AB d rfl,AB d rfl⟩
end Go.Lf.G
namespace Go.Lf
open G
open Go
open M (Sorted Ab Bw BJ Af Ak BN Ah ba BB aH Az)
theorem Cells.jm {h:aa}{a:Q6}{t:bz}(c:Cells h a t.l):af h a=some (J4 t.steps.p t.steps.len t.steps.cap)/\af h (a.add 1)=some (J6 J9 t.au)/\af h (a.add 2)=some (J6 J9 t.status)/\af h (a.add 3)=some (J6 J9 t.next)/\af h (a.add 4)=some (J6 J9 t.aO)/\af h (a.add 5)=some (J6 J9 t.asked)/\af h (a.add 6)=some (J6 J9 t.taken)/\af h (a.add 7)=some (J3 t.fresh)/\af h (a.add 8)=some (J4 t.aw.p t.aw.len t.aw.cap)/\af h (a.add 9)=some (J4 t.aq.p t.aq.len t.aq.cap)/\af h (a.add 10)=some (J3 t.cancel)/\af h (a.add 11)=some (J3 t.aL):=by have b:=c 0 _ rfl;rw[add_zero] at b;exact⟨b,c 1 _ rfl,c 2 _ rfl,c 3 _ rfl,c 4 _ rfl,c 5 _ rfl,c 6 _ rfl,c 7 _ rfl,c 8 _ rfl,c 9 _ rfl,c 10 _ rfl,c 11 _ rfl⟩
end Go.Lf
namespace Go.Lf.G
open Go
open M (Sorted Ab Bw BJ Af Ak BN Ah ba BB aH Az)
structure Hs.cY (y y':Hs):Prop where
 p:y'.p=y.p
 name:y'.name=y.name
 f:y'.f=y.f
 u: ∀m,y.u m<=y'.u m/\y'.u m<=y.u m+1
theorem Hs.cY.refl(y:Hs):y.cY y:=⟨rfl,rfl,rfl,λ_=>⟨A0 _,FG _⟩⟩
def dG(y c:Hs)(b d:Nat):Prop:= ∃v,y.u b<v/\v<=c.u b/\d=y.f b*16777216+v
def qA(y b:Hs)(C c:bd)(d:Nat):Prop:=c.err=0->y.f C.aj≠0->dG y b C.aj d
section
variable {A : ao} {B : cX} {g h : aa} {s a N sh cb : Nat} {l : List Hs} {mp : List Pr} {O : Nat -> Prop} {i : Nat} {y : Hs} {z : Nat -> Nat} {x : dR} {C : bd} {R : A2X}
theorem CW.put {b:Nat}(W:CW B g h s a N sh l i y mp O cb z x C)(c:N<=b)(d:b<=1000000)(e:64*a<=B.C):CW B g h s a b sh l i y mp O cb z x C:=⟨W.w.put (A0 _) e c d,W.il,W.no,W.hp,W.bq⟩
theorem CW.at(b:CW B g h s a N sh l i y mp O cb z x C):(l.set i y)[i]? =some y:=G4 b.il
theorem CW.lw {d:aa}{f j:Nat}{k:List Pr}{e:Hs}(b:CW B g h s a N sh l i y mp O cb z x C)(n:LW B g d s j f sh ((l.set i y).set i e) k (λc=>O c\/z c≠0))(m:Mod (aR g (λc=>O c\/z c≠0)) h d)(o:e.p=y.p):CW B g d s j f sh l i e k O cb z x C:=
 ⟨by rw[List.set_set] at n;exact n,b.il,b.no,b.hp.trans o.symm,b.bq.mod m λc p q=>q.2 (.inr p)⟩
theorem vA {t:bz}(c: ∀b,Ext h b->R (J3 (decide (t.next<=497))) b):AA A P NS #[t.v] h R:=by refine AFg ?_;unfold Xw;exact ai.mk λd _ e f j=>AC.mk (AB e rfl) (c d f)
theorem qB {wid:A2Y}{aj:Nat}{j k now:Int}{m:Bool}{v:Sl}{st:aW}{d e f:Sl}(E:LW B g h s a N sh (l.set i y) mp (λc=>O c\/TV st d e f c))(Q:i<l.length)(F:JQ h st d e f)(no: ∀c,TV st d e f c-> ¬O c)
  (G: ∀w cb z x,CW B g w s a N sh l i y mp O cb z x (Gy wid aj j k m st now)->Ext h w->R (Ap cb) w):
  AA A P Hg #[Ap y.p,(⟨wid,(aj:Int),⟨j,k,m⟩,v,st.V d e f⟩:bH).v,J6 J9 now] h R:=by
 refine ACw ?_;unfold WI;refine ai.mk λo _ H I af=>EL.mk ⟨wid,(aj:Int),⟨j,k,m⟩,v,st.V d e f⟩ (Bz H rfl) ?_
 have S:(⟨h.size,0,none⟩:Q6).add 6=⟨h.size,6,none⟩:=rfl;rw[S];refine A9.mk (st.V d e f) (Bz H rfl) ?_;refine ai.mk λp _ T U ag=>?_
 have r:Ext h p:=I.trans U
 let x:dR:=⟨y.p,v,st.V d e f,d,e,f,⟨none,0,0⟩,⟨none,0,0⟩,⟨none,0,0⟩⟩
 let t:bd:= {Gy wid aj j k m st now with err:=0}
 let z:Nat->Nat:=λc=>if c=o.size then 1 else jF (λ_=>0) st d e f c
 have V: ∀c,TV st d e f c->c<h.size:=λc b=>F.lt b
 have W: ∀c,z c≠0->c=o.size\/TV st d e f c:=λc b=>by
  by_cases q:c=o.size
  ·exact .inl q
  ·have b:jF (λ_=>0) st d e f c≠0:=by grind
   unfold jF at b;split at b
   ·rename_i X;exact .inr X
   ·exact absurd rfl b
 have Y:Fy p o.size z x t:=⟨T,if_pos rfl,(F.ext r),λc b=>by
   have:=V c b;show z c=5;exact(if_neg (by omega)).trans (if_pos b),Own.nil,λc b=>by simp[x,Sl.ag] at b,Own.nil,λc b=>by simp[x,Sl.ag] at b,Own.nil,λc b=>by simp[x,Sl.ag] at b⟩
 have D:CW B g p s a N sh l i y mp O o.size z x t:=⟨E.own r.mod λc b=>by
   grind,Q,λc b J=>by
   rcases W c b with h|h
   ·have:=(E.out (.inl J)).1;omega
   ·exact no c h J,rfl,Y⟩
 refine ah.mk λK L=>ah.mk λZ aa=>?_
 have key: ∀u:Bool,(u=true↔now<0\/1099511611776<now)->Z (u,()) p:=λu ac=>by
  refine aa _ _ (ab.intro (λn=>?_) (λn=>?_))
  ·refine D.bq.err λae D3 M ak=>L _ _ (G ae _ z x ?_ (r.more M λc b=>by subst b;exact I.size))
   have q:Gy wid aj j k m st now= {t with err:=1}:=by have:Gy wid aj j k m st now= {Gy wid aj j k m st now with err:=if now<0\/1099511611776<now then 1 else 0}:=rfl;rw[this,if_pos (ac.1 n)]
   rw[q];exact D.step (M.ak λc _ b=>by grind) (λc b=> .inl b) rfl D3
  ·have n:u=false:=n;refine L _ _ (G p _ z x ?_ r);have q:Gy wid aj j k m st now=t:=by have:Gy wid aj j k m st now= {Gy wid aj j k m st now with err:=if now<0\/1099511611776<now then 1 else 0}:=rfl;rw[this,if_neg λh=>by grind]
   rw[q];exact D
 refine ab.intro (λn=>key true (by simp at n;simp[n])) (λn=>key _ (by simp at n;simp;omega))
theorem vB(b:CW B g h s a N sh l i y mp O cb z x C)(d:0<=C.st.next/\C.st.next<=501)(c:R (J6 J9 (UW C)) h):AA A P ET #[Ap cb] h R:=by refine Uv ?_;unfold Nu;refine aA (AC.mk (Ct b.bq.ag rfl) ?_);rw[wrap_i64 (by omega) (by omega)];exact c
theorem Uw {e:Ev}{n:Nat}(f:CW B g h s a N sh l i y mp O cb z x C)(ap:DI C.st n)(aq:n<=600)(hd:e.data.size<1099511627776)(aL:C.more.length<1000)
  (T: ∀Z aM x',CW B g Z s a N sh l i y mp O cb aM x' (Di C e)->Mod (aR g O) h Z->R (J1 #[]) Z):AA A P BU #[Ap cb,e.v] h R:=by
 refine VN ?_;unfold Oj;refine ai.mk λaN _ aO v a9=>aA (AC.mk (Cm (f.on v).bq.ag rfl) (ab.intro (λd=>?_) (λd=>?_)))
 ·have d:C.err≠0:=by simpa using d
  refine T aN z x ?_ v.mod;unfold Di;rw[if_pos d];exact f.on v
 have ac:C.err=0:=by simpa using d
 have ar: ∀c,z c≠0-> ¬c=h.size:=λc o e=>by have:=f.fJ c o;omega
 refine aA (AC.mk (Ct (f.on v).bq.ag rfl) (aA (AC.mk (Cm (f.on v).bq.ag rfl) ?_)));refine ae.bE (j:=0) (dm:=({e with id:=if 1>C.st.next then 1 else C.st.next}:Ev).c) aO (of_decide_eq_true rfl) rfl λba aP au bb=>⟨Cm ((f.on v).bq.mod au ar).ag rfl,?_⟩
 refine ae.bE (j:=2) (dm:=(CU C e).c) aP (of_decide_eq_true rfl) rfl λaf av aQ bc=>?_
 have ag:Ext h af:=v.more (au.trans aQ) λc o=>by omega
 refine ah.mk λK aS=>?_
 have key: ∀(U:Bool) (F:aa),Ext af F->(U=true↔C.more= []/\j8 C.st=false/\e.kind≠18)->K (U,()) F:=λU F aj aw=>by
  have L:=ag.trans aj;have G:=f.on L;have V:=aj.ag av λh=>h
  refine aS _ _ (ab.intro (λd=>?_) (λd=>?_))
  ·refine aA (G.bq.err λk aT aU aV=>?_);have ax:Mod (λc=>z c≠0) F k:=aU.ak λc _ o=>by subst o;rw[f.bq.zc];decide
   refine T k z x ?_ (L.mod.trans (G.frame ax));unfold Di;rw[if_neg (by simp[ac]),if_pos (aw.1 d)];exact G.step ax (λc o=> .inl o) rfl aT
  have d:U=false:=d;have ay: ¬(C.more= []/\j8 C.st=false/\e.kind≠18):=λh=>by rw[aw.2 h] at d;cases d
  refine ah.mk λaW aX=>aA (A9.mk (C.st.V x.a x.b x.c) G.bq.ld (Nh.mk (CU C e) (R7 V) ?_))
  have az: ∀(k:aa) (ak:Nat) (p q r:Sl),Ext F k->k[ak]? =some (J2 ((Bh C.st (CU C e)).2.V p q r).c Au (0,0))->JQ k (Bh C.st (CU C e)).2 p q r->(∀ y,p.ag=some y\/q.ag=some y\/r.ag=some y->h.size<=y)->
    aW (some ⟨ak,0,none⟩,(Bh C.st (CU C e)).1,()) k:=λk ak p q r m aY M fr=>by
   have al:=L.trans m;have am:=f.on al;refine aX _ _ (ab.intro (λd=>?_) (λd=>?_))
   ·have d:(Bh C.st (CU C e)).1≠0:=by simpa using d
    refine aA (am.bq.err λH an W aC=>?_);have X:Mod (λc=>z c≠0) k H:=W.ak λc _ o=>by subst o;rw[f.bq.zc];decide
    refine T H z x ?_ (al.mod.trans (am.frame X));unfold Di;rw[if_neg (by simp[ac]),if_neg ay,if_pos d];exact am.step X (λc o=> .inl o) rfl an
   have aZ:(Bh C.st (CU C e)).1=0:=by simpa using d
   refine aA (A9.mk ((Bh C.st (CU C e)).2.V p q r) (FP aY) (aA (f.bq.kT f.fJ al M fr λH bd an W X a0=>?_)));have aE:=f.step (x':= {x with a:=p,b:=q,c:=r}) W a0 rfl an;have Q:=X.ag (m.ag V λh=>h) (λe=>ar cb (by rw[f.bq.zc];decide) e.symm);refine aA (AV.mk (s:=x.more) (Cm aE.bq.ag rfl) (Nh.mk (CU C e) (R7 Q) (ai.mk λI _ w aF aG=>?_)));have S:=aE.on aF;refine⟨Cm S.bq.ag rfl,?_⟩;have a1:View dd I ⟨some ⟨H.size,0,none⟩,1,1⟩ [CU C e]:=(Own.lit (E:=dd) (l:= [CU C e]) w rfl (by simp[maxLen])).view;refine S.bq.kS S.fJ a1 aL λa2 aH a3 a4 aI a5=>?_
   have a6:=S.step (x':= {x with a:=p,b:=q,c:=r,more:=aH}) aI a5 rfl a4;refine T a2 a3 {x with a:=p,b:=q,c:=r,more:=aH} ?_ ((f.frame W).trans (aF.mod.trans (S.frame aI)));have a7:Di C e= {C with st:=(Bh C.st (CU C e)).2,more:=C.more++ [CU C e]}:=by unfold Di;rw[if_neg (by simp[ac]),if_neg ay,if_neg (by simp[aZ])]
   rw[a7];exact a6
  have be:=ag.size;have bf:=aj.size;constructor
  ·refine qv G.bq.st ap aq hd λk p q r m M J=>GV.mk _ ⟨_,rfl,ai.mk λH _ Q u aC=>⟨vx ((m.trans u).ag V λh=>h),(f.on ((L.trans m).trans u)).bq.ld.jm,aD.mk Q (A0 12) λI w Y aG=>?_⟩⟩
   rw[OY] at w;have aJ:Ext k I:=u.more Y λc o=>by omega
   exact az I k.size p q r (m.trans aJ) w (M.ext aJ) λy t=>by have:=J y t;omega
  ·refine ai.mk λH _ Q u aC=>⟨vx (u.ag V λh=>h),(f.on (L.trans u)).bq.ld.jm,?_⟩
   refine qv (G.bq.st.ext u) ap aq hd λk p q r m M J=>GV.mk _ ⟨_,rfl,aD.mk (m.ag Q λh=>h) (A0 12) λI w Y aG=>?_⟩
   rw[OY] at w;have aV:=m.size;have a8:=M.mod Y (λy t e=>by have:=J y (.inl t);omega) (λy t e=>by have:=J y (.inr (.inl t));omega) (λy t e=>by have:=J y (.inr (.inr t));omega);exact az I F.size p q r ((u.trans m).more Y λc o=>by omega) w a8 λy t=>by have:=J y t;omega
 have ao:=f.on ag;refine aA (AV.mk (s:=x.more) (Cm ao.bq.ag rfl) ?_);have aK:=ao.bq.more.len;refine ab.intro (λd=>?_) (λd=>?_)
 ·have d:C.more= []:=by simp at d;exact CN (by omega)
  refine aA (A9.mk (C.st.V x.a x.b x.c) ao.bq.ld (vA λk m=>⟨_,rfl,?_⟩));refine ab.intro (λD=>?_) (λD=>?_)
  ·have D:j8 C.st=false:=by unfold j8;simpa using D
   refine AC.mk (AB (m.ag av λh=>h) rfl) (key _ k m ?_);simp[d,D,CU]
  ·have D:j8 C.st=true:=by unfold j8;simpa using D
   refine key _ k m ?_;simp[D]
 ·have d:C.more≠ []:=λh=>by rw[h] at aK;simp[aK] at d
  refine key _ af Mod.refl ?_;simp[d]
theorem vC {t:bS}{tick:Int}(r:CW B g h s a N sh l i y mp O cb z x C)(V:C.aj<256)(ap:y.f C.aj<=2147483647)(aq:y.u C.aj+1<16777216)(H:N+1<=1000000)(J:64*a<=B.C)(au:C.ar.length<1000)(a7:tick<9223372036854775808)
  (L: ∀M av x' e d,CW B g M s a (N+1) sh l i e mp O cb av x' (EB C ⟨t.kind,t.ref,t.turn⟩ tick d)->y.cY e->qA y e C (EB C ⟨t.kind,t.ref,t.turn⟩ tick d) d->Mod (aR g O) h M->R (J1 #[]) M):AA A P Gi #[Ap cb,t.v,J6 J9 tick] h R:=by
 refine Ul ?_;unfold Ny;refine ai.mk λaw _ ax w a8=>aA (AC.mk (Cm (r.on w).bq.ag rfl) (ab.intro (λb=>?_) (λb=>?_)))
 ·have b:C.err≠0:=by simpa using b
  have D:EB C ⟨t.kind,t.ref,t.turn⟩ tick 0=C:=by unfold EB;rw[if_pos b]
  refine L aw z x y 0 (by rw[D];exact(r.on w).put (by omega) H J) (Hs.cY.refl y) (λE=>absurd (by rw[D] at E;exact E) b) w.mod
 have W:C.err=0:=by simpa using b
 refine aA (AL.mk (n:=C.wid) (Cm (r.on w).bq.ag rfl) (ae.bE (j:=1) (dm:=({t with wid:=C.wid}:bS).c) ax (of_decide_eq_true rfl) rfl λay az aC a9=>?_));have aD:Ext h ay:=w.more aC λc q=>by omega
 refine JH.mk ({t with wid:=C.wid}:bS) (Bz az rfl) (vu λF aE=>⟨_,_,rfl,?_⟩);have Q:=aD.trans aE;have f:=r.on Q;cases X:Hq ⟨t.kind,t.ref,t.turn⟩ C.wid with
 |false=>
  refine ab.yes rfl (aA (f.bq.err λY aF aG ba=>?_));have Z:Mod (λc=>z c≠0) F Y:=aG.ak λc _ q=>by subst q;rw[r.bq.zc];decide
  have D:EB C ⟨t.kind,t.ref,t.turn⟩ tick 0= {C with err:=1}:=by unfold EB;rw[if_neg (by simp[W]),if_pos X]
  refine L Y z x y 0 ?_ (Hs.cY.refl y) (λE=>by rw[D] at E;exact absurd (show(1:Int)=0 from E) (by decide)) (Q.mod.trans (f.frame Z));rw[D];exact(f.step Z (λc q=> .inl q) rfl aF).put (by omega) H J
 |true=>
  refine ab.no rfl ?_;have aH:af F (⟨cb,0,none⟩:Q6)=some (Ap y.p):=by have:=Cm (j:=0) f.bq.ag rfl;rw[add_zero,r.hp] at this;exact this
  refine aA (AY.mk aH (aA (AC.mk (Ct f.bq.ag rfl) ?_)));have fin: ∀(k:aa) (e:Hs) (d:Nat),CW B g k s a (N+1) sh l i e mp O cb z x C->y.cY e->(y.f C.aj≠0->dG y e C.aj d)->Mod (aR g O) F k->(∃ S:Int,Value.int .u64 (d:Int)= .int .u64 S/\(
    At (some (⟨cb,0,none⟩:Q6)) λaI=>
    AC J9 k ((aI.add 1).add 1) λaJ=>
    AA A P Ko #[J6 J9 aJ,.int .u64 S] k λv2 u=> ∃ac:A2Y,v2=J7 ac/\(
    ah (λ(s:A2Y×Unit) o=>
      At (some (⟨cb,0,none⟩:Q6)) λaK=>
      AV o (aK.add 32) λT=>
      ai o (J2 #[J7 s.1,J7 (if true then fV ⟨t.kind,t.ref,t.turn⟩ C.wid else⟨#[]⟩),J3 false] AU) λaL U=>
      Ad A P (Builtin.append_ #[AR,AR] AR #[J4 T.p T.len T.cap,J4 (some (⟨aL,0,none⟩:Q6)) 1 1]) U λaM aN=> ∃v:Sl,aM=J4 v.p v.len v.cap/\(
      At (some (⟨cb,0,none⟩:Q6)) λaO=>
      ae aN (aO.add 32) (J4 v.p v.len v.cap) λaP=>
      R (J1 #[]) aP)) λK=>
     ab (decide (tick>=(0:Int))) (
      At (some (⟨cb,0,none⟩:Q6)) λaQ=>
      AC J9 u ((aQ.add 1).add 1) λaS=>
      AA A P PM #[J6 J9 aS,J6 J9 tick,.int .u64 S] u λaT aU=> ∃ag:A2Y,aT=J7 ag/\(
      K (ag,()) aU)) (
      K (ac,()) u)))):=λk e d aj aV aW aX=>by
   refine⟨_,rfl,aA (AC.mk (Ct aj.bq.ag rfl) (AS6 V λu ak=>⟨_,rfl,ah.mk λK aY=>?_⟩))⟩;have al:=aj.on ak;have key: ∀(o:aa),Ext u o->K (ND C.aj tick d,()) o:=λo I=>by
    have G:=al.on I;refine aY _ _ (aA (AV.mk (s:=x.ar) (Cm G.bq.ag rfl) ?_));refine G.bq.dU (p:=⟨ND C.aj tick d,fV ⟨t.kind,t.ref,t.turn⟩ C.wid,false⟩) G.fJ au λU am aZ a0 an a1=>?_
    have a2:=G.step (x':= {x with ar:=am}) an a1 rfl a0;refine L U aZ {x with ar:=am} e d ?_ aV (λ_=>aW) (Q.mod.trans (aX.trans ((ak.trans I).mod.trans (G.frame an))));unfold EB;rw[if_neg (by simp[W]),if_neg (by simp[X])];exact a2
   refine ab.intro (λb=>?_) (λb=>?_)
   ·have b:0<=tick:=by simpa using b
    obtain⟨n,rfl⟩: ∃n:Nat,tick=n:=⟨tick.toNat,by omega⟩;refine aA (AC.mk (Ct al.bq.ag rfl) (ASz V (by omega) λo I=>⟨_,rfl,?_⟩));have:=key o I;unfold ND at this;rw[if_neg (by omega),A6] at this;exact this
   ·have b:tick<0:=by simp at b;omega
    have:=key u Mod.refl;unfold ND at this;rw[if_pos b] at this;exact this
  refine f.w.number f.at ap aq H (λa3=>?_) λbb k a4 ao=>?_
  ·exact fin F y 0 (f.put (by omega) H J) (Hs.cY.refl y) (λh=>absurd a3 h) Mod.refl
  ·have a5:Mod (aR g O) F k:=ao.ak λc _ q=>⟨q.1,λa6=>q.2 (.inl a6)⟩
   exact fin k (y.jn C.aj) _ (f.lw a4 ao rfl) ⟨rfl,rfl,rfl,λm=>by
    show _<=du y.u C.aj (y.u C.aj+1) m/\du y.u C.aj (y.u C.aj+1) m<=_
    grind [du]⟩ (λ_=>⟨_,Kd _,by show _<=du y.u C.aj (y.u C.aj+1) C.aj;grind [du],rfl⟩) a5
theorem AUv {t:bS}(k:CW B g h s a N sh l i y mp O cb z x C)(m:C.aj<256)(n:y.f C.aj<=2147483647)(o:y.u C.aj+1<16777216)(p:N+1<=1000000)(q:64*a<=B.C)(r:C.ar.length<1000)
  (u: ∀b e f c d,CW B g b s a (N+1) sh l i c mp O cb e f (EB C ⟨t.kind,t.ref,t.turn⟩ (-1) d)->y.cY c->qA y c C (EB C ⟨t.kind,t.ref,t.turn⟩ (-1) d) d->Mod (aR g O) h b->R (J1 #[]) b):AA A P Gn #[Ap cb,t.v] h R:=by
 refine Uq ?_;unfold N9;refine ai.mk λG _ v j H=>JH.mk t (Bz v rfl) (vC (k.on j) m n o p q r (by decide) λb e f c d w D E F=>⟨rfl,u b e f c d w D E (j.mod.trans F)⟩)
theorem qC {t:bS}{tick:Int}(k:CW B g h s a N sh l i y mp O cb z x C)(m:C.aj<256)(n:y.f C.aj<=2147483647)(o:y.u C.aj+1<16777216)(p:N+1<=1000000)(q:64*a<=B.C)(r:C.ar.length<1000)(G:tick<9223372036854775808)
  (u: ∀b e f c d,CW B g b s a (N+1) sh l i c mp O cb e f (EB C ⟨t.kind,t.ref,t.turn⟩ (if(0:Int)>tick then 0 else tick) d)->y.cY c->qA y c C (EB C ⟨t.kind,t.ref,t.turn⟩ (if(0:Int)>tick then 0 else tick) d) d->Mod (aR g O) h b->R (J1 #[]) b):AA A P ER #[Ap cb,t.v,J6 J9 tick] h R:=by
 refine Xe ?_;unfold QA;refine ai.mk λH _ v j I=>JH.mk t (Bz v rfl) (vC (k.on j) m n o p q r (by split<;>omega) λb e f c d w D E F=>⟨rfl,u b e f c d w D E (j.mod.trans F)⟩)
theorem AQS {key val:A2Y}(b:CW B g h s a N sh l i y mp O cb z x C)(k:C.conds.length<1000)(m:C.ar.length<1000)
  (n: ∀d o x',CW B g d s a N sh l i y mp O cb o x' (oN C key val)->Mod (aR g O) h d->R (J1 #[]) d):AA A P JZ #[Ap cb,J7 key,J7 val] h R:=by
 refine Un ?_;unfold Ng;dsimp only[At];refine AV.mk (s:=x.conds) (Cm b.bq.ag rfl) ?_;refine b.bq.fw (p:=⟨key,⟨#[]⟩,true⟩) b.fJ k λF e G q f r=>?_
 have c:=b.step (x':= {x with conds:=e}) f r rfl q;refine AV.mk (s:=x.ar) (Cm c.bq.ag rfl) ?_;refine c.bq.dU (p:=⟨key,val,false⟩) c.fJ m λt u v w j D=>?_
 have E:=c.step (x':= {x with conds:=e,ar:=u}) j D rfl w;exact n t v _ E ((b.frame f).trans (c.frame j))
theorem vD(q:CW B g h s a N sh l i y mp O cb z x C)(H:0<=C.st.next/\C.st.next<=501)
  (r: ∀n,Ext h n->R (⟨0,(DF C).1,(DF C).2,⟨0,⟨#[]⟩,0,0⟩,⟨#[]⟩,⟨none,0,0⟩⟩:aS).v n):AA A P FX #[Ap cb] h R:=by
 refine Rq ?_;unfold Le;refine ai.mk λo _ t p I=>?_
 have b:=(q.on p).bq;refine aA (AC.mk (Ct b.ag rfl) (ah.mk λK u=>?_));have fin: ∀nx:Int,nx=(DF C).2->K (nx,()) o:=λnx v=>by
  subst v;refine u _ _ (aA (AC.mk (Ct b.ag rfl) (aD.mk t (A0 9) λw D E J=>?_)));refine Bb.mk ⟨0,C.st.status,(DF C).2,⟨0,⟨#[]⟩,0,0⟩,⟨#[]⟩,⟨none,0,0⟩⟩ (Bz D rfl) ?_;exact r w (p.more E λc L=>by omega)
 refine ah.mk λF G=>?_
 have key: ∀d:Bool,d=EN C->F (d,()) o:=λd M=>by
  refine G _ _ (ab.intro (λe=>?_) (λe=>?_))
  ·have e:d=true:=e;rw[wrap_i64 (by omega) (by omega)];refine fin _ ?_
   simp_all [DF,if_pos]
  ·have e:d=false:=e;refine fin _ ?_
   simp_all [DF,if_neg]
 have Q:=b.more.len;unfold EN at key;refine aA (AV.mk (s:=x.more) (Cm b.ag rfl) (ab.intro (λf=>?_) (λf=>?_)));rotate_left
 ·have f:C.more= []:=by simp_all
  exact key _ (by simp[f])
 have f:C.more≠ []:=λh=>by grind
 refine aA (AC.mk (Ct b.ag rfl) (ab.intro (λj=>?_) (λj=>key _ (by simp at j;simp[j]))));refine aA (Aa.mk (Ct b.ag rfl) (ab.intro (λk=>?_) (λk=>key _ (by grind))));have k:C.st.fresh=true:=k;refine aA (AC.mk (Ct b.ag rfl) (ab.intro (λm=>?_) (λm=>key _ (by simp at m;simp[m]))));refine aA (AC.mk (Ct b.ag rfl) (key _ ?_))
 grind
end
def Ry:Ev:=⟨0,2,0,0,0,0,false,⟨#[]⟩⟩
def Et(C:bd)(b:Nat):bd:=if EN C then EB (Di C Ry) ⟨1,UW (Di C Ry),0⟩ (-1) b else C
def vE(C:bd):Int:=if(0:Int)>C.now+20 then 0 else C.now+20
def BA(C:bd)(b c:Nat):bd:=if C.more≠ []/\(Et C b).st.status≠0 then EB (Et C b) ⟨7,0,0⟩ (vE C) c else Et C b
end Go.Lf.G
namespace Go.Lf
open G
open Go
open M (Sorted Ab Bw BJ Af Ak BN Ah ba BB aH Az)
structure bd.grown (C D:bd) (n k j:Nat):Prop where
 wid:D.wid=C.wid
 aj:D.aj=C.aj
 bW:D.bW=C.bW
 bP:D.bP=C.bP
 kept:D.kept=C.kept
 conds:D.conds=C.conds
 now:D.now=C.now
 more:D.more.length<=C.more.length+k
 none:C.more≠ []->D.more≠ []
 ar:D.ar.length<=C.ar.length+j
 ok: ∀e∈D.more,Er e=true/\e.data.size<1099511627776
 st:DI D.st n
end Go.Lf
namespace Go.Lf.G
open Go
open M (Sorted Ab Bw BJ Af Ak BN Ah ba BB aH Az)
theorem Ht(C:bd)(t:fE)(tick:Int)(b:Nat):(EB C t tick b).st=C.st/\(EB C t tick b).more=C.more:=by
 unfold EB;split
 ·exact⟨rfl,rfl⟩
 ·split<;>exact⟨rfl,rfl⟩
theorem Yi {C b:bd}{q r u:Nat}(G:C.grown b q r u)(t:fE)(tick:Int)(v:Nat):C.grown (EB b t tick v) q r (u+1):=by
 obtain⟨g1,c,d,e,f,j,k,m,n,w,o,p⟩:=G;unfold EB;split
 ·exact⟨g1,c,d,e,f,j,k,m,n,by omega,o,p⟩
 ·split
  ·exact⟨g1,c,d,e,f,j,k,m,n,by show b.ar.length<=_;omega,o,p⟩
  ·exact⟨g1,c,d,e,f,j,k,m,n,by show(b.ar++ [_]).length<=_;rw[A1,BE];omega,o,p⟩
theorem Ye {C:bd}{b:Nat}(ok: ∀c∈C.more,Er c=true/\c.data.size<1099511627776)(d:DI C.st b):C.grown C b 0 0:=⟨rfl,rfl,rfl,rfl,rfl,rfl,rfl,A0 _,id,A0 _,ok,d⟩
end Go.Lf.G
namespace Go.Lf
open G
open Go
open M (Sorted Ab Bw BJ Af Ak BN Ah ba BB aH Az)
theorem DI.up {s:aW}{c m:Nat}(b:DI s c)(h:c<=m):DI s m:=⟨by have:=b.aw;omega,by have:=b.aq;omega,b.steps,b.au,b.aO,b.next,b.st,b.waits⟩
end Go.Lf
namespace Go.Lf.G
open Go
open M (Sorted Ab Bw BJ Af Ak BN Ah ba BB aH Az)
theorem NE {C b:bd}{u v w:Nat}(G:C.grown b u v w){e:Ev}(hd:e.data.size<1099511627776):C.grown (Di b e) (u+1) (v+1) w:=by
 obtain⟨g1,c,d,f,j,k,m,D,r,n,o,p⟩:=G;unfold Di;split
 ·exact⟨g1,c,d,f,j,k,m,by omega,r,n,o,p.up (FG _)⟩
 ·split
  ·exact⟨g1,c,d,f,j,k,m,by show b.more.length<=_;omega,r,n,o,p.up (FG _)⟩
  ·split
   ·exact⟨g1,c,d,f,j,k,m,by show b.more.length<=_;omega,r,n,o,p.up (FG _)⟩
   ·rename_i q;have q:(Bh b.st (CU b e)).1=0:=by simpa using q
    refine⟨g1,c,d,f,j,k,m,by show(b.more++ [_]).length<=_;rw[A1,BE];omega,λ_=>by show b.more++ [_]≠ [];simp,n,λx t=>?_,VU p q⟩;have t:x∈b.more++ [CU b e]:=t;rcases List.mem_append.1 t with h|h
    ·exact o x h
    ·rw[List.mem_singleton.1 h];exact⟨SG q,hd⟩
structure Hs.cK (y y':Hs):Prop where
 p:y'.p=y.p
 name:y'.name=y.name
 f:y'.f=y.f
 u: ∀m,y.u m<=y'.u m/\y'.u m<=y.u m+2
section
variable {A : ao} {B : cX} {g h : aa} {s a N sh cb : Nat} {l : List Hs} {mp : List Pr} {O : Nat -> Prop} {i : Nat} {y : Hs} {z : Nat -> Nat} {x : dR} {C : bd} {R : A2X}
theorem Fy.ptr {p:Nat}(b:Fy h cb z x C)(c:x.hp=p):af h (⟨cb,0,none⟩:Q6)=some (Ap p):=by have:=Cm (j:=0) b.ag rfl;rw[add_zero,c] at this;exact this
theorem Fy.tj(b:Fy h cb z x C):Cells h (((⟨cb,0,none⟩:Q6).add 1).add 2) (⟨C.bW,C.bP,C.kept⟩:cJ).l:=by have c:((⟨cb,0,none⟩:Q6).add 1).add 2=⟨cb,3,none⟩:=rfl;rw[c];exact Bz b.ag rfl
end
end Go.Lf.G
namespace Go.Lf
open G
open Go
open M (Sorted Ab Bw BJ Af Ak BN Ah ba BB aH Az)
theorem Cells.tn {h:aa}{a:Q6}{t:cJ}(c:Cells h a t.l):af h a=some (J6 J9 t.status)/\af h (a.add 1)=some (J6 J9 t.next)/\af h (a.add 2)=some (J3 t.kept):=by have b:=c 0 _ rfl;rw[add_zero] at b;exact⟨b,c 1 _ rfl,c 2 _ rfl⟩
end Go.Lf
namespace Go.Lf.G
open Go
open M (Sorted Ab Bw BJ Af Ak BN Ah ba BB aH Az)
section
variable {A : ao} {B : cX} {g h : aa} {s a N sh cb : Nat} {l : List Hs} {mp : List Pr} {O : Nat -> Prop} {i : Nat} {y : Hs} {z : Nat -> Nat} {x : dR} {C : bd} {R : A2X}
theorem AUI {o:aa}{d:bd}(E:bR g)(k:CW B g o s a N sh l i y mp O cb z x d)(aZ:Am d.wid=true)(bF: ∀u∈d.more,Er u=true/\u.data.size<1099511627776)(bG:d.aj<256)(bH:y.f d.aj<=2147483647)(hA:4+3*a<=B.A)(bI:64*a+64<=B.C)(bJ:a+1<=1000000)
  (c6:d.more.length<=900) (c7:d.ar.length<=900) (c8:d.conds.length<=900) (bK: ∀p∈d.conds,p.key.size<=1099511627776) (c9:0<=d.bW/\d.bW<128) (a0:0<=d.bP/\d.bP<=501) (a1:0<=d.st.status/\d.st.status<=4) (a2:0<=d.st.next/\d.st.next<=501)
  (bL:d.err≠0-> ∀e,LW B g e s a N sh (l.set i y) mp O->Mod (aR g O) o e->R (J6 J9 d.err) e)
  (bM:d.err=0->y.f d.aj=0-> ∀e,LW B g e s a N sh (l.set i y) mp O->Mod (aR g O) o e->R (J6 J9 170) e)
  (bN:d.err=0->y.f d.aj≠0->Be mp (FW d.aj (y.f d.aj) y.name)=false-> ∀e,LW B g e s a N sh (l.set i (y.lost d.aj)) mp O->Mod (aR g O) o e->R (J6 J9 170) e)
  (bO:d.err=0->y.f d.aj≠0->Be mp (FW d.aj (y.f d.aj) y.name)=true->de mp (FW d.aj (y.f d.aj) y.name::(d.conds++ [bo d])) (Dh d++d.ar)≠0-> ∀e,LW B g e s a N sh (l.set i y) mp O->Mod (aR g O) o e->R (J6 J9 (de mp (FW d.aj (y.f d.aj) y.name::(d.conds++ [bo d])) (Dh d++d.ar))) e)
  (bP:d.err=0->y.f d.aj≠0->Be mp (FW d.aj (y.f d.aj) y.name)=true->de mp (FW d.aj (y.f d.aj) y.name::(d.conds++ [bo d])) (Dh d++d.ar)=0-> ∀e,LW B g e s (a+1) N sh (l.set i y) (cu mp (Dh d++d.ar)) O->Mod (aR g O) o e->R (J6 J9 0) e):
  At (some (⟨cb,0,none⟩:Q6)) λbQ=>
    AC J9 o (bQ.add 34) λbS=>
    ab (bS != (0:Int)) (
     At (some (⟨cb,0,none⟩:Q6)) λbT=>
     AC J9 o (bT.add 34) λbU=>
     R (J6 J9 bU) o) (
     At (some (⟨cb,0,none⟩:Q6)) λbV=>
     AL o (bV.add 1) λbW=>
     AA A P Gj #[J7 bW] o λv1 a1=> ∃a3:A2Y,v1=J7 a3/\(
     ai a1 (J2 #[J7 (⟨#[]⟩:A2Y),J7 (⟨#[]⟩:A2Y),J3 false] AU) λb a2=>
     ae a2 (⟨b,0,none⟩:Q6) (J7 a3) λbX=>
     ae bX ((⟨b,0,none⟩:Q6).add 1) (J7 (⟨#[]⟩:A2Y)) λbY=>
     ae bY ((⟨b,0,none⟩:Q6).add 2) (J3 true) λJ=>
     ah (λ(da:Unit) v=>
       At (some (⟨cb,0,none⟩:Q6)) λbZ=>
       AL v (bZ.add 1) λb0=>
       At (some (⟨cb,0,none⟩:Q6)) λb1=>
       AV v (b1.add 31) λaG=>
       AA A P Qj #[J7 b0,J4 aG.p aG.len aG.cap] v λv2 w=> ∃D:Sl,∃aH:Int,v2=J1 #[J4 D.p D.len D.cap,J6 J9 aH]/\(
       ab (aH != (0:Int)) (
        R (J6 J9 aH) w) (
        ah (λ(aI:Sl×Unit) q=>
          At (some (⟨cb,0,none⟩:Q6)) λaj=>
          AY q aj λak=>
          At (some (⟨cb,0,none⟩:Q6)) λal=>
          AC J9 q ((al.add 1).add 1) λam=>
          At (some (⟨cb,0,none⟩:Q6)) λa4=>
          AV q (a4.add 33) λK=>
          AL q (⟨b,0,none⟩:Q6) λb2=>
          AL q ((⟨b,0,none⟩:Q6).add 1) λb3=>
          Aa q ((⟨b,0,none⟩:Q6).add 2) λb4=>
          At (some (⟨cb,0,none⟩:Q6)) λaJ=>
          AV q (aJ.add 32) λF=>
          ai q (J2 #[J7 b2,J7 b3,J3 b4] AU) λb5 H=>
          And (af H (aJ.add 32)=some (J4 F.p F.len F.cap))<|
          And (af H (a4.add 33)=some (J4 K.p K.len K.cap))<|
          And (af H ((al.add 1).add 1)=some (J6 J9 am))<|
          And (af H aj=some (J5 ak))<|
          Ad A P (Builtin.append_ #[AR,AR] AR #[J4 K.p K.len K.cap,J4 (some (⟨b5,0,none⟩:Q6)) 1 1]) H λb6 I=> ∃L:Sl,b6=J4 L.p L.len L.cap/\(
          And (af I (aJ.add 32)=some (J4 F.p F.len F.cap))<|
          And (af I ((al.add 1).add 1)=some (J6 J9 am))<|
          And (af I aj=some (J5 ak))<|
          Ad A P (Builtin.append_ #[AR,AR] AR #[J4 aI.1.p aI.1.len aI.1.cap,J4 F.p F.len F.cap]) I λb7 t=> ∃M:Sl,b7=J4 M.p M.len M.cap/\(
          And (af t ((al.add 1).add 1)=some (J6 J9 am))<|
          And (af t aj=some (J5 ak))<|
          AA A P Gb #[J5 ak,J6 J9 am,J4 L.p L.len L.cap,J4 M.p M.len M.cap] t λb8 b9=> ∃a5:Int,b8=J6 J9 a5/\(
          R (J6 J9 a5) b9)))) λan=>
         At (some (⟨cb,0,none⟩:Q6)) λca=>
         AV w (ca.add 31) λcc=>
         ab (decide (((cc.len:Nat):Int)>(0:Int))) (
          At (some (⟨cb,0,none⟩:Q6)) λa6=>
          AC J9 w ((a6.add 19).add 2) λa7=>
          At (some (⟨cb,0,none⟩:Q6)) λa8=>
          AC J9 w ((a8.add 19).add 3) λa9=>
          ai w (J2 cJ.z.c Jg) λV ao=>
          And (af ao ((a8.add 19).add 3)=some (J6 J9 a9))<|
          And (af ao ((a6.add 19).add 2)=some (J6 J9 a7))<|
          aD ao (⟨V,0,none⟩:Q6) (⟨a7,a9,false⟩:cJ).l λQ=>
          At (some (⟨cb,0,none⟩:Q6)) λcd=>
          AL Q (cd.add 1) λce=>
          Pb Q (⟨V,0,none⟩:Q6) λap=>
          AA A P Gj #[J7 ce] Q λcf aq=> ∃ba:A2Y,cf=J7 ba/\(
          And (af aq (⟨V,0,none⟩:Q6)=some (J6 J9 ap.status)/\af aq ((⟨V,0,none⟩:Q6).add 1)=some (J6 J9 ap.next)/\af aq ((⟨V,0,none⟩:Q6).add 2)=some (J3 ap.kept))<|
          AA A P FZ #[ap.v] aq λcg bb=> ∃bc:A2Y,cg=J7 bc/\(
          ai bb (J2 #[J7 ba,J7 bc,J3 false] AU) λch ci=>
          Ad A P (Builtin.append_ #[AR,AR] AR #[J4 D.p D.len D.cap,J4 (some (⟨ch,0,none⟩:Q6)) 1 1]) ci λcj aK=> ∃S:Sl,cj=J4 S.p S.len S.cap/\(
          an ((⟨S.p,S.len,S.cap⟩:Sl),()) aK)))) (
          an ((⟨D.p,D.len,D.cap⟩:Sl),()) w)))) λar=>
      At (some (⟨cb,0,none⟩:Q6)) λck=>
      AC J9 J (((ck.add 1).add 2).add 1) λcl=>
      ab (decide (cl>(0:Int))) (
       At (some (⟨cb,0,none⟩:Q6)) λcm=>
       AL J (cm.add 1) λcn=>
       At (some (⟨cb,0,none⟩:Q6)) λau=>
       Pb J ((au.add 1).add 2) λav=>
       AA A P Gj #[J7 cn] J λco aw=> ∃be:A2Y,co=J7 be/\(
       And (af aw ((au.add 1).add 2)=some (J6 J9 av.status)/\af aw (((au.add 1).add 2).add 1)=some (J6 J9 av.next)/\af aw (((au.add 1).add 2).add 2)=some (J3 av.kept))<|
       AA A P FZ #[av.v] aw λcp bf=> ∃bg:A2Y,cp=J7 bg/\(
       ae bf (⟨b,0,none⟩:Q6) (J7 be) λbh=>
       ae bh ((⟨b,0,none⟩:Q6).add 1) (J7 bg) λbi=>
       ae bi ((⟨b,0,none⟩:Q6).add 2) (J3 false) λaL=>
       ar () aL))) (
       ar () J))):=by
 have cq: ∀ {e:aa},CW B g e s a N sh l i y mp O cb z x d->LW B g e s a N sh (l.set i y) mp O:=λcr=>cr.w.less λc f=> .inl f
 refine aA (AC.mk (n:=d.err) (Cm k.bq.ag rfl) (ab.intro (λr=>?_) (λr=>?_)))
 ·exact aA (AC.mk (n:=d.err) (Cm k.bq.ag rfl) (bL (by simpa using r) o (cq k) Mod.refl))
 have ax:d.err=0:=by simpa using r
 have db:=Fs aZ;refine aA (AL.mk (n:=d.wid) (Cm k.bq.ag rfl) (nB (by omega) ⟨_,rfl,?_⟩));refine ai.pair λb J dc bj aM dd=>?_
 have ay:=k.on aM;refine ah.mk λar cs=>?_
 have bk: ∀v,Ext o v->v[b]? =some (J2 #[J7 (bo d).key,J7 (bo d).val,J3 (bo d).gone] AU (0,0))->ar () v:=λv aN ct=>by
  have W:=k.on aN;refine cs _ _ (aA (AL.mk (n:=d.wid) (Cm W.bq.ag rfl) (aA (AV.mk (s:=x.more) (Cm W.bq.ag rfl) ?_))));refine AUq aZ W.bq.more.view (by omega) bF λps w aO aP az=>⟨_,_,rfl,ab.no rfl ?_⟩
  have T:=W.on az;refine ah.mk λan cv=>?_
  have bm: ∀q (sl:Sl),Ext v q->Own Bg AU q sl (Dh d)->(∀ c,sl.ag=some c->v.size<=c)->an (sl,()) q:=λq sl aC aQ X=>by
   have Y:=W.on aC;have aS:=aC.ag ct λh=>h
   refine cv _ _ (aA (AY.mk (Y.bq.ptr k.hp) (aA (AC.mk (Ct Y.bq.ag rfl) (aA (AV.mk (s:=x.conds) (Cm Y.bq.ag rfl) ?_))))));refine AL.mk (AO aS rfl) (AL.mk (AB aS rfl) (Aa.mk (AB aS rfl) (aA (AV.mk (s:=x.ar) (Cm Y.bq.ag rfl) (ai.mk λH _ cw Z df=>?_)))));have G:=Y.on Z;refine⟨Cm G.bq.ag rfl,Cm G.bq.ag rfl,Ct G.bq.ag rfl,G.bq.ptr k.hp,?_⟩;have src:View Bg H ⟨some ⟨q.size,0,none⟩,1,1⟩ [bo d]:=(Own.lit (E:=Bg) (l:= [bo d]) cw rfl (by simp[maxLen])).view;refine IZ (E:=Bg) (s:=x.conds) (src:=⟨some ⟨q.size,0,none⟩,1,1⟩) Ii G.bq.conds src (by simp only[BE];omega) (by simp only[BE,maxLen];omega) λcx I cy ac cz _=>?_
   have bn: ∀c aT,z c=aT->aT≠4-> ¬x.conds.ag=some c:=λc aT bp a0 u=>by rw[G.bq.zq c u] at bp;exact a0 bp.symm
   have aE:=ac.ag G.bq.ag (bn cb 1 k.bq.zc (by decide));have cB:af I (⟨cb,0,none⟩:Q6)=some (Ap y.p):=by have:=Cm (j:=0) aE rfl;rw[add_zero,k.hp] at this;exact this
   refine⟨Cm aE rfl,Ct aE rfl,cB,?_⟩;have cC:Own Bg AU I x.ar d.ar:=G.bq.ar.mod ac λc f=>bn c 3 (G.bq.zp c f) (by decide)
   have dg:=aN.size;have dh:=aC.size;have di:=Z.size;have dj:=ac.size;have cD:Own Bg AU I sl (Dh d):=(aQ.ext Z).mod ac λc f u=>by
    have:=k.fJ c (by rw[k.bq.zq c u];decide);have:=X c f;omega
   have dk:(Dh d).length<=901:=by unfold Dh;rw[A1,AT];split<;>simp<;>omega
   refine IZ (E:=Bg) (s:=sl) (src:=x.ar) Ii cD cC.view (by omega) (by simp only[maxLen];omega) λdl t lo aF cE _=>?_
   have cF: ∀c,sl.ag=some c-> ¬c=cb:=λc f u=>by
    have:=X c f;have:=k.fJ cb (by rw[k.bq.zc];decide);omega
   have bq:=aF.ag aE (λf=>cF cb f rfl);have cG:af t (⟨cb,0,none⟩:Q6)=some (Ap y.p):=by have:=Cm (j:=0) bq rfl;rw[add_zero,k.hp] at this;exact this
   refine⟨Ct bq rfl,cG,?_⟩;have cH:Ext o H:=(aN.trans aC).trans Z;have br:Mod (λc=>z c≠0) o t:=(cH.mod.trans (ac.ak λc _ f=>by rw[k.bq.zq c f];decide)).then (aF.ak λc _ f=> .inr (by have:=X c f;omega));have dm:=aF.size;have aU:LW B g t s a N sh (l.set i y) mp (λc=>(O c\/z c≠0)\/(o.size<=c/\c<t.size)):=k.w.own (br.ak λc _ f=> .inr f) λc f=>f
   have aV:Mod (aR g O) o t:=k.frame br;have less: ∀ {e:aa} {bs:Nat} {bt:List Hs} {bu:List Pr},LW B g e s bs N sh bt bu (λc=>(O c\/z c≠0)\/(o.size<=c/\c<t.size))->LW B g e s bs N sh bt bu O:=λU=>U.less λc f=> .inl (.inl f)
   have bv: ∀ {e:aa},Mod (aR g (λc=>(O c\/z c≠0)\/(o.size<=c/\c<t.size))) t e->Mod (aR g O) o e:=λm=>aV.trans (m.ak λc _ f=>⟨f.1,λcI=>f.2 (.inl (.inl cI))⟩)
   have cK:Own Bg AU t cx (d.conds++ [bo d]):=cy.mod aF λc f u=>by
    have:=X c u;rcases cz c f with h|h
    ·have:=k.fJ c (by rw[k.bq.zq c h];decide);omega
    ·have:=(aQ.ext Z).lt u;have:=aQ.lt u;omega
   refine aU.change E k.at bG bH hA bI bJ cK.view (by rw[A1,BE];omega) lo.view (λ_ c f=>?_) (λp cL=>?_) (λcM=>?_) (λag cN e U aW=>?_) (λag aX hd e bw=>?_) λag aX cO e U aW=>?_
   ·have lt:=lo.lt f;rcases cE c f with h|h
    ·have:=X c h;exact .inr (.inr ⟨by omega,lt⟩)
    ·exact .inr (.inr ⟨by omega,lt⟩)
   ·rcases List.mem_append.1 cL with h|h
    ·exact bK p h
    ·rw[List.mem_singleton.1 h];unfold bo;have:=Tn d.wid;split<;>(dsimp only;omega)
   ·exact⟨_,rfl,bM ax cM t (less aU) aV⟩
   ·rw[List.set_set] at U;exact⟨_,rfl,bN ax ag cN e (less U) (bv aW)⟩
   ·exact⟨_,rfl,bO ax ag aX hd e (less (aU.on bw)) (aV.trans bw.mod)⟩
   ·exact⟨_,rfl,bP ax ag aX cO e (less U) (bv aW)⟩
  have bx:=T.bq.more.len;refine aA (AV.mk (s:=x.more) (Cm T.bq.ag rfl) (ab.intro (λr=>?_) (λr=>?_)))
  ·have cP:d.more≠ []:=λh=>by rw[h] at bx;simp[bx] at r
   refine aA (AC.mk (Ct T.bq.ag rfl) (aA (AC.mk (Ct T.bq.ag rfl) (ai.mk λao _ cQ bz dn=>?_))));have bA:=T.on bz;refine⟨Ct bA.bq.ag rfl,Ct bA.bq.ag rfl,aD.mk cQ (A0 3) λQ cR cS dp=>?_⟩;have bB:Ext w Q:=bz.more cS λc f=>by subst f;exact A0 _
   have cT:=T.on bB;have bC:Cells Q (⟨w.size,0,none⟩:Q6) (⟨d.st.status,d.st.next,false⟩:cJ).l:=Bz cR rfl;refine aA (AL.mk (n:=d.wid) (Cm cT.bq.ag rfl) (Pb.mk ⟨d.st.status,d.st.next,false⟩ bC (nB (by omega) ⟨_,rfl,bC.tn,?_⟩)));refine vq (m:=⟨d.st.status,d.st.next,false⟩) (st:=d.st.status.toNat) (nx:=d.st.next.toNat) (by show d.st.status=_;omega) (by show d.st.next=_;omega) (by omega) (by omega) λbb cU=>⟨_,rfl,?_⟩
   have aY:=bB.trans cU;refine ai.aV (E:=Bg) (x:=⟨Kg d.wid,R4 d.st.status.toNat d.st.next.toNat false,false⟩) (s:=ps) rfl Ii (aO.ext aY) (by simp only[AT];omega) (by simp only[AT,maxLen];omega) λcV aK cW cX cY _=>?_
   refine bm aK cV ((az.trans aY).more cX aP) ?_ λc f=>?_
   ·unfold Dh;rw[if_neg cP];exact cW
   ·rcases cY c f with h|h
    ·exact aP c h
    ·have:=aY.size;have:=az.size;omega
  ·have bD:d.more= []:=by simp at r;exact CN (by omega)
   refine bm w ps az ?_ aP;unfold Dh;rw[bD,if_pos rfl,AI];rw[bD] at aO;exact aO
 refine aA (AC.mk (AUG ay.bq.ag rfl) (ab.intro (λr=>?_) (λr=>?_)))
 ·have r:0<d.bP:=by simpa using r
  refine aA (AL.mk (n:=d.wid) (Cm ay.bq.ag rfl) (aA (Pb.mk ⟨d.bW,d.bP,d.kept⟩ ay.bq.tj (nB (by omega) ⟨_,rfl,ay.bq.tj.tn,?_⟩))));refine vq (m:=⟨d.bW,d.bP,d.kept⟩) (st:=d.bW.toNat) (nx:=d.bP.toNat) (by show d.bW=_;omega) (by show d.bP=_;omega) (by omega) (by omega) λbf bE=>⟨_,rfl,?_⟩
  have cZ:=bE.ag bj λh=>h
  refine ae.bE (j:=0) cZ (of_decide_eq_true rfl) rfl λbh c0 c1 dq=>ae.bE (j:=1) c0 (of_decide_eq_true rfl) rfl λbi c2 c3 dr=>ae.bE (j:=2) c2 (of_decide_eq_true rfl) rfl λaL c4 c5 ds=>?_
  refine bk aL ((aM.trans bE).more ((c1.trans c3).trans c5) λc f=>by subst f;omega) ?_;unfold bo;rw[if_pos r];exact c4
 ·have r: ¬0<d.bP:=by simpa using r
  refine bk J aM ?_;unfold bo;rw[if_neg r];exact bj
end
theorem ZQ {C:bd}{t:fE}{tick:Int}{c:Nat}(h:(EB C t tick c).err=0):C.err=0:=by
 unfold EB at h;split at h
 ·rename_i b;exact absurd h b
 ·rename_i b;simpa using b
theorem XD {C:bd}{b c:Nat}(h:(BA C b c).err=0):(Et C b).err=0:=by
 unfold BA at h;split at h
 ·exact ZQ h
 ·exact h
section
variable {A : ao} {B : cX} {g h : aa} {s a N sh cb : Nat} {l : List Hs} {mp : List Pr} {O : Nat -> Prop} {i : Nat} {y : Hs} {z : Nat -> Nat} {x : dR} {C : bd} {R : A2X}
theorem vF {b:Nat}(ok: ∀e∈C.more,Er e=true/\e.data.size<1099511627776)(c:DI C.st b)(d:Nat):C.grown (Et C d) (b+1) 1 1:=by
 have g0:=Ye ok c;unfold Et;split
 ·exact Yi (NE g0 (e:=Ry) (by show 0<1099511627776;decide)) _ _ _
 ·obtain⟨g1,f,j,k,m,n,o,t,p,u,q,r⟩:=g0;exact⟨g1,f,j,k,m,n,o,by omega,p,by omega,q,r.up (FG _)⟩
theorem Vz {n:Nat}(ok: ∀b∈C.more,Er b=true/\b.data.size<1099511627776)(d:DI C.st n)(c e:Nat):C.grown (BA C c e) (n+1) 1 2:=by
 have g0:=vF ok d c;unfold BA;split
 ·exact Yi g0 _ _ _
 ·obtain⟨g1,f,j,k,m,o,p,q,r,v,t,u⟩:=g0;exact⟨g1,f,j,k,m,o,p,q,r,by omega,t,u⟩
theorem vG {ak:Nat}(av:bR g)(o:CW B g h s a N sh l i y mp O cb z x C)(V:DI C.st ak)(a4:ak+1<=600)(L:Am C.wid=true)(Z: ∀e∈C.more,Er e=true/\e.data.size<1099511627776)(ac:C.aj<256)(r:y.f C.aj<=2147483647)(a5:y.u C.aj+2<16777216)(ae:N+2<=1000000)
  (hA:4+3*a<=B.A) (aw:64*a+64<=B.C) (ax:a+1<=1000000) (a6:C.more.length<=800) (a7:C.ar.length<=800) (a8:C.conds.length<=800) (ay: ∀p∈C.conds,p.key.size<=1099511627776) (az:0<=C.bW/\C.bW<128) (al:0<=C.bP/\C.bP<=501) (a9: -4611686018427387904<=C.now/\C.now<=4611686018427387904)
  (aC:y.f C.aj=0->R (J6 J9 170) h)
  (aD: ∀b c d j,y.cK d->(BA C b c).err≠0->LW B g j s a (N+2) sh (l.set i d) mp O->Mod (aR g O) h j->R (J6 J9 (BA C b c).err) j)
  (aE: ∀b c d j,y.cK d->(BA C b c).err=0->Be mp (FW C.aj (y.f C.aj) y.name)=false->LW B g j s a (N+2) sh (l.set i (d.lost C.aj)) mp O->Mod (aR g O) h j->R (J6 J9 170) j)
  (aF: ∀b c d j,y.cK d->(BA C b c).err=0->Be mp (FW C.aj (y.f C.aj) y.name)=true->de mp (FW C.aj (y.f C.aj) y.name::(C.conds++ [bo C])) (Dh (BA C b c)++(BA C b c).ar)≠0->LW B g j s a (N+2) sh (l.set i d) mp O->Mod (aR g O) h j->R (J6 J9 (de mp (FW C.aj (y.f C.aj) y.name::(C.conds++ [bo C])) (Dh (BA C b c)++(BA C b c).ar))) j)
  (aG: ∀b c d j,y.cK d->(EN C=true->y.f C.aj≠0->dG y d C.aj b)->(BA C b c).err=0->Be mp (FW C.aj (y.f C.aj) y.name)=true->de mp (FW C.aj (y.f C.aj) y.name::(C.conds++ [bo C])) (Dh (BA C b c)++(BA C b c).ar)=0->LW B g j s (a+1) (N+2) sh (l.set i d) (cu mp (Dh (BA C b c)++(BA C b c).ar)) O->Mod (aR g O) h j->R (J6 J9 0) j):
  AA A P Cn #[Ap cb] h R:=by
 refine Sm ?_;unfold Lu;have M:64*a<=B.C:=by omega
 refine aA (AY.mk (o.bq.ptr o.hp) (aA (AC.mk (Ct o.bq.ag rfl) (o.w.holds o.at ⟨_,rfl,ab.intro (λf=>aC (by simpa using f)) λf=>?_⟩))));have aH:y.f C.aj≠0:=by simpa using f
 refine ah.mk λK aI=>?_
 have af: ∀(q:aa) (H:Nat->Nat) (I:dR) (d:Hs) (b c:Nat),CW B g q s a (N+2) sh l i d mp O cb H I (BA C b c)->y.cK d->((BA C b c).err=0->EN C=true->y.f C.aj≠0->dG y d C.aj b)->Mod (aR g O) h q->K () q:=λq H I d b c J k W D=>by
  have G:=Vz Z V b c;have ag:d.f (BA C b c).aj=y.f C.aj:=by rw[k.f,G.aj]
  have ai:FW (BA C b c).aj (d.f (BA C b c).aj) d.name=FW C.aj (y.f C.aj) y.name:=by rw[ag,G.aj,k.name]
  have am:bo (BA C b c)=bo C:=by unfold bo;rw[G.bP,G.bW,G.kept,G.wid]
  refine aI _ _ (AUI av J (by rw[G.wid];exact L) G.ok (by rw[G.aj];exact ac) (by rw[ag];exact r) hA aw ax (by have:=G.more;omega) (by have:=G.ar;omega) (by rw[G.conds];omega) (by rw[G.conds];exact ay) (by rw[G.bW];exact az) (by rw[G.bP];exact al) G.st.st G.st.next
   (λn j u E=>aD b c d j k n u (D.trans E)) (λ_ aJ=>absurd (by rw[<- ag];exact aJ) aH) (λn _ w j u E=>?_) (λn _ w hd j u E=>?_) λn _ w hd j u E=>?_)
  ·rw[ai] at w;rw[G.aj] at u;exact aE b c d j k n w u (D.trans E)
  ·rw[ai] at w hd ⊢;rw[am,G.conds] at hd ⊢;exact aF b c d j k n w hd u (D.trans E)
  ·rw[ai] at w hd;rw[am,G.conds] at hd;exact aG b c d j k (W n) n w hd u (D.trans E)
 have an:=o.bq.more.len;have aK:y.cK y:=⟨rfl,rfl,rfl,λm=>by omega⟩;refine aA (AV.mk (s:=x.more) (Cm o.bq.ag rfl) (ab.intro (λf=>?_) (λf=>?_)));rotate_left
 ·have f:C.more= []:=by simp at f;exact CN (by omega)
  have aL:EN C=false:=by unfold EN;rw[f];rfl
  refine af h z x y 0 0 ?_ aK (λ_ h=>by rw[aL] at h;cases h) Mod.refl;have aM:Et C 0=C:=by unfold Et EN;rw[f];rfl
  have:BA C 0 0=C:=by unfold BA;rw[aM,if_neg λh=>h.1 f]
  rw[this];exact o.put (by omega) ae M
 have ao:C.more≠ []:=λh=>by rw[h] at an;simp[an] at f
 refine ah.mk λaN aO=>?_
 have ap: ∀(q:aa) (H:Nat->Nat) (I:dR) (d:Hs) (b:Nat),CW B g q s a (N+1) sh l i d mp O cb H I (Et C b)->y.cY d->((Et C b).err=0->EN C=true->y.f C.aj≠0->dG y d C.aj b)->Mod (aR g O) h q->aN () q:=λq H I d b J k W D=>by
  have G:=vF Z V b;refine aO _ _ (aA (AC.mk (Ct J.bq.ag rfl) (ab.intro (λf=>?_) (λf=>?_))))
  ·have f:(Et C b).st.status≠0:=by simpa using f
   refine aA (AC.mk (Cm J.bq.ag rfl) ?_);rw[G.now,wrap_i64 (by omega) (by omega)];refine qC (t:=⟨7,⟨#[]⟩,0,0⟩) J (by rw[G.aj];exact ac) (by rw[k.f,G.aj];exact r) (by rw[G.aj];have:=k.u C.aj;omega) ae M (by have:=G.ar;omega) (by omega) λj aq ar aP c X Q ba aQ=>⟨rfl,?_⟩
   refine af j aq ar aP b c ?_ ⟨Q.p.trans k.p,Q.name.trans k.name,Q.f.trans k.f,λm=>by have:=k.u m;have:=Q.u m;omega⟩ (λn L r=>by
    obtain⟨v,v1,v2,aS⟩:=W (XD n) L r;exact⟨v,v1,by have:=Q.u C.aj;omega,aS⟩) (D.trans aQ)
   have e:BA C b c=EB (Et C b) ⟨7,0,0⟩ (vE C) c:=by unfold BA;rw[if_pos ⟨ao,f⟩]
   rw[e];exact X
  ·have f:(Et C b).st.status=0:=by simpa using f
   refine af q H I d b 0 ?_ ⟨k.p,k.name,k.f,λm=>by have:=k.u m;omega⟩ (λn L r=>W (XD n) L r) D;have e:BA C b 0=Et C b:=by unfold BA;rw[if_neg λh=>h.2 f]
   rw[e];exact J.put (by omega) ae M
 refine ah.mk λaT aU=>?_
 have S: ∀aj:Bool,aj=EN C->aT (aj,()) h:=λaj au=>by
  refine aU _ _ (ab.intro (λf=>?_) (λf=>?_))
  ·have f:EN C=true:=by rw[<- au];exact f
   refine Uw (e:=Ry) o V (by omega) (by show 0<1099511627776;decide) (by omega) λal aq ar X aV=>⟨rfl,?_⟩
   have G:=NE (Ye Z V) (e:=Ry) (by show 0<1099511627776;decide);have nx:=G.st.next;refine vB X G.st.next ⟨_,rfl,?_⟩;refine AUv (t:=⟨1,⟨#[]⟩,UW (Di C Ry),0⟩) X (by rw[G.aj];exact ac) (by rw[G.aj];exact r) (by rw[G.aj];omega) (by omega) M (by have:=G.ar;omega) λaW aX aY aZ b a0 a1 a2 a3=>⟨rfl,?_⟩
   have e:Et C b=EB (Di C Ry) ⟨1,UW (Di C Ry),0⟩ (-1) b:=by unfold Et;rw[if_pos f]
   refine ap aW aX aY aZ b ?_ a1 (λn _ r=>by rw[e] at n;have:=a2 n;rw[G.aj] at this;exact this r) (aV.trans a3);rw[e];exact a0
  ·have f:EN C=false:=by rw[<- au];exact f
   refine ap h z x y 0 ?_ (Hs.cY.refl y) (λ_ h=>by rw[f] at h;cases h) Mod.refl;have e:Et C 0=C:=by unfold Et;rw[if_neg (by simp[f])]
   rw[e];exact o.put (by omega) (by omega) M
 have Y:=o.bq;unfold EN at S;refine aA (AC.mk (Ct Y.ag rfl) (ab.intro (λT=>?_) (λT=>S _ (by simp at T;simp[T]))));refine aA (Aa.mk (Ct Y.ag rfl) (ab.intro (λF=>?_) (λF=>S _ (by have F:C.st.fresh=false:=F;simp[F]))));have F:C.st.fresh=true:=F;refine aA (AC.mk (Ct Y.ag rfl) (ab.intro (λU=>?_) (λU=>S _ (by simp at U;simp[U]))));refine aA (AC.mk (Ct Y.ag rfl) (S _ ?_));simp at T U;simp[ao,T,F,U];rfl
end
abbrev gU:Sl:=⟨none,0,0⟩
def nc(wid:A2Y)(b:Nat):Option (List Ev)->bH×Int
 |none=>(⟨wid,b,⟨0,0,false⟩,gU,bz.z⟩,180)
 |some l=>(⟨wid,b,⟨(BP l).status,(BP l).next,false⟩,gU,bz.z⟩,0)
def dy(b st nx:Int):aS:=⟨b,st,nx,⟨0,⟨#[]⟩,0,0⟩,⟨#[]⟩,gU⟩
theorem VP(x y:bH):gf y.c 0 x.l=x.c:=rfl
theorem KI(x y:aS):gf y.c 0 x.l=x.c:=rfl
theorem Nf {h:aa}{b:Nat}{T:Q7}{fr:Nat×Nat}{x:bH}(c:h[b]? =some (J2 x.c T fr)):Cells h ⟨b,0,none⟩ x.l:=Bz c rfl
theorem Hr {h:aa}{b:Nat}{T:Q7}{fr:Nat×Nat}{x:aS}(c:h[b]? =some (J2 x.c T fr)):Cells h ⟨b,0,none⟩ x.l:=Bz c rfl
theorem lA {h:aa}{b:Nat}{T:Q7}{x y:bH}{K:bH->aa->Prop}(f:h[b]? =some (J2 y.c T (0,0)))(j: ∀c,Mod (· =b) h c->K x c):
  aD h ⟨b,0,none⟩ x.l λd=>EL d ⟨b,0,none⟩ λk=>K k d:=
 aD.mk f (A0 18) λc e m s=>EL.mk x (Nf (by rw[VP] at e;exact e)) (j c m)
theorem KL {h:aa}{b:Nat}{T:Q7}{x y:aS}{K:aS->aa->Prop}(f:h[b]? =some (J2 y.c T (0,0)))(j: ∀c,Mod (· =b) h c->K x c):
  aD h ⟨b,0,none⟩ x.l λd=>Bb d ⟨b,0,none⟩ λk=>K k d:=
 aD.mk f (A0 9) λc e m s=>Bb.mk x (Hr (by rw[KI] at e;exact e)) (j c m)
theorem R6 {b:Ev}(h:Er b=true):b.data.size<=2000:=by
 obtain⟨t,hi,u,e,f⟩:=TW h;by_cases j:b.kind=1
 ·obtain⟨p,k,ok⟩:=e j;have:=(yK k).2;have q:=congrArg List.length this;rw[BF] at q;rw[<- q];simp only[GJ,A3,decide_eq_true_eq] at ok;obtain⟨⟨v,m⟩,o⟩:=ok;have w:=Ba.1 m;have:=Ql o;have x:=AZ (n:=p.au.toNat) (by omega);have z:=AZ (n:=p.steps.length) (by omega);unfold Ce;simp only[A1];omega
 ·by_cases r:b.kind=12
  ·have:=Fs (f r);omega
  ·have d:=NB h;unfold Eu at d;simp only[A3,CI,decide_eq_true_eq] at d;rcases d.2 with c|c
   ·rw[c];decide
   ·unfold dO at c;simp at c;omega
section
variable {A : ao} {B : cX} {g h : aa} {s a N sh : Nat} {l : List Hs} {mp : List Pr} {O : Nat -> Prop} {i : Nat} {y : Hs} {fl : cn} {an : cL} {R : A2X}
theorem LW.get {key:A2Y}(c:LW B g h s a N sh l mp O)(d:key.size<=1099511627776)(e: ∀b,Ext h b->R (J1 #[J7 (JM mp key).1,J3 (JM mp key).2,J6 J9 0]) b):AA A P Fh #[Ap s,J7 key] h R:=by obtain⟨q,j,st,m,k,nn,f,n,rfl,o,p,out⟩:=c;exact sX f d e
theorem LW.scan {p f:A2Y}{d:Int}(e:LW B g h s a N sh l mp O)(j:p.size<=1099511627776)(k: ∀sl b,Own Bg AU b sl (jb mp p f d)->(∀ c,sl.ag=some c->h.size<=c)->Ext h b->R (J1 #[J4 sl.p sl.len sl.cap,J6 J9 0]) b):AA A P FE #[Ap s,J7 p,J7 f,J6 J9 d] h R:=by obtain⟨q,o,st,m,r,nn,n,t,rfl,u,v,out⟩:=e;exact ARP n j k
theorem LW.dT(d:LW B g h s a N sh l mp O)(b:l[i]? =some y):h[y.p]? =some (J2 #[Ap s,J7 y.name,J6 J9 (sh:Int),.map (some y.bh),.map (some y.bu)] Te (0,0))/\1<=sh/\sh<=16:=by obtain⟨q,e,st,m,f,nn,j,k,n,c,o,out⟩:=d;exact⟨(c.host i y b).cell,(c.host i y b).sh⟩
theorem LW.store(b:LW B g h s a N sh l mp O)(c:l[i]? =some y)(d:R (Ap s) h):AA A P Dm #[Ap y.p] h R:=by refine XP ?_;unfold QV;exact ab.no rfl (aA (AY.mk (AO (b.dT c).1 rfl) d))
theorem LW.aC(b:LW B g h s a N sh l mp O)(c:l[i]? =some y)(d:R (J6 J9 (sh:Int)) h):AA A P Ep #[Ap y.p] h R:=by refine WM ?_;unfold Oa;exact ab.no rfl (aA (AC.mk (AB (b.dT c).1 rfl) d))
theorem Jc.eG(b:Jc mp fl an){wid:A2Y}(c:Am wid=true):JM mp (Kg wid)=match fl wid with|none=>(⟨#[]⟩,false)|some l=>(R4 (BP l).status.toNat (BP l).next.toNat false,true):=by unfold JM;rw[b.fH wid c];cases fl wid<;>rfl
theorem Jc.fq(c:Jc mp fl an){b:A2Y}(d:Am b=true):JM mp (LA b)=match an b with|none=>(⟨#[]⟩,false)|some x=>(iC x.1 x.2.1.toNat x.2.2.toNat,true):=by unfold JM;rw[c.jX b d];cases an b<;>rfl
theorem qc {wid:A2Y}(v:LW B g h s a N sh l mp O)(o:l[i]? =some y)(w:Jc mp fl an)
  (F:Am wid=false-> ∀f,Ext h f->R (J1 #[bH.z.v,J6 J9 1]) f)
  (G:Am wid=true-> ∀f,Ext h f->R (J1 #[(nc wid (Ao wid sh) (fl wid)).1.v,J6 J9 (nc wid (Ao wid sh) (fl wid)).2]) f):
  AA A P KX #[Ap y.p,J7 wid] h R:=by
 obtain⟨-,H,I⟩:=v.dT o;refine ADx ?_;unfold Xt;refine ai.mk λJ _ z p Y=>ah.mk λK L=>ab.no rfl (Fa ⟨_,rfl,L _ _ ?_⟩)
 cases m:Am wid with
 |false=>exact ab.yes rfl (lA z λb M=>F m b (p.more M λc j=>by subst j;exact A0 _))
 |true=>
  have Z:=Fs m;have q:=v.on p;have fin: ∀ {b d:aa} {x:bH} {r:Int},Ext J b->Mod (· =h.size) b d->(x,r)=nc wid (Ao wid sh) (fl wid)->R (J1 #[x.v,J6 J9 r]) d:=λ{b d x r} k t Q=>by
   have:=G m d ((p.trans k).more t λc j=>by subst j;exact A0 _);rw[<- Q] at this;exact this
  refine ab.no rfl (q.aC o ⟨_,rfl,vt (by omega) H I ⟨_,_,rfl,ab.no rfl (q.store o ⟨_,rfl,nB (by omega) ⟨_,rfl,?_⟩⟩)⟩⟩);refine q.get (by rw[Tn];omega) λb k=>?_
  rw[w.eG m];have C:=k.ag z λh=>h
  cases u:fl wid with
  |none=>
   refine⟨_,_,_,rfl,ab.no rfl (ab.yes rfl (lA C λd t=>?_))⟩;exact fin k t (by rw[u];rfl)
  |some e=>
   have n:=w.cR wid e u;have nx:=n.next.1;have ac:=n.len;have st:=n.st;have ae:1<=e.length:=List.length_pos_iff.2 n.ne;refine⟨_,_,_,rfl,ab.no rfl (ab.no rfl (AMx (by omega) (by omega) (by omega) λd D=>oQ.mk _ ⟨_,rfl,?_⟩))⟩;refine ai.mk λaf _ S T ag=>aD.mk S (A0 3) λU V W aj=>?_
   have E:Ext b U:=(D.trans T).more W λc j=>by subst j;exact D.size
   refine Pb.mk _ (Bz V rfl) (lA (E.ag C λh=>h) λak X=>?_);refine fin (k.trans E) X ?_;rw[u];unfold nc;rw[show(((BP e).status.toNat:Nat):Int)=(BP e).status from by omega,show(((BP e).next.toNat:Nat):Int)=(BP e).next from by omega]
theorem AKe {e:A2Y}(M:LW B g h s a N sh l mp O)(Q:l[i]? =some y)(z:Jc mp fl an)(C:Am e=true)
  (D: ∀E,Ext h E->R (match an e with|none=>J1 #[J7 ⟨#[]⟩,aS.z.v,J3 false,J6 J9 0]|some x=>J1 #[J7 (Ae x.1),(dy 0 x.2.1 x.2.2).v,J3 true,J6 J9 0]) E):AA A P MQ #[Ap y.p,J7 e] h R:=by
 have aj:=Fs C;refine Yf ?_;unfold RB;refine ai.mk λak _ S f al=>?_
 have F:=M.on f;refine F.store Q ⟨_,rfl,vo (by omega) ⟨_,rfl,F.get (by rw[Wz];omega) λj k=>?_⟩⟩;rw[z.fq C];have m:=k.ag S λh=>h
 cases o:an e with
 |none=>
  refine⟨_,_,_,rfl,ah.mk λK p=>ab.no rfl (p _ _ (ab.yes rfl (KL m λG T=>?_)))⟩;have:=D G ((f.trans k).more T λc d=>by subst d;exact A0 _);rw[o] at this;exact this
 |some x=>
  obtain⟨⟨am,ao⟩,⟨ap,aq⟩,ar⟩:=z.jY e x o;refine⟨_,_,_,rfl,ah.mk λK p=>ab.no rfl (p _ _ (ab.no rfl ?_))⟩;unfold iC;have au:=F3 (n:=x.2.1.toNat) (by omega);have av:=F3 (n:=x.2.2.toNat) (by omega);have aw:=AZ (n:=x.1.length) (by omega);have ax:(BX x.1).length<=2010:=by unfold BX;rw[A1];omega
  refine N7 λG H q=>⟨_,rfl,Iw H (by simp only[A1];omega) λay U r=>⟨_,rfl,?_⟩⟩
  rw[Iz (by omega)] at*
  refine Ei (most:=4) U (by simp only[A1];omega) (by decide) λaz V t=>⟨_,rfl,?_⟩
  rw[De (by omega) (by omega)] at*
  have W:CZ 501 ⟨Bt x.2.2.toNat,false⟩=(x.2.2.toNat,⟨[],false⟩):=by have:=De (n:=x.2.2.toNat) (most:=501) (by omega) (by omega) [];rwa [AI] at this
  refine Ei (most:=501) V (by simp only;omega) (by decide) λX Y u=>⟨_,rfl,?_⟩
  rw[W] at*
  refine ai.mk λaA _ Z v aC=>aD.mk Z (A0 9) λI J w aE=>?_
  have aF:=q.size;have aG:=r.size;have aH:=t.size;have aI:=u.size;have aJ:=Ai m;have aa:LF I j.size ⟨[],false⟩:=w.ag (v.ag Y λh=>h) (by have:=Ai H;omega);refine Qk aa ⟨_,rfl,ab.no rfl ?_⟩;rw[KI] at J;have ac:=w.ag (v.ag (u.ag (t.ag (r.ag (q.ag m λh=>h) (by omega)) (by omega)) (by omega)) λh=>h) (b:=h.size) (by omega);refine Bb.mk _ (Hr J) (KL ac λae af=>?_);have L:Ext j X:=q.more ((r.trans t).trans u) λc d=>by subst d;exact A0 _
  have ag:Ext j I:=(L.trans v).more w λc d=>by subst d;exact L.size
  have:=D ae (((f.trans k).trans ag).more af λc d=>by subst d;exact A0 _);rw[o] at this;rw[show((x.2.1.toNat:Nat):Int)=x.2.1 from by omega,show((x.2.2.toNat:Nat):Int)=x.2.2 from by omega];exact this
end
theorem ANB {wid:A2Y}{l:List Ev}{b i:Nat}{p:Pr}(h:(((Ua wid l).drop b).take 32)[i]? =some p): ∃c,l[b+i]? =some c/\p=O6 wid c:=by
 rw[F1] at h;split at h
 ·rw[By] at h;exact Su h
 ·cases h
theorem JQ.fresh {h j:aa}{k:Nat->Prop}{s:aW}{a b c:Sl}{n:Nat}(o:JQ h s a b c)(m:Mod k h j)(fr: ∀x,a.ag=some x\/b.ag=some x\/c.ag=some x->n<=x)(f: ∀c,k c->c<n):JQ j s a b c:=
 o.mod m (λx d e=>by have:=fr x (.inl d);have:=f x e;omega) (λx d e=>by have:=fr x (.inr (.inl d));have:=f x e;omega) (λx d e=>by have:=fr x (.inr (.inr d));have:=f x e;omega)
section
variable {A : ao} {B : cX} {g h : aa} {s a N sh : Nat} {l : List Hs} {mp : List Pr} {O : Nat -> Prop} {i : Nat} {y : Hs} {fl : cn} {an : cL} {R : A2X}
theorem qd {wid:A2Y}{d:List Ev}{aY:J0}(ak:LW B g h s a N sh l mp O)(v:l[i]? =some y)(al:Jc mp fl an)(am:Am wid=true)(ao:fl wid=some d)
  (aZ: ∀U e w z C,Ext h U->View dd U e d->JQ U (BP d) w z C->(∀ x,w.ag=some x\/z.ag=some x\/C.ag=some x->h.size<=x)->(∀ x,e.ag=some x->h.size<=x)->(∀ x y,e.ag=some x->w.ag=some y\/z.ag=some y\/C.ag=some y->x<y)->
   R (J1 #[(⟨wid,(Ao wid sh:Int),⟨(BP d).status,(BP d).next,false⟩,e,(BP d).V w z C⟩:bH).v,J6 J9 0]) U):AA A P F7 #[Ap y.p,aY,J7 wid] h R:=by
 have V:=al.cR wid d ao;obtain⟨nx,aE⟩:=V.next;have a0:=V.len;have bN:1<=d.length:=List.length_pos_iff.2 V.ne;have a1:=Fs am;refine AEL ?_;unfold Xx;refine ai.mk λW _ ap D bO=>?_
 refine qc (ak.on D) v al (λh=>by rw[am] at h;cases h) λ_ k aF=>?_
 rw[ao];refine MG.mk _ ⟨_,rfl,ai.mk λbP _ a2 a3 bQ=>aD.mk a2 (A0 18) λX Q a4 bR=>ab.no rfl ?_⟩;rw[VP] at Q;have aq:Ext k X:=a3.more a4 λc f=>by subst f;exact A0 _
 have aG:Ext W X:=aF.trans aq;have bS:=Ai ap;have a5:=aF.size;have bT:=aq.size;have bU:X[h.size]? =some (J2 bH.z.c Bu (0,0)):=aG.ag ap λh=>h
 let fv:Sl->bH:=λe=>⟨wid,(Ao wid sh:Int),⟨(BP d).status,(BP d).next,false⟩,e,bz.z⟩
 have Q:X[k.size]? =some (J2 (fv gU).c Bu (0,0)):=Q;refine ah.mk λK a6=>Aa.mk (n:=false) (Ct Q rfl) (ab.no rfl ?_)
 refine Loop.rule (λm x r=> ∃e:Sl,m=d.length-e.len/\e.len<=d.length/\Ext W r/\Ext k r/\r[k.size]? =some (J2 (fv e).c Bu (0,0))/\Own dd A8 r e (d.take e.len)/\(∀ b,e.ag=some b->k.size<b)) ?_
  ⟨gU,rfl,A5 _,aG,aq,Q,Own.nil,λb j=>by simp[Sl.ag] at j⟩
 rintro bV m _ ar ⟨e,rfl,a7,S,aH,t,I,fr⟩ a8;refine AV.mk (s:=e) (Cm t rfl) (AC.mk (n:=(BP d).next) (Ct t rfl) ?_);rw[nx,wrap_i64 (by omega) (by omega)];have aI:LW B g ar s a N sh l mp O:=ak.on (D.trans S);refine ab.intro (λF=>?_) (λF=>?_)
 ·have bW:e.len<d.length:=by simp at F;omega
  refine AV.mk (s:=e) (Cm t rfl) (aI.store v ⟨_,rfl,Cm t rfl,vg (by omega) λaJ Y=>⟨_,rfl,?_⟩⟩);have a9:=Y.ag t λh=>h
  refine⟨Cm a9 rfl,?_⟩;rw[Ac (by omega)];refine vm (by omega) (by omega) λba au=>⟨_,rfl,?_⟩
  have av:=Y.trans au;have bb:=aI.on av;refine bb.scan (by have:=APk a1;omega) λps J aw bc bd=>⟨_,_,rfl,ab.no rfl ?_⟩
  rw[ASm ak.sorted al am ao a7] at aw;have u:=av.trans bd;have aK:=aw.len;have bX:ps.len=min 32 (d.length-e.len):=by rw[aK,Ax,FF];unfold Ua;rw[AT]
  refine ab.no (by simp;omega) ?_;have be:=S.trans u;have bf:=aH.trans u;refine Loop.rule (λm x r=> ∃(o:Nat) (q:Sl),x=((o:Int),())/\m=ps.len-o/\o<=ps.len/\q.len=e.len+o/\Ext W r/\Ext k r/\Mod (λc=>c=k.size\/e.ag=some c) J r/\r[k.size]? =some (J2 (fv q).c Bu (0,0))/\Own dd A8 r q (d.take q.len)/\(∀ b,q.ag=some b->k.size<b/\(e.ag=some b\/J.size<=b))) ?_
   ⟨0,e,rfl,rfl,A5 _,rfl,be,bf,Mod.refl,u.ag t λh=>h,I.ext u,λb j=>⟨fr b j,.inl j⟩⟩
  rintro bY m _ ax ⟨o,q,rfl,rfl,aL,bg,aM,aN,ay,L,aO,M⟩ bh;dsimp only;refine ab.intro (λF=>?_) (λF=>?_)
  ·have Z:o<ps.len:=by simpa using F
   have bZ:e.len+o<d.length:=by omega
   obtain⟨p,aP⟩: ∃p,(((Ua wid d).drop e.len).take 32)[o]? =some p:=⟨_,A2 (by rw[<- aK];exact Z)⟩;obtain⟨G,aa,rfl⟩:=ANB aP;have ok:=(aE _ _ aa).2;have hd:=R6 ok;have b0:=AHA (NB ok) (by omega);have bi:View Bg ax ps (((Ua wid d).drop e.len).take 32):=(aw.view.mod ay λb j f=>by
    have:=bc b j;have:=av.size;have:=aH.size;have:=Ai t;rcases f with rfl|f
    ·omega
    ·have:=I.lt f;omega)
   refine bi.idx aP λb1 _ bj=>?_
   obtain⟨bk,bm,bn⟩:=bj.pair;refine AL.mk bk (AL.mk bm (Aa.mk bn (ai.pair λb ac b2 bo aQ b3=>AL.mk (n:=Ae (Om G)) (AB bo rfl) ?_)));refine AMl (by omega) λb4 aR=>?_
   rw[(APU (by omega)).2 ⟨ok,rfl⟩];refine oO.mk G ⟨_,rfl,ai.mk λb5 _ bp bq b6=>aD.mk bp (A0 8) λbr aS bs b7=>ab.no rfl ?_⟩;rw[ni] at aS;have H:Ext ax br:=((aQ.trans aR).trans bq).more bs λc f=>by subst f;exact(aQ.trans aR).size
   refine AV.mk (s:=q) (Cm (H.ag L λh=>h) rfl) (Nh.mk G (R7 aS) ?_);refine ai.aV (E:=dd) (x:=G) (s:=q) rfl my (aO.ext H) (by simp only[Ax];omega) (by simp only[Ax,maxLen];omega) λT b8 aT af bt b9=>?_
   have ca:=Ai L;have cb:=H.size;have cc:=ay.size;have bu: ¬q.ag=some k.size:=λh=>by have:=(M _ h).1;omega
   refine ae.bE (dm:=(fv T).c) (af.ag (H.ag L λh=>h) bu) (of_decide_eq_true rfl) rfl λcd bv ag ce=>?_
   rw[Ac (by omega)];have aU:T.len=e.len+(o+1):=by have:=aT.len;rw[A1,Ax,BE] at this;omega
   have cf:=D.size;have aV: ∀b,T.ag=some b->k.size<b/\(e.ag=some b\/J.size<=b):=λb j=>by
    rcases bt b j with h|h
    ·exact M b h
    ·exact⟨by omega,.inr (by omega)⟩
   have bw: ∀b,q.ag=some b->W.size<=b:=λb j=>by have:=(M b j).1;omega
   refine bh (ps.len-(o+1)) _ _ (by omega) ⟨o+1,T,rfl,rfl,Z,aU,((aM.trans H).more af bw).more ag λc f=>by subst f;exact a5,((aN.trans H).more af λb j=>by have:=(M b j).1;omega).more ag λc f=>by subst f;exact A0 _,?_,bv,?_,aV⟩
   ·refine(ay.trans H.mod).then ((af.ak λc _ f=>?_).trans (ag.ak λc _ f=>?_))
    ·rcases(M c f).2 with h|h
     ·exact .inl (.inr h)
     ·exact .inr h
    ·exact .inl (.inl f)
   ·have bx:d.take T.len=d.take q.len++ [G]:=by rw[aU,bg,<-IF,AE,aa];rfl
    rw[bx];exact aT.mod ag λb j f=>by have:=(aV b j).1;omega
  ·have Z:o=ps.len:=by simp at F;omega
   subst Z;exact a8 (d.length-q.len) _ _ (by omega) ⟨q,rfl,by omega,aM,aN,L,aO,λb j=>(M b j).1⟩
 ·have bA:e.len=d.length:=by simp at F;omega
  rw[bA,CH] at I;refine a6 () ar (AV.mk (s:=e) (Cm t rfl) ?_);refine Yk I.view a0 (λG aa=>by
   obtain⟨o,aL⟩:=DG aa;have:=R6 (aE o G aL).2;omega) V.ok λaJ w z C Y bB az=>GV.mk _ ⟨_,_,rfl,?_⟩
  refine ai.mk λba _ bC au cg=>aD.mk bC (A0 12) λJ aj bD ch=>?_
  rw[OY] at aj;have aW:Ext aJ J:=au.more bD λc f=>by subst f;exact A0 _
  have u:=Y.trans aW;have aA:=u.ag t λh=>h
  have bE:=u.ag ((S.ag ap λh=>h)) λh=>h
  refine ah.mk λci bF=>ab.no rfl (AC.mk (n:=(BP d).next) (AB aj rfl) (AC.mk (n:=(BP d).next) (Ct aA rfl) ?_))
  refine ab.no (by simp) (AC.mk (n:=(BP d).status) (AB aj rfl) (AC.mk (n:=(BP d).status) (Cm aA rfl) (bF _ _ (ab.no (by simp) ?_))));have bG:=bB.ext aW;have cj:=Ai t;have ck:=S.size;have cl:=u.size;refine A9.mk _ (FP aj) ?_;have bI:(⟨k.size,0,none⟩:Q6).add 6=⟨k.size,6,none⟩:=rfl;rw[bI];refine aD.mk aA (of_decide_eq_true rfl) λax L aX cm=>?_
  refine EL.mk ⟨wid,(Ao wid sh:Int),⟨(BP d).status,(BP d).next,false⟩,e,(BP d).V w z C⟩ (Nf (by exact L)) (lA (aX.ag bE (by omega)) λac bJ=>?_);have aC:Mod (λc=>c=k.size\/c=h.size) J ac:=(aX.ak λc _ f=> .inl f).trans (bJ.ak λc _ f=> .inr f);have bK:=bG.fresh (n:=ar.size) aC az λc f=>by omega
  have bL:View dd ac e d:=(I.view.ext u).mod aC λb j f=>by have:=fr b j;omega
  refine aZ ac e w z C ((D.trans (S.trans u)).more aC λc f=>by have:=D.size;omega) bL bK (λx v=>by have:=az x v;have:=D.size;omega) (λx v=>by have:=fr x v;have:=D.size;omega) λx y v bM=>Fc (I.lt v) (az y bM)
theorem uq {wid:A2Y}{b:List Ev}{k:J0}(m:LW B g h s a N sh l mp O)(n:l[i]? =some y)(o:Jc mp fl an)(p:Am wid=true)(q:fl wid=some b)
  (r: ∀c d e f j,Ext h c->View dd c d b->JQ c (BP b) e f j->(∀ x,e.ag=some x\/f.ag=some x\/j.ag=some x->h.size<=x)->(∀ x,d.ag=some x->h.size<=x)->
   R (J1 #[(⟨wid,(Ao wid sh:Int),⟨(BP b).status,(BP b).next,false⟩,d,(BP b).V e f j⟩:bH).v,J6 J9 0]) c):AA A P F7 #[Ap y.p,k,J7 wid] h R:=
 qd m n o p q λc d e f j t V u v w _=>r c d e f j t V u v w
end
end Go.Lf.G
