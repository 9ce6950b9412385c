/-
 Contracts: the archive (chapter 20) over a box that is not down and has no end of fuel.
-/
import Derived.Test.YtgpmoonnachoaaaGreatDoorLfV3ToW6
import Derived.Test.YtgpmoonnachoaaaGreatDoorLfU2ToS1
import Derived.Test.YtgpmoonnachoaaaGreatDoorLfX3ToZ9
import Derived.Test.YtgpmoonnachoaaaGreatDoorLfE5ToE19
import Derived.Test.YtgpmoonnachoaaaGreatDoorLfZ10ToU32
set_option maxRecDepth 100000
set_option linter.unusedVariables false
set_option linter.unusedSimpArgs false
open Go.IntKind renaming i64→J9,wrap→J8
open Go.Value renaming string→J7,int→J6,pointer→J5,slice→J4,bool→J3,tuple→J1
open Go.Obj renaming cells→J2
open Go renaming Value→J0,Addr→Q6,TypeId→Q7,FuncId→Q8,Program→Q1
open Go.Addr renaming add→Q9,mk→Q5
namespace Go.Lf.G
open Go
theorem ANi {p:ak}{f:aa}{a b:Sl}{c d:List Ev}{o:A2H}(j:View ct f a c)(k:View ct f b d)(L:c.length<=1099511627776)
  (l:o (J3 (decide (c=d))) f):AA p P DT #[J4 a.p a.len a.cap,J4 b.p b.len b.cap] f o:=by
 refine Io ?_;unfold FM;rw[j.len,k.len];refine af.intro (λe=>?_) (λe=>?_)
 ·have:c≠d:=by rintro rfl;simp at e
  simpa [this] using l
 ·have M:c.length=d.length:=by simp at e;omega
  refine Loop.rule (λm x q=> ∃i:Nat,x=((i:Int),())/\q=f/\m=c.length-i/\i<=c.length/\c.take i=d.take i) ?_ ⟨0,rfl,rfl,rfl,by omega,by simp⟩;rintro K m _ _ ⟨i,rfl,rfl,rfl,N,n⟩ r;refine af.intro (λe=>?_) (λe=>?_)
  ·have h:i<c.length:=by simpa using e
   rw[<- j.len];refine j.idx (A2 h) λO _ c1=>?_
   obtain⟨s,t,u,v,w,y,z,A⟩:=kO c1;refine AC.mk s (AC.mk t (AC.mk u (AC.mk v (AC.mk w (AC.mk y (AZ.mk z (AJ.mk A ?_)))))));rw[<- k.len];refine k.idx (A2 (by omega)) λQ _ c2=>?_
   obtain⟨B,C,D,E,F,G,H,I⟩:=kO c2;refine AC.mk B (AC.mk C (AC.mk D (AC.mk E (AC.mk F (AC.mk G (AZ.mk H (AJ.mk I ?_)))))));refine zB ⟨_,rfl,?_⟩;refine af.intro (λg=>?_) (λg=>?_)
   ·have g:c[i]≠d[i]'(by omega):=by simpa using g
    have:c≠d:=by rintro rfl;exact g rfl
    simpa [this] using l
   ·have J:c[i]=d[i]'(by omega):=by simpa using g
    dsimp only;rw[Aa (by omega)];refine r (c.length-(i+1)) _ _ (by omega) ⟨i+1,rfl,rfl,rfl,h,?_⟩;rw[Ly h,Ly (show i<d.length by omega),n,J]
  ·have h:i=c.length:=by simp at e;omega
   have:c=d:=by rw[AE (by omega),AE (by omega)] at n;exact n
   simpa [this] using l
theorem AOL {C:ak}{d:aa}{s:Sl}{l:List Ev}{u:A2H}(v:View ct d s l)(Z:l.length<=1099511627776)(hd: ∀e∈l,e.data.size<=4194304)(o: ∀w,Ext d w->u (pB l) w):AA C P Sm #[J4 s.p s.len s.cap] d u:=by
 refine AE1 ?_;unfold Zg;rw[v.len];refine af.intro (λp=>?_) (λp=>?_)
 ·have q:500<l.length:=by simp at p;omega
  have:=o d Mod.refl;simp only[pB,Dv,if_pos q] at this;exact this
 have q: ¬500<l.length:=by simp at p;omega
 have y:Dv l=if l.all Dk then(0,Ni l) else(120,[]):=by unfold Dv;rw[if_neg q]
 rw[CJ (by omega)];have ab:=AV (n:=l.length) (by omega);refine Ca (by omega) λac D=>⟨_,rfl,?_⟩
 refine Loop.rule (λm x f=> ∃i:Nat,x=(AX (BX l.length++(l.take i).flatMap λe=>BG (EH e)),(i:Int),())/\Ext d f/\m=l.length-i/\i<=l.length/\(l.take i).all Dk=true) ?_
  ⟨0,by simp,D,rfl,by omega,rfl⟩
 rintro K m _ f ⟨i,rfl,g,rfl,ag,h⟩ E;refine af.intro (λr=>?_) (λr=>?_)
 ·have t:i<l.length:=by simpa using r
  obtain⟨e,j⟩: ∃e,l[i]? =some e:=⟨_,A2 t⟩;have z:=AM j;have ah:=hd e z;rw[<- v.len];refine(v.ext g).idx j λa _ c=>?_
  rw[v.len];obtain⟨F,G,H,I,J,L,M,N⟩:=kO c;refine AC.mk F (AC.mk G (AC.mk H (AC.mk I (AC.mk J (AC.mk L (AZ.mk M (AJ.mk N ?_)))))));refine ao.mk λai _ O Q _=>ae.eight O λA b R aj=>?_
  have S:Ext d A:=(g.trans Q).more R λc T=>by subst T;exact g.size
  refine AC.mk (AL b rfl) (AC.mk (AB b rfl) (AC.mk (AB b rfl) (AC.mk (AB b rfl) (AC.mk (AB b rfl) (AC.mk (AB b rfl) (AZ.mk (AB b rfl) (AJ.mk (AB b rfl) ?_)))))));refine zw (e:=e) (by omega) λU V=>⟨_,_,rfl,?_⟩
  have B:=S.trans V;cases k:Dk e with
  |false=>
   refine af.yes rfl ?_;have:=o U B;rw[pB,y,if_neg] at this
   ·exact this
   ·intro f;rw[DQ] at f;rw[f e z] at k;cases k
  |true=>
   refine af.no rfl ?_;have A:=MG (Ha k) (by omega);have al:=AV (n:=(EH e).length) (by omega);have am:=zC h λx W=>hd x (C2 W)
   have X:(l.take i).length<=500:=by simp;omega
   have an:(l.take i).length*5000000<=500*5000000:=AK _ X;refine Pk (l:=EH e) (by omega) λap Y=>⟨_,rfl,⟨?_,?_⟩⟩
   ·dsimp only;have aq:(BG (EH e)).length=(BX (EH e).length).length+(EH e).length:=by simp[BG]
    rw[AP,AP,max_i64,A1];omega
   ·dsimp only;rw[Aa (by omega),Aq];refine E (l.length-(i+1)) _ _ (by omega) ⟨i+1,?_,B.trans Y,rfl,t,?_⟩
    ·rw[Ax,j,Ds,Fo,A4];simp
    ·rw[Ax,j,Ds,Sf,h];simpa using k
 ·have t:i=l.length:=by simp at r;omega
  rw[AE (by omega)] at h;have:=o f g;rw[pB,y,if_pos h] at this;dsimp only;rw[AE (by omega)];exact this
theorem AJu {R:ak}{d:aa}{l:List UInt8}{t:A2H}(aw:l.length<1099511627776)
  (D:LZ l=none-> ∀k,Ext d k->t (J1 #[J4 none 0 0,J6 J9 60]) k)
  (S: ∀e,LZ l=some e-> ∀k s,Ext d k->View ct k s e->(e.length<=500/\ ∀c,s.ag=some c->d.size<=c)->t (J1 #[J4 s.p s.len s.cap,J6 J9 0]) k):AA R P Pj #[J7 (AX l)] d t:=by
 refine ABv ?_;unfold UJ;refine KG λu T U=>⟨_,rfl,?_⟩
 refine DZ (most:=500) T (by simp only;omega) (by decide) λV W X=>⟨_,rfl,?_⟩
 have Y:Ext d V:=U.more X λc a=>by omega
 have Z:=Hq 500 ⟨l,false⟩;have ab:(CQ 500 ⟨l,false⟩).1<=500:=by
  unfold CQ;split
  ·exact A5 _
  ·split
   ·exact A5 _
   ·omega
 have f:LZ l=match WU (CQ 500 ⟨l,false⟩).1 (CQ 500 ⟨l,false⟩).2 with|none=>none|some (q,b)=>if Su b then some q else none:=rfl
 generalize ac:d.size=v at*
 refine Loop.rule (λm x n=> ∃(g:Nat) (s:Sl) (e:List Ev) (b:Rd),x=(s,(g:Int),())/\Ext d n/\Iw n v b/\Own ct Ao n s e/\(∀ c,s.ag=some c->d.size<=c/\c≠v)/\m=g/\b.rest.length<=l.length/\e.length+g<=500/\
  LZ l=match WU g b with|none=>none|some (q,r)=>if Su r then some (e++q) else none) ?_ ⟨(CQ 500 ⟨l,false⟩).1,⟨none,0,0⟩,[],(CQ 500 ⟨l,false⟩).2,rfl,Y,W,Own.nil,λc a=>by simp[Sl.ag] at a,rfl,Z,by simpa using ab,f⟩
 rintro K m _ n ⟨g,s,e,b,rfl,w,F,G,fr,ax,ay,az,f⟩ ag;refine af.intro (λy=>?_) (λy=>?_)
 ·have H:0<g:=by simp at y;omega
  obtain⟨h,rfl⟩: ∃h,g=h+1:=⟨g-1,by omega⟩;have aA:=RF b;refine Hl F (by omega) λah ai I=>⟨_,rfl,?_⟩
  have aj:Ext d ah:=w.more I λc a=>by omega
  have al:=G.mod I λc a=>(fr c a).2
  refine zy (by omega) λaC z=>⟨_,_,_,_,_,_,_,_,_,rfl,?_⟩
  have J:=aj.trans z;have L:=z.ag ai (λd=>d);have M:=al.ext z;refine ao.mk λaD _ am A aE=>ae.eight am λN i B aF=>?_
  have aG:=J.size;have C:Ext d N:=(J.trans A).more B λc a=>by omega
  have O:=B.ag (A.ag L (λd=>d)) (by have:=Ag L;omega);have an:=(M.ext A).mod B λc a o=>by have:=M.lt a;omega
  have ap:WU (h+1) b=match WO (FO b).1 with|none=>none|some o=>match WU h (FO b).2 with|none=>none|some (l,r)=>some (o::l,r):=rfl
  rw[ap] at f;cases hd:WO (FO b).1 with
  |none=>
   rw[hd] at f;exact af.yes rfl (D f N C)
  |some o=>
   rw[hd] at f i;refine af.no rfl ?_;refine AC.mk (AL i rfl) (AC.mk (AB i rfl) (AC.mk (AB i rfl) (AC.mk (AB i rfl) (AC.mk (AB i rfl) (AC.mk (AB i rfl) (AZ.mk (AB i rfl) (AJ.mk (AB i rfl) ?_)))))));refine ao.bq (E:=ct) (x:=o) (s:=s) (l:=e) rfl nj an (by omega) (by simp[maxLen];omega) λaq k ar Q au aH=>?_
   have av:s.ag≠some v:=λa=>(fr _ a).2 rfl
   dsimp only;rw[show((h+1:Nat):Int)-(1:Int)=((h:Nat):Int) by simp,El (by omega)];refine ag h _ _ (by omega) ⟨h,aq,e++ [o],(FO b).2,rfl,C.more Q λc a=>(fr c a).1,Q.ag O av,ar,λc a=>?_,rfl,by omega,by simp;omega,?_⟩
   ·rcases au c a with u|u
    ·exact fr c u
    ·have j:=Ag O;have aI:=C.size;omega
   ·rw[f];cases aJ:WU h (FO b).2 with
    |none=>rfl
    |some p=>obtain⟨q,r⟩:=p;simp
 ·have H:g=0:=by simp at y;omega
  subst H;simp only[WU,AN] at f;refine MZ F ⟨_,rfl,?_⟩;refine af.intro (λj=>?_) (λj=>?_)
  ·have j:Su b=false:=by simpa using j
   exact D (by rw[f,j];rfl) n w
  ·have j:Su b=true:=by simpa using j
   exact S e (by rw[f,j];rfl) n s w G.view ⟨by omega,λc a=>ac▸(fr c a).1⟩
def zn(a:A2I):A2I:=(⟨#[122]⟩:A2I)++a
theorem ARJ(a:A2I):(zn a).size=1+a.size:=by unfold zn;rw[Hv];rfl
theorem ASX {a b:A2I}(c:zn a=zn b):a=b:=by have:=congrArg (λs:A2I=>s.data.toList) c;simp[zn,GP] at this;apply NO;exact Array.toList_inj.1 (by simpa using this)
theorem ARd {a:A2I}(b:Aj a=true):Jr (zn a)=false:=by have e:=Gj.1 b;have c:=ARJ a;unfold Jr;rw[Gk,decide_eq_false_iff_not,decide_eq_false_iff_not];refine⟨λd=>?_,by omega⟩;rw[d] at c;have:bg.size=0:=rfl;omega
def WP(m:Bx)(a:A2I):Int×List Ev:=
 if Aj a=true then
  if(FN m (zn a)).2≠0 then((FN m (zn a)).2,[])
  else if(De (bl (FN m (zn a)).1)).1≠0 then((De (bl (FN m (zn a)).1)).1,[])
  else if(De (bl (FN m (zn a)).1)).2.2≠ [] then(60,[])
  else match LZ (De (bl (FN m (zn a)).1)).2.1 with|none=>(60,[])|some l=>(0,l)
 else(1,[])
theorem T9 {d:ak}{b:aa}{a:A2I}{c:A2H}(f:a.size<=1099511627776)(e:c (J7 (zn a)) b):AA d P GJ #[J7 a] b c:=by refine AB0 ?_;unfold VO;exact⟨by have:(⟨#[122]⟩:A2I).size=1:=rfl;rw[max_i64];omega,e⟩
theorem AMj {m:Bx}(a:A2I):(FN m a).1.size<=aY m.files:=by
 unfold FN;split
 ·exact A5 _
 ·cases b:CE a m.files with
  |none=>exact A5 _
  |some f=>
   have:=Vq (IE b).2;simp only[Hv];exact this
theorem ANV {A:ak}{h:aa}{s:A2I}{R:A2H}(b:s.size<=1099511627776)
  (c: ∀a,Ext h a->R (J1 #[J7 (AX (De (bl s)).2.1),J7 (AX (De (bl s)).2.2),J6 J9 ((De (bl s)).1:Int)]) a):AA A P LY #[J7 s] h R:=by
 have:=sA (A:=A) (h:=h) (l:=bl s) (R:=R) (by rw[A7];exact As b (by decide)) c;rwa [KQ] at this
theorem AQC(l:List UInt8):(De l).2.1.length<=l.length:=by
 unfold De;cases a:MJ 0 0 l with
 |none=>dsimp only;split<;>exact A5 _
 |some p=>
  obtain⟨c,t⟩:=p;obtain⟨b,_⟩:=lL a;have d:t.length<=l.length:=by rw[b];simp
  dsimp only;split
  ·exact A5 _
  ·split
   ·exact A5 _
   ·split
    ·simp;omega
    ·exact A5 _
theorem Sv {B:ak}{f:aa}{t b:Nat}{C:Nat->Prop}{m:Bx}{a:A2I}{T:Q7}{j:A2H}(u:f[t]? =some (J2 #[Ak b] T (0,0)))(D:Bl f b C m)(I:aY m.files<1099511627776)(E:a.size<=1099511627776)
  (w: ∀g s,Ext f g->View ct g s (WP m a).2->((WP m a).2.length<=500/\ ∀c,s.ag=some c->f.size<=c)->j (J1 #[J4 s.p s.len s.cap,J6 J9 (WP m a).1]) g):AA B P Cq #[Ak t,J7 a] f j:=by
 refine Ps ?_;unfold KN;have h: ∀g (k:Int),Ext f g->WP m a=(k,[])->j (J1 #[J4 none 0 0,J6 J9 k]) g:=λg k x n=>by
  have:=w g ⟨none,0,0⟩ x (by rw[n];exact View.nil) ⟨by rw[n];exact A5 _,λc o=>nomatch o⟩;rw[n] at this;exact this
 refine ai.mk λK F=>af.no rfl (EO ⟨_,rfl,F _ _ ?_⟩)
 have e:WP m a=if Aj a=true then
  if(FN m (zn a)).2≠0 then((FN m (zn a)).2,[])
  else if(De (bl (FN m (zn a)).1)).1≠0 then((De (bl (FN m (zn a)).1)).1,[])
  else if(De (bl (FN m (zn a)).1)).2.2≠ [] then(60,[])
  else match LZ (De (bl (FN m (zn a)).1)).2.1 with|none=>(60,[])|some l=>(0,l)
  else(1,[]):=rfl
 cases y:Aj a with
 |false=>
  rw[y,if_neg (by decide)] at e;exact af.yes rfl (h f 1 Mod.refl e)
 |true=>
  rw[y,if_pos rfl] at e;refine af.no rfl (aE (AY.mk (AL u rfl) (T9 E ⟨_,rfl,AL u rfl,?_⟩)));refine Yk D ⟨_,_,rfl,?_⟩;refine af.intro (λd=>?_) (λd=>?_)
  ·have d:(FN m (zn a)).2≠0:=by simpa using d
   rw[if_pos d] at e;exact h f _ Mod.refl e
  have d: ¬(FN m (zn a)).2≠0:=by simpa using d
  rw[if_neg d] at e;have J:=AMj (m:=m) (zn a);refine ANV (by omega) λz i=>⟨_,_,_,rfl,?_⟩
  refine af.intro (λd=>?_) (λd=>?_)
  ·have d:(De (bl (FN m (zn a)).1)).1≠0:=by simp at d;omega
   rw[if_pos d] at e;exact h z _ i e
  have d: ¬(De (bl (FN m (zn a)).1)).1≠0:=by simp at d;omega
  rw[if_neg d] at e;rw[pz];have G:decide (AX (De (bl (FN m (zn a)).1)).2.2=Hu)=decide ((De (bl (FN m (zn a)).1)).2.2= []):=by rw[decide_eq_decide];exact Mq (b:= [])
  rw[G];refine af.intro (λd=>?_) (λd=>?_)
  ·have d:(De (bl (FN m (zn a)).1)).2.2≠ []:=by simpa using d
   rw[if_pos d] at e;exact h z _ i e
  have d: ¬(De (bl (FN m (zn a)).1)).2.2≠ []:=by simpa using d
  rw[if_neg d] at e;have H:=AQC (bl (FN m (zn a)).1);rw[A7] at H;refine AJu (by omega) (λp q r=>⟨⟨none,0,0⟩,_,rfl,?_⟩) (λL p q s r v A=>⟨s,_,rfl,?_⟩)
  ·rw[p] at e;exact h q _ (i.trans r) e
  ·rw[p] at e;have:=w q s (i.trans r) (by rw[e];exact v) ⟨by rw[e];exact A.1,λc o=>As i.size (A.2 c o)⟩;rw[e] at this;exact this
def L8(a:A2I)(l:List Ev):Int:=if Aj a=true then(if(Dv l).1≠0 then(Dv l).1 else if 1048576<(Dv l).2.length then 2 else 0) else 1
def bP(l:List Ev):A2I:=AX (Cg (Dv l).2)
theorem Re {b:A2I}{l:List Ev}(a:L8 b l=0):Aj b=true/\(Dv l).1=0/\(Dv l).2.length<=1048576:=by
 unfold L8 at a;split at a
 ·rename_i c;split at a
  ·rename_i d;exact absurd a (by omega)
  ·split at a
   ·cases a
   ·rename_i d e;exact⟨c,by omega,by omega⟩
 ·cases a
theorem AMt {l:List Ev}(a:(Dv l).1=0):l.length<=500/\l.all Dk=true/\(Dv l).2=Ni l:=by
 unfold Dv at a ⊢;split at a
 ·cases a
 ·rename_i c;split at a
  ·rename_i b;rw[if_neg c,if_pos b];exact⟨by omega,b,rfl⟩
  ·cases a
theorem sv {m:Bx}(c:m.down=false){a:A2I}{l:List Ev}(g:L8 a l=0)(hd: ∀b∈l,b.data.size<=4194304)(h:ff m (zn a)=some (bP l,bg)):WP m a=(0,l):=by
 obtain⟨i,j,k⟩:=Re g;obtain⟨n,d,o⟩:=AMt j;have p:FN m (zn a)=(bP l,0):=by rw[Yd c,h];simp[OY]
 have e:=sq (l:=(Dv l).2) k [];rw[AN] at e;have q:LZ (Dv l).2=some l:=by
  rw[o];refine fJ n d λb f=>?_
  have:=hd b f;have:=MG (Ha (List.all_eq_true.1 d b f)) (by omega);omega
 unfold WP;rw[if_pos i,p];simp only[bP,EF,e,q];rfl
theorem AJ4 {a:A2I}{l:List Ev}(b:L8 a l=0):(bP l).size<=1048590:=by obtain⟨_,_,c⟩:=Re b;have:=AV (n:=(Dv l).2.length) (by omega);simp only[bP,AP,Cg,A1,Jl];omega
theorem ANv {f:ak}{b:aa}{l:List UInt8}{d:A2H}(g:l.length<=1099511627776)
  (e: ∀a s c,Ext b a->(1048576<l.length->s=(⟨#[]⟩:A2I)/\c=(2:Int))->(l.length<=1048576->s=AX (Cg l)/\c=0)->d (J1 #[J7 s,J6 J9 c]) a):AA f P Fx #[J7 (AX l)] b d:=
 Yi g (λh=>e b _ _ Mod.refl (λ_=>⟨rfl,rfl⟩) λi=>by omega) λh a x=>e a _ _ x (λi=>by omega) λ_=>⟨rfl,rfl⟩
theorem AQS {l:List Ev}(c:l.length<=1099511627776)(hd: ∀a∈l,a.data.size<=4194304):(Dv l).2.length<=1099511627776:=by
 unfold Dv;split
 ·exact A5 _
 ·rename_i d;split
  ·rename_i b;have e:=zC b hd;have f:=AV (n:=l.length) (by omega);have g:l.length*5000000<=500*5000000:=AK _ (by omega);simp only[Ni,A1];omega
  ·exact A5 _
theorem yW {aK:ak}{e:aa}{y b:Nat}{j:Nat->Prop}{m:Bx}{a:A2I}{s:Sl}{l:List Ev}{T:Q7}{z:A2H}(ap:e[y]? =some (J2 #[Ak b] T (0,0)))(aL:Bl e b j m)(c:m.down=false)(aq: ¬j y)
  (be:aY m.files+2000000<1099511627776) (F:a.size<=1099511627776) (v:View ct e s l) (aM: ∀g,Mod j e g->View ct g s l) (O:l.length<=1099511627776) (hd: ∀Q∈l,Q.data.size<=4194304)
  (R:L8 a l≠0-> ∀g,Ext e g->z (J6 J9 (L8 a l)) g)
  (aN:m.fuel≠ -1-> ∀g S' i,Bl g b S' i->Mod j e g->(∀ c,S' c->j c\/e.size<=c)->(∀ x,x≠zn a->ff i x=ff m x)->aY i.files<=aY m.files+2000000->z (J6 J9 30) g)
  (aO:L8 a l=0-> ∀g S' i,Bl g b S' i->IX m i->Mod j e g->(∀ c,S' c->j c\/e.size<=c)->(∀ x,ff i x=if x=zn a then some (bP l,bg) else ff m x)->aY i.files<=aY m.files+2000000->z (J6 J9 0) g):
  AA aK P Cw #[Ak y,J7 a,J4 s.p s.len s.cap] e z:=by
 refine Rj ?_;unfold LD;have bf:=Ag ap;refine ai.mk λK aP=>af.no rfl (EO ⟨_,rfl,aP _ _ ?_⟩)
 have h:L8 a l=if Aj a=true then(if(Dv l).1≠0 then((Dv l).1:Int) else if 1048576<(Dv l).2.length then 2 else 0) else 1:=rfl;cases S:Aj a with
 |false=>
  rw[S,if_neg (by decide)] at h;have:=R (by rw[h];decide) e Mod.refl;rw[h] at this;exact af.yes rfl this
 |true=>
  rw[S,if_pos rfl] at h;refine af.no rfl (AOL v O hd λU V=>⟨_,_,rfl,?_⟩);refine af.intro (λq=>?_) (λq=>?_)
  ·have q:(Dv l).1≠0:=by simp at q;omega
   rw[if_pos q] at h;have:=R (by rw[h];omega) U V;rw[h] at this;exact this
  have q: ¬(Dv l).1≠0:=by simp at q;omega
  rw[if_neg q] at h;refine ANv (AQS O hd) λt bh bi ar aQ aR=>⟨_,_,rfl,?_⟩
  by_cases W:1048576<(Dv l).2.length
  ·obtain⟨rfl,rfl⟩:=aQ W;rw[if_pos W] at h;have:=R (by rw[h];decide) t (V.trans ar);rw[h] at this;exact af.yes rfl this
  ·obtain⟨rfl,rfl⟩:=aR (by omega);rw[if_neg W] at h;refine af.no rfl ?_;have r:=V.trans ar;have X:=r.ag ap (λe=>e);have aS:=aL.ext r;have v2:=v.ext r;refine aE (AY.mk (AL X rfl) (T9 F ⟨_,rfl,AL X rfl,?_⟩));have Y: ∀ {f:Int},f=0->f≠ -1:=λe=>by rw[e];decide
   have bj:=AJ4 h;have bk:=r.size;have Z: ∀ {g:aa} {S':Nat->Prop} {i:Bx},m.fuel≠ -1->Bl g b S' i->Mod j t g->(∀ c,S' c->j c\/e.size<=c)->(∀ x,x≠zn a->ff i x=ff m x)->aY i.files<=aY m.files+2000000->z (J6 J9 30) g:=λA aT i=>aN A _ _ _ aT ((Ext.mod r).trans i)
   have aU:(m.fuel=0/\EU m (zn a)=(30,LQ m))\/((EU m (zn a)).1=0\/(EU m (zn a)).1=31)/\IX m (EU m (zn a)).2/\ ∀x,ff (EU m (zn a)).2 x=if x=zn a then none else ff m x:=by
    cases A:ff m (zn a) with
    |some p=>exact(N8 c (k:=zn a) (by rw[A];rfl)).imp id λe=>⟨.inl e.1,e.2⟩
    |none=>
     have Q:EU m (zn a)=(31,m):=by
      have U:CE (zn a) m.files=none:=by
       have:=Sr (m:=m) (k:=zn a);rw[A] at this;cases t:CE (zn a) m.files with
       |none=>rfl
       |some f=>rw[t] at this;cases this
      unfold EU;rw[if_neg (by simp[c]),U];rfl
     rw[Q];refine .inr ⟨.inr rfl,IX.refl c,λx=>?_⟩;split
     ·rename_i e;rw[e];exact A
     ·rfl
   refine SX aS λaV aW G H B=>⟨_,rfl,?_⟩
   have aX:=Vi (m:=m) (zn a);refine ai.mk λaZ au=>?_
   generalize EU m (zn a)=a0 at*
   obtain⟨bm,u⟩:=a0;rcases aU with⟨C,D⟩|⟨w,E,I⟩
   ·cases D;exact af.yes rfl (au _ _ (af.yes rfl (Z (Y C) G H (λc n=> .inl (B c n)) (λx _=>rfl) (HD _ _))))
   dsimp only at w E I G aX ⊢;have av:aZ (false,()) aV:=by
    refine au _ _ (af.no rfl ?_);have ab:=H.ag X aq;refine aE (AY.mk (AL ab rfl) (T9 F ⟨_,rfl,AL ab rfl,?_⟩));have a1:=OL E.up (k:=zn a) (d:=bP l) (ARd S);rw[show AX (Cg (Dv l).2)=bP l from rfl];refine Xv G (by show aY u.files+(bP l).size+1<=_;omega) λa2 ac J aw ae=>⟨_,rfl,?_⟩
    have a3:aY (Dp u (zn a) (bP l)).2.files<=aY u.files+(bP l).size+1:=Vg G.aO (zn a) (bP l);generalize Dp u (zn a) (bP l)=a4 at*
    obtain⟨bn,L⟩:=a4;have ax: ¬aW y:=λn=>aq (B _ n)
    have ag:=aw.ag ab ax;have bo:=H.size;have ay:Mod j t a2:=H.trans (aw.aj λc _ n=>B c n);have ah: ∀c,ac c->j c\/e.size<=c:=λc n=>(ae c n).imp (B c) λe=>by omega
    rcases a1 with⟨C,D⟩|⟨az,M,aj⟩
    ·cases D;exact af.yes rfl (Z (λe=>Y C (E.calm e)) J ay ah (λx o=>by show ff u x=_;rw[I,if_neg o]) (by show aY u.files<=_;omega))
    dsimp only at az M aj J a3 ⊢;rw[az];refine af.no rfl ?_;refine aE (AY.mk (AL ag rfl) (T9 F ⟨_,rfl,AL ag rfl,?_⟩));have a5:ff L (zn a)=some (bg,bP l):=by rw[aj,if_pos rfl,I,if_pos rfl];simp[OE]
    have a6:=MF M.up a5;refine pZ J λaA N aC=>⟨_,rfl,?_⟩
    have a7:=YZ J.aO (zn a);generalize G8 L (zn a)=a8 at*
    obtain⟨bp,aD⟩:=a8;have a9: ¬ac y:=λn=>by rcases ae _ n with e|e;exact ax e;omega
    have ba:=aC.ag ag a9;have al:Mod j t aA:=ay.then (aC.aj λc _ n=>by rcases ae c n with e|e;exact .inl (B c e);exact .inr (by omega));have aF: ∀x,x≠zn a->ff L x=ff m x:=λx o=>by rw[aj,if_neg o,I,if_neg o]
    rcases a6 with⟨C,D⟩|⟨aG,am,an⟩
    ·cases D;exact af.yes rfl (Z (λe=>Y C (M.calm (E.calm e))) N al ah aF (by show aY L.files<=_;omega))
    dsimp only at aG am an N a7 ⊢;rw[aG];refine af.no rfl ?_;have aH:ff aD (zn a)=some (bP l,bg):=by rw[an,if_pos rfl];simp[OE]
    have bb:=sv am.up h hd aH;refine Sv ba N (by omega) F λaI bc ao aJ bq=>⟨bc,_,rfl,?_⟩
    rw[bb] at aJ ⊢;refine af.no rfl ?_;have bd:View ct aI s l:=(aM aA ((Ext.mod r).trans al)).ext ao;refine ANi aJ bd O ⟨_,rfl,?_⟩;rw[decide_eq_true rfl];refine af.no rfl (aO h aI ac aD (N.ext ao) (E.trans (M.trans am)) (((Ext.mod r).trans al).trans (Ext.mod ao)) ah (λx=>?_) (by omega));by_cases o:x=zn a
    ·rw[if_pos o,o];exact aH
    ·rw[if_neg o,an,if_neg o,aF x o]
   rcases w with w|w
   ·rw[w];exact af.no rfl av
   ·rw[w];exact af.yes rfl av
def gF(id a:Int):Ev:=⟨id,a,0,0,0,0,false,Hu⟩
theorem ASZ {id:Int}(a:1<=id/\id<=500):Dk (gF id 2)=true/\Dk (gF id 13)=true:=by constructor<;>simp[Dk,FC,KV,gF,dr,dC,dM,dV,dW,dv,bX,a.1,a.2]
theorem AKl {d:A2I}{l:List Ev}(f:Aj d=true)(g:l.length<=500)(e:l.all Dk=true)(hd: ∀a∈l,a.data.size=0):L8 d l=0:=by
 have h:Dv l=(0,Ni l):=by unfold Dv;rw[if_neg (by omega),if_pos e]
 have i: ∀l:List Ev,l.all Dk=true->(∀ a∈l,a.data.size=0)->(l.flatMap λa=>BG (EH a)).length<=l.length*110:=by
  intro l
  induction l with
  |nil=>intro _ _;simp
  |cons a l j=>
   intro b c;simp only[DG,A3] at b;have k:=j b.2 λx m=>c x (AG _ m)
   have o:=c a (by simp);have p:=MG (Ha b.1) (by omega);have q:=AV (n:=(EH a).length) (by omega);have r:(BG (EH a)).length=(BX (EH a).length).length+(EH a).length:=by simp[BG]
   simp only[AH,A1,A6];omega
 have b:=i l e hd;have c:=AV (n:=l.length) (by omega);have k:(Ni l).length<=1048576:=by simp only[Ni,A1];have:l.length*110<=500*110:=AK _ g;omega
 unfold L8;rw[if_pos f,h];simp only;rw[if_neg (by simp),if_neg (by omega)]
open M (Sorted Ab Bw Av Ac Am BF Ah bz Az aP Ay)
theorem MQ {x:A2I}(h:cz x):(bl x).head? ≠some 122:=by
 rcases h with⟨b,rfl⟩|⟨b,rfl⟩|⟨b,rfl⟩
 ·rw[RS];decide
 ·rw[UD];decide
 ·rw[YG];decide
theorem qD(b:A2I):(bl (zn b)).head? =some 122:=by unfold zn bl;rw[GP,Ix];rfl
theorem uy(b:A2I): ¬cz (zn b):=λh=>MQ h (qD b)
theorem ASm {d G:bT}{e:Bz}(h:BH d e)(c: ∀x,(bl x).head? ≠some 122->G x=d x):BH G e:=by
 refine⟨h.log.aw h.cF.1 λb _ _=> .inl (c _ (MQ (.inl ⟨b,rfl⟩))),h.note.aw h.cF.2.2.1 λb _ _=> .inl (c _ (MQ (.inr (.inl ⟨b,rfl⟩)))),λb i=>?_,h.gi,h.dT,λx f hd=>?_,h.cF⟩
 ·rw[c _ (MQ (.inr (.inr ⟨b,rfl⟩)))];exact h.cW b i
 ·rw[c x (by rw[hd];decide)] at f;exact h.dA x f hd
theorem uz {c G:bT}{st:Db}{e:Bz}(L:Ee c st e)(d: ∀x,(bl x).head? ≠some 122->G x=c x):Ee G st e:=by
 have f: ∀b,G (aD nl b)=c (aD nl b):=λb=>d _ (MQ (.inl ⟨b,rfl⟩))
 have i: ∀b,G (aD nn b)=c (aD nn b):=λb=>d _ (MQ (.inr (.inl ⟨b,rfl⟩)))
 have j: ∀b,G (ba b)=c (ba b):=λb=>d _ (MQ (.inr (.inr ⟨b,rfl⟩)))
 obtain⟨k,m,n,o,p,q,r,t,u,v,w,y,z⟩:=L;exact⟨ASm k d,m,n,o,p,q,r,λb=>by rw[f];exact t b,λh=>by rw[f];exact u h,λb=>by rw[i];exact v b,w,y,λb=>by rw[j];exact z b⟩
def km(f:A2I->Option (A2I×A2I))(b:A2I)(l:List Ev):A2I->Option (A2I×A2I):=λx=>if x=zn b then some (bP l,bg) else f x
section
variable {A : ak} {B : bV} {g h : aa} {s a N sh : Nat} {l : List Hs} {mp : List Pr} {O : Nat -> Prop} {R : A2H}
theorem LW.aw {E:Nat}{o:A2I}{u:Sl}{p:List Ev}{T:Q7}(ai:LW B g h s a N sh l mp O)(X:h[E]? =some (J2 #[Ak B.bx] T (0,0)))(aj:O E)(V:View ct h u p)(ak: ∀c,u.ag=some c->O c)(Y:L8 o p=0)(hd: ∀q∈p,q.data.size<=4194304)(az:p.length<=500)(hA:4+3*a<=B.A)(aA:64*a+64<=B.C)(aC:B.W0+(1+3*a)*B.K+2000000<1099511627776)
  (al:B.cm=false-> ∀b z,fS {B with zf:=z} g b (a+1) [mp] O->Mod (bo g O) h b->R (J6 J9 30) b)
  (am: ∀b,LW {B with zf:=km B.zf o p} g b s (a+1) N sh l mp O->Mod (bo g O) h b->b[s]? =h[s]? ->R (J6 J9 0) b):AA A P Cw #[Ak E,J7 o,J4 u.p u.len u.cap] h R:=by
 obtain⟨n,r,st,m,H,nn,f,aD,q,an,ao,out⟩:=ai;have i:=f.db;have bx:=i.mem.box;have v: ∀c,n.Sb c->r c=2:=i.mem.kb;have own:=i.mem.own;have I: ∀c,n.Sb c-> ¬O c:=λc d J=>by have:=v c d;rw[(out c J).1] at this;cases this
 have aE:=i.wt;have aF:=Ep (Re Y).1;have aG:10000000<=B.K:=by unfold bV.K nG;omega
 rw[<- f.bx] at X;have Z: ∀ {S':Nat->Prop} c,IZ r h.size S' 2 c≠0->r c≠0\/h.size<=c:=λc d=>by
  unfold IZ at d
  grind
 have K: ∀ {S':Nat->Prop} c,r c=0->c<h.size->IZ r h.size S' 2 c=0:=λc L aH=>Decidable.byContradiction λap=>by
  rcases Z c ap with h|h
  ·exact h L
  ·omega
 have ab: ∀ {b:aa} {S':Nat->Prop} {k:Bx},Bl b n.b S' k->Mod n.Sb h b->(∀ c,S' c->n.Sb c\/h.size<=c)->bQ g b {n with Sb:=S'} (IZ r h.size S' 2) st k:=λt e w=>i.mem.boxed (j:=0) (bH:=st) t (e.aj λc _ d=> .inl d) w rfl rfl rfl rfl (.inl ⟨by decide,rfl,rfl⟩) (.inl ⟨by decide,rfl⟩)
 have ac: ∀ {b:aa},Mod n.Sb h b->Mod (bo g O) h b:=λe=>e.aj λc _ d=>⟨(own c (by rw[v c d];decide)).1,I c d⟩
 have ae: ∀ {af:Nat},af<=aY m.files+2000000->af<=B.W0+(1+3*(a+1))*B.K:=λh=>by
  have aI:(1+3*(a+1))*B.K=(1+3*a)*B.K+3*B.K:=by rw[show 1+3*(a+1)=(1+3*a)+3 from by omega,Dd]
  omega
 refine yW X bx i.up (λh=>I E h aj) (by omega) (by omega) V (λb e=>V.mod e λc d y=>I c y (ak c d)) (by omega) hd (λL=>absurd Y L) (λF b S' k t e w J M=>?_) λ_ b S' k t c1 e w F M=>?_
 ·have C:=ab t e w;have aq:=e.size;have ar:Ee (ff k) st H:=uz i.dN λx Q=>J x λq=>Q (by rw[q];exact qD o)
  refine al ?_ b (λD=>ff k D) ⟨_,k,⟨⟨S',by rw[<- f.bx];exact t,λc d=>by rw[C.kb c d];decide⟩,λG au=>⟨mp,by simp,?_⟩,ae M,by show 64*(a+1)<=B.C;omega,C.own,C.ext,λD _=>rfl⟩,λc d=>?_⟩ (ac e)
  ·cases d:B.cm with
   |false=>rfl
   |true=>exact absurd (f.fuel d) F
  ·rw[<- q];exact(ar.jH i.lim G au).mono (by omega) (by omega)
  ·obtain⟨S,U,W,ag,ah⟩:=out c d;exact⟨K c S U,by omega,W⟩
 have C:=ab t e w;have av: ∀x,(bl x).head? ≠some 122->ff k x=ff m x:=λx Q=>by
  rw[F,if_neg λq=>Q (by rw[q];exact qD o)]
 have aw:Bt {B with zf:=km B.zf o p} g b {n with Sb:=S'} (IZ r h.size S' 2) st k H (1+3*(a+1)) (64*(a+1)):=
  ⟨C,c1.up,uz i.dN av,i.lim.mono (by omega) (by omega),ae M,by show 64*(a+1)<=B.C;omega⟩
 have ax:Fq {B with zf:=km B.zf o p} g b s {n with Sb:=S'} (IZ r h.size S' 2) st k H (1+3*(a+1)) (64*(a+1)) nn:=by
  refine⟨aw,e.ag f.cell (λy=>by have:=v s y;rw[f.kz] at this;cases this),K s f.kz f.lt,f.base,λh=>c1.calm (f.fuel h),f.cw,f.bx,λD ay=>?_⟩;rw[F];show _=km B.zf o p D;unfold km;split
  ·rfl
  ·exact f.dc D ay
 have aq:=e.size;refine am b ⟨_,_,_,_,_,nn,ax,by omega,q,an.step e (λc d=> .inl (by rw[v c d];decide)) Z,ao,λc d=>?_⟩ (ac e) (e.get s f.lt λy=>by have:=v s y;rw[f.kz] at this;cases this);obtain⟨S,U,W,ag,ah⟩:=out c d;exact⟨K c S U,by omega,W,ag,ah⟩
theorem LW.jI {B:bV}{sh b:Nat}{Sb:Nat->Prop}{m:Bx}(n:cu g)(o:Bl h b Sb m)(d:Ext g h)(p: ∀c,Sb c->g.size<=c)(hd:m.down=false)(q:m.fuel= -1)(r: ∀j,ff m (aD nl j)=none)(t: ∀j,ff m (aD nn j)=none)(u: ∀x,ff m x≠none->(bl x).head? ≠some 116)(hA:1<=B.A)(v:aY m.files<=B.W0)(w:b=B.bx)(y: ∀f,¬cz f->ff m f=B.zf f)(z: ∀c,O c->g.size<=c/\c<h.size/\ ¬Sb c)
  (C: ∀e s,LW B g e s 0 0 sh [] [] O->Mod (λc=>Sb c\/h.size<=c) h e->h.size<=s->R (J1 #[Ak s,J6 J9 0]) e):AA A P Kh #[Ak b] h R:=
 ANI (B:=B) n o d p hd q r t u hA v w y λe s D E F G H T I mp k J K=>C e s ⟨D,E,F,G,H,0,I,A0 _,mp,⟨λi x d=>by simp at d,λi U x f d=>by simp at d⟩,by omega,λc L=>by
  obtain⟨M,V,Q⟩:=z c L;refine⟨Decidable.byContradiction λS=>?_,by have:=k.size;omega,M,by omega,λx d=>by cases d⟩;rcases J c S with h|h
  ·exact Q h
  ·omega⟩ k K
end
def uk(a:Nat):A2I:=AX [116,Bu a]
def Iq(a:Nat):A2I:=AX [109,Bu a]
def kh(name:A2I):A2I:=AX (113::BG (bl name))
section
variable {A : ak} {h : aa} {R : A2H}
theorem ANc {n:Nat}(b:n<256)(c: ∀a,Ext h a->R (J7 (Iq n)) a):AA A P Mh #[J6 J9 (n:Int)] h R:=by
 refine UL ?_;unfold Qh;refine qF b λd e=>⟨_,rfl,⟨by rw[AP,max_i64];show((2:Nat):Int)<=9223372036854775807;decide,?_⟩⟩
 rw[show(⟨#[109]⟩:A2I)=AX [109] from rfl,Aq];exact c d e
end
section
variable {A : ak} {B : bV} {g h : aa} {s a N sh cb : Nat} {l : List Hs} {mp : List Pr} {O : Nat -> Prop} {i : Nat} {y : Hs} {z : Nat -> Nat} {x : fi} {C : bC} {R : A2H}
end
section
variable {A : ak} {h : aa} {R : A2H}
end
theorem AJh {a:bC}{t:gL}{tick:Int}{c:Nat}(b:(ER a t tick c).err=0):(ER a t tick c).au=a.au++ [⟨LJ a.aq tick c,MU t a.wid,false⟩]:=by
 unfold ER at b ⊢;split at b
 ·rename_i d;exact absurd b d
 ·rename_i d;rw[if_neg d];split at b
  ·exact absurd (show(1:Int)=0 from b) (by decide)
  ·rename_i e;rw[if_neg e]
theorem AI3 {x:cC}{p:cA}{n n0 n1 n2:Nat}{now:Int}(h:x.kind=1)(d:GL p=true)(i:Aj x.wid=true)(j:0<=now/\now<=1099511611776)(v:p.aG=0):
  Dl (EK x p (BP none x.wid n now) n0)=true/\ ∃e,(BA (EK x p (BP none x.wid n now) n0) n1 n2).au= [⟨JM x.aX,e,false⟩,⟨SK n n1,MU ⟨1,2,0⟩ x.wid,false⟩]:=by
 obtain⟨w,m,o,q,y⟩:=ui (n:=n) (n0:=n0) h d i j;obtain⟨k,c,z⟩:=Xw (n:=n) (n0:=n0) (n1:=n1) (n2:=n2) h d i j;have l:Cy x p (BP none x.wid n now) n0=EC (BP none x.wid n now) (dh 1 (AX (Cs p))):=by unfold Cy;rw[if_pos h,if_neg (by omega)]
 generalize f:EK x p (BP none x.wid n now) n0=b at*
 have e:Dl b=true:=by subst f;unfold Dl;rw[show(EK x p (BP none x.wid n now) n0).st=_ from m,show(EK x p (BP none x.wid n now) n0).more=_ from o];rfl
 refine⟨e,?_⟩;have a:=Og b Qp;have r:BA b n1 n2=ER (EC b Qp) ⟨1,Wp (EC b Qp),0⟩ (-1) n1:=by
  have s:EZ b n1=ER (EC b Qp) ⟨1,Wp (EC b Qp),0⟩ (-1) n1:=by unfold EZ;rw[if_pos e]
  unfold BA at c ⊢;split
  ·rename_i g;exfalso;rw[if_pos g,(HV _ _ _ _).1] at c;exact g.2 (by rw[c])
  ·exact s
 rw[r] at k c ⊢;rw[AJh k];rw[(HV _ _ _ _).1] at c;have t:Wp (EC b Qp)=2:=by unfold Wp;rw[c];rfl
 rw[t];have d:b.au= [⟨JM x.aX,j8 (Ms x p) (Df (Cy x p (BP none x.wid n now) n0)).1.toNat (Df (Cy x p (BP none x.wid n now) n0)).2.toNat,false⟩]:=by rw[<- f];show(Cy x p (BP none x.wid n now) n0).au++_=_;rw[l,(Og _ _).2.2.2.2.2.1];rfl
 have g:(EC b Qp).aq=n:=by rw[a.2.1,<-f];show(Cy x p (BP none x.wid n now) n0).aq=n;rw[l,(Og _ _).2.1];rfl
 have u:(EC b Qp).wid=x.wid:=by rw[a.1,<-f];exact q
 rw[a.2.2.2.2.2.1,d,g,u];exact⟨_,rfl⟩
def stS(p:cA)(t:Int):bF:=⟨p,0,3,t,2,0,true,[],[],false,false⟩
def stT(p:cA)(t:Int):bF:=⟨p,0,4,t,0,3,false,[],[],false,false⟩
section
variable {A : ak} {h : aa} {R : A2H}
theorem ANG {x:Sl}{l:List Ev}(v:View ct h x l)(e:l.length<=1000)(d: ∀a b,Own ct Ao b a l->(∀ c,a.ag=some c->h.size<=c)->Ext h b->R (J4 a.p a.len a.cap) b):AA A P DU #[J4 x.p x.len x.cap] h R:=by refine Iu ?_;unfold FK;exact VY nj v (by omega) (by simp only[maxLen];omega) d
end
section
variable {A : ak} {B : bV} {g h : aa} {s a N sh : Nat} {l : List Hs} {mp : List Pr} {O : Nat -> Prop} {i : Nat} {y : Hs} {fl : cI} {an : cP} {R : A2H}
def Uq(b:List Ev)(c:Nat):List Ev:=(b.drop c).take 32
theorem uF {wid:A2I}{e:List Ev}{v:J0}{w:Q2}{n:Nat}{I:Bool}{J:Int}(L:IJ e)(M:n<=e.length)
  (ld: ∀(o:aa) (z:A2H),Ext h o->(∀ f d Q S T,Ext o f->View ct f d e->z (J1 #[(⟨wid,J,⟨(Ai e).status,(Ai e).next,I⟩,d,(Ai e).V Q S T⟩:bZ).v,J6 J9 0]) f)->AA A P Eb #[J5 w,v,J7 wid] o z)
  (U: ∀f d,Ext h f->View ct f d (Uq e n)->(∀ c,d.ag=some c->h.size<=c)->R (⟨0,(Ai e).status,(Ai e).next,⟨0,⟨#[]⟩,0,0⟩,⟨#[]⟩,d⟩:bY).v f):
  AA A P F9 #[J5 w,v,J7 wid,J6 J9 ((n+1:Nat):Int)] h R:=by
 have aq:=L.len;refine ZL ?_;unfold Rk;refine ao.mk λo _ C q ar=>ld o _ q λW d a b c X V=>O9.mk _ ⟨_,rfl,ao.mk λau _ Y Z av=>aW.mk Y (A0 18) λab j ac aw=>af.no rfl ?_⟩
 rw[XQ] at j;have D:Ext W ab:=Z.more ac λc k=>by subst k;exact A0 _
 have r:=X.trans D;have t:=V.ext D;have ax:=t.len;refine ai.mk λK ae=>af.no (decide_eq_false (by omega)) (Ad.mk (s:=d) (CS j rfl) ?_)
 rw[Aa (by omega),show decide (((n+1:Nat):Int)>((d.len+1:Nat):Int))=false from decide_eq_false (by omega)];refine ae _ _ (af.no rfl (Ad.mk (s:=d) (CS j rfl) ?_));rw[show J8 J9 (((n+1:Nat):Int)-(1:Int))=((n:Nat):Int) from by rw[show((n+1:Nat):Int)-1=((n:Nat):Int) by omega];exact El (by omega),AF];refine⟨⟨by omega,by omega⟩,AC.mk (n:=(Ai e).status) (CS j rfl) (AC.mk (n:=(Ai e).next) (CL j rfl) ?_)⟩;obtain⟨m,ag⟩: ∃m:Nat,m=min 32 (e.length-n):=⟨_,rfl⟩;have ah:(if(32:Int)<(((d.len-n):Nat):Int) then(32:Int) else(((d.len-n):Nat):Int))=((m:Nat):Int):=by split<;>omega
 rw[ah,AF];have vc:=t.cap;refine⟨⟨by omega,by omega⟩,?_⟩;have E:=t.sub (lo:=n) (hi:=e.length) M (A0 _);rw[Bk] at E;have u:=E.sub (lo:=0) (hi:=m) (A5 _) (by rw[CI];omega);rw[HM] at u;have aj:(e.drop n).take m=Uq e n:=by unfold Uq;rw[ag,<-CI,To];rw[CI];omega
 rw[aj] at u;refine ANG (x:=⟨BI (BI d.p d.cap n 8) (d.cap-n) 0 8,m-0,d.cap-n-0⟩) u (by unfold Uq;rw[An];omega) λak ay al F p=>⟨_,rfl,CL (p.ag j λh=>h) rfl,CS (p.ag j λh=>h) rfl,?_⟩
 have am:=(r.trans p).ag C λh=>h
 refine aW.mk am (A0 9) λap G H az=>?_
 rw[Qb] at G;refine GR.mk _ (UM G) ?_;have aA:=q.size;have aC:=r.size;refine U ap ak ((q.trans (r.trans p)).more H λc k=>by subst k;exact A0 _) (al.view.mod H λc k aD=>?_) λc k=>?_
 ·have:=F c k;have:=Ag C;omega
 ·have:=F c k;omega
theorem uG {wid:A2I}{b:List Ev}{m:J0}{f:Nat}(n:LW B g h s a N sh l mp O)(o:l[i]? =some y)(j:JU mp fl an)(p:Aj wid=true)(k:fl wid=some b)(q:f<=b.length)
  (r: ∀d e,Ext h d->View ct d e (Uq b f)->(∀ c,e.ag=some c->h.size<=c)->R (⟨0,(Ai b).status,(Ai b).next,⟨0,⟨#[]⟩,0,0⟩,⟨#[]⟩,e⟩:bY).v d):
  AA A P F9 #[Ak y.p,m,J7 wid,J6 J9 ((f+1:Nat):Int)] h R:=
 uF (j.cZ wid b k) q (λC D x t=>qp (n.on x) o j p k λd e u v w z V _ _ _=>t d e u v w z V) r
end
def Ea(P:A2I)(m:List Pr):List Pr:=m.filter λx=>Nj P x.key
section
variable {P k : A2I} {m b : List Pr} {p x : Pr}
theorem AQe(k:A2I):aR k (⟨#[]⟩:A2I)=false:=by unfold aR;rw[ByteArray.toList_eq,ByteArray.toList_eq];cases k.data.toList<;>rfl
theorem uo(a:Int):jy m P ⟨#[]⟩ a=(Ea P m).take a.toNat:=by unfold jy Ea;rw[HG λx _=>by rw[AQe,Kx,Bool.and_true]]
theorem JZ(s:Sorted m):Sorted (Ea P m):=s.sublist FA
theorem Pm:Ab k (Ea P m)=if Nj P k=true then Ab k m else none:=mF (q:=Nj P)
theorem ARj(s:Sorted m):Ea P (gG m p)=if Nj P p.key=true then gG (Ea P m) p else Ea P m:=by
 split
 ·refine Sorted.ext (JZ (L9 s p)) (L9 (JZ s) p) λk=>?_
  rw[Pm,Rp s,Rp (JZ s),Pm]
  grind
 ·refine Sorted.ext (JZ (L9 s p)) (JZ s) λk=>?_
  rw[Pm,Pm,Rp s]
  grind
theorem Ua:Ea P (p::b)=if Nj P p.key=true then p::Ea P b else Ea P b:=AT
theorem Mi: ∀ {b m:List Pr},Sorted m->Ea P (cj m b)=cj (Ea P m) (Ea P b)
 | [],_,_=>rfl
 |p::b,m,s=>by
  show Ea P (cj (gG m p) b)=_;rw[Mi (L9 s p),ARj s,Ua];split<;>rfl
theorem og(a b:List Pr):Ea P (a++b)=Ea P a++Ea P b:=Of _ _
theorem dp(a: ∀p∈b,Nj P p.key=false):Ea P b= []:=List.filter_eq_nil_iff.2 λp c=>by rw[a p c];decide
theorem qA(s:Sorted (x::m))(a:p.key=x.key)(c:p.gone=true):gG (x::m) p=m:=by
 rw[sS s,c,if_pos rfl,a];unfold kR;rw[AT,if_neg (by simp)];refine List.filter_eq_self.2 λd e=>?_
 have:=M.Lx ((List.pairwise_cons.1 s).1 d e);simp[Ne.symm this]
end
def Yw(c a:Nat):A2I:=AX (113::0::Bu c::Kw 8 a)
theorem uq:kh ⟨#[]⟩=AX [113,0]:=by unfold kh BG;rw[show bl (⟨#[]⟩:A2I)= [] from rfl,Ff (by decide)];rfl
theorem AM9(c a:Nat):BC (Yw c a)=113:=by unfold BC Yw;rw[EF];rfl
theorem ur {a:UInt8}{d:List UInt8}{k:A2I}(c:Nj (AX (a::d)) k=true):BC k=a:=by rw[Mw,Be] at c;obtain⟨t,e⟩:=c;unfold BC;show(k.data.toList).headD 0=a;rw[<- e];rfl
theorem om {a:UInt8}{c:List UInt8}{k:A2I}(d:BC k≠a):Nj (AX (a::c)) k=false:=by
 cases e:Nj (AX (a::c)) k with
 |false=>rfl
 |true=>exact absurd (ur e) d
theorem AJq(c a:Nat):Nj (kh ⟨#[]⟩) (Yw c a)=true:=by rw[Mw,uq];unfold Yw;rw[Be,Be];exact⟨_,rfl⟩
theorem AR0 {c:Nat}{b:List Pr}(a: ∀p∈b,BC p.key≠116):Ea (uk c) b= []:=dp λp d=>om (a p d)
theorem uu {b:List Pr}(a: ∀p∈b,BC p.key≠113):Ea (kh ⟨#[]⟩) b= []:=by rw[uq];exact dp λp c=>om (a p c)
abbrev qB(wid:A2I):A2I:=MU ⟨1,2,0⟩ wid
def AUG(c:Nat)(t:Nat×A2I):Pr:=⟨SK c t.1,qB t.2,false⟩
def uv(c:Nat)(t:Nat×A2I):Pr:=⟨Yw c t.1,qB t.2,false⟩
structure oy (mp:List Pr) (T:Nat->List (Nat×A2I)) (L:List Pr):Prop where
 tr: ∀c,c<3->Ea (uk c) mp=(T c).map (AUG c)
 li:Ea (kh ⟨#[]⟩) mp=L
section
variable {mp b : List Pr} {T : Nat -> List (Nat × A2I)} {L : List Pr}
theorem oy.take {c d:Nat}{wid v:A2I}{a g:List Pr}(i:oy mp T (uv c (d,wid)::L))(s:Sorted mp)(h: ∀p∈a++g,BC p.key≠116/\BC p.key≠113):oy (cj mp (a++⟨Yw c d,v,true⟩::g)) T L:=by
 refine⟨λl n=>?_,?_⟩
 ·rw[Mi s,AR0 (b:=a++⟨Yw c d,v,true⟩::g) λp e=>?_]
  ·exact i.tr l n
  ·rcases List.mem_append.1 e with f|f
   ·exact(h p (by simp[f])).1
   ·rcases List.mem_cons.1 f with rfl|f
    ·show BC (Yw c d)≠116;rw[AM9];decide
    ·exact(h p (by simp[f])).1
 ·have j:=JZ (P:=kh ⟨#[]⟩) s;rw[i.li] at j;rw[Mi s,i.li,og,Ua,show Nj (kh ⟨#[]⟩) (Yw c d)=true from AJq _ _,if_pos rfl,uu (b:=a) λp e=>(h p (by simp[e])).2,uu (b:=g) λp e=>(h p (by simp[e])).2];exact qA j rfl rfl
end
def Ub(p:Pr):Pr:=⟨p.key,⟨#[]⟩,true⟩
def cE(wid:A2I)(b:List Ev)(c:Bool)(d e:A2I):List Pr:= [⟨Eu wid,I1 (Ai b).status.toNat (Ai b).next.toNat c,false⟩,⟨d,e,false⟩]
def bO(wid:A2I)(b:List Ev)(c:A2I)(left:List Pr):List Pr:=(⟨Eu wid,I1 (Ai b).status.toNat (Ai b).next.toNat true,false⟩::(left.take 40).map Ub)++(if left.length<=40 then [⟨c,⟨#[]⟩,true⟩] else [])
section
variable {Kd : aa -> Prop} {A : ak} {B B' : bV} {g h : aa} {s a a' N sh : Nat} {l : List Hs} {mp : List Pr} {O : Nat -> Prop} {i : Nat} {y : Hs} {fl : cI} {an : cP} {R : A2H} {ap : Q2}
theorem AQo {wid tk tv:A2I}{a3 r:Bool}{d:List Ev}{a4:Nat}(aJ:LW B g h s a N sh l mp O)(a5:l[i]? =some y)(Z:IJ d)(a6:Aj wid=true)(a7:(Ai d).status≠0)(bY:ap=some ⟨a4,0,none⟩)(b0:tk.size<=1000000)
  (ld: ∀(q:aa) (J:A2H),Ext h q->(∀ e u a' a8 am,Ext q e->View ct e u d->(r=false-> ∀x,u.ag=some x->q.size<=x)->J (J1 #[(⟨wid,(A8 wid sh:Int),⟨(Ai d).status,(Ai d).next,r⟩,u,(Ai d).V a' a8 am⟩:bZ).v,J6 J9 0]) e)->AA A P Eb #[Ak y.p,.iface Ba (J5 ap),J7 wid] q J)
  (a9: ∀(q:aa) (u:Sl) (L:Nat->Prop) (J:A2H),r=false->Ext h q->LW B g q s a N sh l mp L->(∀ c,O c->L c)->View ct q u d->(∀ c,u.ag=some c->L c)->(∀ e,LW B' g e s a' N sh l mp L->Mod (bo g L) q e->e[s]? =q[s]? ->J (J6 J9 0) e)->(∀ e,Kd e->Mod (bo g L) q e->J (J6 J9 30) e)->AA A P Cw #[J5 ap,J7 wid,J4 u.p u.len u.cap] q J)
  (same:r=true->B'=B/\a'=a) (ba: ∀e,Kd e->Mod (bo g O) h e->R (J1 #[J3 false,J6 J9 30]) e)
  (aK: ∀k conds sl aq,LW B' g k s a' N sh l mp aq->(∀ c,O c->aq c)->View BO k conds (cE wid d r tk tv)->View BO k sl (bO wid d tk ((Ea (GQ wid) mp).take 41))->(∀ c,sl.ag=some c->aq c)->Mod (bo g O) h k->k[s]? =h[s]? ->
   AA A P Fa #[Ak y.p,J6 J9 (A8 wid sh:Int),J4 conds.p conds.len conds.cap,J4 sl.p sl.len sl.cap] k λv bb=> ∃t:Int,v=J6 J9 t/\R (J1 #[J3 (decide (((Ea (GQ wid) mp).take 41).length<=40)),J6 J9 t]) bb):
  AA A P GG #[Ak y.p,J5 ap,J7 wid,.agg #[J7 tk,J7 tv,J3 a3]] h R:=by
 obtain⟨nx,b1⟩:=Z.next;have b2:=Z.len;have b3:=Z.st;have bc:=Ep a6;refine TQ ?_;unfold PM;refine ao.mk λq _ ab ar b4=>ld q _ ar λaL u b5 b6 c1 au V bd=>O9.mk _ ⟨_,rfl,ao.mk λb7 _ be bf b8=>aW.mk be (A0 18) λD Q bg b9=>af.no rfl ?_⟩
 rw[XQ] at Q;have av:Ext aL D:=bf.more bg λc f=>by subst f;exact A0 _
 have S:=ar.trans (au.trans av);have ab:=(au.trans av).ag ab λh=>h
 have ca:=ar.size;have cb:=au.size;have cc:=S.size;have cd:=Ag ab;have ce:=Ag Q;have aM:=V.ext av;generalize cf:h.size=bh at*
 generalize cg:aL.size=W at*
 let T:Nat->Prop:=λw=>O w\/(h.size<=w/\w<D.size)
 have aN:LW B g D s a N sh l mp T:=aJ.own S.mod λw o=>o
 have aO: ∀e,Mod (bo g T) D e->Mod (bo g O) h e:=λe m=>S.mod.trans (m.aj λc _ f=>bo.less f λc bi=> .inl bi)
 refine AC.mk (n:=(Ai d).status) (CS Q rfl) (af.no (by simpa using a7) (ai.mk λK bj=>?_));have slt:=aJ.slt;have key: ∀k,LW B' g k s a' N sh l mp T->Mod (bo g T) D k->k[s]? =h[s]? ->K () k:=λk ac ag bk=>by
  have bm:k[bh]? =_:=bo.aw ag ab (.inr ⟨by omega,by omega⟩);have aP:k[W]? =_:=bo.aw ag Q (.inr ⟨by omega,by omega⟩);have ch:=ag.size;refine bj _ _ (ac.store a5 ⟨_,rfl,qE (by omega) λci aQ=>⟨_,rfl,?_⟩⟩);refine(ac.on aQ).scan (by have:=yj bc;omega) λps aw F cj bn=>⟨_,_,rfl,af.no rfl ?_⟩
  rw[uo] at F;have F:Own BO AQ aw ps ((Ea (GQ wid) mp).take 41):=F;generalize (Ea (GQ wid) mp).take 41=left at F aK;have ah:=aQ.trans bn;have aR:=ah.ag bm λh=>h
  have aS:=ah.ag aP λh=>h
  have ck:=ah.size;have cm: ∀ {G:aa} {x:bZ},G[W]? =some (J2 x.c DJ (0,0))->Cells G ((⟨W,0,none⟩:Q6).add 2) x.me.l:=λbp=>by
   have H:(⟨W,0,none⟩:Q6).add 2=⟨W,2,none⟩:=rfl;rw[H];exact EN bp rfl
  refine Jt.mk ⟨(Ai d).status,(Ai d).next,r⟩ (cm aS) (ao.mk λcl _ bq br cn=>aW.mk bq (A0 3) λco bs bt cp=>?_);refine ae.cN (j:=2) (eY:=(⟨(Ai d).status,(Ai d).next,true⟩:cV).c) bs (of_decide_eq_true rfl) rfl λbu bv bw cq=>?_
  have aj:Ext aw bu:=br.more (bt.trans bw) λc f=>by subst f;exact A0 _
  have U:=aj.ag aR λh=>h
  have aT:=aj.ag aS λh=>h
  refine Jt.mk ⟨(Ai d).status,(Ai d).next,r⟩ (cm aT) (AJ.mk (n:=tk) (AL U rfl) (AJ.mk (n:=tv) (AB U rfl) (P6 (by omega) ⟨_,rfl,AB U rfl,AL U rfl,(cm aT).nH,?_⟩)));refine oA (m:=⟨(Ai d).status,(Ai d).next,r⟩) (st:=(Ai d).status.toNat) (nx:=(Ai d).next.toNat) (by show(Ai d).status=_;omega) (by show(Ai d).next=_;omega) (by omega) (by omega) λaU ax=>⟨_,rfl,AB (ax.ag U λh=>h) rfl,AL (ax.ag U λh=>h) rfl,?_⟩
  refine ao.mk λbx _ bz bA cr=>?_
  have ay:=ax.trans bA;have aV:Cells bx (⟨aw.size,0,none⟩:Q6) (⟨(Ai d).status,(Ai d).next,true⟩:cV).l:=EN (ay.ag bv λh=>h) rfl;refine Jt.mk ⟨(Ai d).status,(Ai d).next,true⟩ aV (P6 (by omega) ⟨_,rfl,aV.nH,?_⟩);refine oA (m:=⟨(Ai d).status,(Ai d).next,true⟩) (st:=(Ai d).status.toNat) (nx:=(Ai d).next.toNat) (by show(Ai d).status=_;omega) (by show(Ai d).next=_;omega) (by omega) (by omega) λz az=>⟨_,rfl,ao.mk λbB _ bC bD cs=>?_⟩
  have bE:Own BO AQ z ⟨some ⟨aU.size,0,none⟩,2,2⟩ (cE wid d r tk tv):=Own.lit (E:=BO) (l:=cE wid d r tk tv) (az.ag bz λh=>h) rfl (by simp[maxLen,cE]);have bF:Own BO AQ bB ⟨some ⟨z.size,0,none⟩,1,1⟩ [⟨Eu wid,I1 (Ai d).status.toNat (Ai d).next.toNat true,false⟩]:=Own.lit (E:=BO) (l:= [⟨Eu wid,I1 (Ai d).status.toNat (Ai d).next.toNat true,false⟩]) bC rfl (by simp[maxLen]);have aA:=aj.trans (ay.trans az);have cu:=F.len;have cv:=F.view.cap;obtain⟨n,bG⟩: ∃n:Nat,n=min 40 left.length:=⟨_,rfl⟩;have bH:(if(40:Int)<((ps.len:Nat):Int) then(40:Int) else((ps.len:Nat):Int))=((n:Nat):Int):=by split<;>omega
  rw[bH,AF];refine⟨⟨by omega,by omega⟩,?_⟩;have aX:=F.view.sub (lo:=0) (hi:=n) (A5 _) (by omega);rw[HM] at aX;have bI:left.take n=left.take 40:=by
   rw[bG];rcases Nat.le_total 40 left.length with h|h
   ·rw[GS h]
   ·rw[ON h,Bk,AE h]
  have cw:=aA.size;refine Loop.rule (λm x G=> ∃(j:Nat) (sl:Sl),x=(sl,(j:Int),())/\m=n-j/\j<=n/\Ext z G/\Own BO AQ G sl (⟨Eu wid,I1 (Ai d).status.toNat (Ai d).next.toNat true,false⟩::(left.take j).map Ub)/\ ∀c,sl.ag=some c->z.size<=c) ?_
   ⟨0,⟨some ⟨z.size,0,none⟩,1,1⟩,rfl,rfl,A5 _,bD,bF,λc f=>by have:z.size=c:=(by simpa [Sl.ag] using f);omega⟩
  rintro cx m _ G ⟨j,sl,rfl,rfl,cy,I,ak,X⟩ bJ;dsimp only;refine af.intro (λo=>?_) (λo=>?_)
  ·have al:j<n:=by have:=of_decide_eq_true o;omega
   obtain⟨p,aY⟩: ∃p,left[j]? =some p:=⟨_,A2 (by omega)⟩;refine(aX.ext (aA.trans I)).idx (i:=j) (x:=p) (by rw[Fm,if_pos al];exact aY) λcz _ bK=>?_
   obtain⟨bL,bM,bN⟩:=bK.pair;refine AJ.mk bL (AJ.mk bM (AZ.mk bN (ao.pair λb cB cC bP aC cD=>AJ.mk (n:=p.key) (AL bP rfl) ?_)));refine ao.bq (E:=BO) (x:=Ub p) (s:=sl) rfl M.GZ (ak.ext aC) (by rw[A6,AW,An];omega) (by rw[A6,AW,An];simp only[maxLen];omega) λaD aZ aE aF aG _=>?_
   rw[Aa (by omega)];have bQ:=I.size;have cF:=aC.size;refine bJ (n-(j+1)) _ _ (by omega) ⟨j+1,aD,rfl,rfl,al,(I.trans aC).more aF X,?_,λc f=>?_⟩
   ·rw[Ax,aY];rw[Ds,By,<-DO];exact aE
   ·rcases aG c f with h|h
    ·exact X c h
    ·omega
  ·have al:j=n:=by have:=of_decide_eq_false o;omega
   subst al;rw[bI] at ak;refine ai.mk λbR bS=>?_
   have a0: ∀(C:aa) (sl:Sl),Ext z C->Own BO AQ C sl (bO wid d tk left)->(∀ c,sl.ag=some c->z.size<=c)->bR (sl,()) C:=λC sl a1 a2 bT=>by
    have Y:=ah.trans (aA.trans a1);refine bS _ _ (AC.mk (n:=(A8 wid sh:Int)) (AB (Y.ag aP λh=>h) rfl) ?_);have bU:LW B' g C s a' N sh l mp (λw=>T w\/(k.size<=w/\w<C.size)):=ac.own Y.mod λw o=>o
    have cG:=Y.size;have H:(decide (((ps.len:Nat):Int)<=(40:Int)))=decide (left.length<=40):=by rw[decide_eq_decide];omega
    rw[H];refine aK C ⟨some ⟨aU.size,0,none⟩,2,2⟩ sl _ bU (λc f=> .inl (.inl f)) (bE.view.ext a1) a2.view (λc f=> .inr ⟨by have:=bT c f;omega,a2.lt f⟩) (aO C (ag.trans Y.mod)) ?_;rw[<- bk];have:=ac.slt;exact Y.get s this (λh=>h)
   have H:(decide (((ps.len:Nat):Int)<=(40:Int)))=decide (left.length<=40):=by rw[decide_eq_decide];omega
   rw[H];refine af.intro (λo=>?_) (λo=>?_)
   ·have o:left.length<=40:=of_decide_eq_true o;have bV:=(aj.trans (ay.trans (az.trans I))).ag aR λh=>h
    refine AJ.mk (n:=tk) (AL bV rfl) ?_;refine ao.bq (E:=BO) (x:=⟨tk,⟨#[]⟩,true⟩) (s:=sl) rfl M.GZ ak (by rw[A6,AW,An];omega) (by rw[A6,AW,An];simp only[maxLen];omega) λaD aZ aE aF aG _=>?_
    have bQ:=I.size;refine a0 aZ aD (I.more aF X) ?_ λc f=>?_
    ·unfold bO;rw[if_pos o];exact aE
    ·rcases aG c f with h|h
     ·exact X c h
     ·omega
   ·have o: ¬left.length<=40:=of_decide_eq_false o;refine a0 G sl I ?_ X;unfold bO;rw[if_neg o,AN];exact ak
 refine AZ.mk (n:=r) (CL Q rfl) ?_;cases aH:r with
 |true=>
  obtain⟨rfl,rfl⟩:=same aH;exact af.no rfl (key D aN Mod.refl (S.get s slt λh=>h))
 |false=>
  refine af.yes rfl (Ad.mk (s:=u) (CS Q rfl) ?_);refine a9 D u T _ aH S aN (λc f=> .inl f) aM (λc f=> .inr ⟨by have:=bd aH c f;omega,?_⟩) (λe bW aI am=>⟨_,rfl,af.no rfl (key e bW aI (am.trans (S.get s slt λh=>h)))⟩) λe bX aI=>⟨_,rfl,af.yes rfl (ba e bX (aO e aI))⟩
  exact aM.kV (λH=>Z.ne H) f
end
def dS(p:cA)(k:Nat):bF:=⟨p,0,3+(k:Int),0,2,0,true,[],[],false,false⟩
def iF(p:cA)(k:Nat):bF:= {ir (dS p k) 4 with next:=4+(k:Int)}
abbrev lq(k:Nat)(x:A2I):Ev:=⟨3+(k:Int),12,0,0,0,0,false,x⟩
abbrev lr(k:Nat):Ev:=⟨3+(k:Int),18,7,0,0,0,false,⟨#[]⟩⟩
abbrev dP(a:Int)(aX wid name:A2I):cC:=⟨a,aX,wid,name,Xd,0,Xd,0,0,0,0,false⟩
section
variable {p : cA} {k n : Nat} {aX wid name : A2I} {fl fl' : cI} {an an' : cP} {ev : List Ev} {mp mp' : List Pr} {y y' : Hs} {e st nx : Int}
theorem AQ1 {a:bC}(f:a.err=0)(b:a.st=dS p k)(g:a.now=0)(h:a.more= [])(j:k<=400)(i:Aj name=true):
  EC a (dh 12 name)= {a with st:=dS p (k+1),more:= [lq k name]}:=by
 have c:Ce a (dh 12 name)=lq k name:=by unfold Ce;rw[b,g,if_neg (by show ¬(1:Int)>3+(k:Int);omega)];rfl
 have ok:=ANW (id:=3+(k:Int)) (tick:=0) (data:=name) (by omega) (by decide) i;have d:Bj a.st (Ce a (dh 12 name))=(0,dS p (k+1)):=by rw[c,b];unfold Bj;rw[if_neg (by simp[ok]),if_neg (by show ¬3+(k:Int)=0;omega),if_neg (by simp[dS]),if_neg (by simp[dS])];unfold RX Ow;rw[if_neg (by simp),if_neg (by simp),if_neg (by simp),if_pos rfl];show((0:Int),({dS p k with fresh:=true,next:=3+(k:Int)+1}:bF))=_;simp only[dS,Lq,true_and,bF.mk.injEq,and_true];omega
 rw[ph f (.inr (.inl (by rw[b];show 3+(k:Int)<=497;omega))) (by rw[d]),d,c,h];rfl
theorem AQb {a:bC}(f:a.err=0)(b:a.st=dS p k)(g:a.now=7)(h:a.more= [])(i:k<=400):
  EC a (dh 18 ⟨#[]⟩)= {a with st:=iF p k,more:= [lr k]}:=by
 have c:Ce a (dh 18 ⟨#[]⟩)=lr k:=by unfold Ce;rw[b,g,if_neg (by show ¬(1:Int)>3+(k:Int);omega)];rfl
 have ok:=uh (id:=3+(k:Int)) (tick:=7) (k:=18) (by omega) (by decide) (.inr (.inr rfl));have d:Bj a.st (Ce a (dh 18 ⟨#[]⟩))=(0,iF p k):=by rw[c,b];unfold Bj;rw[if_neg (by simp[ok]),if_neg (by show ¬3+(k:Int)=0;omega),if_neg (by simp[dS]),if_neg (by simp[dS])];show((0:Int),({ir (dS p k) 4 with next:=3+(k:Int)+1}:bF))=(0,iF p k);unfold iF;rw[show 3+(k:Int)+1=4+(k:Int) by omega]
 rw[ph f (.inr (.inr rfl)) (by rw[d]),d,c,h];rfl
theorem uH {b:Int}(f:b=2/\Aj name=true\/b=4)(g:Aj wid=true)(h:Aj aX=true):Po (dP b aX wid name) ⟨[],0⟩=0:=by
 unfold Po;rw[if_neg (λa=>by have i:b=1:=a.1;omega),if_neg];rintro(a|a|a)
 ·have i:b=2:=a.1;have c:Aj name=false:=a.2;rcases f with⟨_,d⟩|d
  ·rw[d] at c;cases c
  ·omega
 ·rw[show(dP b aX wid name).wid=wid from rfl,g] at a;cases a
 ·rw[show(dP b aX wid name).aX=aX from rfl,h] at a;cases a
theorem AQl(K:k<=400)(D:Aj name=true)(L:Aj wid=true)(M:Aj aX=true)(N:an aX=none)(s:fl wid=some ev)(E:Ai ev=dS p k)
  (O:Xh fl an n (dP 2 aX wid name) ⟨[],0⟩ 0 e st nx fl' an') (P:mH mp mp' fl fl' n (dP 2 aX wid name) ⟨[],0⟩ 0 y y'):
  e=0/\fl'=dO fl wid (ev++ [lq k name])/\(∃ Q,an'=dO an aX Q)/\Ai (ev++ [lq k name])=dS p (k+1)/\ ∃b,mp'=cj mp b/\ ∀t∈b,BC t.key≠109:=by
 have R:NT fl an 1 (dP 2 aX wid name) ⟨[],0⟩=none:=by rw[qx (by show(1:Int)<=2/\(2:Int)<=4;decide) (uH (.inl ⟨rfl,D⟩) L M) N];show(match fl wid with|none=>_|some l=>_)=none;rw[s];show(if(2:Int)=1 then some ((181:Int),(0:Int),(0:Int)) else if(Ai ev).status≠0 then some (182,0,0) else none)=none;rw[if_neg (by decide),E,if_neg (by simp[dS])]
 have u: ∀a d g,BA (EK (dP 2 aX wid name) ⟨[],0⟩ (BP (fl wid) wid n 0) a) d g=EK (dP 2 aX wid name) ⟨[],0⟩ (BP (fl wid) wid n 0) a/\(EK (dP 2 aX wid name) ⟨[],0⟩ (BP (fl wid) wid n 0) a).err=0/\
   (EK (dP 2 aX wid name) ⟨[],0⟩ (BP (fl wid) wid n 0) a).st=dS p (k+1)/\(EK (dP 2 aX wid name) ⟨[],0⟩ (BP (fl wid) wid n 0) a).more= [lq k name]/\ ∃v,(EK (dP 2 aX wid name) ⟨[],0⟩ (BP (fl wid) wid n 0) a).au= [⟨JM aX,v,false⟩]:=λa d g=>by
  rw[s];have F:Cy (dP 2 aX wid name) ⟨[],0⟩ (BP (some ev) wid n 0) a=EC (BP (some ev) wid n 0) (dh 12 name):=rfl;rw[AQ1 (p:=p) (k:=k) rfl E rfl rfl K D] at F;have S: ∀h:bC,h=EK (dP 2 aX wid name) ⟨[],0⟩ (BP (some ev) wid n 0) a->h.err=0/\h.st=dS p (k+1)/\h.more= [lq k name]/\ ∃v,h.au= [⟨JM aX,v,false⟩]:=λh w=>by
   unfold EK at w;rw[F] at w;subst w;exact⟨rfl,rfl,rfl,_,rfl⟩
  obtain⟨T,x,U,V⟩:=S _ rfl;refine⟨?_,T,x,U,V⟩;have W:Dl (EK (dP 2 aX wid name) ⟨[],0⟩ (BP (some ev) wid n 0) a)=false:=by unfold Dl;rw[x];simp[dS]
  unfold BA EZ;rw[W];simp[x,dS]
 rcases O with⟨_,_,G|⟨_,z,_,_,a,d,g,j⟩⟩|⟨_,z,a,d,g,m,o,ae,q,X,_,_,i⟩
 ·rw[R] at G;cases G
 ·have f:=u a d g;have j:e=(BA (EK (dP 2 aX wid name) ⟨[],0⟩ (BP (fl wid) wid n 0) a) d g).err:=j;rw[f.1] at j;exact absurd (j.trans f.2.1) z
 ·obtain⟨Y,af,Z,aa,ag⟩:=u a d g;have o:m=BA (EK (dP 2 aX wid name) ⟨[],0⟩ (BP (fl wid) wid n 0) a) d g:=o;rw[Y] at o;have q:fl'=dO fl wid ((fl wid).getD []++m.more):=q;have i:Ai ((fl wid).getD []++m.more)=m.st:=i;rw[s,FG,o,aa] at q i;rw[Z] at i;refine⟨z,q,⟨_,X⟩,i,?_⟩;rcases P with⟨A,ah⟩|⟨H,I,J,B,r,ai,A,_,_⟩
  ·exact⟨[],A,λt C=>by cases C⟩
  ·obtain⟨ab,aj,ak,al,v,ac⟩:=u H I J;have r:B=BA (EK (dP 2 aX wid name) ⟨[],0⟩ (BP (fl wid) wid n 0) H) I J:=r;rw[ab] at r;refine⟨_,A,λt C=>?_⟩;rcases List.mem_append.1 C with c|c
   ·unfold Et at c;rcases List.mem_append.1 c with c|c
    ·obtain⟨e,_,rfl⟩:=List.mem_map.1 c;rw[show BC (NZ B.wid e).key=104 from Sy _ _];decide
    ·split at c
     ·cases c
     ·rw[List.mem_singleton.1 c,show BC (Eu B.wid)=119 from Dh _];decide
   ·rw[r,ac] at c;rw[List.mem_singleton.1 c];show BC (JM aX)≠109;rw[JX];decide
theorem AQ6(H:k<=400)(w:Aj wid=true)(I:Aj aX=true)(J:an aX=none)(o:fl wid=some ev)(x:Ai ev=dS p k)
  (K:Xh fl an n (dP 4 aX wid ⟨#[]⟩) ⟨[],0⟩ 7 e st nx fl' an') (L:mH mp mp' fl fl' n (dP 4 aX wid ⟨#[]⟩) ⟨[],0⟩ 7 y y'):
  e=0/\fl'=dO fl wid (ev++ [lr k])/\Ai (ev++ [lr k])=iF p k/\ ∃a M,mp'=cj mp (a++ [⟨CF n 27 M,MU ⟨7,0,0⟩ wid,false⟩])/\ ∀z∈a,BC z.key≠109:=by
 have N:NT fl an 1 (dP 4 aX wid ⟨#[]⟩) ⟨[],0⟩=none:=by rw[qx (by show(1:Int)<=4/\(4:Int)<=4;decide) (uH (.inr rfl) w I) J];show(match fl wid with|none=>_|some l=>_)=none;rw[o];show(if(4:Int)=1 then some ((181:Int),(0:Int),(0:Int)) else if(Ai ev).status≠0 then some (182,0,0) else none)=none;rw[if_neg (by decide),x,if_neg (by simp[dS])]
 have O:KF ⟨7,0,0⟩ wid=true:=ZQ (by decide) w (by decide);have r: ∀g h d c,c=BA (EK (dP 4 aX wid ⟨#[]⟩) ⟨[],0⟩ (BP (fl wid) wid n 7) g) h d->c.err=0/\c.st=iF p k/\c.more= [lr k]/\ ∃v,c.au= [⟨JM aX,v,false⟩,⟨CF n 27 d,MU ⟨7,0,0⟩ wid,false⟩]:=λg h d c i=>by
  rw[o] at i;have A:Cy (dP 4 aX wid ⟨#[]⟩) ⟨[],0⟩ (BP (some ev) wid n 7) g=EC (BP (some ev) wid n 7) (dh 18 ⟨#[]⟩):=rfl;rw[AQb (p:=p) (k:=k) rfl x rfl rfl H] at A;have P: ∀b:bC,b=EK (dP 4 aX wid ⟨#[]⟩) ⟨[],0⟩ (BP (some ev) wid n 7) g->b.err=0/\b.st=iF p k/\b.more= [lr k]/\b.now=7/\b.wid=wid/\b.aq=n/\ ∃v,b.au= [⟨JM aX,v,false⟩]:=λb s=>by
   unfold EK at s;rw[A] at s;subst s;exact⟨rfl,rfl,rfl,rfl,rfl,rfl,_,rfl⟩
  obtain⟨B,t,C,Q,D,R,v,S⟩:=P _ rfl;generalize EK (dP 4 aX wid ⟨#[]⟩) ⟨[],0⟩ (BP (some ev) wid n 7) g=b at*
  have T:Dl b=false:=by unfold Dl;rw[t];simp[iF,ir]
  have U:BA b h d= {b with au:=b.au++ [⟨LJ b.aq (ly b) d,MU ⟨7,0,0⟩ b.wid,false⟩]}:=by
   have V:EZ b h=b:=by unfold EZ;rw[T];rfl
   unfold BA;rw[V,if_pos ⟨by rw[C];simp,by rw[t];simp[iF,ir]⟩];unfold ER;rw[if_neg (by simp[B]),if_neg (by rw[D];simp[O])]
  rw[U] at i;subst i;refine⟨B,t,C,v,?_⟩;show b.au++ [⟨LJ b.aq (ly b) d,MU ⟨7,0,0⟩ b.wid,false⟩]=_;have W:ly b=27:=by unfold ly;rw[Q];rfl
  rw[S,D,R,W];rfl
 rcases K with⟨_,_,E|⟨_,u,_,_,g,h,d,X⟩⟩|⟨_,u,g,h,d,c,i,ah,j,ai,_,_,m⟩
 ·rw[N] at E;cases E
 ·exact absurd (X.trans (r g h d _ rfl).1) u
 ·obtain⟨aj,Y,Z,ak⟩:=r g h d c i;have j:fl'=dO fl wid ((fl wid).getD []++c.more):=j;have m:Ai ((fl wid).getD []++c.more)=c.st:=m;rw[o,FG,Z] at j m;rw[Y] at m;refine⟨u,j,m,?_⟩;rcases L with⟨F,aa⟩|⟨ab,ac,G,q,ae,al,F,_,_⟩
  ·exfalso;have:=congrFun (j.symm.trans aa) wid;rw[JS,o] at this;have:=congrArg List.length (Bm this);simp at this
  ·obtain⟨am,ao,ap,v,af⟩:=r ab ac G q ae;refine⟨Et q++ [⟨JM aX,v,false⟩],G,by rw[F,af,A4];rfl,λz ag=>?_⟩;rcases List.mem_append.1 ag with f|f
   ·unfold Et at f;rcases List.mem_append.1 f with f|f
    ·obtain⟨e,_,rfl⟩:=List.mem_map.1 f;rw[show BC (NZ q.wid e).key=104 from Sy _ _];decide
    ·split at f
     ·cases f
     ·rw[List.mem_singleton.1 f,show BC (Eu q.wid)=119 from Dh _];decide
   ·rw[List.mem_singleton.1 f];show BC (JM aX)≠109;rw[JX];decide
end
theorem AJV {A:ak}{h:aa}{a b:Sl}{c d:List Ev}{R:A2H}(k:View ct h a c)(l:View ct h b d)(L:c.length<=1099511627776)
  (n:R (J3 (decide (c=d))) h):AA A P Ka #[J4 a.p a.len a.cap,J4 b.p b.len b.cap] h R:=by
 refine V8 ?_;unfold PN;rw[k.len,l.len];refine af.intro (λe=>?_) (λe=>?_)
 ·have:c≠d:=by rintro rfl;simp at e
  simpa [this] using n
 ·have M:c.length=d.length:=by simp at e;omega
  refine Loop.rule (λm x p=> ∃i:Nat,x=((i:Int),())/\p=h/\m=c.length-i/\i<=c.length/\c.take i=d.take i) ?_ ⟨0,rfl,rfl,rfl,by omega,by simp⟩;rintro K m _ _ ⟨i,rfl,rfl,rfl,N,o⟩ q;refine af.intro (λe=>?_) (λe=>?_)
  ·have j:i<c.length:=by simpa using e
   rw[<- k.len];refine k.idx (A2 j) λO _ c1=>?_
   obtain⟨r,s,t,u,v,w,y,z⟩:=kO c1;refine AC.mk r (AC.mk s (AC.mk t (AC.mk u (AC.mk v (AC.mk w (AZ.mk y (AJ.mk z ?_)))))));rw[<- l.len];refine l.idx (A2 (by omega)) λQ _ c2=>?_
   obtain⟨B,C,D,E,F,G,H,I⟩:=kO c2;refine AC.mk B (AC.mk C (AC.mk D (AC.mk E (AC.mk F (AC.mk G (AZ.mk H (AJ.mk I ?_)))))));refine zB ⟨_,rfl,?_⟩;refine af.intro (λf=>?_) (λf=>?_)
   ·have f:c[i]≠d[i]'(by omega):=by simpa using f
    have:c≠d:=by rintro rfl;exact f rfl
    simpa [this] using n
   ·have J:c[i]=d[i]'(by omega):=by simpa using f
    dsimp only;rw[Aa (by omega)];refine q (c.length-(i+1)) _ _ (by omega) ⟨i+1,rfl,rfl,rfl,j,?_⟩;rw[Ly j,Ly (show i<d.length by omega),o,J]
  ·have j:i=c.length:=by simp at e;omega
   have:c=d:=by rw[AE (by omega),AE (by omega)] at o;exact o
   simpa [this] using n
theorem ASd {A:ak}{h:aa}{c a:Nat}{R:A2H}(l:R (J6 J9 27) h):AA A P Xm #[J7 (CF c 27 a)] h R:=by
 have b:=JL c 27 a;have j: ∀i:Nat,i<10->dD (CF c 27 a) (i:Int)=if i=0 then 109 else if i=1 then((Bu c).toNat:Int) else if i=9 then 27 else 0:=λi n=>by
  have d:(CF c 27 a).data.toList=109::Bu c::0::0::0::0::0::0::0::27::Kw 8 a:=by unfold CF;rw[Be];rfl
  rcases(by omega:i=0\/i=1\/i=2\/i=3\/i=4\/i=5\/i=6\/i=7\/i=8\/i=9) with rfl|rfl|rfl|rfl|rfl|rfl|rfl|rfl|rfl|rfl<;>rw[OI (by rw[d];rfl)]<;>rfl
 refine AIb ?_;unfold vG;refine ai.mk λK o=>af.no (by rw[b];rfl) ⟨⟨by omega,by rw[b];decide⟩,?_⟩
 have k:=j 0 (by decide);rw[show((0:Nat):Int)=0 from rfl] at k;rw[k];refine o _ _ (af.no rfl ?_);refine Loop.rule (λm x p=> ∃i:Nat,x=((if i=8 then(27:Int) else 0),(i:Int),())/\m=8-i/\i<=8/\h=p) ?_ ⟨0,rfl,rfl,by decide,rfl⟩;rintro s m _ _ ⟨i,rfl,rfl,n,rfl⟩ q;dsimp only;refine af.intro (λe=>?_) (λe=>?_)
 ·have f:i<8:=by have:=of_decide_eq_true e;omega
  rw[show((2:Int)+(i:Int))=((2+i:Nat):Int) from by omega,El (by omega),j (2+i) (by omega),if_neg (show ¬i=8 by omega)];refine⟨⟨by omega,by rw[b];omega⟩,?_⟩;rw[Aa (by omega)];have d:eF .u64 (J8 .u64 ((0:Int)*((2:Int)^(8:Nat)))) (J8 .u64 (if 2+i=0 then 109 else if 2+i=1 then((Bu c).toNat:Int) else if 2+i=9 then 27 else 0))=if i+1=8 then(27:Int) else 0:=by
   rw[if_neg (by omega),if_neg (by omega)];by_cases r:i=7
   ·subst r;decide
   ·rw[if_neg (by omega),if_neg (by omega)];decide
  rw[d];exact q (8-(i+1)) _ _ (by omega) ⟨i+1,rfl,rfl,f,rfl⟩
 ·have f:i=8:=by have:=of_decide_eq_false e;omega
  subst f;exact l
abbrev kq(b s p a:Nat):Array J0:= #[Ak b,Ak s,Ak p,Ak a]
section
variable {A : ak} {g h : aa} {R : A2H}
theorem XE {B:bV}{k d a r:Nat}{mp:List Pr}{J:A2I}{X:Nat->Prop}{K v1 v2 M:J0}(N:cu g)(O:B.cm=true)(z:h[d]? =some (J2 #[K,v1,v2,M] Cz (0,0)))(aw:g.size<=d)(nx: ∀c,X c->c≠d/\c<h.size)(L:ET mp 0 r J)(Q:r+1<=2147483647)(hA:4+3*a<=B.A)(S:64*a+64<=B.C)(T:a+1<=1000000)
  (U: ∀(f:aa) (C:A2H),Mod (λc=>c=d) h f->f.size=h.size->(∀ m s,LW B g m s a 0 1 [] mp (λe=>e=d\/X e)->Mod (λc=>h.size<=c\/c≠d/\ ¬X c/\g.size<=c) f m->C (J1 #[Ak s,J6 J9 0]) m)->AA A P Kh #[Ak k] f C)
  (V: ∀l s p W Y o,LW B g l s (a+1) 1 1 [(⟨p,W,Y,LP,λ_=>0,λ_=>0⟩:Hs).kW 0 (r+1)] (cj mp [⟨Bd 0,Hy (r+1) LP,false⟩]) (λe=>(e=d\/X e)\/e=o)->l[d]? =some (J2 (kq k s p o) Cz (0,0))->l[o]? =some (J2 #[Ak k] Cn (0,0))->h.size<=o->Mod (λc=>g.size<=c/\ ¬X c) h l->R (J3 true) l):
  AA A P EP #[Ak d,Ak k] h R:=by
 refine QY ?_;unfold Ku;have ax:=Ag z;refine aE (ae.cN (j:=0) z (of_decide_eq_true rfl) rfl λf Z D ab=>?_);refine U f _ D ab λm s E t=>⟨_,_,rfl,af.no rfl ?_⟩
 have ac:=t.ag Z λb=>b.elim (λh=>by omega) λh=>h.1 rfl
 refine E.host (name:=LP) (by decide) (by decide) λay u F G ag v=>⟨_,_,rfl,af.no rfl ?_⟩
 have ah:=v.ag ac λh=>h
 refine ag.acquire (i:=0) (n:=0) (x:=⟨u,F,G,LP,λ_=>0,λ_=>0⟩) N O rfl (by decide) L Q hA S T (by decide) λH ai w=>⟨_,_,rfl,?_⟩
 have I:=bo.aw w ah (.inl rfl);refine UZ ?_;unfold QX;refine ao.mk λaz _ aj y aA=>⟨_,rfl,?_⟩
 have ak:=y.ag I λh=>h
 have aC:=Ag I;have aD:=t.size;have aF:=v.size;have aG:=w.size;refine aE (ae.cN (j:=1) ak (of_decide_eq_true rfl) rfl λaH al am aI=>aE (ae.cN (j:=2) al (of_decide_eq_true rfl) rfl λaJ an ap aK=>aE (ae.cN (j:=3) (eY:=kq k s u H.size) an (of_decide_eq_true rfl) rfl λaq ar au aL=>?_)));have q:=am.trans (ap.trans au);have av:=ai.own (O':=λe=>(e=d\/X e)\/e=H.size) (y.mod.trans (q.aj λc _ b=> .inl b)) λc b=>b.imp id λh=>by have:=q.size;omega
 refine V aq s u F G _ av ar (q.ag aj (by omega)) (by omega) ((D.aj λc _ b=>⟨by omega,λh=>(nx c h).1 b⟩).trans ((t.aj λc _ b=>?_).trans (v.mod.trans ((w.aj λc _ b=>⟨b.1,λh=>b.2 (.inr h)⟩).trans (y.mod.trans (q.aj λc _ b=>⟨by omega,λh=>(nx c h).1 b⟩))))));have:=E.ext.size;exact b.elim (λh=>⟨by omega,λhX=>by have:=(nx c hX).2;omega⟩) λh=>⟨h.2.2,h.2.1⟩
theorem AHO [Zc]{k f:Nat}{Sb:Nat->Prop}{D v1 v2 E:J0}(t:cu g)(F:Bl h k Sb iq)(x:Ext g h)(u: ∀c,Sb c->g.size<=c)(n:h[f]? =some (J2 #[D,v1,v2,E] Cz (0,0)))(o:g.size<=f)(nx: ¬Sb f)(G:Zc.bx=k)(H:Zc.zf=(λ_=>none))
  (I: ∀i s j l mp,EW g i s 1 1 [j] mp (λ_=>none) (λ_=>none) (λb=>b=f\/b=l)->od mp j 1->j.name=LP->i[f]? =some (J2 (kq k s j.p l) Cz (0,0))->i[l]? =some (J2 #[Ak k] Cn (0,0))->(∀ b,BC b≠108->Ab b mp=none)->R (J3 true) i):
  AA A P EP #[Ak f,Ak k] h R:=by
 have W:=Ag n;refine XE (B:=iE) (X:=λ_=>False) (r:=0) (mp:= []) t rfl n o (λc h=>h.elim) ET.empty (by decide) (a:=0) (by show 4<=1600;decide) (by show 64<=32000;decide) (by decide) (λY Z v aa J=>?_) λi s p w y l K L M _ _=>?_
 ·refine LW.jI (B:=iE) (sh:=1) (O:=λb=>b=f\/False) t (F.mod v λc e m=>nx (m▸e)) (x.more v λc e=>by subst e;exact o) u rfl rfl (λd=>rfl) (λd=>rfl) (λx n=>absurd rfl n) (by show 1<=1600;decide) (by show aY iq.files<=0;decide) G.symm (λj _=>by show _=Zc.zf j;rw[H];rfl) (λc e=>by obtain rfl|h:=e;exact⟨o,by omega,nx⟩;exact h.elim) λN s Q S ab=>J N s Q (S.aj λc _ e=>e.elim (λh=> .inr ⟨λm=>nx (m▸h),id,u c h⟩) λh=> .inl (by omega))
 ·have C: ∀d,((⟨p,w,y,LP,λ_=>0,λ_=>0⟩:Hs).kW 0 (0+1)).f d=if d=0 then 1 else 0:=λd=>rfl
  have key: ∀b,BC b≠108->Ab b (cj [] [⟨Bd 0,Hy (0+1) LP,false⟩])=none:=λb T=>by
   rw[Jw Pg λp q m=>T (by rw[<- m,List.mem_singleton.1 q];exact ML 0)];rfl
  have own:od (cj [] [⟨Bd 0,Hy (0+1) LP,false⟩]) ((⟨p,w,y,LP,λ_=>0,λ_=>0⟩:Hs).kW 0 (0+1)) 1:=by
   refine⟨λd U=>?_,λd U=>⟨by rw[C,if_neg (by omega)],λh=>ET.empty.other Pg λb=>by have:=AKE (by decide) h b;omega⟩⟩;obtain rfl:d=0:=by omega
   exact⟨rfl,ET.laid Pg (by decide) (by decide) (by decide)⟩
  refine I i s _ l _ ⟨((K.put (N':=3) (by decide) (by show 64<=32000;decide) (by decide) (by decide)).less λc e=>e.imp .inl id),JU.empty.aw Pg λp q=>?_,λz V d=>?_⟩ own rfl L M key
  ·rw[List.mem_singleton.1 q];show BC (Bd 0)≠104/\BC (Bd 0)≠119/\BC (Bd 0)≠114;rw[ML];decide
  ·rw[List.mem_singleton.1 V,C];exact⟨by show dX (λ_=>0) 0 0 d<=_;unfold dX;split<;>simp,by split<;>omega⟩
theorem YW {o U s p u:Nat}{ev:List Ev}{st nx:Int}(V:h[o]? =some (J2 (kq U s p u) Cz (0,0)))(aq:ev.length<=500)
  (D: ∀(d:aa) (n:Nat) (F:A2H),Ext h d->n<=ev.length->(∀ j a,Ext d j->View ct j a (Uq ev n)->(∀ c,a.ag=some c->d.size<=c)->F (⟨0,st,nx,⟨0,⟨#[]⟩,0,0⟩,⟨#[]⟩,a⟩:bY).v j)->AA A P F9 #[Ak p,.iface Ba (Ak u),J7 ⟨#[119]⟩,J6 J9 ((n+1:Nat):Int)] d F)
  (W: ∀j sl,Ext h j->View ct j sl ev->(∀ c,sl.ag=some c->h.size<=c)->R (J1 #[J4 sl.p sl.len sl.cap,J3 true]) j):
  AA A P EL #[Ak o] h R:=by
 refine QZ ?_;unfold Kj;refine Loop.rule (λm x d=> ∃(n:Nat) (sl:Sl),x=(sl,())/\m=ev.length-n/\n<=ev.length/\Ext h d/\Own ct Ao d sl (ev.take n)/\ ∀c,sl.ag=some c->h.size<=c) ?_
  ⟨0,Xd,rfl,rfl,A5 _,Mod.refl,Own.nil,λc f=>by simp[Sl.ag] at f⟩
 rintro K m _ d ⟨n,sl,rfl,rfl,v,k,q,w⟩ X;dsimp only;have G:=q.len;rw[An,GS v] at G;have H:=k.ag V λh=>h
 have c2: ∀ {e:aa},Ext d e->ah e ((⟨o,0,none⟩:Q6).add 2)=some (Ak p):=λi=>AB (i.ag H λh=>h) rfl
 have c3: ∀ {e:aa},Ext d e->ah e ((⟨o,0,none⟩:Q6).add 3)=some (Ak u):=λi=>AB (i.ag H λh=>h) rfl
 refine ai.mk λY Z=>aE (AY.mk (c2 Mod.refl) (aE (AY.mk (c3 Mod.refl) ?_)))
 rw[G,Aa (by omega)];have ar:=k.size;have I: ∀(e:aa) (b:Nat) (a:Sl),Ext d e->e[b]? =some (J2 (⟨0,st,nx,⟨0,⟨#[]⟩,0,0⟩,⟨#[]⟩,a⟩:bY).c DK (0,0))->View ct e a (Uq ev n)->Y (some ⟨b,0,none⟩,()) e:=λe b a i y J=>by
  have au:=J.len;have av:(Uq ev n).length=min 32 (ev.length-n):=by unfold Uq;rw[An,CI]
  refine Z _ _ (aE (AC.mk (n:=0) (AL y rfl) (af.no rfl (aE (Ad.mk (s:=a) (AB y rfl) (af.intro (λl=>?_) (λl=>?_)))))))
  ·have l:a.len=0:=by simpa using l
   have z:n=ev.length:=by omega
   subst z;rw[Bk] at q;exact W e sl (k.trans i) (q.view.ext i) w
  ·have l:a.len≠0:=by simpa using l
   refine aE (Ad.mk (s:=a) (AB y rfl) ?_);refine GK (E:=ct) (s:=sl) (src:=a) nj (q.ext i) J (by rw[An];omega) (by rw[An];simp only[maxLen];omega) λab aw L ac ae _=>?_
   have B:ev.take n++Uq ev n=ev.take (n+min 32 (ev.length-n)):=by unfold Uq;rw[List.take_add];congr 1;rw[To,CI];omega
   rw[B] at L;have ax:=i.size;refine X (ev.length-(n+min 32 (ev.length-n))) _ _ (by omega) ⟨n+min 32 (ev.length-n),ab,rfl,rfl,by omega,(k.trans i).more ac w,L,λc f=>?_⟩;rcases ae c f with h|h
   ·exact w c h
   ·omega
 refine⟨D d n _ k v λay a C M _=>KO.mk _ ⟨rfl,ao.mk λaz _ ag r aA=>⟨c3 (C.trans r),c2 (C.trans r),aW.mk ag (A0 9) λaj N O aC=>?_⟩⟩,ao.mk λak _ al t aD=>⟨c3 t,c2 t,D ak n _ (k.trans t) v λaF a Q am an=>KO.mk _ ⟨rfl,aW.mk (Q.ag al λh=>h) (A0 9) λap S T aG=>?_⟩⟩⟩
 ·rw[Qb] at N;refine I aj _ a (C.trans (r.more O λc f=>by subst f;exact A0 _)) N ((M.ext r).dI O λz c f B=>?_);have:=M.kV z f;omega
 ·rw[Qb] at S;refine I ap _ a ((t.trans Q).more T λc f=>by subst f;exact A0 _) S (am.mod T λc f B=>?_);have:=an c f;omega
end
theorem YC {c:Nat}{b:List Pr}(h: ∀p∈b,BC p.key≠109):Ea (Iq c) b= []:=dp λp a=>om (h p a)
abbrev wW:A2I:=⟨#[119]⟩
abbrev oB:cD:=⟨3,⟨#[110,101,118,101,114]⟩,⟨#[]⟩,0,0,0⟩
abbrev lu:cA:=⟨[oB],0⟩
def iX(a:Nat):A2I:=AX [115,Bu (97+a % 26),Bu (97+a / 26)]
theorem ARS {i a:Nat}(b:i<120)(c:a<120)(h:iX i=iX a):i=a:=by have:=Mq.1 h;simp only[GW,true_and,and_true] at this;have d:=rY (by omega) (by omega) this.1;have e:=rY (by omega) (by omega) this.2;omega
theorem ATI: ∀ {i:Nat},i<120->Aj (iX i)=true:=by
 have h: ∀i:Fin 120,Aj (iX i.val)=true:=by decide
 intro i a;exact h ⟨i,a⟩
theorem uI {i:Nat}{b:A2I}(h:b.size≠3):iX i≠b:=λa=>h (by rw[<- a];unfold iX;rw[AP];rfl)
def oC(an:cP)(i:Nat):Prop:=an ⟨#[116]⟩=none/\ ∀a,i<=a->a<120->an (iX a)=none
theorem ET.gP {mp:List Pr}{c a:Nat}{b:A2I}(d:1<=a)(e:a<=2147483647)(f:Aj b=true)(h:Bv mp (FH c a b)=true):ET mp c a b:=by refine .inr ⟨d,e,f,?_⟩;rw[MK] at h;simp only[A3,decide_eq_true_eq] at h;exact Prod.ext h.2 h.1
theorem ANf {x:cC}{p:cA}{n:Nat}{fl c:cI}{an j:cP}{mp l:List Pr}{y w:Hs}{a st nx:Int}(d:x.kind=1)(m:Po x p=0)(z:p.aG=0)(B:an x.aX=none)(o:fl x.wid=none)
  (O:Xh fl an n x p 0 a st nx c j) (C:mH mp l fl c n x p 0 y w):
  a=0/\st=0/\nx=3/\(∃ q,c=dO fl x.wid q/\Ai q=dS p 0)/\(∃ D,j=dO an x.aX D)/\ ∃b,l=cj mp b/\ ∀e∈b,BC e.key≠109:=by
 obtain⟨E,M,F,N⟩:=ll m;obtain⟨G,H,I,J,K,L⟩:=O.start d m B o (by decide);refine⟨G,H,I,⟨_,J,L⟩,⟨_,K⟩,?_⟩;rcases C with⟨f,P⟩|⟨n0,n1,n2,r,t,Q,f,_,_⟩
 ·exact⟨[],f,λe i=>by cases i⟩
 ·rw[o] at t;obtain⟨S,v,u⟩:=AI3 (n:=n) (n0:=n0) (n1:=n1) (n2:=n2) (now:=0) d (E d) F (by decide) z;rw[<- t] at u;refine⟨_,f,λe i=>?_⟩;rcases List.mem_append.1 i with h|h
  ·unfold Et at h;rcases List.mem_append.1 h with h|h
   ·obtain⟨a,_,rfl⟩:=List.mem_map.1 h;rw[show BC (NZ r.wid a).key=104 from Sy _ _];decide
   ·split at h
    ·cases h
    ·rw[List.mem_singleton.1 h,show BC (Eu r.wid)=119 from Dh _];decide
  ·rw[u] at h;simp only[Hb,Lz,or_false] at h;rcases h with rfl|rfl
   ·show BC (JM x.aX)≠109;rw[JX];decide
   ·show BC (SK n n1)≠109;rw[yo];decide
section
variable [Zc] {A : ak} {g h : aa} {s k : Nat} {y : Hs} {mp : List Pr} {fl : cI} {an : cP} {O : Nat -> Prop} {R : A2H} {xb bb ab p0 : Nat}
structure dK (g h:aa) (s k:Nat) (y:Hs) (mp:List Pr) (fl:cI) (an:cP) (O:Nat->Prop) (xb bb ab p0:Nat):Prop where
 w:EW g h s k 1 [y] mp fl an O
 hp:y.p=p0
 nm:y.name=LP
 f1:y.f 0=1
 ow:ka mp y 0
 ox:O xb
 cx:h[xb]? =some (J2 (kq bb s p0 ab) Cz (0,0))
theorem dK.c2(a:dK g h s k y mp fl an O xb bb ab p0):ah h ((⟨xb,0,none⟩:Q6).add 2)=some (Ak p0):=AB a.cx rfl
theorem dK.c3(a:dK g h s k y mp fl an O xb bb ab p0):ah h ((⟨xb,0,none⟩:Q6).add 3)=some (Ak ab):=AB a.cx rfl
theorem dK.c1(a:dK g h s k y mp fl an O xb bb ab p0):ah h ((⟨xb,0,none⟩:Q6).add 1)=some (Ak s):=AB a.cx rfl
theorem dK.own {b:aa}{O':Nat->Prop}(a:dK g h s k y mp fl an O xb bb ab p0)(d:Mod O h b)(e: ∀c,O' c->O c\/(h.size<=c/\c<b.size))(f:b[xb]? =h[xb]?)(i:O' xb):dK g b s k y mp fl an O' xb bb ab p0:=
 ⟨a.w.own d e,a.hp,a.nm,a.f1,a.ow,i,f.trans a.cx⟩
theorem dK.on {b:aa}(a:dK g h s k y mp fl an O xb bb ab p0)(x:Ext h b):dK g b s k y mp fl an O xb bb ab p0:=⟨a.w.on x,a.hp,a.nm,a.f1,a.ow,a.ox,x.ag a.cx λh=>h⟩
theorem dK.less {O':Nat->Prop}(a:dK g h s k y mp fl an O xb bb ab p0)(b: ∀c,O' c->O c)(d:O' xb):dK g h s k y mp fl an O' xb bb ab p0:=⟨a.w.less b,a.hp,a.nm,a.f1,a.ow,d,a.cx⟩
theorem dK.fK {x:cC}{p:cA}{u:J0}{b:Int}(v:cu g)(a:dK g h s k y mp fl an O xb bb ab p0)(w:k+1<=490)(V:View TZ h x.steps p.steps)(z:x.aG=p.aG)(len:p.steps.length<=1099511627776)(B: -4611686018427300000<=b/\b<=4611686018427300000)
  (C: ∀c f j d l m st nx,dK g c s (k+1) f j d l O xb bb ab p0->Mod (bo g O) h c->Xh fl an 0 x p b m st nx d l->mH mp j fl d 0 x p b y f->R (fI m st nx).v c):
  AA A P Dc #[Ak p0,u,J6 J9 b,x.v] h R:=by
 have o:A8 x.wid 1=0:=by have:=XY x.wid (n:=1) (by decide);omega
 rw[<- a.hp];refine a.w.iL (i:=0) v rfl w (by rw[o];exact a.ow) V z len B λc f j d l m st nx D e E q r t=>?_
 rw[o] at r t;refine C c f j d l m st nx ⟨D,e.p.trans a.hp,e.name.trans a.nm,by rw[e.f];exact a.f1,?_,a.ox,bo.aw q a.cx a.ox⟩ q r t;have:=a.ow;unfold ka at this ⊢;rw[e.f,e.name,E];exact this
end
abbrev eJ(a:Nat):Pr:=⟨CF 0 27 a,MU ⟨7,0,0⟩ wW,false⟩
section
variable [Zc] {A : ak} {g h : aa} {s k : Nat} {y : Hs} {mp : List Pr} {fl : cI} {an : cP} {O : Nat -> Prop} {R : A2H} {xb bb ab p0 : Nat}
theorem AEn {n:Nat}(E:cu g)(u:dK g h s k y mp fl an O xb bb ab p0)(b8:n<=119)(b9:k<=100)(bk:fl wW=none)(bm:an ⟨#[114]⟩=none)(hA:oC an 0)(G:Ea (Iq 0) mp= [])
  (bn: ∀v aY o q r t f z,dK g v s aY o q r t O xb bb ab p0->aY<=k+121->Mod (bo g O) h v->r wW=some f->Ai f=iF lu n->Ea (Iq 0) q= [eJ z]->R (J1 #[.agg #[J7 (eJ z).key,J7 (eJ z).val,J3 false],J3 true]) v):
  AA A P Gi #[Ak xb,J6 J9 (n:Int)] h R:=by
 refine Pp ?_;unfold KC;have ca:=(u.w.w.out u.ox).1;have aq:=u.ox;have aZ: ∀m:Nat,m<256->J8 .u8 ((m:Nat):Int)=((Bu m).toNat:Int):=λm a0=>by rw[wrap_u8,Dt a0,AD a0]
 refine ao.mk λD _ az T cb=>ai.mk λK bp=>?_
 generalize cc:h.size=pb at*
 have H:dK g D s k y mp fl an (λd=>O d\/d=pb) xb bb ab p0:=u.own T.mod (λc e=>e.imp id λh=>by omega) (T.get xb (by omega) λh=>h) (.inl u.ox);have bq: ∀sl:Sl,Po (⟨1,⟨#[114]⟩,wW,⟨#[]⟩,sl,0,Xd,0,0,0,0,false⟩:cC) lu=0:=λsl=>by
  unfold Po;rw[if_neg (λh=>by have B:=h.2;exact absurd B (by decide)),if_neg];rintro(h|h|h)
  ·exact absurd h.1 (show ¬(1:Int)=2 by decide)
  ·exact absurd h (show ¬Aj ⟨#[119]⟩=false by decide)
  ·exact absurd h (show ¬Aj ⟨#[114]⟩=false by decide)
 have key: ∀(M:aa) (aA:Nat) (o:Hs) (q:List Pr) (r:cI) (t:cP) (f:List Ev),dK g M s (k+1) o q r t (λd=>O d\/d=pb) xb bb ab p0->Mod (λd=>bo g O d\/pb<=d) h M->M[aA]? =some (J2 (fI 0 0 3).c DK (0,0))->M[pb]? =some (J2 #[J7 (⟨#[]⟩:A2I),J7 (⟨#[]⟩:A2I),J3 false] AQ (0,0))->r wW=some f->Ai f=dS lu 0->oC t 0->Ea (Iq 0) q= []->K (some ⟨aA,0,none⟩,()) M:=λM aA o q r t f a1 a2 a3 U W I hA G=>by
  refine bp _ _ (aE (AC.mk (n:=0) (AL a3 rfl) (af.no rfl ?_)));refine Loop.rule (λm x w=> ∃(i:Nat) (y:Hs) (mp:List Pr) (fl:cI) (an:cP) (f:List Ev),x=((i:Int),())/\m=n-i/\i<=n/\dK g w s (k+1+i) y mp fl an (λd=>O d\/d=pb) xb bb ab p0/\Mod (λd=>bo g O d\/pb<=d) h w/\w[pb]? =some (J2 #[J7 (⟨#[]⟩:A2I),J7 (⟨#[]⟩:A2I),J3 false] AQ (0,0))/\fl wW=some f/\Ai f=dS lu i/\oC an i/\Ea (Iq 0) mp= []) ?_
   ⟨0,o,q,r,t,f,rfl,rfl,A5 _,a1,a2,U,W,I,hA,G⟩
  clear a1 a2 U W I hA G a3;rintro cd m _ w ⟨i,y,mp,fl,an,f,rfl,rfl,ce,u,a4,U,W,I,hA,G⟩ br;dsimp only;have N: ∀ {v X:aa},Mod (bo g λd=>O d\/d=pb) v X->Mod (λd=>bo g O d\/pb<=d) v X:=λm=>m.aj λd _ C=> .inl (bo.less C λc F=> .inl F)
  refine af.intro (λC=>?_) (λC=>?_)
  ·have aC:i<n:=by have:=of_decide_eq_true C;omega
   refine aE (AY.mk u.c2 (aE (AY.mk u.c3 ?_)));rw[show((i:Int).tmod (26:Int))=((i % 26:Nat):Int) from(LI i 26).symm,show((i:Int).tdiv (26:Int))=((i / 26:Nat):Int) from(Int.ofNat_tdiv i 26).symm,El (by omega),show((97:Int)+((i % 26:Nat):Int))=((97+i % 26:Nat):Int) from by omega,show((97:Int)+((i / 26:Nat):Int))=((97+i / 26:Nat):Int) from by omega,El (by omega),El (by omega)];refine ao.mk λbs _ bt aD cf=>?_
   have Y:=u.on aD;have v1:View Ho bs ⟨some ⟨w.size,0,none⟩,2,2⟩ [Bu (97+i % 26),Bu (97+i / 26)]:=(Own.lit (E:=Ho) (l:= [Bu (97+i % 26),Bu (97+i / 26)]) bt (by
    show [Value.int .u8 (J8 .u8 ((97+i % 26:Nat):Int)),Value.int .u8 (J8 .u8 ((97+i / 26:Nat):Int))]= [Value.int .u8 ((Bu (97+i % 26)).toNat:Int),Value.int .u8 ((Bu (97+i / 26)).toNat:Int)];rw[aZ _ (by omega),aZ _ (by omega)]) (by simp[maxLen])).view
   refine⟨Y.c3,Y.c2,Kn (s:=⟨some ⟨w.size,0,none⟩,2,2⟩) lN lM Ns v1 ⟨_,rfl,Y.c3,Y.c2,⟨by rw[AP,max_i64];show((3:Nat):Int)<=9223372036854775807;decide,?_⟩⟩⟩;rw[show(⟨#[115]⟩:A2I)++AX [Bu (97+i % 26),Bu (97+i / 26)]=iX i from by
    rw[show(⟨#[115]⟩:A2I)=AX [115] from rfl,Aq];rfl]
   have bu:=ATI (i:=i) (by omega);refine Y.fK (x:=dP 2 (iX i) wW ⟨#[103,111]⟩) (p:=⟨[],0⟩) E (by omega) View.nil rfl (by decide) (by decide) λcg o q r t Q st nx bv a5 Z ac=>KO.mk _ ⟨rfl,?_⟩
   have ag:=u.w.w.sorted;obtain⟨rfl,rfl,⟨bw,rfl⟩,aF,b,rfl,aG⟩:=AQl (by omega) (by decide) (by decide) bu (hA.2 i (A0 _) (by omega)) W I Z ac;refine af.no rfl ?_;rw[Aa (by omega)];refine br (n-(i+1)) _ _ (by omega) ⟨i+1,o,_,_,_,_,rfl,rfl,aC,bv,a4.trans (aD.mod.trans (N a5)),bo.aw a5 (aD.ag U λh=>h) (.inr rfl),JS,aF,⟨?_,λj D B=>?_⟩,?_⟩
   ·rw[Oq λQ=>uI (i:=i) (by decide:(⟨#[116]⟩:A2I).size≠3) Q.symm];exact hA.1
   ·rw[Oq λQ=>by have:=ARS B (by omega) Q;omega];exact hA.2 j (by omega) B
   ·rw[Mi ag,YC aG];exact G
  ·have aC:i=n:=by have:=of_decide_eq_false C;omega
   subst aC;refine aE (AY.mk u.c2 (aE (AY.mk u.c3 ?_)));refine u.fK (x:=dP 4 ⟨#[116]⟩ wW ⟨#[]⟩) (p:=⟨[],0⟩) E (by omega) View.nil rfl (by decide) (by decide) λch o q r t Q st nx ah a6 Z ac=>KO.mk _ ⟨rfl,?_⟩
   have ag:=u.w.w.sorted;obtain⟨rfl,rfl,aF,a,z,rfl,bx⟩:=AQ6 (by omega) (by decide) (by decide) hA.1 W I Z ac;have a7:Ea (Iq 0) (cj mp (a++ [eJ z]))= [eJ z]:=by
    rw[Mi ag,G,og,YC bx,Ua,if_pos]
    ·rfl
    ·show Nj (Iq 0) (CF 0 27 z)=true;rw[Mw];unfold Iq CF;rw[Be,Be];exact⟨_,rfl⟩
   have aH:=bo.aw a6 U (.inr rfl);refine af.no rfl (aE (AY.mk ah.c1 (ANc (n:=0) (by decide) λci aI=>⟨_,rfl,(ah.on aI).c1,?_⟩)));refine(ah.on aI).w.w.scan (by unfold Iq;rw[AP];show 2<=1099511627776;decide) λps bz S ck bA=>⟨_,_,rfl,?_⟩
   rw[uo,a7] at S;have S:Own BO AQ bz ps [eJ z]:=S;have bB:ps.len=1:=S.len;have ar:=aI.trans bA;have aH:=ar.ag aH λh=>h
   refine ai.mk λcl bC=>af.no rfl (af.no (by rw[bB];rfl) (S.view.idx (i:=0) rfl λbD _ aj=>AJ.mk aj.pair.1 (ASd ⟨_,rfl,bC _ _ (af.no rfl ?_)⟩)))
   refine S.view.idx (i:=0) rfl λbD _ aj=>AJ.mk aj.pair.1 (AJ.mk aj.pair.2.1 (AZ.mk aj.pair.2.2 ?_))
   refine ae.cN (j:=0) aH (of_decide_eq_true rfl) rfl λcm bE bF cn=>ae.cN (j:=1) bE (of_decide_eq_true rfl) rfl λco bG bH cp=>ae.cN (j:=2) (eY:=(eJ z).cells) bG (of_decide_eq_true rfl) rfl λbI aJ bJ cq=>?_
   refine AJ.mk (n:=(eJ z).key) (AL aJ rfl) (AJ.mk (n:=(eJ z).val) (AB aJ rfl) (AZ.mk (n:=false) (AB aJ rfl) ?_));have aK:=bF.trans (bH.trans bJ);have bK: ¬xb=pb:=by omega
   have bL:=(ah.on ar).own (O':=λd=>O d\/d=pb) (aK.aj λc _ e=> .inr e) (λc e=> .inl e) (aK.get xb (by have:=Ag (ah.on ar).cx;omega) bK) (.inl aq);refine bn bI _ o _ _ _ _ z (bL.less (λc e=> .inl e) aq) (by omega) ?_ JS aF a7;exact(a4.trans ((N a6).trans (ar.mod.trans (aK.aj λd _ C=> .inr (by omega))))).aj λd bM C=>C.elim id λh=>absurd bM (by omega)
 have N: ∀ {J:Nat->Prop} {v X:aa},(∀ d,O d->J d)->Mod (bo g J) v X->Mod (λd=>bo g O d\/pb<=d) v X:=λbN m=>m.aj λd _ C=> .inl (bo.less C λc F=>bN c F)
 have aL: ∀ {w:aa} {ak:Nat} {J:Nat->Prop} {aM:A2H},dK g w s k y mp fl an J xb bb ab p0->w[ak]? =some (J2 oB.c Ct (0,0))->
   (∀ v o q r t f,dK g v s (k+1) o q r t J xb bb ab p0->Mod (bo g J) w v->r wW=some f->Ai f=dS lu 0->oC t 0->Ea (Iq 0) q= []->aM (fI 0 0 3).v v)->
   AA A P Dc #[Ak p0,.iface Ba (Ak ab),J6 J9 0,(⟨1,⟨#[114]⟩,wW,⟨#[]⟩,⟨some ⟨ak,0,none⟩,1,1⟩,0,Xd,0,0,0,0,false⟩:cC).v] w aM:=λ{w ak J aM} u bO bP=>by
  have V:View TZ w ⟨some ⟨ak,0,none⟩,1,1⟩ [oB]:=(Own.lit (E:=TZ) (l:= [oB]) bO rfl (by decide)).view;have ag:=u.w.w.sorted;refine u.fK (x:=⟨1,⟨#[114]⟩,wW,⟨#[]⟩,⟨some ⟨ak,0,none⟩,1,1⟩,0,Xd,0,0,0,0,false⟩) (p:=lu) E (by omega) V rfl (by decide) (by decide) λv o q r t Q st nx bQ bR Z ac=>?_
  obtain⟨rfl,rfl,rfl,⟨f,rfl,I⟩,⟨bw,rfl⟩,b,rfl,aG⟩:=ANf rfl (bq _) rfl bm bk Z ac;refine bP v o _ _ _ f bQ bR JS I ⟨?_,λj D B=>?_⟩ (by rw[Mi ag,YC aG];exact G)
  ·exact(Oq (by show(⟨#[116]⟩:A2I)≠⟨#[114]⟩;decide)).trans hA.1
  ·exact(Oq (uI (by show(⟨#[114]⟩:A2I).size≠3;decide))).trans (hA.2 j D B)
 have lp:=Ag az;have cr: ¬xb=pb:=by omega
 refine aE (AY.mk H.c2 (aE (AY.mk H.c3 ⟨?_,?_⟩)))
 ·refine ao.mk λaN _ a8 au cs=>?_
  have L:=H.on au;have aO:=au.ag az λh=>h
  refine⟨L.c3,L.c2,?_,?_⟩
  ·refine aL L a8 λa9 o q r t f ba bc D B al am=>KO.mk _ ⟨rfl,ao.mk λct _ bS bd cv=>?_⟩
   have be:=ba.on bd;have bf:=bo.aw bc aO (.inr rfl);have cw:=Ag bf;refine⟨be.c3,be.c2,aW.mk bS (A0 9) λbg bh bT cx=>?_⟩;rw[Qb] at bh;have aP:Ext a9 bg:=bd.more bT λc e=>by subst e;exact A0 _
   exact key bg a9.size o q r t f (ba.on aP) (T.mod.trans (au.mod.trans ((N (λc F=> .inl F) bc).trans aP.mod))) bh (aP.ag bf λh=>h) D B al am
  ·refine ao.mk λbU _ bV ap cy=>?_
   have aQ:dK g bU s k y mp fl an (λd=>(O d\/d=pb)\/d=aN.size) xb bb ab p0:=L.own ap.mod (λc e=>e.imp id λh=>by omega) (ap.get xb (Ag L.cx) λh=>h) (.inl L.ox);refine⟨aQ.c3,aQ.c2,aL aQ (ap.ag a8 λh=>h) λcz o q r t f aR aS D B al am=>KO.mk _ ⟨rfl,aW.mk (bo.aw aS bV (.inr rfl)) (A0 9) λbW bi av cB=>?_⟩⟩;rw[Qb] at bi;have bX:=bo.aw aS (ap.ag aO λh=>h) (.inl (.inr rfl));have cD:=Ag aO;have bY:=Ag L.cx;have bZ:=(aR.own (O':=λd=>(O d\/d=pb)\/d=aN.size) (av.aj λc _ e=> .inr e) (λc e=> .inl e) (av.get xb (Ag aR.cx) (by omega)) aR.ox).less (O':=λd=>O d\/d=pb) (λc e=> .inl e) (.inl aq);exact key bW aN.size o q r t f bZ (T.mod.trans (au.mod.trans (ap.mod.trans ((N (λc F=> .inl (.inl F)) aS).trans (av.aj λd _ C=> .inr (by omega)))))) bi (av.ag bX (by omega)) D B al am
 ·refine ao.mk λb0 _ b1 aw cE=>?_
  have aT:dK g b0 s k y mp fl an (λd=>(O d\/d=pb)\/d=D.size) xb bb ab p0:=H.own aw.mod (λc e=>e.imp id λh=>by omega) (aw.get xb (Ag H.cx) λh=>h) (.inl H.ox);refine⟨aT.c3,aT.c2,ao.mk λcF _ b2 ax cG=>?_⟩;have aU:=aT.on ax;have b3:=(aw.trans ax).ag az λh=>h
  refine⟨aU.c3,aU.c2,aL aU b2 λcH o q r t f aV aX b4 B al am=>KO.mk _ ⟨rfl,aW.mk (bo.aw aX (ax.ag b1 λh=>h) (.inr rfl)) (A0 9) λb5 bj ay cJ=>?_⟩⟩;rw[Qb] at bj;have b6:=bo.aw aX b3 (.inl (.inr rfl));have bY:=Ag H.cx;have b7:=(aV.own (O':=λd=>(O d\/d=pb)\/d=D.size) (ay.aj λc _ e=> .inr e) (λc e=> .inl e) (ay.get xb (Ag aV.cx) (by omega)) aV.ox).less (O':=λd=>O d\/d=pb) (λc e=> .inl e) (.inl aq);exact key b5 D.size o q r t f b7 (T.mod.trans (aw.mod.trans (ax.mod.trans ((N (λc F=> .inl (.inl F)) aX).trans (ay.aj λd _ C=> .inr (by omega)))))) bj (ay.ag b6 (by omega)) b4 B al am
end
section
variable {A : ak} {B : bV} {g h : aa} {s a N sh : Nat} {l : List Hs} {mp : List Pr} {O : Nat -> Prop} {R : A2H}
end
theorem AKc {w:A2I}{l:List Ev}(e:Aj w=true)(f:IJ l)(t:l.length<=400):L8 w l=0/\ ∀b∈l,b.data.size<=4194304:=by
 have ok: ∀b∈l,Dk b=true:=λb d=>by
  obtain⟨i,j⟩:=DB d;exact(f.next.2 i b j).2
 have k:l.all Dk=true:=List.all_eq_true.2 ok;have m: ∀l:List Ev,(∀ b∈l,Dk b=true)->(l.flatMap λb=>BG (EH b)).length<=l.length*2110:=by
  intro l
  induction l with
  |nil=>intro _;simp
  |cons b l o=>
   intro c;have p:=o λx q=>c x (AG _ q)
   have u:=Oe (c b (by simp));have v:=MG (Ha (c b (by simp))) (by omega);have y:=AV (n:=(EH b).length) (by omega);have z:(BG (EH b)).length=(BX (EH b).length).length+(EH b).length:=by simp[BG]
   simp only[AH,A1,A6];omega
 have r:Dv l=(0,Ni l):=by unfold Dv;rw[if_neg (by omega),if_pos k]
 have c:=m l ok;have C:=AV (n:=l.length) (by omega);have p:(Ni l).length<=1048576:=by simp only[Ni,A1];omega
 refine⟨?_,λb d=>by have:=Oe (ok b d);omega⟩;unfold L8;rw[if_pos e,r,if_neg (by simp),if_neg (by simp;omega)]
section
variable {A : ak} {B : bV} {g h : aa} {s a N sh : Nat} {l : List Hs} {mp : List Pr} {O : Nat -> Prop} {i : Nat} {y : Hs} {R : A2H} {ab : Nat} {wid : A2I} {ev : List Ev}
structure Kept (B:bV) (mp:List Pr) (wid:A2I) (ev:List Ev):Prop where
 cZ:IJ ev
 aw:L8 wid ev=0/\ ∀e∈ev,e.data.size<=4194304
 file:B.zf (zn wid)=some (bP ev,bg)
 row:Ab (Eu wid) mp=some ⟨Eu wid,I1 (Ai ev).status.toNat (Ai ev).next.toNat true,false⟩
theorem ANb(j:LW B g h s a N sh l mp O)(d:l[i]? =some y)(k:Aj wid=true)(m:Kept B mp wid ev)
  (t: ∀n,Ext h n->R (J1 #[(⟨wid,(A8 wid sh:Int),⟨(Ai ev).status,(Ai ev).next,true⟩,Xd,bR.z⟩:bZ).v,J6 J9 0]) n):AA A P Im #[Ak y.p,J7 wid] h R:=by
 obtain⟨-,u,v⟩:=j.dY d;have b:=m.cZ;have nx:=b.next.1;have M:=b.len;have st:=b.st;have Q:1<=ev.length:=List.length_pos_iff.2 b.ne;have S:=Ep k;refine Ov ?_;unfold MX;refine ao.mk λT _ w o U=>ai.mk λK x=>af.no rfl (EO ⟨_,rfl,x _ _ ?_⟩)
 rw[k];have e:=j.on o;refine af.no rfl (e.aI d ⟨_,rfl,Ob (by omega) u v ⟨_,_,rfl,af.no rfl (e.store d ⟨_,rfl,P6 (by omega) ⟨_,rfl,?_⟩⟩)⟩⟩);refine e.get (by rw[MN];omega) λz p=>?_
 have C:=p.ag w λh=>h
 have D:IK mp (Eu wid)=(I1 (Ai ev).status.toNat (Ai ev).next.toNat true,true):=by unfold IK;rw[m.row]
 rw[D];refine⟨_,_,_,rfl,af.no rfl (af.no rfl (uE (by omega) (by omega) (by omega) λV q=>na.mk _ ⟨_,rfl,?_⟩))⟩;refine ao.mk λW _ E F X=>aW.mk E (A0 3) λG H I Y=>?_
 have r:Ext z G:=(q.trans F).more I λc f=>by subst f;exact q.size
 refine Jt.mk _ (EN H rfl) (VF (r.ag C λh=>h) λJ L=>?_);have:=t J ((o.trans (p.trans r)).more L λc f=>by subst f;exact A0 _);rw[show(((Ai ev).status.toNat:Nat):Int)=(Ai ev).status from by omega,show(((Ai ev).next.toNat:Nat):Int)=(Ai ev).next from by omega];exact this
theorem LW.iN(o:LW B g h s a N sh l mp O)(k:h[ab]? =some (J2 #[Ak B.bx] Cn (0,0)))(e:Kept B mp wid ev)(u:B.W0+(1+3*a)*B.K+2000000<1099511627776)
  (p: ∀d b,Ext h d->View ct d b ev->(∀ c,b.ag=some c->h.size<=c)->R (J1 #[J4 b.p b.len b.cap,J6 J9 0]) d):AA A P Cq #[Ak ab,J7 wid] h R:=by
 obtain⟨v,w,st,m,x,nn,f,z,C,D,E,out⟩:=o;have j:=f.db;have F:=Ep (Re e.aw.1).1;rw[<- f.bx] at k;have q:ff m (zn wid)=some (bP ev,bg):=(f.dc _ (uy wid)).trans e.file;have r:=sv (m:=m) j.up e.aw.1 e.aw.2 q;have G:=j.wt;refine Sv k j.mem.box (by omega) (by omega) λd b t n fr=>?_
 rw[r] at n ⊢;exact p d b t n fr.2
theorem uJ(F:LW B g h s a N sh l mp O)(aa:l[i]? =some y)(ac:h[ab]? =some (J2 #[Ak B.bx] Cn (0,0)))(ag:Aj wid=true)(v:Kept B mp wid ev)(ah:B.W0+(1+3*a)*B.K+2000000<1099511627776)
  (aj: ∀w d e k m,Ext h w->View ct w d ev->R (J1 #[(⟨wid,(A8 wid sh:Int),⟨(Ai ev).status,(Ai ev).next,true⟩,d,(Ai ev).V e k m⟩:bZ).v,J6 J9 0]) w):
  AA A P Eb #[Ak y.p,.iface Ba (Ak ab),J7 wid] h R:=by
 have o:=v.cZ;have ak:=o.len;obtain⟨nx,al⟩:=o.next;refine O8 ?_;unfold Ma;refine ao.mk λam _ G x aK=>ANb (F.on x) aa ag v λp H=>O9.mk _ ⟨_,rfl,ao.mk λaL _ an ap aM=>aW.mk an (A0 18) λI q aq aN=>af.no rfl ?_⟩
 rw[XQ] at q;have J:Ext p I:=ap.more aq λc b=>by subst b;exact A0 _
 have L:Ext am I:=H.trans J;have z:=x.trans L;have aO:=Ag G;have aP:=H.size;have aQ:=J.size;refine ai.mk λK ar=>AZ.mk (n:=true) (CL q rfl) (af.yes rfl ⟨trivial,af.no rfl ?_⟩)
 refine mu.mk (f:=Cq) (cX:= #[Ak ab,J7 wid]) (by kernel_rfl) ((F.on z).iN (z.ag ac λh=>h) v ah λaR d C au M=>⟨d,_,rfl,?_⟩);have Q:=C.ag q λh=>h
 have av:=(L.trans C).ag G λh=>h
 refine ae.cN (j:=5) (eY:=(⟨wid,(A8 wid sh:Int),⟨(Ai ev).status,(Ai ev).next,true⟩,d,bR.z⟩:bZ).c) Q (of_decide_eq_true rfl) rfl λS T D aS=>af.no rfl ?_
 have aT:=Ag Q;have aU:=Ag q;have U:View ct S d ev:=au.mod D λc b r=>by have:=M c b;omega
 have aw:=D.ag av (by omega);refine ar () S (Ad.mk (s:=d) (CS T rfl) ?_);refine uL U ak (λr V=>by
   obtain⟨j,ax⟩:=DB V;have:=Oe (al j r ax).2;exact⟨by omega,o.kd r V⟩) o.ok λay e k m az aV aX=>Ju.mk _ ⟨_,_,rfl,?_⟩
 refine ao.mk λaY _ aA aC aZ=>aW.mk aA (A0 12) λW t aD a0=>?_
 rw[Ph] at t;have aE:Ext ay W:=aC.more aD λc b=>by subst b;exact A0 _
 have u:=az.trans aE;have E:=u.ag T λh=>h
 have aF:=u.ag aw λh=>h
 refine ai.mk λa1 aG=>af.no rfl (AC.mk (n:=(Ai ev).next) (AB t rfl) (AC.mk (n:=(Ai ev).next) (CL E rfl) ?_))
 refine af.no (by simp) (AC.mk (n:=(Ai ev).status) (AB t rfl) (AC.mk (n:=(Ai ev).status) (CS E rfl) (aG _ _ (af.no (by simp) ?_))));refine Bo.mk _ (IU t) ?_;have aH:(⟨p.size,0,none⟩:Q6).add 6=⟨p.size,6,none⟩:=rfl;rw[aH];refine aW.mk E (of_decide_eq_true rfl) λa2 aI X a3=>?_
 refine I7.mk ⟨wid,(A8 wid sh:Int),⟨(Ai ev).status,(Ai ev).next,true⟩,d,(Ai ev).V e k m⟩ (X8 (by exact aI)) (VF (X.ag aF (by omega)) λY aJ=>?_);have a4:=x.size;have Z:Mod (λc=>c=p.size\/c=h.size) W Y:=(X.aj λc _ b=> .inl b).trans (aJ.aj λc _ b=> .inr b);refine aj Y d e k m ((((z.trans C).more D λc b=>by omega).trans u).more Z λc b=>by omega) ?_;exact(U.ext u).mod Z λc b r=>by have:=M c b;omega
end
abbrev AUP:Ev:=⟨3,3,0,2,0,0,false,⟨#[]⟩⟩
structure AUR (C:bC) (wid key:A2I) (c num:Nat) (p:cA):Prop where
 wd:C.wid=wid
 aq:C.aq=c
 mt:C.cJ=0/\C.cq=3/\C.kept=false
 st:C.st=stT p 0
 more:C.more= [AUP]
 err:C.err=0
 now:C.now=0
 conds:C.conds= [⟨key,qB wid,false⟩]
 au:C.au= [⟨key,⟨#[]⟩,true⟩,⟨CF c 5 num,MU ⟨4,3,0⟩ wid,false⟩]
section
variable {C : bC} {wid key : A2I} {c c' num n0 : Nat} {p : cA} {mp : List Pr} {fl : cI} {an : cP} {ev : List Ev}
theorem uw {r:Pr}(h:Ab r.key mp=some r)(a:r.gone=false):Bv mp ⟨r.key,r.val,false⟩=true:=by unfold Bv IK;rw[if_neg (by simp),h];simp
end
section
variable {A : ak} {g h : aa} {s k sh i : Nat} {l : List Hs} {mp : List Pr} {O : Nat -> Prop} {y y' : Hs} {fl : cI} {an : cP} {ev : List Ev} {R : A2H} {cb c num n0 : Nat} {z : Nat -> Nat} {x : fi} {C : bC} {wid : A2I} {p : cA} {T : Nat -> List (Nat × A2I)} {L : List Pr}
end
abbrev Tq:=Nat×Nat×A2I
abbrev TT:=Nat->List (Nat×A2I)
def AUL(a:Tq):Pr:=uv a.1 a.2
def AUH(T:TT)(L:List Tq):List Tq:=L++((T 0).map (λt=>(0,t))++((T 1).map (λt=>(1,t))++(T 2).map λt=>(2,t)))
def Started(b:cI)(wid:A2I):Prop:=Aj wid=true/\ ∃p a,b wid=some a/\Ai a=stS p 0
structure AUO (fl:cI) (y:Hs) (l:List Tq):Prop where
 one: ∀q∈l,q.1<3/\A8 q.2.2 3=q.1/\q.2.1<=16777216+y.u q.1/\Started fl q.2.2
 keys:(l.map λq=>(q.1,q.2.1)).Nodup
 wids:(l.map λq=>q.2.2).Nodup
section
variable {A : ak} {g h : aa} {s k : Nat} {y y0 y1 : Hs} {mp : List Pr} {fl : cI} {an : cP} {O : Nat -> Prop} {R : A2H} {T : TT} {L : List Tq}
structure QW [Zc] (g h:aa) (s k:Nat) (y0 y1:Hs) (mp:List Pr) (fl:cI) (an:cP) (O:Nat->Prop) (T:TT) (L:List Tq):Prop where
 w:EW g h s k 3 [y0,y1] mp fl an O
 q:oy mp T (L.map AUL)
 own: ∀n,n<3->ka mp y0 n/\y0.f n=1
 ok:AUO fl y0 (AUH T L)
end
section
variable {A : ak} {g h : aa} {s k : Nat} {y0 y1 : Hs} {mp : List Pr} {fl : cI} {an : cP} {O : Nat -> Prop} {R : A2H} {T : TT} {L : List Tq}
end
section
variable {A : ak} {g h : aa} {s k : Nat} {y0 y1 : Hs} {mp : List Pr} {fl : cI} {an : cP} {O : Nat -> Prop} {R : A2H} {T : TT} {L : List Tq} {a : Q2}
end
theorem AK7 {mp b:List Pr}(s:Sorted mp)(h: ∀p∈b,BC p.key≠108)(c d:Nat)(e:A2I):Bv (cj mp b) (FH c d e)=Bv mp (FH c d e):=by
 have f:Ab (Bd c) (cj mp b)=Ab (Bd c) mp:=Jw s λi j l=>h i j ((congrArg BC l).trans (ML c))
 rw[MK,MK];unfold IK;rw[f]
section
variable {A : ak} {g h : aa} {s k : Nat} {y0 y1 : Hs} {mp : List Pr} {fl : cI} {an : cP} {O : Nat -> Prop} {R : A2H} {T : TT} {L : List Tq} {a : Q2}
end
theorem uK: ∀ {n:Nat} {b:List Pr},Sorted b->cj b ((b.take n).map Ub)=b.drop n
 |0,b,_=>by simp[cj]
 |n+1,[],_=>rfl
 |n+1,x::m,s=>by
  show cj (gG (x::m) (Ub x)) ((m.take n).map Ub)=m.drop n;rw[qA (p:=Ub x) s rfl rfl];exact uK (List.pairwise_cons.1 s).2
theorem ARQ {p:Pr}(h:Ah p=0):Ah (Ub p)=0:=by
 have z:(⟨#[]⟩:A2I).size=0:=rfl;unfold Ah at h ⊢;unfold Ub
 grind
structure eL (mp:List Pr) (y:Hs) (ev:List Ev) (num k:Nat) (kept:Bool) (tm:List Pr):Prop where
 rows:Ea (GQ wW) mp=(QD wW ev).drop k
 tm:Ea (Iq 0) mp=tm
 ow:ka mp y 0
 eQ:Ab (Eu wW) mp=some ⟨Eu wW,I1 (Ai ev).status.toNat (Ai ev).next.toNat kept,false⟩
section
variable {mp : List Pr} {y : Hs} {ev : List Ev} {num k : Nat} {kept : Bool} {tm : List Pr}
theorem Xn:Nj (Iq 0) (CF 0 27 num)=true:=by rw[Mw];unfold Iq CF;rw[Be,Be];exact⟨_,rfl⟩
theorem qG {b:A2I}(h:BC b≠104):Nj (GQ wW) b=false:=om h
theorem eL.first {f:cI}{m:cP}{num:Nat}(s:Sorted mp)(c:JU mp f m)(d:f wW=some ev)(n:ka mp y 0)(o:Ea (Iq 0) mp=tm):eL mp y ev num 0 false tm:=by
 have e:=c.cZ wW ev d;refine⟨Sorted.ext (JZ s) (Ru e.len e.next.2) λk=>?_,o,n,by rw[c.eQ wW (by decide),d];rfl⟩;have j:=c.cK wW (by decide) k;rw[Pm];rw[d,FG] at j;by_cases b:Nj (GQ wW) k=true
 ·rw[if_pos b];exact j b
 ·rw[if_neg b]
  symm
  refine M.Eh λx p q=>b ?_
  obtain⟨i,r⟩:=DB p;obtain⟨u,t,rfl⟩:=NQ r;rw[<- q,Oz e.next.2 t];exact rZ _ _
theorem eL.jf(M:eL mp y ev num k kept tm){d:Nat}: ∀c∈(((Ea (GQ wW) mp).take 41).take d).map Ub,BC c.key=104:=by intro c e;obtain⟨p,b,rfl⟩:=List.mem_map.1 e;have b:=(List.mem_filter.1 (C2 (C2 b))).2;exact Za b
theorem eL.cases(M:eL mp y ev num k kept tm){q:Pr}(b:q∈bO wW ev (CF 0 27 num) ((Ea (GQ wW) mp).take 41)):q=⟨Eu wW,I1 (Ai ev).status.toNat (Ai ev).next.toNat true,false⟩\/BC q.key=104\/q=⟨CF 0 27 num,⟨#[]⟩,true⟩:=by
 unfold bO at b;rcases List.mem_append.1 b with h|h
 ·rcases List.mem_cons.1 h with h|h
  ·exact .inl h
  ·exact .inr (.inl (M.jf q h))
 ·split at h
  ·exact .inr (.inr (List.mem_singleton.1 h))
  ·cases h
theorem eL.check(M:eL mp y ev num k kept tm)(c:IJ ev):Fh (bO wW ev (CF 0 27 num) ((Ea (GQ wW) mp).take 41))=0:=by
 obtain⟨nx,e⟩:=c.next;have st:=c.st;have n:=c.len;refine u7 (by unfold bO;simp) ?_ λp d=>?_
 ·unfold bO;simp only[A1,A6,AW,An];split<;>simp<;>omega
 ·unfold bO at d;rcases List.mem_append.1 d with h|h
  ·rcases List.mem_cons.1 h with rfl|h
   ·exact ua (by decide) (by omega) (by omega)
   ·obtain⟨o,b,rfl⟩:=List.mem_map.1 h;have b:=C2 (C2 b);rw[M.rows] at b;obtain⟨i,f⟩:=DB (Hc b);obtain⟨j,m,rfl⟩:=NQ f;exact ARQ (u9 (by decide) (e i j m).2)
  ·split at h
   ·rw[List.mem_singleton.1 h];exact AKk (Ve (by rw[JL];omega)) (by rw[JL];omega)
   ·cases h
theorem eL.last(M:eL mp y ev num k kept [])(b:IJ ev){c:Pr}:di mp (c::cE wW ev kept (CF 0 27 num) (MU ⟨7,0,0⟩ wW)) (bO wW ev (CF 0 27 num) ((Ea (GQ wW) mp).take 41))=100:=by
 have d:Ab (CF 0 27 num) mp=none:=by have:=Pm (P:=Iq 0) (k:=CF 0 27 num) (m:=mp);rw[M.tm,if_pos Xn] at this;exact this.symm
 have e:Bv mp ⟨CF 0 27 num,MU ⟨7,0,0⟩ wW,false⟩=false:=by unfold Bv IK;rw[if_neg (by simp),d];rfl
 unfold di;rw[if_neg (by simp[cE]),if_neg (by rw[M.check b];decide),if_neg];unfold cE;rw[DG,DG,DG,e];simp
theorem eL.part(M:eL mp y ev num k kept [eJ num])(s:Sorted mp)(n:IJ ev):
  di mp (FH 0 (y.f 0) y.name::cE wW ev kept (CF 0 27 num) (MU ⟨7,0,0⟩ wW)) (bO wW ev (CF 0 27 num) ((Ea (GQ wW) mp).take 41))=0/\
  decide (((Ea (GQ wW) mp).take 41).length<=40)=decide (ev.length<=k+40)/\
  eL (cj mp (bO wW ev (CF 0 27 num) ((Ea (GQ wW) mp).take 41))) y ev num (k+40) true (if ev.length<=k+40 then [] else [eJ num]):=by
 have o:Ab (CF 0 27 num) mp=some (eJ num):=by have:=Pm (P:=Iq 0) (k:=CF 0 27 num) (m:=mp);rw[M.tm,if_pos Xn] at this;rw[Go.Lf.G.M.BB,if_pos rfl] at this;exact this.symm
 have f:(((Ea (GQ wW) mp).take 41).length<=40)↔ev.length<=k+40:=by rw[M.rows,An,CI];unfold QD;rw[AW];omega
 have t:((Ea (GQ wW) mp).take 41).take 40=(Ea (GQ wW) mp).take 40:=by rw[List.take_take];rfl
 have u: ∀q:Pr,q.key=CF 0 27 num->BC q.key=109:=λq d=>by rw[d];exact PG _ _ _
 have hd:=λq=>M.cases (q:=q)
 refine⟨?_,decide_eq_decide.2 f,⟨?_,?_,⟨M.ow.1,?_⟩,?_⟩⟩
 ·unfold di;rw[if_neg (by simp[cE]),if_neg (by rw[M.check n];decide),if_pos];unfold cE;rw[DG,DG,DG,M.ow.2,uw (r:=⟨Eu wW,I1 (Ai ev).status.toNat (Ai ev).next.toNat kept,false⟩) M.eQ rfl,uw (r:=eJ num) o rfl];rfl
 ·have d:Ea (GQ wW) (bO wW ev (CF 0 27 num) ((Ea (GQ wW) mp).take 41))=((Ea (GQ wW) mp).take 40).map Ub:=by
   unfold bO;rw[t,og,Ua,qG (show BC (Eu wW)≠104 by rw[Dh];decide),if_neg (by simp),dp (P:=GQ wW) (b:=ite _ _ _),AN]
   ·refine List.filter_eq_self.2 λq j=>?_
    obtain⟨p,c,rfl⟩:=List.mem_map.1 j;exact(List.mem_filter.1 (C2 c)).2
   ·intro p c;split at c
    ·rw[List.mem_singleton.1 c];exact qG (by rw[PG];decide)
    ·cases c
  rw[Mi s,d,uK (JZ s),M.rows,Hh]
 ·have d:Ea (Iq 0) (bO wW ev (CF 0 27 num) ((Ea (GQ wW) mp).take 41))=if ev.length<=k+40 then [⟨CF 0 27 num,⟨#[]⟩,true⟩] else []:=by
   unfold bO;rw[og,YC (b:=_::_),CT]
   ·by_cases h:ev.length<=k+40
    ·rw[if_pos (f.2 h),if_pos h,Ua,Xn,if_pos rfl];rfl
    ·rw[if_neg λq=>h (f.1 q),if_neg h];rfl
   ·intro p c;rcases List.mem_cons.1 c with rfl|h
    ·rw[Dh];decide
    ·rw[M.jf p h];decide
  rw[Mi s,d,M.tm];split
  ·exact qA (LL _ _) rfl rfl
  ·rfl
 ·rw[AK7 s λp c=>?_]
  ·exact M.ow.2
  ·rcases hd p c with rfl|h|rfl
   ·rw[Dh];decide
   ·rw[h];decide
   ·rw[PG];decide
 ·refine(mG (p:=⟨Eu wW,I1 (Ai ev).status.toNat (Ai ev).next.toNat true,false⟩) s (by unfold bO;simp) λq j d=>?_).trans rfl;have e:=congrArg BC d;rw[Dh] at e;rcases hd q j with rfl|h|rfl
  ·rfl
  ·rw[h] at e;cases e
  ·rw[PG] at e;cases e
end
section
variable {Kd : aa -> Prop} {A : ak} {B B' : bV} {g h : aa} {s a a' N : Nat} {l : List Hs} {mp : List Pr} {O : Nat -> Prop} {i k num ab : Nat} {y : Hs} {R : A2H} {ev : List Ev} {kept : Bool} {tm : List Pr}
theorem ARi(E:cu g)(F:LW B g h s a N 1 l mp O)(z:l[i]? =some y)(G:IJ ev)(H:(Ai ev).status≠0)(M:eL mp y ev num k kept tm)(I:y.f 0<=2147483647)(hA:4+3*a'<=B'.A)(J:64*a'+64<=B'.C)(K:a'+1<=1000000)
  (ld: ∀(e:aa) (j:A2H),Ext h e->(∀ d f a' L Q,Ext e d->View ct d f ev->(kept=false-> ∀x,f.ag=some x->e.size<=x)->j (J1 #[(⟨wW,(A8 wW 1:Int),⟨(Ai ev).status,(Ai ev).next,kept⟩,f,(Ai ev).V a' L Q⟩:bZ).v,J6 J9 0]) d)->AA A P Eb #[Ak y.p,.iface Ba (Ak ab),J7 wW] e j)
  (S: ∀(e:aa) (f:Sl) (o:Nat->Prop) (j:A2H),kept=false->Ext h e->LW B g e s a N 1 l mp o->(∀ c,O c->o c)->View ct e f ev->(∀ c,f.ag=some c->o c)->(∀ d,LW B' g d s a' N 1 l mp o->Mod (bo g o) e d->d[s]? =e[s]? ->j (J6 J9 0) d)->(∀ d,Kd d->Mod (bo g o) e d->j (J6 J9 30) d)->AA A P Cw #[Ak ab,J7 wW,J4 f.p f.len f.cap] e j)
  (same:kept=true->B'=B/\a'=a) (T: ∀d,Kd d->Mod (bo g O) h d->R (J1 #[J3 false,J6 J9 30]) d)
  (U:di mp (FH 0 (y.f 0) y.name::cE wW ev kept (CF 0 27 num) (MU ⟨7,0,0⟩ wW)) (bO wW ev (CF 0 27 num) ((Ea (GQ wW) mp).take 41))≠0-> ∀d t,LW B' g d s a' N 1 l mp O->Mod (bo g O) h d->R (J1 #[J3 t,J6 J9 (di mp (FH 0 (y.f 0) y.name::cE wW ev kept (CF 0 27 num) (MU ⟨7,0,0⟩ wW)) (bO wW ev (CF 0 27 num) ((Ea (GQ wW) mp).take 41)))]) d)
  (V:B'.cm=false->di mp (FH 0 (y.f 0) y.name::cE wW ev kept (CF 0 27 num) (MU ⟨7,0,0⟩ wW)) (bO wW ev (CF 0 27 num) ((Ea (GQ wW) mp).take 41))=0-> ∀d p,fS B' g d (a'+1) [mp,cj mp (bO wW ev (CF 0 27 num) ((Ea (GQ wW) mp).take 41))] O->(p=30\/p=0/\hU d s 1 y)->Mod (bo g O) h d->R (J1 #[J3 (decide (((Ea (GQ wW) mp).take 41).length<=40)),J6 J9 p]) d)
  (W:di mp (FH 0 (y.f 0) y.name::cE wW ev kept (CF 0 27 num) (MU ⟨7,0,0⟩ wW)) (bO wW ev (CF 0 27 num) ((Ea (GQ wW) mp).take 41))=0-> ∀d,LW B' g d s (a'+1) N 1 l (cj mp (bO wW ev (CF 0 27 num) ((Ea (GQ wW) mp).take 41))) O->Mod (bo g O) h d->R (J1 #[J3 (decide (((Ea (GQ wW) mp).take 41).length<=40)),J6 J9 0]) d):
  AA A P GG #[Ak y.p,Ak ab,J7 wW,.agg #[J7 (CF 0 27 num),J7 (MU ⟨7,0,0⟩ wW),J3 false]] h R:=by
 have X:A8 wW 1=0:=by have:=XY wW (n:=1) (by decide);omega
 refine AQo (tk:=CF 0 27 num) (tv:=MU ⟨7,0,0⟩ wW) F z G (by decide) H rfl (by rw[JL];decide) ld S same T λY conds sl Z C r vc ac ae af am=>?_
 rw[X];have u: ∀ {d},Mod (bo g Z) Y d->Mod (bo g O) h d:=λm=>af.trans (m.aj λc _ q=>bo.less q r)
 refine C.change (i:=i) (x:=y) (n:=0) E z (by decide) I hA J K vc (by unfold cE;simp) ac (λ_ b ag=> .inr (ae b ag)) (λan v=>?_) (λh=>absurd h M.ow.1) (λ_ ah=>absurd M.ow.2 (by rw[ah];decide)) (λ_ _ hd d D=>⟨_,rfl,U hd d _ ((C.on D).less r) (u D.mod)⟩) (λq _ _ hd d p ai aj w=>⟨_,rfl,V q hd d p (by obtain⟨k,m,t,ak⟩:=ai;exact⟨k,m,t,λc q=>ak c (r c q)⟩) aj (u w)⟩) λ_ _ hd d al w=>⟨_,rfl,W hd d (al.less r) (u w)⟩
 unfold cE at v;simp only[Hb,Lz,or_false] at v;rcases v with rfl|rfl
 ·show(Eu wW).size<=_;rw[MN];decide
 ·show(CF 0 27 num).size<=_;rw[JL];decide
end
theorem ANh {A:ak}{h:aa}{b:Nat}{ah:Nat->Prop}{m:Bx}{aw:Sl}{ks:List Int}{R:A2H}(B:Bl h b ah m)(V:View GV h aw ks)
  (aN: ∀aA S S',Bl S b ah (LQ m)->Bl S aA S' (R7 m ks)->Mod ah h S->(∀ c,S' c->h.size<=c)->R (Ak aA) S):AA A P KR #[Ak b,J4 aw.p aw.len aw.cap] h R:=by
 obtain⟨aO,aP,B,aC⟩:=B;refine AAK ?_;unfold TM;refine af.no rfl ?_;refine qa λj T aQ G aD fn=>⟨_,rfl,?_⟩
 have aF:=B.mod aD (λ_ _ h=>h);refine aE (Ef.mk (AL aF.head rfl) (aF.eo (R:=λbq br=>Loop _ _ _) λs u aj aG U=>?_));have bs:m.files.length<=8796093022208:=by have:=Sq m.files;have:=B.aO.wt;omega
 have al:Ext h u:=aD.trans aG;have bt: ∀c,s.ag=some c-> ¬aQ c:=λc d W=>by have:=G.lt W;have:=U c d;omega
 obtain⟨n,y,G,aR⟩:=G;have X: ∀c,Gu j n y c->h.size<=c/\c<T.size:=λc d=>⟨fn c ((aR c).2 d),G.lt d⟩
 refine Loop.rule (λq x o=> ∃(i:Nat) (t:List (Fi×Nat)),x=(((cU 0 (m.files.take i):Nat):Int),(i:Int),())/\q=m.files.length-i/\i<=m.files.length/\
  ES o j n t ⟨Dx ks 0 (m.files.take i),-1,false⟩/\(∀ c,Gu j n t c->Gu j n y c\/u.size<=c)/\Mod (Gu j n y) u o) ?_
  ⟨0,y,rfl,rfl,by omega,by simpa [Dx,iq] using G.mod aG (λ_ _ h=>h),λc d=> .inl d,Mod.refl⟩
 rintro K q _ o ⟨i,t,rfl,rfl,bu,r,Y,H⟩ aS;have am:Ext h o:=(al.mod.trans H).lS λc d an=>by have:=X c an;omega
 have z:=B.mod am (λ_ _ h=>h);refine af.intro (λe=>?_) (λe=>?_)
 ·have I:i<m.files.length:=by simpa [aj.len] using e
  have J:=A2 I;generalize m.files[i]=f at J;have ap:f∈m.files:=AM J;have aT:Own IR BD o s (m.files.map (·.name)):=aj.mod H λc d an=>by have:=U c d;have:=X c an;omega
  refine ai.mk λaU aV=>?_
  refine aT.view.idx (i:=i) (x:=f.name) (by simp[J]) λa bv aq=>AJ.mk aq.str ?_
  refine aE (Ef.mk (AL z.head rfl) (Oj YD Ns kY z.map ?_));have aH:=B.aO.sorted.find ap;rcases z.look f.name with⟨Z,L⟩|⟨p,aW,Z,L,ab⟩
  ·rw[aH] at L;cases L
  rw[aH] at L;have aX:p.1=f:=(Bm L).symm;rw[Z];refine⟨some ⟨p.2,0,none⟩,rfl,?_⟩;have d:=z.cells p aW;rw[aX] at d;have bw:=yw (m.files.take i) 0;have bx:(m.files.take i).length=i:=by simp;omega
  have aI:m.files.take (i+1)=m.files.take i++ [f]:=by rw[Ax,J];rfl
  have bz:=Vq ap;have bA:=B.aO.wt;refine aE (AJ.mk (AL d rfl) (ai.mk λaZ a0=>?_));have next: ∀v ac,ES v j n ac ⟨Dx ks 0 (m.files.take (i+1)),-1,false⟩->(∀ c,Gu j n ac c->Gu j n y c\/u.size<=c)->Mod (Gu j n y) u v->aU (((QC (cU 0 (m.files.take i)) f:Nat):Int),()) v:=λv ac C a1 M=>by
   refine aV _ _ (aS (m.files.length-(i+1)) _ _ (by omega) ⟨i+1,ac,?_,rfl,by omega,C,a1,M⟩);rw[Aa (by omega),aI,ANZ]
  have Q:aZ (((QC (cU 0 (m.files.take i)) f:Nat):Int),Qr ks (cU 0 (m.files.take i)) f,()) o:=a0 _ _ (by
   rw[CZ];have E:=AHh ks (m.files.take i) f;rw[<- aI] at E;unfold iI at E;refine af.intro (λe=>?_) (λe=>?_)
   ·have e: ¬Qr ks (cU 0 (m.files.take i)) f=bg:=by simpa using e
    rw[if_neg e] at E;refine aE (Ef.mk (AL r.head rfl) (ao.mk λv _ ar au a2=>?_));have C:=r.mod au (λ_ _ h=>h);have a3:TR f.name (fg t)=none:=by
     rcases r.look f.name with⟨Z,_⟩|⟨aK,_,_,a4,a5⟩
     ·exact Z
     ·exfalso;have a6:=(IE a4).2;obtain⟨a7,a8,aL⟩:=Pf a6;rw[a5] at aL;obtain⟨av,a9,ba⟩:=CC a8;have bb:av<i:=by simp at a9;omega
      have W:=List.pairwise_iff_getElem.1 B.aO.sorted av i (by omega) I bb;have bc:m.files[av]=a7:=by simpa using ba
      have bd:m.files[i]=f:=by have:=A2 I;rw[J] at this;exact(Bm this).symm
      rw[bc,bd,aL] at W;exact Lx W rfl
    have ag:(fg t).length<=i:=by have T:=r.perm.length_eq;have u:(Dx ks 0 (m.files.take i)).length<=(m.files.take i).length:=yt;simp at T ⊢;simp at T u;omega
    refine xf YD Ns C.map (by have:=B.aO.names f ap;simp[maxLen];omega) (by simp only[maxLen];omega) λbe aM ax bB=>?_
    rw[pY a3] at aM;have bC:=C.map.lt;have bf:=ax.ag ar (by have:=r.map.lt;omega);have bh:=ES.add (x:=⟨f.name,Qr ks (cU 0 (m.files.take i)) f,bg⟩) (c:=o.size) (l:=Dx ks 0 (m.files.take (i+1))) r (by rw[fg,By];exact aM) bf (A0 _) (au.mod.trans ax)
     (by rw[E];exact(On _ _).symm) (by
      have bi:Es (R7 {m with files:=m.files.take (i+1)} ks):=by refine Es.dj (m:= {m with files:=m.files.take (i+1)}) ⟨B.aO.sorted.sublist (OR _ _),λU bj=>B.aO.names U (C2 (i:=i+1) bj),B.aO.lo,B.aO.hi,?_⟩;have:=yu (i+1) m.files;show aY (m.files.take (i+1))<=8796093022208;omega
      exact bi)
    refine next be _ bh ?_ ((H.trans au.mod).trans (ax.aj λc _ d=>?_))
    ·intro c d;rcases d with d|d|⟨aK,F,rfl⟩
     ·exact .inl (.inl d)
     ·exact .inl (.inr (.inl d))
     ·rcases List.mem_append.1 F with F|F
      ·exact Y _ (.inr (.inr ⟨aK,F,rfl⟩))
      ·simp at F;subst F;exact .inr H.size
    ·exact .inr (.inl d)
   ·have e:Qr ks (cU 0 (m.files.take i)) f=bg:=by simpa using e
    rw[if_pos e,AN] at E;exact next o t (by rw[E];exact r) Y H)
  refine aE (AJ.mk (AB d rfl) ?_);rw[CZ];unfold Qr QC at Q;refine af.intro (λe=>?_) (λe=>?_)
  ·have e: ¬f.soft=bg:=by simpa using e
   rw[if_neg e,if_neg e] at Q;refine ai.mk λbk bm=>?_
   have ab: ∀x,x=(match ks[cU 0 (m.files.take i)]? with|some w=>f.bM++f.soft.extract 0 (min w.toNat f.soft.size)|none=>f.bM)->bk (x,()) o:=λx bn=>bm _ _ (by
    rw[Aa (by omega),bn];exact Q)
   refine af.intro (λay=>?_) (λay=>?_)
   ·have ag:cU 0 (m.files.take i)<ks.length:=by simpa [V.len] using ay
    have az:=A2 ag;generalize ks[cU 0 (m.files.take i)]=w at az;rw[az] at ab;have bo:=V.ext am;refine aE (AJ.mk (AB d rfl) (bo.idx az λa _ aq=>AC.mk aq.int (aE (AJ.mk (AB d rfl) ?_))));have bp:(if((if((f.soft.size:Int):Int)<w then(f.soft.size:Int) else w):Int)>0 then(if((f.soft.size:Int):Int)<w then(f.soft.size:Int) else w) else 0)=((min w.toNat f.soft.size:Nat):Int):=by split<;>split<;>omega
    rw[bp];refine⟨⟨by omega,by omega⟩,?_,?_⟩
    ·rw[max_i64,LN];omega
    ·exact ab _ rfl
   ·have ag:ks.length<=cU 0 (m.files.take i):=by simpa [V.len] using ay
    refine ab _ ?_;rw[LO ag]
  ·have e:f.soft=bg:=by simpa using e
   rw[if_pos e,if_pos e] at Q;exact Q
 ·have I:i=m.files.length:=by simp[aj.len] at e;omega
  subst I;rw[Bk] at r;refine aE (ae.dy z.head (by simp) λv ar M a2=>?_);have C:=z.hd (m':=LQ m) (by simpa [LQ] using ar) M rfl B.aO.off;refine aN j v (Gu j n t) ⟨aO,aP,C,aC⟩ ⟨n,t,r.mod M ?_,λ_=>CH⟩ (am.mod.trans (M.aj λc _ d=>(aC c).2 (.inl d))) ?_
  ·rintro c d rfl;have bD:=Ag B.head;rcases Y _ d with h|h
   ·have:=X _ h;omega
   ·have:=al.size;omega
  ·intro c d;rcases Y c d with h|h
   ·exact(X _ h).1
   ·have:=al.size;omega
theorem AOD {A:ak}{h:aa}{b:Nat}{e:Nat->Prop}{m:Bx}{d:Int}{R:A2H}(B:Bl h b e m)(n:d<=9223372036854775807)
  (o: ∀f,Bl f b e (kN m d)->Mod e h f->R (J1 #[]) f):AA A P LM #[Ak b,J6 J9 d] h R:=by
 obtain⟨p,r,B,i⟩:=B;refine ABu ?_;unfold Un;refine af.yes rfl (aE (ae.dy B.head (by simp) λt u j w=>?_));exact o t ⟨p,r,B.hd (m':=kN m d) (by simpa [kN] using u) j rfl (B.aO.fuel n),i⟩ (j.aj λc _ v=>(i c).2 (.inl v))
section
variable {A : ak} {B : bV} {g h : aa} {q : Hp} {k : Nat -> Nat} {st : Db} {m : Bx} {D : Bz} {aJ c : Nat} {R : A2H}
theorem Bt.fuel {d:aa}{f:Int}(b:Bt B g h q k st m D aJ c)(Bx:Bl d q.b q.Sb (kN m f))(i:Mod q.Sb h d):Bt B g d q (IZ k h.size q.Sb 2) st (kN m f) D aJ c:=by have n:=b.mem.boxed (j:=0) (bH:=st) Bx (i.aj λc _ e=> .inl e) (λc e=> .inl e) rfl rfl rfl rfl (.inl ⟨by decide,rfl,rfl⟩) (.inl ⟨by decide,rfl⟩);exact⟨n,b.up,b.dN,b.lim,b.wt,b.hc⟩
end
section
variable {A : ak} {B : bV} {g h : aa} {s a N sh : Nat} {l : List Hs} {mp : List Pr} {ml : List (List Pr)} {O : Nat -> Prop} {R : A2H}
theorem LW.fuel {o:Int}(t:LW B g h s a N sh l mp O)(u:o<=9223372036854775807)
  (v: ∀f,LW {B with cm:=false} g f s a N sh l mp O->Mod (bo g O) h f->R (J1 #[]) f):AA A P LM #[Ak B.bx,J6 J9 o] h R:=by
 obtain⟨q,k,st,m,D,nn,b,w,x,y,z,out⟩:=t;have j:=b.db;have n: ∀c,q.Sb c->k c=2:=j.mem.kb;rw[<- b.bx];refine AOD j.mem.box u λf C i=>?_
 have e:=j.fuel C i;have p: ∀c,IZ k h.size q.Sb 2 c≠0->k c≠0\/h.size<=c:=λc d=>by
  unfold IZ at d
  grind
 have r: ∀c,k c=0->c<h.size->IZ k h.size q.Sb 2 c=0:=λc E S=>Decidable.byContradiction λF=>by
  rcases p c F with h|h
  ·exact h E
  ·omega
 have G: ∀c,q.Sb c-> ¬O c:=λc d H=>by have:=n c d;rw[(out c H).1] at this;cases this
 have T:=i.size;refine v f ⟨q,_,st,_,D,nn,⟨⟨e.mem,e.up,e.dN,e.lim,e.wt,e.hc⟩,i.ag b.cell (λI=>by have:=n s I;rw[b.kz] at this;cases this),r s b.kz b.lt,b.base,(λh=>by cases h),b.cw,b.bx,b.dc⟩,w,x,y.step i (λc d=> .inl (by rw[n c d];decide)) p,z,λc d=>?_⟩ (i.aj λc _ d=>⟨(j.mem.own c (by rw[n c d];decide)).1,G c d⟩);obtain⟨J,K,L,M,Q⟩:=out c d;exact⟨r c J K,by omega,L,M,Q⟩
theorem LW.dn(f:LW B g h s a N sh l mp O):fS B g h a [mp] O:=by obtain⟨q,k,st,m,D,nn,e,j,rfl,n,o,out⟩:=f;have b:=e.db;exact⟨k,m,⟨⟨q.Sb,by rw[<- e.bx];exact b.mem.box,λc d=>by rw[b.mem.kb c d];decide⟩,λG i=>⟨_,by simp,b.dN.jH b.lim G i⟩,b.wt,b.hc,b.mem.own,b.mem.ext,e.dc⟩,λc d=>⟨(out c d).1,(out c d).2.1,(out c d).2.2.1⟩⟩
theorem fS.on {e:aa}(L:fS B g h a ml O)(x:Ext h e):fS B g e a ml O:=by obtain⟨k,m,b,out⟩:=L;obtain⟨f,i,j⟩:=b.box;have:=x.size;exact⟨k,m,⟨⟨f,i.ext x,j⟩,b.tells,b.wt,b.hc,λc d=>by have:=b.own c d;omega,b.ext.trans x,b.dc⟩,λc d=>by have:=out c d;omega⟩
theorem fS.put {d:Nat}(L:fS B g h a ml O)(f:a<=d)(e:64*d<=B.C):fS B g h d ml O:=by obtain⟨k,m,b,out⟩:=L;refine⟨k,m,⟨b.box,λG i=>?_,As b.wt (Hi (AK _ (by omega)) _),e,b.own,b.ext,b.dc⟩,out⟩;obtain⟨mp,f,e⟩:=b.tells G i;exact⟨mp,f,e.mono (by omega) (by omega)⟩
theorem fS.dj {aw:Sl}{ks:List Int}(J:cu g)(L:fS B g h a ml O)(V:View GV h aw ks)(hA:4+3*a<=B.A)(am:64*a+64<=B.C)
  (K: ∀v b z o,o∈ml->Sorted o->(∀ f e,B.zf f=some (e,bg)->e≠bg-> ¬cz f->z f=some (e,bg))->Mod (bo g O) h v->
   (∀ (j:aa) (p:Nat->Prop) (w:A2H),Mod p v j->(∀ c,p c->O c)->(∀ r s,LW {B with bx:=b,zf:=z,cm:=true} g r s (a+1) 0 1 [] o O->Mod (λc=>j.size<=c\/h.size<=c) j r->w (J1 #[Ak s,J6 J9 0]) r)->AA A P Kh #[Ak b] j w)->R (Ak b) v):
  AA A P KR #[Ak B.bx,J4 aw.p aw.len aw.cap] h R:=by
 obtain⟨k,m,e,out⟩:=L;obtain⟨an,Bx,y⟩:=e.box;have ao:=e.ext.size;refine ANh (aw:=aw) (ks:=ks) Bx V λb j M _ Q C t=>?_
 have G:=AN4 Bx.aO ks;obtain⟨o,S,H⟩:=e.tells _ G;have T:Ext g j:=e.ext.then (C.aj λc _ d=> .inr (e.own c (y c d)).1);refine K j b (λf=>ff (R7 m ks) f) o S (by obtain⟨D,-,-,rfl⟩:=H;exact Ed _ _) (λf u U hd W=>?_) (C.aj λc _ d=>⟨(e.own c (y c d)).1,λX=>y c d (out c X).1⟩) λr p w E hX Y=>?_
 ·have c1:=G f;rw[e.dc f W,U] at c1;obtain⟨F,c1⟩:=c1;rw[show(u,bg).2.extract 0 F=bg from ALc F,show(u,bg).1++bg=u from OY u] at c1;exact c1.trans (if_neg hd)
 ·have ap:=C.size;have aq:=E.size;have Z: ∀c,M c-> ¬p c:=λc d n=>by have:=t c d;have:=(out c (hX c n)).2.1;omega
  refine AKf (B:= {B with bx:=b,zf:=λf=>ff (R7 m ks) f,cm:=true}) J (Q.mod E Z) (T.then (E.aj λc _ d=> .inr (out c (hX c d)).2.2)) (λc d=>by have:=t c d;omega) rfl rfl H e.hc (by show 1+3*a+1<=B.A;omega) (As AOg e.wt) rfl (λf _=>rfl) λab s ac ae af ag D3 ar ah ai I aj au=>Y ab s ⟨ac,ae,af,ag,D3,0,ah.put (by omega) (by omega) (by show 64*(a+1)<=B.C;omega),by omega,ai,⟨λi x n=>by simp at n,λi F x f n=>by simp at n⟩,by omega,λc d=>?_⟩ (I.aj λc _ d=>d.elim (λh=> .inr (t c h)) .inl)
  obtain⟨av,ax,ak⟩:=out c d;have ay:=I.size;refine⟨Decidable.byContradiction λal=>?_,by omega,ak,by omega,λx n=>by cases n⟩;rcases aj c al with h|h
  ·have:=t c h;omega
  ·omega
end
section
variable {A : ak} {h : aa} {s sh : Nat} {y : Hs} {R : A2H}
theorem hU.on {b:aa}(L:hU h s sh y)(x:Ext h b):hU b s sh y:=by obtain⟨c,d,e,f,i,j⟩:=L;exact⟨c,d,e.mod x λh=>h,Ap x f,Ap x i,j⟩
theorem hU.head {wid:A2I}(L:hU h s sh y)(d:Aj wid=true)(j: ∀e,Ext h e->R (J1 #[bZ.z.v,J6 J9 30]) e):AA A P Im #[Ak y.p,J7 wid] h R:=by
 have u:=Ep d;refine Ov ?_;unfold MX;refine ao.mk λv _ l f w=>ai.mk λK b=>af.no rfl (EO ⟨_,rfl,b _ _ ?_⟩)
 obtain⟨x,z,m,n,i,o,p⟩:=L.on f;rw[d];refine af.no rfl (NP ?_);unfold Jv;refine af.no rfl (aE (AC.mk (AB i rfl) ⟨_,rfl,Ob (by omega) o p ⟨_,_,rfl,af.no rfl (Nn ?_)⟩⟩));unfold Ki;refine af.no rfl (aE (AY.mk (AL i rfl) ⟨_,rfl,P6 (by omega) ⟨_,rfl,Qo ?_⟩⟩));unfold Nb;refine af.no rfl (aE (AY.mk (AL n rfl) (Wt ?_)));unfold Rq;exact ai.mk λK b=>AQu m (b _ _ (af.yes rfl ⟨_,_,_,rfl,⟨_,_,_,rfl,af.yes rfl (VF l λq r=>j q (f.more r λc t=>by subst t;exact A0 _))⟩⟩))
theorem hU.move {l:Q2}{m n:A2I}{o:Bool}(L:hU h s sh y)(p: ∀f,Ext h f->R (J1 #[J3 false,J6 J9 30]) f):AA A P GG #[Ak y.p,J5 l,J7 wW,.agg #[J7 m,J7 n,J3 o]] h R:=by
 refine TQ ?_;unfold PM;refine ao.mk λI _ J b K=>O8 ?_
 unfold Ma;refine ao.mk λM _ q d Q=>(L.on (b.trans d)).head (by decide) λr t=>O9.mk _ ⟨_,rfl,ao.mk λS _ u v T=>aW.mk u (A0 18) λw U x V=>af.yes rfl ?_⟩
 have z:Ext r w:=v.more x λc e=>by subst e;exact A0 _
 have i:=t.trans z;have W:=d.size;refine VF (i.ag q λh=>h) λC D=>O9.mk _ ⟨_,rfl,ao.mk λX _ E F Y=>aW.mk E (A0 18) λG Z H aa=>af.yes rfl (p G ?_)⟩
 have j:Ext h C:=(b.trans (d.trans i)).more D λc e=>by have:=b.size;omega
 exact(j.trans F).more H λc e=>by have:=j.size;omega
end
def Good(z:A2I->Option (A2I×A2I))(y:Hs)(ev:List Ev)(num:Nat)(fl:cI)(an:cP)(mp:List Pr):Prop:=
 ∃k kept tm,eL mp y ev num k kept tm/\(tm= [eJ num]\/tm= []/\kept=true)/\(kept=false->k=0/\JU mp fl an)/\(kept=true->z (zn wW)=some (bP ev,bg))
structure Alike (B B':bV):Prop where
 bx:B'.bx=B.bx
 A:B'.A=B.A
 C:B'.C=B.C
 W0:B'.W0=B.W0
 cm:B'.cm=B.cm
section
variable {A : ak} {B : bV} {g h : aa} {s a N : Nat} {mp : List Pr} {O : Nat -> Prop} {k num ab : Nat} {y : Hs} {R : A2H} {ev : List Ev} {kept : Bool} {tm : List Pr} {fl : cI} {an : cP}
theorem ASp(X:cu g)(t:LW B g h s a N 1 [y] mp O)(e:IJ ev)(Y:(Ai ev).status≠0)(E:L8 wW ev=0/\ ∀j∈ev,j.data.size<=4194304)(Z:fl wW=some ev)(M:eL mp y ev num k kept tm)(l:tm= [eJ num]\/tm= []/\kept=true)(u:kept=false->k=0/\JU mp fl an)(v:kept=true->B.zf (zn wW)=some (bP ev,bg))(aa:y.f 0<=2147483647)
  (Q:h[ab]? =some (J2 #[Ak B.bx] Cn (0,0))) (ac:O ab) (hA:7+3*a<=B.A) (ar:64*a+128<=B.C) (au:a+2<=1000000) (av:B.W0+(4+3*a)*B.K+2000000<1099511627776)
  (ae: ∀d B' a' S,LW B' g d s a' N 1 [y] S O->Alike B B'->a'<=a+2->eL S y ev num (k+40) true (if ev.length<=k+40 then [] else [eJ num])->B'.zf (zn wW)=some (bP ev,bg)->tm= [eJ num]->Mod (bo g O) h d->R (J1 #[J3 (decide (ev.length<=k+40)),J6 J9 0]) d)
  (F: ∀d B' a' U o j,fS B' g d a' U O->(∀ x∈U,Good B'.zf y ev num fl an x)->Alike B B'->a'<=a+2->(j=30\/j=100\/j=0/\hU d s 1 y)->Mod (bo g O) h d->R (J1 #[J3 o,J6 J9 j]) d):
  AA A P GG #[Ak y.p,Ak ab,J7 wW,.agg #[J7 (CF 0 27 num),J7 (MU ⟨7,0,0⟩ wW),J3 false]] h R:=by
 have G:=t.sorted;have af:=e.len;have aO:Good B.zf y ev num fl an mp:=⟨k,kept,tm,M,l,u,v⟩;obtain⟨B',w⟩: ∃B':bV,B'=if kept then B else {B with zf:=km B.zf wW ev}:=⟨_,rfl⟩;obtain⟨a',H⟩: ∃a':Nat,a'=if kept then a else a+1:=⟨_,rfl⟩;have p:Alike B B':=by subst w;cases kept<;>exact⟨rfl,rfl,rfl,rfl,rfl⟩
 have aw:a'<=a+1:=by rw[H];split<;>omega
 have zf:B'.zf (zn wW)=some (bP ev,bg):=by
  subst w;cases kept with
  |true=>exact v rfl
  |false=>show km B.zf wW ev (zn wW)=_;exact if_pos rfl
 have V:Good B'.zf y ev num fl an mp:=⟨k,kept,tm,M,l,u,λ_=>zf⟩;have ax:=p.A;have ay:=p.C;refine ARi (B':=B') (a':=a') (i:=0) (ab:=ab) (kept:=kept) (Kd:=λd=> ∃z,fS {B with zf:=z} g d (a+1) [mp] O/\kept=false) X t rfl e Y M aa (by omega) (by omega) (by omega)
  (λaz ag q C=>by
   cases kept with
   |false=>exact qp (i:=0) (t.on q) rfl (u rfl).2 (by decide) Z λd D a b c I J _ _ ah=>C d D a b c I J λ_=>ah
   |true=>
    refine uJ (i:=0) (t.on q) rfl (q.ag Q λh=>h) (by decide) ⟨e,E,v rfl,M.eQ⟩ ?_ λd D a b c I J=>C d D a b c I J λh=>by cases h
    have:(1+3*a)*B.K<=(4+3*a)*B.K:=AK _ (by omega);omega)
  (λv D aA ag ai q aj W v1 ak C al=>by
   subst ai w H;refine LW.aw (T:=Cn) aj (q.ag Q λh=>h) (W ab ac) v1 ak E.1 E.2 af (by omega) (by omega) ?_ (λK d z r f=>al d ⟨z,?_,rfl⟩ f) C
   ·have:(1+3*a)*B.K<=(4+3*a)*B.K:=AK _ (by omega);omega
   ·obtain⟨k,m,o,am⟩:=r;exact⟨k,m,o,λc K=>am c (W c K)⟩)
  (λh=>by subst h;exact⟨w,H⟩) (λd ao f=>?_) (λhd d o L f=>?_) (λK hd d j r ap f=>?_) λhd d L f=>?_
 ·obtain⟨z,r,rfl⟩:=ao;exact F d {B with zf:=z} (a+1) [mp] false 30 r (λx n=>by rw[List.mem_singleton.1 n];exact⟨k,false,tm,M,l,u,λh=>by cases h⟩) ⟨rfl,rfl,rfl,rfl,rfl⟩ (by omega) (.inl rfl) f
 ·refine F d B' a' [mp] o _ L.dn (λx n=>by rw[List.mem_singleton.1 n];exact V) p (by omega) (.inr (.inl ?_)) f;rcases l with rfl|⟨rfl,-⟩
  ·exact absurd (M.part G e).1 hd
  ·exact M.last e
 ·rcases l with rfl|⟨rfl,-⟩
  ·refine F d B' (a'+1) _ _ j r (λx n=>?_) p (by omega) (ap.imp id .inr) f;simp only[Hb,Lz,or_false] at n;rcases n with rfl|rfl
   ·exact V
   ·refine⟨k+40,true,_,(M.part G e).2.2,?_,(λh=>by cases h),λ_=>zf⟩;split
    ·exact .inr ⟨rfl,rfl⟩
    ·exact .inl rfl
  ·exact absurd (M.last e) (by rw[hd];decide)
 ·rcases l with rfl|⟨rfl,-⟩
  ·obtain⟨-,dl,aq⟩:=M.part G e;rw[dl];exact ae d B' (a'+1) _ L p (by omega) aq zf rfl f
  ·exact absurd (M.last e) (by rw[hd];decide)
end
theorem Alike.trans {B c d:bV}(h:Alike B c)(b:Alike c d):Alike B d:=⟨b.bx.trans h.bx,b.A.trans h.A,b.C.trans h.C,b.W0.trans h.W0,b.cm.trans h.cm⟩
def Down(B:bV)(g h:aa)(y:Hs)(ev:List Ev)(num:Nat)(fl:cI)(an:cP)(O:Nat->Prop)(a:Nat):Prop:= ∃b c,fS b g h a c O/\(∀ x∈c,Good b.zf y ev num fl an x)/\Alike B b
def Way(B:bV)(g h:aa)(s N:Nat)(y:Hs)(ev:List Ev)(num:Nat)(fl:cI)(an:cP)(O:Nat->Prop)(a j:Nat):Prop:=
 (∃ d f mp b c e,LW d g h s f N 1 [y] mp O/\Alike B d/\f<=a+2*j/\eL mp y ev num b c e/\(e= [eJ num]\/e= []/\c=true)/\(c=false->b=0/\JU mp fl an)/\(c=true->d.zf (zn wW)=some (bP ev,bg))/\(0<j->40*j<=b/\b<ev.length))\/
 (hU h s 1 y/\Down B g h y ev num fl an O (a+12)/\j<=4)
section
variable {A : ak} {B : bV} {g h : aa} {s a N j : Nat} {mp : List Pr} {O : Nat -> Prop} {num ab xb : Nat} {y : Hs} {R : A2H} {ev : List Ev} {fl : cI} {an : cP} {z : A2I -> Option (A2I × A2I)}
theorem Way.move(F:cu g)(m:Way B g h s N y ev num fl an O a j)(G:IJ ev)(H:(Ai ev).status≠0)(ah:ev.length<=130)(I:L8 wW ev=0/\ ∀c∈ev,c.data.size<=4194304)(J:fl wW=some ev)(K:y.f 0<=2147483647)
  (Q:h[ab]? =some (J2 #[Ak B.bx] Cn (0,0))) (S:O ab) (hA:B.A=1600) (T:B.C=32000) (U:B.W0=0) (ai:a<=400)
  (n: ∀b e c,Mod (bo g O) h b->(c=0/\e=false/\j<=4/\Way B g b s N y ev num fl an O a (j+1)\/(c=30\/c=100\/c=0/\e=true)/\Down B g b y ev num fl an O (a+12))->R (J1 #[J3 e,J6 J9 c]) b):
  AA A P GG #[Ak y.p,Ak ab,J7 wW,.agg #[J7 (CF 0 27 num),J7 (MU ⟨7,0,0⟩ wW),J3 false]] h R:=by
 rcases m with⟨o,aj,mp,p,ak,al,m,d,am,M,V,W,X,u⟩|⟨L,Y,u⟩
 ·have ao:j<=3:=by omega
  have ap:=d.A.trans hA;have Z:=d.C.trans T;have aa:o.K=650000000:=by unfold bV.K;rw[Z];rfl
  refine ASp F m G H I J M V W X K (by rw[d.bx];exact Q) S (by omega) (by omega) (by omega) (by rw[aa,d.W0,U];show _<1099511627776;omega) (λb i v w C f ac k D _ q=>?_) λb i v r e c ae t f ac af q=>?_
  ·refine n b _ 0 q ?_;by_cases l:ev.length<=p+40
   ·rw[if_pos l] at k;refine .inr ⟨.inr (.inr ⟨rfl,decide_eq_true l⟩),i,[w],C.dn.put (by omega) ?_,λx ag=>?_,d.trans f⟩
    ·have:=f.C;omega
    ·rw[List.mem_singleton.1 ag];exact⟨p+40,true,[],k,.inr ⟨rfl,rfl⟩,(λh=>by cases h),λ_=>D⟩
   ·rw[if_neg l] at k;refine .inl ⟨rfl,decide_eq_false l,by omega,.inl ⟨i,v,w,p+40,true,_,C,d.trans f,by omega,k,.inl rfl,(λh=>by cases h),λ_=>D,λ_=>⟨?_,by omega⟩⟩⟩;by_cases h:0<j
    ·have:=u h;omega
    ·omega
  ·have D3:Down B g b y ev num fl an O (a+12):=⟨i,r,ae.put (by omega) (by have:=f.C;omega),t,d.trans f⟩;refine n b e c q ?_;rcases af with rfl|rfl|⟨rfl,L⟩
   ·exact .inr ⟨.inl rfl,D3⟩
   ·exact .inr ⟨.inr (.inl rfl),D3⟩
   ·cases e with
    |true=>exact .inr ⟨.inr (.inr ⟨rfl,rfl⟩),D3⟩
    |false=>exact .inl ⟨rfl,rfl,by omega,.inr ⟨L,D3,by omega⟩⟩
 ·refine L.move λb E=>n b false 30 E.mod (.inr ⟨.inl rfl,?_⟩)
  obtain⟨o,r,e,t,d⟩:=Y;exact⟨o,r,e.on E,t,d⟩
theorem eL.fC {y':Hs}{e d:Nat}{f:Bool}{i:List Pr}(M:eL mp y ev num e f i)(s:Sorted mp)(l:d+1<=2147483647)(k:y'.f 0=d+1)(m:y'.name=LP):eL (cj mp [⟨Bd 0,Hy (d+1) LP,false⟩]) y' ev num e f i:=by
 have hd: ∀p∈ [(⟨Bd 0,Hy (d+1) LP,false⟩:Pr)],BC p.key=108:=λp c=>by rw[List.mem_singleton.1 c];exact ML 0
 refine⟨?_,?_,⟨by rw[k];omega,?_⟩,?_⟩
 ·rw[Mi s,dp (P:=GQ wW) (b:= [_]) λp c=>qG (by rw[hd p c];decide)];exact M.rows
 ·rw[Mi s,YC (b:= [_]) λp c=>by rw[hd p c];decide];exact M.tm
 ·rw[k,m];exact(ET.laid s (by omega) l (by decide)).holds (by omega)
 ·rw[Jw s λp c n=>?_]
  ·exact M.eQ
  ·have:=hd p c;rw[n,Dh] at this;cases this
theorem Good.fC {y':Hs}{b:Nat}(G:Good z y ev num fl an mp)(s:Sorted mp)(d:b+1<=2147483647)(e:y'.f 0=b+1)(f:y'.name=LP):Good z y' ev num fl an (cj mp [⟨Bd 0,Hy (b+1) LP,false⟩]):=by obtain⟨i,k,l,M,m,c,n⟩:=G;refine⟨i,k,l,M.fC s d e f,m,λh=>⟨(c h).1,(c h).2.aw s λp o=>?_⟩,n⟩;rw[List.mem_singleton.1 o];show BC (Bd 0)≠104/\BC (Bd 0)≠119/\BC (Bd 0)≠114;rw[ML];decide
theorem Good.is(G:Good z y ev num fl an mp)(b:y.name=LP)(c:1<=y.f 0)(d:y.f 0<=2147483647):ET mp 0 (y.f 0) LP:=by obtain⟨e,f,i,M,k,l,c⟩:=G;refine ET.gP (by omega) d (by decide) ?_;rw[<- b];exact M.ow.2
theorem Good.read(G:Good B.zf y ev num fl an mp)(l:LW B g h s a N 1 [y] mp O)(f:IJ ev)(n:L8 wW ev=0/\ ∀o∈ev,o.data.size<=4194304)(p:fl wW=some ev)(q:h[xb]? =some (J2 (kq B.bx s y.p ab) Cz (0,0)))
  (r:h[ab]? =some (J2 #[Ak B.bx] Cn (0,0))) (t:B.W0+(1+3*a)*B.K+2000000<1099511627776)
  (u: ∀d sl,Ext h d->View ct d sl ev->R (J1 #[J4 sl.p sl.len sl.cap,J3 true]) d):AA A P EL #[Ak xb] h R:=by
 obtain⟨J,w,K,M,L,C,D⟩:=G;refine YW (ev:=ev) (st:=(Ai ev).status) (nx:=(Ai ev).next) q f.len (λQ S E k m e=>?_) λd sl x v _=>u d sl x v
 cases w with
 |false=>exact uG (i:=0) (l.on k) rfl (C rfl).2 (by decide) p m e
 |true=>exact uF f m (λT E x e=>uJ (i:=0) (l.on (k.trans x)) rfl ((k.trans x).ag r λh=>h) (by decide) ⟨f,n,D rfl,M.eQ⟩ t λd F a b c H I=>e d F a b c H I) e
end
theorem AQ7 {e:ak}{a:aa}{b:Nat}{d:A2H}(f: ∀c,c[a.size]? =some (J2 #[Ak b] Cn (0,0))->Ext a c->c.size=a.size+1->d (Ak a.size) c):AA e P Me #[Ak b] a d:=by refine UZ ?_;unfold QX;exact ao.mk λg _ h x i=>f g h x i
abbrev sW:A2I:=⟨#[119]⟩
abbrev sX:A2I:=⟨#[120]⟩
theorem AT9:Aj sW=true:=by decide
theorem ATV:Aj sX=true:=by decide
theorem wx: ¬(zn sX=zn sW):=λa=>by have:=ASX a;revert this;decide
theorem AKD {K:ak}{e:aa}{t:A2H}(L: ∀j,Ext e j->t (J3 true) j):AA K P KA #[] e t:=by
 refine UH ?_;unfold Nr;refine qa λb u v w y M=>⟨_,rfl,?_⟩
 refine AQ7 λk N z aE=>⟨_,rfl,?_⟩
 refine ao.mk λA _ O m aF=>?_
 have Q:=(w.ext z).ext m;have B:=m.ag N (λe=>e);have f: ∀c,v c->c<u.size:=λc d=>w.lt d
 have n:Own ct Ao A ⟨some ⟨k.size,0,none⟩,1,1⟩ [gF 2 2]:=Own.lit (E:=ct) (l:= [gF 2 2]) O rfl (by simp[maxLen]);have C:L8 sW [gF 2 2]=0:=AKl AT9 (by simp) (by simp[(ASZ (id:=2) ⟨by decide,by decide⟩).1]) (by simp[gF];rfl);have hd: ∀g∈ [gF 2 2],g.data.size<=4194304:=λg R=>by
  obtain rfl:=List.mem_singleton.1 R;exact A5 _
 have aG:=y.size;refine yW (s:=⟨some ⟨k.size,0,none⟩,1,1⟩) (l:= [gF 2 2]) B Q rfl (λd=>by have:=f _ d;omega) (by simp[iq,aY]) (by decide) n.view
  (λj S=>n.view.mod S λc d=>by simp[Sl.ag] at d;subst d;exact λd=>by have:=f _ d;omega) (by simp) hd (λT=>absurd C T) (λe=>absurd rfl e) λ_ D aH o F G p aI H aJ=>⟨_,rfl,?_⟩
 have U: ¬v u.size:=λd=>by have:=f _ d;omega
 have I:=p.ag B U;have V:View ct D ⟨some ⟨k.size,0,none⟩,1,1⟩ [gF 2 2]:=n.view.mod p λc d W=>by simp[Sl.ag] at d;subst d;have:=f _ W;omega
 have X:Ext e A:=(y.trans z).trans m;have Y:Ext e D:=X.more p λc d=>M c d
 have aK:aY iq.files=0:=rfl;have Z:WP o sW=(0,[gF 2 2]):=sv G.up C hd (by rw[H,if_pos rfl]);refine Sv I F (by omega) (by decide) λaL J h q aM=>⟨J,_,rfl,?_⟩
 rw[Z] at q ⊢;have ab:=h.ag I (λe=>e);have ac:WP o sX=(31,[]):=by
  have:FN o (zn sX)=(bg,31):=by rw[Yd G.up,H,if_neg wx];rfl
  unfold WP;rw[if_pos ATV,this];rfl
 refine Sv ab (F.ext h) (by omega) (by decide) λae ag r ah aN=>⟨ag,_,rfl,?_⟩
 rw[ac] at ah ⊢;refine af.yes rfl (af.yes rfl (af.yes rfl ?_));have ai:J.len=1:=by rw[q.len];rfl
 refine af.yes (by rw[ai];rfl) ?_;refine(q.ext r).idx (i:=0) (x:=gF 2 2) rfl λa _ c1=>?_
 obtain⟨aj,al,am,an,ap,aq,ar,au⟩:=kO c1;refine AC.mk aj (AC.mk al (AC.mk am (AC.mk an (AC.mk ap (AC.mk aq (AZ.mk ar (AJ.mk au ?_)))))));refine((V.ext h).ext r).idx (i:=0) (x:=gF 2 2) rfl λaO _ c2=>?_
 obtain⟨av,aw,ax,ay,az,aA,aC,aD⟩:=kO c2;refine AC.mk av (AC.mk aw (AC.mk ax (AC.mk ay (AC.mk az (AC.mk aA (AZ.mk aC (AJ.mk aD ?_)))))));refine AUF ⟨_,rfl,?_⟩;refine af.yes (decide_eq_true rfl) ?_;refine T9 (by decide) ⟨_,rfl,?_⟩;have g:bU (zn ⟨#[119,49]⟩) (⟨#[122,119,49]⟩:A2I)=true:=by rw[CZ];decide
 rw[g];exact L ae ((Y.trans h).trans r)
theorem APu {x:Int}{n:Nat}(c:0<n)(e:n<=1000): ∃b:Nat,b<n/\(J8 J9 ((x.tmod ((n:Nat):Int))+((n:Nat):Int))).tmod ((n:Nat):Int)=(b:Int):=by have f:x.tmod (n:Int)<n:=Int.tmod_lt_of_pos x (by omega);have g: -(n:Int)<x.tmod n:=Int.lt_tmod_of_pos _ (by omega);rw[wrap_i64 (by omega) (by omega)];obtain⟨a,d⟩: ∃a:Nat,x.tmod (n:Int)+n=(a:Int):=⟨(x.tmod (n:Int)+n).toNat,by omega⟩;rw[d,<-LI];exact⟨a % n,Cp _ c,rfl⟩
theorem AQA {c:List Pr}{a:UInt8}{b:List UInt8}(s:Sorted c)(h: ∀b,BC b≠108->Ab b c=none)(d:a≠108):Ea (AX (a::b)) c= []:=by
 refine List.filter_eq_nil_iff.2 λp e f=>?_
 have:=h p.key (by rw[ur f];exact d);rw[s.find e] at this;cases this
section
variable {A : ak} {h : aa} {R : A2H}
end
structure oT where
 fuel:Int
 aw:Sl
def mT:cL oT where
 enc x:= [J6 J9 x.fuel,J4 x.aw.p x.aw.len x.aw.cap]
 w:=2
 len _:=rfl
 pos:=by omega
 one x v a:=by simp at a;rcases a with rfl|rfl<;>rfl
theorem ASe {h:aa}{a:Q6}{x:oT}(c:Cells h a (mT.enc x)):ah h a=some (J6 J9 x.fuel)/\ah h (a.add 1)=some (J4 x.aw.p x.aw.len x.aw.cap):=by have b:=c 0 _ rfl;rw[add_zero] at b;exact⟨b,c 1 _ rfl⟩
section
variable {A : ak} {h : aa} {R : A2H}
theorem Zn {signals:Int}{bK:Sl}{cs:List oT}(Y:cu h)(v:View mT h bK cs)(b: ∀x∈cs,x.fuel<=9223372036854775807/\ ∃aV,View GV h x.aw aV)(aW: ∀aj,Ext h aj->R (J3 true) aj):AA A P IW #[J6 J9 signals,J4 bK.p bK.len bK.cap] h R:=by
 refine NE ?_;unfold Ic;refine AKD λu aA=>⟨_,rfl,af.no rfl ?_⟩
 rw[v.len];refine af.intro (λq=>aW u aA) (λq=>?_);have c3:cs.length<=8:=by have:=of_decide_eq_false q;omega
 refine ao.mk λaX _ bH bI aY=>qa λt c4 Sb bJ aZ a0=>⟨_,rfl,?_⟩
 have c5:=aA.size;generalize c6:u.size=g at*
 refine(λ(j: ∀ [Zc],Zc.bx=t->Zc.zf=(λ_=>none)-> ?_)=> @j ⟨t,λ_=>none⟩ rfl rfl) ?_;intro c7 aC bL;refine AHO Y bJ (aA.trans (bI.trans aZ)) (λc b=>by have:=a0 c b;omega) (aZ.ag bH λh=>h) (by omega) (λb=>by have:=a0 g b;omega) aC bL λbM s e f H a1 a2 bN a3 a4 bO=>⟨_,rfl,af.no rfl ?_⟩
 have bQ:=a1.w.sorted;have bR:dK h bM s 1 e H (λ_=>none) (λ_=>none) (λd=>d=g\/d=f) g t f e.p:=⟨a1,rfl,bN,(a2.has 0 (by decide)).1,a2.owns (by decide),.inl rfl,a3⟩;obtain⟨E,c8,a5⟩:=APu (x:=signals) (n:=90) (by decide) (by decide);rw[show((90:Nat):Int)=90 from rfl] at a5;have c9:=Ag a4;have da:=Ag a3;rw[a5];refine AEn Y bR (by omega) (by decide) rfl rfl ⟨rfl,λ_ _ _=>rfl⟩ (AQA bQ bO (by decide)) λbS J ak al L O ev y am db a6 Z a7 bT=>⟨_,_,_,_,rfl,?_⟩
 have bU:=bo.aw a6 a4 (.inr rfl);refine ao.pair λan a8 dc a9 aD dd=>?_
 have bW:=Ag am.cx;have k:dK h a8 s J ak al L O (λd=>(d=g\/d=f)\/d=an) g t f e.p:=am.own aD.mod (λc b=>b.imp id λh=>by omega) (aD.get g bW λh=>h) (.inl (.inl rfl));have ap:=am.w.m;have Q:=ap.cZ wW ev Z;have bX:=Q.len;have bY:(Ai ev).status=4:=by rw[a7];rfl
 have bZ:ev.length<=130:=by have:=Q.next.1;rw[a7] at this;have:4+(E:Int)=ev.length+1:=this;omega
 have aE:=AKc (w:=wW) (by decide) Q (by omega);refine YW (ev:=ev) (st:=(Ai ev).status) (nx:=(Ai ev).next) k.cx bX (λj n ba b0 b1 aF=>by
  rw[<- k.hp];exact uG (i:=0) (k.w.w.on b0) rfl ap (by decide) Z b1 λaj b2 b3 b4 b5=>aF aj b2 b3 b4 b5) λaq sl aa bb b6=>⟨_,_,rfl,?_⟩
 refine ai.mk λK b7=>af.no rfl (b7 _ _ (af.no rfl ?_))
 obtain⟨l,ab⟩: ∃l:Nat->Prop,l=λd=>d=an\/(a8.size<=d/\d<aq.size):=⟨_,rfl⟩
 have de:=aa.size;have df:=Ag a9;have aG: ∀c,l c->bS.size<=c/\c<aq.size:=λc b=>by rw[ab] at b;rcases b with rfl|h<;>omega
 have ac:l an:=by rw[ab];exact .inl rfl
 have ar: ∀c,sl.ag=some c->l c:=λc b=>by rw[ab];exact .inr ⟨b6 c b,bb.kV Q.ne b⟩
 have dg:=am.w.w.ext.size;have dh:=a6.size;have b8:LW iE h aq s J (3*J) 1 [ak] al (λd=>(d=g\/l d)\/d=f):=k.w.w.own aa.mod λc b=>by
  rw[ab] at b;rcases b with(rfl|rfl|h)|rfl
  ·exact .inl (.inl (.inl rfl))
  ·exact .inl (.inr rfl)
  ·exact .inr h
  ·exact .inl (.inl (.inr rfl))
 have bc:=aa.ag k.cx λh=>h
 have b9:=aa.ag a9 λh=>h
 have ca:=aa.ag (aD.ag bU λh=>h) λh=>h
 rw[<- k.hp] at bc;have cb:Good iE.zf ak ev y L O al:=⟨0,false,_,eL.first k.w.w.sorted ap Z k.ow bT,.inl rfl,λ_=>⟨rfl,ap⟩,λh=>by cases h⟩;clear ab;refine Loop.rule (λm x j=> ∃(i:Nat) (B:bV) (a N s:Nat) (e:Hs) (f:Nat) (H:List Pr),x=((i:Int),())/\m=cs.length-i/\i<=cs.length/\LW B h j s a N 1 [e] H (λd=>(d=g\/l d)\/d=f)/\j[g]? =some (J2 (kq B.bx s e.p f) Cz (0,0))/\j[f]? =some (J2 #[Ak B.bx] Cn (0,0))/\
   j[an]? =some (J2 #[J7 (eJ y).key,J7 (eJ y).val,J3 false] AQ (0,0))/\View ct j sl ev/\Good B.zf e ev y L O H/\e.name=LP/\1<=e.f 0/\e.f 0<=i+1/\(B.A=1600/\B.C=32000/\B.W0=0)/\B.cm=true/\a<=J+14*i/\aq.size<=j.size) ?_
  ⟨0,iE,J,3*J,s,ak,f,al,rfl,rfl,A5 _,b8,by rw[show iE.bx=t from aC];exact bc,by rw[show iE.bx=t from aC];exact ca,b9,bb,cb,k.nm,by rw[k.f1];decide,by rw[k.f1];decide,⟨rfl,rfl,rfl⟩,rfl,by omega,A0 _⟩
 rintro di m _ j ⟨i,B,a,N,s,e,f,H,rfl,rfl,dj,au,bd,be,bf,cc,G,cd,ce,dk,hB,dl,dm,aH⟩ cf;dsimp only;refine af.intro (λq=>?_) (λq=>aW j au.ext);have aI:i<cs.length:=by have:=of_decide_eq_true q;omega
 have ah:cs[i]? =some cs[i]:=A2 aI;obtain⟨dp,aV,cg⟩:=b cs[i] (AS aI);generalize cs[i]=bh at*
 rw[<- v.len];refine(v.ext au.ext).idx ah λdq _ aJ=>?_
 obtain⟨aJ,c1⟩:=ASe aJ;refine AC.mk aJ (Ad.mk (s:=bh.aw) c1 (ao.lX λaK ch dr bi S ds=>?_));have dt:=Ag bd;have du:=Ag be;have dv:=Ag bf;have ci:LW B h ch s a N 1 [e] H (λd=>((d=g\/l d)\/d=f)\/d=aK):=au.own S.mod λc b=>b.imp id λh=>by omega
 have bj:=S.ag bd λh=>h
 refine AY.mk (AL bj rfl) (AC.mk (AL bi rfl) ?_);refine ci.fuel (by split<;>omega) λaL bk T=>⟨rfl,?_⟩
 have bm:=bo.aw T bj (.inl (.inl (.inl rfl)));have cj:=bo.aw T (S.ag be λh=>h) (.inl (.inr rfl));have bn:=bo.aw T (S.ag bf λh=>h) (.inl (.inl (.inr ac)));have ck:=bo.aw T bi (.inr rfl);have cl:View ct aL sl ev:=(cc.ext S).mod T λc b C=>C.2 (.inl (.inl (.inr (ar c b))))
 have dw:=T.size;have dx:=S.size;obtain⟨D,U⟩: ∃D:Nat->Prop,D=λd=>((d=g\/l d)\/d=f)\/d=aK:=⟨_,rfl⟩
 rw[<- U] at bk;have ae:D g:=by rw[U];exact .inl (.inl (.inl rfl))
 have bp:D f:=by rw[U];exact .inl (.inr rfl)
 have V: ∀c,l c->D c:=λc b=>by rw[U];exact .inl (.inl (.inr b))
 have cn:D aK:=by rw[U];exact .inr rfl
 have aM:Way {B with cm:=false} h aL s N e ev y L O D a 0:=by obtain⟨av,aN,aO,M,aP,aQ,u⟩:=G;exact .inl ⟨_,a,H,av,aN,aO,bk,⟨rfl,rfl,rfl,rfl,rfl⟩,by omega,M,aP,aQ,u,λh=>by omega⟩
 clear U;refine Loop.rule (λm x aH=> ∃E:Nat,m=6-E/\E<=5/\Way {B with cm:=false} h aH s N e ev y L O D a E/\Mod (bo h D) aL aH) ?_ ⟨0,rfl,by omega,aM,Mod.refl⟩;rintro dy dz _ dA ⟨E,rfl,dB,aM,aw⟩ co;have bq:=bo.aw aw bm ae;have cp:=bo.aw aw cj bp;have aR:=bo.aw aw bn (V _ ac);refine AY.mk (AB bq rfl) (AY.mk (AB bq rfl) (AJ.mk (n:=(eJ y).key) (AL aR rfl) (AJ.mk (n:=(eJ y).val) (AB aR rfl) (AZ.mk (n:=false) (AB aR rfl) ?_))));refine aM.move Y Q (by rw[bY];decide) bZ aE Z (by omega) cp bp hB.1 hB.2.1 hB.2.2 (by omega) λax br F cq ay=>⟨_,_,rfl,?_⟩
 have W:=aw.trans cq;refine ai.mk λcr cv=>?_
 have aS:cr (false,()) ax:=by
  refine cv _ _ (af.no rfl (ai.mk λcw bs=>?_));rcases ay with⟨rfl,rfl,dC,cx⟩|⟨ay,cy⟩
  ·exact af.no rfl (bs _ _ (af.no rfl (co (6-(E+1)) _ _ (by omega) ⟨E+1,rfl,by omega,cx,W⟩)))
  have bt:cw (true,()) ax:=by
   refine bs _ _ (af.yes rfl ?_);have aT:=bo.aw W bm ae;have cz:=bo.aw W ck cn;have cB:=bo.aw W bn (V _ ac);have cC:View ct ax sl ev:=cl.mod W λc b C=>C.2 (V c (ar c b))
   have dD:=W.size;refine AY.mk (AL aT rfl) (Ad.mk (s:=bh.aw) (AB cz rfl) ?_);obtain⟨o,dE,dn,cD,ag⟩:=cy;have bu:Ext h ax:=by obtain⟨av,m,br,-⟩:=dn;exact br.ext
   rw[<- show o.bx=B.bx from ag.bx];have cE:o.A=1600:=ag.A.trans hB.1;have bv:o.C=32000:=ag.C.trans hB.2.1;refine dn.dj Y (cg.ext bu) (by omega) (by omega) λbw t z bz cF cG cH az cI=>⟨_,rfl,?_⟩
   have dF:=az.size;have bA:=bo.aw az aT ae;have cJ:=bo.aw az cB (V _ ac);have cK:View ct bw sl ev:=cC.mod az λc b C=>C.2 (V c (ar c b))
   have bB:Good z e ev y L O bz:=by obtain⟨av,aN,aO,M,aP,aQ,u⟩:=cD bz cF;refine⟨av,aN,aO,M,aP,aQ,λh=>cH _ _ (u h) ?_ (uy _)⟩;intro F;have:=congrArg ByteArray.size F;have dG:=(Ij (r:=(Dv ev).2) (Re aE.1).2.2).1;have dH:(bP ev).size=(Cg (Dv ev).2).length:=AP _;have dI:bg.size=0:=rfl;omega
   have fC:=bB.is cd ce (by omega);have dJ:=Ag bA;refine XE (B:= {o with bx:=t,zf:=z,cm:=true}) (X:=l) (a:=a+12+1) Y rfl bA (by have:=au.out (c:=g) (.inl (.inl rfl));omega) (λc b=>⟨λF=>by have:=aG c b;omega,by have:=aG c b;omega⟩) fC (by omega) (by show _<=o.A;omega) (by show _<=o.C;omega) (by omega) (λcL ba cM dL aF=>?_) λcN cO p cP cQ cR bC bD bE dM aU=>⟨_,rfl,af.no rfl ?_⟩
   ·refine cI cL _ ba cM (λc b=>by rw[b];exact ae) λcS aY cT cU=>aF cS aY (cT.less λc b=>b.elim (λh=>by rw[h];exact ae) (V c)) (cU.aj λc _ b=>?_)
    have dN:=bu.size;by_cases cV:bw.size<=c
    ·exact .inl cV
    ·refine .inr ⟨λF=>?_,λhX=>?_,?_⟩
     ·have:=Ag aT;omega
     ·have:=aG c hX;omega
     ·omega
   have cW:=aU.ag cJ λC=>C.2 ac
   have bF:View ct cN sl ev:=cK.mod aU λc b C=>C.2 (ar c b)
   have bG:=bB.fC (y':=(⟨p,cP,cQ,LP,λ_=>0,λ_=>0⟩:Hs).kW 0 (e.f 0+1)) cG (by omega) rfl rfl;have dO:=aU.size;refine bG.read (B:= {o with bx:=t,zf:=z,cm:=true}) bC Q aE Z bD bE ?_ λdP dQ I cX=>⟨_,_,rfl,?_⟩
   ·have cY:({o with bx:=t,zf:=z,cm:=true}:bV).K=650000000:=by show nG o.C=_;rw[bv];rfl
    rw[cY];show o.W0+(1+3*(a+12+1+1))*650000000+2000000<1099511627776;rw[ag.W0,show({B with cm:=false}:bV).W0=0 from hB.2.2];omega
   refine ai.mk λdR cZ=>af.no rfl (AJV cX (bF.ext I) (by omega) ⟨_,rfl,cZ _ _ ?_⟩)
   rw[decide_eq_true rfl];refine af.no rfl ?_;rw[Aa (by omega)];refine cf (cs.length-(i+1)) _ _ (by omega) ⟨i+1,_,a+12+1+1,1,cO,_,cR,_,rfl,rfl,aI,bC.on I,I.ag bD λh=>h,I.ag bE λh=>h,I.ag cW λh=>h,bF.ext I,bG,rfl,?_,?_,⟨cE,bv,?_⟩,rfl,by omega,by have:=I.size;omega⟩
   ·show 1<=e.f 0+1;omega
   ·show e.f 0+1<=i+1+1;omega
   ·show o.W0=0;rw[ag.W0];exact hB.2.2
  refine af.intro (λq=>bt) (λq=>?_);have c0:F=0:=by simpa using q
  subst c0;rcases ay with h|h|⟨-,rfl⟩
  ·cases h
  ·cases h
  ·exact bt
 refine af.intro (λq=>?_) (λ_=>aS);refine af.intro (λc2=>?_) (λ_=>aS);have:F=100:=by
  have u:F≠0:=by simpa using q
  have aX:F≠30:=by simpa using c2
  rcases ay with⟨h,-⟩|⟨h|h|⟨h,-⟩,-⟩
  ·exact absurd h u
  ·exact absurd h aX
  ·exact h
  ·exact absurd h u
 subst this;exact aS
end
open Go Go.ChangeShapes Go.WideShapes Go.ChangeAt Go.RowKit Go.Proofs.YtgpmoonnachoaaaGreatDoor
theorem ATf:fieldsOf P Gg=some [(Bp,0),(Cj,1)]:=by kernel_rfl
theorem wR:P.underlying HY=some (.slice Gg):=by kernel_rfl
theorem wS:P.cellsOf Gg=mT.w:=by kernel_rfl
theorem APR {g:Type}{r:Q7×J0->g}{a:World}{base:Nat}{v:J0}{h:DataW g}{ps:List MemPlace}(t:Value.okWide P a .any base HY v)(e:DataW.Trod r P a 0 (λ_=>true) true HY v h ps):
  ∃(s:Sl) (l:List oT),v=J4 s.p s.len s.cap/\View mT a.heap s l/\ ∀x∈l,x.fuel<=9223372036854775807/\ ∃b,View GV a.heap x.aw b:=by
 obtain⟨p,len,cap,rfl⟩:=okWide_slice wR t;obtain⟨u,w⟩:=e;obtain⟨l,ds,V,y,z,H⟩:=wJ (E:=mT) (Q:=λi h=>i.fuel<=9223372036854775807/\ ∃b,View GV a.heap i.aw b) wR wS (λu A x c=>by
  obtain⟨B,m,c,j,C,k⟩:=AJK ATf c;rw[wS] at j
  match A,j with
  | [I,c1],_=>
   match B,C with
   | [J,K],_=>
    have n:=k 0 _ rfl;have f:=k 1 _ rfl;simp only[wM,ASi] at n f;obtain⟨D,o,_,F⟩:=DataW.trod_int ry n;obtain⟨d,q⟩:=AM5 wL f;simp at o q;subst o q;obtain⟨b,G,_⟩:=open_ints (p:=d.p) (len:=d.len) (cap:=d.cap) f;exact⟨⟨D,d⟩,rfl,(wf_i64 F).2,b,G⟩) w
 exact⟨⟨p,len,cap⟩,l,rfl,V,λx c=>by obtain⟨_,_,e⟩:=wK y z c;exact e⟩
end Go.Lf.G
