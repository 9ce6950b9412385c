/-
 Contracts: programs of steps (chapter 12).
-/
import Derived.Test.YtgpmoonnachoaaaGreatDoorLfU2ToS3
import Derived.Test.YtgpmoonnachoaaaGreatDoorLfKToGA
import Derived.Test.YtgpmoonnachoaaaGreatDoorLfZ11ToU32
import Derived.WideKeyEntry
import Derived.Test.YtgpmoonnachoaaaGreatDoorLfU15ToZ10
set_option maxRecDepth 100000
set_option linter.unusedVariables false
set_option linter.unusedSimpArgs false
open Go.IntKind renaming i64→J9,wrap→J8
open Go.Value renaming string→J7,int→J6,pointer→J5,slice→J4,bool→J3,tuple→J1
open Go.Obj renaming cells→J2
open Go renaming Value→J0,Addr→Q6,TypeId→Q7,FuncId→Q8,Program→Q1
open Go.Addr renaming add→Q9,mk→Q5
namespace Go.Lf.G
open Go
theorem oA {s:A2L}:bO s (⟨#[]⟩:A2L)=decide (s=Hr):=Bw
theorem yb {s:A2L}:s=Hr↔s.size=0:=by
 constructor
 ·rintro rfl;rfl
 ·intro a;have:bl s= []:=Dd (by rw[Ay];exact a);rw[<- ED s];show AY (bl s)=_;rw[this];rfl
theorem Ep {r:aq}{e:aa}{s:A2L}{p:A2K}(a:p (J3 (Aj s)) e):AA r P Bg #[J7 s] e p:=by
 refine AEl ?_;unfold Xc;rw[oA];refine ai.mk λK t=>?_
 have key: ∀h:Bool,(h=true↔s.size=0\/16<s.size)->K (h,()) e:=λh z=>by
  refine t _ _ ?_;refine af.intro (λb=>?_) (λb=>?_)
  ·have d:Aj s=false:=by
    rw[OK]
    grind [FV]
   rw[d] at a;exact a
  have A: ¬(s.size=0\/16<s.size):=λg=>by simp_all
  refine Loop.rule (λm x g=> ∃i:Nat,x=((i:Int),())/\g=e/\m=s.size-i/\i<=s.size/\ ∀c∈(bl s).take i,33<=c.toNat/\c.toNat<=126) ?_ ⟨0,rfl,rfl,rfl,by omega,by simp⟩;rintro B m _ g ⟨i,rfl,d,rfl,C,D⟩ u;subst g;refine af.intro (λj=>?_) (λj=>?_)
  ·have k:i<s.size:=by simpa using j
   obtain⟨c,l⟩: ∃c,(bl s)[i]? =some c:=⟨_,A2 (by rw[Ay];exact k)⟩;have E:c∈bl s:=AK l;dsimp only;rw[Nu l];refine ai.mk λv w=>⟨⟨by omega,by omega⟩,?_⟩
   have q: ∀n:Bool,(n=true↔ ¬(33<=c.toNat/\c.toNat<=126))->v (n,()) e:=λn F=>by
    refine w _ _ ?_;refine af.intro (λb=>?_) (λb=>?_)
    ·have d:Aj s=false:=by
      rw[OK]
      grind [FV]
     rw[d] at a;exact a
    ·rw[Ae (by omega)];refine u (s.size-(i+1)) _ _ (by omega) ⟨i+1,rfl,rfl,rfl,k,λx y=>?_⟩;rw[As,l,CT] at y
     grind
   refine af.intro (λo=>q _ ⟨λ_=>by simp at o;omega,λ_=>rfl⟩) (λo=>⟨⟨by omega,by omega⟩,q _ ⟨λf=>by simp at f;omega,λf=>by simp at o;simp;omega⟩⟩)
  ·have k:i=s.size:=by simp at j;omega
   have d:Aj s=true:=by grind [FV,List.take_of_length_le,Ay]
   rw[d] at a;exact a
 refine af.intro (λb=>key _ ⟨λ_=> .inl (by simpa [yb] using b),λ_=>rfl⟩) (λb=>key _ ⟨λf=>by simp at f;omega,λf=>?_⟩)
 simp_all [decide_eq_false_iff_not,yb,decide_eq_true_eq];omega
theorem O6 {h:aq}{f:aa}{a c b:Int}{g:A2K}(d:g (J3 (bV a c b)) f):AA h P Gj #[J6 J9 a,J6 J9 c,J6 J9 b] f g:=by
 refine ACk ?_;unfold Vs;refine af.intro (λi=>?_) (λi=>?_)
 ·have e:bV a c b=decide (a<=b):=by simp_all [bV,decide_eq_decide]
  rw[e] at d;exact d
 ·have e:bV a c b=false:=by grind [bV]
  rw[e] at d;exact d
def bP.fv(x:bP):List Fv:= [.i x.kind,.s x.name,.s x.aL,.i x.tries,.i x.aA,.i x.wait]
theorem yc:P.underlying Bn=some (.struct (P.fieldsOf Bn)):=by kernel_rfl
theorem yd(x:bP):qG P Bn (bP.fv x)=true:=by kernel_rfl
theorem AMq {q:aq}{l:aa}{x:bP}{m:A2K}(r: ∀n,Ext l n->m (J3 (NE x)) n):
  AA q P Rj #[.agg #[J6 J9 x.kind,J7 x.name,J7 x.aL,J6 J9 x.tries,J6 J9 x.aA,J6 J9 x.wait]] l m:=by
 refine AEY ?_;unfold Yt;refine ao.mk λj _ a s _=>?_
 have b:=r j s;refine AC.mk (AO a rfl) ?_;unfold NE at b;refine af.intro (λh=>?_) (λh=>?_)
 ·have h:x.kind=1:=by simpa using h
  rw[if_pos h] at b;refine ai.mk λK t=>?_
  have key:K (((decide (x.aL=Hr)&&decide (x.aA=0))||(Aj x.aL&&bV x.aA 1 5)),()) j:=by
   refine t _ _ ?_;refine AJ.mk (AB a rfl) (Ep ⟨_,rfl,?_⟩);cases d:Aj x.name with
   |false=>rw[d] at b;simpa [af] using b
   |true=>
    refine af.yes rfl (AC.mk (AB a rfl) (O6 ⟨_,rfl,?_⟩));cases o:bV x.tries 1 5 with
    |false=>rw[d,o] at b;simpa [af] using b
    |true=>
     refine af.yes rfl ?_;refine af.intro (λc=>?_) (λc=>?_)
     ·refine AC.mk (AB a rfl) ?_;rw[d,o] at b;have c:((decide (x.aL=Hr)&&decide (x.aA=0))||(Aj x.aL&&bV x.aA 1 5))=true:=c;rw[c] at b;have e:(x.wait==(0:Int))=decide (x.wait=0):=by grind
      rw[e];simpa using b
     ·have c:((decide (x.aL=Hr)&&decide (x.aA=0))||(Aj x.aL&&bV x.aA 1 5))=false:=c;rw[c] at b;simpa using b
  have sub: ∀ {p:Bool},p=(Aj x.aL&&bV x.aA 1 5)->((decide (x.aL=Hr)&&decide (x.aA=0))=false)->K (p,()) j:=λu v=>by
   rw[v,SU,<-u] at key;exact key
  refine AJ.mk (AB a rfl) ?_;rw[oA];refine af.intro (λi=>?_) (λi=>?_)
  ·refine AC.mk (AB a rfl) ?_;refine af.intro (λk=>?_) (λk=>?_)
   ·have e:decide (x.aA=0)=true:=by simpa using k
    rw[i,e] at key;simpa using key
   ·have e:decide (x.aA=0)=false:=by simpa using k
    refine AJ.mk (AB a rfl) (Ep ⟨_,rfl,?_⟩);refine af.intro (λd=>?_) (λd=>?_)
    ·exact AC.mk (AB a rfl) (O6 ⟨_,rfl,sub (by rw[d,DB]) (by rw[e,ON])⟩)
    ·exact sub (by rw[d,DG]) (by rw[e,ON])
  ·refine AJ.mk (AB a rfl) (Ep ⟨_,rfl,?_⟩);refine af.intro (λd=>?_) (λd=>?_)
   ·exact AC.mk (AB a rfl) (O6 ⟨_,rfl,sub (by rw[d,DB]) (by rw[i,DG])⟩)
   ·exact sub (by rw[d,DG]) (by rw[i,DG])
 ·have h:x.kind≠1:=by simpa using h
  rw[if_neg h] at b;refine af.intro (λf=>?_) (λf=>?_)
  ·have f:x.kind=2:=by simpa using f
   rw[if_pos f] at b;refine AC.mk (AO a rfl) (AJ.mk (AB a rfl) (AJ.mk (AB a rfl) (AC.mk (AB a rfl) (AC.mk (AB a rfl) (AC.mk (AB a rfl) (AC.mk (AB a rfl) ?_))))));refine w8 (xs:=bP.fv x) (ys:= [.i 2,.s Hr,.s Hr,.i 0,.i 0,.i x.wait]) yc (yd x) rfl rfl rfl ⟨_,rfl,?_⟩;have e:decide (bP.fv x= [.i 2,.s Hr,.s Hr,.i 0,.i 0,.i x.wait])=(decide (x.name=Hr)&&decide (x.aL=Hr)&&decide (x.tries=0)&&decide (x.aA=0)):=by rw[DS];simp[bP.fv,f,and_assoc]
   rw[e];refine af.intro (λc=>?_) (λc=>?_)
   ·rw[c,DB] at b;exact AC.mk (AB a rfl) (O6 ⟨_,rfl,b⟩)
   ·rw[c,DG] at b;exact b
  ·have f:x.kind≠2:=by simpa using f
   rw[if_neg f] at b;refine af.intro (λg=>?_) (λg=>?_)
   ·have g:x.kind=3:=by simpa using g
    rw[if_pos g] at b;refine AC.mk (AO a rfl) (AJ.mk (AB a rfl) (AJ.mk (AB a rfl) (AC.mk (AB a rfl) (AC.mk (AB a rfl) (AC.mk (AB a rfl) (AJ.mk (AB a rfl) ?_))))));refine w8 (xs:=bP.fv x) (ys:= [.i 3,.s x.name,.s Hr,.i 0,.i 0,.i 0]) yc (yd x) rfl rfl rfl ⟨_,rfl,?_⟩;have e:decide (bP.fv x= [.i 3,.s x.name,.s Hr,.i 0,.i 0,.i 0])=(decide (x.aL=Hr)&&decide (x.tries=0)&&decide (x.aA=0)&&decide (x.wait=0)):=by rw[DS];simp[bP.fv,g,and_assoc]
    rw[e];refine af.intro (λc=>?_) (λc=>?_)
    ·rw[c,DB] at b;exact AJ.mk (AB a rfl) (Ep ⟨_,rfl,b⟩)
    ·rw[c,DG] at b;exact b
   ·have g:x.kind≠3:=by simpa using g
    rw[if_neg g] at b;exact b
abbrev APB(x:bP):Array J0:= #[J6 J9 x.kind,J7 x.name,J7 x.aL,J6 J9 x.tries,J6 J9 x.aA,J6 J9 x.wait]
theorem ye:QF P Gg Bn QT.w 64=true:=by kernel_rfl
theorem yf {b:aa}{a:Q6}{x:bP}(c:Cells b a (QT.enc x)):ag b a=some (J6 J9 x.kind)/\ag b (a.add 1)=some (J7 x.name)/\ag b (a.add 2)=some (J7 x.aL)/\ag b (a.add 3)=some (J6 J9 x.tries)/\ag b (a.add 4)=some (J6 J9 x.aA)/\ag b (a.add 5)=some (J6 J9 x.wait):=by refine⟨?_,c 1 _ rfl,c 2 _ rfl,c 3 _ rfl,c 4 _ rfl,c 5 _ rfl⟩;have:=c 0 _ rfl;rwa [add_zero] at this
theorem yg {D:aq}{f:aa}{s:Sl}{p:ck}{u:A2K}(v:View QT f s p.steps)(W:p.steps.length<=1099511627776)(n: ∀w,Ext f w->u (J6 J9 (if F4 p then 0 else 130)) w):
  AA D P OA #[.agg #[J4 s.p s.len s.cap,J6 J9 p.az]] f u:=by
 refine AEk ?_;unfold Yc;refine ao.mk λy _ g z _=>?_
 refine ai.mk λK E=>AZ.mk (s:=s) (AO g rfl) ?_
 rw[v.len];have key: ∀o:Bool,(o=true↔ ¬(p.steps.length<=16/\bV p.az 0 16000=true))->K (o,()) y:=λo F=>by
  refine E _ _ ?_;refine af.intro (λh=>?_) (λh=>?_)
  ·have d:=n y z;rw[if_neg] at d
   ·exact d
   ·intro j;simp only[F4,A4,decide_eq_true_eq] at j;exact F.1 h j.1
  have G:p.steps.length<=16/\bV p.az 0 16000=true:=Decidable.byContradiction λk=>by
   simp_all
  refine AZ.mk (s:=s) (AO g rfl) ?_;refine Loop.rule (λm x k=> ∃i:Nat,x=((i:Int),())/\Ext f k/\m=p.steps.length-i/\i<=p.steps.length/\(p.steps.take i).all NE=true) ?_ ⟨0,rfl,z,rfl,by omega,rfl⟩;rintro X m _ k ⟨i,rfl,l,rfl,Y,q⟩ H;rw[v.len];refine af.intro (λr=>?_) (λr=>?_)
  ·have t:i<p.steps.length:=by simpa using r
   obtain⟨x,A⟩: ∃x,p.steps[i]? =some x:=⟨_,A2 t⟩;rw[<- v.len];refine(v.ext l).idx A λa _ c=>?_
   obtain⟨I,J,c2,L,c4,M⟩:=yf c;refine AC.mk I (AJ.mk J (AJ.mk c2 (AC.mk L (AC.mk c4 (AC.mk M ?_)))));refine ao.mk λN _ O Q _=>ae.oS O λR e S Z=>?_
   refine AC.mk (AO e rfl) (AJ.mk (AB e rfl) (AJ.mk (AB e rfl) (AC.mk (AB e rfl) (AC.mk (AB e rfl) (AC.mk (AB e rfl) ?_)))));have T:Ext f R:=(l.trans Q).more S λb g=>by subst g;exact l.size
   refine AMq (x:=x) λU V=>⟨_,rfl,?_⟩
   have B:=T.trans V;refine af.intro (λC=>?_) (λC=>?_)
   ·have d:=n U B;rw[if_neg] at d
    ·exact d
    ·intro j;simp only[F4,A4,decide_eq_true_eq,Fo] at j
     grind
   ·dsimp only;rw[Ae (by omega)];refine H (p.steps.length-(i+1)) _ _ (by omega) ⟨i+1,rfl,B,rfl,t,?_⟩;rw[As,A,CT,List.all_append,q];simpa using C
  ·have t:i=p.steps.length:=by simp at r;omega
   rw[AF (by omega)] at q;have d:=n k l;rw[if_pos (by simp only[F4,A4,decide_eq_true_eq];exact⟨G,q⟩)] at d;exact d
 refine af.intro (λh=>key _ ⟨λ_ N=>by simp at h;omega,λ_=>rfl⟩) (λh=>?_);refine AC.mk (AB g rfl) (O6 ⟨_,rfl,key _ ?_⟩)
 grind
structure XD (h:aa) (b rb b1:Nat) (lim:Int) (s:Sl) (l:List bP) (hh:aa) (r:Rd):Prop where
 ext:Ext h hh
 zero:hh[b]? =some (J2 #[J4 none 0 0,J6 J9 0] FD (0,0))
 rd:Ie hh rb r
 var:hh[b1]? =some (J2 #[J4 s.p s.len s.cap,J6 J9 lim] FD (0,0))
 own:Own QT Bn hh s l
 fresh: ∀c,s.ah=some c->h.size<=c/\c≠b/\c≠rb/\c≠b1
 ne:h.size<=b/\h.size<=rb/\h.size<=b1/\b≠rb/\b≠b1/\rb≠b1
theorem XD.read {g:aa}{b d h:Nat}{i:Int}{s:Sl}{l:List bP}{j e:aa}{n k:Rd}(a:XD g b d h i s l j n)(o:Ie e d k)(m:Mod (· =d) j e):XD g b d h i s l e k:=
 ⟨a.ext.more m λc f=>by subst f;exact a.ne.2.1,m.ah a.zero a.ne.2.2.2.1,o,m.ah a.var a.ne.2.2.2.2.2.symm,a.own.mod m λc f=>(a.fresh c f).2.2.1,a.fresh,a.ne⟩
theorem XD.other {e:aa}{b f g c:Nat}{i:Int}{s:Sl}{l:List bP}{j k:aa}{n:Rd}(a:XD e b f g i s l j n)(m:Mod (· =c) j k)(d:e.size<=c/\c≠b/\c≠f/\c≠g/\s.ah≠some c):XD e b f g i s l k n:=
 ⟨a.ext.more m λo h=>by subst h;exact d.1,m.ah a.zero d.2.1.symm,m.ah a.rd d.2.2.1.symm,m.ah a.var d.2.2.2.1.symm,a.own.mod m λo h p=>d.2.2.2.2 (by rw[h,p]),a.fresh,a.ne⟩
theorem XD.on {a:aa}{b d e:Nat}{f:Int}{s:Sl}{l:List bP}{g h:aa}{i:Rd}(c:XD a b d e f s l g i)(m:Ext g h):XD a b d e f s l h i:=
 ⟨c.ext.trans m,m.ah c.zero (λa=>a),m.ah c.rd (λa=>a),m.ah c.var (λa=>a),c.own.ext m,c.fresh,c.ne⟩
theorem XD.new {d:aa}{b e f:Nat}{g:Int}{s:Sl}{l:List bP}{a:aa}{h:Rd}(c:XD d b e f g s l a h):d.size<=a.size/\a.size≠b/\a.size≠e/\a.size≠f/\s.ah≠some a.size:=by
 refine⟨c.ext.size,?_,?_,?_,λi=>?_⟩
 ·have:=Ai c.zero;omega
 ·have:=Ai c.rd;omega
 ·have:=Ai c.var;omega
 ·have:=c.own.lt i;omega
theorem ANB {b c d:Nat}{e:Bool}(a:Rd):(Mj b c d e a).2.rest.length<=a.rest.length:=by grind [IL,Mj,VK,CS,GV]
def yh(a:Option ck)(s:Sl):J0:=match a with
 |none=>J1 #[.agg #[J4 none 0 0,J6 J9 0],J6 J9 60]
 |some p=>J1 #[.agg #[J4 s.p s.len s.cap,J6 J9 p.az],J6 J9 0]
theorem AKl {A:aq}{h:aa}{l:List UInt8}{R:A2K}(bB:l.length<1099511627776)
  (ap: ∀O s,Ext h O->(∀ p,JJ l=some p->View QT O s p.steps/\ ∀c,s.ah=some c->h.size<=c)->R (yh (JJ l) s) O):AA A P Jt #[J7 (AY l)] h R:=by
 refine ADZ ?_;unfold Vr;refine ao.mk λz _ ar ab aO=>?_
 refine Js λaP ac ad=>⟨_,rfl,?_⟩
 refine DN (most:=16000) ac (by simp;omega) (by decide) λQ au S=>⟨_,rfl,?_⟩
 refine ao.mk λbC _ av T aQ=>ae.two av λaR aw U aS=>?_
 have bD:z.size<aP.size:=Ai ac;have bE:=S.size;have bF:=ab.size;have ax:XD h h.size z.size Q.size ((CS 16000 ⟨l,false⟩).1:Int) ⟨none,0,0⟩ [] aR (CS 16000 ⟨l,false⟩).2:=by
  have aT:Q[h.size]? =some (J2 #[J4 none 0 0,J6 J9 0] FD (0,0)):=S.ah (ad.ah ar (λh=>h)) (by omega);have aU:=T.ah au (λh=>h);have ay:Ext h Q:=(ab.trans ad).more S λc a=>by subst a;omega
  refine⟨(ay.trans T).more U λc a=>by subst a;exact ay.size,U.ah (T.ah aT (λh=>h)) (by omega),U.ah aU (by omega),aw,Own.nil,λc a=>by simp[Sl.ah] at a,by omega,by omega,by omega,by omega,by omega,by omega⟩
 have bG:(CS 16000 ⟨l,false⟩).2.rest.length<=l.length:=IL 16000 ⟨l,false⟩;refine DN (most:=16) ax.rd (by omega) (by decide) λbH az aA=>⟨_,rfl,?_⟩
 have aV:=ax.read az aA;have bI:=IL 16 (CS 16000 ⟨l,false⟩).2;generalize bJ:(CS 16000 ⟨l,false⟩).1=i at*
 generalize bK:(CS 16000 ⟨l,false⟩).2=t at*
 have aW:(CS 16 t).1<=16:=by
  unfold CS
  grind
 have G:Yk 16000 3 5 1000 false l=(⟨(Hy 3 5 1000 false (CS 16 t).1 (CS 16 t).2).1,i⟩,(Hy 3 5 1000 false (CS 16 t).1 (CS 16 t).2).2):=by grind [Yk]
 generalize bL:h.size=b at*
 generalize bM:z.size=H at*
 generalize B:Q.size=I at*
 clear ar ac au av aw ab ad T S U aA aO aQ aS az;refine Loop.rule (λm x ag=> ∃(j:Nat) (s:Sl) (f:List bP) (d:Rd),x=((j:Int),())/\XD h b H I i s f ag d/\m=j/\d.rest.length<=l.length/\f.length+j<=16/\
  Yk 16000 3 5 1000 false l=(⟨f++(Hy 3 5 1000 false j d).1,i⟩,(Hy 3 5 1000 false j d).2)) ?_ ⟨(CS 16 t).1,⟨none,0,0⟩,[],(CS 16 t).2,rfl,aV,rfl,by omega,by simpa using aW,G⟩
 rintro K m _ ag ⟨j,s,f,d,rfl,n,bN,bO,bQ,G⟩ aX;refine af.intro (λah=>?_) (λah=>?_)
 ·have aC:0<j:=by simp at ah;omega
  obtain⟨k,rfl⟩: ∃k,j=k+1:=⟨j-1,by omega⟩;refine DN (most:=3) n.rd (by omega) (by decide) λaj aY aZ=>⟨_,rfl,?_⟩
  have g:=n.read aY aZ;have bR:=IL 3 d;refine ao.mk λV _ u a0 bS=>ae.oS u λa1 B a2 bT=>?_
  have a:=g.new;have v:=(g.on a0).other a2 a;generalize aj.size=a3 at*
  refine AC.mk (AO B rfl) ?_;refine ai.mk λa4 a5=>?_
  have fin: ∀(x:bP) (C:Rd) (o:aa),XD h b H I i s f o C->o[a3]? =some (J2 (APB x) Bn (0,0))->Mj 3 5 1000 false d=(x,C)->a4 () o:=λx C o e q w=>by
   refine a5 _ _ ?_;refine AZ.mk (s:=s) (AO e.var rfl) ?_;refine AC.mk (AO q rfl) (AJ.mk (AB q rfl) (AJ.mk (AB q rfl) (AC.mk (AB q rfl) (AC.mk (AB q rfl) (AC.mk (AB q rfl) ?_)))));refine ao.aY (E:=QT) (x:=x) (s:=s) (l:=f) rfl ye e.own (by omega) (by simp[maxLen];omega) λaD O a6 W q bU=>?_
   have a7:s.ah≠some I:=λa=>(e.fresh _ a).2.2.2 rfl
   have a8:s.ah≠some b:=λa=>(e.fresh _ a).2.1 rfl
   have a9:s.ah≠some H:=λa=>(e.fresh _ a).2.2.1 rfl
   have aE: ∀c,aD.ah=some c->h.size<=c/\c≠b/\c≠H/\c≠I:=λc a=>by
    rcases q c a with z|z
    ·exact e.fresh c z
    ·have bV:=Ai e.zero;have bW:=Ai e.rd;have bX:=Ai e.var;have bY:=e.ext.size;omega
   refine ae.mk (W.ah e.var a7) (by simp) λbZ ba X b0=>?_
   rw[show((((k+1:Nat):Int),()):Int×Unit).1-(1:Int)=((k:Nat):Int) by simp,GY (by omega)];have bb:Hy 3 5 1000 false (k+1) d=(x::(Hy 3 5 1000 false k C).1,(Hy 3 5 1000 false k C).2):=by simp only[Hy,w]
   refine aX k _ _ (by omega) ⟨k,aD,f++ [x],C,rfl,⟨?_,?_,?_,by simpa using ba,?_,aE,e.ne⟩,rfl,?_,by simp;omega,?_⟩
   ·exact(e.ext.more W λc a=>(e.fresh c a).1).more X λc a=>by omega
   ·exact X.ah (W.ah e.zero a8) e.ne.2.2.2.2.1
   ·exact X.ah (W.ah e.rd a9) e.ne.2.2.2.2.2
   ·exact a6.mod X λc a=>(aE c a).2.2.2
   ·grind [ANB]
   ·rw[G,bb];simp
  refine af.intro (λy=>?_) (λy=>?_)
  ·have ak:(CS 3 d).1=1:=by simp at y;omega
   have b1:=(VK (CS 3 d).2).1;have b2:=IL 5 (GV (CS 3 d).2).2;have b3:=(VK (CS 5 (GV (CS 3 d).2).2).2).1;refine G8 v.rd (by omega) λaF J r=>⟨_,rfl,?_⟩
   have D:=v.read J r;have L:=r.ah B a.2.2.1;refine DN (most:=5) D.rd (by omega) (by decide) λY bc F=>⟨_,rfl,?_⟩
   have bd:=D.read bc F;have M:=F.ah L a.2.2.1;refine ae.bL M (by simp) rfl λb4 be bf b5=>ae.bL be (by simp) rfl λb6 bg bh b7=>?_
   have aG:=(bd.other bf a).other bh a;refine G8 aG.rd (by omega) λb8 bi aH=>⟨_,rfl,?_⟩
   have aI:=aG.read bi aH;have bj:=aH.ah bg a.2.2.1;refine DN (most:=5) aI.rd (by omega) (by decide) λb9 bk aJ=>⟨_,rfl,?_⟩
   have bm:=aI.read bk aJ;have bn:=aJ.ah bj a.2.2.1;refine ae.bL bn (by simp) rfl λca bo bp cb=>ae.bL bo (by simp) rfl λbq br bs cc=>?_
   have bt:=(bm.other bp a).other bs a;refine fin ⟨1,AY (GV (CS 3 d).2).1,AY (GV (CS 5 (GV (CS 3 d).2).2).2).1,(CS 5 (GV (CS 3 d).2).2).1,(CS 5 (GV (CS 5 (GV (CS 3 d).2).2).2).2).1,0⟩ _ bq bt ?_ ?_
   ·rw[br,ak];rfl
   ·simp only[Mj];rw[if_pos ak]
  ·have ak:(CS 3 d).1≠1:=by simp at y;omega
   refine af.intro (λal=>?_) (λal=>?_)
   ·have aK:(CS 3 d).1=2:=by simp at al;omega
    refine DN (most:=1000) v.rd (by omega) (by decide) λaF J r=>⟨_,rfl,?_⟩
    have D:=v.read J r;have L:=r.ah B a.2.2.1;refine ae.bL L (by simp) rfl λY M F bu=>?_
    refine fin ⟨2,Hr,Hr,0,0,(CS 1000 (CS 3 d).2).1⟩ _ Y (D.other F a) ?_ ?_
    ·rw[M,aK];rfl
    ·simp only[Mj]
     grind
   ·have aK:(CS 3 d).1≠2:=by simp at al;omega
    refine af.intro (λam=>?_) (λam=>?_)
    ·have bv:(CS 3 d).1=3:=by simp at am;omega
     refine G8 v.rd (by omega) λaF J r=>⟨_,rfl,?_⟩
     have D:=v.read J r;have L:=r.ah B a.2.2.1;refine ae.bL L (by simp) rfl λY M F bu=>?_
     refine fin ⟨(CS 3 d).1,AY (GV (CS 3 d).2).1,Hr,0,0,0⟩ _ Y (D.other F a) ?_ ?_
     ·rw[M];rfl
     ·simp only[Mj]
      grind
    ·have bv:(CS 3 d).1≠3:=by simp at am;omega
     refine fin ⟨(CS 3 d).1,Hr,Hr,0,0,0⟩ _ a1 v B ?_;simp only[Mj]
     grind
 ·have aC:j=0:=by simp at ah;omega
  subst aC;simp only[Hy,AM] at G;refine ai.mk λbw aL=>?_
  refine MU n.rd ⟨_,rfl,?_⟩;have aM:JJ l=if Yf d&&F4 ⟨f,i⟩ then some ⟨f,i⟩ else none:=by unfold JJ;rw[G]
  have aN:JJ l=none-> ∀o,XD h b H I i s f o d->bw (true,()) o:=λw o e=>by
   refine aL _ _ (af.yes rfl ?_);refine ae.two e.zero λV u Z bx=>AZ.mk (s:=⟨none,0,0⟩) (AO u rfl) (AC.mk (AB u rfl) ?_)
   have:=ap V ⟨none,0,0⟩ (e.ext.more Z λc a=>by subst a;exact e.ne.1) (λp N=>by rw[w] at N;cases N);rw[w] at this;exact this
  refine af.intro (λy=>?_) (λy=>?_)
  ·have an:Yf d=false:=by simpa using y
   exact aN (by rw[aM,an];rfl) ag n
  ·have an:Yf d=true:=by simpa using y
   refine AZ.mk (s:=s) (AO n.var rfl) (AC.mk (AB n.var rfl) ?_);refine yg (p:=⟨f,i⟩) n.own.view (by simp only;omega) λaj bz=>⟨_,rfl,?_⟩
   have g:=n.on bz;cases bA:F4 ⟨f,i⟩ with
   |false=>exact aN (by grind) aj g
   |true=>
    refine aL _ _ (af.no rfl ?_);have w:JJ l=some ⟨f,i⟩:=by rw[aM,an,bA];rfl
    refine AZ.mk (s:=s) (AO g.var rfl) (AC.mk (AB g.var rfl) ?_);refine ae.two g.zero λV u Z bx=>AZ.mk (s:=s) (AO u rfl) (AC.mk (AB u rfl) ?_)
    have:=ap V s (g.ext.more Z λc a=>by subst a;exact g.ne.1) (λp N=>by
     rw[w] at N;obtain rfl:=BY N;exact⟨(g.own.mod Z λc a=>(g.fresh c a).2.1).view,λc a=>by have:=(g.fresh c a).1;omega⟩)
    rw[w] at this;exact this
def fN(a:Int):Int:=(if cW a then 1 else 0)+(if dp a then 2 else 0)+(if dD a then 4 else 0)+(if dT a then 8 else 0)+(if dZ a then 16 else 0)
theorem rn(d:Int):Gd J9 (fN d) 1=(if cW d then 1 else 0)/\Gd J9 (fN d) 2=(if dp d then 2 else 0)/\Gd J9 (fN d) 4=(if dD d then 4 else 0)/\Gd J9 (fN d) 8=(if dT d then 8 else 0)/\Gd J9 (fN d) 16=(if dZ d then 16 else 0):=by unfold fN;generalize cW d=a;generalize dp d=b;generalize dD d=c;generalize dT d=e;generalize dZ d=f;cases a<;>cases b<;>cases c<;>cases e<;>cases f<;>decide
theorem mq {b:Bool}{a:Int}(c:a≠0):((if b then a else 0)==(0:Int))= !b:=by cases b<;>simp[c]
theorem Ma {b:Bool}{a:Int}(c:a≠0):((if b then a else 0) != (0:Int))=b:=by cases b<;>simp[c]
theorem XP {i:aq}{f:aa}{a:Int}{g:A2K}(c:g (J1 #[J6 J9 (fN a),J3 (bV a 1 18)]) f):AA i P JC #[J6 J9 a] f g:=by
 refine ABb ?_;unfold Uy;have d:a=1\/a=2\/a=3\/a=4\/a=5\/a=6\/a=7\/a=8\/a=9\/a=10\/a=11\/a=12\/a=13\/a=14\/a=15\/a=16\/a=17\/a=18\/ ¬(1<=a/\a<=18):=by omega
 by_cases h:1<=a/\a<=18
 ·rcases d with rfl|rfl|rfl|rfl|rfl|rfl|rfl|rfl|rfl|rfl|rfl|rfl|rfl|rfl|rfl|rfl|rfl|rfl|d
  all_goals (try exact absurd h d)
  all_goals repeat first|exact c|(refine ai.mk λK e=>?_)|(refine af.yes (by decide) ?_)|(refine af.no (by decide) ?_)|(refine e _ _ ?_)
 ·have j:bV a 1 18=false:=by unfold bV;simpa using h
  have k:fN a=0:=by unfold fN cW dp dD dT dZ;rw[decide_eq_false (by omega),decide_eq_false (by omega),decide_eq_false (by omega),decide_eq_false (by omega),decide_eq_false (by omega)];rfl
  rw[j,k] at c;have ne: ∀b:Int,1<=b->b<=18->(a==b)=false:=λb l m=>by
   rw[beq_eq_false_iff_ne];omega
  repeat first|exact c|(refine ai.mk λK e=>?_)|(refine af.no (ne _ (by decide) (by decide)) ?_)|(refine e _ _ ?_)
theorem yi {A:aq}{h:aa}{s:A2L}{R:A2K}(b:s.size<1099511627776)
  (d: ∀a sl,Ext h a->(∀ p,JJ (bl s)=some p->View QT a sl p.steps/\ ∀c,sl.ah=some c->h.size<=c)->R (yh (JJ (bl s)) sl) a):AA A P Jt #[J7 s] h R:=by
 have:=AKl (A:=A) (h:=h) (l:=bl s) (R:=R) (by rw[Ay];exact b) d;rwa [K9] at this
theorem KX {A:aq}{h:aa}{s:A2L}{R:A2K}(b:s.size<=1099511627776)(c: ∀a,Ext h a->R (J7 (AY (BQ (bl s)))) a):AA A P CB #[J7 s] h R:=by have:=RB (A:=A) (h:=h) (l:=bl s) (R:=R) (by rw[Ay];exact b) c;rwa [K9] at this
theorem rp {l:aq}{h:aa}{b:Nat}{f a g c j:Int}{fl:Bool}{T:Q7}{fr:Nat×Nat}{k:A2K}(m:h[b]? =some (J2 #[J6 J9 f] T fr))(n:(Gd J9 f j==(0:Int))= !fl)
  (d:k (J3 (cX fl a g c)) h):Ed l P (.func (.func IK) #[] #[J5 (some ⟨b,0,none⟩)]) #[J6 J9 a,J6 J9 g,J6 J9 c,J6 J9 j] h k:=by
 refine Ed.func (first:= #[]) (bT:= #[Am b]) (by kernel_rfl) ?_;refine Zb ?_;unfold SY;refine aD (AC.mk (AO m rfl) ?_);rw[n];cases fl with
 |false=>
  refine af.yes rfl ?_;have e:(a==(0:Int))=decide (a=0):=by by_cases o:a=0<;>simp[o]
  rw[e];exact d
 |true=>
  refine af.no rfl ?_;refine af.intro (λi=>?_) (λi=>?_)
  ·have e:cX true a g c=decide (a<=c):=by simp at i;simp only[cX,if_true,bV];rw[decide_eq_decide];omega
   rw[e] at d;exact d
  ·have e:cX true a g c=false:=by simp at i;simp only[cX,if_true,bV];simp;omega
   rw[e] at d;exact d
abbrev oB(a:Ev):J0:= .agg #[J6 J9 a.id,J6 J9 a.kind,J6 J9 a.tick,J6 J9 a.ref,J6 J9 a.step,J6 J9 a.turn,J3 a.aL,J7 a.data]
theorem Zx {O:aq}{h:aa}{e:Ev}{t:A2K}(hd:e.data.size<1099511627776)(u: ∀d,Ext h d->t (J6 J9 (if Em e then 0 else 120)) d):AA O P Jz #[oB e] h t:=by
 refine ACs ?_;unfold Wl;refine ao.mk λv _ E F aF=>?_
 refine AC.mk (AB E rfl) (XP ⟨_,_,rfl,?_⟩);refine ao.mk λaG _ Q G aH=>?_
 refine ae.mk Q (by simp) λf j H aI=>?_
 have o:Ext h f:=(F.trans G).more H λc q=>by subst q;exact F.size
 have R:h.size≠v.size:=by omega
 have b:=H.ah (G.ah E (λh=>h)) R;have j:f[v.size]? =some (J2 #[J6 J9 (fN e.kind)] Bp (0,0)):=j;obtain⟨S,T,U,V,W⟩:=rn e.kind;refine ai.mk λK I=>?_
 have g:Ef e=false->K (true,()) f:=λw=>by
  refine I _ _ (af.yes rfl ?_);have:=u f o;have r:Em e=false:=by simp[Em,w]
  rw[r] at this;exact this
 have aS:Ef e=true->K (false,()) f:=λw=>by
  refine I _ _ (af.no rfl ?_);refine AC.mk (AB b rfl) ?_;refine ai.mk λX Y=>?_
  have fin:KG e=true-> ∀d,Ext h d->X () d:=λy d x=>by
   refine Y _ _ ?_;have:=u d x;have r:Em e=true:=by simp[Em,w,y]
   rw[r] at this;exact this
  have fail:KG e=false-> ∀d,Ext h d->t (J6 J9 120) d:=λy d x=>by
   have:=u d x;have r:Em e=false:=by simp[Em,y]
   rw[r] at this;exact this
  refine af.intro (λi=>?_) (λi=>?_)
  ·have i:e.kind=1:=by simpa using i
   have k:KG e=(JJ (bl e.data)).isSome:=by unfold KG;rw[if_pos i]
   refine AJ.mk (AB b rfl) (yi hd λaJ sl Z _=>?_);have s:=o.trans Z;cases J:JJ (bl e.data) with
   |none=>
    refine⟨⟨none,0,0⟩,_,_,rfl,?_⟩;refine ao.mk λab _ z A ac=>ae.two z λB ad C ag=>af.yes rfl ?_
    exact fail (by rw[k,J];rfl) B ((s.trans A).more C λc q=>by subst q;exact s.size)
   |some p=>
    refine⟨sl,_,_,rfl,?_⟩;refine ao.mk λab _ z A ac=>ae.two z λB ad C ag=>af.no rfl ?_
    exact fin (by rw[k,J];rfl) B ((s.trans A).more C λc q=>by subst q;exact s.size)
  ·have i:e.kind≠1:=by simpa using i
   refine af.intro (λl=>?_) (λl=>?_)
   ·have l:e.kind=12:=by simpa using l
    have k:KG e=Aj e.data:=by unfold KG;rw[if_neg i,if_pos l]
    refine AJ.mk (AB b rfl) (Ep ⟨_,rfl,?_⟩);cases L:Aj e.data with
    |false=>exact fail (by rw[k,L]) f o
    |true=>exact fin (by rw[k,L]) f o
   ·have l:e.kind≠12:=by simpa using l
    have k:KG e=true:=by unfold KG;rw[if_neg i,if_neg l]
    exact fin k f o
 refine af.intro (λa=>g (by simp at a;simp[Ef,a])) (λah=>?_);refine AC.mk (AO b rfl) (af.intro (λa=>g ?_) (λaj=>?_))
 ·have:bV e.id 1 500=false:=by simp at a;unfold bV;simp;omega
  simp[Ef,this]
 refine AC.mk (AO b rfl) (af.intro (λa=>g ?_) (λak=>?_))
 ·have:bV e.id 1 500=false:=by simp at a;unfold bV;simp;omega
  simp[Ef,this]
 have al:1<=e.id/\e.id<=500:=by simp at aj ak;omega
 refine AC.mk (AB b rfl) (af.intro (λa=>g ?_) (λam=>?_))
 ·have:bV e.tick 0 1099511627776=false:=by simp at a;unfold bV;simp;omega
  simp[Ef,this]
 refine AC.mk (AB b rfl) (af.intro (λa=>g ?_) (λan=>?_))
 ·have:bV e.tick 0 1099511627776=false:=by simp at a;unfold bV;simp;omega
  simp[Ef,this]
 have ap:bV e.tick 0 1099511627776=true:=by simp at am an;rw[Ba];omega
 have ar:bV e.id 1 500=true:=Ba.2 al;have au:bV e.kind 1 18=true:=by simpa using ah
 refine AC.mk (AB b rfl) (AC.mk (AO b rfl) ?_);rw[wrap_i64 (n:=e.id-1) (by omega) (by omega)];refine rp (fl:=cW e.kind) j (by rw[S,mq (by decide)]) ⟨_,rfl,?_⟩;refine af.intro (λa=>g ?_) (λav=>?_)
 ·have:cX (cW e.kind) e.ref 1 (e.id-1)=false:=by simpa using a
  simp[Ef,this]
 have aw:cX (cW e.kind) e.ref 1 (e.id-1)=true:=by simpa using av
 refine AC.mk (AB b rfl) ?_;refine rp (fl:=dp e.kind) j (by rw[T,mq (by decide)]) ⟨_,rfl,?_⟩;refine af.intro (λa=>g ?_) (λax=>?_)
 ·have:cX (dp e.kind) e.step 0 15=false:=by simpa using a
  simp[Ef,this]
 have ay:cX (dp e.kind) e.step 0 15=true:=by simpa using ax
 refine AC.mk (AB b rfl) ?_;refine rp (fl:=dD e.kind) j (by rw[U,mq (by decide)]) ⟨_,rfl,?_⟩;refine af.intro (λa=>g ?_) (λaz=>?_)
 ·have:cX (dD e.kind) e.turn 1 5=false:=by simpa using a
  simp[Ef,this]
 have aA:cX (dD e.kind) e.turn 1 5=true:=by simpa using az
 have m:Ef e=((!e.aL||dT e.kind)&&(decide (e.data=Hr)||dZ e.kind)):=by simp[Ef,au,ar,ap,aw,ay,aA]
 have M:(!e.aL||dT e.kind)=true->AJ f ((⟨h.size,0,none⟩:Q6).add 7) λaC=>
   af (!bO aC (⟨#[]⟩:A2L)) (AC J9 f (⟨v.size,0,none⟩:Q6) λaD=>K (((Gd J9 aD (16:Int))==(0:Int)),()) f) (K (false,()) f):=λaE=>by
  rw[aE,DB] at m;refine AJ.mk (AB b rfl) ?_;rw[oA];refine af.intro (λa=>?_) (λa=>?_)
  ·have a:decide (e.data=Hr)=false:=by simpa using a
   refine AC.mk (AO j rfl) ?_;rw[W,mq (by decide)];rw[a,SU] at m;cases N:dZ e.kind with
   |false=>exact g (by rw[m,N])
   |true=>exact aS (by rw[m,N])
  ·have a:decide (e.data=Hr)=true:=by simpa using a
   rw[a,Bool.true_or] at m;exact aS m
 refine Aa.mk (AB b rfl) (af.intro (λa=>?_) (λa=>?_))
 ·refine AC.mk (AO j rfl) ?_;rw[V,mq (by decide)];refine af.intro (λD=>g ?_) (λD=>M ?_)
  ·have:dT e.kind=false:=by simpa using D
   rw[m,a,this];rfl
  ·have:dT e.kind=true:=by simpa using D
   rw[this,IF]
 ·exact M (by rw[a];rfl)
theorem pO:QF P ER G5 fj.w 32=true:=by kernel_rfl
theorem pP:QF P Df GU gb.w 24=true:=by kernel_rfl
theorem AT2:(zeroValue G5).calc P=some Jb.z.v:=by kernel_rfl
theorem AT4:(zeroValue GU).calc P=some Ck.z.v:=by kernel_rfl
def pQ(d:Option Nat):Int:=match d with|some i=>(i:Int)|none=> -1
theorem tD {f:Type}{p:f->Bool}{l:List f}{d:Nat}(m:d<=l.length)(h: ∀x∈l.take d,p x=false):(∀ x,l[d]? =some x->p x=true->l.findIdx? p=some d)/\(d=l.length->l.findIdx? p=none):=by
 constructor
 ·intro x i j;rw[List.findIdx?_eq_some_iff_getElem];obtain⟨k,e⟩:=List.getElem?_eq_some_iff.1 i;refine⟨k,by rw[e];exact j,λg n=>?_⟩;have:=h l[g] (List.mem_iff_getElem?.2 ⟨g,by simp_all⟩);simp[this]
 simp_all
section
variable {A : aq} {h : aa} {R : A2K} {s : bd} {e : Ev} {a b c : Sl}
theorem ARs {p:Jb->Bool}{sl:Sl}{l:List Jb}{f:J0}(v:View fj h sl l)(H:l.length<=1000000)(y: ∀(x:Jb) (d:aa) (o:A2K),Ext h d->(∀ g,Ext d g->o (J3 (p x)) g)->Ed A P f #[x.v] d o)
  (q: ∀g,Ext h g->R (J6 J9 (pQ (l.findIdx? p))) g):AA A P CX #[J4 sl.p sl.len sl.cap,f] h R:=by
 refine Ii ?_;unfold Ew;refine Loop.rule (λm x d=> ∃i:Nat,x=((i:Int),())/\m=l.length-i/\i<=l.length/\Ext h d/\ ∀x∈l.take i,p x=false) ?_ ⟨0,rfl,rfl,AD _,Mod.refl,by simp⟩;rintro K m _ r ⟨i,rfl,rfl,z,j,B⟩ C;obtain⟨D,E⟩:=tD z B;dsimp only;have I:=v.len;refine af.intro (λn=>?_) (λn=>?_)
 ·have k:i<l.length:=by simp at n;omega
  obtain⟨x,t⟩: ∃x,l[i]? =some x:=⟨_,A2 k⟩;refine(v.ext j).idx t λJ _ F=>kW.mk x F ?_
  refine y x r _ j λG u=>⟨_,rfl,?_⟩
  refine af.intro (λw=>?_) (λw=>?_)
  ·have:=q G (j.trans u);rw[D x t w] at this;exact this
  ·rw[Ae (by omega)];refine C (l.length-(i+1)) _ _ (by omega) ⟨i+1,rfl,rfl,k,j.trans u,λL M=>?_⟩
   grind [List.take_add_one,Option.toList_some,List.mem_singleton]
 ·have k:i=l.length:=by simp at n;omega
  have:=q r j;rw[E k] at this;exact this
theorem ARU {p:Ck->Bool}{sl:Sl}{l:List Ck}{f:J0}(v:View gb h sl l)(H:l.length<=1000000)(y: ∀(x:Ck) (d:aa) (o:A2K),Ext h d->(∀ g,Ext d g->o (J3 (p x)) g)->Ed A P f #[x.v] d o)
  (q: ∀g,Ext h g->R (J6 J9 (pQ (l.findIdx? p))) g):AA A P Cy #[J4 sl.p sl.len sl.cap,f] h R:=by
 refine HZ ?_;unfold EP;refine Loop.rule (λm x d=> ∃i:Nat,x=((i:Int),())/\m=l.length-i/\i<=l.length/\Ext h d/\ ∀x∈l.take i,p x=false) ?_ ⟨0,rfl,rfl,AD _,Mod.refl,by simp⟩;rintro K m _ r ⟨i,rfl,rfl,z,j,B⟩ C;obtain⟨D,E⟩:=tD z B;dsimp only;have I:=v.len;refine af.intro (λn=>?_) (λn=>?_)
 ·have k:i<l.length:=by simp at n;omega
  obtain⟨x,t⟩: ∃x,l[i]? =some x:=⟨_,A2 k⟩;refine(v.ext j).idx t λJ _ F=>od.mk x F ?_
  refine y x r _ j λG u=>⟨_,rfl,?_⟩
  refine af.intro (λw=>?_) (λw=>?_)
  ·have:=q G (j.trans u);rw[D x t w] at this;exact this
  ·rw[Ae (by omega)];refine C (l.length-(i+1)) _ _ (by omega) ⟨i+1,rfl,rfl,k,j.trans u,λL M=>?_⟩
   grind [List.take_add_one,Option.toList_some,List.mem_singleton]
 ·have k:i=l.length:=by simp at n;omega
  have:=q r j;rw[E k] at this;exact this
theorem AS5(o:View fj h b s.au)(q:s.au.length<=1000000)(r: ∀f,Ext h f->R (J6 J9 (pQ (lW s e.ref e.turn))) f):AA A P T9 #[(s.V a b c).v,e.v] h R:=by
 refine AGI ?_;unfold uv;refine ao.mk λt _ u v F=>ao.mk λG _ w g H=>?_
 have i:=v.trans g;refine AZ.mk (s:=b) (AB (g.ah u λh=>h) rfl) (ARs (o.ext i) q (p:=λj=>decide (j.id=e.ref)&&decide (j.turn=e.turn)) (λx I J y z=>?_) λB C=>⟨_,rfl,r B (i.trans C)⟩);refine Ed.func (first:= #[]) (bT:= #[Am t.size]) (by kernel_rfl) (ACf ?_);unfold Vx;refine ao.mk λD _ k l K=>?_
 have m:=(y.trans l).ah w λh=>h
 have:=z D l;refine AC.mk (n:=x.id) (AO k rfl) (AC.mk (n:=e.ref) (AB m rfl) (af.intro (λd=>?_) (λd=>?_)))
 ·have d:x.id=e.ref:=by simpa using d
  refine AC.mk (n:=x.turn) (AB k rfl) (AC.mk (n:=e.turn) (AB m rfl) ?_);have E:(x.turn==e.turn)=(decide (x.id=e.ref)&&decide (x.turn=e.turn)):=by grind
  rw[E];exact this
 ·have d:x.id≠e.ref:=by simpa using d
  rw[decide_eq_false d,DG] at this;exact this
theorem step_ok {f d:Int}(F:View QT h a s.prog.steps)(u: ∀j,Ext h j->R (J1 #[((stepOf s.prog f d).getD bP.z).v,J3 (stepOf s.prog f d).isSome]) j):AA A P LP #[(s.V a b c).v,J6 J9 f,J6 J9 d] h R:=by
 refine AEg ?_;unfold YR;refine ao.mk λG _ H I S=>ao.mk λv _ w y T=>?_
 have z:=I.trans y;have o:=y.ah H λh=>h
 have p:=F.ext z;have B: ∀j,Mod (· =G.size) v j->Ext h j:=λj m=>z.more m λc J=>by subst J;omega
 refine ai.mk λK C=>?_
 have no:stepOf s.prog f d=none->K (true,()) v:=λL=>by
  refine C _ _ (af.yes rfl (aF.mk w (A0 6) λk q r M=>Xy.mk bP.z (Cu q rfl) ?_));have:=u k (B k r);rw[L] at this;exact this
 refine af.intro (λg=>no ?_) (λg=>?_)
 ·have g:f<0:=by simpa using g
  unfold stepOf;rw[if_neg (by omega)]
 have U:0<=f:=by simp at g;omega
 obtain⟨i,rfl⟩: ∃i:Nat,f=i:=⟨f.toNat,by omega⟩;refine AZ.mk (s:=a) (AO o rfl) ?_;rw[p.len];refine af.intro (λg=>no ?_) (λg=>?_)
 ·simp_all [stepOf,if_pos,A6,LS]
 have N:i<s.prog.steps.length:=by simp at g;omega
 obtain⟨x,D⟩: ∃x,s.prog.steps[i]? =some x:=⟨_,A2 N⟩;have l:stepOf s.prog (i:Int) d=if x.kind=d then some x else none:=by simp_all [stepOf,if_pos,A6]
 refine AZ.mk (s:=a) (AO o rfl) (p.idx D λV _ O=>?_);have E:=O 0 _ rfl;rw[add_zero] at E;refine AC.mk E ?_;by_cases n:x.kind=d
 ·rw[if_pos n] at l;have t:(x.kind != d)=false:=by simp[n]
  rw[t];refine C _ _ (af.no rfl (AZ.mk (s:=a) (AO o rfl) (p.idx D λW _ Q=>Xy.mk x Q (aF.mk w (A0 6) λk q r M=>Xy.mk x (Cu q rfl) ?_))));have:=u k (B k r);rw[l] at this;exact this
 ·rw[if_neg n] at l;have t:(x.kind != d)=true:=by simp[n]
  rw[t];exact no l
theorem APV {d:Jb}(r:View QT h a s.prog.steps)(t: ∀i,Ext h i->R (J6 J9 (JS s.prog d)) i):AA A P Px #[(s.V a b c).v,d.v] h R:=by
 refine ADR ?_;unfold WS;refine ao.mk λD _ u v E=>ao.mk λw _ j k F=>?_
 have l:=v.trans k;refine Az.mk (s.V a b c) (FH (k.ah u λh=>h)) (AC.mk (n:=d.step) (AB j rfl) (step_ok (r.ext l) λG m=>jc.mk _ ⟨_,rfl,ao.mk λH _ y z I=>aF.mk y (A0 6) λo g B J=>?_⟩));rw[pH] at g;have p:Ext w o:=(m.trans z).more B λc C=>by subst C;exact m.size
 have:=t o (l.trans p);unfold JS at this;cases q:stepOf s.prog d.step 1 with
 |none=>rw[q] at this;exact af.yes rfl this
 |some x=>
  rw[q] at g this;refine af.no rfl (Aa.mk (n:=d.aL) (AB (p.ah j λh=>h) rfl) (af.intro (λf=>?_) (λf=>?_)))
  ·have f:d.aL=true:=f;dsimp only at this;rw[if_pos f] at this;exact AC.mk (n:=x.aA) (AB g rfl) this
  ·have f:d.aL=false:=f;dsimp only at this;rw[if_neg (by simp[f])] at this;exact AC.mk (n:=x.tries) (AB g rfl) this
theorem AJ5 {sl:Sl}{l:List Jb}{i:Nat}(f:Own fj G5 h sl l)(g:i<l.length)(j: ∀d,Own fj G5 d ⟨sl.p,l.length-1,sl.cap⟩ (l.eraseIdx i)->Mod (λb=>sl.ah=some b) h d->R (J4 sl.p (l.length-1) sl.cap) d):
  AA A P Dn #[J4 sl.p sl.len sl.cap,J6 J9 (i:Int),J6 J9 ((i+1:Nat):Int)] h R:=
 Jd (xD (E:=fj) (zv:=Jb.z.v) pO AT2 (by decide) rfl f g j)
theorem AJ4 {sl:Sl}{l:List Ck}{i:Nat}(f:Own gb GU h sl l)(g:i<l.length)(j: ∀d,Own gb GU d ⟨sl.p,l.length-1,sl.cap⟩ (l.eraseIdx i)->Mod (λb=>sl.ah=some b) h d->R (J4 sl.p (l.length-1) sl.cap) d):
  AA A P DW #[J4 sl.p sl.len sl.cap,J6 J9 (i:Int),J6 J9 ((i+1:Nat):Int)] h R:=
 II (xD (E:=gb) (zv:=Ck.z.v) pP AT4 (by decide) rfl f g j)
theorem nq {h:aa}{b:Nat}{T:Q7}{x i:bG}{K:bG->aa->Prop}(j:h[b]? =some (J2 i.c T (0,0)))(k: ∀d,Mod (· =b) h d->K x d):
  aF h ⟨b,0,none⟩ x.l λf=>Az f ⟨b,0,none⟩ λl=>K l f:=
 aF.mk j (A0 12) λd g m s=>Az.mk x (FH (by rw[O9] at g;exact g)) (k d m)
theorem AST {s:bd}{f turn:Int}{i:Nat}(h:lW s f turn=some i): ∃d,s.au[i]? =some d/\d.id=f/\d.turn=turn:=by
 unfold lW at h;obtain⟨g,j,_⟩:=List.findIdx?_eq_some_iff_getElem.1 h
 simp_all
theorem ARB(N:JO h s a b c)(W:Own fj G5 h b s.au)(D:s.au.length<=1000)(a4:6<=e.kind/\e.kind<=9)(q:0<=e.turn/\e.turn<=1000)
  (X: ∀y (t:bd) (b':Sl),Mod (λx=>b.ah=some x\/h.size<=x) h y->(∀ x,b'.ah=some x->b.ah=some x\/h.size<=x)->(∀ t',Lm s e=some t'->t=t'/\View fj y b' t'.au)->R (J1 #[(t.V a b' c).v,J3 (Lm s e).isSome]) y):AA A P Rp #[(s.V a b c).v,e.v] h R:=by
 refine AEy ?_;unfold X9;refine lJ λaq k=>AC.mk (k.bL (j:=1) rfl) ?_
 have Y:=k.ext;have a5:=Y.size;have a6:=Ai k.b2;have Z: ∀x,b.ah=some x->x<h.size:=λx f=>W.lt f
 have O:Lm s e=none-> ∀ {l:aa},Ext aq l->Az l ⟨h.size,0,none⟩ λt=>aF l ⟨h.size+2,0,none⟩ t.l λF=>Az F ⟨h.size+2,0,none⟩ λab=>R (J1 #[ab.v,J3 false]) F:=λar l x=>by
  refine(k.on x).ret λy x'=>?_
  have:=X y s b x'.mod (λa7 aJ=> .inl aJ) (λt' q=>by rw[ar] at q;cases q);rw[ar] at this;exact this
 refine af.intro (λz=>?_) (λz=>?_)
 ·have z:e.kind=6:=by simpa using z
  refine k.eU (AC.mk (k.bL (j:=4) rfl) (step_ok (N.steps.ext Y) λaK C=>jc.mk _ ⟨_,rfl,ao.mk λQ _ aL ac a8=>aF.mk aL (A0 6) λw ad B aM=>?_⟩));rw[pH] at ad;have S:Ext aq w:=(C.trans ac).more B λc d=>by subst d;exact C.size
  have r:=k.on S;refine ai.mk λK av=>?_
  cases aw:stepOf s.prog e.step 1 with
  |none=>exact af.yes rfl (av _ _ (af.yes rfl (O (by unfold Lm;rw[if_pos z,aw];rfl) S)))
  |some x=>
   rw[aw] at ad;have key: ∀u:Bool,(u=true↔e.aL=true/\x.aL=Hr)->K (u,()) w:=λu ag=>by
    refine av _ _ (af.intro (λo=>O ?_ S) (λo=>?_))
    ·unfold Lm;simp_all
    have o:u=false:=o;have g:Lm s e=some {s with au:=s.au++ [⟨e.id,e.step,e.aL,1⟩]}:=by unfold Lm;simp_all
    refine AZ.mk (s:=b) (r.cL (j:=8) rfl) (AC.mk (r.bL (j:=0) rfl) (AC.mk (r.bL (j:=4) rfl) (Aa.mk (r.bL (j:=6) rfl) ?_)));refine ao.aY (E:=fj) (x:=⟨e.id,e.step,e.aL,1⟩) (s:=b) rfl pO (W.ext r.ext) (by omega) (by simp only[maxLen];omega) λb' p aN G aO a9=>?_
    have ba:=S.size;have ne: ∀ax,b.ah=some (h.size+ax)->False:=λax f=>by have:=Z _ f;omega
    refine ae.bL (dH:=(({s with au:=s.au++ [⟨e.id,e.step,e.aL,1⟩]}:bd).V a b' c).c) (G.ah r.b0 (ne 0)) (of_decide_eq_true rfl) rfl λH ah T aP=>?_
    refine Az.mk (({s with au:=s.au++ [⟨e.id,e.step,e.aL,1⟩]}:bd).V a b' c) (FH ah) (nq (T.ah (G.ah r.b2 (ne 2)) (by omega)) λay aQ=>?_);have aR: ∀x,b'.ah=some x->b.ah=some x\/h.size<=x:=λx f=>(aO x f).imp id λh=>by omega
    have az:Mod (λc=>c=h.size\/c=h.size+2) p ay:=(T.aj λc _ d=> .inl d).trans (aQ.aj λc _ d=> .inr d);have I:=X ay {s with au:=s.au++ [⟨e.id,e.step,e.aL,1⟩]} b' ((r.ext.mod.trans (G.aj λc _ d=> .inl d)).trans (az.aj λc _ d=> .inr (by omega))) aR (λt' q=>?_)
    ·rw[g] at I;exact I
    ·rw[g] at q;cases q;refine⟨rfl,(aN.mod az λx f d=>?_).view⟩
     grind
   refine af.no rfl (Aa.mk (r.bL (j:=6) rfl) (af.intro (λJ=>?_) (λJ=>?_)))
   ·have J:e.aL=true:=J;refine AJ.mk (n:=x.aL) (AB ad rfl) (key _ ?_);rw[oA,decide_eq_true_eq]
    grind
   ·have J:e.aL=false:=J;exact key _ ⟨(λh=>by cases h),λh=>(by grind)⟩
 have z:e.kind≠6:=by simpa using z
 refine k.eU (k.kC (AS5 (N.au.ext Y) (by omega) λaK C=>⟨_,rfl,?_⟩));cases aA:lW s e.ref e.turn with
 |none=>exact af.yes rfl (O (by unfold Lm;rw[if_neg z,aA];rfl) C)
 |some i=>
  obtain⟨j,L,bb,bc⟩:=AST aA;have aS:=(List.getElem?_eq_some_iff.1 L).1;have M:=k.on C;show af (decide ((i:Int)<0)) _ _;refine af.no (decide_eq_false (by omega)) ?_;have g:Lm s e=if e.kind=8 then(if e.turn=JS s.prog j then none else some {s with au:=s.au.set i {j with turn:=j.turn+1}}) else if e.kind=7\/e.turn=JS s.prog j then some {s with au:=s.au.eraseIdx i,fresh:=true} else none:=by
   unfold Lm
   simp_all
  refine AC.mk (M.bL (j:=5) rfl) (M.eU (AZ.mk (s:=b) (M.cL (j:=8) rfl) ?_));refine(N.au.ext M.ext).idx L λbe _ aT=>kW.mk j aT ?_
  refine APV (N.steps.ext M.ext) λQ ac=>⟨_,rfl,?_⟩
  have aj:=C.trans ac;have m:=k.on aj;have bf:=aj.size;have U:=W.ext m.ext;refine⟨m.bL (j:=5) rfl,ai.mk λaU aC=>?_⟩;have yes: ∀ {l:aa} {t:bd} {b':Sl} {S':Nat->Prop},Lm s e=some t->Own fj G5 l b' t.au->Mod (λx=>b.ah=some x\/x=h.size) Q l->l[h.size]? =some (J2 (t.V a b' c).c Ar (0,0))->b'.p=b.p->
    Az l ⟨h.size,0,none⟩ λt=>aF l ⟨h.size+2,0,none⟩ t.l λF=>Az F ⟨h.size+2,0,none⟩ λab=>R (J1 #[ab.v,J3 true]) F:=λ{l t b' S'} g aV aD aW bg=>by
   have aX: ∀x,b'.ah=some x->b.ah=some x:=λx f=>by grind [Sl.ah]
   refine Az.mk (t.V a b' c) (FH aW) (nq (aD.ah m.b2 λd=>by
    grind) λy aE=>?_)
   have I:=X y t b' ((m.ext.mod.trans (aD.aj λc _ d=>d.imp id λh=>by omega)).trans (aE.aj λc _ d=> .inr (by omega))) (λx f=> .inl (aX x f)) (λt' q=>?_)
   ·rw[g] at I;exact I
   ·rw[g] at q;cases q;exact⟨rfl,(aV.mod aE λx f d=>by grind).view⟩
  have aG: ¬b.ah=some h.size:=λf=>by have:=Z _ f;omega
  have aH:(Lm s e=if e.kind=7\/(e.kind=9/\e.turn=JS s.prog j) then some {s with au:=s.au.eraseIdx i,fresh:=true} else none)->aU (false,()) Q:=λV=>by
   refine aC _ _ (af.no rfl (ai.mk λaY aZ=>?_));have ak: ∀u:Bool,(u=true↔e.kind=7\/(e.kind=9/\e.turn=JS s.prog j))->aY (u,()) Q:=λu ag=>by
    refine aZ _ _ (af.intro (λo=>?_) (λo=>O ?_ aj))
    ·rw[if_pos (ag.1 o)] at V;refine AZ.mk (s:=b) (m.cL (j:=8) rfl) ?_;show AA A P _ #[_,J6 J9 (i:Int),J6 J9 (J8 J9 ((i:Int)+1))] _ _;rw[Ae (by omega)];refine AJ5 U aS λw al B=>⟨⟨b.p,s.au.length-1,b.cap⟩,rfl,?_⟩
     refine ae.bL (dH:=(({s with au:=s.au.eraseIdx i}:bd).V a ⟨b.p,s.au.length-1,b.cap⟩ c).c) (B.ah m.b0 aG) (of_decide_eq_true rfl) rfl λp a0 G bh=>?_
     refine ae.bL (dH:=(({s with au:=s.au.eraseIdx i,fresh:=true}:bd).V a ⟨b.p,s.au.length-1,b.cap⟩ c).c) a0 (of_decide_eq_true rfl) rfl λH ah T aP=>?_
     have aI:=G.trans T;exact yes (t:= {s with au:=s.au.eraseIdx i,fresh:=true}) (b':=⟨b.p,s.au.length-1,b.cap⟩) (S':=λ_=>True) V (al.mod aI λx f d=>by have:=Z x f;omega) ((B.aj λc _ d=> .inl d).trans (aI.aj λc _ d=> .inr d)) ah rfl
    ·have o:u=false:=o;rw[if_neg λh=>by rw[ag.2 h] at o;cases o] at V;exact V
   refine AC.mk (m.bL (j:=1) rfl) (af.intro (λw=>?_) (λw=>?_))
   ·have am:e.kind=7:=by simpa using w
    exact ak _ (by simp[am])
   ·have am:e.kind≠7:=by simpa using w
    refine AC.mk (m.bL (j:=1) rfl) (af.intro (λH=>?_) (λH=>?_))
    ·have an:e.kind=9:=by simpa using H
     exact ak _ (by simp[an])
    ·have an:e.kind≠9:=by simpa using H
     exact ak _ (by simp[am,an])
  refine AC.mk (m.bL (j:=1) rfl) (af.intro (λp=>?_) (λp=>?_))
  ·have p:e.kind=8:=by simpa using p
   rw[if_pos p] at g;by_cases D:e.turn=JS s.prog j
   ·rw[if_pos D] at g;have ap:(!(e.turn==JS s.prog j))=false:=by simp[D]
    rw[ap];exact aH (by rw[g,if_neg (by omega)])
   ·rw[if_neg D] at g;have ap:(!(e.turn==JS s.prog j))=true:=by simp[D]
    rw[ap];refine aC _ _ (af.yes rfl (AZ.mk (s:=b) (m.cL (j:=8) rfl) (U.view.idx L λbi _ a1=>AC.mk (n:=j.turn) (a1 3 _ rfl) (U.view.idx L λa2 a3 _=>?_))));rw[wrap_i64 (by omega) (by omega)];refine Own.store (E:=fj) (i:=i) (j:=3) (x:=j) (x':= {j with turn:=j.turn+1}) (v:=J6 J9 (j.turn+1)) U L rfl (by decide) (λw al B aM=>?_) a2 a3;exact yes (t:= {s with au:=s.au.set i {j with turn:=j.turn+1}}) (b':=b) (S':=λ_=>True) g al (B.aj λc _ d=> .inl d) (B.ah m.b0 aG) rfl
  ·have p:e.kind≠8:=by simpa using p
   rw[if_neg p] at g;refine aH ?_;rw[g];have:(e.kind=7\/e.turn=JS s.prog j)↔(e.kind=7\/e.kind=9/\e.turn=JS s.prog j):=by omega
   simp only[this]
theorem AQB(ab:JO h s a b c)(M:Own gb GU h c s.al)(aI:s.al.length<=1000)(aJ:e.kind=10\/e.kind=11)(k:0<=e.tick/\e.tick<=1099511627776)(an: ∀x,stepOf s.prog e.step 2=some x->0<=x.wait/\x.wait<=1099511627776)
  (N: ∀v (t:bd) (o:Sl),Mod (λx=>c.ah=some x\/h.size<=x) h v->(∀ x,o.ah=some x->c.ah=some x\/h.size<=x)->(∀ t',KF s e=some t'->t=t'/\View gb v o t'.al)->R (J1 #[(t.V a b o).v,J3 (KF s e).isSome]) v):AA A P QH #[(s.V a b c).v,e.v] h R:=by
 refine ACy ?_;unfold Vt;refine lJ λO f=>AC.mk (f.bL (j:=1) rfl) ?_
 have Q:=f.ext;have aK:=Q.size;have aL:=Ai f.b2;have ac: ∀x,c.ah=some x->x<h.size:=λx g=>M.lt g
 have ad:KF s e=none-> ∀ {w:aa},Ext O w->Az w ⟨h.size,0,none⟩ λt=>aF w ⟨h.size+2,0,none⟩ t.l λag=>Az ag ⟨h.size+2,0,none⟩ λap=>R (J1 #[ap.v,J3 false]) ag:=λah w x=>by
  refine(f.on x).ret λv aq=>?_
  have:=N v s c aq.mod (λaM ar=> .inl ar) (λt' k=>by rw[ah] at k;cases k);rw[ah] at this;exact this
 have H: ∀q,c.ah=some (h.size+q)->False:=λq g=>by have:=ac _ g;omega
 refine af.intro (λl=>?_) (λl=>?_)
 ·have l:e.kind=10:=by simpa using l
  refine f.eU (AC.mk (f.bL (j:=4) rfl) (step_ok (ab.steps.ext Q) λS m=>jc.mk _ ⟨_,rfl,ao.mk λaN _ I au aO=>aF.mk I (A0 6) λT U y aP=>?_⟩));rw[pH] at U;have V:Ext O T:=(m.trans au).more y λc d=>by subst d;exact m.size
  have r:=f.on V;cases J:stepOf s.prog e.step 2 with
  |none=>
   refine ai.mk λK W=>?_
   exact af.no rfl (W _ _ (ad (by unfold KF;rw[if_pos l,J];rfl) V))
  |some x=>
   refine ai.mk λK W=>?_
   rw[J] at U;obtain⟨aQ,w2⟩:=an x J;have z:KF s e=some {s with al:=s.al++ [⟨e.id,e.step,e.tick+x.wait⟩]}:=by unfold KF;rw[if_pos l,J];rfl
   refine af.yes rfl (AZ.mk (s:=c) (r.cL (j:=9) rfl) (AC.mk (r.bL (j:=0) rfl) (AC.mk (r.bL (j:=4) rfl) (AC.mk (r.bL (j:=2) rfl) (AC.mk (n:=x.wait) (AB U rfl) ?_)))));rw[wrap_i64 (by omega) (by omega)];refine ao.aY (E:=gb) (x:=⟨e.id,e.step,e.tick+x.wait⟩) (s:=c) rfl pP (M.ext r.ext) (by omega) (by simp only[maxLen];omega) λo aj av B aw aR=>?_
   have aS:=V.size;refine ae.bL (dH:=(({s with al:=s.al++ [⟨e.id,e.step,e.tick+x.wait⟩]}:bd).V a b o).c) (B.ah r.b0 (H 0)) (of_decide_eq_true rfl) rfl λax X L ay=>?_
   refine W _ _ (Az.mk (({s with al:=s.al++ [⟨e.id,e.step,e.tick+x.wait⟩]}:bd).V a b o) (FH X) (nq (L.ah (B.ah r.b2 (H 2)) (by omega)) λC Y=>?_));have az: ∀x,o.ah=some x->c.ah=some x\/h.size<=x:=λx g=>(aw x g).imp id λh=>by omega
   have D:Mod (λc=>c=h.size\/c=h.size+2) aj C:=(L.aj λc _ d=> .inl d).trans (Y.aj λc _ d=> .inr d);have F:=N C {s with al:=s.al++ [⟨e.id,e.step,e.tick+x.wait⟩]} o ((r.ext.mod.trans (B.aj λc _ d=> .inl d)).trans (D.aj λc _ d=> .inr (by omega))) az (λt' k=>?_)
   ·rw[z] at F;exact F
   ·rw[z] at k;cases k;refine⟨rfl,(av.mod D λx g d=>?_).view⟩
    grind
 have l:e.kind≠10:=by simpa using l
 have aA:O[h.size+1]? =some (J2 e.c A7 (0,0)):=f.b1;refine AZ.mk (s:=c) (f.cL (j:=9) rfl) (ARU (p:=λq=>decide (q.id=e.ref)&&decide (q.tick<=e.tick)) (ab.al.ext Q) (by omega) (λx w aT aC aD=>?_) λS m=>⟨_,rfl,?_⟩)
 ·refine Ed.func (first:= #[]) (bT:= #[Am (h.size+1)]) (by kernel_rfl) (AAJ ?_);unfold Sr;refine ao.mk λS _ ak m aU=>?_
  have I:=(aC.trans m).ah aA λh=>h
  have:=aD S m;refine AC.mk (n:=x.id) (AO ak rfl) (AC.mk (n:=e.ref) (AB I rfl) (af.intro (λu=>?_) (λu=>?_)))
  ·have u:x.id=e.ref:=by simpa using u
   rw[decide_eq_true u,DB] at this;exact AC.mk (n:=e.tick) (AB I rfl) (AC.mk (n:=x.tick) (AB ak rfl) this)
  ·have u:x.id≠e.ref:=by simpa using u
   rw[decide_eq_false u,DG] at this;exact this
 cases Z:(s.al.findIdx? λq=>decide (q.id=e.ref)&&decide (q.tick<=e.tick)) with
 |none=>exact af.yes rfl (ad (by unfold KF;rw[if_neg l,Z];rfl) m)
 |some i=>
  have aE:i<s.al.length:=(List.findIdx?_eq_some_iff_getElem.1 Z).1;have z:KF s e=some {s with al:=s.al.eraseIdx i,fresh:=true}:=by unfold KF;rw[if_neg l,Z];rfl
  have G:=f.on m;have aV:=m.size;show af (decide ((i:Int)<0)) _ _;refine af.no (decide_eq_false (by omega)) (AZ.mk (s:=c) (G.cL (j:=9) rfl) ?_);show AA A P _ #[_,J6 J9 (i:Int),J6 J9 (J8 J9 ((i:Int)+1))] _ _;rw[Ae (by omega)];refine AJ4 (M.ext G.ext) aE λT aG y=>⟨⟨c.p,s.al.length-1,c.cap⟩,rfl,?_⟩
  refine ae.bL (dH:=(({s with al:=s.al.eraseIdx i}:bd).V a b ⟨c.p,s.al.length-1,c.cap⟩).c) (y.ah G.b0 (H 0)) (of_decide_eq_true rfl) rfl λaj aH B aW=>?_
  refine ae.bL (dH:=(({s with al:=s.al.eraseIdx i,fresh:=true}:bd).V a b ⟨c.p,s.al.length-1,c.cap⟩).c) aH (of_decide_eq_true rfl) rfl λax X L ay=>?_
  have am:=B.trans L;refine Az.mk (({s with al:=s.al.eraseIdx i,fresh:=true}:bd).V a b ⟨c.p,s.al.length-1,c.cap⟩) (FH X) (nq (am.ah (y.ah G.b2 (H 2)) (by omega)) λC Y=>?_);have D:Mod (λc=>c=h.size\/c=h.size+2) T C:=(am.aj λc _ d=> .inl d).trans (Y.aj λc _ d=> .inr d);have F:=N C {s with al:=s.al.eraseIdx i,fresh:=true} ⟨c.p,s.al.length-1,c.cap⟩ ((G.ext.mod.trans (y.aj λc _ d=> .inl d)).trans (D.aj λc _ d=> .inr (by omega))) (λx g=> .inl g) (λt' k=>?_)
  ·rw[z] at F;exact F
  ·rw[z] at k;cases k;exact⟨rfl,(aG.mod D λx g d=>by have:=ac x g;omega).view⟩
end
theorem VB {A:aq}{m:Type}{E:cD m}{t T:Q7}{n:Nat}(w:QF P t T E.w n=true){h:aa}{s:Sl}{l:List m}{R:A2K}(v:View E h s l)(y:l.length*n<=140737488355328)(z:l.length<=maxLen)
  (o: ∀d i,Own E T i d l->(∀ c,d.ah=some c->h.size<=c)->Ext h i->R (J4 d.p d.len d.cap) i):
  af (s.p.isNone) (R (J4 none 0 0) h) (ao h (J2 #[] T) λb j=>BJ A P (Builtin.append_ #[t,t] t #[J4 (some (⟨b,0,none⟩:Q6)) 0 0,J4 s.p s.len s.cap]) j λv k=> ∃f:Sl,v=J4 f.p f.len f.cap/\R (J4 f.p f.len f.cap) k):=by
 refine af.intro (λp=>?_) (λp=>?_)
 ·have B:s.p=none:=by simpa using p
  have:l= []:=by
   cases l with
   |nil=>rfl
   |cons x l=>
    obtain⟨a,q,_⟩:=v.cells 0 x rfl;rw[B] at q;cases q
  subst this;exact o ⟨none,0,0⟩ h Own.nil (λc g=>by simp[Sl.ah] at g) Mod.refl
 ·refine ao.mk λj _ C r I=>?_
  have D:Own E T j ⟨some ⟨h.size,0,none⟩,0,0⟩ []:=Own.lit (E:=E) (l:= []) C rfl (by simp[maxLen]);refine Fz (s:=⟨some ⟨h.size,0,none⟩,0,0⟩) w D (v.ext r) (by simpa using y) (by simpa using z) λd k F G H _=>o d k F (λc g=>?_) (r.more G λc g=>?_)
  ·rcases H c g with u|u
   ·have e:h.size=c:=by simpa [Sl.ah] using u
    omega
   ·omega
  ·have e:h.size=c:=by simpa [Sl.ah] using g
   omega
section
variable {A : aq} {h : aa} {R : A2K} {s : bd} {e : Ev} {a b c : Sl}
theorem AMW {x:Sl}{l:List Jb}(v:View fj h x l)(i:l.length<=1000)(g: ∀d f,Own fj G5 f d l->(∀ c,d.ah=some c->h.size<=c)->Ext h f->R (J4 d.p d.len d.cap) f):AA A P Dy #[J4 x.p x.len x.cap] h R:=by refine Jj ?_;unfold Fj;exact VB pO v (by omega) (by simp only[maxLen];omega) g
theorem ANr {x:Sl}{l:List Ck}(v:View gb h x l)(i:l.length<=1000)(g: ∀d f,Own gb GU f d l->(∀ c,d.ah=some c->h.size<=c)->Ext h f->R (J4 d.p d.len d.cap) f):AA A P DY #[J4 x.p x.len x.cap] h R:=by refine Ib ?_;unfold Et;exact VB pP v (by omega) (by simp only[maxLen];omega) g
theorem ANK {x:Sl}{l:List bP}(v:View QT h x l)(i:l.length<=1000)(g: ∀d f,Own QT Bn f d l->(∀ c,d.ah=some c->h.size<=c)->Ext h f->R (J4 d.p d.len d.cap) f):AA A P Dl #[J4 x.p x.len x.cap] h R:=by refine JE ?_;unfold FP;exact VB ye v (by omega) (by simp only[maxLen];omega) g
structure j4 (h:aa) (n:Nat) (t:bd) (a b c:Sl) (b' c':Sl):Prop where
 at':JO h t a b' c'
 fb: ∀x,b'.ah=some x->b.ah=some x\/n<=x
 fc: ∀x,c'.ah=some x->c.ah=some x\/n<=x
theorem nv {x:Nat}{P:Prop}(h:(⟨none,0,0⟩:Sl).ah=some x):P:=by simp[Sl.ah] at h
theorem ANH(k:JO h s a b c)(ac:e.kind=1\/12<=e.kind)(V:e.kind=14->0<=s.aZ+s.prog.az/\s.aZ+s.prog.az<=9223372036854775807)
  (S: ∀f (t:bd) (m n:Sl),Ext h f->(∀ t',KU s e=some t'->t=t'/\j4 f h.size t' a b c m n)->R (J1 #[(t.V a m n).v,J3 (KU s e).isSome]) f):AA A P Ry #[(s.V a b c).v,e.v] h R:=by
 refine AEd ?_;unfold Xl;refine lJ λM d=>AC.mk (d.bL (j:=1) rfl) (ai.mk λK W=>?_)
 have yes: ∀ {t:bd} {hh:aa} {m n:Sl},(∀ x,m.ah=some x->b.ah=some x\/h.size<=x)->(∀ x,n.ah=some x->c.ah=some x\/h.size<=x)->JO h t a m n->KU s e=some t-> ∀f,Ext h f->R (J1 #[(t.V a m n).v,J3 true]) f:=λ{t hh m n} X Y N v f x=>by
  have:=S f t m n x (λt' E=>by rw[v] at E;cases E;exact⟨rfl,⟨N.ext x,X,Y⟩⟩);rw[v] at this;exact this
 have O: ∀ {t:bd} {hh:aa},D3 h hh Ar A7 Ar (t.V a b c) e bG.z->JO h t a b c->KU s e=some t->K () hh:=λ{t hh} d N v=>
  W _ _ (d.ret λf x=>yes (hh:=hh) (λ_ h=> .inl h) (λ_ h=> .inl h) N v f x)
 have no: ∀(t:bd) (m n:Sl),KU s e=none-> ∀f,Ext h f->R (J1 #[(t.V a m n).v,J3 false]) f:=λt m n v f x=>by
  have:=S f t m n x (λt' E=>by rw[v] at E;cases E);rw[v] at this;exact this
 have T: ∀r,JO h (ig s r) a ⟨none,0,0⟩ ⟨none,0,0⟩:=λr=>⟨k.steps,View.nil,View.nil⟩
 refine af.intro (λg=>?_) (λg=>?_)
 ·have g:e.kind=12:=by simpa using g
  refine d.set (x':=({s with fresh:=true}:bd).V a b c) (by decide) rfl λC F=>O F ⟨k.steps,k.au,k.al⟩ ?_
  unfold KU;rw[if_pos g]
 have g:e.kind≠12:=by simpa using g
 refine af.intro (λi=>?_) (λi=>?_)
 ·have i:e.kind=13:=by simpa using i
  refine Aa.mk (d.cL (j:=10) rfl) (af.intro (λw=>?_) (λw=>?_))
  ·have w:s.cancel=true:=w;refine d.ret (no s b c ?_);unfold KU;rw[if_neg g,if_pos i,if_pos w]
  ·have w:s.cancel=false:=w;refine d.set (x':=({s with cancel:=true}:bd).V a b c) (by decide) rfl λC F=>F.set (x':=({s with cancel:=true,fresh:=true}:bd).V a b c) (by decide) rfl λH Q=>O Q ⟨k.steps,k.au,k.al⟩ ?_
   unfold KU;rw[if_neg g,if_pos i,if_neg (by simp[w])]
 have i:e.kind≠13:=by simpa using i
 refine af.intro (λl=>?_) (λl=>?_)
 ·have l:e.kind=14:=by simpa using l
  obtain⟨ad,ae⟩:=V l;refine ai.mk λZ ab=>?_
  have key: ∀(I:Bool),(I=true↔s.aQ=true\/s.prog.az=0\/e.tick<s.aZ+s.prog.az)->Z (I,()) M:=λI U=>by
   refine ab _ _ (af.intro (λD=>?_) (λD=>?_))
   ·refine d.ret (no s b c ?_);unfold KU;rw[if_neg g,if_neg i,if_pos l,if_pos (U.1 D)]
   ·have D:I=false:=D;refine d.set (x':=({s with aQ:=true}:bd).V a b c) (by decide) rfl λC F=>F.set (x':=({s with aQ:=true,fresh:=true}:bd).V a b c) (by decide) rfl λH Q=>O Q ⟨k.steps,k.au,k.al⟩ ?_
    unfold KU;rw[if_neg g,if_neg i,if_pos l,if_neg λh=>by rw[U.2 h] at D;cases D]
  refine Aa.mk (d.cL (j:=11) rfl) (af.intro (λy=>?_) (λy=>?_))
  ·have y:s.aQ=true:=y;exact key _ (by simp[y])
  have y:s.aQ=false:=y;refine AC.mk (d.cL (j:=1) rfl) (af.intro (λz=>?_) (λz=>?_))
  ·have z:s.prog.az=0:=by simpa using z
   exact key _ (by simp[z])
  have z:s.prog.az≠0:=by simpa using z
  refine AC.mk (d.bL (j:=2) rfl) (AC.mk (d.cL (j:=4) rfl) (AC.mk (d.cL (j:=1) rfl) (key _ ?_)));dsimp only;rw[wrap_i64 (by omega) (by omega)];simp[y,z]
 have l:e.kind≠14:=by simpa using l
 refine af.intro (λo=>?_) (λo=>?_)
 ·have o:e.kind=18:=by simpa using o
  refine d.eU (Xg λC p=>Gl.mk _ ⟨rfl,(d.on p).tell λf x=>yes (hh:=M) (λ_ h=>nv h) (λ_ h=>nv h) (T 4) ?_ f x⟩);unfold KU;rw[if_neg g,if_neg i,if_neg l,if_pos o]
 have o:e.kind≠18:=by simpa using o
 have fin: ∀(r:Int),(KU s e=if O7 s then some (ig s r) else none)-> ∀f,Ext h f->R (J1 #[((ig s r).V a ⟨none,0,0⟩ ⟨none,0,0⟩).v,J3 (decide (O7 s))]) f:=λr J f x=>by
  by_cases L:O7 s
  ·rw[if_pos L] at J;rw[decide_eq_true L];exact yes (hh:=M) (λ_ h=>nv h) (λ_ h=>nv h) (T r) J f x
  ·rw[if_neg L] at J;rw[decide_eq_false L];exact no (ig s r) ⟨none,0,0⟩ ⟨none,0,0⟩ J f x
 refine af.intro (λq=>?_) (λq=>?_)
 ·have q:e.kind=15:=by simpa using q
  refine d.eU (d.eU (Xg λC p=>Gl.mk _ ⟨rfl,(d.on p).jo,pI k.au.len λH G=>⟨_,rfl,((d.on p).on G).tell (fin 1 ?_)⟩⟩));unfold KU;rw[if_neg g,if_neg i,if_neg l,if_neg o,if_pos q]
 have q:e.kind≠15:=by simpa using q
 refine af.intro (λu=>?_) (λu=>?_)
 ·have u:e.kind=16:=by simpa using u
  refine d.eU (d.eU (Xg λC p=>Gl.mk _ ⟨rfl,(d.on p).jo,pI k.au.len λH G=>⟨_,rfl,((d.on p).on G).tell (fin 2 ?_)⟩⟩));unfold KU;rw[if_neg g,if_neg i,if_neg l,if_neg o,if_neg q,if_pos u]
 have u:e.kind≠16:=by simpa using u
 refine af.intro (λB=>?_) (λB=>?_)
 ·have B:e.kind=17:=by simpa using B
  refine d.eU (d.eU (Xg λC p=>Gl.mk _ ⟨rfl,(d.on p).jo,pI k.au.len λH G=>⟨_,rfl,((d.on p).on G).tell (fin 3 ?_)⟩⟩));unfold KU;rw[if_neg g,if_neg i,if_neg l,if_neg o,if_neg q,if_neg u,if_pos B]
 have B:e.kind≠17:=by simpa using B
 refine d.ret (no s b c ?_);unfold KU;rw[if_neg g,if_neg i,if_neg l,if_neg o,if_neg q,if_neg u,if_neg B]
theorem ANX {e:Ev}(h:Em e=true):0<=e.turn/\e.turn<=5:=by
 have d:=MF h;unfold Ef at d;simp only[A4] at d;have:=d.1.1.2;unfold cX at this;split at this
 ·have:=Ba.1 this;omega
 ·have:=of_decide_eq_true this;omega
theorem AJx {p:ck}{f g:Int}{x:bP}(h:stepOf p f g=some x):x∈p.steps:=by
 unfold stepOf at h;split at h
 ·obtain⟨j,i,d⟩:=Option.bind_eq_some_iff.1 h;split at d
  ·cases d;exact AK i
  ·cases d
 ·cases h
theorem pR {n:Nat}(aK:JO h s a b c)(M:De s n)(bN:n<=600)(hd:e.data.size<1099511627776)
  (aL: ∀O y k l,Ext h O->JO O (Bo s e).2 y k l->(∀ x,y.ah=some x\/k.ah=some x\/l.ah=some x->h.size<=x)->R (J1 #[((Bo s e).2.V y k l).v,J6 J9 (Bo s e).1]) O):AA A P Jn #[(s.V a b c).v,e.v] h R:=by
 refine AEC ?_;unfold WW;refine lJ λbO ak=>ak.kC (Zx hd λa0 bm=>⟨_,rfl,?_⟩)
 have q:=ak.on bm;have bn: ∀x,(⟨none,0,0⟩:Sl).ah=some x\/(⟨none,0,0⟩:Sl).ah=some x\/(⟨none,0,0⟩:Sl).ah=some x->h.size<=x:=λx d=>by simp[Sl.ah] at d
 have ap: ∀(n:Int),Bo s e=(n,TA)-> ∀O,Ext h O->R (J1 #[bG.z.v,J6 J9 n]) O:=λn a1 O x=>by
  have:=aL O ⟨none,0,0⟩ ⟨none,0,0⟩ ⟨none,0,0⟩ x (by rw[a1];exact⟨View.nil,View.nil,View.nil⟩) bn;rw[a1] at this;exact this
 refine af.intro (λD=>?_) (λD=>?_)
 ·have I:Em e=false:=by
   cases E:Em e with
   |false=>rfl
   |true=>rw[E] at D;simp at D
  exact q.tell (ap 120 (by unfold Bo;rw[if_pos I]))
 have I:Em e=true:=by
  cases E:Em e with
  |true=>rfl
  |false=>rw[E] at D;simp at D
 obtain⟨bP,bQ,bo,bp,_⟩:=Ri I;refine AC.mk (q.cL (j:=3) rfl) (af.intro (λF=>?_) (λF=>?_))
 ·have F:s.next=0:=by simpa using F
  refine ai.mk λK bq=>?_
  have key: ∀az:Bool,(az=true↔ ¬(e.kind=1/\e.id=1))->K (az,()) a0:=λaz a2=>by
   refine bq _ _ (af.intro (λD=>?_) (λD=>?_))
   ·exact q.tell (ap 120 (by unfold Bo;rw[if_neg (by simp[I]),if_pos F,if_neg (a2.1 D)]))
   ·have D:az=false:=D;have m:e.kind=1/\e.id=1:=Decidable.byContradiction λh=>by rw[a2.2 h] at D;cases D
    obtain⟨p,aM,bR⟩:=bp m.1;refine AJ.mk (q.bL (j:=7) rfl) (yi hd λaA sl aC aN=>?_);obtain⟨aN,a3⟩:=aN p aM;rw[aM];refine⟨sl,p.az,0,rfl,?_⟩;have V:=q.on aC;refine ao.mk λaO _ br W bs=>?_
    have a4:=V.on W;have bS:=V.b2;refine ae.two br λa5 a6 X bt=>?_
    have a7:Ext aA a5:=W.more X λc g=>by subst g;exact A0 _
    have al:=V.on a7;refine AZ.mk (s:=sl) (AO a6 rfl) (AC.mk (AB a6 rfl) (AC.mk (al.bL (j:=2) rfl) (al.iO λa8 Q bu=>?_)));have aq:Bo s e=(0,XR e):=by unfold Bo;rw[if_neg (by simp[I]),if_pos F,if_pos m]
    have a9:XR e=⟨p,0,2,e.tick,0,0,true,[],[],false,false⟩:=by unfold XR;rw[aM];rfl
    have bT:=q.ext.size;have:=aL a8 sl ⟨none,0,0⟩ ⟨none,0,0⟩ Q (by rw[aq,a9];exact⟨(aN.ext a7).mod bu (λc g i=>by have:=a3 c g;have:=Ai q.b2;omega),View.nil,View.nil⟩) (λx d=>by
     rcases d with d|d|d
     ·have:=a3 x d;omega
     ·simp[Sl.ah] at d
     ·simp[Sl.ah] at d)
    rw[aq,a9] at this;exact this
  refine AC.mk (q.bL (j:=1) rfl) (af.intro (λm=>key _ (by simp at m;simp[m])) (λm=>AC.mk (q.bL (j:=0) rfl) (key _ (by simp at m;simp[m]))))
 have F:s.next≠0:=by simpa using F
 refine AC.mk (q.cL (j:=2) rfl) (af.intro (λm=>?_) (λm=>?_))
 ·have m:s.status≠0:=by simpa using m
  exact q.tell (ap 182 (by unfold Bo;rw[if_neg (by simp[I]),if_neg F,if_pos m]))
 have m:s.status=0:=by simpa using m
 refine AC.mk (q.bL (j:=0) rfl) (AC.mk (q.cL (j:=3) rfl) (af.intro (λS=>?_) (λS=>?_)))
 ·have S:e.id≠s.next:=by simpa using S
  exact q.tell (ap 120 (by unfold Bo;rw[if_neg (by simp[I]),if_neg F,if_neg (by simp[m]),if_pos S]))
 have S:e.id=s.next:=by simpa using S
 refine AZ.mk (s:=b) (q.cL (j:=8) rfl) (AZ.mk (s:=c) (q.cL (j:=9) rfl) (AMW ((aK.ext q.ext).au) (by have:=M.au;omega) λk aA aP Y aC=>⟨_,rfl,?_⟩));have V:=q.on aC;refine⟨V.cL (j:=9) rfl,ANr ((aK.ext V.ext).al) (by have:=M.al;omega) λl aO aQ Z W=>⟨_,rfl,?_⟩⟩;have a4:=V.on W;have bU:=Ai q.b2;have bV:=aC.size;have bs:=W.size;refine a4.im (x':=s.V a k c) (by decide) rfl λbW bv ar=>bv.im (x':=s.V a k l) (by decide) rfl λa5 al X=>?_
 have bX:=ar.size;have bt:=X.size;refine AZ.mk (s:=a) (al.cL (j:=0) rfl) (ANK ((aK.ext al.ext).steps) (by have:=M.steps;omega) λy a8 ba bb Q=>⟨_,rfl,?_⟩);have bw:=al.on Q;refine bw.oO (x':=s.V y k l) rfl λz r ab=>AC.mk (r.bL (j:=1) rfl) ?_
 have T:JO z s y k l:=by have au:=(((aP.view.ext W).mod ar (λx d i=>by have:=Y x d;omega)).mod X (λx d i=>by have:=Y x d;omega));have vc:=((aQ.view.mod ar (λx d i=>by have:=Z x d;omega)).mod X (λx d i=>by have:=Z x d;omega));exact⟨ba.view.mod ab (λx d i=>by have:=bb x d;omega),(au.ext Q).mod ab (λx d i=>by have:=Y x d;omega),(vc.ext Q).mod ab (λx d i=>by have:=Z x d;omega)⟩
 have bx:Own fj G5 z k s.au:=((((aP.ext W).mod ar (λx d i=>by have:=Y x d;omega)).mod X (λx d i=>by have:=Y x d;omega)).ext Q).mod ab (λx d i=>by have:=Y x d;omega);have bz:Own gb GU z l s.al:=(((aQ.mod ar (λx d i=>by have:=Z x d;omega)).mod X (λx d i=>by have:=Z x d;omega)).ext Q).mod ab (λx d i=>by have:=Z x d;omega);have am: ∀x,k.ah=some x->a0.size<=x/\x<aA.size:=λx d=>⟨Y x d,aP.lt d⟩
 have an: ∀x,l.ah=some x->aA.size<=x/\x<aO.size:=λx d=>⟨Z x d,aQ.lt d⟩
 have aR: ∀x,y.ah=some x->aO.size<=x/\x<z.size:=λx d=>⟨by have:=bb x d;omega,by have:=ba.lt d;have:=ab.size;omega⟩
 have bY:=Q.size;have bZ:=ab.size;have fr: ∀(dV dW:Sl),(∀ x,dV.ah=some x->k.ah=some x\/h.size+3<=x)->(∀ x,dW.ah=some x->l.ah=some x\/h.size+3<=x)-> ∀x,y.ah=some x\/dV.ah=some x\/dW.ah=some x->h.size+3<=x:=λdV dW i g x d=>by
  rcases d with d|d|d
  ·have:=aR x d;omega
  ·rcases i x d with h|h
   ·have:=am x h;omega
   ·omega
  ·rcases g x d with h|h
   ·have:=an x h;omega
   ·omega
 refine ai.mk λaS bA=>?_
 have key: ∀ {o:Option bd} {t:bd} {dV dW:Sl} {B:aa},Ph s e=o.map (λt=> {t with next:=s.next+1})->(∀ t',o=some t'->t=t'/\t'.next=s.next/\j4 B (h.size+3) t' y k l dV dW)->D3 h B Ar A7 Ar (t.V y dV dW) e bG.z->aS (o.isSome,()) B:=λ{o t dV dW B} bc aT ak=>by
  refine bA _ _ ?_;cases o with
  |none=>
   refine af.yes rfl (ak.tell (ap 120 ?_));unfold Bo;rw[if_neg (by simp[I]),if_neg F,if_neg (by simp[m]),if_neg (by simp[S]),bc];rfl
  |some t'=>
   obtain⟨rfl,bB,L⟩:=aT t' rfl;have u:=fr dV dW L.fb L.fc;have b0:=M.next;refine af.no rfl (AC.mk (ak.cL (j:=3) rfl) ?_);rw[wrap_i64 (by show _<=t.next+1;omega) (by show t.next+1<=_;omega)];refine ak.im (x':=({t with next:=s.next+1}:bd).V y dV dW) (by decide) (by rw[<- bB];rfl) λaD N bC=>N.oP λav bD C=>?_
   have aq:Bo s e=(0,{t with next:=s.next+1}):=by unfold Bo;rw[if_neg (by simp[I]),if_neg F,if_neg (by simp[m]),if_neg (by simp[S]),bc];rfl
   have:=aL av y dV dW bD (by
    rw[aq];have J:=L.at'.mod bC (λx d i=>by have:=u x (.inl d);omega) (λx d i=>by have:=u x (.inr (.inl d));omega) (λx d i=>by have:=u x (.inr (.inr d));omega);have U:=J.mod C (λx d i=>by have:=u x (.inl d);omega) (λx d i=>by have:=u x (.inr (.inl d));omega) (λx d i=>by have:=u x (.inr (.inr d));omega);exact⟨U.steps,U.au,U.al⟩) (λx d=>by have:=u x d;omega)
   rw[aq] at this;exact this
 refine ai.mk λbe aE=>?_
 have aG:2<=e.kind/\e.kind<=5->be (true,()) z:=λaH=>by
  refine aE _ _ (af.yes rfl (r.eU (r.kC (AIX aH λaD aI=>Gl.mk _ ⟨_,rfl,?_⟩))));have N:=r.on aI;refine N.mH λav ac C=>key (o:=Dv s e) (t:=(Dv s e).getD s) (dV:=k) (dW:=l) (by unfold Ph;rw[if_pos aH]) (λt' G=>?_) ac
  rw[G,HI];obtain⟨J,U,aJ,bf⟩:=QG G;have aU:=(T.ext aI).mod C (λx d i=>by have:=fr k l (λ_ h=> .inl h) (λ_ h=> .inl h) x (.inl d);omega) (λx d i=>by have:=fr k l (λ_ h=> .inl h) (λ_ h=> .inl h) x (.inr (.inl d));omega) (λx d i=>by have:=fr k l (λ_ h=> .inl h) (λ_ h=> .inl h) x (.inr (.inr d));omega);exact⟨rfl,J.next,⟨by rw[J.prog];exact aU.steps,by rw[U];exact aU.au,by rw[aJ];exact aU.al⟩,λ_ h=> .inl h,λ_ h=> .inl h⟩
 have bE:e.kind=1\/12<=e.kind->be (false,()) z:=λaH=>by
  refine aE _ _ (af.no rfl (ai.mk λaV aw=>?_));have H: ∀ {n:Int},6<=n->n<=11->(e.kind==n)=false:=λ{n} bF bH=>by simp;omega
  refine af.no (H (by decide) (by decide)) (af.no (H (by decide) (by decide)) (af.no (H (by decide) (by decide)) ?_));rw[H (n:=9) (by decide) (by decide)];refine aw _ _ (af.no rfl (ai.mk λbg aW=>af.no (H (by decide) (by decide)) ?_));rw[H (n:=11) (by decide) (by decide)];refine aW _ _ (af.no rfl (r.eU (r.kC (ANH T aH (λ_=>by have:=M.aZ;have:=M.az;omega) λaD t dV dW aI aT=>Gl.mk _ ⟨_,rfl,?_⟩))));have N:=r.on aI;refine N.mH λav ac C=>key (o:=KU s e) (t:=t) (by unfold Ph;rw[if_neg (by omega),if_neg (by omega),if_neg (by omega)]) (λt' G=>?_) ac
  obtain⟨rfl,L⟩:=aT t' G;have ax: ∀x,dV.ah=some x->k.ah=some x\/h.size+3<=x:=λx d=>(L.fb x d).imp id λh=>by omega
  have ay: ∀x,dW.ah=some x->l.ah=some x\/h.size+3<=x:=λx d=>(L.fc x d).imp id λh=>by omega
  have u:=fr dV dW ax ay;exact⟨rfl,(xw G).1.next,L.at'.mod C (λx d i=>by have:=u x (.inl d);omega) (λx d i=>by have:=u x (.inr (.inl d));omega) (λx d i=>by have:=u x (.inr (.inr d));omega),ax,ay⟩
 refine af.intro (λad=>?_) (λad=>?_)
 ·have b1:e.kind=2:=by simpa using ad
  have ad:(e.kind==(2:Int))=true:=ad;rw[ad];exact aG (by omega)
 refine af.intro (λag=>?_) (λag=>?_)
 ·have b2:e.kind=3:=by simpa using ag
  have ag:(e.kind==(3:Int))=true:=ag;rw[ag];exact aG (by omega)
 refine af.intro (λah=>?_) (λah=>?_)
 ·have b3:e.kind=4:=by simpa using ah
  have ah:(e.kind==(4:Int))=true:=ah;rw[ah];exact aG (by omega)
 have ad:e.kind≠2:=by simpa using ad
 have ag:e.kind≠3:=by simpa using ag
 have ah:e.kind≠4:=by simpa using ah
 cases aX:(e.kind==(5:Int)) with
 |true=>
  have:e.kind=5:=by simpa using aX
  exact aG (by omega)
 |false=>
  have aX:e.kind≠5:=by simpa using aX
  by_cases aY:6<=e.kind/\e.kind<=9
  ·have bI: ∀ {B:aa} {t:bd} {dV:Sl},Mod (λx=>k.ah=some x\/z.size<=x) z B->(∀ x,dV.ah=some x->k.ah=some x\/z.size<=x)->(∀ t',Lm s e=some t'->t=t'/\View fj B dV t'.au)->aF B ⟨h.size,0,none⟩ (t.V y dV l).l λm=>aS ((Lm s e).isSome,()) m:=λ{B t dV} w f E=>by
    have aj: ∀v,v<h.size+3-> ¬(k.ah=some v\/z.size<=v):=λv bJ h=>by
     rcases h with h|h
     ·have:=am v h;omega
     ·omega
    have N:D3 h B Ar A7 Ar (s.V y k l) e bG.z:=⟨r.ext.more w λc g=>by
     rcases g with g|g
     ·have:=am c g;omega
     ·omega,w.ah r.b0 (aj _ (by omega)),w.ah r.b1 (aj _ (by omega)),w.ah r.b2 (aj _ (by omega))⟩
    have ax: ∀x,dV.ah=some x->k.ah=some x\/h.size+3<=x:=λx d=>(f x d).imp id λh=>by omega
    refine N.mH λav ac C=>key (o:=Lm s e) (t:=t) (by unfold Ph;rw[if_neg (by omega),if_pos aY]) (λt' G=>?_) ac
    obtain⟨rfl,au⟩:=E t' G;obtain⟨J,U,aJ,bf⟩:=xy G;have u:=fr dV l ax λ_ h=> .inl h
    have aZ:=T.steps.mod w λx d g=>by
     have:=aR x d;rcases g with g|g
     ·have:=am x g;omega
     ·omega
    have vc:=T.al.mod w λx d g=>by
     have:=an x d;rcases g with g|g
     ·have:=am x g;omega
     ·omega
    exact⟨rfl,J.next,⟨by rw[J.prog];exact aZ.mod C (λx d i=>by have:=u x (.inl d);omega),au.mod C (λx d i=>by have:=u x (.inr (.inl d));omega),by rw[aJ];exact vc.mod C (λx d i=>by have:=u x (.inr (.inr d));omega)⟩,ax,λ_ h=> .inl h⟩
   refine aE _ _ (af.no rfl (ai.mk λaV aw=>?_));have go:aV (true,()) z:=aw _ _ (af.yes rfl (r.eU (r.kC (ARB T bx (by have:=M.au;omega) aY (by have:=ANX I;omega) λaD t dV w f E=>Gl.mk _ ⟨_,rfl,bI w f E⟩))));refine af.intro (λv=>?_) (λbh=>af.intro (λv=>?_) (λbi=>af.intro (λv=>?_) (λbj=>?_)))
   ·rw[v];exact go
   ·rw[v];exact go
   ·rw[v];exact go
   ·have bh:e.kind≠6:=by simpa using bh
    have bi:e.kind≠7:=by simpa using bi
    have bj:e.kind≠8:=by simpa using bj
    have bK:(e.kind==(9:Int))=true:=by simp;omega
    rw[bK];exact go
  ·by_cases g:e.kind=10\/e.kind=11
   ·have bL: ∀ {B:aa} {t:bd} {dW:Sl},Mod (λx=>l.ah=some x\/z.size<=x) z B->(∀ x,dW.ah=some x->l.ah=some x\/z.size<=x)->(∀ t',KF s e=some t'->t=t'/\View gb B dW t'.al)->aF B ⟨h.size,0,none⟩ (t.V y k dW).l λm=>aS ((KF s e).isSome,()) m:=λ{B t dW} w f E=>by
     have aj: ∀v,v<h.size+3-> ¬(l.ah=some v\/z.size<=v):=λv bJ h=>by
      rcases h with h|h
      ·have:=an v h;omega
      ·omega
     have N:D3 h B Ar A7 Ar (s.V y k l) e bG.z:=⟨r.ext.more w λc g=>by
      rcases g with g|g
      ·have:=an c g;omega
      ·omega,w.ah r.b0 (aj _ (by omega)),w.ah r.b1 (aj _ (by omega)),w.ah r.b2 (aj _ (by omega))⟩
     have ay: ∀x,dW.ah=some x->l.ah=some x\/h.size+3<=x:=λx d=>(f x d).imp id λh=>by omega
     refine N.mH λav ac C=>key (o:=KF s e) (t:=t) (by unfold Ph;rw[if_neg (by omega),if_neg aY,if_pos g]) (λt' G=>?_) ac
     obtain⟨rfl,vc⟩:=E t' G;obtain⟨J,U,aJ,bf⟩:=xA G;have u:=fr k dW (λ_ h=> .inl h) ay;have aZ:=T.steps.mod w λx d g=>by
      have:=aR x d;rcases g with g|g
      ·have:=an x g;omega
      ·omega
     have au:=T.au.mod w λx d g=>by
      have:=am x d;rcases g with g|g
      ·have:=an x g;omega
      ·omega
     exact⟨rfl,J.next,⟨by rw[J.prog];exact aZ.mod C (λx d i=>by have:=u x (.inl d);omega),by rw[U];exact au.mod C (λx d i=>by have:=u x (.inr (.inl d));omega),vc.mod C (λx d i=>by have:=u x (.inr (.inr d));omega)⟩,λ_ h=> .inl h,ay⟩
    have H: ∀ {n:Int},6<=n->n<=9->(e.kind==n)=false:=λ{n} bF bH=>by simp;omega
    refine aE _ _ (af.no rfl (ai.mk λaV aw=>?_));refine af.no (H (by decide) (by decide)) (af.no (H (by decide) (by decide)) (af.no (H (by decide) (by decide)) ?_));rw[H (n:=9) (by decide) (by decide)];refine aw _ _ (af.no rfl (ai.mk λbg aW=>?_));have go:bg (true,()) z:=aW _ _ (af.yes rfl (r.eU (r.kC (AQB T bz (by have:=M.al;omega) g bo (λx d=>by have:=M.waits x (AJx d);omega) λaD t dW w f E=>Gl.mk _ ⟨_,rfl,bL w f E⟩))));refine af.intro (λv=>?_) (λbk=>?_)
    ·rw[v];exact go
    ·have bk:e.kind≠10:=by simpa using bk
     have bM:(e.kind==(11:Int))=true:=by simp;omega
     rw[bM];exact go
   ·exact bE (by omega)
end
theorem Od {n:Int}(a:0<=n)(b:n<=9223372036854775807):J8 .u64 n=((n.toNat:Nat):Int):=by
 have:n=((n.toNat:Nat):Int):=by omega
 rw[this,CF (by omega)];simp
theorem Mt {f:Bool}{n:Int}(a:n<=9223372036854775807):(TK f n).length<=10:=by
 cases f with
 |false=>exact AD _
 |true=>exact AV (by omega)
theorem rq {h:aq}{b:aa}{a:Q6}{f e n:Int}{fl:Bool}{d:List UInt8}{K:A2L×Unit->aa->Prop}(i:(Gd J9 f e != (0:Int))=fl)(j:ag b a=some (J6 J9 n))(k:fl=true->0<=n/\n<=1099511627776)
  (m:d.length<=100000) (g: ∀c,Ext b c->K (AY (d++TK fl n),()) c):
  af (Gd J9 f e != (0:Int)) (AC J9 b a λt=>AA h P Aw #[.int .u64 (J8 .u64 t)] b λv c=> ∃x:A2L,v=J7 x/\(aH ((((AY d).size+x.size:Nat):Int)<=IntKind.i64.max)<|K ((AY d)++x,()) c)) (K (AY d,()) b):=by
 rw[i];cases fl with
 |false=>
  have:=g b Mod.refl;simp only[TK,Cp,if_false,AM] at this;exact af.no rfl this
 |true=>
  obtain⟨l,o⟩:=k rfl;refine af.yes rfl (AC.mk j ?_);rw[Od l (by omega)];have:=AV (n:=n.toNat) (by omega);refine Cc (by omega) λc x=>⟨_,rfl,⟨by rw[AP,AP,max_i64];omega,?_⟩⟩
  have:=g c x;simp only[TK,if_true] at this;rw[Ak];exact this
theorem rr {f:Bool}{a b c:Int}(d:cX f a b c=true)(g:0<=b)(h:c<=1099511627776):f=true->0<=a/\a<=1099511627776:=λe=>by
 subst e;simp only[cX,if_true,Ba] at d;omega
def oC(a:Ev):J0:=J1 #[J7 (AY (if Em a then Nc a else [])),J6 J9 (if Em a then 0 else 120)]
theorem AK3 {Q:aq}{a:aa}{e:Ev}{k:A2K}(hd:e.data.size<1099511627776)(u: ∀c,Ext a c->k (oC e) c):AA Q P OZ #[oB e] a k:=by
 refine ABL ?_;unfold UQ;refine ao.mk λap _ b v ar=>?_
 refine AC.mk (AO b rfl) (AC.mk (AB b rfl) (AC.mk (AB b rfl) (AC.mk (AB b rfl) (AC.mk (AB b rfl) (AC.mk (AB b rfl) (Aa.mk (AB b rfl) (AJ.mk (AB b rfl) ?_)))))));refine Zx (e:=e) hd λw l=>⟨_,rfl,?_⟩
 cases m:Em e with
 |false=>
  refine af.yes rfl ?_;have:=u w (v.trans l);rw[oC,m] at this;exact this
 |true=>
  refine af.no rfl ?_;have y: ∀c,Ext w c->k (J1 #[J7 (AY (Nc e)),J6 J9 0]) c:=λc x=>by
   have:=u c ((v.trans l).trans x);rw[oC,m] at this;exact this
  have h:=l.ah b (λa=>a);have z:=MF m;simp only[Ef,A4] at z;obtain⟨⟨⟨⟨⟨⟨⟨R,S⟩,T⟩,o⟩,p⟩,q⟩,au⟩,av⟩:=z;have aw:=Ba.1 R;have ax:=Ba.1 S;have ay:=Ba.1 T;obtain⟨U,V,W,X,Y⟩:=rn e.kind;refine AC.mk (AB h rfl) (XP ⟨_,_,rfl,?_⟩);refine AC.mk (AO h rfl) (AC.mk (n:=e.kind) (AB h rfl) (AC.mk (n:=e.tick) (AB h rfl) ?_));rw[Od (n:=e.id) (by omega) (by omega)];refine Cc (by omega) λaz A=>⟨_,rfl,?_⟩
  have r:=A.ah h (λa=>a);refine⟨AB r rfl,AB r rfl,?_⟩;rw[Od (n:=e.kind) (by omega) (by omega)];have aA:=AV (n:=e.id.toNat) (by omega);have aC:=AV (n:=e.kind.toNat) (by omega);have aD:=AV (n:=e.tick.toNat) (by omega);refine Cc (by omega) λaE B=>⟨_,rfl,?_⟩
  have C:=B.ah r (λa=>a);refine⟨AB C rfl,by rw[AP,AP,max_i64];omega,?_⟩;rw[Od (n:=e.tick) (by omega) (by omega)];refine Cc (by omega) λaF D=>⟨_,rfl,⟨by rw[Ak,AP,AP,max_i64,A1];omega,?_⟩⟩
  have E:=D.ah C (λa=>a);have Z:=(A.trans B).trans D;rw[Ak,Ak];refine ai.mk λK ab=>?_
  have aG:=Mt (f:=cW e.kind) (n:=e.ref) (by cases i:cW e.kind<;>rw[i] at o<;>simp[cX,bV] at o<;>omega);have aH:=Mt (f:=dp e.kind) (n:=e.step) (by cases i:dp e.kind<;>rw[i] at p<;>simp[cX,bV] at p<;>omega);have aI:=Mt (f:=dD e.kind) (n:=e.turn) (by cases i:dD e.kind<;>rw[i] at q<;>simp[cX,bV] at q<;>omega);have aJ:=Mt (f:=dT e.kind) (n:=if e.aL then 1 else 0) (by split<;>omega);refine rq (fl:=cW e.kind) (n:=e.ref) (by rw[U,Ma (by decide)]) (AB E rfl) (rr o (by decide) (by omega)) (by simp only[A1];omega) λaK F=>ab _ _ ?_
  have G:=F.ah E (λa=>a);refine ai.mk λaL ac=>?_
  refine rq (fl:=dp e.kind) (n:=e.step) (by rw[V,Ma (by decide)]) (AB G rfl) (rr p (by decide) (by omega)) (by simp only[A1];omega) λaM H=>ac _ _ ?_
  have I:=H.ah G (λa=>a);refine ai.mk λaN ad=>?_
  refine rq (fl:=dD e.kind) (n:=e.turn) (by rw[W,Ma (by decide)]) (AB I rfl) (rr q (by decide) (by omega)) (by simp only[A1];omega) λs J=>ad _ _ ?_
  have L:=J.ah I (λa=>a);have M:=((Z.trans F).trans H).trans J;refine ai.mk λae ag=>?_
  have N: ∀g,Ext s g->ae (AY (((Bc e.id.toNat++Bc e.kind.toNat++Bc e.tick.toNat++TK (cW e.kind) e.ref)++TK (dp e.kind) e.step++TK (dD e.kind) e.turn)++TK (dT e.kind) (if e.aL then 1 else 0)),()) g:=λg j=>by
   refine ag _ _ ?_;have ah:=j.ah L (λa=>a);refine ai.mk λaO O=>?_
   rw[Y,Ma (by decide)];refine af.intro (λd=>?_) (λd=>?_)
   ·refine AJ.mk (AB ah rfl) (KX (by omega) λaj ak=>⟨_,rfl,⟨?_,O _ _ ?_⟩⟩)
    ·have:=AV (n:=(bl e.data).length) (by rw[Ay];omega);rw[AP,AP,max_i64];simp only[BQ,A1,Ay] at this ⊢;omega
    ·have:=y aj ((M.trans j).trans ak);dsimp only;rw[Ak];simp only[Nc,gT,d,if_true] at this;simp only[A3] at this ⊢;exact this
   ·refine O _ _ ?_;have:=y g (M.trans j);simp only[Nc,gT,d,Cp,if_false,AM] at this;simp only[A3] at this ⊢;exact this
  rw[X,Ma (by decide)];refine af.intro (λd=>?_) (λd=>?_)
  ·refine ai.mk λal am=>Aa.mk (AB L rfl) ?_
   have go: ∀n:Nat,n<=1->(n:Int)=(if e.aL then 1 else 0)->al ((n:Int),()) s:=λn aP an=>by
    refine am _ _ ?_;have:=AV (n:=n) (by omega);refine Cc (by omega) λg j=>⟨_,rfl,⟨?_,?_⟩⟩
    ·dsimp only;rw[AP,AP,max_i64];simp only[A1];omega
    ·have:=N g j;rw[<- an] at this;simp only[TK,d,if_true,A6] at this;dsimp only;rw[Ak];exact this
   refine af.intro (λt=>go 1 (by omega) (by rw[t];rfl)) (λt=>go 0 (by omega) (by rw[t];rfl))
  ·have:=N s Mod.refl;simp only[TK,d,Cp,if_false,AM] at this;exact this
theorem NG(f:Bool)(m:Nat)(a:Rd):(El f m a).2.rest.length<=a.rest.length:=by
 cases f with
 |false=>exact A0 _
 |true=>exact IL m a
theorem AQO(f:Bool)(a:Rd):(Tx f a).2.rest.length<=a.rest.length/\(Tx f a).1.length<=a.rest.length:=by
 cases f with
 |false=>exact⟨A0 _,AD _⟩
 |true=>exact VK a
theorem AOO(b:jY)(c:Rd):(P7 b c).2.rest.length<=c.rest.length/\(P7 b c).1.data.size<=c.rest.length:=by
 simp only[P7,AP];have d:=IL b.id c;have e:=IL b.kind (CS b.id c).2;have f:=IL b.tick (CS b.kind (CS b.id c).2).2;generalize CS b.tick (CS b.kind (CS b.id c).2).2=t at*
 generalize ((CS b.kind (CS b.id c).2).1:Int)=a at*
 have g:=NG (cW a) b.ref t.2;have h:=NG (dp a) b.step (El (cW a) b.ref t.2).2;have i:=NG (dD a) b.turn (El (dp a) b.step (El (cW a) b.ref t.2).2).2;have j:=NG (dT a) 1 (El (dD a) b.turn (El (dp a) b.step (El (cW a) b.ref t.2).2).2).2;have k:=AQO (dZ a) (El (dT a) 1 (El (dD a) b.turn (El (dp a) b.step (El (cW a) b.ref t.2).2).2).2).2;omega
theorem ru {w:aq}{a:aa}{b d g:Nat}{f l:Int}{m:Nat}{fl:Bool}{h:Rd}{e:Array J0}{T:Q7}{K:Unit->aa->Prop}(x:(Gd J9 f l != (0:Int))=fl)(n:Ie a b h)(y:h.rest.length<=1099511627776)
  (z:m<=9223372036854775807) (o:a[d]? =some (J2 e T (0,0))) (A:g<e.size) (B:e.setIfInBounds g (J6 J9 0)=e) (p:b≠d)
  (q: ∀i,Ie i b (El fl m h).2->i[d]? =some (J2 (e.setIfInBounds g (J6 J9 ((El fl m h).1:Int))) T (0,0))->Mod (λc=>c=b\/c=d) a i->K () i):
  af (Gd J9 f l != (0:Int)) (AA w P Ac #[Am b,J6 J9 (m:Int)] a λv r=> ∃t:Int,v=J6 J9 t/\(ae r ((⟨d,0,none⟩:Q6).add g) (J6 J9 t) λj=>K () j)) (K () a):=by
 rw[x];cases fl with
 |false=>exact af.no rfl (q a n (by simp only[El,Cp,if_false];rw[show(((0:Nat):Int))=(0:Int) from rfl,B];exact o) Mod.refl)
 |true=>
  refine af.yes rfl (DN n y z λr C s=>⟨_,rfl,?_⟩);refine ae.dq (s.ah o p.symm) A λj D u E=>?_
  exact q j (u.ah C p) D ((s.aj λc _ k=> .inl k).trans (u.aj λc _ k=> .inr k))
abbrev yj(i b t a s c:Int)(u:Bool)(d:A2L):Array J0:= #[J6 J9 i,J6 J9 b,J6 J9 t,J6 J9 a,J6 J9 s,J6 J9 c,J3 u,J7 d]
theorem APL {au:aq}{b:aa}{e:Nat}{d:Rd}{M:A2K}(N:Ie b e d)(bb:d.rest.length<1099511627776)
  (O: ∀E,Ie E e (P7 fG d).2->Mod (· =e) b E->M (oB (P7 fG d).1) E):AA au P Rt #[Am e] b M:=by
 refine AEJ ?_;unfold Yo;have bc:=Ai N;refine ao.mk λy _ Q z av=>?_
 have R:=z.ah N (λb=>b);have bd:CS 500 d=CS fG.id d:=rfl;have be:=IL 500 d;have bf:=IL 18 (CS 500 d).2;have bg:=IL 1099511627776 (CS 18 (CS 500 d).2).2;refine DN (most:=500) R (by omega) (by decide) λbh S A=>⟨_,rfl,?_⟩
 refine DN (most:=18) S (by omega) (by decide) λbi T U=>⟨_,rfl,?_⟩
 refine DN (most:=1099511627776) T (by omega) (by decide) λu F V=>⟨_,rfl,?_⟩
 have n:=(A.trans U).trans V;have W:=n.ah Q (by omega);have aw:y.size<=u.size:=n.size;refine ao.mk λbj _ X B ax=>ae.eight X λay Y C az=>?_
 have o:e≠u.size:=by have:=Ai F;omega
 have aA:b.size≠u.size:=by omega
 have aC:=C.ah (B.ah F (λb=>b)) o;have aD:=C.ah (B.ah W (λb=>b)) aA;have aE:Mod (· =e) b ay:=by have l:Mod (· =e) b u:=z.mod.trans n;exact l.then ((B.mod.trans C).aj λc _ g=> .inr (by have:=n.size;have:=z.size;omega))
 refine AC.mk (AB Y rfl) (XP ⟨_,_,rfl,?_⟩);obtain⟨aF,aG,aH,aI,aJ⟩:=rn ((CS 18 (CS 500 d).2).1:Int);have bk:b.size<=u.size:=by omega
 have bm:b.size<=b.size:=A0 _;have bn:P7 fG d=P7 fG d:=rfl;generalize aK:((CS 18 (CS 500 d).2).1:Int)=a at*
 generalize aL:CS 1099511627776 (CS 18 (CS 500 d).2).2=t at*
 generalize aM:((CS 500 d).1:Int)=i at*
 have aN:P7 fG d=(⟨i,a,t.1,(El (cW a) 500 t.2).1,(El (dp a) 15 (El (cW a) 500 t.2).2).1,(El (dD a) 5 (El (dp a) 15 (El (cW a) 500 t.2).2).2).1,
   decide ((El (dT a) 1 (El (dD a) 5 (El (dp a) 15 (El (cW a) 500 t.2).2).2).2).1=1),AY (Tx (dZ a) (El (dT a) 1 (El (dD a) 5 (El (dp a) 15 (El (cW a) 500 t.2).2).2).2).2).1⟩,
   (Tx (dZ a) (El (dT a) 1 (El (dD a) 5 (El (dp a) 15 (El (cW a) 500 t.2).2).2).2).2).2):=by
  simp only[P7,<-aK,<-aL,<-aM];rfl
 have bo:=NG (cW a) 500 t.2;have bp:=NG (dp a) 15 (El (cW a) 500 t.2).2;have bq:=NG (dD a) 5 (El (dp a) 15 (El (cW a) 500 t.2).2).2;have br:=NG (dT a) 1 (El (dD a) 5 (El (dp a) 15 (El (cW a) 500 t.2).2).2).2;rw[aN] at O;generalize u.size=v at*
 generalize aO:El (cW a) 500 t.2=G at*
 generalize aP:El (dp a) 15 G.2=os at*
 generalize aQ:El (dD a) 5 os.2=s at*
 generalize Z:El (dT a) 1 s.2=f at*
 clear Q W X R S T F z B A U V n C av aw ax az;have up: ∀ {ab ac:aa},Mod (· =e) b ab->Mod (λc=>c=e\/c=v) ab ac->Mod (· =e) b ac:=λaR A=>aR.then (A.aj λc _ g=>g.elim .inl λbs=> .inr (by omega))
 refine ai.mk λK aS=>?_
 refine ru (m:=500) (fl:=cW a) (by rw[aF,Ma (by decide)]) aC (by omega) (by decide) Y (by simp) rfl o λbt ad ag n=>aS _ _ ?_
 rw[aO] at ad ag;have aT:=n.ah aD (by omega);have aU:=up aE n;refine ai.mk λbu aV=>?_
 refine ru (m:=15) (fl:=dp a) (by rw[aG,Ma (by decide)]) ad (by omega) (by decide) ag (by simp) rfl o λbv ah aj ak=>aV _ _ ?_
 rw[aP] at ah aj;have aW:=ak.ah aT (by omega);have aX:=up aU ak;refine ai.mk λbw aY=>?_
 refine ru (m:=5) (fl:=dD a) (by rw[aH,Ma (by decide)]) ah (by omega) (by decide) aj (by simp) rfl o λal H I am=>aY _ _ ?_
 rw[aQ] at H I;have aZ:=am.ah aW (by omega);have a0:=up aX am;refine ai.mk λa1 a2=>?_
 have an: ∀p,Ie p e f.2->p[v]? =some (J2 (yj i a t.1 G.1 os.1 s.1 (decide (f.1=1)) Hr) A7 (0,0))->Mod (λc=>c=e\/c=v) al p->a1 () p:=λp D ap w=>by
  refine a2 _ _ ?_;have a3:=w.ah aZ (by omega);have a4:=up a0 w;refine ai.mk λa5 a6=>?_
  have ar: ∀q,Ie q e (Tx (dZ a) f.2).2->q[v]? =some (J2 (yj i a t.1 G.1 os.1 s.1 (decide (f.1=1)) (AY (Tx (dZ a) f.2).1)) A7 (0,0))->Mod (λc=>c=e\/c=v) p q->a5 () q:=λq J h r=>by
   refine a6 _ _ ?_;have a7:=r.ah a3 (by omega);have a8:=up a4 r;refine AC.mk (AO h rfl) (AC.mk (AB h rfl) (AC.mk (AB h rfl) (AC.mk (AB h rfl) (AC.mk (AB h rfl) (AC.mk (AB h rfl) (Aa.mk (AB h rfl) (AJ.mk (AB h rfl) ?_)))))));refine ae.eight a7 λL k x a9=>?_
   refine AC.mk (AO k rfl) (AC.mk (AB k rfl) (AC.mk (AB k rfl) (AC.mk (AB k rfl) (AC.mk (AB k rfl) (AC.mk (AB k rfl) (Aa.mk (AB k rfl) (AJ.mk (AB k rfl) ?_)))))));exact O L (x.ah J (by omega)) (a8.then (x.aj λc _ g=> .inr (by omega)))
  rw[aJ,Ma (by decide)];refine af.intro (λl=>?_) (λl=>?_)
  ·refine G8 D (by omega) λq J r=>⟨_,rfl,?_⟩
   refine ae.dq (r.ah ap o.symm) (by simp) λL k x a9=>?_
   have j:Tx (dZ a) f.2=GV f.2:=by simp only[Tx,l,if_true]
   refine ar L (by rw[j];exact x.ah J o) (by rw[j];exact k) ((r.aj λc _ g=> .inl g).trans (x.aj λc _ g=> .inr g))
  ·have j:Tx (dZ a) f.2=([],f.2):=by simp only[Tx,l,Cp,if_false]
   exact ar p (by rw[j];exact D) (by rw[j];exact ap) Mod.refl
 rw[aI,Ma (by decide)];refine af.intro (λl=>?_) (λl=>?_)
 ·have j:f=CS 1 s.2:=by rw[<- Z];simp only[El,l,if_true]
  refine DN (most:=1) H (by omega) (by decide) λp D w=>⟨_,rfl,?_⟩
  refine ae.dq (w.ah I o.symm) (by simp) λq h r bx=>?_
  have ba:((((CS 1 s.2).1:Nat):Int)==(1:Int))=decide (f.1=1):=by
   rw[j];by_cases y:(CS 1 s.2).1=1
   ·rw[y];rfl
   ·rw[decide_eq_false y,beq_eq_false_iff_ne];omega
  rw[ba] at h;refine an q (by rw[j];exact r.ah D o) h ((w.aj λc _ g=> .inl g).trans (r.aj λc _ g=> .inr g))
 ·have j:f=(0,s.2):=by rw[<- Z];simp only[El,l,Cp,if_false]
  exact an al (by rw[j];exact H) (by rw[j];exact I) Mod.refl
def evZ:Ev:=⟨0,0,0,0,0,0,false,Hr⟩
def ATx(a:Option Ev):J0:=J1 #[oB (a.getD evZ),J6 J9 (if a.isSome then 0 else 60)]
theorem AKX {F:aq}{b:aa}{l:List UInt8}{r:A2K}(G:l.length<1099511627776)(s: ∀t,Ext b t->r (ATx (jZ l)) t):AA F P Ow #[J7 (AY l)] b r:=by
 refine ABZ ?_;unfold UK;refine ao.mk λU _ H u V=>?_
 refine Js λW v w=>⟨_,rfl,?_⟩
 have X:=Ai v;refine APL v G λI J j=>⟨_,_,_,_,_,_,_,_,rfl,?_⟩
 have L:=j.ah (w.ah H (λb=>b)) (by omega);have y:Ext b I:=(u.trans w).more j λc h=>by subst h;exact u.size
 have M:=AOO fG ⟨l,false⟩;refine ao.mk λY _ N k Z=>ae.eight N λm d n ab=>?_
 have ac:=j.size;have z:Ext b m:=(y.trans k).more n λc h=>by subst h;exact y.size
 have A:=n.ah (k.ah L (λb=>b)) (by omega);have O:=n.ah (k.ah J (λb=>b)) (by omega);refine ai.mk λK B=>?_
 refine MU O ⟨_,rfl,?_⟩;have o:jZ l=if Yf (P7 fG ⟨l,false⟩).2&&Em (P7 fG ⟨l,false⟩).1 then some (P7 fG ⟨l,false⟩).1 else none:=rfl;generalize (P7 fG ⟨l,false⟩).2=C at*
 generalize (P7 fG ⟨l,false⟩).1=e at*
 have D:jZ l=none-> ∀p,Ext m p->K (true,()) p:=λQ p x=>by
  refine B _ _ (af.yes rfl ?_);refine ae.eight (x.ah A (λb=>b)) λq a R ad=>?_
  refine AC.mk (AO a rfl) (AC.mk (AB a rfl) (AC.mk (AB a rfl) (AC.mk (AB a rfl) (AC.mk (AB a rfl) (AC.mk (AB a rfl) (Aa.mk (AB a rfl) (AJ.mk (AB a rfl) ?_)))))));have:=s q ((z.trans x).more R λc h=>by omega);rw[Q] at this;exact this
 refine af.intro (λg=>?_) (λg=>?_)
 ·have g:Yf C=false:=by simpa using g
  exact D (by rw[o,g];rfl) m Mod.refl
 ·have g:Yf C=true:=by simpa using g
  refine AC.mk (AO d rfl) (AC.mk (AB d rfl) (AC.mk (AB d rfl) (AC.mk (AB d rfl) (AC.mk (AB d rfl) (AC.mk (AB d rfl) (Aa.mk (AB d rfl) (AJ.mk (AB d rfl) ?_)))))));refine Zx (e:=e) (by simp only at M;omega) λq i=>⟨_,rfl,?_⟩
  cases E:Em e with
  |false=>exact D (by rw[o,E,ON];rfl) q i
  |true=>
   refine B _ _ (af.no rfl ?_);have a:=i.ah d (λb=>b);refine AC.mk (AO a rfl) (AC.mk (AB a rfl) (AC.mk (AB a rfl) (AC.mk (AB a rfl) (AC.mk (AB a rfl) (AC.mk (AB a rfl) (Aa.mk (AB a rfl) (AJ.mk (AB a rfl) ?_)))))));refine ae.eight (i.ah A (λb=>b)) λS f T ag=>?_
   refine AC.mk (AO f rfl) (AC.mk (AB f rfl) (AC.mk (AB f rfl) (AC.mk (AB f rfl) (AC.mk (AB f rfl) (AC.mk (AB f rfl) (Aa.mk (AB f rfl) (AJ.mk (AB f rfl) ?_)))))));have:=s S ((z.trans i).more T λc h=>by omega);rw[o,g,E] at this;exact this
theorem mu:QF P Bb A7 dS.w 72=true:=by kernel_rfl
theorem yk {a:Ev}(h:Ef a=true)(hd:a.data.size<18446744073709551616):(Nc a).length<=100+a.data.size:=by
 have c:=h;simp only[Ef,A4] at c;obtain⟨⟨⟨⟨⟨⟨⟨i,j⟩,k⟩,d⟩,e⟩,g⟩,l⟩,m⟩:=c;have o:=Ba.1 i;have p:=Ba.1 j;have q:=Ba.1 k;have r:=AV (n:=a.id.toNat) (by omega);have s:=AV (n:=a.kind.toNat) (by omega);have t:=AV (n:=a.tick.toNat) (by omega);have u:=Mt (f:=cW a.kind) (n:=a.ref) (by cases b:cW a.kind<;>rw[b] at d<;>simp[cX,bV] at d<;>omega);have v:=Mt (f:=dp a.kind) (n:=a.step) (by cases b:dp a.kind<;>rw[b] at e<;>simp[cX,bV] at e<;>omega);have w:=Mt (f:=dD a.kind) (n:=a.turn) (by cases b:dD a.kind<;>rw[b] at g<;>simp[cX,bV] at g<;>omega);have x:=Mt (f:=dT a.kind) (n:=if a.aL then 1 else 0) (by split<;>omega);have y:(gT (dZ a.kind) a.data).length<=10+a.data.size:=by
  cases b:dZ a.kind with
  |false=>simp[gT]
  |true=>
   simp only[gT,if_true,BQ,A1,Ay];have:=AV hd;omega
 simp only[Nc,A1];omega
end Go.Lf.G
namespace Go.Lf
open Go
def TV(a:Int)(v:J0):List (Int×J0)->List (Int×J0)
 | []=> [(a,v)]
 |p::m=>if p.1=a then(a,v)::m else p::TV a v m
def Lr(a:Int)(m:List (Int×J0)):Option J0:=(m.find? λp=>decide (p.1=a)).map (·.2)
def ie(a:Int)(m:List (Int×J0)):List (Int×J0):=m.filter λp=> !decide (p.1=a)
theorem Ga(a:Int)(p:Int×J0)(m:List (Int×J0)):Lr a (p::m)=if p.1=a then some p.2 else Lr a m:=by unfold Lr;rw[F0];by_cases b:p.1=a<;>simp[b]
theorem Zm(a:Int)(v:J0)(c:Int): ∀m,Lr c (TV a v m)=if a=c then some v else Lr c m
 | []=>by unfold TV;rw[Ga]
 |p::m=>by
  unfold TV;split
  ·rename_i d;rw[Ga,Ga];by_cases b:a=c<;>simp[d,b]
  ·rename_i d;rw[Ga,Ga,Zm a v c m];by_cases b:a=c
   ·subst b;simp[d]
   ·simp[b]
structure Ws (kd:IntKind) (es:Array MapEntry) (clock:Nat) (m:List (Int×J0)):Prop where
 same:es.toList.map (λe=>(e.key,e.val))=m.map λp=>(Value.int kd p.1,p.2)
 stamped:MapKept.Stamped es clock
 size:es.size<=maxLen
def TN(kd:IntKind)(d:aa)(b:Nat)(m:List (Int×J0)):Prop:= ∃a c,d[b]? =some (.map a c)/\Ws kd a c m
theorem TN.mod {kd:IntKind}{a c:aa}{b:Nat}{m:List (Int×J0)}{d:Nat->Prop}(M:TN kd a b m)(x:Mod d a c)(e: ¬d b):TN kd c b m:=by obtain⟨f,g,h,i⟩:=M;exact⟨f,g,x.ah h e,i⟩
theorem TN.lt {kd:IntKind}{a:aa}{b:Nat}{m:List (Int×J0)}(M:TN kd a b m):b<a.size:=by obtain⟨d,e,c,f⟩:=M;exact Ai c
theorem TN.empty {kd:IntKind}{a:aa}{b c:Nat}(d:a[b]? =some (.map #[] c)):TN kd a b []:=⟨#[],c,d,rfl,MapKept.stamped_empty c,by simp⟩
theorem Ws.len {kd:IntKind}{a:Array MapEntry}{b:Nat}{m:List (Int×J0)}(M:Ws kd a b m):a.size=m.length:=by rw[<- DO];have:=congrArg List.length M.same;simpa using this
theorem Ws.keysOf {kd:IntKind}{a:Array MapEntry}{b:Nat}{m:List (Int×J0)}(M:Ws kd a b m):a.toList.map (·.key)=m.map λp=>Value.int kd p.1:=by have:=congrArg (List.map Prod.fst) M.same;simpa [AT,FG] using this
theorem Ws.nodup {kd:IntKind}{b:Array MapEntry}{c:Nat}{m:List (Int×J0)}(M:Ws kd b c m):(m.map (·.1)).Nodup:=by
 have a:=M.stamped.2.2;rw[M.keysOf] at a;have d:(m.map λp=>Value.int kd p.1)=(m.map (·.1)).map (Value.int kd):=by simp
 rw[d] at a;exact(List.pairwise_map.1 a).imp λe f=>e (by rw[f])
theorem Oe {kd:IntKind}(a:Int)(v:J0): ∀(c:List MapEntry) (m:List (Int×J0)) (i:Nat),(c.map λe=>(e.key,e.val))=(m.map λp=>(Value.int kd p.1,p.2))->
  (Instr.findNow (.int kd) (.int kd a) c i=some none/\Lr a m=none/\TV a v m=m++ [(a,v)]/\ie a m=m/\ ∀e∈c,e.key≠ .int kd a)\/
  ∃d u,Instr.findNow (.int kd) (.int kd a) c i=some (some (i+d,u))/\Lr a m=some u/\(∃ e,c[d]? =some e/\e.key= .int kd a)/\((c.modify d λe=> {e with key:= .int kd a,val:=v}).map λe=>(e.key,e.val))=(TV a v m).map (λp=>(Value.int kd p.1,p.2))/\
   ((m.map (·.1)).Nodup->((c.eraseIdx d).map λe=>(e.key,e.val))=(ie a m).map λp=>(Value.int kd p.1,p.2))
 | [],[],i,_=> .inl ⟨rfl,rfl,rfl,rfl,by simp⟩
 | [],_::_,_,h=>by simp at h
 |_::_,[],_,h=>by simp at h
 |e::c,p::m,i,h=>by
  simp only[B9,Ge,LR] at h;obtain⟨⟨j,l⟩,n⟩:=h;have o:Instr.sameNow (.int kd) (.int kd a) e.key=some (decide (a=p.1)):=by rw[j];show(if kd=kd then some (a==p.1) else none)=_;rw[if_pos rfl];congr 1
  by_cases b:p.1=a
  ·refine .inr ⟨0,e.val,?_,?_,⟨e,rfl,by rw[j,b]⟩,?_,?_⟩
   ·unfold Instr.findNow;rw[o,decide_eq_true b.symm];rfl
   ·rw[Ga,if_pos b,l]
   ·unfold TV;rw[if_pos b];simp[n]
   ·intro g;have g:=List.nodup_cons.1 g;simp only[List.eraseIdx_zero,List.tail_cons];rw[n];congr 1;unfold ie;rw[AS];simp only[b,decide_true,Ly,Cp,if_false];refine(List.filter_eq_self.2 λC w=>?_).symm;simp only[CH,decide_eq_false_iff_not];rintro rfl;exact g.1 (by show p.1∈_;rw[b];exact IN (f:=Prod.fst) w)
  ·rcases Oe a v c m (i+1) n with⟨q,r,s,k,y⟩|⟨d,u,q,r,⟨z,s,A⟩,B,k⟩
   ·refine .inl ⟨?_,?_,?_,?_,?_⟩
    ·unfold Instr.findNow;rw[o,decide_eq_false (λe=>b e.symm)];exact q
    ·rw[Ga,if_neg b];exact r
    ·unfold TV;rw[if_neg b,s];rfl
    ·unfold ie at k ⊢;rw[AS];simp[b];simpa using k
    ·intro x t;rcases List.mem_cons.1 t with rfl|t
     ·rw[j];intro e;injection e with _ e;exact b e
     ·exact y x t
   ·refine .inr ⟨d+1,u,?_,?_,⟨z,by simpa using s,A⟩,?_,?_⟩
    ·unfold Instr.findNow;rw[o,decide_eq_false (λe=>b e.symm)];rw[show i+(d+1)=i+1+d by omega];exact q
    ·rw[Ga,if_neg b];exact r
    ·unfold TV;rw[if_neg b];simp[j,l,B]
    ·intro g;have g:=List.nodup_cons.1 g;have:=k g.2;unfold ie at this ⊢;rw[AS];simp[b,j,l];simpa using this
section
variable {P : Q1} {kd : IntKind}
theorem GI {a:Q7}(c:P.underlying a=some (.int kd))(d:Bool)(e:Nat)(f:Int)(b:World):(Instr.checkKey d (e+1) a (.int kd f)).run P b= .ok () b:=by simp[Instr.checkKey,BN c]
theorem MJ {g:aq}{t h i:Q7}{z:J0}(j:P.underlying t=some (.map h i))(c:P.underlying h=some (.int kd))(n:(zeroValue i).calc P=some z){a:aa}{b:Nat}{m:List (Int×J0)}{d:Int}{K:A2K}
  (M:TN kd a b m) (o:K ((Lr d m).getD z) a):BJ g P (Instr.lookup t (.map (some b)) (.int kd d) false) a K:=by
 intro k;refine⟨_,a,k,?_,o⟩;obtain⟨p,v,q,s⟩:=M;have l:=MapKept.run_getObj_map (P:=P) (w:=g.at a k) (r:=b) q;rcases Oe d z p.toList m 0 s.same with⟨e,f,_⟩|⟨x,u,e,f,_,_⟩
 ·simp[Instr.lookup,BN j,l,GI c,Instr.findKey,BN c,e,f,Result.andThen,Dh n]
 ·simp[Instr.lookup,BN j,l,GI c,Instr.findKey,BN c,e,f,Result.andThen]
theorem AKM {g:aq}{t q G:Q7}(s:P.underlying t=some (.map q G))(h:P.underlying q=some (.int kd)){a:aa}{b:Nat}{m:List (Int×J0)}{d:Int}{v:J0}{K:aa->Prop}
  (M:TN kd a b m) (O:m.length<maxLen) (y: ∀i,TN kd i b (TV d v m)->Mod (λc=>c=b) a i->i.size=a.size->K i):gO g P (Instr.mapUpdate t (.map (some b)) (.int kd d) v) a K:=by
 intro f;obtain⟨j,l,n,e⟩:=M;have z:=Ai n;have A:=MapKept.run_getObj_map (P:=P) (w:=g.at a f) (r:=b) n;have B: ∀k,(setObj b k).run P (g.at a f)= .ok () (g.at (a.setIfInBounds b k) f):=λk=>MapKept.run_setObj_map (P:=P) (w:=g.at a f) k n
 have Q:=e.len;rcases Oe d v j.toList m 0 e.same with⟨o,H,p,_,I⟩|⟨C,u,o,H,⟨J,p,D⟩,L,_⟩
 ·refine⟨a.setIfInBounds b (.map (j.push {key:= .int kd d,val:=v,born:=l}) (l+1)),f,?_,y _ ⟨_,_,Cb z,?_,MapKept.stamped_push e.stamped I,by simp;omega⟩ (Mod.setObj rfl) (by simp)⟩
  ·simp[Instr.mapUpdate,BN s,A,GI h,Instr.findKey,BN h,o,Result.andThen,B]
  ·rw[p];simp[e.same]
 ·have E:j[C]? =some J:=by simpa using p
  refine⟨a.setIfInBounds b (.map (j.modify C λe=> {e with key:= .int kd d,val:=v}) l),f,?_,y _ ⟨_,_,Cb z,?_,MapKept.stamped_modify e.stamped _ _ (λ_ _=>rfl) (λx _ F=>?_),by simpa using e.size⟩ (Mod.setObj rfl) (by simp)⟩
  ·have N: ∀w,(Instr.keyThatStays (.int kd d) (.int kd d)).run P w= .ok (.int kd d) w:=λw=>by
    simp[Instr.keyThatStays,Instr.sameBits]
   simp[Instr.mapUpdate,BN s,A,GI h,Instr.findKey,BN h,o,E,D,N,Result.andThen,B]
  ·rw[Hn];exact L
  ·rw[E] at F;cases F;exact D.symm
theorem AKE {g:aq}{t k B C:Q7}(s:P.underlying t=some (.map k B))(h:P.underlying k=some (.int kd)){a:aa}{b:Nat}{m:List (Int×J0)}{l:Int}{K:A2K}
  (M:TN kd a b m) (v: ∀i,TN kd i b (ie l m)->Mod (λc=>c=b) a i->i.size=a.size->K (J1 #[]) i):BJ g P (Builtin.delete_ #[t,k] C #[.map (some b),.int kd l]) a K:=by
 intro e;obtain⟨f,x,n,d⟩:=M;have y:=Ai n;have z:=MapKept.run_getObj_map (P:=P) (w:=g.at a e) (r:=b) n;have A: ∀j,(setObj b j).run P (g.at a e)= .ok () (g.at (a.setIfInBounds b j) e):=λj=>MapKept.run_setObj_map (P:=P) (w:=g.at a e) j n
 rcases Oe l (J3 true) f.toList m 0 d.same with⟨o,D,_,p,_⟩|⟨q,u,o,D,⟨E,F,I⟩,_,p⟩
 ·refine⟨_,a.setIfInBounds b (.map f x),e,?_,v _ ⟨_,_,Cb y,by rw[p];exact d.same,d.stamped,d.size⟩ (Mod.setObj rfl) (by simp)⟩;simp[Builtin.delete_,BN s,z,GI h,Instr.findKey,BN h,o,Result.andThen,A]
 ·have G:f[q]? =some E:=by simpa using F
  refine⟨_,a.setIfInBounds b (.map (f.eraseIdxIfInBounds q) x),e,?_,v _ ⟨_,_,Cb y,?_,MapKept.stamped_erase d.stamped _,?_⟩ (Mod.setObj rfl) (by simp)⟩
  ·simp[Builtin.delete_,BN s,z,GI h,Instr.findKey,BN h,o,Result.andThen,A]
  ·have H:=(Array.getElem?_eq_some_iff.1 G).1;rw[Array.eraseIdxIfInBounds,dif_pos H,A0i];exact p d.nodup
  ·have:(f.eraseIdxIfInBounds q).size<=f.size:=by unfold Array.eraseIdxIfInBounds;split<;>simp
   have:=d.size;omega
end
theorem wT(b c:Int): ∀m:List (Int×J0),Lr c (ie b m)=if b=c then none else Lr c m
 | []=>by simp[Lr,ie]
 |p::m=>by
  have e:=wT b c m;unfold ie at e ⊢;rw[AS,Ga];by_cases d:p.1=b
  ·rw[if_neg (by simp[d]),e];by_cases a:b=c
   ·rw[if_pos a,if_pos a]
   ·rw[if_neg a,if_neg a,if_neg (λf=>a (d.symm.trans f))]
  ·rw[if_pos (by simp[d]),Ga,e];by_cases a:p.1=c
   ·rw[if_pos a,if_pos a,if_neg (λf=>d (a.trans f.symm))]
   ·rw[if_neg a,if_neg a]
theorem APm {a:Int}{m:List (Int×J0)}:(ie a m).length<=m.length:=A0s _ _
theorem Xz {k:Int}{v:J0}: ∀ {m:List (Int×J0)},(TV k v m).length<=m.length+1
 | []=>by simp[TV]
 |p::m=>by
  unfold TV;split
  ·simp
  ·have:=Xz (k:=k) (v:=v) (m:=m);simp only[A5];omega
section
variable {P : Q1} {kd : IntKind}
theorem wU {i:aq}{t O Q:Q7}{z:J0}(R:P.underlying t=some (.map O Q))(A:P.underlying O=some (.int kd))(Y:(zeroValue Q).calc P=some z){f:aa}{b:Nat}{m:List (Int×J0)}{g:Int}{v:J0}{K:aa->Prop}
  (M:TN kd f b m) (ak:m.length<maxLen) (S: ∀B,TN kd B b (TV g v m)->Mod (λc=>c=b) f B->B.size=f.size->K B):
  BJ i P (Instr.mapEntry t (.map (some b)) (.int kd g)) f λw n=> ∃x u:J0,w=J1 #[x,u]/\ ∃st:Int,u=J6 J9 st/\(gO i P (Instr.entryStore t (.map (some b)) (J6 J9 st) v) n λZ=>K Z):=by
 intro y;obtain⟨e,d,E,h⟩:=M;have T:=Ai E;have U:=MapKept.run_getObj_map (P:=P) (w:=i.at f y) (r:=b) E;have V: ∀k,(setObj b k).run P (i.at f y)= .ok () (i.at (f.setIfInBounds b k) y):=λk=>MapKept.run_setObj_map (P:=P) (w:=i.at f y) k E
 have al:=h.len;obtain⟨ab,W,_⟩:=h.stamped;rcases Oe g v e.toList m 0 h.same with⟨F,ac,p,_,ad⟩|⟨j,u,F,ac,⟨q,p,C⟩,ae,_⟩
 ·refine⟨J1 #[z,goInt d],f.setIfInBounds b (.map (e.push ⟨.int kd g,z,d⟩) (d+1)),y,?_,z,goInt d,rfl,(d:Int),rfl,λo=>?_⟩
  ·simp[Instr.mapEntry,BN R,U,GI A,Instr.findKey,BN A,F,Result.andThen,Dh Y,V]
  have s:(f.setIfInBounds b (.map (e.push ⟨.int kd g,z,d⟩) (d+1)))[b]? =some (.map (e.push ⟨.int kd g,z,d⟩) (d+1)):=Cb T;have G:Mod (λc=>c=b) f (f.setIfInBounds b (.map (e.push ⟨.int kd g,z,d⟩) (d+1))):=Mod.setObj rfl;have af:(f.setIfInBounds b (.map (e.push ⟨.int kd g,z,d⟩) (d+1))).size=f.size:=by simp
  generalize f.setIfInBounds b (.map (e.push ⟨.int kd g,z,d⟩) (d+1))=n at*
  have H:=Ai s;have I:=MapKept.run_getObj_map (P:=P) (w:=i.at n o) (r:=b) s;have J: ∀k,(setObj b k).run P (i.at n o)= .ok () (i.at (n.setIfInBounds b k) o):=λk=>MapKept.run_setObj_map (P:=P) (w:=i.at n o) k s
  have L:(e.push ⟨.int kd g,z,d⟩).findIdx? (λh=>((h.born:Nat):Int)==((d:Nat):Int))=some e.size:=by
   rw[WideElems.findIdx_arr];exact WideElems.findIdx_born (l:=(e.push ⟨.int kd g,z,d⟩).toList) (j:=e.size) (e0:=⟨.int kd g,z,d⟩) (by
    simp only[Se,Bm,B9,Sf];refine List.nodup_append.2 ⟨W,by simp,λa ag c ah am=>?_⟩;simp only[HL] at ah;obtain⟨x,D,rfl⟩:=List.mem_map.1 ag;have:=ab x D;omega) (by simp)
  have N:(e.push ⟨.int kd g,z,d⟩).modify e.size (λh=> {h with val:=v})=e.push ⟨.int kd g,v,d⟩:=by apply NX;rw[Hn,Se,Se,<-DO,WideElems.modify_last]
  refine⟨n.setIfInBounds b (.map (e.push ⟨.int kd g,v,d⟩) (d+1)),o,?_,S _ ⟨_,_,Cb H,?_,MapKept.stamped_push h.stamped ad,by simp;omega⟩ (G.trans (Mod.setObj rfl)) (by simp;omega)⟩
  ·simp[Instr.entryStore,I,asInt,asIntOf,goInt,L,N,J,Result.andThen]
  ·rw[p];simp[h.same]
 ·have X:e[j]? =some q:=by simpa using p
  have ai:e.modify j (λh=> {h with key:= .int kd g})=e:=by
   apply NX;rw[Hn,ChangeMaps.modify_eq_set _ _ _ _ p];have:({q with key:= .int kd g}:MapEntry)=q:=by rw[<- C]
   rw[this];exact WideElems.set_self _ _ _ p
  have aj: ∀w,(Instr.keyThatStays (.int kd g) (.int kd g)).run P w= .ok (.int kd g) w:=λw=>by
   simp[Instr.keyThatStays,Instr.sameBits]
  refine⟨J1 #[u,goInt q.born],f.setIfInBounds b (.map e d),y,?_,u,goInt q.born,rfl,(q.born:Int),rfl,λo=>?_⟩
  ·simp[Instr.mapEntry,BN R,U,GI A,Instr.findKey,BN A,F,X,C,aj,ai,Result.andThen,V]
  have s:(f.setIfInBounds b (.map e d))[b]? =some (.map e d):=Cb T;have G:Mod (λc=>c=b) f (f.setIfInBounds b (.map e d)):=Mod.setObj rfl;have af:(f.setIfInBounds b (.map e d)).size=f.size:=by simp
  generalize f.setIfInBounds b (.map e d)=n at*
  have H:=Ai s;have I:=MapKept.run_getObj_map (P:=P) (w:=i.at n o) (r:=b) s;have J: ∀k,(setObj b k).run P (i.at n o)= .ok () (i.at (n.setIfInBounds b k) o):=λk=>MapKept.run_setObj_map (P:=P) (w:=i.at n o) k s
  have L:e.findIdx? (λh=>((h.born:Nat):Int)==((q.born:Nat):Int))=some j:=by rw[WideElems.findIdx_arr];exact WideElems.findIdx_born W p
  have N:e.modify j (λh=> {h with val:=v})=e.modify j (λh=> {h with key:= .int kd g,val:=v}):=by apply NX;rw[Hn,Hn,ChangeMaps.modify_eq_set _ _ _ _ p,ChangeMaps.modify_eq_set _ _ _ _ p,<-C]
  refine⟨n.setIfInBounds b (.map (e.modify j λh=> {h with key:= .int kd g,val:=v}) d),o,?_,S _ ⟨_,_,Cb H,?_,MapKept.stamped_modify h.stamped _ _ (λ_ _=>rfl) (λx _ D=>?_),by simpa using h.size⟩ (G.trans (Mod.setObj rfl)) (by simp;omega)⟩
  ·simp[Instr.entryStore,I,asInt,asIntOf,goInt,L,N,J,Result.andThen]
  ·rw[Hn];exact ae
  ·rw[X] at D;cases D;exact C.symm
end
end Go.Lf
namespace Go.Lf.G
open Go
def CE(a:Nat):A2L:=AY [CL 108,CL a]
def Jq(a:Nat)(name:A2L):A2L:=AY (Bc a++BQ (bl name))
theorem KW(a:Nat):(CE a).size=2:=rfl
theorem AMt(a:Nat):CE a≠⟨#[]⟩:=λb=>by have:=congrArg ByteArray.size b;rw[KW] at this;cases this
theorem zA {m a:Nat}(c:m<256)(d:a<256)(h:CE m=CE a):m=a:=by have b:=Ob.1 h;simp only[Ge,and_true,true_and] at b;have:=congrArg UInt8.toNat b;rwa [Dc c,Dc d] at this
theorem AKq {a:Nat}{name:A2L}(d:a<=2147483647)(b:Aj name=true):(Jq a name).size<=8192:=by have e:=(FV.1 b).2.1;have f:=AV (n:=a) (by omega);have c:=AV (n:=(bl name).length) (by rw[Ay];omega);unfold Jq BQ;rw[AP,A1,A1,Ay];rw[Ay] at c;omega
section
variable {A : aq} {h : aa} {R : A2K}
theorem TS {a:Nat}(b:a<256)(e: ∀c,Ext h c->R (J7 (CE a)) c):AA A P IB #[J6 J9 (a:Int)] h R:=by
 refine AEI ?_;unfold Yn;refine Vp ?_;unfold RY;refine ao.mk λd _ f g j=>?_
 have v1:View HY d ⟨some ⟨h.size,0,none⟩,1,1⟩ [CL a]:=(Own.lit (E:=HY) (l:= [CL a]) f (by simp[HY,Dc b,wrap_u8,An b]) (by simp[maxLen])).view;refine Ka (s:=⟨some ⟨h.size,0,none⟩,1,1⟩) Za kX PW v1 ⟨_,rfl,⟨_,rfl,⟨by rw[AP,max_i64,show(⟨#[108]⟩:A2L).size=1 from rfl];simp,?_⟩⟩⟩;have i:(⟨#[108]⟩:A2L)++AY [CL a]=CE a:=by rw[show(⟨#[108]⟩:A2L)=AY [CL 108] from rfl,Ak];rfl
 rw[i];exact e d g
theorem oI {a:Nat}{name:A2L}(k:1<=a)(m:a<=2147483647)(b:Aj name=true)(f: ∀c,Ext h c->R (J1 #[J7 (Jq a name),J6 J9 0]) c):AA A P Kh #[J6 J9 (a:Int),J7 name] h R:=by
 obtain⟨l,rfl⟩: ∃l,name=AY l:=⟨_,(ED name).symm⟩;have d:=(FV.1 b).2.1;rw[AP] at d;refine AGR ?_;unfold uJ;refine ai.mk λK g=>af.no (decide_eq_false (by omega)) (af.no (decide_eq_false (by omega)) (Ep ⟨_,rfl,g _ _ (af.no (by rw[b];rfl) ?_)⟩))
 rw[CF (by omega)];have e:=AV (n:=a) (by omega);have o:=AV (n:=l.length) (by omega);refine Cc (by omega) λd i=>⟨_,rfl,?_⟩
 refine RB (l:=l) (by omega) λe j=>⟨_,rfl,⟨?_,?_⟩⟩
 ·rw[AP,AP,max_i64];unfold BQ;rw[A1];omega
 ·rw[Ak];have:=f e (i.trans j);unfold Jq at this;rwa [show bl (AY l)=l from Bh l] at this
theorem ANR {r:Nat}{name:A2L}(j:1<=r)(a:r<=2147483647)(b:Aj name=true)(k: ∀d,Ext h d->R (J1 #[J6 J9 (r:Int),J7 name,J6 J9 0]) d):AA A P Pv #[J7 (Jq r name)] h R:=by
 have m:=b;obtain⟨l,rfl⟩: ∃l,name=AY l:=⟨_,(ED name).symm⟩;have o:=(FV.1 b).2.1;rw[AP] at o;have w:=AV (n:=r) (by omega);have x:=AV (n:=l.length) (by omega);have y:(BQ l).length<=26:=by unfold BQ;rw[A1];omega
 refine ADj ?_;unfold WT Jq;rw[show bl (AY l)=l from Bh l];refine Js (l:=Bc r++BQ l) λz p q=>⟨_,rfl,?_⟩
 refine DN (most:=2147483647) p (by simp only[A1];omega) (by decide) λB e s=>⟨_,rfl,?_⟩
 rw[CQ (by omega) a] at e ⊢;refine G8 e (by dsimp only;omega) λt f u=>⟨_,rfl,?_⟩
 have g:=IW (l:=l) (by omega) [];rw[AM] at g;rw[g] at f ⊢;refine oI j a m λhd i=>⟨_,_,rfl,?_⟩
 refine ai.mk λK v=>af.no rfl (MU (r:=⟨[],false⟩) (i.ah f λh=>h) ⟨_,rfl,v _ _ (af.no rfl ?_)⟩)
 exact k hd ((q.then ((s.trans u).aj λc _ t=> .inr (by omega))).trans i)
end
theorem tM: ∀(k a:Nat),Ia (k+1) a=CL (a / 256^k)::Ia k a
 |0,a=>by rw[Ia,Ia];simp[Ia]
 |k+1,a=>by
  rw[Ia,tM k (a / 256),CN];show CL (a / 256 / 256^k)::(Ia k (a / 256)++ [CL a])=_;rw[Vc,show 256*256^k=256^(k+1) from by rw[DH,CD]];rfl
theorem tN(m:Nat):(m:Int).fdiv ((2:Int)^(8:Nat))=((m / 256:Nat):Int):=by rw[show((2:Int)^(8:Nat))=256 from by decide,Wa _ (by decide)];omega
section
variable {A : aq} {h : aa} {R : A2K}
theorem VM {n:Nat}(r: ∀o,Ext h o->R (J7 (AY (Ia 8 n))) o):AA A P Jg #[.int .u64 (n:Int)] h R:=by
 refine AEr ?_;unfold Yz;refine wG (E:=HY) (x0:=0) (v:= .int .u8 0) (n:=8) VW yF rfl rfl rfl (by omega) (by simp only[maxLen];omega) λt u w D=>?_
 dsimp only;refine Loop.rule (λm x d=> ∃i:Nat,x=(((n / 256^i:Nat):Int),(i:Int),())/\m=8-i/\i<=8/\Mod (λc=>c=h.size) t d/\Own HY EE d ⟨some ⟨h.size,0,none⟩,8,8⟩ (List.replicate (8-i) 0++Ia i n)) ?_ ⟨0,by simp,rfl,by omega,Mod.refl,by simpa [Ia] using u⟩;rintro F m _ d ⟨i,rfl,rfl,G,p,f⟩ y;dsimp only;refine af.intro (λg=>?_) (λg=>?_)
 ·have k:i<8:=by simp at g;omega
  rw[wrap_i64 (by omega) (by omega),show(7:Int)-(i:Int)=((7-i:Nat):Int) from by omega,tN,Ae (by omega),Vc,<-DH];have ag:(List.replicate (8-i) (0:UInt8)++Ia i n)[7-i]? =some 0:=by rw[GB (by simp;omega),List.getElem?_replicate,if_pos (by omega)]
  refine f.view.idx ag λa z H=>?_
  rw[A6,<-add_zero (a.add ((7-i)*1)),wrap_u8];refine Own.store (E:=HY) (i:=7-i) (j:=0) (x:=0) (x':=CL (n / 256^i)) (v:= .int .u8 ((n / 256^i % 256:Nat):Int)) f ag (by show [Value.int .u8 _]=_;rw[Qq,Dc (by omega)];rfl) (by decide) (λI q B J=>?_) a z;refine y (8-(i+1)) _ _ (by omega) ⟨i+1,rfl,rfl,k,p.trans (B.aj λb _ e=>?_),?_⟩
  ·simp[Sl.ah] at e;exact e.symm
  ·have C:(List.replicate (8-i) (0:UInt8)++Ia i n).set (7-i) (CL (n / 256^i))=List.replicate (8-(i+1)) 0++Ia (i+1) n:=by rw[tM,show 8-i=(7-i)+1 from by omega,List.replicate_succ',A3,HM _ _ (by simp),List.length_replicate,Mu,show 8-(i+1)=7-i from by omega];rfl
   rw[C] at q;exact q
 ·have k:i=8:=by simp at g;omega
  subst k;refine Ka VW yG yH (s:=⟨some ⟨h.size,0,none⟩,8,8⟩) (l:=Ia 8 n) (by simpa using f.view) ⟨_,rfl,?_⟩;exact r d (w.more p λb e=>by subst e;exact A0 _)
theorem tO {wid:A2L}(e:wid.size<=1000000)(b: ∀a,Ext h a->R (J7 (XA wid)) a):AA A P MS #[J7 wid] h R:=by
 refine AB4 ?_;unfold WZ;have f:=AV (n:=(bl wid).length) (by rw[Ay];omega);refine KX (by omega) λc d=>⟨_,rfl,⟨?_,?_⟩⟩
 ·rw[AP,max_i64];unfold BQ;rw[A1,Ay] at*
  rw[show(⟨#[104]⟩:A2L).size=1 from rfl];omega
 ·rw[show(⟨#[104]⟩:A2L)=AY [kE] from rfl,Ak];exact b c d
theorem tP {wid:A2L}{id:Nat}(b:wid.size<=1000000)(c:id<18446744073709551616)(d: ∀a,Ext h a->R (J7 (eg wid id)) a):AA A P Nl #[J7 wid,J6 J9 (id:Int)] h R:=by
 refine AEM ?_;unfold Xo;refine tO b λi e=>⟨_,rfl,?_⟩
 rw[if_neg (by omega),CF c];have j:=AV (n:=(bl wid).length) (by rw[Ay];omega);refine VM λf g=>⟨_,rfl,⟨⟨by decide,by rw[AP,Ko];decide⟩,?_⟩⟩
 rw[show(AY (Ia 8 id)).extract (4:Int).toNat (AY (Ia 8 id)).size=AY (Ia 4 id) from VO (Ia 8 id) 4];refine⟨?_,?_⟩
 ·unfold XA kV BQ;rw[AP,AP,Ko,max_i64];simp only[A5,A1,Ay] at*
  omega
 ·have:=d f (e.trans g);unfold XA;rw[Ak];exact this
theorem nw {wid:A2L}(c:wid.size<=1000000)(a:R (J7 (Ki wid)) h):AA A P GQ #[J7 wid] h R:=by
 refine AHL ?_;unfold uF;refine⟨by rw[max_i64,show(⟨#[119]⟩:A2L).size=1 from rfl];omega,?_⟩;have b:(⟨#[119]⟩:A2L)++wid=Ki wid:=by
  conv=>lhs;rw[<- ED wid]
  rw[show(⟨#[119]⟩:A2L)=AY [119] from rfl,Ak];rfl
 rw[b];exact a
theorem tQ {a:A2L}(d:a.size<=1000000)(b:R (J7 (Kk a)) h):AA A P KA #[J7 a] h R:=by
 refine Zy ?_;unfold SV;refine⟨by rw[max_i64,show(⟨#[114]⟩:A2L).size=1 from rfl];omega,?_⟩;have c:(⟨#[114]⟩:A2L)++a=Kk a:=by
  conv=>lhs;rw[<- ED a]
  rw[show(⟨#[114]⟩:A2L)=AY [114] from rfl,Ak];rfl
 rw[c];exact b
theorem Ym {a:Nat}(b:a<256)(e: ∀c,Ext h c->R (J7 (AY [CL a])) c):AA A P LX #[J6 J9 (a:Int)] h R:=by
 refine Vp ?_;unfold RY;refine ao.mk λd _ f g i=>?_
 have v1:View HY d ⟨some ⟨h.size,0,none⟩,1,1⟩ [CL a]:=(Own.lit (E:=HY) (l:= [CL a]) f (by
  show [Value.int .u8 (J8 .u8 (a:Int))]= [Value.int .u8 ((CL a).toNat:Int)];rw[wrap_u8,Dc b,An b]) (by simp[maxLen])).view
 exact Ka (s:=⟨some ⟨h.size,0,none⟩,1,1⟩) Za kX PW v1 ⟨_,rfl,e d g⟩
theorem AP9 {a id:Nat}(c:a<256)(d: ∀b,Ext h b->R (J7 (DF a id)) b):AA A P KE #[J6 J9 (a:Int),.int .u64 (id:Int)] h R:=by
 refine ZQ ?_;unfold SX;refine Pg ?_;unfold MK;refine Ym c λi e=>⟨_,rfl,⟨by rw[AP,max_i64];show((2:Nat):Int)<=9223372036854775807;decide,⟨_,rfl,?_⟩⟩⟩
 rw[show(⟨#[116]⟩:A2L)=AY [116] from rfl,Ak];refine VM λf g=>⟨_,rfl,⟨by rw[AP,AP,Ko,max_i64];show((10:Nat):Int)<=9223372036854775807;decide,?_⟩⟩
 rw[Ak];exact d f (e.trans g)
theorem AP5 {a id t:Nat}(c:a<256)(d:t<18446744073709551616)(e: ∀b,Ext h b->R (J7 (R9 a t id)) b):AA A P OD #[J6 J9 (a:Int),J6 J9 (t:Int),.int .u64 (id:Int)] h R:=by
 refine AEb ?_;unfold YK;refine Tg ?_;unfold QJ;refine Ym c λk f=>⟨_,rfl,⟨by rw[AP,max_i64];show((2:Nat):Int)<=9223372036854775807;decide,⟨_,rfl,?_⟩⟩⟩
 rw[show(⟨#[109]⟩:A2L)=AY [109] from rfl,Ak,if_neg (by omega),CF d];refine VM λl g=>⟨_,rfl,⟨by rw[AP,AP,Ko,max_i64];show((10:Nat):Int)<=9223372036854775807;decide,?_⟩⟩
 rw[Ak];refine VM λi j=>⟨_,rfl,⟨by rw[AP,AP,A1,Ko,max_i64];show((18:Nat):Int)<=9223372036854775807;decide,?_⟩⟩
 rw[Ak];exact e i ((f.trans g).trans j)
theorem tT {m:cP}{st nx:Nat}(f:m.status=(st:Int))(g:m.next=(nx:Int))(s:st<128)(t:nx<=501)(i: ∀d,Ext h d->R (J7 (QX st nx m.kept)) d):AA A P FN #[m.v] h R:=by
 refine XY ?_;unfold PO;have u:=Fg (n:=st) (by omega);have v:=Fg (n:=nx) (by omega);refine ao.mk λj _ b k w=>ai.mk λK l=>?_
 have key: ∀n:Nat,n=(if m.kept then 1 else 0)->K ((n:Int),()) j:=λn c=>by
  refine l _ _ (AC.mk (AO b rfl) (AC.mk (AB b rfl) ?_));have x:(Bc n).length<=2:=Fg (by split at c<;>omega);rw[f,CF (by omega)];refine Cc (by omega) λy e=>⟨_,rfl,?_⟩
  have o:=e.ah b (λh=>h);refine⟨AB o rfl,?_⟩;rw[g,CF (by omega)];refine Cc (by omega) λz p=>⟨_,rfl,⟨by rw[AP,AP,max_i64];omega,?_⟩⟩
  rw[Ak];refine Cc (by split at c<;>omega) λq r=>⟨_,rfl,⟨by rw[AP,AP,A1,max_i64];omega,?_⟩⟩
  rw[Ak,A3];have:=i q (((k.trans e).trans p).trans r);unfold QX at this;rw[<- c] at this;exact this
 refine Aa.mk (AB b rfl) (af.intro (λa=>?_) (λa=>?_))
 ·have a:m.kept=true:=a;exact key 1 (by rw[a];rfl)
 ·have a:m.kept=false:=a;exact key 0 (by rw[a];rfl)
theorem AKi {st nx:Nat}{a:Bool}(s:st<=4)(O:2<=nx)(t:nx<=501)(u: ∀l,Ext h l->R (J1 #[(⟨(st:Int),(nx:Int),a⟩:cP).v,J6 J9 0]) l):AA A P Oj #[J7 (QX st nx a)] h R:=by
 refine ABE ?_;unfold TU;refine ao.mk λv _ m o Q=>?_
 unfold QX;have S:=Fg (n:=st) (by omega);have T:=Fg (n:=nx) (by omega);have U:(Bc (if a then 1 else 0)).length<=2:=Fg (by split<;>omega);have w:CS 1 ⟨Bc (if a then 1 else 0),false⟩=((if a then 1 else 0),⟨[],false⟩):=by have:=CQ (n:=if a then 1 else 0) (most:=1) (by split<;>omega) (by split<;>omega) [];rwa [AM] at this
 refine Js λx p d=>⟨_,rfl,?_⟩
 refine DN (most:=4) p (by simp only[A1];omega) (by decide) λV y e=>⟨_,rfl,?_⟩
 rw[CQ (by omega) s] at*
 refine DN (most:=501) y (by simp only[A1];omega) (by decide) λW z f=>⟨_,rfl,?_⟩
 rw[CQ (by omega) t] at*
 refine DN (most:=1) z (by simp only;omega) (by decide) λB C g=>⟨_,rfl,?_⟩
 rw[w] at*
 refine ao.mk λX _ D i Y=>aF.mk D (A0 3) λj q k Z=>?_
 have aa:=Ai m;have ab:=d.size;have ac:=e.size;have ad:=f.size;have ae:=g.size;have E:j[h.size]? =some (J2 cP.z.c JH (0,0)):=k.ah (i.ah (g.ah (f.ah (e.ah (d.ah m (λh=>h)) (by omega)) (by omega)) (by omega)) (λh=>h)) (by omega);have F:Ie j v.size ⟨[],false⟩:=k.ah (i.ah C (λh=>h)) (by have:=Ai p;omega);have G:Ext h j:=by
  have H:Ext h x:=o.trans d;have r:Ext h B:=H.more ((e.trans f).trans g) λc b=>by subst b;exact o.size
  exact(r.trans i).more k λc b=>by subst b;exact r.size
 refine ai.mk λK I=>MU F ⟨_,rfl,af.no rfl (AC.mk (AB q rfl) (I _ _ (af.no (decide_eq_false (by show ¬((nx:Int)<2);omega)) ?_)))⟩
 have J:(((if a then 1 else 0:Nat):Int)==(1:Int))=a:=by cases a<;>rfl
 refine OU.mk ⟨(st:Int),(nx:Int),_⟩ (Cu q rfl) (aF.mk E (A0 3) λL M N ag=>OU.mk ⟨(st:Int),(nx:Int),_⟩ (Cu M rfl) ?_);rw[J];exact u L (G.more N λc b=>by subst b;exact A0 _)
def Av(wid:A2L)(a:Nat):Nat:=mg wid / 256 % a
theorem R8 {wid:A2L}{a:Nat}(d:wid.size<=1000000)(e:1<=a)(f:a<=16)(b:R (J1 #[J6 J9 (Av wid a:Int),J6 J9 0]) h):AA A P Kq #[J7 wid,J6 J9 (a:Int)] h R:=by
 refine AEu ?_;unfold Ye;refine ai.mk λK c=>af.no (decide_eq_false (by omega)) ?_
 refine c _ _ (af.no (decide_eq_false (by omega)) (rB (by omega) ⟨_,_,rfl,⟨by omega,?_⟩⟩));have g:=(xM wid);rw[tN,wrap_i64 (by omega) (by omega)];exact b
end
def gj(p f:A2L):A2L:=if aM p f then f else p
theorem AS8(p f b:A2L):aM b (gj p f)=false↔aM b p=false/\aM b f=false:=by
 unfold gj;split
 ·rename_i c;refine⟨λa=>⟨?_,a⟩,λa=>a.2⟩;cases d:aM b p
  ·rfl
  ·rw[Da d c] at a;cases a
 ·rename_i c;refine⟨λa=>⟨a,?_⟩,λa=>a.1⟩;exact ZY (by simpa using c) a
def QD(p:A2L):A2L:=⟨((eO p.data.toList).getD []).toArray⟩
theorem ATO: ∀ {p c:List UInt8},eO p=some c->c≠ []
 | [],c,b=>by cases b
 |a::p,c,b=>by
  unfold eO at b;split at b
  ·obtain rfl:=BY b;simp
  ·split at b
   ·obtain rfl:=BY b;simp
   ·cases b
theorem APQ(p d:A2L):(decide (QD p=⟨#[]⟩)||aM d (QD p))=true↔ ∀a,eO p.data.toList=some a->d.data.toList<a:=by
 unfold QD;cases e:eO p.data.toList with
 |none=>simp
 |some a=>
  have f:=ATO e;have c:decide ((⟨(Option.getD (some a) []).toArray⟩:A2L)=⟨#[]⟩)=false:=decide_eq_false λc=>f (by
   have:=congrArg (λb:A2L=>b.data.toList) c;simpa using this)
  rw[c,SU,VY];simp
theorem AQn(p f a:A2L):kq (gj p f) (QD p) a=(Km p a&& !aM a f):=by
 rw[DS];unfold kq;rw[A4,A4,APQ,CH,AS8,Og,<-wR,CH];rw[show(aM a p=false↔ ¬a.data.toList<p.data.toList) from by rw[VY];simp];constructor
 ·rintro⟨⟨b,c⟩,d⟩;exact⟨⟨b,d⟩,c⟩
 ·rintro⟨⟨b,d⟩,c⟩;exact⟨⟨b,c⟩,d⟩
def jf(m:List Pr)(p f:A2L)(a:Int):List Pr:=(m.filter λx=>Km p x.key&& !aM x.key f).take a.toNat
theorem AOo(m:List Pr)(p f:A2L)(a:Int):mG m (gj p f) (QD p) a=jf m p f a:=by unfold mG Qz jf;rw[HG λx _=>AQn p f x.key]
def Bd(m:List Pr)(c:Pr):Bool:=if c.gone then !(I1 m c.key).2 else(I1 m c.key).2&&decide ((I1 m c.key).1=c.val)
open M (Sorted Af CZ A8 Ag Aq BU Ah bA BG aO BC)
structure F7 (B:cH) (g h:aa) (s:Nat) (q:Hp) (k:Nat->Nat) (st:Db) (m:Bx) (D:Bq) (aI c n:Nat):Prop where
 db:Bv B g h q k st m D aI c
 cell:h[s]? =some (J2 #[Am q.d,J6 J9 (n:Int)] vI (0,0))
 kz:k s=0
 base:g.size<=s
 fuel:m.fuel= -1
 cn:n<=1000000
def du(m a l:List Pr):Int:=if a.length>64 then 2 else if EX l≠0 then EX l else if a.all (Bd m) then 0 else 100
theorem AH3 {m:List Pr}{c:Pr}:Bd m c= !(((I1 m c.key).2==c.gone)||((I1 m c.key).2&& !bO (I1 m c.key).1 c.val)):=by unfold Bd;rw[Bw];cases c.gone<;>cases (I1 m c.key).2<;>simp
section
variable {A : aq} {B : cH} {g h : aa} {s : Nat} {q : Hp} {k : Nat -> Nat} {st : Db} {m : Bx} {D : Bq} {aI c n : Nat} {R : A2K}
theorem F7.on {b:aa}(a:F7 B g h s q k st m D aI c n)(x:Ext h b):F7 B g b s q k st m D aI c n:=⟨a.db.on x,Ao x a.cell,a.kz,a.base,a.fuel,a.cn⟩
theorem F7.beside {d:aa}{b:Nat->Prop}(a:F7 B g h s q k st m D aI c n)(x:Mod b h d)(hX: ∀c,b c->k c=0/\g.size<=c)(e: ¬b s):F7 B g d s q k st m D aI c n:=⟨a.db.beside x hX,x.ah a.cell e,a.kz,a.base,a.fuel,a.cn⟩
theorem F7.put {d b:Nat}(a:F7 B g h s q k st m D aI c n)(e:aI<=d)(f:c<=b)(i:b<=B.C):F7 B g h s q k st m D d b n:=⟨a.db.put e f i,a.cell,a.kz,a.base,a.fuel,a.cn⟩
theorem F7.lt(a:F7 B g h s q k st m D aI c n):s<h.size:=Ai a.cell
theorem F7.step {b:aa}{d:Hp}{k':Nat->Nat}{f:Db}{e:Bx}{i:Bq}{j l:Nat}(a:F7 B g h s q k st m D aI c n)(p:Bv B g b d k' f e i j l)(hd:d.d=q.d)(r:e.fuel= -1)(t:Mod (λc=>k c≠0) h b)(u: ∀c,k' c≠0->k c≠0\/h.size<=c):F7 B g b s d k' f e i j l n:=by
 refine⟨p,by rw[hd];exact t.ah a.cell (by rw[a.kz];simp),Decidable.byContradiction λv=>?_,a.base,r,a.cn⟩;have:=a.lt;rcases u s v with o|o
 ·exact o a.kz
 ·omega
theorem rJ {key:A2L}(b:F7 B g h s q k st m D aI c n)(d:key.size<=1099511627776)(e: ∀a,Ext h a->R (J1 #[J7 (I1 (Co st) key).1,J3 (I1 (Co st) key).2,J6 J9 0]) a):AA A P FR #[Am s,J7 key] h R:=by refine ZU ?_;unfold Sg;refine af.no rfl (aD (AX.mk (AO b.cell rfl) ?_));obtain⟨i,f,j,l⟩:=b.db.di;exact zW b.db.mem f d λa x=>⟨_,_,_,rfl,e a x⟩
theorem AOh {p:A2L}(Q:p.size<=1099511627776)(t: ∀u,Ext h u->R (J7 (QD p)) u):AA A P Ut #[J7 p] h R:=by
 refine AGi ?_;unfold uG;have y:J8 J9 ((p.size:Int)-(1:Int))=(p.size:Int)-1:=wrap_i64 (by omega) (by omega);rw[y];have S:p.data.toList.length=p.size:=by rw[DO];rfl
 refine Loop.rule (λv x f=> ∃b:Nat,x=((b:Int)-1,())/\v=b/\f=h/\b<=p.size/\ ∀x∈p.data.toList.drop b,¬x<255) ?_ ⟨p.size,rfl,rfl,rfl,A0 _,λx e=>by rw[HD (by omega)] at e;cases e⟩;rintro K v _ f ⟨b,rfl,T,rfl,U,o⟩ z;dsimp only;refine af.intro (λr=>?_) (λr=>?_)
 ·have V:1<=b:=by have:=of_decide_eq_true r;omega
  obtain⟨i,rfl⟩: ∃i,b=i+1:=⟨b-1,by omega⟩;have C:((i+1:Nat):Int)-1=(i:Int):=by omega
  rw[C];refine⟨by omega,?_⟩;have ag:p.data.toList[i]? =some (p.data.toList[i]'(by omega)):=A2 _;generalize F:p.data.toList[i]'(by omega)=a at*
  have G:dr p (i:Int)=(a.toNat:Int):=by
   unfold dr;have:p[i]? =some a:=by rw[show p[i]? =p.data[i]? from rfl,<-A0u];exact ag
   rw[show((i:Int).toNat)=i from rfl,this];rfl
  rw[G];have H:p.data.toList.drop i=a::p.data.toList.drop (i+1):=by rw[E0 (by omega),F]
  refine af.intro (λd=>?_) (λd=>?_)
  ·have d:a<255:=by rw[UInt8.lt_iff_toNat_lt];have:=of_decide_eq_true d;show a.toNat<255;omega
   have W:a.toNat<255:=UInt8.lt_iff_toNat_lt.1 d;refine⟨by omega,⟨by omega,?_⟩⟩;have I:J8 .u8 ((a.toNat:Int)+(1:Int))=((a+1).toNat:Int):=by
    rw[show(a.toNat:Int)+1=((a.toNat+1:Nat):Int) from by omega,wrap_u8];have j:(a+1).toNat=a.toNat+1:=by rw[UInt8.toNat_add];show(a.toNat+1) % 256=_;omega
    rw[j];omega
   rw[I];refine ao.mk λw _ J L X=>?_
   have v2:View HY w ⟨some ⟨f.size,0,none⟩,1,1⟩ [a+1]:=(Own.lit (E:=HY) (l:= [a+1]) J rfl (by simp[maxLen])).view;refine Ka (s:=⟨some ⟨f.size,0,none⟩,1,1⟩) Za kX PW v2 ⟨_,rfl,?_⟩;have M:(AY [a+1]).size=1:=AP _;have Y:(p.extract 0 i).size<=p.size:=by rw[A0N];omega
   refine⟨by rw[show(i:Int).toNat=i from rfl,M];show(((p.extract 0 i).size+1:Nat):Int)<=9223372036854775807;omega,?_⟩;have:=t w L;have N:QD p=p.extract 0 i++AY [a+1]:=by unfold QD;rw[wS ag d o];apply SO;rw[Kd,SP];apply NX;rw[N6,SR];show p.data.toList.take i++ [a+1]=_++(AY [a+1]).data.toList;rw[show(AY [a+1]).data.toList= [a+1] from Bh _];simp
   rw[N] at this;exact this
  ·have d: ¬a<255:=λh=>by
    have:=UInt8.lt_iff_toNat_lt.1 h;have j:(255:UInt8).toNat=255:=rfl;have:=of_decide_eq_false d;omega
   rw[show J8 J9 ((i:Int)-(1:Int))=(i:Int)-1 from wrap_i64 (by omega) (by omega)];refine z i _ _ (by omega) ⟨i,rfl,rfl,rfl,by omega,λx e=>?_⟩;rw[H] at e;rcases List.mem_cons.1 e with rfl|e
   ·exact d
   ·exact o x e
 ·have O:b=0:=by have:=of_decide_eq_false r;omega
  subst O;have:=t f Mod.refl;have j:QD p=⟨#[]⟩:=by unfold QD;rw[qV (by simpa using o)];rfl
  rw[j] at this;exact this
theorem AOl {p f:A2L}{e:Int}(b:F7 B g h s q k st m D aI c n)(l:p.size<=1099511627776)(o: ∀sl d,Own BR AR d sl (jf (Co st) p f e)->(∀ c,sl.ah=some c->h.size<=c)->Ext h d->R (J1 #[J4 sl.p sl.len sl.cap,J6 J9 0]) d):AA A P En #[Am s,J7 p,J7 f,J6 J9 e] h R:=by
 refine YX ?_;unfold Qm;refine af.no rfl (aD (AX.mk (AO b.cell rfl) ?_));refine AOh l λC a=>⟨_,rfl,⟨a.ag (AO b.cell rfl),?_⟩⟩
 have i:=b.on a;obtain⟨r,t,u,E⟩:=i.db.di;have v:(if(!aM p f)=true then p else f)=gj p f:=by unfold gj;cases aM p f<;>rfl
 rw[v];refine AQz i.db.mem r t u λsl w j x y=>⟨sl,_,rfl,?_⟩
 rw[AOo] at j;exact o sl w j (λc z=>by have:=x c z;have:=a.size;omega) (a.trans y)
theorem zy {conds sl:Sl}{d l:List Pr}(aC:bZ g)(r:F7 B g h s q k st m D aI c n)(hA:aI+3<=B.A)(aE:c+64<=B.C)(aF:n+1<=1000000)(vc:View BR h conds d)(v:View BR h sl l)(aG:l≠ []-> ∀b,sl.ah=some b->b<h.size/\k b=0)(aH: ∀x∈d,x.key.size<=1099511627776)
  (z:du (Co st) d l≠0-> ∀t,Ext h t->R (J6 J9 (du (Co st) d l)) t)
  (H:du (Co st) d l=0-> ∀t I U V aJ aK,I.d=q.d->I.b=q.b->F7 B g t s I U V aJ aK (aI+3) (c+64) (n+1)->Co V=cy (Co st) l->Mod (λc=>k c≠0\/h.size<=c\/c=s) h t->(∀ c,U c≠0->k c≠0\/h.size<=c)->R (J6 J9 0) t):
  AA A P Fx #[Am s,J4 conds.p conds.len conds.cap,J4 sl.p sl.len sl.cap] h R:=by
 refine ABe ?_;unfold UJ;refine af.no rfl ?_;rw[vc.len];refine af.intro (λf=>?_) (λf=>?_)
 ·have C:d.length>64:=by have:=of_decide_eq_true f;omega
  have j:du (Co st) d l=2:=by unfold du;rw[if_pos C]
  have:=z (by rw[j];decide) h Mod.refl;rwa [j] at this
 have C: ¬d.length>64:=by have:=of_decide_eq_false f;omega
 refine zf (s:=sl) v λo W=>⟨_,rfl,?_⟩
 refine af.intro (λJ=>?_) (λJ=>?_)
 ·have u:EX l≠0:=by simpa using J
  have j:du (Co st) d l=EX l:=by unfold du;rw[if_neg C,if_pos u]
  have:=z (by rw[j];exact u) o W;rwa [j] at this
 have u:EX l=0:=by simpa using J
 have j:du (Co st) d l=if d.all (Bd (Co st)) then 0 else 100:=by unfold du;rw[if_neg C,if_neg (by rw[u];simp)]
 rw[j] at z H;refine Loop.rule (λX x p=> ∃i:Nat,x=((i:Int),())/\X=d.length-i/\i<=d.length/\Ext h p/\(d.take i).all (Bd (Co st))=true) ?_ ⟨0,rfl,rfl,AD _,W,rfl⟩;rintro K X _ p ⟨i,rfl,rfl,aV,w,L⟩ aL;have E:=r.on w;dsimp only;refine af.intro (λf=>?_) (λf=>?_)
 ·have y:i<d.length:=by have:=of_decide_eq_true f;omega
  have ag:d[i]? =some d[i]:=A2 y;have aM:=aH d[i] (AW y);have aN:d[i]∈d:=AW y;have aO:d.take (i+1)=d.take i++ [d[i]]:=by rw[As,ag];rfl
  generalize d[i]=x at*
  rw[<- vc.len];refine(vc.ext w).idx ag λa _ M=>?_
  obtain⟨M,aP,c2⟩:=M.pair;refine AJ.mk M (AJ.mk aP (Aa.mk c2 (ao.pair λb N aW Y Z aX=>?_)));have O:=E.on Z;refine aD (AX.mk (AO O.cell rfl) (AJ.mk (AO Y rfl) ?_));obtain⟨aY,aQ,aZ,a0⟩:=O.db.di;refine zW O.db.mem aQ aM λQ aa=>⟨_,_,_,rfl,af.no rfl ?_⟩
  have ab:=Ao aa Y;have ac:=(w.trans Z).trans aa;refine ai.mk λad ah=>?_
  have p:=AH3 (m:=Co st) (c:=x);have aj:Bd (Co st) x=false->ad (true,()) Q:=λS=>ah _ _ (af.yes rfl (by
   have T: ¬d.all (Bd (Co st))=true:=λh=>by
    have:=List.all_eq_true.1 h x aN;rw[S] at this;cases this
   rw[if_neg T] at z;exact z (by decide) Q ac))
  have aS:Bd (Co st) x=true->ad (false,()) Q:=λS=>ah _ _ (af.no rfl (by
   rw[Ae (by omega)];refine aL (d.length-(i+1)) _ _ (by omega) ⟨i+1,rfl,rfl,y,ac,?_⟩;rw[aO,List.all_append,L];simp[S]))
  refine Aa.mk (AB ab rfl) (af.intro (λo=>?_) (λo=>?_))
  ·exact aj (by rw[p,o];rfl)
  ·refine af.intro (λF=>?_) (λF=>?_)
   ·refine AJ.mk (AB ab rfl) ?_;cases N:bO (I1 (Co st) x.key).1 x.val with
    |true=>exact aS (by rw[p,o,F,N];rfl)
    |false=>exact aj (by rw[p,o,F,N];rfl)
   ·exact aS (by rw[p,o,F];rfl)
 ·have y:i=d.length:=by have:=of_decide_eq_false f;omega
  subst y;rw[BT] at L;rw[if_pos L] at H;have a1:=w.size;refine aD (AX.mk (AO E.cell rfl) ?_);refine AJX (B:=B) (s:=sl) aC E.db r.fuel hA (v.ext w) (λT b ak=>by have:=aG T b ak;exact⟨by omega,this.2⟩) aE λa2 al am an ap aq ar aR au av aw a3 ax ay=>⟨_,rfl,?_⟩
  rw[if_pos u] at aw;have G:=E.step au ar av ax ay;rw[u];refine af.no rfl (aD (AC.mk (AB G.cell rfl) (aD ?_)));rw[Ae (by have:=r.cn;omega)];simp only[Bf,AI];refine ae.mk G.cell (by simp) λaz aT aA a4=>?_
  have aU:F7 B g az s al am an ap aq (aI+3) (c+64) (n+1):=⟨au.beside aA (λc e=>by subst e;exact⟨G.kz,r.base⟩),by simpa using aT,G.kz,r.base,av,aF⟩;have ak:=r.base;refine H rfl az al am an ap aq ar aR aU aw (((w.aj λc _ e=>e.elim).trans (ax.aj λc _ e=> .inl e)).trans (aA.aj λc _ e=> .inr (.inr e))) λc e=>?_
  rcases ay c e with h|h
  ·exact .inl h
  ·exact .inr (by omega)
end
section
variable {A : aq} {h : aa} {R : A2K}
end
section
variable {A : aq} {B : cH} {g h : aa} {m : Bx} {D : Bq} {aI c : Nat} {R : A2K}
theorem ANI {b:Nat}{Sb:Nat->Prop}(o:bZ g)(p:Cw h b Sb m)(q:Ext g h)(r: ∀c,Sb c->g.size<=c)(hd:m.down=false)(t:m.fuel= -1)(u: ∀a,ff m (aC nl a)=none)(v: ∀a,ff m (aC nn a)=none)(w: ∀x,ff m x≠none->(bl x).head? ≠some 116)(hA:1<=B.A)(y:bj m.files<=B.W0)
  (z: ∀d s i j k C E,i.b=b->F7 B g d s i j k C E 1 0 0->Co k= []->Mod (λc=>Sb c\/h.size<=c) h d->(∀ c,j c≠0->Sb c\/h.size<=c)->h.size<=s->R (J1 #[Am s,J6 J9 0]) d):AA A P SG #[Am b] h R:=by
 refine AIS ?_;unfold uE;refine AOv (B:=B) o p q r hd t u v w hA y λF G H I J K L e M N _ l O=>⟨_,_,rfl,af.no rfl (ao.mk λQ _ S n U=>?_)⟩
 have T:=e.mem.ext.size;exact z Q F.size G H I J K L ⟨e.on n,S,e.free (A0 _),T,M,AD _⟩ N ((l.aj λc _ f=> .inl f).trans (n.aj λc _ f=>f.elim)) O l.size
end
structure ATp where
 kind:Int
 cs:Sl
 bs:Sl
 key:A2L
 aV:A2L
 most:Int
 all:Bool
structure ATz (N:Nat) (h:aa) (x:ATp) (cl l:List Pr):Prop where
 cs:View BR h x.cs cl
 bs:View BR h x.bs l
 keys: ∀c∈cl,c.key.size<=N
 key:x.key.size<=N
section
variable {A : aq} {h : aa} {R : A2K}
end
theorem mC:P.underlying Fh=some (.map Bp Bp):=by kernel_rfl
theorem mD:P.underlying Ej=some (.map Bp Yy):=by kernel_rfl
theorem ij:P.underlying Bp=some (.int J9):=by kernel_rfl
theorem oJ:(zeroValue Bp).calc P=some (J6 J9 0):=by kernel_rfl
theorem oK:(zeroValue Yy).calc P=some (.int .u64 0):=by kernel_rfl
def dA(f:Nat->Nat)(a b:Nat):Nat->Nat:=λm=>if m=a then b else f m
structure Dw (g h:aa) (k:Nat->Nat) (s p bh bu:Nat) (name:A2L) (aE:Nat) (f u:Nat->Nat) (N:Nat):Prop where
 cell:h[p]? =some (J2 #[Am s,J7 name,J6 J9 (aE:Int),.map (some bh),.map (some bu)] Rm (0,0))
 held: ∃hm,TN J9 h bh hm/\hm.length<=N/\ ∀n:Nat,(Lr n hm).getD (J6 J9 0)=J6 J9 (f n:Int)
 used: ∃um,TN J9 h bu um/\um.length<=N/\ ∀n:Nat,(Lr n um).getD (.int .u64 0)= .int .u64 (u n:Int)
 bN: ∀c,c=p\/c=bh\/c=bu->k c=0/\g.size<=c/\c≠s
 ne:bh≠bu
 named:Aj name=true
 sh:1<=aE/\aE<=16
 cn:N<=1000000
def GJ(d:List Pr)(e a:Nat)(b:A2L):Prop:=(a=0/\b=⟨#[]⟩/\(I1 d (CE e)).2=false)\/(1<=a/\a<=2147483647/\Aj b=true/\I1 d (CE e)=(Jq a b,true))
section
variable {A : aq} {B : cH} {g h : aa} {s p bh bu : Nat} {q : Hp} {k : Nat -> Nat} {st : Db} {m : Bx} {D : Bq} {aI c nn N : Nat} {name : A2L} {aE : Nat} {f u : Nat -> Nat} {R : A2K}
theorem Dw.lt(a:Dw g h k s p bh bu name aE f u N): ∀c,c=p\/c=bh\/c=bu->c<h.size:=by
 obtain⟨e,b,_⟩:=a.held;obtain⟨i,d,_⟩:=a.used;rintro c (rfl|rfl|rfl)
 ·exact Ai a.cell
 ·exact b.lt
 ·exact d.lt
theorem Dw.mT(a:Dw g h k s p bh bu name aE f u N):p≠bh/\p≠bu:=by
 obtain⟨i,⟨_,_,b,_⟩,_⟩:=a.held;obtain⟨j,⟨_,_,d,_⟩,_⟩:=a.used;have e:=a.cell;constructor
 ·rintro rfl;rw[e] at b;cases b
 ·rintro rfl;rw[e] at d;cases d
theorem Dw.beside {d:aa}{e:Nat->Nat}{i:Nat->Prop}(a:Dw g h k s p bh bu name aE f u N)(b:Mod i h d)(hX: ∀c,c=p\/c=bh\/c=bu-> ¬i c)(l: ∀c,c=p\/c=bh\/c=bu->e c=0):Dw g d e s p bh bu name aE f u N:=by obtain⟨n,o,r,t⟩:=a.held;obtain⟨v,w,x,y⟩:=a.used;exact⟨b.ah a.cell (hX p (.inl rfl)),⟨n,o.mod b (hX bh (.inr (.inl rfl))),r,t⟩,⟨v,w.mod b (hX bu (.inr (.inr rfl))),x,y⟩,λc j=>⟨l c j,(a.bN c j).2⟩,a.ne,a.named,a.sh,a.cn⟩
theorem Dw.on {a:aa}(b:Dw g h k s p bh bu name aE f u N)(x:Ext h a):Dw g a k s p bh bu name aE f u N:=b.beside x (λ_ _ h=>h) λc d=>(b.bN c d).1
theorem Dw.more {b:Nat}(a:Dw g h k s p bh bu name aE f u N)(r:N<=b)(d:b<=1000000):Dw g h k s p bh bu name aE f u b:=by obtain⟨e,i,t,j⟩:=a.held;obtain⟨l,n,v,o⟩:=a.used;exact⟨a.cell,⟨e,i,by omega,j⟩,⟨l,n,by omega,o⟩,a.bN,a.ne,a.named,a.sh,d⟩
theorem Dw.step {e:aa}{k':Nat->Nat}{i:Nat->Prop}(b:Dw g h k s p bh bu name aE f u N)(j:Mod i h e)(l: ∀c,i c->k c≠0\/h.size<=c\/c=s\/ ¬(c=p\/c=bh\/c=bu))(n: ∀c,k' c≠0->k c≠0\/h.size<=c):Dw g e k' s p bh bu name aE f u N:=by
 refine b.beside j (λc a o=>?_) λc a=>Decidable.byContradiction λr=>?_
 ·have d:=b.bN c a;have t:=b.lt c a;rcases l c o with h|h|h|h
  ·exact h d.1
  ·omega
  ·exact d.2.2 h
  ·exact h a
 ·have d:=b.bN c a;have t:=b.lt c a;rcases n c r with h|h
  ·exact h d.1
  ·omega
theorem ARK {s:Nat}(b:F7 B g h s q k st m D aI c nn)(j:Aj name=true)(o:1<=aE/\aE<=16)
  (r: ∀a p bh bu,Dw g a k s p bh bu name aE (λ_=>0) (λ_=>0) 0->(∀ c,c=p\/c=bh\/c=bu->h.size<=c/\c<a.size)->Ext h a->R (J1 #[Am p,J6 J9 0]) a):AA A P Pj #[Am s,J7 name,J6 J9 (aE:Int)] h R:=by
 refine AGO ?_;unfold uD;refine ai.mk λK t=>af.no rfl (Ep ⟨_,rfl,af.no (by rw[j];rfl) (af.no (decide_eq_false (by omega)) (t _ _ (af.no (decide_eq_false (by omega)) ?_)))⟩)
 refine ao.mk λl _ v w H=>ao.mk λx _ y n I=>ao.mk λd _ z e J=>?_
 have C:=(w.trans n).trans e;have L:=b.db.mem.ext.size;have M:=b.lt;have E:d[h.size]? =some (.map #[] 0):=e.ah (n.ah v (λh=>h)) (λh=>h);have F:d[l.size]? =some (.map #[] 0):=e.ah y (λh=>h);refine r d x.size h.size l.size ⟨z,⟨[],TN.empty E,A0 _,λG=>rfl⟩,⟨[],TN.empty F,A0 _,λG=>rfl⟩,λc i=>?_,by omega,j,o,by omega⟩ (λc i=>?_) C
 ·have:h.size<=c:=by rcases i with rfl|rfl|rfl<;>omega
  exact⟨b.db.free this,by omega,by omega⟩
 ·rcases i with rfl|rfl|rfl<;>omega
theorem Zk {a:Nat}(b:Dw g h k s p bh bu name aE f u N)(d:R (J6 J9 (f a:Int)) h):AA A P Cj #[Am p,J6 J9 (a:Int)] h R:=by obtain⟨j,e,l,i⟩:=b.held;refine Vh ?_;unfold Oh;exact af.no rfl (aD (Fa.mk (AB b.cell rfl) (MJ mC ij oJ e ⟨_,i a,d⟩)))
theorem APe {b:List (Int×J0)}{a d:Nat}(h: ∀m:Nat,(Lr m b).getD (J6 J9 0)=J6 J9 (f m:Int))(m:Nat):(Lr m (TV a (J6 J9 (d:Int)) b)).getD (J6 J9 0)=J6 J9 (dA f a d m:Int):=by
 rw[Zm];unfold dA;by_cases e:m=a
 ·subst e;rw[if_pos rfl,if_pos rfl];rfl
 ·rw[if_neg (by omega),if_neg e];exact h m
theorem zB {b:List (Int×J0)}{a r:Nat}(h: ∀m:Nat,(Lr m b).getD (.int .u64 0)= .int .u64 (f m:Int))(m:Nat):(Lr m (TV a (.int .u64 (r:Int)) b)).getD (.int .u64 0)= .int .u64 (dA f a r m:Int):=by
 rw[Zm];unfold dA;by_cases d:m=a
 ·subst d;rw[if_pos rfl,if_pos rfl];rfl
 ·rw[if_neg (by omega),if_neg d];exact h m
theorem Dw.strike {d:Nat}{j:Q7}{K:A2K}(a:Dw g h k s p bh bu name aE f u N)(l: ∀b,Dw g b k s p bh bu name aE (dA f d 0) u N->Mod (λc=>c=bh) h b->K (J1 #[]) b):BJ A P (Builtin.delete_ #[Fh,Bp] j #[.map (some bh),J6 J9 (d:Int)]) h K:=by
 obtain⟨z,n,o,r⟩:=a.held;obtain⟨t,v,w,x⟩:=a.used;refine AKE mC ij n λb y e C=>l b ⟨e.ah a.cell a.mT.1,⟨_,y,AE APm o,λm=>?_⟩,⟨t,v.mod e a.ne.symm,w,x⟩,a.bN,a.ne,a.named,a.sh,a.cn⟩ e
 rw[wT];unfold dA;by_cases i:m=d
 ·subst i;rw[if_pos rfl,if_pos rfl];rfl
 ·rw[if_neg (by omega),if_neg i];exact r m
theorem APC {b j:Nat}{l:A2L}(w:F7 B g h s q k st m D aI c nn)(a:Dw g h k s p bh bu name aE f u N)(E:b<aE)(L:GJ (Co st) b j l)(n: ∀o,Ext h o->R (J1 #[J6 J9 (j:Int),J7 l,J6 J9 0]) o):AA A P LU #[Am p,J6 J9 (b:Int)] h R:=by
 have F:=a.sh;refine Wv ?_;unfold PV;refine ai.mk λK x=>af.no rfl (af.no (decide_eq_false (by omega)) (aD (AC.mk (AB a.cell rfl) (x _ _ (af.no (decide_eq_false (by omega)) ?_)))))
 refine aD (AX.mk (AO a.cell rfl) (TS (by omega) λr d=>⟨_,rfl,⟨AO (Ao d a.cell) rfl,?_⟩⟩));refine rJ (w.on d) (by rw[KW];omega) λt y=>⟨_,_,_,rfl,?_⟩
 have v:=d.trans y;refine ai.mk λG z=>af.no rfl (z _ _ ?_)
 rcases L with⟨rfl,rfl,e⟩|⟨r,t,i,e⟩
 ·rw[e];exact af.yes rfl (n _ v)
 ·rw[e];exact af.no rfl (ANR r t i λi C=>⟨_,_,_,rfl,n i (v.trans C)⟩)
theorem ASw {k v:A2L}(a:k≠⟨#[]⟩)(d:k.size<=64)(e:v.size<=8192):EX [⟨k,v,false⟩]=0:=by
 have b:Ah ⟨k,v,false⟩=0:=by unfold Ah;rw[if_neg (by simp[a]),if_neg (by simp;omega)]
 unfold EX;rw[if_neg (by simp),if_neg (by simp)];unfold GD;rw[if_neg (by rw[b];decide)];rfl
theorem AJJ {d r:Nat}{ar:A2L}(E:bZ g)(S:F7 B g h s q k st m D aI c nn)(n:Dw g h k s p bh bu name aE f u N)(aP:d<aE)(L:GJ (Co st) d r ar)(au:r+1<=2147483647)(hA:aI+3<=B.A)(aQ:c+64<=B.C)(aR:nn+1<=1000000)(aS:N+1<=1000000)
  (aT: ∀T ac k' av aU aV,ac.d=q.d->ac.b=q.b->F7 B g T s ac k' av aU aV (aI+3) (c+64) (nn+1)->Co av=cy (Co st) [⟨CE d,Jq (r+1) name,false⟩]->Dw g T k' s p bh bu name aE (dA f d (r+1)) (dA u d 0) (N+1)->
   Mod (λc=>k c≠0\/h.size<=c\/c=s\/c=bh\/c=bu) h T->(∀ c,k' c≠0->k c≠0\/h.size<=c)->R (J1 #[J6 J9 ((r+1:Nat):Int),J6 J9 0]) T):
  AA A P FJ #[Am p,J6 J9 (d:Int)] h R:=by
 have bL:=n.sh;refine TL ?_;unfold Mf;refine APC S n aP L λM aW=>⟨_,_,_,rfl,af.no rfl ?_⟩
 refine TS (by omega) λad aX=>⟨_,rfl,?_⟩
 have aw:=aW.trans aX;refine ao.pair λb U bM ax aY bN=>?_
 have ay:=aw.trans aY;have bO:=aw.size;have bP:=S.db.mem.ext.size;refine ai.mk λK aZ=>?_
 have az: ∀V y z,Ext h V->V[b]? =some (J2 #[J7 (CE d),J7 y,J3 z] AR (0,0))->Bd (Co st) ⟨CE d,y,z⟩=true->K () V:=by
  intro V y z ah a0 a1;refine aZ _ _ ?_;have bQ:=S.on ah;have a2:=n.on ah;refine aD (AJ.mk (AB a2.cell rfl) ?_);rw[Ae (by omega)];refine oI (by omega) au n.named λW aA=>⟨_,_,rfl,?_⟩
  have aj:=ah.trans aA;refine af.no rfl (ai.mk λa3 a4=>?_);have aC:=S.on aj;have ak:=n.on aj;have I:=Ao aA a0;have go: ∀e O C,Ext W e->e[O]? =some (J2 #[J7 (CE d),J7 y,J3 z] AR (0,0))->e[C]? =some (J2 #[J7 (CE d),J7 (Jq (r+1) name),J3 false] AR (0,0))->W.size<=C->
    AA A P Fx #[Am s,J4 (some (⟨O,0,none⟩:Q6)) 1 1,J4 (some (⟨C,0,none⟩:Q6)) 1 1] e λa5 al=> ∃aF:Int,a5=J6 J9 aF/\a3 (aF,()) al:=by
   intro e O C w a6 aG a7;have a8:=aC.on w;have a9:=ak.on w;have aH:=aj.trans w;have vc:View BR e ⟨some ⟨O,0,none⟩,1,1⟩ [⟨CE d,y,z⟩]:=(Own.lit (E:=BR) (l:= [⟨CE d,y,z⟩]) a6 rfl (by simp[maxLen])).view;have ba:View BR e ⟨some ⟨C,0,none⟩,1,1⟩ [⟨CE d,Jq (r+1) name,false⟩]:=(Own.lit (E:=BR) (l:= [⟨CE d,Jq (r+1) name,false⟩]) aG rfl (by simp[maxLen])).view;have bb:=ASw (AMt d) (show(CE d).size<=64 by rw[KW];omega) (AKq au n.named);have bc:du (Co st) [⟨CE d,y,z⟩] [⟨CE d,Jq (r+1) name,false⟩]=0:=by unfold du;rw[if_neg (by simp),if_neg (by rw[bb];decide),if_pos (by simp[a1])]
   have bd:k C=0:=aC.db.free a7;refine zy (B:=B) (conds:=⟨some ⟨O,0,none⟩,1,1⟩) (sl:=⟨some ⟨C,0,none⟩,1,1⟩) E a8 hA aQ aR vc ba (λ_ be X=>by
    have o:C=be:=by simpa [Sl.ah] using X
    subst o;exact⟨Ai aG,bd⟩) (λx e=>by rw[List.mem_singleton.1 e];show(CE d).size<=_;rw[KW];omega) (λbf=>absurd bc bf) λ_ al bg Y bi bj bk bm bn bo bp aJ aK=>⟨_,rfl,a4 _ _ (af.no rfl ?_)⟩
   have bR:=aH.size;have i:=a9.step (k':=Y) aJ (λc a=>by
    rcases a with h|h|h
    ·exact .inl h
    ·exact .inr (.inl h)
    ·exact .inr (.inr (.inl h))) aK
   have bq:Mod (λc=>k c≠0\/h.size<=c\/c=s\/c=bh\/c=bu) h al:=(aH.aj λc _ a=>a.elim).trans (aJ.aj λc _ a=>by
    rcases a with h|h|h
    ·exact .inl h
    ·exact .inr (.inl (by omega))
    ·exact .inr (.inr (.inl h)))
   obtain⟨bS,br,bT,bs⟩:=i.held;refine aD (Fa.mk (AB i.cell rfl) (aD (Fa.mk (AB i.cell rfl) ?_)));refine wU mC ij oJ (v:=J6 J9 ((r+1:Nat):Int)) br (by have:=i.cn;simp only[maxLen];omega) λbU bt Z bV=>?_
   obtain⟨bW,bv,bX,bw⟩:=i.used;have bx:=bv.mod Z n.ne.symm;refine wU mD ij oK (v:= .int .u64 0) bx (by have:=i.cn;simp only[maxLen];omega) λbz bA ab bY=>?_
   have bB: ∀c,c=bh->Y c=0/\g.size<=c:=λc a=>⟨(i.bN c (.inr (.inl a))).1,(i.bN c (.inr (.inl a))).2.1⟩
   have bC: ∀c,c=bu->Y c=0/\g.size<=c:=λc a=>⟨(i.bN c (.inr (.inr a))).1,(i.bN c (.inr (.inr a))).2.1⟩
   have bD:=(bo.beside Z bB λo=>(i.bN s (.inr (.inl o))).2.2 rfl).beside ab bC λo=>(i.bN s (.inr (.inr o))).2.2 rfl
   refine aT bz bg Y bi bj bk bm bn bD bp ⟨ab.ah (Z.ah i.cell n.mT.1) n.mT.2,⟨_,bt.mod ab n.ne,AE Xz (by omega),λm=>APe bs m⟩,⟨_,bA,AE Xz (by omega),λm=>zB (r:=0) bw m⟩,i.bN,i.ne,i.named,i.sh,aS⟩ ((bq.trans (Z.aj λc _ a=> .inr (.inr (.inr (.inl a))))).trans (ab.aj λc _ a=> .inr (.inr (.inr (.inr a))))) λc a=>?_
   rcases aK c a with h|h
   ·exact .inl h
   ·exact .inr (by omega)
  have F: ∀ {e:aa},Ext W e->ag e ⟨p,0,none⟩=some (Am s):=λw=>AO (Ao w ak.cell) rfl
  have row: ∀ {e:aa},Ext W e->ag e (⟨b,0,none⟩:Q6)=some (J7 (CE d))/\ag e ((⟨b,0,none⟩:Q6).add 1)=some (J7 y)/\ag e ((⟨b,0,none⟩:Q6).add 2)=some (J3 z):=λw=>⟨AO (Ao w I) rfl,AB (Ao w I) rfl,AB (Ao w I) rfl⟩
  refine aD (AX.mk (AO ak.cell rfl) (AJ.mk (AO I rfl) (AJ.mk (AB I rfl) (Aa.mk (AB I rfl) ?_))));refine⟨?_,?_⟩
  ·refine ao.mk λbE _ bF G b0=>⟨F G,?_⟩
   refine TS (by omega) λX J=>⟨_,rfl,?_⟩
   have j:=G.trans J;refine⟨row j,⟨F j,?_⟩⟩;refine ao.mk λa _ Q H aL=>?_
   have t:=j.trans H;exact⟨row t,⟨F t,go a _ _ t (Ao H (Ao J bF)) Q j.size⟩⟩
  ·refine TS (by omega) λbE G=>⟨_,rfl,⟨row G,⟨F G,⟨?_,?_⟩⟩⟩⟩
   ·refine ao.mk λX _ am J bG=>?_
    have j:=G.trans J;refine⟨F j,ao.mk λa _ Q H aL=>?_⟩;have t:=j.trans H;exact⟨row t,⟨F t,go a _ _ t (Ao H am) Q j.size⟩⟩
   ·refine ao.mk λX _ am J bG=>?_
    have j:=G.trans J;refine⟨row j,⟨F j,ao.mk λa _ Q H aL=>?_⟩⟩;have t:=j.trans H;exact⟨F t,go a _ _ t Q (Ao H am) G.size⟩
 refine af.intro (λan=>?_) (λan=>?_)
 ·have bH:0<r:=by have:=of_decide_eq_true an;omega
  rcases L with⟨M,_⟩|⟨M,ad,U,o⟩
  ·omega
  simp only[Bf,AI];refine ae.mk ax (by simp) λaM ap bI b1=>?_
  have ap:aM[b]? =some (J2 #[J7 (CE d),J7 ⟨#[]⟩,J3 false] AR (0,0)):=by simpa using ap
  refine oI M ad U λb2 aN=>⟨_,_,rfl,?_⟩
  refine ae.mk (Ao aN ap) (by simp) λaO aq bJ b3=>?_
  have aq:aO[b]? =some (J2 #[J7 (CE d),J7 (Jq r ar),J3 false] AR (0,0)):=by simpa using aq
  have bK:Ext h aM:=ay.then (bI.aj λc _ a=> .inr (by omega));refine az aO _ _ ((bK.trans aN).then (bJ.aj λc _ a=> .inr (by omega))) aq ?_;unfold Bd;rw[o];simp
 ·have bH:r=0:=by have:=of_decide_eq_false an;omega
  rcases L with⟨M,_,o⟩|⟨M,ad,U,o⟩
  ·refine az U _ _ ay ax ?_;unfold Bd;rw[o];simp
  ·omega
end
section
variable {A : aq} {B : cH} {g h : aa} {s p bh bu : Nat} {q : Hp} {k : Nat -> Nat} {st : Db} {m : Bx} {D : Bq} {aI c nn N : Nat} {name : A2L} {aE : Nat} {f u : Nat -> Nat} {R : A2K}
def Ff(a b:Nat)(name:A2L):Pr:=⟨CE a,Jq b name,false⟩
theorem OH {mp:List Pr}{n r:Nat}{name:A2L}:Bd mp (Ff n r name)=((I1 mp (CE n)).2&&decide ((I1 mp (CE n)).1=Jq r name)):=rfl
theorem ASf {n:Nat}{conds sl:Sl}{e l:List Pr}(E:bZ g)(y:F7 B g h s q k st m D aI c nn)(j:Dw g h k s p bh bu name aE f u N)(al:n<256)(am:f n<=2147483647)(hA:aI+3<=B.A)(an:c+64<=B.C)(ap:nn+1<=1000000)(vc:View BR h conds e)(a9:e.length<=1000000)(v:View BR h sl l)(aq:l≠ []-> ∀b,sl.ah=some b->b<h.size/\k b=0/\b≠bh)(ar: ∀x∈e,x.key.size<=1099511627776)
  (au:f n=0->R (J6 J9 170) h)
  (av:f n≠0->Bd (Co st) (Ff n (f n) name)=false-> ∀d,F7 B g d s q k st m D aI c nn->Dw g d k s p bh bu name aE (dA f n 0) u N->Mod (λc=>h.size<=c\/c=bh) h d->R (J6 J9 170) d)
  (aw:f n≠0->Bd (Co st) (Ff n (f n) name)=true->du (Co st) (Ff n (f n) name::e) l≠0-> ∀d,Ext h d->R (J6 J9 (du (Co st) (Ff n (f n) name::e) l)) d)
  (ax:f n≠0->Bd (Co st) (Ff n (f n) name)=true->du (Co st) (Ff n (f n) name::e) l=0-> ∀d F k' W ay az,F.d=q.d->F.b=q.b->F7 B g d s F k' W ay az (aI+3) (c+64) (nn+1)->Co W=cy (Co st) l->Dw g d k' s p bh bu name aE f u N->Mod (λc=>k c≠0\/h.size<=c\/c=s) h d->(∀ c,k' c≠0->k c≠0\/h.size<=c)->R (J6 J9 0) d):
  AA A P GG #[Am p,J6 J9 (n:Int),J4 conds.p conds.len conds.cap,J4 sl.p sl.len sl.cap] h R:=by
 refine Zt ?_;unfold Sn;refine Zk j ⟨_,rfl,af.intro (λG=>?_) (λG=>?_)⟩
 ·exact au (by simpa using G)
 have H:f n≠0:=by simpa using G
 refine aD (AJ.mk (AB j.cell rfl) ?_);refine oI (by omega) am j.named λz aA=>⟨_,_,rfl,?_⟩
 refine TS al λba aC=>⟨_,rfl,?_⟩
 have aF:=aA.trans aC;refine ao.pair λb bb bc X aG bd=>?_
 have I:=aF.trans aG;have aH:=j.on I;have aJ:=y.on I;refine aD (AX.mk (AO aH.cell rfl) (AJ.mk (AO X rfl) ?_));refine rJ aJ (by rw[KW];omega) λi Y=>⟨_,_,_,rfl,af.no rfl ?_⟩
 have w:=I.trans Y;have o:=j.on w;have aK:=y.on w;have J:=Ao Y X;have be:=w.size;have bf:=y.db.mem.ext.size;refine ai.mk λK Z=>?_
 have L:=OH (mp:=Co st) (n:=n) (r:=f n) (name:=name);have lost:Bd (Co st) (Ff n (f n) name)=false->K (true,()) i:=λaL=>by
  refine Z _ _ (af.yes rfl (aD (Fa.mk (AB o.cell rfl) ?_)));refine o.strike λO aM aa=>⟨rfl,?_⟩
  have Q:=o.bN bh (.inr (.inl rfl));exact av H aL O (aK.beside aa (λc a=>by subst a;exact⟨Q.1,Q.2.1⟩) λS=>Q.2.2 S.symm) aM ((w.aj λc _ a=>a.elim).trans (aa.aj λc _ a=> .inr a))
 have aN:Bd (Co st) (Ff n (f n) name)=true->K (false,()) i:=λab=>by
  refine Z _ _ (af.no rfl (aD (AX.mk (AO o.cell rfl) (AJ.mk (AO J rfl) (AJ.mk (AB J rfl) (Aa.mk (AB J rfl) ?_))))));refine ao.mk λO _ aO T bg=>⟨AO (Ao T o.cell) rfl,?_⟩
  have aP:Own BR AR O ⟨some ⟨i.size,0,none⟩,1,1⟩ [Ff n (f n) name]:=Own.lit (E:=BR) (l:= [Ff n (f n) name]) aO rfl (by simp[maxLen]);have ac:=w.trans T;refine Fz (E:=BR) (s:=⟨some ⟨i.size,0,none⟩,1,1⟩) (src:=conds) M.G6 aP (vc.ext ac) (by simp only[A5,GF];omega) (by simp only[A5,GF,maxLen];omega) λaQ ad aR ae bi _=>?_
  have t:Ext h ad:=ac.then (ae.aj λc _ a=> .inr (by have:i.size=c:=(by simpa [Sl.ah] using a);omega));have aS:Ext i ad:=T.then (ae.aj λc _ a=> .inr (by have:i.size=c:=(by simpa [Sl.ah] using a);omega));have aT:=y.on t;have aU:=j.on t;refine⟨AO (Ao aS o.cell) rfl,?_⟩;have bj:=t.size;have aV: ∀x∈ [Ff n (f n) name]++e,x.key.size<=1099511627776:=λx aW=>by
   rcases List.mem_append.1 aW with h|h
   ·rw[List.mem_singleton.1 h];show(CE n).size<=_;rw[KW];omega
   ·exact ar x h
  refine zy (B:=B) (conds:=aQ) (sl:=sl) E aT hA an ap aR.view (v.ext t) (λU aX aY=>by
   have:=aq U aX aY;exact⟨by omega,this.2.1⟩) aV (λU V aZ=>⟨_,rfl,aw H ab U V (t.trans aZ)⟩) λa0 V a1 ag a2 a3 a4 a5 a6 a7 a8 ah aj=>⟨_,rfl,?_⟩
  refine ax H ab a0 V a1 ag a2 a3 a4 a5 a6 a7 a8 (aU.step (k':=ag) ah (λc a=>by
   rcases a with h|h|h
   ·exact .inl h
   ·exact .inr (.inl h)
   ·exact .inr (.inr (.inl h))) aj) ((t.aj λc _ a=>a.elim).trans (ah.aj λc _ a=>by
   rcases a with h|h|h
   ·exact .inl h
   ·exact .inr (.inl (by omega))
   ·exact .inr (.inr h))) λc a=>?_
  rcases aj c a with h|h
  ·exact .inl h
  ·exact .inr (by omega)
 refine af.intro (λz=>?_) (λz=>?_)
 ·refine lost ?_;have S:(I1 (Co st) (CE n)).2=false:=by simpa using z
  rw[L,S];rfl
 ·have ak:(I1 (Co st) (CE n)).2=true:=by simpa using z
  cases C:bO (I1 (Co st) (CE n)).1 (Jq (f n) name) with
  |true=>
   refine aN ?_;rw[Bw] at C;rw[L,ak,C];rfl
  |false=>
   refine lost ?_;rw[Bw] at C;rw[L,ak,C];rfl
theorem ATv {a:Nat}(h:a<=2147483647):J8 .u64 ((J8 .u64 (a:Int))*((2:Int)^(24:Nat)))=((a*16777216:Nat):Int):=by rw[CF (by omega),show((a:Int)*(2:Int)^(24:Nat))=((a*16777216:Nat):Int) from by rw[show((2:Int)^(24:Nat))=((16777216:Nat):Int) from by decide];simp];exact CF (by omega)
theorem ra {a b:Nat}(d:a<18446744073709551616)(e:b<18446744073709551616):ey .u64 (a:Int) (b:Int)=((a ||| b:Nat):Int):=by
 have h:a ||| b<2^64:=Ks (by simpa using d) (by simpa using e);unfold ey;have i:(BitVec.ofInt (IntKind.bits .u64) (a:Int) ||| BitVec.ofInt (IntKind.bits .u64) (b:Int)).toNat=a ||| b:=by show(BitVec.ofInt 64 (a:Int) ||| BitVec.ofInt 64 (b:Int)).toNat=a ||| b;rw[BitVec.toNat_or,BitVec.ofInt_natCast,BitVec.ofInt_natCast,BitVec.toNat_ofNat,BitVec.toNat_ofNat,An (by simpa using d),An (by simpa using e)]
 rw[i];exact CF (by simpa using h)
theorem ATE {a x:Nat}(h:a<=2147483647)(d:x<16777216):ey .u64 ((a*16777216:Nat):Int) (x:Int)=((a*16777216+x:Nat):Int):=by rw[ra (by omega) (by omega)];congr 1;have:=A0I (i:=24) (b:=x) (by simpa using d) a;rw[show 2^24*a=a*16777216 from by rw[CD]] at this;exact this.symm
theorem AK2 {a:Nat}(b:Dw g h k s p bh bu name aE f u N)(r:f a<=2147483647)(x:u a+1<16777216)(y:N+1<=1000000)
  (z:f a=0->R (.int .u64 0) h)
  (C:f a≠0-> ∀d,Dw g d k s p bh bu name aE f (dA u a (u a+1)) (N+1)->Mod (λc=>c=bu) h d->R (.int .u64 ((f a*16777216+(u a+1):Nat):Int)) d):
  AA A P Gr #[Am p,J6 J9 (a:Int)] h R:=by
 refine Uv ?_;unfold NZ;refine Zk b ⟨_,rfl,af.intro (λe=>?_) (λe=>?_)⟩
 ·exact z (by simpa using e)
 have E:f a≠0:=by simpa using e
 obtain⟨F,t,K,v⟩:=b.used;obtain⟨G,H,L,i⟩:=b.held;refine aD (Fa.mk (AB b.cell rfl) ?_);refine MJ mD ij oK t ⟨_,v a,?_⟩;rw[show((u a:Nat):Int)+(1:Int)=((u a+1:Nat):Int) from by omega,CF (by omega)];refine AKM mD ij t (by have:=b.cn;simp only[maxLen];omega) λI j l M=>?_
 have n:=H.mod l b.ne;have c4:=l.ah b.cell b.mT.2;have w: ∀m:Nat,(Lr m (TV a (.int .u64 ((u a+1:Nat):Int)) F)).getD (.int .u64 0)= .int .u64 (dA u a (u a+1) m:Int):=λm=>zB v m
 have J:dA u a (u a+1) a=u a+1:=by unfold dA;rw[if_pos rfl]
 have key:ey .u64 (J8 .u64 ((J8 .u64 (f a:Int))*((2:Int)^(24:Nat)))) ((u a+1:Nat):Int)=((f a*16777216+(u a+1):Nat):Int):=by rw[ATv r,ATE r x]
 have fin:=C E I ⟨c4,⟨G,n,by omega,i⟩,⟨_,j,AE Xz (by omega),w⟩,b.bN,b.ne,b.named,b.sh,y⟩ l;rw[<- key] at fin;have o:=w a;rw[J] at o;refine aD (Fa.mk (AB c4 rfl) (aD (Fa.mk (AB c4 rfl) ⟨?_,?_⟩)))
 ·refine MJ mC ij oJ n ⟨_,i a,⟨AB c4 rfl,?_⟩⟩;exact MJ mD ij oK j ⟨_,o,⟨AB c4 rfl,fin⟩⟩
 ·refine MJ mD ij oK j ⟨_,o,⟨AB c4 rfl,?_⟩⟩;exact MJ mC ij oJ n ⟨_,i a,⟨AB c4 rfl,fin⟩⟩
theorem GJ.laid {b:List Pr}(e:Sorted b){d a:Nat}(i:1<=a)(j:a<=2147483647)(l:Aj name=true):GJ (cy b [⟨CE d,Jq a name,false⟩]) d a name:=by refine .inr ⟨i,j,l,?_⟩;unfold I1;rw[show cy b [⟨CE d,Jq a name,false⟩]=fg b ⟨CE d,Jq a name,false⟩ from rfl,PK e,if_pos rfl,H7];rfl
theorem GJ.other {a:List Pr}(j:Sorted a){b e:Nat}{i key val:A2L}{d:Bool}(L:GJ a b e i)(l:key≠CE b):GJ (cy a [⟨key,val,d⟩]) b e i:=by
 have n:I1 (cy a [⟨key,val,d⟩]) (CE b)=I1 a (CE b):=by unfold I1;rw[show cy a [⟨key,val,d⟩]=fg a ⟨key,val,d⟩ from rfl,PK j,if_neg l]
 unfold GJ;rw[n];exact L
theorem GJ.empty {a:Nat}:GJ [] a 0 ⟨#[]⟩:= .inl ⟨rfl,rfl,rfl⟩
theorem GJ.holds {b:List Pr}{d a:Nat}(L:GJ b d a name)(i:1<=a):Bd b (Ff d a name)=true:=by
 rw[OH];rcases L with⟨h,_,e⟩|⟨_,j,_,e⟩
 ·omega
 ·rw[e];simp
end
end Go.Lf.G
