/-
 Contracts: programs of steps (chapter 12).
-/
import Derived.Test.YtgpmoonnachoaaaGreatDoorLfU2ToS3
import Derived.Test.YtgpmoonnachoaaaGreatDoorLfKToGA
import Derived.Test.YtgpmoonnachoaaaGreatDoorLfZ11ToU32
import Derived.WideKeyEntry
import Derived.Test.YtgpmoonnachoaaaGreatDoorLfU15ToZ10
set_option maxRecDepth 100000
set_option linter.unusedVariables false
set_option linter.unusedSimpArgs false
open Go.IntKind renaming i64→J9,wrap→J8
open Go.Value renaming string→J7,int→J6,pointer→J5,slice→J4,bool→J3,tuple→J1
open Go.Obj renaming cells→J2
open Go renaming Value→J0,Addr→Q6,TypeId→Q7,FuncId→Q8,Program→Q1
open Go.Addr renaming add→Q9,mk→Q5
namespace Go.Lf.G
open Go
theorem mS {s:A2M}:bR s (⟨#[]⟩:A2M)=decide (s=HZ):=Cn
theorem yF {s:A2M}:s=HZ↔s.size=0:=by
 constructor
 ·rintro rfl;rfl
 ·intro a;have:bl s= []:=DA (by rw[BB];exact a);rw[<- EG s];show AX (bl s)=_;rw[this];rfl
theorem Eg {r:al}{e:aa}{s:A2M}{p:A2L}(a:p (J3 (Ak s)) e):AA r P Bg #[J7 s] e p:=by
 refine AE3 ?_;unfold Xz;rw[mS];refine ai.mk λK t=>?_
 have key: ∀h:Bool,(h=true↔s.size=0\/16<s.size)->K (h,()) e:=λh z=>by
  refine t _ _ ?_;refine af.intro (λb=>?_) (λb=>?_)
  ·have d:Ak s=false:=by
    rw[SD]
    grind [Gn]
   rw[d] at a;exact a
  have A: ¬(s.size=0\/16<s.size):=λg=>by simp_all
  refine Loop.rule (λm x g=> ∃i:Nat,x=((i:Int),())/\g=e/\m=s.size-i/\i<=s.size/\ ∀c∈(bl s).take i,33<=c.toNat/\c.toNat<=126) ?_ ⟨0,rfl,rfl,rfl,by omega,by simp⟩;rintro B m _ g ⟨i,rfl,d,rfl,C,D⟩ u;subst g;refine af.intro (λj=>?_) (λj=>?_)
  ·have k:i<s.size:=by simpa using j
   obtain⟨c,l⟩: ∃c,(bl s)[i]? =some c:=⟨_,A2 (by rw[BB];exact k)⟩;have E:c∈bl s:=AM l;dsimp only;rw[OH l];refine ai.mk λv w=>⟨⟨by omega,by omega⟩,?_⟩
   have q: ∀n:Bool,(n=true↔ ¬(33<=c.toNat/\c.toNat<=126))->v (n,()) e:=λn F=>by
    refine w _ _ ?_;refine af.intro (λb=>?_) (λb=>?_)
    ·have d:Ak s=false:=by
      rw[SD]
      grind [Gn]
     rw[d] at a;exact a
    ·rw[Ab (by omega)];refine u (s.size-(i+1)) _ _ (by omega) ⟨i+1,rfl,rfl,rfl,k,λx y=>?_⟩;rw[AD,l,CD] at y
     grind
   refine af.intro (λo=>q _ ⟨λ_=>by simp at o;omega,λ_=>rfl⟩) (λo=>⟨⟨by omega,by omega⟩,q _ ⟨λf=>by simp at f;omega,λf=>by simp at o;simp;omega⟩⟩)
  ·have k:i=s.size:=by simp at j;omega
   have d:Ak s=true:=by grind [Gn,List.take_of_length_le,BB]
   rw[d] at a;exact a
 refine af.intro (λb=>key _ ⟨λ_=> .inl (by simpa [yF] using b),λ_=>rfl⟩) (λb=>key _ ⟨λf=>by simp at f;omega,λf=>?_⟩)
 simp_all [decide_eq_false_iff_not,yF,decide_eq_true_eq];omega
theorem PT {h:al}{f:aa}{a c b:Int}{g:A2L}(d:g (J3 (bU a c b)) f):AA h P Gw #[J6 J9 a,J6 J9 c,J6 J9 b] f g:=by
 refine AC9 ?_;unfold WM;refine af.intro (λi=>?_) (λi=>?_)
 ·have e:bU a c b=decide (a<=b):=by simp_all [bU,decide_eq_decide]
  rw[e] at d;exact d
 ·have e:bU a c b=false:=by grind [bU]
  rw[e] at d;exact d
def bQ.fv(x:bQ):List Fv:= [.i x.kind,.s x.name,.s x.aK,.i x.tries,.i x.aA,.i x.wait]
theorem yG:P.underlying Bv=some (.struct (P.fieldsOf Bv)):=by kernel_rfl
theorem yH(x:bQ):ll P Bv (bQ.fv x)=true:=by kernel_rfl
theorem AM4 {q:al}{l:aa}{x:bQ}{m:A2L}(r: ∀n,Ext l n->m (J3 (NR x)) n):
  AA q P R6 #[.agg #[J6 J9 x.kind,J7 x.name,J7 x.aK,J6 J9 x.tries,J6 J9 x.aA,J6 J9 x.wait]] l m:=by
 refine AEq ?_;unfold ZR;refine ao.mk λj _ a s _=>?_
 have b:=r j s;refine AC.mk (AL a rfl) ?_;unfold NR at b;refine af.intro (λh=>?_) (λh=>?_)
 ·have h:x.kind=1:=by simpa using h
  rw[if_pos h] at b;refine ai.mk λK t=>?_
  have key:K (((decide (x.aK=HZ)&&decide (x.aA=0))||(Ak x.aK&&bU x.aA 1 5)),()) j:=by
   refine t _ _ ?_;refine AJ.mk (AB a rfl) (Eg ⟨_,rfl,?_⟩);cases d:Ak x.name with
   |false=>rw[d] at b;simpa [af] using b
   |true=>
    refine af.yes rfl (AC.mk (AB a rfl) (PT ⟨_,rfl,?_⟩));cases o:bU x.tries 1 5 with
    |false=>rw[d,o] at b;simpa [af] using b
    |true=>
     refine af.yes rfl ?_;refine af.intro (λc=>?_) (λc=>?_)
     ·refine AC.mk (AB a rfl) ?_;rw[d,o] at b;have c:((decide (x.aK=HZ)&&decide (x.aA=0))||(Ak x.aK&&bU x.aA 1 5))=true:=c;rw[c] at b;have e:(x.wait==(0:Int))=decide (x.wait=0):=by grind
      rw[e];simpa using b
     ·have c:((decide (x.aK=HZ)&&decide (x.aA=0))||(Ak x.aK&&bU x.aA 1 5))=false:=c;rw[c] at b;simpa using b
  have sub: ∀ {p:Bool},p=(Ak x.aK&&bU x.aA 1 5)->((decide (x.aK=HZ)&&decide (x.aA=0))=false)->K (p,()) j:=λu v=>by
   rw[v,SJ,<-u] at key;exact key
  refine AJ.mk (AB a rfl) ?_;rw[mS];refine af.intro (λi=>?_) (λi=>?_)
  ·refine AC.mk (AB a rfl) ?_;refine af.intro (λk=>?_) (λk=>?_)
   ·have e:decide (x.aA=0)=true:=by simpa using k
    rw[i,e] at key;simpa using key
   ·have e:decide (x.aA=0)=false:=by simpa using k
    refine AJ.mk (AB a rfl) (Eg ⟨_,rfl,?_⟩);refine af.intro (λd=>?_) (λd=>?_)
    ·exact AC.mk (AB a rfl) (PT ⟨_,rfl,sub (by rw[d,G3]) (by rw[e,OF])⟩)
    ·exact sub (by rw[d,Ge]) (by rw[e,OF])
  ·refine AJ.mk (AB a rfl) (Eg ⟨_,rfl,?_⟩);refine af.intro (λd=>?_) (λd=>?_)
   ·exact AC.mk (AB a rfl) (PT ⟨_,rfl,sub (by rw[d,G3]) (by rw[i,Ge])⟩)
   ·exact sub (by rw[d,Ge]) (by rw[i,Ge])
 ·have h:x.kind≠1:=by simpa using h
  rw[if_neg h] at b;refine af.intro (λf=>?_) (λf=>?_)
  ·have f:x.kind=2:=by simpa using f
   rw[if_pos f] at b;refine AC.mk (AL a rfl) (AJ.mk (AB a rfl) (AJ.mk (AB a rfl) (AC.mk (AB a rfl) (AC.mk (AB a rfl) (AC.mk (AB a rfl) (AC.mk (AB a rfl) ?_))))));refine rj (xs:=bQ.fv x) (ys:= [.i 2,.s HZ,.s HZ,.i 0,.i 0,.i x.wait]) yG (yH x) rfl rfl rfl ⟨_,rfl,?_⟩;have e:decide (bQ.fv x= [.i 2,.s HZ,.s HZ,.i 0,.i 0,.i x.wait])=(decide (x.name=HZ)&&decide (x.aK=HZ)&&decide (x.tries=0)&&decide (x.aA=0)):=by rw[DS];simp[bQ.fv,f,and_assoc]
   rw[e];refine af.intro (λc=>?_) (λc=>?_)
   ·rw[c,G3] at b;exact AC.mk (AB a rfl) (PT ⟨_,rfl,b⟩)
   ·rw[c,Ge] at b;exact b
  ·have f:x.kind≠2:=by simpa using f
   rw[if_neg f] at b;refine af.intro (λg=>?_) (λg=>?_)
   ·have g:x.kind=3:=by simpa using g
    rw[if_pos g] at b;refine AC.mk (AL a rfl) (AJ.mk (AB a rfl) (AJ.mk (AB a rfl) (AC.mk (AB a rfl) (AC.mk (AB a rfl) (AC.mk (AB a rfl) (AJ.mk (AB a rfl) ?_))))));refine rj (xs:=bQ.fv x) (ys:= [.i 3,.s x.name,.s HZ,.i 0,.i 0,.i 0]) yG (yH x) rfl rfl rfl ⟨_,rfl,?_⟩;have e:decide (bQ.fv x= [.i 3,.s x.name,.s HZ,.i 0,.i 0,.i 0])=(decide (x.aK=HZ)&&decide (x.tries=0)&&decide (x.aA=0)&&decide (x.wait=0)):=by rw[DS];simp[bQ.fv,g,and_assoc]
    rw[e];refine af.intro (λc=>?_) (λc=>?_)
    ·rw[c,G3] at b;exact AJ.mk (AB a rfl) (Eg ⟨_,rfl,b⟩)
    ·rw[c,Ge] at b;exact b
   ·have g:x.kind≠3:=by simpa using g
    rw[if_neg g] at b;exact b
abbrev APM(x:bQ):Array J0:= #[J6 J9 x.kind,J7 x.name,J7 x.aK,J6 J9 x.tries,J6 J9 x.aA,J6 J9 x.wait]
theorem yI:QZ P Gt Bv Ql.w 64=true:=by kernel_rfl
theorem yJ {b:aa}{a:Q6}{x:bQ}(c:Cells b a (Ql.enc x)):ah b a=some (J6 J9 x.kind)/\ah b (a.add 1)=some (J7 x.name)/\ah b (a.add 2)=some (J7 x.aK)/\ah b (a.add 3)=some (J6 J9 x.tries)/\ah b (a.add 4)=some (J6 J9 x.aA)/\ah b (a.add 5)=some (J6 J9 x.wait):=by refine⟨?_,c 1 _ rfl,c 2 _ rfl,c 3 _ rfl,c 4 _ rfl,c 5 _ rfl⟩;have:=c 0 _ rfl;rwa [add_zero] at this
theorem yK {D:al}{f:aa}{s:Sl}{p:cn}{u:A2L}(v:View Ql f s p.steps)(V:p.steps.length<=1099511627776)(n: ∀w,Ext f w->u (J6 J9 (if GL p then 0 else 130)) w):
  AA D P OU #[.agg #[J4 s.p s.len s.cap,J6 J9 p.az]] f u:=by
 refine AE2 ?_;unfold ZB;refine ao.mk λy _ g z _=>?_
 refine ai.mk λK E=>Aa.mk (s:=s) (AL g rfl) ?_
 rw[v.len];have key: ∀o:Bool,(o=true↔ ¬(p.steps.length<=16/\bU p.az 0 16000=true))->K (o,()) y:=λo F=>by
  refine E _ _ ?_;refine af.intro (λh=>?_) (λh=>?_)
  ·have d:=n y z;rw[if_neg] at d
   ·exact d
   ·intro j;simp only[GL,A3,decide_eq_true_eq] at j;exact F.1 h j.1
  have G:p.steps.length<=16/\bU p.az 0 16000=true:=Decidable.byContradiction λk=>by
   simp_all
  refine Aa.mk (s:=s) (AL g rfl) ?_;refine Loop.rule (λm x k=> ∃i:Nat,x=((i:Int),())/\Ext f k/\m=p.steps.length-i/\i<=p.steps.length/\(p.steps.take i).all NR=true) ?_ ⟨0,rfl,z,rfl,by omega,rfl⟩;rintro W m _ k ⟨i,rfl,l,rfl,X,q⟩ H;rw[v.len];refine af.intro (λr=>?_) (λr=>?_)
  ·have t:i<p.steps.length:=by simpa using r
   obtain⟨x,A⟩: ∃x,p.steps[i]? =some x:=⟨_,A2 t⟩;rw[<- v.len];refine(v.ext l).idx A λa _ c=>?_
   obtain⟨I,c1,c2,c3,J,L⟩:=yJ c;refine AC.mk I (AJ.mk c1 (AJ.mk c2 (AC.mk c3 (AC.mk J (AC.mk L ?_)))));refine ao.mk λM _ N O _=>ae.pB N λQ e R Y=>?_
   refine AC.mk (AL e rfl) (AJ.mk (AB e rfl) (AJ.mk (AB e rfl) (AC.mk (AB e rfl) (AC.mk (AB e rfl) (AC.mk (AB e rfl) ?_)))));have S:Ext f Q:=(l.trans O).more R λb g=>by subst g;exact l.size
   refine AM4 (x:=x) λT U=>⟨_,rfl,?_⟩
   have B:=S.trans U;refine af.intro (λC=>?_) (λC=>?_)
   ·have d:=n T B;rw[if_neg] at d
    ·exact d
    ·intro j;simp only[GL,A3,decide_eq_true_eq,E0] at j
     grind
   ·dsimp only;rw[Ab (by omega)];refine H (p.steps.length-(i+1)) _ _ (by omega) ⟨i+1,rfl,B,rfl,t,?_⟩;rw[AD,A,CD,Ss,q];simpa using C
  ·have t:i=p.steps.length:=by simp at r;omega
   rw[Ax (by omega)] at q;have d:=n k l;rw[if_pos (by simp only[GL,A3,decide_eq_true_eq];exact⟨G,q⟩)] at d;exact d
 refine af.intro (λh=>key _ ⟨λ_ M=>by simp at h;omega,λ_=>rfl⟩) (λh=>?_);refine AC.mk (AB g rfl) (PT ⟨_,rfl,key _ ?_⟩)
 grind
structure XW (h:aa) (b rb b1:Nat) (lim:Int) (s:Sl) (l:List bQ) (hh:aa) (r:Rd):Prop where
 ext:Ext h hh
 zero:hh[b]? =some (J2 #[J4 none 0 0,J6 J9 0] FO (0,0))
 rd:Ir hh rb r
 var:hh[b1]? =some (J2 #[J4 s.p s.len s.cap,J6 J9 lim] FO (0,0))
 own:Own Ql Bv hh s l
 fresh: ∀c,s.ag=some c->h.size<=c/\c≠b/\c≠rb/\c≠b1
 ne:h.size<=b/\h.size<=rb/\h.size<=b1/\b≠rb/\b≠b1/\rb≠b1
theorem XW.read {g:aa}{b d h:Nat}{i:Int}{s:Sl}{l:List bQ}{j e:aa}{n k:Rd}(a:XW g b d h i s l j n)(o:Ir e d k)(m:Mod (· =d) j e):XW g b d h i s l e k:=
 ⟨a.ext.more m λc f=>by subst f;exact a.ne.2.1,m.ag a.zero a.ne.2.2.2.1,o,m.ag a.var a.ne.2.2.2.2.2.symm,a.own.mod m λc f=>(a.fresh c f).2.2.1,a.fresh,a.ne⟩
theorem XW.other {e:aa}{b f g c:Nat}{i:Int}{s:Sl}{l:List bQ}{j k:aa}{n:Rd}(a:XW e b f g i s l j n)(m:Mod (· =c) j k)(d:e.size<=c/\c≠b/\c≠f/\c≠g/\s.ag≠some c):XW e b f g i s l k n:=
 ⟨a.ext.more m λo h=>by subst h;exact d.1,m.ag a.zero d.2.1.symm,m.ag a.rd d.2.2.1.symm,m.ag a.var d.2.2.2.1.symm,a.own.mod m λo h p=>d.2.2.2.2 (by rw[h,p]),a.fresh,a.ne⟩
theorem XW.on {a:aa}{b d e:Nat}{f:Int}{s:Sl}{l:List bQ}{g h:aa}{i:Rd}(c:XW a b d e f s l g i)(m:Ext g h):XW a b d e f s l h i:=
 ⟨c.ext.trans m,m.ag c.zero (λa=>a),m.ag c.rd (λa=>a),m.ag c.var (λa=>a),c.own.ext m,c.fresh,c.ne⟩
theorem XW.new {d:aa}{b e f:Nat}{g:Int}{s:Sl}{l:List bQ}{a:aa}{h:Rd}(c:XW d b e f g s l a h):d.size<=a.size/\a.size≠b/\a.size≠e/\a.size≠f/\s.ag≠some a.size:=by
 refine⟨c.ext.size,?_,?_,?_,λi=>?_⟩
 ·have:=Aj c.zero;omega
 ·have:=Aj c.rd;omega
 ·have:=Aj c.var;omega
 ·have:=c.own.lt i;omega
theorem ANO {b c d:Nat}{e:Bool}(a:Rd):(Mw b c d e a).2.rest.length<=a.rest.length:=by grind [Hu,Mw,Q4,CE,FL]
def yL(a:Option cn)(s:Sl):J0:=match a with
 |none=>J1 #[.agg #[J4 none 0 0,J6 J9 0],J6 J9 60]
 |some p=>J1 #[.agg #[J4 s.p s.len s.cap,J6 J9 p.az],J6 J9 0]
theorem AK6 {A:al}{h:aa}{l:List UInt8}{R:A2L}(bC:l.length<1099511627776)
  (ar: ∀O s,Ext h O->(∀ p,Jc l=some p->View Ql O s p.steps/\ ∀c,s.ag=some c->h.size<=c)->R (yL (Jc l) s) O):AA A P KQ #[J7 (AX l)] h R:=by
 refine ADx ?_;unfold WJ;refine ao.mk λz _ au ac aP=>?_
 refine KP λaQ ad ag=>⟨_,rfl,?_⟩
 refine De (most:=16000) ad (by simp;omega) (by decide) λQ av S=>⟨_,rfl,?_⟩
 refine ao.mk λbD _ aw T aR=>ae.two aw λaS ax U aT=>?_
 have bE:z.size<aQ.size:=Aj ad;have bF:=S.size;have bG:=ac.size;have ay:XW h h.size z.size Q.size ((CE 16000 ⟨l,false⟩).1:Int) ⟨none,0,0⟩ [] aS (CE 16000 ⟨l,false⟩).2:=by
  have aU:Q[h.size]? =some (J2 #[J4 none 0 0,J6 J9 0] FO (0,0)):=S.ag (ag.ag au (λh=>h)) (by omega);have aV:=T.ag av (λh=>h);have az:Ext h Q:=(ac.trans ag).more S λc a=>by subst a;omega
  refine⟨(az.trans T).more U λc a=>by subst a;exact az.size,U.ag (T.ag aU (λh=>h)) (by omega),U.ag aV (by omega),ax,Own.nil,λc a=>by simp[Sl.ag] at a,by omega,by omega,by omega,by omega,by omega,by omega⟩
 have bH:(CE 16000 ⟨l,false⟩).2.rest.length<=l.length:=Hu 16000 ⟨l,false⟩;refine De (most:=16) ay.rd (by omega) (by decide) λbI aA aC=>⟨_,rfl,?_⟩
 have aW:=ay.read aA aC;have bJ:=Hu 16 (CE 16000 ⟨l,false⟩).2;generalize bK:(CE 16000 ⟨l,false⟩).1=i at*
 generalize bL:(CE 16000 ⟨l,false⟩).2=t at*
 have aX:(CE 16 t).1<=16:=by
  unfold CE
  grind
 have G:ZL 16000 3 5 1000 false l=(⟨(IK 3 5 1000 false (CE 16 t).1 (CE 16 t).2).1,i⟩,(IK 3 5 1000 false (CE 16 t).1 (CE 16 t).2).2):=by grind [ZL]
 generalize bM:h.size=b at*
 generalize bN:z.size=H at*
 generalize B:Q.size=I at*
 clear au ad av aw ax ac ag T S U aC aP aR aT aA;refine Loop.rule (λm x ah=> ∃(j:Nat) (s:Sl) (f:List bQ) (d:Rd),x=((j:Int),())/\XW h b H I i s f ah d/\m=j/\d.rest.length<=l.length/\f.length+j<=16/\
  ZL 16000 3 5 1000 false l=(⟨f++(IK 3 5 1000 false j d).1,i⟩,(IK 3 5 1000 false j d).2)) ?_ ⟨(CE 16 t).1,⟨none,0,0⟩,[],(CE 16 t).2,rfl,aW,rfl,by omega,by simpa using aX,G⟩
 rintro K m _ ah ⟨j,s,f,d,rfl,n,bO,bP,bR,G⟩ aY;refine af.intro (λaj=>?_) (λaj=>?_)
 ·have aD:0<j:=by simp at aj;omega
  obtain⟨k,rfl⟩: ∃k,j=k+1:=⟨j-1,by omega⟩;refine De (most:=3) n.rd (by omega) (by decide) λak aZ a0=>⟨_,rfl,?_⟩
  have g:=n.read aZ a0;have bS:=Hu 3 d;refine ao.mk λV _ u a1 bT=>ae.pB u λa2 B a3 bU=>?_
  have a:=g.new;have v:=(g.on a1).other a3 a;generalize ak.size=a4 at*
  refine AC.mk (AL B rfl) ?_;refine ai.mk λa5 a6=>?_
  have W: ∀(x:bQ) (C:Rd) (o:aa),XW h b H I i s f o C->o[a4]? =some (J2 (APM x) Bv (0,0))->Mw 3 5 1000 false d=(x,C)->a5 () o:=λx C o e q w=>by
   refine a6 _ _ ?_;refine Aa.mk (s:=s) (AL e.var rfl) ?_;refine AC.mk (AL q rfl) (AJ.mk (AB q rfl) (AJ.mk (AB q rfl) (AC.mk (AB q rfl) (AC.mk (AB q rfl) (AC.mk (AB q rfl) ?_)))));refine ao.aZ (E:=Ql) (x:=x) (s:=s) (l:=f) rfl yI e.own (by omega) (by simp[maxLen];omega) λaE O a7 X q bV=>?_
   have a8:s.ag≠some I:=λa=>(e.fresh _ a).2.2.2 rfl
   have a9:s.ag≠some b:=λa=>(e.fresh _ a).2.1 rfl
   have ba:s.ag≠some H:=λa=>(e.fresh _ a).2.2.1 rfl
   have aF: ∀c,aE.ag=some c->h.size<=c/\c≠b/\c≠H/\c≠I:=λc a=>by
    rcases q c a with z|z
    ·exact e.fresh c z
    ·have bW:=Aj e.zero;have bX:=Aj e.rd;have bY:=Aj e.var;have bZ:=e.ext.size;omega
   refine ae.mk (X.ag e.var a8) (by simp) λb0 bb Y b1=>?_
   rw[show((((k+1:Nat):Int),()):Int×Unit).1-(1:Int)=((k:Nat):Int) by simp,ED (by omega)];have bc:IK 3 5 1000 false (k+1) d=(x::(IK 3 5 1000 false k C).1,(IK 3 5 1000 false k C).2):=by simp only[IK,w]
   refine aY k _ _ (by omega) ⟨k,aE,f++ [x],C,rfl,⟨?_,?_,?_,by simpa using bb,?_,aF,e.ne⟩,rfl,?_,by simp;omega,?_⟩
   ·exact(e.ext.more X λc a=>(e.fresh c a).1).more Y λc a=>by omega
   ·exact Y.ag (X.ag e.zero a9) e.ne.2.2.2.2.1
   ·exact Y.ag (X.ag e.rd ba) e.ne.2.2.2.2.2
   ·exact a7.mod Y λc a=>(aF c a).2.2.2
   ·grind [ANO]
   ·rw[G,bc];simp
  refine af.intro (λy=>?_) (λy=>?_)
  ·have am:(CE 3 d).1=1:=by simp at y;omega
   have b2:=(Q4 (CE 3 d).2).1;have b3:=Hu 5 (FL (CE 3 d).2).2;have b4:=(Q4 (CE 5 (FL (CE 3 d).2).2).2).1;refine Hm v.rd (by omega) λaG J r=>⟨_,rfl,?_⟩
   have D:=v.read J r;have L:=r.ag B a.2.2.1;refine De (most:=5) D.rd (by omega) (by decide) λZ bd F=>⟨_,rfl,?_⟩
   have be:=D.read bd F;have M:=F.ag L a.2.2.1;refine ae.bJ M (by simp) rfl λb5 bf bg b6=>ae.bJ bf (by simp) rfl λb7 bh bi b8=>?_
   have aH:=(be.other bg a).other bi a;refine Hm aH.rd (by omega) λb9 bj aI=>⟨_,rfl,?_⟩
   have aJ:=aH.read bj aI;have bk:=aI.ag bh a.2.2.1;refine De (most:=5) aJ.rd (by omega) (by decide) λca bm aK=>⟨_,rfl,?_⟩
   have bn:=aJ.read bm aK;have bo:=aK.ag bk a.2.2.1;refine ae.bJ bo (by simp) rfl λcb bp bq cc=>ae.bJ bp (by simp) rfl λbr bs bt cd=>?_
   have bu:=(bn.other bq a).other bt a;refine W ⟨1,AX (FL (CE 3 d).2).1,AX (FL (CE 5 (FL (CE 3 d).2).2).2).1,(CE 5 (FL (CE 3 d).2).2).1,(CE 5 (FL (CE 5 (FL (CE 3 d).2).2).2).2).1,0⟩ _ br bu ?_ ?_
   ·rw[bs,am];rfl
   ·simp only[Mw];rw[if_pos am]
  ·have am:(CE 3 d).1≠1:=by simp at y;omega
   refine af.intro (λan=>?_) (λan=>?_)
   ·have aL:(CE 3 d).1=2:=by simp at an;omega
    refine De (most:=1000) v.rd (by omega) (by decide) λaG J r=>⟨_,rfl,?_⟩
    have D:=v.read J r;have L:=r.ag B a.2.2.1;refine ae.bJ L (by simp) rfl λZ M F bv=>?_
    refine W ⟨2,HZ,HZ,0,0,(CE 1000 (CE 3 d).2).1⟩ _ Z (D.other F a) ?_ ?_
    ·rw[M,aL];rfl
    ·simp only[Mw]
     grind
   ·have aL:(CE 3 d).1≠2:=by simp at an;omega
    refine af.intro (λap=>?_) (λap=>?_)
    ·have bw:(CE 3 d).1=3:=by simp at ap;omega
     refine Hm v.rd (by omega) λaG J r=>⟨_,rfl,?_⟩
     have D:=v.read J r;have L:=r.ag B a.2.2.1;refine ae.bJ L (by simp) rfl λZ M F bv=>?_
     refine W ⟨(CE 3 d).1,AX (FL (CE 3 d).2).1,HZ,0,0,0⟩ _ Z (D.other F a) ?_ ?_
     ·rw[M];rfl
     ·simp only[Mw]
      grind
    ·have bw:(CE 3 d).1≠3:=by simp at ap;omega
     refine W ⟨(CE 3 d).1,HZ,HZ,0,0,0⟩ _ a2 v B ?_;simp only[Mw]
     grind
 ·have aD:j=0:=by simp at aj;omega
  subst aD;simp only[IK,AK] at G;refine ai.mk λbx aM=>?_
  refine Mg n.rd ⟨_,rfl,?_⟩;have aN:Jc l=if Sg d&&GL ⟨f,i⟩ then some ⟨f,i⟩ else none:=by unfold Jc;rw[G]
  have aO:Jc l=none-> ∀o,XW h b H I i s f o d->bx (true,()) o:=λw o e=>by
   refine aM _ _ (af.yes rfl ?_);refine ae.two e.zero λV u ab bz=>Aa.mk (s:=⟨none,0,0⟩) (AL u rfl) (AC.mk (AB u rfl) ?_)
   have:=ar V ⟨none,0,0⟩ (e.ext.more ab λc a=>by subst a;exact e.ne.1) (λp N=>by rw[w] at N;cases N);rw[w] at this;exact this
  refine af.intro (λy=>?_) (λy=>?_)
  ·have aq:Sg d=false:=by simpa using y
   exact aO (by rw[aN,aq];rfl) ah n
  ·have aq:Sg d=true:=by simpa using y
   refine Aa.mk (s:=s) (AL n.var rfl) (AC.mk (AB n.var rfl) ?_);refine yK (p:=⟨f,i⟩) n.own.view (by simp only;omega) λak bA=>⟨_,rfl,?_⟩
   have g:=n.on bA;cases bB:GL ⟨f,i⟩ with
   |false=>exact aO (by grind) ak g
   |true=>
    refine aM _ _ (af.no rfl ?_);have w:Jc l=some ⟨f,i⟩:=by rw[aN,aq,bB];rfl
    refine Aa.mk (s:=s) (AL g.var rfl) (AC.mk (AB g.var rfl) ?_);refine ae.two g.zero λV u ab bz=>Aa.mk (s:=s) (AL u rfl) (AC.mk (AB u rfl) ?_)
    have:=ar V s (g.ext.more ab λc a=>by subst a;exact g.ne.1) (λp N=>by
     rw[w] at N;obtain rfl:=BE N;exact⟨(g.own.mod ab λc a=>(g.fresh c a).2.1).view,λc a=>by have:=(g.fresh c a).1;omega⟩)
    rw[w] at this;exact this
def fN(a:Int):Int:=(if da a then 1 else 0)+(if dr a then 2 else 0)+(if dF a then 4 else 0)+(if dO a then 8 else 0)+(if dP a then 16 else 0)
theorem rY(d:Int):Gr J9 (fN d) 1=(if da d then 1 else 0)/\Gr J9 (fN d) 2=(if dr d then 2 else 0)/\Gr J9 (fN d) 4=(if dF d then 4 else 0)/\Gr J9 (fN d) 8=(if dO d then 8 else 0)/\Gr J9 (fN d) 16=(if dP d then 16 else 0):=by unfold fN;generalize da d=a;generalize dr d=b;generalize dF d=c;generalize dO d=e;generalize dP d=f;cases a<;>cases b<;>cases c<;>cases e<;>cases f<;>decide
theorem mT {b:Bool}{a:Int}(c:a≠0):((if b then a else 0)==(0:Int))= !b:=by cases b<;>simp[c]
theorem Ml {b:Bool}{a:Int}(c:a≠0):((if b then a else 0) != (0:Int))=b:=by cases b<;>simp[c]
theorem Xk {i:al}{f:aa}{a:Int}{g:A2L}(c:g (J1 #[J6 J9 (fN a),J3 (bU a 1 18)]) f):AA i P JQ #[J6 J9 a] f g:=by
 refine AB5 ?_;unfold VM;have d:a=1\/a=2\/a=3\/a=4\/a=5\/a=6\/a=7\/a=8\/a=9\/a=10\/a=11\/a=12\/a=13\/a=14\/a=15\/a=16\/a=17\/a=18\/ ¬(1<=a/\a<=18):=by omega
 by_cases h:1<=a/\a<=18
 ·rcases d with rfl|rfl|rfl|rfl|rfl|rfl|rfl|rfl|rfl|rfl|rfl|rfl|rfl|rfl|rfl|rfl|rfl|rfl|d
  all_goals (try exact absurd h d)
  all_goals repeat first|exact c|(refine ai.mk λK e=>?_)|(refine af.yes (by decide) ?_)|(refine af.no (by decide) ?_)|(refine e _ _ ?_)
 ·have j:bU a 1 18=false:=by unfold bU;simpa using h
  have k:fN a=0:=by unfold fN da dr dF dO dP;rw[decide_eq_false (by omega),decide_eq_false (by omega),decide_eq_false (by omega),decide_eq_false (by omega),decide_eq_false (by omega)];rfl
  rw[j,k] at c;have ne: ∀b:Int,1<=b->b<=18->(a==b)=false:=λb l m=>by
   rw[beq_eq_false_iff_ne];omega
  repeat first|exact c|(refine ai.mk λK e=>?_)|(refine af.no (ne _ (by decide) (by decide)) ?_)|(refine e _ _ ?_)
theorem yM {A:al}{h:aa}{s:A2M}{R:A2L}(b:s.size<1099511627776)
  (d: ∀a sl,Ext h a->(∀ p,Jc (bl s)=some p->View Ql a sl p.steps/\ ∀c,sl.ag=some c->h.size<=c)->R (yL (Jc (bl s)) sl) a):AA A P KQ #[J7 s] h R:=by
 have:=AK6 (A:=A) (h:=h) (l:=bl s) (R:=R) (by rw[BB];exact b) d;rwa [Le] at this
theorem MP {A:al}{h:aa}{s:A2M}{R:A2L}(b:s.size<=1099511627776)(c: ∀a,Ext h a->R (J7 (AX (BI (bl s)))) a):AA A P CB #[J7 s] h R:=by have:=PY (A:=A) (h:=h) (l:=bl s) (R:=R) (by rw[BB];exact b) c;rwa [Le] at this
theorem rZ {l:al}{h:aa}{b:Nat}{f a g c j:Int}{fl:Bool}{T:Q7}{fr:Nat×Nat}{k:A2L}(m:h[b]? =some (J2 #[J6 J9 f] T fr))(n:(Gr J9 f j==(0:Int))= !fl)
  (d:k (J3 (dc fl a g c)) h):Em l P (.func (.func Ia) #[] #[J5 (some ⟨b,0,none⟩)]) #[J6 J9 a,J6 J9 g,J6 J9 c,J6 J9 j] h k:=by
 refine Em.func (first:= #[]) (bW:= #[Ar b]) (by kernel_rfl) ?_;refine AAB ?_;unfold TF;refine aD (AC.mk (AL m rfl) ?_);rw[n];cases fl with
 |false=>
  refine af.yes rfl ?_;have e:(a==(0:Int))=decide (a=0):=by by_cases o:a=0<;>simp[o]
  rw[e];exact d
 |true=>
  refine af.no rfl ?_;refine af.intro (λi=>?_) (λi=>?_)
  ·have e:dc true a g c=decide (a<=c):=by simp at i;simp only[dc,if_true,bU];rw[decide_eq_decide];omega
   rw[e] at d;exact d
  ·have e:dc true a g c=false:=by simp at i;simp only[dc,if_true,bU];simp;omega
   rw[e] at d;exact d
abbrev gC(a:Ev):J0:= .agg #[J6 J9 a.id,J6 J9 a.kind,J6 J9 a.tick,J6 J9 a.ref,J6 J9 a.step,J6 J9 a.turn,J3 a.aK,J7 a.data]
theorem sd {O:al}{h:aa}{e:Ev}{t:A2L}(hd:e.data.size<1099511627776)(u: ∀d,Ext h d->t (J6 J9 (if Dl e then 0 else 120)) d):AA O P KX #[gC e] h t:=by
 refine ADH ?_;unfold XE;refine ao.mk λv _ F G aF=>?_
 refine AC.mk (AB F rfl) (Xk ⟨_,_,rfl,?_⟩);refine ao.mk λaG _ Q H aH=>?_
 refine ae.mk Q (by simp) λf j I aI=>?_
 have o:Ext h f:=(G.trans H).more I λc q=>by subst q;exact G.size
 have R:h.size≠v.size:=by omega
 have b:=I.ag (H.ag F (λh=>h)) R;have j:f[v.size]? =some (J2 #[J6 J9 (fN e.kind)] Bp (0,0)):=j;obtain⟨S,T,U,V,W⟩:=rY e.kind;refine ai.mk λK J=>?_
 have g:En e=false->K (true,()) f:=λw=>by
  refine J _ _ (af.yes rfl ?_);have:=u f o;have r:Dl e=false:=by simp[Dl,w]
  rw[r] at this;exact this
 have aR:En e=true->K (false,()) f:=λw=>by
  refine J _ _ (af.no rfl ?_);refine AC.mk (AB b rfl) ?_;refine ai.mk λX Y=>?_
  have y:Ki e=true-> ∀d,Ext h d->X () d:=λz d x=>by
   refine Y _ _ ?_;have:=u d x;have r:Dl e=true:=by simp[Dl,w,z]
   rw[r] at this;exact this
  have fail:Ki e=false-> ∀d,Ext h d->t (J6 J9 120) d:=λz d x=>by
   have:=u d x;have r:Dl e=false:=by simp[Dl,z]
   rw[r] at this;exact this
  refine af.intro (λi=>?_) (λi=>?_)
  ·have i:e.kind=1:=by simpa using i
   have k:Ki e=(Jc (bl e.data)).isSome:=by unfold Ki;rw[if_pos i]
   refine AJ.mk (AB b rfl) (yM hd λaJ sl Z _=>?_);have s:=o.trans Z;cases L:Jc (bl e.data) with
   |none=>
    refine⟨⟨none,0,0⟩,_,_,rfl,?_⟩;refine ao.mk λab _ A B ac=>ae.two A λC ad D ag=>af.yes rfl ?_
    exact fail (by rw[k,L];rfl) C ((s.trans B).more D λc q=>by subst q;exact s.size)
   |some p=>
    refine⟨sl,_,_,rfl,?_⟩;refine ao.mk λab _ A B ac=>ae.two A λC ad D ag=>af.no rfl ?_
    exact y (by rw[k,L];rfl) C ((s.trans B).more D λc q=>by subst q;exact s.size)
  ·have i:e.kind≠1:=by simpa using i
   refine af.intro (λl=>?_) (λl=>?_)
   ·have l:e.kind=12:=by simpa using l
    have k:Ki e=Ak e.data:=by unfold Ki;rw[if_neg i,if_pos l]
    refine AJ.mk (AB b rfl) (Eg ⟨_,rfl,?_⟩);cases M:Ak e.data with
    |false=>exact fail (by rw[k,M]) f o
    |true=>exact y (by rw[k,M]) f o
   ·have l:e.kind≠12:=by simpa using l
    have k:Ki e=true:=by unfold Ki;rw[if_neg i,if_neg l]
    exact y k f o
 refine af.intro (λa=>g (by simp at a;simp[En,a])) (λah=>?_);refine AC.mk (AL b rfl) (af.intro (λa=>g ?_) (λaj=>?_))
 ·have:bU e.id 1 500=false:=by simp at a;unfold bU;simp;omega
  simp[En,this]
 refine AC.mk (AL b rfl) (af.intro (λa=>g ?_) (λak=>?_))
 ·have:bU e.id 1 500=false:=by simp at a;unfold bU;simp;omega
  simp[En,this]
 have am:1<=e.id/\e.id<=500:=by simp at aj ak;omega
 refine AC.mk (AB b rfl) (af.intro (λa=>g ?_) (λan=>?_))
 ·have:bU e.tick 0 1099511627776=false:=by simp at a;unfold bU;simp;omega
  simp[En,this]
 refine AC.mk (AB b rfl) (af.intro (λa=>g ?_) (λap=>?_))
 ·have:bU e.tick 0 1099511627776=false:=by simp at a;unfold bU;simp;omega
  simp[En,this]
 have aq:bU e.tick 0 1099511627776=true:=by simp at an ap;rw[Bd];omega
 have ar:bU e.id 1 500=true:=Bd.2 am;have au:bU e.kind 1 18=true:=by simpa using ah
 refine AC.mk (AB b rfl) (AC.mk (AL b rfl) ?_);rw[wrap_i64 (n:=e.id-1) (by omega) (by omega)];refine rZ (fl:=da e.kind) j (by rw[S,mT (by decide)]) ⟨_,rfl,?_⟩;refine af.intro (λa=>g ?_) (λav=>?_)
 ·have:dc (da e.kind) e.ref 1 (e.id-1)=false:=by simpa using a
  simp[En,this]
 have aw:dc (da e.kind) e.ref 1 (e.id-1)=true:=by simpa using av
 refine AC.mk (AB b rfl) ?_;refine rZ (fl:=dr e.kind) j (by rw[T,mT (by decide)]) ⟨_,rfl,?_⟩;refine af.intro (λa=>g ?_) (λax=>?_)
 ·have:dc (dr e.kind) e.step 0 15=false:=by simpa using a
  simp[En,this]
 have ay:dc (dr e.kind) e.step 0 15=true:=by simpa using ax
 refine AC.mk (AB b rfl) ?_;refine rZ (fl:=dF e.kind) j (by rw[U,mT (by decide)]) ⟨_,rfl,?_⟩;refine af.intro (λa=>g ?_) (λaz=>?_)
 ·have:dc (dF e.kind) e.turn 1 5=false:=by simpa using a
  simp[En,this]
 have aA:dc (dF e.kind) e.turn 1 5=true:=by simpa using az
 have m:En e=((!e.aK||dO e.kind)&&(decide (e.data=HZ)||dP e.kind)):=by simp[En,au,ar,aq,aw,ay,aA]
 have last:(!e.aK||dO e.kind)=true->AJ f ((⟨h.size,0,none⟩:Q6).add 7) λaC=>
   af (!bR aC (⟨#[]⟩:A2M)) (AC J9 f (⟨v.size,0,none⟩:Q6) λaD=>K (((Gr J9 aD (16:Int))==(0:Int)),()) f) (K (false,()) f):=λaE=>by
  rw[aE,G3] at m;refine AJ.mk (AB b rfl) ?_;rw[mS];refine af.intro (λa=>?_) (λa=>?_)
  ·have a:decide (e.data=HZ)=false:=by simpa using a
   refine AC.mk (AL j rfl) ?_;rw[W,mT (by decide)];rw[a,SJ] at m;cases N:dP e.kind with
   |false=>exact g (by rw[m,N])
   |true=>exact aR (by rw[m,N])
  ·have a:decide (e.data=HZ)=true:=by simpa using a
   rw[a,Bool.true_or] at m;exact aR m
 refine AZ.mk (AB b rfl) (af.intro (λa=>?_) (λa=>?_))
 ·refine AC.mk (AL j rfl) ?_;rw[V,mT (by decide)];refine af.intro (λE=>g ?_) (λE=>last ?_)
  ·have:dO e.kind=false:=by simpa using E
   rw[m,a,this];rfl
  ·have:dO e.kind=true:=by simpa using E
   rw[this,HL]
 ·exact last (by rw[a];rfl)
theorem qn:QZ P Eb Hg fB.w 32=true:=by kernel_rfl
theorem qo:QZ P Df Gi gq.w 24=true:=by kernel_rfl
theorem AUX:(zeroValue Hg).calc P=some Jb.z.v:=by kernel_rfl
theorem AUa:(zeroValue Gi).calc P=some Ck.z.v:=by kernel_rfl
def qp(d:Option Nat):Int:=match d with|some i=>(i:Int)|none=> -1
theorem ua {f:Type}{p:f->Bool}{l:List f}{d:Nat}(m:d<=l.length)(h: ∀x∈l.take d,p x=false):(∀ x,l[d]? =some x->p x=true->l.findIdx? p=some d)/\(d=l.length->l.findIdx? p=none):=by
 constructor
 ·intro x i j;rw[List.findIdx?_eq_some_iff_getElem];obtain⟨k,e⟩:=List.getElem?_eq_some_iff.1 i;refine⟨k,by rw[e];exact j,λg n=>?_⟩;have:=h l[g] (List.mem_iff_getElem?.2 ⟨g,by simp_all⟩);simp[this]
 simp_all
section
variable {A : al} {h : aa} {R : A2L} {s : bg} {e : Ev} {a b c : Sl}
theorem ASB {p:Jb->Bool}{sl:Sl}{l:List Jb}{f:J0}(v:View fB h sl l)(H:l.length<=1000000)(y: ∀(x:Jb) (d:aa) (o:A2L),Ext h d->(∀ g,Ext d g->o (J3 (p x)) g)->Em A P f #[x.v] d o)
  (q: ∀g,Ext h g->R (J6 J9 (qp (l.findIdx? p))) g):AA A P DY #[J4 sl.p sl.len sl.cap,f] h R:=by
 refine Iy ?_;unfold FE;refine Loop.rule (λm x d=> ∃i:Nat,x=((i:Int),())/\m=l.length-i/\i<=l.length/\Ext h d/\ ∀x∈l.take i,p x=false) ?_ ⟨0,rfl,rfl,A5 _,Mod.refl,by simp⟩;rintro K m _ r ⟨i,rfl,rfl,z,j,B⟩ C;obtain⟨D,E⟩:=ua z B;dsimp only;have I:=v.len;refine af.intro (λn=>?_) (λn=>?_)
 ·have k:i<l.length:=by simp at n;omega
  obtain⟨x,t⟩: ∃x,l[i]? =some x:=⟨_,A2 k⟩;refine(v.ext j).idx t λJ _ F=>lu.mk x F ?_
  refine y x r _ j λG u=>⟨_,rfl,?_⟩
  refine af.intro (λw=>?_) (λw=>?_)
  ·have:=q G (j.trans u);rw[D x t w] at this;exact this
  ·rw[Ab (by omega)];refine C (l.length-(i+1)) _ _ (by omega) ⟨i+1,rfl,rfl,k,j.trans u,λL M=>?_⟩
   grind [List.take_add_one,Option.toList_some,List.mem_singleton]
 ·have k:i=l.length:=by simp at n;omega
  have:=q r j;rw[E k] at this;exact this
theorem ARr {p:Ck->Bool}{sl:Sl}{l:List Ck}{f:J0}(v:View gq h sl l)(H:l.length<=1000000)(y: ∀(x:Ck) (d:aa) (o:A2L),Ext h d->(∀ g,Ext d g->o (J3 (p x)) g)->Em A P f #[x.v] d o)
  (q: ∀g,Ext h g->R (J6 J9 (qp (l.findIdx? p))) g):AA A P Cu #[J4 sl.p sl.len sl.cap,f] h R:=by
 refine Ht ?_;unfold EX;refine Loop.rule (λm x d=> ∃i:Nat,x=((i:Int),())/\m=l.length-i/\i<=l.length/\Ext h d/\ ∀x∈l.take i,p x=false) ?_ ⟨0,rfl,rfl,A5 _,Mod.refl,by simp⟩;rintro K m _ r ⟨i,rfl,rfl,z,j,B⟩ C;obtain⟨D,E⟩:=ua z B;dsimp only;have I:=v.len;refine af.intro (λn=>?_) (λn=>?_)
 ·have k:i<l.length:=by simp at n;omega
  obtain⟨x,t⟩: ∃x,l[i]? =some x:=⟨_,A2 k⟩;refine(v.ext j).idx t λJ _ F=>oT.mk x F ?_
  refine y x r _ j λG u=>⟨_,rfl,?_⟩
  refine af.intro (λw=>?_) (λw=>?_)
  ·have:=q G (j.trans u);rw[D x t w] at this;exact this
  ·rw[Ab (by omega)];refine C (l.length-(i+1)) _ _ (by omega) ⟨i+1,rfl,rfl,k,j.trans u,λL M=>?_⟩
   grind [List.take_add_one,Option.toList_some,List.mem_singleton]
 ·have k:i=l.length:=by simp at n;omega
  have:=q r j;rw[E k] at this;exact this
theorem ATO(o:View fB h b s.au)(q:s.au.length<=1000000)(r: ∀f,Ext h f->R (J6 J9 (qp (mL s e.ref e.turn))) f):AA A P UX #[(s.V a b c).v,e.v] h R:=by
 refine AGY ?_;unfold uP;refine ao.mk λt _ u v F=>ao.mk λG _ w g H=>?_
 have i:=v.trans g;refine Aa.mk (s:=b) (AB (g.ag u λh=>h) rfl) (ASB (o.ext i) q (p:=λj=>decide (j.id=e.ref)&&decide (j.turn=e.turn)) (λx I J y z=>?_) λB C=>⟨_,rfl,r B (i.trans C)⟩);refine Em.func (first:= #[]) (bW:= #[Ar t.size]) (by kernel_rfl) (AC3 ?_);unfold WS;refine ao.mk λD _ k l K=>?_
 have m:=(y.trans l).ag w λh=>h
 have:=z D l;refine AC.mk (n:=x.id) (AL k rfl) (AC.mk (n:=e.ref) (AB m rfl) (af.intro (λd=>?_) (λd=>?_)))
 ·have d:x.id=e.ref:=by simpa using d
  refine AC.mk (n:=x.turn) (AB k rfl) (AC.mk (n:=e.turn) (AB m rfl) ?_);have E:(x.turn==e.turn)=(decide (x.id=e.ref)&&decide (x.turn=e.turn)):=by grind
  rw[E];exact this
 ·have d:x.id≠e.ref:=by simpa using d
  rw[decide_eq_false d,Ge] at this;exact this
theorem step_ok {f d:Int}(F:View Ql h a s.prog.steps)(u: ∀j,Ext h j->R (J1 #[((stepOf s.prog f d).getD bQ.z).v,J3 (stepOf s.prog f d).isSome]) j):AA A P Lt #[(s.V a b c).v,J6 J9 f,J6 J9 d] h R:=by
 refine AEy ?_;unfold Yo;refine ao.mk λG _ H I Q=>ao.mk λv _ w y S=>?_
 have z:=I.trans y;have o:=y.ag H λh=>h
 have p:=F.ext z;have B: ∀j,Mod (· =G.size) v j->Ext h j:=λj m=>z.more m λc J=>by subst J;omega
 refine ai.mk λK C=>?_
 have no:stepOf s.prog f d=none->K (true,()) v:=λL=>by
  refine C _ _ (af.yes rfl (aL.mk w (A0 6) λk q r M=>jj.mk bQ.z (Dn q rfl) ?_));have:=u k (B k r);rw[L] at this;exact this
 refine af.intro (λg=>no ?_) (λg=>?_)
 ·have g:f<0:=by simpa using g
  unfold stepOf;rw[if_neg (by omega)]
 have T:0<=f:=by simp at g;omega
 obtain⟨i,rfl⟩: ∃i:Nat,f=i:=⟨f.toNat,by omega⟩;refine Aa.mk (s:=a) (AL o rfl) ?_;rw[p.len];refine af.intro (λg=>no ?_) (λg=>?_)
 ·simp_all [stepOf,if_pos,As,LN]
 have N:i<s.prog.steps.length:=by simp at g;omega
 obtain⟨x,D⟩: ∃x,s.prog.steps[i]? =some x:=⟨_,A2 N⟩;have l:stepOf s.prog (i:Int) d=if x.kind=d then some x else none:=by simp_all [stepOf,if_pos,As]
 refine Aa.mk (s:=a) (AL o rfl) (p.idx D λU _ O=>?_);have E:=O 0 _ rfl;rw[add_zero] at E;refine AC.mk E ?_;by_cases n:x.kind=d
 ·rw[if_pos n] at l;have t:(x.kind != d)=false:=by simp[n]
  rw[t];refine C _ _ (af.no rfl (Aa.mk (s:=a) (AL o rfl) (p.idx D λV _ c1=>jj.mk x c1 (aL.mk w (A0 6) λk q r M=>jj.mk x (Dn q rfl) ?_))));have:=u k (B k r);rw[l] at this;exact this
 ·rw[if_neg n] at l;have t:(x.kind != d)=true:=by simp[n]
  rw[t];exact no l
theorem APf {d:Jb}(r:View Ql h a s.prog.steps)(t: ∀i,Ext h i->R (J6 J9 (Jj s.prog d)) i):AA A P QG #[(s.V a b c).v,d.v] h R:=by
 refine ADp ?_;unfold Wt;refine ao.mk λD _ u v E=>ao.mk λw _ j k F=>?_
 have l:=v.trans k;refine Az.mk (s.V a b c) (Ep (k.ag u λh=>h)) (AC.mk (n:=d.step) (AB j rfl) (step_ok (r.ext l) λG m=>ji.mk _ ⟨_,rfl,ao.mk λH _ y z I=>aL.mk y (A0 6) λo g B J=>?_⟩));rw[qh] at g;have p:Ext w o:=(m.trans z).more B λc C=>by subst C;exact m.size
 have:=t o (l.trans p);unfold Jj at this;cases q:stepOf s.prog d.step 1 with
 |none=>rw[q] at this;exact af.yes rfl this
 |some x=>
  rw[q] at g this;refine af.no rfl (AZ.mk (n:=d.aK) (AB (p.ag j λh=>h) rfl) (af.intro (λf=>?_) (λf=>?_)))
  ·have f:d.aK=true:=f;dsimp only at this;rw[if_pos f] at this;exact AC.mk (n:=x.aA) (AB g rfl) this
  ·have f:d.aK=false:=f;dsimp only at this;rw[if_neg (by simp[f])] at this;exact AC.mk (n:=x.tries) (AB g rfl) this
theorem AKO {sl:Sl}{l:List Jb}{i:Nat}(f:Own fB Hg h sl l)(g:i<l.length)(j: ∀d,Own fB Hg d ⟨sl.p,l.length-1,sl.cap⟩ (l.eraseIdx i)->Mod (λb=>sl.ag=some b) h d->R (J4 sl.p (l.length-1) sl.cap) d):
  AA A P Dq #[J4 sl.p sl.len sl.cap,J6 J9 (i:Int),J6 J9 ((i+1:Nat):Int)] h R:=
 Jt (y9 (E:=fB) (zv:=Jb.z.v) qn AUX (by decide) rfl f g j)
theorem AKN {sl:Sl}{l:List Ck}{i:Nat}(f:Own gq Gi h sl l)(g:i<l.length)(j: ∀d,Own gq Gi d ⟨sl.p,l.length-1,sl.cap⟩ (l.eraseIdx i)->Mod (λb=>sl.ag=some b) h d->R (J4 sl.p (l.length-1) sl.cap) d):
  AA A P DR #[J4 sl.p sl.len sl.cap,J6 J9 (i:Int),J6 J9 ((i+1:Nat):Int)] h R:=
 IY (y9 (E:=gq) (zv:=Ck.z.v) qo AUa (by decide) rfl f g j)
theorem nP {h:aa}{b:Nat}{T:Q7}{x i:bF}{K:bF->aa->Prop}(j:h[b]? =some (J2 i.c T (0,0)))(k: ∀d,Mod (· =b) h d->K x d):
  aL h ⟨b,0,none⟩ x.l λf=>Az f ⟨b,0,none⟩ λl=>K l f:=
 aL.mk j (A0 12) λd g m s=>Az.mk x (Ep (by rw[Nn] at g;exact g)) (k d m)
theorem ASk {s:bg}{f turn:Int}{i:Nat}(h:mL s f turn=some i): ∃d,s.au[i]? =some d/\d.id=f/\d.turn=turn:=by
 unfold mL at h;obtain⟨g,j,_⟩:=List.findIdx?_eq_some_iff_getElem.1 h
 simp_all
theorem ARZ(N:KA h s a b c)(W:Own fB Hg h b s.au)(D:s.au.length<=1000)(a3:6<=e.kind/\e.kind<=9)(q:0<=e.turn/\e.turn<=1000)
  (X: ∀y (t:bg) (b':Sl),Mod (λx=>b.ag=some x\/h.size<=x) h y->(∀ x,b'.ag=some x->b.ag=some x\/h.size<=x)->(∀ t',MJ s e=some t'->t=t'/\View fB y b' t'.au)->R (J1 #[(t.V a b' c).v,J3 (MJ s e).isSome]) y):AA A P SE #[(s.V a b c).v,e.v] h R:=by
 refine AFG ?_;unfold YS;refine mj λaq k=>AC.mk (k.bJ (j:=1) rfl) ?_
 have Y:=k.ext;have a4:=Y.size;have a5:=Aj k.b2;have Z: ∀x,b.ag=some x->x<h.size:=λx f=>W.lt f
 have O:MJ s e=none-> ∀ {l:aa},Ext aq l->Az l ⟨h.size,0,none⟩ λt=>aL l ⟨h.size+2,0,none⟩ t.l λF=>Az F ⟨h.size+2,0,none⟩ λab=>R (J1 #[ab.v,J3 false]) F:=λar l x=>by
  refine(k.on x).ret λy x'=>?_
  have:=X y s b x'.mod (λa6 aI=> .inl aI) (λt' q=>by rw[ar] at q;cases q);rw[ar] at this;exact this
 refine af.intro (λz=>?_) (λz=>?_)
 ·have z:e.kind=6:=by simpa using z
  refine k.fg (AC.mk (k.bJ (j:=4) rfl) (step_ok (N.steps.ext Y) λaJ C=>ji.mk _ ⟨_,rfl,ao.mk λQ _ aK ac a7=>aL.mk aK (A0 6) λw ad B aM=>?_⟩));rw[qh] at ad;have S:Ext aq w:=(C.trans ac).more B λc d=>by subst d;exact C.size
  have r:=k.on S;refine ai.mk λK av=>?_
  cases aw:stepOf s.prog e.step 1 with
  |none=>exact af.yes rfl (av _ _ (af.yes rfl (O (by unfold MJ;rw[if_pos z,aw];rfl) S)))
  |some x=>
   rw[aw] at ad;have key: ∀u:Bool,(u=true↔e.aK=true/\x.aK=HZ)->K (u,()) w:=λu ag=>by
    refine av _ _ (af.intro (λo=>O ?_ S) (λo=>?_))
    ·unfold MJ;simp_all
    have o:u=false:=o;have g:MJ s e=some {s with au:=s.au++ [⟨e.id,e.step,e.aK,1⟩]}:=by unfold MJ;simp_all
    refine Aa.mk (s:=b) (r.cR (j:=8) rfl) (AC.mk (r.bJ (j:=0) rfl) (AC.mk (r.bJ (j:=4) rfl) (AZ.mk (r.bJ (j:=6) rfl) ?_)));refine ao.aZ (E:=fB) (x:=⟨e.id,e.step,e.aK,1⟩) (s:=b) rfl qn (W.ext r.ext) (by omega) (by simp only[maxLen];omega) λb' p aN G aO a8=>?_
    have a9:=S.size;have ne: ∀ax,b.ag=some (h.size+ax)->False:=λax f=>by have:=Z _ f;omega
    refine ae.bJ (dK:=(({s with au:=s.au++ [⟨e.id,e.step,e.aK,1⟩]}:bg).V a b' c).c) (G.ag r.b0 (ne 0)) (of_decide_eq_true rfl) rfl λH ah T aP=>?_
    refine Az.mk (({s with au:=s.au++ [⟨e.id,e.step,e.aK,1⟩]}:bg).V a b' c) (Ep ah) (nP (T.ag (G.ag r.b2 (ne 2)) (by omega)) λay aQ=>?_);have aR: ∀x,b'.ag=some x->b.ag=some x\/h.size<=x:=λx f=>(aO x f).imp id λh=>by omega
    have az:Mod (λc=>c=h.size\/c=h.size+2) p ay:=(T.aj λc _ d=> .inl d).trans (aQ.aj λc _ d=> .inr d);have I:=X ay {s with au:=s.au++ [⟨e.id,e.step,e.aK,1⟩]} b' ((r.ext.mod.trans (G.aj λc _ d=> .inl d)).trans (az.aj λc _ d=> .inr (by omega))) aR (λt' q=>?_)
    ·rw[g] at I;exact I
    ·rw[g] at q;cases q;refine⟨rfl,(aN.mod az λx f d=>?_).view⟩
     grind
   refine af.no rfl (AZ.mk (r.bJ (j:=6) rfl) (af.intro (λJ=>?_) (λJ=>?_)))
   ·have J:e.aK=true:=J;refine AJ.mk (n:=x.aK) (AB ad rfl) (key _ ?_);rw[mS,decide_eq_true_eq]
    grind
   ·have J:e.aK=false:=J;exact key _ ⟨(λh=>by cases h),λh=>(by grind)⟩
 have z:e.kind≠6:=by simpa using z
 refine k.fg (k.kG (ATO (N.au.ext Y) (by omega) λaJ C=>⟨_,rfl,?_⟩));cases aA:mL s e.ref e.turn with
 |none=>exact af.yes rfl (O (by unfold MJ;rw[if_neg z,aA];rfl) C)
 |some i=>
  obtain⟨j,L,ba,bb⟩:=ASk aA;have aS:=(List.getElem?_eq_some_iff.1 L).1;have M:=k.on C;show af (decide ((i:Int)<0)) _ _;refine af.no (decide_eq_false (by omega)) ?_;have g:MJ s e=if e.kind=8 then(if e.turn=Jj s.prog j then none else some {s with au:=s.au.set i {j with turn:=j.turn+1}}) else if e.kind=7\/e.turn=Jj s.prog j then some {s with au:=s.au.eraseIdx i,fresh:=true} else none:=by
   unfold MJ
   simp_all
  refine AC.mk (M.bJ (j:=5) rfl) (M.fg (Aa.mk (s:=b) (M.cR (j:=8) rfl) ?_));refine(N.au.ext M.ext).idx L λbc _ aT=>lu.mk j aT ?_
  refine APf (N.steps.ext M.ext) λQ ac=>⟨_,rfl,?_⟩
  have aj:=C.trans ac;have m:=k.on aj;have bd:=aj.size;have U:=W.ext m.ext;refine⟨m.bJ (j:=5) rfl,ai.mk λaU aC=>?_⟩;have yes: ∀ {l:aa} {t:bg} {b':Sl} {S':Nat->Prop},MJ s e=some t->Own fB Hg l b' t.au->Mod (λx=>b.ag=some x\/x=h.size) Q l->l[h.size]? =some (J2 (t.V a b' c).c Av (0,0))->b'.p=b.p->
    Az l ⟨h.size,0,none⟩ λt=>aL l ⟨h.size+2,0,none⟩ t.l λF=>Az F ⟨h.size+2,0,none⟩ λab=>R (J1 #[ab.v,J3 true]) F:=λ{l t b' S'} g aV aD aW be=>by
   have aX: ∀x,b'.ag=some x->b.ag=some x:=λx f=>by grind [Sl.ag]
   refine Az.mk (t.V a b' c) (Ep aW) (nP (aD.ag m.b2 λd=>by
    grind) λy aE=>?_)
   have I:=X y t b' ((m.ext.mod.trans (aD.aj λc _ d=>d.imp id λh=>by omega)).trans (aE.aj λc _ d=> .inr (by omega))) (λx f=> .inl (aX x f)) (λt' q=>?_)
   ·rw[g] at I;exact I
   ·rw[g] at q;cases q;exact⟨rfl,(aV.mod aE λx f d=>by grind).view⟩
  have aF: ¬b.ag=some h.size:=λf=>by have:=Z _ f;omega
  have aG:(MJ s e=if e.kind=7\/(e.kind=9/\e.turn=Jj s.prog j) then some {s with au:=s.au.eraseIdx i,fresh:=true} else none)->aU (false,()) Q:=λV=>by
   refine aC _ _ (af.no rfl (ai.mk λaY aZ=>?_));have ak: ∀u:Bool,(u=true↔e.kind=7\/(e.kind=9/\e.turn=Jj s.prog j))->aY (u,()) Q:=λu ag=>by
    refine aZ _ _ (af.intro (λo=>?_) (λo=>O ?_ aj))
    ·rw[if_pos (ag.1 o)] at V;refine Aa.mk (s:=b) (m.cR (j:=8) rfl) ?_;show AA A P _ #[_,J6 J9 (i:Int),J6 J9 (J8 J9 ((i:Int)+1))] _ _;rw[Ab (by omega)];refine AKO U aS λw al B=>⟨⟨b.p,s.au.length-1,b.cap⟩,rfl,?_⟩
     refine ae.bJ (dK:=(({s with au:=s.au.eraseIdx i}:bg).V a ⟨b.p,s.au.length-1,b.cap⟩ c).c) (B.ag m.b0 aF) (of_decide_eq_true rfl) rfl λp a0 G bf=>?_
     refine ae.bJ (dK:=(({s with au:=s.au.eraseIdx i,fresh:=true}:bg).V a ⟨b.p,s.au.length-1,b.cap⟩ c).c) a0 (of_decide_eq_true rfl) rfl λH ah T aP=>?_
     have aH:=G.trans T;exact yes (t:= {s with au:=s.au.eraseIdx i,fresh:=true}) (b':=⟨b.p,s.au.length-1,b.cap⟩) (S':=λ_=>True) V (al.mod aH λx f d=>by have:=Z x f;omega) ((B.aj λc _ d=> .inl d).trans (aH.aj λc _ d=> .inr d)) ah rfl
    ·have o:u=false:=o;rw[if_neg λh=>by rw[ag.2 h] at o;cases o] at V;exact V
   refine AC.mk (m.bJ (j:=1) rfl) (af.intro (λw=>?_) (λw=>?_))
   ·have am:e.kind=7:=by simpa using w
    exact ak _ (by simp[am])
   ·have am:e.kind≠7:=by simpa using w
    refine AC.mk (m.bJ (j:=1) rfl) (af.intro (λH=>?_) (λH=>?_))
    ·have an:e.kind=9:=by simpa using H
     exact ak _ (by simp[an])
    ·have an:e.kind≠9:=by simpa using H
     exact ak _ (by simp[am,an])
  refine AC.mk (m.bJ (j:=1) rfl) (af.intro (λp=>?_) (λp=>?_))
  ·have p:e.kind=8:=by simpa using p
   rw[if_pos p] at g;by_cases D:e.turn=Jj s.prog j
   ·rw[if_pos D] at g;have ap:(!(e.turn==Jj s.prog j))=false:=by simp[D]
    rw[ap];exact aG (by rw[g,if_neg (by omega)])
   ·rw[if_neg D] at g;have ap:(!(e.turn==Jj s.prog j))=true:=by simp[D]
    rw[ap];refine aC _ _ (af.yes rfl (Aa.mk (s:=b) (m.cR (j:=8) rfl) (U.view.idx L λbh _ c1=>AC.mk (n:=j.turn) (c1 3 _ rfl) (U.view.idx L λa1 a2 _=>?_))));rw[wrap_i64 (by omega) (by omega)];refine Own.store (E:=fB) (i:=i) (j:=3) (x:=j) (x':= {j with turn:=j.turn+1}) (v:=J6 J9 (j.turn+1)) U L rfl (by decide) (λw al B aM=>?_) a1 a2;exact yes (t:= {s with au:=s.au.set i {j with turn:=j.turn+1}}) (b':=b) (S':=λ_=>True) g al (B.aj λc _ d=> .inl d) (B.ag m.b0 aF) rfl
  ·have p:e.kind≠8:=by simpa using p
   rw[if_neg p] at g;refine aG ?_;rw[g];have:(e.kind=7\/e.turn=Jj s.prog j)↔(e.kind=7\/e.kind=9/\e.turn=Jj s.prog j):=by omega
   simp only[this]
theorem AQM(ab:KA h s a b c)(M:Own gq Gi h c s.ak)(aH:s.ak.length<=1000)(aI:e.kind=10\/e.kind=11)(k:0<=e.tick/\e.tick<=1099511627776)(an: ∀x,stepOf s.prog e.step 2=some x->0<=x.wait/\x.wait<=1099511627776)
  (N: ∀v (t:bg) (o:Sl),Mod (λx=>c.ag=some x\/h.size<=x) h v->(∀ x,o.ag=some x->c.ag=some x\/h.size<=x)->(∀ t',Kh s e=some t'->t=t'/\View gq v o t'.ak)->R (J1 #[(t.V a b o).v,J3 (Kh s e).isSome]) v):AA A P Qb #[(s.V a b c).v,e.v] h R:=by
 refine ADM ?_;unfold WO;refine mj λO f=>AC.mk (f.bJ (j:=1) rfl) ?_
 have Q:=f.ext;have aJ:=Q.size;have aK:=Aj f.b2;have ac: ∀x,c.ag=some x->x<h.size:=λx g=>M.lt g
 have ad:Kh s e=none-> ∀ {w:aa},Ext O w->Az w ⟨h.size,0,none⟩ λt=>aL w ⟨h.size+2,0,none⟩ t.l λag=>Az ag ⟨h.size+2,0,none⟩ λap=>R (J1 #[ap.v,J3 false]) ag:=λah w x=>by
  refine(f.on x).ret λv aq=>?_
  have:=N v s c aq.mod (λaM ar=> .inl ar) (λt' k=>by rw[ah] at k;cases k);rw[ah] at this;exact this
 have H: ∀q,c.ag=some (h.size+q)->False:=λq g=>by have:=ac _ g;omega
 refine af.intro (λl=>?_) (λl=>?_)
 ·have l:e.kind=10:=by simpa using l
  refine f.fg (AC.mk (f.bJ (j:=4) rfl) (step_ok (ab.steps.ext Q) λS m=>ji.mk _ ⟨_,rfl,ao.mk λaN _ I au aO=>aL.mk I (A0 6) λT U y aP=>?_⟩));rw[qh] at U;have V:Ext O T:=(m.trans au).more y λc d=>by subst d;exact m.size
  have r:=f.on V;cases J:stepOf s.prog e.step 2 with
  |none=>
   refine ai.mk λK W=>?_
   exact af.no rfl (W _ _ (ad (by unfold Kh;rw[if_pos l,J];rfl) V))
  |some x=>
   refine ai.mk λK W=>?_
   rw[J] at U;obtain⟨aQ,aR⟩:=an x J;have z:Kh s e=some {s with ak:=s.ak++ [⟨e.id,e.step,e.tick+x.wait⟩]}:=by unfold Kh;rw[if_pos l,J];rfl
   refine af.yes rfl (Aa.mk (s:=c) (r.cR (j:=9) rfl) (AC.mk (r.bJ (j:=0) rfl) (AC.mk (r.bJ (j:=4) rfl) (AC.mk (r.bJ (j:=2) rfl) (AC.mk (n:=x.wait) (AB U rfl) ?_)))));rw[wrap_i64 (by omega) (by omega)];refine ao.aZ (E:=gq) (x:=⟨e.id,e.step,e.tick+x.wait⟩) (s:=c) rfl qo (M.ext r.ext) (by omega) (by simp only[maxLen];omega) λo aj av B aw aS=>?_
   have aT:=V.size;refine ae.bJ (dK:=(({s with ak:=s.ak++ [⟨e.id,e.step,e.tick+x.wait⟩]}:bg).V a b o).c) (B.ag r.b0 (H 0)) (of_decide_eq_true rfl) rfl λax X L ay=>?_
   refine W _ _ (Az.mk (({s with ak:=s.ak++ [⟨e.id,e.step,e.tick+x.wait⟩]}:bg).V a b o) (Ep X) (nP (L.ag (B.ag r.b2 (H 2)) (by omega)) λC Y=>?_));have az: ∀x,o.ag=some x->c.ag=some x\/h.size<=x:=λx g=>(aw x g).imp id λh=>by omega
   have D:Mod (λc=>c=h.size\/c=h.size+2) aj C:=(L.aj λc _ d=> .inl d).trans (Y.aj λc _ d=> .inr d);have F:=N C {s with ak:=s.ak++ [⟨e.id,e.step,e.tick+x.wait⟩]} o ((r.ext.mod.trans (B.aj λc _ d=> .inl d)).trans (D.aj λc _ d=> .inr (by omega))) az (λt' k=>?_)
   ·rw[z] at F;exact F
   ·rw[z] at k;cases k;refine⟨rfl,(av.mod D λx g d=>?_).view⟩
    grind
 have l:e.kind≠10:=by simpa using l
 have aA:O[h.size+1]? =some (J2 e.c Ah (0,0)):=f.b1;refine Aa.mk (s:=c) (f.cR (j:=9) rfl) (ARr (p:=λq=>decide (q.id=e.ref)&&decide (q.tick<=e.tick)) (ab.ak.ext Q) (by omega) (λx w aU aC aD=>?_) λS m=>⟨_,rfl,?_⟩)
 ·refine Em.func (first:= #[]) (bW:= #[Ar (h.size+1)]) (by kernel_rfl) (AAk ?_);unfold TM;refine ao.mk λS _ al m aV=>?_
  have I:=(aC.trans m).ag aA λh=>h
  have:=aD S m;refine AC.mk (n:=x.id) (AL al rfl) (AC.mk (n:=e.ref) (AB I rfl) (af.intro (λu=>?_) (λu=>?_)))
  ·have u:x.id=e.ref:=by simpa using u
   rw[decide_eq_true u,G3] at this;exact AC.mk (n:=e.tick) (AB I rfl) (AC.mk (n:=x.tick) (AB al rfl) this)
  ·have u:x.id≠e.ref:=by simpa using u
   rw[decide_eq_false u,Ge] at this;exact this
 cases Z:(s.ak.findIdx? λq=>decide (q.id=e.ref)&&decide (q.tick<=e.tick)) with
 |none=>exact af.yes rfl (ad (by unfold Kh;rw[if_neg l,Z];rfl) m)
 |some i=>
  have aE:i<s.ak.length:=(List.findIdx?_eq_some_iff_getElem.1 Z).1;have z:Kh s e=some {s with ak:=s.ak.eraseIdx i,fresh:=true}:=by unfold Kh;rw[if_neg l,Z];rfl
  have G:=f.on m;have aW:=m.size;show af (decide ((i:Int)<0)) _ _;refine af.no (decide_eq_false (by omega)) (Aa.mk (s:=c) (G.cR (j:=9) rfl) ?_);show AA A P _ #[_,J6 J9 (i:Int),J6 J9 (J8 J9 ((i:Int)+1))] _ _;rw[Ab (by omega)];refine AKN (M.ext G.ext) aE λT aF y=>⟨⟨c.p,s.ak.length-1,c.cap⟩,rfl,?_⟩
  refine ae.bJ (dK:=(({s with ak:=s.ak.eraseIdx i}:bg).V a b ⟨c.p,s.ak.length-1,c.cap⟩).c) (y.ag G.b0 (H 0)) (of_decide_eq_true rfl) rfl λaj aG B aX=>?_
  refine ae.bJ (dK:=(({s with ak:=s.ak.eraseIdx i,fresh:=true}:bg).V a b ⟨c.p,s.ak.length-1,c.cap⟩).c) aG (of_decide_eq_true rfl) rfl λax X L ay=>?_
  have am:=B.trans L;refine Az.mk (({s with ak:=s.ak.eraseIdx i,fresh:=true}:bg).V a b ⟨c.p,s.ak.length-1,c.cap⟩) (Ep X) (nP (am.ag (y.ag G.b2 (H 2)) (by omega)) λC Y=>?_);have D:Mod (λc=>c=h.size\/c=h.size+2) T C:=(am.aj λc _ d=> .inl d).trans (Y.aj λc _ d=> .inr d);have F:=N C {s with ak:=s.ak.eraseIdx i,fresh:=true} ⟨c.p,s.ak.length-1,c.cap⟩ ((G.ext.mod.trans (y.aj λc _ d=> .inl d)).trans (D.aj λc _ d=> .inr (by omega))) (λx g=> .inl g) (λt' k=>?_)
  ·rw[z] at F;exact F
  ·rw[z] at k;cases k;exact⟨rfl,(aF.mod D λx g d=>by have:=ac x g;omega).view⟩
end
theorem VQ {A:al}{m:Type}{E:cJ m}{t T:Q7}{n:Nat}(w:QZ P t T E.w n=true){h:aa}{s:Sl}{l:List m}{R:A2L}(v:View E h s l)(y:l.length*n<=140737488355328)(z:l.length<=maxLen)
  (o: ∀d i,Own E T i d l->(∀ c,d.ag=some c->h.size<=c)->Ext h i->R (J4 d.p d.len d.cap) i):
  af (s.p.isNone) (R (J4 none 0 0) h) (ao h (J2 #[] T) λb j=>BG A P (Builtin.append_ #[t,t] t #[J4 (some (⟨b,0,none⟩:Q6)) 0 0,J4 s.p s.len s.cap]) j λv k=> ∃f:Sl,v=J4 f.p f.len f.cap/\R (J4 f.p f.len f.cap) k):=by
 refine af.intro (λp=>?_) (λp=>?_)
 ·have B:s.p=none:=by simpa using p
  have:l= []:=by
   cases l with
   |nil=>rfl
   |cons x l=>
    obtain⟨a,q,_⟩:=v.cells 0 x rfl;rw[B] at q;cases q
  subst this;exact o ⟨none,0,0⟩ h Own.nil (λc g=>by simp[Sl.ag] at g) Mod.refl
 ·refine ao.mk λj _ C r I=>?_
  have D:Own E T j ⟨some ⟨h.size,0,none⟩,0,0⟩ []:=Own.lit (E:=E) (l:= []) C rfl (by simp[maxLen]);refine GJ (s:=⟨some ⟨h.size,0,none⟩,0,0⟩) w D (v.ext r) (by simpa using y) (by simpa using z) λd k F G H _=>o d k F (λc g=>?_) (r.more G λc g=>?_)
  ·rcases H c g with u|u
   ·have e:h.size=c:=by simpa [Sl.ag] using u
    omega
   ·omega
  ·have e:h.size=c:=by simpa [Sl.ag] using g
   omega
section
variable {A : al} {h : aa} {R : A2L} {s : bg} {e : Ev} {a b c : Sl}
theorem AMl {x:Sl}{l:List Jb}(v:View fB h x l)(i:l.length<=1000)(g: ∀d f,Own fB Hg f d l->(∀ c,d.ag=some c->h.size<=c)->Ext h f->R (J4 d.p d.len d.cap) f):AA A P EA #[J4 x.p x.len x.cap] h R:=by refine KC ?_;unfold F5;exact VQ qn v (by omega) (by simp only[maxLen];omega) g
theorem AN6 {x:Sl}{l:List Ck}(v:View gq h x l)(i:l.length<=1000)(g: ∀d f,Own gq Gi f d l->(∀ c,d.ag=some c->h.size<=c)->Ext h f->R (J4 d.p d.len d.cap) f):AA A P DX #[J4 x.p x.len x.cap] h R:=by refine Ip ?_;unfold FC;exact VQ qo v (by omega) (by simp only[maxLen];omega) g
theorem ANZ {x:Sl}{l:List bQ}(v:View Ql h x l)(i:l.length<=1000)(g: ∀d f,Own Ql Bv f d l->(∀ c,d.ag=some c->h.size<=c)->Ext h f->R (J4 d.p d.len d.cap) f):AA A P Dm #[J4 x.p x.len x.cap] h R:=by refine JU ?_;unfold Fb;exact VQ yI v (by omega) (by simp only[maxLen];omega) g
structure jc (h:aa) (n:Nat) (t:bg) (a b c:Sl) (b' c':Sl):Prop where
 at':KA h t a b' c'
 fb: ∀x,b'.ag=some x->b.ag=some x\/n<=x
 fc: ∀x,c'.ag=some x->c.ag=some x\/n<=x
theorem nQ {x:Nat}{P:Prop}(h:(⟨none,0,0⟩:Sl).ag=some x):P:=by simp[Sl.ag] at h
theorem ANV(k:KA h s a b c)(ad:e.kind=1\/12<=e.kind)(W:e.kind=14->0<=s.bd+s.prog.az/\s.bd+s.prog.az<=9223372036854775807)
  (T: ∀f (t:bg) (m n:Sl),Ext h f->(∀ t',KL s e=some t'->t=t'/\jc f h.size t' a b c m n)->R (J1 #[(t.V a m n).v,J3 (KL s e).isSome]) f):AA A P SV #[(s.V a b c).v,e.v] h R:=by
 refine AEu ?_;unfold YB;refine mj λM d=>AC.mk (d.bJ (j:=1) rfl) (ai.mk λK X=>?_)
 have yes: ∀ {t:bg} {hh:aa} {m n:Sl},(∀ x,m.ag=some x->b.ag=some x\/h.size<=x)->(∀ x,n.ag=some x->c.ag=some x\/h.size<=x)->KA h t a m n->KL s e=some t-> ∀f,Ext h f->R (J1 #[(t.V a m n).v,J3 true]) f:=λ{t hh m n} Y Z N v f x=>by
  have:=T f t m n x (λt' E=>by rw[v] at E;cases E;exact⟨rfl,⟨N.ext x,Y,Z⟩⟩);rw[v] at this;exact this
 have O: ∀ {t:bg} {hh:aa},D3 h hh Av Ah Av (t.V a b c) e bF.z->KA h t a b c->KL s e=some t->K () hh:=λ{t hh} d N v=>
  X _ _ (d.ret λf x=>yes (hh:=hh) (λ_ h=> .inl h) (λ_ h=> .inl h) N v f x)
 have no: ∀(t:bg) (m n:Sl),KL s e=none-> ∀f,Ext h f->R (J1 #[(t.V a m n).v,J3 false]) f:=λt m n v f x=>by
  have:=T f t m n x (λt' E=>by rw[v] at E;cases E);rw[v] at this;exact this
 have U: ∀r,KA h (Zk s r) a ⟨none,0,0⟩ ⟨none,0,0⟩:=λr=>⟨k.steps,View.nil,View.nil⟩
 refine af.intro (λg=>?_) (λg=>?_)
 ·have g:e.kind=12:=by simpa using g
  refine d.set (x':=({s with fresh:=true}:bg).V a b c) (by decide) rfl λC F=>O F ⟨k.steps,k.au,k.ak⟩ ?_
  unfold KL;rw[if_pos g]
 have g:e.kind≠12:=by simpa using g
 refine af.intro (λi=>?_) (λi=>?_)
 ·have i:e.kind=13:=by simpa using i
  refine AZ.mk (d.cR (j:=10) rfl) (af.intro (λw=>?_) (λw=>?_))
  ·have w:s.cancel=true:=w;refine d.ret (no s b c ?_);unfold KL;rw[if_neg g,if_pos i,if_pos w]
  ·have w:s.cancel=false:=w;refine d.set (x':=({s with cancel:=true}:bg).V a b c) (by decide) rfl λC F=>F.set (x':=({s with cancel:=true,fresh:=true}:bg).V a b c) (by decide) rfl λH Q=>O Q ⟨k.steps,k.au,k.ak⟩ ?_
   unfold KL;rw[if_neg g,if_pos i,if_neg (by simp[w])]
 have i:e.kind≠13:=by simpa using i
 refine af.intro (λl=>?_) (λl=>?_)
 ·have l:e.kind=14:=by simpa using l
  obtain⟨ae,ag⟩:=W l;refine ai.mk λab ac=>?_
  have key: ∀(I:Bool),(I=true↔s.aQ=true\/s.prog.az=0\/e.tick<s.bd+s.prog.az)->ab (I,()) M:=λI V=>by
   refine ac _ _ (af.intro (λD=>?_) (λD=>?_))
   ·refine d.ret (no s b c ?_);unfold KL;rw[if_neg g,if_neg i,if_pos l,if_pos (V.1 D)]
   ·have D:I=false:=D;refine d.set (x':=({s with aQ:=true}:bg).V a b c) (by decide) rfl λC F=>F.set (x':=({s with aQ:=true,fresh:=true}:bg).V a b c) (by decide) rfl λH Q=>O Q ⟨k.steps,k.au,k.ak⟩ ?_
    unfold KL;rw[if_neg g,if_neg i,if_pos l,if_neg λh=>by rw[V.2 h] at D;cases D]
  refine AZ.mk (d.cR (j:=11) rfl) (af.intro (λy=>?_) (λy=>?_))
  ·have y:s.aQ=true:=y;exact key _ (by simp[y])
  have y:s.aQ=false:=y;refine AC.mk (d.cR (j:=1) rfl) (af.intro (λz=>?_) (λz=>?_))
  ·have z:s.prog.az=0:=by simpa using z
   exact key _ (by simp[z])
  have z:s.prog.az≠0:=by simpa using z
  refine AC.mk (d.bJ (j:=2) rfl) (AC.mk (d.cR (j:=4) rfl) (AC.mk (d.cR (j:=1) rfl) (key _ ?_)));dsimp only;rw[wrap_i64 (by omega) (by omega)];simp[y,z]
 have l:e.kind≠14:=by simpa using l
 refine af.intro (λo=>?_) (λo=>?_)
 ·have o:e.kind=18:=by simpa using o
  refine d.fg (X7 λC p=>Hw.mk _ ⟨rfl,(d.on p).tell λf x=>yes (hh:=M) (λ_ h=>nQ h) (λ_ h=>nQ h) (U 4) ?_ f x⟩);unfold KL;rw[if_neg g,if_neg i,if_neg l,if_pos o]
 have o:e.kind≠18:=by simpa using o
 have S: ∀(r:Int),(KL s e=if PU s then some (Zk s r) else none)-> ∀f,Ext h f->R (J1 #[((Zk s r).V a ⟨none,0,0⟩ ⟨none,0,0⟩).v,J3 (decide (PU s))]) f:=λr J f x=>by
  by_cases L:PU s
  ·rw[if_pos L] at J;rw[decide_eq_true L];exact yes (hh:=M) (λ_ h=>nQ h) (λ_ h=>nQ h) (U r) J f x
  ·rw[if_neg L] at J;rw[decide_eq_false L];exact no (Zk s r) ⟨none,0,0⟩ ⟨none,0,0⟩ J f x
 refine af.intro (λq=>?_) (λq=>?_)
 ·have q:e.kind=15:=by simpa using q
  refine d.fg (d.fg (X7 λC p=>Hw.mk _ ⟨rfl,(d.on p).jw,qi k.au.len λH G=>⟨_,rfl,((d.on p).on G).tell (S 1 ?_)⟩⟩));unfold KL;rw[if_neg g,if_neg i,if_neg l,if_neg o,if_pos q]
 have q:e.kind≠15:=by simpa using q
 refine af.intro (λu=>?_) (λu=>?_)
 ·have u:e.kind=16:=by simpa using u
  refine d.fg (d.fg (X7 λC p=>Hw.mk _ ⟨rfl,(d.on p).jw,qi k.au.len λH G=>⟨_,rfl,((d.on p).on G).tell (S 2 ?_)⟩⟩));unfold KL;rw[if_neg g,if_neg i,if_neg l,if_neg o,if_neg q,if_pos u]
 have u:e.kind≠16:=by simpa using u
 refine af.intro (λB=>?_) (λB=>?_)
 ·have B:e.kind=17:=by simpa using B
  refine d.fg (d.fg (X7 λC p=>Hw.mk _ ⟨rfl,(d.on p).jw,qi k.au.len λH G=>⟨_,rfl,((d.on p).on G).tell (S 3 ?_)⟩⟩));unfold KL;rw[if_neg g,if_neg i,if_neg l,if_neg o,if_neg q,if_neg u,if_pos B]
 have B:e.kind≠17:=by simpa using B
 refine d.ret (no s b c ?_);unfold KL;rw[if_neg g,if_neg i,if_neg l,if_neg o,if_neg q,if_neg u,if_neg B]
theorem ANm {e:Ev}(h:Dl e=true):0<=e.turn/\e.turn<=5:=by
 have d:=GY h;unfold En at d;simp only[A3] at d;have:=d.1.1.2;unfold dc at this;split at this
 ·have:=Bd.1 this;omega
 ·have:=of_decide_eq_true this;omega
theorem AKG {p:cn}{f g:Int}{x:bQ}(h:stepOf p f g=some x):x∈p.steps:=by
 unfold stepOf at h;split at h
 ·obtain⟨j,i,d⟩:=Option.bind_eq_some_iff.1 h;split at d
  ·cases d;exact AM i
  ·cases d
 ·cases h
theorem qs {n:Nat}(aK:KA h s a b c)(M:Ea s n)(bO:n<=600)(hd:e.data.size<1099511627776)
  (aM: ∀O y k l,Ext h O->KA O (Bh s e).2 y k l->(∀ x,y.ag=some x\/k.ag=some x\/l.ag=some x->h.size<=x)->R (J1 #[((Bh s e).2.V y k l).v,J6 J9 (Bh s e).1]) O):AA A P KJ #[(s.V a b c).v,e.v] h R:=by
 refine AEV ?_;unfold Wx;refine mj λbP al=>al.kG (sd hd λa1 bn=>⟨_,rfl,?_⟩)
 have q:=al.on bn;have bo: ∀x,(⟨none,0,0⟩:Sl).ag=some x\/(⟨none,0,0⟩:Sl).ag=some x\/(⟨none,0,0⟩:Sl).ag=some x->h.size<=x:=λx d=>by simp[Sl.ag] at d
 have aq: ∀(n:Int),Bh s e=(n,UI)-> ∀O,Ext h O->R (J1 #[bF.z.v,J6 J9 n]) O:=λn a2 O x=>by
  have:=aM O ⟨none,0,0⟩ ⟨none,0,0⟩ ⟨none,0,0⟩ x (by rw[a2];exact⟨View.nil,View.nil,View.nil⟩) bo;rw[a2] at this;exact this
 refine af.intro (λD=>?_) (λD=>?_)
 ·have I:Dl e=false:=by
   cases E:Dl e with
   |false=>rfl
   |true=>rw[E] at D;simp at D
  exact q.tell (aq 120 (by unfold Bh;rw[if_pos I]))
 have I:Dl e=true:=by
  cases E:Dl e with
  |true=>rfl
  |false=>rw[E] at D;simp at D
 obtain⟨bQ,bR,bp,bq,_⟩:=R5 I;refine AC.mk (q.cR (j:=3) rfl) (af.intro (λF=>?_) (λF=>?_))
 ·have F:s.next=0:=by simpa using F
  refine ai.mk λK br=>?_
  have key: ∀aA:Bool,(aA=true↔ ¬(e.kind=1/\e.id=1))->K (aA,()) a1:=λaA a3=>by
   refine br _ _ (af.intro (λD=>?_) (λD=>?_))
   ·exact q.tell (aq 120 (by unfold Bh;rw[if_neg (by simp[I]),if_pos F,if_neg (a3.1 D)]))
   ·have D:aA=false:=D;have m:e.kind=1/\e.id=1:=Decidable.byContradiction λh=>by rw[a3.2 h] at D;cases D
    obtain⟨p,aN,bS⟩:=bq m.1;refine AJ.mk (q.bJ (j:=7) rfl) (yM hd λaC sl aD aO=>?_);obtain⟨aO,a4⟩:=aO p aN;rw[aN];refine⟨sl,p.az,0,rfl,?_⟩;have V:=q.on aD;refine ao.mk λaP _ bs W bt=>?_
    have a5:=V.on W;have bT:=V.b2;refine ae.two bs λa6 a7 X bu=>?_
    have a8:Ext aC a6:=W.more X λc g=>by subst g;exact A0 _
    have am:=V.on a8;refine Aa.mk (s:=sl) (AL a7 rfl) (AC.mk (AB a7 rfl) (AC.mk (am.bJ (j:=2) rfl) (am.iY λa9 Q bv=>?_)));have ar:Bh s e=(0,Xm e):=by unfold Bh;rw[if_neg (by simp[I]),if_pos F,if_pos m]
    have ba:Xm e=⟨p,0,2,e.tick,0,0,true,[],[],false,false⟩:=by unfold Xm;rw[aN];rfl
    have bU:=q.ext.size;have:=aM a9 sl ⟨none,0,0⟩ ⟨none,0,0⟩ Q (by rw[ar,ba];exact⟨(aO.ext a8).mod bv (λc g i=>by have:=a4 c g;have:=Aj q.b2;omega),View.nil,View.nil⟩) (λx d=>by
     rcases d with d|d|d
     ·have:=a4 x d;omega
     ·simp[Sl.ag] at d
     ·simp[Sl.ag] at d)
    rw[ar,ba] at this;exact this
  refine AC.mk (q.bJ (j:=1) rfl) (af.intro (λm=>key _ (by simp at m;simp[m])) (λm=>AC.mk (q.bJ (j:=0) rfl) (key _ (by simp at m;simp[m]))))
 have F:s.next≠0:=by simpa using F
 refine AC.mk (q.cR (j:=2) rfl) (af.intro (λm=>?_) (λm=>?_))
 ·have m:s.status≠0:=by simpa using m
  exact q.tell (aq 182 (by unfold Bh;rw[if_neg (by simp[I]),if_neg F,if_pos m]))
 have m:s.status=0:=by simpa using m
 refine AC.mk (q.bJ (j:=0) rfl) (AC.mk (q.cR (j:=3) rfl) (af.intro (λS=>?_) (λS=>?_)))
 ·have S:e.id≠s.next:=by simpa using S
  exact q.tell (aq 120 (by unfold Bh;rw[if_neg (by simp[I]),if_neg F,if_neg (by simp[m]),if_pos S]))
 have S:e.id=s.next:=by simpa using S
 refine Aa.mk (s:=b) (q.cR (j:=8) rfl) (Aa.mk (s:=c) (q.cR (j:=9) rfl) (AMl ((aK.ext q.ext).au) (by have:=M.au;omega) λk aC aQ Y aD=>⟨_,rfl,?_⟩));have V:=q.on aD;refine⟨V.cR (j:=9) rfl,AN6 ((aK.ext V.ext).ak) (by have:=M.ak;omega) λl aP aR Z W=>⟨_,rfl,?_⟩⟩;have a5:=V.on W;have bV:=Aj q.b2;have bW:=aD.size;have bt:=W.size;refine a5.iB (x':=s.V a k c) (by decide) rfl λbX bw au=>bw.iB (x':=s.V a k l) (by decide) rfl λa6 am X=>?_
 have bY:=au.size;have bu:=X.size;refine Aa.mk (s:=a) (am.cR (j:=0) rfl) (ANZ ((aK.ext am.ext).steps) (by have:=M.steps;omega) λy a9 bb bc Q=>⟨_,rfl,?_⟩);have bx:=am.on Q;refine bx.pz (x':=s.V y k l) rfl λz r ab=>AC.mk (r.bJ (j:=1) rfl) ?_
 have T:KA z s y k l:=by have av:=(((aQ.view.ext W).mod au (λx d i=>by have:=Y x d;omega)).mod X (λx d i=>by have:=Y x d;omega));have vc:=((aR.view.mod au (λx d i=>by have:=Z x d;omega)).mod X (λx d i=>by have:=Z x d;omega));exact⟨bb.view.mod ab (λx d i=>by have:=bc x d;omega),(av.ext Q).mod ab (λx d i=>by have:=Y x d;omega),(vc.ext Q).mod ab (λx d i=>by have:=Z x d;omega)⟩
 have bz:Own fB Hg z k s.au:=((((aQ.ext W).mod au (λx d i=>by have:=Y x d;omega)).mod X (λx d i=>by have:=Y x d;omega)).ext Q).mod ab (λx d i=>by have:=Y x d;omega);have bA:Own gq Gi z l s.ak:=(((aR.mod au (λx d i=>by have:=Z x d;omega)).mod X (λx d i=>by have:=Z x d;omega)).ext Q).mod ab (λx d i=>by have:=Z x d;omega);have an: ∀x,k.ag=some x->a1.size<=x/\x<aC.size:=λx d=>⟨Y x d,aQ.lt d⟩
 have ap: ∀x,l.ag=some x->aC.size<=x/\x<aP.size:=λx d=>⟨Z x d,aR.lt d⟩
 have aS: ∀x,y.ag=some x->aP.size<=x/\x<z.size:=λx d=>⟨by have:=bc x d;omega,by have:=bb.lt d;have:=ab.size;omega⟩
 have bZ:=Q.size;have b0:=ab.size;have fr: ∀(eo ey:Sl),(∀ x,eo.ag=some x->k.ag=some x\/h.size+3<=x)->(∀ x,ey.ag=some x->l.ag=some x\/h.size+3<=x)-> ∀x,y.ag=some x\/eo.ag=some x\/ey.ag=some x->h.size+3<=x:=λeo ey i g x d=>by
  rcases d with d|d|d
  ·have:=aS x d;omega
  ·rcases i x d with h|h
   ·have:=an x h;omega
   ·omega
  ·rcases g x d with h|h
   ·have:=ap x h;omega
   ·omega
 refine ai.mk λaT bB=>?_
 have key: ∀ {o:Option bg} {t:bg} {eo ey:Sl} {B:aa},PM s e=o.map (λt=> {t with next:=s.next+1})->(∀ t',o=some t'->t=t'/\t'.next=s.next/\jc B (h.size+3) t' y k l eo ey)->D3 h B Av Ah Av (t.V y eo ey) e bF.z->aT (o.isSome,()) B:=λ{o t eo ey B} bd aU al=>by
  refine bB _ _ ?_;cases o with
  |none=>
   refine af.yes rfl (al.tell (aq 120 ?_));unfold Bh;rw[if_neg (by simp[I]),if_neg F,if_neg (by simp[m]),if_neg (by simp[S]),bd];rfl
  |some t'=>
   obtain⟨rfl,bC,L⟩:=aU t' rfl;have u:=fr eo ey L.fb L.fc;have b1:=M.next;refine af.no rfl (AC.mk (al.cR (j:=3) rfl) ?_);rw[wrap_i64 (by show _<=t.next+1;omega) (by show t.next+1<=_;omega)];refine al.iB (x':=({t with next:=s.next+1}:bg).V y eo ey) (by decide) (by rw[<- bC];rfl) λaE N bD=>N.pA λaw bE C=>?_
   have ar:Bh s e=(0,{t with next:=s.next+1}):=by unfold Bh;rw[if_neg (by simp[I]),if_neg F,if_neg (by simp[m]),if_neg (by simp[S]),bd];rfl
   have:=aM aw y eo ey bE (by
    rw[ar];have J:=L.at'.mod bD (λx d i=>by have:=u x (.inl d);omega) (λx d i=>by have:=u x (.inr (.inl d));omega) (λx d i=>by have:=u x (.inr (.inr d));omega);have U:=J.mod C (λx d i=>by have:=u x (.inl d);omega) (λx d i=>by have:=u x (.inr (.inl d));omega) (λx d i=>by have:=u x (.inr (.inr d));omega);exact⟨U.steps,U.au,U.ak⟩) (λx d=>by have:=u x d;omega)
   rw[ar] at this;exact this
 refine ai.mk λbe aF=>?_
 have aG:2<=e.kind/\e.kind<=5->be (true,()) z:=λaH=>by
  refine aF _ _ (af.yes rfl (r.fg (r.kG (AIr aH λaE aI=>Hw.mk _ ⟨_,rfl,?_⟩))));have N:=r.on aI;refine N.ni λaw ac C=>key (o:=Dv s e) (t:=(Dv s e).getD s) (eo:=k) (ey:=l) (by unfold PM;rw[if_pos aH]) (λt' G=>?_) ac
  rw[G,GB];obtain⟨J,U,aJ,bf⟩:=Qa G;have aV:=(T.ext aI).mod C (λx d i=>by have:=fr k l (λ_ h=> .inl h) (λ_ h=> .inl h) x (.inl d);omega) (λx d i=>by have:=fr k l (λ_ h=> .inl h) (λ_ h=> .inl h) x (.inr (.inl d));omega) (λx d i=>by have:=fr k l (λ_ h=> .inl h) (λ_ h=> .inl h) x (.inr (.inr d));omega);exact⟨rfl,J.next,⟨by rw[J.prog];exact aV.steps,by rw[U];exact aV.au,by rw[aJ];exact aV.ak⟩,λ_ h=> .inl h,λ_ h=> .inl h⟩
 have bG:e.kind=1\/12<=e.kind->be (false,()) z:=λaH=>by
  refine aF _ _ (af.no rfl (ai.mk λaW ax=>?_));have H: ∀ {n:Int},6<=n->n<=11->(e.kind==n)=false:=λ{n} bH bI=>by simp;omega
  refine af.no (H (by decide) (by decide)) (af.no (H (by decide) (by decide)) (af.no (H (by decide) (by decide)) ?_));rw[H (n:=9) (by decide) (by decide)];refine ax _ _ (af.no rfl (ai.mk λbh aX=>af.no (H (by decide) (by decide)) ?_));rw[H (n:=11) (by decide) (by decide)];refine aX _ _ (af.no rfl (r.fg (r.kG (ANV T aH (λ_=>by have:=M.bd;have:=M.az;omega) λaE t eo ey aI aU=>Hw.mk _ ⟨_,rfl,?_⟩))));have N:=r.on aI;refine N.ni λaw ac C=>key (o:=KL s e) (t:=t) (by unfold PM;rw[if_neg (by omega),if_neg (by omega),if_neg (by omega)]) (λt' G=>?_) ac
  obtain⟨rfl,L⟩:=aU t' G;have ay: ∀x,eo.ag=some x->k.ag=some x\/h.size+3<=x:=λx d=>(L.fb x d).imp id λh=>by omega
  have az: ∀x,ey.ag=some x->l.ag=some x\/h.size+3<=x:=λx d=>(L.fc x d).imp id λh=>by omega
  have u:=fr eo ey ay az;exact⟨rfl,(xZ G).1.next,L.at'.mod C (λx d i=>by have:=u x (.inl d);omega) (λx d i=>by have:=u x (.inr (.inl d));omega) (λx d i=>by have:=u x (.inr (.inr d));omega),ay,az⟩
 refine af.intro (λad=>?_) (λad=>?_)
 ·have b2:e.kind=2:=by simpa using ad
  have ad:(e.kind==(2:Int))=true:=ad;rw[ad];exact aG (by omega)
 refine af.intro (λag=>?_) (λag=>?_)
 ·have b3:e.kind=3:=by simpa using ag
  have ag:(e.kind==(3:Int))=true:=ag;rw[ag];exact aG (by omega)
 refine af.intro (λah=>?_) (λah=>?_)
 ·have b4:e.kind=4:=by simpa using ah
  have ah:(e.kind==(4:Int))=true:=ah;rw[ah];exact aG (by omega)
 have ad:e.kind≠2:=by simpa using ad
 have ag:e.kind≠3:=by simpa using ag
 have ah:e.kind≠4:=by simpa using ah
 cases aY:(e.kind==(5:Int)) with
 |true=>
  have:e.kind=5:=by simpa using aY
  exact aG (by omega)
 |false=>
  have aY:e.kind≠5:=by simpa using aY
  by_cases aZ:6<=e.kind/\e.kind<=9
  ·have bJ: ∀ {B:aa} {t:bg} {eo:Sl},Mod (λx=>k.ag=some x\/z.size<=x) z B->(∀ x,eo.ag=some x->k.ag=some x\/z.size<=x)->(∀ t',MJ s e=some t'->t=t'/\View fB B eo t'.au)->aL B ⟨h.size,0,none⟩ (t.V y eo l).l λm=>aT ((MJ s e).isSome,()) m:=λ{B t eo} w f E=>by
    have aj: ∀v,v<h.size+3-> ¬(k.ag=some v\/z.size<=v):=λv bK h=>by
     rcases h with h|h
     ·have:=an v h;omega
     ·omega
    have N:D3 h B Av Ah Av (s.V y k l) e bF.z:=⟨r.ext.more w λc g=>by
     rcases g with g|g
     ·have:=an c g;omega
     ·omega,w.ag r.b0 (aj _ (by omega)),w.ag r.b1 (aj _ (by omega)),w.ag r.b2 (aj _ (by omega))⟩
    have ay: ∀x,eo.ag=some x->k.ag=some x\/h.size+3<=x:=λx d=>(f x d).imp id λh=>by omega
    refine N.ni λaw ac C=>key (o:=MJ s e) (t:=t) (by unfold PM;rw[if_neg (by omega),if_pos aZ]) (λt' G=>?_) ac
    obtain⟨rfl,av⟩:=E t' G;obtain⟨J,U,aJ,bf⟩:=y4 G;have u:=fr eo l ay λ_ h=> .inl h
    have a0:=T.steps.mod w λx d g=>by
     have:=aS x d;rcases g with g|g
     ·have:=an x g;omega
     ·omega
    have vc:=T.ak.mod w λx d g=>by
     have:=ap x d;rcases g with g|g
     ·have:=an x g;omega
     ·omega
    exact⟨rfl,J.next,⟨by rw[J.prog];exact a0.mod C (λx d i=>by have:=u x (.inl d);omega),av.mod C (λx d i=>by have:=u x (.inr (.inl d));omega),by rw[aJ];exact vc.mod C (λx d i=>by have:=u x (.inr (.inr d));omega)⟩,ay,λ_ h=> .inl h⟩
   refine aF _ _ (af.no rfl (ai.mk λaW ax=>?_));have ak:aW (true,()) z:=ax _ _ (af.yes rfl (r.fg (r.kG (ARZ T bz (by have:=M.au;omega) aZ (by have:=ANm I;omega) λaE t eo w f E=>Hw.mk _ ⟨_,rfl,bJ w f E⟩))));refine af.intro (λv=>?_) (λbi=>af.intro (λv=>?_) (λbj=>af.intro (λv=>?_) (λbk=>?_)))
   ·rw[v];exact ak
   ·rw[v];exact ak
   ·rw[v];exact ak
   ·have bi:e.kind≠6:=by simpa using bi
    have bj:e.kind≠7:=by simpa using bj
    have bk:e.kind≠8:=by simpa using bk
    have bL:(e.kind==(9:Int))=true:=by simp;omega
    rw[bL];exact ak
  ·by_cases g:e.kind=10\/e.kind=11
   ·have bM: ∀ {B:aa} {t:bg} {ey:Sl},Mod (λx=>l.ag=some x\/z.size<=x) z B->(∀ x,ey.ag=some x->l.ag=some x\/z.size<=x)->(∀ t',Kh s e=some t'->t=t'/\View gq B ey t'.ak)->aL B ⟨h.size,0,none⟩ (t.V y k ey).l λm=>aT ((Kh s e).isSome,()) m:=λ{B t ey} w f E=>by
     have aj: ∀v,v<h.size+3-> ¬(l.ag=some v\/z.size<=v):=λv bK h=>by
      rcases h with h|h
      ·have:=ap v h;omega
      ·omega
     have N:D3 h B Av Ah Av (s.V y k l) e bF.z:=⟨r.ext.more w λc g=>by
      rcases g with g|g
      ·have:=ap c g;omega
      ·omega,w.ag r.b0 (aj _ (by omega)),w.ag r.b1 (aj _ (by omega)),w.ag r.b2 (aj _ (by omega))⟩
     have az: ∀x,ey.ag=some x->l.ag=some x\/h.size+3<=x:=λx d=>(f x d).imp id λh=>by omega
     refine N.ni λaw ac C=>key (o:=Kh s e) (t:=t) (by unfold PM;rw[if_neg (by omega),if_neg aZ,if_pos g]) (λt' G=>?_) ac
     obtain⟨rfl,vc⟩:=E t' G;obtain⟨J,U,aJ,bf⟩:=y5 G;have u:=fr k ey (λ_ h=> .inl h) az;have a0:=T.steps.mod w λx d g=>by
      have:=aS x d;rcases g with g|g
      ·have:=ap x g;omega
      ·omega
     have av:=T.au.mod w λx d g=>by
      have:=an x d;rcases g with g|g
      ·have:=ap x g;omega
      ·omega
     exact⟨rfl,J.next,⟨by rw[J.prog];exact a0.mod C (λx d i=>by have:=u x (.inl d);omega),by rw[U];exact av.mod C (λx d i=>by have:=u x (.inr (.inl d));omega),vc.mod C (λx d i=>by have:=u x (.inr (.inr d));omega)⟩,λ_ h=> .inl h,az⟩
    have H: ∀ {n:Int},6<=n->n<=9->(e.kind==n)=false:=λ{n} bH bI=>by simp;omega
    refine aF _ _ (af.no rfl (ai.mk λaW ax=>?_));refine af.no (H (by decide) (by decide)) (af.no (H (by decide) (by decide)) (af.no (H (by decide) (by decide)) ?_));rw[H (n:=9) (by decide) (by decide)];refine ax _ _ (af.no rfl (ai.mk λbh aX=>?_));have ak:bh (true,()) z:=aX _ _ (af.yes rfl (r.fg (r.kG (AQM T bA (by have:=M.ak;omega) g bp (λx d=>by have:=M.waits x (AKG d);omega) λaE t ey w f E=>Hw.mk _ ⟨_,rfl,bM w f E⟩))));refine af.intro (λv=>?_) (λbm=>?_)
    ·rw[v];exact ak
    ·have bm:e.kind≠10:=by simpa using bm
     have bN:(e.kind==(11:Int))=true:=by simp;omega
     rw[bN];exact ak
   ·exact bG (by omega)
end
theorem Oy {n:Int}(a:0<=n)(b:n<=9223372036854775807):J8 .u64 n=((n.toNat:Nat):Int):=by
 have:n=((n.toNat:Nat):Int):=by omega
 rw[this,Bt (by omega)];simp
theorem NL {f:Bool}{n:Int}(a:n<=9223372036854775807):(Td f n).length<=10:=by
 cases f with
 |false=>exact A5 _
 |true=>exact AV (by omega)
theorem se {h:al}{b:aa}{a:Q6}{f e n:Int}{fl:Bool}{d:List UInt8}{K:A2M×Unit->aa->Prop}(i:(Gr J9 f e != (0:Int))=fl)(j:ah b a=some (J6 J9 n))(k:fl=true->0<=n/\n<=1099511627776)
  (m:d.length<=100000) (g: ∀c,Ext b c->K (AX (d++Td fl n),()) c):
  af (Gr J9 f e != (0:Int)) (AC J9 b a λt=>AA h P Aw #[.int .u64 (J8 .u64 t)] b λv c=> ∃x:A2M,v=J7 x/\(aG ((((AX d).size+x.size:Nat):Int)<=IntKind.i64.max)<|K ((AX d)++x,()) c)) (K (AX d,()) b):=by
 rw[i];cases fl with
 |false=>
  have:=g b Mod.refl;simp only[Td,CA,if_false,AK] at this;exact af.no rfl this
 |true=>
  obtain⟨l,o⟩:=k rfl;refine af.yes rfl (AC.mk j ?_);rw[Oy l (by omega)];have:=AV (n:=n.toNat) (by omega);refine CU (by omega) λc x=>⟨_,rfl,⟨by rw[AP,AP,max_i64];omega,?_⟩⟩
  have:=g c x;simp only[Td,if_true] at this;rw[Ao];exact this
theorem si {f:Bool}{a b c:Int}(d:dc f a b c=true)(g:0<=b)(h:c<=1099511627776):f=true->0<=a/\a<=1099511627776:=λe=>by
 subst e;simp only[dc,if_true,Bd] at d;omega
def p8(a:Ev):J0:=J1 #[J7 (AX (if Dl a then EL a else [])),J6 J9 (if Dl a then 0 else 120)]
theorem yN {R:al}{a:aa}{e:Ev}{k:A2L}(hd:e.data.size<1099511627776)(u: ∀c,Ext a c->k (p8 e) c):AA R P LP #[gC e] a k:=by
 refine ABt ?_;unfold Um;refine ao.mk λar _ b v au=>?_
 refine AC.mk (AL b rfl) (AC.mk (AB b rfl) (AC.mk (AB b rfl) (AC.mk (AB b rfl) (AC.mk (AB b rfl) (AC.mk (AB b rfl) (AZ.mk (AB b rfl) (AJ.mk (AB b rfl) ?_)))))));refine sd (e:=e) hd λw l=>⟨_,rfl,?_⟩
 cases m:Dl e with
 |false=>
  refine af.yes rfl ?_;have:=u w (v.trans l);rw[p8,m] at this;exact this
 |true=>
  refine af.no rfl ?_;have y: ∀c,Ext w c->k (J1 #[J7 (AX (EL e)),J6 J9 0]) c:=λc x=>by
   have:=u c ((v.trans l).trans x);rw[p8,m] at this;exact this
  have h:=l.ag b (λa=>a);have z:=GY m;simp only[En,A3] at z;obtain⟨⟨⟨⟨⟨⟨⟨S,T⟩,U⟩,o⟩,p⟩,q⟩,av⟩,aw⟩:=z;have ax:=Bd.1 S;have ay:=Bd.1 T;have az:=Bd.1 U;obtain⟨V,W,X,Y,Z⟩:=rY e.kind;refine AC.mk (AB h rfl) (Xk ⟨_,_,rfl,?_⟩);refine AC.mk (AL h rfl) (AC.mk (n:=e.kind) (AB h rfl) (AC.mk (n:=e.tick) (AB h rfl) ?_));rw[Oy (n:=e.id) (by omega) (by omega)];refine CU (by omega) λaA A=>⟨_,rfl,?_⟩
  have r:=A.ag h (λa=>a);refine⟨AB r rfl,AB r rfl,?_⟩;rw[Oy (n:=e.kind) (by omega) (by omega)];have aC:=AV (n:=e.id.toNat) (by omega);have aD:=AV (n:=e.kind.toNat) (by omega);have aE:=AV (n:=e.tick.toNat) (by omega);refine CU (by omega) λaF B=>⟨_,rfl,?_⟩
  have C:=B.ag r (λa=>a);refine⟨AB C rfl,by rw[AP,AP,max_i64];omega,?_⟩;rw[Oy (n:=e.tick) (by omega) (by omega)];refine CU (by omega) λaG D=>⟨_,rfl,⟨by rw[Ao,AP,AP,max_i64,A1];omega,?_⟩⟩
  have E:=D.ag C (λa=>a);have ab:=(A.trans B).trans D;rw[Ao,Ao];refine ai.mk λK ac=>?_
  have aH:=NL (f:=da e.kind) (n:=e.ref) (by cases i:da e.kind<;>rw[i] at o<;>simp[dc,bU] at o<;>omega);have aI:=NL (f:=dr e.kind) (n:=e.step) (by cases i:dr e.kind<;>rw[i] at p<;>simp[dc,bU] at p<;>omega);have aJ:=NL (f:=dF e.kind) (n:=e.turn) (by cases i:dF e.kind<;>rw[i] at q<;>simp[dc,bU] at q<;>omega);have aK:=NL (f:=dO e.kind) (n:=if e.aK then 1 else 0) (by split<;>omega);refine se (fl:=da e.kind) (n:=e.ref) (by rw[V,Ml (by decide)]) (AB E rfl) (si o (by decide) (by omega)) (by simp only[A1];omega) λaL F=>ac _ _ ?_
  have G:=F.ag E (λa=>a);refine ai.mk λaM ad=>?_
  refine se (fl:=dr e.kind) (n:=e.step) (by rw[W,Ml (by decide)]) (AB G rfl) (si p (by decide) (by omega)) (by simp only[A1];omega) λaN H=>ad _ _ ?_
  have I:=H.ag G (λa=>a);refine ai.mk λaO ae=>?_
  refine se (fl:=dF e.kind) (n:=e.turn) (by rw[X,Ml (by decide)]) (AB I rfl) (si q (by decide) (by omega)) (by simp only[A1];omega) λs J=>ae _ _ ?_
  have L:=J.ag I (λa=>a);have M:=((ab.trans F).trans H).trans J;refine ai.mk λag ah=>?_
  have N: ∀g,Ext s g->ag (AX (((Bb e.id.toNat++Bb e.kind.toNat++Bb e.tick.toNat++Td (da e.kind) e.ref)++Td (dr e.kind) e.step++Td (dF e.kind) e.turn)++Td (dO e.kind) (if e.aK then 1 else 0)),()) g:=λg j=>by
   refine ah _ _ ?_;have aj:=j.ag L (λa=>a);refine ai.mk λaP O=>?_
   rw[Z,Ml (by decide)];refine af.intro (λd=>?_) (λd=>?_)
   ·refine AJ.mk (AB aj rfl) (MP (by omega) λak am=>⟨_,rfl,⟨?_,O _ _ ?_⟩⟩)
    ·have:=AV (n:=(bl e.data).length) (by rw[BB];omega);rw[AP,AP,max_i64];simp only[BI,A1,BB] at this ⊢;omega
    ·have:=y ak ((M.trans j).trans am);dsimp only;rw[Ao];simp only[EL,gY,d,if_true] at this;simp only[A4] at this ⊢;exact this
   ·refine O _ _ ?_;have:=y g (M.trans j);simp only[EL,gY,d,CA,if_false,AK] at this;simp only[A4] at this ⊢;exact this
  rw[Y,Ml (by decide)];refine af.intro (λd=>?_) (λd=>?_)
  ·refine ai.mk λan ap=>AZ.mk (AB L rfl) ?_
   have Q: ∀n:Nat,n<=1->(n:Int)=(if e.aK then 1 else 0)->an ((n:Int),()) s:=λn aQ aq=>by
    refine ap _ _ ?_;have:=AV (n:=n) (by omega);refine CU (by omega) λg j=>⟨_,rfl,⟨?_,?_⟩⟩
    ·dsimp only;rw[AP,AP,max_i64];simp only[A1];omega
    ·have:=N g j;rw[<- aq] at this;simp only[Td,d,if_true,As] at this;dsimp only;rw[Ao];exact this
   refine af.intro (λt=>Q 1 (by omega) (by rw[t];rfl)) (λt=>Q 0 (by omega) (by rw[t];rfl))
  ·have:=N s Mod.refl;simp only[Td,d,CA,if_false,AK] at this;exact this
theorem NT(f:Bool)(m:Nat)(a:Rd):(Ex f m a).2.rest.length<=a.rest.length:=by
 cases f with
 |false=>exact A0 _
 |true=>exact Hu m a
theorem AQY(f:Bool)(a:Rd):(UT f a).2.rest.length<=a.rest.length/\(UT f a).1.length<=a.rest.length:=by
 cases f with
 |false=>exact⟨A0 _,A5 _⟩
 |true=>exact Q4 a
theorem AOc(b:kh)(c:Rd):(QN b c).2.rest.length<=c.rest.length/\(QN b c).1.data.size<=c.rest.length:=by
 simp only[QN,AP];have d:=Hu b.id c;have e:=Hu b.kind (CE b.id c).2;have f:=Hu b.tick (CE b.kind (CE b.id c).2).2;generalize CE b.tick (CE b.kind (CE b.id c).2).2=t at*
 generalize ((CE b.kind (CE b.id c).2).1:Int)=a at*
 have g:=NT (da a) b.ref t.2;have h:=NT (dr a) b.step (Ex (da a) b.ref t.2).2;have i:=NT (dF a) b.turn (Ex (dr a) b.step (Ex (da a) b.ref t.2).2).2;have j:=NT (dO a) 1 (Ex (dF a) b.turn (Ex (dr a) b.step (Ex (da a) b.ref t.2).2).2).2;have k:=AQY (dP a) (Ex (dO a) 1 (Ex (dF a) b.turn (Ex (dr a) b.step (Ex (da a) b.ref t.2).2).2).2).2;omega
theorem sj {w:al}{a:aa}{b d g:Nat}{f l:Int}{m:Nat}{fl:Bool}{h:Rd}{e:Array J0}{T:Q7}{K:Unit->aa->Prop}(x:(Gr J9 f l != (0:Int))=fl)(n:Ir a b h)(y:h.rest.length<=1099511627776)
  (z:m<=9223372036854775807) (o:a[d]? =some (J2 e T (0,0))) (A:g<e.size) (B:e.setIfInBounds g (J6 J9 0)=e) (p:b≠d)
  (q: ∀i,Ir i b (Ex fl m h).2->i[d]? =some (J2 (e.setIfInBounds g (J6 J9 ((Ex fl m h).1:Int))) T (0,0))->Mod (λc=>c=b\/c=d) a i->K () i):
  af (Gr J9 f l != (0:Int)) (AA w P Af #[Ar b,J6 J9 (m:Int)] a λv r=> ∃t:Int,v=J6 J9 t/\(ae r ((⟨d,0,none⟩:Q6).add g) (J6 J9 t) λj=>K () j)) (K () a):=by
 rw[x];cases fl with
 |false=>exact af.no rfl (q a n (by simp only[Ex,CA,if_false];rw[show(((0:Nat):Int))=(0:Int) from rfl,B];exact o) Mod.refl)
 |true=>
  refine af.yes rfl (De n y z λr C s=>⟨_,rfl,?_⟩);refine ae.dw (s.ag o p.symm) A λj D u E=>?_
  exact q j (u.ag C p) D ((s.aj λc _ k=> .inl k).trans (u.aj λc _ k=> .inr k))
abbrev yO(i b t a s c:Int)(u:Bool)(d:A2M):Array J0:= #[J6 J9 i,J6 J9 b,J6 J9 t,J6 J9 a,J6 J9 s,J6 J9 c,J3 u,J7 d]
theorem APW {au:al}{b:aa}{e:Nat}{d:Rd}{M:A2L}(N:Ir b e d)(bb:d.rest.length<1099511627776)
  (O: ∀E,Ir E e (QN fM d).2->Mod (· =e) b E->M (gC (QN fM d).1) E):AA au P SI #[Ar e] b M:=by
 refine AEc ?_;unfold ZO;have bc:=Aj N;refine ao.mk λy _ Q z av=>?_
 have R:=z.ag N (λb=>b);have bd:CE 500 d=CE fM.id d:=rfl;have be:=Hu 500 d;have bf:=Hu 18 (CE 500 d).2;have bg:=Hu 1099511627776 (CE 18 (CE 500 d).2).2;refine De (most:=500) R (by omega) (by decide) λbh S A=>⟨_,rfl,?_⟩
 refine De (most:=18) S (by omega) (by decide) λbi T U=>⟨_,rfl,?_⟩
 refine De (most:=1099511627776) T (by omega) (by decide) λu F V=>⟨_,rfl,?_⟩
 have n:=(A.trans U).trans V;have W:=n.ag Q (by omega);have aw:y.size<=u.size:=n.size;refine ao.mk λbj _ X B ax=>ae.eight X λay Y C az=>?_
 have o:e≠u.size:=by have:=Aj F;omega
 have aA:b.size≠u.size:=by omega
 have aC:=C.ag (B.ag F (λb=>b)) o;have aD:=C.ag (B.ag W (λb=>b)) aA;have aE:Mod (· =e) b ay:=by have l:Mod (· =e) b u:=z.mod.trans n;exact l.then ((B.mod.trans C).aj λc _ g=> .inr (by have:=n.size;have:=z.size;omega))
 refine AC.mk (AB Y rfl) (Xk ⟨_,_,rfl,?_⟩);obtain⟨aF,aG,aH,aI,aJ⟩:=rY ((CE 18 (CE 500 d).2).1:Int);have bk:b.size<=u.size:=by omega
 have bm:b.size<=b.size:=A0 _;have bn:QN fM d=QN fM d:=rfl;generalize aK:((CE 18 (CE 500 d).2).1:Int)=a at*
 generalize aL:CE 1099511627776 (CE 18 (CE 500 d).2).2=t at*
 generalize aM:((CE 500 d).1:Int)=i at*
 have aN:QN fM d=(⟨i,a,t.1,(Ex (da a) 500 t.2).1,(Ex (dr a) 15 (Ex (da a) 500 t.2).2).1,(Ex (dF a) 5 (Ex (dr a) 15 (Ex (da a) 500 t.2).2).2).1,
   decide ((Ex (dO a) 1 (Ex (dF a) 5 (Ex (dr a) 15 (Ex (da a) 500 t.2).2).2).2).1=1),AX (UT (dP a) (Ex (dO a) 1 (Ex (dF a) 5 (Ex (dr a) 15 (Ex (da a) 500 t.2).2).2).2).2).1⟩,
   (UT (dP a) (Ex (dO a) 1 (Ex (dF a) 5 (Ex (dr a) 15 (Ex (da a) 500 t.2).2).2).2).2).2):=by
  simp only[QN,<-aK,<-aL,<-aM];rfl
 have bo:=NT (da a) 500 t.2;have bp:=NT (dr a) 15 (Ex (da a) 500 t.2).2;have bq:=NT (dF a) 5 (Ex (dr a) 15 (Ex (da a) 500 t.2).2).2;have br:=NT (dO a) 1 (Ex (dF a) 5 (Ex (dr a) 15 (Ex (da a) 500 t.2).2).2).2;rw[aN] at O;generalize u.size=v at*
 generalize aO:Ex (da a) 500 t.2=G at*
 generalize aP:Ex (dr a) 15 G.2=os at*
 generalize aQ:Ex (dF a) 5 os.2=s at*
 generalize Z:Ex (dO a) 1 s.2=f at*
 clear Q W X R S T F z B A U V n C av aw ax az;have up: ∀ {ab ac:aa},Mod (· =e) b ab->Mod (λc=>c=e\/c=v) ab ac->Mod (· =e) b ac:=λaR A=>aR.then (A.aj λc _ g=>g.elim .inl λbs=> .inr (by omega))
 refine ai.mk λK aS=>?_
 refine sj (m:=500) (fl:=da a) (by rw[aF,Ml (by decide)]) aC (by omega) (by decide) Y (by simp) rfl o λbt ad ag n=>aS _ _ ?_
 rw[aO] at ad ag;have aT:=n.ag aD (by omega);have aU:=up aE n;refine ai.mk λbu aV=>?_
 refine sj (m:=15) (fl:=dr a) (by rw[aG,Ml (by decide)]) ad (by omega) (by decide) ag (by simp) rfl o λbv ah aj ak=>aV _ _ ?_
 rw[aP] at ah aj;have aW:=ak.ag aT (by omega);have aX:=up aU ak;refine ai.mk λbw aY=>?_
 refine sj (m:=5) (fl:=dF a) (by rw[aH,Ml (by decide)]) ah (by omega) (by decide) aj (by simp) rfl o λam H I an=>aY _ _ ?_
 rw[aQ] at H I;have aZ:=an.ag aW (by omega);have a0:=up aX an;refine ai.mk λa1 a2=>?_
 have ap: ∀p,Ir p e f.2->p[v]? =some (J2 (yO i a t.1 G.1 os.1 s.1 (decide (f.1=1)) HZ) Ah (0,0))->Mod (λc=>c=e\/c=v) am p->a1 () p:=λp D aq w=>by
  refine a2 _ _ ?_;have a3:=w.ag aZ (by omega);have a4:=up a0 w;refine ai.mk λa5 a6=>?_
  have ar: ∀q,Ir q e (UT (dP a) f.2).2->q[v]? =some (J2 (yO i a t.1 G.1 os.1 s.1 (decide (f.1=1)) (AX (UT (dP a) f.2).1)) Ah (0,0))->Mod (λc=>c=e\/c=v) p q->a5 () q:=λq J h r=>by
   refine a6 _ _ ?_;have a7:=r.ag a3 (by omega);have a8:=up a4 r;refine AC.mk (AL h rfl) (AC.mk (AB h rfl) (AC.mk (AB h rfl) (AC.mk (AB h rfl) (AC.mk (AB h rfl) (AC.mk (AB h rfl) (AZ.mk (AB h rfl) (AJ.mk (AB h rfl) ?_)))))));refine ae.eight a7 λL k x a9=>?_
   refine AC.mk (AL k rfl) (AC.mk (AB k rfl) (AC.mk (AB k rfl) (AC.mk (AB k rfl) (AC.mk (AB k rfl) (AC.mk (AB k rfl) (AZ.mk (AB k rfl) (AJ.mk (AB k rfl) ?_)))))));exact O L (x.ag J (by omega)) (a8.then (x.aj λc _ g=> .inr (by omega)))
  rw[aJ,Ml (by decide)];refine af.intro (λl=>?_) (λl=>?_)
  ·refine Hm D (by omega) λq J r=>⟨_,rfl,?_⟩
   refine ae.dw (r.ag aq o.symm) (by simp) λL k x a9=>?_
   have j:UT (dP a) f.2=FL f.2:=by simp only[UT,l,if_true]
   refine ar L (by rw[j];exact x.ag J o) (by rw[j];exact k) ((r.aj λc _ g=> .inl g).trans (x.aj λc _ g=> .inr g))
  ·have j:UT (dP a) f.2=([],f.2):=by simp only[UT,l,CA,if_false]
   exact ar p (by rw[j];exact D) (by rw[j];exact aq) Mod.refl
 rw[aI,Ml (by decide)];refine af.intro (λl=>?_) (λl=>?_)
 ·have j:f=CE 1 s.2:=by rw[<- Z];simp only[Ex,l,if_true]
  refine De (most:=1) H (by omega) (by decide) λp D w=>⟨_,rfl,?_⟩
  refine ae.dw (w.ag I o.symm) (by simp) λq h r bx=>?_
  have ba:((((CE 1 s.2).1:Nat):Int)==(1:Int))=decide (f.1=1):=by
   rw[j];by_cases y:(CE 1 s.2).1=1
   ·rw[y];rfl
   ·rw[decide_eq_false y,beq_eq_false_iff_ne];omega
  rw[ba] at h;refine ap q (by rw[j];exact r.ag D o) h ((w.aj λc _ g=> .inl g).trans (r.aj λc _ g=> .inr g))
 ·have j:f=(0,s.2):=by rw[<- Z];simp only[Ex,l,CA,if_false]
  exact ap am (by rw[j];exact H) (by rw[j];exact I) Mod.refl
def evZ:Ev:=⟨0,0,0,0,0,0,false,HZ⟩
def AUP(a:Option Ev):J0:=J1 #[gC (a.getD evZ),J6 J9 (if a.isSome then 0 else 60)]
theorem yP {F:al}{b:aa}{l:List UInt8}{r:A2L}(G:l.length<1099511627776)(s: ∀t,Ext b t->r (AUP (WK l)) t):AA F P Li #[J7 (AX l)] b r:=by
 refine AB2 ?_;unfold Uh;refine ao.mk λU _ H u V=>?_
 refine KP λW v w=>⟨_,rfl,?_⟩
 have X:=Aj v;refine APW v G λI J j=>⟨_,_,_,_,_,_,_,_,rfl,?_⟩
 have L:=j.ag (w.ag H (λb=>b)) (by omega);have y:Ext b I:=(u.trans w).more j λc h=>by subst h;exact u.size
 have M:=AOc fM ⟨l,false⟩;refine ao.mk λY _ N k Z=>ae.eight N λm d n ab=>?_
 have ac:=j.size;have z:Ext b m:=(y.trans k).more n λc h=>by subst h;exact y.size
 have A:=n.ag (k.ag L (λb=>b)) (by omega);have O:=n.ag (k.ag J (λb=>b)) (by omega);refine ai.mk λK B=>?_
 refine Mg O ⟨_,rfl,?_⟩;have o:WK l=if Sg (QN fM ⟨l,false⟩).2&&Dl (QN fM ⟨l,false⟩).1 then some (QN fM ⟨l,false⟩).1 else none:=rfl;generalize (QN fM ⟨l,false⟩).2=C at*
 generalize (QN fM ⟨l,false⟩).1=e at*
 have D:WK l=none-> ∀p,Ext m p->K (true,()) p:=λQ p x=>by
  refine B _ _ (af.yes rfl ?_);refine ae.eight (x.ag A (λb=>b)) λq a R ad=>?_
  refine AC.mk (AL a rfl) (AC.mk (AB a rfl) (AC.mk (AB a rfl) (AC.mk (AB a rfl) (AC.mk (AB a rfl) (AC.mk (AB a rfl) (AZ.mk (AB a rfl) (AJ.mk (AB a rfl) ?_)))))));have:=s q ((z.trans x).more R λc h=>by omega);rw[Q] at this;exact this
 refine af.intro (λg=>?_) (λg=>?_)
 ·have g:Sg C=false:=by simpa using g
  exact D (by rw[o,g];rfl) m Mod.refl
 ·have g:Sg C=true:=by simpa using g
  refine AC.mk (AL d rfl) (AC.mk (AB d rfl) (AC.mk (AB d rfl) (AC.mk (AB d rfl) (AC.mk (AB d rfl) (AC.mk (AB d rfl) (AZ.mk (AB d rfl) (AJ.mk (AB d rfl) ?_)))))));refine sd (e:=e) (by simp only at M;omega) λq i=>⟨_,rfl,?_⟩
  cases E:Dl e with
  |false=>exact D (by rw[o,E,OF];rfl) q i
  |true=>
   refine B _ _ (af.no rfl ?_);have a:=i.ag d (λb=>b);refine AC.mk (AL a rfl) (AC.mk (AB a rfl) (AC.mk (AB a rfl) (AC.mk (AB a rfl) (AC.mk (AB a rfl) (AC.mk (AB a rfl) (AZ.mk (AB a rfl) (AJ.mk (AB a rfl) ?_)))))));refine ae.eight (i.ag A (λb=>b)) λS f T ag=>?_
   refine AC.mk (AL f rfl) (AC.mk (AB f rfl) (AC.mk (AB f rfl) (AC.mk (AB f rfl) (AC.mk (AB f rfl) (AC.mk (AB f rfl) (AZ.mk (AB f rfl) (AJ.mk (AB f rfl) ?_)))))));have:=s S ((z.trans i).more T λc h=>by omega);rw[o,g,E] at this;exact this
theorem mU:QZ P Bc Ah cw.w 72=true:=by kernel_rfl
theorem yQ:P.underlying Ah=some (.struct (P.fieldsOf Ah)):=by kernel_rfl
theorem yR(x:Ev):ll P Ah (Ev.fv x)=true:=by kernel_rfl
theorem kq {b:aa}{a:Q6}{x:Ev}(c:Cells b a (cw.enc x)):ah b a=some (J6 J9 x.id)/\ah b (a.add 1)=some (J6 J9 x.kind)/\ah b (a.add 2)=some (J6 J9 x.tick)/\ah b (a.add 3)=some (J6 J9 x.ref)/\ah b (a.add 4)=some (J6 J9 x.step)/\
  ah b (a.add 5)=some (J6 J9 x.turn)/\ah b (a.add 6)=some (J3 x.aK)/\ah b (a.add 7)=some (J7 x.data):=by
 refine⟨?_,c 1 _ rfl,c 2 _ rfl,c 3 _ rfl,c 4 _ rfl,c 5 _ rfl,c 6 _ rfl,c 7 _ rfl⟩;have:=c 0 _ rfl;rwa [add_zero] at this
theorem AUT {c:al}{d e:Operand}{x a:Ev}{b:aa}{K:A2L}(f:K (J3 (decide (x=a))) b):BG c P (do eqGuard .eql Ah d e (gC x) (gC a);binOp .eql Ah (gC x) (gC a)) b K:=by
 refine rj (xs:=Ev.fv x) (ys:=Ev.fv a) yQ (yR x) rfl rfl rfl ?_;have g:decide (Ev.fv x=Ev.fv a)=decide (x=a):=by rw[decide_eq_decide];exact Ev.fI
 rw[g];exact f
theorem yS {c:al}{d e:Operand}{x a:Ev}{b:aa}{K:A2L}(f:K (J3 (!decide (x=a))) b):BG c P (do eqGuard .neq Ah d e (gC x) (gC a);binOp .neq Ah (gC x) (gC a)) b K:=by
 refine AR9 (xs:=Ev.fv x) (ys:=Ev.fv a) yQ (yR x) rfl rfl rfl ?_;have g:decide (Ev.fv x=Ev.fv a)=decide (x=a):=by rw[decide_eq_decide];exact Ev.fI
 rw[g];exact f
def p9(l:List Ev):J0:=J1 #[J7 (AX (EM l).2),J6 J9 ((EM l).1:Int)]
theorem MO {a:Ev}(h:En a=true)(hd:a.data.size<18446744073709551616):(EL a).length<=100+a.data.size:=by
 have c:=h;simp only[En,A3] at c;obtain⟨⟨⟨⟨⟨⟨⟨i,j⟩,k⟩,d⟩,e⟩,g⟩,l⟩,m⟩:=c;have o:=Bd.1 i;have p:=Bd.1 j;have q:=Bd.1 k;have r:=AV (n:=a.id.toNat) (by omega);have s:=AV (n:=a.kind.toNat) (by omega);have t:=AV (n:=a.tick.toNat) (by omega);have u:=NL (f:=da a.kind) (n:=a.ref) (by cases b:da a.kind<;>rw[b] at d<;>simp[dc,bU] at d<;>omega);have v:=NL (f:=dr a.kind) (n:=a.step) (by cases b:dr a.kind<;>rw[b] at e<;>simp[dc,bU] at e<;>omega);have w:=NL (f:=dF a.kind) (n:=a.turn) (by cases b:dF a.kind<;>rw[b] at g<;>simp[dc,bU] at g<;>omega);have x:=NL (f:=dO a.kind) (n:=if a.aK then 1 else 0) (by split<;>omega);have y:(gY (dP a.kind) a.data).length<=10+a.data.size:=by
  cases b:dP a.kind with
  |false=>simp[gY]
  |true=>
   simp only[gY,if_true,BI,A1,BB];have:=AV hd;omega
 simp only[EL,A1];omega
theorem yT {l:List Ev}(b:l.all Dl=true)(hd: ∀a∈l,a.data.size<=4194304):(l.flatMap λa=>BI (EL a)).length<=l.length*5000000:=by
 induction l with
 |nil=>simp
 |cons a l c=>
  simp only[DM,A3] at b;have e:=c b.2 λx d=>hd x (AH _ d)
  have f:=hd a (by simp);have g:=MO (GY b.1) (by omega);have h:=AV (n:=(EL a).length) (by omega);have i:(BI (EL a)).length=(Bb (EL a).length).length+(EL a).length:=by simp[BI]
  simp only[AF,A1,A6];omega
end Go.Lf.G
namespace Go.Lf
open Go
def Tp(a:Int)(v:J0):List (Int×J0)->List (Int×J0)
 | []=> [(a,v)]
 |p::m=>if p.1=a then(a,v)::m else p::Tp a v m
def MK(a:Int)(m:List (Int×J0)):Option J0:=(m.find? λp=>decide (p.1=a)).map (·.2)
def iw(a:Int)(m:List (Int×J0)):List (Int×J0):=m.filter λp=> !decide (p.1=a)
theorem Gp(a:Int)(p:Int×J0)(m:List (Int×J0)):MK a (p::m)=if p.1=a then some p.2 else MK a m:=by unfold MK;rw[F2];by_cases b:p.1=a<;>simp[b]
theorem rH(a:Int)(v:J0)(c:Int): ∀m,MK c (Tp a v m)=if a=c then some v else MK c m
 | []=>by unfold Tp;rw[Gp]
 |p::m=>by
  unfold Tp;split
  ·rename_i d;rw[Gp,Gp];by_cases b:a=c<;>simp[d,b]
  ·rename_i d;rw[Gp,Gp,rH a v c m];by_cases b:a=c
   ·subst b;simp[d]
   ·simp[b]
structure XJ (kd:IntKind) (es:Array MapEntry) (clock:Nat) (m:List (Int×J0)):Prop where
 same:es.toList.map (λe=>(e.key,e.val))=m.map λp=>(Value.int kd p.1,p.2)
 stamped:MapKept.Stamped es clock
 size:es.size<=maxLen
def Tg(kd:IntKind)(d:aa)(b:Nat)(m:List (Int×J0)):Prop:= ∃a c,d[b]? =some (.map a c)/\XJ kd a c m
theorem Tg.mod {kd:IntKind}{a c:aa}{b:Nat}{m:List (Int×J0)}{d:Nat->Prop}(M:Tg kd a b m)(x:Mod d a c)(e: ¬d b):Tg kd c b m:=by obtain⟨f,g,h,i⟩:=M;exact⟨f,g,x.ag h e,i⟩
theorem Tg.lt {kd:IntKind}{a:aa}{b:Nat}{m:List (Int×J0)}(M:Tg kd a b m):b<a.size:=by obtain⟨d,e,c,f⟩:=M;exact Aj c
theorem Tg.empty {kd:IntKind}{a:aa}{b c:Nat}(d:a[b]? =some (.map #[] c)):Tg kd a b []:=⟨#[],c,d,rfl,MapKept.stamped_empty c,by simp⟩
theorem XJ.len {kd:IntKind}{a:Array MapEntry}{b:Nat}{m:List (Int×J0)}(M:XJ kd a b m):a.size=m.length:=by rw[<- Ek];have:=congrArg List.length M.same;simpa using this
theorem XJ.keysOf {kd:IntKind}{a:Array MapEntry}{b:Nat}{m:List (Int×J0)}(M:XJ kd a b m):a.toList.map (·.key)=m.map λp=>Value.int kd p.1:=by have:=congrArg (List.map Prod.fst) M.same;simpa [AW,G0] using this
theorem XJ.nodup {kd:IntKind}{b:Array MapEntry}{c:Nat}{m:List (Int×J0)}(M:XJ kd b c m):(m.map (·.1)).Nodup:=by
 have a:=M.stamped.2.2;rw[M.keysOf] at a;have d:(m.map λp=>Value.int kd p.1)=(m.map (·.1)).map (Value.int kd):=by simp
 rw[d] at a;exact(List.pairwise_map.1 a).imp λe f=>e (by rw[f])
theorem Oz {kd:IntKind}(a:Int)(v:J0): ∀(c:List MapEntry) (m:List (Int×J0)) (i:Nat),(c.map λe=>(e.key,e.val))=(m.map λp=>(Value.int kd p.1,p.2))->
  (Instr.findNow (.int kd) (.int kd a) c i=some none/\MK a m=none/\Tp a v m=m++ [(a,v)]/\iw a m=m/\ ∀e∈c,e.key≠ .int kd a)\/
  ∃d u,Instr.findNow (.int kd) (.int kd a) c i=some (some (i+d,u))/\MK a m=some u/\(∃ e,c[d]? =some e/\e.key= .int kd a)/\((c.modify d λe=> {e with key:= .int kd a,val:=v}).map λe=>(e.key,e.val))=(Tp a v m).map (λp=>(Value.int kd p.1,p.2))/\
   ((m.map (·.1)).Nodup->((c.eraseIdx d).map λe=>(e.key,e.val))=(iw a m).map λp=>(Value.int kd p.1,p.2))
 | [],[],i,_=> .inl ⟨rfl,rfl,rfl,rfl,by simp⟩
 | [],_::_,_,h=>by simp at h
 |_::_,[],_,h=>by simp at h
 |e::c,p::m,i,h=>by
  simp only[BW,GC,LR] at h;obtain⟨⟨j,l⟩,n⟩:=h;have o:Instr.sameNow (.int kd) (.int kd a) e.key=some (decide (a=p.1)):=by rw[j];show(if kd=kd then some (a==p.1) else none)=_;rw[if_pos rfl];congr 1
  by_cases b:p.1=a
  ·refine .inr ⟨0,e.val,?_,?_,⟨e,rfl,by rw[j,b]⟩,?_,?_⟩
   ·unfold Instr.findNow;rw[o,decide_eq_true b.symm];rfl
   ·rw[Gp,if_pos b,l]
   ·unfold Tp;rw[if_pos b];simp[n]
   ·intro g;have g:=List.nodup_cons.1 g;simp only[List.eraseIdx_zero,List.tail_cons];rw[n];congr 1;unfold iw;rw[AT];simp only[b,decide_true,Lo,CA,if_false];refine(List.filter_eq_self.2 λC w=>?_).symm;simp only[CI,decide_eq_false_iff_not];rintro rfl;exact g.1 (by show p.1∈_;rw[b];exact N3 (f:=Prod.fst) w)
  ·rcases Oz a v c m (i+1) n with⟨q,r,s,k,y⟩|⟨d,u,q,r,⟨z,s,A⟩,B,k⟩
   ·refine .inl ⟨?_,?_,?_,?_,?_⟩
    ·unfold Instr.findNow;rw[o,decide_eq_false (λe=>b e.symm)];exact q
    ·rw[Gp,if_neg b];exact r
    ·unfold Tp;rw[if_neg b,s];rfl
    ·unfold iw at k ⊢;rw[AT];simp[b];simpa using k
    ·intro x t;rcases List.mem_cons.1 t with rfl|t
     ·rw[j];intro e;injection e with _ e;exact b e
     ·exact y x t
   ·refine .inr ⟨d+1,u,?_,?_,⟨z,by simpa using s,A⟩,?_,?_⟩
    ·unfold Instr.findNow;rw[o,decide_eq_false (λe=>b e.symm)];rw[show i+(d+1)=i+1+d by omega];exact q
    ·rw[Gp,if_neg b];exact r
    ·unfold Tp;rw[if_neg b];simp[j,l,B]
    ·intro g;have g:=List.nodup_cons.1 g;have:=k g.2;unfold iw at this ⊢;rw[AT];simp[b,j,l];simpa using this
section
variable {P : Q1} {kd : IntKind}
theorem GZ {a:Q7}(c:P.underlying a=some (.int kd))(d:Bool)(e:Nat)(f:Int)(b:World):(Instr.checkKey d (e+1) a (.int kd f)).run P b= .ok () b:=by simp[Instr.checkKey,BN c]
theorem MX {g:al}{t h i:Q7}{z:J0}(j:P.underlying t=some (.map h i))(c:P.underlying h=some (.int kd))(n:(zeroValue i).calc P=some z){a:aa}{b:Nat}{m:List (Int×J0)}{d:Int}{K:A2L}
  (M:Tg kd a b m) (o:K ((MK d m).getD z) a):BG g P (Instr.lookup t (.map (some b)) (.int kd d) false) a K:=by
 intro k;refine⟨_,a,k,?_,o⟩;obtain⟨p,v,q,s⟩:=M;have l:=MapKept.run_getObj_map (P:=P) (w:=g.at a k) (r:=b) q;rcases Oz d z p.toList m 0 s.same with⟨e,f,_⟩|⟨x,u,e,f,_,_⟩
 ·simp[Instr.lookup,BN j,l,GZ c,Instr.findKey,BN c,e,f,Result.andThen,DN n]
 ·simp[Instr.lookup,BN j,l,GZ c,Instr.findKey,BN c,e,f,Result.andThen]
theorem AKi {g:al}{t q G:Q7}(s:P.underlying t=some (.map q G))(h:P.underlying q=some (.int kd)){a:aa}{b:Nat}{m:List (Int×J0)}{d:Int}{v:J0}{K:aa->Prop}
  (M:Tg kd a b m) (O:m.length<maxLen) (y: ∀i,Tg kd i b (Tp d v m)->Mod (λc=>c=b) a i->i.size=a.size->K i):gT g P (Instr.mapUpdate t (.map (some b)) (.int kd d) v) a K:=by
 intro f;obtain⟨j,l,n,e⟩:=M;have z:=Aj n;have A:=MapKept.run_getObj_map (P:=P) (w:=g.at a f) (r:=b) n;have B: ∀k,(setObj b k).run P (g.at a f)= .ok () (g.at (a.setIfInBounds b k) f):=λk=>MapKept.run_setObj_map (P:=P) (w:=g.at a f) k n
 have Q:=e.len;rcases Oz d v j.toList m 0 e.same with⟨o,H,p,_,I⟩|⟨C,u,o,H,⟨J,p,D⟩,L,_⟩
 ·refine⟨a.setIfInBounds b (.map (j.push {key:= .int kd d,val:=v,born:=l}) (l+1)),f,?_,y _ ⟨_,_,Cf z,?_,MapKept.stamped_push e.stamped I,by simp;omega⟩ (Mod.setObj rfl) (by simp)⟩
  ·simp[Instr.mapUpdate,BN s,A,GZ h,Instr.findKey,BN h,o,Result.andThen,B]
  ·rw[p];simp[e.same]
 ·have E:j[C]? =some J:=by simpa using p
  refine⟨a.setIfInBounds b (.map (j.modify C λe=> {e with key:= .int kd d,val:=v}) l),f,?_,y _ ⟨_,_,Cf z,?_,MapKept.stamped_modify e.stamped _ _ (λ_ _=>rfl) (λx _ F=>?_),by simpa using e.size⟩ (Mod.setObj rfl) (by simp)⟩
  ·have N: ∀w,(Instr.keyThatStays (.int kd d) (.int kd d)).run P w= .ok (.int kd d) w:=λw=>by
    simp[Instr.keyThatStays,Instr.sameBits]
   simp[Instr.mapUpdate,BN s,A,GZ h,Instr.findKey,BN h,o,E,D,N,Result.andThen,B]
  ·rw[Hv];exact L
  ·rw[E] at F;cases F;exact D.symm
theorem AKa {g:al}{t k B C:Q7}(s:P.underlying t=some (.map k B))(h:P.underlying k=some (.int kd)){a:aa}{b:Nat}{m:List (Int×J0)}{l:Int}{K:A2L}
  (M:Tg kd a b m) (v: ∀i,Tg kd i b (iw l m)->Mod (λc=>c=b) a i->i.size=a.size->K (J1 #[]) i):BG g P (Builtin.delete_ #[t,k] C #[.map (some b),.int kd l]) a K:=by
 intro e;obtain⟨f,x,n,d⟩:=M;have y:=Aj n;have z:=MapKept.run_getObj_map (P:=P) (w:=g.at a e) (r:=b) n;have A: ∀j,(setObj b j).run P (g.at a e)= .ok () (g.at (a.setIfInBounds b j) e):=λj=>MapKept.run_setObj_map (P:=P) (w:=g.at a e) j n
 rcases Oz l (J3 true) f.toList m 0 d.same with⟨o,D,_,p,_⟩|⟨q,u,o,D,⟨E,F,I⟩,_,p⟩
 ·refine⟨_,a.setIfInBounds b (.map f x),e,?_,v _ ⟨_,_,Cf y,by rw[p];exact d.same,d.stamped,d.size⟩ (Mod.setObj rfl) (by simp)⟩;simp[Builtin.delete_,BN s,z,GZ h,Instr.findKey,BN h,o,Result.andThen,A]
 ·have G:f[q]? =some E:=by simpa using F
  refine⟨_,a.setIfInBounds b (.map (f.eraseIdxIfInBounds q) x),e,?_,v _ ⟨_,_,Cf y,?_,MapKept.stamped_erase d.stamped _,?_⟩ (Mod.setObj rfl) (by simp)⟩
  ·simp[Builtin.delete_,BN s,z,GZ h,Instr.findKey,BN h,o,Result.andThen,A]
  ·have H:=(Array.getElem?_eq_some_iff.1 G).1;rw[Array.eraseIdxIfInBounds,dif_pos H,A0e];exact p d.nodup
  ·have:(f.eraseIdxIfInBounds q).size<=f.size:=by unfold Array.eraseIdxIfInBounds;split<;>simp
   have:=d.size;omega
end
theorem xM(b c:Int): ∀m:List (Int×J0),MK c (iw b m)=if b=c then none else MK c m
 | []=>by simp[MK,iw]
 |p::m=>by
  have e:=xM b c m;unfold iw at e ⊢;rw[AT,Gp];by_cases d:p.1=b
  ·rw[if_neg (by simp[d]),e];by_cases a:b=c
   ·rw[if_pos a,if_pos a]
   ·rw[if_neg a,if_neg a,if_neg (λf=>a (d.symm.trans f))]
  ·rw[if_pos (by simp[d]),Gp,e];by_cases a:p.1=c
   ·rw[if_pos a,if_pos a,if_neg (λf=>d (a.trans f.symm))]
   ·rw[if_neg a,if_neg a]
theorem APv {a:Int}{m:List (Int×J0)}:(iw a m).length<=m.length:=A0n _ _
theorem YO {k:Int}{v:J0}: ∀ {m:List (Int×J0)},(Tp k v m).length<=m.length+1
 | []=>by simp[Tp]
 |p::m=>by
  unfold Tp;split
  ·simp
  ·have:=YO (k:=k) (v:=v) (m:=m);simp only[A6];omega
section
variable {P : Q1} {kd : IntKind}
theorem xN {i:al}{t O Q:Q7}{z:J0}(R:P.underlying t=some (.map O Q))(A:P.underlying O=some (.int kd))(Y:(zeroValue Q).calc P=some z){f:aa}{b:Nat}{m:List (Int×J0)}{g:Int}{v:J0}{K:aa->Prop}
  (M:Tg kd f b m) (ak:m.length<maxLen) (S: ∀B,Tg kd B b (Tp g v m)->Mod (λc=>c=b) f B->B.size=f.size->K B):
  BG i P (Instr.mapEntry t (.map (some b)) (.int kd g)) f λw n=> ∃x u:J0,w=J1 #[x,u]/\ ∃st:Int,u=J6 J9 st/\(gT i P (Instr.entryStore t (.map (some b)) (J6 J9 st) v) n λZ=>K Z):=by
 intro y;obtain⟨e,d,E,h⟩:=M;have T:=Aj E;have U:=MapKept.run_getObj_map (P:=P) (w:=i.at f y) (r:=b) E;have V: ∀k,(setObj b k).run P (i.at f y)= .ok () (i.at (f.setIfInBounds b k) y):=λk=>MapKept.run_setObj_map (P:=P) (w:=i.at f y) k E
 have am:=h.len;obtain⟨ab,W,_⟩:=h.stamped;rcases Oz g v e.toList m 0 h.same with⟨F,ac,p,_,ad⟩|⟨j,u,F,ac,⟨q,p,C⟩,ae,_⟩
 ·refine⟨J1 #[z,goInt d],f.setIfInBounds b (.map (e.push ⟨.int kd g,z,d⟩) (d+1)),y,?_,z,goInt d,rfl,(d:Int),rfl,λo=>?_⟩
  ·simp[Instr.mapEntry,BN R,U,GZ A,Instr.findKey,BN A,F,Result.andThen,DN Y,V]
  have s:(f.setIfInBounds b (.map (e.push ⟨.int kd g,z,d⟩) (d+1)))[b]? =some (.map (e.push ⟨.int kd g,z,d⟩) (d+1)):=Cf T;have G:Mod (λc=>c=b) f (f.setIfInBounds b (.map (e.push ⟨.int kd g,z,d⟩) (d+1))):=Mod.setObj rfl;have af:(f.setIfInBounds b (.map (e.push ⟨.int kd g,z,d⟩) (d+1))).size=f.size:=by simp
  generalize f.setIfInBounds b (.map (e.push ⟨.int kd g,z,d⟩) (d+1))=n at*
  have H:=Aj s;have I:=MapKept.run_getObj_map (P:=P) (w:=i.at n o) (r:=b) s;have J: ∀k,(setObj b k).run P (i.at n o)= .ok () (i.at (n.setIfInBounds b k) o):=λk=>MapKept.run_setObj_map (P:=P) (w:=i.at n o) k s
  have L:(e.push ⟨.int kd g,z,d⟩).findIdx? (λh=>((h.born:Nat):Int)==((d:Nat):Int))=some e.size:=by
   rw[WideElems.findIdx_arr];exact WideElems.findIdx_born (l:=(e.push ⟨.int kd g,z,d⟩).toList) (j:=e.size) (e0:=⟨.int kd g,z,d⟩) (by
    simp only[RK,C2,BW,RM];refine List.nodup_append.2 ⟨W,by simp,λa ag c ah an=>?_⟩;simp only[HM] at ah;obtain⟨x,D,rfl⟩:=List.mem_map.1 ag;have:=ab x D;omega) (by simp)
  have N:(e.push ⟨.int kd g,z,d⟩).modify e.size (λh=> {h with val:=v})=e.push ⟨.int kd g,v,d⟩:=by apply Nx;rw[Hv,RK,RK,<-Ek,WideElems.modify_last]
  refine⟨n.setIfInBounds b (.map (e.push ⟨.int kd g,v,d⟩) (d+1)),o,?_,S _ ⟨_,_,Cf H,?_,MapKept.stamped_push h.stamped ad,by simp;omega⟩ (G.trans (Mod.setObj rfl)) (by simp;omega)⟩
  ·simp[Instr.entryStore,I,asInt,asIntOf,goInt,L,N,J,Result.andThen]
  ·rw[p];simp[h.same]
 ·have X:e[j]? =some q:=by simpa using p
  have ai:e.modify j (λh=> {h with key:= .int kd g})=e:=by
   apply Nx;rw[Hv,ChangeMaps.modify_eq_set _ _ _ _ p];have:({q with key:= .int kd g}:MapEntry)=q:=by rw[<- C]
   rw[this];exact WideElems.set_self _ _ _ p
  have aj: ∀w,(Instr.keyThatStays (.int kd g) (.int kd g)).run P w= .ok (.int kd g) w:=λw=>by
   simp[Instr.keyThatStays,Instr.sameBits]
  refine⟨J1 #[u,goInt q.born],f.setIfInBounds b (.map e d),y,?_,u,goInt q.born,rfl,(q.born:Int),rfl,λo=>?_⟩
  ·simp[Instr.mapEntry,BN R,U,GZ A,Instr.findKey,BN A,F,X,C,aj,ai,Result.andThen,V]
  have s:(f.setIfInBounds b (.map e d))[b]? =some (.map e d):=Cf T;have G:Mod (λc=>c=b) f (f.setIfInBounds b (.map e d)):=Mod.setObj rfl;have af:(f.setIfInBounds b (.map e d)).size=f.size:=by simp
  generalize f.setIfInBounds b (.map e d)=n at*
  have H:=Aj s;have I:=MapKept.run_getObj_map (P:=P) (w:=i.at n o) (r:=b) s;have J: ∀k,(setObj b k).run P (i.at n o)= .ok () (i.at (n.setIfInBounds b k) o):=λk=>MapKept.run_setObj_map (P:=P) (w:=i.at n o) k s
  have L:e.findIdx? (λh=>((h.born:Nat):Int)==((q.born:Nat):Int))=some j:=by rw[WideElems.findIdx_arr];exact WideElems.findIdx_born W p
  have N:e.modify j (λh=> {h with val:=v})=e.modify j (λh=> {h with key:= .int kd g,val:=v}):=by apply Nx;rw[Hv,Hv,ChangeMaps.modify_eq_set _ _ _ _ p,ChangeMaps.modify_eq_set _ _ _ _ p,<-C]
  refine⟨n.setIfInBounds b (.map (e.modify j λh=> {h with key:= .int kd g,val:=v}) d),o,?_,S _ ⟨_,_,Cf H,?_,MapKept.stamped_modify h.stamped _ _ (λ_ _=>rfl) (λx _ D=>?_),by simpa using h.size⟩ (G.trans (Mod.setObj rfl)) (by simp;omega)⟩
  ·simp[Instr.entryStore,I,asInt,asIntOf,goInt,L,N,J,Result.andThen]
  ·rw[Hv];exact ae
  ·rw[X] at D;cases D;exact C.symm
end
end Go.Lf
namespace Go.Lf.G
open Go
def CF(a:Nat):A2M:=AX [Bl 108,Bl a]
def KO(a:Nat)(name:A2M):A2M:=AX (Bb a++BI (bl name))
theorem Kz(a:Nat):(CF a).size=2:=rfl
theorem AM8(a:Nat):CF a≠⟨#[]⟩:=λb=>by have:=congrArg ByteArray.size b;rw[Kz] at this;cases this
theorem ADU {m a:Nat}(c:m<256)(d:a<256)(h:CF m=CF a):m=a:=by have b:=Mx.1 h;simp only[GC,and_true,true_and] at b;have:=congrArg UInt8.toNat b;rwa [Dc c,Dc d] at this
theorem ALA {a:Nat}{name:A2M}(d:a<=2147483647)(b:Ak name=true):(KO a name).size<=8192:=by have e:=(Gn.1 b).2.1;have f:=AV (n:=a) (by omega);have c:=AV (n:=(bl name).length) (by rw[BB];omega);unfold KO BI;rw[AP,A1,A1,BB];rw[BB] at c;omega
section
variable {A : al} {h : aa} {R : A2L}
theorem Tm {a:Nat}(b:a<256)(e: ∀c,Ext h c->R (J7 (CF a)) c):AA A P IR #[J6 J9 (a:Int)] h R:=by
 refine AEb ?_;unfold ZN;refine WH ?_;unfold Ru;refine ao.mk λd _ f g j=>?_
 have v1:View Hr d ⟨some ⟨h.size,0,none⟩,1,1⟩ [Bl a]:=(Own.lit (E:=Hr) (l:= [Bl a]) f (by simp[Hr,Dc b,wrap_u8,AE b]) (by simp[maxLen])).view;refine LA (s:=⟨some ⟨h.size,0,none⟩,1,1⟩) lA lz Pt v1 ⟨_,rfl,⟨_,rfl,⟨by rw[AP,max_i64,show(⟨#[108]⟩:A2M).size=1 from rfl];simp,?_⟩⟩⟩;have i:(⟨#[108]⟩:A2M)++AX [Bl a]=CF a:=by rw[show(⟨#[108]⟩:A2M)=AX [Bl 108] from rfl,Ao];rfl
 rw[i];exact e d g
theorem pj {a:Nat}{name:A2M}(k:1<=a)(m:a<=2147483647)(b:Ak name=true)(f: ∀c,Ext h c->R (J1 #[J7 (KO a name),J6 J9 0]) c):AA A P LG #[J6 J9 (a:Int),J7 name] h R:=by
 obtain⟨l,rfl⟩: ∃l,name=AX l:=⟨_,(EG name).symm⟩;have d:=(Gn.1 b).2.1;rw[AP] at d;refine AGi ?_;unfold vt;refine ai.mk λK g=>af.no (decide_eq_false (by omega)) (af.no (decide_eq_false (by omega)) (Eg ⟨_,rfl,g _ _ (af.no (by rw[b];rfl) ?_)⟩))
 rw[Bt (by omega)];have e:=AV (n:=a) (by omega);have o:=AV (n:=l.length) (by omega);refine CU (by omega) λd i=>⟨_,rfl,?_⟩
 refine PY (l:=l) (by omega) λe j=>⟨_,rfl,⟨?_,?_⟩⟩
 ·rw[AP,AP,max_i64];unfold BI;rw[A1];omega
 ·rw[Ao];have:=f e (i.trans j);unfold KO at this;rwa [show bl (AX l)=l from BX l] at this
theorem ANf {r:Nat}{name:A2M}(j:1<=r)(a:r<=2147483647)(b:Ak name=true)(k: ∀d,Ext h d->R (J1 #[J6 J9 (r:Int),J7 name,J6 J9 0]) d):AA A P QE #[J7 (KO r name)] h R:=by
 have m:=b;obtain⟨l,rfl⟩: ∃l,name=AX l:=⟨_,(EG name).symm⟩;have o:=(Gn.1 b).2.1;rw[AP] at o;have w:=AV (n:=r) (by omega);have x:=AV (n:=l.length) (by omega);have y:(BI l).length<=26:=by unfold BI;rw[A1];omega
 refine AD6 ?_;unfold Wu KO;rw[show bl (AX l)=l from BX l];refine KP (l:=Bb r++BI l) λz p q=>⟨_,rfl,?_⟩
 refine De (most:=2147483647) p (by simp only[A1];omega) (by decide) λB e s=>⟨_,rfl,?_⟩
 rw[Co (by omega) a] at e ⊢;refine Hm e (by dsimp only;omega) λt f u=>⟨_,rfl,?_⟩
 have g:=Ij (l:=l) (by omega) [];rw[AK] at g;rw[g] at f ⊢;refine pj j a m λhd i=>⟨_,_,rfl,?_⟩
 refine ai.mk λK v=>af.no rfl (Mg (r:=⟨[],false⟩) (i.ag f λh=>h) ⟨_,rfl,v _ _ (af.no rfl ?_)⟩)
 exact k hd ((q.then ((s.trans u).aj λc _ t=> .inr (by omega))).trans i)
end
theorem uc: ∀(k a:Nat),Jm (k+1) a=Bl (a / 256^k)::Jm k a
 |0,a=>by rw[Jm,Jm];simp[Jm]
 |k+1,a=>by
  rw[Jm,uc k (a / 256),DH];show Bl (a / 256 / 256^k)::(Jm k (a / 256)++ [Bl a])=_;rw[Ts,show 256*256^k=256^(k+1) from by rw[DP,CT]];rfl
theorem ud(m:Nat):(m:Int).fdiv ((2:Int)^(8:Nat))=((m / 256:Nat):Int):=by rw[show((2:Int)^(8:Nat))=256 from by decide,TO _ (by decide)];omega
section
variable {A : al} {h : aa} {R : A2L}
theorem Vg {n:Nat}(r: ∀o,Ext h o->R (J7 (AX (Jm 8 n))) o):AA A P Jv #[.int .u64 (n:Int)] h R:=by
 refine AE9 ?_;unfold Zb;refine xu (E:=Hr) (x0:=0) (v:= .int .u8 0) (n:=8) Vp zr rfl rfl rfl (by omega) (by simp only[maxLen];omega) λt u w D=>?_
 dsimp only;refine Loop.rule (λm x d=> ∃i:Nat,x=(((n / 256^i:Nat):Int),(i:Int),())/\m=8-i/\i<=8/\Mod (λc=>c=h.size) t d/\Own Hr EI d ⟨some ⟨h.size,0,none⟩,8,8⟩ (List.replicate (8-i) 0++Jm i n)) ?_ ⟨0,by simp,rfl,by omega,Mod.refl,by simpa [Jm] using u⟩;rintro F m _ d ⟨i,rfl,rfl,G,p,f⟩ y;dsimp only;refine af.intro (λg=>?_) (λg=>?_)
 ·have k:i<8:=by simp at g;omega
  rw[wrap_i64 (by omega) (by omega),show(7:Int)-(i:Int)=((7-i:Nat):Int) from by omega,ud,Ab (by omega),Ts,<-DP];have ah:(List.replicate (8-i) (0:UInt8)++Jm i n)[7-i]? =some 0:=by rw[GF (by simp;omega),List.getElem?_replicate,if_pos (by omega)]
  refine f.view.idx ah λa z H=>?_
  rw[As,<-add_zero (a.add ((7-i)*1)),wrap_u8];refine Own.store (E:=Hr) (i:=7-i) (j:=0) (x:=0) (x':=Bl (n / 256^i)) (v:= .int .u8 ((n / 256^i % 256:Nat):Int)) f ah (by show [Value.int .u8 _]=_;rw[RD,Dc (by omega)];rfl) (by decide) (λI q B J=>?_) a z;refine y (8-(i+1)) _ _ (by omega) ⟨i+1,rfl,rfl,k,p.trans (B.aj λb _ e=>?_),?_⟩
  ·simp[Sl.ag] at e;exact e.symm
  ·have C:(List.replicate (8-i) (0:UInt8)++Jm i n).set (7-i) (Bl (n / 256^i))=List.replicate (8-(i+1)) 0++Jm (i+1) n:=by rw[uc,show 8-i=(7-i)+1 from by omega,List.replicate_succ',A4,HN _ _ (by simp),List.length_replicate,LO,show 8-(i+1)=7-i from by omega];rfl
   rw[C] at q;exact q
 ·have k:i=8:=by simp at g;omega
  subst k;refine LA Vp zt zu (s:=⟨some ⟨h.size,0,none⟩,8,8⟩) (l:=Jm 8 n) (by simpa using f.view) ⟨_,rfl,?_⟩;exact r d (w.more p λb e=>by subst e;exact A0 _)
theorem nR {wid:A2M}(e:wid.size<=1000000)(b: ∀a,Ext h a->R (J7 (Gb wid)) a):AA A P Ih #[J7 wid] h R:=by
 refine ACa ?_;unfold XB;have f:=AV (n:=(bl wid).length) (by rw[BB];omega);refine MP (by omega) λc d=>⟨_,rfl,⟨?_,?_⟩⟩
 ·rw[AP,max_i64];unfold BI;rw[A1,BB] at*
  rw[show(⟨#[104]⟩:A2M).size=1 from rfl];omega
 ·rw[show(⟨#[104]⟩:A2M)=AX [kE] from rfl,Ao];exact b c d
theorem ue {wid:A2M}{id:Nat}(b:wid.size<=1000000)(c:id<18446744073709551616)(d: ∀a,Ext h a->R (J7 (eA wid id)) a):AA A P OA #[J7 wid,J6 J9 (id:Int)] h R:=by
 refine AEf ?_;unfold YF;refine nR b λi e=>⟨_,rfl,?_⟩
 rw[if_neg (by omega),Bt c];have j:=AV (n:=(bl wid).length) (by rw[BB];omega);refine Vg λf g=>⟨_,rfl,⟨⟨by decide,by rw[AP,LM];decide⟩,?_⟩⟩
 rw[show(AX (Jm 8 id)).extract (4:Int).toNat (AX (Jm 8 id)).size=AX (Jm 4 id) from rU (Jm 8 id) 4];refine⟨?_,?_⟩
 ·unfold Gb lr BI;rw[AP,AP,LM,max_i64];simp only[A6,A1,BB] at*
  omega
 ·have:=d f (e.trans g);unfold Gb;rw[Ao];exact this
theorem R7 {wid:A2M}(c:wid.size<=1000000)(a:R (J7 (Es wid)) h):AA A P FU #[J7 wid] h R:=by
 refine AHe ?_;unfold vg;refine⟨by rw[max_i64,show(⟨#[119]⟩:A2M).size=1 from rfl];omega,?_⟩;have b:(⟨#[119]⟩:A2M)++wid=Es wid:=by
  conv=>lhs;rw[<- EG wid]
  rw[show(⟨#[119]⟩:A2M)=AX [119] from rfl,Ao];rfl
 rw[b];exact a
theorem uf {a:A2M}(d:a.size<=1000000)(b:R (J7 (JO a)) h):AA A P Ka #[J7 a] h R:=by
 refine AAY ?_;unfold TD;refine⟨by rw[max_i64,show(⟨#[114]⟩:A2M).size=1 from rfl];omega,?_⟩;have c:(⟨#[114]⟩:A2M)++a=JO a:=by
  conv=>lhs;rw[<- EG a]
  rw[show(⟨#[114]⟩:A2M)=AX [114] from rfl,Ao];rfl
 rw[c];exact b
theorem qt {a:Nat}(b:a<256)(e: ∀c,Ext h c->R (J7 (AX [Bl a])) c):AA A P L8 #[J6 J9 (a:Int)] h R:=by
 refine WH ?_;unfold Ru;refine ao.mk λd _ f g i=>?_
 have v1:View Hr d ⟨some ⟨h.size,0,none⟩,1,1⟩ [Bl a]:=(Own.lit (E:=Hr) (l:= [Bl a]) f (by
  show [Value.int .u8 (J8 .u8 (a:Int))]= [Value.int .u8 ((Bl a).toNat:Int)];rw[wrap_u8,Dc b,AE b]) (by simp[maxLen])).view
 exact LA (s:=⟨some ⟨h.size,0,none⟩,1,1⟩) lA lz Pt v1 ⟨_,rfl,e d g⟩
theorem AQK {a id:Nat}(c:a<256)(d: ∀b,Ext h b->R (J7 (Ko a id)) b):AA A P Kg #[J6 J9 (a:Int),.int .u64 (id:Int)] h R:=by
 refine Zu ?_;unfold TE;refine Yt ?_;unfold RU;refine qt c λi e=>⟨_,rfl,⟨by rw[AP,max_i64];show((2:Nat):Int)<=9223372036854775807;decide,⟨_,rfl,?_⟩⟩⟩
 rw[show(⟨#[116]⟩:A2M)=AX [116] from rfl,Ao];refine Vg λf g=>⟨_,rfl,⟨by rw[AP,AP,LM,max_i64];show((10:Nat):Int)<=9223372036854775807;decide,?_⟩⟩
 rw[Ao];exact d f (e.trans g)
theorem AQE {a id t:Nat}(c:a<256)(d:t<18446744073709551616)(e: ∀b,Ext h b->R (J7 (CZ a t id)) b):AA A P OW #[J6 J9 (a:Int),J6 J9 (t:Int),.int .u64 (id:Int)] h R:=by
 refine AEt ?_;unfold Yh;refine UF ?_;unfold Qc;refine qt c λk f=>⟨_,rfl,⟨by rw[AP,max_i64];show((2:Nat):Int)<=9223372036854775807;decide,⟨_,rfl,?_⟩⟩⟩
 rw[show(⟨#[109]⟩:A2M)=AX [109] from rfl,Ao,if_neg (by omega),Bt d];refine Vg λl g=>⟨_,rfl,⟨by rw[AP,AP,LM,max_i64];show((10:Nat):Int)<=9223372036854775807;decide,?_⟩⟩
 rw[Ao];refine Vg λi j=>⟨_,rfl,⟨by rw[AP,AP,A1,LM,max_i64];show((18:Nat):Int)<=9223372036854775807;decide,?_⟩⟩
 rw[Ao];exact e i ((f.trans g).trans j)
theorem nS {m:cQ}{st nx:Nat}(f:m.status=(st:Int))(g:m.next=(nx:Int))(s:st<128)(t:nx<=501)(i: ∀d,Ext h d->R (J7 (I1 st nx m.kept)) d):AA A P Dt #[m.v] h R:=by
 refine Xv ?_;unfold Pm;have u:=G6 (n:=st) (by omega);have v:=G6 (n:=nx) (by omega);refine ao.mk λj _ b k w=>ai.mk λK l=>?_
 have key: ∀n:Nat,n=(if m.kept then 1 else 0)->K ((n:Int),()) j:=λn c=>by
  refine l _ _ (AC.mk (AL b rfl) (AC.mk (AB b rfl) ?_));have x:(Bb n).length<=2:=G6 (by split at c<;>omega);rw[f,Bt (by omega)];refine CU (by omega) λy e=>⟨_,rfl,?_⟩
  have o:=e.ag b (λh=>h);refine⟨AB o rfl,?_⟩;rw[g,Bt (by omega)];refine CU (by omega) λz p=>⟨_,rfl,⟨by rw[AP,AP,max_i64];omega,?_⟩⟩
  rw[Ao];refine CU (by split at c<;>omega) λq r=>⟨_,rfl,⟨by rw[AP,AP,A1,max_i64];omega,?_⟩⟩
  rw[Ao,A4];have:=i q (((k.trans e).trans p).trans r);unfold I1 at this;rw[<- c] at this;exact this
 refine AZ.mk (AB b rfl) (af.intro (λa=>?_) (λa=>?_))
 ·have a:m.kept=true:=a;exact key 1 (by rw[a];rfl)
 ·have a:m.kept=false:=a;exact key 0 (by rw[a];rfl)
theorem ug {st nx:Nat}{a:Bool}(s:st<=4)(O:2<=nx)(t:nx<=501)(u: ∀l,Ext h l->R (J1 #[(⟨(st:Int),(nx:Int),a⟩:cQ).v,J6 J9 0]) l):AA A P O9 #[J7 (I1 st nx a)] h R:=by
 refine ABk ?_;unfold Tn;refine ao.mk λv _ m o Q=>?_
 unfold I1;have S:=G6 (n:=st) (by omega);have T:=G6 (n:=nx) (by omega);have U:(Bb (if a then 1 else 0)).length<=2:=G6 (by split<;>omega);have w:CE 1 ⟨Bb (if a then 1 else 0),false⟩=((if a then 1 else 0),⟨[],false⟩):=by have:=Co (n:=if a then 1 else 0) (most:=1) (by split<;>omega) (by split<;>omega) [];rwa [AK] at this
 refine KP λx p d=>⟨_,rfl,?_⟩
 refine De (most:=4) p (by simp only[A1];omega) (by decide) λV y e=>⟨_,rfl,?_⟩
 rw[Co (by omega) s] at*
 refine De (most:=501) y (by simp only[A1];omega) (by decide) λW z f=>⟨_,rfl,?_⟩
 rw[Co (by omega) t] at*
 refine De (most:=1) z (by simp only;omega) (by decide) λB C g=>⟨_,rfl,?_⟩
 rw[w] at*
 refine ao.mk λX _ D i Y=>aL.mk D (A0 3) λj q k Z=>?_
 have aa:=Aj m;have ab:=d.size;have ac:=e.size;have ad:=f.size;have ae:=g.size;have E:j[h.size]? =some (J2 cQ.z.c IC (0,0)):=k.ag (i.ag (g.ag (f.ag (e.ag (d.ag m (λh=>h)) (by omega)) (by omega)) (by omega)) (λh=>h)) (by omega);have F:Ir j v.size ⟨[],false⟩:=k.ag (i.ag C (λh=>h)) (by have:=Aj p;omega);have G:Ext h j:=by
  have H:Ext h x:=o.trans d;have r:Ext h B:=H.more ((e.trans f).trans g) λc b=>by subst b;exact o.size
  exact(r.trans i).more k λc b=>by subst b;exact r.size
 refine ai.mk λK I=>Mg F ⟨_,rfl,af.no rfl (AC.mk (AB q rfl) (I _ _ (af.no (decide_eq_false (by show ¬((nx:Int)<2);omega)) ?_)))⟩
 have J:(((if a then 1 else 0:Nat):Int)==(1:Int))=a:=by cases a<;>rfl
 refine Jz.mk ⟨(st:Int),(nx:Int),_⟩ (Dn q rfl) (aL.mk E (A0 3) λL M N ag=>Jz.mk ⟨(st:Int),(nx:Int),_⟩ (Dn M rfl) ?_);rw[J];exact u L (G.more N λc b=>by subst b;exact A0 _)
def BA(wid:A2M)(a:Nat):Nat:=mQ wid / 256 % a
theorem Sq {wid:A2M}{a:Nat}(d:wid.size<=1000000)(e:1<=a)(f:a<=16)(b:R (J1 #[J6 J9 (BA wid a:Int),J6 J9 0]) h):AA A P OC #[J7 wid,J6 J9 (a:Int)] h R:=by
 refine AFD ?_;unfold ZF;refine ai.mk λK c=>af.no (decide_eq_false (by omega)) ?_
 refine c _ _ (af.no (decide_eq_false (by omega)) (su (by omega) ⟨_,_,rfl,⟨by omega,?_⟩⟩));have g:=(yh wid);rw[ud,wrap_i64 (by omega) (by omega)];exact b
end
def gw(p f:A2M):A2M:=if aO p f then f else p
theorem ATR(p f b:A2M):aO b (gw p f)=false↔aO b p=false/\aO b f=false:=by
 unfold gw;split
 ·rename_i c;refine⟨λa=>⟨?_,a⟩,λa=>a.2⟩;cases d:aO b p
  ·rfl
  ·rw[Da d c] at a;cases a
 ·rename_i c;refine⟨λa=>⟨a,?_⟩,λa=>a.1⟩;exact Zz (by simpa using c) a
def QX(p:A2M):A2M:=⟨((eW p.data.toList).getD []).toArray⟩
theorem ATi: ∀ {p c:List UInt8},eW p=some c->c≠ []
 | [],c,b=>by cases b
 |a::p,c,b=>by
  unfold eW at b;split at b
  ·obtain rfl:=BE b;simp
  ·split at b
   ·obtain rfl:=BE b;simp
   ·cases b
theorem APb(p d:A2M):(decide (QX p=⟨#[]⟩)||aO d (QX p))=true↔ ∀a,eW p.data.toList=some a->d.data.toList<a:=by
 unfold QX;cases e:eW p.data.toList with
 |none=>simp
 |some a=>
  have f:=ATi e;have c:decide ((⟨(Option.getD (some a) []).toArray⟩:A2M)=⟨#[]⟩)=false:=decide_eq_false λc=>f (by
   have:=congrArg (λb:A2M=>b.data.toList) c;simpa using this)
  rw[c,SJ,Vr];simp
theorem AQ4(p f a:A2M):kB (gw p f) (QX p) a=(Md p a&& !aO a f):=by
 rw[DS];unfold kB;rw[A3,A3,APb,CI,ATR,LV,<-xJ,CI];rw[show(aO a p=false↔ ¬a.data.toList<p.data.toList) from by rw[Vr];simp];constructor
 ·rintro⟨⟨b,c⟩,d⟩;exact⟨⟨b,d⟩,c⟩
 ·rintro⟨⟨b,d⟩,c⟩;exact⟨⟨b,c⟩,d⟩
def jn(m:List Pr)(p f:A2M)(a:Int):List Pr:=(m.filter λx=>Md p x.key&& !aO x.key f).take a.toNat
theorem AO2(m:List Pr)(p f:A2M)(a:Int):ng m (gw p f) (QX p) a=jn m p f a:=by unfold ng RS jn;rw[HI λx _=>AQ4 p f x.key]
def CG(m:List Pr)(c:Pr):Bool:=if c.gone then !(IQ m c.key).2 else(IQ m c.key).2&&decide ((IQ m c.key).1=c.val)
open M (Sorted Ad Bu Ay Ae Am BL Ag bo A9 aM A8)
structure GK (B:cu) (g h:aa) (s:Nat) (q:Hp) (k:Nat->Nat) (st:Db) (m:Bx) (D:Bn) (aH c n:Nat):Prop where
 db:Bq B g h q k st m D aH c
 cell:h[s]? =some (J2 #[Ar q.d,J6 J9 (n:Int)] w9 (0,0))
 kz:k s=0
 base:g.size<=s
 fuel:m.fuel= -1
 ct:n<=1000000
 bx:q.b=B.bx
 dQ: ∀y,¬cG y->ff m y=B.zf y
def dt(m a l:List Pr):Int:=if a.length>64 then 2 else if Eo l≠0 then Eo l else if a.all (CG m) then 0 else 100
theorem AII {m:List Pr}{c:Pr}:CG m c= !(((IQ m c.key).2==c.gone)||((IQ m c.key).2&& !bR (IQ m c.key).1 c.val)):=by unfold CG;rw[Cn];cases c.gone<;>cases (IQ m c.key).2<;>simp
section
variable {A : al} {B : cu} {g h : aa} {s : Nat} {q : Hp} {k : Nat -> Nat} {st : Db} {m : Bx} {D : Bn} {aH c n : Nat} {R : A2L}
theorem GK.on {b:aa}(a:GK B g h s q k st m D aH c n)(x:Ext h b):GK B g b s q k st m D aH c n:=⟨a.db.on x,Ap x a.cell,a.kz,a.base,a.fuel,a.ct,a.bx,a.dQ⟩
theorem GK.beside {d:aa}{b:Nat->Prop}(a:GK B g h s q k st m D aH c n)(x:Mod b h d)(hX: ∀c,b c->k c=0/\g.size<=c)(e: ¬b s):GK B g d s q k st m D aH c n:=⟨a.db.beside x hX,x.ag a.cell e,a.kz,a.base,a.fuel,a.ct,a.bx,a.dQ⟩
theorem GK.put {d b:Nat}(a:GK B g h s q k st m D aH c n)(e:aH<=d)(f:c<=b)(i:b<=B.C):GK B g h s q k st m D d b n:=⟨a.db.put e f i,a.cell,a.kz,a.base,a.fuel,a.ct,a.bx,a.dQ⟩
theorem GK.lt(a:GK B g h s q k st m D aH c n):s<h.size:=Aj a.cell
theorem GK.step {f:aa}{d:Hp}{k':Nat->Nat}{i:Db}{e:Bx}{j:Bn}{l o:Nat}(a:GK B g h s q k st m D aH c n)(t:Bq B g f d k' i e j l o)(hd:d.d=q.d)(u:d.b=q.b)(v: ∀b,¬cG b->ff e b=ff m b)(w:e.fuel= -1)(x:Mod (λc=>k c≠0) h f)(y: ∀c,k' c≠0->k c≠0\/h.size<=c):GK B g f s d k' i e j l o n:=by
 refine⟨t,by rw[hd];exact x.ag a.cell (by rw[a.kz];simp),Decidable.byContradiction λz=>?_,a.base,w,a.ct,u.trans a.bx,λb p=>(v b p).trans (a.dQ b p)⟩;have:=a.lt;rcases y s z with r|r
 ·exact r a.kz
 ·omega
theorem sC {key:A2M}(b:GK B g h s q k st m D aH c n)(d:key.size<=1099511627776)(e: ∀a,Ext h a->R (J1 #[J7 (IQ (Cr st) key).1,J3 (IQ (Cr st) key).2,J6 J9 0]) a):AA A P Fh #[Ar s,J7 key] h R:=by refine Zx ?_;unfold TI;refine af.no rfl (aD (AY.mk (AL b.cell rfl) ?_));obtain⟨i,f,j,l⟩:=b.db.dq;exact APH b.db.mem f d λa x=>⟨_,_,_,rfl,e a x⟩
theorem AOw {p:A2M}(Q:p.size<=1099511627776)(t: ∀u,Ext h u->R (J7 (QX p)) u):AA A P VG #[J7 p] h R:=by
 refine AG2 ?_;unfold vm;have y:J8 J9 ((p.size:Int)-(1:Int))=(p.size:Int)-1:=wrap_i64 (by omega) (by omega);rw[y];have S:p.data.toList.length=p.size:=by rw[Ek];rfl
 refine Loop.rule (λv x f=> ∃b:Nat,x=((b:Int)-1,())/\v=b/\f=h/\b<=p.size/\ ∀x∈p.data.toList.drop b,¬x<255) ?_ ⟨p.size,rfl,rfl,rfl,A0 _,λx e=>by rw[HE (by omega)] at e;cases e⟩;rintro K v _ f ⟨b,rfl,T,rfl,U,o⟩ z;dsimp only;refine af.intro (λr=>?_) (λr=>?_)
 ·have V:1<=b:=by have:=of_decide_eq_true r;omega
  obtain⟨i,rfl⟩: ∃i,b=i+1:=⟨b-1,by omega⟩;have C:((i+1:Nat):Int)-1=(i:Int):=by omega
  rw[C];refine⟨by omega,?_⟩;have ah:p.data.toList[i]? =some (p.data.toList[i]'(by omega)):=A2 _;generalize F:p.data.toList[i]'(by omega)=a at*
  have G:du p (i:Int)=(a.toNat:Int):=by
   unfold du;have:p[i]? =some a:=by rw[show p[i]? =p.data[i]? from rfl,<-A0p];exact ah
   rw[show((i:Int).toNat)=i from rfl,this];rfl
  rw[G];have H:p.data.toList.drop i=a::p.data.toList.drop (i+1):=by rw[Fo (by omega),F]
  refine af.intro (λd=>?_) (λd=>?_)
  ·have d:a<255:=by rw[UInt8.lt_iff_toNat_lt];have:=of_decide_eq_true d;show a.toNat<255;omega
   have W:a.toNat<255:=UInt8.lt_iff_toNat_lt.1 d;refine⟨by omega,⟨by omega,?_⟩⟩;have I:J8 .u8 ((a.toNat:Int)+(1:Int))=((a+1).toNat:Int):=by
    rw[show(a.toNat:Int)+1=((a.toNat+1:Nat):Int) from by omega,wrap_u8];have j:(a+1).toNat=a.toNat+1:=by rw[UInt8.toNat_add];show(a.toNat+1) % 256=_;omega
    rw[j];omega
   rw[I];refine ao.mk λw _ J L X=>?_
   have v2:View Hr w ⟨some ⟨f.size,0,none⟩,1,1⟩ [a+1]:=(Own.lit (E:=Hr) (l:= [a+1]) J rfl (by simp[maxLen])).view;refine LA (s:=⟨some ⟨f.size,0,none⟩,1,1⟩) lA lz Pt v2 ⟨_,rfl,?_⟩;have M:(AX [a+1]).size=1:=AP _;have Y:(p.extract 0 i).size<=p.size:=by rw[A0H];omega
   refine⟨by rw[show(i:Int).toNat=i from rfl,M];show(((p.extract 0 i).size+1:Nat):Int)<=9223372036854775807;omega,?_⟩;have:=t w L;have N:QX p=p.extract 0 i++AX [a+1]:=by unfold QX;rw[xL ah d o];apply On;rw[Hi,Sh];apply Nx;rw[IS,Sp];show p.data.toList.take i++ [a+1]=_++(AX [a+1]).data.toList;rw[show(AX [a+1]).data.toList= [a+1] from BX _];simp
   rw[N] at this;exact this
  ·have d: ¬a<255:=λh=>by
    have:=UInt8.lt_iff_toNat_lt.1 h;have j:(255:UInt8).toNat=255:=rfl;have:=of_decide_eq_false d;omega
   rw[show J8 J9 ((i:Int)-(1:Int))=(i:Int)-1 from wrap_i64 (by omega) (by omega)];refine z i _ _ (by omega) ⟨i,rfl,rfl,rfl,by omega,λx e=>?_⟩;rw[H] at e;rcases List.mem_cons.1 e with rfl|e
   ·exact d
   ·exact o x e
 ·have O:b=0:=by have:=of_decide_eq_false r;omega
  subst O;have:=t f Mod.refl;have j:QX p=⟨#[]⟩:=by unfold QX;rw[rG (by simpa using o)];rfl
  rw[j] at this;exact this
theorem AOz {p f:A2M}{e:Int}(b:GK B g h s q k st m D aH c n)(l:p.size<=1099511627776)(o: ∀sl d,Own BO AQ d sl (jn (Cr st) p f e)->(∀ c,sl.ag=some c->h.size<=c)->Ext h d->R (J1 #[J4 sl.p sl.len sl.cap,J6 J9 0]) d):AA A P ER #[Ar s,J7 p,J7 f,J6 J9 e] h R:=by
 refine Yx ?_;unfold Q3;refine af.no rfl (aD (AY.mk (AL b.cell rfl) ?_));refine AOw l λC a=>⟨_,rfl,⟨a.ah (AL b.cell rfl),?_⟩⟩
 have i:=b.on a;obtain⟨r,t,u,E⟩:=i.db.dq;have v:(if(!aO p f)=true then p else f)=gw p f:=by unfold gw;cases aO p f<;>rfl
 rw[v];refine ARL i.db.mem r t u λsl w j x y=>⟨sl,_,rfl,?_⟩
 rw[AO2] at j;exact o sl w j (λc z=>by have:=x c z;have:=a.size;omega) (a.trans y)
theorem AOO {conds sl:Sl}{d l:List Pr}(aE:cy g)(r:GK B g h s q k st m D aH c n)(hA:aH+3<=B.A)(aF:c+64<=B.C)(aG:n+1<=1000000)(vc:View BO h conds d)(v:View BO h sl l)(aI:l≠ []-> ∀b,sl.ag=some b->b<h.size/\k b=0)(aJ: ∀x∈d,x.key.size<=1099511627776)
  (C:dt (Cr st) d l≠0-> ∀t,Ext h t->R (J6 J9 (dt (Cr st) d l)) t)
  (H:dt (Cr st) d l=0-> ∀t I U V aK aL,I.d=q.d->I.b=q.b->GK B g t s I U V aK aL (aH+3) (c+64) (n+1)->Cr V=cq (Cr st) l->Mod (λc=>k c≠0\/h.size<=c\/c=s) h t->(∀ c,U c≠0->k c≠0\/h.size<=c)->R (J6 J9 0) t):
  AA A P GG #[Ar s,J4 conds.p conds.len conds.cap,J4 sl.p sl.len sl.cap] h R:=by
 refine AB9 ?_;unfold Ug;refine af.no rfl ?_;rw[vc.len];refine af.intro (λf=>?_) (λf=>?_)
 ·have E:d.length>64:=by have:=of_decide_eq_true f;omega
  have j:dt (Cr st) d l=2:=by unfold dt;rw[if_pos E]
  have:=C (by rw[j];decide) h Mod.refl;rwa [j] at this
 have E: ¬d.length>64:=by have:=of_decide_eq_false f;omega
 refine zT (s:=sl) v λo W=>⟨_,rfl,?_⟩
 refine af.intro (λJ=>?_) (λJ=>?_)
 ·have u:Eo l≠0:=by simpa using J
  have j:dt (Cr st) d l=Eo l:=by unfold dt;rw[if_neg E,if_pos u]
  have:=C (by rw[j];exact u) o W;rwa [j] at this
 have u:Eo l=0:=by simpa using J
 have j:dt (Cr st) d l=if d.all (CG (Cr st)) then 0 else 100:=by unfold dt;rw[if_neg E,if_neg (by rw[u];simp)]
 rw[j] at C H;refine Loop.rule (λX x p=> ∃i:Nat,x=((i:Int),())/\X=d.length-i/\i<=d.length/\Ext h p/\(d.take i).all (CG (Cr st))=true) ?_ ⟨0,rfl,rfl,A5 _,W,rfl⟩;rintro K X _ p ⟨i,rfl,rfl,aV,w,L⟩ aM;have F:=r.on w;dsimp only;refine af.intro (λf=>?_) (λf=>?_)
 ·have y:i<d.length:=by have:=of_decide_eq_true f;omega
  have ah:d[i]? =some d[i]:=A2 y;have aN:=aJ d[i] (B9 y);have aO:d[i]∈d:=B9 y;have aP:d.take (i+1)=d.take i++ [d[i]]:=by rw[AD,ah];rfl
  generalize d[i]=x at*
  rw[<- vc.len];refine(vc.ext w).idx ah λa _ M=>?_
  obtain⟨M,c1,c2⟩:=M.pair;refine AJ.mk M (AJ.mk c1 (AZ.mk c2 (ao.pair λb N aW Y Z aX=>?_)));have O:=F.on Z;refine aD (AY.mk (AL O.cell rfl) (AJ.mk (AL Y rfl) ?_));obtain⟨aY,aQ,aZ,a0⟩:=O.db.dq;refine APH O.db.mem aQ aN λQ aa=>⟨_,_,_,rfl,af.no rfl ?_⟩
  have ab:=Ap aa Y;have ac:=(w.trans Z).trans aa;refine ai.mk λad ag=>?_
  have p:=AII (m:=Cr st) (c:=x);have aj:CG (Cr st) x=false->ad (true,()) Q:=λS=>ag _ _ (af.yes rfl (by
   have T: ¬d.all (CG (Cr st))=true:=λh=>by
    have:=List.all_eq_true.1 h x aO;rw[S] at this;cases this
   rw[if_neg T] at C;exact C (by decide) Q ac))
  have aR:CG (Cr st) x=true->ad (false,()) Q:=λS=>ag _ _ (af.no rfl (by
   rw[Ab (by omega)];refine aM (d.length-(i+1)) _ _ (by omega) ⟨i+1,rfl,rfl,y,ac,?_⟩;rw[aP,Ss,L];simp[S]))
  refine AZ.mk (AB ab rfl) (af.intro (λo=>?_) (λo=>?_))
  ·exact aj (by rw[p,o];rfl)
  ·refine af.intro (λG=>?_) (λG=>?_)
   ·refine AJ.mk (AB ab rfl) ?_;cases N:bR (IQ (Cr st) x.key).1 x.val with
    |true=>exact aR (by rw[p,o,G,N];rfl)
    |false=>exact aj (by rw[p,o,G,N];rfl)
   ·exact aR (by rw[p,o,G];rfl)
 ·have y:i=d.length:=by have:=of_decide_eq_false f;omega
  subst y;rw[Bm] at L;rw[if_pos L] at H;have a1:=w.size;refine aD (AY.mk (AL F.cell rfl) ?_);refine AJo (B:=B) (s:=sl) aE F.db r.fuel hA (v.ext w) (λT b ak=>by have:=aI T b ak;exact⟨by omega,this.2⟩) aF λa2 al am an ap aq ar au av aw ax aS ay az=>⟨_,rfl,?_⟩
  rw[if_pos u] at ax;have z:=F.step av ar au aS aw ay az;rw[u];refine af.no rfl (aD (AC.mk (AB z.cell rfl) (aD ?_)));rw[Ab (by have:=r.ct;omega)];simp only[Bf,AI];refine ae.mk z.cell (by simp) λaA aT aC a3=>?_
  have aU:GK B g aA s al am an ap aq (aH+3) (c+64) (n+1):=⟨av.beside aC (λc e=>by subst e;exact⟨z.kz,r.base⟩),by simpa using aT,z.kz,r.base,aw,aG,z.bx,z.dQ⟩;have ak:=r.base;refine H rfl aA al am an ap aq ar au aU ax (((w.aj λc _ e=>e.elim).trans (ay.aj λc _ e=> .inl e)).trans (aC.aj λc _ e=> .inr (.inr e))) λc e=>?_
  rcases az c e with h|h
  ·exact .inl h
  ·exact .inr (by omega)
end
section
variable {A : al} {h : aa} {R : A2L}
end
section
variable {A : al} {B : cu} {g h : aa} {m : Bx} {D : Bn} {aH c : Nat} {R : A2L}
theorem ANW {b:Nat}{Sb:Nat->Prop}(r:cy g)(t:Ce h b Sb m)(u:Ext g h)(v: ∀c,Sb c->g.size<=c)(hd:m.down=false)(w:m.fuel= -1)(y: ∀d,ff m (aC nl d)=none)(z: ∀d,ff m (aC nn d)=none)(C: ∀x,ff m x≠none->(bl x).head? ≠some 116)(hA:1<=B.A)(E:ba m.files<=B.W0)(F:b=B.bx)(G: ∀a,¬cG a->ff m a=B.zf a)
  (H: ∀e s j k l I J,j.b=b->GK B g e s j k l I J 1 0 0->Cr l= []->Mod (λc=>Sb c\/h.size<=c) h e->(∀ c,k c≠0->Sb c\/h.size<=c)->h.size<=s->R (J1 #[Ar s,J6 J9 0]) e):AA A P Sv #[Ar b] h R:=by
 refine AIk ?_;unfold uZ;refine AO9 (B:=B) r t u v hd w y z C hA E λK L M N O Q n f S T U o V=>⟨_,_,rfl,af.no rfl (ao.mk λW _ X p Z=>?_)⟩
 have Y:=f.mem.ext.size;exact H W K.size L M N O Q n ⟨f.on p,X,f.free (A0 _),Y,S,A5 _,n.trans F,λa q=>(U a q).trans (G a q)⟩ T ((o.aj λc _ i=> .inl i).trans (p.aj λc _ i=>i.elim)) V o.size
end
structure AUG where
 kind:Int
 cs:Sl
 bs:Sl
 key:A2M
 aW:A2M
 most:Int
 all:Bool
structure AUS (N:Nat) (h:aa) (x:AUG) (cl l:List Pr):Prop where
 cs:View BO h x.cs cl
 bs:View BO h x.bs l
 keys: ∀c∈cl,c.key.size<=N
 key:x.key.size<=N
section
variable {A : al} {h : aa} {R : A2L}
end
theorem mZ:P.underlying F4=some (.map Bp Bp):=by kernel_rfl
theorem na:P.underlying Ew=some (.map Bp ZZ):=by kernel_rfl
theorem iy:P.underlying Bp=some (.int J9):=by kernel_rfl
theorem pn:(zeroValue Bp).calc P=some (J6 J9 0):=by kernel_rfl
theorem pq:(zeroValue ZZ).calc P=some (.int .u64 0):=by kernel_rfl
def dG(f:Nat->Nat)(a b:Nat):Nat->Nat:=λm=>if m=a then b else f m
structure Dx (g h:aa) (k:Nat->Nat) (s p bh bu:Nat) (name:A2M) (aF:Nat) (f u:Nat->Nat) (N:Nat):Prop where
 cell:h[p]? =some (J2 #[Ar s,J7 name,J6 J9 (aF:Int),.map (some bh),.map (some bu)] SA (0,0))
 held: ∃hm,Tg J9 h bh hm/\hm.length<=N/\ ∀n:Nat,(MK n hm).getD (J6 J9 0)=J6 J9 (f n:Int)
 used: ∃um,Tg J9 h bu um/\um.length<=N/\ ∀n:Nat,(MK n um).getD (.int .u64 0)= .int .u64 (u n:Int)
 bO: ∀c,c=p\/c=bh\/c=bu->k c=0/\g.size<=c/\c≠s
 ne:bh≠bu
 named:Ak name=true
 sh:1<=aF/\aF<=16
 ct:N<=1000000
def Ga(d:List Pr)(e a:Nat)(b:A2M):Prop:=(a=0/\b=⟨#[]⟩/\(IQ d (CF e)).2=false)\/(1<=a/\a<=2147483647/\Ak b=true/\IQ d (CF e)=(KO a b,true))
section
variable {A : al} {B : cu} {g h : aa} {s p bh bu : Nat} {q : Hp} {k : Nat -> Nat} {st : Db} {m : Bx} {D : Bn} {aH c nn N : Nat} {name : A2M} {aF : Nat} {f u : Nat -> Nat} {R : A2L}
theorem Dx.lt(a:Dx g h k s p bh bu name aF f u N): ∀c,c=p\/c=bh\/c=bu->c<h.size:=by
 obtain⟨e,b,_⟩:=a.held;obtain⟨i,d,_⟩:=a.used;rintro c (rfl|rfl|rfl)
 ·exact Aj a.cell
 ·exact b.lt
 ·exact d.lt
theorem Dx.nF(a:Dx g h k s p bh bu name aF f u N):p≠bh/\p≠bu:=by
 obtain⟨i,⟨_,_,b,_⟩,_⟩:=a.held;obtain⟨j,⟨_,_,d,_⟩,_⟩:=a.used;have e:=a.cell;constructor
 ·rintro rfl;rw[e] at b;cases b
 ·rintro rfl;rw[e] at d;cases d
theorem Dx.beside {d:aa}{e:Nat->Nat}{i:Nat->Prop}(a:Dx g h k s p bh bu name aF f u N)(b:Mod i h d)(hX: ∀c,c=p\/c=bh\/c=bu-> ¬i c)(l: ∀c,c=p\/c=bh\/c=bu->e c=0):Dx g d e s p bh bu name aF f u N:=by obtain⟨n,o,r,t⟩:=a.held;obtain⟨v,w,x,y⟩:=a.used;exact⟨b.ag a.cell (hX p (.inl rfl)),⟨n,o.mod b (hX bh (.inr (.inl rfl))),r,t⟩,⟨v,w.mod b (hX bu (.inr (.inr rfl))),x,y⟩,λc j=>⟨l c j,(a.bO c j).2⟩,a.ne,a.named,a.sh,a.ct⟩
theorem Dx.on {a:aa}(b:Dx g h k s p bh bu name aF f u N)(x:Ext h a):Dx g a k s p bh bu name aF f u N:=b.beside x (λ_ _ h=>h) λc d=>(b.bO c d).1
theorem Dx.more {b:Nat}(a:Dx g h k s p bh bu name aF f u N)(r:N<=b)(d:b<=1000000):Dx g h k s p bh bu name aF f u b:=by obtain⟨e,i,t,j⟩:=a.held;obtain⟨l,n,v,o⟩:=a.used;exact⟨a.cell,⟨e,i,by omega,j⟩,⟨l,n,by omega,o⟩,a.bO,a.ne,a.named,a.sh,d⟩
theorem Dx.step {e:aa}{k':Nat->Nat}{i:Nat->Prop}(b:Dx g h k s p bh bu name aF f u N)(j:Mod i h e)(l: ∀c,i c->k c≠0\/h.size<=c\/c=s\/ ¬(c=p\/c=bh\/c=bu))(n: ∀c,k' c≠0->k c≠0\/h.size<=c):Dx g e k' s p bh bu name aF f u N:=by
 refine b.beside j (λc a o=>?_) λc a=>Decidable.byContradiction λr=>?_
 ·have d:=b.bO c a;have t:=b.lt c a;rcases l c o with h|h|h|h
  ·exact h d.1
  ·omega
  ·exact d.2.2 h
  ·exact h a
 ·have d:=b.bO c a;have t:=b.lt c a;rcases n c r with h|h
  ·exact h d.1
  ·omega
theorem ARk {s:Nat}(b:GK B g h s q k st m D aH c nn)(j:Ak name=true)(o:1<=aF/\aF<=16)
  (r: ∀a p bh bu,Dx g a k s p bh bu name aF (λ_=>0) (λ_=>0) 0->(∀ c,c=p\/c=bh\/c=bu->h.size<=c/\c<a.size)->Ext h a->R (J1 #[Ar p,J6 J9 0]) a):AA A P P7 #[Ar s,J7 name,J6 J9 (aF:Int)] h R:=by
 refine AGf ?_;unfold uY;refine ai.mk λK t=>af.no rfl (Eg ⟨_,rfl,af.no (by rw[j];rfl) (af.no (decide_eq_false (by omega)) (t _ _ (af.no (decide_eq_false (by omega)) ?_)))⟩)
 refine ao.mk λl _ v w H=>ao.mk λx _ y n I=>ao.mk λd _ z e J=>?_
 have C:=(w.trans n).trans e;have L:=b.db.mem.ext.size;have M:=b.lt;have E:d[h.size]? =some (.map #[] 0):=e.ag (n.ag v (λh=>h)) (λh=>h);have F:d[l.size]? =some (.map #[] 0):=e.ag y (λh=>h);refine r d x.size h.size l.size ⟨z,⟨[],Tg.empty E,A0 _,λG=>rfl⟩,⟨[],Tg.empty F,A0 _,λG=>rfl⟩,λc i=>?_,by omega,j,o,by omega⟩ (λc i=>?_) C
 ·have:h.size<=c:=by rcases i with rfl|rfl|rfl<;>omega
  exact⟨b.db.free this,by omega,by omega⟩
 ·rcases i with rfl|rfl|rfl<;>omega
theorem sD {a:Nat}(b:Dx g h k s p bh bu name aF f u N)(d:R (J6 J9 (f a:Int)) h):AA A P EN #[Ar p,J6 J9 (a:Int)] h R:=by obtain⟨j,e,l,i⟩:=b.held;refine V8 ?_;unfold O7;exact af.no rfl (aD (Fs.mk (AB b.cell rfl) (MX mZ iy pn e ⟨_,i a,d⟩)))
theorem APm {b:List (Int×J0)}{a d:Nat}(h: ∀m:Nat,(MK m b).getD (J6 J9 0)=J6 J9 (f m:Int))(m:Nat):(MK m (Tp a (J6 J9 (d:Int)) b)).getD (J6 J9 0)=J6 J9 (dG f a d m:Int):=by
 rw[rH];unfold dG;by_cases e:m=a
 ·subst e;rw[if_pos rfl,if_pos rfl];rfl
 ·rw[if_neg (by omega),if_neg e];exact h m
theorem AJC {b:List (Int×J0)}{a r:Nat}(h: ∀m:Nat,(MK m b).getD (.int .u64 0)= .int .u64 (f m:Int))(m:Nat):(MK m (Tp a (.int .u64 (r:Int)) b)).getD (.int .u64 0)= .int .u64 (dG f a r m:Int):=by
 rw[rH];unfold dG;by_cases d:m=a
 ·subst d;rw[if_pos rfl,if_pos rfl];rfl
 ·rw[if_neg (by omega),if_neg d];exact h m
theorem Dx.strike {d:Nat}{j:Q7}{K:A2L}(a:Dx g h k s p bh bu name aF f u N)(l: ∀b,Dx g b k s p bh bu name aF (dG f d 0) u N->Mod (λc=>c=bh) h b->K (J1 #[]) b):BG A P (Builtin.delete_ #[F4,Bp] j #[.map (some bh),J6 J9 (d:Int)]) h K:=by
 obtain⟨z,n,o,r⟩:=a.held;obtain⟨t,v,w,x⟩:=a.used;refine AKa mZ iy n λb y e C=>l b ⟨e.ag a.cell a.nF.1,⟨_,y,AG APv o,λm=>?_⟩,⟨t,v.mod e a.ne.symm,w,x⟩,a.bO,a.ne,a.named,a.sh,a.ct⟩ e
 rw[xM];unfold dG;by_cases i:m=d
 ·subst i;rw[if_pos rfl,if_pos rfl];rfl
 ·rw[if_neg (by omega),if_neg i];exact r m
theorem APN {b j:Nat}{l:A2M}(w:GK B g h s q k st m D aH c nn)(a:Dx g h k s p bh bu name aF f u N)(E:b<aF)(L:Ga (Cr st) b j l)(n: ∀o,Ext h o->R (J1 #[J6 J9 (j:Int),J7 l,J6 J9 0]) o):AA A P Lx #[Ar p,J6 J9 (b:Int)] h R:=by
 have F:=a.sh;refine XO ?_;unfold Ps;refine ai.mk λK x=>af.no rfl (af.no (decide_eq_false (by omega)) (aD (AC.mk (AB a.cell rfl) (x _ _ (af.no (decide_eq_false (by omega)) ?_)))))
 refine aD (AY.mk (AL a.cell rfl) (Tm (by omega) λr d=>⟨_,rfl,⟨AL (Ap d a.cell) rfl,?_⟩⟩));refine sC (w.on d) (by rw[Kz];omega) λt y=>⟨_,_,_,rfl,?_⟩
 have v:=d.trans y;refine ai.mk λG z=>af.no rfl (z _ _ ?_)
 rcases L with⟨rfl,rfl,e⟩|⟨r,t,i,e⟩
 ·rw[e];exact af.yes rfl (n _ v)
 ·rw[e];exact af.no rfl (ANf r t i λi C=>⟨_,_,_,rfl,n i (v.trans C)⟩)
theorem ATD {k v:A2M}(a:k≠⟨#[]⟩)(d:k.size<=64)(e:v.size<=8192):Eo [⟨k,v,false⟩]=0:=by
 have b:Ag ⟨k,v,false⟩=0:=by unfold Ag;rw[if_neg (by simp[a]),if_neg (by simp;omega)]
 unfold Eo;rw[if_neg (by simp),if_neg (by simp)];unfold GX;rw[if_neg (by rw[b];decide)];rfl
theorem AJa {d r:Nat}{av:A2M}(E:cy g)(T:GK B g h s q k st m D aH c nn)(n:Dx g h k s p bh bu name aF f u N)(aR:d<aF)(L:Ga (Cr st) d r av)(aw:r+1<=2147483647)(hA:aH+3<=B.A)(aS:c+64<=B.C)(aT:nn+1<=1000000)(aU:N+1<=1000000)
  (aV: ∀U ad k' ax aW aX,ad.d=q.d->ad.b=q.b->GK B g U s ad k' ax aW aX (aH+3) (c+64) (nn+1)->Cr ax=cq (Cr st) [⟨CF d,KO (r+1) name,false⟩]->Dx g U k' s p bh bu name aF (dG f d (r+1)) (dG u d 0) (N+1)->
   Mod (λc=>k c≠0\/h.size<=c\/c=s\/c=bh\/c=bu) h U->(∀ c,k' c≠0->k c≠0\/h.size<=c)->R (J1 #[J6 J9 ((r+1:Nat):Int),J6 J9 0]) U):
  AA A P FV #[Ar p,J6 J9 (d:Int)] h R:=by
 have bN:=n.sh;refine Te ?_;unfold Mr;refine APN T n aR L λM aY=>⟨_,_,_,rfl,af.no rfl ?_⟩
 refine Tm (by omega) λag aZ=>⟨_,rfl,?_⟩
 have ay:=aY.trans aZ;refine ao.pair λb V bO az a0 bP=>?_
 have aA:=ay.trans a0;have bQ:=ay.size;have bR:=T.db.mem.ext.size;refine ai.mk λK a1=>?_
 have aC: ∀W y z,Ext h W->W[b]? =some (J2 #[J7 (CF d),J7 y,J3 z] AQ (0,0))->CG (Cr st) ⟨CF d,y,z⟩=true->K () W:=by
  intro W y z aj a2 a3;refine a1 _ _ ?_;have bS:=T.on aj;have a4:=n.on aj;refine aD (AJ.mk (AB a4.cell rfl) ?_);rw[Ab (by omega)];refine pj (by omega) aw n.named λX aE=>⟨_,_,rfl,?_⟩
  have ak:=aj.trans aE;refine af.no rfl (ai.mk λa5 a6=>?_);have aG:=T.on ak;have al:=n.on ak;have I:=Ap aE a2;have am: ∀e O C,Ext X e->e[O]? =some (J2 #[J7 (CF d),J7 y,J3 z] AQ (0,0))->e[C]? =some (J2 #[J7 (CF d),J7 (KO (r+1) name),J3 false] AQ (0,0))->X.size<=C->
    AA A P GG #[Ar s,J4 (some (⟨O,0,none⟩:Q6)) 1 1,J4 (some (⟨C,0,none⟩:Q6)) 1 1] e λa7 an=> ∃aI:Int,a7=J6 J9 aI/\a5 (aI,()) an:=by
   intro e O C w a8 aJ a9;have ba:=aG.on w;have bb:=al.on w;have aK:=ak.trans w;have vc:View BO e ⟨some ⟨O,0,none⟩,1,1⟩ [⟨CF d,y,z⟩]:=(Own.lit (E:=BO) (l:= [⟨CF d,y,z⟩]) a8 rfl (by simp[maxLen])).view;have bc:View BO e ⟨some ⟨C,0,none⟩,1,1⟩ [⟨CF d,KO (r+1) name,false⟩]:=(Own.lit (E:=BO) (l:= [⟨CF d,KO (r+1) name,false⟩]) aJ rfl (by simp[maxLen])).view;have bd:=ATD (AM8 d) (show(CF d).size<=64 by rw[Kz];omega) (ALA aw n.named);have be:dt (Cr st) [⟨CF d,y,z⟩] [⟨CF d,KO (r+1) name,false⟩]=0:=by unfold dt;rw[if_neg (by simp),if_neg (by rw[bd];decide),if_pos (by simp[a3])]
   have bf:k C=0:=aG.db.free a9;refine AOO (B:=B) (conds:=⟨some ⟨O,0,none⟩,1,1⟩) (sl:=⟨some ⟨C,0,none⟩,1,1⟩) E ba hA aS aT vc bc (λ_ bg Y=>by
    have o:C=bg:=by simpa [Sl.ag] using Y
    subst o;exact⟨Aj aJ,bf⟩) (λx e=>by rw[List.mem_singleton.1 e];show(CF d).size<=_;rw[Kz];omega) (λbi=>absurd be bi) λ_ an bj Z bk bm bn bo bp bq br aL aM=>⟨_,rfl,a6 _ _ (af.no rfl ?_)⟩
   have bT:=aK.size;have i:=bb.step (k':=Z) aL (λc a=>by
    rcases a with h|h|h
    ·exact .inl h
    ·exact .inr (.inl h)
    ·exact .inr (.inr (.inl h))) aM
   have bs:Mod (λc=>k c≠0\/h.size<=c\/c=s\/c=bh\/c=bu) h an:=(aK.aj λc _ a=>a.elim).trans (aL.aj λc _ a=>by
    rcases a with h|h|h
    ·exact .inl h
    ·exact .inr (.inl (by omega))
    ·exact .inr (.inr (.inl h)))
   obtain⟨bU,bt,bV,bv⟩:=i.held;refine aD (Fs.mk (AB i.cell rfl) (aD (Fs.mk (AB i.cell rfl) ?_)));refine xN mZ iy pn (v:=J6 J9 ((r+1:Nat):Int)) bt (by have:=i.ct;simp only[maxLen];omega) λbW bw ab bX=>?_
   obtain⟨bY,bx,bZ,bz⟩:=i.used;have bA:=bx.mod ab n.ne.symm;refine xN na iy pq (v:= .int .u64 0) bA (by have:=i.ct;simp only[maxLen];omega) λbB bC ac b0=>?_
   have bD: ∀c,c=bh->Z c=0/\g.size<=c:=λc a=>⟨(i.bO c (.inr (.inl a))).1,(i.bO c (.inr (.inl a))).2.1⟩
   have bE: ∀c,c=bu->Z c=0/\g.size<=c:=λc a=>⟨(i.bO c (.inr (.inr a))).1,(i.bO c (.inr (.inr a))).2.1⟩
   have bF:=(bq.beside ab bD λo=>(i.bO s (.inr (.inl o))).2.2 rfl).beside ac bE λo=>(i.bO s (.inr (.inr o))).2.2 rfl
   refine aV bB bj Z bk bm bn bo bp bF br ⟨ac.ag (ab.ag i.cell n.nF.1) n.nF.2,⟨_,bw.mod ac n.ne,AG YO (by omega),λm=>APm bv m⟩,⟨_,bC,AG YO (by omega),λm=>AJC (r:=0) bz m⟩,i.bO,i.ne,i.named,i.sh,aU⟩ ((bs.trans (ab.aj λc _ a=> .inr (.inr (.inr (.inl a))))).trans (ac.aj λc _ a=> .inr (.inr (.inr (.inr a))))) λc a=>?_
   rcases aM c a with h|h
   ·exact .inl h
   ·exact .inr (by omega)
  have F: ∀ {e:aa},Ext X e->ah e ⟨p,0,none⟩=some (Ar s):=λw=>AL (Ap w al.cell) rfl
  have Q: ∀ {e:aa},Ext X e->ah e (⟨b,0,none⟩:Q6)=some (J7 (CF d))/\ah e ((⟨b,0,none⟩:Q6).add 1)=some (J7 y)/\ah e ((⟨b,0,none⟩:Q6).add 2)=some (J3 z):=λw=>⟨AL (Ap w I) rfl,AB (Ap w I) rfl,AB (Ap w I) rfl⟩
  refine aD (AY.mk (AL al.cell rfl) (AJ.mk (AL I rfl) (AJ.mk (AB I rfl) (AZ.mk (AB I rfl) ?_))));refine⟨?_,?_⟩
  ·refine ao.mk λbG _ bH G b1=>⟨F G,?_⟩
   refine Tm (by omega) λY J=>⟨_,rfl,?_⟩
   have j:=G.trans J;refine⟨Q j,⟨F j,?_⟩⟩;refine ao.mk λa _ S H aN=>?_
   have t:=j.trans H;exact⟨Q t,⟨F t,am a _ _ t (Ap H (Ap J bH)) S j.size⟩⟩
  ·refine Tm (by omega) λbG G=>⟨_,rfl,⟨Q G,⟨F G,⟨?_,?_⟩⟩⟩⟩
   ·refine ao.mk λY _ ap J bI=>?_
    have j:=G.trans J;refine⟨F j,ao.mk λa _ S H aN=>?_⟩;have t:=j.trans H;exact⟨Q t,⟨F t,am a _ _ t (Ap H ap) S j.size⟩⟩
   ·refine ao.mk λY _ ap J bI=>?_
    have j:=G.trans J;refine⟨Q j,⟨F j,ao.mk λa _ S H aN=>?_⟩⟩;have t:=j.trans H;exact⟨F t,am a _ _ t S (Ap H ap) G.size⟩
 refine af.intro (λaq=>?_) (λaq=>?_)
 ·have bJ:0<r:=by have:=of_decide_eq_true aq;omega
  rcases L with⟨M,_⟩|⟨M,ag,V,o⟩
  ·omega
  simp only[Bf,AI];refine ae.mk az (by simp) λaO ar bK b2=>?_
  have ar:aO[b]? =some (J2 #[J7 (CF d),J7 ⟨#[]⟩,J3 false] AQ (0,0)):=by simpa using ar
  refine pj M ag V λb3 aP=>⟨_,_,rfl,?_⟩
  refine ae.mk (Ap aP ar) (by simp) λaQ au bL b4=>?_
  have au:aQ[b]? =some (J2 #[J7 (CF d),J7 (KO r av),J3 false] AQ (0,0)):=by simpa using au
  have bM:Ext h aO:=aA.then (bK.aj λc _ a=> .inr (by omega));refine aC aQ _ _ ((bM.trans aP).then (bL.aj λc _ a=> .inr (by omega))) au ?_;unfold CG;rw[o];simp
 ·have bJ:r=0:=by have:=of_decide_eq_false aq;omega
  rcases L with⟨M,_,o⟩|⟨M,ag,V,o⟩
  ·refine aC V _ _ aA az ?_;unfold CG;rw[o];simp
  ·omega
end
section
variable {A : al} {B : cu} {g h : aa} {s p bh bu : Nat} {q : Hp} {k : Nat -> Nat} {st : Db} {m : Bx} {D : Bn} {aH c nn N : Nat} {name : A2M} {aF : Nat} {f u : Nat -> Nat} {R : A2L}
def F3(a b:Nat)(name:A2M):Pr:=⟨CF a,KO b name,false⟩
theorem Oc {mp:List Pr}{n r:Nat}{name:A2M}:CG mp (F3 n r name)=((IQ mp (CF n)).2&&decide ((IQ mp (CF n)).1=KO r name)):=rfl
theorem ASz {n:Nat}{conds sl:Sl}{e l:List Pr}(E:cy g)(y:GK B g h s q k st m D aH c nn)(j:Dx g h k s p bh bu name aF f u N)(al:n<256)(am:f n<=2147483647)(hA:aH+3<=B.A)(an:c+64<=B.C)(ap:nn+1<=1000000)(vc:View BO h conds e)(a9:e.length<=1000000)(v:View BO h sl l)(aq:l≠ []-> ∀b,sl.ag=some b->b<h.size/\k b=0/\b≠bh)(ar: ∀x∈e,x.key.size<=1099511627776)
  (au:f n=0->R (J6 J9 170) h)
  (av:f n≠0->CG (Cr st) (F3 n (f n) name)=false-> ∀d,GK B g d s q k st m D aH c nn->Dx g d k s p bh bu name aF (dG f n 0) u N->Mod (λc=>h.size<=c\/c=bh) h d->R (J6 J9 170) d)
  (aw:f n≠0->CG (Cr st) (F3 n (f n) name)=true->dt (Cr st) (F3 n (f n) name::e) l≠0-> ∀d,Ext h d->R (J6 J9 (dt (Cr st) (F3 n (f n) name::e) l)) d)
  (ax:f n≠0->CG (Cr st) (F3 n (f n) name)=true->dt (Cr st) (F3 n (f n) name::e) l=0-> ∀d F k' W ay az,F.d=q.d->F.b=q.b->GK B g d s F k' W ay az (aH+3) (c+64) (nn+1)->Cr W=cq (Cr st) l->Dx g d k' s p bh bu name aF f u N->Mod (λc=>k c≠0\/h.size<=c\/c=s) h d->(∀ c,k' c≠0->k c≠0\/h.size<=c)->R (J6 J9 0) d):
  AA A P Fg #[Ar p,J6 J9 (n:Int),J4 conds.p conds.len conds.cap,J4 sl.p sl.len sl.cap] h R:=by
 refine AAS ?_;unfold TL;refine sD j ⟨_,rfl,af.intro (λG=>?_) (λG=>?_)⟩
 ·exact au (by simpa using G)
 have H:f n≠0:=by simpa using G
 refine aD (AJ.mk (AB j.cell rfl) ?_);refine pj (by omega) am j.named λz aA=>⟨_,_,rfl,?_⟩
 refine Tm al λba aC=>⟨_,rfl,?_⟩
 have aE:=aA.trans aC;refine ao.pair λb bb bc X aG bd=>?_
 have I:=aE.trans aG;have aI:=j.on I;have aJ:=y.on I;refine aD (AY.mk (AL aI.cell rfl) (AJ.mk (AL X rfl) ?_));refine sC aJ (by rw[Kz];omega) λi Y=>⟨_,_,_,rfl,af.no rfl ?_⟩
 have w:=I.trans Y;have o:=j.on w;have aK:=y.on w;have J:=Ap Y X;have be:=w.size;have bf:=y.db.mem.ext.size;refine ai.mk λK Z=>?_
 have L:=Oc (mp:=Cr st) (n:=n) (r:=f n) (name:=name);have lost:CG (Cr st) (F3 n (f n) name)=false->K (true,()) i:=λaL=>by
  refine Z _ _ (af.yes rfl (aD (Fs.mk (AB o.cell rfl) ?_)));refine o.strike λO aM aa=>⟨rfl,?_⟩
  have Q:=o.bO bh (.inr (.inl rfl));exact av H aL O (aK.beside aa (λc a=>by subst a;exact⟨Q.1,Q.2.1⟩) λS=>Q.2.2 S.symm) aM ((w.aj λc _ a=>a.elim).trans (aa.aj λc _ a=> .inr a))
 have aN:CG (Cr st) (F3 n (f n) name)=true->K (false,()) i:=λab=>by
  refine Z _ _ (af.no rfl (aD (AY.mk (AL o.cell rfl) (AJ.mk (AL J rfl) (AJ.mk (AB J rfl) (AZ.mk (AB J rfl) ?_))))));refine ao.mk λO _ aO T bg=>⟨AL (Ap T o.cell) rfl,?_⟩
  have aP:Own BO AQ O ⟨some ⟨i.size,0,none⟩,1,1⟩ [F3 n (f n) name]:=Own.lit (E:=BO) (l:= [F3 n (f n) name]) aO rfl (by simp[maxLen]);have ac:=w.trans T;refine GJ (E:=BO) (s:=⟨some ⟨i.size,0,none⟩,1,1⟩) (src:=conds) M.Gc aP (vc.ext ac) (by simp only[A6,GP];omega) (by simp only[A6,GP,maxLen];omega) λaQ ad aR ae bi _=>?_
  have t:Ext h ad:=ac.then (ae.aj λc _ a=> .inr (by have:i.size=c:=(by simpa [Sl.ag] using a);omega));have aS:Ext i ad:=T.then (ae.aj λc _ a=> .inr (by have:i.size=c:=(by simpa [Sl.ag] using a);omega));have aT:=y.on t;have aU:=j.on t;refine⟨AL (Ap aS o.cell) rfl,?_⟩;have bj:=t.size;have aV: ∀x∈ [F3 n (f n) name]++e,x.key.size<=1099511627776:=λx aW=>by
   rcases List.mem_append.1 aW with h|h
   ·rw[List.mem_singleton.1 h];show(CF n).size<=_;rw[Kz];omega
   ·exact ar x h
  refine AOO (B:=B) (conds:=aQ) (sl:=sl) E aT hA an ap aR.view (v.ext t) (λU aX aY=>by
   have:=aq U aX aY;exact⟨by omega,this.2.1⟩) aV (λU V aZ=>⟨_,rfl,aw H ab U V (t.trans aZ)⟩) λa0 V a1 ag a2 a3 a4 a5 a6 a7 a8 ah aj=>⟨_,rfl,?_⟩
  refine ax H ab a0 V a1 ag a2 a3 a4 a5 a6 a7 a8 (aU.step (k':=ag) ah (λc a=>by
   rcases a with h|h|h
   ·exact .inl h
   ·exact .inr (.inl h)
   ·exact .inr (.inr (.inl h))) aj) ((t.aj λc _ a=>a.elim).trans (ah.aj λc _ a=>by
   rcases a with h|h|h
   ·exact .inl h
   ·exact .inr (.inl (by omega))
   ·exact .inr (.inr h))) λc a=>?_
  rcases aj c a with h|h
  ·exact .inl h
  ·exact .inr (by omega)
 refine af.intro (λz=>?_) (λz=>?_)
 ·refine lost ?_;have S:(IQ (Cr st) (CF n)).2=false:=by simpa using z
  rw[L,S];rfl
 ·have ak:(IQ (Cr st) (CF n)).2=true:=by simpa using z
  cases C:bR (IQ (Cr st) (CF n)).1 (KO (f n) name) with
  |true=>
   refine aN ?_;rw[Cn] at C;rw[L,ak,C];rfl
  |false=>
   refine lost ?_;rw[Cn] at C;rw[L,ak,C];rfl
theorem AUN {a:Nat}(h:a<=2147483647):J8 .u64 ((J8 .u64 (a:Int))*((2:Int)^(24:Nat)))=((a*16777216:Nat):Int):=by rw[Bt (by omega),show((a:Int)*(2:Int)^(24:Nat))=((a*16777216:Nat):Int) from by rw[show((2:Int)^(24:Nat))=((16777216:Nat):Int) from by decide];simp];exact Bt (by omega)
theorem rN {a b:Nat}(d:a<18446744073709551616)(e:b<18446744073709551616):dX .u64 (a:Int) (b:Int)=((a ||| b:Nat):Int):=by
 have h:a ||| b<2^64:=Kf (by simpa using d) (by simpa using e);unfold dX;have i:(BitVec.ofInt (IntKind.bits .u64) (a:Int) ||| BitVec.ofInt (IntKind.bits .u64) (b:Int)).toNat=a ||| b:=by show(BitVec.ofInt 64 (a:Int) ||| BitVec.ofInt 64 (b:Int)).toNat=a ||| b;rw[BitVec.toNat_or,BitVec.ofInt_natCast,BitVec.ofInt_natCast,BitVec.toNat_ofNat,BitVec.toNat_ofNat,AE (by simpa using d),AE (by simpa using e)]
 rw[i];exact Bt (by simpa using h)
theorem ATZ {a x:Nat}(h:a<=2147483647)(d:x<16777216):dX .u64 ((a*16777216:Nat):Int) (x:Int)=((a*16777216+x:Nat):Int):=by rw[rN (by omega) (by omega)];congr 1;have:=A0D (i:=24) (b:=x) (by simpa using d) a;rw[show 2^24*a=a*16777216 from by rw[CT]] at this;exact this.symm
theorem ALN {a:Nat}(b:Dx g h k s p bh bu name aF f u N)(v:f a<=2147483647)(z:u a+1<16777216)(C:N+1<=1000000)
  (E:f a=0->R (.int .u64 0) h)
  (F:f a≠0-> ∀e,Dx g e k s p bh bu name aF f (dG u a (u a+1)) (N+1)->Mod (λc=>c=bu) h e->R (.int .u64 ((f a*16777216+(u a+1):Nat):Int)) e):
  AA A P Gz #[Ar p,J6 J9 (a:Int)] h R:=by
 refine VJ ?_;unfold Nv;refine sD b ⟨_,rfl,af.intro (λi=>?_) (λi=>?_)⟩
 ·exact E (by simpa using i)
 have G:f a≠0:=by simpa using i
 obtain⟨H,w,M,x⟩:=b.used;obtain⟨I,J,O,j⟩:=b.held;refine aD (Fs.mk (AB b.cell rfl) ?_);refine MX na iy pq w ⟨_,x a,?_⟩;rw[show((u a:Nat):Int)+(1:Int)=((u a+1:Nat):Int) from by omega,Bt (by omega)];refine AKi na iy w (by have:=b.ct;simp only[maxLen];omega) λK l n Q=>?_
 have o:=J.mod n b.ne;have d:=n.ag b.cell b.nF.2;have y: ∀m:Nat,(MK m (Tp a (.int .u64 ((u a+1:Nat):Int)) H)).getD (.int .u64 0)= .int .u64 (dG u a (u a+1) m:Int):=λm=>AJC x m
 have L:dG u a (u a+1) a=u a+1:=by unfold dG;rw[if_pos rfl]
 have key:dX .u64 (J8 .u64 ((J8 .u64 (f a:Int))*((2:Int)^(24:Nat)))) ((u a+1:Nat):Int)=((f a*16777216+(u a+1):Nat):Int):=by rw[AUN v,ATZ v z]
 have r:=F G K ⟨d,⟨I,o,by omega,j⟩,⟨_,l,AG YO (by omega),y⟩,b.bO,b.ne,b.named,b.sh,C⟩ n;rw[<- key] at r;have t:=y a;rw[L] at t;refine aD (Fs.mk (AB d rfl) (aD (Fs.mk (AB d rfl) ⟨?_,?_⟩)))
 ·refine MX mZ iy pn o ⟨_,j a,⟨AB d rfl,?_⟩⟩;exact MX na iy pq l ⟨_,t,⟨AB d rfl,r⟩⟩
 ·refine MX na iy pq l ⟨_,t,⟨AB d rfl,?_⟩⟩;exact MX mZ iy pn o ⟨_,j a,⟨AB d rfl,r⟩⟩
theorem Ga.laid {b:List Pr}(e:Sorted b){d a:Nat}(i:1<=a)(j:a<=2147483647)(l:Ak name=true):Ga (cq b [⟨CF d,KO a name,false⟩]) d a name:=by refine .inr ⟨i,j,l,?_⟩;unfold IQ;rw[show cq b [⟨CF d,KO a name,false⟩]=fV b ⟨CF d,KO a name,false⟩ from rfl,Pd e,if_pos rfl,IP];rfl
theorem Ga.other {a:List Pr}(j:Sorted a){b e:Nat}{i key val:A2M}{d:Bool}(L:Ga a b e i)(l:key≠CF b):Ga (cq a [⟨key,val,d⟩]) b e i:=by
 have n:IQ (cq a [⟨key,val,d⟩]) (CF b)=IQ a (CF b):=by unfold IQ;rw[show cq a [⟨key,val,d⟩]=fV a ⟨key,val,d⟩ from rfl,Pd j,if_neg l]
 unfold Ga;rw[n];exact L
theorem Ga.empty {a:Nat}:Ga [] a 0 ⟨#[]⟩:= .inl ⟨rfl,rfl,rfl⟩
theorem Ga.holds {b:List Pr}{d a:Nat}(L:Ga b d a name)(i:1<=a):CG b (F3 d a name)=true:=by
 rw[Oc];rcases L with⟨h,_,e⟩|⟨_,j,_,e⟩
 ·omega
 ·rw[e];simp
end
end Go.Lf.G
