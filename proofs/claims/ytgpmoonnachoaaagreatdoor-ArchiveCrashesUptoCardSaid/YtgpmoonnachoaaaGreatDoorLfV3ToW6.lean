/-
 Contracts: programs of steps (chapter 12).
-/
import Derived.Test.YtgpmoonnachoaaaGreatDoorLfU2ToS1
import Derived.Test.YtgpmoonnachoaaaGreatDoorLfKToGA
import Derived.Test.YtgpmoonnachoaaaGreatDoorLfZ10ToU32
import Derived.WideKeyEntry
import Derived.Test.YtgpmoonnachoaaaGreatDoorLfX3ToZ9
set_option maxRecDepth 100000
set_option linter.unusedVariables false
set_option linter.unusedSimpArgs false
open Go.IntKind renaming i64→J9,wrap→J8
open Go.Value renaming string→J7,int→J6,pointer→J5,slice→J4,bool→J3,tuple→J1
open Go.Obj renaming cells→J2
open Go renaming Value→J0,Addr→Q6,TypeId→Q7,FuncId→Q8,Program→Q1
open Go.Addr renaming add→Q9,mk→Q5
namespace Go.Lf.G
open Go
theorem pz {s:A2I}:bU s (⟨#[]⟩:A2I)=decide (s=Hu):=CZ
theorem ze {s:A2I}:s=Hu↔s.size=0:=by
 constructor
 ·rintro rfl;rfl
 ·intro a;have:bl s= []:=DA (by rw[A7];exact a);rw[<- ED s];show AX (bl s)=_;rw[this];rfl
theorem EO {r:ak}{e:aa}{s:A2I}{p:A2H}(a:p (J3 (Aj s)) e):AA r P Bg #[J7 s] e p:=by
 refine AEr ?_;unfold X6;rw[pz];refine ai.mk λK t=>?_
 have key: ∀h:Bool,(h=true↔s.size=0\/16<s.size)->K (h,()) e:=λh z=>by
  refine t _ _ ?_;refine af.intro (λb=>?_) (λb=>?_)
  ·have d:Aj s=false:=by
    rw[Sh]
    grind [Gj]
   rw[d] at a;exact a
  have A: ¬(s.size=0\/16<s.size):=λg=>by simp_all
  refine Loop.rule (λm x g=> ∃i:Nat,x=((i:Int),())/\g=e/\m=s.size-i/\i<=s.size/\ ∀c∈(bl s).take i,33<=c.toNat/\c.toNat<=126) ?_ ⟨0,rfl,rfl,rfl,by omega,by simp⟩;rintro B m _ g ⟨i,rfl,d,rfl,C,D⟩ u;subst g;refine af.intro (λj=>?_) (λj=>?_)
  ·have k:i<s.size:=by simpa using j
   obtain⟨c,l⟩: ∃c,(bl s)[i]? =some c:=⟨_,A2 (by rw[A7];exact k)⟩;have E:c∈bl s:=AM l;dsimp only;rw[OI l];refine ai.mk λv w=>⟨⟨by omega,by omega⟩,?_⟩
   have q: ∀n:Bool,(n=true↔ ¬(33<=c.toNat/\c.toNat<=126))->v (n,()) e:=λn F=>by
    refine w _ _ ?_;refine af.intro (λb=>?_) (λb=>?_)
    ·have d:Aj s=false:=by
      rw[Sh]
      grind [Gj]
     rw[d] at a;exact a
    ·rw[Aa (by omega)];refine u (s.size-(i+1)) _ _ (by omega) ⟨i+1,rfl,rfl,rfl,k,λx y=>?_⟩;rw[Ax,l,Ds] at y
     grind
   refine af.intro (λo=>q _ ⟨λ_=>by simp at o;omega,λ_=>rfl⟩) (λo=>⟨⟨by omega,by omega⟩,q _ ⟨λf=>by simp at f;omega,λf=>by simp at o;simp;omega⟩⟩)
  ·have k:i=s.size:=by simp at j;omega
   have d:Aj s=true:=by grind [Gj,List.take_of_length_le,A7]
   rw[d] at a;exact a
 refine af.intro (λb=>key _ ⟨λ_=> .inl (by simpa [ze] using b),λ_=>rfl⟩) (λb=>key _ ⟨λf=>by simp at f;omega,λf=>?_⟩)
 simp_all [decide_eq_false_iff_not,ze,decide_eq_true_eq];omega
theorem Pd {h:ak}{f:aa}{a c b:Int}{g:A2H}(d:g (J3 (bX a c b)) f):AA h P Gt #[J6 J9 a,J6 J9 c,J6 J9 b] f g:=by
 refine ACz ?_;unfold WQ;refine af.intro (λi=>?_) (λi=>?_)
 ·have e:bX a c b=decide (a<=b):=by simp_all [bX,decide_eq_decide]
  rw[e] at d;exact d
 ·have e:bX a c b=false:=by grind [bX]
  rw[e] at d;exact d
def cD.fv(x:cD):List Fv:= [.i x.kind,.s x.name,.s x.aV,.i x.tries,.i x.aF,.i x.wait]
theorem zi:P.underlying Ct=some (.struct (P.fieldsOf Ct)):=by kernel_rfl
theorem zj(x:cD):lI P Ct (cD.fv x)=true:=by kernel_rfl
theorem AMr {q:ak}{l:aa}{x:cD}{m:A2H}(r: ∀n,Ext l n->m (J3 (NK x)) n):
  AA q P SH #[.agg #[J6 J9 x.kind,J7 x.name,J7 x.aV,J6 J9 x.tries,J6 J9 x.aF,J6 J9 x.wait]] l m:=by
 refine AEf ?_;unfold ZY;refine ao.mk λj _ a s _=>?_
 have b:=r j s;refine AC.mk (AL a rfl) ?_;unfold NK at b;refine af.intro (λh=>?_) (λh=>?_)
 ·have h:x.kind=1:=by simpa using h
  rw[if_pos h] at b;refine ai.mk λK t=>?_
  have key:K (((decide (x.aV=Hu)&&decide (x.aF=0))||(Aj x.aV&&bX x.aF 1 5)),()) j:=by
   refine t _ _ ?_;refine AJ.mk (AB a rfl) (EO ⟨_,rfl,?_⟩);cases d:Aj x.name with
   |false=>rw[d] at b;simpa [af] using b
   |true=>
    refine af.yes rfl (AC.mk (AB a rfl) (Pd ⟨_,rfl,?_⟩));cases o:bX x.tries 1 5 with
    |false=>rw[d,o] at b;simpa [af] using b
    |true=>
     refine af.yes rfl ?_;refine af.intro (λc=>?_) (λc=>?_)
     ·refine AC.mk (AB a rfl) ?_;rw[d,o] at b;have c:((decide (x.aV=Hu)&&decide (x.aF=0))||(Aj x.aV&&bX x.aF 1 5))=true:=c;rw[c] at b;have e:(x.wait==(0:Int))=decide (x.wait=0):=by grind
      rw[e];simpa using b
     ·have c:((decide (x.aV=Hu)&&decide (x.aF=0))||(Aj x.aV&&bX x.aF 1 5))=false:=c;rw[c] at b;simpa using b
  have sub: ∀ {p:Bool},p=(Aj x.aV&&bX x.aF 1 5)->((decide (x.aV=Hu)&&decide (x.aF=0))=false)->K (p,()) j:=λu v=>by
   rw[v,Sp,<-u] at key;exact key
  refine AJ.mk (AB a rfl) ?_;rw[pz];refine af.intro (λi=>?_) (λi=>?_)
  ·refine AC.mk (AB a rfl) ?_;refine af.intro (λk=>?_) (λk=>?_)
   ·have e:decide (x.aF=0)=true:=by simpa using k
    rw[i,e] at key;simpa using key
   ·have e:decide (x.aF=0)=false:=by simpa using k
    refine AJ.mk (AB a rfl) (EO ⟨_,rfl,?_⟩);refine af.intro (λd=>?_) (λd=>?_)
    ·exact AC.mk (AB a rfl) (Pd ⟨_,rfl,sub (by rw[d,FF]) (by rw[e,NX])⟩)
    ·exact sub (by rw[d,HE]) (by rw[e,NX])
  ·refine AJ.mk (AB a rfl) (EO ⟨_,rfl,?_⟩);refine af.intro (λd=>?_) (λd=>?_)
   ·exact AC.mk (AB a rfl) (Pd ⟨_,rfl,sub (by rw[d,FF]) (by rw[i,HE])⟩)
   ·exact sub (by rw[d,HE]) (by rw[i,HE])
 ·have h:x.kind≠1:=by simpa using h
  rw[if_neg h] at b;refine af.intro (λf=>?_) (λf=>?_)
  ·have f:x.kind=2:=by simpa using f
   rw[if_pos f] at b;refine AC.mk (AL a rfl) (AJ.mk (AB a rfl) (AJ.mk (AB a rfl) (AC.mk (AB a rfl) (AC.mk (AB a rfl) (AC.mk (AB a rfl) (AC.mk (AB a rfl) ?_))))));refine rD (xs:=cD.fv x) (ys:= [.i 2,.s Hu,.s Hu,.i 0,.i 0,.i x.wait]) zi (zj x) rfl rfl rfl ⟨_,rfl,?_⟩;have e:decide (cD.fv x= [.i 2,.s Hu,.s Hu,.i 0,.i 0,.i x.wait])=(decide (x.name=Hu)&&decide (x.aV=Hu)&&decide (x.tries=0)&&decide (x.aF=0)):=by rw[Ge];simp[cD.fv,f,and_assoc]
   rw[e];refine af.intro (λc=>?_) (λc=>?_)
   ·rw[c,FF] at b;exact AC.mk (AB a rfl) (Pd ⟨_,rfl,b⟩)
   ·rw[c,HE] at b;exact b
  ·have f:x.kind≠2:=by simpa using f
   rw[if_neg f] at b;refine af.intro (λg=>?_) (λg=>?_)
   ·have g:x.kind=3:=by simpa using g
    rw[if_pos g] at b;refine AC.mk (AL a rfl) (AJ.mk (AB a rfl) (AJ.mk (AB a rfl) (AC.mk (AB a rfl) (AC.mk (AB a rfl) (AC.mk (AB a rfl) (AJ.mk (AB a rfl) ?_))))));refine rD (xs:=cD.fv x) (ys:= [.i 3,.s x.name,.s Hu,.i 0,.i 0,.i 0]) zi (zj x) rfl rfl rfl ⟨_,rfl,?_⟩;have e:decide (cD.fv x= [.i 3,.s x.name,.s Hu,.i 0,.i 0,.i 0])=(decide (x.aV=Hu)&&decide (x.tries=0)&&decide (x.aF=0)&&decide (x.wait=0)):=by rw[Ge];simp[cD.fv,g,and_assoc]
    rw[e];refine af.intro (λc=>?_) (λc=>?_)
    ·rw[c,FF] at b;exact AJ.mk (AB a rfl) (EO ⟨_,rfl,b⟩)
    ·rw[c,HE] at b;exact b
   ·have g:x.kind≠3:=by simpa using g
    rw[if_neg g] at b;exact b
abbrev APD(x:cD):Array J0:= #[J6 J9 x.kind,J7 x.name,J7 x.aV,J6 J9 x.tries,J6 J9 x.aF,J6 J9 x.wait]
theorem zl:Ra P Gq Ct TZ.w 64=true:=by kernel_rfl
theorem zo {b:aa}{a:Q6}{x:cD}(c:Cells b a (TZ.enc x)):ah b a=some (J6 J9 x.kind)/\ah b (a.add 1)=some (J7 x.name)/\ah b (a.add 2)=some (J7 x.aV)/\ah b (a.add 3)=some (J6 J9 x.tries)/\ah b (a.add 4)=some (J6 J9 x.aF)/\ah b (a.add 5)=some (J6 J9 x.wait):=by refine⟨?_,c 1 _ rfl,c 2 _ rfl,c 3 _ rfl,c 4 _ rfl,c 5 _ rfl⟩;have:=c 0 _ rfl;rwa [add_zero] at this
theorem zr {D:ak}{f:aa}{s:Sl}{p:cA}{u:A2H}(v:View TZ f s p.steps)(V:p.steps.length<=1099511627776)(n: ∀w,Ext f w->u (J6 J9 (if GL p then 0 else 130)) w):
  AA D P OV #[.agg #[J4 s.p s.len s.cap,J6 J9 p.aG]] f u:=by
 refine AEq ?_;unfold ZF;refine ao.mk λy _ g z _=>?_
 refine ai.mk λK E=>Ad.mk (s:=s) (AL g rfl) ?_
 rw[v.len];have key: ∀o:Bool,(o=true↔ ¬(p.steps.length<=16/\bX p.aG 0 16000=true))->K (o,()) y:=λo F=>by
  refine E _ _ ?_;refine af.intro (λh=>?_) (λh=>?_)
  ·have d:=n y z;rw[if_neg] at d
   ·exact d
   ·intro j;simp only[GL,A3,decide_eq_true_eq] at j;exact F.1 h j.1
  have G:p.steps.length<=16/\bX p.aG 0 16000=true:=Decidable.byContradiction λk=>by
   simp_all
  refine Ad.mk (s:=s) (AL g rfl) ?_;refine Loop.rule (λm x k=> ∃i:Nat,x=((i:Int),())/\Ext f k/\m=p.steps.length-i/\i<=p.steps.length/\(p.steps.take i).all NK=true) ?_ ⟨0,rfl,z,rfl,by omega,rfl⟩;rintro W m _ k ⟨i,rfl,l,rfl,X,q⟩ H;rw[v.len];refine af.intro (λr=>?_) (λr=>?_)
  ·have t:i<p.steps.length:=by simpa using r
   obtain⟨x,A⟩: ∃x,p.steps[i]? =some x:=⟨_,A2 t⟩;rw[<- v.len];refine(v.ext l).idx A λa _ c=>?_
   obtain⟨I,c1,c2,c3,J,L⟩:=zo c;refine AC.mk I (AJ.mk c1 (AJ.mk c2 (AC.mk c3 (AC.mk J (AC.mk L ?_)))));refine ao.mk λM _ N O _=>ae.pP N λQ e R Y=>?_
   refine AC.mk (AL e rfl) (AJ.mk (AB e rfl) (AJ.mk (AB e rfl) (AC.mk (AB e rfl) (AC.mk (AB e rfl) (AC.mk (AB e rfl) ?_)))));have S:Ext f Q:=(l.trans O).more R λb g=>by subst g;exact l.size
   refine AMr (x:=x) λT U=>⟨_,rfl,?_⟩
   have B:=S.trans U;refine af.intro (λC=>?_) (λC=>?_)
   ·have d:=n T B;rw[if_neg] at d
    ·exact d
    ·intro j;simp only[GL,A3,decide_eq_true_eq,DQ] at j
     grind
   ·dsimp only;rw[Aa (by omega)];refine H (p.steps.length-(i+1)) _ _ (by omega) ⟨i+1,rfl,B,rfl,t,?_⟩;rw[Ax,A,Ds,Sf,q];simpa using C
  ·have t:i=p.steps.length:=by simp at r;omega
   rw[AE (by omega)] at q;have d:=n k l;rw[if_pos (by simp only[GL,A3,decide_eq_true_eq];exact⟨G,q⟩)] at d;exact d
 refine af.intro (λh=>key _ ⟨λ_ M=>by simp at h;omega,λ_=>rfl⟩) (λh=>?_);refine AC.mk (AB g rfl) (Pd ⟨_,rfl,key _ ?_⟩)
 grind
structure XX (h:aa) (b rb b1:Nat) (lim:Int) (s:Sl) (l:List cD) (hh:aa) (r:Rd):Prop where
 ext:Ext h hh
 zero:hh[b]? =some (J2 #[J4 none 0 0,J6 J9 0] FP (0,0))
 rd:Iw hh rb r
 var:hh[b1]? =some (J2 #[J4 s.p s.len s.cap,J6 J9 lim] FP (0,0))
 own:Own TZ Ct hh s l
 fresh: ∀c,s.ag=some c->h.size<=c/\c≠b/\c≠rb/\c≠b1
 ne:h.size<=b/\h.size<=rb/\h.size<=b1/\b≠rb/\b≠b1/\rb≠b1
theorem XX.read {g:aa}{b d h:Nat}{i:Int}{s:Sl}{l:List cD}{j e:aa}{n k:Rd}(a:XX g b d h i s l j n)(o:Iw e d k)(m:Mod (· =d) j e):XX g b d h i s l e k:=
 ⟨a.ext.more m λc f=>by subst f;exact a.ne.2.1,m.ag a.zero a.ne.2.2.2.1,o,m.ag a.var a.ne.2.2.2.2.2.symm,a.own.mod m λc f=>(a.fresh c f).2.2.1,a.fresh,a.ne⟩
theorem XX.other {e:aa}{b f g c:Nat}{i:Int}{s:Sl}{l:List cD}{j k:aa}{n:Rd}(a:XX e b f g i s l j n)(m:Mod (· =c) j k)(d:e.size<=c/\c≠b/\c≠f/\c≠g/\s.ag≠some c):XX e b f g i s l k n:=
 ⟨a.ext.more m λo h=>by subst h;exact d.1,m.ag a.zero d.2.1.symm,m.ag a.rd d.2.2.1.symm,m.ag a.var d.2.2.2.1.symm,a.own.mod m λo h p=>d.2.2.2.2 (by rw[h,p]),a.fresh,a.ne⟩
theorem XX.on {a:aa}{b d e:Nat}{f:Int}{s:Sl}{l:List cD}{g h:aa}{i:Rd}(c:XX a b d e f s l g i)(m:Ext g h):XX a b d e f s l h i:=
 ⟨c.ext.trans m,m.ag c.zero (λa=>a),m.ag c.rd (λa=>a),m.ag c.var (λa=>a),c.own.ext m,c.fresh,c.ne⟩
theorem XX.new {d:aa}{b e f:Nat}{g:Int}{s:Sl}{l:List cD}{a:aa}{h:Rd}(c:XX d b e f g s l a h):d.size<=a.size/\a.size≠b/\a.size≠e/\a.size≠f/\s.ag≠some a.size:=by
 refine⟨c.ext.size,?_,?_,?_,λi=>?_⟩
 ·have:=Ag c.zero;omega
 ·have:=Ag c.rd;omega
 ·have:=Ag c.var;omega
 ·have:=c.own.lt i;omega
theorem ANB {b c d:Nat}{e:Bool}(a:Rd):(Mo b c d e a).2.rest.length<=a.rest.length:=by grind [Hq,Mo,RF,CQ,FO]
def zt(a:Option cA)(s:Sl):J0:=match a with
 |none=>J1 #[.agg #[J4 none 0 0,J6 J9 0],J6 J9 60]
 |some p=>J1 #[.agg #[J4 s.p s.len s.cap,J6 J9 p.aG],J6 J9 0]
theorem AKn {A:ak}{h:aa}{l:List UInt8}{R:A2H}(bD:l.length<1099511627776)
  (au: ∀O s,Ext h O->(∀ p,Ja l=some p->View TZ O s p.steps/\ ∀c,s.ag=some c->h.size<=c)->R (zt (Ja l) s) O):AA A P KH #[J7 (AX l)] h R:=by
 refine ADl ?_;unfold WM;refine ao.mk λz _ av ac aQ=>?_
 refine KG λaR ag ah=>⟨_,rfl,?_⟩
 refine DZ (most:=16000) ag (by simp;omega) (by decide) λQ aw S=>⟨_,rfl,?_⟩
 refine ao.mk λbE _ ax T aS=>ae.two ax λaT ay U aU=>?_
 have bF:z.size<aR.size:=Ag ag;have bG:=S.size;have bH:=ac.size;have az:XX h h.size z.size Q.size ((CQ 16000 ⟨l,false⟩).1:Int) ⟨none,0,0⟩ [] aT (CQ 16000 ⟨l,false⟩).2:=by
  have aV:Q[h.size]? =some (J2 #[J4 none 0 0,J6 J9 0] FP (0,0)):=S.ag (ah.ag av (λh=>h)) (by omega);have aW:=T.ag aw (λh=>h);have aA:Ext h Q:=(ac.trans ah).more S λc a=>by subst a;omega
  refine⟨(aA.trans T).more U λc a=>by subst a;exact aA.size,U.ag (T.ag aV (λh=>h)) (by omega),U.ag aW (by omega),ay,Own.nil,λc a=>by simp[Sl.ag] at a,by omega,by omega,by omega,by omega,by omega,by omega⟩
 have bI:(CQ 16000 ⟨l,false⟩).2.rest.length<=l.length:=Hq 16000 ⟨l,false⟩;refine DZ (most:=16) az.rd (by omega) (by decide) λbJ aC aD=>⟨_,rfl,?_⟩
 have aX:=az.read aC aD;have bK:=Hq 16 (CQ 16000 ⟨l,false⟩).2;generalize bL:(CQ 16000 ⟨l,false⟩).1=i at*
 generalize bM:(CQ 16000 ⟨l,false⟩).2=t at*
 have aY:(CQ 16 t).1<=16:=by
  unfold CQ
  grind
 have G:ZP 16000 3 5 1000 false l=(⟨(IC 3 5 1000 false (CQ 16 t).1 (CQ 16 t).2).1,i⟩,(IC 3 5 1000 false (CQ 16 t).1 (CQ 16 t).2).2):=by grind [ZP]
 generalize bN:h.size=b at*
 generalize bO:z.size=H at*
 generalize B:Q.size=I at*
 clear av ag aw ax ay ac ah T S U aD aQ aS aU aC;refine Loop.rule (λm x aj=> ∃(j:Nat) (s:Sl) (f:List cD) (d:Rd),x=((j:Int),())/\XX h b H I i s f aj d/\m=j/\d.rest.length<=l.length/\f.length+j<=16/\
  ZP 16000 3 5 1000 false l=(⟨f++(IC 3 5 1000 false j d).1,i⟩,(IC 3 5 1000 false j d).2)) ?_ ⟨(CQ 16 t).1,⟨none,0,0⟩,[],(CQ 16 t).2,rfl,aX,rfl,by omega,by simpa using aY,G⟩
 rintro K m _ aj ⟨j,s,f,d,rfl,n,bP,bQ,bR,G⟩ aZ;refine af.intro (λal=>?_) (λal=>?_)
 ·have aE:0<j:=by simp at al;omega
  obtain⟨k,rfl⟩: ∃k,j=k+1:=⟨j-1,by omega⟩;refine DZ (most:=3) n.rd (by omega) (by decide) λam a0 a1=>⟨_,rfl,?_⟩
  have g:=n.read a0 a1;have bS:=Hq 3 d;refine ao.mk λV _ u a2 bT=>ae.pP u λa3 B a4 bU=>?_
  have a:=g.new;have v:=(g.on a2).other a4 a;generalize am.size=a5 at*
  refine AC.mk (AL B rfl) ?_;refine ai.mk λa6 a7=>?_
  have W: ∀(x:cD) (C:Rd) (o:aa),XX h b H I i s f o C->o[a5]? =some (J2 (APD x) Ct (0,0))->Mo 3 5 1000 false d=(x,C)->a6 () o:=λx C o e q w=>by
   refine a7 _ _ ?_;refine Ad.mk (s:=s) (AL e.var rfl) ?_;refine AC.mk (AL q rfl) (AJ.mk (AB q rfl) (AJ.mk (AB q rfl) (AC.mk (AB q rfl) (AC.mk (AB q rfl) (AC.mk (AB q rfl) ?_)))));refine ao.bq (E:=TZ) (x:=x) (s:=s) (l:=f) rfl zl e.own (by omega) (by simp[maxLen];omega) λaF O a8 X q bV=>?_
   have a9:s.ag≠some I:=λa=>(e.fresh _ a).2.2.2 rfl
   have ba:s.ag≠some b:=λa=>(e.fresh _ a).2.1 rfl
   have bb:s.ag≠some H:=λa=>(e.fresh _ a).2.2.1 rfl
   have aG: ∀c,aF.ag=some c->h.size<=c/\c≠b/\c≠H/\c≠I:=λc a=>by
    rcases q c a with z|z
    ·exact e.fresh c z
    ·have bW:=Ag e.zero;have bX:=Ag e.rd;have bY:=Ag e.var;have bZ:=e.ext.size;omega
   refine ae.mk (X.ag e.var a9) (by simp) λb0 bc Y b1=>?_
   rw[show((((k+1:Nat):Int),()):Int×Unit).1-(1:Int)=((k:Nat):Int) by simp,El (by omega)];have bd:IC 3 5 1000 false (k+1) d=(x::(IC 3 5 1000 false k C).1,(IC 3 5 1000 false k C).2):=by simp only[IC,w]
   refine aZ k _ _ (by omega) ⟨k,aF,f++ [x],C,rfl,⟨?_,?_,?_,by simpa using bc,?_,aG,e.ne⟩,rfl,?_,by simp;omega,?_⟩
   ·exact(e.ext.more X λc a=>(e.fresh c a).1).more Y λc a=>by omega
   ·exact Y.ag (X.ag e.zero ba) e.ne.2.2.2.2.1
   ·exact Y.ag (X.ag e.rd bb) e.ne.2.2.2.2.2
   ·exact a8.mod Y λc a=>(aG c a).2.2.2
   ·grind [ANB]
   ·rw[G,bd];simp
  refine af.intro (λy=>?_) (λy=>?_)
  ·have an:(CQ 3 d).1=1:=by simp at y;omega
   have b2:=(RF (CQ 3 d).2).1;have b3:=Hq 5 (FO (CQ 3 d).2).2;have b4:=(RF (CQ 5 (FO (CQ 3 d).2).2).2).1;refine Hl v.rd (by omega) λaH J r=>⟨_,rfl,?_⟩
   have D:=v.read J r;have L:=r.ag B a.2.2.1;refine DZ (most:=5) D.rd (by omega) (by decide) λZ be F=>⟨_,rfl,?_⟩
   have bf:=D.read be F;have M:=F.ag L a.2.2.1;refine ae.cN M (by simp) rfl λb5 bg bh b6=>ae.cN bg (by simp) rfl λb7 bi bj b8=>?_
   have aI:=(bf.other bh a).other bj a;refine Hl aI.rd (by omega) λb9 bk aJ=>⟨_,rfl,?_⟩
   have aK:=aI.read bk aJ;have bm:=aJ.ag bi a.2.2.1;refine DZ (most:=5) aK.rd (by omega) (by decide) λca bn aL=>⟨_,rfl,?_⟩
   have bo:=aK.read bn aL;have bp:=aL.ag bm a.2.2.1;refine ae.cN bp (by simp) rfl λcb bq br cc=>ae.cN bq (by simp) rfl λbs bt bu cd=>?_
   have bv:=(bo.other br a).other bu a;refine W ⟨1,AX (FO (CQ 3 d).2).1,AX (FO (CQ 5 (FO (CQ 3 d).2).2).2).1,(CQ 5 (FO (CQ 3 d).2).2).1,(CQ 5 (FO (CQ 5 (FO (CQ 3 d).2).2).2).2).1,0⟩ _ bs bv ?_ ?_
   ·rw[bt,an];rfl
   ·simp only[Mo];rw[if_pos an]
  ·have an:(CQ 3 d).1≠1:=by simp at y;omega
   refine af.intro (λap=>?_) (λap=>?_)
   ·have aM:(CQ 3 d).1=2:=by simp at ap;omega
    refine DZ (most:=1000) v.rd (by omega) (by decide) λaH J r=>⟨_,rfl,?_⟩
    have D:=v.read J r;have L:=r.ag B a.2.2.1;refine ae.cN L (by simp) rfl λZ M F bw=>?_
    refine W ⟨2,Hu,Hu,0,0,(CQ 1000 (CQ 3 d).2).1⟩ _ Z (D.other F a) ?_ ?_
    ·rw[M,aM];rfl
    ·simp only[Mo]
     grind
   ·have aM:(CQ 3 d).1≠2:=by simp at ap;omega
    refine af.intro (λaq=>?_) (λaq=>?_)
    ·have bx:(CQ 3 d).1=3:=by simp at aq;omega
     refine Hl v.rd (by omega) λaH J r=>⟨_,rfl,?_⟩
     have D:=v.read J r;have L:=r.ag B a.2.2.1;refine ae.cN L (by simp) rfl λZ M F bw=>?_
     refine W ⟨(CQ 3 d).1,AX (FO (CQ 3 d).2).1,Hu,0,0,0⟩ _ Z (D.other F a) ?_ ?_
     ·rw[M];rfl
     ·simp only[Mo]
      grind
    ·have bx:(CQ 3 d).1≠3:=by simp at aq;omega
     refine W ⟨(CQ 3 d).1,Hu,Hu,0,0,0⟩ _ a3 v B ?_;simp only[Mo]
     grind
 ·have aE:j=0:=by simp at al;omega
  subst aE;simp only[IC,AN] at G;refine ai.mk λbz aN=>?_
  refine MZ n.rd ⟨_,rfl,?_⟩;have aO:Ja l=if Su d&&GL ⟨f,i⟩ then some ⟨f,i⟩ else none:=by unfold Ja;rw[G]
  have aP:Ja l=none-> ∀o,XX h b H I i s f o d->bz (true,()) o:=λw o e=>by
   refine aN _ _ (af.yes rfl ?_);refine ae.two e.zero λV u ab bA=>Ad.mk (s:=⟨none,0,0⟩) (AL u rfl) (AC.mk (AB u rfl) ?_)
   have:=au V ⟨none,0,0⟩ (e.ext.more ab λc a=>by subst a;exact e.ne.1) (λp N=>by rw[w] at N;cases N);rw[w] at this;exact this
  refine af.intro (λy=>?_) (λy=>?_)
  ·have ar:Su d=false:=by simpa using y
   exact aP (by rw[aO,ar];rfl) aj n
  ·have ar:Su d=true:=by simpa using y
   refine Ad.mk (s:=s) (AL n.var rfl) (AC.mk (AB n.var rfl) ?_);refine zr (p:=⟨f,i⟩) n.own.view (by simp only;omega) λam bB=>⟨_,rfl,?_⟩
   have g:=n.on bB;cases bC:GL ⟨f,i⟩ with
   |false=>exact aP (by grind) am g
   |true=>
    refine aN _ _ (af.no rfl ?_);have w:Ja l=some ⟨f,i⟩:=by rw[aO,ar,bC];rfl
    refine Ad.mk (s:=s) (AL g.var rfl) (AC.mk (AB g.var rfl) ?_);refine ae.two g.zero λV u ab bA=>Ad.mk (s:=s) (AL u rfl) (AC.mk (AB u rfl) ?_)
    have:=au V s (g.ext.more ab λc a=>by subst a;exact g.ne.1) (λp N=>by
     rw[w] at N;obtain rfl:=Bm N;exact⟨(g.own.mod ab λc a=>(g.fresh c a).2.1).view,λc a=>by have:=(g.fresh c a).1;omega⟩)
    rw[w] at this;exact this
def fN(a:Int):Int:=(if dr a then 1 else 0)+(if dC a then 2 else 0)+(if dM a then 4 else 0)+(if dV a then 8 else 0)+(if dW a then 16 else 0)
theorem sB(d:Int):Gn J9 (fN d) 1=(if dr d then 1 else 0)/\Gn J9 (fN d) 2=(if dC d then 2 else 0)/\Gn J9 (fN d) 4=(if dM d then 4 else 0)/\Gn J9 (fN d) 8=(if dV d then 8 else 0)/\Gn J9 (fN d) 16=(if dW d then 16 else 0):=by unfold fN;generalize dr d=a;generalize dC d=b;generalize dM d=c;generalize dV d=e;generalize dW d=f;cases a<;>cases b<;>cases c<;>cases e<;>cases f<;>decide
theorem ni {b:Bool}{a:Int}(c:a≠0):((if b then a else 0)==(0:Int))= !b:=by cases b<;>simp[c]
theorem Mf {b:Bool}{a:Int}(c:a≠0):((if b then a else 0) != (0:Int))=b:=by cases b<;>simp[c]
theorem Xo {i:ak}{f:aa}{a:Int}{g:A2H}(c:g (J1 #[J6 J9 (fN a),J3 (bX a 1 18)]) f):AA i P JN #[J6 J9 a] f g:=by
 refine ABy ?_;unfold VU;have d:a=1\/a=2\/a=3\/a=4\/a=5\/a=6\/a=7\/a=8\/a=9\/a=10\/a=11\/a=12\/a=13\/a=14\/a=15\/a=16\/a=17\/a=18\/ ¬(1<=a/\a<=18):=by omega
 by_cases h:1<=a/\a<=18
 ·rcases d with rfl|rfl|rfl|rfl|rfl|rfl|rfl|rfl|rfl|rfl|rfl|rfl|rfl|rfl|rfl|rfl|rfl|rfl|d
  all_goals (try exact absurd h d)
  all_goals repeat first|exact c|(refine ai.mk λK e=>?_)|(refine af.yes (by decide) ?_)|(refine af.no (by decide) ?_)|(refine e _ _ ?_)
 ·have j:bX a 1 18=false:=by unfold bX;simpa using h
  have k:fN a=0:=by unfold fN dr dC dM dV dW;rw[decide_eq_false (by omega),decide_eq_false (by omega),decide_eq_false (by omega),decide_eq_false (by omega),decide_eq_false (by omega)];rfl
  rw[j,k] at c;have ne: ∀b:Int,1<=b->b<=18->(a==b)=false:=λb l m=>by
   rw[beq_eq_false_iff_ne];omega
  repeat first|exact c|(refine ai.mk λK e=>?_)|(refine af.no (ne _ (by decide) (by decide)) ?_)|(refine e _ _ ?_)
theorem zu {A:ak}{h:aa}{s:A2I}{R:A2H}(b:s.size<1099511627776)
  (d: ∀a sl,Ext h a->(∀ p,Ja (bl s)=some p->View TZ a sl p.steps/\ ∀c,sl.ag=some c->h.size<=c)->R (zt (Ja (bl s)) sl) a):AA A P KH #[J7 s] h R:=by
 have:=AKn (A:=A) (h:=h) (l:=bl s) (R:=R) (by rw[A7];exact b) d;rwa [KQ] at this
theorem MH {A:ak}{h:aa}{s:A2I}{R:A2H}(b:s.size<=1099511627776)(c: ∀a,Ext h a->R (J7 (AX (BG (bl s)))) a):AA A P CP #[J7 s] h R:=by have:=Pk (A:=A) (h:=h) (l:=bl s) (R:=R) (by rw[A7];exact b) c;rwa [KQ] at this
theorem sC {l:ak}{h:aa}{b:Nat}{f a g c j:Int}{fl:Bool}{T:Q7}{fr:Nat×Nat}{k:A2H}(m:h[b]? =some (J2 #[J6 J9 f] T fr))(n:(Gn J9 f j==(0:Int))= !fl)
  (d:k (J3 (dv fl a g c)) h):F4 l P (.func (.func Ia) #[] #[J5 (some ⟨b,0,none⟩)]) #[J6 J9 a,J6 J9 g,J6 J9 c,J6 J9 j] h k:=by
 refine F4.func (first:= #[]) (cp:= #[Ak b]) (by kernel_rfl) ?_;refine AAE ?_;unfold TK;refine aE (AC.mk (AL m rfl) ?_);rw[n];cases fl with
 |false=>
  refine af.yes rfl ?_;have e:(a==(0:Int))=decide (a=0):=by by_cases o:a=0<;>simp[o]
  rw[e];exact d
 |true=>
  refine af.no rfl ?_;refine af.intro (λi=>?_) (λi=>?_)
  ·have e:dv true a g c=decide (a<=c):=by simp at i;simp only[dv,if_true,bX];rw[decide_eq_decide];omega
   rw[e] at d;exact d
  ·have e:dv true a g c=false:=by simp at i;simp only[dv,if_true,bX];simp;omega
   rw[e] at d;exact d
abbrev gM(a:Ev):J0:= .agg #[J6 J9 a.id,J6 J9 a.kind,J6 J9 a.tick,J6 J9 a.ref,J6 J9 a.step,J6 J9 a.turn,J3 a.aV,J7 a.data]
theorem sD {O:ak}{h:aa}{e:Ev}{t:A2H}(hd:e.data.size<1099511627776)(u: ∀d,Ext h d->t (J6 J9 (if Dk e then 0 else 120)) d):AA O P KM #[gM e] h t:=by
 refine AC6 ?_;unfold XH;refine ao.mk λv _ F G aG=>?_
 refine AC.mk (AB F rfl) (Xo ⟨_,_,rfl,?_⟩);refine ao.mk λaH _ Q H aI=>?_
 refine ae.mk Q (by simp) λf j I aJ=>?_
 have o:Ext h f:=(G.trans H).more I λc q=>by subst q;exact G.size
 have R:h.size≠v.size:=by omega
 have b:=I.ag (H.ag F (λh=>h)) R;have j:f[v.size]? =some (J2 #[J6 J9 (fN e.kind)] Bp (0,0)):=j;obtain⟨S,T,U,V,W⟩:=sB e.kind;refine ai.mk λK J=>?_
 have g:FC e=false->K (true,()) f:=λw=>by
  refine J _ _ (af.yes rfl ?_);have:=u f o;have r:Dk e=false:=by simp[Dk,w]
  rw[r] at this;exact this
 have aO:FC e=true->K (false,()) f:=λw=>by
  refine J _ _ (af.no rfl ?_);refine AC.mk (AB b rfl) ?_;refine ai.mk λX Y=>?_
  have y:KV e=true-> ∀d,Ext h d->X () d:=λz d x=>by
   refine Y _ _ ?_;have:=u d x;have r:Dk e=true:=by simp[Dk,w,z]
   rw[r] at this;exact this
  have fail:KV e=false-> ∀d,Ext h d->t (J6 J9 120) d:=λz d x=>by
   have:=u d x;have r:Dk e=false:=by simp[Dk,z]
   rw[r] at this;exact this
  refine af.intro (λi=>?_) (λi=>?_)
  ·have i:e.kind=1:=by simpa using i
   have k:KV e=(Ja (bl e.data)).isSome:=by unfold KV;rw[if_pos i]
   refine AJ.mk (AB b rfl) (zu hd λaK sl Z _=>?_);have s:=o.trans Z;cases L:Ja (bl e.data) with
   |none=>
    refine⟨⟨none,0,0⟩,_,_,rfl,?_⟩;refine ao.mk λab _ A B ac=>ae.two A λC ag D ah=>af.yes rfl ?_
    exact fail (by rw[k,L];rfl) C ((s.trans B).more D λc q=>by subst q;exact s.size)
   |some p=>
    refine⟨sl,_,_,rfl,?_⟩;refine ao.mk λab _ A B ac=>ae.two A λC ag D ah=>af.no rfl ?_
    exact y (by rw[k,L];rfl) C ((s.trans B).more D λc q=>by subst q;exact s.size)
  ·have i:e.kind≠1:=by simpa using i
   refine af.intro (λl=>?_) (λl=>?_)
   ·have l:e.kind=12:=by simpa using l
    have k:KV e=Aj e.data:=by unfold KV;rw[if_neg i,if_pos l]
    refine AJ.mk (AB b rfl) (EO ⟨_,rfl,?_⟩);cases M:Aj e.data with
    |false=>exact fail (by rw[k,M]) f o
    |true=>exact y (by rw[k,M]) f o
   ·have l:e.kind≠12:=by simpa using l
    have k:KV e=true:=by unfold KV;rw[if_neg i,if_neg l]
    exact y k f o
 refine af.intro (λa=>g (by simp at a;simp[FC,a])) (λaj=>?_);refine AC.mk (AL b rfl) (af.intro (λa=>g ?_) (λal=>?_))
 ·have:bX e.id 1 500=false:=by simp at a;unfold bX;simp;omega
  simp[FC,this]
 refine AC.mk (AL b rfl) (af.intro (λa=>g ?_) (λam=>?_))
 ·have:bX e.id 1 500=false:=by simp at a;unfold bX;simp;omega
  simp[FC,this]
 have an:1<=e.id/\e.id<=500:=by simp at al am;omega
 refine AC.mk (AB b rfl) (af.intro (λa=>g ?_) (λap=>?_))
 ·have:bX e.tick 0 1099511627776=false:=by simp at a;unfold bX;simp;omega
  simp[FC,this]
 refine AC.mk (AB b rfl) (af.intro (λa=>g ?_) (λaq=>?_))
 ·have:bX e.tick 0 1099511627776=false:=by simp at a;unfold bX;simp;omega
  simp[FC,this]
 have ar:bX e.tick 0 1099511627776=true:=by simp at ap aq;rw[Bc];omega
 have au:bX e.id 1 500=true:=Bc.2 an;have av:bX e.kind 1 18=true:=by simpa using aj
 refine AC.mk (AB b rfl) (AC.mk (AL b rfl) ?_);rw[wrap_i64 (n:=e.id-1) (by omega) (by omega)];refine sC (fl:=dr e.kind) j (by rw[S,ni (by decide)]) ⟨_,rfl,?_⟩;refine af.intro (λa=>g ?_) (λaw=>?_)
 ·have:dv (dr e.kind) e.ref 1 (e.id-1)=false:=by simpa using a
  simp[FC,this]
 have ax:dv (dr e.kind) e.ref 1 (e.id-1)=true:=by simpa using aw
 refine AC.mk (AB b rfl) ?_;refine sC (fl:=dC e.kind) j (by rw[T,ni (by decide)]) ⟨_,rfl,?_⟩;refine af.intro (λa=>g ?_) (λay=>?_)
 ·have:dv (dC e.kind) e.step 0 15=false:=by simpa using a
  simp[FC,this]
 have az:dv (dC e.kind) e.step 0 15=true:=by simpa using ay
 refine AC.mk (AB b rfl) ?_;refine sC (fl:=dM e.kind) j (by rw[U,ni (by decide)]) ⟨_,rfl,?_⟩;refine af.intro (λa=>g ?_) (λaA=>?_)
 ·have:dv (dM e.kind) e.turn 1 5=false:=by simpa using a
  simp[FC,this]
 have aC:dv (dM e.kind) e.turn 1 5=true:=by simpa using aA
 have m:FC e=((!e.aV||dV e.kind)&&(decide (e.data=Hu)||dW e.kind)):=by simp[FC,av,au,ar,ax,az,aC]
 have last:(!e.aV||dV e.kind)=true->AJ f ((⟨h.size,0,none⟩:Q6).add 7) λaD=>
   af (!bU aD (⟨#[]⟩:A2I)) (AC J9 f (⟨v.size,0,none⟩:Q6) λaE=>K (((Gn J9 aE (16:Int))==(0:Int)),()) f) (K (false,()) f):=λaF=>by
  rw[aF,FF] at m;refine AJ.mk (AB b rfl) ?_;rw[pz];refine af.intro (λa=>?_) (λa=>?_)
  ·have a:decide (e.data=Hu)=false:=by simpa using a
   refine AC.mk (AL j rfl) ?_;rw[W,ni (by decide)];rw[a,Sp] at m;cases N:dW e.kind with
   |false=>exact g (by rw[m,N])
   |true=>exact aO (by rw[m,N])
  ·have a:decide (e.data=Hu)=true:=by simpa using a
   rw[a,Bool.true_or] at m;exact aO m
 refine AZ.mk (AB b rfl) (af.intro (λa=>?_) (λa=>?_))
 ·refine AC.mk (AL j rfl) ?_;rw[V,ni (by decide)];refine af.intro (λE=>g ?_) (λE=>last ?_)
  ·have:dV e.kind=false:=by simpa using E
   rw[m,a,this];rfl
  ·have:dV e.kind=true:=by simpa using E
   rw[this,HK]
 ·exact last (by rw[a];rfl)
theorem ASJ:Ra P N7 rr pa.w 32=true:=by kernel_rfl
theorem AS9:Ra P LK Us pd.w 24=true:=by kernel_rfl
theorem VY {A:ak}{m:Type}{E:cL m}{t T:Q7}{n:Nat}(w:Ra P t T E.w n=true){h:aa}{s:Sl}{l:List m}{R:A2H}(v:View E h s l)(y:l.length*n<=140737488355328)(z:l.length<=maxLen)
  (o: ∀d i,Own E T i d l->(∀ c,d.ag=some c->h.size<=c)->Ext h i->R (J4 d.p d.len d.cap) i):
  af (s.p.isNone) (R (J4 none 0 0) h) (ao h (J2 #[] T) λb j=>BK A P (Builtin.append_ #[t,t] t #[J4 (some (⟨b,0,none⟩:Q6)) 0 0,J4 s.p s.len s.cap]) j λv k=> ∃f:Sl,v=J4 f.p f.len f.cap/\R (J4 f.p f.len f.cap) k):=by
 refine af.intro (λp=>?_) (λp=>?_)
 ·have B:s.p=none:=by simpa using p
  have:l= []:=by
   cases l with
   |nil=>rfl
   |cons x l=>
    obtain⟨a,q,_⟩:=v.cells 0 x rfl;rw[B] at q;cases q
  subst this;exact o ⟨none,0,0⟩ h Own.nil (λc g=>by simp[Sl.ag] at g) Mod.refl
 ·refine ao.mk λj _ C r I=>?_
  have D:Own E T j ⟨some ⟨h.size,0,none⟩,0,0⟩ []:=Own.lit (E:=E) (l:= []) C rfl (by simp[maxLen]);refine GK (s:=⟨some ⟨h.size,0,none⟩,0,0⟩) w D (v.ext r) (by simpa using y) (by simpa using z) λd k F G H _=>o d k F (λc g=>?_) (r.more G λc g=>?_)
  ·rcases H c g with u|u
   ·have e:h.size=c:=by simpa [Sl.ag] using u
    omega
   ·omega
  ·have e:h.size=c:=by simpa [Sl.ag] using g
   omega
section
variable {A : ak} {h : aa} {R : A2H} {s : bF} {e : Ev} {a b c : Sl}
theorem AMW {x:Sl}{l:List Jb}(v:View pa h x l)(i:l.length<=1000)(g: ∀d f,Own pa rr f d l->(∀ c,d.ag=some c->h.size<=c)->Ext h f->R (J4 d.p d.len d.cap) f):AA A P Dy #[J4 x.p x.len x.cap] h R:=by refine Jy ?_;unfold F3;exact VY ASJ v (by omega) (by simp only[maxLen];omega) g
theorem ANt {x:Sl}{l:List Ck}(v:View pd h x l)(i:l.length<=1000)(g: ∀d f,Own pd Us f d l->(∀ c,d.ag=some c->h.size<=c)->Ext h f->R (J4 d.p d.len d.cap) f):AA A P DW #[J4 x.p x.len x.cap] h R:=by refine Ir ?_;unfold FI;exact VY AS9 v (by omega) (by simp only[maxLen];omega) g
theorem ANJ {x:Sl}{l:List cD}(v:View TZ h x l)(i:l.length<=1000)(g: ∀d f,Own TZ Ct f d l->(∀ c,d.ag=some c->h.size<=c)->Ext h f->R (J4 d.p d.len d.cap) f):AA A P Dj #[J4 x.p x.len x.cap] h R:=by refine JQ ?_;unfold FY;exact VY zl v (by omega) (by simp only[maxLen];omega) g
structure jn (h:aa) (n:Nat) (t:bF) (a b c:Sl) (b' c':Sl):Prop where
 at':KW h t a b' c'
 fb: ∀x,b'.ag=some x->b.ag=some x\/n<=x
 fc: ∀x,c'.ag=some x->c.ag=some x\/n<=x
theorem ux {x:Nat}{P:Prop}(h:(⟨none,0,0⟩:Sl).ag=some x):P:=by simp[Sl.ag] at h
theorem ANH(m:KW h s a b c)(J:e.kind=1\/e.kind=12\/e.kind=13\/e.kind=18)
  (w: ∀d (t:bF) (f g:Sl),Ext h d->(∀ t',Ow s e=some t'->t=t'/\jn d h.size t' a b c f g)->R (J1 #[(t.V a f g).v,J3 (Ow s e).isSome]) d):AA A P Sj #[(s.V a b c).v,e.v] h R:=by
 refine AEj ?_;unfold YE;refine qy λC i=>AC.mk (i.cN (j:=1) rfl) (ai.mk λK D=>?_)
 have yes: ∀ {t:bF} {hh:aa} {f g:Sl},(∀ x,f.ag=some x->b.ag=some x\/h.size<=x)->(∀ x,g.ag=some x->c.ag=some x\/h.size<=x)->KW h t a f g->Ow s e=some t-> ∀d,Ext h d->R (J1 #[(t.V a f g).v,J3 true]) d:=λ{t hh f g} E F u n d x=>by
  have:=w d t f g x (λt' q=>by rw[n] at q;cases q;exact⟨rfl,⟨u.ext x,E,F⟩⟩);rw[n] at this;exact this
 have y: ∀ {t:bF} {hh:aa},D3 h hh CB Ao CB (t.V a b c) e bR.z->KW h t a b c->Ow s e=some t->K () hh:=λ{t hh} i u n=>
  D _ _ (i.ret λd x=>yes (hh:=hh) (λ_ h=> .inl h) (λ_ h=> .inl h) u n d x)
 have no: ∀(t:bF) (f g:Sl),Ow s e=none-> ∀d,Ext h d->R (J1 #[(t.V a f g).v,J3 false]) d:=λt f g n d x=>by
  have:=w d t f g x (λt' q=>by rw[n] at q;cases q);rw[n] at this;exact this
 have G: ∀z,KW h (ir s z) a ⟨none,0,0⟩ ⟨none,0,0⟩:=λz=>⟨m.steps,View.nil,View.nil⟩
 refine af.intro (λk=>?_) (λk=>?_)
 ·have k:e.kind=12:=by simpa using k
  refine i.set (x':=({s with fresh:=true}:bF).V a b c) (by decide) rfl λB v=>y v ⟨m.steps,m.aK,m.ar⟩ ?_
  unfold Ow;rw[if_pos k]
 have k:e.kind≠12:=by simpa using k
 refine af.intro (λl=>?_) (λl=>?_)
 ·have l:e.kind=13:=by simpa using l
  refine AZ.mk (i.gI (j:=10) rfl) (af.intro (λo=>?_) (λo=>?_))
  ·have o:s.cancel=true:=o;refine i.ret (no s b c ?_);unfold Ow;rw[if_neg k,if_pos l,if_pos o]
  ·have o:s.cancel=false:=o;refine i.set (x':=({s with cancel:=true}:bF).V a b c) (by decide) rfl λB v=>v.set (x':=({s with cancel:=true,fresh:=true}:bF).V a b c) (by decide) rfl λL H=>y H ⟨m.steps,m.aK,m.ar⟩ ?_
   unfold Ow;rw[if_neg k,if_pos l,if_neg (by simp[o])]
 have l:e.kind≠13:=by simpa using l
 refine af.no (by simp;omega) ?_;refine af.intro (λp=>?_) (λp=>?_)
 ·have p:e.kind=18:=by simpa using p
  refine i.lR (AN8 λB I=>Ju.mk _ ⟨rfl,(i.on I).tell λd x=>yes (hh:=C) (λ_ h=>ux h) (λ_ h=>ux h) (G 4) ?_ d x⟩);unfold Ow;rw[if_neg k,if_neg l,if_neg (by omega),if_pos p]
 have p:e.kind≠18:=by simpa using p
 have r:e.kind=1:=by omega
 refine af.no (by simp[r]) (af.no (by simp[r]) (af.no (by simp[r]) (i.ret (no s b c (by simp[Ow,r])))))
theorem qC {n:Nat}(ak:KW h s a b c)(V:Ec s n)(bm:n<=600)(hd:e.data.size<1099511627776)(aV:kg e.kind)
  (al: ∀w m k l,Ext h w->KW w (Bj s e).2 m k l->(∀ x,m.ag=some x\/k.ag=some x\/l.ag=some x->h.size<=x)->R (J1 #[((Bj s e).2.V m k l).v,J6 J9 (Bj s e).1]) w):AA A P KD #[(s.V a b c).v,e.v] h R:=by
 refine AEK ?_;unfold XA;refine qy λbn D=>D.pN (sD hd λaz aW=>⟨_,rfl,?_⟩)
 have g:=D.on aW;have aX: ∀x,(⟨none,0,0⟩:Sl).ag=some x\/(⟨none,0,0⟩:Sl).ag=some x\/(⟨none,0,0⟩:Sl).ag=some x->h.size<=x:=λx d=>by simp[Sl.ag] at d
 have I: ∀(n:Int),Bj s e=(n,UO)-> ∀w,Ext h w->R (J1 #[bR.z.v,J6 J9 n]) w:=λn aA w x=>by
  have:=al w ⟨none,0,0⟩ ⟨none,0,0⟩ ⟨none,0,0⟩ x (by rw[aA];exact⟨View.nil,View.nil,View.nil⟩) aX;rw[aA] at this;exact this
 refine af.intro (λq=>?_) (λq=>?_)
 ·have v:Dk e=false:=by
   cases am:Dk e with
   |false=>rfl
   |true=>rw[am] at q;simp at q
  exact g.tell (I 120 (by unfold Bj;rw[if_pos v]))
 have v:Dk e=true:=by
  cases am:Dk e with
  |true=>rfl
  |false=>rw[am] at q;simp at q
 obtain⟨bo,bp,bq,aY,_⟩:=SG v;refine AC.mk (g.gI (j:=3) rfl) (af.intro (λr=>?_) (λr=>?_))
 ·have r:s.next=0:=by simpa using r
  refine ai.mk λK aZ=>?_
  have key: ∀W:Bool,(W=true↔ ¬(e.kind=1/\e.id=1))->K (W,()) az:=λW aC=>by
   refine aZ _ _ (af.intro (λq=>?_) (λq=>?_))
   ·exact g.tell (I 120 (by unfold Bj;rw[if_neg (by simp[v]),if_pos r,if_neg (aC.1 q)]))
   ·have q:W=false:=q;have i:e.kind=1/\e.id=1:=Decidable.byContradiction λh=>by rw[aC.2 h] at q;cases q
    obtain⟨p,an,br⟩:=aY i.1;refine AJ.mk (g.cN (j:=7) rfl) (zu hd λX sl Y ap=>?_);obtain⟨ap,aD⟩:=ap p an;rw[an];refine⟨sl,p.aG,0,rfl,?_⟩;have z:=g.on Y;refine ao.mk λaq _ a0 E a1=>?_
    have aE:=z.on E;have bs:=z.b2;refine ae.two a0 λaF aG J a2=>?_
    have aH:Ext X aF:=E.more J λc M=>by subst M;exact A0 _
    have F:=z.on aH;refine Ad.mk (s:=sl) (AL aG rfl) (AC.mk (AB aG rfl) (AC.mk (F.cN (j:=2) rfl) (F.je λaI G a3=>?_)));have N:Bj s e=(0,Xq e):=by unfold Bj;rw[if_neg (by simp[v]),if_pos r,if_pos i]
    have aJ:Xq e=⟨p,0,2,e.tick,0,0,true,[],[],false,false⟩:=by unfold Xq;rw[an];rfl
    have bt:=g.ext.size;have:=al aI sl ⟨none,0,0⟩ ⟨none,0,0⟩ G (by rw[N,aJ];exact⟨(ap.ext aH).mod a3 (λc M f=>by have:=aD c M;have:=Ag g.b2;omega),View.nil,View.nil⟩) (λx d=>by
     rcases d with d|d|d
     ·have:=aD x d;omega
     ·simp[Sl.ag] at d
     ·simp[Sl.ag] at d)
    rw[N,aJ] at this;exact this
  refine AC.mk (g.cN (j:=1) rfl) (af.intro (λi=>key _ (by simp at i;simp[i])) (λi=>AC.mk (g.cN (j:=0) rfl) (key _ (by simp at i;simp[i]))))
 have r:s.next≠0:=by simpa using r
 refine AC.mk (g.gI (j:=2) rfl) (af.intro (λi=>?_) (λi=>?_))
 ·have i:s.status≠0:=by simpa using i
  exact g.tell (I 182 (by unfold Bj;rw[if_neg (by simp[v]),if_neg r,if_pos i]))
 have i:s.status=0:=by simpa using i
 refine AC.mk (g.cN (j:=0) rfl) (AC.mk (g.gI (j:=3) rfl) (af.intro (λy=>?_) (λy=>?_)))
 ·have y:e.id≠s.next:=by simpa using y
  exact g.tell (I 120 (by unfold Bj;rw[if_neg (by simp[v]),if_neg r,if_neg (by simp[i]),if_pos y]))
 have y:e.id=s.next:=by simpa using y
 refine Ad.mk (s:=b) (g.gI (j:=8) rfl) (Ad.mk (s:=c) (g.gI (j:=9) rfl) (AMW ((ak.ext g.ext).aK) (by have:=V.aK;omega) λk X aK Z Y=>⟨_,rfl,?_⟩));have z:=g.on Y;refine⟨z.gI (j:=9) rfl,ANt ((ak.ext z.ext).ar) (by have:=V.ar;omega) λl aq aL ab E=>⟨_,rfl,?_⟩⟩;have aE:=z.on E;have bu:=Ag g.b2;have bv:=Y.size;have a1:=E.size;refine aE.iM (x':=s.V a k c) (by decide) rfl λbw a4 ar=>a4.iM (x':=s.V a k l) (by decide) rfl λaF F J=>?_
 have bz:=ar.size;have a2:=J.size;refine Ad.mk (s:=a) (F.gI (j:=0) rfl) (ANJ ((ak.ext F.ext).steps) (by have:=V.steps;omega) λm aI aM aN G=>⟨_,rfl,?_⟩);have a5:=F.on G;refine a5.pM (x':=s.V m k l) rfl λac B O=>AC.mk (B.cN (j:=1) rfl) ?_
 have aO:KW ac s m k l:=by have a6:=(((aK.view.ext E).mod ar (λx d f=>by have:=Z x d;omega)).mod J (λx d f=>by have:=Z x d;omega));have vc:=((aL.view.mod ar (λx d f=>by have:=ab x d;omega)).mod J (λx d f=>by have:=ab x d;omega));exact⟨aM.view.mod O (λx d f=>by have:=aN x d;omega),(a6.ext G).mod O (λx d f=>by have:=Z x d;omega),(vc.ext G).mod O (λx d f=>by have:=ab x d;omega)⟩
 have bx: ∀x,k.ag=some x->az.size<=x/\x<X.size:=λx d=>⟨Z x d,aK.lt d⟩
 have a7: ∀x,l.ag=some x->X.size<=x/\x<aq.size:=λx d=>⟨ab x d,aL.lt d⟩
 have a8: ∀x,m.ag=some x->aq.size<=x/\x<ac.size:=λx d=>⟨by have:=aN x d;omega,by have:=aM.lt d;have:=O.size;omega⟩
 have bA:=G.size;have bB:=O.size;have fr: ∀(fX fY:Sl),(∀ x,fX.ag=some x->k.ag=some x\/h.size+3<=x)->(∀ x,fY.ag=some x->l.ag=some x\/h.size+3<=x)-> ∀x,m.ag=some x\/fX.ag=some x\/fY.ag=some x->h.size+3<=x:=λfX fY f M x d=>by
  rcases d with d|d|d
  ·have:=a8 x d;omega
  ·rcases f x d with h|h
   ·have:=bx x h;omega
   ·omega
  ·rcases M x d with h|h
   ·have:=a7 x h;omega
   ·omega
 refine ai.mk λa9 ba=>?_
 have key: ∀ {o:Option bF} {t:bF} {fX fY:Sl} {ag:aa},RX s e=o.map (λt=> {t with next:=s.next+1})->(∀ t',o=some t'->t=t'/\t'.next=s.next/\jn ag (h.size+3) t' m k l fX fY)->D3 h ag CB Ao CB (t.V m fX fY) e bR.z->a9 (o.isSome,()) ag:=λ{o t fX fY ag} aP au D=>by
  refine ba _ _ ?_;cases o with
  |none=>
   refine af.yes rfl (D.tell (I 120 ?_));unfold Bj;rw[if_neg (by simp[v]),if_neg r,if_neg (by simp[i]),if_neg (by simp[y]),aP];rfl
  |some t'=>
   obtain⟨rfl,bb,L⟩:=au t' rfl;have u:=fr fX fY L.fb L.fc;have bC:=V.next;refine af.no rfl (AC.mk (D.gI (j:=3) rfl) ?_);rw[wrap_i64 (by show _<=t.next+1;omega) (by show t.next+1<=_;omega)];refine D.iM (x':=({t with next:=s.next+1}:bF).V m fX fY) (by decide) (by rw[<- bb];rfl) λaQ Q bc=>Q.pO λav bd S=>?_
   have N:Bj s e=(0,{t with next:=s.next+1}):=by unfold Bj;rw[if_neg (by simp[v]),if_neg r,if_neg (by simp[i]),if_neg (by simp[y]),aP];rfl
   have:=al av m fX fY bd (by
    rw[N];have ah:=L.at'.mod bc (λx d f=>by have:=u x (.inl d);omega) (λx d f=>by have:=u x (.inr (.inl d));omega) (λx d f=>by have:=u x (.inr (.inr d));omega);have T:=ah.mod S (λx d f=>by have:=u x (.inl d);omega) (λx d f=>by have:=u x (.inr (.inl d));omega) (λx d f=>by have:=u x (.inr (.inr d));omega);exact⟨T.steps,T.aK,T.ar⟩) (λx d=>by have:=u x d;omega)
   rw[N] at this;exact this
 refine ai.mk λaR aS=>?_
 have be:e.kind=2->aR (true,()) ac:=λaw=>by
  refine aS _ _ (af.yes rfl (B.lR (B.pN (AIa aw λaQ aj=>Ju.mk _ ⟨_,rfl,?_⟩))));have Q:=B.on aj;refine Q.tq λav ax S=>key (o:=Ii s e) (t:=(Ii s e).getD s) (fX:=k) (fY:=l) (by unfold RX;rw[if_pos (by omega)]) (λt' U=>?_) ax
  rw[U,FG];obtain⟨ah,T,bf,bD⟩:=Qg U;have ay:=(aO.ext aj).mod S (λx d f=>by have:=fr k l (λ_ h=> .inl h) (λ_ h=> .inl h) x (.inl d);omega) (λx d f=>by have:=fr k l (λ_ h=> .inl h) (λ_ h=> .inl h) x (.inr (.inl d));omega) (λx d f=>by have:=fr k l (λ_ h=> .inl h) (λ_ h=> .inl h) x (.inr (.inr d));omega);exact⟨rfl,ah.next,⟨by rw[ah.prog];exact ay.steps,by rw[T];exact ay.aK,by rw[bf];exact ay.ar⟩,λ_ h=> .inl h,λ_ h=> .inl h⟩
 have bg:e.kind=1\/e.kind=12\/e.kind=13\/e.kind=18->aR (false,()) ac:=λaw=>by
  refine aS _ _ (af.no rfl (ai.mk λbE bh=>?_));have H: ∀ {n:Int},6<=n->n<=11->(e.kind==n)=false:=λ{n} bG bH=>by simp;omega
  refine af.no (H (by decide) (by decide)) (af.no (H (by decide) (by decide)) (af.no (H (by decide) (by decide)) ?_));rw[H (n:=9) (by decide) (by decide)];refine bh _ _ (af.no rfl (ai.mk λbI bi=>af.no (H (by decide) (by decide)) ?_));rw[H (n:=11) (by decide) (by decide)];refine bi _ _ (af.no rfl (B.lR (B.pN (ANH aO aw λaQ t fX fY aj au=>Ju.mk _ ⟨_,rfl,?_⟩))));have Q:=B.on aj;refine Q.tq λav ax S=>key (o:=Ow s e) (t:=t) (by unfold RX;rw[if_neg (by omega),if_neg (by omega),if_neg (by omega)]) (λt' U=>?_) ax
  obtain⟨rfl,L⟩:=au t' U;have aT: ∀x,fX.ag=some x->k.ag=some x\/h.size+3<=x:=λx d=>(L.fb x d).imp id λh=>by omega
  have aU: ∀x,fY.ag=some x->l.ag=some x\/h.size+3<=x:=λx d=>(L.fc x d).imp id λh=>by omega
  have u:=fr fX fY aT aU;exact⟨rfl,(yz U).1.next,L.at'.mod S (λx d f=>by have:=u x (.inl d);omega) (λx d f=>by have:=u x (.inr (.inl d));omega) (λx d f=>by have:=u x (.inr (.inr d));omega),aT,aU⟩
 refine af.intro (λC=>?_) (λC=>?_)
 ·have bj:e.kind=2:=by simpa using C
  have C:(e.kind==(2:Int))=true:=C;rw[C];exact be bj
 have C:e.kind≠2:=by simpa using C
 have bk:e.kind=1\/e.kind=12\/e.kind=13\/e.kind=18:=by unfold kg at aV;omega
 refine af.no (by simp;omega) (af.no (by simp;omega) ?_);rw[show(e.kind==(5:Int))=false from by simp;omega];exact bg bk
end
theorem PD {n:Int}(a:0<=n)(b:n<=9223372036854775807):J8 .u64 n=((n.toNat:Nat):Int):=by
 have:n=((n.toNat:Nat):Int):=by omega
 rw[this,CJ (by omega)];simp
theorem NF {f:Bool}{n:Int}(a:n<=9223372036854775807):(Tj f n).length<=10:=by
 cases f with
 |false=>exact A5 _
 |true=>exact AV (by omega)
theorem sE {h:ak}{b:aa}{a:Q6}{f e n:Int}{fl:Bool}{d:List UInt8}{K:A2I×Unit->aa->Prop}(i:(Gn J9 f e != (0:Int))=fl)(j:ah b a=some (J6 J9 n))(k:fl=true->0<=n/\n<=1099511627776)
  (m:d.length<=100000) (g: ∀c,Ext b c->K (AX (d++Tj fl n),()) c):
  af (Gn J9 f e != (0:Int)) (AC J9 b a λt=>AA h P Aw #[.int .u64 (J8 .u64 t)] b λv c=> ∃x:A2I,v=J7 x/\(aN ((((AX d).size+x.size:Nat):Int)<=IntKind.i64.max)<|K ((AX d)++x,()) c)) (K (AX d,()) b):=by
 rw[i];cases fl with
 |false=>
  have:=g b Mod.refl;simp only[Tj,Cl,if_false,AN] at this;exact af.no rfl this
 |true=>
  obtain⟨l,o⟩:=k rfl;refine af.yes rfl (AC.mk j ?_);rw[PD l (by omega)];have:=AV (n:=n.toNat) (by omega);refine Ca (by omega) λc x=>⟨_,rfl,⟨by rw[AP,AP,max_i64];omega,?_⟩⟩
  have:=g c x;simp only[Tj,if_true] at this;rw[Aq];exact this
theorem sF {f:Bool}{a b c:Int}(d:dv f a b c=true)(g:0<=b)(h:c<=1099511627776):f=true->0<=a/\a<=1099511627776:=λe=>by
 subst e;simp only[dv,if_true,Bc] at d;omega
def pA(a:Ev):J0:=J1 #[J7 (AX (if Dk a then EH a else [])),J6 J9 (if Dk a then 0 else 120)]
theorem zw {R:ak}{a:aa}{e:Ev}{k:A2H}(hd:e.data.size<1099511627776)(u: ∀c,Ext a c->k (pA e) c):AA R P K9 #[gM e] a k:=by
 refine ABp ?_;unfold Ut;refine ao.mk λau _ b v av=>?_
 refine AC.mk (AL b rfl) (AC.mk (AB b rfl) (AC.mk (AB b rfl) (AC.mk (AB b rfl) (AC.mk (AB b rfl) (AC.mk (AB b rfl) (AZ.mk (AB b rfl) (AJ.mk (AB b rfl) ?_)))))));refine sD (e:=e) hd λw l=>⟨_,rfl,?_⟩
 cases m:Dk e with
 |false=>
  refine af.yes rfl ?_;have:=u w (v.trans l);rw[pA,m] at this;exact this
 |true=>
  refine af.no rfl ?_;have y: ∀c,Ext w c->k (J1 #[J7 (AX (EH e)),J6 J9 0]) c:=λc x=>by
   have:=u c ((v.trans l).trans x);rw[pA,m] at this;exact this
  have h:=l.ag b (λa=>a);have z:=Ha m;simp only[FC,A3] at z;obtain⟨⟨⟨⟨⟨⟨⟨S,T⟩,U⟩,o⟩,p⟩,q⟩,aw⟩,ax⟩:=z;have ay:=Bc.1 S;have az:=Bc.1 T;have aA:=Bc.1 U;obtain⟨V,W,X,Y,Z⟩:=sB e.kind;refine AC.mk (AB h rfl) (Xo ⟨_,_,rfl,?_⟩);refine AC.mk (AL h rfl) (AC.mk (n:=e.kind) (AB h rfl) (AC.mk (n:=e.tick) (AB h rfl) ?_));rw[PD (n:=e.id) (by omega) (by omega)];refine Ca (by omega) λaC A=>⟨_,rfl,?_⟩
  have r:=A.ag h (λa=>a);refine⟨AB r rfl,AB r rfl,?_⟩;rw[PD (n:=e.kind) (by omega) (by omega)];have aD:=AV (n:=e.id.toNat) (by omega);have aE:=AV (n:=e.kind.toNat) (by omega);have aF:=AV (n:=e.tick.toNat) (by omega);refine Ca (by omega) λaG B=>⟨_,rfl,?_⟩
  have C:=B.ag r (λa=>a);refine⟨AB C rfl,by rw[AP,AP,max_i64];omega,?_⟩;rw[PD (n:=e.tick) (by omega) (by omega)];refine Ca (by omega) λaH D=>⟨_,rfl,⟨by rw[Aq,AP,AP,max_i64,A1];omega,?_⟩⟩
  have E:=D.ag C (λa=>a);have ab:=(A.trans B).trans D;rw[Aq,Aq];refine ai.mk λK ac=>?_
  have aI:=NF (f:=dr e.kind) (n:=e.ref) (by cases i:dr e.kind<;>rw[i] at o<;>simp[dv,bX] at o<;>omega);have aJ:=NF (f:=dC e.kind) (n:=e.step) (by cases i:dC e.kind<;>rw[i] at p<;>simp[dv,bX] at p<;>omega);have aK:=NF (f:=dM e.kind) (n:=e.turn) (by cases i:dM e.kind<;>rw[i] at q<;>simp[dv,bX] at q<;>omega);have aL:=NF (f:=dV e.kind) (n:=if e.aV then 1 else 0) (by split<;>omega);refine sE (fl:=dr e.kind) (n:=e.ref) (by rw[V,Mf (by decide)]) (AB E rfl) (sF o (by decide) (by omega)) (by simp only[A1];omega) λaM F=>ac _ _ ?_
  have G:=F.ag E (λa=>a);refine ai.mk λaN ae=>?_
  refine sE (fl:=dC e.kind) (n:=e.step) (by rw[W,Mf (by decide)]) (AB G rfl) (sF p (by decide) (by omega)) (by simp only[A1];omega) λaO H=>ae _ _ ?_
  have I:=H.ag G (λa=>a);refine ai.mk λaP ag=>?_
  refine sE (fl:=dM e.kind) (n:=e.turn) (by rw[X,Mf (by decide)]) (AB I rfl) (sF q (by decide) (by omega)) (by simp only[A1];omega) λs J=>ag _ _ ?_
  have L:=J.ag I (λa=>a);have M:=((ab.trans F).trans H).trans J;refine ai.mk λah aj=>?_
  have N: ∀g,Ext s g->ah (AX (((BX e.id.toNat++BX e.kind.toNat++BX e.tick.toNat++Tj (dr e.kind) e.ref)++Tj (dC e.kind) e.step++Tj (dM e.kind) e.turn)++Tj (dV e.kind) (if e.aV then 1 else 0)),()) g:=λg j=>by
   refine aj _ _ ?_;have al:=j.ag L (λa=>a);refine ai.mk λaQ O=>?_
   rw[Z,Mf (by decide)];refine af.intro (λd=>?_) (λd=>?_)
   ·refine AJ.mk (AB al rfl) (MH (by omega) λam an=>⟨_,rfl,⟨?_,O _ _ ?_⟩⟩)
    ·have:=AV (n:=(bl e.data).length) (by rw[A7];omega);rw[AP,AP,max_i64];simp only[BG,A1,A7] at this ⊢;omega
    ·have:=y am ((M.trans j).trans an);dsimp only;rw[Aq];simp only[EH,ig,d,if_true] at this;simp only[A4] at this ⊢;exact this
   ·refine O _ _ ?_;have:=y g (M.trans j);simp only[EH,ig,d,Cl,if_false,AN] at this;simp only[A4] at this ⊢;exact this
  rw[Y,Mf (by decide)];refine af.intro (λd=>?_) (λd=>?_)
  ·refine ai.mk λap aq=>AZ.mk (AB L rfl) ?_
   have Q: ∀n:Nat,n<=1->(n:Int)=(if e.aV then 1 else 0)->ap ((n:Int),()) s:=λn aR ar=>by
    refine aq _ _ ?_;have:=AV (n:=n) (by omega);refine Ca (by omega) λg j=>⟨_,rfl,⟨?_,?_⟩⟩
    ·dsimp only;rw[AP,AP,max_i64];simp only[A1];omega
    ·have:=N g j;rw[<- ar] at this;simp only[Tj,d,if_true,AF] at this;dsimp only;rw[Aq];exact this
   refine af.intro (λt=>Q 1 (by omega) (by rw[t];rfl)) (λt=>Q 0 (by omega) (by rw[t];rfl))
  ·have:=N s Mod.refl;simp only[Tj,d,Cl,if_false,AN] at this;exact this
theorem NM(f:Bool)(m:Nat)(a:Rd):(FB f m a).2.rest.length<=a.rest.length:=by
 cases f with
 |false=>exact A0 _
 |true=>exact Hq m a
theorem AQN(f:Bool)(a:Rd):(UY f a).2.rest.length<=a.rest.length/\(UY f a).1.length<=a.rest.length:=by
 cases f with
 |false=>exact⟨A0 _,A5 _⟩
 |true=>exact RF a
theorem AOS(b:kJ)(c:Rd):(QT b c).2.rest.length<=c.rest.length/\(QT b c).1.data.size<=c.rest.length:=by
 simp only[QT,AP];have d:=Hq b.id c;have e:=Hq b.kind (CQ b.id c).2;have f:=Hq b.tick (CQ b.kind (CQ b.id c).2).2;generalize CQ b.tick (CQ b.kind (CQ b.id c).2).2=t at*
 generalize ((CQ b.kind (CQ b.id c).2).1:Int)=a at*
 have g:=NM (dr a) b.ref t.2;have h:=NM (dC a) b.step (FB (dr a) b.ref t.2).2;have i:=NM (dM a) b.turn (FB (dC a) b.step (FB (dr a) b.ref t.2).2).2;have j:=NM (dV a) 1 (FB (dM a) b.turn (FB (dC a) b.step (FB (dr a) b.ref t.2).2).2).2;have k:=AQN (dW a) (FB (dV a) 1 (FB (dM a) b.turn (FB (dC a) b.step (FB (dr a) b.ref t.2).2).2).2).2;omega
theorem sG {w:ak}{a:aa}{b d g:Nat}{f l:Int}{m:Nat}{fl:Bool}{h:Rd}{e:Array J0}{T:Q7}{K:Unit->aa->Prop}(x:(Gn J9 f l != (0:Int))=fl)(n:Iw a b h)(y:h.rest.length<=1099511627776)
  (z:m<=9223372036854775807) (o:a[d]? =some (J2 e T (0,0))) (A:g<e.size) (B:e.setIfInBounds g (J6 J9 0)=e) (p:b≠d)
  (q: ∀i,Iw i b (FB fl m h).2->i[d]? =some (J2 (e.setIfInBounds g (J6 J9 ((FB fl m h).1:Int))) T (0,0))->Mod (λc=>c=b\/c=d) a i->K () i):
  af (Gn J9 f l != (0:Int)) (AA w P Af #[Ak b,J6 J9 (m:Int)] a λv r=> ∃t:Int,v=J6 J9 t/\(ae r ((⟨d,0,none⟩:Q6).add g) (J6 J9 t) λj=>K () j)) (K () a):=by
 rw[x];cases fl with
 |false=>exact af.no rfl (q a n (by simp only[FB,Cl,if_false];rw[show(((0:Nat):Int))=(0:Int) from rfl,B];exact o) Mod.refl)
 |true=>
  refine af.yes rfl (DZ n y z λr C s=>⟨_,rfl,?_⟩);refine ae.dy (s.ag o p.symm) A λj D u E=>?_
  exact q j (u.ag C p) D ((s.aj λc _ k=> .inl k).trans (u.aj λc _ k=> .inr k))
abbrev zx(i b t a s c:Int)(u:Bool)(d:A2I):Array J0:= #[J6 J9 i,J6 J9 b,J6 J9 t,J6 J9 a,J6 J9 s,J6 J9 c,J3 u,J7 d]
theorem APP {av:ak}{b:aa}{e:Nat}{d:Rd}{M:A2H}(N:Iw b e d)(bc:d.rest.length<1099511627776)
  (O: ∀E,Iw E e (QT fT d).2->Mod (· =e) b E->M (gM (QT fT d).1) E):AA av P SV #[Ak e] b M:=by
 refine AES ?_;unfold ZU;have bd:=Ag N;refine ao.mk λy _ Q z aw=>?_
 have R:=z.ag N (λb=>b);have be:CQ 500 d=CQ fT.id d:=rfl;have bf:=Hq 500 d;have bg:=Hq 18 (CQ 500 d).2;have bh:=Hq 1099511627776 (CQ 18 (CQ 500 d).2).2;refine DZ (most:=500) R (by omega) (by decide) λbi S A=>⟨_,rfl,?_⟩
 refine DZ (most:=18) S (by omega) (by decide) λbj T U=>⟨_,rfl,?_⟩
 refine DZ (most:=1099511627776) T (by omega) (by decide) λu F V=>⟨_,rfl,?_⟩
 have n:=(A.trans U).trans V;have W:=n.ag Q (by omega);have ax:y.size<=u.size:=n.size;refine ao.mk λbk _ X B ay=>ae.eight X λaz Y C aA=>?_
 have o:e≠u.size:=by have:=Ag F;omega
 have aC:b.size≠u.size:=by omega
 have aD:=C.ag (B.ag F (λb=>b)) o;have aE:=C.ag (B.ag W (λb=>b)) aC;have aF:Mod (· =e) b az:=by have l:Mod (· =e) b u:=z.mod.trans n;exact l.then ((B.mod.trans C).aj λc _ g=> .inr (by have:=n.size;have:=z.size;omega))
 refine AC.mk (AB Y rfl) (Xo ⟨_,_,rfl,?_⟩);obtain⟨aG,aH,aI,aJ,aK⟩:=sB ((CQ 18 (CQ 500 d).2).1:Int);have bm:b.size<=u.size:=by omega
 have bn:b.size<=b.size:=A0 _;have bo:QT fT d=QT fT d:=rfl;generalize aL:((CQ 18 (CQ 500 d).2).1:Int)=a at*
 generalize aM:CQ 1099511627776 (CQ 18 (CQ 500 d).2).2=t at*
 generalize aN:((CQ 500 d).1:Int)=i at*
 have aO:QT fT d=(⟨i,a,t.1,(FB (dr a) 500 t.2).1,(FB (dC a) 15 (FB (dr a) 500 t.2).2).1,(FB (dM a) 5 (FB (dC a) 15 (FB (dr a) 500 t.2).2).2).1,
   decide ((FB (dV a) 1 (FB (dM a) 5 (FB (dC a) 15 (FB (dr a) 500 t.2).2).2).2).1=1),AX (UY (dW a) (FB (dV a) 1 (FB (dM a) 5 (FB (dC a) 15 (FB (dr a) 500 t.2).2).2).2).2).1⟩,
   (UY (dW a) (FB (dV a) 1 (FB (dM a) 5 (FB (dC a) 15 (FB (dr a) 500 t.2).2).2).2).2).2):=by
  simp only[QT,<-aL,<-aM,<-aN];rfl
 have bp:=NM (dr a) 500 t.2;have bq:=NM (dC a) 15 (FB (dr a) 500 t.2).2;have br:=NM (dM a) 5 (FB (dC a) 15 (FB (dr a) 500 t.2).2).2;have bs:=NM (dV a) 1 (FB (dM a) 5 (FB (dC a) 15 (FB (dr a) 500 t.2).2).2).2;rw[aO] at O;generalize u.size=v at*
 generalize aP:FB (dr a) 500 t.2=G at*
 generalize aQ:FB (dC a) 15 G.2=os at*
 generalize aR:FB (dM a) 5 os.2=s at*
 generalize Z:FB (dV a) 1 s.2=f at*
 clear Q W X R S T F z B A U V n C aw ax ay aA;have up: ∀ {ab ac:aa},Mod (· =e) b ab->Mod (λc=>c=e\/c=v) ab ac->Mod (· =e) b ac:=λaS A=>aS.then (A.aj λc _ g=>g.elim .inl λbt=> .inr (by omega))
 refine ai.mk λK aT=>?_
 refine sG (m:=500) (fl:=dr a) (by rw[aG,Mf (by decide)]) aD (by omega) (by decide) Y (by simp) rfl o λbu ag ah n=>aT _ _ ?_
 rw[aP] at ag ah;have aU:=n.ag aE (by omega);have aV:=up aF n;refine ai.mk λbv aW=>?_
 refine sG (m:=15) (fl:=dC a) (by rw[aH,Mf (by decide)]) ag (by omega) (by decide) ah (by simp) rfl o λbw aj al am=>aW _ _ ?_
 rw[aQ] at aj al;have aX:=am.ag aU (by omega);have aY:=up aV am;refine ai.mk λbx aZ=>?_
 refine sG (m:=5) (fl:=dM a) (by rw[aI,Mf (by decide)]) aj (by omega) (by decide) al (by simp) rfl o λan H I ap=>aZ _ _ ?_
 rw[aR] at H I;have a0:=ap.ag aX (by omega);have a1:=up aY ap;refine ai.mk λa2 a3=>?_
 have aq: ∀p,Iw p e f.2->p[v]? =some (J2 (zx i a t.1 G.1 os.1 s.1 (decide (f.1=1)) Hu) Ao (0,0))->Mod (λc=>c=e\/c=v) an p->a2 () p:=λp D ar w=>by
  refine a3 _ _ ?_;have a4:=w.ag a0 (by omega);have a5:=up a1 w;refine ai.mk λa6 a7=>?_
  have au: ∀q,Iw q e (UY (dW a) f.2).2->q[v]? =some (J2 (zx i a t.1 G.1 os.1 s.1 (decide (f.1=1)) (AX (UY (dW a) f.2).1)) Ao (0,0))->Mod (λc=>c=e\/c=v) p q->a6 () q:=λq J h r=>by
   refine a7 _ _ ?_;have a8:=r.ag a4 (by omega);have a9:=up a5 r;refine AC.mk (AL h rfl) (AC.mk (AB h rfl) (AC.mk (AB h rfl) (AC.mk (AB h rfl) (AC.mk (AB h rfl) (AC.mk (AB h rfl) (AZ.mk (AB h rfl) (AJ.mk (AB h rfl) ?_)))))));refine ae.eight a8 λL k x ba=>?_
   refine AC.mk (AL k rfl) (AC.mk (AB k rfl) (AC.mk (AB k rfl) (AC.mk (AB k rfl) (AC.mk (AB k rfl) (AC.mk (AB k rfl) (AZ.mk (AB k rfl) (AJ.mk (AB k rfl) ?_)))))));exact O L (x.ag J (by omega)) (a9.then (x.aj λc _ g=> .inr (by omega)))
  rw[aK,Mf (by decide)];refine af.intro (λl=>?_) (λl=>?_)
  ·refine Hl D (by omega) λq J r=>⟨_,rfl,?_⟩
   refine ae.dy (r.ag ar o.symm) (by simp) λL k x ba=>?_
   have j:UY (dW a) f.2=FO f.2:=by simp only[UY,l,if_true]
   refine au L (by rw[j];exact x.ag J o) (by rw[j];exact k) ((r.aj λc _ g=> .inl g).trans (x.aj λc _ g=> .inr g))
  ·have j:UY (dW a) f.2=([],f.2):=by simp only[UY,l,Cl,if_false]
   exact au p (by rw[j];exact D) (by rw[j];exact ar) Mod.refl
 rw[aJ,Mf (by decide)];refine af.intro (λl=>?_) (λl=>?_)
 ·have j:f=CQ 1 s.2:=by rw[<- Z];simp only[FB,l,if_true]
  refine DZ (most:=1) H (by omega) (by decide) λp D w=>⟨_,rfl,?_⟩
  refine ae.dy (w.ag I o.symm) (by simp) λq h r bz=>?_
  have bb:((((CQ 1 s.2).1:Nat):Int)==(1:Int))=decide (f.1=1):=by
   rw[j];by_cases y:(CQ 1 s.2).1=1
   ·rw[y];rfl
   ·rw[decide_eq_false y,beq_eq_false_iff_ne];omega
  rw[bb] at h;refine aq q (by rw[j];exact r.ag D o) h ((w.aj λc _ g=> .inl g).trans (r.aj λc _ g=> .inr g))
 ·have j:f=(0,s.2):=by rw[<- Z];simp only[FB,l,Cl,if_false]
  exact aq an (by rw[j];exact H) (by rw[j];exact I) Mod.refl
def evZ:Ev:=⟨0,0,0,0,0,0,false,Hu⟩
def AUC(a:Option Ev):J0:=J1 #[gM (a.getD evZ),J6 J9 (if a.isSome then 0 else 60)]
theorem zy {F:ak}{b:aa}{l:List UInt8}{r:A2H}(G:l.length<1099511627776)(s: ∀t,Ext b t->r (AUC (WO l)) t):AA F P LU #[J7 (AX l)] b r:=by
 refine ABx ?_;unfold Um;refine ao.mk λU _ H u V=>?_
 refine KG λW v w=>⟨_,rfl,?_⟩
 have X:=Ag v;refine APP v G λI J j=>⟨_,_,_,_,_,_,_,_,rfl,?_⟩
 have L:=j.ag (w.ag H (λb=>b)) (by omega);have y:Ext b I:=(u.trans w).more j λc h=>by subst h;exact u.size
 have M:=AOS fT ⟨l,false⟩;refine ao.mk λY _ N k Z=>ae.eight N λm d n ab=>?_
 have ac:=j.size;have z:Ext b m:=(y.trans k).more n λc h=>by subst h;exact y.size
 have A:=n.ag (k.ag L (λb=>b)) (by omega);have O:=n.ag (k.ag J (λb=>b)) (by omega);refine ai.mk λK B=>?_
 refine MZ O ⟨_,rfl,?_⟩;have o:WO l=if Su (QT fT ⟨l,false⟩).2&&Dk (QT fT ⟨l,false⟩).1 then some (QT fT ⟨l,false⟩).1 else none:=rfl;generalize (QT fT ⟨l,false⟩).2=C at*
 generalize (QT fT ⟨l,false⟩).1=e at*
 have D:WO l=none-> ∀p,Ext m p->K (true,()) p:=λQ p x=>by
  refine B _ _ (af.yes rfl ?_);refine ae.eight (x.ag A (λb=>b)) λq a R ag=>?_
  refine AC.mk (AL a rfl) (AC.mk (AB a rfl) (AC.mk (AB a rfl) (AC.mk (AB a rfl) (AC.mk (AB a rfl) (AC.mk (AB a rfl) (AZ.mk (AB a rfl) (AJ.mk (AB a rfl) ?_)))))));have:=s q ((z.trans x).more R λc h=>by omega);rw[Q] at this;exact this
 refine af.intro (λg=>?_) (λg=>?_)
 ·have g:Su C=false:=by simpa using g
  exact D (by rw[o,g];rfl) m Mod.refl
 ·have g:Su C=true:=by simpa using g
  refine AC.mk (AL d rfl) (AC.mk (AB d rfl) (AC.mk (AB d rfl) (AC.mk (AB d rfl) (AC.mk (AB d rfl) (AC.mk (AB d rfl) (AZ.mk (AB d rfl) (AJ.mk (AB d rfl) ?_)))))));refine sD (e:=e) (by simp only at M;omega) λq i=>⟨_,rfl,?_⟩
  cases E:Dk e with
  |false=>exact D (by rw[o,E,NX];rfl) q i
  |true=>
   refine B _ _ (af.no rfl ?_);have a:=i.ag d (λb=>b);refine AC.mk (AL a rfl) (AC.mk (AB a rfl) (AC.mk (AB a rfl) (AC.mk (AB a rfl) (AC.mk (AB a rfl) (AC.mk (AB a rfl) (AZ.mk (AB a rfl) (AJ.mk (AB a rfl) ?_)))))));refine ae.eight (i.ag A (λb=>b)) λS f T ah=>?_
   refine AC.mk (AL f rfl) (AC.mk (AB f rfl) (AC.mk (AB f rfl) (AC.mk (AB f rfl) (AC.mk (AB f rfl) (AC.mk (AB f rfl) (AZ.mk (AB f rfl) (AJ.mk (AB f rfl) ?_)))))));have:=s S ((z.trans i).more T λc h=>by omega);rw[o,g,E] at this;exact this
theorem nj:Ra P BZ Ao ct.w 72=true:=by kernel_rfl
theorem zz:P.underlying Ao=some (.struct (P.fieldsOf Ao)):=by kernel_rfl
theorem zA(x:Ev):lI P Ao (Ev.fv x)=true:=by kernel_rfl
theorem kO {b:aa}{a:Q6}{x:Ev}(c:Cells b a (ct.enc x)):ah b a=some (J6 J9 x.id)/\ah b (a.add 1)=some (J6 J9 x.kind)/\ah b (a.add 2)=some (J6 J9 x.tick)/\ah b (a.add 3)=some (J6 J9 x.ref)/\ah b (a.add 4)=some (J6 J9 x.step)/\
  ah b (a.add 5)=some (J6 J9 x.turn)/\ah b (a.add 6)=some (J3 x.aV)/\ah b (a.add 7)=some (J7 x.data):=by
 refine⟨?_,c 1 _ rfl,c 2 _ rfl,c 3 _ rfl,c 4 _ rfl,c 5 _ rfl,c 6 _ rfl,c 7 _ rfl⟩;have:=c 0 _ rfl;rwa [add_zero] at this
theorem AUF {c:ak}{d e:Operand}{x a:Ev}{b:aa}{K:A2H}(f:K (J3 (decide (x=a))) b):BK c P (do eqGuard .eql Ao d e (gM x) (gM a);binOp .eql Ao (gM x) (gM a)) b K:=by
 refine rD (xs:=Ev.fv x) (ys:=Ev.fv a) zz (zA x) rfl rfl rfl ?_;have g:decide (Ev.fv x=Ev.fv a)=decide (x=a):=by rw[decide_eq_decide];exact Ev.fO
 rw[g];exact f
theorem zB {c:ak}{d e:Operand}{x a:Ev}{b:aa}{K:A2H}(f:K (J3 (!decide (x=a))) b):BK c P (do eqGuard .neq Ao d e (gM x) (gM a);binOp .neq Ao (gM x) (gM a)) b K:=by
 refine ARv (xs:=Ev.fv x) (ys:=Ev.fv a) zz (zA x) rfl rfl rfl ?_;have g:decide (Ev.fv x=Ev.fv a)=decide (x=a):=by rw[decide_eq_decide];exact Ev.fO
 rw[g];exact f
def pB(l:List Ev):J0:=J1 #[J7 (AX (Dv l).2),J6 J9 ((Dv l).1:Int)]
theorem MG {a:Ev}(h:FC a=true)(hd:a.data.size<18446744073709551616):(EH a).length<=100+a.data.size:=by
 have c:=h;simp only[FC,A3] at c;obtain⟨⟨⟨⟨⟨⟨⟨i,j⟩,k⟩,d⟩,e⟩,g⟩,l⟩,m⟩:=c;have o:=Bc.1 i;have p:=Bc.1 j;have q:=Bc.1 k;have r:=AV (n:=a.id.toNat) (by omega);have s:=AV (n:=a.kind.toNat) (by omega);have t:=AV (n:=a.tick.toNat) (by omega);have u:=NF (f:=dr a.kind) (n:=a.ref) (by cases b:dr a.kind<;>rw[b] at d<;>simp[dv,bX] at d<;>omega);have v:=NF (f:=dC a.kind) (n:=a.step) (by cases b:dC a.kind<;>rw[b] at e<;>simp[dv,bX] at e<;>omega);have w:=NF (f:=dM a.kind) (n:=a.turn) (by cases b:dM a.kind<;>rw[b] at g<;>simp[dv,bX] at g<;>omega);have x:=NF (f:=dV a.kind) (n:=if a.aV then 1 else 0) (by split<;>omega);have y:(ig (dW a.kind) a.data).length<=10+a.data.size:=by
  cases b:dW a.kind with
  |false=>simp[ig]
  |true=>
   simp only[ig,if_true,BG,A1,A7];have:=AV hd;omega
 simp only[EH,A1];omega
theorem zC {l:List Ev}(b:l.all Dk=true)(hd: ∀a∈l,a.data.size<=4194304):(l.flatMap λa=>BG (EH a)).length<=l.length*5000000:=by
 induction l with
 |nil=>simp
 |cons a l c=>
  simp only[DG,A3] at b;have e:=c b.2 λx d=>hd x (AG _ d)
  have f:=hd a (by simp);have g:=MG (Ha b.1) (by omega);have h:=AV (n:=(EH a).length) (by omega);have i:(BG (EH a)).length=(BX (EH a).length).length+(EH a).length:=by simp[BG]
  simp only[AH,A1,A6];omega
end Go.Lf.G
namespace Go.Lf
open Go
def Tz(a:Int)(v:J0):List (Int×J0)->List (Int×J0)
 | []=> [(a,v)]
 |p::m=>if p.1=a then(a,v)::m else p::Tz a v m
def L6(a:Int)(m:List (Int×J0)):Option J0:=(m.find? λp=>decide (p.1=a)).map (·.2)
def iJ(a:Int)(m:List (Int×J0)):List (Int×J0):=m.filter λp=> !decide (p.1=a)
theorem Gl(a:Int)(p:Int×J0)(m:List (Int×J0)):L6 a (p::m)=if p.1=a then some p.2 else L6 a m:=by unfold L6;rw[E0];by_cases b:p.1=a<;>simp[b]
theorem rU(a:Int)(v:J0)(c:Int): ∀m,L6 c (Tz a v m)=if a=c then some v else L6 c m
 | []=>by unfold Tz;rw[Gl]
 |p::m=>by
  unfold Tz;split
  ·rename_i d;rw[Gl,Gl];by_cases b:a=c<;>simp[d,b]
  ·rename_i d;rw[Gl,Gl,rU a v c m];by_cases b:a=c
   ·subst b;simp[d]
   ·simp[b]
structure XM (kd:IntKind) (es:Array MapEntry) (clock:Nat) (m:List (Int×J0)):Prop where
 same:es.toList.map (λe=>(e.key,e.val))=m.map λp=>(Value.int kd p.1,p.2)
 stamped:MapKept.Stamped es clock
 size:es.size<=maxLen
def Tn(kd:IntKind)(d:aa)(b:Nat)(m:List (Int×J0)):Prop:= ∃a c,d[b]? =some (.map a c)/\XM kd a c m
theorem Tn.mod {kd:IntKind}{a c:aa}{b:Nat}{m:List (Int×J0)}{d:Nat->Prop}(M:Tn kd a b m)(x:Mod d a c)(e: ¬d b):Tn kd c b m:=by obtain⟨f,g,h,i⟩:=M;exact⟨f,g,x.ag h e,i⟩
theorem Tn.lt {kd:IntKind}{a:aa}{b:Nat}{m:List (Int×J0)}(M:Tn kd a b m):b<a.size:=by obtain⟨d,e,c,f⟩:=M;exact Ag c
theorem Tn.empty {kd:IntKind}{a:aa}{b c:Nat}(d:a[b]? =some (.map #[] c)):Tn kd a b []:=⟨#[],c,d,rfl,MapKept.stamped_empty c,by simp⟩
theorem XM.len {kd:IntKind}{a:Array MapEntry}{b:Nat}{m:List (Int×J0)}(M:XM kd a b m):a.size=m.length:=by rw[<- Hk];have:=congrArg List.length M.same;simpa using this
theorem XM.keysOf {kd:IntKind}{a:Array MapEntry}{b:Nat}{m:List (Int×J0)}(M:XM kd a b m):a.toList.map (·.key)=m.map λp=>Value.int kd p.1:=by have:=congrArg (List.map Prod.fst) M.same;simpa [B9,Fl] using this
theorem XM.nodup {kd:IntKind}{b:Array MapEntry}{c:Nat}{m:List (Int×J0)}(M:XM kd b c m):(m.map (·.1)).Nodup:=by
 have a:=M.stamped.2.2;rw[M.keysOf] at a;have d:(m.map λp=>Value.int kd p.1)=(m.map (·.1)).map (Value.int kd):=by simp
 rw[d] at a;exact(List.pairwise_map.1 a).imp λe f=>e (by rw[f])
theorem PE {kd:IntKind}(a:Int)(v:J0): ∀(c:List MapEntry) (m:List (Int×J0)) (i:Nat),(c.map λe=>(e.key,e.val))=(m.map λp=>(Value.int kd p.1,p.2))->
  (Instr.findNow (.int kd) (.int kd a) c i=some none/\L6 a m=none/\Tz a v m=m++ [(a,v)]/\iJ a m=m/\ ∀e∈c,e.key≠ .int kd a)\/
  ∃d u,Instr.findNow (.int kd) (.int kd a) c i=some (some (i+d,u))/\L6 a m=some u/\(∃ e,c[d]? =some e/\e.key= .int kd a)/\((c.modify d λe=> {e with key:= .int kd a,val:=v}).map λe=>(e.key,e.val))=(Tz a v m).map (λp=>(Value.int kd p.1,p.2))/\
   ((m.map (·.1)).Nodup->((c.eraseIdx d).map λe=>(e.key,e.val))=(iJ a m).map λp=>(Value.int kd p.1,p.2))
 | [],[],i,_=> .inl ⟨rfl,rfl,rfl,rfl,by simp⟩
 | [],_::_,_,h=>by simp at h
 |_::_,[],_,h=>by simp at h
 |e::c,p::m,i,h=>by
  simp only[BW,GW,Lq] at h;obtain⟨⟨j,l⟩,n⟩:=h;have o:Instr.sameNow (.int kd) (.int kd a) e.key=some (decide (a=p.1)):=by rw[j];show(if kd=kd then some (a==p.1) else none)=_;rw[if_pos rfl];congr 1
  by_cases b:p.1=a
  ·refine .inr ⟨0,e.val,?_,?_,⟨e,rfl,by rw[j,b]⟩,?_,?_⟩
   ·unfold Instr.findNow;rw[o,decide_eq_true b.symm];rfl
   ·rw[Gl,if_pos b,l]
   ·unfold Tz;rw[if_pos b];simp[n]
   ·intro g;have g:=List.nodup_cons.1 g;simp only[List.eraseIdx_zero,List.tail_cons];rw[n];congr 1;unfold iJ;rw[AT];simp only[b,decide_true,KB,Cl,if_false];refine(List.filter_eq_self.2 λC w=>?_).symm;simp only[CA,decide_eq_false_iff_not];rintro rfl;exact g.1 (by show p.1∈_;rw[b];exact MA (f:=Prod.fst) w)
  ·rcases PE a v c m (i+1) n with⟨q,r,s,k,y⟩|⟨d,u,q,r,⟨z,s,A⟩,B,k⟩
   ·refine .inl ⟨?_,?_,?_,?_,?_⟩
    ·unfold Instr.findNow;rw[o,decide_eq_false (λe=>b e.symm)];exact q
    ·rw[Gl,if_neg b];exact r
    ·unfold Tz;rw[if_neg b,s];rfl
    ·unfold iJ at k ⊢;rw[AT];simp[b];simpa using k
    ·intro x t;rcases List.mem_cons.1 t with rfl|t
     ·rw[j];intro e;injection e with _ e;exact b e
     ·exact y x t
   ·refine .inr ⟨d+1,u,?_,?_,⟨z,by simpa using s,A⟩,?_,?_⟩
    ·unfold Instr.findNow;rw[o,decide_eq_false (λe=>b e.symm)];rw[show i+(d+1)=i+1+d by omega];exact q
    ·rw[Gl,if_neg b];exact r
    ·unfold Tz;rw[if_neg b];simp[j,l,B]
    ·intro g;have g:=List.nodup_cons.1 g;have:=k g.2;unfold iJ at this ⊢;rw[AT];simp[b,j,l];simpa using this
section
variable {P : Q1} {kd : IntKind}
theorem GY {a:Q7}(c:P.underlying a=some (.int kd))(d:Bool)(e:Nat)(f:Int)(b:World):(Instr.checkKey d (e+1) a (.int kd f)).run P b= .ok () b:=by simp[Instr.checkKey,BL c]
theorem MP {g:ak}{t h i:Q7}{z:J0}(j:P.underlying t=some (.map h i))(c:P.underlying h=some (.int kd))(n:(zeroValue i).calc P=some z){a:aa}{b:Nat}{m:List (Int×J0)}{d:Int}{K:A2H}
  (M:Tn kd a b m) (o:K ((L6 d m).getD z) a):BK g P (Instr.lookup t (.map (some b)) (.int kd d) false) a K:=by
 intro k;refine⟨_,a,k,?_,o⟩;obtain⟨p,v,q,s⟩:=M;have l:=MapKept.run_getObj_map (P:=P) (w:=g.at a k) (r:=b) q;rcases PE d z p.toList m 0 s.same with⟨e,f,_⟩|⟨x,u,e,f,_,_⟩
 ·simp[Instr.lookup,BL j,l,GY c,Instr.findKey,BL c,e,f,Result.andThen,Da n]
 ·simp[Instr.lookup,BL j,l,GY c,Instr.findKey,BL c,e,f,Result.andThen]
theorem AKO {g:ak}{t q G:Q7}(s:P.underlying t=some (.map q G))(h:P.underlying q=some (.int kd)){a:aa}{b:Nat}{m:List (Int×J0)}{d:Int}{v:J0}{K:aa->Prop}
  (M:Tn kd a b m) (O:m.length<maxLen) (y: ∀i,Tn kd i b (Tz d v m)->Mod (λc=>c=b) a i->i.size=a.size->K i):gJ g P (Instr.mapUpdate t (.map (some b)) (.int kd d) v) a K:=by
 intro f;obtain⟨j,l,n,e⟩:=M;have z:=Ag n;have A:=MapKept.run_getObj_map (P:=P) (w:=g.at a f) (r:=b) n;have B: ∀k,(setObj b k).run P (g.at a f)= .ok () (g.at (a.setIfInBounds b k) f):=λk=>MapKept.run_setObj_map (P:=P) (w:=g.at a f) k n
 have Q:=e.len;rcases PE d v j.toList m 0 e.same with⟨o,H,p,_,I⟩|⟨C,u,o,H,⟨J,p,D⟩,L,_⟩
 ·refine⟨a.setIfInBounds b (.map (j.push {key:= .int kd d,val:=v,born:=l}) (l+1)),f,?_,y _ ⟨_,_,Ci z,?_,MapKept.stamped_push e.stamped I,by simp;omega⟩ (Mod.setObj rfl) (by simp)⟩
  ·simp[Instr.mapUpdate,BL s,A,GY h,Instr.findKey,BL h,o,Result.andThen,B]
  ·rw[p];simp[e.same]
 ·have E:j[C]? =some J:=by simpa using p
  refine⟨a.setIfInBounds b (.map (j.modify C λe=> {e with key:= .int kd d,val:=v}) l),f,?_,y _ ⟨_,_,Ci z,?_,MapKept.stamped_modify e.stamped _ _ (λ_ _=>rfl) (λx _ F=>?_),by simpa using e.size⟩ (Mod.setObj rfl) (by simp)⟩
  ·have N: ∀w,(Instr.keyThatStays (.int kd d) (.int kd d)).run P w= .ok (.int kd d) w:=λw=>by
    simp[Instr.keyThatStays,Instr.sameBits]
   simp[Instr.mapUpdate,BL s,A,GY h,Instr.findKey,BL h,o,E,D,N,Result.andThen,B]
  ·rw[Hn];exact L
  ·rw[E] at F;cases F;exact D.symm
theorem AKH {g:ak}{t k B C:Q7}(s:P.underlying t=some (.map k B))(h:P.underlying k=some (.int kd)){a:aa}{b:Nat}{m:List (Int×J0)}{l:Int}{K:A2H}
  (M:Tn kd a b m) (v: ∀i,Tn kd i b (iJ l m)->Mod (λc=>c=b) a i->i.size=a.size->K (J1 #[]) i):BK g P (Builtin.delete_ #[t,k] C #[.map (some b),.int kd l]) a K:=by
 intro e;obtain⟨f,x,n,d⟩:=M;have y:=Ag n;have z:=MapKept.run_getObj_map (P:=P) (w:=g.at a e) (r:=b) n;have A: ∀j,(setObj b j).run P (g.at a e)= .ok () (g.at (a.setIfInBounds b j) e):=λj=>MapKept.run_setObj_map (P:=P) (w:=g.at a e) j n
 rcases PE l (J3 true) f.toList m 0 d.same with⟨o,D,_,p,_⟩|⟨q,u,o,D,⟨E,F,I⟩,_,p⟩
 ·refine⟨_,a.setIfInBounds b (.map f x),e,?_,v _ ⟨_,_,Ci y,by rw[p];exact d.same,d.stamped,d.size⟩ (Mod.setObj rfl) (by simp)⟩;simp[Builtin.delete_,BL s,z,GY h,Instr.findKey,BL h,o,Result.andThen,A]
 ·have G:f[q]? =some E:=by simpa using F
  refine⟨_,a.setIfInBounds b (.map (f.eraseIdxIfInBounds q) x),e,?_,v _ ⟨_,_,Ci y,?_,MapKept.stamped_erase d.stamped _,?_⟩ (Mod.setObj rfl) (by simp)⟩
  ·simp[Builtin.delete_,BL s,z,GY h,Instr.findKey,BL h,o,Result.andThen,A]
  ·have H:=(Array.getElem?_eq_some_iff.1 G).1;rw[Array.eraseIdxIfInBounds,dif_pos H,A0g];exact p d.nodup
  ·have:(f.eraseIdxIfInBounds q).size<=f.size:=by unfold Array.eraseIdxIfInBounds;split<;>simp
   have:=d.size;omega
end
theorem yc(b c:Int): ∀m:List (Int×J0),L6 c (iJ b m)=if b=c then none else L6 c m
 | []=>by simp[L6,iJ]
 |p::m=>by
  have e:=yc b c m;unfold iJ at e ⊢;rw[AT,Gl];by_cases d:p.1=b
  ·rw[if_neg (by simp[d]),e];by_cases a:b=c
   ·rw[if_pos a,if_pos a]
   ·rw[if_neg a,if_neg a,if_neg (λf=>a (d.symm.trans f))]
  ·rw[if_pos (by simp[d]),Gl,e];by_cases a:p.1=c
   ·rw[if_pos a,if_pos a,if_neg (λf=>d (a.trans f.symm))]
   ·rw[if_neg a,if_neg a]
theorem APo {a:Int}{m:List (Int×J0)}:(iJ a m).length<=m.length:=A0o _ _
theorem YR {k:Int}{v:J0}: ∀ {m:List (Int×J0)},(Tz k v m).length<=m.length+1
 | []=>by simp[Tz]
 |p::m=>by
  unfold Tz;split
  ·simp
  ·have:=YR (k:=k) (v:=v) (m:=m);simp only[A6];omega
section
variable {P : Q1} {kd : IntKind}
theorem yd {i:ak}{t O Q:Q7}{z:J0}(R:P.underlying t=some (.map O Q))(A:P.underlying O=some (.int kd))(Y:(zeroValue Q).calc P=some z){f:aa}{b:Nat}{m:List (Int×J0)}{g:Int}{v:J0}{K:aa->Prop}
  (M:Tn kd f b m) (am:m.length<maxLen) (S: ∀B,Tn kd B b (Tz g v m)->Mod (λc=>c=b) f B->B.size=f.size->K B):
  BK i P (Instr.mapEntry t (.map (some b)) (.int kd g)) f λw n=> ∃x u:J0,w=J1 #[x,u]/\ ∃st:Int,u=J6 J9 st/\(gJ i P (Instr.entryStore t (.map (some b)) (J6 J9 st) v) n λZ=>K Z):=by
 intro y;obtain⟨e,d,E,h⟩:=M;have T:=Ag E;have U:=MapKept.run_getObj_map (P:=P) (w:=i.at f y) (r:=b) E;have V: ∀k,(setObj b k).run P (i.at f y)= .ok () (i.at (f.setIfInBounds b k) y):=λk=>MapKept.run_setObj_map (P:=P) (w:=i.at f y) k E
 have an:=h.len;obtain⟨ab,W,_⟩:=h.stamped;rcases PE g v e.toList m 0 h.same with⟨F,ac,p,_,ae⟩|⟨j,u,F,ac,⟨q,p,C⟩,af,_⟩
 ·refine⟨J1 #[z,goInt d],f.setIfInBounds b (.map (e.push ⟨.int kd g,z,d⟩) (d+1)),y,?_,z,goInt d,rfl,(d:Int),rfl,λo=>?_⟩
  ·simp[Instr.mapEntry,BL R,U,GY A,Instr.findKey,BL A,F,Result.andThen,Da Y,V]
  have s:(f.setIfInBounds b (.map (e.push ⟨.int kd g,z,d⟩) (d+1)))[b]? =some (.map (e.push ⟨.int kd g,z,d⟩) (d+1)):=Ci T;have G:Mod (λc=>c=b) f (f.setIfInBounds b (.map (e.push ⟨.int kd g,z,d⟩) (d+1))):=Mod.setObj rfl;have ag:(f.setIfInBounds b (.map (e.push ⟨.int kd g,z,d⟩) (d+1))).size=f.size:=by simp
  generalize f.setIfInBounds b (.map (e.push ⟨.int kd g,z,d⟩) (d+1))=n at*
  have H:=Ag s;have I:=MapKept.run_getObj_map (P:=P) (w:=i.at n o) (r:=b) s;have J: ∀k,(setObj b k).run P (i.at n o)= .ok () (i.at (n.setIfInBounds b k) o):=λk=>MapKept.run_setObj_map (P:=P) (w:=i.at n o) k s
  have L:(e.push ⟨.int kd g,z,d⟩).findIdx? (λh=>((h.born:Nat):Int)==((d:Nat):Int))=some e.size:=by
   rw[WideElems.findIdx_arr];exact WideElems.findIdx_born (l:=(e.push ⟨.int kd g,z,d⟩).toList) (j:=e.size) (e0:=⟨.int kd g,z,d⟩) (by
    simp only[Rr,By,BW,RC];refine List.nodup_append.2 ⟨W,by simp,λa ah c ai ao=>?_⟩;simp only[N5] at ai;obtain⟨x,D,rfl⟩:=List.mem_map.1 ah;have:=ab x D;omega) (by simp)
  have N:(e.push ⟨.int kd g,z,d⟩).modify e.size (λh=> {h with val:=v})=e.push ⟨.int kd g,v,d⟩:=by apply N6;rw[Hn,Rr,Rr,<-Hk,WideElems.modify_last]
  refine⟨n.setIfInBounds b (.map (e.push ⟨.int kd g,v,d⟩) (d+1)),o,?_,S _ ⟨_,_,Ci H,?_,MapKept.stamped_push h.stamped ae,by simp;omega⟩ (G.trans (Mod.setObj rfl)) (by simp;omega)⟩
  ·simp[Instr.entryStore,I,asInt,asIntOf,goInt,L,N,J,Result.andThen]
  ·rw[p];simp[h.same]
 ·have X:e[j]? =some q:=by simpa using p
  have aj:e.modify j (λh=> {h with key:= .int kd g})=e:=by
   apply N6;rw[Hn,ChangeMaps.modify_eq_set _ _ _ _ p];have:({q with key:= .int kd g}:MapEntry)=q:=by rw[<- C]
   rw[this];exact WideElems.set_self _ _ _ p
  have al: ∀w,(Instr.keyThatStays (.int kd g) (.int kd g)).run P w= .ok (.int kd g) w:=λw=>by
   simp[Instr.keyThatStays,Instr.sameBits]
  refine⟨J1 #[u,goInt q.born],f.setIfInBounds b (.map e d),y,?_,u,goInt q.born,rfl,(q.born:Int),rfl,λo=>?_⟩
  ·simp[Instr.mapEntry,BL R,U,GY A,Instr.findKey,BL A,F,X,C,al,aj,Result.andThen,V]
  have s:(f.setIfInBounds b (.map e d))[b]? =some (.map e d):=Ci T;have G:Mod (λc=>c=b) f (f.setIfInBounds b (.map e d)):=Mod.setObj rfl;have ag:(f.setIfInBounds b (.map e d)).size=f.size:=by simp
  generalize f.setIfInBounds b (.map e d)=n at*
  have H:=Ag s;have I:=MapKept.run_getObj_map (P:=P) (w:=i.at n o) (r:=b) s;have J: ∀k,(setObj b k).run P (i.at n o)= .ok () (i.at (n.setIfInBounds b k) o):=λk=>MapKept.run_setObj_map (P:=P) (w:=i.at n o) k s
  have L:e.findIdx? (λh=>((h.born:Nat):Int)==((q.born:Nat):Int))=some j:=by rw[WideElems.findIdx_arr];exact WideElems.findIdx_born W p
  have N:e.modify j (λh=> {h with val:=v})=e.modify j (λh=> {h with key:= .int kd g,val:=v}):=by apply N6;rw[Hn,Hn,ChangeMaps.modify_eq_set _ _ _ _ p,ChangeMaps.modify_eq_set _ _ _ _ p,<-C]
  refine⟨n.setIfInBounds b (.map (e.modify j λh=> {h with key:= .int kd g,val:=v}) d),o,?_,S _ ⟨_,_,Ci H,?_,MapKept.stamped_modify h.stamped _ _ (λ_ _=>rfl) (λx _ D=>?_),by simpa using h.size⟩ (G.trans (Mod.setObj rfl)) (by simp;omega)⟩
  ·simp[Instr.entryStore,I,asInt,asIntOf,goInt,L,N,J,Result.andThen]
  ·rw[Hn];exact af
  ·rw[X] at D;cases D;exact C.symm
end
end Go.Lf
namespace Go.Lf.G
open Go
def Bd(a:Nat):A2I:=AX [Bu 108,Bu a]
def Hy(a:Nat)(name:A2I):A2I:=AX (BX a++BG (bl name))
theorem Km(a:Nat):(Bd a).size=2:=rfl
theorem AMv(a:Nat):Bd a≠⟨#[]⟩:=λb=>by have:=congrArg ByteArray.size b;rw[Km] at this;cases this
theorem AKE {m a:Nat}(c:m<256)(d:a<256)(h:Bd m=Bd a):m=a:=by have b:=Mq.1 h;simp only[GW,and_true,true_and] at b;have:=congrArg UInt8.toNat b;rwa [Dt c,Dt d] at this
theorem AKr {a:Nat}{name:A2I}(d:a<=2147483647)(b:Aj name=true):(Hy a name).size<=8192:=by have e:=(Gj.1 b).2.1;have f:=AV (n:=a) (by omega);have c:=AV (n:=(bl name).length) (by rw[A7];omega);unfold Hy BG;rw[AP,A1,A1,A7];rw[A7] at c;omega
section
variable {A : ak} {h : aa} {R : A2H}
theorem Tw {a:Nat}(b:a<256)(e: ∀c,Ext h c->R (J7 (Bd a)) c):AA A P IL #[J6 J9 (a:Int)] h R:=by
 refine AER ?_;unfold ZR;refine WK ?_;unfold R6;refine ao.mk λd _ f g j=>?_
 have v1:View Ho d ⟨some ⟨h.size,0,none⟩,1,1⟩ [Bu a]:=(Own.lit (E:=Ho) (l:= [Bu a]) f (by simp[Ho,Dt b,wrap_u8,AD b]) (by simp[maxLen])).view;refine Kn (s:=⟨some ⟨h.size,0,none⟩,1,1⟩) lN lM Ns v1 ⟨_,rfl,⟨_,rfl,⟨by rw[AP,max_i64,show(⟨#[108]⟩:A2I).size=1 from rfl];simp,?_⟩⟩⟩;have i:(⟨#[108]⟩:A2I)++AX [Bu a]=Bd a:=by rw[show(⟨#[108]⟩:A2I)=AX [Bu 108] from rfl,Aq];rfl
 rw[i];exact e d g
theorem pG {a:Nat}{name:A2I}(k:1<=a)(m:a<=2147483647)(b:Aj name=true)(f: ∀c,Ext h c->R (J1 #[J7 (Hy a name),J6 J9 0]) c):AA A P Kr #[J6 J9 (a:Int),J7 name] h R:=by
 obtain⟨l,rfl⟩: ∃l,name=AX l:=⟨_,(ED name).symm⟩;have d:=(Gj.1 b).2.1;rw[AP] at d;refine AGV ?_;unfold vL;refine ai.mk λK g=>af.no (decide_eq_false (by omega)) (af.no (decide_eq_false (by omega)) (EO ⟨_,rfl,g _ _ (af.no (by rw[b];rfl) ?_)⟩))
 rw[CJ (by omega)];have e:=AV (n:=a) (by omega);have o:=AV (n:=l.length) (by omega);refine Ca (by omega) λd i=>⟨_,rfl,?_⟩
 refine Pk (l:=l) (by omega) λe j=>⟨_,rfl,⟨?_,?_⟩⟩
 ·rw[AP,AP,max_i64];unfold BG;rw[A1];omega
 ·rw[Aq];have:=f e (i.trans j);unfold Hy at this;rwa [show bl (AX l)=l from Be l] at this
theorem ANQ {r:Nat}{name:A2I}(j:1<=r)(a:r<=2147483647)(b:Aj name=true)(k: ∀d,Ext h d->R (J1 #[J6 J9 (r:Int),J7 name,J6 J9 0]) d):AA A P QM #[J7 (Hy r name)] h R:=by
 have m:=b;obtain⟨l,rfl⟩: ∃l,name=AX l:=⟨_,(ED name).symm⟩;have o:=(Gj.1 b).2.1;rw[AP] at o;have w:=AV (n:=r) (by omega);have x:=AV (n:=l.length) (by omega);have y:(BG l).length<=26:=by unfold BG;rw[A1];omega
 refine ADt ?_;unfold Wv Hy;rw[show bl (AX l)=l from Be l];refine KG (l:=BX r++BG l) λz p q=>⟨_,rfl,?_⟩
 refine DZ (most:=2147483647) p (by simp only[A1];omega) (by decide) λB e s=>⟨_,rfl,?_⟩
 rw[Cr (by omega) a] at e ⊢;refine Hl e (by dsimp only;omega) λt f u=>⟨_,rfl,?_⟩
 have g:=Ik (l:=l) (by omega) [];rw[AN] at g;rw[g] at f ⊢;refine pG j a m λhd i=>⟨_,_,rfl,?_⟩
 refine ai.mk λK v=>af.no rfl (MZ (r:=⟨[],false⟩) (i.ag f λh=>h) ⟨_,rfl,v _ _ (af.no rfl ?_)⟩)
 exact k hd ((q.then ((s.trans u).aj λc _ t=> .inr (by omega))).trans i)
end
theorem uA: ∀(k a:Nat),Kw (k+1) a=Bu (a / 256^k)::Kw k a
 |0,a=>by rw[Kw,Kw];simp[Kw]
 |k+1,a=>by
  rw[Kw,uA k (a / 256),DO];show Bu (a / 256 / 256^k)::(Kw k (a / 256)++ [Bu a])=_;rw[T4,show 256*256^k=256^(k+1) from by rw[DP,CM]];rfl
theorem uB(m:Nat):(m:Int).fdiv ((2:Int)^(8:Nat))=((m / 256:Nat):Int):=by rw[show((2:Int)^(8:Nat))=256 from by decide,T6 _ (by decide)];omega
section
variable {A : ak} {h : aa} {R : A2H}
theorem Vn {n:Nat}(r: ∀o,Ext h o->R (J7 (AX (Kw 8 n))) o):AA A P Jq #[.int .u64 (n:Int)] h R:=by
 refine AEy ?_;unfold Zh;refine xU (E:=Ho) (x0:=0) (v:= .int .u8 0) (n:=8) Vv zT rfl rfl rfl (by omega) (by simp only[maxLen];omega) λt u w D=>?_
 dsimp only;refine Loop.rule (λm x d=> ∃i:Nat,x=(((n / 256^i:Nat):Int),(i:Int),())/\m=8-i/\i<=8/\Mod (λc=>c=h.size) t d/\Own Ho EE d ⟨some ⟨h.size,0,none⟩,8,8⟩ (List.replicate (8-i) 0++Kw i n)) ?_ ⟨0,by simp,rfl,by omega,Mod.refl,by simpa [Kw] using u⟩;rintro F m _ d ⟨i,rfl,rfl,G,p,f⟩ y;dsimp only;refine af.intro (λg=>?_) (λg=>?_)
 ·have k:i<8:=by simp at g;omega
  rw[wrap_i64 (by omega) (by omega),show(7:Int)-(i:Int)=((7-i:Nat):Int) from by omega,uB,Aa (by omega),T4,<-DP];have ah:(List.replicate (8-i) (0:UInt8)++Kw i n)[7-i]? =some 0:=by rw[G3 (by simp;omega),List.getElem?_replicate,if_pos (by omega)]
  refine f.view.idx ah λa z H=>?_
  rw[AF,<-add_zero (a.add ((7-i)*1)),wrap_u8];refine Own.store (E:=Ho) (i:=7-i) (j:=0) (x:=0) (x':=Bu (n / 256^i)) (v:= .int .u8 ((n / 256^i % 256:Nat):Int)) f ah (by show [Value.int .u8 _]=_;rw[rX,Dt (by omega)];rfl) (by decide) (λI q B J=>?_) a z;refine y (8-(i+1)) _ _ (by omega) ⟨i+1,rfl,rfl,k,p.trans (B.aj λb _ e=>?_),?_⟩
  ·simp[Sl.ag] at e;exact e.symm
  ·have C:(List.replicate (8-i) (0:UInt8)++Kw i n).set (7-i) (Bu (n / 256^i))=List.replicate (8-(i+1)) 0++Kw (i+1) n:=by rw[uA,show 8-i=(7-i)+1 from by omega,List.replicate_succ',A4,HL _ _ (by simp),List.length_replicate,Nat.sub_self,show 8-(i+1)=7-i from by omega];rfl
   rw[C] at q;exact q
 ·have k:i=8:=by simp at g;omega
  subst k;refine Kn Vv zU zV (s:=⟨some ⟨h.size,0,none⟩,8,8⟩) (l:=Kw 8 n) (by simpa using f.view) ⟨_,rfl,?_⟩;exact r d (w.more p λb e=>by subst e;exact A0 _)
theorem qE {wid:A2I}(e:wid.size<=1000000)(b: ∀a,Ext h a->R (J7 (GQ wid)) a):AA A P KE #[J7 wid] h R:=by
 refine ACP ?_;unfold XD;have f:=AV (n:=(bl wid).length) (by rw[A7];omega);refine MH (by omega) λc d=>⟨_,rfl,⟨?_,?_⟩⟩
 ·rw[AP,max_i64];unfold BG;rw[A1,A7] at*
  rw[show(⟨#[104]⟩:A2I).size=1 from rfl];omega
 ·rw[show(⟨#[104]⟩:A2I)=AX [kE] from rfl,Aq];exact b c d
theorem uC {wid:A2I}{id:Nat}(b:wid.size<=1000000)(c:id<18446744073709551616)(d: ∀a,Ext h a->R (J7 (eM wid id)) a):AA A P N9 #[J7 wid,J6 J9 (id:Int)] h R:=by
 refine AEV ?_;unfold YI;refine qE b λi e=>⟨_,rfl,?_⟩
 rw[if_neg (by omega),CJ c];have j:=AV (n:=(bl wid).length) (by rw[A7];omega);refine Vn λf g=>⟨_,rfl,⟨⟨by decide,by rw[AP,O0];decide⟩,?_⟩⟩
 rw[show(AX (Kw 8 id)).extract (4:Int).toNat (AX (Kw 8 id)).size=AX (Kw 4 id) from sw (Kw 8 id) 4];refine⟨?_,?_⟩
 ·unfold GQ lK BG;rw[AP,AP,O0,max_i64];simp only[A6,A1,A7] at*
  omega
 ·have:=d f (e.trans g);unfold GQ;rw[Aq];exact this
theorem P6 {wid:A2I}(c:wid.size<=1000000)(a:R (J7 (Eu wid)) h):AA A P FV #[J7 wid] h R:=by
 refine AHN ?_;unfold vH;refine⟨by rw[max_i64,show(⟨#[119]⟩:A2I).size=1 from rfl];omega,?_⟩;have b:(⟨#[119]⟩:A2I)++wid=Eu wid:=by
  conv=>lhs;rw[<- ED wid]
  rw[show(⟨#[119]⟩:A2I)=AX [119] from rfl,Aq];rfl
 rw[b];exact a
theorem uD {a:A2I}(d:a.size<=1000000)(b:R (J7 (JM a)) h):AA A P KP #[J7 a] h R:=by
 refine AAf ?_;unfold TI;refine⟨by rw[max_i64,show(⟨#[114]⟩:A2I).size=1 from rfl];omega,?_⟩;have c:(⟨#[114]⟩:A2I)++a=JM a:=by
  conv=>lhs;rw[<- ED a]
  rw[show(⟨#[114]⟩:A2I)=AX [114] from rfl,Aq];rfl
 rw[c];exact b
theorem qF {a:Nat}(b:a<256)(e: ∀c,Ext h c->R (J7 (AX [Bu a])) c):AA A P Li #[J6 J9 (a:Int)] h R:=by
 refine WK ?_;unfold R6;refine ao.mk λd _ f g i=>?_
 have v1:View Ho d ⟨some ⟨h.size,0,none⟩,1,1⟩ [Bu a]:=(Own.lit (E:=Ho) (l:= [Bu a]) f (by
  show [Value.int .u8 (J8 .u8 (a:Int))]= [Value.int .u8 ((Bu a).toNat:Int)];rw[wrap_u8,Dt b,AD b]) (by simp[maxLen])).view
 exact Kn (s:=⟨some ⟨h.size,0,none⟩,1,1⟩) lN lM Ns v1 ⟨_,rfl,e d g⟩
theorem AQD {a id:Nat}(c:a<256)(d: ∀b,Ext h b->R (J7 (SK a id)) b):AA A P KU #[J6 J9 (a:Int),.int .u64 (id:Int)] h R:=by
 refine Zz ?_;unfold TJ;refine Yx ?_;unfold Rb;refine qF c λi e=>⟨_,rfl,⟨by rw[AP,max_i64];show((2:Nat):Int)<=9223372036854775807;decide,⟨_,rfl,?_⟩⟩⟩
 rw[show(⟨#[116]⟩:A2I)=AX [116] from rfl,Aq];refine Vn λf g=>⟨_,rfl,⟨by rw[AP,AP,O0,max_i64];show((10:Nat):Int)<=9223372036854775807;decide,?_⟩⟩
 rw[Aq];exact d f (e.trans g)
theorem AP7 {a id t:Nat}(c:a<256)(d:t<18446744073709551616)(e: ∀b,Ext h b->R (J7 (CF a t id)) b):AA A P OZ #[J6 J9 (a:Int),J6 J9 (t:Int),.int .u64 (id:Int)] h R:=by
 refine AEi ?_;unfold Yj;refine UL ?_;unfold Qh;refine qF c λk f=>⟨_,rfl,⟨by rw[AP,max_i64];show((2:Nat):Int)<=9223372036854775807;decide,⟨_,rfl,?_⟩⟩⟩
 rw[show(⟨#[109]⟩:A2I)=AX [109] from rfl,Aq,if_neg (by omega),CJ d];refine Vn λl g=>⟨_,rfl,⟨by rw[AP,AP,O0,max_i64];show((10:Nat):Int)<=9223372036854775807;decide,?_⟩⟩
 rw[Aq];refine Vn λi j=>⟨_,rfl,⟨by rw[AP,AP,A1,O0,max_i64];show((18:Nat):Int)<=9223372036854775807;decide,?_⟩⟩
 rw[Aq];exact e i ((f.trans g).trans j)
theorem oA {m:cV}{st nx:Nat}(f:m.status=(st:Int))(g:m.next=(nx:Int))(s:st<128)(t:nx<=501)(i: ∀d,Ext h d->R (J7 (I1 st nx m.kept)) d):AA A P Dq #[m.v] h R:=by
 refine Xx ?_;unfold Pv;have u:=Gy (n:=st) (by omega);have v:=Gy (n:=nx) (by omega);refine ao.mk λj _ b k w=>ai.mk λK l=>?_
 have key: ∀n:Nat,n=(if m.kept then 1 else 0)->K ((n:Int),()) j:=λn c=>by
  refine l _ _ (AC.mk (AL b rfl) (AC.mk (AB b rfl) ?_));have x:(BX n).length<=2:=Gy (by split at c<;>omega);rw[f,CJ (by omega)];refine Ca (by omega) λy e=>⟨_,rfl,?_⟩
  have o:=e.ag b (λh=>h);refine⟨AB o rfl,?_⟩;rw[g,CJ (by omega)];refine Ca (by omega) λz p=>⟨_,rfl,⟨by rw[AP,AP,max_i64];omega,?_⟩⟩
  rw[Aq];refine Ca (by split at c<;>omega) λq r=>⟨_,rfl,⟨by rw[AP,AP,A1,max_i64];omega,?_⟩⟩
  rw[Aq,A4];have:=i q (((k.trans e).trans p).trans r);unfold I1 at this;rw[<- c] at this;exact this
 refine AZ.mk (AB b rfl) (af.intro (λa=>?_) (λa=>?_))
 ·have a:m.kept=true:=a;exact key 1 (by rw[a];rfl)
 ·have a:m.kept=false:=a;exact key 0 (by rw[a];rfl)
theorem uE {st nx:Nat}{a:Bool}(s:st<=4)(O:2<=nx)(t:nx<=501)(u: ∀l,Ext h l->R (J1 #[(⟨(st:Int),(nx:Int),a⟩:cV).v,J6 J9 0]) l):AA A P PK #[J7 (I1 st nx a)] h R:=by
 refine ABl ?_;unfold Tx;refine ao.mk λv _ m o Q=>?_
 unfold I1;have S:=Gy (n:=st) (by omega);have T:=Gy (n:=nx) (by omega);have U:(BX (if a then 1 else 0)).length<=2:=Gy (by split<;>omega);have w:CQ 1 ⟨BX (if a then 1 else 0),false⟩=((if a then 1 else 0),⟨[],false⟩):=by have:=Cr (n:=if a then 1 else 0) (most:=1) (by split<;>omega) (by split<;>omega) [];rwa [AN] at this
 refine KG λx p d=>⟨_,rfl,?_⟩
 refine DZ (most:=4) p (by simp only[A1];omega) (by decide) λV y e=>⟨_,rfl,?_⟩
 rw[Cr (by omega) s] at*
 refine DZ (most:=501) y (by simp only[A1];omega) (by decide) λW z f=>⟨_,rfl,?_⟩
 rw[Cr (by omega) t] at*
 refine DZ (most:=1) z (by simp only;omega) (by decide) λB C g=>⟨_,rfl,?_⟩
 rw[w] at*
 refine ao.mk λX _ D i Y=>aW.mk D (A0 3) λj q k Z=>?_
 have aa:=Ag m;have ab:=d.size;have ac:=e.size;have ae:=f.size;have ag:=g.size;have E:j[h.size]? =some (J2 cV.z.c H7 (0,0)):=k.ag (i.ag (g.ag (f.ag (e.ag (d.ag m (λh=>h)) (by omega)) (by omega)) (by omega)) (λh=>h)) (by omega);have F:Iw j v.size ⟨[],false⟩:=k.ag (i.ag C (λh=>h)) (by have:=Ag p;omega);have G:Ext h j:=by
  have H:Ext h x:=o.trans d;have r:Ext h B:=H.more ((e.trans f).trans g) λc b=>by subst b;exact o.size
  exact(r.trans i).more k λc b=>by subst b;exact r.size
 refine ai.mk λK I=>MZ F ⟨_,rfl,af.no rfl (AC.mk (AB q rfl) (I _ _ (af.no (decide_eq_false (by show ¬((nx:Int)<2);omega)) ?_)))⟩
 have J:(((if a then 1 else 0:Nat):Int)==(1:Int))=a:=by cases a<;>rfl
 refine Jt.mk ⟨(st:Int),(nx:Int),_⟩ (EN q rfl) (aW.mk E (A0 3) λL M N ah=>Jt.mk ⟨(st:Int),(nx:Int),_⟩ (EN M rfl) ?_);rw[J];exact u L (G.more N λc b=>by subst b;exact A0 _)
def A8(wid:A2I)(a:Nat):Nat:=ng wid / 256 % a
theorem Ob {wid:A2I}{a:Nat}(d:wid.size<=1000000)(e:1<=a)(f:a<=16)(b:R (J1 #[J6 J9 (A8 wid a:Int),J6 J9 0]) h):AA A P OA #[J7 wid,J6 J9 (a:Int)] h R:=by
 refine AE2 ?_;unfold ZI;refine ai.mk λK c=>af.no (decide_eq_false (by omega)) ?_
 refine c _ _ (af.no (decide_eq_false (by omega)) (sL (by omega) ⟨_,_,rfl,⟨by omega,?_⟩⟩));have g:=(yI wid);rw[uB,wrap_i64 (by omega) (by omega)];exact b
end
def gH(p f:A2I):A2I:=if aR p f then f else p
theorem ATF(p f b:A2I):aR b (gH p f)=false↔aR b p=false/\aR b f=false:=by
 unfold gH;split
 ·rename_i c;refine⟨λa=>⟨?_,a⟩,λa=>a.2⟩;cases d:aR b p
  ·rfl
  ·rw[DY d c] at a;cases a
 ·rename_i c;refine⟨λa=>⟨a,?_⟩,λa=>a.1⟩;exact rj (by simpa using c) a
def Qd(p:A2I):A2I:=⟨((fA p.data.toList).getD []).toArray⟩
theorem ATU: ∀ {p c:List UInt8},fA p=some c->c≠ []
 | [],c,b=>by cases b
 |a::p,c,b=>by
  unfold fA at b;split at b
  ·obtain rfl:=Bm b;simp
  ·split at b
   ·obtain rfl:=Bm b;simp
   ·cases b
theorem APV(p d:A2I):(decide (Qd p=⟨#[]⟩)||aR d (Qd p))=true↔ ∀a,fA p.data.toList=some a->d.data.toList<a:=by
 unfold Qd;cases e:fA p.data.toList with
 |none=>simp
 |some a=>
  have f:=ATU e;have c:decide ((⟨(Option.getD (some a) []).toArray⟩:A2I)=⟨#[]⟩)=false:=decide_eq_false λc=>f (by
   have:=congrArg (λb:A2I=>b.data.toList) c;simpa using this)
  rw[c,Sp,Zk];simp
theorem AQr(p f a:A2I):kS (gH p f) (Qd p) a=(Nj p a&& !aR a f):=by
 rw[Ge];unfold kS;rw[A3,A3,APV,CA,ATF,Mw,<-ya,CA];rw[show(aR a p=false↔ ¬a.data.toList<p.data.toList) from by rw[Zk];simp];constructor
 ·rintro⟨⟨b,c⟩,d⟩;exact⟨⟨b,d⟩,c⟩
 ·rintro⟨⟨b,d⟩,c⟩;exact⟨⟨b,c⟩,d⟩
def jy(m:List Pr)(p f:A2I)(a:Int):List Pr:=(m.filter λx=>Nj p x.key&& !aR x.key f).take a.toNat
theorem AOp(m:List Pr)(p f:A2I)(a:Int):nF m (gH p f) (Qd p) a=jy m p f a:=by unfold nF RZ jy;rw[HG λx _=>AQr p f x.key]
def Bv(m:List Pr)(c:Pr):Bool:=if c.gone then !(IK m c.key).2 else(IK m c.key).2&&decide ((IK m c.key).1=c.val)
open M (Sorted Ab Bw Av Ac Am BF Ah bz Az aP Ay)
structure Fq (B:bV) (g h:aa) (s:Nat) (q:Hp) (k:Nat->Nat) (st:Db) (m:Bx) (D:Bz) (aJ c n:Nat):Prop where
 db:Bt B g h q k st m D aJ c
 cell:h[s]? =some (J2 #[Ak q.d,J6 J9 (n:Int)] Mm (0,0))
 kz:k s=0
 base:g.size<=s
 fuel:B.cm=true->m.fuel= -1
 cw:n<=1000000
 bx:q.b=B.bx
 dc: ∀y,¬cz y->ff m y=B.zf y
structure Dn (B:bV) (g h:aa) (k:Nat->Nat) (m:Bx) (aJ c:Nat) (ml:List (List Pr)):Prop where
 box: ∃S,Bl h B.bx S m/\ ∀c,S c->k c≠0
 tells: ∀G,Jo (ff m) G-> ∃mp∈ml,Rec G aJ c mp
 wt:aY m.files<=B.W0+aJ*B.K
 hc:c<=B.C
 own: ∀c,k c≠0->g.size<=c/\c<h.size
 ext:Ext g h
 dc: ∀y,¬cz y->ff m y=B.zf y
open Classical in
noncomputable def nA (k:Nat->Nat) (n a:Nat):Nat->Nat:=λc=>if k c≠0 then k c else if n<=c/\c<a then 9 else 0
theorem Vp {k:Nat->Nat}{n a c:Nat}:nA k n a c≠0↔k c≠0\/(n<=c/\c<a):=by
 unfold nA
 grind
def di(m a l:List Pr):Int:=if a.length>64 then 2 else if Fh l≠0 then Fh l else if a.all (Bv m) then 0 else 100
theorem AH6 {m:List Pr}{c:Pr}:Bv m c= !(((IK m c.key).2==c.gone)||((IK m c.key).2&& !bU (IK m c.key).1 c.val)):=by unfold Bv;rw[CZ];cases c.gone<;>cases (IK m c.key).2<;>simp
section
variable {A : ak} {B : bV} {g h : aa} {s : Nat} {q : Hp} {k : Nat -> Nat} {st : Db} {m : Bx} {D : Bz} {aJ c n : Nat} {R : A2H}
theorem Fq.on {b:aa}(a:Fq B g h s q k st m D aJ c n)(x:Ext h b):Fq B g b s q k st m D aJ c n:=⟨a.db.on x,Ap x a.cell,a.kz,a.base,a.fuel,a.cw,a.bx,a.dc⟩
theorem Fq.beside {d:aa}{b:Nat->Prop}(a:Fq B g h s q k st m D aJ c n)(x:Mod b h d)(hX: ∀c,b c->k c=0/\g.size<=c)(e: ¬b s):Fq B g d s q k st m D aJ c n:=⟨a.db.beside x hX,x.ag a.cell e,a.kz,a.base,a.fuel,a.cw,a.bx,a.dc⟩
theorem Fq.put {d b:Nat}(a:Fq B g h s q k st m D aJ c n)(e:aJ<=d)(f:c<=b)(i:b<=B.C):Fq B g h s q k st m D d b n:=⟨a.db.put e f i,a.cell,a.kz,a.base,a.fuel,a.cw,a.bx,a.dc⟩
theorem kQ.tM {f:aa}{i:Bx}{j l:Nat}{ml:List (List Pr)}(d:kQ B h f q k m i j)(b:Fq B g h s q k st m D aJ c n)(a:l<=B.C)(t: ∀G,Jo (ff i) G-> ∃u∈ml,Rec G j l u):Dn B g f (nA k h.size f.size) i j l ml:=by
 obtain⟨S',o,v⟩:=d.box;have w:=d.mod.size;refine⟨⟨S',by rw[<- b.bx];exact o,λc a=>Vp.2 ((v c a).imp id λe=>⟨e,o.lt a⟩)⟩,t,d.wt,a,λc a=>?_,b.db.mem.ext.then (d.mod.aj λc _ a=> .inr (b.db.mem.own c a).1),λp r=>(d.dc p r).trans (b.dc p r)⟩;have:=b.db.mem.ext.size;rcases Vp.1 a with e|e
 ·have:=b.db.mem.own c e;omega
 ·omega
theorem Fq.lt(a:Fq B g h s q k st m D aJ c n):s<h.size:=Ag a.cell
theorem Fq.step {f:aa}{d:Hp}{k':Nat->Nat}{i:Db}{e:Bx}{j:Bz}{l o:Nat}(a:Fq B g h s q k st m D aJ c n)(t:Bt B g f d k' i e j l o)(hd:d.d=q.d)(u:d.b=q.b)(v: ∀b,¬cz b->ff e b=ff m b)(w:B.cm=true->e.fuel= -1)(x:Mod (λc=>k c≠0) h f)(y: ∀c,k' c≠0->k c≠0\/h.size<=c):Fq B g f s d k' i e j l o n:=by
 refine⟨t,by rw[hd];exact x.ag a.cell (by rw[a.kz];simp),Decidable.byContradiction λz=>?_,a.base,w,a.cw,u.trans a.bx,λb p=>(v b p).trans (a.dc b p)⟩;have:=a.lt;rcases y s z with r|r
 ·exact r a.kz
 ·omega
theorem sV {key:A2I}(b:Fq B g h s q k st m D aJ c n)(d:key.size<=1099511627776)(e: ∀a,Ext h a->R (J1 #[J7 (IK (CY st) key).1,J3 (IK (CY st) key).2,J6 J9 0]) a):AA A P Fb #[Ak s,J7 key] h R:=by refine Qo ?_;unfold Nb;refine af.no rfl (aE (AY.mk (AL b.cell rfl) ?_));obtain⟨i,f,j,l⟩:=b.db.dB;exact AO8 b.db.mem f d λa x=>⟨_,_,_,rfl,e a x⟩
theorem AOj {p:A2I}(Q:p.size<=1099511627776)(t: ∀u,Ext h u->R (J7 (Qd p)) u):AA A P VN #[J7 p] h R:=by
 refine AGm ?_;unfold vI;have y:J8 J9 ((p.size:Int)-(1:Int))=(p.size:Int)-1:=wrap_i64 (by omega) (by omega);rw[y];have S:p.data.toList.length=p.size:=by rw[Hk];rfl
 refine Loop.rule (λv x f=> ∃b:Nat,x=((b:Int)-1,())/\v=b/\f=h/\b<=p.size/\ ∀x∈p.data.toList.drop b,¬x<255) ?_ ⟨p.size,rfl,rfl,rfl,A0 _,λx e=>by rw[I0 (by omega)] at e;cases e⟩;rintro K v _ f ⟨b,rfl,T,rfl,U,o⟩ z;dsimp only;refine af.intro (λr=>?_) (λr=>?_)
 ·have V:1<=b:=by have:=of_decide_eq_true r;omega
  obtain⟨i,rfl⟩: ∃i,b=i+1:=⟨b-1,by omega⟩;have C:((i+1:Nat):Int)-1=(i:Int):=by omega
  rw[C];refine⟨by omega,?_⟩;have ah:p.data.toList[i]? =some (p.data.toList[i]'(by omega)):=A2 _;generalize F:p.data.toList[i]'(by omega)=a at*
  have G:dD p (i:Int)=(a.toNat:Int):=by
   unfold dD;have:p[i]? =some a:=by rw[show p[i]? =p.data[i]? from rfl,<-PJ];exact ah
   rw[show((i:Int).toNat)=i from rfl,this];rfl
  rw[G];have H:p.data.toList.drop i=a::p.data.toList.drop (i+1):=by rw[F2 (by omega),F]
  refine af.intro (λd=>?_) (λd=>?_)
  ·have d:a<255:=by rw[UInt8.lt_iff_toNat_lt];have:=of_decide_eq_true d;show a.toNat<255;omega
   have W:a.toNat<255:=UInt8.lt_iff_toNat_lt.1 d;refine⟨by omega,⟨by omega,?_⟩⟩;have I:J8 .u8 ((a.toNat:Int)+(1:Int))=((a+1).toNat:Int):=by
    rw[show(a.toNat:Int)+1=((a.toNat+1:Nat):Int) from by omega,wrap_u8];have j:(a+1).toNat=a.toNat+1:=by rw[UInt8.toNat_add];show(a.toNat+1) % 256=_;omega
    rw[j];omega
   rw[I];refine ao.mk λw _ J L X=>?_
   have v2:View Ho w ⟨some ⟨f.size,0,none⟩,1,1⟩ [a+1]:=(Own.lit (E:=Ho) (l:= [a+1]) J rfl (by simp[maxLen])).view;refine Kn (s:=⟨some ⟨f.size,0,none⟩,1,1⟩) lN lM Ns v2 ⟨_,rfl,?_⟩;have M:(AX [a+1]).size=1:=AP _;have Y:(p.extract 0 i).size<=p.size:=by rw[LN];omega
   refine⟨by rw[show(i:Int).toNat=i from rfl,M];show(((p.extract 0 i).size+1:Nat):Int)<=9223372036854775807;omega,?_⟩;have:=t w L;have N:Qd p=p.extract 0 i++AX [a+1]:=by unfold Qd;rw[yb ah d o];apply NO;rw[GP,RW];apply N6;rw[Ix,Se];show p.data.toList.take i++ [a+1]=_++(AX [a+1]).data.toList;rw[show(AX [a+1]).data.toList= [a+1] from Be _];simp
   rw[N] at this;exact this
  ·have d: ¬a<255:=λh=>by
    have:=UInt8.lt_iff_toNat_lt.1 h;have j:(255:UInt8).toNat=255:=rfl;have:=of_decide_eq_false d;omega
   rw[show J8 J9 ((i:Int)-(1:Int))=(i:Int)-1 from wrap_i64 (by omega) (by omega)];refine z i _ _ (by omega) ⟨i,rfl,rfl,rfl,by omega,λx e=>?_⟩;rw[H] at e;rcases List.mem_cons.1 e with rfl|e
   ·exact d
   ·exact o x e
 ·have O:b=0:=by have:=of_decide_eq_false r;omega
  subst O;have:=t f Mod.refl;have j:Qd p=⟨#[]⟩:=by unfold Qd;rw[rT (by simpa using o)];rfl
  rw[j] at this;exact this
theorem AOm {p f:A2I}{e:Int}(b:Fq B g h s q k st m D aJ c n)(l:p.size<=1099511627776)(o: ∀sl d,Own BO AQ d sl (jy (CY st) p f e)->(∀ c,sl.ag=some c->h.size<=c)->Ext h d->R (J1 #[J4 sl.p sl.len sl.cap,J6 J9 0]) d):AA A P F5 #[Ak s,J7 p,J7 f,J6 J9 e] h R:=by
 refine Y9 ?_;unfold RB;refine af.no rfl (aE (AY.mk (AL b.cell rfl) ?_));refine AOj l λC a=>⟨_,rfl,⟨a.ah (AL b.cell rfl),?_⟩⟩
 have i:=b.on a;obtain⟨r,t,u,E⟩:=i.db.dB;have v:(if(!aR p f)=true then p else f)=gH p f:=by unfold gH;cases aR p f<;>rfl
 rw[v];refine ARA i.db.mem r t u λsl w j x y=>⟨sl,_,rfl,?_⟩
 rw[AOp] at j;exact o sl w j (λc z=>by have:=x c z;have:=a.size;omega) (a.trans y)
theorem AOF {conds sl:Sl}{d l:List Pr}(aX:cu g)(o:Fq B g h s q k st m D aJ c n)(hA:aJ+3<=B.A)(W:c+64<=B.C)(aY:n+1<=1000000)(vc:View BO h conds d)(v:View BO h sl l)(aZ:l≠ []-> ∀b,sl.ag=some b->b<h.size/\k b=0)(X: ∀x∈d,x.key.size<=1099511627776)
  (L:di (CY st) d l≠0-> ∀j,Ext h j->R (J6 J9 (di (CY st) d l)) j)
  (Q:B.cm=false->di (CY st) d l=0-> ∀j M N (f:Int),Dn B g j M N (aJ+3) (c+64) [CY st,cj (CY st) l]->(f=30\/f=0/\QS j q.d/\j[s]? =some (J2 #[Ak q.d,J6 J9 ((n+1:Nat):Int)] Mm (0,0)))->Mod (λc=>k c≠0\/h.size<=c\/c=s) h j->(∀ c,M c≠0->k c≠0\/h.size<=c)->R (J6 J9 f) j)
  (Y:di (CY st) d l=0-> ∀j Z M au N a0,Z.d=q.d->Z.b=q.b->Fq B g j s Z M au N a0 (aJ+3) (c+64) (n+1)->CY au=cj (CY st) l->Mod (λc=>k c≠0\/h.size<=c\/c=s) h j->(∀ c,M c≠0->k c≠0\/h.size<=c)->R (J6 J9 0) j):
  AA A P GH #[Ak s,J4 conds.p conds.len conds.cap,J4 sl.p sl.len sl.cap] h R:=by
 refine AB2 ?_;unfold Uk;refine af.no rfl ?_;rw[vc.len];refine af.intro (λy=>?_) (λy=>?_)
 ·have S:d.length>64:=by have:=of_decide_eq_true y;omega
  have f:di (CY st) d l=2:=by unfold di;rw[if_pos S]
  have:=L (by rw[f];decide) h Mod.refl;rwa [f] at this
 have S: ¬d.length>64:=by have:=of_decide_eq_false y;omega
 refine AHT (s:=sl) v λp av=>⟨_,rfl,?_⟩
 refine af.intro (λab=>?_) (λab=>?_)
 ·have H:Fh l≠0:=by simpa using ab
  have f:di (CY st) d l=Fh l:=by unfold di;rw[if_neg S,if_pos H]
  have:=L (by rw[f];exact H) p av;rwa [f] at this
 have H:Fh l=0:=by simpa using ab
 have f:di (CY st) d l=if d.all (Bv (CY st)) then 0 else 100:=by unfold di;rw[if_neg S,if_neg (by rw[H];simp)]
 rw[f] at L Y Q;refine Loop.rule (λaw x r=> ∃i:Nat,x=((i:Int),())/\aw=d.length-i/\i<=d.length/\Ext h r/\(d.take i).all (Bv (CY st))=true) ?_ ⟨0,rfl,rfl,A5 _,av,rfl⟩;rintro K aw _ r ⟨i,rfl,rfl,bh,z,ac⟩ a1;have w:=o.on z;dsimp only;refine af.intro (λy=>?_) (λy=>?_)
 ·have I:i<d.length:=by have:=of_decide_eq_true y;omega
  have ah:d[i]? =some d[i]:=A2 I;have a2:=X d[i] (AS I);have a3:d[i]∈d:=AS I;have a4:d.take (i+1)=d.take i++ [d[i]]:=by rw[Ax,ah];rfl
  generalize d[i]=x at*
  rw[<- vc.len];refine(vc.ext z).idx ah λa _ ag=>?_
  obtain⟨ag,c1,c2⟩:=ag.pair;refine AJ.mk ag (AJ.mk c1 (AZ.mk c2 (ao.pair λb aj bi ax ay bj=>?_)));have ak:=w.on ay;refine aE (AY.mk (AL ak.cell rfl) (AJ.mk (AL ax rfl) ?_));obtain⟨bk,a5,bm,bn⟩:=ak.db.dB;refine AO8 ak.db.mem a5 a2 λal az=>⟨_,_,_,rfl,af.no rfl ?_⟩
  have aA:=Ap az ax;have aC:=(z.trans ay).trans az;refine ai.mk λaD aF=>?_
  have r:=AH6 (m:=CY st) (c:=x);have aG:Bv (CY st) x=false->aD (true,()) al:=λam=>aF _ _ (af.yes rfl (by
   have O: ¬d.all (Bv (CY st))=true:=λh=>by
    have:=List.all_eq_true.1 h x a3;rw[am] at this;cases this
   rw[if_neg O] at L;exact L (by decide) al aC))
  have aO:Bv (CY st) x=true->aD (false,()) al:=λam=>aF _ _ (af.no rfl (by
   rw[Aa (by omega)];refine a1 (d.length-(i+1)) _ _ (by omega) ⟨i+1,rfl,rfl,I,aC,?_⟩;rw[a4,Sf,ac];simp[am]))
  refine AZ.mk (AB aA rfl) (af.intro (λp=>?_) (λp=>?_))
  ·exact aG (by rw[r,p];rfl)
  ·refine af.intro (λT=>?_) (λT=>?_)
   ·refine AJ.mk (AB aA rfl) ?_;cases aj:bU (IK (CY st) x.key).1 x.val with
    |true=>exact aO (by rw[r,p,T,aj];rfl)
    |false=>exact aG (by rw[r,p,T,aj];rfl)
   ·exact aO (by rw[r,p,T];rfl)
 ·have I:i=d.length:=by have:=of_decide_eq_false y;omega
  subst I;rw[Bk] at ac;rw[if_pos ac] at Y Q;have bo:=z.size;refine aE (AY.mk (AL w.cell rfl) ?_);have bp:=(AFC H).1.len;have an:=o.base;have aH: ∀ {N:Bx} {t:aa},kQ B r t q k m N (aJ+3)->B.cm=false:=λu=>by
   cases e:B.cm with
   |false=>rfl
   |true=>exact absurd (o.fuel e) u.fuel
  have aI: ∀ {t:aa} c,nA k r.size t.size c≠0->k c≠0\/h.size<=c:=λc e=>(Vp.1 e).imp id λh=>by omega
  have aK: ∀ {t:aa},Mod (λc=>k c≠0) r t->Mod (λc=>k c≠0\/h.size<=c\/c=s) h t:=λa6=>(z.aj λc _ e=>e.elim).trans (a6.aj λc _ e=> .inl e)
  refine APs (B:=B) (s:=sl) aX w.db hA (v.ext z) (λO b an=>by have:=aZ O b an;exact⟨by omega,this.2⟩) (λ_=>by omega) (λO=>absurd H O) (λ_ t C u ap=>⟨_,rfl,af.yes rfl ?_⟩) (λ_ t C u ap=>⟨_,rfl,af.no rfl ?_⟩) λ_ t aL aM aN C aP aQ aR U a7 a8 a9 aS aT=>⟨_,rfl,?_⟩
  ·refine Q (aH u) rfl t _ C 30 (u.tM w W λG aq=>?_) (.inl rfl) (aK u.mod) aI;rcases ap G aq with p|p
   ·exact⟨_,by simp,p.mono (A0 _) (by omega)⟩
   ·exact⟨_,by simp,p.mono (A0 _) (by omega)⟩
  ·have aU:=u.mod.ag w.cell (by rw[w.kz];simp);refine aE (AC.mk (AB aU rfl) (aE ?_));rw[Aa (by have:=o.cw;omega)];simp only[Bq,AI];refine ae.mk aU (by simp) λV ar E ba=>?_
   have F:=u.tM w (ml:= [CY st,cj (CY st) l]) W λG aq=>⟨_,by simp,(ap G aq).mono (A0 _) (by omega)⟩
   have bb:nA k r.size t.size s=0:=Decidable.byContradiction λX=>by
    have:=w.lt;rcases Vp.1 X with h|h
    ·exact h o.kz
    ·omega
   have bc:s≠q.d:=λf=>by have:=o.db.mem.kd;rw[<- f,o.kz] at this;cases this
   obtain⟨bd,be,aV⟩:=F.box;refine Q (aH u) rfl V _ C 0 ⟨⟨bd,be.mod E λc e f=>aV c e (by rw[f];exact bb),aV⟩,F.tells,F.wt,F.hc,λc e=>by have:=F.own c e;omega,F.ext.then (E.aj λc _ e=> .inr (by rw[e];exact an)),F.dc⟩ (.inr ⟨rfl,u.dn.mod E λf=>bc f.symm,by simpa using ar⟩) ((aK u.mod).trans (E.aj λc _ e=> .inr (.inr e))) aI
  have bf:=a8.map;have U:=U.put (A0 _) (show c+l.length<=c+64 by omega) W;have aW:B.cm=true->C.fuel= -1:=λh=>a7.calm (o.fuel h)
  have J:=w.step U aQ aR a9 aW aS aT;refine af.no rfl (aE (AC.mk (AB J.cell rfl) (aE ?_)));rw[Aa (by have:=o.cw;omega)];simp only[Bq,AI];refine ae.mk J.cell (by simp) λV ar E ba=>?_
  have bg:Fq B g V s aL aM aN C aP (aJ+3) (c+64) (n+1):=⟨U.beside E (λc e=>by subst e;exact⟨J.kz,o.base⟩),by simpa using ar,J.kz,o.base,aW,aY,J.bx,J.dc⟩;refine Y rfl V aL aM aN C aP aQ aR bg bf (((z.aj λc _ e=>e.elim).trans (aS.aj λc _ e=> .inl e)).trans (E.aj λc _ e=> .inr (.inr e))) λc e=>?_
  rcases aT c e with h|h
  ·exact .inl h
  ·exact .inr (by omega)
end
section
variable {A : ak} {h : aa} {R : A2H}
end
section
variable {A : ak} {B : bV} {g h : aa} {m : Bx} {D : Bz} {aJ c : Nat} {R : A2H}
theorem ANI {b:Nat}{Sb:Nat->Prop}(r:cu g)(t:Bl h b Sb m)(u:Ext g h)(v: ∀c,Sb c->g.size<=c)(hd:m.down=false)(w:m.fuel= -1)(y: ∀d,ff m (aD nl d)=none)(z: ∀d,ff m (aD nn d)=none)(C: ∀x,ff m x≠none->(bl x).head? ≠some 116)(hA:1<=B.A)(E:aY m.files<=B.W0)(F:b=B.bx)(G: ∀a,¬cz a->ff m a=B.zf a)
  (H: ∀e s j k l I J,j.b=b->Fq B g e s j k l I J 1 0 0->CY l= []->Mod (λc=>Sb c\/h.size<=c) h e->(∀ c,k c≠0->Sb c\/h.size<=c)->h.size<=s->R (J1 #[Ak s,J6 J9 0]) e):AA A P Kh #[Ak b] h R:=by
 refine vF ?_;unfold Xf;refine AOz (B:=B) r t u v hd w y z C hA E λK L M N O Q n f S T U o V=>⟨_,_,rfl,af.no rfl (ao.mk λW _ X p Z=>?_)⟩
 have Y:=f.mem.ext.size;exact H W K.size L M N O Q n ⟨f.on p,X,f.free (A0 _),Y,λ_=>S,A5 _,n.trans F,λa q=>(U a q).trans (G a q)⟩ T ((o.aj λc _ i=> .inl i).trans (p.aj λc _ i=>i.elim)) V o.size
theorem AKf {b:Nat}{Sb:Nat->Prop}{i:List Pr}(t:cu g)(u:Bl h b Sb m)(v:Ext g h)(w: ∀c,Sb c->g.size<=c)(hd:m.down=false)(j:m.fuel= -1)(x:Rec (ff m) aJ c i)(d:c<=B.C)(hA:aJ+1<=B.A)(y:aY m.files<=B.W0+aJ*B.K)(z:b=B.bx)(C: ∀a,¬cz a->ff m a=B.zf a)
  (E: ∀e s k l n F G,k.b=b->Fq B g e s k l n F G (aJ+1) c 0->CY n=i->Mod (λc=>Sb c\/h.size<=c) h e->(∀ c,l c≠0->Sb c\/h.size<=c)->h.size<=s->R (J1 #[Ak s,J6 J9 0]) e):AA A P Kh #[Ak b] h R:=by
 refine vF ?_;unfold Xf;refine ANL (B:=B) t u v w hd x d hA y (λH=>absurd j H) λI J K L M N o f O Q S p T=>⟨_,_,rfl,af.no rfl (ao.mk λU _ V q X=>?_)⟩
 have W:=f.mem.ext.size;exact E U I.size J K L M N o ⟨f.on q,V,f.free (A0 _),W,λ_=>O.calm j,A5 _,o.trans z,λa r=>(S a r).trans (C a r)⟩ Q ((p.aj λc _ d=> .inl d).trans (q.aj λc _ d=>d.elim)) T p.size
end
structure AT3 where
 kind:Int
 cs:Sl
 bs:Sl
 key:A2I
 aZ:A2I
 most:Int
 all:Bool
structure AUE (N:Nat) (h:aa) (x:AT3) (cl l:List Pr):Prop where
 cs:View BO h x.cs cl
 bs:View BO h x.bs l
 keys: ∀c∈cl,c.key.size<=N
 key:x.key.size<=N
section
variable {A : ak} {h : aa} {R : A2H}
end
theorem nB:P.underlying Fz=some (.map Bp Bp):=by kernel_rfl
theorem nC:P.underlying Ey=some (.map Bp Zf):=by kernel_rfl
theorem iK:P.underlying Bp=some (.int J9):=by kernel_rfl
theorem pH:(zeroValue Bp).calc P=some (J6 J9 0):=by kernel_rfl
theorem pI:(zeroValue Zf).calc P=some (.int .u64 0):=by kernel_rfl
def dX(f:Nat->Nat)(a b:Nat):Nat->Nat:=λm=>if m=a then b else f m
structure Du (g h:aa) (k:Nat->Nat) (s p bh bu:Nat) (name:A2I) (aI:Nat) (f u:Nat->Nat) (N:Nat):Prop where
 cell:h[p]? =some (J2 #[Ak s,J7 name,J6 J9 (aI:Int),.map (some bh),.map (some bu)] OH (0,0))
 held: ∃hm,Tn J9 h bh hm/\hm.length<=N/\ ∀n:Nat,(L6 n hm).getD (J6 J9 0)=J6 J9 (f n:Int)
 used: ∃um,Tn J9 h bu um/\um.length<=N/\ ∀n:Nat,(L6 n um).getD (.int .u64 0)= .int .u64 (u n:Int)
 bS: ∀c,c=p\/c=bh\/c=bu->k c=0/\g.size<=c/\c≠s
 ne:bh≠bu
 named:Aj name=true
 sh:1<=aI/\aI<=16
 cw:N<=1000000
def ET(d:List Pr)(e a:Nat)(b:A2I):Prop:=(a=0/\b=⟨#[]⟩/\(IK d (Bd e)).2=false)\/(1<=a/\a<=2147483647/\Aj b=true/\IK d (Bd e)=(Hy a b,true))
section
variable {A : ak} {B : bV} {g h : aa} {s p bh bu : Nat} {q : Hp} {k : Nat -> Nat} {st : Db} {m : Bx} {D : Bz} {aJ c nn N : Nat} {name : A2I} {aI : Nat} {f u : Nat -> Nat} {R : A2H}
theorem Du.lt(a:Du g h k s p bh bu name aI f u N): ∀c,c=p\/c=bh\/c=bu->c<h.size:=by
 obtain⟨e,b,_⟩:=a.held;obtain⟨i,d,_⟩:=a.used;rintro c (rfl|rfl|rfl)
 ·exact Ag a.cell
 ·exact b.lt
 ·exact d.lt
theorem Du.nS(a:Du g h k s p bh bu name aI f u N):p≠bh/\p≠bu:=by
 obtain⟨i,⟨_,_,b,_⟩,_⟩:=a.held;obtain⟨j,⟨_,_,d,_⟩,_⟩:=a.used;have e:=a.cell;constructor
 ·rintro rfl;rw[e] at b;cases b
 ·rintro rfl;rw[e] at d;cases d
theorem Du.beside {d:aa}{e:Nat->Nat}{i:Nat->Prop}(a:Du g h k s p bh bu name aI f u N)(b:Mod i h d)(hX: ∀c,c=p\/c=bh\/c=bu-> ¬i c)(l: ∀c,c=p\/c=bh\/c=bu->e c=0):Du g d e s p bh bu name aI f u N:=by obtain⟨n,o,r,t⟩:=a.held;obtain⟨v,w,x,y⟩:=a.used;exact⟨b.ag a.cell (hX p (.inl rfl)),⟨n,o.mod b (hX bh (.inr (.inl rfl))),r,t⟩,⟨v,w.mod b (hX bu (.inr (.inr rfl))),x,y⟩,λc j=>⟨l c j,(a.bS c j).2⟩,a.ne,a.named,a.sh,a.cw⟩
theorem Du.on {a:aa}(b:Du g h k s p bh bu name aI f u N)(x:Ext h a):Du g a k s p bh bu name aI f u N:=b.beside x (λ_ _ h=>h) λc d=>(b.bS c d).1
theorem Du.more {b:Nat}(a:Du g h k s p bh bu name aI f u N)(r:N<=b)(d:b<=1000000):Du g h k s p bh bu name aI f u b:=by obtain⟨e,i,t,j⟩:=a.held;obtain⟨l,n,v,o⟩:=a.used;exact⟨a.cell,⟨e,i,by omega,j⟩,⟨l,n,by omega,o⟩,a.bS,a.ne,a.named,a.sh,d⟩
theorem Du.step {e:aa}{k':Nat->Nat}{i:Nat->Prop}(b:Du g h k s p bh bu name aI f u N)(j:Mod i h e)(l: ∀c,i c->k c≠0\/h.size<=c\/c=s\/ ¬(c=p\/c=bh\/c=bu))(n: ∀c,k' c≠0->k c≠0\/h.size<=c):Du g e k' s p bh bu name aI f u N:=by
 refine b.beside j (λc a o=>?_) λc a=>Decidable.byContradiction λr=>?_
 ·have d:=b.bS c a;have t:=b.lt c a;rcases l c o with h|h|h|h
  ·exact h d.1
  ·omega
  ·exact d.2.2 h
  ·exact h a
 ·have d:=b.bS c a;have t:=b.lt c a;rcases n c r with h|h
  ·exact h d.1
  ·omega
theorem ARV {s:Nat}(b:Fq B g h s q k st m D aJ c nn)(j:Aj name=true)(o:1<=aI/\aI<=16)
  (r: ∀a p bh bu,Du g a k s p bh bu name aI (λ_=>0) (λ_=>0) 0->(∀ c,c=p\/c=bh\/c=bu->h.size<=c/\c<a.size)->Ext h a->R (J1 #[Ak p,J6 J9 0]) a):AA A P QF #[Ak s,J7 name,J6 J9 (aI:Int)] h R:=by
 refine AGS ?_;unfold vE;refine ai.mk λK t=>af.no rfl (EO ⟨_,rfl,af.no (by rw[j];rfl) (af.no (decide_eq_false (by omega)) (t _ _ (af.no (decide_eq_false (by omega)) ?_)))⟩)
 refine ao.mk λl _ v w H=>ao.mk λx _ y n I=>ao.mk λd _ z e J=>?_
 have C:=(w.trans n).trans e;have L:=b.db.mem.ext.size;have M:=b.lt;have E:d[h.size]? =some (.map #[] 0):=e.ag (n.ag v (λh=>h)) (λh=>h);have F:d[l.size]? =some (.map #[] 0):=e.ag y (λh=>h);refine r d x.size h.size l.size ⟨z,⟨[],Tn.empty E,A0 _,λG=>rfl⟩,⟨[],Tn.empty F,A0 _,λG=>rfl⟩,λc i=>?_,by omega,j,o,by omega⟩ (λc i=>?_) C
 ·have:h.size<=c:=by rcases i with rfl|rfl|rfl<;>omega
  exact⟨b.db.free this,by omega,by omega⟩
 ·rcases i with rfl|rfl|rfl<;>omega
theorem sY {a:Nat}(b:Du g h k s p bh bu name aI f u N)(d:R (J6 J9 (f a:Int)) h):AA A P EJ #[Ak p,J6 J9 (a:Int)] h R:=by obtain⟨j,e,l,i⟩:=b.held;refine WE ?_;unfold PH;exact af.no rfl (aE (Ef.mk (AB b.cell rfl) (MP nB iK pH e ⟨_,i a,d⟩)))
theorem APg {b:List (Int×J0)}{a d:Nat}(h: ∀m:Nat,(L6 m b).getD (J6 J9 0)=J6 J9 (f m:Int))(m:Nat):(L6 m (Tz a (J6 J9 (d:Int)) b)).getD (J6 J9 0)=J6 J9 (dX f a d m:Int):=by
 rw[rU];unfold dX;by_cases e:m=a
 ·subst e;rw[if_pos rfl,if_pos rfl];rfl
 ·rw[if_neg (by omega),if_neg e];exact h m
theorem AIt {b:List (Int×J0)}{a r:Nat}(h: ∀m:Nat,(L6 m b).getD (.int .u64 0)= .int .u64 (f m:Int))(m:Nat):(L6 m (Tz a (.int .u64 (r:Int)) b)).getD (.int .u64 0)= .int .u64 (dX f a r m:Int):=by
 rw[rU];unfold dX;by_cases d:m=a
 ·subst d;rw[if_pos rfl,if_pos rfl];rfl
 ·rw[if_neg (by omega),if_neg d];exact h m
theorem Du.strike {d:Nat}{j:Q7}{K:A2H}(a:Du g h k s p bh bu name aI f u N)(l: ∀b,Du g b k s p bh bu name aI (dX f d 0) u N->Mod (λc=>c=bh) h b->K (J1 #[]) b):BK A P (Builtin.delete_ #[Fz,Bp] j #[.map (some bh),J6 J9 (d:Int)]) h K:=by
 obtain⟨z,n,o,r⟩:=a.held;obtain⟨t,v,w,x⟩:=a.used;refine AKH nB iK n λb y e C=>l b ⟨e.ag a.cell a.nS.1,⟨_,y,As APo o,λm=>?_⟩,⟨t,v.mod e a.ne.symm,w,x⟩,a.bS,a.ne,a.named,a.sh,a.cw⟩ e
 rw[yc];unfold dX;by_cases i:m=d
 ·subst i;rw[if_pos rfl,if_pos rfl];rfl
 ·rw[if_neg (by omega),if_neg i];exact r m
theorem APE {b j:Nat}{l:A2I}(w:Fq B g h s q k st m D aJ c nn)(a:Du g h k s p bh bu name aI f u N)(E:b<aI)(L:ET (CY st) b j l)(n: ∀o,Ext h o->R (J1 #[J6 J9 (j:Int),J7 l,J6 J9 0]) o):AA A P Lg #[Ak p,J6 J9 (b:Int)] h R:=by
 have F:=a.sh;refine XP ?_;unfold Pz;refine ai.mk λK x=>af.no rfl (af.no (decide_eq_false (by omega)) (aE (AC.mk (AB a.cell rfl) (x _ _ (af.no (decide_eq_false (by omega)) ?_)))))
 refine aE (AY.mk (AL a.cell rfl) (Tw (by omega) λr d=>⟨_,rfl,⟨AL (Ap d a.cell) rfl,?_⟩⟩));refine sV (w.on d) (by rw[Km];omega) λt y=>⟨_,_,_,rfl,?_⟩
 have v:=d.trans y;refine ai.mk λG z=>af.no rfl (z _ _ ?_)
 rcases L with⟨rfl,rfl,e⟩|⟨r,t,i,e⟩
 ·rw[e];exact af.yes rfl (n _ v)
 ·rw[e];exact af.no rfl (ANQ r t i λi C=>⟨_,_,_,rfl,n i (v.trans C)⟩)
theorem AS2 {k v:A2I}(a:k≠⟨#[]⟩)(d:k.size<=64)(e:v.size<=8192):Fh [⟨k,v,false⟩]=0:=by
 have b:Ah ⟨k,v,false⟩=0:=by unfold Ah;rw[if_neg (by simp[a]),if_neg (by simp;omega)]
 unfold Fh;rw[if_neg (by simp),if_neg (by simp)];unfold GX;rw[if_neg (by rw[b];decide)];rfl
theorem AJJ {d r:Nat}{aw:A2I}(E:cu g)(aS:B.cm=true)(T:Fq B g h s q k st m D aJ c nn)(n:Du g h k s p bh bu name aI f u N)(aT:d<aI)(L:ET (CY st) d r aw)(ax:r+1<=2147483647)(hA:aJ+3<=B.A)(aU:c+64<=B.C)(aV:nn+1<=1000000)(aW:N+1<=1000000)
  (aX: ∀U ag k' ay aY aZ,ag.d=q.d->ag.b=q.b->Fq B g U s ag k' ay aY aZ (aJ+3) (c+64) (nn+1)->CY ay=cj (CY st) [⟨Bd d,Hy (r+1) name,false⟩]->Du g U k' s p bh bu name aI (dX f d (r+1)) (dX u d 0) (N+1)->
   Mod (λc=>k c≠0\/h.size<=c\/c=s\/c=bh\/c=bu) h U->(∀ c,k' c≠0->k c≠0\/h.size<=c)->R (J1 #[J6 J9 ((r+1:Nat):Int),J6 J9 0]) U):
  AA A P Gf #[Ak p,J6 J9 (d:Int)] h R:=by
 have bP:=n.sh;refine Tk ?_;unfold Mj;refine APE T n aT L λM a0=>⟨_,_,_,rfl,af.no rfl ?_⟩
 refine Tw (by omega) λaj a1=>⟨_,rfl,?_⟩
 have az:=a0.trans a1;refine ao.pair λb V bQ aA a2 bR=>?_
 have aC:=az.trans a2;have bS:=az.size;have bT:=T.db.mem.ext.size;refine ai.mk λK a3=>?_
 have aD: ∀W y z,Ext h W->W[b]? =some (J2 #[J7 (Bd d),J7 y,J3 z] AQ (0,0))->Bv (CY st) ⟨Bd d,y,z⟩=true->K () W:=by
  intro W y z ak a4 a5;refine a3 _ _ ?_;have bU:=T.on ak;have a6:=n.on ak;refine aE (AJ.mk (AB a6.cell rfl) ?_);rw[Aa (by omega)];refine pG (by omega) ax n.named λX aF=>⟨_,_,rfl,?_⟩
  have al:=ak.trans aF;refine af.no rfl (ai.mk λa7 a8=>?_);have aG:=T.on al;have am:=n.on al;have I:=Ap aF a4;have an: ∀e O C,Ext X e->e[O]? =some (J2 #[J7 (Bd d),J7 y,J3 z] AQ (0,0))->e[C]? =some (J2 #[J7 (Bd d),J7 (Hy (r+1) name),J3 false] AQ (0,0))->X.size<=C->
    AA A P GH #[Ak s,J4 (some (⟨O,0,none⟩:Q6)) 1 1,J4 (some (⟨C,0,none⟩:Q6)) 1 1] e λa9 ap=> ∃aH:Int,a9=J6 J9 aH/\a7 (aH,()) ap:=by
   intro e O C w ba aK bb;have bc:=aG.on w;have bd:=am.on w;have aL:=al.trans w;have vc:View BO e ⟨some ⟨O,0,none⟩,1,1⟩ [⟨Bd d,y,z⟩]:=(Own.lit (E:=BO) (l:= [⟨Bd d,y,z⟩]) ba rfl (by simp[maxLen])).view;have be:View BO e ⟨some ⟨C,0,none⟩,1,1⟩ [⟨Bd d,Hy (r+1) name,false⟩]:=(Own.lit (E:=BO) (l:= [⟨Bd d,Hy (r+1) name,false⟩]) aK rfl (by simp[maxLen])).view;have bf:=AS2 (AMv d) (show(Bd d).size<=64 by rw[Km];omega) (AKr ax n.named);have bg:di (CY st) [⟨Bd d,y,z⟩] [⟨Bd d,Hy (r+1) name,false⟩]=0:=by unfold di;rw[if_neg (by simp),if_neg (by rw[bf];decide),if_pos (by simp[a5])]
   have bi:k C=0:=aG.db.free bb;refine AOF (B:=B) (conds:=⟨some ⟨O,0,none⟩,1,1⟩) (sl:=⟨some ⟨C,0,none⟩,1,1⟩) E bc hA aU aV vc be (λ_ bj Y=>by
    have o:C=bj:=by simpa [Sl.ag] using Y
    subst o;exact⟨Ag aK,bi⟩) (λx e=>by rw[List.mem_singleton.1 e];show(Bd d).size<=_;rw[Km];omega) (λbk=>absurd bg bk) (λa=>by rw[aS] at a;cases a) λ_ ap bm Z bn bo bp bq br bs bt aM aN=>⟨_,rfl,a8 _ _ (af.no rfl ?_)⟩
   have bV:=aL.size;have i:=bd.step (k':=Z) aM (λc a=>by
    rcases a with h|h|h
    ·exact .inl h
    ·exact .inr (.inl h)
    ·exact .inr (.inr (.inl h))) aN
   have bv:Mod (λc=>k c≠0\/h.size<=c\/c=s\/c=bh\/c=bu) h ap:=(aL.aj λc _ a=>a.elim).trans (aM.aj λc _ a=>by
    rcases a with h|h|h
    ·exact .inl h
    ·exact .inr (.inl (by omega))
    ·exact .inr (.inr (.inl h)))
   obtain⟨bW,bw,bX,bx⟩:=i.held;refine aE (Ef.mk (AB i.cell rfl) (aE (Ef.mk (AB i.cell rfl) ?_)));refine yd nB iK pH (v:=J6 J9 ((r+1:Nat):Int)) bw (by have:=i.cw;simp only[maxLen];omega) λbY bz ab bZ=>?_
   obtain⟨b0,bA,b1,bB⟩:=i.used;have bC:=bA.mod ab n.ne.symm;refine yd nC iK pI (v:= .int .u64 0) bC (by have:=i.cw;simp only[maxLen];omega) λbD bE ac b2=>?_
   have bF: ∀c,c=bh->Z c=0/\g.size<=c:=λc a=>⟨(i.bS c (.inr (.inl a))).1,(i.bS c (.inr (.inl a))).2.1⟩
   have bG: ∀c,c=bu->Z c=0/\g.size<=c:=λc a=>⟨(i.bS c (.inr (.inr a))).1,(i.bS c (.inr (.inr a))).2.1⟩
   have bH:=(bs.beside ab bF λo=>(i.bS s (.inr (.inl o))).2.2 rfl).beside ac bG λo=>(i.bS s (.inr (.inr o))).2.2 rfl
   refine aX bD bm Z bn bo bp bq br bH bt ⟨ac.ag (ab.ag i.cell n.nS.1) n.nS.2,⟨_,bz.mod ac n.ne,As YR (by omega),λm=>APg bx m⟩,⟨_,bE,As YR (by omega),λm=>AIt (r:=0) bB m⟩,i.bS,i.ne,i.named,i.sh,aW⟩ ((bv.trans (ab.aj λc _ a=> .inr (.inr (.inr (.inl a))))).trans (ac.aj λc _ a=> .inr (.inr (.inr (.inr a))))) λc a=>?_
   rcases aN c a with h|h
   ·exact .inl h
   ·exact .inr (by omega)
  have F: ∀ {e:aa},Ext X e->ah e ⟨p,0,none⟩=some (Ak s):=λw=>AL (Ap w am.cell) rfl
  have Q: ∀ {e:aa},Ext X e->ah e (⟨b,0,none⟩:Q6)=some (J7 (Bd d))/\ah e ((⟨b,0,none⟩:Q6).add 1)=some (J7 y)/\ah e ((⟨b,0,none⟩:Q6).add 2)=some (J3 z):=λw=>⟨AL (Ap w I) rfl,AB (Ap w I) rfl,AB (Ap w I) rfl⟩
  refine aE (AY.mk (AL am.cell rfl) (AJ.mk (AL I rfl) (AJ.mk (AB I rfl) (AZ.mk (AB I rfl) ?_))));refine⟨?_,?_⟩
  ·refine ao.mk λbI _ bJ G b3=>⟨F G,?_⟩
   refine Tw (by omega) λY J=>⟨_,rfl,?_⟩
   have j:=G.trans J;refine⟨Q j,⟨F j,?_⟩⟩;refine ao.mk λa _ S H aO=>?_
   have t:=j.trans H;exact⟨Q t,⟨F t,an a _ _ t (Ap H (Ap J bJ)) S j.size⟩⟩
  ·refine Tw (by omega) λbI G=>⟨_,rfl,⟨Q G,⟨F G,⟨?_,?_⟩⟩⟩⟩
   ·refine ao.mk λY _ aq J bK=>?_
    have j:=G.trans J;refine⟨F j,ao.mk λa _ S H aO=>?_⟩;have t:=j.trans H;exact⟨Q t,⟨F t,an a _ _ t (Ap H aq) S j.size⟩⟩
   ·refine ao.mk λY _ aq J bK=>?_
    have j:=G.trans J;refine⟨Q j,⟨F j,ao.mk λa _ S H aO=>?_⟩⟩;have t:=j.trans H;exact⟨F t,an a _ _ t S (Ap H aq) G.size⟩
 refine af.intro (λar=>?_) (λar=>?_)
 ·have bL:0<r:=by have:=of_decide_eq_true ar;omega
  rcases L with⟨M,_⟩|⟨M,aj,V,o⟩
  ·omega
  simp only[Bq,AI];refine ae.mk aA (by simp) λaP au bM b4=>?_
  have au:aP[b]? =some (J2 #[J7 (Bd d),J7 ⟨#[]⟩,J3 false] AQ (0,0)):=by simpa using au
  refine pG M aj V λb5 aQ=>⟨_,_,rfl,?_⟩
  refine ae.mk (Ap aQ au) (by simp) λaR av bN b6=>?_
  have av:aR[b]? =some (J2 #[J7 (Bd d),J7 (Hy r aw),J3 false] AQ (0,0)):=by simpa using av
  have bO:Ext h aP:=aC.then (bM.aj λc _ a=> .inr (by omega));refine aD aR _ _ ((bO.trans aQ).then (bN.aj λc _ a=> .inr (by omega))) av ?_;unfold Bv;rw[o];simp
 ·have bL:r=0:=by have:=of_decide_eq_false ar;omega
  rcases L with⟨M,_,o⟩|⟨M,aj,V,o⟩
  ·refine aD V _ _ aC aA ?_;unfold Bv;rw[o];simp
  ·omega
end
section
variable {A : ak} {B : bV} {g h : aa} {s p bh bu : Nat} {q : Hp} {k : Nat -> Nat} {st : Db} {m : Bx} {D : Bz} {aJ c nn N : Nat} {name : A2I} {aI : Nat} {f u : Nat -> Nat} {R : A2H}
def FH(a b:Nat)(name:A2I):Pr:=⟨Bd a,Hy b name,false⟩
theorem MK {mp:List Pr}{n r:Nat}{name:A2I}:Bv mp (FH n r name)=((IK mp (Bd n)).2&&decide ((IK mp (Bd n)).1=Hy r name)):=rfl
theorem ASn {n:Nat}{conds sl:Sl}{i l:List Pr}(E:cu g)(I:Fq B g h s q k st m D aJ c nn)(w:Du g h k s p bh bu name aI f u N)(av:n<256)(aw:f n<=2147483647)(hA:aJ+3<=B.A)(ax:c+64<=B.C)(ay:nn+1<=1000000)(vc:View BO h conds i)(bg:i.length<=1000000)(v:View BO h sl l)(az:l≠ []-> ∀b,sl.ag=some b->b<h.size/\k b=0/\b≠bh)(aA: ∀x∈i,x.key.size<=1099511627776)
  (aC:f n=0->R (J6 J9 170) h)
  (aD:f n≠0->Bv (CY st) (FH n (f n) name)=false-> ∀d,Fq B g d s q k st m D aJ c nn->Du g d k s p bh bu name aI (dX f n 0) u N->Mod (λc=>h.size<=c\/c=bh) h d->R (J6 J9 170) d)
  (aF:f n≠0->Bv (CY st) (FH n (f n) name)=true->di (CY st) (FH n (f n) name::i) l≠0-> ∀d,Ext h d->R (J6 J9 (di (CY st) (FH n (f n) name::i) l)) d)
  (aG:B.cm=false->f n≠0->Bv (CY st) (FH n (f n) name)=true->di (CY st) (FH n (f n) name::i) l=0-> ∀d k' Q (e:Int),Dn B g d k' Q (aJ+3) (c+64) [CY st,cj (CY st) l]->(e=30\/e=0/\QS d q.d/\d[s]? =some (J2 #[Ak q.d,J6 J9 ((nn+1:Nat):Int)] Mm (0,0)))->Mod (λc=>k c≠0\/h.size<=c\/c=s) h d->(∀ c,k' c≠0->k c≠0\/h.size<=c)->R (J6 J9 e) d)
  (aH:f n≠0->Bv (CY st) (FH n (f n) name)=true->di (CY st) (FH n (f n) name::i) l=0-> ∀d S k' ah Q aK,S.d=q.d->S.b=q.b->Fq B g d s S k' ah Q aK (aJ+3) (c+64) (nn+1)->CY ah=cj (CY st) l->Du g d k' s p bh bu name aI f u N->Mod (λc=>k c≠0\/h.size<=c\/c=s) h d->(∀ c,k' c≠0->k c≠0\/h.size<=c)->R (J6 J9 0) d):
  AA A P Fa #[Ak p,J6 J9 (n:Int),J4 conds.p conds.len conds.cap,J4 sl.p sl.len sl.cap] h R:=by
 refine AAZ ?_;unfold TS;refine sY w ⟨_,rfl,af.intro (λT=>?_) (λT=>?_)⟩
 ·exact aC (by simpa using T)
 have J:f n≠0:=by simpa using T
 refine aE (AJ.mk (AB w.cell rfl) ?_);refine pG (by omega) aw w.named λL aL=>⟨_,_,rfl,?_⟩
 refine Tw av λbi aM=>⟨_,rfl,?_⟩
 have aN:=aL.trans aM;refine ao.pair λb bj bk aj aO bm=>?_
 have U:=aN.trans aO;have aP:=w.on U;have aQ:=I.on U;refine aE (AY.mk (AL aP.cell rfl) (AJ.mk (AL aj rfl) ?_));refine sV aQ (by rw[Km];omega) λo ak=>⟨_,_,_,rfl,af.no rfl ?_⟩
 have G:=U.trans ak;have y:=w.on G;have aR:=I.on G;have V:=Ap ak aj;have bn:=G.size;have bo:=I.db.mem.ext.size;refine ai.mk λK al=>?_
 have W:=MK (mp:=CY st) (n:=n) (r:=f n) (name:=name);have lost:Bv (CY st) (FH n (f n) name)=false->K (true,()) o:=λaS=>by
  refine al _ _ (af.yes rfl (aE (Ef.mk (AB y.cell rfl) ?_)));refine y.strike λX aT am=>⟨rfl,?_⟩
  have Y:=y.bS bh (.inr (.inl rfl));exact aD J aS X (aR.beside am (λc a=>by subst a;exact⟨Y.1,Y.2.1⟩) λe=>Y.2.2 e.symm) aT ((G.aj λc _ a=>a.elim).trans (am.aj λc _ a=> .inr a))
 have aU:Bv (CY st) (FH n (f n) name)=true->K (false,()) o:=λZ=>by
  refine al _ _ (af.no rfl (aE (AY.mk (AL y.cell rfl) (AJ.mk (AL V rfl) (AJ.mk (AB V rfl) (AZ.mk (AB V rfl) ?_))))));refine ao.mk λX _ aV ab bp=>⟨AL (Ap ab y.cell) rfl,?_⟩
  have aW:Own BO AQ X ⟨some ⟨o.size,0,none⟩,1,1⟩ [FH n (f n) name]:=Own.lit (E:=BO) (l:= [FH n (f n) name]) aV rfl (by simp[maxLen]);have an:=G.trans ab;refine GK (E:=BO) (s:=⟨some ⟨o.size,0,none⟩,1,1⟩) (src:=conds) M.GZ aW (vc.ext an) (by simp only[A6,G4];omega) (by simp only[A6,G4,maxLen];omega) λaX H aY ap bq _=>?_
  have z:Ext h H:=an.then (ap.aj λc _ a=> .inr (by have:o.size=c:=(by simpa [Sl.ag] using a);omega));have aZ:Ext o H:=ab.then (ap.aj λc _ a=> .inr (by have:o.size=c:=(by simpa [Sl.ag] using a);omega));have a0:=I.on z;have a1:=w.on z;refine⟨AL (Ap aZ y.cell) rfl,?_⟩;have br:=z.size;have a2: ∀x∈ [FH n (f n) name]++i,x.key.size<=1099511627776:=λx a3=>by
   rcases List.mem_append.1 a3 with h|h
   ·rw[List.mem_singleton.1 h];show(Bd n).size<=_;rw[Km];omega
   ·exact aA x h
  have aq: ∀ {j:aa},Mod (λc=>k c≠0\/H.size<=c\/c=s) H j->Mod (λc=>k c≠0\/h.size<=c\/c=s) h j:=λC=>(z.aj λc _ a=>a.elim).trans (C.aj λc _ a=>a.imp id λa=>a.imp (λh=>by omega) id)
  have ar: ∀ {t:Nat->Nat},(∀ c,t c≠0->k c≠0\/H.size<=c)-> ∀c,t c≠0->k c≠0\/h.size<=c:=λF c a=>(F c a).imp id λh=>by omega
  refine AOF (B:=B) (conds:=aX) (sl:=sl) E a0 hA ax ay aY.view (v.ext z) (λac a4 a5=>by
   have:=az ac a4 a5;exact⟨by omega,this.2.1⟩) a2 (λac j a6=>⟨_,rfl,aF J Z ac j (z.trans a6)⟩) (λa ae j t ag e a7 a8 C F=>⟨_,rfl,aG a J Z ae j t ag e a7 a8 (aq C) (ar F)⟩) λae j a9 t ba ag bb bc bd be bf C F=>⟨_,rfl,?_⟩
  refine aH J Z ae j a9 t ba ag bb bc bd be bf (a1.step (k':=t) C (λc a=>by
   rcases a with h|h|h
   ·exact .inl h
   ·exact .inr (.inl h)
   ·exact .inr (.inr (.inl h))) F) (aq C) (ar F)
 refine af.intro (λL=>?_) (λL=>?_)
 ·refine lost ?_;have e:(IK (CY st) (Bd n)).2=false:=by simpa using L
  rw[W,e];rfl
 ·have au:(IK (CY st) (Bd n)).2=true:=by simpa using L
  cases O:bU (IK (CY st) (Bd n)).1 (Hy (f n) name) with
  |true=>
   refine aU ?_;rw[CZ] at O;rw[W,au,O];rfl
  |false=>
   refine lost ?_;rw[CZ] at O;rw[W,au,O];rfl
theorem AUA {a:Nat}(h:a<=2147483647):J8 .u64 ((J8 .u64 (a:Int))*((2:Int)^(24:Nat)))=((a*16777216:Nat):Int):=by rw[CJ (by omega),show((a:Int)*(2:Int)^(24:Nat))=((a*16777216:Nat):Int) from by rw[show((2:Int)^(24:Nat))=((16777216:Nat):Int) from by decide];simp];exact CJ (by omega)
theorem sj {a b:Nat}(d:a<18446744073709551616)(e:b<18446744073709551616):eF .u64 (a:Int) (b:Int)=((a ||| b:Nat):Int):=by
 have h:a ||| b<2^64:=IT (by simpa using d) (by simpa using e);unfold eF;have i:(BitVec.ofInt (IntKind.bits .u64) (a:Int) ||| BitVec.ofInt (IntKind.bits .u64) (b:Int)).toNat=a ||| b:=by show(BitVec.ofInt 64 (a:Int) ||| BitVec.ofInt 64 (b:Int)).toNat=a ||| b;rw[BitVec.toNat_or,BitVec.ofInt_natCast,BitVec.ofInt_natCast,BitVec.toNat_ofNat,BitVec.toNat_ofNat,AD (by simpa using d),AD (by simpa using e)]
 rw[i];exact CJ (by simpa using h)
theorem ATM {a x:Nat}(h:a<=2147483647)(d:x<16777216):eF .u64 ((a*16777216:Nat):Int) (x:Int)=((a*16777216+x:Nat):Int):=by rw[sj (by omega) (by omega)];congr 1;have:=A0C (i:=24) (b:=x) (by simpa using d) a;rw[show 2^24*a=a*16777216 from by rw[CM]] at this;exact this.symm
theorem AK3 {a:Nat}(b:Du g h k s p bh bu name aI f u N)(v:f a<=2147483647)(z:u a+1<16777216)(C:N+1<=1000000)
  (E:f a=0->R (.int .u64 0) h)
  (F:f a≠0-> ∀e,Du g e k s p bh bu name aI f (dX u a (u a+1)) (N+1)->Mod (λc=>c=bu) h e->R (.int .u64 ((f a*16777216+(u a+1):Nat):Int)) e):
  AA A P Gw #[Ak p,J6 J9 (a:Int)] h R:=by
 refine VQ ?_;unfold Nq;refine sY b ⟨_,rfl,af.intro (λi=>?_) (λi=>?_)⟩
 ·exact E (by simpa using i)
 have G:f a≠0:=by simpa using i
 obtain⟨H,w,M,x⟩:=b.used;obtain⟨I,J,O,j⟩:=b.held;refine aE (Ef.mk (AB b.cell rfl) ?_);refine MP nC iK pI w ⟨_,x a,?_⟩;rw[show((u a:Nat):Int)+(1:Int)=((u a+1:Nat):Int) from by omega,CJ (by omega)];refine AKO nC iK w (by have:=b.cw;simp only[maxLen];omega) λK l n Q=>?_
 have o:=J.mod n b.ne;have d:=n.ag b.cell b.nS.2;have y: ∀m:Nat,(L6 m (Tz a (.int .u64 ((u a+1:Nat):Int)) H)).getD (.int .u64 0)= .int .u64 (dX u a (u a+1) m:Int):=λm=>AIt x m
 have L:dX u a (u a+1) a=u a+1:=by unfold dX;rw[if_pos rfl]
 have key:eF .u64 (J8 .u64 ((J8 .u64 (f a:Int))*((2:Int)^(24:Nat)))) ((u a+1:Nat):Int)=((f a*16777216+(u a+1):Nat):Int):=by rw[AUA v,ATM v z]
 have r:=F G K ⟨d,⟨I,o,by omega,j⟩,⟨_,l,As YR (by omega),y⟩,b.bS,b.ne,b.named,b.sh,C⟩ n;rw[<- key] at r;have t:=y a;rw[L] at t;refine aE (Ef.mk (AB d rfl) (aE (Ef.mk (AB d rfl) ⟨?_,?_⟩)))
 ·refine MP nB iK pH o ⟨_,j a,⟨AB d rfl,?_⟩⟩;exact MP nC iK pI l ⟨_,t,⟨AB d rfl,r⟩⟩
 ·refine MP nC iK pI l ⟨_,t,⟨AB d rfl,?_⟩⟩;exact MP nB iK pH o ⟨_,j a,⟨AB d rfl,r⟩⟩
theorem ET.laid {b:List Pr}(e:Sorted b){d a:Nat}(i:1<=a)(j:a<=2147483647)(l:Aj name=true):ET (cj b [⟨Bd d,Hy a name,false⟩]) d a name:=by refine .inr ⟨i,j,l,?_⟩;unfold IK;rw[show cj b [⟨Bd d,Hy a name,false⟩]=gG b ⟨Bd d,Hy a name,false⟩ from rfl,Rp e,if_pos rfl,JR];rfl
theorem ET.other {a:List Pr}(j:Sorted a){b e:Nat}{i key val:A2I}{d:Bool}(L:ET a b e i)(l:key≠Bd b):ET (cj a [⟨key,val,d⟩]) b e i:=by
 have n:IK (cj a [⟨key,val,d⟩]) (Bd b)=IK a (Bd b):=by unfold IK;rw[show cj a [⟨key,val,d⟩]=gG a ⟨key,val,d⟩ from rfl,Rp j,if_neg l]
 unfold ET;rw[n];exact L
theorem ET.empty {a:Nat}:ET [] a 0 ⟨#[]⟩:= .inl ⟨rfl,rfl,rfl⟩
theorem ET.holds {b:List Pr}{d a:Nat}(L:ET b d a name)(i:1<=a):Bv b (FH d a name)=true:=by
 rw[MK];rcases L with⟨h,_,e⟩|⟨_,j,_,e⟩
 ·omega
 ·rw[e];simp
end
structure Hs where
 p:Nat
 bh:Nat
 bu:Nat
 name:A2I
 f:Nat->Nat
 u:Nat->Nat
def Hs.bS(x:Hs)(c:Nat):Prop:=c=x.p\/c=x.bh\/c=x.bu
structure jz (g h:aa) (k:Nat->Nat) (s sh N:Nat) (l:List Hs):Prop where
 host: ∀(i:Nat) x,l[i]? =some x->Du g h k s x.p x.bh x.bu x.name sh x.f x.u N
 mj: ∀(i j:Nat) x y,l[i]? =some x->l[j]? =some y->i≠j-> ∀c,x.bS c-> ¬y.bS c
def LW(B:bV)(g h:aa)(s a N sh:Nat)(l:List Hs)(mp:List Pr)(O:Nat->Prop):Prop:=
 ∃(d:Hp) (b:Nat->Nat) (st:Db) (m:Bx) (e:Bz) (nn:Nat),Fq B g h s d b st m e (1+3*a) (64*a) nn/\nn<=a/\CY st=mp/\jz g h b s sh N l/\N<=1000000/\ ∀c,O c->b c=0/\c<h.size/\g.size<=c/\c≠s/\ ∀x∈l,¬x.bS c
section
variable {A : ak} {B : bV} {g h : aa} {s a N sh : Nat} {l : List Hs} {mp : List Pr} {O : Nat -> Prop} {R : A2H}
theorem jz.step {d:aa}{b k':Nat->Nat}{e:Nat->Prop}(f:jz g h b s sh N l)(k:Mod e h d)(m: ∀c,e c->b c≠0\/h.size<=c\/c=s\/ ∀x∈l,¬x.bS c)(n: ∀c,k' c≠0->b c≠0\/h.size<=c):jz g d k' s sh N l:=
 ⟨λi x j=>(f.host i x j).step k (λc o=>by
  rcases m c o with h|h|h|h
  ·exact .inl h
  ·exact .inr (.inl h)
  ·exact .inr (.inr (.inl h))
  ·exact .inr (.inr (.inr (h x (AM j))))) n,f.mj⟩
theorem jz.set {h':aa}{k m:Nat->Nat}{S:Nat->Prop}{i j:Nat}{x x':Hs}(n:jz g h k s sh N l)(o:l[i]? =some x)(v:Mod S h h')(w: ∀c,S c->k c≠0\/h.size<=c\/c=s\/x.bS c)(y: ∀c,m c≠0->k c≠0\/h.size<=c)(z:Du g h' m s x'.p x'.bh x'.bu x'.name sh x'.f x'.u j)(same: ∀c,x'.bS c↔x.bS c)(q:N<=j/\j<=1000000):jz g h' m s sh j (l.set i x'):=by
 have r:=(List.getElem?_eq_some_iff.1 o).1;refine⟨λd e b=>?_,λC D P Q E F G c p=>?_⟩
 ·by_cases f:i=d
  ·subst f;rw[HN r] at b;cases b;exact z
  ·rw[IN f] at b;refine((n.host d e b).step v (λc p=>?_) y).more q.1 q.2;rcases w c p with h|h|h|h
   ·exact .inl h
   ·exact .inr (.inl h)
   ·exact .inr (.inr (.inl h))
   ·exact .inr (.inr (.inr (n.mj i d x e o b f c h)))
 ·have t: ∀ {d:Nat} {e:Hs},(l.set i x')[d]? =some e-> ∃u,l[d]? =some u/\ ∀c,e.bS c↔u.bS c:=λ{d e} b=>by
   by_cases f:i=d
   ·subst f;rw[HN r] at b;cases b;exact⟨x,o,same⟩
   ·rw[IN f] at b;exact⟨e,b,λ_=>CH⟩
  obtain⟨H,I,J⟩:=t E;obtain⟨K,L,M⟩:=t F;exact λh=>n.mj C D H K I L G c ((J c).1 p) ((M c).1 h)
theorem LW.ext(b:LW B g h s a N sh l mp O):Ext g h:=by obtain⟨d,e,st,m,f,nn,c,_⟩:=b;exact c.db.mem.ext
theorem LW.sorted(b:LW B g h s a N sh l mp O):Sorted mp:=by obtain⟨d,e,st,m,D,nn,c,_,rfl,_⟩:=b;exact c.db.sorted
theorem LW.own {e:aa}{O':Nat->Prop}(k:LW B g h s a N sh l mp O)(f:Mod O h e)(n: ∀c,O' c->O c\/(h.size<=c/\c<e.size)):LW B g e s a N sh l mp O':=by
 obtain⟨o,p,st,m,q,nn,d,r,t,j,u,out⟩:=k;have H:=d.db.mem.ext.size;have I:=f.size;have J:=d.lt;refine⟨o,p,st,m,q,nn,d.beside f (λc b=>⟨(out c b).1,(out c b).2.2.1⟩) (λh=>(out s h).2.2.2.1 rfl),r,t,j.step f (λc b=> .inr (.inr (.inr (out c b).2.2.2.2))) (λc b=> .inl b),u,λc b=>?_⟩;rcases n c b with h|⟨v,w⟩
 ·obtain⟨y,K,z,C,D⟩:=out c h;exact⟨y,by omega,z,C,D⟩
 ·refine⟨d.db.free v,w,by omega,by omega,λx E F=>?_⟩;obtain⟨i,G⟩:=DB E;have:=(j.host i x G).lt c F;omega
theorem LW.on {b:aa}(d:LW B g h s a N sh l mp O)(x:Ext h b):LW B g b s a N sh l mp O:=d.own (x.aj λ_ _ h=>h.elim) λc e=> .inl e
theorem LW.less {O':Nat->Prop}(b:LW B g h s a N sh l mp O)(d: ∀c,O' c->O c):LW B g h s a N sh l mp O':=by obtain⟨e,f,st,m,i,nn,j,k,n,o,p,out⟩:=b;exact⟨e,f,st,m,i,nn,j,k,n,o,p,λc q=>out c (d c q)⟩
theorem LW.put {b N':Nat}(W:LW B g h s a N sh l mp O)(r:a<=b)(e:64*b<=B.C)(f:N<=N')(c:N'<=1000000):LW B g h s b N' sh l mp O:=by obtain⟨j,k,st,m,n,nn,o,t,p,d,u,out⟩:=W;exact⟨j,k,st,m,n,nn,o.put (by omega) (by omega) e,by omega,p,⟨λi x q=>(d.host i x q).more f c,d.mj⟩,c,out⟩
def fS(B:bV)(g h:aa)(a:Nat)(d:List (List Pr))(O:Nat->Prop):Prop:= ∃b m,Dn B g h b m (1+3*a) (64*a) d/\ ∀c,O c->b c=0/\c<h.size/\g.size<=c
def hU(h:aa)(s sh:Nat)(x:Hs):Prop:= ∃b c:Nat,QS h b/\h[s]? =some (J2 #[Ak b,J6 J9 (c:Int)] Mm (0,0))/\h[x.p]? =some (J2 #[Ak s,J7 x.name,J6 J9 (sh:Int),.map (some x.bh),.map (some x.bu)] OH (0,0))/\1<=sh/\sh<=16
abbrev bo(g:aa)(O:Nat->Prop):Nat->Prop:=λc=>g.size<=c/\ ¬O c
theorem LW.dU {b:aa}{w:Nat->Prop}{i a' e nn o:Nat}{x x':Hs}{J y:Hp}{d f:Nat->Nat}{st p:Db}{m z:Bx}{K C:Bz}(j:Fq B g h s J d st m K (1+3*a) (64*a) nn)(D:jz g h d s sh N l)(out: ∀c,O c->d c=0/\c<h.size/\g.size<=c/\c≠s/\ ∀x∈l,¬x.bS c)
  (q:l[i]? =some x) (L:Fq B g b s y f p z C (1+3*a') (64*a') o) (M:o<=a') (r:Mod w h b) (t: ∀c,w c->d c≠0\/h.size<=c\/c=s\/x.bS c) (E: ∀c,f c≠0->d c≠0\/h.size<=c) (P:Du g b f s x'.p x'.bh x'.bu x'.name sh x'.f x'.u e) (same: ∀c,x'.bS c↔x.bS c) (F:N<=e/\e<=1000000):
  LW B g b s a' e sh (l.set i x') (CY p) O/\Mod (bo g O) h b:=by
 have W:=j.db.mem.ext.size;have X:=j.lt;have Y:=r.size;have G:=AM q;refine⟨⟨y,f,p,z,C,o,L,M,rfl,D.set q r t E P same F,F.2,λc k=>?_⟩,r.aj λc Z k=>⟨?_,λQ=>?_⟩⟩
 ·obtain⟨u,S,H,v,n⟩:=out c k;refine⟨Decidable.byContradiction λT=>?_,by omega,H,v,λU V I=>?_⟩
  ·rcases E c T with h|h
   ·exact h u
   ·omega
  ·rcases SW V with h|rfl
   ·exact n U h I
   ·exact n x G ((same c).1 I)
 ·rcases t c k with h|h|h|h
  ·exact(j.db.mem.own c h).1
  ·omega
  ·have:=j.base;omega
  ·exact((D.host i x q).bS c h).2.1
 ·obtain⟨u,S,H,v,n⟩:=out c Q;rcases t c k with h|h|h|h
  ·exact h u
  ·omega
  ·exact v h
  ·exact n x G h
theorem LW.host {name:A2I}(E:LW B g h s a N sh l mp O)(F:Aj name=true)(G:1<=sh/\sh<=16)
  (H: ∀j p k n,LW B g j s a N sh (l++ [⟨p,k,n,name,λ_=>0,λ_=>0⟩]) mp O->Ext h j->R (J1 #[Ak p,J6 J9 0]) j):AA A P QF #[Ak s,J7 name,J6 J9 (sh:Int)] h R:=by
 obtain⟨I,J,st,m,K,nn,v,L,M,o,w,out⟩:=E;refine ARV v F G λj p k n Q fresh x=>H j p k n ⟨I,J,st,m,K,nn,v.on x,L,M,⟨λi d b=>?_,λi e y z S T U c f t=>?_⟩,w,λc f=>?_⟩ x
 ·rw[List.getElem?_append] at b;split at b
  ·exact(o.host i d b).on x
  ·rw[A0J] at b;split at b
   ·cases b;exact Q.more (A5 _) w
   ·cases b
 ·have C: ∀ {e:Nat} {d:Hs},(l++ [⟨p,k,n,name,λ_=>0,λ_=>0⟩])[e]? =some d->(e<l.length/\l[e]? =some d)\/(e=l.length/\ ∀c,d.bS c->h.size<=c):=λ{e d} b=>by
   rw[List.getElem?_append] at b;split at b
   ·rename_i D;exact .inl ⟨D,b⟩
   ·rename_i D;rw[A0J] at b;split at b
    ·rename_i ab;cases b;exact .inr ⟨by omega,λc f=>(fresh c f).1⟩
    ·cases b
  rcases C S with⟨V,q⟩|⟨V,q⟩<;>rcases C T with⟨W,r⟩|⟨W,r⟩
  ·exact o.mj i e y z q r U c f t
  ·have:=(o.host i y q).lt c f;have:=r c t;omega
  ·have:=(o.host e z r).lt c t;have:=q c f;omega
  ·omega
 ·obtain⟨X,ac,Y,Z,aa⟩:=out c f;have:=x.size;refine⟨X,by omega,Y,Z,λd b u=>?_⟩;rcases List.mem_append.1 b with h|h
  ·exact aa d h u
  ·rw[List.mem_singleton.1 h] at u;have:=(fresh c u).1;omega
def Hs.kW(x:Hs)(b c:Nat):Hs:= {x with f:=dX x.f b c,u:=dX x.u b 0}
def Hs.lost(x:Hs)(b:Nat):Hs:= {x with f:=dX x.f b 0}
def Hs.jJ(x:Hs)(b:Nat):Hs:= {x with u:=dX x.u b (x.u b+1)}
theorem LW.holds {i b:Nat}{x:Hs}(c:LW B g h s a N sh l mp O)(d:l[i]? =some x)(e:R (J6 J9 (x.f b:Int)) h):AA A P EJ #[Ak x.p,J6 J9 (b:Int)] h R:=by obtain⟨j,k,st,m,n,nn,o,p,q,f,r,out⟩:=c;exact sY (f.host i x d) e
theorem LW.acquire {i n b:Nat}{x:Hs}{o:A2I}(p:cu g)(q:B.cm=true)(r:LW B g h s a N sh l mp O)(e:l[i]? =some x)(t:n<sh)(L:ET mp n b o)(u:b+1<=2147483647)(hA:4+3*a<=B.A)(G:64*a+64<=B.C)(H:a+1<=1000000)(f:N+1<=1000000)
  (v: ∀d,LW B g d s (a+1) (N+1) sh (l.set i (x.kW n (b+1))) (cj mp [⟨Bd n,Hy (b+1) x.name,false⟩]) O->Mod (bo g O) h d->R (J1 #[J6 J9 ((b+1:Nat):Int),J6 J9 0]) d):
  AA A P Gf #[Ak x.p,J6 J9 (n:Int)] h R:=by
 obtain⟨I,J,st,m,K,nn,j,M,rfl,k,Q,out⟩:=r;have w:=k.host i x e;refine AJJ p q j w t L u (by omega) (by omega) (by omega) f λd S T U V W X Y y z C D E=>?_
 have:=LW.dU (x':=x.kW n (b+1)) (a':=a+1) j k out e (y.put (by omega) (by omega) (by omega)) (by omega) D (λc F=>by
  rcases F with h|h|h|h|h
  ·exact .inl h
  ·exact .inr (.inl h)
  ·exact .inr (.inr (.inl h))
  ·exact .inr (.inr (.inr (.inr (.inl h))))
  ·exact .inr (.inr (.inr (.inr (.inr h))))) E C (λ_=>CH) ⟨BY _,f⟩
 rw[z] at this;exact v d this.1 this.2
theorem LW.number {i b:Nat}{x:Hs}(r:LW B g h s a N sh l mp O)(j:l[i]? =some x)(t:x.f b<=2147483647)(u:x.u b+1<16777216)(k:N+1<=1000000)
  (v:x.f b=0->R (.int .u64 0) h)
  (w:x.f b≠0-> ∀d,LW B g d s a (N+1) sh (l.set i (x.jJ b)) mp O->Mod (bo g O) h d->R (.int .u64 ((x.f b*16777216+(x.u b+1):Nat):Int)) d):
  AA A P Gw #[Ak x.p,J6 J9 (b:Int)] h R:=by
 obtain⟨E,F,st,m,G,nn,n,y,rfl,o,H,out⟩:=r;have p:=o.host i x j;refine AK3 p t u k v λz d C q=>?_
 have f:=p.bS x.bu (.inr (.inr rfl));have:=LW.dU (x':=x.jJ b) n o out j (n.beside q (λc e=>by subst e;exact⟨f.1,f.2.1⟩) λD=>f.2.2 D.symm) y q (λc e=> .inr (.inr (.inr (.inr (.inr e))))) (λc e=> .inl e) C (λ_=>CH) ⟨BY _,k⟩;exact w z d this.1 this.2
theorem LW.change {i n:Nat}{x:Hs}{conds sl:Sl}{j lp:List Pr}(T:cu g)(U:LW B g h s a N sh l mp O)(r:l[i]? =some x)(V:n<256)(W:x.f n<=2147483647)(hA:4+3*a<=B.A)(ar:64*a+64<=B.C)(au:a+1<=1000000)(vc:View BO h conds j)(X:j.length<=1000000)(v:View BO h sl lp)(Y:lp≠ []-> ∀b,sl.ag=some b->b<g.size\/O b)(Z: ∀x∈j,x.key.size<=1099511627776)
  (aa:x.f n=0->R (J6 J9 170) h)
  (ab:x.f n≠0->Bv mp (FH n (x.f n) x.name)=false-> ∀d,LW B g d s a N sh (l.set i (x.lost n)) mp O->Mod (bo g O) h d->R (J6 J9 170) d)
  (ac:x.f n≠0->Bv mp (FH n (x.f n) x.name)=true->di mp (FH n (x.f n) x.name::j) lp≠0-> ∀d,Ext h d->R (J6 J9 (di mp (FH n (x.f n) x.name::j) lp)) d)
  (ae:B.cm=false->x.f n≠0->Bv mp (FH n (x.f n) x.name)=true->di mp (FH n (x.f n) x.name::j) lp=0-> ∀d f,fS B g d (a+1) [mp,cj mp lp] O->(f=30\/f=0/\hU d s sh x)->Mod (bo g O) h d->R (J6 J9 f) d)
  (af:x.f n≠0->Bv mp (FH n (x.f n) x.name)=true->di mp (FH n (x.f n) x.name::j) lp=0-> ∀d,LW B g d s (a+1) N sh l (cj mp lp) O->Mod (bo g O) h d->R (J6 J9 0) d):
  AA A P Fa #[Ak x.p,J6 J9 (n:Int),J4 conds.p conds.len conds.cap,J4 sl.p sl.len sl.cap] h R:=by
 obtain⟨av,aw,st,m,ax,nn,k,ag,rfl,w,L,out⟩:=U;have p:=w.host i x r;have ay:=k.db.mem.ext.size;refine ASn T k p V W (by omega) (by omega) (by omega) vc X v (λah b ai=>?_) Z aa (λt aj d y z o=>?_) ac (λe t C D d M Q f q ak o E=>?_) λt C D d az M aA Q aC aD aE y al z o E=>?_
 ·rcases Y ah b ai with h|h
  ·refine⟨by omega,k.db.base h,?_⟩;have:=(p.bS x.bh (.inr (.inl rfl))).2.1;omega
  ·obtain⟨u,F,H,I,J⟩:=out b h;exact⟨F,u,λf=>J x (AM r) (.inr (.inl f))⟩
 ·have:=LW.dU (x':=x.lost n) k w out r y ag o (λc e=>by
   rcases e with h|h
   ·exact .inr (.inl h)
   ·exact .inr (.inr (.inr (.inr (.inl h))))) (λc e=> .inl e) z (λ_=>CH) ⟨A0 _,L⟩
  exact ab t aj d this.1 this.2
 ·have aF:=o.size;have S:=p.bS x.p (.inl rfl);refine ae e t C D d f ⟨M,Q,⟨q.box,λG am=>?_,As q.wt (Hi (AK _ (by omega)) _),by omega,q.own,q.ext,q.dc⟩,λc e=>?_⟩ (ak.imp id λK=>⟨K.1,_,_,K.2.1,K.2.2,o.ag p.cell (by
   rintro(h|h|h)
   ·exact h S.1
   ·have:=Ag p.cell;omega
   ·exact S.2.2 h),p.sh⟩) (o.aj λc aG e=>⟨?_,λan=>?_⟩)
  ·obtain⟨mp,ao,ap⟩:=q.tells G am;exact⟨mp,ao,ap.mono (by omega) (by omega)⟩
  ·obtain⟨u,F,H,I,J⟩:=out c e;refine⟨Decidable.byContradiction λaq=>?_,by omega,H⟩;rcases E c aq with h|h
   ·exact h u
   ·omega
  ·rcases e with h|h|h
   ·exact(k.db.mem.own c h).1
   ·omega
   ·have:=k.base;omega
  ·obtain⟨u,F,H,I,J⟩:=out c an;rcases e with h|h|h
   ·exact h u
   ·omega
   ·exact I h
 ·have:=LW.dU (x':=x) (a':=a+1) k w out r (y.put (by omega) (by omega) (by omega)) (by omega) o (λc e=>by
   rcases e with h|h|h
   ·exact .inl h
   ·exact .inr (.inl h)
   ·exact .inr (.inr (.inl h))) E z (λ_=>CH) ⟨A0 _,L⟩
  rw[al,show l.set i x=l from by
   obtain⟨aH,f⟩:=List.getElem?_eq_some_iff.1 r;rw[<- f,OK]] at this
  exact af t C D d this.1 this.2
end
abbrev cI:=A2I->Option (List Ev)
abbrev cP:=A2I->Option (List UInt8×Int×Int)
def Ai(l:List Ev):bF:=(FU UO l).getD UO
structure IJ (l:List Ev):Prop where
 ne:l≠ []
 len:l.length<=500
 kd: ∀e∈l,kg e.kind
 ok:FU UO l=some (Ai l)
 st:0<=(Ai l).status/\(Ai l).status<=4
theorem IJ.next {l:List Ev}(b:IJ l):(Ai l).next=l.length+1/\ ∀(i:Nat) (a:Ev),l[i]? =some a->a.id=i+1/\Dk a=true:=yg b.ok b.ne
def QD(wid:A2I)(l:List Ev):List Pr:=l.map (NZ wid)
def UF(wid:A2I)(l:List Ev):Pr:=⟨Eu wid,I1 (Ai l).status.toNat (Ai l).next.toNat false,false⟩
def ZB(a:A2I)(x:List UInt8×Int×Int):Pr:=⟨JM a,j8 x.1 x.2.1.toNat x.2.2.toNat,false⟩
structure JU (mp:List Pr) (fl:cI) (an:cP):Prop where
 cK: ∀wid,Aj wid=true-> ∀k,Nj (GQ wid) k=true->Ab k mp=Ab k (QD wid ((fl wid).getD []))
 eQ: ∀wid,Aj wid=true->Ab (Eu wid) mp=(fl wid).map (UF wid)
 kT: ∀aX,Aj aX=true->Ab (JM aX) mp=(an aX).map (ZB aX)
 cZ: ∀wid l,fl wid=some l->IJ l
 kU: ∀aX x,an aX=some x->(0<=x.2.1/\x.2.1<=4)/\(0<=x.2.2/\x.2.2<=501)/\x.1.length<=2000
theorem Ep {s:A2I}(a:Aj s=true):s.size<=16:=(Gj.1 a).2.1
theorem NQ {wid:A2I}{l:List Ev}{i:Nat}{p:Pr}(b:(QD wid l)[i]? =some p): ∃a,l[i]? =some a/\p=NZ wid a:=by unfold QD at b;rw[BE] at b;obtain⟨a,c,rfl⟩:=Option.map_eq_some_iff.1 b;exact⟨a,c,rfl⟩
theorem Oz {wid:A2I}{l:List Ev}(b: ∀(i:Nat) (a:Ev),l[i]? =some a->a.id=i+1/\Dk a=true){i:Nat}{a:Ev}(c:l[i]? =some a):(NZ wid a).key=eM wid (i+1):=by unfold NZ;rw[(b i a c).1];rfl
theorem Ru {wid:A2I}{l:List Ev}(j:l.length<=500)(c: ∀(i:Nat) (a:Ev),l[i]? =some a->a.id=i+1/\Dk a=true):Sorted (QD wid l):=by unfold Sorted;rw[List.pairwise_iff_getElem];intro i k d b m;obtain⟨a,e,f⟩:=NQ (A2 d);obtain⟨n,g,h⟩:=NQ (A2 b);rw[f,h,Oz c e,Oz c g];unfold QD at b;rw[AW] at b;exact mZ (by omega) (by omega)
theorem mF {q:A2I->Bool}{a:A2I}: ∀ {l:List Pr},Ab a (l.filter λx=>q x.key)=if q a=true then Ab a l else none
 | []=>by simp[M.VZ]
 |x::l=>by
  rw[AT];by_cases b:x.key=a
  ·subst b;split
   ·rw[M.BB,M.BB,if_pos rfl,if_pos rfl]
   ·rename_i c;rw[mF,if_neg c]
  ·split
   ·rw[M.BB,if_neg b,mF,M.BB,if_neg b]
   ·rw[mF,M.BB,if_neg b]
theorem ANC {a:A2I}{b:Nat}{l:List Pr}(c: ∀x∈l.take b,x.key≠a):Ab a (l.drop b)=Ab a l:=by
 conv=>rhs;rw[<- DH b l]
 rw[M.Oc,M.Eh c,Lo]
theorem AP1 {k:List Pr}{p:cI}{u:cP}{wid:A2I}{l:List Ev}{e:Nat}(s:Sorted k)(m:JU k p u)(v:Aj wid=true)(n:p wid=some l)(A:e<=l.length):
  jy k (GQ wid) (eM wid (e+1)) 32=((QD wid l).drop e).take 32:=by
 have h:=(m.cZ wid l n).next.2;have w:=(m.cZ wid l n).len;unfold jy;rw[show(32:Int).toNat=32 from rfl];congr 1;refine Sorted.ext (s.sublist FA) ((Ru w h).sublist (List.drop_sublist _ _)) λc=>?_
 rw[mF (q:=λc=>Nj (GQ wid) c&& !aR c (eM wid (e+1)))];by_cases j:Nj (GQ wid) c=true
 ·rw[j,FF];have r:=m.cK wid v c j;rw[n,FG] at r;by_cases f:aR c (eM wid (e+1))=true
  ·rw[f,if_neg (by simp)]
   symm
   refine M.Eh λx g b=>?_
   obtain⟨i,a⟩:=DB g;rw[C5] at a;obtain⟨t,d,rfl⟩:=NQ a;rw[Oz h d] at b;subst b;have y:=(List.getElem?_eq_some_iff.1 d).1;by_cases z:i=0
   ·subst z;rw[G0,Cf] at f;cases f
   ·have:=Om f;rw[mZ (by omega) (by omega)] at this;cases this
  ·have o:aR c (eM wid (e+1))=false:=by simpa using f
   rw[o,if_pos (by rfl),r]
   symm
   refine ANC λx g b=>?_
   obtain⟨i,a⟩:=DB g;rw[Fm] at a;split at a
   ·rename_i B;obtain⟨t,d,rfl⟩:=NQ a;have y:=(List.getElem?_eq_some_iff.1 d).1;rw[Oz h d] at b;subst b;rw[mZ (by omega) (by omega)] at o;cases o
   ·cases a
 ·rw[if_neg (by simp[j])]
  symm
  refine M.Eh λx g b=>?_
  obtain⟨i,a⟩:=DB g;rw[C5] at a;obtain⟨t,d,rfl⟩:=NQ a;rw[Oz h d] at b;subst b;exact j (rZ wid _)
theorem Jw {a:A2I}{b m:List Pr}(s:Sorted m)(c: ∀d∈b,d.key≠a):Ab a (cj m b)=Ab a m:=by rw[Yn a s,M.Eh λx e=>c x (List.mem_reverse.1 e)]
theorem mG {b m:List Pr}(s:Sorted m){p:Pr}(d:p∈b)(e: ∀a∈b,a.key=p.key->a=p):Ab p.key (cj m b)=if p.gone then none else some p:=by
 rw[Yn p.key s];cases c:Ab p.key b.reverse with
 |none=>
  exfalso;unfold Ab at c;rw[GO] at c;have:=c p (List.mem_reverse.2 d);simp at this
 |some a=>
  obtain⟨f,g⟩:=M.Ol c;obtain rfl:=e a (List.mem_reverse.1 g) f;show alive (some a)=_;rw[JR]
def dO {a:Type}(f:A2I->Option a)(c:A2I)(x:a):A2I->Option a:=λb=>if b=c then some x else f b
theorem JS {a:Type}{f:A2I->Option a}{b:A2I}{x:a}:dO f b x b=some x:=if_pos rfl
theorem Oq {b:Type}{f:A2I->Option b}{c a:A2I}{x:b}(d:a≠c):dO f c x a=f a:=if_neg d
def qo {a:Type}(f:A2I->Option a):Option (A2I×a)->A2I->Option a
 |none=>f
 |some (b,x)=>dO f b x
structure fR (b:List Pr) (o:Option (A2I×(List UInt8×Int×Int))):Prop where
 dc: ∀p∈b,(BC p.key≠104/\BC p.key≠119/\BC p.key≠114)\/ ∃r x,o=some (r,x)/\p=ZB r x
 has: ∀r x,o=some (r,x)->ZB r x∈b/\Aj r=true/\(0<=x.2.1/\x.2.1<=4)/\(0<=x.2.2/\x.2.2<=501)/\x.1.length<=2000
theorem JU.land {F b:List Pr}{h:cI}{A:cP}{wid:A2I}{more:List Ev}{t:Option (A2I×(List UInt8×Int×Int))}(q:JU F h A)(s:Sorted F)(G:Aj wid=true)
  (o:IJ ((h wid).getD []++more)) (B:fR b t):
  JU (cj F (more.map (NZ wid)++([UF wid ((h wid).getD []++more)]++b))) (dO h wid ((h wid).getD []++more)) (qo A t):=by
 have N:=o.next.2;have P:=o.len;have u: ∀p∈b,BC p.key≠104/\BC p.key≠119:=λp C=>by
  rcases B.dc p C with a|⟨f,x,_,rfl⟩
  ·exact⟨a.1,a.2.1⟩
  ·exact⟨by show BC (JM f)≠104;rw[JX];decide,by show BC (JM f)≠119;rw[JX];decide⟩
 have rowAt: ∀e∈more,∃i:Nat,((h wid).getD []++more)[i]? =some e/\(NZ wid e).key=eM wid (i+1):=λe Q=>by
  obtain⟨i,v⟩:=DB Q;have:((h wid).getD []++more)[((h wid).getD []).length+i]? =some e:=by rw[Ek (by omega),Nat.add_sub_cancel_left];exact v
  exact⟨_,this,Oz N this⟩
 refine⟨λd w D y=>?_,λd w=>?_,λf O=>?_,λd l E=>?_,λf x m=>?_⟩
 ·have k:=Za y;by_cases e:d=wid
  ·subst e;rw[JS,FG];by_cases H: ∃p∈more.map (NZ d),p.key=D
   ·obtain⟨p,C,rfl⟩:=H;obtain⟨n,z,rfl⟩:=List.mem_map.1 C;obtain⟨i,v,R⟩:=rowAt n z;have S:NZ d n∈QD d ((h d).getD []++more):=List.mem_map.2 ⟨n,AM v,rfl⟩;rw[Sorted.find (Ru P N) S,mG s (HI _ C) (λg j c=>?_)]
    ·rfl
    ·rcases List.mem_append.1 j with a|a
     ·obtain⟨T,U,rfl⟩:=List.mem_map.1 a;obtain⟨V,I,W⟩:=rowAt T U;have Z:=(List.getElem?_eq_some_iff.1 v).1;have aa:=(List.getElem?_eq_some_iff.1 I).1;rw[R,W] at c;have:=(AQd (Ep G) (Ep G) (by omega) (by omega) c).2;have:V=i:=by omega
      subst this;rw[v] at I;cases I;rfl
     ·rcases List.mem_append.1 a with a|a
      ·rw[List.mem_singleton.1 a] at c;rw[<- c] at k;rw[show BC (UF d ((h d).getD []++more)).key=119 from Dh d] at k;exact absurd k (by decide)
      ·exact absurd (by rw[c];exact k) (u g a).1
   ·rw[Jw s λg j c=>?_,q.cK d w D y]
    ·unfold QD;rw[By,M.Oc,M.Eh (l:=more.map (NZ d)) λx m X=>H ⟨x,m,X⟩];cases Ab D (List.map (NZ d) ((h d).getD []))<;>rfl
    ·rcases List.mem_append.1 j with a|a
     ·exact H ⟨g,a,c⟩
     ·rcases List.mem_append.1 a with a|a
      ·rw[List.mem_singleton.1 a] at c;rw[<- c] at k;rw[show BC (UF d ((h d).getD []++more)).key=119 from Dh d] at k;exact absurd k (by decide)
      ·exact absurd (by rw[c];exact k) (u g a).1
  ·rw[Oq e,Jw s λg j c=>?_,q.cK d w D y];rcases List.mem_append.1 j with a|a
   ·obtain⟨n,z,rfl⟩:=List.mem_map.1 a;rw[<- c] at y;exact e (yl (Ep w) (Ep G) y)
   ·rcases List.mem_append.1 a with a|a
    ·rw[List.mem_singleton.1 a] at c;rw[<- c] at k;rw[show BC (UF wid ((h wid).getD []++more)).key=119 from Dh wid] at k;exact absurd k (by decide)
    ·exact absurd (by rw[c];exact k) (u g a).1
 ·by_cases e:d=wid
  ·subst e;rw[JS];refine(mG (p:=UF d ((h d).getD []++more)) s (by simp) λg j c=>?_).trans rfl;rcases List.mem_append.1 j with a|a
   ·obtain⟨n,z,rfl⟩:=List.mem_map.1 a;have:=congrArg BC c;rw[show BC (NZ d n).key=104 from Sy _ _,show BC (UF d ((h d).getD []++more)).key=119 from Dh d] at this;exact absurd this (by decide)
   ·rcases List.mem_append.1 a with a|a
    ·exact List.mem_singleton.1 a
    ·exact absurd ((congrArg BC c).trans (Dh d)) (u g a).2
  ·rw[Oq e,Jw s λg j c=>?_,q.eQ d w];rcases List.mem_append.1 j with a|a
   ·obtain⟨n,z,rfl⟩:=List.mem_map.1 a;have:=congrArg BC c;rw[show BC (NZ wid n).key=104 from Sy _ _,Dh] at this;exact absurd this (by decide)
   ·rcases List.mem_append.1 a with a|a
    ·rw[List.mem_singleton.1 a] at c;exact e (ANj c).symm
    ·exact absurd ((congrArg BC c).trans (Dh d)) (u g a).2
 ·have no: ∀g∈more.map (NZ wid)++([UF wid ((h wid).getD []++more)]++b),g.key=JM f-> ∃x,t=some (f,x)/\g=ZB f x:=λg j c=>by
   have o:=(congrArg BC c).trans (JX f);rcases List.mem_append.1 j with a|a
   ·obtain⟨n,z,rfl⟩:=List.mem_map.1 a;rw[show BC (NZ wid n).key=104 from Sy _ _] at o;exact absurd o (by decide)
   ·rcases List.mem_append.1 a with a|a
    ·rw[List.mem_singleton.1 a,show BC (UF wid ((h wid).getD []++more)).key=119 from Dh wid] at o;exact absurd o (by decide)
    ·rcases B.dc g a with a|⟨r,x,Y,rfl⟩
     ·exact absurd o a.2.2
     ·have:r=f:=yn c;subst this;exact⟨x,Y,rfl⟩
  cases t with
  |none=>
   rw[Jw s λg j c=>?_,q.kT f O]
   ·rfl
   ·obtain⟨x,m,_⟩:=no g j c;cases m
  |some J=>
   obtain⟨r,x⟩:=J;show _=(dO A r x f).map (ZB f);by_cases e:f=r
   ·subst e;rw[JS];refine(mG (p:=ZB f x) s ?_ λg j c=>?_).trans rfl
    ·exact Iv _ (Iv _ (B.has f x rfl).1)
    ·obtain⟨K,L,rfl⟩:=no g j c;cases L;rfl
   ·rw[Oq e,Jw s λg j c=>?_,q.kT f O];obtain⟨K,L,_⟩:=no g j c;cases L;exact e rfl
 ·by_cases e:d=wid
  ·subst e;rw[JS] at E;cases E;exact o
  ·rw[Oq e] at E;exact q.cZ d l E
 ·cases t with
  |none=>exact q.kU f x m
  |some J=>
   obtain⟨r,K⟩:=J;have m:dO A r K f=some x:=m;by_cases e:f=r
   ·subst e;rw[JS] at m;cases m;exact(B.has f x rfl).2.2
   ·rw[Oq e] at m;exact q.kU f x m
theorem JU.aw {g b:List Pr}{j:cI}{k:cP}(a:JU g j k)(s:Sorted g)(h: ∀p∈b,BC p.key≠104/\BC p.key≠119/\BC p.key≠114):JU (cj g b) j k:=by
 refine⟨λf i n l=>?_,λf i=>?_,λm o=>?_,a.cZ,a.kU⟩
 ·rw[Jw s λc d e=>(h c d).1 (by rw[e];exact Za l)];exact a.cK f i n l
 ·rw[Jw s λc d e=>(h c d).2.1 (by rw[e];exact Dh f)];exact a.eQ f i
 ·rw[Jw s λc d e=>(h c d).2.2 (by rw[e];exact JX m)];exact a.kT m o
theorem JU.empty:JU [] (λ_=>none) (λ_=>none):=
 ⟨λb _ d _=>rfl,λb _=>rfl,λc _=>rfl,λb l a=>(by cases a),λc x a=>(by cases a)⟩
theorem af.and {b:Bool}{a c:Prop}(d:b=true->a)(e:b=false->c):af b a c:=af.intro d e
theorem Kq {s:A2I}(a:s.size<18446744073709551616):(BG (bl s)).length<=10+s.size:=by have:=AV a;simp only[BG,A1,A7];omega
theorem zD {x:cD}(a:NK x=true):0<=x.kind/\x.kind<=3/\(x.kind=1\/x.kind=2\/x.kind=3)/\x.name.size<=16/\x.aV.size<=16/\0<=x.tries/\x.tries<=5/\0<=x.aF/\x.aF<=5/\0<=x.wait/\x.wait<=1000:=by
 have d: ∀ {s:A2I},Aj s=true->s.size<=16:=λa=>(Gj.1 a).2.1
 have z:Hu.size=0:=rfl;unfold NK at a;split at a
 ·rename_i e;simp only[A3,DE,decide_eq_true_eq,Bc] at a;obtain⟨⟨⟨g,h⟩,l⟩,m⟩:=a;have:=d h;rcases g with⟨b,c⟩|⟨b,c⟩
  ·rw[b];omega
  ·have:=d b;omega
 ·split at a
  ·rename_i i e;simp only[A3,decide_eq_true_eq,Bc] at a;obtain⟨⟨⟨⟨b,c⟩,j⟩,k⟩,f⟩:=a;rw[b,c];omega
  ·split at a
   ·rename_i i n e;simp only[A3,decide_eq_true_eq] at a;obtain⟨⟨⟨⟨b,c⟩,j⟩,k⟩,f⟩:=a;have:=d f;rw[b];omega
   ·cases a
theorem AJ6 {x:cD}(a:NK x=true):(Hm x).length<=100:=by
 obtain⟨b,c,d,e,f,g,h,i,j,k,l⟩:=zD a;have m:=AV (n:=x.kind.toNat) (by omega);have o:=AV (n:=x.tries.toNat) (by omega);have p:=AV (n:=x.aF.toNat) (by omega);have q:=AV (n:=x.wait.toNat) (by omega);have r:=Kq (s:=x.name) (by omega);have t:=Kq (s:=x.aV) (by omega);unfold Hm;rw[A1];split
 ·simp only[A1];omega
 ·split<;>omega
theorem Py: ∀ {l:List cD},l.all NK=true->(l.flatMap Hm).length<=l.length*100
 | [],_=>by simp
 |x::l,a=>by
  simp only[DG,A3] at a;have b:=AJ6 a.1;have c:=Py a.2;simp only[AH,A1,A6];omega
def YX(p:cA):J0:=J1 #[J7 (AX (if GL p then Cs p else [])),J6 J9 (if GL p then 0 else 130)]
end Go.Lf.G
