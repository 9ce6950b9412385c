/-
 Contracts: programs of steps (chapter 12).
-/
import Derived.Test.YtgpmoonnachoaaaGreatDoorLfU2ToS3
import Derived.Test.YtgpmoonnachoaaaGreatDoorLfKToGA
import Derived.Test.YtgpmoonnachoaaaGreatDoorLfZ11ToU32
import Derived.WideKeyEntry
import Derived.Test.YtgpmoonnachoaaaGreatDoorLfU15ToZ10
set_option maxRecDepth 100000
set_option linter.unusedVariables false
set_option linter.unusedSimpArgs false
open Go.IntKind renaming i64→J9,wrap→J8
open Go.Value renaming string→J7,int→J6,pointer→J5,slice→J4,bool→J3,tuple→J1
open Go.Obj renaming cells→J2
open Go renaming Value→J0,Addr→Q6,TypeId→Q7,FuncId→Q8,Program→Q1
open Go.Addr renaming add→Q9,mk→Q5
namespace Go.Lf.G
open Go
theorem oF {s:A2P}:bR s (⟨#[]⟩:A2P)=decide (s=Ho):=Ca
theorem yh {s:A2P}:s=Ho↔s.size=0:=by
 constructor
 ·rintro rfl;rfl
 ·intro a;have:bl s= []:=CC (by rw[A7];exact a);rw[<- EE s];show AX (bl s)=_;rw[this];rfl
theorem FL {r:ar}{e:aa}{s:A2P}{p:A2O}(a:p (J3 (Ak s)) e):AA r P Bg #[J7 s] e p:=by
 refine AEi ?_;unfold XX;rw[oF];refine aj.mk λK t=>?_
 have key: ∀h:Bool,(h=true↔s.size=0\/16<s.size)->K (h,()) e:=λh z=>by
  refine t _ _ ?_;refine ag.intro (λb=>?_) (λb=>?_)
  ·have d:Ak s=false:=by
    rw[SP]
    grind [Ga]
   rw[d] at a;exact a
  have A: ¬(s.size=0\/16<s.size):=λg=>by simp_all
  refine Loop.rule (λm x g=> ∃i:Nat,x=((i:Int),())/\g=e/\m=s.size-i/\i<=s.size/\ ∀c∈(bl s).take i,33<=c.toNat/\c.toNat<=126) ?_ ⟨0,rfl,rfl,rfl,by omega,by simp⟩;rintro B m _ g ⟨i,rfl,d,rfl,C,D⟩ u;subst g;refine ag.intro (λj=>?_) (λj=>?_)
  ·have k:i<s.size:=by simpa using j
   obtain⟨c,l⟩: ∃c,(bl s)[i]? =some c:=⟨_,A2 (by rw[A7];exact k)⟩;have E:c∈bl s:=AM l;dsimp only;rw[Pd l];refine aj.mk λv w=>⟨⟨by omega,by omega⟩,?_⟩
   have q: ∀n:Bool,(n=true↔ ¬(33<=c.toNat/\c.toNat<=126))->v (n,()) e:=λn F=>by
    refine w _ _ ?_;refine ag.intro (λb=>?_) (λb=>?_)
    ·have d:Ak s=false:=by
      rw[SP]
      grind [Ga]
     rw[d] at a;exact a
    ·rw[Aa (by omega)];refine u (s.size-(i+1)) _ _ (by omega) ⟨i+1,rfl,rfl,rfl,k,λx y=>?_⟩;rw[AD,l,DB] at y
     grind
   refine ag.intro (λo=>q _ ⟨λ_=>by simp at o;omega,λ_=>rfl⟩) (λo=>⟨⟨by omega,by omega⟩,q _ ⟨λf=>by simp at f;omega,λf=>by simp at o;simp;omega⟩⟩)
  ·have k:i=s.size:=by simp at j;omega
   have d:Ak s=true:=by grind [Ga,List.take_of_length_le,A7]
   rw[d] at a;exact a
 refine ag.intro (λb=>key _ ⟨λ_=> .inl (by simpa [yh] using b),λ_=>rfl⟩) (λb=>key _ ⟨λf=>by simp at f;omega,λf=>?_⟩)
 simp_all [decide_eq_false_iff_not,yh,decide_eq_true_eq];omega
theorem O0 {h:ar}{f:aa}{a c b:Int}{g:A2O}(d:g (J3 (bW a c b)) f):AA h P Gj #[J6 J9 a,J6 J9 c,J6 J9 b] f g:=by
 refine ACd ?_;unfold Vl;refine ag.intro (λi=>?_) (λi=>?_)
 ·have e:bW a c b=decide (a<=b):=by simp_all [bW,decide_eq_decide]
  rw[e] at d;exact d
 ·have e:bW a c b=false:=by grind [bW]
  rw[e] at d;exact d
def bP.fv(x:bP):List Fv:= [.i x.kind,.s x.name,.s x.aM,.i x.tries,.i x.aC,.i x.wait]
theorem yi:P.underlying Bn=some (.struct (P.fieldsOf Bn)):=by kernel_rfl
theorem yj(x:bP):qL P Bn (bP.fv x)=true:=by kernel_rfl
theorem AMr {q:ar}{l:aa}{x:bP}{m:A2O}(r: ∀n,Ext l n->m (J3 (NF x)) n):
  AA q P Ra #[.agg #[J6 J9 x.kind,J7 x.name,J7 x.aM,J6 J9 x.tries,J6 J9 x.aC,J6 J9 x.wait]] l m:=by
 refine AEW ?_;unfold Yo;refine ao.mk λj _ a s _=>?_
 have b:=r j s;refine AC.mk (AO a rfl) ?_;unfold NF at b;refine ag.intro (λh=>?_) (λh=>?_)
 ·have h:x.kind=1:=by simpa using h
  rw[if_pos h] at b;refine aj.mk λK t=>?_
  have key:K (((decide (x.aM=Ho)&&decide (x.aC=0))||(Ak x.aM&&bW x.aC 1 5)),()) j:=by
   refine t _ _ ?_;refine AJ.mk (AB a rfl) (FL ⟨_,rfl,?_⟩);cases d:Ak x.name with
   |false=>rw[d] at b;simpa [ag] using b
   |true=>
    refine ag.yes rfl (AC.mk (AB a rfl) (O0 ⟨_,rfl,?_⟩));cases o:bW x.tries 1 5 with
    |false=>rw[d,o] at b;simpa [ag] using b
    |true=>
     refine ag.yes rfl ?_;refine ag.intro (λc=>?_) (λc=>?_)
     ·refine AC.mk (AB a rfl) ?_;rw[d,o] at b;have c:((decide (x.aM=Ho)&&decide (x.aC=0))||(Ak x.aM&&bW x.aC 1 5))=true:=c;rw[c] at b;have e:(x.wait==(0:Int))=decide (x.wait=0):=by grind
      rw[e];simpa using b
     ·have c:((decide (x.aM=Ho)&&decide (x.aC=0))||(Ak x.aM&&bW x.aC 1 5))=false:=c;rw[c] at b;simpa using b
  have sub: ∀ {p:Bool},p=(Ak x.aM&&bW x.aC 1 5)->((decide (x.aM=Ho)&&decide (x.aC=0))=false)->K (p,()) j:=λu v=>by
   rw[v,SR,<-u] at key;exact key
  refine AJ.mk (AB a rfl) ?_;rw[oF];refine ag.intro (λi=>?_) (λi=>?_)
  ·refine AC.mk (AB a rfl) ?_;refine ag.intro (λk=>?_) (λk=>?_)
   ·have e:decide (x.aC=0)=true:=by simpa using k
    rw[i,e] at key;simpa using key
   ·have e:decide (x.aC=0)=false:=by simpa using k
    refine AJ.mk (AB a rfl) (FL ⟨_,rfl,?_⟩);refine ag.intro (λd=>?_) (λd=>?_)
    ·exact AC.mk (AB a rfl) (O0 ⟨_,rfl,sub (by rw[d,FG]) (by rw[e,OF])⟩)
    ·exact sub (by rw[d,G4]) (by rw[e,OF])
  ·refine AJ.mk (AB a rfl) (FL ⟨_,rfl,?_⟩);refine ag.intro (λd=>?_) (λd=>?_)
   ·exact AC.mk (AB a rfl) (O0 ⟨_,rfl,sub (by rw[d,FG]) (by rw[i,G4])⟩)
   ·exact sub (by rw[d,G4]) (by rw[i,G4])
 ·have h:x.kind≠1:=by simpa using h
  rw[if_neg h] at b;refine ag.intro (λf=>?_) (λf=>?_)
  ·have f:x.kind=2:=by simpa using f
   rw[if_pos f] at b;refine AC.mk (AO a rfl) (AJ.mk (AB a rfl) (AJ.mk (AB a rfl) (AC.mk (AB a rfl) (AC.mk (AB a rfl) (AC.mk (AB a rfl) (AC.mk (AB a rfl) ?_))))));refine wk (xs:=bP.fv x) (ys:= [.i 2,.s Ho,.s Ho,.i 0,.i 0,.i x.wait]) yi (yj x) rfl rfl rfl ⟨_,rfl,?_⟩;have e:decide (bP.fv x= [.i 2,.s Ho,.s Ho,.i 0,.i 0,.i x.wait])=(decide (x.name=Ho)&&decide (x.aM=Ho)&&decide (x.tries=0)&&decide (x.aC=0)):=by rw[Fc];simp[bP.fv,f,and_assoc]
   rw[e];refine ag.intro (λc=>?_) (λc=>?_)
   ·rw[c,FG] at b;exact AC.mk (AB a rfl) (O0 ⟨_,rfl,b⟩)
   ·rw[c,G4] at b;exact b
  ·have f:x.kind≠2:=by simpa using f
   rw[if_neg f] at b;refine ag.intro (λg=>?_) (λg=>?_)
   ·have g:x.kind=3:=by simpa using g
    rw[if_pos g] at b;refine AC.mk (AO a rfl) (AJ.mk (AB a rfl) (AJ.mk (AB a rfl) (AC.mk (AB a rfl) (AC.mk (AB a rfl) (AC.mk (AB a rfl) (AJ.mk (AB a rfl) ?_))))));refine wk (xs:=bP.fv x) (ys:= [.i 3,.s x.name,.s Ho,.i 0,.i 0,.i 0]) yi (yj x) rfl rfl rfl ⟨_,rfl,?_⟩;have e:decide (bP.fv x= [.i 3,.s x.name,.s Ho,.i 0,.i 0,.i 0])=(decide (x.aM=Ho)&&decide (x.tries=0)&&decide (x.aC=0)&&decide (x.wait=0)):=by rw[Fc];simp[bP.fv,g,and_assoc]
    rw[e];refine ag.intro (λc=>?_) (λc=>?_)
    ·rw[c,FG] at b;exact AJ.mk (AB a rfl) (FL ⟨_,rfl,b⟩)
    ·rw[c,G4] at b;exact b
   ·have g:x.kind≠3:=by simpa using g
    rw[if_neg g] at b;exact b
abbrev AO9(x:bP):Array J0:= #[J6 J9 x.kind,J7 x.name,J7 x.aM,J6 J9 x.tries,J6 J9 x.aC,J6 J9 x.wait]
theorem yk:QE P Gg Bn QP.w 64=true:=by kernel_rfl
theorem yl {b:aa}{a:Q6}{x:bP}(c:Cells b a (QP.enc x)):ah b a=some (J6 J9 x.kind)/\ah b (a.add 1)=some (J7 x.name)/\ah b (a.add 2)=some (J7 x.aM)/\ah b (a.add 3)=some (J6 J9 x.tries)/\ah b (a.add 4)=some (J6 J9 x.aC)/\ah b (a.add 5)=some (J6 J9 x.wait):=by refine⟨?_,c 1 _ rfl,c 2 _ rfl,c 3 _ rfl,c 4 _ rfl,c 5 _ rfl⟩;have:=c 0 _ rfl;rwa [add_zero] at this
theorem yn {D:ar}{f:aa}{s:Sl}{p:ck}{u:A2O}(v:View QP f s p.steps)(W:p.steps.length<=1099511627776)(n: ∀w,Ext f w->u (J6 J9 (if Fz p then 0 else 130)) w):
  AA D P N9 #[.agg #[J4 s.p s.len s.cap,J6 J9 p.aA]] f u:=by
 refine AEh ?_;unfold YY;refine ao.mk λy _ g z _=>?_
 refine aj.mk λK E=>AZ.mk (s:=s) (AO g rfl) ?_
 rw[v.len];have key: ∀o:Bool,(o=true↔ ¬(p.steps.length<=16/\bW p.aA 0 16000=true))->K (o,()) y:=λo F=>by
  refine E _ _ ?_;refine ag.intro (λh=>?_) (λh=>?_)
  ·have d:=n y z;rw[if_neg] at d
   ·exact d
   ·intro j;simp only[Fz,A4,decide_eq_true_eq] at j;exact F.1 h j.1
  have G:p.steps.length<=16/\bW p.aA 0 16000=true:=Decidable.byContradiction λk=>by
   simp_all
  refine AZ.mk (s:=s) (AO g rfl) ?_;refine Loop.rule (λm x k=> ∃i:Nat,x=((i:Int),())/\Ext f k/\m=p.steps.length-i/\i<=p.steps.length/\(p.steps.take i).all NF=true) ?_ ⟨0,rfl,z,rfl,by omega,rfl⟩;rintro X m _ k ⟨i,rfl,l,rfl,Y,q⟩ H;rw[v.len];refine ag.intro (λr=>?_) (λr=>?_)
  ·have t:i<p.steps.length:=by simpa using r
   obtain⟨x,A⟩: ∃x,p.steps[i]? =some x:=⟨_,A2 t⟩;rw[<- v.len];refine(v.ext l).idx A λa _ c=>?_
   obtain⟨I,J,c2,L,c4,M⟩:=yl c;refine AC.mk I (AJ.mk J (AJ.mk c2 (AC.mk L (AC.mk c4 (AC.mk M ?_)))));refine ao.mk λN _ O Q _=>af.oX O λR e S Z=>?_
   refine AC.mk (AO e rfl) (AJ.mk (AB e rfl) (AJ.mk (AB e rfl) (AC.mk (AB e rfl) (AC.mk (AB e rfl) (AC.mk (AB e rfl) ?_)))));have T:Ext f R:=(l.trans Q).more S λb g=>by subst g;exact l.size
   refine AMr (x:=x) λU V=>⟨_,rfl,?_⟩
   have B:=T.trans V;refine ag.intro (λC=>?_) (λC=>?_)
   ·have d:=n U B;rw[if_neg] at d
    ·exact d
    ·intro j;simp only[Fz,A4,decide_eq_true_eq,Fl] at j
     grind
   ·dsimp only;rw[Aa (by omega)];refine H (p.steps.length-(i+1)) _ _ (by omega) ⟨i+1,rfl,B,rfl,t,?_⟩;rw[AD,A,DB,List.all_append,q];simpa using C
  ·have t:i=p.steps.length:=by simp at r;omega
   rw[AG (by omega)] at q;have d:=n k l;rw[if_pos (by simp only[Fz,A4,decide_eq_true_eq];exact⟨G,q⟩)] at d;exact d
 refine ag.intro (λh=>key _ ⟨λ_ N=>by simp at h;omega,λ_=>rfl⟩) (λh=>?_);refine AC.mk (AB g rfl) (O0 ⟨_,rfl,key _ ?_⟩)
 grind
structure Wz (h:aa) (b rb b1:Nat) (lim:Int) (s:Sl) (l:List bP) (hh:aa) (r:Rd):Prop where
 ext:Ext h hh
 zero:hh[b]? =some (J2 #[J4 none 0 0,J6 J9 0] Ey (0,0))
 rd:Ib hh rb r
 var:hh[b1]? =some (J2 #[J4 s.p s.len s.cap,J6 J9 lim] Ey (0,0))
 own:Own QP Bn hh s l
 fresh: ∀c,s.ai=some c->h.size<=c/\c≠b/\c≠rb/\c≠b1
 ne:h.size<=b/\h.size<=rb/\h.size<=b1/\b≠rb/\b≠b1/\rb≠b1
theorem Wz.read {g:aa}{b d h:Nat}{i:Int}{s:Sl}{l:List bP}{j e:aa}{n k:Rd}(a:Wz g b d h i s l j n)(o:Ib e d k)(m:Mod (· =d) j e):Wz g b d h i s l e k:=
 ⟨a.ext.more m λc f=>by subst f;exact a.ne.2.1,m.ai a.zero a.ne.2.2.2.1,o,m.ai a.var a.ne.2.2.2.2.2.symm,a.own.mod m λc f=>(a.fresh c f).2.2.1,a.fresh,a.ne⟩
theorem Wz.other {e:aa}{b f g c:Nat}{i:Int}{s:Sl}{l:List bP}{j k:aa}{n:Rd}(a:Wz e b f g i s l j n)(m:Mod (· =c) j k)(d:e.size<=c/\c≠b/\c≠f/\c≠g/\s.ai≠some c):Wz e b f g i s l k n:=
 ⟨a.ext.more m λo h=>by subst h;exact d.1,m.ai a.zero d.2.1.symm,m.ai a.rd d.2.2.1.symm,m.ai a.var d.2.2.2.1.symm,a.own.mod m λo h p=>d.2.2.2.2 (by rw[h,p]),a.fresh,a.ne⟩
theorem Wz.on {a:aa}{b d e:Nat}{f:Int}{s:Sl}{l:List bP}{g h:aa}{i:Rd}(c:Wz a b d e f s l g i)(m:Ext g h):Wz a b d e f s l h i:=
 ⟨c.ext.trans m,m.ai c.zero (λa=>a),m.ai c.rd (λa=>a),m.ai c.var (λa=>a),c.own.ext m,c.fresh,c.ne⟩
theorem Wz.new {d:aa}{b e f:Nat}{g:Int}{s:Sl}{l:List bP}{a:aa}{h:Rd}(c:Wz d b e f g s l a h):d.size<=a.size/\a.size≠b/\a.size≠e/\a.size≠f/\s.ai≠some a.size:=by
 refine⟨c.ext.size,?_,?_,?_,λi=>?_⟩
 ·have:=Ah c.zero;omega
 ·have:=Ah c.rd;omega
 ·have:=Ah c.var;omega
 ·have:=c.own.lt i;omega
theorem ANB {b c d:Nat}{e:Bool}(a:Rd):(Mi b c d e a).2.rest.length<=a.rest.length:=by grind [II,Mi,VF,CQ,GV]
def yo(a:Option ck)(s:Sl):J0:=match a with
 |none=>J1 #[.agg #[J4 none 0 0,J6 J9 0],J6 J9 60]
 |some p=>J1 #[.agg #[J4 s.p s.len s.cap,J6 J9 p.aA],J6 J9 0]
theorem AKi {A:ar}{h:aa}{l:List UInt8}{R:A2O}(bB:l.length<1099511627776)
  (ap: ∀O s,Ext h O->(∀ p,JG l=some p->View QP O s p.steps/\ ∀c,s.ai=some c->h.size<=c)->R (yo (JG l) s) O):AA A P Jp #[J7 (AX l)] h R:=by
 refine ADW ?_;unfold Vk;refine ao.mk λz _ aq ab aO=>?_
 refine Jo λaP ac ad=>⟨_,rfl,?_⟩
 refine DN (most:=16000) ac (by simp;omega) (by decide) λQ au S=>⟨_,rfl,?_⟩
 refine ao.mk λbC _ av T aQ=>af.two av λaR aw U aS=>?_
 have bD:z.size<aP.size:=Ah ac;have bE:=S.size;have bF:=ab.size;have ax:Wz h h.size z.size Q.size ((CQ 16000 ⟨l,false⟩).1:Int) ⟨none,0,0⟩ [] aR (CQ 16000 ⟨l,false⟩).2:=by
  have aT:Q[h.size]? =some (J2 #[J4 none 0 0,J6 J9 0] Ey (0,0)):=S.ai (ad.ai aq (λh=>h)) (by omega);have aU:=T.ai au (λh=>h);have ay:Ext h Q:=(ab.trans ad).more S λc a=>by subst a;omega
  refine⟨(ay.trans T).more U λc a=>by subst a;exact ay.size,U.ai (T.ai aT (λh=>h)) (by omega),U.ai aU (by omega),aw,Own.nil,λc a=>by simp[Sl.ai] at a,by omega,by omega,by omega,by omega,by omega,by omega⟩
 have bG:(CQ 16000 ⟨l,false⟩).2.rest.length<=l.length:=II 16000 ⟨l,false⟩;refine DN (most:=16) ax.rd (by omega) (by decide) λbH az aA=>⟨_,rfl,?_⟩
 have aV:=ax.read az aA;have bI:=II 16 (CQ 16000 ⟨l,false⟩).2;generalize bJ:(CQ 16000 ⟨l,false⟩).1=i at*
 generalize bK:(CQ 16000 ⟨l,false⟩).2=t at*
 have aW:(CQ 16 t).1<=16:=by
  unfold CQ
  grind
 have G:Yg 16000 3 5 1000 false l=(⟨(Ht 3 5 1000 false (CQ 16 t).1 (CQ 16 t).2).1,i⟩,(Ht 3 5 1000 false (CQ 16 t).1 (CQ 16 t).2).2):=by grind [Yg]
 generalize bL:h.size=b at*
 generalize bM:z.size=H at*
 generalize B:Q.size=I at*
 clear aq ac au av aw ab ad T S U aA aO aQ aS az;refine Loop.rule (λm x ae=> ∃(j:Nat) (s:Sl) (f:List bP) (d:Rd),x=((j:Int),())/\Wz h b H I i s f ae d/\m=j/\d.rest.length<=l.length/\f.length+j<=16/\
  Yg 16000 3 5 1000 false l=(⟨f++(Ht 3 5 1000 false j d).1,i⟩,(Ht 3 5 1000 false j d).2)) ?_ ⟨(CQ 16 t).1,⟨none,0,0⟩,[],(CQ 16 t).2,rfl,aV,rfl,by omega,by simpa using aW,G⟩
 rintro K m _ ae ⟨j,s,f,d,rfl,n,bN,bO,bQ,G⟩ aX;refine ag.intro (λah=>?_) (λah=>?_)
 ·have aC:0<j:=by simp at ah;omega
  obtain⟨k,rfl⟩: ∃k,j=k+1:=⟨j-1,by omega⟩;refine DN (most:=3) n.rd (by omega) (by decide) λai aY aZ=>⟨_,rfl,?_⟩
  have g:=n.read aY aZ;have bR:=II 3 d;refine ao.mk λV _ u a0 bS=>af.oX u λa1 B a2 bT=>?_
  have a:=g.new;have v:=(g.on a0).other a2 a;generalize ai.size=a3 at*
  refine AC.mk (AO B rfl) ?_;refine aj.mk λa4 a5=>?_
  have fin: ∀(x:bP) (C:Rd) (o:aa),Wz h b H I i s f o C->o[a3]? =some (J2 (AO9 x) Bn (0,0))->Mi 3 5 1000 false d=(x,C)->a4 () o:=λx C o e q w=>by
   refine a5 _ _ ?_;refine AZ.mk (s:=s) (AO e.var rfl) ?_;refine AC.mk (AO q rfl) (AJ.mk (AB q rfl) (AJ.mk (AB q rfl) (AC.mk (AB q rfl) (AC.mk (AB q rfl) (AC.mk (AB q rfl) ?_)))));refine ao.aZ (E:=QP) (x:=x) (s:=s) (l:=f) rfl yk e.own (by omega) (by simp[maxLen];omega) λaD O a6 W q bU=>?_
   have a7:s.ai≠some I:=λa=>(e.fresh _ a).2.2.2 rfl
   have a8:s.ai≠some b:=λa=>(e.fresh _ a).2.1 rfl
   have a9:s.ai≠some H:=λa=>(e.fresh _ a).2.2.1 rfl
   have aE: ∀c,aD.ai=some c->h.size<=c/\c≠b/\c≠H/\c≠I:=λc a=>by
    rcases q c a with z|z
    ·exact e.fresh c z
    ·have bV:=Ah e.zero;have bW:=Ah e.rd;have bX:=Ah e.var;have bY:=e.ext.size;omega
   refine af.mk (W.ai e.var a7) (by simp) λbZ ba X b0=>?_
   rw[show((((k+1:Nat):Int),()):Int×Unit).1-(1:Int)=((k:Nat):Int) by simp,Fa (by omega)];have bb:Ht 3 5 1000 false (k+1) d=(x::(Ht 3 5 1000 false k C).1,(Ht 3 5 1000 false k C).2):=by simp only[Ht,w]
   refine aX k _ _ (by omega) ⟨k,aD,f++ [x],C,rfl,⟨?_,?_,?_,by simpa using ba,?_,aE,e.ne⟩,rfl,?_,by simp;omega,?_⟩
   ·exact(e.ext.more W λc a=>(e.fresh c a).1).more X λc a=>by omega
   ·exact X.ai (W.ai e.zero a8) e.ne.2.2.2.2.1
   ·exact X.ai (W.ai e.rd a9) e.ne.2.2.2.2.2
   ·exact a6.mod X λc a=>(aE c a).2.2.2
   ·grind [ANB]
   ·rw[G,bb];simp
  refine ag.intro (λy=>?_) (λy=>?_)
  ·have ak:(CQ 3 d).1=1:=by simp at y;omega
   have b1:=(VF (CQ 3 d).2).1;have b2:=II 5 (GV (CQ 3 d).2).2;have b3:=(VF (CQ 5 (GV (CQ 3 d).2).2).2).1;refine G7 v.rd (by omega) λaF J r=>⟨_,rfl,?_⟩
   have D:=v.read J r;have L:=r.ai B a.2.2.1;refine DN (most:=5) D.rd (by omega) (by decide) λY bc F=>⟨_,rfl,?_⟩
   have bd:=D.read bc F;have M:=F.ai L a.2.2.1;refine af.bM M (by simp) rfl λb4 be bf b5=>af.bM be (by simp) rfl λb6 bg bh b7=>?_
   have aG:=(bd.other bf a).other bh a;refine G7 aG.rd (by omega) λb8 bi aH=>⟨_,rfl,?_⟩
   have aI:=aG.read bi aH;have bj:=aH.ai bg a.2.2.1;refine DN (most:=5) aI.rd (by omega) (by decide) λb9 bk aJ=>⟨_,rfl,?_⟩
   have bm:=aI.read bk aJ;have bn:=aJ.ai bj a.2.2.1;refine af.bM bn (by simp) rfl λca bo bp cb=>af.bM bo (by simp) rfl λbq br bs cc=>?_
   have bt:=(bm.other bp a).other bs a;refine fin ⟨1,AX (GV (CQ 3 d).2).1,AX (GV (CQ 5 (GV (CQ 3 d).2).2).2).1,(CQ 5 (GV (CQ 3 d).2).2).1,(CQ 5 (GV (CQ 5 (GV (CQ 3 d).2).2).2).2).1,0⟩ _ bq bt ?_ ?_
   ·rw[br,ak];rfl
   ·simp only[Mi];rw[if_pos ak]
  ·have ak:(CQ 3 d).1≠1:=by simp at y;omega
   refine ag.intro (λal=>?_) (λal=>?_)
   ·have aK:(CQ 3 d).1=2:=by simp at al;omega
    refine DN (most:=1000) v.rd (by omega) (by decide) λaF J r=>⟨_,rfl,?_⟩
    have D:=v.read J r;have L:=r.ai B a.2.2.1;refine af.bM L (by simp) rfl λY M F bu=>?_
    refine fin ⟨2,Ho,Ho,0,0,(CQ 1000 (CQ 3 d).2).1⟩ _ Y (D.other F a) ?_ ?_
    ·rw[M,aK];rfl
    ·simp only[Mi]
     grind
   ·have aK:(CQ 3 d).1≠2:=by simp at al;omega
    refine ag.intro (λam=>?_) (λam=>?_)
    ·have bv:(CQ 3 d).1=3:=by simp at am;omega
     refine G7 v.rd (by omega) λaF J r=>⟨_,rfl,?_⟩
     have D:=v.read J r;have L:=r.ai B a.2.2.1;refine af.bM L (by simp) rfl λY M F bu=>?_
     refine fin ⟨(CQ 3 d).1,AX (GV (CQ 3 d).2).1,Ho,0,0,0⟩ _ Y (D.other F a) ?_ ?_
     ·rw[M];rfl
     ·simp only[Mi]
      grind
    ·have bv:(CQ 3 d).1≠3:=by simp at am;omega
     refine fin ⟨(CQ 3 d).1,Ho,Ho,0,0,0⟩ _ a1 v B ?_;simp only[Mi]
     grind
 ·have aC:j=0:=by simp at ah;omega
  subst aC;simp only[Ht,AK] at G;refine aj.mk λbw aL=>?_
  refine MS n.rd ⟨_,rfl,?_⟩;have aM:JG l=if Yb d&&Fz ⟨f,i⟩ then some ⟨f,i⟩ else none:=by unfold JG;rw[G]
  have aN:JG l=none-> ∀o,Wz h b H I i s f o d->bw (true,()) o:=λw o e=>by
   refine aL _ _ (ag.yes rfl ?_);refine af.two e.zero λV u Z bx=>AZ.mk (s:=⟨none,0,0⟩) (AO u rfl) (AC.mk (AB u rfl) ?_)
   have:=ap V ⟨none,0,0⟩ (e.ext.more Z λc a=>by subst a;exact e.ne.1) (λp N=>by rw[w] at N;cases N);rw[w] at this;exact this
  refine ag.intro (λy=>?_) (λy=>?_)
  ·have an:Yb d=false:=by simpa using y
   exact aN (by rw[aM,an];rfl) ae n
  ·have an:Yb d=true:=by simpa using y
   refine AZ.mk (s:=s) (AO n.var rfl) (AC.mk (AB n.var rfl) ?_);refine yn (p:=⟨f,i⟩) n.own.view (by simp only;omega) λai bz=>⟨_,rfl,?_⟩
   have g:=n.on bz;cases bA:Fz ⟨f,i⟩ with
   |false=>exact aN (by grind) ai g
   |true=>
    refine aL _ _ (ag.no rfl ?_);have w:JG l=some ⟨f,i⟩:=by rw[aM,an,bA];rfl
    refine AZ.mk (s:=s) (AO g.var rfl) (AC.mk (AB g.var rfl) ?_);refine af.two g.zero λV u Z bx=>AZ.mk (s:=s) (AO u rfl) (AC.mk (AB u rfl) ?_)
    have:=ap V s (g.ext.more Z λc a=>by subst a;exact g.ne.1) (λp N=>by
     rw[w] at N;obtain rfl:=BY N;exact⟨(g.own.mod Z λc a=>(g.fresh c a).2.1).view,λc a=>by have:=(g.fresh c a).1;omega⟩)
    rw[w] at this;exact this
def fN(a:Int):Int:=(if cZ a then 1 else 0)+(if dr a then 2 else 0)+(if dG a then 4 else 0)+(if dV a then 8 else 0)+(if eg a then 16 else 0)
theorem rr(d:Int):Gd J9 (fN d) 1=(if cZ d then 1 else 0)/\Gd J9 (fN d) 2=(if dr d then 2 else 0)/\Gd J9 (fN d) 4=(if dG d then 4 else 0)/\Gd J9 (fN d) 8=(if dV d then 8 else 0)/\Gd J9 (fN d) 16=(if eg d then 16 else 0):=by unfold fN;generalize cZ d=a;generalize dr d=b;generalize dG d=c;generalize dV d=e;generalize eg d=f;cases a<;>cases b<;>cases c<;>cases e<;>cases f<;>decide
theorem mC {b:Bool}{a:Int}(c:a≠0):((if b then a else 0)==(0:Int))= !b:=by cases b<;>simp[c]
theorem Ma {b:Bool}{a:Int}(c:a≠0):((if b then a else 0) != (0:Int))=b:=by cases b<;>simp[c]
theorem XJ {i:ar}{f:aa}{a:Int}{g:A2O}(c:g (J1 #[J6 J9 (fN a),J3 (bW a 1 18)]) f):AA i P I8 #[J6 J9 a] f g:=by
 refine ABN ?_;unfold Us;have d:a=1\/a=2\/a=3\/a=4\/a=5\/a=6\/a=7\/a=8\/a=9\/a=10\/a=11\/a=12\/a=13\/a=14\/a=15\/a=16\/a=17\/a=18\/ ¬(1<=a/\a<=18):=by omega
 by_cases h:1<=a/\a<=18
 ·rcases d with rfl|rfl|rfl|rfl|rfl|rfl|rfl|rfl|rfl|rfl|rfl|rfl|rfl|rfl|rfl|rfl|rfl|rfl|d
  all_goals (try exact absurd h d)
  all_goals repeat first|exact c|(refine aj.mk λK e=>?_)|(refine ag.yes (by decide) ?_)|(refine ag.no (by decide) ?_)|(refine e _ _ ?_)
 ·have j:bW a 1 18=false:=by unfold bW;simpa using h
  have k:fN a=0:=by unfold fN cZ dr dG dV eg;rw[decide_eq_false (by omega),decide_eq_false (by omega),decide_eq_false (by omega),decide_eq_false (by omega),decide_eq_false (by omega)];rfl
  rw[j,k] at c;have ne: ∀b:Int,1<=b->b<=18->(a==b)=false:=λb l m=>by
   rw[beq_eq_false_iff_ne];omega
  repeat first|exact c|(refine aj.mk λK e=>?_)|(refine ag.no (ne _ (by decide) (by decide)) ?_)|(refine e _ _ ?_)
theorem yq {A:ar}{h:aa}{s:A2P}{R:A2O}(b:s.size<1099511627776)
  (d: ∀a sl,Ext h a->(∀ p,JG (bl s)=some p->View QP a sl p.steps/\ ∀c,sl.ai=some c->h.size<=c)->R (yo (JG (bl s)) sl) a):AA A P Jp #[J7 s] h R:=by
 have:=AKi (A:=A) (h:=h) (l:=bl s) (R:=R) (by rw[A7];exact b) d;rwa [Kv] at this
theorem KR {A:ar}{h:aa}{s:A2P}{R:A2O}(b:s.size<=1099511627776)(c: ∀a,Ext h a->R (J7 (AX (BR (bl s)))) a):AA A P CB #[J7 s] h R:=by have:=Qw (A:=A) (h:=h) (l:=bl s) (R:=R) (by rw[A7];exact b) c;rwa [Kv] at this
theorem ru {l:ar}{h:aa}{b:Nat}{f a g c j:Int}{fl:Bool}{T:Q7}{fr:Nat×Nat}{k:A2O}(m:h[b]? =some (J2 #[J6 J9 f] T fr))(n:(Gd J9 f j==(0:Int))= !fl)
  (d:k (J3 (da fl a g c)) h):Eb l P (.func (.func IG) #[] #[J5 (some ⟨b,0,none⟩)]) #[J6 J9 a,J6 J9 g,J6 J9 c,J6 J9 j] h k:=by
 refine Eb.func (first:= #[]) (bU:= #[Aq b]) (by kernel_rfl) ?_;refine ZV ?_;unfold SQ;refine aE (AC.mk (AO m rfl) ?_);rw[n];cases fl with
 |false=>
  refine ag.yes rfl ?_;have e:(a==(0:Int))=decide (a=0):=by by_cases o:a=0<;>simp[o]
  rw[e];exact d
 |true=>
  refine ag.no rfl ?_;refine ag.intro (λi=>?_) (λi=>?_)
  ·have e:da true a g c=decide (a<=c):=by simp at i;simp only[da,if_true,bW];rw[decide_eq_decide];omega
   rw[e] at d;exact d
  ·have e:da true a g c=false:=by simp at i;simp only[da,if_true,bW];simp;omega
   rw[e] at d;exact d
abbrev oG(a:Ev):J0:= .agg #[J6 J9 a.id,J6 J9 a.kind,J6 J9 a.tick,J6 J9 a.ref,J6 J9 a.step,J6 J9 a.turn,J3 a.aM,J7 a.data]
theorem Zp {O:ar}{h:aa}{e:Ev}{t:A2O}(hd:e.data.size<1099511627776)(u: ∀d,Ext h d->t (J6 J9 (if Ej e then 0 else 120)) d):AA O P Ju #[oG e] h t:=by
 refine ACl ?_;unfold WZ;refine ao.mk λv _ E F aF=>?_
 refine AC.mk (AB E rfl) (XJ ⟨_,_,rfl,?_⟩);refine ao.mk λaG _ Q G aH=>?_
 refine af.mk Q (by simp) λf j H aI=>?_
 have o:Ext h f:=(F.trans G).more H λc q=>by subst q;exact F.size
 have R:h.size≠v.size:=by omega
 have b:=H.ai (G.ai E (λh=>h)) R;have j:f[v.size]? =some (J2 #[J6 J9 (fN e.kind)] Bp (0,0)):=j;obtain⟨S,T,U,V,W⟩:=rr e.kind;refine aj.mk λK I=>?_
 have g:Ed e=false->K (true,()) f:=λw=>by
  refine I _ _ (ag.yes rfl ?_);have:=u f o;have r:Ej e=false:=by simp[Ej,w]
  rw[r] at this;exact this
 have aT:Ed e=true->K (false,()) f:=λw=>by
  refine I _ _ (ag.no rfl ?_);refine AC.mk (AB b rfl) ?_;refine aj.mk λX Y=>?_
  have fin:KC e=true-> ∀d,Ext h d->X () d:=λy d x=>by
   refine Y _ _ ?_;have:=u d x;have r:Ej e=true:=by simp[Ej,w,y]
   rw[r] at this;exact this
  have fail:KC e=false-> ∀d,Ext h d->t (J6 J9 120) d:=λy d x=>by
   have:=u d x;have r:Ej e=false:=by simp[Ej,y]
   rw[r] at this;exact this
  refine ag.intro (λi=>?_) (λi=>?_)
  ·have i:e.kind=1:=by simpa using i
   have k:KC e=(JG (bl e.data)).isSome:=by unfold KC;rw[if_pos i]
   refine AJ.mk (AB b rfl) (yq hd λaJ sl Z _=>?_);have s:=o.trans Z;cases J:JG (bl e.data) with
   |none=>
    refine⟨⟨none,0,0⟩,_,_,rfl,?_⟩;refine ao.mk λab _ z A ac=>af.two z λB ad C ae=>ag.yes rfl ?_
    exact fail (by rw[k,J];rfl) B ((s.trans A).more C λc q=>by subst q;exact s.size)
   |some p=>
    refine⟨sl,_,_,rfl,?_⟩;refine ao.mk λab _ z A ac=>af.two z λB ad C ae=>ag.no rfl ?_
    exact fin (by rw[k,J];rfl) B ((s.trans A).more C λc q=>by subst q;exact s.size)
  ·have i:e.kind≠1:=by simpa using i
   refine ag.intro (λl=>?_) (λl=>?_)
   ·have l:e.kind=12:=by simpa using l
    have k:KC e=Ak e.data:=by unfold KC;rw[if_neg i,if_pos l]
    refine AJ.mk (AB b rfl) (FL ⟨_,rfl,?_⟩);cases L:Ak e.data with
    |false=>exact fail (by rw[k,L]) f o
    |true=>exact fin (by rw[k,L]) f o
   ·have l:e.kind≠12:=by simpa using l
    have k:KC e=true:=by unfold KC;rw[if_neg i,if_neg l]
    exact fin k f o
 refine ag.intro (λa=>g (by simp at a;simp[Ed,a])) (λah=>?_);refine AC.mk (AO b rfl) (ag.intro (λa=>g ?_) (λai=>?_))
 ·have:bW e.id 1 500=false:=by simp at a;unfold bW;simp;omega
  simp[Ed,this]
 refine AC.mk (AO b rfl) (ag.intro (λa=>g ?_) (λak=>?_))
 ·have:bW e.id 1 500=false:=by simp at a;unfold bW;simp;omega
  simp[Ed,this]
 have al:1<=e.id/\e.id<=500:=by simp at ai ak;omega
 refine AC.mk (AB b rfl) (ag.intro (λa=>g ?_) (λam=>?_))
 ·have:bW e.tick 0 1099511627776=false:=by simp at a;unfold bW;simp;omega
  simp[Ed,this]
 refine AC.mk (AB b rfl) (ag.intro (λa=>g ?_) (λan=>?_))
 ·have:bW e.tick 0 1099511627776=false:=by simp at a;unfold bW;simp;omega
  simp[Ed,this]
 have ap:bW e.tick 0 1099511627776=true:=by simp at am an;rw[Ba];omega
 have aq:bW e.id 1 500=true:=Ba.2 al;have au:bW e.kind 1 18=true:=by simpa using ah
 refine AC.mk (AB b rfl) (AC.mk (AO b rfl) ?_);rw[wrap_i64 (n:=e.id-1) (by omega) (by omega)];refine ru (fl:=cZ e.kind) j (by rw[S,mC (by decide)]) ⟨_,rfl,?_⟩;refine ag.intro (λa=>g ?_) (λav=>?_)
 ·have:da (cZ e.kind) e.ref 1 (e.id-1)=false:=by simpa using a
  simp[Ed,this]
 have aw:da (cZ e.kind) e.ref 1 (e.id-1)=true:=by simpa using av
 refine AC.mk (AB b rfl) ?_;refine ru (fl:=dr e.kind) j (by rw[T,mC (by decide)]) ⟨_,rfl,?_⟩;refine ag.intro (λa=>g ?_) (λax=>?_)
 ·have:da (dr e.kind) e.step 0 15=false:=by simpa using a
  simp[Ed,this]
 have ay:da (dr e.kind) e.step 0 15=true:=by simpa using ax
 refine AC.mk (AB b rfl) ?_;refine ru (fl:=dG e.kind) j (by rw[U,mC (by decide)]) ⟨_,rfl,?_⟩;refine ag.intro (λa=>g ?_) (λaz=>?_)
 ·have:da (dG e.kind) e.turn 1 5=false:=by simpa using a
  simp[Ed,this]
 have aA:da (dG e.kind) e.turn 1 5=true:=by simpa using az
 have m:Ed e=((!e.aM||dV e.kind)&&(decide (e.data=Ho)||eg e.kind)):=by simp[Ed,au,aq,ap,aw,ay,aA]
 have M:(!e.aM||dV e.kind)=true->AJ f ((⟨h.size,0,none⟩:Q6).add 7) λaC=>
   ag (!bR aC (⟨#[]⟩:A2P)) (AC J9 f (⟨v.size,0,none⟩:Q6) λaD=>K (((Gd J9 aD (16:Int))==(0:Int)),()) f) (K (false,()) f):=λaE=>by
  rw[aE,FG] at m;refine AJ.mk (AB b rfl) ?_;rw[oF];refine ag.intro (λa=>?_) (λa=>?_)
  ·have a:decide (e.data=Ho)=false:=by simpa using a
   refine AC.mk (AO j rfl) ?_;rw[W,mC (by decide)];rw[a,SR] at m;cases N:eg e.kind with
   |false=>exact g (by rw[m,N])
   |true=>exact aT (by rw[m,N])
  ·have a:decide (e.data=Ho)=true:=by simpa using a
   rw[a,Bool.true_or] at m;exact aT m
 refine Ac.mk (AB b rfl) (ag.intro (λa=>?_) (λa=>?_))
 ·refine AC.mk (AO j rfl) ?_;rw[V,mC (by decide)];refine ag.intro (λD=>g ?_) (λD=>M ?_)
  ·have:dV e.kind=false:=by simpa using D
   rw[m,a,this];rfl
  ·have:dV e.kind=true:=by simpa using D
   rw[this,IF]
 ·exact M (by rw[a];rfl)
theorem pU:QE P ER Gz fq.w 32=true:=by kernel_rfl
theorem pV:QE P De GU gg.w 24=true:=by kernel_rfl
theorem ATy:(zeroValue Gz).calc P=some Jb.z.v:=by kernel_rfl
theorem AT0:(zeroValue GU).calc P=some Ck.z.v:=by kernel_rfl
def pW(d:Option Nat):Int:=match d with|some i=>(i:Int)|none=> -1
theorem tE {f:Type}{p:f->Bool}{l:List f}{d:Nat}(m:d<=l.length)(h: ∀x∈l.take d,p x=false):(∀ x,l[d]? =some x->p x=true->l.findIdx? p=some d)/\(d=l.length->l.findIdx? p=none):=by
 constructor
 ·intro x i j;rw[List.findIdx?_eq_some_iff_getElem];obtain⟨k,e⟩:=List.getElem?_eq_some_iff.1 i;refine⟨k,by rw[e];exact j,λg n=>?_⟩;have:=h l[g] (List.mem_iff_getElem?.2 ⟨g,by simp_all⟩);simp[this]
 simp_all
section
variable {A : ar} {h : aa} {R : A2O} {s : bg} {e : Ev} {a b c : Sl}
theorem ARm {p:Jb->Bool}{sl:Sl}{l:List Jb}{f:J0}(v:View fq h sl l)(H:l.length<=1000000)(y: ∀(x:Jb) (d:aa) (o:A2O),Ext h d->(∀ g,Ext d g->o (J3 (p x)) g)->Eb A P f #[x.v] d o)
  (q: ∀g,Ext h g->R (J6 J9 (pW (l.findIdx? p))) g):AA A P CV #[J4 sl.p sl.len sl.cap,f] h R:=by
 refine Ig ?_;unfold Er;refine Loop.rule (λm x d=> ∃i:Nat,x=((i:Int),())/\m=l.length-i/\i<=l.length/\Ext h d/\ ∀x∈l.take i,p x=false) ?_ ⟨0,rfl,rfl,An _,Mod.refl,by simp⟩;rintro K m _ r ⟨i,rfl,rfl,z,j,B⟩ C;obtain⟨D,E⟩:=tE z B;dsimp only;have I:=v.len;refine ag.intro (λn=>?_) (λn=>?_)
 ·have k:i<l.length:=by simp at n;omega
  obtain⟨x,t⟩: ∃x,l[i]? =some x:=⟨_,A2 k⟩;refine(v.ext j).idx t λJ _ F=>kX.mk x F ?_
  refine y x r _ j λG u=>⟨_,rfl,?_⟩
  refine ag.intro (λw=>?_) (λw=>?_)
  ·have:=q G (j.trans u);rw[D x t w] at this;exact this
  ·rw[Aa (by omega)];refine C (l.length-(i+1)) _ _ (by omega) ⟨i+1,rfl,rfl,k,j.trans u,λL M=>?_⟩
   grind [List.take_add_one,Option.toList_some,List.mem_singleton]
 ·have k:i=l.length:=by simp at n;omega
  have:=q r j;rw[E k] at this;exact this
theorem ARQ {p:Ck->Bool}{sl:Sl}{l:List Ck}{f:J0}(v:View gg h sl l)(H:l.length<=1000000)(y: ∀(x:Ck) (d:aa) (o:A2O),Ext h d->(∀ g,Ext d g->o (J3 (p x)) g)->Eb A P f #[x.v] d o)
  (q: ∀g,Ext h g->R (J6 J9 (pW (l.findIdx? p))) g):AA A P Cw #[J4 sl.p sl.len sl.cap,f] h R:=by
 refine HV ?_;unfold EP;refine Loop.rule (λm x d=> ∃i:Nat,x=((i:Int),())/\m=l.length-i/\i<=l.length/\Ext h d/\ ∀x∈l.take i,p x=false) ?_ ⟨0,rfl,rfl,An _,Mod.refl,by simp⟩;rintro K m _ r ⟨i,rfl,rfl,z,j,B⟩ C;obtain⟨D,E⟩:=tE z B;dsimp only;have I:=v.len;refine ag.intro (λn=>?_) (λn=>?_)
 ·have k:i<l.length:=by simp at n;omega
  obtain⟨x,t⟩: ∃x,l[i]? =some x:=⟨_,A2 k⟩;refine(v.ext j).idx t λJ _ F=>oy.mk x F ?_
  refine y x r _ j λG u=>⟨_,rfl,?_⟩
  refine ag.intro (λw=>?_) (λw=>?_)
  ·have:=q G (j.trans u);rw[D x t w] at this;exact this
  ·rw[Aa (by omega)];refine C (l.length-(i+1)) _ _ (by omega) ⟨i+1,rfl,rfl,k,j.trans u,λL M=>?_⟩
   grind [List.take_add_one,Option.toList_some,List.mem_singleton]
 ·have k:i=l.length:=by simp at n;omega
  have:=q r j;rw[E k] at this;exact this
theorem ASz(o:View fq h b s.aw)(q:s.aw.length<=1000000)(r: ∀f,Ext h f->R (J6 J9 (pW (mj s e.ref e.turn))) f):AA A P Tt #[(s.V a b c).v,e.v] h R:=by
 refine AGH ?_;unfold uz;refine ao.mk λt _ u v F=>ao.mk λG _ w g H=>?_
 have i:=v.trans g;refine AZ.mk (s:=b) (AB (g.ai u λh=>h) rfl) (ARm (o.ext i) q (p:=λj=>decide (j.id=e.ref)&&decide (j.turn=e.turn)) (λx I J y z=>?_) λB C=>⟨_,rfl,r B (i.trans C)⟩);refine Eb.func (first:= #[]) (bU:= #[Aq t.size]) (by kernel_rfl) (ACY ?_);unfold Vq;refine ao.mk λD _ k l K=>?_
 have m:=(y.trans l).ai w λh=>h
 have:=z D l;refine AC.mk (n:=x.id) (AO k rfl) (AC.mk (n:=e.ref) (AB m rfl) (ag.intro (λd=>?_) (λd=>?_)))
 ·have d:x.id=e.ref:=by simpa using d
  refine AC.mk (n:=x.turn) (AB k rfl) (AC.mk (n:=e.turn) (AB m rfl) ?_);have E:(x.turn==e.turn)=(decide (x.id=e.ref)&&decide (x.turn=e.turn)):=by grind
  rw[E];exact this
 ·have d:x.id≠e.ref:=by simpa using d
  rw[decide_eq_false d,G4] at this;exact this
theorem step_ok {f d:Int}(F:View QP h a s.prog.steps)(u: ∀j,Ext h j->R (J1 #[((stepOf s.prog f d).getD bP.z).v,J3 (stepOf s.prog f d).isSome]) j):AA A P LJ #[(s.V a b c).v,J6 J9 f,J6 J9 d] h R:=by
 refine AEd ?_;unfold YM;refine ao.mk λG _ H I S=>ao.mk λv _ w y T=>?_
 have z:=I.trans y;have o:=y.ai H λh=>h
 have p:=F.ext z;have B: ∀j,Mod (· =G.size) v j->Ext h j:=λj m=>z.more m λc J=>by subst J;omega
 refine aj.mk λK C=>?_
 have no:stepOf s.prog f d=none->K (true,()) v:=λL=>by
  refine C _ _ (ag.yes rfl (aF.mk w (A0 6) λk q r M=>Xt.mk bP.z (Cr q rfl) ?_));have:=u k (B k r);rw[L] at this;exact this
 refine ag.intro (λg=>no ?_) (λg=>?_)
 ·have g:f<0:=by simpa using g
  unfold stepOf;rw[if_neg (by omega)]
 have U:0<=f:=by simp at g;omega
 obtain⟨i,rfl⟩: ∃i:Nat,f=i:=⟨f.toNat,by omega⟩;refine AZ.mk (s:=a) (AO o rfl) ?_;rw[p.len];refine ag.intro (λg=>no ?_) (λg=>?_)
 ·simp_all [stepOf,if_pos,A6,LR]
 have N:i<s.prog.steps.length:=by simp at g;omega
 obtain⟨x,D⟩: ∃x,s.prog.steps[i]? =some x:=⟨_,A2 N⟩;have l:stepOf s.prog (i:Int) d=if x.kind=d then some x else none:=by simp_all [stepOf,if_pos,A6]
 refine AZ.mk (s:=a) (AO o rfl) (p.idx D λV _ O=>?_);have E:=O 0 _ rfl;rw[add_zero] at E;refine AC.mk E ?_;by_cases n:x.kind=d
 ·rw[if_pos n] at l;have t:(x.kind != d)=false:=by simp[n]
  rw[t];refine C _ _ (ag.no rfl (AZ.mk (s:=a) (AO o rfl) (p.idx D λW _ Q=>Xt.mk x Q (aF.mk w (A0 6) λk q r M=>Xt.mk x (Cr q rfl) ?_))));have:=u k (B k r);rw[l] at this;exact this
 ·rw[if_neg n] at l;have t:(x.kind != d)=true:=by simp[n]
  rw[t];exact no l
theorem APS {d:Jb}(r:View QP h a s.prog.steps)(t: ∀i,Ext h i->R (J6 J9 (JO s.prog d)) i):AA A P Px #[(s.V a b c).v,d.v] h R:=by
 refine ADN ?_;unfold WL;refine ao.mk λD _ u v E=>ao.mk λw _ j k F=>?_
 have l:=v.trans k;refine Az.mk (s.V a b c) (FB (k.ai u λh=>h)) (AC.mk (n:=d.step) (AB j rfl) (step_ok (r.ext l) λG m=>jd.mk _ ⟨_,rfl,ao.mk λH _ y z I=>aF.mk y (A0 6) λo g B J=>?_⟩));rw[pN] at g;have p:Ext w o:=(m.trans z).more B λc C=>by subst C;exact m.size
 have:=t o (l.trans p);unfold JO at this;cases q:stepOf s.prog d.step 1 with
 |none=>rw[q] at this;exact ag.yes rfl this
 |some x=>
  rw[q] at g this;refine ag.no rfl (Ac.mk (n:=d.aM) (AB (p.ai j λh=>h) rfl) (ag.intro (λf=>?_) (λf=>?_)))
  ·have f:d.aM=true:=f;dsimp only at this;rw[if_pos f] at this;exact AC.mk (n:=x.aC) (AB g rfl) this
  ·have f:d.aM=false:=f;dsimp only at this;rw[if_neg (by simp[f])] at this;exact AC.mk (n:=x.tries) (AB g rfl) this
theorem AJ5 {sl:Sl}{l:List Jb}{i:Nat}(f:Own fq Gz h sl l)(g:i<l.length)(j: ∀d,Own fq Gz d ⟨sl.p,l.length-1,sl.cap⟩ (l.eraseIdx i)->Mod (λb=>sl.ai=some b) h d->R (J4 sl.p (l.length-1) sl.cap) d):
  AA A P Dp #[J4 sl.p sl.len sl.cap,J6 J9 (i:Int),J6 J9 ((i+1:Nat):Int)] h R:=
 JY (xJ (E:=fq) (zv:=Jb.z.v) pU ATy (by decide) rfl f g j)
theorem AJ4 {sl:Sl}{l:List Ck}{i:Nat}(f:Own gg GU h sl l)(g:i<l.length)(j: ∀d,Own gg GU d ⟨sl.p,l.length-1,sl.cap⟩ (l.eraseIdx i)->Mod (λb=>sl.ai=some b) h d->R (J4 sl.p (l.length-1) sl.cap) d):
  AA A P DW #[J4 sl.p sl.len sl.cap,J6 J9 (i:Int),J6 J9 ((i+1:Nat):Int)] h R:=
 IC (xJ (E:=gg) (zv:=Ck.z.v) pV AT0 (by decide) rfl f g j)
theorem nB {h:aa}{b:Nat}{T:Q7}{x i:bH}{K:bH->aa->Prop}(j:h[b]? =some (J2 i.c T (0,0)))(k: ∀d,Mod (· =b) h d->K x d):
  aF h ⟨b,0,none⟩ x.l λf=>Az f ⟨b,0,none⟩ λl=>K l f:=
 aF.mk j (A0 12) λd g m s=>Az.mk x (FB (by rw[O8] at g;exact g)) (k d m)
theorem ASJ {s:bg}{f turn:Int}{i:Nat}(h:mj s f turn=some i): ∃d,s.aw[i]? =some d/\d.id=f/\d.turn=turn:=by
 unfold mj at h;obtain⟨g,j,_⟩:=List.findIdx?_eq_some_iff_getElem.1 h
 simp_all
theorem AQ7(N:JK h s a b c)(W:Own fq Gz h b s.aw)(D:s.aw.length<=1000)(a4:6<=e.kind/\e.kind<=9)(q:0<=e.turn/\e.turn<=1000)
  (X: ∀y (t:bg) (b':Sl),Mod (λx=>b.ai=some x\/h.size<=x) h y->(∀ x,b'.ai=some x->b.ai=some x\/h.size<=x)->(∀ t',Li s e=some t'->t=t'/\View fq y b' t'.aw)->R (J1 #[(t.V a b' c).v,J3 (Li s e).isSome]) y):AA A P Rj #[(s.V a b c).v,e.v] h R:=by
 refine AEv ?_;unfold Xz;refine lM λaq k=>AC.mk (k.bM (j:=1) rfl) ?_
 have Y:=k.ext;have a5:=Y.size;have a6:=Ah k.b2;have Z: ∀x,b.ai=some x->x<h.size:=λx f=>W.lt f
 have O:Li s e=none-> ∀ {l:aa},Ext aq l->Az l ⟨h.size,0,none⟩ λt=>aF l ⟨h.size+2,0,none⟩ t.l λF=>Az F ⟨h.size+2,0,none⟩ λab=>R (J1 #[ab.v,J3 false]) F:=λar l x=>by
  refine(k.on x).ret λy x'=>?_
  have:=X y s b x'.mod (λa7 aJ=> .inl aJ) (λt' q=>by rw[ar] at q;cases q);rw[ar] at this;exact this
 refine ag.intro (λz=>?_) (λz=>?_)
 ·have z:e.kind=6:=by simpa using z
  refine k.eV (AC.mk (k.bM (j:=4) rfl) (step_ok (N.steps.ext Y) λaK C=>jd.mk _ ⟨_,rfl,ao.mk λQ _ aL ac a8=>aF.mk aL (A0 6) λw ad B aM=>?_⟩));rw[pN] at ad;have S:Ext aq w:=(C.trans ac).more B λc d=>by subst d;exact C.size
  have r:=k.on S;refine aj.mk λK au=>?_
  cases av:stepOf s.prog e.step 1 with
  |none=>exact ag.yes rfl (au _ _ (ag.yes rfl (O (by unfold Li;rw[if_pos z,av];rfl) S)))
  |some x=>
   rw[av] at ad;have key: ∀u:Bool,(u=true↔e.aM=true/\x.aM=Ho)->K (u,()) w:=λu ae=>by
    refine au _ _ (ag.intro (λo=>O ?_ S) (λo=>?_))
    ·unfold Li;simp_all
    have o:u=false:=o;have g:Li s e=some {s with aw:=s.aw++ [⟨e.id,e.step,e.aM,1⟩]}:=by unfold Li;simp_all
    refine AZ.mk (s:=b) (r.cM (j:=8) rfl) (AC.mk (r.bM (j:=0) rfl) (AC.mk (r.bM (j:=4) rfl) (Ac.mk (r.bM (j:=6) rfl) ?_)));refine ao.aZ (E:=fq) (x:=⟨e.id,e.step,e.aM,1⟩) (s:=b) rfl pU (W.ext r.ext) (by omega) (by simp only[maxLen];omega) λb' p aN G aO a9=>?_
    have ba:=S.size;have ne: ∀ax,b.ai=some (h.size+ax)->False:=λax f=>by have:=Z _ f;omega
    refine af.bM (dJ:=(({s with aw:=s.aw++ [⟨e.id,e.step,e.aM,1⟩]}:bg).V a b' c).c) (G.ai r.b0 (ne 0)) (of_decide_eq_true rfl) rfl λH ah T aP=>?_
    refine Az.mk (({s with aw:=s.aw++ [⟨e.id,e.step,e.aM,1⟩]}:bg).V a b' c) (FB ah) (nB (T.ai (G.ai r.b2 (ne 2)) (by omega)) λay aQ=>?_);have aR: ∀x,b'.ai=some x->b.ai=some x\/h.size<=x:=λx f=>(aO x f).imp id λh=>by omega
    have az:Mod (λc=>c=h.size\/c=h.size+2) p ay:=(T.ak λc _ d=> .inl d).trans (aQ.ak λc _ d=> .inr d);have I:=X ay {s with aw:=s.aw++ [⟨e.id,e.step,e.aM,1⟩]} b' ((r.ext.mod.trans (G.ak λc _ d=> .inl d)).trans (az.ak λc _ d=> .inr (by omega))) aR (λt' q=>?_)
    ·rw[g] at I;exact I
    ·rw[g] at q;cases q;refine⟨rfl,(aN.mod az λx f d=>?_).view⟩
     grind
   refine ag.no rfl (Ac.mk (r.bM (j:=6) rfl) (ag.intro (λJ=>?_) (λJ=>?_)))
   ·have J:e.aM=true:=J;refine AJ.mk (n:=x.aM) (AB ad rfl) (key _ ?_);rw[oF,decide_eq_true_eq]
    grind
   ·have J:e.aM=false:=J;exact key _ ⟨(λh=>by cases h),λh=>(by grind)⟩
 have z:e.kind≠6:=by simpa using z
 refine k.eV (k.kG (ASz (N.aw.ext Y) (by omega) λaK C=>⟨_,rfl,?_⟩));cases aA:mj s e.ref e.turn with
 |none=>exact ag.yes rfl (O (by unfold Li;rw[if_neg z,aA];rfl) C)
 |some i=>
  obtain⟨j,L,bb,bc⟩:=ASJ aA;have aS:=(List.getElem?_eq_some_iff.1 L).1;have M:=k.on C;show ag (decide ((i:Int)<0)) _ _;refine ag.no (decide_eq_false (by omega)) ?_;have g:Li s e=if e.kind=8 then(if e.turn=JO s.prog j then none else some {s with aw:=s.aw.set i {j with turn:=j.turn+1}}) else if e.kind=7\/e.turn=JO s.prog j then some {s with aw:=s.aw.eraseIdx i,fresh:=true} else none:=by
   unfold Li
   simp_all
  refine AC.mk (M.bM (j:=5) rfl) (M.eV (AZ.mk (s:=b) (M.cM (j:=8) rfl) ?_));refine(N.aw.ext M.ext).idx L λbd _ aT=>kX.mk j aT ?_
  refine APS (N.steps.ext M.ext) λQ ac=>⟨_,rfl,?_⟩
  have ai:=C.trans ac;have m:=k.on ai;have be:=ai.size;have U:=W.ext m.ext;refine⟨m.bM (j:=5) rfl,aj.mk λaU aC=>?_⟩;have yes: ∀ {l:aa} {t:bg} {b':Sl} {S':Nat->Prop},Li s e=some t->Own fq Gz l b' t.aw->Mod (λx=>b.ai=some x\/x=h.size) Q l->l[h.size]? =some (J2 (t.V a b' c).c Av (0,0))->b'.p=b.p->
    Az l ⟨h.size,0,none⟩ λt=>aF l ⟨h.size+2,0,none⟩ t.l λF=>Az F ⟨h.size+2,0,none⟩ λab=>R (J1 #[ab.v,J3 true]) F:=λ{l t b' S'} g aV aD aW bf=>by
   have aX: ∀x,b'.ai=some x->b.ai=some x:=λx f=>by grind [Sl.ai]
   refine Az.mk (t.V a b' c) (FB aW) (nB (aD.ai m.b2 λd=>by
    grind) λy aE=>?_)
   have I:=X y t b' ((m.ext.mod.trans (aD.ak λc _ d=>d.imp id λh=>by omega)).trans (aE.ak λc _ d=> .inr (by omega))) (λx f=> .inl (aX x f)) (λt' q=>?_)
   ·rw[g] at I;exact I
   ·rw[g] at q;cases q;exact⟨rfl,(aV.mod aE λx f d=>by grind).view⟩
  have aG: ¬b.ai=some h.size:=λf=>by have:=Z _ f;omega
  have aH:(Li s e=if e.kind=7\/(e.kind=9/\e.turn=JO s.prog j) then some {s with aw:=s.aw.eraseIdx i,fresh:=true} else none)->aU (false,()) Q:=λV=>by
   refine aC _ _ (ag.no rfl (aj.mk λaY aZ=>?_));have ak: ∀u:Bool,(u=true↔e.kind=7\/(e.kind=9/\e.turn=JO s.prog j))->aY (u,()) Q:=λu ae=>by
    refine aZ _ _ (ag.intro (λo=>?_) (λo=>O ?_ ai))
    ·rw[if_pos (ae.1 o)] at V;refine AZ.mk (s:=b) (m.cM (j:=8) rfl) ?_;show AA A P _ #[_,J6 J9 (i:Int),J6 J9 (J8 J9 ((i:Int)+1))] _ _;rw[Aa (by omega)];refine AJ5 U aS λw al B=>⟨⟨b.p,s.aw.length-1,b.cap⟩,rfl,?_⟩
     refine af.bM (dJ:=(({s with aw:=s.aw.eraseIdx i}:bg).V a ⟨b.p,s.aw.length-1,b.cap⟩ c).c) (B.ai m.b0 aG) (of_decide_eq_true rfl) rfl λp a0 G bh=>?_
     refine af.bM (dJ:=(({s with aw:=s.aw.eraseIdx i,fresh:=true}:bg).V a ⟨b.p,s.aw.length-1,b.cap⟩ c).c) a0 (of_decide_eq_true rfl) rfl λH ah T aP=>?_
     have aI:=G.trans T;exact yes (t:= {s with aw:=s.aw.eraseIdx i,fresh:=true}) (b':=⟨b.p,s.aw.length-1,b.cap⟩) (S':=λ_=>True) V (al.mod aI λx f d=>by have:=Z x f;omega) ((B.ak λc _ d=> .inl d).trans (aI.ak λc _ d=> .inr d)) ah rfl
    ·have o:u=false:=o;rw[if_neg λh=>by rw[ae.2 h] at o;cases o] at V;exact V
   refine AC.mk (m.bM (j:=1) rfl) (ag.intro (λw=>?_) (λw=>?_))
   ·have am:e.kind=7:=by simpa using w
    exact ak _ (by simp[am])
   ·have am:e.kind≠7:=by simpa using w
    refine AC.mk (m.bM (j:=1) rfl) (ag.intro (λH=>?_) (λH=>?_))
    ·have an:e.kind=9:=by simpa using H
     exact ak _ (by simp[an])
    ·have an:e.kind≠9:=by simpa using H
     exact ak _ (by simp[am,an])
  refine AC.mk (m.bM (j:=1) rfl) (ag.intro (λp=>?_) (λp=>?_))
  ·have p:e.kind=8:=by simpa using p
   rw[if_pos p] at g;by_cases D:e.turn=JO s.prog j
   ·rw[if_pos D] at g;have ap:(!(e.turn==JO s.prog j))=false:=by simp[D]
    rw[ap];exact aH (by rw[g,if_neg (by omega)])
   ·rw[if_neg D] at g;have ap:(!(e.turn==JO s.prog j))=true:=by simp[D]
    rw[ap];refine aC _ _ (ag.yes rfl (AZ.mk (s:=b) (m.cM (j:=8) rfl) (U.view.idx L λbi _ a1=>AC.mk (n:=j.turn) (a1 3 _ rfl) (U.view.idx L λa2 a3 _=>?_))));rw[wrap_i64 (by omega) (by omega)];refine Own.store (E:=fq) (i:=i) (j:=3) (x:=j) (x':= {j with turn:=j.turn+1}) (v:=J6 J9 (j.turn+1)) U L rfl (by decide) (λw al B aM=>?_) a2 a3;exact yes (t:= {s with aw:=s.aw.set i {j with turn:=j.turn+1}}) (b':=b) (S':=λ_=>True) g al (B.ak λc _ d=> .inl d) (B.ai m.b0 aG) rfl
  ·have p:e.kind≠8:=by simpa using p
   rw[if_neg p] at g;refine aH ?_;rw[g];have:(e.kind=7\/e.turn=JO s.prog j)↔(e.kind=7\/e.kind=9/\e.turn=JO s.prog j):=by omega
   simp only[this]
theorem AP8(ab:JK h s a b c)(M:Own gg GU h c s.al)(aI:s.al.length<=1000)(aJ:e.kind=10\/e.kind=11)(k:0<=e.tick/\e.tick<=1099511627776)(an: ∀x,stepOf s.prog e.step 2=some x->0<=x.wait/\x.wait<=1099511627776)
  (N: ∀v (t:bg) (o:Sl),Mod (λx=>c.ai=some x\/h.size<=x) h v->(∀ x,o.ai=some x->c.ai=some x\/h.size<=x)->(∀ t',KA s e=some t'->t=t'/\View gg v o t'.al)->R (J1 #[(t.V a b o).v,J3 (KA s e).isSome]) v):AA A P QG #[(s.V a b c).v,e.v] h R:=by
 refine ACr ?_;unfold Vm;refine lM λO f=>AC.mk (f.bM (j:=1) rfl) ?_
 have Q:=f.ext;have aK:=Q.size;have aL:=Ah f.b2;have ac: ∀x,c.ai=some x->x<h.size:=λx g=>M.lt g
 have ad:KA s e=none-> ∀ {w:aa},Ext O w->Az w ⟨h.size,0,none⟩ λt=>aF w ⟨h.size+2,0,none⟩ t.l λae=>Az ae ⟨h.size+2,0,none⟩ λap=>R (J1 #[ap.v,J3 false]) ae:=λah w x=>by
  refine(f.on x).ret λv aq=>?_
  have:=N v s c aq.mod (λaM ar=> .inl ar) (λt' k=>by rw[ah] at k;cases k);rw[ah] at this;exact this
 have H: ∀q,c.ai=some (h.size+q)->False:=λq g=>by have:=ac _ g;omega
 refine ag.intro (λl=>?_) (λl=>?_)
 ·have l:e.kind=10:=by simpa using l
  refine f.eV (AC.mk (f.bM (j:=4) rfl) (step_ok (ab.steps.ext Q) λS m=>jd.mk _ ⟨_,rfl,ao.mk λaN _ I au aO=>aF.mk I (A0 6) λT U y aP=>?_⟩));rw[pN] at U;have V:Ext O T:=(m.trans au).more y λc d=>by subst d;exact m.size
  have r:=f.on V;cases J:stepOf s.prog e.step 2 with
  |none=>
   refine aj.mk λK W=>?_
   exact ag.no rfl (W _ _ (ad (by unfold KA;rw[if_pos l,J];rfl) V))
  |some x=>
   refine aj.mk λK W=>?_
   rw[J] at U;obtain⟨aQ,w2⟩:=an x J;have z:KA s e=some {s with al:=s.al++ [⟨e.id,e.step,e.tick+x.wait⟩]}:=by unfold KA;rw[if_pos l,J];rfl
   refine ag.yes rfl (AZ.mk (s:=c) (r.cM (j:=9) rfl) (AC.mk (r.bM (j:=0) rfl) (AC.mk (r.bM (j:=4) rfl) (AC.mk (r.bM (j:=2) rfl) (AC.mk (n:=x.wait) (AB U rfl) ?_)))));rw[wrap_i64 (by omega) (by omega)];refine ao.aZ (E:=gg) (x:=⟨e.id,e.step,e.tick+x.wait⟩) (s:=c) rfl pV (M.ext r.ext) (by omega) (by simp only[maxLen];omega) λo ai av B aw aR=>?_
   have aS:=V.size;refine af.bM (dJ:=(({s with al:=s.al++ [⟨e.id,e.step,e.tick+x.wait⟩]}:bg).V a b o).c) (B.ai r.b0 (H 0)) (of_decide_eq_true rfl) rfl λax X L ay=>?_
   refine W _ _ (Az.mk (({s with al:=s.al++ [⟨e.id,e.step,e.tick+x.wait⟩]}:bg).V a b o) (FB X) (nB (L.ai (B.ai r.b2 (H 2)) (by omega)) λC Y=>?_));have az: ∀x,o.ai=some x->c.ai=some x\/h.size<=x:=λx g=>(aw x g).imp id λh=>by omega
   have D:Mod (λc=>c=h.size\/c=h.size+2) ai C:=(L.ak λc _ d=> .inl d).trans (Y.ak λc _ d=> .inr d);have F:=N C {s with al:=s.al++ [⟨e.id,e.step,e.tick+x.wait⟩]} o ((r.ext.mod.trans (B.ak λc _ d=> .inl d)).trans (D.ak λc _ d=> .inr (by omega))) az (λt' k=>?_)
   ·rw[z] at F;exact F
   ·rw[z] at k;cases k;refine⟨rfl,(av.mod D λx g d=>?_).view⟩
    grind
 have l:e.kind≠10:=by simpa using l
 have aA:O[h.size+1]? =some (J2 e.c A8 (0,0)):=f.b1;refine AZ.mk (s:=c) (f.cM (j:=9) rfl) (ARQ (p:=λq=>decide (q.id=e.ref)&&decide (q.tick<=e.tick)) (ab.al.ext Q) (by omega) (λx w aT aC aD=>?_) λS m=>⟨_,rfl,?_⟩)
 ·refine Eb.func (first:= #[]) (bU:= #[Aq (h.size+1)]) (by kernel_rfl) (AAC ?_);unfold Sm;refine ao.mk λS _ ak m aU=>?_
  have I:=(aC.trans m).ai aA λh=>h
  have:=aD S m;refine AC.mk (n:=x.id) (AO ak rfl) (AC.mk (n:=e.ref) (AB I rfl) (ag.intro (λu=>?_) (λu=>?_)))
  ·have u:x.id=e.ref:=by simpa using u
   rw[decide_eq_true u,FG] at this;exact AC.mk (n:=e.tick) (AB I rfl) (AC.mk (n:=x.tick) (AB ak rfl) this)
  ·have u:x.id≠e.ref:=by simpa using u
   rw[decide_eq_false u,G4] at this;exact this
 cases Z:(s.al.findIdx? λq=>decide (q.id=e.ref)&&decide (q.tick<=e.tick)) with
 |none=>exact ag.yes rfl (ad (by unfold KA;rw[if_neg l,Z];rfl) m)
 |some i=>
  have aE:i<s.al.length:=(List.findIdx?_eq_some_iff_getElem.1 Z).1;have z:KA s e=some {s with al:=s.al.eraseIdx i,fresh:=true}:=by unfold KA;rw[if_neg l,Z];rfl
  have G:=f.on m;have aV:=m.size;show ag (decide ((i:Int)<0)) _ _;refine ag.no (decide_eq_false (by omega)) (AZ.mk (s:=c) (G.cM (j:=9) rfl) ?_);show AA A P _ #[_,J6 J9 (i:Int),J6 J9 (J8 J9 ((i:Int)+1))] _ _;rw[Aa (by omega)];refine AJ4 (M.ext G.ext) aE λT aG y=>⟨⟨c.p,s.al.length-1,c.cap⟩,rfl,?_⟩
  refine af.bM (dJ:=(({s with al:=s.al.eraseIdx i}:bg).V a b ⟨c.p,s.al.length-1,c.cap⟩).c) (y.ai G.b0 (H 0)) (of_decide_eq_true rfl) rfl λai aH B aW=>?_
  refine af.bM (dJ:=(({s with al:=s.al.eraseIdx i,fresh:=true}:bg).V a b ⟨c.p,s.al.length-1,c.cap⟩).c) aH (of_decide_eq_true rfl) rfl λax X L ay=>?_
  have am:=B.trans L;refine Az.mk (({s with al:=s.al.eraseIdx i,fresh:=true}:bg).V a b ⟨c.p,s.al.length-1,c.cap⟩) (FB X) (nB (am.ai (y.ai G.b2 (H 2)) (by omega)) λC Y=>?_);have D:Mod (λc=>c=h.size\/c=h.size+2) T C:=(am.ak λc _ d=> .inl d).trans (Y.ak λc _ d=> .inr d);have F:=N C {s with al:=s.al.eraseIdx i,fresh:=true} ⟨c.p,s.al.length-1,c.cap⟩ ((G.ext.mod.trans (y.ak λc _ d=> .inl d)).trans (D.ak λc _ d=> .inr (by omega))) (λx g=> .inl g) (λt' k=>?_)
  ·rw[z] at F;exact F
  ·rw[z] at k;cases k;exact⟨rfl,(aG.mod D λx g d=>by have:=ac x g;omega).view⟩
end
theorem Uw {A:ar}{m:Type}{E:cF m}{t T:Q7}{n:Nat}(w:QE P t T E.w n=true){h:aa}{s:Sl}{l:List m}{R:A2O}(v:View E h s l)(y:l.length*n<=140737488355328)(z:l.length<=maxLen)
  (o: ∀d i,Own E T i d l->(∀ c,d.ai=some c->h.size<=c)->Ext h i->R (J4 d.p d.len d.cap) i):
  ag (s.p.isNone) (R (J4 none 0 0) h) (ao h (J2 #[] T) λb j=>BI A P (Builtin.append_ #[t,t] t #[J4 (some (⟨b,0,none⟩:Q6)) 0 0,J4 s.p s.len s.cap]) j λv k=> ∃f:Sl,v=J4 f.p f.len f.cap/\R (J4 f.p f.len f.cap) k):=by
 refine ag.intro (λp=>?_) (λp=>?_)
 ·have B:s.p=none:=by simpa using p
  have:l= []:=by
   cases l with
   |nil=>rfl
   |cons x l=>
    obtain⟨a,q,_⟩:=v.cells 0 x rfl;rw[B] at q;cases q
  subst this;exact o ⟨none,0,0⟩ h Own.nil (λc g=>by simp[Sl.ai] at g) Mod.refl
 ·refine ao.mk λj _ C r I=>?_
  have D:Own E T j ⟨some ⟨h.size,0,none⟩,0,0⟩ []:=Own.lit (E:=E) (l:= []) C rfl (by simp[maxLen]);refine Fx (s:=⟨some ⟨h.size,0,none⟩,0,0⟩) w D (v.ext r) (by simpa using y) (by simpa using z) λd k F G H _=>o d k F (λc g=>?_) (r.more G λc g=>?_)
  ·rcases H c g with u|u
   ·have e:h.size=c:=by simpa [Sl.ai] using u
    omega
   ·omega
  ·have e:h.size=c:=by simpa [Sl.ai] using g
   omega
section
variable {A : ar} {h : aa} {R : A2O} {s : bg} {e : Ev} {a b c : Sl}
theorem AMZ {x:Sl}{l:List Jb}(v:View fq h x l)(i:l.length<=1000)(g: ∀d f,Own fq Gz f d l->(∀ c,d.ai=some c->h.size<=c)->Ext h f->R (J4 d.p d.len d.cap) f):AA A P Dy #[J4 x.p x.len x.cap] h R:=by refine Jh ?_;unfold Ff;exact Uw pU v (by omega) (by simp only[maxLen];omega) g
theorem ANr {x:Sl}{l:List Ck}(v:View gg h x l)(i:l.length<=1000)(g: ∀d f,Own gg GU f d l->(∀ c,d.ai=some c->h.size<=c)->Ext h f->R (J4 d.p d.len d.cap) f):AA A P DY #[J4 x.p x.len x.cap] h R:=by refine IZ ?_;unfold Eo;exact Uw pV v (by omega) (by simp only[maxLen];omega) g
theorem ANK {x:Sl}{l:List bP}(v:View QP h x l)(i:l.length<=1000)(g: ∀d f,Own QP Bn f d l->(∀ c,d.ai=some c->h.size<=c)->Ext h f->R (J4 d.p d.len d.cap) f):AA A P Dm #[J4 x.p x.len x.cap] h R:=by refine JA ?_;unfold FN;exact Uw yk v (by omega) (by simp only[maxLen];omega) g
structure j6 (h:aa) (n:Nat) (t:bg) (a b c:Sl) (b' c':Sl):Prop where
 at':JK h t a b' c'
 fb: ∀x,b'.ai=some x->b.ai=some x\/n<=x
 fc: ∀x,c'.ai=some x->c.ai=some x\/n<=x
theorem nC {x:Nat}{P:Prop}(h:(⟨none,0,0⟩:Sl).ai=some x):P:=by simp[Sl.ai] at h
theorem ANH(k:JK h s a b c)(ac:e.kind=1\/12<=e.kind)(V:e.kind=14->0<=s.ba+s.prog.aA/\s.ba+s.prog.aA<=9223372036854775807)
  (S: ∀f (t:bg) (m n:Sl),Ext h f->(∀ t',KO s e=some t'->t=t'/\j6 f h.size t' a b c m n)->R (J1 #[(t.V a m n).v,J3 (KO s e).isSome]) f):AA A P Rs #[(s.V a b c).v,e.v] h R:=by
 refine AEa ?_;unfold Xg;refine lM λM d=>AC.mk (d.bM (j:=1) rfl) (aj.mk λK W=>?_)
 have yes: ∀ {t:bg} {hh:aa} {m n:Sl},(∀ x,m.ai=some x->b.ai=some x\/h.size<=x)->(∀ x,n.ai=some x->c.ai=some x\/h.size<=x)->JK h t a m n->KO s e=some t-> ∀f,Ext h f->R (J1 #[(t.V a m n).v,J3 true]) f:=λ{t hh m n} X Y N v f x=>by
  have:=S f t m n x (λt' E=>by rw[v] at E;cases E;exact⟨rfl,⟨N.ext x,X,Y⟩⟩);rw[v] at this;exact this
 have O: ∀ {t:bg} {hh:aa},D3 h hh Av A8 Av (t.V a b c) e bH.z->JK h t a b c->KO s e=some t->K () hh:=λ{t hh} d N v=>
  W _ _ (d.ret λf x=>yes (hh:=hh) (λ_ h=> .inl h) (λ_ h=> .inl h) N v f x)
 have no: ∀(t:bg) (m n:Sl),KO s e=none-> ∀f,Ext h f->R (J1 #[(t.V a m n).v,J3 false]) f:=λt m n v f x=>by
  have:=S f t m n x (λt' E=>by rw[v] at E;cases E);rw[v] at this;exact this
 have T: ∀r,JK h (ik s r) a ⟨none,0,0⟩ ⟨none,0,0⟩:=λr=>⟨k.steps,View.nil,View.nil⟩
 refine ag.intro (λg=>?_) (λg=>?_)
 ·have g:e.kind=12:=by simpa using g
  refine d.set (x':=({s with fresh:=true}:bg).V a b c) (by decide) rfl λC F=>O F ⟨k.steps,k.aw,k.al⟩ ?_
  unfold KO;rw[if_pos g]
 have g:e.kind≠12:=by simpa using g
 refine ag.intro (λi=>?_) (λi=>?_)
 ·have i:e.kind=13:=by simpa using i
  refine Ac.mk (d.cM (j:=10) rfl) (ag.intro (λw=>?_) (λw=>?_))
  ·have w:s.cancel=true:=w;refine d.ret (no s b c ?_);unfold KO;rw[if_neg g,if_pos i,if_pos w]
  ·have w:s.cancel=false:=w;refine d.set (x':=({s with cancel:=true}:bg).V a b c) (by decide) rfl λC F=>F.set (x':=({s with cancel:=true,fresh:=true}:bg).V a b c) (by decide) rfl λH Q=>O Q ⟨k.steps,k.aw,k.al⟩ ?_
   unfold KO;rw[if_neg g,if_pos i,if_neg (by simp[w])]
 have i:e.kind≠13:=by simpa using i
 refine ag.intro (λl=>?_) (λl=>?_)
 ·have l:e.kind=14:=by simpa using l
  obtain⟨ad,ae⟩:=V l;refine aj.mk λZ ab=>?_
  have key: ∀(I:Bool),(I=true↔s.aS=true\/s.prog.aA=0\/e.tick<s.ba+s.prog.aA)->Z (I,()) M:=λI U=>by
   refine ab _ _ (ag.intro (λD=>?_) (λD=>?_))
   ·refine d.ret (no s b c ?_);unfold KO;rw[if_neg g,if_neg i,if_pos l,if_pos (U.1 D)]
   ·have D:I=false:=D;refine d.set (x':=({s with aS:=true}:bg).V a b c) (by decide) rfl λC F=>F.set (x':=({s with aS:=true,fresh:=true}:bg).V a b c) (by decide) rfl λH Q=>O Q ⟨k.steps,k.aw,k.al⟩ ?_
    unfold KO;rw[if_neg g,if_neg i,if_pos l,if_neg λh=>by rw[U.2 h] at D;cases D]
  refine Ac.mk (d.cM (j:=11) rfl) (ag.intro (λy=>?_) (λy=>?_))
  ·have y:s.aS=true:=y;exact key _ (by simp[y])
  have y:s.aS=false:=y;refine AC.mk (d.cM (j:=1) rfl) (ag.intro (λz=>?_) (λz=>?_))
  ·have z:s.prog.aA=0:=by simpa using z
   exact key _ (by simp[z])
  have z:s.prog.aA≠0:=by simpa using z
  refine AC.mk (d.bM (j:=2) rfl) (AC.mk (d.cM (j:=4) rfl) (AC.mk (d.cM (j:=1) rfl) (key _ ?_)));dsimp only;rw[wrap_i64 (by omega) (by omega)];simp[y,z]
 have l:e.kind≠14:=by simpa using l
 refine ag.intro (λo=>?_) (λo=>?_)
 ·have o:e.kind=18:=by simpa using o
  refine d.eV (Xb λC p=>Gl.mk _ ⟨rfl,(d.on p).tell λf x=>yes (hh:=M) (λ_ h=>nC h) (λ_ h=>nC h) (T 4) ?_ f x⟩);unfold KO;rw[if_neg g,if_neg i,if_neg l,if_pos o]
 have o:e.kind≠18:=by simpa using o
 have fin: ∀(r:Int),(KO s e=if O6 s then some (ik s r) else none)-> ∀f,Ext h f->R (J1 #[((ik s r).V a ⟨none,0,0⟩ ⟨none,0,0⟩).v,J3 (decide (O6 s))]) f:=λr J f x=>by
  by_cases L:O6 s
  ·rw[if_pos L] at J;rw[decide_eq_true L];exact yes (hh:=M) (λ_ h=>nC h) (λ_ h=>nC h) (T r) J f x
  ·rw[if_neg L] at J;rw[decide_eq_false L];exact no (ik s r) ⟨none,0,0⟩ ⟨none,0,0⟩ J f x
 refine ag.intro (λq=>?_) (λq=>?_)
 ·have q:e.kind=15:=by simpa using q
  refine d.eV (d.eV (Xb λC p=>Gl.mk _ ⟨rfl,(d.on p).jq,pO k.aw.len λH G=>⟨_,rfl,((d.on p).on G).tell (fin 1 ?_)⟩⟩));unfold KO;rw[if_neg g,if_neg i,if_neg l,if_neg o,if_pos q]
 have q:e.kind≠15:=by simpa using q
 refine ag.intro (λu=>?_) (λu=>?_)
 ·have u:e.kind=16:=by simpa using u
  refine d.eV (d.eV (Xb λC p=>Gl.mk _ ⟨rfl,(d.on p).jq,pO k.aw.len λH G=>⟨_,rfl,((d.on p).on G).tell (fin 2 ?_)⟩⟩));unfold KO;rw[if_neg g,if_neg i,if_neg l,if_neg o,if_neg q,if_pos u]
 have u:e.kind≠16:=by simpa using u
 refine ag.intro (λB=>?_) (λB=>?_)
 ·have B:e.kind=17:=by simpa using B
  refine d.eV (d.eV (Xb λC p=>Gl.mk _ ⟨rfl,(d.on p).jq,pO k.aw.len λH G=>⟨_,rfl,((d.on p).on G).tell (fin 3 ?_)⟩⟩));unfold KO;rw[if_neg g,if_neg i,if_neg l,if_neg o,if_neg q,if_neg u,if_pos B]
 have B:e.kind≠17:=by simpa using B
 refine d.ret (no s b c ?_);unfold KO;rw[if_neg g,if_neg i,if_neg l,if_neg o,if_neg q,if_neg u,if_neg B]
theorem ANZ {e:Ev}(h:Ej e=true):0<=e.turn/\e.turn<=5:=by
 have d:=ME h;unfold Ed at d;simp only[A4] at d;have:=d.1.1.2;unfold da at this;split at this
 ·have:=Ba.1 this;omega
 ·have:=of_decide_eq_true this;omega
theorem AJx {p:ck}{f g:Int}{x:bP}(h:stepOf p f g=some x):x∈p.steps:=by
 unfold stepOf at h;split at h
 ·obtain⟨j,i,d⟩:=Option.bind_eq_some_iff.1 h;split at d
  ·cases d;exact AM i
  ·cases d
 ·cases h
theorem pX {n:Nat}(aK:JK h s a b c)(M:Dc s n)(bN:n<=600)(hd:e.data.size<1099511627776)
  (aL: ∀O y k l,Ext h O->JK O (Bo s e).2 y k l->(∀ x,y.ai=some x\/k.ai=some x\/l.ai=some x->h.size<=x)->R (J1 #[((Bo s e).2.V y k l).v,J6 J9 (Bo s e).1]) O):AA A P Jl #[(s.V a b c).v,e.v] h R:=by
 refine AD9 ?_;unfold WS;refine lM λbO ak=>ak.kG (Zp hd λa0 bm=>⟨_,rfl,?_⟩)
 have q:=ak.on bm;have bn: ∀x,(⟨none,0,0⟩:Sl).ai=some x\/(⟨none,0,0⟩:Sl).ai=some x\/(⟨none,0,0⟩:Sl).ai=some x->h.size<=x:=λx d=>by simp[Sl.ai] at d
 have ap: ∀(n:Int),Bo s e=(n,Sy)-> ∀O,Ext h O->R (J1 #[bH.z.v,J6 J9 n]) O:=λn a1 O x=>by
  have:=aL O ⟨none,0,0⟩ ⟨none,0,0⟩ ⟨none,0,0⟩ x (by rw[a1];exact⟨View.nil,View.nil,View.nil⟩) bn;rw[a1] at this;exact this
 refine ag.intro (λD=>?_) (λD=>?_)
 ·have I:Ej e=false:=by
   cases E:Ej e with
   |false=>rfl
   |true=>rw[E] at D;simp at D
  exact q.tell (ap 120 (by unfold Bo;rw[if_pos I]))
 have I:Ej e=true:=by
  cases E:Ej e with
  |true=>rfl
  |false=>rw[E] at D;simp at D
 obtain⟨bP,bQ,bo,bp,_⟩:=RZ I;refine AC.mk (q.cM (j:=3) rfl) (ag.intro (λF=>?_) (λF=>?_))
 ·have F:s.next=0:=by simpa using F
  refine aj.mk λK bq=>?_
  have key: ∀az:Bool,(az=true↔ ¬(e.kind=1/\e.id=1))->K (az,()) a0:=λaz a2=>by
   refine bq _ _ (ag.intro (λD=>?_) (λD=>?_))
   ·exact q.tell (ap 120 (by unfold Bo;rw[if_neg (by simp[I]),if_pos F,if_neg (a2.1 D)]))
   ·have D:az=false:=D;have m:e.kind=1/\e.id=1:=Decidable.byContradiction λh=>by rw[a2.2 h] at D;cases D
    obtain⟨p,aM,bR⟩:=bp m.1;refine AJ.mk (q.bM (j:=7) rfl) (yq hd λaA sl aC aN=>?_);obtain⟨aN,a3⟩:=aN p aM;rw[aM];refine⟨sl,p.aA,0,rfl,?_⟩;have V:=q.on aC;refine ao.mk λaO _ br W bs=>?_
    have a4:=V.on W;have bS:=V.b2;refine af.two br λa5 a6 X bt=>?_
    have a7:Ext aA a5:=W.more X λc g=>by subst g;exact A0 _
    have al:=V.on a7;refine AZ.mk (s:=sl) (AO a6 rfl) (AC.mk (AB a6 rfl) (AC.mk (al.bM (j:=2) rfl) (al.iR λa8 Q bu=>?_)));have aq:Bo s e=(0,XL e):=by unfold Bo;rw[if_neg (by simp[I]),if_pos F,if_pos m]
    have a9:XL e=⟨p,0,2,e.tick,0,0,true,[],[],false,false⟩:=by unfold XL;rw[aM];rfl
    have bT:=q.ext.size;have:=aL a8 sl ⟨none,0,0⟩ ⟨none,0,0⟩ Q (by rw[aq,a9];exact⟨(aN.ext a7).mod bu (λc g i=>by have:=a3 c g;have:=Ah q.b2;omega),View.nil,View.nil⟩) (λx d=>by
     rcases d with d|d|d
     ·have:=a3 x d;omega
     ·simp[Sl.ai] at d
     ·simp[Sl.ai] at d)
    rw[aq,a9] at this;exact this
  refine AC.mk (q.bM (j:=1) rfl) (ag.intro (λm=>key _ (by simp at m;simp[m])) (λm=>AC.mk (q.bM (j:=0) rfl) (key _ (by simp at m;simp[m]))))
 have F:s.next≠0:=by simpa using F
 refine AC.mk (q.cM (j:=2) rfl) (ag.intro (λm=>?_) (λm=>?_))
 ·have m:s.status≠0:=by simpa using m
  exact q.tell (ap 182 (by unfold Bo;rw[if_neg (by simp[I]),if_neg F,if_pos m]))
 have m:s.status=0:=by simpa using m
 refine AC.mk (q.bM (j:=0) rfl) (AC.mk (q.cM (j:=3) rfl) (ag.intro (λS=>?_) (λS=>?_)))
 ·have S:e.id≠s.next:=by simpa using S
  exact q.tell (ap 120 (by unfold Bo;rw[if_neg (by simp[I]),if_neg F,if_neg (by simp[m]),if_pos S]))
 have S:e.id=s.next:=by simpa using S
 refine AZ.mk (s:=b) (q.cM (j:=8) rfl) (AZ.mk (s:=c) (q.cM (j:=9) rfl) (AMZ ((aK.ext q.ext).aw) (by have:=M.aw;omega) λk aA aP Y aC=>⟨_,rfl,?_⟩));have V:=q.on aC;refine⟨V.cM (j:=9) rfl,ANr ((aK.ext V.ext).al) (by have:=M.al;omega) λl aO aQ Z W=>⟨_,rfl,?_⟩⟩;have a4:=V.on W;have bU:=Ah q.b2;have bV:=aC.size;have bs:=W.size;refine a4.ir (x':=s.V a k c) (by decide) rfl λbW bv ar=>bv.ir (x':=s.V a k l) (by decide) rfl λa5 al X=>?_
 have bX:=ar.size;have bt:=X.size;refine AZ.mk (s:=a) (al.cM (j:=0) rfl) (ANK ((aK.ext al.ext).steps) (by have:=M.steps;omega) λy a8 ba bb Q=>⟨_,rfl,?_⟩);have bw:=al.on Q;refine bw.oT (x':=s.V y k l) rfl λz r ab=>AC.mk (r.bM (j:=1) rfl) ?_
 have T:JK z s y k l:=by have au:=(((aP.view.ext W).mod ar (λx d i=>by have:=Y x d;omega)).mod X (λx d i=>by have:=Y x d;omega));have vc:=((aQ.view.mod ar (λx d i=>by have:=Z x d;omega)).mod X (λx d i=>by have:=Z x d;omega));exact⟨ba.view.mod ab (λx d i=>by have:=bb x d;omega),(au.ext Q).mod ab (λx d i=>by have:=Y x d;omega),(vc.ext Q).mod ab (λx d i=>by have:=Z x d;omega)⟩
 have bx:Own fq Gz z k s.aw:=((((aP.ext W).mod ar (λx d i=>by have:=Y x d;omega)).mod X (λx d i=>by have:=Y x d;omega)).ext Q).mod ab (λx d i=>by have:=Y x d;omega);have bz:Own gg GU z l s.al:=(((aQ.mod ar (λx d i=>by have:=Z x d;omega)).mod X (λx d i=>by have:=Z x d;omega)).ext Q).mod ab (λx d i=>by have:=Z x d;omega);have am: ∀x,k.ai=some x->a0.size<=x/\x<aA.size:=λx d=>⟨Y x d,aP.lt d⟩
 have an: ∀x,l.ai=some x->aA.size<=x/\x<aO.size:=λx d=>⟨Z x d,aQ.lt d⟩
 have aR: ∀x,y.ai=some x->aO.size<=x/\x<z.size:=λx d=>⟨by have:=bb x d;omega,by have:=ba.lt d;have:=ab.size;omega⟩
 have bY:=Q.size;have bZ:=ab.size;have fr: ∀(dX dY:Sl),(∀ x,dX.ai=some x->k.ai=some x\/h.size+3<=x)->(∀ x,dY.ai=some x->l.ai=some x\/h.size+3<=x)-> ∀x,y.ai=some x\/dX.ai=some x\/dY.ai=some x->h.size+3<=x:=λdX dY i g x d=>by
  rcases d with d|d|d
  ·have:=aR x d;omega
  ·rcases i x d with h|h
   ·have:=am x h;omega
   ·omega
  ·rcases g x d with h|h
   ·have:=an x h;omega
   ·omega
 refine aj.mk λaS bA=>?_
 have key: ∀ {o:Option bg} {t:bg} {dX dY:Sl} {B:aa},Pi s e=o.map (λt=> {t with next:=s.next+1})->(∀ t',o=some t'->t=t'/\t'.next=s.next/\j6 B (h.size+3) t' y k l dX dY)->D3 h B Av A8 Av (t.V y dX dY) e bH.z->aS (o.isSome,()) B:=λ{o t dX dY B} bc aT ak=>by
  refine bA _ _ ?_;cases o with
  |none=>
   refine ag.yes rfl (ak.tell (ap 120 ?_));unfold Bo;rw[if_neg (by simp[I]),if_neg F,if_neg (by simp[m]),if_neg (by simp[S]),bc];rfl
  |some t'=>
   obtain⟨rfl,bB,L⟩:=aT t' rfl;have u:=fr dX dY L.fb L.fc;have b0:=M.next;refine ag.no rfl (AC.mk (ak.cM (j:=3) rfl) ?_);rw[wrap_i64 (by show _<=t.next+1;omega) (by show t.next+1<=_;omega)];refine ak.ir (x':=({t with next:=s.next+1}:bg).V y dX dY) (by decide) (by rw[<- bB];rfl) λaD N bC=>N.oU λav bD C=>?_
   have aq:Bo s e=(0,{t with next:=s.next+1}):=by unfold Bo;rw[if_neg (by simp[I]),if_neg F,if_neg (by simp[m]),if_neg (by simp[S]),bc];rfl
   have:=aL av y dX dY bD (by
    rw[aq];have J:=L.at'.mod bC (λx d i=>by have:=u x (.inl d);omega) (λx d i=>by have:=u x (.inr (.inl d));omega) (λx d i=>by have:=u x (.inr (.inr d));omega);have U:=J.mod C (λx d i=>by have:=u x (.inl d);omega) (λx d i=>by have:=u x (.inr (.inl d));omega) (λx d i=>by have:=u x (.inr (.inr d));omega);exact⟨U.steps,U.aw,U.al⟩) (λx d=>by have:=u x d;omega)
   rw[aq] at this;exact this
 refine aj.mk λbd aE=>?_
 have aG:2<=e.kind/\e.kind<=5->bd (true,()) z:=λaH=>by
  refine aE _ _ (ag.yes rfl (r.eV (r.kG (AIY aH λaD aI=>Gl.mk _ ⟨_,rfl,?_⟩))));have N:=r.on aI;refine N.mN λav ac C=>key (o:=Dv s e) (t:=(Dv s e).getD s) (dX:=k) (dY:=l) (by unfold Pi;rw[if_pos aH]) (λt' G=>?_) ac
  rw[G,HI];obtain⟨J,U,aJ,be⟩:=QF G;have aU:=(T.ext aI).mod C (λx d i=>by have:=fr k l (λ_ h=> .inl h) (λ_ h=> .inl h) x (.inl d);omega) (λx d i=>by have:=fr k l (λ_ h=> .inl h) (λ_ h=> .inl h) x (.inr (.inl d));omega) (λx d i=>by have:=fr k l (λ_ h=> .inl h) (λ_ h=> .inl h) x (.inr (.inr d));omega);exact⟨rfl,J.next,⟨by rw[J.prog];exact aU.steps,by rw[U];exact aU.aw,by rw[aJ];exact aU.al⟩,λ_ h=> .inl h,λ_ h=> .inl h⟩
 have bE:e.kind=1\/12<=e.kind->bd (false,()) z:=λaH=>by
  refine aE _ _ (ag.no rfl (aj.mk λaV aw=>?_));have H: ∀ {n:Int},6<=n->n<=11->(e.kind==n)=false:=λ{n} bF bG=>by simp;omega
  refine ag.no (H (by decide) (by decide)) (ag.no (H (by decide) (by decide)) (ag.no (H (by decide) (by decide)) ?_));rw[H (n:=9) (by decide) (by decide)];refine aw _ _ (ag.no rfl (aj.mk λbf aW=>ag.no (H (by decide) (by decide)) ?_));rw[H (n:=11) (by decide) (by decide)];refine aW _ _ (ag.no rfl (r.eV (r.kG (ANH T aH (λ_=>by have:=M.ba;have:=M.aA;omega) λaD t dX dY aI aT=>Gl.mk _ ⟨_,rfl,?_⟩))));have N:=r.on aI;refine N.mN λav ac C=>key (o:=KO s e) (t:=t) (by unfold Pi;rw[if_neg (by omega),if_neg (by omega),if_neg (by omega)]) (λt' G=>?_) ac
  obtain⟨rfl,L⟩:=aT t' G;have ax: ∀x,dX.ai=some x->k.ai=some x\/h.size+3<=x:=λx d=>(L.fb x d).imp id λh=>by omega
  have ay: ∀x,dY.ai=some x->l.ai=some x\/h.size+3<=x:=λx d=>(L.fc x d).imp id λh=>by omega
  have u:=fr dX dY ax ay;exact⟨rfl,(xF G).1.next,L.at'.mod C (λx d i=>by have:=u x (.inl d);omega) (λx d i=>by have:=u x (.inr (.inl d));omega) (λx d i=>by have:=u x (.inr (.inr d));omega),ax,ay⟩
 refine ag.intro (λad=>?_) (λad=>?_)
 ·have b1:e.kind=2:=by simpa using ad
  have ad:(e.kind==(2:Int))=true:=ad;rw[ad];exact aG (by omega)
 refine ag.intro (λae=>?_) (λae=>?_)
 ·have b2:e.kind=3:=by simpa using ae
  have ae:(e.kind==(3:Int))=true:=ae;rw[ae];exact aG (by omega)
 refine ag.intro (λah=>?_) (λah=>?_)
 ·have b3:e.kind=4:=by simpa using ah
  have ah:(e.kind==(4:Int))=true:=ah;rw[ah];exact aG (by omega)
 have ad:e.kind≠2:=by simpa using ad
 have ae:e.kind≠3:=by simpa using ae
 have ah:e.kind≠4:=by simpa using ah
 cases aX:(e.kind==(5:Int)) with
 |true=>
  have:e.kind=5:=by simpa using aX
  exact aG (by omega)
 |false=>
  have aX:e.kind≠5:=by simpa using aX
  by_cases aY:6<=e.kind/\e.kind<=9
  ·have bI: ∀ {B:aa} {t:bg} {dX:Sl},Mod (λx=>k.ai=some x\/z.size<=x) z B->(∀ x,dX.ai=some x->k.ai=some x\/z.size<=x)->(∀ t',Li s e=some t'->t=t'/\View fq B dX t'.aw)->aF B ⟨h.size,0,none⟩ (t.V y dX l).l λm=>aS ((Li s e).isSome,()) m:=λ{B t dX} w f E=>by
    have ai: ∀v,v<h.size+3-> ¬(k.ai=some v\/z.size<=v):=λv bJ h=>by
     rcases h with h|h
     ·have:=am v h;omega
     ·omega
    have N:D3 h B Av A8 Av (s.V y k l) e bH.z:=⟨r.ext.more w λc g=>by
     rcases g with g|g
     ·have:=am c g;omega
     ·omega,w.ai r.b0 (ai _ (by omega)),w.ai r.b1 (ai _ (by omega)),w.ai r.b2 (ai _ (by omega))⟩
    have ax: ∀x,dX.ai=some x->k.ai=some x\/h.size+3<=x:=λx d=>(f x d).imp id λh=>by omega
    refine N.mN λav ac C=>key (o:=Li s e) (t:=t) (by unfold Pi;rw[if_neg (by omega),if_pos aY]) (λt' G=>?_) ac
    obtain⟨rfl,au⟩:=E t' G;obtain⟨J,U,aJ,be⟩:=xG G;have u:=fr dX l ax λ_ h=> .inl h
    have aZ:=T.steps.mod w λx d g=>by
     have:=aR x d;rcases g with g|g
     ·have:=am x g;omega
     ·omega
    have vc:=T.al.mod w λx d g=>by
     have:=an x d;rcases g with g|g
     ·have:=am x g;omega
     ·omega
    exact⟨rfl,J.next,⟨by rw[J.prog];exact aZ.mod C (λx d i=>by have:=u x (.inl d);omega),au.mod C (λx d i=>by have:=u x (.inr (.inl d));omega),by rw[aJ];exact vc.mod C (λx d i=>by have:=u x (.inr (.inr d));omega)⟩,ax,λ_ h=> .inl h⟩
   refine aE _ _ (ag.no rfl (aj.mk λaV aw=>?_));have go:aV (true,()) z:=aw _ _ (ag.yes rfl (r.eV (r.kG (AQ7 T bx (by have:=M.aw;omega) aY (by have:=ANZ I;omega) λaD t dX w f E=>Gl.mk _ ⟨_,rfl,bI w f E⟩))));refine ag.intro (λv=>?_) (λbh=>ag.intro (λv=>?_) (λbi=>ag.intro (λv=>?_) (λbj=>?_)))
   ·rw[v];exact go
   ·rw[v];exact go
   ·rw[v];exact go
   ·have bh:e.kind≠6:=by simpa using bh
    have bi:e.kind≠7:=by simpa using bi
    have bj:e.kind≠8:=by simpa using bj
    have bK:(e.kind==(9:Int))=true:=by simp;omega
    rw[bK];exact go
  ·by_cases g:e.kind=10\/e.kind=11
   ·have bL: ∀ {B:aa} {t:bg} {dY:Sl},Mod (λx=>l.ai=some x\/z.size<=x) z B->(∀ x,dY.ai=some x->l.ai=some x\/z.size<=x)->(∀ t',KA s e=some t'->t=t'/\View gg B dY t'.al)->aF B ⟨h.size,0,none⟩ (t.V y k dY).l λm=>aS ((KA s e).isSome,()) m:=λ{B t dY} w f E=>by
     have ai: ∀v,v<h.size+3-> ¬(l.ai=some v\/z.size<=v):=λv bJ h=>by
      rcases h with h|h
      ·have:=an v h;omega
      ·omega
     have N:D3 h B Av A8 Av (s.V y k l) e bH.z:=⟨r.ext.more w λc g=>by
      rcases g with g|g
      ·have:=an c g;omega
      ·omega,w.ai r.b0 (ai _ (by omega)),w.ai r.b1 (ai _ (by omega)),w.ai r.b2 (ai _ (by omega))⟩
     have ay: ∀x,dY.ai=some x->l.ai=some x\/h.size+3<=x:=λx d=>(f x d).imp id λh=>by omega
     refine N.mN λav ac C=>key (o:=KA s e) (t:=t) (by unfold Pi;rw[if_neg (by omega),if_neg aY,if_pos g]) (λt' G=>?_) ac
     obtain⟨rfl,vc⟩:=E t' G;obtain⟨J,U,aJ,be⟩:=xH G;have u:=fr k dY (λ_ h=> .inl h) ay;have aZ:=T.steps.mod w λx d g=>by
      have:=aR x d;rcases g with g|g
      ·have:=an x g;omega
      ·omega
     have au:=T.aw.mod w λx d g=>by
      have:=am x d;rcases g with g|g
      ·have:=an x g;omega
      ·omega
     exact⟨rfl,J.next,⟨by rw[J.prog];exact aZ.mod C (λx d i=>by have:=u x (.inl d);omega),by rw[U];exact au.mod C (λx d i=>by have:=u x (.inr (.inl d));omega),vc.mod C (λx d i=>by have:=u x (.inr (.inr d));omega)⟩,λ_ h=> .inl h,ay⟩
    have H: ∀ {n:Int},6<=n->n<=9->(e.kind==n)=false:=λ{n} bF bG=>by simp;omega
    refine aE _ _ (ag.no rfl (aj.mk λaV aw=>?_));refine ag.no (H (by decide) (by decide)) (ag.no (H (by decide) (by decide)) (ag.no (H (by decide) (by decide)) ?_));rw[H (n:=9) (by decide) (by decide)];refine aw _ _ (ag.no rfl (aj.mk λbf aW=>?_));have go:bf (true,()) z:=aW _ _ (ag.yes rfl (r.eV (r.kG (AP8 T bz (by have:=M.al;omega) g bo (λx d=>by have:=M.waits x (AJx d);omega) λaD t dY w f E=>Gl.mk _ ⟨_,rfl,bL w f E⟩))));refine ag.intro (λv=>?_) (λbk=>?_)
    ·rw[v];exact go
    ·have bk:e.kind≠10:=by simpa using bk
     have bM:(e.kind==(11:Int))=true:=by simp;omega
     rw[bM];exact go
   ·exact bE (by omega)
end
theorem Oc {n:Int}(a:0<=n)(b:n<=9223372036854775807):J8 .u64 n=((n.toNat:Nat):Int):=by
 have:n=((n.toNat:Nat):Int):=by omega
 rw[this,CF (by omega)];simp
theorem Mt {f:Bool}{n:Int}(a:n<=9223372036854775807):(TH f n).length<=10:=by
 cases f with
 |false=>exact An _
 |true=>exact AV (by omega)
theorem Zx {h:ar}{b:aa}{a:Q6}{f e n:Int}{fl:Bool}{d:List UInt8}{K:A2P×Unit->aa->Prop}(i:(Gd J9 f e != (0:Int))=fl)(j:ah b a=some (J6 J9 n))(k:fl=true->0<=n/\n<=1099511627776)
  (m:d.length<=100000) (g: ∀c,Ext b c->K (AX (d++TH fl n),()) c):
  ag (Gd J9 f e != (0:Int)) (AC J9 b a λt=>AA h P Ay #[.int .u64 (J8 .u64 t)] b λv c=> ∃x:A2P,v=J7 x/\(aI ((((AX d).size+x.size:Nat):Int)<=IntKind.i64.max)<|K ((AX d)++x,()) c)) (K (AX d,()) b):=by
 rw[i];cases fl with
 |false=>
  have:=g b Mod.refl;simp only[TH,Cp,if_false,AK] at this;exact ag.no rfl this
 |true=>
  obtain⟨l,o⟩:=k rfl;refine ag.yes rfl (AC.mk j ?_);rw[Oc l (by omega)];have:=AV (n:=n.toNat) (by omega);refine Cc (by omega) λc x=>⟨_,rfl,⟨by rw[AP,AP,max_i64];omega,?_⟩⟩
  have:=g c x;simp only[TH,if_true] at this;rw[Aj];exact this
theorem rv {f:Bool}{a b c:Int}(d:da f a b c=true)(g:0<=b)(h:c<=1099511627776):f=true->0<=a/\a<=1099511627776:=λe=>by
 subst e;simp only[da,if_true,Ba] at d;omega
def oH(a:Ev):J0:=J1 #[J7 (AX (if Ej a then Nf a else [])),J6 J9 (if Ej a then 0 else 120)]
theorem AK2 {Q:ar}{a:aa}{e:Ev}{k:A2O}(hd:e.data.size<1099511627776)(u: ∀c,Ext a c->k (oH e) c):AA Q P OZ #[oG e] a k:=by
 refine ABA ?_;unfold UJ;refine ao.mk λap _ b v aq=>?_
 refine AC.mk (AO b rfl) (AC.mk (AB b rfl) (AC.mk (AB b rfl) (AC.mk (AB b rfl) (AC.mk (AB b rfl) (AC.mk (AB b rfl) (Ac.mk (AB b rfl) (AJ.mk (AB b rfl) ?_)))))));refine Zp (e:=e) hd λw l=>⟨_,rfl,?_⟩
 cases m:Ej e with
 |false=>
  refine ag.yes rfl ?_;have:=u w (v.trans l);rw[oH,m] at this;exact this
 |true=>
  refine ag.no rfl ?_;have y: ∀c,Ext w c->k (J1 #[J7 (AX (Nf e)),J6 J9 0]) c:=λc x=>by
   have:=u c ((v.trans l).trans x);rw[oH,m] at this;exact this
  have h:=l.ai b (λa=>a);have z:=ME m;simp only[Ed,A4] at z;obtain⟨⟨⟨⟨⟨⟨⟨R,S⟩,T⟩,o⟩,p⟩,q⟩,au⟩,av⟩:=z;have aw:=Ba.1 R;have ax:=Ba.1 S;have ay:=Ba.1 T;obtain⟨U,V,W,X,Y⟩:=rr e.kind;refine AC.mk (AB h rfl) (XJ ⟨_,_,rfl,?_⟩);refine AC.mk (AO h rfl) (AC.mk (n:=e.kind) (AB h rfl) (AC.mk (n:=e.tick) (AB h rfl) ?_));rw[Oc (n:=e.id) (by omega) (by omega)];refine Cc (by omega) λaz A=>⟨_,rfl,?_⟩
  have r:=A.ai h (λa=>a);refine⟨AB r rfl,AB r rfl,?_⟩;rw[Oc (n:=e.kind) (by omega) (by omega)];have aA:=AV (n:=e.id.toNat) (by omega);have aC:=AV (n:=e.kind.toNat) (by omega);have aD:=AV (n:=e.tick.toNat) (by omega);refine Cc (by omega) λaE B=>⟨_,rfl,?_⟩
  have C:=B.ai r (λa=>a);refine⟨AB C rfl,by rw[AP,AP,max_i64];omega,?_⟩;rw[Oc (n:=e.tick) (by omega) (by omega)];refine Cc (by omega) λaF D=>⟨_,rfl,⟨by rw[Aj,AP,AP,max_i64,A1];omega,?_⟩⟩
  have E:=D.ai C (λa=>a);have Z:=(A.trans B).trans D;rw[Aj,Aj];refine aj.mk λK ab=>?_
  have aG:=Mt (f:=cZ e.kind) (n:=e.ref) (by cases i:cZ e.kind<;>rw[i] at o<;>simp[da,bW] at o<;>omega);have aH:=Mt (f:=dr e.kind) (n:=e.step) (by cases i:dr e.kind<;>rw[i] at p<;>simp[da,bW] at p<;>omega);have aI:=Mt (f:=dG e.kind) (n:=e.turn) (by cases i:dG e.kind<;>rw[i] at q<;>simp[da,bW] at q<;>omega);have aJ:=Mt (f:=dV e.kind) (n:=if e.aM then 1 else 0) (by split<;>omega);refine Zx (fl:=cZ e.kind) (n:=e.ref) (by rw[U,Ma (by decide)]) (AB E rfl) (rv o (by decide) (by omega)) (by simp only[A1];omega) λaK F=>ab _ _ ?_
  have G:=F.ai E (λa=>a);refine aj.mk λaL ac=>?_
  refine Zx (fl:=dr e.kind) (n:=e.step) (by rw[V,Ma (by decide)]) (AB G rfl) (rv p (by decide) (by omega)) (by simp only[A1];omega) λaM H=>ac _ _ ?_
  have I:=H.ai G (λa=>a);refine aj.mk λaN ad=>?_
  refine Zx (fl:=dG e.kind) (n:=e.turn) (by rw[W,Ma (by decide)]) (AB I rfl) (rv q (by decide) (by omega)) (by simp only[A1];omega) λs J=>ad _ _ ?_
  have L:=J.ai I (λa=>a);have M:=((Z.trans F).trans H).trans J;refine aj.mk λae af=>?_
  have N: ∀g,Ext s g->ae (AX (((Bc e.id.toNat++Bc e.kind.toNat++Bc e.tick.toNat++TH (cZ e.kind) e.ref)++TH (dr e.kind) e.step++TH (dG e.kind) e.turn)++TH (dV e.kind) (if e.aM then 1 else 0)),()) g:=λg j=>by
   refine af _ _ ?_;have ah:=j.ai L (λa=>a);refine aj.mk λaO O=>?_
   rw[Y,Ma (by decide)];refine ag.intro (λd=>?_) (λd=>?_)
   ·refine AJ.mk (AB ah rfl) (KR (by omega) λai ak=>⟨_,rfl,⟨?_,O _ _ ?_⟩⟩)
    ·have:=AV (n:=(bl e.data).length) (by rw[A7];omega);rw[AP,AP,max_i64];simp only[BR,A1,A7] at this ⊢;omega
    ·have:=y ai ((M.trans j).trans ak);dsimp only;rw[Aj];simp only[Nf,gU,d,if_true] at this;simp only[A3] at this ⊢;exact this
   ·refine O _ _ ?_;have:=y g (M.trans j);simp only[Nf,gU,d,Cp,if_false,AK] at this;simp only[A3] at this ⊢;exact this
  rw[X,Ma (by decide)];refine ag.intro (λd=>?_) (λd=>?_)
  ·refine aj.mk λal am=>Ac.mk (AB L rfl) ?_
   have go: ∀n:Nat,n<=1->(n:Int)=(if e.aM then 1 else 0)->al ((n:Int),()) s:=λn aP an=>by
    refine am _ _ ?_;have:=AV (n:=n) (by omega);refine Cc (by omega) λg j=>⟨_,rfl,⟨?_,?_⟩⟩
    ·dsimp only;rw[AP,AP,max_i64];simp only[A1];omega
    ·have:=N g j;rw[<- an] at this;simp only[TH,d,if_true,A6] at this;dsimp only;rw[Aj];exact this
   refine ag.intro (λt=>go 1 (by omega) (by rw[t];rfl)) (λt=>go 0 (by omega) (by rw[t];rfl))
  ·have:=N s Mod.refl;simp only[TH,d,Cp,if_false,AK] at this;exact this
theorem NH(f:Bool)(m:Nat)(a:Rd):(Ei f m a).2.rest.length<=a.rest.length:=by
 cases f with
 |false=>exact A0 _
 |true=>exact II m a
theorem AQK(f:Bool)(a:Rd):(Tn f a).2.rest.length<=a.rest.length/\(Tn f a).1.length<=a.rest.length:=by
 cases f with
 |false=>exact⟨A0 _,An _⟩
 |true=>exact VF a
theorem AOP(b:kg)(c:Rd):(P7 b c).2.rest.length<=c.rest.length/\(P7 b c).1.data.size<=c.rest.length:=by
 simp only[P7,AP];have d:=II b.id c;have e:=II b.kind (CQ b.id c).2;have f:=II b.tick (CQ b.kind (CQ b.id c).2).2;generalize CQ b.tick (CQ b.kind (CQ b.id c).2).2=t at*
 generalize ((CQ b.kind (CQ b.id c).2).1:Int)=a at*
 have g:=NH (cZ a) b.ref t.2;have h:=NH (dr a) b.step (Ei (cZ a) b.ref t.2).2;have i:=NH (dG a) b.turn (Ei (dr a) b.step (Ei (cZ a) b.ref t.2).2).2;have j:=NH (dV a) 1 (Ei (dG a) b.turn (Ei (dr a) b.step (Ei (cZ a) b.ref t.2).2).2).2;have k:=AQK (eg a) (Ei (dV a) 1 (Ei (dG a) b.turn (Ei (dr a) b.step (Ei (cZ a) b.ref t.2).2).2).2).2;omega
theorem ry {w:ar}{a:aa}{b d g:Nat}{f l:Int}{m:Nat}{fl:Bool}{h:Rd}{e:Array J0}{T:Q7}{K:Unit->aa->Prop}(x:(Gd J9 f l != (0:Int))=fl)(n:Ib a b h)(y:h.rest.length<=1099511627776)
  (z:m<=9223372036854775807) (o:a[d]? =some (J2 e T (0,0))) (A:g<e.size) (B:e.setIfInBounds g (J6 J9 0)=e) (p:b≠d)
  (q: ∀i,Ib i b (Ei fl m h).2->i[d]? =some (J2 (e.setIfInBounds g (J6 J9 ((Ei fl m h).1:Int))) T (0,0))->Mod (λc=>c=b\/c=d) a i->K () i):
  ag (Gd J9 f l != (0:Int)) (AA w P Ab #[Aq b,J6 J9 (m:Int)] a λv r=> ∃t:Int,v=J6 J9 t/\(af r ((⟨d,0,none⟩:Q6).add g) (J6 J9 t) λj=>K () j)) (K () a):=by
 rw[x];cases fl with
 |false=>exact ag.no rfl (q a n (by simp only[Ei,Cp,if_false];rw[show(((0:Nat):Int))=(0:Int) from rfl,B];exact o) Mod.refl)
 |true=>
  refine ag.yes rfl (DN n y z λr C s=>⟨_,rfl,?_⟩);refine af.dt (s.ai o p.symm) A λj D u E=>?_
  exact q j (u.ai C p) D ((s.ak λc _ k=> .inl k).trans (u.ak λc _ k=> .inr k))
abbrev yt(i b t a s c:Int)(u:Bool)(d:A2P):Array J0:= #[J6 J9 i,J6 J9 b,J6 J9 t,J6 J9 a,J6 J9 s,J6 J9 c,J3 u,J7 d]
theorem APJ {au:ar}{b:aa}{e:Nat}{d:Rd}{M:A2O}(N:Ib b e d)(bb:d.rest.length<1099511627776)
  (O: ∀E,Ib E e (P7 fH d).2->Mod (· =e) b E->M (oG (P7 fH d).1) E):AA au P Rm #[Aq e] b M:=by
 refine AEG ?_;unfold Yk;have bc:=Ah N;refine ao.mk λy _ Q z av=>?_
 have R:=z.ai N (λb=>b);have bd:CQ 500 d=CQ fH.id d:=rfl;have be:=II 500 d;have bf:=II 18 (CQ 500 d).2;have bg:=II 1099511627776 (CQ 18 (CQ 500 d).2).2;refine DN (most:=500) R (by omega) (by decide) λbh S A=>⟨_,rfl,?_⟩
 refine DN (most:=18) S (by omega) (by decide) λbi T U=>⟨_,rfl,?_⟩
 refine DN (most:=1099511627776) T (by omega) (by decide) λu F V=>⟨_,rfl,?_⟩
 have n:=(A.trans U).trans V;have W:=n.ai Q (by omega);have aw:y.size<=u.size:=n.size;refine ao.mk λbj _ X B ax=>af.eight X λay Y C az=>?_
 have o:e≠u.size:=by have:=Ah F;omega
 have aA:b.size≠u.size:=by omega
 have aC:=C.ai (B.ai F (λb=>b)) o;have aD:=C.ai (B.ai W (λb=>b)) aA;have aE:Mod (· =e) b ay:=by have l:Mod (· =e) b u:=z.mod.trans n;exact l.then ((B.mod.trans C).ak λc _ g=> .inr (by have:=n.size;have:=z.size;omega))
 refine AC.mk (AB Y rfl) (XJ ⟨_,_,rfl,?_⟩);obtain⟨aF,aG,aH,aI,aJ⟩:=rr ((CQ 18 (CQ 500 d).2).1:Int);have bk:b.size<=u.size:=by omega
 have bm:b.size<=b.size:=A0 _;have bn:P7 fH d=P7 fH d:=rfl;generalize aK:((CQ 18 (CQ 500 d).2).1:Int)=a at*
 generalize aL:CQ 1099511627776 (CQ 18 (CQ 500 d).2).2=t at*
 generalize aM:((CQ 500 d).1:Int)=i at*
 have aN:P7 fH d=(⟨i,a,t.1,(Ei (cZ a) 500 t.2).1,(Ei (dr a) 15 (Ei (cZ a) 500 t.2).2).1,(Ei (dG a) 5 (Ei (dr a) 15 (Ei (cZ a) 500 t.2).2).2).1,
   decide ((Ei (dV a) 1 (Ei (dG a) 5 (Ei (dr a) 15 (Ei (cZ a) 500 t.2).2).2).2).1=1),AX (Tn (eg a) (Ei (dV a) 1 (Ei (dG a) 5 (Ei (dr a) 15 (Ei (cZ a) 500 t.2).2).2).2).2).1⟩,
   (Tn (eg a) (Ei (dV a) 1 (Ei (dG a) 5 (Ei (dr a) 15 (Ei (cZ a) 500 t.2).2).2).2).2).2):=by
  simp only[P7,<-aK,<-aL,<-aM];rfl
 have bo:=NH (cZ a) 500 t.2;have bp:=NH (dr a) 15 (Ei (cZ a) 500 t.2).2;have bq:=NH (dG a) 5 (Ei (dr a) 15 (Ei (cZ a) 500 t.2).2).2;have br:=NH (dV a) 1 (Ei (dG a) 5 (Ei (dr a) 15 (Ei (cZ a) 500 t.2).2).2).2;rw[aN] at O;generalize u.size=v at*
 generalize aO:Ei (cZ a) 500 t.2=G at*
 generalize aP:Ei (dr a) 15 G.2=os at*
 generalize aQ:Ei (dG a) 5 os.2=s at*
 generalize Z:Ei (dV a) 1 s.2=f at*
 clear Q W X R S T F z B A U V n C av aw ax az;have up: ∀ {ab ac:aa},Mod (· =e) b ab->Mod (λc=>c=e\/c=v) ab ac->Mod (· =e) b ac:=λaR A=>aR.then (A.ak λc _ g=>g.elim .inl λbs=> .inr (by omega))
 refine aj.mk λK aS=>?_
 refine ry (m:=500) (fl:=cZ a) (by rw[aF,Ma (by decide)]) aC (by omega) (by decide) Y (by simp) rfl o λbt ad ae n=>aS _ _ ?_
 rw[aO] at ad ae;have aT:=n.ai aD (by omega);have aU:=up aE n;refine aj.mk λbu aV=>?_
 refine ry (m:=15) (fl:=dr a) (by rw[aG,Ma (by decide)]) ad (by omega) (by decide) ae (by simp) rfl o λbv ah ai ak=>aV _ _ ?_
 rw[aP] at ah ai;have aW:=ak.ai aT (by omega);have aX:=up aU ak;refine aj.mk λbw aY=>?_
 refine ry (m:=5) (fl:=dG a) (by rw[aH,Ma (by decide)]) ah (by omega) (by decide) ai (by simp) rfl o λal H I am=>aY _ _ ?_
 rw[aQ] at H I;have aZ:=am.ai aW (by omega);have a0:=up aX am;refine aj.mk λa1 a2=>?_
 have an: ∀p,Ib p e f.2->p[v]? =some (J2 (yt i a t.1 G.1 os.1 s.1 (decide (f.1=1)) Ho) A8 (0,0))->Mod (λc=>c=e\/c=v) al p->a1 () p:=λp D ap w=>by
  refine a2 _ _ ?_;have a3:=w.ai aZ (by omega);have a4:=up a0 w;refine aj.mk λa5 a6=>?_
  have aq: ∀q,Ib q e (Tn (eg a) f.2).2->q[v]? =some (J2 (yt i a t.1 G.1 os.1 s.1 (decide (f.1=1)) (AX (Tn (eg a) f.2).1)) A8 (0,0))->Mod (λc=>c=e\/c=v) p q->a5 () q:=λq J h r=>by
   refine a6 _ _ ?_;have a7:=r.ai a3 (by omega);have a8:=up a4 r;refine AC.mk (AO h rfl) (AC.mk (AB h rfl) (AC.mk (AB h rfl) (AC.mk (AB h rfl) (AC.mk (AB h rfl) (AC.mk (AB h rfl) (Ac.mk (AB h rfl) (AJ.mk (AB h rfl) ?_)))))));refine af.eight a7 λL k x a9=>?_
   refine AC.mk (AO k rfl) (AC.mk (AB k rfl) (AC.mk (AB k rfl) (AC.mk (AB k rfl) (AC.mk (AB k rfl) (AC.mk (AB k rfl) (Ac.mk (AB k rfl) (AJ.mk (AB k rfl) ?_)))))));exact O L (x.ai J (by omega)) (a8.then (x.ak λc _ g=> .inr (by omega)))
  rw[aJ,Ma (by decide)];refine ag.intro (λl=>?_) (λl=>?_)
  ·refine G7 D (by omega) λq J r=>⟨_,rfl,?_⟩
   refine af.dt (r.ai ap o.symm) (by simp) λL k x a9=>?_
   have j:Tn (eg a) f.2=GV f.2:=by simp only[Tn,l,if_true]
   refine aq L (by rw[j];exact x.ai J o) (by rw[j];exact k) ((r.ak λc _ g=> .inl g).trans (x.ak λc _ g=> .inr g))
  ·have j:Tn (eg a) f.2=([],f.2):=by simp only[Tn,l,Cp,if_false]
   exact aq p (by rw[j];exact D) (by rw[j];exact ap) Mod.refl
 rw[aI,Ma (by decide)];refine ag.intro (λl=>?_) (λl=>?_)
 ·have j:f=CQ 1 s.2:=by rw[<- Z];simp only[Ei,l,if_true]
  refine DN (most:=1) H (by omega) (by decide) λp D w=>⟨_,rfl,?_⟩
  refine af.dt (w.ai I o.symm) (by simp) λq h r bx=>?_
  have ba:((((CQ 1 s.2).1:Nat):Int)==(1:Int))=decide (f.1=1):=by
   rw[j];by_cases y:(CQ 1 s.2).1=1
   ·rw[y];rfl
   ·rw[decide_eq_false y,beq_eq_false_iff_ne];omega
  rw[ba] at h;refine an q (by rw[j];exact r.ai D o) h ((w.ak λc _ g=> .inl g).trans (r.ak λc _ g=> .inr g))
 ·have j:f=(0,s.2):=by rw[<- Z];simp only[Ei,l,Cp,if_false]
  exact an al (by rw[j];exact H) (by rw[j];exact I) Mod.refl
def evZ:Ev:=⟨0,0,0,0,0,0,false,Ho⟩
def ATt(a:Option Ev):J0:=J1 #[oG (a.getD evZ),J6 J9 (if a.isSome then 0 else 60)]
theorem AKX {F:ar}{b:aa}{l:List UInt8}{r:A2O}(G:l.length<1099511627776)(s: ∀t,Ext b t->r (ATt (kh l)) t):AA F P Ov #[J7 (AX l)] b r:=by
 refine ABM ?_;unfold UF;refine ao.mk λU _ H u V=>?_
 refine Jo λW v w=>⟨_,rfl,?_⟩
 have X:=Ah v;refine APJ v G λI J j=>⟨_,_,_,_,_,_,_,_,rfl,?_⟩
 have L:=j.ai (w.ai H (λb=>b)) (by omega);have y:Ext b I:=(u.trans w).more j λc h=>by subst h;exact u.size
 have M:=AOP fH ⟨l,false⟩;refine ao.mk λY _ N k Z=>af.eight N λm d n ab=>?_
 have ac:=j.size;have z:Ext b m:=(y.trans k).more n λc h=>by subst h;exact y.size
 have A:=n.ai (k.ai L (λb=>b)) (by omega);have O:=n.ai (k.ai J (λb=>b)) (by omega);refine aj.mk λK B=>?_
 refine MS O ⟨_,rfl,?_⟩;have o:kh l=if Yb (P7 fH ⟨l,false⟩).2&&Ej (P7 fH ⟨l,false⟩).1 then some (P7 fH ⟨l,false⟩).1 else none:=rfl;generalize (P7 fH ⟨l,false⟩).2=C at*
 generalize (P7 fH ⟨l,false⟩).1=e at*
 have D:kh l=none-> ∀p,Ext m p->K (true,()) p:=λQ p x=>by
  refine B _ _ (ag.yes rfl ?_);refine af.eight (x.ai A (λb=>b)) λq a R ad=>?_
  refine AC.mk (AO a rfl) (AC.mk (AB a rfl) (AC.mk (AB a rfl) (AC.mk (AB a rfl) (AC.mk (AB a rfl) (AC.mk (AB a rfl) (Ac.mk (AB a rfl) (AJ.mk (AB a rfl) ?_)))))));have:=s q ((z.trans x).more R λc h=>by omega);rw[Q] at this;exact this
 refine ag.intro (λg=>?_) (λg=>?_)
 ·have g:Yb C=false:=by simpa using g
  exact D (by rw[o,g];rfl) m Mod.refl
 ·have g:Yb C=true:=by simpa using g
  refine AC.mk (AO d rfl) (AC.mk (AB d rfl) (AC.mk (AB d rfl) (AC.mk (AB d rfl) (AC.mk (AB d rfl) (AC.mk (AB d rfl) (Ac.mk (AB d rfl) (AJ.mk (AB d rfl) ?_)))))));refine Zp (e:=e) (by simp only at M;omega) λq i=>⟨_,rfl,?_⟩
  cases E:Ej e with
  |false=>exact D (by rw[o,E,OF];rfl) q i
  |true=>
   refine B _ _ (ag.no rfl ?_);have a:=i.ai d (λb=>b);refine AC.mk (AO a rfl) (AC.mk (AB a rfl) (AC.mk (AB a rfl) (AC.mk (AB a rfl) (AC.mk (AB a rfl) (AC.mk (AB a rfl) (Ac.mk (AB a rfl) (AJ.mk (AB a rfl) ?_)))))));refine af.eight (i.ai A (λb=>b)) λS f T ae=>?_
   refine AC.mk (AO f rfl) (AC.mk (AB f rfl) (AC.mk (AB f rfl) (AC.mk (AB f rfl) (AC.mk (AB f rfl) (AC.mk (AB f rfl) (Ac.mk (AB f rfl) (AJ.mk (AB f rfl) ?_)))))));have:=s S ((z.trans i).more T λc h=>by omega);rw[o,g,E] at this;exact this
theorem mD:QE P Bb A8 dU.w 72=true:=by kernel_rfl
theorem yu {a:Ev}(h:Ed a=true)(hd:a.data.size<18446744073709551616):(Nf a).length<=100+a.data.size:=by
 have c:=h;simp only[Ed,A4] at c;obtain⟨⟨⟨⟨⟨⟨⟨i,j⟩,k⟩,d⟩,e⟩,g⟩,l⟩,m⟩:=c;have o:=Ba.1 i;have p:=Ba.1 j;have q:=Ba.1 k;have r:=AV (n:=a.id.toNat) (by omega);have s:=AV (n:=a.kind.toNat) (by omega);have t:=AV (n:=a.tick.toNat) (by omega);have u:=Mt (f:=cZ a.kind) (n:=a.ref) (by cases b:cZ a.kind<;>rw[b] at d<;>simp[da,bW] at d<;>omega);have v:=Mt (f:=dr a.kind) (n:=a.step) (by cases b:dr a.kind<;>rw[b] at e<;>simp[da,bW] at e<;>omega);have w:=Mt (f:=dG a.kind) (n:=a.turn) (by cases b:dG a.kind<;>rw[b] at g<;>simp[da,bW] at g<;>omega);have x:=Mt (f:=dV a.kind) (n:=if a.aM then 1 else 0) (by split<;>omega);have y:(gU (eg a.kind) a.data).length<=10+a.data.size:=by
  cases b:eg a.kind with
  |false=>simp[gU]
  |true=>
   simp only[gU,if_true,BR,A1,A7];have:=AV hd;omega
 simp only[Nf,A1];omega
end Go.Lf.G
namespace Go.Lf
open Go
def TR(a:Int)(v:J0):List (Int×J0)->List (Int×J0)
 | []=> [(a,v)]
 |p::m=>if p.1=a then(a,v)::m else p::TR a v m
def Lm(a:Int)(m:List (Int×J0)):Option J0:=(m.find? λp=>decide (p.1=a)).map (·.2)
def ij(a:Int)(m:List (Int×J0)):List (Int×J0):=m.filter λp=> !decide (p.1=a)
theorem Gb(a:Int)(p:Int×J0)(m:List (Int×J0)):Lm a (p::m)=if p.1=a then some p.2 else Lm a m:=by unfold Lm;rw[DE];by_cases b:p.1=a<;>simp[b]
theorem Zf(a:Int)(v:J0)(c:Int): ∀m,Lm c (TR a v m)=if a=c then some v else Lm c m
 | []=>by unfold TR;rw[Gb]
 |p::m=>by
  unfold TR;split
  ·rename_i d;rw[Gb,Gb];by_cases b:a=c<;>simp[d,b]
  ·rename_i d;rw[Gb,Gb,Zf a v c m];by_cases b:a=c
   ·subst b;simp[d]
   ·simp[b]
structure Wm (kd:IntKind) (es:Array MapEntry) (clock:Nat) (m:List (Int×J0)):Prop where
 same:es.toList.map (λe=>(e.key,e.val))=m.map λp=>(Value.int kd p.1,p.2)
 stamped:MapKept.Stamped es clock
 size:es.size<=maxLen
def TK(kd:IntKind)(d:aa)(b:Nat)(m:List (Int×J0)):Prop:= ∃a c,d[b]? =some (.map a c)/\Wm kd a c m
theorem TK.mod {kd:IntKind}{a c:aa}{b:Nat}{m:List (Int×J0)}{d:Nat->Prop}(M:TK kd a b m)(x:Mod d a c)(e: ¬d b):TK kd c b m:=by obtain⟨f,g,h,i⟩:=M;exact⟨f,g,x.ai h e,i⟩
theorem TK.lt {kd:IntKind}{a:aa}{b:Nat}{m:List (Int×J0)}(M:TK kd a b m):b<a.size:=by obtain⟨d,e,c,f⟩:=M;exact Ah c
theorem TK.empty {kd:IntKind}{a:aa}{b c:Nat}(d:a[b]? =some (.map #[] c)):TK kd a b []:=⟨#[],c,d,rfl,MapKept.stamped_empty c,by simp⟩
theorem Wm.len {kd:IntKind}{a:Array MapEntry}{b:Nat}{m:List (Int×J0)}(M:Wm kd a b m):a.size=m.length:=by rw[<- DQ];have:=congrArg List.length M.same;simpa using this
theorem Wm.keysOf {kd:IntKind}{a:Array MapEntry}{b:Nat}{m:List (Int×J0)}(M:Wm kd a b m):a.toList.map (·.key)=m.map λp=>Value.int kd p.1:=by have:=congrArg (List.map Prod.fst) M.same;simpa [AT,FA] using this
theorem Wm.nodup {kd:IntKind}{b:Array MapEntry}{c:Nat}{m:List (Int×J0)}(M:Wm kd b c m):(m.map (·.1)).Nodup:=by
 have a:=M.stamped.2.2;rw[M.keysOf] at a;have d:(m.map λp=>Value.int kd p.1)=(m.map (·.1)).map (Value.int kd):=by simp
 rw[d] at a;exact(List.pairwise_map.1 a).imp λe f=>e (by rw[f])
theorem Od {kd:IntKind}(a:Int)(v:J0): ∀(c:List MapEntry) (m:List (Int×J0)) (i:Nat),(c.map λe=>(e.key,e.val))=(m.map λp=>(Value.int kd p.1,p.2))->
  (Instr.findNow (.int kd) (.int kd a) c i=some none/\Lm a m=none/\TR a v m=m++ [(a,v)]/\ij a m=m/\ ∀e∈c,e.key≠ .int kd a)\/
  ∃d u,Instr.findNow (.int kd) (.int kd a) c i=some (some (i+d,u))/\Lm a m=some u/\(∃ e,c[d]? =some e/\e.key= .int kd a)/\((c.modify d λe=> {e with key:= .int kd a,val:=v}).map λe=>(e.key,e.val))=(TR a v m).map (λp=>(Value.int kd p.1,p.2))/\
   ((m.map (·.1)).Nodup->((c.eraseIdx d).map λe=>(e.key,e.val))=(ij a m).map λp=>(Value.int kd p.1,p.2))
 | [],[],i,_=> .inl ⟨rfl,rfl,rfl,rfl,by simp⟩
 | [],_::_,_,h=>by simp at h
 |_::_,[],_,h=>by simp at h
 |e::c,p::m,i,h=>by
  simp only[B9,G3,LO] at h;obtain⟨⟨j,l⟩,n⟩:=h;have o:Instr.sameNow (.int kd) (.int kd a) e.key=some (decide (a=p.1)):=by rw[j];show(if kd=kd then some (a==p.1) else none)=_;rw[if_pos rfl];congr 1
  by_cases b:p.1=a
  ·refine .inr ⟨0,e.val,?_,?_,⟨e,rfl,by rw[j,b]⟩,?_,?_⟩
   ·unfold Instr.findNow;rw[o,decide_eq_true b.symm];rfl
   ·rw[Gb,if_pos b,l]
   ·unfold TR;rw[if_pos b];simp[n]
   ·intro g;have g:=List.nodup_cons.1 g;simp only[List.eraseIdx_zero,List.tail_cons];rw[n];congr 1;unfold ij;rw[AS];simp only[b,decide_true,Lq,Cp,if_false];refine(List.filter_eq_self.2 λC w=>?_).symm;simp only[CI,decide_eq_false_iff_not];rintro rfl;exact g.1 (by show p.1∈_;rw[b];exact IN (f:=Prod.fst) w)
  ·rcases Od a v c m (i+1) n with⟨q,r,s,k,y⟩|⟨d,u,q,r,⟨z,s,A⟩,B,k⟩
   ·refine .inl ⟨?_,?_,?_,?_,?_⟩
    ·unfold Instr.findNow;rw[o,decide_eq_false (λe=>b e.symm)];exact q
    ·rw[Gb,if_neg b];exact r
    ·unfold TR;rw[if_neg b,s];rfl
    ·unfold ij at k ⊢;rw[AS];simp[b];simpa using k
    ·intro x t;rcases List.mem_cons.1 t with rfl|t
     ·rw[j];intro e;injection e with _ e;exact b e
     ·exact y x t
   ·refine .inr ⟨d+1,u,?_,?_,⟨z,by simpa using s,A⟩,?_,?_⟩
    ·unfold Instr.findNow;rw[o,decide_eq_false (λe=>b e.symm)];rw[show i+(d+1)=i+1+d by omega];exact q
    ·rw[Gb,if_neg b];exact r
    ·unfold TR;rw[if_neg b];simp[j,l,B]
    ·intro g;have g:=List.nodup_cons.1 g;have:=k g.2;unfold ij at this ⊢;rw[AS];simp[b,j,l];simpa using this
section
variable {P : Q1} {kd : IntKind}
theorem GH {a:Q7}(c:P.underlying a=some (.int kd))(d:Bool)(e:Nat)(f:Int)(b:World):(Instr.checkKey d (e+1) a (.int kd f)).run P b= .ok () b:=by simp[Instr.checkKey,BM c]
theorem MI {g:ar}{t h i:Q7}{z:J0}(j:P.underlying t=some (.map h i))(c:P.underlying h=some (.int kd))(n:(zeroValue i).calc P=some z){a:aa}{b:Nat}{m:List (Int×J0)}{d:Int}{K:A2O}
  (M:TK kd a b m) (o:K ((Lm d m).getD z) a):BI g P (Instr.lookup t (.map (some b)) (.int kd d) false) a K:=by
 intro k;refine⟨_,a,k,?_,o⟩;obtain⟨p,v,q,s⟩:=M;have l:=MapKept.run_getObj_map (P:=P) (w:=g.at a k) (r:=b) q;rcases Od d z p.toList m 0 s.same with⟨e,f,_⟩|⟨x,u,e,f,_,_⟩
 ·simp[Instr.lookup,BM j,l,GH c,Instr.findKey,BM c,e,f,Result.andThen,Df n]
 ·simp[Instr.lookup,BM j,l,GH c,Instr.findKey,BM c,e,f,Result.andThen]
theorem AKN {g:ar}{t q G:Q7}(s:P.underlying t=some (.map q G))(h:P.underlying q=some (.int kd)){a:aa}{b:Nat}{m:List (Int×J0)}{d:Int}{v:J0}{K:aa->Prop}
  (M:TK kd a b m) (O:m.length<maxLen) (y: ∀i,TK kd i b (TR d v m)->Mod (λc=>c=b) a i->i.size=a.size->K i):gq g P (Instr.mapUpdate t (.map (some b)) (.int kd d) v) a K:=by
 intro f;obtain⟨j,l,n,e⟩:=M;have z:=Ah n;have A:=MapKept.run_getObj_map (P:=P) (w:=g.at a f) (r:=b) n;have B: ∀k,(setObj b k).run P (g.at a f)= .ok () (g.at (a.setIfInBounds b k) f):=λk=>MapKept.run_setObj_map (P:=P) (w:=g.at a f) k n
 have Q:=e.len;rcases Od d v j.toList m 0 e.same with⟨o,H,p,_,I⟩|⟨C,u,o,H,⟨J,p,D⟩,L,_⟩
 ·refine⟨a.setIfInBounds b (.map (j.push {key:= .int kd d,val:=v,born:=l}) (l+1)),f,?_,y _ ⟨_,_,Cb z,?_,MapKept.stamped_push e.stamped I,by simp;omega⟩ (Mod.setObj rfl) (by simp)⟩
  ·simp[Instr.mapUpdate,BM s,A,GH h,Instr.findKey,BM h,o,Result.andThen,B]
  ·rw[p];simp[e.same]
 ·have E:j[C]? =some J:=by simpa using p
  refine⟨a.setIfInBounds b (.map (j.modify C λe=> {e with key:= .int kd d,val:=v}) l),f,?_,y _ ⟨_,_,Cb z,?_,MapKept.stamped_modify e.stamped _ _ (λ_ _=>rfl) (λx _ F=>?_),by simpa using e.size⟩ (Mod.setObj rfl) (by simp)⟩
  ·have N: ∀w,(Instr.keyThatStays (.int kd d) (.int kd d)).run P w= .ok (.int kd d) w:=λw=>by
    simp[Instr.keyThatStays,Instr.sameBits]
   simp[Instr.mapUpdate,BM s,A,GH h,Instr.findKey,BM h,o,E,D,N,Result.andThen,B]
  ·rw[Hn];exact L
  ·rw[E] at F;cases F;exact D.symm
theorem AKE {g:ar}{t k B C:Q7}(s:P.underlying t=some (.map k B))(h:P.underlying k=some (.int kd)){a:aa}{b:Nat}{m:List (Int×J0)}{l:Int}{K:A2O}
  (M:TK kd a b m) (v: ∀i,TK kd i b (ij l m)->Mod (λc=>c=b) a i->i.size=a.size->K (J1 #[]) i):BI g P (Builtin.delete_ #[t,k] C #[.map (some b),.int kd l]) a K:=by
 intro e;obtain⟨f,x,n,d⟩:=M;have y:=Ah n;have z:=MapKept.run_getObj_map (P:=P) (w:=g.at a e) (r:=b) n;have A: ∀j,(setObj b j).run P (g.at a e)= .ok () (g.at (a.setIfInBounds b j) e):=λj=>MapKept.run_setObj_map (P:=P) (w:=g.at a e) j n
 rcases Od l (J3 true) f.toList m 0 d.same with⟨o,D,_,p,_⟩|⟨q,u,o,D,⟨E,F,I⟩,_,p⟩
 ·refine⟨_,a.setIfInBounds b (.map f x),e,?_,v _ ⟨_,_,Cb y,by rw[p];exact d.same,d.stamped,d.size⟩ (Mod.setObj rfl) (by simp)⟩;simp[Builtin.delete_,BM s,z,GH h,Instr.findKey,BM h,o,Result.andThen,A]
 ·have G:f[q]? =some E:=by simpa using F
  refine⟨_,a.setIfInBounds b (.map (f.eraseIdxIfInBounds q) x),e,?_,v _ ⟨_,_,Cb y,?_,MapKept.stamped_erase d.stamped _,?_⟩ (Mod.setObj rfl) (by simp)⟩
  ·simp[Builtin.delete_,BM s,z,GH h,Instr.findKey,BM h,o,Result.andThen,A]
  ·have H:=(Array.getElem?_eq_some_iff.1 G).1;rw[Array.eraseIdxIfInBounds,dif_pos H,A0i];exact p d.nodup
  ·have:(f.eraseIdxIfInBounds q).size<=f.size:=by unfold Array.eraseIdxIfInBounds;split<;>simp
   have:=d.size;omega
end
theorem wZ(b c:Int): ∀m:List (Int×J0),Lm c (ij b m)=if b=c then none else Lm c m
 | []=>by simp[Lm,ij]
 |p::m=>by
  have e:=wZ b c m;unfold ij at e ⊢;rw[AS,Gb];by_cases d:p.1=b
  ·rw[if_neg (by simp[d]),e];by_cases a:b=c
   ·rw[if_pos a,if_pos a]
   ·rw[if_neg a,if_neg a,if_neg (λf=>a (d.symm.trans f))]
  ·rw[if_pos (by simp[d]),Gb,e];by_cases a:p.1=c
   ·rw[if_pos a,if_pos a,if_neg (λf=>d (a.trans f.symm))]
   ·rw[if_neg a,if_neg a]
theorem APj {a:Int}{m:List (Int×J0)}:(ij a m).length<=m.length:=A0s _ _
theorem Xu {k:Int}{v:J0}: ∀ {m:List (Int×J0)},(TR k v m).length<=m.length+1
 | []=>by simp[TR]
 |p::m=>by
  unfold TR;split
  ·simp
  ·have:=Xu (k:=k) (v:=v) (m:=m);simp only[A5];omega
section
variable {P : Q1} {kd : IntKind}
theorem xf {i:ar}{t O Q:Q7}{z:J0}(R:P.underlying t=some (.map O Q))(A:P.underlying O=some (.int kd))(Y:(zeroValue Q).calc P=some z){f:aa}{b:Nat}{m:List (Int×J0)}{g:Int}{v:J0}{K:aa->Prop}
  (M:TK kd f b m) (ak:m.length<maxLen) (S: ∀B,TK kd B b (TR g v m)->Mod (λc=>c=b) f B->B.size=f.size->K B):
  BI i P (Instr.mapEntry t (.map (some b)) (.int kd g)) f λw n=> ∃x u:J0,w=J1 #[x,u]/\ ∃st:Int,u=J6 J9 st/\(gq i P (Instr.entryStore t (.map (some b)) (J6 J9 st) v) n λZ=>K Z):=by
 intro y;obtain⟨e,d,E,h⟩:=M;have T:=Ah E;have U:=MapKept.run_getObj_map (P:=P) (w:=i.at f y) (r:=b) E;have V: ∀k,(setObj b k).run P (i.at f y)= .ok () (i.at (f.setIfInBounds b k) y):=λk=>MapKept.run_setObj_map (P:=P) (w:=i.at f y) k E
 have al:=h.len;obtain⟨ab,W,_⟩:=h.stamped;rcases Od g v e.toList m 0 h.same with⟨F,ac,p,_,ad⟩|⟨j,u,F,ac,⟨q,p,C⟩,ae,_⟩
 ·refine⟨J1 #[z,goInt d],f.setIfInBounds b (.map (e.push ⟨.int kd g,z,d⟩) (d+1)),y,?_,z,goInt d,rfl,(d:Int),rfl,λo=>?_⟩
  ·simp[Instr.mapEntry,BM R,U,GH A,Instr.findKey,BM A,F,Result.andThen,Df Y,V]
  have s:(f.setIfInBounds b (.map (e.push ⟨.int kd g,z,d⟩) (d+1)))[b]? =some (.map (e.push ⟨.int kd g,z,d⟩) (d+1)):=Cb T;have G:Mod (λc=>c=b) f (f.setIfInBounds b (.map (e.push ⟨.int kd g,z,d⟩) (d+1))):=Mod.setObj rfl;have af:(f.setIfInBounds b (.map (e.push ⟨.int kd g,z,d⟩) (d+1))).size=f.size:=by simp
  generalize f.setIfInBounds b (.map (e.push ⟨.int kd g,z,d⟩) (d+1))=n at*
  have H:=Ah s;have I:=MapKept.run_getObj_map (P:=P) (w:=i.at n o) (r:=b) s;have J: ∀k,(setObj b k).run P (i.at n o)= .ok () (i.at (n.setIfInBounds b k) o):=λk=>MapKept.run_setObj_map (P:=P) (w:=i.at n o) k s
  have L:(e.push ⟨.int kd g,z,d⟩).findIdx? (λh=>((h.born:Nat):Int)==((d:Nat):Int))=some e.size:=by
   rw[WideElems.findIdx_arr];exact WideElems.findIdx_born (l:=(e.push ⟨.int kd g,z,d⟩).toList) (j:=e.size) (e0:=⟨.int kd g,z,d⟩) (by
    simp only[RT,Bm,B9,RW];refine List.nodup_append.2 ⟨W,by simp,λa ag c ah am=>?_⟩;simp only[HL] at ah;obtain⟨x,D,rfl⟩:=List.mem_map.1 ag;have:=ab x D;omega) (by simp)
  have N:(e.push ⟨.int kd g,z,d⟩).modify e.size (λh=> {h with val:=v})=e.push ⟨.int kd g,v,d⟩:=by apply NO;rw[Hn,RT,RT,<-DQ,WideElems.modify_last]
  refine⟨n.setIfInBounds b (.map (e.push ⟨.int kd g,v,d⟩) (d+1)),o,?_,S _ ⟨_,_,Cb H,?_,MapKept.stamped_push h.stamped ad,by simp;omega⟩ (G.trans (Mod.setObj rfl)) (by simp;omega)⟩
  ·simp[Instr.entryStore,I,asInt,asIntOf,goInt,L,N,J,Result.andThen]
  ·rw[p];simp[h.same]
 ·have X:e[j]? =some q:=by simpa using p
  have ai:e.modify j (λh=> {h with key:= .int kd g})=e:=by
   apply NO;rw[Hn,ChangeMaps.modify_eq_set _ _ _ _ p];have:({q with key:= .int kd g}:MapEntry)=q:=by rw[<- C]
   rw[this];exact WideElems.set_self _ _ _ p
  have aj: ∀w,(Instr.keyThatStays (.int kd g) (.int kd g)).run P w= .ok (.int kd g) w:=λw=>by
   simp[Instr.keyThatStays,Instr.sameBits]
  refine⟨J1 #[u,goInt q.born],f.setIfInBounds b (.map e d),y,?_,u,goInt q.born,rfl,(q.born:Int),rfl,λo=>?_⟩
  ·simp[Instr.mapEntry,BM R,U,GH A,Instr.findKey,BM A,F,X,C,aj,ai,Result.andThen,V]
  have s:(f.setIfInBounds b (.map e d))[b]? =some (.map e d):=Cb T;have G:Mod (λc=>c=b) f (f.setIfInBounds b (.map e d)):=Mod.setObj rfl;have af:(f.setIfInBounds b (.map e d)).size=f.size:=by simp
  generalize f.setIfInBounds b (.map e d)=n at*
  have H:=Ah s;have I:=MapKept.run_getObj_map (P:=P) (w:=i.at n o) (r:=b) s;have J: ∀k,(setObj b k).run P (i.at n o)= .ok () (i.at (n.setIfInBounds b k) o):=λk=>MapKept.run_setObj_map (P:=P) (w:=i.at n o) k s
  have L:e.findIdx? (λh=>((h.born:Nat):Int)==((q.born:Nat):Int))=some j:=by rw[WideElems.findIdx_arr];exact WideElems.findIdx_born W p
  have N:e.modify j (λh=> {h with val:=v})=e.modify j (λh=> {h with key:= .int kd g,val:=v}):=by apply NO;rw[Hn,Hn,ChangeMaps.modify_eq_set _ _ _ _ p,ChangeMaps.modify_eq_set _ _ _ _ p,<-C]
  refine⟨n.setIfInBounds b (.map (e.modify j λh=> {h with key:= .int kd g,val:=v}) d),o,?_,S _ ⟨_,_,Cb H,?_,MapKept.stamped_modify h.stamped _ _ (λ_ _=>rfl) (λx _ D=>?_),by simpa using h.size⟩ (G.trans (Mod.setObj rfl)) (by simp;omega)⟩
  ·simp[Instr.entryStore,I,asInt,asIntOf,goInt,L,N,J,Result.andThen]
  ·rw[Hn];exact ae
  ·rw[X] at D;cases D;exact C.symm
end
end Go.Lf
namespace Go.Lf.G
open Go
def CE(a:Nat):A2P:=AX [Bq 108,Bq a]
def Jn(a:Nat)(name:A2P):A2P:=AX (Bc a++BR (bl name))
theorem KQ(a:Nat):(CE a).size=2:=rfl
theorem AMt(a:Nat):CE a≠⟨#[]⟩:=λb=>by have:=congrArg ByteArray.size b;rw[KQ] at this;cases this
theorem zG {m a:Nat}(c:m<256)(d:a<256)(h:CE m=CE a):m=a:=by have b:=Mj.1 h;simp only[G3,and_true,true_and] at b;have:=congrArg UInt8.toNat b;rwa [DR c,DR d] at this
theorem AKn {a:Nat}{name:A2P}(d:a<=2147483647)(b:Ak name=true):(Jn a name).size<=8192:=by have e:=(Ga.1 b).2.1;have f:=AV (n:=a) (by omega);have c:=AV (n:=(bl name).length) (by rw[A7];omega);unfold Jn BR;rw[AP,A1,A1,A7];rw[A7] at c;omega
section
variable {A : ar} {h : aa} {R : A2O}
theorem TP {a:Nat}(b:a<256)(e: ∀c,Ext h c->R (J7 (CE a)) c):AA A P Hz #[J6 J9 (a:Int)] h R:=by
 refine AEF ?_;unfold Yi;refine Vi ?_;unfold RO;refine ao.mk λd _ f g j=>?_
 have v1:View GL d ⟨some ⟨h.size,0,none⟩,1,1⟩ [Bq a]:=(Own.lit (E:=GL) (l:= [Bq a]) f (by simp[GL,DR b,wrap_u8,As b]) (by simp[maxLen])).view;refine JQ (s:=⟨some ⟨h.size,0,none⟩,1,1⟩) Ws kq Ll v1 ⟨_,rfl,⟨_,rfl,⟨by rw[AP,max_i64,show(⟨#[108]⟩:A2P).size=1 from rfl];simp,?_⟩⟩⟩;have i:(⟨#[108]⟩:A2P)++AX [Bq a]=CE a:=by rw[show(⟨#[108]⟩:A2P)=AX [Bq 108] from rfl,Aj];rfl
 rw[i];exact e d g
theorem oN {a:Nat}{name:A2P}(k:1<=a)(m:a<=2147483647)(b:Ak name=true)(f: ∀c,Ext h c->R (J1 #[J7 (Jn a name),J6 J9 0]) c):AA A P KX #[J6 J9 (a:Int),J7 name] h R:=by
 obtain⟨l,rfl⟩: ∃l,name=AX l:=⟨_,(EE name).symm⟩;have d:=(Ga.1 b).2.1;rw[AP] at d;refine AGR ?_;unfold uM;refine aj.mk λK g=>ag.no (decide_eq_false (by omega)) (ag.no (decide_eq_false (by omega)) (FL ⟨_,rfl,g _ _ (ag.no (by rw[b];rfl) ?_)⟩))
 rw[CF (by omega)];have e:=AV (n:=a) (by omega);have o:=AV (n:=l.length) (by omega);refine Cc (by omega) λd i=>⟨_,rfl,?_⟩
 refine Qw (l:=l) (by omega) λe j=>⟨_,rfl,⟨?_,?_⟩⟩
 ·rw[AP,AP,max_i64];unfold BR;rw[A1];omega
 ·rw[Aj];have:=f e (i.trans j);unfold Jn at this;rwa [show bl (AX l)=l from Bh l] at this
theorem ANR {r:Nat}{name:A2P}(j:1<=r)(a:r<=2147483647)(b:Ak name=true)(k: ∀d,Ext h d->R (J1 #[J6 J9 (r:Int),J7 name,J6 J9 0]) d):AA A P Pv #[J7 (Jn r name)] h R:=by
 have m:=b;obtain⟨l,rfl⟩: ∃l,name=AX l:=⟨_,(EE name).symm⟩;have o:=(Ga.1 b).2.1;rw[AP] at o;have w:=AV (n:=r) (by omega);have x:=AV (n:=l.length) (by omega);have y:(BR l).length<=26:=by unfold BR;rw[A1];omega
 refine ADi ?_;unfold WO Jn;rw[show bl (AX l)=l from Bh l];refine Jo (l:=Bc r++BR l) λz p q=>⟨_,rfl,?_⟩
 refine DN (most:=2147483647) p (by simp only[A1];omega) (by decide) λB e s=>⟨_,rfl,?_⟩
 rw[CP (by omega) a] at e ⊢;refine G7 e (by dsimp only;omega) λt f u=>⟨_,rfl,?_⟩
 have g:=IR (l:=l) (by omega) [];rw[AK] at g;rw[g] at f ⊢;refine oN j a m λhd i=>⟨_,_,rfl,?_⟩
 refine aj.mk λK v=>ag.no rfl (MS (r:=⟨[],false⟩) (i.ai f λh=>h) ⟨_,rfl,v _ _ (ag.no rfl ?_)⟩)
 exact k hd ((q.then ((s.trans u).ak λc _ t=> .inr (by omega))).trans i)
end
theorem tQ: ∀(k a:Nat),IY (k+1) a=Bq (a / 256^k)::IY k a
 |0,a=>by rw[IY,IY];simp[IY]
 |k+1,a=>by
  rw[IY,tQ k (a / 256),Dd];show Bq (a / 256 / 256^k)::(IY k (a / 256)++ [Bq a])=_;rw[V0,show 256*256^k=256^(k+1) from by rw[DH,CH]];rfl
theorem tT(m:Nat):(m:Int).fdiv ((2:Int)^(8:Nat))=((m / 256:Nat):Int):=by rw[show((2:Int)^(8:Nat))=256 from by decide,Vc _ (by decide)];omega
section
variable {A : ar} {h : aa} {R : A2O}
theorem VH {n:Nat}(r: ∀o,Ext h o->R (J7 (AX (IY 8 n))) o):AA A P Jc #[.int .u64 (n:Int)] h R:=by
 refine AEo ?_;unfold Yv;refine wM (E:=GL) (x0:=0) (v:= .int .u8 0) (n:=8) VQ yL rfl rfl rfl (by omega) (by simp only[maxLen];omega) λt u w D=>?_
 dsimp only;refine Loop.rule (λm x d=> ∃i:Nat,x=(((n / 256^i:Nat):Int),(i:Int),())/\m=8-i/\i<=8/\Mod (λc=>c=h.size) t d/\Own GL Di d ⟨some ⟨h.size,0,none⟩,8,8⟩ (List.replicate (8-i) 0++IY i n)) ?_ ⟨0,by simp,rfl,by omega,Mod.refl,by simpa [IY] using u⟩;rintro F m _ d ⟨i,rfl,rfl,G,p,f⟩ y;dsimp only;refine ag.intro (λg=>?_) (λg=>?_)
 ·have k:i<8:=by simp at g;omega
  rw[wrap_i64 (by omega) (by omega),show(7:Int)-(i:Int)=((7-i:Nat):Int) from by omega,tT,Aa (by omega),V0,<-DH];have ah:(List.replicate (8-i) (0:UInt8)++IY i n)[7-i]? =some 0:=by rw[GC (by simp;omega),List.getElem?_replicate,if_pos (by omega)]
  refine f.view.idx ah λa z H=>?_
  rw[A6,<-add_zero (a.add ((7-i)*1)),wrap_u8];refine Own.store (E:=GL) (i:=7-i) (j:=0) (x:=0) (x':=Bq (n / 256^i)) (v:= .int .u8 ((n / 256^i % 256:Nat):Int)) f ah (by show [Value.int .u8 _]=_;rw[Qk,DR (by omega)];rfl) (by decide) (λI q B J=>?_) a z;refine y (8-(i+1)) _ _ (by omega) ⟨i+1,rfl,rfl,k,p.trans (B.ak λb _ e=>?_),?_⟩
  ·simp[Sl.ai] at e;exact e.symm
  ·have C:(List.replicate (8-i) (0:UInt8)++IY i n).set (7-i) (Bq (n / 256^i))=List.replicate (8-(i+1)) 0++IY (i+1) n:=by rw[tQ,show 8-i=(7-i)+1 from by omega,List.replicate_succ',A3,HM _ _ (by simp),List.length_replicate,Mn,show 8-(i+1)=7-i from by omega];rfl
   rw[C] at q;exact q
 ·have k:i=8:=by simp at g;omega
  subst k;refine JQ VQ yM yN (s:=⟨some ⟨h.size,0,none⟩,8,8⟩) (l:=IY 8 n) (by simpa using f.view) ⟨_,rfl,?_⟩;exact r d (w.more p λb e=>by subst e;exact A0 _)
theorem tU {wid:A2P}(e:wid.size<=1000000)(b: ∀a,Ext h a->R (J7 (Ww wid)) a):AA A P MR #[J7 wid] h R:=by
 refine ABp ?_;unfold WV;have f:=AV (n:=(bl wid).length) (by rw[A7];omega);refine KR (by omega) λc d=>⟨_,rfl,⟨?_,?_⟩⟩
 ·rw[AP,max_i64];unfold BR;rw[A1,A7] at*
  rw[show(⟨#[104]⟩:A2P).size=1 from rfl];omega
 ·rw[show(⟨#[104]⟩:A2P)=AX [kE] from rfl,Aj];exact b c d
theorem tV {wid:A2P}{id:Nat}(b:wid.size<=1000000)(c:id<18446744073709551616)(d: ∀a,Ext h a->R (J7 (eo wid id)) a):AA A P Nn #[J7 wid,J6 J9 (id:Int)] h R:=by
 refine AEJ ?_;unfold Xj;refine tU b λi e=>⟨_,rfl,?_⟩
 rw[if_neg (by omega),CF c];have j:=AV (n:=(bl wid).length) (by rw[A7];omega);refine VH λf g=>⟨_,rfl,⟨⟨by decide,by rw[AP,Kh];decide⟩,?_⟩⟩
 rw[show(AX (IY 8 id)).extract (4:Int).toNat (AX (IY 8 id)).size=AX (IY 4 id) from VJ (IY 8 id) 4];refine⟨?_,?_⟩
 ·unfold Ww kW BR;rw[AP,AP,Kh,max_i64];simp only[A5,A1,A7] at*
  omega
 ·have:=d f (e.trans g);unfold Ww;rw[Aj];exact this
theorem nD {wid:A2P}(c:wid.size<=1000000)(a:R (J7 (KY wid)) h):AA A P GQ #[J7 wid] h R:=by
 refine AHN ?_;unfold uI;refine⟨by rw[max_i64,show(⟨#[119]⟩:A2P).size=1 from rfl];omega,?_⟩;have b:(⟨#[119]⟩:A2P)++wid=KY wid:=by
  conv=>lhs;rw[<- EE wid]
  rw[show(⟨#[119]⟩:A2P)=AX [119] from rfl,Aj];rfl
 rw[b];exact a
theorem tW {a:A2P}(d:a.size<=1000000)(b:R (J7 (Ka a)) h):AA A P Jv #[J7 a] h R:=by
 refine Zq ?_;unfold SK;refine⟨by rw[max_i64,show(⟨#[114]⟩:A2P).size=1 from rfl];omega,?_⟩;have c:(⟨#[114]⟩:A2P)++a=Ka a:=by
  conv=>lhs;rw[<- EE a]
  rw[show(⟨#[114]⟩:A2P)=AX [114] from rfl,Aj];rfl
 rw[c];exact b
theorem pY {a:Nat}(b:a<256)(e: ∀c,Ext h c->R (J7 (AX [Bq a])) c):AA A P LQ #[J6 J9 (a:Int)] h R:=by
 refine Vi ?_;unfold RO;refine ao.mk λd _ f g i=>?_
 have v1:View GL d ⟨some ⟨h.size,0,none⟩,1,1⟩ [Bq a]:=(Own.lit (E:=GL) (l:= [Bq a]) f (by
  show [Value.int .u8 (J8 .u8 (a:Int))]= [Value.int .u8 ((Bq a).toNat:Int)];rw[wrap_u8,DR b,As b]) (by simp[maxLen])).view
 exact JQ (s:=⟨some ⟨h.size,0,none⟩,1,1⟩) Ws kq Ll v1 ⟨_,rfl,e d g⟩
theorem AP6 {a id:Nat}(c:a<256)(d: ∀b,Ext h b->R (J7 (DF a id)) b):AA A P Jz #[J6 J9 (a:Int),.int .u64 (id:Int)] h R:=by
 refine ZM ?_;unfold SN;refine Ph ?_;unfold MJ;refine pY c λi e=>⟨_,rfl,⟨by rw[AP,max_i64];show((2:Nat):Int)<=9223372036854775807;decide,⟨_,rfl,?_⟩⟩⟩
 rw[show(⟨#[116]⟩:A2P)=AX [116] from rfl,Aj];refine VH λf g=>⟨_,rfl,⟨by rw[AP,AP,Kh,max_i64];show((10:Nat):Int)<=9223372036854775807;decide,?_⟩⟩
 rw[Aj];exact d f (e.trans g)
theorem AP2 {a id t:Nat}(c:a<256)(d:t<18446744073709551616)(e: ∀b,Ext h b->R (J7 (R4 a t id)) b):AA A P OD #[J6 J9 (a:Int),J6 J9 (t:Int),.int .u64 (id:Int)] h R:=by
 refine AEZ ?_;unfold YE;refine ACN ?_;unfold WR;refine pY c λk f=>⟨_,rfl,⟨by rw[AP,max_i64];show((2:Nat):Int)<=9223372036854775807;decide,⟨_,rfl,?_⟩⟩⟩
 rw[show(⟨#[109]⟩:A2P)=AX [109] from rfl,Aj,if_neg (by omega),CF d];refine VH λl g=>⟨_,rfl,⟨by rw[AP,AP,Kh,max_i64];show((10:Nat):Int)<=9223372036854775807;decide,?_⟩⟩
 rw[Aj];refine VH λi j=>⟨_,rfl,⟨by rw[AP,AP,A1,Kh,max_i64];show((18:Nat):Int)<=9223372036854775807;decide,?_⟩⟩
 rw[Aj];exact e i ((f.trans g).trans j)
theorem tX {m:cR}{st nx:Nat}(f:m.status=(st:Int))(g:m.next=(nx:Int))(s:st<128)(t:nx<=501)(i: ∀d,Ext h d->R (J7 (QS st nx m.kept)) d):AA A P FK #[m.v] h R:=by
 refine XR ?_;unfold PP;have u:=Fb (n:=st) (by omega);have v:=Fb (n:=nx) (by omega);refine ao.mk λj _ b k w=>aj.mk λK l=>?_
 have key: ∀n:Nat,n=(if m.kept then 1 else 0)->K ((n:Int),()) j:=λn c=>by
  refine l _ _ (AC.mk (AO b rfl) (AC.mk (AB b rfl) ?_));have x:(Bc n).length<=2:=Fb (by split at c<;>omega);rw[f,CF (by omega)];refine Cc (by omega) λy e=>⟨_,rfl,?_⟩
  have o:=e.ai b (λh=>h);refine⟨AB o rfl,?_⟩;rw[g,CF (by omega)];refine Cc (by omega) λz p=>⟨_,rfl,⟨by rw[AP,AP,max_i64];omega,?_⟩⟩
  rw[Aj];refine Cc (by split at c<;>omega) λq r=>⟨_,rfl,⟨by rw[AP,AP,A1,max_i64];omega,?_⟩⟩
  rw[Aj,A3];have:=i q (((k.trans e).trans p).trans r);unfold QS at this;rw[<- c] at this;exact this
 refine Ac.mk (AB b rfl) (ag.intro (λa=>?_) (λa=>?_))
 ·have a:m.kept=true:=a;exact key 1 (by rw[a];rfl)
 ·have a:m.kept=false:=a;exact key 0 (by rw[a];rfl)
theorem AKg {st nx:Nat}{a:Bool}(s:st<=4)(O:2<=nx)(t:nx<=501)(u: ∀l,Ext h l->R (J1 #[(⟨(st:Int),(nx:Int),a⟩:cR).v,J6 J9 0]) l):AA A P Oi #[J7 (QS st nx a)] h R:=by
 refine AA6 ?_;unfold TQ;refine ao.mk λv _ m o Q=>?_
 unfold QS;have S:=Fb (n:=st) (by omega);have T:=Fb (n:=nx) (by omega);have U:(Bc (if a then 1 else 0)).length<=2:=Fb (by split<;>omega);have w:CQ 1 ⟨Bc (if a then 1 else 0),false⟩=((if a then 1 else 0),⟨[],false⟩):=by have:=CP (n:=if a then 1 else 0) (most:=1) (by split<;>omega) (by split<;>omega) [];rwa [AK] at this
 refine Jo λx p d=>⟨_,rfl,?_⟩
 refine DN (most:=4) p (by simp only[A1];omega) (by decide) λV y e=>⟨_,rfl,?_⟩
 rw[CP (by omega) s] at*
 refine DN (most:=501) y (by simp only[A1];omega) (by decide) λW z f=>⟨_,rfl,?_⟩
 rw[CP (by omega) t] at*
 refine DN (most:=1) z (by simp only;omega) (by decide) λB C g=>⟨_,rfl,?_⟩
 rw[w] at*
 refine ao.mk λX _ D i Y=>aF.mk D (A0 3) λj q k Z=>?_
 have aa:=Ah m;have ab:=d.size;have ac:=e.size;have ad:=f.size;have ae:=g.size;have E:j[h.size]? =some (J2 cR.z.c JE (0,0)):=k.ai (i.ai (g.ai (f.ai (e.ai (d.ai m (λh=>h)) (by omega)) (by omega)) (by omega)) (λh=>h)) (by omega);have F:Ib j v.size ⟨[],false⟩:=k.ai (i.ai C (λh=>h)) (by have:=Ah p;omega);have G:Ext h j:=by
  have H:Ext h x:=o.trans d;have r:Ext h B:=H.more ((e.trans f).trans g) λc b=>by subst b;exact o.size
  exact(r.trans i).more k λc b=>by subst b;exact r.size
 refine aj.mk λK I=>MS F ⟨_,rfl,ag.no rfl (AC.mk (AB q rfl) (I _ _ (ag.no (decide_eq_false (by show ¬((nx:Int)<2);omega)) ?_)))⟩
 have J:(((if a then 1 else 0:Nat):Int)==(1:Int))=a:=by cases a<;>rfl
 refine OU.mk ⟨(st:Int),(nx:Int),_⟩ (Cr q rfl) (aF.mk E (A0 3) λL M N af=>OU.mk ⟨(st:Int),(nx:Int),_⟩ (Cr M rfl) ?_);rw[J];exact u L (G.more N λc b=>by subst b;exact A0 _)
def Au(wid:A2P)(a:Nat):Nat:=my wid / 256 % a
theorem R3 {wid:A2P}{a:Nat}(d:wid.size<=1000000)(e:1<=a)(f:a<=16)(b:R (J1 #[J6 J9 (Au wid a:Int),J6 J9 0]) h):AA A P Ki #[J7 wid,J6 J9 (a:Int)] h R:=by
 refine AEr ?_;unfold Ya;refine aj.mk λK c=>ag.no (decide_eq_false (by omega)) ?_
 refine c _ _ (ag.no (decide_eq_false (by omega)) (rC (by omega) ⟨_,_,rfl,⟨by omega,?_⟩⟩));have g:=(xS wid);rw[tT,wrap_i64 (by omega) (by omega)];exact b
end
def gk(p f:A2P):A2P:=if aO p f then f else p
theorem AS2(p f b:A2P):aO b (gk p f)=false↔aO b p=false/\aO b f=false:=by
 unfold gk;split
 ·rename_i c;refine⟨λa=>⟨?_,a⟩,λa=>a.2⟩;cases d:aO b p
  ·rfl
  ·rw[Da d c] at a;cases a
 ·rename_i c;refine⟨λa=>⟨a,?_⟩,λa=>a.1⟩;exact ZT (by simpa using c) a
def QC(p:A2P):A2P:=⟨((eQ p.data.toList).getD []).toArray⟩
theorem ATI: ∀ {p c:List UInt8},eQ p=some c->c≠ []
 | [],c,b=>by cases b
 |a::p,c,b=>by
  unfold eQ at b;split at b
  ·obtain rfl:=BY b;simp
  ·split at b
   ·obtain rfl:=BY b;simp
   ·cases b
theorem APO(p d:A2P):(decide (QC p=⟨#[]⟩)||aO d (QC p))=true↔ ∀a,eQ p.data.toList=some a->d.data.toList<a:=by
 unfold QC;cases e:eQ p.data.toList with
 |none=>simp
 |some a=>
  have f:=ATI e;have c:decide ((⟨(Option.getD (some a) []).toArray⟩:A2P)=⟨#[]⟩)=false:=decide_eq_false λc=>f (by
   have:=congrArg (λb:A2P=>b.data.toList) c;simpa using this)
  rw[c,SR,VT];simp
theorem AQi(p f a:A2P):kB (gk p f) (QC p) a=(Kb p a&& !aO a f):=by
 rw[Fc];unfold kB;rw[A4,A4,APO,CI,AS2,Oe,<-wX,CI];rw[show(aO a p=false↔ ¬a.data.toList<p.data.toList) from by rw[VT];simp];constructor
 ·rintro⟨⟨b,c⟩,d⟩;exact⟨⟨b,d⟩,c⟩
 ·rintro⟨⟨b,d⟩,c⟩;exact⟨⟨b,c⟩,d⟩
def jg(m:List Pr)(p f:A2P)(a:Int):List Pr:=(m.filter λx=>Kb p x.key&& !aO x.key f).take a.toNat
theorem AOo(m:List Pr)(p f:A2P)(a:Int):mM m (gk p f) (QC p) a=jg m p f a:=by unfold mM Qt jg;rw[HG λx _=>AQi p f x.key]
def Bd(m:List Pr)(c:Pr):Bool:=if c.gone then !(Iy m c.key).2 else(Iy m c.key).2&&decide ((Iy m c.key).1=c.val)
open M (Sorted Af CY A9 Ag Ar BU Ai bC BH aQ BF)
structure F6 (B:cI) (g h:aa) (s:Nat) (q:Hp) (k:Nat->Nat) (st:Db) (m:Bx) (D:Br) (aJ c n:Nat):Prop where
 db:Bw B g h q k st m D aJ c
 cell:h[s]? =some (J2 #[Aq q.d,J6 J9 (n:Int)] vL (0,0))
 kz:k s=0
 base:g.size<=s
 fuel:m.fuel= -1
 cp:n<=1000000
def dw(m a l:List Pr):Int:=if a.length>64 then 2 else if EX l≠0 then EX l else if a.all (Bd m) then 0 else 100
theorem AH4 {m:List Pr}{c:Pr}:Bd m c= !(((Iy m c.key).2==c.gone)||((Iy m c.key).2&& !bR (Iy m c.key).1 c.val)):=by unfold Bd;rw[Ca];cases c.gone<;>cases (Iy m c.key).2<;>simp
section
variable {A : ar} {B : cI} {g h : aa} {s : Nat} {q : Hp} {k : Nat -> Nat} {st : Db} {m : Bx} {D : Br} {aJ c n : Nat} {R : A2O}
theorem F6.on {b:aa}(a:F6 B g h s q k st m D aJ c n)(x:Ext h b):F6 B g b s q k st m D aJ c n:=⟨a.db.on x,Am x a.cell,a.kz,a.base,a.fuel,a.cp⟩
theorem F6.beside {d:aa}{b:Nat->Prop}(a:F6 B g h s q k st m D aJ c n)(x:Mod b h d)(hX: ∀c,b c->k c=0/\g.size<=c)(e: ¬b s):F6 B g d s q k st m D aJ c n:=⟨a.db.beside x hX,x.ai a.cell e,a.kz,a.base,a.fuel,a.cp⟩
theorem F6.put {d b:Nat}(a:F6 B g h s q k st m D aJ c n)(e:aJ<=d)(f:c<=b)(i:b<=B.C):F6 B g h s q k st m D d b n:=⟨a.db.put e f i,a.cell,a.kz,a.base,a.fuel,a.cp⟩
theorem F6.lt(a:F6 B g h s q k st m D aJ c n):s<h.size:=Ah a.cell
theorem F6.step {b:aa}{d:Hp}{k':Nat->Nat}{f:Db}{e:Bx}{i:Br}{j l:Nat}(a:F6 B g h s q k st m D aJ c n)(p:Bw B g b d k' f e i j l)(hd:d.d=q.d)(r:e.fuel= -1)(t:Mod (λc=>k c≠0) h b)(u: ∀c,k' c≠0->k c≠0\/h.size<=c):F6 B g b s d k' f e i j l n:=by
 refine⟨p,by rw[hd];exact t.ai a.cell (by rw[a.kz];simp),Decidable.byContradiction λv=>?_,a.base,r,a.cp⟩;have:=a.lt;rcases u s v with o|o
 ·exact o a.kz
 ·omega
theorem rJ {key:A2P}(b:F6 B g h s q k st m D aJ c n)(d:key.size<=1099511627776)(e: ∀a,Ext h a->R (J1 #[J7 (Iy (Cm st) key).1,J3 (Iy (Cm st) key).2,J6 J9 0]) a):AA A P FP #[Aq s,J7 key] h R:=by refine ZP ?_;unfold SY;refine ag.no rfl (aE (AY.mk (AO b.cell rfl) ?_));obtain⟨i,f,j,l⟩:=b.db.dm;exact AO4 b.db.mem f d λa x=>⟨_,_,_,rfl,e a x⟩
theorem AOh {p:A2P}(Q:p.size<=1099511627776)(t: ∀u,Ext h u->R (J7 (QC p)) u):AA A P Um #[J7 p] h R:=by
 refine AGi ?_;unfold uJ;have y:J8 J9 ((p.size:Int)-(1:Int))=(p.size:Int)-1:=wrap_i64 (by omega) (by omega);rw[y];have S:p.data.toList.length=p.size:=by rw[DQ];rfl
 refine Loop.rule (λv x f=> ∃b:Nat,x=((b:Int)-1,())/\v=b/\f=h/\b<=p.size/\ ∀x∈p.data.toList.drop b,¬x<255) ?_ ⟨p.size,rfl,rfl,rfl,A0 _,λx e=>by rw[HD (by omega)] at e;cases e⟩;rintro K v _ f ⟨b,rfl,T,rfl,U,o⟩ z;dsimp only;refine ag.intro (λr=>?_) (λr=>?_)
 ·have V:1<=b:=by have:=of_decide_eq_true r;omega
  obtain⟨i,rfl⟩: ∃i,b=i+1:=⟨b-1,by omega⟩;have C:((i+1:Nat):Int)-1=(i:Int):=by omega
  rw[C];refine⟨by omega,?_⟩;have ah:p.data.toList[i]? =some (p.data.toList[i]'(by omega)):=A2 _;generalize F:p.data.toList[i]'(by omega)=a at*
  have G:dE p (i:Int)=(a.toNat:Int):=by
   unfold dE;have:p[i]? =some a:=by rw[show p[i]? =p.data[i]? from rfl,<-A0u];exact ah
   rw[show((i:Int).toNat)=i from rfl,this];rfl
  rw[G];have H:p.data.toList.drop i=a::p.data.toList.drop (i+1):=by rw[DP (by omega),F]
  refine ag.intro (λd=>?_) (λd=>?_)
  ·have d:a<255:=by rw[UInt8.lt_iff_toNat_lt];have:=of_decide_eq_true d;show a.toNat<255;omega
   have W:a.toNat<255:=UInt8.lt_iff_toNat_lt.1 d;refine⟨by omega,⟨by omega,?_⟩⟩;have I:J8 .u8 ((a.toNat:Int)+(1:Int))=((a+1).toNat:Int):=by
    rw[show(a.toNat:Int)+1=((a.toNat+1:Nat):Int) from by omega,wrap_u8];have j:(a+1).toNat=a.toNat+1:=by rw[UInt8.toNat_add];show(a.toNat+1) % 256=_;omega
    rw[j];omega
   rw[I];refine ao.mk λw _ J L X=>?_
   have v2:View GL w ⟨some ⟨f.size,0,none⟩,1,1⟩ [a+1]:=(Own.lit (E:=GL) (l:= [a+1]) J rfl (by simp[maxLen])).view;refine JQ (s:=⟨some ⟨f.size,0,none⟩,1,1⟩) Ws kq Ll v2 ⟨_,rfl,?_⟩;have M:(AX [a+1]).size=1:=AP _;have Y:(p.extract 0 i).size<=p.size:=by rw[A0N];omega
   refine⟨by rw[show(i:Int).toNat=i from rfl,M];show(((p.extract 0 i).size+1:Nat):Int)<=9223372036854775807;omega,?_⟩;have:=t w L;have N:QC p=p.extract 0 i++AX [a+1]:=by unfold QC;rw[wY ah d o];apply SJ;rw[JT,SM];apply NO;rw[N5,SO];show p.data.toList.take i++ [a+1]=_++(AX [a+1]).data.toList;rw[show(AX [a+1]).data.toList= [a+1] from Bh _];simp
   rw[N] at this;exact this
  ·have d: ¬a<255:=λh=>by
    have:=UInt8.lt_iff_toNat_lt.1 h;have j:(255:UInt8).toNat=255:=rfl;have:=of_decide_eq_false d;omega
   rw[show J8 J9 ((i:Int)-(1:Int))=(i:Int)-1 from wrap_i64 (by omega) (by omega)];refine z i _ _ (by omega) ⟨i,rfl,rfl,rfl,by omega,λx e=>?_⟩;rw[H] at e;rcases List.mem_cons.1 e with rfl|e
   ·exact d
   ·exact o x e
 ·have O:b=0:=by have:=of_decide_eq_false r;omega
  subst O;have:=t f Mod.refl;have j:QC p=⟨#[]⟩:=by unfold QC;rw[qY (by simpa using o)];rfl
  rw[j] at this;exact this
theorem AOl {p f:A2P}{e:Int}(b:F6 B g h s q k st m D aJ c n)(l:p.size<=1099511627776)(o: ∀sl d,Own BQ AR d sl (jg (Cm st) p f e)->(∀ c,sl.ai=some c->h.size<=c)->Ext h d->R (J1 #[J4 sl.p sl.len sl.cap,J6 J9 0]) d):AA A P Fg #[Aq s,J7 p,J7 f,J6 J9 e] h R:=by
 refine YT ?_;unfold Qg;refine ag.no rfl (aE (AY.mk (AO b.cell rfl) ?_));refine AOh l λC a=>⟨_,rfl,⟨a.ah (AO b.cell rfl),?_⟩⟩
 have i:=b.on a;obtain⟨r,t,u,E⟩:=i.db.dm;have v:(if(!aO p f)=true then p else f)=gk p f:=by unfold gk;cases aO p f<;>rfl
 rw[v];refine AQv i.db.mem r t u λsl w j x y=>⟨sl,_,rfl,?_⟩
 rw[AOo] at j;exact o sl w j (λc z=>by have:=x c z;have:=a.size;omega) (a.trans y)
theorem zF {conds sl:Sl}{d l:List Pr}(aC:bZ g)(r:F6 B g h s q k st m D aJ c n)(hA:aJ+3<=B.A)(aD:c+64<=B.C)(aF:n+1<=1000000)(vc:View BQ h conds d)(v:View BQ h sl l)(aG:l≠ []-> ∀b,sl.ai=some b->b<h.size/\k b=0)(aH: ∀x∈d,x.key.size<=1099511627776)
  (z:dw (Cm st) d l≠0-> ∀t,Ext h t->R (J6 J9 (dw (Cm st) d l)) t)
  (H:dw (Cm st) d l=0-> ∀t I U V aI aK,I.d=q.d->I.b=q.b->F6 B g t s I U V aI aK (aJ+3) (c+64) (n+1)->Cm V=cz (Cm st) l->Mod (λc=>k c≠0\/h.size<=c\/c=s) h t->(∀ c,U c≠0->k c≠0\/h.size<=c)->R (J6 J9 0) t):
  AA A P Fp #[Aq s,J4 conds.p conds.len conds.cap,J4 sl.p sl.len sl.cap] h R:=by
 refine ABQ ?_;unfold UE;refine ag.no rfl ?_;rw[vc.len];refine ag.intro (λf=>?_) (λf=>?_)
 ·have C:d.length>64:=by have:=of_decide_eq_true f;omega
  have j:dw (Cm st) d l=2:=by unfold dw;rw[if_pos C]
  have:=z (by rw[j];decide) h Mod.refl;rwa [j] at this
 have C: ¬d.length>64:=by have:=of_decide_eq_false f;omega
 refine zn (s:=sl) v λo W=>⟨_,rfl,?_⟩
 refine ag.intro (λJ=>?_) (λJ=>?_)
 ·have u:EX l≠0:=by simpa using J
  have j:dw (Cm st) d l=EX l:=by unfold dw;rw[if_neg C,if_pos u]
  have:=z (by rw[j];exact u) o W;rwa [j] at this
 have u:EX l=0:=by simpa using J
 have j:dw (Cm st) d l=if d.all (Bd (Cm st)) then 0 else 100:=by unfold dw;rw[if_neg C,if_neg (by rw[u];simp)]
 rw[j] at z H;refine Loop.rule (λX x p=> ∃i:Nat,x=((i:Int),())/\X=d.length-i/\i<=d.length/\Ext h p/\(d.take i).all (Bd (Cm st))=true) ?_ ⟨0,rfl,rfl,An _,W,rfl⟩;rintro K X _ p ⟨i,rfl,rfl,aV,w,L⟩ aL;have E:=r.on w;dsimp only;refine ag.intro (λf=>?_) (λf=>?_)
 ·have y:i<d.length:=by have:=of_decide_eq_true f;omega
  have ah:d[i]? =some d[i]:=A2 y;have aM:=aH d[i] (AW y);have aN:d[i]∈d:=AW y;have aO:d.take (i+1)=d.take i++ [d[i]]:=by rw[AD,ah];rfl
  generalize d[i]=x at*
  rw[<- vc.len];refine(vc.ext w).idx ah λa _ M=>?_
  obtain⟨M,aP,c2⟩:=M.pair;refine AJ.mk M (AJ.mk aP (Ac.mk c2 (ao.pair λb N aW Y Z aX=>?_)));have O:=E.on Z;refine aE (AY.mk (AO O.cell rfl) (AJ.mk (AO Y rfl) ?_));obtain⟨aY,aQ,aZ,a0⟩:=O.db.dm;refine AO4 O.db.mem aQ aM λQ aa=>⟨_,_,_,rfl,ag.no rfl ?_⟩
  have ab:=Am aa Y;have ac:=(w.trans Z).trans aa;refine aj.mk λad ae=>?_
  have p:=AH4 (m:=Cm st) (c:=x);have ai:Bd (Cm st) x=false->ad (true,()) Q:=λS=>ae _ _ (ag.yes rfl (by
   have T: ¬d.all (Bd (Cm st))=true:=λh=>by
    have:=List.all_eq_true.1 h x aN;rw[S] at this;cases this
   rw[if_neg T] at z;exact z (by decide) Q ac))
  have aT:Bd (Cm st) x=true->ad (false,()) Q:=λS=>ae _ _ (ag.no rfl (by
   rw[Aa (by omega)];refine aL (d.length-(i+1)) _ _ (by omega) ⟨i+1,rfl,rfl,y,ac,?_⟩;rw[aO,List.all_append,L];simp[S]))
  refine Ac.mk (AB ab rfl) (ag.intro (λo=>?_) (λo=>?_))
  ·exact ai (by rw[p,o];rfl)
  ·refine ag.intro (λF=>?_) (λF=>?_)
   ·refine AJ.mk (AB ab rfl) ?_;cases N:bR (Iy (Cm st) x.key).1 x.val with
    |true=>exact aT (by rw[p,o,F,N];rfl)
    |false=>exact ai (by rw[p,o,F,N];rfl)
   ·exact aT (by rw[p,o,F];rfl)
 ·have y:i=d.length:=by have:=of_decide_eq_false f;omega
  subst y;rw[BT] at L;rw[if_pos L] at H;have a1:=w.size;refine aE (AY.mk (AO E.cell rfl) ?_);refine AJY (B:=B) (s:=sl) aC E.db r.fuel hA (v.ext w) (λT b ak=>by have:=aG T b ak;exact⟨by omega,this.2⟩) aD λa2 al am an ap aq ar aR au av aw a3 ax ay=>⟨_,rfl,?_⟩
  rw[if_pos u] at aw;have G:=E.step au ar av ax ay;rw[u];refine ag.no rfl (aE (AC.mk (AB G.cell rfl) (aE ?_)));rw[Aa (by have:=r.cp;omega)];simp only[Bf,AI];refine af.mk G.cell (by simp) λaz aS aA a4=>?_
  have aU:F6 B g az s al am an ap aq (aJ+3) (c+64) (n+1):=⟨au.beside aA (λc e=>by subst e;exact⟨G.kz,r.base⟩),by simpa using aS,G.kz,r.base,av,aF⟩;have ak:=r.base;refine H rfl az al am an ap aq ar aR aU aw (((w.ak λc _ e=>e.elim).trans (ax.ak λc _ e=> .inl e)).trans (aA.ak λc _ e=> .inr (.inr e))) λc e=>?_
  rcases ay c e with h|h
  ·exact .inl h
  ·exact .inr (by omega)
end
section
variable {A : ar} {h : aa} {R : A2O}
end
section
variable {A : ar} {B : cI} {g h : aa} {m : Bx} {D : Br} {aJ c : Nat} {R : A2O}
theorem ANI {b:Nat}{Sb:Nat->Prop}(o:bZ g)(p:Cu h b Sb m)(q:Ext g h)(r: ∀c,Sb c->g.size<=c)(hd:m.down=false)(t:m.fuel= -1)(u: ∀a,ff m (aD nl a)=none)(v: ∀a,ff m (aD nn a)=none)(w: ∀x,ff m x≠none->(bl x).head? ≠some 116)(hA:1<=B.A)(y:bj m.files<=B.W0)
  (z: ∀d s i j k C E,i.b=b->F6 B g d s i j k C E 1 0 0->Cm k= []->Mod (λc=>Sb c\/h.size<=c) h d->(∀ c,j c≠0->Sb c\/h.size<=c)->h.size<=s->R (J1 #[Aq s,J6 J9 0]) d):AA A P SA #[Aq b] h R:=by
 refine AIT ?_;unfold uH;refine AOv (B:=B) o p q r hd t u v w hA y λF G H I J K L e M N _ l O=>⟨_,_,rfl,ag.no rfl (ao.mk λQ _ S n U=>?_)⟩
 have T:=e.mem.ext.size;exact z Q F.size G H I J K L ⟨e.on n,S,e.free (A0 _),T,M,An _⟩ N ((l.ak λc _ f=> .inl f).trans (n.ak λc _ f=>f.elim)) O l.size
end
structure ATk where
 kind:Int
 cs:Sl
 bs:Sl
 key:A2P
 aW:A2P
 most:Int
 all:Bool
structure ATv (N:Nat) (h:aa) (x:ATk) (cl l:List Pr):Prop where
 cs:View BQ h x.cs cl
 bs:View BQ h x.bs l
 keys: ∀c∈cl,c.key.size<=N
 key:x.key.size<=N
section
variable {A : ar} {h : aa} {R : A2O}
end
theorem mI:P.underlying Fe=some (.map Bp Bp):=by kernel_rfl
theorem mJ:P.underlying Eh=some (.map Bp Yu):=by kernel_rfl
theorem im:P.underlying Bp=some (.int J9):=by kernel_rfl
theorem oO:(zeroValue Bp).calc P=some (J6 J9 0):=by kernel_rfl
theorem oP:(zeroValue Yu).calc P=some (.int .u64 0):=by kernel_rfl
def dD(f:Nat->Nat)(a b:Nat):Nat->Nat:=λm=>if m=a then b else f m
structure Dw (g h:aa) (k:Nat->Nat) (s p bh bu:Nat) (name:A2P) (aH:Nat) (f u:Nat->Nat) (N:Nat):Prop where
 cell:h[p]? =some (J2 #[Aq s,J7 name,J6 J9 (aH:Int),.map (some bh),.map (some bu)] Rf (0,0))
 held: ∃hm,TK J9 h bh hm/\hm.length<=N/\ ∀n:Nat,(Lm n hm).getD (J6 J9 0)=J6 J9 (f n:Int)
 used: ∃um,TK J9 h bu um/\um.length<=N/\ ∀n:Nat,(Lm n um).getD (.int .u64 0)= .int .u64 (u n:Int)
 bO: ∀c,c=p\/c=bh\/c=bu->k c=0/\g.size<=c/\c≠s
 ne:bh≠bu
 named:Ak name=true
 sh:1<=aH/\aH<=16
 cp:N<=1000000
def GI(d:List Pr)(e a:Nat)(b:A2P):Prop:=(a=0/\b=⟨#[]⟩/\(Iy d (CE e)).2=false)\/(1<=a/\a<=2147483647/\Ak b=true/\Iy d (CE e)=(Jn a b,true))
section
variable {A : ar} {B : cI} {g h : aa} {s p bh bu : Nat} {q : Hp} {k : Nat -> Nat} {st : Db} {m : Bx} {D : Br} {aJ c nn N : Nat} {name : A2P} {aH : Nat} {f u : Nat -> Nat} {R : A2O}
theorem Dw.lt(a:Dw g h k s p bh bu name aH f u N): ∀c,c=p\/c=bh\/c=bu->c<h.size:=by
 obtain⟨e,b,_⟩:=a.held;obtain⟨i,d,_⟩:=a.used;rintro c (rfl|rfl|rfl)
 ·exact Ah a.cell
 ·exact b.lt
 ·exact d.lt
theorem Dw.mZ(a:Dw g h k s p bh bu name aH f u N):p≠bh/\p≠bu:=by
 obtain⟨i,⟨_,_,b,_⟩,_⟩:=a.held;obtain⟨j,⟨_,_,d,_⟩,_⟩:=a.used;have e:=a.cell;constructor
 ·rintro rfl;rw[e] at b;cases b
 ·rintro rfl;rw[e] at d;cases d
theorem Dw.beside {d:aa}{e:Nat->Nat}{i:Nat->Prop}(a:Dw g h k s p bh bu name aH f u N)(b:Mod i h d)(hX: ∀c,c=p\/c=bh\/c=bu-> ¬i c)(l: ∀c,c=p\/c=bh\/c=bu->e c=0):Dw g d e s p bh bu name aH f u N:=by obtain⟨n,o,r,t⟩:=a.held;obtain⟨v,w,x,y⟩:=a.used;exact⟨b.ai a.cell (hX p (.inl rfl)),⟨n,o.mod b (hX bh (.inr (.inl rfl))),r,t⟩,⟨v,w.mod b (hX bu (.inr (.inr rfl))),x,y⟩,λc j=>⟨l c j,(a.bO c j).2⟩,a.ne,a.named,a.sh,a.cp⟩
theorem Dw.on {a:aa}(b:Dw g h k s p bh bu name aH f u N)(x:Ext h a):Dw g a k s p bh bu name aH f u N:=b.beside x (λ_ _ h=>h) λc d=>(b.bO c d).1
theorem Dw.more {b:Nat}(a:Dw g h k s p bh bu name aH f u N)(r:N<=b)(d:b<=1000000):Dw g h k s p bh bu name aH f u b:=by obtain⟨e,i,t,j⟩:=a.held;obtain⟨l,n,v,o⟩:=a.used;exact⟨a.cell,⟨e,i,by omega,j⟩,⟨l,n,by omega,o⟩,a.bO,a.ne,a.named,a.sh,d⟩
theorem Dw.step {e:aa}{k':Nat->Nat}{i:Nat->Prop}(b:Dw g h k s p bh bu name aH f u N)(j:Mod i h e)(l: ∀c,i c->k c≠0\/h.size<=c\/c=s\/ ¬(c=p\/c=bh\/c=bu))(n: ∀c,k' c≠0->k c≠0\/h.size<=c):Dw g e k' s p bh bu name aH f u N:=by
 refine b.beside j (λc a o=>?_) λc a=>Decidable.byContradiction λr=>?_
 ·have d:=b.bO c a;have t:=b.lt c a;rcases l c o with h|h|h|h
  ·exact h d.1
  ·omega
  ·exact d.2.2 h
  ·exact h a
 ·have d:=b.bO c a;have t:=b.lt c a;rcases n c r with h|h
  ·exact h d.1
  ·omega
theorem ARH {s:Nat}(b:F6 B g h s q k st m D aJ c nn)(j:Ak name=true)(o:1<=aH/\aH<=16)
  (r: ∀a p bh bu,Dw g a k s p bh bu name aH (λ_=>0) (λ_=>0) 0->(∀ c,c=p\/c=bh\/c=bu->h.size<=c/\c<a.size)->Ext h a->R (J1 #[Aq p,J6 J9 0]) a):AA A P Pk #[Aq s,J7 name,J6 J9 (aH:Int)] h R:=by
 refine AGN ?_;unfold uG;refine aj.mk λK t=>ag.no rfl (FL ⟨_,rfl,ag.no (by rw[j];rfl) (ag.no (decide_eq_false (by omega)) (t _ _ (ag.no (decide_eq_false (by omega)) ?_)))⟩)
 refine ao.mk λl _ v w H=>ao.mk λx _ y n I=>ao.mk λd _ z e J=>?_
 have C:=(w.trans n).trans e;have L:=b.db.mem.ext.size;have M:=b.lt;have E:d[h.size]? =some (.map #[] 0):=e.ai (n.ai v (λh=>h)) (λh=>h);have F:d[l.size]? =some (.map #[] 0):=e.ai y (λh=>h);refine r d x.size h.size l.size ⟨z,⟨[],TK.empty E,A0 _,λG=>rfl⟩,⟨[],TK.empty F,A0 _,λG=>rfl⟩,λc i=>?_,by omega,j,o,by omega⟩ (λc i=>?_) C
 ·have:h.size<=c:=by rcases i with rfl|rfl|rfl<;>omega
  exact⟨b.db.free this,by omega,by omega⟩
 ·rcases i with rfl|rfl|rfl<;>omega
theorem Zd {a:Nat}(b:Dw g h k s p bh bu name aH f u N)(d:R (J6 J9 (f a:Int)) h):AA A P Cy #[Aq p,J6 J9 (a:Int)] h R:=by obtain⟨j,e,l,i⟩:=b.held;refine Va ?_;unfold Og;exact ag.no rfl (aE (FV.mk (AB b.cell rfl) (MI mI im oO e ⟨_,i a,d⟩)))
theorem APb {b:List (Int×J0)}{a d:Nat}(h: ∀m:Nat,(Lm m b).getD (J6 J9 0)=J6 J9 (f m:Int))(m:Nat):(Lm m (TR a (J6 J9 (d:Int)) b)).getD (J6 J9 0)=J6 J9 (dD f a d m:Int):=by
 rw[Zf];unfold dD;by_cases e:m=a
 ·subst e;rw[if_pos rfl,if_pos rfl];rfl
 ·rw[if_neg (by omega),if_neg e];exact h m
theorem zH {b:List (Int×J0)}{a r:Nat}(h: ∀m:Nat,(Lm m b).getD (.int .u64 0)= .int .u64 (f m:Int))(m:Nat):(Lm m (TR a (.int .u64 (r:Int)) b)).getD (.int .u64 0)= .int .u64 (dD f a r m:Int):=by
 rw[Zf];unfold dD;by_cases d:m=a
 ·subst d;rw[if_pos rfl,if_pos rfl];rfl
 ·rw[if_neg (by omega),if_neg d];exact h m
theorem Dw.strike {d:Nat}{j:Q7}{K:A2O}(a:Dw g h k s p bh bu name aH f u N)(l: ∀b,Dw g b k s p bh bu name aH (dD f d 0) u N->Mod (λc=>c=bh) h b->K (J1 #[]) b):BI A P (Builtin.delete_ #[Fe,Bp] j #[.map (some bh),J6 J9 (d:Int)]) h K:=by
 obtain⟨z,n,o,r⟩:=a.held;obtain⟨t,v,w,x⟩:=a.used;refine AKE mI im n λb y e C=>l b ⟨e.ai a.cell a.mZ.1,⟨_,y,AE APj o,λm=>?_⟩,⟨t,v.mod e a.ne.symm,w,x⟩,a.bO,a.ne,a.named,a.sh,a.cp⟩ e
 rw[wZ];unfold dD;by_cases i:m=d
 ·subst i;rw[if_pos rfl,if_pos rfl];rfl
 ·rw[if_neg (by omega),if_neg i];exact r m
theorem APA {b j:Nat}{l:A2P}(w:F6 B g h s q k st m D aJ c nn)(a:Dw g h k s p bh bu name aH f u N)(E:b<aH)(L:GI (Cm st) b j l)(n: ∀o,Ext h o->R (J1 #[J6 J9 (j:Int),J7 l,J6 J9 0]) o):AA A P LM #[Aq p,J6 J9 (b:Int)] h R:=by
 have F:=a.sh;refine Wp ?_;unfold PW;refine aj.mk λK x=>ag.no rfl (ag.no (decide_eq_false (by omega)) (aE (AC.mk (AB a.cell rfl) (x _ _ (ag.no (decide_eq_false (by omega)) ?_)))))
 refine aE (AY.mk (AO a.cell rfl) (TP (by omega) λr d=>⟨_,rfl,⟨AO (Am d a.cell) rfl,?_⟩⟩));refine rJ (w.on d) (by rw[KQ];omega) λt y=>⟨_,_,_,rfl,?_⟩
 have v:=d.trans y;refine aj.mk λG z=>ag.no rfl (z _ _ ?_)
 rcases L with⟨rfl,rfl,e⟩|⟨r,t,i,e⟩
 ·rw[e];exact ag.yes rfl (n _ v)
 ·rw[e];exact ag.no rfl (ANR r t i λi C=>⟨_,_,_,rfl,n i (v.trans C)⟩)
theorem ASp {k v:A2P}(a:k≠⟨#[]⟩)(d:k.size<=64)(e:v.size<=8192):EX [⟨k,v,false⟩]=0:=by
 have b:Ai ⟨k,v,false⟩=0:=by unfold Ai;rw[if_neg (by simp[a]),if_neg (by simp;omega)]
 unfold EX;rw[if_neg (by simp),if_neg (by simp)];unfold F9;rw[if_neg (by rw[b];decide)];rfl
theorem AJK {d r:Nat}{ar:A2P}(E:bZ g)(S:F6 B g h s q k st m D aJ c nn)(n:Dw g h k s p bh bu name aH f u N)(aP:d<aH)(L:GI (Cm st) d r ar)(au:r+1<=2147483647)(hA:aJ+3<=B.A)(aQ:c+64<=B.C)(aR:nn+1<=1000000)(aS:N+1<=1000000)
  (aT: ∀T ac k' av aU aV,ac.d=q.d->ac.b=q.b->F6 B g T s ac k' av aU aV (aJ+3) (c+64) (nn+1)->Cm av=cz (Cm st) [⟨CE d,Jn (r+1) name,false⟩]->Dw g T k' s p bh bu name aH (dD f d (r+1)) (dD u d 0) (N+1)->
   Mod (λc=>k c≠0\/h.size<=c\/c=s\/c=bh\/c=bu) h T->(∀ c,k' c≠0->k c≠0\/h.size<=c)->R (J1 #[J6 J9 ((r+1:Nat):Int),J6 J9 0]) T):
  AA A P FD #[Aq p,J6 J9 (d:Int)] h R:=by
 have bL:=n.sh;refine TI ?_;unfold Me;refine APA S n aP L λM aW=>⟨_,_,_,rfl,ag.no rfl ?_⟩
 refine TP (by omega) λad aX=>⟨_,rfl,?_⟩
 have aw:=aW.trans aX;refine ao.pair λb U bM ax aY bN=>?_
 have ay:=aw.trans aY;have bO:=aw.size;have bP:=S.db.mem.ext.size;refine aj.mk λK aZ=>?_
 have az: ∀V y z,Ext h V->V[b]? =some (J2 #[J7 (CE d),J7 y,J3 z] AR (0,0))->Bd (Cm st) ⟨CE d,y,z⟩=true->K () V:=by
  intro V y z ae a0 a1;refine aZ _ _ ?_;have bQ:=S.on ae;have a2:=n.on ae;refine aE (AJ.mk (AB a2.cell rfl) ?_);rw[Aa (by omega)];refine oN (by omega) au n.named λW aA=>⟨_,_,rfl,?_⟩
  have ai:=ae.trans aA;refine ag.no rfl (aj.mk λa3 a4=>?_);have aC:=S.on ai;have ak:=n.on ai;have I:=Am aA a0;have go: ∀e O C,Ext W e->e[O]? =some (J2 #[J7 (CE d),J7 y,J3 z] AR (0,0))->e[C]? =some (J2 #[J7 (CE d),J7 (Jn (r+1) name),J3 false] AR (0,0))->W.size<=C->
    AA A P Fp #[Aq s,J4 (some (⟨O,0,none⟩:Q6)) 1 1,J4 (some (⟨C,0,none⟩:Q6)) 1 1] e λa5 al=> ∃aD:Int,a5=J6 J9 aD/\a3 (aD,()) al:=by
   intro e O C w a6 aF a7;have a8:=aC.on w;have a9:=ak.on w;have aG:=ai.trans w;have vc:View BQ e ⟨some ⟨O,0,none⟩,1,1⟩ [⟨CE d,y,z⟩]:=(Own.lit (E:=BQ) (l:= [⟨CE d,y,z⟩]) a6 rfl (by simp[maxLen])).view;have ba:View BQ e ⟨some ⟨C,0,none⟩,1,1⟩ [⟨CE d,Jn (r+1) name,false⟩]:=(Own.lit (E:=BQ) (l:= [⟨CE d,Jn (r+1) name,false⟩]) aF rfl (by simp[maxLen])).view;have bb:=ASp (AMt d) (show(CE d).size<=64 by rw[KQ];omega) (AKn au n.named);have bc:dw (Cm st) [⟨CE d,y,z⟩] [⟨CE d,Jn (r+1) name,false⟩]=0:=by unfold dw;rw[if_neg (by simp),if_neg (by rw[bb];decide),if_pos (by simp[a1])]
   have bd:k C=0:=aC.db.free a7;refine zF (B:=B) (conds:=⟨some ⟨O,0,none⟩,1,1⟩) (sl:=⟨some ⟨C,0,none⟩,1,1⟩) E a8 hA aQ aR vc ba (λ_ be X=>by
    have o:C=be:=by simpa [Sl.ai] using X
    subst o;exact⟨Ah aF,bd⟩) (λx e=>by rw[List.mem_singleton.1 e];show(CE d).size<=_;rw[KQ];omega) (λbf=>absurd bc bf) λ_ al bg Y bi bj bk bm bn bo bp aI aK=>⟨_,rfl,a4 _ _ (ag.no rfl ?_)⟩
   have bR:=aG.size;have i:=a9.step (k':=Y) aI (λc a=>by
    rcases a with h|h|h
    ·exact .inl h
    ·exact .inr (.inl h)
    ·exact .inr (.inr (.inl h))) aK
   have bq:Mod (λc=>k c≠0\/h.size<=c\/c=s\/c=bh\/c=bu) h al:=(aG.ak λc _ a=>a.elim).trans (aI.ak λc _ a=>by
    rcases a with h|h|h
    ·exact .inl h
    ·exact .inr (.inl (by omega))
    ·exact .inr (.inr (.inl h)))
   obtain⟨bS,br,bT,bs⟩:=i.held;refine aE (FV.mk (AB i.cell rfl) (aE (FV.mk (AB i.cell rfl) ?_)));refine xf mI im oO (v:=J6 J9 ((r+1:Nat):Int)) br (by have:=i.cp;simp only[maxLen];omega) λbU bt Z bV=>?_
   obtain⟨bW,bv,bX,bw⟩:=i.used;have bx:=bv.mod Z n.ne.symm;refine xf mJ im oP (v:= .int .u64 0) bx (by have:=i.cp;simp only[maxLen];omega) λbz bA ab bY=>?_
   have bB: ∀c,c=bh->Y c=0/\g.size<=c:=λc a=>⟨(i.bO c (.inr (.inl a))).1,(i.bO c (.inr (.inl a))).2.1⟩
   have bC: ∀c,c=bu->Y c=0/\g.size<=c:=λc a=>⟨(i.bO c (.inr (.inr a))).1,(i.bO c (.inr (.inr a))).2.1⟩
   have bD:=(bo.beside Z bB λo=>(i.bO s (.inr (.inl o))).2.2 rfl).beside ab bC λo=>(i.bO s (.inr (.inr o))).2.2 rfl
   refine aT bz bg Y bi bj bk bm bn bD bp ⟨ab.ai (Z.ai i.cell n.mZ.1) n.mZ.2,⟨_,bt.mod ab n.ne,AE Xu (by omega),λm=>APb bs m⟩,⟨_,bA,AE Xu (by omega),λm=>zH (r:=0) bw m⟩,i.bO,i.ne,i.named,i.sh,aS⟩ ((bq.trans (Z.ak λc _ a=> .inr (.inr (.inr (.inl a))))).trans (ab.ak λc _ a=> .inr (.inr (.inr (.inr a))))) λc a=>?_
   rcases aK c a with h|h
   ·exact .inl h
   ·exact .inr (by omega)
  have F: ∀ {e:aa},Ext W e->ah e ⟨p,0,none⟩=some (Aq s):=λw=>AO (Am w ak.cell) rfl
  have row: ∀ {e:aa},Ext W e->ah e (⟨b,0,none⟩:Q6)=some (J7 (CE d))/\ah e ((⟨b,0,none⟩:Q6).add 1)=some (J7 y)/\ah e ((⟨b,0,none⟩:Q6).add 2)=some (J3 z):=λw=>⟨AO (Am w I) rfl,AB (Am w I) rfl,AB (Am w I) rfl⟩
  refine aE (AY.mk (AO ak.cell rfl) (AJ.mk (AO I rfl) (AJ.mk (AB I rfl) (Ac.mk (AB I rfl) ?_))));refine⟨?_,?_⟩
  ·refine ao.mk λbE _ bF G b0=>⟨F G,?_⟩
   refine TP (by omega) λX J=>⟨_,rfl,?_⟩
   have j:=G.trans J;refine⟨row j,⟨F j,?_⟩⟩;refine ao.mk λa _ Q H aL=>?_
   have t:=j.trans H;exact⟨row t,⟨F t,go a _ _ t (Am H (Am J bF)) Q j.size⟩⟩
  ·refine TP (by omega) λbE G=>⟨_,rfl,⟨row G,⟨F G,⟨?_,?_⟩⟩⟩⟩
   ·refine ao.mk λX _ am J bG=>?_
    have j:=G.trans J;refine⟨F j,ao.mk λa _ Q H aL=>?_⟩;have t:=j.trans H;exact⟨row t,⟨F t,go a _ _ t (Am H am) Q j.size⟩⟩
   ·refine ao.mk λX _ am J bG=>?_
    have j:=G.trans J;refine⟨row j,⟨F j,ao.mk λa _ Q H aL=>?_⟩⟩;have t:=j.trans H;exact⟨F t,go a _ _ t Q (Am H am) G.size⟩
 refine ag.intro (λan=>?_) (λan=>?_)
 ·have bH:0<r:=by have:=of_decide_eq_true an;omega
  rcases L with⟨M,_⟩|⟨M,ad,U,o⟩
  ·omega
  simp only[Bf,AI];refine af.mk ax (by simp) λaM ap bI b1=>?_
  have ap:aM[b]? =some (J2 #[J7 (CE d),J7 ⟨#[]⟩,J3 false] AR (0,0)):=by simpa using ap
  refine oN M ad U λb2 aN=>⟨_,_,rfl,?_⟩
  refine af.mk (Am aN ap) (by simp) λaO aq bJ b3=>?_
  have aq:aO[b]? =some (J2 #[J7 (CE d),J7 (Jn r ar),J3 false] AR (0,0)):=by simpa using aq
  have bK:Ext h aM:=ay.then (bI.ak λc _ a=> .inr (by omega));refine az aO _ _ ((bK.trans aN).then (bJ.ak λc _ a=> .inr (by omega))) aq ?_;unfold Bd;rw[o];simp
 ·have bH:r=0:=by have:=of_decide_eq_false an;omega
  rcases L with⟨M,_,o⟩|⟨M,ad,U,o⟩
  ·refine az U _ _ ay ax ?_;unfold Bd;rw[o];simp
  ·omega
end
section
variable {A : ar} {B : cI} {g h : aa} {s p bh bu : Nat} {q : Hp} {k : Nat -> Nat} {st : Db} {m : Bx} {D : Br} {aJ c nn N : Nat} {name : A2P} {aH : Nat} {f u : Nat -> Nat} {R : A2O}
def FY(a b:Nat)(name:A2P):Pr:=⟨CE a,Jn b name,false⟩
theorem OG {mp:List Pr}{n r:Nat}{name:A2P}:Bd mp (FY n r name)=((Iy mp (CE n)).2&&decide ((Iy mp (CE n)).1=Jn r name)):=rfl
theorem ASX {n:Nat}{conds sl:Sl}{e l:List Pr}(E:bZ g)(y:F6 B g h s q k st m D aJ c nn)(j:Dw g h k s p bh bu name aH f u N)(al:n<256)(am:f n<=2147483647)(hA:aJ+3<=B.A)(an:c+64<=B.C)(ap:nn+1<=1000000)(vc:View BQ h conds e)(a9:e.length<=1000000)(v:View BQ h sl l)(aq:l≠ []-> ∀b,sl.ai=some b->b<h.size/\k b=0/\b≠bh)(ar: ∀x∈e,x.key.size<=1099511627776)
  (au:f n=0->R (J6 J9 170) h)
  (av:f n≠0->Bd (Cm st) (FY n (f n) name)=false-> ∀d,F6 B g d s q k st m D aJ c nn->Dw g d k s p bh bu name aH (dD f n 0) u N->Mod (λc=>h.size<=c\/c=bh) h d->R (J6 J9 170) d)
  (aw:f n≠0->Bd (Cm st) (FY n (f n) name)=true->dw (Cm st) (FY n (f n) name::e) l≠0-> ∀d,Ext h d->R (J6 J9 (dw (Cm st) (FY n (f n) name::e) l)) d)
  (ax:f n≠0->Bd (Cm st) (FY n (f n) name)=true->dw (Cm st) (FY n (f n) name::e) l=0-> ∀d F k' W ay az,F.d=q.d->F.b=q.b->F6 B g d s F k' W ay az (aJ+3) (c+64) (nn+1)->Cm W=cz (Cm st) l->Dw g d k' s p bh bu name aH f u N->Mod (λc=>k c≠0\/h.size<=c\/c=s) h d->(∀ c,k' c≠0->k c≠0\/h.size<=c)->R (J6 J9 0) d):
  AA A P GD #[Aq p,J6 J9 (n:Int),J4 conds.p conds.len conds.cap,J4 sl.p sl.len sl.cap] h R:=by
 refine Zl ?_;unfold Sj;refine Zd j ⟨_,rfl,ag.intro (λG=>?_) (λG=>?_)⟩
 ·exact au (by simpa using G)
 have H:f n≠0:=by simpa using G
 refine aE (AJ.mk (AB j.cell rfl) ?_);refine oN (by omega) am j.named λz aA=>⟨_,_,rfl,?_⟩
 refine TP al λba aC=>⟨_,rfl,?_⟩
 have aD:=aA.trans aC;refine ao.pair λb bb bc X aF bd=>?_
 have I:=aD.trans aF;have aG:=j.on I;have aI:=y.on I;refine aE (AY.mk (AO aG.cell rfl) (AJ.mk (AO X rfl) ?_));refine rJ aI (by rw[KQ];omega) λi Y=>⟨_,_,_,rfl,ag.no rfl ?_⟩
 have w:=I.trans Y;have o:=j.on w;have aK:=y.on w;have J:=Am Y X;have be:=w.size;have bf:=y.db.mem.ext.size;refine aj.mk λK Z=>?_
 have L:=OG (mp:=Cm st) (n:=n) (r:=f n) (name:=name);have lost:Bd (Cm st) (FY n (f n) name)=false->K (true,()) i:=λaL=>by
  refine Z _ _ (ag.yes rfl (aE (FV.mk (AB o.cell rfl) ?_)));refine o.strike λO aM aa=>⟨rfl,?_⟩
  have Q:=o.bO bh (.inr (.inl rfl));exact av H aL O (aK.beside aa (λc a=>by subst a;exact⟨Q.1,Q.2.1⟩) λS=>Q.2.2 S.symm) aM ((w.ak λc _ a=>a.elim).trans (aa.ak λc _ a=> .inr a))
 have aN:Bd (Cm st) (FY n (f n) name)=true->K (false,()) i:=λab=>by
  refine Z _ _ (ag.no rfl (aE (AY.mk (AO o.cell rfl) (AJ.mk (AO J rfl) (AJ.mk (AB J rfl) (Ac.mk (AB J rfl) ?_))))));refine ao.mk λO _ aO T bg=>⟨AO (Am T o.cell) rfl,?_⟩
  have aP:Own BQ AR O ⟨some ⟨i.size,0,none⟩,1,1⟩ [FY n (f n) name]:=Own.lit (E:=BQ) (l:= [FY n (f n) name]) aO rfl (by simp[maxLen]);have ac:=w.trans T;refine Fx (E:=BQ) (s:=⟨some ⟨i.size,0,none⟩,1,1⟩) (src:=conds) M.G5 aP (vc.ext ac) (by simp only[A5,GO];omega) (by simp only[A5,GO,maxLen];omega) λaQ ad aR ae bi _=>?_
  have t:Ext h ad:=ac.then (ae.ak λc _ a=> .inr (by have:i.size=c:=(by simpa [Sl.ai] using a);omega));have aS:Ext i ad:=T.then (ae.ak λc _ a=> .inr (by have:i.size=c:=(by simpa [Sl.ai] using a);omega));have aT:=y.on t;have aU:=j.on t;refine⟨AO (Am aS o.cell) rfl,?_⟩;have bj:=t.size;have aV: ∀x∈ [FY n (f n) name]++e,x.key.size<=1099511627776:=λx aW=>by
   rcases List.mem_append.1 aW with h|h
   ·rw[List.mem_singleton.1 h];show(CE n).size<=_;rw[KQ];omega
   ·exact ar x h
  refine zF (B:=B) (conds:=aQ) (sl:=sl) E aT hA an ap aR.view (v.ext t) (λU aX aY=>by
   have:=aq U aX aY;exact⟨by omega,this.2.1⟩) aV (λU V aZ=>⟨_,rfl,aw H ab U V (t.trans aZ)⟩) λa0 V a1 af a2 a3 a4 a5 a6 a7 a8 ah ai=>⟨_,rfl,?_⟩
  refine ax H ab a0 V a1 af a2 a3 a4 a5 a6 a7 a8 (aU.step (k':=af) ah (λc a=>by
   rcases a with h|h|h
   ·exact .inl h
   ·exact .inr (.inl h)
   ·exact .inr (.inr (.inl h))) ai) ((t.ak λc _ a=>a.elim).trans (ah.ak λc _ a=>by
   rcases a with h|h|h
   ·exact .inl h
   ·exact .inr (.inl (by omega))
   ·exact .inr (.inr h))) λc a=>?_
  rcases ai c a with h|h
  ·exact .inl h
  ·exact .inr (by omega)
 refine ag.intro (λz=>?_) (λz=>?_)
 ·refine lost ?_;have S:(Iy (Cm st) (CE n)).2=false:=by simpa using z
  rw[L,S];rfl
 ·have ak:(Iy (Cm st) (CE n)).2=true:=by simpa using z
  cases C:bR (Iy (Cm st) (CE n)).1 (Jn (f n) name) with
  |true=>
   refine aN ?_;rw[Ca] at C;rw[L,ak,C];rfl
  |false=>
   refine lost ?_;rw[Ca] at C;rw[L,ak,C];rfl
theorem ATr {a:Nat}(h:a<=2147483647):J8 .u64 ((J8 .u64 (a:Int))*((2:Int)^(24:Nat)))=((a*16777216:Nat):Int):=by rw[CF (by omega),show((a:Int)*(2:Int)^(24:Nat))=((a*16777216:Nat):Int) from by rw[show((2:Int)^(24:Nat))=((16777216:Nat):Int) from by decide];simp];exact CF (by omega)
theorem rh {a b:Nat}(d:a<18446744073709551616)(e:b<18446744073709551616):eA .u64 (a:Int) (b:Int)=((a ||| b:Nat):Int):=by
 have h:a ||| b<2^64:=Kp (by simpa using d) (by simpa using e);unfold eA;have i:(BitVec.ofInt (IntKind.bits .u64) (a:Int) ||| BitVec.ofInt (IntKind.bits .u64) (b:Int)).toNat=a ||| b:=by show(BitVec.ofInt 64 (a:Int) ||| BitVec.ofInt 64 (b:Int)).toNat=a ||| b;rw[BitVec.toNat_or,BitVec.ofInt_natCast,BitVec.ofInt_natCast,BitVec.toNat_ofNat,BitVec.toNat_ofNat,As (by simpa using d),As (by simpa using e)]
 rw[i];exact CF (by simpa using h)
theorem AS8 {a x:Nat}(h:a<=2147483647)(d:x<16777216):eA .u64 ((a*16777216:Nat):Int) (x:Int)=((a*16777216+x:Nat):Int):=by rw[rh (by omega) (by omega)];congr 1;have:=A0I (i:=24) (b:=x) (by simpa using d) a;rw[show 2^24*a=a*16777216 from by rw[CH]] at this;exact this.symm
theorem AK1 {a:Nat}(b:Dw g h k s p bh bu name aH f u N)(r:f a<=2147483647)(x:u a+1<16777216)(y:N+1<=1000000)
  (z:f a=0->R (.int .u64 0) h)
  (C:f a≠0-> ∀d,Dw g d k s p bh bu name aH f (dD u a (u a+1)) (N+1)->Mod (λc=>c=bu) h d->R (.int .u64 ((f a*16777216+(u a+1):Nat):Int)) d):
  AA A P Gq #[Aq p,J6 J9 (a:Int)] h R:=by
 refine Uo ?_;unfold Na;refine Zd b ⟨_,rfl,ag.intro (λe=>?_) (λe=>?_)⟩
 ·exact z (by simpa using e)
 have E:f a≠0:=by simpa using e
 obtain⟨F,t,K,v⟩:=b.used;obtain⟨G,H,L,i⟩:=b.held;refine aE (FV.mk (AB b.cell rfl) ?_);refine MI mJ im oP t ⟨_,v a,?_⟩;rw[show((u a:Nat):Int)+(1:Int)=((u a+1:Nat):Int) from by omega,CF (by omega)];refine AKN mJ im t (by have:=b.cp;simp only[maxLen];omega) λI j l M=>?_
 have n:=H.mod l b.ne;have c4:=l.ai b.cell b.mZ.2;have w: ∀m:Nat,(Lm m (TR a (.int .u64 ((u a+1:Nat):Int)) F)).getD (.int .u64 0)= .int .u64 (dD u a (u a+1) m:Int):=λm=>zH v m
 have J:dD u a (u a+1) a=u a+1:=by unfold dD;rw[if_pos rfl]
 have key:eA .u64 (J8 .u64 ((J8 .u64 (f a:Int))*((2:Int)^(24:Nat)))) ((u a+1:Nat):Int)=((f a*16777216+(u a+1):Nat):Int):=by rw[ATr r,AS8 r x]
 have fin:=C E I ⟨c4,⟨G,n,by omega,i⟩,⟨_,j,AE Xu (by omega),w⟩,b.bO,b.ne,b.named,b.sh,y⟩ l;rw[<- key] at fin;have o:=w a;rw[J] at o;refine aE (FV.mk (AB c4 rfl) (aE (FV.mk (AB c4 rfl) ⟨?_,?_⟩)))
 ·refine MI mI im oO n ⟨_,i a,⟨AB c4 rfl,?_⟩⟩;exact MI mJ im oP j ⟨_,o,⟨AB c4 rfl,fin⟩⟩
 ·refine MI mJ im oP j ⟨_,o,⟨AB c4 rfl,?_⟩⟩;exact MI mI im oO n ⟨_,i a,⟨AB c4 rfl,fin⟩⟩
theorem GI.laid {b:List Pr}(e:Sorted b){d a:Nat}(i:1<=a)(j:a<=2147483647)(l:Ak name=true):GI (cz b [⟨CE d,Jn a name,false⟩]) d a name:=by refine .inr ⟨i,j,l,?_⟩;unfold Iy;rw[show cz b [⟨CE d,Jn a name,false⟩]=fh b ⟨CE d,Jn a name,false⟩ from rfl,PH e,if_pos rfl,Hw];rfl
theorem GI.other {a:List Pr}(j:Sorted a){b e:Nat}{i key val:A2P}{d:Bool}(L:GI a b e i)(l:key≠CE b):GI (cz a [⟨key,val,d⟩]) b e i:=by
 have n:Iy (cz a [⟨key,val,d⟩]) (CE b)=Iy a (CE b):=by unfold Iy;rw[show cz a [⟨key,val,d⟩]=fh a ⟨key,val,d⟩ from rfl,PH j,if_neg l]
 unfold GI;rw[n];exact L
theorem GI.empty {a:Nat}:GI [] a 0 ⟨#[]⟩:= .inl ⟨rfl,rfl,rfl⟩
theorem GI.holds {b:List Pr}{d a:Nat}(L:GI b d a name)(i:1<=a):Bd b (FY d a name)=true:=by
 rw[OG];rcases L with⟨h,_,e⟩|⟨_,j,_,e⟩
 ·omega
 ·rw[e];simp
end
end Go.Lf.G
