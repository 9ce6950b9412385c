/-
 Contracts: programs of steps (chapter 12).
-/
import Derived.Test.YtgpmoonnachoaaaGreatDoorLfU2ToS3
import Derived.Test.YtgpmoonnachoaaaGreatDoorLfKToGA
import Derived.Test.YtgpmoonnachoaaaGreatDoorLfZ11ToU32
import Derived.WideKeyEntry
import Derived.Test.YtgpmoonnachoaaaGreatDoorLfU15ToZ10
set_option maxRecDepth 100000
set_option linter.unusedVariables false
set_option linter.unusedSimpArgs false
open Go.IntKind renaming i64→J9,wrap→J8
open Go.Value renaming string→J7,int→J6,pointer→J5,slice→J4,bool→J3,tuple→J1
open Go.Obj renaming cells→J2
open Go renaming Value→J0,Addr→Q6,TypeId→Q7,FuncId→Q8,Program→Q1
open Go.Addr renaming add→Q9,mk→Q5
namespace Go.Lf.G
open Go
theorem oF {s:A2Q}:bO s (⟨#[]⟩:A2Q)=decide (s=Ho):=CU
theorem yl {s:A2Q}:s=Ho↔s.size=0:=by
 constructor
 ·rintro rfl;rfl
 ·intro a;have:bl s= []:=CH (by rw[A7];exact a);rw[<- EE s];show AX (bl s)=_;rw[this];rfl
theorem FL {r:aq}{e:aa}{s:A2Q}{p:A2P}(a:p (J3 (Ak s)) e):AA r P Bj #[J7 s] e p:=by
 refine AEl ?_;unfold XX;rw[oF];refine ai.mk λK t=>?_
 have key: ∀h:Bool,(h=true↔s.size=0\/16<s.size)->K (h,()) e:=λh z=>by
  refine t _ _ ?_;refine af.intro (λb=>?_) (λb=>?_)
  ·have d:Ak s=false:=by
    rw[OR]
    grind [FQ]
   rw[d] at a;exact a
  have A: ¬(s.size=0\/16<s.size):=λg=>by simp_all
  refine Loop.rule (λm x g=> ∃i:Nat,x=((i:Int),())/\g=e/\m=s.size-i/\i<=s.size/\ ∀c∈(bl s).take i,33<=c.toNat/\c.toNat<=126) ?_ ⟨0,rfl,rfl,rfl,by omega,by simp⟩;rintro B m _ g ⟨i,rfl,d,rfl,C,D⟩ u;subst g;refine af.intro (λj=>?_) (λj=>?_)
  ·have k:i<s.size:=by simpa using j
   obtain⟨c,l⟩: ∃c,(bl s)[i]? =some c:=⟨_,A2 (by rw[A7];exact k)⟩;have E:c∈bl s:=AM l;dsimp only;rw[Nu l];refine ai.mk λv w=>⟨⟨by omega,by omega⟩,?_⟩
   have q: ∀n:Bool,(n=true↔ ¬(33<=c.toNat/\c.toNat<=126))->v (n,()) e:=λn F=>by
    refine w _ _ ?_;refine af.intro (λb=>?_) (λb=>?_)
    ·have d:Ak s=false:=by
      rw[OR]
      grind [FQ]
     rw[d] at a;exact a
    ·rw[Aa (by omega)];refine u (s.size-(i+1)) _ _ (by omega) ⟨i+1,rfl,rfl,rfl,k,λx y=>?_⟩;rw[Ax,l,Ds] at y
     grind
   refine af.intro (λo=>q _ ⟨λ_=>by simp at o;omega,λ_=>rfl⟩) (λo=>⟨⟨by omega,by omega⟩,q _ ⟨λf=>by simp at f;omega,λf=>by simp at o;simp;omega⟩⟩)
  ·have k:i=s.size:=by simp at j;omega
   have d:Ak s=true:=by grind [FQ,List.take_of_length_le,A7]
   rw[d] at a;exact a
 refine af.intro (λb=>key _ ⟨λ_=> .inl (by simpa [yl] using b),λ_=>rfl⟩) (λb=>key _ ⟨λf=>by simp at f;omega,λf=>?_⟩)
 simp_all [decide_eq_false_iff_not,yl,decide_eq_true_eq];omega
theorem O7 {h:aq}{f:aa}{a c b:Int}{g:A2P}(d:g (J3 (bV a c b)) f):AA h P Gj #[J6 J9 a,J6 J9 c,J6 J9 b] f g:=by
 refine ACZ ?_;unfold Vm;refine af.intro (λi=>?_) (λi=>?_)
 ·have e:bV a c b=decide (a<=b):=by simp_all [bV,decide_eq_decide]
  rw[e] at d;exact d
 ·have e:bV a c b=false:=by grind [bV]
  rw[e] at d;exact d
def bP.fv(x:bP):List Fv:= [.i x.kind,.s x.name,.s x.aL,.i x.tries,.i x.aA,.i x.wait]
theorem yn:P.underlying Bo=some (.struct (P.fieldsOf Bo)):=by kernel_rfl
theorem yo(x:bP):qK P Bo (bP.fv x)=true:=by kernel_rfl
theorem AMr {q:aq}{l:aa}{x:bP}{m:A2P}(r: ∀n,Ext l n->m (J3 (NA x)) n):
  AA q P Rc #[.agg #[J6 J9 x.kind,J7 x.name,J7 x.aL,J6 J9 x.tries,J6 J9 x.aA,J6 J9 x.wait]] l m:=by
 refine AET ?_;unfold Ym;refine al.mk λj _ a s _=>?_
 have b:=r j s;refine AC.mk (AO a rfl) ?_;unfold NA at b;refine af.intro (λh=>?_) (λh=>?_)
 ·have h:x.kind=1:=by simpa using h
  rw[if_pos h] at b;refine ai.mk λK t=>?_
  have key:K (((decide (x.aL=Ho)&&decide (x.aA=0))||(Ak x.aL&&bV x.aA 1 5)),()) j:=by
   refine t _ _ ?_;refine AJ.mk (AB a rfl) (FL ⟨_,rfl,?_⟩);cases d:Ak x.name with
   |false=>rw[d] at b;simpa [af] using b
   |true=>
    refine af.yes rfl (AC.mk (AB a rfl) (O7 ⟨_,rfl,?_⟩));cases o:bV x.tries 1 5 with
    |false=>rw[d,o] at b;simpa [af] using b
    |true=>
     refine af.yes rfl ?_;refine af.intro (λc=>?_) (λc=>?_)
     ·refine AC.mk (AB a rfl) ?_;rw[d,o] at b;have c:((decide (x.aL=Ho)&&decide (x.aA=0))||(Ak x.aL&&bV x.aA 1 5))=true:=c;rw[c] at b;have e:(x.wait==(0:Int))=decide (x.wait=0):=by grind
      rw[e];simpa using b
     ·have c:((decide (x.aL=Ho)&&decide (x.aA=0))||(Ak x.aL&&bV x.aA 1 5))=false:=c;rw[c] at b;simpa using b
  have sub: ∀ {p:Bool},p=(Ak x.aL&&bV x.aA 1 5)->((decide (x.aL=Ho)&&decide (x.aA=0))=false)->K (p,()) j:=λu v=>by
   rw[v,SU,<-u] at key;exact key
  refine AJ.mk (AB a rfl) ?_;rw[oF];refine af.intro (λi=>?_) (λi=>?_)
  ·refine AC.mk (AB a rfl) ?_;refine af.intro (λk=>?_) (λk=>?_)
   ·have e:decide (x.aA=0)=true:=by simpa using k
    rw[i,e] at key;simpa using key
   ·have e:decide (x.aA=0)=false:=by simpa using k
    refine AJ.mk (AB a rfl) (FL ⟨_,rfl,?_⟩);refine af.intro (λd=>?_) (λd=>?_)
    ·exact AC.mk (AB a rfl) (O7 ⟨_,rfl,sub (by rw[d,Ek]) (by rw[e,OS])⟩)
    ·exact sub (by rw[d,Fl]) (by rw[e,OS])
  ·refine AJ.mk (AB a rfl) (FL ⟨_,rfl,?_⟩);refine af.intro (λd=>?_) (λd=>?_)
   ·exact AC.mk (AB a rfl) (O7 ⟨_,rfl,sub (by rw[d,Ek]) (by rw[i,Fl])⟩)
   ·exact sub (by rw[d,Fl]) (by rw[i,Fl])
 ·have h:x.kind≠1:=by simpa using h
  rw[if_neg h] at b;refine af.intro (λf=>?_) (λf=>?_)
  ·have f:x.kind=2:=by simpa using f
   rw[if_pos f] at b;refine AC.mk (AO a rfl) (AJ.mk (AB a rfl) (AJ.mk (AB a rfl) (AC.mk (AB a rfl) (AC.mk (AB a rfl) (AC.mk (AB a rfl) (AC.mk (AB a rfl) ?_))))));refine wq (xs:=bP.fv x) (ys:= [.i 2,.s Ho,.s Ho,.i 0,.i 0,.i x.wait]) yn (yo x) rfl rfl rfl ⟨_,rfl,?_⟩;have e:decide (bP.fv x= [.i 2,.s Ho,.s Ho,.i 0,.i 0,.i x.wait])=(decide (x.name=Ho)&&decide (x.aL=Ho)&&decide (x.tries=0)&&decide (x.aA=0)):=by rw[DQ];simp[bP.fv,f,and_assoc]
   rw[e];refine af.intro (λc=>?_) (λc=>?_)
   ·rw[c,Ek] at b;exact AC.mk (AB a rfl) (O7 ⟨_,rfl,b⟩)
   ·rw[c,Fl] at b;exact b
  ·have f:x.kind≠2:=by simpa using f
   rw[if_neg f] at b;refine af.intro (λg=>?_) (λg=>?_)
   ·have g:x.kind=3:=by simpa using g
    rw[if_pos g] at b;refine AC.mk (AO a rfl) (AJ.mk (AB a rfl) (AJ.mk (AB a rfl) (AC.mk (AB a rfl) (AC.mk (AB a rfl) (AC.mk (AB a rfl) (AJ.mk (AB a rfl) ?_))))));refine wq (xs:=bP.fv x) (ys:= [.i 3,.s x.name,.s Ho,.i 0,.i 0,.i 0]) yn (yo x) rfl rfl rfl ⟨_,rfl,?_⟩;have e:decide (bP.fv x= [.i 3,.s x.name,.s Ho,.i 0,.i 0,.i 0])=(decide (x.aL=Ho)&&decide (x.tries=0)&&decide (x.aA=0)&&decide (x.wait=0)):=by rw[DQ];simp[bP.fv,g,and_assoc]
    rw[e];refine af.intro (λc=>?_) (λc=>?_)
    ·rw[c,Ek] at b;exact AJ.mk (AB a rfl) (FL ⟨_,rfl,b⟩)
    ·rw[c,Fl] at b;exact b
   ·have g:x.kind≠3:=by simpa using g
    rw[if_neg g] at b;exact b
abbrev APD(x:bP):Array J0:= #[J6 J9 x.kind,J7 x.name,J7 x.aL,J6 J9 x.tries,J6 J9 x.aA,J6 J9 x.wait]
theorem yq:QE P Gg Bo QP.w 64=true:=by kernel_rfl
theorem yt {b:aa}{a:Q6}{x:bP}(c:Cells b a (QP.enc x)):ag b a=some (J6 J9 x.kind)/\ag b (a.add 1)=some (J7 x.name)/\ag b (a.add 2)=some (J7 x.aL)/\ag b (a.add 3)=some (J6 J9 x.tries)/\ag b (a.add 4)=some (J6 J9 x.aA)/\ag b (a.add 5)=some (J6 J9 x.wait):=by refine⟨?_,c 1 _ rfl,c 2 _ rfl,c 3 _ rfl,c 4 _ rfl,c 5 _ rfl⟩;have:=c 0 _ rfl;rwa [add_zero] at this
theorem yu {D:aq}{f:aa}{s:Sl}{p:cj}{u:A2P}(v:View QP f s p.steps)(W:p.steps.length<=1099511627776)(n: ∀w,Ext f w->u (J6 J9 (if F4 p then 0 else 130)) w):
  AA D P OA #[.agg #[J4 s.p s.len s.cap,J6 J9 p.az]] f u:=by
 refine AEj ?_;unfold YX;refine al.mk λy _ g z _=>?_
 refine ai.mk λK E=>AZ.mk (s:=s) (AO g rfl) ?_
 rw[v.len];have key: ∀o:Bool,(o=true↔ ¬(p.steps.length<=16/\bV p.az 0 16000=true))->K (o,()) y:=λo F=>by
  refine E _ _ ?_;refine af.intro (λh=>?_) (λh=>?_)
  ·have d:=n y z;rw[if_neg] at d
   ·exact d
   ·intro j;simp only[F4,A4,decide_eq_true_eq] at j;exact F.1 h j.1
  have G:p.steps.length<=16/\bV p.az 0 16000=true:=Decidable.byContradiction λk=>by
   simp_all
  refine AZ.mk (s:=s) (AO g rfl) ?_;refine Loop.rule (λm x k=> ∃i:Nat,x=((i:Int),())/\Ext f k/\m=p.steps.length-i/\i<=p.steps.length/\(p.steps.take i).all NA=true) ?_ ⟨0,rfl,z,rfl,by omega,rfl⟩;rintro X m _ k ⟨i,rfl,l,rfl,Y,q⟩ H;rw[v.len];refine af.intro (λr=>?_) (λr=>?_)
  ·have t:i<p.steps.length:=by simpa using r
   obtain⟨x,A⟩: ∃x,p.steps[i]? =some x:=⟨_,A2 t⟩;rw[<- v.len];refine(v.ext l).idx A λa _ c=>?_
   obtain⟨I,J,c2,L,c4,M⟩:=yt c;refine AC.mk I (AJ.mk J (AJ.mk c2 (AC.mk L (AC.mk c4 (AC.mk M ?_)))));refine al.mk λN _ O Q _=>ae.oW O λR e S Z=>?_
   refine AC.mk (AO e rfl) (AJ.mk (AB e rfl) (AJ.mk (AB e rfl) (AC.mk (AB e rfl) (AC.mk (AB e rfl) (AC.mk (AB e rfl) ?_)))));have T:Ext f R:=(l.trans Q).more S λb g=>by subst g;exact l.size
   refine AMr (x:=x) λU V=>⟨_,rfl,?_⟩
   have B:=T.trans V;refine af.intro (λC=>?_) (λC=>?_)
   ·have d:=n U B;rw[if_neg] at d
    ·exact d
    ·intro j;simp only[F4,A4,decide_eq_true_eq,Fo] at j
     grind
   ·dsimp only;rw[Aa (by omega)];refine H (p.steps.length-(i+1)) _ _ (by omega) ⟨i+1,rfl,B,rfl,t,?_⟩;rw[Ax,A,Ds,List.all_append,q];simpa using C
  ·have t:i=p.steps.length:=by simp at r;omega
   rw[AF (by omega)] at q;have d:=n k l;rw[if_pos (by simp only[F4,A4,decide_eq_true_eq];exact⟨G,q⟩)] at d;exact d
 refine af.intro (λh=>key _ ⟨λ_ N=>by simp at h;omega,λ_=>rfl⟩) (λh=>?_);refine AC.mk (AB g rfl) (O7 ⟨_,rfl,key _ ?_⟩)
 grind
structure XA (h:aa) (b rb b1:Nat) (lim:Int) (s:Sl) (l:List bP) (hh:aa) (r:Rd):Prop where
 ext:Ext h hh
 zero:hh[b]? =some (J2 #[J4 none 0 0,J6 J9 0] Ey (0,0))
 rd:Ia hh rb r
 var:hh[b1]? =some (J2 #[J4 s.p s.len s.cap,J6 J9 lim] Ey (0,0))
 own:Own QP Bo hh s l
 fresh: ∀c,s.ah=some c->h.size<=c/\c≠b/\c≠rb/\c≠b1
 ne:h.size<=b/\h.size<=rb/\h.size<=b1/\b≠rb/\b≠b1/\rb≠b1
theorem XA.read {g:aa}{b d h:Nat}{i:Int}{s:Sl}{l:List bP}{j e:aa}{n k:Rd}(a:XA g b d h i s l j n)(o:Ia e d k)(m:Mod (· =d) j e):XA g b d h i s l e k:=
 ⟨a.ext.more m λc f=>by subst f;exact a.ne.2.1,m.ah a.zero a.ne.2.2.2.1,o,m.ah a.var a.ne.2.2.2.2.2.symm,a.own.mod m λc f=>(a.fresh c f).2.2.1,a.fresh,a.ne⟩
theorem XA.other {e:aa}{b f g c:Nat}{i:Int}{s:Sl}{l:List bP}{j k:aa}{n:Rd}(a:XA e b f g i s l j n)(m:Mod (· =c) j k)(d:e.size<=c/\c≠b/\c≠f/\c≠g/\s.ah≠some c):XA e b f g i s l k n:=
 ⟨a.ext.more m λo h=>by subst h;exact d.1,m.ah a.zero d.2.1.symm,m.ah a.rd d.2.2.1.symm,m.ah a.var d.2.2.2.1.symm,a.own.mod m λo h p=>d.2.2.2.2 (by rw[h,p]),a.fresh,a.ne⟩
theorem XA.on {a:aa}{b d e:Nat}{f:Int}{s:Sl}{l:List bP}{g h:aa}{i:Rd}(c:XA a b d e f s l g i)(m:Ext g h):XA a b d e f s l h i:=
 ⟨c.ext.trans m,m.ah c.zero (λa=>a),m.ah c.rd (λa=>a),m.ah c.var (λa=>a),c.own.ext m,c.fresh,c.ne⟩
theorem XA.new {d:aa}{b e f:Nat}{g:Int}{s:Sl}{l:List bP}{a:aa}{h:Rd}(c:XA d b e f g s l a h):d.size<=a.size/\a.size≠b/\a.size≠e/\a.size≠f/\s.ah≠some a.size:=by
 refine⟨c.ext.size,?_,?_,?_,λi=>?_⟩
 ·have:=Ah c.zero;omega
 ·have:=Ah c.rd;omega
 ·have:=Ah c.var;omega
 ·have:=c.own.lt i;omega
theorem ANC {b c d:Nat}{e:Bool}(a:Rd):(Mh b c d e a).2.rest.length<=a.rest.length:=by grind [II,Mh,VF,CQ,GY]
def yw(a:Option cj)(s:Sl):J0:=match a with
 |none=>J1 #[.agg #[J4 none 0 0,J6 J9 0],J6 J9 60]
 |some p=>J1 #[.agg #[J4 s.p s.len s.cap,J6 J9 p.az],J6 J9 0]
theorem AKf {A:aq}{h:aa}{l:List UInt8}{R:A2P}(bB:l.length<1099511627776)
  (ap: ∀O s,Ext h O->(∀ p,JE l=some p->View QP O s p.steps/\ ∀c,s.ah=some c->h.size<=c)->R (yw (JE l) s) O):AA A P Jq #[J7 (AX l)] h R:=by
 refine ADP ?_;unfold Vl;refine al.mk λz _ ar ab aO=>?_
 refine Jp λaP ac ad=>⟨_,rfl,?_⟩
 refine DN (most:=16000) ac (by simp;omega) (by decide) λQ au S=>⟨_,rfl,?_⟩
 refine al.mk λbC _ av T aQ=>ae.two av λaR aw U aS=>?_
 have bD:z.size<aP.size:=Ah ac;have bE:=S.size;have bF:=ab.size;have ax:XA h h.size z.size Q.size ((CQ 16000 ⟨l,false⟩).1:Int) ⟨none,0,0⟩ [] aR (CQ 16000 ⟨l,false⟩).2:=by
  have aT:Q[h.size]? =some (J2 #[J4 none 0 0,J6 J9 0] Ey (0,0)):=S.ah (ad.ah ar (λh=>h)) (by omega);have aU:=T.ah au (λh=>h);have ay:Ext h Q:=(ab.trans ad).more S λc a=>by subst a;omega
  refine⟨(ay.trans T).more U λc a=>by subst a;exact ay.size,U.ah (T.ah aT (λh=>h)) (by omega),U.ah aU (by omega),aw,Own.nil,λc a=>by simp[Sl.ah] at a,by omega,by omega,by omega,by omega,by omega,by omega⟩
 have bG:(CQ 16000 ⟨l,false⟩).2.rest.length<=l.length:=II 16000 ⟨l,false⟩;refine DN (most:=16) ax.rd (by omega) (by decide) λbH az aA=>⟨_,rfl,?_⟩
 have aV:=ax.read az aA;have bI:=II 16 (CQ 16000 ⟨l,false⟩).2;generalize bJ:(CQ 16000 ⟨l,false⟩).1=i at*
 generalize bK:(CQ 16000 ⟨l,false⟩).2=t at*
 have aW:(CQ 16 t).1<=16:=by
  unfold CQ
  grind
 have G:Yf 16000 3 5 1000 false l=(⟨(Ht 3 5 1000 false (CQ 16 t).1 (CQ 16 t).2).1,i⟩,(Ht 3 5 1000 false (CQ 16 t).1 (CQ 16 t).2).2):=by grind [Yf]
 generalize bL:h.size=b at*
 generalize bM:z.size=H at*
 generalize B:Q.size=I at*
 clear ar ac au av aw ab ad T S U aA aO aQ aS az;refine Loop.rule (λm x ag=> ∃(j:Nat) (s:Sl) (f:List bP) (d:Rd),x=((j:Int),())/\XA h b H I i s f ag d/\m=j/\d.rest.length<=l.length/\f.length+j<=16/\
  Yf 16000 3 5 1000 false l=(⟨f++(Ht 3 5 1000 false j d).1,i⟩,(Ht 3 5 1000 false j d).2)) ?_ ⟨(CQ 16 t).1,⟨none,0,0⟩,[],(CQ 16 t).2,rfl,aV,rfl,by omega,by simpa using aW,G⟩
 rintro K m _ ag ⟨j,s,f,d,rfl,n,bN,bO,bQ,G⟩ aX;refine af.intro (λah=>?_) (λah=>?_)
 ·have aC:0<j:=by simp at ah;omega
  obtain⟨k,rfl⟩: ∃k,j=k+1:=⟨j-1,by omega⟩;refine DN (most:=3) n.rd (by omega) (by decide) λaj aY aZ=>⟨_,rfl,?_⟩
  have g:=n.read aY aZ;have bR:=II 3 d;refine al.mk λV _ u a0 bS=>ae.oW u λa1 B a2 bT=>?_
  have a:=g.new;have v:=(g.on a0).other a2 a;generalize aj.size=a3 at*
  refine AC.mk (AO B rfl) ?_;refine ai.mk λa4 a5=>?_
  have fin: ∀(x:bP) (C:Rd) (o:aa),XA h b H I i s f o C->o[a3]? =some (J2 (APD x) Bo (0,0))->Mh 3 5 1000 false d=(x,C)->a4 () o:=λx C o e q w=>by
   refine a5 _ _ ?_;refine AZ.mk (s:=s) (AO e.var rfl) ?_;refine AC.mk (AO q rfl) (AJ.mk (AB q rfl) (AJ.mk (AB q rfl) (AC.mk (AB q rfl) (AC.mk (AB q rfl) (AC.mk (AB q rfl) ?_)))));refine al.aY (E:=QP) (x:=x) (s:=s) (l:=f) rfl yq e.own (by omega) (by simp[maxLen];omega) λaD O a6 W q bU=>?_
   have a7:s.ah≠some I:=λa=>(e.fresh _ a).2.2.2 rfl
   have a8:s.ah≠some b:=λa=>(e.fresh _ a).2.1 rfl
   have a9:s.ah≠some H:=λa=>(e.fresh _ a).2.2.1 rfl
   have aE: ∀c,aD.ah=some c->h.size<=c/\c≠b/\c≠H/\c≠I:=λc a=>by
    rcases q c a with z|z
    ·exact e.fresh c z
    ·have bV:=Ah e.zero;have bW:=Ah e.rd;have bX:=Ah e.var;have bY:=e.ext.size;omega
   refine ae.mk (W.ah e.var a7) (by simp) λbZ ba X b0=>?_
   rw[show((((k+1:Nat):Int),()):Int×Unit).1-(1:Int)=((k:Nat):Int) by simp,Fb (by omega)];have bb:Ht 3 5 1000 false (k+1) d=(x::(Ht 3 5 1000 false k C).1,(Ht 3 5 1000 false k C).2):=by simp only[Ht,w]
   refine aX k _ _ (by omega) ⟨k,aD,f++ [x],C,rfl,⟨?_,?_,?_,by simpa using ba,?_,aE,e.ne⟩,rfl,?_,by simp;omega,?_⟩
   ·exact(e.ext.more W λc a=>(e.fresh c a).1).more X λc a=>by omega
   ·exact X.ah (W.ah e.zero a8) e.ne.2.2.2.2.1
   ·exact X.ah (W.ah e.rd a9) e.ne.2.2.2.2.2
   ·exact a6.mod X λc a=>(aE c a).2.2.2
   ·grind [ANC]
   ·rw[G,bb];simp
  refine af.intro (λy=>?_) (λy=>?_)
  ·have ak:(CQ 3 d).1=1:=by simp at y;omega
   have b1:=(VF (CQ 3 d).2).1;have b2:=II 5 (GY (CQ 3 d).2).2;have b3:=(VF (CQ 5 (GY (CQ 3 d).2).2).2).1;refine G7 v.rd (by omega) λaF J r=>⟨_,rfl,?_⟩
   have D:=v.read J r;have L:=r.ah B a.2.2.1;refine DN (most:=5) D.rd (by omega) (by decide) λY bc F=>⟨_,rfl,?_⟩
   have bd:=D.read bc F;have M:=F.ah L a.2.2.1;refine ae.bL M (by simp) rfl λb4 be bf b5=>ae.bL be (by simp) rfl λb6 bg bh b7=>?_
   have aG:=(bd.other bf a).other bh a;refine G7 aG.rd (by omega) λb8 bi aH=>⟨_,rfl,?_⟩
   have aI:=aG.read bi aH;have bj:=aH.ah bg a.2.2.1;refine DN (most:=5) aI.rd (by omega) (by decide) λb9 bk aJ=>⟨_,rfl,?_⟩
   have bm:=aI.read bk aJ;have bn:=aJ.ah bj a.2.2.1;refine ae.bL bn (by simp) rfl λca bo bp cb=>ae.bL bo (by simp) rfl λbq br bs cc=>?_
   have bt:=(bm.other bp a).other bs a;refine fin ⟨1,AX (GY (CQ 3 d).2).1,AX (GY (CQ 5 (GY (CQ 3 d).2).2).2).1,(CQ 5 (GY (CQ 3 d).2).2).1,(CQ 5 (GY (CQ 5 (GY (CQ 3 d).2).2).2).2).1,0⟩ _ bq bt ?_ ?_
   ·rw[br,ak];rfl
   ·simp only[Mh];rw[if_pos ak]
  ·have ak:(CQ 3 d).1≠1:=by simp at y;omega
   refine af.intro (λam=>?_) (λam=>?_)
   ·have aK:(CQ 3 d).1=2:=by simp at am;omega
    refine DN (most:=1000) v.rd (by omega) (by decide) λaF J r=>⟨_,rfl,?_⟩
    have D:=v.read J r;have L:=r.ah B a.2.2.1;refine ae.bL L (by simp) rfl λY M F bu=>?_
    refine fin ⟨2,Ho,Ho,0,0,(CQ 1000 (CQ 3 d).2).1⟩ _ Y (D.other F a) ?_ ?_
    ·rw[M,aK];rfl
    ·simp only[Mh]
     grind
   ·have aK:(CQ 3 d).1≠2:=by simp at am;omega
    refine af.intro (λan=>?_) (λan=>?_)
    ·have bv:(CQ 3 d).1=3:=by simp at an;omega
     refine G7 v.rd (by omega) λaF J r=>⟨_,rfl,?_⟩
     have D:=v.read J r;have L:=r.ah B a.2.2.1;refine ae.bL L (by simp) rfl λY M F bu=>?_
     refine fin ⟨(CQ 3 d).1,AX (GY (CQ 3 d).2).1,Ho,0,0,0⟩ _ Y (D.other F a) ?_ ?_
     ·rw[M];rfl
     ·simp only[Mh]
      grind
    ·have bv:(CQ 3 d).1≠3:=by simp at an;omega
     refine fin ⟨(CQ 3 d).1,Ho,Ho,0,0,0⟩ _ a1 v B ?_;simp only[Mh]
     grind
 ·have aC:j=0:=by simp at ah;omega
  subst aC;simp only[Ht,AK] at G;refine ai.mk λbw aL=>?_
  refine MQ n.rd ⟨_,rfl,?_⟩;have aM:JE l=if Ya d&&F4 ⟨f,i⟩ then some ⟨f,i⟩ else none:=by unfold JE;rw[G]
  have aN:JE l=none-> ∀o,XA h b H I i s f o d->bw (true,()) o:=λw o e=>by
   refine aL _ _ (af.yes rfl ?_);refine ae.two e.zero λV u Z bx=>AZ.mk (s:=⟨none,0,0⟩) (AO u rfl) (AC.mk (AB u rfl) ?_)
   have:=ap V ⟨none,0,0⟩ (e.ext.more Z λc a=>by subst a;exact e.ne.1) (λp N=>by rw[w] at N;cases N);rw[w] at this;exact this
  refine af.intro (λy=>?_) (λy=>?_)
  ·have ao:Ya d=false:=by simpa using y
   exact aN (by rw[aM,ao];rfl) ag n
  ·have ao:Ya d=true:=by simpa using y
   refine AZ.mk (s:=s) (AO n.var rfl) (AC.mk (AB n.var rfl) ?_);refine yu (p:=⟨f,i⟩) n.own.view (by simp only;omega) λaj bz=>⟨_,rfl,?_⟩
   have g:=n.on bz;cases bA:F4 ⟨f,i⟩ with
   |false=>exact aN (by grind) aj g
   |true=>
    refine aL _ _ (af.no rfl ?_);have w:JE l=some ⟨f,i⟩:=by rw[aM,ao,bA];rfl
    refine AZ.mk (s:=s) (AO g.var rfl) (AC.mk (AB g.var rfl) ?_);refine ae.two g.zero λV u Z bx=>AZ.mk (s:=s) (AO u rfl) (AC.mk (AB u rfl) ?_)
    have:=ap V s (g.ext.more Z λc a=>by subst a;exact g.ne.1) (λp N=>by
     rw[w] at N;obtain rfl:=C2 N;exact⟨(g.own.mod Z λc a=>(g.fresh c a).2.1).view,λc a=>by have:=(g.fresh c a).1;omega⟩)
    rw[w] at this;exact this
def fN(a:Int):Int:=(if cX a then 1 else 0)+(if dq a then 2 else 0)+(if dF a then 4 else 0)+(if dV a then 8 else 0)+(if eg a then 16 else 0)
theorem rr(d:Int):Gd J9 (fN d) 1=(if cX d then 1 else 0)/\Gd J9 (fN d) 2=(if dq d then 2 else 0)/\Gd J9 (fN d) 4=(if dF d then 4 else 0)/\Gd J9 (fN d) 8=(if dV d then 8 else 0)/\Gd J9 (fN d) 16=(if eg d then 16 else 0):=by unfold fN;generalize cX d=a;generalize dq d=b;generalize dF d=c;generalize dV d=e;generalize eg d=f;cases a<;>cases b<;>cases c<;>cases e<;>cases f<;>decide
theorem mC {b:Bool}{a:Int}(c:a≠0):((if b then a else 0)==(0:Int))= !b:=by cases b<;>simp[c]
theorem MX {b:Bool}{a:Int}(c:a≠0):((if b then a else 0) != (0:Int))=b:=by cases b<;>simp[c]
theorem XK {i:aq}{f:aa}{a:Int}{g:A2P}(c:g (J1 #[J6 J9 (fN a),J3 (bV a 1 18)]) f):AA i P I6 #[J6 J9 a] f g:=by
 refine ABR ?_;unfold Us;have d:a=1\/a=2\/a=3\/a=4\/a=5\/a=6\/a=7\/a=8\/a=9\/a=10\/a=11\/a=12\/a=13\/a=14\/a=15\/a=16\/a=17\/a=18\/ ¬(1<=a/\a<=18):=by omega
 by_cases h:1<=a/\a<=18
 ·rcases d with rfl|rfl|rfl|rfl|rfl|rfl|rfl|rfl|rfl|rfl|rfl|rfl|rfl|rfl|rfl|rfl|rfl|rfl|d
  all_goals (try exact absurd h d)
  all_goals repeat first|exact c|(refine ai.mk λK e=>?_)|(refine af.yes (by decide) ?_)|(refine af.no (by decide) ?_)|(refine e _ _ ?_)
 ·have j:bV a 1 18=false:=by unfold bV;simpa using h
  have k:fN a=0:=by unfold fN cX dq dF dV eg;rw[decide_eq_false (by omega),decide_eq_false (by omega),decide_eq_false (by omega),decide_eq_false (by omega),decide_eq_false (by omega)];rfl
  rw[j,k] at c;have ne: ∀b:Int,1<=b->b<=18->(a==b)=false:=λb l m=>by
   rw[beq_eq_false_iff_ne];omega
  repeat first|exact c|(refine ai.mk λK e=>?_)|(refine af.no (ne _ (by decide) (by decide)) ?_)|(refine e _ _ ?_)
theorem yx {A:aq}{h:aa}{s:A2Q}{R:A2P}(b:s.size<1099511627776)
  (d: ∀a sl,Ext h a->(∀ p,JE (bl s)=some p->View QP a sl p.steps/\ ∀c,sl.ah=some c->h.size<=c)->R (yw (JE (bl s)) sl) a):AA A P Jq #[J7 s] h R:=by
 have:=AKf (A:=A) (h:=h) (l:=bl s) (R:=R) (by rw[A7];exact b) d;rwa [Ku] at this
theorem KS {A:aq}{h:aa}{s:A2Q}{R:A2P}(b:s.size<=1099511627776)(c: ∀a,Ext h a->R (J7 (AX (BU (bl s)))) a):AA A P CE #[J7 s] h R:=by have:=Qy (A:=A) (h:=h) (l:=bl s) (R:=R) (by rw[A7];exact b) c;rwa [Ku] at this
theorem ru {l:aq}{h:aa}{b:Nat}{f a g c j:Int}{fl:Bool}{T:Q7}{fr:Nat×Nat}{k:A2P}(m:h[b]? =some (J2 #[J6 J9 f] T fr))(n:(Gd J9 f j==(0:Int))= !fl)
  (d:k (J3 (cY fl a g c)) h):Ec l P (.func (.func IG) #[] #[J5 (some ⟨b,0,none⟩)]) #[J6 J9 a,J6 J9 g,J6 J9 c,J6 J9 j] h k:=by
 refine Ec.func (first:= #[]) (bT:= #[Ar b]) (by kernel_rfl) ?_;refine ZX ?_;unfold SQ;refine aD (AC.mk (AO m rfl) ?_);rw[n];cases fl with
 |false=>
  refine af.yes rfl ?_;have e:(a==(0:Int))=decide (a=0):=by by_cases o:a=0<;>simp[o]
  rw[e];exact d
 |true=>
  refine af.no rfl ?_;refine af.intro (λi=>?_) (λi=>?_)
  ·have e:cY true a g c=decide (a<=c):=by simp at i;simp only[cY,if_true,bV];rw[decide_eq_decide];omega
   rw[e] at d;exact d
  ·have e:cY true a g c=false:=by simp at i;simp only[cY,if_true,bV];simp;omega
   rw[e] at d;exact d
abbrev oG(a:Ev):J0:= .agg #[J6 J9 a.id,J6 J9 a.kind,J6 J9 a.tick,J6 J9 a.ref,J6 J9 a.step,J6 J9 a.turn,J3 a.aL,J7 a.data]
theorem Zu {O:aq}{h:aa}{e:Ev}{t:A2P}(hd:e.data.size<1099511627776)(u: ∀d,Ext h d->t (J6 J9 (if Ej e then 0 else 120)) d):AA O P Jv #[oG e] h t:=by
 refine ACh ?_;unfold Wd;refine al.mk λv _ E F aF=>?_
 refine AC.mk (AB E rfl) (XK ⟨_,_,rfl,?_⟩);refine al.mk λaG _ Q G aH=>?_
 refine ae.mk Q (by simp) λf j H aI=>?_
 have o:Ext h f:=(F.trans G).more H λc q=>by subst q;exact F.size
 have R:h.size≠v.size:=by omega
 have b:=H.ah (G.ah E (λh=>h)) R;have j:f[v.size]? =some (J2 #[J6 J9 (fN e.kind)] Bq (0,0)):=j;obtain⟨S,T,U,V,W⟩:=rr e.kind;refine ai.mk λK I=>?_
 have g:Ee e=false->K (true,()) f:=λw=>by
  refine I _ _ (af.yes rfl ?_);have:=u f o;have r:Ej e=false:=by simp[Ej,w]
  rw[r] at this;exact this
 have aS:Ee e=true->K (false,()) f:=λw=>by
  refine I _ _ (af.no rfl ?_);refine AC.mk (AB b rfl) ?_;refine ai.mk λX Y=>?_
  have fin:KD e=true-> ∀d,Ext h d->X () d:=λy d x=>by
   refine Y _ _ ?_;have:=u d x;have r:Ej e=true:=by simp[Ej,w,y]
   rw[r] at this;exact this
  have fail:KD e=false-> ∀d,Ext h d->t (J6 J9 120) d:=λy d x=>by
   have:=u d x;have r:Ej e=false:=by simp[Ej,y]
   rw[r] at this;exact this
  refine af.intro (λi=>?_) (λi=>?_)
  ·have i:e.kind=1:=by simpa using i
   have k:KD e=(JE (bl e.data)).isSome:=by unfold KD;rw[if_pos i]
   refine AJ.mk (AB b rfl) (yx hd λaJ sl Z _=>?_);have s:=o.trans Z;cases J:JE (bl e.data) with
   |none=>
    refine⟨⟨none,0,0⟩,_,_,rfl,?_⟩;refine al.mk λab _ z A ac=>ae.two z λB ad C ag=>af.yes rfl ?_
    exact fail (by rw[k,J];rfl) B ((s.trans A).more C λc q=>by subst q;exact s.size)
   |some p=>
    refine⟨sl,_,_,rfl,?_⟩;refine al.mk λab _ z A ac=>ae.two z λB ad C ag=>af.no rfl ?_
    exact fin (by rw[k,J];rfl) B ((s.trans A).more C λc q=>by subst q;exact s.size)
  ·have i:e.kind≠1:=by simpa using i
   refine af.intro (λl=>?_) (λl=>?_)
   ·have l:e.kind=12:=by simpa using l
    have k:KD e=Ak e.data:=by unfold KD;rw[if_neg i,if_pos l]
    refine AJ.mk (AB b rfl) (FL ⟨_,rfl,?_⟩);cases L:Ak e.data with
    |false=>exact fail (by rw[k,L]) f o
    |true=>exact fin (by rw[k,L]) f o
   ·have l:e.kind≠12:=by simpa using l
    have k:KD e=true:=by unfold KD;rw[if_neg i,if_neg l]
    exact fin k f o
 refine af.intro (λa=>g (by simp at a;simp[Ee,a])) (λah=>?_);refine AC.mk (AO b rfl) (af.intro (λa=>g ?_) (λaj=>?_))
 ·have:bV e.id 1 500=false:=by simp at a;unfold bV;simp;omega
  simp[Ee,this]
 refine AC.mk (AO b rfl) (af.intro (λa=>g ?_) (λak=>?_))
 ·have:bV e.id 1 500=false:=by simp at a;unfold bV;simp;omega
  simp[Ee,this]
 have am:1<=e.id/\e.id<=500:=by simp at aj ak;omega
 refine AC.mk (AB b rfl) (af.intro (λa=>g ?_) (λan=>?_))
 ·have:bV e.tick 0 1099511627776=false:=by simp at a;unfold bV;simp;omega
  simp[Ee,this]
 refine AC.mk (AB b rfl) (af.intro (λa=>g ?_) (λao=>?_))
 ·have:bV e.tick 0 1099511627776=false:=by simp at a;unfold bV;simp;omega
  simp[Ee,this]
 have ap:bV e.tick 0 1099511627776=true:=by simp at an ao;rw[Bb];omega
 have ar:bV e.id 1 500=true:=Bb.2 am;have au:bV e.kind 1 18=true:=by simpa using ah
 refine AC.mk (AB b rfl) (AC.mk (AO b rfl) ?_);rw[wrap_i64 (n:=e.id-1) (by omega) (by omega)];refine ru (fl:=cX e.kind) j (by rw[S,mC (by decide)]) ⟨_,rfl,?_⟩;refine af.intro (λa=>g ?_) (λav=>?_)
 ·have:cY (cX e.kind) e.ref 1 (e.id-1)=false:=by simpa using a
  simp[Ee,this]
 have aw:cY (cX e.kind) e.ref 1 (e.id-1)=true:=by simpa using av
 refine AC.mk (AB b rfl) ?_;refine ru (fl:=dq e.kind) j (by rw[T,mC (by decide)]) ⟨_,rfl,?_⟩;refine af.intro (λa=>g ?_) (λax=>?_)
 ·have:cY (dq e.kind) e.step 0 15=false:=by simpa using a
  simp[Ee,this]
 have ay:cY (dq e.kind) e.step 0 15=true:=by simpa using ax
 refine AC.mk (AB b rfl) ?_;refine ru (fl:=dF e.kind) j (by rw[U,mC (by decide)]) ⟨_,rfl,?_⟩;refine af.intro (λa=>g ?_) (λaz=>?_)
 ·have:cY (dF e.kind) e.turn 1 5=false:=by simpa using a
  simp[Ee,this]
 have aA:cY (dF e.kind) e.turn 1 5=true:=by simpa using az
 have m:Ee e=((!e.aL||dV e.kind)&&(decide (e.data=Ho)||eg e.kind)):=by simp[Ee,au,ar,ap,aw,ay,aA]
 have M:(!e.aL||dV e.kind)=true->AJ f ((⟨h.size,0,none⟩:Q6).add 7) λaC=>
   af (!bO aC (⟨#[]⟩:A2Q)) (AC J9 f (⟨v.size,0,none⟩:Q6) λaD=>K (((Gd J9 aD (16:Int))==(0:Int)),()) f) (K (false,()) f):=λaE=>by
  rw[aE,Ek] at m;refine AJ.mk (AB b rfl) ?_;rw[oF];refine af.intro (λa=>?_) (λa=>?_)
  ·have a:decide (e.data=Ho)=false:=by simpa using a
   refine AC.mk (AO j rfl) ?_;rw[W,mC (by decide)];rw[a,SU] at m;cases N:eg e.kind with
   |false=>exact g (by rw[m,N])
   |true=>exact aS (by rw[m,N])
  ·have a:decide (e.data=Ho)=true:=by simpa using a
   rw[a,Bool.true_or] at m;exact aS m
 refine Ac.mk (AB b rfl) (af.intro (λa=>?_) (λa=>?_))
 ·refine AC.mk (AO j rfl) ?_;rw[V,mC (by decide)];refine af.intro (λD=>g ?_) (λD=>M ?_)
  ·have:dV e.kind=false:=by simpa using D
   rw[m,a,this];rfl
  ·have:dV e.kind=true:=by simpa using D
   rw[this,IF]
 ·exact M (by rw[a];rfl)
theorem pT:QE P ES Gz fq.w 32=true:=by kernel_rfl
theorem pU:QE P De GX gg.w 24=true:=by kernel_rfl
theorem AT6:(zeroValue Gz).calc P=some Jb.z.v:=by kernel_rfl
theorem AT8:(zeroValue GX).calc P=some Ck.z.v:=by kernel_rfl
def pV(d:Option Nat):Int:=match d with|some i=>(i:Int)|none=> -1
theorem tH {f:Type}{p:f->Bool}{l:List f}{d:Nat}(m:d<=l.length)(h: ∀x∈l.take d,p x=false):(∀ x,l[d]? =some x->p x=true->l.findIdx? p=some d)/\(d=l.length->l.findIdx? p=none):=by
 constructor
 ·intro x i j;rw[List.findIdx?_eq_some_iff_getElem];obtain⟨k,e⟩:=List.getElem?_eq_some_iff.1 i;refine⟨k,by rw[e];exact j,λg n=>?_⟩;have:=h l[g] (List.mem_iff_getElem?.2 ⟨g,by simp_all⟩);simp[this]
 simp_all
section
variable {A : aq} {h : aa} {R : A2P} {s : bd} {e : Ev} {a b c : Sl}
theorem ARx {p:Jb->Bool}{sl:Sl}{l:List Jb}{f:J0}(v:View fq h sl l)(H:l.length<=1000000)(y: ∀(x:Jb) (d:aa) (o:A2P),Ext h d->(∀ g,Ext d g->o (J3 (p x)) g)->Ec A P f #[x.v] d o)
  (q: ∀g,Ext h g->R (J6 J9 (pV (l.findIdx? p))) g):AA A P CX #[J4 sl.p sl.len sl.cap,f] h R:=by
 refine Ie ?_;unfold Er;refine Loop.rule (λm x d=> ∃i:Nat,x=((i:Int),())/\m=l.length-i/\i<=l.length/\Ext h d/\ ∀x∈l.take i,p x=false) ?_ ⟨0,rfl,rfl,As _,Mod.refl,by simp⟩;rintro K m _ r ⟨i,rfl,rfl,z,j,B⟩ C;obtain⟨D,E⟩:=tH z B;dsimp only;have I:=v.len;refine af.intro (λn=>?_) (λn=>?_)
 ·have k:i<l.length:=by simp at n;omega
  obtain⟨x,t⟩: ∃x,l[i]? =some x:=⟨_,A2 k⟩;refine(v.ext j).idx t λJ _ F=>kZ.mk x F ?_
  refine y x r _ j λG u=>⟨_,rfl,?_⟩
  refine af.intro (λw=>?_) (λw=>?_)
  ·have:=q G (j.trans u);rw[D x t w] at this;exact this
  ·rw[Aa (by omega)];refine C (l.length-(i+1)) _ _ (by omega) ⟨i+1,rfl,rfl,k,j.trans u,λL M=>?_⟩
   grind [List.take_add_one,Option.toList_some,List.mem_singleton]
 ·have k:i=l.length:=by simp at n;omega
  have:=q r j;rw[E k] at this;exact this
theorem ARc {p:Ck->Bool}{sl:Sl}{l:List Ck}{f:J0}(v:View gg h sl l)(H:l.length<=1000000)(y: ∀(x:Ck) (d:aa) (o:A2P),Ext h d->(∀ g,Ext d g->o (J3 (p x)) g)->Ec A P f #[x.v] d o)
  (q: ∀g,Ext h g->R (J6 J9 (pV (l.findIdx? p))) g):AA A P Cw #[J4 sl.p sl.len sl.cap,f] h R:=by
 refine HV ?_;unfold EQ;refine Loop.rule (λm x d=> ∃i:Nat,x=((i:Int),())/\m=l.length-i/\i<=l.length/\Ext h d/\ ∀x∈l.take i,p x=false) ?_ ⟨0,rfl,rfl,As _,Mod.refl,by simp⟩;rintro K m _ r ⟨i,rfl,rfl,z,j,B⟩ C;obtain⟨D,E⟩:=tH z B;dsimp only;have I:=v.len;refine af.intro (λn=>?_) (λn=>?_)
 ·have k:i<l.length:=by simp at n;omega
  obtain⟨x,t⟩: ∃x,l[i]? =some x:=⟨_,A2 k⟩;refine(v.ext j).idx t λJ _ F=>oy.mk x F ?_
  refine y x r _ j λG u=>⟨_,rfl,?_⟩
  refine af.intro (λw=>?_) (λw=>?_)
  ·have:=q G (j.trans u);rw[D x t w] at this;exact this
  ·rw[Aa (by omega)];refine C (l.length-(i+1)) _ _ (by omega) ⟨i+1,rfl,rfl,k,j.trans u,λL M=>?_⟩
   grind [List.take_add_one,Option.toList_some,List.mem_singleton]
 ·have k:i=l.length:=by simp at n;omega
  have:=q r j;rw[E k] at this;exact this
theorem AS7(o:View fq h b s.au)(q:s.au.length<=1000000)(r: ∀f,Ext h f->R (J6 J9 (pV (mj s e.ref e.turn))) f):AA A P Tu #[(s.V a b c).v,e.v] h R:=by
 refine AGI ?_;unfold uB;refine al.mk λt _ u v F=>al.mk λG _ w g H=>?_
 have i:=v.trans g;refine AZ.mk (s:=b) (AB (g.ah u λh=>h) rfl) (ARx (o.ext i) q (p:=λj=>decide (j.id=e.ref)&&decide (j.turn=e.turn)) (λx I J y z=>?_) λB C=>⟨_,rfl,r B (i.trans C)⟩);refine Ec.func (first:= #[]) (bT:= #[Ar t.size]) (by kernel_rfl) (ACU ?_);unfold Vr;refine al.mk λD _ k l K=>?_
 have m:=(y.trans l).ah w λh=>h
 have:=z D l;refine AC.mk (n:=x.id) (AO k rfl) (AC.mk (n:=e.ref) (AB m rfl) (af.intro (λd=>?_) (λd=>?_)))
 ·have d:x.id=e.ref:=by simpa using d
  refine AC.mk (n:=x.turn) (AB k rfl) (AC.mk (n:=e.turn) (AB m rfl) ?_);have E:(x.turn==e.turn)=(decide (x.id=e.ref)&&decide (x.turn=e.turn)):=by grind
  rw[E];exact this
 ·have d:x.id≠e.ref:=by simpa using d
  rw[decide_eq_false d,Fl] at this;exact this
theorem step_ok {f d:Int}(F:View QP h a s.prog.steps)(u: ∀j,Ext h j->R (J1 #[((stepOf s.prog f d).getD bP.z).v,J3 (stepOf s.prog f d).isSome]) j):AA A P LH #[(s.V a b c).v,J6 J9 f,J6 J9 d] h R:=by
 refine AEd ?_;unfold YM;refine al.mk λG _ H I S=>al.mk λv _ w y T=>?_
 have z:=I.trans y;have o:=y.ah H λh=>h
 have p:=F.ext z;have B: ∀j,Mod (· =G.size) v j->Ext h j:=λj m=>z.more m λc J=>by subst J;omega
 refine ai.mk λK C=>?_
 have no:stepOf s.prog f d=none->K (true,()) v:=λL=>by
  refine C _ _ (af.yes rfl (aE.mk w (A0 6) λk q r M=>Xt.mk bP.z (Cr q rfl) ?_));have:=u k (B k r);rw[L] at this;exact this
 refine af.intro (λg=>no ?_) (λg=>?_)
 ·have g:f<0:=by simpa using g
  unfold stepOf;rw[if_neg (by omega)]
 have U:0<=f:=by simp at g;omega
 obtain⟨i,rfl⟩: ∃i:Nat,f=i:=⟨f.toNat,by omega⟩;refine AZ.mk (s:=a) (AO o rfl) ?_;rw[p.len];refine af.intro (λg=>no ?_) (λg=>?_)
 ·simp_all [stepOf,if_pos,A6,Mn]
 have N:i<s.prog.steps.length:=by simp at g;omega
 obtain⟨x,D⟩: ∃x,s.prog.steps[i]? =some x:=⟨_,A2 N⟩;have l:stepOf s.prog (i:Int) d=if x.kind=d then some x else none:=by simp_all [stepOf,if_pos,A6]
 refine AZ.mk (s:=a) (AO o rfl) (p.idx D λV _ O=>?_);have E:=O 0 _ rfl;rw[add_zero] at E;refine AC.mk E ?_;by_cases n:x.kind=d
 ·rw[if_pos n] at l;have t:(x.kind != d)=false:=by simp[n]
  rw[t];refine C _ _ (af.no rfl (AZ.mk (s:=a) (AO o rfl) (p.idx D λW _ Q=>Xt.mk x Q (aE.mk w (A0 6) λk q r M=>Xt.mk x (Cr q rfl) ?_))));have:=u k (B k r);rw[l] at this;exact this
 ·rw[if_neg n] at l;have t:(x.kind != d)=true:=by simp[n]
  rw[t];exact no l
theorem APY {d:Jb}(r:View QP h a s.prog.steps)(t: ∀i,Ext h i->R (J6 J9 (JN s.prog d)) i):AA A P Px #[(s.V a b c).v,d.v] h R:=by
 refine ADH ?_;unfold WM;refine al.mk λD _ u v E=>al.mk λw _ j k F=>?_
 have l:=v.trans k;refine A8.mk (s.V a b c) (FB (k.ah u λh=>h)) (AC.mk (n:=d.step) (AB j rfl) (step_ok (r.ext l) λG m=>jg.mk _ ⟨_,rfl,al.mk λH _ y z I=>aE.mk y (A0 6) λo g B J=>?_⟩));rw[pM] at g;have p:Ext w o:=(m.trans z).more B λc C=>by subst C;exact m.size
 have:=t o (l.trans p);unfold JN at this;cases q:stepOf s.prog d.step 1 with
 |none=>rw[q] at this;exact af.yes rfl this
 |some x=>
  rw[q] at g this;refine af.no rfl (Ac.mk (n:=d.aL) (AB (p.ah j λh=>h) rfl) (af.intro (λf=>?_) (λf=>?_)))
  ·have f:d.aL=true:=f;dsimp only at this;rw[if_pos f] at this;exact AC.mk (n:=x.aA) (AB g rfl) this
  ·have f:d.aL=false:=f;dsimp only at this;rw[if_neg (by simp[f])] at this;exact AC.mk (n:=x.tries) (AB g rfl) this
theorem AJ2 {sl:Sl}{l:List Jb}{i:Nat}(f:Own fq Gz h sl l)(g:i<l.length)(j: ∀d,Own fq Gz d ⟨sl.p,l.length-1,sl.cap⟩ (l.eraseIdx i)->Mod (λb=>sl.ah=some b) h d->R (J4 sl.p (l.length-1) sl.cap) d):
  AA A P Dp #[J4 sl.p sl.len sl.cap,J6 J9 (i:Int),J6 J9 ((i+1:Nat):Int)] h R:=
 JX (xO (E:=fq) (zv:=Jb.z.v) pT AT6 (by decide) rfl f g j)
theorem AJ1 {sl:Sl}{l:List Ck}{i:Nat}(f:Own gg GX h sl l)(g:i<l.length)(j: ∀d,Own gg GX d ⟨sl.p,l.length-1,sl.cap⟩ (l.eraseIdx i)->Mod (λb=>sl.ah=some b) h d->R (J4 sl.p (l.length-1) sl.cap) d):
  AA A P DW #[J4 sl.p sl.len sl.cap,J6 J9 (i:Int),J6 J9 ((i+1:Nat):Int)] h R:=
 IC (xO (E:=gg) (zv:=Ck.z.v) pU AT8 (by decide) rfl f g j)
theorem nz {h:aa}{b:Nat}{T:Q7}{x i:bG}{K:bG->aa->Prop}(j:h[b]? =some (J2 i.c T (0,0)))(k: ∀d,Mod (· =b) h d->K x d):
  aE h ⟨b,0,none⟩ x.l λf=>A8 f ⟨b,0,none⟩ λl=>K l f:=
 aE.mk j (A0 12) λd g m s=>A8.mk x (FB (by rw[PD] at g;exact g)) (k d m)
theorem ASV {s:bd}{f turn:Int}{i:Nat}(h:mj s f turn=some i): ∃d,s.au[i]? =some d/\d.id=f/\d.turn=turn:=by
 unfold mj at h;obtain⟨g,j,_⟩:=List.findIdx?_eq_some_iff_getElem.1 h
 simp_all
theorem ARH(N:JI h s a b c)(W:Own fq Gz h b s.au)(D:s.au.length<=1000)(a4:6<=e.kind/\e.kind<=9)(q:0<=e.turn/\e.turn<=1000)
  (X: ∀y (t:bd) (b':Sl),Mod (λx=>b.ah=some x\/h.size<=x) h y->(∀ x,b'.ah=some x->b.ah=some x\/h.size<=x)->(∀ t',Li s e=some t'->t=t'/\View fq y b' t'.au)->R (J1 #[(t.V a b' c).v,J3 (Li s e).isSome]) y):AA A P Rk #[(s.V a b c).v,e.v] h R:=by
 refine AE0 ?_;unfold Xz;refine lN λaq k=>AC.mk (k.bL (j:=1) rfl) ?_
 have Y:=k.ext;have a5:=Y.size;have a6:=Ah k.b2;have Z: ∀x,b.ah=some x->x<h.size:=λx f=>W.lt f
 have O:Li s e=none-> ∀ {l:aa},Ext aq l->A8 l ⟨h.size,0,none⟩ λt=>aE l ⟨h.size+2,0,none⟩ t.l λF=>A8 F ⟨h.size+2,0,none⟩ λab=>R (J1 #[ab.v,J3 false]) F:=λar l x=>by
  refine(k.on x).ret λy x'=>?_
  have:=X y s b x'.mod (λa7 aJ=> .inl aJ) (λt' q=>by rw[ar] at q;cases q);rw[ar] at this;exact this
 refine af.intro (λz=>?_) (λz=>?_)
 ·have z:e.kind=6:=by simpa using z
  refine k.eV (AC.mk (k.bL (j:=4) rfl) (step_ok (N.steps.ext Y) λaK C=>jg.mk _ ⟨_,rfl,al.mk λQ _ aL ac a8=>aE.mk aL (A0 6) λw ad B aM=>?_⟩));rw[pM] at ad;have S:Ext aq w:=(C.trans ac).more B λc d=>by subst d;exact C.size
  have r:=k.on S;refine ai.mk λK av=>?_
  cases aw:stepOf s.prog e.step 1 with
  |none=>exact af.yes rfl (av _ _ (af.yes rfl (O (by unfold Li;rw[if_pos z,aw];rfl) S)))
  |some x=>
   rw[aw] at ad;have key: ∀u:Bool,(u=true↔e.aL=true/\x.aL=Ho)->K (u,()) w:=λu ag=>by
    refine av _ _ (af.intro (λo=>O ?_ S) (λo=>?_))
    ·unfold Li;simp_all
    have o:u=false:=o;have g:Li s e=some {s with au:=s.au++ [⟨e.id,e.step,e.aL,1⟩]}:=by unfold Li;simp_all
    refine AZ.mk (s:=b) (r.cM (j:=8) rfl) (AC.mk (r.bL (j:=0) rfl) (AC.mk (r.bL (j:=4) rfl) (Ac.mk (r.bL (j:=6) rfl) ?_)));refine al.aY (E:=fq) (x:=⟨e.id,e.step,e.aL,1⟩) (s:=b) rfl pT (W.ext r.ext) (by omega) (by simp only[maxLen];omega) λb' p aN G aO a9=>?_
    have ba:=S.size;have ne: ∀ax,b.ah=some (h.size+ax)->False:=λax f=>by have:=Z _ f;omega
    refine ae.bL (dH:=(({s with au:=s.au++ [⟨e.id,e.step,e.aL,1⟩]}:bd).V a b' c).c) (G.ah r.b0 (ne 0)) (of_decide_eq_true rfl) rfl λH ah T aP=>?_
    refine A8.mk (({s with au:=s.au++ [⟨e.id,e.step,e.aL,1⟩]}:bd).V a b' c) (FB ah) (nz (T.ah (G.ah r.b2 (ne 2)) (by omega)) λay aQ=>?_);have aR: ∀x,b'.ah=some x->b.ah=some x\/h.size<=x:=λx f=>(aO x f).imp id λh=>by omega
    have az:Mod (λc=>c=h.size\/c=h.size+2) p ay:=(T.aj λc _ d=> .inl d).trans (aQ.aj λc _ d=> .inr d);have I:=X ay {s with au:=s.au++ [⟨e.id,e.step,e.aL,1⟩]} b' ((r.ext.mod.trans (G.aj λc _ d=> .inl d)).trans (az.aj λc _ d=> .inr (by omega))) aR (λt' q=>?_)
    ·rw[g] at I;exact I
    ·rw[g] at q;cases q;refine⟨rfl,(aN.mod az λx f d=>?_).view⟩
     grind
   refine af.no rfl (Ac.mk (r.bL (j:=6) rfl) (af.intro (λJ=>?_) (λJ=>?_)))
   ·have J:e.aL=true:=J;refine AJ.mk (n:=x.aL) (AB ad rfl) (key _ ?_);rw[oF,decide_eq_true_eq]
    grind
   ·have J:e.aL=false:=J;exact key _ ⟨(λh=>by cases h),λh=>(by grind)⟩
 have z:e.kind≠6:=by simpa using z
 refine k.eV (k.kH (AS7 (N.au.ext Y) (by omega) λaK C=>⟨_,rfl,?_⟩));cases aA:mj s e.ref e.turn with
 |none=>exact af.yes rfl (O (by unfold Li;rw[if_neg z,aA];rfl) C)
 |some i=>
  obtain⟨j,L,bb,bc⟩:=ASV aA;have aS:=(List.getElem?_eq_some_iff.1 L).1;have M:=k.on C;show af (decide ((i:Int)<0)) _ _;refine af.no (decide_eq_false (by omega)) ?_;have g:Li s e=if e.kind=8 then(if e.turn=JN s.prog j then none else some {s with au:=s.au.set i {j with turn:=j.turn+1}}) else if e.kind=7\/e.turn=JN s.prog j then some {s with au:=s.au.eraseIdx i,fresh:=true} else none:=by
   unfold Li
   simp_all
  refine AC.mk (M.bL (j:=5) rfl) (M.eV (AZ.mk (s:=b) (M.cM (j:=8) rfl) ?_));refine(N.au.ext M.ext).idx L λbe _ aT=>kZ.mk j aT ?_
  refine APY (N.steps.ext M.ext) λQ ac=>⟨_,rfl,?_⟩
  have aj:=C.trans ac;have m:=k.on aj;have bf:=aj.size;have U:=W.ext m.ext;refine⟨m.bL (j:=5) rfl,ai.mk λaU aC=>?_⟩;have yes: ∀ {l:aa} {t:bd} {b':Sl} {S':Nat->Prop},Li s e=some t->Own fq Gz l b' t.au->Mod (λx=>b.ah=some x\/x=h.size) Q l->l[h.size]? =some (J2 (t.V a b' c).c Av (0,0))->b'.p=b.p->
    A8 l ⟨h.size,0,none⟩ λt=>aE l ⟨h.size+2,0,none⟩ t.l λF=>A8 F ⟨h.size+2,0,none⟩ λab=>R (J1 #[ab.v,J3 true]) F:=λ{l t b' S'} g aV aD aW bg=>by
   have aX: ∀x,b'.ah=some x->b.ah=some x:=λx f=>by grind [Sl.ah]
   refine A8.mk (t.V a b' c) (FB aW) (nz (aD.ah m.b2 λd=>by
    grind) λy aF=>?_)
   have I:=X y t b' ((m.ext.mod.trans (aD.aj λc _ d=>d.imp id λh=>by omega)).trans (aF.aj λc _ d=> .inr (by omega))) (λx f=> .inl (aX x f)) (λt' q=>?_)
   ·rw[g] at I;exact I
   ·rw[g] at q;cases q;exact⟨rfl,(aV.mod aF λx f d=>by grind).view⟩
  have aG: ¬b.ah=some h.size:=λf=>by have:=Z _ f;omega
  have aH:(Li s e=if e.kind=7\/(e.kind=9/\e.turn=JN s.prog j) then some {s with au:=s.au.eraseIdx i,fresh:=true} else none)->aU (false,()) Q:=λV=>by
   refine aC _ _ (af.no rfl (ai.mk λaY aZ=>?_));have ak: ∀u:Bool,(u=true↔e.kind=7\/(e.kind=9/\e.turn=JN s.prog j))->aY (u,()) Q:=λu ag=>by
    refine aZ _ _ (af.intro (λo=>?_) (λo=>O ?_ aj))
    ·rw[if_pos (ag.1 o)] at V;refine AZ.mk (s:=b) (m.cM (j:=8) rfl) ?_;show AA A P _ #[_,J6 J9 (i:Int),J6 J9 (J8 J9 ((i:Int)+1))] _ _;rw[Aa (by omega)];refine AJ2 U aS λw am B=>⟨⟨b.p,s.au.length-1,b.cap⟩,rfl,?_⟩
     refine ae.bL (dH:=(({s with au:=s.au.eraseIdx i}:bd).V a ⟨b.p,s.au.length-1,b.cap⟩ c).c) (B.ah m.b0 aG) (of_decide_eq_true rfl) rfl λp a0 G bh=>?_
     refine ae.bL (dH:=(({s with au:=s.au.eraseIdx i,fresh:=true}:bd).V a ⟨b.p,s.au.length-1,b.cap⟩ c).c) a0 (of_decide_eq_true rfl) rfl λH ah T aP=>?_
     have aI:=G.trans T;exact yes (t:= {s with au:=s.au.eraseIdx i,fresh:=true}) (b':=⟨b.p,s.au.length-1,b.cap⟩) (S':=λ_=>True) V (am.mod aI λx f d=>by have:=Z x f;omega) ((B.aj λc _ d=> .inl d).trans (aI.aj λc _ d=> .inr d)) ah rfl
    ·have o:u=false:=o;rw[if_neg λh=>by rw[ag.2 h] at o;cases o] at V;exact V
   refine AC.mk (m.bL (j:=1) rfl) (af.intro (λw=>?_) (λw=>?_))
   ·have an:e.kind=7:=by simpa using w
    exact ak _ (by simp[an])
   ·have an:e.kind≠7:=by simpa using w
    refine AC.mk (m.bL (j:=1) rfl) (af.intro (λH=>?_) (λH=>?_))
    ·have ao:e.kind=9:=by simpa using H
     exact ak _ (by simp[ao])
    ·have ao:e.kind≠9:=by simpa using H
     exact ak _ (by simp[an,ao])
  refine AC.mk (m.bL (j:=1) rfl) (af.intro (λp=>?_) (λp=>?_))
  ·have p:e.kind=8:=by simpa using p
   rw[if_pos p] at g;by_cases D:e.turn=JN s.prog j
   ·rw[if_pos D] at g;have ap:(!(e.turn==JN s.prog j))=false:=by simp[D]
    rw[ap];exact aH (by rw[g,if_neg (by omega)])
   ·rw[if_neg D] at g;have ap:(!(e.turn==JN s.prog j))=true:=by simp[D]
    rw[ap];refine aC _ _ (af.yes rfl (AZ.mk (s:=b) (m.cM (j:=8) rfl) (U.view.idx L λbi _ a1=>AC.mk (n:=j.turn) (a1 3 _ rfl) (U.view.idx L λa2 a3 _=>?_))));rw[wrap_i64 (by omega) (by omega)];refine Own.store (E:=fq) (i:=i) (j:=3) (x:=j) (x':= {j with turn:=j.turn+1}) (v:=J6 J9 (j.turn+1)) U L rfl (by decide) (λw am B aM=>?_) a2 a3;exact yes (t:= {s with au:=s.au.set i {j with turn:=j.turn+1}}) (b':=b) (S':=λ_=>True) g am (B.aj λc _ d=> .inl d) (B.ah m.b0 aG) rfl
  ·have p:e.kind≠8:=by simpa using p
   rw[if_neg p] at g;refine aH ?_;rw[g];have:(e.kind=7\/e.turn=JN s.prog j)↔(e.kind=7\/e.kind=9/\e.turn=JN s.prog j):=by omega
   simp only[this]
theorem AQG(ab:JI h s a b c)(M:Own gg GX h c s.ak)(aI:s.ak.length<=1000)(aJ:e.kind=10\/e.kind=11)(k:0<=e.tick/\e.tick<=1099511627776)(ao: ∀x,stepOf s.prog e.step 2=some x->0<=x.wait/\x.wait<=1099511627776)
  (N: ∀v (t:bd) (o:Sl),Mod (λx=>c.ah=some x\/h.size<=x) h v->(∀ x,o.ah=some x->c.ah=some x\/h.size<=x)->(∀ t',KC s e=some t'->t=t'/\View gg v o t'.ak)->R (J1 #[(t.V a b o).v,J3 (KC s e).isSome]) v):AA A P QG #[(s.V a b c).v,e.v] h R:=by
 refine ACn ?_;unfold Vn;refine lN λO f=>AC.mk (f.bL (j:=1) rfl) ?_
 have Q:=f.ext;have aK:=Q.size;have aL:=Ah f.b2;have ac: ∀x,c.ah=some x->x<h.size:=λx g=>M.lt g
 have ad:KC s e=none-> ∀ {w:aa},Ext O w->A8 w ⟨h.size,0,none⟩ λt=>aE w ⟨h.size+2,0,none⟩ t.l λag=>A8 ag ⟨h.size+2,0,none⟩ λap=>R (J1 #[ap.v,J3 false]) ag:=λah w x=>by
  refine(f.on x).ret λv aq=>?_
  have:=N v s c aq.mod (λaM ar=> .inl ar) (λt' k=>by rw[ah] at k;cases k);rw[ah] at this;exact this
 have H: ∀q,c.ah=some (h.size+q)->False:=λq g=>by have:=ac _ g;omega
 refine af.intro (λl=>?_) (λl=>?_)
 ·have l:e.kind=10:=by simpa using l
  refine f.eV (AC.mk (f.bL (j:=4) rfl) (step_ok (ab.steps.ext Q) λS m=>jg.mk _ ⟨_,rfl,al.mk λaN _ I au aO=>aE.mk I (A0 6) λT U y aP=>?_⟩));rw[pM] at U;have V:Ext O T:=(m.trans au).more y λc d=>by subst d;exact m.size
  have r:=f.on V;cases J:stepOf s.prog e.step 2 with
  |none=>
   refine ai.mk λK W=>?_
   exact af.no rfl (W _ _ (ad (by unfold KC;rw[if_pos l,J];rfl) V))
  |some x=>
   refine ai.mk λK W=>?_
   rw[J] at U;obtain⟨aQ,w2⟩:=ao x J;have z:KC s e=some {s with ak:=s.ak++ [⟨e.id,e.step,e.tick+x.wait⟩]}:=by unfold KC;rw[if_pos l,J];rfl
   refine af.yes rfl (AZ.mk (s:=c) (r.cM (j:=9) rfl) (AC.mk (r.bL (j:=0) rfl) (AC.mk (r.bL (j:=4) rfl) (AC.mk (r.bL (j:=2) rfl) (AC.mk (n:=x.wait) (AB U rfl) ?_)))));rw[wrap_i64 (by omega) (by omega)];refine al.aY (E:=gg) (x:=⟨e.id,e.step,e.tick+x.wait⟩) (s:=c) rfl pU (M.ext r.ext) (by omega) (by simp only[maxLen];omega) λo aj av B aw aR=>?_
   have aS:=V.size;refine ae.bL (dH:=(({s with ak:=s.ak++ [⟨e.id,e.step,e.tick+x.wait⟩]}:bd).V a b o).c) (B.ah r.b0 (H 0)) (of_decide_eq_true rfl) rfl λax X L ay=>?_
   refine W _ _ (A8.mk (({s with ak:=s.ak++ [⟨e.id,e.step,e.tick+x.wait⟩]}:bd).V a b o) (FB X) (nz (L.ah (B.ah r.b2 (H 2)) (by omega)) λC Y=>?_));have az: ∀x,o.ah=some x->c.ah=some x\/h.size<=x:=λx g=>(aw x g).imp id λh=>by omega
   have D:Mod (λc=>c=h.size\/c=h.size+2) aj C:=(L.aj λc _ d=> .inl d).trans (Y.aj λc _ d=> .inr d);have F:=N C {s with ak:=s.ak++ [⟨e.id,e.step,e.tick+x.wait⟩]} o ((r.ext.mod.trans (B.aj λc _ d=> .inl d)).trans (D.aj λc _ d=> .inr (by omega))) az (λt' k=>?_)
   ·rw[z] at F;exact F
   ·rw[z] at k;cases k;refine⟨rfl,(av.mod D λx g d=>?_).view⟩
    grind
 have l:e.kind≠10:=by simpa using l
 have aA:O[h.size+1]? =some (J2 e.c A9 (0,0)):=f.b1;refine AZ.mk (s:=c) (f.cM (j:=9) rfl) (ARc (p:=λq=>decide (q.id=e.ref)&&decide (q.tick<=e.tick)) (ab.ak.ext Q) (by omega) (λx w aT aC aD=>?_) λS m=>⟨_,rfl,?_⟩)
 ·refine Ec.func (first:= #[]) (bT:= #[Ar (h.size+1)]) (by kernel_rfl) (AAG ?_);unfold Sm;refine al.mk λS _ am m aU=>?_
  have I:=(aC.trans m).ah aA λh=>h
  have:=aD S m;refine AC.mk (n:=x.id) (AO am rfl) (AC.mk (n:=e.ref) (AB I rfl) (af.intro (λu=>?_) (λu=>?_)))
  ·have u:x.id=e.ref:=by simpa using u
   rw[decide_eq_true u,Ek] at this;exact AC.mk (n:=e.tick) (AB I rfl) (AC.mk (n:=x.tick) (AB am rfl) this)
  ·have u:x.id≠e.ref:=by simpa using u
   rw[decide_eq_false u,Fl] at this;exact this
 cases Z:(s.ak.findIdx? λq=>decide (q.id=e.ref)&&decide (q.tick<=e.tick)) with
 |none=>exact af.yes rfl (ad (by unfold KC;rw[if_neg l,Z];rfl) m)
 |some i=>
  have aF:i<s.ak.length:=(List.findIdx?_eq_some_iff_getElem.1 Z).1;have z:KC s e=some {s with ak:=s.ak.eraseIdx i,fresh:=true}:=by unfold KC;rw[if_neg l,Z];rfl
  have G:=f.on m;have aV:=m.size;show af (decide ((i:Int)<0)) _ _;refine af.no (decide_eq_false (by omega)) (AZ.mk (s:=c) (G.cM (j:=9) rfl) ?_);show AA A P _ #[_,J6 J9 (i:Int),J6 J9 (J8 J9 ((i:Int)+1))] _ _;rw[Aa (by omega)];refine AJ1 (M.ext G.ext) aF λT aG y=>⟨⟨c.p,s.ak.length-1,c.cap⟩,rfl,?_⟩
  refine ae.bL (dH:=(({s with ak:=s.ak.eraseIdx i}:bd).V a b ⟨c.p,s.ak.length-1,c.cap⟩).c) (y.ah G.b0 (H 0)) (of_decide_eq_true rfl) rfl λaj aH B aW=>?_
  refine ae.bL (dH:=(({s with ak:=s.ak.eraseIdx i,fresh:=true}:bd).V a b ⟨c.p,s.ak.length-1,c.cap⟩).c) aH (of_decide_eq_true rfl) rfl λax X L ay=>?_
  have an:=B.trans L;refine A8.mk (({s with ak:=s.ak.eraseIdx i,fresh:=true}:bd).V a b ⟨c.p,s.ak.length-1,c.cap⟩) (FB X) (nz (an.ah (y.ah G.b2 (H 2)) (by omega)) λC Y=>?_);have D:Mod (λc=>c=h.size\/c=h.size+2) T C:=(an.aj λc _ d=> .inl d).trans (Y.aj λc _ d=> .inr d);have F:=N C {s with ak:=s.ak.eraseIdx i,fresh:=true} ⟨c.p,s.ak.length-1,c.cap⟩ ((G.ext.mod.trans (y.aj λc _ d=> .inl d)).trans (D.aj λc _ d=> .inr (by omega))) (λx g=> .inl g) (λt' k=>?_)
  ·rw[z] at F;exact F
  ·rw[z] at k;cases k;exact⟨rfl,(aG.mod D λx g d=>by have:=ac x g;omega).view⟩
end
theorem Uw {A:aq}{m:Type}{E:cD m}{t T:Q7}{n:Nat}(w:QE P t T E.w n=true){h:aa}{s:Sl}{l:List m}{R:A2P}(v:View E h s l)(y:l.length*n<=140737488355328)(z:l.length<=maxLen)
  (o: ∀d i,Own E T i d l->(∀ c,d.ah=some c->h.size<=c)->Ext h i->R (J4 d.p d.len d.cap) i):
  af (s.p.isNone) (R (J4 none 0 0) h) (al h (J2 #[] T) λb j=>BI A P (Builtin.append_ #[t,t] t #[J4 (some (⟨b,0,none⟩:Q6)) 0 0,J4 s.p s.len s.cap]) j λv k=> ∃f:Sl,v=J4 f.p f.len f.cap/\R (J4 f.p f.len f.cap) k):=by
 refine af.intro (λp=>?_) (λp=>?_)
 ·have B:s.p=none:=by simpa using p
  have:l= []:=by
   cases l with
   |nil=>rfl
   |cons x l=>
    obtain⟨a,q,_⟩:=v.cells 0 x rfl;rw[B] at q;cases q
  subst this;exact o ⟨none,0,0⟩ h Own.nil (λc g=>by simp[Sl.ah] at g) Mod.refl
 ·refine al.mk λj _ C r I=>?_
  have D:Own E T j ⟨some ⟨h.size,0,none⟩,0,0⟩ []:=Own.lit (E:=E) (l:= []) C rfl (by simp[maxLen]);refine Fz (s:=⟨some ⟨h.size,0,none⟩,0,0⟩) w D (v.ext r) (by simpa using y) (by simpa using z) λd k F G H _=>o d k F (λc g=>?_) (r.more G λc g=>?_)
  ·rcases H c g with u|u
   ·have e:h.size=c:=by simpa [Sl.ah] using u
    omega
   ·omega
  ·have e:h.size=c:=by simpa [Sl.ah] using g
   omega
section
variable {A : aq} {h : aa} {R : A2P} {s : bd} {e : Ev} {a b c : Sl}
theorem AMY {x:Sl}{l:List Jb}(v:View fq h x l)(i:l.length<=1000)(g: ∀d f,Own fq Gz f d l->(∀ c,d.ah=some c->h.size<=c)->Ext h f->R (J4 d.p d.len d.cap) f):AA A P Dy #[J4 x.p x.len x.cap] h R:=by refine Je ?_;unfold Fg;exact Uw pT v (by omega) (by simp only[maxLen];omega) g
theorem ANt {x:Sl}{l:List Ck}(v:View gg h x l)(i:l.length<=1000)(g: ∀d f,Own gg GX f d l->(∀ c,d.ah=some c->h.size<=c)->Ext h f->R (J4 d.p d.len d.cap) f):AA A P DY #[J4 x.p x.len x.cap] h R:=by refine IY ?_;unfold Eo;exact Uw pU v (by omega) (by simp only[maxLen];omega) g
theorem ANM {x:Sl}{l:List bP}(v:View QP h x l)(i:l.length<=1000)(g: ∀d f,Own QP Bo f d l->(∀ c,d.ah=some c->h.size<=c)->Ext h f->R (J4 d.p d.len d.cap) f):AA A P Dm #[J4 x.p x.len x.cap] h R:=by refine I8 ?_;unfold FN;exact Uw yq v (by omega) (by simp only[maxLen];omega) g
structure j8 (h:aa) (n:Nat) (t:bd) (a b c:Sl) (b' c':Sl):Prop where
 at':JI h t a b' c'
 fb: ∀x,b'.ah=some x->b.ah=some x\/n<=x
 fc: ∀x,c'.ah=some x->c.ah=some x\/n<=x
theorem nA {x:Nat}{P:Prop}(h:(⟨none,0,0⟩:Sl).ah=some x):P:=by simp[Sl.ah] at h
theorem ANI(k:JI h s a b c)(ac:e.kind=1\/12<=e.kind)(V:e.kind=14->0<=s.aZ+s.prog.az/\s.aZ+s.prog.az<=9223372036854775807)
  (S: ∀f (t:bd) (m n:Sl),Ext h f->(∀ t',KP s e=some t'->t=t'/\j8 f h.size t' a b c m n)->R (J1 #[(t.V a m n).v,J3 (KP s e).isSome]) f):AA A P Rt #[(s.V a b c).v,e.v] h R:=by
 refine AEZ ?_;unfold Xg;refine lN λM d=>AC.mk (d.bL (j:=1) rfl) (ai.mk λK W=>?_)
 have yes: ∀ {t:bd} {hh:aa} {m n:Sl},(∀ x,m.ah=some x->b.ah=some x\/h.size<=x)->(∀ x,n.ah=some x->c.ah=some x\/h.size<=x)->JI h t a m n->KP s e=some t-> ∀f,Ext h f->R (J1 #[(t.V a m n).v,J3 true]) f:=λ{t hh m n} X Y N v f x=>by
  have:=S f t m n x (λt' E=>by rw[v] at E;cases E;exact⟨rfl,⟨N.ext x,X,Y⟩⟩);rw[v] at this;exact this
 have O: ∀ {t:bd} {hh:aa},D3 h hh Av A9 Av (t.V a b c) e bG.z->JI h t a b c->KP s e=some t->K () hh:=λ{t hh} d N v=>
  W _ _ (d.ret λf x=>yes (hh:=hh) (λ_ h=> .inl h) (λ_ h=> .inl h) N v f x)
 have no: ∀(t:bd) (m n:Sl),KP s e=none-> ∀f,Ext h f->R (J1 #[(t.V a m n).v,J3 false]) f:=λt m n v f x=>by
  have:=S f t m n x (λt' E=>by rw[v] at E;cases E);rw[v] at this;exact this
 have T: ∀r,JI h (ik s r) a ⟨none,0,0⟩ ⟨none,0,0⟩:=λr=>⟨k.steps,View.nil,View.nil⟩
 refine af.intro (λg=>?_) (λg=>?_)
 ·have g:e.kind=12:=by simpa using g
  refine d.set (x':=({s with fresh:=true}:bd).V a b c) (by decide) rfl λC F=>O F ⟨k.steps,k.au,k.ak⟩ ?_
  unfold KP;rw[if_pos g]
 have g:e.kind≠12:=by simpa using g
 refine af.intro (λi=>?_) (λi=>?_)
 ·have i:e.kind=13:=by simpa using i
  refine Ac.mk (d.cM (j:=10) rfl) (af.intro (λw=>?_) (λw=>?_))
  ·have w:s.cancel=true:=w;refine d.ret (no s b c ?_);unfold KP;rw[if_neg g,if_pos i,if_pos w]
  ·have w:s.cancel=false:=w;refine d.set (x':=({s with cancel:=true}:bd).V a b c) (by decide) rfl λC F=>F.set (x':=({s with cancel:=true,fresh:=true}:bd).V a b c) (by decide) rfl λH Q=>O Q ⟨k.steps,k.au,k.ak⟩ ?_
   unfold KP;rw[if_neg g,if_pos i,if_neg (by simp[w])]
 have i:e.kind≠13:=by simpa using i
 refine af.intro (λl=>?_) (λl=>?_)
 ·have l:e.kind=14:=by simpa using l
  obtain⟨ad,ae⟩:=V l;refine ai.mk λZ ab=>?_
  have key: ∀(I:Bool),(I=true↔s.aR=true\/s.prog.az=0\/e.tick<s.aZ+s.prog.az)->Z (I,()) M:=λI U=>by
   refine ab _ _ (af.intro (λD=>?_) (λD=>?_))
   ·refine d.ret (no s b c ?_);unfold KP;rw[if_neg g,if_neg i,if_pos l,if_pos (U.1 D)]
   ·have D:I=false:=D;refine d.set (x':=({s with aR:=true}:bd).V a b c) (by decide) rfl λC F=>F.set (x':=({s with aR:=true,fresh:=true}:bd).V a b c) (by decide) rfl λH Q=>O Q ⟨k.steps,k.au,k.ak⟩ ?_
    unfold KP;rw[if_neg g,if_neg i,if_pos l,if_neg λh=>by rw[U.2 h] at D;cases D]
  refine Ac.mk (d.cM (j:=11) rfl) (af.intro (λy=>?_) (λy=>?_))
  ·have y:s.aR=true:=y;exact key _ (by simp[y])
  have y:s.aR=false:=y;refine AC.mk (d.cM (j:=1) rfl) (af.intro (λz=>?_) (λz=>?_))
  ·have z:s.prog.az=0:=by simpa using z
   exact key _ (by simp[z])
  have z:s.prog.az≠0:=by simpa using z
  refine AC.mk (d.bL (j:=2) rfl) (AC.mk (d.cM (j:=4) rfl) (AC.mk (d.cM (j:=1) rfl) (key _ ?_)));dsimp only;rw[wrap_i64 (by omega) (by omega)];simp[y,z]
 have l:e.kind≠14:=by simpa using l
 refine af.intro (λo=>?_) (λo=>?_)
 ·have o:e.kind=18:=by simpa using o
  refine d.eV (Xb λC p=>Gl.mk _ ⟨rfl,(d.on p).tell λf x=>yes (hh:=M) (λ_ h=>nA h) (λ_ h=>nA h) (T 4) ?_ f x⟩);unfold KP;rw[if_neg g,if_neg i,if_neg l,if_pos o]
 have o:e.kind≠18:=by simpa using o
 have fin: ∀(r:Int),(KP s e=if O8 s then some (ik s r) else none)-> ∀f,Ext h f->R (J1 #[((ik s r).V a ⟨none,0,0⟩ ⟨none,0,0⟩).v,J3 (decide (O8 s))]) f:=λr J f x=>by
  by_cases L:O8 s
  ·rw[if_pos L] at J;rw[decide_eq_true L];exact yes (hh:=M) (λ_ h=>nA h) (λ_ h=>nA h) (T r) J f x
  ·rw[if_neg L] at J;rw[decide_eq_false L];exact no (ik s r) ⟨none,0,0⟩ ⟨none,0,0⟩ J f x
 refine af.intro (λq=>?_) (λq=>?_)
 ·have q:e.kind=15:=by simpa using q
  refine d.eV (d.eV (Xb λC p=>Gl.mk _ ⟨rfl,(d.on p).js,pN k.au.len λH G=>⟨_,rfl,((d.on p).on G).tell (fin 1 ?_)⟩⟩));unfold KP;rw[if_neg g,if_neg i,if_neg l,if_neg o,if_pos q]
 have q:e.kind≠15:=by simpa using q
 refine af.intro (λu=>?_) (λu=>?_)
 ·have u:e.kind=16:=by simpa using u
  refine d.eV (d.eV (Xb λC p=>Gl.mk _ ⟨rfl,(d.on p).js,pN k.au.len λH G=>⟨_,rfl,((d.on p).on G).tell (fin 2 ?_)⟩⟩));unfold KP;rw[if_neg g,if_neg i,if_neg l,if_neg o,if_neg q,if_pos u]
 have u:e.kind≠16:=by simpa using u
 refine af.intro (λB=>?_) (λB=>?_)
 ·have B:e.kind=17:=by simpa using B
  refine d.eV (d.eV (Xb λC p=>Gl.mk _ ⟨rfl,(d.on p).js,pN k.au.len λH G=>⟨_,rfl,((d.on p).on G).tell (fin 3 ?_)⟩⟩));unfold KP;rw[if_neg g,if_neg i,if_neg l,if_neg o,if_neg q,if_neg u,if_pos B]
 have B:e.kind≠17:=by simpa using B
 refine d.ret (no s b c ?_);unfold KP;rw[if_neg g,if_neg i,if_neg l,if_neg o,if_neg q,if_neg u,if_neg B]
theorem ANb {e:Ev}(h:Ej e=true):0<=e.turn/\e.turn<=5:=by
 have d:=MB h;unfold Ee at d;simp only[A4] at d;have:=d.1.1.2;unfold cY at this;split at this
 ·have:=Bb.1 this;omega
 ·have:=of_decide_eq_true this;omega
theorem AJu {p:cj}{f g:Int}{x:bP}(h:stepOf p f g=some x):x∈p.steps:=by
 unfold stepOf at h;split at h
 ·obtain⟨j,i,d⟩:=Option.bind_eq_some_iff.1 h;split at d
  ·cases d;exact AM i
  ·cases d
 ·cases h
theorem pW {n:Nat}(aK:JI h s a b c)(M:Dc s n)(bN:n<=600)(hd:e.data.size<1099511627776)
  (aL: ∀O y k l,Ext h O->JI O (Bp s e).2 y k l->(∀ x,y.ah=some x\/k.ah=some x\/l.ah=some x->h.size<=x)->R (J1 #[((Bp s e).2.V y k l).v,J6 J9 (Bp s e).1]) O):AA A P Jk #[(s.V a b c).v,e.v] h R:=by
 refine AD3 ?_;unfold WT;refine lN λbO ak=>ak.kH (Zu hd λa0 bm=>⟨_,rfl,?_⟩)
 have q:=ak.on bm;have bn: ∀x,(⟨none,0,0⟩:Sl).ah=some x\/(⟨none,0,0⟩:Sl).ah=some x\/(⟨none,0,0⟩:Sl).ah=some x->h.size<=x:=λx d=>by simp[Sl.ah] at d
 have ap: ∀(n:Int),Bp s e=(n,Sy)-> ∀O,Ext h O->R (J1 #[bG.z.v,J6 J9 n]) O:=λn a1 O x=>by
  have:=aL O ⟨none,0,0⟩ ⟨none,0,0⟩ ⟨none,0,0⟩ x (by rw[a1];exact⟨View.nil,View.nil,View.nil⟩) bn;rw[a1] at this;exact this
 refine af.intro (λD=>?_) (λD=>?_)
 ·have I:Ej e=false:=by
   cases E:Ej e with
   |false=>rfl
   |true=>rw[E] at D;simp at D
  exact q.tell (ap 120 (by unfold Bp;rw[if_pos I]))
 have I:Ej e=true:=by
  cases E:Ej e with
  |true=>rfl
  |false=>rw[E] at D;simp at D
 obtain⟨bP,bQ,bo,bp,_⟩:=Rb I;refine AC.mk (q.cM (j:=3) rfl) (af.intro (λF=>?_) (λF=>?_))
 ·have F:s.next=0:=by simpa using F
  refine ai.mk λK bq=>?_
  have key: ∀az:Bool,(az=true↔ ¬(e.kind=1/\e.id=1))->K (az,()) a0:=λaz a2=>by
   refine bq _ _ (af.intro (λD=>?_) (λD=>?_))
   ·exact q.tell (ap 120 (by unfold Bp;rw[if_neg (by simp[I]),if_pos F,if_neg (a2.1 D)]))
   ·have D:az=false:=D;have m:e.kind=1/\e.id=1:=Decidable.byContradiction λh=>by rw[a2.2 h] at D;cases D
    obtain⟨p,aM,bR⟩:=bp m.1;refine AJ.mk (q.bL (j:=7) rfl) (yx hd λaA sl aC aN=>?_);obtain⟨aN,a3⟩:=aN p aM;rw[aM];refine⟨sl,p.az,0,rfl,?_⟩;have V:=q.on aC;refine al.mk λaO _ br W bs=>?_
    have a4:=V.on W;have bS:=V.b2;refine ae.two br λa5 a6 X bt=>?_
    have a7:Ext aA a5:=W.more X λc g=>by subst g;exact A0 _
    have am:=V.on a7;refine AZ.mk (s:=sl) (AO a6 rfl) (AC.mk (AB a6 rfl) (AC.mk (am.bL (j:=2) rfl) (am.iT λa8 Q bu=>?_)));have aq:Bp s e=(0,XM e):=by unfold Bp;rw[if_neg (by simp[I]),if_pos F,if_pos m]
    have a9:XM e=⟨p,0,2,e.tick,0,0,true,[],[],false,false⟩:=by unfold XM;rw[aM];rfl
    have bT:=q.ext.size;have:=aL a8 sl ⟨none,0,0⟩ ⟨none,0,0⟩ Q (by rw[aq,a9];exact⟨(aN.ext a7).mod bu (λc g i=>by have:=a3 c g;have:=Ah q.b2;omega),View.nil,View.nil⟩) (λx d=>by
     rcases d with d|d|d
     ·have:=a3 x d;omega
     ·simp[Sl.ah] at d
     ·simp[Sl.ah] at d)
    rw[aq,a9] at this;exact this
  refine AC.mk (q.bL (j:=1) rfl) (af.intro (λm=>key _ (by simp at m;simp[m])) (λm=>AC.mk (q.bL (j:=0) rfl) (key _ (by simp at m;simp[m]))))
 have F:s.next≠0:=by simpa using F
 refine AC.mk (q.cM (j:=2) rfl) (af.intro (λm=>?_) (λm=>?_))
 ·have m:s.status≠0:=by simpa using m
  exact q.tell (ap 182 (by unfold Bp;rw[if_neg (by simp[I]),if_neg F,if_pos m]))
 have m:s.status=0:=by simpa using m
 refine AC.mk (q.bL (j:=0) rfl) (AC.mk (q.cM (j:=3) rfl) (af.intro (λS=>?_) (λS=>?_)))
 ·have S:e.id≠s.next:=by simpa using S
  exact q.tell (ap 120 (by unfold Bp;rw[if_neg (by simp[I]),if_neg F,if_neg (by simp[m]),if_pos S]))
 have S:e.id=s.next:=by simpa using S
 refine AZ.mk (s:=b) (q.cM (j:=8) rfl) (AZ.mk (s:=c) (q.cM (j:=9) rfl) (AMY ((aK.ext q.ext).au) (by have:=M.au;omega) λk aA aP Y aC=>⟨_,rfl,?_⟩));have V:=q.on aC;refine⟨V.cM (j:=9) rfl,ANt ((aK.ext V.ext).ak) (by have:=M.ak;omega) λl aO aQ Z W=>⟨_,rfl,?_⟩⟩;have a4:=V.on W;have bU:=Ah q.b2;have bV:=aC.size;have bs:=W.size;refine a4.ir (x':=s.V a k c) (by decide) rfl λbW bv ar=>bv.ir (x':=s.V a k l) (by decide) rfl λa5 am X=>?_
 have bX:=ar.size;have bt:=X.size;refine AZ.mk (s:=a) (am.cM (j:=0) rfl) (ANM ((aK.ext am.ext).steps) (by have:=M.steps;omega) λy a8 ba bb Q=>⟨_,rfl,?_⟩);have bw:=am.on Q;refine bw.oT (x':=s.V y k l) rfl λz r ab=>AC.mk (r.bL (j:=1) rfl) ?_
 have T:JI z s y k l:=by have au:=(((aP.view.ext W).mod ar (λx d i=>by have:=Y x d;omega)).mod X (λx d i=>by have:=Y x d;omega));have vc:=((aQ.view.mod ar (λx d i=>by have:=Z x d;omega)).mod X (λx d i=>by have:=Z x d;omega));exact⟨ba.view.mod ab (λx d i=>by have:=bb x d;omega),(au.ext Q).mod ab (λx d i=>by have:=Y x d;omega),(vc.ext Q).mod ab (λx d i=>by have:=Z x d;omega)⟩
 have bx:Own fq Gz z k s.au:=((((aP.ext W).mod ar (λx d i=>by have:=Y x d;omega)).mod X (λx d i=>by have:=Y x d;omega)).ext Q).mod ab (λx d i=>by have:=Y x d;omega);have bz:Own gg GX z l s.ak:=(((aQ.mod ar (λx d i=>by have:=Z x d;omega)).mod X (λx d i=>by have:=Z x d;omega)).ext Q).mod ab (λx d i=>by have:=Z x d;omega);have an: ∀x,k.ah=some x->a0.size<=x/\x<aA.size:=λx d=>⟨Y x d,aP.lt d⟩
 have ao: ∀x,l.ah=some x->aA.size<=x/\x<aO.size:=λx d=>⟨Z x d,aQ.lt d⟩
 have aR: ∀x,y.ah=some x->aO.size<=x/\x<z.size:=λx d=>⟨by have:=bb x d;omega,by have:=ba.lt d;have:=ab.size;omega⟩
 have bY:=Q.size;have bZ:=ab.size;have fr: ∀(dX dY:Sl),(∀ x,dX.ah=some x->k.ah=some x\/h.size+3<=x)->(∀ x,dY.ah=some x->l.ah=some x\/h.size+3<=x)-> ∀x,y.ah=some x\/dX.ah=some x\/dY.ah=some x->h.size+3<=x:=λdX dY i g x d=>by
  rcases d with d|d|d
  ·have:=aR x d;omega
  ·rcases i x d with h|h
   ·have:=an x h;omega
   ·omega
  ·rcases g x d with h|h
   ·have:=ao x h;omega
   ·omega
 refine ai.mk λaS bA=>?_
 have key: ∀ {o:Option bd} {t:bd} {dX dY:Sl} {B:aa},Pi s e=o.map (λt=> {t with next:=s.next+1})->(∀ t',o=some t'->t=t'/\t'.next=s.next/\j8 B (h.size+3) t' y k l dX dY)->D3 h B Av A9 Av (t.V y dX dY) e bG.z->aS (o.isSome,()) B:=λ{o t dX dY B} bc aT ak=>by
  refine bA _ _ ?_;cases o with
  |none=>
   refine af.yes rfl (ak.tell (ap 120 ?_));unfold Bp;rw[if_neg (by simp[I]),if_neg F,if_neg (by simp[m]),if_neg (by simp[S]),bc];rfl
  |some t'=>
   obtain⟨rfl,bB,L⟩:=aT t' rfl;have u:=fr dX dY L.fb L.fc;have b0:=M.next;refine af.no rfl (AC.mk (ak.cM (j:=3) rfl) ?_);rw[wrap_i64 (by show _<=t.next+1;omega) (by show t.next+1<=_;omega)];refine ak.ir (x':=({t with next:=s.next+1}:bd).V y dX dY) (by decide) (by rw[<- bB];rfl) λaD N bC=>N.oU λav bD C=>?_
   have aq:Bp s e=(0,{t with next:=s.next+1}):=by unfold Bp;rw[if_neg (by simp[I]),if_neg F,if_neg (by simp[m]),if_neg (by simp[S]),bc];rfl
   have:=aL av y dX dY bD (by
    rw[aq];have J:=L.at'.mod bC (λx d i=>by have:=u x (.inl d);omega) (λx d i=>by have:=u x (.inr (.inl d));omega) (λx d i=>by have:=u x (.inr (.inr d));omega);have U:=J.mod C (λx d i=>by have:=u x (.inl d);omega) (λx d i=>by have:=u x (.inr (.inl d));omega) (λx d i=>by have:=u x (.inr (.inr d));omega);exact⟨U.steps,U.au,U.ak⟩) (λx d=>by have:=u x d;omega)
   rw[aq] at this;exact this
 refine ai.mk λbe aF=>?_
 have aG:2<=e.kind/\e.kind<=5->be (true,()) z:=λaH=>by
  refine aF _ _ (af.yes rfl (r.eV (r.kH (AIX aH λaD aI=>Gl.mk _ ⟨_,rfl,?_⟩))));have N:=r.on aI;refine N.mN λav ac C=>key (o:=Dv s e) (t:=(Dv s e).getD s) (dX:=k) (dY:=l) (by unfold Pi;rw[if_pos aH]) (λt' G=>?_) ac
  rw[G,HI];obtain⟨J,U,aJ,bf⟩:=QF G;have aU:=(T.ext aI).mod C (λx d i=>by have:=fr k l (λ_ h=> .inl h) (λ_ h=> .inl h) x (.inl d);omega) (λx d i=>by have:=fr k l (λ_ h=> .inl h) (λ_ h=> .inl h) x (.inr (.inl d));omega) (λx d i=>by have:=fr k l (λ_ h=> .inl h) (λ_ h=> .inl h) x (.inr (.inr d));omega);exact⟨rfl,J.next,⟨by rw[J.prog];exact aU.steps,by rw[U];exact aU.au,by rw[aJ];exact aU.ak⟩,λ_ h=> .inl h,λ_ h=> .inl h⟩
 have bE:e.kind=1\/12<=e.kind->be (false,()) z:=λaH=>by
  refine aF _ _ (af.no rfl (ai.mk λaV aw=>?_));have H: ∀ {n:Int},6<=n->n<=11->(e.kind==n)=false:=λ{n} bF bH=>by simp;omega
  refine af.no (H (by decide) (by decide)) (af.no (H (by decide) (by decide)) (af.no (H (by decide) (by decide)) ?_));rw[H (n:=9) (by decide) (by decide)];refine aw _ _ (af.no rfl (ai.mk λbg aW=>af.no (H (by decide) (by decide)) ?_));rw[H (n:=11) (by decide) (by decide)];refine aW _ _ (af.no rfl (r.eV (r.kH (ANI T aH (λ_=>by have:=M.aZ;have:=M.az;omega) λaD t dX dY aI aT=>Gl.mk _ ⟨_,rfl,?_⟩))));have N:=r.on aI;refine N.mN λav ac C=>key (o:=KP s e) (t:=t) (by unfold Pi;rw[if_neg (by omega),if_neg (by omega),if_neg (by omega)]) (λt' G=>?_) ac
  obtain⟨rfl,L⟩:=aT t' G;have ax: ∀x,dX.ah=some x->k.ah=some x\/h.size+3<=x:=λx d=>(L.fb x d).imp id λh=>by omega
  have ay: ∀x,dY.ah=some x->l.ah=some x\/h.size+3<=x:=λx d=>(L.fc x d).imp id λh=>by omega
  have u:=fr dX dY ax ay;exact⟨rfl,(xJ G).1.next,L.at'.mod C (λx d i=>by have:=u x (.inl d);omega) (λx d i=>by have:=u x (.inr (.inl d));omega) (λx d i=>by have:=u x (.inr (.inr d));omega),ax,ay⟩
 refine af.intro (λad=>?_) (λad=>?_)
 ·have b1:e.kind=2:=by simpa using ad
  have ad:(e.kind==(2:Int))=true:=ad;rw[ad];exact aG (by omega)
 refine af.intro (λag=>?_) (λag=>?_)
 ·have b2:e.kind=3:=by simpa using ag
  have ag:(e.kind==(3:Int))=true:=ag;rw[ag];exact aG (by omega)
 refine af.intro (λah=>?_) (λah=>?_)
 ·have b3:e.kind=4:=by simpa using ah
  have ah:(e.kind==(4:Int))=true:=ah;rw[ah];exact aG (by omega)
 have ad:e.kind≠2:=by simpa using ad
 have ag:e.kind≠3:=by simpa using ag
 have ah:e.kind≠4:=by simpa using ah
 cases aX:(e.kind==(5:Int)) with
 |true=>
  have:e.kind=5:=by simpa using aX
  exact aG (by omega)
 |false=>
  have aX:e.kind≠5:=by simpa using aX
  by_cases aY:6<=e.kind/\e.kind<=9
  ·have bI: ∀ {B:aa} {t:bd} {dX:Sl},Mod (λx=>k.ah=some x\/z.size<=x) z B->(∀ x,dX.ah=some x->k.ah=some x\/z.size<=x)->(∀ t',Li s e=some t'->t=t'/\View fq B dX t'.au)->aE B ⟨h.size,0,none⟩ (t.V y dX l).l λm=>aS ((Li s e).isSome,()) m:=λ{B t dX} w f E=>by
    have aj: ∀v,v<h.size+3-> ¬(k.ah=some v\/z.size<=v):=λv bJ h=>by
     rcases h with h|h
     ·have:=an v h;omega
     ·omega
    have N:D3 h B Av A9 Av (s.V y k l) e bG.z:=⟨r.ext.more w λc g=>by
     rcases g with g|g
     ·have:=an c g;omega
     ·omega,w.ah r.b0 (aj _ (by omega)),w.ah r.b1 (aj _ (by omega)),w.ah r.b2 (aj _ (by omega))⟩
    have ax: ∀x,dX.ah=some x->k.ah=some x\/h.size+3<=x:=λx d=>(f x d).imp id λh=>by omega
    refine N.mN λav ac C=>key (o:=Li s e) (t:=t) (by unfold Pi;rw[if_neg (by omega),if_pos aY]) (λt' G=>?_) ac
    obtain⟨rfl,au⟩:=E t' G;obtain⟨J,U,aJ,bf⟩:=xL G;have u:=fr dX l ax λ_ h=> .inl h
    have aZ:=T.steps.mod w λx d g=>by
     have:=aR x d;rcases g with g|g
     ·have:=an x g;omega
     ·omega
    have vc:=T.ak.mod w λx d g=>by
     have:=ao x d;rcases g with g|g
     ·have:=an x g;omega
     ·omega
    exact⟨rfl,J.next,⟨by rw[J.prog];exact aZ.mod C (λx d i=>by have:=u x (.inl d);omega),au.mod C (λx d i=>by have:=u x (.inr (.inl d));omega),by rw[aJ];exact vc.mod C (λx d i=>by have:=u x (.inr (.inr d));omega)⟩,ax,λ_ h=> .inl h⟩
   refine aF _ _ (af.no rfl (ai.mk λaV aw=>?_));have go:aV (true,()) z:=aw _ _ (af.yes rfl (r.eV (r.kH (ARH T bx (by have:=M.au;omega) aY (by have:=ANb I;omega) λaD t dX w f E=>Gl.mk _ ⟨_,rfl,bI w f E⟩))));refine af.intro (λv=>?_) (λbh=>af.intro (λv=>?_) (λbi=>af.intro (λv=>?_) (λbj=>?_)))
   ·rw[v];exact go
   ·rw[v];exact go
   ·rw[v];exact go
   ·have bh:e.kind≠6:=by simpa using bh
    have bi:e.kind≠7:=by simpa using bi
    have bj:e.kind≠8:=by simpa using bj
    have bK:(e.kind==(9:Int))=true:=by simp;omega
    rw[bK];exact go
  ·by_cases g:e.kind=10\/e.kind=11
   ·have bL: ∀ {B:aa} {t:bd} {dY:Sl},Mod (λx=>l.ah=some x\/z.size<=x) z B->(∀ x,dY.ah=some x->l.ah=some x\/z.size<=x)->(∀ t',KC s e=some t'->t=t'/\View gg B dY t'.ak)->aE B ⟨h.size,0,none⟩ (t.V y k dY).l λm=>aS ((KC s e).isSome,()) m:=λ{B t dY} w f E=>by
     have aj: ∀v,v<h.size+3-> ¬(l.ah=some v\/z.size<=v):=λv bJ h=>by
      rcases h with h|h
      ·have:=ao v h;omega
      ·omega
     have N:D3 h B Av A9 Av (s.V y k l) e bG.z:=⟨r.ext.more w λc g=>by
      rcases g with g|g
      ·have:=ao c g;omega
      ·omega,w.ah r.b0 (aj _ (by omega)),w.ah r.b1 (aj _ (by omega)),w.ah r.b2 (aj _ (by omega))⟩
     have ay: ∀x,dY.ah=some x->l.ah=some x\/h.size+3<=x:=λx d=>(f x d).imp id λh=>by omega
     refine N.mN λav ac C=>key (o:=KC s e) (t:=t) (by unfold Pi;rw[if_neg (by omega),if_neg aY,if_pos g]) (λt' G=>?_) ac
     obtain⟨rfl,vc⟩:=E t' G;obtain⟨J,U,aJ,bf⟩:=xM G;have u:=fr k dY (λ_ h=> .inl h) ay;have aZ:=T.steps.mod w λx d g=>by
      have:=aR x d;rcases g with g|g
      ·have:=ao x g;omega
      ·omega
     have au:=T.au.mod w λx d g=>by
      have:=an x d;rcases g with g|g
      ·have:=ao x g;omega
      ·omega
     exact⟨rfl,J.next,⟨by rw[J.prog];exact aZ.mod C (λx d i=>by have:=u x (.inl d);omega),by rw[U];exact au.mod C (λx d i=>by have:=u x (.inr (.inl d));omega),vc.mod C (λx d i=>by have:=u x (.inr (.inr d));omega)⟩,λ_ h=> .inl h,ay⟩
    have H: ∀ {n:Int},6<=n->n<=9->(e.kind==n)=false:=λ{n} bF bH=>by simp;omega
    refine aF _ _ (af.no rfl (ai.mk λaV aw=>?_));refine af.no (H (by decide) (by decide)) (af.no (H (by decide) (by decide)) (af.no (H (by decide) (by decide)) ?_));rw[H (n:=9) (by decide) (by decide)];refine aw _ _ (af.no rfl (ai.mk λbg aW=>?_));have go:bg (true,()) z:=aW _ _ (af.yes rfl (r.eV (r.kH (AQG T bz (by have:=M.ak;omega) g bo (λx d=>by have:=M.waits x (AJu d);omega) λaD t dY w f E=>Gl.mk _ ⟨_,rfl,bL w f E⟩))));refine af.intro (λv=>?_) (λbk=>?_)
    ·rw[v];exact go
    ·have bk:e.kind≠10:=by simpa using bk
     have bM:(e.kind==(11:Int))=true:=by simp;omega
     rw[bM];exact go
   ·exact bE (by omega)
end
theorem Od {n:Int}(a:0<=n)(b:n<=9223372036854775807):J8 .u64 n=((n.toNat:Nat):Int):=by
 have:n=((n.toNat:Nat):Int):=by omega
 rw[this,CG (by omega)];simp
theorem Ms {f:Bool}{n:Int}(a:n<=9223372036854775807):(TH f n).length<=10:=by
 cases f with
 |false=>exact As _
 |true=>exact AV (by omega)
theorem rv {h:aq}{b:aa}{a:Q6}{f e n:Int}{fl:Bool}{d:List UInt8}{K:A2Q×Unit->aa->Prop}(i:(Gd J9 f e != (0:Int))=fl)(j:ag b a=some (J6 J9 n))(k:fl=true->0<=n/\n<=1099511627776)
  (m:d.length<=100000) (g: ∀c,Ext b c->K (AX (d++TH fl n),()) c):
  af (Gd J9 f e != (0:Int)) (AC J9 b a λt=>AA h P Ay #[.int .u64 (J8 .u64 t)] b λv c=> ∃x:A2Q,v=J7 x/\(aG ((((AX d).size+x.size:Nat):Int)<=IntKind.i64.max)<|K ((AX d)++x,()) c)) (K (AX d,()) b):=by
 rw[i];cases fl with
 |false=>
  have:=g b Mod.refl;simp only[TH,Cp,if_false,AK] at this;exact af.no rfl this
 |true=>
  obtain⟨l,o⟩:=k rfl;refine af.yes rfl (AC.mk j ?_);rw[Od l (by omega)];have:=AV (n:=n.toNat) (by omega);refine Cc (by omega) λc x=>⟨_,rfl,⟨by rw[AP,AP,max_i64];omega,?_⟩⟩
  have:=g c x;simp only[TH,if_true] at this;rw[Aj];exact this
theorem ry {f:Bool}{a b c:Int}(d:cY f a b c=true)(g:0<=b)(h:c<=1099511627776):f=true->0<=a/\a<=1099511627776:=λe=>by
 subst e;simp only[cY,if_true,Bb] at d;omega
def oH(a:Ev):J0:=J1 #[J7 (AX (if Ej a then Nf a else [])),J6 J9 (if Ej a then 0 else 120)]
theorem AK0 {Q:aq}{a:aa}{e:Ev}{k:A2P}(hd:e.data.size<1099511627776)(u: ∀c,Ext a c->k (oH e) c):AA Q P Oa #[oG e] a k:=by
 refine ABH ?_;unfold UK;refine al.mk λap _ b v ar=>?_
 refine AC.mk (AO b rfl) (AC.mk (AB b rfl) (AC.mk (AB b rfl) (AC.mk (AB b rfl) (AC.mk (AB b rfl) (AC.mk (AB b rfl) (Ac.mk (AB b rfl) (AJ.mk (AB b rfl) ?_)))))));refine Zu (e:=e) hd λw l=>⟨_,rfl,?_⟩
 cases m:Ej e with
 |false=>
  refine af.yes rfl ?_;have:=u w (v.trans l);rw[oH,m] at this;exact this
 |true=>
  refine af.no rfl ?_;have y: ∀c,Ext w c->k (J1 #[J7 (AX (Nf e)),J6 J9 0]) c:=λc x=>by
   have:=u c ((v.trans l).trans x);rw[oH,m] at this;exact this
  have h:=l.ah b (λa=>a);have z:=MB m;simp only[Ee,A4] at z;obtain⟨⟨⟨⟨⟨⟨⟨R,S⟩,T⟩,o⟩,p⟩,q⟩,au⟩,av⟩:=z;have aw:=Bb.1 R;have ax:=Bb.1 S;have ay:=Bb.1 T;obtain⟨U,V,W,X,Y⟩:=rr e.kind;refine AC.mk (AB h rfl) (XK ⟨_,_,rfl,?_⟩);refine AC.mk (AO h rfl) (AC.mk (n:=e.kind) (AB h rfl) (AC.mk (n:=e.tick) (AB h rfl) ?_));rw[Od (n:=e.id) (by omega) (by omega)];refine Cc (by omega) λaz A=>⟨_,rfl,?_⟩
  have r:=A.ah h (λa=>a);refine⟨AB r rfl,AB r rfl,?_⟩;rw[Od (n:=e.kind) (by omega) (by omega)];have aA:=AV (n:=e.id.toNat) (by omega);have aC:=AV (n:=e.kind.toNat) (by omega);have aD:=AV (n:=e.tick.toNat) (by omega);refine Cc (by omega) λaE B=>⟨_,rfl,?_⟩
  have C:=B.ah r (λa=>a);refine⟨AB C rfl,by rw[AP,AP,max_i64];omega,?_⟩;rw[Od (n:=e.tick) (by omega) (by omega)];refine Cc (by omega) λaF D=>⟨_,rfl,⟨by rw[Aj,AP,AP,max_i64,A1];omega,?_⟩⟩
  have E:=D.ah C (λa=>a);have Z:=(A.trans B).trans D;rw[Aj,Aj];refine ai.mk λK ab=>?_
  have aG:=Ms (f:=cX e.kind) (n:=e.ref) (by cases i:cX e.kind<;>rw[i] at o<;>simp[cY,bV] at o<;>omega);have aH:=Ms (f:=dq e.kind) (n:=e.step) (by cases i:dq e.kind<;>rw[i] at p<;>simp[cY,bV] at p<;>omega);have aI:=Ms (f:=dF e.kind) (n:=e.turn) (by cases i:dF e.kind<;>rw[i] at q<;>simp[cY,bV] at q<;>omega);have aJ:=Ms (f:=dV e.kind) (n:=if e.aL then 1 else 0) (by split<;>omega);refine rv (fl:=cX e.kind) (n:=e.ref) (by rw[U,MX (by decide)]) (AB E rfl) (ry o (by decide) (by omega)) (by simp only[A1];omega) λaK F=>ab _ _ ?_
  have G:=F.ah E (λa=>a);refine ai.mk λaL ac=>?_
  refine rv (fl:=dq e.kind) (n:=e.step) (by rw[V,MX (by decide)]) (AB G rfl) (ry p (by decide) (by omega)) (by simp only[A1];omega) λaM H=>ac _ _ ?_
  have I:=H.ah G (λa=>a);refine ai.mk λaN ad=>?_
  refine rv (fl:=dF e.kind) (n:=e.turn) (by rw[W,MX (by decide)]) (AB I rfl) (ry q (by decide) (by omega)) (by simp only[A1];omega) λs J=>ad _ _ ?_
  have L:=J.ah I (λa=>a);have M:=((Z.trans F).trans H).trans J;refine ai.mk λae ag=>?_
  have N: ∀g,Ext s g->ae (AX (((Bd e.id.toNat++Bd e.kind.toNat++Bd e.tick.toNat++TH (cX e.kind) e.ref)++TH (dq e.kind) e.step++TH (dF e.kind) e.turn)++TH (dV e.kind) (if e.aL then 1 else 0)),()) g:=λg j=>by
   refine ag _ _ ?_;have ah:=j.ah L (λa=>a);refine ai.mk λaO O=>?_
   rw[Y,MX (by decide)];refine af.intro (λd=>?_) (λd=>?_)
   ·refine AJ.mk (AB ah rfl) (KS (by omega) λaj ak=>⟨_,rfl,⟨?_,O _ _ ?_⟩⟩)
    ·have:=AV (n:=(bl e.data).length) (by rw[A7];omega);rw[AP,AP,max_i64];simp only[BU,A1,A7] at this ⊢;omega
    ·have:=y aj ((M.trans j).trans ak);dsimp only;rw[Aj];simp only[Nf,gV,d,if_true] at this;simp only[A3] at this ⊢;exact this
   ·refine O _ _ ?_;have:=y g (M.trans j);simp only[Nf,gV,d,Cp,if_false,AK] at this;simp only[A3] at this ⊢;exact this
  rw[X,MX (by decide)];refine af.intro (λd=>?_) (λd=>?_)
  ·refine ai.mk λam an=>Ac.mk (AB L rfl) ?_
   have go: ∀n:Nat,n<=1->(n:Int)=(if e.aL then 1 else 0)->am ((n:Int),()) s:=λn aP ao=>by
    refine an _ _ ?_;have:=AV (n:=n) (by omega);refine Cc (by omega) λg j=>⟨_,rfl,⟨?_,?_⟩⟩
    ·dsimp only;rw[AP,AP,max_i64];simp only[A1];omega
    ·have:=N g j;rw[<- ao] at this;simp only[TH,d,if_true,A6] at this;dsimp only;rw[Aj];exact this
   refine af.intro (λt=>go 1 (by omega) (by rw[t];rfl)) (λt=>go 0 (by omega) (by rw[t];rfl))
  ·have:=N s Mod.refl;simp only[TH,d,Cp,if_false,AK] at this;exact this
theorem NF(f:Bool)(m:Nat)(a:Rd):(Ei f m a).2.rest.length<=a.rest.length:=by
 cases f with
 |false=>exact A0 _
 |true=>exact II m a
theorem AQT(f:Bool)(a:Rd):(Tp f a).2.rest.length<=a.rest.length/\(Tp f a).1.length<=a.rest.length:=by
 cases f with
 |false=>exact⟨A0 _,As _⟩
 |true=>exact VF a
theorem AOS(b:kh)(c:Rd):(P7 b c).2.rest.length<=c.rest.length/\(P7 b c).1.data.size<=c.rest.length:=by
 simp only[P7,AP];have d:=II b.id c;have e:=II b.kind (CQ b.id c).2;have f:=II b.tick (CQ b.kind (CQ b.id c).2).2;generalize CQ b.tick (CQ b.kind (CQ b.id c).2).2=t at*
 generalize ((CQ b.kind (CQ b.id c).2).1:Int)=a at*
 have g:=NF (cX a) b.ref t.2;have h:=NF (dq a) b.step (Ei (cX a) b.ref t.2).2;have i:=NF (dF a) b.turn (Ei (dq a) b.step (Ei (cX a) b.ref t.2).2).2;have j:=NF (dV a) 1 (Ei (dF a) b.turn (Ei (dq a) b.step (Ei (cX a) b.ref t.2).2).2).2;have k:=AQT (eg a) (Ei (dV a) 1 (Ei (dF a) b.turn (Ei (dq a) b.step (Ei (cX a) b.ref t.2).2).2).2).2;omega
theorem rz {w:aq}{a:aa}{b d g:Nat}{f l:Int}{m:Nat}{fl:Bool}{h:Rd}{e:Array J0}{T:Q7}{K:Unit->aa->Prop}(x:(Gd J9 f l != (0:Int))=fl)(n:Ia a b h)(y:h.rest.length<=1099511627776)
  (z:m<=9223372036854775807) (o:a[d]? =some (J2 e T (0,0))) (A:g<e.size) (B:e.setIfInBounds g (J6 J9 0)=e) (p:b≠d)
  (q: ∀i,Ia i b (Ei fl m h).2->i[d]? =some (J2 (e.setIfInBounds g (J6 J9 ((Ei fl m h).1:Int))) T (0,0))->Mod (λc=>c=b\/c=d) a i->K () i):
  af (Gd J9 f l != (0:Int)) (AA w P Ab #[Ar b,J6 J9 (m:Int)] a λv r=> ∃t:Int,v=J6 J9 t/\(ae r ((⟨d,0,none⟩:Q6).add g) (J6 J9 t) λj=>K () j)) (K () a):=by
 rw[x];cases fl with
 |false=>exact af.no rfl (q a n (by simp only[Ei,Cp,if_false];rw[show(((0:Nat):Int))=(0:Int) from rfl,B];exact o) Mod.refl)
 |true=>
  refine af.yes rfl (DN n y z λr C s=>⟨_,rfl,?_⟩);refine ae.dr (s.ah o p.symm) A λj D u E=>?_
  exact q j (u.ah C p) D ((s.aj λc _ k=> .inl k).trans (u.aj λc _ k=> .inr k))
abbrev yy(i b t a s c:Int)(u:Bool)(d:A2Q):Array J0:= #[J6 J9 i,J6 J9 b,J6 J9 t,J6 J9 a,J6 J9 s,J6 J9 c,J3 u,J7 d]
theorem APO {au:aq}{b:aa}{e:Nat}{d:Rd}{M:A2P}(N:Ia b e d)(bb:d.rest.length<1099511627776)
  (O: ∀E,Ia E e (P7 fH d).2->Mod (· =e) b E->M (oG (P7 fH d).1) E):AA au P Rn #[Ar e] b M:=by
 refine AEA ?_;unfold Yi;have bc:=Ah N;refine al.mk λy _ Q z av=>?_
 have R:=z.ah N (λb=>b);have bd:CQ 500 d=CQ fH.id d:=rfl;have be:=II 500 d;have bf:=II 18 (CQ 500 d).2;have bg:=II 1099511627776 (CQ 18 (CQ 500 d).2).2;refine DN (most:=500) R (by omega) (by decide) λbh S A=>⟨_,rfl,?_⟩
 refine DN (most:=18) S (by omega) (by decide) λbi T U=>⟨_,rfl,?_⟩
 refine DN (most:=1099511627776) T (by omega) (by decide) λu F V=>⟨_,rfl,?_⟩
 have n:=(A.trans U).trans V;have W:=n.ah Q (by omega);have aw:y.size<=u.size:=n.size;refine al.mk λbj _ X B ax=>ae.eight X λay Y C az=>?_
 have o:e≠u.size:=by have:=Ah F;omega
 have aA:b.size≠u.size:=by omega
 have aC:=C.ah (B.ah F (λb=>b)) o;have aD:=C.ah (B.ah W (λb=>b)) aA;have aE:Mod (· =e) b ay:=by have l:Mod (· =e) b u:=z.mod.trans n;exact l.then ((B.mod.trans C).aj λc _ g=> .inr (by have:=n.size;have:=z.size;omega))
 refine AC.mk (AB Y rfl) (XK ⟨_,_,rfl,?_⟩);obtain⟨aF,aG,aH,aI,aJ⟩:=rr ((CQ 18 (CQ 500 d).2).1:Int);have bk:b.size<=u.size:=by omega
 have bm:b.size<=b.size:=A0 _;have bn:P7 fH d=P7 fH d:=rfl;generalize aK:((CQ 18 (CQ 500 d).2).1:Int)=a at*
 generalize aL:CQ 1099511627776 (CQ 18 (CQ 500 d).2).2=t at*
 generalize aM:((CQ 500 d).1:Int)=i at*
 have aN:P7 fH d=(⟨i,a,t.1,(Ei (cX a) 500 t.2).1,(Ei (dq a) 15 (Ei (cX a) 500 t.2).2).1,(Ei (dF a) 5 (Ei (dq a) 15 (Ei (cX a) 500 t.2).2).2).1,
   decide ((Ei (dV a) 1 (Ei (dF a) 5 (Ei (dq a) 15 (Ei (cX a) 500 t.2).2).2).2).1=1),AX (Tp (eg a) (Ei (dV a) 1 (Ei (dF a) 5 (Ei (dq a) 15 (Ei (cX a) 500 t.2).2).2).2).2).1⟩,
   (Tp (eg a) (Ei (dV a) 1 (Ei (dF a) 5 (Ei (dq a) 15 (Ei (cX a) 500 t.2).2).2).2).2).2):=by
  simp only[P7,<-aK,<-aL,<-aM];rfl
 have bo:=NF (cX a) 500 t.2;have bp:=NF (dq a) 15 (Ei (cX a) 500 t.2).2;have bq:=NF (dF a) 5 (Ei (dq a) 15 (Ei (cX a) 500 t.2).2).2;have br:=NF (dV a) 1 (Ei (dF a) 5 (Ei (dq a) 15 (Ei (cX a) 500 t.2).2).2).2;rw[aN] at O;generalize u.size=v at*
 generalize aO:Ei (cX a) 500 t.2=G at*
 generalize aP:Ei (dq a) 15 G.2=os at*
 generalize aQ:Ei (dF a) 5 os.2=s at*
 generalize Z:Ei (dV a) 1 s.2=f at*
 clear Q W X R S T F z B A U V n C av aw ax az;have up: ∀ {ab ac:aa},Mod (· =e) b ab->Mod (λc=>c=e\/c=v) ab ac->Mod (· =e) b ac:=λaR A=>aR.then (A.aj λc _ g=>g.elim .inl λbs=> .inr (by omega))
 refine ai.mk λK aS=>?_
 refine rz (m:=500) (fl:=cX a) (by rw[aF,MX (by decide)]) aC (by omega) (by decide) Y (by simp) rfl o λbt ad ag n=>aS _ _ ?_
 rw[aO] at ad ag;have aT:=n.ah aD (by omega);have aU:=up aE n;refine ai.mk λbu aV=>?_
 refine rz (m:=15) (fl:=dq a) (by rw[aG,MX (by decide)]) ad (by omega) (by decide) ag (by simp) rfl o λbv ah aj ak=>aV _ _ ?_
 rw[aP] at ah aj;have aW:=ak.ah aT (by omega);have aX:=up aU ak;refine ai.mk λbw aY=>?_
 refine rz (m:=5) (fl:=dF a) (by rw[aH,MX (by decide)]) ah (by omega) (by decide) aj (by simp) rfl o λam H I an=>aY _ _ ?_
 rw[aQ] at H I;have aZ:=an.ah aW (by omega);have a0:=up aX an;refine ai.mk λa1 a2=>?_
 have ao: ∀p,Ia p e f.2->p[v]? =some (J2 (yy i a t.1 G.1 os.1 s.1 (decide (f.1=1)) Ho) A9 (0,0))->Mod (λc=>c=e\/c=v) am p->a1 () p:=λp D ap w=>by
  refine a2 _ _ ?_;have a3:=w.ah aZ (by omega);have a4:=up a0 w;refine ai.mk λa5 a6=>?_
  have ar: ∀q,Ia q e (Tp (eg a) f.2).2->q[v]? =some (J2 (yy i a t.1 G.1 os.1 s.1 (decide (f.1=1)) (AX (Tp (eg a) f.2).1)) A9 (0,0))->Mod (λc=>c=e\/c=v) p q->a5 () q:=λq J h r=>by
   refine a6 _ _ ?_;have a7:=r.ah a3 (by omega);have a8:=up a4 r;refine AC.mk (AO h rfl) (AC.mk (AB h rfl) (AC.mk (AB h rfl) (AC.mk (AB h rfl) (AC.mk (AB h rfl) (AC.mk (AB h rfl) (Ac.mk (AB h rfl) (AJ.mk (AB h rfl) ?_)))))));refine ae.eight a7 λL k x a9=>?_
   refine AC.mk (AO k rfl) (AC.mk (AB k rfl) (AC.mk (AB k rfl) (AC.mk (AB k rfl) (AC.mk (AB k rfl) (AC.mk (AB k rfl) (Ac.mk (AB k rfl) (AJ.mk (AB k rfl) ?_)))))));exact O L (x.ah J (by omega)) (a8.then (x.aj λc _ g=> .inr (by omega)))
  rw[aJ,MX (by decide)];refine af.intro (λl=>?_) (λl=>?_)
  ·refine G7 D (by omega) λq J r=>⟨_,rfl,?_⟩
   refine ae.dr (r.ah ap o.symm) (by simp) λL k x a9=>?_
   have j:Tp (eg a) f.2=GY f.2:=by simp only[Tp,l,if_true]
   refine ar L (by rw[j];exact x.ah J o) (by rw[j];exact k) ((r.aj λc _ g=> .inl g).trans (x.aj λc _ g=> .inr g))
  ·have j:Tp (eg a) f.2=([],f.2):=by simp only[Tp,l,Cp,if_false]
   exact ar p (by rw[j];exact D) (by rw[j];exact ap) Mod.refl
 rw[aI,MX (by decide)];refine af.intro (λl=>?_) (λl=>?_)
 ·have j:f=CQ 1 s.2:=by rw[<- Z];simp only[Ei,l,if_true]
  refine DN (most:=1) H (by omega) (by decide) λp D w=>⟨_,rfl,?_⟩
  refine ae.dr (w.ah I o.symm) (by simp) λq h r bx=>?_
  have ba:((((CQ 1 s.2).1:Nat):Int)==(1:Int))=decide (f.1=1):=by
   rw[j];by_cases y:(CQ 1 s.2).1=1
   ·rw[y];rfl
   ·rw[decide_eq_false y,beq_eq_false_iff_ne];omega
  rw[ba] at h;refine ao q (by rw[j];exact r.ah D o) h ((w.aj λc _ g=> .inl g).trans (r.aj λc _ g=> .inr g))
 ·have j:f=(0,s.2):=by rw[<- Z];simp only[Ei,l,Cp,if_false]
  exact ao am (by rw[j];exact H) (by rw[j];exact I) Mod.refl
def evZ:Ev:=⟨0,0,0,0,0,0,false,Ho⟩
def AT2(a:Option Ev):J0:=J1 #[oG (a.getD evZ),J6 J9 (if a.isSome then 0 else 60)]
theorem AKU {F:aq}{b:aa}{l:List UInt8}{r:A2P}(G:l.length<1099511627776)(s: ∀t,Ext b t->r (AT2 (km l)) t):AA F P Ox #[J7 (AX l)] b r:=by
 refine ABQ ?_;unfold UF;refine al.mk λU _ H u V=>?_
 refine Jp λW v w=>⟨_,rfl,?_⟩
 have X:=Ah v;refine APO v G λI J j=>⟨_,_,_,_,_,_,_,_,rfl,?_⟩
 have L:=j.ah (w.ah H (λb=>b)) (by omega);have y:Ext b I:=(u.trans w).more j λc h=>by subst h;exact u.size
 have M:=AOS fH ⟨l,false⟩;refine al.mk λY _ N k Z=>ae.eight N λm d n ab=>?_
 have ac:=j.size;have z:Ext b m:=(y.trans k).more n λc h=>by subst h;exact y.size
 have A:=n.ah (k.ah L (λb=>b)) (by omega);have O:=n.ah (k.ah J (λb=>b)) (by omega);refine ai.mk λK B=>?_
 refine MQ O ⟨_,rfl,?_⟩;have o:km l=if Ya (P7 fH ⟨l,false⟩).2&&Ej (P7 fH ⟨l,false⟩).1 then some (P7 fH ⟨l,false⟩).1 else none:=rfl;generalize (P7 fH ⟨l,false⟩).2=C at*
 generalize (P7 fH ⟨l,false⟩).1=e at*
 have D:km l=none-> ∀p,Ext m p->K (true,()) p:=λQ p x=>by
  refine B _ _ (af.yes rfl ?_);refine ae.eight (x.ah A (λb=>b)) λq a R ad=>?_
  refine AC.mk (AO a rfl) (AC.mk (AB a rfl) (AC.mk (AB a rfl) (AC.mk (AB a rfl) (AC.mk (AB a rfl) (AC.mk (AB a rfl) (Ac.mk (AB a rfl) (AJ.mk (AB a rfl) ?_)))))));have:=s q ((z.trans x).more R λc h=>by omega);rw[Q] at this;exact this
 refine af.intro (λg=>?_) (λg=>?_)
 ·have g:Ya C=false:=by simpa using g
  exact D (by rw[o,g];rfl) m Mod.refl
 ·have g:Ya C=true:=by simpa using g
  refine AC.mk (AO d rfl) (AC.mk (AB d rfl) (AC.mk (AB d rfl) (AC.mk (AB d rfl) (AC.mk (AB d rfl) (AC.mk (AB d rfl) (Ac.mk (AB d rfl) (AJ.mk (AB d rfl) ?_)))))));refine Zu (e:=e) (by simp only at M;omega) λq i=>⟨_,rfl,?_⟩
  cases E:Ej e with
  |false=>exact D (by rw[o,E,OS];rfl) q i
  |true=>
   refine B _ _ (af.no rfl ?_);have a:=i.ah d (λb=>b);refine AC.mk (AO a rfl) (AC.mk (AB a rfl) (AC.mk (AB a rfl) (AC.mk (AB a rfl) (AC.mk (AB a rfl) (AC.mk (AB a rfl) (Ac.mk (AB a rfl) (AJ.mk (AB a rfl) ?_)))))));refine ae.eight (i.ah A (λb=>b)) λS f T ag=>?_
   refine AC.mk (AO f rfl) (AC.mk (AB f rfl) (AC.mk (AB f rfl) (AC.mk (AB f rfl) (AC.mk (AB f rfl) (AC.mk (AB f rfl) (Ac.mk (AB f rfl) (AJ.mk (AB f rfl) ?_)))))));have:=s S ((z.trans i).more T λc h=>by omega);rw[o,g,E] at this;exact this
theorem mD:QE P Bc A9 dU.w 72=true:=by kernel_rfl
theorem yz {a:Ev}(h:Ee a=true)(hd:a.data.size<18446744073709551616):(Nf a).length<=100+a.data.size:=by
 have c:=h;simp only[Ee,A4] at c;obtain⟨⟨⟨⟨⟨⟨⟨i,j⟩,k⟩,d⟩,e⟩,g⟩,l⟩,m⟩:=c;have o:=Bb.1 i;have p:=Bb.1 j;have q:=Bb.1 k;have r:=AV (n:=a.id.toNat) (by omega);have s:=AV (n:=a.kind.toNat) (by omega);have t:=AV (n:=a.tick.toNat) (by omega);have u:=Ms (f:=cX a.kind) (n:=a.ref) (by cases b:cX a.kind<;>rw[b] at d<;>simp[cY,bV] at d<;>omega);have v:=Ms (f:=dq a.kind) (n:=a.step) (by cases b:dq a.kind<;>rw[b] at e<;>simp[cY,bV] at e<;>omega);have w:=Ms (f:=dF a.kind) (n:=a.turn) (by cases b:dF a.kind<;>rw[b] at g<;>simp[cY,bV] at g<;>omega);have x:=Ms (f:=dV a.kind) (n:=if a.aL then 1 else 0) (by split<;>omega);have y:(gV (eg a.kind) a.data).length<=10+a.data.size:=by
  cases b:eg a.kind with
  |false=>simp[gV]
  |true=>
   simp only[gV,if_true,BU,A1,A7];have:=AV hd;omega
 simp only[Nf,A1];omega
end Go.Lf.G
namespace Go.Lf
open Go
def TR(a:Int)(v:J0):List (Int×J0)->List (Int×J0)
 | []=> [(a,v)]
 |p::m=>if p.1=a then(a,v)::m else p::TR a v m
def Ll(a:Int)(m:List (Int×J0)):Option J0:=(m.find? λp=>decide (p.1=a)).map (·.2)
def ij(a:Int)(m:List (Int×J0)):List (Int×J0):=m.filter λp=> !decide (p.1=a)
theorem Gb(a:Int)(p:Int×J0)(m:List (Int×J0)):Ll a (p::m)=if p.1=a then some p.2 else Ll a m:=by unfold Ll;rw[E0];by_cases b:p.1=a<;>simp[b]
theorem Zi(a:Int)(v:J0)(c:Int): ∀m,Ll c (TR a v m)=if a=c then some v else Ll c m
 | []=>by unfold TR;rw[Gb]
 |p::m=>by
  unfold TR;split
  ·rename_i d;rw[Gb,Gb];by_cases b:a=c<;>simp[d,b]
  ·rename_i d;rw[Gb,Gb,Zi a v c m];by_cases b:a=c
   ·subst b;simp[d]
   ·simp[b]
structure Wn (kd:IntKind) (es:Array MapEntry) (clock:Nat) (m:List (Int×J0)):Prop where
 same:es.toList.map (λe=>(e.key,e.val))=m.map λp=>(Value.int kd p.1,p.2)
 stamped:MapKept.Stamped es clock
 size:es.size<=maxLen
def TK(kd:IntKind)(d:aa)(b:Nat)(m:List (Int×J0)):Prop:= ∃a c,d[b]? =some (.map a c)/\Wn kd a c m
theorem TK.mod {kd:IntKind}{a c:aa}{b:Nat}{m:List (Int×J0)}{d:Nat->Prop}(M:TK kd a b m)(x:Mod d a c)(e: ¬d b):TK kd c b m:=by obtain⟨f,g,h,i⟩:=M;exact⟨f,g,x.ah h e,i⟩
theorem TK.lt {kd:IntKind}{a:aa}{b:Nat}{m:List (Int×J0)}(M:TK kd a b m):b<a.size:=by obtain⟨d,e,c,f⟩:=M;exact Ah c
theorem TK.empty {kd:IntKind}{a:aa}{b c:Nat}(d:a[b]? =some (.map #[] c)):TK kd a b []:=⟨#[],c,d,rfl,MapKept.stamped_empty c,by simp⟩
theorem Wn.len {kd:IntKind}{a:Array MapEntry}{b:Nat}{m:List (Int×J0)}(M:Wn kd a b m):a.size=m.length:=by rw[<- DO];have:=congrArg List.length M.same;simpa using this
theorem Wn.keysOf {kd:IntKind}{a:Array MapEntry}{b:Nat}{m:List (Int×J0)}(M:Wn kd a b m):a.toList.map (·.key)=m.map λp=>Value.int kd p.1:=by have:=congrArg (List.map Prod.fst) M.same;simpa [Bk,G0] using this
theorem Wn.nodup {kd:IntKind}{b:Array MapEntry}{c:Nat}{m:List (Int×J0)}(M:Wn kd b c m):(m.map (·.1)).Nodup:=by
 have a:=M.stamped.2.2;rw[M.keysOf] at a;have d:(m.map λp=>Value.int kd p.1)=(m.map (·.1)).map (Value.int kd):=by simp
 rw[d] at a;exact(List.pairwise_map.1 a).imp λe f=>e (by rw[f])
theorem Oe {kd:IntKind}(a:Int)(v:J0): ∀(c:List MapEntry) (m:List (Int×J0)) (i:Nat),(c.map λe=>(e.key,e.val))=(m.map λp=>(Value.int kd p.1,p.2))->
  (Instr.findNow (.int kd) (.int kd a) c i=some none/\Ll a m=none/\TR a v m=m++ [(a,v)]/\ij a m=m/\ ∀e∈c,e.key≠ .int kd a)\/
  ∃d u,Instr.findNow (.int kd) (.int kd a) c i=some (some (i+d,u))/\Ll a m=some u/\(∃ e,c[d]? =some e/\e.key= .int kd a)/\((c.modify d λe=> {e with key:= .int kd a,val:=v}).map λe=>(e.key,e.val))=(TR a v m).map (λp=>(Value.int kd p.1,p.2))/\
   ((m.map (·.1)).Nodup->((c.eraseIdx d).map λe=>(e.key,e.val))=(ij a m).map λp=>(Value.int kd p.1,p.2))
 | [],[],i,_=> .inl ⟨rfl,rfl,rfl,rfl,by simp⟩
 | [],_::_,_,h=>by simp at h
 |_::_,[],_,h=>by simp at h
 |e::c,p::m,i,h=>by
  simp only[B9,G4,Mb] at h;obtain⟨⟨j,l⟩,n⟩:=h;have o:Instr.sameNow (.int kd) (.int kd a) e.key=some (decide (a=p.1)):=by rw[j];show(if kd=kd then some (a==p.1) else none)=_;rw[if_pos rfl];congr 1
  by_cases b:p.1=a
  ·refine .inr ⟨0,e.val,?_,?_,⟨e,rfl,by rw[j,b]⟩,?_,?_⟩
   ·unfold Instr.findNow;rw[o,decide_eq_true b.symm];rfl
   ·rw[Gb,if_pos b,l]
   ·unfold TR;rw[if_pos b];simp[n]
   ·intro g;have g:=List.nodup_cons.1 g;simp only[List.eraseIdx_zero,List.tail_cons];rw[n];congr 1;unfold ij;rw[AT];simp only[b,decide_true,Lz,Cp,if_false];refine(List.filter_eq_self.2 λC w=>?_).symm;simp only[CI,decide_eq_false_iff_not];rintro rfl;exact g.1 (by show p.1∈_;rw[b];exact IN (f:=Prod.fst) w)
  ·rcases Oe a v c m (i+1) n with⟨q,r,s,k,y⟩|⟨d,u,q,r,⟨z,s,A⟩,B,k⟩
   ·refine .inl ⟨?_,?_,?_,?_,?_⟩
    ·unfold Instr.findNow;rw[o,decide_eq_false (λe=>b e.symm)];exact q
    ·rw[Gb,if_neg b];exact r
    ·unfold TR;rw[if_neg b,s];rfl
    ·unfold ij at k ⊢;rw[AT];simp[b];simpa using k
    ·intro x t;rcases List.mem_cons.1 t with rfl|t
     ·rw[j];intro e;injection e with _ e;exact b e
     ·exact y x t
   ·refine .inr ⟨d+1,u,?_,?_,⟨z,by simpa using s,A⟩,?_,?_⟩
    ·unfold Instr.findNow;rw[o,decide_eq_false (λe=>b e.symm)];rw[show i+(d+1)=i+1+d by omega];exact q
    ·rw[Gb,if_neg b];exact r
    ·unfold TR;rw[if_neg b];simp[j,l,B]
    ·intro g;have g:=List.nodup_cons.1 g;have:=k g.2;unfold ij at this ⊢;rw[AT];simp[b,j,l];simpa using this
section
variable {P : Q1} {kd : IntKind}
theorem GJ {a:Q7}(c:P.underlying a=some (.int kd))(d:Bool)(e:Nat)(f:Int)(b:World):(Instr.checkKey d (e+1) a (.int kd f)).run P b= .ok () b:=by simp[Instr.checkKey,BM c]
theorem MH {g:aq}{t h i:Q7}{z:J0}(j:P.underlying t=some (.map h i))(c:P.underlying h=some (.int kd))(n:(zeroValue i).calc P=some z){a:aa}{b:Nat}{m:List (Int×J0)}{d:Int}{K:A2P}
  (M:TK kd a b m) (o:K ((Ll d m).getD z) a):BI g P (Instr.lookup t (.map (some b)) (.int kd d) false) a K:=by
 intro k;refine⟨_,a,k,?_,o⟩;obtain⟨p,v,q,s⟩:=M;have l:=MapKept.run_getObj_map (P:=P) (w:=g.at a k) (r:=b) q;rcases Oe d z p.toList m 0 s.same with⟨e,f,_⟩|⟨x,u,e,f,_,_⟩
 ·simp[Instr.lookup,BM j,l,GJ c,Instr.findKey,BM c,e,f,Result.andThen,Df n]
 ·simp[Instr.lookup,BM j,l,GJ c,Instr.findKey,BM c,e,f,Result.andThen]
theorem AKJ {g:aq}{t q G:Q7}(s:P.underlying t=some (.map q G))(h:P.underlying q=some (.int kd)){a:aa}{b:Nat}{m:List (Int×J0)}{d:Int}{v:J0}{K:aa->Prop}
  (M:TK kd a b m) (O:m.length<maxLen) (y: ∀i,TK kd i b (TR d v m)->Mod (λc=>c=b) a i->i.size=a.size->K i):gQ g P (Instr.mapUpdate t (.map (some b)) (.int kd d) v) a K:=by
 intro f;obtain⟨j,l,n,e⟩:=M;have z:=Ah n;have A:=MapKept.run_getObj_map (P:=P) (w:=g.at a f) (r:=b) n;have B: ∀k,(setObj b k).run P (g.at a f)= .ok () (g.at (a.setIfInBounds b k) f):=λk=>MapKept.run_setObj_map (P:=P) (w:=g.at a f) k n
 have Q:=e.len;rcases Oe d v j.toList m 0 e.same with⟨o,H,p,_,I⟩|⟨C,u,o,H,⟨J,p,D⟩,L,_⟩
 ·refine⟨a.setIfInBounds b (.map (j.push {key:= .int kd d,val:=v,born:=l}) (l+1)),f,?_,y _ ⟨_,_,Cb z,?_,MapKept.stamped_push e.stamped I,by simp;omega⟩ (Mod.setObj rfl) (by simp)⟩
  ·simp[Instr.mapUpdate,BM s,A,GJ h,Instr.findKey,BM h,o,Result.andThen,B]
  ·rw[p];simp[e.same]
 ·have E:j[C]? =some J:=by simpa using p
  refine⟨a.setIfInBounds b (.map (j.modify C λe=> {e with key:= .int kd d,val:=v}) l),f,?_,y _ ⟨_,_,Cb z,?_,MapKept.stamped_modify e.stamped _ _ (λ_ _=>rfl) (λx _ F=>?_),by simpa using e.size⟩ (Mod.setObj rfl) (by simp)⟩
  ·have N: ∀w,(Instr.keyThatStays (.int kd d) (.int kd d)).run P w= .ok (.int kd d) w:=λw=>by
    simp[Instr.keyThatStays,Instr.sameBits]
   simp[Instr.mapUpdate,BM s,A,GJ h,Instr.findKey,BM h,o,E,D,N,Result.andThen,B]
  ·rw[Hn];exact L
  ·rw[E] at F;cases F;exact D.symm
theorem AKB {g:aq}{t k B C:Q7}(s:P.underlying t=some (.map k B))(h:P.underlying k=some (.int kd)){a:aa}{b:Nat}{m:List (Int×J0)}{l:Int}{K:A2P}
  (M:TK kd a b m) (v: ∀i,TK kd i b (ij l m)->Mod (λc=>c=b) a i->i.size=a.size->K (J1 #[]) i):BI g P (Builtin.delete_ #[t,k] C #[.map (some b),.int kd l]) a K:=by
 intro e;obtain⟨f,x,n,d⟩:=M;have y:=Ah n;have z:=MapKept.run_getObj_map (P:=P) (w:=g.at a e) (r:=b) n;have A: ∀j,(setObj b j).run P (g.at a e)= .ok () (g.at (a.setIfInBounds b j) e):=λj=>MapKept.run_setObj_map (P:=P) (w:=g.at a e) j n
 rcases Oe l (J3 true) f.toList m 0 d.same with⟨o,D,_,p,_⟩|⟨q,u,o,D,⟨E,F,I⟩,_,p⟩
 ·refine⟨_,a.setIfInBounds b (.map f x),e,?_,v _ ⟨_,_,Cb y,by rw[p];exact d.same,d.stamped,d.size⟩ (Mod.setObj rfl) (by simp)⟩;simp[Builtin.delete_,BM s,z,GJ h,Instr.findKey,BM h,o,Result.andThen,A]
 ·have G:f[q]? =some E:=by simpa using F
  refine⟨_,a.setIfInBounds b (.map (f.eraseIdxIfInBounds q) x),e,?_,v _ ⟨_,_,Cb y,?_,MapKept.stamped_erase d.stamped _,?_⟩ (Mod.setObj rfl) (by simp)⟩
  ·simp[Builtin.delete_,BM s,z,GJ h,Instr.findKey,BM h,o,Result.andThen,A]
  ·have H:=(Array.getElem?_eq_some_iff.1 G).1;rw[Array.eraseIdxIfInBounds,dif_pos H,A0j];exact p d.nodup
  ·have:(f.eraseIdxIfInBounds q).size<=f.size:=by unfold Array.eraseIdxIfInBounds;split<;>simp
   have:=d.size;omega
end
theorem xn(b c:Int): ∀m:List (Int×J0),Ll c (ij b m)=if b=c then none else Ll c m
 | []=>by simp[Ll,ij]
 |p::m=>by
  have e:=xn b c m;unfold ij at e ⊢;rw[AT,Gb];by_cases d:p.1=b
  ·rw[if_neg (by simp[d]),e];by_cases a:b=c
   ·rw[if_pos a,if_pos a]
   ·rw[if_neg a,if_neg a,if_neg (λf=>a (d.symm.trans f))]
  ·rw[if_pos (by simp[d]),Gb,e];by_cases a:p.1=c
   ·rw[if_pos a,if_pos a,if_neg (λf=>d (a.trans f.symm))]
   ·rw[if_neg a,if_neg a]
theorem APr {a:Int}{m:List (Int×J0)}:(ij a m).length<=m.length:=A0t _ _
theorem Xu {k:Int}{v:J0}: ∀ {m:List (Int×J0)},(TR k v m).length<=m.length+1
 | []=>by simp[TR]
 |p::m=>by
  unfold TR;split
  ·simp
  ·have:=Xu (k:=k) (v:=v) (m:=m);simp only[A5];omega
section
variable {P : Q1} {kd : IntKind}
theorem xo {i:aq}{t O Q:Q7}{z:J0}(R:P.underlying t=some (.map O Q))(A:P.underlying O=some (.int kd))(Y:(zeroValue Q).calc P=some z){f:aa}{b:Nat}{m:List (Int×J0)}{g:Int}{v:J0}{K:aa->Prop}
  (M:TK kd f b m) (ak:m.length<maxLen) (S: ∀B,TK kd B b (TR g v m)->Mod (λc=>c=b) f B->B.size=f.size->K B):
  BI i P (Instr.mapEntry t (.map (some b)) (.int kd g)) f λw n=> ∃x u:J0,w=J1 #[x,u]/\ ∃st:Int,u=J6 J9 st/\(gQ i P (Instr.entryStore t (.map (some b)) (J6 J9 st) v) n λZ=>K Z):=by
 intro y;obtain⟨e,d,E,h⟩:=M;have T:=Ah E;have U:=MapKept.run_getObj_map (P:=P) (w:=i.at f y) (r:=b) E;have V: ∀k,(setObj b k).run P (i.at f y)= .ok () (i.at (f.setIfInBounds b k) y):=λk=>MapKept.run_setObj_map (P:=P) (w:=i.at f y) k E
 have al:=h.len;obtain⟨ab,W,_⟩:=h.stamped;rcases Oe g v e.toList m 0 h.same with⟨F,ac,p,_,ad⟩|⟨j,u,F,ac,⟨q,p,C⟩,ae,_⟩
 ·refine⟨J1 #[z,goInt d],f.setIfInBounds b (.map (e.push ⟨.int kd g,z,d⟩) (d+1)),y,?_,z,goInt d,rfl,(d:Int),rfl,λo=>?_⟩
  ·simp[Instr.mapEntry,BM R,U,GJ A,Instr.findKey,BM A,F,Result.andThen,Df Y,V]
  have s:(f.setIfInBounds b (.map (e.push ⟨.int kd g,z,d⟩) (d+1)))[b]? =some (.map (e.push ⟨.int kd g,z,d⟩) (d+1)):=Cb T;have G:Mod (λc=>c=b) f (f.setIfInBounds b (.map (e.push ⟨.int kd g,z,d⟩) (d+1))):=Mod.setObj rfl;have af:(f.setIfInBounds b (.map (e.push ⟨.int kd g,z,d⟩) (d+1))).size=f.size:=by simp
  generalize f.setIfInBounds b (.map (e.push ⟨.int kd g,z,d⟩) (d+1))=n at*
  have H:=Ah s;have I:=MapKept.run_getObj_map (P:=P) (w:=i.at n o) (r:=b) s;have J: ∀k,(setObj b k).run P (i.at n o)= .ok () (i.at (n.setIfInBounds b k) o):=λk=>MapKept.run_setObj_map (P:=P) (w:=i.at n o) k s
  have L:(e.push ⟨.int kd g,z,d⟩).findIdx? (λh=>((h.born:Nat):Int)==((d:Nat):Int))=some e.size:=by
   rw[WideElems.findIdx_arr];exact WideElems.findIdx_born (l:=(e.push ⟨.int kd g,z,d⟩).toList) (j:=e.size) (e0:=⟨.int kd g,z,d⟩) (by
    simp only[Sf,AW,B9,Mu];refine List.nodup_append.2 ⟨W,by simp,λa ag c ah am=>?_⟩;simp only[HM] at ah;obtain⟨x,D,rfl⟩:=List.mem_map.1 ag;have:=ab x D;omega) (by simp)
  have N:(e.push ⟨.int kd g,z,d⟩).modify e.size (λh=> {h with val:=v})=e.push ⟨.int kd g,v,d⟩:=by apply On;rw[Hn,Sf,Sf,<-DO,WideElems.modify_last]
  refine⟨n.setIfInBounds b (.map (e.push ⟨.int kd g,v,d⟩) (d+1)),o,?_,S _ ⟨_,_,Cb H,?_,MapKept.stamped_push h.stamped ad,by simp;omega⟩ (G.trans (Mod.setObj rfl)) (by simp;omega)⟩
  ·simp[Instr.entryStore,I,asInt,asIntOf,goInt,L,N,J,Result.andThen]
  ·rw[p];simp[h.same]
 ·have X:e[j]? =some q:=by simpa using p
  have ai:e.modify j (λh=> {h with key:= .int kd g})=e:=by
   apply On;rw[Hn,ChangeMaps.modify_eq_set _ _ _ _ p];have:({q with key:= .int kd g}:MapEntry)=q:=by rw[<- C]
   rw[this];exact WideElems.set_self _ _ _ p
  have aj: ∀w,(Instr.keyThatStays (.int kd g) (.int kd g)).run P w= .ok (.int kd g) w:=λw=>by
   simp[Instr.keyThatStays,Instr.sameBits]
  refine⟨J1 #[u,goInt q.born],f.setIfInBounds b (.map e d),y,?_,u,goInt q.born,rfl,(q.born:Int),rfl,λo=>?_⟩
  ·simp[Instr.mapEntry,BM R,U,GJ A,Instr.findKey,BM A,F,X,C,aj,ai,Result.andThen,V]
  have s:(f.setIfInBounds b (.map e d))[b]? =some (.map e d):=Cb T;have G:Mod (λc=>c=b) f (f.setIfInBounds b (.map e d)):=Mod.setObj rfl;have af:(f.setIfInBounds b (.map e d)).size=f.size:=by simp
  generalize f.setIfInBounds b (.map e d)=n at*
  have H:=Ah s;have I:=MapKept.run_getObj_map (P:=P) (w:=i.at n o) (r:=b) s;have J: ∀k,(setObj b k).run P (i.at n o)= .ok () (i.at (n.setIfInBounds b k) o):=λk=>MapKept.run_setObj_map (P:=P) (w:=i.at n o) k s
  have L:e.findIdx? (λh=>((h.born:Nat):Int)==((q.born:Nat):Int))=some j:=by rw[WideElems.findIdx_arr];exact WideElems.findIdx_born W p
  have N:e.modify j (λh=> {h with val:=v})=e.modify j (λh=> {h with key:= .int kd g,val:=v}):=by apply On;rw[Hn,Hn,ChangeMaps.modify_eq_set _ _ _ _ p,ChangeMaps.modify_eq_set _ _ _ _ p,<-C]
  refine⟨n.setIfInBounds b (.map (e.modify j λh=> {h with key:= .int kd g,val:=v}) d),o,?_,S _ ⟨_,_,Cb H,?_,MapKept.stamped_modify h.stamped _ _ (λ_ _=>rfl) (λx _ D=>?_),by simpa using h.size⟩ (G.trans (Mod.setObj rfl)) (by simp;omega)⟩
  ·simp[Instr.entryStore,I,asInt,asIntOf,goInt,L,N,J,Result.andThen]
  ·rw[Hn];exact ae
  ·rw[X] at D;cases D;exact C.symm
end
end Go.Lf
namespace Go.Lf.G
open Go
def CF(a:Nat):A2Q:=AX [Br 108,Br a]
def Jn(a:Nat)(name:A2Q):A2Q:=AX (Bd a++BU (bl name))
theorem KR(a:Nat):(CF a).size=2:=rfl
theorem AMt(a:Nat):CF a≠⟨#[]⟩:=λb=>by have:=congrArg ByteArray.size b;rw[KR] at this;cases this
theorem zJ {m a:Nat}(c:m<256)(d:a<256)(h:CF m=CF a):m=a:=by have b:=Mi.1 h;simp only[G4,and_true,true_and] at b;have:=congrArg UInt8.toNat b;rwa [DR c,DR d] at this
theorem AKk {a:Nat}{name:A2Q}(d:a<=2147483647)(b:Ak name=true):(Jn a name).size<=8192:=by have e:=(FQ.1 b).2.1;have f:=AV (n:=a) (by omega);have c:=AV (n:=(bl name).length) (by rw[A7];omega);unfold Jn BU;rw[AP,A1,A1,A7];rw[A7] at c;omega
section
variable {A : aq} {h : aa} {R : A2P}
theorem TP {a:Nat}(b:a<256)(e: ∀c,Ext h c->R (J7 (CF a)) c):AA A P Hz #[J6 J9 (a:Int)] h R:=by
 refine AD9 ?_;unfold Yh;refine Vj ?_;unfold RQ;refine al.mk λd _ f g j=>?_
 have v1:View GN d ⟨some ⟨h.size,0,none⟩,1,1⟩ [Br a]:=(Own.lit (E:=GN) (l:= [Br a]) f (by simp[GN,DR b,wrap_u8,An b]) (by simp[maxLen])).view;refine JP (s:=⟨some ⟨h.size,0,none⟩,1,1⟩) Wt ky Ol v1 ⟨_,rfl,⟨_,rfl,⟨by rw[AP,max_i64,show(⟨#[108]⟩:A2Q).size=1 from rfl];simp,?_⟩⟩⟩;have i:(⟨#[108]⟩:A2Q)++AX [Br a]=CF a:=by rw[show(⟨#[108]⟩:A2Q)=AX [Br 108] from rfl,Aj];rfl
 rw[i];exact e d g
theorem oN {a:Nat}{name:A2Q}(k:1<=a)(m:a<=2147483647)(b:Ak name=true)(f: ∀c,Ext h c->R (J1 #[J7 (Jn a name),J6 J9 0]) c):AA A P KY #[J6 J9 (a:Int),J7 name] h R:=by
 obtain⟨l,rfl⟩: ∃l,name=AX l:=⟨_,(EE name).symm⟩;have d:=(FQ.1 b).2.1;rw[AP] at d;refine AGR ?_;unfold uO;refine ai.mk λK g=>af.no (decide_eq_false (by omega)) (af.no (decide_eq_false (by omega)) (FL ⟨_,rfl,g _ _ (af.no (by rw[b];rfl) ?_)⟩))
 rw[CG (by omega)];have e:=AV (n:=a) (by omega);have o:=AV (n:=l.length) (by omega);refine Cc (by omega) λd i=>⟨_,rfl,?_⟩
 refine Qy (l:=l) (by omega) λe j=>⟨_,rfl,⟨?_,?_⟩⟩
 ·rw[AP,AP,max_i64];unfold BU;rw[A1];omega
 ·rw[Aj];have:=f e (i.trans j);unfold Jn at this;rwa [show bl (AX l)=l from Be l] at this
theorem ANU {r:Nat}{name:A2Q}(j:1<=r)(a:r<=2147483647)(b:Ak name=true)(k: ∀d,Ext h d->R (J1 #[J6 J9 (r:Int),J7 name,J6 J9 0]) d):AA A P Pv #[J7 (Jn r name)] h R:=by
 have m:=b;obtain⟨l,rfl⟩: ∃l,name=AX l:=⟨_,(EE name).symm⟩;have o:=(FQ.1 b).2.1;rw[AP] at o;have w:=AV (n:=r) (by omega);have x:=AV (n:=l.length) (by omega);have y:(BU l).length<=26:=by unfold BU;rw[A1];omega
 refine ADb ?_;unfold WP Jn;rw[show bl (AX l)=l from Be l];refine Jp (l:=Bd r++BU l) λz p q=>⟨_,rfl,?_⟩
 refine DN (most:=2147483647) p (by simp only[A1];omega) (by decide) λB e s=>⟨_,rfl,?_⟩
 rw[CP (by omega) a] at e ⊢;refine G7 e (by dsimp only;omega) λt f u=>⟨_,rfl,?_⟩
 have g:=IR (l:=l) (by omega) [];rw[AK] at g;rw[g] at f ⊢;refine oN j a m λhd i=>⟨_,_,rfl,?_⟩
 refine ai.mk λK v=>af.no rfl (MQ (r:=⟨[],false⟩) (i.ah f λh=>h) ⟨_,rfl,v _ _ (af.no rfl ?_)⟩)
 exact k hd ((q.then ((s.trans u).aj λc _ t=> .inr (by omega))).trans i)
end
theorem tU: ∀(k a:Nat),IX (k+1) a=Br (a / 256^k)::IX k a
 |0,a=>by rw[IX,IX];simp[IX]
 |k+1,a=>by
  rw[IX,tU k (a / 256),Dd];show Br (a / 256 / 256^k)::(IX k (a / 256)++ [Br a])=_;rw[Vc,show 256*256^k=256^(k+1) from by rw[DG,CD]];rfl
theorem tV(m:Nat):(m:Int).fdiv ((2:Int)^(8:Nat))=((m / 256:Nat):Int):=by rw[show((2:Int)^(8:Nat))=256 from by decide,Wa _ (by decide)];omega
section
variable {A : aq} {h : aa} {R : A2P}
theorem VH {n:Nat}(r: ∀o,Ext h o->R (J7 (AX (IX 8 n))) o):AA A P Ja #[.int .u64 (n:Int)] h R:=by
 refine AEt ?_;unfold Yu;refine wQ (E:=GN) (x0:=0) (v:= .int .u8 0) (n:=8) VQ yO rfl rfl rfl (by omega) (by simp only[maxLen];omega) λt u w D=>?_
 dsimp only;refine Loop.rule (λm x d=> ∃i:Nat,x=(((n / 256^i:Nat):Int),(i:Int),())/\m=8-i/\i<=8/\Mod (λc=>c=h.size) t d/\Own GN Di d ⟨some ⟨h.size,0,none⟩,8,8⟩ (List.replicate (8-i) 0++IX i n)) ?_ ⟨0,by simp,rfl,by omega,Mod.refl,by simpa [IX] using u⟩;rintro F m _ d ⟨i,rfl,rfl,G,p,f⟩ y;dsimp only;refine af.intro (λg=>?_) (λg=>?_)
 ·have k:i<8:=by simp at g;omega
  rw[wrap_i64 (by omega) (by omega),show(7:Int)-(i:Int)=((7-i:Nat):Int) from by omega,tV,Aa (by omega),Vc,<-DG];have ag:(List.replicate (8-i) (0:UInt8)++IX i n)[7-i]? =some 0:=by rw[GC (by simp;omega),List.getElem?_replicate,if_pos (by omega)]
  refine f.view.idx ag λa z H=>?_
  rw[A6,<-add_zero (a.add ((7-i)*1)),wrap_u8];refine Own.store (E:=GN) (i:=7-i) (j:=0) (x:=0) (x':=Br (n / 256^i)) (v:= .int .u8 ((n / 256^i % 256:Nat):Int)) f ag (by show [Value.int .u8 _]=_;rw[Ql,DR (by omega)];rfl) (by decide) (λI q B J=>?_) a z;refine y (8-(i+1)) _ _ (by omega) ⟨i+1,rfl,rfl,k,p.trans (B.aj λb _ e=>?_),?_⟩
  ·simp[Sl.ah] at e;exact e.symm
  ·have C:(List.replicate (8-i) (0:UInt8)++IX i n).set (7-i) (Br (n / 256^i))=List.replicate (8-(i+1)) 0++IX (i+1) n:=by rw[tU,show 8-i=(7-i)+1 from by omega,List.replicate_succ',A3,HN _ _ (by simp),List.length_replicate,MA,show 8-(i+1)=7-i from by omega];rfl
   rw[C] at q;exact q
 ·have k:i=8:=by simp at g;omega
  subst k;refine JP VQ yP yQ (s:=⟨some ⟨h.size,0,none⟩,8,8⟩) (l:=IX 8 n) (by simpa using f.view) ⟨_,rfl,?_⟩;exact r d (w.more p λb e=>by subst e;exact A0 _)
theorem tW {wid:A2Q}(e:wid.size<=1000000)(b: ∀a,Ext h a->R (J7 (Wx wid)) a):AA A P MP #[J7 wid] h R:=by
 refine ABr ?_;unfold WW;have f:=AV (n:=(bl wid).length) (by rw[A7];omega);refine KS (by omega) λc d=>⟨_,rfl,⟨?_,?_⟩⟩
 ·rw[AP,max_i64];unfold BU;rw[A1,A7] at*
  rw[show(⟨#[104]⟩:A2Q).size=1 from rfl];omega
 ·rw[show(⟨#[104]⟩:A2Q)=AX [kE] from rfl,Aj];exact b c d
theorem tX {wid:A2Q}{id:Nat}(b:wid.size<=1000000)(c:id<18446744073709551616)(d: ∀a,Ext h a->R (J7 (eo wid id)) a):AA A P Nn #[J7 wid,J6 J9 (id:Int)] h R:=by
 refine AEE ?_;unfold Xj;refine tW b λi e=>⟨_,rfl,?_⟩
 rw[if_neg (by omega),CG c];have j:=AV (n:=(bl wid).length) (by rw[A7];omega);refine VH λf g=>⟨_,rfl,⟨⟨by decide,by rw[AP,Ki];decide⟩,?_⟩⟩
 rw[show(AX (IX 8 id)).extract (4:Int).toNat (AX (IX 8 id)).size=AX (IX 4 id) from VJ (IX 8 id) 4];refine⟨?_,?_⟩
 ·unfold Wx kY BU;rw[AP,AP,Ki,max_i64];simp only[A5,A1,A7] at*
  omega
 ·have:=d f (e.trans g);unfold Wx;rw[Aj];exact this
theorem nB {wid:A2Q}(c:wid.size<=1000000)(a:R (J7 (KZ wid)) h):AA A P GU #[J7 wid] h R:=by
 refine AHM ?_;unfold uK;refine⟨by rw[max_i64,show(⟨#[119]⟩:A2Q).size=1 from rfl];omega,?_⟩;have b:(⟨#[119]⟩:A2Q)++wid=KZ wid:=by
  conv=>lhs;rw[<- EE wid]
  rw[show(⟨#[119]⟩:A2Q)=AX [119] from rfl,Aj];rfl
 rw[b];exact a
theorem tY {a:A2Q}(d:a.size<=1000000)(b:R (J7 (Kb a)) h):AA A P Jw #[J7 a] h R:=by
 refine Zv ?_;unfold SK;refine⟨by rw[max_i64,show(⟨#[114]⟩:A2Q).size=1 from rfl];omega,?_⟩;have c:(⟨#[114]⟩:A2Q)++a=Kb a:=by
  conv=>lhs;rw[<- EE a]
  rw[show(⟨#[114]⟩:A2Q)=AX [114] from rfl,Aj];rfl
 rw[c];exact b
theorem pX {a:Nat}(b:a<256)(e: ∀c,Ext h c->R (J7 (AX [Br a])) c):AA A P LP #[J6 J9 (a:Int)] h R:=by
 refine Vj ?_;unfold RQ;refine al.mk λd _ f g i=>?_
 have v1:View GN d ⟨some ⟨h.size,0,none⟩,1,1⟩ [Br a]:=(Own.lit (E:=GN) (l:= [Br a]) f (by
  show [Value.int .u8 (J8 .u8 (a:Int))]= [Value.int .u8 ((Br a).toNat:Int)];rw[wrap_u8,DR b,An b]) (by simp[maxLen])).view
 exact JP (s:=⟨some ⟨h.size,0,none⟩,1,1⟩) Wt ky Ol v1 ⟨_,rfl,e d g⟩
theorem AQE {a id:Nat}(c:a<256)(d: ∀b,Ext h b->R (J7 (DF a id)) b):AA A P KA #[J6 J9 (a:Int),.int .u64 (id:Int)] h R:=by
 refine ZO ?_;unfold SN;refine Ph ?_;unfold MI;refine pX c λi e=>⟨_,rfl,⟨by rw[AP,max_i64];show((2:Nat):Int)<=9223372036854775807;decide,⟨_,rfl,?_⟩⟩⟩
 rw[show(⟨#[116]⟩:A2Q)=AX [116] from rfl,Aj];refine VH λf g=>⟨_,rfl,⟨by rw[AP,AP,Ki,max_i64];show((10:Nat):Int)<=9223372036854775807;decide,?_⟩⟩
 rw[Aj];exact d f (e.trans g)
theorem AQA {a id t:Nat}(c:a<256)(d:t<18446744073709551616)(e: ∀b,Ext h b->R (J7 (R3 a t id)) b):AA A P OE #[J6 J9 (a:Int),J6 J9 (t:Int),.int .u64 (id:Int)] h R:=by
 refine AEW ?_;unfold YE;refine ACK ?_;unfold WS;refine pX c λk f=>⟨_,rfl,⟨by rw[AP,max_i64];show((2:Nat):Int)<=9223372036854775807;decide,⟨_,rfl,?_⟩⟩⟩
 rw[show(⟨#[109]⟩:A2Q)=AX [109] from rfl,Aj,if_neg (by omega),CG d];refine VH λl g=>⟨_,rfl,⟨by rw[AP,AP,Ki,max_i64];show((10:Nat):Int)<=9223372036854775807;decide,?_⟩⟩
 rw[Aj];refine VH λi j=>⟨_,rfl,⟨by rw[AP,AP,A1,Ki,max_i64];show((18:Nat):Int)<=9223372036854775807;decide,?_⟩⟩
 rw[Aj];exact e i ((f.trans g).trans j)
theorem tZ {m:cQ}{st nx:Nat}(f:m.status=(st:Int))(g:m.next=(nx:Int))(s:st<128)(t:nx<=501)(i: ∀d,Ext h d->R (J7 (QS st nx m.kept)) d):AA A P FK #[m.v] h R:=by
 refine XT ?_;unfold PQ;have u:=Fe (n:=st) (by omega);have v:=Fe (n:=nx) (by omega);refine al.mk λj _ b k w=>ai.mk λK l=>?_
 have key: ∀n:Nat,n=(if m.kept then 1 else 0)->K ((n:Int),()) j:=λn c=>by
  refine l _ _ (AC.mk (AO b rfl) (AC.mk (AB b rfl) ?_));have x:(Bd n).length<=2:=Fe (by split at c<;>omega);rw[f,CG (by omega)];refine Cc (by omega) λy e=>⟨_,rfl,?_⟩
  have o:=e.ah b (λh=>h);refine⟨AB o rfl,?_⟩;rw[g,CG (by omega)];refine Cc (by omega) λz p=>⟨_,rfl,⟨by rw[AP,AP,max_i64];omega,?_⟩⟩
  rw[Aj];refine Cc (by split at c<;>omega) λq r=>⟨_,rfl,⟨by rw[AP,AP,A1,max_i64];omega,?_⟩⟩
  rw[Aj,A3];have:=i q (((k.trans e).trans p).trans r);unfold QS at this;rw[<- c] at this;exact this
 refine Ac.mk (AB b rfl) (af.intro (λa=>?_) (λa=>?_))
 ·have a:m.kept=true:=a;exact key 1 (by rw[a];rfl)
 ·have a:m.kept=false:=a;exact key 0 (by rw[a];rfl)
theorem AKd {st nx:Nat}{a:Bool}(s:st<=4)(O:2<=nx)(t:nx<=501)(u: ∀l,Ext h l->R (J1 #[(⟨(st:Int),(nx:Int),a⟩:cQ).v,J6 J9 0]) l):AA A P Oj #[J7 (QS st nx a)] h R:=by
 refine ABC ?_;unfold TQ;refine al.mk λv _ m o Q=>?_
 unfold QS;have S:=Fe (n:=st) (by omega);have T:=Fe (n:=nx) (by omega);have U:(Bd (if a then 1 else 0)).length<=2:=Fe (by split<;>omega);have w:CQ 1 ⟨Bd (if a then 1 else 0),false⟩=((if a then 1 else 0),⟨[],false⟩):=by have:=CP (n:=if a then 1 else 0) (most:=1) (by split<;>omega) (by split<;>omega) [];rwa [AK] at this
 refine Jp λx p d=>⟨_,rfl,?_⟩
 refine DN (most:=4) p (by simp only[A1];omega) (by decide) λV y e=>⟨_,rfl,?_⟩
 rw[CP (by omega) s] at*
 refine DN (most:=501) y (by simp only[A1];omega) (by decide) λW z f=>⟨_,rfl,?_⟩
 rw[CP (by omega) t] at*
 refine DN (most:=1) z (by simp only;omega) (by decide) λB C g=>⟨_,rfl,?_⟩
 rw[w] at*
 refine al.mk λX _ D i Y=>aE.mk D (A0 3) λj q k Z=>?_
 have aa:=Ah m;have ab:=d.size;have ac:=e.size;have ad:=f.size;have ae:=g.size;have E:j[h.size]? =some (J2 cQ.z.c JC (0,0)):=k.ah (i.ah (g.ah (f.ah (e.ah (d.ah m (λh=>h)) (by omega)) (by omega)) (by omega)) (λh=>h)) (by omega);have F:Ia j v.size ⟨[],false⟩:=k.ah (i.ah C (λh=>h)) (by have:=Ah p;omega);have G:Ext h j:=by
  have H:Ext h x:=o.trans d;have r:Ext h B:=H.more ((e.trans f).trans g) λc b=>by subst b;exact o.size
  exact(r.trans i).more k λc b=>by subst b;exact r.size
 refine ai.mk λK I=>MQ F ⟨_,rfl,af.no rfl (AC.mk (AB q rfl) (I _ _ (af.no (decide_eq_false (by show ¬((nx:Int)<2);omega)) ?_)))⟩
 have J:(((if a then 1 else 0:Nat):Int)==(1:Int))=a:=by cases a<;>rfl
 refine OV.mk ⟨(st:Int),(nx:Int),_⟩ (Cr q rfl) (aE.mk E (A0 3) λL M N ag=>OV.mk ⟨(st:Int),(nx:Int),_⟩ (Cr M rfl) ?_);rw[J];exact u L (G.more N λc b=>by subst b;exact A0 _)
def Ap(wid:A2Q)(a:Nat):Nat:=my wid / 256 % a
theorem OG {wid:A2Q}{a:Nat}(d:wid.size<=1000000)(e:1<=a)(f:a<=16)(b:R (J1 #[J6 J9 (Ap wid a:Int),J6 J9 0]) h):AA A P JK #[J7 wid,J6 J9 (a:Int)] h R:=by
 refine AEw ?_;unfold YZ;refine ai.mk λK c=>af.no (decide_eq_false (by omega)) ?_
 refine c _ _ (af.no (decide_eq_false (by omega)) (rF (by omega) ⟨_,_,rfl,⟨by omega,?_⟩⟩));have g:=(xW wid);rw[tV,wrap_i64 (by omega) (by omega)];exact b
end
def gl(p f:A2Q):A2Q:=if aM p f then f else p
theorem ATA(p f b:A2Q):aM b (gl p f)=false↔aM b p=false/\aM b f=false:=by
 unfold gl;split
 ·rename_i c;refine⟨λa=>⟨?_,a⟩,λa=>a.2⟩;cases d:aM b p
  ·rfl
  ·rw[Da d c] at a;cases a
 ·rename_i c;refine⟨λa=>⟨a,?_⟩,λa=>a.1⟩;exact ZV (by simpa using c) a
def QC(p:A2Q):A2Q:=⟨((eQ p.data.toList).getD []).toArray⟩
theorem ATQ: ∀ {p c:List UInt8},eQ p=some c->c≠ []
 | [],c,b=>by cases b
 |a::p,c,b=>by
  unfold eQ at b;split at b
  ·obtain rfl:=C2 b;simp
  ·split at b
   ·obtain rfl:=C2 b;simp
   ·cases b
theorem APT(p d:A2Q):(decide (QC p=⟨#[]⟩)||aM d (QC p))=true↔ ∀a,eQ p.data.toList=some a->d.data.toList<a:=by
 unfold QC;cases e:eQ p.data.toList with
 |none=>simp
 |some a=>
  have f:=ATQ e;have c:decide ((⟨(Option.getD (some a) []).toArray⟩:A2Q)=⟨#[]⟩)=false:=decide_eq_false λc=>f (by
   have:=congrArg (λb:A2Q=>b.data.toList) c;simpa using this)
  rw[c,SU,R9];simp
theorem AQs(p f a:A2Q):kC (gl p f) (QC p) a=(Kc p a&& !aM a f):=by
 rw[DQ];unfold kC;rw[A4,A4,APT,CI,ATA,Og,<-xk,CI];rw[show(aM a p=false↔ ¬a.data.toList<p.data.toList) from by rw[R9];simp];constructor
 ·rintro⟨⟨b,c⟩,d⟩;exact⟨⟨b,d⟩,c⟩
 ·rintro⟨⟨b,d⟩,c⟩;exact⟨⟨b,c⟩,d⟩
def jj(m:List Pr)(p f:A2Q)(a:Int):List Pr:=(m.filter λx=>Kc p x.key&& !aM x.key f).take a.toNat
theorem AOs(m:List Pr)(p f:A2Q)(a:Int):mM m (gl p f) (QC p) a=jj m p f a:=by unfold mM Qu jj;rw[HG λx _=>AQs p f x.key]
def Bf(m:List Pr)(c:Pr):Bool:=if c.gone then !(Iu m c.key).2 else(Iu m c.key).2&&decide ((Iu m c.key).1=c.val)
open M (Sorted Af CY BA Ag Au BV Ai bB BH aP BF)
structure F8 (B:cH) (g h:aa) (s:Nat) (q:Hp) (k:Nat->Nat) (st:Db) (m:Bx) (D:Bt) (aI c n:Nat):Prop where
 db:Bz B g h q k st m D aI c
 cell:h[s]? =some (J2 #[Ar q.d,J6 J9 (n:Int)] vN (0,0))
 kz:k s=0
 base:g.size<=s
 fuel:m.fuel= -1
 cn:n<=1000000
def dw(m a l:List Pr):Int:=if a.length>64 then 2 else if EY l≠0 then EY l else if a.all (Bf m) then 0 else 100
theorem AH2 {m:List Pr}{c:Pr}:Bf m c= !(((Iu m c.key).2==c.gone)||((Iu m c.key).2&& !bO (Iu m c.key).1 c.val)):=by unfold Bf;rw[CU];cases c.gone<;>cases (Iu m c.key).2<;>simp
section
variable {A : aq} {B : cH} {g h : aa} {s : Nat} {q : Hp} {k : Nat -> Nat} {st : Db} {m : Bx} {D : Bt} {aI c n : Nat} {R : A2P}
theorem F8.on {b:aa}(a:F8 B g h s q k st m D aI c n)(x:Ext h b):F8 B g b s q k st m D aI c n:=⟨a.db.on x,Am x a.cell,a.kz,a.base,a.fuel,a.cn⟩
theorem F8.beside {d:aa}{b:Nat->Prop}(a:F8 B g h s q k st m D aI c n)(x:Mod b h d)(hX: ∀c,b c->k c=0/\g.size<=c)(e: ¬b s):F8 B g d s q k st m D aI c n:=⟨a.db.beside x hX,x.ah a.cell e,a.kz,a.base,a.fuel,a.cn⟩
theorem F8.put {d b:Nat}(a:F8 B g h s q k st m D aI c n)(e:aI<=d)(f:c<=b)(i:b<=B.C):F8 B g h s q k st m D d b n:=⟨a.db.put e f i,a.cell,a.kz,a.base,a.fuel,a.cn⟩
theorem F8.lt(a:F8 B g h s q k st m D aI c n):s<h.size:=Ah a.cell
theorem F8.step {b:aa}{d:Hp}{k':Nat->Nat}{f:Db}{e:Bx}{i:Bt}{j l:Nat}(a:F8 B g h s q k st m D aI c n)(p:Bz B g b d k' f e i j l)(hd:d.d=q.d)(r:e.fuel= -1)(t:Mod (λc=>k c≠0) h b)(u: ∀c,k' c≠0->k c≠0\/h.size<=c):F8 B g b s d k' f e i j l n:=by
 refine⟨p,by rw[hd];exact t.ah a.cell (by rw[a.kz];simp),Decidable.byContradiction λv=>?_,a.base,r,a.cn⟩;have:=a.lt;rcases u s v with o|o
 ·exact o a.kz
 ·omega
theorem rM {key:A2Q}(b:F8 B g h s q k st m D aI c n)(d:key.size<=1099511627776)(e: ∀a,Ext h a->R (J1 #[J7 (Iu (Cm st) key).1,J3 (Iu (Cm st) key).2,J6 J9 0]) a):AA A P FP #[Ar s,J7 key] h R:=by refine ZR ?_;unfold SY;refine af.no rfl (aD (AY.mk (AO b.cell rfl) ?_));obtain⟨i,f,j,l⟩:=b.db.dj;exact AO8 b.db.mem f d λa x=>⟨_,_,_,rfl,e a x⟩
theorem AOl {p:A2Q}(Q:p.size<=1099511627776)(t: ∀u,Ext h u->R (J7 (QC p)) u):AA A P Um #[J7 p] h R:=by
 refine AGi ?_;unfold uL;have y:J8 J9 ((p.size:Int)-(1:Int))=(p.size:Int)-1:=wrap_i64 (by omega) (by omega);rw[y];have S:p.data.toList.length=p.size:=by rw[DO];rfl
 refine Loop.rule (λv x f=> ∃b:Nat,x=((b:Int)-1,())/\v=b/\f=h/\b<=p.size/\ ∀x∈p.data.toList.drop b,¬x<255) ?_ ⟨p.size,rfl,rfl,rfl,A0 _,λx e=>by rw[HD (by omega)] at e;cases e⟩;rintro K v _ f ⟨b,rfl,T,rfl,U,o⟩ z;dsimp only;refine af.intro (λr=>?_) (λr=>?_)
 ·have V:1<=b:=by have:=of_decide_eq_true r;omega
  obtain⟨i,rfl⟩: ∃i,b=i+1:=⟨b-1,by omega⟩;have C:((i+1:Nat):Int)-1=(i:Int):=by omega
  rw[C];refine⟨by omega,?_⟩;have ag:p.data.toList[i]? =some (p.data.toList[i]'(by omega)):=A2 _;generalize F:p.data.toList[i]'(by omega)=a at*
  have G:dt p (i:Int)=(a.toNat:Int):=by
   unfold dt;have:p[i]? =some a:=by rw[show p[i]? =p.data[i]? from rfl,<-A0v];exact ag
   rw[show((i:Int).toNat)=i from rfl,this];rfl
  rw[G];have H:p.data.toList.drop i=a::p.data.toList.drop (i+1):=by rw[DH (by omega),F]
  refine af.intro (λd=>?_) (λd=>?_)
  ·have d:a<255:=by rw[UInt8.lt_iff_toNat_lt];have:=of_decide_eq_true d;show a.toNat<255;omega
   have W:a.toNat<255:=UInt8.lt_iff_toNat_lt.1 d;refine⟨by omega,⟨by omega,?_⟩⟩;have I:J8 .u8 ((a.toNat:Int)+(1:Int))=((a+1).toNat:Int):=by
    rw[show(a.toNat:Int)+1=((a.toNat+1:Nat):Int) from by omega,wrap_u8];have j:(a+1).toNat=a.toNat+1:=by rw[UInt8.toNat_add];show(a.toNat+1) % 256=_;omega
    rw[j];omega
   rw[I];refine al.mk λw _ J L X=>?_
   have v2:View GN w ⟨some ⟨f.size,0,none⟩,1,1⟩ [a+1]:=(Own.lit (E:=GN) (l:= [a+1]) J rfl (by simp[maxLen])).view;refine JP (s:=⟨some ⟨f.size,0,none⟩,1,1⟩) Wt ky Ol v2 ⟨_,rfl,?_⟩;have M:(AX [a+1]).size=1:=AP _;have Y:(p.extract 0 i).size<=p.size:=by rw[A0O];omega
   refine⟨by rw[show(i:Int).toNat=i from rfl,M];show(((p.extract 0 i).size+1:Nat):Int)<=9223372036854775807;omega,?_⟩;have:=t w L;have N:QC p=p.extract 0 i++AX [a+1]:=by unfold QC;rw[xl ag d o];apply SO;rw[Kf,SP];apply On;rw[No,SR];show p.data.toList.take i++ [a+1]=_++(AX [a+1]).data.toList;rw[show(AX [a+1]).data.toList= [a+1] from Be _];simp
   rw[N] at this;exact this
  ·have d: ¬a<255:=λh=>by
    have:=UInt8.lt_iff_toNat_lt.1 h;have j:(255:UInt8).toNat=255:=rfl;have:=of_decide_eq_false d;omega
   rw[show J8 J9 ((i:Int)-(1:Int))=(i:Int)-1 from wrap_i64 (by omega) (by omega)];refine z i _ _ (by omega) ⟨i,rfl,rfl,rfl,by omega,λx e=>?_⟩;rw[H] at e;rcases List.mem_cons.1 e with rfl|e
   ·exact d
   ·exact o x e
 ·have O:b=0:=by have:=of_decide_eq_false r;omega
  subst O;have:=t f Mod.refl;have j:QC p=⟨#[]⟩:=by unfold QC;rw[qY (by simpa using o)];rfl
  rw[j] at this;exact this
theorem AOp {p f:A2Q}{e:Int}(b:F8 B g h s q k st m D aI c n)(l:p.size<=1099511627776)(o: ∀sl d,Own BR AR d sl (jj (Cm st) p f e)->(∀ c,sl.ah=some c->h.size<=c)->Ext h d->R (J1 #[J4 sl.p sl.len sl.cap,J6 J9 0]) d):AA A P Fj #[Ar s,J7 p,J7 f,J6 J9 e] h R:=by
 refine YS ?_;unfold Qh;refine af.no rfl (aD (AY.mk (AO b.cell rfl) ?_));refine AOl l λC a=>⟨_,rfl,⟨a.ag (AO b.cell rfl),?_⟩⟩
 have i:=b.on a;obtain⟨r,t,u,E⟩:=i.db.dj;have v:(if(!aM p f)=true then p else f)=gl p f:=by unfold gl;cases aM p f<;>rfl
 rw[v];refine AQ4 i.db.mem r t u λsl w j x y=>⟨sl,_,rfl,?_⟩
 rw[AOs] at j;exact o sl w j (λc z=>by have:=x c z;have:=a.size;omega) (a.trans y)
theorem zI {conds sl:Sl}{d l:List Pr}(aC:bY g)(r:F8 B g h s q k st m D aI c n)(hA:aI+3<=B.A)(aE:c+64<=B.C)(aF:n+1<=1000000)(vc:View BR h conds d)(v:View BR h sl l)(aG:l≠ []-> ∀b,sl.ah=some b->b<h.size/\k b=0)(aH: ∀x∈d,x.key.size<=1099511627776)
  (z:dw (Cm st) d l≠0-> ∀t,Ext h t->R (J6 J9 (dw (Cm st) d l)) t)
  (H:dw (Cm st) d l=0-> ∀t I U V aJ aK,I.d=q.d->I.b=q.b->F8 B g t s I U V aJ aK (aI+3) (c+64) (n+1)->Cm V=cz (Cm st) l->Mod (λc=>k c≠0\/h.size<=c\/c=s) h t->(∀ c,U c≠0->k c≠0\/h.size<=c)->R (J6 J9 0) t):
  AA A P Fu #[Ar s,J4 conds.p conds.len conds.cap,J4 sl.p sl.len sl.cap] h R:=by
 refine ABU ?_;unfold UE;refine af.no rfl ?_;rw[vc.len];refine af.intro (λf=>?_) (λf=>?_)
 ·have C:d.length>64:=by have:=of_decide_eq_true f;omega
  have j:dw (Cm st) d l=2:=by unfold dw;rw[if_pos C]
  have:=z (by rw[j];decide) h Mod.refl;rwa [j] at this
 have C: ¬d.length>64:=by have:=of_decide_eq_false f;omega
 refine zt (s:=sl) v λo W=>⟨_,rfl,?_⟩
 refine af.intro (λJ=>?_) (λJ=>?_)
 ·have u:EY l≠0:=by simpa using J
  have j:dw (Cm st) d l=EY l:=by unfold dw;rw[if_neg C,if_pos u]
  have:=z (by rw[j];exact u) o W;rwa [j] at this
 have u:EY l=0:=by simpa using J
 have j:dw (Cm st) d l=if d.all (Bf (Cm st)) then 0 else 100:=by unfold dw;rw[if_neg C,if_neg (by rw[u];simp)]
 rw[j] at z H;refine Loop.rule (λX x p=> ∃i:Nat,x=((i:Int),())/\X=d.length-i/\i<=d.length/\Ext h p/\(d.take i).all (Bf (Cm st))=true) ?_ ⟨0,rfl,rfl,As _,W,rfl⟩;rintro K X _ p ⟨i,rfl,rfl,aV,w,L⟩ aL;have E:=r.on w;dsimp only;refine af.intro (λf=>?_) (λf=>?_)
 ·have y:i<d.length:=by have:=of_decide_eq_true f;omega
  have ag:d[i]? =some d[i]:=A2 y;have aM:=aH d[i] (Bm y);have aN:d[i]∈d:=Bm y;have aO:d.take (i+1)=d.take i++ [d[i]]:=by rw[Ax,ag];rfl
  generalize d[i]=x at*
  rw[<- vc.len];refine(vc.ext w).idx ag λa _ M=>?_
  obtain⟨M,aP,c2⟩:=M.pair;refine AJ.mk M (AJ.mk aP (Ac.mk c2 (al.pair λb N aW Y Z aX=>?_)));have O:=E.on Z;refine aD (AY.mk (AO O.cell rfl) (AJ.mk (AO Y rfl) ?_));obtain⟨aY,aQ,aZ,a0⟩:=O.db.dj;refine AO8 O.db.mem aQ aM λQ aa=>⟨_,_,_,rfl,af.no rfl ?_⟩
  have ab:=Am aa Y;have ac:=(w.trans Z).trans aa;refine ai.mk λad ah=>?_
  have p:=AH2 (m:=Cm st) (c:=x);have aj:Bf (Cm st) x=false->ad (true,()) Q:=λS=>ah _ _ (af.yes rfl (by
   have T: ¬d.all (Bf (Cm st))=true:=λh=>by
    have:=List.all_eq_true.1 h x aN;rw[S] at this;cases this
   rw[if_neg T] at z;exact z (by decide) Q ac))
  have aS:Bf (Cm st) x=true->ad (false,()) Q:=λS=>ah _ _ (af.no rfl (by
   rw[Aa (by omega)];refine aL (d.length-(i+1)) _ _ (by omega) ⟨i+1,rfl,rfl,y,ac,?_⟩;rw[aO,List.all_append,L];simp[S]))
  refine Ac.mk (AB ab rfl) (af.intro (λo=>?_) (λo=>?_))
  ·exact aj (by rw[p,o];rfl)
  ·refine af.intro (λF=>?_) (λF=>?_)
   ·refine AJ.mk (AB ab rfl) ?_;cases N:bO (Iu (Cm st) x.key).1 x.val with
    |true=>exact aS (by rw[p,o,F,N];rfl)
    |false=>exact aj (by rw[p,o,F,N];rfl)
   ·exact aS (by rw[p,o,F];rfl)
 ·have y:i=d.length:=by have:=of_decide_eq_false f;omega
  subst y;rw[BE] at L;rw[if_pos L] at H;have a1:=w.size;refine aD (AY.mk (AO E.cell rfl) ?_);refine AJV (B:=B) (s:=sl) aC E.db r.fuel hA (v.ext w) (λT b ak=>by have:=aG T b ak;exact⟨by omega,this.2⟩) aE λa2 am an ao ap aq ar aR au av aw a3 ax ay=>⟨_,rfl,?_⟩
  rw[if_pos u] at aw;have G:=E.step au ar av ax ay;rw[u];refine af.no rfl (aD (AC.mk (AB G.cell rfl) (aD ?_)));rw[Aa (by have:=r.cn;omega)];simp only[Bh,AI];refine ae.mk G.cell (by simp) λaz aT aA a4=>?_
  have aU:F8 B g az s am an ao ap aq (aI+3) (c+64) (n+1):=⟨au.beside aA (λc e=>by subst e;exact⟨G.kz,r.base⟩),by simpa using aT,G.kz,r.base,av,aF⟩;have ak:=r.base;refine H rfl az am an ao ap aq ar aR aU aw (((w.aj λc _ e=>e.elim).trans (ax.aj λc _ e=> .inl e)).trans (aA.aj λc _ e=> .inr (.inr e))) λc e=>?_
  rcases ay c e with h|h
  ·exact .inl h
  ·exact .inr (by omega)
end
section
variable {A : aq} {h : aa} {R : A2P}
end
section
variable {A : aq} {B : cH} {g h : aa} {m : Bx} {D : Bt} {aI c : Nat} {R : A2P}
theorem ANK {b:Nat}{Sb:Nat->Prop}(o:bY g)(p:Cu h b Sb m)(q:Ext g h)(r: ∀c,Sb c->g.size<=c)(hd:m.down=false)(t:m.fuel= -1)(u: ∀a,ff m (aC nl a)=none)(v: ∀a,ff m (aC nn a)=none)(w: ∀x,ff m x≠none->(bl x).head? ≠some 116)(hA:1<=B.A)(y:bg m.files<=B.W0)
  (z: ∀d s i j k C E,i.b=b->F8 B g d s i j k C E 1 0 0->Cm k= []->Mod (λc=>Sb c\/h.size<=c) h d->(∀ c,j c≠0->Sb c\/h.size<=c)->h.size<=s->R (J1 #[Ar s,J6 J9 0]) d):AA A P SA #[Ar b] h R:=by
 refine AIS ?_;unfold uJ;refine AOz (B:=B) o p q r hd t u v w hA y λF G H I J K L e M N _ l O=>⟨_,_,rfl,af.no rfl (al.mk λQ _ S n U=>?_)⟩
 have T:=e.mem.ext.size;exact z Q F.size G H I J K L ⟨e.on n,S,e.free (A0 _),T,M,As _⟩ N ((l.aj λc _ f=> .inl f).trans (n.aj λc _ f=>f.elim)) O l.size
end
structure ATt where
 kind:Int
 cs:Sl
 bs:Sl
 key:A2Q
 aV:A2Q
 most:Int
 all:Bool
structure AT4 (N:Nat) (h:aa) (x:ATt) (cl l:List Pr):Prop where
 cs:View BR h x.cs cl
 bs:View BR h x.bs l
 keys: ∀c∈cl,c.key.size<=N
 key:x.key.size<=N
section
variable {A : aq} {h : aa} {R : A2P}
end
theorem mI:P.underlying Ff=some (.map Bq Bq):=by kernel_rfl
theorem mJ:P.underlying Eh=some (.map Bq Yt):=by kernel_rfl
theorem im:P.underlying Bq=some (.int J9):=by kernel_rfl
theorem oO:(zeroValue Bq).calc P=some (J6 J9 0):=by kernel_rfl
theorem oP:(zeroValue Yt).calc P=some (.int .u64 0):=by kernel_rfl
def dC(f:Nat->Nat)(a b:Nat):Nat->Nat:=λm=>if m=a then b else f m
structure Dw (g h:aa) (k:Nat->Nat) (s p bh bu:Nat) (name:A2Q) (aH:Nat) (f u:Nat->Nat) (N:Nat):Prop where
 cell:h[p]? =some (J2 #[Ar s,J7 name,J6 J9 (aH:Int),.map (some bh),.map (some bu)] Rh (0,0))
 held: ∃hm,TK J9 h bh hm/\hm.length<=N/\ ∀n:Nat,(Ll n hm).getD (J6 J9 0)=J6 J9 (f n:Int)
 used: ∃um,TK J9 h bu um/\um.length<=N/\ ∀n:Nat,(Ll n um).getD (.int .u64 0)= .int .u64 (u n:Int)
 bN: ∀c,c=p\/c=bh\/c=bu->k c=0/\g.size<=c/\c≠s
 ne:bh≠bu
 named:Ak name=true
 sh:1<=aH/\aH<=16
 cn:N<=1000000
def GK(d:List Pr)(e a:Nat)(b:A2Q):Prop:=(a=0/\b=⟨#[]⟩/\(Iu d (CF e)).2=false)\/(1<=a/\a<=2147483647/\Ak b=true/\Iu d (CF e)=(Jn a b,true))
section
variable {A : aq} {B : cH} {g h : aa} {s p bh bu : Nat} {q : Hp} {k : Nat -> Nat} {st : Db} {m : Bx} {D : Bt} {aI c nn N : Nat} {name : A2Q} {aH : Nat} {f u : Nat -> Nat} {R : A2P}
theorem Dw.lt(a:Dw g h k s p bh bu name aH f u N): ∀c,c=p\/c=bh\/c=bu->c<h.size:=by
 obtain⟨e,b,_⟩:=a.held;obtain⟨i,d,_⟩:=a.used;rintro c (rfl|rfl|rfl)
 ·exact Ah a.cell
 ·exact b.lt
 ·exact d.lt
theorem Dw.mZ(a:Dw g h k s p bh bu name aH f u N):p≠bh/\p≠bu:=by
 obtain⟨i,⟨_,_,b,_⟩,_⟩:=a.held;obtain⟨j,⟨_,_,d,_⟩,_⟩:=a.used;have e:=a.cell;constructor
 ·rintro rfl;rw[e] at b;cases b
 ·rintro rfl;rw[e] at d;cases d
theorem Dw.beside {d:aa}{e:Nat->Nat}{i:Nat->Prop}(a:Dw g h k s p bh bu name aH f u N)(b:Mod i h d)(hX: ∀c,c=p\/c=bh\/c=bu-> ¬i c)(l: ∀c,c=p\/c=bh\/c=bu->e c=0):Dw g d e s p bh bu name aH f u N:=by obtain⟨n,o,r,t⟩:=a.held;obtain⟨v,w,x,y⟩:=a.used;exact⟨b.ah a.cell (hX p (.inl rfl)),⟨n,o.mod b (hX bh (.inr (.inl rfl))),r,t⟩,⟨v,w.mod b (hX bu (.inr (.inr rfl))),x,y⟩,λc j=>⟨l c j,(a.bN c j).2⟩,a.ne,a.named,a.sh,a.cn⟩
theorem Dw.on {a:aa}(b:Dw g h k s p bh bu name aH f u N)(x:Ext h a):Dw g a k s p bh bu name aH f u N:=b.beside x (λ_ _ h=>h) λc d=>(b.bN c d).1
theorem Dw.more {b:Nat}(a:Dw g h k s p bh bu name aH f u N)(r:N<=b)(d:b<=1000000):Dw g h k s p bh bu name aH f u b:=by obtain⟨e,i,t,j⟩:=a.held;obtain⟨l,n,v,o⟩:=a.used;exact⟨a.cell,⟨e,i,by omega,j⟩,⟨l,n,by omega,o⟩,a.bN,a.ne,a.named,a.sh,d⟩
theorem Dw.step {e:aa}{k':Nat->Nat}{i:Nat->Prop}(b:Dw g h k s p bh bu name aH f u N)(j:Mod i h e)(l: ∀c,i c->k c≠0\/h.size<=c\/c=s\/ ¬(c=p\/c=bh\/c=bu))(n: ∀c,k' c≠0->k c≠0\/h.size<=c):Dw g e k' s p bh bu name aH f u N:=by
 refine b.beside j (λc a o=>?_) λc a=>Decidable.byContradiction λr=>?_
 ·have d:=b.bN c a;have t:=b.lt c a;rcases l c o with h|h|h|h
  ·exact h d.1
  ·omega
  ·exact d.2.2 h
  ·exact h a
 ·have d:=b.bN c a;have t:=b.lt c a;rcases n c r with h|h
  ·exact h d.1
  ·omega
theorem ARR {s:Nat}(b:F8 B g h s q k st m D aI c nn)(j:Ak name=true)(o:1<=aH/\aH<=16)
  (r: ∀a p bh bu,Dw g a k s p bh bu name aH (λ_=>0) (λ_=>0) 0->(∀ c,c=p\/c=bh\/c=bu->h.size<=c/\c<a.size)->Ext h a->R (J1 #[Ar p,J6 J9 0]) a):AA A P Pk #[Ar s,J7 name,J6 J9 (aH:Int)] h R:=by
 refine AGO ?_;unfold uI;refine ai.mk λK t=>af.no rfl (FL ⟨_,rfl,af.no (by rw[j];rfl) (af.no (decide_eq_false (by omega)) (t _ _ (af.no (decide_eq_false (by omega)) ?_)))⟩)
 refine al.mk λl _ v w H=>al.mk λx _ y n I=>al.mk λd _ z e J=>?_
 have C:=(w.trans n).trans e;have L:=b.db.mem.ext.size;have M:=b.lt;have E:d[h.size]? =some (.map #[] 0):=e.ah (n.ah v (λh=>h)) (λh=>h);have F:d[l.size]? =some (.map #[] 0):=e.ah y (λh=>h);refine r d x.size h.size l.size ⟨z,⟨[],TK.empty E,A0 _,λG=>rfl⟩,⟨[],TK.empty F,A0 _,λG=>rfl⟩,λc i=>?_,by omega,j,o,by omega⟩ (λc i=>?_) C
 ·have:h.size<=c:=by rcases i with rfl|rfl|rfl<;>omega
  exact⟨b.db.free this,by omega,by omega⟩
 ·rcases i with rfl|rfl|rfl<;>omega
theorem Zg {a:Nat}(b:Dw g h k s p bh bu name aH f u N)(d:R (J6 J9 (f a:Int)) h):AA A P Cz #[Ar p,J6 J9 (a:Int)] h R:=by obtain⟨j,e,l,i⟩:=b.held;refine Vb ?_;unfold Oh;exact af.no rfl (aD (FW.mk (AB b.cell rfl) (MH mI im oO e ⟨_,i a,d⟩)))
theorem APj {b:List (Int×J0)}{a d:Nat}(h: ∀m:Nat,(Ll m b).getD (J6 J9 0)=J6 J9 (f m:Int))(m:Nat):(Ll m (TR a (J6 J9 (d:Int)) b)).getD (J6 J9 0)=J6 J9 (dC f a d m:Int):=by
 rw[Zi];unfold dC;by_cases e:m=a
 ·subst e;rw[if_pos rfl,if_pos rfl];rfl
 ·rw[if_neg (by omega),if_neg e];exact h m
theorem zK {b:List (Int×J0)}{a r:Nat}(h: ∀m:Nat,(Ll m b).getD (.int .u64 0)= .int .u64 (f m:Int))(m:Nat):(Ll m (TR a (.int .u64 (r:Int)) b)).getD (.int .u64 0)= .int .u64 (dC f a r m:Int):=by
 rw[Zi];unfold dC;by_cases d:m=a
 ·subst d;rw[if_pos rfl,if_pos rfl];rfl
 ·rw[if_neg (by omega),if_neg d];exact h m
theorem Dw.strike {d:Nat}{j:Q7}{K:A2P}(a:Dw g h k s p bh bu name aH f u N)(l: ∀b,Dw g b k s p bh bu name aH (dC f d 0) u N->Mod (λc=>c=bh) h b->K (J1 #[]) b):BI A P (Builtin.delete_ #[Ff,Bq] j #[.map (some bh),J6 J9 (d:Int)]) h K:=by
 obtain⟨z,n,o,r⟩:=a.held;obtain⟨t,v,w,x⟩:=a.used;refine AKB mI im n λb y e C=>l b ⟨e.ah a.cell a.mZ.1,⟨_,y,AE APr o,λm=>?_⟩,⟨t,v.mod e a.ne.symm,w,x⟩,a.bN,a.ne,a.named,a.sh,a.cn⟩ e
 rw[xn];unfold dC;by_cases i:m=d
 ·subst i;rw[if_pos rfl,if_pos rfl];rfl
 ·rw[if_neg (by omega),if_neg i];exact r m
theorem APF {b j:Nat}{l:A2Q}(w:F8 B g h s q k st m D aI c nn)(a:Dw g h k s p bh bu name aH f u N)(E:b<aH)(L:GK (Cm st) b j l)(n: ∀o,Ext h o->R (J1 #[J6 J9 (j:Int),J7 l,J6 J9 0]) o):AA A P LK #[Ar p,J6 J9 (b:Int)] h R:=by
 have F:=a.sh;refine Ws ?_;unfold PX;refine ai.mk λK x=>af.no rfl (af.no (decide_eq_false (by omega)) (aD (AC.mk (AB a.cell rfl) (x _ _ (af.no (decide_eq_false (by omega)) ?_)))))
 refine aD (AY.mk (AO a.cell rfl) (TP (by omega) λr d=>⟨_,rfl,⟨AO (Am d a.cell) rfl,?_⟩⟩));refine rM (w.on d) (by rw[KR];omega) λt y=>⟨_,_,_,rfl,?_⟩
 have v:=d.trans y;refine ai.mk λG z=>af.no rfl (z _ _ ?_)
 rcases L with⟨rfl,rfl,e⟩|⟨r,t,i,e⟩
 ·rw[e];exact af.yes rfl (n _ v)
 ·rw[e];exact af.no rfl (ANU r t i λi C=>⟨_,_,_,rfl,n i (v.trans C)⟩)
theorem ASy {k v:A2Q}(a:k≠⟨#[]⟩)(d:k.size<=64)(e:v.size<=8192):EY [⟨k,v,false⟩]=0:=by
 have b:Ai ⟨k,v,false⟩=0:=by unfold Ai;rw[if_neg (by simp[a]),if_neg (by simp;omega)]
 unfold EY;rw[if_neg (by simp),if_neg (by simp)];unfold GG;rw[if_neg (by rw[b];decide)];rfl
theorem AJH {d r:Nat}{ar:A2Q}(E:bY g)(S:F8 B g h s q k st m D aI c nn)(n:Dw g h k s p bh bu name aH f u N)(aP:d<aH)(L:GK (Cm st) d r ar)(au:r+1<=2147483647)(hA:aI+3<=B.A)(aQ:c+64<=B.C)(aR:nn+1<=1000000)(aS:N+1<=1000000)
  (aT: ∀T ac k' av aU aV,ac.d=q.d->ac.b=q.b->F8 B g T s ac k' av aU aV (aI+3) (c+64) (nn+1)->Cm av=cz (Cm st) [⟨CF d,Jn (r+1) name,false⟩]->Dw g T k' s p bh bu name aH (dC f d (r+1)) (dC u d 0) (N+1)->
   Mod (λc=>k c≠0\/h.size<=c\/c=s\/c=bh\/c=bu) h T->(∀ c,k' c≠0->k c≠0\/h.size<=c)->R (J1 #[J6 J9 ((r+1:Nat):Int),J6 J9 0]) T):
  AA A P FD #[Ar p,J6 J9 (d:Int)] h R:=by
 have bL:=n.sh;refine TI ?_;unfold Mc;refine APF S n aP L λM aW=>⟨_,_,_,rfl,af.no rfl ?_⟩
 refine TP (by omega) λad aX=>⟨_,rfl,?_⟩
 have aw:=aW.trans aX;refine al.pair λb U bM ax aY bN=>?_
 have ay:=aw.trans aY;have bO:=aw.size;have bP:=S.db.mem.ext.size;refine ai.mk λK aZ=>?_
 have az: ∀V y z,Ext h V->V[b]? =some (J2 #[J7 (CF d),J7 y,J3 z] AR (0,0))->Bf (Cm st) ⟨CF d,y,z⟩=true->K () V:=by
  intro V y z ah a0 a1;refine aZ _ _ ?_;have bQ:=S.on ah;have a2:=n.on ah;refine aD (AJ.mk (AB a2.cell rfl) ?_);rw[Aa (by omega)];refine oN (by omega) au n.named λW aA=>⟨_,_,rfl,?_⟩
  have aj:=ah.trans aA;refine af.no rfl (ai.mk λa3 a4=>?_);have aC:=S.on aj;have ak:=n.on aj;have I:=Am aA a0;have go: ∀e O C,Ext W e->e[O]? =some (J2 #[J7 (CF d),J7 y,J3 z] AR (0,0))->e[C]? =some (J2 #[J7 (CF d),J7 (Jn (r+1) name),J3 false] AR (0,0))->W.size<=C->
    AA A P Fu #[Ar s,J4 (some (⟨O,0,none⟩:Q6)) 1 1,J4 (some (⟨C,0,none⟩:Q6)) 1 1] e λa5 am=> ∃aE:Int,a5=J6 J9 aE/\a3 (aE,()) am:=by
   intro e O C w a6 aF a7;have a8:=aC.on w;have a9:=ak.on w;have aG:=aj.trans w;have vc:View BR e ⟨some ⟨O,0,none⟩,1,1⟩ [⟨CF d,y,z⟩]:=(Own.lit (E:=BR) (l:= [⟨CF d,y,z⟩]) a6 rfl (by simp[maxLen])).view;have ba:View BR e ⟨some ⟨C,0,none⟩,1,1⟩ [⟨CF d,Jn (r+1) name,false⟩]:=(Own.lit (E:=BR) (l:= [⟨CF d,Jn (r+1) name,false⟩]) aF rfl (by simp[maxLen])).view;have bb:=ASy (AMt d) (show(CF d).size<=64 by rw[KR];omega) (AKk au n.named);have bc:dw (Cm st) [⟨CF d,y,z⟩] [⟨CF d,Jn (r+1) name,false⟩]=0:=by unfold dw;rw[if_neg (by simp),if_neg (by rw[bb];decide),if_pos (by simp[a1])]
   have bd:k C=0:=aC.db.free a7;refine zI (B:=B) (conds:=⟨some ⟨O,0,none⟩,1,1⟩) (sl:=⟨some ⟨C,0,none⟩,1,1⟩) E a8 hA aQ aR vc ba (λ_ be X=>by
    have o:C=be:=by simpa [Sl.ah] using X
    subst o;exact⟨Ah aF,bd⟩) (λx e=>by rw[List.mem_singleton.1 e];show(CF d).size<=_;rw[KR];omega) (λbf=>absurd bc bf) λ_ am bg Y bi bj bk bm bn bo bp aJ aK=>⟨_,rfl,a4 _ _ (af.no rfl ?_)⟩
   have bR:=aG.size;have i:=a9.step (k':=Y) aJ (λc a=>by
    rcases a with h|h|h
    ·exact .inl h
    ·exact .inr (.inl h)
    ·exact .inr (.inr (.inl h))) aK
   have bq:Mod (λc=>k c≠0\/h.size<=c\/c=s\/c=bh\/c=bu) h am:=(aG.aj λc _ a=>a.elim).trans (aJ.aj λc _ a=>by
    rcases a with h|h|h
    ·exact .inl h
    ·exact .inr (.inl (by omega))
    ·exact .inr (.inr (.inl h)))
   obtain⟨bS,br,bT,bs⟩:=i.held;refine aD (FW.mk (AB i.cell rfl) (aD (FW.mk (AB i.cell rfl) ?_)));refine xo mI im oO (v:=J6 J9 ((r+1:Nat):Int)) br (by have:=i.cn;simp only[maxLen];omega) λbU bt Z bV=>?_
   obtain⟨bW,bv,bX,bw⟩:=i.used;have bx:=bv.mod Z n.ne.symm;refine xo mJ im oP (v:= .int .u64 0) bx (by have:=i.cn;simp only[maxLen];omega) λbz bA ab bZ=>?_
   have bB: ∀c,c=bh->Y c=0/\g.size<=c:=λc a=>⟨(i.bN c (.inr (.inl a))).1,(i.bN c (.inr (.inl a))).2.1⟩
   have bC: ∀c,c=bu->Y c=0/\g.size<=c:=λc a=>⟨(i.bN c (.inr (.inr a))).1,(i.bN c (.inr (.inr a))).2.1⟩
   have bD:=(bo.beside Z bB λo=>(i.bN s (.inr (.inl o))).2.2 rfl).beside ab bC λo=>(i.bN s (.inr (.inr o))).2.2 rfl
   refine aT bz bg Y bi bj bk bm bn bD bp ⟨ab.ah (Z.ah i.cell n.mZ.1) n.mZ.2,⟨_,bt.mod ab n.ne,AE Xu (by omega),λm=>APj bs m⟩,⟨_,bA,AE Xu (by omega),λm=>zK (r:=0) bw m⟩,i.bN,i.ne,i.named,i.sh,aS⟩ ((bq.trans (Z.aj λc _ a=> .inr (.inr (.inr (.inl a))))).trans (ab.aj λc _ a=> .inr (.inr (.inr (.inr a))))) λc a=>?_
   rcases aK c a with h|h
   ·exact .inl h
   ·exact .inr (by omega)
  have F: ∀ {e:aa},Ext W e->ag e ⟨p,0,none⟩=some (Ar s):=λw=>AO (Am w ak.cell) rfl
  have row: ∀ {e:aa},Ext W e->ag e (⟨b,0,none⟩:Q6)=some (J7 (CF d))/\ag e ((⟨b,0,none⟩:Q6).add 1)=some (J7 y)/\ag e ((⟨b,0,none⟩:Q6).add 2)=some (J3 z):=λw=>⟨AO (Am w I) rfl,AB (Am w I) rfl,AB (Am w I) rfl⟩
  refine aD (AY.mk (AO ak.cell rfl) (AJ.mk (AO I rfl) (AJ.mk (AB I rfl) (Ac.mk (AB I rfl) ?_))));refine⟨?_,?_⟩
  ·refine al.mk λbE _ bF G b0=>⟨F G,?_⟩
   refine TP (by omega) λX J=>⟨_,rfl,?_⟩
   have j:=G.trans J;refine⟨row j,⟨F j,?_⟩⟩;refine al.mk λa _ Q H aL=>?_
   have t:=j.trans H;exact⟨row t,⟨F t,go a _ _ t (Am H (Am J bF)) Q j.size⟩⟩
  ·refine TP (by omega) λbE G=>⟨_,rfl,⟨row G,⟨F G,⟨?_,?_⟩⟩⟩⟩
   ·refine al.mk λX _ an J bG=>?_
    have j:=G.trans J;refine⟨F j,al.mk λa _ Q H aL=>?_⟩;have t:=j.trans H;exact⟨row t,⟨F t,go a _ _ t (Am H an) Q j.size⟩⟩
   ·refine al.mk λX _ an J bG=>?_
    have j:=G.trans J;refine⟨row j,⟨F j,al.mk λa _ Q H aL=>?_⟩⟩;have t:=j.trans H;exact⟨F t,go a _ _ t Q (Am H an) G.size⟩
 refine af.intro (λao=>?_) (λao=>?_)
 ·have bH:0<r:=by have:=of_decide_eq_true ao;omega
  rcases L with⟨M,_⟩|⟨M,ad,U,o⟩
  ·omega
  simp only[Bh,AI];refine ae.mk ax (by simp) λaM ap bI b1=>?_
  have ap:aM[b]? =some (J2 #[J7 (CF d),J7 ⟨#[]⟩,J3 false] AR (0,0)):=by simpa using ap
  refine oN M ad U λb2 aN=>⟨_,_,rfl,?_⟩
  refine ae.mk (Am aN ap) (by simp) λaO aq bJ b3=>?_
  have aq:aO[b]? =some (J2 #[J7 (CF d),J7 (Jn r ar),J3 false] AR (0,0)):=by simpa using aq
  have bK:Ext h aM:=ay.then (bI.aj λc _ a=> .inr (by omega));refine az aO _ _ ((bK.trans aN).then (bJ.aj λc _ a=> .inr (by omega))) aq ?_;unfold Bf;rw[o];simp
 ·have bH:r=0:=by have:=of_decide_eq_false ao;omega
  rcases L with⟨M,_,o⟩|⟨M,ad,U,o⟩
  ·refine az U _ _ ay ax ?_;unfold Bf;rw[o];simp
  ·omega
end
section
variable {A : aq} {B : cH} {g h : aa} {s p bh bu : Nat} {q : Hp} {k : Nat -> Nat} {st : Db} {m : Bx} {D : Bt} {aI c nn N : Nat} {name : A2Q} {aH : Nat} {f u : Nat -> Nat} {R : A2P}
def FZ(a b:Nat)(name:A2Q):Pr:=⟨CF a,Jn b name,false⟩
theorem OI {mp:List Pr}{n r:Nat}{name:A2Q}:Bf mp (FZ n r name)=((Iu mp (CF n)).2&&decide ((Iu mp (CF n)).1=Jn r name)):=rfl
theorem ASi {n:Nat}{conds sl:Sl}{e l:List Pr}(E:bY g)(y:F8 B g h s q k st m D aI c nn)(j:Dw g h k s p bh bu name aH f u N)(am:n<256)(an:f n<=2147483647)(hA:aI+3<=B.A)(ao:c+64<=B.C)(ap:nn+1<=1000000)(vc:View BR h conds e)(a9:e.length<=1000000)(v:View BR h sl l)(aq:l≠ []-> ∀b,sl.ah=some b->b<h.size/\k b=0/\b≠bh)(ar: ∀x∈e,x.key.size<=1099511627776)
  (au:f n=0->R (J6 J9 170) h)
  (av:f n≠0->Bf (Cm st) (FZ n (f n) name)=false-> ∀d,F8 B g d s q k st m D aI c nn->Dw g d k s p bh bu name aH (dC f n 0) u N->Mod (λc=>h.size<=c\/c=bh) h d->R (J6 J9 170) d)
  (aw:f n≠0->Bf (Cm st) (FZ n (f n) name)=true->dw (Cm st) (FZ n (f n) name::e) l≠0-> ∀d,Ext h d->R (J6 J9 (dw (Cm st) (FZ n (f n) name::e) l)) d)
  (ax:f n≠0->Bf (Cm st) (FZ n (f n) name)=true->dw (Cm st) (FZ n (f n) name::e) l=0-> ∀d F k' W ay az,F.d=q.d->F.b=q.b->F8 B g d s F k' W ay az (aI+3) (c+64) (nn+1)->Cm W=cz (Cm st) l->Dw g d k' s p bh bu name aH f u N->Mod (λc=>k c≠0\/h.size<=c\/c=s) h d->(∀ c,k' c≠0->k c≠0\/h.size<=c)->R (J6 J9 0) d):
  AA A P GH #[Ar p,J6 J9 (n:Int),J4 conds.p conds.len conds.cap,J4 sl.p sl.len sl.cap] h R:=by
 refine Zo ?_;unfold Sj;refine Zg j ⟨_,rfl,af.intro (λG=>?_) (λG=>?_)⟩
 ·exact au (by simpa using G)
 have H:f n≠0:=by simpa using G
 refine aD (AJ.mk (AB j.cell rfl) ?_);refine oN (by omega) an j.named λz aA=>⟨_,_,rfl,?_⟩
 refine TP am λba aC=>⟨_,rfl,?_⟩
 have aE:=aA.trans aC;refine al.pair λb bb bc X aF bd=>?_
 have I:=aE.trans aF;have aG:=j.on I;have aJ:=y.on I;refine aD (AY.mk (AO aG.cell rfl) (AJ.mk (AO X rfl) ?_));refine rM aJ (by rw[KR];omega) λi Y=>⟨_,_,_,rfl,af.no rfl ?_⟩
 have w:=I.trans Y;have o:=j.on w;have aK:=y.on w;have J:=Am Y X;have be:=w.size;have bf:=y.db.mem.ext.size;refine ai.mk λK Z=>?_
 have L:=OI (mp:=Cm st) (n:=n) (r:=f n) (name:=name);have lost:Bf (Cm st) (FZ n (f n) name)=false->K (true,()) i:=λaL=>by
  refine Z _ _ (af.yes rfl (aD (FW.mk (AB o.cell rfl) ?_)));refine o.strike λO aM aa=>⟨rfl,?_⟩
  have Q:=o.bN bh (.inr (.inl rfl));exact av H aL O (aK.beside aa (λc a=>by subst a;exact⟨Q.1,Q.2.1⟩) λS=>Q.2.2 S.symm) aM ((w.aj λc _ a=>a.elim).trans (aa.aj λc _ a=> .inr a))
 have aN:Bf (Cm st) (FZ n (f n) name)=true->K (false,()) i:=λab=>by
  refine Z _ _ (af.no rfl (aD (AY.mk (AO o.cell rfl) (AJ.mk (AO J rfl) (AJ.mk (AB J rfl) (Ac.mk (AB J rfl) ?_))))));refine al.mk λO _ aO T bg=>⟨AO (Am T o.cell) rfl,?_⟩
  have aP:Own BR AR O ⟨some ⟨i.size,0,none⟩,1,1⟩ [FZ n (f n) name]:=Own.lit (E:=BR) (l:= [FZ n (f n) name]) aO rfl (by simp[maxLen]);have ac:=w.trans T;refine Fz (E:=BR) (s:=⟨some ⟨i.size,0,none⟩,1,1⟩) (src:=conds) M.G5 aP (vc.ext ac) (by simp only[A5,GO];omega) (by simp only[A5,GO,maxLen];omega) λaQ ad aR ae bi _=>?_
  have t:Ext h ad:=ac.then (ae.aj λc _ a=> .inr (by have:i.size=c:=(by simpa [Sl.ah] using a);omega));have aS:Ext i ad:=T.then (ae.aj λc _ a=> .inr (by have:i.size=c:=(by simpa [Sl.ah] using a);omega));have aT:=y.on t;have aU:=j.on t;refine⟨AO (Am aS o.cell) rfl,?_⟩;have bj:=t.size;have aV: ∀x∈ [FZ n (f n) name]++e,x.key.size<=1099511627776:=λx aW=>by
   rcases List.mem_append.1 aW with h|h
   ·rw[List.mem_singleton.1 h];show(CF n).size<=_;rw[KR];omega
   ·exact ar x h
  refine zI (B:=B) (conds:=aQ) (sl:=sl) E aT hA ao ap aR.view (v.ext t) (λU aX aY=>by
   have:=aq U aX aY;exact⟨by omega,this.2.1⟩) aV (λU V aZ=>⟨_,rfl,aw H ab U V (t.trans aZ)⟩) λa0 V a1 ag a2 a3 a4 a5 a6 a7 a8 ah aj=>⟨_,rfl,?_⟩
  refine ax H ab a0 V a1 ag a2 a3 a4 a5 a6 a7 a8 (aU.step (k':=ag) ah (λc a=>by
   rcases a with h|h|h
   ·exact .inl h
   ·exact .inr (.inl h)
   ·exact .inr (.inr (.inl h))) aj) ((t.aj λc _ a=>a.elim).trans (ah.aj λc _ a=>by
   rcases a with h|h|h
   ·exact .inl h
   ·exact .inr (.inl (by omega))
   ·exact .inr (.inr h))) λc a=>?_
  rcases aj c a with h|h
  ·exact .inl h
  ·exact .inr (by omega)
 refine af.intro (λz=>?_) (λz=>?_)
 ·refine lost ?_;have S:(Iu (Cm st) (CF n)).2=false:=by simpa using z
  rw[L,S];rfl
 ·have ak:(Iu (Cm st) (CF n)).2=true:=by simpa using z
  cases C:bO (Iu (Cm st) (CF n)).1 (Jn (f n) name) with
  |true=>
   refine aN ?_;rw[CU] at C;rw[L,ak,C];rfl
  |false=>
   refine lost ?_;rw[CU] at C;rw[L,ak,C];rfl
theorem AT0 {a:Nat}(h:a<=2147483647):J8 .u64 ((J8 .u64 (a:Int))*((2:Int)^(24:Nat)))=((a*16777216:Nat):Int):=by rw[CG (by omega),show((a:Int)*(2:Int)^(24:Nat))=((a*16777216:Nat):Int) from by rw[show((2:Int)^(24:Nat))=((16777216:Nat):Int) from by decide];simp];exact CG (by omega)
theorem rh {a b:Nat}(d:a<18446744073709551616)(e:b<18446744073709551616):eA .u64 (a:Int) (b:Int)=((a ||| b:Nat):Int):=by
 have h:a ||| b<2^64:=Kx (by simpa using d) (by simpa using e);unfold eA;have i:(BitVec.ofInt (IntKind.bits .u64) (a:Int) ||| BitVec.ofInt (IntKind.bits .u64) (b:Int)).toNat=a ||| b:=by show(BitVec.ofInt 64 (a:Int) ||| BitVec.ofInt 64 (b:Int)).toNat=a ||| b;rw[BitVec.toNat_or,BitVec.ofInt_natCast,BitVec.ofInt_natCast,BitVec.toNat_ofNat,BitVec.toNat_ofNat,An (by simpa using d),An (by simpa using e)]
 rw[i];exact CG (by simpa using h)
theorem ATG {a x:Nat}(h:a<=2147483647)(d:x<16777216):eA .u64 ((a*16777216:Nat):Int) (x:Int)=((a*16777216+x:Nat):Int):=by rw[rh (by omega) (by omega)];congr 1;have:=A0J (i:=24) (b:=x) (by simpa using d) a;rw[show 2^24*a=a*16777216 from by rw[CD]] at this;exact this.symm
theorem AKz {a:Nat}(b:Dw g h k s p bh bu name aH f u N)(r:f a<=2147483647)(x:u a+1<16777216)(y:N+1<=1000000)
  (z:f a=0->R (.int .u64 0) h)
  (C:f a≠0-> ∀d,Dw g d k s p bh bu name aH f (dC u a (u a+1)) (N+1)->Mod (λc=>c=bu) h d->R (.int .u64 ((f a*16777216+(u a+1):Nat):Int)) d):
  AA A P Gq #[Ar p,J6 J9 (a:Int)] h R:=by
 refine Uo ?_;unfold Na;refine Zg b ⟨_,rfl,af.intro (λe=>?_) (λe=>?_)⟩
 ·exact z (by simpa using e)
 have E:f a≠0:=by simpa using e
 obtain⟨F,t,K,v⟩:=b.used;obtain⟨G,H,L,i⟩:=b.held;refine aD (FW.mk (AB b.cell rfl) ?_);refine MH mJ im oP t ⟨_,v a,?_⟩;rw[show((u a:Nat):Int)+(1:Int)=((u a+1:Nat):Int) from by omega,CG (by omega)];refine AKJ mJ im t (by have:=b.cn;simp only[maxLen];omega) λI j l M=>?_
 have n:=H.mod l b.ne;have c4:=l.ah b.cell b.mZ.2;have w: ∀m:Nat,(Ll m (TR a (.int .u64 ((u a+1:Nat):Int)) F)).getD (.int .u64 0)= .int .u64 (dC u a (u a+1) m:Int):=λm=>zK v m
 have J:dC u a (u a+1) a=u a+1:=by unfold dC;rw[if_pos rfl]
 have key:eA .u64 (J8 .u64 ((J8 .u64 (f a:Int))*((2:Int)^(24:Nat)))) ((u a+1:Nat):Int)=((f a*16777216+(u a+1):Nat):Int):=by rw[AT0 r,ATG r x]
 have fin:=C E I ⟨c4,⟨G,n,by omega,i⟩,⟨_,j,AE Xu (by omega),w⟩,b.bN,b.ne,b.named,b.sh,y⟩ l;rw[<- key] at fin;have o:=w a;rw[J] at o;refine aD (FW.mk (AB c4 rfl) (aD (FW.mk (AB c4 rfl) ⟨?_,?_⟩)))
 ·refine MH mI im oO n ⟨_,i a,⟨AB c4 rfl,?_⟩⟩;exact MH mJ im oP j ⟨_,o,⟨AB c4 rfl,fin⟩⟩
 ·refine MH mJ im oP j ⟨_,o,⟨AB c4 rfl,?_⟩⟩;exact MH mI im oO n ⟨_,i a,⟨AB c4 rfl,fin⟩⟩
theorem GK.laid {b:List Pr}(e:Sorted b){d a:Nat}(i:1<=a)(j:a<=2147483647)(l:Ak name=true):GK (cz b [⟨CF d,Jn a name,false⟩]) d a name:=by refine .inr ⟨i,j,l,?_⟩;unfold Iu;rw[show cz b [⟨CF d,Jn a name,false⟩]=fh b ⟨CF d,Jn a name,false⟩ from rfl,PK e,if_pos rfl,Hw];rfl
theorem GK.other {a:List Pr}(j:Sorted a){b e:Nat}{i key val:A2Q}{d:Bool}(L:GK a b e i)(l:key≠CF b):GK (cz a [⟨key,val,d⟩]) b e i:=by
 have n:Iu (cz a [⟨key,val,d⟩]) (CF b)=Iu a (CF b):=by unfold Iu;rw[show cz a [⟨key,val,d⟩]=fh a ⟨key,val,d⟩ from rfl,PK j,if_neg l]
 unfold GK;rw[n];exact L
theorem GK.empty {a:Nat}:GK [] a 0 ⟨#[]⟩:= .inl ⟨rfl,rfl,rfl⟩
theorem GK.holds {b:List Pr}{d a:Nat}(L:GK b d a name)(i:1<=a):Bf b (FZ d a name)=true:=by
 rw[OI];rcases L with⟨h,_,e⟩|⟨_,j,_,e⟩
 ·omega
 ·rw[e];simp
end
end Go.Lf.G
