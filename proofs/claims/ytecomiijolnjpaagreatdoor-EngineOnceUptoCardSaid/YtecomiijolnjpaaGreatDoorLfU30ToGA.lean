/-
 Records by which the formulas name aggregates (printed by recs.py): loads, stores, results.
-/
import Derived.Test.YtecomiijolnjpaaGreatDoorLfIToU29
set_option maxRecDepth 100000
set_option linter.unusedVariables false
set_option linter.unusedSimpArgs false
open Go.IntKind renaming i64→J9,wrap→J8
open Go.Value renaming string→J7,int→J6,pointer→J5,slice→J4,bool→J3,tuple→J1
open Go.Obj renaming cells→J2
open Go renaming Value→J0,Addr→Q6,TypeId→Q7,FuncId→Q8,Program→Q1
open Go.Addr renaming add→Q9,mk→Q5
namespace Go.Lf
open Go
def qG(a:Q6):aa->Nat->List J0->(aa->Prop)->Prop
 |h,_,[],K=>K h
 |h,i,v::b,K=>ab h (a.add i) v λc=>qG a c (i+1) b K
def aP(b:aa)(a:Q6)(c:List J0)(K:aa->Prop):Prop:=qG a b 0 c K
def X9(a:Array J0)(b:Nat)(c:List J0):Array J0:=⟨a.toList.take b++(c++a.toList.drop (b+c.length))⟩
theorem AM7 {c:Array J0}{a:Nat}{v:J0}{b:List J0}(d:a<c.size):X9 (c.setIfInBounds a v) (a+1) b=X9 c a (v::b):=by
 obtain⟨l⟩:=c;have d:a<l.length:=d;unfold X9;apply congrArg Array.mk;simp only[WD,A6];have e:l.set a v=l.take a++v::l.drop (a+1):=by rw[A0b,if_pos d]
 rw[e,Lk,R0,AH,GF (by omega)];rw[show a+1-a=1 from by omega,Ss,P4 (by omega),show a+1+b.length-a=b.length+1 from by omega];rw[HA (l:=l.take a) (by rw[AH];omega)];simp only[HS,HX,CI,HM,HN,A4,F0];rw[show a+1+b.length=a+(b.length+1) from by omega]
theorem APg {a:Array J0}{b:Nat}:X9 a b []=a:=by obtain⟨l⟩:=a;unfold X9;simp
theorem wy {b c:Nat}{T:Q7}{K:aa->Prop}: ∀(d:List J0) (i:Nat) {a:aa} {e:Array J0},a[b]? =some (J2 e T (0,0))->c+i+d.length<=e.size->
  (∀ f,f[b]? =some (J2 (X9 e (c+i) d) T (0,0))->Mod (· =b) a f->f.size=a.size->K f)->qG ⟨b,c,none⟩ a i d K
 | [],i,a,e,g,_,h=>h a (by rw[APg];exact g) ⟨A0 _,λ_ _ _=>rfl⟩ rfl
 |v::d,i,a,e,g,k,h=>by
  rw[A6] at k;show ab a (Addr.add ⟨b,c,none⟩ i) v _;rw[BZ];refine ab.mk g (by omega) λp l m q=>?_
  refine wy d (i+1) l (by simp;omega) λn j o r=>h n ?_ (m.trans o) (by omega)
  rw[show c+(i+1)=c+i+1 from by omega,AM7 (by omega)] at j;exact j
theorem aP.mk {b e:Nat}{T:Q7}{K:aa->Prop}{a:List J0}{c:aa}{f:Array J0}(g:c[b]? =some (J2 f T (0,0)))(h:e+a.length<=f.size)
  (i: ∀d,d[b]? =some (J2 (X9 f e a) T (0,0))->Mod (· =b) c d->d.size=c.size->K d):aP c ⟨b,e,none⟩ a K:=wy a 0 g h i
theorem DU {c:aa}{b d:Nat}{e:Array J0}{T:Q7}{fr:Nat×Nat}{l:List J0}(f:c[b]? =some (J2 e T fr))(g:(e.toList.drop d).take l.length=l):Cells c ⟨b,d,none⟩ l:=λh v a=>by
 rw[BZ];refine AL f ?_;rw[<- LS,<-Bm];have i:=(List.getElem?_eq_some_iff.1 a).1;rw[<- g,E0,if_pos (by omega)] at a;exact a
abbrev Ev.l(x:Ev):List J0:= [J6 J9 x.id,J6 J9 x.kind,J6 J9 x.tick,J6 J9 x.ref,J6 J9 x.step,J6 J9 x.turn,J3 x.aE,J7 x.data]
abbrev Ev.c(x:Ev):Array J0:= #[J6 J9 x.id,J6 J9 x.kind,J6 J9 x.tick,J6 J9 x.ref,J6 J9 x.step,J6 J9 x.turn,J3 x.aE,J7 x.data]
abbrev Ev.v(x:Ev):J0:= .agg #[J6 J9 x.id,J6 J9 x.kind,J6 J9 x.tick,J6 J9 x.ref,J6 J9 x.step,J6 J9 x.turn,J3 x.aE,J7 x.data]
abbrev Ev.z:Ev:=⟨0,0,0,0,0,0,false,⟨#[]⟩⟩
abbrev Ev.s:List Sc:= [.int J9,.int J9,.int J9,.int J9,.int J9,.int J9,.bool,.str]
abbrev Ev.T:Type:=Int×Int×Int×Int×Int×Int×Bool×A2P×Unit
abbrev Ev.t(x:Ev):Ev.T:=(x.id,x.kind,x.tick,x.ref,x.step,x.turn,x.aE,x.data,())
def nL(K:Ev->Prop):Prop:= ∃a:Int,∃b:Int,∃c:Int,∃d:Int,∃e:Int,∃f:Int,∃g:Bool,∃h:A2P,K ⟨a,b,c,d,e,f,g,h⟩
theorem nL.mk {K:Ev->Prop}(x:Ev)(a:K x):nL K:=⟨x.id,x.kind,x.tick,x.ref,x.step,x.turn,x.aE,x.data,a⟩
def MQ(b:aa)(a:Q6)(K:Ev->Prop):Prop:=
 AC J9 b a λc=>
 AC J9 b (a.add 1) λd=>
 AC J9 b (a.add 2) λe=>
 AC J9 b (a.add 3) λf=>
 AC J9 b (a.add 4) λg=>
 AC J9 b (a.add 5) λh=>
 Ac b (a.add 6) λi=>
 AJ b (a.add 7) λj=>
 K ⟨c,d,e,f,g,h,i,j⟩
theorem MQ.mk {b:aa}{a:Q6}{K:Ev->Prop}(x:Ev)(c:Cells b a x.l)(d:K x):MQ b a K:=
 ⟨_,by have:=c 0 _ rfl;rwa [add_zero] at this,_,c 1 _ rfl,_,c 2 _ rfl,_,c 3 _ rfl,_,c 4 _ rfl,_,c 5 _ rfl,_,c 6 _ rfl,_,c 7 _ rfl,d⟩
abbrev Jb.l(x:Jb):List J0:= [J6 J9 x.id,J6 J9 x.step,J3 x.aE,J6 J9 x.turn]
abbrev Jb.c(x:Jb):Array J0:= #[J6 J9 x.id,J6 J9 x.step,J3 x.aE,J6 J9 x.turn]
abbrev Jb.v(x:Jb):J0:= .agg #[J6 J9 x.id,J6 J9 x.step,J3 x.aE,J6 J9 x.turn]
abbrev Jb.z:Jb:=⟨0,0,false,0⟩
abbrev Jb.s:List Sc:= [.int J9,.int J9,.bool,.int J9]
abbrev Jb.T:Type:=Int×Int×Bool×Int×Unit
abbrev Jb.t(x:Jb):Jb.T:=(x.id,x.step,x.aE,x.turn,())
def wz(K:Jb->Prop):Prop:= ∃a:Int,∃b:Int,∃c:Bool,∃d:Int,K ⟨a,b,c,d⟩
theorem wz.mk {K:Jb->Prop}(x:Jb)(a:K x):wz K:=⟨x.id,x.step,x.aE,x.turn,a⟩
def kp(b:aa)(a:Q6)(K:Jb->Prop):Prop:=
 AC J9 b a λc=>
 AC J9 b (a.add 1) λd=>
 Ac b (a.add 2) λe=>
 AC J9 b (a.add 3) λf=>
 K ⟨c,d,e,f⟩
theorem kp.mk {b:aa}{a:Q6}{K:Jb->Prop}(x:Jb)(c:Cells b a x.l)(d:K x):kp b a K:=
 ⟨_,by have:=c 0 _ rfl;rwa [add_zero] at this,_,c 1 _ rfl,_,c 2 _ rfl,_,c 3 _ rfl,d⟩
abbrev Ck.l(x:Ck):List J0:= [J6 J9 x.id,J6 J9 x.step,J6 J9 x.tick]
abbrev Ck.c(x:Ck):Array J0:= #[J6 J9 x.id,J6 J9 x.step,J6 J9 x.tick]
abbrev Ck.v(x:Ck):J0:= .agg #[J6 J9 x.id,J6 J9 x.step,J6 J9 x.tick]
abbrev Ck.z:Ck:=⟨0,0,0⟩
abbrev Ck.s:List Sc:= [.int J9,.int J9,.int J9]
abbrev Ck.T:Type:=Int×Int×Int×Unit
abbrev Ck.t(x:Ck):Ck.T:=(x.id,x.step,x.tick,())
def wA(K:Ck->Prop):Prop:= ∃a:Int,∃b:Int,∃c:Int,K ⟨a,b,c⟩
theorem wA.mk {K:Ck->Prop}(x:Ck)(a:K x):wA K:=⟨x.id,x.step,x.tick,a⟩
def nM(b:aa)(a:Q6)(K:Ck->Prop):Prop:=
 AC J9 b a λc=>
 AC J9 b (a.add 1) λd=>
 AC J9 b (a.add 2) λe=>
 K ⟨c,d,e⟩
theorem nM.mk {b:aa}{a:Q6}{K:Ck->Prop}(x:Ck)(c:Cells b a x.l)(d:K x):nM b a K:=
 ⟨_,by have:=c 0 _ rfl;rwa [add_zero] at this,_,c 1 _ rfl,_,c 2 _ rfl,d⟩
abbrev bP.l(x:bP):List J0:= [J6 J9 x.kind,J7 x.name,J7 x.aE,J6 J9 x.tries,J6 J9 x.aq,J6 J9 x.wait]
abbrev bP.c(x:bP):Array J0:= #[J6 J9 x.kind,J7 x.name,J7 x.aE,J6 J9 x.tries,J6 J9 x.aq,J6 J9 x.wait]
abbrev bP.v(x:bP):J0:= .agg #[J6 J9 x.kind,J7 x.name,J7 x.aE,J6 J9 x.tries,J6 J9 x.aq,J6 J9 x.wait]
abbrev bP.z:bP:=⟨0,⟨#[]⟩,⟨#[]⟩,0,0,0⟩
abbrev bP.s:List Sc:= [.int J9,.str,.str,.int J9,.int J9,.int J9]
abbrev bP.T:Type:=Int×A2P×A2P×Int×Int×Int×Unit
abbrev bP.t(x:bP):bP.T:=(x.kind,x.name,x.aE,x.tries,x.aq,x.wait,())
def iQ(K:bP->Prop):Prop:= ∃a:Int,∃b:A2P,∃c:A2P,∃d:Int,∃e:Int,∃f:Int,K ⟨a,b,c,d,e,f⟩
theorem iQ.mk {K:bP->Prop}(x:bP)(a:K x):iQ K:=⟨x.kind,x.name,x.aE,x.tries,x.aq,x.wait,a⟩
def iR(b:aa)(a:Q6)(K:bP->Prop):Prop:=
 AC J9 b a λc=>
 AJ b (a.add 1) λd=>
 AJ b (a.add 2) λe=>
 AC J9 b (a.add 3) λf=>
 AC J9 b (a.add 4) λg=>
 AC J9 b (a.add 5) λh=>
 K ⟨c,d,e,f,g,h⟩
theorem iR.mk {b:aa}{a:Q6}{K:bP->Prop}(x:bP)(c:Cells b a x.l)(d:K x):iR b a K:=
 ⟨_,by have:=c 0 _ rfl;rwa [add_zero] at this,_,c 1 _ rfl,_,c 2 _ rfl,_,c 3 _ rfl,_,c 4 _ rfl,_,c 5 _ rfl,d⟩
structure bF where
 steps:Sl
 ar:Int
 status:Int
 next:Int
 ba:Int
 asked:Int
 taken:Int
 fresh:Bool
 aw:Sl
 aj:Sl
 cancel:Bool
 aS:Bool
abbrev bF.l(x:bF):List J0:= [J4 x.steps.p x.steps.len x.steps.cap,J6 J9 x.ar,J6 J9 x.status,J6 J9 x.next,J6 J9 x.ba,J6 J9 x.asked,J6 J9 x.taken,J3 x.fresh,J4 x.aw.p x.aw.len x.aw.cap,J4 x.aj.p x.aj.len x.aj.cap,J3 x.cancel,J3 x.aS]
abbrev bF.c(x:bF):Array J0:= #[J4 x.steps.p x.steps.len x.steps.cap,J6 J9 x.ar,J6 J9 x.status,J6 J9 x.next,J6 J9 x.ba,J6 J9 x.asked,J6 J9 x.taken,J3 x.fresh,J4 x.aw.p x.aw.len x.aw.cap,J4 x.aj.p x.aj.len x.aj.cap,J3 x.cancel,J3 x.aS]
abbrev bF.v(x:bF):J0:= .agg #[J4 x.steps.p x.steps.len x.steps.cap,J6 J9 x.ar,J6 J9 x.status,J6 J9 x.next,J6 J9 x.ba,J6 J9 x.asked,J6 J9 x.taken,J3 x.fresh,J4 x.aw.p x.aw.len x.aw.cap,J4 x.aj.p x.aj.len x.aj.cap,J3 x.cancel,J3 x.aS]
abbrev bF.z:bF:=⟨⟨none,0,0⟩,0,0,0,0,0,0,false,⟨none,0,0⟩,⟨none,0,0⟩,false,false⟩
abbrev bF.s:List Sc:= [.sl,.int J9,.int J9,.int J9,.int J9,.int J9,.int J9,.bool,.sl,.sl,.bool,.bool]
abbrev bF.T:Type:=Sl×Int×Int×Int×Int×Int×Int×Bool×Sl×Sl×Bool×Bool×Unit
abbrev bF.t(x:bF):bF.T:=(x.steps,x.ar,x.status,x.next,x.ba,x.asked,x.taken,x.fresh,x.aw,x.aj,x.cancel,x.aS,())
def G8(K:bF->Prop):Prop:= ∃a:Sl,∃b:Int,∃c:Int,∃d:Int,∃e:Int,∃f:Int,∃g:Int,∃h:Bool,∃i:Sl,∃j:Sl,∃k:Bool,∃l:Bool,K ⟨a,b,c,d,e,f,g,h,i,j,k,l⟩
theorem G8.mk {K:bF->Prop}(x:bF)(a:K x):G8 K:=⟨x.steps,x.ar,x.status,x.next,x.ba,x.asked,x.taken,x.fresh,x.aw,x.aj,x.cancel,x.aS,a⟩
def Au(b:aa)(a:Q6)(K:bF->Prop):Prop:=
 AY b a λc=>
 AC J9 b (a.add 1) λd=>
 AC J9 b (a.add 2) λe=>
 AC J9 b (a.add 3) λf=>
 AC J9 b (a.add 4) λg=>
 AC J9 b (a.add 5) λh=>
 AC J9 b (a.add 6) λi=>
 Ac b (a.add 7) λj=>
 AY b (a.add 8) λk=>
 AY b (a.add 9) λl=>
 Ac b (a.add 10) λm=>
 Ac b (a.add 11) λn=>
 K ⟨c,d,e,f,g,h,i,j,k,l,m,n⟩
theorem Au.mk {b:aa}{a:Q6}{K:bF->Prop}(x:bF)(c:Cells b a x.l)(d:K x):Au b a K:=
 ⟨_,by have:=c 0 _ rfl;rwa [add_zero] at this,_,c 1 _ rfl,_,c 2 _ rfl,_,c 3 _ rfl,_,c 4 _ rfl,_,c 5 _ rfl,_,c 6 _ rfl,_,c 7 _ rfl,_,c 8 _ rfl,_,c 9 _ rfl,_,c 10 _ rfl,_,c 11 _ rfl,d⟩
structure cO where
 status:Int
 next:Int
 kept:Bool
abbrev cO.l(x:cO):List J0:= [J6 J9 x.status,J6 J9 x.next,J3 x.kept]
abbrev cO.c(x:cO):Array J0:= #[J6 J9 x.status,J6 J9 x.next,J3 x.kept]
abbrev cO.v(x:cO):J0:= .agg #[J6 J9 x.status,J6 J9 x.next,J3 x.kept]
abbrev cO.z:cO:=⟨0,0,false⟩
abbrev cO.s:List Sc:= [.int J9,.int J9,.bool]
abbrev cO.T:Type:=Int×Int×Bool×Unit
abbrev cO.t(x:cO):cO.T:=(x.status,x.next,x.kept,())
def nN(K:cO->Prop):Prop:= ∃a:Int,∃b:Int,∃c:Bool,K ⟨a,b,c⟩
theorem nN.mk {K:cO->Prop}(x:cO)(a:K x):nN K:=⟨x.status,x.next,x.kept,a⟩
def OE(b:aa)(a:Q6)(K:cO->Prop):Prop:=
 AC J9 b a λc=>
 AC J9 b (a.add 1) λd=>
 Ac b (a.add 2) λe=>
 K ⟨c,d,e⟩
theorem OE.mk {b:aa}{a:Q6}{K:cO->Prop}(x:cO)(c:Cells b a x.l)(d:K x):OE b a K:=
 ⟨_,by have:=c 0 _ rfl;rwa [add_zero] at this,_,c 1 _ rfl,_,c 2 _ rfl,d⟩
structure cu where
 wid:A2P
 ao:Int
 me:cO
 cF:Sl
 st:bF
abbrev cu.l(x:cu):List J0:= [J7 x.wid,J6 J9 x.ao,J6 J9 x.me.status,J6 J9 x.me.next,J3 x.me.kept,J4 x.cF.p x.cF.len x.cF.cap,J4 x.st.steps.p x.st.steps.len x.st.steps.cap,J6 J9 x.st.ar,J6 J9 x.st.status,J6 J9 x.st.next,J6 J9 x.st.ba,J6 J9 x.st.asked,J6 J9 x.st.taken,J3 x.st.fresh,J4 x.st.aw.p x.st.aw.len x.st.aw.cap,J4 x.st.aj.p x.st.aj.len x.st.aj.cap,J3 x.st.cancel,J3 x.st.aS]
abbrev cu.c(x:cu):Array J0:= #[J7 x.wid,J6 J9 x.ao,J6 J9 x.me.status,J6 J9 x.me.next,J3 x.me.kept,J4 x.cF.p x.cF.len x.cF.cap,J4 x.st.steps.p x.st.steps.len x.st.steps.cap,J6 J9 x.st.ar,J6 J9 x.st.status,J6 J9 x.st.next,J6 J9 x.st.ba,J6 J9 x.st.asked,J6 J9 x.st.taken,J3 x.st.fresh,J4 x.st.aw.p x.st.aw.len x.st.aw.cap,J4 x.st.aj.p x.st.aj.len x.st.aj.cap,J3 x.st.cancel,J3 x.st.aS]
abbrev cu.v(x:cu):J0:= .agg #[J7 x.wid,J6 J9 x.ao,J6 J9 x.me.status,J6 J9 x.me.next,J3 x.me.kept,J4 x.cF.p x.cF.len x.cF.cap,J4 x.st.steps.p x.st.steps.len x.st.steps.cap,J6 J9 x.st.ar,J6 J9 x.st.status,J6 J9 x.st.next,J6 J9 x.st.ba,J6 J9 x.st.asked,J6 J9 x.st.taken,J3 x.st.fresh,J4 x.st.aw.p x.st.aw.len x.st.aw.cap,J4 x.st.aj.p x.st.aj.len x.st.aj.cap,J3 x.st.cancel,J3 x.st.aS]
abbrev cu.z:cu:=⟨⟨#[]⟩,0,⟨0,0,false⟩,⟨none,0,0⟩,⟨⟨none,0,0⟩,0,0,0,0,0,0,false,⟨none,0,0⟩,⟨none,0,0⟩,false,false⟩⟩
abbrev cu.s:List Sc:= [.str,.int J9,.int J9,.int J9,.bool,.sl,.sl,.int J9,.int J9,.int J9,.int J9,.int J9,.int J9,.bool,.sl,.sl,.bool,.bool]
abbrev cu.T:Type:=A2P×Int×Int×Int×Bool×Sl×Sl×Int×Int×Int×Int×Int×Int×Bool×Sl×Sl×Bool×Bool×Unit
abbrev cu.t(x:cu):cu.T:=(x.wid,x.ao,x.me.status,x.me.next,x.me.kept,x.cF,x.st.steps,x.st.ar,x.st.status,x.st.next,x.st.ba,x.st.asked,x.st.taken,x.st.fresh,x.st.aw,x.st.aj,x.st.cancel,x.st.aS,())
def TZ(K:cu->Prop):Prop:= ∃a:A2P,∃b:Int,∃c:Int,∃d:Int,∃e:Bool,∃f:Sl,∃g:Sl,∃h:Int,∃i:Int,∃j:Int,∃k:Int,∃l:Int,∃m:Int,∃n:Bool,∃o:Sl,∃p:Sl,∃q:Bool,∃r:Bool,K ⟨a,b,⟨c,d,e⟩,f,⟨g,h,i,j,k,l,m,n,o,p,q,r⟩⟩
theorem TZ.mk {K:cu->Prop}(x:cu)(a:K x):TZ K:=⟨x.wid,x.ao,x.me.status,x.me.next,x.me.kept,x.cF,x.st.steps,x.st.ar,x.st.status,x.st.next,x.st.ba,x.st.asked,x.st.taken,x.st.fresh,x.st.aw,x.st.aj,x.st.cancel,x.st.aS,a⟩
def Jd(b:aa)(a:Q6)(K:cu->Prop):Prop:=
 AJ b a λc=>
 AC J9 b (a.add 1) λd=>
 AC J9 b (a.add 2) λe=>
 AC J9 b (a.add 3) λf=>
 Ac b (a.add 4) λg=>
 AY b (a.add 5) λh=>
 AY b (a.add 6) λi=>
 AC J9 b (a.add 7) λj=>
 AC J9 b (a.add 8) λk=>
 AC J9 b (a.add 9) λl=>
 AC J9 b (a.add 10) λm=>
 AC J9 b (a.add 11) λn=>
 AC J9 b (a.add 12) λo=>
 Ac b (a.add 13) λp=>
 AY b (a.add 14) λq=>
 AY b (a.add 15) λr=>
 Ac b (a.add 16) λs=>
 Ac b (a.add 17) λt=>
 K ⟨c,d,⟨e,f,g⟩,h,⟨i,j,k,l,m,n,o,p,q,r,s,t⟩⟩
theorem Jd.mk {b:aa}{a:Q6}{K:cu->Prop}(x:cu)(c:Cells b a x.l)(d:K x):Jd b a K:=
 ⟨_,by have:=c 0 _ rfl;rwa [add_zero] at this,_,c 1 _ rfl,_,c 2 _ rfl,_,c 3 _ rfl,_,c 4 _ rfl,_,c 5 _ rfl,_,c 6 _ rfl,_,c 7 _ rfl,_,c 8 _ rfl,_,c 9 _ rfl,_,c 10 _ rfl,_,c 11 _ rfl,_,c 12 _ rfl,_,c 13 _ rfl,_,c 14 _ rfl,_,c 15 _ rfl,_,c 16 _ rfl,_,c 17 _ rfl,d⟩
structure cI where
 kind:Int
 wid:A2P
 ref:Int
 turn:Int
abbrev cI.l(x:cI):List J0:= [J6 J9 x.kind,J7 x.wid,J6 J9 x.ref,J6 J9 x.turn]
abbrev cI.c(x:cI):Array J0:= #[J6 J9 x.kind,J7 x.wid,J6 J9 x.ref,J6 J9 x.turn]
abbrev cI.v(x:cI):J0:= .agg #[J6 J9 x.kind,J7 x.wid,J6 J9 x.ref,J6 J9 x.turn]
abbrev cI.z:cI:=⟨0,⟨#[]⟩,0,0⟩
abbrev cI.s:List Sc:= [.int J9,.str,.int J9,.int J9]
abbrev cI.T:Type:=Int×A2P×Int×Int×Unit
abbrev cI.t(x:cI):cI.T:=(x.kind,x.wid,x.ref,x.turn,())
def wB(K:cI->Prop):Prop:= ∃a:Int,∃b:A2P,∃c:Int,∃d:Int,K ⟨a,b,c,d⟩
theorem wB.mk {K:cI->Prop}(x:cI)(a:K x):wB K:=⟨x.kind,x.wid,x.ref,x.turn,a⟩
def SI(b:aa)(a:Q6)(K:cI->Prop):Prop:=
 AC J9 b a λc=>
 AJ b (a.add 1) λd=>
 AC J9 b (a.add 2) λe=>
 AC J9 b (a.add 3) λf=>
 K ⟨c,d,e,f⟩
theorem SI.mk {b:aa}{a:Q6}{K:cI->Prop}(x:cI)(c:Cells b a x.l)(d:K x):SI b a K:=
 ⟨_,by have:=c 0 _ rfl;rwa [add_zero] at this,_,c 1 _ rfl,_,c 2 _ rfl,_,c 3 _ rfl,d⟩
structure bO where
 kind:Int
 aW:A2P
 wid:A2P
 name:A2P
 steps:Sl
 ar:Int
 bV:Sl
 ref:Int
 turn:Int
 aU:Int
 ao:Int
 aO:Bool
abbrev bO.l(x:bO):List J0:= [J6 J9 x.kind,J7 x.aW,J7 x.wid,J7 x.name,J4 x.steps.p x.steps.len x.steps.cap,J6 J9 x.ar,J4 x.bV.p x.bV.len x.bV.cap,J6 J9 x.ref,J6 J9 x.turn,J6 J9 x.aU,J6 J9 x.ao,J3 x.aO]
abbrev bO.c(x:bO):Array J0:= #[J6 J9 x.kind,J7 x.aW,J7 x.wid,J7 x.name,J4 x.steps.p x.steps.len x.steps.cap,J6 J9 x.ar,J4 x.bV.p x.bV.len x.bV.cap,J6 J9 x.ref,J6 J9 x.turn,J6 J9 x.aU,J6 J9 x.ao,J3 x.aO]
abbrev bO.v(x:bO):J0:= .agg #[J6 J9 x.kind,J7 x.aW,J7 x.wid,J7 x.name,J4 x.steps.p x.steps.len x.steps.cap,J6 J9 x.ar,J4 x.bV.p x.bV.len x.bV.cap,J6 J9 x.ref,J6 J9 x.turn,J6 J9 x.aU,J6 J9 x.ao,J3 x.aO]
abbrev bO.z:bO:=⟨0,⟨#[]⟩,⟨#[]⟩,⟨#[]⟩,⟨none,0,0⟩,0,⟨none,0,0⟩,0,0,0,0,false⟩
abbrev bO.s:List Sc:= [.int J9,.str,.str,.str,.sl,.int J9,.sl,.int J9,.int J9,.int J9,.int J9,.bool]
abbrev bO.T:Type:=Int×A2P×A2P×A2P×Sl×Int×Sl×Int×Int×Int×Int×Bool×Unit
abbrev bO.t(x:bO):bO.T:=(x.kind,x.aW,x.wid,x.name,x.steps,x.ar,x.bV,x.ref,x.turn,x.aU,x.ao,x.aO,())
def nP(K:bO->Prop):Prop:= ∃a:Int,∃b:A2P,∃c:A2P,∃d:A2P,∃e:Sl,∃f:Int,∃g:Sl,∃h:Int,∃i:Int,∃j:Int,∃k:Int,∃l:Bool,K ⟨a,b,c,d,e,f,g,h,i,j,k,l⟩
theorem nP.mk {K:bO->Prop}(x:bO)(a:K x):nP K:=⟨x.kind,x.aW,x.wid,x.name,x.steps,x.ar,x.bV,x.ref,x.turn,x.aU,x.ao,x.aO,a⟩
def LX(b:aa)(a:Q6)(K:bO->Prop):Prop:=
 AC J9 b a λc=>
 AJ b (a.add 1) λd=>
 AJ b (a.add 2) λe=>
 AJ b (a.add 3) λf=>
 AY b (a.add 4) λg=>
 AC J9 b (a.add 5) λh=>
 AY b (a.add 6) λi=>
 AC J9 b (a.add 7) λj=>
 AC J9 b (a.add 8) λk=>
 AC J9 b (a.add 9) λl=>
 AC J9 b (a.add 10) λm=>
 Ac b (a.add 11) λn=>
 K ⟨c,d,e,f,g,h,i,j,k,l,m,n⟩
theorem LX.mk {b:aa}{a:Q6}{K:bO->Prop}(x:bO)(c:Cells b a x.l)(d:K x):LX b a K:=
 ⟨_,by have:=c 0 _ rfl;rwa [add_zero] at this,_,c 1 _ rfl,_,c 2 _ rfl,_,c 3 _ rfl,_,c 4 _ rfl,_,c 5 _ rfl,_,c 6 _ rfl,_,c 7 _ rfl,_,c 8 _ rfl,_,c 9 _ rfl,_,c 10 _ rfl,_,c 11 _ rfl,d⟩
structure bT where
 err:Int
 status:Int
 next:Int
 task:cI
 name:A2P
 cF:Sl
abbrev bT.l(x:bT):List J0:= [J6 J9 x.err,J6 J9 x.status,J6 J9 x.next,J6 J9 x.task.kind,J7 x.task.wid,J6 J9 x.task.ref,J6 J9 x.task.turn,J7 x.name,J4 x.cF.p x.cF.len x.cF.cap]
abbrev bT.c(x:bT):Array J0:= #[J6 J9 x.err,J6 J9 x.status,J6 J9 x.next,J6 J9 x.task.kind,J7 x.task.wid,J6 J9 x.task.ref,J6 J9 x.task.turn,J7 x.name,J4 x.cF.p x.cF.len x.cF.cap]
abbrev bT.v(x:bT):J0:= .agg #[J6 J9 x.err,J6 J9 x.status,J6 J9 x.next,J6 J9 x.task.kind,J7 x.task.wid,J6 J9 x.task.ref,J6 J9 x.task.turn,J7 x.name,J4 x.cF.p x.cF.len x.cF.cap]
abbrev bT.z:bT:=⟨0,0,0,⟨0,⟨#[]⟩,0,0⟩,⟨#[]⟩,⟨none,0,0⟩⟩
abbrev bT.s:List Sc:= [.int J9,.int J9,.int J9,.int J9,.str,.int J9,.int J9,.str,.sl]
abbrev bT.T:Type:=Int×Int×Int×Int×A2P×Int×Int×A2P×Sl×Unit
abbrev bT.t(x:bT):bT.T:=(x.err,x.status,x.next,x.task.kind,x.task.wid,x.task.ref,x.task.turn,x.name,x.cF,())
def Je(K:bT->Prop):Prop:= ∃a:Int,∃b:Int,∃c:Int,∃d:Int,∃e:A2P,∃f:Int,∃g:Int,∃h:A2P,∃i:Sl,K ⟨a,b,c,⟨d,e,f,g⟩,h,i⟩
theorem Je.mk {K:bT->Prop}(x:bT)(a:K x):Je K:=⟨x.err,x.status,x.next,x.task.kind,x.task.wid,x.task.ref,x.task.turn,x.name,x.cF,a⟩
def Dj(b:aa)(a:Q6)(K:bT->Prop):Prop:=
 AC J9 b a λc=>
 AC J9 b (a.add 1) λd=>
 AC J9 b (a.add 2) λe=>
 AC J9 b (a.add 3) λf=>
 AJ b (a.add 4) λg=>
 AC J9 b (a.add 5) λh=>
 AC J9 b (a.add 6) λi=>
 AJ b (a.add 7) λj=>
 AY b (a.add 8) λk=>
 K ⟨c,d,e,⟨f,g,h,i⟩,j,k⟩
theorem Dj.mk {b:aa}{a:Q6}{K:bT->Prop}(x:bT)(c:Cells b a x.l)(d:K x):Dj b a K:=
 ⟨_,by have:=c 0 _ rfl;rwa [add_zero] at this,_,c 1 _ rfl,_,c 2 _ rfl,_,c 3 _ rfl,_,c 4 _ rfl,_,c 5 _ rfl,_,c 6 _ rfl,_,c 7 _ rfl,_,c 8 _ rfl,d⟩
structure dD where
 wait:Int
 q:bO
 take:Bool
 gi:Bool
abbrev dD.l(x:dD):List J0:= [J6 J9 x.wait,J6 J9 x.q.kind,J7 x.q.aW,J7 x.q.wid,J7 x.q.name,J4 x.q.steps.p x.q.steps.len x.q.steps.cap,J6 J9 x.q.ar,J4 x.q.bV.p x.q.bV.len x.q.bV.cap,J6 J9 x.q.ref,J6 J9 x.q.turn,J6 J9 x.q.aU,J6 J9 x.q.ao,J3 x.q.aO,J3 x.take,J3 x.gi]
abbrev dD.c(x:dD):Array J0:= #[J6 J9 x.wait,J6 J9 x.q.kind,J7 x.q.aW,J7 x.q.wid,J7 x.q.name,J4 x.q.steps.p x.q.steps.len x.q.steps.cap,J6 J9 x.q.ar,J4 x.q.bV.p x.q.bV.len x.q.bV.cap,J6 J9 x.q.ref,J6 J9 x.q.turn,J6 J9 x.q.aU,J6 J9 x.q.ao,J3 x.q.aO,J3 x.take,J3 x.gi]
abbrev dD.v(x:dD):J0:= .agg #[J6 J9 x.wait,J6 J9 x.q.kind,J7 x.q.aW,J7 x.q.wid,J7 x.q.name,J4 x.q.steps.p x.q.steps.len x.q.steps.cap,J6 J9 x.q.ar,J4 x.q.bV.p x.q.bV.len x.q.bV.cap,J6 J9 x.q.ref,J6 J9 x.q.turn,J6 J9 x.q.aU,J6 J9 x.q.ao,J3 x.q.aO,J3 x.take,J3 x.gi]
abbrev dD.z:dD:=⟨0,⟨0,⟨#[]⟩,⟨#[]⟩,⟨#[]⟩,⟨none,0,0⟩,0,⟨none,0,0⟩,0,0,0,0,false⟩,false,false⟩
abbrev dD.s:List Sc:= [.int J9,.int J9,.str,.str,.str,.sl,.int J9,.sl,.int J9,.int J9,.int J9,.int J9,.bool,.bool,.bool]
abbrev dD.T:Type:=Int×Int×A2P×A2P×A2P×Sl×Int×Sl×Int×Int×Int×Int×Bool×Bool×Bool×Unit
abbrev dD.t(x:dD):dD.T:=(x.wait,x.q.kind,x.q.aW,x.q.wid,x.q.name,x.q.steps,x.q.ar,x.q.bV,x.q.ref,x.q.turn,x.q.aU,x.q.ao,x.q.aO,x.take,x.gi,())
def wC(K:dD->Prop):Prop:= ∃a:Int,∃b:Int,∃c:A2P,∃d:A2P,∃e:A2P,∃f:Sl,∃g:Int,∃h:Sl,∃i:Int,∃j:Int,∃k:Int,∃l:Int,∃m:Bool,∃n:Bool,∃o:Bool,K ⟨a,⟨b,c,d,e,f,g,h,i,j,k,l,m⟩,n,o⟩
theorem wC.mk {K:dD->Prop}(x:dD)(a:K x):wC K:=⟨x.wait,x.q.kind,x.q.aW,x.q.wid,x.q.name,x.q.steps,x.q.ar,x.q.bV,x.q.ref,x.q.turn,x.q.aU,x.q.ao,x.q.aO,x.take,x.gi,a⟩
def nQ(b:aa)(a:Q6)(K:dD->Prop):Prop:=
 AC J9 b a λc=>
 AC J9 b (a.add 1) λd=>
 AJ b (a.add 2) λe=>
 AJ b (a.add 3) λf=>
 AJ b (a.add 4) λg=>
 AY b (a.add 5) λh=>
 AC J9 b (a.add 6) λi=>
 AY b (a.add 7) λj=>
 AC J9 b (a.add 8) λk=>
 AC J9 b (a.add 9) λl=>
 AC J9 b (a.add 10) λm=>
 AC J9 b (a.add 11) λn=>
 Ac b (a.add 12) λo=>
 Ac b (a.add 13) λp=>
 Ac b (a.add 14) λq=>
 K ⟨c,⟨d,e,f,g,h,i,j,k,l,m,n,o⟩,p,q⟩
theorem nQ.mk {b:aa}{a:Q6}{K:dD->Prop}(x:dD)(c:Cells b a x.l)(d:K x):nQ b a K:=
 ⟨_,by have:=c 0 _ rfl;rwa [add_zero] at this,_,c 1 _ rfl,_,c 2 _ rfl,_,c 3 _ rfl,_,c 4 _ rfl,_,c 5 _ rfl,_,c 6 _ rfl,_,c 7 _ rfl,_,c 8 _ rfl,_,c 9 _ rfl,_,c 10 _ rfl,_,c 11 _ rfl,_,c 12 _ rfl,_,c 13 _ rfl,_,c 14 _ rfl,d⟩
structure eI where
 key:A2P
 val:A2P
 ref:Int
 turn:Int
 aO:Bool
abbrev eI.l(x:eI):List J0:= [J7 x.key,J7 x.val,J6 J9 x.ref,J6 J9 x.turn,J3 x.aO]
abbrev eI.c(x:eI):Array J0:= #[J7 x.key,J7 x.val,J6 J9 x.ref,J6 J9 x.turn,J3 x.aO]
abbrev eI.v(x:eI):J0:= .agg #[J7 x.key,J7 x.val,J6 J9 x.ref,J6 J9 x.turn,J3 x.aO]
abbrev eI.z:eI:=⟨⟨#[]⟩,⟨#[]⟩,0,0,false⟩
abbrev eI.s:List Sc:= [.str,.str,.int J9,.int J9,.bool]
abbrev eI.T:Type:=A2P×A2P×Int×Int×Bool×Unit
abbrev eI.t(x:eI):eI.T:=(x.key,x.val,x.ref,x.turn,x.aO,())
def wE(K:eI->Prop):Prop:= ∃a:A2P,∃b:A2P,∃c:Int,∃d:Int,∃e:Bool,K ⟨a,b,c,d,e⟩
theorem wE.mk {K:eI->Prop}(x:eI)(a:K x):wE K:=⟨x.key,x.val,x.ref,x.turn,x.aO,a⟩
def wF(b:aa)(a:Q6)(K:eI->Prop):Prop:=
 AJ b a λc=>
 AJ b (a.add 1) λd=>
 AC J9 b (a.add 2) λe=>
 AC J9 b (a.add 3) λf=>
 Ac b (a.add 4) λg=>
 K ⟨c,d,e,f,g⟩
theorem wF.mk {b:aa}{a:Q6}{K:eI->Prop}(x:eI)(c:Cells b a x.l)(d:K x):wF b a K:=
 ⟨_,by have:=c 0 _ rfl;rwa [add_zero] at this,_,c 1 _ rfl,_,c 2 _ rfl,_,c 3 _ rfl,_,c 4 _ rfl,d⟩
end Go.Lf
namespace Go.Lf.G
abbrev AR:bY:= .none
abbrev AO(a b:bY):bY:= .seq a b
def CE:Nat->bY->bY
 |0,x=>x
 |n+1,x=> .seq .none (CE n x)
abbrev Bc:bY:=AO AR AR
abbrev Dy:bY:= .cond Bc AR
abbrev FJ:bY:= .cond AR AR
abbrev Dg:bY:=AO AR Dy
abbrev Fj:bY:=AO AR FJ
abbrev Er:bY:=CE 2 AR
abbrev gQ:bY:=AO Dg Bc
abbrev Rc:bY:=AO AR gQ
abbrev Nf:bY:=CE 2 Dy
abbrev mW:bY:=AO AR (AO FJ (AO (.block Nf) AR))
abbrev pO:bY:=AO AR (AO (AO AR (.block (.loop [(8,.one (.int J9))] [0,1,7] mW))) Bc)
abbrev jR:bY:=AO AR (AO FJ (AO (.block Bc) AR))
abbrev pP:bY:= .cond AR Fj
abbrev mX:bY:=AO AR pP
abbrev lr:bY:=AO AR (.cond AR mX)
abbrev fY:bY:=CE 3 AR
abbrev pQ:bY:= .cond fY AR
abbrev tB:bY:=CE 3 (AO Dg (AO AR (AO Dg (AO (AO AR (.cond (CE 4 AR) AR)) (AO AR (AO (AO AR pQ) fY))))))
abbrev mY:bY:=AO AR (AO FJ (AO (.block Er) AR))
abbrev mZ:bY:=AO Dg AR
abbrev pR:bY:=AO AR (AO FJ (AO (.block (CE 2 mZ)) AR))
abbrev na:bY:=AO AR (.cond Bc Dg)
abbrev pS:bY:=AO AR (AO FJ (AO (.block (CE 3 Dy)) AR))
abbrev nc:bY:= .block AR
abbrev pT:bY:=AO AR (AO FJ (AO nc AR))
abbrev pU:bY:= .block (AO AR (.cond Bc na))
abbrev pV:bY:=AO Fj (AO (.block Dg) AR)
abbrev jS:bY:=AO Dg Er
abbrev lu:bY:= .cond Er AR
abbrev jT:bY:=CE 2 FJ
abbrev tC:bY:=AO (.br [(13,.one .bool)] [0,1]) Dy
abbrev tD:bY:=AO (.br [(19,.one .bool)] [0,1]) Dy
abbrev pW:bY:=AO AR mZ
abbrev tE:bY:=AO (.br [(14,.one .bool)] [1]) Dy
abbrev tF:bY:=CE 2 (AO Dg (CE 4 AR))
abbrev tG:bY:=AO AR (.cond pW AR)
theorem Aa {a:ak}{f:Q8}{args:List J0}{b:aa}{c:A2O}{d:Prop}(e:bY)(g:d=qa a P f e args b c)(h:d):AA a P f args.toArray b c:=AGy mixed (g▸h)
end Go.Lf.G
