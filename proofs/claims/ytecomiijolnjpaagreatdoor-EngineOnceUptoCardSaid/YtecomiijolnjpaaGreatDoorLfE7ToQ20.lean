/-
 Contracts: a change begins, takes events, tasks and rows (chapter 19).
-/
import Derived.Test.YtecomiijolnjpaaGreatDoorLfV6ToE6
import Derived.Test.YtecomiijolnjpaaGreatDoorLfIToU29
import Derived.Test.YtecomiijolnjpaaGreatDoorLfZ16ToV5
set_option maxRecDepth 100000
set_option linter.unusedVariables false
set_option linter.unusedSimpArgs false
open Go.IntKind renaming i64→J9,wrap→J8
open Go.Value renaming string→J7,int→J6,pointer→J5,slice→J4,bool→J3,tuple→J1
open Go.Obj renaming cells→J2
open Go renaming Value→J0,Addr→Q6,TypeId→Q7,FuncId→Q8,Program→Q1
open Go.Addr renaming add→Q9,mk→Q5
namespace Go.Lf.G
open Go
open M (Sorted Ag Cs BC Ah Aw Be Am bH BK aV BU)
theorem sX {h:aa}{b:Nat}{T:Q7}{fr:Nat×Nat}{c:Ev}(d:h[b]? =some (J2 c.c T fr)):ag h (⟨b,0,none⟩:Q6)=some (J6 J9 c.id)/\ag h ((⟨b,0,none⟩:Q6).add 1)=some (J6 J9 c.kind)/\ag h ((⟨b,0,none⟩:Q6).add 2)=some (J6 J9 c.tick)/\ag h ((⟨b,0,none⟩:Q6).add 3)=some (J6 J9 c.ref)/\ag h ((⟨b,0,none⟩:Q6).add 4)=some (J6 J9 c.step)/\ag h ((⟨b,0,none⟩:Q6).add 5)=some (J6 J9 c.turn)/\ag h ((⟨b,0,none⟩:Q6).add 6)=some (J3 c.aE)/\ag h ((⟨b,0,none⟩:Q6).add 7)=some (J7 c.data):=
 ⟨AL d rfl,AB d rfl,AB d rfl,AB d rfl,AB d rfl,AB d rfl,AB d rfl,AB d rfl⟩
end Go.Lf.G
namespace Go.Lf
open G
open Go
open M (Sorted Ag Cs BC Ah Aw Be Am bH BK aV BU)
theorem Cells.kI {h:aa}{a:Q6}{t:bF}(c:Cells h a t.l):ag h a=some (J4 t.steps.p t.steps.len t.steps.cap)/\ag h (a.add 1)=some (J6 J9 t.ar)/\ag h (a.add 2)=some (J6 J9 t.status)/\ag h (a.add 3)=some (J6 J9 t.next)/\ag h (a.add 4)=some (J6 J9 t.ba)/\ag h (a.add 5)=some (J6 J9 t.asked)/\ag h (a.add 6)=some (J6 J9 t.taken)/\ag h (a.add 7)=some (J3 t.fresh)/\ag h (a.add 8)=some (J4 t.aw.p t.aw.len t.aw.cap)/\ag h (a.add 9)=some (J4 t.aj.p t.aj.len t.aj.cap)/\ag h (a.add 10)=some (J3 t.cancel)/\ag h (a.add 11)=some (J3 t.aS):=by have b:=c 0 _ rfl;rw[add_zero] at b;exact⟨b,c 1 _ rfl,c 2 _ rfl,c 3 _ rfl,c 4 _ rfl,c 5 _ rfl,c 6 _ rfl,c 7 _ rfl,c 8 _ rfl,c 9 _ rfl,c 10 _ rfl,c 11 _ rfl⟩
end Go.Lf
namespace Go.Lf.G
open Go
open M (Sorted Ag Cs BC Ah Aw Be Am bH BK aV BU)
structure Hs.dp (y y':Hs):Prop where
 p:y'.p=y.p
 name:y'.name=y.name
 f:y'.f=y.f
 u: ∀m,y'.u m<=y.u m+1
theorem Hs.dp.refl(y:Hs):y.dp y:=⟨rfl,rfl,rfl,λ_=>BT _⟩
section
variable {A : ak} {B : cJ} {g h : aa} {s a N sh cb : Nat} {l : List Hs} {mp : List Pr} {O : Nat -> Prop} {i : Nat} {y : Hs} {z : Nat -> Nat} {x : eW} {C : bD} {R : A2O}
theorem CW.put {b:Nat}(W:CW B g h s a N sh l i y mp O cb z x C)(c:N<=b)(d:b<=1000000)(e:64*a<=B.C):CW B g h s a b sh l i y mp O cb z x C:=⟨W.w.put (A0 _) e c d,W.il,W.no,W.hp,W.bC⟩
theorem CW.at(b:CW B g h s a N sh l i y mp O cb z x C):(l.set i y)[i]? =some y:=HJ b.il
theorem CW.lw {d:aa}{f j:Nat}{k:List Pr}{e:Hs}(b:CW B g h s a N sh l i y mp O cb z x C)(n:LW B g d s j f sh ((l.set i y).set i e) k (λc=>O c\/z c≠0))(m:Mod (bW g (λc=>O c\/z c≠0)) h d)(o:e.p=y.p):CW B g d s j f sh l i e k O cb z x C:=
 ⟨by rw[List.set_set] at n;exact n,b.il,b.no,b.hp.trans o.symm,b.bC.mod m λc p q=>q.2 (.inr p)⟩
theorem AQy {t:bF}(c: ∀b,Ext h b->R (J3 (decide (t.next<=497))) b):AA A P Pn #[t.v] h R:=by refine ADT ?_;unfold Vk;exact al.mk λd _ e f j=>AC.mk (AB e rfl) (c d f)
theorem AP2 {wid:A2P}{k:Nat}{m n now:Int}{o:Bool}{D:Sl}{st:bj}{d e f:Sl}(F:LW B g h s a N sh (l.set i y) mp (λc=>O c\/ij st d e f c))(U:i<l.length)(G:Jk h st d e f)(no: ∀c,ij st d e f c-> ¬O c)
  (H: ∀E cb z x,CW B g E s a N sh l i y mp O cb z x (Oj wid k m n o st now)->Ext h E->R (Az cb) E):
  AA A P OG #[Az y.p,(⟨wid,(k:Int),⟨m,n,o⟩,D,st.V d e f⟩:cu).v,J6 J9 now] h R:=by
 refine AA7 ?_;unfold UV;refine al.mk λq _ I J af=>Jd.mk ⟨wid,(k:Int),⟨m,n,o⟩,D,st.V d e f⟩ (DU I rfl) ?_
 have V:(⟨h.size,0,none⟩:Q6).add 6=⟨h.size,6,none⟩:=rfl;rw[V];refine Au.mk (st.V d e f) (DU I rfl) ?_;refine al.mk λr _ W X ag=>?_
 have t:Ext h r:=J.trans X
 let x:eW:=⟨y.p,D,st.V d e f,d,e,f,⟨none,0,0⟩,⟨none,0,0⟩,⟨none,0,0⟩⟩
 let u:bD:= {Oj wid k m n o st now with err:=0}
 let z:Nat->Nat:=λc=>if c=q.size then 1 else iJ (λ_=>0) st d e f c
 have Y: ∀c,ij st d e f c->c<h.size:=λc b=>G.lt b
 have L: ∀c,z c≠0->c=q.size\/ij st d e f c:=λc b=>by
  by_cases p:c=q.size
  ·exact .inl p
  ·have b:iJ (λ_=>0) st d e f c≠0:=by have:z c=iJ (λ_=>0) st d e f c:=if_neg p;rw[<- this];exact b
   unfold iJ at b;split at b
   ·rename_i Z;exact .inr Z
   ·exact absurd rfl b
 have aa:FU r q.size z x u:=⟨W,if_pos rfl,(G.ext t),λc b=>by
   have:=Y c b;show z c=5;exact(if_neg (by omega)).trans (if_pos b),Own.nil,λc b=>by simp[x,Sl.af] at b,Own.nil,λc b=>by simp[x,Sl.af] at b,Own.nil,λc b=>by simp[x,Sl.af] at b⟩
 have v:CW B g r s a N sh l i y mp O q.size z x u:=⟨F.own t.mod λc b=>by
   rcases b with b|b
   ·exact .inl (.inl b)
   ·rcases L c b with h|h
    ·exact .inr (by omega)
    ·exact .inl (.inr h),U,λc b M=>by
   rcases L c b with h|h
   ·have:=(F.out (.inl M)).1;omega
   ·exact no c h M,rfl,aa⟩
 refine ah.mk λK Q=>ah.mk λab ac=>?_
 have key: ∀w:Bool,(w=true↔now<0\/1099511611776<now)->ab (w,()) r:=λw S=>by
  refine ac _ _ (ae.intro (λj=>?_) (λj=>?_))
  ·refine v.bC.err λad D3 T ai=>Q _ _ (H ad _ z x ?_ (t.more T λc b=>by subst b;exact J.size))
   have p:Oj wid k m n o st now= {u with err:=1}:=by have:Oj wid k m n o st now= {Oj wid k m n o st now with err:=if now<0\/1099511611776<now then 1 else 0}:=rfl;rw[this,if_pos (S.1 j)]
   rw[p];exact v.step (T.ai λc _ b=>by subst b;rw[v.bC.zc];decide) (λc b=> .inl b) rfl D3
  ·have j:w=false:=j;refine Q _ _ (H r _ z x ?_ t);have p:Oj wid k m n o st now=u:=by have:Oj wid k m n o st now= {Oj wid k m n o st now with err:=if now<0\/1099511611776<now then 1 else 0}:=rfl;rw[this,if_neg λh=>by rw[S.2 h] at j;cases j]
   rw[p];exact v
 refine ae.intro (λj=>key true (by simp at j;simp[j])) (λj=>key _ (by simp at j;simp;omega))
theorem AP4(b:CW B g h s a N sh l i y mp O cb z x C)(d:0<=C.st.next/\C.st.next<=501)(c:R (J6 J9 (km C)) h):AA A P Iy #[Az cb] h R:=by refine Sz ?_;unfold Mc;refine aF (AC.mk (CG b.bC.af rfl) ?_);rw[wrap_i64 (by omega) (by omega)];exact c
theorem lj {e:Ev}{an:Nat}(f:CW B g h s a N sh l i y mp O cb z x C)(ao:ER C.st an)(ap:an<=600)(hd:e.data.size<1099511627776)(aJ:C.more.length<1000)
  (S: ∀Y aK x',CW B g Y s a N sh l i y mp O cb aK x' (Eu C e)->Mod (bW g O) h Y->R (J1 #[]) Y):AA A P Di #[Az cb,e.v] h R:=by
 refine TR ?_;unfold NN;refine al.mk λaL _ aM u a7=>aF (AC.mk (Cg (f.on u).bC.af rfl) (ae.intro (λd=>?_) (λd=>?_)))
 ·have d:C.err≠0:=by simpa using d
  refine S aL z x ?_ u.mod;unfold Eu;rw[if_pos d];exact f.on u
 have Z:C.err=0:=by simpa using d
 have aq: ∀c,z c≠0-> ¬c=h.size:=λc m e=>by have:=f.gL c m;omega
 refine aF (AC.mk (CG (f.on u).bC.af rfl) (aF (AC.mk (Cg (f.on u).bC.af rfl) ?_)));refine ab.bQ (j:=0) (dH:=({e with id:=if 1>C.st.next then 1 else C.st.next}:Ev).c) aM (of_decide_eq_true rfl) rfl λa8 aN ar a9=>⟨Cg ((f.on u).bC.mod ar aq).af rfl,?_⟩
 refine ab.bQ (j:=2) (dH:=(Ct C e).c) aN (of_decide_eq_true rfl) rfl λac au aO ba=>?_
 have ad:Ext h ac:=u.more (ar.trans aO) λc m=>by subst m;exact A0 _
 refine ah.mk λK aQ=>?_
 have key: ∀(T:Bool) (D:aa),Ext ac D->(T=true↔C.more= []/\iP C.st=false/\e.kind≠18)->K (T,()) D:=λT D af av=>by
  have J:=ad.trans af;have F:=f.on J;have U:=af.af au λh=>h
  refine aQ _ _ (ae.intro (λd=>?_) (λd=>?_))
  ·refine aF (F.bC.err λk aR aS aT=>?_);have aw:Mod (λc=>z c≠0) D k:=aS.ai λc _ m=>by subst m;rw[f.bC.zc];decide
   refine S k z x ?_ (J.mod.trans (F.frame aw));unfold Eu;rw[if_neg (by simp[Z]),if_pos (av.1 d)];exact F.step aw (λc m=> .inl m) rfl aR
  have d:T=false:=d;have ax: ¬(C.more= []/\iP C.st=false/\e.kind≠18):=λh=>by rw[av.2 h] at d;cases d
  refine ah.mk λaU aV=>aF (Au.mk (C.st.V x.a x.b x.c) F.bC.ld (MQ.mk (Ct C e) (QO U) ?_))
  have ay: ∀(k:aa) (ag:Nat) (o p q:Sl),Ext D k->k[ag]? =some (J2 ((Bj C.st (Ct C e)).2.V o p q).c Ap (0,0))->Jk k (Bj C.st (Ct C e)).2 o p q->(∀ y,o.af=some y\/p.af=some y\/q.af=some y->h.size<=y)->
    aU (some ⟨ag,0,none⟩,(Bj C.st (Ct C e)).1,()) k:=λk ag o p q n aW L fr=>by
   have ai:=J.trans n;have aj:=f.on ai;refine aV _ _ (ae.intro (λd=>?_) (λd=>?_))
   ·have d:(Bj C.st (Ct C e)).1≠0:=by simpa using d
    refine aF (aj.bC.err λG ak V az=>?_);have W:Mod (λc=>z c≠0) k G:=V.ai λc _ m=>by subst m;rw[f.bC.zc];decide
    refine S G z x ?_ (ai.mod.trans (aj.frame W));unfold Eu;rw[if_neg (by simp[Z]),if_neg ax,if_pos d];exact aj.step W (λc m=> .inl m) rfl ak
   have aX:(Bj C.st (Ct C e)).1=0:=by simpa using d
   refine aF (Au.mk ((Bj C.st (Ct C e)).2.V o p q) (Em aW) (aF (f.bC.kH f.gL ai L fr λG bb ak V W aY=>?_)));have aA:=f.step (x':= {x with a:=o,b:=p,c:=q}) V aY rfl ak;have M:=W.af (n.af U λh=>h) (λe=>aq cb (by rw[f.bC.zc];decide) e.symm);refine aF (AY.mk (s:=x.more) (Cg aA.bC.af rfl) (MQ.mk (Ct C e) (QO M) (al.mk λH _ v aC aD=>?_)));have Q:=aA.on aC;refine⟨Cg Q.bC.af rfl,?_⟩;have aZ:View fT H ⟨some ⟨G.size,0,none⟩,1,1⟩ [Ct C e]:=(Own.lit (E:=fT) (l:= [Ct C e]) v rfl (by simp[maxLen])).view;refine Q.bC.kG Q.gL aZ aJ λa0 aE a1 a2 aG a3=>?_
   have a4:=Q.step (x':= {x with a:=o,b:=p,c:=q,more:=aE}) aG a3 rfl a2;refine S a0 a1 {x with a:=o,b:=p,c:=q,more:=aE} ?_ ((f.frame V).trans (aC.mod.trans (Q.frame aG)));have a5:Eu C e= {C with st:=(Bj C.st (Ct C e)).2,more:=C.more++ [Ct C e]}:=by unfold Eu;rw[if_neg (by simp[Z]),if_neg ax,if_neg (by simp[aX])]
   rw[a5];exact a4
  have bc:=ad.size;have bd:=af.size;constructor
  ·refine pD F.bC.st ao ap hd λk o p q n L I=>G8.mk _ ⟨_,rfl,al.mk λG _ M t az=>⟨sX ((n.trans t).af U λh=>h),(f.on ((J.trans n).trans t)).bC.ld.kI,aP.mk M (A0 12) λH v X aD=>?_⟩⟩
   rw[Ow] at v;have aH:Ext k H:=t.more X λc m=>by subst m;exact A0 _
   exact ay H k.size o p q (n.trans aH) v (L.ext aH) λy r=>by have:=I y r;omega
  ·refine al.mk λG _ M t az=>⟨sX (t.af U λh=>h),(f.on (J.trans t)).bC.ld.kI,?_⟩
   refine pD (F.bC.st.ext t) ao ap hd λk o p q n L I=>G8.mk _ ⟨_,rfl,aP.mk (n.af M λh=>h) (A0 12) λH v X aD=>?_⟩
   rw[Ow] at v;have aT:=n.size;have a6:=L.mod X (λy r e=>by have:=I y (.inl r);omega) (λy r e=>by have:=I y (.inr (.inl r));omega) (λy r e=>by have:=I y (.inr (.inr r));omega);exact ay H D.size o p q ((t.trans n).more X λc m=>by subst m;exact A0 _) v a6 λy r=>by have:=I y r;omega
 have am:=f.on ad;refine aF (AY.mk (s:=x.more) (Cg am.bC.af rfl) ?_);have aI:=am.bC.more.len;refine ae.intro (λd=>?_) (λd=>?_)
 ·have d:C.more= []:=by simp at d;exact CD (by omega)
  refine aF (Au.mk (C.st.V x.a x.b x.c) am.bC.ld (AQy λk n=>⟨_,rfl,?_⟩));refine ae.intro (λw=>?_) (λw=>?_)
  ·have w:iP C.st=false:=by unfold iP;simpa using w
   refine AC.mk (AB (n.af au λh=>h) rfl) (key _ k n ?_);simp[d,w,Ct]
  ·have w:iP C.st=true:=by unfold iP;simpa using w
   refine key _ k n ?_;simp[w]
 ·have d:C.more≠ []:=λh=>by rw[h] at aI;simp[aI] at d
  refine key _ ac Mod.refl ?_;simp[d]
theorem sY {t:cI}{tick:Int}(r:CW B g h s a N sh l i y mp O cb z x C)(T:C.ao<256)(an:y.f C.ao<=2147483647)(ao:y.u C.ao+1<16777216)(F:N+1<=1000000)(H:64*a<=B.C)(ap:C.au.length<1000)(a3:tick<9223372036854775808)
  (I: ∀J aq x' o q,CW B g J s a (N+1) sh l i o mp O cb aq x' (F3 C ⟨t.kind,t.ref,t.turn⟩ tick q)->y.dp o->Mod (bW g O) h J->R (J1 #[]) J):AA A P GK #[Az cb,t.v,J6 J9 tick] h R:=by
 refine SY ?_;unfold Me;refine al.mk λar _ av w a4=>aF (AC.mk (Cg (r.on w).bC.af rfl) (ae.intro (λb=>?_) (λb=>?_)))
 ·have b:C.err≠0:=by simpa using b
  refine I ar z x y 0 ?_ (Hs.dp.refl y) w.mod;unfold F3;rw[if_pos b];exact(r.on w).put (by omega) F H
 have U:C.err=0:=by simpa using b
 refine aF (AJ.mk (n:=C.wid) (Cg (r.on w).bC.af rfl) (ab.bQ (j:=1) (dH:=({t with wid:=C.wid}:cI).c) av (of_decide_eq_true rfl) rfl λaw ax ay a5=>?_));have az:Ext h aw:=w.more ay λc e=>by subst e;exact A0 _
 refine SI.mk ({t with wid:=C.wid}:cI) (DU ax rfl) (AQe λD aA=>⟨_,_,rfl,?_⟩);have L:=az.trans aA;have d:=r.on L;cases V:KQ ⟨t.kind,t.ref,t.turn⟩ C.wid with
 |false=>
  refine ae.yes rfl (aF (d.bC.err λW aC aD a6=>?_));have X:Mod (λc=>z c≠0) D W:=aD.ai λc _ e=>by subst e;rw[r.bC.zc];decide
  refine I W z x y 0 ?_ (Hs.dp.refl y) (L.mod.trans (d.frame X));unfold F3;rw[if_neg (by simp[U]),if_pos V];exact(d.step X (λc e=> .inl e) rfl aC).put (by omega) F H
 |true=>
  refine ae.no rfl ?_;have aE:ag D (⟨cb,0,none⟩:Q6)=some (Az y.p):=by have:=Cg (j:=0) d.bC.af rfl;rw[add_zero,r.hp] at this;exact this
  refine aF (Ab.mk aE (aF (AC.mk (CG d.bC.af rfl) ?_)));have Y: ∀(f:aa) (o:Hs) (q:Nat),CW B g f s a (N+1) sh l i o mp O cb z x C->y.dp o->Mod (bW g O) D f->(∃ M:Int,Value.int .u64 (q:Int)= .int .u64 M/\(
    At (some (⟨cb,0,none⟩:Q6)) λaG=>
    AC J9 f ((aG.add 1).add 1) λaH=>
    AA A P Jz #[J6 J9 aH,.int .u64 M] f λv2 u=> ∃Z:A2P,v2=J7 Z/\(
    ah (λ(s:A2P×Unit) k=>
      At (some (⟨cb,0,none⟩:Q6)) λaI=>
      AY k (aI.add 32) λQ=>
      al k (J2 #[J7 s.1,J7 (if true then jC ⟨t.kind,t.ref,t.turn⟩ C.wid else⟨#[]⟩),J3 false] AU) λaJ S=>
      BB A P (Builtin.append_ #[AQ,AQ] AQ #[J4 Q.p Q.len Q.cap,J4 (some (⟨aJ,0,none⟩:Q6)) 1 1]) S λaK aL=> ∃v:Sl,aK=J4 v.p v.len v.cap/\(
      At (some (⟨cb,0,none⟩:Q6)) λaM=>
      ab aL (aM.add 32) (J4 v.p v.len v.cap) λaN=>
      R (J1 #[]) aN)) λK=>
     ae (decide (tick>=(0:Int))) (
      At (some (⟨cb,0,none⟩:Q6)) λaO=>
      AC J9 u ((aO.add 1).add 1) λaP=>
      AA A P Nr #[J6 J9 aP,J6 J9 tick,.int .u64 M] u λaQ aR=> ∃ac:A2P,aQ=J7 ac/\(
      K (ac,()) aR)) (
      K (Z,()) u)))):=λf o q ad aS aT=>by
   refine⟨_,rfl,aF (AC.mk (CG ad.bC.af rfl) (APk T λu af=>⟨_,rfl,ah.mk λK aU=>?_⟩))⟩;have ai:=ad.on af;have key: ∀(k:aa),Ext u k->K (Ob C.ao tick q,()) k:=λk G=>by
    have E:=ai.on G;refine aU _ _ (aF (AY.mk (s:=x.au) (Cg E.bC.af rfl) ?_));refine E.bC.fC (p:=⟨Ob C.ao tick q,jC ⟨t.kind,t.ref,t.turn⟩ C.wid,false⟩) E.gL ap λS aj aV aW ak aX=>?_
    have aY:=E.step (x':= {x with au:=aj}) ak aX rfl aW;refine I S aV {x with au:=aj} o q ?_ aS (L.mod.trans (aT.trans ((af.trans G).mod.trans (E.frame ak))));unfold F3;rw[if_neg (by simp[U]),if_neg (by simp[V])];exact aY
   refine ae.intro (λb=>?_) (λb=>?_)
   ·have b:0<=tick:=by simpa using b
    obtain⟨n,rfl⟩: ∃n:Nat,tick=n:=⟨tick.toNat,by omega⟩;refine aF (AC.mk (CG ai.bC.af rfl) (APf T (by omega) λk G=>⟨_,rfl,?_⟩));have:=key k G;unfold Ob at this;rw[if_neg (by omega),As] at this;exact this
   ·have b:tick<0:=by simp at b;omega
    have:=key u Mod.refl;unfold Ob at this;rw[if_pos b] at this;exact this
  refine d.w.number d.at an ao F (λa7=>?_) λa8 f aZ am=>?_
  ·exact Y D y 0 (d.put (by omega) F H) (Hs.dp.refl y) Mod.refl
  ·have a0:Mod (bW g O) D f:=am.ai λc _ e=>⟨e.1,λa1=>e.2 (.inl a1)⟩
   exact Y f (y.j7 C.ao) _ (d.lw aZ am rfl) ⟨rfl,rfl,rfl,λm=>by
    show dC y.u C.ao (y.u C.ao+1) m<=_;unfold dC;split
    ·rename_i a2;subst a2;omega
    ·omega⟩ a0
theorem ART {t:cI}(k:CW B g h s a N sh l i y mp O cb z x C)(m:C.ao<256)(n:y.f C.ao<=2147483647)(o:y.u C.ao+1<16777216)(p:N+1<=1000000)(q:64*a<=B.C)(r:C.au.length<1000)
  (u: ∀b d e c f,CW B g b s a (N+1) sh l i c mp O cb d e (F3 C ⟨t.kind,t.ref,t.turn⟩ (-1) f)->y.dp c->Mod (bW g O) h b->R (J1 #[]) b):AA A P JE #[Az cb,t.v] h R:=by
 refine Sm ?_;unfold Mg;refine al.mk λF _ v j G=>SI.mk t (DU v rfl) (sY (k.on j) m n o p q r (by decide) λb d e c f w D E=>⟨rfl,u b d e c f w D (j.mod.trans E)⟩)
theorem sZ {t:cI}{tick:Int}(k:CW B g h s a N sh l i y mp O cb z x C)(m:C.ao<256)(n:y.f C.ao<=2147483647)(o:y.u C.ao+1<16777216)(p:N+1<=1000000)(q:64*a<=B.C)(r:C.au.length<1000)(F:tick<9223372036854775808)
  (u: ∀b d e c f,CW B g b s a (N+1) sh l i c mp O cb d e (F3 C ⟨t.kind,t.ref,t.turn⟩ (if(0:Int)>tick then 0 else tick) f)->y.dp c->Mod (bW g O) h b->R (J1 #[]) b):AA A P Hu #[Az cb,t.v,J6 J9 tick] h R:=by
 refine VQ ?_;unfold Oc;refine al.mk λG _ v j H=>SI.mk t (DU v rfl) (sY (k.on j) m n o p q r (by split<;>omega) λb d e c f w D E=>⟨rfl,u b d e c f w D (j.mod.trans E)⟩)
theorem ANW {key val:A2P}(b:CW B g h s a N sh l i y mp O cb z x C)(k:C.conds.length<1000)(m:C.au.length<1000)
  (n: ∀d o x',CW B g d s a N sh l i y mp O cb o x' (nK C key val)->Mod (bW g O) h d->R (J1 #[]) d):AA A P I7 #[Az cb,J7 key,J7 val] h R:=by
 refine Sj ?_;unfold MP;dsimp only[At];refine AY.mk (s:=x.conds) (Cg b.bC.af rfl) ?_;refine b.bC.gZ (p:=⟨key,⟨#[]⟩,true⟩) b.gL k λF e G q f r=>?_
 have c:=b.step (x':= {x with conds:=e}) f r rfl q;refine AY.mk (s:=x.au) (Cg c.bC.af rfl) ?_;refine c.bC.fC (p:=⟨key,val,false⟩) c.gL m λt u v w j D=>?_
 have E:=c.step (x':= {x with conds:=e,au:=u}) j D rfl w;exact n t v _ E ((b.frame f).trans (c.frame j))
theorem AQp(u:CW B g h s a N sh l i y mp O cb z x C)(M:0<=C.st.next/\C.st.next<=501)
  (v: ∀n,Ext h n->R (⟨0,(Dk C).1,(Dk C).2,⟨0,⟨#[]⟩,0,0⟩,⟨#[]⟩,⟨none,0,0⟩⟩:bT).v n):AA A P Gr #[Az cb] h R:=by
 refine QC ?_;unfold KT;refine al.mk λo _ w p Q=>?_
 have b:=(u.on p).bC;refine aF (AC.mk (CG b.af rfl) (ah.mk λK D=>?_));have q: ∀nx:Int,nx=(Dk C).2->K (nx,()) o:=λnx E=>by
  subst E;refine D _ _ (aF (AC.mk (CG b.af rfl) (aP.mk w (A0 9) λF G H S=>?_)));refine Dj.mk ⟨0,C.st.status,(Dk C).2,⟨0,⟨#[]⟩,0,0⟩,⟨#[]⟩,⟨none,0,0⟩⟩ (DU G rfl) ?_;exact v F (p.more H λc I=>by subst I;exact A0 _)
 refine ah.mk λJ L=>?_
 have key: ∀j:Bool,j=G9 C->J (j,()) o:=λj r=>by
  refine L _ _ (ae.intro (λd=>?_) (λd=>?_))
  ·have d:j=true:=d;rw[wrap_i64 (by omega) (by omega)];refine q _ ?_;unfold Dk;rw[if_pos (by rw[<- r];exact d)]
  ·have d:j=false:=d;refine q _ ?_;unfold Dk;rw[if_neg (by rw[<- r,d];decide)]
 have t:=b.more.len;unfold G9 at key;refine aF (AY.mk (s:=x.more) (Cg b.af rfl) (ae.intro (λe=>?_) (λe=>?_)));rotate_left
 ·have e:C.more= []:=by simp at e;exact CD (by omega)
  exact key _ (by simp[e])
 have e:C.more≠ []:=λh=>by rw[h] at t;simp[t] at e
 refine aF (AC.mk (CG b.af rfl) (ae.intro (λk=>?_) (λk=>key _ (by simp at k;simp[k]))));refine aF (Ac.mk (CG b.af rfl) (ae.intro (λf=>?_) (λf=>key _ (by have f:C.st.fresh=false:=f;simp[f]))));have f:C.st.fresh=true:=f;refine aF (AC.mk (CG b.af rfl) (ae.intro (λm=>?_) (λm=>key _ (by simp at m;simp[m]))));refine aF (AC.mk (CG b.af rfl) (key _ ?_));simp at k m;simp[e,k,f,m];rfl
end
def XU:Ev:=⟨0,2,0,0,0,0,false,⟨#[]⟩⟩
def FH(C:bD)(b:Nat):bD:=if G9 C then F3 (Eu C XU) ⟨1,km (Eu C XU),0⟩ (-1) b else C
def ta(C:bD):Int:=if(0:Int)>C.now+20 then 0 else C.now+20
def BP(C:bD)(b c:Nat):bD:=if C.more≠ []/\(FH C b).st.status≠0 then F3 (FH C b) ⟨7,0,0⟩ (ta C) c else FH C b
end Go.Lf.G
namespace Go.Lf
open G
open Go
open M (Sorted Ag Cs BC Ah Aw Be Am bH BK aV BU)
structure bD.grown (C D:bD) (n k j:Nat):Prop where
 wid:D.wid=C.wid
 ao:D.ao=C.ao
 cD:D.cD=C.cD
 cq:D.cq=C.cq
 kept:D.kept=C.kept
 conds:D.conds=C.conds
 now:D.now=C.now
 more:D.more.length<=C.more.length+k
 none:C.more≠ []->D.more≠ []
 au:D.au.length<=C.au.length+j
 ok: ∀e∈D.more,FQ e=true/\e.data.size<1099511627776
 st:ER D.st n
end Go.Lf
namespace Go.Lf.G
open Go
open M (Sorted Ag Cs BC Ah Aw Be Am bH BK aV BU)
theorem I1(C:bD)(t:gG)(tick:Int)(b:Nat):(F3 C t tick b).st=C.st/\(F3 C t tick b).more=C.more:=by
 unfold F3;split
 ·exact⟨rfl,rfl⟩
 ·split<;>exact⟨rfl,rfl⟩
theorem Wm {C b:bD}{r u v:Nat}(G:C.grown b r u v)(t:gG)(tick:Int)(w:Nat):C.grown (F3 b t tick w) r u (v+1):=by
 obtain⟨c,d,e,f,j,k,m,n,o,D,p,q⟩:=G;unfold F3;split
 ·exact⟨c,d,e,f,j,k,m,n,o,by omega,p,q⟩
 ·split
  ·exact⟨c,d,e,f,j,k,m,n,o,by show b.au.length<=_;omega,p,q⟩
  ·exact⟨c,d,e,f,j,k,m,n,o,by show(b.au++ [_]).length<=_;rw[A1,Dd];omega,p,q⟩
theorem WY {C:bD}{b:Nat}(ok: ∀c∈C.more,FQ c=true/\c.data.size<1099511627776)(d:ER C.st b):C.grown C b 0 0:=⟨rfl,rfl,rfl,rfl,rfl,rfl,rfl,A0 _,id,A0 _,ok,d⟩
end Go.Lf.G
namespace Go.Lf
open G
open Go
open M (Sorted Ag Cs BC Ah Aw Be Am bH BK aV BU)
theorem ER.up {s:bj}{c m:Nat}(b:ER s c)(h:c<=m):ER s m:=⟨by have:=b.aw;omega,by have:=b.aj;omega,b.steps,b.ar,b.ba,b.next,b.st,b.waits⟩
end Go.Lf
namespace Go.Lf.G
open Go
open M (Sorted Ag Cs BC Ah Aw Be Am bH BK aV BU)
theorem Lu {C b:bD}{v w D:Nat}(G:C.grown b v w D){e:Ev}(hd:e.data.size<1099511627776):C.grown (Eu b e) (v+1) (w+1) D:=by
 obtain⟨c,d,f,j,k,m,n,E,t,o,p,q⟩:=G;unfold Eu;split
 ·exact⟨c,d,f,j,k,m,n,by omega,t,o,p,q.up (BT _)⟩
 ·split
  ·exact⟨c,d,f,j,k,m,n,by show b.more.length<=_;omega,t,o,p,q.up (BT _)⟩
  ·split
   ·exact⟨c,d,f,j,k,m,n,by show b.more.length<=_;omega,t,o,p,q.up (BT _)⟩
   ·rename_i r;have r:(Bj b.st (Ct b e)).1=0:=by simpa using r
    refine⟨c,d,f,j,k,m,n,by show(b.more++ [_]).length<=_;rw[A1,Dd];omega,λ_=>by show b.more++ [_]≠ [];simp,o,λx u=>?_,Ta q r⟩;have u:x∈b.more++ [Ct b e]:=u;rcases List.mem_append.1 u with h|h
    ·exact p x h
    ·rw[List.mem_singleton.1 h];exact⟨QS r,hd⟩
structure Hs.dI (y y':Hs):Prop where
 p:y'.p=y.p
 name:y'.name=y.name
 f:y'.f=y.f
 u: ∀m,y'.u m<=y.u m+2
section
variable {A : ak} {B : cJ} {g h : aa} {s a N sh cb : Nat} {l : List Hs} {mp : List Pr} {O : Nat -> Prop} {i : Nat} {y : Hs} {z : Nat -> Nat} {x : eW} {C : bD} {R : A2O}
theorem FU.ptr {p:Nat}(b:FU h cb z x C)(c:x.hp=p):ag h (⟨cb,0,none⟩:Q6)=some (Az p):=by have:=Cg (j:=0) b.af rfl;rw[add_zero,c] at this;exact this
theorem FU.rC(b:FU h cb z x C):Cells h (((⟨cb,0,none⟩:Q6).add 1).add 2) (⟨C.cD,C.cq,C.kept⟩:cO).l:=by have c:((⟨cb,0,none⟩:Q6).add 1).add 2=⟨cb,3,none⟩:=rfl;rw[c];exact DU b.af rfl
end
end Go.Lf.G
namespace Go.Lf
open G
open Go
open M (Sorted Ag Cs BC Ah Aw Be Am bH BK aV BU)
theorem Cells.rD {h:aa}{a:Q6}{t:cO}(c:Cells h a t.l):ag h a=some (J6 J9 t.status)/\ag h (a.add 1)=some (J6 J9 t.next)/\ag h (a.add 2)=some (J3 t.kept):=by have b:=c 0 _ rfl;rw[add_zero] at b;exact⟨b,c 1 _ rfl,c 2 _ rfl⟩
end Go.Lf
namespace Go.Lf.G
open Go
open M (Sorted Ag Cs BC Ah Aw Be Am bH BK aV BU)
section
variable {A : ak} {B : cJ} {g h : aa} {s a N sh cb : Nat} {l : List Hs} {mp : List Pr} {O : Nat -> Prop} {i : Nat} {y : Hs} {z : Nat -> Nat} {x : eW} {C : bD} {R : A2O}
theorem AQu {o:aa}{d:bD}(E:cp g)(k:CW B g o s a N sh l i y mp O cb z x d)(aV:Ai d.wid=true)(bE: ∀u∈d.more,FQ u=true/\u.data.size<1099511627776)(bF:d.ao<256)(bG:y.f d.ao<=2147483647)(hA:4+3*a<=B.A)(bH:64*a+64<=B.C)(bI:a+1<=1000000)
  (c5:d.more.length<=900) (c6:d.au.length<=900) (c7:d.conds.length<=900) (bJ: ∀p∈d.conds,p.key.size<=1099511627776) (c8:0<=d.cD/\d.cD<128) (aW:0<=d.cq/\d.cq<=501) (aX:0<=d.st.status/\d.st.status<=4) (aY:0<=d.st.next/\d.st.next<=501)
  (bK:d.err≠0-> ∀e,LW B g e s a N sh (l.set i y) mp O->Mod (bW g O) o e->R (J6 J9 d.err) e)
  (bL:d.err=0->y.f d.ao=0-> ∀e,LW B g e s a N sh (l.set i y) mp O->Mod (bW g O) o e->R (J6 J9 170) e)
  (bM:d.err=0->y.f d.ao≠0->CK mp (Fx d.ao (y.f d.ao) y.name)=false-> ∀e,LW B g e s a N sh (l.set i (y.lost d.ao)) mp O->Mod (bW g O) o e->R (J6 J9 170) e)
  (bN:d.err=0->y.f d.ao≠0->CK mp (Fx d.ao (y.f d.ao) y.name)=true->dE mp (Fx d.ao (y.f d.ao) y.name::(d.conds++ [bB d])) (FX d++d.au)≠0-> ∀e,LW B g e s a N sh (l.set i y) mp O->Mod (bW g O) o e->R (J6 J9 (dE mp (Fx d.ao (y.f d.ao) y.name::(d.conds++ [bB d])) (FX d++d.au))) e)
  (bO:d.err=0->y.f d.ao≠0->CK mp (Fx d.ao (y.f d.ao) y.name)=true->dE mp (Fx d.ao (y.f d.ao) y.name::(d.conds++ [bB d])) (FX d++d.au)=0-> ∀e,LW B g e s (a+1) N sh (l.set i y) (dc mp (FX d++d.au)) O->Mod (bW g O) o e->R (J6 J9 0) e):
  At (some (⟨cb,0,none⟩:Q6)) λbP=>
    AC J9 o (bP.add 34) λbQ=>
    ae (bQ != (0:Int)) (
     At (some (⟨cb,0,none⟩:Q6)) λbR=>
     AC J9 o (bR.add 34) λbS=>
     R (J6 J9 bS) o) (
     At (some (⟨cb,0,none⟩:Q6)) λbT=>
     AJ o (bT.add 1) λbU=>
     AA A P GL #[J7 bU] o λv1 aX=> ∃aZ:A2P,v1=J7 aZ/\(
     al aX (J2 #[J7 (⟨#[]⟩:A2P),J7 (⟨#[]⟩:A2P),J3 false] AU) λb aY=>
     ab aY (⟨b,0,none⟩:Q6) (J7 aZ) λbV=>
     ab bV ((⟨b,0,none⟩:Q6).add 1) (J7 (⟨#[]⟩:A2P)) λbX=>
     ab bX ((⟨b,0,none⟩:Q6).add 2) (J3 true) λD=>
     ah (λ(c9:Unit) v=>
       At (some (⟨cb,0,none⟩:Q6)) λbY=>
       AJ v (bY.add 1) λbZ=>
       At (some (⟨cb,0,none⟩:Q6)) λb0=>
       AY v (b0.add 31) λaA=>
       AA A P PK #[J7 bZ,J4 aA.p aA.len aA.cap] v λv2 w=> ∃F:Sl,∃aC:Int,v2=J1 #[J4 F.p F.len F.cap,J6 J9 aC]/\(
       ae (aC != (0:Int)) (
        R (J6 J9 aC) w) (
        ah (λ(aD:Sl×Unit) q=>
          At (some (⟨cb,0,none⟩:Q6)) λaf=>
          Ab q af λai=>
          At (some (⟨cb,0,none⟩:Q6)) λaj=>
          AC J9 q ((aj.add 1).add 1) λak=>
          At (some (⟨cb,0,none⟩:Q6)) λa0=>
          AY q (a0.add 33) λL=>
          AJ q (⟨b,0,none⟩:Q6) λb1=>
          AJ q ((⟨b,0,none⟩:Q6).add 1) λb2=>
          Ac q ((⟨b,0,none⟩:Q6).add 2) λb3=>
          al q (J2 #[J7 b1,J7 b2,J3 b3] AU) λb4 I=>
          And (ag I (a0.add 33)=some (J4 L.p L.len L.cap))<|
          And (ag I ((aj.add 1).add 1)=some (J6 J9 ak))<|
          And (ag I af=some (J5 ai))<|
          BB A P (Builtin.append_ #[AQ,AQ] AQ #[J4 L.p L.len L.cap,J4 (some (⟨b4,0,none⟩:Q6)) 1 1]) I λb5 J=> ∃M:Sl,b5=J4 M.p M.len M.cap/\(
          And (ag J ((aj.add 1).add 1)=some (J6 J9 ak))<|
          And (ag J af=some (J5 ai))<|
          At (some (⟨cb,0,none⟩:Q6)) λaE=>
          AY J (aE.add 32) λG=>
          And (ag I (aE.add 32)=some (J4 G.p G.len G.cap))<|
          And (ag q (aE.add 32)=some (J4 G.p G.len G.cap))<|
          BB A P (Builtin.append_ #[AQ,AQ] AQ #[J4 aD.1.p aD.1.len aD.1.cap,J4 G.p G.len G.cap]) J λb6 t=> ∃Q:Sl,b6=J4 Q.p Q.len Q.cap/\(
          And (ag t ((aj.add 1).add 1)=some (J6 J9 ak))<|
          And (ag t af=some (J5 ai))<|
          AA A P Hy #[J5 ai,J6 J9 ak,J4 M.p M.len M.cap,J4 Q.p Q.len Q.cap] t λb7 b8=> ∃a1:Int,b7=J6 J9 a1/\(
          R (J6 J9 a1) b8)))) λam=>
         At (some (⟨cb,0,none⟩:Q6)) λb9=>
         AY w (b9.add 31) λca=>
         ae (decide (((ca.len:Nat):Int)>(0:Int))) (
          At (some (⟨cb,0,none⟩:Q6)) λa2=>
          AC J9 w ((a2.add 19).add 2) λa3=>
          At (some (⟨cb,0,none⟩:Q6)) λa4=>
          AC J9 w ((a4.add 19).add 3) λa5=>
          al w (J2 cO.z.c JD) λV an=>
          And (ag an ((a4.add 19).add 3)=some (J6 J9 a5))<|
          And (ag an ((a2.add 19).add 2)=some (J6 J9 a3))<|
          aP an (⟨V,0,none⟩:Q6) (⟨a3,a5,false⟩:cO).l λK=>
          At (some (⟨cb,0,none⟩:Q6)) λcc=>
          AJ K (cc.add 1) λcd=>
          AA A P GL #[J7 cd] K λce a6=> ∃a7:A2P,ce=J7 a7/\(
          OE a6 (⟨V,0,none⟩:Q6) λao=>
          And (ag K (⟨V,0,none⟩:Q6)=some (J6 J9 ao.status)/\ag K ((⟨V,0,none⟩:Q6).add 1)=some (J6 J9 ao.next)/\ag K ((⟨V,0,none⟩:Q6).add 2)=some (J3 ao.kept))<|
          AA A P Ey #[ao.v] a6 λcf a8=> ∃a9:A2P,cf=J7 a9/\(
          al a8 (J2 #[J7 a7,J7 a9,J3 false] AU) λcg ch=>
          BB A P (Builtin.append_ #[AQ,AQ] AQ #[J4 F.p F.len F.cap,J4 (some (⟨cg,0,none⟩:Q6)) 1 1]) ch λci aG=> ∃S:Sl,ci=J4 S.p S.len S.cap/\(
          am ((⟨S.p,S.len,S.cap⟩:Sl),()) aG)))) (
          am ((⟨F.p,F.len,F.cap⟩:Sl),()) w)))) λap=>
      At (some (⟨cb,0,none⟩:Q6)) λcj=>
      AC J9 D (((cj.add 1).add 2).add 1) λck=>
      ae (decide (ck>(0:Int))) (
       At (some (⟨cb,0,none⟩:Q6)) λcl=>
       AJ D (cl.add 1) λcm=>
       AA A P GL #[J7 cm] D λcn ba=> ∃bb:A2P,cn=J7 bb/\(
       At (some (⟨cb,0,none⟩:Q6)) λaq=>
       OE ba ((aq.add 1).add 2) λar=>
       And (ag D ((aq.add 1).add 2)=some (J6 J9 ar.status)/\ag D (((aq.add 1).add 2).add 1)=some (J6 J9 ar.next)/\ag D (((aq.add 1).add 2).add 2)=some (J3 ar.kept))<|
       AA A P Ey #[ar.v] ba λco bc=> ∃bd:A2P,co=J7 bd/\(
       ab bc (⟨b,0,none⟩:Q6) (J7 bb) λbe=>
       ab be ((⟨b,0,none⟩:Q6).add 1) (J7 bd) λbf=>
       ab bf ((⟨b,0,none⟩:Q6).add 2) (J3 false) λaH=>
       ap () aH))) (
       ap () D))):=by
 have cq: ∀ {e:aa},CW B g e s a N sh l i y mp O cb z x d->LW B g e s a N sh (l.set i y) mp O:=λcr=>cr.w.less λc f=> .inl f
 refine aF (AC.mk (n:=d.err) (Cg k.bC.af rfl) (ae.intro (λr=>?_) (λr=>?_)))
 ·exact aF (AC.mk (n:=d.err) (Cg k.bC.af rfl) (bK (by simpa using r) o (cq k) Mod.refl))
 have au:d.err=0:=by simpa using r
 have da:=Dw aV;refine aF (AJ.mk (n:=d.wid) (Cg k.bC.af rfl) (mR (by omega) ⟨_,rfl,?_⟩));refine al.pair λb D db bg aI dd=>?_
 have av:=k.on aI;refine ah.mk λap cs=>?_
 have bh: ∀v,Ext o v->v[b]? =some (J2 #[J7 (bB d).key,J7 (bB d).val,J3 (bB d).gone] AU (0,0))->ap () v:=λv aJ ct=>by
  have W:=k.on aJ;refine cs _ _ (aF (AJ.mk (n:=d.wid) (Cg W.bC.af rfl) (aF (AY.mk (s:=x.more) (Cg W.bC.af rfl) ?_))));refine ARQ aV W.bC.more.view (by omega) bE λps w aK aL aw=>⟨_,_,rfl,ae.no rfl ?_⟩
  have T:=W.on aw;refine ah.mk λam cu=>?_
  have bi: ∀q (sl:Sl),Ext v q->Own BR AU q sl (FX d)->(∀ c,sl.af=some c->v.size<=c)->am (sl,()) q:=λq sl ax aM X=>by
   have Y:=W.on ax;have aN:=ax.af ct λh=>h
   refine cu _ _ (aF (Ab.mk (Y.bC.ptr k.hp) (aF (AC.mk (CG Y.bC.af rfl) (aF (AY.mk (s:=x.conds) (Cg Y.bC.af rfl) ?_))))));refine AJ.mk (AL aN rfl) (AJ.mk (AB aN rfl) (Ac.mk (AB aN rfl) (al.mk λI _ cv Z de=>?_)));have H:=Y.on Z;refine⟨Cg H.bC.af rfl,CG H.bC.af rfl,H.bC.ptr k.hp,?_⟩;have src:View BR I ⟨some ⟨q.size,0,none⟩,1,1⟩ [bB d]:=(Own.lit (E:=BR) (l:= [bB d]) cv rfl (by simp[maxLen])).view;refine Gd (E:=BR) (s:=x.conds) (src:=⟨some ⟨q.size,0,none⟩,1,1⟩) Hz H.bC.conds src (by simp only[Dd];omega) (by simp only[Dd,maxLen];omega) λcw J cx ac cy _=>?_
   have bj: ∀c aO,z c=aO->aO≠4-> ¬x.conds.af=some c:=λc aO bk aW u=>by rw[H.bC.zq c u] at bk;exact aW bk.symm
   have ay:=ac.af H.bC.af (bj cb 1 k.bC.zc (by decide));have cz:ag J (⟨cb,0,none⟩:Q6)=some (Az y.p):=by have:=Cg (j:=0) ay rfl;rw[add_zero,k.hp] at this;exact this
   refine⟨CG ay rfl,cz,aF (AY.mk (s:=x.au) (Cg ay rfl) ⟨Cg H.bC.af rfl,Cg Y.bC.af rfl,?_⟩)⟩;have cB:Own BR AU J x.au d.au:=H.bC.au.mod ac λc f=>bj c 3 (H.bC.zp c f) (by decide)
   have df:=aJ.size;have dg:=ax.size;have dh:=Z.size;have di:=ac.size;have cC:Own BR AU J sl (FX d):=(aM.ext Z).mod ac λc f u=>by
    have:=k.gL c (by rw[k.bC.zq c u];decide);have:=X c f;omega
   have dj:(FX d).length<=901:=by unfold FX;rw[A1,BE];split<;>simp<;>omega
   refine Gd (E:=BR) (s:=sl) (src:=x.au) Hz cC cB.view (by omega) (by simp only[maxLen];omega) λdk t bm az cD _=>?_
   have cE: ∀c,sl.af=some c-> ¬c=cb:=λc f u=>by
    have:=X c f;have:=k.gL cb (by rw[k.bC.zc];decide);omega
   have bn:=az.af ay (λf=>cE cb f rfl);have cF:ag t (⟨cb,0,none⟩:Q6)=some (Az y.p):=by have:=Cg (j:=0) bn rfl;rw[add_zero,k.hp] at this;exact this
   refine⟨CG bn rfl,cF,?_⟩;have cG:Ext o I:=(aJ.trans ax).trans Z;have bo:Mod (λc=>z c≠0) o t:=(cG.mod.trans (ac.ai λc _ f=>by rw[k.bC.zq c f];decide)).then (az.ai λc _ f=> .inr (by have:=X c f;omega));have dl:=az.size;have aQ:LW B g t s a N sh (l.set i y) mp (λc=>(O c\/z c≠0)\/(o.size<=c/\c<t.size)):=k.w.own (bo.ai λc _ f=> .inr f) λc f=>f
   have aR:Mod (bW g O) o t:=k.frame bo;have less: ∀ {e:aa} {bp:Nat} {bq:List Hs} {br:List Pr},LW B g e s bp N sh bq br (λc=>(O c\/z c≠0)\/(o.size<=c/\c<t.size))->LW B g e s bp N sh bq br O:=λU=>U.less λc f=> .inl (.inl f)
   have bs: ∀ {e:aa},Mod (bW g (λc=>(O c\/z c≠0)\/(o.size<=c/\c<t.size))) t e->Mod (bW g O) o e:=λm=>aR.trans (m.ai λc _ f=>⟨f.1,λcH=>f.2 (.inl (.inl cH))⟩)
   have cI:Own BR AU t cw (d.conds++ [bB d]):=cx.mod az λc f u=>by
    have:=X c u;rcases cy c f with h|h
    ·have:=k.gL c (by rw[k.bC.zq c h];decide);omega
    ·have:=(aM.ext Z).lt u;have:=aM.lt u;omega
   refine aQ.change E k.at bF bG hA bH bI cI.view (by rw[A1,Dd];omega) bm.view (λ_ c f=>?_) (λp cJ=>?_) (λcK=>?_) (λad cL e U aS=>?_) (λad aT hd e bt=>?_) λad aT cM e U aS=>?_
   ·have lt:=bm.lt f;rcases cD c f with h|h
    ·have:=X c h;exact .inr (.inr ⟨by omega,lt⟩)
    ·exact .inr (.inr ⟨by omega,lt⟩)
   ·rcases List.mem_append.1 cJ with h|h
    ·exact bJ p h
    ·rw[List.mem_singleton.1 h];unfold bB;have:=Ri d.wid;split<;>(dsimp only;omega)
   ·exact⟨_,rfl,bL au cK t (less aQ) aR⟩
   ·rw[List.set_set] at U;exact⟨_,rfl,bM au ad cL e (less U) (bs aS)⟩
   ·exact⟨_,rfl,bN au ad aT hd e (less (aQ.on bt)) (aR.trans bt.mod)⟩
   ·exact⟨_,rfl,bO au ad aT cM e (less U) (bs aS)⟩
  have bu:=T.bC.more.len;refine aF (AY.mk (s:=x.more) (Cg T.bC.af rfl) (ae.intro (λr=>?_) (λr=>?_)))
  ·have cN:d.more≠ []:=λh=>by rw[h] at bu;simp[bu] at r
   refine aF (AC.mk (CG T.bC.af rfl) (aF (AC.mk (CG T.bC.af rfl) (al.mk λan _ cP bv dm=>?_))));have bw:=T.on bv;refine⟨CG bw.bC.af rfl,CG bw.bC.af rfl,aP.mk cP (A0 3) λK cQ cR dn=>?_⟩;have bx:Ext w K:=bv.more cR λc f=>by subst f;exact A0 _
   have cS:=T.on bx;have bz:Cells K (⟨w.size,0,none⟩:Q6) (⟨d.st.status,d.st.next,false⟩:cO).l:=DU cQ rfl;refine aF (AJ.mk (n:=d.wid) (Cg cS.bC.af rfl) (mR (by omega) ⟨_,rfl,OE.mk ⟨d.st.status,d.st.next,false⟩ bz ⟨bz.rD,?_⟩⟩));refine sW (m:=⟨d.st.status,d.st.next,false⟩) (st:=d.st.status.toNat) (nx:=d.st.next.toNat) (by show d.st.status=_;omega) (by show d.st.next=_;omega) (by omega) (by omega) λa8 cT=>⟨_,rfl,?_⟩
   have aU:=bx.trans cT;refine al.aZ (E:=BR) (x:=⟨Kz d.wid,QL d.st.status.toNat d.st.next.toNat false,false⟩) (s:=ps) rfl Hz (aK.ext aU) (by simp only[BE];omega) (by simp only[BE,maxLen];omega) λcU aG cV cW cX _=>?_
   refine bi aG cU ((aw.trans aU).more cW aL) ?_ λc f=>?_
   ·unfold FX;rw[if_neg cN];exact cV
   ·rcases cX c f with h|h
    ·exact aL c h
    ·have:=aU.size;have:=aw.size;omega
  ·have bA:d.more= []:=by simp at r;exact CD (by omega)
   refine bi w ps aw ?_ aL;unfold FX;rw[bA,if_pos rfl,AN];rw[bA] at aK;exact aK
 refine aF (AC.mk (AQt av.bC.af rfl) (ae.intro (λr=>?_) (λr=>?_)))
 ·have r:0<d.cq:=by simpa using r
  refine aF (AJ.mk (n:=d.wid) (Cg av.bC.af rfl) (mR (by omega) ⟨_,rfl,aF (OE.mk ⟨d.cD,d.cq,d.kept⟩ av.bC.rC ⟨av.bC.rC.rD,?_⟩)⟩));refine sW (m:=⟨d.cD,d.cq,d.kept⟩) (st:=d.cD.toNat) (nx:=d.cq.toNat) (by show d.cD=_;omega) (by show d.cq=_;omega) (by omega) (by omega) λbc bC=>⟨_,rfl,?_⟩
  have cY:=bC.af bg λh=>h
  refine ab.bQ (j:=0) cY (of_decide_eq_true rfl) rfl λbe cZ c0 dp=>ab.bQ (j:=1) cZ (of_decide_eq_true rfl) rfl λbf c1 c2 dq=>ab.bQ (j:=2) c1 (of_decide_eq_true rfl) rfl λaH c3 c4 dr=>?_
  refine bh aH ((aI.trans bC).more ((c0.trans c2).trans c4) λc f=>by subst f;omega) ?_;unfold bB;rw[if_pos r];exact c3
 ·have r: ¬0<d.cq:=by simpa using r
  refine bh D aI ?_;unfold bB;rw[if_neg r];exact bg
end
section
variable {A : ak} {B : cJ} {g h : aa} {s a N sh cb : Nat} {l : List Hs} {mp : List Pr} {O : Nat -> Prop} {i : Nat} {y : Hs} {z : Nat -> Nat} {x : eW} {C : bD} {R : A2O}
theorem tc {b:Nat}(ok: ∀e∈C.more,FQ e=true/\e.data.size<1099511627776)(d:ER C.st b)(f:Nat):C.grown (FH C f) (b+1) 1 1:=by
 have c:=WY ok d;unfold FH;split
 ·exact Wm (Lu c (e:=XU) (by show 0<1099511627776;decide)) _ _ _
 ·obtain⟨j,k,m,n,o,p,q,v,r,w,t,u⟩:=c;exact⟨j,k,m,n,o,p,q,by omega,r,by omega,t,u.up (BT _)⟩
theorem td {n:Nat}(ok: ∀b∈C.more,FQ b=true/\b.data.size<1099511627776)(e:ER C.st n)(c f:Nat):C.grown (BP C c f) (n+1) 1 2:=by
 have d:=tc ok e c;unfold BP;split
 ·exact Wm d _ _ _
 ·obtain⟨j,k,m,o,p,q,r,t,u,D,v,w⟩:=d;exact⟨j,k,m,o,p,q,r,t,u,by omega,v,w⟩
theorem ANL {af:Nat}(ap:cp g)(n:CW B g h s a N sh l i y mp O cb z x C)(Q:ER C.st af)(aX:af+1<=600)(aq:Ai C.wid=true)(V: ∀e∈C.more,FQ e=true/\e.data.size<1099511627776)(W:C.ao<256)(X:y.f C.ao<=2147483647)(aY:y.u C.ao+2<16777216)(Y:N+2<=1000000)
  (hA:4+3*a<=B.A) (ar:64*a+64<=B.C) (au:a+1<=1000000) (aZ:C.more.length<=800) (a0:C.au.length<=800) (a1:C.conds.length<=800) (av: ∀p∈C.conds,p.key.size<=1099511627776) (aw:0<=C.cD/\C.cD<128) (ag:0<=C.cq/\C.cq<=501) (a2: -4611686018427387904<=C.now/\C.now<=4611686018427387904)
  (ax:y.f C.ao=0->R (J6 J9 170) h)
  (ay: ∀b c d j,y.dI d->(BP C b c).err≠0->LW B g j s a (N+2) sh (l.set i d) mp O->Mod (bW g O) h j->R (J6 J9 (BP C b c).err) j)
  (az: ∀b c d j,y.dI d->(BP C b c).err=0->CK mp (Fx C.ao (y.f C.ao) y.name)=false->LW B g j s a (N+2) sh (l.set i (d.lost C.ao)) mp O->Mod (bW g O) h j->R (J6 J9 170) j)
  (aA: ∀b c d j,y.dI d->(BP C b c).err=0->CK mp (Fx C.ao (y.f C.ao) y.name)=true->dE mp (Fx C.ao (y.f C.ao) y.name::(C.conds++ [bB C])) (FX (BP C b c)++(BP C b c).au)≠0->LW B g j s a (N+2) sh (l.set i d) mp O->Mod (bW g O) h j->R (J6 J9 (dE mp (Fx C.ao (y.f C.ao) y.name::(C.conds++ [bB C])) (FX (BP C b c)++(BP C b c).au))) j)
  (aC: ∀b c d j,y.dI d->(BP C b c).err=0->CK mp (Fx C.ao (y.f C.ao) y.name)=true->dE mp (Fx C.ao (y.f C.ao) y.name::(C.conds++ [bB C])) (FX (BP C b c)++(BP C b c).au)=0->LW B g j s (a+1) (N+2) sh (l.set i d) (dc mp (FX (BP C b c)++(BP C b c).au)) O->Mod (bW g O) h j->R (J6 J9 0) j):
  AA A P Hl #[Az cb] h R:=by
 refine Qt ?_;unfold Kb;have I:64*a<=B.C:=by omega
 refine aF (Ab.mk (n.bC.ptr n.hp) (aF (AC.mk (CG n.bC.af rfl) (n.w.holds n.at ⟨_,rfl,ae.intro (λf=>ax (by simpa using f)) λf=>?_⟩))));have aD:y.f C.ao≠0:=by simpa using f
 refine ah.mk λK aE=>?_
 have Z: ∀(o:aa) (E:Nat->Nat) (F:eW) (d:Hs) (b c:Nat),CW B g o s a (N+2) sh l i d mp O cb E F (BP C b c)->y.dI d->Mod (bW g O) h o->K () o:=λo E F d b c H k u=>by
  have G:=td V Q b c;have ab:d.f (BP C b c).ao=y.f C.ao:=by rw[k.f,G.ao]
  have ac:Fx (BP C b c).ao (d.f (BP C b c).ao) d.name=Fx C.ao (y.f C.ao) y.name:=by rw[ab,G.ao,k.name]
  have ai:bB (BP C b c)=bB C:=by unfold bB;rw[G.cq,G.cD,G.kept,G.wid]
  refine aE _ _ (AQu ap H (by rw[G.wid];exact aq) G.ok (by rw[G.ao];exact W) (by rw[ab];exact X) hA ar au (by have:=G.more;omega) (by have:=G.au;omega) (by rw[G.conds];omega) (by rw[G.conds];exact av) (by rw[G.cD];exact aw) (by rw[G.cq];exact ag) G.st.st G.st.next
   (λv j q w=>ay b c d j k v q (u.trans w)) (λ_ aG=>absurd (by rw[<- ab];exact aG) aD) (λv _ r j q w=>?_) (λv _ r hd j q w=>?_) λv _ r hd j q w=>?_)
  ·rw[ac] at r;rw[G.ao] at q;exact az b c d j k v r q (u.trans w)
  ·rw[ac] at r hd ⊢;rw[ai,G.conds] at hd ⊢;exact aA b c d j k v r hd q (u.trans w)
  ·rw[ac] at r hd;rw[ai,G.conds] at hd;exact aC b c d j k v r hd q (u.trans w)
 have aj:=n.bC.more.len;have aH:y.dI y:=⟨rfl,rfl,rfl,λm=>by omega⟩;refine aF (AY.mk (s:=x.more) (Cg n.bC.af rfl) (ae.intro (λf=>?_) (λf=>?_)));rotate_left
 ·have f:C.more= []:=by simp at f;exact CD (by omega)
  refine Z h z x y 0 0 ?_ aH Mod.refl;have aI:FH C 0=C:=by unfold FH G9;rw[f];rfl
  have:BP C 0 0=C:=by unfold BP;rw[aI,if_neg λh=>h.1 f]
  rw[this];exact n.put (by omega) Y I
 have ak:C.more≠ []:=λh=>by rw[h] at aj;simp[aj] at f
 refine ah.mk λaJ aK=>?_
 have al: ∀(o:aa) (E:Nat->Nat) (F:eW) (d:Hs) (b:Nat),CW B g o s a (N+1) sh l i d mp O cb E F (FH C b)->y.dp d->Mod (bW g O) h o->aJ () o:=λo E F d b H k u=>by
  have G:=tc V Q b;refine aK _ _ (aF (AC.mk (CG H.bC.af rfl) (ae.intro (λf=>?_) (λf=>?_))))
  ·have f:(FH C b).st.status≠0:=by simpa using f
   refine aF (AC.mk (Cg H.bC.af rfl) ?_);rw[G.now,wrap_i64 (by omega) (by omega)];refine sZ (t:=⟨7,⟨#[]⟩,0,0⟩) H (by rw[G.ao];exact W) (by rw[k.f,G.ao];exact X) (by rw[G.ao];have:=k.u C.ao;omega) Y I (by have:=G.au;omega) (by omega) λj am an aL c S T aM=>⟨rfl,?_⟩
   refine Z j am an aL b c ?_ ⟨T.p.trans k.p,T.name.trans k.name,T.f.trans k.f,λm=>by have:=k.u m;have:=T.u m;omega⟩ (u.trans aM);have e:BP C b c=F3 (FH C b) ⟨7,0,0⟩ (ta C) c:=by unfold BP;rw[if_pos ⟨ak,f⟩]
   rw[e];exact S
  ·have f:(FH C b).st.status=0:=by simpa using f
   refine Z o E F d b 0 ?_ ⟨k.p,k.name,k.f,λm=>by have:=k.u m;omega⟩ u;have e:BP C b 0=FH C b:=by unfold BP;rw[if_neg λh=>h.2 f]
   rw[e];exact H.put (by omega) Y I
 refine ah.mk λaN aO=>?_
 have J: ∀ad:Bool,ad=G9 C->aN (ad,()) h:=λad ao=>by
  refine aO _ _ (ae.intro (λf=>?_) (λf=>?_))
  ·have f:G9 C=true:=by rw[<- ao];exact f
   refine lj (e:=XU) n Q (by omega) (by show 0<1099511627776;decide) (by omega) λag am an S aP=>⟨rfl,?_⟩
   have G:=Lu (WY V Q) (e:=XU) (by show 0<1099511627776;decide);have nx:=G.st.next;refine AP4 S G.st.next ⟨_,rfl,?_⟩;refine ART (t:=⟨1,⟨#[]⟩,km (Eu C XU),0⟩) S (by rw[G.ao];exact W) (by rw[G.ao];exact X) (by rw[G.ao];omega) (by omega) I (by have:=G.au;omega) λaQ aR aS aT b aU aV aW=>⟨rfl,?_⟩
   refine al aQ aR aS aT b ?_ aV (aP.trans aW);have e:FH C b=F3 (Eu C XU) ⟨1,km (Eu C XU),0⟩ (-1) b:=by unfold FH;rw[if_pos f]
   rw[e];exact aU
  ·have f:G9 C=false:=by rw[<- ao];exact f
   refine al h z x y 0 ?_ (Hs.dp.refl y) Mod.refl;have e:FH C 0=C:=by unfold FH;rw[if_neg (by simp[f])]
   rw[e];exact n.put (by omega) (by omega) I
 have U:=n.bC;unfold G9 at J;refine aF (AC.mk (CG U.af rfl) (ae.intro (λL=>?_) (λL=>J _ (by simp at L;simp[L]))));refine aF (Ac.mk (CG U.af rfl) (ae.intro (λD=>?_) (λD=>J _ (by have D:C.st.fresh=false:=D;simp[D]))));have D:C.st.fresh=true:=D;refine aF (AC.mk (CG U.af rfl) (ae.intro (λM=>?_) (λM=>J _ (by simp at M;simp[M]))));refine aF (AC.mk (CG U.af rfl) (J _ ?_));simp at L M;simp[ak,L,D,M];rfl
end
abbrev fR:Sl:=⟨none,0,0⟩
def mN(wid:A2P)(b:Nat):Option (List Ev)->cu×Int
 |none=>(⟨wid,b,⟨0,0,false⟩,fR,bF.z⟩,180)
 |some l=>(⟨wid,b,⟨(Ca l).status,(Ca l).next,false⟩,fR,bF.z⟩,0)
def dw(b st nx:Int):bT:=⟨b,st,nx,⟨0,⟨#[]⟩,0,0⟩,⟨#[]⟩,fR⟩
def XW(fl:dd)(wid:A2P):bT:=if Ai wid then(match fl wid with|none=>dw 180 0 0|some l=>dw 0 (Ca l).status (Ca l).next) else dw 1 0 0
theorem kY(x y:cu):X9 y.c 0 x.l=x.c:=rfl
theorem kZ(x y:bT):X9 y.c 0 x.l=x.c:=rfl
theorem pd {h:aa}{b:Nat}{T:Q7}{fr:Nat×Nat}{x:cu}(c:h[b]? =some (J2 x.c T fr)):Cells h ⟨b,0,none⟩ x.l:=DU c rfl
theorem Iw {h:aa}{b:Nat}{T:Q7}{fr:Nat×Nat}{x:bT}(c:h[b]? =some (J2 x.c T fr)):Cells h ⟨b,0,none⟩ x.l:=DU c rfl
theorem mO {h:aa}{b:Nat}{T:Q7}{x y:cu}{K:cu->aa->Prop}(f:h[b]? =some (J2 y.c T (0,0)))(j: ∀c,Mod (· =b) h c->K x c):
  aP h ⟨b,0,none⟩ x.l λd=>Jd d ⟨b,0,none⟩ λk=>K k d:=
 aP.mk f (A0 18) λc e m s=>Jd.mk x (pd (by rw[kY] at e;exact e)) (j c m)
theorem UG {h:aa}{b:Nat}{T:Q7}{x y:bT}{K:bT->aa->Prop}(f:h[b]? =some (J2 y.c T (0,0)))(j: ∀c,Mod (· =b) h c->K x c):
  aP h ⟨b,0,none⟩ x.l λd=>Dj d ⟨b,0,none⟩ λk=>K k d:=
 aP.mk f (A0 9) λc e m s=>Dj.mk x (Iw (by rw[kZ] at e;exact e)) (j c m)
theorem ZO {b:Ev}(h:FQ b=true):b.data.size<=2000:=by
 obtain⟨t,u,v,f,j⟩:=RU h;by_cases k:b.kind=1
 ·obtain⟨p,m,ok⟩:=f k;have:=(uY m).2;have e:=congrArg List.length this;rw[Av] at e;rw[<- e];simp only[EA,A3,decide_eq_true_eq] at ok;obtain⟨⟨w,o⟩,q⟩:=ok;have x:=BX.1 o;have:=MX q;have z:=AV (n:=p.ar.toNat) (by omega);have C:=AV (n:=p.steps.length) (by omega);unfold Bd;simp only[A1];omega
 ·by_cases r:b.kind=12
  ·have:=Dw (j r);omega
  ·have d:=Lt h;unfold Eo at d;simp only[A3,Cp,decide_eq_true_eq] at d;rcases d.2 with c|c
   ·rw[c];decide
   ·unfold dU at c;simp at c;omega
section
variable {A : ak} {B : cJ} {g h : aa} {s a N sh : Nat} {l : List Hs} {mp : List Pr} {O : Nat -> Prop} {i : Nat} {y : Hs} {fl : dd} {an : du} {R : A2O}
theorem LW.get {key:A2P}(c:LW B g h s a N sh l mp O)(d:key.size<=1099511627776)(e: ∀b,Ext h b->R (J1 #[J7 (JV mp key).1,J3 (JV mp key).2,J6 J9 0]) b):AA A P FI #[Az s,J7 key] h R:=by obtain⟨j,k,st,m,n,nn,f,o,rfl,p,q,out⟩:=c;exact rn f d e
theorem LW.scan {p f:A2P}{d:Int}(e:LW B g h s a N sh l mp O)(j:p.size<=1099511627776)(k: ∀sl b,Own BR AU b sl (kD mp p f d)->(∀ c,sl.af=some c->h.size<=c)->Ext h b->R (J1 #[J4 sl.p sl.len sl.cap,J6 J9 0]) b):AA A P JU #[Az s,J7 p,J7 f,J6 J9 d] h R:=by obtain⟨o,q,st,m,r,nn,n,t,rfl,u,v,out⟩:=e;exact AOM n j k
theorem LW.dG(d:LW B g h s a N sh l mp O)(b:l[i]? =some y):h[y.p]? =some (J2 #[Az s,J7 y.name,J6 J9 (sh:Int),.map (some y.bh),.map (some y.bu)] RZ (0,0))/\1<=sh/\sh<=16:=by obtain⟨e,f,st,m,j,nn,k,n,o,c,p,out⟩:=d;exact⟨(c.host i y b).cell,(c.host i y b).sh⟩
theorem LW.store(b:LW B g h s a N sh l mp O)(c:l[i]? =some y)(d:R (Az s) h):AA A P Fq #[Az y.p] h R:=by refine VI ?_;unfold Oz;exact ae.no rfl (aF (Ab.mk (AL (b.dG c).1 rfl) d))
theorem LW.aI(b:LW B g h s a N sh l mp O)(c:l[i]? =some y)(d:R (J6 J9 (sh:Int)) h):AA A P Gm #[Az y.p] h R:=by refine UY ?_;unfold NI;exact ae.no rfl (aF (AC.mk (AB (b.dG c).1 rfl) d))
theorem Ka.eL(b:Ka mp fl an){wid:A2P}(c:Ai wid=true):JV mp (Kz wid)=match fl wid with|none=>(⟨#[]⟩,false)|some l=>(QL (Ca l).status.toNat (Ca l).next.toNat false,true):=by unfold JV;rw[b.gX wid c];cases fl wid<;>rfl
theorem Ka.fB(c:Ka mp fl an){b:A2P}(d:Ai b=true):JV mp (Mt b)=match an b with|none=>(⟨#[]⟩,false)|some x=>(iO x.1 x.2.1.toNat x.2.2.toNat,true):=by unfold JV;rw[c.jF b d];cases an b<;>rfl
theorem pg {wid:A2P}(v:LW B g h s a N sh l mp O)(o:l[i]? =some y)(w:Ka mp fl an)
  (G:Ai wid=false-> ∀f,Ext h f->R (J1 #[cu.z.v,J6 J9 1]) f)
  (H:Ai wid=true-> ∀f,Ext h f->R (J1 #[(mN wid (BV wid sh) (fl wid)).1.v,J6 J9 (mN wid (BV wid sh) (fl wid)).2]) f):
  AA A P Jp #[Az y.p,J7 wid] h R:=by
 obtain⟨-,I,J⟩:=v.dG o;refine ABu ?_;unfold Vg;refine al.mk λL _ z p Z=>ah.mk λK M=>ae.no rfl (Fb ⟨_,rfl,M _ _ ?_⟩)
 cases m:Ai wid with
 |false=>exact ae.yes rfl (mO z λb Q=>G m b (p.more Q λc j=>by subst j;exact A0 _))
 |true=>
  have ab:=Dw m;have q:=v.on p;have C: ∀ {b d:aa} {x:cu} {r:Int},Ext L b->Mod (· =h.size) b d->(x,r)=mN wid (BV wid sh) (fl wid)->R (J1 #[x.v,J6 J9 r]) d:=λ{b d x r} k t S=>by
   have:=H m d ((p.trans k).more t λc j=>by subst j;exact A0 _);rw[<- S] at this;exact this
  refine ae.no rfl (q.aI o ⟨_,rfl,Yd (by omega) I J ⟨_,_,rfl,ae.no rfl (q.store o ⟨_,rfl,mR (by omega) ⟨_,rfl,?_⟩⟩)⟩⟩);refine q.get (by rw[Ri];omega) λb k=>?_
  rw[w.eL m];have D:=k.af z λh=>h
  cases u:fl wid with
  |none=>
   refine⟨_,_,_,rfl,ae.no rfl (ae.yes rfl (mO D λd t=>?_))⟩;exact C k t (by rw[u];rfl)
  |some e=>
   have n:=w.eo wid e u;have nx:=n.next.1;have ac:=n.len;have st:=n.st;have ad:1<=e.length:=List.length_pos_iff.2 n.ne;refine⟨_,_,_,rfl,ae.no rfl (ae.no rfl (AKH (by omega) (by omega) (by omega) λd E=>nN.mk _ ⟨_,rfl,?_⟩))⟩;refine al.mk λaf _ T U ag=>aP.mk T (A0 3) λV W X ai=>?_
   have F:Ext b V:=(E.trans U).more X λc j=>by subst j;exact E.size
   refine OE.mk _ (DU W rfl) (mO (F.af D λh=>h) λaj Y=>?_);refine C (k.trans F) Y ?_;rw[u];unfold mN;rw[show(((Ca e).status.toNat:Nat):Int)=(Ca e).status from by omega,show(((Ca e).next.toNat:Nat):Int)=(Ca e).next from by omega]
theorem AQY {wid:A2P}(I:LW B g h s a N sh l mp O)(J:l[i]? =some y)(K:Ka mp fl an)
  (w: ∀e,Ext h e->R (XW fl wid).v e):AA A P GD #[Az y.p,J7 wid] h R:=by
 refine WI ?_;unfold PS;refine al.mk λL _ M z ac=>?_
 have C: ∀ {x:cu} {n:Int} {f:aa},Ext L f->(n≠0->(dw n 0 0)=XW fl wid)->(n=0->(dw 0 x.me.status x.me.next)=XW fl wid)->
   al f (J2 cu.z.c DW) λp D=>aP D (⟨p,0,none⟩:Q6) x.l λd=>ae (n != (0:Int)) (
    aP d (⟨h.size,0,none⟩:Q6) (⟨n,0,0,⟨0,(⟨#[]⟩:A2P),0,0⟩,(⟨#[]⟩:A2P),(⟨none,0,0⟩:Sl)⟩:bT).l λb=>
    Dj b (⟨h.size,0,none⟩:Q6) λQ=>
    R (Q.v) b) (
    AC J9 d ((⟨p,0,none⟩:Q6).add 2) λS=>
    AC J9 d (((⟨p,0,none⟩:Q6).add 2).add 1) λT=>
    aP d (⟨h.size,0,none⟩:Q6) (⟨0,S,T,⟨0,(⟨#[]⟩:A2P),0,0⟩,(⟨#[]⟩:A2P),(⟨none,0,0⟩:Sl)⟩:bT).l λE=>
    Dj E (⟨h.size,0,none⟩:Q6) λU=>
    R (U.v) E):=λ{x n f} j V W=>by
  refine al.mk λD _ X Y ad=>aP.mk X (A0 18) λd q Z af=>?_
  have F:Ext f d:=Y.more Z λc r=>by subst r;exact A0 _
  rw[kY] at q;have G:=F.af (j.af M λh=>h) λh=>h
  have H: ∀e,Mod (· =h.size) d e->Ext h e:=λe m=>((z.trans j).trans F).more m λc r=>by subst r;exact A0 _
  refine ae.intro (λt=>UG G λb u=>?_) (λt=>?_)
  ·have:=w b (H b u);rw[<- V (by simpa using t)] at this;exact this
  ·refine AC.mk (n:=x.me.status) (Cg (by exact q) rfl) (AC.mk (n:=x.me.next) (CG (by exact q) rfl) (UG G λb u=>?_));have:=w b (H b u);rw[<- W (by simpa using t)] at this;exact this
 refine pg (I.on z) J K (λo f j=>TZ.mk _ ⟨_,rfl,C j (λ_=>by unfold XW;rw[o];rfl) λh=>by cases h⟩) λo f j=>TZ.mk _ ⟨_,rfl,C j (λk=>?_) λk=>?_⟩
 ·unfold XW;rw[o,if_pos rfl];cases v:fl wid with
  |none=>rfl
  |some ab=>rw[v] at k;exact absurd rfl k
 ·unfold XW;rw[o,if_pos rfl];cases v:fl wid with
  |none=>rw[v] at k;cases k
  |some ab=>rfl
theorem AHz {e:A2P}(M:LW B g h s a N sh l mp O)(Q:l[i]? =some y)(z:Ka mp fl an)(C:Ai e=true)
  (D: ∀E,Ext h E->R (match an e with|none=>J1 #[J7 ⟨#[]⟩,bT.z.v,J3 false,J6 J9 0]|some x=>J1 #[J7 (AX x.1),(dw 0 x.2.1 x.2.2).v,J3 true,J6 J9 0]) E):AA A P Kr #[Az y.p,J7 e] h R:=by
 have ag:=Dw C;refine WZ ?_;unfold Pb;refine al.mk λai _ S f aj=>?_
 have F:=M.on f;refine F.store Q ⟨_,rfl,sU (by omega) ⟨_,rfl,F.get (by rw[U0];omega) λj k=>?_⟩⟩;rw[z.fB C];have m:=k.af S λh=>h
 cases o:an e with
 |none=>
  refine⟨_,_,_,rfl,ah.mk λK p=>ae.no rfl (p _ _ (ae.yes rfl (UG m λG T=>?_)))⟩;have:=D G ((f.trans k).more T λc d=>by subst d;exact A0 _);rw[o] at this;exact this
 |some x=>
  obtain⟨⟨ak,am⟩,⟨ao,ap⟩,aq⟩:=z.jG e x o;refine⟨_,_,_,rfl,ah.mk λK p=>ae.no rfl (p _ _ (ae.no rfl ?_))⟩;unfold iO;have ar:=GR (n:=x.2.1.toNat) (by omega);have au:=GR (n:=x.2.2.toNat) (by omega);have av:=AV (n:=x.1.length) (by omega);have aw:(BG x.1).length<=2010:=by unfold BG;rw[A1];omega
  refine Kq λG H q=>⟨_,rfl,IL H (by simp only[A1];omega) λax U r=>⟨_,rfl,?_⟩⟩
  rw[JQ (by omega)] at*
  refine DX (most:=4) U (by simp only[A1];omega) (by decide) λay V t=>⟨_,rfl,?_⟩
  rw[Ci (by omega) (by omega)] at*
  have W:Bt 501 ⟨BH x.2.2.toNat,false⟩=(x.2.2.toNat,⟨[],false⟩):=by have:=Ci (n:=x.2.2.toNat) (most:=501) (by omega) (by omega) [];rwa [AN] at this
  refine DX (most:=501) V (by simp only;omega) (by decide) λX Y u=>⟨_,rfl,?_⟩
  rw[W] at*
  refine al.mk λaz _ Z v aA=>aP.mk Z (A0 9) λI J w aC=>?_
  have aD:=q.size;have aE:=r.size;have aF:=t.size;have aG:=u.size;have aH:=Af m;have aa:Io I j.size ⟨[],false⟩:=w.af (v.af Y λh=>h) (by have:=Af H;omega);refine NZ aa ⟨_,rfl,ae.no rfl ?_⟩;rw[kZ] at J;have ab:=w.af (v.af (u.af (t.af (r.af (q.af m λh=>h) (by omega)) (by omega)) (by omega)) λh=>h) (b:=h.size) (by omega);refine Dj.mk _ (Iw J) (UG ab λac ad=>?_);have L:Ext j X:=q.more ((r.trans t).trans u) λc d=>by subst d;exact A0 _
  have af:Ext j I:=(L.trans v).more w λc d=>by subst d;exact L.size
  have:=D ac (((f.trans k).trans af).more ad λc d=>by subst d;exact A0 _);rw[o] at this;rw[show((x.2.1.toNat:Nat):Int)=x.2.1 from by omega,show((x.2.2.toNat:Nat):Int)=x.2.2 from by omega];exact this
end
theorem AKY {wid:A2P}{l:List Ev}{b i:Nat}{p:Pr}(h:(((SH wid l).drop b).take 32)[i]? =some p): ∃c,l[b+i]? =some c/\p=O7 wid c:=by
 rw[E0] at h;split at h
 ·rw[Bm] at h;exact Qx h
 ·cases h
theorem Jk.fresh {h j:aa}{k:Nat->Prop}{s:bj}{a b c:Sl}{n:Nat}(o:Jk h s a b c)(m:Mod k h j)(fr: ∀x,a.af=some x\/b.af=some x\/c.af=some x->n<=x)(f: ∀c,k c->c<n):Jk j s a b c:=
 o.mod m (λx d e=>by have:=fr x (.inl d);have:=f x e;omega) (λx d e=>by have:=fr x (.inr (.inl d));have:=f x e;omega) (λx d e=>by have:=fr x (.inr (.inr d));have:=f x e;omega)
section
variable {A : ak} {B : cJ} {g h : aa} {s a N sh : Nat} {l : List Hs} {mp : List Pr} {O : Nat -> Prop} {i : Nat} {y : Hs} {fl : dd} {an : du} {R : A2O}
theorem AQC {wid:A2P}{d:List Ev}{aX:J0}(ai:LW B g h s a N sh l mp O)(D:l[i]? =some y)(aj:Ka mp fl an)(ak:Ai wid=true)(am:fl wid=some d)
  (aY: ∀U e F G H,Ext h U->View fT U e d->Jk U (Ca d) F G H->(∀ x,F.af=some x\/G.af=some x\/H.af=some x->h.size<=x)->(∀ x,e.af=some x->h.size<=x)->
   R (J1 #[(⟨wid,(BV wid sh:Int),⟨(Ca d).status,(Ca d).next,false⟩,e,(Ca d).V F G H⟩:cu).v,J6 J9 0]) U):AA A P Px #[Az y.p,aX,J7 wid] h R:=by
 have V:=aj.eo wid d am;obtain⟨nx,aA⟩:=V.next;have aZ:=V.len;have bK:1<=d.length:=List.length_pos_iff.2 V.ne;have a0:=Dw ak;refine ACG ?_;unfold Vl;refine al.mk λW _ ao v bL=>?_
 refine pg (ai.on v) D aj (λh=>by rw[ak] at h;cases h) λ_ k aC=>?_
 rw[am];refine TZ.mk _ ⟨_,rfl,al.mk λbM _ a1 a2 bN=>aP.mk a1 (A0 18) λX M a3 bO=>ae.no rfl ?_⟩;rw[kY] at M;have ap:Ext k X:=a2.more a3 λc f=>by subst f;exact A0 _
 have aD:Ext W X:=aC.trans ap;have bP:=Af ao;have a4:=aC.size;have bQ:=ap.size;have bR:X[h.size]? =some (J2 cu.z.c DW (0,0)):=aD.af ao λh=>h
 let fv:Sl->cu:=λe=>⟨wid,(BV wid sh:Int),⟨(Ca d).status,(Ca d).next,false⟩,e,bF.z⟩
 have M:X[k.size]? =some (J2 (fv fR).c DW (0,0)):=M;refine ah.mk λK a5=>Ac.mk (n:=false) (CG M rfl) (ae.no rfl ?_)
 refine Loop.rule (λm x r=> ∃e:Sl,m=d.length-e.len/\e.len<=d.length/\Ext W r/\Ext k r/\r[k.size]? =some (J2 (fv e).c DW (0,0))/\Own fT A7 r e (d.take e.len)/\(∀ b,e.af=some b->k.size<b)) ?_
  ⟨fR,rfl,AG _,aD,ap,M,Own.nil,λb j=>by simp[Sl.af] at j⟩
 rintro bS m _ aq ⟨e,rfl,a6,Q,aE,t,S,fr⟩ a7;refine AY.mk (s:=e) (Cg t rfl) (AC.mk (n:=(Ca d).next) (CG t rfl) ?_);rw[nx,wrap_i64 (by omega) (by omega)];have aF:LW B g aq s a N sh l mp O:=ai.on (v.trans Q);refine ae.intro (λw=>?_) (λw=>?_)
 ·have bT:e.len<d.length:=by simp at w;omega
  refine aF.store D ⟨_,rfl,sS (by omega) λaG Y=>⟨_,rfl,?_⟩⟩;have a8:=Y.af t λh=>h
  refine AY.mk (s:=e) (Cg a8 rfl) ⟨Cg t rfl,Cg t rfl,?_⟩;rw[AZ (by omega)];refine sT (by omega) (by omega) λa9 ar=>⟨_,rfl,?_⟩
  have au:=Y.trans ar;have ba:=aF.on au;refine ba.scan (by have:=AMp a0;omega) λps I av bb bc=>⟨_,_,rfl,ae.no rfl ?_⟩
  rw[APZ ai.sorted aj ak am a6] at av;have u:=au.trans bc;have aH:=av.len;have bU:ps.len=min 32 (d.length-e.len):=by rw[aH,AH,DH];unfold SH;rw[BE]
  refine ae.no (by simp;omega) ?_;have bd:=Q.trans u;have be:=aE.trans u;refine Loop.rule (λm x r=> ∃(o:Nat) (q:Sl),x=((o:Int),())/\m=ps.len-o/\o<=ps.len/\q.len=e.len+o/\Ext W r/\Ext k r/\Mod (λc=>c=k.size\/e.af=some c) I r/\r[k.size]? =some (J2 (fv q).c DW (0,0))/\Own fT A7 r q (d.take q.len)/\(∀ b,q.af=some b->k.size<b/\(e.af=some b\/I.size<=b))) ?_
   ⟨0,e,rfl,rfl,AG _,rfl,bd,be,Mod.refl,u.af t λh=>h,S.ext u,λb j=>⟨fr b j,.inl j⟩⟩
  rintro bV m _ aw ⟨o,q,rfl,rfl,aI,bf,aJ,aK,ax,J,aL,L⟩ bg;dsimp only;refine ae.intro (λw=>?_) (λw=>?_)
  ·have Z:o<ps.len:=by simpa using w
   have bW:e.len+o<d.length:=by omega
   obtain⟨p,aM⟩: ∃p,(((SH wid d).drop e.len).take 32)[o]? =some p:=⟨_,A2 (by rw[<- aH];exact Z)⟩;obtain⟨z,aa,rfl⟩:=AKY aM;have ok:=(aA _ _ aa).2;have hd:=ZO ok;have bX:=xO (Lt ok) (by omega);have bh:View BR aw ps (((SH wid d).drop e.len).take 32):=(av.view.mod ax λb j f=>by
    have:=bb b j;have:=au.size;have:=aE.size;have:=Af t;rcases f with rfl|f
    ·omega
    ·have:=S.lt f;omega)
   refine bh.idx aM λbY _ bi=>?_
   obtain⟨bj,bk,bm⟩:=bi.pair;refine AJ.mk bj (AJ.mk bk (Ac.mk bm (al.pair λb ac bZ bn aN b0=>AJ.mk (n:=AX (NP z)) (AB bn rfl) ?_)));refine AJ9 (by omega) λb1 aO=>?_
   rw[(AMZ (by omega)).2 ⟨ok,rfl⟩];refine nL.mk z ⟨_,rfl,al.mk λb2 _ bo bp b3=>aP.mk bo (A0 8) λbq aQ br b4=>ae.no rfl ?_⟩;rw[pw] at aQ;have C:Ext aw bq:=((aN.trans aO).trans bp).more br λc f=>by subst f;exact(aN.trans aO).size
   refine AY.mk (s:=q) (Cg (C.af J λh=>h) rfl) (MQ.mk z (QO aQ) ?_);refine al.aZ (E:=fT) (x:=z) (s:=q) rfl xN (aL.ext C) (by simp only[AH];omega) (by simp only[AH,maxLen];omega) λT b5 aR ad bs b6=>?_
   have b7:=Af J;have b8:=C.size;have b9:=ax.size;have bt: ¬q.af=some k.size:=λh=>by have:=(L _ h).1;omega
   refine ab.bQ (dH:=(fv T).c) (ad.af (C.af J λh=>h) bt) (of_decide_eq_true rfl) rfl λca bu af cb=>?_
   rw[AZ (by omega)];have aS:T.len=e.len+(o+1):=by have:=aR.len;rw[A1,AH,Dd] at this;omega
   have cc:=v.size;have aT: ∀b,T.af=some b->k.size<b/\(e.af=some b\/I.size<=b):=λb j=>by
    rcases bs b j with h|h
    ·exact L b h
    ·exact⟨by omega,.inr (by omega)⟩
   have bv: ∀b,q.af=some b->W.size<=b:=λb j=>by have:=(L b j).1;omega
   refine bg (ps.len-(o+1)) _ _ (by omega) ⟨o+1,T,rfl,rfl,Z,aS,((aJ.trans C).more ad bv).more af λc f=>by subst f;exact a4,((aK.trans C).more ad λb j=>by have:=(L b j).1;omega).more af λc f=>by subst f;exact A0 _,?_,bu,?_,aT⟩
   ·refine(ax.trans C.mod).then ((ad.ai λc _ f=>?_).trans (af.ai λc _ f=>?_))
    ·rcases(L c f).2 with h|h
     ·exact .inl (.inr h)
     ·exact .inr h
    ·exact .inl (.inl f)
   ·have bw:d.take T.len=d.take q.len++ [z]:=by rw[aS,bf,<-GB,AD,aa];rfl
    rw[bw];exact aR.mod af λb j f=>by have:=(aT b j).1;omega
  ·have Z:o=ps.len:=by simp at w;omega
   subst Z;exact a7 (d.length-q.len) _ _ (by omega) ⟨q,rfl,by omega,aJ,aK,J,aL,λb j=>(L b j).1⟩
 ·have bx:e.len=d.length:=by simp at w;omega
  rw[bx,C5] at S;refine a5 () aq (AY.mk (s:=e) (Cg t rfl) ?_);refine AJs S.view aZ (λz aa=>by
   obtain⟨o,aI⟩:=Ge aa;have:=ZO (aA o z aI).2;omega) V.ok λaG F G H Y bz aU=>G8.mk _ ⟨_,_,rfl,?_⟩
  refine al.mk λa9 _ bA ar cd=>aP.mk bA (A0 12) λI ag bB ce=>?_
  rw[Ow] at ag;have aV:Ext aG I:=ar.more bB λc f=>by subst f;exact A0 _
  have u:=Y.trans aV;have ay:=u.af t λh=>h
  have bC:=u.af ((Q.af ao λh=>h)) λh=>h
  refine ah.mk λcf bD=>ae.no rfl (AC.mk (n:=(Ca d).next) (AB ag rfl) (AC.mk (n:=(Ca d).next) (CG ay rfl) ?_))
  refine ae.no (by simp) (AC.mk (n:=(Ca d).status) (AB ag rfl) (AC.mk (n:=(Ca d).status) (Cg ay rfl) (bD _ _ (ae.no (by simp) ?_))));have bE:=bz.ext aV;have cg:=Af t;have ch:=Q.size;have ci:=u.size;refine Au.mk _ (Em ag) ?_;have bG:(⟨k.size,0,none⟩:Q6).add 6=⟨k.size,6,none⟩:=rfl;rw[bG];refine aP.mk ay (of_decide_eq_true rfl) λaw J aW cj=>?_
  refine Jd.mk ⟨wid,(BV wid sh:Int),⟨(Ca d).status,(Ca d).next,false⟩,e,(Ca d).V F G H⟩ (pd (by exact J)) (mO (aW.af bC (by omega)) λac bH=>?_);have az:Mod (λc=>c=k.size\/c=h.size) I ac:=(aW.ai λc _ f=> .inl f).trans (bH.ai λc _ f=> .inr f);have bI:=bE.fresh (n:=aq.size) az aU λc f=>by omega
  have bJ:View fT ac e d:=(S.view.ext u).mod az λb j f=>by have:=fr b j;omega
  refine aY ac e F G H ((v.trans (Q.trans u)).more az λc f=>by have:=v.size;omega) bJ bI (λx D=>by have:=aU x D;have:=v.size;omega) λx D=>by have:=fr x D;have:=v.size;omega
end
theorem Qo {a v:A2P}(b:a≠⟨#[]⟩)(c:a.size<=64)(d:v.size<=8192):Am ⟨a,v,false⟩=0:=by unfold Am;rw[if_neg (by simp[b]),if_neg (by simp;omega)]
theorem Xh {a:A2P}(b:0<a.size):a≠⟨#[]⟩:=λc=>by rw[c] at b;cases b
theorem sw: ∀ {l:List Pr},(∀ p∈l,Am p=0)->F6 l=0
 | [],_=>rfl
 |x::l,a=>by
  unfold F6;rw[if_neg (by rw[a x (by simp)];decide)];exact sw λp b=>a p (by simp[b])
theorem ANb {l:List Pr}(a:l≠ [])(c:l.length<=64)(b: ∀p∈l,Am p=0):Eb l=0:=by unfold Eb;rw[if_neg (by rw[Wa];exact a),if_neg (by omega)];exact sw b
theorem AQG {wid:A2P}{a:Ev}(c:Ai wid=true)(b:FQ a=true):Am (O7 wid a)=0:=by
 have d:=Dw c;have e:=AOp d a.id.toNat;have hd:=ZO b;have f:=xO (Lt b) (by omega);refine Qo (Xh ?_) (by omega) ?_
 ·unfold dV;rw[AP];unfold kh;simp
 ·rw[AP];omega
theorem APq {wid:A2P}{st nx:Nat}{a:Bool}(b:Ai wid=true)(c:st<128)(d:nx<=501):Am ⟨Kz wid,QL st nx a,false⟩=0:=by have e:=Dw b;have:=AJ7 (kept:=a) c d;exact Qo (Xh (by rw[Ri];omega)) (by rw[Ri];omega) (by omega)
theorem ARW {a:A2P}{x:List UInt8×Int×Int}(b:Ai a=true)(c:0<=x.2.1/\x.2.1<=4)(d:0<=x.2.2/\x.2.2<=501)(e:x.1.length<=2000):Am (YJ a x)=0:=by have f:=Dw b;have g:=GR (n:=x.2.1.toNat) (by omega);have h:=GR (n:=x.2.2.toNat) (by omega);have i:=AV (n:=x.1.length) (by omega);refine Qo (Xh (by rw[U0];omega)) (by rw[U0];omega) ?_;unfold iO BG;rw[AP];simp only[A1];omega
theorem ph {t:gG}{wid:A2P}{a b:Nat}{tick:Int}(c:KQ t wid=true):Am ⟨Ob a tick b,jC t wid,false⟩=0/\(CV (Ob a tick b)≠104/\CV (Ob a tick b)≠119/\CV (Ob a tick b)≠114)/\CV (Ob a tick b)≠108:=by
 unfold KQ at c;simp only[A3,BX] at c;obtain⟨⟨⟨⟨e,f⟩,d⟩,g,h⟩,i,j⟩:=c;have:=AJl (kind:=t.kind.toNat) (wid:=wid) (ref:=t.ref.toNat) (turn:=t.turn.toNat) (by omega) (Dw d) (by omega) (by omega);unfold Ob jC;split
 ·rw[AKT];exact⟨Qo (Xh (by rw[wk];omega)) (by rw[wk];omega) (by omega),⟨by decide,by decide,by decide⟩,by decide⟩
 ·rw[AJg];exact⟨Qo (Xh (by rw[wm];omega)) (by rw[wm];omega) (by omega),⟨by decide,by decide,by decide⟩,by decide⟩
end Go.Lf.G
namespace Go.Lf
open G
open Go
open M (Sorted Ag Cs BC Ah Aw Be Am bH BK aV BU)
def bD.fits(a:bD)(b:List Ev):Prop:=Ep TS (b++a.more)=some a.st
end Go.Lf
namespace Go.Lf.G
open Go
open M (Sorted Ag Cs BC Ah Aw Be Am bH BK aV BU)
theorem Qy {a:bD}{c:List Ev}{d:Ev}(b:a.fits c):(Eu a d).fits c:=by
 unfold Eu;split
 ·exact b
 ·split
  ·exact b
  ·split
   ·exact b
   ·rename_i e;have e:(Bj a.st (Ct a d)).1=0:=by simpa using e
    show Ep TS (c++(a.more++ [Ct a d]))=_;rw[<- A4];exact AH6 b e
theorem Yw {a:bD}{c:List Ev}{t:gG}{tick:Int}{b:Nat}(d:a.fits c):(F3 a t tick b).fits c:=by unfold bD.fits;rw[(I1 a t tick b).1,(I1 a t tick b).2];exact d
theorem AJZ {a:bD}{b:List Ev}{c f:Nat}(d:a.fits b):(BP a c f).fits b:=by
 have e:(FH a c).fits b:=by
  unfold FH;split
  ·exact Yw (Qy d)
  ·exact d
 unfold BP;split
 ·exact Yw e
 ·exact e
abbrev iG:=Option (A2P×(List UInt8×Int×Int))
end Go.Lf.G
namespace Go.Lf
open G
open Go
open M (Sorted Ag Cs BC Ah Aw Be Am bH BK aV BU)
structure bD.beside (C:bD) (o:iG):Prop where
 ok: ∀p∈C.au,Am p=0
 eZ: ∀p∈C.au,(CV p.key≠104/\CV p.key≠119/\CV p.key≠114)\/ ∃r x,o=some (r,x)/\p=YJ r x
 kF: ∀p∈C.au,CV p.key≠108
end Go.Lf
namespace Go.Lf.G
open Go
open M (Sorted Ag Cs BC Ah Aw Be Am bH BK aV BU)
theorem Lx {a:bD}{c:iG}(b:a.beside c)(d:Ev):(Eu a d).beside c:=by have:=(ZQ a d).2.2.2.2.2.1;exact⟨by rw[this];exact b.ok,by rw[this];exact b.eZ,by rw[this];exact b.kF⟩
theorem UF {d:bD}{f:iG}(a:d.beside f)(t:gG)(tick:Int)(g:Nat):(F3 d t tick g).beside f:=by
 unfold F3;split
 ·exact a
 ·split
  ·exact⟨a.ok,a.eZ,a.kF⟩
  ·rename_i c;have c:KQ t d.wid=true:=by simpa using c
   refine⟨λp e=>?_,λp e=>?_,λp e=>?_⟩<;>rcases List.mem_append.1 e with b|b
   ·exact a.ok p b
   ·rw[List.mem_singleton.1 b];exact(ph c).1
   ·exact a.eZ p b
   ·rw[List.mem_singleton.1 b];exact .inl (ph c).2.1
   ·exact a.kF p b
   ·rw[List.mem_singleton.1 b];exact(ph c).2.2
theorem AGV {a:bD}{b:iG}(c:a.beside b)(d f:Nat):(BP a d f).beside b:=by
 have e:(FH a d).beside b:=by
  unfold FH;split
  ·exact UF (Lx c _) _ _ _
  ·exact c
 unfold BP;split
 ·exact UF e _ _ _
 ·exact e
theorem AIL {e:bD}{c:A2P}{x:List UInt8×Int×Int}(a:e.beside none)(f:Ai c=true)(g:0<=x.2.1/\x.2.1<=4)(h:0<=x.2.2/\x.2.2<=501)(i:x.1.length<=2000):(nK e (Mt c) (iO x.1 x.2.1.toNat x.2.2.toNat)).beside (some (c,x)):=by
 refine⟨λp d=>?_,λp d=>?_,λp d=>?_⟩<;>rcases List.mem_append.1 d with b|b
 ·exact a.ok p b
 ·rw[List.mem_singleton.1 b];exact ARW f g h i
 ·rcases a.eZ p b with a|⟨j,k,a,_⟩
  ·exact .inl a
  ·cases a
 ·exact .inr ⟨c,x,rfl,List.mem_singleton.1 b⟩
 ·exact a.kF p b
 ·rw[List.mem_singleton.1 b];show CV (Mt c)≠108;rw[Mi];decide
theorem sx(a:bD)(b:Ev):(Eu a b).au=a.au:=(ZQ a b).2.2.2.2.2.1
theorem sy {b:bD}{p:Pr}(a:p∈b.au)(t:gG)(tick:Int)(c:Nat):p∈(F3 b t tick c).au:=by
 unfold F3;split
 ·exact a
 ·split
  ·exact a
  ·exact Fo _ a
theorem AMB {a:bD}{p:Pr}(b:p∈a.au)(c e:Nat):p∈(BP a c e).au:=by
 have d:p∈(FH a c).au:=by
  unfold FH;split
  ·exact sy (by rw[sx];exact b) _ _ _
  ·exact b
 unfold BP;split
 ·exact sy d _ _ _
 ·exact d
theorem Ka.note {o b:List Pr}{v:dd}{k:du}{j:iG}(g:Ka o v k)(s:Sorted o)(l:fw b j):Ka (dc o b) v (pb k j):=by
 have w: ∀p∈b,CV p.key≠104/\CV p.key≠119:=λp A=>by
  rcases l.eZ p A with m|⟨a,x,_,rfl⟩
  ·exact⟨m.1,m.2.1⟩
  ·exact⟨by show CV (Mt a)≠104;rw[Mi];decide,by show CV (Mt a)≠119;rw[Mi];decide⟩
 refine⟨λn q B y=>?_,λn q=>?_,λa z=>?_,g.eo,λa x f=>?_⟩
 ·rw[Lm s λc e d=>(w c e).1 (by rw[d];exact qE y)];exact g.cF n q B y
 ·rw[Lm s λc e d=>(w c e).2 (by rw[d];exact Gw n)];exact g.gX n q
 ·have no: ∀c∈b,c.key=Mt a-> ∃x,j=some (a,x)/\c=YJ a x:=λc e d=>by
   have C:=(congrArg CV d).trans (Mi a);rcases l.eZ c e with m|⟨h,x,D,rfl⟩
   ·exact absurd C m.2.2
   ·have:h=a:=wu d;subst this;exact⟨x,D,rfl⟩
  cases j with
  |none=>
   rw[Lm s λc e d=>?_,g.jF a z]
   ·rfl
   ·obtain⟨x,f,_⟩:=no c e d;cases f
  |some r=>
   obtain⟨h,x⟩:=r;show _=(dN k h x a).map (YJ a);by_cases i:a=h
   ·subst i;rw[Jq];refine(mM (p:=YJ a x) s (l.has a x rfl).1 λc e d=>?_).trans rfl;obtain⟨t,u,rfl⟩:=no c e d;cases u;rfl
   ·rw[Q3 i,Lm s λc e d=>?_,g.jF a z];obtain⟨t,u,_⟩:=no c e d;cases u;exact i rfl
 ·cases j with
  |none=>exact g.jG a x f
  |some r=>
   obtain⟨h,t⟩:=r;have f:dN k h t a=some x:=f;by_cases i:a=h
   ·subst i;rw[Jq] at f;cases f;exact(l.has a x rfl).2.2
   ·rw[Q3 i] at f;exact g.jG a x f
theorem sA {a:bD}{b:List Ev}{g:Nat}(c:a.fits b)(e:b++a.more≠ [])(f:ER a.st g):UA (b++a.more)/\Ca (b++a.more)=a.st:=by
 have d:Ca (b++a.more)=a.st:=by unfold Ca;rw[c];rfl
 have nx:=we c e;have:=f.next;exact⟨⟨e,by omega,by rw[d];exact c,by rw[d];exact f.st⟩,d⟩
theorem AOK {a:Type}{f:A2P->Option a}{b:A2P}{x:a}(c:f b=some x):dN f b x=f:=by
 funext e;unfold dN;split
 ·rename_i d;rw[d,c]
 ·rfl
theorem Ka.done {c:List Pr}{a:dd}{g:du}{D:bD}{o:iG}{k:Nat}(h:Ka c a g)(s:Sorted c)(m:Ai D.wid=true)(n:D.fits ((a D.wid).getD []))(b:(a D.wid).getD []++D.more≠ [])(p:ER D.st k)(q:D.beside o)
  (r: ∀d x,o=some (d,x)->YJ d x∈D.au/\Ai d=true/\(0<=x.2.1/\x.2.1<=4)/\(0<=x.2.2/\x.2.2<=501)/\x.1.length<=2000):
  Ka (dc c (FX D++D.au)) (dN a D.wid ((a D.wid).getD []++D.more)) (pb g o):=by
 have i:fw D.au o:=⟨q.eZ,r⟩;obtain⟨t,u⟩:=sA n b p;by_cases e:D.more= []
 ·have f:FX D= []:=by unfold FX;rw[e];rfl
  rw[f,CI];have:dN a D.wid ((a D.wid).getD []++D.more)=a:=by
   rw[e,AN] at b ⊢;cases j:a D.wid with
   |none=>rw[j] at b;exact absurd rfl b
   |some l=>exact AOK j
  rw[this];exact h.note s i
 ·have f:FX D++D.au=D.more.map (O7 D.wid)++([TM D.wid ((a D.wid).getD []++D.more)]++D.au):=by unfold FX TM;rw[if_neg e,A4,u]
  rw[f];exact h.land s m t i
theorem AJP {e:List Pr}{c:dd}{h:du}{a:bD}(i:Ka e c h)(j:Ai a.wid=true)(b:match c a.wid with|none=>a.cq=0|some l=>a.cD=(Ca l).status/\a.cq=(Ca l).next/\a.kept=false/\0<a.cq):CK e (bB a)=true:=by
 have g:=i.eL j;cases f:c a.wid with
 |none=>
  rw[f] at b g;have b:a.cq=0:=b;have d:bB a=⟨Kz a.wid,⟨#[]⟩,true⟩:=by unfold bB;rw[if_neg (by omega)]
  rw[d];unfold CK;rw[if_pos rfl,g];rfl
 |some l=>
  rw[f] at b g;obtain⟨k,m,n,o⟩:=b;have d:bB a=⟨Kz a.wid,QL a.cD.toNat a.cq.toNat a.kept,false⟩:=by unfold bB;rw[if_pos o]
  rw[d];unfold CK;rw[if_neg (by simp),g,k,m,n];simp
theorem AMX {b:List Pr}{d:dd}{c:du}{a:A2P}(e:Ka b d c)(f:Ai a=true)(h:c a=none):CK b ⟨Mt a,⟨#[]⟩,true⟩=true:=by unfold CK;have g:=e.fB f;rw[h] at g;rw[if_pos rfl,g];rfl
theorem ANt {b:bD}{g:Nat}(d:Ai b.wid=true)(ok: ∀c∈b.more,FQ c=true/\c.data.size<1099511627776)(e:ER b.st g): ∀p∈FX b,Am p=0:=by
 intro p f;have st:=e.st;have nx:=e.next;unfold FX at f;rcases List.mem_append.1 f with a|a
 ·obtain⟨c,h,rfl⟩:=List.mem_map.1 a;exact AQG d (ok c h).1
 ·split at a
  ·cases a
  ·rw[List.mem_singleton.1 a];exact APq d (by omega) (by omega)
theorem AMo(a:bD):(FX a).length<=a.more.length+1:=by unfold FX;rw[A1,BE];split<;>simp
theorem ATa {f e:List Pr}{a:bD}{g:iG}{h:Nat}(i:Ai a.wid=true)(ok: ∀d∈a.more,FQ d=true/\d.data.size<1099511627776)(j:ER a.st h)(k:a.beside g)(n:a.more.length+1+a.au.length<=64)(l:FX a++a.au≠ [])(o:e.length<=64)(b: ∀c∈e,CK f c=true):dE f e (FX a++a.au)=0:=by
 have q:=AMo a;have d:Eb (FX a++a.au)=0:=ANb l (by rw[A1];omega) λp m=>by
  rcases List.mem_append.1 m with b|b
  ·exact ANt i ok j p b
  ·exact k.ok p b
 unfold dE;rw[if_neg (by omega),if_neg (by rw[d];decide),if_pos (List.all_eq_true.2 b)]
theorem sB(a:Nat):CV (CJ a)=108:=by unfold CV CJ;rw[EN];rfl
theorem AIl {d:List Pr}{b:bD}{i:iG}(s:Sorted d)(j:b.beside i)(e g:Nat)(h:A2P):CK (dc d (FX b++b.au)) (Fx e g h)=CK d (Fx e g h):=by
 have f:Ag (CJ e) (dc d (FX b++b.au))=Ag (CJ e) d:=Lm s λk l m=>by
  have c:=(congrArg CV m).trans (sB e);rcases List.mem_append.1 l with a|a
  ·unfold FX at a;rcases List.mem_append.1 a with a|a
   ·obtain⟨f,_,rfl⟩:=List.mem_map.1 a;rw[show CV (O7 b.wid f).key=104 from nJ _ _] at c;exact absurd c (by decide)
   ·split at a
    ·cases a
    ·rw[List.mem_singleton.1 a] at c;rw[show CV (Kz b.wid)=119 from Gw _] at c;exact absurd c (by decide)
  ·exact j.kF k a c
 rw[QQ,QQ];unfold JV;rw[f]
def bE(x:bO)(p:cj):List UInt8:=BH x.kind.toNat++(BG (bl x.wid)++(BG (if x.kind=2 then bl x.name else [])++(if x.kind=1 then Bd p else [])))
def Iz(x:bO)(p:cj):Int:=if x.kind=1/\EA p=false then 130 else if(x.kind=2/\Ai x.name=false)\/Ai x.wid=false\/Ai x.aW=false then 1 else 0
theorem TU {x:bO}{p:cj}(h:Iz x p=0):(x.kind=1->EA p=true)/\(x.kind=2->Ai x.name=true)/\Ai x.wid=true/\Ai x.aW=true:=by
 unfold Iz at h;split at h
 ·cases h
 ·rename_i b;split at h
  ·cases h
  ·rename_i a;simp only[not_or,not_and,Bool.not_eq_false] at b a;exact⟨b,a.1,a.2⟩
theorem KE {p:cj}(ok:EA p=true):(Bd p).length<=1700:=by simp only[EA,A3,decide_eq_true_eq] at ok;obtain⟨⟨c,a⟩,b⟩:=ok;have d:=BX.1 a;have:=MX b;have e:=AV (n:=p.ar.toNat) (by omega);have f:=AV (n:=p.steps.length) (by omega);unfold Bd;simp only[A1];omega
theorem AO4 {x:bO}{p:cj}(h:Iz x p=0)(f:1<=x.kind/\x.kind<=4):(bE x p).length<=2000:=by
 obtain⟨a,b,c,g⟩:=TU h;have i:=Dw c;have j:=GR (n:=x.kind.toNat) (by omega);have k:=F7 (s:=x.wid) (by omega);have l:(BG (if x.kind=2 then bl x.name else [])).length<=30:=by
  split
  ·rename_i d;have:=Dw (b d);have:=F7 (s:=x.name) (by omega);omega
  ·have:=AV (n:=0) (by omega);show(BH 0++ []).length<=30;rw[AN];omega
 have m:(if x.kind=1 then Bd p else []).length<=1700:=by
  split
  ·rename_i e;exact KE (a e)
  ·simp
 unfold bE;simp only[A1];omega
section
variable {A : ak} {h : aa} {R : A2O}
theorem AMw {x:bO}{p:cj}(V:View Lr h x.steps p.steps)(M:x.ar=p.ar)(len:p.steps.length<=1099511627776)(an:1<=x.kind/\x.kind<=4)
  (w: ∀e,Ext h e->R (J1 #[J7 (if Iz x p=0 then AX (bE x p) else⟨#[]⟩),J6 J9 (Iz x p)]) e):AA A P Ms #[x.v] h R:=by
 refine Z0 ?_;unfold SS;refine al.mk λi _ j k ao=>ah.mk λK N=>?_
 have y: ∀(n:Int) e,Ext h e->Iz x p=n->n≠0->R (J1 #[J7 ⟨#[]⟩,J6 J9 n]) e:=λn e O Q r=>by
  have:=w e O;rw[Q,if_neg r] at this;exact this
 have z: ∀(ps:List UInt8) (b:aa),Ext i b->(x.kind=1->EA p=true/\ps=Bd p)->(x.kind≠1->ps= [])->K (AX ps,()) b:=λps b f m B=>by
  have c:=f.af j λh=>h
  have ap:ps.length<=1700:=by
   by_cases h:x.kind=1
   ·rw[(m h).2];exact KE (m h).1
   ·rw[B h];simp
  have C: ¬(x.kind=1/\EA p=false):=λh=>by have:=(m h.1).1;rw[h.2] at this;cases this
  refine N _ _ (ah.mk λt S=>?_);have u: ∀o:Bool,(o=true↔(x.kind=2/\Ai x.name=false)\/Ai x.wid=false\/Ai x.aW=false)->t (o,()) b:=λo D=>by
   refine S _ _ (ae.intro (λg=>y 1 b (k.trans f) (by unfold Iz;rw[if_neg C,if_pos (D.1 g)]) (by decide)) (λg=>?_));have g:o=false:=g;have T: ¬((x.kind=2/\Ai x.name=false)\/Ai x.wid=false\/Ai x.aW=false):=λh=>by rw[D.2 h] at g;cases g
   have E:Iz x p=0:=by unfold Iz;rw[if_neg C,if_neg T]
   obtain⟨aq,U,W,ar⟩:=TU E;have au:=Dw W;refine AJ.mk (n:=x.name) (AB c rfl) (ah.mk λX Y=>?_);have F: ∀d:List UInt8,d=(if x.kind=2 then bl x.name else [])->X (AX d,()) b:=λd G=>by
    have nl:d.length<=16:=by
     rw[G];split
     ·rename_i Z;rw[Av];exact Dw (U Z)
     ·simp
    refine Y _ _ (AC.mk (n:=x.kind) (AL c rfl) ?_);rw[OP (by omega) (by omega)];refine CR (by omega) λav H=>⟨_,rfl,AJ.mk (n:=x.wid) (AB (H.af c λh=>h) rfl) ⟨AB c rfl,Lp (by omega) λaw ab=>⟨_,rfl,?_⟩⟩⟩
    have ax:=GR (n:=x.kind.toNat) (by omega);have ay:=F7 (s:=x.wid) (by omega);have az:(BG d).length<=30:=by unfold BG;rw[A1];have:=AV (n:=d.length) (by omega);omega
    refine⟨by rw[AP,AP,max_i64];omega,?_⟩;rw[Ae];refine Qu (l:=d) (by omega) λac ad=>⟨_,rfl,⟨by rw[AP,AP,A1,max_i64];omega,?_⟩⟩
    rw[Ae];refine⟨by rw[AP,AP,A1,A1,max_i64];omega,?_⟩;rw[Ae];have:=w ac ((((k.trans f).trans H).trans ab).trans ad);rw[E,if_pos rfl] at this;have af:bE x p=((BH x.kind.toNat++BG (bl x.wid))++BG d)++ps:=by
     unfold bE;rw[G];simp only[A4];congr 3;split
     ·rename_i h;rw[(m h).2]
     ·rename_i h;rw[B h]
    rw[af] at this;exact this
   refine AC.mk (n:=x.kind) (AL c rfl) (ae.intro (λa=>?_) (λa=>?_))
   ·have a:x.kind≠2:=by simpa using a
    exact F [] (by rw[if_neg a])
   ·have a:x.kind=2:=by simpa using a
    have:=F (bl x.name) (by rw[if_pos a]);rw[JR] at this;exact this
  have rest:(x.kind=2->Ai x.name=true)->AJ b ((⟨h.size,0,none⟩:Q6).add 2) λag=>AA A P Bq #[J7 ag] b λai v=> ∃I:Bool,ai=J3 I/\(ae (!I) (t (true,()) v) (
    AJ v ((⟨h.size,0,none⟩:Q6).add 1) λaj=>AA A P Bq #[J7 aj] v λak am=> ∃J:Bool,ak=J3 J/\(t ((!J),()) am))):=λr=>
   AJ.mk (n:=x.wid) (AB c rfl) (Fb ⟨_,rfl,ae.intro (λa=>u true (by simp at a;simp[a])) λa=>AJ.mk (n:=x.aW) (AB c rfl) (Fb ⟨_,rfl,u _ (by
    have a:Ai x.wid=true:=by simpa using a
    simp only[a,CA,Bool.true_eq_false,false_or];constructor
    ·exact .inr
    ·rintro(⟨i,b⟩|h)
     ·rw[r i] at b;cases b
     ·exact h)⟩)⟩)
  refine AC.mk (n:=x.kind) (AL c rfl) (ae.intro (λa=>?_) (λa=>?_))
  ·have a:x.kind=2:=by simpa using a
   refine AJ.mk (n:=x.name) (AB c rfl) (Fb ⟨_,rfl,ae.intro (λq=>u true (by simp at q;simp[a,q])) λq=>rest λ_=>by simpa using q⟩)
  ·have a:x.kind≠2:=by simpa using a
   exact rest λh=>absurd h a
 refine AC.mk (n:=x.kind) (AL j rfl) (ae.intro (λa=>?_) (λa=>?_))
 ·have a:x.kind=1:=by simpa using a
  refine AY.mk (s:=x.steps) (AB j rfl) (AC.mk (n:=x.ar) (CG (by exact j) rfl) ?_);rw[M];refine ACM (V.ext k) len λb f=>?_
  unfold Nb;cases L:EA p with
  |false=>exact⟨_,_,rfl,ae.yes rfl (y 130 b (k.trans f) (by unfold Iz;rw[if_pos ⟨a,L⟩]) (by decide))⟩
  |true=>exact⟨_,_,rfl,ae.no rfl (z (Bd p) b f (λ_=>⟨L,rfl⟩) λh=>absurd a h)⟩
 ·have a:x.kind≠1:=by simpa using a
  exact z [] i Mod.refl (λh=>absurd h a) λ_=>rfl
end
def dz(a:Int)(b:A2P):Ev:=⟨0,a,0,0,0,0,false,b⟩
def Co(c:Option (List Ev))(wid:A2P)(a:Nat)(b:Int):bD:=match c with
 |none=>Oj wid a 0 0 false TS b
 |some l=>Oj wid a (Ca l).status (Ca l).next false (Ca l) b
def sC(p:cj)(a:Int):Int:=if(0:Int)>a+p.ar then 0 else a+p.ar
def DT(x:bO)(p:cj)(a:bD)(b:Nat):bD:=
 if x.kind=1 then(if 0<p.ar then F3 (Eu a (dz 1 (AX (Bd p)))) ⟨6,0,0⟩ (sC p a.now) b else Eu a (dz 1 (AX (Bd p))))
 else if x.kind=2 then Eu a (dz 12 x.name)
 else if x.kind=3 then(if a.st.cancel=true then a else Eu a (dz 13 ⟨#[]⟩))
 else Eu a (dz 18 ⟨#[]⟩)
def Hq(x:bO)(p:cj)(a:bD)(b:Nat):bD:=nK (DT x p a b) (Mt x.aW) (iO (bE x p) (Dk (DT x p a b)).1.toNat (Dk (DT x p a b)).2.toNat)
def KY(b:dd)(c:du)(d:Nat)(x:bO)(p:cj):Option (Int×Int×Int):=
 if x.kind<1\/4<x.kind then some (1,0,0)
 else if Iz x p≠0 then some (Iz x p,0,0)
 else if d=0 then some (170,0,0)
 else match c x.aW with
  |some a=>if a.1≠bE x p then some (184,0,0) else some (0,a.2.1,a.2.2)
  |none=>match b x.wid with
   |none=>if x.kind=1 then none else some (180,0,0)
   |some l=>if x.kind=1 then some (181,0,0) else if(Ca l).status≠0 then some (182,0,0) else none
theorem AJJ {a:Option (List Ev)}{wid:A2P}{n:Nat}{now:Int}(h: ∀l,a=some l->UA l):ER (Co a wid n now).st 500/\(Co a wid n now).more= []/\(Co a wid n now).au= []/\(Co a wid n now).conds= []/\(Co a wid n now).wid=wid/\(Co a wid n now).ao=n/\(Co a wid n now).now=now/\(Co a wid n now).fits (a.getD []):=by
 cases a with
 |none=>exact⟨ER.zero.up (by omega),rfl,rfl,rfl,rfl,rfl,rfl,rfl⟩
 |some l=>
  have b:=h l rfl;refine⟨?_,rfl,rfl,rfl,rfl,rfl,rfl,?_⟩
  ·have:=wK ER.zero b.ok;exact this.up (by have:=b.len;omega)
  ·show Ep TS (l++ [])=some (Ca l);rw[AN];exact b.ok
theorem AMk {x:bO}{p:cj}{a:bD}{num c:Nat}(u:Iz x p=0)(ok: ∀e∈a.more,FQ e=true/\e.data.size<1099511627776)(v:ER a.st c):a.grown (DT x p a num) (c+1) 1 1:=by
 obtain⟨w,y,C,D⟩:=TU u;have b:=WY ok v;have z:(⟨#[]⟩:A2P).size<1099511627776:=by decide
 have up: ∀ {d:bD},a.grown d (c+1) 1 0->a.grown d (c+1) 1 1:=λ{d} ⟨f,g,i,j,k,l,m,s,n,B,o,q⟩=>⟨f,g,i,j,k,l,m,s,n,by omega,o,q⟩
 unfold DT;split
 ·rename_i r;have t:(dz 1 (AX (Bd p))).data.size<1099511627776:=by show(AX (Bd p)).size<_;have:=KE (w r);rw[AP];omega
  split
  ·exact Wm (Lu b t) _ _ _
  ·exact up (Lu b t)
 ·split
  ·rename_i r;exact up (Lu b (e:=dz 12 x.name) (by have:=Dw (y r);show x.name.size<_;omega))
  ·split
   ·split
    ·obtain⟨f,g,i,j,k,l,m,s,n,B,o,q⟩:=b;exact⟨f,g,i,j,k,l,m,by omega,n,by omega,o,q.up (BT _)⟩
    ·exact up (Lu b z)
   ·exact up (Lu b z)
theorem APc {x:bO}{p:cj}{a:bD}{c:Nat}{b:List Ev}(h:a.fits b):(DT x p a c).fits b:=by
 unfold DT;split
 ·split
  ·exact Yw (Qy h)
  ·exact Qy h
 ·split
  ·exact Qy h
  ·split
   ·split
    ·exact h
    ·exact Qy h
   ·exact Qy h
theorem AJ3 {x:bO}{p:cj}{c:bD}{d:Nat}(h:c.au= []):(DT x p c d).beside none:=by
 have b:c.beside none:=⟨(λp a=>by rw[h] at a;cases a),(λp a=>by rw[h] at a;cases a),(λp a=>by rw[h] at a;cases a)⟩;unfold DT;split
 ·split
  ·exact UF (Lx b _) _ _ _
  ·exact Lx b _
 ·split
  ·exact Lx b _
  ·split
   ·split
    ·exact b
    ·exact Lx b _
   ·exact Lx b _
theorem sD {b:bD}{c:Ev}(h:(Eu b c).err=0):b.err=0:=by
 unfold Eu at h;split at h
 ·rename_i a;exact absurd h a
 ·rename_i a;simpa using a
theorem XV {b:bD}{t:gG}{tick:Int}{c:Nat}(h:(F3 b t tick c).err=0):b.err=0:=by
 unfold F3 at h;split at h
 ·rename_i a;exact absurd h a
 ·rename_i a;simpa using a
theorem pj {a:bD}{b:Ev}(h:(Eu a b).err=0):Eu a b= {a with st:=(Bj a.st (Ct a b)).2,more:=a.more++ [Ct a b]}/\(Bj a.st (Ct a b)).1=0:=by
 have d:=sD h;unfold Eu at h ⊢;rw[if_neg (by simp[d])] at h ⊢;split at h
 ·cases h
 ·rename_i e;rw[if_neg e];split at h
  ·rename_i c;exact absurd h c
  ·rename_i c;rw[if_neg c];exact⟨rfl,by simpa using c⟩
theorem AOO {a:bD}{b:Nat}(h:(FH a b).err=0):a.err=0:=by
 unfold FH at h;split at h
 ·exact sD (XV h)
 ·exact h
theorem sE {a:bD}{b c:Nat}(h:(BP a b c).err=0):(FH a b).err=0:=by
 unfold BP at h;split at h
 ·exact XV h
 ·exact h
theorem sF {a:bD}{c d:Nat}(h:(BP a c d).err=0):(BP a c d).st.status=(Dk a).1/\(BP a c d).st.next=(Dk a).2:=by
 have g:=sE h;have j:(BP a c d).st=(FH a c).st:=by
  unfold BP;split
  ·exact(I1 _ _ _ _).1
  ·rfl
 rw[j];unfold Dk;by_cases e:G9 a=true
 ·rw[if_pos e];unfold FH at g ⊢;rw[if_pos e] at g ⊢;rw[(I1 _ _ _ _).1];obtain⟨k,b⟩:=pj (XV g);rw[k];show(Bj a.st (Ct a XU)).2.status=_/\(Bj a.st (Ct a XU)).2.next=_;have ok:=QS b;unfold Bj at b ⊢;rw[if_neg (by simp[ok])] at b ⊢;split at b
  ·rename_i i;rw[if_neg (λh=>by have h:(2:Int)=1:=h.1;cases h)] at b;cases b
  ·rename_i i;rw[if_neg i];split at b
   ·cases b
   ·rename_i l;rw[if_neg l];split at b
    ·cases b
    ·rename_i m;rw[if_neg m];cases f:PW a.st (Ct a XU) with
     |none=>rw[f] at b;cases b
     |some t=>
      unfold PW at f;rw[if_pos (show 2<=(Ct a XU).kind/\(Ct a XU).kind<=5 from(by decide:(2:Int)<=2/\(2:Int)<=5))] at f;obtain⟨u,n,rfl⟩:=Option.map_eq_some_iff.1 f;exact⟨(P8 n).2.2.2,rfl⟩
 ·rw[if_neg e];unfold FH;rw[if_neg e];exact⟨rfl,rfl⟩
structure Hs.dm (y y':Hs):Prop where
 p:y'.p=y.p
 name:y'.name=y.name
 f:y'.f=y.f
 u: ∀m,y'.u m<=y.u m+3
theorem bW.less {g:aa}{O O':Nat->Prop}{c:Nat}(h:bW g O' c)(b: ∀c,O c->O' c):bW g O c:=⟨h.1,λd=>h.2 (b c d)⟩
theorem We(wid:A2P){n:Nat}(h:1<=n):BV wid n<n:=CM _ h
section
variable {A : ak} {B : cJ} {g h : aa} {s a N sh : Nat} {l : List Hs} {mp : List Pr} {O : Nat -> Prop} {i : Nat} {y : Hs} {fl : dd} {an : du} {R : A2O}
def sG(b:bD):Option (List Ev)->Prop
 |none=>b.cq=0
 |some l=>b.cD=(Ca l).status/\b.cq=(Ca l).next/\b.kept=false/\0<b.cq
theorem ARI {b:Option (List Ev)}{wid:A2P}{n:Nat}{now:Int}(h: ∀l,b=some l->UA l):(0<=(Co b wid n now).cD/\(Co b wid n now).cD<=4)/\(0<=(Co b wid n now).cq/\(Co b wid n now).cq<=501)/\sG (Co b wid n now) b:=by
 cases b with
 |none=>exact⟨⟨(by decide:(0:Int)<=0),(by decide:(0:Int)<=4)⟩,⟨(by decide:(0:Int)<=0),(by decide:(0:Int)<=501)⟩,rfl⟩
 |some l=>
  have c:=h l rfl;have st:=c.st;have nx:=c.next.1;have d:=c.len;exact⟨st,⟨by show 0<=(Ca l).next;omega,by show(Ca l).next<=501;omega⟩,rfl,rfl,rfl,by show 0<(Ca l).next;omega⟩
theorem AKB {b c:bD}{e d f:Nat}(G:b.grown c e d f)(h:b.more= []):c.more.length<=d:=by have:=G.more;rw[h] at this;simpa using this
theorem AMd {x:bO}{p:cj}{cW:J0}{now:Int}(cX:cp g)(ab:LW B g h s a N sh l mp O)(ag:l[i]? =some y)(ai:Ka mp fl an)(V:View Lr h x.steps p.steps)(a1:x.ar=p.ar)(len:p.steps.length<=1099511627776)
  (d3: -4611686018427300000<=now/\now<=4611686018427300000) (cf: ∀n,y.f n<=2147483647) (cg: ∀n,y.u n+3<16777216) (d4:N+3<=1000000) (hA:4+3*a<=B.A) (cY:64*a+64<=B.C) (c0:a+1<=1000000)
  (aJ: ∀f e st nx,KY fl an (y.f (BV x.wid sh)) x p=some (e,st,nx)->Ext h f->R (dw e st nx).v f)
  (c1: ∀f w a2 r u,KY fl an (y.f (BV x.wid sh)) x p=none->y.dm w->(BP (Hq x p (Co (fl x.wid) x.wid (BV x.wid sh) now) a2) r u).err≠0->LW B g f s a (N+3) sh (l.set i w) mp O->Mod (bW g O) h f->R (dw (BP (Hq x p (Co (fl x.wid) x.wid (BV x.wid sh) now) a2) r u).err 0 0).v f)
  (c2: ∀f w,KY fl an (y.f (BV x.wid sh)) x p=none->y.dm w->CK mp (Fx (BV x.wid sh) (y.f (BV x.wid sh)) y.name)=false->LW B g f s a (N+3) sh (l.set i (w.lost (BV x.wid sh))) mp O->Mod (bW g O) h f->R (dw 170 0 0).v f)
  (c3: ∀f w a2 r u D,D=BP (Hq x p (Co (fl x.wid) x.wid (BV x.wid sh) now) a2) r u->KY fl an (y.f (BV x.wid sh)) x p=none->y.dm w->D.err=0->LW B g f s (a+1) (N+3) sh (l.set i w) (dc mp (FX D++D.au)) O->
   Ka (dc mp (FX D++D.au)) (dN fl x.wid ((fl x.wid).getD []++D.more)) (dN an x.aW (bE x p,D.st.status,D.st.next))->Ca ((fl x.wid).getD []++D.more)=D.st->(∀ n br ch,CK (dc mp (FX D++D.au)) (Fx n br ch)=CK mp (Fx n br ch))->Mod (bW g O) h f->R (dw 0 D.st.status D.st.next).v f):
  AA A P FL #[Az y.p,cW,J6 J9 now,x.v] h R:=by
 obtain⟨-,ci,c4⟩:=ab.dG ag;have ck:=(List.getElem?_eq_some_iff.1 ag).1;have cZ:l.set i y=l:=by rw[<- (List.getElem?_eq_some_iff.1 ag).2];exact Pc ck
 have d5:=We x.wid ci;refine Zi ?_;unfold SN;refine al.mk λaj _ ak bs d6=>al.mk λav _ a3 cl d7=>?_
 have ac:Ext h av:=bs.trans cl;have ak:av[h.size]? =some (J2 x.c Cj (0,0)):=cl.af ak λh=>h
 have d8:=Af a3;have aK: ∀ {S:aa} (e st nx:Int),Ext av S->(∀ f,Ext h f->R (dw e st nx).v f)->aP S ⟨aj.size,0,none⟩ (dw e st nx).l λa4=>Dj a4 ⟨aj.size,0,none⟩ λc5=>R (c5.v) a4:=λ{S} e st nx H c6=>
  UG (H.af a3 λh=>h) λf bt=>c6 f ((ac.trans H).more bt λc d=>by subst d;exact bs.size)
 refine ah.mk λK c7=>?_
 have cm: ∀a5:Bool,(a5=true↔x.kind<1\/4<x.kind)->K (a5,()) av:=λa5 cn=>by
  refine c7 _ _ (ae.intro (λk=>aK 1 0 0 Mod.refl λf H=>aJ f 1 0 0 (by unfold KY;rw[if_pos (cn.1 k)]) H) (λk=>?_));have k:a5=false:=k;have bu: ¬(x.kind<1\/4<x.kind):=λh=>by rw[cn.2 h] at k;cases k
  have co:1<=x.kind/\x.kind<=4:=by omega
  refine LX.mk x (DU ak rfl) (AMw (V.ext ac) a1 len co λd9 aT=>⟨_,_,rfl,?_⟩);by_cases ad:Iz x p=0;rotate_left
  ·refine ae.yes (by simp[ad]) (aK (Iz x p) 0 0 aT λf H=>aJ f _ 0 0 (by unfold KY;rw[if_neg bu,if_pos ad]) H)
  rw[if_pos ad];refine ae.no (by simp[ad]) (ae.no rfl ?_);obtain⟨bv,c8,aw,aU⟩:=TU ad;have ea:=Dw aw;have eb:=Dw aU;have dl:=AO4 ad co;have bw:=ab.on (ac.trans aT);have bx:=aT.af ak λh=>h
  refine AJ.mk (n:=x.wid) (AB bx rfl) (bw.aI ag ⟨_,rfl,⟨AB bx rfl,Yd (by omega) ci c4 ⟨_,_,rfl,bw.holds ag ⟨_,rfl,?_⟩⟩⟩⟩);refine ae.intro (λk=>aK 170 0 0 aT λf H=>aJ f 170 0 0 (by unfold KY;rw[if_neg bu,if_neg (by simp[ad]),if_pos (by simpa using k)]) H) (λk=>?_);have cq:y.f (BV x.wid sh)≠0:=by simpa using k
  have q:KY fl an (y.f (BV x.wid sh)) x p=match an x.aW with
    |some E=>if E.1≠bE x p then some (184,0,0) else some (0,E.2.1,E.2.2)
    |none=>match fl x.wid with
     |none=>if x.kind=1 then none else some (180,0,0)
     |some l=>if x.kind=1 then some (181,0,0) else if(Ca l).status≠0 then some (182,0,0) else none:=by
   unfold KY;rw[if_neg bu,if_neg (by simp[ad]),if_neg cq];try rfl
  refine AJ.mk (n:=x.aW) (AB bx rfl) (AHz bw ag ai aU λec c9=>?_);have a6:=aT.trans c9;cases bz:an x.aW with
  |some E=>
   rw[bz] at q;refine⟨_,Je.mk (dw 0 E.2.1 E.2.2) ⟨_,_,rfl,al.mk λa4 _ bA bC da=>aP.mk bA (A0 9) λbF bG bH db=>ae.no rfl ?_⟩⟩;rw[kZ] at bG;have ax:Ext av bF:=(a6.trans bC).more bH λc d=>by subst d;exact a6.size
   refine ah.mk λdd bI=>ae.yes rfl (bI _ _ ?_)
   rw[CP];refine ae.intro (λk=>aK 184 0 0 ax λf H=>aJ f 184 0 0 (by
    have k: ¬(AX E.1=AX (bE x p)):=by simpa using k
    rw[q];show(if E.1≠bE x p then _ else _)=_;rw[if_pos λh=>k (by rw[h])]) H) (λk=>ae.yes rfl (Dj.mk (dw 0 E.2.1 E.2.2) (Iw bG) (aK 0 E.2.1 E.2.2 ax λf H=>aJ f 0 E.2.1 E.2.2 (by
    have k:AX E.1=AX (bE x p):=by simpa using k
    rw[q];show(if E.1≠bE x p then _ else _)=_;rw[if_neg (by rw[Kc.1 k];simp)]) H)))
  |none=>
   rw[bz] at q;refine⟨_,Je.mk bT.z ⟨_,_,rfl,al.mk λa4 _ bA bC da=>aP.mk bA (A0 9) λbF bG bH db=>ae.no rfl ?_⟩⟩;have ax:Ext av bF:=(a6.trans bC).more bH λc d=>by subst d;exact a6.size
   refine ah.mk λdd bI=>ae.no rfl (bI _ _ (ae.no rfl (ae.no rfl ?_)))
   have de:=ab.on (ac.trans ax);refine AJ.mk (n:=x.wid) (AB (ax.af ak λh=>h) rfl) (pg de ag ai (λh=>by rw[aw] at h;cases h) λ_ aV cr=>TZ.mk _ ⟨_,rfl,al.mk λed _ df dg ee=>aP.mk df (A0 18) λbJ ay dh ef=>?_⟩);rw[kY] at ay;have cs:Ext aV bJ:=dg.more dh λc d=>by subst d;exact A0 _
   have az:Ext av bJ:=(ax.trans cr).trans cs;have eg:=(ax.trans cr).size;have a7:=az.af ak λh=>h
   refine ah.mk λct cv=>?_
   have bK: ∀(e:Int),e≠0->KY fl an (y.f (BV x.wid sh)) x p=some (e,0,0)->ct (e,()) bJ:=λe I d=>
    cv _ _ (ae.yes (by simp[I]) (aK e 0 0 az λf H=>aJ f e 0 0 d H))
   have cw: ∀l,fl x.wid=some l->UA l:=λl aA=>ai.eo _ _ aA
   obtain⟨aW,bL,bM,cx,bN,cy,cz,di⟩:=AJJ (wid:=x.wid) (n:=BV x.wid sh) (now:=now) cw;obtain⟨eh,dj,aL⟩:=ARI (wid:=x.wid) (n:=BV x.wid sh) (now:=now) cw;have cB: ∀ {S:aa} {es:Sl} {a' b' c':Sl},KY fl an (y.f (BV x.wid sh)) x p=none->Ext h S->S[h.size]? =some (J2 x.c Cj (0,0))->S[aj.size]? =some (J2 bT.z.c Br (0,0))->
     (∃ fv:cu,S[aV.size]? =some (J2 fv.c DW (0,0))/\fv=⟨x.wid,(BV x.wid sh:Int),⟨(Co (fl x.wid) x.wid (BV x.wid sh) now).cD,(Co (fl x.wid) x.wid (BV x.wid sh) now).cq,false⟩,es,(Co (fl x.wid) x.wid (BV x.wid sh) now).st.V a' b' c'⟩)->
     Jk S (Co (fl x.wid) x.wid (BV x.wid sh) now).st a' b' c'->(∀ c,a'.af=some c\/b'.af=some c\/c'.af=some c->aV.size<c)->(∀ a8:bD,a8=Oj x.wid (BV x.wid sh) (Co (fl x.wid) x.wid (BV x.wid sh) now).cD (Co (fl x.wid) x.wid (BV x.wid sh) now).cq false (Co (fl x.wid) x.wid (BV x.wid sh) now).st now->a8=Co (fl x.wid) x.wid (BV x.wid sh) now)->
     ct (0,()) S:=λ{S es a' b' c'} dk bP dn dp aX a9 fr bQ=>by
    have bQ:=bQ _ rfl;have ba:=dk;generalize ei:Co (fl x.wid) x.wid (BV x.wid sh) now=b at*
    obtain⟨fv,aX,rfl⟩:=aX;refine cv _ _ (ae.no rfl (Jd.mk _ (pd aX) ?_));have ej:=Af aX
    let L:Nat->Prop:=λc=>O c\/c=h.size\/c=aj.size\/c=aV.size
    have cC: ∀c,ij b.st a' b' c' c->aV.size<c:=λc d=>fr c (by
     rcases d with⟨_,h⟩|⟨_,h⟩|⟨_,h⟩
     ·exact .inl h
     ·exact .inr (.inl h)
     ·exact .inr (.inr h))
    have ek:=bs.size;have cD: ∀c,O c->c<h.size:=λc d=>(ab.out d).1
    have dq:LW B g S s a N sh (l.set i y) mp (λc=>L c\/ij b.st a' b' c' c):=by
     rw[cZ];refine ab.own bP.mod λc d=>?_
     rcases d with(h|h|h|h)|h
     ·exact .inl h
     ·exact .inr (by omega)
     ·exact .inr (by omega)
     ·exact .inr (by omega)
     ·exact .inr ⟨by have:=cC c h;omega,a9.lt h⟩
    refine AP2 (O:=L) (now:=now) dq ck a9 (λc d M=>?_) λaC bb z cE aM X=>⟨_,rfl,?_⟩
    ·have:=cC c d;rcases M with h|h|h|h
     ·have:=cD c h;omega
     ·omega
     ·omega
     ·omega
    rw[bQ] at aM;have bR: ∀ {c:Nat} {v:aa} {o:Obj},v[c]? =some o-> ∀ {Q:aa},L c->Mod (bW g L) v Q->Q[c]? =some o:=λ{c v o} bS {Q} M m=>m.af bS λbU=>bU.2 M
    have cF:L h.size:= .inr (.inl rfl);have bc:L aj.size:= .inr (.inr (.inl rfl));have aN:=X.af dn λh=>h
    have dr:=X.af dp λh=>h
    have ds: ∀e∈b.more,FQ e=true/\e.data.size<1099511627776:=λe I=>by rw[bL] at I;cases I
    refine AC.mk (n:=x.kind) (AL aN rfl) (ah.mk λcG dt=>?_);have bV: ∀ {J:aa} {z':Nat->Nat} {gJ:eW} {w:Hs} (num:Nat),CW B g J s a (N+1) sh l i w mp L bb z' gJ (DT x p b num)->y.dp w->Mod (bW g L) aC J->cG () J:=λ{J z' gJ w} num aO T bX=>by
     have G:=AMk (num:=num) ad ds aW;have du:=AKB G bL;have bY:=G.au;rw[bM] at bY;have nx:=G.st.next;have dv:=bR aN cF bX;have dx:=bR dr bc bX;refine dt _ _ (AQp aO nx λaD aE=>Je.mk (dw 0 (Dk (DT x p b num)).1 (Dk (DT x p b num)).2) ⟨rfl,al.mk λdy _ dA bZ el=>aP.mk dA (A0 9) λb0 am dB en=>?_⟩);rw[kZ] at am;have bd:Ext J b0:=(aE.trans bZ).more dB λc d=>by subst d;exact aE.size
     have be:=aE.size;have eo:=Af am
     let aF:Nat->Prop:=λc=>L c\/c=aD.size
     have dC:CW B g b0 s a (N+1) sh l i w mp aF bb z' gJ (DT x p b num):=aO.wider (O':=aF) bd.mod λc d=>d.imp id λh=>by omega
     have cH:0<=(Dk (DT x p b num)).1/\(Dk (DT x p b num)).1<=4:=G.st.st;have cI:0<=(Dk (DT x p b num)).2/\(Dk (DT x p b num)).2<=502:=by unfold Dk;dsimp only;split<;>omega
     have b1:=GR (n:=(Dk (DT x p b num)).1.toNat) (by omega);have ep:=GR (n:=(Dk (DT x p b num)).2.toNat) (by omega);have eq:=AV (n:=(bE x p).length) (by omega);have er:(BG (bE x p)).length<=2010:=by unfold BG;rw[A1];omega
     refine AJ.mk (n:=x.aW) (AB (bd.af dv λh=>h) rfl) (sU (by omega) ⟨_,rfl,Qu (l:=bE x p) (by omega) λet cJ=>⟨_,rfl,?_⟩⟩);have b2:=cJ.af am λh=>h
     refine AC.mk (n:=(Dk (DT x p b num)).1) (AB b2 rfl) ⟨AB am rfl,AB am rfl,?_⟩;rw[OP (by omega) (by omega)];refine CR (by omega) λeu cK=>⟨_,rfl,⟨by rw[AP,AP,max_i64];omega,?_⟩⟩
     rw[Ae];have dD:=cK.af b2 λh=>h
     refine AC.mk (n:=(Dk (DT x p b num)).2) (AB dD rfl) ⟨AB b2 rfl,AB am rfl,AB am rfl,?_⟩;rw[OP (by omega) (by omega)];refine CR (by omega) λev dE=>⟨_,rfl,⟨by rw[AP,AP,A1,max_i64];omega,?_⟩⟩
     rw[Ae,A4];have bf:=(cJ.trans cK).trans dE;have dF:=dC.on bf;refine ANW (key:=Mt x.aW) (val:=iO (bE x p) (Dk (DT x p b num)).1.toNat (Dk (DT x p b num)).2.toNat) dF (by rw[G.conds,cx];decide) (by simp at bY;omega) λb3 ew ex cL b4=>⟨rfl,?_⟩
     have bg: ∀ {c:Nat} {v:aa} {o:Obj},v[c]? =some o-> ∀ {Q:aa},aF c->Mod (bW g aF) v Q->Q[c]? =some o:=λ{c v o} bS {Q} M m=>m.af bS λbU=>bU.2 M
     have cM:aF aD.size:= .inr rfl;have dG:=bg (bf.af am λh=>h) cM b4;have dH:=bg (bf.af (bd.af dx λh=>h) λh=>h) (.inl bc) b4;have dI:nK (DT x p b num) (Mt x.aW) (iO (bE x p) (Dk (DT x p b num)).1.toNat (Dk (DT x p b num)).2.toNat)=Hq x p b num:=rfl;rw[dI] at cL;have ao:(Hq x p b num).conds= [⟨Mt x.aW,⟨#[]⟩,true⟩]:=by show(DT x p b num).conds++_=_;rw[G.conds,cx];rfl
     have aY:(Hq x p b num).ao=BV x.wid sh:=G.ao.trans cy;have b5:(Hq x p b num).wid=x.wid:=G.wid.trans bN;have ey:(Hq x p b num).au.length<=2:=by show((DT x p b num).au++ [_]).length<=2;rw[A1,Dd];simp at bY;omega
     have b6: ∀ {v:aa},Mod (bW g aF) b3 v->v[aj.size]? =some (J2 bT.z.c Br (0,0))/\Mod (bW g O) h v:=λ{v} m=>⟨bg dH (.inl bc) m,by
      have bh:Mod (bW g O) h aC:=(bP.trans X).mod;have dJ:Mod (bW g O) aC J:=bX.ai λc _ d=>bW.less d λc M=> .inl M
      have dK:Mod (bW g O) b0 b3:=bf.mod.trans (b4.ai λc _ d=>bW.less d λc M=> .inl (.inl M));have dL:Mod (bW g O) b3 v:=m.ai λc _ d=>bW.less d λc M=> .inl (.inl M)
      exact(((bh.trans dJ).trans bd.mod).trans dK).trans dL⟩
     have b7: ∀ {v Q:aa} {bh cN:Nat} {b1:List Hs} {cO:List Pr},LW B g v s bh cN sh b1 cO aF->Mod (· =aj.size) v Q->LW B g Q s bh cN sh b1 cO O:=λdM m=>dM.own (m.ai λc _ d=>by subst d;exact .inl bc) λc d=> .inl (.inl (.inl d))
     have b8: ∀ {v Q:aa},Mod (bW g O) h v->Mod (· =aj.size) v Q->Mod (bW g O) h Q:=λm bt=>m.trans (bt.ai λc _ d=>by
      subst d;have:=ab.ext.size;exact⟨by omega,λM=>by have:=cD _ M;omega⟩)
     have dm: ∀ {Y:Hs},w.dI Y->y.dm Y:=λ{Y} U=>⟨U.p.trans T.p,U.name.trans T.name,U.f.trans T.f,λm=>by have:=T.u m;have:=U.u m;omega⟩
     have dO:Fx (Hq x p b num).ao (w.f (Hq x p b num).ao) w.name=Fx (BV x.wid sh) (y.f (BV x.wid sh)) y.name:=by rw[aY,T.f,T.name]
     have dP:bB (Hq x p b num)=bB b:=by show bB (DT x p b num)=_;unfold bB;rw[G.cq,G.cD,G.kept,G.wid]
     have dQ:CK mp (bB (Hq x p b num))=true:=by
      rw[dP];refine AJP ai (by rw[bN];exact aw) ?_;rw[bN];unfold sG at aL;split at aL
      ·rename_i C;first|exact aL|(rw[C];exact aL)
      ·rename_i C;first|exact aL|(rw[C];exact aL)
     have cP:ER (Hq x p b num).st (500+1):=G.st;have cQ: ∀e∈(Hq x p b num).more,FQ e=true/\e.data.size<1099511627776:=G.ok;refine ANL cX cL cP (by omega) (by rw[b5];exact aw) cQ (by rw[aY];omega) (by rw[aY,T.f];exact cf _) (by have:=T.u (Hq x p b num).ao;have:=cg (Hq x p b num).ao;omega) (by omega) hA cY c0 (by show(DT x p b num).more.length<=_;omega) (by omega) (by rw[ao];simp) (λF k=>by
       rw[ao] at k;rw[List.mem_singleton.1 k];show(Mt x.aW).size<=_;rw[U0];omega) (by show 0<=(DT x p b num).cD/\(DT x p b num).cD<128;rw[G.cD];omega) (by show 0<=(DT x p b num).cq/\(DT x p b num).cq<=501;rw[G.cq];exact dj) (by show -_<=(DT x p b num).now/\(DT x p b num).now<=_;rw[G.now,cz];omega)
      (λdR=>absurd dR (by rw[aY,T.f];exact cq)) (λr u Y b9 U I aG aH=>⟨_,rfl,?_⟩) (λr u Y b9 U I aA aG aH=>⟨_,rfl,?_⟩) (λr u Y b9 U I aA hd aG aH=>?_) (λr u Y b9 U I aA hd aG aH=>⟨_,rfl,?_⟩)
     ·obtain⟨aQ,aR⟩:=b6 aH;refine ae.yes (by simpa using I) (UG (x:=dw (BP (Hq x p b num) r u).err 0 0) aQ λaZ ap=>?_);exact c1 aZ Y num r u ba (dm U) I (b7 aG ap) (b8 aR ap)
     ·obtain⟨aQ,aR⟩:=b6 aH;rw[dO] at aA;refine ae.yes rfl (UG (x:=dw 170 0 0) aQ λaZ ap=>?_);rw[aY] at aG;exact c2 aZ Y ba (dm U) aA (b7 aG ap) (b8 aR ap)
     all_goals
      have W:=td (n:=500+1) cQ cP r u;have ca:(BP (Hq x p b num) r u).beside (some (x.aW,(bE x p,(Dk (DT x p b num)).1,(Dk (DT x p b num)).2))):=by have vc:=(sF I).2;have:=W.st.next;refine AGV (AIL (x:=(bE x p,(Dk (DT x p b num)).1,(Dk (DT x p b num)).2)) (AJ3 bM) aU cH ?_ dl) r u;have dS:(Dk (Hq x p b num)).2=(Dk (DT x p b num)).2:=rfl;rw[dS] at vc;exact⟨cI.1,by show(Dk (DT x p b num)).2<=501;omega⟩
      have mem:YJ x.aW (bE x p,(Dk (DT x p b num)).1,(Dk (DT x p b num)).2)∈(BP (Hq x p b num) r u).au:=AMB (Hh _ (by simp[YJ])) r u
     ·exfalso;refine hd (ATa (by rw[W.wid,b5];exact aw) W.ok W.st ca ?_ (λh=>?_) ?_ λc d=>?_)
      ·have aQ:=W.more;have aR:=W.au;have ez:(Hq x p b num).more.length<=1:=du;omega
      ·rw[Wb] at h;rw[h.2] at mem;cases mem
      ·rw[ao];simp
      ·rw[ao] at d;rcases List.mem_cons.1 d with rfl|d
       ·exact aA
       ·rcases List.mem_append.1 d with d|d
        ·rw[List.mem_singleton.1 d];exact AMX ai aU bz
        ·rw[List.mem_singleton.1 d];exact dQ
     ·obtain⟨aQ,aR⟩:=b6 aH;obtain⟨bi,bj⟩:=sF I;have bi:(BP (Hq x p b num) r u).st.status=(Dk (DT x p b num)).1:=bi;have bj:(BP (Hq x p b num) r u).st.next=(Dk (DT x p b num)).2:=bj;have dT:=bg dG cM aH;refine ae.no rfl (Dj.mk (dw 0 (Dk (DT x p b num)).1 (Dk (DT x p b num)).2) (Iw dT) (UG aQ λaZ ap=>?_));rw[<- bi,<-bj];have cR:(BP (Hq x p b num) r u).fits ((fl x.wid).getD []):=AJZ (APc di);have bk:(BP (Hq x p b num) r u).wid=x.wid:=W.wid.trans b5;have cS:(fl x.wid).getD []++(BP (Hq x p b num) r u).more≠ []:=by
       intro h;rw[Wb] at h;have bm:x.kind=1:=by
        cases C:fl x.wid with
        |some l=>
         rw[C] at h;exact absurd h.1 (ai.eo _ _ C).ne
        |none=>
         rw[C] at q;rw[ba] at q;by_cases bm:x.kind=1
         ·exact bm
         ·have q:(none:Option (Int×Int×Int))=if x.kind=1 then none else some (180,0,0):=q;rw[if_neg bm] at q;cases q
       have aq:(Hq x p b num).err=0:=AOO (sE I);have aq:(DT x p b num).err=0:=aq;refine W.none (λaf=>?_) h.2;have af:(DT x p b num).more= []:=af;unfold DT at af aq;rw[if_pos bm] at af aq;split at af
       ·rename_i cb;rw[if_pos cb] at aq;rw[(I1 _ _ _ _).2,(pj (XV aq)).1] at af;simp at af
       ·rename_i cb;rw[if_neg cb] at aq;rw[(pj aq).1] at af;simp at af
      have a0:=ai.done ab.sorted (D:=BP (Hq x p b num) r u) (o:=some (x.aW,(bE x p,(Dk (DT x p b num)).1,(Dk (DT x p b num)).2))) (by rw[bk];exact aw) (by rw[bk];exact cR) (by rw[bk];exact cS) W.st ca (λbr eA dU=>by
       cases dU;have:=W.st.next;exact⟨mem,aU,cH,⟨cI.1,by show(Dk (DT x p b num)).2<=501;omega⟩,dl⟩)
      rw[bk] at a0;have a0:Ka _ _ (dN an x.aW (bE x p,(Dk (DT x p b num)).1,(Dk (DT x p b num)).2)):=a0;rw[<- bi,<-bj] at a0;exact c3 aZ Y num r u _ rfl ba (dm U) I (b7 aG ap) a0 (sA cR cS W.st).2 (AIl ab.sorted ca) (b8 aR ap)
    have dV:CW B g aC s a (N+1) sh l i y mp L bb z cE b:=aM.put (by omega) (by omega) (by omega);have bn: ∀ {J z' gJ} (e:Ev) (D:bD),D=Eu b e->CW B g J s a N sh l i y mp L bb z' gJ D->Mod (bW g L) aC J->(∀ num,DT x p b num=D)->cG () J:=λ{J z' gJ} e D eB aO aS d=>bV (z':=z') (gJ:=gJ) 0 (by rw[d];exact aO.put (by omega) (by omega) (by omega)) (Hs.dp.refl y) aS
    have cT:(⟨#[]⟩:A2P).size<1099511627776:=by decide
    have bo:b.more.length<1000:=by rw[bL];decide
    refine ae.intro (λj=>?_) (λj=>?_)
    ·have j:x.kind=1:=by simpa using j
     refine AY.mk (s:=x.steps) (AB aN rfl) (AC.mk (n:=x.ar) (CG (by exact aN) rfl) ?_);rw[a1];refine ACM (V.ext (bP.trans X)) len λJ bp=>?_
     have aO:=aM.on bp;unfold Nb;rw[bv j];have eC:=KE (bv j);refine⟨_,_,rfl,lj (e:=dz 1 (AX (Bd p))) aO aW (by omega) (by show(AX (Bd p)).size<_;rw[AP];omega) bo λaD be aE ar aI=>⟨rfl,?_⟩⟩;have cc:Mod (bW g L) aC aD:=bp.mod.trans aI;have cU:=bR aN cF cc;refine AC.mk (n:=x.ar) (CG (by exact cU) rfl) ?_;rw[a1];refine ae.intro (λk=>?_) (λk=>?_)
     ·have k:0<p.ar:=by simpa using k
      have eD:=(wG (bv j)).2.1;refine AC.mk (n:=x.ar) (CG (by exact cU) rfl) ?_;rw[a1,wrap_i64 (by omega) (by omega)];have dW:(Eu b (dz 1 (AX (Bd p)))).ao=BV x.wid sh:=(ZQ _ _).2.1.trans cy;refine sZ (t:=⟨6,⟨#[]⟩,0,0⟩) ar (by rw[dW];omega) (cf _) (by have:=cg (Eu b (dz 1 (AX (Bd p)))).ao;omega) (by omega) (by omega) (by rw[sx,bM];decide) (by omega) λdy dX bZ w num dY T dZ=>⟨rfl,?_⟩
      refine bV (z':=dX) (gJ:=bZ) num ?_ T (cc.trans dZ);have ao:DT x p b num=F3 (Eu b (dz 1 (AX (Bd p)))) ⟨6,0,0⟩ (if(0:Int)>now+p.ar then 0 else now+p.ar) num:=by unfold DT sC;rw[if_pos j,if_pos k,cz]
      rw[ao];exact dY
     ·have k: ¬0<p.ar:=by simpa using k
      exact bn (dz 1 (AX (Bd p))) _ rfl ar cc λnum=>by unfold DT;rw[if_pos j,if_neg k]
    have j:x.kind≠1:=by simpa using j
    refine ae.intro (λZ=>?_) (λZ=>?_)
    ·have Z:x.kind=2:=by simpa using Z
     refine AJ.mk (n:=x.name) (AB aN rfl) (lj (e:=dz 12 x.name) aM aW (by omega) (by have:=Dw (c8 Z);show x.name.size<_;omega) bo λaD be aE ar aI=>⟨rfl,?_⟩);exact bn (dz 12 x.name) _ rfl ar aI λnum=>by unfold DT;rw[if_neg j,if_pos Z]
    have Z:x.kind≠2:=by simpa using Z
    refine ae.intro (λau=>?_) (λau=>?_)
    ·have au:x.kind=3:=by simpa using au
     have d0:=X.af aX λh=>h
     refine Ac.mk (n:=b.st.cancel) (CG (by exact d0) rfl) (ae.intro (λd=>?_) (λd=>?_))
     ·have d: ¬b.st.cancel=true:=by simpa using d
      refine lj (e:=dz 13 ⟨#[]⟩) aM aW (by omega) cT bo λaD be aE ar aI=>⟨rfl,?_⟩
      exact bn (dz 13 ⟨#[]⟩) _ rfl ar aI λnum=>by unfold DT;rw[if_neg j,if_neg Z,if_pos au,if_neg d]
     ·have d:b.st.cancel=true:=by simpa using d
      refine bV (z':=z) (gJ:=cE) 0 ?_ (Hs.dp.refl y) Mod.refl;have ao:DT x p b 0=b:=by unfold DT;rw[if_neg j,if_neg Z,if_pos au,if_pos d]
      rw[ao];exact dV
    have au:x.kind≠3:=by simpa using au
    refine ae.yes (by simp;omega) (lj (e:=dz 18 ⟨#[]⟩) aM aW (by omega) cT bo λaD be aE ar aI=>⟨rfl,?_⟩);exact bn (dz 18 ⟨#[]⟩) _ rfl ar aI λnum=>by unfold DT;rw[if_neg j,if_neg Z,if_neg au]
   refine AC.mk (n:=x.kind) (AL a7 rfl) ?_;cases C:fl x.wid with
   |none=>
    rw[C] at q ay;refine ae.intro (λj=>?_) (λj=>?_)
    ·have j:x.kind=1:=by simpa using j
     have q:KY fl an (y.f (BV x.wid sh)) x p=if x.kind=1 then none else some (180,0,0):=q;rw[if_pos j] at q;refine ae.no rfl (ae.yes rfl (cB (es:=fR) (a':=fR) (b':=fR) (c':=fR) q (ac.trans az) a7 (az.af a3 λh=>h) ⟨_,ay,by rw[C];rfl⟩ ?_ (λc d=>by simp[Sl.af] at d) (λa8 cd=>by rw[cd,C];rfl)));rw[C];exact⟨View.nil,View.nil,View.nil⟩
    ·have j:x.kind≠1:=by simpa using j
     have q:KY fl an (y.f (BV x.wid sh)) x p=if x.kind=1 then none else some (180,0,0):=q;rw[if_neg j] at q;exact ah.mk λd1 ce=>ae.no rfl (ce _ _ (ae.no rfl (ae.no rfl (bK 180 (by decide) q))))
   |some bq=>
    rw[C] at q ay;have q:KY fl an (y.f (BV x.wid sh)) x p=if x.kind=1 then some (181,0,0) else if(Ca bq).status≠0 then some (182,0,0) else none:=q;refine ae.intro (λj=>?_) (λj=>?_)
    ·have j:x.kind=1:=by simpa using j
     rw[if_pos j] at q;exact ae.yes rfl (bK 181 (by decide) q)
    have j:x.kind≠1:=by simpa using j
    rw[if_neg j] at q;refine ah.mk λd1 ce=>ae.yes rfl (AC.mk (n:=(Ca bq).status) (Cg (by exact ay) rfl) (ce _ _ (ae.intro (λF=>?_) (λF=>?_))))
    ·have F:(Ca bq).status≠0:=by simpa using F
     rw[if_pos F] at q;exact bK 182 (by decide) q
    have F:(Ca bq).status=0:=by simpa using F
    rw[if_neg (by simp[F])] at q;have d2:=ab.on (ac.trans az);refine ae.yes rfl (AJ.mk (n:=x.wid) (AB a7 rfl) (AQC d2 ag ai aw C λaC es a' b' c' X eE a9 fr eF=>TZ.mk _ ⟨_,rfl,aP.mk (X.af ay λh=>h) (A0 18) λJ cV aS eG=>?_⟩));rw[kY] at cV;have eH:=cs.size;have eI:=Af ay;have bp:Ext h J:=((ac.trans az).trans X).more aS λc d=>by subst d;have:=ac.size;omega
    refine cB q bp (aS.af (X.af a7 λh=>h) (by have:=ac.size;omega)) (aS.af (X.af (az.af a3 λh=>h) λh=>h) (by omega)) ⟨_,cV,by rw[C];rfl⟩ ?_ (λc d=>by have:=fr c d;omega) (λa8 cd=>by rw[cd,C];rfl);rw[C];exact a9.fresh aS fr λc d=>by subst d;omega
 refine AC.mk (n:=x.kind) (AL ak rfl) (ae.intro (λF=>cm true ?_) (λF=>AC.mk (n:=x.kind) (AL ak rfl) (cm _ ?_)))
 ·have F:x.kind<1:=by simpa using F
  simp[F]
 ·have F: ¬x.kind<1:=by simpa using F
  simp[F]
end
def XA(x:bO)(p:cj):List UInt8:=BH x.kind.toNat++((if x.kind=1 then BG (Bd p) else [])++((if x.kind=2 then BG (bl x.name) else [])++bl x.wid))
theorem Um {a b s t:List UInt8}(c:a.length<18446744073709551616)(d:b.length<18446744073709551616)(h:BG a++s=BG b++t):a=b/\s=t:=by unfold BG at h;rw[A4,A4] at h;obtain⟨e,f⟩:=XJ c d h;exact List.append_inj f e
theorem Zv {a b:A2P}(h:bl a=bl b):a=b:=by rw[<- DL a,<-DL b];exact congrArg AX h
def la(x:bO)(p:cj)(x':bO)(p':cj):Prop:=x.kind=x'.kind/\x.wid=x'.wid/\(x.kind=2->x.name=x'.name)/\(x.kind=1->Bd p=Bd p')
section
variable {x x' : bO} {p p' : cj}
theorem la.bE(h:la x p x' p'):bE x p=G.bE x' p':=by
 obtain⟨b,c,d,e⟩:=h;unfold G.bE;rw[<- b,c];congr 3
 ·congr 1;split
  ·rename_i a;rw[d a]
  ·rfl
 ·split
  ·rename_i a;exact e a
  ·rfl
theorem la.doc(h:la x p x' p'):XA x p=XA x' p':=by
 obtain⟨b,c,d,e⟩:=h;unfold XA;rw[<- b,c];congr 2
 ·split
  ·rename_i a;rw[e a]
  ·rfl
 ·congr 1;split
  ·rename_i a;rw[d a]
  ·rfl
theorem sH(n:Iz x p=0)(o:Iz x' p'=0)(z:1<=x.kind/\x.kind<=4)(B:1<=x'.kind/\x'.kind<=4)(h:bE x p=bE x' p'\/XA x p=XA x' p'):la x p x' p':=by
 obtain⟨q,i,r,C⟩:=TU n;obtain⟨t,j,u,D⟩:=TU o;have v:=Dw r;have w:=Dw u;have c: ∀ {s:A2P},s.size<=16->(bl s).length<18446744073709551616:=λh=>by rw[Av];omega
 have k: ∀ {p:cj},EA p=true->(Bd p).length<18446744073709551616:=λh=>by have:=KE h;omega
 rcases h with h|h
 ·unfold bE at h;obtain⟨y,a⟩:=XJ (by omega) (by omega) h;have b:x.kind=x'.kind:=by omega
  obtain⟨d,e⟩:=Um (c v) (c w) a;obtain⟨l,m⟩:=Um (by split;(rename_i b;exact c (Dw (i b)));simp) (by split;(rename_i b;exact c (Dw (j b)));simp) e;refine⟨b,Zv d,λh=>?_,λh=>?_⟩
  ·rw[if_pos h,if_pos (by omega)] at l;exact Zv l
  ·rw[if_pos h,if_pos (by omega)] at m;exact m
 ·unfold XA at h;obtain⟨y,a⟩:=XJ (by omega) (by omega) h;have b:x.kind=x'.kind:=by omega
  refine⟨b,?_⟩;by_cases f:x.kind=1
  ·rw[if_pos f,if_pos (show x'.kind=1 by omega),if_neg (show ¬x.kind=2 by omega),if_neg (show ¬x'.kind=2 by omega)] at a;obtain⟨d,e⟩:=Um (k (q f)) (k (t (by omega))) a;exact⟨Zv e,λh=>by omega,λ_=>d⟩
  ·rw[if_neg f,if_neg (show ¬x'.kind=1 by omega),CI,CI] at a;by_cases g:x.kind=2
   ·rw[if_pos g,if_pos (show x'.kind=2 by omega)] at a;obtain⟨d,e⟩:=Um (c (Dw (i g))) (c (Dw (j (by omega)))) a;exact⟨Zv e,λ_=>Zv d,λh=>absurd h f⟩
   ·rw[if_neg g,if_neg (show ¬x'.kind=2 by omega)] at a;exact⟨Zv a,λh=>absurd h g,λh=>absurd h f⟩
theorem sI(a:Iz x p=0)(b:Iz x' p'=0)(c:1<=x.kind/\x.kind<=4)(d:1<=x'.kind/\x'.kind<=4):XA x p=XA x' p'↔bE x p=bE x' p':=
 ⟨λh=>(sH a b c d (.inr h)).bE,λh=>(sH a b c d (.inl h)).doc⟩
end
section
variable {A : ak} {h : aa} {R : A2O}
theorem sJ {x:bO}{p:cj}(V:View Lr h x.steps p.steps)(Q:x.ar=p.ar)(len:p.steps.length<=1099511627776)(S: ∀C∈p.steps,C.name.size<=1099511627776/\C.aE.size<=1099511627776)(ao:1<=x.kind/\x.kind<=4)(T:x.name.size<=1099511627776)(U:x.wid.size<=1099511627776)(W:x.aW.size<=1099511627776)
  (D: ∀d,Ext h d->R (J1 #[J7 (if Iz x p=0 then AX (XA x p) else⟨#[]⟩),J6 J9 (Iz x p)]) d):AA A P GG #[x.v] h R:=by
 refine Sa ?_;unfold MN;refine al.mk λap _ k v _=>ah.mk λK X=>?_
 have w: ∀(n:Int) d,Ext h d->Iz x p=n->n≠0->R (J1 #[J7 ⟨#[]⟩,J6 J9 n]) d:=λn d Y Z ab=>by
  have:=D d Y;rw[Z,if_neg ab] at this;exact this
 refine AC.mk (n:=x.kind) (AL k rfl) (ae.no (decide_eq_false (by omega)) (AC.mk (n:=x.kind) (AL k rfl) (X _ _ (ae.no (decide_eq_false (by omega)) ?_))));refine AC.mk (n:=x.kind) (AL k rfl) (Qi (by omega) (by omega) λE m=>⟨_,rfl,?_⟩);have aq:=GR (n:=x.kind.toNat) (by omega);have o:=m.af k λh=>h
 refine ah.mk λac ad=>?_
 have F: ∀(ps:List UInt8) (c:aa),Ext E c->(x.kind=1->EA p=true/\ps=BG (Bd p))->(x.kind≠1->ps= [])->ac (AX (BH x.kind.toNat++ps),()) c:=λps c j q G=>by
  have H:=(v.trans m).trans j;have r:=j.af o λh=>h
  have ar:ps.length<=2000:=by
   by_cases h:x.kind=1
   ·have:=KE (q h).1;have a:=AV (n:=(Bd p).length) (by omega);rw[(q h).2];unfold BG;rw[A1];omega
   ·rw[G h];simp
  have y: ¬(x.kind=1/\EA p=false):=λh=>by have:=(q h.1).1;rw[h.2] at this;cases this
  refine ad _ _ (ah.mk λaf ag=>?_);have I: ∀(f:List UInt8) (b:aa),Ext c b->(x.kind=2->Ai x.name=true/\f=BG (bl x.name))->(x.kind≠2->f= [])->af (AX ((BH x.kind.toNat++ps)++f),()) b:=λf b g t J=>by
   have L:=H.trans g;have z:=g.af r λh=>h
   have nl:f.length<=100:=by
    by_cases h:x.kind=2
    ·have:=Dw (t h).1;have:=F7 (s:=x.name) (by omega);rw[(t h).2];omega
    ·rw[J h];simp
   have ai: ¬(x.kind=2/\Ai x.name=false):=λh=>by have:=(t h.1).1;rw[h.2] at this;cases this
   refine ag _ _ (ah.mk λaj ak=>?_);have M: ∀u:Bool,(u=true↔Ai x.wid=false\/Ai x.aW=false)->aj (u,()) b:=λu N=>by
    refine ak _ _ (ae.intro (λi=>w 1 b L (by unfold Iz;rw[if_neg y,if_pos (.inr (N.1 i))]) (by decide)) (λi=>?_));have i:u=false:=i;have am: ¬(Ai x.wid=false\/Ai x.aW=false):=λh=>by rw[N.2 h] at i;cases i
    have O:Iz x p=0:=by unfold Iz;rw[if_neg y,if_neg λh=>h.elim ai am]
    have au:=Dw (TU O).2.2.1;refine AJ.mk (n:=x.wid) (AB z rfl) ⟨by rw[AP,max_i64];simp only[A1];omega,?_⟩;have:=D b L;rw[O,if_pos rfl] at this;have an:AX ((BH x.kind.toNat++ps)++f)++x.wid=AX (XA x p):=by
     conv=>lhs;rw[<- JR x.wid]
     rw[Ae];congr 1;unfold XA;rw[A4,A4];congr 2
     ·split
      ·rename_i h;rw[(q h).2]
      ·rename_i h;rw[G h]
     ·congr 1;split
      ·rename_i h;rw[(t h).2]
      ·rename_i h;rw[J h]
    rw[an];exact this
   refine AJ.mk (n:=x.wid) (AB z rfl) (Nv U ⟨_,rfl,ae.intro (λa=>M true (by simp at a;simp[a])) λa=>AJ.mk (n:=x.aW) (AB z rfl) (Nv W ⟨_,rfl,M _ ?_⟩)⟩);have a:Ai x.wid=true:=by simpa using a
   simp[a]
  refine AC.mk (n:=x.kind) (AL r rfl) (ae.intro (λa=>?_) (λa=>?_))
  ·have a:x.kind=2:=by simpa using a
   refine AJ.mk (n:=x.name) (AB r rfl) (Nv T ⟨_,rfl,ae.intro (λe=>w 1 c H (by unfold Iz;rw[if_neg y,if_pos (.inl ⟨a,by simpa using e⟩)]) (by decide)) λe=>?_⟩);have e:Ai x.name=true:=by simpa using e
   have:=Dw e;have nl:=F7 (s:=x.name) (by omega);refine AJ.mk (n:=x.name) (AB r rfl) (Ug (by omega) λb g=>⟨_,rfl,⟨by rw[AP,AP,max_i64];simp only[A1];omega,?_⟩⟩);rw[Ae];exact I _ b g (λ_=>⟨e,rfl⟩) λh=>absurd a h
  ·have a:x.kind≠2:=by simpa using a
   have:=I [] c Mod.refl (λh=>absurd h a) λ_=>rfl
   rw[AN] at this;exact this
 refine AC.mk (n:=x.kind) (AL o rfl) (ae.intro (λa=>?_) (λa=>?_))
 ·have a:x.kind=1:=by simpa using a
  refine AY.mk (s:=x.steps) (AB o rfl) (AC.mk (n:=x.ar) (CG (by exact o) rfl) ?_);rw[Q];refine AGv (V.ext (v.trans m)) len S λc j=>?_
  unfold Nb;cases B:EA p with
  |false=>exact⟨_,_,rfl,ae.yes rfl (w 130 c ((v.trans m).trans j) (by unfold Iz;rw[if_pos ⟨a,B⟩]) (by decide))⟩
  |true=>
   have av:=KE B;have e:=AV (n:=(Bd p).length) (by omega);refine⟨_,_,rfl,ae.no rfl (xQ (l:=Bd p) (by omega) λb g=>⟨_,rfl,⟨by rw[AP,AP,max_i64];unfold BG;rw[A1];omega,?_⟩⟩)⟩;rw[Ae];exact F _ b (j.trans g) (λ_=>⟨B,rfl⟩) λh=>absurd a h
 ·have a:x.kind≠1:=by simpa using a
  have:=F [] E Mod.refl (λh=>absurd h a) λ_=>rfl
  rw[AN] at this;exact this
theorem AQw:(do eqGuard .neq I4 (.tmp 27) (.tmp 29) cI.z.v cI.z.v;binOp .neq I4 cI.z.v cI.z.v:Sem J0).calc P=some (J3 false):=by kernel_rfl
theorem pn {e st nx f g i:Int}(q: ∀r,Ext h r->R (J3 (decide (e=f/\st=g/\nx=i))) r):AA A P Fe #[(dw e st nx).v,(dw f g i).v] h R:=by
 refine VH ?_;unfold O0;refine al.mk λz _ a y _=>al.mk λj _ d t _=>ah.mk λK u=>?_
 have v:=y.trans t;have a:=t.af a λh=>h
 have no: ¬(e=f/\st=g/\nx=i)->K (true,()) j:=λh=>u _ _ (ae.yes rfl (by have:=q j v;rw[decide_eq_false h] at this;exact this))
 refine AC.mk (n:=e) (AL a rfl) (AC.mk (n:=f) (AL d rfl) (ae.intro (λc=>no λh=>by simp[h.1] at c) λc=>?_));have c:e=f:=by simpa using c
 refine AC.mk (n:=st) (AB a rfl) (AC.mk (n:=g) (AB d rfl) (ae.intro (λc=>no λh=>by simp[h.2.1] at c) λk=>?_));have k:st=g:=by simpa using k
 refine AC.mk (n:=nx) (AB a rfl) (AC.mk (n:=i) (AB d rfl) (ae.intro (λc=>no λh=>by simp[h.2.2] at c) λl=>?_));have l:nx=i:=by simpa using l
 have w: ∀b,(⟨b,0,none⟩:Q6).add 3=⟨b,3,none⟩:=λb=>rfl
 rw[w,w];refine SI.mk cI.z (DU a rfl) (SI.mk cI.z (DU d rfl) (BB.calc AQw ⟨_,rfl,ae.no rfl ?_⟩));refine AJ.mk (n:=⟨#[]⟩) (AB a rfl) (AJ.mk (n:=⟨#[]⟩) (AB d rfl) (ae.no (by rw[CP];rfl) (AY.mk (s:=fR) (AB a rfl) (AY.mk (s:=fR) (AB d rfl) (u _ _ (ae.no rfl ?_))))));refine Loop.rule (λm x o=>x=(0,())/\o=j) ?_ (m:=0) ⟨rfl,rfl⟩;rintro B m _ o ⟨rfl,rfl⟩ C;refine AY.mk (s:=fR) (AB a rfl) (ae.no rfl ?_);have:=q o v;rw[decide_eq_true ⟨c,k,l⟩] at this;exact this
end
def jN:cJ:=⟨32000,0,1600,by decide,by decide,by decide⟩
structure EW (g h:aa) (s k sh:Nat) (l:List Hs) (mp:List Pr) (fl:dd) (an:du) (O:Nat->Prop):Prop where
 w:LW jN g h s k (3*k) sh l mp O
 m:Ka mp fl an
 all: ∀y∈l,∀n,y.u n<=3*k/\y.f n<=k
def ig(mp:List Pr)(y:Hs)(a:Nat):Prop:=y.f a≠0/\CK mp (Fx a (y.f a) y.name)=true
def Rm(fl:dd)(an:du)(f:Nat)(x:bO)(p:cj)(j:Int)(b st nx:Int)(m:dd)(n:du):Prop:=
 (m=fl/\n=an/\(KY fl an 1 x p=some (b,st,nx)\/(KY fl an 1 x p=none/\b≠0/\st=0/\nx=0/\ ∃c d e,b=(BP (Hq x p (Co (fl x.wid) x.wid f j) c) d e).err)))\/
 (KY fl an 1 x p=none/\b=0/\ ∃c d e a,a=BP (Hq x p (Co (fl x.wid) x.wid f j) c) d e/\a.err=0/\m=dN fl x.wid ((fl x.wid).getD []++a.more)/\n=dN an x.aW (bE x p,a.st.status,a.st.next)/\st=a.st.status/\nx=a.st.next/\Ca ((fl x.wid).getD []++a.more)=a.st)
theorem AMJ {fl:dd}{an:du}{k:Nat}{x:bO}{p:cj}(h:k≠0):KY fl an k x p=KY fl an 1 x p:=by unfold KY;rw[if_neg h,if_neg (show ¬(1:Nat)=0 by decide)]
theorem AQS {l:List Hs}{i:Nat}{b:Hs}{Q:Hs->Prop}(h: ∀y∈l,Q y)(c:Q b): ∀y∈l.set i b,Q y:=λy d=>by
 rcases Wf d with a|a
 ·exact h y a
 ·rw[a];exact c
section
variable {A : ak} {g h : aa} {s k sh : Nat} {l : List Hs} {mp : List Pr} {O : Nat -> Prop} {i : Nat} {y : Hs} {fl : dd} {an : du} {R : A2O}
theorem EW.own {a:aa}{O':Nat->Prop}(b:EW g h s k sh l mp fl an O)(d:Mod O h a)(e: ∀c,O' c->O c\/(h.size<=c/\c<a.size)):EW g a s k sh l mp fl an O':=⟨b.w.own d e,b.m,b.all⟩
theorem EW.on {b:aa}(a:EW g h s k sh l mp fl an O)(x:Ext h b):EW g b s k sh l mp fl an O:=⟨a.w.on x,a.m,a.all⟩
theorem EW.up {a:Nat}(b:EW g h s k sh l mp fl an O)(c:k<=a)(f:a<=500):EW g h s a sh l mp fl an O:=
 ⟨b.w.put c (by show 64*a<=32000;omega) (by omega) (by omega),b.m,λy d e=>by have:=b.all y d e;omega⟩
theorem EW.desc {wid:A2P}(a:EW g h s k sh l mp fl an O)(c:l[i]? =some y)
  (d: ∀b,Ext h b->R (XW fl wid).v b):AA A P GD #[Az y.p,J7 wid] h R:=AQY a.w c a.m d
theorem EW.ey {x:bO}{p:cj}{N:J0}{n:Int}(S:cp g)(e:EW g h s k sh l mp fl an O)(o:l[i]? =some y)(ad:k+1<=490)(F:ig mp y (BV x.wid sh))(V:View Lr h x.steps p.steps)(T:x.ar=p.ar)(len:p.steps.length<=1099511627776)(U: -4611686018427300000<=n/\n<=4611686018427300000)
  (u: ∀c b G H I q st nx,EW g c s (k+1) sh (l.set i b) G H I O->b.p=y.p->b.f=y.f->b.name=y.name->(∀ a J K,CK G (Fx a J K)=CK mp (Fx a J K))->Mod (bW g O) h c->Rm fl an (BV x.wid sh) x p n q st nx H I->R (dw q st nx).v c):
  AA A P FL #[Az y.p,N,J6 J9 n,x.v] h R:=by
 have v:=AF o;have ae:jN.C=32000:=rfl;have hA:jN.A=1600:=rfl;have W:=(List.getElem?_eq_some_iff.1 o).1;have cZ:l.set i y=l:=by rw[<- (List.getElem?_eq_some_iff.1 o).2];exact Pc W
 have w:=AMJ (fl:=fl) (an:=an) (x:=x) (p:=p) F.1;have j: ∀ {b:Hs},y.dm b-> ∀z∈l.set i b,∀a,z.u a<=3*(k+1)/\z.f a<=k+1:=λ{b} j=>AQS (Q:=λz=> ∀a,z.u a<=3*(k+1)/\z.f a<=k+1) (λz X a=>by have:=e.all z X a;omega) λa=>by
  have:=e.all y v a;have:=j.u a;rw[j.f];omega
 refine AMd S e.w o e.m V T len U (λa=>by have:=(e.all y v a).2;omega) (λa=>by have:=(e.all y v a).1;omega) (by omega) (by omega) (by omega) (by omega)
  (λc q st nx f L=>?_) (λc b B C D f d E r t=>?_) (λc b f d M r t=>?_) λc b B C D Y Z f d E r aa ab ac t=>?_
 ·rw[w] at f;refine u c y mp fl an q st nx ⟨?_,e.m,j ⟨rfl,rfl,rfl,λm=>by omega⟩⟩ rfl rfl rfl (λ_ _ _=>rfl) L.mod (.inl ⟨rfl,rfl,.inl f⟩);rw[cZ];exact(e.w.on L).put (by omega) (by omega) (by omega) (by omega)
 ·rw[w] at f;exact u c b mp fl an _ 0 0 ⟨r.put (by omega) (by omega) (by omega) (by omega),e.m,j d⟩ d.p d.f d.name (λ_ _ _=>rfl) t (.inl ⟨rfl,rfl,.inr ⟨f,E,rfl,rfl,B,C,D,rfl⟩⟩)
 ·rw[F.2] at M;cases M
 ·rw[w] at f;exact u c b _ _ _ 0 _ _ ⟨r.put (by omega) (by omega) (by omega) (by omega),aa,j d⟩ d.p d.f d.name ac t (.inr ⟨f,rfl,B,C,D,Y,Z,E,rfl,rfl,rfl,rfl,ab⟩)
end
abbrev pq:A2P:=⟨#[104,111,115,116,48]⟩
structure jO (mp:List Pr) (y:Hs) (sh:Nat):Prop where
 has: ∀n,n<sh->y.f n=1/\Ew mp n 1 y.name
 gK: ∀n,sh<=n->y.f n=0/\(n<256->Ew mp n 0 ⟨#[]⟩)
theorem jO.owns {mp:List Pr}{y:Hs}{sh a:Nat}(b:jO mp y sh)(c:a<sh):ig mp y a:=by obtain⟨d,e⟩:=b.has a c;refine⟨by omega,?_⟩;rw[d];exact e.holds (A0 _)
section
variable {A : ak} {g h : aa} {s k sh : Nat} {y : Hs} {mp : List Pr} {O : Nat -> Prop} {R : A2O}
theorem LW.slt {b:cJ}{a N:Nat}{l:List Hs}(c:LW b g h s a N sh l mp O):s<h.size:=by obtain⟨e,k,st,m,f,nn,d,_⟩:=c;exact d.lt
theorem ASz {a:Nat}(t:cp g)(c:EW g h s a sh [y] mp (λ_=>none) (λ_=>none) O)(u:a<sh)(G:sh<=16)(e:jO mp y a)(v:Ai y.name=true)
  (w: ∀b q,EW g b s (a+1) sh [y.mg a 1] q (λ_=>none) (λ_=>none) O->jO q (y.mg a 1) (a+1)->Mod (bW g O) h b->R (J1 #[J6 J9 1,J6 J9 0]) b):
  AA A P Es #[Az y.p,J6 J9 (a:Int)] h R:=by
 have H:jN.C=32000:=rfl;have hA:jN.A=1600:=rfl;have d:=c.w.sorted;refine c.w.acquire (i:=0) (x:=y) (r:=0) (nm:=⟨#[]⟩) t rfl u ((e.gK a (A0 _)).2 (by omega)) (by decide) (by omega) (by omega) (by omega) (by omega) λb B C=>?_
 refine w b _ ⟨B.put (A0 _) (by omega) (by omega) (by omega),c.m.aM d (λp D=>?_),λz E m=>?_⟩ ⟨λm F=>?_,λm F=>?_⟩ C
 ·rw[List.mem_singleton.1 D];show CV (CJ a)≠104/\CV (CJ a)≠119/\CV (CJ a)≠114;rw[sB];decide
 ·rw[List.mem_singleton.1 E];have:=c.all y (by simp) m;show dC y.u a 0 m<=_/\dC y.f a 1 m<=_;unfold dC;constructor<;>split<;>omega
 ·show dC y.f a 1 m=1/\_;unfold dC;by_cases f:m=a
  ·subst f;rw[if_pos rfl];exact⟨rfl,Ew.laid d (by decide) (by decide) v⟩
  ·rw[if_neg f];obtain⟨j,n⟩:=e.has m (by omega);exact⟨j,n.other d λo=>f (yV (by omega) (by omega) o).symm⟩
 ·show dC y.f a 1 m=0/\_;unfold dC;rw[if_neg (by omega)];obtain⟨j,n⟩:=e.gK m (by omega);exact⟨j,λh=>(n h).other d λo=>by have:=yV (by omega) h o;omega⟩
theorem sK(n:cp g)(x:Ext g h)(C: ∀e s y mp,EW g e s 4 4 [y] mp (λ_=>none) (λ_=>none) (λ_=>False)->jO mp y 4->Ext g e->h.size<=e.size->R (J1 #[Az s,Az y.p,J3 true]) e):AA A P GQ #[] h R:=by
 refine Sy ?_;unfold MM;refine AQc λb V Sb D o E=>⟨_,rfl,?_⟩
 have W:=x.size;have X:=o.size;refine LW.start (B:=jN) (sh:=4) n D (x.trans o) (λc F=>by have:=E c F;omega) rfl rfl (λa=>rfl) (λa=>rfl) (λx G=>absurd rfl G) (by decide) (by decide) λY s p Z aa=>⟨_,_,rfl,?_⟩
 refine p.host (name:=pq) (by decide) (by decide) λH q I J r L=>⟨_,_,rfl,?_⟩
 have ab:=Af (r.dG (i:=0) rfl).1;refine Loop.rule (λt x f=> ∃(a:Nat) (y:Hs) (mp:List Pr),x=((a:Int),())/\t=4-a/\a<=4/\EW g f s a 4 [y] mp (λ_=>none) (λ_=>none) (λ_=>False)/\jO mp y a/\y.p=q/\y.name=pq/\H.size<=f.size) ?_
  ⟨0,⟨q,I,J,pq,λ_=>0,λ_=>0⟩,[],rfl,rfl,by omega,⟨r,Ka.empty,λz u m=>by rw[List.mem_singleton.1 u];exact⟨A0 _,A0 _⟩⟩,⟨λa M=>by omega,λa _=>⟨rfl,λ_=>Ew.empty⟩⟩,rfl,rfl,A0 _⟩
 rintro K t _ f ⟨a,y,mp,rfl,rfl,M,j,v,rfl,w,u⟩ N;dsimp only;refine ae.intro (λd=>?_) (λd=>?_)
 ·have d:a<4:=by have:=of_decide_eq_true d;omega
  refine ASz n j d (by decide) v (by rw[w];decide) λac Q S T U=>⟨_,_,rfl,ae.no rfl ?_⟩
  rw[AZ (by omega)];exact N (4-(a+1)) _ _ (by omega) ⟨a+1,_,Q,rfl,rfl,d,S,T,rfl,w,by have:=U.size;omega⟩
 ·have d:a=4:=by have:=of_decide_eq_false d;omega
  subst d;have ad:=p.slt;have af:=L.size;exact ae.yes rfl (C f s y mp j v j.w.ext (by omega))
end
theorem ANf {id tick k:Int}(a:1<=id/\id<=500)(b:0<=tick/\tick<=1099511627776)(c:k=2\/k=13\/k=18):FQ ⟨id,k,tick,0,0,0,false,⟨#[]⟩⟩=true:=by have d:bS id 1 500=true:=BX.2 a;have e:bS tick 0 1099511627776=true:=BX.2 b;have f:bS k 1 18=true:=BX.2 (by omega);unfold FQ Eo Lg;rw[d,e,f];rcases c with rfl|rfl|rfl<;>rfl
theorem ANa {id tick:Int}{p:cj}(a:1<=id/\id<=500)(b:0<=tick/\tick<=1099511627776)(c:EA p=true):FQ ⟨id,1,tick,0,0,0,false,AX (Bd p)⟩=true:=by
 have d:bS id 1 500=true:=BX.2 a;have e:bS tick 0 1099511627776=true:=BX.2 b;unfold FQ Eo Lg;dsimp only;rw[d,e,EN,uW c];have:dU 1=true:=by decide
 rw[this,HG];rfl
theorem pv {a:Int}{wid:A2P}{b:Int}(c:1<=a/\a<=7)(d:Ai wid=true)(e:0<=b/\b<=500):KQ ⟨a,b,0⟩ wid=true:=by unfold KQ;rw[BX.2 c,d,BX.2 e];rfl
theorem Zf {a:bD}{t:gG}{tick:Int}{c:Nat}(b:a.err=0)(d:KQ t a.wid=true):(F3 a t tick c).err=0:=by unfold F3;rw[if_neg (by simp[b]),if_neg (by simp[d])];exact b
theorem AHj {a:bD}(b:G9 a=true):a.more≠ []/\a.st.status=0/\a.st.fresh=true/\a.st.asked=0/\a.st.taken=0:=by unfold G9 at b;simpa [and_assoc] using b
theorem APR {a:bD}(d:a.err=0)(e:G9 a=true)(m:2<=a.st.next/\a.st.next<=500)(f:0<=a.now/\a.now<=1099511627776):
  Eu a XU= {a with st:= {a.st with asked:=a.st.next,next:=a.st.next+1},more:=a.more++ [⟨a.st.next,2,a.now,0,0,0,false,⟨#[]⟩⟩]}:=by
 obtain⟨g,h,i,j,l⟩:=AHj e;have b:Ct a XU=⟨a.st.next,2,a.now,0,0,0,false,⟨#[]⟩⟩:=by unfold Ct;rw[if_neg (by omega)];rfl
 have ok:=ANf (id:=a.st.next) (tick:=a.now) (k:=2) (by omega) f (.inl rfl);have c:Bj a.st (Ct a XU)=(0,{a.st with asked:=a.st.next,next:=a.st.next+1}):=by rw[b];unfold Bj;rw[if_neg (by simp[ok]),if_neg (by omega),if_neg (by simp[h]),if_neg (by simp)];unfold PW Dn;rw[if_pos (show(2:Int)<=2/\(2:Int)<=5 by decide),if_pos rfl,if_pos ⟨j,l,i⟩];rfl
 rw[wv d (.inl g) (by rw[c]),c,b]
theorem AM8 {a:bD}{n1:Nat}(c:a.err=0)(e:2<=a.st.next/\a.st.next<=500)(f:0<=a.now/\a.now<=1099511627776)(g:Ai a.wid=true):(FH a n1).err=0/\(FH a n1).wid=a.wid/\(FH a n1).now=a.now/\(FH a n1).st=(if G9 a=true then {a.st with asked:=a.st.next,next:=a.st.next+1} else a.st)/\(FH a n1).more=(if G9 a=true then a.more++ [⟨a.st.next,2,a.now,0,0,0,false,⟨#[]⟩⟩] else a.more):=by
 unfold FH;split
 ·rename_i h;have b:=APR c h e f;have i:km (Eu a XU)=a.st.next:=by rw[b];show a.st.next+1-1=_;omega
  have d:KQ ⟨1,km (Eu a XU),0⟩ (Eu a XU).wid=true:=by rw[i,b];exact pv (by decide) g (by omega)
  refine⟨Zf (by rw[b];exact c) d,?_,?_,?_,?_⟩
  ·unfold F3;rw[if_neg (by rw[b];simp[c]),if_neg (by simp[d]),b]
  ·unfold F3;rw[if_neg (by rw[b];simp[c]),if_neg (by simp[d]),b]
  ·rw[(I1 _ _ _ _).1,b]
  ·rw[(I1 _ _ _ _).2,b]
 ·exact⟨c,rfl,rfl,rfl,rfl⟩
theorem AJU {a:bD}{n1 n2:Nat}(f:a.err=0)(g:2<=a.st.next/\a.st.next<=500)(h:0<=a.now/\a.now<=1099511627776)(b:Ai a.wid=true):(BP a n1 n2).err=0/\(BP a n1 n2).st=(if G9 a=true then {a.st with asked:=a.st.next,next:=a.st.next+1} else a.st)/\(BP a n1 n2).more=(if G9 a=true then a.more++ [⟨a.st.next,2,a.now,0,0,0,false,⟨#[]⟩⟩] else a.more):=by
 obtain⟨c,i,j,d,e⟩:=AM8 (n1:=n1) f g h b;unfold BP;split
 ·refine⟨Zf c (by rw[i];exact pv (by decide) b (by decide)),?_,?_⟩
  ·rw[(I1 _ _ _ _).1,d]
  ·rw[(I1 _ _ _ _).2,e]
 ·exact⟨c,d,e⟩
theorem ANm {x:bO}{p:cj}{n n0:Nat}{a:Int}(k:x.kind=1)(d:EA p=true)(l:Ai x.wid=true)(r:0<=a/\a<=1099511611776):
  (DT x p (Co none x.wid n a) n0).err=0/\(DT x p (Co none x.wid n a) n0).st=⟨p,0,2,a,0,0,true,[],[],false,false⟩/\(DT x p (Co none x.wid n a) n0).more= [⟨1,1,a,0,0,0,false,AX (Bd p)⟩]/\(DT x p (Co none x.wid n a) n0).wid=x.wid/\(DT x p (Co none x.wid n a) n0).now=a:=by
 have ok:=ANa (id:=1) (tick:=a) (p:=p) (by decide) (by omega) d;have f:(Co none x.wid n a).err=0:=by show(if a<0\/1099511611776<a then(1:Int) else 0)=0;rw[if_neg (by omega)]
 have g:Ct (Co none x.wid n a) (dz 1 (AX (Bd p)))=⟨1,1,a,0,0,0,false,AX (Bd p)⟩:=rfl;have h:Bj (Co none x.wid n a).st (Ct (Co none x.wid n a) (dz 1 (AX (Bd p))))=(0,⟨p,0,2,a,0,0,true,[],[],false,false⟩):=by rw[g];unfold Bj;rw[if_neg (by simp[ok]),if_pos (show(Co none x.wid n a).st.next=0 from rfl),if_pos ⟨rfl,rfl⟩];unfold Wx;dsimp only;rw[EN,uW d];rfl
 have i:=wv f (e:=dz 1 (AX (Bd p))) (.inr (.inl (by show(0:Int)<=497;decide))) (by rw[h]);rw[h,g] at i;have base:(Eu (Co none x.wid n a) (dz 1 (AX (Bd p)))).err=0/\(Eu (Co none x.wid n a) (dz 1 (AX (Bd p)))).st=⟨p,0,2,a,0,0,true,[],[],false,false⟩/\(Eu (Co none x.wid n a) (dz 1 (AX (Bd p)))).more= [⟨1,1,a,0,0,0,false,AX (Bd p)⟩]/\(Eu (Co none x.wid n a) (dz 1 (AX (Bd p)))).wid=x.wid/\(Eu (Co none x.wid n a) (dz 1 (AX (Bd p)))).now=a:=by rw[i];exact⟨f,rfl,rfl,rfl,rfl⟩
 unfold DT;rw[if_pos k];split
 ·obtain⟨b,m,o,j,q⟩:=base;have c:KQ ⟨6,0,0⟩ (Eu (Co none x.wid n a) (dz 1 (AX (Bd p)))).wid=true:=by rw[j];exact pv (by decide) l (by decide)
  refine⟨Zf b c,by rw[(I1 _ _ _ _).1,m],by rw[(I1 _ _ _ _).2,o],?_,?_⟩
  ·unfold F3;rw[if_neg (by simp[b]),if_neg (by simp[c])];exact j
  ·unfold F3;rw[if_neg (by simp[b]),if_neg (by simp[c])];exact q
 ·exact base
theorem sL {x:bO}{p:cj}{n n0 n1 n2:Nat}{a:Int}(h:x.kind=1)(i:EA p=true)(c:Ai x.wid=true)(j:0<=a/\a<=1099511611776):
  (BP (Hq x p (Co none x.wid n a) n0) n1 n2).err=0/\(BP (Hq x p (Co none x.wid n a) n0) n1 n2).st=⟨p,0,3,a,2,0,true,[],[],false,false⟩/\(BP (Hq x p (Co none x.wid n a) n0) n1 n2).more= [⟨1,1,a,0,0,0,false,AX (Bd p)⟩,⟨2,2,a,0,0,0,false,⟨#[]⟩⟩]:=by
 obtain⟨k,l,m,o,q⟩:=ANm (n:=n) (n0:=n0) h i c j;have r:(Hq x p (Co none x.wid n a) n0).err=0:=k;have b:(Hq x p (Co none x.wid n a) n0).st=⟨p,0,2,a,0,0,true,[],[],false,false⟩:=l;have d:(Hq x p (Co none x.wid n a) n0).more= [⟨1,1,a,0,0,0,false,AX (Bd p)⟩]:=m;have s:(Hq x p (Co none x.wid n a) n0).wid=x.wid:=o;have e:(Hq x p (Co none x.wid n a) n0).now=a:=q;obtain⟨t,f,g⟩:=AJU (n1:=n1) (n2:=n2) r (by rw[b];exact⟨(by decide:(2:Int)<=2),(by decide:(2:Int)<=500)⟩) (by rw[e];omega) (by rw[s];exact c);have u:G9 (Hq x p (Co none x.wid n a) n0)=true:=by unfold G9;rw[b,d];rfl
 rw[u,if_pos rfl] at f g;refine⟨t,?_,?_⟩
 ·rw[f,b];show(⟨p,0,2+1,a,2,0,true,[],[],false,false⟩:bj)=_;rfl
 ·rw[g,b,d,e];rfl
structure jP (h:aa) (x:bO) (p:cj):Prop where
 V:View Lr h x.steps p.steps
 lim:x.ar=p.ar
 len:p.steps.length<=1099511627776
 sz: ∀y∈p.steps,y.name.size<=1099511627776/\y.aE.size<=1099511627776
 name:x.name.size<=1099511627776
 wid:x.wid.size<=1099511627776
 aW:x.aW.size<=1099511627776
theorem jP.on {h b:aa}{x:bO}{p:cj}(a:jP h x p)(m:Ext h b):jP b x p:=⟨a.V.ext m,a.lim,a.len,a.sz,a.name,a.wid,a.aW⟩
theorem Qq {h:aa}{b:Nat}{T:Q7}{fr:Nat×Nat}{x:bO}(a:h[b]? =some (J2 x.c T fr)):Cells h ⟨b,0,none⟩ x.l:=DU a rfl
theorem ASm(x a:bO):X9 a.c 0 x.l=x.c:=rfl
theorem sM {h:aa}{x:bO}{K:Nat->aa->Prop}(i: ∀a,a[h.size]? =some (J2 x.c Cj (0,0))->Ext h a->K h.size a):al h (J2 bO.z.c Cj) λb e=>aP e ⟨b,0,none⟩ x.l λd=>K b d:=
 al.mk λe _ j k n=>aP.mk j (A0 12) λd f l o=>i d (by rw[ASm] at f;exact f) (k.more l λc m=>by subst m;exact A0 _)
theorem iH {h:aa}{x:bT}{K:Nat->aa->Prop}(i: ∀a,a[h.size]? =some (J2 x.c Br (0,0))->Ext h a->K h.size a):al h (J2 bT.z.c Br) λb e=>aP e ⟨b,0,none⟩ x.l λd=>K b d:=
 al.mk λe _ j k n=>aP.mk j (A0 9) λd f l o=>i d (by rw[kZ] at f;exact f) (k.more l λc m=>by subst m;exact A0 _)
theorem EW.new {g h a:aa}{s b d:Nat}{l:List Hs}{e:List Pr}{f:dd}{i:du}{j:Nat->Prop}(k:EW g h s b d l e f i j)(x:Ext h a)(n:h.size<a.size):EW g a s b d l e f i (λc=>j c\/c=h.size):=
 k.own (x.ai λ_ _ h=>h.elim) λc m=>m.imp id λh=>by omega
theorem EW.less {g h:aa}{s b d:Nat}{l:List Hs}{e:List Pr}{f:dd}{i:du}{j O':Nat->Prop}(a:EW g h s b d l e f i j)(k: ∀c,O' c->j c):EW g h s b d l e f i O':=⟨a.w.less k,a.m,a.all⟩
theorem bW.aM {g h a:aa}{b:Nat->Prop}{c:Nat}{d:Obj}(m:Mod (bW g b) h a)(e:h[c]? =some d)(f:b c):a[c]? =some d:=m.af e λi=>i.2 f
abbrev PZ:bP:=⟨1,⟨#[97]⟩,⟨#[]⟩,1,0,0⟩
abbrev fX(sl:Sl)(a:A2P):bO:=⟨1,a,⟨#[119]⟩,⟨#[]⟩,sl,0,fR,0,0,0,0,false⟩
theorem sN {fl:dd}{b:du}{x:bO}{p:cj}{a:List UInt8×Int×Int}(e:1<=x.kind/\x.kind<=4)(c:Iz x p=0)(d:b x.aW=some a):KY fl b 1 x p=if a.1≠bE x p then some (184,0,0) else some (0,a.2.1,a.2.2):=by unfold KY;rw[if_neg (by omega),if_neg (by simp[c]),if_neg (by decide),d]
theorem sO {fl:dd}{an:du}{x:bO}{p:cj}(c:1<=x.kind/\x.kind<=4)(a:Iz x p=0)(b:an x.aW=none):KY fl an 1 x p=(match fl x.wid with
   |none=>if x.kind=1 then none else some (180,0,0)
   |some l=>if x.kind=1 then some (181,0,0) else if(Ca l).status≠0 then some (182,0,0) else none):=by
 unfold KY;rw[if_neg (by omega),if_neg (by simp[a]),if_neg (by decide),b]
 try rfl
theorem Rm.early {b e:dd}{c f:du}{m:Nat}{x:bO}{p:cj}{n i st nx j k l:Int}(o:Rm b c m x p n i st nx e f)(d:KY b c 1 x p=some (j,k,l)):e=b/\f=c/\i=j/\st=k/\nx=l:=by
 rcases o with⟨q,r,a|⟨a,_⟩⟩|⟨a,_⟩
 ·rw[d] at a;cases a;exact⟨q,r,rfl,rfl,rfl⟩
 ·rw[d] at a;cases a
 ·rw[d] at a;cases a
theorem Rm.start {c k:dd}{d l:du}{n:Nat}{x:bO}{p:cj}{a m st nx:Int}(D:Rm c d n x p a m st nx k l)(b:x.kind=1)(o:Iz x p=0)(E:d x.aW=none)(f:c x.wid=none)(q:0<=a/\a<=1099511611776):
  m=0/\st=0/\nx=3/\k=dN c x.wid [⟨1,1,a,0,0,0,false,AX (Bd p)⟩,⟨2,2,a,0,0,0,false,⟨#[]⟩⟩]/\l=dN d x.aW (bE x p,0,3)/\Ca [⟨1,1,a,0,0,0,false,AX (Bd p)⟩,⟨2,2,a,0,0,0,false,⟨#[]⟩⟩]=⟨p,0,3,a,2,0,true,[],[],false,false⟩:=by
 obtain⟨r,H,s,I⟩:=TU o;have F:KY c d 1 x p=none:=by rw[sO (by omega) o E,f];show(if x.kind=1 then none else some (180,0,0))=none;rw[if_pos b]
 rcases D with⟨_,_,t|⟨_,i,_,_,n0,n1,n2,u⟩⟩|⟨_,i,n0,n1,n2,J,v,K,j,w,y,z,e⟩
 ·rw[F] at t;cases t
 ·exfalso;rw[f] at u;exact i (u.trans (sL b (r b) s q).1)
 ·rw[f] at v j e;obtain⟨G,B,C⟩:=sL (n:=n) (n0:=n0) (n1:=n1) (n2:=n2) b (r b) s q;rw[<- v] at G B C;rw[Option.getD_none,CI,C] at j e;rw[B] at w y z e;exact⟨i,y,z,j,w,e⟩
section
variable {A : ak} {g h : aa} {R : A2O}
theorem AJn(E:cp g)(x:Ext g h)(ah: ∀v,Ext g v->h.size<=v.size->R (J3 true) v):AA A P Jf #[] h R:=by
 refine Tf ?_;unfold NJ;refine sK E x λa s y ai aj K a0 a1=>⟨_,_,_,rfl,?_⟩
 refine al.mk λq _ ak am a2=>?_
 have ao:=aj.new am (by omega);refine sM (x:=fX ⟨some ⟨a.size,0,none⟩,1,1⟩ ⟨#[114]⟩) λap r L=>?_
 have M:=ao.new L (Af r);generalize w:(λc=>((λc=>False\/c=a.size) c\/c=q.size))=z at M;have N:z a.size:=by rw[<- w];exact .inl (.inr rfl)
 have B:z q.size:=by rw[<- w];exact .inr rfl
 clear w;have O:ap[a.size]? =some (J2 PZ.c BL (0,0)):=L.af ak λh=>h
 have view: ∀ {Q:aa},Q[a.size]? =some (J2 PZ.c BL (0,0))->View Lr Q ⟨some ⟨a.size,0,none⟩,1,1⟩ [PZ]:=λaq=>(Own.lit (E:=Lr) (l:= [PZ]) aq rfl (by decide)).view
 have C: ∀b:A2P,Ai b=true->Iz (fX ⟨some ⟨a.size,0,none⟩,1,1⟩ b) ⟨[PZ],0⟩=0:=λb ar=>by
  unfold Iz;rw[if_neg (λh=>by have q:=h.2;exact absurd q (by decide)),if_neg];rintro(h|h|h)
  ·exact absurd h.1 (show ¬(1:Int)=2 by decide)
  ·exact absurd h (show ¬Ai ⟨#[119]⟩=false by decide)
  ·rw[show(fX ⟨some ⟨a.size,0,none⟩,1,1⟩ b).aW=b from rfl,ar] at h;cases h
 refine LX.mk _ (Qq r) ?_;have S:=We (⟨#[119]⟩:A2P) (n:=4) (by decide);refine M.ey (i:=0) (x:=fX ⟨some ⟨a.size,0,none⟩,1,1⟩ ⟨#[114]⟩) (p:=⟨[PZ],0⟩) E rfl (by decide) (K.owns S) (view O) rfl (by decide) (by decide) λau av a3 a4 a5 a6 a7 a8 aw ax T U V D ay=>Je.mk _ ⟨rfl,?_⟩
 obtain⟨rfl,rfl,rfl,rfl,rfl,-⟩:=ay.start rfl (C _ (by decide)) rfl rfl (by decide);refine iH (x:=dw 0 0 3) λa9 F G=>?_
 have az:=aw.new G (Af F);have W: ∀ {X:List Pr} {H:Hs},H.f=y.f->H.name=y.name->(∀ n d e,CK X (Fx n d e)=CK ai (Fx n d e))->ig X H (BV (⟨#[119]⟩:A2P) 4):=λaA aC aD=>by
  have:=K.owns S;unfold ig at this ⊢;rw[aA,aC,aD];exact this
 have Y:=G.af (bW.aM D O N) λh=>h
 have Z:=G.af (bW.aM D r B) λh=>h
 rw[<- ax];refine LX.mk _ (Qq Z) ?_;refine az.ey (i:=0) (y:=av) (x:=fX ⟨some ⟨a.size,0,none⟩,1,1⟩ ⟨#[114]⟩) (p:=⟨[PZ],0⟩) E rfl (by decide) (W T U V) (view Y) rfl (by decide) (by decide) λaE aF ba bb bc bd be bf aG aH aI aJ aK t aL=>Je.mk _ ⟨rfl,?_⟩
 have ac:=sN (fl:=dN (λ_=>none) (fX ⟨some ⟨a.size,0,none⟩,1,1⟩ ⟨#[114]⟩).wid [⟨1,1,0,0,0,0,false,AX (Bd ⟨[PZ],0⟩)⟩,⟨2,2,0,0,0,0,false,⟨#[]⟩⟩]) (show(1:Int)<=1/\(1:Int)<=4 by decide) (C ⟨#[114]⟩ (by decide)) (Jq (f:=λ_=>none) (k:=⟨#[114]⟩) (x:=(bE (fX ⟨some ⟨a.size,0,none⟩,1,1⟩ ⟨#[114]⟩) ⟨[PZ],0⟩,(0:Int),(3:Int))));rw[if_neg (by simp)] at ac;obtain⟨rfl,rfl,rfl,rfl,rfl⟩:=aL.early ac;refine iH (x:=dw 0 0 3) λbg ad j=>?_
 have aM:=aG.new j (Af ad);have aN:=j.af (bW.aM t Y (.inl N)) λh=>h
 have aO:=j.af (bW.aM t Z (.inl B)) λh=>h
 have aP:=j.af (bW.aM t F (.inr rfl)) λh=>h
 refine ab.bQ (dH:=(fX ⟨some ⟨a.size,0,none⟩,1,1⟩ ⟨#[115]⟩).c) aO (of_decide_eq_true rfl) rfl λbh aQ m bi=>?_
 have aR:=aM.own (O':=λc=>(z c\/c=au.size)\/c=aE.size) (m.ai λc _ I=>by subst I;exact .inl (.inl B)) λc I=> .inl I
 have bj:=Af r;have bk:=D.size;have bm:=t.size;have bn:=Af F;have aS:=m.af aN (by omega);have aT:=m.af aP (by omega);have aU:=m.af ad (by omega);rw[<- aH];refine LX.mk _ (Qq aQ) ?_;refine aR.ey (i:=0) (y:=aF) (x:=fX ⟨some ⟨a.size,0,none⟩,1,1⟩ ⟨#[115]⟩) (p:=⟨[PZ],0⟩) E rfl (by decide) (W (aI.trans T) (aJ.trans U) λn d e=>(aK n d e).trans (V n d e)) (view aS) rfl (by decide) (by decide) λbo bp bq br bs bt bu bv aV bw bx bz bA J aW=>Je.mk _ ⟨rfl,?_⟩
 have o:=sO (fl:=dN (λ_=>none) (fX ⟨some ⟨a.size,0,none⟩,1,1⟩ ⟨#[114]⟩).wid [⟨1,1,0,0,0,0,false,AX (Bd ⟨[PZ],0⟩)⟩,⟨2,2,0,0,0,0,false,⟨#[]⟩⟩]) (an:=dN (λ_=>none) ⟨#[114]⟩ (bE (fX ⟨some ⟨a.size,0,none⟩,1,1⟩ ⟨#[114]⟩) ⟨[PZ],0⟩,(0:Int),(3:Int))) (x:=fX ⟨some ⟨a.size,0,none⟩,1,1⟩ ⟨#[115]⟩) (show(1:Int)<=1/\(1:Int)<=4 by decide) (C ⟨#[115]⟩ (by decide)) (Q3 (show(⟨#[115]⟩:A2P)≠⟨#[114]⟩ by decide));rw[Jq] at o;have o:_=if(1:Int)=1 then some ((181:Int),(0:Int),(0:Int)) else _:=o;rw[if_pos rfl] at o;obtain⟨rfl,rfl,rfl,rfl,rfl⟩:=aW.early o;refine iH (x:=dw 181 0 0) λaX aY u=>?_
 have af:=u.af (bW.aM J aT (.inl (.inr rfl))) λh=>h
 have ag:=u.af (bW.aM J aU (.inr rfl)) λh=>h
 refine ae.yes rfl (AC.mk (n:=0) (AL af rfl) (ae.yes rfl (AC.mk (n:=3) (AB af rfl) (ae.yes rfl (AC.mk (n:=0) (AL ag rfl) (ae.yes rfl (AC.mk (n:=3) (AB ag rfl) (ae.yes rfl (AC.mk (n:=181) (AL aY rfl) ?_)))))))));have aZ:=aV.on u;have bB:=j.size;have bC:=m.size;have bD:=J.size;have bF:=u.size;exact ah aX aZ.w.ext (by omega)
end
def lD:cy dD where
 enc x:=x.l
 w:=15
 len _:=rfl
 pos:=by omega
 one x v a:=by simp at a;rcases a with rfl|rfl|rfl|rfl|rfl|rfl|rfl|rfl|rfl|rfl|rfl|rfl|rfl|rfl|rfl<;>rfl
theorem ASE(x a:dD):X9 a.c 0 x.l=x.c:=rfl
theorem uL:P.underlying Hm=some (.map Ar Br):=by kernel_rfl
theorem uM:P.underlying GY=some (.map Ar Cj):=by kernel_rfl
theorem ATt:(zeroValue Br).calc P=some bT.z.v:=by kernel_rfl
theorem ATx:(zeroValue Cj).calc P=some bO.z.v:=by kernel_rfl
theorem AKd {A:ak}{P:Q1}{t f g:Q7}{z:J0}(i:P.underlying t=some (.map f g))(a:P.underlying f=some .string)(l:(zeroValue g).calc P=some z){h:aa}{b:Nat}{m:List (A2P×J0)}{c:A2P}{K:A2O}
  (M:MO h b m) (n:K (J1 #[(Ld c m).getD z,J3 (Ld c m).isSome]) h):BB A P (Instr.lookup t (.map (some b)) (J7 c) true) h K:=by
 intro j;refine⟨_,h,j,?_,n⟩;obtain⟨o,s,p,q⟩:=M;have k:=MapKept.run_getObj_map (P:=P) (w:=A.at h j) (r:=b) p;rcases Qp c z o.toList m 0 q.same with⟨d,e,_⟩|⟨v,u,d,e,_,_⟩
 ·simp[Instr.lookup,A9 i,k,GH a,Instr.findKey,A9 a,d,e,Result.andThen,JI l]
 ·simp[Instr.lookup,A9 i,k,GH a,Instr.findKey,A9 a,d,e,Result.andThen]
theorem AST {h:aa}{b:Nat}{T:Q7}{fr:Nat×Nat}{x:bO}(a:h[b]? =some (J2 x.c T fr)):ag h (⟨b,0,none⟩:Q6)=some (J6 J9 x.kind)/\ag h ((⟨b,0,none⟩:Q6).add 1)=some (J7 x.aW)/\ag h ((⟨b,0,none⟩:Q6).add 2)=some (J7 x.wid)/\ag h ((⟨b,0,none⟩:Q6).add 3)=some (J7 x.name)/\ag h ((⟨b,0,none⟩:Q6).add 4)=some (J4 x.steps.p x.steps.len x.steps.cap)/\ag h ((⟨b,0,none⟩:Q6).add 5)=some (J6 J9 x.ar)/\ag h ((⟨b,0,none⟩:Q6).add 6)=some (J4 x.bV.p x.bV.len x.bV.cap)/\ag h ((⟨b,0,none⟩:Q6).add 7)=some (J6 J9 x.ref)/\ag h ((⟨b,0,none⟩:Q6).add 8)=some (J6 J9 x.turn)/\ag h ((⟨b,0,none⟩:Q6).add 9)=some (J6 J9 x.aU)/\ag h ((⟨b,0,none⟩:Q6).add 10)=some (J6 J9 x.ao)/\ag h ((⟨b,0,none⟩:Q6).add 11)=some (J3 x.aO):=
 ⟨AL a rfl,AB a rfl,AB a rfl,AB a rfl,AB a rfl,AB a rfl,AB a rfl,AB a rfl,AB a rfl,AB a rfl,AB a rfl,AB a rfl⟩
theorem AJu {x:Int}{n:Nat}(c:0<n)(e:n<=1000): ∃b:Nat,b<n/\(J8 J9 ((x.tmod ((n:Nat):Int))+((n:Nat):Int))).tmod ((n:Nat):Int)=(b:Int):=by have f:x.tmod (n:Int)<n:=Int.tmod_lt_of_pos x (by omega);have g: -(n:Int)<x.tmod n:=Int.lt_tmod_of_pos _ (by omega);rw[wrap_i64 (by omega) (by omega)];obtain⟨a,d⟩: ∃a:Nat,x.tmod (n:Int)+n=(a:Int):=⟨(x.tmod (n:Int)+n).toNat,by omega⟩;rw[d,xP];exact⟨a % n,CM _ c,rfl⟩
def nz(a:dd)(wid:A2P):Int×Int×Int:=if Ai wid then(match a wid with|none=>(180,0,0)|some l=>(0,(Ca l).status,(Ca l).next)) else(1,0,0)
theorem uN(a:dd)(wid:A2P):XW a wid=dw (nz a wid).1 (nz a wid).2.1 (nz a wid).2.2:=by
 unfold nz XW;split
 ·cases a wid<;>rfl
 ·rfl
def Rel(g:aa)(b:du)(c d:List (A2P×J0)):Prop:= ∀a,(Ld a c=none/\b a=none)\/
 ∃st nx x p,Ld a c=some (dw 0 st nx).v/\Ld a d=some (bO.v x)/\jP g x p/\Iz x p=0/\(1<=x.kind/\x.kind<=4)/\b a=some (bE x p,st,nx)
theorem qh {k:A2P}{v:J0}: ∀ {m:List (A2P×J0)},(Rs k v m).length<=m.length+1
 | []=>by simp[Rs]
 |q::m=>by
  unfold Rs;split
  ·simp
  ·have:=qh (k:=k) (v:=v) (m:=m);simp only[A6];omega
theorem Rm.same {d e:dd}{b f:du}{j:Nat}{x:bO}{p:cj}{k g st nx:Int}(l:Rm d b j x p k g st nx e f)(h:g≠0\/b x.aW≠none)(q:1<=x.kind/\x.kind<=4):e=d/\f=b:=by
 rcases l with⟨m,n,_⟩|⟨a,o,_⟩
 ·exact⟨m,n⟩
 ·exfalso;rcases h with h|h
  ·exact h o
  ·unfold KY at a;rw[if_neg (by omega)] at a;split at a
   ·cases a
   ·rw[if_neg (by decide)] at a;cases i:b x.aW with
    |none=>exact h i
    |some c=>
     rw[i] at a;have a:(if c.1≠bE x p then some ((184:Int),(0:Int),(0:Int)) else some (0,c.2.1,c.2.2))=none:=a;split at a<;>cases a
theorem Rm.fresh {d g:dd}{c e:du}{n:Nat}{x:bO}{p:cj}{i st nx:Int}(j:Rm d c n x p i 0 st nx g e)(k:c x.aW=none)(r:1<=x.kind/\x.kind<=4):Iz x p=0/\e=dN c x.aW (bE x p,st,nx):=by
 have l: ∀f,KY d c 1 x p=some (0,f)->False:=λf h=>by
  unfold KY at h;rw[if_neg (by omega)] at h;split at h
  ·rename_i a;simp only[BY,N2] at h;exact a h.1
  ·rw[if_neg (by decide),k] at h;dsimp only at h
   repeat' split at h
   all_goals cases h
 rcases j with⟨s,t,b|⟨_,a,_⟩⟩|⟨b,a,u,v,w,y,z,B,C,m,o,q,D⟩
 ·exact absurd b (λh=>l _ h)
 ·exact absurd rfl a
 ·refine⟨?_,by rw[o,q];exact m⟩;unfold KY at b;rw[if_neg (by omega)] at b;split at b
  ·cases b
  ·rename_i a;simpa using a
section
variable {A : ak} {h : aa} {R : A2O}
theorem AD1 {calls:Sl}{cl:List dD}{again:Int}(aG:cp h)(v:View lD h calls cl)(args: ∀c∈cl,∃p,jP h c.q p)(a4: ∀a5,Ext h a5->R (J3 true) a5):AA A P Jn #[J4 calls.p calls.len calls.cap,J6 J9 again] h R:=by
 refine PD ?_;unfold Jr;refine AJn aG Mod.refl λa6 a7 cU=>⟨_,rfl,ae.no rfl (ah.mk λK bI=>?_)⟩
 have cV:=v.len;have key: ∀E:Bool,(E=false->cl.length<=60)->K (E,()) a6:=λE aH=>by
  refine bI _ _ (ae.intro (λe=>a4 a6 a7) (λe=>?_));have cW:cl.length<=60:=aH e;refine sK aG a7 λbJ s av bK bL bM bN cX=>⟨_,_,_,rfl,ae.no rfl ?_⟩
  have cY:=bN.size;refine al.mk λbP _ bQ bR cZ=>al.mk λbS _ a8 a9 c0=>?_
  have aw:=(bL.new bR (by omega)).new a9 (by omega);generalize c1:bJ.size=a at*
  have bU:bP.size=a+1:=by omega
  rw[bU] at a8 aw ⊢;have aw:=aw.less (O':=λc=>c=a\/c=a+1) λc b=>b.elim (λh=> .inl (.inr h)) .inr
  obtain⟨F,c2,ba⟩:=AJu (x:=again) (n:=3) (by decide) (by decide);rw[show((3:Nat):Int)=3 from rfl] at ba;rw[ba,show(1:Int)+(F:Int)=((1+F:Nat):Int) from by omega,Fu (by omega)];refine Loop.rule (λac x d=> ∃(i k:Nat) (o:Hs) (t:List Pr) (fl:dd) (u:du) (f g:List (A2P×J0)),x=((i:Int),())/\ac=cl.length-i/\i<=cl.length/\k<=4+3*i/\EW h d s k 4 [o] t fl u (λc=>c=a\/c=a+1)/\(∀ n,n<4->ig t o n)/\o.p=av.p/\
    MO d a f/\MO d (a+1) g/\Rel h u f g/\f.length<=k/\g.length<=k/\bS.size<=d.size) ?_
   ⟨0,4,av,bK,_,_,[],[],rfl,rfl,AG _,by omega,aw,λn ax=>bM.owns ax,rfl,(MO.empty (a9.af bQ λh=>h)),MO.empty a8,λc3=> .inl ⟨rfl,rfl⟩,by simp,by simp,A0 _⟩
  rintro c4 ac _ d ⟨i,k,o,t,fl,u,f,g,rfl,rfl,c5,c6,G,H,w,I,J,y,ad,af,c7⟩ bV;dsimp only;refine ae.intro (λe=>?_) (λe=>a4 d G.w.ext);have bb:i<cl.length:=by have:=of_decide_eq_true e;omega
  obtain⟨c,b⟩: ∃c,cl[i]? =some c:=⟨_,A2 bb⟩;obtain⟨p,ay⟩:=args c (AF b);refine(v.ext G.w.ext).idx b λc8 _ bX=>nQ.mk c bX ?_
  refine al.mk λc9 _ bY bZ da=>aP.mk bY (A0 15) λbc aI b0 db=>?_
  rw[ASE] at aI;have az:Ext d bc:=bZ.more b0 λc b=>by subst b;exact A0 _
  have bd:=G.new az (Af aI);have b1:=I.lt;have b2:=J.lt;have be:=I.mod az λh=>h
  have bf:=J.mod az λh=>h
  have dc:=az.size;generalize de:d.size=j at*
  refine Loop.rule (λac x d=> ∃(n z:Nat) (o:Hs) (t:List Pr) (fl:dd) (u:du) (f g:List (A2P×J0)),x=((n:Int),())/\ac=1+F-n/\n<=1+F/\z<=k+n/\EW h d s z 4 [o] t fl u (λc=>(c=a\/c=a+1)\/c=j)/\(∀ n,n<4->ig t o n)/\o.p=av.p/\
    MO d a f/\MO d (a+1) g/\Rel h u f g/\f.length<=z/\g.length<=z/\bc.size<=d.size/\d[j]? =some (J2 c.c EC (0,0))) ?_
   ⟨0,k,o,t,fl,u,f,g,rfl,rfl,by omega,by omega,bd,H,w,be,bf,y,ad,af,A0 _,aI⟩
  clear G bd H w I J y ad af be bf;rintro df ac _ B ⟨n,z,o,t,fl,u,f,g,rfl,rfl,ax,dg,G,H,w,I,J,y,ad,af,dh,aJ⟩ b3;dsimp only;have b1:=I.lt;have b2:=J.lt;have b4:=Af aJ;refine ae.intro (λe=>?_) (λe=>?_);rotate_left
  ·have b5:n=1+F:=by have:=of_decide_eq_false e;omega
   rw[AZ (by omega)];exact bV (cl.length-(i+1)) _ _ (by omega) ⟨i+1,z,o,t,fl,u,f,g,rfl,rfl,bb,by omega,G.less λc b=> .inl b,H,w,I,J,y,ad,af,by omega⟩
  have b5:n<1+F:=by have:=of_decide_eq_true e;omega
  refine ah.mk λb6 b7=>?_
  have next: ∀ {q:aa} {U:Nat} {C:Hs} {L:List Pr} {V:dd} {W:du} {ag ai:List (A2P×J0)} {O':Nat->Prop},U<=z+1->EW h q s U 4 [C] L V W O'->(∀ c,((c=a\/c=a+1)\/c=j)->O' c)->(∀ n,n<4->ig L C n)->C.p=av.p->MO q a ag->MO q (a+1) ai->Rel h W ag ai->ag.length<=U->ai.length<=U->B.size<=q.size->q[j]? =some (J2 c.c EC (0,0))->b6 () q:=
   λ{q U C L V W ag ai O'} di b8 b9 ca cb cc cd ce cf cg dj ch=>by
    refine b7 _ _ ?_;rw[AZ (by omega)];exact b3 (1+F-(n+1)) _ _ (by omega) ⟨n+1,U,C,L,V,W,ag,ai,rfl,rfl,by omega,by omega,b8.less b9,ca,cb,cc,cd,ce,cf,cg,by omega,ch⟩
  have ci:(⟨j,0,none⟩:Q6).add 1=⟨j,1,none⟩:=rfl;rw[ci];refine LX.mk c.q (DU aJ rfl) (sM (x:=c.q) λcj aj M=>?_);have aK:=G.new M (Af aj);have bg:=I.mod M λh=>h
  have bh:=J.mod M λh=>h
  have bi:=M.af aJ λh=>h
  refine ah.mk λck cm=>?_
  have bj: ∀E:Bool,(E=false->1<=c.q.kind/\c.q.kind<=4)->ck (E,()) cj:=λE aH=>by
   refine cm _ _ (ae.intro (λe=>?_) (λe=>?_))
   ·exact next (BT _) aK (λc b=> .inl b) H w bg bh y ad af (by have:=M.size;omega) bi
   have D:=aH e;rw[<- w];refine AJ.mk (n:=c.q.wid) (AB aj rfl) (aK.desc (i:=0) rfl λaA bk=>?_);rw[uN];refine Je.mk _ ⟨rfl,iH λcn bm bn=>?_⟩;have X:=bk.trans bn;have bo:=aK.on bk |>.new bn (Af bm);have bp:=X.af aj λh=>h
   refine LX.mk c.q (Qq bp) ?_;rw[show(i:Int)+(n:Int)=((i+n:Nat):Int) from by omega,Fu (by omega)];have aL:=ay.on bo.w.ext;refine bo.ey (i:=0) (p:=p) aG rfl (by omega) (H _ (We _ (by decide))) aL.V aL.lim aL.len (by omega) λaN C L V W aO st nx aQ aC co cq cr ak am=>Je.mk _ ⟨rfl,iH λcs aR Y=>?_⟩
   have aS: ∀n,n<4->ig L C n:=λn ax=>by
    have:=H n ax;unfold ig at this ⊢;rw[co,cq,cr];exact this
   have aQ:EW h aN s (z+1) 4 [C] L V W (λc=>(((c=a\/c=a+1)\/c=j)\/c=B.size)\/c=aA.size):=aQ;have an:=aQ.new Y (Af aR);have aM: ∀ {c:Nat} {bq:Obj},cn[c]? =some bq->(((c=a\/c=a+1)\/c=j)\/c=B.size)\/c=aA.size->cs[c]? =some bq:=λct cu=>Y.af (bW.aM ak ct cu) λh=>h
   have aD:=aM bp (.inl (.inr rfl));have br:=aM bm (.inr rfl);have bs:=aM (X.af bi λh=>h) (.inl (.inl (.inr rfl)));have aT:=(bg.mod X λh=>h).mod (ak.trans Y.mod) λaU=>aU.2 (.inl (.inl (.inl (.inl rfl))))
   have aV:=(bh.mod X λh=>h).mod (ak.trans Y.mod) λaU=>aU.2 (.inl (.inl (.inl (.inr rfl))))
   rw[<- aC];refine AJ.mk (n:=c.q.wid) (AB aD rfl) (an.desc (i:=0) rfl λdk cv=>?_);rw[uN];refine Je.mk _ ⟨rfl,iH λcw bt cx=>?_⟩;have N:=cv.trans cx;have cy:=N.af aD λh=>h
   refine AJ.mk (n:=c.q.aW) (AB cy rfl) (AKd uL Kj ATt (aT.mod N λh=>h) ?_);have dl:=an.on N;have dm:B.size<=cw.size:=by have:=M.size;have:=X.size;have:=ak.size;have:=Y.size;have:=N.size;omega
   have dn:a+1<j:=by omega
   have dp:j<B.size:=b4;rcases y c.q.aW with⟨aW,aX⟩|⟨cz,cB,aY,bu,aW,aX,cC,aZ,a0,bv⟩
   ·
    rw[aW];refine Je.mk bT.z ⟨_,rfl,iH λcD bw Z=>ae.no rfl ?_⟩;have l:=N.trans Z;have ao:=an.on l;have O:=l.af aD λh=>h
    have cE:=l.af br λh=>h
    have bx:=l.af aR λh=>h
    have cF:=Z.af bt λh=>h
    have bz:=l.af bs λh=>h
    have bA:=aT.mod l λh=>h
    have bB:=aV.mod l λh=>h
    have dq:=Z.size;refine AC.mk (n:=aO) (AL bx rfl) (ae.intro (λQ=>?_) (λQ=>?_))
    ·have Q:aO=0:=by simpa using Q
     subst Q;obtain⟨cG,cH⟩:=am.fresh aX D;refine AJ.mk (n:=c.q.aW) (AB O rfl) (AJ.mk (n:=c.q.aW) (AB O rfl) (Dj.mk _ (Iw bx) (LX.mk c.q (Qq O) ?_)));have dr:=ay.aW;have ds:(1099511627776:Nat)<=maxLen:=by decide
     refine ZW uL Kj bA (by omega) (by omega) λdt cI aE dv=>?_
     have cJ: ¬B.size=a:=by omega
     have bC:=aE.af O cJ;refine⟨AST bC,AB bC rfl,ZW uM Kj (bB.mod aE (by omega)) (by omega) (by omega) λdx cK a1 dy=>?_⟩;have cL:=ao.own (O':=λc=>((((c=a\/c=a+1)\/c=j)\/c=B.size)\/c=aA.size)\/c=aN.size) (aE.ai λc _ b=>by subst b;exact .inl (.inl (.inl (.inl (.inl rfl))))) λc b=> .inl b
     have cM:=cL.own (O':=λc=>((((c=a\/c=a+1)\/c=j)\/c=B.size)\/c=aA.size)\/c=aN.size) (a1.ai λc _ b=>by subst b;exact .inl (.inl (.inl (.inl (.inr rfl))))) λc b=> .inl b
     refine next (A0 _) cM (λc b=> .inl (.inl (.inl b))) aS (aC.trans w) (cI.mod a1 (by omega)) cK (λbD=>?_) ?_ ?_ (by omega) (a1.af (aE.af bz (by omega)) (by omega))
     ·rw[ZF,ZF,cH];by_cases r:c.q.aW=bD
      ·subst r;rw[if_pos rfl,if_pos rfl,Jq];exact .inr ⟨st,nx,c.q,p,rfl,rfl,ay,cG,D,rfl⟩
      ·rw[if_neg r,if_neg r,Q3 (λh=>r h.symm)];exact y bD
     ·have:=qh (k:=c.q.aW) (v:=(dw 0 st nx).v) (m:=f);omega
     ·have:=qh (k:=c.q.aW) (v:=(bO.v c.q)) (m:=g);omega
    ·have Q:aO≠0:=by simpa using Q
     obtain⟨rfl,rfl⟩:=am.same (.inl Q) D;refine Dj.mk _ (Iw cE) (Dj.mk _ (Iw cF) (pn λdz ap=>⟨_,rfl,ae.no (by simp) ?_⟩));exact next (A0 _) (ao.on ap) (λc b=> .inl (.inl (.inl b))) aS (aC.trans w) (bA.mod ap λh=>h) (bB.mod ap λh=>h) y (by omega) (by omega) (by have:=ap.size;omega) (ap.af bz λh=>h)
   ·
    rw[aW];refine Je.mk (dw 0 cz cB) ⟨_,rfl,iH λcD bw Z=>ae.yes rfl ?_⟩;have l:=N.trans Z;have ao:=an.on l;have O:=l.af aD λh=>h
    obtain⟨rfl,rfl⟩:=am.same (.inr (by rw[bv];simp)) D;refine AJ.mk (n:=c.q.aW) (AB O rfl) (N9 uM Kj ATx (aV.mod l λh=>h) ?_);rw[aX];have S:=cC.on ao.w.ext;refine nP.mk aY ⟨rfl,sJ S.V S.lim S.len S.sz a0 S.name S.wid S.aW λdA aq=>⟨_,_,rfl,?_⟩⟩;rw[aZ,if_pos rfl];refine LX.mk c.q (Qq (aq.af O λh=>h)) ?_;have cN:=ao.on aq;have T:=ay.on cN.w.ext;refine sJ T.V T.lim T.len T.sz D T.name T.wid T.aW λdB a2=>⟨_,_,rfl,?_⟩
    have bE:=(l.trans aq).trans a2;refine ah.mk λcO cP=>Dj.mk _ (Iw (bE.af br λh=>h)) (Dj.mk _ (Iw ((Z.trans (aq.trans a2)).af bt λh=>h)) (pn λcQ bF=>⟨_,rfl,ae.no (by simp) ?_⟩))
    have bG:=bE.trans bF;have a3: ∀ {q:aa},Ext cQ q->cO (false,()) q:=λ{q} cR=>cP _ _ (ae.no rfl (by
     have ar:=bG.trans cR;have dC:=ar.size;have dE:=N.size;exact next (A0 _) (an.on ar) (λc b=> .inl (.inl (.inl b))) aS (aC.trans w) (aT.mod ar λh=>h) (aV.mod ar λh=>h) y (by omega) (by omega) (by
      have:=M.size;have:=X.size;have:=ak.size;have:=Y.size;omega) (ar.af bs λh=>h)))
    have bH:=bG.af aR λh=>h
    have cS:=((aq.trans a2).trans bF).af bw λh=>h
    refine ae.yes rfl ?_;by_cases ab:Iz c.q p=0
    ·rw[ab,if_pos rfl];have aF:=sN (fl:=V) D ab bv;refine ae.yes rfl ?_;rw[CP];by_cases r:XA aY bu=XA c.q p
     ·rw[if_neg (by rw[(sI aZ ab a0 D).1 r];simp)] at aF;obtain⟨-,-,rfl,rfl,rfl⟩:=am.early aF;refine ae.yes (by simp[r]) (Dj.mk _ (Iw bH) (Dj.mk _ (Iw cS) (pn λdF cT=>⟨_,rfl,ae.no (by simp) (ae.yes rfl (ae.yes rfl (ae.no (by simp[r]) (a3 cT))))⟩)))
     ·rw[if_pos (λh=>r ((sI aZ ab a0 D).2 h))] at aF;obtain⟨-,-,rfl,rfl,rfl⟩:=am.early aF;have ne: ¬AX (XA aY bu)=AX (XA c.q p):=λh=>r (Kc.1 h)
      refine ae.no (by simp[ne]) (ae.yes rfl (ae.yes rfl (ae.yes (by simp[ne]) (AC.mk (n:=184) (AL bH rfl) (a3 Mod.refl)))))
    ·refine ae.no (by simp[ab]) (ae.yes rfl (ae.no (by simp[ab]) (a3 Mod.refl)))
  refine AC.mk (n:=c.q.kind) (AL aj rfl) (ae.intro (λau=>bj true (λh=>by cases h)) λau=>AC.mk (n:=c.q.kind) (AL aj rfl) (bj _ λh=>?_));have au:=of_decide_eq_false au;have h:=of_decide_eq_false h;omega
 refine ae.intro (λau=>key true λh=>by cases h) λau=>key _ λh=>?_
 have h:=of_decide_eq_false h;omega
end
end Go.Lf.G
