/-
 Contract: a table is built.
-/
import Derived.Test.YtecomiijolnjpaaGreatDoorLfU2ToY5
import Derived.Shelf.SlGeneric
import Derived.Shelf.SlIter.Nil
import Derived.Shelf.SlIter.Sorted
import Derived.Shelf.SortM.Plain
import Derived.Shelf.SortM.SortNone
import Derived.Test.YtecomiijolnjpaaGreatDoorProg
import Derived.Test.YtecomiijolnjpaaGreatDoorLfG1
import Derived.Laws.StructEq
import Derived.ChangeKeysEq
set_option maxRecDepth 100000
set_option linter.unusedVariables false
set_option linter.unusedSimpArgs false
open Go.IntKind renaming i64→J9,wrap→J8
open Go.Value renaming string→J7,int→J6,pointer→J5,slice→J4,bool→J3,tuple→J1
open Go.Obj renaming cells→J2
open Go renaming Value→J0,Addr→Q6,TypeId→Q7,FuncId→Q8,Program→Q1
open Go.Addr renaming add→Q9,mk→Q5
namespace Go.Lf.G
open Go
def Im(l:List Pr):List A2P:=l.map (·.key)
def iT(l:List Pr):Nat:=min (l.length+8) 8192
def Mh(l:List Pr):List UInt8:=jB (Im l) (iT l)
def Ja(l:List Pr):List UInt8:=aK (aT l (Mh l))
def Gp(a:List A2P):List UInt8:=a.flatMap λb=>BG (bl b)
structure Gv (l:List Pr):Prop where
 ne:l≠ []
 ok: ∀p∈l,LM p
 inc:l.Pairwise λp q=>aQ p.key q.key=true
 many:l.length<=100000
theorem Gv.eE {l:List Pr}(T:Gv l):gD (Ja l) l (Mh l):=by
 have a:1<=iT l/\iT l<=8192:=by unfold iT;omega
 refine⟨rfl,T.ne,T.ok,T.inc,?_,λp b=>AOq a.1 a.2 (N3 b),T.many⟩;unfold Mh;rw[APU a.1];exact a
theorem Ul: ∀ {rs:List (List UInt8)},(∀ r∈rs,r.length<=1048576)->(aK rs).length<=rs.length*1048590
 | [],_=>by simp
 |r::rs,a=>by
  have d:=(IK (a r AM)).2;have e:=a r AM;have b:=Ul (rs:=rs) λx c=>a x (An _ c)
  simp only[aK,AI,A1,A6] at b ⊢;omega
theorem Qd: ∀ {ks:List A2P},(∀ k∈ks,k.size<=64)->(Gp ks).length<=ks.length*74
 | [],_=>by simp[Gp]
 |k::ks,a=>by
  have d:=a k AM;have e:=AV (n:=(bl k).length) (by rw[Av];omega);have b:=Qd (ks:=ks) λx c=>a x (An _ c)
  have f:=Av k;simp only[Gp,AI,A1,A6,BG] at b ⊢;omega
theorem Ox {l:List Pr}(b: ∀p∈l,LM p): ∀a∈CF l,a.size<=64:=λa c=>by
 obtain⟨i,_,rfl⟩:=List.mem_map.1 c;unfold Il;split
 ·rename_i p d;exact(b p (AF d)).bJ
 ·exact AG _
theorem Qc {l:List Pr}(a: ∀p∈l,LM p){i:Nat}(b:i<Bh l):(BJ (Bu l i)).length<=8*8276:=by
 have e:=Ll (l:=Bu l i) λp c=>a p (Pe c)
 have d:=(QX b).2.1;have:(Bu l i).length*8276<=8*8276:=AS _ d;omega
theorem yj {l:List Pr}(c: ∀p∈l,LM p): ∀a∈(KZ l).map BJ,a.length<=1048576:=λa d=>by
 obtain⟨b,e,rfl⟩:=List.mem_map.1 d;obtain⟨i,f,rfl⟩:=List.mem_map.1 e;have:=Qc c (List.mem_range.1 f);omega
theorem AOV {l:List Pr}{i:Nat}(a:i<Bh l):((KZ l).map BJ)[i]? =some (BJ (Bu l i)):=by simp[KZ,a]
theorem RI {l:List Pr}{i:Nat}(a:i<Bh l):(CF l)[i]? =some (Il l (8*i)):=by simp[CF,a]
theorem Tn {a:Type}{l:List a}{i:Nat}{x:a}(b:l[i]? =some x):l.take (i+1)=l.take i++ [x]:=by rw[AD,b];rfl
theorem yk(a b:List Pr):Im (a++b)=Im a++Im b:=by simp[Im]
theorem yo {l:List Pr}(b:l.Pairwise λp a=>aQ p.key a.key=true){i:Nat}{p a:Pr}(c:l[i]? =some p)(d:l[i+1]? =some a):aQ p.key a.key=true:=by obtain⟨e,rfl⟩:=List.getElem?_eq_some_iff.1 c;obtain⟨f,rfl⟩:=List.getElem?_eq_some_iff.1 d;exact List.pairwise_iff_getElem.1 b _ _ e f (by omega)
theorem AKV(a:Nat)(b:a<=100000):(if(8192:Int)<(J8 J9 (((a:Nat):Int)+(8:Int))) then(8192:Int) else(J8 J9 (((a:Nat):Int)+(8:Int))))=((min (a+8) 8192:Nat):Int):=by rw[wrap_i64 (by omega) (by omega)];split<;>omega
theorem AOf {bz:ak}{e:aa}{s:Sl}{l:List Pr}{aY:A2O}(T:Gv l)(X:View BR e s l)(au: ∀b,s.af=some b->b<e.size)
  (bA: ∀aZ,Ext e aZ->aY (J1 #[J7 (AX (Ja l)),J6 J9 0]) aZ):AA bz P Ps #[J4 s.p s.len s.cap] e aY:=by
 refine ABx ?_;unfold Vw;have cS:=List.length_pos_iff.2 T.ne;have cT:=T.many;refine ae.no (by rw[X.len];simp;exact T.ne) ?_;refine Loop.rule (λm x t=> ∃i:Nat,x=(⟨#[]⟩,0,(i:Int),())/\m=l.length-i/\i<=l.length/\Ext e t) ?_ ⟨0,rfl,rfl,by omega,Mod.refl⟩;rintro K m _ g ⟨i,rfl,rfl,cU,M⟩ a0;dsimp only;have av:=X.ext M;refine ae.intro (λw=>?_) (λw=>?_)
 ·have aw:i<l.length:=by rw[X.len] at w;simp at w;omega
  have y:l[i]? =some l[i]:=A2 aw;have z:=T.ok _ (AT aw);generalize l[i]=x at y z;have a1:=z.bJ;have bB:=z.cw;refine av.idx y λa bC f=>?_
  obtain⟨ax,ay,az⟩:=f.pair;rw[As];refine AJ.mk ax (AJ.mk ay (Ac.mk az ?_));refine al.pair λb Y bD B a2 cV=>?_
  refine ah.mk λaA bE=>?_
  refine AJ.mk (AL B rfl) (ae.no (yd z.key) ?_);have a3:aA (false,()) Y:=by
   refine bE _ _ (ae.no rfl ?_);refine ah.mk λcW bF=>?_
   refine AJ.mk (AL B rfl) (ae.no (by simp;omega) ?_);refine AJ.mk (AB B rfl) ?_;refine bF _ _ (ae.no (by simp;omega) ?_);rw[AZ (by omega)];exact a0 (l.length-(i+1)) _ _ (by omega) ⟨i+1,rfl,rfl,aw,M.trans a2⟩
  have a4:ae (decide (((i:Nat):Int)>(0:Int))) (AJ Y (⟨b,0,none⟩:Q6) λa5=>
     bG s.p s.len (J8 J9 (((i:Nat):Int)-(1:Int))) λa6=>
     AJ Y (a6.add ((J8 J9 (((i:Nat):Int)-(1:Int))).toNat*3)) λa7=>
     aA ((aQ a5 a7||bM a5 a7),()) Y) (aA (false,()) Y):=by
   refine ae.intro (λbH=>?_) (λ_=>a3);have cX:0<i:=by simp at bH;omega
   obtain⟨k,rfl⟩: ∃k,i=k+1:=⟨i-1,by omega⟩;have aC:J8 J9 (((k+1:Nat):Int)-(1:Int))=(k:Int):=by rw[wrap_i64 (by omega) (by omega)];omega
   have N:l[k]? =some l[k]:=A2 (by omega);refine AJ.mk (AL B rfl) ?_;rw[aC];refine(av.ext a2).idx N λa6 cY Z=>?_
   rw[As];refine AJ.mk Z.pair.1 ?_;have aD:=yo T.inc N y;have q:(aQ x.key l[k].key||bM x.key l[k].key)=false:=by
    rw[Hj];refine⟨?_,?_⟩
    ·cases bI:aQ x.key l[k].key with
     |false=>rfl
     |true=>have:=DJ aD bI;rw[Bl] at this;cases this
    ·rw[CP,decide_eq_false_iff_not];intro q;rw[q,Bl] at aD;cases aD
   rw[q];exact a3
  refine Ac.mk (AB B rfl) (ae.intro (λbJ=>?_) (λ_=>a4));refine AJ.mk (AB B rfl) (ae.no ?_ a4);rw[XL,Tm (z.gone bJ)];rfl
 ·clear a0;have aE:=X.len;refine al.mk λbK _ bL bN bO=>?_
  refine al.mk λbP _ a8 a9 cZ=>?_
  refine al.mk λc0 _ ba aF c1=>?_
  refine ab.mk ba (by simp) λbb bc am c2=>?_
  refine al.mk λc3 _ bd an c4=>?_
  refine ab.mk bd (by simp) λbe bf ac c5=>?_
  have bg:bK.size=g.size+1:=bO;have bh:bP.size=g.size+2:=by omega
  have bi:bb.size=g.size+3:=by omega
  have bQ:be.size=g.size+4:=by omega
  rw[bg] at a8;rw[bh] at ba am bc;rw[bi] at bd ac bf;rw[bg,bh,bi];refine AOt X.cap (by omega) λfv G O bR aG Z bj=>⟨_,rfl,?_⟩
  rw[bQ] at bR aG Z bj;generalize bS:g.size=o at*
  have bT: ∃E:Nat->Obj->Prop,E=λc h=>(c=o+4/\h=J2 #[J4 s.p s.len s.cap] AQ (0,0))\/(c=o+5/\h=J2 #[J6 J9 8] BN (0,0)):=⟨_,rfl⟩
  obtain⟨E,ao⟩:=bT;have bU:Ext g G:=by refine⟨by have:=O.size;omega,λc f _=>?_⟩;rw[bS] at f;exact(O.get c (by omega) (λe=>e)).trans ((ac.get c (by omega) (by omega)).trans ((an.get c (by omega) (λe=>e)).trans ((am.get c (by omega) (by omega)).trans ((aF.get c (by omega) (λe=>e)).trans ((a9.get c (by omega) (λe=>e)).trans (bN.get c (by omega) (λe=>e)))))))
  have bV:G[o]? =some (J2 #[J5 none,J4 none 0 0] Dm (0,0)):=
   O.af (ac.af (an.af (am.af (aF.af (a9.af bL (λe=>e)) (λe=>e)) (by omega)) (λe=>e)) (by omega)) (λe=>e)
  have bW:G[o+1]? =some (J2 #[J4 none 0 0] Bw (0,0)):=
   O.af (ac.af (an.af (am.af (aF.af a8 (λe=>e)) (by omega)) (λe=>e)) (by omega)) (λe=>e)
  have bX:G[o+2]? =some (J2 #[J7 (AX [])] Ar (0,0)):=by
   have bY:bb[o+2]? =some (J2 #[J7 (AX [])] Ar (0,0)):=by rw[xu];simpa using bc
   exact O.af (ac.af (an.af bY (λe=>e)) (by omega)) (λe=>e)
  have bZ:G[o+3]? =some (J2 #[J6 J9 ((0:Nat):Int)] BN (0,0)):=by
   have b0:be[o+3]? =some (J2 #[J6 J9 ((0:Nat):Int)] BN (0,0)):=by simpa using bf
   exact O.af b0 (λe=>e)
  have bo:BS g o E [] [] [] 0 G:=by
   refine⟨AP5 bV (A0 _),⟨⟨none,0,0⟩,bW,Own.nil,λc f=>by simp[Sl.af] at f⟩,bX,bZ,λc h f=>?_,bU.mod⟩;subst ao;rcases f with⟨rfl,rfl⟩|⟨rfl,rfl⟩
   ·exact aG
   ·exact Z
  have Q:jD o E:=by
   subst ao;refine⟨λc h f C D=>?_,λc h f C D=>?_,λc h f=>?_⟩
   ·rcases f with⟨rfl,rfl⟩|⟨rfl,rfl⟩<;>exact Ma (by decide) _ _
   ·rcases f with⟨rfl,rfl⟩|⟨rfl,rfl⟩<;>exact Ma (by decide) _ _
   ·rcases f with⟨rfl,rfl⟩|⟨rfl,rfl⟩<;>omega
  have bk: ∀d h,o+6<=d-> ¬E d h:=by subst ao;rintro d h hd (⟨rfl,_⟩|⟨rfl,_⟩)<;>omega
  have b1:(chunks s).length=Bh l:=by rw[RG,aE];rfl
  have c6:Bh l<=12501:=by unfold Bh;omega
  have ap:G.size=o+6:=by omega
  have b2: ∀b,s.af=some b->b<o:=λb b3=>by have:=au b b3;have:=M.size;omega
  refine AS1 bj (λi t=>BS g o E (aK (((KZ l).map BJ).take i)) (Im (l.take (8*i))) (Gp ((CF l).take i)) i t) ?_ ?_ ?_ ?_ ?_
  ·intro i t r c f;subst ao;rcases f with rfl|rfl
   ·exact(r.fix _ _ (.inl ⟨rfl,rfl⟩)).trans aG.symm
   ·exact(r.fix _ _ (.inr ⟨rfl,rfl⟩)).trans Z.symm
  ·rintro i t h r R ⟨c7,b4⟩;exact r.lp (by omega) (λh=>bk _ _ (by omega)) b4 h
  ·intro rec;exact bo.ext ((Mod.push G _).trans (Mod.push _ _))
  ·intro i x t rec c8 c9 y r R aq b5 b6;have S:i<Bh l:=by have:=(List.getElem?_eq_some_iff.1 y).1;omega
   have b7:x=Pp s i:=by have:=yh (s:=s) (i:=i) (by rw[aE];exact S);rw[this] at y;exact(Bs y).symm
   subst b7;rw[ap] at R aq ⊢;refine⟨rec,aq,b5,?_⟩;obtain⟨u,J⟩: ∃u:Nat->Obj->Prop,u=λc h=>E c h\/(c=o+6/\h= .deferred (some []))\/(c=o+6+1/\h= .loop {rec with state:= .busy}):=⟨_,rfl⟩
   have L:jD o u:=by
    subst J;refine⟨λc h f C D=>?_,λc h f C D=>?_,λc h f=>?_⟩
    ·rcases f with e|⟨rfl,rfl⟩|⟨rfl,rfl⟩
     ·exact Q.u8 c h e C D
     ·intro q;cases q
     ·intro q;cases q
    ·rcases f with e|⟨rfl,rfl⟩|⟨rfl,rfl⟩
     ·exact Q.str c h e C D
     ·intro q;cases q
     ·intro q;cases q
    ·rcases f with e|⟨rfl,rfl⟩|⟨rfl,rfl⟩
     ·exact Q.lt c h e
     ·omega
     ·omega
   have U:=r.lp (d:=o+6+1) (by omega) (λh=>bk _ _ (by omega)) aq {rec with state:= .busy};have aH:BS g o u (aK (((KZ l).map BJ).take i)) (Im (l.take (8*i))) (Gp ((CF l).take i)) i (t.setIfInBounds (o+6+1) (.loop {rec with state:= .busy})):=by
    refine⟨U.gj,U.keys,U.ix,U.ct,λc h f=>?_,U.dT⟩;subst J;rcases f with e|⟨rfl,rfl⟩|⟨rfl,rfl⟩
    ·exact U.fix c h e
    ·rw[DS (by omega)];exact R
    ·exact CQ (Af aq)
   generalize t.setIfInBounds (o+6+1) (.loop {rec with state:= .busy})=da at aH;have db:=QX S;have aI: ∀p∈Bu l i,LM p:=λp aJ=>T.ok p (Pe aJ)
   have aL: ∀ {t:aa} {out:List UInt8} {b8:List A2P} {b9:List UInt8} {n:Nat},BS g o u out b8 b9 n t->View BR t (Pp s i) (Bu l i):=λb=>
    View.chunk (av.mod b.dT (λc f=>by have:=b2 c f;omega)) S
   have ca:(Pp s i).len=(Bu l i).length:=(aL aH).len;have aM:=Ul (rs:=((KZ l).map BJ).take i) λcb cc=>yj T.ok cb (DM cc)
   have aN:=Qd (ks:=(CF l).take i) λk N=>Ox T.ok k (DM N)
   rw[AH] at aM aN;have dc:=Qc T.ok S;refine Loop.rule (λm x t=> ∃j:Nat,x=(AX (BJ ((Bu l i).take j)),(j:Int),())/\m=(Bu l i).length-j/\j<=(Bu l i).length/\
    BS g o u (aK (((KZ l).map BJ).take i)) (Im (l.take (8*i))++Im ((Bu l i).take j)) (Gp ((CF l).take i)) i t) ?_ ⟨0,rfl,rfl,by omega,by simpa [Im] using aH⟩
   rintro dd m _ de ⟨j,rfl,rfl,df,H⟩ cd;dsimp only[qA];refine ae.intro (λw=>?_) (λw=>?_)
   ·have ad:j<(Bu l i).length:=by have w:((j:Nat):Int)<(((Pp s i).len:Nat):Int):=of_decide_eq_true w;omega
    have y:(Bu l i)[j]? =some (Bu l i)[j]:=A2 ad;have z:=aI _ (AT ad);generalize (Bu l i)[j]=p at y z;have bm:=Tn y;refine(aL H).idx y λa bC f=>?_
    obtain⟨ax,ay,az⟩:=f.pair;rw[As];refine AJ.mk ax (AJ.mk ay (Ac.mk az ?_));refine al.pair λbn dg bD B ce dh=>?_
    have A:=H.ext ce;obtain⟨ks,af,ai,aj⟩:=A.keys;refine AY.mk (s:=ks) (AL af rfl) ?_;refine AJ.mk (AL B rfl) ?_;have di:o+3<bn:=by have:=Af H.ct;omega
    have aO:(Im (l.take (8*i))++Im ((Bu l i).take j)).length<=100010:=by rw[A1];simp only[Im,BE,AH];omega
    refine al.aZ (E:=IQ) (x:=p.key) rfl rh ai (by omega) (by simp only[maxLen];omega) λbp cf cg aP ch dj=>?_
    have ci:cf[o+1]? =some (J2 #[J4 ks.p ks.len ks.cap] Bw (0,0)):=aP.af af (λe=>by have:=aj _ e;omega);refine ab.mk ci (by simp) λbq cj aR dk=>?_
    have br: ∀c,bp.af=some c->o+3<c:=λc f=>by
     rcases ch c f with e|e
     ·exact aj c e
     ·have:=Af A.ct;omega
    have F:BS g o u _ (Im (l.take (8*i))++Im ((Bu l i).take j)++ [p.key]) _ i bq:=
     A.key L (jd:=bp) af ai aj ((aP.ai λc _ f=> .inl f).trans (aR.ai λc _ f=> .inr f)) (by simpa using cj) (cg.mod aR (λc f e=>by have:=br c f;omega)) br
    have aS:bq[bn]? =some (J2 #[J7 p.key,J7 p.val,J3 p.gone] AU (0,0)):=aR.af (aP.af B (λe=>ai.ne B (by decide) e)) (by omega);refine AJ.mk (AL aS rfl) (AJ.mk (AB aS rfl) (Ac.mk (AB aS rfl) ?_));refine AOL (x:=p) z λdl ck=>⟨_,rfl,?_⟩
    have cl:BJ ((Bu l i).take (j+1))=BJ ((Bu l i).take j)++Ib p:=by rw[bm];simp[BJ]
    have lt:=Ll (l:=(Bu l i).take j) λcm w=>aI cm (DM w)
    rw[AH] at lt;have lp:=(QH z).2;have a1:=z.bJ;have bB:=z.cw;refine⟨by rw[AP,AP,max_i64];omega,?_⟩;rw[Ae,<-cl,AZ (by omega)];refine cd ((Bu l i).length-(j+1)) _ _ (by omega) ⟨j+1,rfl,rfl,ad,?_⟩;have I:=F.ext ck;have:Im ((Bu l i).take (j+1))=Im ((Bu l i).take j)++ [p.key]:=by rw[bm,yk];rfl
    rw[this,<-A4];exact I
   ·have ad:j=(Bu l i).length:=by have w: ¬((j:Nat):Int)<(((Pp s i).len:Nat):Int):=of_decide_eq_false w;omega
    have cn:(Bu l i).take j=Bu l i:=by rw[ad];simp
    rw[cn] at H ⊢;refine qP (by omega) (λe=>by omega) λaU dm co=>⟨_,_,rfl,?_⟩
    have A:=H.ext co;have cp:=IK aU;refine UX A.gj (by have:=Af A.ct;omega) (by rw[AP];omega) λcq cr cs=>⟨_,_,rfl,?_⟩
    have F:=A.write L cr cs;rw[EN] at F;refine AJ.mk (AL F.ix rfl) ?_;have aV:(Bu l i)[0]? =some (Bu l i)[0]:=A2 (by omega);have bs:Il l (8*i)=(Bu l i)[0].key:=by have:=QE (l:=l) (i:=i) (j:=0) (by omega);rw[aV] at this;unfold Il;rw[Gk] at this;rw[<- this]
    have bt:=aI _ (AT (show 0<(Bu l i).length by omega));generalize (Bu l i)[0]=V at aV bs bt;obtain⟨ct,cu,bu⟩:=(aL F).cells 0 V aV;refine bG.mk (k:=0) cu (by rw[ca];omega) ?_;rw[HL,add_zero] at bu;refine AJ.mk (n:=V.key) (by show ag cq (ct.add 0)=_;rw[add_zero];exact bu.pair.1) ?_;have a1:=bt.bJ;refine VE (by omega) λdn cv=>⟨_,rfl,?_⟩
    have I:=F.ext cv;refine⟨AL I.ix rfl,?_⟩;have dp:=AV (n:=(bl V.key).length) (by rw[Av];omega);have dq:=Av V.key;refine⟨by rw[AP,AP,max_i64];simp only[BG,A1];omega,?_⟩;rw[Ae];refine ab.mk I.ix (by simp) λdr cw cx ds=>?_
    have W:=I.zY L (oJ:=Gp ((CF l).take i)++BG (bl V.key)) cx (by simpa using cw);refine AC.mk (AL W.ct rfl) ?_;rw[AZ (by omega)];refine ab.mk W.ct (by simp) λcy cz cB dt=>?_
    have v:=W.oI L (n':=i+1) cB (by simpa using cz);have aC:aK (((KZ l).map BJ).take (i+1))=aK (((KZ l).map BJ).take i)++Cb (BJ (Bu l i)):=by rw[Tn (AOV S)];simp[aK]
    have cC:Im (l.take (8*(i+1)))=Im (l.take (8*i))++Im (Bu l i):=by rw[<- yk,vC]
    have cD:Gp ((CF l).take (i+1))=Gp ((CF l).take i)++BG (bl V.key):=by rw[Tn (RI S),bs];simp[Gp]
    subst J;refine b6 cy ?_ ?_ ?_
    ·rw[aC,cC,cD];exact⟨v.gj,v.keys,v.ix,v.ct,λc h f=>v.fix c h (.inl f),v.dT⟩
    ·rw[ap];exact v.fix _ _ (.inr (.inl ⟨rfl,rfl⟩))
    ·rw[ap];exact v.fix _ _ (.inr (.inr ⟨rfl,rfl⟩))
  ·intro cE r R;rw[b1] at r;have af:((KZ l).map BJ).take (Bh l)=(KZ l).map BJ:=AE (by simp[Gt]);have ai:l.take (8*Bh l)=l:=AE (by unfold Bh;omega);have aj:(CF l).take (Bh l)=CF l:=AE (by simp[HY]);rw[af,ai,aj] at r;rw[ap] at R ⊢;obtain⟨u,J⟩: ∃u:Nat->Obj->Prop,u=λc h=>E c h\/(c=o+6/\h= .deferred (some [])):=⟨_,rfl⟩
   have L:jD o u:=by
    subst J;refine⟨λc h f C D=>?_,λc h f C D=>?_,λc h f=>?_⟩
    ·rcases f with e|⟨rfl,rfl⟩
     ·exact Q.u8 c h e C D
     ·intro q;cases q
    ·rcases f with e|⟨rfl,rfl⟩
     ·exact Q.str c h e C D
     ·intro q;cases q
    ·rcases f with e|⟨rfl,rfl⟩
     ·exact Q.lt c h e
     ·omega
   have H:BS g o u (aK ((KZ l).map BJ)) (Im l) (Gp (CF l)) (Bh l) cE:=by
    refine⟨r.gj,r.keys,r.ix,r.ct,λc h f=>?_,r.dT⟩;subst J;rcases f with e|⟨rfl,rfl⟩
    ·exact r.fix c h e
    ·exact R
   obtain⟨ks,bv,aW,du⟩:=H.keys;refine AY.mk (s:=ks) (AL bv rfl) (AY.mk (s:=ks) (AL bv rfl) ?_);have aO:ks.len=l.length:=by rw[aW.len];simp[Im]
   have bw:1<=iT l/\iT l<=8192:=by unfold iT;omega
   have bx:=T.eE;have dv:=bx.jc;rw[aO,AKV _ T.many];rw[show((min (l.length+8) 8192:Nat):Int)=((iT l:Nat):Int) from rfl,<-aO];refine AP3 (ks:=Im l) aW.view (λk N=>?_) bw.1 bw.2 (by simp[Im];omega) (λb au=>aW.lt au) λdw cF=>⟨_,_,rfl,?_⟩
   ·obtain⟨p,aJ,rfl⟩:=List.mem_map.1 N;have:=(T.ok p aJ).bJ;omega
   have A:=H.ext cF;refine AC.mk (AL A.ct rfl) ?_;rw[Ba (by omega)];refine CR (by omega) λdx cG=>⟨_,rfl,?_⟩
   have F:=A.ext cG;refine AJ.mk (AL F.ix rfl) ⟨AL A.ix rfl,?_⟩;have dy:=AV (n:=Bh l) (by omega);have aN:=Qd (ks:=CF l) (Ox T.ok);rw[HY] at aN;refine⟨by rw[AP,AP,max_i64];omega,?_⟩;rw[aE,Ba (by omega)];refine CR (by omega) λdz cH=>⟨_,rfl,?_⟩
   have I:=F.ext cH;have dA:=AV (n:=l.length) (by omega);refine⟨AL I.ix rfl,?_⟩;rw[Ae];refine⟨by rw[AP,AP,max_i64];simp only[A1];omega,?_⟩;refine Qu (l:=Mh l) (by omega) λdB cI=>⟨_,rfl,?_⟩
   have W:=I.ext cI;have dC:=AV (n:=(Mh l).length) (by omega);refine⟨AL W.ix rfl,?_⟩;rw[Ae,Ae];have dD:(BG (Mh l)).length=(BH (Mh l).length).length+(Mh l).length:=by simp[BG]
   refine⟨by rw[AP,AP,max_i64];simp only[A1];omega,?_⟩;have cJ:BH (Bh l)++Gp (CF l)++BH l.length++BG (Mh l)=VU l (Mh l):=by unfold VU Gp;simp only[A4]
   rw[cJ];have dE:=Xq bx;refine qP (by omega) (λe=>by omega) λaU dF cK=>⟨_,_,rfl,ae.no rfl ?_⟩
   have v:=W.ext cK;have aM:=Ul (rs:=(KZ l).map BJ) (yj T.ok);rw[BE,Gt] at aM;have cp:=IK aU;refine UX v.gj (by have:=Af v.ct;omega) (by rw[AP];omega) λdG cL cM=>⟨_,_,rfl,?_⟩
   have ar:=v.write L cL cM;rw[EN] at ar;refine AJW ar.gj (by have:=Af ar.ct;omega) λcN cO cP=>⟨_,rfl,?_⟩
   have aX:=ar.write L cO cP;have cQ:aK ((KZ l).map BJ)++Cb (VU l (Mh l))=Ja l:=by unfold Ja aT;simp[aK]
   have cR:cN[o+6]? =some (.deferred (some [])):=aX.fix _ _ (by subst J;exact .inr ⟨rfl,rfl⟩);refine⟨cR,?_⟩;rw[cQ];refine bA _ ⟨?_,λc f _=>?_⟩
   ·have:=aX.dT.size;have:=M.size;simp;omega
   ·have:=M.size;rw[DS (by omega)];exact(aX.dT.get c (by omega) (by omega)).trans (M.get c f (λe=>e))
end Go.Lf.G
namespace Go.Proofs
open Go.Shelf
def Tryz.cE:Go.Shelf.Ren:=⟨λ|7=>167|10=>200|a=>a,λ|23=>142|26=>9|3=>240|28=>269|0=>0|27=>268|33=>115|4=>4|a=>a,λ|a=>a⟩
theorem Tryz.iB:Go.Proofs.SlLaysZ.n7 Tryz.prog Tryz.cE:= {
 mixed:=by kernel_rfl
 f7:=⟨Tryz.f167.name,by decide,Tryz.func167.trans (congrArg some (by kernel_rfl))⟩
 f10:=⟨Tryz.f200.name,by decide,Tryz.func200.trans (congrArg some (by kernel_rfl))⟩
 t0:=Tryz.underlying0
 a0:=Tryz.isAgg0
 z0:=Tryz.sizeOf0
 v0:=Tryz.zeroValue0
 t4:=Tryz.underlying4
 a4:=Tryz.isAgg4
 z4:=Tryz.sizeOf4
 v4:=Tryz.zeroValue4
 t23:=Tryz.underlying142
 a23:=Tryz.isAgg142
 z23:=Tryz.sizeOf142
 v23:=Tryz.zeroValue142
 t26:=Tryz.underlying9
 a26:=Tryz.isAgg9
 z26:=Tryz.sizeOf9
 v26:=Tryz.zeroValue9
 t27:=Tryz.underlying268
 a27:=Tryz.isAgg268
 z27:=Tryz.sizeOf268
 v27:=Tryz.zeroValue268
 t28:=Tryz.underlying269
 a28:=Tryz.isAgg269
 z28:=Tryz.sizeOf269
 v28:=Tryz.zeroValue269
 t33:=Tryz.underlying115
 a33:=Tryz.isAgg115
 z33:=Tryz.sizeOf115
 v33:=Tryz.zeroValue115}
def Tryz.dA:Go.Shelf.Ren:=⟨λ|6=>166|8=>198|9=>199|11=>236|13=>188|12=>237|23=>225|24=>226|14=>259|15=>260|16=>261|17=>262|18=>263|19=>264|20=>265|21=>266|22=>267|25=>274|26=>248|27=>249|28=>275|29=>276|30=>277|31=>278|a=>a,λ|26=>9|28=>269|24=>189|0=>0|3=>3|37=>158|48=>155|50=>112|4=>4|40=>310|39=>309|45=>212|5=>5|9=>9|51=>337|55=>340|57=>358|58=>253|33=>115|a=>a,λ|a=>a⟩
theorem Tryz.hU:Go.Proofs.SlLaysZ.n6 Tryz.prog Tryz.dA:= {
 mixed:=by kernel_rfl
 f6:=⟨Tryz.f166.name,by decide,Tryz.func166.trans (congrArg some (by kernel_rfl))⟩
 f8:=⟨Tryz.f198.name,by decide,Tryz.func198.trans (congrArg some (by kernel_rfl))⟩
 f11:=⟨Tryz.f236.name,by decide,Tryz.func236.trans (congrArg some (by kernel_rfl))⟩
 t0:=Tryz.underlying0
 a0:=Tryz.isAgg0
 z0:=Tryz.sizeOf0
 v0:=Tryz.zeroValue0
 t24:=Tryz.underlying189
 a24:=Tryz.isAgg189
 z24:=Tryz.sizeOf189
 v24:=Tryz.zeroValue189
 t26:=Tryz.underlying9
 a26:=Tryz.isAgg9
 z26:=Tryz.sizeOf9
 v26:=Tryz.zeroValue9
 t28:=Tryz.underlying269
 a28:=Tryz.isAgg269
 z28:=Tryz.sizeOf269
 v28:=Tryz.zeroValue269
 i26:=by kernel_rfl}
def Tryz.fK:Go.Shelf.Ren:=⟨λ|6=>199|8=>188|9=>237|19=>225|20=>226|21=>259|22=>260|23=>261|24=>262|25=>263|26=>264|27=>265|28=>266|29=>267|36=>274|31=>248|32=>249|37=>275|38=>276|39=>277|41=>278|a=>a,λ|27=>189|29=>9|3=>3|32=>158|26=>189|0=>0|44=>155|46=>112|4=>4|36=>310|35=>309|41=>212|5=>5|9=>9|53=>337|57=>340|63=>358|64=>253|a=>a,λ|a=>a⟩
theorem Tryz.iC:Go.Proofs.SlLaysM.n6 Tryz.prog Tryz.fK:= {
 mixed:=by kernel_rfl
 f6:=⟨Tryz.f199.name,by decide,Tryz.func199.trans (congrArg some (by kernel_rfl))⟩
 f8:=Tryz.func188.trans (congrArg some (by kernel_rfl))
 f9:=⟨Tryz.f237.name,by decide,Tryz.func237.trans (congrArg some (by kernel_rfl))⟩
 f19:=Tryz.func225.trans (congrArg some (by kernel_rfl))
 f20:=Tryz.func226.trans (congrArg some (by kernel_rfl))
 f21:=⟨Tryz.f259.name,by decide,Tryz.func259.trans (congrArg some (by kernel_rfl))⟩
 f22:=⟨Tryz.f260.name,by decide,Tryz.func260.trans (congrArg some (by kernel_rfl))⟩
 f23:=⟨Tryz.f261.name,by decide,Tryz.func261.trans (congrArg some (by kernel_rfl))⟩
 f24:=⟨Tryz.f262.name,by decide,Tryz.func262.trans (congrArg some (by kernel_rfl))⟩
 f25:=⟨Tryz.f263.name,by decide,Tryz.func263.trans (congrArg some (by kernel_rfl))⟩
 f26:=⟨Tryz.f264.name,by decide,Tryz.func264.trans (congrArg some (by kernel_rfl))⟩
 f27:=⟨Tryz.f265.name,by decide,Tryz.func265.trans (congrArg some (by kernel_rfl))⟩
 f28:=⟨Tryz.f266.name,by decide,Tryz.func266.trans (congrArg some (by kernel_rfl))⟩
 f29:=⟨Tryz.f267.name,by decide,Tryz.func267.trans (congrArg some (by kernel_rfl))⟩
 f31:=Tryz.func248.trans (congrArg some (by kernel_rfl))
 f32:=Tryz.func249.trans (congrArg some (by kernel_rfl))
 f36:=⟨Tryz.f274.name,by decide,Tryz.func274.trans (congrArg some (by kernel_rfl))⟩
 f37:=⟨Tryz.f275.name,by decide,Tryz.func275.trans (congrArg some (by kernel_rfl))⟩
 f38:=⟨Tryz.f276.name,by decide,Tryz.func276.trans (congrArg some (by kernel_rfl))⟩
 f39:=⟨Tryz.f277.name,by decide,Tryz.func277.trans (congrArg some (by kernel_rfl))⟩
 f41:=⟨Tryz.f278.name,by decide,Tryz.func278.trans (congrArg some (by kernel_rfl))⟩
 t0:=Tryz.underlying0
 a0:=Tryz.isAgg0
 z0:=Tryz.sizeOf0
 v0:=Tryz.zeroValue0
 t3:=Tryz.underlying3
 a3:=Tryz.isAgg3
 z3:=Tryz.sizeOf3
 v3:=Tryz.zeroValue3
 t4:=Tryz.underlying4
 a4:=Tryz.isAgg4
 z4:=Tryz.sizeOf4
 v4:=Tryz.zeroValue4
 t5:=Tryz.underlying5
 a5:=Tryz.isAgg5
 z5:=Tryz.sizeOf5
 v5:=Tryz.zeroValue5
 t9:=Tryz.underlying9
 a9:=Tryz.isAgg9
 z9:=Tryz.sizeOf9
 v9:=Tryz.zeroValue9
 t26:=Tryz.underlying189
 a26:=Tryz.isAgg189
 z26:=Tryz.sizeOf189
 v26:=Tryz.zeroValue189
 t27:=Tryz.underlying189
 a27:=Tryz.isAgg189
 z27:=Tryz.sizeOf189
 v27:=Tryz.zeroValue189
 t29:=Tryz.underlying9
 a29:=Tryz.isAgg9
 z29:=Tryz.sizeOf9
 v29:=Tryz.zeroValue9
 t32:=Tryz.underlying158
 a32:=Tryz.isAgg158
 z32:=Tryz.sizeOf158
 v32:=Tryz.zeroValue158
 t35:=Tryz.underlying309
 a35:=Tryz.isAgg309
 z35:=Tryz.sizeOf309
 v35:=Tryz.zeroValue309
 t36:=Tryz.underlying310
 a36:=Tryz.isAgg310
 z36:=Tryz.sizeOf310
 v36:=Tryz.zeroValue310
 t41:=Tryz.underlying212
 a41:=Tryz.isAgg212
 z41:=Tryz.sizeOf212
 v41:=Tryz.zeroValue212
 t44:=Tryz.underlying155
 a44:=Tryz.isAgg155
 z44:=Tryz.sizeOf155
 v44:=Tryz.zeroValue155
 t46:=Tryz.underlying112
 a46:=Tryz.isAgg112
 z46:=Tryz.sizeOf112
 v46:=Tryz.zeroValue112
 t53:=Tryz.underlying337
 a53:=Tryz.isAgg337
 z53:=Tryz.sizeOf337
 v53:=Tryz.zeroValue337
 t57:=Tryz.underlying340
 a57:=Tryz.isAgg340
 z57:=Tryz.sizeOf340
 v57:=Tryz.zeroValue340
 t63:=Tryz.underlying358
 a63:=Tryz.isAgg358
 z63:=Tryz.sizeOf358
 v63:=Tryz.zeroValue358
 t64:=Tryz.underlying253
 a64:=Tryz.isAgg253
 z64:=Tryz.sizeOf253
 v64:=Tryz.zeroValue253}
def Tryz.fL:Go.Shelf.Ren:=⟨λ|5=>161|8=>188|7=>187|19=>225|20=>226|10=>216|11=>217|12=>218|13=>219|14=>220|15=>221|16=>222|17=>223|18=>224|30=>247|31=>248|32=>249|33=>250|34=>251|35=>252|40=>271|a=>a,λ|23=>68|25=>3|3=>3|32=>158|22=>68|0=>0|44=>155|46=>112|4=>4|36=>310|35=>309|41=>212|5=>5|9=>9|53=>337|57=>340|63=>358|64=>253|a=>a,λ|a=>a⟩
theorem Tryz.iD:Go.Proofs.SlLaysM.n5 Tryz.prog Tryz.fL:= {
 mixed:=by kernel_rfl
 f5:=⟨Tryz.f161.name,by decide,Tryz.func161.trans (congrArg some (by kernel_rfl))⟩
 f7:=⟨Tryz.f187.name,by decide,Tryz.func187.trans (congrArg some (by kernel_rfl))⟩
 f8:=Tryz.func188.trans (congrArg some (by kernel_rfl))
 f10:=⟨Tryz.f216.name,by decide,Tryz.func216.trans (congrArg some (by kernel_rfl))⟩
 f11:=⟨Tryz.f217.name,by decide,Tryz.func217.trans (congrArg some (by kernel_rfl))⟩
 f12:=⟨Tryz.f218.name,by decide,Tryz.func218.trans (congrArg some (by kernel_rfl))⟩
 f13:=⟨Tryz.f219.name,by decide,Tryz.func219.trans (congrArg some (by kernel_rfl))⟩
 f14:=⟨Tryz.f220.name,by decide,Tryz.func220.trans (congrArg some (by kernel_rfl))⟩
 f15:=⟨Tryz.f221.name,by decide,Tryz.func221.trans (congrArg some (by kernel_rfl))⟩
 f16:=⟨Tryz.f222.name,by decide,Tryz.func222.trans (congrArg some (by kernel_rfl))⟩
 f17:=⟨Tryz.f223.name,by decide,Tryz.func223.trans (congrArg some (by kernel_rfl))⟩
 f18:=⟨Tryz.f224.name,by decide,Tryz.func224.trans (congrArg some (by kernel_rfl))⟩
 f19:=Tryz.func225.trans (congrArg some (by kernel_rfl))
 f20:=Tryz.func226.trans (congrArg some (by kernel_rfl))
 f30:=⟨Tryz.f247.name,by decide,Tryz.func247.trans (congrArg some (by kernel_rfl))⟩
 f31:=Tryz.func248.trans (congrArg some (by kernel_rfl))
 f32:=Tryz.func249.trans (congrArg some (by kernel_rfl))
 f33:=⟨Tryz.f250.name,by decide,Tryz.func250.trans (congrArg some (by kernel_rfl))⟩
 f34:=⟨Tryz.f251.name,by decide,Tryz.func251.trans (congrArg some (by kernel_rfl))⟩
 f35:=⟨Tryz.f252.name,by decide,Tryz.func252.trans (congrArg some (by kernel_rfl))⟩
 f40:=⟨Tryz.f271.name,by decide,Tryz.func271.trans (congrArg some (by kernel_rfl))⟩
 t0:=Tryz.underlying0
 a0:=Tryz.isAgg0
 z0:=Tryz.sizeOf0
 v0:=Tryz.zeroValue0
 t3:=Tryz.underlying3
 a3:=Tryz.isAgg3
 z3:=Tryz.sizeOf3
 v3:=Tryz.zeroValue3
 t4:=Tryz.underlying4
 a4:=Tryz.isAgg4
 z4:=Tryz.sizeOf4
 v4:=Tryz.zeroValue4
 t5:=Tryz.underlying5
 a5:=Tryz.isAgg5
 z5:=Tryz.sizeOf5
 v5:=Tryz.zeroValue5
 t9:=Tryz.underlying9
 a9:=Tryz.isAgg9
 z9:=Tryz.sizeOf9
 v9:=Tryz.zeroValue9
 t22:=Tryz.underlying68
 a22:=Tryz.isAgg68
 z22:=Tryz.sizeOf68
 v22:=Tryz.zeroValue68
 t23:=Tryz.underlying68
 a23:=Tryz.isAgg68
 z23:=Tryz.sizeOf68
 v23:=Tryz.zeroValue68
 t25:=Tryz.underlying3
 a25:=Tryz.isAgg3
 z25:=Tryz.sizeOf3
 v25:=Tryz.zeroValue3
 t32:=Tryz.underlying158
 a32:=Tryz.isAgg158
 z32:=Tryz.sizeOf158
 v32:=Tryz.zeroValue158
 t35:=Tryz.underlying309
 a35:=Tryz.isAgg309
 z35:=Tryz.sizeOf309
 v35:=Tryz.zeroValue309
 t36:=Tryz.underlying310
 a36:=Tryz.isAgg310
 z36:=Tryz.sizeOf310
 v36:=Tryz.zeroValue310
 t41:=Tryz.underlying212
 a41:=Tryz.isAgg212
 z41:=Tryz.sizeOf212
 v41:=Tryz.zeroValue212
 t44:=Tryz.underlying155
 a44:=Tryz.isAgg155
 z44:=Tryz.sizeOf155
 v44:=Tryz.zeroValue155
 t46:=Tryz.underlying112
 a46:=Tryz.isAgg112
 z46:=Tryz.sizeOf112
 v46:=Tryz.zeroValue112
 t53:=Tryz.underlying337
 a53:=Tryz.isAgg337
 z53:=Tryz.sizeOf337
 v53:=Tryz.zeroValue337
 t57:=Tryz.underlying340
 a57:=Tryz.isAgg340
 z57:=Tryz.sizeOf340
 v57:=Tryz.zeroValue340
 t63:=Tryz.underlying358
 a63:=Tryz.isAgg358
 z63:=Tryz.sizeOf358
 v63:=Tryz.zeroValue358
 t64:=Tryz.underlying253
 a64:=Tryz.isAgg253
 z64:=Tryz.sizeOf253
 v64:=Tryz.zeroValue253}
end Go.Proofs
namespace Go.Lf.G
open Go
abbrev nA:Q8:=FM
theorem AQB {d:ak}{a:aa}{b:Option Nat}{e:A2O}(g: ∀T c,c[a.size]? =some (J2 #[.map b] T (0,0))->Ext a c->c.size=a.size+1->e (.func (.func nA) #[] #[Az a.size]) c):
  AA d P Bo #[.map b] a e:=by
 intro f;have h:=Proofs.AnyZ.keys_in Proofs.Tryz.iB Fence.wide 5 trivial rfl b (d.at a f);have i:=callsIn_wide.1 h;refine Calls.mono i ?_;rintro j k ⟨rfl,rfl⟩;refine⟨_,rfl,a.push (J2 #[.map b] (Proofs.Tryz.cE.t 23)),f,rfl,?_⟩;exact g (Proofs.Tryz.cE.t 23) (a.push (J2 #[.map b] (Proofs.Tryz.cE.t 23))) (by simp) (Mod.push a _) (by simp)
theorem ASh(m:Nat):Proofs.AnyZ.SortsIn P Proofs.Tryz.dA Fence.wide m:=
 ⟨λaf off a c b d e f=>callsIn_wide.2 (Proofs.AnyM.slices_Sort_string Proofs.Tryz.iC af off a c b d e f),
 λp a b=>callsIn_wide.2 (Proofs.AnyM.slices_Sort_string_none Proofs.Tryz.iC p a b)⟩
theorem AMA {A:ak}{h:aa}{c i:Nat}{T:Q7}{m:List (A2P×J0)}{l:List A2P}{o:A2O}(p:h[c]? =some (J2 #[.map (some i)] T (0,0)))(M:MO h i m)
  (B:nC l) (C:(m.map (·.1)).Perm l) (d:m.length<=8796093022208)
  (q: ∀s j,Own IQ Ar j s l->Ext h j->(∀ b,s.af=some b->h.size<=b)->o (J4 s.p s.len s.cap) j):
  AA A P F4 #[.func (.func nA) #[] #[Az c]] h o:=by
 intro n;obtain⟨k,D,E,r⟩:=AKI (P:=P) (kt:=Ar) Kj (w:=A.at h n) M;have F:SeqGives Fence.wide 2 P nA #[Az c] Proofs.encStr (λe=>e.Perm (strKeys k)) (Maps.size k) (A.at h n):=
  Proofs.AnyZ.keys_gives (ρ:=Proofs.Tryz.cE) {Proofs.Tryz.iB with} Fence.wide _ trivial rfl (by omega) c i _ k _ (show c<h.size from Af p) (by show ag h ⟨c,0,none⟩=_;rw[Ha p];rfl) D
 have G:=Proofs.AnyZ.sorted_in Proofs.Tryz.hU Fence.wide 5 trivial trivial trivial trivial rfl (by omega) (ASh _) (Proofs.enters_of Proofs.Tryz.func199 (by kernel_rfl) rfl) nA #[Az c] trivial (Proofs.enters_of Proofs.Tryz.func200 (by kernel_rfl) rfl) _ _ (by rw[r];simp[maxLen];omega) (by rw[r];omega) _ F;have H:=callsIn_wide.1 G;refine Calls.mono H ?_;rintro V a ⟨v,e,rfl,I,t,W,f⟩;have u:a=A.at a.heap a.drawn:=uf (A:=A) (h:=h) (n:=n) rfl f.os f.tape f.output;have y:e.Perm (l.map λx=>x.data.toList):=by
  refine(I.trans E).trans ?_;have:=C.map λx:A2P=>x.data.toList
  simpa [B9,G4] using this
 have J:e.length=l.length:=by have:=y.length_eq;simpa using this
 rw[AJS B y,AMV] at t;have z:Ext h a.heap:=⟨f.size,λb d _=>f.block b d⟩;rcases t.2 with⟨rfl,X⟩|⟨g,K,L,rfl,N,O,Q,R,S,U⟩
 ·have:l= []:=CD (by omega);subst this;exact⟨_,rfl,a.heap,a.drawn,u,q ⟨none,0,0⟩ _ Own.nil z (λb d=>by simp[Sl.af] at d)⟩
 ·refine⟨_,rfl,a.heap,a.drawn,u,q ⟨some ⟨g,0,none⟩,e.length,K⟩ _ ⟨J,.inr ⟨g,L,rfl,O,Q,R,S,U⟩⟩ z (λb d=>?_)⟩;simp[Sl.af] at d;subst d;exact N
def jy(m:Bx):List A2P×Int:=if m.down then([],30) else(m.files.map (·.name),0)
theorem EQ.names {d:aa}{b e:Nat}{a:List (Fi×Nat)}{m:Bx}(c:EQ d b e a m):((eV a).map (·.1)).Perm (m.files.map (·.name))/\(eV a).length<=8796093022208:=by
 refine⟨?_,?_⟩
 ·have:=c.perm.map (·.name);simpa [eV,B9,G4] using this
 ·have f:=c.perm.length_eq;have g:=Uw m.files;have h:=c.aO.wt;simp at f ⊢;omega
theorem EQ.fh {h:ak}{a:aa}{b i:Nat}{n:List (Fi×Nat)}{m:Bx}(d:EQ a b i n m){j:Sl->aa->Prop}
  (o: ∀s f,Own IQ Ar f s (m.files.map (·.name))->Ext a f->(∀ c,s.af=some c->a.size<=c)->j s f):
  AA h P Bo #[.map (some i)] a λv1 g=> ∃k:J0,v1=k/\(
   AA h P F4 #[k] g λv2 p=> ∃e:Sl,v2=J4 e.p e.len e.cap/\j e p):=by
 refine AQB λT w q l x=>⟨_,rfl,?_⟩
 refine AMA q (d.map.mod l (λa=>a)) (Tp.1 d.aO.sorted) d.names.1 d.names.2 λs g r t u=>⟨s,rfl,?_⟩
 exact o s g r (l.trans t) (λc v=>by have:=u c v;omega)
theorem uO {i:ak}{a:aa}{b:Nat}{j:Nat->Prop}{m:Bx}{h:A2O}(d:Cf a b j m)
  (e: ∀s g,Own IQ Ar g s (jy m).1->Ext a g->(∀ c,s.af=some c->a.size<=c)->h (J1 #[J4 s.p s.len s.cap,J6 J9 (jy m).2]) g):AA i P Kv #[Az b] a h:=by
 obtain⟨n,o,d,p⟩:=d;refine ABD ?_;unfold Ua;refine kS d.head ⟨_,rfl,?_⟩;unfold jy at e;refine ae.intro (λhd=>?_) (λhd=>?_)
 ·rw[if_pos hd] at e;exact e ⟨none,0,0⟩ a Own.nil Mod.refl (λc k=>by simp[Sl.af] at k)
 rw[if_neg (by simp[hd])] at e;exact aF (FP.mk (AL d.head rfl) (d.fh λs g l x f=>e s g l x f))
theorem EQ.add {i f:aa}{b h c:Nat}{j:List (Fi×Nat)}{m:Bx}{x:Fi}{l:List Fi}(e:EQ i b h j m)(M:MO f h (eV (j++ [(x,c)])))(o:f[c]? =some (J2 #[J7 x.bU,J7 x.soft] Rv (0,0)))
  (r:i.size<=c) (k:Mod (· =h) i f) (d:(x::m.files).Perm l) (g:FB {m with files:=l}):EQ f b h (j++ [(x,c)]) {m with files:=l}:=by
 refine⟨k.af e.head e.fy.symm,M,?_,?_,?_,g⟩
 ·intro p d;rcases List.mem_append.1 d with d|d
  ·exact k.af (e.cells p d) (e.eg d).2
  ·simp at d;subst d;exact o
 ·rw[Cd];exact(UP _ _).trans ((e.perm.cons _).trans d)
 ·rw[Cd];refine List.nodup_append.2 ⟨e.nodup,by simp,?_⟩;intro a q s n;obtain⟨p,d,rfl⟩:=List.mem_map.1 q;simp at n;subst n;have:=Af (e.cells p d);omega
theorem xT:P7 P Bw Ar IQ.w 16=true:=by kernel_rfl
theorem qW:P7 P Cu BN IC.w 8=true:=by kernel_rfl
theorem JR(s:A2P):AX (bl s)=s:=DL s
theorem AHB {l:List UInt8}{b:List (List UInt8)}(a:Mx l b):b.length<=l.length:=by
 induction a with
 |stop a=>exact AG _
 |step a s c=>have:=Zw a;simp only[A6];omega
theorem APG {p:ak}{a:aa}{s:A2P}{k:A2O}(A:s.size<=8000000000000)
  (q: ∀e sl r,Ext a e->View IQ e sl ((ka (bl s)).map AX)->k (J1 #[J4 sl.p sl.len sl.cap,J6 J9 r]) e):AA p P Ky #[J7 s] a k:=by
 refine Vv ?_;unfold RY;refine Loop.rule (λm x g=> ∃(sl:Sl) (dn b:List (List UInt8)) (l:List UInt8),x=(sl,AX l,())/\Ext a g/\Own IQ Ar g sl (dn.map AX)/\(∀ c,sl.af=some c->a.size<=c)/\Mx l b/\ka (bl s)=dn++b/\dn.length+l.length<=s.size/\m=l.length) ?_
  ⟨⟨none,0,0⟩,[],_,bl s,by rw[JR],Mod.refl,Own.nil,λc h=>by simp[Sl.af] at h,qv _,rfl,by rw[Av];simp,rfl⟩
 rintro K m _ g ⟨sl,dn,b,l,rfl,x,n,f,i,j,B,rfl⟩ t;refine xD (by omega) λu d=>⟨_,_,_,rfl,?_⟩
 cases i with
 |stop o=>
  refine ae.no (by simp;omega) ?_;rw[AN] at j;exact q u sl _ (x.trans d) (by rw[j];exact(n.ext d).view)
 |step o i=>
  rename_i b;refine ae.yes (by simp;omega) ?_;have C:=Zw o;refine al.aZ (E:=IQ) (x:=AX (Gq l).2.1) (s:=sl) (l:=dn.map AX) rfl xT (n.ext d) (by simp;omega) (by simp[maxLen];omega) λv D w y z F=>?_
  refine t (Gq l).2.2.length _ _ (by omega) ⟨v,dn++ [(Gq l).2.1],b,(Gq l).2.2,rfl,(x.trans d).more y f,?_,λc h=>?_,i,by rw[j];simp,by simp;omega,rfl⟩
  ·rw[Cd];exact w
  ·rcases z c h with a|a
   ·exact f c a
   ·have:=x.size;have:=d.size;omega
theorem AQ3 {m:ak}{c:aa}{s:Sl}{l:List Int}{t:A2O}(u:Own IC BN c s l)(O:l.length<=8796093022208)
  (w: ∀n,View IC n s (l.mergeSort λx d=>decide (x<=d))->Mod (λb=>s.af=some b) c n->t (J1 #[]) n):AA m P Ir #[J4 s.p s.len s.cap] c t:=by
 intro j;have y:=u.len;rcases u.row with⟨rfl,rfl⟩|⟨g,o,p,h,B,Q,C,z⟩
 ·refine Calls.mono (Proofs.AnyM.slices_Sort_int_none Proofs.Tryz.iD none 0 (m.at c j)) ?_;rintro k D ⟨rfl,rfl⟩;exact⟨_,rfl,c,j,rfl,w c (by simpa using View.nil) Mod.refl⟩
 ·rw[p,y];have q:IC.w=1:=rfl;rw[q,By] at C z;have F: ∀a x,l[a]? =some x->o[a]? =some (Value.int J9 x):=λa x e=>by
   have f:=dv (E:=IC) e 0 (J6 J9 x) rfl;rw[<- z,q,By,Gk,E0] at f;split at f
   ·simpa using f
   ·cases f
  refine Calls.mono (Proofs.AnyM.slices_Sort_int Proofs.Tryz.iD g 0 s.cap l (m.at c j) ?_ (Af h) (by omega)) ?_
  ·intro a e;have e:a<l.length:=by simpa using e
   have f:=F a l[a] (A2 e);have G:l.toArray[a]! =l[a]:=by simp[e]
   refine⟨?_,?_⟩
   ·show ag c ⟨g,0+a,none⟩=_;unfold ag;rw[h];simp only[Option.isSome_none,Cl,if_false,AK,G,f]
   ·show fQ c ⟨g,0+a,none⟩=false;unfold fQ;rw[h];simp
  ·rintro k D ⟨rfl,H,os,rfl⟩;have I:(c.modify g (Sort.onCells (Sort.putCells (Value.int J9) 0 (l.mergeSort λx d=>decide (x<=d)).toArray))++os)[g]? =some (J2 (Sort.putCells (Value.int J9) 0 (l.mergeSort λx d=>decide (x<=d)).toArray o) BN (0,0)):=by rw[Mb (by simpa using Af h),GO,if_pos rfl,h];rfl
   refine⟨_,rfl,c.modify g (Sort.onCells (Sort.putCells (Value.int J9) 0 (l.mergeSort λx d=>decide (x<=d)).toArray))++os,j+H,rfl,w _ ⟨?_,B,λa x e=>⟨⟨g,0,none⟩,p,λi v r=>?_⟩⟩ ⟨by simp,λb J K=>?_⟩⟩
   ·rw[A0S];exact y
   ·have L:i=0:=by have:=(List.getElem?_eq_some_iff.1 r).1;have k:(IC.enc x).length=1:=rfl;omega
    subst L;simp only[IC,Hn,BY] at r;subst r;have A:a<(l.mergeSort λx d=>decide (x<=d)).length:=(List.getElem?_eq_some_iff.1 e).1;have M:a<o.size:=by rw[A0S] at A;omega
    rw[q,By,BZ,BZ,AK,Gk];unfold ag;rw[I];simp only[Option.isSome_none,Cl,if_false,Sort.putCells,Array.getElem?_mapIdx];rw[CH M,IT,if_pos ⟨AG _,by simpa using A⟩];have:(l.mergeSort λx d=>decide (x<=d)).toArray[a-0]! =x:=by rw[Hv];simp[e]
    rw[this]
   ·have N:g≠b:=λk=>K (by rw[Sl.af,p,k];rfl)
    rw[Mb (by simpa using J),GO,if_neg N]
structure lS (nm:A2P) (m:Bx) (l:List Nat):Prop where
 inc:l.Pairwise (· < ·)
 mem: ∀n,n∈l↔1<=n/\n<=99999999/\(CZ (aC nm n) m.files).isSome=true
theorem xU {k:A2P}{l:List Fi}:(CZ k l).isSome=true↔k∈l.map (·.name):=by
 constructor
 ·intro a;cases b:CZ k l with
  |none=>rw[b] at a;cases a
  |some f=>
   obtain⟨c,d⟩:=KF b;exact List.mem_map.2 ⟨f,d,c⟩
 ·intro a;obtain⟨f,c,d⟩:=List.mem_map.1 a;cases b:CZ k l with
  |none=>exact absurd d (Rt b f c)
  |some f=>rfl
theorem xV {m:Bx}(g:FB m):(m.files.map (·.name)).Nodup:=List.pairwise_map.2 (g.sorted.imp λa=>OU a)
theorem AJQ {ns:List Nat}(n:ns.Nodup): ∃l:List Nat,((ns.map λd:Nat=>(d:Int)).mergeSort λx e=>decide (x<=e))=l.map (λd:Nat=>(d:Int))/\l.Pairwise (· < ·)/\ ∀d,d∈l↔d∈ns:=by
 have f:=List.mergeSort_perm (ns.map λd:Nat=>(d:Int)) (λx e=>decide (x<=e));have k:((ns.map λd:Nat=>(d:Int)).mergeSort λx e=>decide (x<=e)).Pairwise (λx e=>decide (x<=e)=true):=
  List.pairwise_mergeSort (λa b c o h=>by simp at o h ⊢;omega) (λa b=>by simp;omega) _
 generalize (ns.map λd:Nat=>(d:Int)).mergeSort (λx e=>decide (x<=e))=L at f k;have i: ∀x∈L,((x.toNat:Nat):Int)=x:=λx g=>by
  obtain⟨d,_,rfl⟩:=List.mem_map.1 (f.subset g);simp
 have p:L=(L.map Int.toNat).map (λd:Nat=>(d:Int)):=by
  rw[B9]
  conv=>lhs;rw[<- KK L]
  exact CT λx g=>(i x g).symm
 have q:L.Nodup:=f.symm.nodup (by
  rw[T6,Nd];exact(List.nodup_iff_pairwise_ne.1 n).imp λr s=>r (by exact_mod_cast s))
 refine⟨L.map Int.toNat,p,?_,λd=>?_⟩
 ·rw[Nd];have h:L.Pairwise λx e=>decide (x<=e)=true/\x≠e:=k.and (List.nodup_iff_pairwise_ne.1 q)
  refine h.imp_of_mem λ{a c} t u m=>?_
  have w:=i a t;have y:=i c u;have z:a<=c:=of_decide_eq_true m.1;have A:=m.2;omega
 ·constructor
  ·intro j;obtain⟨x,g,rfl⟩:=List.mem_map.1 j;obtain⟨B,v,rfl⟩:=List.mem_map.1 (f.subset g);simpa using v
  ·intro j;exact List.mem_map.2 ⟨(d:Int),f.symm.subset (List.mem_map.2 ⟨d,j,rfl⟩),by simp⟩
theorem xW {S:ak}{h:aa}{b:Nat}{T:Nat->Prop}{m:Bx}{j:A2P}{N:A2O}(E:cp h)(D:Cf h b T m)(hd:m.down=false)(U:j.size<=1099511627776)(aL:bd m.files<=8000000000000)
  (V: ∀k s (l:List Nat),lS j m l->View IC k s (l.map λe:Nat=>(e:Int))->Ext h k->(∀ c,s.af=some c->h.size<=c)->N (J1 #[J4 s.p s.len s.cap,J6 J9 0]) k):AA S P Kk #[Az b,J7 j] h N:=by
 refine ABB ?_;unfold UK;refine uO D λs n F y aM=>⟨s,_,rfl,?_⟩
 have W:jy m=(m.files.map (·.name),0):=by unfold jy;rw[if_neg (by simp[hd])]
 rw[W] at F ⊢;refine ae.no rfl ?_;have X:=xV D.aO;have Y: ∀d∈m.files.map (·.name),d.size<=32:=λd g=>by
  obtain⟨f,Z,rfl⟩:=List.mem_map.1 g;exact D.aO.names f Z
 have aN:(m.files.map (·.name)).length<=8000000000000:=by have:=Uw m.files;simp;omega
 have ab: ∀d,(CZ d m.files).isSome=true↔d∈m.files.map (·.name):=λd=>xU
 dsimp only at F;generalize m.files.map (·.name)=names at*
 have v1:=F.view;refine Loop.rule (λO x G=> ∃(i:Nat) (sl:Sl) (ns:List Nat),x=(sl,(i:Int),())/\Ext n G/\Own IC BN G sl (ns.map λe:Nat=>(e:Int))/\(∀ c,sl.af=some c->n.size<=c)/\i<=names.length/\ns.length<=i/\(ns.map (aC j)).Sublist (names.take i)/\(∀ e∈ns,1<=e/\e<=99999999)/\(∀ d:Nat,1<=d->d<=99999999->aC j d∈names.take i->d∈ns)/\O=names.length-i) ?_
  ⟨0,⟨none,0,0⟩,[],rfl,Mod.refl,Own.nil,λc o=>by simp[Sl.af] at o,AG _,A0 _,by simp,by simp,by simp,rfl⟩
 rintro K O _ G ⟨i,sl,ns,rfl,r,H,f,aO,aP,u,I,z,rfl⟩ ac;rw[v1.len];refine ae.intro (λJ=>?_) (λJ=>?_)
 ·have v:i<names.length:=by simpa using J
  refine ah.mk λad af=>?_
  have ag:names[i]? =some names[i]:=A2 v;rw[<- v1.len];refine(v1.ext r).idx ag λa _ c=>?_
  refine AJ.mk c.str ?_;refine AMU ((E.ext y).ext r) U (by have:=Y names[i] (AT v);omega) λai e w aj am=>⟨_,rfl,?_⟩
  have A:names.take (i+1)=names.take i++ [names[i]]:=by rw[AD,ag];rfl
  have Q: ∀(p:Sl) (q:List Nat) (k:aa),Ext n k->Own IC BN k p (q.map λe:Nat=>(e:Int))->(∀ c,p.af=some c->n.size<=c)->q.length<=i+1->(q.map (aC j)).Sublist (names.take (i+1))->(∀ e∈q,1<=e/\e<=99999999)->(∀ d:Nat,1<=d->d<=99999999->aC j d∈names.take (i+1)->d∈q)->ad (p,()) k:=λp q k an ao ap aq ar au av=>by
   refine af _ _ ?_;dsimp only;rw[AZ (by omega)];exact ac (names.length-(i+1)) _ _ (by omega) ⟨i+1,p,q,rfl,an,ao,ap,v,aq,ar,au,av,rfl⟩
  by_cases t:e=0
  ·refine ae.no (by simp[t]) (Q sl ns ai (r.trans w) (H.ext w) f (by omega) ?_ I ?_)
   ·rw[A];exact u.trans (List.sublist_append_left _ _)
   ·intro d B C g;rw[A] at g;rcases List.mem_append.1 g with g|g
    ·exact z d B C g
    ·exact absurd (List.mem_singleton.1 g).symm (aj t d B C)
  ·refine ae.yes (by simp;omega) ?_;obtain⟨aQ,ne⟩:=am t;refine al.aZ (E:=IC) (x:=(e:Int)) (s:=sl) (l:=ns.map λe:Nat=>(e:Int)) rfl qW (H.ext w) (by simp;omega) (by simp[maxLen];omega) λp aw ax ay az _=>?_
   refine Q p (ns++ [e]) aw ((r.trans w).more ay f) (by rw[Cd];exact ax) (λc o=>?_) (by simp;omega) ?_ ?_ ?_
   ·rcases az c o with h|h
    ·exact f c h
    ·have:=r.size;have:=w.size;omega
   ·rw[A,Cd];have aA: [e].map (aC j)= [names[i]]:=by rw[ne];rfl
    rw[aA];exact u.append (List.Sublist.refl _)
   ·intro d g;rcases List.mem_append.1 g with g|g
    ·exact I d g
    ·rw[List.mem_singleton.1 g];omega
   ·intro d B C g;rw[A] at g;rcases List.mem_append.1 g with g|g
    ·exact List.mem_append.2 (.inl (z d B C g))
    ·have:=IZ ((List.mem_singleton.1 g).trans ne);exact List.mem_append.2 (.inr (by simp[this]))
 ·have v:i=names.length:=by simp at J;omega
  subst v;rw[C5] at u z;have aD:ns.Nodup:=by have n:=u.nodup X;rw[T6,Nd] at n;rw[T6];exact n.imp λh aE=>h (by rw[aE])
  obtain⟨l,aF,aG,aH⟩:=AJQ aD;refine AQ3 H (by simp;omega) λaI R aJ=>⟨rfl,?_⟩
  rw[aF] at R;refine V aI sl l ⟨aG,λe=>?_⟩ R ((y.trans r).more aJ λc o=>by have:=f c o;have:=y.size;omega) λc o=>by have:=f c o;have:=y.size;omega
  rw[aH,ab];constructor
  ·intro t;obtain⟨L,M⟩:=I e t;exact⟨L,M,u.subset (List.mem_map.2 ⟨e,t,rfl⟩)⟩
  ·rintro⟨L,M,aK⟩;exact z e L M aK
structure bX (h:aa) (t:Nat) (l:List Pr) (f:List UInt8) (lo hi:Nat):Prop where
 at_: ∃fs bs:Sl,h[t]? =some (J2 #[J4 fs.p fs.len fs.cap,J4 bs.p bs.len bs.cap,J7 (AX f),J6 J9 (l.length:Int)] MK (0,0))/\View IQ h fs (CF l)/\View IQ h bs ((KZ l).map λb=>AX (BJ b))/\
  (∀ c,fs.af=some c->lo<=c/\c<hi)/\(∀ c,bs.af=some c->lo<=c/\c<hi)
 fj:lo<=t/\t<hi
theorem bX.mod {i j:aa}{t:Nat}{l:List Pr}{f:List UInt8}{b d:Nat}{k:Nat->Prop}(T:bX i t l f b d)(m:Mod k i j)(e: ∀c,b<=c->c<d-> ¬k c):bX j t l f b d:=by obtain⟨n,o,p,q,r,g,h⟩:=T.at_;exact⟨⟨n,o,m.af p (e t T.fj.1 T.fj.2),q.mod m (λc a=>e c (g c a).1 (g c a).2),r.mod m (λc a=>e c (h c a).1 (h c a).2),g,h⟩,T.fj⟩
theorem bX.ext {a b:aa}{t:Nat}{l:List Pr}{f:List UInt8}{c d:Nat}(T:bX a t l f c d)(m:Ext a b):bX b t l f c d:=T.mod m λ_ _ _ a=>a
theorem XC(a:List UInt8)(b:List (List UInt8)):aK (a::b)=Cb a++aK b:=rfl
theorem ANV {w:ak}{b:aa}{a:List (List UInt8)}{q:A2O}(l: ∀f∈a,f.length<=1048576)(y:(aK a).length<=1099511627776)
  (r: ∀h sl,Ext b h->View IQ h sl (a.map AX)->(∀ c,sl.af=some c->b.size<=c/\c<h.size)->q (J1 #[J4 sl.p sl.len sl.cap,J6 J9 ((aK a).length:Int)]) h):AA w P Ky #[J7 (AX (aK a))] b q:=by
 refine Vv ?_;unfold RY;refine Loop.rule (λm x n=> ∃(i:Nat) (sl:Sl),x=(sl,AX (aK (a.drop i)),())/\m=a.length-i/\i<=a.length/\Ext b n/\Own IQ Ar n sl ((a.take i).map AX)/\(∀ c,sl.af=some c->b.size<=c)) ?_
  ⟨0,⟨none,0,0⟩,rfl,rfl,by omega,Mod.refl,Own.nil,λc d=>by simp[Sl.af] at d⟩
 rintro K m _ n ⟨i,sl,rfl,rfl,z,o,g,p⟩ t;dsimp only;have O:a.length<=(aK a).length:=by
  clear y r z g t
  induction a with
  |nil=>simp
  |cons f a A=>
   have Q:=(IK (l f AM)).1;have:=A λx j=>l x (An _ j)
   simp only[aK,AI,A1,A6] at this ⊢;omega
 have B:(aK (a.drop i)).length<=1099511627776:=by
  have C:aK a=aK (a.take i)++aK (a.drop i):=by unfold aK;rw[<- FF,DG]
  have:=congrArg List.length C;rw[A1] at this;omega
 refine xD (A5 B (by decide)) λD e=>⟨_,_,_,rfl,?_⟩
 by_cases k:i<a.length
 ·have j:a[i]? =some a[i]:=A2 k;have u:=l _ (AT k);have hd:a.drop i=a[i]::a.drop (i+1):=Fk k;have v:=Tn j;generalize a[i]=f at j u hd v;rw[hd,XC,wZ u];refine ae.yes rfl ?_;refine al.aZ (E:=IQ) (x:=AX f) (s:=sl) rfl rh (g.ext e) (by simp only[BE,AH];omega) (by simp only[BE,AH,maxLen];omega) λF R G H I S=>?_
  refine t (a.length-(i+1)) _ _ (by omega) ⟨i+1,F,rfl,rfl,k,(o.trans e).more H p,?_,λc d=>?_⟩
  ·rw[v,Cd];exact G
  ·rcases I c d with b|b
   ·exact p c b
   ·have:=o.size;have:=e.size;omega
 ·have J:a.drop i= []:=HA (by omega);have L:a.take i=a:=AE (by omega);rw[J];rw[L] at g;have M:=Tt;refine ae.no (by simp only[aK,List.flatMap_nil];simpa using M) ?_;have N:J8 J9 (((AX (aK a)).size:Int)-((AX (aK [])).size:Int))=((aK a).length:Int):=by rw[AP,AP];show J8 J9 (((aK a).length:Int)-((0:Nat):Int))=_;rw[wrap_i64 (by omega) (by omega)];omega
  rw[N];exact r D sl (o.trans e) (g.ext e).view λc d=>⟨p c d,(g.ext e).lt d⟩
def YV(l:List Pr)(a:Nat):A2P:=match a with|0=>⟨#[]⟩|a+1=>Il l a
theorem ARB {l:List Pr}(h: ∀p∈l,LM p)(i:l.Pairwise λp j=>aQ p.key j.key=true){a:Nat}{p:Pr}(b:l[a]? =some p):(aQ p.key (YV l a)||bM p.key (YV l a))=false:=by
 have d:aQ (YV l a) p.key=true:=by
  cases a with
  |zero=>
   have:=(h p (AF b)).key;unfold YV;rw[Yk];have k:bl p.key≠ []:=by intro e;have:=Av p.key;rw[e] at this;simp at this;omega
   cases f:bl p.key with
   |nil=>exact absurd f k
   |cons c t=>
    simp only[decide_eq_true_eq];show([]:List UInt8)<bl p.key;rw[f];exact List.nil_lt_cons c t
  |succ a=>
   have m:a<l.length:=by have:=(List.getElem?_eq_some_iff.1 b).1;omega
   have g:l[a]? =some l[a]:=A2 m;have:=yo i g b;show aQ (Il l a) p.key=true;unfold Il;rw[g];exact this
 rw[Hj];refine⟨?_,?_⟩
 ·cases n:aQ p.key (YV l a) with
  |false=>rfl
  |true=>have:=DJ d n;rw[Bl] at this;cases this
 ·rw[CP,decide_eq_false_iff_not];intro e;rw[e,Bl] at d;cases d
theorem APo {a N:Nat}(b:a=N+1)(c:N<=1099511627776):J8 J9 (((a:Nat):Int)-(1:Int))=((N:Nat):Int):=by subst b;rw[wrap_i64 (by omega) (by omega)];omega
theorem gD.je {s:List UInt8}{l:List Pr}{f:List UInt8}(T:gD s l f):(aK (aT l f)).length<=1099511627776:=by
 have:=Ul (NW T);have b:=T.many;have a:(aT l f).length=Bh l+1:=by simp[aT,Gt]
 have c:Bh l<=12501:=by unfold Bh;omega
 rw[a] at this;have d:(Bh l+1)*1048590<=12502*1048590:=AS _ (by omega);omega
theorem yq {bm:ak}{e:aa}{l:List Pr}{f:List UInt8}{aM:A2O}(T:gD (aK (aT l f)) l f)
  (bn: ∀S t,Ext e S->bX S t l f e.size S.size->aM (J1 #[Az t,J6 J9 0]) S):AA bm P Nl #[J7 (AX (aK (aT l f)))] e aM:=by
 refine AEa ?_;unfold YU;have ck:=vE T.ne;have cl:=T.many;have cm:Bh l<=12501:=by unfold Bh;omega
 have aO:=T.jc;refine ANV (NW T) (gD.je T) λh sl D v1 aP=>⟨sl,_,rfl,?_⟩
 have aQ:sl.len=Bh l+1:=by rw[v1.len];simp[aT,Gt]
 have cn:=v1.cap;rw[APo aQ (by omega)];refine ah.mk λK aR=>?_
 refine ae.no (by rw[AP];simp) ?_;refine aR _ _ (ae.no (by rw[aQ];simp;omega) ?_);clear aR;simp only[As,Hv];refine⟨⟨by omega,by omega⟩,?_⟩;have bo:((aT l f).map AX)[Bh l]? =some (AX (VU l f)):=by rw[Bk];unfold aT;rw[DE (by simp[Gt])];simp[Gt]
 refine v1.idx bo λa ai d=>?_
 refine AJ.mk d.str ?_;have aS:=Xq T;refine Kq λaU aV U=>⟨_,rfl,?_⟩
 have V: ∀ {e:aa} {s:Sl} {ks:List A2P},Own IQ Ar e s ks-> ∀ {c:Nat} {aW:Rd},Io e c aW->s.af≠some c:=λbp c aW bq=>bp.ne bq (by decide)
 refine al.mk λW _ br F co=>?_
 have aX:Io W h.size _:=Aj F aV;have cp:=AV (n:=Bh l) (by omega);have bs:VU l f=BH (Bh l)++(Gp (CF l)++(BH l.length++BG f)):=by unfold VU Gp;simp only[A4]
 rw[bs] at aX aS;have cq:=AV (n:=l.length) (by omega);have cr:(BG f).length=(BH f.length).length+f.length:=by simp[BG]
 have cs:=AV (n:=f.length) (by omega);have bt:=Qd (ks:=CF l) (Ox T.ok);rw[HY] at bt;refine DX (most:=Bh l) aX (A5 aS (by decide)) (by omega) λbu aj am=>⟨_,rfl,?_⟩
 rw[Ci (by omega) (A0 _)] at aj ⊢;dsimp only at aj ⊢;refine ae.no (by simp) ?_;have ct:h.size<aU.size:=Af aV;have bv:=am.af br (by omega);have X:Ext e W:=(D.trans U).trans F;have cu:Ext e bu:=X.more am (λb bw=>by rw[bw];exact D.size);have aY: ∀ {g:aa},(∀ c,sl.af=some c->g[c]? =h[c]?)->View IQ g ⟨Ay sl.p sl.cap 0 1,Bh l,sl.cap⟩ ((KZ l).map λb=>AX (BJ b)):=by
  intro g d;have v:View IQ g sl ((aT l f).map AX):=⟨v1.len,v1.cap,λi x hi=>by
   obtain⟨a,ai,bx⟩:=v1.cells i x hi;refine⟨a,ai,λj v aZ=>?_⟩;rw[<- bx j v aZ];exact OZ (by rw[aN,aN];exact d _ (by simp[Sl.af,ai]))⟩
  have:=v.sub (lo:=0) (hi:=Bh l) (AG _) (by simp[aT,Gt]);have G:(((aT l f).map AX).take (Bh l)).drop 0=(KZ l).map λb=>AX (BJ b):=by rw[Nx,List.map_take.symm];unfold aT;rw[NO (by simp[Gt]),AE (by simp[Gt]),B9];rfl
  rw[G] at this;exact this
 generalize cv:aU.size=r at*
 refine Loop.rule (λm x g=> ∃(i:Nat) (o:Sl),x=((i:Int),())/\m=Bh l-i/\i<=Bh l/\Io g h.size ⟨Gp ((CF l).drop i)++(BH l.length++BG f),false⟩/\
  g[r]? =some (J2 #[J4 o.p o.len o.cap,J4 (Ay sl.p sl.cap 0 1) (Bh l) sl.cap,J7 ⟨#[]⟩,J6 J9 0] MK (0,0))/\Own IQ Ar g o ((CF l).take i)/\(∀ c,o.af=some c->r<c)/\
  Mod (λc=>c=h.size\/r<=c) W g) ?_ ⟨0,⟨none,0,0⟩,rfl,rfl,by omega,aj,bv,Own.nil,λc d=>by simp[Sl.af] at d,am.ai λc _ d=> .inl d⟩
 rintro cw m _ a0 ⟨i,o,rfl,rfl,hi,y,an,H,B,a1⟩ a2;dsimp only;refine ae.intro (λq=>?_) (λq=>?_)
 ·have I:i<Bh l:=by simp at q;omega
  refine AY.mk (s:=o) (AL an rfl) ?_;have u:=RI I;have hd:(CF l).drop i=Il l (8*i)::(CF l).drop (i+1):=by
   have a3:i<(CF l).length:=by rw[HY];exact I
   rw[Fk a3];congr 1;rw[A2 a3] at u;exact Bs u
  have a4:=Tn u;have a5:=Ox T.ok _ (AF u);generalize Il l (8*i)=k at u hd a4 a5;have bz:Gp ((CF l).drop i)++(BH l.length++BG f)=BG (bl k)++(Gp ((CF l).drop (i+1))++(BH l.length++BG f)):=by rw[hd];simp[Gp]
  have bA:=Qd (ks:=(CF l).drop i) λk bB=>Ox T.ok k (HQ bB)
  rw[DH,HY] at bA;have a6:(Gp ((CF l).drop i)++(BH l.length++BG f)).length<1099511627776:=by simp only[A1];omega
  rw[bz] at y a6;refine IL y a6 λJ Y ao=>⟨_,rfl,?_⟩
  rw[JQ (by rw[Av];omega)] at Y ⊢;dsimp only at Y ⊢;rw[DL];have Z:=ao.af an (by omega);have ap:=H.mod ao (λc d e=>V H y (e▸d));refine⟨AL Z rfl,?_⟩;refine al.mk λbC _ bD L cx=>⟨AL (Aj L Z) rfl,?_⟩
  have bE:Own IQ Ar bC ⟨some ⟨J.size,0,none⟩,1,1⟩ [k]:=Own.lit (E:=IQ) (l:= [k]) bD rfl (by simp[maxLen]);refine Gd (s:=o) (src:=⟨some ⟨J.size,0,none⟩,1,1⟩) rh (ap.ext L) bE.view (by simp only[AH,Dd];omega) (by simp only[AH,Dd,maxLen];omega) λa7 cy bF aq bH cz=>?_
  have cB:r<J.size:=Af Z;have cC: ∀c,o.af=some c->c<J.size:=λc d=>ap.lt d
  have bI:=aq.af (Aj L Z) (λe=>by have:=B _ e;omega);refine ab.mk bI (by simp) λcD bJ ar cE=>?_
  have a8: ∀c,a7.af=some c->r<c:=λc d=>by
   rcases bH c d with e|e
   ·exact B c e
   ·omega
  rw[AZ (by omega)];refine a2 (Bh l-(i+1)) _ _ (by omega) ⟨i+1,a7,rfl,rfl,I,?_,by simpa using bJ,?_,a8,?_⟩
  ·refine ar.af (aq.af (Aj L Y) λe=>?_) (by omega);exact V ap Y e
  ·rw[a4];exact bF.mod ar (λc d e=>by have:=a8 c d;omega)
  ·have ac:Mod (λc=>c=h.size\/r<=c) a0 J:=ao.ai λc _ d=> .inl d
   exact(((a1.trans ac).trans L.mod).trans (aq.ai λc _ d=> .inr (by have:=B c d;omega))).trans (ar.ai λc _ d=> .inr (by omega))
 ·have I:i=Bh l:=by simp at q;omega
  subst I;clear a2;have bK:(CF l).drop (Bh l)= []:=HA (by rw[HY];omega);have bL:(CF l).take (Bh l)=CF l:=AE (by rw[HY];omega);rw[bK] at y;rw[bL] at H;have bN:J8 J9 (((Bh l:Nat):Int)*(8:Int))=((Bh l*8:Nat):Int):=by rw[wrap_i64 (by omega) (by omega)];omega
  rw[bN];have y:Io a0 h.size ⟨BH l.length++BG f,false⟩:=y;have bO:l.length<=Bh l*8:=by unfold Bh;omega
  refine DX (most:=Bh l*8) y (by simp only[A1];omega) (by omega) λcF au av=>⟨_,rfl,?_⟩
  rw[Ci (by omega) bO] at au ⊢;dsimp only at au ⊢;have bP:=av.af an (by omega);rw[BZ,BZ];refine ab.mk bP (by simp) λbQ bR aw cG=>?_
  have a9:Io bQ h.size ⟨BG f++ [],false⟩:=by rw[AN];exact aw.af au (by omega)
  refine IL a9 (by show(BG f++ []).length<_;rw[AN];omega) λcH ax ay=>⟨_,rfl,?_⟩
  rw[JQ (by omega)] at ax ⊢;dsimp only at ax ⊢;have bS:=ay.af bR (by omega);refine ab.mk bS (by simp) λC M az cI=>?_
  have bT:=az.af ax (show h.size≠r by omega);have M:C[r]? =some (J2 #[J4 o.p o.len o.cap,J4 (Ay sl.p sl.cap 0 1) (Bh l) sl.cap,J7 (AX f),J6 J9 (l.length:Int)] MK (0,0)):=by simpa using M
  have aA:Own IQ Ar C o (CF l):=by have ac:=H.mod av (λc d e=>V H y (e▸d));have aC:=ac.mod aw (λc d e=>by have:=B c d;omega);have N:=aC.mod ay (λc d e=>V aC a9 (e▸d));exact N.mod az (λc d e=>by have:=B c d;omega)
  have O:Mod (λc=>c=h.size\/r<=c) W C:=
   (((a1.trans (av.ai λc _ d=> .inl d)).trans (aw.ai λc _ d=> .inr (by omega))).trans (ay.ai λc _ d=> .inl d)).trans (az.ai λc _ d=> .inr (by omega))
  have cJ:h.size<=r:=by omega
  have bU:Ext e C:=by refine⟨by have:=X.size;have:=O.size;omega,λc d _=>?_⟩;have:=D.size;have:=X.size;exact(O.get c (by omega) (by omega)).trans (X.get c d (λe=>e))
  have ba: ∀ {g:aa},Ext C g-> ∀c,sl.af=some c->g[c]? =h[c]? :=by intro g x c d;have:=aP c d;have cK:=O.size;have:=F.size;have:=U.size;exact((x.get c (by omega) (λe=>e)).trans (O.get c (by omega) (by omega))).trans ((F.get c (by omega) (λe=>e)).trans (U.get c (by omega) (λe=>e)))
  have bV: ∀c,Sl.af ⟨Ay sl.p sl.cap 0 1,Bh l,sl.cap⟩=some c->e.size<=c/\c<h.size:=λc d=>aP c (Uz d)
  refine ah.mk λcL bb=>?_
  refine NZ bT ⟨_,rfl,ae.no rfl ?_⟩;have bW:f≠ []:=λG=>by rw[G] at aO;simp at aO
  refine AJ.mk (AL M rfl) (ae.no ?_ ?_)
  ·rw[XL,EN,decide_eq_false_iff_not];exact bW
  refine AJ.mk (AL M rfl) ?_;refine bb _ _ (ae.no (by rw[AP];simp;omega) ?_);clear bb;refine Loop.rule (λm x g=> ∃i:Nat,x=(YV l (min (8*i) l.length),((min (8*i) l.length:Nat):Int),(i:Int),())/\m=Bh l-i/\i<=Bh l/\Ext C g) ?_ ⟨0,by simp[YV],rfl,by omega,Mod.refl⟩;rintro cM m _ bY ⟨i,rfl,rfl,hi,w⟩ bZ;dsimp only;have ad:=Aj w M;refine ae.intro (λq=>?_) (λq=>?_)
  ·have z:i<Bh l:=by simp at q;omega
   have aD:=QX z;have cN:8*i<l.length:=by unfold Bh at z;omega
   have b0:min (8*i) l.length=8*i:=by omega
   rw[b0];have b1:((KZ l).map λb=>AX (BJ b))[i]? =some (AX (BJ (Bu l i))):=by simp[KZ,z]
   refine(aY (ba w)).idx b1 λac cO b2=>?_
   rw[As];refine AJ.mk b2.str ?_;have b3: ∀p∈Bu l i,LM p:=λp b4=>T.ok p (Pe b4)
   have cP:=Qc T.ok z;refine rf b3 (by omega) λps A aE aF cQ=>⟨_,_,rfl,?_⟩
   have bc:=Aj aF ad;have Q:ps.len=(Bu l i).length:=aE.len;refine ah.mk λbd b5=>?_
   have aG:(Bu l i)[0]? =some (Bu l i)[0]:=A2 (by omega);have be:Il l (8*i)=(Bu l i)[0].key:=by have:=QE (l:=l) (i:=i) (j:=0) (by omega);rw[aG] at this;unfold Il;rw[Gk] at this;rw[<- this]
   generalize (Bu l i)[0]=bf at aG be;have b6:bd (false,()) A:=by
    refine b5 _ _ (ae.no rfl ?_);refine Loop.rule (λm x g=> ∃j:Nat,x=(YV l (8*i+j),((8*i+j:Nat):Int),(j:Int),())/\m=(Bu l i).length-j/\j<=(Bu l i).length/\Ext A g) ?_ ⟨0,by simp,rfl,by omega,Mod.refl⟩;rintro cR m _ cS ⟨j,rfl,rfl,aZ,af⟩ b7;dsimp only;refine ae.intro (λq=>?_) (λq=>?_)
    ·have R:j<(Bu l i).length:=by rw[Q] at q;simp at q;omega
     have u:(Bu l i)[j]? =some (Bu l i)[j]:=A2 R;have aH:(Bu l i)[j]∈l:=Pe (AT R);have aI:l[8*i+j]? =some (Bu l i)[j]:=by rw[<- QE (by omega)];exact u
     generalize (Bu l i)[j]=p at u aH aI;have b8:=T.ok p aH;refine(aE.ext af).view.idx u λaC cT b9=>?_
     obtain⟨ca,cb,cc⟩:=b9.pair;rw[As];refine AJ.mk ca (AJ.mk cb (Ac.mk cc ?_));refine al.pair λcU cV cW aJ bg cX=>?_
     refine ah.mk λcY cd=>?_
     refine AJ.mk (AL aJ rfl) ?_;rw[ARB T.ok T.inc aI];refine ae.no rfl ?_;have ce:=Aj bg (Aj af bc);refine AJ.mk (AL ce rfl) ?_;refine AJ.mk (AL aJ rfl) ?_;have a5:=b8.bJ;refine y7 (by omega) ⟨_,rfl,?_⟩;rw[EN,T.has p aH];refine cd _ _ (ae.no rfl ?_);refine AJ.mk (AL aJ rfl) ?_;rw[AZ (by omega),AZ (by omega)];refine b7 ((Bu l i).length-(j+1)) _ _ (by omega) ⟨j+1,?_,rfl,R,af.trans bg⟩;have cf:YV l (8*i+(j+1))=p.key:=by show Il l (8*i+j)=p.key;unfold Il;rw[aI]
     rw[cf];rfl
    ·have R:j=(Bu l i).length:=by rw[Q] at q;simp at q;omega
     rw[AZ (by omega)];have aL:min (8*(i+1)) l.length=8*i+j:=by rw[R];unfold Bu;rw[AH,DH];omega
     refine bZ (Bh l-(i+1)) _ _ (by omega) ⟨i+1,?_,rfl,z,(w.trans aF).trans af⟩;rw[aL]
   have bh:bG ps.p ps.len 0 λN=>AJ A (N.add ((0:Int).toNat*3)) λcg=>AY A (⟨r,0,none⟩:Q6) λbi=>bG bi.p bi.len ((i:Nat):Int) λbj=>AJ A (bj.add (((i:Nat):Int).toNat*1)) λch=>bd ((!bM cg ch),()) A:=by
    obtain⟨N,ci,bk⟩:=aE.view.cells 0 bf aG;rw[HL,add_zero] at bk;refine bG.mk (k:=0) ci (by omega) ?_;refine AJ.mk (n:=bf.key) (by show ag A (N.add 0)=_;rw[add_zero];exact bk.pair.1) ?_;refine AY.mk (s:=o) (AL bc rfl) ?_;refine((aA.ext w).ext aF).view.idx (RI z) λbj cZ cj=>?_
    rw[As];refine AJ.mk cj.str ?_;rw[be,CP,decide_eq_true rfl];exact b6
   refine ae.no rfl (ae.no (by rw[Q];simp;intro G;rw[G] at aD;simp at aD) (ae.no (by rw[Q];simp;omega) ?_));rw[AZ (by omega)];refine ae.intro (λq=>?_) (λ_=>bh);have:i+1<Bh l:=by simp at q;omega
   exact ae.no (by rw[Q,aD.2.2 this];rfl) bh
  ·have z:i=Bh l:=by simp at q;omega
   have aL:min (8*i) l.length=l.length:=by rw[z];omega
   rw[aL];refine AC.mk (AL ad rfl) (ae.no (by simp) ?_);refine bn bY r (bU.trans w) ⟨⟨o,⟨Ay sl.p sl.cap 0 1,Bh l,sl.cap⟩,ad,(aA.ext w).view,aY (ba w),λc d=>?_,λc d=>?_⟩,?_⟩
   ·have h:=(aA.ext w).lt d;have:=B c d;have:=D.size;omega
   ·have h:=bV c d;have:=O.size;have:=w.size;have:=F.size;have:=U.size;omega
   ·have:=Af ad;have:=D.size;omega
def WG(g:ak)(h:Int)(f:J0)(i:aa)(j:A2O):=Loop (λK (s:Int×Int×Unit) a=>ae (decide (s.1<s.2.1)) (ah (λ(b:Int×Int×Unit) k=>K (b.1,b.2.1,()) k) λc=>EL g P f #[J6 J9 (J8 J9 ((J8 .u64 (J8 J9 (s.1+s.2.1))).fdiv ((2:Int)^(1:Nat))))] a λv d=> ∃e:Bool,v=J3 e/\(ae (!e) (c ((J8 J9 ((J8 J9 ((J8 .u64 (J8 J9 (s.1+s.2.1))).fdiv ((2:Int)^(1:Nat))))+1)),s.2.1,()) d) (c (s.1,(J8 J9 ((J8 .u64 (J8 J9 (s.1+s.2.1))).fdiv ((2:Int)^(1:Nat)))),()) d))) (j (J6 J9 s.1) a)) (0,h,()) i
theorem ACF {a b f c d}(e:WG a b f c d):AA a P Ph #[J6 J9 b,f] c d:=Aa (CE 2 (AO (.block (.loop [(5,.one (.int J9)),(6,.one (.int J9))] [1] (AO Fj (.bI [(5,.one (.int J9)),(6,.one (.int J9))] [1] jT)))) Bc)) (by kernel_rfl) e
def Gn(b:ak)(s:Sl)(v:Int)(c:aa)(d:A2O):=AA b P Ii #[J4 s.p s.len s.cap,J6 J9 v] c λv1 e=> ∃a:Int,v1=J6 J9 a/\(d (J3 (decide (a>=0))) e)
theorem LU {a s v b c}(d:Gn a s v b c):AA a P ET #[J4 s.p s.len s.cap,J6 J9 v] b c:=Aa Er (by kernel_rfl) d
def Ic(g:ak)(s:Sl)(v:Int)(e:aa)(d:A2O):=Loop (λK (b:Int×Unit) c=>ae (decide (b.1<(s.len:Int))) (bG s.p s.len b.1 λa=>AC J9 c (a.add (b.1.toNat*1)) λf=>ae (v==f) (d (J6 J9 b.1) c) (K ((J8 J9 (b.1+1)),()) c)) (d (J6 J9 (-1)) c)) (0,()) e
theorem Mq {a s v b c}(d:Ic a s v b c):AA a P Ii #[J4 s.p s.len s.cap,J6 J9 v] b c:=Aa pO (by kernel_rfl) d
def IA(b:ak)(s:Sl)(i:Int)(v:Sl)(e:aa)(d:A2O):=aH ((0:Int)<=i/\i<=(s.len:Int))<| ae ((v.len:Int)==0) (d (J4 s.p s.len s.cap) e) (ae (i==(s.len:Int)) (BB b P (Builtin.append_ #[Cu,Cu] Cu #[J4 s.p s.len s.cap,J4 v.p v.len v.cap]) e λv1 h=> ∃c:Sl,v1=J4 c.p c.len c.cap/\(d (J4 c.p c.len c.cap) h)) (ae (decide ((J8 J9 ((s.len:Int)+(v.len:Int)))>(s.cap:Int))) (aH ((0:Int)<=i/\i<=(s.cap:Int))<| BB b P (Builtin.append_ #[Cu,BN] Cu #[J4 (Ay s.p s.cap 0 1) (i.toNat-0) (s.cap-0),J6 J9 (J8 J9 ((J8 J9 ((s.len:Int)+(v.len:Int)))-i))]) e λv2 j=> ∃a:Sl,v2=J4 a.p a.len a.cap/\(aH ((0:Int)<=i/\i<=(a.len:Int))<| BB b P (Builtin.copy_ #[Cu,Cu] BN #[J4 (Ay a.p a.cap i.toNat 1) (a.len-i.toNat) (a.cap-i.toNat),J4 v.p v.len v.cap]) j λk l=> ∃m:Int,k=J6 J9 m/\(aH ((0:Int)<=(J8 J9 (i+(v.len:Int)))/\(J8 J9 (i+(v.len:Int)))<=(a.len:Int))<| aH ((0:Int)<=i/\i<=(s.len:Int))<| BB b P (Builtin.copy_ #[Cu,Cu] BN #[J4 (Ay a.p a.cap ((J8 J9 (i+(v.len:Int))).toNat) 1) (a.len-((J8 J9 (i+(v.len:Int))).toNat)) (a.cap-((J8 J9 (i+(v.len:Int))).toNat)),J4 (Ay s.p s.cap i.toNat 1) (s.len-i.toNat) (s.cap-i.toNat)]) l λn o=> ∃p:Int,n=J6 J9 p/\(d (J4 a.p a.len a.cap) o)))) (aH ((0:Int)<=(J8 J9 ((s.len:Int)+(v.len:Int)))/\(J8 J9 ((s.len:Int)+(v.len:Int)))<=(s.cap:Int))<| aH ((0:Int)<=(J8 J9 (i+(v.len:Int)))/\(J8 J9 (i+(v.len:Int)))<=(((((J8 J9 ((s.len:Int)+(v.len:Int))).toNat)-0):Nat):Int))<| mT b P Gf #[J4 v.p v.len v.cap,J4 (Ay (Ay s.p s.cap 0 1) (s.cap-0) ((J8 J9 (i+(v.len:Int))).toNat) 1) ((((J8 J9 ((s.len:Int)+(v.len:Int))).toNat)-0)-((J8 J9 (i+(v.len:Int))).toNat)) ((s.cap-0)-((J8 J9 (i+(v.len:Int))).toNat))] e λq f=> ∃g:Bool,q=J3 g/\(ae (!g) (aH ((0:Int)<=(J8 J9 (i+(v.len:Int)))/\(J8 J9 (i+(v.len:Int)))<=(((((J8 J9 ((s.len:Int)+(v.len:Int))).toNat)-0):Nat):Int))<| aH ((0:Int)<=i/\i<=(((((J8 J9 ((s.len:Int)+(v.len:Int))).toNat)-0):Nat):Int))<| BB b P (Builtin.copy_ #[Cu,Cu] BN #[J4 (Ay (Ay s.p s.cap 0 1) (s.cap-0) ((J8 J9 (i+(v.len:Int))).toNat) 1) ((((J8 J9 ((s.len:Int)+(v.len:Int))).toNat)-0)-((J8 J9 (i+(v.len:Int))).toNat)) ((s.cap-0)-((J8 J9 (i+(v.len:Int))).toNat)),J4 (Ay (Ay s.p s.cap 0 1) (s.cap-0) i.toNat 1) ((((J8 J9 ((s.len:Int)+(v.len:Int))).toNat)-0)-i.toNat) ((s.cap-0)-i.toNat)]) f λr t=> ∃u:Int,r=J6 J9 u/\(aH ((0:Int)<=i/\i<=(((((J8 J9 ((s.len:Int)+(v.len:Int))).toNat)-0):Nat):Int))<| BB b P (Builtin.copy_ #[Cu,Cu] BN #[J4 (Ay (Ay s.p s.cap 0 1) (s.cap-0) i.toNat 1) ((((J8 J9 ((s.len:Int)+(v.len:Int))).toNat)-0)-i.toNat) ((s.cap-0)-i.toNat),J4 v.p v.len v.cap]) t λw x=> ∃y:Int,w=J6 J9 y/\(d (J4 (Ay s.p s.cap 0 1) (((J8 J9 ((s.len:Int)+(v.len:Int))).toNat)-0) (s.cap-0)) x))) (aH ((0:Int)<=(s.len:Int)/\(s.len:Int)<=(((((J8 J9 ((s.len:Int)+(v.len:Int))).toNat)-0):Nat):Int))<| BB b P (Builtin.copy_ #[Cu,Cu] BN #[J4 (Ay (Ay s.p s.cap 0 1) (s.cap-0) ((s.len:Int).toNat) 1) ((((J8 J9 ((s.len:Int)+(v.len:Int))).toNat)-0)-((s.len:Int).toNat)) ((s.cap-0)-((s.len:Int).toNat)),J4 v.p v.len v.cap]) f λz A=> ∃B:Int,z=J6 J9 B/\(aH ((0:Int)<=i/\i<=(((((J8 J9 ((s.len:Int)+(v.len:Int))).toNat)-0):Nat):Int))<| AA b P Ie #[J4 (Ay (Ay s.p s.cap 0 1) (s.cap-0) i.toNat 1) ((((J8 J9 ((s.len:Int)+(v.len:Int))).toNat)-0)-i.toNat) ((s.cap-0)-i.toNat),J6 J9 (v.len:Int)] A λC D=>C=J1 #[]/\(d (J4 (Ay s.p s.cap 0 1) (((J8 J9 ((s.len:Int)+(v.len:Int))).toNat)-0) (s.cap-0)) D)))))))
theorem Mk {a s i v b c}(d:IA a s i v b c):AA a P Cv #[J4 s.p s.len s.cap,J6 J9 i,J4 v.p v.len v.cap] b c:=Aa tB (by kernel_rfl) d
end Go.Lf.G
namespace Go.Lf.G.M
open Go Go.Lf Go.Lf.G
theorem Kj:P.underlying Ar=some .string:=by kernel_rfl
theorem lA:P.underlying Tu=some .bool:=by kernel_rfl
theorem toList_inj {a b:A2P}:(a.toList==b.toList)=decide (a=b):=by rw[ByteArray.toList_eq,ByteArray.toList_eq];rw[Ek];simp[Mn,<-Array.toList_inj]
def Am(x:Pr):Int:=
 if(decide (x.key=⟨#[]⟩)||(x.gone&& !decide (x.val=⟨#[]⟩))) then 1 else if(decide (x.key.size>64)||decide (x.val.size>8192)) then 2 else 0
theorem CP {a b:A2P}:bM a b=decide (a=b):=toList_inj
def gP(key:A2P)(l:List Pr):List Pr:=l.takeWhile λa=>aQ a.key key
def aV(key:A2P)(l:List Pr):Nat:=(gP key l).length
def BU(key:A2P)(l:List Pr):Bool:=match l[aV key l]? with|some a=>decide (a.key=key)|none=>false
theorem mz(key:A2P)(l:List Pr):aV key l<=l.length:=(A02 _).length_le
theorem Uf {e:Type}{p:e->Bool}: ∀ {l:List e} {i:Nat},i<=(l.takeWhile p).length->(∀ x,l[i]? =some x->p x=true->i<(l.takeWhile p).length)/\(∀ x,l[i]? =some x->p x=false->i=(l.takeWhile p).length)/\(l[i]? =none->i=(l.takeWhile p).length)
 | [],i,a=>by simp at a;subst a;simp
 |y::l,0,a=>by
  refine⟨λx b c=>?_,λx b c=>?_,λa=>by simp at a⟩
  ·simp at b;subst b;simp[c]
  ·simp at b;subst b;simp[c]
 |y::l,i+1,a=>by
  rw[Mu] at a ⊢;split at a
  ·rename_i f;have d:=Uf (p:=p) (l:=l) (i:=i) (by simpa using a);simp only[f,if_true,A6];refine⟨λx b c=>?_,λx b c=>?_,λg=>?_⟩
   ·have:=d.1 x (by simpa using b) c;omega
   ·have:=d.2.1 x (by simpa using b) c;omega
   ·have:=d.2.2 (by simpa using g);omega
  ·simp at a
theorem Hz:P7 P AQ AU BR.w 40=true:=by kernel_rfl
theorem ANl:P7 P JJ AQ fZ.w 24=true:=by kernel_rfl
theorem zZ:P7 P A8 Bb jw.w 8=true:=by kernel_rfl
def Xp(x:Pr)(l:List Pr):List Pr:=l.take (aV x.key l)++ [x]++l.drop (if BU x.key l then aV x.key l+1 else aV x.key l)
def Cs(x:Pr)(l:List Pr):List Pr:=if Am x≠0 then l else Xp x l
theorem AOn(x:Pr)(l:List Pr):(Xp x l).length<=l.length+1:=by unfold Xp;have:=mz x.key l;simp;split<;>omega
theorem ANc(x:Pr)(l:List Pr):(Cs x l).length<=l.length+1:=by
 unfold Cs;split
 ·omega
 ·exact AOn x l
theorem qd {a:J0}{c:J0}:(#[]++ #[a]++ #[c]:Array J0)= #[a,c]:=rfl
theorem AGO {G:ak}{e H:aa}{fv:J0}{S:Nat->Prop}{l:List Pr}{I:A2O}(J:EJ G P fv S H l)(K: ∀b,S b->e[b]? =H[b]?)(ay:l.length<=1099511627776)
  (ad: ∀s h,Own BR AU h s l->(∀ c,s.af=some c->e.size<=c)->Ext e h->I (J4 s.p s.len s.cap) h):AA G P Cr #[J4 none 0 0,fv] e I:=by
 refine Ht (s:=⟨none,0,0⟩) ?_;unfold EO;refine al.mk λo _ a L az=>?_
 have M: ∀b,S b->b<e.size:=λb a=>by
  have:=K b a;rw[CH (J.1 b a)] at this;exact Af this
 have ae: ∀h:aa,Mod (λc=>c=e.size) o h->Ext e h:=λh m=>L.then (m.ai λc _ j=> .inr (by omega))
 refine XE J (λb a=>(L.get b (M b a) (by simp)).trans (K b a))
  (λi c y p=>c=none/\ ∃s:Sl,p[e.size]? =some (J2 #[J4 s.p s.len s.cap] AQ (0,0))/\Own BR AU p s (l.take i)/\(∀ b,y b↔(b=e.size\/s.af=some b))/\(∀ b,s.af=some b->b<p.size/\e.size<b))
  (λb=>b=e.size) (λb a d=>by have:=M b a;omega) ?_ ?_ ?_ ?_ ?_ ?_
 ·rintro i c y p ⟨_,s,q,r,f,k⟩ b a;rcases(f b).1 a with rfl|n
  ·exact Af q
  ·exact(k b n).1
 ·rintro i c y p h ⟨d,s,q,r,f,k⟩ m;refine⟨d,s,m.af q (λz=>z.1 ((f _).2 (.inl rfl))),r.mod m (λc j z=>z.1 ((f _).2 (.inr j))),f,λb a=>⟨?_,(k b a).2⟩⟩;have:=m.size;have:=(k b a).1;omega
 ·exact⟨rfl,⟨none,0,0⟩,a,Own.nil,λb=>by simp[Sl.af],λb a=>by simp[Sl.af] at a⟩
 ·rintro i x N p rec aA aC O ⟨_,s,q,r,f,k⟩ Q aD af ag ah aE;have aF:=(List.getElem?_eq_some_iff.1 O).1;refine al.pair λaG R aH ai u aI=>?_
  refine⟨rec,u.af af (by simp),ag,?_⟩;generalize T:R.setIfInBounds (o.size+1) (.loop {rec with state:= .busy})=A;have t:Mod (λb=>b=o.size+1) R A:=T▸Mod.setObj rfl;have aj:A[o.size+1]? =some (.loop {rec with state:= .busy}):=by rw[<- T];exact CQ (by omega)
  have aJ:=Af q;have B:=t.af ai (by omega);have U:=t.af (u.af q (by simp)) (by omega);have am:=(r.ext u).mod t (λc j d=>Q ((f _).2 (.inr (d▸j))));refine AY.mk (AL U rfl) (AJ.mk (AL B rfl) (AJ.mk (AB B rfl) (Ac.mk (AB B rfl) ?_)));have V:(l.take i).length=i:=by simp;omega
  refine al.aZ (E:=BR) (x:=x) rfl Hz am (by rw[V];omega) (by rw[V];simp[maxLen];omega) λW X Y v C _=>?_
  have aK:=t.size;have an:s.af≠some e.size:=λd=>by have:=k _ d;omega
  refine ab.mk (v.af U an) (by simp) λao ap D aL=>ah ao ?_
  refine⟨λb=>b=e.size\/W.af=some b,?_,?_,?_,rfl,W,by simpa using ap,?_,λ_=>DB,?_⟩
  ·rintro b (rfl|a)
   ·exact .inl ((f _).2 (.inl rfl))
   ·rcases C b a with n|n
    ·exact .inl ((f _).2 (.inr n))
    ·exact .inr (by omega)
  ·have aq:Mod (λb=>N b\/b=o.size+1) p A:=u.mod.trans (t.ai λb _ a=> .inr a);have ar:Mod (λb=>N b\/b=o.size+1) p X:=aq.trans (v.ai λb _ a=> .inl ((f _).2 (.inr a)));exact ar.trans (D.ai λb _ a=> .inl ((f _).2 (.inl a)))
  ·refine D.af (v.af aj (λd=>Q ((f _).2 (.inr d)))) (by omega)
  ·have au:=Y.mod D (λc j d=>by
    rcases C c j with n|n
    ·have:=k _ n;omega
    ·omega)
   rw[AD,O];exact au
  ·intro b a;have:=v.size;have aM:b<X.size:=by
    rcases Y.row with⟨rfl,_⟩|⟨g,av,F,w,_⟩
    ·simp[Sl.af] at a
    ·simp[Sl.af,F] at a;subst a;exact Af w
   refine⟨by omega,?_⟩;rcases C b a with n|n
   ·exact(k _ n).2
   ·omega
 ·rintro aw h ⟨_,s,q,r,f,k⟩ Z _ aN ac;have aO:=Z.size;refine AY.mk (AL q rfl) ⟨ac,?_⟩;rw[C5] at r;have ax:s.af≠some o.size:=λd=>by
   rcases r.row with⟨rfl,_⟩|⟨g,av,F,w,_⟩
   ·simp[Sl.af] at d
   ·simp[Sl.af,F] at d;rw[d,ac] at w;cases w
  refine ad s _ (r.mod (Mod.setObj (S:=λc=>c=o.size) rfl) λc j d=>ax (d▸j)) (λc j=>by have:=k _ j;omega) ?_;exact(ae h Z).then (Mod.setObj (.inr (by omega)))
 ·rintro i aP aw h ⟨d,_⟩;cases d
theorem WJ {e:ak}{d f:aa}{fv:J0}{g:Nat->Prop}{l:List Pr}{h:A2O}(i:EJ e P fv g f l)(j: ∀b,g b->d[b]? =f[b]?)(k:l.length<=1099511627776)
  (m: ∀s a,Own BR AU a s l->(∀ c,s.af=some c->d.size<=c)->Ext d a->h (J4 s.p s.len s.cap) a):AA e P Cq #[fv] d h:=by
 refine MV ?_;unfold II;exact AGO i j k λs a n o p=>⟨s,rfl,m s a n o p⟩
def BK(l:List Pr):List Pr:=l.filter λx=> !x.gone
theorem ZN {b:Type}{p:b->Bool}: ∀ {l:List b} {i:Nat} {x:b},l[i]? =some x->p x=true->(l.filter p)[((l.take i).filter p).length]? =some x
 | [],i,x,a,_=>by simp at a
 |y::l,0,x,a,c=>by simp at a;subst a;simp[c]
 |y::l,i+1,x,a,c=>by
  have d:=ZN (p:=p) (l:=l) (i:=i) (by simpa using a) c;rw[HS,AW,AW];split
  ·simpa using d
  ·exact d
theorem AEe {a:Type}{p:a->Bool}(l:List a)(i:Nat):((l.take i).filter p).length<=(l.filter p).length:=((List.take_sublist i l).filter p).length_le
theorem APY {Z:ak}{D:aa}{b:Nat}{T:Q7}{fr:Nat×Nat}{fv:J0}{z:Nat->Prop}{l:List Pr}(a:D[b]? =some (J2 #[fv] T fr))(h:(fv= .nilFunc/\l= []/\ ∀c,¬z c)\/EJ Z P fv z D l):
  EJ Z P (.func (.func Oh) #[] #[J5 (some ⟨b,0,none⟩)]) (λc=>z c\/c=b) D (BK l):=by
 have ax:=Af a;refine⟨?_,_,_,rfl,λab=>by kernel_rfl,λd E ab w F ay hd hB az G=>?_⟩
 ·rintro c (n|rfl)
  ·rcases h with h|h
   ·exact absurd n (h.2.2 c)
   ·exact h.1 c n
  ·exact ax
 rw[qd];refine AA5 ?_;unfold UU;refine Yl.mk ay (al.mk λu _ aA q aK=>?_);have ac:u[b]? =some (J2 #[fv] T fr):=by have r:=(E b (.inr rfl)).trans a;exact q.af r (by simp)
 refine R6.mk (AL ac rfl) ?_;rcases h with⟨rfl,rfl,_⟩|h
 ·refine⟨trivial,ae.yes rfl ?_⟩;exact⟨rfl,0,true,F,q.mod,λb a=> .inl a,hB.bg _ _ _ _ _ G (q.ai λ_ _ d=>d.elim),λ_=>rfl,by simp⟩
 ·refine⟨h.one.2.1,ae.no h.one.2.2 ?_⟩;refine R6.mk (AL ac rfl) ?_;have aC:=hB.wf _ _ _ _ G;have aD: ∀b,z b->b<d.size:=λb a=>by
   have:=E b (.inl a);rw[CH (h.1 b a)] at this;exact Af this
  have aE:=hB.bg _ _ _ _ _ G (q.ai (S':=λb=>¬F b/\d.size<=b) λ_ _ d=>d.elim);refine XE h (λc n=>(q.get c (aD c n) (by simp)).trans (E c (.inl n)))
   (λi c e j=>j[d.size]? =some (J2 #[ab] MS (0,0))/\ ¬e d.size/\match c with
    |none=>w (BK (l.take i)).length true e j
    |some ad=>ad=none/\ ∃s,s<=(BK l).length/\w s false e j)
   F (λc n=>hd c (.inl n)) ?_ ?_ ?_ ?_ ?_ ?_
  ·rintro i c e j ⟨_,_,f⟩;cases c
   ·exact hB.wf _ _ _ _ f
   ·obtain⟨_,s,_,H⟩:=f;exact hB.wf _ _ _ _ H
  ·rintro i c e j I ⟨r,t,f⟩ m;refine⟨m.af r (λd=>by omega),t,?_⟩;have af:Mod (λb=>¬e b/\d.size<=b) j I:=m.ai λb _ a=>⟨a.1,by omega⟩
   cases c
   ·exact hB.bg _ _ _ _ _ f af
   ·obtain⟨H,s,J,aF⟩:=f;exact⟨H,s,J,hB.bg _ _ _ _ _ aF af⟩
  ·exact⟨aA,λd=>by have:=aC _ d;omega,aE⟩
  ·rintro i x e j rec aL aM L ⟨r,t,f⟩ M aN aG aH ag aI;refine al.pair λaO ai aP aJ N aQ=>?_
   refine⟨rec,N.af aG (by simp),aH,?_⟩;generalize k:ai.setIfInBounds (u.size+1) (.loop {rec with state:= .busy})=v;have y:Mod (λb=>b=u.size+1) ai v:=k▸Mod.setObj rfl;have O:v[u.size+1]? =some (.loop {rec with state:= .busy}):=by rw[<- k];exact CQ (by omega)
   have A:=y.af aJ (by omega);have Q:=y.af (N.af r (by simp)) (by omega);have R:Mod (λb=>b=u.size+1) j v:=(Ext.mod N).trans y;have aj:w (BK (l.take i)).length true e v:=hB.bg _ _ _ _ _ f (R.ai λb _ a=>by subst a;exact⟨M,by omega⟩);have am:BK (l.take (i+1))=BK (l.take i)++BK [x]:=by rw[AD,L];simp[BK]
   refine ah.mk λK an=>?_
   refine Ac.mk (AB A rfl) ?_;refine ae.intro (λo=>?_) (λo=>?_)
   ·have o:(!x.gone)=true:=o;refine R6.mk (AL Q rfl) ?_;refine AJ.mk (AL A rfl) (AJ.mk (AB A rfl) (Ac.mk (AB A rfl) ?_));refine EL.mono (az _ _ e v (ZN (p:=λx:Pr=> !x.gone) L o) aj) ?_;rintro _ S ⟨g,B,rfl,ao,C,ap⟩;refine⟨g,rfl,an _ _ ?_⟩;have aR:=AEe (p:=λx:Pr=> !x.gone) l (i+1);have aq:(BK (l.take (i+1))).length=(BK (l.take i)).length+1:=by rw[am];simp only[BK,A1];simp[o]
    have ar:=C.af Q t;have au: ¬B d.size:=λn=>(ao _ n).elim t λd=>by have:=y.size;omega
    have av:Mod (λb=>e b\/b=u.size+1) j S:=(R.ai λb _ a=> .inr a).trans (C.ai λb _ a=> .inl a);have aw: ∀b,B b->e b\/j.size<=b:=λb a=>(ao b a).elim .inl λd=> .inr (by have:=y.size;omega)
    refine ae.intro (λk=>aI none S ?_) (λk=>ag S ?_)
    ·have k:g=false:=by simpa using k
     subst k;exact⟨B,aw,av,C.af O M,ar,au,rfl,_,by have:=aq;unfold BK at *;omega,ap⟩
    ·have k:g=true:=by simpa using k
     subst k;exact⟨B,aw,av,C.af O M,ar,au,by show w _ _ _ _;rw[aq];exact ap⟩
   ·have o:(!x.gone)=false:=o;refine an _ _ (ae.no rfl (ag v ?_));refine⟨e,λb a=> .inl a,R.ai λb _ a=> .inr a,O,Q,t,?_⟩;show w _ _ _ _;have:BK [x]= []:=by simp at o;simp[BK,o]
    rw[am,this,AN];exact aj
  ·rintro U I ⟨r,t,f⟩ V W X Y;refine⟨Y,rfl,(BK l).length,true,U,?_,?_,?_,λ_=>rfl,A0 _⟩
   ·exact(q.mod.trans V).then (Mod.setObj (.inr (by omega)))
   ·intro b a;exact(X b a).elim .inl λd=> .inr (by omega)
   ·rw[C5] at f;exact hB.bg _ _ _ _ _ f (Mod.setObj ⟨W,by omega⟩)
  ·rintro i ad U I ⟨r,t,rfl,s,J,f⟩ L V W X Y;refine⟨Y,rfl,s,false,U,?_,?_,?_,(λd=>by cases d),J⟩
   ·exact(q.mod.trans V).then (Mod.setObj (.inr (by omega)))
   ·intro b a;exact(X b a).elim .inl λd=> .inr (by omega)
   ·exact hB.bg _ _ _ _ _ f (Mod.setObj ⟨W,by omega⟩)
theorem rM {f:ak}{d:aa}{fv:J0}{g:Nat->Prop}{l:List Pr}{i:A2O}(a:(fv= .nilFunc/\l= []/\ ∀c,¬g c)\/EJ f P fv g d l)
  (m: ∀j e,EJ f P j (λc=>g c\/c=d.size) e (BK l)->Ext d e->e.size=d.size+1->i j e):AA f P Na #[fv] d i:=by
 refine AD7 ?_;unfold X0;refine Yl.mk ?_ (al.mk λn _ o k p=>?_)
 ·rcases a with a|a
  ·rw[a.1];rfl
  ·exact a.one.1
 ·refine m _ n (APY o ?_) k p;rcases a with a|a
  ·exact .inl a
  ·exact .inr (a.ai (λ_=>id) (λb h=>by have:=a.1 b h;omega) (λb h=>k.get b (a.1 b h) (by simp)))
def QD(a:A2P)(x:Pr):Bool:=decide (a=⟨#[]⟩)||aQ x.key a
def Pd(a:A2P)(b:Int)(l:List Pr):List Pr:=(l.takeWhile (QD a)).take b.toNat
theorem ni {b:Type}{p:b->Bool}: ∀ {l:List b} {i:Nat},i<=(l.takeWhile p).length->(l.takeWhile p).take i=l.take i
 | [],i,_=>by simp
 |y::l,0,_=>by simp
 |y::l,i+1,a=>by
  rw[Mu] at a ⊢;split at a
  ·rename_i c;simp only[c,if_true,HS];rw[ni (by simpa using a)]
  ·simp at a
theorem Qf: ∀(a:List UInt8),Op.bytesLess a a=false
 | []=>rfl
 |a::x=>by simp[Op.bytesLess,Qf x]
theorem lC: ∀(a b:List UInt8),Op.bytesLess a b=false->Op.bytesLess b a=false->a=b
 | [],[],_,_=>rfl
 | [],_::_,c,_=>by simp[Op.bytesLess] at c
 |_::_,[],_,c=>by simp[Op.bytesLess] at c
 |a::x,b::f,d,e=>by
  simp only[Op.bytesLess,Hj,A0f,decide_eq_false_iff_not,beq_eq_false_iff_ne] at d e;have g:a=b:=by have h:=d.1;have i:=e.1;exact UInt8.le_antisymm (UInt8.not_lt.1 i) (UInt8.not_lt.1 h)
  subst g;rw[lC x f (d.2.resolve_left (by simp)) (e.2.resolve_left (by simp))]
theorem TN: ∀(a b c:List UInt8),Op.bytesLess a b=true->Op.bytesLess b c=true->Op.bytesLess a c=true
 |_,[],_,f,_=>by simp[Op.bytesLess] at f
 |_,_::_,[],_,f=>by simp[Op.bytesLess] at f
 | [],_::_,_::_,_,_=>by simp[Op.bytesLess]
 |a::x,b::g,c::z,e,d=>by
  simp only[Op.bytesLess,Cp,A3,decide_eq_true_eq,beq_iff_eq] at e d ⊢;rcases e with e|⟨rfl,e⟩
  ·rcases d with d|⟨rfl,d⟩
   ·exact .inl (UInt8.lt_trans e d)
   ·exact .inl e
  ·rcases d with d|⟨rfl,d⟩
   ·exact .inl d
   ·exact .inr ⟨rfl,TN x g z e d⟩
theorem Bl(a:A2P):aQ a a=false:=Qf _
theorem DJ {a b c:A2P}(d:aQ a b=true)(e:aQ b c=true):aQ a c=true:=TN _ _ _ d e
theorem Nk {a b:A2P}(d:aQ a b=false)(e:aQ b a=false):a=b:=by
 have:=lC _ _ d e;have c:bM a b=true:=by simp[bM,this]
 rw[CP] at c;simpa using c
theorem OC {a b:A2P}(c:aQ a b=true):aQ b a=false:=by
 cases d:aQ b a
 ·rfl
 ·have:=DJ c d;rw[Bl] at this;cases this
theorem nj {a b c:A2P}(d:aQ a b=true)(f:aQ c b=false):aQ a c=true:=by
 cases e:aQ b c
 ·rw[Nk f e];exact d
 ·exact DJ d e
theorem ZH {a b c:A2P}(e:aQ b a=false)(d:aQ c b=false):aQ c a=false:=by
 cases f:aQ c a
 ·rfl
 ·have:=nj f e;rw[this] at d;cases d
def upto(p a:Pr):Bool:=aQ a.key p.key||bM a.key p.key
def Ig(p:Pr)(l:List Pr):List Pr:=l.dropWhile (upto p)
inductive Li:List (List Pr)->List Pr->Prop
 |done {ls:List (List Pr)} (h: ∀l,l∈ls->l= []):Li ls []
 |step {ls:List (List Pr)} {k:Nat} {p:Pr} {t out:List Pr} (hk:ls[k]? =some (p::t))
   (hmin: ∀j q u,ls[j]? =some (q::u)->aQ q.key p.key=false/\(j<k->aQ p.key q.key=true)) (hm:Li (ls.map (Ig p)) out):Li ls (p::out)
theorem Li.hG {a:List (List Pr)}{out:List Pr}(m:Li a out)(b: ∀l,l∈a->l= []):out= []:=by
 cases m with
 |done _=>rfl
 |step c d e=>have:=b _ (AF c);cases this
theorem Li.gf {c:List (List Pr)}{out:List Pr}(m:Li c out){d:Nat}{p:Pr}{t:List Pr}(e:c[d]? =some (p::t))
  (h: ∀i g u,c[i]? =some (g::u)->aQ g.key p.key=false/\(i<d->aQ p.key g.key=true)): ∃j,out=p::j/\Li (c.map (Ig p)) j:=by
 cases m with
 |done a=>have:=a _ (AF e);cases this
 | @step _ k r s n f l o=>
  have q:d=k:=by
   rcases HP d k with a|a|a
   ·have b:=(l _ _ _ e).2 a;rw[(h _ _ _ f).1] at b;cases b
   ·exact a
   ·have b:=(h _ _ _ f).2 a;rw[(l _ _ _ e).1] at b;cases b
  subst q;rw[e] at f;cases f;exact⟨n,rfl,o⟩
theorem rE {d:Type}: ∀(a:List d) (b i:Nat) (v:d),(a.set i v).take b=(a.take b).set i v
 | [],b,i,v=>by simp
 |c::a,0,i,v=>by simp
 |c::a,b+1,0,v=>by simp
 |c::a,b+1,i+1,v=>by simp[rE a b i v]
end Go.Lf.G.M
namespace Go.Lf
open G
theorem Own.j8 {T:Q7}{d:aa}{s:Sl}{l:List Sl}(e:Own fZ T d s l){i:Nat}(y:i<l.length){x:Sl}{K:aa->Prop}{a:Q6}(f:s.p=some a)
  (q: ∀c,Own fZ T c s (l.set i x)->Mod (λb=>s.af=some b) d c->c.size=d.size->K c):ab d (a.add (i*1)) (J4 x.p x.len x.cap) K:=by
 rcases e.row with⟨rfl,_⟩|⟨g,z,h,r,t,u,n,o⟩
 ·simp at f
 ·rw[h] at f;cases f;rw[BZ,AK,By];have j:fZ.w=1:=rfl;rw[j,By] at n o;have A:=e.len;refine ab.mk r (by omega) λc k m v=>q c ⟨by simpa using e.len,.inr ⟨g,_,h,k,t,u,by simp[n,j],?_⟩⟩ (m.ai λb _ k=>by simp[Sl.af,h,k]) v
  rw[j,By,Fm,Go.Lf.G.M.rE,o];have p: ∀l:List Sl,l.flatMap fZ.enc=l.map (λs=>Value.slice s.p s.len s.cap):=λl=>by
   induction l with
   |nil=>rfl
   |cons B l w=>rw[AI,w];rfl
  rw[p,p,R2]
end Go.Lf
namespace Go.Lf.G.M
open Go Go.Lf Go.Lf.G
structure iL (lo:Nat) (h:aa) (O:Nat->Prop) (t:Sl) (sls:List Sl) (ls:List (List Pr)):Prop where
 len:sls.length=ls.length
 row: ∀(j:Nat) (sl:Sl) (l:List Pr),sls[j]? =some sl->ls[j]? =some l->View BR h sl l/\l.length<=1099511627776/\ ∀c,sl.af=some c->lo<=c/\c<h.size/\t.af≠some c/\ ¬O c
theorem iL.mod {f:Nat}{b j:aa}{g k:Nat->Prop}{t t':Sl}{n:List Sl}{o:List (List Pr)}{p:Nat->Prop}(q:iL f b g t n o)(m:Mod p b j)(r: ∀c,f<=c->c<b.size->t.af≠some c-> ¬g c-> ¬p c)
  (s: ∀c,c<b.size->t'.af=some c->t.af=some c) (u: ∀c,c<b.size->k c->g c):iL f j k t' n o:=
 ⟨q.len,λw sl l h e=>by
  obtain⟨v,x,d⟩:=q.row w sl l h e;refine⟨v.mod m λc a=>r c (d c a).1 (d c a).2.1 (d c a).2.2.1 (d c a).2.2.2,x,λc a=>?_⟩;obtain⟨h,e,y,z⟩:=d c a;have:=m.size;exact⟨h,by omega,λi=>y (s c e i),λi=>z (u c e i)⟩⟩
end Go.Lf.G.M
namespace Go.Lf
open G
theorem View.val {b:aa}{s:Sl}{c:List gR}(v:View jw b s c){i:Nat}{x:gR}(d:c[i]? =some x): ∃a,s.p=some a/\ag b (a.add (i*1))=some x.v:=by obtain⟨a,e,f⟩:=v.cells i x d;exact⟨a,e,f.val⟩
end Go.Lf
namespace Go.Lf.G.M
open Go Go.Lf Go.Lf.G
theorem AQr {ba:ak}{af:aa}{b:Nat}{T:Q7}{fr:Nat×Nat}{s:Sl}{S:Nat->Prop}{I:List gR}{os:List (Option (List Pr))}{out:List Pr}(D:af[b]? =some (J2 #[J4 s.p s.len s.cap] T fr))(v:View jw af s I)
  (bb:I.length<=1099511627776) (bI:os.length=I.length)
  (bJ: ∀(i:Nat) (v:gR),I[i]? =some v->(v.v= .nilFunc/\os[i]? =some none)\/ ∃l,os[i]? =some (some l)/\EJ ba P v.v S af l/\l.length<=1099511627776) (bK:Li (os.filterMap id) out) (bc: ∀b,S b->b<af.size):
  EJ ba P (.func (.func QA) #[] #[J5 (some ⟨b,0,none⟩)]) (λc=>S c\/(c<af.size/\(c=b\/s.af=some c))) af out:=by
 have bL:=Af D;refine⟨?_,_,_,rfl,λbN=>by kernel_rfl,λf aC bN aO R cn hd hB bO bd=>?_⟩
 ·rintro c (h|h)
  ·exact bc c h
  ·exact h.1
 rw[qd];refine AC9 ?_;unfold Va;have be:=hB.wf _ _ _ _ bd;have bP:f[b]? =some (J2 #[J4 s.p s.len s.cap] T fr):=(aC b (.inr ⟨bL,.inl rfl⟩)).trans D;have bQ: ∀i x,I[i]? =some x-> ∃a,s.p=some a/\ag f (a.add (i*1))=some x.v:=λi x hi=>by
  obtain⟨a,aD,J⟩:=v.val hi;refine⟨a,aD,?_⟩;have bf:=Ur J;rw[aN] at bf;have B:=aC _ (.inr ⟨bf,.inr (by simp[Sl.af,aD])⟩);exact(OZ (by rw[aN];exact B)).trans J
 have bR: ∀c,S c->c<f.size:=λc h=>by
  have:=aC c (.inl h);rw[CH (bc c h)] at this;exact Af this
 refine AY.mk (AL bP rfl) ?_;refine Loop.rule (λm x L=> ∃(i:Nat) (t:Sl) (z:List Sl),x=(t,(i:Int),())/\m=I.length-i/\i<=I.length/\Ext f L/\Own fZ AQ L t z/\(∀ c,t.af=some c->f.size<=c)/\iL f.size L R t z ((os.take i).filterMap id)/\z.length<=i) ?_
  ⟨0,⟨none,0,0⟩,[],rfl,rfl,by omega,Mod.refl,Own.nil,λc h=>by simp[Sl.af] at h,⟨by simp,λe sl l f=>by simp at f⟩,by simp⟩
 rintro K m _ L ⟨i,t,z,rfl,rfl,hi,O,C,ai,M,bg⟩ aq;refine ae.intro (λr=>?_) (λr=>?_)
 ·have aE:i<I.length:=by simp[v.len] at r;omega
  have bh:=A2 aE;refine ah.mk λco bi=>?_
  obtain⟨a,aD,J⟩:=bQ i _ bh;refine bG.mk aD (by rw[v.len];exact aE) ?_;refine R6.mk (O.ag J) ?_;rcases bJ i _ bh with⟨bj,aP⟩|⟨l,aP,aR,bk⟩
  ·refine⟨by rw[bj];trivial,ae.no (by rw[bj];rfl) ?_⟩;refine bi _ _ (aq (I.length-(i+1)) _ _ (by omega) ⟨i+1,t,z,by rw[AZ (by omega)],rfl,by omega,O,C,ai,?_,by omega⟩);have:(os.take (i+1)).filterMap id=(os.take i).filterMap id:=by rw[AD,aP];simp
   rw[this];exact M
  ·refine⟨aR.one.2.1,ae.yes (by rw[aR.one.2.2];rfl) ?_⟩;refine WJ aR (λc h=>(O.get c (bR c h) (by simp)).trans (aC c (.inl h))) bk λar W aS au aF=>⟨ar,rfl,?_⟩
   refine al.aZ (E:=fZ) (x:=ar) rfl ANl (C.ext aF) (by omega) (by simp[maxLen];omega) λbm bS bT aG aT _=>?_
   have bU:Ext f bS:=(O.trans aF).then (aG.ai λc _ h=> .inr (ai c h));refine bi _ _ (aq (I.length-(i+1)) _ _ (by omega) ⟨i+1,bm,_,by rw[AZ (by omega)],rfl,by omega,bU,bT,?_,?_,?_⟩)
   ·intro c h;rcases aT c h with j|j
    ·exact ai c j
    ·have:=O.size;have:=aF.size;omega
   ·have B:(os.take (i+1)).filterMap id=(os.take i).filterMap id++ [l]:=by rw[AD,aP];simp
    rw[B];have aH:=(M.mod aF (λc _ _ _ _ f=>f) (λc _ f=>f) (λc _ f=>f)).mod (t':=bm) aG (λc _ _ N _=>N) (λc h j=>(aT c j).elim id λq=>by omega) (λc _ f=>f);refine⟨by simp[aH.len],λe sl H j q=>?_⟩;rcases HP e z.length with A|A|A
    ·rw[Fc A] at j;rw[Fc (by rw[<- aH.len];exact A)] at q;exact aH.row e sl H j q
    ·subst A;rw[A0g] at j;rw[aH.len,A0g] at q;cases j;cases q;have cp:t.af≠ar.af\/ar.af=none:=by
      cases aI:ar.af with
      |none=>exact .inr rfl
      |some c=>
       refine .inl λB=>?_
       have:=C.lt B;have:=au c aI;omega
     refine⟨(aS.view).mod aG λc h N=>?_,bk,λc h=>⟨?_,?_,?_,?_⟩⟩
     ·have:=C.lt N;have:=au c h;omega
     ·have:=au c h;have:=O.size;omega
     ·have:=aS.lt h;have:=aG.size;omega
     ·intro j;have:=aS.lt h;rcases aT c j with q|q
      ·have:=C.lt q;have:=au c h;omega
      ·omega
     ·intro j;have:=be c j;have:=au c h;have:=O.size;omega
    ·rw[LR (by simp;omega)] at j;cases j
   ·simp;omega
 ·have aE:i=I.length:=by simp[v.len] at r;omega
  rw[aE,<-bI,C5] at M;have bn:=hB.bg _ _ _ _ _ bd (O.ai (S':=λb=>¬R b/\f.size<=b) λ_ _ f=>f.elim);refine Loop.rule (λm _ L=> ∃(i:Nat) (F:Nat->Prop) (z:List Sl) (k:List (List Pr)) (aj:List Pr),Li k aj/\m=aj.length/\(∀ n,out[i+n]? =aj[n]?)/\i+aj.length=out.length/\Mod R f L/\(∀ b,F b->R b\/f.size<=b)/\aO i true F L/\
    Own fZ AQ L t z/\(∀ c,t.af=some c-> ¬F c)/\iL f.size L F t z k/\z.length<=1099511627776) ?_
   ⟨0,R,z,_,out,bK,rfl,λn=>by rw[AK],by omega,O.mod,λb D=> .inl D,bn,C,λc h N=>by have:=be c N;have:=ai c h;omega,M,by omega⟩
  clear aq M O C bg bn;rintro cq m _ L ⟨i,F,z,k,aj,bo,rfl,bp,aJ,aU,aV,A,C,aW,M,bg⟩ aq;have cr:=hB.wf _ _ _ _ A;refine Loop.rule (λm x aK=> ∃(d:Nat) (X:Int),x=(X,(d:Int),())/\aK=L/\m=k.length-d/\d<=k.length/\((X= -1/\ ∀e l,e<d->k[e]? =some l->l= [])\/
   ∃n p u,X=(n:Nat)/\n<d/\k[n]? =some (p::u)/\ ∀e o y,e<d->k[e]? =some (o::y)->aQ o.key p.key=false/\(e<n->aQ p.key o.key=true))) ?_
   ⟨0,-1,rfl,rfl,rfl,by omega,.inl ⟨rfl,λe l f=>by omega⟩⟩
  rintro cs m _ aK ⟨d,X,rfl,bV,rfl,N,aX⟩ aY;subst bV;have ct:=M.len;refine ae.intro (λr=>?_) (λr=>?_)
  ·have U:d<k.length:=by simp[C.len] at r;omega
   have G:=A2 U;have Y:=A2 (l:=z) (i:=d) (by omega);obtain⟨Z,bq,_⟩:=M.row d _ _ Y G;refine ah.mk λcu br=>?_
   refine C.view.idx Y λcv _ bW=>?_
   refine AY.mk bW.sl ?_;refine ah.mk λbs bt=>?_
   have bu:((X= -1/\ ∀e l,e<d+1->k[e]? =some l->l= [])\/
     ∃n p u,X=(n:Nat)/\n<d+1/\k[n]? =some (p::u)/\ ∀e o y,e<d+1->k[e]? =some (o::y)->aQ o.key p.key=false/\(e<n->aQ p.key o.key=true))->bs (false,()) aK:=λB=>
    bt _ _ (ae.no rfl (br _ _ (aY (k.length-(d+1)) _ _ (by omega) ⟨d+1,X,by rw[AZ (by omega)],rfl,rfl,by omega,B⟩)))
   have bv:(∃ n p u,(d:Int)=(n:Nat)/\n<d+1/\k[n]? =some (p::u)/\ ∀e o y,e<d+1->k[e]? =some (o::y)->aQ o.key p.key=false/\(e<n->aQ p.key o.key=true))->bs (true,()) aK:=λB=>
    bt _ _ (ae.yes rfl (br _ _ (aY (k.length-(d+1)) _ _ (by omega) ⟨d+1,d,by rw[AZ (by omega)],rfl,rfl,by omega,.inr B⟩)))
   refine ae.intro (λr=>?_) (λr=>?_)
   ·cases am:k[d] with
    |nil=>rw[am] at Z;have:=Z.len;simp[this] at r
    |cons o y=>
     rw[am] at Z G;rcases aX with⟨rfl,av⟩|⟨n,p,u,rfl,bw,ab,an⟩
     ·refine ae.yes (by simp) (bv ⟨d,o,y,rfl,by omega,G,λe ao ap A w=>?_⟩);rcases G0 e d with j|j
      ·have:=av e _ j w;cases this
      ·have:e=d:=by omega
       subst this;rw[G] at w;cases w;exact⟨Bl _,λf=>by omega⟩
     ·refine ae.no (by simp) ?_;refine Z.idx (i:=0) (x:=o) rfl λcw _ bX=>?_
      refine AJ.mk bX.pair.1 ?_;have aw:=A2 (l:=z) (i:=n) (by omega);obtain⟨aZ,_,_⟩:=M.row n _ _ aw ab;refine C.view.idx aw λbY _ a0=>?_
      refine AY.mk a0.sl ?_;refine aZ.idx (i:=0) (x:=p) rfl λbZ _ ax=>?_
      refine AJ.mk ax.pair.1 ?_;cases aI:aQ o.key p.key
      ·refine bu (.inr ⟨n,p,u,rfl,by omega,ab,λe ao ap A w=>?_⟩);rcases G0 e d with j|j
       ·exact an e ao ap j w
       ·have:e=d:=by omega
        subst this;rw[G] at w;cases w;exact⟨aI,λf=>by omega⟩
      ·refine bv ⟨d,o,y,rfl,by omega,G,λe ao ap A w=>?_⟩;rcases G0 e d with j|j
       ·have q:=(an e ao ap j w).1;have W:=nj aI q;exact⟨OC W,λ_=>W⟩
       ·have:e=d:=by omega
        subst this;rw[G] at w;cases w;exact⟨Bl _,λf=>by omega⟩
   ·have am:k[d]= []:=by
     have:=Z.len;cases am:k[d] with
     |nil=>rfl
     |cons o y=>rw[am] at this;simp[this] at r
    rw[am] at G;refine bu ?_;rcases aX with⟨rfl,av⟩|⟨n,p,u,rfl,bw,ab,an⟩
    ·refine .inl ⟨rfl,λe l A w=>?_⟩;rcases G0 e d with j|j
     ·exact av e l j w
     ·have:e=d:=by omega
      subst this;rw[G] at w;cases w;rfl
    ·refine .inr ⟨n,p,u,rfl,by omega,ab,λe ao ap A w=>?_⟩;rcases G0 e d with j|j
     ·exact an e ao ap j w
     ·have:e=d:=by omega
      subst this;rw[G] at w;cases w
  ·have U:d=k.length:=by simp[C.len] at r;omega
   subst U;clear aY;rcases aX with⟨rfl,av⟩|⟨n,p,u,rfl,bw,ab,an⟩
   ·refine ae.yes (by simp) ?_;have:aj= []:=bo.hG λl bb=>by
     obtain⟨e,A,B⟩:=DA bb;exact av e l A (by rw[A2 A,B])
    subst this;refine⟨rfl,i,true,F,aU,aV,A,λ_=>by have:=aJ;simp only[FG] at this;omega,by have:=aJ;simp only[FG] at this;omega⟩
   ·refine ae.no (by simp) ?_;have b0: ∀e o y,k[e]? =some (o::y)->aQ o.key p.key=false/\(e<n->aQ p.key o.key=true):=λe o y J=>an e o y (List.getElem?_eq_some_iff.1 J).1 J
    obtain⟨bx,rfl,b1⟩:=bo.gf ab b0;have aw:=A2 (l:=z) (i:=n) (by omega);obtain⟨aZ,_,_⟩:=M.row n _ _ aw ab;refine C.view.idx aw λbY _ a0=>?_
    refine AY.mk a0.sl ?_;refine aZ.idx (i:=0) (x:=p) rfl λbZ _ ax=>?_
    refine AJ.mk ax.pair.1 (AJ.mk ax.pair.2.1 (Ac.mk ax.pair.2.2 ?_));refine al.pair λb2 a1 cx b3 aL cy=>?_
    have b4:=C.ext aL;have b5:iL f.size a1 F t z k:=M.mod aL (λc _ _ _ _ f=>f) (λc _ f=>f) (λc _ f=>f);have b6:aO i true F a1:=hB.bg _ _ _ _ _ A (aL.ai (S':=λb=>¬F b/\f.size<=b) λ_ _ f=>f.elim);have b7:t.af≠some b2:=λB=>by have:=C.lt B;omega
    refine Loop.rule (λm x Q=> ∃(d:Nat) (V:List Sl),x=((d:Int),())/\m=k.length-d/\d<=k.length/\Mod (λc=>t.af=some c) a1 Q/\Own fZ AQ Q t V/\iL f.size Q F t V ((k.take d).map (Ig p)++k.drop d)) ?_
     ⟨0,z,rfl,rfl,by omega,Mod.refl,b4,by simpa using b5⟩
    rintro cz m _ Q ⟨d,V,rfl,rfl,N,ay,ac,az⟩ b8;have b9:V.length=k.length:=by have:=az.len;simp at this;omega
    have aM:=ay.af b3 b7;refine ae.intro (λr=>?_) (λr=>?_)
    ·have U:d<k.length:=by simp[ac.len] at r;omega
     have Y:=A2 (l:=V) (i:=d) (by omega);have G:((k.take d).map (Ig p)++k.drop d)[d]? =some k[d]:=by rw[DE (by simp;omega)];simp;rw[GF (by omega),IS];simp[U]
     obtain⟨Z,bq,cB⟩:=az.row d _ _ Y G;refine ac.view.idx Y λcC cD ca=>?_
     refine AY.mk ca.sl ?_;refine Loop.rule (λm x a2=> ∃(aA:Sl) (H:List Pr),x=(aA,())/\a2=Q/\m=H.length/\View BR Q aA H/\(∀ c,aA.af=some c->V[d].af=some c)/\Ig p H=Ig p k[d]/\H.length<=1099511627776) ?_
      ⟨_,_,rfl,rfl,rfl,Z,λc f=>f,rfl,bq⟩
     rintro cE m _ a2 ⟨aA,H,rfl,cb,rfl,ad,a3,bz,bA⟩ cc;subst cb;refine ah.mk λcd bB=>?_
     have bC:Ig p H=H->cd (false,()) a2:=λB=>bB _ _ (ae.no rfl (by
      refine ac.view.idx Y λcF ce _=>?_
      refine ac.j8 (i:=d) (by omega) ce λcf cg a4 cG=>?_
      refine b8 (k.length-(d+1)) _ _ (by omega) ⟨d+1,_,by rw[AZ (by omega)],rfl,by omega,ay.trans a4,cg,?_⟩;have a5:iL f.size cf F t V ((k.take d).map (Ig p)++k.drop d):=az.mod a4 (λc _ _ N _=>N) (λc _ f=>f) (λc _ f=>f);refine⟨?_,λe sl l j q=>?_⟩
      ·simp[b9];omega
      ·rcases HP e d with a6|a6|a6
       ·rw[Kd (by omega)] at j;refine a5.row e sl l j ?_;rw[Fc (by simp;omega)] at q ⊢;rw[Bk,Jx (by omega)] at q ⊢;exact q
       ·subst a6;rw[HJ (by omega)] at j;cases j;rw[Fc (by simp;omega),Bk,Jx (by omega),A2 U] at q;simp at q;subst q;rw[<- bz,B];obtain⟨_,_,h⟩:=a5.row e _ _ Y G;exact⟨ad.mod a4 λc D=>(h c (a3 c D)).2.2.1,bA,λc D=>h c (a3 c D)⟩
       ·rw[Kd (by omega)] at j;refine a5.row e sl l j ?_;rw[DE (by simp;omega)] at q ⊢;simp only[BE,AH,Bm] at q ⊢;rw[<- q];congr 1;omega))
     refine ae.intro (λr=>?_) (λr=>?_)
     ·cases H with
      |nil=>have:=ad.len;simp[this] at r
      |cons o y=>
       refine ad.idx (i:=0) (x:=o) rfl λcH _ ch=>?_
       refine AJ.mk ch.pair.1 (AJ.mk (AL aM rfl) ?_);cases bD:(aQ o.key p.key||bM o.key p.key)
       ·exact bC (by simp[Ig,upto,bD])
       ·have ci:=ad.len;simp at ci bA;refine bB _ _ (ae.yes rfl ⟨⟨by omega,by show(1:Int)<=((aA.len:Nat):Int);omega⟩,cc y.length _ _ (by simp) ⟨_,y,rfl,rfl,rfl,?_,?_,?_,by omega⟩⟩)
        ·have:=ad.sub (lo:=1) (hi:=(o::y).length) (by simp) (A0 _);rw[C5,<-ad.len] at this;exact this
        ·intro c h;exact a3 c (Uz h)
        ·rw[<- bz];simp[Ig,upto,bD]
     ·have:H= []:=by
       have:=ad.len;cases H with
       |nil=>rfl
       |cons o y=>simp[this] at r
      subst this;exact bC rfl
    ·have U:d=k.length:=by simp[ac.len] at r;omega
     subst U;rw[C5,PA,AN] at az;refine AJ.mk (AL aM rfl) (AJ.mk (AB aM rfl) (Ac.mk (AB aM rfl) ?_));have cj:aO i true F Q:=hB.bg _ _ _ _ _ b6 (ay.ai λc _ h=>⟨aW c h,ai c h⟩);have ck:out[i]? =some p:=by have:=bp 0;simpa using this
     refine EL.mono (bO i p F Q ck cj) ?_;rintro _ cl ⟨g,a7,rfl,a8,a9,bE⟩;have cI:=ay.size;have cJ:=aU.size;have bF: ∀b,a7 b->R b\/f.size<=b:=λb D=>(a8 b D).elim (aV b) λcK=> .inr (by omega)
     have cm:Mod R f Q:=(aU.trans aL.mod).then (ay.ai λb _ D=> .inr (ai b D));have bH:Mod R f cl:=cm.then (a9.ai λb _ D=>aV b D);refine⟨g,rfl,ae.intro (λr=>?_) (λr=>?_)⟩
     ·have J:g=false:=by simpa using r
      subst J;exact⟨rfl,i+1,false,a7,bH,bF,bE,(λf=>by cases f),by simp at aJ;omega⟩
     ·have J:g=true:=by simpa using r
      subst J;refine aq bx.length _ _ (by simp) ⟨i+1,a7,V,_,bx,b1,rfl,λn=>?_,by simp at aJ;omega,bH,bF,bE,ac.mod a9 (λc h=>aW c h),?_,?_,by omega⟩
      ·have:=bp (n+1);rw[show i+1+n=i+(n+1) by omega,this];rfl
      ·intro c h q;rcases a8 c q with W|W
       ·exact aW c h W
       ·have:=ac.lt h;omega
      ·exact az.mod a9 (λc _ _ _ N=>N) (λc _ f=>f) (λc h q=>(a8 c q).elim id λW=>by omega)
def Sorted(l:List Pr):Prop:=l.Pairwise λa b=>aQ a.key b.key=true
def Ag(a:A2P)(l:List Pr):Option Pr:=l.find? λb=>decide (b.key=a)
theorem Ui(a:A2P):Ag a []=none:=rfl
theorem BA(a:A2P)(x:Pr)(l:List Pr):Ag a (x::l)=if x.key=a then some x else Ag a l:=by unfold Ag;rw[DO];by_cases b:x.key=a<;>simp[b]
theorem OA {b:A2P}{l:List Pr}{x:Pr}(a:Ag b l=some x):x.key=b/\x∈l:=by unfold Ag at a;exact⟨by simpa using Ix a,ID a⟩
theorem EZ {a:A2P}{l:List Pr}(b: ∀x∈l,x.key≠a):Ag a l=none:=by unfold Ag;rw[HE];simpa using b
theorem OU {a b:A2P}(c:aQ a b=true):a≠b:=by rintro rfl;rw[Bl] at c;cases c
theorem Sorted.find {l:List Pr}(s:Sorted l){x:Pr}(a:x∈l):Ag x.key l=some x:=by
 induction l with
 |nil=>cases a
 |cons d l c=>
  rw[BA];have b:=List.pairwise_cons.1 s;rcases List.mem_cons.1 a with rfl|a
  ·simp
  ·rw[if_neg (OU (b.1 x a))];exact c b.2 a
theorem Sorted.ext: ∀ {l m:List Pr},Sorted l->Sorted m->(∀ d,Ag d l=Ag d m)->l=m
 | [],[],_,_,_=>rfl
 | [],a::m,_,_,b=>by have:=b a.key;rw[BA,if_pos rfl] at this;cases this
 |x::l,[],_,_,b=>by have:=b x.key;rw[BA,if_pos rfl] at this;cases this
 |x::l,a::m,sl,p,b=>by
  have g:=List.pairwise_cons.1 sl;have h:=List.pairwise_cons.1 p;have f:x.key=a.key:=by
   have e:=b x.key;have n:=b a.key;rw[BA,if_pos rfl] at e;rw[BA a.key a m,if_pos rfl] at n;have i:=(OA e.symm).2;have j:=(OA n).2;rcases List.mem_cons.1 i with c|i
   ·rw[c]
   ·rcases List.mem_cons.1 j with c|j
    ·rw[c]
    ·have q:=h.1 x i;have o:=g.1 a j;rw[OC q] at o;cases o
  have r:x=a:=by have e:=b x.key;rw[BA,BA,if_pos rfl,if_pos f.symm] at e;exact Bs e
  subst r;rw[Sorted.ext g.2 h.2 λd=>?_];have:=b d;rw[BA,BA] at this;by_cases f:x.key=d
  ·subst f;rw[EZ λa k c=>OU (g.1 a k) c.symm,EZ λa k c=>OU (h.1 a k) c.symm]
  ·simpa [f] using this
def ins(x:Pr):List Pr->List Pr
 | []=> [x]
 |q::l=>if aQ q.key x.key then q::ins x l else if q.key=x.key then x::l else x::q::l
theorem mD(x:Pr): ∀l,Xp x l=ins x l
 | []=>rfl
 |q::l=>by
  unfold ins;cases b:aQ q.key x.key
  ·have a:gP x.key (q::l)= []:=by simp[gP,b]
   by_cases c:q.key=x.key
   ·simp[Xp,aV,a,BU,c]
   ·simp[Xp,aV,a,BU,c]
  ·have a:gP x.key (q::l)=q::gP x.key l:=by simp[gP,b]
   have d:aV x.key (q::l)=aV x.key l+1:=by simp[aV,a]
   have f:BU x.key (q::l)=BU x.key l:=by simp[BU,d]
   have e:=mD x l;unfold Xp at e ⊢;rw[d,f];have g:(if BU x.key l=true then aV x.key l+1+1 else aV x.key l+1)=(if BU x.key l=true then aV x.key l+1 else aV x.key l)+1:=by split<;>rfl
   rw[g,HS,HM,F0,F0,e];simp
theorem qe {x b:Pr}: ∀ {l:List Pr},b∈ins x l->b=x\/b∈l
 | [],a=>by simp[ins] at a;exact .inl a
 |q::l,a=>by
  unfold ins at a;split at a
  ·rcases List.mem_cons.1 a with rfl|a
   ·exact .inr (by simp)
   ·rcases qe a with a|a
    ·exact .inl a
    ·exact .inr (by simp[a])
  ·split at a
   ·rcases List.mem_cons.1 a with rfl|a
    ·exact .inl rfl
    ·exact .inr (by simp[a])
   ·rcases List.mem_cons.1 a with rfl|a
    ·exact .inl rfl
    ·exact .inr a
theorem Wn(x:Pr): ∀ {l:List Pr},Sorted l->Sorted (ins x l)
 | [],_=>Rr _ _
 |q::l,s=>by
  have b:=List.pairwise_cons.1 s;unfold ins;split
  ·rename_i d;refine List.pairwise_cons.2 ⟨λc a=>?_,Wn x b.2⟩;rcases qe a with rfl|a
   ·exact d
   ·exact b.1 c a
  ·rename_i d;split
   ·rename_i e;refine List.pairwise_cons.2 ⟨λc a=>?_,b.2⟩;have:=b.1 c a;rwa [e] at this
   ·rename_i e;have f:aQ x.key q.key=true:=by
     cases g:aQ x.key q.key
     ·exact absurd (Nk (by simpa using d) g) e
     ·rfl
    refine List.pairwise_cons.2 ⟨λc a=>?_,s⟩;rcases List.mem_cons.1 a with rfl|a
    ·exact f
    ·exact DJ f (b.1 c a)
theorem XT(x:Pr)(a:A2P): ∀ {l:List Pr},Sorted l->Ag a (ins x l)=if x.key=a then some x else Ag a l
 | [],_=>by simp[ins,BA,Ui]
 |q::l,s=>by
  have c:=List.pairwise_cons.1 s;unfold ins;split
  ·rename_i d;rw[BA,BA,XT x a c.2];by_cases b:q.key=a
   ·have e:x.key≠a:=by rw[<- b];exact λf=>OU d f.symm
    simp[b,e]
   ·simp[b]
  ·split
   ·rename_i g;rw[BA,BA,g];by_cases b:x.key=a<;>simp[b]
   ·rw[BA]
def Be(l:List Pr):Prop:= ∀x∈l,Am x=0
theorem Qa {x:Pr}{l:List Pr}(a:Am x=0):Cs x l=ins x l:=by simp[Cs,a,mD]
theorem PQ {x:Pr}{l:List Pr}(s:Sorted l):Sorted (Cs x l):=by
 by_cases a:Am x=0
 ·rw[Qa a];exact Wn x s
 ·simpa [Cs,a] using s
theorem uq {x:Pr}{l:List Pr}(g:Be l):Be (Cs x l):=by
 by_cases a:Am x=0
 ·rw[Qa a];exact λb c=>(qe c).elim (λd=>d▸a) (g b)
 ·simpa [Cs,a] using g
def BC(t l:List Pr):List Pr:=l.foldl (λt x=>Cs x t) t
theorem Qz {l:List Pr}: ∀ {t},Sorted t->Sorted (BC t l):=by
 induction l with
 |nil=>exact λs=>s
 |cons x l a=>exact λs=>a (PQ s)
theorem XG {l:List Pr}: ∀ {t},Be t->Be (BC t l):=by
 induction l with
 |nil=>exact λs=>s
 |cons x l a=>exact λs=>a (uq s)
theorem Ql {l:List Pr}: ∀ {t},(BC t l).length<=t.length+l.length:=by
 induction l with
 |nil=>exact λ{t}=>by simp[BC]
 |cons x l a=>intro t;have:=a (t:=Cs x t);have:=ANc x t;simp[BC] at *;omega
theorem AJ6 {l:List Pr}(a:A2P): ∀ {t},Sorted t->Sorted l->Be l->Ag a (BC t l)=(Ag a l).or (Ag a t):=by
 induction l with
 |nil=>intro t _ _ _;simp[BC,Ui]
 |cons x l f=>
  intro t st sl g;have d:=List.pairwise_cons.1 sl;show Ag a (BC (Cs x t) l)=_;rw[f (PQ st) d.2 (λb c=>g b (by simp[c])),Qa (g x (by simp)),XT x a st,BA];by_cases e:x.key=a
  ·subst e;rw[EZ λb c h=>OU (d.1 b c) h.symm];simp
  ·simp[e]
def Ah(a:List (List Pr)):List Pr:=a.reverse.foldl BC []
theorem Nh(l:List Pr)(a:List (List Pr)):Ah (l::a)=BC (Ah a) l:=by simp[Ah,HT]
theorem Du: ∀a,Sorted (Ah a)
 | []=>List.Pairwise.nil
 |l::a=>by rw[Nh];exact Qz (Du a)
structure bH (ls:List (List Pr)):Prop where
 sorted: ∀l∈ls,Sorted l
 aO: ∀l∈ls,Be l
def Aw(a:A2P)(b:List (List Pr)):Option Pr:=b.findSome? (Ag a)
theorem EF(a:A2P)(l:List Pr)(b:List (List Pr)):Aw a (l::b)=(Ag a l).or (Aw a b):=by unfold Aw;rw[RC];cases Ag a l<;>rfl
theorem JL(b:A2P): ∀ {a},bH a->Ag b (Ah a)=Aw b a
 | [],_=>rfl
 |l::a,c=>by
  rw[Nh,AJ6 b (Du a) (c.sorted l (by simp)) (c.aO l (by simp)),JL b ⟨λm d=>c.sorted m (by simp[d]),λm d=>c.aO m (by simp[d])⟩,EF]
theorem Uk(p:Pr)(l:List Pr):(Ig p l).Sublist l:=List.dropWhile_sublist _
theorem AJH {p q:Pr}(a:upto p q=false):aQ p.key q.key=true:=by
 unfold upto at a;rw[CP] at a;simp at a;cases b:aQ p.key q.key
 ·exact absurd (Nk a.1 b) a.2
 ·rfl
theorem AL9 {p b:Pr}(a:upto p b=true):aQ p.key b.key=false:=by
 unfold upto at a;rw[CP] at a;simp at a;rcases a with a|a
 ·exact OC a
 ·rw[a];exact Bl _
theorem ZL {p q:Pr}: ∀ {l:List Pr},Sorted l->q∈Ig p l->aQ p.key q.key=true
 | [],_,a=>by cases a
 |y::l,s,a=>by
  have b:=List.pairwise_cons.1 s;unfold Ig at a;rw[List.dropWhile_cons] at a;split at a
  ·exact ZL b.2 a
  ·rename_i d;have c:=AJH (p:=p) (q:=y) (by simpa using d);rcases List.mem_cons.1 a with rfl|a
   ·exact c
   ·exact DJ c (b.1 q a)
theorem ur {p:Pr}{a:A2P}(b:aQ p.key a=true): ∀ {l:List Pr},Ag a (Ig p l)=Ag a l
 | []=>rfl
 |y::l=>by
  unfold Ig;rw[List.dropWhile_cons];split
  ·rename_i d;have c:=AL9 d;rw[BA,if_neg (by rintro rfl;rw[b] at c;cases c)];exact ur b
  ·rfl
theorem Li.ok {a:List (List Pr)}{out:List Pr}(m:Li a out):(∀ l∈a,Sorted l)->Sorted out/\ ∀b,Ag b out=Aw b a:=by
 induction m with
 |done g=>
  rename_i a;intro _;refine⟨List.Pairwise.nil,λb=>?_⟩;have: ∀a:List (List Pr),(∀ l∈a,l= [])->Aw b a=none:=λa g=>by
   unfold Aw;rw[RE];intro l d;rw[g l d];rfl
  rw[this a g];rfl
 | @step a b p t out F C y r=>
  intro h;have G: ∀l∈a.map (Ig p),Sorted l:=λl d=>by
   obtain⟨o,s,rfl⟩:=List.mem_map.1 d;exact(h o s).sublist (Uk p o)
  obtain⟨D,E⟩:=r G;have H: ∀e∈out,aQ p.key e.key=true:=λe q=>by
   have f:=D.find q;rw[E] at f;unfold Aw at f;obtain⟨l,d,k⟩:=A0i f;obtain⟨o,s,rfl⟩:=List.mem_map.1 d;exact ZL (h o s) (OA k).2
  refine⟨List.pairwise_cons.2 ⟨H,D⟩,λc=>?_⟩;have I: ∀l∈a,∀e∈l,aQ e.key p.key=false:=λl d e q=>by
   obtain⟨i,v,j⟩:=DA d;cases l with
   |nil=>cases q
   |cons w u=>
    have f:=(C i w u (by rw[A2 v,j])).1;have z:=List.pairwise_cons.1 (h _ d);rcases List.mem_cons.1 q with rfl|q
    ·exact f
    ·cases k:aQ e.key p.key
     ·rfl
     ·have:=DJ (z.1 e q) k;rw[this] at f;cases f
  rw[BA];by_cases A:p.key=c
  ·subst A;simp only[if_true];have: ∀(a:List (List Pr)) (b:Nat),a[b]? =some (p::t)->(∀ i e u,a[i]? =some (e::u)->i<b->aQ p.key e.key=true)->(∀ l∈a,Sorted l)->Aw p.key a=some p:=by
    intro a
    induction a with
    |nil=>intro b g;simp at g
    |cons l a r=>
     intro b g y h;rw[EF];cases b with
     |zero=>simp at g;subst g;rw[BA,if_pos rfl];rfl
     |succ b=>
      have J:Ag p.key l=none:=by
       cases l with
       |nil=>rfl
       |cons w u=>
        have f:=y 0 w u rfl (by omega);have z:=List.pairwise_cons.1 (h _ (by simp:(w::u)∈(w::u)::a));refine EZ λx n j=>?_
        rcases List.mem_cons.1 n with rfl|n
        ·rw[j,Bl] at f;cases f
        ·have:=DJ f (z.1 x n);rw[j,Bl] at this;cases this
      rw[J,LO];exact r b (by simpa using g) (λi e u v M=>y (i+1) e u (by simpa using v) (by omega)) (λl d=>h l (by simp[d]))
   rw[this a b F (λi e u v=>(C i e u v).2) h]
  ·rw[if_neg A,E];unfold Aw;cases k:aQ p.key c
   ·
    have B:aQ c p.key=true:=by
     cases B:aQ c p.key
     ·exact absurd (Nk k B) A
     ·rfl
    have K:(a.map (Ig p)).findSome? (Ag c)=none:=by
     rw[RE];intro l d;obtain⟨o,s,rfl⟩:=List.mem_map.1 d;refine EZ λx n j=>?_
     have:=ZL (h o s) n;rw[j,k] at this;cases this
    have L:a.findSome? (Ag c)=none:=by
     rw[RE];intro l d;refine EZ λx n j=>?_
     have:=I l d x n;rw[j,B] at this;cases this
    rw[K,L]
   ·have: ∀a:List (List Pr),(a.map (Ig p)).findSome? (Ag c)=a.findSome? (Ag c):=λa=>by
     induction a with
     |nil=>rfl
     |cons l a r=>rw[C2,RC,RC,ur k,r]
    rw[this]
theorem UI: ∀(e:List (List Pr)),(∀ l∈e,l= [])\/ ∃(f:Nat) (p:Pr) (t:List Pr),e[f]? =some (p::t)/\ ∀(a:Nat) (c:Pr) (u:List Pr),e[a]? =some (c::u)->aQ c.key p.key=false/\(a<f->aQ p.key c.key=true)
 | []=> .inl λl d=>by cases d
 |l::e=>by
  cases l with
  |nil=>
   rcases UI e with d|⟨f,p,t,i,g⟩
   ·refine .inl λl j=>?_
    rcases List.mem_cons.1 j with rfl|j
    ·rfl
    ·exact d l j
   ·refine .inr ⟨f+1,p,t,by simpa using i,λa c u b=>?_⟩;cases a with
    |zero=>simp at b
    |succ a=>have:=g a c u (by simpa using b);exact⟨this.1,λd=>this.2 (by omega)⟩
  |cons k u=>
   rcases UI e with d|⟨f,p,t,i,g⟩
   ·refine .inr ⟨0,k,u,rfl,λa c h b=>⟨?_,λd=>by omega⟩⟩;cases a with
    |zero=>simp at b;rw[b.1];exact Bl _
    |succ a=>have:=d _ (AF (by simpa using b));cases this
   ·cases m:aQ p.key k.key
    ·refine .inr ⟨0,k,u,rfl,λa c h b=>⟨?_,λd=>by omega⟩⟩;cases a with
     |zero=>simp at b;rw[b.1];exact Bl _
     |succ a=>exact ZH m (g a c h (by simpa using b)).1
    ·refine .inr ⟨f+1,p,t,by simpa using i,λa c h b=>?_⟩;cases a with
     |zero=>simp at b;rw[<- b.1];exact⟨OC m,λ_=>m⟩
     |succ a=>have:=g a c h (by simpa using b);exact⟨this.1,λd=>this.2 (by omega)⟩
def total(a:List (List Pr)):Nat:=(a.map List.length).sum
theorem XQ(p:Pr): ∀a,total (a.map (Ig p))<=total a
 | []=>A0 _
 |l::a=>by
  have:=XQ p a;have:=(Uk p l).length_le;simp[total] at *;omega
theorem YZ {p:Pr}{t:List Pr}: ∀ {ls:List (List Pr)} {k:Nat},ls[k]? =some (p::t)->total (ls.map (Ig p))<total ls
 | [],k,a=>by simp at a
 |l::ls,0,a=>by
  simp at a;subst a;have b:=XQ p ls;have c:=(Uk p t).length_le;have d:Ig p (p::t)=Ig p t:=by simp[Ig,upto,CP]
  simp only[total,C2,GP,d,A6] at*
  omega
 |l::ls,k+1,a=>by
  have b:=YZ (p:=p) (t:=t) (ls:=ls) (k:=k) (by simpa using a);have c:=(Uk p l).length_le;simp only[total,C2,GP] at*
  omega
theorem AEb(a:List (List Pr)): ∃out,Li a out/\out.length<=total a:=by
 generalize h:total a=b
 induction b using Nat.strongRecOn generalizing a with
 |_ b d=>
  rcases UI a with e|⟨i,p,t,c,f⟩
  ·exact⟨[],.done e,by simp⟩
  ·have j:=YZ c;obtain⟨out,g,k⟩:=d _ (by omega) (a.map (Ig p)) rfl;exact⟨p::out,.step c f g,by simp;omega⟩
def LV(b:aa)(s:Sl)(c:List (List Pr)):Prop:=
 ∃a,View fZ b s a/\a.length=c.length/\ ∀(i:Nat) (sl:Sl) (l:List Pr),a[i]? =some sl->c[i]? =some l->View BR b sl l
def LA(d:Nat->Prop)(a:aa)(s:Sl)(e:List (List Pr)):Prop:=
 ∃b,View fZ a s b/\(∀ c,s.af=some c->c<a.size/\ ¬d c)/\b.length=e.length/\ ∀(i:Nat) (sl:Sl) (l:List Pr),b[i]? =some sl->e[i]? =some l->View BR a sl l/\ ∀c,sl.af=some c->c<a.size/\ ¬d c
theorem LV.ext {a b:aa}{s:Sl}{c:List (List Pr)}(v:LV a s c)(x:Ext a b):LV b s c:=by obtain⟨d,v,e,f⟩:=v;exact⟨d,v.ext x,e,λi sl l g h=>(f i sl l g h).ext x⟩
theorem LA.mod {f j:Nat->Prop}{k:Nat->Prop}{e m:aa}{s:Sl}{n:List (List Pr)}(v:LA f e s n)(x:Mod k e m)(o: ∀c,c<e.size->k c->f c)(hX: ∀c,c<e.size->j c->f c):LA j m s n:=by obtain⟨p,v,b,q,r⟩:=v;have:=x.size;refine⟨p,v.mod x λc a g=>(b c a).2 (o c (b c a).1 g),λc a=>⟨by have:=(b c a).1;omega,λh=>(b c a).2 (hX c (b c a).1 h)⟩,q,λi sl l t u=>?_⟩;obtain⟨v1,d⟩:=r i sl l t u;exact⟨v1.mod x λc a g=>(d c a).2 (o c (d c a).1 g),λc a=>⟨by have:=(d c a).1;omega,λh=>(d c a).2 (hX c (d c a).1 h)⟩⟩
theorem LA.ext {b:Nat->Prop}{a c:aa}{s:Sl}{d:List (List Pr)}(v:LA b a s d)(x:Ext a c):LA b c s d:=v.mod x (λ_ _ a=>a.elim) λ_ _ a=>a
theorem rS {t l:List Pr}{a:Nat}{x:Pr}(b:l[a]? =some x):BC t (l.take (a+1))=Cs x (BC t (l.take a)):=by rw[AD,b];simp only[BC,HT,CN,HU,MY]
theorem TJ: ∀a,(Ah a).length<=total a
 | []=>A0 _
 |l::a=>by
  rw[Nh];have:=TJ a;have:=Ql (l:=l) (t:=Ah a);simp[total] at *;omega
theorem Xd: ∀a,Be (Ah a)
 | []=>λ_ b=>by cases b
 |l::a=>by rw[Nh];exact XG (Xd a)
theorem AJY(l:List Pr)(a:List (List Pr)):total (l::a)=l.length+total a:=by simp[total]
def rU(f:ak)(d:Nat->Prop)(a:aa)(s:Sl)(e:List (List Pr)):Prop:=
 ∃b,View jw a s b/\(∀ c,s.af=some c->c<a.size/\ ¬d c)/\b.length=e.length/\ ∀(i:Nat) (v:gR) (l:List Pr),b[i]? =some v->e[i]? =some l->(v.v= .nilFunc/\l= [])\/(EJ f P v.v (λc=>c<a.size/\ ¬d c) a l/\l.length<=1099511627776)
end Go.Lf.G.M
namespace Go.Lf
open G
theorem EJ.later {f:ak}{d:Nat->Prop}{fv:J0}{b e:aa}{l:List Pr}(h:EJ f P fv (λc=>c<b.size/\ ¬d c) b l){g:Nat->Prop}(x:Mod g b e)(i: ∀c,c<b.size->g c->d c):EJ f P fv (λc=>c<e.size/\ ¬d c) e l:=
 h.ai (λc a=>⟨by have:=x.size;omega,a.2⟩) (λc a=>a.1) λc a=>x.get c a.1 λj=>a.2 (i c a.1 j)
end Go.Lf
namespace Go.Lf.G.M
open Go Go.Lf Go.Lf.G
theorem rL {p:ak}{k:Nat->Prop}{a:aa}{s:Sl}{ls:List (List Pr)}{x:A2O}(G:rU p k a s ls)(hX: ∀c,k c->c<a.size)(t:ls.length<=1099511627776)(u:bH ls)
  (y: ∀fv n,EJ p P fv (λc=>c<n.size/\ ¬k c) n (Ah ls)->Ext a n->n.size=a.size+1->x fv n):AA p P PH #[J4 s.p s.len s.cap] a x:=by
 obtain⟨q,v,z,w,A⟩:=G;refine AGM ?_;unfold tx;refine al.mk λg _ B r C=>?_
 have H: ∃os:List (Option (List Pr)),os.length=q.length/\(∀ (i:Nat) (v:gR),q[i]? =some v->(v.v= .nilFunc/\os[i]? =some none)\/ ∃l,os[i]? =some (some l)/\EJ p P v.v (λc=>c<a.size/\ ¬k c) a l/\l.length<=1099511627776)/\
   (∀ l,l∈os.filterMap id->l∈ls)/\ ∀b,Aw b (os.filterMap id)=Aw b ls:=by
  clear v hX t u y B r C z
  induction q generalizing ls with
  |nil=>
   have:ls= []:=CD w.symm;subst this;exact⟨[],rfl,λi v a=>by simp at a,λl a=>by simp at a,λb=>rfl⟩
  |cons v q I=>
   cases ls with
   |nil=>simp at w
   |cons l ls=>
    obtain⟨os,g,h,D,E⟩:=I (ls:=ls) (by simpa using w) (λi v l g h=>A (i+1) v l (by simpa using g) (by simpa using h));rcases A 0 v l rfl rfl with⟨j,o⟩|⟨j,o⟩
    ·refine⟨none::os,by simp[g],λi v e=>?_,λm d=>?_,λb=>?_⟩
     ·cases i with
      |zero=>simp at e;subst e;exact .inl ⟨j,rfl⟩
      |succ i=>exact h i v (by simpa using e)
     ·simp at d;exact An _ (D m (by simpa using d))
     ·subst o;rw[EF];simpa [Ui] using E b
    ·refine⟨some l::os,by simp[g],λi v e=>?_,λm d=>?_,λb=>?_⟩
     ·cases i with
      |zero=>simp at e;subst e;exact .inr ⟨l,rfl,j,o⟩
      |succ i=>exact h i v (by simpa using e)
     ·simp at d;rcases d with rfl|d
      ·simp
      ·exact An _ (D m (by simpa using d))
     ·rw[EF,Zs];simp only[id];rw[EF,E b]
 obtain⟨os,J,K,L,M⟩:=H;obtain⟨out,d,_⟩:=AEb (os.filterMap id);have N:out=Ah ls:=by
  have F:=d.ok λl t=>u.sorted l (L l t)
  exact F.1.ext (Du ls) λb=>by rw[F.2 b,M b,JL b u]
 subst N;refine y _ g ((AQr (S:=λc=>c<a.size/\ ¬k c) B (v.ext r) (by omega) J (λi v e=>?_) d (λc f=>by omega)).ai ?_ (λc f=>f.1) (λc _=>rfl)) r C
 ·rcases K i v e with j|⟨l,j,o,O⟩
  ·exact .inl j
  ·exact .inr ⟨l,j,o.ai (λc f=>f) (λc f=>by omega) (λc f=>r.get c f.1 (λa=>a)),O⟩
 ·rintro c (f|⟨g,h⟩)
  ·exact⟨by omega,f.2⟩
  ·refine⟨g,?_⟩;rcases h with rfl|h
   ·intro a;have:=hX _ a;omega
   ·exact(z c h).2
theorem LA.sub {e:Nat->Prop}{f:aa}{s:Sl}{b:List (List Pr)}(v:LA e f s b){lo hi:Nat}(g:lo<=hi)(p:hi<=b.length):LA e f ⟨Ay s.p s.cap lo 1,hi-lo,s.cap-lo⟩ ((b.take hi).drop lo):=by
 obtain⟨h,v,j,k,m⟩:=v;refine⟨(h.take hi).drop lo,v.sub g (by omega),λc n=>j c (Uz n),by simp[k],λi sl l a d=>?_⟩;rw[Bm,E0] at a d;split at a
 ·rename_i o;rw[if_pos o] at d;exact m _ _ _ a d
 ·cases a
theorem P6(a:A2P)(b c:List (List Pr)):Aw a (b++c)=(Aw a b).or (Aw a c):=by unfold Aw;rw[List.findSome?_append]
theorem Ns(a:A2P)(l m:List Pr):Ag a (l++m)=(Ag a l).or (Ag a m):=by unfold Ag;rw[List.find?_append]
structure DC where
 af:Nat
 pr:Pr
 ht:Nat
def cR(nx:Nat->Q2):List J0:=(List.range 12).map λi=>J5 (nx i)
def FC(p:Pr)(nx:Nat->Q2):Array J0:=(([J7 p.key,J7 p.val,J3 p.gone]:List J0)++cR nx).toArray
def Dc(nx:Nat->Q2)(a b:Int):Array J0:=(([J7 ⟨#[]⟩,J7 ⟨#[]⟩,J3 false]:List J0)++cR nx++([J6 J9 a,J6 J9 b]:List J0)).toArray
theorem BO(nx:Nat->Q2):(cR nx).length=12:=by simp[cR]
theorem TQ {nx:Nat->Q2}{i:Nat}(a:i<12):(cR nx)[i]? =some (J5 (nx i)):=by simp[cR,a]
theorem qc {nx:Nat->Q2}{i:Nat}(v:Q2):(cR nx).set i (J5 v)=cR (λa=>if a=i then v else nx a):=by
 refine List.ext_getElem? λa=>?_
 by_cases b:a<12
 ·rw[My,TQ b,TQ b,BO];by_cases c:i=a
  ·subst c;simp[b]
  ·simp[c,Ne.symm c]
 ·rw[LR (by simp[BO];omega),LR (by simp[BO];omega)]
theorem ANe {p:Pr}{nx:Nat->Q2}{i:Nat}(a:i<12):(FC p nx)[3+i]? =some (J5 (nx i)):=by simp only[FC,Mz];rw[DE (by simp)];simpa using TQ a
theorem AOB {nx:Nat->Q2}{a b:Int}{i:Nat}(c:i<12):(Dc nx a b)[3+i]? =some (J5 (nx i)):=by simp only[Dc,Mz];rw[A4,DE (by simp),Fc (by simp[BO];omega)];simpa using TQ c
theorem lB {nx:Nat->Q2}{a b:Int}:(Dc nx a b)[15]? =some (J6 J9 a)/\(Dc nx a b)[16]? =some (J6 J9 b):=by
 simp only[Dc,Mz];constructor
 ·rw[DE (by simp[BO])];simp[BO]
 ·rw[DE (by simp[BO])];simp[BO]
theorem Qv {p:Pr}{nx:Nat->Q2}:(FC p nx).size=15:=by simp[FC,BO]
theorem cU {nx:Nat->Q2}{a b:Int}:(Dc nx a b).size=17:=by simp[Dc,BO]
theorem ui {p:Pr}{nx:Nat->Q2}{i:Nat}(v:Q2):(FC p nx).setIfInBounds (3+i) (J5 v)=FC p (λa=>if a=i then v else nx a):=by apply Array.toList_inj.1;rw[Fm];simp only[FC,MA];rw[HI _ _ (by simp),<-qc v];simp
theorem AOg {nx:Nat->Q2}{a b:Int}{i:Nat}(d:i<12)(v:Q2):(Dc nx a b).setIfInBounds (3+i) (J5 v)=Dc (λc=>if c=i then v else nx c) a b:=by apply Array.toList_inj.1;rw[Fm];simp only[Dc,MA];rw[A4,HI _ _ (by simp),List.set_append_left _ _ (by simp[BO];omega),<-qc v];simp
theorem AMC {nx:Nat->Q2}{c a b:Int}:(Dc nx c a).setIfInBounds 15 (J6 J9 b)=Dc nx b a:=by apply Array.toList_inj.1;rw[Fm];simp only[Dc,MA];rw[HI _ _ (by simp[BO])];simp[BO]
theorem uj {nx:Nat->Q2}{a c b:Int}:(Dc nx a c).setIfInBounds 16 (J6 J9 b)=Dc nx a b:=by apply Array.toList_inj.1;rw[Fm];simp only[Dc,MA];rw[HI _ _ (by simp[BO])];simp[BO]
theorem Ce {a:aa}{b i:Nat}{l:Nat->Q2}{T:Q7}{fr:Nat×Nat}(c:a[b]? =some (J2 (cR l).toArray T fr))(d:i<12):ag a ⟨b,i,none⟩=some (J5 (l i)):=by rw[Ha c,Mz];exact TQ d
def addrAt(t:Nat)(ns:List DC)(p:Nat):Q6:=match p with|0=>⟨t,0,none⟩|p+1=>match ns[p]? with|some x=>⟨x.af,0,none⟩|none=>⟨t,0,none⟩
def SX(ns:List DC)(p:Nat):Nat:=match p with|0=>12|p+1=>match ns[p]? with|some x=>x.ht|none=>0
def Cw(i:Nat)(l:List DC):Q2:=(l.find? λx=>decide (i<x.ht)).map λx=>⟨x.af,0,none⟩
def cQ(t:Nat)(ns:List DC)(b:Nat):Prop:=b=t\/ ∃x∈ns,x.af=b
structure Lay (h:aa) (t:Nat) (ns:List DC) (nx:Nat->Nat->Q2) (n sz:Int):Prop where
 head:h[t]? =some (J2 (Dc (nx 0) n sz) ux (0,0))
 node: ∀(j:Nat) (x:DC),ns[j]? =some x->h[x.af]? =some (J2 (FC x.pr (nx (j+1))) RB (0,0))/\x.af≠t
 apart:ns.Pairwise λx y=>x.af≠y.af
structure jW (ns:List DC) (nx:Nat->Nat->Q2):Prop where
 link: ∀p i,p<=ns.length->i<12->i<SX ns p->nx p i=Cw i (ns.drop p)
 ht: ∀x∈ns,1<=x.ht/\x.ht<=12
theorem Lay.mod {c d:aa}{t:Nat}{ns:List DC}{nx:Nat->Nat->Q2}{e f:Int}{g:Nat->Prop}(l:Lay c t ns nx e f)(m:Mod g c d)(h: ∀b,cQ t ns b-> ¬g b):Lay d t ns nx e f:=
 ⟨m.af l.head (h _ (.inl rfl)),λi x a=>⟨m.af (l.node i x a).1 (h _ (.inr ⟨x,AF a,rfl⟩)),(l.node i x a).2⟩,l.apart⟩
theorem Lay.ext {a b:aa}{t:Nat}{ns:List DC}{nx:Nat->Nat->Q2}{c d:Int}(l:Lay a t ns nx c d)(m:Ext a b):Lay b t ns nx c d:=l.mod m λ_ _ a=>a
theorem Lay.lt {a:aa}{t:Nat}{ns:List DC}{nx:Nat->Nat->Q2}{c d:Int}(l:Lay a t ns nx c d){b:Nat}(e:cQ t ns b):b<a.size:=by
 rcases e with rfl|⟨x,f,rfl⟩
 ·exact Af l.head
 ·obtain⟨g,h,i⟩:=DA f;exact Af (l.node g x (by rw[A2 h,i])).1
theorem Lay.next {a:aa}{t:Nat}{ns:List DC}{nx:Nat->Nat->Q2}{d e:Int}(l:Lay a t ns nx d e){p i:Nat}(g:p<=ns.length)(b:i<12):ag a (((addrAt t ns p).add 3).add (i*1))=some (J5 (nx p i)):=by
 rw[add_add,By];cases p with
 |zero=>show ag a ((⟨t,0,none⟩:Q6).add (3+i))=_;exact AB l.head (AOB b)
 |succ p=>
  have c:=A2 (l:=ns) (i:=p) (by omega);have f:addrAt t ns (p+1)=⟨ns[p].af,0,none⟩:=by simp[addrAt,c]
  rw[f];exact AB (l.node p _ c).1 (ANe b)
theorem Lay.pair {a:aa}{t:Nat}{ns:List DC}{nx:Nat->Nat->Q2}{d e:Int}(l:Lay a t ns nx d e){c:Nat}{x:DC}(f:ns[c]? =some x):
  ag a ⟨x.af,0,none⟩=some (J7 x.pr.key)/\ag a ((⟨x.af,0,none⟩:Q6).add 1)=some (J7 x.pr.val)/\ag a ((⟨x.af,0,none⟩:Q6).add 2)=some (J3 x.pr.gone):=by
 have b:=(l.node c x f).1;exact⟨AL b rfl,AB b rfl,AB b rfl⟩
theorem AGg {i:Nat}{l:List DC}{a:Q6}(b:Cw i l=some a): ∃e x,l[e]? =some x/\a=⟨x.af,0,none⟩/\i<x.ht/\ ∀(c:Nat) (d:DC),c<e->l[c]? =some d->d.ht<=i:=by
 induction l with
 |nil=>simp[Cw] at b
 |cons x l h=>
  unfold Cw at b;rw[DO] at b;by_cases f:i<x.ht
  ·simp[f] at b;exact⟨0,x,rfl,b.symm,f,λc d j=>by omega⟩
  ·simp[f] at b;obtain⟨e,d,k,m,n,o⟩:=h (by simpa [Cw] using b);refine⟨e+1,d,by simpa using k,m,n,λc z j g=>?_⟩;cases c with
   |zero=>simp at g;subst g;omega
   |succ c=>exact o c z (by omega) (by simpa using g)
theorem XZ {i:Nat}{l:List DC}(a:Cw i l=none): ∀x∈l,x.ht<=i:=by intro x b;simp[Cw] at a;exact a x b
theorem AF2 {i:Nat}{l:List DC}{k:Nat}(c:k<=l.length)(d: ∀(a:Nat) (b:DC),a<k->l[a]? =some b->b.ht<=i):Cw i l=Cw i (l.drop k):=by
 induction k generalizing l with
 |zero=>simp
 |succ k e=>
  cases l with
  |nil=>simp at c
  |cons x l=>
   have f:=d 0 x (by omega) rfl;rw[HM,<-e (by simpa using c) λa b h g=>d (a+1) b (by omega) (by simpa using g)];unfold Cw;rw[DO];simp[Nat.not_lt.2 f]
abbrev bZ(ns:List DC):List Pr:=ns.map (·.pr)
theorem oK {key:A2P}: ∀ {l:List Pr},Sorted l-> ∀ {j:Nat} {x:Pr},l[j]? =some x->(j<aV key l↔aQ x.key key=true)
 | [],_,j,x,a=>by simp at a
 |y::l,s,j,x,a=>by
  have d:=List.pairwise_cons.1 s;by_cases b:aQ y.key key=true
  ·have c:aV key (y::l)=aV key l+1:=by simp[aV,gP,b]
   rw[c];cases j with
   |zero=>simp at a;subst a;simp[b]
   |succ j=>
    have:=oK (key:=key) d.2 (j:=j) (x:=x) (by simpa using a);rw[<- this];omega
  ·have c:aV key (y::l)=0:=by simp[aV,gP,b]
   rw[c];cases j with
   |zero=>simp at a;subst a;simp[b]
   |succ j=>
    have f:x∈l:=AF (by simpa using a);have g:=d.1 x f;constructor
    ·intro e;omega
    ·intro e;exact absurd (DJ g e) b
structure Us (ns:List DC) (key:A2P) (i p:Nat):Prop where
 le:p<=aV key (bZ ns)
 ht:i<SX ns p
 last: ∀(j:Nat) (y:DC),p<=j->j<aV key (bZ ns)->ns[j]? =some y->y.ht<=i
theorem Xw(key:A2P)(ns:List DC):aV key (bZ ns)<=ns.length:=by have:=mz key (bZ ns);simpa using this
theorem Hw {a:Array J0}(l:Nat->Q2)(c:a=(cR l).toArray)(i:Nat)(v:Q2):a.setIfInBounds i (J5 v)=(cR (λb=>if b=i then v else l b)).toArray:=by subst c;apply Array.toList_inj.1;rw[Fm];exact qc v
theorem AMH {a:Nat}(b:a<100):J8 J9 (((a+1:Nat):Int)-(1:Int))=(a:Int):=by rw[show(((a+1:Nat):Int)-1)=(a:Int) by omega];exact Fu (by omega)
set_option maxHeartbeats 400000 in
theorem Zm {ap:ak}{h:aa}{t:Nat}{ns:List DC}{nx:Nat->Nat->Q2}{aq ar:Int}{key:A2P}{H:A2O}(L:Lay h t ns nx aq ar)(K:jW ns nx)(s:Sorted (bZ ns))
  (au: ∀(b:Nat->Nat) I,(∀ i,i<12->Us ns key i (b i))->Ext h I->H (.agg #[J5 (some (addrAt t ns (b 0))),J5 (some (addrAt t ns (b 1))),J5 (some (addrAt t ns (b 2))),J5 (some (addrAt t ns (b 3))),J5 (some (addrAt t ns (b 4))),J5 (some (addrAt t ns (b 5))),J5 (some (addrAt t ns (b 6))),J5 (some (addrAt t ns (b 7))),J5 (some (addrAt t ns (b 8))),J5 (some (addrAt t ns (b 9))),J5 (some (addrAt t ns (b 10))),J5 (some (addrAt t ns (b 11)))]) I):
  AA ap P Fs #[J5 (some ⟨t,0,none⟩),J7 key] h H:=by
 refine VG ?_;unfold OY;refine al.mk λk _ av J a2=>al.mk λo _ aw M a3=>?_
 have ax:Ext h o:=J.trans M;have a4:=Xw key ns;refine Loop.rule (λm x q=> ∃(p:Nat) (b:Nat->Nat) (l:Nat->Q2),x=(some (addrAt t ns p),(m:Int)-1,())/\m<=12/\Mod (λc=>c=k.size) o q/\p<=aV key (bZ ns)/\(m=0\/m<=SX ns p)/\
   q[k.size]? =some (J2 (cR l).toArray Dx (0,0))/\(∀ i,i<12->m<=i->Us ns key i (b i)/\l i=some (addrAt t ns (b i)))) ?_
  (m:=12) ⟨0,λ_=>0,λ_=>none,rfl,by omega,Mod.refl,by omega,.inr (by simp[SX]),aw,λi k o=>by omega⟩
 rintro a5 m _ q ⟨p,b,l,rfl,a6,C,w,y,e,d⟩ ay;have N:Ext h q:=ax.then (C.ai λc _ v=> .inr (by have:=J.size;omega));refine ae.intro (λv=>?_) (λv=>?_)
 ·cases m with
  |zero=>simp at v
  |succ i=>
   have z:i<12:=by omega
   have az:(((i+1:Nat):Int)-1)=(i:Int):=by omega
   rw[az];have O:=L.ext N;refine Loop.rule (λm x A=> ∃p:Nat,x=(some (addrAt t ns p),())/\A=q/\m=aV key (bZ ns)-p/\p<=aV key (bZ ns)/\i<SX ns p) ?_ ⟨p,rfl,rfl,rfl,w,by rcases y with h|h<;>omega⟩;rintro a7 m _ A ⟨p,rfl,aA,rfl,w,y⟩ aC;subst aA;have D:nx p i=Cw i (ns.drop p):=K.link p i (by omega) z y;have ag:=O.next (p:=p) (i:=i) (by omega) z;refine ah.mk λaD Q=>?_
   have B:(0:Int)<=(i:Int)/\(i:Int)<(12:Int):=⟨by omega,by omega⟩;have R:(∀ (j:Nat) (r:DC),p<=j->j<aV key (bZ ns)->ns[j]? =some r->r.ht<=i)->aD (false,()) A:=λaE=>Q _ _ (ae.no rfl (by
    refine⟨B,?_⟩;show ab A ((⟨k.size,0,none⟩:Q6).add (i*1)) _ _;rw[BZ,AK,By];refine ab.mk e (by simp[BO];omega) λa8 S E a9=>?_
    rw[Hw l rfl] at S;have aF:Us ns key i p:=⟨w,y,aE⟩;refine ay i _ _ (by omega) ⟨p,λf=>if f=i then p else b f,_,?_,by omega,C.trans E,w,.inr (by omega),S,λf n ba=>?_⟩
    ·cases i with
     |zero=>rfl
     |succ i=>rw[AMH (by omega),show(((i+1:Nat):Int)-1)=(i:Int) by omega]
    ·by_cases T:f=i
     ·subst T;simp[aF]
     ·simp[T];exact d f n (by omega)))
   refine⟨B,?_⟩;rw[As];refine Ab.mk ag ?_;cases u:nx p i with
   |none=>
    refine ae.no rfl ?_;refine R λj r aG aH F=>?_
    rw[D] at u;refine XZ u r ?_;rw[List.mem_drop_iff_getElem];have:=List.getElem?_eq_some_iff.1 F;exact⟨j-p,by omega,by rw[<- this.2];congr 1;omega⟩
   |some a=>
    refine ae.yes rfl ?_;refine⟨B,Ab.mk (u▸ag) ?_⟩;rw[D] at u;obtain⟨f,x,n,rfl,aI,aJ⟩:=AGg u;rw[Bm] at n;refine AJ.mk (O.pair n).1 ?_;have aK:(bZ ns)[p+f]? =some x.pr:=by simp[bZ,n]
    have U:=oK (key:=key) s aK;cases G:aQ x.pr.key key
    ·refine R λj r aG aH F=>?_
     have bb:j<p+f:=by
      rcases G0 j (p+f) with k|k
      ·exact k
      ·have o:p+f<aV key (bZ ns):=by omega
       rw[U.1 o] at G;cases G
     exact aJ (j-p) r (by omega) (by rw[Bm];rw[<- F];congr 1;omega)
    ·have o:=U.2 G;refine Q _ _ (ae.yes rfl ?_);refine⟨B,Ab.mk (u▸D▸ag) ?_⟩;have aL:addrAt t ns (p+f+1)=⟨x.af,0,none⟩:=by simp[addrAt,n]
     refine aC (aV key (bZ ns)-(p+f+1)) _ _ (by omega) ⟨p+f+1,by rw[aL],rfl,rfl,by omega,by simp[SX,n,aI]⟩
 ·have aM:m=0:=by simp at v;omega
  subst aM;have aN:q[h.size]? =some (J2 (cR (λ_=>none)).toArray Dx (0,0)):=C.af (M.af av (by simp)) (by omega);simp only[BZ,AK];refine Ab.mk (Ce e (i:=0) (by omega)) ?_;refine Ab.mk (Ce e (i:=1) (by omega)) ?_;refine Ab.mk (Ce e (i:=2) (by omega)) ?_;refine Ab.mk (Ce e (i:=3) (by omega)) ?_;refine Ab.mk (Ce e (i:=4) (by omega)) ?_;refine Ab.mk (Ce e (i:=5) (by omega)) ?_;refine Ab.mk (Ce e (i:=6) (by omega)) ?_;refine Ab.mk (Ce e (i:=7) (by omega)) ?_;refine Ab.mk (Ce e (i:=8) (by omega)) ?_;refine Ab.mk (Ce e (i:=9) (by omega)) ?_;refine Ab.mk (Ce e (i:=10) (by omega)) ?_;refine Ab.mk (Ce e (i:=11) (by omega)) ?_;refine ab.mk aN (by simp[BO]) λbc V aO bd=>?_
  rw[Hw _ rfl] at V;refine ab.mk V (by simp[BO]) λbe W aP bf=>?_
  rw[Hw _ rfl] at W;refine ab.mk W (by simp[BO]) λbg X aR bh=>?_
  rw[Hw _ rfl] at X;refine ab.mk X (by simp[BO]) λbi Y aS bj=>?_
  rw[Hw _ rfl] at Y;refine ab.mk Y (by simp[BO]) λbk Z aT bm=>?_
  rw[Hw _ rfl] at Z;refine ab.mk Z (by simp[BO]) λbn ac aU bo=>?_
  rw[Hw _ rfl] at ac;refine ab.mk ac (by simp[BO]) λbp ad E bq=>?_
  rw[Hw _ rfl] at ad;refine ab.mk ad (by simp[BO]) λbr af aW bs=>?_
  rw[Hw _ rfl] at af;refine ab.mk af (by simp[BO]) λbt ai aX bu=>?_
  rw[Hw _ rfl] at ai;refine ab.mk ai (by simp[BO]) λbv aj aY bw=>?_
  rw[Hw _ rfl] at aj;refine ab.mk aj (by simp[BO]) λbx am aZ bz=>?_
  rw[Hw _ rfl] at am;refine ab.mk am (by simp[BO]) λan ao a0 bA=>?_
  rw[Hw _ rfl] at ao;have g:an[h.size]? =some (J2 (cR l).toArray Dx (0,0)):=by rw[ao];congr 3
  refine Ab.mk (Ce g (i:=0) (by omega)) ?_;refine Ab.mk (Ce g (i:=1) (by omega)) ?_;refine Ab.mk (Ce g (i:=2) (by omega)) ?_;refine Ab.mk (Ce g (i:=3) (by omega)) ?_;refine Ab.mk (Ce g (i:=4) (by omega)) ?_;refine Ab.mk (Ce g (i:=5) (by omega)) ?_;refine Ab.mk (Ce g (i:=6) (by omega)) ?_;refine Ab.mk (Ce g (i:=7) (by omega)) ?_;refine Ab.mk (Ce g (i:=8) (by omega)) ?_;refine Ab.mk (Ce g (i:=9) (by omega)) ?_;refine Ab.mk (Ce g (i:=10) (by omega)) ?_;refine Ab.mk (Ce g (i:=11) (by omega)) ?_;have a1:=((((((((((aO.trans aP).trans aR).trans aS).trans aT).trans aU).trans E).trans aW).trans aX).trans aY).trans aZ).trans a0;have:=au b an (λi z=>(d i z (by omega)).1) (N.then (a1.ai λc _ v=> .inr (by omega)));rw[(d 0 (by omega) (by omega)).2,(d 1 (by omega) (by omega)).2,(d 2 (by omega) (by omega)).2,(d 3 (by omega) (by omega)).2,(d 4 (by omega) (by omega)).2,(d 5 (by omega) (by omega)).2,(d 6 (by omega) (by omega)).2,(d 7 (by omega) (by omega)).2,(d 8 (by omega) (by omega)).2,(d 9 (by omega) (by omega)).2,(d 10 (by omega) (by omega)).2,(d 11 (by omega) (by omega)).2];exact this
end Go.Lf.G.M
