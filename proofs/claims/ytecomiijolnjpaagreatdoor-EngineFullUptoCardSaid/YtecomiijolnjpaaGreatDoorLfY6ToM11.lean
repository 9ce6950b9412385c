/-
 Contract: a table is built.
-/
import Derived.Test.YtecomiijolnjpaaGreatDoorLfU2ToY5
import Derived.Shelf.SlGeneric
import Derived.Shelf.SlIter.Nil
import Derived.Shelf.SlIter.Sorted
import Derived.Shelf.SortM.Plain
import Derived.Shelf.SortM.SortNone
import Derived.Test.YtecomiijolnjpaaGreatDoorProg
import Derived.Test.YtecomiijolnjpaaGreatDoorLfG1
import Derived.Laws.StructEq
import Derived.ChangeKeysEq
set_option maxRecDepth 100000
set_option linter.unusedVariables false
set_option linter.unusedSimpArgs false
open Go.IntKind renaming i64→J9,wrap→J8
open Go.Value renaming string→J7,int→J6,pointer→J5,slice→J4,bool→J3,tuple→J1
open Go.Obj renaming cells→J2
open Go renaming Value→J0,Addr→Q6,TypeId→Q7,FuncId→Q8,Program→Q1
open Go.Addr renaming add→Q9,mk→Q5
namespace Go.Lf.G
open Go
def IZ(l:List Pr):List A2O:=l.map (·.key)
def iR(l:List Pr):Nat:=min (l.length+8) 8192
def ME(l:List Pr):List UInt8:=jB (IZ l) (iR l)
def JM(l:List Pr):List UInt8:=aH (aR l (ME l))
def GZ(a:List A2O):List UInt8:=a.flatMap λb=>BR (bl b)
structure Gg (l:List Pr):Prop where
 ne:l≠ []
 ok: ∀p∈l,Kj p
 inc:l.Pairwise λp q=>aN p.key q.key=true
 many:l.length<=100000
theorem Gg.eG {l:List Pr}(T:Gg l):gM (JM l) l (ME l):=by
 have a:1<=iR l/\iR l<=8192:=by unfold iR;omega
 refine⟨rfl,T.ne,T.ok,T.inc,?_,λp b=>ANR a.1 a.2 (N3 b),T.many⟩;unfold ME;rw[AN4 a.1];exact a
theorem Tm: ∀ {rs:List (List UInt8)},(∀ r∈rs,r.length<=1048576)->(aH rs).length<=rs.length*1048590
 | [],_=>by simp
 |r::rs,a=>by
  have d:=(I6 (a r AN)).2;have e:=a r AN;have b:=Tm (rs:=rs) λx c=>a x (An _ c)
  simp only[aH,AH,A1,A5] at b ⊢;omega
theorem Px: ∀ {ks:List A2O},(∀ k∈ks,k.size<=64)->(GZ ks).length<=ks.length*74
 | [],_=>by simp[GZ]
 |k::ks,a=>by
  have d:=a k AN;have e:=AV (n:=(bl k).length) (by rw[BA];omega);have b:=Px (ks:=ks) λx c=>a x (An _ c)
  have f:=BA k;simp only[GZ,AH,A1,A5,BR] at b ⊢;omega
theorem OH {l:List Pr}(b: ∀p∈l,Kj p): ∀a∈CK l,a.size<=64:=λa c=>by
 obtain⟨i,_,rfl⟩:=List.mem_map.1 c;unfold IY;split
 ·rename_i p d;exact(b p (AK d)).bH
 ·exact As _
theorem Pw {l:List Pr}(a: ∀p∈l,Kj p){i:Nat}(b:i<Bo l):(BL (CB l i)).length<=8*8276:=by
 have e:=Kw (l:=CB l i) λp c=>a p (Ow c)
 have d:=(Pq b).2.1;have:(CB l i).length*8276<=8*8276:=AS _ d;omega
theorem wB {l:List Pr}(a: ∀p∈l,Kj p): ∀r∈(KE l).map BL,r.length<=1048576:=λr c=>by
 obtain⟨b,d,rfl⟩:=List.mem_map.1 c;obtain⟨i,e,rfl⟩:=List.mem_map.1 d;have:=Pw a (List.mem_range.1 e);omega
theorem AM6 {l:List Pr}{i:Nat}(a:i<Bo l):((KE l).map BL)[i]? =some (BL (CB l i)):=by simp[KE,a]
theorem QW {l:List Pr}{i:Nat}(a:i<Bo l):(CK l)[i]? =some (IY l (8*i)):=by simp[CK,a]
theorem Sd {a:Type}{l:List a}{i:Nat}{x:a}(b:l[i]? =some x):l.take (i+1)=l.take i++ [x]:=by rw[AD,b];rfl
theorem wC(a b:List Pr):IZ (a++b)=IZ a++IZ b:=by simp[IZ]
theorem wE {l:List Pr}(b:l.Pairwise λp a=>aN p.key a.key=true){i:Nat}{p a:Pr}(c:l[i]? =some p)(d:l[i+1]? =some a):aN p.key a.key=true:=by obtain⟨e,rfl⟩:=List.getElem?_eq_some_iff.1 c;obtain⟨f,rfl⟩:=List.getElem?_eq_some_iff.1 d;exact List.pairwise_iff_getElem.1 b _ _ e f (by omega)
theorem AJP(a:Nat)(b:a<=100000):(if(8192:Int)<(J8 J9 (((a:Nat):Int)+(8:Int))) then(8192:Int) else(J8 J9 (((a:Nat):Int)+(8:Int))))=((min (a+8) 8192:Nat):Int):=by rw[wrap_i64 (by omega) (by omega)];split<;>omega
theorem ANF {bA:al}{e:aa}{s:Sl}{l:List Pr}{aZ:A2N}(T:Gg l)(Y:View Ba e s l)(av: ∀b,s.af=some b->b<e.size)
  (bB: ∀a0,Ext e a0->aZ (J1 #[J7 (AX (JM l)),J6 J9 0]) a0):AA bA P PG #[J4 s.p s.len s.cap] e aZ:=by
 refine AA8 ?_;unfold Ux;have cS:=List.length_pos_iff.2 T.ne;have cT:=T.many;refine ae.no (by rw[Y.len];simp;exact T.ne) ?_;refine Loop.rule (λm x u=> ∃i:Nat,x=(⟨#[]⟩,0,(i:Int),())/\m=l.length-i/\i<=l.length/\Ext e u) ?_ ⟨0,rfl,rfl,by omega,Mod.refl⟩;rintro K m _ g ⟨i,rfl,rfl,cU,N⟩ a1;dsimp only;have aw:=Y.ext N;refine ae.intro (λy=>?_) (λy=>?_)
 ·have ax:i<l.length:=by rw[Y.len] at y;simp at y;omega
  have z:l[i]? =some l[i]:=A2 ax;have A:=T.ok _ (AW ax);generalize l[i]=x at z A;have a2:=A.bH;have bD:=A.cp;refine aw.idx z λa bE f=>?_
  obtain⟨ay,az,aA⟩:=f.pair;rw[A6];refine AJ.mk ay (AJ.mk az (Ab.mk aA ?_));refine ak.pair λb Z bF C a3 cV=>?_
  refine ah.mk λaC bG=>?_
  refine AJ.mk (AL C rfl) (ae.no (wv A.key) ?_);have a4:aC (false,()) Z:=by
   refine bG _ _ (ae.no rfl ?_);refine ah.mk λcW bH=>?_
   refine AJ.mk (AL C rfl) (ae.no (by simp;omega) ?_);refine AJ.mk (AB C rfl) ?_;refine bH _ _ (ae.no (by simp;omega) ?_);rw[Aa (by omega)];exact a1 (l.length-(i+1)) _ _ (by omega) ⟨i+1,rfl,rfl,ax,N.trans a3⟩
  have a5:ae (decide (((i:Nat):Int)>(0:Int))) (AJ Z (⟨b,0,none⟩:Q6) λa6=>
     bC s.p s.len (J8 J9 (((i:Nat):Int)-(1:Int))) λa7=>
     AJ Z (a7.add ((J8 J9 (((i:Nat):Int)-(1:Int))).toNat*3)) λa8=>
     aC ((aN a6 a8||bS a6 a8),()) Z) (aC (false,()) Z):=by
   refine ae.intro (λbI=>?_) (λ_=>a4);have cX:0<i:=by simp at bI;omega
   obtain⟨k,rfl⟩: ∃k,i=k+1:=⟨i-1,by omega⟩;have aD:J8 J9 (((k+1:Nat):Int)-(1:Int))=(k:Int):=by rw[wrap_i64 (by omega) (by omega)];omega
   have O:l[k]? =some l[k]:=A2 (by omega);refine AJ.mk (AL C rfl) ?_;rw[aD];refine(aw.ext a3).idx O λa7 cY ac=>?_
   rw[A6];refine AJ.mk ac.pair.1 ?_;have aE:=wE T.inc O z;have q:(aN x.key l[k].key||bS x.key l[k].key)=false:=by
    rw[Hi];refine⟨?_,?_⟩
    ·cases bJ:aN x.key l[k].key with
     |false=>rfl
     |true=>have:=DK aE bJ;rw[Bq] at this;cases this
    ·rw[Cb,decide_eq_false_iff_not];intro q;rw[q,Bq] at aE;cases aE
   rw[q];exact a4
  refine Ab.mk (AB C rfl) (ae.intro (λbK=>?_) (λ_=>a5));refine AJ.mk (AB C rfl) (ae.no ?_ a5);rw[Vz,Sa (A.gone bK)];rfl
 ·clear a1;have aF:=Y.len;refine ak.mk λbL _ bM bN bO=>?_
  refine ak.mk λbP _ a9 ba cZ=>?_
  refine ak.mk λc0 _ bb aG c1=>?_
  refine ab.mk bb (by simp) λbc bd an c2=>?_
  refine ak.mk λc3 _ be ao c4=>?_
  refine ab.mk be (by simp) λbf bg ad c5=>?_
  have bh:bL.size=g.size+1:=bO;have bi:bP.size=g.size+2:=by omega
  have bj:bc.size=g.size+3:=by omega
  have bQ:bf.size=g.size+4:=by omega
  rw[bh] at a9;rw[bi] at bb an bd;rw[bj] at be ad bg;rw[bh,bi,bj];refine ANV Y.cap (by omega) λfv H Q bR aI ac bk=>⟨_,rfl,?_⟩
  rw[bQ] at bR aI ac bk;generalize bT:g.size=o at*
  have bU: ∃E:Nat->Obj->Prop,E=λc h=>(c=o+4/\h=J2 #[J4 s.p s.len s.cap] AQ (0,0))\/(c=o+5/\h=J2 #[J6 J9 8] BQ (0,0)):=⟨_,rfl⟩
  obtain⟨E,ap⟩:=bU;have bV:Ext g H:=by refine⟨by have:=Q.size;omega,λc f _=>?_⟩;rw[bT] at f;exact(Q.get c (by omega) (λe=>e)).trans ((ad.get c (by omega) (by omega)).trans ((ao.get c (by omega) (λe=>e)).trans ((an.get c (by omega) (by omega)).trans ((aG.get c (by omega) (λe=>e)).trans ((ba.get c (by omega) (λe=>e)).trans (bN.get c (by omega) (λe=>e)))))))
  have bW:H[o]? =some (J2 #[J5 none,J4 none 0 0] EC (0,0)):=
   Q.af (ad.af (ao.af (an.af (aG.af (ba.af bM (λe=>e)) (λe=>e)) (by omega)) (λe=>e)) (by omega)) (λe=>e)
  have bX:H[o+1]? =some (J2 #[J4 none 0 0] CF (0,0)):=
   Q.af (ad.af (ao.af (an.af (aG.af a9 (λe=>e)) (by omega)) (λe=>e)) (by omega)) (λe=>e)
  have bY:H[o+2]? =some (J2 #[J7 (AX [])] Ar (0,0)):=by
   have bZ:bc[o+2]? =some (J2 #[J7 (AX [])] Ar (0,0)):=by rw[vE];simpa using bd
   exact Q.af (ad.af (ao.af bZ (λe=>e)) (by omega)) (λe=>e)
  have b0:H[o+3]? =some (J2 #[J6 J9 ((0:Nat):Int)] BQ (0,0)):=by
   have b1:bf[o+3]? =some (J2 #[J6 J9 ((0:Nat):Int)] BQ (0,0)):=by simpa using bg
   exact Q.af b1 (λe=>e)
  have bz:BS g o E [] [] [] 0 H:=by
   refine⟨AOg bW (A0 _),⟨⟨none,0,0⟩,bX,Own.nil,λc f=>by simp[Sl.af] at f⟩,bY,b0,λc h f=>?_,bV.mod⟩;subst ap;rcases f with⟨rfl,rfl⟩|⟨rfl,rfl⟩
   ·exact aI
   ·exact ac
  have R:jD o E:=by
   subst ap;refine⟨λc h f D F=>?_,λc h f D F=>?_,λc h f=>?_⟩
   ·rcases f with⟨rfl,rfl⟩|⟨rfl,rfl⟩<;>exact Ls (by decide) _ _
   ·rcases f with⟨rfl,rfl⟩|⟨rfl,rfl⟩<;>exact Ls (by decide) _ _
   ·rcases f with⟨rfl,rfl⟩|⟨rfl,rfl⟩<;>omega
  have bm: ∀d h,o+6<=d-> ¬E d h:=by subst ap;rintro d h hd (⟨rfl,_⟩|⟨rfl,_⟩)<;>omega
  have b2:(chunks s).length=Bo l:=by rw[QR,aF];rfl
  have c6:Bo l<=12501:=by unfold Bo;omega
  have aq:H.size=o+6:=by omega
  have b3: ∀b,s.af=some b->b<o:=λb b4=>by have:=av b b4;have:=N.size;omega
  refine ARD bk (λi u=>BS g o E (aH (((KE l).map BL).take i)) (IZ (l.take (8*i))) (GZ ((CK l).take i)) i u) ?_ ?_ ?_ ?_ ?_
  ·intro i u t c f;subst ap;rcases f with rfl|rfl
   ·exact(t.fix _ _ (.inl ⟨rfl,rfl⟩)).trans aI.symm
   ·exact(t.fix _ _ (.inr ⟨rfl,rfl⟩)).trans ac.symm
  ·rintro i u h t S ⟨c7,b5⟩;exact t.lp (by omega) (λh=>bm _ _ (by omega)) b5 h
  ·intro rec;exact bz.ext ((Mod.push H _).trans (Mod.push _ _))
  ·intro i x u rec c8 c9 z t S ar b6 b7;have U:i<Bo l:=by have:=(List.getElem?_eq_some_iff.1 z).1;omega
   have b8:x=PD s i:=by have:=wz (s:=s) (i:=i) (by rw[aF];exact U);rw[this] at z;exact(C2 z).symm
   subst b8;rw[aq] at S ar ⊢;refine⟨rec,ar,b6,?_⟩;obtain⟨v,L⟩: ∃v:Nat->Obj->Prop,v=λc h=>E c h\/(c=o+6/\h= .deferred (some []))\/(c=o+6+1/\h= .loop {rec with state:= .busy}):=⟨_,rfl⟩
   have M:jD o v:=by
    subst L;refine⟨λc h f D F=>?_,λc h f D F=>?_,λc h f=>?_⟩
    ·rcases f with e|⟨rfl,rfl⟩|⟨rfl,rfl⟩
     ·exact R.u8 c h e D F
     ·intro q;cases q
     ·intro q;cases q
    ·rcases f with e|⟨rfl,rfl⟩|⟨rfl,rfl⟩
     ·exact R.str c h e D F
     ·intro q;cases q
     ·intro q;cases q
    ·rcases f with e|⟨rfl,rfl⟩|⟨rfl,rfl⟩
     ·exact R.lt c h e
     ·omega
     ·omega
   have V:=t.lp (d:=o+6+1) (by omega) (λh=>bm _ _ (by omega)) ar {rec with state:= .busy};have aJ:BS g o v (aH (((KE l).map BL).take i)) (IZ (l.take (8*i))) (GZ ((CK l).take i)) i (u.setIfInBounds (o+6+1) (.loop {rec with state:= .busy})):=by
    refine⟨V.gv,V.keys,V.ix,V.cn,λc h f=>?_,V.dU⟩;subst L;rcases f with e|⟨rfl,rfl⟩|⟨rfl,rfl⟩
    ·exact V.fix c h e
    ·rw[DP (by omega)];exact S
    ·exact CR (Af ar)
   generalize u.setIfInBounds (o+6+1) (.loop {rec with state:= .busy})=da at aJ;have db:=Pq U;have aK: ∀p∈CB l i,Kj p:=λp aL=>T.ok p (Ow aL)
   have aM: ∀ {u:aa} {out:List UInt8} {b9:List A2O} {ca:List UInt8} {n:Nat},BS g o v out b9 ca n u->View Ba u (PD s i) (CB l i):=λb=>
    View.chunk (aw.mod b.dU (λc f=>by have:=b3 c f;omega)) U
   have cb:(PD s i).len=(CB l i).length:=(aM aJ).len;have aO:=Tm (rs:=((KE l).map BL).take i) λr cc=>wB T.ok r (DO cc)
   have aP:=Px (ks:=(CK l).take i) λk O=>OH T.ok k (DO O)
   rw[AE] at aO aP;have dc:=Pw T.ok U;refine Loop.rule (λm x u=> ∃j:Nat,x=(AX (BL ((CB l i).take j)),(j:Int),())/\m=(CB l i).length-j/\j<=(CB l i).length/\
    BS g o v (aH (((KE l).map BL).take i)) (IZ (l.take (8*i))++IZ ((CB l i).take j)) (GZ ((CK l).take i)) i u) ?_ ⟨0,rfl,rfl,by omega,by simpa [IZ] using aJ⟩
   rintro dd m _ de ⟨j,rfl,rfl,df,I⟩ cd;dsimp only[qh];refine ae.intro (λy=>?_) (λy=>?_)
   ·have af:j<(CB l i).length:=by have y:((j:Nat):Int)<(((PD s i).len:Nat):Int):=of_decide_eq_true y;omega
    have z:(CB l i)[j]? =some (CB l i)[j]:=A2 af;have A:=aK _ (AW af);generalize (CB l i)[j]=p at z A;have bn:=Sd z;refine(aM I).idx z λa bE f=>?_
    obtain⟨ay,az,aA⟩:=f.pair;rw[A6];refine AJ.mk ay (AJ.mk az (Ab.mk aA ?_));refine ak.pair λbo dg bF C ce dh=>?_
    have B:=I.ext ce;obtain⟨ks,ai,aj,am⟩:=B.keys;refine AY.mk (s:=ks) (AL ai rfl) ?_;refine AJ.mk (AL C rfl) ?_;have di:o+3<bo:=by have:=Af I.cn;omega
    have aQ:(IZ (l.take (8*i))++IZ ((CB l i).take j)).length<=100010:=by rw[A1];simp only[IZ,By,AE];omega
    refine ak.aZ (E:=IB) (x:=p.key) rfl qI aj (by omega) (by simp only[maxLen];omega) λbp cf cg aS ch dj=>?_
    have ci:cf[o+1]? =some (J2 #[J4 ks.p ks.len ks.cap] CF (0,0)):=aS.af ai (λe=>by have:=am _ e;omega);refine ab.mk ci (by simp) λbq cj aT dk=>?_
    have br: ∀c,bp.af=some c->o+3<c:=λc f=>by
     rcases ch c f with e|e
     ·exact am c e
     ·have:=Af B.cn;omega
    have G:BS g o v _ (IZ (l.take (8*i))++IZ ((CB l i).take j)++ [p.key]) _ i bq:=
     B.key M (jc:=bp) ai aj am ((aS.ai λc _ f=> .inl f).trans (aT.ai λc _ f=> .inr f)) (by simpa using cj) (cg.mod aT (λc f e=>by have:=br c f;omega)) br
    have aU:bq[bo]? =some (J2 #[J7 p.key,J7 p.val,J3 p.gone] AR (0,0)):=aT.af (aS.af C (λe=>aj.ne C (by decide) e)) (by omega);refine AJ.mk (AL aU rfl) (AJ.mk (AB aU rfl) (Ab.mk (AB aU rfl) ?_));refine AMw (x:=p) A λdl ck=>⟨_,rfl,?_⟩
    have cl:BL ((CB l i).take (j+1))=BL ((CB l i).take j)++IP p:=by rw[bn];simp[BL]
    have lt:=Kw (l:=(CB l i).take j) λcm y=>aK cm (DO y)
    rw[AE] at lt;have lp:=(PY A).2;have a2:=A.bH;have bD:=A.cp;refine⟨by rw[AP,AP,max_i64];omega,?_⟩;rw[Ak,<-cl,Aa (by omega)];refine cd ((CB l i).length-(j+1)) _ _ (by omega) ⟨j+1,rfl,rfl,af,?_⟩;have J:=G.ext ck;have:IZ ((CB l i).take (j+1))=IZ ((CB l i).take j)++ [p.key]:=by rw[bn,wC];rfl
    rw[this,<-A4];exact J
   ·have af:j=(CB l i).length:=by have y: ¬((j:Nat):Int)<(((PD s i).len:Nat):Int):=of_decide_eq_false y;omega
    have cn:(CB l i).take j=CB l i:=by rw[af];simp
    rw[cn] at I ⊢;refine qx (by omega) (λe=>by omega) λaV dm co=>⟨_,_,rfl,?_⟩
    have B:=I.ext co;have cp:=I6 aV;refine TV B.gv (by have:=Af B.cn;omega) (by rw[AP];omega) λcq cr cs=>⟨_,_,rfl,?_⟩
    have G:=B.write M cr cs;rw[EE] at G;refine AJ.mk (AL G.ix rfl) ?_;have aW:(CB l i)[0]? =some (CB l i)[0]:=A2 (by omega);have bs:IY l (8*i)=(CB l i)[0].key:=by have:=PW (l:=l) (i:=i) (j:=0) (by omega);rw[aW] at this;unfold IY;rw[G4] at this;rw[<- this]
    have bt:=aK _ (AW (show 0<(CB l i).length by omega));generalize (CB l i)[0]=W at aW bs bt;obtain⟨ct,cu,bu⟩:=(aM G).cells 0 W aW;refine bC.mk (k:=0) cu (by rw[cb];omega) ?_;rw[HL,add_zero] at bu;refine AJ.mk (n:=W.key) (by show ag cq (ct.add 0)=_;rw[add_zero];exact bu.pair.1) ?_;have a2:=bt.bH;refine UI (by omega) λdn cv=>⟨_,rfl,?_⟩
    have J:=G.ext cv;refine⟨AL J.ix rfl,?_⟩;have dp:=AV (n:=(bl W.key).length) (by rw[BA];omega);have dq:=BA W.key;refine⟨by rw[AP,AP,max_i64];simp only[BR,A1];omega,?_⟩;rw[Ak];refine ab.mk J.ix (by simp) λdr cw cx ds=>?_
    have X:=J.yh M (om:=GZ ((CK l).take i)++BR (bl W.key)) cx (by simpa using cw);refine AC.mk (AL X.cn rfl) ?_;rw[Aa (by omega)];refine ab.mk X.cn (by simp) λcy cz cB dt=>?_
    have w:=X.oh M (n':=i+1) cB (by simpa using cz);have aD:aH (((KE l).map BL).take (i+1))=aH (((KE l).map BL).take i)++Cj (BL (CB l i)):=by rw[Sd (AM6 U)];simp[aH]
    have cC:IZ (l.take (8*(i+1)))=IZ (l.take (8*i))++IZ (CB l i):=by rw[<- wC,uc]
    have cD:GZ ((CK l).take (i+1))=GZ ((CK l).take i)++BR (bl W.key):=by rw[Sd (QW U),bs];simp[GZ]
    subst L;refine b7 cy ?_ ?_ ?_
    ·rw[aD,cC,cD];exact⟨w.gv,w.keys,w.ix,w.cn,λc h f=>w.fix c h (.inl f),w.dU⟩
    ·rw[aq];exact w.fix _ _ (.inr (.inl ⟨rfl,rfl⟩))
    ·rw[aq];exact w.fix _ _ (.inr (.inr ⟨rfl,rfl⟩))
  ·intro cE t S;rw[b2] at t;have ai:((KE l).map BL).take (Bo l)=(KE l).map BL:=AG (by simp[Gd]);have aj:l.take (8*Bo l)=l:=AG (by unfold Bo;omega);have am:(CK l).take (Bo l)=CK l:=AG (by simp[Gv]);rw[ai,aj,am] at t;rw[aq] at S ⊢;obtain⟨v,L⟩: ∃v:Nat->Obj->Prop,v=λc h=>E c h\/(c=o+6/\h= .deferred (some [])):=⟨_,rfl⟩
   have M:jD o v:=by
    subst L;refine⟨λc h f D F=>?_,λc h f D F=>?_,λc h f=>?_⟩
    ·rcases f with e|⟨rfl,rfl⟩
     ·exact R.u8 c h e D F
     ·intro q;cases q
    ·rcases f with e|⟨rfl,rfl⟩
     ·exact R.str c h e D F
     ·intro q;cases q
    ·rcases f with e|⟨rfl,rfl⟩
     ·exact R.lt c h e
     ·omega
   have I:BS g o v (aH ((KE l).map BL)) (IZ l) (GZ (CK l)) (Bo l) cE:=by
    refine⟨t.gv,t.keys,t.ix,t.cn,λc h f=>?_,t.dU⟩;subst L;rcases f with e|⟨rfl,rfl⟩
    ·exact t.fix c h e
    ·exact S
   obtain⟨ks,bv,aX,du⟩:=I.keys;refine AY.mk (s:=ks) (AL bv rfl) (AY.mk (s:=ks) (AL bv rfl) ?_);have aQ:ks.len=l.length:=by rw[aX.len];simp[IZ]
   have bw:1<=iR l/\iR l<=8192:=by unfold iR;omega
   have bx:=T.eG;have dv:=bx.jb;rw[aQ,AJP _ T.many];rw[show((min (l.length+8) 8192:Nat):Int)=((iR l:Nat):Int) from rfl,<-aQ];refine AOe (ks:=IZ l) aX.view (λk O=>?_) bw.1 bw.2 (by simp[IZ];omega) (λb av=>aX.lt av) λdw cF=>⟨_,_,rfl,?_⟩
   ·obtain⟨p,aL,rfl⟩:=List.mem_map.1 O;have:=(T.ok p aL).bH;omega
   have B:=I.ext cF;refine AC.mk (AL B.cn rfl) ?_;rw[Bz (by omega)];refine CS (by omega) λdx cG=>⟨_,rfl,?_⟩
   have G:=B.ext cG;refine AJ.mk (AL G.ix rfl) ⟨AL B.ix rfl,?_⟩;have dy:=AV (n:=Bo l) (by omega);have aP:=Px (ks:=CK l) (OH T.ok);rw[Gv] at aP;refine⟨by rw[AP,AP,max_i64];omega,?_⟩;rw[aF,Bz (by omega)];refine CS (by omega) λdz cH=>⟨_,rfl,?_⟩
   have J:=G.ext cH;have dA:=AV (n:=l.length) (by omega);refine⟨AL J.ix rfl,?_⟩;rw[Ak];refine⟨by rw[AP,AP,max_i64];simp only[A1];omega,?_⟩;refine QG (l:=ME l) (by omega) λdB cI=>⟨_,rfl,?_⟩
   have X:=J.ext cI;have dC:=AV (n:=(ME l).length) (by omega);refine⟨AL X.ix rfl,?_⟩;rw[Ak,Ak];have dD:(BR (ME l)).length=(BZ (ME l).length).length+(ME l).length:=by simp[BR]
   refine⟨by rw[AP,AP,max_i64];simp only[A1];omega,?_⟩;have cJ:BZ (Bo l)++GZ (CK l)++BZ l.length++BR (ME l)=UX l (ME l):=by unfold UX GZ;simp only[A4]
   rw[cJ];have dE:=Ws bx;refine qx (by omega) (λe=>by omega) λaV dF cK=>⟨_,_,rfl,ae.no rfl ?_⟩
   have w:=X.ext cK;have aO:=Tm (rs:=(KE l).map BL) (wB T.ok);rw[By,Gd] at aO;have cp:=I6 aV;refine TV w.gv (by have:=Af w.cn;omega) (by rw[AP];omega) λdG cL cM=>⟨_,_,rfl,?_⟩
   have au:=w.write M cL cM;rw[EE] at au;refine AIO au.gv (by have:=Af au.cn;omega) λcN cO cP=>⟨_,rfl,?_⟩
   have aY:=au.write M cO cP;have cQ:aH ((KE l).map BL)++Cj (UX l (ME l))=JM l:=by unfold JM aR;simp[aH]
   have cR:cN[o+6]? =some (.deferred (some [])):=aY.fix _ _ (by subst L;exact .inr ⟨rfl,rfl⟩);refine⟨cR,?_⟩;rw[cQ];refine bB _ ⟨?_,λc f _=>?_⟩
   ·have:=aY.dU.size;have:=N.size;simp;omega
   ·have:=N.size;rw[DP (by omega)];exact(aY.dU.get c (by omega) (by omega)).trans (N.get c f (λe=>e))
end Go.Lf.G
namespace Go.Proofs
open Go.Shelf
def Tryz.cD:Go.Shelf.Ren:=⟨λ|7=>167|10=>200|a=>a,λ|23=>142|26=>9|3=>240|28=>269|0=>0|27=>268|33=>115|4=>4|a=>a,λ|a=>a⟩
theorem Tryz.iF:Go.Proofs.SlLaysZ.n7 Tryz.prog Tryz.cD:= {
 mixed:=by kernel_rfl
 f7:=⟨Tryz.f167.name,by decide,Tryz.func167.trans (congrArg some (by kernel_rfl))⟩
 f10:=⟨Tryz.f200.name,by decide,Tryz.func200.trans (congrArg some (by kernel_rfl))⟩
 t0:=Tryz.underlying0
 a0:=Tryz.isAgg0
 z0:=Tryz.sizeOf0
 v0:=Tryz.zeroValue0
 t4:=Tryz.underlying4
 a4:=Tryz.isAgg4
 z4:=Tryz.sizeOf4
 v4:=Tryz.zeroValue4
 t23:=Tryz.underlying142
 a23:=Tryz.isAgg142
 z23:=Tryz.sizeOf142
 v23:=Tryz.zeroValue142
 t26:=Tryz.underlying9
 a26:=Tryz.isAgg9
 z26:=Tryz.sizeOf9
 v26:=Tryz.zeroValue9
 t27:=Tryz.underlying268
 a27:=Tryz.isAgg268
 z27:=Tryz.sizeOf268
 v27:=Tryz.zeroValue268
 t28:=Tryz.underlying269
 a28:=Tryz.isAgg269
 z28:=Tryz.sizeOf269
 v28:=Tryz.zeroValue269
 t33:=Tryz.underlying115
 a33:=Tryz.isAgg115
 z33:=Tryz.sizeOf115
 v33:=Tryz.zeroValue115}
def Tryz.dC:Go.Shelf.Ren:=⟨λ|6=>166|8=>198|9=>199|11=>236|13=>188|12=>237|23=>225|24=>226|14=>259|15=>260|16=>261|17=>262|18=>263|19=>264|20=>265|21=>266|22=>267|25=>274|26=>248|27=>249|28=>275|29=>276|30=>277|31=>278|a=>a,λ|26=>9|28=>269|24=>189|0=>0|3=>3|37=>158|48=>155|50=>112|4=>4|40=>310|39=>309|45=>212|5=>5|9=>9|51=>337|55=>340|57=>358|58=>253|33=>115|a=>a,λ|a=>a⟩
theorem Tryz.ij:Go.Proofs.SlLaysZ.n6 Tryz.prog Tryz.dC:= {
 mixed:=by kernel_rfl
 f6:=⟨Tryz.f166.name,by decide,Tryz.func166.trans (congrArg some (by kernel_rfl))⟩
 f8:=⟨Tryz.f198.name,by decide,Tryz.func198.trans (congrArg some (by kernel_rfl))⟩
 f11:=⟨Tryz.f236.name,by decide,Tryz.func236.trans (congrArg some (by kernel_rfl))⟩
 t0:=Tryz.underlying0
 a0:=Tryz.isAgg0
 z0:=Tryz.sizeOf0
 v0:=Tryz.zeroValue0
 t24:=Tryz.underlying189
 a24:=Tryz.isAgg189
 z24:=Tryz.sizeOf189
 v24:=Tryz.zeroValue189
 t26:=Tryz.underlying9
 a26:=Tryz.isAgg9
 z26:=Tryz.sizeOf9
 v26:=Tryz.zeroValue9
 t28:=Tryz.underlying269
 a28:=Tryz.isAgg269
 z28:=Tryz.sizeOf269
 v28:=Tryz.zeroValue269
 i26:=by kernel_rfl}
def Tryz.fO:Go.Shelf.Ren:=⟨λ|6=>199|8=>188|9=>237|19=>225|20=>226|21=>259|22=>260|23=>261|24=>262|25=>263|26=>264|27=>265|28=>266|29=>267|36=>274|31=>248|32=>249|37=>275|38=>276|39=>277|41=>278|a=>a,λ|27=>189|29=>9|3=>3|32=>158|26=>189|0=>0|44=>155|46=>112|4=>4|36=>310|35=>309|41=>212|5=>5|9=>9|53=>337|57=>340|63=>358|64=>253|a=>a,λ|a=>a⟩
theorem Tryz.iG:Go.Proofs.SlLaysM.n6 Tryz.prog Tryz.fO:= {
 mixed:=by kernel_rfl
 f6:=⟨Tryz.f199.name,by decide,Tryz.func199.trans (congrArg some (by kernel_rfl))⟩
 f8:=Tryz.func188.trans (congrArg some (by kernel_rfl))
 f9:=⟨Tryz.f237.name,by decide,Tryz.func237.trans (congrArg some (by kernel_rfl))⟩
 f19:=Tryz.func225.trans (congrArg some (by kernel_rfl))
 f20:=Tryz.func226.trans (congrArg some (by kernel_rfl))
 f21:=⟨Tryz.f259.name,by decide,Tryz.func259.trans (congrArg some (by kernel_rfl))⟩
 f22:=⟨Tryz.f260.name,by decide,Tryz.func260.trans (congrArg some (by kernel_rfl))⟩
 f23:=⟨Tryz.f261.name,by decide,Tryz.func261.trans (congrArg some (by kernel_rfl))⟩
 f24:=⟨Tryz.f262.name,by decide,Tryz.func262.trans (congrArg some (by kernel_rfl))⟩
 f25:=⟨Tryz.f263.name,by decide,Tryz.func263.trans (congrArg some (by kernel_rfl))⟩
 f26:=⟨Tryz.f264.name,by decide,Tryz.func264.trans (congrArg some (by kernel_rfl))⟩
 f27:=⟨Tryz.f265.name,by decide,Tryz.func265.trans (congrArg some (by kernel_rfl))⟩
 f28:=⟨Tryz.f266.name,by decide,Tryz.func266.trans (congrArg some (by kernel_rfl))⟩
 f29:=⟨Tryz.f267.name,by decide,Tryz.func267.trans (congrArg some (by kernel_rfl))⟩
 f31:=Tryz.func248.trans (congrArg some (by kernel_rfl))
 f32:=Tryz.func249.trans (congrArg some (by kernel_rfl))
 f36:=⟨Tryz.f274.name,by decide,Tryz.func274.trans (congrArg some (by kernel_rfl))⟩
 f37:=⟨Tryz.f275.name,by decide,Tryz.func275.trans (congrArg some (by kernel_rfl))⟩
 f38:=⟨Tryz.f276.name,by decide,Tryz.func276.trans (congrArg some (by kernel_rfl))⟩
 f39:=⟨Tryz.f277.name,by decide,Tryz.func277.trans (congrArg some (by kernel_rfl))⟩
 f41:=⟨Tryz.f278.name,by decide,Tryz.func278.trans (congrArg some (by kernel_rfl))⟩
 t0:=Tryz.underlying0
 a0:=Tryz.isAgg0
 z0:=Tryz.sizeOf0
 v0:=Tryz.zeroValue0
 t3:=Tryz.underlying3
 a3:=Tryz.isAgg3
 z3:=Tryz.sizeOf3
 v3:=Tryz.zeroValue3
 t4:=Tryz.underlying4
 a4:=Tryz.isAgg4
 z4:=Tryz.sizeOf4
 v4:=Tryz.zeroValue4
 t5:=Tryz.underlying5
 a5:=Tryz.isAgg5
 z5:=Tryz.sizeOf5
 v5:=Tryz.zeroValue5
 t9:=Tryz.underlying9
 a9:=Tryz.isAgg9
 z9:=Tryz.sizeOf9
 v9:=Tryz.zeroValue9
 t26:=Tryz.underlying189
 a26:=Tryz.isAgg189
 z26:=Tryz.sizeOf189
 v26:=Tryz.zeroValue189
 t27:=Tryz.underlying189
 a27:=Tryz.isAgg189
 z27:=Tryz.sizeOf189
 v27:=Tryz.zeroValue189
 t29:=Tryz.underlying9
 a29:=Tryz.isAgg9
 z29:=Tryz.sizeOf9
 v29:=Tryz.zeroValue9
 t32:=Tryz.underlying158
 a32:=Tryz.isAgg158
 z32:=Tryz.sizeOf158
 v32:=Tryz.zeroValue158
 t35:=Tryz.underlying309
 a35:=Tryz.isAgg309
 z35:=Tryz.sizeOf309
 v35:=Tryz.zeroValue309
 t36:=Tryz.underlying310
 a36:=Tryz.isAgg310
 z36:=Tryz.sizeOf310
 v36:=Tryz.zeroValue310
 t41:=Tryz.underlying212
 a41:=Tryz.isAgg212
 z41:=Tryz.sizeOf212
 v41:=Tryz.zeroValue212
 t44:=Tryz.underlying155
 a44:=Tryz.isAgg155
 z44:=Tryz.sizeOf155
 v44:=Tryz.zeroValue155
 t46:=Tryz.underlying112
 a46:=Tryz.isAgg112
 z46:=Tryz.sizeOf112
 v46:=Tryz.zeroValue112
 t53:=Tryz.underlying337
 a53:=Tryz.isAgg337
 z53:=Tryz.sizeOf337
 v53:=Tryz.zeroValue337
 t57:=Tryz.underlying340
 a57:=Tryz.isAgg340
 z57:=Tryz.sizeOf340
 v57:=Tryz.zeroValue340
 t63:=Tryz.underlying358
 a63:=Tryz.isAgg358
 z63:=Tryz.sizeOf358
 v63:=Tryz.zeroValue358
 t64:=Tryz.underlying253
 a64:=Tryz.isAgg253
 z64:=Tryz.sizeOf253
 v64:=Tryz.zeroValue253}
def Tryz.fP:Go.Shelf.Ren:=⟨λ|5=>161|8=>188|7=>187|19=>225|20=>226|10=>216|11=>217|12=>218|13=>219|14=>220|15=>221|16=>222|17=>223|18=>224|30=>247|31=>248|32=>249|33=>250|34=>251|35=>252|40=>271|a=>a,λ|23=>68|25=>3|3=>3|32=>158|22=>68|0=>0|44=>155|46=>112|4=>4|36=>310|35=>309|41=>212|5=>5|9=>9|53=>337|57=>340|63=>358|64=>253|a=>a,λ|a=>a⟩
theorem Tryz.iH:Go.Proofs.SlLaysM.n5 Tryz.prog Tryz.fP:= {
 mixed:=by kernel_rfl
 f5:=⟨Tryz.f161.name,by decide,Tryz.func161.trans (congrArg some (by kernel_rfl))⟩
 f7:=⟨Tryz.f187.name,by decide,Tryz.func187.trans (congrArg some (by kernel_rfl))⟩
 f8:=Tryz.func188.trans (congrArg some (by kernel_rfl))
 f10:=⟨Tryz.f216.name,by decide,Tryz.func216.trans (congrArg some (by kernel_rfl))⟩
 f11:=⟨Tryz.f217.name,by decide,Tryz.func217.trans (congrArg some (by kernel_rfl))⟩
 f12:=⟨Tryz.f218.name,by decide,Tryz.func218.trans (congrArg some (by kernel_rfl))⟩
 f13:=⟨Tryz.f219.name,by decide,Tryz.func219.trans (congrArg some (by kernel_rfl))⟩
 f14:=⟨Tryz.f220.name,by decide,Tryz.func220.trans (congrArg some (by kernel_rfl))⟩
 f15:=⟨Tryz.f221.name,by decide,Tryz.func221.trans (congrArg some (by kernel_rfl))⟩
 f16:=⟨Tryz.f222.name,by decide,Tryz.func222.trans (congrArg some (by kernel_rfl))⟩
 f17:=⟨Tryz.f223.name,by decide,Tryz.func223.trans (congrArg some (by kernel_rfl))⟩
 f18:=⟨Tryz.f224.name,by decide,Tryz.func224.trans (congrArg some (by kernel_rfl))⟩
 f19:=Tryz.func225.trans (congrArg some (by kernel_rfl))
 f20:=Tryz.func226.trans (congrArg some (by kernel_rfl))
 f30:=⟨Tryz.f247.name,by decide,Tryz.func247.trans (congrArg some (by kernel_rfl))⟩
 f31:=Tryz.func248.trans (congrArg some (by kernel_rfl))
 f32:=Tryz.func249.trans (congrArg some (by kernel_rfl))
 f33:=⟨Tryz.f250.name,by decide,Tryz.func250.trans (congrArg some (by kernel_rfl))⟩
 f34:=⟨Tryz.f251.name,by decide,Tryz.func251.trans (congrArg some (by kernel_rfl))⟩
 f35:=⟨Tryz.f252.name,by decide,Tryz.func252.trans (congrArg some (by kernel_rfl))⟩
 f40:=⟨Tryz.f271.name,by decide,Tryz.func271.trans (congrArg some (by kernel_rfl))⟩
 t0:=Tryz.underlying0
 a0:=Tryz.isAgg0
 z0:=Tryz.sizeOf0
 v0:=Tryz.zeroValue0
 t3:=Tryz.underlying3
 a3:=Tryz.isAgg3
 z3:=Tryz.sizeOf3
 v3:=Tryz.zeroValue3
 t4:=Tryz.underlying4
 a4:=Tryz.isAgg4
 z4:=Tryz.sizeOf4
 v4:=Tryz.zeroValue4
 t5:=Tryz.underlying5
 a5:=Tryz.isAgg5
 z5:=Tryz.sizeOf5
 v5:=Tryz.zeroValue5
 t9:=Tryz.underlying9
 a9:=Tryz.isAgg9
 z9:=Tryz.sizeOf9
 v9:=Tryz.zeroValue9
 t22:=Tryz.underlying68
 a22:=Tryz.isAgg68
 z22:=Tryz.sizeOf68
 v22:=Tryz.zeroValue68
 t23:=Tryz.underlying68
 a23:=Tryz.isAgg68
 z23:=Tryz.sizeOf68
 v23:=Tryz.zeroValue68
 t25:=Tryz.underlying3
 a25:=Tryz.isAgg3
 z25:=Tryz.sizeOf3
 v25:=Tryz.zeroValue3
 t32:=Tryz.underlying158
 a32:=Tryz.isAgg158
 z32:=Tryz.sizeOf158
 v32:=Tryz.zeroValue158
 t35:=Tryz.underlying309
 a35:=Tryz.isAgg309
 z35:=Tryz.sizeOf309
 v35:=Tryz.zeroValue309
 t36:=Tryz.underlying310
 a36:=Tryz.isAgg310
 z36:=Tryz.sizeOf310
 v36:=Tryz.zeroValue310
 t41:=Tryz.underlying212
 a41:=Tryz.isAgg212
 z41:=Tryz.sizeOf212
 v41:=Tryz.zeroValue212
 t44:=Tryz.underlying155
 a44:=Tryz.isAgg155
 z44:=Tryz.sizeOf155
 v44:=Tryz.zeroValue155
 t46:=Tryz.underlying112
 a46:=Tryz.isAgg112
 z46:=Tryz.sizeOf112
 v46:=Tryz.zeroValue112
 t53:=Tryz.underlying337
 a53:=Tryz.isAgg337
 z53:=Tryz.sizeOf337
 v53:=Tryz.zeroValue337
 t57:=Tryz.underlying340
 a57:=Tryz.isAgg340
 z57:=Tryz.sizeOf340
 v57:=Tryz.zeroValue340
 t63:=Tryz.underlying358
 a63:=Tryz.isAgg358
 z63:=Tryz.sizeOf358
 v63:=Tryz.zeroValue358
 t64:=Tryz.underlying253
 a64:=Tryz.isAgg253
 z64:=Tryz.sizeOf253
 v64:=Tryz.zeroValue253}
end Go.Proofs
namespace Go.Lf.G
open Go
abbrev mX:Q8:=Ew
theorem AOm {d:al}{a:aa}{b:Option Nat}{e:A2N}(g: ∀T c,c[a.size]? =some (J2 #[.map b] T (0,0))->Ext a c->c.size=a.size+1->e (.func (.func mX) #[] #[Ay a.size]) c):
  AA d P Bt #[.map b] a e:=by
 intro f;have h:=Proofs.AnyZ.keys_in Proofs.Tryz.iF Fence.wide 5 trivial rfl b (d.at a f);have i:=callsIn_wide.1 h;refine Calls.mono i ?_;rintro j k ⟨rfl,rfl⟩;refine⟨_,rfl,a.push (J2 #[.map b] (Proofs.Tryz.cD.t 23)),f,rfl,?_⟩;exact g (Proofs.Tryz.cD.t 23) (a.push (J2 #[.map b] (Proofs.Tryz.cD.t 23))) (by simp) (Mod.push a _) (by simp)
theorem AQu(m:Nat):Proofs.AnyZ.SortsIn P Proofs.Tryz.dC Fence.wide m:=
 ⟨λaf off a c b d e f=>callsIn_wide.2 (Proofs.AnyM.slices_Sort_string Proofs.Tryz.iG af off a c b d e f),
 λp a b=>callsIn_wide.2 (Proofs.AnyM.slices_Sort_string_none Proofs.Tryz.iG p a b)⟩
theorem AKx {A:al}{h:aa}{c r:Nat}{T:Q7}{m:List (A2O×J0)}{l:List A2O}{k:A2N}(o:h[c]? =some (J2 #[.map (some r)] T (0,0)))(M:UK h r m)
  (B:mZ l) (C:(m.map (·.1)).Perm l) (d:m.length<=8796093022208)
  (p: ∀s i,Own IB Ar i s l->Ext h i->(∀ b,s.af=some b->h.size<=b)->k (J4 s.p s.len s.cap) i):
  AA A P Ff #[.func (.func mX) #[] #[Ay c]] h k:=by
 intro n;obtain⟨j,D,E,q⟩:=AJC (P:=P) (kt:=Ar) Oc (w:=A.at h n) M;have F:SeqGives Fence.wide 2 P mX #[Ay c] Proofs.encStr (λe=>e.Perm (strKeys j)) (Maps.size j) (A.at h n):=
  Proofs.AnyZ.keys_gives (ρ:=Proofs.Tryz.cD) {Proofs.Tryz.iF with} Fence.wide _ trivial rfl (by omega) c r _ j _ (show c<h.size from Af o) (by show ag h ⟨c,0,none⟩=_;rw[Gy o];rfl) D
 have G:=Proofs.AnyZ.sorted_in Proofs.Tryz.ij Fence.wide 5 trivial trivial trivial trivial rfl (by omega) (AQu _) (Proofs.enters_of Proofs.Tryz.func199 (by kernel_rfl) rfl) mX #[Ay c] trivial (Proofs.enters_of Proofs.Tryz.func200 (by kernel_rfl) rfl) _ _ (by rw[q];simp[maxLen];omega) (by rw[q];omega) _ F;have H:=callsIn_wide.1 G;refine Calls.mono H ?_;rintro V a ⟨v,e,rfl,I,t,W,f⟩;have u:a=A.at a.heap a.drawn:=tt (A:=A) (h:=h) (n:=n) rfl f.os f.tape f.output;have y:e.Perm (l.map λx=>x.data.toList):=by
  refine(I.trans E).trans ?_;have:=C.map λx:A2O=>x.data.toList
  simpa [AT,G0] using this
 have J:e.length=l.length:=by have:=y.length_eq;simpa using this
 rw[AIM B y,ALH] at t;have z:Ext h a.heap:=⟨f.size,λb d _=>f.block b d⟩;rcases t.2 with⟨rfl,X⟩|⟨g,K,L,rfl,N,O,Q,R,S,U⟩
 ·have:l= []:=CC (by omega);subst this;exact⟨_,rfl,a.heap,a.drawn,u,p ⟨none,0,0⟩ _ Own.nil z (λb d=>by simp[Sl.af] at d)⟩
 ·refine⟨_,rfl,a.heap,a.drawn,u,p ⟨some ⟨g,0,none⟩,e.length,K⟩ _ ⟨J,.inr ⟨g,L,rfl,O,Q,R,S,U⟩⟩ z (λb d=>?_)⟩;simp[Sl.af] at d;subst d;exact N
def jx(m:Bx):List A2O×Int:=if m.down then([],30) else(m.files.map (·.name),0)
theorem En.names {d:aa}{b r:Nat}{a:List (Fi×Nat)}{m:Bx}(c:En d b r a m):((fg a).map (·.1)).Perm (m.files.map (·.name))/\(fg a).length<=8796093022208:=by
 refine⟨?_,?_⟩
 ·have:=c.perm.map (·.name);simpa [fg,AT,G0] using this
 ·have e:=c.perm.length_eq;have f:=T9 m.files;have g:=c.aQ.wt;simp at e ⊢;omega
theorem En.fq {h:al}{a:aa}{b r:Nat}{l:List (Fi×Nat)}{m:Bx}(d:En a b r l m){i:Sl->aa->Prop}
  (n: ∀s f,Own IB Ar f s (m.files.map (·.name))->Ext a f->(∀ c,s.af=some c->a.size<=c)->i s f):
  AA h P Bt #[.map (some r)] a λv1 g=> ∃j:J0,v1=j/\(
   AA h P Ff #[j] g λv2 o=> ∃e:Sl,v2=J4 e.p e.len e.cap/\i e o):=by
 refine AOm λT w p k x=>⟨_,rfl,?_⟩
 refine AKx p (d.map.mod k (λa=>a)) (Sg.1 d.aQ.sorted) d.names.1 d.names.2 λs g q t u=>⟨s,rfl,?_⟩
 exact n s g q (k.trans t) (λc v=>by have:=u c v;omega)
theorem tK {i:al}{a:aa}{b:Nat}{j:Nat->Prop}{m:Bx}{h:A2N}(d:Cm a b j m)
  (e: ∀s g,Own IB Ar g s (jx m).1->Ext a g->(∀ c,s.af=some c->a.size<=c)->h (J1 #[J4 s.p s.len s.cap,J6 J9 (jx m).2]) g):AA i P KT #[Ay b] a h:=by
 obtain⟨r,n,d,o⟩:=d;refine AAO ?_;unfold TZ;refine kN d.head ⟨_,rfl,?_⟩;unfold jx at e;refine ae.intro (λhd=>?_) (λhd=>?_)
 ·rw[if_pos hd] at e;exact e ⟨none,0,0⟩ a Own.nil Mod.refl (λc k=>by simp[Sl.af] at k)
 rw[if_neg (by simp[hd])] at e;exact aD (Ez.mk (AL d.head rfl) (d.fq λs g l x f=>e s g l x f))
theorem vY:PO P CF Ar IB.w 16=true:=by kernel_rfl
theorem qD:PO P Cu BQ Ho.w 8=true:=by kernel_rfl
theorem KM(s:A2O):AX (bl s)=s:=Da s
theorem AGA {l:List UInt8}{b:List (List UInt8)}(a:MU l b):b.length<=l.length:=by
 induction a with
 |stop a=>exact As _
 |step a s c=>have:=Yw a;simp only[A5];omega
theorem ANs {p:al}{a:aa}{s:A2O}{k:A2N}(A:s.size<=8000000000000)
  (q: ∀e sl r,Ext a e->View IB e sl ((jV (bl s)).map AX)->k (J1 #[J4 sl.p sl.len sl.cap,J6 J9 r]) e):AA p P KV #[J7 s] a k:=by
 refine Uw ?_;unfold Qj;refine Loop.rule (λm x g=> ∃(sl:Sl) (dn b:List (List UInt8)) (l:List UInt8),x=(sl,AX l,())/\Ext a g/\Own IB Ar g sl (dn.map AX)/\(∀ c,sl.af=some c->a.size<=c)/\MU l b/\jV (bl s)=dn++b/\dn.length+l.length<=s.size/\m=l.length) ?_
  ⟨⟨none,0,0⟩,[],_,bl s,by rw[KM],Mod.refl,Own.nil,λc h=>by simp[Sl.af] at h,qd _,rfl,by rw[BA];simp,rfl⟩
 rintro K m _ g ⟨sl,dn,b,l,rfl,x,n,f,i,j,B,rfl⟩ t;refine vJ (by omega) λu d=>⟨_,_,_,rfl,?_⟩
 cases i with
 |stop o=>
  refine ae.no (by simp;omega) ?_;rw[AM] at j;exact q u sl _ (x.trans d) (by rw[j];exact(n.ext d).view)
 |step o i=>
  rename_i b;refine ae.yes (by simp;omega) ?_;have C:=Yw o;refine ak.aZ (E:=IB) (x:=AX (Ga l).2.1) (s:=sl) (l:=dn.map AX) rfl vY (n.ext d) (by simp;omega) (by simp[maxLen];omega) λv D w y z F=>?_
  refine t (Ga l).2.2.length _ _ (by omega) ⟨v,dn++ [(Ga l).2.1],b,(Ga l).2.2,rfl,(x.trans d).more y f,?_,λc h=>?_,i,by rw[j];simp,by simp;omega,rfl⟩
  ·rw[CH];exact w
  ·rcases z c h with a|a
   ·exact f c a
   ·have:=x.size;have:=d.size;omega
theorem APU {m:al}{c:aa}{s:Sl}{l:List Int}{t:A2N}(u:Own Ho BQ c s l)(O:l.length<=8796093022208)
  (w: ∀n,View Ho n s (l.mergeSort λx d=>decide (x<=d))->Mod (λb=>s.af=some b) c n->t (J1 #[]) n):AA m P Ig #[J4 s.p s.len s.cap] c t:=by
 intro j;have y:=u.len;rcases u.row with⟨rfl,rfl⟩|⟨g,o,p,h,B,Q,C,z⟩
 ·refine Calls.mono (Proofs.AnyM.slices_Sort_int_none Proofs.Tryz.iH none 0 (m.at c j)) ?_;rintro k D ⟨rfl,rfl⟩;exact⟨_,rfl,c,j,rfl,w c (by simpa using View.nil) Mod.refl⟩
 ·rw[p,y];have q:Ho.w=1:=rfl;rw[q,Bk] at C z;have F: ∀a x,l[a]? =some x->o[a]? =some (Value.int J9 x):=λa x e=>by
   have f:=dv (E:=Ho) e 0 (J6 J9 x) rfl;rw[<- z,q,Bk,G4,Fl] at f;split at f
   ·simpa using f
   ·cases f
  refine Calls.mono (Proofs.AnyM.slices_Sort_int Proofs.Tryz.iH g 0 s.cap l (m.at c j) ?_ (Af h) (by omega)) ?_
  ·intro a e;have e:a<l.length:=by simpa using e
   have f:=F a l[a] (A2 e);have G:l.toArray[a]! =l[a]:=by simp[e]
   refine⟨?_,?_⟩
   ·show ag c ⟨g,0+a,none⟩=_;unfold ag;rw[h];simp only[Option.isSome_none,Cd,if_false,AI,G,f]
   ·show fT c ⟨g,0+a,none⟩=false;unfold fT;rw[h];simp
  ·rintro k D ⟨rfl,H,os,rfl⟩;have I:(c.modify g (Sort.onCells (Sort.putCells (Value.int J9) 0 (l.mergeSort λx d=>decide (x<=d)).toArray))++os)[g]? =some (J2 (Sort.putCells (Value.int J9) 0 (l.mergeSort λx d=>decide (x<=d)).toArray o) BQ (0,0)):=by rw[LS (by simpa using Af h),GO,if_pos rfl,h];rfl
   refine⟨_,rfl,c.modify g (Sort.onCells (Sort.putCells (Value.int J9) 0 (l.mergeSort λx d=>decide (x<=d)).toArray))++os,j+H,rfl,w _ ⟨?_,B,λa x e=>⟨⟨g,0,none⟩,p,λi v r=>?_⟩⟩ ⟨by simp,λb J K=>?_⟩⟩
   ·rw[A0O];exact y
   ·have L:i=0:=by have:=(List.getElem?_eq_some_iff.1 r).1;have k:(Ho.enc x).length=1:=rfl;omega
    subst L;simp only[Ho,Hk,C5] at r;subst r;have A:a<(l.mergeSort λx d=>decide (x<=d)).length:=(List.getElem?_eq_some_iff.1 e).1;have M:a<o.size:=by rw[A0O] at A;omega
    rw[q,Bk,Bb,Bb,AI,G4];unfold ag;rw[I];simp only[Option.isSome_none,Cd,if_false,Sort.putCells,Array.getElem?_mapIdx];rw[CD M,IT,if_pos ⟨As _,by simpa using A⟩];have:(l.mergeSort λx d=>decide (x<=d)).toArray[a-0]! =x:=by rw[Hn];simp[e]
    rw[this]
   ·have N:g≠b:=λk=>K (by rw[Sl.af,p,k];rfl)
    rw[LS (by simpa using J),GO,if_neg N]
structure lH (nm:A2O) (m:Bx) (l:List Nat):Prop where
 inc:l.Pairwise (· < ·)
 mem: ∀n,n∈l↔1<=n/\n<=99999999/\(Ca (aC nm n) m.files).isSome=true
theorem vZ {k:A2O}{l:List Fi}:(Ca k l).isSome=true↔k∈l.map (·.name):=by
 constructor
 ·intro a;cases b:Ca k l with
  |none=>rw[b] at a;cases a
  |some f=>
   obtain⟨c,d⟩:=Jk b;exact List.mem_map.2 ⟨f,d,c⟩
 ·intro a;obtain⟨f,c,d⟩:=List.mem_map.1 a;cases b:Ca k l with
  |none=>exact absurd d (Qz b f c)
  |some f=>rfl
theorem w6 {m:Bx}(g:Gj m):(m.files.map (·.name)).Nodup:=List.pairwise_map.2 (g.sorted.imp λa=>Nk a)
theorem AIK {ns:List Nat}(n:ns.Nodup): ∃l:List Nat,((ns.map λd:Nat=>(d:Int)).mergeSort λx e=>decide (x<=e))=l.map (λd:Nat=>(d:Int))/\l.Pairwise (· < ·)/\ ∀d,d∈l↔d∈ns:=by
 have f:=List.mergeSort_perm (ns.map λd:Nat=>(d:Int)) (λx e=>decide (x<=e));have k:((ns.map λd:Nat=>(d:Int)).mergeSort λx e=>decide (x<=e)).Pairwise (λx e=>decide (x<=e)=true):=
  List.pairwise_mergeSort (λa b c o h=>by simp at o h ⊢;omega) (λa b=>by simp;omega) _
 generalize (ns.map λd:Nat=>(d:Int)).mergeSort (λx e=>decide (x<=e))=L at f k;have i: ∀x∈L,((x.toNat:Nat):Int)=x:=λx g=>by
  obtain⟨d,_,rfl⟩:=List.mem_map.1 (f.subset g);simp
 have p:L=(L.map Int.toNat).map (λd:Nat=>(d:Int)):=by
  rw[AT]
  conv=>lhs;rw[<- Kx L]
  exact CM λx g=>(i x g).symm
 have q:L.Nodup:=f.symm.nodup (by
  rw[SW,Nd];exact(List.nodup_iff_pairwise_ne.1 n).imp λr s=>r (by exact_mod_cast s))
 refine⟨L.map Int.toNat,p,?_,λd=>?_⟩
 ·rw[Nd];have h:L.Pairwise λx e=>decide (x<=e)=true/\x≠e:=k.and (List.nodup_iff_pairwise_ne.1 q)
  refine h.imp_of_mem λ{a c} t u m=>?_
  have w:=i a t;have y:=i c u;have z:a<=c:=of_decide_eq_true m.1;have A:=m.2;omega
 ·constructor
  ·intro j;obtain⟨x,g,rfl⟩:=List.mem_map.1 j;obtain⟨B,v,rfl⟩:=List.mem_map.1 (f.subset g);simpa using v
  ·intro j;exact List.mem_map.2 ⟨(d:Int),f.symm.subset (List.mem_map.2 ⟨d,j,rfl⟩),by simp⟩
theorem Zb {S:al}{h:aa}{b:Nat}{T:Nat->Prop}{m:Bx}{j:A2O}{N:A2N}(E:cm h)(D:Cm h b T m)(hd:m.down=false)(U:j.size<=1099511627776)(aL:bg m.files<=8000000000000)
  (V: ∀k s (l:List Nat),lH j m l->View Ho k s (l.map λe:Nat=>(e:Int))->Ext h k->(∀ c,s.af=some c->h.size<=c)->N (J1 #[J4 s.p s.len s.cap,J6 J9 0]) k):AA S P KJ #[Ay b,J7 j] h N:=by
 refine AAN ?_;unfold TK;refine tK D λs n F y aM=>⟨s,_,rfl,?_⟩
 have W:jx m=(m.files.map (·.name),0):=by unfold jx;rw[if_neg (by simp[hd])]
 rw[W] at F ⊢;refine ae.no rfl ?_;have X:=w6 D.aQ;have Y: ∀d∈m.files.map (·.name),d.size<=32:=λd g=>by
  obtain⟨f,Z,rfl⟩:=List.mem_map.1 g;exact D.aQ.names f Z
 have aN:(m.files.map (·.name)).length<=8000000000000:=by have:=T9 m.files;simp;omega
 have ab: ∀d,(Ca d m.files).isSome=true↔d∈m.files.map (·.name):=λd=>vZ
 dsimp only at F;generalize m.files.map (·.name)=names at*
 have v1:=F.view;refine Loop.rule (λO x G=> ∃(i:Nat) (sl:Sl) (ns:List Nat),x=(sl,(i:Int),())/\Ext n G/\Own Ho BQ G sl (ns.map λe:Nat=>(e:Int))/\(∀ c,sl.af=some c->n.size<=c)/\i<=names.length/\ns.length<=i/\(ns.map (aC j)).Sublist (names.take i)/\(∀ e∈ns,1<=e/\e<=99999999)/\(∀ d:Nat,1<=d->d<=99999999->aC j d∈names.take i->d∈ns)/\O=names.length-i) ?_
  ⟨0,⟨none,0,0⟩,[],rfl,Mod.refl,Own.nil,λc o=>by simp[Sl.af] at o,As _,A0 _,by simp,by simp,by simp,rfl⟩
 rintro K O _ G ⟨i,sl,ns,rfl,r,H,f,aO,aP,u,I,z,rfl⟩ ac;rw[v1.len];refine ae.intro (λJ=>?_) (λJ=>?_)
 ·have v:i<names.length:=by simpa using J
  refine ah.mk λad af=>?_
  have ag:names[i]? =some names[i]:=A2 v;rw[<- v1.len];refine(v1.ext r).idx ag λa _ c=>?_
  refine AJ.mk c.str ?_;refine ALG ((E.ext y).ext r) U (by have:=Y names[i] (AW v);omega) λai e w aj am=>⟨_,rfl,?_⟩
  have A:names.take (i+1)=names.take i++ [names[i]]:=by rw[AD,ag];rfl
  have Q: ∀(p:Sl) (q:List Nat) (k:aa),Ext n k->Own Ho BQ k p (q.map λe:Nat=>(e:Int))->(∀ c,p.af=some c->n.size<=c)->q.length<=i+1->(q.map (aC j)).Sublist (names.take (i+1))->(∀ e∈q,1<=e/\e<=99999999)->(∀ d:Nat,1<=d->d<=99999999->aC j d∈names.take (i+1)->d∈q)->ad (p,()) k:=λp q k an ao ap aq ar au av=>by
   refine af _ _ ?_;dsimp only;rw[Aa (by omega)];exact ac (names.length-(i+1)) _ _ (by omega) ⟨i+1,p,q,rfl,an,ao,ap,v,aq,ar,au,av,rfl⟩
  by_cases t:e=0
  ·refine ae.no (by simp[t]) (Q sl ns ai (r.trans w) (H.ext w) f (by omega) ?_ I ?_)
   ·rw[A];exact u.trans (List.sublist_append_left _ _)
   ·intro d B C g;rw[A] at g;rcases List.mem_append.1 g with g|g
    ·exact z d B C g
    ·exact absurd (List.mem_singleton.1 g).symm (aj t d B C)
  ·refine ae.yes (by simp;omega) ?_;obtain⟨aQ,ne⟩:=am t;refine ak.aZ (E:=Ho) (x:=(e:Int)) (s:=sl) (l:=ns.map λe:Nat=>(e:Int)) rfl qD (H.ext w) (by simp;omega) (by simp[maxLen];omega) λp aw ax ay az _=>?_
   refine Q p (ns++ [e]) aw ((r.trans w).more ay f) (by rw[CH];exact ax) (λc o=>?_) (by simp;omega) ?_ ?_ ?_
   ·rcases az c o with h|h
    ·exact f c h
    ·have:=r.size;have:=w.size;omega
   ·rw[A,CH];have aA: [e].map (aC j)= [names[i]]:=by rw[ne];rfl
    rw[aA];exact u.append (List.Sublist.refl _)
   ·intro d g;rcases List.mem_append.1 g with g|g
    ·exact I d g
    ·rw[List.mem_singleton.1 g];omega
   ·intro d B C g;rw[A] at g;rcases List.mem_append.1 g with g|g
    ·exact List.mem_append.2 (.inl (z d B C g))
    ·have:=IK ((List.mem_singleton.1 g).trans ne);exact List.mem_append.2 (.inr (by simp[this]))
 ·have v:i=names.length:=by simp at J;omega
  subst v;rw[BW] at u z;have aD:ns.Nodup:=by have n:=u.nodup X;rw[SW,Nd] at n;rw[SW];exact n.imp λh aE=>h (by rw[aE])
  obtain⟨l,aF,aG,aH⟩:=AIK aD;refine APU H (by simp;omega) λaI R aJ=>⟨rfl,?_⟩
  rw[aF] at R;refine V aI sl l ⟨aG,λe=>?_⟩ R ((y.trans r).more aJ λc o=>by have:=f c o;have:=y.size;omega) λc o=>by have:=f c o;have:=y.size;omega
  rw[aH,ab];constructor
  ·intro t;obtain⟨L,M⟩:=I e t;exact⟨L,M,u.subset (List.mem_map.2 ⟨e,t,rfl⟩)⟩
  ·rintro⟨L,M,aK⟩;exact z e L M aK
structure bR (h:aa) (t:Nat) (l:List Pr) (f:List UInt8) (lo hi:Nat):Prop where
 at_: ∃fs bs:Sl,h[t]? =some (J2 #[J4 fs.p fs.len fs.cap,J4 bs.p bs.len bs.cap,J7 (AX f),J6 J9 (l.length:Int)] LZ (0,0))/\View IB h fs (CK l)/\View IB h bs ((KE l).map λb=>AX (BL b))/\
  (∀ c,fs.af=some c->lo<=c/\c<hi)/\(∀ c,bs.af=some c->lo<=c/\c<hi)
 fx:lo<=t/\t<hi
theorem bR.mod {i j:aa}{t:Nat}{l:List Pr}{f:List UInt8}{b d:Nat}{k:Nat->Prop}(T:bR i t l f b d)(m:Mod k i j)(e: ∀c,b<=c->c<d-> ¬k c):bR j t l f b d:=by obtain⟨n,o,p,q,r,g,h⟩:=T.at_;exact⟨⟨n,o,m.af p (e t T.fx.1 T.fx.2),q.mod m (λc a=>e c (g c a).1 (g c a).2),r.mod m (λc a=>e c (h c a).1 (h c a).2),g,h⟩,T.fx⟩
theorem bR.ext {a b:aa}{t:Nat}{l:List Pr}{f:List UInt8}{c d:Nat}(T:bR a t l f c d)(m:Ext a b):bR b t l f c d:=T.mod m λ_ _ _ a=>a
theorem Vs(r:List UInt8)(a:List (List UInt8)):aH (r::a)=Cj r++aH a:=rfl
theorem AMC {w:al}{b:aa}{a:List (List UInt8)}{p:A2N}(k: ∀r∈a,r.length<=1048576)(y:(aH a).length<=1099511627776)
  (q: ∀g sl,Ext b g->View IB g sl (a.map AX)->(∀ c,sl.af=some c->b.size<=c/\c<g.size)->p (J1 #[J4 sl.p sl.len sl.cap,J6 J9 ((aH a).length:Int)]) g):AA w P KV #[J7 (AX (aH a))] b p:=by
 refine Uw ?_;unfold Qj;refine Loop.rule (λm x l=> ∃(i:Nat) (sl:Sl),x=(sl,AX (aH (a.drop i)),())/\m=a.length-i/\i<=a.length/\Ext b l/\Own IB Ar l sl ((a.take i).map AX)/\(∀ c,sl.af=some c->b.size<=c)) ?_
  ⟨0,⟨none,0,0⟩,rfl,rfl,by omega,Mod.refl,Own.nil,λc d=>by simp[Sl.af] at d⟩
 rintro K m _ l ⟨i,sl,rfl,rfl,z,n,f,o⟩ t;dsimp only;have O:a.length<=(aH a).length:=by
  clear y q z f t
  induction a with
  |nil=>simp
  |cons r a A=>
   have Q:=(I6 (k r AN)).1;have:=A λx h=>k x (An _ h)
   simp only[aH,AH,A1,A5] at this ⊢;omega
 have B:(aH (a.drop i)).length<=1099511627776:=by
  have C:aH a=aH (a.take i)++aH (a.drop i):=by unfold aH;rw[<- GB,DM]
  have:=congrArg List.length C;rw[A1] at this;omega
 refine vJ (AF B (by decide)) λD e=>⟨_,_,_,rfl,?_⟩
 by_cases j:i<a.length
 ·have h:a[i]? =some a[i]:=A2 j;have u:=k _ (AW j);have hd:a.drop i=a[i]::a.drop (i+1):=Fo j;have v:=Sd h;generalize a[i]=r at h u hd v;rw[hd,Vs,vq u];refine ae.yes rfl ?_;refine ak.aZ (E:=IB) (x:=AX r) (s:=sl) rfl qI (f.ext e) (by simp only[By,AE];omega) (by simp only[By,AE,maxLen];omega) λF R G H I S=>?_
  refine t (a.length-(i+1)) _ _ (by omega) ⟨i+1,F,rfl,rfl,j,(n.trans e).more H o,?_,λc d=>?_⟩
  ·rw[v,CH];exact G
  ·rcases I c d with b|b
   ·exact o c b
   ·have:=n.size;have:=e.size;omega
 ·have J:a.drop i= []:=Hv (by omega);have L:a.take i=a:=AG (by omega);rw[J];rw[L] at f;have M:=Sk;refine ae.no (by simp only[aH,List.flatMap_nil];simpa using M) ?_;have N:J8 J9 (((AX (aH a)).size:Int)-((AX (aH [])).size:Int))=((aH a).length:Int):=by rw[AP,AP];show J8 J9 (((aH a).length:Int)-((0:Nat):Int))=_;rw[wrap_i64 (by omega) (by omega)];omega
  rw[N];exact q D sl (n.trans e) (f.ext e).view λc d=>⟨o c d,(f.ext e).lt d⟩
def Xa(l:List Pr)(a:Nat):A2O:=match a with|0=>⟨#[]⟩|a+1=>IY l a
theorem APd {l:List Pr}(h: ∀p∈l,Kj p)(i:l.Pairwise λp j=>aN p.key j.key=true){a:Nat}{p:Pr}(b:l[a]? =some p):(aN p.key (Xa l a)||bS p.key (Xa l a))=false:=by
 have d:aN (Xa l a) p.key=true:=by
  cases a with
  |zero=>
   have:=(h p (AK b)).key;unfold Xa;rw[Xp];have k:bl p.key≠ []:=by intro e;have:=BA p.key;rw[e] at this;simp at this;omega
   cases f:bl p.key with
   |nil=>exact absurd f k
   |cons c t=>
    simp only[decide_eq_true_eq];show([]:List UInt8)<bl p.key;rw[f];exact List.nil_lt_cons c t
  |succ a=>
   have m:a<l.length:=by have:=(List.getElem?_eq_some_iff.1 b).1;omega
   have g:l[a]? =some l[a]:=A2 m;have:=wE i g b;show aN (IY l a) p.key=true;unfold IY;rw[g];exact this
 rw[Hi];refine⟨?_,?_⟩
 ·cases n:aN p.key (Xa l a) with
  |false=>rfl
  |true=>have:=DK d n;rw[Bq] at this;cases this
 ·rw[Cb,decide_eq_false_iff_not];intro e;rw[e,Bq] at d;cases d
theorem AOP {a N:Nat}(b:a=N+1)(c:N<=1099511627776):J8 J9 (((a:Nat):Int)-(1:Int))=((N:Nat):Int):=by subst b;rw[wrap_i64 (by omega) (by omega)];omega
theorem gM.jd {s:List UInt8}{l:List Pr}{f:List UInt8}(T:gM s l f):(aH (aR l f)).length<=1099511627776:=by
 have:=Tm (Mr T);have b:=T.many;have a:(aR l f).length=Bo l+1:=by simp[aR,Gd]
 have c:Bo l<=12501:=by unfold Bo;omega
 rw[a] at this;have d:(Bo l+1)*1048590<=12502*1048590:=AS _ (by omega);omega
theorem wF {bm:al}{e:aa}{l:List Pr}{f:List UInt8}{aO:A2N}(T:gM (aH (aR l f)) l f)
  (bn: ∀U t,Ext e U->bR U t l f e.size U.size->aO (J1 #[Ay t,J6 J9 0]) U):AA bm P NG #[J7 (AX (aH (aR l f)))] e aO:=by
 refine ADj ?_;unfold XZ;have ck:=ue T.ne;have cl:=T.many;have cm:Bo l<=12501:=by unfold Bo;omega
 have aP:=T.jb;refine AMC (Mr T) (gM.jd T) λh sl F v1 aQ=>⟨sl,_,rfl,?_⟩
 have aS:sl.len=Bo l+1:=by rw[v1.len];simp[aR,Gd]
 have cn:=v1.cap;rw[AOP aS (by omega)];refine ah.mk λK aT=>?_
 refine ae.no (by rw[AP];simp) ?_;refine aT _ _ (ae.no (by rw[aS];simp;omega) ?_);clear aT;simp only[A6,Hn];refine⟨⟨by omega,by omega⟩,?_⟩;have bo:((aR l f).map AX)[Bo l]? =some (AX (UX l f)):=by rw[Bs];unfold aR;rw[DB (by simp[Gd])];simp[Gd]
 refine v1.idx bo λa aj d=>?_
 refine AJ.mk d.str ?_;have aU:=Ws T;refine KP λaV aW V=>⟨_,rfl,?_⟩
 have W: ∀ {e:aa} {s:Sl} {ks:List A2O},Own IB Ar e s ks-> ∀ {c:Nat} {r:Rd},Ib e c r->s.af≠some c:=λbp c r bq=>bp.ne bq (by decide)
 refine ak.mk λX _ br G co=>?_
 have aX:Ib X h.size _:=Ah G aW;have cp:=AV (n:=Bo l) (by omega);have bs:UX l f=BZ (Bo l)++(GZ (CK l)++(BZ l.length++BR f)):=by unfold UX GZ;simp only[A4]
 rw[bs] at aX aU;have cq:=AV (n:=l.length) (by omega);have cr:(BR f).length=(BZ f.length).length+f.length:=by simp[BR]
 have cs:=AV (n:=f.length) (by omega);have bt:=Px (ks:=CK l) (OH T.ok);rw[Gv] at bt;refine DR (most:=Bo l) aX (AF aU (by decide)) (by omega) λbu am an=>⟨_,rfl,?_⟩
 rw[Ci (by omega) (A0 _)] at am ⊢;dsimp only at am ⊢;refine ae.no (by simp) ?_;have ct:h.size<aV.size:=Af aW;have bv:=an.af br (by omega);have Y:Ext e X:=(F.trans V).trans G;have cu:Ext e bu:=Y.more an (λb bw=>by rw[bw];exact F.size);have aY: ∀ {g:aa},(∀ c,sl.af=some c->g[c]? =h[c]?)->View IB g ⟨A7 sl.p sl.cap 0 1,Bo l,sl.cap⟩ ((KE l).map λb=>AX (BL b)):=by
  intro g d;have v:View IB g sl ((aR l f).map AX):=⟨v1.len,v1.cap,λi x hi=>by
   obtain⟨a,aj,bx⟩:=v1.cells i x hi;refine⟨a,aj,λj v aZ=>?_⟩;rw[<- bx j v aZ];exact Pk (by rw[aM,aM];exact d _ (by simp[Sl.af,aj]))⟩
  have:=v.sub (lo:=0) (hi:=Bo l) (As _) (by simp[aR,Gd]);have H:(((aR l f).map AX).take (Bo l)).drop 0=(KE l).map λb=>AX (BL b):=by rw[Nx,List.map_take.symm];unfold aR;rw[NO (by simp[Gd]),AG (by simp[Gd]),AT];rfl
  rw[H] at this;exact this
 generalize cv:aV.size=u at*
 refine Loop.rule (λm x g=> ∃(i:Nat) (o:Sl),x=((i:Int),())/\m=Bo l-i/\i<=Bo l/\Ib g h.size ⟨GZ ((CK l).drop i)++(BZ l.length++BR f),false⟩/\
  g[u]? =some (J2 #[J4 o.p o.len o.cap,J4 (A7 sl.p sl.cap 0 1) (Bo l) sl.cap,J7 ⟨#[]⟩,J6 J9 0] LZ (0,0))/\Own IB Ar g o ((CK l).take i)/\(∀ c,o.af=some c->u<c)/\
  Mod (λc=>c=h.size\/u<=c) X g) ?_ ⟨0,⟨none,0,0⟩,rfl,rfl,by omega,am,bv,Own.nil,λc d=>by simp[Sl.af] at d,an.ai λc _ d=> .inl d⟩
 rintro cw m _ a0 ⟨i,o,rfl,rfl,hi,z,ao,I,C,a1⟩ a2;dsimp only;refine ae.intro (λq=>?_) (λq=>?_)
 ·have J:i<Bo l:=by simp at q;omega
  refine AY.mk (s:=o) (AL ao rfl) ?_;have w:=QW J;have hd:(CK l).drop i=IY l (8*i)::(CK l).drop (i+1):=by
   have a3:i<(CK l).length:=by rw[Gv];exact J
   rw[Fo a3];congr 1;rw[A2 a3] at w;exact C2 w
  have a4:=Sd w;have a5:=OH T.ok _ (AK w);generalize IY l (8*i)=k at w hd a4 a5;have bz:GZ ((CK l).drop i)++(BZ l.length++BR f)=BR (bl k)++(GZ ((CK l).drop (i+1))++(BZ l.length++BR f)):=by rw[hd];simp[GZ]
  have bA:=Px (ks:=(CK l).drop i) λk bB=>OH T.ok k (HQ bB)
  rw[DE,Gv] at bA;have a6:(GZ ((CK l).drop i)++(BZ l.length++BR f)).length<1099511627776:=by simp only[A1];omega
  rw[bz] at z a6;refine Hy z a6 λL Z ap=>⟨_,rfl,?_⟩
  rw[JD (by rw[BA];omega)] at Z ⊢;dsimp only at Z ⊢;rw[Da];have ac:=ap.af ao (by omega);have aq:=I.mod ap (λc d e=>W I z (e▸d));refine⟨AL ac rfl,?_⟩;refine ak.mk λbD _ bE M cx=>⟨AL (Ah M ac) rfl,?_⟩
  have bF:Own IB Ar bD ⟨some ⟨L.size,0,none⟩,1,1⟩ [k]:=Own.lit (E:=IB) (l:= [k]) bE rfl (by simp[maxLen]);refine GI (s:=o) (src:=⟨some ⟨L.size,0,none⟩,1,1⟩) qI (aq.ext M) bF.view (by simp only[AE,CN];omega) (by simp only[AE,CN,maxLen];omega) λa7 cy bG ar bH cz=>?_
  have cB:u<L.size:=Af ac;have cC: ∀c,o.af=some c->c<L.size:=λc d=>aq.lt d
  have bI:=ar.af (Ah M ac) (λe=>by have:=C _ e;omega);refine ab.mk bI (by simp) λcD bJ au cE=>?_
  have a8: ∀c,a7.af=some c->u<c:=λc d=>by
   rcases bH c d with e|e
   ·exact C c e
   ·omega
  rw[Aa (by omega)];refine a2 (Bo l-(i+1)) _ _ (by omega) ⟨i+1,a7,rfl,rfl,J,?_,by simpa using bJ,?_,a8,?_⟩
  ·refine au.af (ar.af (Ah M Z) λe=>?_) (by omega);exact W aq Z e
  ·rw[a4];exact bG.mod au (λc d e=>by have:=a8 c d;omega)
  ·have ad:Mod (λc=>c=h.size\/u<=c) a0 L:=ap.ai λc _ d=> .inl d
   exact(((a1.trans ad).trans M.mod).trans (ar.ai λc _ d=> .inr (by have:=C c d;omega))).trans (au.ai λc _ d=> .inr (by omega))
 ·have J:i=Bo l:=by simp at q;omega
  subst J;clear a2;have bK:(CK l).drop (Bo l)= []:=Hv (by rw[Gv];omega);have bL:(CK l).take (Bo l)=CK l:=AG (by rw[Gv];omega);rw[bK] at z;rw[bL] at I;have bM:J8 J9 (((Bo l:Nat):Int)*(8:Int))=((Bo l*8:Nat):Int):=by rw[wrap_i64 (by omega) (by omega)];omega
  rw[bM];have z:Ib a0 h.size ⟨BZ l.length++BR f,false⟩:=z;have bN:l.length<=Bo l*8:=by unfold Bo;omega
  refine DR (most:=Bo l*8) z (by simp only[A1];omega) (by omega) λcF av aw=>⟨_,rfl,?_⟩
  rw[Ci (by omega) bN] at av ⊢;dsimp only at av ⊢;have bO:=aw.af ao (by omega);rw[Bb,Bb];refine ab.mk bO (by simp) λbP bQ ax cG=>?_
  have a9:Ib bP h.size ⟨BR f++ [],false⟩:=by rw[AM];exact ax.af av (by omega)
  refine Hy a9 (by show(BR f++ []).length<_;rw[AM];omega) λcH ay az=>⟨_,rfl,?_⟩
  rw[JD (by omega)] at ay ⊢;dsimp only at ay ⊢;have bT:=az.af bQ (by omega);refine ab.mk bT (by simp) λD N aA cI=>?_
  have bU:=aA.af ay (show h.size≠u by omega);have N:D[u]? =some (J2 #[J4 o.p o.len o.cap,J4 (A7 sl.p sl.cap 0 1) (Bo l) sl.cap,J7 (AX f),J6 J9 (l.length:Int)] LZ (0,0)):=by simpa using N
  have aC:Own IB Ar D o (CK l):=by have ad:=I.mod aw (λc d e=>W I z (e▸d));have aD:=ad.mod ax (λc d e=>by have:=C c d;omega);have O:=aD.mod az (λc d e=>W aD a9 (e▸d));exact O.mod aA (λc d e=>by have:=C c d;omega)
  have Q:Mod (λc=>c=h.size\/u<=c) X D:=
   (((a1.trans (aw.ai λc _ d=> .inl d)).trans (ax.ai λc _ d=> .inr (by omega))).trans (az.ai λc _ d=> .inl d)).trans (aA.ai λc _ d=> .inr (by omega))
  have cJ:h.size<=u:=by omega
  have bV:Ext e D:=by refine⟨by have:=Y.size;have:=Q.size;omega,λc d _=>?_⟩;have:=F.size;have:=Y.size;exact(Q.get c (by omega) (by omega)).trans (Y.get c d (λe=>e))
  have ba: ∀ {g:aa},Ext D g-> ∀c,sl.af=some c->g[c]? =h[c]? :=by intro g x c d;have:=aQ c d;have cK:=Q.size;have:=G.size;have:=V.size;exact((x.get c (by omega) (λe=>e)).trans (Q.get c (by omega) (by omega))).trans ((G.get c (by omega) (λe=>e)).trans (V.get c (by omega) (λe=>e)))
  have bW: ∀c,Sl.af ⟨A7 sl.p sl.cap 0 1,Bo l,sl.cap⟩=some c->e.size<=c/\c<h.size:=λc d=>aQ c (Yq d)
  refine ah.mk λcL bb=>?_
  refine Mt bU ⟨_,rfl,ae.no rfl ?_⟩;have bX:f≠ []:=λH=>by rw[H] at aP;simp at aP
  refine AJ.mk (AL N rfl) (ae.no ?_ ?_)
  ·rw[Vz,EE,decide_eq_false_iff_not];exact bX
  refine AJ.mk (AL N rfl) ?_;refine bb _ _ (ae.no (by rw[AP];simp;omega) ?_);clear bb;refine Loop.rule (λm x g=> ∃i:Nat,x=(Xa l (min (8*i) l.length),((min (8*i) l.length:Nat):Int),(i:Int),())/\m=Bo l-i/\i<=Bo l/\Ext D g) ?_ ⟨0,by simp[Xa],rfl,by omega,Mod.refl⟩;rintro cM m _ bY ⟨i,rfl,rfl,hi,y⟩ bZ;dsimp only;have af:=Ah y N;refine ae.intro (λq=>?_) (λq=>?_)
  ·have A:i<Bo l:=by simp at q;omega
   have aE:=Pq A;have cN:8*i<l.length:=by unfold Bo at A;omega
   have b0:min (8*i) l.length=8*i:=by omega
   rw[b0];have b1:((KE l).map λb=>AX (BL b))[i]? =some (AX (BL (CB l i))):=by simp[KE,A]
   refine(aY (ba y)).idx b1 λad cO b2=>?_
   rw[A6];refine AJ.mk b2.str ?_;have b3: ∀p∈CB l i,Kj p:=λp b4=>T.ok p (Ow b4)
   have cP:=Pw T.ok A;refine qH b3 (by omega) λps B aF aG cQ=>⟨_,_,rfl,?_⟩
   have bc:=Ah aG af;have R:ps.len=(CB l i).length:=aF.len;refine ah.mk λbd b5=>?_
   have aI:(CB l i)[0]? =some (CB l i)[0]:=A2 (by omega);have be:IY l (8*i)=(CB l i)[0].key:=by have:=PW (l:=l) (i:=i) (j:=0) (by omega);rw[aI] at this;unfold IY;rw[G4] at this;rw[<- this]
   generalize (CB l i)[0]=bf at aI be;have b6:bd (false,()) B:=by
    refine b5 _ _ (ae.no rfl ?_);refine Loop.rule (λm x g=> ∃j:Nat,x=(Xa l (8*i+j),((8*i+j:Nat):Int),(j:Int),())/\m=(CB l i).length-j/\j<=(CB l i).length/\Ext B g) ?_ ⟨0,by simp,rfl,by omega,Mod.refl⟩;rintro cR m _ cS ⟨j,rfl,rfl,aZ,ai⟩ b7;dsimp only;refine ae.intro (λq=>?_) (λq=>?_)
    ·have S:j<(CB l i).length:=by rw[R] at q;simp at q;omega
     have w:(CB l i)[j]? =some (CB l i)[j]:=A2 S;have aJ:(CB l i)[j]∈l:=Ow (AW S);have aK:l[8*i+j]? =some (CB l i)[j]:=by rw[<- PW (by omega)];exact w
     generalize (CB l i)[j]=p at w aJ aK;have b8:=T.ok p aJ;refine(aF.ext ai).view.idx w λaD cT b9=>?_
     obtain⟨ca,cb,cc⟩:=b9.pair;rw[A6];refine AJ.mk ca (AJ.mk cb (Ab.mk cc ?_));refine ak.pair λcU cV cW aL bg cX=>?_
     refine ah.mk λcY cd=>?_
     refine AJ.mk (AL aL rfl) ?_;rw[APd T.ok T.inc aK];refine ae.no rfl ?_;have ce:=Ah bg (Ah ai bc);refine AJ.mk (AL ce rfl) ?_;refine AJ.mk (AL aL rfl) ?_;have a5:=b8.bH;refine wk (by omega) ⟨_,rfl,?_⟩;rw[EE,T.has p aJ];refine cd _ _ (ae.no rfl ?_);refine AJ.mk (AL aL rfl) ?_;rw[Aa (by omega),Aa (by omega)];refine b7 ((CB l i).length-(j+1)) _ _ (by omega) ⟨j+1,?_,rfl,S,ai.trans bg⟩;have cf:Xa l (8*i+(j+1))=p.key:=by show IY l (8*i+j)=p.key;unfold IY;rw[aK]
     rw[cf];rfl
    ·have S:j=(CB l i).length:=by rw[R] at q;simp at q;omega
     rw[Aa (by omega)];have aN:min (8*(i+1)) l.length=8*i+j:=by rw[S];unfold CB;rw[AE,DE];omega
     refine bZ (Bo l-(i+1)) _ _ (by omega) ⟨i+1,?_,rfl,A,(y.trans aG).trans ai⟩;rw[aN]
   have bh:bC ps.p ps.len 0 λO=>AJ B (O.add ((0:Int).toNat*3)) λcg=>AY B (⟨u,0,none⟩:Q6) λbi=>bC bi.p bi.len ((i:Nat):Int) λbj=>AJ B (bj.add (((i:Nat):Int).toNat*1)) λch=>bd ((!bS cg ch),()) B:=by
    obtain⟨O,ci,bk⟩:=aF.view.cells 0 bf aI;rw[HL,add_zero] at bk;refine bC.mk (k:=0) ci (by omega) ?_;refine AJ.mk (n:=bf.key) (by show ag B (O.add 0)=_;rw[add_zero];exact bk.pair.1) ?_;refine AY.mk (s:=o) (AL bc rfl) ?_;refine((aC.ext y).ext aG).view.idx (QW A) λbj cZ cj=>?_
    rw[A6];refine AJ.mk cj.str ?_;rw[be,Cb,decide_eq_true rfl];exact b6
   refine ae.no rfl (ae.no (by rw[R];simp;intro H;rw[H] at aE;simp at aE) (ae.no (by rw[R];simp;omega) ?_));rw[Aa (by omega)];refine ae.intro (λq=>?_) (λ_=>bh);have:i+1<Bo l:=by simp at q;omega
   exact ae.no (by rw[R,aE.2.2 this];rfl) bh
  ·have A:i=Bo l:=by simp at q;omega
   have aN:min (8*i) l.length=l.length:=by rw[A];omega
   rw[aN];refine AC.mk (AL af rfl) (ae.no (by simp) ?_);refine bn bY u (bV.trans y) ⟨⟨o,⟨A7 sl.p sl.cap 0 1,Bo l,sl.cap⟩,af,(aC.ext y).view,aY (ba y),λc d=>?_,λc d=>?_⟩,?_⟩
   ·have h:=(aC.ext y).lt d;have:=C c d;have:=F.size;omega
   ·have h:=bW c d;have:=Q.size;have:=y.size;have:=G.size;have:=V.size;omega
   ·have:=Af af;have:=F.size;omega
def VH(g:al)(h:Int)(f:J0)(i:aa)(j:A2N):=Loop (λK (s:Int×Int×Unit) a=>ae (decide (s.1<s.2.1)) (ah (λ(b:Int×Int×Unit) k=>K (b.1,b.2.1,()) k) λc=>EH g P f #[J6 J9 (J8 J9 ((J8 .u64 (J8 J9 (s.1+s.2.1))).fdiv ((2:Int)^(1:Nat))))] a λv d=> ∃e:Bool,v=J3 e/\(ae (!e) (c ((J8 J9 ((J8 J9 ((J8 .u64 (J8 J9 (s.1+s.2.1))).fdiv ((2:Int)^(1:Nat))))+1)),s.2.1,()) d) (c (s.1,(J8 J9 ((J8 .u64 (J8 J9 (s.1+s.2.1))).fdiv ((2:Int)^(1:Nat)))),()) d))) (j (J6 J9 s.1) a)) (0,h,()) i
theorem ABQ {a b f c d}(e:VH a b f c d):AA a P Oy #[J6 J9 b,f] c d:=Ac (CX 2 (AO (.block (.loop [(5,.one (.int J9)),(6,.one (.int J9))] [1] (AO FQ (.bK [(5,.one (.int J9)),(6,.one (.int J9))] [1] jP)))) Bv)) (by kernel_rfl) e
def GY(b:al)(s:Sl)(v:Int)(c:aa)(d:A2N):=AA b P IW #[J4 s.p s.len s.cap,J6 J9 v] c λv1 e=> ∃a:Int,v1=J6 J9 a/\(d (J3 (decide (a>=0))) e)
theorem Kn {a s v b c}(d:GY a s v b c):AA a P EM #[J4 s.p s.len s.cap,J6 J9 v] b c:=Ac Ex (by kernel_rfl) d
def IQ(g:al)(s:Sl)(v:Int)(e:aa)(d:A2N):=Loop (λK (b:Int×Unit) c=>ae (decide (b.1<(s.len:Int))) (bC s.p s.len b.1 λa=>AC J9 c (a.add (b.1.toNat*1)) λf=>ae (v==f) (d (J6 J9 b.1) c) (K ((J8 J9 (b.1+1)),()) c)) (d (J6 J9 (-1)) c)) (0,()) e
theorem MN {a s v b c}(d:IQ a s v b c):AA a P IW #[J4 s.p s.len s.cap,J6 J9 v] b c:=Ac pB (by kernel_rfl) d
def Hg(b:al)(s:Sl)(i:Int)(v:Sl)(e:aa)(d:A2N):=aG ((0:Int)<=i/\i<=(s.len:Int))<| ae ((v.len:Int)==0) (d (J4 s.p s.len s.cap) e) (ae (i==(s.len:Int)) (BF b P (Builtin.append_ #[Cu,Cu] Cu #[J4 s.p s.len s.cap,J4 v.p v.len v.cap]) e λv1 h=> ∃c:Sl,v1=J4 c.p c.len c.cap/\(d (J4 c.p c.len c.cap) h)) (ae (decide ((J8 J9 ((s.len:Int)+(v.len:Int)))>(s.cap:Int))) (aG ((0:Int)<=i/\i<=(s.cap:Int))<| BF b P (Builtin.append_ #[Cu,BQ] Cu #[J4 (A7 s.p s.cap 0 1) (i.toNat-0) (s.cap-0),J6 J9 (J8 J9 ((J8 J9 ((s.len:Int)+(v.len:Int)))-i))]) e λv2 j=> ∃a:Sl,v2=J4 a.p a.len a.cap/\(aG ((0:Int)<=i/\i<=(a.len:Int))<| BF b P (Builtin.copy_ #[Cu,Cu] BQ #[J4 (A7 a.p a.cap i.toNat 1) (a.len-i.toNat) (a.cap-i.toNat),J4 v.p v.len v.cap]) j λk l=> ∃m:Int,k=J6 J9 m/\(aG ((0:Int)<=(J8 J9 (i+(v.len:Int)))/\(J8 J9 (i+(v.len:Int)))<=(a.len:Int))<| aG ((0:Int)<=i/\i<=(s.len:Int))<| BF b P (Builtin.copy_ #[Cu,Cu] BQ #[J4 (A7 a.p a.cap ((J8 J9 (i+(v.len:Int))).toNat) 1) (a.len-((J8 J9 (i+(v.len:Int))).toNat)) (a.cap-((J8 J9 (i+(v.len:Int))).toNat)),J4 (A7 s.p s.cap i.toNat 1) (s.len-i.toNat) (s.cap-i.toNat)]) l λn o=> ∃p:Int,n=J6 J9 p/\(d (J4 a.p a.len a.cap) o)))) (aG ((0:Int)<=(J8 J9 ((s.len:Int)+(v.len:Int)))/\(J8 J9 ((s.len:Int)+(v.len:Int)))<=(s.cap:Int))<| aG ((0:Int)<=(J8 J9 (i+(v.len:Int)))/\(J8 J9 (i+(v.len:Int)))<=(((((J8 J9 ((s.len:Int)+(v.len:Int))).toNat)-0):Nat):Int))<| mI b P GK #[J4 v.p v.len v.cap,J4 (A7 (A7 s.p s.cap 0 1) (s.cap-0) ((J8 J9 (i+(v.len:Int))).toNat) 1) ((((J8 J9 ((s.len:Int)+(v.len:Int))).toNat)-0)-((J8 J9 (i+(v.len:Int))).toNat)) ((s.cap-0)-((J8 J9 (i+(v.len:Int))).toNat))] e λq f=> ∃g:Bool,q=J3 g/\(ae (!g) (aG ((0:Int)<=(J8 J9 (i+(v.len:Int)))/\(J8 J9 (i+(v.len:Int)))<=(((((J8 J9 ((s.len:Int)+(v.len:Int))).toNat)-0):Nat):Int))<| aG ((0:Int)<=i/\i<=(((((J8 J9 ((s.len:Int)+(v.len:Int))).toNat)-0):Nat):Int))<| BF b P (Builtin.copy_ #[Cu,Cu] BQ #[J4 (A7 (A7 s.p s.cap 0 1) (s.cap-0) ((J8 J9 (i+(v.len:Int))).toNat) 1) ((((J8 J9 ((s.len:Int)+(v.len:Int))).toNat)-0)-((J8 J9 (i+(v.len:Int))).toNat)) ((s.cap-0)-((J8 J9 (i+(v.len:Int))).toNat)),J4 (A7 (A7 s.p s.cap 0 1) (s.cap-0) i.toNat 1) ((((J8 J9 ((s.len:Int)+(v.len:Int))).toNat)-0)-i.toNat) ((s.cap-0)-i.toNat)]) f λr t=> ∃u:Int,r=J6 J9 u/\(aG ((0:Int)<=i/\i<=(((((J8 J9 ((s.len:Int)+(v.len:Int))).toNat)-0):Nat):Int))<| BF b P (Builtin.copy_ #[Cu,Cu] BQ #[J4 (A7 (A7 s.p s.cap 0 1) (s.cap-0) i.toNat 1) ((((J8 J9 ((s.len:Int)+(v.len:Int))).toNat)-0)-i.toNat) ((s.cap-0)-i.toNat),J4 v.p v.len v.cap]) t λw x=> ∃y:Int,w=J6 J9 y/\(d (J4 (A7 s.p s.cap 0 1) (((J8 J9 ((s.len:Int)+(v.len:Int))).toNat)-0) (s.cap-0)) x))) (aG ((0:Int)<=(s.len:Int)/\(s.len:Int)<=(((((J8 J9 ((s.len:Int)+(v.len:Int))).toNat)-0):Nat):Int))<| BF b P (Builtin.copy_ #[Cu,Cu] BQ #[J4 (A7 (A7 s.p s.cap 0 1) (s.cap-0) ((s.len:Int).toNat) 1) ((((J8 J9 ((s.len:Int)+(v.len:Int))).toNat)-0)-((s.len:Int).toNat)) ((s.cap-0)-((s.len:Int).toNat)),J4 v.p v.len v.cap]) f λz A=> ∃B:Int,z=J6 J9 B/\(aG ((0:Int)<=i/\i<=(((((J8 J9 ((s.len:Int)+(v.len:Int))).toNat)-0):Nat):Int))<| AA b P IR #[J4 (A7 (A7 s.p s.cap 0 1) (s.cap-0) i.toNat 1) ((((J8 J9 ((s.len:Int)+(v.len:Int))).toNat)-0)-i.toNat) ((s.cap-0)-i.toNat),J6 J9 (v.len:Int)] A λC D=>C=J1 #[]/\(d (J4 (A7 s.p s.cap 0 1) (((J8 J9 ((s.len:Int)+(v.len:Int))).toNat)-0) (s.cap-0)) D)))))))
theorem MJ {a s i v b c}(d:Hg a s i v b c):AA a P Cv #[J4 s.p s.len s.cap,J6 J9 i,J4 v.p v.len v.cap] b c:=Ac sS (by kernel_rfl) d
end Go.Lf.G
namespace Go.Lf.G.M
open Go Go.Lf Go.Lf.G
theorem toList_inj {a b:A2O}:(a.toList==b.toList)=decide (a=b):=by rw[ByteArray.toList_eq,ByteArray.toList_eq];rw[Fm];simp[Mb,<-Array.toList_inj]
def Aj(x:Pr):Int:=
 if(decide (x.key=⟨#[]⟩)||(x.gone&& !decide (x.val=⟨#[]⟩))) then 1 else if(decide (x.key.size>64)||decide (x.val.size>8192)) then 2 else 0
theorem Cb {a b:A2O}:bS a b=decide (a=b):=toList_inj
def gW(key:A2O)(l:List Pr):List Pr:=l.takeWhile λa=>aN a.key key
def aS(key:A2O)(l:List Pr):Nat:=(gW key l).length
def BV(key:A2O)(l:List Pr):Bool:=match l[aS key l]? with|some a=>decide (a.key=key)|none=>false
theorem lX(key:A2O)(l:List Pr):aS key l<=l.length:=(ZD _).length_le
theorem Tf {e:Type}{p:e->Bool}: ∀ {l:List e} {i:Nat},i<=(l.takeWhile p).length->(∀ x,l[i]? =some x->p x=true->i<(l.takeWhile p).length)/\(∀ x,l[i]? =some x->p x=false->i=(l.takeWhile p).length)/\(l[i]? =none->i=(l.takeWhile p).length)
 | [],i,a=>by simp at a;subst a;simp
 |y::l,0,a=>by
  refine⟨λx b c=>?_,λx b c=>?_,λa=>by simp at a⟩
  ·simp at b;subst b;simp[c]
  ·simp at b;subst b;simp[c]
 |y::l,i+1,a=>by
  rw[Mn] at a ⊢;split at a
  ·rename_i f;have d:=Tf (p:=p) (l:=l) (i:=i) (by simpa using a);simp only[f,if_true,A5];refine⟨λx b c=>?_,λx b c=>?_,λg=>?_⟩
   ·have:=d.1 x (by simpa using b) c;omega
   ·have:=d.2.1 x (by simpa using b) c;omega
   ·have:=d.2.2 (by simpa using g);omega
  ·simp at a
theorem HZ:PO P AQ AR Ba.w 40=true:=by kernel_rfl
theorem AMO:PO P I4 AQ gY.w 24=true:=by kernel_rfl
theorem yi:PO P A9 Be jv.w 8=true:=by kernel_rfl
def Wp(x:Pr)(l:List Pr):List Pr:=l.take (aS x.key l)++ [x]++l.drop (if BV x.key l then aS x.key l+1 else aS x.key l)
def Cr(x:Pr)(l:List Pr):List Pr:=if Aj x≠0 then l else Wp x l
theorem ANN(x:Pr)(l:List Pr):(Wp x l).length<=l.length+1:=by unfold Wp;have:=lX x.key l;simp;split<;>omega
theorem AMG(x:Pr)(l:List Pr):(Cr x l).length<=l.length+1:=by
 unfold Cr;split
 ·omega
 ·exact ANN x l
theorem pO {a:J0}{c:J0}:(#[]++ #[a]++ #[c]:Array J0)= #[a,c]:=rfl
theorem AFS {G:al}{e H:aa}{fv:J0}{S:Nat->Prop}{l:List Pr}{I:A2N}(J:Dx G P fv S H l)(K: ∀b,S b->e[b]? =H[b]?)(ay:l.length<=1099511627776)
  (ad: ∀s h,Own Ba AR h s l->(∀ c,s.af=some c->e.size<=c)->Ext e h->I (J4 s.p s.len s.cap) h):AA G P Ct #[J4 none 0 0,fv] e I:=by
 refine G8 (s:=⟨none,0,0⟩) ?_;unfold EF;refine ak.mk λo _ a L az=>?_
 have M: ∀b,S b->b<e.size:=λb a=>by
  have:=K b a;rw[CD (J.1 b a)] at this;exact Af this
 have ae: ∀h:aa,Mod (λc=>c=e.size) o h->Ext e h:=λh m=>L.then (m.ai λc _ j=> .inr (by omega))
 refine Vt J (λb a=>(L.get b (M b a) (by simp)).trans (K b a))
  (λi c y p=>c=none/\ ∃s:Sl,p[e.size]? =some (J2 #[J4 s.p s.len s.cap] AQ (0,0))/\Own Ba AR p s (l.take i)/\(∀ b,y b↔(b=e.size\/s.af=some b))/\(∀ b,s.af=some b->b<p.size/\e.size<b))
  (λb=>b=e.size) (λb a d=>by have:=M b a;omega) ?_ ?_ ?_ ?_ ?_ ?_
 ·rintro i c y p ⟨_,s,q,r,f,k⟩ b a;rcases(f b).1 a with rfl|n
  ·exact Af q
  ·exact(k b n).1
 ·rintro i c y p h ⟨d,s,q,r,f,k⟩ m;refine⟨d,s,m.af q (λz=>z.1 ((f _).2 (.inl rfl))),r.mod m (λc j z=>z.1 ((f _).2 (.inr j))),f,λb a=>⟨?_,(k b a).2⟩⟩;have:=m.size;have:=(k b a).1;omega
 ·exact⟨rfl,⟨none,0,0⟩,a,Own.nil,λb=>by simp[Sl.af],λb a=>by simp[Sl.af] at a⟩
 ·rintro i x N p rec aA aC O ⟨_,s,q,r,f,k⟩ Q aD af ag ah aE;have aF:=(List.getElem?_eq_some_iff.1 O).1;refine ak.pair λaG R aH ai u aI=>?_
  refine⟨rec,u.af af (by simp),ag,?_⟩;generalize T:R.setIfInBounds (o.size+1) (.loop {rec with state:= .busy})=A;have t:Mod (λb=>b=o.size+1) R A:=T▸Mod.setObj rfl;have aj:A[o.size+1]? =some (.loop {rec with state:= .busy}):=by rw[<- T];exact CR (by omega)
  have aJ:=Af q;have B:=t.af ai (by omega);have U:=t.af (u.af q (by simp)) (by omega);have am:=(r.ext u).mod t (λc j d=>Q ((f _).2 (.inr (d▸j))));refine AY.mk (AL U rfl) (AJ.mk (AL B rfl) (AJ.mk (AB B rfl) (Ab.mk (AB B rfl) ?_)));have V:(l.take i).length=i:=by simp;omega
  refine ak.aZ (E:=Ba) (x:=x) rfl HZ am (by rw[V];omega) (by rw[V];simp[maxLen];omega) λW X Y v C _=>?_
  have aK:=t.size;have an:s.af≠some e.size:=λd=>by have:=k _ d;omega
  refine ab.mk (v.af U an) (by simp) λao ap D aL=>ah ao ?_
  refine⟨λb=>b=e.size\/W.af=some b,?_,?_,?_,rfl,W,by simpa using ap,?_,λ_=>Dd,?_⟩
  ·rintro b (rfl|a)
   ·exact .inl ((f _).2 (.inl rfl))
   ·rcases C b a with n|n
    ·exact .inl ((f _).2 (.inr n))
    ·exact .inr (by omega)
  ·have aq:Mod (λb=>N b\/b=o.size+1) p A:=u.mod.trans (t.ai λb _ a=> .inr a);have ar:Mod (λb=>N b\/b=o.size+1) p X:=aq.trans (v.ai λb _ a=> .inl ((f _).2 (.inr a)));exact ar.trans (D.ai λb _ a=> .inl ((f _).2 (.inl a)))
  ·refine D.af (v.af aj (λd=>Q ((f _).2 (.inr d)))) (by omega)
  ·have au:=Y.mod D (λc j d=>by
    rcases C c j with n|n
    ·have:=k _ n;omega
    ·omega)
   rw[AD,O];exact au
  ·intro b a;have:=v.size;have aM:b<X.size:=by
    rcases Y.row with⟨rfl,_⟩|⟨g,av,F,w,_⟩
    ·simp[Sl.af] at a
    ·simp[Sl.af,F] at a;subst a;exact Af w
   refine⟨by omega,?_⟩;rcases C b a with n|n
   ·exact(k _ n).2
   ·omega
 ·rintro aw h ⟨_,s,q,r,f,k⟩ Z _ aN ac;have aO:=Z.size;refine AY.mk (AL q rfl) ⟨ac,?_⟩;rw[BW] at r;have ax:s.af≠some o.size:=λd=>by
   rcases r.row with⟨rfl,_⟩|⟨g,av,F,w,_⟩
   ·simp[Sl.af] at d
   ·simp[Sl.af,F] at d;rw[d,ac] at w;cases w
  refine ad s _ (r.mod (Mod.setObj (S:=λc=>c=o.size) rfl) λc j d=>ax (d▸j)) (λc j=>by have:=k _ j;omega) ?_;exact(ae h Z).then (Mod.setObj (.inr (by omega)))
 ·rintro i aP aw h ⟨d,_⟩;cases d
theorem VK {e:al}{d f:aa}{fv:J0}{g:Nat->Prop}{l:List Pr}{h:A2N}(i:Dx e P fv g f l)(j: ∀b,g b->d[b]? =f[b]?)(k:l.length<=1099511627776)
  (m: ∀s a,Own Ba AR a s l->(∀ c,s.af=some c->d.size<=c)->Ext d a->h (J4 s.p s.len s.cap) a):AA e P Cs #[fv] d h:=by
 refine Ll ?_;unfold Hu;exact AFS i j k λs a n o p=>⟨s,rfl,m s a n o p⟩
def BM(l:List Pr):List Pr:=l.filter λx=> !x.gone
theorem tB {b:Type}{p:b->Bool}: ∀ {l:List b} {i:Nat} {x:b},l[i]? =some x->p x=true->(l.filter p)[((l.take i).filter p).length]? =some x
 | [],i,x,a,_=>by simp at a
 |y::l,0,x,a,c=>by simp at a;subst a;simp[c]
 |y::l,i+1,x,a,c=>by
  have d:=tB (p:=p) (l:=l) (i:=i) (by simpa using a) c;rw[HS,B9,B9];split
  ·simpa using d
  ·exact d
theorem ADn {a:Type}{p:a->Bool}(l:List a)(i:Nat):((l.take i).filter p).length<=(l.filter p).length:=((List.take_sublist i l).filter p).length_le
theorem AN8 {Z:al}{D:aa}{b:Nat}{T:Q7}{fr:Nat×Nat}{fv:J0}{z:Nat->Prop}{l:List Pr}(a:D[b]? =some (J2 #[fv] T fr))(h:(fv= .nilFunc/\l= []/\ ∀c,¬z c)\/Dx Z P fv z D l):
  Dx Z P (.func (.func N7) #[] #[J5 (some ⟨b,0,none⟩)]) (λc=>z c\/c=b) D (BM l):=by
 have ax:=Af a;refine⟨?_,_,_,rfl,λab=>by kernel_rfl,λd E ab w F ay hd hB az G=>?_⟩
 ·rintro c (n|rfl)
  ·rcases h with h|h
   ·exact absurd n (h.2.2 c)
   ·exact h.1 c n
  ·exact ax
 rw[pO];refine AAH ?_;unfold TS;refine Xq.mk ay (ak.mk λu _ aA q aK=>?_);have ac:u[b]? =some (J2 #[fv] T fr):=by have r:=(E b (.inr rfl)).trans a;exact q.af r (by simp)
 refine RI.mk (AL ac rfl) ?_;rcases h with⟨rfl,rfl,_⟩|h
 ·refine⟨trivial,ae.yes rfl ?_⟩;exact⟨rfl,0,true,F,q.mod,λb a=> .inl a,hB.bd _ _ _ _ _ G (q.ai λ_ _ d=>d.elim),λ_=>rfl,by simp⟩
 ·refine⟨h.one.2.1,ae.no h.one.2.2 ?_⟩;refine RI.mk (AL ac rfl) ?_;have aC:=hB.wf _ _ _ _ G;have aD: ∀b,z b->b<d.size:=λb a=>by
   have:=E b (.inl a);rw[CD (h.1 b a)] at this;exact Af this
  have aE:=hB.bd _ _ _ _ _ G (q.ai (S':=λb=>¬F b/\d.size<=b) λ_ _ d=>d.elim);refine Vt h (λc n=>(q.get c (aD c n) (by simp)).trans (E c (.inl n)))
   (λi c e j=>j[d.size]? =some (J2 #[ab] Li (0,0))/\ ¬e d.size/\match c with
    |none=>w (BM (l.take i)).length true e j
    |some ad=>ad=none/\ ∃s,s<=(BM l).length/\w s false e j)
   F (λc n=>hd c (.inl n)) ?_ ?_ ?_ ?_ ?_ ?_
  ·rintro i c e j ⟨_,_,f⟩;cases c
   ·exact hB.wf _ _ _ _ f
   ·obtain⟨_,s,_,H⟩:=f;exact hB.wf _ _ _ _ H
  ·rintro i c e j I ⟨r,t,f⟩ m;refine⟨m.af r (λd=>by omega),t,?_⟩;have af:Mod (λb=>¬e b/\d.size<=b) j I:=m.ai λb _ a=>⟨a.1,by omega⟩
   cases c
   ·exact hB.bd _ _ _ _ _ f af
   ·obtain⟨H,s,J,aF⟩:=f;exact⟨H,s,J,hB.bd _ _ _ _ _ aF af⟩
  ·exact⟨aA,λd=>by have:=aC _ d;omega,aE⟩
  ·rintro i x e j rec aL aM L ⟨r,t,f⟩ M aN aG aH ag aI;refine ak.pair λaO ai aP aJ N aQ=>?_
   refine⟨rec,N.af aG (by simp),aH,?_⟩;generalize k:ai.setIfInBounds (u.size+1) (.loop {rec with state:= .busy})=v;have y:Mod (λb=>b=u.size+1) ai v:=k▸Mod.setObj rfl;have O:v[u.size+1]? =some (.loop {rec with state:= .busy}):=by rw[<- k];exact CR (by omega)
   have A:=y.af aJ (by omega);have Q:=y.af (N.af r (by simp)) (by omega);have R:Mod (λb=>b=u.size+1) j v:=(Ext.mod N).trans y;have aj:w (BM (l.take i)).length true e v:=hB.bd _ _ _ _ _ f (R.ai λb _ a=>by subst a;exact⟨M,by omega⟩);have am:BM (l.take (i+1))=BM (l.take i)++BM [x]:=by rw[AD,L];simp[BM]
   refine ah.mk λK an=>?_
   refine Ab.mk (AB A rfl) ?_;refine ae.intro (λo=>?_) (λo=>?_)
   ·have o:(!x.gone)=true:=o;refine RI.mk (AL Q rfl) ?_;refine AJ.mk (AL A rfl) (AJ.mk (AB A rfl) (Ab.mk (AB A rfl) ?_));refine EH.mono (az _ _ e v (tB (p:=λx:Pr=> !x.gone) L o) aj) ?_;rintro _ S ⟨g,B,rfl,ao,C,ap⟩;refine⟨g,rfl,an _ _ ?_⟩;have aR:=ADn (p:=λx:Pr=> !x.gone) l (i+1);have aq:(BM (l.take (i+1))).length=(BM (l.take i)).length+1:=by rw[am];simp only[BM,A1];simp[o]
    have ar:=C.af Q t;have au: ¬B d.size:=λn=>(ao _ n).elim t λd=>by have:=y.size;omega
    have av:Mod (λb=>e b\/b=u.size+1) j S:=(R.ai λb _ a=> .inr a).trans (C.ai λb _ a=> .inl a);have aw: ∀b,B b->e b\/j.size<=b:=λb a=>(ao b a).elim .inl λd=> .inr (by have:=y.size;omega)
    refine ae.intro (λk=>aI none S ?_) (λk=>ag S ?_)
    ·have k:g=false:=by simpa using k
     subst k;exact⟨B,aw,av,C.af O M,ar,au,rfl,_,by have:=aq;unfold BM at *;omega,ap⟩
    ·have k:g=true:=by simpa using k
     subst k;exact⟨B,aw,av,C.af O M,ar,au,by show w _ _ _ _;rw[aq];exact ap⟩
   ·have o:(!x.gone)=false:=o;refine an _ _ (ae.no rfl (ag v ?_));refine⟨e,λb a=> .inl a,R.ai λb _ a=> .inr a,O,Q,t,?_⟩;show w _ _ _ _;have:BM [x]= []:=by simp at o;simp[BM,o]
    rw[am,this,AM];exact aj
  ·rintro U I ⟨r,t,f⟩ V W X Y;refine⟨Y,rfl,(BM l).length,true,U,?_,?_,?_,λ_=>rfl,A0 _⟩
   ·exact(q.mod.trans V).then (Mod.setObj (.inr (by omega)))
   ·intro b a;exact(X b a).elim .inl λd=> .inr (by omega)
   ·rw[BW] at f;exact hB.bd _ _ _ _ _ f (Mod.setObj ⟨W,by omega⟩)
  ·rintro i ad U I ⟨r,t,rfl,s,J,f⟩ L V W X Y;refine⟨Y,rfl,s,false,U,?_,?_,?_,(λd=>by cases d),J⟩
   ·exact(q.mod.trans V).then (Mod.setObj (.inr (by omega)))
   ·intro b a;exact(X b a).elim .inl λd=> .inr (by omega)
   ·exact hB.bd _ _ _ _ _ f (Mod.setObj ⟨W,by omega⟩)
theorem rn {f:al}{d:aa}{fv:J0}{g:Nat->Prop}{l:List Pr}{i:A2N}(a:(fv= .nilFunc/\l= []/\ ∀c,¬g c)\/Dx f P fv g d l)
  (m: ∀j e,Dx f P j (λc=>g c\/c=d.size) e (BM l)->Ext d e->e.size=d.size+1->i j e):AA f P Mv #[fv] d i:=by
 refine ADJ ?_;unfold XC;refine Xq.mk ?_ (ak.mk λn _ o k p=>?_)
 ·rcases a with a|a
  ·rw[a.1];rfl
  ·exact a.one.1
 ·refine m _ n (AN8 o ?_) k p;rcases a with a|a
  ·exact .inl a
  ·exact .inr (a.ai (λ_=>id) (λb h=>by have:=a.1 b h;omega) (λb h=>k.get b (a.1 b h) (by simp)))
def PV(a:A2O)(x:Pr):Bool:=decide (a=⟨#[]⟩)||aN x.key a
def Ov(a:A2O)(b:Int)(l:List Pr):List Pr:=(l.takeWhile (PV a)).take b.toNat
theorem mT {b:Type}{p:b->Bool}: ∀ {l:List b} {i:Nat},i<=(l.takeWhile p).length->(l.takeWhile p).take i=l.take i
 | [],i,_=>by simp
 |y::l,0,_=>by simp
 |y::l,i+1,a=>by
  rw[Mn] at a ⊢;split at a
  ·rename_i c;simp only[c,if_true,HS];rw[mT (by simpa using a)]
  ·simp at a
theorem Py: ∀(a:List UInt8),Op.bytesLess a a=false
 | []=>rfl
 |a::x=>by simp[Op.bytesLess,Py x]
theorem lj: ∀(a b:List UInt8),Op.bytesLess a b=false->Op.bytesLess b a=false->a=b
 | [],[],_,_=>rfl
 | [],_::_,c,_=>by simp[Op.bytesLess] at c
 |_::_,[],_,c=>by simp[Op.bytesLess] at c
 |a::x,b::f,d,e=>by
  simp only[Op.bytesLess,Hi,A0b,decide_eq_false_iff_not,beq_eq_false_iff_ne] at d e;have g:a=b:=by have h:=d.1;have i:=e.1;exact UInt8.le_antisymm (UInt8.not_lt.1 i) (UInt8.not_lt.1 h)
  subst g;rw[lj x f (d.2.resolve_left (by simp)) (e.2.resolve_left (by simp))]
theorem R7: ∀(a b c:List UInt8),Op.bytesLess a b=true->Op.bytesLess b c=true->Op.bytesLess a c=true
 |_,[],_,f,_=>by simp[Op.bytesLess] at f
 |_,_::_,[],_,f=>by simp[Op.bytesLess] at f
 | [],_::_,_::_,_,_=>by simp[Op.bytesLess]
 |a::x,b::g,c::z,e,d=>by
  simp only[Op.bytesLess,Cl,A3,decide_eq_true_eq,beq_iff_eq] at e d ⊢;rcases e with e|⟨rfl,e⟩
  ·rcases d with d|⟨rfl,d⟩
   ·exact .inl (UInt8.lt_trans e d)
   ·exact .inl e
  ·rcases d with d|⟨rfl,d⟩
   ·exact .inl d
   ·exact .inr ⟨rfl,R7 x g z e d⟩
theorem Bq(a:A2O):aN a a=false:=Py _
theorem DK {a b c:A2O}(d:aN a b=true)(e:aN b c=true):aN a c=true:=R7 _ _ _ d e
theorem NF {a b:A2O}(d:aN a b=false)(e:aN b a=false):a=b:=by
 have:=lj _ _ d e;have c:bS a b=true:=by simp[bS,this]
 rw[Cb] at c;simpa using c
theorem NU {a b:A2O}(c:aN a b=true):aN b a=false:=by
 cases d:aN b a
 ·rfl
 ·have:=DK c d;rw[Bq] at this;cases this
theorem mU {a b c:A2O}(d:aN a b=true)(f:aN c b=false):aN a c=true:=by
 cases e:aN b c
 ·rw[NF f e];exact d
 ·exact DK d e
theorem YJ {a b c:A2O}(e:aN b a=false)(d:aN c b=false):aN c a=false:=by
 cases f:aN c a
 ·rfl
 ·have:=mU f e;rw[this] at d;cases d
def upto(p a:Pr):Bool:=aN a.key p.key||bS a.key p.key
def IU(p:Pr)(l:List Pr):List Pr:=l.dropWhile (upto p)
inductive Ku:List (List Pr)->List Pr->Prop
 |done {ls:List (List Pr)} (h: ∀l,l∈ls->l= []):Ku ls []
 |step {ls:List (List Pr)} {k:Nat} {p:Pr} {t out:List Pr} (hk:ls[k]? =some (p::t))
   (hmin: ∀j q u,ls[j]? =some (q::u)->aN q.key p.key=false/\(j<k->aN p.key q.key=true)) (hm:Ku (ls.map (IU p)) out):Ku ls (p::out)
theorem Ku.ie {a:List (List Pr)}{out:List Pr}(m:Ku a out)(b: ∀l,l∈a->l= []):out= []:=by
 cases m with
 |done _=>rfl
 |step c d e=>have:=b _ (AK c);cases this
theorem Ku.gq {c:List (List Pr)}{out:List Pr}(m:Ku c out){d:Nat}{p:Pr}{t:List Pr}(e:c[d]? =some (p::t))
  (h: ∀i g u,c[i]? =some (g::u)->aN g.key p.key=false/\(i<d->aN p.key g.key=true)): ∃j,out=p::j/\Ku (c.map (IU p)) j:=by
 cases m with
 |done a=>have:=a _ (AK e);cases this
 | @step _ k r s n f l o=>
  have q:d=k:=by
   rcases HP d k with a|a|a
   ·have b:=(l _ _ _ e).2 a;rw[(h _ _ _ f).1] at b;cases b
   ·exact a
   ·have b:=(h _ _ _ f).2 a;rw[(l _ _ _ e).1] at b;cases b
  subst q;rw[e] at f;cases f;exact⟨n,rfl,o⟩
theorem ra {d:Type}: ∀(a:List d) (b i:Nat) (v:d),(a.set i v).take b=(a.take b).set i v
 | [],b,i,v=>by simp
 |c::a,0,i,v=>by simp
 |c::a,b+1,0,v=>by simp
 |c::a,b+1,i+1,v=>by simp[ra a b i v]
end Go.Lf.G.M
namespace Go.Lf
open G
theorem Own.j7 {T:Q7}{d:aa}{s:Sl}{l:List Sl}(e:Own gY T d s l){i:Nat}(y:i<l.length){x:Sl}{K:aa->Prop}{a:Q6}(f:s.p=some a)
  (q: ∀c,Own gY T c s (l.set i x)->Mod (λb=>s.af=some b) d c->c.size=d.size->K c):ab d (a.add (i*1)) (J4 x.p x.len x.cap) K:=by
 rcases e.row with⟨rfl,_⟩|⟨g,z,h,r,t,u,n,o⟩
 ·simp at f
 ·rw[h] at f;cases f;rw[Bb,AI,Bk];have j:gY.w=1:=rfl;rw[j,Bk] at n o;have A:=e.len;refine ab.mk r (by omega) λc k m v=>q c ⟨by simpa using e.len,.inr ⟨g,_,h,k,t,u,by simp[n,j],?_⟩⟩ (m.ai λb _ k=>by simp[Sl.af,h,k]) v
  rw[j,Bk,Fc,Go.Lf.G.M.ra,o];have p: ∀l:List Sl,l.flatMap gY.enc=l.map (λs=>Value.slice s.p s.len s.cap):=λl=>by
   induction l with
   |nil=>rfl
   |cons B l w=>rw[AH,w];rfl
  rw[p,p,R1]
end Go.Lf
namespace Go.Lf.G.M
open Go Go.Lf Go.Lf.G
structure ZR (lo:Nat) (h:aa) (O:Nat->Prop) (t:Sl) (sls:List Sl) (ls:List (List Pr)):Prop where
 len:sls.length=ls.length
 row: ∀(j:Nat) (sl:Sl) (l:List Pr),sls[j]? =some sl->ls[j]? =some l->View Ba h sl l/\l.length<=1099511627776/\ ∀c,sl.af=some c->lo<=c/\c<h.size/\t.af≠some c/\ ¬O c
theorem ZR.mod {f:Nat}{b j:aa}{g k:Nat->Prop}{t t':Sl}{n:List Sl}{o:List (List Pr)}{p:Nat->Prop}(r:ZR f b g t n o)(m:Mod p b j)(q: ∀c,f<=c->c<b.size->t.af≠some c-> ¬g c-> ¬p c)
  (s: ∀c,c<b.size->t'.af=some c->t.af=some c) (u: ∀c,c<b.size->k c->g c):ZR f j k t' n o:=
 ⟨r.len,λw sl l h e=>by
  obtain⟨v,x,d⟩:=r.row w sl l h e;refine⟨v.mod m λc a=>q c (d c a).1 (d c a).2.1 (d c a).2.2.1 (d c a).2.2.2,x,λc a=>?_⟩;obtain⟨h,e,y,z⟩:=d c a;have:=m.size;exact⟨h,by omega,λi=>y (s c e i),λi=>z (u c e i)⟩⟩
end Go.Lf.G.M
namespace Go.Lf
open G
theorem View.val {b:aa}{s:Sl}{c:List gZ}(v:View jv b s c){i:Nat}{x:gZ}(d:c[i]? =some x): ∃a,s.p=some a/\ag b (a.add (i*1))=some x.v:=by obtain⟨a,e,f⟩:=v.cells i x d;exact⟨a,e,f.val⟩
end Go.Lf
namespace Go.Lf.G.M
open Go Go.Lf Go.Lf.G
theorem APJ {ba:al}{af:aa}{b:Nat}{T:Q7}{fr:Nat×Nat}{s:Sl}{S:Nat->Prop}{I:List gZ}{os:List (Option (List Pr))}{out:List Pr}(D:af[b]? =some (J2 #[J4 s.p s.len s.cap] T fr))(v:View jv af s I)
  (bb:I.length<=1099511627776) (bI:os.length=I.length)
  (bJ: ∀(i:Nat) (v:gZ),I[i]? =some v->(v.v= .nilFunc/\os[i]? =some none)\/ ∃l,os[i]? =some (some l)/\Dx ba P v.v S af l/\l.length<=1099511627776) (bK:Ku (os.filterMap id) out) (bc: ∀b,S b->b<af.size):
  Dx ba P (.func (.func PS) #[] #[J5 (some ⟨b,0,none⟩)]) (λc=>S c\/(c<af.size/\(c=b\/s.af=some c))) af out:=by
 have bL:=Af D;refine⟨?_,_,_,rfl,λbM=>by kernel_rfl,λf aC bM aP R cn hd hB bN bd=>?_⟩
 ·rintro c (h|h)
  ·exact bc c h
  ·exact h.1
 rw[pO];refine ACH ?_;unfold Uc;have be:=hB.wf _ _ _ _ bd;have bO:f[b]? =some (J2 #[J4 s.p s.len s.cap] T fr):=(aC b (.inr ⟨bL,.inl rfl⟩)).trans D;have bP: ∀i x,I[i]? =some x-> ∃a,s.p=some a/\ag f (a.add (i*1))=some x.v:=λi x hi=>by
  obtain⟨a,aD,J⟩:=v.val hi;refine⟨a,aD,?_⟩;have bf:=Tt J;rw[aM] at bf;have B:=aC _ (.inr ⟨bf,.inr (by simp[Sl.af,aD])⟩);exact(Pk (by rw[aM];exact B)).trans J
 have bQ: ∀c,S c->c<f.size:=λc h=>by
  have:=aC c (.inl h);rw[CD (bc c h)] at this;exact Af this
 refine AY.mk (AL bO rfl) ?_;refine Loop.rule (λm x L=> ∃(i:Nat) (t:Sl) (z:List Sl),x=(t,(i:Int),())/\m=I.length-i/\i<=I.length/\Ext f L/\Own gY AQ L t z/\(∀ c,t.af=some c->f.size<=c)/\ZR f.size L R t z ((os.take i).filterMap id)/\z.length<=i) ?_
  ⟨0,⟨none,0,0⟩,[],rfl,rfl,by omega,Mod.refl,Own.nil,λc h=>by simp[Sl.af] at h,⟨by simp,λe sl l f=>by simp at f⟩,by simp⟩
 rintro K m _ L ⟨i,t,z,rfl,rfl,hi,O,C,ai,M,bg⟩ aq;refine ae.intro (λr=>?_) (λr=>?_)
 ·have aE:i<I.length:=by simp[v.len] at r;omega
  have bh:=A2 aE;refine ah.mk λco bi=>?_
  obtain⟨a,aD,J⟩:=bP i _ bh;refine bC.mk aD (by rw[v.len];exact aE) ?_;refine RI.mk (O.ag J) ?_;rcases bJ i _ bh with⟨bj,aQ⟩|⟨l,aQ,aR,bk⟩
  ·refine⟨by rw[bj];trivial,ae.no (by rw[bj];rfl) ?_⟩;refine bi _ _ (aq (I.length-(i+1)) _ _ (by omega) ⟨i+1,t,z,by rw[Aa (by omega)],rfl,by omega,O,C,ai,?_,by omega⟩);have:(os.take (i+1)).filterMap id=(os.take i).filterMap id:=by rw[AD,aQ];simp
   rw[this];exact M
  ·refine⟨aR.one.2.1,ae.yes (by rw[aR.one.2.2];rfl) ?_⟩;refine VK aR (λc h=>(O.get c (bQ c h) (by simp)).trans (aC c (.inl h))) bk λar W aS au aF=>⟨ar,rfl,?_⟩
   refine ak.aZ (E:=gY) (x:=ar) rfl AMO (C.ext aF) (by omega) (by simp[maxLen];omega) λbm bR bT aG aT _=>?_
   have bU:Ext f bR:=(O.trans aF).then (aG.ai λc _ h=> .inr (ai c h));refine bi _ _ (aq (I.length-(i+1)) _ _ (by omega) ⟨i+1,bm,_,by rw[Aa (by omega)],rfl,by omega,bU,bT,?_,?_,?_⟩)
   ·intro c h;rcases aT c h with j|j
    ·exact ai c j
    ·have:=O.size;have:=aF.size;omega
   ·have B:(os.take (i+1)).filterMap id=(os.take i).filterMap id++ [l]:=by rw[AD,aQ];simp
    rw[B];have aH:=(M.mod aF (λc _ _ _ _ f=>f) (λc _ f=>f) (λc _ f=>f)).mod (t':=bm) aG (λc _ _ N _=>N) (λc h j=>(aT c j).elim id λq=>by omega) (λc _ f=>f);refine⟨by simp[aH.len],λe sl H j q=>?_⟩;rcases HP e z.length with A|A|A
    ·rw[E0 A] at j;rw[E0 (by rw[<- aH.len];exact A)] at q;exact aH.row e sl H j q
    ·subst A;rw[A0c] at j;rw[aH.len,A0c] at q;cases j;cases q;have cp:t.af≠ar.af\/ar.af=none:=by
      cases aI:ar.af with
      |none=>exact .inr rfl
      |some c=>
       refine .inl λB=>?_
       have:=C.lt B;have:=au c aI;omega
     refine⟨(aS.view).mod aG λc h N=>?_,bk,λc h=>⟨?_,?_,?_,?_⟩⟩
     ·have:=C.lt N;have:=au c h;omega
     ·have:=au c h;have:=O.size;omega
     ·have:=aS.lt h;have:=aG.size;omega
     ·intro j;have:=aS.lt h;rcases aT c j with q|q
      ·have:=C.lt q;have:=au c h;omega
      ·omega
     ·intro j;have:=be c j;have:=au c h;have:=O.size;omega
    ·rw[LO (by simp;omega)] at j;cases j
   ·simp;omega
 ·have aE:i=I.length:=by simp[v.len] at r;omega
  rw[aE,<-bI,BW] at M;have bn:=hB.bd _ _ _ _ _ bd (O.ai (S':=λb=>¬R b/\f.size<=b) λ_ _ f=>f.elim);refine Loop.rule (λm _ L=> ∃(i:Nat) (F:Nat->Prop) (z:List Sl) (k:List (List Pr)) (aj:List Pr),Ku k aj/\m=aj.length/\(∀ n,out[i+n]? =aj[n]?)/\i+aj.length=out.length/\Mod R f L/\(∀ b,F b->R b\/f.size<=b)/\aP i true F L/\
    Own gY AQ L t z/\(∀ c,t.af=some c-> ¬F c)/\ZR f.size L F t z k/\z.length<=1099511627776) ?_
   ⟨0,R,z,_,out,bK,rfl,λn=>by rw[AI],by omega,O.mod,λb D=> .inl D,bn,C,λc h N=>by have:=be c N;have:=ai c h;omega,M,by omega⟩
  clear aq M O C bg bn;rintro cq m _ L ⟨i,F,z,k,aj,bo,rfl,bp,aJ,aU,aV,A,C,aW,M,bg⟩ aq;have cr:=hB.wf _ _ _ _ A;refine Loop.rule (λm x aK=> ∃(d:Nat) (X:Int),x=(X,(d:Int),())/\aK=L/\m=k.length-d/\d<=k.length/\((X= -1/\ ∀e l,e<d->k[e]? =some l->l= [])\/
   ∃n p u,X=(n:Nat)/\n<d/\k[n]? =some (p::u)/\ ∀e o y,e<d->k[e]? =some (o::y)->aN o.key p.key=false/\(e<n->aN p.key o.key=true))) ?_
   ⟨0,-1,rfl,rfl,rfl,by omega,.inl ⟨rfl,λe l f=>by omega⟩⟩
  rintro cs m _ aK ⟨d,X,rfl,bV,rfl,N,aX⟩ aY;subst bV;have ct:=M.len;refine ae.intro (λr=>?_) (λr=>?_)
  ·have U:d<k.length:=by simp[C.len] at r;omega
   have G:=A2 U;have Y:=A2 (l:=z) (i:=d) (by omega);obtain⟨Z,bq,_⟩:=M.row d _ _ Y G;refine ah.mk λcu br=>?_
   refine C.view.idx Y λcv _ bW=>?_
   refine AY.mk bW.sl ?_;refine ah.mk λbs bt=>?_
   have bu:((X= -1/\ ∀e l,e<d+1->k[e]? =some l->l= [])\/
     ∃n p u,X=(n:Nat)/\n<d+1/\k[n]? =some (p::u)/\ ∀e o y,e<d+1->k[e]? =some (o::y)->aN o.key p.key=false/\(e<n->aN p.key o.key=true))->bs (false,()) aK:=λB=>
    bt _ _ (ae.no rfl (br _ _ (aY (k.length-(d+1)) _ _ (by omega) ⟨d+1,X,by rw[Aa (by omega)],rfl,rfl,by omega,B⟩)))
   have bv:(∃ n p u,(d:Int)=(n:Nat)/\n<d+1/\k[n]? =some (p::u)/\ ∀e o y,e<d+1->k[e]? =some (o::y)->aN o.key p.key=false/\(e<n->aN p.key o.key=true))->bs (true,()) aK:=λB=>
    bt _ _ (ae.yes rfl (br _ _ (aY (k.length-(d+1)) _ _ (by omega) ⟨d+1,d,by rw[Aa (by omega)],rfl,rfl,by omega,.inr B⟩)))
   refine ae.intro (λr=>?_) (λr=>?_)
   ·cases am:k[d] with
    |nil=>rw[am] at Z;have:=Z.len;simp[this] at r
    |cons o y=>
     rw[am] at Z G;rcases aX with⟨rfl,av⟩|⟨n,p,u,rfl,bw,ab,an⟩
     ·refine ae.yes (by simp) (bv ⟨d,o,y,rfl,by omega,G,λe ao ap A w=>?_⟩);rcases FF e d with j|j
      ·have:=av e _ j w;cases this
      ·have:e=d:=by omega
       subst this;rw[G] at w;cases w;exact⟨Bq _,λf=>by omega⟩
     ·refine ae.no (by simp) ?_;refine Z.idx (i:=0) (x:=o) rfl λcw _ bX=>?_
      refine AJ.mk bX.pair.1 ?_;have aw:=A2 (l:=z) (i:=n) (by omega);obtain⟨aZ,_,_⟩:=M.row n _ _ aw ab;refine C.view.idx aw λbY _ a0=>?_
      refine AY.mk a0.sl ?_;refine aZ.idx (i:=0) (x:=p) rfl λbZ _ ax=>?_
      refine AJ.mk ax.pair.1 ?_;cases aI:aN o.key p.key
      ·refine bu (.inr ⟨n,p,u,rfl,by omega,ab,λe ao ap A w=>?_⟩);rcases FF e d with j|j
       ·exact an e ao ap j w
       ·have:e=d:=by omega
        subst this;rw[G] at w;cases w;exact⟨aI,λf=>by omega⟩
      ·refine bv ⟨d,o,y,rfl,by omega,G,λe ao ap A w=>?_⟩;rcases FF e d with j|j
       ·have q:=(an e ao ap j w).1;have W:=mU aI q;exact⟨NU W,λ_=>W⟩
       ·have:e=d:=by omega
        subst this;rw[G] at w;cases w;exact⟨Bq _,λf=>by omega⟩
   ·have am:k[d]= []:=by
     have:=Z.len;cases am:k[d] with
     |nil=>rfl
     |cons o y=>rw[am] at this;simp[this] at r
    rw[am] at G;refine bu ?_;rcases aX with⟨rfl,av⟩|⟨n,p,u,rfl,bw,ab,an⟩
    ·refine .inl ⟨rfl,λe l A w=>?_⟩;rcases FF e d with j|j
     ·exact av e l j w
     ·have:e=d:=by omega
      subst this;rw[G] at w;cases w;rfl
    ·refine .inr ⟨n,p,u,rfl,by omega,ab,λe ao ap A w=>?_⟩;rcases FF e d with j|j
     ·exact an e ao ap j w
     ·have:e=d:=by omega
      subst this;rw[G] at w;cases w
  ·have U:d=k.length:=by simp[C.len] at r;omega
   subst U;clear aY;rcases aX with⟨rfl,av⟩|⟨n,p,u,rfl,bw,ab,an⟩
   ·refine ae.yes (by simp) ?_;have:aj= []:=bo.ie λl bb=>by
     obtain⟨e,A,B⟩:=DA bb;exact av e l A (by rw[A2 A,B])
    subst this;refine⟨rfl,i,true,F,aU,aV,A,λ_=>by have:=aJ;simp only[Ft] at this;omega,by have:=aJ;simp only[Ft] at this;omega⟩
   ·refine ae.no (by simp) ?_;have b0: ∀e o y,k[e]? =some (o::y)->aN o.key p.key=false/\(e<n->aN p.key o.key=true):=λe o y J=>an e o y (List.getElem?_eq_some_iff.1 J).1 J
    obtain⟨bx,rfl,b1⟩:=bo.gq ab b0;have aw:=A2 (l:=z) (i:=n) (by omega);obtain⟨aZ,_,_⟩:=M.row n _ _ aw ab;refine C.view.idx aw λbY _ a0=>?_
    refine AY.mk a0.sl ?_;refine aZ.idx (i:=0) (x:=p) rfl λbZ _ ax=>?_
    refine AJ.mk ax.pair.1 (AJ.mk ax.pair.2.1 (Ab.mk ax.pair.2.2 ?_));refine ak.pair λb2 a1 cx b3 aL cy=>?_
    have b4:=C.ext aL;have b5:ZR f.size a1 F t z k:=M.mod aL (λc _ _ _ _ f=>f) (λc _ f=>f) (λc _ f=>f);have b6:aP i true F a1:=hB.bd _ _ _ _ _ A (aL.ai (S':=λb=>¬F b/\f.size<=b) λ_ _ f=>f.elim);have b7:t.af≠some b2:=λB=>by have:=C.lt B;omega
    refine Loop.rule (λm x Q=> ∃(d:Nat) (V:List Sl),x=((d:Int),())/\m=k.length-d/\d<=k.length/\Mod (λc=>t.af=some c) a1 Q/\Own gY AQ Q t V/\ZR f.size Q F t V ((k.take d).map (IU p)++k.drop d)) ?_
     ⟨0,z,rfl,rfl,by omega,Mod.refl,b4,by simpa using b5⟩
    rintro cz m _ Q ⟨d,V,rfl,rfl,N,ay,ac,az⟩ b8;have b9:V.length=k.length:=by have:=az.len;simp at this;omega
    have aO:=ay.af b3 b7;refine ae.intro (λr=>?_) (λr=>?_)
    ·have U:d<k.length:=by simp[ac.len] at r;omega
     have Y:=A2 (l:=V) (i:=d) (by omega);have G:((k.take d).map (IU p)++k.drop d)[d]? =some k[d]:=by rw[DB (by simp;omega)];simp;rw[GF (by omega),LR];simp[U]
     obtain⟨Z,bq,cB⟩:=az.row d _ _ Y G;refine ac.view.idx Y λcC cD ca=>?_
     refine AY.mk ca.sl ?_;refine Loop.rule (λm x a2=> ∃(aA:Sl) (H:List Pr),x=(aA,())/\a2=Q/\m=H.length/\View Ba Q aA H/\(∀ c,aA.af=some c->V[d].af=some c)/\IU p H=IU p k[d]/\H.length<=1099511627776) ?_
      ⟨_,_,rfl,rfl,rfl,Z,λc f=>f,rfl,bq⟩
     rintro cE m _ a2 ⟨aA,H,rfl,cb,rfl,ad,a3,bz,bA⟩ cc;subst cb;refine ah.mk λcd bB=>?_
     have bD:IU p H=H->cd (false,()) a2:=λB=>bB _ _ (ae.no rfl (by
      refine ac.view.idx Y λcF ce _=>?_
      refine ac.j7 (i:=d) (by omega) ce λcf cg a4 cG=>?_
      refine b8 (k.length-(d+1)) _ _ (by omega) ⟨d+1,_,by rw[Aa (by omega)],rfl,by omega,ay.trans a4,cg,?_⟩;have a5:ZR f.size cf F t V ((k.take d).map (IU p)++k.drop d):=az.mod a4 (λc _ _ N _=>N) (λc _ f=>f) (λc _ f=>f);refine⟨?_,λe sl l j q=>?_⟩
      ·simp[b9];omega
      ·rcases HP e d with a6|a6|a6
       ·rw[Kd (by omega)] at j;refine a5.row e sl l j ?_;rw[E0 (by simp;omega)] at q ⊢;rw[Bs,Jx (by omega)] at q ⊢;exact q
       ·subst a6;rw[HJ (by omega)] at j;cases j;rw[E0 (by simp;omega),Bs,Jx (by omega),A2 U] at q;simp at q;subst q;rw[<- bz,B];obtain⟨_,_,h⟩:=a5.row e _ _ Y G;exact⟨ad.mod a4 λc D=>(h c (a3 c D)).2.2.1,bA,λc D=>h c (a3 c D)⟩
       ·rw[Kd (by omega)] at j;refine a5.row e sl l j ?_;rw[DB (by simp;omega)] at q ⊢;simp only[By,AE,Bm] at q ⊢;rw[<- q];congr 1;omega))
     refine ae.intro (λr=>?_) (λr=>?_)
     ·cases H with
      |nil=>have:=ad.len;simp[this] at r
      |cons o y=>
       refine ad.idx (i:=0) (x:=o) rfl λcH _ ch=>?_
       refine AJ.mk ch.pair.1 (AJ.mk (AL aO rfl) ?_);cases bE:(aN o.key p.key||bS o.key p.key)
       ·exact bD (by simp[IU,upto,bE])
       ·have ci:=ad.len;simp at ci bA;refine bB _ _ (ae.yes rfl ⟨⟨by omega,by show(1:Int)<=((aA.len:Nat):Int);omega⟩,cc y.length _ _ (by simp) ⟨_,y,rfl,rfl,rfl,?_,?_,?_,by omega⟩⟩)
        ·have:=ad.sub (lo:=1) (hi:=(o::y).length) (by simp) (A0 _);rw[BW,<-ad.len] at this;exact this
        ·intro c h;exact a3 c (Yq h)
        ·rw[<- bz];simp[IU,upto,bE]
     ·have:H= []:=by
       have:=ad.len;cases H with
       |nil=>rfl
       |cons o y=>simp[this] at r
      subst this;exact bD rfl
    ·have U:d=k.length:=by simp[ac.len] at r;omega
     subst U;rw[BW,Pc,AM] at az;refine AJ.mk (AL aO rfl) (AJ.mk (AB aO rfl) (Ab.mk (AB aO rfl) ?_));have cj:aP i true F Q:=hB.bd _ _ _ _ _ b6 (ay.ai λc _ h=>⟨aW c h,ai c h⟩);have ck:out[i]? =some p:=by have:=bp 0;simpa using this
     refine EH.mono (bN i p F Q ck cj) ?_;rintro _ cl ⟨g,a7,rfl,a8,a9,bF⟩;have cI:=ay.size;have cJ:=aU.size;have bG: ∀b,a7 b->R b\/f.size<=b:=λb D=>(a8 b D).elim (aV b) λcK=> .inr (by omega)
     have cm:Mod R f Q:=(aU.trans aL.mod).then (ay.ai λb _ D=> .inr (ai b D));have bH:Mod R f cl:=cm.then (a9.ai λb _ D=>aV b D);refine⟨g,rfl,ae.intro (λr=>?_) (λr=>?_)⟩
     ·have J:g=false:=by simpa using r
      subst J;exact⟨rfl,i+1,false,a7,bH,bG,bF,(λf=>by cases f),by simp at aJ;omega⟩
     ·have J:g=true:=by simpa using r
      subst J;refine aq bx.length _ _ (by simp) ⟨i+1,a7,V,_,bx,b1,rfl,λn=>?_,by simp at aJ;omega,bH,bG,bF,ac.mod a9 (λc h=>aW c h),?_,?_,by omega⟩
      ·have:=bp (n+1);rw[show i+1+n=i+(n+1) by omega,this];rfl
      ·intro c h q;rcases a8 c q with W|W
       ·exact aW c h W
       ·have:=ac.lt h;omega
      ·exact az.mod a9 (λc _ _ _ N=>N) (λc _ f=>f) (λc h q=>(a8 c q).elim id λW=>by omega)
def Sorted(l:List Pr):Prop:=l.Pairwise λa b=>aN a.key b.key=true
def Ae(a:A2O)(l:List Pr):Option Pr:=l.find? λb=>decide (b.key=a)
theorem Ti(a:A2O):Ae a []=none:=rfl
theorem BC(a:A2O)(x:Pr)(l:List Pr):Ae a (x::l)=if x.key=a then some x else Ae a l:=by unfold Ae;rw[DH];by_cases b:x.key=a<;>simp[b]
theorem NT {b:A2O}{l:List Pr}{x:Pr}(a:Ae b l=some x):x.key=b/\x∈l:=by unfold Ae at a;exact⟨by simpa using Ix a,ID a⟩
theorem ER {a:A2O}{l:List Pr}(b: ∀x∈l,x.key≠a):Ae a l=none:=by unfold Ae;rw[HD];simpa using b
theorem Nk {a b:A2O}(c:aN a b=true):a≠b:=by rintro rfl;rw[Bq] at c;cases c
theorem Sorted.find {l:List Pr}(s:Sorted l){x:Pr}(a:x∈l):Ae x.key l=some x:=by
 induction l with
 |nil=>cases a
 |cons d l c=>
  rw[BC];have b:=List.pairwise_cons.1 s;rcases List.mem_cons.1 a with rfl|a
  ·simp
  ·rw[if_neg (Nk (b.1 x a))];exact c b.2 a
theorem Sorted.ext: ∀ {l m:List Pr},Sorted l->Sorted m->(∀ d,Ae d l=Ae d m)->l=m
 | [],[],_,_,_=>rfl
 | [],a::m,_,_,b=>by have:=b a.key;rw[BC,if_pos rfl] at this;cases this
 |x::l,[],_,_,b=>by have:=b x.key;rw[BC,if_pos rfl] at this;cases this
 |x::l,a::m,sl,p,b=>by
  have g:=List.pairwise_cons.1 sl;have h:=List.pairwise_cons.1 p;have f:x.key=a.key:=by
   have e:=b x.key;have n:=b a.key;rw[BC,if_pos rfl] at e;rw[BC a.key a m,if_pos rfl] at n;have i:=(NT e.symm).2;have j:=(NT n).2;rcases List.mem_cons.1 i with c|i
   ·rw[c]
   ·rcases List.mem_cons.1 j with c|j
    ·rw[c]
    ·have q:=h.1 x i;have o:=g.1 a j;rw[NU q] at o;cases o
  have r:x=a:=by have e:=b x.key;rw[BC,BC,if_pos rfl,if_pos f.symm] at e;exact C2 e
  subst r;rw[Sorted.ext g.2 h.2 λd=>?_];have:=b d;rw[BC,BC] at this;by_cases f:x.key=d
  ·subst f;rw[ER λa k c=>Nk (g.1 a k) c.symm,ER λa k c=>Nk (h.1 a k) c.symm]
  ·simpa [f] using this
def ins(x:Pr):List Pr->List Pr
 | []=> [x]
 |q::l=>if aN q.key x.key then q::ins x l else if q.key=x.key then x::l else x::q::l
theorem mf(x:Pr): ∀l,Wp x l=ins x l
 | []=>rfl
 |q::l=>by
  unfold ins;cases b:aN q.key x.key
  ·have a:gW x.key (q::l)= []:=by simp[gW,b]
   by_cases c:q.key=x.key
   ·simp[Wp,aS,a,BV,c]
   ·simp[Wp,aS,a,BV,c]
  ·have a:gW x.key (q::l)=q::gW x.key l:=by simp[gW,b]
   have d:aS x.key (q::l)=aS x.key l+1:=by simp[aS,a]
   have f:BV x.key (q::l)=BV x.key l:=by simp[BV,d]
   have e:=mf x l;unfold Wp at e ⊢;rw[d,f];have g:(if BV x.key l=true then aS x.key l+1+1 else aS x.key l+1)=(if BV x.key l=true then aS x.key l+1 else aS x.key l)+1:=by split<;>rfl
   rw[g,HS,HM,DQ,DQ,e];simp
theorem pP {x b:Pr}: ∀ {l:List Pr},b∈ins x l->b=x\/b∈l
 | [],a=>by simp[ins] at a;exact .inl a
 |q::l,a=>by
  unfold ins at a;split at a
  ·rcases List.mem_cons.1 a with rfl|a
   ·exact .inr (by simp)
   ·rcases pP a with a|a
    ·exact .inl a
    ·exact .inr (by simp[a])
  ·split at a
   ·rcases List.mem_cons.1 a with rfl|a
    ·exact .inl rfl
    ·exact .inr (by simp[a])
   ·rcases List.mem_cons.1 a with rfl|a
    ·exact .inl rfl
    ·exact .inr a
theorem Vf(x:Pr): ∀ {l:List Pr},Sorted l->Sorted (ins x l)
 | [],_=>A0d _ _
 |q::l,s=>by
  have b:=List.pairwise_cons.1 s;unfold ins;split
  ·rename_i d;refine List.pairwise_cons.2 ⟨λc a=>?_,Vf x b.2⟩;rcases pP a with rfl|a
   ·exact d
   ·exact b.1 c a
  ·rename_i d;split
   ·rename_i e;refine List.pairwise_cons.2 ⟨λc a=>?_,b.2⟩;have:=b.1 c a;rwa [e] at this
   ·rename_i e;have f:aN x.key q.key=true:=by
     cases g:aN x.key q.key
     ·exact absurd (NF (by simpa using d) g) e
     ·rfl
    refine List.pairwise_cons.2 ⟨λc a=>?_,s⟩;rcases List.mem_cons.1 a with rfl|a
    ·exact f
    ·exact DK f (b.1 c a)
theorem WG(x:Pr)(a:A2O): ∀ {l:List Pr},Sorted l->Ae a (ins x l)=if x.key=a then some x else Ae a l
 | [],_=>by simp[ins,BC,Ti]
 |q::l,s=>by
  have c:=List.pairwise_cons.1 s;unfold ins;split
  ·rename_i d;rw[BC,BC,WG x a c.2];by_cases b:q.key=a
   ·have e:x.key≠a:=by rw[<- b];exact λf=>Nk d f.symm
    simp[b,e]
   ·simp[b]
  ·split
   ·rename_i g;rw[BC,BC,g];by_cases b:x.key=a<;>simp[b]
   ·rw[BC]
def Bf(l:List Pr):Prop:= ∀x∈l,Aj x=0
theorem Pt {x:Pr}{l:List Pr}(a:Aj x=0):Cr x l=ins x l:=by simp[Cr,a,mf]
theorem Og {x:Pr}{l:List Pr}(s:Sorted l):Sorted (Cr x l):=by
 by_cases a:Aj x=0
 ·rw[Pt a];exact Vf x s
 ·simpa [Cr,a] using s
theorem tC {x:Pr}{l:List Pr}(g:Bf l):Bf (Cr x l):=by
 by_cases a:Aj x=0
 ·rw[Pt a];exact λb c=>(pP c).elim (λd=>d▸a) (g b)
 ·simpa [Cr,a] using g
def BG(t l:List Pr):List Pr:=l.foldl (λt x=>Cr x t) t
theorem QK {l:List Pr}: ∀ {t},Sorted t->Sorted (BG t l):=by
 induction l with
 |nil=>exact λs=>s
 |cons x l a=>exact λs=>a (Og s)
theorem Vv {l:List Pr}: ∀ {t},Bf t->Bf (BG t l):=by
 induction l with
 |nil=>exact λs=>s
 |cons x l a=>exact λs=>a (tC s)
theorem P8 {l:List Pr}: ∀ {t},(BG t l).length<=t.length+l.length:=by
 induction l with
 |nil=>exact λ{t}=>by simp[BG]
 |cons x l a=>intro t;have:=a (t:=Cr x t);have:=AMG x t;simp[BG] at *;omega
theorem AI0 {l:List Pr}(a:A2O): ∀ {t},Sorted t->Sorted l->Bf l->Ae a (BG t l)=(Ae a l).or (Ae a t):=by
 induction l with
 |nil=>intro t _ _ _;simp[BG,Ti]
 |cons x l f=>
  intro t st sl g;have d:=List.pairwise_cons.1 sl;show Ae a (BG (Cr x t) l)=_;rw[f (Og st) d.2 (λb c=>g b (by simp[c])),Pt (g x (by simp)),WG x a st,BC];by_cases e:x.key=a
  ·subst e;rw[ER λb c h=>Nk (d.1 b c) h.symm];simp
  ·simp[e]
def Ag(a:List (List Pr)):List Pr:=a.reverse.foldl BG []
theorem Mx(l:List Pr)(a:List (List Pr)):Ag (l::a)=BG (Ag a) l:=by simp[Ag,HT]
theorem Dl: ∀a,Sorted (Ag a)
 | []=>List.Pairwise.nil
 |l::a=>by rw[Mx];exact QK (Dl a)
structure bG (ls:List (List Pr)):Prop where
 sorted: ∀l∈ls,Sorted l
 aQ: ∀l∈ls,Bf l
def Aw(a:A2O)(b:List (List Pr)):Option Pr:=b.findSome? (Ae a)
theorem Dr(a:A2O)(l:List Pr)(b:List (List Pr)):Aw a (l::b)=(Ae a l).or (Aw a b):=by unfold Aw;rw[Rg];cases Ae a l<;>rfl
theorem I7(b:A2O): ∀ {a},bG a->Ae b (Ag a)=Aw b a
 | [],_=>rfl
 |l::a,c=>by
  rw[Mx,AI0 b (Dl a) (c.sorted l (by simp)) (c.aQ l (by simp)),I7 b ⟨λm d=>c.sorted m (by simp[d]),λm d=>c.aQ m (by simp[d])⟩,Dr]
theorem Tk(p:Pr)(l:List Pr):(IU p l).Sublist l:=List.dropWhile_sublist _
theorem AIC {p q:Pr}(a:upto p q=false):aN p.key q.key=true:=by
 unfold upto at a;rw[Cb] at a;simp at a;cases b:aN p.key q.key
 ·exact absurd (NF a.1 b) a.2
 ·rfl
theorem AKw {p b:Pr}(a:upto p b=true):aN p.key b.key=false:=by
 unfold upto at a;rw[Cb] at a;simp at a;rcases a with a|a
 ·exact NU a
 ·rw[a];exact Bq _
theorem YN {p q:Pr}: ∀ {l:List Pr},Sorted l->q∈IU p l->aN p.key q.key=true
 | [],_,a=>by cases a
 |y::l,s,a=>by
  have b:=List.pairwise_cons.1 s;unfold IU at a;rw[List.dropWhile_cons] at a;split at a
  ·exact YN b.2 a
  ·rename_i d;have c:=AIC (p:=p) (q:=y) (by simpa using d);rcases List.mem_cons.1 a with rfl|a
   ·exact c
   ·exact DK c (b.1 q a)
theorem tD {p:Pr}{a:A2O}(b:aN p.key a=true): ∀ {l:List Pr},Ae a (IU p l)=Ae a l
 | []=>rfl
 |y::l=>by
  unfold IU;rw[List.dropWhile_cons];split
  ·rename_i d;have c:=AKw d;rw[BC,if_neg (by rintro rfl;rw[b] at c;cases c)];exact tD b
  ·rfl
theorem Ku.ok {a:List (List Pr)}{out:List Pr}(m:Ku a out):(∀ l∈a,Sorted l)->Sorted out/\ ∀b,Ae b out=Aw b a:=by
 induction m with
 |done g=>
  rename_i a;intro _;refine⟨List.Pairwise.nil,λb=>?_⟩;have: ∀a:List (List Pr),(∀ l∈a,l= [])->Aw b a=none:=λa g=>by
   unfold Aw;rw[Rr];intro l d;rw[g l d];rfl
  rw[this a g];rfl
 | @step a b p t out F C y r=>
  intro h;have G: ∀l∈a.map (IU p),Sorted l:=λl d=>by
   obtain⟨o,s,rfl⟩:=List.mem_map.1 d;exact(h o s).sublist (Tk p o)
  obtain⟨D,E⟩:=r G;have H: ∀e∈out,aN p.key e.key=true:=λe q=>by
   have f:=D.find q;rw[E] at f;unfold Aw at f;obtain⟨l,d,k⟩:=A0f f;obtain⟨o,s,rfl⟩:=List.mem_map.1 d;exact YN (h o s) (NT k).2
  refine⟨List.pairwise_cons.2 ⟨H,D⟩,λc=>?_⟩;have I: ∀l∈a,∀e∈l,aN e.key p.key=false:=λl d e q=>by
   obtain⟨i,v,j⟩:=DA d;cases l with
   |nil=>cases q
   |cons w u=>
    have f:=(C i w u (by rw[A2 v,j])).1;have z:=List.pairwise_cons.1 (h _ d);rcases List.mem_cons.1 q with rfl|q
    ·exact f
    ·cases k:aN e.key p.key
     ·rfl
     ·have:=DK (z.1 e q) k;rw[this] at f;cases f
  rw[BC];by_cases A:p.key=c
  ·subst A;simp only[if_true];have: ∀(a:List (List Pr)) (b:Nat),a[b]? =some (p::t)->(∀ i e u,a[i]? =some (e::u)->i<b->aN p.key e.key=true)->(∀ l∈a,Sorted l)->Aw p.key a=some p:=by
    intro a
    induction a with
    |nil=>intro b g;simp at g
    |cons l a r=>
     intro b g y h;rw[Dr];cases b with
     |zero=>simp at g;subst g;rw[BC,if_pos rfl];rfl
     |succ b=>
      have J:Ae p.key l=none:=by
       cases l with
       |nil=>rfl
       |cons w u=>
        have f:=y 0 w u rfl (by omega);have z:=List.pairwise_cons.1 (h _ (by simp:(w::u)∈(w::u)::a));refine ER λx n j=>?_
        rcases List.mem_cons.1 n with rfl|n
        ·rw[j,Bq] at f;cases f
        ·have:=DK f (z.1 x n);rw[j,Bq] at this;cases this
      rw[J,LN];exact r b (by simpa using g) (λi e u v M=>y (i+1) e u (by simpa using v) (by omega)) (λl d=>h l (by simp[d]))
   rw[this a b F (λi e u v=>(C i e u v).2) h]
  ·rw[if_neg A,E];unfold Aw;cases k:aN p.key c
   ·
    have B:aN c p.key=true:=by
     cases B:aN c p.key
     ·exact absurd (NF k B) A
     ·rfl
    have K:(a.map (IU p)).findSome? (Ae c)=none:=by
     rw[Rr];intro l d;obtain⟨o,s,rfl⟩:=List.mem_map.1 d;refine ER λx n j=>?_
     have:=YN (h o s) n;rw[j,k] at this;cases this
    have L:a.findSome? (Ae c)=none:=by
     rw[Rr];intro l d;refine ER λx n j=>?_
     have:=I l d x n;rw[j,B] at this;cases this
    rw[K,L]
   ·have: ∀a:List (List Pr),(a.map (IU p)).findSome? (Ae c)=a.findSome? (Ae c):=λa=>by
     induction a with
     |nil=>rfl
     |cons l a r=>rw[BT,Rg,Rg,tD k,r]
    rw[this]
theorem TH: ∀(e:List (List Pr)),(∀ l∈e,l= [])\/ ∃(f:Nat) (p:Pr) (t:List Pr),e[f]? =some (p::t)/\ ∀(a:Nat) (c:Pr) (u:List Pr),e[a]? =some (c::u)->aN c.key p.key=false/\(a<f->aN p.key c.key=true)
 | []=> .inl λl d=>by cases d
 |l::e=>by
  cases l with
  |nil=>
   rcases TH e with d|⟨f,p,t,i,g⟩
   ·refine .inl λl j=>?_
    rcases List.mem_cons.1 j with rfl|j
    ·rfl
    ·exact d l j
   ·refine .inr ⟨f+1,p,t,by simpa using i,λa c u b=>?_⟩;cases a with
    |zero=>simp at b
    |succ a=>have:=g a c u (by simpa using b);exact⟨this.1,λd=>this.2 (by omega)⟩
  |cons k u=>
   rcases TH e with d|⟨f,p,t,i,g⟩
   ·refine .inr ⟨0,k,u,rfl,λa c h b=>⟨?_,λd=>by omega⟩⟩;cases a with
    |zero=>simp at b;rw[b.1];exact Bq _
    |succ a=>have:=d _ (AK (by simpa using b));cases this
   ·cases m:aN p.key k.key
    ·refine .inr ⟨0,k,u,rfl,λa c h b=>⟨?_,λd=>by omega⟩⟩;cases a with
     |zero=>simp at b;rw[b.1];exact Bq _
     |succ a=>exact YJ m (g a c h (by simpa using b)).1
    ·refine .inr ⟨f+1,p,t,by simpa using i,λa c h b=>?_⟩;cases a with
     |zero=>simp at b;rw[<- b.1];exact⟨NU m,λ_=>m⟩
     |succ a=>have:=g a c h (by simpa using b);exact⟨this.1,λd=>this.2 (by omega)⟩
def total(a:List (List Pr)):Nat:=(a.map List.length).sum
theorem WE(p:Pr): ∀a,total (a.map (IU p))<=total a
 | []=>A0 _
 |l::a=>by
  have:=WE p a;have:=(Tk p l).length_le;simp[total] at *;omega
theorem Xe {p:Pr}{t:List Pr}: ∀ {ls:List (List Pr)} {k:Nat},ls[k]? =some (p::t)->total (ls.map (IU p))<total ls
 | [],k,a=>by simp at a
 |l::ls,0,a=>by
  simp at a;subst a;have b:=WE p ls;have c:=(Tk p t).length_le;have d:IU p (p::t)=IU p t:=by simp[IU,upto,Cb]
  simp only[total,BT,GP,d,A5] at*
  omega
 |l::ls,k+1,a=>by
  have b:=Xe (p:=p) (t:=t) (ls:=ls) (k:=k) (by simpa using a);have c:=(Tk p l).length_le;simp only[total,BT,GP] at*
  omega
theorem ADk(a:List (List Pr)): ∃out,Ku a out/\out.length<=total a:=by
 generalize h:total a=b
 induction b using Nat.strongRecOn generalizing a with
 |_ b d=>
  rcases TH a with e|⟨i,p,t,c,f⟩
  ·exact⟨[],.done e,by simp⟩
  ·have j:=Xe c;obtain⟨out,g,k⟩:=d _ (by omega) (a.map (IU p)) rfl;exact⟨p::out,.step c f g,by simp;omega⟩
theorem ry {t l:List Pr}{a:Nat}{x:Pr}(b:l[a]? =some x):BG t (l.take (a+1))=Cr x (BG t (l.take a)):=by rw[AD,b];simp only[BG,HT,DG,HU,MT]
theorem R3: ∀a,(Ag a).length<=total a
 | []=>A0 _
 |l::a=>by
  rw[Mx];have:=R3 a;have:=P8 (l:=l) (t:=Ag a);simp[total] at *;omega
theorem WU: ∀a,Bf (Ag a)
 | []=>λ_ b=>by cases b
 |l::a=>by rw[Mx];exact Vv (WU a)
theorem yk(l:List Pr)(a:List (List Pr)):total (l::a)=l.length+total a:=by simp[total]
def rA(f:al)(d:Nat->Prop)(a:aa)(s:Sl)(e:List (List Pr)):Prop:=
 ∃b,View jv a s b/\(∀ c,s.af=some c->c<a.size/\ ¬d c)/\b.length=e.length/\ ∀(i:Nat) (v:gZ) (l:List Pr),b[i]? =some v->e[i]? =some l->(v.v= .nilFunc/\l= [])\/(Dx f P v.v (λc=>c<a.size/\ ¬d c) a l/\l.length<=1099511627776)
end Go.Lf.G.M
namespace Go.Lf
open G
theorem Dx.later {f:al}{d:Nat->Prop}{fv:J0}{b e:aa}{l:List Pr}(h:Dx f P fv (λc=>c<b.size/\ ¬d c) b l){g:Nat->Prop}(x:Mod g b e)(i: ∀c,c<b.size->g c->d c):Dx f P fv (λc=>c<e.size/\ ¬d c) e l:=
 h.ai (λc a=>⟨by have:=x.size;omega,a.2⟩) (λc a=>a.1) λc a=>x.get c a.1 λj=>a.2 (i c a.1 j)
end Go.Lf
namespace Go.Lf.G.M
open Go Go.Lf Go.Lf.G
theorem rm {p:al}{k:Nat->Prop}{a:aa}{s:Sl}{ls:List (List Pr)}{x:A2N}(G:rA p k a s ls)(hX: ∀c,k c->c<a.size)(t:ls.length<=1099511627776)(u:bG ls)
  (y: ∀fv n,Dx p P fv (λc=>c<n.size/\ ¬k c) n (Ag ls)->Ext a n->n.size=a.size+1->x fv n):AA p P OX #[J4 s.p s.len s.cap] a x:=by
 obtain⟨q,v,z,w,A⟩:=G;refine AFQ ?_;unfold Z0;refine ak.mk λg _ B r C=>?_
 have H: ∃os:List (Option (List Pr)),os.length=q.length/\(∀ (i:Nat) (v:gZ),q[i]? =some v->(v.v= .nilFunc/\os[i]? =some none)\/ ∃l,os[i]? =some (some l)/\Dx p P v.v (λc=>c<a.size/\ ¬k c) a l/\l.length<=1099511627776)/\
   (∀ l,l∈os.filterMap id->l∈ls)/\ ∀b,Aw b (os.filterMap id)=Aw b ls:=by
  clear v hX t u y B r C z
  induction q generalizing ls with
  |nil=>
   have:ls= []:=CC w.symm;subst this;exact⟨[],rfl,λi v a=>by simp at a,λl a=>by simp at a,λb=>rfl⟩
  |cons v q I=>
   cases ls with
   |nil=>simp at w
   |cons l ls=>
    obtain⟨os,g,h,D,E⟩:=I (ls:=ls) (by simpa using w) (λi v l g h=>A (i+1) v l (by simpa using g) (by simpa using h));rcases A 0 v l rfl rfl with⟨j,o⟩|⟨j,o⟩
    ·refine⟨none::os,by simp[g],λi v e=>?_,λm d=>?_,λb=>?_⟩
     ·cases i with
      |zero=>simp at e;subst e;exact .inl ⟨j,rfl⟩
      |succ i=>exact h i v (by simpa using e)
     ·simp at d;exact An _ (D m (by simpa using d))
     ·subst o;rw[Dr];simpa [Ti] using E b
    ·refine⟨some l::os,by simp[g],λi v e=>?_,λm d=>?_,λb=>?_⟩
     ·cases i with
      |zero=>simp at e;subst e;exact .inr ⟨l,rfl,j,o⟩
      |succ i=>exact h i v (by simpa using e)
     ·simp at d;rcases d with rfl|d
      ·simp
      ·exact An _ (D m (by simpa using d))
     ·rw[Dr,WD];simp only[id];rw[Dr,E b]
 obtain⟨os,J,K,L,M⟩:=H;obtain⟨out,d,_⟩:=ADk (os.filterMap id);have N:out=Ag ls:=by
  have F:=d.ok λl t=>u.sorted l (L l t)
  exact F.1.ext (Dl ls) λb=>by rw[F.2 b,M b,I7 b u]
 subst N;refine y _ g ((APJ (S:=λc=>c<a.size/\ ¬k c) B (v.ext r) (by omega) J (λi v e=>?_) d (λc f=>by omega)).ai ?_ (λc f=>f.1) (λc _=>rfl)) r C
 ·rcases K i v e with j|⟨l,j,o,O⟩
  ·exact .inl j
  ·exact .inr ⟨l,j,o.ai (λc f=>f) (λc f=>by omega) (λc f=>r.get c f.1 (λa=>a)),O⟩
 ·rintro c (f|⟨g,h⟩)
  ·exact⟨by omega,f.2⟩
  ·refine⟨g,?_⟩;rcases h with rfl|h
   ·intro a;have:=hX _ a;omega
   ·exact(z c h).2
theorem PN(a:A2O)(b c:List (List Pr)):Aw a (b++c)=(Aw a b).or (Aw a c):=by unfold Aw;rw[List.findSome?_append]
theorem NL(a:A2O)(l m:List Pr):Ae a (l++m)=(Ae a l).or (Ae a m):=by unfold Ae;rw[List.find?_append]
structure DD where
 af:Nat
 pr:Pr
 ht:Nat
def cQ(nx:Nat->Q2):List J0:=(List.range 12).map λi=>J5 (nx i)
def Er(p:Pr)(nx:Nat->Q2):Array J0:=(([J7 p.key,J7 p.val,J3 p.gone]:List J0)++cQ nx).toArray
def DU(nx:Nat->Q2)(a b:Int):Array J0:=(([J7 ⟨#[]⟩,J7 ⟨#[]⟩,J3 false]:List J0)++cQ nx++([J6 J9 a,J6 J9 b]:List J0)).toArray
theorem BP(nx:Nat->Q2):(cQ nx).length=12:=by simp[cQ]
theorem R9 {nx:Nat->Q2}{i:Nat}(a:i<12):(cQ nx)[i]? =some (J5 (nx i)):=by simp[cQ,a]
theorem pN {nx:Nat->Q2}{i:Nat}(v:Q2):(cQ nx).set i (J5 v)=cQ (λa=>if a=i then v else nx a):=by
 refine List.ext_getElem? λa=>?_
 by_cases b:a<12
 ·rw[Mu,R9 b,R9 b,BP];by_cases c:i=a
  ·subst c;simp[b]
  ·simp[c,Ne.symm c]
 ·rw[LO (by simp[BP];omega),LO (by simp[BP];omega)]
theorem AMI {p:Pr}{nx:Nat->Q2}{i:Nat}(a:i<12):(Er p nx)[3+i]? =some (J5 (nx i)):=by simp only[Er,My];rw[DB (by simp)];simpa using R9 a
theorem AMm {nx:Nat->Q2}{a b:Int}{i:Nat}(c:i<12):(DU nx a b)[3+i]? =some (J5 (nx i)):=by simp only[DU,My];rw[A4,DB (by simp),E0 (by simp[BP];omega)];simpa using R9 c
theorem lh {nx:Nat->Q2}{a b:Int}:(DU nx a b)[15]? =some (J6 J9 a)/\(DU nx a b)[16]? =some (J6 J9 b):=by
 simp only[DU,My];constructor
 ·rw[DB (by simp[BP])];simp[BP]
 ·rw[DB (by simp[BP])];simp[BP]
theorem QH {p:Pr}{nx:Nat->Q2}:(Er p nx).size=15:=by simp[Er,BP]
theorem cU {nx:Nat->Q2}{a b:Int}:(DU nx a b).size=17:=by simp[DU,BP]
theorem tw {p:Pr}{nx:Nat->Q2}{i:Nat}(v:Q2):(Er p nx).setIfInBounds (3+i) (J5 v)=Er p (λa=>if a=i then v else nx a):=by apply Array.toList_inj.1;rw[Fc];simp only[Er,Mz];rw[HI _ _ (by simp),<-pN v];simp
theorem ANG {nx:Nat->Q2}{a b:Int}{i:Nat}(d:i<12)(v:Q2):(DU nx a b).setIfInBounds (3+i) (J5 v)=DU (λc=>if c=i then v else nx c) a b:=by apply Array.toList_inj.1;rw[Fc];simp only[DU,Mz];rw[A4,HI _ _ (by simp),List.set_append_left _ _ (by simp[BP];omega),<-pN v];simp
theorem AKz {nx:Nat->Q2}{c a b:Int}:(DU nx c a).setIfInBounds 15 (J6 J9 b)=DU nx b a:=by apply Array.toList_inj.1;rw[Fc];simp only[DU,Mz];rw[HI _ _ (by simp[BP])];simp[BP]
theorem tx {nx:Nat->Q2}{a c b:Int}:(DU nx a c).setIfInBounds 16 (J6 J9 b)=DU nx a b:=by apply Array.toList_inj.1;rw[Fc];simp only[DU,Mz];rw[HI _ _ (by simp[BP])];simp[BP]
theorem Cf {a:aa}{b i:Nat}{l:Nat->Q2}{T:Q7}{fr:Nat×Nat}(c:a[b]? =some (J2 (cQ l).toArray T fr))(d:i<12):ag a ⟨b,i,none⟩=some (J5 (l i)):=by rw[Gy c,My];exact R9 d
def addrAt(t:Nat)(ns:List DD)(p:Nat):Q6:=match p with|0=>⟨t,0,none⟩|p+1=>match ns[p]? with|some x=>⟨x.af,0,none⟩|none=>⟨t,0,none⟩
def Re(ns:List DD)(p:Nat):Nat:=match p with|0=>12|p+1=>match ns[p]? with|some x=>x.ht|none=>0
def Cw(i:Nat)(l:List DD):Q2:=(l.find? λx=>decide (i<x.ht)).map λx=>⟨x.af,0,none⟩
def cP(t:Nat)(ns:List DD)(b:Nat):Prop:=b=t\/ ∃x∈ns,x.af=b
structure Lay (h:aa) (t:Nat) (ns:List DD) (nx:Nat->Nat->Q2) (n sz:Int):Prop where
 head:h[t]? =some (J2 (DU (nx 0) n sz) Zo (0,0))
 node: ∀(j:Nat) (x:DD),ns[j]? =some x->h[x.af]? =some (J2 (Er x.pr (nx (j+1))) QO (0,0))/\x.af≠t
 apart:ns.Pairwise λx y=>x.af≠y.af
structure jR (ns:List DD) (nx:Nat->Nat->Q2):Prop where
 link: ∀p i,p<=ns.length->i<12->i<Re ns p->nx p i=Cw i (ns.drop p)
 ht: ∀x∈ns,1<=x.ht/\x.ht<=12
theorem Lay.mod {c d:aa}{t:Nat}{ns:List DD}{nx:Nat->Nat->Q2}{e f:Int}{g:Nat->Prop}(l:Lay c t ns nx e f)(m:Mod g c d)(h: ∀b,cP t ns b-> ¬g b):Lay d t ns nx e f:=
 ⟨m.af l.head (h _ (.inl rfl)),λi x a=>⟨m.af (l.node i x a).1 (h _ (.inr ⟨x,AK a,rfl⟩)),(l.node i x a).2⟩,l.apart⟩
theorem Lay.ext {a b:aa}{t:Nat}{ns:List DD}{nx:Nat->Nat->Q2}{c d:Int}(l:Lay a t ns nx c d)(m:Ext a b):Lay b t ns nx c d:=l.mod m λ_ _ a=>a
theorem Lay.lt {a:aa}{t:Nat}{ns:List DD}{nx:Nat->Nat->Q2}{c d:Int}(l:Lay a t ns nx c d){b:Nat}(e:cP t ns b):b<a.size:=by
 rcases e with rfl|⟨x,f,rfl⟩
 ·exact Af l.head
 ·obtain⟨g,h,i⟩:=DA f;exact Af (l.node g x (by rw[A2 h,i])).1
theorem Lay.next {a:aa}{t:Nat}{ns:List DD}{nx:Nat->Nat->Q2}{d e:Int}(l:Lay a t ns nx d e){p i:Nat}(g:p<=ns.length)(b:i<12):ag a (((addrAt t ns p).add 3).add (i*1))=some (J5 (nx p i)):=by
 rw[add_add,Bk];cases p with
 |zero=>show ag a ((⟨t,0,none⟩:Q6).add (3+i))=_;exact AB l.head (AMm b)
 |succ p=>
  have c:=A2 (l:=ns) (i:=p) (by omega);have f:addrAt t ns (p+1)=⟨ns[p].af,0,none⟩:=by simp[addrAt,c]
  rw[f];exact AB (l.node p _ c).1 (AMI b)
theorem Lay.pair {a:aa}{t:Nat}{ns:List DD}{nx:Nat->Nat->Q2}{d e:Int}(l:Lay a t ns nx d e){c:Nat}{x:DD}(f:ns[c]? =some x):
  ag a ⟨x.af,0,none⟩=some (J7 x.pr.key)/\ag a ((⟨x.af,0,none⟩:Q6).add 1)=some (J7 x.pr.val)/\ag a ((⟨x.af,0,none⟩:Q6).add 2)=some (J3 x.pr.gone):=by
 have b:=(l.node c x f).1;exact⟨AL b rfl,AB b rfl,AB b rfl⟩
theorem AFi {i:Nat}{l:List DD}{a:Q6}(b:Cw i l=some a): ∃e x,l[e]? =some x/\a=⟨x.af,0,none⟩/\i<x.ht/\ ∀(c:Nat) (d:DD),c<e->l[c]? =some d->d.ht<=i:=by
 induction l with
 |nil=>simp[Cw] at b
 |cons x l h=>
  unfold Cw at b;rw[DH] at b;by_cases f:i<x.ht
  ·simp[f] at b;exact⟨0,x,rfl,b.symm,f,λc d j=>by omega⟩
  ·simp[f] at b;obtain⟨e,d,k,m,n,o⟩:=h (by simpa [Cw] using b);refine⟨e+1,d,by simpa using k,m,n,λc z j g=>?_⟩;cases c with
   |zero=>simp at g;subst g;omega
   |succ c=>exact o c z (by omega) (by simpa using g)
theorem WM {i:Nat}{l:List DD}(a:Cw i l=none): ∀x∈l,x.ht<=i:=by intro x b;simp[Cw] at a;exact a x b
theorem AE9 {i:Nat}{l:List DD}{k:Nat}(c:k<=l.length)(d: ∀(a:Nat) (b:DD),a<k->l[a]? =some b->b.ht<=i):Cw i l=Cw i (l.drop k):=by
 induction k generalizing l with
 |zero=>simp
 |succ k e=>
  cases l with
  |nil=>simp at c
  |cons x l=>
   have f:=d 0 x (by omega) rfl;rw[HM,<-e (by simpa using c) λa b h g=>d (a+1) b (by omega) (by simpa using g)];unfold Cw;rw[DH];simp[Nat.not_lt.2 f]
abbrev bV(ns:List DD):List Pr:=ns.map (·.pr)
theorem ox {key:A2O}: ∀ {l:List Pr},Sorted l-> ∀ {j:Nat} {x:Pr},l[j]? =some x->(j<aS key l↔aN x.key key=true)
 | [],_,j,x,a=>by simp at a
 |y::l,s,j,x,a=>by
  have d:=List.pairwise_cons.1 s;by_cases b:aN y.key key=true
  ·have c:aS key (y::l)=aS key l+1:=by simp[aS,gW,b]
   rw[c];cases j with
   |zero=>simp at a;subst a;simp[b]
   |succ j=>
    have:=ox (key:=key) d.2 (j:=j) (x:=x) (by simpa using a);rw[<- this];omega
  ·have c:aS key (y::l)=0:=by simp[aS,gW,b]
   rw[c];cases j with
   |zero=>simp at a;subst a;simp[b]
   |succ j=>
    have f:x∈l:=AK (by simpa using a);have g:=d.1 x f;constructor
    ·intro e;omega
    ·intro e;exact absurd (DK g e) b
structure Tu (ns:List DD) (key:A2O) (i p:Nat):Prop where
 le:p<=aS key (bV ns)
 ht:i<Re ns p
 last: ∀(j:Nat) (y:DD),p<=j->j<aS key (bV ns)->ns[j]? =some y->y.ht<=i
theorem Wy(key:A2O)(ns:List DD):aS key (bV ns)<=ns.length:=by have:=lX key (bV ns);simpa using this
theorem HV {a:Array J0}(l:Nat->Q2)(c:a=(cQ l).toArray)(i:Nat)(v:Q2):a.setIfInBounds i (J5 v)=(cQ (λb=>if b=i then v else l b)).toArray:=by subst c;apply Array.toList_inj.1;rw[Fc];exact pN v
theorem AK4 {a:Nat}(b:a<100):J8 J9 (((a+1:Nat):Int)-(1:Int))=(a:Int):=by rw[show(((a+1:Nat):Int)-1)=(a:Int) by omega];exact F5 (by omega)
set_option maxHeartbeats 400000 in
theorem Yl {ap:al}{h:aa}{t:Nat}{ns:List DD}{nx:Nat->Nat->Q2}{aq ar:Int}{key:A2O}{H:A2N}(L:Lay h t ns nx aq ar)(K:jR ns nx)(s:Sorted (bV ns))
  (au: ∀(b:Nat->Nat) I,(∀ i,i<12->Tu ns key i (b i))->Ext h I->H (.agg #[J5 (some (addrAt t ns (b 0))),J5 (some (addrAt t ns (b 1))),J5 (some (addrAt t ns (b 2))),J5 (some (addrAt t ns (b 3))),J5 (some (addrAt t ns (b 4))),J5 (some (addrAt t ns (b 5))),J5 (some (addrAt t ns (b 6))),J5 (some (addrAt t ns (b 7))),J5 (some (addrAt t ns (b 8))),J5 (some (addrAt t ns (b 9))),J5 (some (addrAt t ns (b 10))),J5 (some (addrAt t ns (b 11)))]) I):
  AA ap P FX #[J5 (some ⟨t,0,none⟩),J7 key] h H:=by
 refine UJ ?_;unfold Nq;refine ak.mk λk _ av J a2=>ak.mk λo _ aw M a3=>?_
 have ax:Ext h o:=J.trans M;have a4:=Wy key ns;refine Loop.rule (λm x q=> ∃(p:Nat) (b:Nat->Nat) (l:Nat->Q2),x=(some (addrAt t ns p),(m:Int)-1,())/\m<=12/\Mod (λc=>c=k.size) o q/\p<=aS key (bV ns)/\(m=0\/m<=Re ns p)/\
   q[k.size]? =some (J2 (cQ l).toArray Dm (0,0))/\(∀ i,i<12->m<=i->Tu ns key i (b i)/\l i=some (addrAt t ns (b i)))) ?_
  (m:=12) ⟨0,λ_=>0,λ_=>none,rfl,by omega,Mod.refl,by omega,.inr (by simp[Re]),aw,λi k o=>by omega⟩
 rintro a5 m _ q ⟨p,b,l,rfl,a6,C,w,y,e,d⟩ ay;have N:Ext h q:=ax.then (C.ai λc _ v=> .inr (by have:=J.size;omega));refine ae.intro (λv=>?_) (λv=>?_)
 ·cases m with
  |zero=>simp at v
  |succ i=>
   have z:i<12:=by omega
   have az:(((i+1:Nat):Int)-1)=(i:Int):=by omega
   rw[az];have O:=L.ext N;refine Loop.rule (λm x A=> ∃p:Nat,x=(some (addrAt t ns p),())/\A=q/\m=aS key (bV ns)-p/\p<=aS key (bV ns)/\i<Re ns p) ?_ ⟨p,rfl,rfl,rfl,w,by rcases y with h|h<;>omega⟩;rintro a7 m _ A ⟨p,rfl,aA,rfl,w,y⟩ aC;subst aA;have D:nx p i=Cw i (ns.drop p):=K.link p i (by omega) z y;have ag:=O.next (p:=p) (i:=i) (by omega) z;refine ah.mk λaD Q=>?_
   have B:(0:Int)<=(i:Int)/\(i:Int)<(12:Int):=⟨by omega,by omega⟩;have R:(∀ (j:Nat) (r:DD),p<=j->j<aS key (bV ns)->ns[j]? =some r->r.ht<=i)->aD (false,()) A:=λaE=>Q _ _ (ae.no rfl (by
    refine⟨B,?_⟩;show ab A ((⟨k.size,0,none⟩:Q6).add (i*1)) _ _;rw[Bb,AI,Bk];refine ab.mk e (by simp[BP];omega) λa8 S E a9=>?_
    rw[HV l rfl] at S;have aF:Tu ns key i p:=⟨w,y,aE⟩;refine ay i _ _ (by omega) ⟨p,λf=>if f=i then p else b f,_,?_,by omega,C.trans E,w,.inr (by omega),S,λf n ba=>?_⟩
    ·cases i with
     |zero=>rfl
     |succ i=>rw[AK4 (by omega),show(((i+1:Nat):Int)-1)=(i:Int) by omega]
    ·by_cases T:f=i
     ·subst T;simp[aF]
     ·simp[T];exact d f n (by omega)))
   refine⟨B,?_⟩;rw[A6];refine AZ.mk ag ?_;cases u:nx p i with
   |none=>
    refine ae.no rfl ?_;refine R λj r aG aH F=>?_
    rw[D] at u;refine WM u r ?_;rw[List.mem_drop_iff_getElem];have:=List.getElem?_eq_some_iff.1 F;exact⟨j-p,by omega,by rw[<- this.2];congr 1;omega⟩
   |some a=>
    refine ae.yes rfl ?_;refine⟨B,AZ.mk (u▸ag) ?_⟩;rw[D] at u;obtain⟨f,x,n,rfl,aI,aJ⟩:=AFi u;rw[Bm] at n;refine AJ.mk (O.pair n).1 ?_;have aK:(bV ns)[p+f]? =some x.pr:=by simp[bV,n]
    have U:=ox (key:=key) s aK;cases G:aN x.pr.key key
    ·refine R λj r aG aH F=>?_
     have bb:j<p+f:=by
      rcases FF j (p+f) with k|k
      ·exact k
      ·have o:p+f<aS key (bV ns):=by omega
       rw[U.1 o] at G;cases G
     exact aJ (j-p) r (by omega) (by rw[Bm];rw[<- F];congr 1;omega)
    ·have o:=U.2 G;refine Q _ _ (ae.yes rfl ?_);refine⟨B,AZ.mk (u▸D▸ag) ?_⟩;have aL:addrAt t ns (p+f+1)=⟨x.af,0,none⟩:=by simp[addrAt,n]
     refine aC (aS key (bV ns)-(p+f+1)) _ _ (by omega) ⟨p+f+1,by rw[aL],rfl,rfl,by omega,by simp[Re,n,aI]⟩
 ·have aM:m=0:=by simp at v;omega
  subst aM;have aO:q[h.size]? =some (J2 (cQ (λ_=>none)).toArray Dm (0,0)):=C.af (M.af av (by simp)) (by omega);simp only[Bb,AI];refine AZ.mk (Cf e (i:=0) (by omega)) ?_;refine AZ.mk (Cf e (i:=1) (by omega)) ?_;refine AZ.mk (Cf e (i:=2) (by omega)) ?_;refine AZ.mk (Cf e (i:=3) (by omega)) ?_;refine AZ.mk (Cf e (i:=4) (by omega)) ?_;refine AZ.mk (Cf e (i:=5) (by omega)) ?_;refine AZ.mk (Cf e (i:=6) (by omega)) ?_;refine AZ.mk (Cf e (i:=7) (by omega)) ?_;refine AZ.mk (Cf e (i:=8) (by omega)) ?_;refine AZ.mk (Cf e (i:=9) (by omega)) ?_;refine AZ.mk (Cf e (i:=10) (by omega)) ?_;refine AZ.mk (Cf e (i:=11) (by omega)) ?_;refine ab.mk aO (by simp[BP]) λbc V aP bd=>?_
  rw[HV _ rfl] at V;refine ab.mk V (by simp[BP]) λbe W aQ bf=>?_
  rw[HV _ rfl] at W;refine ab.mk W (by simp[BP]) λbg X aR bh=>?_
  rw[HV _ rfl] at X;refine ab.mk X (by simp[BP]) λbi Y aT bj=>?_
  rw[HV _ rfl] at Y;refine ab.mk Y (by simp[BP]) λbk Z aU bm=>?_
  rw[HV _ rfl] at Z;refine ab.mk Z (by simp[BP]) λbn ac aV bo=>?_
  rw[HV _ rfl] at ac;refine ab.mk ac (by simp[BP]) λbp ad E bq=>?_
  rw[HV _ rfl] at ad;refine ab.mk ad (by simp[BP]) λbr af aW bs=>?_
  rw[HV _ rfl] at af;refine ab.mk af (by simp[BP]) λbt ai aX bu=>?_
  rw[HV _ rfl] at ai;refine ab.mk ai (by simp[BP]) λbv aj aY bw=>?_
  rw[HV _ rfl] at aj;refine ab.mk aj (by simp[BP]) λbx am aZ bz=>?_
  rw[HV _ rfl] at am;refine ab.mk am (by simp[BP]) λan ao a0 bA=>?_
  rw[HV _ rfl] at ao;have g:an[h.size]? =some (J2 (cQ l).toArray Dm (0,0)):=by rw[ao];congr 3
  refine AZ.mk (Cf g (i:=0) (by omega)) ?_;refine AZ.mk (Cf g (i:=1) (by omega)) ?_;refine AZ.mk (Cf g (i:=2) (by omega)) ?_;refine AZ.mk (Cf g (i:=3) (by omega)) ?_;refine AZ.mk (Cf g (i:=4) (by omega)) ?_;refine AZ.mk (Cf g (i:=5) (by omega)) ?_;refine AZ.mk (Cf g (i:=6) (by omega)) ?_;refine AZ.mk (Cf g (i:=7) (by omega)) ?_;refine AZ.mk (Cf g (i:=8) (by omega)) ?_;refine AZ.mk (Cf g (i:=9) (by omega)) ?_;refine AZ.mk (Cf g (i:=10) (by omega)) ?_;refine AZ.mk (Cf g (i:=11) (by omega)) ?_;have a1:=((((((((((aP.trans aQ).trans aR).trans aT).trans aU).trans aV).trans E).trans aW).trans aX).trans aY).trans aZ).trans a0;have:=au b an (λi z=>(d i z (by omega)).1) (N.then (a1.ai λc _ v=> .inr (by omega)));rw[(d 0 (by omega) (by omega)).2,(d 1 (by omega) (by omega)).2,(d 2 (by omega) (by omega)).2,(d 3 (by omega) (by omega)).2,(d 4 (by omega) (by omega)).2,(d 5 (by omega) (by omega)).2,(d 6 (by omega) (by omega)).2,(d 7 (by omega) (by omega)).2,(d 8 (by omega) (by omega)).2,(d 9 (by omega) (by omega)).2,(d 10 (by omega) (by omega)).2,(d 11 (by omega) (by omega)).2];exact this
theorem AMr {z:Int}(b: -9223372036854775808<=z)(c:z<=9223372036854775807):J8 J9 z=z:=by
 have a:J8 J9 z=if z % 18446744073709551616>=9223372036854775808 then z % 18446744073709551616-18446744073709551616 else z % 18446744073709551616:=by simp[J8,IntKind.bits,IntKind.signed]
 rw[a];split<;>omega
theorem aD {a:Q6}{K:Q6->Prop}(b:K a):At (some a) K:=b
theorem ALb {l:al}{c:aa}{key:A2O}{h:A2N}(t:key.size<=64)(n: ∀d:Nat,1<=d->d<=12->h (J6 J9 (d:Int)) c):AA l P Q4 #[J7 key] c h:=by
 refine ADt ?_;unfold Vx;refine Loop.rule (λm x e=> ∃(i:Nat) (a:Int),x=(a,(i:Int),())/\e=c/\m=key.size-i/\i<=key.size) ?_ ⟨0,2166136261,rfl,rfl,rfl,by omega⟩;rintro K m _ e ⟨i,a,rfl,f,rfl,u⟩ o;subst f;refine ae.intro (λb=>?_) (λb=>?_)
 ·have v:i<key.size:=by simp at b;omega
  refine⟨⟨by show(0:Int)<=(i:Int);omega,by show(i:Int)<_;omega⟩,o (key.size-(i+1)) _ _ (by omega) ⟨i+1,_,by rw[Aa (by omega)],rfl,rfl,by omega⟩⟩
 ·refine Loop.rule (λm x g=> ∃(i:Nat) (a:Int),x=(a,(i:Int),())/\g=e/\m=12-i/\1<=i/\i<=12) ?_ ⟨1,_,rfl,rfl,rfl,by omega,by omega⟩;rintro w m _ g ⟨i,a,rfl,f,rfl,p,q⟩ r;subst f;refine ah.mk λs j=>?_
  have k:s (false,()) g:=j _ _ (ae.no rfl (n i p q));refine ae.intro (λb=>?_) (λb=>k);have y:i<12:=by simp at b;omega
  cases z:((GG .u32 a (3:Int))==(0:Int))
  ·exact k
  ·exact j _ _ (ae.yes rfl (r (12-(i+1)) _ _ (by omega) ⟨i+1,_,by rw[Aa (by omega)],rfl,rfl,by omega,by omega⟩))
theorem NV(i:Nat)(a b:List DD):Cw i (a++b)=(Cw i a).or (Cw i b):=by unfold Cw;rw[List.find?_append];cases a.find? (λx=>decide (i<x.ht))<;>rfl
theorem AGb {i:Nat}{l:List DD}(a: ∀x∈l,x.ht<=i):Cw i l=none:=by unfold Cw;rw[List.find?_eq_none.2 (λx b=>by have:=a x b;simp;omega)];rfl
theorem AI6 {i:Nat}{l:List DD}{x:DD}(b:x∈l)(d:i<x.ht): ∃a,Cw i l=some a:=by
 cases c:Cw i l with
 |some a=>exact⟨a,rfl⟩
 |none=>have:=WM c x b;omega
theorem RF {ns:List DD}(c: ∀x∈ns,1<=x.ht/\x.ht<=12)(p:Nat):Cw 0 (ns.drop p)=(ns[p]?).map λx=>⟨x.af,0,none⟩:=by
 cases a:ns[p]? with
 |none=>rw[A02 (List.getElem?_eq_none_iff.1 a)];rfl
 |some x=>
  have b:=List.getElem?_eq_some_iff.1 a;rw[Fo b.1,b.2];have:=(c x (AK a)).1;unfold Cw;rw[DH];simp[GC Nat.zero_lt_one this]
def fU(nx:Nat->Nat->Q2)(p i:Nat)(v:Q2):Nat->Nat->Q2:=λa b=>if a=p/\b=i then v else nx a b
theorem Jj {p:Pr}{f g:Nat->Q2}(a: ∀i,f i=g i):Er p f=Er p g:=by rw[show f=g from funext a]
theorem Vr {a b:Int}{f g:Nat->Q2}(c: ∀i,f i=g i):DU f a b=DU g a b:=by rw[show f=g from funext c]
theorem Lay.store {e:aa}{t:Nat}{ns:List DD}{nx:Nat->Nat->Q2}{s u:Int}(l:Lay e t ns nx s u){p i:Nat}(C:p<=ns.length)(z:i<12){v:Q2}{K:aa->Prop}
  (w: ∀c,Lay c t ns (fU nx p i v) s u->Mod (cP t ns) e c->c.size=e.size->K c):ab e (((addrAt t ns p).add 3).add (i*1)) (J5 v) K:=by
 rw[add_add,Bk];cases p with
 |zero=>
  show ab e ((⟨t,0,none⟩:Q6).add (3+i)) _ _;rw[Bb,AI];refine ab.mk l.head (by rw[cU];omega) λc d m o=>w c ⟨?_,λj x a=>⟨?_,(l.node j x a).2⟩,l.apart⟩ (m.ai λb _ d=> .inl d) o
  ·rw[d,ANG z,Vr (g:=fU nx 0 i v 0) (λh=>by simp[fU])]
  ·rw[m.get _ (Af (l.node j x a).1) (l.node j x a).2,(l.node j x a).1,Jj (g:=fU nx 0 i v (j+1)) (λh=>by simp[fU])]
 |succ p=>
  have k:=A2 (l:=ns) (i:=p) (by omega);have f:addrAt t ns (p+1)=⟨ns[p].af,0,none⟩:=by simp[addrAt,k]
  rw[f,Bb,AI];obtain⟨A,B⟩:=l.node p _ k;refine ab.mk A (by rw[QH];omega) λc d m o=>w c ⟨?_,λj x a=>⟨?_,(l.node j x a).2⟩,l.apart⟩ (m.ai λb _ d=> .inr ⟨_,AK k,d.symm⟩) o
  ·rw[m.get _ (Af l.head) (λf=>B f.symm),l.head,Vr (g:=fU nx (p+1) i v 0) (λh=>by simp[fU])]
  ·by_cases q:j=p
   ·subst q;rw[k] at a;cases a;rw[d,tw,Jj (g:=fU nx (j+1) i v (j+1)) (λh=>by simp[fU])]
   ·have hd:x.af≠ns[p].af:=by
     have n:=List.getElem?_eq_some_iff.1 a;have y:=List.pairwise_iff_getElem.1 l.apart;rcases MA q with r|r
     ·have:=y j p n.1 (by omega) r;rw[n.2] at this;exact this
     ·have:=y p j (by omega) n.1 r;rw[n.2] at this;exact λf=>this f.symm
    rw[m.get _ (Af (l.node j x a).1) hd,(l.node j x a).1,Jj (g:=fU nx (p+1) i v (j+1)) (λh=>by simp[fU,q])]
def EG(l:List Pr):Nat:=(l.map λx=>x.key.size+x.val.size).sum
structure cT (h:aa) (t:Nat) (ns:List DD) (l:List Pr):Prop where
 lay: ∃nx,Lay h t ns nx (l.length:Int) (EG l:Int)/\jR ns nx
 bV:bV ns=l
 sorted:Sorted l
 aQ:Bf l
theorem cT.mod {a c:aa}{t:Nat}{ns:List DD}{l:List Pr}{d:Nat->Prop}(T:cT a t ns l)(m:Mod d a c)(e: ∀b,cP t ns b-> ¬d b):cT c t ns l:=by obtain⟨nx,L,K⟩:=T.lay;exact⟨⟨nx,L.mod m e,K⟩,T.bV,T.sorted,T.aQ⟩
theorem cT.ext {a b:aa}{t:Nat}{ns:List DD}{l:List Pr}(T:cT a t ns l)(m:Ext a b):cT b t ns l:=T.mod m λ_ _ a=>a
theorem cT.lt {a:aa}{t:Nat}{ns:List DD}{l:List Pr}(T:cT a t ns l){b:Nat}(c:cP t ns b):b<a.size:=by obtain⟨nx,L,_⟩:=T.lay;exact L.lt c
theorem ru {d:al}{a:aa}{c:A2N}(e: ∀b,cT b a.size [] []->Ext a b->b.size=a.size+1->c (J5 (some ⟨a.size,0,none⟩)) b):AA d P PZ #[] a c:=by
 refine AJd ?_;unfold tc;refine ak.mk λf _ g h j=>e f ⟨⟨λ_ _=>none,⟨g,λl x a=>by simp at a,List.Pairwise.nil⟩,⟨λp i k m _=>?_,λx a=>by cases a⟩⟩,rfl,List.Pairwise.nil,λx a=>by cases a⟩ h j
 have:p=0:=by simpa using k
 subst this;rfl
theorem Ms(l m:List Pr):EG (l++m)=EG l+EG m:=by simp[EG,List.sum_append]
theorem Qp(x:Pr)(l:List Pr):EG (x::l)=x.key.size+x.val.size+EG l:=by simp[EG]
theorem AJV {l:List Pr}(g:Bf l):EG l<=l.length*8256:=by
 induction l with
 |nil=>simp[EG]
 |cons x l b=>
  have f:=b λc d=>g c (by simp[d])
  have a:=g x (by simp);have h:x.key.size<=64/\x.val.size<=8192:=by
   unfold Aj at a;split at a
   ·cases a
   ·split at a
    ·cases a
    ·rename_i e;simp at e;omega
  rw[Qp,A5,BE];omega
theorem tz {x:Pr}(a:Aj x=0):x.key.size<=64/\x.val.size<=8192:=by
 unfold Aj at a;split at a
 ·cases a
 ·split at a
  ·cases a
  ·rename_i b;simp at b;omega
theorem AK8 {p a:Pr}{nx:Nat->Q2}:(((Er p nx).setIfInBounds 0 (J7 a.key)).setIfInBounds 1 (J7 a.val)).setIfInBounds 2 (J3 a.gone)=Er a nx:=by apply Array.toList_inj.1;rw[Fc,Fc,Fc];rfl
theorem gI.zero {ns:List DD}{key:A2O}{p:Nat}(d: ∀x∈ns,1<=x.ht/\x.ht<=12)(b:Tu ns key 0 p):p=aS key (bV ns):=by
 rcases FF p (aS key (bV ns)) with a|a
 ·have e:=Wy key ns;have c:=A2 (l:=ns) (i:=p) (by omega);have f:=b.last p _ (A0 _) a c;have g:=d _ (AK c);omega
 ·have:=b.le;omega
def fV(nx:Nat->Nat->Q2)(c:Nat->Nat)(b:Q6)(i:Nat):Nat->Nat->Q2:=λp a=>if a<i/\p=c a then some b else nx p a
def jw(nx:Nat->Nat->Q2)(b:Nat->Nat)(i:Nat):Nat->Q2:=λa=>if a<i then nx (b a) a else none
def gJ(nx:Nat->Nat->Q2)(c:Nat->Nat)(b:Q6)(d a:Nat):Nat->Nat->Q2:=λp i=>if p<=a then fV nx c b d p i else if p=a+1 then jw nx c d i else fV nx c b d (p-1) i
theorem mS {c:Type}{ns:List c}{x:c}{a b:Nat}(f:a<=ns.length):(ns.take a++x::ns.drop a)[b]? =if b<a then ns[b]? else if b=a then some x else ns[b-1]? :=by
 split
 ·rename_i d;rw[E0 (by simp;omega),Jx d]
 ·rename_i d;rw[DB (by simp;omega)];simp only[AE,GF f];split
  ·rename_i e;subst e;simp
  ·rename_i e;rw[show b-a=(b-a-1)+1 by omega,PB,Bm];congr 1;omega
theorem AMl {b:Type}{ns:List b}{x:b}{a p:Nat}(c:a<=ns.length)(d:p<=a):(ns.take a++x::ns.drop a).drop p=(ns.take a).drop p++x::ns.drop a:=by rw[MD (by simp;omega)]
theorem ALA {b:Type}{ns:List b}{x:b}{a p:Nat}(c:a<=ns.length)(d:a<p):(ns.take a++x::ns.drop a).drop p=ns.drop (p-1):=by rw[PJ,A02 (by simp;omega),Ds];simp only[AE,GF c];rw[show p-a=(p-a-1)+1 by omega,HM,HN];congr 1;omega
theorem jR.insert {ns:List DD}{nx:Nat->Nat->Q2}{key:A2O}(K:jR ns nx){d:Nat->Nat}(t: ∀i,i<12->Tu ns key i (d i)){x:DD}(E:1<=x.ht/\x.ht<=12):
  jR (ns.take (aS key (bV ns))++x::ns.drop (aS key (bV ns))) (gJ nx d ⟨x.af,0,none⟩ x.ht (aS key (bV ns))):=by
 have o:=Wy key ns;generalize j:aS key (bV ns)=a at*
 refine⟨λp i L h c=>?_,λf b=>?_⟩
 ·unfold gJ;split
  ·rename_i y;have s:i<Re ns p:=by
    cases p with
    |zero=>exact h
    |succ p=>
     unfold Re at c ⊢;simp only at c ⊢;rw[mS o,if_pos (by omega)] at c;exact c
   have z:=K.link p i (by omega) h s;have A:ns.drop p=(ns.take a).drop p++ns.drop a:=by rw[<- MD (by simp;omega),DM]
   have g:=t i h;rw[AMl o y,NV];unfold fV;by_cases m:i<x.ht
   ·have F:Cw i (x::ns.drop a)=some ⟨x.af,0,none⟩:=by unfold Cw;rw[DH];simp[m]
    rw[F];by_cases u:p=d i
    ·rw[if_pos ⟨m,u⟩,AGb λf b=>?_]
     ·rfl
     ·obtain⟨v,B,G⟩:=DA b;simp at B;have M:(ns.take a).drop p=(ns.take a).drop p:=rfl;refine g.last (p+v) f (by omega) (by rw[j];omega) ?_;have:((ns.take a).drop p)[v]? =some f:=by rw[A2 (by simp;omega),G]
      rw[Bm,Jx (by omega)] at this;exact this
    ·rw[if_neg (λe=>u e.2),z,A,NV];have H:p<d i:=by
      rcases HP p (d i) with e|e|e
      ·exact e
      ·exact absurd e u
      ·exfalso;cases p with
       |zero=>omega
       |succ p=>
        have q:=A2 (l:=ns) (i:=p) (by omega);have N:=g.last p _ (by omega) (by rw[j];omega) q;simp[Re,q] at s;omega
     have n:=g.le;rw[j] at n;have w:=g.ht;obtain⟨r,I⟩: ∃r,d i=r+1:=⟨d i-1,by omega⟩;rw[I] at w H n;have q:=A2 (l:=ns) (i:=r) (by omega);simp[Re,q] at w;have J:ns[r]∈(ns.take a).drop p:=by refine AK (i:=r-p) ?_;rw[Bm,Jx (by omega),show p+(r-p)=r by omega,q]
     obtain⟨f,b⟩:=AI6 J w;rw[b];rfl
   ·rw[if_neg (λe=>m e.1),z,A,NV];have:Cw i (x::ns.drop a)=Cw i (ns.drop a):=by unfold Cw;rw[DH];simp[m]
    rw[this]
  ·rename_i y;rw[ALA o (by omega)];split
   ·rename_i C;subst C;have m:i<x.ht:=by unfold Re at c;simp only at c;rw[mS o,if_neg (by omega),if_pos rfl] at c;exact c
    have g:=t i h;have n:=g.le;rw[j] at n;unfold jw;rw[if_pos m,K.link (d i) i (by omega) h g.ht,AE9 (k:=a-d i) (by simp;omega) λv f B b=>?_]
    ·rw[HN];congr 2;omega
    ·rw[Bm] at b;exact g.last _ f (by omega) (by rw[j];omega) b
   ·rename_i C;obtain⟨r,rfl⟩: ∃r,p=r+1:=⟨p-1,by omega⟩;rw[JT];have O:(ns.take a++x::ns.drop a).length=ns.length+1:=by simp;omega
    have s:i<Re ns r:=by unfold Re at c;simp only at c;rw[mS o,if_neg (by omega),if_neg (by omega)] at c;obtain⟨D,rfl⟩: ∃D,r=D+1:=⟨r-1,by omega⟩;unfold Re;simpa using c
    have n:=(t i h).le;rw[j] at n;unfold fV;rw[if_neg (λe=>by omega)];exact K.link r i (by omega) h s
 ·rw[Ek,HC] at b;rcases b with b|rfl|b
  ·exact K.ht f (DO b)
  ·exact E
  ·exact K.ht f (HQ b)
set_option maxHeartbeats 1000000 in
theorem rv {bU:al}{u:aa}{t:Nat}{ns:List DD}{l:List Pr}{x:Pr}{av:A2N}(T:cT u t ns l)(cK:l.length<1099511627776)
  (aw: ∀bc ax,cT ax t bc (Cr x l)->Mod (cP t ns) u ax->(∀ b,cP t bc b->cP t ns b\/u.size<=b)->av (J6 J9 (Aj x)) ax):
  AA bU P Jf #[J5 (some ⟨t,0,none⟩),.agg #[J7 x.key,J7 x.val,J3 x.gone]] u av:=by
 refine YA ?_;unfold RG;refine ak.mk λf _ w ay cL=>?_
 have bd:=T.ext ay;have az:Aj x≠0->av (J6 J9 (Aj x)) f:=λy=>aw ns f (by simpa [Cr,y] using bd) ay.mod (λb w=> .inl w)
 refine ah.mk λK aA=>?_
 have aC:(decide (x.key=⟨#[]⟩)||(x.gone&& !decide (x.val=⟨#[]⟩)))=true->K (true,()) f:=λk=>aA _ _ (ae.yes rfl (by
  have y:Aj x=1:=by unfold Aj;rw[if_pos k]
  have:=az (by rw[y];decide);rw[y] at this;exact this))
 have be:(decide (x.key=⟨#[]⟩)||(x.gone&& !decide (x.val=⟨#[]⟩)))=false->K (false,()) f:=λk=>aA _ _ (ae.no rfl (by
  refine ah.mk λbf aE=>?_
  have aF:(decide (x.key.size>64)||decide (x.val.size>8192))=true->bf (true,()) f:=λaG=>aE _ _ (ae.yes rfl (by
   have y:Aj x=2:=by unfold Aj;rw[if_neg (by simp[k]),if_pos aG]
   have:=az (by rw[y];decide);rw[y] at this;exact this))
  have bW:(decide (x.key.size>64)||decide (x.val.size>8192))=false->bf (false,()) f:=λaG=>aE _ _ (ae.no rfl (by
   have y:Aj x=0:=by unfold Aj;rw[if_neg (by simp[k]),if_neg (by simp[aG])]
   have bX:=tz y;clear aC aE aA aF az;obtain⟨nx,aH,F⟩:=bd.lay;have Z:Cr x l=ins x l:=Pt y;have bg:=Og (x:=x) T.sorted;have bh:=tC (x:=x) T.aQ;have G:=T.bV;have bY:Sorted (bV ns):=by rw[G];exact T.sorted
   have cM:ns.length=l.length:=by rw[<- G];simp
   have cN:=AJV T.aQ;refine AJ.mk (AL w rfl) ?_;refine Yl aH F bY λj J s ac=>⟨_,_,_,_,_,_,_,_,_,_,_,_,rfl,?_⟩
   have aI:=gI.zero F.ht (s 0 (by omega));have bi:=aH.ext ac;refine ak.mk λbZ _ b0 b1 cO=>?_
   have b2:bZ[J.size]? =some (J2 (cQ (λ_=>none)).toArray Dm (0,0)):=b0;simp only[Bb,AI];refine ab.mk b2 (by simp[BP]) λcR aJ bj b3=>?_
   rw[HV _ rfl] at aJ;refine ab.mk aJ (by simp[BP]) λcS aK O b4=>?_
   rw[HV _ rfl] at aK;refine ab.mk aK (by simp[BP]) λcV aL bk b5=>?_
   rw[HV _ rfl] at aL;refine ab.mk aL (by simp[BP]) λcW aM bm b6=>?_
   rw[HV _ rfl] at aM;refine ab.mk aM (by simp[BP]) λcX aN bn b7=>?_
   rw[HV _ rfl] at aN;refine ab.mk aN (by simp[BP]) λcY aO bo b8=>?_
   rw[HV _ rfl] at aO;refine ab.mk aO (by simp[BP]) λcZ aP bp b9=>?_
   rw[HV _ rfl] at aP;refine ab.mk aP (by simp[BP]) λc0 aQ bq ca=>?_
   rw[HV _ rfl] at aQ;refine ab.mk aQ (by simp[BP]) λc1 aR br cb=>?_
   rw[HV _ rfl] at aR;refine ab.mk aR (by simp[BP]) λc2 aT bs cc=>?_
   rw[HV _ rfl] at aT;refine ab.mk aT (by simp[BP]) λc3 aU bt cd=>?_
   rw[HV _ rfl] at aU;refine ab.mk aU (by simp[BP]) λe aV bu ce=>?_
   rw[HV _ rfl] at aV;have aW:e[J.size]? =some (J2 (cQ (λi=>some (addrAt t ns (j i)))).toArray Dm (0,0)):=by rw[aV];congr 3
   have bv:=((((((((((bj.trans O).trans bk).trans bm).trans bn).trans bo).trans bp).trans bq).trans br).trans bs).trans bt).trans bu;have ad:Ext J e:=b1.then (bv.ai λc _ k=> .inr (by omega));have c4:=ad.size;have c5:=Af aW;have c6:=ac.size;clear bv aJ aK aL aM aN aO aP aQ aR aT aU aV bj O bk bm bn bo bp bq br bs bt bu b3 b4 b5 b6 b7 b8 b9 ca cb cc cd ce;have A:=bi.ext ad;have L:e[u.size]? =some (J2 #[J7 x.key,J7 x.val,J3 x.gone] AR (0,0)):=ad.af (ac.af w (by simp)) (by simp);have cf:=Wy x.key ns;have af:Ext u e:=ay.trans (ac.trans ad);refine⟨by omega,AZ.mk (Cf aW (i:=0) (by omega)) ⟨by omega,AZ.mk (A.next (p:=j 0) (i:=0) (by rw[aI];omega) (by omega)) ?_⟩⟩;have cg:nx (j 0) 0=(ns[aS x.key (bV ns)]?).map λd=>⟨d.af,0,none⟩:=by rw[F.link (j 0) 0 (by rw[aI];omega) (by omega) (s 0 (by omega)).ht,aI,RF F.ht]
   rw[cg];have S:BV x.key l=match ns[aS x.key (bV ns)]? with|some d=>decide (d.pr.key=x.key)|none=>false:=by unfold BV;rw[<- G];rw[show bV ns=ns.map (·.pr) from rfl,Bs];cases ns[aS x.key (ns.map (·.pr))]? <;>rfl
   generalize aX:aS x.key (bV ns)=a at*
   have ag:aS x.key l=a:=by rw[<- G];exact aX
   have ai:Wp x l=ins x l:=mf x l;refine ah.mk λbw bx=>?_
   have ch: ∀d,ns[a]? =some d->d.pr.key=x.key->bw (true,()) e:=λd n E=>bx _ _ (ae.yes rfl (by
    have H:=List.getElem?_eq_some_iff.1 n;have ci:a<ns.length:=H.1;rw[n];have cj:=A.pair n;have c7:d.pr.key.size=x.key.size:=by rw[E]
    refine AC.mk (AB A.head lh.2) (AJ.mk (AL L rfl) (AJ.mk cj.2.1 ?_));have ck: ∃r:Nat,EG l=d.pr.key.size+d.pr.val.size+r/\EG (Cr x l)=x.key.size+x.val.size+r:=by
     have aY:l=l.take a++d.pr::l.drop (a+1):=by
      have aZ:l[a]? =some d.pr:=by rw[<- G];simp[n]
      have f:=List.getElem?_eq_some_iff.1 aZ;rw[<- f.2,<-Fo f.1,DM]
     have U:Cr x l=l.take a++x::l.drop (a+1):=by rw[Z,<-ai];unfold Wp;rw[S,n,ag,if_pos (by simp[E])];simp
     refine⟨EG (l.take a)+EG (l.drop (a+1)),?_,?_⟩
     ·conv=>lhs;rw[aY]
      rw[Ms,Qp];omega
     ·rw[U,Ms,Qp];omega
    obtain⟨r,c8,c9⟩:=ck;have a0:J8 J9 ((EG l:Int)+J8 J9 ((x.val.size:Int)-(d.pr.val.size:Int)))=(EG (Cr x l):Int):=by
     have da:d.pr.val.size<=8192:=(tz (T.aQ d.pr (by rw[<- G];exact List.mem_map.2 ⟨d,AK n,rfl⟩))).2;have aY:J8 J9 ((x.val.size:Int)-(d.pr.val.size:Int))=(x.val.size:Int)-(d.pr.val.size:Int):=by exact AMr (by omega) (by omega)
     rw[aY,show(EG l:Int)+((x.val.size:Int)-(d.pr.val.size:Int))=((EG (Cr x l):Nat):Int) by omega];exact F5 (by omega)
    rw[a0];refine aD ?_;rw[Bb,AI];refine ab.mk A.head (by rw[cU];omega) λbz bA aj db=>?_
    rw[tx] at bA;have am:=A.node a d n;have a1:bz[u.size]? =some (J2 #[J7 x.key,J7 x.val,J3 x.gone] AR (0,0)):=aj.af L (by have:=aH.lt (.inl rfl:cP t ns t);have:=T.lt (.inl rfl:cP t ns t);omega);refine AJ.mk (AL a1 rfl) (AJ.mk (AL a1 rfl) (Ab.mk (AL a1 rfl) ?_));have cl:=aj.af am.1 am.2;refine aD ?_;refine ab.mk cl (by rw[QH];omega) λdc cm cn dd=>?_
    rw[Bb,Bb];refine ab.mk cm (by rw[R0,QH];omega) λde co cp df=>?_
    refine ab.mk co (by rw[R0,R0,QH];omega) λa2 a3 cq dg=>?_
    simp only[AI] at a3;rw[AK8] at a3;have a4:Mod (λc=>c=d.af) bz a2:=(cn.trans cp).trans cq;have a5:cP t ns t:= .inl rfl;have bB:cP t ns d.af:= .inr ⟨d,AK n,rfl⟩;rw[<- y];refine aw (ns.set a {d with pr:=x}) a2 ⟨⟨nx,⟨?_,λo z h=>?_,?_⟩,⟨λp i Q an bC=>?_,λz h=>?_⟩⟩,?_,bg,bh⟩ ?_ λb w=>?_
    ·have a6:(Cr x l).length=l.length:=by rw[Z,<-ai];unfold Wp;rw[S,n,ag,if_pos (by simp[E])];simp;omega
     rw[a6];exact a4.af bA (λq=>am.2 q.symm)
    ·rw[Mu] at h;split at h
     ·rename_i I;subst I;simp[H.1] at h;subst h;exact⟨a3,am.2⟩
     ·rename_i I;have B:=A.node o z h;refine⟨?_,B.2⟩;refine a4.af (aj.af B.1 B.2) ?_;have f:=List.getElem?_eq_some_iff.1 h;have bD:=List.pairwise_iff_getElem.1 A.apart;rcases MA I with a7|a7
      ·have:=bD a o H.1 f.1 a7;rw[f.2,H.2] at this;exact λq=>this q.symm
      ·have:=bD o a f.1 H.1 a7;rw[f.2,H.2] at this;exact this
    ·have q:(ns.set a {d with pr:=x}).map (·.af)=ns.map (·.af):=by
      rw[R1];apply List.ext_getElem?;intro o;rw[Mu];split
      ·rename_i I;subst I;simp[H.1,H.2]
      ·rfl
     have f:(ns.map (·.af)).Pairwise (· ≠ ·):=List.pairwise_map.2 A.apart;rw[<- q] at f;exact List.pairwise_map.1 f
    ·rw[R2] at Q;have cr:Re (ns.set a {d with pr:=x}) p=Re ns p:=by
      cases p with
      |zero=>rfl
      |succ p=>
       unfold Re;simp only;rw[Mu];by_cases I:a=p
       ·subst I;rw[if_pos rfl,if_pos ci,n]
       ·rw[if_neg I]
     rw[cr] at bC;rw[F.link p i Q an bC];have key: ∀m:List DD,∀a,m[a]? =some d->Cw i (m.set a {d with pr:=x})=Cw i m:=by
      intro m
      induction m with
      |nil=>intro a u;simp at u
      |cons z m cs=>
       intro a u;cases a with
       |zero=>simp at u;subst u;by_cases hd:i<z.ht<;>simp[Cw,hd]
       |succ a=>
        have:=cs a (by simpa using u);unfold Cw at this ⊢;rw[List.set_cons_succ,DH,DH];split
        ·rfl
        ·exact this
     rcases FF a p with f|f
     ·rw[List.drop_set_of_lt f]
     ·rw[List.drop_set];rw[if_neg (by omega)];exact(key _ _ (by rw[Bm];rw[<- n];congr 1;omega)).symm
    ·obtain⟨o,M,q⟩:=DA h;rw[List.getElem_set] at q;split at q
     ·subst q;exact F.ht d (AK n)
     ·subst q;exact F.ht _ (AW _)
    ·rw[Z,<-ai];unfold Wp;rw[S,n,ag,if_pos (by simp[E])];show(ns.set a {d with pr:=x}).map (·.pr)=_;rw[R1,A07];have:(ns.map (·.pr))=l:=G;rw[this];have aZ:a<l.length:=by omega
     simp[aZ]
    ·have O:Mod (cP t ns) e a2:=(aj.ai λc _ k=>by subst k;exact a5).trans (a4.ai λc _ k=>by subst k;exact bB);exact af.mod.trans O
    ·rcases w with rfl|⟨z,h,rfl⟩
     ·exact .inl (.inl rfl)
     ·obtain⟨o,M,q⟩:=DA h;rw[List.getElem_set] at q;split at q
      ·subst q;exact .inl bB
      ·subst q;exact .inl (.inr ⟨_,AW _,rfl⟩)))
   have bE:BV x.key l=false->bw (false,()) e:=λa5=>bx _ _ (ae.no rfl (by
    refine AJ.mk (AL L rfl) (AJ.mk (AL L rfl) (Ab.mk (AL L rfl) ?_));refine ak.mk λbF _ ct ao dh=>?_
    have bG:=ao.af L (by simp);refine AJ.mk (AL bG rfl) ?_;refine ALb bX.1 λC cu cv=>⟨_,rfl,?_⟩
    have cw:bF[e.size]? =some (J2 (Er x (λ_=>none)) QO (0,0)):=ct;have cx:=A.ext ao;have bH: ∀i,i<12->j i<=ns.length:=λi an=>by have:=(s i an).le;rw[aX] at this;omega
    have cy:=ao.af aW (by simp);have V: ∀c,cP t ns c->c<e.size:=λc k=>A.lt k
    have cz: ∀c,cP t ns c->c<J.size:=λc k=>bi.lt k
    refine Loop.rule (λm d D=> ∃i:Nat,d=((i:Int),())/\m=C-i/\i<=C/\Mod (λc=>cP t ns c\/c=e.size) bF D/\Lay D t ns (fV nx j ⟨e.size,0,none⟩ i) (l.length:Int) (EG l:Int)/\D[e.size]? =some (J2 (Er x (jw nx j i)) QO (0,0))) ?_
     ⟨0,rfl,rfl,by omega,Mod.refl,?_,?_⟩
    rotate_left
    ·have:fV nx j ⟨e.size,0,none⟩ 0=nx:=by funext p C;simp[fV]
     rw[this];exact cx
    ·have:jw nx j 0=λ_=>none:=by funext C;simp[jw]
     rw[this];exact cw
    rintro cB m _ D ⟨i,rfl,rfl,an,W,N,bI⟩ cC;have di:=W.size;have bJ:D[J.size]? =some (J2 (cQ (λi=>some (addrAt t ns (j i)))).toArray Dm (0,0)):=W.af cy (λa8=>a8.elim (λf=>by have:=cz _ f;omega) (λf=>by omega));refine ae.intro (λk=>?_) (λk=>?_)
    ·have bK:i<C:=by simpa using k
     have R:i<12:=by omega
     have X:(0:Int)<=(i:Int)/\(i:Int)<(12:Int):=⟨by omega,by omega⟩;refine⟨X,?_⟩;show AZ D ⟨J.size,i*1,none⟩ _;rw[Bk];refine AZ.mk (Cf bJ R) ⟨X,?_⟩;show AZ D (((addrAt t ns (j i)).add 3).add (i*1)) _;refine AZ.mk (N.next (p:=j i) (i:=i) (bH i R) R) ⟨X,?_⟩;have cD:fV nx j ⟨e.size,0,none⟩ i (j i) i=nx (j i) i:=by simp[fV]
     show ab D ⟨e.size,3+i*1,none⟩ (J5 (fV nx j ⟨e.size,0,none⟩ i (j i) i)) _;rw[cD,Bk];refine ab.mk bI (by rw[QH];omega) λbL bM a9 dj=>?_
     rw[tw] at bM;have cE:=N.mod a9 (λc k q=>by have:=V c k;omega);refine⟨X,?_⟩;show AZ bL ⟨J.size,i*1,none⟩ _;rw[Bk];refine AZ.mk (Cf (a9.af bJ (by omega)) R) ⟨X,?_⟩;show ab bL (((addrAt t ns (j i)).add 3).add (i*1)) (J5 (some ⟨e.size,0,none⟩)) (λbN=>cB (J8 J9 ((i:Int)+(1:Int)),()) bN);refine cE.store (p:=j i) (i:=i) (bH i R) R (v:=some ⟨e.size,0,none⟩) (λbN bO bP dk=>?_)
     ·refine cC (C-(i+1)) _ _ (by omega) ⟨i+1,by rw[Aa (by omega)],rfl,by omega,(W.trans (a9.ai λc _ k=> .inr k)).trans (bP.ai λc _ k=> .inl k),?_,?_⟩
      ·have:fU (fV nx j ⟨e.size,0,none⟩ i) (j i) i (some ⟨e.size,0,none⟩)=fV nx j ⟨e.size,0,none⟩ (i+1):=by
        funext p o;unfold fU fV;by_cases M:o=i
        ·subst M;by_cases Q:p=j o<;>simp[Q]
        ·by_cases Q:p=j o<;>simp[Q,M,Nat.lt_succ_iff,Nat.le_iff_lt_or_eq]
       rw[this] at bO;exact bO
      ·rw[bP.af bM (λk=>by have:=V _ k;omega),Jj (g:=jw nx j (i+1)) (λo=>?_)];unfold jw;by_cases M:o=i
       ·subst M;simp
       ·simp[M,Nat.lt_succ_iff,Nat.le_iff_lt_or_eq]
    ·have bK:i=C:=by simp at k;omega
     subst bK;refine AC.mk (AB N.head lh.1) ?_;refine aD ?_;rw[Bb,AI];refine ab.mk N.head (by rw[cU];omega) λdl ba bQ dm=>?_
     rw[AKz] at ba;have ap:cP t ns t:= .inl rfl;have dn:=T.lt ap;have cF:D[u.size]? =some (J2 #[J7 x.key,J7 x.val,J3 x.gone] AR (0,0)):=W.af bG (λa8=>a8.elim (λf=>by have:=T.lt f;omega) (λf=>by omega));have bR:=bQ.af cF (by omega);refine aD ?_;rw[Bb,AI];refine AC.mk (AL ba lh.2) (AJ.mk (AL bR rfl) (AJ.mk (AL bR rfl) (aD ?_)));rw[Bb,AI];refine ab.mk ba (by rw[cU];omega) λaq bb cG dp=>?_
     rw[tx] at bb;have U:Cr x l=l.take a++x::l.drop a:=by rw[Z,<-ai];unfold Wp;rw[a5,ag];simp
     have dq:EG (Cr x l)=EG l+(x.key.size+x.val.size):=by
      rw[U,Ms,Qp];have:EG l=EG (l.take a)+EG (l.drop a):=by rw[<- Ms,DM]
      omega
     have a6:(Cr x l).length=l.length+1:=by rw[U];simp;omega
     have a0:J8 J9 ((l.length:Int)+(1:Int))=((Cr x l).length:Int):=by rw[a6];exact Aa (by omega)
     have cH:J8 J9 ((EG l:Int)+J8 J9 ((x.key.size:Int)+(x.val.size:Int)))=(EG (Cr x l):Int):=by rw[show((x.key.size:Int)+(x.val.size:Int))=((x.key.size+x.val.size:Nat):Int) by omega,F5 (by omega),show(EG l:Int)+((x.key.size+x.val.size:Nat):Int)=((EG (Cr x l):Nat):Int) by omega];exact F5 (by omega)
     rw[a0,cH] at bb;have mt:Mod (λc=>c=t) D aq:=bQ.trans cG;have cI:=mt.af bI (by have:=V _ ap;omega);rw[<- y];refine aw (ns.take a++⟨e.size,x,i⟩::ns.drop a) aq ⟨⟨gJ nx j ⟨e.size,0,none⟩ i a,⟨?_,λo z h=>?_,?_⟩,?_⟩,?_,bg,bh⟩ ?_ λb w=>?_
     ·rw[bb,Vr (g:=gJ nx j ⟨e.size,0,none⟩ i a 0) (λC=>?_)];simp[gJ]
     ·rw[mS cf] at h;split at h
      ·rename_i cJ;have B:=N.node o z h;refine⟨?_,B.2⟩;rw[mt.af B.1 B.2,Jj (g:=gJ nx j ⟨e.size,0,none⟩ i a (o+1)) (λC=>?_)];unfold gJ;rw[if_pos (by omega)]
      ·rename_i cJ;split at h
       ·rename_i bS;subst bS;cases h;refine⟨?_,by have:=V _ ap;show e.size≠t;omega⟩;show aq[e.size]? =_;rw[cI,Jj (g:=gJ nx j ⟨e.size,0,none⟩ i o (o+1)) (λC=>?_)];unfold gJ;rw[if_neg (by omega),if_pos rfl]
       ·rename_i bS;obtain⟨ar,rfl⟩: ∃ar,o=ar+1:=⟨o-1,by omega⟩;rw[JT] at h;have B:=N.node ar z h;refine⟨?_,B.2⟩;rw[mt.af B.1 B.2,Jj (g:=gJ nx j ⟨e.size,0,none⟩ i a (ar+1+1)) (λC=>?_)];unfold gJ;rw[if_neg (by omega),if_neg (by omega),JT]
     ·have f:=N.apart;have bT: ∀z∈ns,z.af≠e.size:=λz h q=>by have:=V z.af (.inr ⟨z,h,rfl⟩);omega
      rw[<- DM a ns] at f;rw[List.pairwise_append] at f ⊢;refine⟨f.1,List.pairwise_cons.2 ⟨λz h=>λq=>bT z (HQ h) q.symm,f.2.1⟩,λd n z h=>?_⟩;rcases List.mem_cons.1 h with rfl|h
      ·exact bT d (DO n)
      ·exact f.2.2 d n z h
     ·have:=F.insert (key:=x.key) s (x:=⟨e.size,x,i⟩) ⟨cu,cv⟩;rw[aX] at this;exact this
     ·show(ns.take a++⟨e.size,x,i⟩::ns.drop a).map (·.pr)=_;have:(ns.map (·.pr))=l:=G;rw[U,<-this];simp[List.map_take,List.map_drop]
     ·have O:Mod (λc=>cP t ns c\/c=e.size) e aq:=(ao.mod.trans W).trans (mt.ai λc _ k=>by subst k;exact .inl ap);exact af.mod.then (O.ai λc _ k=>k.elim .inl λf=> .inr (by have:=af.size;omega))
     ·rcases w with rfl|⟨z,h,rfl⟩
      ·exact .inl (.inl rfl)
      ·rw[Ek,HC] at h;rcases h with h|rfl|h
       ·exact .inl (.inr ⟨z,DO h,rfl⟩)
       ·exact .inr (by have:=af.size;exact this)
       ·exact .inl (.inr ⟨z,HQ h,rfl⟩)))
   cases n:ns[a]? with
   |none=>
    refine ae.no rfl (bE ?_);rw[S,n]
   |some d=>
    refine ae.yes rfl ?_;refine AJ.mk (A.pair n).1 (AJ.mk (AL L rfl) ?_);rw[Cb];by_cases E:d.pr.key=x.key
    ·rw[decide_eq_true E];exact ch d n E
    ·rw[decide_eq_false E];exact bE (by rw[S,n];simp[E])))
  refine AJ.mk (AL w rfl) ?_;refine ae.intro (λs=>?_) (λs=>?_)
  ·exact aF (by simp at s;simp;omega)
  ·refine AJ.mk (AB w rfl) ?_;simp at s;cases Y:decide ((x.val.size:Int)>(8192:Int))
   ·exact bW (by simp at Y;simp;omega)
   ·exact aF (by simp at Y;simp;omega)))
 refine ae.no rfl ?_;refine AJ.mk (AL w rfl) ?_;rw[Cb];refine ae.intro (λs=>?_) (λs=>?_)
 ·exact aC (by simp at s;simp[s])
 ·refine Ab.mk (AB w rfl) ?_;simp at s;refine ae.intro (λau=>?_) (λau=>?_)
  ·refine AJ.mk (AB w rfl) ?_;rw[Cb];cases Y:(!decide (x.val=⟨#[]⟩))
   ·exact be (by simp[s,au,Y])
   ·exact aC (by simp[s,au,Y])
  ·exact be (by simp[s,au])
end Go.Lf.G.M
