/-
 Contract: a table is opened.
-/
import Derived.Test.YtfiljlifdlfkkaaGreatDoorLfU2ToX2
import Derived.Test.YtfiljlifdlfkkaaGreatDoorLfG1
import Derived.Laws.StructEq
import Derived.ChangeKeysEq
set_option maxRecDepth 100000
set_option linter.unusedVariables false
set_option linter.unusedSimpArgs false
open Go.IntKind renaming i64→J9,wrap→J8
open Go.Value renaming string→J7,int→J6,pointer→J5,slice→J4,bool→J3,tuple→J1
open Go.Obj renaming cells→J2
open Go renaming Value→J0,Addr→Q6,TypeId→Q7,FuncId→Q8,Program→Q1
open Go.Addr renaming add→Q9,mk→Q5
namespace Go.Lf.G
open Go
structure bU (h:aa) (t:Nat) (l:List Pr) (f:List UInt8) (lo hi:Nat):Prop where
 at_: ∃fs bs:Sl,h[t]? =some (J2 #[J4 fs.p fs.len fs.cap,J4 bs.p bs.len bs.cap,J7 (Ae f),J6 J9 (l.length:Int)] NZ (0,0))/\View Jn h fs (Cb l)/\View Jn h bs ((Lr l).map λb=>Ae (Br b))/\
  (∀ c,fs.ag=some c->lo<=c/\c<hi)/\(∀ c,bs.ag=some c->lo<=c/\c<hi)
 jv:lo<=t/\t<hi
theorem bU.mod {g h:aa}{t:Nat}{l:List Pr}{f:List UInt8}{lo hi:Nat}{i:Nat->Prop}(T:bU g t l f lo hi)(m:Mod i g h)(b: ∀c,lo<=c->c<hi-> ¬i c):bU h t l f lo hi:=by obtain⟨j,k,n,o,p,d,e⟩:=T.at_;exact⟨⟨j,k,m.ag n (b t T.jv.1 T.jv.2),o.mod m (λc a=>b c (d c a).1 (d c a).2),p.mod m (λc a=>b c (e c a).1 (e c a).2),d,e⟩,T.jv⟩
theorem bU.ext {a b:aa}{t:Nat}{l:List Pr}{f:List UInt8}{lo hi:Nat}(T:bU a t l f lo hi)(m:Ext a b):bU b t l f lo hi:=T.mod m λ_ _ _ a=>a
theorem AFl(a:List UInt8)(b:List (List UInt8)):aT (a::b)=Iq a++aT b:=rfl
theorem AQR {w:ao}{b:aa}{a:List (List UInt8)}{q:A2X}(l: ∀f∈a,f.length<=1048576)(y:(aT a).length<=1099511627776)
  (r: ∀h sl,Ext b h->View Jn h sl (a.map Ae)->(∀ c,sl.ag=some c->b.size<=c/\c<h.size)->q (J1 #[J4 sl.p sl.len sl.cap,J6 J9 ((aT a).length:Int)]) h):AA w P PL #[J7 (Ae (aT a))] b q:=by
 refine AGd ?_;unfold Zo;refine Loop.rule (λm x n=> ∃(i:Nat) (sl:Sl),x=(sl,Ae (aT (a.drop i)),())/\m=a.length-i/\i<=a.length/\Ext b n/\Own Jn BD n sl ((a.take i).map Ae)/\(∀ c,sl.ag=some c->b.size<=c)) ?_
  ⟨0,⟨none,0,0⟩,rfl,rfl,by omega,Mod.refl,Own.nil,λc d=>by simp[Sl.ag] at d⟩
 rintro K m _ n ⟨i,sl,rfl,rfl,hi,o,g,p⟩ t;dsimp only;have M:a.length<=(aT a).length:=by
  clear y r hi g t
  induction a with
  |nil=>simp
  |cons f a z=>
   have N:=(LX (l f B8)).1;have:=z λx j=>l x (AH _ j)
   simp only[aT,AM,A1,An] at this ⊢;omega
 have A:(aT (a.drop i)).length<=1099511627776:=by
  have B:aT a=aT (a.take i)++aT (a.drop i):=by unfold aT;rw[<- JT,F0]
  have:=congrArg List.length B;rw[A1] at this;omega
 refine ARG (AK A (by decide)) λC e=>⟨_,_,_,rfl,?_⟩
 by_cases k:i<a.length
 ·have j:a[i]? =some a[i]:=A2 k;have u:=l _ (BT k);have hd:a.drop i=a[i]::a.drop (i+1):=FA k;have v:=Vg j;generalize a[i]=f at j u hd v;rw[hd,AFl,APQ u];refine ab.yes rfl ?_;refine ai.aV (E:=Jn) (x:=Ae f) (s:=sl) rfl sQ (g.ext e) (by grind) (by simp only[AT,Ax,maxLen];omega) λD O F G H Q=>?_
  refine t (a.length-(i+1)) _ _ (by omega) ⟨i+1,D,rfl,rfl,k,(o.trans e).more G p,?_,λc d=>?_⟩
  ·rw[v,Cl];exact F
  ·rcases H c d with b|b
   ·exact p c b
   ·have:=o.size;have:=e.size;omega
 ·have I:a.drop i= []:=HD (by omega);have J:a.take i=a:=AD (by omega);rw[I];rw[J] at g;have R:=AR6;refine ab.no (by grind) ?_;have L:J8 J9 (((Ae (aT a)).size:Int)-((Ae (aT [])).size:Int))=((aT a).length:Int):=by
   rw[AP,AP];show J8 J9 (((aT a).length:Int)-((0:Nat):Int))=_
   grind [wrap_i64]
  rw[L];exact r C sl (o.trans e) (g.ext e).view λc d=>⟨p c d,(g.ext e).lt d⟩
def iG(l:List Pr)(a:Nat):A2Y:=match a with|0=>⟨#[]⟩|a+1=>JK l a
theorem AUb {l:List Pr}(d: ∀p∈l,NA p)(hi:l.Pairwise λp q=>aI p.key q.key=true){a:Nat}{p:Pr}(b:l[a]? =some p):(aI p.key (iG l a)||bB p.key (iG l a))=false:=by
 have i:aI (iG l a) p.key=true:=by
  cases a with
  |zero=>
   have:=(d p (AG b)).key;unfold iG;rw[XG];have e:bl p.key≠ []:=by grind [BF]
   cases f:bl p.key with
   |nil=>exact absurd f e
   |cons c t=>
    simp only[decide_eq_true_eq];show([]:List UInt8)<bl p.key
    simp_all
  |succ a=>
   have g:a<l.length:=by grind
   have h:l[a]? =some l[a]:=A2 g;have:=AHN hi h b;show aI (JK l a) p.key=true
   simp_all [JK]
 rw[Ge]
 grind [aI,iG,DW,CV,Bl,decide_eq_false_iff_not]
theorem ATB {b a:Nat}(c:b=a+1)(d:a<=1099511627776):J8 J9 (((b:Nat):Int)-(1:Int))=((a:Nat):Int):=by grind [wrap_i64]
theorem gO.jw {s:List UInt8}{l:List Pr}{f:List UInt8}(T:gO s l f):(aT (aN l f)).length<=1099511627776:=by
 have:=Wl (TP T);have b:=T.many;have a:(aN l f).length=CB l+1:=by simp[aN,JW]
 have c:CB l<=12501:=by unfold CB;omega
 rw[a] at this;have d:(CB l+1)*1048590<=12502*1048590:=AW _ (by omega);omega
theorem ASS {bj:ao}{e:aa}{l:List Pr}{f:List UInt8}{aI:A2X}(T:gO (aT (aN l f)) l f)
  (bk: ∀O t,Ext e O->bU O t l f e.size O.size->aI (J1 #[Ap t,J6 J9 0]) O):AA bj P PG #[J7 (Ae (aT (aN l f)))] e aI:=by
 refine AGp ?_;unfold xu;have cg:=yX T.ne;have ch:=T.many;have ci:CB l<=12501:=by unfold CB;omega
 have cj:=T.jt;refine AQR (TP T) (gO.jw T) λh sl C v1 aJ=>⟨sl,_,rfl,?_⟩
 have aK:sl.len=CB l+1:=by rw[v1.len];simp[aN,JW]
 have ck:=v1.cap;rw[ATB aK (by omega)];refine ah.mk λK aL=>?_
 refine ab.no (by rw[AP];simp) ?_;refine aL _ _ (ab.no (by rw[aK];simp;omega) ?_);clear aL;simp only[A6,Gk];refine⟨⟨by omega,by omega⟩,?_⟩;have bm:((aN l f).map Ae)[CB l]? =some (Ae (Xi l f)):=by simp_all [B9,aN,Fo,JW]
 refine v1.idx bm λa aM d=>?_
 refine AL.mk d.str ?_;have aO:=Zr T;refine N7 λaQ aR Q=>⟨_,rfl,?_⟩
 have R: ∀ {e:aa} {s:Sl} {ks:List A2Y},Own Jn BD e s ks-> ∀ {c:Nat} {aS:Rd},LF e c aS->s.ag≠some c:=λbn c aS bo=>bn.ne bo (by decide)
 refine ai.mk λS _ bp D cl=>?_
 have aU:LF S h.size _:=Ay D aR;have cm:=AZ (n:=CB l) (by omega);have bq:Xi l f=Bt (CB l)++(Ha (Cb l)++(Bt l.length++BX f)):=by unfold Xi Ha;simp_all
 rw[bq] at aU aO;have cn:=AZ (n:=l.length) (by omega);have co:(BX f).length=(Bt f.length).length+f.length:=by simp[BX]
 have cp:=AZ (n:=f.length) (by omega);have br:=Sa (ks:=Cb l) (QS T.ok);rw[IP] at br;refine Ei (most:=CB l) aU (AK aO (by decide)) (by omega) λbs ag aj=>⟨_,rfl,?_⟩
 rw[De (by omega) (A0 _)] at ag ⊢;dsimp only at ag ⊢;refine ab.no (by simp) ?_;have cq:h.size<aQ.size:=Ai aR;have bt:=aj.ag bp (by omega);have U:Ext e S:=(C.trans Q).trans D;have cr:Ext e bs:=U.more aj (λb bu=>by rw[bu];exact C.size);have aV: ∀ {g:aa},(∀ c,sl.ag=some c->g[c]? =h[c]?)->View Jn g ⟨BC sl.p sl.cap 0 1,CB l,sl.cap⟩ ((Lr l).map λb=>Ae (Br b)):=by
  intro g d;have v:View Jn g sl ((aN l f).map Ae):=⟨v1.len,v1.cap,λi x hi=>by
   obtain⟨a,aM,bv⟩:=v1.cells i x hi;refine⟨a,aM,λj v aW=>?_⟩;rw[<- bv j v aW]
   grind [SE,aP,Sl.ag]⟩
  have:=v.sub (lo:=0) (hi:=CB l) (A5 _) (by simp[aN,JW]);have aX:(((aN l f).map Ae).take (CB l)).drop 0=(Lr l).map λb=>Ae (Br b):=by simp_all [HP,aN,Nx,JW,AD,CA]
  rw[aX] at this;exact this
 generalize cs:aQ.size=q at*
 refine Loop.rule (λm x g=> ∃(i:Nat) (o:Sl),x=((i:Int),())/\m=CB l-i/\i<=CB l/\LF g h.size ⟨Ha ((Cb l).drop i)++(Bt l.length++BX f),false⟩/\
  g[q]? =some (J2 #[J4 o.p o.len o.cap,J4 (BC sl.p sl.cap 0 1) (CB l) sl.cap,J7 ⟨#[]⟩,J6 J9 0] NZ (0,0))/\Own Jn BD g o ((Cb l).take i)/\(∀ c,o.ag=some c->q<c)/\
  Mod (λc=>c=h.size\/q<=c) S g) ?_ ⟨0,⟨none,0,0⟩,rfl,rfl,by omega,ag,bt,Own.nil,λc d=>by simp[Sl.ag] at d,aj.ak λc _ d=> .inl d⟩
 rintro ct m _ aZ ⟨i,o,rfl,rfl,hi,w,ak,F,G,a0⟩ a1;dsimp only;refine ab.intro (λr=>?_) (λr=>?_)
 ·have V:i<CB l:=by simp at r;omega
  refine AV.mk (s:=o) (AO ak rfl) ?_;have z:=TI V;have hd:(Cb l).drop i=JK l (8*i)::(Cb l).drop (i+1):=by grind [Cb,IP,List.drop_eq_getElem_cons,List.getElem?_eq_getElem,Option.some.inj]
  have a2:=Vg z;have a3:=QS T.ok _ (AG z);generalize JK l (8*i)=k at z hd a2 a3;have bw:Ha ((Cb l).drop i)++(Bt l.length++BX f)=BX (bl k)++(Ha ((Cb l).drop (i+1))++(Bt l.length++BX f)):=by rw[hd];simp[Ha]
  have bx:=Sa (ks:=(Cb l).drop i) λk bz=>QS T.ok k (Ks bz)
  rw[FF,IP] at bx;have a4:(Ha ((Cb l).drop i)++(Bt l.length++BX f)).length<1099511627776:=by simp only[A1];omega
  rw[bw] at w a4;refine Iw w a4 λH W al=>⟨_,rfl,?_⟩
  rw[Iz (by rw[BF];omega)] at W ⊢;dsimp only at W ⊢;rw[Eh];have X:=al.ag ak (by omega);have am:=F.mod al (λc d e=>R F w (e▸d));refine⟨AO X rfl,?_⟩;refine ai.mk λbA _ bC I cu=>⟨AO (Ay I X) rfl,?_⟩
  have bD:Own Jn BD bA ⟨some ⟨H.size,0,none⟩,1,1⟩ [k]:=Own.lit (E:=Jn) (l:= [k]) bC rfl (by simp[maxLen]);refine IZ (s:=o) (src:=⟨some ⟨H.size,0,none⟩,1,1⟩) sQ (am.ext I) bD.view (by simp only[Ax,BE];omega) (by simp only[Ax,BE,maxLen];omega) λa5 cv bE an cw cx=>?_
  have cy:q<H.size:=Ai X;have cz: ∀c,o.ag=some c->c<H.size:=λc d=>am.lt d
  have bF:=an.ag (Ay I X) (λe=>by have:=G _ e;omega);refine ae.mk bF (by simp) λcB bG ap cC=>?_
  have a6: ∀c,a5.ag=some c->q<c:=λc d=>by
   grind
  rw[Ac (by omega)];refine a1 (CB l-(i+1)) _ _ (by omega) ⟨i+1,a5,rfl,rfl,V,?_,by simpa using bG,?_,a6,?_⟩
  ·refine ap.ag (an.ag (Ay I W) λe=>?_) (by omega);exact R am W e
  ·rw[a2];exact bE.mod ap (λc d e=>by have:=a6 c d;omega)
  ·have Y:Mod (λc=>c=h.size\/q<=c) aZ H:=al.ak λc _ d=> .inl d
   exact(((a0.trans Y).trans I.mod).trans (an.ak λc _ d=> .inr (by have:=G c d;omega))).trans (ap.ak λc _ d=> .inr (by omega))
 ·have V:i=CB l:=by simp at r;omega
  subst V;clear a1;have bH:(Cb l).drop (CB l)= []:=HD (by rw[IP];omega);have bI:(Cb l).take (CB l)=Cb l:=AD (by rw[IP];omega);rw[bH] at w;rw[bI] at F;have bJ:J8 J9 (((CB l:Nat):Int)*(8:Int))=((CB l*8:Nat):Int):=by grind [wrap_i64]
  rw[bJ];have w:LF aZ h.size ⟨Bt l.length++BX f,false⟩:=w;have bK:l.length<=CB l*8:=by unfold CB;omega
  refine Ei (most:=CB l*8) w (by grind) (by omega) λcD aq ar=>⟨_,rfl,?_⟩
  rw[De (by omega) bK] at aq ⊢;dsimp only at aq ⊢;have bL:=ar.ag ak (by omega);rw[Bp,Bp];refine ae.mk bL (by simp) λbM bN au cE=>?_
  have a7:LF bM h.size ⟨BX f++ [],false⟩:=by rw[AI];exact au.ag aq (by omega)
  refine Iw a7 (by grind) λcF av aw=>⟨_,rfl,?_⟩
  rw[Iz (by omega)] at av ⊢;dsimp only at av ⊢;have bO:=aw.ag bN (by omega);refine ae.mk bO (by simp) λB J ax cG=>?_
  have bP:=ax.ag av (show h.size≠q by omega);have J:B[q]? =some (J2 #[J4 o.p o.len o.cap,J4 (BC sl.p sl.cap 0 1) (CB l) sl.cap,J7 (Ae f),J6 J9 (l.length:Int)] NZ (0,0)):=by simpa using J
  have ay:Own Jn BD B o (Cb l):=by have Y:=F.mod ar (λc d e=>R F w (e▸d));have az:=Y.mod au (λc d e=>by have:=G c d;omega);have L:=az.mod aw (λc d e=>R az a7 (e▸d));exact L.mod ax (λc d e=>by have:=G c d;omega)
  have M:Mod (λc=>c=h.size\/q<=c) S B:=
   (((a0.trans (ar.ak λc _ d=> .inl d)).trans (au.ak λc _ d=> .inr (by omega))).trans (aw.ak λc _ d=> .inl d)).trans (ax.ak λc _ d=> .inr (by omega))
  have cH:h.size<=q:=by omega
  have bQ:Ext e B:=by refine⟨by have:=U.size;have:=M.size;omega,λc d _=>?_⟩;have:=C.size;have:=U.size;exact(M.get c (by omega) (by omega)).trans (U.get c d (λe=>e))
  have a8: ∀ {g:aa},Ext B g-> ∀c,sl.ag=some c->g[c]? =h[c]? :=by intro g x c d;have:=aJ c d;have cI:=M.size;have:=D.size;have:=Q.size;exact((x.get c (by omega) (λe=>e)).trans (M.get c (by omega) (by omega))).trans ((D.get c (by omega) (λe=>e)).trans (Q.get c (by omega) (λe=>e)))
  have bR: ∀c,Sl.ag ⟨BC sl.p sl.cap 0 1,CB l,sl.cap⟩=some c->e.size<=c/\c<h.size:=λc d=>aJ c (rf d)
  refine ah.mk λcJ a9=>?_
  refine Qk bP ⟨_,rfl,ab.no rfl ?_⟩;have bS:f≠ []:=λaX=>by simp_all
  refine AL.mk (AO J rfl) (ab.no ?_ ?_)
  ·rw[ZG,Fg,decide_eq_false_iff_not];exact bS
  refine AL.mk (AO J rfl) ?_;refine a9 _ _ (ab.no (by rw[AP];simp;omega) ?_);clear a9;refine Loop.rule (λm x g=> ∃i:Nat,x=(iG l (min (8*i) l.length),((min (8*i) l.length:Nat):Int),(i:Int),())/\m=CB l-i/\i<=CB l/\Ext B g) ?_ ⟨0,by simp[iG],rfl,by omega,Mod.refl⟩;rintro cK m _ bT ⟨i,rfl,rfl,hi,u⟩ bV;dsimp only;have Z:=Ay u J;refine ab.intro (λr=>?_) (λr=>?_)
  ·have y:i<CB l:=by simp at r;omega
   have cL:=SN y;have cM:8*i<l.length:=by unfold CB at y;omega
   have bW:min (8*i) l.length=8*i:=by omega
   rw[bW];have bX:((Lr l).map λb=>Ae (Br b))[i]? =some (Ae (Br (CQ l i))):=by simp[Lr,y]
   refine(aV (a8 u)).idx bX λY cN bY=>?_
   rw[A6];refine AL.mk bY.str ?_;have bZ: ∀p∈CQ l i,NA p:=λp b0=>T.ok p (RI b0)
   have cO:=SY T.ok y;refine sP bZ (by omega) λps A aA aC cP=>⟨_,_,rfl,?_⟩
   have ba:=Ay aC Z;have b1:ps.len=(CQ l i).length:=aA.len;refine ah.mk λbb b2=>?_
   have aD:(CQ l i)[0]? =some (CQ l i)[0]:=A2 (by omega);have bc:JK l (8*i)=(CQ l i)[0].key:=by have:=Rs (l:=l) (i:=i) (j:=0) (by omega);rw[aD] at this;unfold JK;rw[DB] at this;rw[<- this]
   generalize (CQ l i)[0]=bd at aD bc;have go:bb (false,()) A:=by
    refine b2 _ _ (ab.no rfl ?_);refine Loop.rule (λm x g=> ∃j:Nat,x=(iG l (8*i+j),((8*i+j:Nat):Int),(j:Int),())/\m=(CQ l i).length-j/\j<=(CQ l i).length/\Ext A g) ?_ ⟨0,by simp,rfl,by omega,Mod.refl⟩;rintro cQ m _ cR ⟨j,rfl,rfl,aW,ac⟩ b3;dsimp only;refine ab.intro (λr=>?_) (λr=>?_)
    ·have N:j<(CQ l i).length:=by grind
     have z:(CQ l i)[j]? =some (CQ l i)[j]:=A2 N;have aE:(CQ l i)[j]∈l:=RI (BT N);have aF:l[8*i+j]? =some (CQ l i)[j]:=by rw[<- Rs (by omega)];exact z
     generalize (CQ l i)[j]=p at z aE aF;have b4:=T.ok p aE;refine(aA.ext ac).view.idx z λaz cS b5=>?_
     obtain⟨b6,b7,b8⟩:=b5.pair;rw[A6];refine AL.mk b6 (AL.mk b7 (Aa.mk b8 ?_));refine ai.pair λcT cU cV aG be cW=>?_
     refine ah.mk λcX b9=>?_
     refine AL.mk (AO aG rfl) ?_;rw[AUb T.ok T.inc aF];refine ab.no rfl ?_;have ca:=Ay be (Ay ac ba);refine AL.mk (AO ca rfl) ?_;refine AL.mk (AO aG rfl) ?_;have a3:=b4.bC;refine ARY (by omega) ⟨_,rfl,?_⟩;rw[Fg,T.has p aE];refine b9 _ _ (ab.no rfl ?_);refine AL.mk (AO aG rfl) ?_;rw[Ac (by omega),Ac (by omega)];refine b3 ((CQ l i).length-(j+1)) _ _ (by omega) ⟨j+1,?_,rfl,N,ac.trans be⟩;have cb:iG l (8*i+(j+1))=p.key:=by show JK l (8*i+j)=p.key;unfold JK;rw[aF]
     rw[cb];rfl
    ·have N:j=(CQ l i).length:=by grind
     rw[Ac (by omega)];have aH:min (8*(i+1)) l.length=8*i+j:=by rw[N];unfold CQ;rw[Ax,FF];omega
     refine bV (CB l-(i+1)) _ _ (by omega) ⟨i+1,?_,rfl,y,(u.trans aC).trans ac⟩;rw[aH]
   have bf:aY ps.p ps.len 0 λL=>AL A (L.add ((0:Int).toNat*3)) λcc=>AV A (⟨q,0,none⟩:Q6) λbg=>aY bg.p bg.len ((i:Nat):Int) λbh=>AL A (bh.add (((i:Nat):Int).toNat*1)) λcd=>bb ((!bB cc cd),()) A:=by
    obtain⟨L,ce,bi⟩:=aA.view.cells 0 bd aD;rw[HT,add_zero] at bi;refine aY.mk (k:=0) ce (by omega) ?_;refine AL.mk (n:=bd.key) (by show af A (L.add 0)=_;rw[add_zero];exact bi.pair.1) ?_;refine AV.mk (s:=o) (AO ba rfl) ?_;refine((ay.ext u).ext aC).view.idx (TI y) λbh cY cf=>?_
    rw[A6];refine AL.mk cf.str ?_;rw[bc,Bl,decide_eq_true rfl];exact go
   refine ab.no rfl (ab.no (by grind) (ab.no (by rw[b1];simp;omega) ?_));rw[Ac (by omega)];refine ab.intro (λr=>?_) (λ_=>bf);have:i+1<CB l:=by simp at r;omega
   exact ab.no (by grind) bf
  ·have y:i=CB l:=by simp at r;omega
   have aH:min (8*i) l.length=l.length:=by rw[y];omega
   rw[aH];refine AC.mk (AO Z rfl) (ab.no (by simp) ?_);refine bk bT q (bQ.trans u) ⟨⟨o,⟨BC sl.p sl.cap 0 1,CB l,sl.cap⟩,Z,(ay.ext u).view,aV (a8 u),λc d=>?_,λc d=>?_⟩,?_⟩
   ·have h:=(ay.ext u).lt d;have:=G c d;have:=C.size;omega
   ·have h:=bR c d;have:=M.size;have:=u.size;have:=D.size;have:=Q.size;omega
   ·have:=Ai Z;have:=C.size;omega
def YO(g:ao)(h:Int)(f:J0)(i:aa)(j:A2X):=Loop (λK (s:Int×Int×Unit) a=>ab (decide (s.1<s.2.1)) (ah (λ(b:Int×Int×Unit) k=>K (b.1,b.2.1,()) k) λc=>EM g P f #[J6 J9 (J8 J9 ((J8 .u64 (J8 J9 (s.1+s.2.1))).fdiv ((2:Int)^(1:Nat))))] a λv d=>∃e,v=J3 e/\ab (!e) (c ((J8 J9 ((J8 J9 ((J8 .u64 (J8 J9 (s.1+s.2.1))).fdiv ((2:Int)^(1:Nat))))+1)),s.2.1,()) d) (c (s.1,(J8 J9 ((J8 .u64 (J8 J9 (s.1+s.2.1))).fdiv ((2:Int)^(1:Nat)))),()) d)) (j (J6 J9 s.1) a)) (0,h,()) i
theorem AEK {a b f c d}(e:YO a b f c d):AA a P RN #[J6 J9 b,f] c d:=AX (Bj 2 (AJ (.block (.loop [(5,.one (.int J9)),(6,.one (.int J9))] [1] (AJ Ej (.aQ [(5,.one (.int J9)),(6,.one (.int J9))] [1] iV)))) BQ)) (by kernel_rfl) e
def Il(b:ao)(s:Sl)(i:Int)(v:Sl)(e:aa)(d:A2X):=aE ((0:Int)<=i/\i<=(s.len:Int))<| ab ((v.len:Int)==0) (d (J4 s.p s.len s.cap) e) (ab (i==(s.len:Int)) (Ad b P (Builtin.append_ #[Ar,Ar] Ar #[J4 s.p s.len s.cap,J4 v.p v.len v.cap]) e λv1 h=>∃c:Sl,v1=J4 c.p c.len c.cap/\d (J4 c.p c.len c.cap) h) (ab (decide ((J8 J9 ((s.len:Int)+(v.len:Int)))>(s.cap:Int))) (aE ((0:Int)<=i/\i<=(s.cap:Int))<| Ad b P (Builtin.append_ #[Ar,BM] Ar #[J4 (BC s.p s.cap 0 1) (i.toNat-0) (s.cap-0),J6 J9 (J8 J9 ((J8 J9 ((s.len:Int)+(v.len:Int)))-i))]) e λv2 j=>∃a:Sl,v2=J4 a.p a.len a.cap/\(aE ((0:Int)<=i/\i<=(a.len:Int))<| Ad b P (Builtin.copy_ #[Ar,Ar] BM #[J4 (BC a.p a.cap i.toNat 1) (a.len-i.toNat) (a.cap-i.toNat),J4 v.p v.len v.cap]) j λk l=>∃m,k=J6 J9 m/\(aE ((0:Int)<=(J8 J9 (i+(v.len:Int)))/\(J8 J9 (i+(v.len:Int)))<=(a.len:Int))<| aE ((0:Int)<=i/\i<=(s.len:Int))<| Ad b P (Builtin.copy_ #[Ar,Ar] BM #[J4 (BC a.p a.cap ((J8 J9 (i+(v.len:Int))).toNat) 1) (a.len-((J8 J9 (i+(v.len:Int))).toNat)) (a.cap-((J8 J9 (i+(v.len:Int))).toNat)),J4 (BC s.p s.cap i.toNat 1) (s.len-i.toNat) (s.cap-i.toNat)]) l λn o=>∃p,n=J6 J9 p/\d (J4 a.p a.len a.cap) o))) (aE ((0:Int)<=(J8 J9 ((s.len:Int)+(v.len:Int)))/\(J8 J9 ((s.len:Int)+(v.len:Int)))<=(s.cap:Int))<| aE ((0:Int)<=(J8 J9 (i+(v.len:Int)))/\(J8 J9 (i+(v.len:Int)))<=(((((J8 J9 ((s.len:Int)+(v.len:Int))).toNat)-0):Nat):Int))<| nE b P Gz #[J4 v.p v.len v.cap,J4 (BC (BC s.p s.cap 0 1) (s.cap-0) ((J8 J9 (i+(v.len:Int))).toNat) 1) ((((J8 J9 ((s.len:Int)+(v.len:Int))).toNat)-0)-((J8 J9 (i+(v.len:Int))).toNat)) ((s.cap-0)-((J8 J9 (i+(v.len:Int))).toNat))] e λq f=>∃g,q=J3 g/\ab (!g) (aE ((0:Int)<=(J8 J9 (i+(v.len:Int)))/\(J8 J9 (i+(v.len:Int)))<=(((((J8 J9 ((s.len:Int)+(v.len:Int))).toNat)-0):Nat):Int))<| aE ((0:Int)<=i/\i<=(((((J8 J9 ((s.len:Int)+(v.len:Int))).toNat)-0):Nat):Int))<| Ad b P (Builtin.copy_ #[Ar,Ar] BM #[J4 (BC (BC s.p s.cap 0 1) (s.cap-0) ((J8 J9 (i+(v.len:Int))).toNat) 1) ((((J8 J9 ((s.len:Int)+(v.len:Int))).toNat)-0)-((J8 J9 (i+(v.len:Int))).toNat)) ((s.cap-0)-((J8 J9 (i+(v.len:Int))).toNat)),J4 (BC (BC s.p s.cap 0 1) (s.cap-0) i.toNat 1) ((((J8 J9 ((s.len:Int)+(v.len:Int))).toNat)-0)-i.toNat) ((s.cap-0)-i.toNat)]) f λr t=>∃u,r=J6 J9 u/\(aE ((0:Int)<=i/\i<=(((((J8 J9 ((s.len:Int)+(v.len:Int))).toNat)-0):Nat):Int))<| Ad b P (Builtin.copy_ #[Ar,Ar] BM #[J4 (BC (BC s.p s.cap 0 1) (s.cap-0) i.toNat 1) ((((J8 J9 ((s.len:Int)+(v.len:Int))).toNat)-0)-i.toNat) ((s.cap-0)-i.toNat),J4 v.p v.len v.cap]) t λw x=>∃y,w=J6 J9 y/\d (J4 (BC s.p s.cap 0 1) (((J8 J9 ((s.len:Int)+(v.len:Int))).toNat)-0) (s.cap-0)) x)) (aE ((0:Int)<=(s.len:Int)/\(s.len:Int)<=(((((J8 J9 ((s.len:Int)+(v.len:Int))).toNat)-0):Nat):Int))<| Ad b P (Builtin.copy_ #[Ar,Ar] BM #[J4 (BC (BC s.p s.cap 0 1) (s.cap-0) ((s.len:Int).toNat) 1) ((((J8 J9 ((s.len:Int)+(v.len:Int))).toNat)-0)-((s.len:Int).toNat)) ((s.cap-0)-((s.len:Int).toNat)),J4 v.p v.len v.cap]) f λz A=>∃B,z=J6 J9 B/\(aE ((0:Int)<=i/\i<=(((((J8 J9 ((s.len:Int)+(v.len:Int))).toNat)-0):Nat):Int))<| AA b P JF #[J4 (BC (BC s.p s.cap 0 1) (s.cap-0) i.toNat 1) ((((J8 J9 ((s.len:Int)+(v.len:Int))).toNat)-0)-i.toNat) ((s.cap-0)-i.toNat),J6 J9 (v.len:Int)] A λC D=>C=J1 #[]/\d (J4 (BC s.p s.cap 0 1) (((J8 J9 ((s.len:Int)+(v.len:Int))).toNat)-0) (s.cap-0)) D)))))
theorem OD {a s i v b c}(d:Il a s i v b c):AA a P DN #[J4 s.p s.len s.cap,J6 J9 i,J4 v.p v.len v.cap] b c:=AX wc (by kernel_rfl) d
def QG(c:ao)(x:Int)(a:aa)(b:A2X):=b (J3 (x != x)) a
theorem XZ {a x b c}(d:QG a x b c):AA a P IK #[J6 J9 x] b c:=AX EK (by kernel_rfl) d
def Mm(c:ao)(x:A2Y)(a:aa)(b:A2X):=b (J3 (!bB x x)) a
theorem Sz {a x b c}(d:Mm a x b c):AA a P GN #[J7 x] b c:=AX EK (by kernel_rfl) d
def Nn(e:ao)(x:Int)(c:Int)(g:aa)(a:A2X):=AA e P IK #[J6 J9 x] g λv h=>∃f,v=J3 f/\AA e P IK #[J6 J9 c] h λv1 b=>∃d,v1=J3 d/\ab f (ab d (a (J6 J9 0) b) (a (J6 J9 (-1)) b)) (ab d (a (J6 J9 1) b) (ab (decide (x<c)) (a (J6 J9 (-1)) b) (ab (decide (x>c)) (a (J6 J9 1) b) (a (J6 J9 0) b))))
theorem Ui {a x b c d}(e:Nn a x b c d):AA a P JX #[J6 J9 x,J6 J9 b] c d:=AX we (by kernel_rfl) e
def Lj(e:ao)(x:A2Y)(c:A2Y)(g:aa)(a:A2X):=AA e P GN #[J7 x] g λv h=>∃f,v=J3 f/\AA e P GN #[J7 c] h λv1 b=>∃d,v1=J3 d/\ab f (ab d (a (J6 J9 0) b) (a (J6 J9 (-1)) b)) (ab d (a (J6 J9 1) b) (ab (aI x c) (a (J6 J9 (-1)) b) (ab (!(aI x c||bB x c)) (a (J6 J9 1) b) (a (J6 J9 0) b))))
theorem Rb {a x b c d}(e:Lj a x b c d):AA a P Hw #[J7 x,J7 b] c d:=AX we (by kernel_rfl) e
def UO(f:ao)(dA:Sl)(e:aa)(c:A2X):=Loop (λK (s:Int×Unit) b=>ab (decide (s.1<(dA.len:Int))) (aY dA.p dA.len s.1 λa=>AC J9 b (a.add (s.1.toNat*1)) λd=>ab (d != 0) (c (J6 J9 d) b) (K ((J8 J9 (s.1+1)),()) b)) (c (J6 J9 0) b)) (0,()) e
theorem ABW {a dA b c}(d:UO a dA b c):AA a P OT #[J4 dA.p dA.len dA.cap] b c:=AX (Bj 2 (AJ (AJ AQ (.block (.loop [(8,.one (.int J9))] [3,6,7] iU))) BQ)) (by kernel_rfl) d
def F4(h:ao)(x:Sl)(i:J0)(j:aa)(k:A2X):=ah (λ(s:Unit) e=>aY x.p x.len 0 λa=>AL e (a.add ((0:Int).toNat*1)) λl=>Loop (λm (b:A2Y×Int×Unit) c=>ab (decide (b.2.1<(x.len:Int))) (ah (λ(n:A2Y×Unit) o=>m (n.1,(J8 J9 (b.2.1+1)),()) o) λf=>aY x.p x.len b.2.1 λp=>AL c (p.add (b.2.1.toNat*1)) λq=>EM h P i #[J7 q,J7 b.1] c λv d=>∃g,v=J6 J9 g/\ab (decide (g<0)) (aY x.p x.len b.2.1 λr=>AL d (r.add (b.2.1.toNat*1)) λt=>f (t,()) d) (f (b.1,()) d)) (k (J7 b.1) c)) (l,1,()) e) λK=>ab (decide ((x.len:Int)<1)) (False) (K () j)
theorem KQ {a x b c d}(e:F4 a x b c d):AA a P EE #[J4 x.p x.len x.cap,b] c d:=AX (AJ AQ (.bg [] [0,1] Ej (AJ AQ (AJ (AJ AQ (.block (.loop [(5,.one .str),(6,.one (.int J9))] [0,1] (AJ Ej (AJ (.aQ [(5,.one .str)] [0,1,6] Ej) AQ))))) BQ)))) (by kernel_rfl) e
end Go.Lf.G
namespace Go.Lf.G.M
open Go Go.Lf Go.Lf.G
theorem toList_inj {a b:A2Y}:(a.toList==b.toList)=decide (a=b):=by rw[ByteArray.toList_eq,ByteArray.toList_eq];rw[DH];simp[MA,<-Array.toList_inj]
def Ah(x:Pr):Int:=
 if(decide (x.key=⟨#[]⟩)||(x.gone&& !decide (x.val=⟨#[]⟩))) then 1 else if(decide (x.key.size>64)||decide (x.val.size>8192)) then 2 else 0
theorem Bl {a b:A2Y}:bB a b=decide (a=b):=toList_inj
def gS(key:A2Y)(l:List Pr):List Pr:=l.takeWhile λq=>aI q.key key
def aH(key:A2Y)(l:List Pr):Nat:=(gS key l).length
def Az(key:A2Y)(l:List Pr):Bool:=match l[aH key l]? with|some q=>decide (q.key=key)|none=>false
theorem mP(key:A2Y)(l:List Pr):aH key l<=l.length:=(XS _).length_le
theorem WV {e:Type}{p:e->Bool}: ∀ {l:List e} {i:Nat},i<=(l.takeWhile p).length->(∀ x,l[i]? =some x->p x=true->i<(l.takeWhile p).length)/\(∀ x,l[i]? =some x->p x=false->i=(l.takeWhile p).length)/\(l[i]? =none->i=(l.takeWhile p).length)
 | [],i,a=>by simp at a;subst a;simp
 |y::l,0,a=>by
  refine⟨λx b c=>?_,λx b c=>?_,λa=>by simp at a⟩
  ·simp at b;subst b;simp[c]
  ·simp at b;subst b;simp[c]
 |y::l,i+1,a=>by
  rw[MD] at a ⊢;split at a
  ·rename_i f;have d:=WV (p:=p) (l:=l) (i:=i) (by simpa using a);simp only[f,if_true,An];refine⟨λx b c=>?_,λx b c=>?_,λg=>?_⟩
   ·have:=d.1 x (by simpa using b) c;omega
   ·have:=d.2.1 x (by simpa using b) c;omega
   ·have:=d.2.2 (by simpa using g);omega
  ·simp at a
theorem Ii:Rj P AR AU Bg.w 40=true:=by kernel_rfl
theorem AQh:Rj P Jl AR gW.w 24=true:=by kernel_rfl
theorem AUn:Rj P BH Bq jK.w 8=true:=by kernel_rfl
def Zq(x:Pr)(l:List Pr):List Pr:=l.take (aH x.key l)++ [x]++l.drop (if Az x.key l then aH x.key l+1 else aH x.key l)
def Bw(x:Pr)(l:List Pr):List Pr:=if Ah x≠0 then l else Zq x l
theorem ARu(x:Pr)(l:List Pr):(Zq x l).length<=l.length+1:=by unfold Zq;have:=mP x.key l;simp;split<;>omega
theorem AQY(x:Pr)(l:List Pr):(Bw x l).length<=l.length+1:=by
 unfold Bw;split
 ·omega
 ·exact ARu x l
theorem rj {a:J0}{c:J0}:(#[]++ #[a]++ #[c]:Array J0)= #[a,c]:=rfl
theorem AIp {G:ao}{e H:aa}{fv:J0}{S:Nat->Prop}{l:List Pr}{I:A2X}(J:Ee G P fv S H l)(K: ∀b,S b->e[b]? =H[b]?)(ax:l.length<=1099511627776)
  (ab: ∀s h,Own Bg AU h s l->(∀ c,s.ag=some c->e.size<=c)->Ext e h->I (J4 s.p s.len s.cap) h):AA G P DK #[J4 none 0 0,fv] e I:=by
 refine Ig (s:=⟨none,0,0⟩) ?_;unfold Es;refine ai.mk λo _ a L ay=>?_
 have M: ∀b,S b->b<e.size:=λb a=>by
  have:=K b a;rw[DP (J.1 b a)] at this;exact Ai this
 have ac: ∀h:aa,Mod (λc=>c=e.size) o h->Ext e h:=λh m=>L.then (m.ak λc _ j=> .inr (by omega))
 refine Yy J (λb a=>(L.get b (M b a) (by simp)).trans (K b a))
  (λi c y p=>c=none/\ ∃s:Sl,p[e.size]? =some (J2 #[J4 s.p s.len s.cap] AR (0,0))/\Own Bg AU p s (l.take i)/\(∀ b,y b↔(b=e.size\/s.ag=some b))/\(∀ b,s.ag=some b->b<p.size/\e.size<b))
  (λb=>b=e.size) (λb a d=>by have:=M b a;omega) ?_ ?_ ?_ ?_ ?_ ?_
 ·rintro i c y p ⟨_,s,q,r,f,k⟩ b a;rcases(f b).1 a with rfl|n
  ·exact Ai q
  ·exact(k b n).1
 ·rintro i c y p h ⟨d,s,q,r,f,k⟩ m;refine⟨d,s,m.ag q (λz=>z.1 ((f _).2 (.inl rfl))),r.mod m (λc j z=>z.1 ((f _).2 (.inr j))),f,λb a=>⟨?_,(k b a).2⟩⟩;have:=m.size;have:=(k b a).1;omega
 ·exact⟨rfl,⟨none,0,0⟩,a,Own.nil,λb=>by simp[Sl.ag],λb a=>by simp[Sl.ag] at a⟩
 ·rintro i x N p rec az aA hi ⟨_,s,q,r,f,k⟩ O aC af ag ah aD;have aE:=(List.getElem?_eq_some_iff.1 hi).1;refine ai.pair λaF Q aG aj u aH=>?_
  refine⟨rec,u.ag af (by simp),ag,?_⟩;generalize R:Q.setIfInBounds (o.size+1) (.loop {rec with state:= .busy})=A;have t:Mod (λb=>b=o.size+1) Q A:=R▸Mod.setObj rfl;have ak:A[o.size+1]? =some (.loop {rec with state:= .busy}):=by rw[<- R];exact Ci (by omega)
  have aI:=Ai q;have B:=t.ag aj (by omega);have T:=t.ag (u.ag q (by simp)) (by omega);have al:=(r.ext u).mod t (λc j d=>O ((f _).2 (.inr (d▸j))));refine AV.mk (AO T rfl) (AL.mk (AO B rfl) (AL.mk (AB B rfl) (Aa.mk (AB B rfl) ?_)));have U:(l.take i).length=i:=by simp;omega
  refine ai.aV (E:=Bg) (x:=x) rfl Ii al (by rw[U];omega) (by rw[U];simp[maxLen];omega) λV W X v C _=>?_
  have aJ:=t.size;have am:s.ag≠some e.size:=λd=>by have:=k _ d;omega
  refine ae.mk (v.ag T am) (by simp) λan ap D aK=>ah an ?_
  refine⟨λb=>b=e.size\/V.ag=some b,?_,?_,?_,rfl,V,by simpa using ap,?_,λ_=>CC,?_⟩
  ·rintro b (rfl|a)
   ·exact .inl ((f _).2 (.inl rfl))
   ·rcases C b a with n|n
    ·exact .inl ((f _).2 (.inr n))
    ·exact .inr (by omega)
  ·have aq:Mod (λb=>N b\/b=o.size+1) p A:=u.mod.trans (t.ak λb _ a=> .inr a);have ar:Mod (λb=>N b\/b=o.size+1) p W:=aq.trans (v.ak λb _ a=> .inl ((f _).2 (.inr a)));exact ar.trans (D.ak λb _ a=> .inl ((f _).2 (.inl a)))
  ·refine D.ag (v.ag ak (λd=>O ((f _).2 (.inr d)))) (by omega)
  ·have au:=X.mod D (λc j d=>by
    rcases C c j with n|n
    ·have:=k _ n;omega
    ·omega)
   rw[AE,hi];exact au
  ·intro b a;have:=v.size;have aL:b<W.size:=by
    rcases X.row with⟨rfl,_⟩|⟨g,av,F,w,_⟩
    ·simp[Sl.ag] at a
    ·simp[Sl.ag,F] at a;subst a;exact Ai w
   refine⟨by omega,?_⟩;rcases C b a with n|n
   ·exact(k _ n).2
   ·omega
 ·rintro O' h ⟨_,s,q,r,f,k⟩ Y _ aM Z;have aN:=Y.size;refine AV.mk (AO q rfl) ⟨Z,?_⟩;rw[CH] at r;have aw:s.ag≠some o.size:=λd=>by
   rcases r.row with⟨rfl,_⟩|⟨g,av,F,w,_⟩
   ·simp[Sl.ag] at d
   ·simp[Sl.ag,F] at d;rw[d,Z] at w;cases w
  refine ab s _ (r.mod (Mod.setObj (S:=λc=>c=o.size) rfl) λc j d=>aw (d▸j)) (λc j=>by have:=k _ j;omega) ?_;exact(ac h Y).then (Mod.setObj (.inr (by omega)))
 ·rintro i aO O' h ⟨d,_⟩;cases d
theorem YQ {e:ao}{d f:aa}{fv:J0}{g:Nat->Prop}{l:List Pr}{h:A2X}(i:Ee e P fv g f l)(j: ∀b,g b->d[b]? =f[b]?)(k:l.length<=1099511627776)
  (m: ∀s a,Own Bg AU a s l->(∀ c,s.ag=some c->d.size<=c)->Ext d a->h (J4 s.p s.len s.cap) a):AA e P DJ #[fv] d h:=by
 refine Nl ?_;unfold Ir;exact AIp i j k λs a n o p=>⟨s,rfl,m s a n o p⟩
def BB(l:List Pr):List Pr:=l.filter λx=> !x.gone
theorem xW {b:Type}{p:b->Bool}: ∀ {l:List b} {i:Nat} {x:b},l[i]? =some x->p x=true->(l.filter p)[((l.take i).filter p).length]? =some x
 | [],i,x,a,_=>by simp at a
 |y::l,0,x,a,c=>by simp at a;subst a;simp[c]
 |y::l,i+1,x,a,c=>by
  have d:=xW (p:=p) (l:=l) (i:=i) (by simpa using a) c;rw[I0,AS,AS];split
  ·simpa using d
  ·exact d
theorem AGt {a:Type}{p:a->Bool}(l:List a)(i:Nat):((l.take i).filter p).length<=(l.filter p).length:=((List.take_sublist i l).filter p).length_le
theorem ASl {X:ao}{D:aa}{b:Nat}{T:Q7}{fr:Nat×Nat}{fv:J0}{z:Nat->Prop}{l:List Pr}(a:D[b]? =some (J2 #[fv] T fr))(h:(fv= .nilFunc/\l= []/\ ∀c,¬z c)\/Ee X P fv z D l):
  Ee X P (.func (.func QH) #[] #[J5 (some ⟨b,0,none⟩)]) (λc=>z c\/c=b) D (BB l):=by
 have aw:=Ai a;refine⟨?_,_,_,rfl,λY=>by kernel_rfl,λd E Y w F ax hd hB ay G=>?_⟩
 ·rintro c (n|rfl)
  ·rcases h with h|h
   ·exact absurd n (h.2.2 c)
   ·exact h.1 c n
  ·exact aw
 rw[rj];refine ACu ?_;unfold WH;refine Yz.mk ax (ai.mk λu _ az q aJ=>?_);have Z:u[b]? =some (J2 #[fv] T fr):=by have r:=(E b (.inr rfl)).trans a;exact q.ag r (by simp)
 refine UM.mk (AO Z rfl) ?_;rcases h with⟨rfl,rfl,_⟩|h
 ·refine⟨trivial,ab.yes rfl ?_⟩;exact⟨rfl,0,true,F,q.mod,λb a=> .inl a,hB.aX _ _ _ _ _ G (q.ak λ_ _ d=>d.elim),λ_=>rfl,by simp⟩
 ·refine⟨h.one.2.1,ab.no h.one.2.2 ?_⟩;refine UM.mk (AO Z rfl) ?_;have aA:=hB.wf _ _ _ _ G;have aC: ∀b,z b->b<d.size:=λb a=>by
   have:=E b (.inl a);rw[DP (h.1 b a)] at this;exact Ai this
  have aD:=hB.aX _ _ _ _ _ G (q.ak (S':=λb=>¬F b/\d.size<=b) λ_ _ d=>d.elim);refine Yy h (λc n=>(q.get c (aC c n) (by simp)).trans (E c (.inl n)))
   (λi c e j=>j[d.size]? =some (J2 #[Y] Ni (0,0))/\ ¬e d.size/\match c with
    |none=>w (BB (l.take i)).length true e j
    |some ac=>ac=none/\ ∃s,s<=(BB l).length/\w s false e j)
   F (λc n=>hd c (.inl n)) ?_ ?_ ?_ ?_ ?_ ?_
  ·rintro i c e j ⟨_,_,f⟩;cases c
   ·exact hB.wf _ _ _ _ f
   ·obtain⟨_,s,_,H⟩:=f;exact hB.wf _ _ _ _ H
  ·rintro i c e j I ⟨r,t,f⟩ m;refine⟨m.ag r (λd=>by omega),t,?_⟩;have ae:Mod (λb=>¬e b/\d.size<=b) j I:=m.ak λb _ a=>⟨a.1,by omega⟩
   cases c
   ·exact hB.aX _ _ _ _ _ f ae
   ·obtain⟨H,s,J,aE⟩:=f;exact⟨H,s,J,hB.aX _ _ _ _ _ aE ae⟩
  ·exact⟨az,λd=>by have:=aA _ d;omega,aD⟩
  ·rintro i x e j rec aK aL hi ⟨r,t,f⟩ L aM aF aG af aH;refine ai.pair λaN ag aO aI M aP=>?_
   refine⟨rec,M.ag aF (by simp),aG,?_⟩;generalize k:ag.setIfInBounds (u.size+1) (.loop {rec with state:= .busy})=v;have y:Mod (λb=>b=u.size+1) ag v:=k▸Mod.setObj rfl;have N:v[u.size+1]? =some (.loop {rec with state:= .busy}):=by rw[<- k];exact Ci (by omega)
   have A:=y.ag aI (by omega);have O:=y.ag (M.ag r (by simp)) (by omega);have Q:Mod (λb=>b=u.size+1) j v:=(Ext.mod M).trans y;have aj:w (BB (l.take i)).length true e v:=hB.aX _ _ _ _ _ f (Q.ak λb _ a=>by subst a;exact⟨L,by omega⟩);have ak:BB (l.take (i+1))=BB (l.take i)++BB [x]:=by rw[AE,hi];simp[BB]
   refine ah.mk λK al=>?_
   refine Aa.mk (AB A rfl) ?_;refine ab.intro (λo=>?_) (λo=>?_)
   ·have o:(!x.gone)=true:=o;refine UM.mk (AO O rfl) ?_;refine AL.mk (AO A rfl) (AL.mk (AB A rfl) (Aa.mk (AB A rfl) ?_));refine EM.mono (ay _ _ e v (xW (p:=λx:Pr=> !x.gone) hi o) aj) ?_;rintro _ R ⟨g,B,rfl,am,C,an⟩;refine⟨g,rfl,al _ _ ?_⟩;have aQ:=AGt (p:=λx:Pr=> !x.gone) l (i+1);have ap:(BB (l.take (i+1))).length=(BB (l.take i)).length+1:=by rw[ak];simp only[BB,A1];simp[o]
    have aq:=C.ag O t;have ar: ¬B d.size:=λn=>(am _ n).elim t λd=>by have:=y.size;omega
    have au:Mod (λb=>e b\/b=u.size+1) j R:=(Q.ak λb _ a=> .inr a).trans (C.ak λb _ a=> .inl a);have av: ∀b,B b->e b\/j.size<=b:=λb a=>(am b a).elim .inl λd=> .inr (by have:=y.size;omega)
    refine ab.intro (λk=>aH none R ?_) (λk=>af R ?_)
    ·have k:g=false:=by simpa using k
     subst k;exact⟨B,av,au,C.ag N L,aq,ar,rfl,_,by have:=ap;unfold BB at *;omega,an⟩
    ·have k:g=true:=by simpa using k
     subst k;exact⟨B,av,au,C.ag N L,aq,ar,by show w _ _ _ _;rw[ap];exact an⟩
   ·have o:(!x.gone)=false:=o;refine al _ _ (ab.no rfl (af v ?_));refine⟨e,λb a=> .inl a,Q.ak λb _ a=> .inr a,N,O,t,?_⟩;show w _ _ _ _;have:BB [x]= []:=by simp at o;simp[BB,o]
    rw[ak,this,AI];exact aj
  ·rintro O' I ⟨r,t,f⟩ S U V W;refine⟨W,rfl,(BB l).length,true,O',?_,?_,?_,λ_=>rfl,A0 _⟩
   ·exact(q.mod.trans S).then (Mod.setObj (.inr (by omega)))
   ·intro b a;exact(V b a).elim .inl λd=> .inr (by omega)
   ·rw[CH] at f;exact hB.aX _ _ _ _ _ f (Mod.setObj ⟨U,by omega⟩)
  ·rintro i ac O' I ⟨r,t,rfl,s,J,f⟩ hi S U V W;refine⟨W,rfl,s,false,O',?_,?_,?_,(λd=>by cases d),J⟩
   ·exact(q.mod.trans S).then (Mod.setObj (.inr (by omega)))
   ·intro b a;exact(V b a).elim .inl λd=> .inr (by omega)
   ·exact hB.aX _ _ _ _ _ f (Mod.setObj ⟨U,by omega⟩)
theorem tC {f:ao}{d:aa}{fv:J0}{g:Nat->Prop}{l:List Pr}{i:A2X}(a:(fv= .nilFunc/\l= []/\ ∀c,¬g c)\/Ee f P fv g d l)
  (m: ∀j e,Ee f P j (λc=>g c\/c=d.size) e (BB l)->Ext d e->e.size=d.size+1->i j e):AA f P Oz #[fv] d i:=by
 refine AGR ?_;unfold xo;refine Yz.mk ?_ (ai.mk λn _ o k p=>?_)
 ·rcases a with a|a
  ·rw[a.1];rfl
  ·exact a.one.1
 ·refine m _ n (ASl o ?_) k p;rcases a with a|a
  ·exact .inl a
  ·exact .inr (a.ak (λ_=>id) (λb h=>by have:=a.1 b h;omega) (λb h=>k.get b (a.1 b h) (by simp)))
def Sv(a:A2Y)(x:Pr):Bool:=decide (a=⟨#[]⟩)||aI x.key a
def RH(a:A2Y)(b:Int)(l:List Pr):List Pr:=(l.takeWhile (Sv a)).take b.toNat
theorem nR {b:Type}{p:b->Bool}: ∀ {l:List b} {i:Nat},i<=(l.takeWhile p).length->(l.takeWhile p).take i=l.take i
 | [],i,_=>by simp
 |y::l,0,_=>by simp
 |y::l,i+1,a=>by
  rw[MD] at a ⊢;split at a
  ·rename_i c;simp only[c,if_true,I0];rw[nR (by simpa using a)]
  ·simp at a
theorem Sd: ∀(a:List UInt8),Op.bytesLess a a=false
 | []=>rfl
 |a::x=>by simp[Op.bytesLess,Sd x]
theorem lI: ∀(a b:List UInt8),Op.bytesLess a b=false->Op.bytesLess b a=false->a=b
 | [],[],_,_=>rfl
 | [],_::_,c,_=>by simp[Op.bytesLess] at c
 |_::_,[],_,c=>by simp[Op.bytesLess] at c
 |a::x,b::f,d,e=>by
  simp only[Op.bytesLess,Ge,RE,decide_eq_false_iff_not,beq_eq_false_iff_ne] at d e;have g:a=b:=by grind
  subst g;rw[lI x f (d.2.resolve_left (by simp)) (e.2.resolve_left (by simp))]
theorem VJ: ∀(a b c:List UInt8),Op.bytesLess a b=true->Op.bytesLess b c=true->Op.bytesLess a c=true
 |_,[],_,f,_=>by simp[Op.bytesLess] at f
 |_,_::_,[],_,f=>by simp[Op.bytesLess] at f
 | [],_::_,_::_,_,_=>by simp[Op.bytesLess]
 |a::x,b::g,c::z,e,d=>by
  simp only[Op.bytesLess,CI,A3,decide_eq_true_eq,beq_iff_eq] at e d ⊢;rcases e with e|⟨rfl,e⟩
  ·grind
  ·rcases d with d|⟨rfl,d⟩
   ·exact .inl d
   ·exact .inr ⟨rfl,VJ x g z e d⟩
theorem CV(a:A2Y):aI a a=false:=Sd _
theorem DW {a b c:A2Y}(d:aI a b=true)(e:aI b c=true):aI a c=true:=VJ _ _ _ d e
theorem NW {a b:A2Y}(d:aI a b=false)(e:aI b a=false):a=b:=by
 have:=lI _ _ d e;have c:bB a b=true:=by simp[bB,this]
 rw[Bl] at c;simpa using c
theorem PX {a b:A2Y}(c:aI a b=true):aI b a=false:=by grind [aI,DW,CV]
theorem nT {a b c:A2Y}(d:aI a b=true)(e:aI c b=false):aI a c=true:=by grind [aI,NW,DW]
theorem rk {a b c:A2Y}(d:aI b a=false)(e:aI c b=false):aI c a=false:=by grind [aI,nT]
def upto(p q:Pr):Bool:=aI q.key p.key||bB q.key p.key
def JG(p:Pr)(l:List Pr):List Pr:=l.dropWhile (upto p)
inductive Mx:List (List Pr)->List Pr->Prop
 |done {ls:List (List Pr)} (h: ∀l,l∈ls->l= []):Mx ls []
 |step {ls:List (List Pr)} {k:Nat} {p:Pr} {t out:List Pr} (hk:ls[k]? =some (p::t))
   (hmin: ∀j q u,ls[j]? =some (q::u)->aI q.key p.key=false/\(j<k->aI p.key q.key=true)) (hm:Mx (ls.map (JG p)) out):Mx ls (p::out)
theorem Mx.ib {a:List (List Pr)}{out:List Pr}(m:Mx a out)(b: ∀l,l∈a->l= []):out= []:=by
 cases m with
 |done _=>rfl
 |step c d e=>have:=b _ (AG c);cases this
theorem Mx.gk {a:List (List Pr)}{out:List Pr}(m:Mx a out){b:Nat}{p:Pr}{t:List Pr}(e:a[b]? =some (p::t))
  (g: ∀c q u,a[c]? =some (q::u)->aI q.key p.key=false/\(c<b->aI p.key q.key=true)): ∃d,out=p::d/\Mx (a.map (JG p)) d:=by
 cases m with
 |done f=>have:=f _ (AG e);cases this
 | @step _ h i j k l n o=>
  grind
theorem tq {d:Type}: ∀(a:List d) (b i:Nat) (v:d),(a.set i v).take b=(a.take b).set i v
 | [],b,i,v=>by simp
 |c::a,0,i,v=>by simp
 |c::a,b+1,0,v=>by simp
 |c::a,b+1,i+1,v=>by simp[tq a b i v]
end Go.Lf.G.M
namespace Go.Lf
open G
theorem Own.jo {T:Q7}{d:aa}{s:Sl}{l:List Sl}(e:Own gW T d s l){i:Nat}(hi:i<l.length){x:Sl}{K:aa->Prop}{a:Q6}(f:s.p=some a)
  (q: ∀c,Own gW T c s (l.set i x)->Mod (λb=>s.ag=some b) d c->c.size=d.size->K c):ae d (a.add (i*1)) (J4 x.p x.len x.cap) K:=by
 rcases e.row with⟨rfl,_⟩|⟨g,y,h,r,t,u,n,o⟩
 ·simp at f
 ·rw[h] at f;cases f;rw[Bp,AF,AN];have j:gW.w=1:=rfl;rw[j,AN] at n o;have z:=e.len;refine ae.mk r (by omega) λc k m v=>q c ⟨by simpa using e.len,.inr ⟨g,_,h,k,t,u,by simp[n,j],?_⟩⟩ (m.ak λb _ k=>by simp[Sl.ag,h,k]) v
  rw[j,AN,DQ,Go.Lf.G.M.tq,o];have p: ∀l:List Sl,l.flatMap gW.enc=l.map (λs=>Value.slice s.p s.len s.cap):=λl=>by
   induction l with
   |nil=>rfl
   |cons A l w=>rw[AM,w];rfl
  rw[p,p,N3]
end Go.Lf
namespace Go.Lf.G.M
open Go Go.Lf Go.Lf.G
structure iX (lo:Nat) (h:aa) (O:Nat->Prop) (t:Sl) (sls:List Sl) (ls:List (List Pr)):Prop where
 len:sls.length=ls.length
 row: ∀(j:Nat) (sl:Sl) (l:List Pr),sls[j]? =some sl->ls[j]? =some l->View Bg h sl l/\l.length<=1099511627776/\ ∀c,sl.ag=some c->lo<=c/\c<h.size/\t.ag≠some c/\ ¬O c
theorem iX.mod {lo:Nat}{b i:aa}{f O':Nat->Prop}{t t':Sl}{j:List Sl}{k:List (List Pr)}{n:Nat->Prop}(o:iX lo b f t j k)(m:Mod n b i)(p: ∀c,lo<=c->c<b.size->t.ag≠some c-> ¬f c-> ¬n c)
  (q: ∀c,c<b.size->t'.ag=some c->t.ag=some c) (r: ∀c,c<b.size->O' c->f c):iX lo i O' t' j k:=
 ⟨o.len,λs sl l g e=>by
  obtain⟨v,u,d⟩:=o.row s sl l g e;refine⟨v.mod m λc a=>p c (d c a).1 (d c a).2.1 (d c a).2.2.1 (d c a).2.2.2,u,λc a=>?_⟩;obtain⟨g,e,w,x⟩:=d c a;have:=m.size;exact⟨g,by omega,λh=>w (q c e h),λh=>x (r c e h)⟩⟩
end Go.Lf.G.M
namespace Go.Lf
open G
theorem View.val {b:aa}{s:Sl}{c:List gX}(v:View jK b s c){i:Nat}{x:gX}(hi:c[i]? =some x): ∃a,s.p=some a/\af b (a.add (i*1))=some x.v:=by obtain⟨a,d,e⟩:=v.cells i x hi;exact⟨a,d,e.val⟩
end Go.Lf
namespace Go.Lf.G.M
open Go Go.Lf Go.Lf.G
theorem AUD {a9:ao}{ag:aa}{b:Nat}{T:Q7}{fr:Nat×Nat}{s:Sl}{S:Nat->Prop}{I:List gX}{os:List (Option (List Pr))}{out:List Pr}(B:ag[b]? =some (J2 #[J4 s.p s.len s.cap] T fr))(v:View jK ag s I)
  (ba:I.length<=1099511627776) (bH:os.length=I.length)
  (bI: ∀(i:Nat) (v:gX),I[i]? =some v->(v.v= .nilFunc/\os[i]? =some none)\/ ∃l,os[i]? =some (some l)/\Ee a9 P v.v S ag l/\l.length<=1099511627776) (bJ:Mx (os.filterMap id) out) (cm: ∀b,S b->b<ag.size):
  Ee a9 P (.func (.func Rn) #[] #[J5 (some ⟨b,0,none⟩)]) (λc=>S c\/(c<ag.size/\(c=b\/s.ag=some c))) ag out:=by
 have bK:=Ai B;refine⟨?_,_,_,rfl,λbL=>by kernel_rfl,λf bb bL aM R cn hd hB bM bc=>?_⟩
 ·grind
 rw[rj];refine AFI ?_;unfold Xn;have bN:=hB.wf _ _ _ _ bc;have bO:f[b]? =some (J2 #[J4 s.p s.len s.cap] T fr):=(bb b (.inr ⟨bK,.inl rfl⟩)).trans B;have bP: ∀i x,I[i]? =some x-> ∃a,s.p=some a/\af f (a.add (i*1))=some x.v:=λi x hi=>by
  obtain⟨a,bd,N⟩:=v.val hi
  grind [Zt,aP,Sl.ag,SE,trans]
 have bQ: ∀c,S c->c<f.size:=λc k=>by
  grind
 refine AV.mk (AO bO rfl) ?_;refine Loop.rule (λm x J=> ∃(i:Nat) (t:Sl) (z:List Sl),x=(t,(i:Int),())/\m=I.length-i/\i<=I.length/\Ext f J/\Own gW AR J t z/\(∀ c,t.ag=some c->f.size<=c)/\iX f.size J R t z ((os.take i).filterMap id)/\z.length<=i) ?_
  ⟨0,⟨none,0,0⟩,[],rfl,rfl,by omega,Mod.refl,Own.nil,λc k=>by simp[Sl.ag] at k,⟨by simp,λe sl l f=>by simp at f⟩,by simp⟩
 rintro K m _ J ⟨i,t,z,rfl,rfl,hi,M,C,aq,L,be⟩ ar;refine ab.intro (λr=>?_) (λr=>?_)
 ·have aC:i<I.length:=by simp[v.len] at r;omega
  have bf:=A2 aC;refine ah.mk λco bg=>?_
  obtain⟨a,bd,N⟩:=bP i _ bf;refine aY.mk bd (by rw[v.len];exact aC) ?_;refine UM.mk (M.af N) ?_;rcases bI i _ bf with⟨bh,aN⟩|⟨l,aN,aO,bi⟩
  ·refine⟨by rw[bh];trivial,ab.no (by rw[bh];rfl) ?_⟩;refine bg _ _ (ar (I.length-(i+1)) _ _ (by omega) ⟨i+1,t,z,by rw[Ac (by omega)],rfl,by omega,M,C,aq,?_,by omega⟩);have:(os.take (i+1)).filterMap id=(os.take i).filterMap id:=by rw[AE,aN];simp
   rw[this];exact L
  ·refine⟨aO.one.2.1,ab.yes (by rw[aO.one.2.2];rfl) ?_⟩;refine YQ aO (λc k=>(M.get c (bQ c k) (by simp)).trans (bb c (.inl k))) bi λau W aQ aD aE=>⟨au,rfl,?_⟩
   refine ai.aV (E:=gW) (x:=au) rfl AQh (C.ext aE) (by omega) (by simp[maxLen];omega) λbj bR bS aF aR _=>?_
   have bT:Ext f bR:=(M.trans aE).then (aF.ak λc _ k=> .inr (aq c k));refine bg _ _ (ar (I.length-(i+1)) _ _ (by omega) ⟨i+1,bj,_,by rw[Ac (by omega)],rfl,by omega,bT,bS,?_,?_,?_⟩)
   ·intro c k;rcases aR c k with h|h
    ·exact aq c h
    ·have:=M.size;have:=aE.size;omega
   ·have G:(os.take (i+1)).filterMap id=(os.take i).filterMap id++ [l]:=by rw[AE,aN];simp
    rw[G];have aG:=(L.mod aE (λc _ _ _ _ f=>f) (λc _ f=>f) (λc _ f=>f)).mod (t':=bj) aF (λc _ _ O _=>O) (λc k h=>(aR c h).elim id λo=>by omega) (λc _ f=>f);refine⟨by simp[aG.len],λe sl H h o=>?_⟩;rcases HN e z.length with A|A|A
    ·rw[Hc A] at h;rw[Hc (by rw[<- aG.len];exact A)] at o;exact aG.row e sl H h o
    ·subst A;rw[A05] at h;rw[aG.len,A05] at o;cases h;cases o;have cp:t.ag≠au.ag\/au.ag=none:=by
      cases aH:au.ag with
      |none=>exact .inr rfl
      |some c=>
       refine .inl λG=>?_
       have:=C.lt G;have:=aD c aH;omega
     refine⟨(aQ.view).mod aF λc k O=>?_,bi,λc k=>⟨?_,?_,?_,?_⟩⟩
     ·grind
     ·have:=aD c k;have:=M.size;omega
     ·have:=aQ.lt k;have:=aF.size;omega
     ·intro h;have:=aQ.lt k;rcases aR c h with o|o
      ·have:=C.lt o;have:=aD c k;omega
      ·omega
     ·intro h;have:=bN c h;have:=aD c k;have:=M.size;omega
    ·rw[Mn (by simp;omega)] at h;cases h
   ·simp;omega
 ·have aC:i=I.length:=by simp[v.len] at r;omega
  rw[aC,<-bH,CH] at L;have bk:=hB.aX _ _ _ _ _ bc (M.ak (S':=λb=>¬R b/\f.size<=b) λ_ _ f=>f.elim);refine Loop.rule (λm _ J=> ∃(i:Nat) (D:Nat->Prop) (z:List Sl) (j:List (List Pr)) (aj:List Pr),Mx j aj/\m=aj.length/\(∀ n,out[i+n]? =aj[n]?)/\i+aj.length=out.length/\Mod R f J/\(∀ b,D b->R b\/f.size<=b)/\aM i true D J/\
    Own gW AR J t z/\(∀ c,t.ag=some c-> ¬D c)/\iX f.size J D t z j/\z.length<=1099511627776) ?_
   ⟨0,R,z,_,out,bJ,rfl,λn=>by rw[AF],by omega,M.mod,λb B=> .inl B,bk,C,λc k O=>by grind,L,by omega⟩
  clear ar L M C be bk;rintro cq m _ J ⟨i,D,z,j,aj,bm,rfl,bn,bo,aS,aT,A,C,aU,L,be⟩ ar;have cr:=hB.wf _ _ _ _ A;refine Loop.rule (λm x aJ=> ∃(d:Nat) (X:Int),x=(X,(d:Int),())/\aJ=J/\m=j.length-d/\d<=j.length/\((X= -1/\ ∀e l,e<d->j[e]? =some l->l= [])\/
   ∃n p u,X=(n:Nat)/\n<d/\j[n]? =some (p::u)/\ ∀e q y,e<d->j[e]? =some (q::y)->aI q.key p.key=false/\(e<n->aI p.key q.key=true))) ?_
   ⟨0,-1,rfl,rfl,rfl,by omega,.inl ⟨rfl,λe l f=>by omega⟩⟩
  rintro cs m _ aJ ⟨d,X,rfl,bU,rfl,O,aV⟩ aW;subst bU;have ct:=L.len;refine ab.intro (λr=>?_) (λr=>?_)
  ·have U:d<j.length:=by simp[C.len] at r;omega
   have F:=A2 U;have Y:=A2 (l:=z) (i:=d) (by omega);obtain⟨Z,bp,_⟩:=L.row d _ _ Y F;refine ah.mk λcu bq=>?_
   refine C.view.idx Y λcv _ bV=>?_
   refine AV.mk bV.sl ?_;refine ah.mk λbr bs=>?_
   have bt:((X= -1/\ ∀e l,e<d+1->j[e]? =some l->l= [])\/
     ∃n p u,X=(n:Nat)/\n<d+1/\j[n]? =some (p::u)/\ ∀e q y,e<d+1->j[e]? =some (q::y)->aI q.key p.key=false/\(e<n->aI p.key q.key=true))->br (false,()) aJ:=λG=>
    bs _ _ (ab.no rfl (bq _ _ (aW (j.length-(d+1)) _ _ (by omega) ⟨d+1,X,by rw[Ac (by omega)],rfl,rfl,by omega,G⟩)))
   have bu:(∃ n p u,(d:Int)=(n:Nat)/\n<d+1/\j[n]? =some (p::u)/\ ∀e q y,e<d+1->j[e]? =some (q::y)->aI q.key p.key=false/\(e<n->aI p.key q.key=true))->br (true,()) aJ:=λG=>
    bs _ _ (ab.yes rfl (bq _ _ (aW (j.length-(d+1)) _ _ (by omega) ⟨d+1,d,by rw[Ac (by omega)],rfl,rfl,by omega,.inr G⟩)))
   refine ab.intro (λr=>?_) (λr=>?_)
   ·cases ak:j[d] with
    |nil=>rw[ak] at Z;have:=Z.len;simp[this] at r
    |cons q y=>
     rw[ak] at Z F;rcases aV with⟨rfl,av⟩|⟨n,p,u,rfl,bv,ac,al⟩
     ·refine ab.yes (by simp) (bu ⟨d,q,y,rfl,by omega,F,λe am an A w=>?_⟩);rcases CD e d with h|h
      ·have:=av e _ h w;cases this
      ·have:e=d:=by omega
       subst this;rw[F] at w;cases w;exact⟨CV _,λf=>by omega⟩
     ·refine ab.no (by simp) ?_;refine Z.idx (i:=0) (x:=q) rfl λcw _ bW=>?_
      refine AL.mk bW.pair.1 ?_;have aw:=A2 (l:=z) (i:=n) (by omega);obtain⟨aX,_,_⟩:=L.row n _ _ aw ac;refine C.view.idx aw λbX _ aZ=>?_
      refine AV.mk aZ.sl ?_;refine aX.idx (i:=0) (x:=p) rfl λbY _ ax=>?_
      refine AL.mk ax.pair.1 ?_;cases aH:aI q.key p.key
      ·refine bt (.inr ⟨n,p,u,rfl,by omega,ac,λe am an A w=>?_⟩);rcases CD e d with h|h
       ·exact al e am an h w
       ·have:e=d:=by omega
        subst this;rw[F] at w;cases w;exact⟨aH,λf=>by omega⟩
      ·refine bu ⟨d,q,y,rfl,by omega,F,λe am an A w=>?_⟩;rcases CD e d with h|h
       ·have o:=(al e am an h w).1;have W:=nT aH o;exact⟨PX W,λ_=>W⟩
       ·have:e=d:=by omega
        subst this;rw[F] at w;cases w;exact⟨CV _,λf=>by omega⟩
   ·have ak:j[d]= []:=by
     have:=Z.len;cases ak:j[d] with
     |nil=>rfl
     |cons q y=>rw[ak] at this;simp[this] at r
    rw[ak] at F;refine bt ?_;rcases aV with⟨rfl,av⟩|⟨n,p,u,rfl,bv,ac,al⟩
    ·refine .inl ⟨rfl,λe l A w=>?_⟩;rcases CD e d with h|h
     ·exact av e l h w
     ·have:e=d:=by omega
      subst this;rw[F] at w;cases w;rfl
    ·refine .inr ⟨n,p,u,rfl,by omega,ac,λe am an A w=>?_⟩;rcases CD e d with h|h
     ·exact al e am an h w
     ·have:e=d:=by omega
      subst this;rw[F] at w;cases w
  ·have U:d=j.length:=by simp[C.len] at r;omega
   subst U;clear aW;rcases aV with⟨rfl,av⟩|⟨n,p,u,rfl,bv,ac,al⟩
   ·refine ab.yes (by simp) ?_;have:aj= []:=bm.ib λl ba=>by
     obtain⟨e,A,G⟩:=CM ba;exact av e l A (by grind)
    subst this;refine⟨rfl,i,true,D,aS,aT,A,λ_=>by omega,by omega⟩
   ·refine ab.no (by simp) ?_;have bZ: ∀e q y,j[e]? =some (q::y)->aI q.key p.key=false/\(e<n->aI p.key q.key=true):=λe q y N=>al e q y (List.getElem?_eq_some_iff.1 N).1 N
    obtain⟨bw,rfl,b0⟩:=bm.gk ac bZ;have aw:=A2 (l:=z) (i:=n) (by omega);obtain⟨aX,_,_⟩:=L.row n _ _ aw ac;refine C.view.idx aw λbX _ aZ=>?_
    refine AV.mk aZ.sl ?_;refine aX.idx (i:=0) (x:=p) rfl λbY _ ax=>?_
    refine AL.mk ax.pair.1 (AL.mk ax.pair.2.1 (Aa.mk ax.pair.2.2 ?_));refine ai.pair λb1 a0 cx b2 aK cy=>?_
    have b3:=C.ext aK;have b4:iX f.size a0 D t z j:=L.mod aK (λc _ _ _ _ f=>f) (λc _ f=>f) (λc _ f=>f);have b5:aM i true D a0:=hB.aX _ _ _ _ _ A (aK.ak (S':=λb=>¬D b/\f.size<=b) λ_ _ f=>f.elim);have b6:t.ag≠some b1:=λG=>by have:=C.lt G;omega
    refine Loop.rule (λm x Q=> ∃(d:Nat) (V:List Sl),x=((d:Int),())/\m=j.length-d/\d<=j.length/\Mod (λc=>t.ag=some c) a0 Q/\Own gW AR Q t V/\iX f.size Q D t V ((j.take d).map (JG p)++j.drop d)) ?_
     ⟨0,z,rfl,rfl,by omega,Mod.refl,b3,by simpa using b4⟩
    rintro cz m _ Q ⟨d,V,rfl,rfl,O,ay,ap,az⟩ b7;have b8:V.length=j.length:=by have:=az.len;simp at this;omega
    have aL:=ay.ag b2 b6;refine ab.intro (λr=>?_) (λr=>?_)
    ·have U:d<j.length:=by grind
     have Y:=A2 (l:=V) (i:=d) (by omega);have F:((j.take d).map (JG p)++j.drop d)[d]? =some j[d]:=by rw[Fo (by simp;omega)];simp;rw[DO (by omega),My];simp[U]
     obtain⟨Z,bp,cB⟩:=az.row d _ _ Y F;refine ap.view.idx Y λcC cD b9=>?_
     refine AV.mk b9.sl ?_;refine Loop.rule (λm x a1=> ∃(aA:Sl) (H:List Pr),x=(aA,())/\a1=Q/\m=H.length/\View Bg Q aA H/\(∀ c,aA.ag=some c->V[d].ag=some c)/\JG p H=JG p j[d]/\H.length<=1099511627776) ?_
      ⟨_,_,rfl,rfl,rfl,Z,λc f=>f,rfl,bp⟩
     rintro cE m _ a1 ⟨aA,H,rfl,ca,rfl,ae,a2,bx,bz⟩ cb;subst ca;refine ah.mk λcc bA=>?_
     have bC:JG p H=H->cc (false,()) a1:=λG=>bA _ _ (ab.no rfl (by
      refine ap.view.idx Y λcF cd _=>?_
      refine ap.jo (i:=d) (by omega) cd λce cf a3 cG=>?_
      refine b7 (j.length-(d+1)) _ _ (by omega) ⟨d+1,_,by rw[Ac (by omega)],rfl,by omega,ay.trans a3,cf,?_⟩;have a4:iX f.size ce D t V ((j.take d).map (JG p)++j.drop d):=az.mod a3 (λc _ _ O _=>O) (λc _ f=>f) (λc _ f=>f);refine⟨?_,λe sl l h o=>?_⟩
      ·simp[b8];omega
      ·rcases HN e d with a5|a5|a5
       ·rw[Hj (by omega)] at h;refine a4.row e sl l h ?_;rw[Hc (by simp;omega)] at o ⊢;rw[B9,A06 (by omega)] at o ⊢;exact o
       ·subst a5;rw[G4 (by omega)] at h;cases h;rw[Hc (by simp;omega),B9,A06 (by omega),A2 U] at o;simp at o;subst o;rw[<- bx,G];obtain⟨_,_,k⟩:=a4.row e _ _ Y F;exact⟨ae.mod a3 λc B=>(k c (a2 c B)).2.2.1,bz,λc B=>k c (a2 c B)⟩
       ·rw[Hj (by omega)] at h;refine a4.row e sl l h ?_;rw[Fo (by simp;omega)] at o ⊢;simp only[AT,Ax,By] at o ⊢;rw[<- o];congr 1;omega))
     refine ab.intro (λr=>?_) (λr=>?_)
     ·cases H with
      |nil=>have:=ae.len;simp[this] at r
      |cons q y=>
       refine ae.idx (i:=0) (x:=q) rfl λcH _ cg=>?_
       refine AL.mk cg.pair.1 (AL.mk (AO aL rfl) ?_);cases bD:(aI q.key p.key||bB q.key p.key)
       ·exact bC (by simp[JG,upto,bD])
       ·have ch:=ae.len;simp at ch bz;refine bA _ _ (ab.yes rfl ⟨⟨by omega,by show(1:Int)<=((aA.len:Nat):Int);omega⟩,cb y.length _ _ (by simp) ⟨_,y,rfl,rfl,rfl,?_,?_,?_,by omega⟩⟩)
        ·have:=ae.sub (lo:=1) (hi:=(q::y).length) (by simp) (A0 _);rw[CH,<-ae.len] at this;exact this
        ·intro c k;exact a2 c (rf k)
        ·rw[<- bx];simp[JG,upto,bD]
     ·have:H= []:=by
       have:=ae.len;cases H with
       |nil=>rfl
       |cons q y=>simp[this] at r
      subst this;exact bC rfl
    ·have U:d=j.length:=by simp[ap.len] at r;omega
     subst U;rw[CH,PC,AI] at az;refine AL.mk (AO aL rfl) (AL.mk (AB aL rfl) (Aa.mk (AB aL rfl) ?_));have ci:aM i true D Q:=hB.aX _ _ _ _ _ b5 (ay.ak λc _ k=>⟨aU c k,aq c k⟩);have cj:out[i]? =some p:=by have:=bn 0;simpa using this
     refine EM.mono (bM i p D Q cj ci) ?_;rintro _ ck ⟨g,a6,rfl,a7,a8,bE⟩;have cI:=ay.size;have cJ:=aS.size;have bF: ∀b,a6 b->R b\/f.size<=b:=λb B=>(a7 b B).elim (aT b) λcK=> .inr (by omega)
     have cl:Mod R f Q:=(aS.trans aK.mod).then (ay.ak λb _ B=> .inr (aq b B));have bG:Mod R f ck:=cl.then (a8.ak λb _ B=>aT b B);refine⟨g,rfl,ab.intro (λr=>?_) (λr=>?_)⟩
     ·have N:g=false:=by simpa using r
      subst N;exact⟨rfl,i+1,false,a6,bG,bF,bE,(λf=>by cases f),by simp at bo;omega⟩
     ·have N:g=true:=by simpa using r
      subst N;refine ar bw.length _ _ (by simp) ⟨i+1,a6,V,_,bw,b0,rfl,λn=>?_,by simp at bo;omega,bG,bF,bE,ap.mod a8 (λc k=>aU c k),?_,?_,by omega⟩
      ·have:=bn (n+1);rw[show i+1+n=i+(n+1) by omega,this];rfl
      ·intro c k o;rcases a7 c o with W|W
       ·exact aU c k W
       ·have:=ap.lt k;omega
      ·exact az.mod a8 (λc _ _ _ O=>O) (λc _ f=>f) (λc k o=>(a7 c o).elim id λW=>by omega)
def Sorted(l:List Pr):Prop:=l.Pairwise λa b=>aI a.key b.key=true
def Ab(a:A2Y)(l:List Pr):Option Pr:=l.find? λq=>decide (q.key=a)
theorem Rx(a:A2Y):Ab a []=none:=rfl
theorem BG(a:A2Y)(x:Pr)(l:List Pr):Ab a (x::l)=if x.key=a then some x else Ab a l:=by unfold Ab;rw[E0];by_cases b:x.key=a<;>simp[b]
theorem NM {b:A2Y}{l:List Pr}{x:Pr}(a:Ab b l=some x):x.key=b/\x∈l:=by unfold Ab at a;exact⟨by simpa using LR a,Is a⟩
theorem EQ {a:A2Y}{l:List Pr}(b: ∀x∈l,x.key≠a):Ab a l=none:=by unfold Ab;rw[GW];simpa using b
theorem Mk {a b:A2Y}(c:aI a b=true):a≠b:=by rintro rfl;rw[CV] at c;cases c
theorem Sorted.find {l:List Pr}(s:Sorted l){x:Pr}(a:x∈l):Ab x.key l=some x:=by
 induction l with
 |nil=>cases a
 |cons d l c=>
  rw[BG];have b:=List.pairwise_cons.1 s;rcases List.mem_cons.1 a with rfl|a
  ·simp
  ·rw[if_neg (Mk (b.1 x a))];exact c b.2 a
theorem Sorted.ext: ∀ {l m:List Pr},Sorted l->Sorted m->(∀ d,Ab d l=Ab d m)->l=m
 | [],[],_,_,_=>rfl
 | [],a::m,_,_,b=>by have:=b a.key;rw[BG,if_pos rfl] at this;cases this
 |x::l,[],_,_,b=>by have:=b x.key;rw[BG,if_pos rfl] at this;cases this
 |x::l,a::m,sl,p,b=>by
  have g:=List.pairwise_cons.1 sl;have h:=List.pairwise_cons.1 p;have f:x.key=a.key:=by
   have e:=b x.key;have n:=b a.key;rw[BG,if_pos rfl] at e;rw[BG a.key a m,if_pos rfl] at n;have i:=(NM e.symm).2;have j:=(NM n).2;rcases List.mem_cons.1 i with c|i
   ·rw[c]
   ·rcases List.mem_cons.1 j with c|j
    ·rw[c]
    ·have q:=h.1 x i;have o:=g.1 a j;rw[PX q] at o;cases o
  have r:x=a:=by have e:=b x.key;rw[BG,BG,if_pos rfl,if_pos f.symm] at e;exact Bk e
  subst r;rw[Sorted.ext g.2 h.2 λd=>?_];have:=b d;rw[BG,BG] at this;by_cases f:x.key=d
  ·subst f;rw[EQ λa k c=>Mk (g.1 a k) c.symm,EQ λa k c=>Mk (h.1 a k) c.symm]
  ·simpa [f] using this
def ins(x:Pr):List Pr->List Pr
 | []=> [x]
 |q::l=>if aI q.key x.key then q::ins x l else if q.key=x.key then x::l else x::q::l
theorem mQ(x:Pr): ∀l,Zq x l=ins x l
 | []=>rfl
 |q::l=>by
  unfold ins;cases b:aI q.key x.key
  ·have a:gS x.key (q::l)= []:=by simp[gS,b]
   by_cases c:q.key=x.key
   ·simp[Zq,aH,a,Az,c]
   ·simp[Zq,aH,a,Az,c]
  ·have a:gS x.key (q::l)=q::gS x.key l:=by simp[gS,b]
   have d:aH x.key (q::l)=aH x.key l+1:=by simp[aH,a]
   have f:Az x.key (q::l)=Az x.key l:=by simp[Az,d]
   have e:=mQ x l;unfold Zq at e ⊢;rw[d,f];have g:(if Az x.key l=true then aH x.key l+1+1 else aH x.key l+1)=(if Az x.key l=true then aH x.key l+1 else aH x.key l)+1:=by split<;>rfl
   rw[g,I0,HW,Dd,Dd,e];simp
theorem rl {x b:Pr}: ∀ {l:List Pr},b∈ins x l->b=x\/b∈l
 | [],a=>by simp[ins] at a;exact .inl a
 |q::l,a=>by
  unfold ins at a;split at a
  ·rcases List.mem_cons.1 a with rfl|a
   ·exact .inr (by simp)
   ·rcases rl a with a|a
    ·exact .inl a
    ·exact .inr (by simp[a])
  ·split at a
   ·rcases List.mem_cons.1 a with rfl|a
    ·exact .inl rfl
    ·exact .inr (by simp[a])
   ·rcases List.mem_cons.1 a with rfl|a
    ·exact .inl rfl
    ·exact .inr a
theorem Yj(x:Pr): ∀ {l:List Pr},Sorted l->Sorted (ins x l)
 | [],_=>Pa _ _
 |q::l,s=>by
  have b:=List.pairwise_cons.1 s;unfold ins;split
  ·rename_i d;refine List.pairwise_cons.2 ⟨λc a=>?_,Yj x b.2⟩;rcases rl a with rfl|a
   ·exact d
   ·exact b.1 c a
  ·rename_i d;split
   ·rename_i e;refine List.pairwise_cons.2 ⟨λc a=>?_,b.2⟩;have:=b.1 c a;rwa [e] at this
   ·rename_i e;have f:aI x.key q.key=true:=by
     cases g:aI x.key q.key
     ·exact absurd (NW (by simpa using d) g) e
     ·rfl
    refine List.pairwise_cons.2 ⟨λc a=>?_,s⟩;rcases List.mem_cons.1 a with rfl|a
    ·exact f
    ·exact DW f (b.1 c a)
theorem ZP(x:Pr)(a:A2Y): ∀ {l:List Pr},Sorted l->Ab a (ins x l)=if x.key=a then some x else Ab a l
 | [],_=>by simp[ins,BG,Rx]
 |q::l,s=>by
  have c:=List.pairwise_cons.1 s;unfold ins;split
  ·rename_i d;rw[BG,BG,ZP x a c.2];by_cases b:q.key=a
   ·have e:x.key≠a:=by rw[<- b];exact λf=>Mk d f.symm
    simp[b,e]
   ·simp[b]
  ·split
   ·rename_i g;rw[BG,BG,g];by_cases b:x.key=a<;>simp[b]
   ·rw[BG]
def BN(l:List Pr):Prop:= ∀x∈l,Ah x=0
theorem SV {x:Pr}{l:List Pr}(a:Ah x=0):Bw x l=ins x l:=by simp[Bw,a,mQ]
theorem Qq {x:Pr}{l:List Pr}(s:Sorted l):Sorted (Bw x l):=by
 by_cases a:Ah x=0
 ·rw[SV a];exact Yj x s
 ·simpa [Bw,a] using s
theorem xX {x:Pr}{l:List Pr}(g:BN l):BN (Bw x l):=by
 by_cases a:Ah x=0
 ·rw[SV a];exact λb c=>(rl c).elim (λd=>d▸a) (g b)
 ·simpa [Bw,a] using g
def BJ(t l:List Pr):List Pr:=l.foldl (λt x=>Bw x t) t
theorem ZC {l:List Pr}: ∀ {t},Sorted t->Sorted (BJ t l):=by
 induction l with
 |nil=>exact λs=>s
 |cons x l a=>exact λs=>a (Qq s)
theorem tG {l:List Pr}: ∀ {t},BN t->BN (BJ t l):=by
 induction l with
 |nil=>exact λs=>s
 |cons x l a=>exact λs=>a (xX s)
theorem pE {l:List Pr}: ∀ {t},(BJ t l).length<=t.length+l.length:=by
 induction l with
 |nil=>exact λ{t}=>by simp[BJ]
 |cons x l a=>intro t;have:=a (t:=Bw x t);have:=AQY x t;simp[BJ] at *;omega
theorem AMg {l:List Pr}(a:A2Y): ∀ {t},Sorted t->Sorted l->BN l->Ab a (BJ t l)=(Ab a l).or (Ab a t):=by
 induction l with
 |nil=>intro t _ _ _;simp[BJ,Rx]
 |cons x l f=>
  intro t st sl g;have d:=List.pairwise_cons.1 sl;show Ab a (BJ (Bw x t) l)=_;rw[f (Qq st) d.2 (λb c=>g b (by simp[c])),SV (g x (by simp)),ZP x a st,BG];by_cases e:x.key=a
  ·subst e;rw[EQ λb c h=>Mk (d.1 b c) h.symm];simp
  ·simp[e]
def Af(a:List (List Pr)):List Pr:=a.reverse.foldl BJ []
theorem O8(l:List Pr)(a:List (List Pr)):Af (l::a)=BJ (Af a) l:=by simp[Af,GP]
theorem EI: ∀a,Sorted (Af a)
 | []=>List.Pairwise.nil
 |l::a=>by rw[O8];exact ZC (EI a)
structure ba (ls:List (List Pr)):Prop where
 sorted: ∀l∈ls,Sorted l
 aJ: ∀l∈ls,BN l
def Ak(a:A2Y)(b:List (List Pr)):Option Pr:=b.findSome? (Ab a)
theorem EX(a:A2Y)(l:List Pr)(b:List (List Pr)):Ak a (l::b)=(Ab a l).or (Ak a b):=by unfold Ak;rw[RK];cases Ab a l<;>rfl
theorem MI(b:A2Y): ∀ {a},ba a->Ab b (Af a)=Ak b a
 | [],_=>rfl
 |l::a,c=>by
  rw[O8,AMg b (EI a) (c.sorted l (by simp)) (c.aJ l (by simp)),MI b ⟨λm d=>c.sorted m (by simp[d]),λm d=>c.aJ m (by simp[d])⟩,EX]
theorem We(p:Pr)(l:List Pr):(JG p l).Sublist l:=List.dropWhile_sublist _
theorem ALr {p q:Pr}(a:upto p q=false):aI p.key q.key=true:=by
 unfold upto at a;rw[Bl] at a;simp at a;cases b:aI p.key q.key
 ·exact absurd (NW a.1 b) a.2
 ·rfl
theorem AOy {p q:Pr}(a:upto p q=true):aI p.key q.key=false:=by
 unfold upto at a;rw[Bl] at a;simp at a;rcases a with a|a
 ·exact PX a
 ·rw[a];exact CV _
theorem rm {p q:Pr}: ∀ {l:List Pr},Sorted l->q∈JG p l->aI p.key q.key=true
 | [],_,a=>by cases a
 |y::l,s,a=>by
  have b:=List.pairwise_cons.1 s;unfold JG at a;rw[List.dropWhile_cons] at a;split at a
  ·exact rm b.2 a
  ·rename_i d;have c:=ALr (p:=p) (q:=y) (by simpa using d);rcases List.mem_cons.1 a with rfl|a
   ·exact c
   ·exact DW c (b.1 q a)
theorem xY {p:Pr}{a:A2Y}(b:aI p.key a=true): ∀ {l:List Pr},Ab a (JG p l)=Ab a l
 | []=>rfl
 |y::l=>by
  unfold JG;rw[List.dropWhile_cons];split
  ·rename_i d;have c:=AOy d;rw[BG,if_neg (by rintro rfl;rw[b] at c;cases c)];exact xY b
  ·rfl
theorem Mx.ok {a:List (List Pr)}{out:List Pr}(m:Mx a out):(∀ l∈a,Sorted l)->Sorted out/\ ∀b,Ab b out=Ak b a:=by
 induction m with
 |done f=>
  rename_i a;intro _;refine⟨List.Pairwise.nil,λb=>?_⟩;have: ∀a:List (List Pr),(∀ l∈a,l= [])->Ak b a=none:=λa f=>by
   unfold Ak;rw[RM];intro l d;rw[f l d];rfl
  rw[this a f];rfl
 | @step a b p t out F C y r=>
  intro g;have G: ∀l∈a.map (JG p),Sorted l:=λl d=>by
   obtain⟨n,s,rfl⟩:=List.mem_map.1 d;exact(g n s).sublist (We p n)
  obtain⟨D,E⟩:=r G;have H: ∀q∈out,aI p.key q.key=true:=λq o=>by
   have e:=D.find o;rw[E] at e;unfold Ak at e;obtain⟨l,d,j⟩:=A08 e;obtain⟨n,s,rfl⟩:=List.mem_map.1 d;exact rm (g n s) (NM j).2
  refine⟨List.pairwise_cons.2 ⟨H,D⟩,λc=>?_⟩;have I: ∀l∈a,∀q∈l,aI q.key p.key=false:=λl d q o=>by
   obtain⟨h,v,i⟩:=CM d;cases l with
   |nil=>cases o
   |cons w u=>
    have e:=(C h w u (by rw[A2 v,i])).1;have z:=List.pairwise_cons.1 (g _ d);rcases List.mem_cons.1 o with rfl|o
    ·exact e
    ·cases j:aI q.key p.key
     ·rfl
     ·have:=DW (z.1 q o) j;rw[this] at e;cases e
  rw[BG];by_cases A:p.key=c
  ·subst A;simp only[if_true];have: ∀(a:List (List Pr)) (b:Nat),a[b]? =some (p::t)->(∀ h q u,a[h]? =some (q::u)->h<b->aI p.key q.key=true)->(∀ l∈a,Sorted l)->Ak p.key a=some p:=by
    intro a
    induction a with
    |nil=>intro b f;simp at f
    |cons l a r=>
     intro b f y g;rw[EX];cases b with
     |zero=>simp at f;subst f;rw[BG,if_pos rfl];rfl
     |succ b=>
      have J:Ab p.key l=none:=by
       cases l with
       |nil=>rfl
       |cons w u=>
        have e:=y 0 w u rfl (by omega);have z:=List.pairwise_cons.1 (g _ (by simp:(w::u)∈(w::u)::a));refine EQ λx k i=>?_
        rcases List.mem_cons.1 k with rfl|k
        ·rw[i,CV] at e;cases e
        ·have:=DW e (z.1 x k);rw[i,CV] at this;cases this
      rw[J,LS];exact r b (by simpa using f) (λh q u v M=>y (h+1) q u (by simpa using v) (by omega)) (λl d=>g l (by simp[d]))
   rw[this a b F (λh q u v=>(C h q u v).2) g]
  ·rw[if_neg A,E];unfold Ak;cases j:aI p.key c
   ·
    have B:aI c p.key=true:=by
     cases B:aI c p.key
     ·exact absurd (NW j B) A
     ·rfl
    have K:(a.map (JG p)).findSome? (Ab c)=none:=by
     rw[RM];intro l d;obtain⟨n,s,rfl⟩:=List.mem_map.1 d;refine EQ λx k i=>?_
     have:=rm (g n s) k;rw[i,j] at this;cases this
    have L:a.findSome? (Ab c)=none:=by
     rw[RM];intro l d;refine EQ λx k i=>?_
     have:=I l d x k;rw[i,B] at this;cases this
    rw[K,L]
   ·have: ∀a:List (List Pr),(a.map (JG p)).findSome? (Ab c)=a.findSome? (Ab c):=λa=>by
     induction a with
     |nil=>rfl
     |cons l a r=>rw[C5,RK,RK,xY j,r]
    rw[this]
theorem Vy: ∀(d:List (List Pr)),(∀ l∈d,l= [])\/ ∃(e:Nat) (p:Pr) (t:List Pr),d[e]? =some (p::t)/\ ∀(a:Nat) (q:Pr) (u:List Pr),d[a]? =some (q::u)->aI q.key p.key=false/\(a<e->aI p.key q.key=true)
 | []=> .inl λl c=>by cases c
 |l::d=>by
  cases l with
  |nil=>
   rcases Vy d with c|⟨e,p,t,h,f⟩
   ·refine .inl λl i=>?_
    rcases List.mem_cons.1 i with rfl|i
    ·rfl
    ·exact c l i
   ·refine .inr ⟨e+1,p,t,by simpa using h,λa q u b=>?_⟩;cases a with
    |zero=>simp at b
    |succ a=>have:=f a q u (by simpa using b);exact⟨this.1,λc=>this.2 (by omega)⟩
  |cons j u=>
   rcases Vy d with c|⟨e,p,t,h,f⟩
   ·refine .inr ⟨0,j,u,rfl,λa q g b=>⟨?_,λc=>by omega⟩⟩;cases a with
    |zero=>simp at b;rw[b.1];exact CV _
    |succ a=>have:=c _ (AG (by simpa using b));cases this
   ·cases k:aI p.key j.key
    ·refine .inr ⟨0,j,u,rfl,λa q g b=>⟨?_,λc=>by omega⟩⟩;cases a with
     |zero=>simp at b;rw[b.1];exact CV _
     |succ a=>exact rk k (f a q g (by simpa using b)).1
    ·refine .inr ⟨e+1,p,t,by simpa using h,λa q g b=>?_⟩;cases a with
     |zero=>simp at b;rw[<- b.1];exact⟨PX k,λ_=>k⟩
     |succ a=>have:=f a q g (by simpa using b);exact⟨this.1,λc=>this.2 (by omega)⟩
def total(a:List (List Pr)):Nat:=(a.map List.length).sum
theorem ZM(p:Pr): ∀a,total (a.map (JG p))<=total a
 | []=>A0 _
 |l::a=>by
  have:=ZM p a;have:=(We p l).length_le;simp[total] at *;omega
theorem xZ {p:Pr}{t:List Pr}: ∀ {ls:List (List Pr)} {k:Nat},ls[k]? =some (p::t)->total (ls.map (JG p))<total ls
 | [],k,a=>by simp at a
 |l::ls,0,a=>by
  simp at a;subst a;have b:=ZM p ls;have c:=(We p t).length_le;have d:JG p (p::t)=JG p t:=by simp[JG,upto,Bl]
  simp only[total,C5,KB,d,An] at*
  omega
 |l::ls,k+1,a=>by
  have b:=xZ (p:=p) (t:=t) (ls:=ls) (k:=k) (by simpa using a);have c:=(We p l).length_le;simp only[total,C5,KB] at*
  omega
theorem AGq(a:List (List Pr)): ∃out,Mx a out/\out.length<=total a:=by
 generalize h:total a=b
 induction b using Nat.strongRecOn generalizing a with
 |_ b d=>
  rcases Vy a with e|⟨i,p,t,c,f⟩
  ·exact⟨[],.done e,by simp⟩
  ·have j:=xZ c;obtain⟨out,g,k⟩:=d _ (by omega) (a.map (JG p)) rfl;exact⟨p::out,.step c f g,by simp;omega⟩
theorem AMH {t l:List Pr}{a:Nat}{x:Pr}(b:l[a]? =some x):BJ t (l.take (a+1))=Bw x (BJ t (l.take a)):=by rw[AE,b];simp only[BJ,GP,DM,Hk,N4]
theorem VD: ∀a,(Af a).length<=total a
 | []=>A0 _
 |l::a=>by
  rw[O8];have:=VD a;have:=pE (l:=l) (t:=Af a);simp[total] at *;omega
theorem Zb: ∀a,BN (Af a)
 | []=>λ_ b=>by cases b
 |l::a=>by rw[O8];exact tG (Zb a)
theorem AL7(l:List Pr)(a:List (List Pr)):total (l::a)=l.length+total a:=by simp[total]
def tK(f:ao)(d:Nat->Prop)(a:aa)(s:Sl)(e:List (List Pr)):Prop:=
 ∃b,View jK a s b/\(∀ c,s.ag=some c->c<a.size/\ ¬d c)/\b.length=e.length/\ ∀(i:Nat) (v:gX) (l:List Pr),b[i]? =some v->e[i]? =some l->(v.v= .nilFunc/\l= [])\/(Ee f P v.v (λc=>c<a.size/\ ¬d c) a l/\l.length<=1099511627776)
end Go.Lf.G.M
namespace Go.Lf
open G
theorem Ee.later {f:ao}{d:Nat->Prop}{fv:J0}{b e:aa}{l:List Pr}(h:Ee f P fv (λc=>c<b.size/\ ¬d c) b l){g:Nat->Prop}(x:Mod g b e)(i: ∀c,c<b.size->g c->d c):Ee f P fv (λc=>c<e.size/\ ¬d c) e l:=
 h.ak (λc a=>⟨by have:=x.size;omega,a.2⟩) (λc a=>a.1) λc a=>x.get c a.1 λj=>a.2 (i c a.1 j)
end Go.Lf
namespace Go.Lf.G.M
open Go Go.Lf Go.Lf.G
theorem tB {o:ao}{j:Nat->Prop}{a:aa}{s:Sl}{ls:List (List Pr)}{x:A2X}(q:tK o j a s ls)(hX: ∀c,j c->c<a.size)(t:ls.length<=1099511627776)(u:ba ls)
  (y: ∀fv k,Ee o P fv (λc=>c<k.size/\ ¬j c) k (Af ls)->Ext a k->k.size=a.size+1->x fv k):AA o P Qi #[J4 s.p s.len s.cap] a x:=by
 obtain⟨p,v,z,w,A⟩:=q;refine AIm ?_;unfold xp;refine ai.mk λf _ B r C=>?_
 have G: ∃os:List (Option (List Pr)),os.length=p.length/\(∀ (i:Nat) (v:gX),p[i]? =some v->(v.v= .nilFunc/\os[i]? =some none)\/ ∃l,os[i]? =some (some l)/\Ee o P v.v (λc=>c<a.size/\ ¬j c) a l/\l.length<=1099511627776)/\
   (∀ l,l∈os.filterMap id->l∈ls)/\ ∀b,Ak b (os.filterMap id)=Ak b ls:=by
  clear v hX t u y B r C z
  induction p generalizing ls with
  |nil=>
   have:ls= []:=CN w.symm;subst this;exact⟨[],rfl,λi v a=>by simp at a,λl a=>by simp at a,λb=>rfl⟩
  |cons v p H=>
   cases ls with
   |nil=>simp at w
   |cons l ls=>
    obtain⟨os,f,g,D,E⟩:=H (ls:=ls) (by simpa using w) (λi v l f g=>A (i+1) v l (by simpa using f) (by simpa using g));rcases A 0 v l rfl rfl with⟨h,n⟩|⟨h,n⟩
    ·refine⟨none::os,by simp[f],λi v hi=>?_,λm d=>?_,λb=>?_⟩
     ·cases i with
      |zero=>simp at hi;subst hi;exact .inl ⟨h,rfl⟩
      |succ i=>exact g i v (by simpa using hi)
     ·simp at d;exact AH _ (D m (by simpa using d))
     ·subst n;rw[EX];simpa [Rx] using E b
    ·refine⟨some l::os,by simp[f],λi v hi=>?_,λm d=>?_,λb=>?_⟩
     ·cases i with
      |zero=>simp at hi;subst hi;exact .inr ⟨l,rfl,h,n⟩
      |succ i=>exact g i v (by simpa using hi)
     ·simp at d;rcases d with rfl|d
      ·simp
      ·exact AH _ (D m (by simpa using d))
     ·rw[EX,Wf];simp only[id];rw[EX,E b]
 obtain⟨os,I,J,K,L⟩:=G;obtain⟨out,d,_⟩:=AGq (os.filterMap id);have M:out=Af ls:=by
  have F:=d.ok λl t=>u.sorted l (K l t)
  exact F.1.ext (EI ls) λb=>by rw[F.2 b,L b,MI b u]
 subst M;refine y _ f ((AUD (S:=λc=>c<a.size/\ ¬j c) B (v.ext r) (by omega) I (λi v hi=>?_) d (λc e=>by omega)).ak ?_ (λc e=>e.1) (λc _=>rfl)) r C
 ·rcases J i v hi with h|⟨l,h,n,N⟩
  ·exact .inl h
  ·exact .inr ⟨l,h,n.ak (λc e=>e) (λc e=>by omega) (λc e=>r.get c e.1 (λa=>a)),N⟩
 ·rintro c (e|⟨f,g⟩)
  ·exact⟨by omega,e.2⟩
  ·refine⟨f,?_⟩;rcases g with rfl|g
   ·intro a;have:=hX _ a;omega
   ·exact(z c g).2
theorem Ri(a:A2Y)(b c:List (List Pr)):Ak a (b++c)=(Ak a b).or (Ak a c):=by unfold Ak;rw[List.findSome?_append]
theorem MV(a:A2Y)(l m:List Pr):Ab a (l++m)=(Ab a l).or (Ab a m):=by unfold Ab;rw[List.find?_append]
structure Dl where
 ag:Nat
 pr:Pr
 ht:Nat
def cM(nx:Nat->Q2):List J0:=(List.range 12).map λi=>J5 (nx i)
def Fb(p:Pr)(nx:Nat->Q2):Array J0:=(([J7 p.key,J7 p.val,J3 p.gone]:List J0)++cM nx).toArray
def Dt(nx:Nat->Q2)(a b:Int):Array J0:=(([J7 ⟨#[]⟩,J7 ⟨#[]⟩,J3 false]:List J0)++cM nx++([J6 J9 a,J6 J9 b]:List J0)).toArray
theorem BZ(nx:Nat->Q2):(cM nx).length=12:=by simp[cM]
theorem VL {nx:Nat->Q2}{i:Nat}(hi:i<12):(cM nx)[i]? =some (J5 (nx i)):=by simp[cM,hi]
theorem rh {nx:Nat->Q2}{i:Nat}(v:Q2):(cM nx).set i (J5 v)=cM (λa=>if a=i then v else nx a):=by
 refine List.ext_getElem? λa=>?_
 by_cases b:a<12
 ·rw[MT,VL b,VL b,BZ];by_cases c:i=a
  ·subst c;simp[b]
  ·simp[c,Ne.symm c]
 ·rw[Mn (by simp[BZ];omega),Mn (by simp[BZ];omega)]
theorem AQa {p:Pr}{nx:Nat->Q2}{i:Nat}(hi:i<12):(Fb p nx)[3+i]? =some (J5 (nx i)):=by simp only[Fb,Kp];rw[Fo (by simp)];simpa using VL hi
theorem AQ7 {nx:Nat->Q2}{a b:Int}{i:Nat}(hi:i<12):(Dt nx a b)[3+i]? =some (J5 (nx i)):=by simp only[Dt,Kp];rw[A4,Fo (by simp),Hc (by simp[BZ];omega)];simpa using VL hi
theorem lH {nx:Nat->Q2}{a b:Int}:(Dt nx a b)[15]? =some (J6 J9 a)/\(Dt nx a b)[16]? =some (J6 J9 b):=by
 simp only[Dt,Kp];constructor
 ·rw[Fo (by simp[BZ])];simp[BZ]
 ·rw[Fo (by simp[BZ])];simp[BZ]
theorem Sq {p:Pr}{nx:Nat->Q2}:(Fb p nx).size=15:=by simp[Fb,BZ]
theorem cO {nx:Nat->Q2}{a b:Int}:(Dt nx a b).size=17:=by simp[Dt,BZ]
theorem xR {p:Pr}{nx:Nat->Q2}{i:Nat}(v:Q2):(Fb p nx).setIfInBounds (3+i) (J5 v)=Fb p (λa=>if a=i then v else nx a):=by apply Array.toList_inj.1;rw[DQ];simp only[Fb,MY];rw[HS _ _ (by simp),<-rh v];simp
theorem ARk {nx:Nat->Q2}{a b:Int}{i:Nat}(hi:i<12)(v:Q2):(Dt nx a b).setIfInBounds (3+i) (J5 v)=Dt (λc=>if c=i then v else nx c) a b:=by apply Array.toList_inj.1;rw[DQ];simp only[Dt,MY];rw[A4,HS _ _ (by simp),Zs _ _ (by simp[BZ];omega),<-rh v];simp
theorem AO4 {nx:Nat->Q2}{c a b:Int}:(Dt nx c a).setIfInBounds 15 (J6 J9 b)=Dt nx b a:=by apply Array.toList_inj.1;rw[DQ];simp only[Dt,MY];rw[HS _ _ (by simp[BZ])];simp[BZ]
theorem xS {nx:Nat->Q2}{a c b:Int}:(Dt nx a c).setIfInBounds 16 (J6 J9 b)=Dt nx a b:=by apply Array.toList_inj.1;rw[DQ];simp only[Dt,MY];rw[HS _ _ (by simp[BZ])];simp[BZ]
theorem Cw {a:aa}{b i:Nat}{l:Nat->Q2}{T:Q7}{fr:Nat×Nat}(c:a[b]? =some (J2 (cM l).toArray T fr))(hi:i<12):af a ⟨b,i,none⟩=some (J5 (l i)):=by rw[Gs c,Kp];exact VL hi
def addrAt(t:Nat)(ns:List Dl)(p:Nat):Q6:=match p with|0=>⟨t,0,none⟩|p+1=>match ns[p]? with|some x=>⟨x.ag,0,none⟩|none=>⟨t,0,none⟩
def Uj(ns:List Dl)(p:Nat):Nat:=match p with|0=>12|p+1=>match ns[p]? with|some x=>x.ht|none=>0
def DR(i:Nat)(l:List Dl):Q2:=(l.find? λx=>decide (i<x.ht)).map λx=>⟨x.ag,0,none⟩
def dj(t:Nat)(ns:List Dl)(b:Nat):Prop:=b=t\/ ∃x∈ns,x.ag=b
structure Lay (h:aa) (t:Nat) (ns:List Dl) (nx:Nat->Nat->Q2) (n sz:Int):Prop where
 head:h[t]? =some (J2 (Dt (nx 0) n sz) y7 (0,0))
 node: ∀(j:Nat) (x:Dl),ns[j]? =some x->h[x.ag]? =some (J2 (Fb x.pr (nx (j+1))) TB (0,0))/\x.ag≠t
 apart:ns.Pairwise λx y=>x.ag≠y.ag
structure kG (ns:List Dl) (nx:Nat->Nat->Q2):Prop where
 link: ∀p i,p<=ns.length->i<12->i<Uj ns p->nx p i=DR i (ns.drop p)
 ht: ∀x∈ns,1<=x.ht/\x.ht<=12
theorem Lay.mod {c d:aa}{t:Nat}{ns:List Dl}{nx:Nat->Nat->Q2}{e f:Int}{g:Nat->Prop}(l:Lay c t ns nx e f)(m:Mod g c d)(h: ∀b,dj t ns b-> ¬g b):Lay d t ns nx e f:=
 ⟨m.ag l.head (h _ (.inl rfl)),λi x a=>⟨m.ag (l.node i x a).1 (h _ (.inr ⟨x,AG a,rfl⟩)),(l.node i x a).2⟩,l.apart⟩
theorem Lay.ext {a b:aa}{t:Nat}{ns:List Dl}{nx:Nat->Nat->Q2}{c d:Int}(l:Lay a t ns nx c d)(m:Ext a b):Lay b t ns nx c d:=l.mod m λ_ _ a=>a
theorem Lay.lt {a:aa}{t:Nat}{ns:List Dl}{nx:Nat->Nat->Q2}{c d:Int}(l:Lay a t ns nx c d){b:Nat}(e:dj t ns b):b<a.size:=by
 rcases e with rfl|⟨x,f,rfl⟩
 ·exact Ai l.head
 ·obtain⟨g,h,i⟩:=CM f;exact Ai (l.node g x (by rw[A2 h,i])).1
theorem Lay.next {a:aa}{t:Nat}{ns:List Dl}{nx:Nat->Nat->Q2}{c d:Int}(l:Lay a t ns nx c d){p i:Nat}(f:p<=ns.length)(hi:i<12):af a (((addrAt t ns p).add 3).add (i*1))=some (J5 (nx p i)):=by
 rw[add_add,AN];cases p with
 |zero=>show af a ((⟨t,0,none⟩:Q6).add (3+i))=_;exact AB l.head (AQ7 hi)
 |succ p=>
  have b:=A2 (l:=ns) (i:=p) (by omega);have e:addrAt t ns (p+1)=⟨ns[p].ag,0,none⟩:=by simp[addrAt,b]
  rw[e];exact AB (l.node p _ b).1 (AQa hi)
theorem Lay.pair {a:aa}{t:Nat}{ns:List Dl}{nx:Nat->Nat->Q2}{d e:Int}(l:Lay a t ns nx d e){c:Nat}{x:Dl}(f:ns[c]? =some x):
  af a ⟨x.ag,0,none⟩=some (J7 x.pr.key)/\af a ((⟨x.ag,0,none⟩:Q6).add 1)=some (J7 x.pr.val)/\af a ((⟨x.ag,0,none⟩:Q6).add 2)=some (J3 x.pr.gone):=by
 have b:=(l.node c x f).1;exact⟨AO b rfl,AB b rfl,AB b rfl⟩
theorem AJD {i:Nat}{l:List Dl}{a:Q6}(b:DR i l=some a): ∃e x,l[e]? =some x/\a=⟨x.ag,0,none⟩/\i<x.ht/\ ∀(c:Nat) (d:Dl),c<e->l[c]? =some d->d.ht<=i:=by
 induction l with
 |nil=>simp[DR] at b
 |cons x l h=>
  unfold DR at b;rw[E0] at b;by_cases f:i<x.ht
  ·simp[f] at b;exact⟨0,x,rfl,b.symm,f,λc d j=>by omega⟩
  ·simp[f] at b;obtain⟨e,d,k,m,n,o⟩:=h (by simpa [DR] using b);refine⟨e+1,d,by simpa using k,m,n,λc z j g=>?_⟩;cases c with
   |zero=>simp at g;subst g;omega
   |succ c=>exact o c z (by omega) (by simpa using g)
theorem ZU {i:Nat}{l:List Dl}(a:DR i l=none): ∀x∈l,x.ht<=i:=by intro x b;simp[DR] at a;exact a x b
theorem AIP {i:Nat}{l:List Dl}{k:Nat}(c:k<=l.length)(d: ∀(a:Nat) (b:Dl),a<k->l[a]? =some b->b.ht<=i):DR i l=DR i (l.drop k):=by
 induction k generalizing l with
 |zero=>simp
 |succ k e=>
  cases l with
  |nil=>simp at c
  |cons x l=>
   have f:=d 0 x (by omega) rfl;rw[HW,<-e (by simpa using c) λa b h g=>d (a+1) b (by omega) (by simpa using g)];unfold DR;rw[E0];simp[Nat.not_lt.2 f]
abbrev bX(ns:List Dl):List Pr:=ns.map (·.pr)
theorem pD {key:A2Y}: ∀ {l:List Pr},Sorted l-> ∀ {j:Nat} {x:Pr},l[j]? =some x->(j<aH key l↔aI x.key key=true)
 | [],_,j,x,a=>by simp at a
 |y::l,s,j,x,a=>by
  have d:=List.pairwise_cons.1 s;by_cases b:aI y.key key=true
  ·have c:aH key (y::l)=aH key l+1:=by simp[aH,gS,b]
   rw[c];cases j with
   |zero=>simp at a;subst a;simp[b]
   |succ j=>
    have:=pD (key:=key) d.2 (j:=j) (x:=x) (by simpa using a);rw[<- this];omega
  ·have c:aH key (y::l)=0:=by simp[aH,gS,b]
   rw[c];cases j with
   |zero=>simp at a;subst a;simp[b]
   |succ j=>
    have f:x∈l:=AG (by simpa using a);have g:=d.1 x f;constructor
    ·intro e;omega
    ·intro e;exact absurd (DW g e) b
structure Wp (ns:List Dl) (key:A2Y) (i p:Nat):Prop where
 le:p<=aH key (bX ns)
 ht:i<Uj ns p
 last: ∀(j:Nat) (y:Dl),p<=j->j<aH key (bX ns)->ns[j]? =some y->y.ht<=i
theorem Z0(key:A2Y)(ns:List Dl):aH key (bX ns)<=ns.length:=by have:=mP key (bX ns);simpa using this
theorem Ih {a:Array J0}(l:Nat->Q2)(c:a=(cM l).toArray)(i:Nat)(v:Q2):a.setIfInBounds i (J5 v)=(cM (λb=>if b=i then v else l b)).toArray:=by subst c;apply Array.toList_inj.1;rw[DQ];exact rh v
theorem APA {a:Nat}(b:a<100):J8 J9 (((a+1:Nat):Int)-(1:Int))=(a:Int):=by rw[show(((a+1:Nat):Int)-1)=(a:Int) by omega];exact Fz (by omega)
set_option maxHeartbeats 400000 in
theorem ri {an:ao}{g:aa}{t:Nat}{ns:List Dl}{nx:Nat->Nat->Q2}{ap aq:Int}{key:A2Y}{G:A2X}(ar:Lay g t ns nx ap aq)(K:kG ns nx)(s:Sorted (bX ns))
  (au: ∀(q:Nat->Nat) H,(∀ i,i<12->Wp ns key i (q i))->Ext g H->G (.agg #[J5 (some (addrAt t ns (q 0))),J5 (some (addrAt t ns (q 1))),J5 (some (addrAt t ns (q 2))),J5 (some (addrAt t ns (q 3))),J5 (some (addrAt t ns (q 4))),J5 (some (addrAt t ns (q 5))),J5 (some (addrAt t ns (q 6))),J5 (some (addrAt t ns (q 7))),J5 (some (addrAt t ns (q 8))),J5 (some (addrAt t ns (q 9))),J5 (some (addrAt t ns (q 10))),J5 (some (addrAt t ns (q 11)))]) H):
  AA an P GK #[J5 (some ⟨t,0,none⟩),J7 key] g G:=by
 refine XN ?_;unfold Pw;refine ai.mk λj _ av I a2=>ai.mk λn _ aw J a3=>?_
 have ax:Ext g n:=I.trans J;have a4:=Z0 key ns;refine Loop.rule (λm x o=> ∃(p:Nat) (q:Nat->Nat) (l:Nat->Q2),x=(some (addrAt t ns p),(m:Int)-1,())/\m<=12/\Mod (λc=>c=j.size) n o/\p<=aH key (bX ns)/\(m=0\/m<=Uj ns p)/\
   o[j.size]? =some (J2 (cM l).toArray EJ (0,0))/\(∀ i,i<12->m<=i->Wp ns key i (q i)/\l i=some (addrAt t ns (q i)))) ?_
  (m:=12) ⟨0,λ_=>0,λ_=>none,rfl,by omega,Mod.refl,by omega,.inr (by simp[Uj]),aw,λi j n=>by omega⟩
 rintro a5 m _ o ⟨p,q,l,rfl,a6,B,w,y,d,b⟩ ay;have L:Ext g o:=ax.then (B.ak λc _ v=> .inr (by have:=I.size;omega));refine ab.intro (λv=>?_) (λv=>?_)
 ·cases m with
  |zero=>simp at v
  |succ i=>
   have hi:i<12:=by omega
   have az:(((i+1:Nat):Int)-1)=(i:Int):=by omega
   rw[az];have M:=ar.ext L;refine Loop.rule (λm x z=> ∃p:Nat,x=(some (addrAt t ns p),())/\z=o/\m=aH key (bX ns)-p/\p<=aH key (bX ns)/\i<Uj ns p) ?_ ⟨p,rfl,rfl,rfl,w,by rcases y with g|g<;>omega⟩;rintro a7 m _ z ⟨p,rfl,aA,rfl,w,y⟩ aC;subst aA;have C:nx p i=DR i (ns.drop p):=K.link p i (by omega) hi y;have af:=M.next (p:=p) (i:=i) (by omega) hi;refine ah.mk λaD N=>?_
   have A:(0:Int)<=(i:Int)/\(i:Int)<(12:Int):=⟨by omega,by omega⟩;have O:(∀ (h:Nat) (r:Dl),p<=h->h<aH key (bX ns)->ns[h]? =some r->r.ht<=i)->aD (false,()) z:=λaE=>N _ _ (ab.no rfl (by
    refine⟨A,?_⟩;show ae z ((⟨j.size,0,none⟩:Q6).add (i*1)) _ _;rw[Bp,AF,AN];refine ae.mk d (by simp[BZ];omega) λa8 Q D a9=>?_
    rw[Ih l rfl] at Q;have aF:Wp ns key i p:=⟨w,y,aE⟩;refine ay i _ _ (by omega) ⟨p,λe=>if e=i then p else q e,_,?_,by omega,B.trans D,w,.inr (by omega),Q,λe k ba=>?_⟩
    ·cases i with
     |zero=>rfl
     |succ i=>rw[APA (by omega),show(((i+1:Nat):Int)-1)=(i:Int) by omega]
    ·by_cases R:e=i
     ·subst R;simp[aF]
     ·simp[R];exact b e k (by omega)))
   refine⟨A,?_⟩;rw[A6];refine AY.mk af ?_;cases u:nx p i with
   |none=>
    refine ab.no rfl ?_;refine O λh r aG aJ E=>?_
    rw[C] at u;refine ZU u r ?_;rw[List.mem_drop_iff_getElem];have:=List.getElem?_eq_some_iff.1 E;exact⟨h-p,by omega,by rw[<- this.2];congr 1;omega⟩
   |some a=>
    refine ab.yes rfl ?_;refine⟨A,AY.mk (u▸af) ?_⟩;rw[C] at u;obtain⟨e,x,k,rfl,aK,aL⟩:=AJD u;rw[By] at k;refine AL.mk (M.pair k).1 ?_;have aM:(bX ns)[p+e]? =some x.pr:=by simp[bX,k]
    have S:=pD (key:=key) s aM;cases F:aI x.pr.key key
    ·refine O λh r aG aJ E=>?_
     have bb:h<p+e:=by
      rcases CD h (p+e) with j|j
      ·exact j
      ·have n:p+e<aH key (bX ns):=by omega
       rw[S.1 n] at F;cases F
     exact aL (h-p) r (by omega) (by rw[By];rw[<- E];congr 1;omega)
    ·have n:=S.2 F;refine N _ _ (ab.yes rfl ?_);refine⟨A,AY.mk (u▸C▸af) ?_⟩;have aN:addrAt t ns (p+e+1)=⟨x.ag,0,none⟩:=by simp[addrAt,k]
     refine aC (aH key (bX ns)-(p+e+1)) _ _ (by omega) ⟨p+e+1,by rw[aN],rfl,rfl,by omega,by simp[Uj,k,aK]⟩
 ·have aO:m=0:=by simp at v;omega
  subst aO;have aP:o[g.size]? =some (J2 (cM (λ_=>none)).toArray EJ (0,0)):=B.ag (J.ag av (by simp)) (by omega);simp only[Bp,AF];refine AY.mk (Cw d (i:=0) (by omega)) ?_;refine AY.mk (Cw d (i:=1) (by omega)) ?_;refine AY.mk (Cw d (i:=2) (by omega)) ?_;refine AY.mk (Cw d (i:=3) (by omega)) ?_;refine AY.mk (Cw d (i:=4) (by omega)) ?_;refine AY.mk (Cw d (i:=5) (by omega)) ?_;refine AY.mk (Cw d (i:=6) (by omega)) ?_;refine AY.mk (Cw d (i:=7) (by omega)) ?_;refine AY.mk (Cw d (i:=8) (by omega)) ?_;refine AY.mk (Cw d (i:=9) (by omega)) ?_;refine AY.mk (Cw d (i:=10) (by omega)) ?_;refine AY.mk (Cw d (i:=11) (by omega)) ?_;refine ae.mk aP (by simp[BZ]) λg0 T aQ bc=>?_
  rw[Ih _ rfl] at T;refine ae.mk T (by simp[BZ]) λg1 U aR bd=>?_
  rw[Ih _ rfl] at U;refine ae.mk U (by simp[BZ]) λbe V aS bf=>?_
  rw[Ih _ rfl] at V;refine ae.mk V (by simp[BZ]) λbg W aT bh=>?_
  rw[Ih _ rfl] at W;refine ae.mk W (by simp[BZ]) λbi X aU bj=>?_
  rw[Ih _ rfl] at X;refine ae.mk X (by simp[BZ]) λbk Y aV bm=>?_
  rw[Ih _ rfl] at Y;refine ae.mk Y (by simp[BZ]) λbn Z D bo=>?_
  rw[Ih _ rfl] at Z;refine ae.mk Z (by simp[BZ]) λbp ac aW bq=>?_
  rw[Ih _ rfl] at ac;refine ae.mk ac (by simp[BZ]) λbr ag aX bs=>?_
  rw[Ih _ rfl] at ag;refine ae.mk ag (by simp[BZ]) λbt aj aY bu=>?_
  rw[Ih _ rfl] at aj;refine ae.mk aj (by simp[BZ]) λbv ak aZ bw=>?_
  rw[Ih _ rfl] at ak;refine ae.mk ak (by simp[BZ]) λal am a0 bx=>?_
  rw[Ih _ rfl] at am;have f:al[g.size]? =some (J2 (cM l).toArray EJ (0,0)):=by rw[am];congr 3
  refine AY.mk (Cw f (i:=0) (by omega)) ?_;refine AY.mk (Cw f (i:=1) (by omega)) ?_;refine AY.mk (Cw f (i:=2) (by omega)) ?_;refine AY.mk (Cw f (i:=3) (by omega)) ?_;refine AY.mk (Cw f (i:=4) (by omega)) ?_;refine AY.mk (Cw f (i:=5) (by omega)) ?_;refine AY.mk (Cw f (i:=6) (by omega)) ?_;refine AY.mk (Cw f (i:=7) (by omega)) ?_;refine AY.mk (Cw f (i:=8) (by omega)) ?_;refine AY.mk (Cw f (i:=9) (by omega)) ?_;refine AY.mk (Cw f (i:=10) (by omega)) ?_;refine AY.mk (Cw f (i:=11) (by omega)) ?_;have a1:=((((((((((aQ.trans aR).trans aS).trans aT).trans aU).trans aV).trans D).trans aW).trans aX).trans aY).trans aZ).trans a0;have:=au q al (λi hi=>(b i hi (by omega)).1) (L.then (a1.ak λc _ v=> .inr (by omega)));rw[(b 0 (by omega) (by omega)).2,(b 1 (by omega) (by omega)).2,(b 2 (by omega) (by omega)).2,(b 3 (by omega) (by omega)).2,(b 4 (by omega) (by omega)).2,(b 5 (by omega) (by omega)).2,(b 6 (by omega) (by omega)).2,(b 7 (by omega) (by omega)).2,(b 8 (by omega) (by omega)).2,(b 9 (by omega) (by omega)).2,(b 10 (by omega) (by omega)).2,(b 11 (by omega) (by omega)).2];exact this
theorem ARC {z:Int}(a: -9223372036854775808<=z)(b:z<=9223372036854775807):J8 J9 z=z:=by grind [J8,IntKind.bits,IntKind.signed]
theorem aA {a:Q6}{K:Q6->Prop}(b:K a):At (some a) K:=b
theorem APj {l:ao}{c:aa}{key:A2Y}{h:A2X}(t:key.size<=64)(n: ∀d:Nat,1<=d->d<=12->h (J6 J9 (d:Int)) c):AA l P UC #[J7 key] c h:=by
 refine AG1 ?_;unfold ZE;refine Loop.rule (λm x e=> ∃(i:Nat) (a:Int),x=(a,(i:Int),())/\e=c/\m=key.size-i/\i<=key.size) ?_ ⟨0,2166136261,rfl,rfl,rfl,by omega⟩;rintro K m _ e ⟨i,a,rfl,f,rfl,hi⟩ o;subst f;refine ab.intro (λb=>?_) (λb=>?_)
 ·have u:i<key.size:=by simp at b;omega
  refine⟨⟨by grind,by show(i:Int)<_;omega⟩,o (key.size-(i+1)) _ _ (by omega) ⟨i+1,_,by rw[Ac (by omega)],rfl,rfl,by omega⟩⟩
 ·refine Loop.rule (λm x g=> ∃(i:Nat) (a:Int),x=(a,(i:Int),())/\g=e/\m=12-i/\1<=i/\i<=12) ?_ ⟨1,_,rfl,rfl,rfl,by omega,by omega⟩;rintro v m _ g ⟨i,a,rfl,f,rfl,p,q⟩ r;subst f;refine ah.mk λs j=>?_
  have k:s (false,()) g:=j _ _ (ab.no rfl (n i p q));refine ab.intro (λb=>?_) (λb=>k);have w:i<12:=by simp at b;omega
  cases y:((Gw .u32 a (3:Int))==(0:Int))
  ·exact k
  ·exact j _ _ (ab.yes rfl (r (12-(i+1)) _ _ (by omega) ⟨i+1,_,by rw[Ac (by omega)],rfl,rfl,by omega,by omega⟩))
theorem PZ(i:Nat)(a b:List Dl):DR i (a++b)=(DR i a).or (DR i b):=by grind [DR,decide]
theorem AKD {i:Nat}{l:List Dl}(a: ∀x∈l,x.ht<=i):DR i l=none:=by simp_all [DR,GW]
theorem AMp {i:Nat}{l:List Dl}{x:Dl}(b:x∈l)(d:i<x.ht): ∃a,DR i l=some a:=by
 cases c:DR i l with
 |some a=>exact⟨a,rfl⟩
 |none=>have:=ZU c x b;omega
theorem UJ {ns:List Dl}(c: ∀x∈ns,1<=x.ht/\x.ht<=12)(p:Nat):DR 0 (ns.drop p)=(ns[p]?).map λx=>⟨x.ag,0,none⟩:=by
 cases a:ns[p]? with
 |none=>rw[PF (List.getElem?_eq_none_iff.1 a)];rfl
 |some x=>
  have b:=List.getElem?_eq_some_iff.1 a;rw[FA b.1,b.2];have:=(c x (AG a)).1;unfold DR;rw[E0];simp[Fc Nat.zero_lt_one this]
def fQ(nx:Nat->Nat->Q2)(p i:Nat)(v:Q2):Nat->Nat->Q2:=λa b=>if a=p/\b=i then v else nx a b
theorem Kz {p:Pr}{f g:Nat->Q2}(a: ∀i,f i=g i):Fb p f=Fb p g:=by rw[show f=g from funext a]
theorem Yv {a b:Int}{f g:Nat->Q2}(c: ∀i,f i=g i):Dt f a b=Dt g a b:=by rw[show f=g from funext c]
theorem Lay.store {e:aa}{t:Nat}{ns:List Dl}{nx:Nat->Nat->Q2}{s u:Int}(l:Lay e t ns nx s u){p i:Nat}(B:p<=ns.length)(hi:i<12){v:Q2}{K:aa->Prop}
  (w: ∀c,Lay c t ns (fQ nx p i v) s u->Mod (dj t ns) e c->c.size=e.size->K c):ae e (((addrAt t ns p).add 3).add (i*1)) (J5 v) K:=by
 rw[add_add,AN];cases p with
 |zero=>
  show ae e ((⟨t,0,none⟩:Q6).add (3+i)) _ _;rw[Bp,AF];refine ae.mk l.head (by rw[cO];omega) λc d m o=>w c ⟨?_,λj x a=>⟨?_,(l.node j x a).2⟩,l.apart⟩ (m.ak λb _ d=> .inl d) o
  ·rw[d,ARk hi,Yv (g:=fQ nx 0 i v 0) (λh=>by simp[fQ])]
  ·rw[m.get _ (Ai (l.node j x a).1) (l.node j x a).2,(l.node j x a).1,Kz (g:=fQ nx 0 i v (j+1)) (λh=>by simp[fQ])]
 |succ p=>
  have k:=A2 (l:=ns) (i:=p) (by omega);have f:addrAt t ns (p+1)=⟨ns[p].ag,0,none⟩:=by simp[addrAt,k]
  rw[f,Bp,AF];obtain⟨z,A⟩:=l.node p _ k;refine ae.mk z (by rw[Sq];omega) λc d m o=>w c ⟨?_,λj x a=>⟨?_,(l.node j x a).2⟩,l.apart⟩ (m.ak λb _ d=> .inr ⟨_,AG k,d.symm⟩) o
  ·rw[m.get _ (Ai l.head) (λf=>A f.symm),l.head,Yv (g:=fQ nx (p+1) i v 0) (λh=>by simp[fQ])]
  ·by_cases q:j=p
   ·subst q;rw[k] at a;cases a;rw[d,xR,Kz (g:=fQ nx (j+1) i v (j+1)) (λh=>by simp[fQ])]
   ·have hd:x.ag≠ns[p].ag:=by
     have n:=List.getElem?_eq_some_iff.1 a;have y:=List.pairwise_iff_getElem.1 l.apart;rcases N0 q with r|r
     ·have:=y j p n.1 (by omega) r;rw[n.2] at this;exact this
     ·have:=y p j (by omega) n.1 r;rw[n.2] at this;exact λf=>this f.symm
    rw[m.get _ (Ai (l.node j x a).1) hd,(l.node j x a).1,Kz (g:=fQ nx (p+1) i v (j+1)) (λh=>by simp[fQ,q])]
def GR(l:List Pr):Nat:=(l.map λx=>x.key.size+x.val.size).sum
structure cW (h:aa) (t:Nat) (ns:List Dl) (l:List Pr):Prop where
 lay: ∃nx,Lay h t ns nx (l.length:Int) (GR l:Int)/\kG ns nx
 bX:bX ns=l
 sorted:Sorted l
 aJ:BN l
theorem cW.mod {a c:aa}{t:Nat}{ns:List Dl}{l:List Pr}{d:Nat->Prop}(T:cW a t ns l)(m:Mod d a c)(e: ∀b,dj t ns b-> ¬d b):cW c t ns l:=by obtain⟨nx,f,K⟩:=T.lay;exact⟨⟨nx,f.mod m e,K⟩,T.bX,T.sorted,T.aJ⟩
theorem cW.ext {a b:aa}{t:Nat}{ns:List Dl}{l:List Pr}(T:cW a t ns l)(m:Ext a b):cW b t ns l:=T.mod m λ_ _ a=>a
theorem cW.lt {a:aa}{t:Nat}{ns:List Dl}{l:List Pr}(T:cW a t ns l){b:Nat}(c:dj t ns b):b<a.size:=by obtain⟨nx,d,_⟩:=T.lay;exact d.lt c
theorem tF {d:ao}{a:aa}{c:A2X}(e: ∀b,cW b a.size [] []->Ext a b->b.size=a.size+1->c (J5 (some ⟨a.size,0,none⟩)) b):AA d P Rv #[] a c:=by
 refine ANQ ?_;unfold xn;refine ai.mk λf _ g h j=>e f ⟨⟨λ_ _=>none,⟨g,λl x a=>by simp at a,List.Pairwise.nil⟩,⟨λp i k hi _=>?_,λx a=>by cases a⟩⟩,rfl,List.Pairwise.nil,λx a=>by cases a⟩ h j
 have:p=0:=by simpa using k
 subst this;rfl
theorem Ox(l m:List Pr):GR (l++m)=GR l+GR m:=by simp[GR,List.sum_append]
theorem Tj(x:Pr)(l:List Pr):GR (x::l)=x.key.size+x.val.size+GR l:=by simp[GR]
theorem ANH {l:List Pr}(g:BN l):GR l<=l.length*8256:=by
 induction l with
 |nil=>simp[GR]
 |cons x l a=>
  have d:=a λb c=>g b (by simp[c])
  have e:=g x (by simp);have f:x.key.size<=64/\x.val.size<=8192:=by grind [Ah]
  rw[Tj,An,Bm];omega
theorem xT {x:Pr}(a:Ah x=0):x.key.size<=64/\x.val.size<=8192:=by grind [Ah]
theorem APE {p q:Pr}{nx:Nat->Q2}:(((Fb p nx).setIfInBounds 0 (J7 q.key)).setIfInBounds 1 (J7 q.val)).setIfInBounds 2 (J3 q.gone)=Fb q nx:=by apply Array.toList_inj.1;rw[DQ,DQ,DQ];rfl
theorem gI.zero {ns:List Dl}{key:A2Y}{p:Nat}(d: ∀x∈ns,1<=x.ht/\x.ht<=12)(b:Wp ns key 0 p):p=aH key (bX ns):=by
 rcases CD p (aH key (bX ns)) with a|a
 ·have e:=Z0 key ns;have c:=A2 (l:=ns) (i:=p) (by omega);have f:=b.last p _ (A0 _) a c;have g:=d _ (AG c);omega
 ·have:=b.le;omega
def fR(nx:Nat->Nat->Q2)(q:Nat->Nat)(b:Q6)(i:Nat):Nat->Nat->Q2:=λp a=>if a<i/\p=q a then some b else nx p a
def jL(nx:Nat->Nat->Q2)(q:Nat->Nat)(i:Nat):Nat->Q2:=λa=>if a<i then nx (q a) a else none
def gJ(nx:Nat->Nat->Q2)(q:Nat->Nat)(b:Q6)(c a:Nat):Nat->Nat->Q2:=λp i=>if p<=a then fR nx q b c p i else if p=a+1 then jL nx q c i else fR nx q b c (p-1) i
theorem xU {c:Type}{ns:List c}{x:c}{a b:Nat}(d:a<=ns.length):(ns.take a++x::ns.drop a)[b]? =if b<a then ns[b]? else if b=a then some x else ns[b-1]? :=by grind
theorem AQ6 {b:Type}{ns:List b}{x:b}{a p:Nat}(c:a<=ns.length)(d:p<=a):(ns.take a++x::ns.drop a).drop p=(ns.take a).drop p++x::ns.drop a:=by grind
theorem APF {b:Type}{ns:List b}{x:b}{a p:Nat}(c:a<=ns.length)(d:a<p):(ns.take a++x::ns.drop a).drop p=ns.drop (p-1):=by rw[Rr,PF (by simp;omega),CT];simp only[Ax,DO c];rw[show p-a=(p-a-1)+1 by omega,HW,HX];congr 1;omega
theorem kG.insert {ns:List Dl}{nx:Nat->Nat->Q2}{key:A2Y}(K:kG ns nx){q:Nat->Nat}(r: ∀i,i<12->Wp ns key i (q i)){x:Dl}(D:1<=x.ht/\x.ht<=12):
  kG (ns.take (aH key (bX ns))++x::ns.drop (aH key (bX ns))) (gJ nx q ⟨x.ag,0,none⟩ x.ht (aH key (bX ns))):=by
 have s:=Z0 key ns;generalize g:aH key (bX ns)=a at*
 refine⟨λp i I hi j=>?_,λf b=>?_⟩
 ·unfold gJ;split
  ·rename_i v;have m:i<Uj ns p:=by
    cases p with
    |zero=>exact hi
    |succ p=>
     unfold Uj at j ⊢
     grind
   have w:=K.link p i (by omega) hi m;have y:ns.drop p=(ns.take a).drop p++ns.drop a:=by grind [List.take_append_drop]
   have e:=r i hi;rw[AQ6 s v,PZ];unfold fR;by_cases n:i<x.ht
   ·have E:DR i (x::ns.drop a)=some ⟨x.ag,0,none⟩:=by grind [DR]
    rw[E];by_cases t:p=q i
    ·rw[if_pos ⟨n,t⟩,AKD λf b=>?_]
     ·rfl
     ·obtain⟨z,A,J⟩:=CM b;simp at A;have L:(ns.take a).drop p=(ns.take a).drop p:=rfl;refine e.last (p+z) f (by omega) (by rw[g];omega) ?_
      grind
    ·rw[if_neg (λd=>t d.2),w,y,PZ];have F:p<q i:=by
      rcases HN p (q i) with d|d|d
      ·exact d
      ·exact absurd d t
      ·exfalso;cases p with
       |zero=>omega
       |succ p=>
        have o:=A2 (l:=ns) (i:=p) (by omega);have M:=e.last p _ (by omega) (by rw[g];omega) o;simp[Uj,o] at m;omega
     have h:=e.le;rw[g] at h;have u:=e.ht;obtain⟨c,G⟩: ∃c,q i=c+1:=⟨q i-1,by omega⟩;rw[G] at u F h;have o:=A2 (l:=ns) (i:=c) (by omega);simp[Uj,o] at u;have H:ns[c]∈(ns.take a).drop p:=by
      refine AG (i:=c-p) ?_
      grind
     obtain⟨f,b⟩:=AMp H u;rw[b];rfl
   ·rw[if_neg (λd=>n d.1),w,y,PZ];have:DR i (x::ns.drop a)=DR i (ns.drop a):=by grind [DR]
    rw[this]
  ·rename_i v;rw[APF s (by omega)];split
   ·rename_i B;subst B;have n:i<x.ht:=by
     unfold Uj at j
     simp_all
    have e:=r i hi;have h:=e.le;rw[g] at h;unfold jL;rw[if_pos n,K.link (q i) i (by omega) hi e.ht,AIP (k:=a-q i) (by simp;omega) λz f A b=>?_]
    ·rw[HX];congr 2;omega
    ·rw[By] at b;exact e.last _ f (by omega) (by rw[g];omega) b
   ·rename_i B;obtain⟨c,rfl⟩: ∃c,p=c+1:=⟨p-1,by omega⟩;rw[N2];have N:(ns.take a++x::ns.drop a).length=ns.length+1:=by simp;omega
    have m:i<Uj ns c:=by
     unfold Uj at j;simp only at j;rw[xU s,if_neg (by omega),if_neg (by omega)] at j;obtain⟨C,rfl⟩: ∃C,c=C+1:=⟨c-1,by omega⟩
     simp_all [Uj]
    have h:=(r i hi).le;rw[g] at h;unfold fR;rw[if_neg (λd=>by omega)];exact K.link c i (by omega) hi m
 ·rw[Mz,G3] at b;rcases b with b|rfl|b
  ·exact K.ht f (DE b)
  ·exact D
  ·exact K.ht f (Ks b)
set_option maxHeartbeats 1000000 in
theorem ATq {bU:ao}{s:aa}{t:Nat}{ns:List Dl}{l:List Pr}{x:Pr}{an:A2X}(T:cW s t ns l)(cK:l.length<1099511627776)
  (ap: ∀ba aq,cW aq t ba (Bw x l)->Mod (dj t ns) s aq->(∀ b,dj t ba b->dj t ns b\/s.size<=b)->an (J6 J9 (Ah x)) aq):
  AA bU P Kn #[J5 (some ⟨t,0,none⟩),.agg #[J7 x.key,J7 x.val,J3 x.gone]] s an:=by
 refine AA2 ?_;unfold UK;refine ai.mk λe _ u ar cL=>?_
 have bb:=T.ext ar;have au:Ah x≠0->an (J6 J9 (Ah x)) e:=λw=>ap ns e (by simpa [Bw,w] using bb) ar.mod (λb u=> .inl u)
 refine ah.mk λK av=>?_
 have aw:(decide (x.key=⟨#[]⟩)||(x.gone&& !decide (x.val=⟨#[]⟩)))=true->K (true,()) e:=λj=>av _ _ (ab.yes rfl (by
  have w:Ah x=1:=by unfold Ah;rw[if_pos j]
  have:=au (by rw[w];decide);rw[w] at this;exact this))
 have bc:(decide (x.key=⟨#[]⟩)||(x.gone&& !decide (x.val=⟨#[]⟩)))=false->K (false,()) e:=λj=>av _ _ (ab.no rfl (by
  refine ah.mk λbd ax=>?_
  have ay:(decide (x.key.size>64)||decide (x.val.size>8192))=true->bd (true,()) e:=λaz=>ax _ _ (ab.yes rfl (by
   have w:Ah x=2:=by unfold Ah;rw[if_neg (by simp[j]),if_pos az]
   have:=au (by rw[w];decide);rw[w] at this;exact this))
  have bV:(decide (x.key.size>64)||decide (x.val.size>8192))=false->bd (false,()) e:=λaz=>ax _ _ (ab.no rfl (by
   have w:Ah x=0:=by unfold Ah;rw[if_neg (by simp[j]),if_neg (by simp[az])]
   have bW:=xT w;clear aw ax av ay au;obtain⟨nx,aC,D⟩:=bb.lay;have V:Bw x l=ins x l:=SV w;have be:=Qq (x:=x) T.sorted;have bf:=xX (x:=x) T.aJ;have L:=T.bX;have bY:Sorted (bX ns):=by rw[L];exact T.sorted
   have cN:ns.length=l.length:=by rw[<- L];simp
   have cP:=ANH T.aJ;refine AL.mk (AO u rfl) ?_;refine ri aC D bY λq F r W=>⟨_,_,_,_,_,_,_,_,_,_,_,_,rfl,?_⟩
   have aD:=gI.zero D.ht (r 0 (by omega));have bg:=aC.ext W;refine ai.mk λbZ _ b0 b1 cQ=>?_
   have b2:bZ[F.size]? =some (J2 (cM (λ_=>none)).toArray EJ (0,0)):=b0;simp only[Bp,AF];refine ae.mk b2 (by simp[BZ]) λg0 aE bh b3=>?_
   rw[Ih _ rfl] at aE;refine ae.mk aE (by simp[BZ]) λg1 aF M b4=>?_
   rw[Ih _ rfl] at aF;refine ae.mk aF (by simp[BZ]) λcR aG bi b5=>?_
   rw[Ih _ rfl] at aG;refine ae.mk aG (by simp[BZ]) λcS aI bj b6=>?_
   rw[Ih _ rfl] at aI;refine ae.mk aI (by simp[BZ]) λcT aJ bk b7=>?_
   rw[Ih _ rfl] at aJ;refine ae.mk aJ (by simp[BZ]) λcU aK bm b8=>?_
   rw[Ih _ rfl] at aK;refine ae.mk aK (by simp[BZ]) λcV aL bn b9=>?_
   rw[Ih _ rfl] at aL;refine ae.mk aL (by simp[BZ]) λcX aM bo ca=>?_
   rw[Ih _ rfl] at aM;refine ae.mk aM (by simp[BZ]) λcY aN bp cb=>?_
   rw[Ih _ rfl] at aN;refine ae.mk aN (by simp[BZ]) λcZ aO bq cc=>?_
   rw[Ih _ rfl] at aO;refine ae.mk aO (by simp[BZ]) λc0 aP br cd=>?_
   rw[Ih _ rfl] at aP;refine ae.mk aP (by simp[BZ]) λf aQ bs ce=>?_
   rw[Ih _ rfl] at aQ;have aR:f[F.size]? =some (J2 (cM (λi=>some (addrAt t ns (q i)))).toArray EJ (0,0)):=by rw[aQ];congr 3
   have bt:=((((((((((bh.trans M).trans bi).trans bj).trans bk).trans bm).trans bn).trans bo).trans bp).trans bq).trans br).trans bs;have X:Ext F f:=b1.then (bt.ak λc _ j=> .inr (by omega));have c1:=X.size;have c2:=Ai aR;have c3:=W.size;clear bt aE aF aG aI aJ aK aL aM aN aO aP aQ bh M bi bj bk bm bn bo bp bq br bs b3 b4 b5 b6 b7 b8 b9 ca cb cc cd ce;have y:=bg.ext X;have G:f[s.size]? =some (J2 #[J7 x.key,J7 x.val,J3 x.gone] AU (0,0)):=X.ag (W.ag u (by simp)) (by simp);have cf:=Z0 x.key ns;have aS:Ext s f:=ar.trans (W.trans X);refine⟨by omega,AY.mk (Cw aR (i:=0) (by omega)) ⟨by omega,AY.mk (y.next (p:=q 0) (i:=0) (by rw[aD];omega) (by omega)) ?_⟩⟩;have cg:nx (q 0) 0=(ns[aH x.key (bX ns)]?).map λd=>⟨d.ag,0,none⟩:=by rw[D.link (q 0) 0 (by rw[aD];omega) (by omega) (r 0 (by omega)).ht,aD,UJ D.ht]
   rw[cg];have Y:Az x.key l=match ns[aH x.key (bX ns)]? with|some d=>decide (d.pr.key=x.key)|none=>false:=by
    unfold Az
    grind
   generalize aT:aH x.key (bX ns)=a at*
   have Z:aH x.key l=a:=by rw[<- L];exact aT
   have ac:Zq x l=ins x l:=mQ x l;refine ah.mk λbu bv=>?_
   have ch: ∀d,ns[a]? =some d->d.pr.key=x.key->bu (true,()) f:=λd k E=>bv _ _ (ab.yes rfl (by
    have H:=List.getElem?_eq_some_iff.1 k;have ci:a<ns.length:=H.1;rw[k];have cj:=y.pair k;have c4:d.pr.key.size=x.key.size:=by rw[E]
    refine AC.mk (AB y.head lH.2) (AL.mk (AO G rfl) (AL.mk cj.2.1 ?_));have ck: ∃aU:Nat,GR l=d.pr.key.size+d.pr.val.size+aU/\GR (Bw x l)=x.key.size+x.val.size+aU:=by
     have aV:l=l.take a++d.pr::l.drop (a+1):=by
      have aW:l[a]? =some d.pr:=by rw[<- L];simp[k]
      have e:=List.getElem?_eq_some_iff.1 aW;rw[<- e.2,<-FA e.1,F0]
     have Q:Bw x l=l.take a++x::l.drop (a+1):=by rw[V,<-ac];unfold Zq;rw[Y,k,Z,if_pos (by simp[E])];simp
     refine⟨GR (l.take a)+GR (l.drop (a+1)),?_,?_⟩
     ·conv=>lhs;rw[aV]
      rw[Ox,Tj];omega
     ·rw[Q,Ox,Tj];omega
    obtain⟨aU,c5,c6⟩:=ck;have aX:J8 J9 ((GR l:Int)+J8 J9 ((x.val.size:Int)-(d.pr.val.size:Int)))=(GR (Bw x l):Int):=by
     have c7:d.pr.val.size<=8192:=(xT (T.aJ d.pr (by grind))).2;have aV:J8 J9 ((x.val.size:Int)-(d.pr.val.size:Int))=(x.val.size:Int)-(d.pr.val.size:Int):=by exact ARC (by omega) (by omega)
     rw[aV,show(GR l:Int)+((x.val.size:Int)-(d.pr.val.size:Int))=((GR (Bw x l):Nat):Int) by omega];exact Fz (by omega)
    rw[aX];refine aA ?_;rw[Bp,AF];refine ae.mk y.head (by rw[cO];omega) λbw bx af c8=>?_
    rw[xS] at bx;have aY:=y.node a d k;have aZ:bw[s.size]? =some (J2 #[J7 x.key,J7 x.val,J3 x.gone] AU (0,0)):=af.ag G (by have:=aC.lt (.inl rfl:dj t ns t);have:=T.lt (.inl rfl:dj t ns t);omega);refine AL.mk (AO aZ rfl) (AL.mk (AO aZ rfl) (Aa.mk (AO aZ rfl) ?_));have cl:=af.ag aY.1 aY.2;refine aA ?_;refine ae.mk cl (by rw[Sq];omega) λc9 cm cn da=>?_
    rw[Bp,Bp];refine ae.mk cm (by rw[RC,Sq];omega) λdb co cp dc=>?_
    refine ae.mk co (by rw[RC,RC,Sq];omega) λa0 bz cq dd=>?_
    simp only[AF] at bz;rw[APE] at bz;have a1:Mod (λc=>c=d.ag) bw a0:=(cn.trans cp).trans cq;have a2:dj t ns t:= .inl rfl;have bA:dj t ns d.ag:= .inr ⟨d,AG k,rfl⟩;rw[<- w];refine ap (ns.set a {d with pr:=x}) a0 ⟨⟨nx,⟨?_,λo z h=>?_,?_⟩,⟨λp i ag hi bB=>?_,λz h=>?_⟩⟩,?_,be,bf⟩ ?_ λb u=>?_
    ·have a3:(Bw x l).length=l.length:=by rw[V,<-ac];unfold Zq;rw[Y,k,Z,if_pos (by simp[E])];simp;omega
     rw[a3];exact a1.ag bx (λn=>aY.2 n.symm)
    ·rw[MT] at h;split at h
     ·grind
     ·rename_i N;have A:=y.node o z h;refine⟨?_,A.2⟩;refine a1.ag (af.ag A.1 A.2) ?_;have e:=List.getElem?_eq_some_iff.1 h;have bC:=List.pairwise_iff_getElem.1 y.apart;rcases N0 N with a4|a4
      ·have:=bC a o H.1 e.1 a4;rw[e.2,H.2] at this;exact λn=>this n.symm
      ·have:=bC o a e.1 H.1 a4;rw[e.2,H.2] at this;exact this
    ·have n:(ns.set a {d with pr:=x}).map (·.ag)=ns.map (·.ag):=by
      rw[N3];apply List.ext_getElem?;intro o;rw[MT];split
      ·rename_i N;subst N;simp[H.1,H.2]
      ·rfl
     have e:(ns.map (·.ag)).Pairwise (· ≠ ·):=List.pairwise_map.2 y.apart;rw[<- n] at e;exact List.pairwise_map.1 e
    ·rw[Kx] at ag;have cr:Uj (ns.set a {d with pr:=x}) p=Uj ns p:=by
      cases p with
      |zero=>rfl
      |succ p=>
       unfold Uj;simp only;rw[MT];by_cases N:a=p
       ·subst N;rw[if_pos rfl,if_pos ci,k]
       ·rw[if_neg N]
     rw[cr] at bB;rw[D.link p i ag hi bB];have key: ∀m:List Dl,∀a,m[a]? =some d->DR i (m.set a {d with pr:=x})=DR i m:=by
      intro m
      induction m with
      |nil=>intro a s;simp at s
      |cons z m cs=>
       intro a s;cases a with
       |zero=>simp at s;subst s;by_cases hd:i<z.ht<;>simp[DR,hd]
       |succ a=>
        have:=cs a (by simpa using s);unfold DR at this ⊢;rw[List.set_cons_succ,E0,E0];split
        ·rfl
        ·exact this
     rcases CD a p with e|e
     ·rw[List.drop_set_of_lt e]
     ·rw[List.drop_set];rw[if_neg (by omega)];exact(key _ _ (by rw[By];rw[<- k];congr 1;omega)).symm
    ·obtain⟨o,I,n⟩:=CM h;rw[List.getElem_set] at n;split at n
     ·subst n;exact D.ht d (AG k)
     ·subst n;exact D.ht _ (BT _)
    ·rw[V,<-ac];unfold Zq;rw[Y,k,Z,if_pos (by simp[E])];show(ns.set a {d with pr:=x}).map (·.pr)=_;rw[N3,A02];have:(ns.map (·.pr))=l:=L;rw[this];have aW:a<l.length:=by omega
     simp[aW]
    ·have M:Mod (dj t ns) f a0:=(af.ak λc _ j=>by subst j;exact a2).trans (a1.ak λc _ j=>by subst j;exact bA);exact aS.mod.trans M
    ·rcases u with rfl|⟨z,h,rfl⟩
     ·exact .inl (.inl rfl)
     ·obtain⟨o,I,n⟩:=CM h;rw[List.getElem_set] at n;split at n
      ·subst n;exact .inl bA
      ·subst n;exact .inl (.inr ⟨_,BT _,rfl⟩)))
   have bD:Az x.key l=false->bu (false,()) f:=λa2=>bv _ _ (ab.no rfl (by
    refine AL.mk (AO G rfl) (AL.mk (AO G rfl) (Aa.mk (AO G rfl) ?_));refine ai.mk λbE _ ct aj de=>?_
    have bF:=aj.ag G (by simp);refine AL.mk (AO bF rfl) ?_;refine APj bW.1 λB cu cv=>⟨_,rfl,?_⟩
    have cw:bE[f.size]? =some (J2 (Fb x (λ_=>none)) TB (0,0)):=ct;have cx:=y.ext aj;have bG: ∀i,i<12->q i<=ns.length:=λi hi=>by have:=(r i hi).le;rw[aT] at this;omega
    have cy:=aj.ag aR (by simp);have a5: ∀c,dj t ns c->c<f.size:=λc j=>y.lt j
    have cz: ∀c,dj t ns c->c<F.size:=λc j=>bg.lt j
    refine Loop.rule (λm d C=> ∃i:Nat,d=((i:Int),())/\m=B-i/\i<=B/\Mod (λc=>dj t ns c\/c=f.size) bE C/\Lay C t ns (fR nx q ⟨f.size,0,none⟩ i) (l.length:Int) (GR l:Int)/\C[f.size]? =some (J2 (Fb x (jL nx q i)) TB (0,0))) ?_
     ⟨0,rfl,rfl,by omega,Mod.refl,?_,?_⟩
    rotate_left
    ·have:fR nx q ⟨f.size,0,none⟩ 0=nx:=by funext p B;simp[fR]
     rw[this];exact cx
    ·have:jL nx q 0=λ_=>none:=by funext B;simp[jL]
     rw[this];exact cw
    rintro cB m _ C ⟨i,rfl,rfl,hi,R,J,bH⟩ cC;have df:=R.size;have bI:C[F.size]? =some (J2 (cM (λi=>some (addrAt t ns (q i)))).toArray EJ (0,0)):=R.ag cy (λa6=>a6.elim (λe=>by have:=cz _ e;omega) (λe=>by omega));refine ab.intro (λj=>?_) (λj=>?_)
    ·have bJ:i<B:=by simpa using j
     have O:i<12:=by omega
     have S:(0:Int)<=(i:Int)/\(i:Int)<(12:Int):=⟨by omega,by omega⟩;refine⟨S,?_⟩;show AY C ⟨F.size,i*1,none⟩ _;rw[AN];refine AY.mk (Cw bI O) ⟨S,?_⟩;show AY C (((addrAt t ns (q i)).add 3).add (i*1)) _;refine AY.mk (J.next (p:=q i) (i:=i) (bG i O) O) ⟨S,?_⟩;have cD:fR nx q ⟨f.size,0,none⟩ i (q i) i=nx (q i) i:=by simp[fR]
     show ae C ⟨f.size,3+i*1,none⟩ (J5 (fR nx q ⟨f.size,0,none⟩ i (q i) i)) _;rw[cD,AN];refine ae.mk bH (by rw[Sq];omega) λbK bL a7 dg=>?_
     rw[xR] at bL;have cE:=J.mod a7 (λc j n=>by have:=a5 c j;omega);refine⟨S,?_⟩;show AY bK ⟨F.size,i*1,none⟩ _;rw[AN];refine AY.mk (Cw (a7.ag bI (by omega)) O) ⟨S,?_⟩;show ae bK (((addrAt t ns (q i)).add 3).add (i*1)) (J5 (some ⟨f.size,0,none⟩)) (λbM=>cB (J8 J9 ((i:Int)+(1:Int)),()) bM);refine cE.store (p:=q i) (i:=i) (bG i O) O (v:=some ⟨f.size,0,none⟩) (λbM bN bO dh=>?_)
     ·refine cC (B-(i+1)) _ _ (by omega) ⟨i+1,by rw[Ac (by omega)],rfl,by omega,(R.trans (a7.ak λc _ j=> .inr j)).trans (bO.ak λc _ j=> .inl j),?_,?_⟩
      ·have:fQ (fR nx q ⟨f.size,0,none⟩ i) (q i) i (some ⟨f.size,0,none⟩)=fR nx q ⟨f.size,0,none⟩ (i+1):=by
        funext p o;unfold fQ fR;by_cases I:o=i
        ·subst I
         grind
        ·by_cases ag:p=q o<;>simp[ag,I,Nat.lt_succ_iff,Nat.le_iff_lt_or_eq]
       rw[this] at bN;exact bN
      ·rw[bO.ag bL (λj=>by have:=a5 _ j;omega),Kz (g:=jL nx q (i+1)) (λo=>?_)];unfold jL;by_cases I:o=i
       ·subst I;simp
       ·simp[I,Nat.lt_succ_iff,Nat.le_iff_lt_or_eq]
    ·have bJ:i=B:=by simp at j;omega
     subst bJ;refine AC.mk (AB J.head lH.1) ?_;refine aA ?_;rw[Bp,AF];refine ae.mk J.head (by rw[cO];omega) λdi a8 bP dk=>?_
     rw[AO4] at a8;have bQ:dj t ns t:= .inl rfl;have dl:=T.lt bQ;have cF:C[s.size]? =some (J2 #[J7 x.key,J7 x.val,J3 x.gone] AU (0,0)):=R.ag bF (λa6=>a6.elim (λe=>by have:=T.lt e;omega) (λe=>by omega));have bR:=bP.ag cF (by omega);refine aA ?_;rw[Bp,AF];refine AC.mk (AO a8 lH.2) (AL.mk (AO bR rfl) (AL.mk (AO bR rfl) (aA ?_)));rw[Bp,AF];refine ae.mk a8 (by rw[cO];omega) λak a9 cG dm=>?_
     rw[xS] at a9;have Q:Bw x l=l.take a++x::l.drop a:=by rw[V,<-ac];unfold Zq;rw[a2,Z];simp
     have dn:GR (Bw x l)=GR l+(x.key.size+x.val.size):=by
      rw[Q,Ox,Tj];have:GR l=GR (l.take a)+GR (l.drop a):=by rw[<- Ox,F0]
      omega
     have a3:(Bw x l).length=l.length+1:=by rw[Q];simp;omega
     have aX:J8 J9 ((l.length:Int)+(1:Int))=((Bw x l).length:Int):=by rw[a3];exact Ac (by omega)
     have cH:J8 J9 ((GR l:Int)+J8 J9 ((x.key.size:Int)+(x.val.size:Int)))=(GR (Bw x l):Int):=by rw[show((x.key.size:Int)+(x.val.size:Int))=((x.key.size+x.val.size:Nat):Int) by omega,Fz (by omega),show(GR l:Int)+((x.key.size+x.val.size:Nat):Int)=((GR (Bw x l):Nat):Int) by omega];exact Fz (by omega)
     rw[aX,cH] at a9;have mt:Mod (λc=>c=t) C ak:=bP.trans cG;have cI:=mt.ag bH (by omega);rw[<- w];refine ap (ns.take a++⟨f.size,x,i⟩::ns.drop a) ak ⟨⟨gJ nx q ⟨f.size,0,none⟩ i a,⟨?_,λo z h=>?_,?_⟩,?_⟩,?_,be,bf⟩ ?_ λb u=>?_
     ·rw[a9,Yv (g:=gJ nx q ⟨f.size,0,none⟩ i a 0) (λB=>?_)];simp[gJ]
     ·rw[xU cf] at h;split at h
      ·rename_i cJ;have A:=J.node o z h;refine⟨?_,A.2⟩;rw[mt.ag A.1 A.2,Kz (g:=gJ nx q ⟨f.size,0,none⟩ i a (o+1)) (λB=>?_)];unfold gJ;rw[if_pos (by omega)]
      ·rename_i cJ;split at h
       ·rename_i bS;subst bS;cases h;refine⟨?_,by grind⟩;show ak[f.size]? =_;rw[cI,Kz (g:=gJ nx q ⟨f.size,0,none⟩ i o (o+1)) (λB=>?_)];unfold gJ
        grind
       ·rename_i bS;obtain⟨al,rfl⟩: ∃al,o=al+1:=⟨o-1,by omega⟩;rw[N2] at h;have A:=J.node al z h;refine⟨?_,A.2⟩;rw[mt.ag A.1 A.2,Kz (g:=gJ nx q ⟨f.size,0,none⟩ i a (al+1+1)) (λB=>?_)];unfold gJ
        grind
     ·have e:=J.apart;have bT: ∀z∈ns,z.ag≠f.size:=λz h n=>by have:=a5 z.ag (.inr ⟨z,h,rfl⟩);omega
      rw[<- F0 a ns] at e;rw[List.pairwise_append] at e ⊢;refine⟨e.1,List.pairwise_cons.2 ⟨λz h=>λn=>bT z (Ks h) n.symm,e.2.1⟩,λd k z h=>?_⟩;rcases List.mem_cons.1 h with rfl|h
      ·exact bT d (DE k)
      ·exact e.2.2 d k z h
     ·have:=D.insert (key:=x.key) r (x:=⟨f.size,x,i⟩) ⟨cu,cv⟩;rw[aT] at this;exact this
     ·show(ns.take a++⟨f.size,x,i⟩::ns.drop a).map (·.pr)=_;have:(ns.map (·.pr))=l:=L;rw[Q,<-this];simp[PA,List.map_drop]
     ·have M:Mod (λc=>dj t ns c\/c=f.size) f ak:=(aj.mod.trans R).trans (mt.ak λc _ j=>by subst j;exact .inl bQ);exact aS.mod.then (M.ak λc _ j=>j.elim .inl λe=> .inr (by have:=aS.size;omega))
     ·rcases u with rfl|⟨z,h,rfl⟩
      ·exact .inl (.inl rfl)
      ·rw[Mz,G3] at h;rcases h with h|rfl|h
       ·exact .inl (.inr ⟨z,DE h,rfl⟩)
       ·grind
       ·exact .inl (.inr ⟨z,Ks h,rfl⟩)))
   cases k:ns[a]? with
   |none=>
    refine ab.no rfl (bD ?_);rw[Y,k]
   |some d=>
    refine ab.yes rfl ?_;refine AL.mk (y.pair k).1 (AL.mk (AO G rfl) ?_);rw[Bl];by_cases E:d.pr.key=x.key
    ·rw[decide_eq_true E];exact ch d k E
    ·rw[decide_eq_false E];exact bD (by grind)))
  refine AL.mk (AO u rfl) ?_;refine ab.intro (λr=>?_) (λr=>?_)
  ·exact ay (by simp at r;simp;omega)
  ·refine AL.mk (AB u rfl) ?_;simp at r;cases U:decide ((x.val.size:Int)>(8192:Int))
   ·exact bV (by simp at U;simp;omega)
   ·exact ay (by simp at U;simp;omega)))
 refine ab.no rfl ?_;refine AL.mk (AO u rfl) ?_;rw[Bl];refine ab.intro (λr=>?_) (λr=>?_)
 ·exact aw (by simp at r;simp[r])
 ·refine Aa.mk (AB u rfl) ?_;simp at r;refine ab.intro (λam=>?_) (λam=>?_)
  ·refine AL.mk (AB u rfl) ?_;rw[Bl];cases U:(!decide (x.val=⟨#[]⟩))
   ·exact bc (by simp[r,am,U])
   ·exact aw (by simp[r,am,U])
  ·exact bc (by simp[r,am])
theorem tD {d:ao}{a:aa}{t:Nat}{ns:List Dl}{l:List Pr}{b:A2X}(T:cW a t ns l)(e:b (J1 #[J6 J9 (l.length:Int),J6 J9 (GR l:Int)]) a):AA d P Kk #[J5 (some ⟨t,0,none⟩)] a b:=by obtain⟨nx,c,_⟩:=T.lay;refine ABr ?_;unfold UX;refine ab.no rfl ?_;exact AC.mk (AB c.head lH.1) (AC.mk (AB c.head lH.2) e)
def WA:Pr:=⟨⟨#[]⟩,⟨#[]⟩,false⟩
def OM(key:A2Y)(l:List Pr):Pr×Bool:=match l[aH key l]? with|some q=>if q.key=key then(q,true) else(WA,false)|none=>(WA,false)
theorem three {a:aa}{b:Nat}{T:Q7}{j k l:J0}{f v:A2Y}{g:Bool}{K:aa->Prop}(m:a[b]? =some (J2 #[j,k,l] T (0,0)))
  (n: ∀d,d[b]? =some (J2 #[J7 f,J7 v,J3 g] T (0,0))->Mod (λc=>c=b) a d->K d):
  ae a ⟨b,0,none⟩ (J7 f) λh=>ae h ((⟨b,0,none⟩:Q6).add 1) (J7 v) λi=>ae i ((⟨b,0,none⟩:Q6).add 2) (J3 g) λe=>K e:=by
 refine ae.mk m (by simp) λh o p u=>?_
 rw[Bp,Bp];refine ae.mk o (by simp) λi q r w=>?_
 refine ae.mk q (by simp) λe s t x=>?_
 exact n e (by simpa using s) ((p.trans r).trans t)
theorem xV {b c:aa}{t:Nat}{ns:List Dl}{nx:Nat->Nat->Q2}{f g:Int}{key:A2Y}{q:Nat->Nat}(h:Lay b t ns nx f g)(K:kG ns nx)(d: ∀i,i<12->Wp ns key i (q i))(x:Ext b c):
  af c (((addrAt t ns (q 0)).add 3).add (0*1))=some (J5 ((ns[aH key (bX ns)]?).map λj=>⟨j.ag,0,none⟩)):=by
 have a:=gI.zero K.ht (d 0 (by omega));have e:=Z0 key ns;have k:=(h.ext x).next (p:=q 0) (i:=0) (by rw[a];exact e) (by omega);rw[k,K.link (q 0) 0 (by rw[a];exact e) (by omega) (d 0 (by omega)).ht,a,UJ K.ht]
theorem ATX {B:ao}{d:aa}{t:Nat}{ns:List Dl}{l:List Pr}{key:A2Y}{m:A2X}(T:cW d t ns l)(C: ∀u,Ext d u->m (J1 #[(OM key l).1.agg,J3 (OM key l).2]) u):
  AA B P OX #[J5 (some ⟨t,0,none⟩),J7 key] d m:=by
 obtain⟨nx,n,v⟩:=T.lay;refine ABJ ?_;unfold UY;refine ai.mk λL _ D o M=>ab.no rfl ?_
 have E:Sorted (bX ns):=by rw[T.bX];exact T.sorted
 refine ri (n.ext o) v E λq p F r=>⟨_,_,_,_,_,_,_,_,_,_,_,_,rfl,?_⟩
 refine aA ⟨by omega,AY.mk (xV (n.ext o) v F r) ?_⟩;have w:=r.ag D (by simp);have x:Ext d p:=o.trans r;have G:=n.ext x;have af:OM key l=match ns[aH key (bX ns)]? with|some f=>if f.pr.key=key then(f.pr,true) else(WA,false)|none=>(WA,false):=by unfold OM;rw[<- T.bX];rw[show bX ns=ns.map (·.pr) from rfl,B9];cases ns[aH key (ns.map (·.pr))]? <;>rfl
 have y: ∀(g:Pr) (b:Bool) a,a[d.size]? =some (J2 #[J7 g.key,J7 g.val,J3 g.gone] AU (0,0))->Mod (λc=>c=d.size) p a->OM key l=(g,b)->
   (AL a (⟨d.size,0,none⟩:Q6) λH=>AL a ((⟨d.size,0,none⟩:Q6).add 1) λI=>Aa a ((⟨d.size,0,none⟩:Q6).add 2) λJ=>m (J1 #[.agg #[J7 H,J7 I,J3 J],J3 b]) a):=λg b a e h s=>by
  refine AL.mk (AO e rfl) (AL.mk (AB e rfl) (Aa.mk (AB e rfl) ?_));have:=C a (x.then (h.ak λc _ N=> .inr (by omega)));rw[s] at this;exact this
 refine ah.mk λK z=>?_
 have A:OM key l=(WA,false)->K (false,()) p:=λs=>z _ _ (ab.no rfl (three w λa e h=>y WA false a e h s))
 cases i:ns[aH key (bX ns)]? with
 |none=>
  rw[i] at af;exact ab.no rfl (A af)
 |some f=>
  rw[i] at af;refine ab.yes rfl (aA ?_);have j:=G.pair i;refine AL.mk j.1 ?_;rw[Bl];by_cases k:f.pr.key=key
  ·rw[decide_eq_true k];refine z _ _ (ab.yes rfl ?_);rw[i];refine aA (AL.mk j.1 (AL.mk j.2.1 (Aa.mk j.2.2 ?_)));simp only[k,if_true] at af;exact three w λa e h=>y f.pr true a e h af
  ·rw[decide_eq_false k];simp only[k,if_false] at af;exact A af
theorem tx {a c b:J0}:(#[]++ #[a]++ #[c,b]:Array J0)= #[a,c,b]:=rfl
theorem ASt {A:ao}{u:aa}{b c t:Nat}{T V:Q7}{fr W:Nat×Nat}{ns:List Dl}{l:List Pr}{key:A2Y}(f:u[b]? =some (J2 #[J5 (some ⟨t,0,none⟩)] T fr))(L:u[c]? =some (J2 #[J7 key] V W))(j:cW u t ns l):
  Ee A P (.func (.func LG) #[] #[J5 (some ⟨b,0,none⟩),J5 (some ⟨c,0,none⟩)]) (λe=>dj t ns e\/e=b\/e=c) u (l.drop (aH key l)):=by
 refine⟨?_,_,_,rfl,λX=>by kernel_rfl,λd v X Y k h hd hB Z ac=>?_⟩
 ·rintro e (hd|rfl|rfl)
  ·exact j.lt hd
  ·exact Ai f
  ·exact Ai L
 rw[tx];refine Xb ?_;unfold QN;have M:=(v b (.inr (.inl rfl))).trans f;have ae:=(v c (.inr (.inr rfl))).trans L;obtain⟨nx,w,o⟩:=j.lay;have y:Lay d t ns nx (l.length:Int) (GR l:Int):=
  ⟨(v t (.inl (.inl rfl))).trans w.head,λa x C=>⟨(v x.ag (.inl (.inr ⟨x,AG C,rfl⟩))).trans (w.node a x C).1,(w.node a x C).2⟩,w.apart⟩
 have N: ∀e,dj t ns e-> ¬k e:=λe ag=>hd e (.inl ag)
 refine AY.mk (AO M rfl) (ab.no rfl (AY.mk (AO M rfl) (AL.mk (AO ae rfl) ?_)));have ah:Sorted (bX ns):=by rw[j.bX];exact j.sorted
 refine ri y o ah λq ai r D=>⟨_,_,_,_,_,_,_,_,_,_,_,_,rfl,?_⟩
 refine aA ⟨by omega,AY.mk (xV y o r D) ?_⟩;have aj:aH key (bX ns)=aH key l:=by rw[j.bX]
 have ar:=mP key l;have au:ns.length=l.length:=by rw[<- j.bX];simp
 rw[aj];have ak:=hB.aX _ _ _ _ _ ac (D.ak (S':=λb=>¬k b/\d.size<=b) λ_ _ d=>d.elim);refine Loop.rule (λm x z=> ∃(a:Nat) (s:Nat->Prop),x=((ns[aH key l+a]?).map λn=>(⟨n.ag,0,none⟩:Q6),())/\m=l.length-(aH key l+a)/\aH key l+a<=l.length/\Mod k d z/\(∀ b,s b->k b\/d.size<=b)/\Y a true s z) ?_
  ⟨0,k,rfl,rfl,by omega,D.mod,λb f=> .inl f,ak⟩
 rintro K m _ z ⟨a,s,rfl,rfl,av,B,E,O⟩ al;have F:(l.drop (aH key l)).length=l.length-aH key l:=by simp
 cases h:ns[aH key l+a]? with
 |none=>
  have:=List.getElem?_eq_none_iff.1 h;refine ab.no rfl ?_;exact⟨rfl,a,true,s,B,E,O,λ_=>by rw[F];omega,by rw[F];omega⟩
 |some n=>
  have aw:=(List.getElem?_eq_some_iff.1 h).1;have G:=(y.mod B N).pair h;refine ab.yes rfl (aA (AL.mk G.1 (AL.mk G.2.1 (Aa.mk G.2.2 ?_))));have af:(l.drop (aH key l))[a]? =some n.pr:=by
   rw[By];have Q:(bX ns)[aH key l+a]? =some n.pr:=by rw[show bX ns=ns.map (·.pr) from rfl,B9,h];rfl
   rw[j.bX] at Q;exact Q
  refine EM.mono (Z a n.pr s z af O) ?_;rintro _ am ⟨g,H,rfl,an,ap,R⟩;have ax:=B.size;have S: ∀b,H b->k b\/d.size<=b:=λb f=>(an b f).elim (E b) λai=> .inr (by omega)
  have I:Mod k d am:=B.then (ap.ak λb _ f=>E b f);refine⟨g,rfl,ab.intro (λr=>?_) (λr=>?_)⟩
  ·have J:g=false:=by simpa using r
   subst J;exact⟨rfl,a+1,false,H,I,S,R,(λd=>by cases d),by rw[F];omega⟩
  ·have J:g=true:=by simpa using r
   subst J;refine aA ⟨by omega,?_⟩;have U:=(y.mod I N).next (p:=aH key l+a+1) (i:=0) (by omega) (by omega);have aq:addrAt t ns (aH key l+a+1)=⟨n.ag,0,none⟩:=by simp[addrAt,h]
   rw[aq,o.link _ 0 (by omega) (by omega) (by have:=(o.ht n (AG h)).1;simp[Uj,h];omega),UJ o.ht] at U;refine AY.mk U ?_;exact al (l.length-(aH key l+(a+1))) _ _ (by omega) ⟨a+1,H,rfl,rfl,by omega,I,S,R⟩
theorem tE {A:ao}{a:aa}{t:Nat}{ns:List Dl}{l:List Pr}{key:A2Y}{f:A2X}(T:cW a t ns l)
  (i: ∀fv d,Ee A P fv (λb=>dj t ns b\/b=a.size\/b=a.size+1) d (l.drop (aH key l))->Ext a d->d.size=a.size+2->f fv d):AA A P Jo #[J5 (some ⟨t,0,none⟩),J7 key] a f:=by
 refine AAP ?_;unfold Rt;refine ai.mk λp _ j k m=>ai.mk λg _ n h q=>?_
 have e:Ext a g:=k.trans h;have o:=ASt (A:=A) (h.ag j (by simp)) n (T.ext e) (key:=key);refine i _ g (o.ak ?_ ?_ (λc _=>rfl)) e (by omega)
 ·rintro b (hd|rfl|rfl)
  ·exact .inl hd
  ·exact .inr (.inl rfl)
  ·exact .inr (.inr m)
 ·rintro b (hd|rfl|rfl)
  ·exact(T.ext e).lt hd
  ·omega
  ·omega
theorem AQM(l:List Pr):aH ⟨#[]⟩ l=0:=by
 have: ∀x:A2Y,aI x ⟨#[]⟩=false:=λx=>by
  have a:(⟨#[]⟩:A2Y).toList= []:=by simp[ByteArray.toList_eq]
  unfold aI;rw[a];cases x.toList<;>rfl
 cases l with
 |nil=>rfl
 |cons x l=>simp[aH,gS,this]
theorem tA(l:List Pr):l.drop (aH ⟨#[]⟩ l)=l:=by rw[AQM];rfl
def qb:Pr:=⟨⟨#[98]⟩,⟨#[49]⟩,false⟩
end Go.Lf.G.M
namespace Go.Lf.G
open Go
open M (aH Ab Sorted BN)
theorem AV3(a b:A2Y):(!(aI a b||bB a b))=aI b a:=by
 cases e:aI b a with
 |true=>
  have c:aI a b=false:=by grind [aI,DW,CV]
  have d:bB a b=false:=by
   rw[Bl,decide_eq_false_iff_not]
   grind
  rw[c,d];rfl
 |false=>
  grind [aI,NW,Bl]
theorem AJX {a b c:A2Y}(d:aI a b=true)(e:aI c b=false):aI a c=true:=by grind [aI,DW,NW]
theorem mB {l:List Pr}(b:Sorted l){i a:Nat}{p q:Pr}(c:l[i]? =some p)(d:l[a]? =some q)(e:i<a):aI p.key q.key=true:=by obtain⟨f,rfl⟩:=List.getElem?_eq_some_iff.1 c;obtain⟨g,rfl⟩:=List.getElem?_eq_some_iff.1 d;exact List.pairwise_iff_getElem.1 b _ _ f g e
structure AU3 (l:List Pr) (key:A2Y) (B:Nat):Prop where
 lt:B<CB l
 below: ∀(x:Nat) (p:Pr),x<8*B->l[x]? =some p->aI p.key key=true
 there: ∀(x:Nat) (p:Pr),l[x]? =some p->p.key=key->8*B<=x/\x<8*B+8
theorem AVj {l:List Pr}{key:A2Y}{b:Nat}(i:Sorted l)(j:l≠ [])(t:b<=CB l)(k: ∀a,a<b->aI key (JK l (8*a))=false)(m:b<CB l->aI key (JK l (8*b))=true):AU3 l key (b-1):=by
 have u:=yX j;have af: ∀a,a<CB l-> ∃q,l[8*a]? =some q/\JK l (8*a)=q.key:=by grind [CB,List.getElem?_eq_getElem,JK]
 have n: ∀(x:Nat) (p:Pr),x<8*(b-1)->l[x]? =some p->aI p.key key=true:=by intro x p g d;obtain⟨q,e,f⟩:=af (b-1) (by omega);have c:=mB i d e g;have:=k (b-1) (by omega);rw[f] at this;exact AJX c this
 refine⟨by omega,n,λx p d f=>⟨?_,?_⟩⟩
 ·grind [Nat.le_of_not_lt,CV]
 ·apply Nat.lt_of_not_le;intro g;have v:=(List.getElem?_eq_some_iff.1 d).1;have step: ∀a,8*a<=x->a<CB l->aI key (JK l (8*a))=true->False:=by
   intro a w o c;obtain⟨q,e,r⟩:=af a o;rw[r] at c;rcases CD (8*a) x with s|s
   ·grind [mB,DW,CV]
   ·have:8*a=x:=by omega
    rw[this,d] at e;cases e;rw[f,CV] at c;cases c
  have h:b<CB l:=by unfold CB;omega
  exact step b (by omega) h (m h)
theorem ATu {i a:Nat}(b:i+a<=2*1099511627776):J8 J9 ((J8 .u64 (J8 J9 (((i:Nat):Int)+((a:Nat):Int)))).fdiv ((2:Int)^(1:Nat)))=(((i+a) / 2:Nat):Int):=by rw[show((i:Nat):Int)+((a:Nat):Int)=((i+a:Nat):Int) by omega,Fz (by omega),CL (by omega),Px,Fz (by omega)]
theorem APx {n:ao}{f:aa}{fv:J0}{c:Nat}{p:Nat->Bool}{o:A2X}(C:c<=1099511627776)(D: ∀i b,i<=b->b<c->p i=true->p b=true)
  (y: ∀i d,i<c->Ext f d->EM n P fv #[J6 J9 (i:Int)] d λv g=>v=J3 (p i)/\Ext d g)
  (z: ∀h g,h<=c->(∀ b,b<h->p b=false)->(h<c->p h=true)->Ext f g->o (J6 J9 (h:Int)) g):AA n P RN #[J6 J9 (c:Int),fv] f o:=by
 refine AEK ?_;unfold YO;refine Loop.rule (λm x d=> ∃i b:Nat,x=((i:Int),(b:Int),())/\m=b-i/\i<=b/\b<=c/\(∀ a,a<i->p a=false)/\(b<c->p b=true)/\Ext f d) ?_ ⟨0,c,rfl,rfl,by omega,A0 _,λa A=>by omega,λf=>by omega,Mod.refl⟩;rintro K m _ d ⟨i,b,rfl,rfl,k,q,r,s,j⟩ t;dsimp only;refine ab.intro (λl=>?_) (λl=>?_)
 ·have k:i<b:=by simp at l;omega
  rw[ATu (by omega)];refine ah.mk λE u=>?_
  have B:(i+b) / 2<c:=by omega
  refine EM.mono (y _ d B j) ?_;rintro v g ⟨rfl,w⟩;refine⟨_,rfl,ab.intro (λe=>?_) (λe=>?_)⟩
  ·have e:p ((i+b) / 2)=false:=by simpa using e
   refine u _ _ ?_;dsimp only;rw[Ac (by omega)];refine t (b-((i+b) / 2+1)) _ _ (by omega) ⟨(i+b) / 2+1,b,rfl,rfl,by omega,q,λa A=>?_,s,j.trans w⟩
   grind
  ·have e:p ((i+b) / 2)=true:=by simpa using e
   refine u _ _ ?_;exact t ((i+b) / 2-i) _ _ (by omega) ⟨i,(i+b) / 2,rfl,rfl,by omega,by omega,r,λ_=>e,j.trans w⟩
 ·have k:i=b:=by simp at l;omega
  subst k;exact z i d q r s j
abbrev ALY:Q8:=JC
theorem AJq {A:ao}{h:aa}{t lo hi:Nat}{l:List Pr}{f:List UInt8}{key:A2Y}{R:A2X}(T:bU h t l f lo hi)(c:gO (aT (aN l f)) l f)
  (C: ∀d o,AU3 l key o->Ext h d->R (J6 J9 (o:Int)) d):AA A P G9 #[Ap t,J7 key] h R:=by
 refine Vu ?_;unfold Oe;refine ai.mk λe _ D E V=>ai.mk λW _ F r X=>?_
 have u:=Ay r D;have w:=E.trans r;obtain⟨k,Y,x,y,Z,_,_⟩:=(T.ext w).at_;refine AY.mk (AO u rfl) (aA ?_);refine AV.mk (s:=k) (AO x rfl) ?_;have G:k.len=CB l:=by rw[y.len,IP]
 have ab:=c.many;have ac:CB l<=12501:=by unfold CB;omega
 rw[G];have z: ∀b,b<CB l-> ∃q,l[8*b]? =some q/\JK l (8*b)=q.key:=by
  intro b m;have:8*b<l.length:=by unfold CB at m;omega
  exact⟨l[8*b],A2 this,by unfold JK;simp_all⟩
 refine APx (p:=λb=>aI key (JK l (8*b))) (by omega) (λi b ae m B=>?_) (λi n hi g=>?_) λj H I e J K=>⟨_,rfl,?_⟩
 ·rcases CD i b with h|h
  ·obtain⟨af,L,M⟩:=z i (by omega);obtain⟨ag,N,O⟩:=z b m;have:=mB c.inc L N (by omega);rw[M] at B;rw[O];exact DW B this
  grind
 ·have Q:=EM.func (A:=A) (P:=P) (f:=ALY) (first:= #[]) (bM:= #[Ap h.size,Ap e.size]) (args:= #[J6 J9 (i:Int)]) (h:=n) (R:=λv d=>v=J3 (aI key (JK l (8*i)))/\Ext n d) (by kernel_rfl) ?_
  ·exact Q
  ·show AA A P ALY #[J6 J9 (i:Int),Ap h.size,Ap e.size] n _;refine Tt ?_;unfold Mi;refine aA (AY.mk (AO (Ay g u) rfl) (aA ?_));refine AV.mk (s:=k) (AO (Ay g x) rfl) ?_;refine(y.ext g).idx (TI hi) λa ah S=>?_
   rw[A6];refine AL.mk S.str (aA ?_);refine AL.mk (AO (Ay g F) rfl) ?_;rw[AV3];exact⟨rfl,Mod.refl⟩
 ·have U:(if((J8 J9 (((j:Nat):Int)-(1:Int))):Int)>0 then(J8 J9 (((j:Nat):Int)-(1:Int))) else 0)=((j-1:Nat):Int):=by grind [wrap_i64]
  rw[U];exact C H (j-1) (AVj c.inc c.ne I e J) (w.trans K)
def XY(key:A2Y)(l:List Pr):Pr×Bool:=match Ab key l with|some q=>(q,true)|none=>(M.WA,false)
theorem AT9 {l:List Pr}(d:Sorted l){p:Pr}(f:p∈l):Ab p.key l=some p:=by
 unfold Ab;cases e:l.find? λq=>decide (q.key=p.key) with
 |none=>
  grind
 |some q=>
  have b:=LR e;have b:q.key=p.key:=of_decide_eq_true b;obtain⟨i,hi⟩:=DG (Is e);obtain⟨g,c⟩:=DG f;rcases HN i g with a|a|a
  ·have:=mB d hi c a;rw[b,CV] at this;cases this
  ·subst a;rw[hi] at c;exact c
  ·have:=mB d c hi a;rw[b,CV] at this;cases this
theorem AHI {l:List Pr}{key:A2Y}(a: ∀p∈l,p.key≠key):Ab key l=none:=by simp_all [Ab,GW]
theorem AUV {af:ao}{d:aa}{t lo hi:Nat}{l:List Pr}{f:List UInt8}{key:A2Y}{F:A2X}(T:bU d t l f lo hi)(o:gO (aT (aN l f)) l f)(ag:key.size<=1099511627776)
  (aj: ∀L,Ext d L->F (J1 #[(XY key l).1.agg,J3 (XY key l).2]) L):AA af P MJ #[Ap t,J7 key] d F:=by
 refine Yq ?_;unfold Qu;refine ai.mk λN _ O z aR=>?_
 have tail: ∀g x,Ext d g->g[d.size]? =some (J2 #[J7 ⟨#[]⟩,J7 ⟨#[]⟩,J3 false] AU (0,0))-> ∀(q:Pr) (b:Bool),XY key l=(q,b)->x=Value.tuple #[.agg #[J7 q.key,J7 q.val,J3 q.gone],J3 b]->
   ∀ {r u:A2Y} {v:Bool},r=q.key->u=q.val->v=q.gone->
   ae g (⟨d.size,0,none⟩:Q6) (J7 r) λQ=>ae Q ((⟨d.size,0,none⟩:Q6).add 1) (J7 u) λR=>ae R ((⟨d.size,0,none⟩:Q6).add 2) (J3 v) λh=>
    AL h (⟨d.size,0,none⟩:Q6) λak=>AL h ((⟨d.size,0,none⟩:Q6).add 1) λal=>Aa h ((⟨d.size,0,none⟩:Q6).add 2) λam=>F (J1 #[.agg #[J7 ak,J7 al,J3 am],J3 b]) h:=by
  intro g x w an q b ap aS r u v aq ar au;subst aq ar au;refine ae.mk an (by simp) λQ av aw aU=>?_
  rw[Bp,Bp];refine ae.mk av (by simp) λR ax ay aV=>?_
  refine ae.mk ax (by simp) λh G az aW=>?_
  refine AL.mk (AO G rfl) (AL.mk (AO G rfl) (Aa.mk (AO G rfl) ?_));have j:Ext d h:=⟨by have:=w.size;omega,λc aC _=>(az.get c (by have:=w.size;omega) (by omega)).trans ((ay.get c (by have:=w.size;omega) (by omega)).trans ((aw.get c (by have:=w.size;omega) (by omega)).trans (w.get c aC (λd=>d))))⟩;have:=aj h j;rw[ap] at this;exact this
 refine ah.mk λK aD=>?_
 refine ab.no rfl (aA ?_);obtain⟨aX,aE,H,aY,aF,_,_⟩:=(T.ext z).at_;refine AL.mk (AB H rfl) ?_;refine ARY ag ⟨_,rfl,?_⟩;rw[Fg];refine aD _ _ ?_;refine ab.intro (λk=>?_) (λk=>?_)
 ·have k:gN f key=false:=by simpa using k
  have I:Ab key l=none:=AHI λp y A=>by
   have:=o.has p y;rw[A,k] at this;cases this
  exact tail N _ z O M.WA false (by unfold XY;rw[I]) rfl rfl rfl rfl
 ·refine aA (AV.mk (s:=aE) (AB H rfl) ?_);refine AJq (T.ext z) o λaZ a hB B=>⟨_,rfl,AB (Ay B H) rfl,?_⟩
  have aG:((Lr l).map λb=>Ae (Br b))[a]? =some (Ae (Br (CQ l a))):=by simp[Lr,hB.lt]
  refine(aF.ext B).idx aG λa0 a1 aH=>?_
  rw[A6];refine AL.mk aH.str ?_;have aI: ∀p∈CQ l a,NA p:=λp y=>o.ok p (RI y)
  have a2:=SY o.ok hB.lt;refine sP aI (by omega) λps aJ S U a3=>⟨_,_,rfl,?_⟩
  have a4:ps.len=(CQ l a).length:=S.len;have a5:=SN hB.lt;have V:=(z.trans B).trans U;have W:=Ay U (Ay B O);refine Loop.rule (λm x aK=> ∃e:Nat,x=((e:Int),())/\m=(CQ l a).length-e/\e<=(CQ l a).length/\(∀ i p,i<e->(CQ l a)[i]? =some p->p.key≠key)/\Ext aJ aK) ?_ ⟨0,rfl,rfl,by omega,λi p hi=>by omega,Mod.refl⟩;rintro a6 m _ aL ⟨e,rfl,rfl,a7,X,n⟩ aM;dsimp only;refine ab.intro (λk=>?_) (λk=>?_)
  ·have C:e<(CQ l a).length:=by grind
   have j:(CQ l a)[e]? =some (CQ l a)[e]:=A2 C;have Y:(CQ l a)[e]∈l:=RI (BT C);generalize (CQ l a)[e]=p at j Y;refine(S.ext n).view.idx j λa8 a9 aO=>?_
   obtain⟨r,u,v⟩:=aO.pair;rw[A6];refine AL.mk r (AL.mk u (Aa.mk v ?_));refine ai.pair λba aP bb D J bc=>?_
   refine AL.mk (AO D rfl) ?_;refine ab.intro (λE=>?_) (λE=>?_)
   ·rw[Bl,decide_eq_true_iff] at E;refine AL.mk (AO D rfl) (AL.mk (AB D rfl) (Aa.mk (AB D rfl) ?_));have Z:=AT9 o.inc Y;rw[E] at Z;exact tail aP _ ((V.trans n).trans J) (Ay J (Ay n W)) p true (by unfold XY;rw[Z]) rfl rfl rfl rfl
   ·rw[Bl,decide_eq_false_iff_not] at E;rw[Ac (by omega)];refine aM ((CQ l a).length-(e+1)) _ _ (by omega) ⟨e+1,rfl,rfl,C,λi q hi aQ=>?_,n.trans J⟩;by_cases bd:i=e
    ·grind
    ·exact X i q (by omega) aQ
  ·have C:e=(CQ l a).length:=by grind
   have I:Ab key l=none:=AHI λp y A=>by
    obtain⟨x,j⟩:=DG y;obtain⟨N,be⟩:=hB.there x p j A;have ac:(CQ l a)[x-8*a]? =some p:=by rw[Rs (by omega),show 8*a+(x-8*a)=x by omega];exact j
    have:=(List.getElem?_eq_some_iff.1 ac).1;exact X (x-8*a) p (by omega) ac A
   exact tail aL _ (V.trans n) (Ay n W) M.WA false (by unfold XY;rw[I]) rfl rfl rfl rfl
theorem ATQ {key:A2Y}{l:List Pr}(a:Sorted l){x:Nat}{p:Pr}(b:l[x]? =some p):x<aH key l↔aI p.key key=true:=M.pD a b
theorem APL {A:ao}{z:aa}{b c t lo hi:Nat}{aX aq:Q7}{l:List Pr}{f:List UInt8}{key:A2Y}(u:z[b]? =some (J2 #[Ap t] aX (0,0)))(aY:z[c]? =some (J2 #[J7 key] aq (0,0)))
  (T:bU z t l f lo hi) (bs:hi<=z.size) (B:gO (aT (aN l f)) l f):
  Ee A P (.func (.func JV) #[] #[Ap b,Ap c]) (λe=>(lo<=e/\e<hi)\/e=b\/e=c) z (l.drop (aH key l)):=by
 refine⟨?_,_,_,rfl,λaZ=>by kernel_rfl,λh X aZ ar k bt hd hB a0 a1=>?_⟩
 ·grind
 rw[M.tx];refine Um ?_;unfold Nz;have I:=(X b (.inr (.inl rfl))).trans u;have au:=(X c (.inr (.inr rfl))).trans aY;have av:bU h t l f lo hi:=by
  obtain⟨aw,o,w,J,Y,Z,ax⟩:=T.at_;have ay: ∀ {s:Sl} {az:List A2Y},View Jn z s az->(∀ e,s.ag=some e->lo<=e/\e<hi)->View Jn h s az:=λv bu=>⟨v.len,v.cap,λi x hi=>by
   obtain⟨a,a2,a3⟩:=v.cells i x hi;refine⟨a,a2,λj v aC=>?_⟩;rw[<- a3 j v aC]
   grind [SE,aP,Sl.ag]⟩
  exact⟨⟨aw,o,(X t (.inl T.jv)).trans w,ay J Z,ay Y ax,Z,ax⟩,T.jv⟩
 have a4: ∀e,lo<=e->e<hi-> ¬k e:=λe w J=>hd e (.inl ⟨w,J⟩)
 obtain⟨aw,o,aD,bv,aE,bw,a5⟩:=av.at_;refine aA (AY.mk (AO I rfl) (ab.no rfl (aA (AY.mk (AO I rfl) (aA (AV.mk (s:=o) (AB aD rfl) (aA (AY.mk (AO I rfl) (aA (AL.mk (AO au rfl) ?_))))))))));refine AJq av B λw d aF L=>⟨_,rfl,AB (Ay L aD) rfl,AO (Ay L I) rfl,?_⟩
 have aG:o.len=CB l:=by rw[aE.len];simp[JW]
 have bx:=aF.lt;refine⟨by rw[aG];omega,?_⟩;rw[A6,aG];have bz:=M.mP key l;have bA:=B.many;have bB:CB l<=12501:=by unfold CB;omega
 have bC:8*d<=aH key l:=by
  apply N6;intro N;have a6:aH key l<l.length:=by grind [CB]
  obtain⟨q,C⟩: ∃q,l[aH key l]? =some q:=⟨_,A2 a6⟩;have w:=aF.below _ _ N C;have J:=(ATQ B.inc C).2 w;omega
 have ac:(l.drop (aH key l)).length=l.length-aH key l:=by simp
 have a7:=hB.aX _ _ _ _ _ a1 (L.ak (S':=λb=>¬k b/\h.size<=b) λ_ _ h=>h.elim);have a8:View Jn h ⟨BC o.p o.cap d 1,CB l-d,o.cap-d⟩ (((Lr l).map λb=>Ae (Br b)).drop d):=by have:=aE.sub (lo:=d) (hi:=CB l) (by omega) (by simp[JW]);rw[AD (by simp[JW])] at this;exact this
 have a9: ∀e,Sl.ag ⟨BC o.p o.cap d 1,CB l-d,o.cap-d⟩=some e-> ¬k e:=λe n=>by
  have:=a5 e (rf n);exact a4 e this.1 this.2
 refine Loop.rule (λm x ae=> ∃(i:Nat) (D:Nat->Prop),x=((i:Int),())/\m=CB l-d-i/\i<=CB l-d/\Mod k h ae/\(∀ b,D b->k b\/h.size<=b)/\ar (min (8*(d+i)) l.length-aH key l) true D ae) ?_
  ⟨0,k,rfl,rfl,by omega,L.mod,λb u=> .inl u,by
   have:min (8*(d+0)) l.length-aH key l=0:=by omega
   rw[this];exact a7⟩
 rintro K m _ ae ⟨i,D,rfl,rfl,hi,O,aJ,F⟩ ba;dsimp only;refine ab.intro (λG=>?_) (λG=>?_)
 ·have aK:i<CB l-d:=by simp at G;omega
  have Q:d+i<CB l:=by omega
  have bD:8*(d+i)<l.length:=by unfold CB at Q;omega
  have bb:(((Lr l).map λb=>Ae (Br b)).drop d)[i]? =some (Ae (Br (CQ l (d+i)))):=by rw[By];simp[Lr,Q]
  refine(a8.mod O a9).idx bb λbE bF bc=>?_
  rw[A6];refine AL.mk bc.str ?_;have bd: ∀p∈CQ l (d+i),NA p:=λp be=>B.ok p (RI be)
  have bG:=SY B.ok Q;have bH:=SN Q;refine sP bd (by omega) λps Y ag aL bI=>⟨_,_,rfl,?_⟩
  have bJ:ps.len=(CQ l (d+i)).length:=ag.len;have bf:min (8*(d+i)) l.length=8*(d+i):=by omega
  rw[bf] at F;have bK:=O.size;have bL:=hB.wf _ _ _ _ F;have bg:=hB.aX _ _ _ _ _ F (aL.ak (S':=λb=>¬D b/\h.size<=b) λ_ _ h=>h.elim);have bh:Mod k h Y:=O.trans aL.mod;refine Loop.rule (λm x R=> ∃(j:Nat) (r:Nat->Prop),x=((j:Int),())/\m=(CQ l (d+i)).length-j/\j<=(CQ l (d+i)).length/\Mod k h R/\(∀ b,r b->k b\/h.size<=b)/\(∀ e,ps.ag=some e-> ¬r e/\e<R.size)/\View Bg R ps (CQ l (d+i))/\ar (8*(d+i)+j-aH key l) true r R) ?_
   ⟨0,D,rfl,rfl,by omega,bh,aJ,λe n=>⟨λh=>by grind,ag.lt n⟩,ag.view,bg⟩
  rintro bM m _ Z ⟨j,r,rfl,rfl,aC,aj,S,E,ak,aM⟩ aO;dsimp only;refine ab.intro (λG=>?_) (λG=>?_)
  ·have H:j<(CQ l (d+i)).length:=by grind
   have C:(CQ l (d+i))[j]? =some (CQ l (d+i))[j]:=A2 H;have U:l[8*(d+i)+j]? =some (CQ l (d+i))[j]:=by rw[<- Rs (by omega)];exact C
   generalize (CQ l (d+i))[j]=p at C U;refine ak.idx C λbN bO bi=>?_
   obtain⟨bj,bk,bm⟩:=bi.pair;rw[A6];refine AL.mk bj (AL.mk bk (Aa.mk bm ?_));refine ai.pair λbP al bQ V y bR=>?_
   have W:Mod k h al:=aj.trans y.mod;have bS:=aj.size;have aQ:=hB.aX _ _ _ _ _ aM (y.ak (S':=λb=>¬r b/\h.size<=b) λ_ _ h=>h.elim);have bn:al[c]? =some (J2 #[J7 key] aq (0,0)):=W.ag au (hd c (.inr (.inr rfl)));refine ah.mk λbT aR=>?_
   refine AL.mk (AO V rfl) (aA (AL.mk (AO bn rfl) ?_));have bV:=(List.getElem?_eq_some_iff.1 U).1;have bo:=ATQ (key:=key) B.inc U;refine ab.intro (λN=>?_) (λN=>?_)
   ·have bp:aH key l<=8*(d+i)+j:=by grind
    refine AL.mk (AO V rfl) (AL.mk (AB V rfl) (Aa.mk (AB V rfl) ?_));have af:(l.drop (aH key l))[8*(d+i)+j-aH key l]? =some p:=by rw[By,show aH key l+(8*(d+i)+j-aH key l)=8*(d+i)+j by omega];exact U
    refine EM.mono (a0 _ p r al af aQ) ?_;rintro _ bq ⟨g,am,rfl,aS,an,aU⟩;have bW:=W.size;have aV: ∀b,am b->k b\/h.size<=b:=λb u=>(aS b u).elim (S b) λw=> .inr (by omega)
    have aW:Mod k h bq:=W.then (an.ak λb _ u=>S b u);refine⟨g,rfl,aR _ _ ?_⟩;dsimp only;cases g with
    |false=>exact ab.yes rfl ⟨rfl,_,false,am,aW,aV,aU,(λh=>by cases h),by rw[ac];omega⟩
    |true=>
     refine ab.no rfl ?_;rw[Ac (by omega)];refine aO ((CQ l (d+i)).length-(j+1)) _ _ (by omega) ⟨j+1,am,rfl,rfl,H,aW,aV,λe n=>⟨λh=>?_,by have:=E e n;have:=y.size;have:=an.size;omega⟩,?_,?_⟩
     ·rcases aS e h with h|h
      ·exact(E e n).1 h
      ·have:=(E e n).2;have:=y.size;omega
     ·exact(ak.ext y).mod an λe n=>(E e n).1
     ·rw[show 8*(d+i)+(j+1)-aH key l=8*(d+i)+j-aH key l+1 by omega];exact aU
   ·have br:aI p.key key=true:=by simpa using N
    have bp:=bo.2 br;refine aR _ _ (ab.no rfl ?_);rw[Ac (by omega)];refine aO ((CQ l (d+i)).length-(j+1)) _ _ (by omega) ⟨j+1,r,rfl,rfl,H,W,S,λe n=>⟨(E e n).1,by have:=(E e n).2;have:=y.size;omega⟩,ak.ext y,?_⟩;rw[show 8*(d+i)+(j+1)-aH key l=8*(d+i)+j-aH key l by omega];exact aQ
  ·have H:j=(CQ l (d+i)).length:=by grind
   rw[Ac (by omega)];refine ba (CB l-d-(i+1)) _ _ (by omega) ⟨i+1,r,rfl,rfl,by omega,aj,S,?_⟩;have ap:min (8*(d+(i+1))) l.length=8*(d+i)+j:=by rw[H];unfold CQ;rw[Ax,FF];omega
   rw[ap];exact aM
 ·have aK:i=CB l-d:=by simp at G;omega
  have ap:min (8*(d+i)) l.length=l.length:=by rw[aK,show d+(CB l-d)=CB l by omega];unfold CB;omega
  rw[ap] at F;exact⟨rfl,l.length-aH key l,true,D,O,aJ,F,λ_=>ac.symm,by rw[ac];omega⟩
theorem AKi {A:ao}{a:aa}{t lo hi:Nat}{l:List Pr}{f:List UInt8}{key:A2Y}{g:A2X}(T:bU a t l f lo hi)(q:hi<=a.size)(j:gO (aT (aN l f)) l f)
  (k: ∀fv b,Ee A P fv (λd=>(lo<=d/\d<hi)\/d=a.size\/d=a.size+1) b (l.drop (aH key l))->Ext a b->b.size=a.size+2->g fv b):AA A P IW #[Ap t,J7 key] a g:=by
 refine XX ?_;unfold QE;refine ai.mk λr _ m n s=>ai.mk λh _ o i u=>?_
 have e:Ext a h:=n.trans i;have p:=APL (A:=A) (Ay i m) o (T.ext e) (by have:=e.size;omega) j (key:=key);refine k _ h (p.ak ?_ ?_ (λc _=>rfl)) e (by omega)
 ·omega
 omega
def Gf(a:aa)(c b:Nat)(d:A2Y)(e:Nat)(made:Bool):Prop:=a[c]? =some (J2 #[Ap b,J7 d,J6 J9 (e:Int),J3 made] y8 (0,0))
theorem Gf.mod {c d:aa}{a b:Nat}{e:A2Y}{f:Nat}{made:Bool}{g:Nat->Prop}(h:Gf c a b e f made)(x:Mod g c d)(i: ¬g a):Gf d a b e f made:=x.ag h i
theorem Gf.ext {a c:aa}{d b:Nat}{e:A2Y}{f:Nat}{made:Bool}(g:Gf a d b e f made)(x:Ext a c):Gf c d b e f made:=x.ag g (λa=>a)
theorem AFd {s:ao}{a:aa}{d b e:Nat}{f rec:A2Y}{made:Bool}{h:Nat->Prop}{m:Bx}{t:A2X}(H:bR a)(o:Gf a d b f e made)(I:Dw a b h m)(u: ¬h d)(V: ∀i,Mod h a i->bR i)(J:f.size<=1099511627776)(K:e<=4294967295)(L:rec.size<=1048576)(W:bJ m.files<=8000000000000)
  (w: ∀i S',Dw i b S' (FY m (br f e) (Ae (Iq (bl rec)))).2->Gf i d b f e (made||decide ((FY m (br f e) (Ae (Iq (bl rec)))).1=0))->Mod (λc=>h c\/c=d) a i->(∀ c,S' c->h c\/(a.size<=c/\c≠d))->t (J6 J9 (FY m (br f e) (Ae (Iq (bl rec)))).1) i):
  AA s P Jt #[Ap d,J7 rec] a t:=by
 refine Zv ?_;unfold R5;refine ab.no rfl ?_;have X:=Ai o;have M:(bl rec).length<=1048576:=by rw[BF];exact L
 have N:=LX M;rw[BF] at N;have O:rec=Ae (bl rec):=(Qs rec).symm;have go:AA s P IU #[J7 rec] a λv k=> ∃x:A2Y,∃y:Int,v=J1 #[J7 x,J6 J9 y]/\(x=Ae (Iq (bl rec))/\y=0/\Ext a k):=by
  rw[O];refine sG (by rw[Qs] at *;omega) (λk=>by rw[Qs] at *;omega) λ_ k j=>⟨_,_,rfl,?_,rfl,j⟩
  rw[Qs]
 refine AA.mono go ?_;rintro v k ⟨Y,Z,rfl,rfl,rfl,j⟩;refine⟨_,_,rfl,ab.no rfl ?_⟩;have p:=o.ext j;refine aA (AY.mk (AO p rfl) (aA (AL.mk (AB p rfl) (aA (AC.mk (AB p rfl) ?_)))));refine p5 (H.ext j) K J λac Q=>⟨_,rfl,?_⟩
 have l:=j.trans Q;have z:=o.ext l;refine⟨AO z rfl,?_⟩;refine tQ (I.ext l) (by rw[AP];omega) λr n A B C=>⟨_,rfl,?_⟩
 have D:Gf r d b f e made:=z.mod B u;have af:=l.size;have E: ∀c,n c->h c\/(a.size<=c/\c≠d):=λc g=>(C c g).imp id λa=>⟨by omega,by omega⟩
 have F:Mod (λc=>h c\/c=d) a r:=(Ext.mod l).trans (B.ak λc _ g=> .inl g);refine ab.intro (λq=>?_) (λq=>?_)
 ·have q:(FY m (br f e) (Ae (Iq (bl rec)))).1≠0:=by simpa using q
  exact w r n A (by rw[decide_eq_false q,Bool.or_false];exact D) F E
 ·have q:(FY m (br f e) (Ae (Iq (bl rec)))).1=0:=by simpa using q
  refine aA (ae.dw D (by simp) λR S G ag=>?_);have T: ¬n d:=λg=>by rcases C d g with a|a;exact u a;omega
  have:=w R n (A.mod G λc g U=>T (U▸g)) (by rw[decide_eq_true q,IH];simpa [Gf] using S) (F.then (G.ak λc _ g=> .inl (.inr g))) E;rw[q] at this;exact this
def Q3(m:Bx)(a:A2Y)(made:Bool):Int×Bx:=if made then LV m a else(0,m)
theorem AKT {o:ao}{c:aa}{f b d:Nat}{e:A2Y}{made:Bool}{g:Nat->Prop}{m:Bx}{j:A2X}(p:bR c)(a:Gf c f b e d made)(k:Dw c b g m)(q: ¬g f)(r:e.size<=1099511627776)(s:d<=4294967295)
  (l: ∀h,Dw h b g (Q3 m (br e d) made).2->Gf h f b e d made->Mod g c h->j (J6 J9 (Q3 m (br e d) made).1) h):
  AA o P MP #[Ap f] c j:=by
 refine AC8 ?_;unfold WC;refine ab.no rfl (aA (Aa.mk (AB a rfl) ?_));cases made with
 |false=>exact ab.yes rfl (l c k a Mod.refl)
 |true=>
  refine ab.no rfl (aA (AY.mk (AO a rfl) (aA (AL.mk (AB a rfl) (aA (AC.mk (AB a rfl) ?_))))));refine p5 p s r λv i=>⟨_,rfl,⟨AO (a.ext i) rfl,?_⟩⟩
  refine tT (k.ext i) λt u n=>⟨_,rfl,?_⟩
  exact l t u ((a.ext i).mod n q) ((Ext.mod i).trans n)
theorem AEU {v:ao}{g:aa}{f b a:Nat}{d:A2Y}{made:Bool}{h:Nat->Prop}{m:Bx}{j:A2X}(w:bR g)(n:Gf g f b d a made)(x:Dw g b h m)(o: ¬h f)(y:d.size<=1099511627776)(G:a<99999999)
  (z:(Q3 m (br d a) made).1≠0-> ∀e,Dw e b h (Q3 m (br d a) made).2->Gf e f b d a made->Mod h g e->j (J1 #[J6 J9 0,J6 J9 (Q3 m (br d a) made).1]) e)
  (A:(Q3 m (br d a) made).1=0-> ∀e,Dw e b h (Q3 m (br d a) made).2->Gf e f b d (a+1) false->Mod (λc=>h c\/c=f) g e->j (J1 #[J6 J9 (a:Int),J6 J9 0]) e):
  AA v P Hl #[Ap f] g j:=by
 refine Z5 ?_;unfold Sg;refine ab.no rfl (aA (AC.mk (AB n rfl) (ab.no (by simp;omega) ?_)));refine AKT w n x o y (by omega) λB p k r=>⟨_,rfl,?_⟩
 refine ab.intro (λq=>?_) (λq=>?_)
 ·exact z (by simpa using q) B p k r
 ·have q:(Q3 m (br d a) made).1=0:=by simpa using q
  refine aA (AC.mk (AB k rfl) ?_);rw[Ac (by omega)];refine aA (ae.dw k (by simp) λH C D I=>?_);refine aA (ae.dw C (by simp) λs E F J=>?_);have t:Gf s f b d (a+1) false:=by simpa [Gf] using E
  refine aA (AC.mk (AB t rfl) ?_);have l:J8 J9 (((a+1:Nat):Int)-1)=(a:Int):=by rw[wrap_i64 (by omega) (by omega)];omega
  rw[l];have u:=D.trans F;exact A q s (p.mod u λc i l=>o (l▸i)) t ((r.ak λc _ i=> .inl i).trans (u.ak λc _ i=> .inr i))
end Go.Lf.G
namespace Go.Lf
open Go
def ff(m:Bx)(a:A2Y):Option (A2Y×A2Y):=(Dp a m.files).map λf=>(f.dr,f.soft)
theorem rL {m:Bx}{a:A2Y}:(Dp a m.files).isSome=(ff m a).isSome:=by unfold ff;cases Dp a m.files<;>rfl
theorem AT2 {m:Bx}(hd:m.down=false)(a:A2Y):lT m a=match ff m a with|none=>(cN,31)|some p=>(p.1++p.2,0):=by unfold lT ff;rw[if_neg (by simp[hd])];cases Dp a m.files<;>rfl
theorem rM(m:Bx)(l:List Fi)(a:A2Y):ff {Kh m with files:=l} a=(Dp a l).map λf=>(f.dr,f.soft):=rfl
theorem AM7 {a x:A2Y}(l:List Fi):Dp x (Vq a l)=if x=a then some ((Dp a l).getD ⟨a,cN,cN⟩) else Dp x l:=by
 unfold Vq;cases c:Dp a l with
 |some f=>
  simp only[Option.isSome_some,if_true];by_cases b:x=a
  ·subst b;simp[c]
  ·rw[if_neg b]
 |none=>
  rw[if_neg (by simp),zd (λd e=>UB c d e)];by_cases b:x=a
  ·subst b;simp
  ·rw[if_neg b,if_neg (λg=>b g.symm)]
def iA(m:Bx):Prop:=m.down=false/\m.fuel≠0
theorem rN {m:Bx}(g:iA m){k d:A2Y}(c:Nb k=false):(FY m k d).1=0/\ ∀x,ff (FY m k d).2 x=if x=k then some (((ff m k).getD (cN,cN)).1,((ff m k).getD (cN,cN)).2++d) else ff m x:=by
 unfold FY;rw[if_neg (by simp[g.1]),if_neg (by simp[c]),if_neg g.2];refine⟨rfl,λx=>?_⟩;rw[rM,rT (g:=Tu d) (λ_=>rfl),AM7];unfold ff;by_cases a:x=k
 ·subst a;rw[if_pos rfl,if_pos rfl];cases b:Dp x m.files with
  |none=>simp[Tu]
  |some f=>
   have:=(LB b).1;simp[Tu,this]
 ·rw[if_neg a,if_neg a];cases b:Dp x m.files with
  |none=>rfl
  |some f=>
   have:=(LB b).1;simp only[Hh];rw[if_neg (by rw[this];exact a)]
theorem oE {m:Bx}(g:iA m){b:A2Y}{p:A2Y×A2Y}(c:ff m b=some p):(LV m b).1=0/\ ∀x,ff (LV m b).2 x=if x=b then some (p.1++p.2,cN) else ff m x:=by
 have a: ∃f,Dp b m.files=some f/\(f.dr,f.soft)=p:=by
  unfold ff at c;cases a:Dp b m.files with
  |none=>rw[a] at c;cases c
  |some f=>rw[a] at c;exact⟨f,rfl,Bk c⟩
 obtain⟨f,a,rfl⟩:=a;unfold LV;rw[if_neg (by simp[g.1]),if_neg (by simp[a]),if_neg g.2];refine⟨rfl,λx=>?_⟩;rw[rM,rT (g:=UL) (λ_=>rfl)];by_cases d:x=b
 ·subst d;have:=(LB a).1;rw[if_pos rfl,a];simp[UL,this]
 ·rw[if_neg d];unfold ff;cases e:Dp x m.files with
  |none=>rfl
  |some h=>
   have:=(LB e).1;simp only[Hh];rw[if_neg (by rw[this];exact d)]
theorem yS {m:Bx}(g:iA m){a:A2Y}(b:(ff m a).isSome=true):(Km m a).1=0/\ ∀x,ff (Km m a).2 x=if x=a then none else ff m x:=by
 have c:(Dp a m.files).isNone=false:=by
  rw[<- rL] at b;cases c:Dp a m.files with
  |none=>rw[c] at b;cases b
  |some f=>rfl
 unfold Km;rw[if_neg (by simp[g.1]),if_neg (by simp[c]),if_neg g.2];refine⟨rfl,λx=>?_⟩;rw[rM,za];split<;>rfl
def Calm(m:Bx):Prop:=m.down=false/\m.fuel= -1
theorem Calm.goes {m:Bx}(c:Calm m):iA m:=⟨c.1,by rw[c.2];decide⟩
theorem rO {m:Bx}(c:Calm m):Kh m=m:=by unfold Kh;rw[if_neg (by rw[c.2];decide)]
theorem Vk {m:Bx}(c:Calm m)(a b:A2Y):Calm (FY m a b).2:=by
 unfold FY;rw[if_neg (by simp[c.1])];split
 ·exact c
 ·rw[if_neg (by rw[c.2];decide),rO c];exact⟨c.1,c.2⟩
theorem XH {m:Bx}(c:Calm m)(a:A2Y):Calm (LV m a).2:=by
 unfold LV;rw[if_neg (by simp[c.1])];split
 ·exact c
 ·rw[if_neg (by rw[c.2];decide),rO c];exact⟨c.1,c.2⟩
theorem yT {m:Bx}(c:Calm m)(a:A2Y):Calm (Km m a).2:=by
 unfold Km;rw[if_neg (by simp[c.1])];split
 ·exact c
 ·rw[if_neg (by rw[c.2];decide),rO c];exact⟨c.1,c.2⟩
end Go.Lf
namespace Go.Lf.G
open Go
theorem ANe {nm:A2Y}{a:Nat}(e:nm.size<=8)(b:a<=99999999):Nb (br nm a)=false:=by have c:=ASW (nm:=nm) b;unfold Nb;rw[Ge,decide_eq_false_iff_not,decide_eq_false_iff_not];refine⟨λd=>?_,by omega⟩;rw[d] at c;have:cN.size=0:=rfl;omega
theorem ATO {i:A2Y}{m:Bx}{l:List Nat}(g:AXQ i m l):l.length<=99999999:=by
 have j: ∀(l:List Nat) (d:Nat),l.Pairwise (· < ·)->(∀ b∈l,d<b/\b<=99999999)->l.length+d<=99999999\/l= []:=by
  intro l
  induction l with
  |nil=>intro d _ _;exact .inr rfl
  |cons a l k=>
   intro d f h;rw[List.pairwise_cons] at f;have n:=h a (by simp);rcases k a f.2 (λb e=>⟨f.1 b e,(h b (AH _ e)).2⟩) with c|c
   ·left;simp only[An];omega
   ·subst c;left;simp;omega
 rcases j l 0 g.inc (λb e=>by have:=(g.mem b).1 e;omega) with c|c
 ·omega
 ·subst c;simp
theorem ALB {ai:ao}{f:aa}{C b v:Nat}{g:A2Y}{made:Bool}{j:Nat->Prop}{m:Bx}{upto:Int}{H:A2X}(aj:bR f)(ak: ∀k,Mod j f k->bR k)(D:Gf f C b g v made)(I:Dw f b j m)(c:Calm m)(al: ¬j C)(aV:g.size<=8)(am:bJ m.files<=8000000000000)
  (an:upto>=(v:Int)->H (J6 J9 1) f)
  (ap:upto<(v:Int)-> ∀k S' h,Dw k b S' h->Calm h->Mod j f k->(∀ c,S' c->j c)->bJ h.files<=bJ m.files->(∀ d:Nat,1<=d->d<=99999999->(d:Int)<=upto->ff h (br g d)=none)->
   (∀ x,(∀ d:Nat,1<=d->d<=99999999->(d:Int)<=upto->x≠br g d)->ff h x=ff m x)->H (J6 J9 0) k):AA ai P Jk #[Ap C,J6 J9 upto] f H:=by
 refine ADC ?_;unfold Vv;refine ah.mk λK aq=>ab.no rfl (aA (AC.mk (AB D rfl) (aq _ _ ?_)))
 refine ab.intro (λq=>an (by simpa using q)) (λq=>?_);have ar:upto<(v:Int):=by simpa using q
 refine aA (AY.mk (AO D rfl) (aA (AL.mk (AB D rfl) ?_)));refine ACJ aj I c.1 (by omega) am λU V l w v2 W J=>⟨V,_,rfl,ab.no rfl ?_⟩
 have X:(l.map λd:Nat=>(d:Int)).length=l.length:=AT ..;have L: ∀d∈l,1<=d/\d<=99999999/\(ff m (br g d)).isSome=true:=λd e=>by
  have:=(w.mem d).1 e;rw[rL] at this;exact this
 have aW:l.Nodup:=List.nodup_iff_pairwise_ne.2 (w.inc.imp λf=>Nat.ne_of_lt f);have aX:=ATO w;refine Loop.rule (λY x n=> ∃(i:Nat) (y:Nat->Prop) (o:Bx),x=((i:Int),())/\Dw n b y o/\Calm o/\Mod j f n/\Mod j U n/\(∀ c,y c->j c)/\bJ o.files<=bJ m.files/\(∀ d∈l.take i,(d:Int)<=upto->ff o (br g d)=none)/\(∀ x,(∀ d∈l.take i,(d:Int)<=upto->x≠br g d)->ff o x=ff m x)/\i<=l.length/\Y=l.length-i) ?_
  ⟨0,j,m,rfl,I.ext W,c,Ext.mod W,Mod.refl,λ_ f=>f,A0 _,by simp,λ_ _=>rfl,A5 _,rfl⟩
 rintro aY Y _ n ⟨i,y,o,rfl,M,E,z,N,F,O,G,s,hi,rfl⟩ au;have av:View Jh n V (l.map λd:Nat=>(d:Int)):=v2.mod N λc A aw=>by have:=J c A;have:=I.lt aw;omega
 rw[v2.len,X];refine ab.intro (λQ=>?_) (λQ=>?_)
 ·have B:i<l.length:=by simpa using Q
  have af:l[i]? =some l[i]:=A2 B;obtain⟨Z,ac,ax⟩:=L l[i] (BT B);have t:l.take (i+1)=l.take i++ [l[i]]:=by rw[AE,af];rfl
  have ay: ∀d∈l.take i,d<l[i]:=λd e=>by
   have:=w.inc;rw[<- F0 (i+1) l,t] at this;have az:=(List.pairwise_append.1 (List.pairwise_append.1 this).1).2.2 d e l[i] (by simp);exact az
  refine ah.mk λaC aD=>?_
  have fin: ∀S' h k,Dw k b S' h->Calm h->Mod j f k->Mod j U k->(∀ c,S' c->j c)->bJ h.files<=bJ m.files->(∀ d∈l.take (i+1),(d:Int)<=upto->ff h (br g d)=none)->(∀ x,(∀ d∈l.take (i+1),(d:Int)<=upto->x≠br g d)->ff h x=ff m x)->aC () k:=λS' h k aE aF aG aH aI aJ aK J=>by
   refine aD _ _ ?_;dsimp only;rw[Ac (by omega)];exact au (l.length-(i+1)) _ _ (by omega) ⟨i+1,S',h,rfl,aE,aF,aG,aH,aI,aJ,aK,J,B,rfl⟩
  rw[<- X,<-v2.len];refine av.idx (i:=i) (x:=(l[i]:Int)) (by rw[B9,af];rfl) λa _ c=>?_
  refine AC.mk c.int ?_;refine ab.intro (λq=>?_) (λq=>?_)
  ·have q:(l[i]:Int)<=upto:=by simpa using q
   have R:Gf n C b g v made:=D.mod z al;refine aA (AY.mk (AO R rfl) (aA (AL.mk (AB R rfl) ?_)));refine p5 (ak n z) (by omega) (by omega) λaZ S=>⟨_,rfl,⟨AO (R.ext S) rfl,?_⟩⟩
   refine tU (M.ext S) λaL aM aN aO aP=>⟨_,rfl,?_⟩
   have aQ:(ff o (br g l[i])).isSome=true:=by rw[s (br g l[i]) λd e _ T=>by have:=ay d e;have:=oD T;omega];exact ax
   obtain⟨aR,ae⟩:=yS E.goes aQ;rw[aR];have ag:=(Ext.mod S).trans (aO.ak λc _ A=>F c A);refine ab.no rfl (fin aM _ aL aN (yT E _) (z.trans ag) (N.trans ag) (λc A=>F c (aP c A)) (AK (zj _) O) ?_ ?_)
   ·intro d e r;rw[ae];split
    ·rfl
    ·rename_i aS;rw[t] at e;rcases List.mem_append.1 e with e|e
     ·exact G d e r
     ·exact absurd (by rw[List.mem_singleton.1 e]) aS
   ·intro x u;rw[ae,if_neg (u l[i] (by rw[t];exact List.mem_append.2 (.inr (List.mem_singleton.2 rfl))) q)];exact s x λd e=>u d (by rw[t];exact List.mem_append.2 (.inl e))
  ·have q: ¬(l[i]:Int)<=upto:=by simpa using q
   refine fin y o n M E z N F O ?_ ?_
   ·intro d e r;rw[t] at e;rcases List.mem_append.1 e with e|e
    ·exact G d e r
    ·rw[List.mem_singleton.1 e] at r;exact absurd r q
   ·intro x u;exact s x λd e=>u d (by rw[t];exact List.mem_append.2 (.inl e))
 ·have B:i=l.length:=by simp at Q;omega
  subst B;rw[CH] at G s;refine ap ar n y o M E z F O ?_ ?_
  ·intro d Z ac r;by_cases e:d∈l
   ·exact G d e r
   ·rw[s (br g d) λa0 aT _ T=>e (by rw[oD T];exact aT)];have: ¬((ff m (br g d)).isSome=true):=λf=>e ((w.mem d).2 ⟨Z,ac,by rw[rL];exact f⟩)
    cases aU:ff m (br g d) with
    |none=>rfl
    |some p=>rw[aU] at this;exact absurd rfl this
  ·intro x u;exact s x λd e r=>u d (L d e).1 (L d e).2.1 r
structure Lw (h:aa) (lg b:Nat) (nm:A2Y) (hh:aa) (S:Nat->Prop) (m:Bx) (seg:Nat) (made:Bool):Prop where
 box:Dw hh b S m
 log:Gf hh lg b nm seg made
 ext:Ext h hh
 fresh: ∀c,S c->h.size<=c/\c≠lg
 lgn:h.size<=lg
theorem Lw.nS {d:aa}{a b:Nat}{e:A2Y}{f:aa}{c:Nat->Prop}{m:Bx}{g:Nat}{made:Bool}(h:Lw d a b e f c m g made): ¬c a:=λi=>(h.fresh _ i).2 rfl
def bV(rec:A2Y):A2Y:=Ae (Iq (bl rec))
abbrev nx:A2Y:=⟨#[120]⟩
open M (Sorted Ab Bw BJ Af Ak BN Ah ba BB)
abbrev Fls:=A2Y->Option (A2Y×A2Y)
abbrev nl:A2Y:=⟨#[108]⟩
abbrev nn:A2Y:=⟨#[110]⟩
abbrev nt:A2Y:=⟨#[116]⟩
def cA(a:Nat):A2Y:=nt++Ae (Lib.decDigits a)
theorem p7(a:Nat):bl (cA a)=116::Lib.decDigits a:=by show(nt++Ae (Lib.decDigits a)).data.toList=_;rw[HK,LO];show [116]++(Ae (Lib.decDigits a)).data.toList=_;rw[show(Ae (Lib.decDigits a)).data.toList=Lib.decDigits a from CE _];rfl
theorem Wn {a b:Nat}(e:cA a=cA b):a=b:=by
 have c:=congrArg bl e;rw[p7,p7] at c;have f:Lib.decDigits a=Lib.decDigits b:=by injection c
 have d:=(XJ a).2;rw[f,(XJ b).2] at d;exact d.symm
theorem AK1(a:Nat):(bl (br nl a)).head? =some 108:=by rw[TK];rfl
theorem AJ1(a:Nat):(bl (br nn a)).head? =some 110:=by rw[TK];rfl
theorem AJ7(a:Nat):(bl (cA a)).head? =some 116:=by rw[p7];rfl
theorem AW5(a b:Nat):br nl a≠br nn b:=λc=>by have:=AK1 a;rw[c,AJ1] at this;cases this
theorem VI(a b:Nat):br nl a≠cA b:=λc=>by have:=AK1 a;rw[c,AJ7] at this;cases this
theorem sR(a b:Nat):br nn a≠cA b:=λc=>by have:=AJ1 a;rw[c,AJ7] at this;cases this
def dZ(x:A2Y):Prop:=(∃ a,x=br nl a)\/(∃ a,x=br nn a)\/ ∃a,x=cA a
structure Nt where
 next:Nat
 bV:Nat
 names:List Nat
def mC(x:Nt):List UInt8:=Bt x.next++Bt x.bV++Bt x.names.length++x.names.flatMap Bt
structure AVC (b:List Pr):Prop where
 len:b.length<=64
 ok: ∀x∈b,NA x
theorem sS: ∀ {l:List Nat},(∀ n∈l,n<=99999999)->(l.flatMap Bt).length<=l.length*10
 | [],_=>by simp
 |n::l,a=>by
  have d:=AZ (n:=n) (by have:=a n (by simp);omega);have e:=sS (l:=l) λb c=>a b (AH _ c)
  simp only[AM,A1,An];omega
theorem ASg {x:Nt}(b:x.next<=99999999)(c:x.bV<=99999999)(d:x.names.length<=60000)(a: ∀n∈x.names,n<=99999999):(mC x).length<=30+x.names.length*10:=by have b:=AZ (n:=x.next) (by omega);have c:=AZ (n:=x.bV) (by omega);have d:=AZ (n:=x.names.length) (by omega);have a:=sS a;simp only[mC,A1];omega
theorem AOx {s:Nat}{b:List Pr}(d:s<=99999999)(a:AVC b):(OL s b).length<=20+64*8276:=by have e:=AZ (n:=s) (by omega);have f:=AZ (n:=b.length) (by have:=a.len;omega);have g:=Pf a.ok;have c:=a.len;have h:b.length*8276<=64*8276:=AW _ c;simp only[OL,A1];omega
abbrev Yw:=Unit
end Go.Lf.G
