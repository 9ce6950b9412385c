/-
 Contract: a table is opened.
-/
import Derived.Test.YtfiljlifdlfkkaaGreatDoorLfU2ToX2
import Derived.Test.YtfiljlifdlfkkaaGreatDoorLfG1
import Derived.Laws.StructEq
import Derived.ChangeKeysEq
set_option maxRecDepth 100000
set_option linter.unusedVariables false
set_option linter.unusedSimpArgs false
open Go.IntKind renaming i64→J9,wrap→J8
open Go.Value renaming string→J7,int→J6,pointer→J5,slice→J4,bool→J3,tuple→J1
open Go.Obj renaming cells→J2
open Go renaming Value→J0,Addr→Q6,TypeId→Q7,FuncId→Q8,Program→Q1
open Go.Addr renaming add→Q9,mk→Q5
namespace Go.Lf.G
open Go
structure bS (h:aa) (t:Nat) (l:List Pr) (f:List UInt8) (lo hi:Nat):Prop where
 at_: ∃fs bs:Sl,h[t]? =some (J2 #[J4 fs.p fs.len fs.cap,J4 bs.p bs.len bs.cap,J7 (Ad f),J6 J9 (l.length:Int)] Mh (0,0))/\View Ih h fs (CZ l)/\View Ih h bs ((Kw l).map λb=>Ad (Bo b))/\
  (∀ c,fs.ag=some c->lo<=c/\c<hi)/\(∀ c,bs.ag=some c->lo<=c/\c<hi)
 jm:lo<=t/\t<hi
theorem bS.mod {g h:aa}{t:Nat}{l:List Pr}{f:List UInt8}{lo hi:Nat}{i:Nat->Prop}(T:bS g t l f lo hi)(m:Mod i g h)(b: ∀c,lo<=c->c<hi-> ¬i c):bS h t l f lo hi:=by obtain⟨j,k,n,o,p,d,e⟩:=T.at_;exact⟨⟨j,k,m.ag n (b t T.jm.1 T.jm.2),o.mod m (λc a=>b c (d c a).1 (d c a).2),p.mod m (λc a=>b c (e c a).1 (e c a).2),d,e⟩,T.jm⟩
theorem bS.ext {a b:aa}{t:Nat}{l:List Pr}{f:List UInt8}{lo hi:Nat}(T:bS a t l f lo hi)(m:Ext a b):bS b t l f lo hi:=T.mod m λ_ _ _ a=>a
theorem AEu(a:List UInt8)(b:List (List UInt8)):aT (a::b)=IZ a++aT b:=rfl
theorem APL {w:ao}{b:aa}{a:List (List UInt8)}{q:A30}(l: ∀f∈a,f.length<=1048576)(y:(aT a).length<=1099511627776)
  (r: ∀h sl,Ext b h->View Ih h sl (a.map Ad)->(∀ c,sl.ag=some c->b.size<=c/\c<h.size)->q (J1 #[J4 sl.p sl.len sl.cap,J6 J9 ((aT a).length:Int)]) h):AA w P OX #[J7 (Ad (aT a))] b q:=by
 refine AFn ?_;unfold ZC;refine Loop.rule (λm x n=> ∃(i:Nat) (sl:Sl),x=(sl,Ad (aT (a.drop i)),())/\m=a.length-i/\i<=a.length/\Ext b n/\Own Ih A9 n sl ((a.take i).map Ad)/\(∀ c,sl.ag=some c->b.size<=c)) ?_
  ⟨0,⟨none,0,0⟩,rfl,rfl,by omega,Mod.refl,Own.nil,λc d=>by simp[Sl.ag] at d⟩
 rintro K m _ n ⟨i,sl,rfl,rfl,hi,o,g,p⟩ t;dsimp only;have M:a.length<=(aT a).length:=by
  clear y r hi g t
  induction a with
  |nil=>simp
  |cons f a z=>
   have N:=(Ki (l f B8)).1;have:=z λx j=>l x (AI _ j)
   simp only[aT,AW,A1,Ax] at this ⊢;omega
 have A:(aT (a.drop i)).length<=1099511627776:=by
  have B:aT a=aT (a.take i)++aT (a.drop i):=by unfold aT;rw[<- Mz,F1]
  have:=congrArg List.length B;rw[A1] at this;omega
 refine AP1 (AK A (by decide)) λC e=>⟨_,_,_,rfl,?_⟩
 by_cases k:i<a.length
 ·have j:a[i]? =some a[i]:=A2 k;have u:=l _ (BT k);have hd:a.drop i=a[i]::a.drop (i+1):=FA k;have v:=Us j;generalize a[i]=f at j u hd v;rw[hd,AEu,AON u];refine ae.yes rfl ?_;refine aj.aU (E:=Ih) (x:=Ad f) (s:=sl) rfl sq (g.ext e) (by grind) (by simp only[AF,AD,maxLen];omega) λD O F G H Q=>?_
  refine t (a.length-(i+1)) _ _ (by omega) ⟨i+1,D,rfl,rfl,k,(o.trans e).more G p,?_,λc d=>?_⟩
  ·rw[v,Bs];exact F
  ·rcases H c d with b|b
   ·exact p c b
   ·have:=o.size;have:=e.size;omega
 ·have I:a.drop i= []:=IF (by omega);have J:a.take i=a:=As (by omega);rw[I];rw[J] at g;have R:=AQq;refine ae.no (by grind) ?_;have L:J8 J9 (((Ad (aT a)).size:Int)-((Ad (aT [])).size:Int))=((aT a).length:Int):=by
   rw[AP,AP];show J8 J9 (((aT a).length:Int)-((0:Nat):Int))=_
   grind [wrap_i64]
  rw[L];exact r C sl (o.trans e) (g.ext e).view λc d=>⟨p c d,(g.ext e).lt d⟩
def Zu(l:List Pr)(a:Nat):A31:=match a with|0=>⟨#[]⟩|a+1=>Iy l a
theorem ATG {l:List Pr}(d: ∀p∈l,MI p)(hi:l.Pairwise λp q=>aG p.key q.key=true){a:Nat}{p:Pr}(b:l[a]? =some p):(aG p.key (Zu l a)||bD p.key (Zu l a))=false:=by
 have i:aG (Zu l a) p.key=true:=by
  cases a with
  |zero=>
   have:=(d p (AG b)).key;unfold Zu;rw[WL];have e:bl p.key≠ []:=by grind [BA]
   cases f:bl p.key with
   |nil=>exact absurd f e
   |cons c t=>
    simp only[decide_eq_true_eq];show([]:List UInt8)<bl p.key
    simp_all
  |succ a=>
   have g:a<l.length:=by grind
   have h:l[a]? =some l[a]:=A2 g;have:=AGU hi h b;show aG (Iy l a) p.key=true
   simp_all [Iy]
 rw[GC]
 grind [aG,Zu,DK,CS,Bj,decide_eq_false_iff_not]
theorem ARy {b a:Nat}(c:b=a+1)(d:a<=1099511627776):J8 J9 (((b:Nat):Int)-(1:Int))=((a:Nat):Int):=by grind [wrap_i64]
theorem gI.jn {s:List UInt8}{l:List Pr}{f:List UInt8}(T:gI s l f):(aT (aO l f)).length<=1099511627776:=by
 have:=Vu (SF T);have b:=T.many;have a:(aO l f).length=Bv l+1:=by simp[aO,JD]
 have c:Bv l<=12501:=by unfold Bv;omega
 rw[a] at this;have d:(Bv l+1)*1048590<=12502*1048590:=Bm _ (by omega);omega
theorem ARB {bj:ao}{e:aa}{l:List Pr}{f:List UInt8}{aI:A30}(T:gI (aT (aO l f)) l f)
  (bk: ∀O t,Ext e O->bS O t l f e.size O.size->aI (J1 #[Ar t,J6 J9 0]) O):AA bj P OT #[J7 (Ad (aT (aO l f)))] e aI:=by
 refine AFz ?_;unfold Zt;have cg:=yg T.ne;have ch:=T.many;have ci:Bv l<=12501:=by unfold Bv;omega
 have cj:=T.jk;refine APL (SF T) (gI.jn T) λh sl C v1 aJ=>⟨sl,_,rfl,?_⟩
 have aK:sl.len=Bv l+1:=by rw[v1.len];simp[aO,JD]
 have ck:=v1.cap;rw[ARy aK (by omega)];refine ah.mk λK aL=>?_
 refine ae.no (by rw[AP];simp) ?_;refine aL _ _ (ae.no (by rw[aK];simp;omega) ?_);clear aL;simp only[An,It];refine⟨⟨by omega,by omega⟩,?_⟩;have bm:((aO l f).map Ad)[Bv l]? =some (Ad (XC l f)):=by simp_all [AN,aO,DE,JD]
 refine v1.idx bm λa aM d=>?_
 refine AL.mk d.str ?_;have aN:=ZG T;refine NI λaP aR Q=>⟨_,rfl,?_⟩
 have R: ∀ {e:aa} {s:Sl} {ks:List A31},Own Ih A9 e s ks-> ∀ {c:Nat} {aU:Rd},KU e c aU->s.ag≠some c:=λbn c aU bo=>bn.ne bo (by decide)
 refine aj.mk λS _ bp D cl=>?_
 have aV:KU S h.size _:=Av D aR;have cm:=AX (n:=Bv l) (by omega);have bq:XC l f=Bp (Bv l)++(G5 (CZ l)++(Bp l.length++BU f)):=by unfold XC G5;simp_all
 rw[bq] at aV aN;have cn:=AX (n:=l.length) (by omega);have co:(BU f).length=(Bp f.length).length+f.length:=by simp[BU]
 have cp:=AX (n:=f.length) (by omega);have br:=Ri (ks:=CZ l) (Pg T.ok);rw[Hz] at br;refine EQ (most:=Bv l) aV (AK aN (by decide)) (by omega) λbs ag ai=>⟨_,rfl,?_⟩
 rw[DR (by omega) (A0 _)] at ag ⊢;dsimp only at ag ⊢;refine ae.no (by simp) ?_;have cq:h.size<aP.size:=Aj aR;have bt:=ai.ag bp (by omega);have U:Ext e S:=(C.trans Q).trans D;have cr:Ext e bs:=U.more ai (λb bu=>by rw[bu];exact C.size);have aW: ∀ {g:aa},(∀ c,sl.ag=some c->g[c]? =h[c]?)->View Ih g ⟨BJ sl.p sl.cap 0 1,Bv l,sl.cap⟩ ((Kw l).map λb=>Ad (Bo b)):=by
  intro g d;have v:View Ih g sl ((aO l f).map Ad):=⟨v1.len,v1.cap,λi x hi=>by
   obtain⟨a,aM,bv⟩:=v1.cells i x hi;refine⟨a,aM,λj v aX=>?_⟩;rw[<- bv j v aX]
   grind [RP,aQ,Sl.ag]⟩
  have:=v.sub (lo:=0) (hi:=Bv l) (A6 _) (by simp[aO,JD]);have aY:(((aO l f).map Ad).take (Bv l)).drop 0=(Kw l).map λb=>Ad (Bo b):=by simp_all [HU,aO,Nx,JD,As,Cp]
  rw[aY] at this;exact this
 generalize cs:aP.size=q at*
 refine Loop.rule (λm x g=> ∃(i:Nat) (o:Sl),x=((i:Int),())/\m=Bv l-i/\i<=Bv l/\KU g h.size ⟨G5 ((CZ l).drop i)++(Bp l.length++BU f),false⟩/\
  g[q]? =some (J2 #[J4 o.p o.len o.cap,J4 (BJ sl.p sl.cap 0 1) (Bv l) sl.cap,J7 ⟨#[]⟩,J6 J9 0] Mh (0,0))/\Own Ih A9 g o ((CZ l).take i)/\(∀ c,o.ag=some c->q<c)/\
  Mod (λc=>c=h.size\/q<=c) S g) ?_ ⟨0,⟨none,0,0⟩,rfl,rfl,by omega,ag,bt,Own.nil,λc d=>by simp[Sl.ag] at d,ai.ak λc _ d=> .inl d⟩
 rintro ct m _ aZ ⟨i,o,rfl,rfl,hi,w,ak,F,G,a0⟩ a1;dsimp only;refine ae.intro (λr=>?_) (λr=>?_)
 ·have V:i<Bv l:=by simp at r;omega
  refine AV.mk (s:=o) (AO ak rfl) ?_;have z:=R8 V;have hd:(CZ l).drop i=Iy l (8*i)::(CZ l).drop (i+1):=by grind [CZ,Hz,List.drop_eq_getElem_cons,List.getElem?_eq_getElem,Option.some.inj]
  have a2:=Us z;have a3:=Pg T.ok _ (AG z);generalize Iy l (8*i)=k at z hd a2 a3;have bw:G5 ((CZ l).drop i)++(Bp l.length++BU f)=BU (bl k)++(G5 ((CZ l).drop (i+1))++(Bp l.length++BU f)):=by rw[hd];simp[G5]
  have bx:=Ri (ks:=(CZ l).drop i) λk bz=>Pg T.ok k (Lk bz)
  rw[HS,Hz] at bx;have a4:(G5 ((CZ l).drop i)++(Bp l.length++BU f)).length<1099511627776:=by simp only[A1];omega
  rw[bw] at w a4;refine Ic w a4 λH W al=>⟨_,rfl,?_⟩
  rw[Ie (by rw[BA];omega)] at W ⊢;dsimp only at W ⊢;rw[EP];have X:=al.ag ak (by omega);have am:=F.mod al (λc d e=>R F w (e▸d));refine⟨AO X rfl,?_⟩;refine aj.mk λbA _ bB I cu=>⟨AO (Av I X) rfl,?_⟩
  have bC:Own Ih A9 bA ⟨some ⟨H.size,0,none⟩,1,1⟩ [k]:=Own.lit (E:=Ih) (l:= [k]) bB rfl (by simp[maxLen]);refine II (s:=o) (src:=⟨some ⟨H.size,0,none⟩,1,1⟩) sq (am.ext I) bC.view (by simp only[AD,BE];omega) (by simp only[AD,BE,maxLen];omega) λa5 cv bE an cw cx=>?_
  have cy:q<H.size:=Aj X;have cz: ∀c,o.ag=some c->c<H.size:=λc d=>am.lt d
  have bF:=an.ag (Av I X) (λe=>by have:=G _ e;omega);refine ab.mk bF (by simp) λcB bG ap cC=>?_
  have a6: ∀c,a5.ag=some c->q<c:=λc d=>by
   grind
  rw[Ab (by omega)];refine a1 (Bv l-(i+1)) _ _ (by omega) ⟨i+1,a5,rfl,rfl,V,?_,by simpa using bG,?_,a6,?_⟩
  ·refine ap.ag (an.ag (Av I W) λe=>?_) (by omega);exact R am W e
  ·rw[a2];exact bE.mod ap (λc d e=>by have:=a6 c d;omega)
  ·have Y:Mod (λc=>c=h.size\/q<=c) aZ H:=al.ak λc _ d=> .inl d
   exact(((a0.trans Y).trans I.mod).trans (an.ak λc _ d=> .inr (by have:=G c d;omega))).trans (ap.ak λc _ d=> .inr (by omega))
 ·have V:i=Bv l:=by simp at r;omega
  subst V;clear a1;have bH:(CZ l).drop (Bv l)= []:=IF (by rw[Hz];omega);have bI:(CZ l).take (Bv l)=CZ l:=As (by rw[Hz];omega);rw[bH] at w;rw[bI] at F;have bJ:J8 J9 (((Bv l:Nat):Int)*(8:Int))=((Bv l*8:Nat):Int):=by grind [wrap_i64]
  rw[bJ];have w:KU aZ h.size ⟨Bp l.length++BU f,false⟩:=w;have bK:l.length<=Bv l*8:=by unfold Bv;omega
  refine EQ (most:=Bv l*8) w (by grind) (by omega) λcD aq ar=>⟨_,rfl,?_⟩
  rw[DR (by omega) bK] at aq ⊢;dsimp only at aq ⊢;have bL:=ar.ag ak (by omega);rw[CE,CE];refine ab.mk bL (by simp) λbM bN au cE=>?_
  have a7:KU bM h.size ⟨BU f++ [],false⟩:=by rw[AS];exact au.ag aq (by omega)
  refine Ic a7 (by grind) λcF av aw=>⟨_,rfl,?_⟩
  rw[Ie (by omega)] at av ⊢;dsimp only at av ⊢;have bO:=aw.ag bN (by omega);refine ab.mk bO (by simp) λB J ax cG=>?_
  have bP:=ax.ag av (show h.size≠q by omega);have J:B[q]? =some (J2 #[J4 o.p o.len o.cap,J4 (BJ sl.p sl.cap 0 1) (Bv l) sl.cap,J7 (Ad f),J6 J9 (l.length:Int)] Mh (0,0)):=by simpa using J
  have ay:Own Ih A9 B o (CZ l):=by have Y:=F.mod ar (λc d e=>R F w (e▸d));have az:=Y.mod au (λc d e=>by have:=G c d;omega);have L:=az.mod aw (λc d e=>R az a7 (e▸d));exact L.mod ax (λc d e=>by have:=G c d;omega)
  have M:Mod (λc=>c=h.size\/q<=c) S B:=
   (((a0.trans (ar.ak λc _ d=> .inl d)).trans (au.ak λc _ d=> .inr (by omega))).trans (aw.ak λc _ d=> .inl d)).trans (ax.ak λc _ d=> .inr (by omega))
  have cH:h.size<=q:=by omega
  have bQ:Ext e B:=by refine⟨by have:=U.size;have:=M.size;omega,λc d _=>?_⟩;have:=C.size;have:=U.size;exact(M.get c (by omega) (by omega)).trans (U.get c d (λe=>e))
  have a8: ∀ {g:aa},Ext B g-> ∀c,sl.ag=some c->g[c]? =h[c]? :=by intro g x c d;have:=aJ c d;have cI:=M.size;have:=D.size;have:=Q.size;exact((x.get c (by omega) (λe=>e)).trans (M.get c (by omega) (by omega))).trans ((D.get c (by omega) (λe=>e)).trans (Q.get c (by omega) (λe=>e)))
  have bR: ∀c,Sl.ag ⟨BJ sl.p sl.cap 0 1,Bv l,sl.cap⟩=some c->e.size<=c/\c<h.size:=λc d=>aJ c (qA d)
  refine ah.mk λcJ a9=>?_
  refine QA bP ⟨_,rfl,ae.no rfl ?_⟩;have bT:f≠ []:=λaY=>by simp_all
  refine AL.mk (AO J rfl) (ae.no ?_ ?_)
  ·rw[YY,FO,decide_eq_false_iff_not];exact bT
  refine AL.mk (AO J rfl) ?_;refine a9 _ _ (ae.no (by rw[AP];simp;omega) ?_);clear a9;refine Loop.rule (λm x g=> ∃i:Nat,x=(Zu l (min (8*i) l.length),((min (8*i) l.length:Nat):Int),(i:Int),())/\m=Bv l-i/\i<=Bv l/\Ext B g) ?_ ⟨0,by simp[Zu],rfl,by omega,Mod.refl⟩;rintro cK m _ bU ⟨i,rfl,rfl,hi,u⟩ bV;dsimp only;have Z:=Av u J;refine ae.intro (λr=>?_) (λr=>?_)
  ·have y:i<Bv l:=by simp at r;omega
   have cL:=RY y;have cM:8*i<l.length:=by unfold Bv at y;omega
   have bW:min (8*i) l.length=8*i:=by omega
   rw[bW];have bX:((Kw l).map λb=>Ad (Bo b))[i]? =some (Ad (Bo (CK l i))):=by simp[Kw,y]
   refine(aW (a8 u)).idx bX λY cN bY=>?_
   rw[An];refine AL.mk bY.str ?_;have bZ: ∀p∈CK l i,MI p:=λp b0=>T.ok p (QZ b0)
   have cO:=Rh T.ok y;refine sn bZ (by omega) λps A aA aC cP=>⟨_,_,rfl,?_⟩
   have ba:=Av aC Z;have b1:ps.len=(CK l i).length:=aA.len;refine ah.mk λbb b2=>?_
   have aD:(CK l i)[0]? =some (CK l i)[0]:=A2 (by omega);have bc:Iy l (8*i)=(CK l i)[0].key:=by have:=Qx (l:=l) (i:=i) (j:=0) (by omega);rw[aD] at this;unfold Iy;rw[CT] at this;rw[<- this]
   generalize (CK l i)[0]=bd at aD bc;have go:bb (false,()) A:=by
    refine b2 _ _ (ae.no rfl ?_);refine Loop.rule (λm x g=> ∃j:Nat,x=(Zu l (8*i+j),((8*i+j:Nat):Int),(j:Int),())/\m=(CK l i).length-j/\j<=(CK l i).length/\Ext A g) ?_ ⟨0,by simp,rfl,by omega,Mod.refl⟩;rintro cQ m _ cR ⟨j,rfl,rfl,aX,ac⟩ b3;dsimp only;refine ae.intro (λr=>?_) (λr=>?_)
    ·have N:j<(CK l i).length:=by grind
     have z:(CK l i)[j]? =some (CK l i)[j]:=A2 N;have aE:(CK l i)[j]∈l:=QZ (BT N);have aF:l[8*i+j]? =some (CK l i)[j]:=by rw[<- Qx (by omega)];exact z
     generalize (CK l i)[j]=p at z aE aF;have b4:=T.ok p aE;refine(aA.ext ac).view.idx z λaz cS b5=>?_
     obtain⟨b6,b7,b8⟩:=b5.pair;rw[An];refine AL.mk b6 (AL.mk b7 (Aa.mk b8 ?_));refine aj.pair λcT cU cV aG be cW=>?_
     refine ah.mk λcX b9=>?_
     refine AL.mk (AO aG rfl) ?_;rw[ATG T.ok T.inc aF];refine ae.no rfl ?_;have ca:=Av be (Av ac ba);refine AL.mk (AO ca rfl) ?_;refine AL.mk (AO aG rfl) ?_;have a3:=b4.bB;refine AQI (by omega) ⟨_,rfl,?_⟩;rw[FO,T.has p aE];refine b9 _ _ (ae.no rfl ?_);refine AL.mk (AO aG rfl) ?_;rw[Ab (by omega),Ab (by omega)];refine b3 ((CK l i).length-(j+1)) _ _ (by omega) ⟨j+1,?_,rfl,N,ac.trans be⟩;have cb:Zu l (8*i+(j+1))=p.key:=by show Iy l (8*i+j)=p.key;unfold Iy;rw[aF]
     rw[cb];rfl
    ·have N:j=(CK l i).length:=by grind
     rw[Ab (by omega)];have aH:min (8*(i+1)) l.length=8*i+j:=by rw[N];unfold CK;rw[AD,HS];omega
     refine bV (Bv l-(i+1)) _ _ (by omega) ⟨i+1,?_,rfl,y,(u.trans aC).trans ac⟩;rw[aH]
   have bf:aS ps.p ps.len 0 λL=>AL A (L.add ((0:Int).toNat*3)) λcc=>AV A (⟨q,0,none⟩:Q6) λbg=>aS bg.p bg.len ((i:Nat):Int) λbh=>AL A (bh.add (((i:Nat):Int).toNat*1)) λcd=>bb ((!bD cc cd),()) A:=by
    obtain⟨L,ce,bi⟩:=aA.view.cells 0 bd aD;rw[HX,add_zero] at bi;refine aS.mk (k:=0) ce (by omega) ?_;refine AL.mk (n:=bd.key) (by show af A (L.add 0)=_;rw[add_zero];exact bi.pair.1) ?_;refine AV.mk (s:=o) (AO ba rfl) ?_;refine((ay.ext u).ext aC).view.idx (R8 y) λbh cY cf=>?_
    rw[An];refine AL.mk cf.str ?_;rw[bc,Bj,decide_eq_true rfl];exact go
   refine ae.no rfl (ae.no (by grind) (ae.no (by rw[b1];simp;omega) ?_));rw[Ab (by omega)];refine ae.intro (λr=>?_) (λ_=>bf);have:i+1<Bv l:=by simp at r;omega
   exact ae.no (by grind) bf
  ·have y:i=Bv l:=by simp at r;omega
   have aH:min (8*i) l.length=l.length:=by rw[y];omega
   rw[aH];refine AC.mk (AO Z rfl) (ae.no (by simp) ?_);refine bk bU q (bQ.trans u) ⟨⟨o,⟨BJ sl.p sl.cap 0 1,Bv l,sl.cap⟩,Z,(ay.ext u).view,aW (a8 u),λc d=>?_,λc d=>?_⟩,?_⟩
   ·have h:=(ay.ext u).lt d;have:=G c d;have:=C.size;omega
   ·have h:=bR c d;have:=M.size;have:=u.size;have:=D.size;have:=Q.size;omega
   ·have:=Aj Z;have:=C.size;omega
def Xh(g:ao)(h:Int)(f:J0)(i:aa)(j:A30):=Loop (λK (s:Int×Int×Unit) a=>ae (decide (s.1<s.2.1)) (ah (λ(b:Int×Int×Unit) k=>K (b.1,b.2.1,()) k) λc=>Er g P f #[J6 J9 (J8 J9 ((J8 .u64 (J8 J9 (s.1+s.2.1))).fdiv ((2:Int)^(1:Nat))))] a λv d=>∃e,v=J3 e/\ae (!e) (c ((J8 J9 ((J8 J9 ((J8 .u64 (J8 J9 (s.1+s.2.1))).fdiv ((2:Int)^(1:Nat))))+1)),s.2.1,()) d) (c (s.1,(J8 J9 ((J8 .u64 (J8 J9 (s.1+s.2.1))).fdiv ((2:Int)^(1:Nat)))),()) d)) (j (J6 J9 s.1) a)) (0,h,()) i
theorem ADb {a b f c d}(e:Xh a b f c d):AA a P Qb #[J6 J9 b,f] c d:=AZ (Bh 2 (AJ (.block (.loop [(5,.one (.int J9)),(6,.one (.int J9))] [1] (AJ EI (.aN [(5,.one (.int J9)),(6,.one (.int J9))] [1] iP)))) BP)) (by kernel_rfl) e
def IV(b:ao)(s:Sl)(i:Int)(v:Sl)(e:aa)(d:A30):=aE ((0:Int)<=i/\i<=(s.len:Int))<| ae ((v.len:Int)==0) (d (J4 s.p s.len s.cap) e) (ae (i==(s.len:Int)) (Af b P (Builtin.append_ #[Ap,Ap] Ap #[J4 s.p s.len s.cap,J4 v.p v.len v.cap]) e λv1 h=>∃c:Sl,v1=J4 c.p c.len c.cap/\d (J4 c.p c.len c.cap) h) (ae (decide ((J8 J9 ((s.len:Int)+(v.len:Int)))>(s.cap:Int))) (aE ((0:Int)<=i/\i<=(s.cap:Int))<| Af b P (Builtin.append_ #[Ap,BL] Ap #[J4 (BJ s.p s.cap 0 1) (i.toNat-0) (s.cap-0),J6 J9 (J8 J9 ((J8 J9 ((s.len:Int)+(v.len:Int)))-i))]) e λv2 j=>∃a:Sl,v2=J4 a.p a.len a.cap/\(aE ((0:Int)<=i/\i<=(a.len:Int))<| Af b P (Builtin.copy_ #[Ap,Ap] BL #[J4 (BJ a.p a.cap i.toNat 1) (a.len-i.toNat) (a.cap-i.toNat),J4 v.p v.len v.cap]) j λk l=>∃m,k=J6 J9 m/\(aE ((0:Int)<=(J8 J9 (i+(v.len:Int)))/\(J8 J9 (i+(v.len:Int)))<=(a.len:Int))<| aE ((0:Int)<=i/\i<=(s.len:Int))<| Af b P (Builtin.copy_ #[Ap,Ap] BL #[J4 (BJ a.p a.cap ((J8 J9 (i+(v.len:Int))).toNat) 1) (a.len-((J8 J9 (i+(v.len:Int))).toNat)) (a.cap-((J8 J9 (i+(v.len:Int))).toNat)),J4 (BJ s.p s.cap i.toNat 1) (s.len-i.toNat) (s.cap-i.toNat)]) l λn o=>∃p,n=J6 J9 p/\d (J4 a.p a.len a.cap) o))) (aE ((0:Int)<=(J8 J9 ((s.len:Int)+(v.len:Int)))/\(J8 J9 ((s.len:Int)+(v.len:Int)))<=(s.cap:Int))<| aE ((0:Int)<=(J8 J9 (i+(v.len:Int)))/\(J8 J9 (i+(v.len:Int)))<=(((((J8 J9 ((s.len:Int)+(v.len:Int))).toNat)-0):Nat):Int))<| mY b P Gj #[J4 v.p v.len v.cap,J4 (BJ (BJ s.p s.cap 0 1) (s.cap-0) ((J8 J9 (i+(v.len:Int))).toNat) 1) ((((J8 J9 ((s.len:Int)+(v.len:Int))).toNat)-0)-((J8 J9 (i+(v.len:Int))).toNat)) ((s.cap-0)-((J8 J9 (i+(v.len:Int))).toNat))] e λq f=>∃g,q=J3 g/\ae (!g) (aE ((0:Int)<=(J8 J9 (i+(v.len:Int)))/\(J8 J9 (i+(v.len:Int)))<=(((((J8 J9 ((s.len:Int)+(v.len:Int))).toNat)-0):Nat):Int))<| aE ((0:Int)<=i/\i<=(((((J8 J9 ((s.len:Int)+(v.len:Int))).toNat)-0):Nat):Int))<| Af b P (Builtin.copy_ #[Ap,Ap] BL #[J4 (BJ (BJ s.p s.cap 0 1) (s.cap-0) ((J8 J9 (i+(v.len:Int))).toNat) 1) ((((J8 J9 ((s.len:Int)+(v.len:Int))).toNat)-0)-((J8 J9 (i+(v.len:Int))).toNat)) ((s.cap-0)-((J8 J9 (i+(v.len:Int))).toNat)),J4 (BJ (BJ s.p s.cap 0 1) (s.cap-0) i.toNat 1) ((((J8 J9 ((s.len:Int)+(v.len:Int))).toNat)-0)-i.toNat) ((s.cap-0)-i.toNat)]) f λr t=>∃u,r=J6 J9 u/\(aE ((0:Int)<=i/\i<=(((((J8 J9 ((s.len:Int)+(v.len:Int))).toNat)-0):Nat):Int))<| Af b P (Builtin.copy_ #[Ap,Ap] BL #[J4 (BJ (BJ s.p s.cap 0 1) (s.cap-0) i.toNat 1) ((((J8 J9 ((s.len:Int)+(v.len:Int))).toNat)-0)-i.toNat) ((s.cap-0)-i.toNat),J4 v.p v.len v.cap]) t λw x=>∃y,w=J6 J9 y/\d (J4 (BJ s.p s.cap 0 1) (((J8 J9 ((s.len:Int)+(v.len:Int))).toNat)-0) (s.cap-0)) x)) (aE ((0:Int)<=(s.len:Int)/\(s.len:Int)<=(((((J8 J9 ((s.len:Int)+(v.len:Int))).toNat)-0):Nat):Int))<| Af b P (Builtin.copy_ #[Ap,Ap] BL #[J4 (BJ (BJ s.p s.cap 0 1) (s.cap-0) ((s.len:Int).toNat) 1) ((((J8 J9 ((s.len:Int)+(v.len:Int))).toNat)-0)-((s.len:Int).toNat)) ((s.cap-0)-((s.len:Int).toNat)),J4 v.p v.len v.cap]) f λz A=>∃B,z=J6 J9 B/\(aE ((0:Int)<=i/\i<=(((((J8 J9 ((s.len:Int)+(v.len:Int))).toNat)-0):Nat):Int))<| AA b P Ip #[J4 (BJ (BJ s.p s.cap 0 1) (s.cap-0) i.toNat 1) ((((J8 J9 ((s.len:Int)+(v.len:Int))).toNat)-0)-i.toNat) ((s.cap-0)-i.toNat),J6 J9 (v.len:Int)] A λC D=>C=J1 #[]/\d (J4 (BJ s.p s.cap 0 1) (((J8 J9 ((s.len:Int)+(v.len:Int))).toNat)-0) (s.cap-0)) D)))))
theorem NP {a s i v b c}(d:IV a s i v b c):AA a P DI #[J4 s.p s.len s.cap,J6 J9 i,J4 v.p v.len v.cap] b c:=AZ vI (by kernel_rfl) d
def PS(c:ao)(x:Int)(a:aa)(b:A30):=b (J3 (x != x)) a
theorem Wt {a x b c}(d:PS a x b c):AA a P Hu #[J6 J9 x] b c:=AZ ES (by kernel_rfl) d
def MB(c:ao)(x:A31)(a:aa)(b:A30):=b (J3 (!bD x x)) a
theorem Rx {a x b c}(d:MB a x b c):AA a P F6 #[J7 x] b c:=AZ ES (by kernel_rfl) d
def Mv(e:ao)(x:Int)(c:Int)(g:aa)(a:A30):=AA e P Hu #[J6 J9 x] g λv h=>∃f,v=J3 f/\AA e P Hu #[J6 J9 c] h λv1 b=>∃d,v1=J3 d/\ae f (ae d (a (J6 J9 0) b) (a (J6 J9 (-1)) b)) (ae d (a (J6 J9 1) b) (ae (decide (x<c)) (a (J6 J9 (-1)) b) (ae (decide (x>c)) (a (J6 J9 1) b) (a (J6 J9 0) b))))
theorem Tk {a x b c d}(e:Mv a x b c d):AA a P JF #[J6 J9 x,J6 J9 b] c d:=AZ vJ (by kernel_rfl) e
def Ko(e:ao)(x:A31)(c:A31)(g:aa)(a:A30):=AA e P F6 #[J7 x] g λv h=>∃f,v=J3 f/\AA e P F6 #[J7 c] h λv1 b=>∃d,v1=J3 d/\ae f (ae d (a (J6 J9 0) b) (a (J6 J9 (-1)) b)) (ae d (a (J6 J9 1) b) (ae (aG x c) (a (J6 J9 (-1)) b) (ae (!(aG x c||bD x c)) (a (J6 J9 1) b) (a (J6 J9 0) b))))
theorem Ql {a x b c d}(e:Ko a x b c d):AA a P HY #[J7 x,J7 b] c d:=AZ vJ (by kernel_rfl) e
def TN(f:ao)(dE:Sl)(e:aa)(c:A30):=Loop (λK (s:Int×Unit) b=>ae (decide (s.1<(dE.len:Int))) (aS dE.p dE.len s.1 λa=>AC J9 b (a.add (s.1.toNat*1)) λd=>ae (d != 0) (c (J6 J9 d) b) (K ((J8 J9 (s.1+1)),()) b)) (c (J6 J9 0) b)) (0,()) e
theorem AAw {a dE b c}(d:TN a dE b c):AA a P Nb #[J4 dE.p dE.len dE.cap] b c:=AZ (Bh 2 (AJ (AJ AQ (.block (.loop [(8,.one (.int J9))] [3,6,7] jC))) BP)) (by kernel_rfl) d
def Fb(h:ao)(x:Sl)(i:J0)(j:aa)(k:A30):=ah (λ(s:Unit) e=>aS x.p x.len 0 λa=>AL e (a.add ((0:Int).toNat*1)) λl=>Loop (λm (b:A31×Int×Unit) c=>ae (decide (b.2.1<(x.len:Int))) (ah (λ(n:A31×Unit) o=>m (n.1,(J8 J9 (b.2.1+1)),()) o) λf=>aS x.p x.len b.2.1 λp=>AL c (p.add (b.2.1.toNat*1)) λq=>Er h P i #[J7 q,J7 b.1] c λv d=>∃g,v=J6 J9 g/\ae (decide (g<0)) (aS x.p x.len b.2.1 λr=>AL d (r.add (b.2.1.toNat*1)) λt=>f (t,()) d) (f (b.1,()) d)) (k (J7 b.1) c)) (l,1,()) e) λK=>ae (decide ((x.len:Int)<1)) (False) (K () j)
theorem Jn {a x b c d}(e:Fb a x b c d):AA a P Du #[J4 x.p x.len x.cap,b] c d:=AZ (AJ AQ (.bd [] [0,1] EI (AJ AQ (AJ (AJ AQ (.block (.loop [(5,.one .str),(6,.one (.int J9))] [0,1] (AJ EI (AJ (.aN [(5,.one .str)] [0,1,6] EI) AQ))))) BP)))) (by kernel_rfl) e
end Go.Lf.G
namespace Go.Lf.G.M
open Go Go.Lf Go.Lf.G
theorem toList_inj {a b:A31}:(a.toList==b.toList)=decide (a=b):=by rw[ByteArray.toList_eq,ByteArray.toList_eq];rw[DH];simp[MD,<-Array.toList_inj]
def Ah(x:Pr):Int:=
 if(decide (x.key=⟨#[]⟩)||(x.gone&& !decide (x.val=⟨#[]⟩))) then 1 else if(decide (x.key.size>64)||decide (x.val.size>8192)) then 2 else 0
theorem Bj {a b:A31}:bD a b=decide (a=b):=toList_inj
def gN(key:A31)(l:List Pr):List Pr:=l.takeWhile λq=>aG q.key key
def aF(key:A31)(l:List Pr):Nat:=(gN key l).length
def Aw(key:A31)(l:List Pr):Bool:=match l[aF key l]? with|some q=>decide (q.key=key)|none=>false
theorem mC(key:A31)(l:List Pr):aF key l<=l.length:=(Xs _).length_le
theorem Vm {e:Type}{p:e->Bool}: ∀ {l:List e} {i:Nat},i<=(l.takeWhile p).length->(∀ x,l[i]? =some x->p x=true->i<(l.takeWhile p).length)/\(∀ x,l[i]? =some x->p x=false->i=(l.takeWhile p).length)/\(l[i]? =none->i=(l.takeWhile p).length)
 | [],i,a=>by simp at a;subst a;simp
 |y::l,0,a=>by
  refine⟨λx b c=>?_,λx b c=>?_,λa=>by simp at a⟩
  ·simp at b;subst b;simp[c]
  ·simp at b;subst b;simp[c]
 |y::l,i+1,a=>by
  rw[MT] at a ⊢;split at a
  ·rename_i f;have d:=Vm (p:=p) (l:=l) (i:=i) (by simpa using a);simp only[f,if_true,Ax];refine⟨λx b c=>?_,λx b c=>?_,λg=>?_⟩
   ·have:=d.1 x (by simpa using b) c;omega
   ·have:=d.2.1 x (by simpa using b) c;omega
   ·have:=d.2.2 (by simpa using g);omega
  ·simp at a
theorem IR:Qr P AR AU Be.w 40=true:=by kernel_rfl
theorem APZ:Qr P JS AR gR.w 24=true:=by kernel_rfl
theorem ATR:Qr P BC Bn jE.w 8=true:=by kernel_rfl
def ZF(x:Pr)(l:List Pr):List Pr:=l.take (aF x.key l)++ [x]++l.drop (if Aw x.key l then aF x.key l+1 else aF x.key l)
def Bt(x:Pr)(l:List Pr):List Pr:=if Ah x≠0 then l else ZF x l
theorem AQe(x:Pr)(l:List Pr):(ZF x l).length<=l.length+1:=by unfold ZF;have:=mC x.key l;simp;split<;>omega
theorem APR(x:Pr)(l:List Pr):(Bt x l).length<=l.length+1:=by
 unfold Bt;split
 ·omega
 ·exact AQe x l
theorem qD {a:J0}{c:J0}:(#[]++ #[a]++ #[c]:Array J0)= #[a,c]:=rfl
theorem AHr {G:ao}{e H:aa}{fv:J0}{S:Nat->Prop}{l:List Pr}{I:A30}(J:EO G P fv S H l)(K: ∀b,S b->e[b]? =H[b]?)(ax:l.length<=1099511627776)
  (ac: ∀s h,Own Be AU h s l->(∀ c,s.ag=some c->e.size<=c)->Ext e h->I (J4 s.p s.len s.cap) h):AA G P DD #[J4 none 0 0,fv] e I:=by
 refine IM (s:=⟨none,0,0⟩) ?_;unfold EY;refine aj.mk λo _ a L ay=>?_
 have M: ∀b,S b->b<e.size:=λb a=>by
  have:=K b a;rw[Fl (J.1 b a)] at this;exact Aj this
 have ae: ∀h:aa,Mod (λc=>c=e.size) o h->Ext e h:=λh m=>L.then (m.ak λc _ j=> .inr (by omega))
 refine YO J (λb a=>(L.get b (M b a) (by simp)).trans (K b a))
  (λi c y p=>c=none/\ ∃s:Sl,p[e.size]? =some (J2 #[J4 s.p s.len s.cap] AR (0,0))/\Own Be AU p s (l.take i)/\(∀ b,y b↔(b=e.size\/s.ag=some b))/\(∀ b,s.ag=some b->b<p.size/\e.size<b))
  (λb=>b=e.size) (λb a d=>by have:=M b a;omega) ?_ ?_ ?_ ?_ ?_ ?_
 ·rintro i c y p ⟨_,s,q,r,f,k⟩ b a;rcases(f b).1 a with rfl|n
  ·exact Aj q
  ·exact(k b n).1
 ·rintro i c y p h ⟨d,s,q,r,f,k⟩ m;refine⟨d,s,m.ag q (λz=>z.1 ((f _).2 (.inl rfl))),r.mod m (λc j z=>z.1 ((f _).2 (.inr j))),f,λb a=>⟨?_,(k b a).2⟩⟩;have:=m.size;have:=(k b a).1;omega
 ·exact⟨rfl,⟨none,0,0⟩,a,Own.nil,λb=>by simp[Sl.ag],λb a=>by simp[Sl.ag] at a⟩
 ·rintro i x N p rec az aA hi ⟨_,s,q,r,f,k⟩ O aC af ag ah aD;have aE:=(List.getElem?_eq_some_iff.1 hi).1;refine aj.pair λaF Q aG ai u aH=>?_
  refine⟨rec,u.ag af (by simp),ag,?_⟩;generalize R:Q.setIfInBounds (o.size+1) (.loop {rec with state:= .busy})=A;have t:Mod (λb=>b=o.size+1) Q A:=R▸Mod.setObj rfl;have ak:A[o.size+1]? =some (.loop {rec with state:= .busy}):=by rw[<- R];exact Ce (by omega)
  have aI:=Aj q;have B:=t.ag ai (by omega);have T:=t.ag (u.ag q (by simp)) (by omega);have al:=(r.ext u).mod t (λc j d=>O ((f _).2 (.inr (d▸j))));refine AV.mk (AO T rfl) (AL.mk (AO B rfl) (AL.mk (AB B rfl) (Aa.mk (AB B rfl) ?_)));have U:(l.take i).length=i:=by simp;omega
  refine aj.aU (E:=Be) (x:=x) rfl IR al (by rw[U];omega) (by rw[U];simp[maxLen];omega) λV W X v C _=>?_
  have aJ:=t.size;have am:s.ag≠some e.size:=λd=>by have:=k _ d;omega
  refine ab.mk (v.ag T am) (by simp) λan ap D aK=>ah an ?_
  refine⟨λb=>b=e.size\/V.ag=some b,?_,?_,?_,rfl,V,by simpa using ap,?_,λ_=>CA,?_⟩
  ·rintro b (rfl|a)
   ·exact .inl ((f _).2 (.inl rfl))
   ·rcases C b a with n|n
    ·exact .inl ((f _).2 (.inr n))
    ·exact .inr (by omega)
  ·have aq:Mod (λb=>N b\/b=o.size+1) p A:=u.mod.trans (t.ak λb _ a=> .inr a);have ar:Mod (λb=>N b\/b=o.size+1) p W:=aq.trans (v.ak λb _ a=> .inl ((f _).2 (.inr a)));exact ar.trans (D.ak λb _ a=> .inl ((f _).2 (.inl a)))
  ·refine D.ag (v.ag ak (λd=>O ((f _).2 (.inr d)))) (by omega)
  ·have au:=X.mod D (λc j d=>by
    rcases C c j with n|n
    ·have:=k _ n;omega
    ·omega)
   rw[AE,hi];exact au
  ·intro b a;have:=v.size;have aL:b<W.size:=by
    rcases X.row with⟨rfl,_⟩|⟨g,av,F,w,_⟩
    ·simp[Sl.ag] at a
    ·simp[Sl.ag,F] at a;subst a;exact Aj w
   refine⟨by omega,?_⟩;rcases C b a with n|n
   ·exact(k _ n).2
   ·omega
 ·rintro O' h ⟨_,s,q,r,f,k⟩ Y _ aM Z;have aN:=Y.size;refine AV.mk (AO q rfl) ⟨Z,?_⟩;rw[CD] at r;have aw:s.ag≠some o.size:=λd=>by
   rcases r.row with⟨rfl,_⟩|⟨g,av,F,w,_⟩
   ·simp[Sl.ag] at d
   ·simp[Sl.ag,F] at d;rw[d,Z] at w;cases w
  refine ac s _ (r.mod (Mod.setObj (S:=λc=>c=o.size) rfl) λc j d=>aw (d▸j)) (λc j=>by have:=k _ j;omega) ?_;exact(ae h Y).then (Mod.setObj (.inr (by omega)))
 ·rintro i aO O' h ⟨d,_⟩;cases d
theorem Xj {e:ao}{d f:aa}{fv:J0}{g:Nat->Prop}{l:List Pr}{h:A30}(i:EO e P fv g f l)(j: ∀b,g b->d[b]? =f[b]?)(k:l.length<=1099511627776)
  (m: ∀s a,Own Be AU a s l->(∀ c,s.ag=some c->d.size<=c)->Ext d a->h (J4 s.p s.len s.cap) a):AA e P DC #[fv] d h:=by
 refine Mt ?_;unfold Ia;exact AHr i j k λs a n o p=>⟨s,rfl,m s a n o p⟩
def A7(l:List Pr):List Pr:=l.filter λx=> !x.gone
theorem wW {b:Type}{p:b->Bool}: ∀ {l:List b} {i:Nat} {x:b},l[i]? =some x->p x=true->(l.filter p)[((l.take i).filter p).length]? =some x
 | [],i,x,a,_=>by simp at a
 |y::l,0,x,a,c=>by simp at a;subst a;simp[c]
 |y::l,i+1,x,a,c=>by
  have d:=wW (p:=p) (l:=l) (i:=i) (by simpa using a) c;rw[Ln,AT,AT];split
  ·simpa using d
  ·exact d
theorem AF3 {a:Type}{p:a->Bool}(l:List a)(i:Nat):((l.take i).filter p).length<=(l.filter p).length:=((List.take_sublist i l).filter p).length_le
theorem ARZ {X:ao}{D:aa}{b:Nat}{T:Q7}{fr:Nat×Nat}{fv:J0}{z:Nat->Prop}{l:List Pr}(a:D[b]? =some (J2 #[fv] T fr))(h:(fv= .nilFunc/\l= []/\ ∀c,¬z c)\/EO X P fv z D l):
  EO X P (.func (.func PT) #[] #[J5 (some ⟨b,0,none⟩)]) (λc=>z c\/c=b) D (A7 l):=by
 have aw:=Aj a;refine⟨?_,_,_,rfl,λY=>by kernel_rfl,λd E Y w F ax hd hB ay G=>?_⟩
 ·rintro c (n|rfl)
  ·rcases h with h|h
   ·exact absurd n (h.2.2 c)
   ·exact h.1 c n
  ·exact aw
 rw[qD];refine ACH ?_;unfold VZ;refine YP.mk ax (aj.mk λu _ az q aJ=>?_);have Z:u[b]? =some (J2 #[fv] T fr):=by have r:=(E b (.inr rfl)).trans a;exact q.ag r (by simp)
 refine TL.mk (AO Z rfl) ?_;rcases h with⟨rfl,rfl,_⟩|h
 ·refine⟨trivial,ae.yes rfl ?_⟩;exact⟨rfl,0,true,F,q.mod,λb a=> .inl a,hB.aW _ _ _ _ _ G (q.ak λ_ _ d=>d.elim),λ_=>rfl,by simp⟩
 ·refine⟨h.one.2.1,ae.no h.one.2.2 ?_⟩;refine TL.mk (AO Z rfl) ?_;have aA:=hB.wf _ _ _ _ G;have aC: ∀b,z b->b<d.size:=λb a=>by
   have:=E b (.inl a);rw[Fl (h.1 b a)] at this;exact Aj this
  have aD:=hB.aW _ _ _ _ _ G (q.ak (S':=λb=>¬F b/\d.size<=b) λ_ _ d=>d.elim);refine YO h (λc n=>(q.get c (aC c n) (by simp)).trans (E c (.inl n)))
   (λi c e j=>j[d.size]? =some (J2 #[Y] Mq (0,0))/\ ¬e d.size/\match c with
    |none=>w (A7 (l.take i)).length true e j
    |some ab=>ab=none/\ ∃s,s<=(A7 l).length/\w s false e j)
   F (λc n=>hd c (.inl n)) ?_ ?_ ?_ ?_ ?_ ?_
  ·rintro i c e j ⟨_,_,f⟩;cases c
   ·exact hB.wf _ _ _ _ f
   ·obtain⟨_,s,_,H⟩:=f;exact hB.wf _ _ _ _ H
  ·rintro i c e j I ⟨r,t,f⟩ m;refine⟨m.ag r (λd=>by omega),t,?_⟩;have ac:Mod (λb=>¬e b/\d.size<=b) j I:=m.ak λb _ a=>⟨a.1,by omega⟩
   cases c
   ·exact hB.aW _ _ _ _ _ f ac
   ·obtain⟨H,s,J,aE⟩:=f;exact⟨H,s,J,hB.aW _ _ _ _ _ aE ac⟩
  ·exact⟨az,λd=>by have:=aA _ d;omega,aD⟩
  ·rintro i x e j rec aK aL hi ⟨r,t,f⟩ L aM aF aG af aH;refine aj.pair λaN ag aO aI M aP=>?_
   refine⟨rec,M.ag aF (by simp),aG,?_⟩;generalize k:ag.setIfInBounds (u.size+1) (.loop {rec with state:= .busy})=v;have y:Mod (λb=>b=u.size+1) ag v:=k▸Mod.setObj rfl;have N:v[u.size+1]? =some (.loop {rec with state:= .busy}):=by rw[<- k];exact Ce (by omega)
   have A:=y.ag aI (by omega);have O:=y.ag (M.ag r (by simp)) (by omega);have Q:Mod (λb=>b=u.size+1) j v:=(Ext.mod M).trans y;have ai:w (A7 (l.take i)).length true e v:=hB.aW _ _ _ _ _ f (Q.ak λb _ a=>by subst a;exact⟨L,by omega⟩);have ak:A7 (l.take (i+1))=A7 (l.take i)++A7 [x]:=by rw[AE,hi];simp[A7]
   refine ah.mk λK al=>?_
   refine Aa.mk (AB A rfl) ?_;refine ae.intro (λo=>?_) (λo=>?_)
   ·have o:(!x.gone)=true:=o;refine TL.mk (AO O rfl) ?_;refine AL.mk (AO A rfl) (AL.mk (AB A rfl) (Aa.mk (AB A rfl) ?_));refine Er.mono (ay _ _ e v (wW (p:=λx:Pr=> !x.gone) hi o) ai) ?_;rintro _ R ⟨g,B,rfl,am,C,an⟩;refine⟨g,rfl,al _ _ ?_⟩;have aQ:=AF3 (p:=λx:Pr=> !x.gone) l (i+1);have ap:(A7 (l.take (i+1))).length=(A7 (l.take i)).length+1:=by rw[ak];simp only[A7,A1];simp[o]
    have aq:=C.ag O t;have ar: ¬B d.size:=λn=>(am _ n).elim t λd=>by have:=y.size;omega
    have au:Mod (λb=>e b\/b=u.size+1) j R:=(Q.ak λb _ a=> .inr a).trans (C.ak λb _ a=> .inl a);have av: ∀b,B b->e b\/j.size<=b:=λb a=>(am b a).elim .inl λd=> .inr (by have:=y.size;omega)
    refine ae.intro (λk=>aH none R ?_) (λk=>af R ?_)
    ·have k:g=false:=by simpa using k
     subst k;exact⟨B,av,au,C.ag N L,aq,ar,rfl,_,by have:=ap;unfold A7 at *;omega,an⟩
    ·have k:g=true:=by simpa using k
     subst k;exact⟨B,av,au,C.ag N L,aq,ar,by show w _ _ _ _;rw[ap];exact an⟩
   ·have o:(!x.gone)=false:=o;refine al _ _ (ae.no rfl (af v ?_));refine⟨e,λb a=> .inl a,Q.ak λb _ a=> .inr a,N,O,t,?_⟩;show w _ _ _ _;have:A7 [x]= []:=by simp at o;simp[A7,o]
    rw[ak,this,AS];exact ai
  ·rintro O' I ⟨r,t,f⟩ S U V W;refine⟨W,rfl,(A7 l).length,true,O',?_,?_,?_,λ_=>rfl,A0 _⟩
   ·exact(q.mod.trans S).then (Mod.setObj (.inr (by omega)))
   ·intro b a;exact(V b a).elim .inl λd=> .inr (by omega)
   ·rw[CD] at f;exact hB.aW _ _ _ _ _ f (Mod.setObj ⟨U,by omega⟩)
  ·rintro i ab O' I ⟨r,t,rfl,s,J,f⟩ hi S U V W;refine⟨W,rfl,s,false,O',?_,?_,?_,(λd=>by cases d),J⟩
   ·exact(q.mod.trans S).then (Mod.setObj (.inr (by omega)))
   ·intro b a;exact(V b a).elim .inl λd=> .inr (by omega)
   ·exact hB.aW _ _ _ _ _ f (Mod.setObj ⟨U,by omega⟩)
theorem sT {f:ao}{d:aa}{fv:J0}{g:Nat->Prop}{l:List Pr}{i:A30}(a:(fv= .nilFunc/\l= []/\ ∀c,¬g c)\/EO f P fv g d l)
  (m: ∀j e,EO f P j (λc=>g c\/c=d.size) e (A7 l)->Ext d e->e.size=d.size+1->i j e):AA f P OG #[fv] d i:=by
 refine AFb ?_;unfold ZW;refine YP.mk ?_ (aj.mk λn _ o k p=>?_)
 ·rcases a with a|a
  ·rw[a.1];rfl
  ·exact a.one.1
 ·refine m _ n (ARZ o ?_) k p;rcases a with a|a
  ·exact .inl a
  ·exact .inr (a.ak (λ_=>id) (λb h=>by have:=a.1 b h;omega) (λb h=>k.get b (a.1 b h) (by simp)))
def Ru(a:A31)(x:Pr):Bool:=decide (a=⟨#[]⟩)||aG x.key a
def QY(a:A31)(b:Int)(l:List Pr):List Pr:=(l.takeWhile (Ru a)).take b.toNat
theorem nA {b:Type}{p:b->Bool}: ∀ {l:List b} {i:Nat},i<=(l.takeWhile p).length->(l.takeWhile p).take i=l.take i
 | [],i,_=>by simp
 |y::l,0,_=>by simp
 |y::l,i+1,a=>by
  rw[MT] at a ⊢;split at a
  ·rename_i c;simp only[c,if_true,Ln];rw[nA (by simpa using a)]
  ·simp at a
theorem Rj: ∀(a:List UInt8),Op.bytesLess a a=false
 | []=>rfl
 |a::x=>by simp[Op.bytesLess,Rj x]
theorem lA: ∀(a b:List UInt8),Op.bytesLess a b=false->Op.bytesLess b a=false->a=b
 | [],[],_,_=>rfl
 | [],_::_,c,_=>by simp[Op.bytesLess] at c
 |_::_,[],_,c=>by simp[Op.bytesLess] at c
 |a::x,b::f,d,e=>by
  simp only[Op.bytesLess,GC,RE,decide_eq_false_iff_not,beq_eq_false_iff_ne] at d e;have g:a=b:=by grind
  subst g;rw[lA x f (d.2.resolve_left (by simp)) (e.2.resolve_left (by simp))]
theorem UW: ∀(a b c:List UInt8),Op.bytesLess a b=true->Op.bytesLess b c=true->Op.bytesLess a c=true
 |_,[],_,f,_=>by simp[Op.bytesLess] at f
 |_,_::_,[],_,f=>by simp[Op.bytesLess] at f
 | [],_::_,_::_,_,_=>by simp[Op.bytesLess]
 |a::x,b::g,c::z,e,d=>by
  simp only[Op.bytesLess,CH,A3,decide_eq_true_eq,beq_iff_eq] at e d ⊢;rcases e with e|⟨rfl,e⟩
  ·grind
  ·rcases d with d|⟨rfl,d⟩
   ·exact .inl d
   ·exact .inr ⟨rfl,UW x g z e d⟩
theorem CS(a:A31):aG a a=false:=Rj _
theorem DK {a b c:A31}(d:aG a b=true)(e:aG b c=true):aG a c=true:=UW _ _ _ d e
theorem Mf {a b:A31}(d:aG a b=false)(e:aG b a=false):a=b:=by
 have:=lA _ _ d e;have c:bD a b=true:=by simp[bD,this]
 rw[Bj] at c;simpa using c
theorem Oi {a b:A31}(c:aG a b=true):aG b a=false:=by grind [aG,DK,CS]
theorem nB {a b c:A31}(d:aG a b=true)(e:aG c b=false):aG a c=true:=by grind [aG,Mf,DK]
theorem qE {a b c:A31}(d:aG b a=false)(e:aG c b=false):aG c a=false:=by grind [aG,nB]
def upto(p q:Pr):Bool:=aG q.key p.key||bD q.key p.key
def Iq(p:Pr)(l:List Pr):List Pr:=l.dropWhile (upto p)
inductive MG:List (List Pr)->List Pr->Prop
 |done {ls:List (List Pr)} (h: ∀l,l∈ls->l= []):MG ls []
 |step {ls:List (List Pr)} {k:Nat} {p:Pr} {t out:List Pr} (hk:ls[k]? =some (p::t))
   (hmin: ∀j q u,ls[j]? =some (q::u)->aG q.key p.key=false/\(j<k->aG p.key q.key=true)) (hm:MG (ls.map (Iq p)) out):MG ls (p::out)
theorem MG.hZ {a:List (List Pr)}{out:List Pr}(m:MG a out)(b: ∀l,l∈a->l= []):out= []:=by
 cases m with
 |done _=>rfl
 |step c d e=>have:=b _ (AG c);cases this
theorem MG.gb {a:List (List Pr)}{out:List Pr}(m:MG a out){b:Nat}{p:Pr}{t:List Pr}(e:a[b]? =some (p::t))
  (g: ∀c q u,a[c]? =some (q::u)->aG q.key p.key=false/\(c<b->aG p.key q.key=true)): ∃d,out=p::d/\MG (a.map (Iq p)) d:=by
 cases m with
 |done f=>have:=f _ (AG e);cases this
 | @step _ h i j k l n o=>
  grind
theorem sL {d:Type}: ∀(a:List d) (b i:Nat) (v:d),(a.set i v).take b=(a.take b).set i v
 | [],b,i,v=>by simp
 |c::a,0,i,v=>by simp
 |c::a,b+1,0,v=>by simp
 |c::a,b+1,i+1,v=>by simp[sL a b i v]
end Go.Lf.G.M
namespace Go.Lf
open G
theorem Own.jg {T:Q7}{d:aa}{s:Sl}{l:List Sl}(e:Own gR T d s l){i:Nat}(hi:i<l.length){x:Sl}{K:aa->Prop}{a:Q6}(f:s.p=some a)
  (q: ∀c,Own gR T c s (l.set i x)->Mod (λb=>s.ag=some b) d c->c.size=d.size->K c):ab d (a.add (i*1)) (J4 x.p x.len x.cap) K:=by
 rcases e.row with⟨rfl,_⟩|⟨g,y,h,r,t,u,n,o⟩
 ·simp at f
 ·rw[h] at f;cases f;rw[CE,AH,AM];have j:gR.w=1:=rfl;rw[j,AM] at n o;have z:=e.len;refine ab.mk r (by omega) λc k m v=>q c ⟨by simpa using e.len,.inr ⟨g,_,h,k,t,u,by simp[n,j],?_⟩⟩ (m.ak λb _ k=>by simp[Sl.ag,h,k]) v
  rw[j,AM,DO,Go.Lf.G.M.sL,o];have p: ∀l:List Sl,l.flatMap gR.enc=l.map (λs=>Value.slice s.p s.len s.cap):=λl=>by
   induction l with
   |nil=>rfl
   |cons A l w=>rw[AW,w];rfl
  rw[p,p,Is]
end Go.Lf
namespace Go.Lf.G.M
open Go Go.Lf Go.Lf.G
structure iR (lo:Nat) (h:aa) (O:Nat->Prop) (t:Sl) (sls:List Sl) (ls:List (List Pr)):Prop where
 len:sls.length=ls.length
 row: ∀(j:Nat) (sl:Sl) (l:List Pr),sls[j]? =some sl->ls[j]? =some l->View Be h sl l/\l.length<=1099511627776/\ ∀c,sl.ag=some c->lo<=c/\c<h.size/\t.ag≠some c/\ ¬O c
theorem iR.mod {lo:Nat}{b i:aa}{f O':Nat->Prop}{t t':Sl}{j:List Sl}{k:List (List Pr)}{n:Nat->Prop}(o:iR lo b f t j k)(m:Mod n b i)(p: ∀c,lo<=c->c<b.size->t.ag≠some c-> ¬f c-> ¬n c)
  (q: ∀c,c<b.size->t'.ag=some c->t.ag=some c) (r: ∀c,c<b.size->O' c->f c):iR lo i O' t' j k:=
 ⟨o.len,λs sl l g e=>by
  obtain⟨v,u,d⟩:=o.row s sl l g e;refine⟨v.mod m λc a=>p c (d c a).1 (d c a).2.1 (d c a).2.2.1 (d c a).2.2.2,u,λc a=>?_⟩;obtain⟨g,e,w,x⟩:=d c a;have:=m.size;exact⟨g,by omega,λh=>w (q c e h),λh=>x (r c e h)⟩⟩
end Go.Lf.G.M
namespace Go.Lf
open G
theorem View.val {b:aa}{s:Sl}{c:List gS}(v:View jE b s c){i:Nat}{x:gS}(hi:c[i]? =some x): ∃a,s.p=some a/\af b (a.add (i*1))=some x.v:=by obtain⟨a,d,e⟩:=v.cells i x hi;exact⟨a,d,e.val⟩
end Go.Lf
namespace Go.Lf.G.M
open Go Go.Lf Go.Lf.G
theorem ASy {a9:ao}{ag:aa}{b:Nat}{T:Q7}{fr:Nat×Nat}{s:Sl}{S:Nat->Prop}{I:List gS}{os:List (Option (List Pr))}{out:List Pr}(B:ag[b]? =some (J2 #[J4 s.p s.len s.cap] T fr))(v:View jE ag s I)
  (ba:I.length<=1099511627776) (bH:os.length=I.length)
  (bI: ∀(i:Nat) (v:gS),I[i]? =some v->(v.v= .nilFunc/\os[i]? =some none)\/ ∃l,os[i]? =some (some l)/\EO a9 P v.v S ag l/\l.length<=1099511627776) (bJ:MG (os.filterMap id) out) (cm: ∀b,S b->b<ag.size):
  EO a9 P (.func (.func Qu) #[] #[J5 (some ⟨b,0,none⟩)]) (λc=>S c\/(c<ag.size/\(c=b\/s.ag=some c))) ag out:=by
 have bK:=Aj B;refine⟨?_,_,_,rfl,λbL=>by kernel_rfl,λf bb bL aM R cn hd hB bM bc=>?_⟩
 ·grind
 rw[qD];refine AER ?_;unfold XG;have bN:=hB.wf _ _ _ _ bc;have bO:f[b]? =some (J2 #[J4 s.p s.len s.cap] T fr):=(bb b (.inr ⟨bK,.inl rfl⟩)).trans B;have bP: ∀i x,I[i]? =some x-> ∃a,s.p=some a/\af f (a.add (i*1))=some x.v:=λi x hi=>by
  obtain⟨a,bd,N⟩:=v.val hi
  grind [ZH,aQ,Sl.ag,RP,trans]
 have bQ: ∀c,S c->c<f.size:=λc k=>by
  grind
 refine AV.mk (AO bO rfl) ?_;refine Loop.rule (λm x J=> ∃(i:Nat) (t:Sl) (z:List Sl),x=(t,(i:Int),())/\m=I.length-i/\i<=I.length/\Ext f J/\Own gR AR J t z/\(∀ c,t.ag=some c->f.size<=c)/\iR f.size J R t z ((os.take i).filterMap id)/\z.length<=i) ?_
  ⟨0,⟨none,0,0⟩,[],rfl,rfl,by omega,Mod.refl,Own.nil,λc k=>by simp[Sl.ag] at k,⟨by simp,λe sl l f=>by simp at f⟩,by simp⟩
 rintro K m _ J ⟨i,t,z,rfl,rfl,hi,M,C,aq,L,be⟩ ar;refine ae.intro (λr=>?_) (λr=>?_)
 ·have aC:i<I.length:=by simp[v.len] at r;omega
  have bf:=A2 aC;refine ah.mk λco bg=>?_
  obtain⟨a,bd,N⟩:=bP i _ bf;refine aS.mk bd (by rw[v.len];exact aC) ?_;refine TL.mk (M.af N) ?_;rcases bI i _ bf with⟨bh,aN⟩|⟨l,aN,aO,bi⟩
  ·refine⟨by rw[bh];trivial,ae.no (by rw[bh];rfl) ?_⟩;refine bg _ _ (ar (I.length-(i+1)) _ _ (by omega) ⟨i+1,t,z,by rw[Ab (by omega)],rfl,by omega,M,C,aq,?_,by omega⟩);have:(os.take (i+1)).filterMap id=(os.take i).filterMap id:=by rw[AE,aN];simp
   rw[this];exact L
  ·refine⟨aO.one.2.1,ae.yes (by rw[aO.one.2.2];rfl) ?_⟩;refine Xj aO (λc k=>(M.get c (bQ c k) (by simp)).trans (bb c (.inl k))) bi λau W aP aD aE=>⟨au,rfl,?_⟩
   refine aj.aU (E:=gR) (x:=au) rfl APZ (C.ext aE) (by omega) (by simp[maxLen];omega) λbj bR bS aF aR _=>?_
   have bT:Ext f bR:=(M.trans aE).then (aF.ak λc _ k=> .inr (aq c k));refine bg _ _ (ar (I.length-(i+1)) _ _ (by omega) ⟨i+1,bj,_,by rw[Ab (by omega)],rfl,by omega,bT,bS,?_,?_,?_⟩)
   ·intro c k;rcases aR c k with h|h
    ·exact aq c h
    ·have:=M.size;have:=aE.size;omega
   ·have G:(os.take (i+1)).filterMap id=(os.take i).filterMap id++ [l]:=by rw[AE,aN];simp
    rw[G];have aH:=(L.mod aE (λc _ _ _ _ f=>f) (λc _ f=>f) (λc _ f=>f)).mod (t':=bj) aF (λc _ _ O _=>O) (λc k h=>(aR c h).elim id λo=>by omega) (λc _ f=>f);refine⟨by simp[aH.len],λe sl H h o=>?_⟩;rcases HT e z.length with A|A|A
    ·rw[FF A] at h;rw[FF (by rw[<- aH.len];exact A)] at o;exact aH.row e sl H h o
    ·subst A;rw[A06] at h;rw[aH.len,A06] at o;cases h;cases o;have cp:t.ag≠au.ag\/au.ag=none:=by
      cases aI:au.ag with
      |none=>exact .inr rfl
      |some c=>
       refine .inl λG=>?_
       have:=C.lt G;have:=aD c aI;omega
     refine⟨(aP.view).mod aF λc k O=>?_,bi,λc k=>⟨?_,?_,?_,?_⟩⟩
     ·grind
     ·have:=aD c k;have:=M.size;omega
     ·have:=aP.lt k;have:=aF.size;omega
     ·intro h;have:=aP.lt k;rcases aR c h with o|o
      ·have:=C.lt o;have:=aD c k;omega
      ·omega
     ·intro h;have:=bN c h;have:=aD c k;have:=M.size;omega
    ·rw[Rr (by simp;omega)] at h;cases h
   ·simp;omega
 ·have aC:i=I.length:=by simp[v.len] at r;omega
  rw[aC,<-bH,CD] at L;have bk:=hB.aW _ _ _ _ _ bc (M.ak (S':=λb=>¬R b/\f.size<=b) λ_ _ f=>f.elim);refine Loop.rule (λm _ J=> ∃(i:Nat) (D:Nat->Prop) (z:List Sl) (j:List (List Pr)) (ai:List Pr),MG j ai/\m=ai.length/\(∀ n,out[i+n]? =ai[n]?)/\i+ai.length=out.length/\Mod R f J/\(∀ b,D b->R b\/f.size<=b)/\aM i true D J/\
    Own gR AR J t z/\(∀ c,t.ag=some c-> ¬D c)/\iR f.size J D t z j/\z.length<=1099511627776) ?_
   ⟨0,R,z,_,out,bJ,rfl,λn=>by rw[AH],by omega,M.mod,λb B=> .inl B,bk,C,λc k O=>by grind,L,by omega⟩
  clear ar L M C be bk;rintro cq m _ J ⟨i,D,z,j,ai,bm,rfl,bn,bo,aT,aU,A,C,aV,L,be⟩ ar;have cr:=hB.wf _ _ _ _ A;refine Loop.rule (λm x aJ=> ∃(d:Nat) (X:Int),x=(X,(d:Int),())/\aJ=J/\m=j.length-d/\d<=j.length/\((X= -1/\ ∀e l,e<d->j[e]? =some l->l= [])\/
   ∃n p u,X=(n:Nat)/\n<d/\j[n]? =some (p::u)/\ ∀e q y,e<d->j[e]? =some (q::y)->aG q.key p.key=false/\(e<n->aG p.key q.key=true))) ?_
   ⟨0,-1,rfl,rfl,rfl,by omega,.inl ⟨rfl,λe l f=>by omega⟩⟩
  rintro cs m _ aJ ⟨d,X,rfl,bU,rfl,O,aW⟩ aX;subst bU;have ct:=L.len;refine ae.intro (λr=>?_) (λr=>?_)
  ·have U:d<j.length:=by simp[C.len] at r;omega
   have F:=A2 U;have Y:=A2 (l:=z) (i:=d) (by omega);obtain⟨Z,bp,_⟩:=L.row d _ _ Y F;refine ah.mk λcu bq=>?_
   refine C.view.idx Y λcv _ bV=>?_
   refine AV.mk bV.sl ?_;refine ah.mk λbr bs=>?_
   have bt:((X= -1/\ ∀e l,e<d+1->j[e]? =some l->l= [])\/
     ∃n p u,X=(n:Nat)/\n<d+1/\j[n]? =some (p::u)/\ ∀e q y,e<d+1->j[e]? =some (q::y)->aG q.key p.key=false/\(e<n->aG p.key q.key=true))->br (false,()) aJ:=λG=>
    bs _ _ (ae.no rfl (bq _ _ (aX (j.length-(d+1)) _ _ (by omega) ⟨d+1,X,by rw[Ab (by omega)],rfl,rfl,by omega,G⟩)))
   have bu:(∃ n p u,(d:Int)=(n:Nat)/\n<d+1/\j[n]? =some (p::u)/\ ∀e q y,e<d+1->j[e]? =some (q::y)->aG q.key p.key=false/\(e<n->aG p.key q.key=true))->br (true,()) aJ:=λG=>
    bs _ _ (ae.yes rfl (bq _ _ (aX (j.length-(d+1)) _ _ (by omega) ⟨d+1,d,by rw[Ab (by omega)],rfl,rfl,by omega,.inr G⟩)))
   refine ae.intro (λr=>?_) (λr=>?_)
   ·cases ak:j[d] with
    |nil=>rw[ak] at Z;have:=Z.len;simp[this] at r
    |cons q y=>
     rw[ak] at Z F;rcases aW with⟨rfl,av⟩|⟨n,p,u,rfl,bv,ab,al⟩
     ·refine ae.yes (by simp) (bu ⟨d,q,y,rfl,by omega,F,λe am an A w=>?_⟩);rcases CC e d with h|h
      ·have:=av e _ h w;cases this
      ·have:e=d:=by omega
       subst this;rw[F] at w;cases w;exact⟨CS _,λf=>by omega⟩
     ·refine ae.no (by simp) ?_;refine Z.idx (i:=0) (x:=q) rfl λcw _ bW=>?_
      refine AL.mk bW.pair.1 ?_;have aw:=A2 (l:=z) (i:=n) (by omega);obtain⟨aY,_,_⟩:=L.row n _ _ aw ab;refine C.view.idx aw λbX _ aZ=>?_
      refine AV.mk aZ.sl ?_;refine aY.idx (i:=0) (x:=p) rfl λbY _ ax=>?_
      refine AL.mk ax.pair.1 ?_;cases aI:aG q.key p.key
      ·refine bt (.inr ⟨n,p,u,rfl,by omega,ab,λe am an A w=>?_⟩);rcases CC e d with h|h
       ·exact al e am an h w
       ·have:e=d:=by omega
        subst this;rw[F] at w;cases w;exact⟨aI,λf=>by omega⟩
      ·refine bu ⟨d,q,y,rfl,by omega,F,λe am an A w=>?_⟩;rcases CC e d with h|h
       ·have o:=(al e am an h w).1;have W:=nB aI o;exact⟨Oi W,λ_=>W⟩
       ·have:e=d:=by omega
        subst this;rw[F] at w;cases w;exact⟨CS _,λf=>by omega⟩
   ·have ak:j[d]= []:=by
     have:=Z.len;cases ak:j[d] with
     |nil=>rfl
     |cons q y=>rw[ak] at this;simp[this] at r
    rw[ak] at F;refine bt ?_;rcases aW with⟨rfl,av⟩|⟨n,p,u,rfl,bv,ab,al⟩
    ·refine .inl ⟨rfl,λe l A w=>?_⟩;rcases CC e d with h|h
     ·exact av e l h w
     ·have:e=d:=by omega
      subst this;rw[F] at w;cases w;rfl
    ·refine .inr ⟨n,p,u,rfl,by omega,ab,λe am an A w=>?_⟩;rcases CC e d with h|h
     ·exact al e am an h w
     ·have:e=d:=by omega
      subst this;rw[F] at w;cases w
  ·have U:d=j.length:=by simp[C.len] at r;omega
   subst U;clear aX;rcases aW with⟨rfl,av⟩|⟨n,p,u,rfl,bv,ab,al⟩
   ·refine ae.yes (by simp) ?_;have:ai= []:=bm.hZ λl ba=>by
     obtain⟨e,A,G⟩:=CI ba;exact av e l A (by grind)
    subst this;refine⟨rfl,i,true,D,aT,aU,A,λ_=>by omega,by omega⟩
   ·refine ae.no (by simp) ?_;have bZ: ∀e q y,j[e]? =some (q::y)->aG q.key p.key=false/\(e<n->aG p.key q.key=true):=λe q y N=>al e q y (List.getElem?_eq_some_iff.1 N).1 N
    obtain⟨bw,rfl,b0⟩:=bm.gb ab bZ;have aw:=A2 (l:=z) (i:=n) (by omega);obtain⟨aY,_,_⟩:=L.row n _ _ aw ab;refine C.view.idx aw λbX _ aZ=>?_
    refine AV.mk aZ.sl ?_;refine aY.idx (i:=0) (x:=p) rfl λbY _ ax=>?_
    refine AL.mk ax.pair.1 (AL.mk ax.pair.2.1 (Aa.mk ax.pair.2.2 ?_));refine aj.pair λb1 a0 cx b2 aK cy=>?_
    have b3:=C.ext aK;have b4:iR f.size a0 D t z j:=L.mod aK (λc _ _ _ _ f=>f) (λc _ f=>f) (λc _ f=>f);have b5:aM i true D a0:=hB.aW _ _ _ _ _ A (aK.ak (S':=λb=>¬D b/\f.size<=b) λ_ _ f=>f.elim);have b6:t.ag≠some b1:=λG=>by have:=C.lt G;omega
    refine Loop.rule (λm x Q=> ∃(d:Nat) (V:List Sl),x=((d:Int),())/\m=j.length-d/\d<=j.length/\Mod (λc=>t.ag=some c) a0 Q/\Own gR AR Q t V/\iR f.size Q D t V ((j.take d).map (Iq p)++j.drop d)) ?_
     ⟨0,z,rfl,rfl,by omega,Mod.refl,b3,by simpa using b4⟩
    rintro cz m _ Q ⟨d,V,rfl,rfl,O,ay,ap,az⟩ b7;have b8:V.length=j.length:=by have:=az.len;simp at this;omega
    have aL:=ay.ag b2 b6;refine ae.intro (λr=>?_) (λr=>?_)
    ·have U:d<j.length:=by grind
     have Y:=A2 (l:=V) (i:=d) (by omega);have F:((j.take d).map (Iq p)++j.drop d)[d]? =some j[d]:=by rw[DE (by simp;omega)];simp;rw[Ft (by omega),My];simp[U]
     obtain⟨Z,bp,cB⟩:=az.row d _ _ Y F;refine ap.view.idx Y λcC cD b9=>?_
     refine AV.mk b9.sl ?_;refine Loop.rule (λm x a1=> ∃(aA:Sl) (H:List Pr),x=(aA,())/\a1=Q/\m=H.length/\View Be Q aA H/\(∀ c,aA.ag=some c->V[d].ag=some c)/\Iq p H=Iq p j[d]/\H.length<=1099511627776) ?_
      ⟨_,_,rfl,rfl,rfl,Z,λc f=>f,rfl,bp⟩
     rintro cE m _ a1 ⟨aA,H,rfl,ca,rfl,ac,a2,bx,bz⟩ cb;subst ca;refine ah.mk λcc bA=>?_
     have bB:Iq p H=H->cc (false,()) a1:=λG=>bA _ _ (ae.no rfl (by
      refine ap.view.idx Y λcF cd _=>?_
      refine ap.jg (i:=d) (by omega) cd λce cf a3 cG=>?_
      refine b7 (j.length-(d+1)) _ _ (by omega) ⟨d+1,_,by rw[Ab (by omega)],rfl,by omega,ay.trans a3,cf,?_⟩;have a4:iR f.size ce D t V ((j.take d).map (Iq p)++j.drop d):=az.mod a3 (λc _ _ O _=>O) (λc _ f=>f) (λc _ f=>f);refine⟨?_,λe sl l h o=>?_⟩
      ·simp[b8];omega
      ·rcases HT e d with a5|a5|a5
       ·rw[DP (by omega)] at h;refine a4.row e sl l h ?_;rw[FF (by simp;omega)] at o ⊢;rw[AN,A07 (by omega)] at o ⊢;exact o
       ·subst a5;rw[DM (by omega)] at h;cases h;rw[FF (by simp;omega),AN,A07 (by omega),A2 U] at o;simp at o;subst o;rw[<- bx,G];obtain⟨_,_,k⟩:=a4.row e _ _ Y F;exact⟨ac.mod a3 λc B=>(k c (a2 c B)).2.2.1,bz,λc B=>k c (a2 c B)⟩
       ·rw[DP (by omega)] at h;refine a4.row e sl l h ?_;rw[DE (by simp;omega)] at o ⊢;simp only[AF,AD,C5] at o ⊢;rw[<- o];congr 1;omega))
     refine ae.intro (λr=>?_) (λr=>?_)
     ·cases H with
      |nil=>have:=ac.len;simp[this] at r
      |cons q y=>
       refine ac.idx (i:=0) (x:=q) rfl λcH _ cg=>?_
       refine AL.mk cg.pair.1 (AL.mk (AO aL rfl) ?_);cases bC:(aG q.key p.key||bD q.key p.key)
       ·exact bB (by simp[Iq,upto,bC])
       ·have ch:=ac.len;simp at ch bz;refine bA _ _ (ae.yes rfl ⟨⟨by omega,by show(1:Int)<=((aA.len:Nat):Int);omega⟩,cb y.length _ _ (by simp) ⟨_,y,rfl,rfl,rfl,?_,?_,?_,by omega⟩⟩)
        ·have:=ac.sub (lo:=1) (hi:=(q::y).length) (by simp) (A0 _);rw[CD,<-ac.len] at this;exact this
        ·intro c k;exact a2 c (qA k)
        ·rw[<- bx];simp[Iq,upto,bC]
     ·have:H= []:=by
       have:=ac.len;cases H with
       |nil=>rfl
       |cons q y=>simp[this] at r
      subst this;exact bB rfl
    ·have U:d=j.length:=by simp[ap.len] at r;omega
     subst U;rw[CD,PB,AS] at az;refine AL.mk (AO aL rfl) (AL.mk (AB aL rfl) (Aa.mk (AB aL rfl) ?_));have ci:aM i true D Q:=hB.aW _ _ _ _ _ b5 (ay.ak λc _ k=>⟨aV c k,aq c k⟩);have cj:out[i]? =some p:=by have:=bn 0;simpa using this
     refine Er.mono (bM i p D Q cj ci) ?_;rintro _ ck ⟨g,a6,rfl,a7,a8,bE⟩;have cI:=ay.size;have cJ:=aT.size;have bF: ∀b,a6 b->R b\/f.size<=b:=λb B=>(a7 b B).elim (aU b) λcK=> .inr (by omega)
     have cl:Mod R f Q:=(aT.trans aK.mod).then (ay.ak λb _ B=> .inr (aq b B));have bG:Mod R f ck:=cl.then (a8.ak λb _ B=>aU b B);refine⟨g,rfl,ae.intro (λr=>?_) (λr=>?_)⟩
     ·have N:g=false:=by simpa using r
      subst N;exact⟨rfl,i+1,false,a6,bG,bF,bE,(λf=>by cases f),by simp at bo;omega⟩
     ·have N:g=true:=by simpa using r
      subst N;refine ar bw.length _ _ (by simp) ⟨i+1,a6,V,_,bw,b0,rfl,λn=>?_,by simp at bo;omega,bG,bF,bE,ap.mod a8 (λc k=>aV c k),?_,?_,by omega⟩
      ·have:=bn (n+1);rw[show i+1+n=i+(n+1) by omega,this];rfl
      ·intro c k o;rcases a7 c o with W|W
       ·exact aV c k W
       ·have:=ap.lt k;omega
      ·exact az.mod a8 (λc _ _ _ O=>O) (λc _ f=>f) (λc k o=>(a7 c o).elim id λW=>by omega)
def Sorted(l:List Pr):Prop:=l.Pairwise λa b=>aG a.key b.key=true
def Ac(a:A31)(l:List Pr):Option Pr:=l.find? λq=>decide (q.key=a)
theorem RA(a:A31):Ac a []=none:=rfl
theorem BB(a:A31)(x:Pr)(l:List Pr):Ac a (x::l)=if x.key=a then some x else Ac a l:=by unfold Ac;rw[DS];by_cases b:x.key=a<;>simp[b]
theorem MW {b:A31}{l:List Pr}{x:Pr}(a:Ac b l=some x):x.key=b/\x∈l:=by unfold Ac at a;exact⟨by simpa using LS a,IH a⟩
theorem EE {a:A31}{l:List Pr}(b: ∀x∈l,x.key≠a):Ac a l=none:=by unfold Ac;rw[Hi];simpa using b
theorem Lu {a b:A31}(c:aG a b=true):a≠b:=by rintro rfl;rw[CS] at c;cases c
theorem Sorted.find {l:List Pr}(s:Sorted l){x:Pr}(a:x∈l):Ac x.key l=some x:=by
 induction l with
 |nil=>cases a
 |cons d l c=>
  rw[BB];have b:=List.pairwise_cons.1 s;rcases List.mem_cons.1 a with rfl|a
  ·simp
  ·rw[if_neg (Lu (b.1 x a))];exact c b.2 a
theorem Sorted.ext: ∀ {l m:List Pr},Sorted l->Sorted m->(∀ d,Ac d l=Ac d m)->l=m
 | [],[],_,_,_=>rfl
 | [],a::m,_,_,b=>by have:=b a.key;rw[BB,if_pos rfl] at this;cases this
 |x::l,[],_,_,b=>by have:=b x.key;rw[BB,if_pos rfl] at this;cases this
 |x::l,a::m,sl,p,b=>by
  have g:=List.pairwise_cons.1 sl;have h:=List.pairwise_cons.1 p;have f:x.key=a.key:=by
   have e:=b x.key;have n:=b a.key;rw[BB,if_pos rfl] at e;rw[BB a.key a m,if_pos rfl] at n;have i:=(MW e.symm).2;have j:=(MW n).2;rcases List.mem_cons.1 i with c|i
   ·rw[c]
   ·rcases List.mem_cons.1 j with c|j
    ·rw[c]
    ·have q:=h.1 x i;have o:=g.1 a j;rw[Oi q] at o;cases o
  have r:x=a:=by have e:=b x.key;rw[BB,BB,if_pos rfl,if_pos f.symm] at e;exact B9 e
  subst r;rw[Sorted.ext g.2 h.2 λd=>?_];have:=b d;rw[BB,BB] at this;by_cases f:x.key=d
  ·subst f;rw[EE λa k c=>Lu (g.1 a k) c.symm,EE λa k c=>Lu (h.1 a k) c.symm]
  ·simpa [f] using this
def ins(x:Pr):List Pr->List Pr
 | []=> [x]
 |q::l=>if aG q.key x.key then q::ins x l else if q.key=x.key then x::l else x::q::l
theorem mD(x:Pr): ∀l,ZF x l=ins x l
 | []=>rfl
 |q::l=>by
  unfold ins;cases b:aG q.key x.key
  ·have a:gN x.key (q::l)= []:=by simp[gN,b]
   by_cases c:q.key=x.key
   ·simp[ZF,aF,a,Aw,c]
   ·simp[ZF,aF,a,Aw,c]
  ·have a:gN x.key (q::l)=q::gN x.key l:=by simp[gN,b]
   have d:aF x.key (q::l)=aF x.key l+1:=by simp[aF,a]
   have f:Aw x.key (q::l)=Aw x.key l:=by simp[Aw,d]
   have e:=mD x l;unfold ZF at e ⊢;rw[d,f];have g:(if Aw x.key l=true then aF x.key l+1+1 else aF x.key l+1)=(if Aw x.key l=true then aF x.key l+1 else aF x.key l)+1:=by split<;>rfl
   rw[g,Ln,KK,Dd,Dd,e];simp
theorem qF {x b:Pr}: ∀ {l:List Pr},b∈ins x l->b=x\/b∈l
 | [],a=>by simp[ins] at a;exact .inl a
 |q::l,a=>by
  unfold ins at a;split at a
  ·rcases List.mem_cons.1 a with rfl|a
   ·exact .inr (by simp)
   ·rcases qF a with a|a
    ·exact .inl a
    ·exact .inr (by simp[a])
  ·split at a
   ·rcases List.mem_cons.1 a with rfl|a
    ·exact .inl rfl
    ·exact .inr (by simp[a])
   ·rcases List.mem_cons.1 a with rfl|a
    ·exact .inl rfl
    ·exact .inr a
theorem X9(x:Pr): ∀ {l:List Pr},Sorted l->Sorted (ins x l)
 | [],_=>Pa _ _
 |q::l,s=>by
  have b:=List.pairwise_cons.1 s;unfold ins;split
  ·rename_i d;refine List.pairwise_cons.2 ⟨λc a=>?_,X9 x b.2⟩;rcases qF a with rfl|a
   ·exact d
   ·exact b.1 c a
  ·rename_i d;split
   ·rename_i e;refine List.pairwise_cons.2 ⟨λc a=>?_,b.2⟩;have:=b.1 c a;rwa [e] at this
   ·rename_i e;have f:aG x.key q.key=true:=by
     cases g:aG x.key q.key
     ·exact absurd (Mf (by simpa using d) g) e
     ·rfl
    refine List.pairwise_cons.2 ⟨λc a=>?_,s⟩;rcases List.mem_cons.1 a with rfl|a
    ·exact f
    ·exact DK f (b.1 c a)
theorem Yh(x:Pr)(a:A31): ∀ {l:List Pr},Sorted l->Ac a (ins x l)=if x.key=a then some x else Ac a l
 | [],_=>by simp[ins,BB,RA]
 |q::l,s=>by
  have c:=List.pairwise_cons.1 s;unfold ins;split
  ·rename_i d;rw[BB,BB,Yh x a c.2];by_cases b:q.key=a
   ·have e:x.key≠a:=by rw[<- b];exact λf=>Lu d f.symm
    simp[b,e]
   ·simp[b]
  ·split
   ·rename_i g;rw[BB,BB,g];by_cases b:x.key=a<;>simp[b]
   ·rw[BB]
def BH(l:List Pr):Prop:= ∀x∈l,Ah x=0
theorem Re {x:Pr}{l:List Pr}(a:Ah x=0):Bt x l=ins x l:=by simp[Bt,a,mD]
theorem QH {x:Pr}{l:List Pr}(s:Sorted l):Sorted (Bt x l):=by
 by_cases a:Ah x=0
 ·rw[Re a];exact X9 x s
 ·simpa [Bt,a] using s
theorem wX {x:Pr}{l:List Pr}(g:BH l):BH (Bt x l):=by
 by_cases a:Ah x=0
 ·rw[Re a];exact λb c=>(qF c).elim (λd=>d▸a) (g b)
 ·simpa [Bt,a] using g
def BF(t l:List Pr):List Pr:=l.foldl (λt x=>Bt x t) t
theorem YV {l:List Pr}: ∀ {t},Sorted t->Sorted (BF t l):=by
 induction l with
 |nil=>exact λs=>s
 |cons x l a=>exact λs=>a (QH s)
theorem sY {l:List Pr}: ∀ {t},BH t->BH (BF t l):=by
 induction l with
 |nil=>exact λs=>s
 |cons x l a=>exact λs=>a (wX s)
theorem oW {l:List Pr}: ∀ {t},(BF t l).length<=t.length+l.length:=by
 induction l with
 |nil=>exact λ{t}=>by simp[BF]
 |cons x l a=>intro t;have:=a (t:=Bt x t);have:=APR x t;simp[BF] at *;omega
theorem ALZ {l:List Pr}(a:A31): ∀ {t},Sorted t->Sorted l->BH l->Ac a (BF t l)=(Ac a l).or (Ac a t):=by
 induction l with
 |nil=>intro t _ _ _;simp[BF,RA]
 |cons x l f=>
  intro t st sl g;have d:=List.pairwise_cons.1 sl;show Ac a (BF (Bt x t) l)=_;rw[f (QH st) d.2 (λb c=>g b (by simp[c])),Re (g x (by simp)),Yh x a st,BB];by_cases e:x.key=a
  ·subst e;rw[EE λb c h=>Lu (d.1 b c) h.symm];simp
  ·simp[e]
def Ae(a:List (List Pr)):List Pr:=a.reverse.foldl BF []
theorem OM(l:List Pr)(a:List (List Pr)):Ae (l::a)=BF (Ae a) l:=by simp[Ae,G3]
theorem Dz: ∀a,Sorted (Ae a)
 | []=>List.Pairwise.nil
 |l::a=>by rw[OM];exact YV (Dz a)
structure aY (ls:List (List Pr)):Prop where
 sorted: ∀l∈ls,Sorted l
 aL: ∀l∈ls,BH l
def Ak(a:A31)(b:List (List Pr)):Option Pr:=b.findSome? (Ac a)
theorem EJ(a:A31)(l:List Pr)(b:List (List Pr)):Ak a (l::b)=(Ac a l).or (Ak a b):=by unfold Ak;rw[RK];cases Ac a l<;>rfl
theorem LK(b:A31): ∀ {a},aY a->Ac b (Ae a)=Ak b a
 | [],_=>rfl
 |l::a,c=>by
  rw[OM,ALZ b (Dz a) (c.sorted l (by simp)) (c.aL l (by simp)),LK b ⟨λm d=>c.sorted m (by simp[d]),λm d=>c.aL m (by simp[d])⟩,EJ]
theorem Vt(p:Pr)(l:List Pr):(Iq p l).Sublist l:=List.dropWhile_sublist _
theorem AKm {p q:Pr}(a:upto p q=false):aG p.key q.key=true:=by
 unfold upto at a;rw[Bj] at a;simp at a;cases b:aG p.key q.key
 ·exact absurd (Mf a.1 b) a.2
 ·rfl
theorem ANw {p q:Pr}(a:upto p q=true):aG p.key q.key=false:=by
 unfold upto at a;rw[Bj] at a;simp at a;rcases a with a|a
 ·exact Oi a
 ·rw[a];exact CS _
theorem qG {p q:Pr}: ∀ {l:List Pr},Sorted l->q∈Iq p l->aG p.key q.key=true
 | [],_,a=>by cases a
 |y::l,s,a=>by
  have b:=List.pairwise_cons.1 s;unfold Iq at a;rw[List.dropWhile_cons] at a;split at a
  ·exact qG b.2 a
  ·rename_i d;have c:=AKm (p:=p) (q:=y) (by simpa using d);rcases List.mem_cons.1 a with rfl|a
   ·exact c
   ·exact DK c (b.1 q a)
theorem wY {p:Pr}{a:A31}(b:aG p.key a=true): ∀ {l:List Pr},Ac a (Iq p l)=Ac a l
 | []=>rfl
 |y::l=>by
  unfold Iq;rw[List.dropWhile_cons];split
  ·rename_i d;have c:=ANw d;rw[BB,if_neg (by rintro rfl;rw[b] at c;cases c)];exact wY b
  ·rfl
theorem MG.ok {a:List (List Pr)}{out:List Pr}(m:MG a out):(∀ l∈a,Sorted l)->Sorted out/\ ∀b,Ac b out=Ak b a:=by
 induction m with
 |done f=>
  rename_i a;intro _;refine⟨List.Pairwise.nil,λb=>?_⟩;have: ∀a:List (List Pr),(∀ l∈a,l= [])->Ak b a=none:=λa f=>by
   unfold Ak;rw[RM];intro l d;rw[f l d];rfl
  rw[this a f];rfl
 | @step a b p t out F C y r=>
  intro g;have G: ∀l∈a.map (Iq p),Sorted l:=λl d=>by
   obtain⟨n,s,rfl⟩:=List.mem_map.1 d;exact(g n s).sublist (Vt p n)
  obtain⟨D,E⟩:=r G;have H: ∀q∈out,aG p.key q.key=true:=λq o=>by
   have e:=D.find o;rw[E] at e;unfold Ak at e;obtain⟨l,d,j⟩:=A09 e;obtain⟨n,s,rfl⟩:=List.mem_map.1 d;exact qG (g n s) (MW j).2
  refine⟨List.pairwise_cons.2 ⟨H,D⟩,λc=>?_⟩;have I: ∀l∈a,∀q∈l,aG q.key p.key=false:=λl d q o=>by
   obtain⟨h,v,i⟩:=CI d;cases l with
   |nil=>cases o
   |cons w u=>
    have e:=(C h w u (by rw[A2 v,i])).1;have z:=List.pairwise_cons.1 (g _ d);rcases List.mem_cons.1 o with rfl|o
    ·exact e
    ·cases j:aG q.key p.key
     ·rfl
     ·have:=DK (z.1 q o) j;rw[this] at e;cases e
  rw[BB];by_cases A:p.key=c
  ·subst A;simp only[if_true];have: ∀(a:List (List Pr)) (b:Nat),a[b]? =some (p::t)->(∀ h q u,a[h]? =some (q::u)->h<b->aG p.key q.key=true)->(∀ l∈a,Sorted l)->Ak p.key a=some p:=by
    intro a
    induction a with
    |nil=>intro b f;simp at f
    |cons l a r=>
     intro b f y g;rw[EJ];cases b with
     |zero=>simp at f;subst f;rw[BB,if_pos rfl];rfl
     |succ b=>
      have J:Ac p.key l=none:=by
       cases l with
       |nil=>rfl
       |cons w u=>
        have e:=y 0 w u rfl (by omega);have z:=List.pairwise_cons.1 (g _ (by simp:(w::u)∈(w::u)::a));refine EE λx k i=>?_
        rcases List.mem_cons.1 k with rfl|k
        ·rw[i,CS] at e;cases e
        ·have:=DK e (z.1 x k);rw[i,CS] at this;cases this
      rw[J,Mb];exact r b (by simpa using f) (λh q u v M=>y (h+1) q u (by simpa using v) (by omega)) (λl d=>g l (by simp[d]))
   rw[this a b F (λh q u v=>(C h q u v).2) g]
  ·rw[if_neg A,E];unfold Ak;cases j:aG p.key c
   ·
    have B:aG c p.key=true:=by
     cases B:aG c p.key
     ·exact absurd (Mf j B) A
     ·rfl
    have K:(a.map (Iq p)).findSome? (Ac c)=none:=by
     rw[RM];intro l d;obtain⟨n,s,rfl⟩:=List.mem_map.1 d;refine EE λx k i=>?_
     have:=qG (g n s) k;rw[i,j] at this;cases this
    have L:a.findSome? (Ac c)=none:=by
     rw[RM];intro l d;refine EE λx k i=>?_
     have:=I l d x k;rw[i,B] at this;cases this
    rw[K,L]
   ·have: ∀a:List (List Pr),(a.map (Iq p)).findSome? (Ac c)=a.findSome? (Ac c):=λa=>by
     induction a with
     |nil=>rfl
     |cons l a r=>rw[BY,RK,RK,wY j,r]
    rw[this]
theorem VN: ∀(d:List (List Pr)),(∀ l∈d,l= [])\/ ∃(e:Nat) (p:Pr) (t:List Pr),d[e]? =some (p::t)/\ ∀(a:Nat) (q:Pr) (u:List Pr),d[a]? =some (q::u)->aG q.key p.key=false/\(a<e->aG p.key q.key=true)
 | []=> .inl λl c=>by cases c
 |l::d=>by
  cases l with
  |nil=>
   rcases VN d with c|⟨e,p,t,h,f⟩
   ·refine .inl λl i=>?_
    rcases List.mem_cons.1 i with rfl|i
    ·rfl
    ·exact c l i
   ·refine .inr ⟨e+1,p,t,by simpa using h,λa q u b=>?_⟩;cases a with
    |zero=>simp at b
    |succ a=>have:=f a q u (by simpa using b);exact⟨this.1,λc=>this.2 (by omega)⟩
  |cons j u=>
   rcases VN d with c|⟨e,p,t,h,f⟩
   ·refine .inr ⟨0,j,u,rfl,λa q g b=>⟨?_,λc=>by omega⟩⟩;cases a with
    |zero=>simp at b;rw[b.1];exact CS _
    |succ a=>have:=c _ (AG (by simpa using b));cases this
   ·cases k:aG p.key j.key
    ·refine .inr ⟨0,j,u,rfl,λa q g b=>⟨?_,λc=>by omega⟩⟩;cases a with
     |zero=>simp at b;rw[b.1];exact CS _
     |succ a=>exact qE k (f a q g (by simpa using b)).1
    ·refine .inr ⟨e+1,p,t,by simpa using h,λa q g b=>?_⟩;cases a with
     |zero=>simp at b;rw[<- b.1];exact⟨Oi k,λ_=>k⟩
     |succ a=>have:=f a q g (by simpa using b);exact⟨this.1,λc=>this.2 (by omega)⟩
def total(a:List (List Pr)):Nat:=(a.map List.length).sum
theorem Ye(p:Pr): ∀a,total (a.map (Iq p))<=total a
 | []=>A0 _
 |l::a=>by
  have:=Ye p a;have:=(Vt p l).length_le;simp[total] at *;omega
theorem Z5 {p:Pr}{t:List Pr}: ∀ {ls:List (List Pr)} {k:Nat},ls[k]? =some (p::t)->total (ls.map (Iq p))<total ls
 | [],k,a=>by simp at a
 |l::ls,0,a=>by
  simp at a;subst a;have b:=Ye p ls;have c:=(Vt p t).length_le;have d:Iq p (p::t)=Iq p t:=by simp[Iq,upto,Bj]
  simp only[total,BY,Lo,d,Ax] at*
  omega
 |l::ls,k+1,a=>by
  have b:=Z5 (p:=p) (t:=t) (ls:=ls) (k:=k) (by simpa using a);have c:=(Vt p l).length_le;simp only[total,BY,Lo] at*
  omega
theorem AF0(a:List (List Pr)): ∃out,MG a out/\out.length<=total a:=by
 generalize h:total a=b
 induction b using Nat.strongRecOn generalizing a with
 |_ b d=>
  rcases VN a with e|⟨i,p,t,c,f⟩
  ·exact⟨[],.done e,by simp⟩
  ·have j:=Z5 c;obtain⟨out,g,k⟩:=d _ (by omega) (a.map (Iq p)) rfl;exact⟨p::out,.step c f g,by simp;omega⟩
theorem ALA {t l:List Pr}{a:Nat}{x:Pr}(b:l[a]? =some x):BF t (l.take (a+1))=Bt x (BF t (l.take a)):=by rw[AE,b];simp only[BF,G3,E0,Hv,N3]
theorem UM: ∀a,(Ae a).length<=total a
 | []=>A0 _
 |l::a=>by
  rw[OM];have:=UM a;have:=oW (l:=l) (t:=Ae a);simp[total] at *;omega
theorem Yu: ∀a,BH (Ae a)
 | []=>λ_ b=>by cases b
 |l::a=>by rw[OM];exact sY (Yu a)
theorem AK2(l:List Pr)(a:List (List Pr)):total (l::a)=l.length+total a:=by simp[total]
def td(f:ao)(d:Nat->Prop)(a:aa)(s:Sl)(e:List (List Pr)):Prop:=
 ∃b,View jE a s b/\(∀ c,s.ag=some c->c<a.size/\ ¬d c)/\b.length=e.length/\ ∀(i:Nat) (v:gS) (l:List Pr),b[i]? =some v->e[i]? =some l->(v.v= .nilFunc/\l= [])\/(EO f P v.v (λc=>c<a.size/\ ¬d c) a l/\l.length<=1099511627776)
end Go.Lf.G.M
namespace Go.Lf
open G
theorem EO.later {f:ao}{d:Nat->Prop}{fv:J0}{b e:aa}{l:List Pr}(h:EO f P fv (λc=>c<b.size/\ ¬d c) b l){g:Nat->Prop}(x:Mod g b e)(i: ∀c,c<b.size->g c->d c):EO f P fv (λc=>c<e.size/\ ¬d c) e l:=
 h.ak (λc a=>⟨by have:=x.size;omega,a.2⟩) (λc a=>a.1) λc a=>x.get c a.1 λj=>a.2 (i c a.1 j)
end Go.Lf
namespace Go.Lf.G.M
open Go Go.Lf Go.Lf.G
theorem sS {o:ao}{j:Nat->Prop}{a:aa}{s:Sl}{ls:List (List Pr)}{x:A30}(q:td o j a s ls)(hX: ∀c,j c->c<a.size)(t:ls.length<=1099511627776)(u:aY ls)
  (y: ∀fv k,EO o P fv (λc=>c<k.size/\ ¬j c) k (Ae ls)->Ext a k->k.size=a.size+1->x fv k):AA o P Py #[J4 s.p s.len s.cap] a x:=by
 obtain⟨p,v,z,w,A⟩:=q;refine AHo ?_;unfold wv;refine aj.mk λf _ B r C=>?_
 have G: ∃os:List (Option (List Pr)),os.length=p.length/\(∀ (i:Nat) (v:gS),p[i]? =some v->(v.v= .nilFunc/\os[i]? =some none)\/ ∃l,os[i]? =some (some l)/\EO o P v.v (λc=>c<a.size/\ ¬j c) a l/\l.length<=1099511627776)/\
   (∀ l,l∈os.filterMap id->l∈ls)/\ ∀b,Ak b (os.filterMap id)=Ak b ls:=by
  clear v hX t u y B r C z
  induction p generalizing ls with
  |nil=>
   have:ls= []:=CM w.symm;subst this;exact⟨[],rfl,λi v a=>by simp at a,λl a=>by simp at a,λb=>rfl⟩
  |cons v p H=>
   cases ls with
   |nil=>simp at w
   |cons l ls=>
    obtain⟨os,f,g,D,E⟩:=H (ls:=ls) (by simpa using w) (λi v l f g=>A (i+1) v l (by simpa using f) (by simpa using g));rcases A 0 v l rfl rfl with⟨h,n⟩|⟨h,n⟩
    ·refine⟨none::os,by simp[f],λi v hi=>?_,λm d=>?_,λb=>?_⟩
     ·cases i with
      |zero=>simp at hi;subst hi;exact .inl ⟨h,rfl⟩
      |succ i=>exact g i v (by simpa using hi)
     ·simp at d;exact AI _ (D m (by simpa using d))
     ·subst n;rw[EJ];simpa [RA] using E b
    ·refine⟨some l::os,by simp[f],λi v hi=>?_,λm d=>?_,λb=>?_⟩
     ·cases i with
      |zero=>simp at hi;subst hi;exact .inr ⟨l,rfl,h,n⟩
      |succ i=>exact g i v (by simpa using hi)
     ·simp at d;rcases d with rfl|d
      ·simp
      ·exact AI _ (D m (by simpa using d))
     ·rw[EJ,Wc];simp only[id];rw[EJ,E b]
 obtain⟨os,I,J,K,L⟩:=G;obtain⟨out,d,_⟩:=AF0 (os.filterMap id);have M:out=Ae ls:=by
  have F:=d.ok λl t=>u.sorted l (K l t)
  exact F.1.ext (Dz ls) λb=>by rw[F.2 b,L b,LK b u]
 subst M;refine y _ f ((ASy (S:=λc=>c<a.size/\ ¬j c) B (v.ext r) (by omega) I (λi v hi=>?_) d (λc e=>by omega)).ak ?_ (λc e=>e.1) (λc _=>rfl)) r C
 ·rcases J i v hi with h|⟨l,h,n,N⟩
  ·exact .inl h
  ·exact .inr ⟨l,h,n.ak (λc e=>e) (λc e=>by omega) (λc e=>r.get c e.1 (λa=>a)),N⟩
 ·rintro c (e|⟨f,g⟩)
  ·exact⟨by omega,e.2⟩
  ·refine⟨f,?_⟩;rcases g with rfl|g
   ·intro a;have:=hX _ a;omega
   ·exact(z c g).2
theorem Qq(a:A31)(b c:List (List Pr)):Ak a (b++c)=(Ak a b).or (Ak a c):=by unfold Ak;rw[List.findSome?_append]
theorem Ld(a:A31)(l m:List Pr):Ac a (l++m)=(Ac a l).or (Ac a m):=by unfold Ac;rw[List.find?_append]
structure DZ where
 ag:Nat
 pr:Pr
 ht:Nat
def cM(nx:Nat->Q2):List J0:=(List.range 12).map λi=>J5 (nx i)
def FL(p:Pr)(nx:Nat->Q2):Array J0:=(([J7 p.key,J7 p.val,J3 p.gone]:List J0)++cM nx).toArray
def Di(nx:Nat->Q2)(a b:Int):Array J0:=(([J7 ⟨#[]⟩,J7 ⟨#[]⟩,J3 false]:List J0)++cM nx++([J6 J9 a,J6 J9 b]:List J0)).toArray
theorem BV(nx:Nat->Q2):(cM nx).length=12:=by simp[cM]
theorem UY {nx:Nat->Q2}{i:Nat}(hi:i<12):(cM nx)[i]? =some (J5 (nx i)):=by simp[cM,hi]
theorem qB {nx:Nat->Q2}{i:Nat}(v:Q2):(cM nx).set i (J5 v)=cM (λa=>if a=i then v else nx a):=by
 refine List.ext_getElem? λa=>?_
 by_cases b:a<12
 ·rw[MY,UY b,UY b,BV];by_cases c:i=a
  ·subst c;simp[b]
  ·simp[c,Ne.symm c]
 ·rw[Rr (by simp[BV];omega),Rr (by simp[BV];omega)]
theorem APT {p:Pr}{nx:Nat->Q2}{i:Nat}(hi:i<12):(FL p nx)[3+i]? =some (J5 (nx i)):=by simp only[FL,Hn];rw[DE (by simp)];simpa using UY hi
theorem APv {nx:Nat->Q2}{a b:Int}{i:Nat}(hi:i<12):(Di nx a b)[3+i]? =some (J5 (nx i)):=by simp only[Di,Hn];rw[A4,DE (by simp),FF (by simp[BV];omega)];simpa using UY hi
theorem ly {nx:Nat->Q2}{a b:Int}:(Di nx a b)[15]? =some (J6 J9 a)/\(Di nx a b)[16]? =some (J6 J9 b):=by
 simp only[Di,Hn];constructor
 ·rw[DE (by simp[BV])];simp[BV]
 ·rw[DE (by simp[BV])];simp[BV]
theorem Rq {p:Pr}{nx:Nat->Q2}:(FL p nx).size=15:=by simp[FL,BV]
theorem cP {nx:Nat->Q2}{a b:Int}:(Di nx a b).size=17:=by simp[Di,BV]
theorem wR {p:Pr}{nx:Nat->Q2}{i:Nat}(v:Q2):(FL p nx).setIfInBounds (3+i) (J5 v)=FL p (λa=>if a=i then v else nx a):=by apply Array.toList_inj.1;rw[DO];simp only[FL,N0];rw[HW _ _ (by simp),<-qB v];simp
theorem AQU {nx:Nat->Q2}{a b:Int}{i:Nat}(hi:i<12)(v:Q2):(Di nx a b).setIfInBounds (3+i) (J5 v)=Di (λc=>if c=i then v else nx c) a b:=by apply Array.toList_inj.1;rw[DO];simp only[Di,N0];rw[A4,HW _ _ (by simp),Ys _ _ (by simp[BV];omega),<-qB v];simp
theorem AN1 {nx:Nat->Q2}{c a b:Int}:(Di nx c a).setIfInBounds 15 (J6 J9 b)=Di nx b a:=by apply Array.toList_inj.1;rw[DO];simp only[Di,N0];rw[HW _ _ (by simp[BV])];simp[BV]
theorem wS {nx:Nat->Q2}{a c b:Int}:(Di nx a c).setIfInBounds 16 (J6 J9 b)=Di nx a b:=by apply Array.toList_inj.1;rw[DO];simp only[Di,N0];rw[HW _ _ (by simp[BV])];simp[BV]
theorem Ct {a:aa}{b i:Nat}{l:Nat->Q2}{T:Q7}{fr:Nat×Nat}(c:a[b]? =some (J2 (cM l).toArray T fr))(hi:i<12):af a ⟨b,i,none⟩=some (J5 (l i)):=by rw[JE c,Hn];exact UY hi
def addrAt(t:Nat)(ns:List DZ)(p:Nat):Q6:=match p with|0=>⟨t,0,none⟩|p+1=>match ns[p]? with|some x=>⟨x.ag,0,none⟩|none=>⟨t,0,none⟩
def Tm(ns:List DZ)(p:Nat):Nat:=match p with|0=>12|p+1=>match ns[p]? with|some x=>x.ht|none=>0
def DJ(i:Nat)(l:List DZ):Q2:=(l.find? λx=>decide (i<x.ht)).map λx=>⟨x.ag,0,none⟩
def dj(t:Nat)(ns:List DZ)(b:Nat):Prop:=b=t\/ ∃x∈ns,x.ag=b
structure Lay (h:aa) (t:Nat) (ns:List DZ) (nx:Nat->Nat->Q2) (n sz:Int):Prop where
 head:h[t]? =some (J2 (Di (nx 0) n sz) xk (0,0))
 node: ∀(j:Nat) (x:DZ),ns[j]? =some x->h[x.ag]? =some (J2 (FL x.pr (nx (j+1))) Rz (0,0))/\x.ag≠t
 apart:ns.Pairwise λx y=>x.ag≠y.ag
structure ky (ns:List DZ) (nx:Nat->Nat->Q2):Prop where
 link: ∀p i,p<=ns.length->i<12->i<Tm ns p->nx p i=DJ i (ns.drop p)
 ht: ∀x∈ns,1<=x.ht/\x.ht<=12
theorem Lay.mod {c d:aa}{t:Nat}{ns:List DZ}{nx:Nat->Nat->Q2}{e f:Int}{g:Nat->Prop}(l:Lay c t ns nx e f)(m:Mod g c d)(h: ∀b,dj t ns b-> ¬g b):Lay d t ns nx e f:=
 ⟨m.ag l.head (h _ (.inl rfl)),λi x a=>⟨m.ag (l.node i x a).1 (h _ (.inr ⟨x,AG a,rfl⟩)),(l.node i x a).2⟩,l.apart⟩
theorem Lay.ext {a b:aa}{t:Nat}{ns:List DZ}{nx:Nat->Nat->Q2}{c d:Int}(l:Lay a t ns nx c d)(m:Ext a b):Lay b t ns nx c d:=l.mod m λ_ _ a=>a
theorem Lay.lt {a:aa}{t:Nat}{ns:List DZ}{nx:Nat->Nat->Q2}{c d:Int}(l:Lay a t ns nx c d){b:Nat}(e:dj t ns b):b<a.size:=by
 rcases e with rfl|⟨x,f,rfl⟩
 ·exact Aj l.head
 ·obtain⟨g,h,i⟩:=CI f;exact Aj (l.node g x (by rw[A2 h,i])).1
theorem Lay.next {a:aa}{t:Nat}{ns:List DZ}{nx:Nat->Nat->Q2}{c d:Int}(l:Lay a t ns nx c d){p i:Nat}(f:p<=ns.length)(hi:i<12):af a (((addrAt t ns p).add 3).add (i*1))=some (J5 (nx p i)):=by
 rw[add_add,AM];cases p with
 |zero=>show af a ((⟨t,0,none⟩:Q6).add (3+i))=_;exact AB l.head (APv hi)
 |succ p=>
  have b:=A2 (l:=ns) (i:=p) (by omega);have e:addrAt t ns (p+1)=⟨ns[p].ag,0,none⟩:=by simp[addrAt,b]
  rw[e];exact AB (l.node p _ b).1 (APT hi)
theorem Lay.pair {a:aa}{t:Nat}{ns:List DZ}{nx:Nat->Nat->Q2}{d e:Int}(l:Lay a t ns nx d e){c:Nat}{x:DZ}(f:ns[c]? =some x):
  af a ⟨x.ag,0,none⟩=some (J7 x.pr.key)/\af a ((⟨x.ag,0,none⟩:Q6).add 1)=some (J7 x.pr.val)/\af a ((⟨x.ag,0,none⟩:Q6).add 2)=some (J3 x.pr.gone):=by
 have b:=(l.node c x f).1;exact⟨AO b rfl,AB b rfl,AB b rfl⟩
theorem AID {i:Nat}{l:List DZ}{a:Q6}(b:DJ i l=some a): ∃e x,l[e]? =some x/\a=⟨x.ag,0,none⟩/\i<x.ht/\ ∀(c:Nat) (d:DZ),c<e->l[c]? =some d->d.ht<=i:=by
 induction l with
 |nil=>simp[DJ] at b
 |cons x l h=>
  unfold DJ at b;rw[DS] at b;by_cases f:i<x.ht
  ·simp[f] at b;exact⟨0,x,rfl,b.symm,f,λc d j=>by omega⟩
  ·simp[f] at b;obtain⟨e,d,k,m,n,o⟩:=h (by simpa [DJ] using b);refine⟨e+1,d,by simpa using k,m,n,λc z j g=>?_⟩;cases c with
   |zero=>simp at g;subst g;omega
   |succ c=>exact o c z (by omega) (by simpa using g)
theorem Yl {i:Nat}{l:List DZ}(a:DJ i l=none): ∀x∈l,x.ht<=i:=by intro x b;simp[DJ] at a;exact a x b
theorem AHU {i:Nat}{l:List DZ}{k:Nat}(c:k<=l.length)(d: ∀(a:Nat) (b:DZ),a<k->l[a]? =some b->b.ht<=i):DJ i l=DJ i (l.drop k):=by
 induction k generalizing l with
 |zero=>simp
 |succ k e=>
  cases l with
  |nil=>simp at c
  |cons x l=>
   have f:=d 0 x (by omega) rfl;rw[KK,<-e (by simpa using c) λa b h g=>d (a+1) b (by omega) (by simpa using g)];unfold DJ;rw[DS];simp[Nat.not_lt.2 f]
abbrev bX(ns:List DZ):List Pr:=ns.map (·.pr)
theorem oV {key:A31}: ∀ {l:List Pr},Sorted l-> ∀ {j:Nat} {x:Pr},l[j]? =some x->(j<aF key l↔aG x.key key=true)
 | [],_,j,x,a=>by simp at a
 |y::l,s,j,x,a=>by
  have d:=List.pairwise_cons.1 s;by_cases b:aG y.key key=true
  ·have c:aF key (y::l)=aF key l+1:=by simp[aF,gN,b]
   rw[c];cases j with
   |zero=>simp at a;subst a;simp[b]
   |succ j=>
    have:=oV (key:=key) d.2 (j:=j) (x:=x) (by simpa using a);rw[<- this];omega
  ·have c:aF key (y::l)=0:=by simp[aF,gN,b]
   rw[c];cases j with
   |zero=>simp at a;subst a;simp[b]
   |succ j=>
    have f:x∈l:=AG (by simpa using a);have g:=d.1 x f;constructor
    ·intro e;omega
    ·intro e;exact absurd (DK g e) b
structure Vy (ns:List DZ) (key:A31) (i p:Nat):Prop where
 le:p<=aF key (bX ns)
 ht:i<Tm ns p
 last: ∀(j:Nat) (y:DZ),p<=j->j<aF key (bX ns)->ns[j]? =some y->y.ht<=i
theorem ZQ(key:A31)(ns:List DZ):aF key (bX ns)<=ns.length:=by have:=mC key (bX ns);simpa using this
theorem IP {a:Array J0}(l:Nat->Q2)(c:a=(cM l).toArray)(i:Nat)(v:Q2):a.setIfInBounds i (J5 v)=(cM (λb=>if b=i then v else l b)).toArray:=by subst c;apply Array.toList_inj.1;rw[DO];exact qB v
theorem AN6 {a:Nat}(b:a<100):J8 J9 (((a+1:Nat):Int)-(1:Int))=(a:Int):=by rw[show(((a+1:Nat):Int)-1)=(a:Int) by omega];exact FD (by omega)
set_option maxHeartbeats 400000 in
theorem qC {an:ao}{g:aa}{t:Nat}{ns:List DZ}{nx:Nat->Nat->Q2}{ap aq:Int}{key:A31}{G:A30}(ar:Lay g t ns nx ap aq)(K:ky ns nx)(s:Sorted (bX ns))
  (au: ∀(q:Nat->Nat) H,(∀ i,i<12->Vy ns key i (q i))->Ext g H->G (.agg #[J5 (some (addrAt t ns (q 0))),J5 (some (addrAt t ns (q 1))),J5 (some (addrAt t ns (q 2))),J5 (some (addrAt t ns (q 3))),J5 (some (addrAt t ns (q 4))),J5 (some (addrAt t ns (q 5))),J5 (some (addrAt t ns (q 6))),J5 (some (addrAt t ns (q 7))),J5 (some (addrAt t ns (q 8))),J5 (some (addrAt t ns (q 9))),J5 (some (addrAt t ns (q 10))),J5 (some (addrAt t ns (q 11)))]) H):
  AA an P F4 #[J5 (some ⟨t,0,none⟩),J7 key] g G:=by
 refine WU ?_;unfold PE;refine aj.mk λj _ av I a2=>aj.mk λn _ aw J a3=>?_
 have ax:Ext g n:=I.trans J;have a4:=ZQ key ns;refine Loop.rule (λm x o=> ∃(p:Nat) (q:Nat->Nat) (l:Nat->Q2),x=(some (addrAt t ns p),(m:Int)-1,())/\m<=12/\Mod (λc=>c=j.size) n o/\p<=aF key (bX ns)/\(m=0\/m<=Tm ns p)/\
   o[j.size]? =some (J2 (cM l).toArray EB (0,0))/\(∀ i,i<12->m<=i->Vy ns key i (q i)/\l i=some (addrAt t ns (q i)))) ?_
  (m:=12) ⟨0,λ_=>0,λ_=>none,rfl,by omega,Mod.refl,by omega,.inr (by simp[Tm]),aw,λi j n=>by omega⟩
 rintro a5 m _ o ⟨p,q,l,rfl,a6,B,w,y,d,b⟩ ay;have L:Ext g o:=ax.then (B.ak λc _ v=> .inr (by have:=I.size;omega));refine ae.intro (λv=>?_) (λv=>?_)
 ·cases m with
  |zero=>simp at v
  |succ i=>
   have hi:i<12:=by omega
   have az:(((i+1:Nat):Int)-1)=(i:Int):=by omega
   rw[az];have M:=ar.ext L;refine Loop.rule (λm x z=> ∃p:Nat,x=(some (addrAt t ns p),())/\z=o/\m=aF key (bX ns)-p/\p<=aF key (bX ns)/\i<Tm ns p) ?_ ⟨p,rfl,rfl,rfl,w,by rcases y with g|g<;>omega⟩;rintro a7 m _ z ⟨p,rfl,aA,rfl,w,y⟩ aC;subst aA;have C:nx p i=DJ i (ns.drop p):=K.link p i (by omega) hi y;have af:=M.next (p:=p) (i:=i) (by omega) hi;refine ah.mk λaD N=>?_
   have A:(0:Int)<=(i:Int)/\(i:Int)<(12:Int):=⟨by omega,by omega⟩;have O:(∀ (h:Nat) (r:DZ),p<=h->h<aF key (bX ns)->ns[h]? =some r->r.ht<=i)->aD (false,()) z:=λaE=>N _ _ (ae.no rfl (by
    refine⟨A,?_⟩;show ab z ((⟨j.size,0,none⟩:Q6).add (i*1)) _ _;rw[CE,AH,AM];refine ab.mk d (by simp[BV];omega) λa8 Q D a9=>?_
    rw[IP l rfl] at Q;have aH:Vy ns key i p:=⟨w,y,aE⟩;refine ay i _ _ (by omega) ⟨p,λe=>if e=i then p else q e,_,?_,by omega,B.trans D,w,.inr (by omega),Q,λe k ba=>?_⟩
    ·cases i with
     |zero=>rfl
     |succ i=>rw[AN6 (by omega),show(((i+1:Nat):Int)-1)=(i:Int) by omega]
    ·by_cases R:e=i
     ·subst R;simp[aH]
     ·simp[R];exact b e k (by omega)))
   refine⟨A,?_⟩;rw[An];refine AY.mk af ?_;cases u:nx p i with
   |none=>
    refine ae.no rfl ?_;refine O λh r aI aJ E=>?_
    rw[C] at u;refine Yl u r ?_;rw[List.mem_drop_iff_getElem];have:=List.getElem?_eq_some_iff.1 E;exact⟨h-p,by omega,by rw[<- this.2];congr 1;omega⟩
   |some a=>
    refine ae.yes rfl ?_;refine⟨A,AY.mk (u▸af) ?_⟩;rw[C] at u;obtain⟨e,x,k,rfl,aK,aL⟩:=AID u;rw[C5] at k;refine AL.mk (M.pair k).1 ?_;have aM:(bX ns)[p+e]? =some x.pr:=by simp[bX,k]
    have S:=oV (key:=key) s aM;cases F:aG x.pr.key key
    ·refine O λh r aI aJ E=>?_
     have bb:h<p+e:=by
      rcases CC h (p+e) with j|j
      ·exact j
      ·have n:p+e<aF key (bX ns):=by omega
       rw[S.1 n] at F;cases F
     exact aL (h-p) r (by omega) (by rw[C5];rw[<- E];congr 1;omega)
    ·have n:=S.2 F;refine N _ _ (ae.yes rfl ?_);refine⟨A,AY.mk (u▸C▸af) ?_⟩;have aN:addrAt t ns (p+e+1)=⟨x.ag,0,none⟩:=by simp[addrAt,k]
     refine aC (aF key (bX ns)-(p+e+1)) _ _ (by omega) ⟨p+e+1,by rw[aN],rfl,rfl,by omega,by simp[Tm,k,aK]⟩
 ·have aO:m=0:=by simp at v;omega
  subst aO;have aP:o[g.size]? =some (J2 (cM (λ_=>none)).toArray EB (0,0)):=B.ag (J.ag av (by simp)) (by omega);simp only[CE,AH];refine AY.mk (Ct d (i:=0) (by omega)) ?_;refine AY.mk (Ct d (i:=1) (by omega)) ?_;refine AY.mk (Ct d (i:=2) (by omega)) ?_;refine AY.mk (Ct d (i:=3) (by omega)) ?_;refine AY.mk (Ct d (i:=4) (by omega)) ?_;refine AY.mk (Ct d (i:=5) (by omega)) ?_;refine AY.mk (Ct d (i:=6) (by omega)) ?_;refine AY.mk (Ct d (i:=7) (by omega)) ?_;refine AY.mk (Ct d (i:=8) (by omega)) ?_;refine AY.mk (Ct d (i:=9) (by omega)) ?_;refine AY.mk (Ct d (i:=10) (by omega)) ?_;refine AY.mk (Ct d (i:=11) (by omega)) ?_;refine ab.mk aP (by simp[BV]) λg0 T aQ bc=>?_
  rw[IP _ rfl] at T;refine ab.mk T (by simp[BV]) λg1 U aR bd=>?_
  rw[IP _ rfl] at U;refine ab.mk U (by simp[BV]) λbe V aS bf=>?_
  rw[IP _ rfl] at V;refine ab.mk V (by simp[BV]) λbg W aT bh=>?_
  rw[IP _ rfl] at W;refine ab.mk W (by simp[BV]) λbi X aU bj=>?_
  rw[IP _ rfl] at X;refine ab.mk X (by simp[BV]) λbk Y aV bm=>?_
  rw[IP _ rfl] at Y;refine ab.mk Y (by simp[BV]) λbn Z D bo=>?_
  rw[IP _ rfl] at Z;refine ab.mk Z (by simp[BV]) λbp ac aW bq=>?_
  rw[IP _ rfl] at ac;refine ab.mk ac (by simp[BV]) λbr ag aX bs=>?_
  rw[IP _ rfl] at ag;refine ab.mk ag (by simp[BV]) λbt ai aY bu=>?_
  rw[IP _ rfl] at ai;refine ab.mk ai (by simp[BV]) λbv ak aZ bw=>?_
  rw[IP _ rfl] at ak;refine ab.mk ak (by simp[BV]) λal am a0 bx=>?_
  rw[IP _ rfl] at am;have f:al[g.size]? =some (J2 (cM l).toArray EB (0,0)):=by rw[am];congr 3
  refine AY.mk (Ct f (i:=0) (by omega)) ?_;refine AY.mk (Ct f (i:=1) (by omega)) ?_;refine AY.mk (Ct f (i:=2) (by omega)) ?_;refine AY.mk (Ct f (i:=3) (by omega)) ?_;refine AY.mk (Ct f (i:=4) (by omega)) ?_;refine AY.mk (Ct f (i:=5) (by omega)) ?_;refine AY.mk (Ct f (i:=6) (by omega)) ?_;refine AY.mk (Ct f (i:=7) (by omega)) ?_;refine AY.mk (Ct f (i:=8) (by omega)) ?_;refine AY.mk (Ct f (i:=9) (by omega)) ?_;refine AY.mk (Ct f (i:=10) (by omega)) ?_;refine AY.mk (Ct f (i:=11) (by omega)) ?_;have a1:=((((((((((aQ.trans aR).trans aS).trans aT).trans aU).trans aV).trans D).trans aW).trans aX).trans aY).trans aZ).trans a0;have:=au q al (λi hi=>(b i hi (by omega)).1) (L.then (a1.ak λc _ v=> .inr (by omega)));rw[(b 0 (by omega) (by omega)).2,(b 1 (by omega) (by omega)).2,(b 2 (by omega) (by omega)).2,(b 3 (by omega) (by omega)).2,(b 4 (by omega) (by omega)).2,(b 5 (by omega) (by omega)).2,(b 6 (by omega) (by omega)).2,(b 7 (by omega) (by omega)).2,(b 8 (by omega) (by omega)).2,(b 9 (by omega) (by omega)).2,(b 10 (by omega) (by omega)).2,(b 11 (by omega) (by omega)).2];exact this
theorem APz {z:Int}(a: -9223372036854775808<=z)(b:z<=9223372036854775807):J8 J9 z=z:=by grind [J8,IntKind.bits,IntKind.signed]
theorem aA {a:Q6}{K:Q6->Prop}(b:K a):At (some a) K:=b
theorem AOi {l:ao}{c:aa}{key:A31}{h:A30}(t:key.size<=64)(n: ∀d:Nat,1<=d->d<=12->h (J6 J9 (d:Int)) c):AA l P TC #[J7 key] c h:=by
 refine AGB ?_;unfold YW;refine Loop.rule (λm x e=> ∃(i:Nat) (a:Int),x=(a,(i:Int),())/\e=c/\m=key.size-i/\i<=key.size) ?_ ⟨0,2166136261,rfl,rfl,rfl,by omega⟩;rintro K m _ e ⟨i,a,rfl,f,rfl,hi⟩ o;subst f;refine ae.intro (λb=>?_) (λb=>?_)
 ·have u:i<key.size:=by simp at b;omega
  refine⟨⟨by grind,by show(i:Int)<_;omega⟩,o (key.size-(i+1)) _ _ (by omega) ⟨i+1,_,by rw[Ab (by omega)],rfl,rfl,by omega⟩⟩
 ·refine Loop.rule (λm x g=> ∃(i:Nat) (a:Int),x=(a,(i:Int),())/\g=e/\m=12-i/\1<=i/\i<=12) ?_ ⟨1,_,rfl,rfl,rfl,by omega,by omega⟩;rintro v m _ g ⟨i,a,rfl,f,rfl,p,q⟩ r;subst f;refine ah.mk λs j=>?_
  have k:s (false,()) g:=j _ _ (ae.no rfl (n i p q));refine ae.intro (λb=>?_) (λb=>k);have w:i<12:=by simp at b;omega
  cases y:((Ec .u32 a (3:Int))==(0:Int))
  ·exact k
  ·exact j _ _ (ae.yes rfl (r (12-(i+1)) _ _ (by omega) ⟨i+1,_,by rw[Ab (by omega)],rfl,rfl,by omega,by omega⟩))
theorem Ol(i:Nat)(a b:List DZ):DJ i (a++b)=(DJ i a).or (DJ i b):=by grind [DJ,decide]
theorem AJA {i:Nat}{l:List DZ}(a: ∀x∈l,x.ht<=i):DJ i l=none:=by simp_all [DJ,Hi]
theorem ALi {i:Nat}{l:List DZ}{x:DZ}(b:x∈l)(d:i<x.ht): ∃a,DJ i l=some a:=by
 cases c:DJ i l with
 |some a=>exact⟨a,rfl⟩
 |none=>have:=Yl c x b;omega
theorem TI {ns:List DZ}(c: ∀x∈ns,1<=x.ht/\x.ht<=12)(p:Nat):DJ 0 (ns.drop p)=(ns[p]?).map λx=>⟨x.ag,0,none⟩:=by
 cases a:ns[p]? with
 |none=>rw[PC (List.getElem?_eq_none_iff.1 a)];rfl
 |some x=>
  have b:=List.getElem?_eq_some_iff.1 a;rw[FA b.1,b.2];have:=(c x (AG a)).1;unfold DJ;rw[DS];simp[Fc Nat.zero_lt_one this]
def fM(nx:Nat->Nat->Q2)(p i:Nat)(v:Q2):Nat->Nat->Q2:=λa b=>if a=p/\b=i then v else nx a b
theorem KQ {p:Pr}{f g:Nat->Q2}(a: ∀i,f i=g i):FL p f=FL p g:=by rw[show f=g from funext a]
theorem YL {a b:Int}{f g:Nat->Q2}(c: ∀i,f i=g i):Di f a b=Di g a b:=by rw[show f=g from funext c]
theorem Lay.store {e:aa}{t:Nat}{ns:List DZ}{nx:Nat->Nat->Q2}{s u:Int}(l:Lay e t ns nx s u){p i:Nat}(B:p<=ns.length)(hi:i<12){v:Q2}{K:aa->Prop}
  (w: ∀c,Lay c t ns (fM nx p i v) s u->Mod (dj t ns) e c->c.size=e.size->K c):ab e (((addrAt t ns p).add 3).add (i*1)) (J5 v) K:=by
 rw[add_add,AM];cases p with
 |zero=>
  show ab e ((⟨t,0,none⟩:Q6).add (3+i)) _ _;rw[CE,AH];refine ab.mk l.head (by rw[cP];omega) λc d m o=>w c ⟨?_,λj x a=>⟨?_,(l.node j x a).2⟩,l.apart⟩ (m.ak λb _ d=> .inl d) o
  ·rw[d,AQU hi,YL (g:=fM nx 0 i v 0) (λh=>by simp[fM])]
  ·rw[m.get _ (Aj (l.node j x a).1) (l.node j x a).2,(l.node j x a).1,KQ (g:=fM nx 0 i v (j+1)) (λh=>by simp[fM])]
 |succ p=>
  have k:=A2 (l:=ns) (i:=p) (by omega);have f:addrAt t ns (p+1)=⟨ns[p].ag,0,none⟩:=by simp[addrAt,k]
  rw[f,CE,AH];obtain⟨z,A⟩:=l.node p _ k;refine ab.mk z (by rw[Rq];omega) λc d m o=>w c ⟨?_,λj x a=>⟨?_,(l.node j x a).2⟩,l.apart⟩ (m.ak λb _ d=> .inr ⟨_,AG k,d.symm⟩) o
  ·rw[m.get _ (Aj l.head) (λf=>A f.symm),l.head,YL (g:=fM nx (p+1) i v 0) (λh=>by simp[fM])]
  ·by_cases q:j=p
   ·subst q;rw[k] at a;cases a;rw[d,wR,KQ (g:=fM nx (j+1) i v (j+1)) (λh=>by simp[fM])]
   ·have hd:x.ag≠ns[p].ag:=by
     have n:=List.getElem?_eq_some_iff.1 a;have y:=List.pairwise_iff_getElem.1 l.apart;rcases N2 q with r|r
     ·have:=y j p n.1 (by omega) r;rw[n.2] at this;exact this
     ·have:=y p j (by omega) n.1 r;rw[n.2] at this;exact λf=>this f.symm
    rw[m.get _ (Aj (l.node j x a).1) hd,(l.node j x a).1,KQ (g:=fM nx (p+1) i v (j+1)) (λh=>by simp[fM,q])]
def F8(l:List Pr):Nat:=(l.map λx=>x.key.size+x.val.size).sum
structure cW (h:aa) (t:Nat) (ns:List DZ) (l:List Pr):Prop where
 lay: ∃nx,Lay h t ns nx (l.length:Int) (F8 l:Int)/\ky ns nx
 bX:bX ns=l
 sorted:Sorted l
 aL:BH l
theorem cW.mod {a c:aa}{t:Nat}{ns:List DZ}{l:List Pr}{d:Nat->Prop}(T:cW a t ns l)(m:Mod d a c)(e: ∀b,dj t ns b-> ¬d b):cW c t ns l:=by obtain⟨nx,f,K⟩:=T.lay;exact⟨⟨nx,f.mod m e,K⟩,T.bX,T.sorted,T.aL⟩
theorem cW.ext {a b:aa}{t:Nat}{ns:List DZ}{l:List Pr}(T:cW a t ns l)(m:Ext a b):cW b t ns l:=T.mod m λ_ _ a=>a
theorem cW.lt {a:aa}{t:Nat}{ns:List DZ}{l:List Pr}(T:cW a t ns l){b:Nat}(c:dj t ns b):b<a.size:=by obtain⟨nx,d,_⟩:=T.lay;exact d.lt c
theorem sX {d:ao}{a:aa}{c:A30}(e: ∀b,cW b a.size [] []->Ext a b->b.size=a.size+1->c (J5 (some ⟨a.size,0,none⟩)) b):AA d P Q3 #[] a c:=by
 refine AMI ?_;unfold wu;refine aj.mk λf _ g h j=>e f ⟨⟨λ_ _=>none,⟨g,λl x a=>by simp at a,List.Pairwise.nil⟩,⟨λp i k hi _=>?_,λx a=>by cases a⟩⟩,rfl,List.Pairwise.nil,λx a=>by cases a⟩ h j
 have:p=0:=by simpa using k
 subst this;rfl
theorem OD(l m:List Pr):F8 (l++m)=F8 l+F8 m:=by simp[F8,List.sum_append]
theorem Sj(x:Pr)(l:List Pr):F8 (x::l)=x.key.size+x.val.size+F8 l:=by simp[F8]
theorem AMA {l:List Pr}(g:BH l):F8 l<=l.length*8256:=by
 induction l with
 |nil=>simp[F8]
 |cons x l a=>
  have d:=a λb c=>g b (by simp[c])
  have e:=g x (by simp);have f:x.key.size<=64/\x.val.size<=8192:=by grind [Ah]
  rw[Sj,Ax,CN];omega
theorem wT {x:Pr}(a:Ah x=0):x.key.size<=64/\x.val.size<=8192:=by grind [Ah]
theorem AOA {p q:Pr}{nx:Nat->Q2}:(((FL p nx).setIfInBounds 0 (J7 q.key)).setIfInBounds 1 (J7 q.val)).setIfInBounds 2 (J3 q.gone)=FL q nx:=by apply Array.toList_inj.1;rw[DO,DO,DO];rfl
theorem gD.zero {ns:List DZ}{key:A31}{p:Nat}(d: ∀x∈ns,1<=x.ht/\x.ht<=12)(b:Vy ns key 0 p):p=aF key (bX ns):=by
 rcases CC p (aF key (bX ns)) with a|a
 ·have e:=ZQ key ns;have c:=A2 (l:=ns) (i:=p) (by omega);have f:=b.last p _ (A0 _) a c;have g:=d _ (AG c);omega
 ·have:=b.le;omega
def fO(nx:Nat->Nat->Q2)(q:Nat->Nat)(b:Q6)(i:Nat):Nat->Nat->Q2:=λp a=>if a<i/\p=q a then some b else nx p a
def jF(nx:Nat->Nat->Q2)(q:Nat->Nat)(i:Nat):Nat->Q2:=λa=>if a<i then nx (q a) a else none
def gE(nx:Nat->Nat->Q2)(q:Nat->Nat)(b:Q6)(c a:Nat):Nat->Nat->Q2:=λp i=>if p<=a then fO nx q b c p i else if p=a+1 then jF nx q c i else fO nx q b c (p-1) i
theorem wU {c:Type}{ns:List c}{x:c}{a b:Nat}(d:a<=ns.length):(ns.take a++x::ns.drop a)[b]? =if b<a then ns[b]? else if b=a then some x else ns[b-1]? :=by grind
theorem APu {b:Type}{ns:List b}{x:b}{a p:Nat}(c:a<=ns.length)(d:p<=a):(ns.take a++x::ns.drop a).drop p=(ns.take a).drop p++x::ns.drop a:=by grind
theorem AOB {b:Type}{ns:List b}{x:b}{a p:Nat}(c:a<=ns.length)(d:a<p):(ns.take a++x::ns.drop a).drop p=ns.drop (p-1):=by rw[List.drop_append,PC (by simp;omega),DG];simp only[AD,Ft c];rw[show p-a=(p-a-1)+1 by omega,KK,I0];congr 1;omega
theorem ky.insert {ns:List DZ}{nx:Nat->Nat->Q2}{key:A31}(K:ky ns nx){q:Nat->Nat}(r: ∀i,i<12->Vy ns key i (q i)){x:DZ}(D:1<=x.ht/\x.ht<=12):
  ky (ns.take (aF key (bX ns))++x::ns.drop (aF key (bX ns))) (gE nx q ⟨x.ag,0,none⟩ x.ht (aF key (bX ns))):=by
 have s:=ZQ key ns;generalize g:aF key (bX ns)=a at*
 refine⟨λp i I hi j=>?_,λf b=>?_⟩
 ·unfold gE;split
  ·rename_i v;have m:i<Tm ns p:=by
    cases p with
    |zero=>exact hi
    |succ p=>
     unfold Tm at j ⊢
     grind
   have w:=K.link p i (by omega) hi m;have y:ns.drop p=(ns.take a).drop p++ns.drop a:=by grind [List.take_append_drop]
   have e:=r i hi;rw[APu s v,Ol];unfold fO;by_cases n:i<x.ht
   ·have E:DJ i (x::ns.drop a)=some ⟨x.ag,0,none⟩:=by grind [DJ]
    rw[E];by_cases t:p=q i
    ·rw[if_pos ⟨n,t⟩,AJA λf b=>?_]
     ·rfl
     ·obtain⟨z,A,J⟩:=CI b;simp at A;have L:(ns.take a).drop p=(ns.take a).drop p:=rfl;refine e.last (p+z) f (by omega) (by rw[g];omega) ?_
      grind
    ·rw[if_neg (λd=>t d.2),w,y,Ol];have F:p<q i:=by
      rcases HT p (q i) with d|d|d
      ·exact d
      ·exact absurd d t
      ·exfalso;cases p with
       |zero=>omega
       |succ p=>
        have o:=A2 (l:=ns) (i:=p) (by omega);have M:=e.last p _ (by omega) (by rw[g];omega) o;simp[Tm,o] at m;omega
     have h:=e.le;rw[g] at h;have u:=e.ht;obtain⟨c,G⟩: ∃c,q i=c+1:=⟨q i-1,by omega⟩;rw[G] at u F h;have o:=A2 (l:=ns) (i:=c) (by omega);simp[Tm,o] at u;have H:ns[c]∈(ns.take a).drop p:=by
      refine AG (i:=c-p) ?_
      grind
     obtain⟨f,b⟩:=ALi H u;rw[b];rfl
   ·rw[if_neg (λd=>n d.1),w,y,Ol];have:DJ i (x::ns.drop a)=DJ i (ns.drop a):=by grind [DJ]
    rw[this]
  ·rename_i v;rw[AOB s (by omega)];split
   ·rename_i B;subst B;have n:i<x.ht:=by
     unfold Tm at j
     simp_all
    have e:=r i hi;have h:=e.le;rw[g] at h;unfold jF;rw[if_pos n,K.link (q i) i (by omega) hi e.ht,AHU (k:=a-q i) (by simp;omega) λz f A b=>?_]
    ·rw[I0];congr 2;omega
    ·rw[C5] at b;exact e.last _ f (by omega) (by rw[g];omega) b
   ·rename_i B;obtain⟨c,rfl⟩: ∃c,p=c+1:=⟨p-1,by omega⟩;rw[Nat.add_sub_cancel];have N:(ns.take a++x::ns.drop a).length=ns.length+1:=by simp;omega
    have m:i<Tm ns c:=by
     unfold Tm at j;simp only at j;rw[wU s,if_neg (by omega),if_neg (by omega)] at j;obtain⟨C,rfl⟩: ∃C,c=C+1:=⟨c-1,by omega⟩
     simp_all [Tm]
    have h:=(r i hi).le;rw[g] at h;unfold fO;rw[if_neg (λd=>by omega)];exact K.link c i (by omega) hi m
 ·rw[MA,GB] at b;rcases b with b|rfl|b
  ·exact K.ht f (DA b)
  ·exact D
  ·exact K.ht f (Lk b)
set_option maxHeartbeats 1000000 in
theorem ASd {bU:ao}{s:aa}{t:Nat}{ns:List DZ}{l:List Pr}{x:Pr}{an:A30}(T:cW s t ns l)(cK:l.length<1099511627776)
  (ap: ∀ba aq,cW aq t ba (Bt x l)->Mod (dj t ns) s aq->(∀ b,dj t ba b->dj t ns b\/s.size<=b)->an (J6 J9 (Ah x)) aq):
  AA bU P KJ #[J5 (some ⟨t,0,none⟩),.agg #[J7 x.key,J7 x.val,J3 x.gone]] s an:=by
 refine AAW ?_;unfold TJ;refine aj.mk λe _ u ar cL=>?_
 have bb:=T.ext ar;have au:Ah x≠0->an (J6 J9 (Ah x)) e:=λw=>ap ns e (by simpa [Bt,w] using bb) ar.mod (λb u=> .inl u)
 refine ah.mk λK av=>?_
 have aw:(decide (x.key=⟨#[]⟩)||(x.gone&& !decide (x.val=⟨#[]⟩)))=true->K (true,()) e:=λj=>av _ _ (ae.yes rfl (by
  have w:Ah x=1:=by unfold Ah;rw[if_pos j]
  have:=au (by rw[w];decide);rw[w] at this;exact this))
 have bc:(decide (x.key=⟨#[]⟩)||(x.gone&& !decide (x.val=⟨#[]⟩)))=false->K (false,()) e:=λj=>av _ _ (ae.no rfl (by
  refine ah.mk λbd ax=>?_
  have ay:(decide (x.key.size>64)||decide (x.val.size>8192))=true->bd (true,()) e:=λaz=>ax _ _ (ae.yes rfl (by
   have w:Ah x=2:=by unfold Ah;rw[if_neg (by simp[j]),if_pos az]
   have:=au (by rw[w];decide);rw[w] at this;exact this))
  have bV:(decide (x.key.size>64)||decide (x.val.size>8192))=false->bd (false,()) e:=λaz=>ax _ _ (ae.no rfl (by
   have w:Ah x=0:=by unfold Ah;rw[if_neg (by simp[j]),if_neg (by simp[az])]
   have bW:=wT w;clear aw ax av ay au;obtain⟨nx,aC,D⟩:=bb.lay;have V:Bt x l=ins x l:=Re w;have be:=QH (x:=x) T.sorted;have bf:=wX (x:=x) T.aL;have L:=T.bX;have bY:Sorted (bX ns):=by rw[L];exact T.sorted
   have cN:ns.length=l.length:=by rw[<- L];simp
   have cO:=AMA T.aL;refine AL.mk (AO u rfl) ?_;refine qC aC D bY λq F r W=>⟨_,_,_,_,_,_,_,_,_,_,_,_,rfl,?_⟩
   have aD:=gD.zero D.ht (r 0 (by omega));have bg:=aC.ext W;refine aj.mk λbZ _ b0 b1 cQ=>?_
   have b2:bZ[F.size]? =some (J2 (cM (λ_=>none)).toArray EB (0,0)):=b0;simp only[CE,AH];refine ab.mk b2 (by simp[BV]) λg0 aE bh b3=>?_
   rw[IP _ rfl] at aE;refine ab.mk aE (by simp[BV]) λg1 aG M b4=>?_
   rw[IP _ rfl] at aG;refine ab.mk aG (by simp[BV]) λcR aH bi b5=>?_
   rw[IP _ rfl] at aH;refine ab.mk aH (by simp[BV]) λcS aI bj b6=>?_
   rw[IP _ rfl] at aI;refine ab.mk aI (by simp[BV]) λcT aJ bk b7=>?_
   rw[IP _ rfl] at aJ;refine ab.mk aJ (by simp[BV]) λcU aK bm b8=>?_
   rw[IP _ rfl] at aK;refine ab.mk aK (by simp[BV]) λcV aL bn b9=>?_
   rw[IP _ rfl] at aL;refine ab.mk aL (by simp[BV]) λcX aM bo ca=>?_
   rw[IP _ rfl] at aM;refine ab.mk aM (by simp[BV]) λcY aN bp cb=>?_
   rw[IP _ rfl] at aN;refine ab.mk aN (by simp[BV]) λcZ aO bq cc=>?_
   rw[IP _ rfl] at aO;refine ab.mk aO (by simp[BV]) λc0 aP br cd=>?_
   rw[IP _ rfl] at aP;refine ab.mk aP (by simp[BV]) λf aQ bs ce=>?_
   rw[IP _ rfl] at aQ;have aR:f[F.size]? =some (J2 (cM (λi=>some (addrAt t ns (q i)))).toArray EB (0,0)):=by rw[aQ];congr 3
   have bt:=((((((((((bh.trans M).trans bi).trans bj).trans bk).trans bm).trans bn).trans bo).trans bp).trans bq).trans br).trans bs;have X:Ext F f:=b1.then (bt.ak λc _ j=> .inr (by omega));have c1:=X.size;have c2:=Aj aR;have c3:=W.size;clear bt aE aG aH aI aJ aK aL aM aN aO aP aQ bh M bi bj bk bm bn bo bp bq br bs b3 b4 b5 b6 b7 b8 b9 ca cb cc cd ce;have y:=bg.ext X;have G:f[s.size]? =some (J2 #[J7 x.key,J7 x.val,J3 x.gone] AU (0,0)):=X.ag (W.ag u (by simp)) (by simp);have cf:=ZQ x.key ns;have aS:Ext s f:=ar.trans (W.trans X);refine⟨by omega,AY.mk (Ct aR (i:=0) (by omega)) ⟨by omega,AY.mk (y.next (p:=q 0) (i:=0) (by rw[aD];omega) (by omega)) ?_⟩⟩;have cg:nx (q 0) 0=(ns[aF x.key (bX ns)]?).map λd=>⟨d.ag,0,none⟩:=by rw[D.link (q 0) 0 (by rw[aD];omega) (by omega) (r 0 (by omega)).ht,aD,TI D.ht]
   rw[cg];have Y:Aw x.key l=match ns[aF x.key (bX ns)]? with|some d=>decide (d.pr.key=x.key)|none=>false:=by
    unfold Aw
    grind
   generalize aT:aF x.key (bX ns)=a at*
   have Z:aF x.key l=a:=by rw[<- L];exact aT
   have ac:ZF x l=ins x l:=mD x l;refine ah.mk λbu bv=>?_
   have ch: ∀d,ns[a]? =some d->d.pr.key=x.key->bu (true,()) f:=λd k E=>bv _ _ (ae.yes rfl (by
    have H:=List.getElem?_eq_some_iff.1 k;have ci:a<ns.length:=H.1;rw[k];have cj:=y.pair k;have c4:d.pr.key.size=x.key.size:=by rw[E]
    refine AC.mk (AB y.head ly.2) (AL.mk (AO G rfl) (AL.mk cj.2.1 ?_));have ck: ∃aU:Nat,F8 l=d.pr.key.size+d.pr.val.size+aU/\F8 (Bt x l)=x.key.size+x.val.size+aU:=by
     have aV:l=l.take a++d.pr::l.drop (a+1):=by
      have aW:l[a]? =some d.pr:=by rw[<- L];simp[k]
      have e:=List.getElem?_eq_some_iff.1 aW;rw[<- e.2,<-FA e.1,F1]
     have Q:Bt x l=l.take a++x::l.drop (a+1):=by rw[V,<-ac];unfold ZF;rw[Y,k,Z,if_pos (by simp[E])];simp
     refine⟨F8 (l.take a)+F8 (l.drop (a+1)),?_,?_⟩
     ·conv=>lhs;rw[aV]
      rw[OD,Sj];omega
     ·rw[Q,OD,Sj];omega
    obtain⟨aU,c5,c6⟩:=ck;have aX:J8 J9 ((F8 l:Int)+J8 J9 ((x.val.size:Int)-(d.pr.val.size:Int)))=(F8 (Bt x l):Int):=by
     have c7:d.pr.val.size<=8192:=(wT (T.aL d.pr (by grind))).2;have aV:J8 J9 ((x.val.size:Int)-(d.pr.val.size:Int))=(x.val.size:Int)-(d.pr.val.size:Int):=by exact APz (by omega) (by omega)
     rw[aV,show(F8 l:Int)+((x.val.size:Int)-(d.pr.val.size:Int))=((F8 (Bt x l):Nat):Int) by omega];exact FD (by omega)
    rw[aX];refine aA ?_;rw[CE,AH];refine ab.mk y.head (by rw[cP];omega) λbw bx af c8=>?_
    rw[wS] at bx;have aY:=y.node a d k;have aZ:bw[s.size]? =some (J2 #[J7 x.key,J7 x.val,J3 x.gone] AU (0,0)):=af.ag G (by have:=aC.lt (.inl rfl:dj t ns t);have:=T.lt (.inl rfl:dj t ns t);omega);refine AL.mk (AO aZ rfl) (AL.mk (AO aZ rfl) (Aa.mk (AO aZ rfl) ?_));have cl:=af.ag aY.1 aY.2;refine aA ?_;refine ab.mk cl (by rw[Rq];omega) λc9 cm cn da=>?_
    rw[CE,CE];refine ab.mk cm (by rw[RC,Rq];omega) λdb co cp dc=>?_
    refine ab.mk co (by rw[RC,RC,Rq];omega) λa0 bz cq dd=>?_
    simp only[AH] at bz;rw[AOA] at bz;have a1:Mod (λc=>c=d.ag) bw a0:=(cn.trans cp).trans cq;have a2:dj t ns t:= .inl rfl;have bA:dj t ns d.ag:= .inr ⟨d,AG k,rfl⟩;rw[<- w];refine ap (ns.set a {d with pr:=x}) a0 ⟨⟨nx,⟨?_,λo z h=>?_,?_⟩,⟨λp i ag hi bB=>?_,λz h=>?_⟩⟩,?_,be,bf⟩ ?_ λb u=>?_
    ·have a3:(Bt x l).length=l.length:=by rw[V,<-ac];unfold ZF;rw[Y,k,Z,if_pos (by simp[E])];simp;omega
     rw[a3];exact a1.ag bx (λn=>aY.2 n.symm)
    ·rw[MY] at h;split at h
     ·grind
     ·rename_i N;have A:=y.node o z h;refine⟨?_,A.2⟩;refine a1.ag (af.ag A.1 A.2) ?_;have e:=List.getElem?_eq_some_iff.1 h;have bC:=List.pairwise_iff_getElem.1 y.apart;rcases N2 N with a4|a4
      ·have:=bC a o H.1 e.1 a4;rw[e.2,H.2] at this;exact λn=>this n.symm
      ·have:=bC o a e.1 H.1 a4;rw[e.2,H.2] at this;exact this
    ·have n:(ns.set a {d with pr:=x}).map (·.ag)=ns.map (·.ag):=by
      rw[Is];apply List.ext_getElem?;intro o;rw[MY];split
      ·rename_i N;subst N;simp[H.1,H.2]
      ·rfl
     have e:(ns.map (·.ag)).Pairwise (· ≠ ·):=List.pairwise_map.2 y.apart;rw[<- n] at e;exact List.pairwise_map.1 e
    ·rw[G0] at ag;have cr:Tm (ns.set a {d with pr:=x}) p=Tm ns p:=by
      cases p with
      |zero=>rfl
      |succ p=>
       unfold Tm;simp only;rw[MY];by_cases N:a=p
       ·subst N;rw[if_pos rfl,if_pos ci,k]
       ·rw[if_neg N]
     rw[cr] at bB;rw[D.link p i ag hi bB];have key: ∀m:List DZ,∀a,m[a]? =some d->DJ i (m.set a {d with pr:=x})=DJ i m:=by
      intro m
      induction m with
      |nil=>intro a s;simp at s
      |cons z m cs=>
       intro a s;cases a with
       |zero=>simp at s;subst s;by_cases hd:i<z.ht<;>simp[DJ,hd]
       |succ a=>
        have:=cs a (by simpa using s);unfold DJ at this ⊢;rw[List.set_cons_succ,DS,DS];split
        ·rfl
        ·exact this
     rcases CC a p with e|e
     ·rw[List.drop_set_of_lt e]
     ·rw[List.drop_set];rw[if_neg (by omega)];exact(key _ _ (by rw[C5];rw[<- k];congr 1;omega)).symm
    ·obtain⟨o,I,n⟩:=CI h;rw[List.getElem_set] at n;split at n
     ·subst n;exact D.ht d (AG k)
     ·subst n;exact D.ht _ (BT _)
    ·rw[V,<-ac];unfold ZF;rw[Y,k,Z,if_pos (by simp[E])];show(ns.set a {d with pr:=x}).map (·.pr)=_;rw[Is,A03];have:(ns.map (·.pr))=l:=L;rw[this];have aW:a<l.length:=by omega
     simp[aW]
    ·have M:Mod (dj t ns) f a0:=(af.ak λc _ j=>by subst j;exact a2).trans (a1.ak λc _ j=>by subst j;exact bA);exact aS.mod.trans M
    ·rcases u with rfl|⟨z,h,rfl⟩
     ·exact .inl (.inl rfl)
     ·obtain⟨o,I,n⟩:=CI h;rw[List.getElem_set] at n;split at n
      ·subst n;exact .inl bA
      ·subst n;exact .inl (.inr ⟨_,BT _,rfl⟩)))
   have bD:Aw x.key l=false->bu (false,()) f:=λa2=>bv _ _ (ae.no rfl (by
    refine AL.mk (AO G rfl) (AL.mk (AO G rfl) (Aa.mk (AO G rfl) ?_));refine aj.mk λbE _ ct ai de=>?_
    have bF:=ai.ag G (by simp);refine AL.mk (AO bF rfl) ?_;refine AOi bW.1 λB cu cv=>⟨_,rfl,?_⟩
    have cw:bE[f.size]? =some (J2 (FL x (λ_=>none)) Rz (0,0)):=ct;have cx:=y.ext ai;have bG: ∀i,i<12->q i<=ns.length:=λi hi=>by have:=(r i hi).le;rw[aT] at this;omega
    have cy:=ai.ag aR (by simp);have a5: ∀c,dj t ns c->c<f.size:=λc j=>y.lt j
    have cz: ∀c,dj t ns c->c<F.size:=λc j=>bg.lt j
    refine Loop.rule (λm d C=> ∃i:Nat,d=((i:Int),())/\m=B-i/\i<=B/\Mod (λc=>dj t ns c\/c=f.size) bE C/\Lay C t ns (fO nx q ⟨f.size,0,none⟩ i) (l.length:Int) (F8 l:Int)/\C[f.size]? =some (J2 (FL x (jF nx q i)) Rz (0,0))) ?_
     ⟨0,rfl,rfl,by omega,Mod.refl,?_,?_⟩
    rotate_left
    ·have:fO nx q ⟨f.size,0,none⟩ 0=nx:=by funext p B;simp[fO]
     rw[this];exact cx
    ·have:jF nx q 0=λ_=>none:=by funext B;simp[jF]
     rw[this];exact cw
    rintro cB m _ C ⟨i,rfl,rfl,hi,R,J,bH⟩ cC;have df:=R.size;have bI:C[F.size]? =some (J2 (cM (λi=>some (addrAt t ns (q i)))).toArray EB (0,0)):=R.ag cy (λa6=>a6.elim (λe=>by have:=cz _ e;omega) (λe=>by omega));refine ae.intro (λj=>?_) (λj=>?_)
    ·have bJ:i<B:=by simpa using j
     have O:i<12:=by omega
     have S:(0:Int)<=(i:Int)/\(i:Int)<(12:Int):=⟨by omega,by omega⟩;refine⟨S,?_⟩;show AY C ⟨F.size,i*1,none⟩ _;rw[AM];refine AY.mk (Ct bI O) ⟨S,?_⟩;show AY C (((addrAt t ns (q i)).add 3).add (i*1)) _;refine AY.mk (J.next (p:=q i) (i:=i) (bG i O) O) ⟨S,?_⟩;have cD:fO nx q ⟨f.size,0,none⟩ i (q i) i=nx (q i) i:=by simp[fO]
     show ab C ⟨f.size,3+i*1,none⟩ (J5 (fO nx q ⟨f.size,0,none⟩ i (q i) i)) _;rw[cD,AM];refine ab.mk bH (by rw[Rq];omega) λbK bL a7 dg=>?_
     rw[wR] at bL;have cE:=J.mod a7 (λc j n=>by have:=a5 c j;omega);refine⟨S,?_⟩;show AY bK ⟨F.size,i*1,none⟩ _;rw[AM];refine AY.mk (Ct (a7.ag bI (by omega)) O) ⟨S,?_⟩;show ab bK (((addrAt t ns (q i)).add 3).add (i*1)) (J5 (some ⟨f.size,0,none⟩)) (λbM=>cB (J8 J9 ((i:Int)+(1:Int)),()) bM);refine cE.store (p:=q i) (i:=i) (bG i O) O (v:=some ⟨f.size,0,none⟩) (λbM bN bO dh=>?_)
     ·refine cC (B-(i+1)) _ _ (by omega) ⟨i+1,by rw[Ab (by omega)],rfl,by omega,(R.trans (a7.ak λc _ j=> .inr j)).trans (bO.ak λc _ j=> .inl j),?_,?_⟩
      ·have:fM (fO nx q ⟨f.size,0,none⟩ i) (q i) i (some ⟨f.size,0,none⟩)=fO nx q ⟨f.size,0,none⟩ (i+1):=by
        funext p o;unfold fM fO;by_cases I:o=i
        ·subst I
         grind
        ·by_cases ag:p=q o<;>simp[ag,I,Nat.lt_succ_iff,Nat.le_iff_lt_or_eq]
       rw[this] at bN;exact bN
      ·rw[bO.ag bL (λj=>by have:=a5 _ j;omega),KQ (g:=jF nx q (i+1)) (λo=>?_)];unfold jF;by_cases I:o=i
       ·subst I;simp
       ·simp[I,Nat.lt_succ_iff,Nat.le_iff_lt_or_eq]
    ·have bJ:i=B:=by simp at j;omega
     subst bJ;refine AC.mk (AB J.head ly.1) ?_;refine aA ?_;rw[CE,AH];refine ab.mk J.head (by rw[cP];omega) λdi a8 bP dk=>?_
     rw[AN1] at a8;have bQ:dj t ns t:= .inl rfl;have dl:=T.lt bQ;have cF:C[s.size]? =some (J2 #[J7 x.key,J7 x.val,J3 x.gone] AU (0,0)):=R.ag bF (λa6=>a6.elim (λe=>by have:=T.lt e;omega) (λe=>by omega));have bR:=bP.ag cF (by omega);refine aA ?_;rw[CE,AH];refine AC.mk (AO a8 ly.2) (AL.mk (AO bR rfl) (AL.mk (AO bR rfl) (aA ?_)));rw[CE,AH];refine ab.mk a8 (by rw[cP];omega) λak a9 cG dm=>?_
     rw[wS] at a9;have Q:Bt x l=l.take a++x::l.drop a:=by rw[V,<-ac];unfold ZF;rw[a2,Z];simp
     have dn:F8 (Bt x l)=F8 l+(x.key.size+x.val.size):=by
      rw[Q,OD,Sj];have:F8 l=F8 (l.take a)+F8 (l.drop a):=by rw[<- OD,F1]
      omega
     have a3:(Bt x l).length=l.length+1:=by rw[Q];simp;omega
     have aX:J8 J9 ((l.length:Int)+(1:Int))=((Bt x l).length:Int):=by rw[a3];exact Ab (by omega)
     have cH:J8 J9 ((F8 l:Int)+J8 J9 ((x.key.size:Int)+(x.val.size:Int)))=(F8 (Bt x l):Int):=by rw[show((x.key.size:Int)+(x.val.size:Int))=((x.key.size+x.val.size:Nat):Int) by omega,FD (by omega),show(F8 l:Int)+((x.key.size+x.val.size:Nat):Int)=((F8 (Bt x l):Nat):Int) by omega];exact FD (by omega)
     rw[aX,cH] at a9;have mt:Mod (λc=>c=t) C ak:=bP.trans cG;have cI:=mt.ag bH (by omega);rw[<- w];refine ap (ns.take a++⟨f.size,x,i⟩::ns.drop a) ak ⟨⟨gE nx q ⟨f.size,0,none⟩ i a,⟨?_,λo z h=>?_,?_⟩,?_⟩,?_,be,bf⟩ ?_ λb u=>?_
     ·rw[a9,YL (g:=gE nx q ⟨f.size,0,none⟩ i a 0) (λB=>?_)];simp[gE]
     ·rw[wU cf] at h;split at h
      ·rename_i cJ;have A:=J.node o z h;refine⟨?_,A.2⟩;rw[mt.ag A.1 A.2,KQ (g:=gE nx q ⟨f.size,0,none⟩ i a (o+1)) (λB=>?_)];unfold gE;rw[if_pos (by omega)]
      ·rename_i cJ;split at h
       ·rename_i bS;subst bS;cases h;refine⟨?_,by grind⟩;show ak[f.size]? =_;rw[cI,KQ (g:=gE nx q ⟨f.size,0,none⟩ i o (o+1)) (λB=>?_)];unfold gE
        grind
       ·rename_i bS;obtain⟨al,rfl⟩: ∃al,o=al+1:=⟨o-1,by omega⟩;rw[Nat.add_sub_cancel] at h;have A:=J.node al z h;refine⟨?_,A.2⟩;rw[mt.ag A.1 A.2,KQ (g:=gE nx q ⟨f.size,0,none⟩ i a (al+1+1)) (λB=>?_)];unfold gE
        grind
     ·have e:=J.apart;have bT: ∀z∈ns,z.ag≠f.size:=λz h n=>by have:=a5 z.ag (.inr ⟨z,h,rfl⟩);omega
      rw[<- F1 a ns] at e;rw[List.pairwise_append] at e ⊢;refine⟨e.1,List.pairwise_cons.2 ⟨λz h=>λn=>bT z (Lk h) n.symm,e.2.1⟩,λd k z h=>?_⟩;rcases List.mem_cons.1 h with rfl|h
      ·exact bT d (DA k)
      ·exact e.2.2 d k z h
     ·have:=D.insert (key:=x.key) r (x:=⟨f.size,x,i⟩) ⟨cu,cv⟩;rw[aT] at this;exact this
     ·show(ns.take a++⟨f.size,x,i⟩::ns.drop a).map (·.pr)=_;have:(ns.map (·.pr))=l:=L;rw[Q,<-this];simp[PA,List.map_drop]
     ·have M:Mod (λc=>dj t ns c\/c=f.size) f ak:=(ai.mod.trans R).trans (mt.ak λc _ j=>by subst j;exact .inl bQ);exact aS.mod.then (M.ak λc _ j=>j.elim .inl λe=> .inr (by have:=aS.size;omega))
     ·rcases u with rfl|⟨z,h,rfl⟩
      ·exact .inl (.inl rfl)
      ·rw[MA,GB] at h;rcases h with h|rfl|h
       ·exact .inl (.inr ⟨z,DA h,rfl⟩)
       ·grind
       ·exact .inl (.inr ⟨z,Lk h,rfl⟩)))
   cases k:ns[a]? with
   |none=>
    refine ae.no rfl (bD ?_);rw[Y,k]
   |some d=>
    refine ae.yes rfl ?_;refine AL.mk (y.pair k).1 (AL.mk (AO G rfl) ?_);rw[Bj];by_cases E:d.pr.key=x.key
    ·rw[decide_eq_true E];exact ch d k E
    ·rw[decide_eq_false E];exact bD (by grind)))
  refine AL.mk (AO u rfl) ?_;refine ae.intro (λr=>?_) (λr=>?_)
  ·exact ay (by simp at r;simp;omega)
  ·refine AL.mk (AB u rfl) ?_;simp at r;cases U:decide ((x.val.size:Int)>(8192:Int))
   ·exact bV (by simp at U;simp;omega)
   ·exact ay (by simp at U;simp;omega)))
 refine ae.no rfl ?_;refine AL.mk (AO u rfl) ?_;rw[Bj];refine ae.intro (λr=>?_) (λr=>?_)
 ·exact aw (by simp at r;simp[r])
 ·refine Aa.mk (AB u rfl) ?_;simp at r;refine ae.intro (λam=>?_) (λam=>?_)
  ·refine AL.mk (AB u rfl) ?_;rw[Bj];cases U:(!decide (x.val=⟨#[]⟩))
   ·exact bc (by simp[r,am,U])
   ·exact aw (by simp[r,am,U])
  ·exact bc (by simp[r,am])
theorem sV {d:ao}{a:aa}{t:Nat}{ns:List DZ}{l:List Pr}{b:A30}(T:cW a t ns l)(e:b (J1 #[J6 J9 (l.length:Int),J6 J9 (F8 l:Int)]) a):AA d P KH #[J5 (some ⟨t,0,none⟩)] a b:=by obtain⟨nx,c,_⟩:=T.lay;refine ABG ?_;unfold TV;refine ae.no rfl ?_;exact AC.mk (AB c.head ly.1) (AC.mk (AB c.head ly.2) e)
def VS:Pr:=⟨⟨#[]⟩,⟨#[]⟩,false⟩
def NW(key:A31)(l:List Pr):Pr×Bool:=match l[aF key l]? with|some q=>if q.key=key then(q,true) else(VS,false)|none=>(VS,false)
theorem three {a:aa}{b:Nat}{T:Q7}{j k l:J0}{f v:A31}{g:Bool}{K:aa->Prop}(m:a[b]? =some (J2 #[j,k,l] T (0,0)))
  (n: ∀d,d[b]? =some (J2 #[J7 f,J7 v,J3 g] T (0,0))->Mod (λc=>c=b) a d->K d):
  ab a ⟨b,0,none⟩ (J7 f) λh=>ab h ((⟨b,0,none⟩:Q6).add 1) (J7 v) λi=>ab i ((⟨b,0,none⟩:Q6).add 2) (J3 g) λe=>K e:=by
 refine ab.mk m (by simp) λh o p u=>?_
 rw[CE,CE];refine ab.mk o (by simp) λi q r w=>?_
 refine ab.mk q (by simp) λe s t x=>?_
 exact n e (by simpa using s) ((p.trans r).trans t)
theorem wV {b c:aa}{t:Nat}{ns:List DZ}{nx:Nat->Nat->Q2}{f g:Int}{key:A31}{q:Nat->Nat}(h:Lay b t ns nx f g)(K:ky ns nx)(d: ∀i,i<12->Vy ns key i (q i))(x:Ext b c):
  af c (((addrAt t ns (q 0)).add 3).add (0*1))=some (J5 ((ns[aF key (bX ns)]?).map λj=>⟨j.ag,0,none⟩)):=by
 have a:=gD.zero K.ht (d 0 (by omega));have e:=ZQ key ns;have k:=(h.ext x).next (p:=q 0) (i:=0) (by rw[a];exact e) (by omega);rw[k,K.link (q 0) 0 (by rw[a];exact e) (by omega) (d 0 (by omega)).ht,a,TI K.ht]
theorem ASJ {B:ao}{d:aa}{t:Nat}{ns:List DZ}{l:List Pr}{key:A31}{m:A30}(T:cW d t ns l)(C: ∀u,Ext d u->m (J1 #[(NW key l).1.agg,J3 (NW key l).2]) u):
  AA B P Nh #[J5 (some ⟨t,0,none⟩),J7 key] d m:=by
 obtain⟨nx,n,v⟩:=T.lay;refine AAm ?_;unfold TW;refine aj.mk λL _ D o M=>ae.no rfl ?_
 have E:Sorted (bX ns):=by rw[T.bX];exact T.sorted
 refine qC (n.ext o) v E λq p F r=>⟨_,_,_,_,_,_,_,_,_,_,_,_,rfl,?_⟩
 refine aA ⟨by omega,AY.mk (wV (n.ext o) v F r) ?_⟩;have w:=r.ag D (by simp);have x:Ext d p:=o.trans r;have G:=n.ext x;have af:NW key l=match ns[aF key (bX ns)]? with|some f=>if f.pr.key=key then(f.pr,true) else(VS,false)|none=>(VS,false):=by unfold NW;rw[<- T.bX];rw[show bX ns=ns.map (·.pr) from rfl,AN];cases ns[aF key (ns.map (·.pr))]? <;>rfl
 have y: ∀(g:Pr) (b:Bool) a,a[d.size]? =some (J2 #[J7 g.key,J7 g.val,J3 g.gone] AU (0,0))->Mod (λc=>c=d.size) p a->NW key l=(g,b)->
   (AL a (⟨d.size,0,none⟩:Q6) λH=>AL a ((⟨d.size,0,none⟩:Q6).add 1) λI=>Aa a ((⟨d.size,0,none⟩:Q6).add 2) λJ=>m (J1 #[.agg #[J7 H,J7 I,J3 J],J3 b]) a):=λg b a e h s=>by
  refine AL.mk (AO e rfl) (AL.mk (AB e rfl) (Aa.mk (AB e rfl) ?_));have:=C a (x.then (h.ak λc _ N=> .inr (by omega)));rw[s] at this;exact this
 refine ah.mk λK z=>?_
 have A:NW key l=(VS,false)->K (false,()) p:=λs=>z _ _ (ae.no rfl (three w λa e h=>y VS false a e h s))
 cases i:ns[aF key (bX ns)]? with
 |none=>
  rw[i] at af;exact ae.no rfl (A af)
 |some f=>
  rw[i] at af;refine ae.yes rfl (aA ?_);have j:=G.pair i;refine AL.mk j.1 ?_;rw[Bj];by_cases k:f.pr.key=key
  ·rw[decide_eq_true k];refine z _ _ (ae.yes rfl ?_);rw[i];refine aA (AL.mk j.1 (AL.mk j.2.1 (Aa.mk j.2.2 ?_)));simp only[k,if_true] at af;exact three w λa e h=>y f.pr true a e h af
  ·rw[decide_eq_false k];simp only[k,if_false] at af;exact A af
theorem sQ {a c b:J0}:(#[]++ #[a]++ #[c,b]:Array J0)= #[a,c,b]:=rfl
theorem ARh {A:ao}{u:aa}{b c t:Nat}{T V:Q7}{fr W:Nat×Nat}{ns:List DZ}{l:List Pr}{key:A31}(f:u[b]? =some (J2 #[J5 (some ⟨t,0,none⟩)] T fr))(L:u[c]? =some (J2 #[J7 key] V W))(j:cW u t ns l):
  EO A P (.func (.func KW) #[] #[J5 (some ⟨b,0,none⟩),J5 (some ⟨c,0,none⟩)]) (λe=>dj t ns e\/e=b\/e=c) u (l.drop (aF key l)):=by
 refine⟨?_,_,_,rfl,λX=>by kernel_rfl,λd v X Y k h hd hB Z ab=>?_⟩
 ·rintro e (hd|rfl|rfl)
  ·exact j.lt hd
  ·exact Aj f
  ·exact Aj L
 rw[sQ];refine Ww ?_;unfold PY;have M:=(v b (.inr (.inl rfl))).trans f;have ac:=(v c (.inr (.inr rfl))).trans L;obtain⟨nx,w,o⟩:=j.lay;have y:Lay d t ns nx (l.length:Int) (F8 l:Int):=
  ⟨(v t (.inl (.inl rfl))).trans w.head,λa x C=>⟨(v x.ag (.inl (.inr ⟨x,AG C,rfl⟩))).trans (w.node a x C).1,(w.node a x C).2⟩,w.apart⟩
 have N: ∀e,dj t ns e-> ¬k e:=λe ag=>hd e (.inl ag)
 refine AY.mk (AO M rfl) (ae.no rfl (AY.mk (AO M rfl) (AL.mk (AO ac rfl) ?_)));have ah:Sorted (bX ns):=by rw[j.bX];exact j.sorted
 refine qC y o ah λq ai r D=>⟨_,_,_,_,_,_,_,_,_,_,_,_,rfl,?_⟩
 refine aA ⟨by omega,AY.mk (wV y o r D) ?_⟩;have aj:aF key (bX ns)=aF key l:=by rw[j.bX]
 have ar:=mC key l;have au:ns.length=l.length:=by rw[<- j.bX];simp
 rw[aj];have ak:=hB.aW _ _ _ _ _ ab (D.ak (S':=λb=>¬k b/\d.size<=b) λ_ _ d=>d.elim);refine Loop.rule (λm x z=> ∃(a:Nat) (s:Nat->Prop),x=((ns[aF key l+a]?).map λn=>(⟨n.ag,0,none⟩:Q6),())/\m=l.length-(aF key l+a)/\aF key l+a<=l.length/\Mod k d z/\(∀ b,s b->k b\/d.size<=b)/\Y a true s z) ?_
  ⟨0,k,rfl,rfl,by omega,D.mod,λb f=> .inl f,ak⟩
 rintro K m _ z ⟨a,s,rfl,rfl,av,B,E,O⟩ al;have F:(l.drop (aF key l)).length=l.length-aF key l:=by simp
 cases h:ns[aF key l+a]? with
 |none=>
  have:=List.getElem?_eq_none_iff.1 h;refine ae.no rfl ?_;exact⟨rfl,a,true,s,B,E,O,λ_=>by rw[F];omega,by rw[F];omega⟩
 |some n=>
  have aw:=(List.getElem?_eq_some_iff.1 h).1;have G:=(y.mod B N).pair h;refine ae.yes rfl (aA (AL.mk G.1 (AL.mk G.2.1 (Aa.mk G.2.2 ?_))));have af:(l.drop (aF key l))[a]? =some n.pr:=by
   rw[C5];have Q:(bX ns)[aF key l+a]? =some n.pr:=by rw[show bX ns=ns.map (·.pr) from rfl,AN,h];rfl
   rw[j.bX] at Q;exact Q
  refine Er.mono (Z a n.pr s z af O) ?_;rintro _ am ⟨g,H,rfl,an,ap,R⟩;have ax:=B.size;have S: ∀b,H b->k b\/d.size<=b:=λb f=>(an b f).elim (E b) λai=> .inr (by omega)
  have I:Mod k d am:=B.then (ap.ak λb _ f=>E b f);refine⟨g,rfl,ae.intro (λr=>?_) (λr=>?_)⟩
  ·have J:g=false:=by simpa using r
   subst J;exact⟨rfl,a+1,false,H,I,S,R,(λd=>by cases d),by rw[F];omega⟩
  ·have J:g=true:=by simpa using r
   subst J;refine aA ⟨by omega,?_⟩;have U:=(y.mod I N).next (p:=aF key l+a+1) (i:=0) (by omega) (by omega);have aq:addrAt t ns (aF key l+a+1)=⟨n.ag,0,none⟩:=by simp[addrAt,h]
   rw[aq,o.link _ 0 (by omega) (by omega) (by have:=(o.ht n (AG h)).1;simp[Tm,h];omega),TI o.ht] at U;refine AY.mk U ?_;exact al (l.length-(aF key l+(a+1))) _ _ (by omega) ⟨a+1,H,rfl,rfl,by omega,I,S,R⟩
theorem sW {A:ao}{a:aa}{t:Nat}{ns:List DZ}{l:List Pr}{key:A31}{f:A30}(T:cW a t ns l)
  (i: ∀fv d,EO A P fv (λb=>dj t ns b\/b=a.size\/b=a.size+1) d (l.drop (aF key l))->Ext a d->d.size=a.size+2->f fv d):AA A P JU #[J5 (some ⟨t,0,none⟩),J7 key] a f:=by
 refine Zj ?_;unfold Qy;refine aj.mk λp _ j k m=>aj.mk λg _ n h q=>?_
 have e:Ext a g:=k.trans h;have o:=ARh (A:=A) (h.ag j (by simp)) n (T.ext e) (key:=key);refine i _ g (o.ak ?_ ?_ (λc _=>rfl)) e (by omega)
 ·rintro b (hd|rfl|rfl)
  ·exact .inl hd
  ·exact .inr (.inl rfl)
  ·exact .inr (.inr m)
 ·rintro b (hd|rfl|rfl)
  ·exact(T.ext e).lt hd
  ·omega
  ·omega
theorem APG(l:List Pr):aF ⟨#[]⟩ l=0:=by
 have: ∀x:A31,aG x ⟨#[]⟩=false:=λx=>by
  have a:(⟨#[]⟩:A31).toList= []:=by simp[ByteArray.toList_eq]
  unfold aG;rw[a];cases x.toList<;>rfl
 cases l with
 |nil=>rfl
 |cons x l=>simp[aF,gN,this]
theorem sR(l:List Pr):l.drop (aF ⟨#[]⟩ l)=l:=by rw[APG];rfl
def qb:Pr:=⟨⟨#[98]⟩,⟨#[49]⟩,false⟩
end Go.Lf.G.M
namespace Go.Lf.G
open Go
open M (aF Ac Sorted BH)
theorem AUb(a b:A31):(!(aG a b||bD a b))=aG b a:=by
 cases e:aG b a with
 |true=>
  have c:aG a b=false:=by grind [aG,DK,CS]
  have d:bD a b=false:=by
   rw[Bj,decide_eq_false_iff_not]
   grind
  rw[c,d];rfl
 |false=>
  grind [aG,Mf,Bj]
theorem AIV {a b c:A31}(d:aG a b=true)(e:aG c b=false):aG a c=true:=by grind [aG,DK,Mf]
theorem lW {l:List Pr}(b:Sorted l){i a:Nat}{p q:Pr}(c:l[i]? =some p)(d:l[a]? =some q)(e:i<a):aG p.key q.key=true:=by obtain⟨f,rfl⟩:=List.getElem?_eq_some_iff.1 c;obtain⟨g,rfl⟩:=List.getElem?_eq_some_iff.1 d;exact List.pairwise_iff_getElem.1 b _ _ f g e
structure ATh (l:List Pr) (key:A31) (B:Nat):Prop where
 lt:B<Bv l
 below: ∀(x:Nat) (p:Pr),x<8*B->l[x]? =some p->aG p.key key=true
 there: ∀(x:Nat) (p:Pr),l[x]? =some p->p.key=key->8*B<=x/\x<8*B+8
theorem AUM {l:List Pr}{key:A31}{b:Nat}(i:Sorted l)(j:l≠ [])(t:b<=Bv l)(k: ∀a,a<b->aG key (Iy l (8*a))=false)(m:b<Bv l->aG key (Iy l (8*b))=true):ATh l key (b-1):=by
 have u:=yg j;have af: ∀a,a<Bv l-> ∃q,l[8*a]? =some q/\Iy l (8*a)=q.key:=by grind [Bv,List.getElem?_eq_getElem,Iy]
 have n: ∀(x:Nat) (p:Pr),x<8*(b-1)->l[x]? =some p->aG p.key key=true:=by intro x p g d;obtain⟨q,e,f⟩:=af (b-1) (by omega);have c:=lW i d e g;have:=k (b-1) (by omega);rw[f] at this;exact AIV c this
 refine⟨by omega,n,λx p d f=>⟨?_,?_⟩⟩
 ·grind [Nat.le_of_not_lt,CS]
 ·apply Nat.lt_of_not_le;intro g;have v:=(List.getElem?_eq_some_iff.1 d).1;have step: ∀a,8*a<=x->a<Bv l->aG key (Iy l (8*a))=true->False:=by
   intro a w o c;obtain⟨q,e,r⟩:=af a o;rw[r] at c;rcases CC (8*a) x with s|s
   ·grind [lW,DK,CS]
   ·have:8*a=x:=by omega
    rw[this,d] at e;cases e;rw[f,CS] at c;cases c
  have h:b<Bv l:=by unfold Bv;omega
  exact step b (by omega) h (m h)
theorem ASg {i a:Nat}(b:i+a<=2*1099511627776):J8 J9 ((J8 .u64 (J8 J9 (((i:Nat):Int)+((a:Nat):Int)))).fdiv ((2:Int)^(1:Nat)))=(((i+a) / 2:Nat):Int):=by rw[show((i:Nat):Int)+((a:Nat):Int)=((i+a:Nat):Int) by omega,FD (by omega),CJ (by omega),PG,FD (by omega)]
theorem AOy {n:ao}{f:aa}{fv:J0}{c:Nat}{p:Nat->Bool}{o:A30}(C:c<=1099511627776)(D: ∀i b,i<=b->b<c->p i=true->p b=true)
  (y: ∀i d,i<c->Ext f d->Er n P fv #[J6 J9 (i:Int)] d λv g=>v=J3 (p i)/\Ext d g)
  (z: ∀h g,h<=c->(∀ b,b<h->p b=false)->(h<c->p h=true)->Ext f g->o (J6 J9 (h:Int)) g):AA n P Qb #[J6 J9 (c:Int),fv] f o:=by
 refine ADb ?_;unfold Xh;refine Loop.rule (λm x d=> ∃i b:Nat,x=((i:Int),(b:Int),())/\m=b-i/\i<=b/\b<=c/\(∀ a,a<i->p a=false)/\(b<c->p b=true)/\Ext f d) ?_ ⟨0,c,rfl,rfl,by omega,A0 _,λa A=>by omega,λf=>by omega,Mod.refl⟩;rintro K m _ d ⟨i,b,rfl,rfl,k,q,r,s,j⟩ t;dsimp only;refine ae.intro (λl=>?_) (λl=>?_)
 ·have k:i<b:=by simp at l;omega
  rw[ASg (by omega)];refine ah.mk λE u=>?_
  have B:(i+b) / 2<c:=by omega
  refine Er.mono (y _ d B j) ?_;rintro v g ⟨rfl,w⟩;refine⟨_,rfl,ae.intro (λe=>?_) (λe=>?_)⟩
  ·have e:p ((i+b) / 2)=false:=by simpa using e
   refine u _ _ ?_;dsimp only;rw[Ab (by omega)];refine t (b-((i+b) / 2+1)) _ _ (by omega) ⟨(i+b) / 2+1,b,rfl,rfl,by omega,q,λa A=>?_,s,j.trans w⟩
   grind
  ·have e:p ((i+b) / 2)=true:=by simpa using e
   refine u _ _ ?_;exact t ((i+b) / 2-i) _ _ (by omega) ⟨i,(i+b) / 2,rfl,rfl,by omega,by omega,r,λ_=>e,j.trans w⟩
 ·have k:i=b:=by simp at l;omega
  subst k;exact z i d q r s j
abbrev AKU:Q8:=Io
theorem AIo {A:ao}{h:aa}{t lo hi:Nat}{l:List Pr}{f:List UInt8}{key:A31}{R:A30}(T:bS h t l f lo hi)(c:gI (aT (aO l f)) l f)
  (C: ∀d o,ATh l key o->Ext h d->R (J6 J9 (o:Int)) d):AA A P Gr #[Ar t,J7 key] h R:=by
 refine VK ?_;unfold Np;refine aj.mk λe _ D E V=>aj.mk λW _ F r X=>?_
 have u:=Av r D;have w:=E.trans r;obtain⟨k,Y,x,y,Z,_,_⟩:=(T.ext w).at_;refine AY.mk (AO u rfl) (aA ?_);refine AV.mk (s:=k) (AO x rfl) ?_;have G:k.len=Bv l:=by rw[y.len,Hz]
 have ab:=c.many;have ac:Bv l<=12501:=by unfold Bv;omega
 rw[G];have z: ∀b,b<Bv l-> ∃q,l[8*b]? =some q/\Iy l (8*b)=q.key:=by
  intro b m;have:8*b<l.length:=by unfold Bv at m;omega
  exact⟨l[8*b],A2 this,by unfold Iy;simp_all⟩
 refine AOy (p:=λb=>aG key (Iy l (8*b))) (by omega) (λi b ae m B=>?_) (λi n hi g=>?_) λj H I e J K=>⟨_,rfl,?_⟩
 ·rcases CC i b with h|h
  ·obtain⟨af,L,M⟩:=z i (by omega);obtain⟨ag,N,O⟩:=z b m;have:=lW c.inc L N (by omega);rw[M] at B;rw[O];exact DK B this
  grind
 ·have Q:=Er.func (A:=A) (P:=P) (f:=AKU) (first:= #[]) (bN:= #[Ar h.size,Ar e.size]) (args:= #[J6 J9 (i:Int)]) (h:=n) (R:=λv d=>v=J3 (aG key (Iy l (8*i)))/\Ext n d) (by kernel_rfl) ?_
  ·exact Q
  ·show AA A P AKU #[J6 J9 (i:Int),Ar h.size,Ar e.size] n _;refine Sq ?_;unfold Lt;refine aA (AY.mk (AO (Av g u) rfl) (aA ?_));refine AV.mk (s:=k) (AO (Av g x) rfl) ?_;refine(y.ext g).idx (R8 hi) λa ah S=>?_
   rw[An];refine AL.mk S.str (aA ?_);refine AL.mk (AO (Av g F) rfl) ?_;rw[AUb];exact⟨rfl,Mod.refl⟩
 ·have U:(if((J8 J9 (((j:Nat):Int)-(1:Int))):Int)>0 then(J8 J9 (((j:Nat):Int)-(1:Int))) else 0)=((j-1:Nat):Int):=by grind [wrap_i64]
  rw[U];exact C H (j-1) (AUM c.inc c.ne I e J) (w.trans K)
def Ws(key:A31)(l:List Pr):Pr×Bool:=match Ac key l with|some q=>(q,true)|none=>(M.VS,false)
theorem ASu {l:List Pr}(d:Sorted l){p:Pr}(f:p∈l):Ac p.key l=some p:=by
 unfold Ac;cases e:l.find? λq=>decide (q.key=p.key) with
 |none=>
  grind
 |some q=>
  have b:=LS e;have b:q.key=p.key:=of_decide_eq_true b;obtain⟨i,hi⟩:=DB (IH e);obtain⟨g,c⟩:=DB f;rcases HT i g with a|a|a
  ·have:=lW d hi c a;rw[b,CS] at this;cases this
  ·subst a;rw[hi] at c;exact c
  ·have:=lW d c hi a;rw[b,CS] at this;cases this
theorem AGQ {l:List Pr}{key:A31}(a: ∀p∈l,p.key≠key):Ac key l=none:=by simp_all [Ac,Hi]
theorem ATB {af:ao}{d:aa}{t lo hi:Nat}{l:List Pr}{f:List UInt8}{key:A31}{F:A30}(T:bS d t l f lo hi)(o:gI (aT (aO l f)) l f)(ag:key.size<=1099511627776)
  (ai: ∀L,Ext d L->F (J1 #[(Ws key l).1.agg,J3 (Ws key l).2]) L):AA af P LM #[Ar t,J7 key] d F:=by
 refine YH ?_;unfold QL;refine aj.mk λN _ O z aR=>?_
 have tail: ∀g x,Ext d g->g[d.size]? =some (J2 #[J7 ⟨#[]⟩,J7 ⟨#[]⟩,J3 false] AU (0,0))-> ∀(q:Pr) (b:Bool),Ws key l=(q,b)->x=Value.tuple #[.agg #[J7 q.key,J7 q.val,J3 q.gone],J3 b]->
   ∀ {r u:A31} {v:Bool},r=q.key->u=q.val->v=q.gone->
   ab g (⟨d.size,0,none⟩:Q6) (J7 r) λQ=>ab Q ((⟨d.size,0,none⟩:Q6).add 1) (J7 u) λR=>ab R ((⟨d.size,0,none⟩:Q6).add 2) (J3 v) λh=>
    AL h (⟨d.size,0,none⟩:Q6) λak=>AL h ((⟨d.size,0,none⟩:Q6).add 1) λal=>Aa h ((⟨d.size,0,none⟩:Q6).add 2) λam=>F (J1 #[.agg #[J7 ak,J7 al,J3 am],J3 b]) h:=by
  intro g x w an q b ap aS r u v aq ar au;subst aq ar au;refine ab.mk an (by simp) λQ av aw aU=>?_
  rw[CE,CE];refine ab.mk av (by simp) λR ax ay aV=>?_
  refine ab.mk ax (by simp) λh G az aW=>?_
  refine AL.mk (AO G rfl) (AL.mk (AO G rfl) (Aa.mk (AO G rfl) ?_));have j:Ext d h:=⟨by have:=w.size;omega,λc aC _=>(az.get c (by have:=w.size;omega) (by omega)).trans ((ay.get c (by have:=w.size;omega) (by omega)).trans ((aw.get c (by have:=w.size;omega) (by omega)).trans (w.get c aC (λd=>d))))⟩;have:=ai h j;rw[ap] at this;exact this
 refine ah.mk λK aD=>?_
 refine ae.no rfl (aA ?_);obtain⟨aX,aE,H,aY,aF,_,_⟩:=(T.ext z).at_;refine AL.mk (AB H rfl) ?_;refine AQI ag ⟨_,rfl,?_⟩;rw[FO];refine aD _ _ ?_;refine ae.intro (λk=>?_) (λk=>?_)
 ·have k:gH f key=false:=by simpa using k
  have I:Ac key l=none:=AGQ λp y A=>by
   have:=o.has p y;rw[A,k] at this;cases this
  exact tail N _ z O M.VS false (by unfold Ws;rw[I]) rfl rfl rfl rfl
 ·refine aA (AV.mk (s:=aE) (AB H rfl) ?_);refine AIo (T.ext z) o λaZ a hB B=>⟨_,rfl,AB (Av B H) rfl,?_⟩
  have aG:((Kw l).map λb=>Ad (Bo b))[a]? =some (Ad (Bo (CK l a))):=by simp[Kw,hB.lt]
  refine(aF.ext B).idx aG λa0 a1 aH=>?_
  rw[An];refine AL.mk aH.str ?_;have aI: ∀p∈CK l a,MI p:=λp y=>o.ok p (QZ y)
  have a2:=Rh o.ok hB.lt;refine sn aI (by omega) λps aJ S U a3=>⟨_,_,rfl,?_⟩
  have a4:ps.len=(CK l a).length:=S.len;have a5:=RY hB.lt;have V:=(z.trans B).trans U;have W:=Av U (Av B O);refine Loop.rule (λm x aK=> ∃e:Nat,x=((e:Int),())/\m=(CK l a).length-e/\e<=(CK l a).length/\(∀ i p,i<e->(CK l a)[i]? =some p->p.key≠key)/\Ext aJ aK) ?_ ⟨0,rfl,rfl,by omega,λi p hi=>by omega,Mod.refl⟩;rintro a6 m _ aL ⟨e,rfl,rfl,a7,X,n⟩ aM;dsimp only;refine ae.intro (λk=>?_) (λk=>?_)
  ·have C:e<(CK l a).length:=by grind
   have j:(CK l a)[e]? =some (CK l a)[e]:=A2 C;have Y:(CK l a)[e]∈l:=QZ (BT C);generalize (CK l a)[e]=p at j Y;refine(S.ext n).view.idx j λa8 a9 aN=>?_
   obtain⟨r,u,v⟩:=aN.pair;rw[An];refine AL.mk r (AL.mk u (Aa.mk v ?_));refine aj.pair λba aP bb D J bc=>?_
   refine AL.mk (AO D rfl) ?_;refine ae.intro (λE=>?_) (λE=>?_)
   ·rw[Bj,decide_eq_true_iff] at E;refine AL.mk (AO D rfl) (AL.mk (AB D rfl) (Aa.mk (AB D rfl) ?_));have Z:=ASu o.inc Y;rw[E] at Z;exact tail aP _ ((V.trans n).trans J) (Av J (Av n W)) p true (by unfold Ws;rw[Z]) rfl rfl rfl rfl
   ·rw[Bj,decide_eq_false_iff_not] at E;rw[Ab (by omega)];refine aM ((CK l a).length-(e+1)) _ _ (by omega) ⟨e+1,rfl,rfl,C,λi q hi aQ=>?_,n.trans J⟩;by_cases bd:i=e
    ·grind
    ·exact X i q (by omega) aQ
  ·have C:e=(CK l a).length:=by grind
   have I:Ac key l=none:=AGQ λp y A=>by
    obtain⟨x,j⟩:=DB y;obtain⟨N,be⟩:=hB.there x p j A;have ac:(CK l a)[x-8*a]? =some p:=by rw[Qx (by omega),show 8*a+(x-8*a)=x by omega];exact j
    have:=(List.getElem?_eq_some_iff.1 ac).1;exact X (x-8*a) p (by omega) ac A
   exact tail aL _ (V.trans n) (Av n W) M.VS false (by unfold Ws;rw[I]) rfl rfl rfl rfl
theorem ASD {key:A31}{l:List Pr}(a:Sorted l){x:Nat}{p:Pr}(b:l[x]? =some p):x<aF key l↔aG p.key key=true:=M.oV a b
theorem AOH {A:ao}{z:aa}{b c t lo hi:Nat}{aX aq:Q7}{l:List Pr}{f:List UInt8}{key:A31}(u:z[b]? =some (J2 #[Ar t] aX (0,0)))(aY:z[c]? =some (J2 #[J7 key] aq (0,0)))
  (T:bS z t l f lo hi) (bs:hi<=z.size) (B:gI (aT (aO l f)) l f):
  EO A P (.func (.func JB) #[] #[Ar b,Ar c]) (λe=>(lo<=e/\e<hi)\/e=b\/e=c) z (l.drop (aF key l)):=by
 refine⟨?_,_,_,rfl,λaZ=>by kernel_rfl,λh X aZ ar k bt hd hB a0 a1=>?_⟩
 ·grind
 rw[M.sQ];refine Tt ?_;unfold NH;have I:=(X b (.inr (.inl rfl))).trans u;have au:=(X c (.inr (.inr rfl))).trans aY;have av:bS h t l f lo hi:=by
  obtain⟨aw,o,w,J,Y,Z,ax⟩:=T.at_;have ay: ∀ {s:Sl} {az:List A31},View Ih z s az->(∀ e,s.ag=some e->lo<=e/\e<hi)->View Ih h s az:=λv bu=>⟨v.len,v.cap,λi x hi=>by
   obtain⟨a,a2,a3⟩:=v.cells i x hi;refine⟨a,a2,λj v aC=>?_⟩;rw[<- a3 j v aC]
   grind [RP,aQ,Sl.ag]⟩
  exact⟨⟨aw,o,(X t (.inl T.jm)).trans w,ay J Z,ay Y ax,Z,ax⟩,T.jm⟩
 have a4: ∀e,lo<=e->e<hi-> ¬k e:=λe w J=>hd e (.inl ⟨w,J⟩)
 obtain⟨aw,o,aD,bv,aE,bw,a5⟩:=av.at_;refine aA (AY.mk (AO I rfl) (ae.no rfl (aA (AY.mk (AO I rfl) (aA (AV.mk (s:=o) (AB aD rfl) (aA (AY.mk (AO I rfl) (aA (AL.mk (AO au rfl) ?_))))))))));refine AIo av B λw d aH L=>⟨_,rfl,AB (Av L aD) rfl,AO (Av L I) rfl,?_⟩
 have aI:o.len=Bv l:=by rw[aE.len];simp[JD]
 have bx:=aH.lt;refine⟨by rw[aI];omega,?_⟩;rw[An,aI];have bz:=M.mC key l;have bA:=B.many;have bB:Bv l<=12501:=by unfold Bv;omega
 have bC:8*d<=aF key l:=by
  apply N6;intro N;have a6:aF key l<l.length:=by grind [Bv]
  obtain⟨q,C⟩: ∃q,l[aF key l]? =some q:=⟨_,A2 a6⟩;have w:=aH.below _ _ N C;have J:=(ASD B.inc C).2 w;omega
 have ab:(l.drop (aF key l)).length=l.length-aF key l:=by simp
 have a7:=hB.aW _ _ _ _ _ a1 (L.ak (S':=λb=>¬k b/\h.size<=b) λ_ _ h=>h.elim);have a8:View Ih h ⟨BJ o.p o.cap d 1,Bv l-d,o.cap-d⟩ (((Kw l).map λb=>Ad (Bo b)).drop d):=by have:=aE.sub (lo:=d) (hi:=Bv l) (by omega) (by simp[JD]);rw[As (by simp[JD])] at this;exact this
 have a9: ∀e,Sl.ag ⟨BJ o.p o.cap d 1,Bv l-d,o.cap-d⟩=some e-> ¬k e:=λe n=>by
  have:=a5 e (qA n);exact a4 e this.1 this.2
 refine Loop.rule (λm x ac=> ∃(i:Nat) (D:Nat->Prop),x=((i:Int),())/\m=Bv l-d-i/\i<=Bv l-d/\Mod k h ac/\(∀ b,D b->k b\/h.size<=b)/\ar (min (8*(d+i)) l.length-aF key l) true D ac) ?_
  ⟨0,k,rfl,rfl,by omega,L.mod,λb u=> .inl u,by
   have:min (8*(d+0)) l.length-aF key l=0:=by omega
   rw[this];exact a7⟩
 rintro K m _ ac ⟨i,D,rfl,rfl,hi,O,aJ,F⟩ ba;dsimp only;refine ae.intro (λG=>?_) (λG=>?_)
 ·have aK:i<Bv l-d:=by simp at G;omega
  have Q:d+i<Bv l:=by omega
  have bD:8*(d+i)<l.length:=by unfold Bv at Q;omega
  have bb:(((Kw l).map λb=>Ad (Bo b)).drop d)[i]? =some (Ad (Bo (CK l (d+i)))):=by rw[C5];simp[Kw,Q]
  refine(a8.mod O a9).idx bb λbE bF bc=>?_
  rw[An];refine AL.mk bc.str ?_;have bd: ∀p∈CK l (d+i),MI p:=λp be=>B.ok p (QZ be)
  have bG:=Rh B.ok Q;have bH:=RY Q;refine sn bd (by omega) λps Y ag aL bI=>⟨_,_,rfl,?_⟩
  have bJ:ps.len=(CK l (d+i)).length:=ag.len;have bf:min (8*(d+i)) l.length=8*(d+i):=by omega
  rw[bf] at F;have bK:=O.size;have bL:=hB.wf _ _ _ _ F;have bg:=hB.aW _ _ _ _ _ F (aL.ak (S':=λb=>¬D b/\h.size<=b) λ_ _ h=>h.elim);have bh:Mod k h Y:=O.trans aL.mod;refine Loop.rule (λm x R=> ∃(j:Nat) (r:Nat->Prop),x=((j:Int),())/\m=(CK l (d+i)).length-j/\j<=(CK l (d+i)).length/\Mod k h R/\(∀ b,r b->k b\/h.size<=b)/\(∀ e,ps.ag=some e-> ¬r e/\e<R.size)/\View Be R ps (CK l (d+i))/\ar (8*(d+i)+j-aF key l) true r R) ?_
   ⟨0,D,rfl,rfl,by omega,bh,aJ,λe n=>⟨λh=>by grind,ag.lt n⟩,ag.view,bg⟩
  rintro bM m _ Z ⟨j,r,rfl,rfl,aC,ai,S,E,ak,aM⟩ aN;dsimp only;refine ae.intro (λG=>?_) (λG=>?_)
  ·have H:j<(CK l (d+i)).length:=by grind
   have C:(CK l (d+i))[j]? =some (CK l (d+i))[j]:=A2 H;have U:l[8*(d+i)+j]? =some (CK l (d+i))[j]:=by rw[<- Qx (by omega)];exact C
   generalize (CK l (d+i))[j]=p at C U;refine ak.idx C λbN bO bi=>?_
   obtain⟨bj,bk,bm⟩:=bi.pair;rw[An];refine AL.mk bj (AL.mk bk (Aa.mk bm ?_));refine aj.pair λbP al bQ V y bR=>?_
   have W:Mod k h al:=ai.trans y.mod;have bT:=ai.size;have aP:=hB.aW _ _ _ _ _ aM (y.ak (S':=λb=>¬r b/\h.size<=b) λ_ _ h=>h.elim);have bn:al[c]? =some (J2 #[J7 key] aq (0,0)):=W.ag au (hd c (.inr (.inr rfl)));refine ah.mk λbU aR=>?_
   refine AL.mk (AO V rfl) (aA (AL.mk (AO bn rfl) ?_));have bV:=(List.getElem?_eq_some_iff.1 U).1;have bo:=ASD (key:=key) B.inc U;refine ae.intro (λN=>?_) (λN=>?_)
   ·have bp:aF key l<=8*(d+i)+j:=by grind
    refine AL.mk (AO V rfl) (AL.mk (AB V rfl) (Aa.mk (AB V rfl) ?_));have af:(l.drop (aF key l))[8*(d+i)+j-aF key l]? =some p:=by rw[C5,show aF key l+(8*(d+i)+j-aF key l)=8*(d+i)+j by omega];exact U
    refine Er.mono (a0 _ p r al af aP) ?_;rintro _ bq ⟨g,am,rfl,aS,an,aU⟩;have bW:=W.size;have aV: ∀b,am b->k b\/h.size<=b:=λb u=>(aS b u).elim (S b) λw=> .inr (by omega)
    have aW:Mod k h bq:=W.then (an.ak λb _ u=>S b u);refine⟨g,rfl,aR _ _ ?_⟩;dsimp only;cases g with
    |false=>exact ae.yes rfl ⟨rfl,_,false,am,aW,aV,aU,(λh=>by cases h),by rw[ab];omega⟩
    |true=>
     refine ae.no rfl ?_;rw[Ab (by omega)];refine aN ((CK l (d+i)).length-(j+1)) _ _ (by omega) ⟨j+1,am,rfl,rfl,H,aW,aV,λe n=>⟨λh=>?_,by have:=E e n;have:=y.size;have:=an.size;omega⟩,?_,?_⟩
     ·rcases aS e h with h|h
      ·exact(E e n).1 h
      ·have:=(E e n).2;have:=y.size;omega
     ·exact(ak.ext y).mod an λe n=>(E e n).1
     ·rw[show 8*(d+i)+(j+1)-aF key l=8*(d+i)+j-aF key l+1 by omega];exact aU
   ·have br:aG p.key key=true:=by simpa using N
    have bp:=bo.2 br;refine aR _ _ (ae.no rfl ?_);rw[Ab (by omega)];refine aN ((CK l (d+i)).length-(j+1)) _ _ (by omega) ⟨j+1,r,rfl,rfl,H,W,S,λe n=>⟨(E e n).1,by have:=(E e n).2;have:=y.size;omega⟩,ak.ext y,?_⟩;rw[show 8*(d+i)+(j+1)-aF key l=8*(d+i)+j-aF key l by omega];exact aP
  ·have H:j=(CK l (d+i)).length:=by grind
   rw[Ab (by omega)];refine ba (Bv l-d-(i+1)) _ _ (by omega) ⟨i+1,r,rfl,rfl,by omega,ai,S,?_⟩;have ap:min (8*(d+(i+1))) l.length=8*(d+i)+j:=by rw[H];unfold CK;rw[AD,HS];omega
   rw[ap];exact aM
 ·have aK:i=Bv l-d:=by simp at G;omega
  have ap:min (8*(d+i)) l.length=l.length:=by rw[aK,show d+(Bv l-d)=Bv l by omega];unfold Bv;omega
  rw[ap] at F;exact⟨rfl,l.length-aF key l,true,D,O,aJ,F,λ_=>ab.symm,by rw[ab];omega⟩
theorem AJf {A:ao}{a:aa}{t lo hi:Nat}{l:List Pr}{f:List UInt8}{key:A31}{g:A30}(T:bS a t l f lo hi)(q:hi<=a.size)(j:gI (aT (aO l f)) l f)
  (k: ∀fv b,EO A P fv (λd=>(lo<=d/\d<hi)\/d=a.size\/d=a.size+1) b (l.drop (aF key l))->Ext a b->b.size=a.size+2->g fv b):AA A P IE #[Ar t,J7 key] a g:=by
 refine Wp ?_;unfold PO;refine aj.mk λr _ m n s=>aj.mk λh _ o i u=>?_
 have e:Ext a h:=n.trans i;have p:=AOH (A:=A) (Av i m) o (T.ext e) (by have:=e.size;omega) j (key:=key);refine k _ h (p.ak ?_ ?_ (λc _=>rfl)) e (by omega)
 ·omega
 omega
def GN(a:aa)(c b:Nat)(d:A31)(e:Nat)(made:Bool):Prop:=a[c]? =some (J2 #[Ar b,J7 d,J6 J9 (e:Int),J3 made] xl (0,0))
theorem GN.mod {c d:aa}{a b:Nat}{e:A31}{f:Nat}{made:Bool}{g:Nat->Prop}(h:GN c a b e f made)(x:Mod g c d)(i: ¬g a):GN d a b e f made:=x.ag h i
theorem GN.ext {a c:aa}{d b:Nat}{e:A31}{f:Nat}{made:Bool}(g:GN a d b e f made)(x:Ext a c):GN c d b e f made:=x.ag g (λa=>a)
theorem AEl {s:ao}{a:aa}{d b e:Nat}{f rec:A31}{made:Bool}{h:Nat->Prop}{m:Bx}{t:A30}(H:bL a)(o:GN a d b f e made)(I:Dl a b h m)(u: ¬h d)(V: ∀i,Mod h a i->bL i)(J:f.size<=1099511627776)(K:e<=4294967295)(L:rec.size<=1048576)(W:bH m.files<=8000000000000)
  (w: ∀i S',Dl i b S' (FI m (br f e) (Ad (IZ (bl rec)))).2->GN i d b f e (made||decide ((FI m (br f e) (Ad (IZ (bl rec)))).1=0))->Mod (λc=>h c\/c=d) a i->(∀ c,S' c->h c\/(a.size<=c/\c≠d))->t (J6 J9 (FI m (br f e) (Ad (IZ (bl rec)))).1) i):
  AA s P JZ #[Ar d,J7 rec] a t:=by
 refine ZJ ?_;unfold RH;refine ae.no rfl ?_;have X:=Aj o;have M:(bl rec).length<=1048576:=by rw[BA];exact L
 have N:=Ki M;rw[BA] at N;have O:rec=Ad (bl rec):=(QJ rec).symm;have go:AA s P IA #[J7 rec] a λv k=> ∃x:A31,∃y:Int,v=J1 #[J7 x,J6 J9 y]/\(x=Ad (IZ (bl rec))/\y=0/\Ext a k):=by
  rw[O];refine rV (by rw[QJ] at *;omega) (λk=>by rw[QJ] at *;omega) λ_ k j=>⟨_,_,rfl,?_,rfl,j⟩
  rw[QJ]
 refine AA.mono go ?_;rintro v k ⟨Y,Z,rfl,rfl,rfl,j⟩;refine⟨_,_,rfl,ae.no rfl ?_⟩;have p:=o.ext j;refine aA (AY.mk (AO p rfl) (aA (AL.mk (AB p rfl) (aA (AC.mk (AB p rfl) ?_)))));refine oE (H.ext j) K J λac Q=>⟨_,rfl,?_⟩
 have l:=j.trans Q;have z:=o.ext l;refine⟨AO z rfl,?_⟩;refine tq (I.ext l) (by rw[AP];omega) λr n A B C=>⟨_,rfl,?_⟩
 have D:GN r d b f e made:=z.mod B u;have af:=l.size;have E: ∀c,n c->h c\/(a.size<=c/\c≠d):=λc g=>(C c g).imp id λa=>⟨by omega,by omega⟩
 have F:Mod (λc=>h c\/c=d) a r:=(Ext.mod l).trans (B.ak λc _ g=> .inl g);refine ae.intro (λq=>?_) (λq=>?_)
 ·have q:(FI m (br f e) (Ad (IZ (bl rec)))).1≠0:=by simpa using q
  exact w r n A (by rw[decide_eq_false q,Bool.or_false];exact D) F E
 ·have q:(FI m (br f e) (Ad (IZ (bl rec)))).1=0:=by simpa using q
  refine aA (ab.dx D (by simp) λR S G ag=>?_);have T: ¬n d:=λg=>by rcases C d g with a|a;exact u a;omega
  have:=w R n (A.mod G λc g U=>T (U▸g)) (by rw[decide_eq_true q,JT];simpa [GN] using S) (F.then (G.ak λc _ g=> .inl (.inr g))) E;rw[q] at this;exact this
def QQ(m:Bx)(a:A31)(made:Bool):Int×Bx:=if made then Kh m a else(0,m)
theorem AJQ {o:ao}{c:aa}{f b d:Nat}{e:A31}{made:Bool}{g:Nat->Prop}{m:Bx}{j:A30}(p:bL c)(a:GN c f b e d made)(k:Dl c b g m)(q: ¬g f)(r:e.size<=1099511627776)(s:d<=4294967295)
  (l: ∀h,Dl h b g (QQ m (br e d) made).2->GN h f b e d made->Mod g c h->j (J6 J9 (QQ m (br e d) made).1) h):
  AA o P LX #[Ar f] c j:=by
 refine ACX ?_;unfold VV;refine ae.no rfl (aA (Aa.mk (AB a rfl) ?_));cases made with
 |false=>exact ae.yes rfl (l c k a Mod.refl)
 |true=>
  refine ae.no rfl (aA (AY.mk (AO a rfl) (aA (AL.mk (AB a rfl) (aA (AC.mk (AB a rfl) ?_))))));refine oE p s r λv i=>⟨_,rfl,⟨AO (a.ext i) rfl,?_⟩⟩
  refine tt (k.ext i) λt u n=>⟨_,rfl,?_⟩
  exact l t u ((a.ext i).mod n q) ((Ext.mod i).trans n)
theorem ADh {v:ao}{g:aa}{f b a:Nat}{d:A31}{made:Bool}{h:Nat->Prop}{m:Bx}{j:A30}(w:bL g)(n:GN g f b d a made)(x:Dl g b h m)(o: ¬h f)(y:d.size<=1099511627776)(G:a<99999999)
  (z:(QQ m (br d a) made).1≠0-> ∀e,Dl e b h (QQ m (br d a) made).2->GN e f b d a made->Mod h g e->j (J1 #[J6 J9 0,J6 J9 (QQ m (br d a) made).1]) e)
  (A:(QQ m (br d a) made).1=0-> ∀e,Dl e b h (QQ m (br d a) made).2->GN e f b d (a+1) false->Mod (λc=>h c\/c=f) g e->j (J1 #[J6 J9 (a:Int),J6 J9 0]) e):
  AA v P G7 #[Ar f] g j:=by
 refine ZR ?_;unfold Rk;refine ae.no rfl (aA (AC.mk (AB n rfl) (ae.no (by simp;omega) ?_)));refine AJQ w n x o y (by omega) λB p k r=>⟨_,rfl,?_⟩
 refine ae.intro (λq=>?_) (λq=>?_)
 ·exact z (by simpa using q) B p k r
 ·have q:(QQ m (br d a) made).1=0:=by simpa using q
  refine aA (AC.mk (AB k rfl) ?_);rw[Ab (by omega)];refine aA (ab.dx k (by simp) λH C D I=>?_);refine aA (ab.dx C (by simp) λs E F J=>?_);have t:GN s f b d (a+1) false:=by simpa [GN] using E
  refine aA (AC.mk (AB t rfl) ?_);have l:J8 J9 (((a+1:Nat):Int)-1)=(a:Int):=by rw[wrap_i64 (by omega) (by omega)];omega
  rw[l];have u:=D.trans F;exact A q s (p.mod u λc i l=>o (l▸i)) t ((r.ak λc _ i=> .inl i).trans (u.ak λc _ i=> .inr i))
end Go.Lf.G
namespace Go.Lf
open Go
def ff(m:Bx)(a:A31):Option (A31×A31):=(Dg a m.files).map λf=>(f.dr,f.soft)
theorem ri {m:Bx}{a:A31}:(Dg a m.files).isSome=(ff m a).isSome:=by unfold ff;cases Dg a m.files<;>rfl
theorem ASp {m:Bx}(hd:m.down=false)(a:A31):lJ m a=match ff m a with|none=>(cN,31)|some p=>(p.1++p.2,0):=by unfold lJ ff;rw[if_neg (by simp[hd])];cases Dg a m.files<;>rfl
theorem rj(m:Bx)(l:List Fi)(a:A31):ff {KE m with files:=l} a=(Dg a l).map λf=>(f.dr,f.soft):=rfl
theorem AL0 {a x:A31}(l:List Fi):Dg x (VD a l)=if x=a then some ((Dg a l).getD ⟨a,cN,cN⟩) else Dg x l:=by
 unfold VD;cases c:Dg a l with
 |some f=>
  simp only[Option.isSome_some,if_true];by_cases b:x=a
  ·subst b;simp[c]
  ·rw[if_neg b]
 |none=>
  rw[if_neg (by simp),yk (λd e=>TA c d e)];by_cases b:x=a
  ·subst b;simp
  ·rw[if_neg b,if_neg (λg=>b g.symm)]
def iv(m:Bx):Prop:=m.down=false/\m.fuel≠0
theorem rk {m:Bx}(g:iv m){k d:A31}(c:Mj k=false):(FI m k d).1=0/\ ∀x,ff (FI m k d).2 x=if x=k then some (((ff m k).getD (cN,cN)).1,((ff m k).getD (cN,cN)).2++d) else ff m x:=by
 unfold FI;rw[if_neg (by simp[g.1]),if_neg (by simp[c]),if_neg g.2];refine⟨rfl,λx=>?_⟩;rw[rj,rr (g:=Sr d) (λ_=>rfl),AL0];unfold ff;by_cases a:x=k
 ·subst a;rw[if_pos rfl,if_pos rfl];cases b:Dg x m.files with
  |none=>simp[Sr]
  |some f=>
   have:=(KT b).1;simp[Sr,this]
 ·rw[if_neg a,if_neg a];cases b:Dg x m.files with
  |none=>rfl
  |some f=>
   have:=(KT b).1;simp only[Hk];rw[if_neg (by rw[this];exact a)]
theorem nP {m:Bx}(g:iv m){b:A31}{p:A31×A31}(c:ff m b=some p):(Kh m b).1=0/\ ∀x,ff (Kh m b).2 x=if x=b then some (p.1++p.2,cN) else ff m x:=by
 have a: ∃f,Dg b m.files=some f/\(f.dr,f.soft)=p:=by
  unfold ff at c;cases a:Dg b m.files with
  |none=>rw[a] at c;cases c
  |some f=>rw[a] at c;exact⟨f,rfl,B9 c⟩
 obtain⟨f,a,rfl⟩:=a;unfold Kh;rw[if_neg (by simp[g.1]),if_neg (by simp[a]),if_neg g.2];refine⟨rfl,λx=>?_⟩;rw[rj,rr (g:=TK) (λ_=>rfl)];by_cases d:x=b
 ·subst d;have:=(KT a).1;rw[if_pos rfl,a];simp[TK,this]
 ·rw[if_neg d];unfold ff;cases e:Dg x m.files with
  |none=>rfl
  |some h=>
   have:=(KT e).1;simp only[Hk];rw[if_neg (by rw[this];exact d)]
theorem yb {m:Bx}(g:iv m){a:A31}(b:(ff m a).isSome=true):(KI m a).1=0/\ ∀x,ff (KI m a).2 x=if x=a then none else ff m x:=by
 have c:(Dg a m.files).isNone=false:=by
  rw[<- ri] at b;cases c:Dg a m.files with
  |none=>rw[c] at b;cases b
  |some f=>rfl
 unfold KI;rw[if_neg (by simp[g.1]),if_neg (by simp[c]),if_neg g.2];refine⟨rfl,λx=>?_⟩;rw[rj,yj];split<;>rfl
def Calm(m:Bx):Prop:=m.down=false/\m.fuel= -1
theorem Calm.goes {m:Bx}(c:Calm m):iv m:=⟨c.1,by rw[c.2];decide⟩
theorem rl {m:Bx}(c:Calm m):KE m=m:=by unfold KE;rw[if_neg (by rw[c.2];decide)]
theorem Uw {m:Bx}(c:Calm m)(a b:A31):Calm (FI m a b).2:=by
 unfold FI;rw[if_neg (by simp[c.1])];split
 ·exact c
 ·rw[if_neg (by rw[c.2];decide),rl c];exact⟨c.1,c.2⟩
theorem WM {m:Bx}(c:Calm m)(a:A31):Calm (Kh m a).2:=by
 unfold Kh;rw[if_neg (by simp[c.1])];split
 ·exact c
 ·rw[if_neg (by rw[c.2];decide),rl c];exact⟨c.1,c.2⟩
theorem yc {m:Bx}(c:Calm m)(a:A31):Calm (KI m a).2:=by
 unfold KI;rw[if_neg (by simp[c.1])];split
 ·exact c
 ·rw[if_neg (by rw[c.2];decide),rl c];exact⟨c.1,c.2⟩
end Go.Lf
namespace Go.Lf.G
open Go
theorem AMU {nm:A31}{a:Nat}(e:nm.size<=8)(b:a<=99999999):Mj (br nm a)=false:=by have c:=ARG (nm:=nm) b;unfold Mj;rw[GC,decide_eq_false_iff_not,decide_eq_false_iff_not];refine⟨λd=>?_,by omega⟩;rw[d] at c;have:cN.size=0:=rfl;omega
theorem ASB {i:A31}{m:Bx}{l:List Nat}(g:AVn i m l):l.length<=99999999:=by
 have j: ∀(l:List Nat) (d:Nat),l.Pairwise (· < ·)->(∀ b∈l,d<b/\b<=99999999)->l.length+d<=99999999\/l= []:=by
  intro l
  induction l with
  |nil=>intro d _ _;exact .inr rfl
  |cons a l k=>
   intro d f h;rw[List.pairwise_cons] at f;have n:=h a (by simp);rcases k a f.2 (λb e=>⟨f.1 b e,(h b (AI _ e)).2⟩) with c|c
   ·left;simp only[Ax];omega
   ·subst c;left;simp;omega
 rcases j l 0 g.inc (λb e=>by have:=(g.mem b).1 e;omega) with c|c
 ·omega
 ·subst c;simp
theorem AJ8 {ai:ao}{f:aa}{C b v:Nat}{g:A31}{made:Bool}{j:Nat->Prop}{m:Bx}{upto:Int}{H:A30}(aj:bL f)(ak: ∀k,Mod j f k->bL k)(D:GN f C b g v made)(I:Dl f b j m)(c:Calm m)(al: ¬j C)(aV:g.size<=8)(am:bH m.files<=8000000000000)
  (an:upto>=(v:Int)->H (J6 J9 1) f)
  (ap:upto<(v:Int)-> ∀k S' h,Dl k b S' h->Calm h->Mod j f k->(∀ c,S' c->j c)->bH h.files<=bH m.files->(∀ d:Nat,1<=d->d<=99999999->(d:Int)<=upto->ff h (br g d)=none)->
   (∀ x,(∀ d:Nat,1<=d->d<=99999999->(d:Int)<=upto->x≠br g d)->ff h x=ff m x)->H (J6 J9 0) k):AA ai P JR #[Ar C,J6 J9 upto] f H:=by
 refine ACb ?_;unfold VL;refine ah.mk λK aq=>ae.no rfl (aA (AC.mk (AB D rfl) (aq _ _ ?_)))
 refine ae.intro (λq=>an (by simpa using q)) (λq=>?_);have ar:upto<(v:Int):=by simpa using q
 refine aA (AY.mk (AO D rfl) (aA (AL.mk (AB D rfl) ?_)));refine ABk aj I c.1 (by omega) am λU V l w v2 W J=>⟨V,_,rfl,ae.no rfl ?_⟩
 have X:(l.map λd:Nat=>(d:Int)).length=l.length:=AF ..;have L: ∀d∈l,1<=d/\d<=99999999/\(ff m (br g d)).isSome=true:=λd e=>by
  have:=(w.mem d).1 e;rw[ri] at this;exact this
 have aW:l.Nodup:=List.nodup_iff_pairwise_ne.2 (w.inc.imp λf=>Nat.ne_of_lt f);have aX:=ASB w;refine Loop.rule (λY x n=> ∃(i:Nat) (y:Nat->Prop) (o:Bx),x=((i:Int),())/\Dl n b y o/\Calm o/\Mod j f n/\Mod j U n/\(∀ c,y c->j c)/\bH o.files<=bH m.files/\(∀ d∈l.take i,(d:Int)<=upto->ff o (br g d)=none)/\(∀ x,(∀ d∈l.take i,(d:Int)<=upto->x≠br g d)->ff o x=ff m x)/\i<=l.length/\Y=l.length-i) ?_
  ⟨0,j,m,rfl,I.ext W,c,Ext.mod W,Mod.refl,λ_ f=>f,A0 _,by simp,λ_ _=>rfl,A6 _,rfl⟩
 rintro aY Y _ n ⟨i,y,o,rfl,M,E,z,N,F,O,G,s,hi,rfl⟩ au;have av:View GI n V (l.map λd:Nat=>(d:Int)):=v2.mod N λc A aw=>by have:=J c A;have:=I.lt aw;omega
 rw[v2.len,X];refine ae.intro (λQ=>?_) (λQ=>?_)
 ·have B:i<l.length:=by simpa using Q
  have af:l[i]? =some l[i]:=A2 B;obtain⟨Z,ab,ax⟩:=L l[i] (BT B);have t:l.take (i+1)=l.take i++ [l[i]]:=by rw[AE,af];rfl
  have ay: ∀d∈l.take i,d<l[i]:=λd e=>by
   have:=w.inc;rw[<- F1 (i+1) l,t] at this;have az:=(List.pairwise_append.1 (List.pairwise_append.1 this).1).2.2 d e l[i] (by simp);exact az
  refine ah.mk λaC aD=>?_
  have fin: ∀S' h k,Dl k b S' h->Calm h->Mod j f k->Mod j U k->(∀ c,S' c->j c)->bH h.files<=bH m.files->(∀ d∈l.take (i+1),(d:Int)<=upto->ff h (br g d)=none)->(∀ x,(∀ d∈l.take (i+1),(d:Int)<=upto->x≠br g d)->ff h x=ff m x)->aC () k:=λS' h k aE aF aG aH aI aJ aK J=>by
   refine aD _ _ ?_;dsimp only;rw[Ab (by omega)];exact au (l.length-(i+1)) _ _ (by omega) ⟨i+1,S',h,rfl,aE,aF,aG,aH,aI,aJ,aK,J,B,rfl⟩
  rw[<- X,<-v2.len];refine av.idx (i:=i) (x:=(l[i]:Int)) (by rw[AN,af];rfl) λa _ c=>?_
  refine AC.mk c.int ?_;refine ae.intro (λq=>?_) (λq=>?_)
  ·have q:(l[i]:Int)<=upto:=by simpa using q
   have R:GN n C b g v made:=D.mod z al;refine aA (AY.mk (AO R rfl) (aA (AL.mk (AB R rfl) ?_)));refine oE (ak n z) (by omega) (by omega) λaZ S=>⟨_,rfl,⟨AO (R.ext S) rfl,?_⟩⟩
   refine tu (M.ext S) λaL aM aN aO aP=>⟨_,rfl,?_⟩
   have aQ:(ff o (br g l[i])).isSome=true:=by rw[s (br g l[i]) λd e _ T=>by have:=ay d e;have:=nN T;omega];exact ax
   obtain⟨aR,ac⟩:=yb E.goes aQ;rw[aR];have ag:=(Ext.mod S).trans (aO.ak λc _ A=>F c A);refine ae.no rfl (fin aM _ aL aN (yc E _) (z.trans ag) (N.trans ag) (λc A=>F c (aP c A)) (AK (yq _) O) ?_ ?_)
   ·intro d e r;rw[ac];split
    ·rfl
    ·rename_i aS;rw[t] at e;rcases List.mem_append.1 e with e|e
     ·exact G d e r
     ·exact absurd (by rw[List.mem_singleton.1 e]) aS
   ·intro x u;rw[ac,if_neg (u l[i] (by rw[t];exact List.mem_append.2 (.inr (List.mem_singleton.2 rfl))) q)];exact s x λd e=>u d (by rw[t];exact List.mem_append.2 (.inl e))
  ·have q: ¬(l[i]:Int)<=upto:=by simpa using q
   refine fin y o n M E z N F O ?_ ?_
   ·intro d e r;rw[t] at e;rcases List.mem_append.1 e with e|e
    ·exact G d e r
    ·rw[List.mem_singleton.1 e] at r;exact absurd r q
   ·intro x u;exact s x λd e=>u d (by rw[t];exact List.mem_append.2 (.inl e))
 ·have B:i=l.length:=by simp at Q;omega
  subst B;rw[CD] at G s;refine ap ar n y o M E z F O ?_ ?_
  ·intro d Z ab r;by_cases e:d∈l
   ·exact G d e r
   ·rw[s (br g d) λa0 aT _ T=>e (by rw[nN T];exact aT)];have: ¬((ff m (br g d)).isSome=true):=λf=>e ((w.mem d).2 ⟨Z,ab,by rw[ri];exact f⟩)
    cases aU:ff m (br g d) with
    |none=>rfl
    |some p=>rw[aU] at this;exact absurd rfl this
  ·intro x u;exact s x λd e r=>u d (L d e).1 (L d e).2.1 r
structure Lw (h:aa) (lg b:Nat) (nm:A31) (hh:aa) (S:Nat->Prop) (m:Bx) (seg:Nat) (made:Bool):Prop where
 box:Dl hh b S m
 log:GN hh lg b nm seg made
 ext:Ext h hh
 fresh: ∀c,S c->h.size<=c/\c≠lg
 lgn:h.size<=lg
theorem Lw.nS {d:aa}{a b:Nat}{e:A31}{f:aa}{c:Nat->Prop}{m:Bx}{g:Nat}{made:Bool}(h:Lw d a b e f c m g made): ¬c a:=λi=>(h.fresh _ i).2 rfl
def bV(rec:A31):A31:=Ad (IZ (bl rec))
abbrev nx:A31:=⟨#[120]⟩
open M (Sorted Ac Bt BF Ae Ak BH Ah aY A7)
abbrev Fls:=A31->Option (A31×A31)
abbrev nl:A31:=⟨#[108]⟩
abbrev nn:A31:=⟨#[110]⟩
abbrev nt:A31:=⟨#[116]⟩
def cz(a:Nat):A31:=nt++Ad (Lib.decDigits a)
theorem oG(a:Nat):bl (cz a)=116::Lib.decDigits a:=by show(nt++Ad (Lib.decDigits a)).data.toList=_;rw[IS,LR];show [116]++(Ad (Lib.decDigits a)).data.toList=_;rw[show(Ad (Lib.decDigits a)).data.toList=Lib.decDigits a from Bw _];rfl
theorem Vx {a b:Nat}(e:cz a=cz b):a=b:=by
 have c:=congrArg bl e;rw[oG,oG] at c;have f:Lib.decDigits a=Lib.decDigits b:=by injection c
 have d:=(WP a).2;rw[f,(WP b).2] at d;exact d.symm
theorem AJy(a:Nat):(bl (br nl a)).head? =some 108:=by rw[SA];rfl
theorem AIz(a:Nat):(bl (br nn a)).head? =some 110:=by rw[SA];rfl
theorem AI5(a:Nat):(bl (cz a)).head? =some 116:=by rw[oG];rfl
theorem AVV(a b:Nat):br nl a≠br nn b:=λc=>by have:=AJy a;rw[c,AIz] at this;cases this
theorem UV(a b:Nat):br nl a≠cz b:=λc=>by have:=AJy a;rw[c,AI5] at this;cases this
theorem sr(a b:Nat):br nn a≠cz b:=λc=>by have:=AIz a;rw[c,AI5] at this;cases this
def eo(x:A31):Prop:=(∃ a,x=br nl a)\/(∃ a,x=br nn a)\/ ∃a,x=cz a
structure Nt where
 next:Nat
 bV:Nat
 names:List Nat
def lX(x:Nt):List UInt8:=Bp x.next++Bp x.bV++Bp x.names.length++x.names.flatMap Bp
structure ATr (b:List Pr):Prop where
 len:b.length<=64
 ok: ∀x∈b,MI x
theorem su: ∀ {l:List Nat},(∀ n∈l,n<=99999999)->(l.flatMap Bp).length<=l.length*10
 | [],_=>by simp
 |n::l,a=>by
  have d:=AX (n:=n) (by have:=a n (by simp);omega);have e:=su (l:=l) λb c=>a b (AI _ c)
  simp only[AW,A1,Ax];omega
theorem ART {x:Nt}(b:x.next<=99999999)(c:x.bV<=99999999)(d:x.names.length<=60000)(a: ∀n∈x.names,n<=99999999):(lX x).length<=30+x.names.length*10:=by have b:=AX (n:=x.next) (by omega);have c:=AX (n:=x.bV) (by omega);have d:=AX (n:=x.names.length) (by omega);have a:=su a;simp only[lX,A1];omega
theorem ANv {s:Nat}{b:List Pr}(d:s<=99999999)(a:ATr b):(NU s b).length<=20+64*8276:=by have e:=AX (n:=s) (by omega);have f:=AX (n:=b.length) (by have:=a.len;omega);have g:=Ot a.ok;have c:=a.len;have h:b.length*8276<=64*8276:=Bm _ c;simp only[NU,A1];omega
abbrev YM:=Unit
end Go.Lf.G
