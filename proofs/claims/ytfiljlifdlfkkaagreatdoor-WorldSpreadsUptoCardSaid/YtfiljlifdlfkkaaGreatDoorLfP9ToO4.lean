/-
 Contract: what comes next in a workflow whose program has no steps (chapter 15).
-/
import Derived.Test.YtfiljlifdlfkkaaGreatDoorLfE14ToP8
import Derived.Test.YtfiljlifdlfkkaaGreatDoorLfZ2ToC1
import Derived.Test.YtfiljlifdlfkkaaGreatDoorLfG1
set_option maxRecDepth 100000
set_option linter.unusedVariables false
set_option linter.unusedSimpArgs false
open Go.IntKind renaming i64→J9,wrap→J8
open Go.Value renaming string→J7,int→J6,pointer→J5,slice→J4,bool→J3,tuple→J1
open Go.Obj renaming cells→J2
open Go renaming Value→J0,Addr→Q6,TypeId→Q7,FuncId→Q8,Program→Q1
open Go.Addr renaming add→Q9,mk→Q5
namespace Go.Lf.G
open Go
open M (Sorted Ac Bt BF Ae Ak BH Ah aY A7 aF Aw)
section
variable {A : ao} {h : aa} {R : A30}
theorem AU1 {K:Sl->aa->Prop}(c: ∀a b,Ext h a->K ⟨some ⟨b,0,none⟩,0,0⟩ a):Af A P (Instr.makeSlice Ap (J6 J9 ((0:Nat):Int)) (J6 J9 ((0:Nat):Int))) h λv a=> ∃s:Sl,v=J4 s.p s.len s.cap/\K s a:=
 Za (E:=GI) (x0:=0) (v:=J6 J9 0) (z:=J6 J9 0) (T:=BL) (B:=8) (n:=0) (by kernel_rfl) (by kernel_rfl) rfl rfl rfl (by decide) (by decide) λa _ x _=>c a _ x
def iV(h:aa)(e:Nat):Prop:= ∃(a:Sl) (lim:Int) (d c:Sl) (f g:Nat),a.len=0/\c.len=0/\h[e]? =some (J2 #[J4 a.p a.len a.cap,J6 J9 lim,J4 d.p d.len d.cap,J4 c.p c.len c.cap,.map (some f),J4 none 0 0,.map (some g),J3 false] BD (0,0))
theorem iV.on {a:aa}{c:Nat}(d:iV h c)(x:Ext h a):iV a c:=by obtain⟨e,lim,f,g,i,j,k,l,m⟩:=d;exact⟨e,lim,f,g,i,j,k,l,x.ag m λh=>h⟩
structure eB (h hh:aa) (b:Nat) (pp:Q2) (cc:Nat) (lim:Int):Prop where
 ext:Ext h hh
 pr:hh[b]? =some (J2 #[J4 pp 0 cc,J6 J9 lim] EA (0,0))
section
variable {hh : aa} {b cc : Nat} {pp : Q2} {lim : Int}
theorem eB.g0(a:eB h hh b pp cc lim):af hh ⟨b,0,none⟩=some (J4 pp 0 cc):=AO a.pr rfl
theorem eB.g1(a:eB h hh b pp cc lim):af hh ((⟨b,0,none⟩:Q6).add 1)=some (J6 J9 lim):=AB a.pr rfl
theorem eB.mk0 {K:Sl->aa->Prop}(d:eB h hh b pp cc lim)(e: ∀a c,eB h a b pp cc lim->K ⟨some ⟨c,0,none⟩,0,0⟩ a):Af A P (Instr.makeSlice Ap (J6 J9 ((0:Nat):Int)) (J6 J9 ((0:Nat):Int))) hh λv a=> ∃s:Sl,v=J4 s.p s.len s.cap/\K s a:=
 AU1 λa c x=>e a c ⟨d.ext.trans x,x.ag d.pr λh=>h⟩
theorem eB.map {K:Nat->aa->Prop}(d:eB h hh b pp cc lim)(e: ∀c a,eB h a b pp cc lim->K c a):aj hh (.map #[] 0) K:=aj.mk λa _ _ x _=>e _ a ⟨d.ext.trans x,x.ag d.pr λh=>h⟩
theorem eB.fin {K:Q2×Unit->aa->Prop}{e d:Sl}{f g:Nat}(j:eB h hh b pp cc lim)(k:d.len=0)(l: ∀i a,Ext h a->iV a i->K (some ⟨i,0,none⟩,()) a):
  aj hh (J2 #[J4 pp 0 cc,J6 J9 lim,J4 e.p e.len e.cap,J4 d.p d.len d.cap,.map (some f),J4 none 0 0,.map (some g),J3 false] BD) λc a=>K (some (ad c),()) a:=
 aj.mk λa _ m x _=>l _ a (j.ext.trans x) ⟨⟨pp,0,cc⟩,lim,e,d,f,g,rfl,k,m⟩
end
theorem AP5 {pp:Q2}{cc:Nat}{lim:Int}{l:Sl}{a:List Ev}(V:View de h l a)(S:a.length<=1000)(q: ∀g∈a,g.kind<=5)(x: ∀f e,Ext h f->iV f e->R (Ar e) f):AA A P UG #[.agg #[J4 pp 0 cc,J6 J9 lim],J4 l.p l.len l.cap] h R:=by
 refine AIU (ck:=⟨pp,0,cc⟩) ?_;unfold w8;refine aj.mk λy _ z B T=>ah.mk λK C=>?_
 have i:eB h y h.size pp cc lim:=⟨B,z⟩;have fin: ∀e f,Ext h f->iV f e->K (some ⟨e,0,none⟩,()) f:=λe U D j=>by
  refine C _ _ ?_;refine Loop.rule (λm s hh=> ∃d:Nat,s=((d:Int),())/\m=a.length-d/\d<=a.length/\Ext h hh/\iV hh e) ?_ ⟨0,rfl,rfl,A6 _,D,j⟩;rintro W m _ hh ⟨d,rfl,rfl,X,k,j⟩ E;dsimp only;have Y:=V.len;refine ae.intro (λr=>?_) (λr=>x hh e k j);have t:d<a.length:=by have:=of_decide_eq_true r;omega
  have o:a[d]? =some a[d]:=A2 t;have u:=AG o;generalize a[d]=g at o u;have q:=q g u;refine ah.mk λZ F=>(V.ext k).idx o λaa _ G=>NV.mk g G (aj.mk λab _ H I ac=>aD.mk H (A0 8) λJ v L af=>?_)
  rw[mP] at v;have w:Ext hh J:=I.more L λc M=>by subst M;exact A0 _
  have n: ∀p:Int,5<p->(g.kind==p)=false:=λp h=>by simp;omega
  refine AC.mk (n:=g.kind) (AB v rfl) (ah.mk λag N=>ah.mk λai ak=>ae.no (n 6 (by decide)) (ae.no (n 10 (by decide)) (ah.mk λal O=>ae.no (n 7 (by decide)) ?_)));rw[n 11 (by decide)];refine O _ _ (ae.no rfl (ae.no (n 9 (by decide)) (ae.no (n 12 (by decide)) (ah.mk λam Q=>ae.no (n 13 (by decide)) ?_))));rw[n 14 (by decide)];refine Q _ _ (ae.no rfl (N _ _ (F _ _ ?_)));rw[Ab (by omega)];exact E (a.length-(d+1)) _ _ (by omega) ⟨d+1,rfl,rfl,t,k.trans w,j.on w⟩
 refine AV.mk (s:=⟨pp,0,cc⟩) i.g0 (AC.mk (n:=lim) i.g1 (AV.mk (s:=⟨pp,0,cc⟩) i.g0 (AV.mk (s:=⟨pp,0,cc⟩) i.g0 ?_)))
 repeat' (first
  |exact eB.g0 (by assumption)
  |exact eB.g1 (by assumption)
  |exact eB.fin (by assumption) rfl fin
  |refine eB.map (by assumption) λ_ _ _=>?_
  |refine eB.mk0 (by assumption) λ_ _ _=>?_
  |refine And.intro ?_ ?_)
theorem AL6 {d:Nat}(f:iV h d)(g: ∀a b,Ext h a->h.size<=b->a[b]? =some (J2 #[J6 J9 3,J6 J9 0,J3 false] Df (0,0))->R (J1 #[J4 (some ⟨b,0,none⟩) 1 1,J3 true,J3 false]) a):AA A P Il #[Ar d] h R:=by obtain⟨i,lim,r,j,t,u,k,l,e⟩:=f;refine SE ?_;unfold Lr;refine aA (AV.mk (s:=j) (AB e rfl) ?_);refine Loop.rule (λm s hh=>s=((0:Int),())/\hh=h) ?_ (m:=0) ⟨rfl,rfl⟩;rintro K _ _ _ ⟨rfl,rfl⟩ v;refine ae.no (by rw[l];rfl) (aj.mk λn _ _ c _=>aA (AV.mk (s:=i) (AO (c.ag e λh=>h) rfl) ?_));refine Loop.rule (λm s hh=>s=((0:Int),())/\hh=n) ?_ (m:=0) ⟨rfl,rfl⟩;rintro w _ _ _ ⟨rfl,rfl⟩ x;exact ae.no (by rw[k];rfl) (aj.mk λo _ p q _=>g o _ (c.trans q) c.size p)
theorem xJ {l:Sl}{d:List Ev}(e:Ng d)(V:View de h l d)(q:(BM d).status=0)(r:(BM d).prog.steps= [])(t: ∀f∈d,f.kind<=5)
  (u: ∀i b,Ext h i->h.size<=b->i[b]? =some (J2 #[J6 J9 3,J6 J9 0,J3 false] Df (0,0))->R (J1 #[J4 (some ⟨b,0,none⟩) 1 1,J6 J9 0]) i):AA A P QR #[J4 l.p l.len l.cap] h R:=by
 have v:=e.len;have w:=e.next.2;refine AIB ?_;unfold vV;refine YA V v (λf m=>by
   obtain⟨x,y⟩:=DB m;have:=RI (w x f y).2;exact⟨by omega,e.kd f m⟩) e.ok λz a b c j B S=>Gn.mk _ ⟨_,_,rfl,?_⟩
 refine aj.mk λT _ C D U=>aD.mk C (A0 12) λE g F W=>?_
 rw[Pf] at g;have k:Ext z E:=D.more F λc G=>by subst G;exact A0 _
 have H:a.len=0:=by have:=B.steps.len;rw[r] at this;exact this
 have I:(((l.len:Nat):Int)==(0:Int))=false:=by have:=V.len;have:d≠ []:=e.ne;have:0<d.length:=List.length_pos_iff.2 this;simp;omega
 refine ah.mk λK J=>ae.no rfl ?_
 rw[I];refine J _ _ (ae.no rfl (AC.mk (n:=(BM d).status) (AB g rfl) (ae.no (by rw[q];rfl) (AV.mk (s:=a) (AO g rfl) (AC.mk (n:=(BM d).prog.aw) (AB g rfl) ?_)))));rw[H];refine AP5 ((V.ext j).ext k) (by omega) t λX Y o L=>⟨_,rfl,AL6 L λM p N O Q=>⟨⟨some ⟨p,0,none⟩,1,1⟩,_,_,rfl,ae.no rfl (u M p (((j.trans k).trans o).trans N) (AK ((j.trans k).trans o).size O) Q)⟩⟩
end
def kA(p:bK):bj:=⟨p,0,5,0,0,0,false,[],[],false,false⟩
def qN(p:bK):bj:=⟨p,1,6,0,0,0,false,[],[],false,false⟩
abbrev lD(a:Int):Ev:=⟨0,4,0,a,0,0,false,⟨#[]⟩⟩
abbrev lE:Ev:=⟨0,15,0,0,0,0,false,⟨#[]⟩⟩
abbrev nG:Ev:=⟨4,4,0,3,0,0,false,⟨#[]⟩⟩
abbrev nH:Ev:=⟨5,15,0,0,0,0,false,⟨#[]⟩⟩
theorem xB:Ea nG=true:=by decide
theorem xC:Ea nH=true:=by decide
theorem AIG {a:ba}{p:bK}(e:a.err=0)(b:a.st=dG p 0)(f:a.now=0):DX a (lD 3)= {a with st:=kA p,more:=a.more++ [nG]}:=by
 have c:CG a (lD 3)=nG:=by unfold CG;rw[b,f];rfl
 have d:Bf a.st (CG a (lD 3))=(0,kA p):=by rw[c,b];unfold Bf;rw[if_neg (by simp[xB]),if_neg (by simp[dG]),if_neg (by simp[dG]),if_neg (by simp[dG])];rfl
 rw[Z0 e (.inr (.inl (by rw[b];exact(by decide:(4:Int)<=497)))) (by rw[d]),d,c]
theorem ATf {a:ba}{p:bK}(e:a.err=0)(b:a.st=kA p)(f:a.now=0):DX a lE= {a with st:=qN p,more:=a.more++ [nH]}:=by
 have c:CG a lE=nH:=by unfold CG;rw[b,f];rfl
 have d:Bf a.st (CG a lE)=(0,qN p):=by rw[c,b];unfold Bf;rw[if_neg (by simp[xC]),if_neg (by simp[kA]),if_neg (by simp[kA]),if_neg (by simp[kA])];rfl
 rw[Z0 e (.inr (.inl (by rw[b];exact(by decide:(5:Int)<=497)))) (by rw[d]),d,c]
theorem AVK:P.underlying Df=some (.struct (P.fieldsOf Df)):=by kernel_rfl
theorem ATc(a b:Int)(c:Bool):kF P Df [.i a,.i b,.b c]=true:=by kernel_rfl
section
variable {A : ao} {h : aa} {R : A30}
theorem AQg {d:Nat}{b:Sl}{a:Q6}(e:h[d]? =some (J2 #[J6 J9 3,J6 J9 0,J3 false] Df (0,0)))(i:b.p=some a/\b.len=1)(j:af h a=some (J6 J9 3))(k:af h (a.add 1)=some (J6 J9 0))(l:af h (a.add 2)=some (J3 false))
  (o:R (J3 true) h):AA A P Cu #[J4 (some ⟨d,0,none⟩) 1 1,J4 b.p b.len b.cap] h R:=by
 obtain⟨p,f⟩:=i;refine Gx (s1:=⟨some ⟨d,0,none⟩,1,1⟩) ?_;unfold EN;refine ae.no (by rw[f];rfl) ?_;refine Loop.rule (λm s q=> ∃c:Nat,s=((c:Int),())/\m=1-c/\c<=1/\q=h) ?_ ⟨0,rfl,rfl,A6 _,rfl⟩;rintro K m _ _ ⟨c,rfl,rfl,u,rfl⟩ r;dsimp only;refine ae.intro (λg=>?_) (λg=>o);have t:c=0:=by have:=of_decide_eq_true g;omega
 subst t;refine⟨_,rfl,⟨by decide,by decide⟩,?_⟩;refine AC.mk (n:=3) (AO e rfl) (AC.mk (n:=0) (AB e rfl) (Aa.mk (n:=false) (AB e rfl) ?_));rw[p,f];refine⟨_,rfl,⟨by decide,by decide⟩,?_⟩;have z:a.add (((0:Nat):Int).toNat*3)=a:=add_zero a;refine AC.mk (n:=3) (z.symm▸j) (AC.mk (n:=0) (z.symm▸k) (Aa.mk (n:=false) (z.symm▸l) ?_));refine ATW (xs:= [.i 3,.i 0,.b false]) (ys:= [.i 3,.i 0,.b false]) AVK (ATc 3 0 false) rfl rfl rfl ⟨_,rfl,ae.no (by simp) ?_⟩;rw[Ab (by omega)];exact r 0 _ _ (by omega) ⟨1,rfl,rfl,A0 _,rfl⟩
end
section
variable {A : ao} {g h : aa} {s k : Nat} {y : Hs} {mp : List Pr} {fl : cq} {an : cL} {O : Nat -> Prop} {R : A30}
theorem AOr {wid:A31}{e:List Ev}{G:J0}(o:EW g h s k 2 [y] mp fl an O)(B:Am wid=true)(C:fl wid=some e)(Y:y.f (Ao wid 2)≠0)(H:(BM e).status=0)
  (I: ∀l j a b c,Ext h l->View de l j e->Ji l (BM e) a b c->(∀ x,a.ag=some x\/b.ag=some x\/c.ag=some x->h.size<x)->(∀ x,j.ag=some x->h.size<x)->(∀ x z,j.ag=some x->a.ag=some z\/b.ag=some z\/c.ag=some z->x<z)->
   R (J1 #[(⟨wid,(Ao wid 2:Int),⟨(BM e).status,(BM e).next,false⟩,j,(BM e).V a b c⟩:bG).v,J6 J9 0]) l):AA A P NY #[Ar y.p,G,J7 wid] h R:=by
 refine ABB ?_;unfold Td;refine aj.mk λJ _ K p Z=>pG (i:=0) (o.on p).w rfl o.m (λL=>absurd (L.symm.trans B) (by decide)) λ_ aa M=>?_
 rw[C];refine LJ.mk (⟨wid,(Ao wid 2:Nat),⟨(BM e).status,(BM e).next,false⟩,gP,bE.z⟩:bG) ⟨_,rfl,aj.mk λab _ N Q ac=>aD.mk N (A0 18) λS r T af=>ae.no rfl ?_⟩;rw[Ud] at r;have t:Ext J S:=M.trans (Q.more T λc u=>by subst u;exact A0 _);have v:=(o.on p).on t;refine AC.mk (n:=(Ao wid 2:Nat)) (AB r rfl) (v.w.holds (i:=0) rfl ⟨_,rfl,ae.no (by simp;omega) (AC.mk (n:=(BM e).status) (AB r rfl) (ae.no (by rw[H];rfl) ?_))⟩);have D:=t.ag K λh=>h
 have lt:=Aj D;refine pH (i:=0) v.w rfl v.m B C λag j a b c E V U m F W=>LJ.mk _ ⟨_,rfl,l9 (E.ag D λh=>h) λX w=>?_⟩
 exact I X j a b c ((p.trans (t.trans E)).more w λc u=>by subst u;exact A0 _) (V.mod w λq d f=>by have:=F q d;have:q=h.size:=f;omega)
  (U.mod w (λq d f=>by have:=m q (.inl d);have:q=h.size:=f;omega) (λq d f=>by have:=m q (.inr (.inl d));have:q=h.size:=f;omega) (λq d f=>by have:=m q (.inr (.inr d));have:q=h.size:=f;omega))
  (λq d=>by have:=m q d;omega) (λq d=>by have:=F q d;omega) W
theorem AO5 {u k' v:Nat}{z:Nat->Nat}{x:dU}{a:ba}(L:bL g)(w:CW Ni g h s k v 2 [y] 0 y mp O u z x a)(M:I4 mp fl an)(B: ∀d,y.u d<=3*k/\y.f d<=k)(N:k+1<=k')(Q:v+2<=3*k')(S: ∀d,y.u d+2<=3*k')(T:k'<=490)(ow:gw mp y a.ai)(U:a.ai<256)(C:Y9 mp fl a)(i:a.conds= [])
  (V: ∀j f l m e,e=Az a l m->EW g j s k' 2 [f] (cu mp (DW e++e.aq)) (cT fl a.wid ((fl a.wid).getD []++e.more)) an O->y.cK f->(∀ d D E,Bc (cu mp (DW e++e.aq)) (FE d D E)=Bc mp (FE d D E))->BM ((fl a.wid).getD []++e.more)=e.st->Mod (aR g O) h j->R (dD 0 (Cy a).1 (Cy a).2).v j):
  AA A P NR #[Ar u] h R:=by
 refine AAs ?_;unfold Tg;have nx:0<=a.st.next/\a.st.next<=501:=by have:=C.next;omega
 refine aj.mk λau _ W n av=>uT (w.on n) nx λX o=>Ez.mk (dD 0 (Cy a).1 (Cy a).2) ⟨rfl,aj.mk λaw _ Y Z ax=>aD.mk Y (A0 9) λp r aa ay=>?_⟩
 rw[MP] at r;have F:Ext X p:=Z.more aa λc i=>by subst i;exact A0 _
 have G:=(n.trans o).trans F;have H:=(o.trans F).ag W λh=>h
 have ab:=Aj H;have az:=n.size;have aA:=o.size;have ac:=Aj r;have af:=w.wider (O':=λq=>O q\/(h.size<=q/\q<p.size)) G.mod λq b=>b
 refine EW.fZ (k':=k') L af M (λaC ag d=>by rw[List.mem_singleton.1 ag];exact B d) (λd=>⟨S d,(B d).2⟩) N Q T ow U C (λ_ aE f l m e ah ai ak al am t=>⟨_,rfl,ae.no rfl ?_⟩) λao=>absurd (λc I=>by rw[i] at I;cases I) ao
 refine Bu.mk (dD 0 (Cy a).1 (Cy a).2) (Jq (aR.aM t r (.inr ⟨by omega,ac⟩))) (KX (aR.aM t H (.inr ⟨A0 _,ab⟩)) λJ K=>?_);have ap:Mod (λq=>aR g O q\/h.size<=q) h J:=G.mod.trans ((t.ak λq _ b=> .inl (aR.less b λq aq=> .inl aq)).trans (K.ak λq _ b=> .inr (by have:q=h.size:=b;omega)));refine V J f l m e ah ((ai.own (O':=λq=>O q\/(h.size<=q/\q<p.size)) (K.ak λq _ b=> .inr ⟨by have:q=h.size:=b;omega,by have:q=h.size:=b;omega⟩) λq b=> .inl b).own (O':=O) Mod.refl λq b=> .inl (.inl b)) ak al am (ap.ak λq ar b=>b.elim id λh=>absurd ar (by omega))
end
def lF(wid:A31)(c:Nat)(p:bK):ba:= {Gh wid c 0 4 false (dG p 0) 0 with st:=qN p,more:= [nG,nH]}
theorem xD {wid:A31}{c:Nat}{p:bK}:DX (DX (Gh wid c 0 4 false (dG p 0) 0) (lD 3)) lE=lF wid c p:=by rw[AIG rfl rfl rfl,ATf rfl rfl rfl];rfl
theorem ALD {mp:List Pr}{fl:cq}{wid:A31}{c:Nat}{p:bK}{a:List Ev}(l:Am wid=true)(f:fl wid=some a)(i:Ng a)(j:BM a=dG p 0)(d:Cz (dG p 0) 3):Y9 mp fl (lF wid c p):= {
 wid:=l
 fits:=by show((lF wid c p).fits ((fl wid).getD []));rw[f,<-xD];refine Lj (Lj ?_ (.inl (show(4:Int)<6 by decide))) (.inr (show(12:Int)<=15 by decide));show Eb SC (a++ [])=some (dG p 0)/\ ∀m∈a++ [],_;rw[AS];exact⟨i.ok.trans (congrArg some j),i.kd⟩
 more:=by intro h;cases h
 st:=⟨A6 _,A6 _,d.steps,d.aw,d.aP,(by decide:(0:Int)<=6/\(6:Int)<=501),(by decide:(0:Int)<=1/\(1:Int)<=4),d.waits⟩
 ok:=λm e=>by
  rcases List.mem_cons.1 e with rfl|e
  ·exact⟨xB,(by decide:0<1099511627776)⟩
  ·rw[List.mem_singleton.1 e];exact⟨xC,(by decide:0<1099511627776)⟩
 len:=⟨(by decide:2+0<=50),(by decide:0<=50)⟩
 keys:=λq b=>by cases b
 base:=by show mO (lF wid c p) (fl wid);rw[f];show(0:Int)=(BM a).status/\(4:Int)=(BM a).next/\false=false/\(0:Int)<4;rw[j];exact⟨rfl,rfl,rfl,by decide⟩
 bW:=(by decide:(0:Int)<=0/\(0:Int)<=4)
 bO:=(by decide:(0:Int)<=4/\(4:Int)<=501)
 now:=(by decide:(0:Int)<=0/\(0:Int)<=1099511627776)
 next:=(by decide:(2:Int)<=6/\(6:Int)<=500)
 err:=rfl
 bes:=⟨λq b=>(by cases b),λq b=>(by cases b),λq b=>by cases b⟩}
section
variable {A : ao} {g h : aa} {s k : Nat} {y : Hs} {mp : List Pr} {fl : cq} {an : cL} {O : Nat -> Prop} {R : A30}
set_option maxHeartbeats 400000 in
theorem AK5 {q:bU}{ev:List Ev}{p:bK}{aL:J0}{a2:Q6}(aN:bL g)(r:EW g h s k 2 [y] mp fl an O)(aO:k+1<=490)(own:gw mp y (Ao q.wid 2)/\y.f (Ao q.wid 2)=1)(am:Am q.wid=true)(L:fl q.wid=some ev)(t:BM ev=dG p 0)(aP:p.steps= [])(aQ: ∀e∈ev,e.kind<=5)(aS:ev.length=3)(ao:q.ref=3)
  (aT:q.cj.p=some a2/\q.cj.len=1) (aU:af h a2=some (J6 J9 3)) (aV:af h (a2.add 1)=some (J6 J9 0)) (aW:af h (a2.add 2)=some (J3 false))
  (aX: ∀u M aY aZ,EW g u s (k+1) 2 [M] aY aZ an O->Mod (aR g O) h u->R (dD 0 1 6).v u):AA A P Jd #[Ar y.p,aL,J6 J9 0,q.v] h R:=by
 have N:=r.m.cJ _ _ L;have d:=SX q.wid (n:=2) (by decide);have v:Cz (dG p 0) 3:=by have:=QP Cz.zero N.ok;rw[t,aS] at this;exact this.up (by omega)
 refine ZY ?_;unfold Rv;refine aj.mk λE _ ap Q bM=>aj.mk λS _ a0 B bN=>AL.mk (n:=q.wid) (AB (B.ag ap λh=>h) rfl) ?_
 have a1:=B.ag ap λh=>h
 refine AOr ((r.on Q).on B) am L (by rw[own.2];decide) (by rw[t];rfl) λF f a b T aq V U a3 bO bP=>LJ.mk _ ⟨_,rfl,aj.mk λbQ _ a4 a5 bR=>aD.mk a4 (A0 18) λW o a6 bS=>ae.no rfl ?_⟩
 rw[Ud] at o;rw[t] at o U;have G:Ext F W:=a5.more a6 λc d=>by subst d;exact A0 _
 have X:=aq.trans G;have ar:=X.ag a1 λh=>h
 have a7:=X.ag a0 λh=>h
 have au:af W ((⟨h.size,0,none⟩:Q6).add 7)=some (J6 J9 3):=by rw[<- ao];exact AB ar rfl
 have bT:=V.len;have vc:=V.cap;refine ah.mk λK a8=>?_
 refine AC.mk (n:=3) (by rw[add_add];exact AB o rfl) ?_;refine ae.no rfl ?_;refine AC.mk (n:=3) (by rw[add_add];exact AB o rfl) ?_;refine AC.mk (n:=3) au ?_;refine a8 _ _ ?_;refine ae.no rfl ?_;refine AV.mk (s:=f) (AB o rfl) ?_;refine AC.mk (n:=3) au ?_;refine⟨⟨by decide,by omega⟩,?_⟩;have a9:View de W ⟨BJ f.p f.cap 0 8,3,f.cap⟩ ev:=by have:=(V.ext G).sub (lo:=0) (hi:=3) (by omega) (by omega);rw[HU,As (by omega)] at this;exact this
 rw[show(3:Int).toNat-0=3 from rfl,It];refine xJ (l:=⟨BJ f.p f.cap 0 8,3,f.cap⟩) N a9 (by rw[t];rfl) (by rw[t];exact aP) aQ λH ba w bV Y=>?_
 refine⟨⟨some ⟨ba,0,none⟩,1,1⟩,0,rfl,?_⟩;refine ae.no rfl ?_;have av:=w.ag ar λh=>h
 have bb:=w.ag a7 λh=>h
 have bc:=w.ag o λh=>h
 have C:Ext h H:=((Q.trans B).trans X).trans w;refine AV.mk (s:=q.cj) (AB av rfl) (AQg Y aT (C.af aU) (C.af aV) (C.af aW) ⟨_,rfl,ae.no rfl ?_⟩);refine EC.mk (⟨q.wid,(Ao q.wid 2:Nat),⟨0,4,false⟩,f,(dG p 0).V a b T⟩:bG) (Ml bc) ?_;have bW:=Q.size;have bX:=B.size;have bY:=aq.size;have bZ:=G.size;have b0:=w.size;have b1:=Aj o;have b2:=Aj Y
 let x:Nat->Prop:=λc=>O c\/(h.size<=c/\c<H.size/\ ¬SK (dG p 0) a b T c)
 have Z: ∀c,SK (dG p 0) a b T c->S.size<c/\c<F.size:=λc I=>⟨a3 c (by rcases I with⟨_,h⟩|⟨_,h⟩|⟨_,h⟩<;>simp[h]),U.lt I⟩
 have aw: ∀c,h.size<=c->c<H.size->c<=S.size\/F.size<=c->x c:=λc bd E b3=> .inr ⟨bd,E,λhi=>by have:=Z c hi;omega⟩
 refine pY (l:= [y]) (i:=0) (y:=y) (O:=x) (ai:=Ao q.wid 2) (now:=0) (r.w.own C.mod λc I=>?_) (by simp) (U.ext (G.trans w)) (λc hi ac=>?_) λb4 be z b5 bf J=>⟨_,rfl,?_⟩
 ·rcases I with(h|h)|h
  ·exact .inl h
  ·exact .inr ⟨h.1,h.2.1⟩
  ·have:=Z c h;exact .inr ⟨by omega,by omega⟩
 ·rcases ac with h|h
  ·have:=(r.w.out h).1;have:=Z c hi;omega
  ·exact h.2.2 hi
 have aM: ∀ {c:Nat} {ax:Obj} {u ay:aa},u[c]? =some ax->h.size<=c->c<H.size->c<=S.size\/F.size<=c->Mod (aR g x) u ay->ay[c]? =some ax:=λbg g1 bh bi m=>aR.aM m bg (aw _ g1 bh bi)
 have bj:=J.ag av λh=>h
 have bk:=J.ag bb λh=>h
 have bm:=J.ag Y λh=>h
 refine AC.mk (n:=3) (by rw[<- ao];exact AB bj rfl) ?_;refine UE (n:=4) (e:=lD 3) bf (v.up (by omega)) (by decide) (by show 0<1099511627776;decide) (.inl (show(4:Int)<6 by decide)) (by show 0<1000;decide) λaz b6 b7 bn ag=>⟨rfl,?_⟩
 have bo:=aM bk (by omega) (by omega) (by omega) ag;have ak:=aM bm (by omega) (by omega) (.inr (by omega)) ag;refine Loop.rule (λal aA D=>(aA=((0:Int),())/\al=1/\D=az)\/(aA=((1:Int),())/\al=0/\Mod (aR g x) az D/\ ∃aC aE,CW Ni g D s k (3*k) 2 [y] 0 y mp x be aC aE (lF q.wid (Ao q.wid 2) p))) ?_ (.inl ⟨rfl,rfl,rfl⟩);rintro b8 al _ D (⟨rfl,rfl,rfl⟩|⟨rfl,rfl,aF,aC,aE,bp⟩) bq
 ·refine ae.yes rfl ⟨_,rfl,⟨by decide,(by decide:(0:Int)<((1:Nat):Int))⟩,AC.mk (n:=3) (AO ak rfl) (AC.mk (n:=0) (AB ak rfl) (Aa.mk (n:=false) (AB ak rfl) (aj.mk λb9 _ br bs ca=>?_)))⟩;refine ab.mk br (by simp) λcb bt bu cc=>ab.bT (j:=1) bt (by simp) rfl λcd bv bw ce=>ab.bT (j:=2) (dT:= #[J6 J9 3,J6 J9 0,J3 false]) bv (by simp) rfl λbx bz bA cf=>?_
  have aG:Ext D bx:=bs.more ((bu.trans bw).trans bA) λc d=>by subst d;exact A0 _
  refine AC.mk (n:=3) (AO bz rfl) (ah.mk λcg bB=>ae.no rfl (ae.no rfl (ae.yes rfl ?_)));refine UE (n:=5) (e:=lE) (bn.on aG) ?_ (by decide) (by show 0<1099511627776;decide) (.inr (show(12:Int)<=15 by decide)) ?_ λch bC bD aH bE=>⟨rfl,bB _ _ ?_⟩
  ·rw[AIG rfl rfl rfl];exact⟨A6 _,A6 _,v.steps,v.aw,v.aP,(by decide:(0:Int)<=5/\(5:Int)<=501),(by decide:(0:Int)<=0/\(0:Int)<=4),v.waits⟩
  ·rw[AIG rfl rfl rfl];show 1<1000;decide
  rw[xD] at aH;exact bq 0 _ _ (by omega) (.inr ⟨rfl,rfl,aG.mod.trans bE,bC,bD,aH⟩)
 ·refine ae.no rfl ?_;have bF:=aM bo (by omega) (by omega) (by omega) aF;have ub:=r.all y (by simp);refine AO5 (k':=k+1) aN bp r.m ub (by omega) (by omega) (λn=>by have:=ub n;omega) aO own.1 (by show Ao q.wid 2<256;omega) (ALD am L N t v) rfl λci M cj ck cl cm bH cn _ _ aI=>Ez.mk (dD 0 1 6) ⟨rfl,KX (aM bF (by omega) (by omega) (by omega) aI) λaJ aK=>?_⟩
  have bI:Mod (λc=>aR g O c\/h.size<=c) h aJ:=C.mod.trans (J.mod.trans ((((ag.trans aF).trans aI).ak λc _ d=> .inl (aR.less d λc ac=> .inl ac)).trans (aK.ak λc _ d=> .inr (by have:c=E.size:=d;omega))));exact aX aJ M _ _ ((bH.own (O':=x) (aK.ak λc _ d=>by have e:c=E.size:=d;subst e;exact aw _ (by omega) (by omega) (.inl (by omega))) λc d=> .inl d).own (O':=O) Mod.refl λc d=> .inl (.inl d)) (bI.ak λc bJ d=>d.elim id λh=>absurd bJ (by omega))
end
theorem ARP {a:List Ev}{p:bK}(c:Ng a)(d:BM a=bZ p 0):BM (a++ [Ps])=dG p 0:=by
 have ok:Ea Ps=true:=uB.1;have b:Bf (bZ p 0) Ps=(0,dG p 0):=by unfold Bf;rw[if_neg (by simp[ok]),if_neg (by simp[bZ]),if_neg (by simp[bZ]),if_neg (by simp[bZ])];rfl
 have h:=yJ (e:=Ps) (c.ok.trans (congrArg some d)) (by rw[b]);rw[b] at h;unfold BM;rw[h];rfl
section
variable {A : ao} {g h : aa} {w : Nat} {x : fP} {k : Nat} {y : Hs} {mp : List Pr} {fl : cq} {an : cL} {O : Nat -> Prop} {T : TT} {L : List Tq} {R : A30}
theorem WQ.decide {c G:Nat}{wid:A31}{ev:List Ev}{p:bK}(H:bL g)(f:WQ g h w x k y mp fl an O T ((c,G,wid)::L))(aS:k+2<=490)(I:fl wid=some ev)(ac:BM ev=bZ p 0)(J:p.steps= [])(af: ∀b∈ev,b.kind<=5)(ag:ev.length=2)
  (ah: ∀K,Mod (aR g O) h K->R (dD 0 1 6).v K):AA A P JP #[Ar w,J6 J9 0] h R:=by
 obtain⟨a,o,-,r,-⟩:=f.q.ok.one (c,G,wid) (Yf (by simp));have r:Am wid=true:=r;have o:Ao wid 2=c:=o;have a:c<2:=a;have t:=ARP (f.q.w.m.cJ _ _ I) ac;refine UC ?_;unfold Mm;refine aj.mk λaT _ M u aU=>?_
 have ai:=f.wider u ⟨A0 _,Aj M⟩;have aV:=u.size;refine ai.oS (q:=⟨7,⟨#[]⟩,⟨#[]⟩,⟨#[]⟩,⟨none,0,0⟩,0,⟨none,0,0⟩,0,0,0,0,false⟩) H (by omega) rfl rfl λak al aW am aX N ao aY Q a0 v ap=>Ez.mk (⟨0,0,0,⟨1,wid,3,0⟩,⟨#[]⟩,N⟩:aZ) ⟨rfl,aj.mk λa1 _ aq ar a3=>aD.mk aq (A0 9) λau j av a4=>?_⟩
 rw[MP] at j;obtain rfl:ev=am:=B9 (I.symm.trans ao);have d:Ext ak au:=ar.more av λc a=>by subst a;exact A0 _
 have aw:=Q.on d;have a5:=v.size;have a6:=d.size;have ax:=Q.q.w.m.cJ wid _ Hm;have S: ∀b∈ev++ [Ps],b.kind<=5:=λb ay=>(List.mem_append.1 ay).elim (af b) λh=>by rw[List.mem_singleton.1 h];decide
 refine AC.mk (n:=0) (AO j rfl) (ae.no rfl (AV.mk (s:=N) (AB j rfl) ?_));refine xJ ax (ap.ext d) (by rw[t];rfl) (by rw[t];exact J) S λa7 l e a8 az=>⟨⟨some ⟨l,0,none⟩,1,1⟩,_,rfl,ae.no rfl ?_⟩
 have U:=e.ag j λh=>h
 refine AL.mk (n:=wid) (by rw[add_add];exact AB U rfl) (AC.mk (n:=3) (by rw[add_add];exact AB U rfl) ?_);have V:=aw.on e;have a9:=e.size;refine Zc (q:=⟨8,⟨#[]⟩,wid,⟨#[]⟩,⟨none,0,0⟩,0,⟨some ⟨l,0,none⟩,1,1⟩,3,0,0,0,false⟩) (i:=0) V.wo rfl λba aA bb z aC W aE=>?_
 have aF:=Aj W;have X:=V.wider z ⟨aC,aF⟩;refine AOh X.wo rfl λbc aG bd B aH Y aI=>?_
 have aJ:=Aj Y;have Z:=X.wider B ⟨aH,aJ⟩;have C:=z.trans B;have D:=C.ag az λh=>h
 have own:=Z.q.own c a;have aK:=(d.trans (e.trans C)).ag (aR.aM v M (.inr rfl)) λh=>h
 rw[f.now];refine AK5 (q:=⟨8,⟨#[]⟩,wid,⟨#[]⟩,⟨none,0,0⟩,0,⟨some ⟨l,0,none⟩,1,1⟩,3,0,0,0,false⟩) (ev:=ev++ [Ps]) (p:=p) (a2:=⟨l,0,none⟩) H Z.q.w (by omega) (by show gw _ _ (Ao wid 2)/\al.f (Ao wid 2)=1;rw[o];exact own) r Hm t J S (by rw[A1,ag];rfl) rfl ⟨rfl,rfl⟩ (AO D rfl) (AB D rfl) (AB D rfl) λaL be bf bg bh m=>aI aL _ ⟨aR.aM m Y (.inr rfl),λaM E=>aE aM _ (show(0:Int)≠30 by decide) ⟨E.ag (aR.aM m (B.ag W λh=>h) (.inl (.inr rfl))) (by omega),λbi aa=>?_⟩⟩
 have aN:=aa.ag (E.ag (aR.aM m aK (.inl (.inl (.inl (.inr rfl))))) (by omega)) (by omega);refine Ez.mk (dD 0 1 6) ⟨rfl,KX aN λab aO=>ah ab ?_⟩;have aP:Mod (λc=>aR g O c\/h.size<=c) h ab:=u.mod.trans ((v.ak λc _ a=> .inl (aR.less a λc F=> .inl F)).trans ((d.trans (e.trans C)).mod.trans ((m.ak λc _ a=> .inl (aR.less a λc F=> .inl (.inl (.inl (.inl F))))).trans ((E.ak λc _ a=> .inr (by have:c=aG:=a;have:=z.size;omega)).trans ((aa.ak λc _ a=> .inr (by have:c=aA:=a;omega)).trans (aO.ak λc _ a=> .inr (by have:c=h.size:=a;omega)))))));exact aP.ak λc aQ a=>a.elim id λh=>absurd aQ (by omega)
end
theorem pre_nil {b:List Pr}{a:UInt8}{q:List UInt8}(s:Sorted b)(c: ∀q,BG q≠108->Ac q b=none)(d:a≠108):F7 (Ad (a::q)) b= []:=by
 refine List.filter_eq_nil_iff.2 λp e f=>?_
 have:=c p.key (by rw[mT f];exact d);rw[s.find e] at this;cases this
theorem ASe(p m:Nat):Fx (bA [some p]) m=some 0:=by
 cases b:Fx (bA [some p]) m with
 |none=>have a:=Vv b;cases a
 |some i=>
  have a:=(List.getElem?_eq_some_iff.1 (Gy b).1).1;have a:i<1:=a;rw[show i=0 by omega]
theorem qO(i:Nat):(⟨#[]⟩:A31)≠cn i:=λb=>by
 have a:=congrArg ByteArray.size b;unfold cn at a;rw[F0] at a;have c:jY.size=4:=rfl;have d:(⟨#[]⟩:A31).size=0:=rfl;omega
theorem qP(p m:Nat)(l:List Hs)(ix:Nat->Nat):dv (bA [some p]) ix l (λ_=>(0,⟨#[]⟩)) m=some 0:=by unfold dv;rw[ASe];exact if_neg λa=>qO 0 a.1
abbrev rW:A31:=⟨#[119]⟩
theorem AVw:BM [⟨1,1,0,0,0,0,false,Ad (Ca ⟨[],0⟩)⟩,⟨2,2,0,0,0,0,false,⟨#[]⟩⟩]=bZ ⟨[],0⟩ 0:=by kernel_rfl
theorem ARV {c num:Nat}(a:c<2):eO (cH (λ_=> []) c [(num,rW)]) 2=1/\iU (cH (λ_=> []) c [(num,rW)]) [] 2= [(c,num,rW)]:=by
 rcases(by omega:c=0\/c=1) with rfl|rfl
 ·constructor
  ·simp[eO,cH]
  ·simp[iU,cH,Um,gQ]
 ·constructor
  ·simp[eO,cH]
  ·simp[iU,cH,Um,gQ]
theorem ALp {V:ao}{d:aa}{I:A30}(h:bL d)(W: ∀J,Ext d J->I (J3 true) J):AA V P Jj #[] d I:=by
 refine UR ?_;unfold Nl;refine xI (n:=1) (sh:=2) h (by decide) (by decide) λX g b s a e nt Y Z aI=>⟨_,_,rfl,?_⟩
 refine xA (i:=0) (x:=⟨b,s,a,e,2,nt,0⟩) h Y Z rfl (show 1<=2/\2<=16 by decide) (by decide) (.inl rfl) (.inr rfl) λj p u v w y aJ=>⟨_,rfl,?_⟩
 have y:Wo j g ⟨b,s,a,e,2,nt,0⟩ [some p]:=y;have w:LW Ni d j s 0 0 2 [⟨p,u,v,cn 0,λ_=>0,λ_=>0⟩] [] (gU g e):=w;have ab:WW d j g ⟨b,s,a,e,2,nt,0⟩ [some p] 0 [⟨p,u,v,cn 0,λ_=>0,λ_=>0⟩] [] (gU g e) (λ_=>0) (λ_=>(0,⟨#[]⟩)):= {
  lw:=w
  wo:=y
  own:=⟨.inl rfl,.inr rfl⟩
  tie:=λi q hi=>by
   have X:i<1:=(List.getElem?_eq_some_iff.1 hi).1;obtain rfl:i=0:=by omega
   cases hi;exact⟨_,rfl,rfl,rfl⟩
  ls:=λm _=> .inl ⟨rfl,rfl,rfl⟩
  le:=λm _=>A0 _
  sh:=(show 1<=2/\2<=16 by decide)
  n:=by show(1:Nat)<=8;decide
  all:=λr k m=>by rw[List.mem_singleton.1 k];exact⟨A6 _,A6 _⟩
  em:=I4.empty
  row:=λq _=>rfl}
 have cA:Ku (bA [some p]) (λ_=>0) [⟨p,u,v,cn 0,λ_=>0,λ_=>0⟩] (λ_=>(0,⟨#[]⟩)) 2=2:=by rw[MJ,MJ,qP,qP];rfl
 refine qT h ab (by show 0+Ku _ _ _ _ 2<=490;rw[cA];decide) λK ac L af f ag ah aK=>⟨_,_,rfl,?_⟩
 have f:WW d K g ⟨b,s,a,e,2,nt,0⟩ [some p] (0+2) ac L (gU g e) (λ_=>0) af:=f.up (by show 0+Ku _ _ _ _ 2<=2;exact Nat.le_of_eq (by rw[cA])) (by decide);obtain⟨z,rfl⟩:=List.length_eq_one_iff.1 ah;obtain⟨r,k,ai,ak⟩:=f.tie 0 p rfl;obtain rfl:z=r:=B9 k;have G:=λm (A:m<2)=>(ag m A).goes 0 (qP p m _ _)
 have B: ∀m,m<2->z.f m=1:=λm A=>(G m A).2
 have C:=f.lw.sorted;have al:WQ d K g ⟨b,s,a,e,2,nt,0⟩ 2 z L (λ_=>none) (λ_=>none) (gU g e) (λ_=> []) []:= {
  q:=⟨⟨f.lw.put (A0 _) (by show 64*2<=32000;decide) (show 0+2<=3*2 by decide) (by decide),f.em,λr k n=>f.all r k n⟩,⟨λc _=>pre_nil C f.row (by decide),by rw[Ra];exact pre_nil C f.row (by decide)⟩,λn l=>by
   have ls:=f.ls n l;rw[(G n l).1,<-ak] at ls;exact⟨⟨by rw[B n l];decide,by rw[B n l];exact ls.holds (A0 _)⟩,B n l⟩,⟨λq am=>(by cases am),RR,RR⟩⟩
  wo:=by rw[ai];exact f.wo
  ow:=⟨.inl rfl,.inr rfl⟩
  sh:=rfl
  now:=rfl}
 have an:Qj ⟨1,⟨#[114]⟩,rW,⟨#[]⟩,⟨none,0,0⟩,0,⟨none,0,0⟩,0,0,0,0,false⟩ ⟨[],0⟩=0:=by
  unfold Qj;rw[if_neg (λd=>by have j:=d.2;exact absurd j (by decide)),if_neg];rintro(d|d|d)
  ·exact absurd d.1 (show ¬(1:Int)=2 by decide)
  ·exact absurd d (show ¬Am ⟨#[119]⟩=false by decide)
  ·exact absurd d (show ¬Am ⟨#[114]⟩=false by decide)
 refine al.start (q:=⟨1,⟨#[114]⟩,rW,⟨#[]⟩,⟨none,0,0⟩,0,⟨none,0,0⟩,0,0,0,0,false⟩) (p:=⟨[],0⟩) h (by decide) rfl View.nil rfl rfl (by decide) an rfl rfl (by show Am ⟨#[119]⟩=true;decide) λt ap aL num o aM aN aq=>Ez.mk (dD 0 0 3) ⟨rfl,aj.mk λaO _ M ar aP=>aD.mk M (A0 9) λaQ N au aS=>?_⟩
 rw[MP] at N;have av:g≠t.size/\e≠t.size:=⟨λO=>by have:g<t.size:=o.lt o.ow.1;omega,λO=>by have:e<t.size:=o.lt o.ow.2;omega⟩;have Q:=(o.wider ar ⟨A0 _,Aj M⟩).bz au (.inr rfl) av;have aw:=SX rW (n:=2) (by decide);refine Q.turn h (by decide) (λn=>aq n (pre_nil C f.row (by decide))) λax ay D R aT=>⟨_,_,rfl,?_⟩
 obtain⟨az,aA⟩:=ARV (num:=num) aw;have D:WQ d ax g ⟨b,s,a,e,2,nt,0⟩ (2+1+16) ap ay _ _ _ _ [(Ao rW 2,num,rW)]:=aA▸D;refine D.decide h (by decide) Hm AVw rfl (λO E=>by
  rcases List.mem_cons.1 E with rfl|E
  ·exact(by decide:(1:Int)<=5)
  ·rw[List.mem_singleton.1 E];exact(by decide:(2:Int)<=5)) rfl λaC S=>Ez.mk (dD 0 1 6) ⟨rfl,aj.mk λaU _ aE aF aV=>aD.mk aE (A0 9) λT F aG aW=>?_⟩
 rw[MP] at F;have U:Ext aC T:=aF.more aG λc H=>by subst H;exact A0 _
 have aH:=U.ag (aR.aM S (aR.aM R N (.inr rfl)) (.inr rfl)) λd=>d
 refine ae.yes rfl (ae.yes rfl (ae.yes rfl (ae.yes (by show(((Ku _ _ _ _ 2:Nat):Int)==2)=true;rw[cA];rfl) (AC.mk (n:=0) (AO aH rfl) (ae.yes rfl (ae.yes rfl (ae.yes ?_ (AC.mk (n:=0) (AO F rfl) (ae.yes rfl (AC.mk (n:=1) (AB F rfl) ?_))))))))))
 ·show(((eO (cH (λ_=> []) (Ao rW 2) [(num,rW)]) 2:Nat):Int)==1)=true;rw[az];rfl
 ·refine W T ?_;exact((Q.ext.more (R.trans S) λc H=>H.1)).trans U
section
variable {A : ao} {g h : aa} {R : A30}
theorem AOm {a:Int}(b: -9223372036854775808<=a)(c:a<=9223372036854775807):(((⟨#[104,111,115,116]⟩:A31).size+(⟨(Lib.itoa a).toArray⟩:A31).size:Nat):Int)<=IntKind.max J9:=by
 have:=Lib.itoa_length_le a b c;have d:ByteArray.size ⟨#[104,111,115,116]⟩=4:=rfl;have e:ByteArray.size ⟨(Lib.itoa a).toArray⟩=(Lib.itoa a).length:=by show Array.size _=_;simp
 rw[d,e,max_i64];omega
abbrev qU(i:Int):A31:=(⟨#[104,111,115,116]⟩:A31)++⟨(Lib.itoa (if(0:Int)>i then 0 else i)).toArray⟩
theorem xL(t:cW h){i:Int}(hi:i<=9223372036854775807)(b: ∀a,Ext h a->R (J7 (qU i)) a):AA A P IC #[J6 J9 i] h R:=by refine WT ?_;unfold PW;exact WC t (by split<;>omega) (by split<;>omega) λc d=>⟨_,rfl,AOm (by split<;>omega) (by split<;>omega),b c d⟩
end
def JI(e:ao)(order:Sl)(au:Int)(Q:aa)(f:A30):=AA e P Jj #[] Q λv k=>∃o,v=J3 o/\ae (!o) (f (J3 false) k) (ah (λ(R:Bool×Unit) p=>ae R.1 (f (J3 true) p) (AA e P QX #[J6 J9 5,J6 J9 au] p λv1 q=>∃i r,v1=J1 #[J5 i,J6 J9 r]/\ae (r != 0) (f (J3 false) q) (Af e P (Instr.makeSlice AO2 (J6 J9 5) (J6 J9 5)) q λv2 S=>∃c:Sl,v2=J4 c.p c.len c.cap/\Loop (λT (s:Int×Unit) m=>ae (decide (s.1<(order.len:Int))) (aS order.p order.len s.1 λa=>AC J9 m (a.add (s.1.toNat*1)) λg=>AA e P Ex #[J4 c.p c.len c.cap,J6 J9 au] m λU n=>∃j:Sl,U=J4 j.p j.len j.cap/\ah (λ(aI:Unit) t=>aS c.p c.len ((J8 J9 ((g.tmod (5:Int))+5)).tmod (5:Int)) λV=>Aa t (V.add (((J8 J9 ((g.tmod (5:Int))+5)).tmod (5:Int)).toNat*1)) λW=>aS c.p c.len ((J8 J9 ((g.tmod (5:Int))+5)).tmod (5:Int)) λX=>ab t (X.add (((J8 J9 ((g.tmod (5:Int))+5)).tmod (5:Int)).toNat*1)) (J3 (!W)) λY=>AA e P Ex #[J4 c.p c.len c.cap,J6 J9 au] Y λZ ac=>∃d:Sl,Z=J4 d.p d.len d.cap/\AA e P FC #[J5 i] ac λaf u=>∃w x,af=J1 #[J6 J9 w,J6 J9 x]/\ae (x != 0) (f (J3 false) u) (Loop (λag (b:Int×Int×Unit) h=>ae (decide (b.2.1<(d.len:Int))) (ah (λ(ai:Int×Unit) l=>ah (λ(aj:Bool×Unit) y=>ae aj.1 (f (J3 false) y) (ag (ai.1,(J8 J9 (b.2.1+1)),()) y)) λz=>aS d.p d.len b.2.1 λak=>AC J9 l (ak.add (b.2.1.toNat*1)) λal=>ae (decide (al>=0)) (aS d.p d.len b.2.1 λam=>AC J9 l (am.add (b.2.1.toNat*1)) λan=>AA e P Gu #[J5 i,J6 J9 an,J6 J9 b.2.1] l λap aq=>∃A,ap=J6 J9 A/\z ((A==0),()) aq) (z (false,()) l)) λB=>ah (λ(ar:Bool×Unit) C=>ae ar.1 (B ((J8 J9 (b.1+1)),()) C) (B (b.1,()) C)) λD=>aS d.p d.len b.2.1 λav=>AC J9 h (av.add (b.2.1.toNat*1)) λaw=>ae (decide (aw>=0)) (aS d.p d.len b.2.1 λax=>AC J9 h (ax.add (b.2.1.toNat*1)) λay=>aS j.p j.len b.2.1 λaz=>AC J9 h (az.add (b.2.1.toNat*1)) λaA=>D ((ay != aA),()) h) (D (false,()) h)) (ae (w != b.1) (f (J3 false) h) (AA e P FC #[J5 i] h λaC E=>∃F G,aC=J1 #[J6 J9 F,J6 J9 G]/\ah (λ(aD:Bool×Unit) H=>ae aD.1 (f (J3 false) H) (T ((J8 J9 (s.1+1)),()) H)) λI=>ae (G != 0) (I (true,()) E) (I ((F != 0),()) E)))) (0,0,()) u)) λJ=>aS c.p c.len ((J8 J9 ((g.tmod (5:Int))+5)).tmod (5:Int)) λaE=>Aa n (aE.add (((J8 J9 ((g.tmod (5:Int))+5)).tmod (5:Int)).toNat*1)) λaF=>ae aF (AA e P Gv #[J5 i,J6 J9 ((J8 J9 ((g.tmod (5:Int))+5)).tmod (5:Int))] n λaG L=>∃M,aG=J6 J9 M/\ae (M != 0) (f (J3 false) L) (J () L)) (AA e P Fs #[J5 i,J6 J9 ((J8 J9 ((g.tmod (5:Int))+5)).tmod (5:Int))] n λaH N=>∃O,aH=J6 J9 O/\ae (O != 0) (f (J3 false) N) (J () N))) (f (J3 true) m)) (0,()) S))) λK=>ae (decide (au<1)) (K (true,()) k) (ae (decide (au>16)) (K (true,()) k) (K ((decide ((order.len:Int)>30)),()) k)))
theorem OL {a order au b c}(d:JI a order au b c):AA a P JM #[J4 order.p order.len order.cap,J6 J9 au] b c:=AZ (AJ AQ (AJ CL (AJ vM (AJ AQ (AJ CL (AJ AQ (AJ (AJ AQ (.block (.loop [(42,.one (.int J9))] [1,5,7,40,41] (AJ AQ (AJ Dv (AJ (.block (Bh 3 (.bd [] [1,5,7,10,11,40,41,42] (AJ AQ (.cond CL CL)) (Bh 3 (AJ CL (AJ AQ (AJ (AJ AQ (.block (.loop [(15,.one (.int J9)),(85,.one (.int J9))] [1,5,7,11,12,13,40,41,42,84] (AJ AQ (AJ Dv (AJ (.block (AJ AQ (.bd [(15,.one (.int J9))] [1,5,7,11,12,13,16,40,41,42,84,85] (AJ (.aV [(103,.one .bool)] [1,5,7,11,12,13,15,16,40,41,42,84,85]) Dv) (AJ (.aV [(120,.one .bool)] [1,5,7,11,12,13,15,40,41,42,84,85]) DY)))) AQ)))))) (AJ CL (AJ AQ (AJ (.aV [(135,.one .bool)] [1,5,7,40,41,42]) DY)))))))))) AQ)))))) BP))))))) (by kernel_rfl) d
theorem AUk:Qr P Ap BL GI.w 8=true:=by kernel_rfl
theorem xE(a:Nat):qU (a:Int)=cn a:=by unfold qU;rw[if_neg (by omega),Lib.itoa_nonneg];rfl
def jG(a:Option Nat)(b:Nat):Int:=match a with|some i=>if i<b then i else -1|none=> -1
theorem ARJ {up:List Bool}{m:Nat}:jG (Fx up m) up.length=eg (Fx up m):=by
 cases a:Fx up m with
 |none=>rfl
 |some i=>
  have:=(List.getElem?_eq_some_iff.1 (Gy a).1).1;show(if i<up.length then(i:Int) else -1)=(i:Int);rw[if_pos this]
theorem AOe {up:List Bool}{a:Nat}{b:Bool}(h:up[a]? =some b):Kv (up.take (a+1))=Kv (up.take a)++if b then [a] else []:=by have c:=(List.getElem?_eq_some_iff.1 h).1;rw[AE,h];show Kv (up.take a++ [b])=_;rw[tN,AD,Ft (by omega)]
theorem xF {up:List Bool}:(Kv up).length<=up.length:=by unfold Kv;rw[AF];have:=Iv (λx:Bool×Nat=>x.1) up.zipIdx;rwa [RT] at this
section
variable {A : ao} {g h : aa} {R : A30}
theorem AOk {ub l:Nat}{up:List Bool}{T:Q7}(E:bL g)(x:Ext g h)(Y:h[ub]? =some (J2 (up.map Value.bool).toArray T (0,0)))(aC:up.length<=8)(aD:l<=16)
  (Z: ∀f s,Ext h f->View GI f s ((List.range l).map λm=>eg (Fx up m))->(∀ b,s.ag=some b->h.size<=b)->R (J4 s.p s.len s.cap) f):
  AA A P Ex #[J4 (some ⟨ub,0,none⟩) up.length up.length,J6 J9 (l:Int)] h R:=by
 refine Tx (up:=⟨some ⟨ub,0,none⟩,up.length,up.length⟩) ?_;unfold NF;have N: ∀ {j:aa} {d:Nat} {b:Bool} {K:Bool->Prop},Ext h j->up[d]? =some b->K b->aS (some ⟨ub,0,none⟩) up.length (d:Int) λa=>Aa j (a.add (((d:Nat):Int).toNat*1)) K:=λ{j d b K} D y ab=>by
  have:=(List.getElem?_eq_some_iff.1 y).1;refine⟨_,rfl,⟨by omega,by omega⟩,?_⟩;rw[An,AM];exact Aa.mk (AB (D.ag Y λh=>h) (by rw[Hn,AN,y];rfl)) ab
 refine Loop.rule (λn o j=> ∃(d:Nat) (s:Sl),o=(s,(d:Int),())/\n=up.length-d/\d<=up.length/\Own Ih A9 j s ((Kv (up.take d)).map cn)/\Ext h j/\ ∀b,s.ag=some b->h.size<=b) ?_ ⟨0,⟨none,0,0⟩,rfl,rfl,A6 _,Own.nil,Mod.refl,λb k=>by simp[Sl.ag] at k⟩;rintro K n _ j ⟨d,s,rfl,rfl,y,z,p,F⟩ O;dsimp only;refine ae.intro (λe=>?_) (λe=>?_)
 ·have e:d<up.length:=by have:=of_decide_eq_true e;omega
  have af:up[d]? =some up[d]:=A2 e;generalize up[d]=b at af;have Q:=AOe af;refine ah.mk λaE S=>N p af ?_
  cases b with
  |false=>
   refine ae.no rfl (S _ _ ?_);dsimp only;rw[Ab (by omega)];exact O (up.length-(d+1)) _ _ (by omega) ⟨d+1,s,rfl,rfl,e,by rw[Q];simpa using z,p,F⟩
  |true=>
   refine ae.yes rfl (xL (E.ext (x.trans p)).dB (by omega) λaF G=>⟨_,rfl,?_⟩);rw[xE];have ac:((Kv (up.take d)).map cn).length<=8:=by rw[AF];have:=xF (up:=up.take d);rw[AD] at this;omega
   refine aj.aU (E:=Ih) (x:=cn d) (s:=s) rfl tB (z.ext G) (by omega) (by simp only[maxLen];omega) λH aG ag ai ak _=>S _ _ ?_
   dsimp only;rw[Ab (by omega)];refine O (up.length-(d+1)) _ _ (by omega) ⟨d+1,H,rfl,rfl,e,by rw[Q,Bs];exact ag,(p.trans G).more ai λc I=>F c I,λb k=>?_⟩;rcases ak b k with w|w
   ·exact F b w
   ·have:=p.size;have:=G.size;omega
 have J:d=up.length:=by have:=of_decide_eq_false e;omega
 subst J;rw[As (A0 _)] at z;have nl: ∀o∈(Kv up).map cn,o.size<=1099511627776:=λo al=>by
  obtain⟨i,hi,rfl⟩:=List.mem_map.1 al;have:=pg i (by have:=(List.getElem?_eq_some_iff.1 (TB.1 hi)).1;omega);have:(24:Nat)<=1099511627776:=by decide
  omega
 have nn:((Kv up).map cn).length<=1099511627776:=by
  rw[AF];have:=xF (up:=up);have:(8:Nat)<=1099511627776:=by decide
  omega
 refine Loop.rule (λn o f=> ∃(m:Nat) (u:Sl),o=(u,(m:Int),())/\n=l-m/\m<=l/\Own GI BL f u ((List.range m).map λm=>eg (Fx up m))/\Ext j f/\ ∀b,u.ag=some b->j.size<=b) ?_ ⟨0,⟨none,0,0⟩,rfl,rfl,A6 _,Own.nil,Mod.refl,λb k=>by simp[Sl.ag] at k⟩;rintro aH n _ L ⟨m,u,rfl,rfl,aI,U,B,M⟩ am;dsimp only;have C:=p.trans B;refine ae.intro (λe=>?_) (λe=>?_);rotate_left
 ·have an:m=l:=by have:=of_decide_eq_false e;omega
  subst an;exact Z L u C U.view λb k=>by have:=M b k;have:=p.size;omega
 have ao:m<l:=by have:=of_decide_eq_true e;omega
 refine AQp (E.ext (x.trans C)).dB (by omega) λaJ V=>⟨_,rfl,AOI ((z.view.ext B).ext V) nl nn ?_ ⟨_,rfl,?_⟩⟩
 ·rw[if_neg (by omega)];have:=Lib.itoa_length_le (m:Int) (by omega) (by omega);rw[F0];show 6+(Lib.itoa (m:Int)).toArray.size<=1099511627776;have:(26:Nat)<=1099511627776:=by decide
  simp only[List.size_toArray];omega
 rw[if_neg (by omega)];have ap:=V;refine Loop.rule (λn o f=> ∃d:Nat,o=(jG (Fx up m) d,(d:Int),())/\n=up.length-d/\d<=up.length/\Ext L f) ?_ ⟨0,by unfold jG;cases Fx up m<;>simp,rfl,A6 _,ap⟩;rintro aK n _ aL ⟨d,rfl,rfl,y,r⟩ aq;dsimp only;refine ae.intro (λe=>?_) (λe=>?_)
 ·have e:d<up.length:=by have:=of_decide_eq_true e;omega
  have af:up[d]? =some up[d]:=A2 e;generalize up[d]=b at af;refine ah.mk λar au=>ah.mk λaM W=>N (C.trans r) af ?_
  have step: ∀ {f:aa} {v:Int},Ext L f->v=jG (Fx up m) (d+1)->ar (v,()) f:=λ{f v} D av=>by
   subst av;refine au _ _ ?_;dsimp only;rw[Ab (by omega)];exact aq (up.length-(d+1)) _ _ (by omega) ⟨d+1,rfl,rfl,e,D⟩
  have other:Fx up m≠some d->jG (Fx up m) d=jG (Fx up m) (d+1):=λaw=>by
   unfold jG;cases t:Fx up m with
   |none=>rfl
   |some i=>
    have:i≠d:=λax=>aw (by rw[t,ax])
    show(if i<d then(i:Int) else -1)=if i<d+1 then(i:Int) else -1;by_cases h:i<d
    ·rw[if_pos h,if_pos (by omega)]
    ·rw[if_neg h,if_neg (by omega)]
  cases b with
  |false=>
   exact ae.no rfl (W _ _ (ae.no rfl (step r (other λt=>by have:=(Gy t).1;rw[af] at this;cases this))))
  |true=>
   refine ae.yes rfl (xL (E.ext (x.trans (C.trans r))).dB (by omega) λaN X=>⟨_,rfl,W _ _ ?_⟩);rw[xE];refine ae.intro (λq=>?_) (λq=>?_)
   ·have q:bD (cn d) (dC up m)=true:=q;rw[Bj] at q;have t:=ASO af (of_decide_eq_true q);refine step (r.trans X) ?_;rw[t];show(d:Int)=if d<d+1 then(d:Int) else -1;rw[if_pos (by omega)]
   ·have q:bD (cn d) (dC up m)=false:=q;rw[Bj] at q;exact step (r.trans X) (other λt=>of_decide_eq_false q (Gy t).2)
 ·have J:d=up.length:=by have:=of_decide_eq_false e;omega
  subst J;rw[ARJ];have ac:((List.range m).map λm=>eg (Fx up m)).length=m:=by rw[AF,Ix]
  refine aj.aU (E:=GI) (x:=eg (Fx up m)) (s:=u) rfl AUk (U.ext r) (by omega) (by simp only[maxLen];omega) λH aO ay az aA _=>?_
  rw[Ab (by omega)];refine am (l-(m+1)) _ _ (by omega) ⟨m+1,H,rfl,rfl,ao,by rw[N5,Bs];exact ay,?_,λb k=>?_⟩
  ·exact(B.trans r).more az λc I=>M c I
  ·rcases aA b k with w|w
   ·exact M b w
   ·have:=p.size;have:=B.size;have:=r.size;omega
end
structure gT (up:List Bool) (ix:Nat->Nat) (l:List Hs) (Ls:dL) (sh:Nat):Prop where
 own: ∀m,m<sh-> ∀i,Fx up m=some i->(Ls m).2=cn i/\(Ls m).1=cD l ix i m/\1<=(Ls m).1
 nil: ∀m,m<sh->(Ls m).1=0->(Ls m).2=⟨#[]⟩
theorem ANu {up a:List Bool}{ix dV:Nat->Nat}{l l':List Hs}{b:dL}{p m n:Nat}(e:gT up ix l b p)(f:m<p)(u: ∀i,i≠n->a[i]? =up[i]?)(aM: ∀i,i≠n->up[i]? =some true->cD l' dV i m=cD l ix i m)
  (flip:a[n]? =some true->up[n]? =some false/\cD l' dV n m=0):(dv a dV l' b m).isSome=true↔ ∃i,Fx a m=some i/\Fx up m≠some i:=by
 unfold dv;cases v:Fx a m with
 |none=>simp
 |some i=>
  obtain⟨g,D⟩:=Gy v;constructor
  ·intro h;refine⟨i,rfl,λc=>?_⟩;obtain⟨d,w,E⟩:=e.own m f i c;have j:=(Gy c).1;have x:i≠n:=λy=>by subst y;rw[(flip g).1] at j;cases j
   simp only at h;rw[if_pos ⟨d,w.trans (aM i x j).symm⟩] at h;cases h
  ·rintro⟨F,z,c⟩;cases z;have A: ¬((b m).2=cn i/\(b m).1=cD l' dV i m):=by
    rintro⟨k,q⟩;cases o:Fx up m with
    |some B=>
     have d:=(e.own m f B o).1;rw[k] at d;have:=pd d;subst this;exact c o
    |none=>
     have C:=Vv o;by_cases r:i=n
     ·subst r;rw[(flip g).2] at q;have:=e.nil m f q;rw[this] at k;exact qO _ k
     ·have s:=u i r;rw[g] at s;have t:=TB.2 s.symm;rw[C] at t;cases t
   simp only;rw[if_neg A];rfl
theorem ATQ {up:List Bool}{ix:Nat->Nat}{l:List Hs}{b:dL}{m i:Nat}(a:dv up ix l b m=some i):Fx up m=some i:=by
 unfold dv at a;split at a
 ·cases a
 ·split at a
  ·cases a
  ·rename_i d c _;cases a;exact c
theorem gT.next {up:List Bool}{ix:Nat->Nat}{l j:List Hs}{a k:dL}{f:Nat}(n: ∀m,m<f->(a m).1=0->(a m).2=⟨#[]⟩)(e: ∀m,m<f->Sp up ix l j a k m):gT up ix j k f:=by
 refine⟨λm b i hi=>?_,λm b c=>?_⟩
 ·cases d:dv up ix l a m with
  |none=>
   obtain⟨g,p⟩:=(e m b).stay d;have hd:=d;unfold dv at hd;rw[hi] at hd;simp only at hd;split at hd
   ·rename_i h;rw[g];refine⟨h.1,by rw[p i (Gy hi).1];exact h.2,?_⟩;refine Nat.one_le_iff_ne_zero.2 λc=>?_
    have:=n m b c;rw[h.1] at this;exact qO i this.symm
   ·cases hd
  |some o=>
   have:=ATQ d;rw[hi] at this;cases this;obtain⟨g1,q⟩:=(e m b).goes i d;rw[g1];exact⟨rfl,q.symm,by show 1<=(a m).1+1;omega⟩
 ·cases d:dv up ix l a m with
  |none=>
   have g:=((e m b).stay d).1;rw[g] at c ⊢;exact n m b c
  |some o=>
   have g1:=((e m b).goes o d).1;rw[g1] at c;have c:(a m).1+1=0:=c;omega
theorem gT.rest {up:List Bool}{ix:Nat->Nat}{l:List Hs}{a:dL}{b:Nat}(c:gT up ix l a b): ∀n,n<=b->Ku up ix l a n=0
 |0,_=>rfl
 |n+1,g=>by
  rw[MJ,c.rest n (by omega)];have:dv up ix l a n=none:=by
   unfold dv;cases d:Fx up n with
   |none=>rfl
   |some i=>
    obtain⟨e,f,-⟩:=c.own n (by omega) i d;exact if_pos ⟨e,f⟩
  rw[this];rfl
section
variable {A : ao} {g h : aa} {w : Nat} {x : fP} {ps : List (Option Nat)} {R : A30} {O : Nat -> Prop} {k : Nat} {l : List Hs} {mp : List Pr} {ix : Nat -> Nat} {Ls : dL}
abbrev jH(ix:Nat->Nat)(a b:Nat):Nat->Nat:=λi=>if i=a then b else ix i
theorem WW.join {d:Nat}(n:bL g)(a:WW g h w x ps k l mp O ix Ls)(hi:ps[d]? =some none)
  (o: ∀e p c,WW g e w x (ps.set d (some p)) k (l++ [c]) mp O (jH ix d l.length) Ls->c.f=(λ_=>0)->Mod (· =x.hb) h e->R (J6 J9 0) e):AA A P Fs #[Ar w,J6 J9 (d:Int)] h R:=by
 have r:=(List.getElem?_eq_some_iff.1 hi).1;refine xA n a.lw a.wo hi a.sh a.n a.own.1 a.own.2 λe p B C s t u=>o e p _ ⟨s,t,a.own,λi q f=>?_,a.ls,a.le,a.sh,by rw[G0];exact a.n,λc b m=>?_,a.em,a.row⟩ rfl u
 ·by_cases j:i=d
  ·subst j;rw[DM r] at f;cases f;exact⟨_,by unfold jH;rw[if_pos rfl,DE (A0 _),My];rfl,rfl,rfl⟩
  ·rw[DP λv=>j v.symm] at f;obtain⟨c,b,y,z⟩:=a.tie i q f;exact⟨c,by unfold jH;rw[if_neg j,FF (List.getElem?_eq_some_iff.1 b).1];exact b,y,z⟩
 ·rcases List.mem_append.1 b with b|b
  ·exact a.all c b m
  ·rw[List.mem_singleton.1 b];exact⟨A6 _,A6 _⟩
theorem WW.leave {d p:Nat}(a:WW g h w x ps k l mp O ix Ls)(hi:ps[d]? =some (some p))
  (n: ∀b,WW g b w x (ps.set d none) k l mp O ix Ls->Mod (· =x.hb) h b->R (J6 J9 0) b):AA A P Gv #[Ar w,J6 J9 (d:Int)] h R:=by
 have o:=(List.getElem?_eq_some_iff.1 hi).1;refine AQY a.wo hi λb r j=>?_
 have s:Mod O h b:=j.ak λc _ f=>by subst f;exact a.own.2
 refine n b ⟨a.lw.own s λc f=> .inl f,r,a.own,λi q e=>?_,a.ls,a.le,a.sh,by rw[G0];exact a.n,a.all,a.em,a.row⟩ j;by_cases m:i=d
 ·subst m;rw[DM o] at e;cases e
 ·rw[DP λt=>m t.symm] at e;exact a.tie i q e
theorem qQ {a:Nat}{b:Option Nat}:bA (ps.set a b)=(bA ps).set a b.isSome:=by unfold bA;rw[Is]
theorem WW.joined {a p:Nat}{b:Hs}(d:WW g h w x ps k l mp O ix Ls)(hi:ps[a]? =some none)(e:b.f=λ_=>0)(m:Nat):
  (∀ i,i≠a->(bA (ps.set a (some p)))[i]? =(bA ps)[i]?)/\(∀ i,i≠a->(bA ps)[i]? =some true->cD (l++ [b]) (jH ix a l.length) i m=cD l ix i m)/\((bA (ps.set a (some p)))[a]? =some true->(bA ps)[a]? =some false/\cD (l++ [b]) (jH ix a l.length) a m=0):=by
 refine⟨λi c=>?_,λi c f=>?_,λ_=>⟨?_,?_⟩⟩
 ·rw[qQ,DP λj=>c j.symm]
 ·obtain⟨n,o⟩:=Sa.1 f;obtain⟨z,q,-⟩:=d.tie i n o;unfold cD jH;rw[if_neg c,FF (List.getElem?_eq_some_iff.1 q).1]
 ·rw[AN,hi];rfl
 ·unfold cD jH;rw[if_pos rfl,DE (A0 _),My];show b.f m=0;rw[e]
theorem ASh {a p:Nat}(hi:ps[a]? =some (some p))(m:Nat):(∀ i,i≠a->(bA (ps.set a none))[i]? =(bA ps)[i]?)/\((bA (ps.set a none))[a]? =some true->(bA ps)[a]? =some false/\cD l ix a m=0):=by
 refine⟨λi c=>?_,λd=>?_⟩
 ·rw[qQ,DP λe=>c e.symm]
 ·obtain⟨f,b⟩:=Sa.1 d;rw[DM (List.getElem?_eq_some_iff.1 hi).1] at b;cases b
end
def xM:cr Bool where
 w:=1
 enc b:= [J3 b]
 len _:=rfl
 pos:=by decide
 one:=λx v a=>by rw[List.mem_singleton.1 a];rfl
theorem API {T:Q7}{h:aa}{b n:Nat}(e:Own xM T h ⟨some ⟨b,0,none⟩,n,n⟩ (List.replicate n false)):h[b]? =some (J2 (List.replicate n (Value.bool false)).toArray T (0,0)):=by
 rcases e.row with⟨f,-⟩|⟨g,c,i,j,-,-,d,a⟩
 ·cases f
 ·cases i;rw[j];have d:c.size=n*1:=d;have a:c.toList.take (n*1)=_:=a;rw[As (by rw[FG];omega),Zq (v:=J3 false) rfl] at a;rw[<- a]
theorem qV(t:Int): ∃n:Nat,n<5/\(J8 J9 (t.tmod 5+5)).tmod 5=(n:Int):=by have a:=Int.tmod_lt_of_pos t (show(0:Int)<5 by decide);have b:=Int.lt_tmod_of_pos t (show(0:Int)<5 by decide);rw[wrap_i64 (by omega) (by omega)];have c:=Int.tmod_lt_of_pos (t.tmod 5+5) (show(0:Int)<5 by decide);have d:=Int.tmod_nonneg 5 (show 0<=t.tmod 5+5 by omega);exact⟨((t.tmod 5+5).tmod 5).toNat,by omega,by omega⟩
theorem xN {a:Option Nat}:decide (eg a>=(0:Int))=a.isSome:=by
 cases a with
 |none=>rfl
 |some i=>exact decide_eq_true (by show(i:Int)>=0;omega)
theorem AUc {c b:Option Nat}:(eg c != eg b)=decide (c≠b):=by
 cases c with
 |none=>
  cases b with
  |none=>rfl
  |some a=>
   have:eg none≠eg (some a):=by show(-1:Int)≠(a:Int);omega
   simp[this]
 |some i=>
  cases b with
  |none=>
   have:eg (some i)≠eg none:=by show(i:Int)≠(-1:Int);omega
   simp[this]
  |some a=>
   by_cases d:i=a
   ·subst d;simp
   ·have:eg (some i)≠eg (some a):=by show(i:Int)≠(a:Int);omega
    simp[this,d]
section
variable {A : ao} {g h : aa} {w ub n : Nat} {x : fP} {ps ps' : List (Option Nat)} {R : A30} {O : Nat -> Prop} {k : Nat} {l l2 : List Hs} {mp : List Pr} {ix : Nat -> Nat} {Ls L2 : dL}
theorem ARk {t d:Sl}{c:Nat->Nat}(C:WW g h w x ps' k l2 mp O ix L2)(aG:x.sh=n)(W:gT (bA ps') ix l2 L2 n)(v1:View GI h t ((List.range n).map λm=>eg (Fx (bA ps) m)))(v2:View GI h d ((List.range n).map λm=>eg (Fx (bA ps') m)))
  (X:c 0=0) (Y: ∀m,m<n->c (m+1)=c m+if(∃ i,Fx (bA ps') m=some i/\Fx (bA ps) m≠some i) then 1 else 0) (aH:n<=16) (Z: ∀m,c m<=m) {ab:aa->Prop} {K:Int×Int×Unit->aa->Prop} (ac:K (((c n:Nat):Int),(n:Int),()) h):
  Loop (λD (b:Int×Int×Unit) o=>
   ae (decide (b.2.1<((d.len:Nat):Int))) (
    ah (λ(af:Int×Unit) u=>
      ah (λ(ag:Bool×Unit) J=>ae ag.1 (ab J) (D (af.1,(J8 J9 (b.2.1+(1:Int))),()) J)) λE=>
       aS d.p d.len b.2.1 λai=>AC J9 u (ai.add (b.2.1.toNat*1)) λaj=>
       ae (decide (aj>=(0:Int))) (
        aS d.p d.len b.2.1 λak=>AC J9 u (ak.add (b.2.1.toNat*1)) λal=>
        AA A P Gu #[Ar w,J6 J9 al,J6 J9 b.2.1] u λam an=> ∃L:Int,am=J6 J9 L/\(E ((L==(0:Int)),()) an)) (
        E (false,()) u)) λy=>
     ah (λ(ao:Bool×Unit) M=>ae ao.1 (y ((J8 J9 (b.1+(1:Int))),()) M) (y (b.1,()) M)) λF=>
      aS d.p d.len b.2.1 λap=>AC J9 o (ap.add (b.2.1.toNat*1)) λaq=>
      ae (decide (aq>=(0:Int))) (
       aS d.p d.len b.2.1 λar=>AC J9 o (ar.add (b.2.1.toNat*1)) λau=>
       aS t.p t.len b.2.1 λav=>AC J9 o (av.add (b.2.1.toNat*1)) λaw=>
       F ((au != aw),()) o) (
       F (false,()) o)) (
    K b o)) (0,0,()) h:=by
 have aI:t.len=n:=by rw[v1.len,AF,Ix]
 have aJ:d.len=n:=by rw[v2.len,AF,Ix]
 have ld: ∀ {s:Sl} {f:Nat->Int} {m:Nat} {G:Int->Prop},View GI h s ((List.range n).map f)->m<n->G (f m)->aS s.p s.len (m:Int) λa=>AC J9 h (a.add (((m:Nat):Int).toNat*1)) G:=λ{s f m G} v N ax=>by
  refine v.idx (i:=m) (x:=f m) (by rw[AN,List.getElem?_range N];rfl) λa _ c=>?_
  refine AC.mk (n:=f m) ?_ ax;have:=c 0 _ rfl;rwa [add_zero] at this
 refine Loop.rule (λQ z ay=> ∃m:Nat,z=(((c m:Nat):Int),(m:Int),())/\Q=n-m/\m<=n/\ay=h) ?_ ⟨0,by rw[X];rfl,rfl,A6 _,rfl⟩;rintro D Q _ S ⟨m,rfl,rfl,N,rfl⟩ az;dsimp only;refine ae.intro (λH=>?_) (λH=>?_);rotate_left
 ·have:m=n:=by have:=of_decide_eq_false H;omega
  subst this;exact ac
 have e:m<n:=by have:=of_decide_eq_true H;omega
 have aK:=Z m;have q:=Y m e;refine ah.mk λy aA=>ah.mk λF I=>?_
 have nx:D (((c (m+1):Nat):Int),J8 J9 ((m:Int)+1),()) S:=by rw[Ab (by omega)];exact az (n-(m+1)) _ _ (by omega) ⟨m+1,rfl,rfl,e,rfl⟩
 have r:y (((c (m+1):Nat):Int),()) S:=by
  refine aA _ _ (ah.mk λE T=>ld v2 e ?_);rw[xN];cases j:Fx (bA ps') m with
  |none=>exact ae.no rfl (T _ _ (ae.no rfl nx))
  |some i=>
   obtain⟨p,U⟩:=Sa.1 (Gy j).1;obtain⟨z,V,aC,-⟩:=C.tie i p U;have aD:=W.own m e i j;have aE:cD l2 ix i m=z.f m:=by unfold cD;rw[V]
   refine ae.yes rfl (ld v2 e ?_);rw[j];refine AOX C.lw C.wo U V aC ⟨_,rfl,T _ _ (ae.no ?_ nx)⟩;have:z.f m≠0:=by rw[<- aE,<-aD.2.1];omega
   simp;omega
 refine ld v2 e ?_;rw[xN];cases j:Fx (bA ps') m with
 |none=>
  rw[if_neg (by rintro⟨i,B,-⟩;rw[j] at B;cases B),CT] at q;rw[q] at r;exact ae.no rfl (I _ _ (ae.no rfl r))
 |some i=>
  refine ae.yes rfl (ld v2 e (ld v1 e ?_));rw[AUc];by_cases hd:Fx (bA ps') m=Fx (bA ps) m
  ·rw[if_neg (by rintro⟨aL,B,aF⟩;exact aF (hd▸B)),CT] at q;rw[q] at r;rw[decide_eq_false (λh=>h hd)];exact I _ _ (ae.no rfl r)
  ·rw[if_pos ⟨i,j,λh=>hd (j.trans h.symm)⟩] at q;rw[q] at r;rw[decide_eq_true hd];refine I _ _ (ae.yes rfl ?_);rw[Ab (by omega)];exact r
theorem ACO {order:Sl}{ol:List Int}{sh:Int}(E:bL h)(V:View GI h order ol)(az: ∀j,Ext h j->R (J3 true) j):AA A P JM #[J4 order.p order.len order.cap,J6 J9 sh] h R:=by
 refine OL ?_;unfold JI;refine ALp E λu J=>⟨_,rfl,ae.no rfl (ah.mk λK aA=>?_)⟩
 have skip: ∀b,b=true->K (b,()) u:=λb d=>by subst d;exact aA _ _ (ae.yes rfl (az _ J))
 have bu:=V.len;refine ae.intro (λ_=>skip _ rfl) λaC=>ae.intro (λ_=>skip _ rfl) λaD=>?_
 have aC:=of_decide_eq_false aC;have aD:=of_decide_eq_false aD;by_cases bv:30<ol.length
 ·exact skip _ (decide_eq_true (by omega))
 rw[decide_eq_false (by omega)];refine aA _ _ (ae.no rfl ?_);obtain⟨n,rfl⟩: ∃n:Nat,sh=n:=⟨sh.toNat,by omega⟩;have L:=E.ext J;refine xI (n:=5) (sh:=n) L (by decide) (by omega) λaE w b s a f nt Y aZ bw=>⟨_,_,rfl,ae.no rfl ?_⟩
 refine Za (E:=xM) (x0:=false) (v:=J3 false) (z:=J3 false) (T:=Ux) (B:=1) (n:=5) (by kernel_rfl) (by kernel_rfl) rfl rfl rfl (by decide) (by decide) λaF a0 ak bx=>?_
 have a1:=API a0;have a2:=Y.ext;have aG: ∀c,gU w f c->c<aE.size:=λc e=>(Y.out e).1
 generalize bz:aE.size=ub at*
 let H:Nat->Prop:=λc=>gU w f c\/c=ub
 have a3:WW u aF w ⟨b,s,a,f,n,nt,0⟩ (List.replicate 5 none) 0 [] [] H (λ_=>0) (λ_=>(0,⟨#[]⟩)):= {
  lw:=Y.own ak.mod λc e=>e.imp id λd=>(by subst d;exact⟨by omega,by omega⟩)
  wo:=aZ.ext ak
  own:=⟨.inl (.inl rfl),.inl (.inr rfl)⟩
  tie:=λi p hi=>by rw[US] at hi;split at hi<;>cases hi
  ls:=λm _=> .inl ⟨rfl,rfl,rfl⟩
  le:=λm _=>A0 _
  sh:=by show 1<=n/\n<=16;omega
  n:=by rw[PF];decide
  all:=λal am=>by cases am
  em:=I4.empty
  row:=λq _=>rfl}
 refine Loop.rule (λaH al M=> ∃(r k:Nat) (ps:List (Option Nat)) (l:List Hs) (mp:List Pr) (ix:Nat->Nat) (Ls:dL),al=((r:Int),())/\aH=ol.length-r/\r<=ol.length/\k<=16*r/\ps.length=5/\WW u M w ⟨b,s,a,f,n,nt,0⟩ ps k l mp H ix Ls/\gT (bA ps) ix l Ls n/\M[ub]? =some (J2 ((bA ps).map Value.bool).toArray Ux (0,0))/\Mod (λc=>u.size<=c) aF M) ?_
  ⟨0,0,_,_,_,_,_,rfl,rfl,A6 _,A6 _,rfl,a3,⟨λm _ i hi=>(by rw[tO rfl] at hi;cases hi),λm _ _=>rfl⟩,a1,Mod.refl⟩
 rintro bB aH _ M ⟨r,k,ps,l,mp,ix,Ls,rfl,rfl,bC,bD,Z,y,aI,aJ,aK⟩ a4;dsimp only;refine ae.intro (λac=>?_) (λac=>az _ (J.trans y.lw.ext));have aL:r<ol.length:=by have:=of_decide_eq_true ac;omega
 have a5:View GI M order ol:=(((V.ext J).ext a2).ext ak).da aK λa6 c e N=>by
  have:=V.iF a6 e;have:=J.size;have:u.size<=c:=N;omega
 have aM:ol[r]? =some ol[r]:=A2 aL;generalize ol[r]=t at aM;refine a5.idx aM λbE _ a7=>AC.mk (n:=t) (by have:=a7 0 _ rfl;rwa [add_zero] at this) ?_
 obtain⟨m,bF,em⟩:=qV t;rw[em];have bG:(bA ps).length=5:=by rw[AF,Z]
 have aN: ∀ {j:aa} {Q:List (Option Nat)} {F:A30},Ext u j->Q.length=5->j[ub]? =some (J2 ((bA Q).map Value.bool).toArray Ux (0,0))->(∀ an C,Ext j an->View GI an C ((List.range n).map λm=>eg (Fx (bA Q) m))->(∀ b,C.ag=some b->j.size<=b)->F (J4 C.p C.len C.cap) an)->AA A P Ex #[J4 (some ⟨ub,0,none⟩) 5 5,J6 J9 (n:Int)] j F:=λ{j Q F} a8 a9 ao ap=>by
  have ba:(bA Q).length=5:=by rw[AF,a9]
  have:=AOk (A:=A) L a8 ao (by omega) (by omega) ap;rw[ba] at this;exact this
 refine aN y.lw.ext Z aJ λaO S U v1 aq=>⟨S,rfl,?_⟩
 have ar:ub≠w/\ub≠f:=⟨λd=>by have:=aG w (.inl rfl);omega,λd=>by have:=aG f (.inr rfl);omega⟩;have bH:=(y.lw.out (c:=ub) (.inr rfl)).1;have bI:=(y.lw.out (c:=f) (.inl (.inr rfl))).1;have ow:=(y.lw.out (c:=w) (.inl (.inl rfl))).1;have bb:(List.range n).map (λm=>eg (Fx (bA ps) m))≠ []:=λd=>by
  have:=congrArg List.length d;rw[AF,Ix] at this;have:n=0:=this;omega
 have bJ:=U.size;have au:WW u aO w ⟨b,s,a,f,n,nt,0⟩ ps k l mp (λc=>H c\/S.ag=some c) ix Ls:=y.dA U.mod (y.wo.ext U) (λc e=>e.imp id λd=>⟨aq c d,v1.iF bb d⟩) ⟨.inl (.inl (.inl rfl)),.inl (.inl (.inr rfl))⟩;have av:=U.ag aJ λh=>h
 have bc:m<ps.length:=by omega
 have af:ps[m]? =some ps[m]:=A2 bc;generalize ps[m]=ag at af;have bd:(bA ps)[m]? =some ag.isSome:=by rw[AN,af];rfl
 have aw: ∀ {j:aa} {F:Bool->Prop},j[ub]? =some (J2 ((bA ps).map Value.bool).toArray Ux (0,0))->F ag.isSome->aS (some ⟨ub,0,none⟩) 5 (m:Int) λa=>Aa j (a.add (((m:Nat):Int).toNat*1)) F:=λ{j F} ao ap=>by
  refine⟨_,rfl,⟨by omega,by omega⟩,?_⟩;rw[An,AM];exact Aa.mk (AB ao (by rw[Hn,AN,bd];rfl)) ap
 refine ah.mk λbe bf=>?_
 have aP: ∀ {I:aa} {o:Option Nat} {l':List Hs} {dV:Nat->Nat},WW u I w ⟨b,s,a,f,n,nt,0⟩ (ps.set m o) k l' mp (λc=>H c\/S.ag=some c) dV Ls->Mod (· =f) aO I->o.isSome= !ag.isSome->
   (∀ q,(∀ i,i≠m->(bA (ps.set m o))[i]? =(bA ps)[i]?)/\(∀ i,i≠m->(bA ps)[i]? =some true->cD l' dV i q=cD l ix i q)/\((bA (ps.set m o))[m]? =some true->(bA ps)[m]? =some false/\cD l' dV m q=0))->be () I:=λ{I o l' dV} G D bg ax=>by
  have bK:=D.size;have aQ:=D.ag av ar.2;have bh:=(v1.mod D λc e d=>by have:=aq c e;have:c=f:=d;omega);refine bf _ _ (aw aQ ⟨_,rfl,⟨by omega,by omega⟩,?_⟩);rw[An,AM];refine ab.dx aQ (by simp;omega) λaT bi ai bM=>?_
  have aU:aT[ub]? =some (J2 ((bA (ps.set m o)).map Value.bool).toArray Ux (0,0)):=by rw[bi,qQ,Is,bg];simp
  have W:WW u aT w ⟨b,s,a,f,n,nt,0⟩ (ps.set m o) k l' mp (λc=>H c\/S.ag=some c) dV Ls:=G.dA (ai.ak λc _ d=>by subst d;exact .inl (.inr rfl)) (G.wo.mod ai (λd=>ar.1 d.symm) λd=>ar.2 d.symm) (λc e=> .inl e) G.own;have bj:=bh.mod ai λc e d=>by have:=aq c e;have:c=ub:=d;omega
  refine aN W.lw.ext (by rw[G0];exact Z) aU λbk C X v2 bm=>⟨C,rfl,?_⟩
  have bn:(List.range n).map (λbo=>eg (Fx (bA (ps.set m o)) bo))≠ []:=λd=>by
   have:=congrArg List.length d;rw[AF,Ix] at this;have:n=0:=this;omega
  have bp:WW u bk w ⟨b,s,a,f,n,nt,0⟩ (ps.set m o) k l' mp (λc=>(H c\/S.ag=some c)\/C.ag=some c) dV Ls:=W.dA X.mod (W.wo.ext X) (λc e=>e.imp id λd=>⟨bm c d,v2.iF bn d⟩) ⟨.inl W.own.1,.inl W.own.2⟩;have bN:=qR (bA (ps.set m o)) dV l' Ls n;refine qT L bp (by show k+Ku _ _ _ _ n<=490;omega) λbO l2 bP L2 aV bq len aj=>⟨_,_,rfl,ae.no rfl ?_⟩
  have ay:gT (bA (ps.set m o)) dV l2 L2 n:=gT.next aI.nil bq;refine ARk (ps:=ps) (n:=n) (c:=Ku (bA (ps.set m o)) dV l' Ls) aV rfl ay ((bj.ext X).mod aj λc e N=>N.2 (.inl (.inr e))) (v2.mod aj λc e N=>N.2 (.inr e)) rfl (λq ac=>?_) (by omega) (λq=>qR _ _ _ _ q) ?_
  ·rw[MJ];have aW:=ANu (n:=m) (dV:=dV) (l':=l') aI ac (ax q).1 (ax q).2.1 (ax q).2.2;by_cases hd: ∃i,Fx (bA (ps.set m o)) q=some i/\Fx (bA ps) q≠some i
   ·rw[if_pos hd,if_pos (aW.2 hd)]
   ·rw[if_neg hd,if_neg λh=>hd (aW.1 h)]
  refine ae.no (by simp) ?_;have rest:=ay.rest n (A0 _);refine qT L aV (by show k+Ku _ _ _ _ n+Ku _ _ _ _ n<=490;rw[rest];omega) λbQ bR bS Y br bs bT aX=>⟨_,_,rfl,ah.mk λbU bt=>ae.no rfl (bt _ _ (ae.no ?_ ?_))⟩
  ·show(((Ku _ _ _ _ n:Nat):Int) != 0)=false;rw[rest];rfl
  ·rw[Ab (by omega)];refine a4 (ol.length-(r+1)) _ _ (by omega) ⟨r+1,_,_,_,_,_,_,rfl,rfl,aL,?_,?_,br.less (λc e=> .inl (.inl e)) ⟨.inl (.inl rfl),.inl (.inr rfl)⟩,gT.next ay.nil bs,aR.aM aX (aR.aM aj (X.ag aU λh=>h) (.inl (.inl (.inr rfl)))) (.inl (.inl (.inr rfl))),?_⟩
   ·show k+Ku _ _ _ _ n+Ku _ _ _ _ n<=16*(r+1);rw[rest];omega
   ·rw[G0];exact Z
   ·have g1:=(y.lw.out (c:=f) (.inl (.inr rfl))).2;have bV:=(y.lw.out (c:=ub) (.inr rfl)).2;exact aK.trans (U.mod.trans ((D.ak λc _ d=>by have:c=f:=d;omega).trans ((ai.ak λc _ d=>by have:c=ub:=d;omega).trans (X.mod.trans ((aj.trans aX).ak λc _ e=>e.1)))))
 cases ag with
 |some p=>
  refine aw av (ae.yes rfl (au.leave af λI G D=>⟨_,rfl,ae.no rfl (aP G D rfl λq=>?_)⟩));have aY:=ASh (l:=l) (ix:=ix) af q;exact⟨aY.1,λi _ _=>rfl,aY.2⟩
 |none=>
  exact aw av (ae.no rfl (au.join L af λI p al G am D=>⟨_,rfl,ae.no rfl (aP G D rfl λq=>au.joined af am q)⟩))
end
open Go Go.ChangeShapes Go.WideShapes Go.ChangeAt Go.RowKit Go.Proofs.YtfiljlifdlfkkaaGreatDoor
end Go.Lf.G
