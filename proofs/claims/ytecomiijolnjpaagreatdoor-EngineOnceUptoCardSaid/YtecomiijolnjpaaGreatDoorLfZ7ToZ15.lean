/-
 Contract: how it is now is told (chapter 9): a note is written, older ones go.
-/
import Derived.Test.YtecomiijolnjpaaGreatDoorLfM11ToZ6
import Derived.Lib.AtoiAllCases
set_option maxRecDepth 100000
set_option linter.unusedVariables false
set_option linter.unusedSimpArgs false
open Go.IntKind renaming i64→J9,wrap→J8
open Go.Value renaming string→J7,int→J6,pointer→J5,slice→J4,bool→J3,tuple→J1
open Go.Obj renaming cells→J2
open Go renaming Value→J0,Addr→Q6,TypeId→Q7,FuncId→Q8,Program→Q1
open Go.Addr renaming add→Q9,mk→Q5
namespace Go.Lf.G
open Go
section
variable {A : ak} {g h : aa} {q : Hp} {k : Nat -> Nat} {st : Db} {m : Bx} {R : A2O}
theorem bL.fP(a:bL g h q k st m)(e:cp g){d:aa}(x:Mod (λc=>q.Sb c\/c=q.lg\/c=q.nt) h d):cp d:=
 e.ext (a.rest (C:=λc=>c=2\/c=3\/c=4) (x.ai λc _ b=>by
  rcases b with b|rfl|rfl
  ·exact .inl (a.kb c b)
  ·exact .inr (.inl a.kl)
  ·exact .inr (.inr a.kn)) (by decide)).ext
def cN(st:Db):Nt:=⟨st.next,st.aU,st.ts.map (·.1)⟩
theorem zn {B:Bg}{T:Nat->List Pr}(I:cp g)(f:bL g h q k st m)(hd:m.down=false)(ac:BD (ff m) B)(u:gH (cN st))(ax: ∀a∈(cN st).names,ff m (aX a)=some (AX (Ja (T a)),bo)/\Gv (T a))(ay:1<=st.aL/\st.aL+2<=99999999)
  (S: ∀a,st.aL<=a->a<=99999999->ff m (aC nn a)=none) (bg:bd m.files+1000000<=8000000000000)
  (ad:m.fuel≠ -1-> ∀n S' o,Cf n q.b S' o->o.down=true->Mod (λc=>q.Sb c\/c=q.nt) h n->(∀ c,S' c->q.Sb c\/h.size<=c)->(∀ G,MJ (ff o) G-> ∃l,BD G l/\lY B st.aL (cN st) T l)->(∀ b,(∀ a,b≠aC nn a)->ff o b=ff m b)->bd o.files<=bd m.files+700000->R (J6 J9 30) n)
  (aM: ∀n S' az o l,bL g n {q with Sb:=S'} az {st with aL:=st.aL+1} o->JO m o->BD (ff o) l->Ak l=cN st->l.T=T->l.L=B.L->l.aR=B.aR->l.aY<=max B.aY (st.aL+1)->(∀ b,(∀ a,b≠aC nn a)->ff o b=ff m b)->
   (∀ a,st.aL+1<=a->a<=99999999->ff o (aC nn a)=none)->bd o.files<=bd m.files+700000->Mod (λc=>q.Sb c\/c=q.nt) h n->Grow k az h.size->R (J6 J9 0) n):AA A P Js #[Az q.d] h R:=by
 have aN: ∀p∈st.ts,p.1<=99999999:=λp aO=>by
  have v:=u.below p.1 (List.mem_map.2 ⟨p,aO,rfl⟩);have r:=u.next;simp only[cN] at v r;omega
 have aP:st.ts.length<=60000:=by have:=u.ct;simpa [cN] using this
 have aQ:=yB u;have aR:(cN st).names.length=st.ts.length:=by simp[cN]
 rw[aR] at aQ;have af:(Dz (cN st)).length<=1048576:=by omega
 refine AC3 ?_;unfold Vn;refine aF (Ab.mk (AB f.cell rfl) ?_);refine AQk f u.next u.aU.2 aP aN λv U=>⟨_,rfl,⟨AB (f.on U).cell rfl,?_⟩⟩
 have J:=f.on U;have bh:=U.size;have aS:(AX (Dz ⟨st.next,st.aU,st.ts.map (·.1)⟩)).size=(Dz (cN st)).length:=by rw[AP];rfl
 refine Wz (J.gO I) J.dL J.box J.rT (λn x=>J.fP I (x.ai λc _ e=> .inl e)) (by decide) (by omega) (by rw[aS];omega) (by omega) λr C K V aT aA=>⟨_,rfl,?_⟩
 rw[show bl (AX (Dz ⟨st.next,st.aU,st.ts.map (·.1)⟩))=Dz (cN st) from EN _] at K V ⊢;have aU:=Uo f.box.aO (aC nn st.aL) (AX (Cb (Dz (cN st))));have bi:=(IK af).2;rw[AP] at aU;have L:Mod (λc=>q.Sb c\/c=q.nt) h r:=(Ext.mod U).trans aT;have s: ∀c,C c->q.Sb c\/h.size<=c:=λc e=>(aA c e).imp id λh=>by omega
 rcases Ra (k:=aC nn st.aL) (d:=AX (Cb (Dz (cN st)))) hd (ra (by decide) (by omega)) with⟨W,ag⟩|⟨ag,M,aD⟩
 ·rw[ag] at K ⊢;refine ae.yes rfl ?_;exact ad (by rw[W];decide) r C _ K rfl L s (λG c=>⟨B,ac.dB c,API⟩) (λb _=>rfl) (by rw[ru];omega)
 rw[ag] at V ⊢;refine ae.no rfl ?_;rw[decide_eq_true rfl,HG] at V;generalize (DY m (aC nn st.aL) (AX (Cb (Dz (cN st))))).2=t at*
 rw[S st.aL (A0 _) (by omega)] at aD;have X: ∀b,ff t b=if b=aC nn st.aL then some (bo,AX (Cb (Dz (cN st)))) else ff m b:=λb=>by
  rw[aD];split<;>simp only[Option.getD_none,RQ]
 have ah: ¬C q.nt:=λe=>by
  rcases aA _ e with h|h
  ·exact f.rT h
  ·exact h.2 rfl
 have aV:r[q.d]? =some (J2 (dY q st false) Et (0,0)):=L.af f.cell (by rintro(h|h);exact f.mB h;exact f.dn h);refine aF (Ab.mk (AB aV rfl) ?_);have aE:ff t (aC nn st.aL)=some (bo,AX (Cb (Dz (cN st)))):=by rw[X,if_pos rfl]
 have aW:cp r:=f.fP I (L.ai λc _ e=>e.imp id .inr);refine WV aW V K ah (by decide) (by omega) (λaY w D ai aj=>⟨_,_,rfl,?_⟩) λaZ w D ai aj=>⟨_,_,rfl,?_⟩
 ·
  have a0:(F9 t (aC nn st.aL)).1≠0:=aY;rcases OI M.up aE with⟨W,E⟩|⟨E,_,_⟩
  ·have a1:Le t (aC nn st.aL) true=(30,Mv t):=E;rw[a1] at D ⊢;refine ae.yes rfl ?_;have z:Mod (λc=>q.Sb c\/c=q.nt) h w:=L.then (aj.ai λc _ e=>(s c e).imp .inl id);exact ad (λak=>by have:=M.calm ak;rw[W] at this;cases this) w C _ D rfl z s (λG c=>AMD ac ⟨ay.1,by omega⟩ u af S ax (F1:=ff (Mv t)) X c) (λb i=>by
    rw[oC,X,if_neg (i _)]) (by rw[ru];omega)
  ·exact absurd E a0
 ·rcases OI M.up aE with⟨W,E⟩|⟨E,al,a2⟩
  ·have aG:(F9 t (aC nn st.aL)).1=0:=aZ;rw[E] at aG;cases aG
  have D:Cf w q.b C (F9 t (aC nn st.aL)).2:=D;have bj:=Xn K.aO (aC nn st.aL);generalize (F9 t (aC nn st.aL)).2=aH at*
  refine ae.no rfl ?_;have N: ∀b,ff aH b=if b=aC nn st.aL then some (AX (Cb (Dz (cN st))),bo) else ff m b:=λb=>by
   rw[a2];by_cases i:b=aC nn st.aL
   ·rw[if_pos i,if_pos i];simp only[RQ]
   ·rw[if_neg i,if_neg i,X,if_neg i]
  obtain⟨aI,aJ⟩:=AM1 ac ⟨ay.1,by omega⟩ u af S ax N;have z:Mod (λc=>q.Sb c\/c=q.nt) h w:=L.then (aj.ai λc _ e=>by
   rcases e with e|rfl
   ·exact(s c e).imp .inl id
   ·exact .inl (.inr rfl))
  have a3:w[q.d]? =some (J2 (dY q st false) Et (0,0)):=z.af f.cell (by rintro(h|h);exact f.mB h;exact f.dn h);refine aF (Ab.mk (AB a3 rfl) ?_);have a4:J8 J9 (((st.aL:Nat):Int)-(1:Int))=(st.aL:Int)-1:=wrap_i64 (by omega) (by omega);rw[a4];have a5:cp w:=f.fP I (z.ai λc _ e=>e.imp id .inr);have a6: ∀n,Mod C w n->cp n:=λn x=>f.fP I ((z.then (x.ai λc _ e=>(s c e).imp .inl id)).ai λc _ e=>e.imp id .inr)
  have aK:ff aH (aC nn st.aL)≠none:=by rw[N,if_pos rfl];simp
  refine zk a5 a6 ai D al.up ah (by decide) (by omega) (λh=>absurd h (by omega)) (λa7 F am H an a8 Y ao a9 Z=>⟨_,rfl,?_⟩) λ_ F am H an ba Y ao a9 Z ap=>⟨_,rfl,?_⟩
  ·have aa:Mod (λc=>q.Sb c\/c=q.nt) h F:=z.then (Y.ai λc _ e=>(s c e).imp .inl id);obtain⟨l,aq,ar,au,av,aw,bb⟩:=zj (G:=ff H) aI aJ aK λb=>by
    rcases Z b with v|⟨v,a,O,y,ab,r⟩
    ·exact .inl v
    ·exact .inr ⟨v,a,by omega,y,r⟩
   refine ad (λak=>a7 (al.calm (M.calm ak))) F am H an a8 aa (λc e=>s c (ao c e)) (λG c=>⟨l,aq.dB c,av,aw,by omega,.inr ⟨ar,au⟩⟩) (λb i=>?_) (by omega);rcases Z b with v|⟨_,a,_,_,_,r⟩
   ·rw[v,N,if_neg (i _)]
   ·exact absurd r (i a)
  ·have aa:Mod (λc=>q.Sb c\/c=q.nt) h F:=z.then (Y.ai λc _ e=>(s c e).imp .inl id);obtain⟨l,aq,ar,au,av,aw,bb⟩:=zj (G:=ff H) aI aJ aK λb=>by
    by_cases i: ∃a:Nat,1<=a/\a<=99999999/\(a:Int)<=(st.aL:Int)-1/\b=aC nn a
    ·obtain⟨a,O,y,ab,rfl⟩:=i;exact .inr ⟨Z a O y ab,a,by omega,y,rfl⟩
    ·exact .inl (ap b λa O y ab Q=>i ⟨a,O,y,ab,Q⟩)
   have bc: ∀b,(∀ a,b≠aC nn a)->ff H b=ff m b:=λb i=>by
    rw[ap b λa _ _ _=>i a,N,if_neg (i _)]
   have be:EI F q.nt q.b nn (st.aL+1) false:=ai.mod Y ah;have bf:=f.boxed (j:=4) (bA:= {st with aL:=st.aL+1}) an (aa.ai λc _ e=>e.imp id λh=> .inr ⟨rfl,h⟩) (λc e=>s c (ao c e)) rfl rfl rfl rfl (.inl ⟨by decide,rfl,rfl⟩) (.inr be);refine aM F am _ H l bf ((M.trans al).trans ba) aq ar au av aw (by omega) bc (λa O y=>?_) (by omega) aa rv;rw[ap (aC nn a) λk _ _ bk Q=>by have:=IZ Q;omega,N,if_neg λQ=>by have:=IZ Q;omega];exact S a (by omega) y
end
end Go.Lf.G
namespace Go.Lf.G.M
open Go Go.Lf Go.Lf.G
theorem AKZ {O:ak}{n:aa}{b:Nat}{T:Q7}{fr:Nat×Nat}{s:Sl}{l:List Pr}(f:n[b]? =some (J2 #[J4 s.p s.len s.cap] T fr))(v:View BR n s l)(ag:l.length<=1099511627776):
  EJ O P (.func (.func Cy) #[] #[J5 (some ⟨b,0,none⟩)]) (λc=>c<n.size/\(c=b\/s.af=some c)) n l:=by
 refine⟨λc o=>o.1,_,_,rfl,λQ=>by kernel_rfl,λe E Q R h ah hd hB S U=>?_⟩;rw[qd];refine IG ?_;unfold ES;have F:=Af f;have V: ∀d,Mod h e d->d[b]? =some (J2 #[J4 s.p s.len s.cap] T fr):=λd m=>by
  have w:=E b ⟨F,.inl rfl⟩;exact m.af (w.trans f) (hd b ⟨F,.inl rfl⟩)
 have W: ∀i x,l[i]? =some x-> ∃a,s.p=some a/\ ∀d,Mod h e d->Cells d (a.add (i*3)) (BR.enc x):=λi x G=>by
  obtain⟨a,q,o⟩:=v.cells i x G;refine⟨a,q,λd m X u r=>?_⟩;have H:=o X u r;have I:=Ur H;rw[aN,aN] at I;have J:a.block<n.size/\(a.block=b\/s.af=some a.block):=⟨I,.inr (by simp[Sl.af,q])⟩;have w:=E _ J;refine m.ag ((OZ ?_).trans H) ?_
  ·rw[aN,aN];exact w
  ·rw[aN,aN];exact hd _ J
 refine AY.mk (AL (V e Mod.refl) rfl) ?_;refine Loop.rule (λm x d=> ∃(i:Nat) (k:Nat->Prop),x=((i:Int),())/\m=l.length-i/\i<=l.length/\Mod h e d/\(∀ b,k b->h b\/e.size<=b)/\R i true k d) ?_ ⟨0,h,rfl,rfl,by omega,Mod.refl,λb f=> .inl f,U⟩;rintro K m _ d ⟨i,k,rfl,rfl,G,t,y,r⟩ Y;refine ae.intro (λj=>?_) (λj=>?_)
 ·have p:i<l.length:=by simp[v.len] at j;omega
  obtain⟨a,q,o⟩:=W i _ (A2 p);have z:=o d t;refine bG.mk q (by rw[v.len];exact p) ?_;refine AJ.mk (z.pair.1) (AJ.mk z.pair.2.1 (Ac.mk z.pair.2.2 ?_));refine al.pair λai Z aj A B am=>?_
  refine AJ.mk (AL A rfl) (AJ.mk (AB A rfl) (Ac.mk (AB A rfl) ?_));have ab:=hB.bg _ _ _ _ _ r (B.ai (S':=λb=>¬k b/\e.size<=b) λ_ _ e=>e.elim);refine EL.mono (S i _ k Z (A2 p) ab) ?_;rintro _ ac ⟨g,C,rfl,ad,af,L⟩;have M: ∀b,C b->h b\/e.size<=b:=λb f=>(ad b f).elim (y b) λan=> .inr (by have:=t.size;have:=B.size;omega)
  have N:Mod h e ac:=(t.trans B.mod).then (af.ai λb _ f=>(y b f));refine⟨g,rfl,?_⟩;refine ae.intro (λj=>?_) (λj=>?_)
  ·refine⟨rfl,i+1,g,C,N,M,L,λD=>?_,by omega⟩;subst D;cases j
  ·have D:g=true:=by simpa using j
   subst D;exact Y _ _ _ (by omega) ⟨i+1,C,by rw[AZ (by omega)],rfl,by omega,N,M,L⟩
 ·have p:i=l.length:=by simp[v.len] at j;omega
  exact⟨rfl,i,true,k,t,y,r,λ_=>p,by omega⟩
theorem rV {d:ak}{a:aa}{s:Sl}{l:List Pr}{e:A2O}(v:View BR a s l)(g:l.length<=1099511627776)
  (h: ∀fv b,EJ d P fv (λc=>c<b.size/\(c=a.size\/s.af=some c)) b l->Ext a b->b.size=a.size+1->e fv b):AA d P CS #[J4 s.p s.len s.cap] a e:=by
 refine Ip ?_;unfold Ej;refine al.mk λi _ j f k=>?_
 exact h _ i (AKZ j (v.ext f) g) f k
theorem oP {aq:ak}{t:aa}{fv:J0}{S:Nat->Prop}{l:List Pr}{e:A2P}{n:Int}{ar:A2O}(A:(fv= .nilFunc/\l= [])\/EJ aq P fv S t l)(bi:l.length<=1099511627776)
  (W: ∀G o,Own BR AU o G (Pd e n l)->(∀ c,G.af=some c->t.size<=c)->Ext t o->ar (J4 G.p G.len G.cap) o):AA aq P LG #[fv,J7 e,J6 J9 n] t ar:=by
 refine AEK ?_;unfold YD;refine al.mk λau _ aX aY aZ=>al.mk λq _ a0 av bj=>al.mk λd _ a1 X bk=>?_
 have Y:Ext t d:=(aY.trans av).trans X;have a2:d[t.size]? =some (J2 #[J7 e] Ar (0,0)):=X.af (av.af aX (by simp)) (by simp);have aw:d[au.size]? =some (J2 #[J6 J9 n] BN (0,0)):=X.af a0 (by simp);refine ah.mk λK ax=>?_
 have ay:Pd e n l= []->K (true,()) d:=λf=>ax _ _ (ae.yes rfl (W ⟨none,0,0⟩ d (f▸Own.nil) (λc j=>by simp[Sl.af] at j) Y))
 rcases A with⟨rfl,rfl⟩|A
 ·exact⟨trivial,ae.yes rfl (ay (by simp[Pd]))⟩
 refine⟨A.one.2.1,ae.no A.one.2.2 ?_⟩;refine AC.mk (AL aw rfl) ?_;cases Q:decide (n<=0)
 ·refine ax _ _ (ae.no rfl ?_);have Q:0<n:=by simpa using Q
  have az: ∀o:aa,Mod (λc=>c=q.size) d o->Ext t o:=λo m=>Y.then (m.ai λc _ j=> .inr (by omega))
  have bm:=(A02 (l:=l) (QD e)).length_le;refine XE A (λb a=>Y.get b (A.1 b a) (by simp))
   (λi c Z r=>r[t.size]? =some (J2 #[J7 e] Ar (0,0))/\r[au.size]? =some (J2 #[J6 J9 n] BN (0,0))/\ ∃(s:Sl) (u:List Pr),r[q.size]? =some (J2 #[J4 s.p s.len s.cap] AQ (0,0))/\Own BR AU r s u/\(∀ b,Z b↔(b=q.size\/s.af=some b))/\(∀ b,s.af=some b->b<r.size/\q.size<b)/\match c with
    |none=>u=l.take i/\i<=(l.takeWhile (QD e)).length/\(i:Int)<n
    |some aA=>aA=some 0/\u=Pd e n l)
   (λb=>b=q.size) (λb a f=>by have:=A.1 b a;omega) ?_ ?_ ?_ ?_ ?_ ?_
  ·rintro i c Z r ⟨_,_,s,u,q,v,h,k,_⟩ b a;rcases(h b).1 a with rfl|d
   ·exact Af q
   ·exact(k b d).1
  ·rintro i c Z r o ⟨H,I,s,u,w,v,h,k,a3⟩ m;refine⟨m.af H (λt=>by omega),m.af I (λt=>by omega),s,u,m.af w (λac=>ac.1 ((h _).2 (.inl rfl))),v.mod m (λc j ac=>ac.1 ((h _).2 (.inr j))),h,λb a=>⟨?_,(k b a).2⟩,a3⟩;have:=m.size;have:=(k b a).1;omega
  ·exact⟨a2,aw,⟨none,0,0⟩,[],a1,Own.nil,λb=>by simp[Sl.af],λb a=>by simp[Sl.af] at a,by simp,by omega,by simpa using Q⟩
  ·rintro i x ad r rec bn bo J ⟨H,I,s,u,w,v,h,k,rfl,R,a4⟩ aC aZ a5 a6 a7 aD;have bp:=(List.getElem?_eq_some_iff.1 J).1;have aE:=Uf (p:=QD e) (l:=l) R;refine al.pair λbq aF br a8 C bs=>?_
   refine⟨rec,C.af a5 (by simp),a6,?_⟩;generalize aG:aF.setIfInBounds (d.size+1) (.loop {rec with state:= .busy})=D;have B:Mod (λb=>b=d.size+1) aF D:=aG▸Mod.setObj rfl;have aH:D[d.size+1]? =some (.loop {rec with state:= .busy}):=by rw[<- aG];exact CQ (by omega)
   have T:=B.af a8 (by omega);have U:=B.af (C.af H (by simp)) (by omega);have aI:=B.af (C.af I (by simp)) (by omega);have aJ:Mod (λb=>b=d.size+1) r D:=(Ext.mod C).trans B;have af:=B.af (C.af w (by simp)) (by omega);have bt:=Af w;have aK:=(v.ext C).mod B (λc j f=>aC ((h _).2 (.inr (f▸j))));have bu:=B.size;have aL:(l.take i).length=i:=by simp;omega
   refine ah.mk λag aM=>?_
   have a9:QD e x=false->ag (true,()) D:=λL=>aM _ _ (ae.yes rfl (aD _ _ (by
    refine⟨ad,λb a=> .inl a,aJ.ai λb _ a=> .inr a,aH,U,aI,s,l.take i,af,aK,h,λb a=>⟨?_,(k b a).2⟩,rfl,?_⟩
    ·have:=(k b a).1;omega
    ·have:=aE.2.1 _ J L;have H:(l.takeWhile (QD e)).take i=l.takeWhile (QD e):=AE (by omega);have I:(l.takeWhile (QD e)).take n.toNat=l.takeWhile (QD e):=AE (by omega);unfold Pd;rw[I,<-ni R,H])))
   have aN:QD e x=true->ag (false,()) D:=λL=>aM _ _ (ae.no rfl (by
    have bv:=aE.1 _ J L;refine AY.mk (AL af rfl) (AJ.mk (AL T rfl) (AJ.mk (AB T rfl) (Ac.mk (AB T rfl) ?_)));refine al.aZ (E:=BR) (x:=x) rfl Hz aK (by rw[aL];omega) (by rw[aL];simp[maxLen];omega) λy ba aO F ai _=>?_
    have bb:s.af≠some q.size:=λf=>by have:=k _ f;omega
    refine ab.mk (F.af af bb) (by simp) λaj bc M bw=>?_
    have bx:=F.size;have am:aj[q.size]? =some (J2 #[J4 y.p y.len y.cap] AQ (0,0)):=by simpa using bc
    have V:=aO.mod M (λc j f=>by
     rcases ai c j with d|d
     ·have:=k _ d;omega
     ·omega)
    have aP:=M.af (F.af U (λf=>by have:=k _ f;omega)) (by omega);have an:=M.af (F.af aI (λf=>by have:=k _ f;omega)) (by omega);have bd:l.take i++ [x]=l.take (i+1):=by rw[AD,J];rfl
    rw[bd] at V;have aR: ∀b,(b=q.size\/y.af=some b)->ad b\/r.size<=b:=by
     rintro b (rfl|a)
     ·exact .inl ((h _).2 (.inl rfl))
     ·rcases ai b a with d|d
      ·exact .inl ((h _).2 (.inr d))
      ·exact .inr (by omega)
    have aS:Mod (λb=>ad b\/b=d.size+1) r aj:=
     ((aJ.ai λb _ a=> .inr a).trans (F.ai λb _ a=> .inl ((h _).2 (.inr a)))).trans (M.ai λb _ a=> .inl ((h _).2 (.inl a)))
    have aT:=M.af (F.af aH (λf=>aC ((h _).2 (.inr f)))) (by omega);have aU: ∀b,y.af=some b->b<aj.size/\q.size<b:=by
     intro b a;have bz:b<ba.size:=by
      rcases aO.row with⟨rfl,_⟩|⟨g,bA,L,be,_⟩
      ·simp[Sl.af] at a
      ·simp[Sl.af,L] at a;subst a;exact Af be
     refine⟨by omega,?_⟩;rcases ai b a with d|d
     ·exact(k _ d).2
     ·omega
    refine AY.mk (AL am rfl) (AC.mk (AL an rfl) ?_);have aV:y.len=i+1:=by rw[V.len];simp;omega
    refine ae.intro (λz=>aD _ _ ?_) (λz=>a7 _ ?_)
    ·refine⟨_,aR,aS,aT,aP,an,y,_,am,V,λ_=>DB,aU,rfl,?_⟩;have z:((i+1:Nat):Int)=n:=by rw[aV] at z;simpa using z
     unfold Pd;rw[<- z,As,ni (by omega)]
    ·refine⟨_,aR,aS,aT,aP,an,y,_,am,V,λ_=>DB,aU,rfl,by omega,?_⟩;have z:((i+1:Nat):Int)≠n:=by rw[aV] at z;simpa using z
     omega))
   refine AJ.mk (AL U rfl) ?_;rw[CP];refine ae.intro (λN=>?_) (λN=>?_)
   ·refine AJ.mk (AL T rfl) (AJ.mk (AL U rfl) ?_);show ag (!aQ x.key e,()) D;cases aW:aQ x.key e
    ·exact a9 (by simp at N;simp[QD,N,aW])
    ·exact aN (by simp[QD,aW])
   ·exact aN (by simp at N;simp[QD,N])
  ·rintro bf o ⟨_,_,s,u,w,v,h,k,rfl,R,a4⟩ O ao bg ap;have bh:=O.size;refine AY.mk (AL w rfl) ⟨ap,?_⟩;have:Pd e n l=l.take l.length:=by unfold Pd;rw[AE (by omega),<-ni R,AE (by omega)]
   rw[<- this] at v;refine W s _ (v.mod (Mod.setObj (S:=λc=>c=d.size) rfl) λc j f=>ao ((h _).2 (.inr (f▸j)))) (λc j=>by have:=k _ j;omega) ?_;exact(az o O).then (Mod.setObj (.inr (by omega)))
  ·rintro i aA bf o ⟨_,_,s,u,w,v,h,k,rfl,rfl⟩ J O ao bg ap;have bh:=O.size;refine AY.mk (AL w rfl) ⟨ap,?_⟩;refine W s _ (v.mod (Mod.setObj (S:=λc=>c=d.size) rfl) λc j f=>ao ((h _).2 (.inr (f▸j)))) (λc j=>by have:=k _ j;omega) ?_;exact(az o O).then (Mod.setObj (.inr (by omega)))
 ·refine ay ?_;have:n.toNat=0:=by simp at Q;omega
  simp[Pd,this]
end Go.Lf.G.M
namespace Go.Lf.G
open Go
open M (Sorted Ag Cs BC Ah Aw Be Am bH BK aV Pd QD)
def jE(f t k:A2P):Bool:= !aQ k f&&(decide (t=⟨#[]⟩)||aQ k t)
def Qm(f t:A2P)(l:List Pr):List Pr:=l.filter λx=>jE f t x.key
def mf(m:List Pr)(f t:A2P)(a:Int):List Pr:=(Qm f t m).take a.toNat
theorem zo {p:Pr->Bool}{a:A2P->Bool}(b: ∀x,p x=a x.key)(k:A2P): ∀l:List Pr,Ag k (l.filter p)=if a k then Ag k l else none
 | []=>by split<;>rfl
 |x::l=>by
  have c:=zo b k l;rw[AW,M.BA];by_cases h:x.key=k
  ·rw[if_pos h];cases d:a k with
   |true=>rw[if_pos (by rw[b,h];exact d),M.BA,if_pos h];rfl
   |false=>
    rw[if_neg (by rw[b,h,d];decide),c,d];rfl
  ·rw[if_neg h];split
   ·rw[M.BA,if_neg h];exact c
   ·exact c
theorem fI(k:A2P): ∀ {l:List Pr},Sorted l->l.drop (aV k l)=l.filter λx=> !aQ x.key k
 | [],_=>by simp
 |x::l,s=>by
  have b:=List.pairwise_cons.1 s;rw[YM,AW];by_cases h:aQ x.key k=true
  ·rw[if_pos h,if_neg (by simp[h]),HM];exact fI k b.2
  ·have c: ∀a∈l,(!aQ a.key k)=true:=λa d=>by
    have e:=b.1 a d;cases f:aQ a.key k with
    |false=>rfl
    |true=>exact absurd (M.DJ e f) h
   rw[if_neg h,if_pos (by simp[h]),Nx,List.filter_eq_self.2 c]
theorem ry(t:A2P): ∀ {l:List Pr},Sorted l->l.takeWhile (QD t)=l.filter (QD t)
 | [],_=>rfl
 |x::l,s=>by
  have c:=List.pairwise_cons.1 s;rw[Mu,AW];by_cases h:QD t x=true
  ·rw[if_pos h,if_pos h,ry t c.2]
  ·rw[if_neg h,if_neg h];refine(List.filter_eq_nil_iff.2 λd e a=>h ?_).symm;have f:=c.1 d e;unfold M.QD at a ⊢;rw[Cp] at a ⊢;rcases a with b|b
   ·exact .inl b
   ·exact .inr (M.DJ f b)
theorem zr {f t:A2P}{l:List Pr}(s:Sorted l)(c:l.length<=1099511627776):Pd t 1099511627776 (l.drop (aV f l))=Qm f t l:=by
 unfold M.Pd;have b:Sorted (l.drop (aV f l)):=s.sublist (List.drop_sublist _ _);rw[ry t b,fI f s,Tr,AE]
 ·unfold Qm;exact It λx _=>by unfold jE M.QD;rw[Bool.and_comm]
 ·have d:=Se (λa=>QD t a&& !aQ a.key f) l;have:(1099511627776:Int).toNat=1099511627776:=rfl;omega
theorem WW {f t:A2P}{l:List Pr}(s:Sorted l):Sorted (Qm f t l):=s.sublist Hc
theorem zt(k f t:A2P)(l:List Pr):Ag k (Qm f t l)=if jE f t k then Ag k l else none:=zo (λ_=>rfl) k l
theorem zu(k f t:A2P): ∀a:List (List Pr),Aw k (a.map (Qm f t))=if jE f t k then Aw k a else none
 | []=>by split<;>rfl
 |l::a=>by
  rw[C2,M.EF,M.EF,zu k f t a,zt];split<;>rfl
theorem zw {f t:A2P}{c:List (List Pr)}(d:bH c):bH (c.map (Qm f t)):=⟨λl a=>by
  obtain⟨x,b,rfl⟩:=List.mem_map.1 a;exact WW (d.sorted x b),λl a=>by
  obtain⟨x,b,rfl⟩:=List.mem_map.1 a;exact λe i=>d.aO x b e (List.mem_filter.1 i).1⟩
theorem zx {f t:A2P}{a:List (List Pr)}(b:bH a):Ah (a.map (Qm f t))=Qm f t (Ah a):=
 (M.Du _).ext (WW (M.Du _)) λk=>by rw[M.JL k (zw b),zu,zt,M.JL k b]
theorem AQQ {f t:A2P}{a:List (List Pr)}(c:bH a)(b:Int):Pd t b (BK (Ah (a.map (Qm f t))))=mf (BK (Ah a)) f t b:=by
 rw[zx c];have d:BK (Qm f t (Ah a))=Qm f t (BK (Ah a)):=by unfold M.BK Qm;rw[Tr,Tr];exact It λx _=>Bool.and_comm ..
 rw[d];unfold M.Pd mf;have h: ∀x∈Qm f t (BK (Ah a)),QD t x=true:=λx e=>by
  have:=(List.mem_filter.1 e).2;unfold jE at this;rw[A3] at this;exact this.2
 rw[ry t (WW (Uc (M.Du _))),List.filter_eq_self.2 h]
def Sk(A:ak)(h:aa)(s:Sl)(b:List (List Pr)):Prop:=
 ∃a,Own jw Bb h s a/\a.length=b.length/\ ∀(i:Nat) (v:gR) (l:List Pr),a[i]? =some v->b[i]? =some l->(∃ d,EJ A P v.v d h l/\ ∀c,d c->s.af≠some c)/\l.length<=1099511627776
theorem EJ.at {A:ak}{fv:J0}{b T:Nat->Prop}{h e:aa}{l:List Pr}(d:EJ A P fv b h l)(x:Mod T h e)(f: ∀c,b c-> ¬T c):EJ A P fv b e l:=
 EJ.ai d (λ_ h=>h) (λc a=>by have:=d.1 c a;have:=x.size;omega) λc a=>x.get c (d.1 c a) (f c a)
theorem Sk.ext {A:ak}{h a:aa}{s:Sl}{b:List (List Pr)}(q:Sk A h s b)(x:Ext h a):Sk A a s b:=by obtain⟨c,d,e,f⟩:=q;refine⟨c,d.ext x,e,λi v l j n=>?_⟩;obtain⟨⟨o,p,r⟩,t⟩:=f i v l j n;exact⟨⟨o,EJ.at p x (λ_ _ h=>h),r⟩,t⟩
theorem Sk.nil {A:ak}{h:aa}:Sk A h ⟨none,0,0⟩ []:=⟨[],Own.nil,rfl,λi v l h=>by simp at h⟩
theorem Sk.kK {A:ak}{h:aa}{s:Sl}{b:List (List Pr)}(q:Sk A h s b):M.rU A (λ_=>False) h s b:=by obtain⟨f,d,j,n⟩:=q;refine⟨f,d.view,λc a=>⟨d.lt a,λh=>h⟩,j,λi v l o p=> .inr ?_⟩;obtain⟨⟨t,e,u⟩,r⟩:=n i v l o p;exact⟨e.ai (λc a=>⟨e.1 c a,λh=>h⟩) (λc a=>a.1) (λ_ _=>rfl),r⟩
theorem Sk.one {A:ak}{h a:aa}{fv:J0}{l:List Pr}{e:Nat->Prop}{b:Nat}(d:EJ A P fv e h l)(j:l.length<=1099511627776)(n:a[b]? =some (J2 #[fv] Bb (0,0)))(x:Ext h a)(s:h.size<=b):Sk A a ⟨some ⟨b,0,none⟩,1,1⟩ [l]:=by
 refine⟨[⟨fv,d.one.1⟩],Own.lit (l:= [(⟨fv,d.one.1⟩:gR)]) n rfl (by simp[maxLen]),rfl,λi v t a f=>?_⟩;have o:i=0:=by have:=(List.getElem?_eq_some_iff.1 a).1;simpa using this
 subst o;simp only[Hn,BY] at a f;subst a f;exact⟨⟨e,EJ.at d x (λ_ _ h=>h),λc p r=>by have:=d.1 c p;simp[Sl.af] at r;omega⟩,j⟩
theorem Sk.add {A:ak}{h:aa}{s:Sl}{u:List (List Pr)}{fv:J0}{l:List Pr}{n:Nat->Prop}{K:Sl->aa->Prop}{F:Q7}(q:Sk A h s u)(f:EJ A P fv n h l)(G: ∀c,n c->s.af≠some c)(H:l.length<=1099511627776)(U:u.length<=1000000)
  (I: ∀a e,Sk A e a (u++ [l])->Mod (λb=>s.af=some b) h e->(∀ b,a.af=some b->s.af=some b\/h.size<=b)->K a e):
  al h (J2 #[fv] Bb) λb d=>BB A P (Builtin.append_ #[A8,A8] F #[J4 s.p s.len s.cap,J4 (some ⟨b,0,none⟩) 1 1]) d λv e=> ∃a:Sl,v=J4 a.p a.len a.cap/\K a e:=by
 obtain⟨p,J,z,w⟩:=q;refine al.aZ (E:=jw) (x:=⟨fv,f.one.1⟩) (s:=s) (l:=p) rfl M.zZ J (by omega) (by simp[maxLen];omega) λa e L B C _=>?_
 have D: ∀ {T:Nat->Prop} {y:J0} {o:List Pr},EJ A P y T h o->(∀ c,T c->s.af≠some c)-> ∃n,EJ A P y n e o/\ ∀c,n c->a.af≠some c:=λ{T} y o f r=>⟨T,EJ.at f B (λc t=>r c t),λc t N=>by
  rcases C c N with d|d
  ·exact r c t d
  ·have:=f.1 c t;omega⟩
 refine I a e ⟨p++ [⟨fv,f.one.1⟩],L,by simp[z],λi v o d j=>?_⟩ B C;by_cases O:i<p.length
 ·rw[Fc O] at d;rw[Fc (by omega)] at j;obtain⟨⟨T,Q,r⟩,S⟩:=w i v o d j;exact⟨D Q r,S⟩
 ·have w:i=p.length:=by have:=(List.getElem?_eq_some_iff.1 d).1;simp at this;omega
  subst w;rw[DE (A0 _)] at d;rw[DE (by omega)] at j;simp at d;rw[z] at j;simp at j;subst d j;exact⟨D f G,H⟩
section
variable {A : ak} {g h : aa} {q : Hp} {k : Nat -> Nat} {st : Db} {m : Bx} {R : A2O}
def aG(st:Db):List (List Pr):=st.ts.map (·.2)
def CY(st:Db):List Pr:=Lj st.fr (aG st)
theorem bL.iF(a:bL g h q k st m): ∀p∈st.ts,Gv p.2:=λp c=>by
 obtain⟨i,b,rfl⟩:=DA c;have d:i<q.ps.length:=by rw[a.cY];exact b
 obtain⟨e,f,_,_,_,t⟩:=a.cM i q.ps[i] st.ts[i] (A2 d) (A2 b);exact t
theorem bL.fM(b:bL g h q k st m):bH (st.fr::aG st):=by
 refine⟨λl a=>?_,λl a=>?_⟩<;>rcases List.mem_cons.1 a with rfl|a
 ·exact b.fresh.sorted
 ·obtain⟨p,c,rfl⟩:=List.mem_map.1 a;exact(b.iF p c).aO.1
 ·exact b.fresh.aO
 ·obtain⟨p,c,rfl⟩:=List.mem_map.1 a;exact(b.iF p c).aO.2
theorem rz(f t:A2P)(l:List Pr):(Qm f t l).length<=l.length:=Se ..
theorem ASD {f t:A2P}(d:bL g h q k st m)(aq:st.fr.length<=1000000)(ar:st.ts.length<=100000)
  (S: ∀fv e,EJ A P fv (λc=>c<e.size) e (Ah ((st.fr::aG st).map (Qm f t)))->Ext h e->R fv e):AA A P Rx #[Az q.d,J7 f,J7 t] h R:=by
 refine AEc ?_;unfold Xc;refine aF (Ab.mk (AB d.cell rfl) ?_);refine M.rP d.fresh λfv j T y au=>⟨_,rfl,?_⟩
 refine M.oP (.inr T) (by rw[DH];omega) λsl av z aw B=>⟨_,rfl,?_⟩
 rw[zr d.fresh.sorted (by omega)] at z;have ax:=rz f t st.fr;refine M.rV z.view (by omega) λay U C D az=>⟨_,rfl,Yl.mk C.one.1 (al.mk λaA _ V E aC=>?_)⟩
 have W:=Sk.one C (by omega) V E (A0 _);have F:=((y.trans B).trans D).trans E;have X:=d.on F;refine aF (AY.mk (s:=q.tp) (AB X.cell rfl) ?_);have aD:=d.cY;have Y:=d.cn.len;refine Loop.rule (λG x p=> ∃(i:Nat) (sl:Sl),x=(sl,(i:Int),())/\G=q.ps.length-i/\i<=q.ps.length/\Ext h p/\(∀ c,sl.af=some c->h.size<=c)/\Sk A p sl ((st.fr::(aG st).take i).map (Qm f t))) ?_ ⟨0,⟨some ⟨U.size,0,none⟩,1,1⟩,rfl,rfl,by omega,F,λc b=>by
  simp[Sl.af] at b;have:=((y.trans B).trans D).size;omega,by simpa using W⟩
 rintro K G _ p ⟨i,sl,rfl,rfl,aE,l,H,n⟩ Z;dsimp only;refine ae.intro (λr=>?_) (λr=>?_)
 ·have o:i<q.ps.length:=by rw[<- Y];simpa using r
  have aa:i<st.ts.length:=by omega
  have I:q.ps[i]? =some q.ps[i]:=A2 o;have J:st.ts[i]? =some st.ts[i]:=A2 aa;have ab:(aG st)[i]? =some st.ts[i].2:=by unfold aG;rw[Bk,J];rfl
  have L:=d.on l;refine L.cn.view.idx I λa _ c=>Ab.mk (Cells.pt c) ?_
  obtain⟨aH,aI,ac,ad,aJ,u⟩:=L.cM i _ _ I J;refine yz ac ad u.eE λaK aL af v aM=>⟨_,rfl,?_⟩
  have aN:=u.many;refine M.oP (.inr af) (by rw[DH];omega) λaO aP N ag O=>⟨_,rfl,?_⟩
  rw[zr u.aO.1 (by omega)] at N;have aQ:=rz f t st.ts[i].2;refine M.rV N.view (by omega) λaR aS Q ah aT=>⟨_,rfl,Yl.mk Q.one.1 ?_⟩
  have w:=(v.trans O).trans ah;refine Sk.add (n.ext w) Q (λc b ai=>?_) (by omega) (by simp[aG];omega) λaj e ak am an=>?_
  ·obtain⟨aU,ao,_,_⟩:=n;have aV:=ao.lt ai;rcases b.2 with j|j
   ·have:=(v.trans O).size;omega
   ·have:=ag c j;have:=v.size;omega
  ·rw[AZ (by omega)];refine Z (q.ps.length-(i+1)) _ _ (by omega) ⟨i+1,aj,rfl,rfl,o,?_,λc b=>?_,?_⟩
   ·exact(l.trans w).then (am.ai λc _ b=> .inr (H c b))
   ·rcases an c b with j|j
    ·exact H c j
    ·have:=l.size;have:=w.size;omega
   ·rw[AD,ab];simpa using ak
 ·have o:i=q.ps.length:=by
   have: ¬i<q.tp.len:=by simpa using r
   omega
  subst o;rw[AE (by simp[aG];omega)] at n;refine M.rL n.kK (λc h=>h.elim) (by simp[aG];omega) (zw d.fM) λfv e ap x _=>⟨_,rfl,S fv e (ap.ai (λc b=>b.1) (λc b=>b) (λ_ _=>rfl)) (l.trans x)⟩
theorem Ym(b:bL g h q k st m){K:Bool×Unit->aa->Prop}(c:K (false,()) h):ae ((some (⟨q.d,0,none⟩:Q6)).isNone) (K (true,()) h) (At (some (⟨q.d,0,none⟩:Q6)) λa=>Ac h (a.add 8) λt=>K (t,()) h):=
 ae.no rfl (aF (Ac.mk (AB b.cell rfl) c))
theorem AQa {f t:A2P}{d:Int}(a:bL g h q k st m)(n:st.fr.length<=1000000)(o:st.ts.length<=100000)(E:(Ah (st.fr::aG st)).length<=1099511627776)
  (p: ∀s b,Own BR AU b s (mf (CY st) f t d)->(∀ c,s.af=some c->h.size<=c)->Ext h b->R (J1 #[J4 s.p s.len s.cap,J6 J9 0]) b):AA A P Pi #[Az q.d,J7 f,J7 t,J6 J9 d] h R:=by
 refine ACp ?_;unfold Vf;refine ah.mk λK r=>Ym a (r _ _ (ae.no rfl ?_))
 refine ASD a n o λfv u v e=>⟨_,rfl,?_⟩
 refine M.rM (.inr v) λF w x i G=>⟨_,rfl,?_⟩
 have y:(BK (Ah ((st.fr::aG st).map (Qm f t)))).length<=1099511627776:=by rw[zx a.fM];have u:=rm (Qm f t (Ah (st.fr::aG st)));have w:=rz f t (Ah (st.fr::aG st));omega
 refine M.oP (.inr x) y λj z l B C=>⟨j,rfl,?_⟩
 rw[AQQ a.fM] at l;exact p j z l (λc D=>by have:=B c D;have:=(e.trans i).size;omega) ((e.trans i).trans C)
theorem zy(key:A2P): ∀ {l:List Pr},Sorted l->M.Mo key l=VO key l
 | [],_=>rfl
 |x::l,s=>by
  have a:=List.pairwise_cons.1 s;have b:=zy key a.2;unfold M.Mo VO at b ⊢;rw[YM,M.BA];by_cases h:aQ x.key key=true
  ·rw[if_pos h,if_neg (M.OU h),PC];exact b
  ·rw[if_neg h,Hn];by_cases c:x.key=key
   ·simp[c]
   ·have d:Ag key l=none:=M.EZ λe f i=>h (by
     have:=a.1 e f;rwa [i] at this)
    simp[c,d]
def JV(m:List Pr)(key:A2P):A2P×Bool:=match Ag key m with|some p=>(p.val,true)|none=>(⟨#[]⟩,false)
theorem zA {key:A2P}(d:bL g h q k st m)(an:st.ts.length<=100000)(L:key.size<=1099511627776)
  (v: ∀C,Ext h C->R (J1 #[J7 (JV (CY st) key).1,J3 (JV (CY st) key).2,J6 J9 0]) C):AA A P Nu #[Az q.d,J7 key] h R:=by
 refine AEQ ?_;unfold XH;refine ah.mk λK N=>Ym d (N _ _ (ae.no rfl ?_))
 refine aF (Ab.mk (AB d.cell rfl) ?_);have D: ∀p,(Ag key st.fr).or (Aw key (aG st))=some p->JV (CY st) key=(p.val, !p.gone):=λp f=>by
  have e:Ag key (CY st)=alive (some p):=by unfold CY;rw[Gc key d.fM,f]
  unfold JV;rw[e,I9];cases O:p.gone with
  |false=>rfl
  |true=>
   have Q:Am p=0:=by
    cases j:Ag key st.fr with
    |some x=>
     rw[j] at f;simp only[Option.some_or,BY] at f;subst f;exact d.fresh.aO x (M.OA j).2
    |none=>
     rw[j,LO] at f;unfold M.Aw at f;obtain⟨l,S,T⟩:=A0i f;exact d.fM.aO l (An _ S) p (M.OA T).2
   have U:=(om Q).gone O;show((⟨#[]⟩:A2P),false)=(p.val, !true);rw[Zq U];rfl
 have V:(Ag key st.fr).or (Aw key (aG st))=none->JV (CY st) key=(⟨#[]⟩,false):=λf=>by
  have e:Ag key (CY st)=alive none:=by unfold CY;rw[Gc key d.fM,f]
  unfold JV;rw[e];rfl
 refine M.AP6 d.fresh λao W=>⟨_,_,_,_,rfl,?_⟩
 rw[zy key d.fresh.sorted];refine al.pair λb X _ n Y ap=>?_
 have w:=W.trans Y;cases j:Ag key st.fr with
 |some p=>
  have e:VO key st.fr=(p,true):=by unfold VO;rw[j]
  rw[e] at n ⊢;refine ae.yes rfl (AJ.mk (AB n rfl) (Ac.mk (AB n rfl) ?_));have:=v X w;rw[D p (by rw[j];rfl)] at this;exact this
 |none=>
  have e:VO key st.fr=(M.UL,false):=by unfold VO;rw[j]
  rw[e] at n ⊢;refine ae.no rfl ?_;have Z:=d.on w;refine aF (AY.mk (s:=q.tp) (AB Z.cell rfl) ?_);have aq:=d.cY;have aa:=d.cn.len;refine Loop.rule (λE x y=> ∃i:Nat,x=((i:Int),())/\E=q.ps.length-i/\i<=q.ps.length/\Ext h y/\Aw key ((aG st).take i)=none) ?_ ⟨0,rfl,rfl,by omega,w,rfl⟩;rintro ar E _ y ⟨i,rfl,rfl,au,z,o⟩ ab;dsimp only;refine ae.intro (λB=>?_) (λB=>?_)
  ·have r:i<q.ps.length:=by rw[<- aa];simpa using B
   have ac:i<st.ts.length:=by omega
   have F:q.ps[i]? =some q.ps[i]:=A2 r;have G:st.ts[i]? =some st.ts[i]:=A2 ac;have ad:(aG st)[i]? =some st.ts[i].2:=by unfold aG;rw[Bk,G];rfl
   have H:=d.on z;refine H.cn.view.idx F λa _ c=>Ab.mk (Cells.pt c) ?_
   obtain⟨av,aw,af,ax,ay,ag⟩:=H.cM i _ _ F G;refine AQ7 af ag.eE L λaz ai=>⟨_,_,_,_,rfl,?_⟩
   refine al.pair λaA aj _ t ak aC=>?_
   have I:=(z.trans ai).trans ak;have J:(aG st).take (i+1)=(aG st).take i++ [st.ts[i].2]:=by rw[AD,ad];rfl
   have am:Aw key (aG st)=(Ag key st.ts[i].2).or (Aw key ((aG st).drop (i+1))):=by
    conv=>lhs;rw[<- DG (i+1) (aG st),J]
    rw[M.P6,M.P6,o,M.EF];have:Aw key ([]:List (List Pr))=none:=rfl;rw[this,Option.or_none,LO]
   cases u:Ag key st.ts[i].2 with
   |some p=>
    have e:VO key st.ts[i].2=(p,true):=by unfold VO;rw[u]
    rw[e] at t ⊢;refine ae.yes rfl (AJ.mk (AB t rfl) (Ac.mk (AB t rfl) ?_));have:=v aj I;rw[D p (by rw[j,am,u];rfl)] at this;exact this
   |none=>
    have e:VO key st.ts[i].2=(M.UL,false):=by unfold VO;rw[u]
    rw[e] at t ⊢;refine ae.no rfl ?_;rw[AZ (by omega)];refine ab (q.ps.length-(i+1)) _ _ (by omega) ⟨i+1,rfl,rfl,r,I,?_⟩;rw[J,M.P6,o,M.EF,u];rfl
  ·have r:i=q.ps.length:=by
    have: ¬i<q.tp.len:=by simpa using B
    omega
   subst r;rw[AE (by simp[aG];omega)] at o;have:=v y z;rw[V (by rw[j,o];rfl)] at this;exact this
end
open M (Sorted Ag Cs BC Ah Aw Be Am bH BK)
def rA(a:Nat):Nat:=20000*a+10000000
structure cJ where
 C:Nat
 W0:Nat
 A:Nat
 hC:C<=100000
 hA:A<=60000
 hW:W0+A*rA C<=8000000000000
def cJ.K(a:cJ):Nat:=rA a.C
theorem cJ.wt(b:cJ){a:Nat}(c:a<=b.A):b.W0+a*b.K<=8000000000000:=by
 have d:=b.hW;have f:a*b.K<=b.A*b.K:=AS _ c;have e:b.A*rA b.C=b.A*b.K:=rfl;rw[e] at d;generalize a*b.K=x at*
 generalize b.A*b.K=g at*
 omega
theorem zB: ∀a:List (List UInt8),(∀ r∈a,r.length<=1048576)->(aK a).length<=(a.map List.length).sum+a.length*14
 | [],_=>by simp
 |r::a,b=>by
  have d:=(IK (b r AM)).2;have e:=zB a λx c=>b x (An _ c)
  rw[XC];simp only[A1,C2,GP,A6];omega
theorem zC: ∀a:List (List Pr),((a.map BJ).map List.length).sum=(BJ a.flatten).length
 | []=>rfl
 |b::a=>by
  simp only[C2,GP,List.flatten_cons,zC a];simp[BJ]
theorem ANR {a b s c f p:Nat}(d:b<=s+c*14)(e:s=p+f)(g:p<=a*8276)(h:f<=1048576)(i:c<=a+2):b<=8400*a+1100000:=by omega
theorem zD {l:List Pr}(t:Gv l):(Ja l).length<=8400*l.length+1100000:=by
 have c:=zB (aT l (Mh l)) (NW t.eE);have d:((aT l (Mh l)).map List.length).sum=(BJ l).length+(VU l (Mh l)).length:=by have a:=zC (KZ l);rw[AMh] at a;rw[<- a];simp only[aT,Cd,List.sum_append,C2,Sh,GP,List.sum_nil,Gk]
 have b:(aT l (Mh l)).length<=l.length+2:=by
  have b:(aT l (Mh l)).length=Bh l+1:=by simp[aT,Gt]
  have e:Bh l<=l.length+1:=by unfold Bh;omega
  omega
 exact ANR c d (Ll t.ok) (Xq t.eE) b
def Nn(a:Bg):Nat:=((Ak a).names.map λb=>(a.T b).length).sum+(IJ a).flatten.length
structure Ef (F:bR) (st:Db) (D:Bg):Prop where
 ok:BD F D
 names:(Ak D).names=st.ts.map (·.1)
 cn: ∀p∈st.ts,D.T p.1=p.2
 aU:(Ak D).aU=st.aU
 next:(Ak D).next<=st.next
 below: ∀p∈st.ts,p.1<st.next
 fr:st.fr=Ea D
 gk: ∀n,st.az<=n->n<=99999999->(st.bq=true->n≠st.az)->F (aC nl n)=none
 jg:st.bq=true->F (aC nl st.az)=some (AX (aK ((D.L st.az).map (BM st.az))),bo)
 jf: ∀n,st.aL<=n->n<=99999999->F (aC nn n)=none
 eF:1<=st.aU/\st.aU<=st.az
 aL:1<=st.aL
 clean: ∀n,F (aX n)≠none->n∈st.ts.map (·.1)
structure SV (st:Db) (D:Bg) (aJ c:Nat):Prop where
 az:st.az<=8*aJ+4
 aL:st.aL<=8*aJ+4
 next:st.next<=8*aJ+4
 ct:st.ts.length<=aJ
 bZ:Nn D<=c
 aR:D.aR<=8*aJ+6
 aY:D.aY<=8*aJ+6
structure iW (F:bR) (D:Bg) (aJ c:Nat):Prop where
 aR:D.aR<=8*aJ+8
 aY:D.aY<=8*aJ+8
 next:(Ak D).next<=8*aJ+8
 aU:(Ak D).aU<=8*aJ+8
 ct:(Ak D).names.length<=aJ
 bZ:Nn D<=c
 mC: ∀n,F (aX n)≠none->n<8*aJ+8
def Rec(b:bR)(aJ c:Nat)(d:List Pr):Prop:= ∃a,BD b a/\iW b a aJ c/\cz a=d
def gW(a:bR)(aJ c:Nat)(b:List Pr):Prop:= ∀G,MJ a G->Rec G aJ c b
theorem SV.mono {st:Db}{a:Bg}{aJ b c d:Nat}(l:SV st a aJ c)(e:aJ<=b)(f:c<=d):SV st a b d:=
 ⟨by have:=l.az;omega,by have:=l.aL;omega,by have:=l.next;omega,by have:=l.ct;omega,by have:=l.bZ;omega,by have:=l.aR;omega,by have:=l.aY;omega⟩
theorem iW.mono {a:bR}{b:Bg}{aJ d c e:Nat}(l:iW a b aJ c)(h:aJ<=d)(i:c<=e):iW a b d e:=
 ⟨by have:=l.aR;omega,by have:=l.aY;omega,by have:=l.next;omega,by have:=l.aU;omega,by have:=l.ct;omega,by have:=l.bZ;omega,λf g=>by have:=l.mC f g;omega⟩
theorem Rec.mono {a:bR}{aJ b c d:Nat}{e:List Pr}(f:Rec a aJ c e)(g:aJ<=b)(h:c<=d):Rec a b d e:=by obtain⟨i,j,k,l⟩:=f;exact⟨i,j,k.mono g h,l⟩
theorem gW.mono {a:bR}{aJ b c d:Nat}{e:List Pr}(f:gW a aJ c e)(g:aJ<=b)(h:c<=d):gW a b d e:=λG i=>(f G i).mono g h
theorem MJ.some {a G:bR}(c:MJ a G){x:A2P}(b:G x≠none):a x≠none:=λd=>b (by
 have:=c x;rw[d] at this;exact this)
theorem Ef.ic {b:bR}{st:Db}{a:Bg}(L:Ef b st a):(Ak a).names.length=st.ts.length:=by rw[L.names];simp
theorem Ef.aG {b:bR}{st:Db}{a:Bg}(L:Ef b st a):(Ak a).names.map a.T=G.aG st:=by rw[L.names,B9];exact CT λp c=>L.cn p c
theorem Ef.map {b:bR}{st:Db}{a:Bg}(L:Ef b st a):cz a=CY st:=by unfold cz CY Lj;rw[L.aG,<-L.fr]
theorem Ef.kN {b:bR}{st:Db}{a:Bg}(L:Ef b st a):gH (Ak a):=yC L.ok
theorem Ef.nd {a:bR}{st:Db}{b:Bg}(L:Ef a st b):(st.ts.map (·.1)).Nodup:=by rw[<- L.names];exact L.kN.nd
theorem Ef.jj {d F':bR}{st:Db}{a:Bg}{aJ c:Nat}(L:Ef d st a)(l:SV st a aJ c)(e: ∀b,F' (aX b)≠none->b<8*aJ+8):iW F' a aJ c:=by have:=L.next;have:=l.next;have:=L.eF;have:=l.az;exact⟨by have:=l.aR;omega,by have:=l.aY;omega,by omega,by rw[L.aU];omega,by rw[L.ic];exact l.ct,l.bZ,e⟩
theorem Ef.fj {a:bR}{st:Db}{b:Bg}{aJ c:Nat}(L:Ef a st b)(l:SV st b aJ c){n:Nat}(d:a (aX n)≠none):n<st.next:=by obtain⟨p,e,rfl⟩:=List.mem_map.1 (L.clean n d);exact L.below p e
theorem Ef.iE {a:bR}{st:Db}{b:Bg}{aJ c:Nat}(L:Ef a st b)(l:SV st b aJ c):a (aX st.next)=none:=by
 cases d:a (aX st.next) with
 |none=>rfl
 |some p=>exact absurd (L.fj l (n:=st.next) (by rw[d];simp)) (by omega)
theorem Ef.oL {b:bR}{st:Db}{a:Bg}{aJ c:Nat}(L:Ef b st a)(l:SV st a aJ c):gW b aJ c (CY st):=λG d=>by
 refine⟨a,L.ok.dB d,L.jj l λf e=>?_,L.map⟩;have g:=L.fj l (d.some e);have:=l.next;omega
theorem Ef.jh {e F':bR}{st:Db}{b:Bg}{aJ c:Nat}(L:Ef e st b)(l:SV st b aJ c)(h: ∀x,(∀ a,a∉st.ts.map (·.1)->x≠aX a)->F' x=e x)(i: ∀a,F' (aX a)≠none->a<8*aJ+8):BD F' b/\gW F' aJ c (CY st):=by
 have f:BD F' b:=L.ok.fO λx j=>h x λa d=>j a (by rw[L.names];exact d)
 exact⟨f,λG g=>⟨b,f.dB g,L.jj l λa d=>i a (g.some d),L.map⟩⟩
theorem zE {a b:Bg}{f:Nat}(d:b.L=a.L)(e:b.aR=a.aR)(g:(Ak b).aU=f):IJ b=(List.range a.aR).flatMap λc=>if c<f then [] else a.L c:=by unfold IJ;rw[d,e,g]
theorem zF {a b:Bg}(c:b.L=a.L)(d:b.aR=a.aR)(e:(Ak b).aU=(Ak a).aU):IJ b=IJ a:=by rw[zE c d e];rfl
theorem AMv {c a:Bg}{f:Nat}(d:a.L=c.L)(e:a.aR=c.aR)(g:(Ak a).aU=f)(h: ∀b,f<=b->c.L b= []):IJ a= []:=by
 rw[zE d e g,List.flatMap_eq_nil_iff];intro b _;split
 ·rfl
 ·exact h b (by omega)
theorem zG {a b:Bg}(d:b.L=a.L)(e:b.aR=a.aR)(c:Ak b=Ak a)(f:b.T=a.T):cz b=cz a/\Nn b=Nn a:=by have g:=zF d e (congrArg Nt.aU c);unfold cz Ea Nn;rw[g,c,f];exact⟨rfl,rfl⟩
structure Bn (B:cJ) (g h:aa) (q:Hp) (k:Nat->Nat) (st:Db) (m:Bx) (D:Bg) (aJ c:Nat):Prop where
 mem:bL g h q k st m
 up:m.down=false
 eU:Ef (ff m) st D
 lim:SV st D aJ c
 wt:bd m.files<=B.W0+aJ*B.K
 hc:c<=B.C
theorem Bn.aJ {b:cJ}{g d:aa}{e:Hp}{f:Nat->Nat}{st:Db}{m:Bx}{h:Bg}{aJ i c:Nat}(a:Bn b g d e f st m h aJ c)(j:aJ<=i):Bn b g d e f st m h i c:=
 ⟨a.mem,a.up,a.eU,a.lim.mono j (A0 _),A5 a.wt (Ly (AS _ j) _),a.hc⟩
theorem AOE(l:List (List Pr)):M.total l=(l.map List.length).sum:=rfl
theorem Ef.ct {b:bR}{st:Db}{a:Bg}(L:Ef b st a):Nn a=M.total (G.aG st)+(IJ a).flatten.length:=by unfold Nn;rw[<- L.aG,AOE,B9];rfl
theorem AL5(a:Bg):(Ea a).length<=(IJ a).flatten.length:=by have:=M.Ql (l:=(IJ a).flatten) (t:= []);unfold Ea;simpa using this
theorem Ef.cP {b:bR}{st:Db}{a:Bg}{aJ c:Nat}(L:Ef b st a)(l:SV st a aJ c):st.fr.length+M.total (G.aG st)<=c:=by have d:=L.ct;have e:=AL5 a;have f:=l.bZ;rw[L.fr];omega
theorem Ef.jl {b:bR}{st:Db}{a:Bg}{aJ c:Nat}(L:Ef b st a)(l:SV st a aJ c):(Ah (st.fr::G.aG st)).length<=c:=by have d:=M.TJ (st.fr::G.aG st);rw[M.AJY] at d;have:=L.cP l;omega
theorem Ef.fE {b:bR}{st:Db}{a:Bg}{aJ c:Nat}(L:Ef b st a)(l:SV st a aJ c):(GM (G.aG st)).length<=M.total (G.aG st):=by have d:=M.TJ (G.aG st);have e:=rm (Ah (G.aG st));unfold GM;omega
structure og (B:cJ) (h h':aa) (q:Hp) (k:Nat->Nat) (m m':Bx) (aJ:Nat):Prop where
 fuel:m.fuel≠ -1
 dn:ZM h' q.d
 box: ∃S',Cf h' q.b S' m'/\ ∀c,S' c->k c≠0\/h.size<=c
 down:m'.down=true
 mod:Mod (λc=>k c≠0) h h'
 eZ: ∀y,¬da y->ff m' y=ff m y
 wt:bd m'.files<=B.W0+aJ*B.K
section
variable {A : ak} {B : cJ} {g h : aa} {q : Hp} {k : Nat -> Nat} {st : Db} {m : Bx} {D : Bg} {aJ c : Nat} {R : A2O}
theorem JS {f:aa}{e:Nat->Prop}{i:Bx}(a:bL g h q k st m)(o:Cf f q.b e i)(j:Mod (λc=>q.Sb c\/c=q.lg\/c=q.nt) h f)(l: ∀c,e c->q.Sb c\/h.size<=c)
  (p: ∀d,ZM d q.d->Cf d q.b e i->Mod (λc=>k c≠0) h d->(∀ c,e c->k c≠0\/h.size<=c)->R (J6 J9 30) d):AA A P CU #[Az q.d,J6 J9 30] f R:=by
 have u:=a.gN;have r:f[q.d]? =some (J2 (dY q st false) Et (0,0)):=j.af a.cell (by
  rintro(h|h|h)
  ·exact a.mB h
  ·exact a.dl h
  ·exact a.dn h)
 have nd: ¬e q.d:=λb=>by
  rcases l _ b with h|h
  ·exact a.mB h
  ·omega
 refine ARL r λd s n v=>p d s (o.mod n λc b t=>nd (t▸b)) ((j.ai λc _ b=>?_).trans (n.ai λc _ b=>?_)) λc b=>(l c b).imp (λh=>by rw[a.kb c h];decide) id
 ·rcases b with b|rfl|rfl
  ·rw[a.kb c b];decide
  ·rw[a.kl];decide
  ·rw[a.kn];decide
 ·rw[b,a.kd];decide
theorem ASo(a:Nat):da (aX a):= .inr (.inr ⟨a,rfl⟩)
theorem ASe(a:Nat):da (aC nn a):= .inr (.inl ⟨a,rfl⟩)
theorem AS6(a:Nat):da (aC nl a):= .inl ⟨a,rfl⟩
theorem Qk {a:A2P}(h: ¬da a)(b:Nat):a≠aX b:=λd=>h (d▸ASo b)
theorem kB {a:A2P}(h: ¬da a)(b:Nat):a≠aC nn b:=λd=>h (d▸ASe b)
theorem oh {a:A2P}(h: ¬da a)(b:Nat):a≠aC nl b:=λd=>h (d▸AS6 b)
theorem AO2(d:bL g h q k st m)(L:Ef (ff m) st D)(l:SV st D aJ c)(e:c<=B.C)(a:GM (aG st)≠ []):Gv (GM (aG st)):=by have f:=L.fE l;have i:=L.cP l;have j:=B.hC;exact⟨a,λx b=>om (ox.2 x b),ox.1,by omega⟩
theorem cJ.step(B:cJ){a w' aJ d:Nat}(h:a<=B.W0+aJ*B.K)(e:w'<=a+d)(hd:d<=20000*B.C+10000000):w'<=B.W0+(aJ+1)*B.K:=by
 have b:(aJ+1)*B.K=aJ*B.K+B.K:=Nat.succ_mul _ _;have f:B.K=20000*B.C+10000000:=rfl;rw[b];generalize aJ*B.K=x at*
 omega
theorem yD {t b a c:Nat}(d:t<=8400*c+1100000)(e:b<=a)(f:a<=8000000000000)(i:c<=100000):b+t+1<=8796093022208:=by omega
theorem ARz {a b d x:Nat}(e:b<=a+x)(f:d<=b+700000):d<=a+(x+700000):=by rw[<- GB];exact A5 f (Nat.add_le_add_right e _)
theorem AOR(a:Nat):8400*a+1100001+700000<=20000*a+10000000:=by omega
theorem cJ.step2(B:cJ){a b d aJ:Nat}(h:a<=B.W0+aJ*B.K)(e:b<=a+(8400*B.C+1100001))(f:d<=b+700000):d<=B.W0+(aJ+1)*B.K:=
 B.step h (ARz e f) (AOR B.C)
theorem AJm(bs:cp g)(S:Bn B g h q k st m D aJ c)(hA:aJ+1<=B.A)
  (bt: ∀h' ac,og B h h' q k m ac (aJ+1)->gW (ff ac) (aJ+1) c (CY st)->R (J6 J9 30) h')
  (b3: ∀h' aK b4 bA ac r,aK.d=q.d->aK.b=q.b->Bn B g h' aK b4 bA ac r (aJ+1) c->JO m ac->bA.fr=st.fr->CY bA=CY st->bA.ts.length<=1->(∀ E,¬da E->ff ac E=ff m E)->Mod (λc=>k c≠0) h h'->(∀ c,b4 c≠0->k c≠0\/h.size<=c)->R (J6 J9 0) h'):
  AA A P JX #[Az q.d] h R:=by
 have cR:=S;obtain⟨u,hd,L,l,aM,b⟩:=S;have eA:=B.hA;have cS:=B.hC;have cT:=B.wt (a:=aJ) (by omega);refine Yj ?_;unfold QU;refine ah.mk λK cU=>Ym u (cU _ _ (ae.no rfl ?_))
 refine aF (AY.mk (s:=q.tp) (AB u.cell rfl) ?_);have eB:=u.cY;have cV:=u.cn.len;have eC:=l.ct;refine ae.intro (λI=>?_) (λI=>?_)
 ·have f:st.ts.length<=1:=by have:=of_decide_eq_true I;omega
  exact b3 h q k st m D rfl rfl (cR.aJ (by omega)) (JO.refl hd) rfl rfl f (λ_ _=>rfl) Mod.refl (λc b=> .inl b)
 refine aF (AY.mk (s:=q.tp) (AB u.cell rfl) ?_);refine Loop.rule (λaN x F=> ∃(i:Nat) (sl:Sl),x=(sl,(i:Int),())/\aN=q.ps.length-i/\i<=q.ps.length/\Ext h F/\(∀ c,sl.af=some c->h.size<=c)/\Sk A F sl ((aG st).take i)) ?_ ⟨0,⟨none,0,0⟩,rfl,rfl,by omega,Mod.refl,λc b=>by simp[Sl.af] at b,Sk.nil⟩;rintro eD aN _ F ⟨i,sl,rfl,rfl,a8,aO,bu,a9⟩ b5;dsimp only;refine ae.intro (λI=>?_) (λI=>?_)
 ·have V:i<q.ps.length:=by rw[<- cV];simpa using I
  have cW:i<st.ts.length:=by omega
  have b6:q.ps[i]? =some q.ps[i]:=A2 V;have aP:st.ts[i]? =some st.ts[i]:=A2 cW;have cX:(aG st)[i]? =some st.ts[i].2:=by unfold aG;rw[Bk,aP];rfl
  have b7:=u.on aO;refine b7.cn.view.idx b6 λa _ c=>Ab.mk (Cells.pt c) ?_
  obtain⟨bv,eE,cY,cZ,c0,b8⟩:=b7.cM i _ _ b6 aP;refine yz cY cZ b8.eE λeF bw bx O eG=>⟨_,rfl,Yl.mk bx.one.1 ?_⟩
  rw[M.rK] at bx;have v:=b8.many;refine Sk.add (a9.ext O) bx (λc b e=>?_) (by omega) (by simp[aG];omega) λc1 h' aK ac c2=>?_
  ·obtain⟨eH,c3,_,_⟩:=a9;have ad:=c3.lt e;have eI:=bu c e;rcases b with f|f|f
   ·have:=c0 c f.1 f.2;have:=(u.own c (by rw[this];decide)).2;omega
   ·omega
   ·omega
  ·rw[AZ (by omega)];refine b5 (q.ps.length-(i+1)) _ _ (by omega) ⟨i+1,c1,rfl,rfl,V,?_,λc b=>?_,?_⟩
   ·exact(aO.trans O).then (ac.ai λc _ b=> .inr (bu c b))
   ·rcases c2 c b with f|f
    ·exact bu c f
    ·have:=aO.size;have:=O.size;omega
   ·rw[AD,cX];exact aK
 have V:i=q.ps.length:=by
  have: ¬i<q.tp.len:=by simpa using I
  omega
 subst V;rw[AE (by simp[aG];omega)] at a9;clear b5;have c4:=bH.tail u.fM;refine M.rL a9.kK (λc h=>h.elim) (by simp[aG];omega) c4 λeJ b9 c5 ca _=>⟨_,rfl,?_⟩
 refine M.rM (.inr c5) λeK ba c6 cb _=>⟨_,rfl,?_⟩
 have eL:=L.fE l;have eM:=L.cP l;have c7:(BK (Ah (aG st))).length<=1099511627776:=by have:(BK (Ah (aG st))).length=(GM (aG st)).length:=rfl;omega
 refine M.WJ c6 (λ_ _=>rfl) c7 λbz aQ az c8 c9=>⟨bz,rfl,?_⟩
 have bB:Ext h aQ:=((aO.trans ca).trans cb).trans c9;have az:Own BR AU aQ bz (GM (aG st)):=az;have bb:=u.on bB;have eN:=bB.size;refine aF (AY.mk (s:=q.np) (AB bb.cell rfl) ?_);refine aF (ab.dj bb.cell (by simp) λeO db dc eP=>?_);refine aF (ab.dj db (by simp) λX bC dd eQ=>?_);have bC:X[q.d]? =some (J2 (dY {q with tp:=⟨none,0,0⟩,np:=⟨none,0,0⟩} {st with next:=st.next,aU:=st.aU} false) Et (0,0)):=by simpa using bC
 have aR:Mod (· =q.d) aQ X:=dc.trans dd;have ao:=bb.eT (tp:=⟨none,0,0⟩) (np:=⟨none,0,0⟩) (ps:= []) (ts:= []) (next:=st.next) (aU:=st.aU) (S:=λ_=>False) bC (aR.ai λc _ b=> .inl b) Own.nil Own.nil rfl
  (λc b=>by simp[Sl.af] at b) (λc b=>by simp[Sl.af] at b) (λc h=>h.elim) (λi t p f=>by simp at f)
 have de: ∀c,LJ k aQ.size ⟨none,0,0⟩ ⟨none,0,0⟩ (λ_=>False) c=k c:=λc=>by
  unfold LJ;split
  ·rfl
  ·rename_i f;simp[Sl.af];exact(by simpa using f:k c=0).symm
 have df:LJ k aQ.size ⟨none,0,0⟩ ⟨none,0,0⟩ (λ_=>False)=k:=funext de;rw[df] at ao;have aA:Mod (λc=>k c≠0) h X:=(Ext.mod bB).trans (aR.ai λc _ b=>by rw[b,u.kd];decide);have dg:=bb.names.view;have cc:View IC X q.np (dZ st):=dg.mod aR λc b e=>by have:=u.kx c b;rw[e,u.kd] at this;cases this
 have cd:=L.iE l;have eR:=l.next;have eS:=l.aL;have bc:st.next∉st.ts.map (·.1):=λv=>by
  obtain⟨p,W,e⟩:=List.mem_map.1 v;have:=L.below p W;omega
 refine ah.mk λdh di=>?_
 have ce: ∀(F:aa) (ap:Hp) (be:Nat->Nat) (y:Bx) (z:Nat) (w:List (Nat×List Pr)),bL g F ap be {st with ts:=w,next:=z} y->ap.d=q.d->ap.b=q.b->JO m y->
   (∀ x,x≠aX st.next->ff y x=ff m x)->((w= []/\z=st.next/\GM (aG st)= []/\ff y (aX st.next)=none)\/(w= [(st.next,GM (aG st))]/\z=st.next+1/\ff y (aX st.next)=some (AX (Ja (GM (aG st))),bo)/\Gv (GM (aG st))))->
   bd y.files<=bd m.files+(8400*B.C+1100001)->Mod (λc=>k c≠0) h F->(∀ c,be c≠0->k c≠0\/h.size<=c)->View IC F q.np (dZ st)->(∀ c,q.np.af=some c->be c=7)->dh () F:=by
  intro F ap be y z w aq bf aD bD Y J cf bg aS dj ba;refine di _ _ ?_;have dk: ∀x,(∀ n,x≠aX n)->ff y x=ff m x:=λx N=>Y x (N _)
  have dl:BD (ff y) D:=L.ok.fO λx N=>Y x (N st.next (by rw[L.names];exact bc))
  have dm:gH (cN {st with ts:=w,next:=z}):=by
   have eT:=L.eF;have eU:=l.az;rcases J with⟨rfl,rfl,_,_⟩|⟨rfl,rfl,_,_⟩
   ·exact⟨by show st.next<=_;omega,by show 1<=st.aU/\st.aU<=_;omega,by simp[cN],by simp[cN],by simp[cN]⟩
   ·exact⟨by show st.next+1<=_;omega,by show 1<=st.aU/\st.aU<=_;omega,by simp[cN],by simp[cN],by simp[cN]⟩
  have dn: ∀n∈(cN {st with ts:=w,next:=z}).names,ff y (aX n)=some (AX (Ja ((λ_=>GM (aG st)) n)),bo)/\Gv ((λ_=>GM (aG st)) n):=λn o=>by
   rcases J with⟨rfl,rfl,_,_⟩|⟨rfl,rfl,f,H⟩
   ·simp[cN] at o
   ·have o:n=st.next:=by simpa [cN] using o
    subst o;exact⟨f,H⟩
  have cg: ∀r:Bg,r.L=D.L->r.aR=D.aR->Ak r=cN {st with ts:=w,next:=z}->r.T=(λ_=>GM (aG st))->cz r=CY st/\Nn r<=c/\Ea r=st.fr:=λr bE bF af bh=>by
   have aD:=zF bE bF (by rw[af];exact L.aU.symm);have ch:Ea r=st.fr:=by unfold Ea;rw[aD];exact L.fr.symm
   have eV:=L.ct;have eW:=l.bZ;refine⟨?_,?_,ch⟩
   ·unfold cz;rw[ch,af,bh];rcases J with⟨rfl,rfl,f,_⟩|⟨rfl,rfl,_,_⟩
    ·exact ABi u.fM f
    ·exact Vu u.fM
   ·unfold Nn;rw[aD,af,bh];rcases J with⟨rfl,rfl,f,_⟩|⟨rfl,rfl,_,_⟩
    ·show 0+(IJ D).flatten.length<=c;omega
    ·show((GM (aG st)).length+0)+(IJ D).flatten.length<=c;omega
  have ci: ∀ {ar:bR},(∀ n,ar (aX n)≠none->ff y (aX n)≠none)-> ∀n,ar (aX n)≠none->n<8*(aJ+1)+8:=λbG n o=>by
   by_cases e:n=st.next
   ·omega
   ·have f:=bG n o;rw[Y _ λaT=>e (JP aT)] at f;have:=L.fj l f;omega
  have cj: ∀(r:Bg) (ar:bR),BD ar r->r.L=D.L->r.aR=D.aR->r.aY<=max D.aY (st.aL+1)->Ak r=cN {st with ts:=w,next:=z}->r.T=(λ_=>GM (aG st))->(∀ n,ar (aX n)≠none->ff y (aX n)≠none)->Rec ar (aJ+1) c (CY st):=λr ar f bE bF o af bh bG=>by
   obtain⟨aV,aW,_⟩:=cg r bE bF af bh;have:=l.aR;have:=l.aY;have:=L.eF;have:=l.az;refine⟨r,f,⟨by omega,by omega,?_,?_,?_,aW,ci bG⟩,aV⟩
   ·rw[af];show z<=_;rcases J with⟨_,rfl,_⟩|⟨_,rfl,_⟩<;>omega
   ·rw[af];show st.aU<=_;omega
   ·rw[af];rcases J with⟨rfl,_⟩|⟨rfl,_⟩<;>simp[cN]
  rw[<- bf];have dp:bd y.files+1000000<=8000000000000:=by have f:=B.wt (a:=aJ+1) hA;have H:=B.step (d:=8400*B.C+1100001+1000000) aM (w':=bd y.files+1000000) (by omega) (by omega);omega
  refine zn (T:=λ_=>GM (aG st)) bs aq bD.up dl dm dn ⟨L.aL,by show st.aL+2<=_;omega⟩ (λn aY aZ=>by rw[dk _ λk=>OX n k];exact L.jf n aY aZ) dp
   (λbI a0 bJ ag dq dr bi ds dt Z bK=>⟨_,rfl,ae.yes rfl ?_⟩) λa0 bJ ck ag D3 du bM cl au bN bO bP cm Z dv bK bi cn=>⟨_,rfl,ae.no rfl ?_⟩
  ·refine JS aq dq (bi.ai λc _ b=>b.imp id .inr) ds λco dw dx dy dz=>⟨_,rfl,?_⟩
   have dA:Mod (λc=>k c≠0) h co:=bg.then (dy.ai λc _ b=>aS c b);have bj:bd ag.files<=B.W0+(aJ+1)*B.K:=B.step2 aM cf bK;refine bt co ag ⟨λF=>bI (bD.calm F),by rw[<- bf];exact dw,⟨bJ,by rw[<- aD];exact dx,λc b=>?_⟩,dr,dA,λE Q=>?_,bj⟩ λG a1=>?_
   ·rcases dz c b with f|f
    ·exact aS c f
    ·exact .inr (by have:=bg.size;omega)
   ·rw[Z E λn=>kB Q n,Y E (Qk Q _)]
   ·obtain⟨r,cq,nx⟩:=dt G a1;have cr: ∀n,G (aX n)≠none->ff y (aX n)≠none:=λn o=>by
     have:=a1.some o;rwa [Z _ λj e=>OX j n e.symm] at this
    rcases nx.last with⟨ai,bk⟩|⟨ai,bk⟩
    ·obtain⟨aV,aW⟩:=zG nx.L nx.aR ai bk;have:=l.aR;have:=l.aY;have:=L.eF;have:=l.az;have:=L.next;have dB:=nx.aY;have bQ:({st with ts:=w,next:=z}:Db).aL=st.aL:=rfl;rw[bQ] at dB;exact⟨r,cq,⟨by rw[nx.aR];omega,by omega,by rw[ai];omega,by rw[ai,L.aU];omega,by rw[ai,L.ic];omega,by rw[aW];exact l.bZ,ci cr⟩,by rw[aV];exact L.map⟩
    ·exact cj r G cq nx.L nx.aR nx.aY ai bk cr
  ·
   have bj: ∀ {cs},cs<=bd ag.files->cs<=B.W0+(aJ+1)*B.K:=λdC=>B.step2 aM cf (A5 dC bK)
   have dD:View IC a0 q.np (dZ st):=dj.mod bi λc b e=>by
    have f:=ba c b;rcases e with e|e
    ·rw[aq.kb c e] at f;cases f
    ·rw[e,aq.kn] at f;cases f
   have dE: ∀c,q.np.af=some c->c<F.size:=λc b=>(aq.own c (by rw[ba c b];decide)).2
   have eX:q.np.len=st.ts.length:=by rw[u.names.len];simp
   have dF:Mod (λc=>k c≠0) h a0:=bg.then (bi.ai λc _ b=>by
    rcases b with b|b
    ·exact aS c (by rw[aq.kb c b];decide)
    ·exact aS c (by rw[b,aq.kn];decide))
   have dG: ∀c,ck c≠0->k c≠0\/h.size<=c:=λc b=>by
    by_cases ad:c<F.size
    ·rw[cn c ad] at b;exact aS c b
    ·exact .inr (by have:=bg.size;omega)
   have dH: ∀n,(∃ p∈st.ts,p.1=n)->(ff ag (aX n)).isSome=true/\n≠st.next:=λn o=>by
    obtain⟨p,W,rfl⟩:=o;have ad:=L.below p W;have aj:p.1≠st.next:=by omega
    have f:=(L.ok.cM p.1 (by rw[L.names];exact List.mem_map.2 ⟨p,W,rfl⟩)).1;rw[Z _ λj e=>OX j _ e.symm,Y _ λe=>aj (JP e),f];exact⟨rfl,aj⟩
   have dI:=L.nd;obtain⟨aV,aW,dJ⟩:=cg D3 bO bP au bN;have eY:bM.up=bM.up:=rfl;refine Loop.rule (λaN x N=> ∃(i:Nat) (bm:Nat->Prop) (a2:Nat->Nat) (C:Bx),x=((i:Int),())/\aN=st.ts.length-i/\i<=st.ts.length/\bL g N {ap with Sb:=bm} a2 {st with ts:=w,next:=z,aL:=st.aL+1} C/\JO m C/\bd C.files<=bd ag.files/\
     (∀ x,(∀ n∈(st.ts.map (·.1)).take i,x≠aX n)->ff C x=ff ag x)/\(∀ n∈(st.ts.map (·.1)).take i,ff C (aX n)=none)/\Mod (λc=>k c≠0) h N/\(∀ c,a2 c≠0->k c≠0\/h.size<=c)/\View IC N q.np (dZ st)/\(∀ c,q.np.af=some c->a2 c=7)) ?_
    ⟨0,bJ,ck,ag,rfl,rfl,by omega,du,bD.trans bM,A0 _,λx _=>rfl,by simp,dF,dG,dD,λc b=>by rw[cn c (dE c b)];exact ba c b⟩
   rintro eZ aN _ N ⟨i,bm,a2,C,rfl,rfl,a8,ak,a3,bS,U,bn,a4,a5,ct,bT⟩ dK;dsimp only;refine ae.intro (λI=>?_) (λI=>?_)
   ·have V:i<st.ts.length:=by have:=of_decide_eq_true I;omega
    have aP:st.ts[i]? =some st.ts[i]:=A2 V;have cu:(st.ts.map (·.1))[i]? =some st.ts[i].1:=by rw[Bk,aP];rfl
    have cv:st.ts[i]∈st.ts:=AT V;have e0:=L.below _ cv;refine ct.idx (i:=i) (x:=(st.ts[i].1:Int)) (by rw[dZ,Bk,aP];rfl) λa _ dL=>AC.mk dL.int ?_
    refine aF (Ab.mk (AL ak.cell rfl) ?_);refine QN (ak.gO bs) (by omega) λbw O=>⟨_,rfl,⟨AL (ak.on O).cell rfl,?_⟩⟩
    have bU:=ak.on O;refine Wp bU.box λb9 cw bV bp cx=>⟨_,rfl,?_⟩
    have dM:st.ts[i].1∉(st.ts.map (·.1)).take i:=λv=>by
     obtain⟨j,a6,e⟩:=DA v;have e1:j<i:=by have:=a6;simp at this;omega
     rw[List.getElem_take] at e;have f:=(List.getElem?_eq_some_iff.1 cu);have H:=(LN (h₀:=by simp;omega) (h₁:=f.1) dI).1 (e.trans f.2.symm);omega
    have dN:(ff C (aX st.ts[i].1)).isSome=true:=by rw[U _ λn o e=>dM (by rw[JP e];exact o)];exact(dH _ ⟨_,cv,rfl⟩).1
    have bW:(st.ts.map (·.1)).take (i+1)=(st.ts.map (·.1)).take i++ [st.ts[i].1]:=by rw[AD,cu];rfl
    have dO:Mod (λc=>k c≠0) h b9:=a4.then (((Ext.mod O).trans bp).ai λc _ b=>a5 c (by rw[ak.kb c b];decide));rcases RA (k:=aX st.ts[i].1) a3.up dN with⟨dP,bX⟩|⟨bX,dQ,cy⟩
    ·rw[bX] at bV ⊢;refine ae.yes rfl ?_;refine JS (q:= {ap with Sb:=bm}) bU bV (bp.ai λc _ b=> .inl b) (λc b=> .inl (cx c b)) λcB dR dS dT dU=>⟨_,rfl,?_⟩
     have dV:Mod (λc=>k c≠0) h cB:=(a4.trans (Ext.mod O)).then (dT.ai λc _ b=>a5 c b);have dW: ∀n,ff C (aX n)≠none->ff y (aX n)≠none:=λn o=>by
      by_cases v:n∈(st.ts.map (·.1)).take i
      ·exact absurd (bn n v) o
      ·rw[U _ λj a6 e=>v (by rw[JP e];exact a6),Z _ λj e=>OX j n e.symm] at o;exact o
     have bY:BD (ff C) D3:=cl.fO λx aE=>U x λn o e=>aE n (by
      rw[au];intro v;rcases J with⟨rfl,_⟩|⟨rfl,_⟩
      ·simp[cN] at v
      ·have:n=st.next:=by simpa [cN] using v
       have cC:n∈st.ts.map (·.1):=DM o;rw[this] at cC;exact bc cC) e
     refine bt cB (Mv C) ⟨(λF=>by have:=a3.calm F;rw[dP] at this;cases this),by rw[<- bf];exact dR,⟨cw,by rw[<- aD];exact dS,λc b=>?_⟩,rfl,dV,λE Q=>?_,bj bS⟩ λG a1=>?_
     ·rcases dU c b with f|f
      ·exact a5 c f
      ·exact .inr (by have:=(a4.trans (Ext.mod O)).size;omega)
     ·rw[oC,U E λn _=>Qk Q n,Z E λn=>kB Q n,Y E (Qk Q _)]
     ·exact cj D3 G (bY.dB a1) bO bP cm au bN λn o=>dW n (a1.some o)
    ·rw[bX];refine ae.no rfl ?_;have dX:=bU.boxed (j:=2) (bA:= {st with ts:=w,next:=z,aL:=st.aL+1}) bV (bp.ai λc _ b=> .inl b) (λc b=> .inl (cx c b)) rfl rfl rfl rfl (.inl ⟨by decide,rfl,rfl⟩) (.inl ⟨by decide,rfl⟩);have d0:=ZT (m:=C) (aX st.ts[i].1);rw[AZ (by omega)];refine dK (st.ts.length-(i+1)) _ _ (by omega) ⟨i+1,cw,_,_,rfl,rfl,V,dX,a3.trans dQ,A5 d0 bS,λx aE=>?_,λn o=>?_,dO,λc b=>?_,?_,λc b=>?_⟩
     ·rw[cy,if_neg (aE _ (by rw[bW];simp))];exact U x λn o=>aE n (by rw[bW];exact List.mem_append.2 (.inl o))
     ·rw[cy];split
      ·rfl
      ·rename_i aj;rw[bW] at o;rcases List.mem_append.1 o with o|o
       ·exact bn n o
       ·exact absurd (by rw[List.mem_singleton.1 o]) aj
     ·by_cases ad:c<bw.size
      ·rw[GI ad] at b;exact a5 c b
      ·exact .inr (by have:=(a4.trans (Ext.mod O)).size;omega)
     ·exact(ct.ext O).mod bp λc b e=>by
       have f:=bT c b;rw[ak.kb c e] at f;cases f
     ·have ad:c<bw.size:=by have:=(ak.own c (by rw[bT c b];decide)).2;have:=O.size;omega
      rw[GI ad];exact bT c b
   ·have V:i=st.ts.length:=by have: ¬(i:Int)<((q.np.len:Nat):Int):=of_decide_eq_false I;omega
    subst V;rw[AE (by simp)] at U bn;have d1: ∀n,ff C (aX n)≠none->n=st.next/\ff y (aX n)≠none:=λn o=>by
     by_cases v:n∈st.ts.map (·.1)
     ·exact absurd (bn n v) o
     ·rw[U _ λj a6 e=>v (by rw[JP e];exact a6),Z _ λj e=>OX j n e.symm] at o;refine⟨?_,o⟩;by_cases e:n=st.next
      ·exact e
      ·rw[Y _ λaT=>e (JP aT)] at o;exact absurd (L.clean n o) v
    have cD: ∀n,ff C (aC nl n)=ff m (aC nl n):=λn=>by
     rw[U _ λj _=>Ls n j,Z _ λj=>Vq n j,Y _ (Ls n _)]
    have bY:BD (ff C) D3:=cl.fO λx aE=>U x λn o e=>aE n (by
     rw[au];intro v;rcases J with⟨rfl,_⟩|⟨rfl,_⟩
     ·simp[cN] at v
     ·have:n=st.next:=by simpa [cN] using v
      rw[this] at o;exact bc o) e
    have d2: ∀p∈w,D3.T p.1=p.2:=λp W=>by
     rw[bN];rcases J with⟨rfl,_⟩|⟨rfl,_⟩
     ·cases W
     ·rw[List.mem_singleton.1 W]
    have d3: ∀p∈w,p.1<z:=λp W=>by
     rcases J with⟨rfl,_⟩|⟨rfl,rfl,_⟩
     ·cases W
     ·rw[List.mem_singleton.1 W];exact HK _
    have d4: ∀n,ff C (aX n)≠none->n∈w.map (·.1):=λn o=>by
     obtain⟨e,H⟩:=d1 n o;rcases J with⟨rfl,_,_,a0⟩|⟨rfl,_⟩
     ·rw[e] at H;exact absurd a0 H
     ·simp[e]
    have cE:Ef (ff C) {st with ts:=w,next:=z,aL:=st.aL+1} D3:=
     ⟨bY,by rw[au];rfl,d2,by rw[au];rfl,by rw[au];exact A0 _,d3,dJ.symm,λn aY aZ aj=>by rw[cD];exact L.gk n aY aZ aj,λv=>by rw[cD,bO];exact L.jg v,
      λn aY aZ=>by rw[U _ λj _=>OX n j];exact dv n aY aZ,L.eF,by show 1<=st.aL+1;omega,d4⟩
    have d5:SV {st with ts:=w,next:=z,aL:=st.aL+1} D3 (aJ+1) c:=by
     have:=l.az;have:=l.aR;have:=l.aY;have bQ:({st with ts:=w,next:=z}:Db).aL=st.aL:=rfl;rw[bQ] at cm;refine⟨by show st.az<=_;omega,by show st.aL+1<=_;omega,?_,?_,aW,by rw[bP];omega,by omega⟩
     ·show z<=_;rcases J with⟨_,rfl,_⟩|⟨_,rfl,_⟩<;>omega
     ·show w.length<=_;rcases J with⟨rfl,_⟩|⟨rfl,_⟩<;>simp
    refine b3 N {ap with Sb:=bm} a2 _ C D3 bf aD ⟨ak,a3.up,cE,d5,bj bS,b⟩ a3 rfl ?_ ?_ (λE Q=>?_) a4 a5
    ·rw[<- aV];exact cE.map.symm
    ·show w.length<=1;rcases J with⟨rfl,_⟩|⟨rfl,_⟩<;>simp
    ·rw[U E λn _=>Qk Q n,Z E λn=>kB Q n,Y E (Qk Q _)]
 refine ae.intro (λI=>?_) (λI=>?_)
 ·have aj:GM (aG st)≠ []:=λe=>by
   have f:=of_decide_eq_true I;have H:=az.len;rw[e] at H;simp at H;omega
  have bq:=AO2 (B:=B) u L l b aj;have e2:=zD bq;refine aF (AC.mk (AB ao.cell rfl) ?_);have d6:View BR X bz (GM (aG st)):=az.view.mod aR λc b e=>by have:=c8 c b;have:=u.gN;have:=(aO.trans ca).size;have:=cb.size;omega
  have d7:(Ja (GM (aG st))).length<=8400*B.C+1100000:=by omega
  refine zl (q:= {q with tp:=⟨none,0,0⟩,np:=⟨none,0,0⟩,ps:= []}) (n:=st.next) bs ao hd bq d6 (λc b=>by have:=az.lt b;have:=aR.size;omega) (by omega) cd (by have:=yD d7 aM cT cS;exact this) (λbI av cF aH d8 d9 a7 ea aI eb=>⟨_,_,rfl,ae.yes rfl ?_⟩) λav cF cG aH t bv a8 bZ ec aI eb cH e3 e4 cI a7 cJ=>⟨_,_,rfl,ae.no rfl ?_⟩
  ·refine JS (q:= {q with tp:=⟨none,0,0⟩,np:=⟨none,0,0⟩,ps:= []}) ao d8 (a7.ai λc _ b=> .inl b) ea λaw ed ee ef eg=>⟨_,rfl,?_⟩
   have eh:BD (ff aH) D/\gW (ff aH) (aJ+1) c (CY st):=by
    refine L.jh (l.mono (BT _) (A0 _)) (λx N=>aI x (N _ bc)) λn o=>?_
    by_cases e:n=st.next
    ·omega
    ·rw[aI _ λaT=>e (JP aT)] at o;have:=L.fj l o;omega
   have ei:bd aH.files<=bd m.files+(8400*B.C+1100001):=by omega
   exact bt aw aH ⟨bI,ed,⟨cF,ee,λc b=>(eg c b).imp id λh=>by have:=aA.size;omega⟩,d9,aA.then (ef.ai λc _ b=> .inl b),λE Q=>aI E (Qk Q _),B.step2 aM ei (Is _ _)⟩ eh.2
  ·refine al.mk λaw _ ej ax e5=>?_
   have br:=bZ.on ax;refine aF (AC.mk (AB br.cell rfl) (al.mk λek _ el ay e6=>?_));have cK:=br.on ay;refine aF (ab.dj cK.cell (by simp) λe7 en eo e8=>aF (ab.dj en (by simp) λe9 cL ep fa=>?_));refine aF (AC.mk (AB cL rfl) (aF (ab.dj cL (by simp) λam cM eq fb=>?_)));have er:J8 J9 (((st.next:Nat):Int)+(1:Int))=((st.next+1:Nat):Int):=AZ (by omega);have an:Mod (· =q.d) ek am:=(eo.trans ep).trans eq;have es:am[av.size]? =some (J2 #[Az t] BF (0,0)):=an.af (ay.af ej λh=>h) (by have:=bZ.gN;show ¬_=q.d;have e:(q.d:Nat)<av.size:=this;omega);have et:am[aw.size]? =some (J2 #[J6 J9 (st.next:Int)] BN (0,0)):=an.af el (by have:=br.gN;have e:(q.d:Nat)<aw.size:=this;show ¬_=q.d;omega);have eu:Own fG BF am ⟨some ⟨av.size,0,none⟩,1,1⟩ [t]:=Own.lit (l:= [t]) es rfl (by simp[maxLen]);have on:Own IC BN am ⟨some ⟨aw.size,0,none⟩,1,1⟩ (([(st.next,GM (aG st))]:List (Nat×List Pr)).map λp=>(p.1:Int)):=Own.lit (l:= [((st.next:Nat):Int)]) et rfl (by simp[maxLen]);have fc:=a7.size;have cO: ∀c,av.size<=c->cG c=0:=λc b=>cI c (by have:=cH.fj;omega)
   have ev:=cK.eT (h':=am) (tp:=⟨some ⟨av.size,0,none⟩,1,1⟩) (np:=⟨some ⟨aw.size,0,none⟩,1,1⟩) (ps:= [t]) (ts:= [(st.next,GM (aG st))]) (next:=st.next+1) (aU:=st.aU) (S:=λc=>bv<=c/\c<a8)
    (by rw[er] at cM;simpa [dY] using cM) (an.ai λc _ b=> .inl b) eu on rfl
    (λc b=> .inr (by
     have e:av.size=c:=by simpa [Sl.af] using b
     subst e;have b0:=bZ.ext.size;refine⟨cO _ (A0 _),b0,by simp[Sl.af];omega,by omega⟩))
    (λc b=> .inr (by
     have e:aw.size=c:=by simpa [Sl.af] using b
     subst e;have b0:=br.ext.size;refine⟨cO _ (by omega),b0,by simp[Sl.af];omega,by omega⟩))
    (λc b=>⟨by have:=ao.ext.size;omega,by have:=ax.size;have:=ay.size;have:=an.size;omega⟩)
    (λi t' p f H=>by
     have ew:i=0:=by have:=(List.getElem?_eq_some_iff.1 f).1;simpa using this
     subst ew;simp only[Hn,BY] at f H;subst f H;refine .inr ⟨bv,a8,(cH.ext (ax.trans ay)).mod an (λc b1 cP e=>?_),by have:=ax.size;have:=ay.size;have:=an.size;omega,λc b1 cP=>⟨⟨b1,cP⟩,cI c b1⟩,bq⟩;have:=ao.gN;have bk:(q.d:Nat)<X.size:=this;omega)
   have ex:Mod (λc=>k c≠0) h am:=by
    refine(aA.trans ((a7.ai λc _ b=>?_))).trans ((Ext.mod (ax.trans ay)).trans (an.ai λc _ b=>?_))
    ·rw[u.kb c b];decide
    ·rw[b,u.kd];decide
   have b2: ∀c,q.np.af=some c->c<X.size/\k c=7:=λc b=>⟨by have:=u.names.lt b;have:=aA.size;omega,u.kx c b⟩
   refine ce am _ _ aH (st.next+1) _ ev rfl rfl ec (λx N=>by rw[aI,if_neg N]) (.inr ⟨rfl,rfl,by rw[aI,if_pos rfl],bq⟩) (by omega) ex (λc b=>?_) ?_ λc b=>?_
   ·by_cases ad:c<h.size
    ·left;intro ey;have cQ:c<X.size:=by have:=aA.size;omega
     have ai:cG c=0:=by rw[cJ c cQ];exact ey
     have fd:=cQ;apply b;unfold LJ;rw[if_neg (by simp[ai]),if_neg (by simp[Sl.af];omega),if_neg (by simp[Sl.af];have:=ax.size;omega),if_neg (by omega)]
    ·exact .inr (by omega)
   ·refine((cc.mod a7 λc b e=>?_).ext (ax.trans ay)).mod an λc b e=>?_
    ·have:=(b2 c b).2;rw[u.kb c e] at this;cases this
    ·have:=(b2 c b).2;rw[e,u.kd] at this;cases this
   ·obtain⟨f,H⟩:=b2 c b;unfold LJ;rw[cJ c f,H];rfl
 ·have ez:GM (aG st)= []:=by have f:=of_decide_eq_false I;have H:=az.len;exact CD (by omega)
  refine ce X _ k m st.next [] ao rfl rfl (JO.refl hd) (λx _=>rfl) (.inl ⟨rfl,rfl,ez,cd⟩) (by omega) aA (λc b=> .inl b) cc λc b=>u.kx c b
end
section
variable {A : ak} {B : cJ} {g h : aa} {q : Hp} {k : Nat -> Nat} {st : Db} {m : Bx} {D : Bg} {aJ c : Nat} {R : A2O}
theorem Ef.rN {d:bR}(L:Ef d st D)(l:SV st D aJ c)(hA:aJ<=100000){a:Nat}(e:st.az<a):D.L a= []:=by
 by_cases b:a<=99999999
 ·exact L.ok.ji b (L.gk a (by omega) b λ_=>by omega)
 ·exact L.ok.gl (.inr (by have:=l.aR;omega))
theorem AMO {F:bR}{made:Bool}{m:Bx}{s:Nat}(hd:m.down=false)(e:made=true-> ∃b,ff m (aC nl s)=some (b,bo)):(m.fuel=0/\Le m (aC nl s) made=(30,Mv m))\/((Le m (aC nl s) made).1=0/\JO m (Le m (aC nl s) made).2/\ ∀x,ff (Le m (aC nl s) made).2 x=ff m x):=by
 cases made with
 |false=>exact .inr ⟨rfl,JO.refl hd,λx=>rfl⟩
 |true=>
  obtain⟨b,d⟩:=e rfl;rcases OI hd d with a|⟨a,f,i⟩
  ·exact .inl a
  ·refine .inr ⟨a,f,λx=>?_⟩;show ff (F9 m (aC nl s)).2 x=_;rw[i];split
   ·rename_i j;rw[j,d,YK]
   ·rfl
theorem ANk {m:Bx}(g:FB m)(k:A2P)(a:Bool):bd (Le m k a).2.files<=bd m.files:=by
 cases a with
 |false=>exact A0 _
 |true=>exact Xn g k
theorem AQK {a b x:Nat}(d:b<=a+x):b+1000000<=a+(x+1000000):=by rw[<- GB];exact Nat.add_le_add_right d _
theorem AN3(a:Nat):8400*a+1100001+1000000<=20000*a+10000000:=by omega
theorem APH(aZ:cp g)(S:Bn B g h q k st m D aJ c)(hA:aJ+2<=B.A)
  (bg: ∀h' ao,og B h h' q k m ao (aJ+2)->gW (ff ao) (aJ+2) c (CY st)->R (J6 J9 30) h')
  (ca: ∀h' bh bJ bA ao r,bh.d=q.d->bh.b=q.b->Bn B g h' bh bJ bA ao r (aJ+2) c->JO m ao->bA.fr= []->CY bA=CY st->(bA.ts.length<=3\/bA.ts.length=st.ts.length)->(∀ v,¬da v->ff ao v=ff m v)->Mod (λc=>k c≠0) h h'->(∀ c,bJ c≠0->k c≠0\/h.size<=c)->R (J6 J9 0) h'):
  AA A P OV #[Az q.d] h R:=by
 have dP:=S;obtain⟨V,hd,L,l,a0,b⟩:=S;have fR:=B.hA;have dQ:=B.hC;have dR:=B.wt (a:=aJ) (by omega);have dS:=L.cP l;have fS:=l.next;have fT:=l.aL;have fU:=l.az;have fV:=l.aR;have fW:=l.aY;have fX:=L.eF;have fY:=l.ct;have dT:=L.iE l;have a1:st.next∉st.ts.map (·.1):=λcb=>by
  obtain⟨p,aj,e⟩:=List.mem_map.1 cb;have:=L.below p aj;omega
 refine AA9 ?_;unfold TT;refine ah.mk λK dU=>Ym V (dU _ _ (ae.no rfl ?_))
 refine aF (Ab.mk (AB V.cell rfl) ?_);refine M.rO V.fresh ⟨_,_,rfl,?_⟩;refine ae.intro (λbK=>?_) (λbK=>?_)
 ·have o:st.fr= []:=CD (by have:((st.fr.length:Nat):Int)=0:=(by simpa using bK);omega);exact ca h q k st m D rfl rfl (dP.aJ (by omega)) (JO.refl hd) o rfl (.inr rfl) (λ_ _=>rfl) Mod.refl (λc b=> .inl b)
 have dV:st.fr≠ []:=λe=>by
  rw[e] at bK;cases bK
 have bM:Gv st.fr:=⟨dV,λx E=>om (V.fresh.aO x E),V.fresh.sorted,by omega⟩;have fZ:=zD bM;have dW:(Ja st.fr).length<=8400*B.C+1100000:=by omega
 refine aF (AC.mk (AB V.cell rfl) (aF (Ab.mk (AB V.cell rfl) ?_)));refine M.rP V.fresh λfv w cU cV cW=>⟨_,rfl,⟨AB (V.on cV).cell rfl,?_⟩⟩
 rw[M.rK] at cU;refine M.WJ cU (λ_ _=>rfl) (by omega) λcc Y cX f0 dX=>⟨cc,rfl,?_⟩
 have bN:=cV.trans dX;have bO:=V.on bN;have f1:=bN.size;refine⟨AB bO.cell rfl,?_⟩;refine zl (n:=st.next) aZ bO hd bM cX.view (λc b=>cX.lt b) (by omega) dT (yD dW a0 dR dQ) (λbi ax ay ad d0 d1 bP d2 a2 d3=>⟨_,_,rfl,ae.yes rfl ?_⟩) λax ay bQ ad t aN aO ak cd a2 d3 cY f2 f3 cZ bP bS=>⟨_,_,rfl,ae.no rfl ?_⟩
 ·refine JS bO d0 (bP.ai λc _ b=> .inl b) d2 λd4 d5 d6 d7 d8=>⟨_,rfl,?_⟩
  have ce:=L.jh (F':=ff ad) (l.mono (Is aJ 2) (A0 _)) (λx E=>a2 x (E _ a1)) λn u=>by
   by_cases e:n=st.next
   ·omega
   ·rw[a2 _ λaP=>e (JP aP)] at u;have:=L.fj l u;omega
  have bj:bd ad.files<=bd m.files+(8400*B.C+1100001):=by omega
  have H:=B.step2 a0 bj (Is _ _);exact bg d4 ad ⟨bi,d5,⟨ay,d6,λc b=>(d8 c b).imp id λh=>by omega⟩,d1,(Ext.mod bN).trans d7,λv I=>a2 v (Qk I _),A5 H (Ly (AS _ (BT _)) _)⟩ ce.2
 have f4:=bP.size;have f5:=cY.fj;have c0:Mod (λc=>k c≠0) h ax:=(Ext.mod bN).trans (bP.ai λc _ b=>by rw[V.kb c b];decide);have bk: ∀x,x≠aX st.next->ff ad x=ff m x:=λx E=>by rw[a2,if_neg E]
 have c1:bd ad.files<=bd m.files+(8400*B.C+1100001):=by omega
 have d9: ∀n,ff ad (aC nl n)=ff m (aC nl n):=λn=>bk _ (Ls n _)
 have c2: ∀ {F':bR},(∀ n,F' (aX n)≠none->ff ad (aX n)≠none)-> ∀n,F' (aX n)≠none->n<8*(aJ+1)+8:=λaf n u=>by
  by_cases e:n=st.next
  ·omega
  ·have o:=af n u;rw[bk _ λaP=>e (JP aP)] at o;have:=L.fj l o;omega
 refine aF (Ab.mk (AB ak.cell rfl) ?_);have c3:=AMO (F:=ff m) (made:=st.bq) (s:=st.az) cd.up λcb=>⟨_,by rw[d9];exact L.jg cb⟩
 refine WV (ak.gO aZ) ak.log ak.box ak.kL (by decide) (by omega) (λea J bT c4 a3=>⟨_,_,rfl,?_⟩) λc5 J bT c4 a3=>⟨_,_,rfl,?_⟩
 ·rcases c3 with⟨c6,a4⟩|⟨a4,_,_⟩
  ·rw[a4] at bT ⊢;refine ae.yes rfl ?_;refine JS (q:= {q with Sb:=ay}) ak bT (a3.ai λc _ b=> .inl b) (λc b=> .inl b) λeb ec ed ee ef=>⟨_,rfl,?_⟩
   have ce:=L.jh (F':=ff (Mv ad)) (l.mono (Is aJ 2) (A0 _)) (λx E=>bk x (E _ a1)) λn u=>by
    have:=c2 (F':=ff (Mv ad)) (λn u=>u) n u;omega
   have H:=B.step2 a0 c1 (Is _ _);refine bg eb (Mv ad) ⟨(λz=>by have:=cd.calm z;rw[c6] at this;cases this),ec,⟨ay,ed,λc b=>?_⟩,rfl,c0.then (ee.ai λc _ b=>?_),λv I=>bk v (Qk I _),A5 H (Ly (AS _ (BT _)) _)⟩ ce.2
   ·rcases ef c b with o|o
    ·by_cases Z:c<Y.size
     ·rw[bS c Z] at o;exact .inl o
     ·exact .inr (by omega)
    ·exact .inr (by omega)
   ·by_cases Z:c<Y.size
    ·rw[bS c Z] at b;exact .inl b
    ·exact .inr (by omega)
  ·exact absurd a4 ea
 refine ae.no rfl ?_;rcases c3 with⟨c6,a4⟩|⟨a4,eg,eh⟩
 ·rw[a4] at c5;cases c5
 have ei:=ANk ak.box.aO (aC nl st.az) st.bq;have ag:=ak.boxed (j:=3) (bA:= {st with az:=st.az+1,bq:=false}) bT (a3.ai λc _ b=>b.imp id λh=> .inl ⟨rfl,h⟩) (λc b=> .inl b) rfl rfl rfl rfl (.inr c4) (.inl ⟨by decide,rfl⟩);generalize (Le ad (aC nl st.az) st.bq).2=ac at*
 have f6:=a3.size;have c7: ∀c,c<ax.size->LQ bQ ax.size ay 2 c=bQ c:=λc b=>GI b
 generalize LQ bQ ax.size ay 2=ap at*
 have ej:Mod (λc=>k c≠0) h J:=c0.then (a3.ai λc _ b=>by
  have o:bQ c≠0:=by
   rcases b with b|b
   ·rw[ak.kb c b];decide
   ·rw[b,ak.kl];decide
  by_cases Z:c<Y.size
  ·rw[bS c Z] at o;exact .inl o
  ·exact .inr (by omega))
 have cf: ∀c,ap c≠0->k c≠0\/h.size<=c:=λc b=>by
  by_cases Z:c<Y.size
  ·rw[c7 c (by omega),bS c Z] at b;exact .inl b
  ·exact .inr (by omega)
 have cg: ∀c,J.size<=c->ap c=0:=λc b=>Decidable.byContradiction λh=>by
  have:=(ag.own c h).2;omega
 have ch: ∀c,aN<=c->c<aO->ap c=0:=λc aq aA=>by rw[c7 c (by omega)];exact cZ c aq
 have ci: ∀x,ff ac x=ff ad x:=eh;have a5: ∀x,x≠aX st.next->ff ac x=ff m x:=λx E=>(ci x).trans (bk x E)
 have ek:ff ac (aX st.next)=some (AX (Ja st.fr),bo):=by rw[ci,a2,if_pos rfl]
 have cj:JO m ac:=cd.trans eg;have bj:bd ac.files<=bd m.files+(8400*B.C+1100001):=A5 ei c1;have el:BD (ff ac) D:=L.ok.fO λx E=>a5 x (E st.next (by rw[L.names];exact a1))
 have c8: ∀ {F':bR},(∀ n,F' (aX n)≠none->ff ac (aX n)≠none)-> ∀n,F' (aX n)≠none->n<8*(aJ+1)+8:=λaf n u=>c2 (F':=ff ac) (λn u=>by rw[<- ci];exact u) n (af n u)
 have en: ∀(z:aa) (y:Hp) (ck:Nat->Nat),bL g z y ck {st with ts:=(st.next,st.fr)::st.ts,next:=st.next+1,aU:=st.az+1,az:=st.az+1,bq:=false} ac->y.d=q.d->y.b=q.b->Mod (λc=>k c≠0) h z->(∀ c,ck c≠0->k c≠0\/h.size<=c)->
   AA A P Js #[Az y.d] z λeo c9=> ∃cl:Int,eo=J6 J9 cl/\(
         ae (cl != (0:Int)) (
          AA A P CU #[Az y.d,J6 J9 cl] c9 λep eq=> ∃db:Int,ep=J6 J9 db/\(
          R (J6 J9 db) eq)) (
          AA A P QI #[] c9 λer dc=> ∃dd:Q2,er=J5 dd/\(
          At (some (⟨y.d,0,none⟩:Q6)) λes=>
          ab dc (es.add 3) (J5 dd) λar=>
          At (some (⟨y.d,0,none⟩:Q6)) λet=>
          Ab ar (et.add 1) λeu=>
          AA A P JH #[J5 eu,J6 J9 (st.az:Int)] ar λev av=> ∃cm:Int,ev=J6 J9 cm/\(
          ae (cm != (0:Int)) (
           AA A P CU #[Az y.d,J6 J9 cm] av λew cn=> ∃de:Int,ew=J6 J9 de/\(
           R (J6 J9 de) cn)) (
           At (some (⟨y.d,0,none⟩:Q6)) λex=>
           AY av (ex.add 4) λey=>
           ae (decide (((ey.len:Nat):Int)>=(4:Int))) (
            AA A P JX #[Az y.d] av λez eA=> ∃df:Int,ez=J6 J9 df/\(
            R (J6 J9 df) eA)) (
            R (J6 J9 0) av)))))):=by
  intro z y ck bm bn aD bU a6;have eB:gH (cN {st with ts:=(st.next,st.fr)::st.ts,next:=st.next+1,aU:=st.az+1,az:=st.az+1,bq:=false}):=by
   refine⟨by show st.next+1<=_;omega,by show 1<=st.az+1/\st.az+1<=_;omega,?_,λn u=>?_,?_⟩
   ·show((st.next,st.fr)::st.ts |>.map (·.1)).length<=_;simp;omega
   ·show n<st.next+1;rcases List.mem_cons.1 u with rfl|u
    ·exact HK _
    ·obtain⟨p,aj,rfl⟩:=List.mem_map.1 u;have:=L.below p aj;omega
   ·exact List.nodup_cons.2 ⟨a1,L.nd⟩
  have eC: ∀n∈st.next::st.ts.map (·.1),ff ac (aX n)=some (AX (Ja ((KL D.T st.next st.fr) n)),bo)/\Gv ((KL D.T st.next st.fr) n):=λn u=>by
   by_cases e:n=st.next
   ·subst e;rw[DK];exact⟨ek,bM⟩
   ·rw[Ei e,a5 _ λaP=>e (JP aP)];rcases List.mem_cons.1 u with o|o
    ·exact absurd o e
    ·exact L.ok.cM n (by rw[L.names];exact o)
  have dg: ∀r:Bg,r.T=KL D.T st.next st.fr->(st.next::st.ts.map (·.1)).map r.T=st.fr::aG st:=λr bV=>by
   rw[C2,bV,DK];congr 1;rw[<- L.aG,L.names];refine CT λn u=>Ei λe=>a1 (e▸u)
  have dh: ∀r:Bg,r.L=D.L->r.aR=D.aR->Ak r=cN {st with ts:=(st.next,st.fr)::st.ts,next:=st.next+1,aU:=st.az+1,az:=st.az+1,bq:=false}->r.T=KL D.T st.next st.fr->cz r=CY st/\Nn r<=c/\Ea r= []:=λr eD di a7 bV=>by
   have aD:=AMv (f:=st.az+1) eD di (by rw[a7];rfl) λn u=>L.rN l (by omega) (by omega)
   have dj:Ea r= []:=by unfold Ea;rw[aD];rfl
   have dk:(Ak r).names=st.next::st.ts.map (·.1):=by rw[a7];rfl
   refine⟨?_,?_,dj⟩
   ·unfold cz;rw[dj,dk,dg r bV];exact AHc V.fM
   ·unfold Nn;rw[aD,dk];have C:((st.next::st.ts.map (·.1)).map λn=>(r.T n).length)=((st.next::st.ts.map (·.1)).map r.T).map List.length:=by rw[B9];rfl
    rw[C,dg r bV];have:((st.fr::aG st).map List.length).sum=st.fr.length+M.total (aG st):=by simp[M.total]
    rw[this];simpa using dS
  have dl: ∀(r:Bg) (F':bR),BD F' r->r.aR=D.aR->r.aY<=max D.aY (st.aL+1)->Ak r=cN {st with ts:=(st.next,st.fr)::st.ts,next:=st.next+1,aU:=st.az+1,az:=st.az+1,bq:=false}->cz r=CY st->Nn r<=c->(∀ n,F' (aX n)≠none->ff ac (aX n)≠none)->Rec F' (aJ+1) c (CY st):=λr F' o di u a7 eE eF af=>by
   refine⟨r,o,⟨by omega,by omega,?_,?_,?_,eF,c8 af⟩,eE⟩
   ·rw[a7];show st.next+1<=_;omega
   ·rw[a7];show st.az+1<=_;omega
   ·rw[a7];show((st.next,st.fr)::st.ts |>.map (·.1)).length<=_;simp;omega
  have eG:bd ac.files+1000000<=8000000000000:=by have o:=B.wt (a:=aJ+1) (by omega);have H:bd ac.files+1000000<=B.W0+(aJ+1)*B.K:=B.step (d:=8400*B.C+1100001+1000000) a0 (AQK bj) (AN3 B.C);exact A5 H o
  have dm: ∀ {dn:Nat},dn<=B.W0+(aJ+1)*B.K->dn<=B.W0+(aJ+2)*B.K:=λh=>A5 h (Ly (AS _ (BT _)) _)
  refine zn (T:=KL D.T st.next st.fr) aZ bm cj.up el eB eC ⟨L.aL,by show st.aL+2<=_;omega⟩ (λn W ai=>by rw[a5 _ (OX n _)];exact L.jf n W ai) eG
   (λbi w co am eH eI bW cW eJ a8 cq=>⟨_,rfl,ae.yes rfl ?_⟩) λw co cr am D3 cs dp dq a9 dr eK ct eL a8 eM cq bW eN=>⟨_,rfl,ae.no rfl ?_⟩
  ·refine JS bm eH (bW.ai λc _ b=>b.imp id .inr) cW λY eO eP eQ cc=>⟨_,rfl,?_⟩
   have eR:Mod (λc=>k c≠0) h Y:=bU.then (eQ.ai λc _ b=>a6 c b);refine bg Y am ⟨λz=>bi (cj.calm z),by rw[<- bn];exact eO,⟨co,by rw[<- aD];exact eP,λc b=>?_⟩,eI,eR,λv I=>?_,dm (B.step2 a0 bj cq)⟩ λG bp=>?_
   ·rcases cc c b with o|o
    ·exact a6 c o
    ·exact .inr (by have:=bU.size;omega)
   ·rw[a8 v λn=>kB I n,a5 v (Qk I _)]
   ·obtain⟨r,ds,nx⟩:=eJ G bp;have dt: ∀n,G (aX n)≠none->ff ac (aX n)≠none:=λn u=>by
     have:=bp.some u;rwa [a8 _ λj e=>OX j n e.symm] at this
    have bY:r.aY<=max D.aY (st.aL+1):=nx.aY;rcases nx.last with⟨an,C⟩|⟨an,C⟩
    ·obtain⟨br,bZ⟩:=zG nx.L nx.aR an C;have:=L.next;have eS:Rec G (aJ+1) c (CY st):=⟨r,ds,⟨by rw[nx.aR];omega,by omega,by rw[an];omega,by rw[an,L.aU];omega,by rw[an,L.ic];omega,by rw[bZ];exact l.bZ,c8 dt⟩,by rw[br];exact L.map⟩;exact eS.mono (BT _) (A0 _)
    ·obtain⟨br,bZ,_⟩:=dh r nx.L nx.aR an C;exact(dl r G ds nx.aR bY an br bZ dt).mono (BT _) (A0 _)
  ·obtain⟨br,bZ,eT⟩:=dh D3 eK ct a9 dr;have f7:=bW.size;have bY:D3.aY<=max D.aY (st.aL+1):=eL;have cu:bd am.files<=B.W0+(aJ+1)*B.K:=B.step2 a0 bj cq;have du:JO m am:=cj.trans dp;have dv:Mod (λc=>k c≠0) h w:=bU.then (bW.ai λc _ b=>by
    rcases b with b|b
    ·exact a6 c (by rw[bm.kb c b];decide)
    ·exact a6 c (by rw[b,bm.kn];decide))
   have eU: ∀c,cr c≠0->k c≠0\/h.size<=c:=λc b=>by
    by_cases Z:c<z.size
    ·rw[eN c Z] at b;exact a6 c b
    ·exact .inr (by have:=bU.size;omega)
   refine M.rQ λdc eV cv f8=>⟨_,rfl,?_⟩
   have eW:=cs.on cv;refine aF (ab.dj eW.cell (by simp) λar eX cw f9=>?_);have eY:M.cT ar w.size [] []:=eV.mod cw λc b e=>by
    have ga:c=w.size:=by
     rcases b with rfl|⟨x,E,_⟩
     ·rfl
     ·cases E
    have:=cs.gN;have C:(y.d:Nat)<w.size:=this;have gb:c=y.d:=e;omega
   have dw:Mod (λc=>c=w.size\/c=y.d) w ar:=(Ext.mod cv).trans (cw.ai λc _ b=> .inr b);have aw:=cs.renew (h':=ar) (gq:=w.size) eY (A0 _) (by simpa [dY] using eX) (by
    refine⟨dw.size,λc b u=>?_⟩;exact dw.get c b (by rintro(h|h);omega;exact u h))
   have cx:Mod (λc=>k c≠0) h ar:=(dv.trans (Ext.mod cv)).then (cw.ai λc _ b=>by
    have e:c=y.d:=b;rw[e];exact a6 _ (by rw[bm.kd];decide))
   have b0: ∀c,LQ cr w.size (· =w.size) 5 c≠0->k c≠0\/h.size<=c:=λc b=>by
    by_cases Z:c<w.size
    ·rw[GI Z] at b;exact eU c b
    ·exact .inr (by have:=dv.size;omega)
   generalize LQ cr w.size (· =w.size) 5=dx at*
   refine aF (Ab.mk (AB aw.cell rfl) ?_);have gc:=cx.size;have eZ:bd am.files<=8000000000000:=A5 cu (B.wt (a:=aJ+1) (by omega));have cy: ∀x,x≠aX st.next->(∀ n,x≠aC nn n)->ff am x=ff m x:=λx o H=>(a8 x H).trans (a5 x o)
   have e0:(Ak D3).aU=st.az+1:=by rw[a9];rfl
   have dy: ∀ {F':bR},(∀ x,F' x=ff am x\/(F' x=none/\ ∃n:Nat,1<=n/\n<=99999999/\n<=st.az/\x=aC nl n))->BD F' (NQ D3 F')/\cz (NQ D3 F')=CY st/\Nn (NQ D3 F')<=c/\Ea (NQ D3 F')= []:=λ{F'} af=>by
    have o: ∀n,n<=99999999->F' (aC nl n)=ff am (aC nl n)\/(F' (aC nl n)=none/\n<(Ak D3).aU):=λn ai=>by
     rcases af (aC nl n) with o|⟨o,j,_,_,gd,e⟩
     ·exact .inl o
     ·refine .inr ⟨o,?_⟩;rw[e0,IZ e];omega
    have H:=AO9 dq o λx E=>by
     rcases af x with w|⟨_,j,_,e1,_,e⟩
     ·exact w
     ·exact absurd e (E j e1)
    have Y:=AJa dq o;have ax:Ea (NQ D3 F')=Ea D3:=by unfold Ea;rw[Y]
    refine⟨H,?_,?_,by rw[ax];exact eT⟩
    ·rw[<- br];unfold cz;rw[ax];rfl
    ·have:Nn (NQ D3 F')=Nn D3:=by unfold Nn;rw[Y];rfl
     omega
   refine zk (aw.gO aZ) (λh' x=>aw.fP aZ (x.ai λc _ b=> .inl b)) aw.log aw.box dp.up aw.kL (by decide) eZ (λe2=>absurd e2 (by show ¬(st.az:Int)>=((st.az+1:Nat):Int);omega))
    (λbi av aQ O cB e3 b1 cC cD bs=>⟨_,rfl,ae.yes rfl ?_⟩) λ_ av aQ O cB dz b1 cC cD bs dA=>⟨_,rfl,ae.no rfl ?_⟩
   ·have af: ∀x,ff O x=ff am x\/(ff O x=none/\ ∃n:Nat,1<=n/\n<=99999999/\n<=st.az/\x=aC nl n):=λx=>by
     rcases bs x with o|⟨o,n,W,ai,b2,e⟩
     ·exact .inl o
     ·exact .inr ⟨o,n,W,ai,by omega,e⟩
    obtain⟨cE,cF,cG,_⟩:=dy af;refine JS (q:= {y with Sb:=co,ft:=w.size,ns:= []}) aw cB (b1.ai λc _ b=> .inl b) (λc b=> .inl (cC c b)) λcn e4 e5 e6 e7=>⟨_,rfl,?_⟩
    refine bg cn O ⟨λz=>bi (du.calm z),by rw[<- bn];exact e4,⟨aQ,by rw[<- aD];exact e5,λc b=>?_⟩,e3,cx.then (e6.ai λc _ b=>b0 c b),λv I=>?_,dm (A5 cD cu)⟩ λG bp=>?_
    ·rcases e7 c b with o|o
     ·exact b0 c o
     ·exact .inr (by omega)
    ·rcases bs v with o|⟨_,n,_,_,_,e⟩
     ·rw[o,cy v (Qk I _) λn=>kB I n]
     ·exact absurd e (oh I n)
    ·refine(dl (NQ D3 (ff O)) G (cE.dB bp) ct bY a9 cF cG λn u=>?_).mono (BT _) (A0 _);have o:=bp.some u;rcases bs (aX n) with H|⟨_,j,_,_,_,e⟩
     ·rwa [H,a8 _ λj e=>OX j n e.symm] at o
     ·exact absurd e.symm (Ls j n)
   ·have af: ∀x,ff O x=ff am x\/(ff O x=none/\ ∃n:Nat,1<=n/\n<=99999999/\n<=st.az/\x=aC nl n):=λx=>by
     by_cases E: ∃n:Nat,1<=n/\n<=99999999/\(n:Int)<=(st.az:Int)/\x=aC nl n
     ·obtain⟨n,W,ai,b2,rfl⟩:=E;exact .inr ⟨bs n W ai b2,n,W,ai,by omega,rfl⟩
     ·exact .inl (dA x λn W ai b2 e=>E ⟨n,W,ai,b2,e⟩)
    obtain⟨cE,cF,cG,e8⟩:=dy af;have b3:=aw.boxed (j:=2) (bA:= {st with fr:= [],ts:=(st.next,st.fr)::st.ts,next:=st.next+1,aU:=st.az+1,az:=st.az+1,aL:=st.aL+1,bq:=false}) cB (b1.ai λc _ b=> .inl b) (λc b=> .inl (cC c b)) rfl rfl rfl rfl (.inl ⟨by decide,rfl,rfl⟩) (.inl ⟨by decide,rfl⟩);have bt:Mod (λc=>k c≠0) h av:=cx.then (b1.ai λc _ b=>b0 c (by rw[aw.kb c b];decide));have bu: ∀c,LQ dx ar.size aQ 2 c≠0->k c≠0\/h.size<=c:=λc b=>by
     by_cases Z:c<ar.size
     ·rw[GI Z] at b;exact b0 c b
     ·exact .inr (by omega)
    generalize LQ dx ar.size aQ 2=dB at*
    have cH: ∀x,(∀ n,x≠aC nl n)->ff O x=ff am x:=λx E=>dA x λn _ _ _=>E n
    have e9: ∀p∈(st.next,st.fr)::st.ts,(NQ D3 (ff O)).T p.1=p.2:=λp aj=>by
     show D3.T p.1=p.2;rw[dr];rcases List.mem_cons.1 aj with rfl|aj
     ·exact DK
     ·rw[Ei λe=>a1 (by rw[<- e];exact List.mem_map.2 ⟨p,aj,rfl⟩)];exact L.cn p aj
    have dC:Ef (ff O) {st with fr:= [],ts:=(st.next,st.fr)::st.ts,next:=st.next+1,aU:=st.az+1,az:=st.az+1,aL:=st.aL+1,bq:=false} (NQ D3 (ff O)):=
     ⟨cE,congrArg Nt.names a9,e9,congrArg Nt.aU a9,by rw[show Ak (NQ D3 (ff O))=_ from a9];exact A0 _,λp aj=>by
      show p.1<st.next+1;rcases List.mem_cons.1 aj with rfl|aj
      ·exact HK _
      ·have:=L.below p aj;omega,e8.symm,λn W ai _=>by
      have W:st.az+1<=n:=W;rcases af (aC nl n) with o|o
      ·rw[o,cy _ (Ls n _) λj=>Vq n j];exact L.gk n (by omega) ai λ_=>by omega
      ·exact o.1,(λh=>by cases h),λn W ai=>by
      have W:st.aL+1<=n:=W;rw[cH _ λj e=>Vq j n e.symm];exact eM n W ai,⟨by show 1<=st.az+1;omega,A0 _⟩,by show 1<=st.aL+1;omega,λn u=>by
      rw[cH _ λj e=>Ls j n e.symm,a8 _ λj e=>OX j n e.symm] at u;by_cases e:n=st.next
      ·subst e;exact AM
      ·rw[a5 _ λaP=>e (JP aP)] at u;exact An _ (L.clean n u)⟩
    have ge:(NQ D3 (ff O)).aY<=max D.aY (st.aL+1):=bY;have gf:(NQ D3 (ff O)).aR=D.aR:=ct;have fa:SV {st with fr:= [],ts:=(st.next,st.fr)::st.ts,next:=st.next+1,aU:=st.az+1,az:=st.az+1,aL:=st.aL+1,bq:=false} (NQ D3 (ff O)) (aJ+1) c:=
     ⟨by show st.az+1<=_;omega,by show st.aL+1<=_;omega,by show st.next+1<=_;omega,by show((st.next,st.fr)::st.ts).length<=_;simp;omega,cG,by omega,by omega⟩
    have dD:Bn B g av {y with Sb:=aQ,ft:=w.size,ns:= []} dB {st with fr:= [],ts:=(st.next,st.fr)::st.ts,next:=st.next+1,aU:=st.az+1,az:=st.az+1,aL:=st.aL+1,bq:=false} O (NQ D3 (ff O)) (aJ+1) c:=
     ⟨b3,dz.up,dC,fa,A5 cD cu,b⟩
    have cI:CY {st with fr:= [],ts:=(st.next,st.fr)::st.ts,next:=st.next+1,aU:=st.az+1,az:=st.az+1,aL:=st.aL+1,bq:=false}=CY st:=by rw[<- cF];exact dC.map.symm
    have cJ:JO m O:=du.trans dz;have cK: ∀v,¬da v->ff O v=ff m v:=λv I=>by rw[cH v λn=>oh I n,cy v (Qk I _) λn=>kB I n]
    refine aF (AY.mk (s:=y.tp) (AB b3.cell rfl) ?_);have fb:=b3.cn.len;have fc:=b3.cY;have gg:y.tp.len=st.ts.length+1:=by have an:y.tp.len=y.ps.length:=fb;have C:y.ps.length=((st.next,st.fr)::st.ts).length:=fc;rw[an,C];rfl
    refine ae.intro (λdE=>?_) (λdE=>?_)
    ·refine AJm (q:= {y with Sb:=aQ,ft:=w.size,ns:= []}) aZ dD (by omega) (λh' ao aR dF=>⟨_,rfl,?_⟩) λh' bh bJ bA ao r an C S' fd fe fg gh fh fi fj=>⟨_,rfl,?_⟩
     ·rw[cI] at dF;obtain⟨S',fk,fl⟩:=aR.box;refine bg h' ao ⟨λz=>aR.fuel (cJ.calm z),by rw[<- bn];exact aR.dn,⟨S',by rw[<- aD];exact fk,λc b=>?_⟩,aR.down,bt.then (aR.mod.ai λc _ b=>bu c b),λv I=>(aR.eZ v I).trans (cK v I),aR.wt⟩ dF;rcases fl c b with o|o
      ·exact bu c o
      ·exact .inr (by have:=bt.size;omega)
     ·refine ca h' bh bJ bA ao r (an.trans bn) (C.trans aD) S' (cJ.trans fd) fe (fg.trans cI) (.inl (by omega)) (λv I=>(fh v I).trans (cK v I)) (bt.then (fi.ai λc _ b=>bu c b)) λc b=>?_
      rcases fj c b with o|o
      ·exact bu c o
      ·exact .inr (by have:=bt.size;omega)
    ·have gi: ¬((y.tp.len:Nat):Int)>=4:=of_decide_eq_false dE;refine ca av {y with Sb:=aQ,ft:=w.size,ns:= []} dB _ O _ bn aD (dD.aJ (BT _)) cJ rfl cI (.inl ?_) cK bt bu;show((st.next,st.fr)::st.ts).length<=3;rw[A6];omega
 refine ah.mk λfm fn=>?_
 have ba: ∀c,q.tp.af=some c->ap c=6:=ag.kt;have aS: ∀c,q.np.af=some c->ap c=7:=ag.kx;have cL: ∀(z:aa) (tp np:Sl) (N:Nat),Own fG BF z tp (t::q.ps)->Own IC BN z np ((st.next:Int)::dZ st)->Mod (λc=>q.tp.af=some c\/q.np.af=some c) J z->(∀ c,tp.af=some c->(q.tp.af=some c\/J.size<=c)/\c<N)->(∀ c,np.af=some c->q.np.af=some c\/(J.size<=c/\N<=c))->
   ab z ((⟨q.d,0,none⟩:Q6).add 4) (J4 tp.p tp.len tp.cap) λdG=>ab dG ((⟨q.d,0,none⟩:Q6).add 5) (J4 np.p np.len np.cap) λaT=>fm () aT:=by
  intro z tp np N fo on bv b4 b5;have aV:ap q.d=1:=ag.kd;have nd: ¬(q.tp.af=some q.d\/q.np.af=some q.d):=by
   rintro(h|h)
   ·have:=ba _ h;rw[aV] at this;cases this
   ·have:=aS _ h;rw[aV] at this;cases this
  have fp:=bv.af ag.cell nd;have gj:=bv.size;have gk:q.d<J.size:=ag.gN;refine ab.dj fp (by simp) λdG fq fs gl=>ab.dj fq (by simp) λaT fu fw gm=>?_
  have aW:Mod (· =q.d) z aT:=fs.trans fw;have cM: ∀c,tp.af=some c-> ¬c=q.d:=λc b e=>by
   rcases(b4 c b).1 with h|h
   ·exact nd (.inl (e▸h))
   ·omega
  have dH: ∀c,np.af=some c-> ¬c=q.d:=λc b e=>by
   rcases b5 c b with h|h
   ·exact nd (.inr (e▸h))
   ·omega
  have dI:=fo.mod aW cM;have dJ:=on.mod aW dH;have gn:=ag.ext.size;have bb:=ag.eT (h':=aT) (tp:=tp) (np:=np) (ps:=t::q.ps) (ts:=(st.next,st.fr)::st.ts) (next:=st.next) (aU:=st.aU) (S:=λc=>aN<=c/\c<aO)
   (by simpa [dY] using fu) ((bv.ai λc _ b=> .inr b).trans (aW.ai λc _ b=> .inl b)) dI dJ (by have:=V.cY;simp[this])
   (λc b=>by
    obtain⟨o,H⟩:=b4 c b;by_cases e:q.tp.af=some c
    ·exact .inl e
    ·have w:J.size<=c:=o.resolve_left e;refine .inr ⟨cg c w,by omega,λC=>?_,λh=>by omega⟩;rcases b5 c C with Y|Y
     ·have:=aS c Y;rw[cg c w] at this;cases this
     ·omega)
   (λc b=>by
    by_cases e:q.np.af=some c
    ·exact .inl e
    ·have w:=(b5 c b).resolve_left e;refine .inr ⟨cg c w.1,by omega,λC=>?_,λh=>by omega⟩;have:=(b4 c C).2;omega)
   (λc b=>⟨by have:=bO.ext.size;omega,by have:=aW.size;omega⟩)
   (λi t' p o H=>by
    cases i with
    |zero=>
     simp only[Hn,BY] at o H;subst o H;have fx:bX J t st.fr (Mh st.fr) aN aO:=cY.mod a3 λc aq aA b=>by
      have aE:=cZ c aq;rcases b with b|b
      ·have:=ak.kb c b;rw[aE] at this;cases this
      ·have:=ak.kl;rw[<- b,aE] at this;cases this
     have fy:bX z t st.fr (Mh st.fr) aN aO:=fx.mod bv λc aq aA b=>by
      have aE:=ch c aq aA;rcases b with b|b
      ·have:=ba c b;rw[aE] at this;cases this
      ·have:=aS c b;rw[aE] at this;cases this
     refine .inr ⟨aN,aO,fy.mod aW λc aq aA b=>?_,by have:=aW.size;omega,λc aq aA=>⟨⟨aq,aA⟩,ch c aq aA⟩,bM⟩;have aE:=ch c aq aA;rw[b,aV] at aE;cases aE
    |succ i=>exact .inl ⟨i,by simpa using o,by simpa using H⟩)
  have dK: ∀c,LJ ap J.size tp np (λc=>aN<=c/\c<aO) c≠0->k c≠0\/h.size<=c:=λc b=>by
   by_cases e:ap c=0
   ·by_cases Z:c<Y.size
    ·exfalso;apply b;unfold LJ;rw[if_neg (by simp[e]),if_neg λC=>?_,if_neg λC=>?_,if_neg (by omega)]
     ·rcases b5 c C with bw|bw
      ·have:=aS c bw;rw[e] at this;cases this
      ·omega
     ·rcases(b4 c C).1 with bw|bw
      ·have:=ba c bw;rw[e] at this;cases this
      ·omega
    ·exact .inr (by omega)
   ·exact cf c e
  generalize LJ ap J.size tp np (λc=>aN<=c/\c<aO)=bx at*
  have fz:Mod (λc=>k c≠0) h aT:=(ej.then (bv.ai λc _ b=>cf c (by
   rcases b with b|b
   ·rw[ba c b];decide
   ·rw[aS c b];decide))).then (aW.ai λc _ b=>cf c (by rw[b,aV];decide))
  refine fn _ _ ?_;refine aF (AC.mk (AB bb.cell rfl) (aF (ab.dj bb.cell (by simp) λfA cO fB fC=>aF (ab.dj cO (by simp) λcP b6 fE go=>?_))));have fF:J8 J9 (((st.next:Nat):Int)+(1:Int))=((st.next+1:Nat):Int):=AZ (by omega);have fH:J8 J9 (((st.az:Nat):Int)+(1:Int))=((st.az+1:Nat):Int):=AZ (by omega);have b7:Mod (· =q.d) aT cP:=fB.trans fE;have gp: ∀c,tp.af=some c-> ¬c=q.d:=cM;have fI:=bb.eT (h':=cP) (tp:=tp) (np:=np) (ps:=t::q.ps) (ts:=(st.next,st.fr)::st.ts) (next:=st.next+1) (aU:=st.az+1) (S:=λ_=>False)
   (by rw[fF,fH] at b6;simpa [dY] using b6) (b7.ai λc _ b=> .inl b) (dI.mod b7 cM) (dJ.mod b7 dH) (by have:=V.cY;simp[this]) (λc b=> .inl b) (λc b=> .inl b) (λc h=>h.elim) (λi t' p o H=> .inl ⟨i,o,H⟩)
  have fJ: ∀c,LJ bx aT.size tp np (λ_=>False) c≠0->k c≠0\/h.size<=c:=λc b=>by
   by_cases e:bx c=0
   ·exfalso;apply b;unfold LJ;rw[if_neg (by simp[e]),if_neg λC=>?_,if_neg λC=>?_,if_neg λh=>h]
    ·have o:bx c=7:=bb.kx c C;rw[e] at o;cases o
    ·have o:bx c=6:=bb.kt c C;rw[e] at o;cases o
   ·exact dK c e
  exact en cP {q with Sb:=ay,tp:=tp,np:=np,ps:=t::q.ps} _ fI rfl rfl (fz.then (b7.ai λc _ b=>dK c (by
   have o:bx q.d=1:=bb.kd;rw[b,o];decide))) fJ
 have cQ:=ag.cell;have b8:Own fG BF J q.tp q.ps:=ag.cn;have b9:Own IC BN J q.np (dZ st):=ag.names;have cR:q.ps.length<=1000000:=by rw[V.cY];omega
 have cS:(dZ st).length<=1000000:=by simp[dZ];omega
 have bc: ∀c,q.tp.af=some c->q.np.af≠some c:=λc o H=>by
  have:=ba c o;rw[aS c H] at this;cases this
 have bz: ∀c,q.tp.af=some c->c<J.size:=λc b=>b8.lt b
 have be: ∀c,q.np.af=some c->c<J.size:=λc b=>b9.lt b
 refine aF (AY.mk (s:=q.tp) (AB cQ rfl) (aF (AY.mk (s:=q.np) (AB cQ rfl) (aF (AC.mk (AB cQ rfl) ?_)))));have Q: ∀ {z:aa},Mod (λc=>q.tp.af=some c\/q.np.af=some c) J z->z[q.d]? =some (J2 (dY {q with Sb:=ay} {st with az:=st.az+1,bq:=false} false) Et (0,0)):=λx=>x.af ag.cell (by
  have aV:ap q.d=1:=ag.kd;rintro(h|h)
  ·have:=ba _ h;rw[aV] at this;cases this
  ·have:=aS _ h;rw[aV] at this;cases this)
 refine⟨?_,?_⟩
 ·refine al.mk λfK _ dL aY gr=>⟨AB (Q (Ext.mod aY)) rfl,AB (Q (Ext.mod aY)) rfl,AB (Q (Ext.mod aY)) rfl,?_,?_⟩
  ·refine qi (b8.ext aY) dL (λe=>by have:=bz _ e;omega) cR λaH X aI au aK=>⟨_,rfl,?_⟩
   have U:Mod (λc=>q.tp.af=some c\/q.np.af=some c) J X:=(Ext.mod aY).trans (au.ai λc _ b=> .inl b);refine⟨AB (Q U) rfl,AB (Q U) rfl,al.mk λfL _ fM bB gs=>⟨AB (Q (U.trans (Ext.mod bB))) rfl,AB (Q (U.trans (Ext.mod bB))) rfl,?_⟩⟩;have bC:Own IC BN fL q.np (dZ st):=(((b9.ext aY).mod au λc b e=>bc c e b)).ext bB;refine qj bC fM (λe=>by have:=be _ e;have:=U.size;omega) cS λbD bE bF aM bG=>⟨_,rfl,?_⟩
   have dM:=U.size;have bH: ∀c,aH.af=some c->c<X.size:=λc b=>aI.lt b
   refine cL bE aH bD X.size (((aI.ext bB)).mod aM λc b e=>?_) bF ((U.trans (Ext.mod bB)).trans (aM.ai λc _ b=> .inr b)) (λc b=>⟨(aK c b).imp id λh=>by omega,bH c b⟩) λc b=>(bG c b).imp id λh=>⟨by omega,by omega⟩
   rcases aK c b with o|o
   ·exact bc c o e
   ·have:=be c e;omega
  ·refine al.mk λfA _ cO dN fC=>?_
   have bI:=aY.trans dN;refine⟨AB (Q (Ext.mod bI)) rfl,AB (Q (Ext.mod bI)) rfl,?_⟩;refine qi (b8.ext bI) (dN.af dL λh=>h) (λe=>by have:=bz _ e;omega) cR λaH X aI au aK=>⟨_,rfl,?_⟩
   have U:Mod (λc=>q.tp.af=some c\/q.np.af=some c) J X:=(Ext.mod bI).trans (au.ai λc _ b=> .inl b);refine⟨AB (Q U) rfl,AB (Q U) rfl,?_⟩;have dM:=U.size;have bC:Own IC BN X q.np (dZ st):=(b9.ext bI).mod au λc b e=>bc c e b
   have b6:X[fK.size]? =some (J2 #[J6 J9 (st.next:Int)] BN (0,0)):=au.af cO (λe=>by have:=bz _ e;omega);refine qj bC b6 (λe=>by have:=be _ e;omega) cS λbD bE bF aM bG=>⟨_,rfl,?_⟩
   have bH: ∀c,aH.af=some c->c<X.size:=λc b=>aI.lt b
   refine cL bE aH bD X.size (aI.mod aM λc b e=>?_) bF (U.trans (aM.ai λc _ b=> .inr b)) (λc b=>⟨(aK c b).imp id λh=>by omega,bH c b⟩) λc b=>(bG c b).imp id λh=>⟨by omega,by omega⟩
   rcases aK c b with o|o
   ·exact bc c o e
   ·have:=be c e;omega
 ·refine al.mk λgt _ fO cT gu=>⟨AB (Q (Ext.mod cT)) rfl,AB (Q (Ext.mod cT)) rfl,al.mk λgv _ fP dO gw=>?_⟩
  have bf:=cT.trans dO;refine⟨AB (Q (Ext.mod bf)) rfl,AB (Q (Ext.mod bf)) rfl,AB (Q (Ext.mod bf)) rfl,?_⟩;refine qi (b8.ext bf) fP (λe=>by have:=bz _ e;omega) cR λaH X aI au aK=>⟨_,rfl,?_⟩
  have U:Mod (λc=>q.tp.af=some c\/q.np.af=some c) J X:=(Ext.mod bf).trans (au.ai λc _ b=> .inl b);refine⟨AB (Q U) rfl,AB (Q U) rfl,?_⟩;have dM:=U.size;have bC:Own IC BN X q.np (dZ st):=(b9.ext bf).mod au λc b e=>bc c e b
  have fQ:X[J.size]? =some (J2 #[J6 J9 (st.next:Int)] BN (0,0)):=au.af (dO.af fO λh=>h) (λe=>by have:=bz _ e;omega);refine qj bC fQ (λe=>by have:=be _ e;omega) cS λbD bE bF aM bG=>⟨_,rfl,?_⟩
  have bH: ∀c,aH.af=some c->c<X.size:=λc b=>aI.lt b
  refine cL bE aH bD X.size (aI.mod aM λc b e=>?_) bF (U.trans (aM.ai λc _ b=> .inr b)) (λc b=>⟨(aK c b).imp id λh=>by omega,bH c b⟩) λc b=>(bG c b).imp id λh=>⟨by omega,by omega⟩
  rcases aK c b with o|o
  ·exact bc c o e
  ·have:=be c e;omega
end
def F6:List Pr->Int
 | []=>0
 |x::l=>if Am x≠0 then Am x else F6 l
def Eb(l:List Pr):Int:=if l.length=0 then 1 else if l.length>64 then 2 else F6 l
theorem yE: ∀ {l:List Pr},F6 l=0->Be l
 | [],_=>za
 |x::l,a=>by
  unfold F6 at a;split at a
  ·rename_i b;exact absurd a b
  ·rename_i b;intro d c;rcases List.mem_cons.1 c with rfl|c
   ·exact Decidable.not_not.1 b
   ·exact yE a d c
theorem yF {l:List Pr}(a:Eb l=0):YF l/\Be l/\l≠ []:=by
 unfold Eb at a;split at a
 ·cases a
 ·rename_i b;split at a
  ·cases a
  ·rename_i e;have:=yE a;exact⟨⟨by omega,λx c=>om (this x c)⟩,this,λd=>b (by rw[d];rfl)⟩
theorem AG9 {l:List Pr}{i:Nat}{x:Pr}(a:l[i]? =some x)(d:F6 (l.take i)=0):F6 l=if Am x≠0 then Am x else F6 l:=by
 split
 ·rename_i e
  induction l generalizing i with
  |nil=>simp at a
  |cons f l g=>
   cases i with
   |zero=>
    simp at a;subst a;unfold F6;rw[if_pos e]
   |succ i=>
    have b:F6 (f::l.take i)=0:=d;unfold F6 at b ⊢;split at b
    ·rename_i c;exact absurd b c
    ·rename_i c;rw[if_neg c];exact g (by simpa using a) b
 ·rfl
theorem yG: ∀ {l:List Pr} {x:Pr},F6 l=0->Am x=0->F6 (l++ [x])=0
 | [],x,_,b=>by show F6 [x]=0;unfold F6;rw[if_neg (by simp[b])];rfl
 |y::l,x,b,d=>by
  have a:F6 (y::l)=0:=b;show F6 (y::(l++ [x]))=0;unfold F6 at a ⊢;split at a
  ·rename_i c;exact absurd a c
  ·rename_i c;rw[if_neg c];exact yG a d
theorem yH {Q:ak}{h:aa}{s:Sl}{l:List Pr}{n:A2O}(v:View BR h s l)(j: ∀B,Ext h B->n (J6 J9 (Eb l)) B):AA Q P PP #[J4 s.p s.len s.cap] h n:=by
 refine AGf ?_;unfold tY;rw[v.len];refine ae.intro (λe=>?_) (λe=>?_)
 ·have o:l.length=0:=by have:((l.length:Nat):Int)=0:=(by simpa using e);omega
  have:=j h Mod.refl;unfold Eb at this;rwa [if_pos o] at this
 have o:l.length≠0:=λf=>by rw[f] at e;cases e
 refine ae.intro (λe=>?_) (λe=>?_)
 ·have u:l.length>64:=by have:=of_decide_eq_true e;omega
  have:=j h Mod.refl;unfold Eb at this;rwa [if_neg o,if_pos u] at this
 have u: ¬l.length>64:=by have:=of_decide_eq_false e;omega
 have R:Eb l=F6 l:=by unfold Eb;rw[if_neg o,if_neg u]
 rw[R] at j;refine Loop.rule (λC x d=> ∃i:Nat,x=((i:Int),())/\C=l.length-i/\i<=l.length/\Ext h d/\F6 (l.take i)=0) ?_ ⟨0,rfl,rfl,by omega,Mod.refl,rfl⟩;rintro K C _ d ⟨i,rfl,rfl,ac,w,q⟩ S;dsimp only;refine ae.intro (λe=>?_) (λe=>?_)
 ·have r:i<l.length:=by have:=of_decide_eq_true e;omega
  have ag:l[i]? =some l[i]:=A2 r;rw[<- v.len];refine(v.ext w).idx ag λa _ c=>?_
  obtain⟨T,U,V⟩:=c.pair;refine AJ.mk T (AJ.mk U (Ac.mk V (al.pair λb k _ m W ad=>?_)));have y:=w.trans W;generalize l[i]=p at*
  have D:=AG9 ag q;refine ah.mk λE F=>?_
  have X:Am p=1-> ∀d,Ext h d->n (J6 J9 1) d:=λf d x=>by
   have:=j d x;rw[D,if_pos (by rw[f];decide),f] at this;exact this
  have Y:Am p=2-> ∀d,Ext h d->n (J6 J9 2) d:=λf d x=>by
   have:=j d x;rw[D,if_pos (by rw[f];decide),f] at this;exact this
  have z:Am p=if(decide (p.key=⟨#[]⟩)||(p.gone&& !decide (p.val=⟨#[]⟩))) then 1 else if(decide (p.key.size>64)||decide (p.val.size>8192)) then 2 else 0:=rfl;have G:(decide (p.key=⟨#[]⟩)||(p.gone&& !decide (p.val=⟨#[]⟩)))=true->E (true,()) k:=λf=>F _ _ (ae.yes rfl (X (by rw[z,if_pos f]) k y))
  have H:(decide (p.key=⟨#[]⟩)||(p.gone&& !decide (p.val=⟨#[]⟩)))=false->E (false,()) k:=λf=>F _ _ (ae.no rfl (by
   refine ah.mk λI J=>?_
   have L:(decide (p.key.size>64)||decide (p.val.size>8192))=true->I (true,()) k:=λA=>J _ _ (ae.yes rfl (Y (by rw[z,if_neg (by rw[f];decide),if_pos A]) k y))
   have Z:(decide (p.key.size>64)||decide (p.val.size>8192))=false->I (false,()) k:=λA=>J _ _ (ae.no rfl (by
    have ab:Am p=0:=by rw[z,if_neg (by rw[f];decide),if_neg (by rw[A];decide)]
    rw[AZ (by omega)];refine S (l.length-(i+1)) _ _ (by omega) ⟨i+1,rfl,rfl,r,y,?_⟩;rw[AD,ag];exact yG q ab))
   refine AJ.mk (AL m rfl) (ae.intro (λg=>?_) (λg=>?_))
   ·have M:p.key.size>64:=by have:=of_decide_eq_true g;omega
    exact L (by simp[M])
   ·have M: ¬p.key.size>64:=by have:=of_decide_eq_false g;omega
    refine AJ.mk (AB m rfl) ?_;by_cases N:p.val.size>8192
    ·rw[decide_eq_true (show((p.val.size:Int)>(8192:Int)) by omega)];exact L (by simp[N])
    ·rw[decide_eq_false (show ¬((p.val.size:Int)>(8192:Int)) by omega)];exact Z (by simp[N];omega)))
  refine AJ.mk (AL m rfl) ?_;rw[CP];refine ae.intro (λg=>?_) (λg=>?_)
  ·exact G (by rw[g];rfl)
  ·refine Ac.mk (AB m rfl) (ae.intro (λt=>?_) (λt=>?_))
   ·refine AJ.mk (AB m rfl) ?_;rw[CP];cases O:decide (p.val=(⟨#[]⟩:A2P)) with
    |true=>exact H (by rw[g,t,O];rfl)
    |false=>exact G (by rw[g,t,O];rfl)
   ·exact H (by rw[g,t];rfl)
 ·have r:i=l.length:=by have:=of_decide_eq_false e;omega
  subst r;rw[C5] at q;have:=j d w;rwa [q] at this
theorem yI {f:bR}{D:Bg}(h:BD f D){s:Nat}(d:s<=99999999){b:List Pr}(i:YF b): ∀e∈(D.L s).map (BM s)++ [BM s b],e.length<=1048576:=λe a=>by
 rcases List.mem_append.1 a with a|a
 ·obtain⟨c,j,rfl⟩:=List.mem_map.1 a;have:=Yu d (h.fW s c j);omega
 ·rw[List.mem_singleton.1 a];have:=Yu d i;omega
theorem AI8(a:List (List UInt8))(b:List UInt8):aK (a++ [b])=aK a++Cb b:=by simp
theorem AJA {i j:bR}{D:Bg}{s:Nat}{b:List Pr}(h:BD i D)(o:1<=s/\s+1<=99999999)(l:YF b)(a: ∀e,j e=if e=aC nl s then some (AX (aK ((D.L s).map (BM s)++ [BM s b])),bo) else i e):BD j (Sd D s b):=by
 refine AQN h o l (λf _ _ p=> .inl ?_) (λf _ _=> .inl ?_) (λf=> .inl ?_) (λe r n=>?_) ⟨_,by rw[a,if_pos rfl],?_⟩
 ·rw[a,if_neg λd=>p (IZ d)]
 ·rw[a,if_neg λd=>Vq s f d.symm]
 ·rw[a,if_neg λd=>Ls s f d.symm]
 ·rw[a,if_neg (r s)] at n;exact n
 ·rw[EN,Cd];have:=RS (rs:=(D.L s).map (BM s)++ [BM s b]) (yI h (by omega) l) (t:= []) Tt;rw[AN] at this;exact this
theorem AJf {j F1 G:bR}{D:Bg}{s:Nat}{b:List Pr}(h:BD j D)(z:1<=s/\s+1<=99999999)(C:YF b)(t: ∀e,F1 e=if e=aC nl s then some (AX (aK ((D.L s).map (BM s))),AX (Cb (BM s b))) else j e)(c:MJ F1 G):
  BD G {D with aR:=max D.aR (s+1)}\/BD G (Sd D s b):=by
 have E: ∀a,1<=a->a<=99999999->a≠s->NS (j (aC nl a)) (G (aC nl a)):=λa l n u=>by
  have d:F1 (aC nl a)=j (aC nl a):=by rw[t,if_neg λd=>u (IZ d)]
  have:=c.bU (x:=aC nl a) λp o=>(h.log.has a p l n (d▸o)).1
  rwa [d] at this
 have F: ∀a,1<=a->a<=99999999->NS (j (aC nn a)) (G (aC nn a)):=λa l n=>by
  have d:F1 (aC nn a)=j (aC nn a):=by rw[t,if_neg λd=>Vq s a d.symm]
  have:=c.bU (x:=aC nn a) λp o=>(h.note.has a p l n (d▸o)).1
  rwa [d] at this
 have ft: ∀a,F1 (aX a)=j (aX a):=λa=>by rw[t,if_neg λd=>Ls s a d.symm]
 have H: ∀a∈(Ak D).names,G (aX a)=some (AX (Ja (D.T a)),bo)/\Gv (D.T a):=λa O=>by
  obtain⟨I,J⟩:=h.cM a O;have:=c.bU (x:=aX a) λp o=>by rw[ft,I] at o;cases o;rfl
  rw[ft] at this;exact⟨Uy this J I,J⟩
 have K: ∀e,(∀ a,e≠aC nl a)->G e≠none->j e≠none:=λe w P Q=>P (by
  have:=c e;rw[t,if_neg (w s),Q] at this;exact this)
 have L:=c (aC nl s);rw[t,if_pos rfl] at L;obtain⟨S,y⟩:=L;have i:=yA (rs:=(D.L s).map (BM s)) (r:=BM s b) (yI h (by omega) C) S;have M:(G (aC nl s)=none/\(D.L s).map (BM s)= []\/ ∃e,G (aC nl s)=some (e,bo)/\Mx (bl e) ((D.L s).map (BM s)))->BD G {D with aR:=max D.aR (s+1)}:=λT=>by
  refine⟨?_,h.note.aM h.cC.2.2.1 F,H,h.fW,h.dL,λe w hd=>h.dr e (K e (λa d=>by rw[d,Qh] at hd;cases hd) w) hd,by have:=h.cC;refine⟨?_,?_,this.2.2.1,this.2.2.2⟩<;>simp only[]<;>omega⟩;have:=h.log.put (G:=G) (dM:=max D.aR (s+1)) (s:=s) (v:=(D.L s).map (BM s)) ⟨z.1,by omega⟩ (by omega) (λa l n u=>E a l n u) T (by omega);have d:(KL (λa=>(D.L a).map (BM a)) s ((D.L s).map (BM s)))=λa=>(D.L a).map (BM a):=by
   funext a;by_cases d:a=s
   ·subst d;rw[DK]
   ·rw[Ei d]
  rw[d] at this;exact this
 split at y
 ·rename_i U;left;refine M (.inl ⟨y,?_⟩);rw[U] at i;have N: ∀rs,Mx (bl bo) rs->rs= []:=λrs V=>rj V
  rcases i with i|i
  ·exact N _ i
  ·have:=N _ i;simp at this
 ·rcases i with i|i
  ·exact .inl (M (.inr ⟨_,y,i⟩))
  ·right;have W:(D.L s++ [b]).map (BM s)=(D.L s).map (BM s)++ [BM s b]:=by rw[Cd];rfl
   refine⟨?_,h.note.aM h.cC.2.2.1 F,H,λa x f=>?_,h.dL,λe w hd=>h.dr e (K e (λa d=>by rw[d,Qh] at hd;cases hd) w) hd,by have:=h.cC;refine⟨?_,?_,this.2.2.1,this.2.2.2⟩<;>simp only[Sd]<;>omega⟩
   ·have:=h.log.put (G:=G) (dM:=max D.aR (s+1)) (s:=s) (v:=(D.L s++ [b]).map (BM s)) ⟨z.1,by omega⟩ (by omega) (λa l n u=>E a l n u) (.inr ⟨_,y,by rw[W];exact i⟩) (by omega);have d:(KL (λa=>(D.L a).map (BM a)) s ((D.L s++ [b]).map (BM s)))=λa=>((Sd D s b).L a).map (BM a):=by
     funext a;show _=(KL D.L s (D.L s++ [b]) a).map (BM a);by_cases d:a=s
     ·subst d;rw[DK,DK]
     ·rw[Ei d,Ei d]
    rw[d] at this;exact this
   ·by_cases d:a=s
    ·have f:x∈KL D.L s (D.L s++ [b]) a:=f;rw[d,DK] at f;rcases List.mem_append.1 f with f|f
     ·exact h.fW s x f
     ·rw[List.mem_singleton.1 f];exact C
    ·have f:x∈KL D.L s (D.L s++ [b]) a:=f;rw[Ei d] at f;exact h.fW a x f
theorem ASM {b:bR}{D:Bg}(h:BD b D){t:Nat}(d:D.aR<=t):IJ {D with aR:=t}=IJ D:=by
 unfold IJ;exact TY d λa e _=>by
  show(if a<(Ak D).aU then [] else D.L a)= [];split
  ·rfl
  ·exact h.gl (.inr e)
section
variable {A : ak} {B : cJ} {g h : aa} {q : Hp} {k : Nat -> Nat} {st : Db} {m : Bx} {D : Bg} {aJ c : Nat} {R : A2O}
theorem ASN(a:bL g h q k st m)(b:R (J6 J9 (st.az:Int)) h):AA A P Ih #[Az q.lg] h R:=by refine OO ?_;unfold LK;exact ae.no rfl (aF (AC.mk (AB a.log rfl) b))
theorem AJL(a:Nat):600000<=20000*a+10000000:=by omega
theorem cJ.up(B:cJ){d a:Nat}{b:Nat}(e:a<=b)(h:d<=B.W0+a*B.K):d<=B.W0+b*B.K:=A5 h (Ly (AS _ e) _)
structure lV (st bA:Db) (l:List Pr):Prop where
 map:CY bA=dc (CY st) l
 full:4096<=M.EP (BC st.fr l)->bA.fr= []/\(bA.ts.length<=3\/bA.ts.length=st.ts.length)
 less:M.EP (BC st.fr l)<4096->bA.fr=BC st.fr l/\bA.ts=st.ts
theorem yJ {s:Sl}{l:List Pr}(ap:cp g)(bs:Bn B g h q k st m D aJ c)(hA:aJ+3<=B.A)(ab:View BR h s l)(aq:l≠ []-> ∀b,s.af=some b->b<h.size/\k b=0)(aG:Eb l=0->c+l.length<=B.C)
  (bt:Eb l≠0-> ∀o,Ext h o->R (J6 J9 (Eb l)) o)
  (a5:Eb l=0-> ∀o v,og B h o q k m v (aJ+3)->(∀ G,MJ (ff v) G->Rec G (aJ+3) (c+l.length) (CY st)\/Rec G (aJ+3) (c+l.length) (dc (CY st) l))->R (J6 J9 30) o)
  (bu:Eb l=0-> ∀o v,og B h o q k m v (aJ+3)->gW (ff v) (aJ+3) (c+l.length) (dc (CY st) l)->R (J6 J9 0) o)
  (a6:Eb l=0-> ∀o ac ar bA v aH,ac.d=q.d->ac.b=q.b->Bn B g o ac ar bA v aH (aJ+3) (c+l.length)->JO m v->lV st bA l->(∀ n,¬da n->ff v n=ff m n)->Mod (λc=>k c≠0) h o->(∀ c,ar c≠0->k c≠0\/h.size<=c)->R (J6 J9 0) o):
  AA A P Km #[Az q.d,J4 s.p s.len s.cap] h R:=by
 obtain⟨V,hd,L,w,aI,e⟩:=bs;have cy:=B.hA;have cB:=B.hC;have bv:=B.wt (a:=aJ) (by omega);have cC:=w.az;have cD:=L.eF;have cE:=w.aR;refine AA4 ?_;unfold Tj;refine ah.mk λK bw=>Ym V (bw _ _ (ae.no rfl ?_))
 refine yH ab λbx ad=>⟨_,rfl,?_⟩
 refine ae.intro (λQ=>bt (by simpa using Q) bx ad) (λQ=>?_);have S:Eb l=0:=by simpa using Q
 obtain⟨E,bz,af⟩:=yF S
 replace aq:=aq af
 replace aG:=aG S
 have W:=V.on ad;refine aF (Ab.mk (AB W.cell rfl) (aF (Ab.mk (AB W.cell rfl) ?_)));refine ASN W ⟨_,rfl,⟨AB W.cell rfl,?_⟩⟩;refine AOu (by omega) E.len E.ok (ab.ext ad) (λb E=>by have:=(aq b E).1;have:=ad.size;omega) λX aL=>⟨_,rfl,⟨AB (W.on aL).cell rfl,?_⟩⟩
 have N:=W.on aL;have aM:=ad.trans aL;have cF:=aM.size;have cG:=Yu (s:=st.az) (by omega) E;have au:(AX (BM st.az l)).size=(BM st.az l).length:=AP _;refine Wz (N.gO ap) N.log N.box N.kL (λo x=>N.fP ap (x.ai λc _ e=> .inl e)) (by decide) (by omega) (by rw[au];omega) (A5 aI bv) λav p aw ax aN a7=>⟨_,rfl,?_⟩
 rw[show bl (AX (BM st.az l))=BM st.az l from EN _] at aw ax ⊢;have bB:=Uo V.box.aO (aC nl st.az) (AX (Cb (BM st.az l)));have cH:=(IK (r:=BM st.az l) (by omega)).2;rw[AP] at bB;have a8: ∀c,p c->q.Sb c\/X.size<=c:=λc e=>(a7 c e).imp id λh=>h.1
 have bC:((ff m (aC nl st.az)).getD (bo,bo))=(AX (aK ((D.L st.az).map (BM st.az))),bo):=by
  cases a9:st.bq with
  |true=>rw[L.jg a9];rfl
  |false=>
   have ba:=L.gk st.az (A0 _) (by omega) (by rw[a9];simp);rw[ba,L.ok.ji (by omega) ba];rfl
 have bb: ∀f,st.az<f->D.L f= []:=λf y=>L.rN w (by omega) y
 have bc:1<=st.az/\st.az+1<=99999999:=⟨by omega,by omega⟩;have be:(Ak D).aU<=st.az:=by rw[L.aU];exact L.eF.2
 obtain⟨bD,bE⟩:=AO5 L.ok be bb E;have bF:=ze L.ok (b:=l) be bb;have bf:Nn (Sd D st.az l)=Nn D+l.length:=by
  unfold Nn;rw[bF,N6,A1];have:(Ak (Sd D st.az l)).names.map (λf=>((Sd D st.az l).T f).length)=(Ak D).names.map λf=>(D.T f).length:=rfl
  rw[this];simp;omega
 have bG: ∀ {F':bR},(∀ f,F' (aX f)≠none->ff m (aX f)≠none)-> ∀f,F' (aX f)≠none->f<8*aJ+8:=λbH f y=>by
  have:=L.fj w (bH f y);have:=w.next;omega
 have bI: ∀ {bg:Nat},bg<=B.W0+(aJ+1)*B.K->bg<=B.W0+(aJ+3)*B.K:=λh=>B.up (by omega) h
 rcases Ra (k:=aC nl st.az) (d:=AX (Cb (BM st.az l))) hd (ra (by decide) (by omega)) with⟨aO,aP⟩|⟨aP,aQ,bJ⟩
 ·rw[aP] at aw ⊢;refine ae.yes rfl ?_;refine JS N aw (aN.ai λc _ e=>e.imp id .inl) a8 λbK bM bN bO bP=>⟨_,rfl,?_⟩
  refine a5 S bK (Mv m) ⟨by rw[aO];decide,bM,⟨p,bN,λc e=>(bP c e).imp id λh=>by omega⟩,rfl,(Ext.mod aM).trans bO,λ_ _=>rfl,B.up (by omega) aI⟩ λG ay=> .inl ?_
  exact(L.oL w G ay).mono (by omega) (by omega)
 rw[aP] at ax ⊢;refine ae.no rfl ?_;rw[decide_eq_true rfl,HG] at ax;generalize (DY m (aC nl st.az) (AX (Cb (BM st.az l)))).2=z at*
 have ai: ∀n,ff z n=if n=aC nl st.az then some (AX (aK ((D.L st.az).map (BM st.az))),AX (Cb (BM st.az l))) else ff m n:=λn=>by
  rw[bJ,bC];simp only[RQ]
 have cI: ¬p q.lg:=λe=>by
  rcases a7 _ e with h|h
  ·exact N.kL h
  ·exact h.2 rfl
 have H:=N.boxed (j:=3) (bA:= {st with bq:=true}) aw (aN.ai λc _ e=>e.imp id λh=> .inl ⟨rfl,h⟩) a8 rfl rfl rfl rfl (.inr ax) (.inl ⟨by decide,rfl⟩);have bQ:Grow k (LQ k X.size p 2) X.size:=rv;have az: ∀c,LQ k X.size p 2 c≠0->k c≠0\/h.size<=c:=λc e=>by
  by_cases aj:c<X.size
  ·rw[bQ c aj] at e;exact .inl e
  ·exact .inr (by omega)
 generalize LQ k X.size p 2=bh at*
 have aA:Mod (λc=>k c≠0) h av:=(Ext.mod aM).trans (aN.ai λc _ e=>by
  rcases e with e|e
  ·rw[V.kb c e];decide
  ·rw[e,V.kl];decide)
 refine aF (Ab.mk (AB H.cell rfl) ?_);refine qZ (H.gO ap) H.log H.box H.kL (by decide) (by show st.az<=_;omega) λaS ak cJ aT=>⟨_,rfl,?_⟩
 have bS:ff z (aC nl st.az)=some (AX (aK ((D.L st.az).map (BM st.az))),AX (Cb (BM st.az l))):=by rw[ai,if_pos rfl]
 have ak:Cf aS q.b p (F9 z (aC nl st.az)).2:=ak;have bT:=Xn H.box.aO (aC nl st.az);have bi:bd z.files<=B.W0+(aJ+1)*B.K:=B.step (d:=600000) aI (by omega) (AJL B.C);show ae ((F9 z (aC nl st.az)).1 != 0) _ _;rcases OI aQ.up bS with⟨aO,am⟩|⟨am,bU,bV⟩
 ·rw[am] at ak;have bW:Le z (aC nl st.az) true=(30,Mv z):=am;rw[am];refine ae.yes rfl ?_;show AA A P CU #[_,J6 J9 (Le z (aC nl st.az) true).1] aS _;rw[bW];refine JS (q:= {q with Sb:=p}) H ak (aT.ai λc _ e=> .inl e) (λc e=> .inl e) λbX bY bZ b0 b1=>⟨_,rfl,?_⟩
  refine a5 S bX (Mv z) ⟨(λI=>by have:=aQ.calm I;rw[aO] at this;cases this),bY,⟨p,bZ,λc e=>?_⟩,rfl,aA.then (b0.ai λc _ e=>az c e),λn u=>?_,bI bi⟩ λG ay=>?_
  ·rcases b1 c e with F|F
   ·exact az c F
   ·exact .inr (by have:=aA.size;omega)
  ·rw[oC,ai,if_neg (oh u _)]
  ·have b2: ∀f,G (aX f)≠none->ff m (aX f)≠none:=λf y=>by
    have F:ff z (aX f)≠none:=ay.some y;rwa [ai,if_neg λJ=>Ls _ f J.symm] at F
   have C:=L.jj w (F':=G) (bG b2);rcases AJf L.ok bc E (F1:=ff (Mv z)) ai ay with aU|aU
   ·left;have au:=ASM L.ok (t:=max D.aR (st.az+1)) (by omega);have em:cz {D with aR:=max D.aR (st.az+1)}=cz D:=by unfold cz Ea;rw[au];rfl
    have b3:Nn {D with aR:=max D.aR (st.az+1)}=Nn D:=by unfold Nn;rw[au];rfl
    refine⟨_,aU,⟨by show max D.aR (st.az+1)<=_;omega,by have:=C.aY;show D.aY<=_;omega,by have:=C.next;show(Ak D).next<=_;omega,by have:=C.aU;show(Ak D).aU<=_;omega,by have:=C.ct;show(Ak D).names.length<=_;omega,by rw[b3];have:=C.bZ;omega,λf y=>by have:=C.mC f y;omega⟩,by rw[em];exact L.map⟩
   ·right;refine⟨_,aU,⟨by show max D.aR (st.az+1)<=_;omega,by have:=C.aY;show D.aY<=_;omega,by have:=C.next;show(Ak D).next<=_;omega,by have:=C.aU;show(Ak D).aU<=_;omega,by have:=C.ct;show(Ak D).names.length<=_;omega,by rw[bf];have:=C.bZ;omega,λf y=>by have:=C.mC f y;omega⟩,by rw[bE,L.map]⟩
 rw[am];refine ae.no rfl ?_;generalize (F9 z (aC nl st.az)).2=O at*
 have Y: ∀n,ff O n=if n=aC nl st.az then some (AX (aK ((D.L st.az).map (BM st.az)++ [BM st.az l])),bo) else ff m n:=λn=>by
  rw[bV];by_cases u:n=aC nl st.az
  ·rw[if_pos u,if_pos u];simp only[Ae,AI8]
  ·rw[if_neg u,if_neg u,ai,if_neg u]
 have b4:=AJA L.ok bc E Y;have b5:=H.boxed (j:=2) (bA:= {st with bq:=true}) ak (aT.ai λc _ e=> .inl e) (λc e=> .inl e) rfl rfl rfl rfl (.inl ⟨by decide,rfl,rfl⟩) (.inl ⟨by decide,rfl⟩);have b6:Mod (λc=>k c≠0) h aS:=aA.then (aT.ai λc _ e=>az c (by rw[H.kb c e];decide));have b7: ∀c,LQ bh av.size p 2 c≠0->k c≠0\/h.size<=c:=λc e=>by
  by_cases aj:c<av.size
  ·rw[GI aj] at e;exact az c e
  ·exact .inr (by have:=aA.size;omega)
 generalize LQ bh av.size p 2=b8 at*
 have aD:JO m O:=aQ.trans bU;have cK:=L.cP w;have cL:=E.len;refine Loop.rule (λbj x I=> ∃(i:Nat) (an:List M.DC) (ao:Nat->Nat),x=((i:Int),())/\bj=l.length-i/\i<=l.length/\bL g I {q with Sb:=p,ns:=an} ao {st with bq:=true,fr:=BC st.fr (l.take i)} O/\Mod (λc=>k c≠0) h I/\(∀ c,ao c≠0->k c≠0\/h.size<=c)) ?_
  ⟨0,q.ns,b8,rfl,rfl,AG _,b5,b6,b7⟩
 rintro cM bj _ I ⟨i,an,ao,rfl,rfl,cN,Z,aa,T⟩ bk;dsimp only;have b9:=ab.mod aa λb E af=>af (aq b E).2
 have cO:=aa.size;refine ae.intro (λQ=>?_) (λQ=>?_)
 ·have aE:i<l.length:=by have:=of_decide_eq_true Q;have:=ab.len;omega
  have ag:l[i]? =some l[i]:=A2 aE;refine b9.idx ag λa _ ca=>?_
  obtain⟨cb,cc,cd⟩:=ca.pair;refine AJ.mk cb (AJ.mk cc (Ac.mk cd (al.pair λb ce _ aV aW cP=>?_)));have aY:=Z.on aW;refine aF (Ab.mk (AB aY.cell rfl) ?_);refine AJ.mk (AL aV rfl) (AJ.mk (AB aV rfl) (Ac.mk (AB aV rfl) ?_));have cf:=M.Ql (l:=l.take i) (t:=st.fr);rw[AH] at cf;refine M.rR (x:=l[i]) aY.fresh (by show(BC st.fr (l.take i)).length<_;omega) λcg cQ ch bm ci=>⟨_,rfl,?_⟩
  have cj:=aY.oM ch bm ci;rw[AZ (by omega)];refine bk (l.length-(i+1)) _ _ (by omega) ⟨i+1,cg,_,rfl,rfl,aE,by rw[M.rS ag];exact cj,(aa.trans (Ext.mod aW)).then (bm.ai λc _ e=>T c (by rw[Z.kf c e];decide)),λc e=>?_⟩;by_cases aj:c<ce.size
  ·rw[GI aj] at e;exact T c e
  ·exact .inr (by have:=aW.size;omega)
 have aE:i=l.length:=by have:=of_decide_eq_false Q;have:=ab.len;omega
 subst aE;rw[C5] at Z;clear bk;have aZ:CY {st with bq:=true,fr:=BC st.fr l}=dc (CY st) l:=yT V.fM bz;have ck:Ef (ff O) {st with bq:=true,fr:=BC st.fr l} (Sd D st.az l):=
  ⟨b4,L.names,L.cn,L.aU,L.next,L.below,by rw[bD,<-L.fr],λf a0 a1 af=>by
   have bn:f≠st.az:=af rfl;rw[Y,if_neg λJ=>bn (IZ J)];exact L.gk f a0 a1 λ_=>bn,λ_=>by
   show ff O (aC nl st.az)=some (AX (aK ((KL D.L st.az (D.L st.az++ [l]) st.az).map (BM st.az))),bo);rw[Y,if_pos rfl,DK,Cd];rfl,λf a0 a1=>by
   rw[Y,if_neg λJ=>Vq _ f J.symm];exact L.jf f a0 a1,L.eF,L.aL,λf y=>by
   rw[Y,if_neg λJ=>Ls _ f J.symm] at y;exact L.clean f y⟩
 have cl:SV {st with bq:=true,fr:=BC st.fr l} (Sd D st.az l) (aJ+1) (c+l.length):=
  ⟨by show st.az<=_;omega,by have:=w.aL;show st.aL<=_;omega,by have:=w.next;show st.next<=_;omega,by have:=w.ct;show st.ts.length<=_;omega,by rw[bf];have:=w.bZ;omega,by show max D.aR (st.az+1)<=_;omega,by have:=w.aY;show D.aY<=_;omega⟩
 have bp:Bn B g I {q with Sb:=p,ns:=an} ao {st with bq:=true,fr:=BC st.fr l} O (Sd D st.az l) (aJ+1) (c+l.length):=
  ⟨Z,aD.up,ck,cl,A5 bT bi,aG⟩
 have a2: ∀n,¬da n->ff O n=ff m n:=λn u=>by rw[Y,if_neg (oh u _)]
 refine ah.mk λcR a3=>?_
 refine aF (Ab.mk (AB Z.cell rfl) ?_);refine M.rO Z.fresh ⟨_,_,rfl,?_⟩;refine ae.intro (λa4=>?_) (λa4=>?_)
 ·have cS:4096<=M.EP (BC st.fr l):=by have:=of_decide_eq_true a4;have J:M.EP ({st with bq:=true,fr:=BC st.fr l}:Db).fr=M.EP (BC st.fr l):=rfl;omega
  refine APH (q:= {q with Sb:=p,ns:=an}) ap bp (by omega) (λo v U br=>⟨_,rfl,a3 _ _ ?_⟩) λo ac ar bA v aH cm cn S' co cq cr cs ct cu cv=>⟨_,rfl,a3 _ _ ?_⟩
  ·rw[aZ] at br;obtain⟨S',cw,cx⟩:=U.box;refine bu S o v ⟨λI=>U.fuel (aD.calm I),U.dn,⟨S',cw,λc e=>?_⟩,U.down,aa.then (U.mod.ai λc _ e=>T c e),λn u=>(U.eZ n u).trans (a2 n u),U.wt⟩ br;rcases cx c e with F|F
   ·exact T c F
   ·exact .inr (by omega)
  ·refine a6 S o ac ar bA v aH cm cn S' (aD.trans co) ⟨cr.trans aZ,λ_=>⟨cq,cs⟩,λh=>absurd h (by omega)⟩ (λn u=>(ct n u).trans (a2 n u)) (aa.then (cu.ai λc _ e=>T c e)) λc e=>?_
   rcases cv c e with F|F
   ·exact T c F
   ·exact .inr (by omega)
 ·have cT:M.EP (BC st.fr l)<4096:=by have:=of_decide_eq_false a4;have J:M.EP ({st with bq:=true,fr:=BC st.fr l}:Db).fr=M.EP (BC st.fr l):=rfl;omega
  refine a3 _ _ ?_;exact a6 S I {q with Sb:=p,ns:=an} ao _ O _ rfl rfl (bp.aJ (by omega)) aD ⟨aZ,λh=>absurd h (by omega),λ_=>⟨rfl,rfl⟩⟩ a2 aa T
end
theorem yK: ∀(l:List UInt8) (a:Nat),lG l->Sw a l<=999999999999->Lib.parseUint10 a l= .ok (Sw a l)
 | [],a,_,_=>rfl
 |c::l,a,hd,b=>by
  have h:Sw a (c::l)=Sw (a*10+(c.toNat-48)) l:=rfl;rw[h] at b ⊢;have d:=hd c (by simp);have f:=qs l (a*10+(c.toNat-48));unfold Lib.parseUint10;rw[if_pos d,if_neg (by omega),if_neg (by omega)];exact yK l _ (λx e=>hd x (An _ e)) b
theorem AOw {a:Nat}(i:a<=999999999999):Lib.atoiAll (Lib.decDigits a)= .ok (a:Int):=by
 obtain⟨b,d⟩:=Yo a;cases e:Lib.decDigits a with
 |nil=>
  have:=congrArg List.length e;rw[Lib.decDigits_length] at this;have:=Lib.nDigits_pos a;simp at *;omega
 |cons c j=>
  rw[e] at b d;have o:=b c (by simp);have f:=yK (c::j) 0 b (by rw[d];exact i);rw[d] at f;unfold Lib.atoiAll;simp only[];have l: ¬(c.toNat=43\/c.toNat=45):=by omega
  have n: ¬c.toNat=45:=by omega
  rw[if_neg l];unfold Lib.parseMag;rw[if_neg (by simp),f];simp only[n,not_false_eq_true,true_and,false_and,if_false];rw[if_neg (by omega)]
theorem AQI {A:ak}{h:aa}{a:Nat}{R:A2O}(f:a<=999999999999)(d: ∀e,Ext h e->R (J1 #[J6 J9 (a:Int),.nilIface]) e):AA A P UN #[J7 (AX (Lib.decDigits a))] h R:=by
 intro m;have i:(Lib.decDigits a).length<=20:=by rw[Lib.decDigits_length];exact Lib.nDigits_le20 a (by omega)
 refine Calls.mono (Proofs.Any.strconv_Atoi_ok Proofs.Tryz.gh (AX (Lib.decDigits a)) (by rw[AP];omega) (a:Int) (by rw[show(AX (Lib.decDigits a)).data.toList=Lib.decDigits a from Cc _];exact AOw f) (A.at h m)) ?_;rintro j l ⟨rfl,c|⟨t,c⟩⟩
 ·subst c;exact⟨_,rfl,h,m,rfl,d h Mod.refl⟩
 ·subst c;refine⟨_,rfl,_,_,rfl,d _ ?_⟩;refine⟨?_,λb n _=>?_⟩
  ·simp[Lib.bytesWorld,World.freeze,World.alloc,World.drew,ak.at]
  ·simp[Lib.bytesWorld,World.freeze,World.alloc,World.drew,ak.at,GO,Array.getElem?_push];rw[if_neg (by omega),if_neg (by omega)]
theorem AIG {A:ak}{h:aa}{s:Sl}{l:List Int}{v:Int}{R:A2O}(d:View IC h s l)(t:l.length<=1000000)(n:R (J3 (decide (v∈l))) h):AA A P ET #[J4 s.p s.len s.cap,J6 J9 v] h R:=by
 refine LU ?_;unfold Gn;refine Mq ?_;unfold Ic;refine Loop.rule (λo x p=> ∃i:Nat,x=((i:Int),())/\o=l.length-i/\i<=l.length/\p=h/\v∉l.take i) ?_ ⟨0,rfl,rfl,AG _,rfl,by simp⟩;rintro K o _ _ ⟨i,rfl,rfl,u,rfl,e⟩ r;dsimp only;rw[d.len];refine ae.intro (λf=>?_) (λf=>?_)
 ·have b:i<l.length:=by have:=of_decide_eq_true f;omega
  have ag:l[i]? =some l[i]:=A2 b;rw[<- d.len];refine d.idx ag λa _ c=>AC.mk c.int ?_
  refine ae.intro (λq=>?_) (λq=>?_)
  ·have j:v=l[i]:=by simpa using q
   refine⟨_,rfl,?_⟩;rw[decide_eq_true (show((i:Int)>=0) by omega)];rwa [decide_eq_true (show v∈l by rw[j];exact AT b)] at n
  ·have j:v≠l[i]:=by simpa using q
   rw[AZ (by omega)];refine r (l.length-(i+1)) _ _ (by omega) ⟨i+1,rfl,rfl,b,rfl,?_⟩;rw[AD,ag];simp only[CN,Fl,Sp,not_or];exact⟨e,j⟩
 ·have b:i=l.length:=by have:=of_decide_eq_false f;omega
  subst b;rw[C5] at e;refine⟨_,rfl,?_⟩;rwa [decide_eq_false e] at n
section
variable {A : ak} {g h : aa} {q : Hp} {k : Nat -> Nat} {st : Db} {m : Bx} {D : Bg} {R : A2O}
theorem AJF(b:bL g h q k st m)(d:Nat):LJ k d q.tp q.np (λ_=>False)=k:=by
 funext c;unfold LJ;by_cases a:k c=0
 ·rw[if_neg (by simp[a]),if_neg (λh=>by have:=b.kt c h;rw[a] at this;cases this),if_neg (λh=>by have:=b.kx c h;rw[a] at this;cases this),if_neg (λh=>h),a]
 ·rw[if_pos a]
theorem bL.jk {h':aa}{next:Nat}(b:bL g h q k st m)(a:h'[q.d]? =some (J2 (dY q {st with next:=next} false) Et (0,0)))(x:Mod (· =q.d) h h'):bL g h' q k {st with next:=next} m:=by have R:=b.rest (C:=λc=>c=1) (h':=h') (x.ai λc _ a=>by rw[a];exact b.kd) (by decide);have:=b.eT (h':=h') (tp:=q.tp) (np:=q.np) (ps:=q.ps) (ts:=st.ts) (next:=next) (aU:=st.aU) (S:=λ_=>False) a (x.ai λc _ a=> .inl a) (R.cn (by decide)) (R.names (by decide)) b.cY (λc a=> .inl a) (λc a=> .inl a) (λc h=>h.elim) (λi t p d e=> .inl ⟨i,d,e⟩);rw[AJF b] at this;exact this
theorem AQh {m:Bx}{x:A2P}:ff m x≠none↔x∈m.files.map (·.name):=by rw[<- xU (k:=x),Ux];cases ff m x<;>simp
theorem APD {s:A2P}(h:(dk s 0 != (116:Int))=false)(l:2<=s.size):(bl s).head? =some 116:=by
 have d:bl s=s.data.toList:=rfl;have a:=Av s;cases b:bl s with
 |nil=>rw[b] at a;simp at a;omega
 |cons c n=>
  have e:dk s 0=116:=by simpa using h
  have f:s.data.toList[0]? =some c:=by rw[<- d,b];rfl
  have o:(c.toNat:Int)=116:=by have:=Ng (i:=0) f;rw[<- e];exact this.symm
  have j:c.toNat=116:=by omega
  have:c=116:=by apply UInt8.toNat_inj.1;rw[j];rfl
  rw[this];rfl
theorem ANq {N:Nat}(a2:cp g)(E:bL g h q k st m)(hd:m.down=false)(aC:BD (ff m) D)(a3:(Ak D).names=st.ts.map (·.1))(bC:N<=99999999)(a4: ∀b,ff m (aX b)≠none->b<N)(a5:st.next<=N)(bD:st.ts.length<=100000)(a6:m.files.length<=8000000000000)
  (a7:m.fuel≠ -1-> ∀h' S' n,Cf h' q.b S' n->n.down=true->Mod (λc=>k c≠0) h h'->(∀ c,S' c->k c≠0\/h.size<=c)->BD (ff n) D->(∀ e,(∀ b,e≠aX b)->ff n e=ff m e)->(∀ b,ff n (aX b)≠none->ff m (aX b)≠none)->bd n.files<=bd m.files->R (J6 J9 30) h')
  (a8: ∀h' S' aD n ad,bL g h' {q with Sb:=S'} aD {st with next:=ad} n->JO m n->BD (ff n) D->(∀ e,(∀ b,e≠aX b)->ff n e=ff m e)->(∀ b,ff n (aX b)≠none->b∈st.ts.map (·.1))->st.next<=ad->ad<=N->bd n.files<=bd m.files->
   Mod (λc=>k c≠0) h h'->(∀ c,aD c≠0->k c≠0\/h.size<=c)->R (J6 J9 0) h'):AA A P Oa #[Az q.d] h R:=by
 refine AA2 ?_;unfold Tk;refine aF (Ab.mk (AL E.cell rfl) ?_);refine uO E.box λaf r ai S a9=>⟨af,_,rfl,?_⟩
 have ba:jy m=(m.files.map (·.name),0):=by unfold jy;rw[if_neg (by simp[hd])]
 rw[ba] at ai ⊢;refine ae.no rfl ?_;dsimp only at ai;have bb:=xV E.box.aO;have aj:=λx=>AQh (m:=m) (x:=x)
 have bE:(m.files.map (·.name)).length<=8000000000000:=by simpa using a6
 generalize m.files.map (·.name)=d at*
 have bc:=E.on S;have bF:=S.size;have v1:=ai.view;refine Loop.rule (λaE x u=> ∃(i:Nat) (H:Nat->Prop) (v:Nat->Nat) (l:Bx) (next:Nat),x=((i:Int),())/\aE=d.length-i/\i<=d.length/\bL g u {q with Sb:=H} v {st with next:=next} l/\JO m l/\BD (ff l) D/\(∀ e,(∀ b,e≠aX b)->ff l e=ff m e)/\(∀ e,e∉d.take i->ff l e=ff m e)/\
   (∀ b,aX b∈d.take i->b∉st.ts.map (·.1)->ff l (aX b)=none)/\(∀ b,ff l (aX b)≠none->ff m (aX b)≠none)/\st.next<=next/\next<=N/\bd l.files<=bd m.files/\Mod (λc=>k c≠0) r u/\Grow k v r.size) ?_
  ⟨0,q.Sb,k,m,st.next,rfl,rfl,AG _,bc,JO.refl hd,aC,λ_ _=>rfl,λ_ _=>rfl,by simp,λ_ h=>h,A0 _,a5,A0 _,Mod.refl,Grow.refl⟩
 rintro K aE _ u ⟨i,H,v,l,next,rfl,rfl,bG,I,J,T,U,aM,V,sub,aG,aH,W,L,M⟩ aI;dsimp only;have bH:=L.size;have aJ: ∀c,v c≠0->k c≠0\/h.size<=c:=λc f=>by
  by_cases ak:c<r.size
  ·rw[M c ak] at f;exact .inl f
  ·exact .inr (by omega)
 have be: ∀c,af.af=some c->k c=0:=λc f=>Decidable.byContradiction λh=>by
  have:=(E.own c h).2;have:=a9 c f;omega
 have bf:View IQ u af d:=v1.mod L λc f al=>al (be c f)
 rw[v1.len];refine ae.intro (λam=>?_) (λam=>?_)
 ·have B:i<d.length:=by have:=of_decide_eq_true am;omega
  have ag:d[i]? =some d[i]:=A2 B;have aK:d[i]∈d:=AT B;have X:d.take (i+1)=d.take i++ [d[i]]:=by rw[AD,ag];rfl
  have bg:d[i]∉d.take i:=λt=>by
   obtain⟨j,bh,o⟩:=DA t;have bI:j<i:=by have:=bh;simp at this;omega
   rw[List.getElem_take] at o;have:=(LN (h₀:=by omega) (h₁:=B) bb).1 o;omega
  rw[AZ (by omega)];refine ah.mk λbi aL=>?_
  rw[<- v1.len];refine bf.idx ag λa _ c=>AJ.mk c.str ?_
  have skip: ∀O Y,bL g O {q with Sb:=H} Y {st with next:=next} l->Mod (λc=>k c≠0) r O->Grow k Y r.size->(∀ b,d[i]=aX b->b∈st.ts.map (·.1))->bi () O:=λO Y Z an bj ao=>aL _ _ (by
   refine aI (d.length-(i+1)) _ _ (by omega) ⟨i+1,H,Y,l,next,rfl,rfl,B,Z,J,T,U,λe w=>aM e λt=>w (by rw[X];exact List.mem_append.2 (.inl t)),λb y aa=>?_,sub,aG,aH,W,an,bj⟩;rw[X] at y;rcases List.mem_append.1 y with y|y
   ·exact V b y aa
   ·exact absurd (ao b (List.mem_singleton.1 y).symm) aa)
  refine ah.mk λbk aN=>?_
  have aO:(∀ b,d[i]≠aX b)->bk (true,()) u:=λao=>aN _ _ (ae.yes rfl (skip u v I L M λb o=>absurd o (ao b)))
  have bm: ∀b,2<=(aX b).size:=λb=>by
   have r:=Av (aX b);rw[Wq] at r;have ap:=Lib.nDigits_pos b;have F:=Lib.decDigits_length b;rw[A6] at r;omega
  refine ae.intro (λaq=>?_) (λaq=>?_)
  ·have ap:=of_decide_eq_true aq;exact aO λb o=>by have:=bm b;rw[<- o] at this;omega
  ·have ap:2<=d[i].size:=by have:=of_decide_eq_false aq;omega
   refine⟨⟨GS _,by omega⟩,?_⟩;cases ar:(dk d[i] 0 != (116:Int)) with
   |true=>
    refine aO λb o=>?_
    have:dk d[i] 0=116:=by
     rw[o];have:=Ng (s:=aX b) (i:=0) (c:=116) (by
      have F:=Wq b;show(bl (aX b))[0]? =_;rw[F];rfl)
     exact this
    rw[this] at ar;cases ar
   |false=>
    obtain⟨b,z⟩:=aC.dr d[i] ((aj _).2 aK) (APD ar ap);have aP:ff m (aX b)≠none:=by rw[<- z];exact(aj _).2 aK
    have bJ:=a4 b aP;refine aN _ _ (ae.no rfl ⟨⟨by omega,by omega⟩,?_⟩);have bn:d[i].extract ((1:Int).toNat) d[i].size=AX (Lib.decDigits b):=by rw[show(1:Int).toNat=1 from rfl,qL,z];have:(aX b).data.toList=116::Lib.decDigits b:=Wq b;rw[this];rfl
    rw[bn];refine AQI (by omega) λO au=>⟨_,_,rfl,?_⟩
    have Z:=I.on au;have an:=L.trans (Ext.mod au);refine ah.mk λbK aQ=>⟨trivial,ae.yes rfl ?_⟩
    refine QN (Z.gO a2) (by omega) λaR av=>⟨_,rfl,?_⟩
    have G:=Z.on av;have aS:=an.trans (Ext.mod av);have bo:bM (aX b) d[i]=true:=by rw[z,CP];exact decide_eq_true rfl
    rw[bo];refine ae.yes rfl (aF (AY.mk (s:=q.np) (AB G.cell rfl) ?_));refine AIG G.names.view (by simp[dZ];omega) ⟨_,rfl,?_⟩;have aT:((b:Int)∈dZ ({st with next:=next}:Db))↔b∈st.ts.map (·.1):=by
     simp only[dZ,List.mem_map];constructor
     ·rintro⟨p,aw,o⟩;exact⟨p,aw,by omega⟩
     ·rintro⟨p,aw,o⟩;exact⟨p,aw,by omega⟩
    by_cases t:b∈st.ts.map (·.1)
    ·rw[decide_eq_true (aT.2 t)];exact aQ _ _ (ae.no rfl (skip aR v G aS M λac o=>by rw[z] at o;rw[<- JP o];exact t))
    rw[decide_eq_false λh=>t (aT.1 h)];refine aQ _ _ (ae.yes rfl ?_);refine aF (Ab.mk (AL G.cell rfl) ?_);have bp:(ff l (aX b)).isSome=true:=by
     rw[aM (aX b) (by rw[<- z];exact bg)];cases bq:ff m (aX b) with
     |none=>exact absurd bq aP
     |some p=>rfl
    rw[z];refine Wp G.box λaU ax ay aV aW=>⟨_,rfl,?_⟩
    have aY:Mod (λc=>k c≠0) r aU:=aS.then (aV.ai λc _ f=>by
     have aZ:v c≠0:=by rw[I.kb c f];decide
     by_cases ak:c<r.size
     ·rw[M c ak] at aZ;exact .inl aZ
     ·exact .inr (by omega))
    have bN:=(au.trans av).size;rcases RA (k:=aX b) J.up bp with⟨br,az⟩|⟨az,bs,Q⟩
    ·rw[az] at ay ⊢;refine ae.yes rfl ?_;refine a7 (λu=>by have:=J.calm u;rw[br] at this;cases this) aU ax (Mv l) ay rfl ((Ext.mod S).trans aY) (λc f=>?_) T U sub W;exact aJ c (by
      have:=I.kb c (aW c f);rw[this];decide)
    ·rw[az];refine ae.no rfl ?_;have aA:=G.boxed (j:=2) (bA:= {st with next:=next}) ay (aV.ai λc _ f=> .inl f) (λc f=> .inl (aW c f)) rfl rfl rfl rfl (.inl ⟨by decide,rfl,rfl⟩) (.inl ⟨by decide,rfl⟩);refine aF (AC.mk (AB aA.cell rfl) ?_);have bt:J8 J9 ((b:Int)+(1:Int))=((b+1:Nat):Int):=AZ (by omega);rw[bt];have bu:(if(((b+1:Nat):Int):Int)>((next:Nat):Int) then((b+1:Nat):Int) else((next:Nat):Int))=((max (b+1) next:Nat):Int):=by split<;>omega
     refine aF (ab.dj aA.cell (by simp) λbv a0 a1 bO=>?_);rw[bu] at a0;have bw:=aA.jk (h':=bv) (next:=max (b+1) next) (by simpa [dY] using a0) a1;have bx:Grow k (LQ v aR.size ax 2) r.size:=λc f=>by rw[GI (by omega)];exact M c f
     have bz:=ZT (m:=l) (aX b);refine aL _ _ ?_;refine aI (d.length-(i+1)) _ _ (by omega) ⟨i+1,ax,_,_,max (b+1) next,rfl,rfl,B,bw,J.trans bs,?_,λe w=>?_,λe w=>?_,λac C aa=>?_,λac C=>?_,by omega,by omega,A5 bz W,?_,bx⟩
     ·refine T.fO λx bB=>?_
      rw[Q,if_neg (bB b (by rw[a3];exact t))]
     ·rw[Q,if_neg (w b)];exact U e w
     ·rw[X] at w;simp only[Fl,Sp,not_or] at w;rw[Q,if_neg (by rw[<- z];exact w.2)];exact aM e w.1
     ·rw[Q];split
      ·rfl
      ·rename_i al;rw[X] at C;rcases List.mem_append.1 C with F|F
       ·exact V ac F aa
       ·exact absurd ((List.mem_singleton.1 F).trans z) al
     ·rw[Q] at C;split at C
      ·exact absurd rfl C
      ·exact sub ac C
     ·refine aY.trans (a1.ai λc _ f=>?_);have:c=q.d:=f;rw[this,E.kd];decide
 ·have B:i=d.length:=by have:=of_decide_eq_false am;omega
  subst B;rw[C5] at aM V;refine a8 u H v l next I J T U (λb y=>?_) aG aH W ((Ext.mod S).trans L) aJ
  by_cases t:b∈st.ts.map (·.1)
  ·exact t
  ·exact absurd (V b ((aj _).1 (sub b y)) t) y
end
theorem ANh {f:Type}{c:Nat->List f}{l:List Nat}{d:Nat}(g:l.Pairwise (· < ·))(h: ∀a∈l,a<d)(i: ∀a,a<d->a∉l->c a= []):(List.range d).flatMap c=l.flatMap c:=by
 have j:l=(List.range d).filter λa=>decide (a∈l):=by
  refine vv g (List.pairwise_lt_range.sublist Hc) λa=>?_
  simp only[List.mem_filter,Hb,decide_eq_true_eq];exact⟨λb=>⟨h a b,b⟩,λb=>b.2⟩
 have key: ∀L:List Nat,(∀ a∈L,a<d)->L.flatMap c=(L.filter λa=>decide (a∈l)).flatMap c:=by
  intro L
  induction L with
  |nil=>intro _;rfl
  |cons a L k=>
   intro e;rw[AI,AW,k λm n=>e m (An _ n)];by_cases b:a∈l
   ·rw[if_pos (by simpa using b),AI]
   ·rw[if_neg (by simpa using b),i a (e a (by simp)) b,CI]
 rw[key _ λa o=>List.mem_range.1 o,<-j]
theorem AOc {l:List Nat}(e:l.Pairwise (· < ·)){a:Nat}(d:a∈l):a<=l.getLast?.getD 0:=by
 cases b:l.getLast? with
 |none=>
  rw[List.getLast?_eq_none_iff] at b;subst b;cases d
 |some x=>
  show a<=x;obtain⟨f,rfl⟩:=List.getLast?_eq_some_iff.1 b;rcases List.mem_append.1 d with c|c
  ·exact Nat.le_of_lt ((List.pairwise_append.1 e).2.2 a c x (by simp))
  ·rw[List.mem_singleton.1 c];exact A0 _
theorem Xj {m:Bx}{b:A2P}{e:Nat}{g:Nat->List (List UInt8)}{l:List Nat}(hd:m.down=false)(n:Wt (ff m) b e g)(j:lS b m l)(y:1<=e/\e<=99999999):
  SQ b m l=((List.range e).flatMap g).map AX/\l.getLast?.getD 0+1<=e/\(∀ a,l.getLast?.getD 0+1<=a->a<=99999999->ff m (aC b a)=none):=by
 have o: ∀a,1<=a->a<=99999999->(a∈l↔ff m (aC b a)≠none):=λa h c=>by
  rw[j.mem,Ux];constructor
  ·rintro⟨_,_,d⟩ r;rw[r] at d;cases d
  ·intro d;refine⟨h,c,?_⟩;cases i:ff m (aC b a) with
   |none=>exact absurd i d
   |some p=>rfl
 have q: ∀a∈l,a<e:=λa f=>by
  obtain⟨h,c,_⟩:=(j.mem a).1 f;have k:=(o a h c).1 f;exact Decidable.byContradiction λd=>k (n.out a (by omega) c)
 have k:SQ b m l=l.flatMap λa=>(g a).map AX:=AQP hd λa f=>by
  obtain⟨h,c,_⟩:=(j.mem a).1 f;have k:=(o a h c).1 f;cases i:ff m (aC b a) with
  |none=>exact absurd i k
  |some p=>
   obtain⟨s,t⟩:=n.has a p h c i;refine⟨p,rfl,?_⟩;rw[s,YK,B9];have:(g a).map (bl∘AX)=g a:=by
    conv=>rhs;rw[<- KK (g a)]
    exact CT λx _=>EN x
   rw[this];exact t
 refine⟨?_,?_,λa f c=>?_⟩
 ·rw[k,Lz];refine(ANh j.inc q λa f u=>?_).symm;by_cases v:a=0
  ·rw[n.jJ a (.inl v)];rfl
  ·have i:ff m (aC b a)=none:=Decidable.byContradiction λd=>u ((o a (by omega) (by omega)).2 d)
   rw[n.gK a (by omega) (by omega) i];rfl
 ·cases w:l.getLast? with
  |none=>show 0+1<=e;omega
  |some x=>
   have:=q x (To w);show x+1<=e;omega
 ·exact Decidable.byContradiction λd=>by
   have:=AOc j.inc ((o a (by omega) c).2 d);omega
open Classical in
noncomputable def kM (Sb:Nat->Prop) (a nt ft b d:Nat) (tp np:Sl) (e T:Nat->Prop):Nat->Nat:=λc=>
 if Sb c then 2 else if c<a then 0 else if c=nt then 4 else if c=ft then 5 else if c=b then 1 else if c=d then 3 else if tp.af=some c then 6 else if np.af=some c then 7 else if e c then 5 else if T c then 8 else 0
theorem yL {Sb:Nat->Prop}{d nt ft e f:Nat}{tp np:Sl}{g T:Nat->Prop}{c:Nat}(h:kM Sb d nt ft e f tp np g T c≠0):Sb c\/(d<=c/\(c=nt\/c=ft\/c=e\/c=f\/tp.af=some c\/np.af=some c\/g c\/T c)):=by
 by_cases a:Sb c
 ·exact .inl a
 by_cases b:c<d
 ·exact absurd (by unfold kM;rw[if_neg a,if_pos b]) h
 refine .inr ⟨by omega,Classical.byContradiction λi=>h ?_⟩;simp only[not_or] at i;obtain⟨j,k,l,m,n,o,p,q⟩:=i;unfold kM;rw[if_neg a,if_neg b,if_neg j,if_neg k,if_neg l,if_neg m,if_neg n,if_neg o,if_neg p,if_neg q]
theorem bL.make {g h:aa}{q:Hp}{st:Db}{m:Bx}{N0 NB NC ND:Nat}(cell:h[q.d]? =some (J2 (dY q st false) Et (0,0)))(n:Cf h q.b q.Sb m)(log:EI h q.lg q.b nl st.az st.bq)(o:EI h q.nt q.b nn st.aL false)(fresh:M.cT h q.ft q.ns st.fr)
  (r:Own fG BF h q.tp q.ps) (x:q.ps.length=st.ts.length) (names:Own IC BN h q.np (dZ st)) (ext:Ext g h) (I:g.size<=N0) (s: ∀c,q.Sb c->g.size<=c/\c<N0)
  (J:N0<=q.nt) (K:q.nt<q.ft) (L:q.ft<q.d) (N:q.d<NB) (O:NB<=NC) (P:NC<=q.lg) (Q:q.lg<ND) (k: ∀c,q.np.af=some c->q.d<c/\c<NB) (l: ∀c,q.tp.af=some c->NB<=c/\c<NC) (u: ∀c,M.cQ q.ft q.ns c->c=q.ft\/ND<=c)
  (y: ∀(i:Nat) (t:Nat) (p:Nat×List Pr),q.ps[i]? =some t->st.ts[i]? =some p-> ∃e f,bX h t p.2 (Mh p.2) e f/\NB<=e/\f<=NC/\(∀ c,q.tp.af=some c-> ¬(e<=c/\c<f))/\Gv p.2) (R:NC<=h.size):
  ∃v,bL g h q v st m/\ ∀c,v c≠0->q.Sb c\/N0<=c:=by
 let T:Nat->Prop:=λc=>(NB<=c/\c<NC)/\q.tp.af≠some c
 have d: ∀c,N0<=c-> ¬q.Sb c:=λc b j=>by have:=(s c j).2;omega
 refine⟨kM q.Sb N0 q.nt q.ft q.d q.lg q.tp q.np (M.cQ q.ft q.ns) T,⟨cell,n,log,o,fresh,r,x,λi t p z A=>?_,names,?_,λc b=>?_,?_,?_,λc b=>?_,λc b=>?_,λc b=>?_,λc b=>?_,ext⟩,λc b=>?_⟩
 ·obtain⟨e,f,B,S,U,C,D⟩:=y i t p z A;refine⟨e,f,B,by omega,λc E F=>?_,D⟩;have w:T c:=⟨⟨by omega,by omega⟩,λa=>C c a ⟨E,F⟩⟩;have G: ¬M.cQ q.ft q.ns c:=λH=>by rcases u c H with h|h<;>omega
  unfold kM;rw[if_neg (d c (by omega)),if_neg (by omega),if_neg (by omega),if_neg (by omega),if_neg (by omega),if_neg (by omega),if_neg w.2,if_neg (λa=>by have:=k c a;omega),if_neg G,if_pos w]
 ·unfold kM;rw[if_neg (d _ (by omega)),if_neg (by omega),if_neg (by omega),if_neg (by omega),if_pos rfl]
 ·unfold kM;rw[if_pos b]
 ·unfold kM;rw[if_neg (d _ (by omega)),if_neg (by omega),if_neg (by omega),if_neg (by omega),if_neg (by omega),if_pos rfl]
 ·unfold kM;rw[if_neg (d _ (by omega)),if_neg (by omega),if_pos rfl]
 ·unfold kM;rcases u c b with rfl|h
  ·rw[if_neg (d _ (by omega)),if_neg (by omega),if_neg (by omega),if_pos rfl]
  ·rw[if_neg (d c (by omega)),if_neg (by omega),if_neg (by omega),if_neg (by omega),if_neg (by omega),if_neg (by omega),if_neg (λa=>by have:=l c a;omega),if_neg (λa=>by have:=k c a;omega),if_pos b]
 ·have:=l c b;unfold kM;rw[if_neg (d c (by omega)),if_neg (by omega),if_neg (by omega),if_neg (by omega),if_neg (by omega),if_neg (by omega),if_pos b]
 ·have:=k c b;unfold kM;rw[if_neg (d c (by omega)),if_neg (by omega),if_neg (by omega),if_neg (by omega),if_neg (by omega),if_neg (by omega),if_neg (λa=>by have:=l c a;omega),if_pos b]
 ·rcases yL b with j|⟨V,a|a|a|a|a|a|a|a⟩
  ·exact⟨(s c j).1,n.lt j⟩
  ·exact⟨by omega,by rw[a];exact Af o⟩
  ·exact⟨by omega,by rw[a];exact fresh.lt (.inl rfl)⟩
  ·exact⟨by omega,by rw[a];exact Af cell⟩
  ·exact⟨by omega,by rw[a];exact Af log⟩
  ·exact⟨by omega,r.lt a⟩
  ·exact⟨by omega,names.lt a⟩
  ·exact⟨by omega,fresh.lt a⟩
  ·exact⟨by omega,by have:=a.1.2;omega⟩
 ·exact(yL b).imp id λh=>h.1
end Go.Lf.G
