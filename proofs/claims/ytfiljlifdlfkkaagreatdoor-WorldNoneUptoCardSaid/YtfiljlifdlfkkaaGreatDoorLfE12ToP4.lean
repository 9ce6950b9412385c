/-
 Plain law: when a change's rows may be written, and what they make of the store's rows (chapter 19).
-/
import Derived.Test.YtfiljlifdlfkkaaGreatDoorLfZ21ToE11
import Derived.Test.YtfiljlifdlfkkaaGreatDoorLfKToGA
import Derived.Test.YtfiljlifdlfkkaaGreatDoorLfC2ToZ20
set_option maxRecDepth 100000
set_option linter.unusedVariables false
set_option linter.unusedSimpArgs false
open Go.IntKind renaming i64→J9,wrap→J8
open Go.Value renaming string→J7,int→J6,pointer→J5,slice→J4,bool→J3,tuple→J1
open Go.Obj renaming cells→J2
open Go renaming Value→J0,Addr→Q6,TypeId→Q7,FuncId→Q8,Program→Q1
open Go.Addr renaming add→Q9,mk→Q5
namespace Go.Lf.G
open Go
open M (Sorted Ab Bw BJ Af Ak BN Ah ba BB aH Az)
theorem PW {k v:A2Y}(a:k≠⟨#[]⟩)(b:k.size<=64)(c:v.size<=8192):Ah ⟨k,v,false⟩=0:=by unfold Ah;rw[if_neg (by simp[a]),if_neg (by simp;omega)]
theorem ur {k:A2Y}(a:k≠⟨#[]⟩)(b:k.size<=64):Ah ⟨k,⟨#[]⟩,true⟩=0:=by have z:(⟨#[]⟩:A2Y).size=0:=rfl;unfold Ah;rw[if_neg (by simp[a]),if_neg (by simp;omega)]
theorem Qm {a:A2Y}(b:0<a.size):a≠⟨#[]⟩:=λc=>by rw[c] at b;cases b
theorem uu: ∀ {l:List Pr},(∀ p∈l,Ah p=0)->Ga l=0
 | [],_=>rfl
 |x::l,a=>by
  unfold Ga;rw[if_neg (by rw[a x (by simp)];decide)];exact uu λp b=>a p (by simp[b])
theorem qe {l:List Pr}(a:l≠ [])(c:l.length<=64)(b: ∀p∈l,Ah p=0):GM l=0:=by unfold GM;rw[if_neg (by rw[Ts];exact a),if_neg (by omega)];exact uu b
theorem ATi {wid:A2Y}{a:Ev}(c:Am wid=true)(b:Er a=true):Ah (O6 wid a)=0:=by
 have d:=Fs c;have e:=ARy d a.id.toNat;have hd:=R6 b;have f:=AHA (NB b) (by omega);refine PW (Qm ?_) (by omega) ?_
 ·unfold dP;rw[AP];unfold kM;simp
 ·rw[AP];omega
theorem ATE {wid:A2Y}{st nx:Nat}{a:Bool}(b:Am wid=true)(c:st<128)(d:nx<=501):Ah ⟨Kg wid,R4 st nx a,false⟩=0:=by have e:=Fs b;have:=AMj (kept:=a) c d;exact PW (Qm (by rw[Tn];omega)) (by rw[Tn];omega) (by omega)
theorem AUz {a:A2Y}{x:List UInt8×Int×Int}(b:Am a=true)(c:0<=x.2.1/\x.2.1<=4)(d:0<=x.2.2/\x.2.2<=501)(e:x.1.length<=2000):Ah (fy a x)=0:=by have f:=Fs b;have g:=F3 (n:=x.2.1.toNat) (by omega);have h:=F3 (n:=x.2.2.toNat) (by omega);have i:=AZ (n:=x.1.length) (by omega);refine PW (Qm (by rw[Wz];omega)) (by rw[Wz];omega) ?_;unfold iC BX;rw[AP];simp only[A1];omega
theorem ZI {t:fE}{wid:A2Y}{sh num:Nat}{tick:Int}(a:Hq t wid=true):Ah ⟨ND sh tick num,fV t wid,false⟩=0/\(BL (ND sh tick num)≠104/\BL (ND sh tick num)≠119/\BL (ND sh tick num)≠114)/\BL (ND sh tick num)≠108:=by
 unfold Hq at a;simp only[A3,Ba] at a;obtain⟨⟨⟨⟨c,d⟩,b⟩,e,f⟩,g,h⟩:=a;have:=zP (kind:=t.kind.toNat) (wid:=wid) (ref:=t.ref.toNat) (turn:=t.turn.toNat) (by omega) (Fs b) (by omega) (by omega);unfold ND fV;split
 ·rw[QT];exact⟨PW (Qm (by rw[Nv];omega)) (by rw[Nv];omega) (by omega),⟨by decide,by decide,by decide⟩,by decide⟩
 ·rw[zN];exact⟨PW (Qm (by rw[zJ];omega)) (by rw[zJ];omega) (by omega),⟨by decide,by decide,by decide⟩,by decide⟩
end Go.Lf.G
namespace Go.Lf
open G
open Go
open M (Sorted Ab Bw BJ Af Ak BN Ah ba BB aH Az)
def bd.fits(a:bd)(b:List Ev):Prop:=Ew TM (b++a.more)=some a.st
end Go.Lf
namespace Go.Lf.G
open Go
open M (Sorted Ab Bw BJ Af Ak BN Ah ba BB aH Az)
theorem Ma {a:bd}{c:List Ev}{d:Ev}(b:a.fits c):(Di a d).fits c:=by
 unfold Di;split
 ·exact b
 ·split
  ·exact b
  ·split
   ·exact b
   ·rename_i e;have e:(Bh a.st (CU a d)).1=0:=by simpa using e
    show Ew TM (c++(a.more++ [CU a d]))=_;rw[<- A4];exact zD b e
theorem WX {a:bd}{c:List Ev}{t:fE}{tick:Int}{b:Nat}(d:a.fits c):(EB a t tick b).fits c:=by unfold bd.fits;rw[(Ht a t tick b).1,(Ht a t tick b).2];exact d
theorem uv {a:bd}{b:List Ev}{c f:Nat}(d:a.fits b):(BA a c f).fits b:=by
 have e:(Et a c).fits b:=by
  unfold Et;split
  ·exact WX (Ma d)
  ·exact d
 unfold BA;split
 ·exact WX e
 ·exact e
abbrev iR:=Option (A2Y×(List UInt8×Int×Int))
end Go.Lf.G
namespace Go.Lf
open G
open Go
open M (Sorted Ab Bw BJ Af Ak BN Ah ba BB aH Az)
structure bd.beside (C:bd) (o:iR):Prop where
 ok: ∀p∈C.ar,Ah p=0
 eg: ∀p∈C.ar,(BL p.key≠104/\BL p.key≠119/\BL p.key≠114)\/ ∃r x,o=some (r,x)/\p=fy r x
 kP: ∀p∈C.ar,BL p.key≠108
end Go.Lf
namespace Go.Lf.G
open Go
open M (Sorted Ab Bw BJ Af Ak BN Ah ba BB aH Az)
theorem NG {a:bd}{c:iR}(b:a.beside c)(d:Ev):(Di a d).beside c:=by have:=(PS a d).2.2.2.2.2.1;exact⟨by rw[this];exact b.ok,by rw[this];exact b.eg,by rw[this];exact b.kP⟩
theorem Vw {d:bd}{f:iR}(a:d.beside f)(t:fE)(tick:Int)(g:Nat):(EB d t tick g).beside f:=by
 unfold EB;split
 ·exact a
 ·split
  ·exact⟨a.ok,a.eg,a.kP⟩
  ·rename_i c;have c:Hq t d.wid=true:=by simpa using c
   refine⟨λp e=>?_,λp e=>?_,λp e=>?_⟩<;>rcases List.mem_append.1 e with b|b
   ·exact a.ok p b
   ·rw[List.mem_singleton.1 b];exact(ZI c).1
   ·exact a.eg p b
   ·rw[List.mem_singleton.1 b];exact .inl (ZI c).2.1
   ·exact a.kP p b
   ·rw[List.mem_singleton.1 b];exact(ZI c).2.2
theorem Zz {a:bd}{b:iR}(c:a.beside b)(d f:Nat):(BA a d f).beside b:=by
 have e:(Et a d).beside b:=by
  unfold Et;split
  ·exact Vw (NG c _) _ _ _
  ·exact c
 unfold BA;split
 ·exact Vw e _ _ _
 ·exact e
theorem AKx {d:bd}{b:A2Y}{x:List UInt8×Int×Int}(a:d.beside none)(e:Am b=true)(f:0<=x.2.1/\x.2.1<=4)(g:0<=x.2.2/\x.2.2<=501)(h:x.1.length<=2000):(oN d (LA b) (iC x.1 x.2.1.toNat x.2.2.toNat)).beside (some (b,x)):=by
 refine⟨λp c=>?_,λp c=>?_,λp c=>?_⟩<;>rcases List.mem_append.1 c with q|q
 ·exact a.ok p q
 ·rw[List.mem_singleton.1 q];exact AUz e f g h
 ·rcases a.eg p q with a|⟨i,j,a,_⟩
  ·exact .inl a
  ·cases a
 ·exact .inr ⟨b,x,rfl,List.mem_singleton.1 q⟩
 ·exact a.kP p q
 ·rw[List.mem_singleton.1 q];show BL (LA b)≠108;rw[KY];decide
theorem uw(a:bd)(b:Ev):(Di a b).ar=a.ar:=(PS a b).2.2.2.2.2.1
theorem ux {b:bd}{p:Pr}(a:p∈b.ar)(t:fE)(tick:Int)(c:Nat):p∈(EB b t tick c).ar:=by
 unfold EB;split
 ·exact a
 ·split
  ·exact a
  ·exact Hb _ a
theorem AO2 {a:bd}{p:Pr}(b:p∈a.ar)(c e:Nat):p∈(BA a c e).ar:=by
 have d:p∈(Et a c).ar:=by
  unfold Et;split
  ·exact ux (by rw[uw];exact b) _ _ _
  ·exact b
 unfold BA;split
 ·exact ux d _ _ _
 ·exact d
theorem Jc.note {n b:List Pr}{v:cn}{j:cL}{i:iR}(f:Jc n v j)(s:Sorted n)(k:fh b i):Jc (cu n b) v (qa j i):=by
 have w: ∀p∈b,BL p.key≠104/\BL p.key≠119:=λp A=>by
  rcases k.eg p A with l|⟨a,x,_,rfl⟩
  ·exact⟨l.1,l.2.1⟩
  ·exact⟨by show BL (LA a)≠104;rw[KY];decide,by show BL (LA a)≠119;rw[KY];decide⟩
 refine⟨λm o B y=>?_,λm o=>?_,λa z=>?_,f.cR,λa x e=>?_⟩
 ·rw[Ky s λq d c=>(w q d).1 (by rw[c];exact se y)];exact f.cy m o B y
 ·rw[Ky s λq d c=>(w q d).2 (by rw[c];exact F8 m)];exact f.fH m o
 ·have no: ∀q∈b,q.key=LA a-> ∃x,i=some (a,x)/\q=fy a x:=λq d c=>by
   have C:=(congrArg BL c).trans (KY a);rcases k.eg q d with l|⟨g,x,D,rfl⟩
   ·exact absurd C l.2.2
   ·have:g=a:=zM c;subst this;exact⟨x,D,rfl⟩
  cases i with
  |none=>
   rw[Ky s λq d c=>?_,f.jX a z]
   ·rfl
   ·obtain⟨x,e,_⟩:=no q d c;cases e
  |some r=>
   obtain⟨g,x⟩:=r;show _=(cU j g x a).map (fy a);by_cases h:a=g
   ·subst h;rw[IB];refine(na (p:=fy a x) s (k.has a x rfl).1 λq d c=>?_).trans rfl;obtain⟨t,u,rfl⟩:=no q d c;cases u;rfl
   ·rw[Sy h,Ky s λq d c=>?_,f.jX a z];obtain⟨t,u,_⟩:=no q d c;cases u;exact h rfl
 ·cases i with
  |none=>exact f.jY a x e
  |some r=>
   obtain⟨g,t⟩:=r;have e:cU j g t a=some x:=e;by_cases h:a=g
   ·subst h;rw[IB] at e;cases e;exact(k.has a x rfl).2.2
   ·rw[Sy h] at e;exact f.jY a x e
theorem qf {a:bd}{b:List Ev}{g:Nat}(c:a.fits b)(e:b++a.more≠ [])(f:DI a.st g):OW (b++a.more)/\BP (b++a.more)=a.st:=by
 have d:BP (b++a.more)=a.st:=by unfold BP;rw[c];rfl
 have nx:=zF c e;have:=f.next;exact⟨⟨e,by omega,by rw[d];exact c,by rw[d];exact f.st⟩,d⟩
theorem ARN {a:Type}{f:A2Y->Option a}{b:A2Y}{x:a}(c:f b=some x):cU f b x=f:=by
 funext q;unfold cU;split
 ·rename_i d;rw[d,c]
 ·rfl
theorem Jc.done {c:List Pr}{a:cn}{g:cL}{D:bd}{o:iR}{k:Nat}(h:Jc c a g)(s:Sorted c)(m:Am D.wid=true)(n:D.fits ((a D.wid).getD []))(b:(a D.wid).getD []++D.more≠ [])(p:DI D.st k)(q:D.beside o)
  (has: ∀d x,o=some (d,x)->fy d x∈D.ar/\Am d=true/\(0<=x.2.1/\x.2.1<=4)/\(0<=x.2.2/\x.2.2<=501)/\x.1.length<=2000):
  Jc (cu c (Dh D++D.ar)) (cU a D.wid ((a D.wid).getD []++D.more)) (qa g o):=by
 have i:fh D.ar o:=⟨q.eg,has⟩;obtain⟨r,t⟩:=qf n b p;by_cases e:D.more= []
 ·have f:Dh D= []:=by unfold Dh;rw[e];rfl
  rw[f,CT];have:cU a D.wid ((a D.wid).getD []++D.more)=a:=by
   rw[e,AI] at b ⊢;cases j:a D.wid with
   |none=>rw[j] at b;exact absurd rfl b
   |some l=>exact ARN j
  rw[this];exact h.note s i
 ·have f:Dh D++D.ar=D.more.map (O6 D.wid)++([VG D.wid ((a D.wid).getD []++D.more)]++D.ar):=by unfold Dh VG;rw[if_neg e,A4,t]
  rw[f];exact h.land s m r i
theorem uy {e:List Pr}{c:cn}{h:cL}{a:bd}(i:Jc e c h)(j:Am a.wid=true)(b:match c a.wid with|none=>a.bP=0|some l=>a.bW=(BP l).status/\a.bP=(BP l).next/\a.kept=false/\0<a.bP):Be e (bo a)=true:=by
 have g:=i.eG j;cases f:c a.wid with
 |none=>
  rw[f] at b g;have b:a.bP=0:=b;have d:bo a=⟨Kg a.wid,⟨#[]⟩,true⟩:=by unfold bo;rw[if_neg (by omega)]
  rw[d];unfold Be;rw[if_pos rfl,g];rfl
 |some l=>
  rw[f] at b g;obtain⟨k,m,n,o⟩:=b;have d:bo a=⟨Kg a.wid,R4 a.bW.toNat a.bP.toNat a.kept,false⟩:=by unfold bo;rw[if_pos o]
  rw[d];unfold Be;rw[if_neg (by simp),g,k,m,n];simp
theorem APS {b:List Pr}{d:cn}{c:cL}{a:A2Y}(e:Jc b d c)(f:Am a=true)(h:c a=none):Be b ⟨LA a,⟨#[]⟩,true⟩=true:=by unfold Be;have g:=e.fq f;rw[h] at g;rw[if_pos rfl,g];rfl
theorem uz {b:bd}{g:Nat}(d:Am b.wid=true)(ok: ∀c∈b.more,Er c=true/\c.data.size<1099511627776)(e:DI b.st g): ∀p∈Dh b,Ah p=0:=by
 intro p f;have st:=e.st;have nx:=e.next;unfold Dh at f;rcases List.mem_append.1 f with a|a
 ·obtain⟨c,h,rfl⟩:=List.mem_map.1 a;exact ATi d (ok c h).1
 ·split at a
  ·cases a
  ·rw[List.mem_singleton.1 a];exact ATE d (by omega) (by omega)
theorem uA(a:bd):(Dh a).length<=a.more.length+1:=by unfold Dh;rw[A1,AT];split<;>simp
theorem uB {f e:List Pr}{a:bd}{g:iR}{h:Nat}(i:Am a.wid=true)(ok: ∀d∈a.more,Er d=true/\d.data.size<1099511627776)(j:DI a.st h)(k:a.beside g)(n:a.more.length+1+a.ar.length<=64)(l:Dh a++a.ar≠ [])(o:e.length<=64)(b: ∀c∈e,Be f c=true):de f e (Dh a++a.ar)=0:=by
 have q:=uA a;have d:GM (Dh a++a.ar)=0:=qe l (by rw[A1];omega) λp m=>by
  rcases List.mem_append.1 m with b|b
  ·exact uz i ok j p b
  ·exact k.ok p b
 unfold de;rw[if_neg (by omega),if_neg (by rw[d];decide),if_pos (List.all_eq_true.2 b)]
theorem Tg(a:Nat):BL (CS a)=108:=by unfold BL CS;rw[Fg];rfl
theorem uC {d:List Pr}{b:bd}{i:iR}(s:Sorted d)(j:b.beside i)(e g:Nat)(h:A2Y):Be (cu d (Dh b++b.ar)) (FW e g h)=Be d (FW e g h):=by
 have f:Ab (CS e) (cu d (Dh b++b.ar))=Ab (CS e) d:=Ky s λq k l=>by
  have c:=(congrArg BL l).trans (Tg e);rcases List.mem_append.1 k with a|a
  ·unfold Dh at a;rcases List.mem_append.1 a with a|a
   ·obtain⟨f,_,rfl⟩:=List.mem_map.1 a;rw[show BL (O6 b.wid f).key=104 from XB _ _] at c;exact absurd c (by decide)
   ·split at a
    ·cases a
    ·rw[List.mem_singleton.1 a] at c;rw[show BL (Kg b.wid)=119 from F8 _] at c;exact absurd c (by decide)
  ·exact j.kP q a c
 rw[PQ,PQ];unfold JM;rw[f]
def Mf(x:bN)(p:bL):List UInt8:=Bt x.kind.toNat++(BX (bl x.wid)++(BX (if x.kind=2 then bl x.name else [])++(if x.kind=1 then Ce p else [])))
def RZ(x:bN)(p:bL):Int:=if x.kind=1/\GJ p=false then 130 else if(x.kind=2/\Am x.name=false)\/Am x.wid=false\/Am x.bj=false then 1 else 0
theorem kq {x:bN}{p:bL}(h:RZ x p=0):(x.kind=1->GJ p=true)/\(x.kind=2->Am x.name=true)/\Am x.wid=true/\Am x.bj=true:=by
 unfold RZ at h;split at h
 ·cases h
 ·rename_i b;split at h
  ·cases h
  ·rename_i a;simp only[not_or,not_and,Bool.not_eq_false] at b a;exact⟨b,a.1,a.2⟩
theorem TH {p:bL}(ok:GJ p=true):(Ce p).length<=1700:=by simp only[GJ,A3,decide_eq_true_eq] at ok;obtain⟨⟨c,a⟩,b⟩:=ok;have d:=Ba.1 a;have:=Ql b;have e:=AZ (n:=p.au.toNat) (by omega);have f:=AZ (n:=p.steps.length) (by omega);unfold Ce;simp only[A1];omega
theorem ASG {x:bN}{p:bL}(h:RZ x p=0)(f:1<=x.kind/\x.kind<=4):(Mf x p).length<=2000:=by
 obtain⟨a,b,c,g⟩:=kq h;have i:=Fs c;have j:=F3 (n:=x.kind.toNat) (by omega);have k:=Ll (s:=x.wid) (by omega);have l:(BX (if x.kind=2 then bl x.name else [])).length<=30:=by
  split
  ·rename_i d;have:=Fs (b d);have:=Ll (s:=x.name) (by omega);omega
  ·have:=AZ (n:=0) (by omega);show(Bt 0++ []).length<=30;rw[AI];omega
 have m:(if x.kind=1 then Ce p else []).length<=1700:=by
  split
  ·rename_i e;exact TH (a e)
  ·simp
 unfold Mf;simp only[A1];omega
section
variable {A : ao} {h : aa} {R : A2X}
theorem APt {x:bN}{p:bL}(V:View TF h x.steps p.steps)(M:x.au=p.au)(len:p.steps.length<=1099511627776)(ao:1<=x.kind/\x.kind<=4)
  (w: ∀d,Ext h d->R (J1 #[J7 (if RZ x p=0 then Ae (Mf x p) else⟨#[]⟩),J6 J9 (RZ x p)]) d):AA A P OQ #[x.v] h R:=by
 refine ABn ?_;unfold Uh;refine ai.mk λg _ i j ap=>ah.mk λK N=>?_
 have y: ∀(n:Int) d,Ext h d->RZ x p=n->n≠0->R (J1 #[J7 ⟨#[]⟩,J6 J9 n]) d:=λn d O Q r=>by
  have:=w d O;rw[Q,if_neg r] at this;exact this
 have z: ∀(ps:List UInt8) (a:aa),Ext g a->(x.kind=1->GJ p=true/\ps=Ce p)->(x.kind≠1->ps= [])->K (Ae ps,()) a:=λps a e k B=>by
  have b:=e.ag i λh=>h
  have aq:ps.length<=1700:=by
   by_cases h:x.kind=1
   ·rw[(k h).2];exact TH (k h).1
   ·rw[B h];simp
  have C: ¬(x.kind=1/\GJ p=false):=λh=>by have:=(k h.1).1;rw[h.2] at this;cases this
  refine N _ _ (ah.mk λt S=>?_);have u: ∀m:Bool,(m=true↔(x.kind=2/\Am x.name=false)\/Am x.wid=false\/Am x.bj=false)->t (m,()) a:=λm D=>by
   refine S _ _ (ab.intro (λf=>y 1 a (j.trans e) (by unfold RZ;rw[if_neg C,if_pos (D.1 f)]) (by decide)) (λf=>?_));have f:m=false:=f;have T: ¬((x.kind=2/\Am x.name=false)\/Am x.wid=false\/Am x.bj=false):=λh=>by rw[D.2 h] at f;cases f
   have E:RZ x p=0:=by unfold RZ;rw[if_neg C,if_neg T]
   obtain⟨g1,U,W,ar⟩:=kq E;have au:=Fs W;refine AL.mk (n:=x.name) (AB b rfl) (ah.mk λX Y=>?_);have F: ∀c:List UInt8,c=(if x.kind=2 then bl x.name else [])->X (Ae c,()) a:=λc G=>by
    have nl:c.length<=16:=by
     rw[G];split
     ·rename_i Z;rw[BF];exact Fs (U Z)
     ·simp
    refine Y _ _ (AC.mk (n:=x.kind) (AO b rfl) (AL.mk (n:=x.wid) (AB b rfl) ?_));rw[Po (by omega) (by omega)];refine Cj (by omega) λav H=>⟨_,rfl,AB (H.ag b λh=>h) rfl,LU (by omega) λaw ac=>⟨_,rfl,?_⟩⟩
    have ax:=F3 (n:=x.kind.toNat) (by omega);have ay:=Ll (s:=x.wid) (by omega);have az:(BX c).length<=30:=by unfold BX;rw[A1];have:=AZ (n:=c.length) (by omega);omega
    refine⟨by rw[AP,AP,max_i64];omega,?_⟩;rw[Aq];refine Sn (l:=c) (by omega) λae af=>⟨_,rfl,⟨by rw[AP,AP,A1,max_i64];omega,?_⟩⟩
    rw[Aq];refine⟨by rw[AP,AP,A1,A1,max_i64];omega,?_⟩;rw[Aq];have:=w ae ((((j.trans e).trans H).trans ac).trans af);rw[E,if_pos rfl] at this;have ag:Mf x p=((Bt x.kind.toNat++BX (bl x.wid))++BX c)++ps:=by
     unfold Mf;rw[G];simp only[A4];congr 3;split
     ·rename_i h;rw[(k h).2]
     ·rename_i h;rw[B h]
    rw[ag] at this;exact this
   refine AC.mk (n:=x.kind) (AO b rfl) (ab.intro (λq=>?_) (λq=>?_))
   ·have q:x.kind≠2:=by simpa using q
    exact F [] (by rw[if_neg q])
   ·have q:x.kind=2:=by simpa using q
    have:=F (bl x.name) (by rw[if_pos q]);rw[Qs] at this;exact this
  have rest:(x.kind=2->Am x.name=true)->AL a ((⟨h.size,0,none⟩:Q6).add 2) λaj=>AA A P Bn #[J7 aj] a λak v=> ∃I:Bool,ak=J3 I/\(ab (!I) (t (true,()) v) (
    AL v ((⟨h.size,0,none⟩:Q6).add 1) λal=>AA A P Bn #[J7 al] v λam an=> ∃J:Bool,am=J3 J/\(t ((!J),()) an))):=λr=>
   AL.mk (n:=x.wid) (AB b rfl) (Fa ⟨_,rfl,ab.intro (λq=>u true (by simp at q;simp[q])) λq=>AL.mk (n:=x.bj) (AB b rfl) (Fa ⟨_,rfl,u _ (by
    have q:Am x.wid=true:=by simpa using q
    simp only[q,Cd,Bool.true_eq_false,false_or];constructor
    ·exact .inr
    ·rintro(⟨g,a⟩|h)
     ·rw[r g] at a;cases a
     ·exact h)⟩)⟩)
  refine AC.mk (n:=x.kind) (AO b rfl) (ab.intro (λq=>?_) (λq=>?_))
  ·have q:x.kind=2:=by simpa using q
   refine AL.mk (n:=x.name) (AB b rfl) (Fa ⟨_,rfl,ab.intro (λo=>u true (by simp at o;simp[q,o])) λo=>rest λ_=>by simpa using o⟩)
  ·have q:x.kind≠2:=by simpa using q
   exact rest λh=>absurd h q
 refine AC.mk (n:=x.kind) (AO i rfl) (ab.intro (λq=>?_) (λq=>?_))
 ·have q:x.kind=1:=by simpa using q
  refine AV.mk (s:=x.steps) (AB i rfl) (AC.mk (n:=x.au) (Ct (by exact i) rfl) ?_);rw[M];refine vv (V.ext j) len λa e=>?_
  unfold Zm;cases L:GJ p with
  |false=>exact⟨_,_,rfl,ab.yes rfl (y 130 a (j.trans e) (by unfold RZ;rw[if_pos ⟨q,L⟩]) (by decide))⟩
  |true=>exact⟨_,_,rfl,ab.no rfl (z (Ce p) a e (λ_=>⟨L,rfl⟩) λh=>absurd q h)⟩
 ·have q:x.kind≠1:=by simpa using q
  exact z [] g Mod.refl (λh=>absurd h q) λ_=>rfl
end
def dp(a:Int)(b:A2Y):Ev:=⟨0,a,0,0,0,0,false,b⟩
def CF(b:Option (List Ev))(wid:A2Y)(a:Nat)(now:Int):bd:=match b with
 |none=>Gy wid a 0 0 false TM now
 |some l=>Gy wid a (BP l).status (BP l).next false (BP l) now
def uD(p:bL)(now:Int):Int:=if(0:Int)>now+p.au then 0 else now+p.au
def DL(x:bN)(p:bL)(a:bd)(b:Nat):bd:=
 if x.kind=1 then(if 0<p.au then EB (Di a (dp 1 (Ae (Ce p)))) ⟨6,0,0⟩ (uD p a.now) b else Di a (dp 1 (Ae (Ce p))))
 else if x.kind=2 then Di a (dp 12 x.name)
 else if x.kind=3 then(if a.st.cancel=true then a else Di a (dp 13 ⟨#[]⟩))
 else Di a (dp 18 ⟨#[]⟩)
def GI(x:bN)(p:bL)(a:bd)(b:Nat):bd:=oN (DL x p a b) (LA x.bj) (iC (Mf x p) (DF (DL x p a b)).1.toNat (DF (DL x p a b)).2.toNat)
def Pk(b:cn)(c:cL)(d:Nat)(x:bN)(p:bL):Option (Int×Int×Int):=
 if x.kind<1\/4<x.kind then some (1,0,0)
 else if RZ x p≠0 then some (RZ x p,0,0)
 else if d=0 then some (170,0,0)
 else match c x.bj with
  |some a=>if a.1≠Mf x p then some (184,0,0) else some (0,a.2.1,a.2.2)
  |none=>match b x.wid with
   |none=>if x.kind=1 then none else some (180,0,0)
   |some l=>if x.kind=1 then some (181,0,0) else if(BP l).status≠0 then some (182,0,0) else none
theorem ALt {a:Option (List Ev)}{wid:A2Y}{n:Nat}{now:Int}(h: ∀l,a=some l->OW l):DI (CF a wid n now).st 500/\(CF a wid n now).more= []/\(CF a wid n now).ar= []/\(CF a wid n now).conds= []/\(CF a wid n now).wid=wid/\(CF a wid n now).aj=n/\(CF a wid n now).now=now/\(CF a wid n now).fits (a.getD []):=by
 cases a with
 |none=>exact⟨DI.zero.up (by omega),rfl,rfl,rfl,rfl,rfl,rfl,rfl⟩
 |some l=>
  have b:=h l rfl;refine⟨?_,rfl,rfl,rfl,rfl,rfl,rfl,?_⟩
  ·have:=Qz DI.zero b.ok;exact this.up (by have:=b.len;omega)
  ·show Ew TM (l++ [])=some (BP l);rw[AI];exact b.ok
theorem APd {x:bN}{p:bL}{a:bd}{num b:Nat}(s:RZ x p=0)(ok: ∀e∈a.more,Er e=true/\e.data.size<1099511627776)(t:DI a.st b):a.grown (DL x p a num) (b+1) 1 1:=by
 obtain⟨u,v,y,B⟩:=kq s;have g0:=Ye ok t;have z:(⟨#[]⟩:A2Y).size<1099511627776:=by decide
 have up: ∀ {c:bd},a.grown c (b+1) 1 0->a.grown c (b+1) 1 1:=λ{c} ⟨g1,d,f,g,i,j,k,q,l,w,m,n⟩=>⟨g1,d,f,g,i,j,k,q,l,by omega,m,n⟩
 unfold DL;split
 ·rename_i o;have r:(dp 1 (Ae (Ce p))).data.size<1099511627776:=by show(Ae (Ce p)).size<_;have:=TH (u o);rw[AP];omega
  split
  ·exact Yi (NE g0 r) _ _ _
  ·exact up (NE g0 r)
 ·split
  ·rename_i o;exact up (NE g0 (e:=dp 12 x.name) (by have:=Fs (v o);show x.name.size<_;omega))
  ·split
   ·split
    ·obtain⟨g1,d,f,g,i,j,k,q,l,w,m,n⟩:=g0;exact⟨g1,d,f,g,i,j,k,by omega,l,by omega,m,n.up (FG _)⟩
    ·exact up (NE g0 z)
   ·exact up (NE g0 z)
theorem ASq {x:bN}{p:bL}{a:bd}{c:Nat}{b:List Ev}(h:a.fits b):(DL x p a c).fits b:=by
 unfold DL;split
 ·split
  ·exact WX (Ma h)
  ·exact Ma h
 ·split
  ·exact Ma h
  ·split
   ·split
    ·exact h
    ·exact Ma h
   ·exact Ma h
theorem AMf {x:bN}{p:bL}{c:bd}{d:Nat}(h:c.ar= []):(DL x p c d).beside none:=by
 have b:c.beside none:=⟨(λp a=>by rw[h] at a;cases a),(λp a=>by rw[h] at a;cases a),(λp a=>by rw[h] at a;cases a)⟩;unfold DL;split
 ·split
  ·exact Vw (NG b _) _ _ _
  ·exact NG b _
 ·split
  ·exact NG b _
  ·split
   ·split
    ·exact b
    ·exact NG b _
   ·exact NG b _
theorem uE {b:bd}{c:Ev}(h:(Di b c).err=0):b.err=0:=by
 unfold Di at h;split at h
 ·rename_i a;exact absurd h a
 ·rename_i a;simpa using a
theorem qg {a:bd}{b:Ev}(h:(Di a b).err=0):Di a b= {a with st:=(Bh a.st (CU a b)).2,more:=a.more++ [CU a b]}/\(Bh a.st (CU a b)).1=0:=by
 have d:=uE h;unfold Di at h ⊢;rw[if_neg (by simp[d])] at h ⊢;split at h
 ·cases h
 ·rename_i e;rw[if_neg e];split at h
  ·rename_i c;exact absurd h c
  ·rename_i c;rw[if_neg c];exact⟨rfl,by simpa using c⟩
theorem ARQ {a:bd}{b:Nat}(h:(Et a b).err=0):a.err=0:=by
 unfold Et at h;split at h
 ·exact uE (ZQ h)
 ·exact h
theorem uF {a:bd}{c d:Nat}(h:(BA a c d).err=0):(BA a c d).st.status=(DF a).1/\(BA a c d).st.next=(DF a).2:=by
 have g:=XD h;have j:(BA a c d).st=(Et a c).st:=by
  unfold BA;split
  ·exact(Ht _ _ _ _).1
  ·rfl
 rw[j];unfold DF;by_cases e:EN a=true
 ·rw[if_pos e];unfold Et at g ⊢;rw[if_pos e] at g ⊢;rw[(Ht _ _ _ _).1];obtain⟨k,b⟩:=qg (ZQ g);rw[k];show(Bh a.st (CU a Ry)).2.status=_/\(Bh a.st (CU a Ry)).2.next=_;have ok:=SG b;unfold Bh at b ⊢;rw[if_neg (by simp[ok])] at b ⊢;split at b
  ·rename_i i;rw[if_neg (λh=>by have h:(2:Int)=1:=h.1;cases h)] at b;cases b
  ·rename_i i;rw[if_neg i];split at b
   ·cases b
   ·rename_i l;rw[if_neg l];split at b
    ·cases b
    ·rename_i m;rw[if_neg m];cases f:Qx a.st (CU a Ry) with
     |none=>rw[f] at b;cases b
     |some t=>
      unfold Qx at f;rw[if_pos (show 2<=(CU a Ry).kind/\(CU a Ry).kind<=5 from(by decide:(2:Int)<=2/\(2:Int)<=5))] at f;obtain⟨u,n,rfl⟩:=Option.map_eq_some_iff.1 f;exact⟨(Rk n).2.2.2,rfl⟩
 ·rw[if_neg e];unfold Et;rw[if_neg e];exact⟨rfl,rfl⟩
structure Hs.cV (y y':Hs):Prop where
 p:y'.p=y.p
 name:y'.name=y.name
 f:y'.f=y.f
 u: ∀m,y.u m<=y'.u m/\y'.u m<=y.u m+3
theorem aR.less {g:aa}{O O':Nat->Prop}{c:Nat}(h:aR g O' c)(b: ∀c,O c->O' c):aR g O c:=⟨h.1,λd=>h.2 (b c d)⟩
theorem Tc(wid:A2Y){n:Nat}(h:1<=n):Ao wid n<n:=BY _ h
section
variable {A : ao} {B : cX} {g h : aa} {s a N sh : Nat} {l : List Hs} {mp : List Pr} {O : Nat -> Prop} {i : Nat} {y : Hs} {fl : cn} {an : cL} {R : A2X}
def nf(b:bd):Option (List Ev)->Prop
 |none=>b.bP=0
 |some l=>b.bW=(BP l).status/\b.bP=(BP l).next/\b.kept=false/\0<b.bP
theorem AUi {b:Option (List Ev)}{wid:A2Y}{n:Nat}{now:Int}(h: ∀l,b=some l->OW l):(0<=(CF b wid n now).bW/\(CF b wid n now).bW<=4)/\(0<=(CF b wid n now).bP/\(CF b wid n now).bP<=501)/\nf (CF b wid n now) b:=by
 cases b with
 |none=>exact⟨⟨(by decide:(0:Int)<=0),(by decide:(0:Int)<=4)⟩,⟨(by decide:(0:Int)<=0),(by decide:(0:Int)<=501)⟩,rfl⟩
 |some l=>
  have c:=h l rfl;have st:=c.st;have nx:=c.next.1;have d:=c.len;exact⟨st,⟨by show 0<=(BP l).next;omega,by show(BP l).next<=501;omega⟩,rfl,rfl,rfl,by show 0<(BP l).next;omega⟩
theorem AMn {b c:bd}{e d f:Nat}(G:b.grown c e d f)(h:b.more= []):c.more.length<=d:=by have:=G.more;rw[h] at this;simpa using this
theorem APX {x:bN}{p:bL}{c1:J0}{now:Int}(c2:bR g)(ae:LW B g h s a N sh l mp O)(ak:l[i]? =some y)(al:Jc mp fl an)(V:View TF h x.steps p.steps)(a6:x.au=p.au)(len:p.steps.length<=1099511627776)
  (d5: -4611686018427300000<=now/\now<=4611686018427300000) (cj: ∀n,y.f n<=2147483647) (ck: ∀n,y.u n+3<16777216) (d6:N+3<=1000000) (hA:4+3*a<=B.A) (c3:64*a+64<=B.C) (c4:a+1<=1000000)
  (aN: ∀f e st nx,Pk fl an (y.f (Ao x.wid sh)) x p=some (e,st,nx)->Ext h f->R (dy e st nx).v f)
  (c5: ∀f E aY u w,Pk fl an (y.f (Ao x.wid sh)) x p=none->y.cV E->(BA (GI x p (CF (fl x.wid) x.wid (Ao x.wid sh) now) aY) u w).err≠0->LW B g f s a (N+3) sh (l.set i E) mp O->Mod (aR g O) h f->R (dy (BA (GI x p (CF (fl x.wid) x.wid (Ao x.wid sh) now) aY) u w).err 0 0).v f)
  (c6: ∀f E,Pk fl an (y.f (Ao x.wid sh)) x p=none->y.cV E->Be mp (FW (Ao x.wid sh) (y.f (Ao x.wid sh)) y.name)=false->LW B g f s a (N+3) sh (l.set i (E.lost (Ao x.wid sh))) mp O->Mod (aR g O) h f->R (dy 170 0 0).v f)
  (c7: ∀f E aY u w D,D=BA (GI x p (CF (fl x.wid) x.wid (Ao x.wid sh) now) aY) u w->Pk fl an (y.f (Ao x.wid sh)) x p=none->y.cV E->(EN (GI x p (CF (fl x.wid) x.wid (Ao x.wid sh) now) aY)=true->dG y E (Ao x.wid sh) u)->D.err=0->LW B g f s (a+1) (N+3) sh (l.set i E) (cu mp (Dh D++D.ar)) O->
   Jc (cu mp (Dh D++D.ar)) (cU fl x.wid ((fl x.wid).getD []++D.more)) (cU an x.bj (Mf x p,D.st.status,D.st.next))->BP ((fl x.wid).getD []++D.more)=D.st->(∀ n bx cl,Be (cu mp (Dh D++D.ar)) (FW n bx cl)=Be mp (FW n bx cl))->Mod (aR g O) h f->R (dy 0 D.st.status D.st.next).v f):
  AA A P Gc #[Ap y.p,c1,J6 J9 now,x.v] h R:=by
 obtain⟨-,cm,c8⟩:=ae.dT ak;have cn:=(List.getElem?_eq_some_iff.1 ak).1;have cT:l.set i y=l:=by rw[<- (List.getElem?_eq_some_iff.1 ak).2];exact OR cn
 have d7:=Tc x.wid cm;refine ABR ?_;unfold Uf;refine ai.mk λam _ ao bz d8=>ai.mk λax _ a7 co d9=>?_
 have af:Ext h ax:=bz.trans co;have ao:ax[h.size]? =some (J2 x.c Cs (0,0)):=co.ag ao λh=>h
 have ea:=Ai a7;have aO: ∀ {U:aa} (e st nx:Int),Ext ax U->(∀ f,Ext h f->R (dy e st nx).v f)->aD U ⟨am.size,0,none⟩ (dy e st nx).l λa8=>Bb a8 ⟨am.size,0,none⟩ λc9=>R (c9.v) a8:=λ{U} e st nx I da=>
  KL (I.ag a7 λh=>h) λf bA=>da f ((af.trans I).more bA λc d=>by subst d;exact bz.size)
 refine ah.mk λK db=>?_
 have cp: ∀a9:Bool,(a9=true↔x.kind<1\/4<x.kind)->K (a9,()) ax:=λa9 cq=>by
  refine db _ _ (ab.intro (λk=>aO 1 0 0 Mod.refl λf I=>aN f 1 0 0 (by unfold Pk;rw[if_pos (cq.1 k)]) I) (λk=>?_));have k:a9=false:=k;have bB: ¬(x.kind<1\/4<x.kind):=λh=>by rw[cq.2 h] at k;cases k
  have cr:1<=x.kind/\x.kind<=4:=by omega
  refine MB.mk x (Bz ao rfl) (APt (V.ext af) a6 len cr λeb aZ=>⟨_,_,rfl,?_⟩);by_cases ag:RZ x p=0;rotate_left
  ·refine ab.yes (by simp[ag]) (aO (RZ x p) 0 0 aZ λf I=>aN f _ 0 0 (by unfold Pk;rw[if_neg bB,if_pos ag]) I)
  rw[if_pos ag];refine ab.no (by simp[ag]) (ab.no rfl ?_);obtain⟨g1,dc,ay,a0⟩:=kq ag;have ec:=Fs ay;have ed:=Fs a0;have cs:=ASG ag cr;have bC:=ae.on (af.trans aZ);have bD:=aZ.ag ao λh=>h
  refine AL.mk (n:=x.wid) (AB bD rfl) (bC.aC ak ⟨_,rfl,⟨AB bD rfl,vt (by omega) cm c8 ⟨_,_,rfl,bC.holds ak ⟨_,rfl,?_⟩⟩⟩⟩);refine ab.intro (λk=>aO 170 0 0 aZ λf I=>aN f 170 0 0 (by unfold Pk;rw[if_neg bB,if_neg (by simp[ag]),if_pos (by simpa using k)]) I) (λk=>?_);have bE:y.f (Ao x.wid sh)≠0:=by simpa using k
  have r:Pk fl an (y.f (Ao x.wid sh)) x p=match an x.bj with
    |some H=>if H.1≠Mf x p then some (184,0,0) else some (0,H.2.1,H.2.2)
    |none=>match fl x.wid with
     |none=>if x.kind=1 then none else some (180,0,0)
     |some l=>if x.kind=1 then some (181,0,0) else if(BP l).status≠0 then some (182,0,0) else none:=by
   unfold Pk;rw[if_neg bB,if_neg (by simp[ag]),if_neg bE];try rfl
  refine AL.mk (n:=x.bj) (AB bD rfl) (AKe bC ak al a0 λee dd=>?_);have ba:=aZ.trans dd;cases bF:an x.bj with
  |some H=>
   rw[bF] at r;refine⟨_,DX.mk (dy 0 H.2.1 H.2.2) ⟨_,_,rfl,ai.mk λa8 _ bG bI de=>aD.mk bG (A0 9) λbJ bK bM df=>ab.no rfl ?_⟩⟩;rw[KI] at bK;have az:Ext ax bJ:=(ba.trans bI).more bM λc d=>by subst d;exact ba.size
   refine ah.mk λdg bO=>ab.yes rfl (bO _ _ ?_)
   rw[Bl];refine ab.intro (λk=>aO 184 0 0 az λf I=>aN f 184 0 0 (by
    have k: ¬(Ae H.1=Ae (Mf x p)):=by simpa using k
    rw[r];show(if H.1≠Mf x p then _ else _)=_;rw[if_pos λh=>k (by rw[h])]) I) (λk=>ab.yes rfl (Bb.mk (dy 0 H.2.1 H.2.2) (Hr bK) (aO 0 H.2.1 H.2.2 az λf I=>aN f 0 H.2.1 H.2.2 (by
    have k:Ae H.1=Ae (Mf x p):=by simpa using k
    rw[r];show(if H.1≠Mf x p then _ else _)=_;rw[if_neg (by rw[Pm.1 k];simp)]) I)))
  |none=>
   rw[bF] at r;refine⟨_,DX.mk aS.z ⟨_,_,rfl,ai.mk λa8 _ bG bI de=>aD.mk bG (A0 9) λbJ bK bM df=>ab.no rfl ?_⟩⟩;have az:Ext ax bJ:=(ba.trans bI).more bM λc d=>by subst d;exact ba.size
   refine ah.mk λdg bO=>ab.no rfl (bO _ _ (ab.no rfl (ab.no rfl ?_)))
   have dh:=ae.on (af.trans az);refine AL.mk (n:=x.wid) (AB (az.ag ao λh=>h) rfl) (qc dh ak al (λh=>by rw[ay] at h;cases h) λ_ a1 ct=>MG.mk _ ⟨_,rfl,ai.mk λef _ di dj eg=>aD.mk di (A0 18) λbP aA dk eh=>?_⟩);rw[VP] at aA;have cv:Ext a1 bP:=dj.more dk λc d=>by subst d;exact A0 _
   have aC:Ext ax bP:=(az.trans ct).trans cv;have ei:=(az.trans ct).size;have bb:=aC.ag ao λh=>h
   refine ah.mk λcw cx=>?_
   have bQ: ∀(e:Int),e≠0->Pk fl an (y.f (Ao x.wid sh)) x p=some (e,0,0)->cw (e,()) bP:=λe J d=>
    cx _ _ (ab.yes (by simp[J]) (aO e 0 0 aC λf I=>aN f e 0 0 d I))
   have cy: ∀l,fl x.wid=some l->OW l:=λl aE=>al.cR _ _ aE
   obtain⟨a2,bS,bT,cz,bU,cB,cC,dl⟩:=ALt (wid:=x.wid) (n:=Ao x.wid sh) (now:=now) cy;obtain⟨ej,dm,aP⟩:=AUi (wid:=x.wid) (n:=Ao x.wid sh) (now:=now) cy;have go: ∀ {U:aa} {es:Sl} {a' b' c':Sl},Pk fl an (y.f (Ao x.wid sh)) x p=none->Ext h U->U[h.size]? =some (J2 x.c Cs (0,0))->U[am.size]? =some (J2 aS.z.c Aw (0,0))->
     (∃ fv:bH,U[a1.size]? =some (J2 fv.c Bu (0,0))/\fv=⟨x.wid,(Ao x.wid sh:Int),⟨(CF (fl x.wid) x.wid (Ao x.wid sh) now).bW,(CF (fl x.wid) x.wid (Ao x.wid sh) now).bP,false⟩,es,(CF (fl x.wid) x.wid (Ao x.wid sh) now).st.V a' b' c'⟩)->
     JQ U (CF (fl x.wid) x.wid (Ao x.wid sh) now).st a' b' c'->(∀ c,a'.ag=some c\/b'.ag=some c\/c'.ag=some c->a1.size<c)->(∀ bc:bd,bc=Gy x.wid (Ao x.wid sh) (CF (fl x.wid) x.wid (Ao x.wid sh) now).bW (CF (fl x.wid) x.wid (Ao x.wid sh) now).bP false (CF (fl x.wid) x.wid (Ao x.wid sh) now).st now->bc=CF (fl x.wid) x.wid (Ao x.wid sh) now)->
     cw (0,()) U:=λ{U es a' b' c'} dn bV dq dr a3 be fr bW=>by
    have bW:=bW _ rfl;have bf:=dn;generalize ek:CF (fl x.wid) x.wid (Ao x.wid sh) now=b at*
    obtain⟨fv,a3,rfl⟩:=a3;refine cx _ _ (ab.no rfl (EL.mk _ (Nf a3) ?_));have el:=Ai a3
    let Q:Nat->Prop:=λc=>O c\/c=h.size\/c=am.size\/c=a1.size
    have cD: ∀c,TV b.st a' b' c' c->a1.size<c:=λc d=>fr c (by
     rcases d with⟨_,h⟩|⟨_,h⟩|⟨_,h⟩
     ·exact .inl h
     ·exact .inr (.inl h)
     ·exact .inr (.inr h))
    have en:=bz.size;have cE: ∀c,O c->c<h.size:=λc d=>(ae.out d).1
    have ds:LW B g U s a N sh (l.set i y) mp (λc=>Q c\/TV b.st a' b' c' c):=by
     rw[cT];refine ae.own bV.mod λc d=>?_
     rcases d with(h|h|h|h)|h
     ·exact .inl h
     ·exact .inr (by omega)
     ·exact .inr (by omega)
     ·exact .inr (by omega)
     ·exact .inr ⟨by have:=cD c h;omega,be.lt h⟩
    refine qB (O:=Q) (now:=now) ds cn be (λc d S=>?_) λaF bg z cF aQ Y=>⟨_,rfl,?_⟩
    ·have:=cD c d;rcases S with h|h|h|h
     ·have:=cE c h;omega
     ·omega
     ·omega
     ·omega
    rw[bW] at aQ;have bX: ∀ {c:Nat} {C:aa} {o:Obj},C[c]? =some o-> ∀ {T:aa},Q c->Mod (aR g Q) C T->T[c]? =some o:=λ{c C o} bY {T} S m=>m.ag bY λbZ=>bZ.2 S
    have cG:Q h.size:= .inr (.inl rfl);have bh:Q am.size:= .inr (.inr (.inl rfl));have aT:=Y.ag dq λh=>h
    have dt:=Y.ag dr λh=>h
    have du: ∀e∈b.more,Er e=true/\e.data.size<1099511627776:=λe J=>by rw[bS] at J;cases J
    refine AC.mk (n:=x.kind) (AO aT rfl) (ah.mk λcH dv=>?_);have b0: ∀ {L:aa} {z':Nat->Nat} {fI:dR} {E:Hs} (num:Nat),CW B g L s a (N+1) sh l i E mp Q bg z' fI (DL x p b num)->y.cY E->Mod (aR g Q) aF L->cH () L:=λ{L z' fI E} num aU M b1=>by
     have G:=APd (num:=num) ag du a2;have dw:=AMn G bS;have b2:=G.ar;rw[bT] at b2;have nx:=G.st.next;have dx:=bX aT cG b1;have dz:=bX dt bh b1;refine dv _ _ (vD aU nx λaG aH=>DX.mk (dy 0 (DF (DL x p b num)).1 (DF (DL x p b num)).2) ⟨rfl,ai.mk λdA _ dB b3 eo=>aD.mk dB (A0 9) λb4 ap dC ep=>?_⟩);rw[KI] at ap;have bi:Ext L b4:=(aH.trans b3).more dC λc d=>by subst d;exact aH.size
     have bj:=aH.size;have eq:=Ai ap
     let aI:Nat->Prop:=λc=>Q c\/c=aG.size
     have dD:CW B g b4 s a (N+1) sh l i E mp aI bg z' fI (DL x p b num):=aU.wider (O':=aI) bi.mod λc d=>d.imp id λh=>by omega
     have cI:0<=(DF (DL x p b num)).1/\(DF (DL x p b num)).1<=4:=G.st.st;have cJ:0<=(DF (DL x p b num)).2/\(DF (DL x p b num)).2<=502:=by unfold DF;dsimp only;split<;>omega
     have b5:=F3 (n:=(DF (DL x p b num)).1.toNat) (by omega);have er:=F3 (n:=(DF (DL x p b num)).2.toNat) (by omega);have et:=AZ (n:=(Mf x p).length) (by omega);have eu:(BX (Mf x p)).length<=2010:=by unfold BX;rw[A1];omega
     refine AL.mk (n:=x.bj) (AB (bi.ag dx λh=>h) rfl) (AC.mk (n:=(DF (DL x p b num)).1) (AB ap rfl) (AC.mk (n:=(DF (DL x p b num)).2) (AB ap rfl) (vo (by omega) ⟨_,rfl,AB ap rfl,AB ap rfl,Sn (l:=Mf x p) (by omega) λev cK=>⟨_,rfl,?_⟩⟩)));have b6:=cK.ag ap λh=>h
     refine⟨AB b6 rfl,AB b6 rfl,?_⟩;rw[Po (by omega) (by omega)];refine Cj (by omega) λew cL=>⟨_,rfl,?_⟩
     rw[Aq];have dE:=cL.ag b6 λh=>h
     refine⟨AB dE rfl,by rw[AP,AP,max_i64];omega,?_⟩;rw[Po (by omega) (by omega)];refine Cj (by omega) λex dF=>⟨_,rfl,⟨by rw[AP,AP,A1,max_i64];omega,?_⟩⟩
     rw[Aq,A4];have bk:=(cK.trans cL).trans dF;have dH:=dD.on bk;refine AQS (key:=LA x.bj) (val:=iC (Mf x p) (DF (DL x p b num)).1.toNat (DF (DL x p b num)).2.toNat) dH (by rw[G.conds,cz];decide) (by simp at b2;omega) λb7 ey ez cM b8=>⟨rfl,?_⟩
     have bm: ∀ {c:Nat} {C:aa} {o:Obj},C[c]? =some o-> ∀ {T:aa},aI c->Mod (aR g aI) C T->T[c]? =some o:=λ{c C o} bY {T} S m=>m.ag bY λbZ=>bZ.2 S
     have cN:aI aG.size:= .inr rfl;have dI:=bm (bk.ag ap λh=>h) cN b8;have dJ:=bm (bk.ag (bi.ag dz λh=>h) λh=>h) (.inl bh) b8;have dK:oN (DL x p b num) (LA x.bj) (iC (Mf x p) (DF (DL x p b num)).1.toNat (DF (DL x p b num)).2.toNat)=GI x p b num:=rfl;rw[dK] at cM;have aq:(GI x p b num).conds= [⟨LA x.bj,⟨#[]⟩,true⟩]:=by show(DL x p b num).conds++_=_;rw[G.conds,cz];rfl
     have aJ:(GI x p b num).aj=Ao x.wid sh:=G.aj.trans cB;have b9:(GI x p b num).wid=x.wid:=G.wid.trans bU;have eA:(GI x p b num).ar.length<=2:=by show((DL x p b num).ar++ [_]).length<=2;rw[A1,BE];simp at b2;omega
     have fin: ∀ {C:aa},Mod (aR g aI) b7 C->C[am.size]? =some (J2 aS.z.c Aw (0,0))/\Mod (aR g O) h C:=λ{C} m=>⟨bm dJ (.inl bh) m,by
      have bn:Mod (aR g O) h aF:=(bV.trans Y).mod;have dL:Mod (aR g O) aF L:=b1.ak λc _ d=>aR.less d λc S=> .inl S
      have dM:Mod (aR g O) b4 b7:=bk.mod.trans (b8.ak λc _ d=>aR.less d λc S=> .inl (.inl S));have dN:Mod (aR g O) b7 C:=m.ak λc _ d=>aR.less d λc S=> .inl (.inl S)
      exact(((bn.trans dL).trans bi.mod).trans dM).trans dN⟩
     have ca: ∀ {C T:aa} {bn cO:Nat} {b5:List Hs} {cP:List Pr},LW B g C s bn cO sh b5 cP aI->Mod (· =am.size) C T->LW B g T s bn cO sh b5 cP O:=λdO m=>dO.own (m.ak λc _ d=>by subst d;exact .inl bh) λc d=> .inl (.inl (.inl d))
     have cb: ∀ {C T:aa},Mod (aR g O) h C->Mod (· =am.size) C T->Mod (aR g O) h T:=λm bA=>m.trans (bA.ak λc _ d=>by
      subst d;have:=ae.ext.size;exact⟨by omega,λS=>by have:=cE _ S;omega⟩)
     have cV: ∀ {Z:Hs},E.cK Z->y.cV Z:=λ{Z} W=>⟨W.p.trans M.p,W.name.trans M.name,W.f.trans M.f,λm=>by have:=M.u m;have:=W.u m;omega⟩
     have dP:FW (GI x p b num).aj (E.f (GI x p b num).aj) E.name=FW (Ao x.wid sh) (y.f (Ao x.wid sh)) y.name:=by rw[aJ,M.f,M.name]
     have dQ:bo (GI x p b num)=bo b:=by show bo (DL x p b num)=_;unfold bo;rw[G.bP,G.bW,G.kept,G.wid]
     have dS:Be mp (bo (GI x p b num))=true:=by
      rw[dQ];refine uy al (by rw[bU];exact ay) ?_;rw[bU];unfold nf at aP;split at aP
      ·rename_i F;first|exact aP|(rw[F];exact aP)
      ·rename_i F;first|exact aP|(rw[F];exact aP)
     have cQ:DI (GI x p b num).st (500+1):=G.st;have cR: ∀e∈(GI x p b num).more,Er e=true/\e.data.size<1099511627776:=G.ok;refine vG c2 cM cQ (by omega) (by rw[b9];exact ay) cR (by rw[aJ];omega) (by rw[aJ,M.f];exact cj _) (by have:=M.u (GI x p b num).aj;have:=ck (GI x p b num).aj;omega) (by omega) hA c3 c4 (by show(DL x p b num).more.length<=_;omega) (by omega) (by rw[aq];simp) (λq k=>by
       rw[aq] at k;rw[List.mem_singleton.1 k];show(LA x.bj).size<=_;rw[Wz];omega) (by show 0<=(DL x p b num).bW/\(DL x p b num).bW<128;rw[G.bW];omega) (by show 0<=(DL x p b num).bP/\(DL x p b num).bP<=501;rw[G.bP];exact dm) (by show -_<=(DL x p b num).now/\(DL x p b num).now<=_;rw[G.now,cC];omega)
      (λdT=>absurd dT (by rw[aJ,M.f];exact bE)) (λu w Z cc W J aK aL=>⟨_,rfl,?_⟩) (λu w Z cc W J aE aK aL=>⟨_,rfl,?_⟩) (λu w Z cc W J aE hd aK aL=>?_) (λu w Z cc W dU J aE hd aK aL=>⟨_,rfl,?_⟩)
     ·obtain⟨aV,aW⟩:=fin aL;refine ab.yes (by simpa using J) (KL (x:=dy (BA (GI x p b num) u w).err 0 0) aV λa4 ar=>?_);exact c5 a4 Z num u w bf (cV W) J (ca aK ar) (cb aW ar)
     ·obtain⟨aV,aW⟩:=fin aL;rw[dP] at aE;refine ab.yes rfl (KL (x:=dy 170 0 0) aV λa4 ar=>?_);rw[aJ] at aK;exact c6 a4 Z bf (cV W) aE (ca aK ar) (cb aW ar)
     all_goals
      have X:=Vz (n:=500+1) cR cQ u w;have cd:(BA (GI x p b num) u w).beside (some (x.bj,(Mf x p,(DF (DL x p b num)).1,(DF (DL x p b num)).2))):=by have vc:=(uF J).2;have:=X.st.next;refine Zz (AKx (x:=(Mf x p,(DF (DL x p b num)).1,(DF (DL x p b num)).2)) (AMf bT) a0 cI ?_ cs) u w;have dV:(DF (GI x p b num)).2=(DF (DL x p b num)).2:=rfl;rw[dV] at vc;exact⟨cJ.1,by show(DF (DL x p b num)).2<=501;omega⟩
      have mem:fy x.bj (Mf x p,(DF (DL x p b num)).1,(DF (DL x p b num)).2)∈(BA (GI x p b num) u w).ar:=AO2 (ID _ (by simp[fy])) u w
     ·exfalso;refine hd (uB (by rw[X.wid,b9];exact ay) X.ok X.st cd ?_ (λh=>?_) ?_ λc d=>?_)
      ·have aV:=X.more;have aW:=X.ar;have eB:(GI x p b num).more.length<=1:=dw;omega
      ·rw[TO] at h;rw[h.2] at mem;cases mem
      ·rw[aq];simp
      ·rw[aq] at d;rcases List.mem_cons.1 d with rfl|d
       ·exact aE
       ·rcases List.mem_append.1 d with d|d
        ·rw[List.mem_singleton.1 d];exact APS al a0 bF
        ·rw[List.mem_singleton.1 d];exact dS
     ·obtain⟨aV,aW⟩:=fin aL;obtain⟨bp,bq⟩:=uF J;have bp:(BA (GI x p b num) u w).st.status=(DF (DL x p b num)).1:=bp;have bq:(BA (GI x p b num) u w).st.next=(DF (DL x p b num)).2:=bq;have dW:=bm dI cN aL;refine ab.no rfl (Bb.mk (dy 0 (DF (DL x p b num)).1 (DF (DL x p b num)).2) (Hr dW) (KL aV λa4 ar=>?_));rw[<- bp,<-bq];have cS:(BA (GI x p b num) u w).fits ((fl x.wid).getD []):=uv (ASq dl);have br:(BA (GI x p b num) u w).wid=x.wid:=X.wid.trans b9;have cW:(fl x.wid).getD []++(BA (GI x p b num) u w).more≠ []:=by
       intro h;rw[TO] at h;have bs:x.kind=1:=by
        cases F:fl x.wid with
        |some l=>
         rw[F] at h;exact absurd h.1 (al.cR _ _ F).ne
        |none=>
         rw[F] at r;rw[bf] at r;by_cases bs:x.kind=1
         ·exact bs
         ·have r:(none:Option (Int×Int×Int))=if x.kind=1 then none else some (180,0,0):=r;rw[if_neg bs] at r;cases r
       have au:(GI x p b num).err=0:=ARQ (XD J);have au:(DL x p b num).err=0:=au;refine X.none (λaj=>?_) h.2;have aj:(DL x p b num).more= []:=aj;unfold DL at aj au;rw[if_pos bs] at aj au;split at aj
       ·rename_i ce;rw[if_pos ce] at au;rw[(Ht _ _ _ _).2,(qg (ZQ au)).1] at aj;simp at aj
       ·rename_i ce;rw[if_neg ce] at au;rw[(qg au).1] at aj;simp at aj
      have a5:=al.done ae.sorted (D:=BA (GI x p b num) u w) (o:=some (x.bj,(Mf x p,(DF (DL x p b num)).1,(DF (DL x p b num)).2))) (by rw[br];exact ay) (by rw[br];exact cS) (by rw[br];exact cW) X.st cd (λbx eC cf=>by
       cases cf;have:=X.st.next;exact⟨mem,a0,cI,⟨cJ.1,by show(DF (DL x p b num)).2<=501;omega⟩,cs⟩)
      rw[br] at a5;have a5:Jc _ _ (cU an x.bj (Mf x p,(DF (DL x p b num)).1,(DF (DL x p b num)).2)):=a5;rw[<- bp,<-bq] at a5;exact c7 a4 Z num u w _ rfl bf (cV W) (λcf=>by
       obtain⟨v,v1,v2,cX⟩:=dU cf (by rw[aJ,M.f];exact bE);rw[aJ] at v1 v2 cX;exact⟨v,by have:=M.u (Ao x.wid sh);omega,v2,by rw[cX,M.f]⟩) J (ca aK ar) a5 (qf cS cW X.st).2 (uC ae.sorted cd) (cb aW ar)
    have dX:CW B g aF s a (N+1) sh l i y mp Q bg z cF b:=aQ.put (by omega) (by omega) (by omega);have bt: ∀ {L z' fI} (e:Ev) (D:bd),D=Di b e->CW B g L s a N sh l i y mp Q bg z' fI D->Mod (aR g Q) aF L->(∀ num,DL x p b num=D)->cH () L:=λ{L z' fI} e D eD aU aX d=>b0 (z':=z') (fI:=fI) 0 (by rw[d];exact aU.put (by omega) (by omega) (by omega)) (Hs.cY.refl y) aX
    have cY:(⟨#[]⟩:A2Y).size<1099511627776:=by decide
    have bu:b.more.length<1000:=by rw[bS];decide
    refine ab.intro (λj=>?_) (λj=>?_)
    ·have j:x.kind=1:=by simpa using j
     refine AV.mk (s:=x.steps) (AB aT rfl) (AC.mk (n:=x.au) (Ct (by exact aT) rfl) ?_);rw[a6];refine vv (V.ext (bV.trans Y)) len λL bv=>?_
     have aU:=aQ.on bv;unfold Zm;rw[g1 j];have eE:=TH (g1 j);refine⟨_,_,rfl,Uw (e:=dp 1 (Ae (Ce p))) aU a2 (by omega) (by show(Ae (Ce p)).size<_;rw[AP];omega) bu λaG bj aH av aM=>⟨rfl,?_⟩⟩;have cg:Mod (aR g Q) aF aG:=bv.mod.trans aM;have cZ:=bX aT cG cg;refine AC.mk (n:=x.au) (Ct (by exact cZ) rfl) ?_;rw[a6];refine ab.intro (λk=>?_) (λk=>?_)
     ·have k:0<p.au:=by simpa using k
      have eF:=(zS (g1 j)).2.1;refine AC.mk (n:=x.au) (Ct (by exact cZ) rfl) ?_;rw[a6,wrap_i64 (by omega) (by omega)];have dY:(Di b (dp 1 (Ae (Ce p)))).aj=Ao x.wid sh:=(PS _ _).2.1.trans cB;refine qC (t:=⟨6,⟨#[]⟩,0,0⟩) av (by rw[dY];omega) (cj _) (by have:=ck (Di b (dp 1 (Ae (Ce p)))).aj;omega) (by omega) (by omega) (by rw[uw,bT];decide) (by omega) λdA dZ b3 E num d0 M _ d1=>⟨rfl,?_⟩
      refine b0 (z':=dZ) (fI:=b3) num ?_ M (cg.trans d1);have aq:DL x p b num=EB (Di b (dp 1 (Ae (Ce p)))) ⟨6,0,0⟩ (if(0:Int)>now+p.au then 0 else now+p.au) num:=by unfold DL uD;rw[if_pos j,if_pos k,cC]
      rw[aq];exact d0
     ·have k: ¬0<p.au:=by simpa using k
      exact bt (dp 1 (Ae (Ce p))) _ rfl av cg λnum=>by unfold DL;rw[if_pos j,if_neg k]
    have j:x.kind≠1:=by simpa using j
    refine ab.intro (λac=>?_) (λac=>?_)
    ·have ac:x.kind=2:=by simpa using ac
     refine AL.mk (n:=x.name) (AB aT rfl) (Uw (e:=dp 12 x.name) aQ a2 (by omega) (by have:=Fs (dc ac);show x.name.size<_;omega) bu λaG bj aH av aM=>⟨rfl,?_⟩);exact bt (dp 12 x.name) _ rfl av aM λnum=>by unfold DL;rw[if_neg j,if_pos ac]
    have ac:x.kind≠2:=by simpa using ac
    refine ab.intro (λaw=>?_) (λaw=>?_)
    ·have aw:x.kind=3:=by simpa using aw
     have d2:=Y.ag a3 λh=>h
     refine Aa.mk (n:=b.st.cancel) (Ct (by exact d2) rfl) (ab.intro (λd=>?_) (λd=>?_))
     ·have d: ¬b.st.cancel=true:=by simpa using d
      refine Uw (e:=dp 13 ⟨#[]⟩) aQ a2 (by omega) cY bu λaG bj aH av aM=>⟨rfl,?_⟩
      exact bt (dp 13 ⟨#[]⟩) _ rfl av aM λnum=>by unfold DL;rw[if_neg j,if_neg ac,if_pos aw,if_neg d]
     ·have d:b.st.cancel=true:=by simpa using d
      refine b0 (z':=z) (fI:=cF) 0 ?_ (Hs.cY.refl y) Mod.refl;have aq:DL x p b 0=b:=by unfold DL;rw[if_neg j,if_neg ac,if_pos aw,if_pos d]
      rw[aq];exact dX
    have aw:x.kind≠3:=by simpa using aw
    refine ab.yes (by simp;omega) (Uw (e:=dp 18 ⟨#[]⟩) aQ a2 (by omega) cY bu λaG bj aH av aM=>⟨rfl,?_⟩);exact bt (dp 18 ⟨#[]⟩) _ rfl av aM λnum=>by unfold DL;rw[if_neg j,if_neg ac,if_neg aw]
   refine AC.mk (n:=x.kind) (AO bb rfl) ?_;cases F:fl x.wid with
   |none=>
    rw[F] at r aA;refine ab.intro (λj=>?_) (λj=>?_)
    ·have j:x.kind=1:=by simpa using j
     have r:Pk fl an (y.f (Ao x.wid sh)) x p=if x.kind=1 then none else some (180,0,0):=r;rw[if_pos j] at r;refine ab.no rfl (ab.yes rfl (go (es:=gU) (a':=gU) (b':=gU) (c':=gU) r (af.trans aC) bb (aC.ag a7 λh=>h) ⟨_,aA,by rw[F];rfl⟩ ?_ (λc d=>by simp[Sl.ag] at d) (λbc ch=>by rw[ch,F];rfl)));rw[F];exact⟨View.nil,View.nil,View.nil⟩
    ·have j:x.kind≠1:=by simpa using j
     have r:Pk fl an (y.f (Ao x.wid sh)) x p=if x.kind=1 then none else some (180,0,0):=r;rw[if_neg j] at r;exact ah.mk λd3 ci=>ab.no rfl (ci _ _ (ab.no rfl (ab.no rfl (bQ 180 (by decide) r))))
   |some bw=>
    rw[F] at r aA;have r:Pk fl an (y.f (Ao x.wid sh)) x p=if x.kind=1 then some (181,0,0) else if(BP bw).status≠0 then some (182,0,0) else none:=r;refine ab.intro (λj=>?_) (λj=>?_)
    ·have j:x.kind=1:=by simpa using j
     rw[if_pos j] at r;exact ab.yes rfl (bQ 181 (by decide) r)
    have j:x.kind≠1:=by simpa using j
    rw[if_neg j] at r;refine ah.mk λd3 ci=>ab.yes rfl (AC.mk (n:=(BP bw).status) (Cm (by exact aA) rfl) (ci _ _ (ab.intro (λq=>?_) (λq=>?_))))
    ·have q:(BP bw).status≠0:=by simpa using q
     rw[if_pos q] at r;exact bQ 182 (by decide) r
    have q:(BP bw).status=0:=by simpa using q
    rw[if_neg (by simp[q])] at r;have d4:=ae.on (af.trans aC);refine ab.yes rfl (AL.mk (n:=x.wid) (AB bb rfl) (uq d4 ak al ay F λaF es a' b' c' Y eG be fr eH=>MG.mk _ ⟨_,rfl,aD.mk (Y.ag aA λh=>h) (A0 18) λL c0 aX eI=>?_⟩));rw[VP] at c0;have eJ:=cv.size;have eK:=Ai aA;have bv:Ext h L:=((af.trans aC).trans Y).more aX λc d=>by subst d;have:=af.size;omega
    refine go r bv (aX.ag (Y.ag bb λh=>h) (by have:=af.size;omega)) (aX.ag (Y.ag (aC.ag a7 λh=>h) λh=>h) (by omega)) ⟨_,c0,by rw[F];rfl⟩ ?_ (λc d=>by have:=fr c d;omega) (λbc ch=>by rw[ch,F];rfl);rw[F];exact be.fresh aX fr λc d=>by subst d;omega
 refine AC.mk (n:=x.kind) (AO ao rfl) (ab.intro (λq=>cp true ?_) (λq=>AC.mk (n:=x.kind) (AO ao rfl) (cp _ ?_)))
 ·have q:x.kind<1:=by simpa using q
  simp[q]
 ·have q: ¬x.kind<1:=by simpa using q
  simp[q]
end
section
variable {x x' : bN} {p p' : bL}
end
section
variable {A : ao} {h : aa} {R : A2X}
end
def PO:cX:=⟨32000,0,1600,by decide,by decide,by decide⟩
structure EW (g h:aa) (s k sh:Nat) (l:List Hs) (mp:List Pr) (fl:cn) (an:cL) (O:Nat->Prop):Prop where
 w:LW PO g h s k (3*k) sh l mp O
 m:Jc mp fl an
 all: ∀y∈l,∀n,y.u n<=3*k/\y.f n<=k
def gC(mp:List Pr)(y:Hs)(a:Nat):Prop:=y.f a≠0/\Be mp (FW a (y.f a) y.name)=true
def qh(fl:cn)(an:cL)(f:Nat)(x:bN)(p:bL)(now:Int)(b st nx:Int)(j:cn)(m:cL):Prop:=
 (j=fl/\m=an/\(Pk fl an 1 x p=some (b,st,nx)\/(Pk fl an 1 x p=none/\b≠0/\st=0/\nx=0/\ ∃c d e,b=(BA (GI x p (CF (fl x.wid) x.wid f now) c) d e).err)))\/
 (Pk fl an 1 x p=none/\b=0/\ ∃c d e a,a=BA (GI x p (CF (fl x.wid) x.wid f now) c) d e/\a.err=0/\j=cU fl x.wid ((fl x.wid).getD []++a.more)/\m=cU an x.bj (Mf x p,a.st.status,a.st.next)/\st=a.st.status/\nx=a.st.next/\BP ((fl x.wid).getD []++a.more)=a.st)
def AVn(mp c:List Pr)(fl f:cn)(b:Nat)(x:bN)(p:bL)(now:Int)(y j:Hs):Prop:=c=mp\/ ∃d e m a,a=BA (GI x p (CF (fl x.wid) x.wid b now) d) e m/\a.err=0/\c=cu mp (Dh a++a.ar)/\f=cU fl x.wid ((fl x.wid).getD []++a.more)/\
 (EN (GI x p (CF (fl x.wid) x.wid b now) d)=true->dG y j b e)
theorem APC {fl:cn}{an:cL}{k:Nat}{x:bN}{p:bL}(h:k≠0):Pk fl an k x p=Pk fl an 1 x p:=by unfold Pk;rw[if_neg h,if_neg (show ¬(1:Nat)=0 by decide)]
theorem uG {l:List Hs}{i:Nat}{b:Hs}{Q:Hs->Prop}(h: ∀y∈l,Q y)(c:Q b): ∀y∈l.set i b,Q y:=λy d=>by
 rcases OS d with a|a
 ·exact h y a
 ·rw[a];exact c
section
variable {A : ao} {g h : aa} {s k sh : Nat} {l : List Hs} {mp : List Pr} {O : Nat -> Prop} {i : Nat} {y : Hs} {fl : cn} {an : cL} {R : A2X}
theorem EW.own {a:aa}{O':Nat->Prop}(b:EW g h s k sh l mp fl an O)(d:Mod O h a)(e: ∀c,O' c->O c\/(h.size<=c/\c<a.size)):EW g a s k sh l mp fl an O':=⟨b.w.own d e,b.m,b.all⟩
theorem EW.on {b:aa}(a:EW g h s k sh l mp fl an O)(x:Ext h b):EW g b s k sh l mp fl an O:=⟨a.w.on x,a.m,a.all⟩
theorem EW.up {a:Nat}(b:EW g h s k sh l mp fl an O)(c:k<=a)(f:a<=500):EW g h s a sh l mp fl an O:=
 ⟨b.w.put c (by show 64*a<=32000;omega) (by omega) (by omega),b.m,λy d e=>by have:=b.all y d e;omega⟩
theorem EW.hU {x:bN}{p:bL}{N:J0}{now:Int}(S:bR g)(d:EW g h s k sh l mp fl an O)(n:l[i]? =some y)(ab:k+1<=490)(ow:gC mp y (Ao x.wid sh))(V:View TF h x.steps p.steps)(T:x.au=p.au)(len:p.steps.length<=1099511627776)(U: -4611686018427300000<=now/\now<=4611686018427300000)
  (C: ∀c b D E H o st nx,EW g c s (k+1) sh (l.set i b) D E H O->y.cV b->(∀ a I q,Be D (FW a I q)=Be mp (FW a I q))->Mod (aR g O) h c->qh fl an (Ao x.wid sh) x p now o st nx E H->AVn mp D fl E (Ao x.wid sh) x p now y b->R (dy o st nx).v c):
  AA A P Gc #[Ap y.p,N,J6 J9 now,x.v] h R:=by
 have F:=AG n;have ac:PO.C=32000:=rfl;have hA:PO.A=1600:=rfl;have W:=(List.getElem?_eq_some_iff.1 n).1;have cT:l.set i y=l:=by rw[<- (List.getElem?_eq_some_iff.1 n).2];exact OR W
 have G:=APC (fl:=fl) (an:=an) (x:=x) (p:=p) ow.1;have f: ∀ {b:Hs},y.cV b-> ∀z∈l.set i b,∀a,z.u a<=3*(k+1)/\z.f a<=k+1:=λ{b} f=>uG (Q:=λz=> ∀a,z.u a<=3*(k+1)/\z.f a<=k+1) (λz X a=>by have:=d.all z X a;omega) λa=>by
  have:=d.all y F a;have:=f.u a;rw[f.f];omega
 refine APX S d.w n d.m V T len U (λa=>by have:=(d.all y F a).2;omega) (λa=>by have:=(d.all y F a).1;omega) (by omega) (by omega) (by omega) (by omega)
  (λc o st nx e J=>?_) (λc b r t u e j v w B=>?_) (λc b e j K w B=>?_) λc b r t u L M e j q v w Y Z aa B=>?_
 ·rw[G] at e;refine C c y mp fl an o st nx ⟨?_,d.m,f ⟨rfl,rfl,rfl,λm=>by omega⟩⟩ ⟨rfl,rfl,rfl,λm=>by omega⟩ (λ_ _ _=>rfl) J.mod (.inl ⟨rfl,rfl,.inl e⟩) (.inl rfl);rw[cT];exact(d.w.on J).put (by omega) (by omega) (by omega) (by omega)
 ·rw[G] at e;exact C c b mp fl an _ 0 0 ⟨w.put (by omega) (by omega) (by omega) (by omega),d.m,f j⟩ j (λ_ _ _=>rfl) B (.inl ⟨rfl,rfl,.inr ⟨e,v,rfl,rfl,r,t,u,rfl⟩⟩) (.inl rfl)
 ·rw[ow.2] at K;cases K
 ·rw[G] at e;exact C c b _ _ _ 0 _ _ ⟨w.put (by omega) (by omega) (by omega) (by omega),Y,f j⟩ j aa B (.inr ⟨e,rfl,r,t,u,L,M,v,rfl,rfl,rfl,rfl,Z⟩) (.inr ⟨r,t,u,L,M,v,rfl,rfl,q⟩)
end
structure AXi (mp:List Pr) (y:Hs) (sh:Nat):Prop where
 has: ∀n,n<sh->y.f n=1/\G7 mp n 1 y.name
 non: ∀n,sh<=n->y.f n=0/\(n<256->G7 mp n 0 ⟨#[]⟩)
section
variable {A : ao} {g h : aa} {s k sh : Nat} {y : Hs} {mp : List Pr} {O : Nat -> Prop} {R : A2X}
end
theorem AQc {id tick k:Int}(a:1<=id/\id<=500)(b:0<=tick/\tick<=1099511627776)(c:k=2\/k=13\/k=18):Er ⟨id,k,tick,0,0,0,false,⟨#[]⟩⟩=true:=by have d:bQ id 1 500=true:=Ba.2 a;have e:bQ tick 0 1099511627776=true:=Ba.2 b;have f:bQ k 1 18=true:=Ba.2 (by omega);unfold Er Eu Kr;rw[d,e,f];rcases c with rfl|rfl|rfl<;>rfl
theorem AQV {id tick:Int}{p:bL}(a:1<=id/\id<=500)(b:0<=tick/\tick<=1099511627776)(c:GJ p=true):Er ⟨id,1,tick,0,0,0,false,Ae (Ce p)⟩=true:=by
 have d:bQ id 1 500=true:=Ba.2 a;have e:bQ tick 0 1099511627776=true:=Ba.2 b;unfold Er Eu Kr;dsimp only;rw[d,e,Fg,yI c];have:dO 1=true:=by decide
 rw[this,IH];rfl
theorem QQ {a:Int}{wid:A2Y}{b:Int}(c:1<=a/\a<=7)(d:Am wid=true)(e:0<=b/\b<=500):Hq ⟨a,b,0⟩ wid=true:=by unfold Hq;rw[Ba.2 c,d,Ba.2 e];rfl
theorem qi {a:bd}{t:fE}{tick:Int}{c:Nat}(b:a.err=0)(d:Hq t a.wid=true):(EB a t tick c).err=0:=by unfold EB;rw[if_neg (by simp[b]),if_neg (by simp[d])];exact b
theorem AKI {a:bd}(b:EN a=true):a.more≠ []/\a.st.status=0/\a.st.fresh=true/\a.st.asked=0/\a.st.taken=0:=by unfold EN at b;simpa [and_assoc] using b
theorem ASf {a:bd}(d:a.err=0)(e:EN a=true)(m:2<=a.st.next/\a.st.next<=500)(f:0<=a.now/\a.now<=1099511627776):
  Di a Ry= {a with st:= {a.st with asked:=a.st.next,next:=a.st.next+1},more:=a.more++ [⟨a.st.next,2,a.now,0,0,0,false,⟨#[]⟩⟩]}:=by
 obtain⟨g,h,i,j,l⟩:=AKI e;have b:CU a Ry=⟨a.st.next,2,a.now,0,0,0,false,⟨#[]⟩⟩:=by unfold CU;rw[if_neg (by omega)];rfl
 have ok:=AQc (id:=a.st.next) (tick:=a.now) (k:=2) (by omega) f (.inl rfl);have c:Bh a.st (CU a Ry)=(0,{a.st with asked:=a.st.next,next:=a.st.next+1}):=by rw[b];unfold Bh;rw[if_neg (by simp[ok]),if_neg (by omega),if_neg (by simp[h]),if_neg (by simp)];unfold Qx EC;rw[if_pos (show(2:Int)<=2/\(2:Int)<=5 by decide),if_pos rfl,if_pos ⟨j,l,i⟩];rfl
 rw[lX d (.inl g) (by rw[c]),c,b]
theorem AQD {a:bd}{n1:Nat}(c:a.err=0)(e:2<=a.st.next/\a.st.next<=500)(f:0<=a.now/\a.now<=1099511627776)(g:Am a.wid=true):(Et a n1).err=0/\(Et a n1).wid=a.wid/\(Et a n1).now=a.now/\(Et a n1).st=(if EN a=true then {a.st with asked:=a.st.next,next:=a.st.next+1} else a.st)/\(Et a n1).more=(if EN a=true then a.more++ [⟨a.st.next,2,a.now,0,0,0,false,⟨#[]⟩⟩] else a.more):=by
 unfold Et;split
 ·rename_i h;have b:=ASf c h e f;have i:UW (Di a Ry)=a.st.next:=by rw[b];show a.st.next+1-1=_;omega
  have d:Hq ⟨1,UW (Di a Ry),0⟩ (Di a Ry).wid=true:=by rw[i,b];exact QQ (by decide) g (by omega)
  refine⟨qi (by rw[b];exact c) d,?_,?_,?_,?_⟩
  ·unfold EB;rw[if_neg (by rw[b];simp[c]),if_neg (by simp[d]),b]
  ·unfold EB;rw[if_neg (by rw[b];simp[c]),if_neg (by simp[d]),b]
  ·rw[(Ht _ _ _ _).1,b]
  ·rw[(Ht _ _ _ _).2,b]
 ·exact⟨c,rfl,rfl,rfl,rfl⟩
theorem uH {a:bd}{n1 n2:Nat}(f:a.err=0)(g:2<=a.st.next/\a.st.next<=500)(h:0<=a.now/\a.now<=1099511627776)(b:Am a.wid=true):(BA a n1 n2).err=0/\(BA a n1 n2).st=(if EN a=true then {a.st with asked:=a.st.next,next:=a.st.next+1} else a.st)/\(BA a n1 n2).more=(if EN a=true then a.more++ [⟨a.st.next,2,a.now,0,0,0,false,⟨#[]⟩⟩] else a.more):=by
 obtain⟨c,i,j,d,e⟩:=AQD (n1:=n1) f g h b;unfold BA;split
 ·refine⟨qi c (by rw[i];exact QQ (by decide) b (by decide)),?_,?_⟩
  ·rw[(Ht _ _ _ _).1,d]
  ·rw[(Ht _ _ _ _).2,e]
 ·exact⟨c,d,e⟩
theorem uI {x:bN}{p:bL}{n n0:Nat}{now:Int}(j:x.kind=1)(c:GJ p=true)(k:Am x.wid=true)(q:0<=now/\now<=1099511611776):
  (DL x p (CF none x.wid n now) n0).err=0/\(DL x p (CF none x.wid n now) n0).st=⟨p,0,2,now,0,0,true,[],[],false,false⟩/\(DL x p (CF none x.wid n now) n0).more= [⟨1,1,now,0,0,0,false,Ae (Ce p)⟩]/\(DL x p (CF none x.wid n now) n0).wid=x.wid/\(DL x p (CF none x.wid n now) n0).now=now:=by
 have ok:=AQV (id:=1) (tick:=now) (p:=p) (by decide) (by omega) c;have d:(CF none x.wid n now).err=0:=by show(if now<0\/1099511611776<now then(1:Int) else 0)=0;rw[if_neg (by omega)]
 have f:CU (CF none x.wid n now) (dp 1 (Ae (Ce p)))=⟨1,1,now,0,0,0,false,Ae (Ce p)⟩:=rfl;have g:Bh (CF none x.wid n now).st (CU (CF none x.wid n now) (dp 1 (Ae (Ce p))))=(0,⟨p,0,2,now,0,0,true,[],[],false,false⟩):=by rw[f];unfold Bh;rw[if_neg (by simp[ok]),if_pos (show(CF none x.wid n now).st.next=0 from rfl),if_pos ⟨rfl,rfl⟩];unfold Yt;dsimp only;rw[Fg,yI c];rfl
 have h:=lX d (e:=dp 1 (Ae (Ce p))) (.inr (.inl (by show(0:Int)<=497;decide))) (by rw[g]);rw[g,f] at h;have base:(Di (CF none x.wid n now) (dp 1 (Ae (Ce p)))).err=0/\(Di (CF none x.wid n now) (dp 1 (Ae (Ce p)))).st=⟨p,0,2,now,0,0,true,[],[],false,false⟩/\(Di (CF none x.wid n now) (dp 1 (Ae (Ce p)))).more= [⟨1,1,now,0,0,0,false,Ae (Ce p)⟩]/\(Di (CF none x.wid n now) (dp 1 (Ae (Ce p)))).wid=x.wid/\(Di (CF none x.wid n now) (dp 1 (Ae (Ce p)))).now=now:=by rw[h];exact⟨d,rfl,rfl,rfl,rfl⟩
 unfold DL;rw[if_pos j];split
 ·obtain⟨a,l,m,i,o⟩:=base;have b:Hq ⟨6,0,0⟩ (Di (CF none x.wid n now) (dp 1 (Ae (Ce p)))).wid=true:=by rw[i];exact QQ (by decide) k (by decide)
  refine⟨qi a b,by rw[(Ht _ _ _ _).1,l],by rw[(Ht _ _ _ _).2,m],?_,?_⟩
  ·unfold EB;rw[if_neg (by simp[a]),if_neg (by simp[b])];exact i
  ·unfold EB;rw[if_neg (by simp[a]),if_neg (by simp[b])];exact o
 ·exact base
theorem Y0 {x:bN}{p:bL}{n n0 n1 n2:Nat}{now:Int}(g:x.kind=1)(h:GJ p=true)(b:Am x.wid=true)(i:0<=now/\now<=1099511611776):
  (BA (GI x p (CF none x.wid n now) n0) n1 n2).err=0/\(BA (GI x p (CF none x.wid n now) n0) n1 n2).st=⟨p,0,3,now,2,0,true,[],[],false,false⟩/\(BA (GI x p (CF none x.wid n now) n0) n1 n2).more= [⟨1,1,now,0,0,0,false,Ae (Ce p)⟩,⟨2,2,now,0,0,0,false,⟨#[]⟩⟩]:=by
 obtain⟨j,k,l,m,o⟩:=uI (n:=n) (n0:=n0) g h b i;have q:(GI x p (CF none x.wid n now) n0).err=0:=j;have a:(GI x p (CF none x.wid n now) n0).st=⟨p,0,2,now,0,0,true,[],[],false,false⟩:=k;have c:(GI x p (CF none x.wid n now) n0).more= [⟨1,1,now,0,0,0,false,Ae (Ce p)⟩]:=l;have r:(GI x p (CF none x.wid n now) n0).wid=x.wid:=m;have d:(GI x p (CF none x.wid n now) n0).now=now:=o;obtain⟨s,e,f⟩:=uH (n1:=n1) (n2:=n2) q (by rw[a];exact⟨(by decide:(2:Int)<=2),(by decide:(2:Int)<=500)⟩) (by rw[d];omega) (by rw[r];exact b);have t:EN (GI x p (CF none x.wid n now) n0)=true:=by unfold EN;rw[a,c];rfl
 rw[t,if_pos rfl] at e f;refine⟨s,?_,?_⟩
 ·rw[e,a];show(⟨p,0,2+1,now,2,0,true,[],[],false,false⟩:aW)=_;rfl
 ·rw[f,a,c,d];rfl
structure AXh (h:aa) (x:bN) (p:bL):Prop where
 V:View TF h x.steps p.steps
 lim:x.au=p.au
 len:p.steps.length<=1099511627776
 sz: ∀y∈p.steps,y.name.size<=1099511627776/\y.aG.size<=1099511627776
 name:x.name.size<=1099511627776
 wid:x.wid.size<=1099511627776
 bj:x.bj.size<=1099511627776
theorem uJ {h:aa}{x:aS}{K:Nat->aa->Prop}(i: ∀a,a[h.size]? =some (J2 x.c Aw (0,0))->Ext h a->K h.size a):ai h (J2 aS.z.c Aw) λb e=>aD e ⟨b,0,none⟩ x.l λd=>K b d:=
 ai.mk λe _ j k n=>aD.mk j (A0 9) λd f l o=>i d (by rw[KI] at f;exact f) (k.more l λc m=>by subst m;exact A0 _)
theorem EW.less {g h:aa}{s b d:Nat}{l:List Hs}{e:List Pr}{f:cn}{i:cL}{j O':Nat->Prop}(a:EW g h s b d l e f i j)(k: ∀c,O' c->j c):EW g h s b d l e f i O':=⟨a.w.less k,a.m,a.all⟩
theorem aR.aF {g h a:aa}{b:Nat->Prop}{c:Nat}{d:Obj}(m:Mod (aR g b) h a)(e:h[c]? =some d)(f:b c):a[c]? =some d:=m.ag e λi=>i.2 f
abbrev uK:bI:=⟨1,⟨#[97]⟩,⟨#[]⟩,1,0,0⟩
theorem ARi {a:cn}{b:cL}{x:bN}{p:bL}(e:1<=x.kind/\x.kind<=4)(c:RZ x p=0)(d:b x.bj=none):Pk a b 1 x p=(match a x.wid with
   |none=>if x.kind=1 then none else some (180,0,0)
   |some l=>if x.kind=1 then some (181,0,0) else if(BP l).status≠0 then some (182,0,0) else none):=by
 unfold Pk;rw[if_neg (by omega),if_neg (by simp[c]),if_neg (by decide),d]
 try rfl
theorem qh.start {b j:cn}{c k:cL}{n:Nat}{x:bN}{p:bL}{now l st nx:Int}(B:qh b c n x p now l st nx j k)(a:x.kind=1)(m:RZ x p=0)(C:c x.bj=none)(e:b x.wid=none)(o:0<=now/\now<=1099511611776):
  l=0/\st=0/\nx=3/\j=cU b x.wid [⟨1,1,now,0,0,0,false,Ae (Ce p)⟩,⟨2,2,now,0,0,0,false,⟨#[]⟩⟩]/\k=cU c x.bj (Mf x p,0,3)/\BP [⟨1,1,now,0,0,0,false,Ae (Ce p)⟩,⟨2,2,now,0,0,0,false,⟨#[]⟩⟩]=⟨p,0,3,now,2,0,true,[],[],false,false⟩:=by
 obtain⟨g1,F,q,G⟩:=kq m;have D:Pk b c 1 x p=none:=by rw[ARi (by omega) m C,e];show(if x.kind=1 then none else some (180,0,0))=none;rw[if_pos a]
 rcases B with⟨_,_,r|⟨_,f,_,_,n0,n1,n2,s⟩⟩|⟨_,f,n0,n1,n2,H,t,I,i,u,v,w,d⟩
 ·rw[D] at r;cases r
 ·exfalso;rw[e] at s;exact f (s.trans (Y0 a (g1 a) q o).1)
 ·rw[e] at t i d;obtain⟨E,y,z⟩:=Y0 (n:=n) (n0:=n0) (n1:=n1) (n2:=n2) a (g1 a) q o;rw[<- t] at E y z;rw[Option.getD_none,CT,z] at i d;rw[y] at u v w d;exact⟨f,v,w,i,u,d⟩
section
variable {A : ao} {g h : aa} {R : A2X}
end
section
variable {A : ao} {g h : aa} {s k N sh i : Nat} {l : List Hs} {mp : List Pr} {O : Nat -> Prop} {y : Hs} {fl : cn} {an : cL} {R : A2X} {cb : Nat} {z : Nat -> Nat} {x : dR} {C : bd}
structure Zl (mp:List Pr) (fl:cn) (C:bd):Prop where
 wid:Am C.wid=true
 fits:C.fits ((fl C.wid).getD [])
 more:C.more≠ []
 st:DI C.st 500
 ok: ∀e∈C.more,Er e=true/\e.data.size<1099511627776
 len:C.more.length+C.ar.length<=50/\C.conds.length<=50
 keys: ∀p∈C.conds,p.key.size<=1099511627776
 base:nf C (fl C.wid)
 bW:0<=C.bW/\C.bW<=4
 bP:0<=C.bP/\C.bP<=501
 now:0<=C.now/\C.now<=1099511627776
 next:2<=C.st.next/\C.st.next<=500
 err:C.err=0
 bes:C.beside none
theorem EW.gj {k':Nat}(aa:bR g)(L:CW PO g h s k N sh l i y mp O cb z x C)(E:Jc mp fl an)(ab: ∀j∈l,∀n,j.u n<=3*k/\j.f n<=k)(F: ∀n,y.u n+2<=3*k'/\y.f n<=k)(ay:k+1<=k')(az:N+2<=3*k')(aA:k'<=490)(ow:gC mp y C.aj)(ac:C.aj<256)(ae:Zl mp fl C)
  (af:(∀ c∈C.conds,Be mp c=true)-> ∀f d a b D,D=BA C a b->EW g f s k' sh (l.set i d) (cu mp (Dh D++D.ar)) (cU fl C.wid ((fl C.wid).getD []++D.more)) an O->y.cK d->
   (∀ n G M,Be (cu mp (Dh D++D.ar)) (FW n G M)=Be mp (FW n G M))->BP ((fl C.wid).getD []++D.more)=D.st->Mod (aR g O) h f->R (J6 J9 0) f)
  (ag: ¬(∀ c∈C.conds,Be mp c=true)-> ∀f d,EW g f s k' sh (l.set i d) mp fl an O->y.cK d->Mod (aR g O) h f->R (J6 J9 100) f):
  AA A P Cn #[Ap cb] h R:=by
 have aC:PO.C=32000:=rfl;have hA:PO.A=1600:=rfl;have S:=L.w.sorted;obtain⟨q,ah,ai,T,U,aD,aj,ak,aE,al,am,ao,ap,aq⟩:=ae;have ar: ∀a b,(BA C a b).err=0:=λa b=>(uH ap ao am q).1
 have r: ∀ {d:Hs},y.cK d-> ∀j∈l.set i d,∀n,j.u n<=3*k'/\j.f n<=k':=λ{d} r=>uG (Q:=λj=> ∀n,j.u n<=3*k'/\j.f n<=k') (λj H n=>by have:=ab j H n;omega) λn=>by
  have:=F n;have:=r.u n;rw[r.f];omega
 refine vG aa L T (by omega) q U ac (by have:=F C.aj;omega) (by have:=F C.aj;omega) (by omega) (by omega) (by omega) (by omega) (by omega) (by omega) (by omega) aj (by omega) al (by omega)
  (λau=>absurd au ow.1) (λa b d f n u=>absurd (ar a b) u) (λa b d f n u v=>by rw[ow.2] at v;cases v) (λa b d f n _ v hd I J=>?_) λa b d f n _ _ v hd I J=>?_
 all_goals
  have e:=Vz (n:=500) U T a b;have w:=Zz aq a b;have aF:=e.more;have aG:=e.ar;have V:=e.none ai;have W:Dh (BA C a b)++(BA C a b).ar≠ []:=λh=>by
   unfold Dh at h;rw[if_neg V] at h;simp at h
  have av:Be mp (bo C)=true:=uy E q ak
 ·have B: ¬(∀ c∈C.conds,Be mp c=true):=λt=>hd (uB (by rw[e.wid];exact q) e.ok e.st w (by omega) W (by simp;omega) λc m=>by
   rcases List.mem_cons.1 m with rfl|m
   ·exact ow.2
   ·rcases List.mem_append.1 m with m|m
    ·exact t c m
    ·rw[List.mem_singleton.1 m];exact av)
  have u:GM (Dh (BA C a b)++(BA C a b).ar)=0:=qe W (by have:=uA (BA C a b);rw[A1];omega) λp aw=>by
   rcases List.mem_append.1 aw with h|h
   ·exact uz (by rw[e.wid];exact q) e.ok e.st p h
   ·exact w.ok p h
  have ax:de mp (FW C.aj (y.f C.aj) y.name::(C.conds++ [bo C])) (Dh (BA C a b)++(BA C a b).ar)=100:=by unfold de;rw[if_neg (by simp;omega),if_neg (by rw[u];decide),if_neg λK=>B λc t=>List.all_eq_true.1 K c (by simp[t])]
  rw[ax];exact ag B f d ⟨I.put (by omega) (by omega) (by omega) (by omega),E,r n⟩ n J
 ·have B: ∀c∈C.conds,Be mp c=true:=λc t=>by
   unfold de at hd;split at hd
   ·cases hd
   ·split at hd
    ·rename_i h;exact absurd hd h
    ·split at hd
     ·rename_i K;exact List.all_eq_true.1 K c (by simp[t])
     ·cases hd
  have X:(BA C a b).fits ((fl C.wid).getD []):=uv ah;have Y:(fl C.wid).getD []++(BA C a b).more≠ []:=λh=>V (List.append_eq_nil_iff.1 h).2
  have Z:=E.done S (D:=BA C a b) (o:=none) (by rw[e.wid];exact q) (by rw[e.wid];exact X) (by rw[e.wid];exact Y) e.st w (λG j H=>by cases H);rw[e.wid] at Z;exact af B f d a b _ rfl ⟨I.put (by omega) (by omega) (by omega) (by omega),Z,r n⟩ n (uC S w) (qf X Y e.st).2 J
end
theorem ai.jj {h:aa}{c:Obj}{d:aa->Prop}{e:Nat->aa->Prop}(q: ∀f,Ext h f->d f)(k:ai h c e):ai h c λb j=>And (d j) (e b j):=⟨q _ (Mod.push h c),k⟩
section
variable {A : ao} {B : cX} {g h : aa} {s a N sh cb : Nat} {l : List Hs} {mp : List Pr} {O : Nat -> Prop} {i : Nat} {y : Hs} {z : Nat -> Nat} {x : dR} {C : bd} {R : A2X}
theorem ASN {key val:A2Y}{r:Bool}(k:CW B g h s a N sh l i y mp O cb z x C)(t:C.conds.length<1000)(u:C.ar.length<1000)
  (v: ∀d w x',CW B g d s a N sh l i y mp O cb w x' (iD C key val)->Mod (aR g O) h d->R (J1 #[]) d):AA A P HV #[Ap cb,.agg #[J7 key,J7 val,J3 r]] h R:=by
 refine WF ?_;unfold Oo;dsimp only[At];refine ai.mk λQ _ e m S=>?_
 have b:=k.on m;refine AV.mk (s:=x.conds) (Cm b.bq.ag rfl) (AL.mk (n:=key) (AO e rfl) (AL.mk (n:=val) (AB e rfl) ?_));refine ai.jj (λd f=>Cm (b.on f).bq.ag rfl) (b.bq.fw (p:=⟨key,val,false⟩) b.fJ t λT o U D j E=>?_);have c:=b.step (x':= {x with conds:=o}) j E rfl D;have F:=j.ag e λG=>by have:=k.fJ _ G;omega
 refine AV.mk (s:=x.ar) (Cm c.bq.ag rfl) (AL.mk (n:=key) (AO F rfl) ?_);refine ai.jj (λd f=>Cm (c.on f).bq.ag rfl) (c.bq.dU (p:=⟨key,⟨#[]⟩,true⟩) c.fJ u λH I J K q L=>?_);have M:=c.step (x':= {x with conds:=o,ar:=I}) q L rfl K;exact v H J _ M (m.mod.trans ((b.frame j).trans (c.frame q)))
end
section
variable {A : ao} {h : aa} {R : A2X}
theorem uN {f:bH}{t:bS}(j:t.kind=1)(k: ∀d,Ext h d->R (J1 #[J7 ⟨#[]⟩,J3 (decide (f.st.next<=497)&&(f.st.asked==t.ref))]) d):AA A P NU #[f.v,t.v] h R:=by
 refine AEx ?_;unfold YE;refine ai.mk λq _ l m r=>ai.mk λs _ e g u=>?_
 have i:=g.ag l λh=>h
 refine A9.mk f.st (Bz (o:=6) i rfl) (vA λp a=>⟨_,rfl,?_⟩);have b:=k p ((m.trans g).trans a);refine ab.intro (λc=>?_) (λc=>?_)
 ·rw[show decide (f.st.next<=497)=false by simpa using c] at b;exact b
 ·rw[show decide (f.st.next<=497)=true by simpa using c] at b;refine AC.mk (n:=t.kind) (AO (a.ag e λh=>h) rfl) (ab.yes (by simp[j]) ?_);refine AC.mk (n:=f.st.asked) (by rw[add_add];exact AB (a.ag i λh=>h) rfl) (AC.mk (n:=t.ref) (AB (a.ag e λh=>h) rfl) ?_);exact b
end
theorem ALx {a:bd}{t:fE}{tick:Int}{c:Nat}(b:(EB a t tick c).err=0):(EB a t tick c).ar=a.ar++ [⟨ND a.aj tick c,fV t a.wid,false⟩]:=by
 unfold EB at b ⊢;split at b
 ·rename_i d;exact absurd b d
 ·rename_i d;rw[if_neg d];split at b
  ·exact absurd (show(1:Int)=0 from b) (by decide)
  ·rename_i e;rw[if_neg e]
theorem ALM {x:bN}{p:bL}{n n0 n1 n2:Nat}{now:Int}(h:x.kind=1)(d:GJ p=true)(i:Am x.wid=true)(j:0<=now/\now<=1099511611776)(v:p.au=0):
  EN (GI x p (CF none x.wid n now) n0)=true/\ ∃e,(BA (GI x p (CF none x.wid n now) n0) n1 n2).ar= [⟨LA x.bj,e,false⟩,⟨DD n n1,fV ⟨1,2,0⟩ x.wid,false⟩]:=by
 obtain⟨w,m,o,q,y⟩:=uI (n:=n) (n0:=n0) h d i j;obtain⟨k,c,z⟩:=Y0 (n:=n) (n0:=n0) (n1:=n1) (n2:=n2) h d i j;have l:DL x p (CF none x.wid n now) n0=Di (CF none x.wid n now) (dp 1 (Ae (Ce p))):=by unfold DL;rw[if_pos h,if_neg (by omega)]
 generalize f:GI x p (CF none x.wid n now) n0=b at*
 have e:EN b=true:=by subst f;unfold EN;rw[show(GI x p (CF none x.wid n now) n0).st=_ from m,show(GI x p (CF none x.wid n now) n0).more=_ from o];rfl
 refine⟨e,?_⟩;have a:=PS b Ry;have r:BA b n1 n2=EB (Di b Ry) ⟨1,UW (Di b Ry),0⟩ (-1) n1:=by
  have s:Et b n1=EB (Di b Ry) ⟨1,UW (Di b Ry),0⟩ (-1) n1:=by unfold Et;rw[if_pos e]
  unfold BA at c ⊢;split
  ·rename_i g;exfalso;rw[if_pos g,(Ht _ _ _ _).1] at c;exact g.2 (by rw[c])
  ·exact s
 rw[r] at k c ⊢;rw[ALx k];rw[(Ht _ _ _ _).1] at c;have t:UW (Di b Ry)=2:=by unfold UW;rw[c];rfl
 rw[t];have d:b.ar= [⟨LA x.bj,iC (Mf x p) (DF (DL x p (CF none x.wid n now) n0)).1.toNat (DF (DL x p (CF none x.wid n now) n0)).2.toNat,false⟩]:=by rw[<- f];show(DL x p (CF none x.wid n now) n0).ar++_=_;rw[l,(PS _ _).2.2.2.2.2.1];rfl
 have g:(Di b Ry).aj=n:=by rw[a.2.1,<-f];show(DL x p (CF none x.wid n now) n0).aj=n;rw[l,(PS _ _).2.1];rfl
 have u:(Di b Ry).wid=x.wid:=by rw[a.1,<-f];exact q
 rw[a.2.2.2.2.2.1,d,g,u];exact⟨_,rfl⟩
def bZ(p:bL)(t:Int):aW:=⟨p,0,3,t,2,0,true,[],[],false,false⟩
def dD(p:bL)(t:Int):aW:=⟨p,0,4,t,0,3,false,[],[],false,false⟩
abbrev Vi(a:Int):Ev:=⟨0,3,0,a,0,0,false,⟨#[]⟩⟩
theorem take_add {C:bd}{p:bL}{t:Int}(d:C.err=0)(a:C.st=bZ p t)(e:0<=C.now/\C.now<=1099511627776):
  Di C (Vi 2)= {C with st:=dD p t,more:=C.more++ [⟨3,3,C.now,2,0,0,false,⟨#[]⟩⟩]}:=by
 have b:CU C (Vi 2)=⟨3,3,C.now,2,0,0,false,⟨#[]⟩⟩:=by unfold CU;rw[a];rfl
 have ok:Er (⟨3,3,C.now,2,0,0,false,⟨#[]⟩⟩:Ev)=true:=by have f:bQ C.now 0 1099511627776=true:=Ba.2 e;unfold Er Eu Kr;rw[f];rfl
 have c:Bh C.st (CU C (Vi 2))=(0,dD p t):=by rw[b,a];unfold Bh;rw[if_neg (by simp[ok]),if_neg (by simp[bZ]),if_neg (by simp[bZ]),if_neg (by simp[bZ])];rfl
 rw[lX d (.inr (.inl (by rw[a];exact(by decide:(3:Int)<=497)))) (by rw[c]),c,b]
section
variable {A : ao} {h : aa} {R : A2X}
theorem uO {x:Sl}{l:List Ev}(v:View dd h x l)(e:l.length<=1000)(d: ∀a b,Own dd A8 b a l->(∀ c,a.ag=some c->h.size<=c)->Ext h b->R (J4 a.p a.len a.cap) b):AA A P Ca #[J4 x.p x.len x.cap] h R:=by refine JB ?_;unfold FK;exact WZ my v (by omega) (by simp only[maxLen];omega) d
end
def GQ(P:A2Y)(m:List Pr):List Pr:=m.filter λx=>Lt P x.key
section
variable {P k : A2Y} {m b : List Pr} {p x : Pr}
theorem ATb(k:A2Y):aI k (⟨#[]⟩:A2Y)=false:=by unfold aI;rw[ByteArray.toList_eq,ByteArray.toList_eq];cases k.data.toList<;>rfl
theorem ql(a:Int):jb m P ⟨#[]⟩ a=(GQ P m).take a.toNat:=by unfold jb GQ;rw[HI λx _=>by rw[ATb,Lz,Bool.and_true]]
theorem Ic(s:Sorted m):Sorted (GQ P m):=s.sublist GS
theorem nj:Ab k (GQ P m)=if Lt P k=true then Ab k m else none:=ly (q:=Lt P)
theorem AUd(s:Sorted m):GQ P (eN m p)=if Lt P p.key=true then eN (GQ P m) p else GQ P m:=by
 split
 ·refine Sorted.ext (Ic (Ku s p)) (Ku (Ic s) p) λk=>?_
  rw[nj,QY s,QY (Ic s),nj]
  grind
 ·refine Sorted.ext (Ic (Ku s p)) (Ic s) λk=>?_
  rw[nj,nj,QY s]
  grind
theorem Py:GQ P (p::b)=if Lt P p.key=true then p::GQ P b else GQ P b:=AS
theorem PP: ∀ {b m:List Pr},Sorted m->GQ P (cu m b)=cu (GQ P m) (GQ P b)
 | [],_,_=>rfl
 |p::b,m,s=>by
  show GQ P (cu (eN m p) b)=_;rw[PP (Ku s p),AUd s,Py];split<;>rfl
theorem uP(a b:List Pr):GQ P (a++b)=GQ P a++GQ P b:=Ly _ _
theorem eL(a: ∀p∈b,Lt P p.key=false):GQ P b= []:=List.filter_eq_nil_iff.2 λp c=>by rw[a p c];decide
theorem AUK(s:Sorted m)(e:p.gone=false)(d: ∀q∈m,aI q.key p.key=true):eN m p=m++ [p]:=by
 have f:Sorted (m++ [p]):=List.pairwise_append.2 ⟨s,Pa _ _,λa g b h=>by rw[List.mem_singleton.1 h];exact d a g⟩;refine Sorted.ext (Ku s p) f λk=>?_
 rw[QY s,IX,e,M.MV,M.BG,M.Rx];by_cases c:p.key=k
 ·subst c;rw[if_pos rfl,if_pos rfl,M.EQ λx i=>M.Mk (d x i)];rfl
 ·rw[if_neg c,if_neg c];cases Ab k m<;>rfl
theorem uQ(s:Sorted (x::m))(a:p.key=x.key)(c:p.gone=true):eN (x::m) p=m:=by
 rw[sV s,c,if_pos rfl,a];unfold jV;rw[AS,if_neg (by simp)];refine List.filter_eq_self.2 λd e=>?_
 have:=M.Mk ((List.pairwise_cons.1 s).1 d e);simp[Ne.symm this]
end
theorem uR: ∀ {a b:List UInt8},a.length=b.length->a<b-> ∀x e:List UInt8,a++x<b++e
 | [],[],_,c,_,_=>absurd c (Pc _)
 | [],_::_,d,_,_,_=>by cases d
 |_::_,[],d,_,_,_=>by cases d
 |a::p,b::q,d,c,x,e=>by
  cases c with
  |rel c=>exact List.Lex.rel c
  |cons c=>exact List.Lex.cons (uR (by simpa using d) c x e)
theorem nq: ∀(k:Nat) {a b:Nat},b<256^k->a<b->I8 k a<I8 k b
 |0,a,b,c,d=>by simp at c;omega
 |k+1,a,b,c,d=>by
  rw[I8,I8];by_cases e:a / 256=b / 256
  ·rw[e];refine zH _ (List.Lex.rel ?_);rw[SS a,SS b,UInt8.lt_iff_toNat_lt,Dv (by omega),Dv (by omega)];omega
  ·have f:b / 256<256^k:=by rw[D0] at c;omega
   exact uR (by rw[Lx,Lx]) (nq k f (by omega)) _ _
theorem AQX {k a b:Nat}(e:a<256^k)(f:b<256^k)(d:I8 k a=I8 k b):a=b:=by
 rcases HN a b with c|c|c
 ·have:=nq k f c;rw[d] at this;exact absurd this (Pc _)
 ·exact c
 ·have:=nq k e c;rw[d] at this;exact absurd this (Pc _)
abbrev nu:Nat:=18446744073709551616
theorem APn {c a b:Nat}(d:b<nu)(e:a<b):aI (DD c a) (DD c b)=true:=by rw[XG,decide_eq_true_eq];unfold DD;rw[CE,CE];exact List.Lex.cons (List.Lex.cons (nq 8 d e))
def Ey(c a:Nat):A2Y:=Ae (113::0::Cu c::I8 8 a)
theorem SQ:Mo ⟨#[]⟩=Ae [113,0]:=by unfold Mo BX;rw[show bl (⟨#[]⟩:A2Y)= [] from rfl,Fq (by decide)];rfl
theorem ASu(c a:Nat):Mo ⟨#[]⟩++Ae (Cu c::I8 8 a)=Ey c a:=by rw[SQ,Aq];rfl
theorem UG(c a:Nat):(Ey c a).size=11:=by unfold Ey;rw[AP];rfl
theorem SF(c a:Nat):BL (Ey c a)=113:=by unfold BL Ey;rw[Fg];rfl
theorem AQI {c d a b:Nat}(e:c<256)(f:d<256)(g:a<nu)(h:b<nu)(i:Ey c a=Ey d b):c=d/\a=b:=by have:=Pm.1 i;simp only[G0,true_and] at this;exact⟨sd e f this.1,AQX g h this.2⟩
theorem nv {a:UInt8}{q:List UInt8}{k:A2Y}(c:Lt (Ae (a::q)) k=true):BL k=a:=by rw[Pq,CE] at c;obtain⟨t,d⟩:=c;unfold BL;show(k.data.toList).headD 0=a;rw[<- d];rfl
theorem nw {a:UInt8}{q:List UInt8}{k:A2Y}(c:BL k≠a):Lt (Ae (a::q)) k=false:=by
 cases d:Lt (Ae (a::q)) k with
 |false=>rfl
 |true=>exact absurd (nv d) c
theorem Zf {c a e:Nat}(f:c<256)(g:a<256):Lt (Mw c) (DD a e)=decide (c=a):=by
 rw[DH,Pq,decide_eq_true_eq];unfold Mw DD;rw[CE,CE];constructor
 ·rintro⟨t,d⟩;simp only[Dd,CT,G0,true_and] at d;exact sd f g d.1
 ·rintro rfl;exact⟨_,rfl⟩
theorem uS(c a:Nat):Lt (Mo ⟨#[]⟩) (Ey c a)=true:=by rw[Pq,SQ];unfold Ey;rw[CE,CE];exact⟨_,rfl⟩
theorem qm {c:Nat}{b:List Pr}(a: ∀p∈b,BL p.key≠116):GQ (Mw c) b= []:=eL λp d=>nw (a p d)
theorem qn {b:List Pr}(a: ∀p∈b,BL p.key≠113):GQ (Mo ⟨#[]⟩) b= []:=by rw[SQ];exact eL λp c=>nw (a p c)
abbrev dN(wid:A2Y):A2Y:=fV ⟨1,2,0⟩ wid
def cS(c:Nat)(t:Nat×A2Y):Pr:=⟨DD c t.1,dN t.2,false⟩
def gD(c:Nat)(t:Nat×A2Y):Pr:=⟨Ey c t.1,dN t.2,false⟩
structure eQ (mp:List Pr) (T:Nat->List (Nat×A2Y)) (L:List Pr):Prop where
 tr: ∀c,c<2->GQ (Mw c) mp=(T c).map (cS c)
 li:GQ (Mo ⟨#[]⟩) mp=L
section
variable {mp b : List Pr} {T : Nat -> List (Nat × A2Y)} {L : List Pr}
def cI(T:Nat->List (Nat×A2Y))(c:Nat)(l:List (Nat×A2Y)):Nat->List (Nat×A2Y):=λa=>if a=c then l else T a
theorem eQ.made {c f:Nat}{wid:A2Y}{a g:List Pr}(l:eQ mp T L)(s:Sorted mp)(w:c<2)(i: ∀p∈a++g,BL p.key≠116/\BL p.key≠113)(n:f<nu)(o: ∀t∈T c,t.1<f):eQ (cu mp (a++cS c (f,wid)::g)) (cI T c (T c++ [(f,wid)])) L:=by
 have r: ∀d,d<2->GQ (Mw d) (a++cS c (f,wid)::g)=if d=c then [cS c (f,wid)] else []:=λd j=>by
  rw[uP,Py,qm (b:=a) λp h=>(i p (by simp[h])).1,qm (b:=g) λp h=>(i p (by simp[h])).1,show Lt (Mw d) (cS c (f,wid)).key=decide (d=c) from Zf (by omega) (by omega)];by_cases e:d=c<;>simp[e]
 refine⟨λd j=>?_,?_⟩
 ·rw[PP s,r d j,l.tr d j];unfold cI;by_cases e:d=c
  ·subst e;rw[if_pos rfl,if_pos rfl,Cl];refine AUK (by rw[<- l.tr d j];exact Ic s) rfl λq u=>?_
   obtain⟨t,v,rfl⟩:=List.mem_map.1 u;exact APn n (o t v)
  ·rw[if_neg e,if_neg e];rfl
 ·rw[PP s,qn (b:=a++cS c (f,wid)::g) λp h=>?_]
  ·exact l.li
  ·rcases List.mem_append.1 h with e|e
   ·exact(i p (by simp[e])).2
   ·rcases List.mem_cons.1 e with rfl|e
    ·show BL (DD c f)≠113;rw[QT];decide
    ·exact(i p (by simp[e])).2
theorem eQ.jk {c:Nat}{t:Nat×A2Y}{l:List (Nat×A2Y)}(e:eQ mp T L)(s:Sorted mp)(o:c<2)(f:T c=t::l):eQ (cu mp [⟨DD c t.1,⟨#[]⟩,true⟩,gD c t]) (cI T c l) (eN L (gD c t)):=by
 have i: ∀q:List UInt8,Lt (Ae (113::q)) (DD c t.1)=false:=λq=>nw (by rw[QT];decide)
 have j: ∀q:List UInt8,Lt (Ae (116::q)) (Ey c t.1)=false:=λq=>nw (by rw[SF];decide)
 refine⟨λa g=>?_,?_⟩
 ·have n:GQ (Mw a) [⟨DD c t.1,⟨#[]⟩,true⟩,gD c t]=if a=c then [⟨DD c t.1,⟨#[]⟩,true⟩] else []:=by rw[Py,Py,show Lt (Mw a) (gD c t).key=false from j _,show Lt (Mw a) (DD c t.1)=decide (a=c) from Zf (by omega) (by omega)];by_cases d:a=c<;>simp[d,GQ]
  rw[PP s,n,e.tr a g];unfold cI;by_cases d:a=c
  ·subst d;have h:=Ic (P:=Mw a) s;rw[e.tr a g,f] at h;rw[if_pos rfl,if_pos rfl,f];exact uQ h rfl rfl
  ·rw[if_neg d,if_neg d];rfl
 ·rw[PP s,e.li,Py,Py,show Lt (Mo ⟨#[]⟩) (gD c t).key=true from uS _ _];rw[show Lt (Mo ⟨#[]⟩) (DD c t.1)=false from by rw[SQ];exact i _];rfl
theorem eQ.take {c d:Nat}{wid v:A2Y}{a g:List Pr}(i:eQ mp T (gD c (d,wid)::L))(s:Sorted mp)(h: ∀p∈a++g,BL p.key≠116/\BL p.key≠113):eQ (cu mp (a++⟨Ey c d,v,true⟩::g)) T L:=by
 refine⟨λl n=>?_,?_⟩
 ·rw[PP s,qm (b:=a++⟨Ey c d,v,true⟩::g) λp e=>?_]
  ·exact i.tr l n
  ·rcases List.mem_append.1 e with f|f
   ·exact(h p (by simp[f])).1
   ·rcases List.mem_cons.1 f with rfl|f
    ·show BL (Ey c d)≠116;rw[SF];decide
    ·exact(h p (by simp[f])).1
 ·have j:=Ic (P:=Mo ⟨#[]⟩) s;rw[i.li] at j;rw[PP s,i.li,uP,Py,show Lt (Mo ⟨#[]⟩) (Ey c d)=true from uS _ _,if_pos rfl,qn (b:=a) λp e=>(h p (by simp[e])).2,qn (b:=g) λp e=>(h p (by simp[e])).2];exact uQ j rfl rfl
end
abbrev Qc:Ev:=⟨3,3,0,2,0,0,false,⟨#[]⟩⟩
theorem uT:Er Qc=true/\Qc.data.size<1099511627776:=by refine⟨?_,(by decide:(0:Nat)<1099511627776)⟩;unfold Er Eu Kr;rfl
structure iS (C:bd) (wid key:A2Y) (c num:Nat) (p:bL):Prop where
 wd:C.wid=wid
 aj:C.aj=c
 mt:C.bW=0/\C.bP=3/\C.kept=false
 st:C.st=dD p 0
 more:C.more= [Qc]
 err:C.err=0
 now:C.now=0
 conds:C.conds= [⟨key,dN wid,false⟩]
 ar:C.ar= [⟨key,⟨#[]⟩,true⟩,⟨UD c 5 num,fV ⟨4,3,0⟩ wid,false⟩]
theorem AL8 {wid key:A2Y}{c num:Nat}{p:bL}(a:Am wid=true):iS (EB (Di (iD (Gy wid c 0 3 false (bZ p 0) 0) key (dN wid)) (Vi 2)) ⟨4,3,0⟩ 5 num) wid key c num p:=by rw[take_add (p:=p) (t:=0) rfl rfl (by decide:(0:Int)<=0/\(0:Int)<=1099511627776)];have b:Hq ⟨4,3,0⟩ wid=true:=QQ (by decide) a (by decide);unfold EB;rw[if_neg (by show ¬((0:Int)≠0);decide),if_neg (by show ¬(Hq ⟨4,3,0⟩ wid=false);rw[b];decide)];exact⟨rfl,rfl,⟨rfl,rfl,rfl⟩,rfl,rfl,rfl,rfl,rfl,rfl⟩
section
variable {C : bd} {wid key : A2Y} {c c' num n0 : Nat} {p : bL} {mp : List Pr} {fl : cn} {an : cL} {ev : List Ev}
theorem iS.beside(d:iS C wid (Ey c' n0) c num p)(e:Am wid=true):C.beside none:=by
 have f:Hq ⟨4,3,0⟩ wid=true:=QQ (by decide) e (by decide);have b:=ZI (sh:=c) (num:=num) (tick:=5) f;have j:ND c 5 num=UD c 5 num:=rfl;rw[j] at b;have n:=UG c' n0;have m:=ur (k:=Ey c' n0) (Qm (by omega)) (by omega);refine⟨λq a=>?_,λq a=>?_,λq a=>?_⟩<;>rw[d.ar] at a<;>simp only[G3,IN,or_false] at a<;>rcases a with rfl|rfl
 ·exact m
 ·exact b.1
 ·refine .inl ?_;show BL (Ey c' n0)≠104/\BL (Ey c' n0)≠119/\BL (Ey c' n0)≠114;rw[SF];decide
 ·exact .inl b.2.1
 ·show BL (Ey c' n0)≠108;rw[SF];decide
 ·exact b.2.2
theorem iS.close(a:iS C wid key c num p)(b d:Nat):BA C b d=C:=by
 have e:EN C=false:=by unfold EN;rw[a.st];simp[dD]
 unfold BA Et;rw[e];simp[a.st,dD]
theorem APq(a:DI (bZ p 0) 3):DI (dD p 0) 3:=⟨A5 _,A5 _,a.steps,a.au,a.aO,(by decide:(0:Int)<=4/\(4:Int)<=501),a.st,a.waits⟩
theorem iS.kQ(a:iS C wid (Ey c' n0) c num p)(u:Jc mp fl an)(b:Am wid=true)(d:fl wid=some ev)(j:BP ev=bZ p 0)(m:C.fits ev)(n:DI (bZ p 0) 3):Zl mp fl C:= {
 wid:=by rw[a.wd];exact b
 fits:=by rw[a.wd,d];exact m
 more:=by rw[a.more];simp
 st:=by rw[a.st];exact(APq n).up (by omega)
 ok:=λv e=>by
  rw[a.more] at e;rw[List.mem_singleton.1 e];exact uT
 len:=by rw[a.more,a.ar,a.conds];exact⟨(by decide:1+2<=50),(by decide:1<=50)⟩
 keys:=λq f=>by
  rw[a.conds] at f;rw[List.mem_singleton.1 f];show(Ey c' n0).size<=_;rw[UG];decide
 base:=by obtain⟨o,r,t⟩:=a.mt;rw[a.wd,d];show C.bW=(BP ev).status/\C.bP=(BP ev).next/\C.kept=false/\0<C.bP;rw[j,o,r];exact⟨rfl,rfl,t,(by decide:(0:Int)<3)⟩
 bW:=by rw[a.mt.1];decide
 bP:=by rw[a.mt.2.1];decide
 now:=by rw[a.now];decide
 next:=by rw[a.st];exact(by decide:(2:Int)<=4/\(4:Int)<=500)
 err:=a.err
 bes:=a.beside b}
theorem eQ.row {T:Nat->List (Nat×A2Y)}{L:List Pr}{r:Pr}(a:eQ mp T L)(s:Sorted mp)(b:r∈L):Ab r.key mp=some r/\Lt (Mo ⟨#[]⟩) r.key=true:=by
 have h:r∈GQ (Mo ⟨#[]⟩) mp:=by rw[a.li];exact b
 obtain⟨d,e⟩:=List.mem_filter.1 h;exact⟨s.find d,e⟩
theorem eQ.cS {T:Nat->List (Nat×A2Y)}{L:List Pr}{t:Nat×A2Y}(a:eQ mp T L)(s:Sorted mp)(b:c<2)(d:t∈T c):Ab (DD c t.1) mp=some (cS c t):=by
 have h:Go.Lf.G.cS c t∈GQ (Mw c) mp:=by rw[a.tr c b];exact IS d
 exact s.find (List.mem_filter.1 h).1
theorem uU {r:Pr}(h:Ab r.key mp=some r)(a:r.gone=false):Be mp ⟨r.key,r.val,false⟩=true:=by unfold Be JM;rw[if_neg (by simp),h];simp
theorem Zl.iJ(C:bd): ∀q∈Dh C,BL q.key≠116/\BL q.key≠113:=by
 intro q a;unfold Dh at a;rcases List.mem_append.1 a with h|h
 ·obtain⟨b,_,rfl⟩:=List.mem_map.1 h;rw[show BL (O6 C.wid b).key=104 from XB _ _];decide
 ·split at h
  ·cases h
  ·rw[List.mem_singleton.1 h,show BL (Kg C.wid)=119 from F8 _];decide
end
section
variable {A : ao} {g h : aa} {s k sh i : Nat} {l : List Hs} {mp : List Pr} {O : Nat -> Prop} {y y' : Hs} {fl : cn} {an : cL} {ev : List Ev} {R : A2X} {cb c num n0 : Nat} {z : Nat -> Nat} {x : dR} {C : bd} {wid : A2Y} {p : bL} {T : Nat -> List (Nat × A2Y)} {L : List Pr}
theorem AJj(I:bR g)(u:CW PO g h s k (3*k+1) sh l i y' mp O cb z x C)(v:Jc mp fl an)(J: ∀w∈l,∀a,w.u a<=3*k/\w.f a<=k)(K: ∀a,y.u a<=3*k/\y.f a<=k)(d:y.cY y')(M:k+1<=490)(ow:gC mp y c)(N:c<256)(b:iS C wid (Ey c n0) c num p)(Q:C.fits ev)(S:Am wid=true)(B:fl wid=some ev)(U:BP ev=bZ p 0)(V:DI (bZ p 0) 3)(D:eQ mp T (gD c (n0,wid)::L))
  (W: ∀f e o,EW g f s (k+1) sh (l.set i e) o (cU fl wid (ev++ [Qc])) an O->e.p=y.p/\e.name=y.name/\e.f=y.f->(∀ m,y.u m<=e.u m)->(∀ a r E,Be o (FW a r E)=Be mp (FW a r E))->BP (ev++ [Qc])=dD p 0->eQ o T L->Mod (aR g O) h f->R (J6 J9 0) f):
  AA A P Cn #[Ap cb] h R:=by
 have X:=b.kQ v S B U Q V;have F:=u.w.sorted;have row:=D.row F (r:=gD c (n0,wid)) (by simp);refine EW.gj (k':=k+1) I u v J (λa=>by have:=K a;have:=d.u a;rw[d.f];omega) (by omega) (by omega) M (by rw[b.aj];unfold gC at ow ⊢;rw[d.f,d.name];exact ow) (by rw[b.aj];exact N) X (λ_ f e ac ae Y G H j Z t aa=>?_) λab=>?_
 ·rw[b.close] at G;subst G;rw[b.wd,B,HM,b.more] at H t;rw[b.st] at t;refine W f e _ H ⟨j.p.trans d.p,j.name.trans d.name,j.f.trans d.f⟩ (λm=>by have:=d.u m;have:=j.u m;omega) Z t ?_ aa;rw[b.ar];refine D.take F λq n=>?_
  rcases List.mem_append.1 n with h|h
  ·exact Zl.iJ Y q h
  ·rw[List.mem_singleton.1 h,show BL (UD c 5 num)=109 from zN _ _ _];decide
 ·refine absurd (λq n=>?_) ab;rw[b.conds] at n;rw[List.mem_singleton.1 n];exact uU (r:=gD c (n0,wid)) row.1 rfl
end
abbrev Tq:=Nat×Nat×A2Y
abbrev TT:=Nat->List (Nat×A2Y)
def NK(q:Tq):Pr:=gD q.1 q.2
def gV(a:List Tq)(x:Tq):List Tq:=a.take (aH (NK x).key (a.map NK))++x::a.drop (aH (NK x).key (a.map NK))
theorem AQE(b:List Tq)(x:Tq):(gV b x).Perm (x::b):=by have:=IT (a:=x) (l₁:=b.take (aH (NK x).key (b.map NK))) (l₂:=b.drop (aH (NK x).key (b.map NK)));rw[F0] at this;exact this
theorem ASv {a:List Tq}{x:Tq}(s:Sorted (a.map NK))(b: ∀q∈a,(NK q).key≠(NK x).key):eN (a.map NK) (NK x)=(gV a x).map NK:=by
 have c:Az (NK x).key (a.map NK)=false:=by
  cases d:Az (NK x).key (a.map NK) with
  |false=>rfl
  |true=>
   obtain⟨q,j,e⟩:=(AOX (NK x).key s).1 d;obtain⟨f,g⟩:=M.NM e;obtain⟨h,i,rfl⟩:=List.mem_map.1 g;exact absurd f (b h i)
 unfold eN gV;rw[c];simp only[BW,if_false,Cl,PA,C5,List.map_drop,A4];rfl
def VV(T:TT)(a:List Tq):List Tq:=a++((T 0).map (λt=>(0,t))++(T 1).map λt=>(1,t))
theorem qo {T:TT}{c:Nat}{l:List (Nat×A2Y)}:cI T c l c=l:=if_pos rfl
theorem uV {c:Nat}{t:Nat×A2Y}{T:TT}{l:List (Nat×A2Y)}{L:List Tq}(g:c<2)(b:T c=t::l):(VV T L).Perm ((c,t)::VV (cI T c l) L):=by
 have d: ∀a,a≠c->cI T c l a=T a:=λa f=>if_neg f
 have e:cI T c l c=l:=qo;unfold VV;rcases(by omega:c=0\/c=1) with rfl|rfl
 ·rw[d 1 (by decide),e,b,C5,Dd];exact IT
 ·rw[d 0 (by decide),e,b,C5];rw[<- A4,<-A4];exact IT
theorem ASH {c:Nat}{t:Nat×A2Y}{T:TT}{l:List (Nat×A2Y)}{L:List Tq}(a:c<2)(b:T c=t::l):(VV (cI T c l) (gV L (c,t))).Perm (VV T L):=by refine List.Perm.trans ?_ (uV (L:=L) a b).symm;unfold VV;exact(AQE L (c,t)).append_right _
theorem ATG {c:Nat}{t:Nat×A2Y}{T:TT}{L:List Tq}(f:c<2):(VV (cI T c (T c++ [t])) L).Perm ((c,t)::VV T L):=by
 have b: ∀a,a≠c->cI T c (T c++ [t]) a=T a:=λa e=>if_neg e
 have d:cI T c (T c++ [t]) c=T c++ [t]:=qo;unfold VV;rcases(by omega:c=0\/c=1) with rfl|rfl
 ·rw[b 1 (by decide),d,Cl,A4,<-A4 L];refine List.Perm.trans IT ?_;rw[A4];exact HJ _
 ·rw[b 0 (by decide),d,Cl,<-A4,<-A4];refine List.Perm.trans IT ?_;rw[show([]:List (Nat×A2Y)).map (λt=>(1,t))= [] from rfl,AI,A4]
theorem uW {c:Nat}{t:Nat×A2Y}{T:TT}{a:List Tq}(d:c<2)(b:t∈T c):(c,t)∈VV T a:=by unfold VV;rcases(by omega:c=0\/c=1) with rfl|rfl<;>simp[b]
theorem ZN {q:Tq}{T:TT}{a:List Tq}(b:q∈a):q∈VV T a:=Hb _ b
def Started(b:cn)(wid:A2Y):Prop:=Am wid=true/\ ∃p a,b wid=some a/\BP a=bZ p 0
structure WL (fl:cn) (y:Hs) (l:List Tq):Prop where
 one: ∀q∈l,q.1<2/\Ao q.2.2 2=q.1/\q.2.1<=16777216+y.u q.1/\Started fl q.2.2
 keys:(l.map λq=>(q.1,q.2.1)).Nodup
 ia:(l.map λq=>q.2.2).Nodup
theorem WL.perm {c:cn}{d:Hs}{l e:List Tq}(a:WL c d l)(b:e.Perm l):WL c d e:=
 ⟨λq f=>a.one q (b.mem_iff.1 f),(b.map _).nodup_iff.2 a.keys,(b.map _).nodup_iff.2 a.ia⟩
theorem WL.ak {b:cn}{c d:Hs}{l:List Tq}(a:WL b c l)(e: ∀m,c.u m<=d.u m):WL b d l:=
 ⟨λq f=>by obtain⟨g,h,i,j⟩:=a.one q f;exact⟨g,h,AK i (by have:=e q.1;omega),j⟩,a.keys,a.ia⟩
theorem WL.tail {c:cn}{d:Hs}{q:Tq}{l:List Tq}{x:List Ev}(a:WL c d (q::l)):WL (cU c q.2.2 x) d l:=by
 have e:=List.nodup_cons.1 a.ia;refine⟨λb f=>?_,(List.nodup_cons.1 a.keys).2,e.2⟩;obtain⟨g,h,i,j,p,k,m,n⟩:=a.one b (AH _ f);have ne:b.2.2≠q.2.2:=λo=>e.1 (List.mem_map.2 ⟨b,f,o⟩)
 exact⟨g,h,i,j,p,k,by rw[Sy ne];exact m,n⟩
theorem WL.more {f:cn}{g h:Hs}{q:Tq}{l:List Tq}{x:List Ev}{p:bL}(d:WL f g l)(o: ∀m,g.u m<=h.u m)(k:q.1<2/\Ao q.2.2 2=q.1)(r:16777216+g.u q.1<q.2.1/\q.2.1<=16777216+h.u q.1)(s:Am q.2.2=true)(t:f q.2.2=none)(u:BP x=bZ p 0):WL (cU f q.2.2 x) h (q::l):=by
 have ne: ∀a∈l,a.2.2≠q.2.2:=λa b c=>by
  obtain⟨_,_,_,_,p,n,e,_⟩:=d.one a b;rw[c,t] at e;cases e
 refine⟨λa b=>?_,List.nodup_cons.2 ⟨λi=>?_,d.keys⟩,List.nodup_cons.2 ⟨λi=>?_,d.ia⟩⟩
 ·rcases List.mem_cons.1 b with rfl|b
  ·exact⟨k.1,k.2,r.2,s,p,x,IB,u⟩
  ·obtain⟨v,w,j,y,p,n,e,z⟩:=d.one a b;exact⟨v,w,AK j (by have:=o a.1;omega),y,p,n,by rw[Sy (ne a b)];exact e,z⟩
 ·obtain⟨a,b,c⟩:=List.mem_map.1 i;have j:=(d.one a b).2.2.1;simp only[Mb] at c;rw[c.1,c.2] at j;omega
 ·obtain⟨a,b,c⟩:=List.mem_map.1 i;exact ne a b c
theorem WL.fresh {d:cn}{a:Hs}{x:Tq}{l:List Tq}(b:WL d a (x::l))(h:a.u x.1<1000000){q:Tq}(c:q∈l)(i:a.u q.1<1000000):(NK q).key≠(NK x).key:=λe=>by
 obtain⟨j,k,m,n⟩:=b.one x (B8);obtain⟨o,p,r,s⟩:=b.one q (AH _ c);obtain⟨f,g⟩:=AQI (by omega) (by omega) (by show q.2.1<18446744073709551616;omega) (by show x.2.1<18446744073709551616;omega) e;refine(List.nodup_cons.1 b.keys).1 (List.mem_map.2 ⟨q,c,?_⟩);show(q.1,q.2.1)=(x.1,x.2.1);rw[f,g]
section
variable {A : ao} {g h : aa} {s k : Nat} {y y0 : Hs} {mp : List Pr} {fl : cn} {an : cL} {O : Nat -> Prop} {R : A2X} {T : TT} {L : List Tq}
structure QW (g h:aa) (s k:Nat) (y0:Hs) (mp:List Pr) (fl:cn) (an:cL) (O:Nat->Prop) (T:TT) (L:List Tq):Prop where
 w:EW g h s k 2 [y0] mp fl an O
 q:eQ mp T (L.map NK)
 own: ∀n,n<2->gC mp y0 n/\y0.f n=1
 ok:WL fl y0 (VV T L)
theorem QW.dV {b:aa}{O':Nat->Prop}(a:QW g h s k y0 mp fl an O T L)(d:Mod O h b)(e: ∀c,O' c->O c\/(h.size<=c/\c<b.size)):QW g b s k y0 mp fl an O' T L:=⟨a.w.own d e,a.q,a.own,a.ok⟩
theorem QW.on {b:aa}(a:QW g h s k y0 mp fl an O T L)(x:Ext h b):QW g b s k y0 mp fl an O T L:=⟨a.w.on x,a.q,a.own,a.ok⟩
theorem QW.less {O':Nat->Prop}(a:QW g h s k y0 mp fl an O T L)(b: ∀c,O' c->O c):QW g h s k y0 mp fl an O' T L:=⟨a.w.less b,a.q,a.own,a.ok⟩
theorem QW.up {b:Nat}(a:QW g h s k y0 mp fl an O T L)(c:k<=b)(d:b<=500):QW g h s b y0 mp fl an O T L:=⟨a.w.up c d,a.q,a.own,a.ok⟩
theorem QW.ub(b:QW g h s k y0 mp fl an O T L)(a:Nat):y0.u a<=3*k/\y0.f a<=k:=b.w.all y0 (by simp) a
theorem Zl.jl(a:bd): ∀q∈Dh a,BL q.key≠109:=by
 intro q b;unfold Dh at b;rcases List.mem_append.1 b with h|h
 ·obtain⟨c,_,rfl⟩:=List.mem_map.1 h;rw[show BL (O6 a.wid c).key=104 from XB _ _];decide
 ·split at h
  ·cases h
  ·rw[List.mem_singleton.1 h,show BL (Kg a.wid)=119 from F8 _];decide
theorem QW.start {x:bN}{p:bL}{Q:J0}(S:bR g)(b:QW g h s k y0 mp fl an O T L)(U:k+1<=490)(r:x.kind=1)(V:View TF h x.steps p.steps)(W:x.au=p.au)(X:p.au=0)(len:p.steps.length<=1099511627776)(D:RZ x p=0)(Y:an x.bj=none)(l:fl x.wid=none)(o:Am x.wid=true)
  (Z: ∀f d w E,QW g f s (k+1) d w (cU fl x.wid [⟨1,1,0,0,0,0,false,Ae (Ce p)⟩,⟨2,2,0,0,0,0,false,⟨#[]⟩⟩]) (cU an x.bj (Mf x p,0,3)) O (cI T (Ao x.wid 2) (T (Ao x.wid 2)++ [(E,x.wid)])) L->d.p=y0.p->Mod (aR g O) h f->(∀ q∈VV T L,q.1=Ao x.wid 2->q.2.1<E)->(∀ n,GQ (Hm n) mp= []->GQ (Hm n) w= [])->R (dy 0 0 3).v f):
  AA A P Gc #[Ap y0.p,Q,J6 J9 0,x.v] h R:=by
 have e:=Tc x.wid (n:=2) (by decide);have F:=b.w.w.sorted;have ub:=b.ub (Ao x.wid 2);refine b.w.hU (i:=0) S rfl U (b.own _ e).1 V W len (by decide) λf d w al am G st nx z j aa ab ac ae=>?_
 obtain⟨rfl,rfl,rfl,rfl,rfl,af⟩:=ac.start r D Y l (by decide);obtain⟨g1,ao,ap,aq⟩:=kq D;rcases ae with rfl|⟨n0,n1,n2,c,H,ar,rfl,-,I⟩
 ·exfalso;have J:=z.m.fH x.wid o;rw[b.w.m.fH x.wid o,l,IB] at J;cases J
 rw[l] at H I;obtain⟨ag,v,B⟩:=ALM (n:=Ao x.wid 2) (n0:=n0) (n1:=n1) (n2:=n2) (now:=0) r (g1 r) o (by decide) X;rw[<- H] at B;obtain⟨u,au,av,ah⟩:=I ag;rw[(b.own _ e).2,Jx] at ah;have K: ∀q∈VV T L,q.1=Ao x.wid 2->q.2.1<n1:=λq a G=>by
  have:=(b.ok.one q a).2.2.1;rw[G] at this;omega
 have aw:=(z.all d (B8) (Ao x.wid 2)).1;refine Z f d _ n1 ⟨z,?_,λn C=>?_,?_⟩ j.p ab K λn C=>?_
 ·have ai:Dh c++c.ar=(Dh c++ [⟨LA x.bj,v,false⟩])++cS (Ao x.wid 2) (n1,x.wid):: []:=by rw[B,A4];rfl
  rw[ai];refine b.q.made F e (λq a=>?_) (by show n1<18446744073709551616;omega) λt aj=>K _ (uW e aj) rfl
  rw[AI] at a;rcases List.mem_append.1 a with h|h
  ·exact Zl.iJ c q h
  ·rw[List.mem_singleton.1 h];show BL (LA x.bj)≠116/\BL (LA x.bj)≠113;rw[KY];decide
 ·obtain⟨M,ak⟩:=b.own n C;refine⟨?_,by rw[j.f];exact ak⟩;unfold gC at M ⊢;rw[j.f,j.name,aa];exact M
 ·refine WL.perm ?_ (ATG (t:=(n1,x.wid)) (L:=L) e);exact b.ok.more (q:=(Ao x.wid 2,n1,x.wid)) (λm=>(j.u m).1) ⟨e,rfl⟩ ⟨by show 16777216+y0.u (Ao x.wid 2)<n1;omega,by show n1<=16777216+d.u (Ao x.wid 2);omega⟩ o l af
 ·rw[PP F,C];have:GQ (Hm n) (Dh c++c.ar)= []:=List.filter_eq_nil_iff.2 λp N a=>by
   have a:BL p.key=109:=nv a;rw[B] at N;rcases List.mem_append.1 N with h|h
   ·exact Zl.jl c p h a
   ·rcases List.mem_cons.1 h with rfl|h
    ·have:BL (LA x.bj)=109:=a;rw[KY] at this;cases this
    ·rw[List.mem_singleton.1 h] at a;have:BL (DD _ _)=109:=a;rw[QT] at this;cases this
  rw[this];rfl
end
def VZ(c:Nat)(l:List (Nat×A2Y))(a:List Tq):List Tq:=l.foldl (λa t=>gV a (c,t)) a
theorem APZ {c:Nat}{l:List (Nat×A2Y)}{a:List Tq}{t:Nat×A2Y}:VZ c (l++ [t]) a=gV (VZ c l a) (c,t):=by unfold VZ;rw[GP];rfl
theorem AUk {T:TT}{c:Nat}{l a:List (Nat×A2Y)}:cI (cI T c l) c a=cI T c a:=by funext b;unfold cI;split<;>rfl
theorem ARl {T:TT}{c:Nat}:cI T c (T c)=T:=by
 funext b;unfold cI;split
 ·rename_i a;rw[a]
 ·rfl
theorem AJp {a:List Ev}{p:bL}(c:OW a)(d:BP a=bZ p 0):a.length=2/\DI (bZ p 0) 3:=by
 have b:=c.next.1;rw[d] at b;have b:(3:Int)=a.length+1:=b;have e:a.length=2:=by omega
 have f:=Qz DI.zero c.ok;rw[d,e] at f;exact⟨e,f.up (by omega)⟩
section
variable {A : ao} {g h : aa} {s k : Nat} {y0 : Hs} {mp : List Pr} {fl : cn} {an : cL} {O : Nat -> Prop} {R : A2X} {T : TT} {L : List Tq}
theorem AUh {wid:A2Y}{c v:Nat}{F:List Ev}{p:bL}{I a b J:Sl}(E:bR g)(w:QW g h s k y0 mp fl an (λc=>O c\/TV (bZ p 0) a b J c) T ((c,v,wid)::L))(cq:k+1<=490)(V:View dd h I F)(ba: ∀c,I.ag=some c->O c)(bb:JQ h (bZ p 0) a b J)(no: ∀c,TV (bZ p 0) a b J c-> ¬O c)(aK:fl wid=some F)(aL:BP F=bZ p 0)
  (bw: ∀r bc av aw,QW g r s (k+1) bc av (cU fl wid (F++ [Qc])) an (λq=>O q\/aw.ag=some q) T L->bc.p=y0.p->Mod (aR g O) h r->View dd r aw (F++ [Qc])->(∀ q,aw.ag=some q->h.size<=q)->R (J1 #[(⟨0,0,0,⟨1,wid,3,0⟩,⟨#[]⟩,aw⟩:aS).v,J3 true]) r):
  AA A P TR #[Ap y0.p,(⟨wid,(c:Int),⟨0,3,false⟩,I,(bZ p 0).V a b J⟩:bH).v,(⟨1,wid,2,0⟩:bS).v,.agg #[J7 (Ey c v),J7 (dN wid),J3 false],J6 J9 0] h R:=by
 obtain⟨bx,cr,-,aM,-⟩:=w.ok.one (c,v,wid) (ZN (by simp));obtain⟨cs,bd⟩:=AJp (w.w.m.cR _ _ aK) aL;have ct:PO.C=32000:=rfl;have ub:=w.ub c;have cu:=Fs aM;refine AGJ ?_;unfold xf;refine ai.mk λaN _ ax bz M=>ai.mk λbA _ aO be cv=>ai.mk λbB _ aP aQ cw=>ai.mk λak _ bf ay cx=>?_
 have al:Ext h ak:=((bz.trans be).trans aQ).trans ay;have ax:=(be.trans (aQ.trans ay)).ag ax λh=>h
 have aO:=(aQ.trans ay).ag aO λh=>h
 have aP:=ay.ag aP λh=>h
 generalize cy:h.size=az at*
 generalize cz:aN.size=bC at*
 generalize cB:bA.size=cC at*
 generalize cD:bB.size=bD at*
 have cE:=Ai bf;refine EL.mk (⟨wid,(c:Int),⟨0,3,false⟩,I,(bZ p 0).V a b J⟩:bH) (Nf ax) ?_
 let G:Nat->Prop:=λq=>O q\/(h.size<=q/\q<ak.size)
 have aT: ∀q,az<=q->q<ak.size->G q:=λq cF aN=> .inr ⟨by omega,aN⟩
 have bE: ∀q,TV (bZ p 0) a b J q->q<h.size:=λq d=>bb.lt d
 have cG:=al.size;refine qB (l:= [y0]) (i:=0) (y:=y0) (O:=G) (aj:=c) (now:=0) (w.w.w.own al.mod λq d=>?_) (by simp) (bb.ext al) (λq d aU=>?_) λcH bF z cI bG Q=>⟨_,rfl,?_⟩
 ·rcases d with(h|h)|h
  ·exact .inl (.inl h)
  ·exact .inr h
  ·exact .inl (.inr h)
 ·have:=bE q d;rcases aU with h|h
  ·exact no q d h
  ·omega
 have k0:=Q.ag ax λh=>h
 have o:=Q.ag aO λh=>h
 have aV:=Q.ag aP λh=>h
 have u:=Q.ag bf λh=>h
 refine AL.mk (n:=Ey c v) (AO aV rfl) (AL.mk (n:=dN wid) (AB aV rfl) (Aa.mk (n:=false) (AB aV rfl) ?_));refine ASN bG (by show 0<1000;decide) (by show 0<1000;decide) λcJ cK cL bI X=>⟨rfl,?_⟩
 have aF: ∀ {q:Nat} {bg:Obj} {r N:aa},r[q]? =some bg->az<=q->q<ak.size->Mod (aR g G) r N->N[q]? =some bg:=λbJ g1 bK m=>aR.aF m bJ (aT _ g1 bK)
 have k0:=aF k0 (by omega) (by omega) X;have o:=aF o (by omega) (by omega) X;have u:=aF u (by omega) (by omega) X;refine EL.mk (⟨wid,(c:Int),⟨0,3,false⟩,I,(bZ p 0).V a b J⟩:bH) (Nf k0) (JH.mk (⟨1,wid,2,0⟩:bS) (Bz o rfl) ?_);refine uN (f:=(⟨wid,(c:Int),⟨0,3,false⟩,I,(bZ p 0).V a b J⟩:bH)) (t:=⟨1,wid,2,0⟩) rfl λcM S=>⟨_,_,rfl,?_⟩
 have k0:=S.ag k0 λh=>h
 have o:=S.ag o λh=>h
 have u:=S.ag u λh=>h
 have bM:=bI.on S;refine ah.mk λK bN=>ab.no rfl (AC.mk (n:=1) (AO o rfl) (ab.yes rfl (AC.mk (n:=2) (AB o rfl) ?_)))
 refine Uw (n:=3) (e:=Vi 2) bM bd (by decide) (by show 0<1099511627776;decide) (by show 0<1000;decide) λcN cO cP bh Y=>⟨rfl,?_⟩
 have k0:=aF k0 (by omega) (by omega) Y;have o:=aF o (by omega) (by omega) Y;have u:=aF u (by omega) (by omega) Y;have bi:=take_add (C:=iD (Gy wid c 0 3 false (bZ p 0) 0) (Ey c v) (dN wid)) (p:=p) (t:=0) rfl rfl (by decide:(0:Int)<=0/\(0:Int)<=1099511627776);have bj:(Di (iD (Gy wid c 0 3 false (bZ p 0) 0) (Ey c v) (dN wid)) (Vi 2)).st=dD p 0:=by rw[bi]
 have bO:UW (Di (iD (Gy wid c 0 3 false (bZ p 0) 0) (Ey c v) (dN wid)) (Vi 2))=3:=by unfold UW;rw[bj];rfl
 refine vB bh (by rw[bj];exact(by decide:(0:Int)<=4/\(4:Int)<=501)) ⟨_,rfl,?_⟩;rw[bO];refine ae.bE (j:=2) (dm:=(⟨1,wid,3,0⟩:bS).c) o (of_decide_eq_true rfl) rfl λcQ bk am cR=>AC.mk (n:=3) (AB bk rfl) ?_
 have k0:=am.ag k0 (by omega);have u:=am.ag u (by omega);have bP:=bh.wider (O':=G) (am.ak λq _ d=>by subst d;exact aT _ (by omega) (by omega)) λq d=> .inl d
 rw[show J8 J9 ((0:Int)+5)=5 from by decide];have aA:(Di (iD (Gy wid c 0 3 false (bZ p 0) 0) (Ey c v) (dN wid)) (Vi 2)).aj=c/\(Di (iD (Gy wid c 0 3 false (bZ p 0) 0) (Ey c v) (dN wid)) (Vi 2)).ar.length=1:=by rw[bi];exact⟨rfl,rfl⟩
 refine qC (t:=⟨4,⟨#[]⟩,3,0⟩) (tick:=5) bP (by rw[aA.1];omega) (by rw[aA.1];omega) (by rw[aA.1];omega) (by omega) (by omega) (by rw[aA.2];decide) (by decide) λbQ bT bU bV num aW bW cS Z=>⟨rfl,bN _ _ ?_⟩
 have k0:=aF k0 (by omega) (by omega) Z;have o:=aF bk (by omega) (by omega) Z;have u:=aF u (by omega) (by omega) Z;have bX:=AL8 (key:=Ey c v) (c:=c) (num:=num) (p:=p) aM;have bY:(EB (Di (iD (Gy wid c 0 3 false (bZ p 0) 0) (Ey c v) (dN wid)) (Vi 2)) ⟨4,3,0⟩ 5 num).fits F:=WX (Ma (by
  show Ew TM (F++ [])=some (bZ p 0);rw[AI];exact(w.w.m.cR _ _ aK).ok.trans (congrArg some aL)))
 have aW:CW PO g bQ s k (3*k+1) 2 [y0] 0 bV mp G bF bT bU (EB (Di (iD (Gy wid c 0 3 false (bZ p 0) 0) (Ey c v) (dN wid)) (Vi 2)) ⟨4,3,0⟩ 5 num):=aW;refine AJj E aW w.w.m w.w.all w.ub bW (by omega) (w.own c bx).1 (by omega) bX bY aM aK aL bd w.q λB bm av bn aC b0 b1 jm b2 ac=>⟨_,rfl,ab.no rfl (ab.no rfl ?_)⟩
 have k0:=aF k0 (by omega) (by omega) ac;have o:=aF o (by omega) (by omega) ac;have u:=aF u (by omega) (by omega) ac;have cT:ak.size<=B.size:=by have:=Q.size;have:=X.size;have:=S.size;have:=Y.size;have:=Z.size;have:=ac.size;omega
 have b3:QW g B s (k+1) bm av (cU fl wid (F++ [Qc])) an G T L:=⟨bn,b2,λn b4=>by
  obtain⟨bo,b5⟩:=w.own n b4;refine⟨?_,by rw[aC.2.2];exact b5⟩;unfold gC at bo ⊢;rw[aC.2.2,aC.2.1,b1];exact bo,(WL.tail (q:=(c,v,wid)) (l:=VV T L) w.ok).ak b0⟩
 have aX:=bn.m.cR wid _ IB;have bp:View dd B I F:=by
  have H: ∀ {r N:aa},Mod (aR g G) r N->Mod (λq=>aR g G q\/q=bC) r N:=λm=>m.ak λq _ d=> .inl d
  refine((V.ext al).ext Q).dh ((H X).trans (S.mod.trans ((H Y).trans ((am.ak λq _ d=> .inr d).trans ((H Z).trans (H ac)))))) λ_ q d aE=>?_
  have:=(w.w.w.out (.inl (ba q d))).1;rcases aE with aE|aE
  ·exact aE.2 (.inl (ba q d))
  ·omega
 refine JH.mk (⟨1,wid,3,0⟩:bS) (Bz o rfl) (uJ (x:=⟨0,0,0,⟨1,wid,3,0⟩,⟨#[]⟩,⟨none,0,0⟩⟩) λao aY U=>?_);have af:=U.ag k0 λh=>h
 have aG:=U.ag o λh=>h
 have cV:=U.ag u λh=>h
 refine ah.mk λcW b6=>AC.mk (n:=1) (AO aG rfl) (ab.yes rfl (ah.mk λb7 b8=>?_))
 have fin: ∀(ag:aa) (sl:Sl),Ext B ag->ag[B.size]? =some (J2 (⟨0,0,0,⟨1,wid,3,0⟩,⟨#[]⟩,sl⟩:aS).c Aw (0,0))->View dd ag sl (F++ [Qc])->(∀ q,sl.ag=some q->B.size<=q/\q≠B.size)->b7 () ag:=λag sl bq aZ a0 a1=>by
  refine b8 _ _ (AV.mk (s:=sl) (AB aZ rfl) (Yk a0 aX.len (λe b9=>?_) aX.ok λca cX cY cZ W c0 c1=>GV.mk _ ⟨_,_,rfl,ai.mk λc2 _ cb aH c3=>aD.mk cb (A0 12) λcc c4 aI c5=>ab.no rfl (b6 _ _ ?_)⟩))
  ·obtain⟨i,hi⟩:=DG b9;have:=R6 (aX.next.2 i e hi).2;omega
  have a2:Ext B cc:=(bq.trans (W.trans aH)).more aI λq d=>by subst d;exact(bq.trans W).size
  have c6:=Ai aZ;have cd:=aI.ag ((W.trans aH).ag aZ λh=>h) (by have:=W.size;omega);have ce:=a2.ag u λh=>h
  refine Bb.mk (⟨0,0,0,⟨1,wid,3,0⟩,⟨#[]⟩,sl⟩:aS) (Hr cd) (aD.mk ce (A0 9) λbr bs aJ c7=>?_);rw[KI] at bs;refine Bb.mk (⟨0,0,0,⟨1,wid,3,0⟩,⟨#[]⟩,sl⟩:aS) (Hr bs) ?_;have c8:=(W.trans aH).size;have bt: ∀q,sl.ag=some q->q<ag.size:=λq d=>a0.kR (by simp) d
  have cf:=b3.dV (O':=λq=>G q\/sl.ag=some q) (a2.mod.trans (aJ.ak λq _ d=>by subst d;exact aT _ (by omega) (by omega))) λq d=>d.imp id λh=>⟨(a1 q h).1,by have:=bt q h;have:=aI.size;have:=aJ.size;omega⟩
  refine bw br bm av sl (cf.less λq d=>d.imp .inl id) aC.1 ?_ (((a0.ext (W.trans aH)).mod aI λq d e=>?_).mod aJ λq d e=>?_) λq d=>by have:=(a1 q d).1;omega
  rotate_left
  ·have:=bt q d;have:q=ca.size:=e;have:=W.size;omega
  ·have:=(a1 q d).1;have:q=bD:=e;omega
  have H: ∀ {r N:aa},Mod (aR g G) r N->Mod (λq=>aR g O q\/az<=q) r N:=λm=>m.ak λq _ d=> .inl (aR.less d λq aU=> .inl aU)
  have cg:Mod (λq=>aR g O q\/az<=q) h br:=al.mod.trans (Q.mod.trans ((H X).trans (S.mod.trans ((H Y).trans ((am.ak λq _ d=> .inr (by omega)).trans ((H Z).trans ((H ac).trans (a2.mod.trans (aJ.ak λq _ d=> .inr (by omega))))))))));exact cg.ak λq ch d=>d.elim id λh=>absurd ch (by omega)
 have c9:B.size<ao.size:=Ai aY;refine AV.mk (s:=I) (AB af rfl) (AC.mk (n:=3) (AB aG rfl) (AC.mk (n:=2) (by rw[add_add];exact AB af rfl) ⟨?_,?_⟩))
 ·refine uO (bp.ext U) (by omega) λa3 ci cj bu D=>⟨_,rfl,by rw[add_add];exact AB (D.ag af λh=>h) rfl,AB (D.ag aG λh=>h) rfl,?_⟩
  refine ai.jj (λr ck=>AB (ck.ag (D.ag af λh=>h) λh=>h) rfl) ?_;refine ai.aV (E:=dd) (x:=Qc) (s:=a3) rfl my cj (by omega) (by simp only[maxLen];omega) λM a4 a5 a6 a7 _=>?_
  have ap:Ext ao a4:=D.more a6 bu;refine ae.bE (j:=8) (dm:=(⟨0,0,0,⟨1,wid,3,0⟩,⟨#[]⟩,M⟩:aS).c) (ap.ag aY λh=>h) (of_decide_eq_true rfl) rfl λa8 a9 aq cl=>?_
  have ar: ∀q,M.ag=some q->B.size<=q/\q≠B.size:=λq d=>by
   rcases a7 q d with h|h
   ·have:=bu q h;omega
   ·have:=D.size;omega
  exact fin a8 M ((U.trans ap).more aq λq d=>by subst d;exact A0 _) a9 (a5.view.mod aq λq d e=>(ar q d).2 e) ar
 ·refine ai.mk λci _ cm D da=>⟨AB (D.ag af λh=>h) rfl,?_⟩
  have cn:=(bp.ext U).ext D;refine uO cn (by omega) λa3 co cp bv au=>⟨_,rfl,by rw[add_add];exact AB (au.ag (D.ag af λh=>h) λh=>h) rfl,AB (au.ag (D.ag aG λh=>h) λh=>h) rfl,?_⟩
  have src:View dd co ⟨some ⟨ao.size,0,none⟩,1,1⟩ [Qc]:=(Own.lit (E:=dd) (l:= [Qc]) (au.ag cm λh=>h) rfl (by simp[maxLen])).view;refine IZ (E:=dd) (s:=a3) (src:=⟨some ⟨ao.size,0,none⟩,1,1⟩) my cp src (by simp only[BE];omega) (by simp only[BE,maxLen];omega) λM a4 a5 a6 a7 _=>?_
  have ap:Ext ao a4:=(D.trans au).more a6 λq d=>by have:=bv q d;have:=D.size;omega
  refine ae.bE (j:=8) (dm:=(⟨0,0,0,⟨1,wid,3,0⟩,⟨#[]⟩,M⟩:aS).c) (ap.ag aY λh=>h) (of_decide_eq_true rfl) rfl λa8 a9 aq cl=>?_
  have db:=D.size;have dc:=au.size;have ar: ∀q,M.ag=some q->B.size<=q/\q≠B.size:=λq d=>by
   rcases a7 q d with h|h
   ·have:=bv q h;omega
   ·omega
  exact fin a8 M ((U.trans ap).more aq λq d=>by subst d;exact A0 _) a9 (a5.view.mod aq λq d e=>(ar q d).2 e) ar
end
abbrev RJ(b:Int):aS:=⟨b,0,0,⟨0,⟨#[]⟩,0,0⟩,⟨#[]⟩,⟨none,0,0⟩⟩
theorem qw {h:aa}{b:Nat}{d:Int}{K:aS->aa->Prop}(i:h[b]? =some (J2 aS.z.c Aw (0,0)))(j: ∀e,Mod (· =b) h e->K (RJ d) e):aD h ⟨b,0,none⟩ (RJ d).l λc=>Bb c ⟨b,0,none⟩ λl=>K l c:=
 aD.mk i (A0 9) λc f m n=>Bb.mk (RJ d) (Hr (by rw[KI] at f;exact f)) (j c m)
section
variable {A : ao} {g h : aa} {s k : Nat} {y0 : Hs} {mp : List Pr} {fl : cn} {an : cL} {O : Nat -> Prop} {R : A2X} {T : TT} {L : List Tq} {a : Q2}
theorem AQA {p:Q6}{name:A2Y}(b:name=⟨#[]⟩\/Am name=true){K:Bool×Unit->aa->Prop}(d:K (false,()) h):
  ab ((some p).isNone) (K (true,()) h) (ab (!bB name (⟨#[]⟩:A2Y)) (AA A P Bn #[J7 name] h λi j=> ∃e:Bool,i=J3 e/\(K ((!e),()) j)) (K (false,()) h)):=by
 refine ab.no rfl ?_;by_cases c:name=⟨#[]⟩
 ·refine ab.no ?_ d;rw[Bl,c];rfl
 ·have b:=b.resolve_left c;refine ab.yes ?_ (Fa ⟨_,rfl,by rw[b];exact d⟩);cases f:bB name ⟨#[]⟩ with
  |false=>rfl
  |true=>rw[Bl] at f;exact absurd (of_decide_eq_true f) c
theorem AO1 {c f:Nat}{wid:A2Y}(az:bR g)(e:QW g h s k y0 mp fl an O T ((c,f,wid)::L))(aA:k+1<=490)
  (aC: ∀D E M j p d,fl wid=some j->BP j=bZ p 0->QW g D s (k+1) E M (cU fl wid (j++ [Qc])) an (λq=>O q\/d.ag=some q) T L->E.p=y0.p->Mod (aR g O) h D->View dd D d (j++ [Qc])->(∀ q,d.ag=some q->h.size<=q)->R (⟨0,0,0,⟨1,wid,3,0⟩,⟨#[]⟩,d⟩:aS).v D):
  AA A P O0 #[Ap y0.p,J5 a,J6 J9 0,J7 ⟨#[]⟩] h R:=by
 obtain⟨aE,N,-,F,p,j,l,Q⟩:=e.ok.one (c,f,wid) (ZN (by simp));have F:Am wid=true:=F;have l:fl wid=some j:=l;have N:Ao wid 2=c:=N;refine AGn ?_;unfold wN;refine ai.mk λS _ G o bb=>ah.mk λK aF=>AQA (.inl rfl) (aF _ _ (ab.no rfl ?_))
 refine Loop.rule (λm x aG=>m=0/\x=((⟨#[]⟩:A2Y),())/\S=aG) ?_ ⟨rfl,rfl,rfl⟩;rintro bc m _ _ ⟨rfl,rfl,rfl⟩ bd;refine ah.mk λbe bf=>?_
 have U:=e.on o;refine U.w.w.store (i:=0) rfl ⟨_,rfl,uL (by decide) λbg W=>⟨_,rfl,?_⟩⟩;have aH:=U.on W;refine aH.w.w.scan (by have:=YV (name:=⟨#[]⟩) (by decide);omega) λps aI w bh aj=>⟨_,_,rfl,ab.no rfl ?_⟩
 rw[ql,e.q.li] at w;have w:Own Bg AU aI ps [NK (c,f,wid)]:=w;have aJ:ps.len=1:=w.len;refine ab.no (by rw[aJ];rfl) (w.view.idx (i:=0) rfl λbi _ aK=>?_);obtain⟨aL,aM,aN⟩:=aK.pair;refine AL.mk aL (AL.mk aM (Aa.mk aN (ai.pair λbj aO bk X ak bm=>AL.mk (n:=Ey c f) (AO X rfl) ⟨?_,AL.mk (n:=dN wid) (AB X rfl) ?_⟩)))
 ·rw[UG,max_i64];decide
 have aP:Hq ⟨1,2,0⟩ wid=true:=QQ (by decide) F (by decide);refine uM aP λbn H=>jR.mk _ ⟨_,rfl,ai.mk λbo _ aQ al bp=>aD.mk aQ (A0 4) λY am ao bq=>ab.no rfl (AL.mk (n:=wid) (AB am rfl) ?_)⟩
 have r:Ext S Y:=((((W.trans aj).trans ak).trans H).trans al).more ao λq b=>by subst b;exact(((W.trans aj).trans ak).trans H).size
 have aT:Ext aO Y:=(H.trans al).more ao λq b=>by subst b;exact H.size
 have ap:=U.on r;refine qd (i:=0) ap.w.w rfl ap.w.m F l λaq aU t u v aV V Z fr aW aX=>MG.mk _ ⟨_,rfl,ai.mk λbr _ aY aZ bs=>aD.mk aY (A0 18) λy z a0 bt=>ab.no rfl ?_⟩
 rw[VP] at z;rw[Q] at z Z;rw[N] at z;have B:Ext aq y:=aZ.more a0 λq b=>by subst b;exact A0 _
 have aa:=aV.trans B;have I:=r.trans aa;have ac:=o.trans I;have a1:=Z.ext B;have lt: ∀q,TV (bZ p 0) t u v q->Y.size<=q/\q<aq.size:=λq b=>⟨fr q (by rcases b with⟨_,h⟩|⟨_,h⟩|⟨_,h⟩<;>simp[h]),Z.lt b⟩
 have ar:QW g y s k y0 mp fl an (λq=>(O q\/(h.size<=q/\q<y.size/\ ¬TV (bZ p 0) t u v q))\/TV (bZ p 0) t u v q) T ((c,f,wid)::L):=e.dV ac.mod λq b=>by
  have bu:=(o.trans r).size;have bv:=B.size;rcases b with(h|h)|h
  ·exact .inl h
  ·exact .inr ⟨h.1,h.2.1⟩
  ·have:=lt q h;exact .inr ⟨by omega,by omega⟩
 have own:=e.own c aE;refine AC.mk (n:=(c:Int)) (AB z rfl) (ar.w.w.holds (i:=0) rfl ⟨_,rfl,ab.no (by rw[own.2];rfl) ?_⟩);have ae:=(aT.trans aa).ag X λh=>h
 have a2:=aa.ag am λh=>h
 refine EL.mk (⟨wid,(c:Int),⟨0,3,false⟩,aU,(bZ p 0).V t u v⟩:bH) (Nf z) (JH.mk (⟨1,wid,2,0⟩:bS) (Bz a2 rfl) (AL.mk (n:=Ey c f) (AO ae rfl) (AL.mk (n:=dN wid) (AB ae rfl) (Aa.mk (n:=false) (AB ae rfl) ?_))));have bw:=e.w.w.on o;refine AUh az ar aA (V.ext B) (λq b=>?_) a1 (λq b af=>?_) l Q λbx E M d a3 a4 au a5 av=>DX.mk _ ⟨_,rfl,uJ (x:=⟨0,0,0,⟨1,wid,3,0⟩,⟨#[]⟩,d⟩) λbz a6 J=>ah.mk λbA a7=>ab.yes rfl (a7 _ _ (ab.yes rfl ?_))⟩
 ·have bB:=aW q b;have S:=(o.trans r).size;refine .inr ⟨by omega,?_,λhi=>?_⟩
  ·have:=V.kR (λC=>by
    have:=(e.w.m.cR _ _ l).ne;exact this C) b
   have:=B.size;omega
  ·have:=aX q q b (by rcases hi with⟨_,h⟩|⟨_,h⟩|⟨_,h⟩<;>simp[h]);omega
 ·have:=lt q b;rcases af with h|h
  ·have:=(e.w.w.out h).1;have:=(o.trans r).size;omega
  ·exact h.2.2 b
 have aw: ∀ {q:Nat},q=h.size->(O q\/(h.size<=q/\q<y.size/\ ¬TV (bZ p 0) t u v q)):=λ{q} C=>by
  subst C;refine .inr ⟨A0 _,?_,λhi=>?_⟩
  ·have:=Ai G;have:=I.size;omega
  ·have:=lt _ hi;have:=Ai G;have:=r.size;omega
 have k0:=J.ag (aR.aF au (I.ag G λh=>h) (aw rfl)) λh=>h
 refine Bb.mk (⟨0,0,0,⟨1,wid,3,0⟩,⟨#[]⟩,d⟩:aS) (Hr a6) (aD.mk k0 (A0 9) λax ay ag bC=>?_);rw[KI] at ay;refine Bb.mk (⟨0,0,0,⟨1,wid,3,0⟩,⟨#[]⟩,d⟩:aS) (Hr ay) ?_;have a8:=a3.dV (O':=λq=>(O q\/(h.size<=q/\q<y.size/\ ¬TV (bZ p 0) t u v q))\/d.ag=some q) (J.mod.trans (ag.ak λq _ b=> .inl (aw b))) λq b=> .inl b
 refine aC ax E M _ _ d l Q (a8.less λq b=>b.imp .inl id) a4 ?_ ((a5.ext J).mod ag λq b C=>by have:=av q b;have:q=h.size:=C;have:=Ai G;have:=I.size;omega) λq b=>by have:=av q b;have:=ac.size;omega
 have a9:Mod (λq=>aR g O q\/h.size<=q) h ax:=ac.mod.trans ((au.ak λq _ b=> .inl (aR.less b λq af=> .inl af)).trans (J.mod.trans (ag.ak λq _ b=> .inr (by omega))));exact a9.ak λq ba b=>b.elim id λh=>absurd ba (by omega)
end
theorem ANO {mp b:List Pr}(s:Sorted mp)(h: ∀p∈b,BL p.key≠108)(c d:Nat)(e:A2Y):Be (cu mp b) (FW c d e)=Be mp (FW c d e):=by
 have f:Ab (CS c) (cu mp b)=Ab (CS c) mp:=Ky s λq i j=>h q i ((congrArg BL j).trans (Tg c))
 rw[PQ,PQ];unfold JM;rw[f]
abbrev jE(c:Nat)(t:Nat×A2Y):List Pr:= [⟨DD c t.1,⟨#[]⟩,true⟩,NK (c,t)]
theorem uY(c:Nat)(t:Nat×A2Y): ∀p∈jE c t,BL p.key=116\/BL p.key=113:=by
 intro p b;simp only[G3,IN,or_false] at b;rcases b with rfl|rfl
 ·exact .inl (QT _ _)
 ·exact .inr (SF _ _)
theorem AXR {mp:List Pr}{c:Nat}{t:Nat×A2Y}{b:Pr}(f:Be mp b=true)(i:Am t.2=true)(j:Ab (DD c t.1) mp=some (cS c t)):de mp (b:: [⟨DD c t.1,dN t.2,false⟩]) (jE c t)=0:=by
 have m:=Nv c t.1;have n:=UG c t.1;have o:=zP (kind:=1) (wid:=t.2) (ref:=2) (turn:=0) (by decide) (Fs i) (by decide) (by decide);have l:GM (jE c t)=0:=qe (by simp) (by simp) λp d=>by
  simp only[G3,IN,or_false] at d;rcases d with rfl|rfl
  ·exact ur (Qm (by omega)) (by omega)
  ·exact PW (k:=Ey c t.1) (v:=lW 1 t.2 2 0) (Qm (by omega)) (by omega) (by omega)
 unfold de;rw[if_neg (by simp),if_neg (by rw[l];decide),if_pos];refine List.all_eq_true.2 λq e=>?_
 simp only[G3,IN,or_false] at e;rcases e with rfl|rfl
 ·exact f
 ·exact uU (r:=cS c t) j rfl
section
variable {A : ao} {g h : aa} {s k : Nat} {y0 : Hs} {mp : List Pr} {fl : cn} {an : cL} {O : Nat -> Prop} {R : A2X} {T : TT} {L : List Tq} {a : Q2}
theorem QW.go {n:aa}{c:Nat}{t:Nat×A2Y}{l:List (Nat×A2Y)}(b:QW g h s k y0 mp fl an O T L)(f:c<2)(i:T c=t::l)(E:k+1<=490)(v:LW PO g n s (k+1) (3*k) 2 [y0] (cu mp (jE c t)) O):QW g n s (k+1) y0 (cu mp (jE c t)) fl an O (cI T c l) (gV L (c,t)):=by
 have F:PO.C=32000:=rfl;have e:=b.w.w.sorted;have o:=uY c t;refine⟨⟨v.put (A0 _) (by omega) (by omega) (by omega),b.w.m.aF e λp j=>?_,λw y m=>by have:=b.w.all w y m;omega⟩,?_,λm z=>?_,b.ok.perm (ASH f i)⟩
 ·rcases o p j with d|d<;>rw[d]<;>decide
 ·have q:=b.q.jk e f i;have r:=Ic (P:=Mo ⟨#[]⟩) e;rw[b.q.li] at r;have B:=b.ok.perm (uV (L:=L) f i).symm;rw[show eN (L.map NK) (gD c t)=(gV L (c,t)).map NK from ASv (x:=(c,t)) r λq C=>B.fresh (by have:=b.ub c;show y0.u c<1000000;omega) (ZN C) (by have:=b.ub q.1;omega)] at q;exact q
 ·obtain⟨u,D⟩:=b.own m z;refine⟨?_,D⟩;unfold gC at u ⊢;rw[ANO e λp j=>by rcases o p j with d|d<;>rw[d]<;>decide];exact u
theorem AUp {c:Nat}(E:bR g)(e:QW g h s k y0 mp fl an O T L)(r:c<2)(bC:k+8<=490)
  (aM: ∀u y,QW g u s (k+8) y0 y fl an O (cI T c ((T c).drop 8)) (VZ c ((T c).take 8) L)->Mod (aR g O) h u->h.size<=u.size->(∀ n,GQ (Hm n) mp= []->GQ (Hm n) y= [])->R (J1 #[J6 J9 ((((T c).take 8).length:Nat):Int),J6 J9 0]) u):
  AA A P PK #[Ap y0.p,J5 a,J6 J9 (c:Int)] h R:=by
 have bD:PO.C=32000:=rfl;have hA:PO.A=1600:=rfl;have own:=e.own c r;refine AGK ?_;unfold wO;refine ah.mk λK aN=>ab.no rfl (ab.no (decide_eq_false (by omega)) (e.w.w.aC (i:=0) rfl ⟨_,rfl,aN _ _ (ab.no (decide_eq_false (by show ¬(2:Int)<=(c:Int);omega)) ?_)⟩))
 refine e.w.w.holds (i:=0) rfl ⟨_,rfl,ab.no (by rw[own.2];rfl) (e.w.w.store (i:=0) rfl ⟨_,rfl,AQU (by omega) λbE H=>⟨_,rfl,?_⟩⟩)⟩;refine(e.on H).w.w.scan (by unfold Mw;rw[AP];show 2<=1099511627776;decide) λps j v aO aP=>⟨_,_,rfl,ab.no rfl ?_⟩
 rw[ql,e.q.tr c r,<-PA] at v;have v:Own Bg AU j ps (((T c).take 8).map (cS c)):=v;have C:ps.len=((T c).take 8).length:=by rw[v.len,AT]
 have bF:((T c).take 8).length<=8:=by rw[Ax];omega
 have I:=H.trans aP;have aQ:=e.dV (O':=λq=>O q\/(h.size<=q/\q<j.size)) I.mod λq b=>b
 refine Loop.rule (λm x o=> ∃(d:Nat) (y:List Pr),x=((d:Int),())/\m=8-d/\d<=ps.len/\QW g o s (k+d) y0 y fl an (λq=>O q\/(h.size<=q/\q<j.size)) (cI T c ((T c).drop d)) (VZ c ((T c).take d) L)/\Mod (aR g λq=>O q\/(h.size<=q/\q<j.size)) j o/\j.size<=o.size/\ ∀n,GQ (Hm n) mp= []->GQ (Hm n) y= []) ?_
  ⟨0,mp,rfl,rfl,A5 _,by rw[HP,ARl];exact aQ,Mod.refl,A0 _,λn h=>h⟩
 rintro bG m _ o ⟨d,mp,rfl,rfl,bI,e,J,bJ,ak⟩ aS;dsimp only;have aT: ∀ {u:aa},Mod (aR g λq=>O q\/(h.size<=q/\q<j.size)) o u->Mod (aR g O) h u:=λm=>I.mod.trans ((J.trans m).ak λq _ b=>aR.less b λq N=> .inl N)
 refine ab.intro (λb=>?_) (λb=>?_);rotate_left
 ·have aU:d=ps.len:=by have:=of_decide_eq_false b;omega
  subst aU;have aV:(T c).drop ps.len=(T c).drop 8:=by
   rw[C,Ax];rcases Nat.le_total 8 (T c).length with h|h
   ·rw[DO h]
   ·rw[Mu h,PC,PF h]
  have aW:(T c).take ps.len=(T c).take 8:=by
   rw[C,Ax];rcases Nat.le_total 8 (T c).length with h|h
   ·rw[DO h]
   ·rw[Mu h,CH,AD h]
  rw[aV,aW] at e;rw[C];exact aM o mp ((e.up (by omega) (by omega)).less λq b=> .inl b) (aT Mod.refl) (by have:=I.size;omega) ak
 have al:d<ps.len:=by have:=of_decide_eq_true b;omega
 have Q:d<(T c).length:=by rw[C,Ax] at al;omega
 obtain⟨t,D⟩: ∃t,(T c)[d]? =some t:=⟨_,A2 Q⟩;have hd:(T c).drop d=t::(T c).drop (d+1):=by rw[FA Q];rw[A2 Q] at D;cases D;rfl
 have aX:(T c).take (d+1)=(T c).take d++ [t]:=by rw[AE,D];rfl
 have S:cI T c ((T c).drop d) c=t::(T c).drop (d+1):=by rw[qo,hd]
 have aY:(c,t)∈VV (cI T c ((T c).drop d)) (VZ c ((T c).take d) L):=uW r (by rw[S];simp);obtain⟨-,U,-,z,p,aZ,W,a0⟩:=e.ok.one _ aY;have z:Am t.2=true:=z;have W:fl t.2=some aZ:=W;have U:Ao t.2 2=c:=U;have am:=e.w.w.sorted;have a1: ∀q,ps.ag=some q->h.size<=q/\q<j.size:=λq b=>⟨by have:=aO q b;have:=H.size;omega,v.lt b⟩
 have a2:View Bg o ps (((T c).take 8).map (cS c)):=v.view.mod J λq b a3=>a3.2 (.inr (a1 q b))
 refine a2.idx (i:=d) (x:=cS c t) (by rw[B9,F1,if_pos (by omega),D];rfl) λbK _ a4=>?_
 obtain⟨a5,a6,a7⟩:=a4.pair;refine AL.mk a5 (AL.mk a6 (Aa.mk a7 (ai.pair λa8 a9 bL ao ba bM=>AL.mk (n:=dN t.2) (AB ao rfl) ?_)));have bb:Hq ⟨1,2,0⟩ t.2=true:=QQ (by decide) z (by decide);refine uM bb λbN ap=>jR.mk _ ⟨_,rfl,ai.mk λbO _ bc bd bP=>aD.mk bc (A0 4) λaq ar be bQ=>ab.no rfl (AL.mk (n:=t.2) (AB ar rfl) ?_)⟩
 have au:Ext a9 aq:=(ap.trans bd).more be λq b=>by subst b;exact ap.size
 have X:=ba.trans au;refine uq (i:=0) (e.on X).w.w rfl e.w.m z W λbT av aw ax ay bf V bU fr bV=>MG.mk _ ⟨_,rfl,ai.mk λbW _ bg bh bX=>aD.mk bg (A0 18) λw Y bi bY=>ab.no rfl ?_⟩
 rw[VP] at Y;rw[a0,U] at Y;have F:Ext aq w:=bf.trans (bh.more bi λq b=>by subst b;exact A0 _);have Z:=(au.trans F).ag ao λh=>h
 have bj:=F.ag ar λh=>h
 refine AL.mk (n:=DD c t.1) (AO Z rfl) (ai.mk λb0 _ bk B b1=>ah.mk λb2 bm=>?_);have bn:=B.ag Z λh=>h
 refine EL.mk (⟨t.2,(c:Int),⟨0,3,false⟩,av,(bZ p 0).V aw ax ay⟩:bH) (Nf (B.ag Y λh=>h)) (JH.mk (⟨1,t.2,2,0⟩:bS) (Bz (B.ag bj λh=>h) rfl) ?_);refine uN (f:=(⟨t.2,(c:Int),⟨0,3,false⟩,av,(bZ p 0).V aw ax ay⟩:bH)) (t:=⟨1,t.2,2,0⟩) rfl λb3 az=>⟨_,_,rfl,ab.yes rfl ?_⟩
 have G:=az.ag bn λh=>h
 refine AL.mk (n:=DD c t.1) (AO G rfl) ⟨⟨by decide,by rw[Nv];decide⟩,AL.mk (n:=dN t.2) (AB G rfl) ?_⟩;have bo:(DD c t.1).extract ((1:Int).toNat) (DD c t.1).size=Ae (Cu c::I8 8 t.1):=by show(DD c t.1).extract 1 (DD c t.1).size=_;unfold DD;rw[Wx];rfl
 rw[bo];refine APH (by decide) (by rw[AP];show 9<=1000000;decide) λbp ac=>⟨_,rfl,AB (ac.ag G λh=>h) rfl,?_⟩
 rw[ASu];have ae:=az.trans ac;have bq:Own Bg AU bp ⟨some ⟨w.size,0,none⟩,1,1⟩ [⟨DD c t.1,⟨#[]⟩,true⟩]:=Own.lit (E:=Bg) (l:= [⟨DD c t.1,⟨#[]⟩,true⟩]) (ae.ag bk λh=>h) rfl (by simp[maxLen]);refine ai.aV (E:=Bg) (x:=NK (c,t)) (s:=⟨some ⟨w.size,0,none⟩,1,1⟩) rfl M.Ii bq (by simp only[BE];decide) (by simp only[BE,maxLen];decide) λbr af aA ag bs _=>bm _ _ ?_
 have b4:=X.size;have b5:=F.size;have b6:=B.size;have b7:=ae.size;have b8:=ag.size;have bt:Ext o af:=(X.trans (F.trans (B.trans ae))).more ag λq b=>by
  have b:w.size=q:=by simpa [Sl.ag] using b
  omega
 have b9:=Ai Z;have aC:=ag.ag (ac.ag G λh=>h) λaE=>by
  have aE:w.size=a8:=by simpa [Sl.ag] using aE
  omega
 refine AL.mk (n:=DD c t.1) (AO aC rfl) (AL.mk (n:=dN t.2) (AB aC rfl) (ai.mk λaF _ bu aj ca=>?_));have bv:View Bg aF ⟨some ⟨af.size,0,none⟩,1,1⟩ [⟨DD c t.1,dN t.2,false⟩]:=(Own.lit (E:=Bg) (l:= [⟨DD c t.1,dN t.2,false⟩]) bu rfl (by simp[maxLen])).view;have aG:=bt.trans aj;have aH:=e.dV (O':=λq=>(O q\/(h.size<=q/\q<j.size))\/(o.size<=q/\q<aF.size)) aG.mod λq b=>b
 have cb:=aj.size;have ub:=e.ub c;have row:=e.q.cS am r (t:=t) (by rw[S];simp);have bw:=AXR (c:=c) (t:=t) (e.own c r).1.2 z row;refine aH.w.w.change (i:=0) (x:=y0) (conds:=⟨some ⟨af.size,0,none⟩,1,1⟩) (sl:=br) (cl:= [⟨DD c t.1,dN t.2,false⟩]) (lp:=jE c t) E rfl (by omega) (by omega) (by omega) (by omega) (by omega) bv (by simp) (aA.view.ext aj) (λ_ q b=> .inr (.inr ?_)) (λq b=>by
  rw[List.mem_singleton.1 b];show(DD c t.1).size<=_;rw[Nv];decide) (λbx=>absurd bx (e.own c r).1.1) (λ_ aI=>by rw[(e.own c r).1.2] at aI;cases aI) (λ_ _ hd=>absurd bw hd) λ_ _ _ cc bz aJ=>⟨_,rfl,ab.no rfl ?_⟩
 ·have:=aA.lt b;refine⟨?_,by omega⟩;rcases bs q b with h|h
  ·have h:w.size=q:=by simpa [Sl.ag] using h
   omega
  ·omega
 rw[Ac (by omega)];have aK:=(aH.go r S (by omega) bz).less (O':=λq=>O q\/(h.size<=q/\q<j.size)) λq b=> .inl b
 rw[AUk,<-APZ,<-aX] at aK;refine aS (8-(d+1)) _ _ (by omega) ⟨d+1,_,rfl,rfl,al,aK,J.trans (aG.mod.trans (aJ.ak λq _ b=>aR.less b λq N=> .inl N)),by have:=aJ.size;omega,λn bA=>?_⟩;rw[PP am,ak n bA];have:GQ (Hm n) (jE c t)= []:=List.filter_eq_nil_iff.2 λp bB b=>by
  have aL:BL p.key=109:=nv b;rcases uY c t p bB with h|h<;>rw[h] at aL<;>cases aL
 rw[this];rfl
end
abbrev nY(p:Option Nat):J0:=J5 (p.map λq=>⟨q,0,none⟩)
structure eM where
 b:Nat
 s:Nat
 a:Nat
 hb:Nat
 sh:Nat
 nt:Nat
 now:Int
abbrev ru(x:eM)(a:Nat):Array J0:= #[Ap x.b,Ap x.s,Ap x.a,J4 (some ⟨x.hb,0,none⟩) a a,J6 J9 (x.sh:Int),J6 J9 x.now,Ap x.nt,J3 false]
structure Wo (h:aa) (w:Nat) (x:eM) (ps:List (Option Nat)):Prop where
 cell:h[w]? =some (J2 (ru x ps.length) Iu (0,0))
 host:h[x.hb]? =some (J2 (ps.map nY).toArray JS (0,0))
 ne:w≠x.hb
section
variable {A : ao} {g h h' : aa} {w : Nat} {x : eM} {ps : List (Option Nat)} {R : A2X} {O : Nat -> Prop} {k N : Nat} {l : List Hs} {mp : List Pr}
theorem Wo.mod {a:Nat->Prop}(b:Wo h w x ps)(m:Mod a h h')(c: ¬a w)(d: ¬a x.hb):Wo h' w x ps:=⟨m.ag b.cell c,m.ag b.host d,b.ne⟩
theorem Wo.ext(a:Wo h w x ps)(m:Ext h h'):Wo h' w x ps:=a.mod m (λh=>h) λh=>h
theorem Wo.step(a:Wo h w x ps)(m:Mod (aR g O) h h')(b:O w)(c:O x.hb):Wo h' w x ps:=a.mod m (λh=>h.2 b) λh=>h.2 c
theorem Wo.at(a:Wo h w x ps){i:Nat}{p:Option Nat}(hi:ps[i]? =some p):af h ((⟨x.hb,0,none⟩:Q6).add (((i:Nat):Int).toNat*1))=some (nY p):=by rw[A6,AN];exact AB a.host (by rw[Kp,B9,hi];rfl)
theorem Wo.sl(a:Wo h w x ps){K:Sl->Prop}(b:K ⟨some ⟨x.hb,0,none⟩,ps.length,ps.length⟩):AV h ((⟨w,0,none⟩:Q6).add 3) K:=AV.mk (s:=⟨some ⟨x.hb,0,none⟩,ps.length,ps.length⟩) (AB a.cell rfl) b
theorem Wo.ix(b:Wo h w x ps){i:Nat}{p:Option Nat}(hi:ps[i]? =some p){K:Q6->Prop}(a:K ⟨x.hb,0,none⟩):aY (some ⟨x.hb,0,none⟩) ps.length (i:Int) K:=
 ⟨_,rfl,⟨by omega,by have:=(List.getElem?_eq_some_iff.1 hi).1;omega⟩,a⟩
theorem Wo.put(W:Wo h w x ps){i:Nat}{p q:Option Nat}(hi:ps[i]? =some p){K:aa->Prop}(b: ∀h',Wo h' w x (ps.set i q)->Mod (· =x.hb) h h'->K h'):ae h ((⟨x.hb,0,none⟩:Q6).add (((i:Nat):Int).toNat*1)) (nY q) K:=by
 rw[A6,AN];refine ae.dw W.host (by have:=(List.getElem?_eq_some_iff.1 hi).1;simpa using this) λc d a e=>b c ⟨?_,?_,W.ne⟩ a
 ·rw[Kx];exact a.ag W.cell W.ne
 ·rw[d,N3];simp
theorem yj {i p:Nat}(a:Wo h w x ps)(hi:ps[i]? =some (some p))(b:R (J1 #[Ap p,J6 J9 0]) h):AA A P Dq #[Ap w,J6 J9 (i:Int)] h R:=by
 have d:=(List.getElem?_eq_some_iff.1 hi).1;refine Mc ?_;unfold Jm;refine ah.mk λK c=>ab.no rfl (ab.no (decide_eq_false (by omega)) (aA (a.sl (ab.no (decide_eq_false (by show ¬((ps.length:Nat):Int)<=(i:Int);omega)) (aA (a.sl (a.ix hi (AY.mk (a.at hi) (c _ _ ?_)))))))))
 exact ab.no rfl (aA (Aa.mk (AB a.cell rfl) (ab.no rfl (aA (a.sl (a.ix hi (AY.mk (a.at hi) b)))))))
theorem AWs {i:Int}(a:Wo h w x ps)(hi:i<0\/(ps.length:Int)<=i\/ ∃k:Nat,i=k/\ps[k]? =some none)(f:R (J1 #[J5 none,J6 J9 230]) h):AA A P Dq #[Ap w,J6 J9 i] h R:=by
 refine Mc ?_;unfold Jm;refine ah.mk λK j=>ab.no rfl ?_
 have key: ∀b:Bool,b=true->K (b,()) h:=λb m=>by subst m;exact j _ _ (ab.yes rfl f)
 refine ab.intro (λc=>key _ rfl) λc=>aA (a.sl (ab.intro (λd=>key _ rfl) λd=>?_))
 have c:=of_decide_eq_false c;have d: ¬((ps.length:Nat):Int)<=i:=of_decide_eq_false d;rcases hi with h|h|⟨k,rfl,e⟩
 ·exact absurd h c
 ·exact absurd h d
 ·exact aA (a.sl (a.ix e (AY.mk (a.at e) (key _ rfl))))
theorem AVR {i:Int}(a:R (J1 #[J5 none,J6 J9 230]) h):AA A P Dq #[J5 none,J6 J9 i] h R:=by refine Mc ?_;unfold Jm;exact ah.mk λK b=>ab.yes rfl (b _ _ (ab.yes rfl a))
theorem ry(t:cW h){i:Nat}(hi:i<=1000)(b: ∀h',Ext h h'->R (J7 (cH i)) h'):AA A P En #[J6 J9 (i:Int)] h R:=by
 refine Xj ?_;unfold Tf;rw[if_neg (by omega)];refine Wy t (by omega) (by omega) λc d=>⟨_,rfl,?_⟩
 rw[Lib.itoa_nonneg];have a:=ug i hi;unfold cH km at a;rw[Fm] at a;refine⟨by rw[max_i64];show(((⟨#[104,111,115,116]⟩:A2Y).size+(Ae (Lib.decDigits i)).size:Nat):Int)<=_;omega,?_⟩;exact b c d
theorem ASr {a:Int}(b:a≠30){w:Q2}(c:R (J6 J9 a) h):AA A P EP #[J5 w,J6 J9 a] h R:=by refine XV ?_;unfold QR;exact ah.mk λK d=>ab.no (by simpa using b) (d _ _ c)
theorem yk {i:Nat}(hi:i<8):Am (cH i)=true:=by
 unfold cH;rw[Lib.decDigits_one (by omega)];have: ∀a,a<8->Am (km++Ae [UInt8.ofNat (48+a)])=true:=by decide
 exact this i hi
theorem yl {i:Nat}(t:bR g)(n:LW PO g h x.s k N x.sh l mp O)(a:Wo h w x ps)(hi:ps[i]? =some none)(u:1<=x.sh/\x.sh<=16)(F:ps.length<=8)(ow:O w)(v:O x.hb)
  (y: ∀h' p b d,LW PO g h' x.s k N x.sh (l++ [⟨p,b,d,cH i,λ_=>0,λ_=>0⟩]) mp O->Wo h' w x (ps.set i (some p))->Mod (· =x.hb) h h'->R (J6 J9 0) h'):AA A P EO #[Ap w,J6 J9 (i:Int)] h R:=by
 have G:=(List.getElem?_eq_some_iff.1 hi).1;refine KP ?_;unfold IY;refine ah.mk λK z=>ab.no rfl (ab.no (decide_eq_false (by omega)) (aA (a.sl (ab.no (decide_eq_false (by show ¬((ps.length:Nat):Int)<=(i:Int);omega)) (aA (a.sl (a.ix hi (AY.mk (a.at hi) (z _ _ ?_)))))))))
 refine ab.no rfl (aA (Aa.mk (AB a.cell rfl) (ab.no rfl (aA (AY.mk (AB a.cell rfl) (aA (AC.mk (AB a.cell rfl) (ry (t.ext n.ext).dx (by omega) λH e=>⟨_,rfl,?_⟩))))))));have f:=a.ext e;refine⟨AB f.cell rfl,AB f.cell rfl,(n.on e).host (yk (by omega)) u λB p b d C o=>⟨_,_,rfl,?_⟩⟩;have j:=f.ext o;refine aA (j.sl (j.ix hi (j.put (q:=some p) hi λr D s=>?_)));have E:Mod O B r:=s.ak λc _ m=>by subst m;exact v
 exact y r p b d (C.own E λc m=> .inl m) D ((e.mod.trans o.mod).trans s)
end
abbrev cw(ps:List (Option Nat)):List Bool:=ps.map Option.isSome
def dH(l:List Hs)(ix:Nat->Nat)(i m:Nat):Nat:=match l[ix i]? with|some a=>a.f m|none=>0
abbrev ey:=Nat->Nat×A2Y
structure WW (g hh:aa) (w:Nat) (x:eM) (ps:List (Option Nat)) (k:Nat) (l:List Hs) (mp:List Pr) (O:Nat->Prop) (ix:Nat->Nat) (Ls:ey):Prop where
 lw:LW PO g hh x.s k k x.sh l mp O
 wo:Wo hh w x ps
 own:O w/\O x.hb
 tie: ∀(i p:Nat),ps[i]? =some (some p)-> ∃y,l[ix i]? =some y/\y.p=p/\y.name=cH i
 ls: ∀m,m<x.sh->G7 mp m (Ls m).1 (Ls m).2
 le: ∀m,m<x.sh->(Ls m).1<=k
 sh:1<=x.sh/\x.sh<=16
 n:ps.length<=8
 all: ∀y∈l,∀m,y.u m<=3*k/\y.f m<=k
 em:Jc mp (λ_=>none) (λ_=>none)
 row: ∀q,BL q≠108->Ab q mp=none
def eA(up:List Bool)(ix:Nat->Nat)(l:List Hs)(Ls:ey)(m:Nat):Option Nat:=
 match ga up m with
 |none=>none
 |some i=>if(Ls m).2=cH i/\(Ls m).1=dH l ix i m then none else some i
structure Sp (up:List Bool) (ix:Nat->Nat) (l l':List Hs) (Ls Ls':ey) (m:Nat):Prop where
 stay:eA up ix l Ls m=none->Ls' m=Ls m/\ ∀i,up[i]? =some true->dH l' ix i m=dH l ix i m
 goes: ∀i,eA up ix l Ls m=some i->Ls' m=((Ls m).1+1,cH i)/\dH l' ix i m=(Ls m).1+1
def QZ(up:List Bool)(ix:Nat->Nat)(l:List Hs)(Ls:ey)(a:Nat):Nat:=((List.range a).filter λm=>(eA up ix l Ls m).isSome).length
theorem SA(up:List Bool)(ix:Nat->Nat)(l:List Hs)(Ls:ey)(n:Nat):QZ up ix l Ls (n+1)=QZ up ix l Ls n+if(eA up ix l Ls n).isSome then 1 else 0:=by unfold QZ;rw[RW,Ly,A1];congr 1;cases a:(eA up ix l Ls n).isSome<;>simp[a]
theorem AUc(up:List Bool)(ix:Nat->Nat)(l:List Hs)(Ls:ey)(a:Nat):QZ up ix l Ls a<=a:=by unfold QZ;have:=KK (λm=>(eA up ix l Ls m).isSome) (List.range a);rwa [List.length_range] at this
theorem od {ps:List (Option Nat)}{i:Nat}:(cw ps)[i]? =some true↔ ∃p,ps[i]? =some (some p):=by
 rw[B9];cases h:ps[i]? with
 |none=>simp
 |some a=>cases a<;>simp
section
variable {A : ao} {g h : aa} {w : Nat} {x : eM} {ps : List (Option Nat)} {R : A2X} {O : Nat -> Prop} {k : Nat} {l : List Hs} {mp : List Pr} {ix : Nat -> Nat} {Ls : ey}
theorem WW.dV {a:aa}{O':Nat->Prop}(b:WW g h w x ps k l mp O ix Ls)(d:Mod O h a)(e:Wo a w x ps)(f: ∀c,O' c->O c\/(h.size<=c/\c<a.size))(i:O' w/\O' x.hb):WW g a w x ps k l mp O' ix Ls:=
 {b with lw:=b.lw.own d f,wo:=e,own:=i}
theorem WW.on {b:aa}(a:WW g h w x ps k l mp O ix Ls)(m:Ext h b):WW g b w x ps k l mp O ix Ls:= {a with lw:=a.lw.on m,wo:=a.wo.ext m}
theorem WW.less {O':Nat->Prop}(a:WW g h w x ps k l mp O ix Ls)(b: ∀c,O' c->O c)(d:O' w/\O' x.hb):WW g h w x ps k l mp O' ix Ls:= {a with lw:=a.lw.less b,own:=d}
theorem WW.up {a:Nat}(b:WW g h w x ps k l mp O ix Ls)(c:k<=a)(i:a<=500):WW g h w x ps a l mp O ix Ls:=
 {b with lw:=b.lw.put c (by show 64*a<=32000;omega) c (by omega),le:=λm d=>by have:=b.le m d;omega,all:=λe f m=>by have:=b.all e f m;omega}
theorem WW.acquire {i p m:Nat}(H:bR g)(b:WW g h w x ps k l mp O ix Ls)(hi:ps[i]? =some (some p))(v:m<x.sh)(Q:k+1<=490)
  (I: ∀n s J y,WW g n w x ps (k+1) s J O ix y->y m=((Ls m).1+1,cH i)->dH s ix i m=(Ls m).1+1->(∀ a,a≠m->y a=Ls a/\ ∀d,dH s ix d a=dH l ix d a)->s.length=l.length->Mod (aR g O) h n->R (J1 #[J6 J9 (((Ls m).1+1:Nat):Int),J6 J9 0]) n):
  AA A P EU #[Ap p,J6 J9 (m:Int)] h R:=by
 obtain⟨f,o,rfl,C⟩:=b.tie i p hi;have D:=(List.getElem?_eq_some_iff.1 o).1;have t:=b.lw.sorted;have S:=b.le m v;have T:=b.sh;have K:Am f.name=true:=by rw[C];exact yk (by have:=(List.getElem?_eq_some_iff.1 hi).1;have:=b.n;omega)
 have U:PO.A=1600:=rfl;have V:PO.C=32000:=rfl;refine b.lw.acquire H o v (b.ls m v) (by omega) (by omega) (by omega) (by omega) (by omega) λn L E=>?_
 have F: ∀d a,dH (l.set (ix i) (f.mL m ((Ls m).1+1))) ix d a=if ix d=ix i/\a=m then(Ls m).1+1 else dH l ix d a:=λd a=>by
  unfold dH;by_cases c:ix d=ix i
  ·rw[c,G4 D,o];show du f.f m ((Ls m).1+1) a=_;unfold du;by_cases e:a=m
   ·rw[if_pos e,if_pos ⟨rfl,e⟩]
   ·rw[if_neg e,if_neg λh=>e h.2]
  ·rw[Hj λB=>c B.symm,if_neg λh=>c h.1]
 refine I n _ _ (λa=>if a=m then((Ls m).1+1,cH i) else Ls a) ⟨L,b.wo.step E b.own.1 b.own.2,b.own,λd q M=>?_,λa j=>?_,λa j=>?_,b.sh,b.n,λz r a=>?_,b.em.aF t λq u=>?_,λq u=>?_⟩ (if_pos rfl) ?_ (λa j=>⟨if_neg j,λd=>?_⟩) (Kx ..) E
 ·obtain⟨z,r,G,e⟩:=b.tie d q M;by_cases c:ix d=ix i
  ·rw[c,o] at r;cases r;exact⟨f.mL m ((Ls m).1+1),by rw[c];exact G4 D,G,e⟩
  ·exact⟨z,by rw[Hj λB=>c B.symm];exact r,G,e⟩
 ·by_cases c:a=m
  ·subst c;rw[if_pos rfl,<-C];exact G7.laid t (by omega) (by omega) K
  ·rw[if_neg c];exact(b.ls a j).other t λe=>c (AMX (by omega) (by omega) e).symm
 ·by_cases c:a=m
  ·subst c;rw[if_pos rfl];show(Ls a).1+1<=_;omega
  ·rw[if_neg c];have:=b.le a j;omega
 ·rcases OS r with h|rfl
  ·have:=b.all z h a;omega
  ·have:=b.all f (AG o) a;show du f.u m 0 a<=_/\du f.f m ((Ls m).1+1) a<=_;unfold du;constructor<;>split<;>omega
 ·rw[List.mem_singleton.1 u];show BL (CS m)≠104/\BL (CS m)≠119/\BL (CS m)≠114;rw[Tg];decide
 ·rw[Ky t λp N c=>u (by rw[<- c,List.mem_singleton.1 N];exact Tg m)];exact b.row q u
 ·rw[F,if_pos ⟨rfl,rfl⟩]
 ·rw[F,if_neg λh=>j h.2]
theorem AUA {b:Nat}{e:A2Y}(j:Wo h w x ps)(E:ps.length<=8)(r:h[b]? =some (J2 #[J7 e] BD (0,0)))
  (u:(∀ i:Nat,i<ps.length->ps[i]? =some none)->R (J6 J9 (-1)) h) (v:e≠⟨#[]⟩-> ∀i p:Nat,ps[i]? =some (some p)->(∀ a,a<i->ps[a]? =some none)->R (J6 J9 (i:Int)) h) (y:e=⟨#[]⟩-> ∀i p:Nat,ps[i]? ≠some (some p)):
  AA A P Cq #[J4 (some ⟨x.hb,0,none⟩) ps.length ps.length,(.func (.func Ie) #[] #[J5 (some ⟨b,0,none⟩)])] h R:=by
 refine GX (s:=⟨some ⟨x.hb,0,none⟩,ps.length,ps.length⟩) ?_;unfold Dz;refine Loop.rule (λm z B=> ∃a:Nat,z=((a:Int),())/\m=ps.length-a/\a<=ps.length/\B=h/\ ∀t,t<a->ps[t]? =some none) ?_ ⟨0,rfl,rfl,A5 _,rfl,λt C=>by omega⟩;rintro K m _ _ ⟨a,rfl,rfl,F,rfl,f⟩ D;dsimp only;refine ab.intro (λc=>?_) (λc=>?_)
 ·have c:a<ps.length:=by have:=of_decide_eq_true c;omega
  have af:ps[a]? =some ps[a]:=A2 c;generalize ps[a]=n at af;refine j.ix af (AY.mk (j.at af) (EM.func (first:= #[]) (bM:= #[J5 (some ⟨b,0,none⟩)]) (by kernel_rfl) (SC (h1:=n.map λq=>⟨q,0,none⟩) ?_)));unfold ME;cases n with
  |none=>
   refine ab.no rfl ⟨_,rfl,ab.no rfl ?_⟩;rw[Ac (by omega)];refine D (ps.length-(a+1)) _ _ (by omega) ⟨a+1,rfl,rfl,c,rfl,λt C=>?_⟩;by_cases d:t=a
   ·rw[d];exact af
   ·exact f t (by omega)
  |some p=>
   have o:e≠⟨#[]⟩:=λd=>y d a p af
   refine ab.yes rfl (aA (AL.mk (AO r rfl) ⟨_,rfl,ab.yes ?_ (v o a p af f)⟩));cases d:bB e ⟨#[]⟩ with
   |false=>rfl
   |true=>rw[Bl] at d;exact absurd (of_decide_eq_true d) o
 ·have c:a=ps.length:=by have:=of_decide_eq_false c;omega
  subst c;exact u λi hi=>f i hi
end
theorem rC {up:List Bool}{ix:Nat->Nat}{l a:List Hs}{Ls b:ey}{m:Nat}(d:b m=Ls m)(e: ∀c,dH a ix c m=dH l ix c m):eA up ix a b m=eA up ix l Ls m:=by unfold eA;rw[d];simp only[e]
theorem Sp.then {up:List Bool}{ix:Nat->Nat}{l b c:List Hs}{Ls d e:ey}{m:Nat}(s:Sp up ix l b Ls d m)(f:e m=d m)(j: ∀n,dH c ix n m=dH b ix n m):Sp up ix l c Ls e m:=
 ⟨λa=>⟨f.trans (s.stay a).1,λi hi=>(j i).trans ((s.stay a).2 i hi)⟩,λi a=>⟨f.trans (s.goes i a).1,(j i).trans (s.goes i a).2⟩⟩
theorem Sp.from {up:List Bool}{ix:Nat->Nat}{l c d:List Hs}{Ls e f:ey}{m:Nat}(s:Sp up ix c d e f m)(a:e m=Ls m)(j: ∀n,dH c ix n m=dH l ix n m):Sp up ix l d Ls f m:=by
 have o:=rC (up:=up) a j;refine⟨λb=>?_,λi b=>?_⟩
 ·have:=s.stay (o.trans b);exact⟨this.1.trans a,λi hi=>(this.2 i hi).trans (j i)⟩
 ·have:=s.goes i (o.trans b);rw[a] at this;exact this
theorem Sp.pA {up:List Bool}{ix:Nat->Nat}{l:List Hs}{Ls:ey}{m:Nat}(h:eA up ix l Ls m=none):Sp up ix l l Ls Ls m:=
 ⟨λ_=>⟨rfl,λ_ _=>rfl⟩,λi a=>by rw[h] at a;cases a⟩
theorem APu {up:List Bool}{ix:Nat->Nat}{l:List Hs}{Ls:ey}{n:Nat}: ∀ {m:Nat},m<n->QZ up ix l Ls (m+1)<=QZ up ix l Ls n:=by
 induction n with
 |zero=>intro m h;omega
 |succ n b=>
  intro m h;rcases CD m n with a|a
  ·have:=b a;rw[SA (n:=n)];omega
  ·rw[show m=n by omega];exact A0 _
theorem AS4 {ps:List (Option Nat)}{a:Nat}{b:Option Nat}(h:ps[a]? =some b):RV ((cw ps).take (a+1))=RV ((cw ps).take a)++if b.isSome then [a] else []:=by
 have d:=(List.getElem?_eq_some_iff.1 h).1;have c:(cw ps)[a]? =some b.isSome:=by rw[B9,h];rfl
 rw[AE,c];show RV ((cw ps).take a++ [b.isSome])=_;rw[AQ3,Ax,AT,DO (by omega)]
section
variable {A : ao} {g h : aa} {w : Nat} {x : eM} {ps : List (Option Nat)} {R : A2X} {O : Nat -> Prop} {k : Nat} {l : List Hs} {mp : List Pr} {ix : Nat -> Nat} {Ls : ey}
theorem APJ(E:bR g)(z:WW g h w x ps k l mp O ix Ls)(bx:k+QZ (cw ps) ix l Ls x.sh<=490)
  (aX: ∀d ar aY aH,WW g d w x ps (k+QZ (cw ps) ix l Ls x.sh) ar aY O ix aH->(∀ m,m<x.sh->Sp (cw ps) ix l ar Ls aH m)->ar.length=l.length->Mod (aR g O) h d->R (J1 #[J6 J9 ((QZ (cw ps) ix l Ls x.sh:Nat):Int),J6 J9 0]) d):
  AA A P FV #[Ap w] h R:=by
 have bz:=z.sh;have X:=z.n;refine Mg ?_;unfold Jd;refine ab.no rfl (aA (Aa.mk (AB z.wo.cell rfl) (ab.no rfl (aA (z.wo.sl ?_)))));refine Loop.rule (λF v t=> ∃(a:Nat) (s:Sl),v=(s,(a:Int),())/\F=ps.length-a/\a<=ps.length/\Own Jn BD t s ((RV ((cw ps).take a)).map cH)/\Ext h t/\ ∀b,s.ag=some b->h.size<=b) ?_ ⟨0,⟨none,0,0⟩,rfl,rfl,A5 _,Own.nil,Mod.refl,λb u=>by simp[Sl.ag] at u⟩;rintro K F _ t ⟨a,s,rfl,rfl,aZ,T,M,Y⟩ aI;dsimp only;have U:=z.on M;refine ab.intro (λf=>?_) (λf=>?_)
 ·have f:a<ps.length:=by have:=of_decide_eq_true f;omega
  have af:ps[a]? =some ps[a]:=A2 f;generalize ps[a]=a0 at af;have aJ:=AS4 af;refine ah.mk λbA aK=>U.wo.ix af (AY.mk (U.wo.at af) ?_)
  cases a0 with
  |none=>
   refine ab.no rfl (aK _ _ ?_);dsimp only;rw[Ac (by omega)];exact aI (ps.length-(a+1)) _ _ (by omega) ⟨a+1,s,rfl,rfl,f,by rw[aJ];simpa using T,M,Y⟩
  |some p=>
   refine ab.yes rfl (ry (E.ext U.lw.ext).dx (by omega) λbC au=>⟨_,rfl,?_⟩);have bD:((RV ((cw ps).take a)).map cH).length<=8:=by rw[AT];unfold RV;rw[AT];have:=KK (λx:Bool×Nat=>x.1) (((cw ps).take a).zipIdx);rw[List.length_zipIdx,Ax] at this;omega
   refine ai.aV (E:=Jn) (x:=cH a) (s:=s) rfl ATk (T.ext au) (by omega) (by simp only[maxLen];omega) λa1 bE a2 a3 a4 _=>aK _ _ ?_
   dsimp only;rw[Ac (by omega)];refine aI (ps.length-(a+1)) _ _ (by omega) ⟨a+1,a1,rfl,rfl,f,by rw[aJ,Cl];exact a2,(M.trans au).more a3 λc y=>Y c y,λb u=>?_⟩;rcases a4 b u with o|o
   ·exact Y b o
   ·have:=M.size;have:=au.size;omega
 have a5:a=ps.length:=by have:=of_decide_eq_false f;omega
 subst a5;rw[AD (by rw[AT];exact A0 _)] at T;have a6:WW g t w x ps k l mp (λc=>O c\/(h.size<=c/\c<t.size)) ix Ls:=z.dV (M.ak λ_ _ h=>h.elim) U.wo (λc y=>y) ⟨.inl z.own.1,.inl z.own.2⟩;have a7: ∀b,s.ag=some b->h.size<=b/\b<t.size:=λb u=>⟨Y b u,T.lt u⟩
 have nl: ∀v∈(RV (cw ps)).map cH,v.size<=1099511627776:=λv a8=>by
  obtain⟨i,hi,rfl⟩:=List.mem_map.1 a8;obtain⟨p,V⟩:=od.1 (mX.1 hi);have:=ug i (by have:=(List.getElem?_eq_some_iff.1 V).1;omega);have:(24:Nat)<=1099511627776:=by decide
  omega
 have nn:((RV (cw ps)).map cH).length<=1099511627776:=by
  rw[AT];unfold RV;rw[AT];have:=KK (λx:Bool×Nat=>x.1) ((cw ps).zipIdx);rw[List.length_zipIdx,AT] at this;have:(8:Nat)<=1099511627776:=by decide
  omega
 refine aA (AC.mk (n:=(x.sh:Int)) (AB U.wo.cell rfl) ?_);refine Loop.rule (λF v d=> ∃(m:Nat) (j:List Hs) (Z:List Pr) (e:ey),v=(((QZ (cw ps) ix l Ls m:Nat):Int),(m:Int),())/\F=x.sh-m/\m<=x.sh/\WW g d w x ps (k+QZ (cw ps) ix l Ls m) j Z (λc=>O c\/(h.size<=c/\c<t.size)) ix e/\(∀ n,n<m->Sp (cw ps) ix l j Ls e n)/\(∀ n,m<=n->e n=Ls n/\ ∀a,dH j ix a n=dH l ix a n)/\j.length=l.length/\Mod (aR g (λc=>O c\/(h.size<=c/\c<t.size))) t d) ?_
  ⟨0,l,mp,Ls,rfl,rfl,A5 _,a6,λn X=>by omega,λn _=>⟨rfl,λ_=>rfl⟩,rfl,Mod.refl⟩
 rintro bF F _ ac ⟨m,j,Z,e,rfl,rfl,bG,av,aL,un,aM,aw⟩ a9;dsimp only;have y:=AUc (cw ps) ix l Ls m;refine ab.intro (λf=>?_) (λf=>?_);rotate_left
 ·have ba:m=x.sh:=by have:=of_decide_eq_false f;omega
  subst ba;exact aX ac j Z e (av.less (λc y=> .inl y) z.own) aL aM (M.mod.trans (aw.ak λc _ y=>⟨y.1,λh=>y.2 (.inl h)⟩))
 have f:m<x.sh:=by have:=of_decide_eq_true f;omega
 refine ah.mk λaN bb=>?_
 have next: ∀ {d:aa} {G:List Hs} {ag:List Pr} {N:ey} {c:Nat},WW g d w x ps (k+c) G ag (λc=>O c\/(h.size<=c/\c<t.size)) ix N->Sp (cw ps) ix j G e N m->(∀ n,n≠m->N n=e n/\ ∀a,dH G ix a n=dH j ix a n)->G.length=j.length->Mod (aR g (λc=>O c\/(h.size<=c/\c<t.size))) ac d->c=QZ (cw ps) ix l Ls m+(if(eA (cw ps) ix j e m).isSome then 1 else 0)->aN (((c:Nat):Int),()) d:=λ{d G ag N c} ax S' W len ay aO=>by
  have H:=un m (A0 _);rw[rC H.1 H.2,<-SA] at aO;subst aO;refine bb _ _ ?_;dsimp only;rw[Ac (by omega)];refine a9 (x.sh-(m+1)) _ _ (by omega) ⟨m+1,G,ag,N,rfl,rfl,f,ax,λn X=>?_,λn X=>?_,len.trans aM,aw.trans ay⟩
  ·by_cases B:n=m
   ·subst B;exact S'.from H.1 H.2
   ·exact(aL n (by omega)).then (W n B).1 (W n B).2
  ·have o:=W n (by omega);have I:=un n (by omega);exact⟨o.1.trans I.1,λa=>(o.2 a).trans (I.2 a)⟩
 have bc:View Jn ac s ((RV (cw ps)).map cH):=T.view.mod aw λb u h=>h.2 (.inr (a7 b u))
 refine uf (E.ext av.lw.ext).dx (by omega) λbH aP=>⟨_,rfl,AR7 (bc.ext aP) nl nn ?_ λaQ bd=>⟨_,rfl,ai.mk λbI _ be bf bJ=>ae.mk be (by simp) λJ aS bg bK=>?_⟩⟩
 ·rw[if_neg (by omega)];have:=Lib.itoa_length_le (m:Int) (by omega) (by omega);rw[Fm];show 6+(Lib.itoa (m:Int)).toArray.size<=1099511627776;have:(26:Nat)<=1099511627776:=by decide
  simp only[List.size_toArray];omega
 rw[if_neg (by omega)] at aS;have az:Ext ac J:=(aP.trans bd).trans (bf.more bg λc y=>by omega);have aj:J[aQ.size]? =some (J2 #[J7 (dY (cw ps) m)] BD (0,0)):=by unfold dY pO;simpa using aS
 have Q:=av.on az;have bL:aQ.size<J.size:=by omega
 have ax: ∀ {d:aa},Ext J d->WW g d w x ps (k+QZ (cw ps) ix l Ls m) j Z (λc=>O c\/(h.size<=c/\c<t.size)) ix e:=λak=>Q.on ak
 have aT: ∀ {d:aa},Ext J d->eA (cw ps) ix j e m=none->aN (((QZ (cw ps) ix l Ls m:Nat):Int),()) d:=λ{d} ak D=>
  next (ax ak) (Sp.pA D) (λn _=>⟨rfl,λ_=>rfl⟩) rfl ((az.trans ak).mod) (by rw[D];rfl)
 have aU: ∀ {i p:Nat},ps[i]? =some (some p)-> ∃r S,ga (cw ps) m=some r/\ps[r]? =some (some S)/\cH r=dY (cw ps) m:=λ{i p} hi=>by
  cases B:ga (cw ps) m with
  |none=>
   have o:=uh B;have I:=mX.2 (od.2 ⟨p,hi⟩);rw[o] at I;cases I
  |some r=>
   obtain⟨o,I⟩:=pP B;obtain⟨S,C⟩:=od.1 o;exact⟨r,S,rfl,C,I⟩
 refine aA (Q.wo.sl (AUA Q.wo X aj (λbh=>⟨_,rfl,?_⟩) (λ_ i p hi first=>⟨_,rfl,?_⟩) λbi i p hi=>?_))
 ·refine Loop.rule (λ_ v d=>v=((-1:Int),())/\d=J) ?_ (m:=0) ⟨rfl,rfl⟩;rintro bj _ _ _ ⟨rfl,rfl⟩ aV;refine ah.mk λbk aC=>ab.no (by decide) (aC _ _ (ab.no rfl (ab.yes (by decide) (aT Mod.refl ?_))))
  have:ga (cw ps) m=none:=ARF (List.eq_nil_iff_forall_not_mem.2 λi hi=>by
   obtain⟨p,V⟩:=od.1 (mX.1 hi);rw[bh i (List.getElem?_eq_some_iff.1 V).1] at V;cases V)
  unfold eA;rw[this]
 ·obtain⟨r,S,aD,C,al⟩:=aU hi;have bM:=(List.getElem?_eq_some_iff.1 C).1;have bm:i<=r:=N6 λh=>by rw[first r h] at C;cases C
  refine Loop.rule (λF v d=> ∃a:Nat,v=((a:Int),())/\F=r-a/\a<=r/\Ext J d) ?_ ⟨i,rfl,rfl,bm,Mod.refl⟩;rintro bj _ _ bN ⟨a,rfl,rfl,aZ,am⟩ aV;have bn:=Q.on am;refine ah.mk λbk aC=>ab.yes (decide_eq_true (by show(0:Int)<=_;omega)) (AL.mk (AO (am.ag aj λh=>h) rfl) (ry (E.ext bn.lw.ext).dx (by omega) λbO aW=>⟨_,rfl,AO ((am.trans aW).ag aj λh=>h) rfl,aC _ _ ?_⟩))
  have an:=am.trans aW;have L:=Q.on an;by_cases B:a=r
  ·subst B;refine ab.no (by show(!bB _ _)=false;rw[Bl,decide_eq_true al];rfl) (ab.no (decide_eq_false (by show ¬((a:Nat):Int)<0;omega)) (aA (L.wo.sl (L.wo.ix C (AY.mk (L.wo.at C) ?_)))));obtain⟨ao,aE,rfl,bP⟩:=L.tie a S C;have bo:dH j ix a m=ao.f m:=by unfold dH;rw[aE]
   have dn:eA (cw ps) ix j e m=if(e m).2=cH a/\(e m).1=ao.f m then none else some a:=by unfold eA;rw[aD,<-bo]
   refine L.lw.look aE f (L.ls m f) λbp aF=>⟨_,_,_,rfl,ab.no rfl (ah.mk λbq br=>AL.mk (AO ((an.trans aF).ag aj λh=>h) rfl) ?_)⟩
   have aG:=an.trans aF;have key: ∀ap:Bool,(ap=true↔(e m).2=cH a/\(e m).1=ao.f m)->bq (ap,()) bp:=λap u=>by
    refine br _ _ (ab.intro (λq=>?_) (λq=>?_))
    ·exact aT aG (by rw[dn,if_pos (u.1 q)])
    ·have q:ap=false:=q;have bs: ¬((e m).2=cH a/\(e m).1=ao.f m):=λh=>by rw[u.2 h] at q;cases q
     have aq:eA (cw ps) ix j e m=some a:=by rw[dn,if_neg bs]
     have bt:k+QZ (cw ps) ix l Ls m+1<=490:=by have o:=APu (up:=cw ps) (ix:=ix) (l:=l) (Ls:=Ls) f;have H:=un m (A0 _);rw[SA,<-rC H.1 H.2,aq] at o;have o:QZ (cw ps) ix l Ls m+1<=QZ (cw ps) ix l Ls x.sh:=o;omega
     refine(Q.on aG).acquire E C f bt λbQ G ag N bu bv bw W len ay=>⟨_,_,rfl,ab.no rfl ?_⟩
     rw[Ac (by omega)];refine next bu ⟨λD=>(by rw[aq] at D;cases D),λi D=>?_⟩ W len (((az.trans aG).mod).trans ay) (by rw[aq];rfl)
     rw[aq] at D;cases D;exact⟨bv,bw⟩
   refine ab.intro (λq=>?_) (λq=>key false ?_)
   ·have q:bB (e m).2 (dY (cw ps) m)=true:=q;rw[Bl,<-al] at q;have q:=of_decide_eq_true q;refine(L.on aF).lw.holds aE ⟨_,rfl,key _ ?_⟩;rw[beq_iff_eq];exact⟨λh=>⟨q,by omega⟩,λh=>by rw[h.2]⟩
   ·have q:bB (e m).2 (dY (cw ps) m)=false:=q;rw[Bl,<-al] at q;have q:=of_decide_eq_false q;exact⟨λh=>(by cases h),λh=>absurd h.1 q⟩
  ·refine ab.yes (by show(!bB _ _)=true;rw[Bl,<-al,decide_eq_false λh=>B (AUH h)];rfl) ?_;dsimp only;rw[Ac (by omega)];exact aV (r-(a+1)) _ _ (by omega) ⟨a+1,rfl,rfl,by omega,an⟩
 ·obtain⟨r,S,aD,-,-⟩:=aU hi;exact absurd bi (ATU aD)
end
def gK(A:ao)(h:aa)(w:Q2)(i:Int):Prop:= ∀a (R:A2X),Ext h a->R (J1 #[J5 none,J6 J9 230]) a->AA A P Dq #[J5 w,J6 J9 i] a R
section
variable {A : ao} {h : aa} {w : Q2} {i : Int} {R : A2X}
theorem gK.on {a:aa}(b:gK A h w i)(x:Ext h a):gK A a w i:=λc R d e=>b c R (x.trans d) e
theorem Rz:gK A h none i:=λb R _ a=>AVR a
theorem AWT {b:Nat}{x:eM}{ps:List (Option Nat)}(c:Wo h b x ps)(hi:i<0\/(ps.length:Int)<=i\/ ∃a:Nat,i=a/\ps[a]? =some none):gK A h (some ⟨b,0,none⟩) i:=λf R d e=>AWs (c.ext d) hi e
theorem og {q:bN}(e:gK A h w i)(f: ∀b,Ext h b->R (RJ 230).v b):AA A P BK #[J5 w,J6 J9 i,q.v] h R:=by refine Oi ?_;unfold LJ;exact ai.mk λn _ o a p=>ai.mk λg _ j d r=>e g _ (a.trans d) ⟨_,_,rfl,ab.yes rfl (qw j λk l=>f k ((a.trans d).more l λc m=>by subst m;exact a.size))⟩
theorem APf(g:gK A h w i)(j: ∀d,Ext h d->R (RJ 230).v d):AA A P FR #[J5 w,J6 J9 i] h R:=by
 refine Mq ?_;unfold JU;refine ai.mk λv _ k e x=>og (g.on e) λl m=>DX.mk (RJ 230) ⟨rfl,ai.mk λy _ o p z=>aD.mk o (A0 9) λq a r B=>?_⟩
 rw[KI] at a;have s:Ext l q:=p.more r λc b=>by subst b;exact A0 _
 have f:=m.trans s;exact AC.mk (n:=230) (AO a rfl) (ab.yes rfl (Bb.mk (RJ 230) (Hr a) (qw (f.ag k λh=>h) λt u=>j t ((e.trans f).more u λc b=>by subst b;exact A0 _))))
theorem ATv {name:A2Y}{aJ:Bool}(g:gK A h w i)(j: ∀d,Ext h d->R (RJ 230).v d):AA A P Kv #[J5 w,J6 J9 i,J7 name,J3 aJ] h R:=by
 refine XU ?_;unfold QX;refine ai.mk λx _ k e y=>og (g.on e) λl m=>DX.mk (RJ 230) ⟨rfl,ai.mk λz _ o p B=>aD.mk o (A0 9) λq a r C=>?_⟩
 rw[KI] at a;have s:Ext l q:=p.more r λc b=>by subst b;exact A0 _
 have f:=m.trans s;exact ah.mk λK t=>AC.mk (n:=230) (AO a rfl) (ab.yes rfl (t _ _ (ab.yes rfl (Bb.mk (RJ 230) (Hr a) (qw (f.ag k λh=>h) λu v=>j u ((e.trans f).more v λc b=>by subst b;exact A0 _))))))
theorem AT7(a:gK A h w i)(b:R (J1 #[J6 J9 0,J6 J9 230]) h):AA A P GL #[J5 w,J6 J9 i] h R:=by refine Ol ?_;unfold LH;exact a h _ Mod.refl ⟨_,_,rfl,ab.yes rfl b⟩
theorem ATm {a:Int}(b:gK A h w i)(c:R (J1 #[J6 J9 0,J6 J9 230]) h):AA A P I6 #[J5 w,J6 J9 i,J6 J9 a] h R:=by refine UI ?_;unfold Mt;exact b h _ Mod.refl ⟨_,_,rfl,ab.yes rfl c⟩
theorem AOz {a:Int}(b:gK A h w i)(c:R (J6 J9 0) h):AA A P KN #[J5 w,J6 J9 i,J6 J9 a] h R:=by refine VE ?_;unfold Od;exact b h _ Mod.refl ⟨_,_,rfl,ab.yes rfl c⟩
theorem ARr {a:Int}(b:R (J1 #[]) h):AA A P LC #[J5 none,J6 J9 a] h R:=by refine Xc ?_;unfold Ph;exact ab.no rfl b
theorem AMP(a:R (J1 #[J6 J9 0,J6 J9 230]) h):AA A P FV #[J5 none] h R:=by refine Mg ?_;unfold Jd;exact ab.yes rfl a
theorem ARe {q:bN}(b: ∀a,Ext h a->R (J1 #[J6 J9 0,J6 J9 230]) a):AA A P Kw #[J5 none,J6 J9 i,q.v] h R:=by refine Xa ?_;unfold QU;exact ai.mk λc _ _ d _=>ah.mk λK e=>ab.yes rfl (e _ _ (ab.yes rfl (b c d)))
theorem AKf(b: ∀a,Ext h a->R (J1 #[aS.z.v,J6 J9 230]) a):AA A P I7 #[J5 none,J6 J9 i] h R:=by refine TQ ?_;unfold Mr;exact ai.mk λk _ d e _=>ab.yes rfl (KL (x:=aS.z) d λf g=>b f (e.more g λc j=>by subst j;exact A0 _))
theorem ARm(a:R (J6 J9 230) h):AA A P EO #[J5 none,J6 J9 i] h R:=by refine KP ?_;unfold IY;exact ah.mk λK b=>ab.yes rfl (b _ _ (ab.yes rfl a))
theorem AP4(a:R (J6 J9 230) h):AA A P KO #[J5 none,J6 J9 i] h R:=by refine Uz ?_;unfold Ot;exact ah.mk λK b=>ab.yes rfl (b _ _ (ab.yes rfl a))
theorem AP0 {s:Sl}(a:R (J6 J9 230) h):AA A P KH #[J5 none,J4 s.p s.len s.cap] h R:=by refine VQ ?_;unfold Ob;exact ab.yes rfl a
theorem ARw {b:Bool}(a:R (J6 J9 30) h):AA A P LD #[J5 none,J3 b] h R:=by refine XW ?_;unfold QJ;exact ah.mk λK c=>ab.yes rfl (c _ _ (ab.yes rfl a))
theorem ARf {a:Int}(b:R (J6 J9 1) h):AA A P Dj #[J5 none,J6 J9 a] h R:=by refine KF ?_;unfold IJ;exact ah.mk λK c=>ab.yes rfl (c _ _ (ab.yes rfl b))
theorem AT5(a:R (J5 none) h):AA A P MS #[J5 none] h R:=by refine Yo ?_;unfold RG;exact ab.yes rfl a
theorem AUE(a:R (J6 J9 0) h):AA A P Gg #[J5 none] h R:=by refine Pi ?_;unfold MK;exact ab.yes rfl a
theorem ALd(a:R (J6 J9 0) h):AA A P I4 #[J5 none] h R:=by refine UA ?_;unfold Ms;exact ab.yes rfl a
theorem yq {b:Nat}{a:Int}(k:a<0\/1000<a)(f:R (J6 J9 1) h):AA A P Dj #[Ap b,J6 J9 a] h R:=by
 refine KF ?_;unfold IJ;refine ah.mk λK g=>ab.no rfl ?_
 have fin: ∀c:Bool,c=true->K (c,()) h:=λc j=>by subst j;exact g _ _ (ab.yes rfl f)
 refine ab.intro (λ_=>fin _ rfl) λd=>ab.intro (λ_=>fin _ rfl) λe=>?_
 have d:=of_decide_eq_false d;have e:=of_decide_eq_false e;omega
theorem AUJ {b:Nat}{x:eM}{ps:List (Option Nat)}(a:Wo h b x ps)(c:R (J6 J9 x.now) h):AA A P Gg #[Ap b] h R:=by refine Pi ?_;unfold MK;exact ab.no rfl (aA (AC.mk (AB a.cell rfl) c))
theorem ART {b n:Nat}{x:eM}{ps:List (Option Nat)}(a:Wo h b x ps)(k:n<=1000)(l:0<=x.now/\x.now<=549755813888)(d: ∀c,Wo c b {x with now:=x.now+n} ps->Mod (· =b) h c->R (J6 J9 0) c):AA A P Dj #[Ap b,J6 J9 (n:Int)] h R:=by
 refine KF ?_;unfold IJ;refine ah.mk λK e=>ab.no rfl (ab.no (decide_eq_false (by omega)) (ab.no (decide_eq_false (by omega)) (aA (AC.mk (AB a.cell rfl) (e _ _ (ab.no (decide_eq_false (by omega)) (aA (AC.mk (AB a.cell rfl) (aA ?_)))))))))
 rw[wrap_i64 (by omega) (by omega)];exact ae.bE (j:=5) (dm:=ru {x with now:=x.now+n} ps.length) a.cell (of_decide_eq_true rfl) rfl λc f m s=>d c ⟨f,m.ag a.host λg=>a.ne g.symm,a.ne⟩ m
end
end Go.Lf.G
