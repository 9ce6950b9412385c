/-
 Contracts: events and histories back from bytes (chapter 13).
-/
import Derived.Test.YtecomiijolnjpaaGreatDoorLfZ16ToV5
import Derived.Test.YtecomiijolnjpaaGreatDoorLfIToU29
import Derived.WideKeyEntry
import Derived.Test.YtecomiijolnjpaaGreatDoorLfU2ToY5
import Derived.Test.YtecomiijolnjpaaGreatDoorLfZ7ToZ15
set_option maxRecDepth 100000
set_option linter.unusedVariables false
set_option linter.unusedSimpArgs false
open Go.IntKind renaming i64→J9,wrap→J8
open Go.Value renaming string→J7,int→J6,pointer→J5,slice→J4,bool→J3,tuple→J1
open Go.Obj renaming cells→J2
open Go renaming Value→J0,Addr→Q6,TypeId→Q7,FuncId→Q8,Program→Q1
open Go.Addr renaming add→Q9,mk→Q5
namespace Go.Lf.G
open Go
theorem Mj(f:Bool)(m:Nat)(a:Rd):(EX f m a).2.rest.length<=a.rest.length:=by
 cases f with
 |false=>exact A0 _
 |true=>exact Fp m a
theorem APv(f:Bool)(a:Rd):(Te f a).2.rest.length<=a.rest.length/\(Te f a).1.length<=a.rest.length:=by
 cases f with
 |false=>exact⟨A0 _,AG _⟩
 |true=>exact Ny a
theorem AN1(b:jz)(c:Rd):(Pt b c).2.rest.length<=c.rest.length/\(Pt b c).1.data.size<=c.rest.length:=by
 simp only[Pt,AP];have d:=Fp b.id c;have e:=Fp b.kind (Bt b.id c).2;have f:=Fp b.tick (Bt b.kind (Bt b.id c).2).2;generalize Bt b.tick (Bt b.kind (Bt b.id c).2).2=t at*
 generalize ((Bt b.kind (Bt b.id c).2).1:Int)=a at*
 have g:=Mj (cW a) b.ref t.2;have h:=Mj (di a) b.step (EX (cW a) b.ref t.2).2;have i:=Mj (dx a) b.turn (EX (di a) b.step (EX (cW a) b.ref t.2).2).2;have j:=Mj (dP a) 1 (EX (dx a) b.turn (EX (di a) b.step (EX (cW a) b.ref t.2).2).2).2;have k:=APv (dU a) (EX (dP a) 1 (EX (dx a) b.turn (EX (di a) b.step (EX (cW a) b.ref t.2).2).2).2).2;omega
theorem qT {w:ak}{a:aa}{b d g:Nat}{f l:Int}{m:Nat}{fl:Bool}{h:Rd}{e:Array J0}{T:Q7}{K:Unit->aa->Prop}(x:(Gb J9 f l != (0:Int))=fl)(n:Io a b h)(y:h.rest.length<=1099511627776)
  (z:m<=9223372036854775807) (o:a[d]? =some (J2 e T (0,0))) (A:g<e.size) (B:e.setIfInBounds g (J6 J9 0)=e) (p:b≠d)
  (q: ∀i,Io i b (EX fl m h).2->i[d]? =some (J2 (e.setIfInBounds g (J6 J9 ((EX fl m h).1:Int))) T (0,0))->Mod (λc=>c=b\/c=d) a i->K () i):
  ae (Gb J9 f l != (0:Int)) (AA w P Ad #[Az b,J6 J9 (m:Int)] a λv r=> ∃t:Int,v=J6 J9 t/\(ab r ((⟨d,0,none⟩:Q6).add g) (J6 J9 t) λj=>K () j)) (K () a):=by
 rw[x];cases fl with
 |false=>exact ae.no rfl (q a n (by simp only[EX,Cl,if_false];rw[show(((0:Nat):Int))=(0:Int) from rfl,B];exact o) Mod.refl)
 |true=>
  refine ae.yes rfl (DX n y z λr C s=>⟨_,rfl,?_⟩);refine ab.dj (s.af o p.symm) A λj D u E=>?_
  exact q j (u.af C p) D ((s.ai λc _ k=> .inl k).trans (u.ai λc _ k=> .inr k))
abbrev xM(i b t a s c:Int)(u:Bool)(d:A2P):Array J0:= #[J6 J9 i,J6 J9 b,J6 J9 t,J6 J9 a,J6 J9 s,J6 J9 c,J3 u,J7 d]
theorem AOy {au:ak}{b:aa}{e:Nat}{d:Rd}{M:A2O}(N:Io b e d)(bb:d.rest.length<1099511627776)
  (O: ∀E,Io E e (Pt fx d).2->Mod (· =e) b E->M (nY (Pt fx d).1) E):AA au P Rh #[Az e] b M:=by
 refine ADt ?_;unfold YY;have bc:=Af N;refine al.mk λy _ Q z av=>?_
 have R:=z.af N (λb=>b);have bd:Bt 500 d=Bt fx.id d:=rfl;have be:=Fp 500 d;have bf:=Fp 18 (Bt 500 d).2;have bg:=Fp 1099511627776 (Bt 18 (Bt 500 d).2).2;refine DX (most:=500) R (by omega) (by decide) λbh S A=>⟨_,rfl,?_⟩
 refine DX (most:=18) S (by omega) (by decide) λbi T U=>⟨_,rfl,?_⟩
 refine DX (most:=1099511627776) T (by omega) (by decide) λu F V=>⟨_,rfl,?_⟩
 have n:=(A.trans U).trans V;have W:=n.af Q (by omega);have aw:y.size<=u.size:=n.size;refine al.mk λbj _ X B ax=>ab.eight X λay Y C az=>?_
 have o:e≠u.size:=by have:=Af F;omega
 have aA:b.size≠u.size:=by omega
 have aC:=C.af (B.af F (λb=>b)) o;have aD:=C.af (B.af W (λb=>b)) aA;have aE:Mod (· =e) b ay:=by have l:Mod (· =e) b u:=z.mod.trans n;exact l.then ((B.mod.trans C).ai λc _ g=> .inr (by have:=n.size;have:=z.size;omega))
 refine AC.mk (AB Y rfl) (Wv ⟨_,_,rfl,?_⟩);obtain⟨aF,aG,aH,aI,aJ⟩:=qQ ((Bt 18 (Bt 500 d).2).1:Int);have bk:b.size<=u.size:=by omega
 have bm:b.size<=b.size:=A0 _;have bn:Pt fx d=Pt fx d:=rfl;generalize aK:((Bt 18 (Bt 500 d).2).1:Int)=a at*
 generalize aL:Bt 1099511627776 (Bt 18 (Bt 500 d).2).2=t at*
 generalize aM:((Bt 500 d).1:Int)=i at*
 have aN:Pt fx d=(⟨i,a,t.1,(EX (cW a) 500 t.2).1,(EX (di a) 15 (EX (cW a) 500 t.2).2).1,(EX (dx a) 5 (EX (di a) 15 (EX (cW a) 500 t.2).2).2).1,
   decide ((EX (dP a) 1 (EX (dx a) 5 (EX (di a) 15 (EX (cW a) 500 t.2).2).2).2).1=1),AX (Te (dU a) (EX (dP a) 1 (EX (dx a) 5 (EX (di a) 15 (EX (cW a) 500 t.2).2).2).2).2).1⟩,
   (Te (dU a) (EX (dP a) 1 (EX (dx a) 5 (EX (di a) 15 (EX (cW a) 500 t.2).2).2).2).2).2):=by
  simp only[Pt,<-aK,<-aL,<-aM];rfl
 have bo:=Mj (cW a) 500 t.2;have bp:=Mj (di a) 15 (EX (cW a) 500 t.2).2;have bq:=Mj (dx a) 5 (EX (di a) 15 (EX (cW a) 500 t.2).2).2;have br:=Mj (dP a) 1 (EX (dx a) 5 (EX (di a) 15 (EX (cW a) 500 t.2).2).2).2;rw[aN] at O;generalize u.size=v at*
 generalize aO:EX (cW a) 500 t.2=G at*
 generalize aP:EX (di a) 15 G.2=os at*
 generalize aQ:EX (dx a) 5 os.2=s at*
 generalize Z:EX (dP a) 1 s.2=f at*
 clear Q W X R S T F z B A U V n C av aw ax az;have up: ∀ {ac ad:aa},Mod (· =e) b ac->Mod (λc=>c=e\/c=v) ac ad->Mod (· =e) b ad:=λaR A=>aR.then (A.ai λc _ g=>g.elim .inl λbs=> .inr (by omega))
 refine ah.mk λK aS=>?_
 refine qT (m:=500) (fl:=cW a) (by rw[aF,MI (by decide)]) aC (by omega) (by decide) Y (by simp) rfl o λbt af ag n=>aS _ _ ?_
 rw[aO] at af ag;have aT:=n.af aD (by omega);have aU:=up aE n;refine ah.mk λbu aV=>?_
 refine qT (m:=15) (fl:=di a) (by rw[aG,MI (by decide)]) af (by omega) (by decide) ag (by simp) rfl o λbv ai aj am=>aV _ _ ?_
 rw[aP] at ai aj;have aW:=am.af aT (by omega);have aX:=up aU am;refine ah.mk λbw aY=>?_
 refine qT (m:=5) (fl:=dx a) (by rw[aH,MI (by decide)]) ai (by omega) (by decide) aj (by simp) rfl o λan H I ao=>aY _ _ ?_
 rw[aQ] at H I;have aZ:=ao.af aW (by omega);have a0:=up aX ao;refine ah.mk λa1 a2=>?_
 have ap: ∀p,Io p e f.2->p[v]? =some (J2 (xM i a t.1 G.1 os.1 s.1 (decide (f.1=1)) Fg) A7 (0,0))->Mod (λc=>c=e\/c=v) an p->a1 () p:=λp D aq w=>by
  refine a2 _ _ ?_;have a3:=w.af aZ (by omega);have a4:=up a0 w;refine ah.mk λa5 a6=>?_
  have ar: ∀q,Io q e (Te (dU a) f.2).2->q[v]? =some (J2 (xM i a t.1 G.1 os.1 s.1 (decide (f.1=1)) (AX (Te (dU a) f.2).1)) A7 (0,0))->Mod (λc=>c=e\/c=v) p q->a5 () q:=λq J h r=>by
   refine a6 _ _ ?_;have a7:=r.af a3 (by omega);have a8:=up a4 r;refine AC.mk (AL h rfl) (AC.mk (AB h rfl) (AC.mk (AB h rfl) (AC.mk (AB h rfl) (AC.mk (AB h rfl) (AC.mk (AB h rfl) (Ac.mk (AB h rfl) (AJ.mk (AB h rfl) ?_)))))));refine ab.eight a7 λL k x a9=>?_
   refine AC.mk (AL k rfl) (AC.mk (AB k rfl) (AC.mk (AB k rfl) (AC.mk (AB k rfl) (AC.mk (AB k rfl) (AC.mk (AB k rfl) (Ac.mk (AB k rfl) (AJ.mk (AB k rfl) ?_)))))));exact O L (x.af J (by omega)) (a8.then (x.ai λc _ g=> .inr (by omega)))
  rw[aJ,MI (by decide)];refine ae.intro (λl=>?_) (λl=>?_)
  ·refine IL D (by omega) λq J r=>⟨_,rfl,?_⟩
   refine ab.dj (r.af aq o.symm) (by simp) λL k x a9=>?_
   have j:Te (dU a) f.2=FY f.2:=by simp only[Te,l,if_true]
   refine ar L (by rw[j];exact x.af J o) (by rw[j];exact k) ((r.ai λc _ g=> .inl g).trans (x.ai λc _ g=> .inr g))
  ·have j:Te (dU a) f.2=([],f.2):=by simp only[Te,l,Cl,if_false]
   exact ar p (by rw[j];exact D) (by rw[j];exact aq) Mod.refl
 rw[aI,MI (by decide)];refine ae.intro (λl=>?_) (λl=>?_)
 ·have j:f=Bt 1 s.2:=by rw[<- Z];simp only[EX,l,if_true]
  refine DX (most:=1) H (by omega) (by decide) λp D w=>⟨_,rfl,?_⟩
  refine ab.dj (w.af I o.symm) (by simp) λq h r bx=>?_
  have ba:((((Bt 1 s.2).1:Nat):Int)==(1:Int))=decide (f.1=1):=by
   rw[j];by_cases y:(Bt 1 s.2).1=1
   ·rw[y];rfl
   ·rw[decide_eq_false y,beq_eq_false_iff_ne];omega
  rw[ba] at h;refine ap q (by rw[j];exact r.af D o) h ((w.ai λc _ g=> .inl g).trans (r.ai λc _ g=> .inr g))
 ·have j:f=(0,s.2):=by rw[<- Z];simp only[EX,l,Cl,if_false]
  exact ap an (by rw[j];exact H) (by rw[j];exact I) Mod.refl
def evZ:Ev:=⟨0,0,0,0,0,0,false,Fg⟩
def ATp(a:Option Ev):J0:=J1 #[nY (a.getD evZ),J6 J9 (if a.isSome then 0 else 60)]
theorem AJ9 {F:ak}{b:aa}{l:List UInt8}{r:A2O}(G:l.length<1099511627776)(s: ∀t,Ext b t->r (ATp (jA l)) t):AA F P Og #[J7 (AX l)] b r:=by
 refine ABH ?_;unfold Tw;refine al.mk λU _ H u V=>?_
 refine Kq λW v w=>⟨_,rfl,?_⟩
 have X:=Af v;refine AOy v G λI J j=>⟨_,_,_,_,_,_,_,_,rfl,?_⟩
 have L:=j.af (w.af H (λb=>b)) (by omega);have y:Ext b I:=(u.trans w).more j λc h=>by subst h;exact u.size
 have M:=AN1 fx ⟨l,false⟩;refine al.mk λY _ N k Z=>ab.eight N λm d n ac=>?_
 have ad:=j.size;have z:Ext b m:=(y.trans k).more n λc h=>by subst h;exact y.size
 have A:=n.af (k.af L (λb=>b)) (by omega);have O:=n.af (k.af J (λb=>b)) (by omega);refine ah.mk λK B=>?_
 refine NZ O ⟨_,rfl,?_⟩;have o:jA l=if YR (Pt fx ⟨l,false⟩).2&&FQ (Pt fx ⟨l,false⟩).1 then some (Pt fx ⟨l,false⟩).1 else none:=rfl;generalize (Pt fx ⟨l,false⟩).2=C at*
 generalize (Pt fx ⟨l,false⟩).1=e at*
 have D:jA l=none-> ∀p,Ext m p->K (true,()) p:=λQ p x=>by
  refine B _ _ (ae.yes rfl ?_);refine ab.eight (x.af A (λb=>b)) λq a R af=>?_
  refine AC.mk (AL a rfl) (AC.mk (AB a rfl) (AC.mk (AB a rfl) (AC.mk (AB a rfl) (AC.mk (AB a rfl) (AC.mk (AB a rfl) (Ac.mk (AB a rfl) (AJ.mk (AB a rfl) ?_)))))));have:=s q ((z.trans x).more R λc h=>by omega);rw[Q] at this;exact this
 refine ae.intro (λg=>?_) (λg=>?_)
 ·have g:YR C=false:=by simpa using g
  exact D (by rw[o,g];rfl) m Mod.refl
 ·have g:YR C=true:=by simpa using g
  refine AC.mk (AL d rfl) (AC.mk (AB d rfl) (AC.mk (AB d rfl) (AC.mk (AB d rfl) (AC.mk (AB d rfl) (AC.mk (AB d rfl) (Ac.mk (AB d rfl) (AJ.mk (AB d rfl) ?_)))))));refine Zn (e:=e) (by simp only at M;omega) λq i=>⟨_,rfl,?_⟩
  cases E:FQ e with
  |false=>exact D (by rw[o,E,Lq];rfl) q i
  |true=>
   refine B _ _ (ae.no rfl ?_);have a:=i.af d (λb=>b);refine AC.mk (AL a rfl) (AC.mk (AB a rfl) (AC.mk (AB a rfl) (AC.mk (AB a rfl) (AC.mk (AB a rfl) (AC.mk (AB a rfl) (Ac.mk (AB a rfl) (AJ.mk (AB a rfl) ?_)))))));refine ab.eight (i.af A (λb=>b)) λS f T ag=>?_
   refine AC.mk (AL f rfl) (AC.mk (AB f rfl) (AC.mk (AB f rfl) (AC.mk (AB f rfl) (AC.mk (AB f rfl) (AC.mk (AB f rfl) (Ac.mk (AB f rfl) (AJ.mk (AB f rfl) ?_)))))));have:=s S ((z.trans i).more T λc h=>by omega);rw[o,g,E] at this;exact this
theorem xN:P7 P Dq A7 fT.w 72=true:=by kernel_rfl
theorem xO {a:Ev}(h:Eo a=true)(hd:a.data.size<18446744073709551616):(NP a).length<=100+a.data.size:=by
 have c:=h;simp only[Eo,A3] at c;obtain⟨⟨⟨⟨⟨⟨⟨i,j⟩,k⟩,d⟩,e⟩,g⟩,l⟩,m⟩:=c;have o:=BX.1 i;have p:=BX.1 j;have q:=BX.1 k;have r:=AV (n:=a.id.toNat) (by omega);have s:=AV (n:=a.kind.toNat) (by omega);have t:=AV (n:=a.tick.toNat) (by omega);have u:=Md (f:=cW a.kind) (n:=a.ref) (by cases b:cW a.kind<;>rw[b] at d<;>simp[cX,bS] at d<;>omega);have v:=Md (f:=di a.kind) (n:=a.step) (by cases b:di a.kind<;>rw[b] at e<;>simp[cX,bS] at e<;>omega);have w:=Md (f:=dx a.kind) (n:=a.turn) (by cases b:dx a.kind<;>rw[b] at g<;>simp[cX,bS] at g<;>omega);have x:=Md (f:=dP a.kind) (n:=if a.aE then 1 else 0) (by split<;>omega);have y:(gB (dU a.kind) a.data).length<=10+a.data.size:=by
  cases b:dU a.kind with
  |false=>simp[gB]
  |true=>
   simp only[gB,if_true,BG,A1,Av];have:=AV hd;omega
 simp only[NP,A1];omega
end Go.Lf.G
namespace Go.Lf
open Go
def TG(a:Int)(v:J0):List (Int×J0)->List (Int×J0)
 | []=> [(a,v)]
 |p::m=>if p.1=a then(a,v)::m else p::TG a v m
def La(a:Int)(m:List (Int×J0)):Option J0:=(m.find? λp=>decide (p.1=a)).map (·.2)
def gT(a:Int)(m:List (Int×J0)):List (Int×J0):=m.filter λp=> !decide (p.1=a)
theorem GZ(a:Int)(p:Int×J0)(m:List (Int×J0)):La a (p::m)=if p.1=a then some p.2 else La a m:=by unfold La;rw[DO];by_cases b:p.1=a<;>simp[b]
theorem Za(a:Int)(v:J0)(c:Int): ∀m,La c (TG a v m)=if a=c then some v else La c m
 | []=>by unfold TG;rw[GZ]
 |p::m=>by
  unfold TG;split
  ·rename_i d;rw[GZ,GZ];by_cases b:a=c<;>simp[d,b]
  ·rename_i d;rw[GZ,GZ,Za a v c m];by_cases b:a=c
   ·subst b;simp[d]
   ·simp[b]
structure WP (kd:IntKind) (es:Array MapEntry) (clock:Nat) (m:List (Int×J0)):Prop where
 same:es.toList.map (λe=>(e.key,e.val))=m.map λp=>(Value.int kd p.1,p.2)
 stamped:MapKept.Stamped es clock
 size:es.size<=maxLen
def Su(kd:IntKind)(d:aa)(b:Nat)(m:List (Int×J0)):Prop:= ∃a c,d[b]? =some (.map a c)/\WP kd a c m
theorem Su.mod {kd:IntKind}{a c:aa}{b:Nat}{m:List (Int×J0)}{d:Nat->Prop}(M:Su kd a b m)(x:Mod d a c)(e: ¬d b):Su kd c b m:=by obtain⟨f,g,h,i⟩:=M;exact⟨f,g,x.af h e,i⟩
theorem Su.lt {kd:IntKind}{a:aa}{b:Nat}{m:List (Int×J0)}(M:Su kd a b m):b<a.size:=by obtain⟨d,e,c,f⟩:=M;exact Af c
theorem Su.empty {kd:IntKind}{a:aa}{b c:Nat}(d:a[b]? =some (.map #[] c)):Su kd a b []:=⟨#[],c,d,rfl,MapKept.stamped_empty c,by simp⟩
theorem WP.len {kd:IntKind}{a:Array MapEntry}{b:Nat}{m:List (Int×J0)}(M:WP kd a b m):a.size=m.length:=by rw[<- DQ];have:=congrArg List.length M.same;simpa using this
theorem WP.keysOf {kd:IntKind}{a:Array MapEntry}{b:Nat}{m:List (Int×J0)}(M:WP kd a b m):a.toList.map (·.key)=m.map λp=>Value.int kd p.1:=by have:=congrArg (List.map Prod.fst) M.same;simpa [B9,G4] using this
theorem WP.nodup {kd:IntKind}{b:Array MapEntry}{c:Nat}{m:List (Int×J0)}(M:WP kd b c m):(m.map (·.1)).Nodup:=by
 have a:=M.stamped.2.2;rw[M.keysOf] at a;have d:(m.map λp=>Value.int kd p.1)=(m.map (·.1)).map (Value.int kd):=by simp
 rw[d] at a;exact(List.pairwise_map.1 a).imp λe f=>e (by rw[f])
theorem OQ {kd:IntKind}(a:Int)(v:J0): ∀(c:List MapEntry) (m:List (Int×J0)) (i:Nat),(c.map λe=>(e.key,e.val))=(m.map λp=>(Value.int kd p.1,p.2))->
  (Instr.findNow (.int kd) (.int kd a) c i=some none/\La a m=none/\TG a v m=m++ [(a,v)]/\gT a m=m/\ ∀e∈c,e.key≠ .int kd a)\/
  ∃d u,Instr.findNow (.int kd) (.int kd a) c i=some (some (i+d,u))/\La a m=some u/\(∃ e,c[d]? =some e/\e.key= .int kd a)/\((c.modify d λe=> {e with key:= .int kd a,val:=v}).map λe=>(e.key,e.val))=(TG a v m).map (λp=>(Value.int kd p.1,p.2))/\
   ((m.map (·.1)).Nodup->((c.eraseIdx d).map λe=>(e.key,e.val))=(gT a m).map λp=>(Value.int kd p.1,p.2))
 | [],[],i,_=> .inl ⟨rfl,rfl,rfl,rfl,by simp⟩
 | [],_::_,_,h=>by simp at h
 |_::_,[],_,h=>by simp at h
 |e::c,p::m,i,h=>by
  simp only[C2,HW,N2] at h;obtain⟨⟨j,l⟩,n⟩:=h;have o:Instr.sameNow (.int kd) (.int kd a) e.key=some (decide (a=p.1)):=by rw[j];show(if kd=kd then some (a==p.1) else none)=_;rw[if_pos rfl];congr 1
  by_cases b:p.1=a
  ·refine .inr ⟨0,e.val,?_,?_,⟨e,rfl,by rw[j,b]⟩,?_,?_⟩
   ·unfold Instr.findNow;rw[o,decide_eq_true b.symm];rfl
   ·rw[GZ,if_pos b,l]
   ·unfold TG;rw[if_pos b];simp[n]
   ·intro g;have g:=List.nodup_cons.1 g;simp only[List.eraseIdx_zero,List.tail_cons];rw[n];congr 1;unfold gT;rw[AW];simp only[b,decide_true,LI,Cl,if_false];refine(List.filter_eq_self.2 λC w=>?_).symm;simp only[CA,decide_eq_false_iff_not];rintro rfl;exact g.1 (by show p.1∈_;rw[b];exact N3 (f:=Prod.fst) w)
  ·rcases OQ a v c m (i+1) n with⟨q,r,s,k,y⟩|⟨d,u,q,r,⟨z,s,A⟩,B,k⟩
   ·refine .inl ⟨?_,?_,?_,?_,?_⟩
    ·unfold Instr.findNow;rw[o,decide_eq_false (λe=>b e.symm)];exact q
    ·rw[GZ,if_neg b];exact r
    ·unfold TG;rw[if_neg b,s];rfl
    ·unfold gT at k ⊢;rw[AW];simp[b];simpa using k
    ·intro x t;rcases List.mem_cons.1 t with rfl|t
     ·rw[j];intro e;injection e with _ e;exact b e
     ·exact y x t
   ·refine .inr ⟨d+1,u,?_,?_,⟨z,by simpa using s,A⟩,?_,?_⟩
    ·unfold Instr.findNow;rw[o,decide_eq_false (λe=>b e.symm)];rw[show i+(d+1)=i+1+d by omega];exact q
    ·rw[GZ,if_neg b];exact r
    ·unfold TG;rw[if_neg b];simp[j,l,B]
    ·intro g;have g:=List.nodup_cons.1 g;have:=k g.2;unfold gT at this ⊢;rw[AW];simp[b,j,l];simpa using this
section
variable {P : Q1} {kd : IntKind}
theorem F8 {a:Q7}(c:P.underlying a=some (.int kd))(d:Bool)(e:Nat)(f:Int)(b:World):(Instr.checkKey d (e+1) a (.int kd f)).run P b= .ok () b:=by simp[Instr.checkKey,A9 c]
theorem L8 {g:ak}{t h i:Q7}{z:J0}(j:P.underlying t=some (.map h i))(c:P.underlying h=some (.int kd))(n:(zeroValue i).calc P=some z){a:aa}{b:Nat}{m:List (Int×J0)}{d:Int}{K:A2O}
  (M:Su kd a b m) (o:K ((La d m).getD z) a):BB g P (Instr.lookup t (.map (some b)) (.int kd d) false) a K:=by
 intro k;refine⟨_,a,k,?_,o⟩;obtain⟨p,v,q,s⟩:=M;have l:=MapKept.run_getObj_map (P:=P) (w:=g.at a k) (r:=b) q;rcases OQ d z p.toList m 0 s.same with⟨e,f,_⟩|⟨x,u,e,f,_,_⟩
 ·simp[Instr.lookup,A9 j,l,F8 c,Instr.findKey,A9 c,e,f,Result.andThen,JI n]
 ·simp[Instr.lookup,A9 j,l,F8 c,Instr.findKey,A9 c,e,f,Result.andThen]
theorem AJ0 {g:ak}{t q G:Q7}(s:P.underlying t=some (.map q G))(h:P.underlying q=some (.int kd)){a:aa}{b:Nat}{m:List (Int×J0)}{d:Int}{v:J0}{K:aa->Prop}
  (M:Su kd a b m) (O:m.length<maxLen) (y: ∀i,Su kd i b (TG d v m)->Mod (λc=>c=b) a i->i.size=a.size->K i):Zz g P (Instr.mapUpdate t (.map (some b)) (.int kd d) v) a K:=by
 intro f;obtain⟨j,l,n,e⟩:=M;have z:=Af n;have A:=MapKept.run_getObj_map (P:=P) (w:=g.at a f) (r:=b) n;have B: ∀k,(setObj b k).run P (g.at a f)= .ok () (g.at (a.setIfInBounds b k) f):=λk=>MapKept.run_setObj_map (P:=P) (w:=g.at a f) k n
 have Q:=e.len;rcases OQ d v j.toList m 0 e.same with⟨o,H,p,_,I⟩|⟨C,u,o,H,⟨J,p,D⟩,L,_⟩
 ·refine⟨a.setIfInBounds b (.map (j.push {key:= .int kd d,val:=v,born:=l}) (l+1)),f,?_,y _ ⟨_,_,CQ z,?_,MapKept.stamped_push e.stamped I,by simp;omega⟩ (Mod.setObj rfl) (by simp)⟩
  ·simp[Instr.mapUpdate,A9 s,A,F8 h,Instr.findKey,A9 h,o,Result.andThen,B]
  ·rw[p];simp[e.same]
 ·have E:j[C]? =some J:=by simpa using p
  refine⟨a.setIfInBounds b (.map (j.modify C λe=> {e with key:= .int kd d,val:=v}) l),f,?_,y _ ⟨_,_,CQ z,?_,MapKept.stamped_modify e.stamped _ _ (λ_ _=>rfl) (λx _ F=>?_),by simpa using e.size⟩ (Mod.setObj rfl) (by simp)⟩
  ·have N: ∀w,(Instr.keyThatStays (.int kd d) (.int kd d)).run P w= .ok (.int kd d) w:=λw=>by
    simp[Instr.keyThatStays,Instr.sameBits]
   simp[Instr.mapUpdate,A9 s,A,F8 h,Instr.findKey,A9 h,o,E,D,N,Result.andThen,B]
  ·rw[Hk];exact L
  ·rw[E] at F;cases F;exact D.symm
theorem AJt {g:ak}{t k B C:Q7}(s:P.underlying t=some (.map k B))(h:P.underlying k=some (.int kd)){a:aa}{b:Nat}{m:List (Int×J0)}{l:Int}{K:A2O}
  (M:Su kd a b m) (v: ∀i,Su kd i b (gT l m)->Mod (λc=>c=b) a i->i.size=a.size->K (J1 #[]) i):BB g P (Builtin.delete_ #[t,k] C #[.map (some b),.int kd l]) a K:=by
 intro e;obtain⟨f,x,n,d⟩:=M;have y:=Af n;have z:=MapKept.run_getObj_map (P:=P) (w:=g.at a e) (r:=b) n;have A: ∀j,(setObj b j).run P (g.at a e)= .ok () (g.at (a.setIfInBounds b j) e):=λj=>MapKept.run_setObj_map (P:=P) (w:=g.at a e) j n
 rcases OQ l (J3 true) f.toList m 0 d.same with⟨o,D,_,p,_⟩|⟨q,u,o,D,⟨E,F,I⟩,_,p⟩
 ·refine⟨_,a.setIfInBounds b (.map f x),e,?_,v _ ⟨_,_,CQ y,by rw[p];exact d.same,d.stamped,d.size⟩ (Mod.setObj rfl) (by simp)⟩;simp[Builtin.delete_,A9 s,z,F8 h,Instr.findKey,A9 h,o,Result.andThen,A]
 ·have G:f[q]? =some E:=by simpa using F
  refine⟨_,a.setIfInBounds b (.map (f.eraseIdxIfInBounds q) x),e,?_,v _ ⟨_,_,CQ y,?_,MapKept.stamped_erase d.stamped _,?_⟩ (Mod.setObj rfl) (by simp)⟩
  ·simp[Builtin.delete_,A9 s,z,F8 h,Instr.findKey,A9 h,o,Result.andThen,A]
  ·have H:=(Array.getElem?_eq_some_iff.1 G).1;rw[Array.eraseIdxIfInBounds,dif_pos H,A0q];exact p d.nodup
  ·have:(f.eraseIdxIfInBounds q).size<=f.size:=by unfold Array.eraseIdxIfInBounds;split<;>simp
   have:=d.size;omega
end
theorem w8(b c:Int): ∀m:List (Int×J0),La c (gT b m)=if b=c then none else La c m
 | []=>by simp[La,gT]
 |p::m=>by
  have e:=w8 b c m;unfold gT at e ⊢;rw[AW,GZ];by_cases d:p.1=b
  ·rw[if_neg (by simp[d]),e];by_cases a:b=c
   ·rw[if_pos a,if_pos a]
   ·rw[if_neg a,if_neg a,if_neg (λf=>a (d.symm.trans f))]
  ·rw[if_pos (by simp[d]),GZ,e];by_cases a:p.1=c
   ·rw[if_pos a,if_pos a,if_neg (λf=>d (a.trans f.symm))]
   ·rw[if_neg a,if_neg a]
theorem APO {a:Int}{m:List (Int×J0)}:(gT a m).length<=m.length:=Se _ _
theorem Xf {k:Int}{v:J0}: ∀ {m:List (Int×J0)},(TG k v m).length<=m.length+1
 | []=>by simp[TG]
 |p::m=>by
  unfold TG;split
  ·simp
  ·have:=Xf (k:=k) (v:=v) (m:=m);simp only[A6];omega
section
variable {P : Q1} {kd : IntKind}
theorem w9 {i:ak}{t O Q:Q7}{z:J0}(R:P.underlying t=some (.map O Q))(A:P.underlying O=some (.int kd))(Y:(zeroValue Q).calc P=some z){f:aa}{b:Nat}{m:List (Int×J0)}{g:Int}{v:J0}{K:aa->Prop}
  (M:Su kd f b m) (al:m.length<maxLen) (S: ∀B,Su kd B b (TG g v m)->Mod (λc=>c=b) f B->B.size=f.size->K B):
  BB i P (Instr.mapEntry t (.map (some b)) (.int kd g)) f λw n=> ∃x u:J0,w=J1 #[x,u]/\ ∃st:Int,u=J6 J9 st/\(Zz i P (Instr.entryStore t (.map (some b)) (J6 J9 st) v) n λZ=>K Z):=by
 intro y;obtain⟨e,d,E,h⟩:=M;have T:=Af E;have U:=MapKept.run_getObj_map (P:=P) (w:=i.at f y) (r:=b) E;have V: ∀k,(setObj b k).run P (i.at f y)= .ok () (i.at (f.setIfInBounds b k) y):=λk=>MapKept.run_setObj_map (P:=P) (w:=i.at f y) k E
 have am:=h.len;obtain⟨ab,W,_⟩:=h.stamped;rcases OQ g v e.toList m 0 h.same with⟨F,ac,p,_,ad⟩|⟨j,u,F,ac,⟨q,p,C⟩,ae,_⟩
 ·refine⟨J1 #[z,goInt d],f.setIfInBounds b (.map (e.push ⟨.int kd g,z,d⟩) (d+1)),y,?_,z,goInt d,rfl,(d:Int),rfl,λo=>?_⟩
  ·simp[Instr.mapEntry,A9 R,U,F8 A,Instr.findKey,A9 A,F,Result.andThen,JI Y,V]
  have s:(f.setIfInBounds b (.map (e.push ⟨.int kd g,z,d⟩) (d+1)))[b]? =some (.map (e.push ⟨.int kd g,z,d⟩) (d+1)):=CQ T;have G:Mod (λc=>c=b) f (f.setIfInBounds b (.map (e.push ⟨.int kd g,z,d⟩) (d+1))):=Mod.setObj rfl;have af:(f.setIfInBounds b (.map (e.push ⟨.int kd g,z,d⟩) (d+1))).size=f.size:=by simp
  generalize f.setIfInBounds b (.map (e.push ⟨.int kd g,z,d⟩) (d+1))=n at*
  have H:=Af s;have I:=MapKept.run_getObj_map (P:=P) (w:=i.at n o) (r:=b) s;have J: ∀k,(setObj b k).run P (i.at n o)= .ok () (i.at (n.setIfInBounds b k) o):=λk=>MapKept.run_setObj_map (P:=P) (w:=i.at n o) k s
  have L:(e.push ⟨.int kd g,z,d⟩).findIdx? (λh=>((h.born:Nat):Int)==((d:Nat):Int))=some e.size:=by
   rw[WideElems.findIdx_arr];exact WideElems.findIdx_born (l:=(e.push ⟨.int kd g,z,d⟩).toList) (j:=e.size) (e0:=⟨.int kd g,z,d⟩) (by
    simp only[Sf,Cd,C2,Sh];refine List.nodup_append.2 ⟨W,by simp,λa ag c ah an=>?_⟩;simp only[Sp] at ah;obtain⟨x,D,rfl⟩:=List.mem_map.1 ag;have:=ab x D;omega) (by simp)
  have N:(e.push ⟨.int kd g,z,d⟩).modify e.size (λh=> {h with val:=v})=e.push ⟨.int kd g,v,d⟩:=by apply NX;rw[Hk,Sf,Sf,<-DQ,WideElems.modify_last]
  refine⟨n.setIfInBounds b (.map (e.push ⟨.int kd g,v,d⟩) (d+1)),o,?_,S _ ⟨_,_,CQ H,?_,MapKept.stamped_push h.stamped ad,by simp;omega⟩ (G.trans (Mod.setObj rfl)) (by simp;omega)⟩
  ·simp[Instr.entryStore,I,asInt,asIntOf,goInt,L,N,J,Result.andThen]
  ·rw[p];simp[h.same]
 ·have X:e[j]? =some q:=by simpa using p
  have ai:e.modify j (λh=> {h with key:= .int kd g})=e:=by
   apply NX;rw[Hk,ChangeMaps.modify_eq_set _ _ _ _ p];have:({q with key:= .int kd g}:MapEntry)=q:=by rw[<- C]
   rw[this];exact WideElems.set_self _ _ _ p
  have aj: ∀w,(Instr.keyThatStays (.int kd g) (.int kd g)).run P w= .ok (.int kd g) w:=λw=>by
   simp[Instr.keyThatStays,Instr.sameBits]
  refine⟨J1 #[u,goInt q.born],f.setIfInBounds b (.map e d),y,?_,u,goInt q.born,rfl,(q.born:Int),rfl,λo=>?_⟩
  ·simp[Instr.mapEntry,A9 R,U,F8 A,Instr.findKey,A9 A,F,X,C,aj,ai,Result.andThen,V]
  have s:(f.setIfInBounds b (.map e d))[b]? =some (.map e d):=CQ T;have G:Mod (λc=>c=b) f (f.setIfInBounds b (.map e d)):=Mod.setObj rfl;have af:(f.setIfInBounds b (.map e d)).size=f.size:=by simp
  generalize f.setIfInBounds b (.map e d)=n at*
  have H:=Af s;have I:=MapKept.run_getObj_map (P:=P) (w:=i.at n o) (r:=b) s;have J: ∀k,(setObj b k).run P (i.at n o)= .ok () (i.at (n.setIfInBounds b k) o):=λk=>MapKept.run_setObj_map (P:=P) (w:=i.at n o) k s
  have L:e.findIdx? (λh=>((h.born:Nat):Int)==((q.born:Nat):Int))=some j:=by rw[WideElems.findIdx_arr];exact WideElems.findIdx_born W p
  have N:e.modify j (λh=> {h with val:=v})=e.modify j (λh=> {h with key:= .int kd g,val:=v}):=by apply NX;rw[Hk,Hk,ChangeMaps.modify_eq_set _ _ _ _ p,ChangeMaps.modify_eq_set _ _ _ _ p,<-C]
  refine⟨n.setIfInBounds b (.map (e.modify j λh=> {h with key:= .int kd g,val:=v}) d),o,?_,S _ ⟨_,_,CQ H,?_,MapKept.stamped_modify h.stamped _ _ (λ_ _=>rfl) (λx _ D=>?_),by simpa using h.size⟩ (G.trans (Mod.setObj rfl)) (by simp;omega)⟩
  ·simp[Instr.entryStore,I,asInt,asIntOf,goInt,L,N,J,Result.andThen]
  ·rw[Hk];exact ae
  ·rw[X] at D;cases D;exact C.symm
end
end Go.Lf
namespace Go.Lf.G
open Go
def CJ(a:Nat):A2P:=AX [CX 108,CX a]
def Jc(a:Nat)(b:A2P):A2P:=AX (BH a++BG (bl b))
theorem KO(a:Nat):(CJ a).size=2:=rfl
theorem AMT(a:Nat):CJ a≠⟨#[]⟩:=λb=>by have:=congrArg ByteArray.size b;rw[KO] at this;cases this
theorem yV {m a:Nat}(c:m<256)(d:a<256)(h:CJ m=CJ a):m=a:=by have b:=Kc.1 h;simp only[HW,and_true,true_and] at b;have:=congrArg UInt8.toNat b;rwa [Df c,Df d] at this
theorem AKO {a:Nat}{b:A2P}(e:a<=2147483647)(c:Ai b=true):(Jc a b).size<=8192:=by have f:=(FK.1 c).2.1;have g:=AV (n:=a) (by omega);have d:=AV (n:=(bl b).length) (by rw[Av];omega);unfold Jc BG;rw[AP,A1,A1,Av];rw[Av] at d;omega
theorem ANF {a b:Nat}{c d:A2P}(e:a<=2147483647)(f:b<=2147483647)(h:Jc a c=Jc b d):a=b:=(XJ (by omega) (by omega) (Kc.1 h)).1
section
variable {A : ak} {h : aa} {R : A2O}
theorem TE {a:Nat}(b:a<256)(e: ∀c,Ext h c->R (J7 (CJ a)) c):AA A P Hr #[J6 J9 (a:Int)] h R:=by
 refine ADs ?_;unfold YX;refine VT ?_;unfold RJ;refine al.mk λd _ f g j=>?_
 have v1:View Fy d ⟨some ⟨h.size,0,none⟩,1,1⟩ [CX a]:=(Own.lit (E:=Fy) (l:= [CX a]) f (by simp[Fy,Df b,wrap_u8,Ax b]) (by simp[maxLen])).view;refine KS (s:=⟨some ⟨h.size,0,none⟩,1,1⟩) ZJ kq Kj v1 ⟨_,rfl,⟨_,rfl,⟨by rw[AP,max_i64,show(⟨#[108]⟩:A2P).size=1 from rfl];simp,?_⟩⟩⟩;have i:(⟨#[108]⟩:A2P)++AX [CX a]=CJ a:=by rw[show(⟨#[108]⟩:A2P)=AX [CX 108] from rfl,Ae];rfl
 rw[i];exact e d g
theorem oy {a:Nat}{b:A2P}(m:1<=a)(o:a<=2147483647)(c:Ai b=true)(g: ∀d,Ext h d->R (J1 #[J7 (Jc a b),J6 J9 0]) d):AA A P KX #[J6 J9 (a:Int),J7 b] h R:=by
 obtain⟨l,rfl⟩: ∃l,b=AX l:=⟨_,(DL b).symm⟩;have e:=(FK.1 c).2.1;rw[AP] at e;refine AF9 ?_;unfold tP;refine ah.mk λK i=>ae.no (decide_eq_false (by omega)) (ae.no (decide_eq_false (by omega)) (Fb ⟨_,rfl,i _ _ (ae.no (by rw[c];rfl) ?_)⟩))
 rw[Ba (by omega)];have f:=AV (n:=a) (by omega);have p:=AV (n:=l.length) (by omega);refine CR (by omega) λe j=>⟨_,rfl,?_⟩
 refine Qu (l:=l) (by omega) λf k=>⟨_,rfl,⟨?_,?_⟩⟩
 ·rw[AP,AP,max_i64];unfold BG;rw[A1];omega
 ·rw[Ae];have:=g f (j.trans k);unfold Jc at this;rwa [show bl (AX l)=l from Cc l] at this
theorem AMy {r:Nat}{a:A2P}(k:1<=r)(b:r<=2147483647)(d:Ai a=true)(m: ∀e,Ext h e->R (J1 #[J6 J9 (r:Int),J7 a,J6 J9 0]) e):AA A P Pj #[J7 (Jc r a)] h R:=by
 have o:=d;obtain⟨l,rfl⟩: ∃l,a=AX l:=⟨_,(DL a).symm⟩;have p:=(FK.1 d).2.1;rw[AP] at p;have x:=AV (n:=r) (by omega);have y:=AV (n:=l.length) (by omega);have z:(BG l).length<=26:=by unfold BG;rw[A1];omega
 refine ADM ?_;unfold Vz Jc;rw[show bl (AX l)=l from Cc l];refine Kq (l:=BH r++BG l) λB q s=>⟨_,rfl,?_⟩
 refine DX (most:=2147483647) q (by simp only[A1];omega) (by decide) λC f t=>⟨_,rfl,?_⟩
 rw[Ci (by omega) b] at f ⊢;refine IL f (by dsimp only;omega) λu g v=>⟨_,rfl,?_⟩
 have i:=JQ (l:=l) (by omega) [];rw[AN] at i;rw[i] at g ⊢;refine oy k b o λhd j=>⟨_,_,rfl,?_⟩
 refine ah.mk λK w=>ae.no rfl (NZ (r:=⟨[],false⟩) (j.af g λh=>h) ⟨_,rfl,w _ _ (ae.no rfl ?_)⟩)
 exact m hd ((s.then ((t.trans v).ai λc _ u=> .inr (by omega))).trans j)
end
theorem sQ: ∀(k a:Nat),LP (k+1) a=CX (a / 256^k)::LP k a
 |0,a=>by rw[LP,LP];simp[LP]
 |k+1,a=>by
  rw[LP,sQ k (a / 256),F0];show CX (a / 256 / 256^k)::(LP k (a / 256)++ [CX a])=_;rw[Wk,show 256*256^k=256^(k+1) from by rw[F2,Ds]];rfl
theorem sR(m:Nat):(m:Int).fdiv ((2:Int)^(8:Nat))=((m / 256:Nat):Int):=by rw[show((2:Int)^(8:Nat))=256 from by decide,Wr _ (by decide)];omega
section
variable {A : ak} {h : aa} {R : A2O}
theorem Uu {n:Nat}(r: ∀o,Ext h o->R (J7 (AX (LP 8 n))) o):AA A P JZ #[.int .u64 (n:Int)] h R:=by
 refine AEd ?_;unfold Yi;refine vP (E:=Fy) (x0:=0) (v:= .int .u8 0) (n:=8) VA y8 rfl rfl rfl (by omega) (by simp only[maxLen];omega) λt u w D=>?_
 dsimp only;refine Loop.rule (λm x d=> ∃i:Nat,x=(((n / 256^i:Nat):Int),(i:Int),())/\m=8-i/\i<=8/\Mod (λc=>c=h.size) t d/\Own Fy DZ d ⟨some ⟨h.size,0,none⟩,8,8⟩ (List.replicate (8-i) 0++LP i n)) ?_ ⟨0,by simp,rfl,by omega,Mod.refl,by simpa [LP] using u⟩;rintro F m _ d ⟨i,rfl,rfl,G,p,f⟩ y;dsimp only;refine ae.intro (λg=>?_) (λg=>?_)
 ·have k:i<8:=by simp at g;omega
  rw[wrap_i64 (by omega) (by omega),show(7:Int)-(i:Int)=((7-i:Nat):Int) from by omega,sR,AZ (by omega),Wk,<-F2];have ag:(List.replicate (8-i) (0:UInt8)++LP i n)[7-i]? =some 0:=by rw[Fc (by simp;omega),List.getElem?_replicate,if_pos (by omega)]
  refine f.view.idx ag λa z H=>?_
  rw[As,<-add_zero (a.add ((7-i)*1)),wrap_u8];refine Own.store (E:=Fy) (i:=7-i) (j:=0) (x:=0) (x':=CX (n / 256^i)) (v:= .int .u8 ((n / 256^i % 256:Nat):Int)) f ag (by show [Value.int .u8 _]=_;rw[Zd,Df (by omega)];rfl) (by decide) (λI q B J=>?_) a z;refine y (8-(i+1)) _ _ (by omega) ⟨i+1,rfl,rfl,k,p.trans (B.ai λb _ e=>?_),?_⟩
  ·simp[Sl.af] at e;exact e.symm
  ·have C:(List.replicate (8-i) (0:UInt8)++LP i n).set (7-i) (CX (n / 256^i))=List.replicate (8-(i+1)) 0++LP (i+1) n:=by rw[sQ,show 8-i=(7-i)+1 from by omega,List.replicate_succ',A4,HI _ _ (by simp),List.length_replicate,IS,show 8-(i+1)=7-i from by omega];rfl
   rw[C] at q;exact q
 ·have k:i=8:=by simp at g;omega
  subst k;refine KS VA ya yb (s:=⟨some ⟨h.size,0,none⟩,8,8⟩) (l:=LP 8 n) (by simpa using f.view) ⟨_,rfl,?_⟩;exact r d (w.more p λb e=>by subst e;exact A0 _)
theorem sS {wid:A2P}(e:wid.size<=1000000)(b: ∀a,Ext h a->R (J7 (WX wid)) a):AA A P MG #[J7 wid] h R:=by
 refine ABh ?_;unfold WE;have f:=AV (n:=(bl wid).length) (by rw[Av];omega);refine Lp (by omega) λc d=>⟨_,rfl,⟨?_,?_⟩⟩
 ·rw[AP,max_i64];unfold BG;rw[A1,Av] at*
  rw[show(⟨#[104]⟩:A2P).size=1 from rfl];omega
 ·rw[show(⟨#[104]⟩:A2P)=AX [kE] from rfl,Ae];exact b c d
theorem sT {wid:A2P}{id:Nat}(b:wid.size<=1000000)(c:id<18446744073709551616)(d: ∀a,Ext h a->R (J7 (dV wid id)) a):AA A P NU #[J7 wid,J6 J9 (id:Int)] h R:=by
 refine ADx ?_;unfold XX;refine sS b λi e=>⟨_,rfl,?_⟩
 rw[if_neg (by omega),Ba c];have j:=AV (n:=(bl wid).length) (by rw[Av];omega);refine Uu λf g=>⟨_,rfl,⟨⟨by decide,by rw[AP,OL];decide⟩,?_⟩⟩
 rw[show(AX (LP 8 id)).extract (4:Int).toNat (AX (LP 8 id)).size=AX (LP 4 id) from Zh (LP 8 id) 4];refine⟨?_,?_⟩
 ·unfold WX kh BG;rw[AP,AP,OL,max_i64];simp only[A6,A1,Av] at*
  omega
 ·have:=d f (e.trans g);unfold WX;rw[Ae];exact this
theorem mR {wid:A2P}(c:wid.size<=1000000)(a:R (J7 (Kz wid)) h):AA A P GL #[J7 wid] h R:=by
 refine AG8 ?_;unfold tM;refine⟨by rw[max_i64,show(⟨#[119]⟩:A2P).size=1 from rfl];omega,?_⟩;have b:(⟨#[119]⟩:A2P)++wid=Kz wid:=by
  conv=>lhs;rw[<- DL wid]
  rw[show(⟨#[119]⟩:A2P)=AX [119] from rfl,Ae];rfl
 rw[b];exact a
theorem sU {a:A2P}(d:a.size<=1000000)(b:R (J7 (Mt a)) h):AA A P Jv #[J7 a] h R:=by
 refine Zo ?_;unfold R7;refine⟨by rw[max_i64,show(⟨#[114]⟩:A2P).size=1 from rfl];omega,?_⟩;have c:(⟨#[114]⟩:A2P)++a=Mt a:=by
  conv=>lhs;rw[<- DL a]
  rw[show(⟨#[114]⟩:A2P)=AX [114] from rfl,Ae];rfl
 rw[c];exact b
theorem sV {a:Nat}(b:a<256)(e: ∀c,Ext h c->R (J7 (AX [CX a])) c):AA A P K9 #[J6 J9 (a:Int)] h R:=by
 refine VT ?_;unfold RJ;refine al.mk λd _ f g i=>?_
 have v1:View Fy d ⟨some ⟨h.size,0,none⟩,1,1⟩ [CX a]:=(Own.lit (E:=Fy) (l:= [CX a]) f (by
  show [Value.int .u8 (J8 .u8 (a:Int))]= [Value.int .u8 ((CX a).toNat:Int)];rw[wrap_u8,Df b,Ax b]) (by simp[maxLen])).view
 exact KS (s:=⟨some ⟨h.size,0,none⟩,1,1⟩) ZJ kq Kj v1 ⟨_,rfl,e d g⟩
theorem APk {a id:Nat}(c:a<256)(d: ∀b,Ext h b->R (J7 (ZR a id)) b):AA A P Jz #[J6 J9 (a:Int),.int .u64 (id:Int)] h R:=by
 refine Yz ?_;unfold R8;refine YB ?_;unfold Qn;refine sV c λi e=>⟨_,rfl,⟨by rw[AP,max_i64];show((2:Nat):Int)<=9223372036854775807;decide,⟨_,rfl,?_⟩⟩⟩
 rw[show(⟨#[116]⟩:A2P)=AX [116] from rfl,Ae];refine Uu λf g=>⟨_,rfl,⟨by rw[AP,AP,OL,max_i64];show((10:Nat):Int)<=9223372036854775807;decide,?_⟩⟩
 rw[Ae];exact d f (e.trans g)
theorem APf {a id t:Nat}(c:a<256)(d:t<18446744073709551616)(e: ∀b,Ext h b->R (J7 (Zu a t id)) b):AA A P Nr #[J6 J9 (a:Int),J6 J9 (t:Int),.int .u64 (id:Int)] h R:=by
 refine AEE ?_;unfold Xv;refine AB9 ?_;unfold WA;refine sV c λk f=>⟨_,rfl,⟨by rw[AP,max_i64];show((2:Nat):Int)<=9223372036854775807;decide,⟨_,rfl,?_⟩⟩⟩
 rw[show(⟨#[109]⟩:A2P)=AX [109] from rfl,Ae,if_neg (by omega),Ba d];refine Uu λl g=>⟨_,rfl,⟨by rw[AP,AP,OL,max_i64];show((10:Nat):Int)<=9223372036854775807;decide,?_⟩⟩
 rw[Ae];refine Uu λi j=>⟨_,rfl,⟨by rw[AP,AP,A1,OL,max_i64];show((18:Nat):Int)<=9223372036854775807;decide,?_⟩⟩
 rw[Ae];exact e i ((f.trans g).trans j)
theorem sW {m:cO}{st nx:Nat}(f:m.status=(st:Int))(g:m.next=(nx:Int))(s:st<128)(t:nx<=501)(i: ∀d,Ext h d->R (J7 (QL st nx m.kept)) d):AA A P Ey #[m.v] h R:=by
 refine XF ?_;unfold PG;have u:=GR (n:=st) (by omega);have v:=GR (n:=nx) (by omega);refine al.mk λj _ b k w=>ah.mk λK l=>?_
 have key: ∀n:Nat,n=(if m.kept then 1 else 0)->K ((n:Int),()) j:=λn c=>by
  refine l _ _ (AC.mk (AL b rfl) ?_);have x:(BH n).length<=2:=GR (by split at c<;>omega);rw[f,Ba (by omega)];refine CR (by omega) λy e=>⟨_,rfl,?_⟩
  have o:=e.af b (λh=>h);refine AC.mk (AB o rfl) ⟨AB b rfl,?_⟩;rw[g,Ba (by omega)];refine CR (by omega) λz p=>⟨_,rfl,⟨by rw[AP,AP,max_i64];omega,?_⟩⟩
  rw[Ae];refine CR (by split at c<;>omega) λq r=>⟨_,rfl,⟨by rw[AP,AP,A1,max_i64];omega,?_⟩⟩
  rw[Ae,A4];have:=i q (((k.trans e).trans p).trans r);unfold QL at this;rw[<- c] at this;exact this
 refine Ac.mk (AB b rfl) (ae.intro (λa=>?_) (λa=>?_))
 ·have a:m.kept=true:=a;exact key 1 (by rw[a];rfl)
 ·have a:m.kept=false:=a;exact key 0 (by rw[a];rfl)
theorem AKH {st nx:Nat}{a:Bool}(s:st<=4)(O:2<=nx)(t:nx<=501)(u: ∀l,Ext h l->R (J1 #[(⟨(st:Int),(nx:Int),a⟩:cO).v,J6 J9 0]) l):AA A P OW #[J7 (QL st nx a)] h R:=by
 refine AA6 ?_;unfold TF;refine al.mk λv _ m o Q=>?_
 unfold QL;have S:=GR (n:=st) (by omega);have T:=GR (n:=nx) (by omega);have U:(BH (if a then 1 else 0)).length<=2:=GR (by split<;>omega);have w:Bt 1 ⟨BH (if a then 1 else 0),false⟩=((if a then 1 else 0),⟨[],false⟩):=by have:=Ci (n:=if a then 1 else 0) (most:=1) (by split<;>omega) (by split<;>omega) [];rwa [AN] at this
 refine Kq λx p d=>⟨_,rfl,?_⟩
 refine DX (most:=4) p (by simp only[A1];omega) (by decide) λV y e=>⟨_,rfl,?_⟩
 rw[Ci (by omega) s] at*
 refine DX (most:=501) y (by simp only[A1];omega) (by decide) λW z f=>⟨_,rfl,?_⟩
 rw[Ci (by omega) t] at*
 refine DX (most:=1) z (by simp only;omega) (by decide) λB C g=>⟨_,rfl,?_⟩
 rw[w] at*
 refine al.mk λX _ D i Y=>aP.mk D (A0 3) λj q k Z=>?_
 have aa:=Af m;have ab:=d.size;have ac:=e.size;have ad:=f.size;have af:=g.size;have E:j[h.size]? =some (J2 cO.z.c JD (0,0)):=k.af (i.af (g.af (f.af (e.af (d.af m (λh=>h)) (by omega)) (by omega)) (by omega)) (λh=>h)) (by omega);have F:Io j v.size ⟨[],false⟩:=k.af (i.af C (λh=>h)) (by have:=Af p;omega);have G:Ext h j:=by
  have H:Ext h x:=o.trans d;have r:Ext h B:=H.more ((e.trans f).trans g) λc b=>by subst b;exact o.size
  exact(r.trans i).more k λc b=>by subst b;exact r.size
 refine ah.mk λK I=>NZ F ⟨_,rfl,ae.no rfl (AC.mk (AB q rfl) (I _ _ (ae.no (decide_eq_false (by show ¬((nx:Int)<2);omega)) ?_)))⟩
 have J:(((if a then 1 else 0:Nat):Int)==(1:Int))=a:=by cases a<;>rfl
 refine OE.mk ⟨(st:Int),(nx:Int),_⟩ (DU q rfl) (aP.mk E (A0 3) λL M N ag=>OE.mk ⟨(st:Int),(nx:Int),_⟩ (DU M rfl) ?_);rw[J];exact u L (G.more N λc b=>by subst b;exact A0 _)
def BV(wid:A2P)(a:Nat):Nat:=lO wid / 256 % a
theorem Yd {wid:A2P}{a:Nat}(d:wid.size<=1000000)(e:1<=a)(f:a<=16)(b:R (J1 #[J6 J9 (BV wid a:Int),J6 J9 0]) h):AA A P NV #[J7 wid,J6 J9 (a:Int)] h R:=by
 refine AEh ?_;unfold YQ;refine ah.mk λK c=>ae.no (decide_eq_false (by omega)) ?_
 refine c _ _ (ae.no (decide_eq_false (by omega)) (re (by omega) ⟨_,_,rfl,⟨by omega,?_⟩⟩));have g:=(wU wid);rw[sR,wrap_i64 (by omega) (by omega)];exact b
end
def fV(p f:A2P):A2P:=if aQ p f then f else p
theorem ASw(p f b:A2P):aQ b (fV p f)=false↔aQ b p=false/\aQ b f=false:=by
 unfold fV;split
 ·rename_i c;refine⟨λa=>⟨?_,a⟩,λa=>a.2⟩;cases d:aQ b p
  ·rfl
  ·rw[DJ d c] at a;cases a
 ·rename_i c;refine⟨λa=>⟨a,?_⟩,λa=>a.1⟩;exact ZH (by simpa using c) a
def Pz(p:A2P):A2P:=⟨((eK p.data.toList).getD []).toArray⟩
theorem ATC: ∀ {p c:List UInt8},eK p=some c->c≠ []
 | [],c,b=>by cases b
 |a::p,c,b=>by
  unfold eK at b;split at b
  ·obtain rfl:=Bs b;simp
  ·split at b
   ·obtain rfl:=Bs b;simp
   ·cases b
theorem AO3(p d:A2P):(decide (Pz p=⟨#[]⟩)||aQ d (Pz p))=true↔ ∀a,eK p.data.toList=some a->d.data.toList<a:=by
 unfold Pz;cases e:eK p.data.toList with
 |none=>simp
 |some a=>
  have f:=ATC e;have c:decide ((⟨(Option.getD (some a) []).toArray⟩:A2P)=⟨#[]⟩)=false:=decide_eq_false λc=>f (by
   have:=congrArg (λb:A2P=>b.data.toList) c;simpa using this)
  rw[c,SZ,Yk];simp
theorem AQL(p f a:A2P):jE (fV p f) (Pz p) a=(gS p a&& !aQ a f):=by
 rw[Ek];unfold jE;rw[A3,A3,AO3,CA,ASw,Xg,<-w6,CA];rw[show(aQ a p=false↔ ¬a.data.toList<p.data.toList) from by rw[Yk];simp];constructor
 ·rintro⟨⟨b,c⟩,d⟩;exact⟨⟨b,d⟩,c⟩
 ·rintro⟨⟨b,d⟩,c⟩;exact⟨⟨b,c⟩,d⟩
def kD(m:List Pr)(p f:A2P)(a:Int):List Pr:=(m.filter λx=>gS p x.key&& !aQ x.key f).take a.toNat
theorem AOQ(m:List Pr)(p f:A2P)(a:Int):mf m (fV p f) (Pz p) a=kD m p f a:=by unfold mf Qm kD;rw[It λx _=>AQL p f x.key]
def CK(m:List Pr)(c:Pr):Bool:=if c.gone then !(JV m c.key).2 else(JV m c.key).2&&decide ((JV m c.key).1=c.val)
open M (Sorted Ag Cs BC Ah Aw Be Am bH BK aV BU)
structure Fz (B:cJ) (g h:aa) (s:Nat) (q:Hp) (k:Nat->Nat) (st:Db) (m:Bx) (D:Bg) (aJ c n:Nat):Prop where
 db:Bn B g h q k st m D aJ c
 cell:h[s]? =some (J2 #[Az q.d,J6 J9 (n:Int)] uw (0,0))
 kz:k s=0
 base:g.size<=s
 fuel:m.fuel= -1
 ct:n<=1000000
def dE(m a l:List Pr):Int:=if a.length>64 then 2 else if Eb l≠0 then Eb l else if a.all (CK m) then 0 else 100
theorem AHn {m:List Pr}{c:Pr}:CK m c= !(((JV m c.key).2==c.gone)||((JV m c.key).2&& !bM (JV m c.key).1 c.val)):=by unfold CK;rw[CP];cases c.gone<;>cases (JV m c.key).2<;>simp
section
variable {A : ak} {B : cJ} {g h : aa} {s : Nat} {q : Hp} {k : Nat -> Nat} {st : Db} {m : Bx} {D : Bg} {aJ c n : Nat} {R : A2O}
theorem Fz.on {b:aa}(a:Fz B g h s q k st m D aJ c n)(x:Ext h b):Fz B g b s q k st m D aJ c n:=⟨a.db.on x,Aj x a.cell,a.kz,a.base,a.fuel,a.ct⟩
theorem Fz.beside {d:aa}{b:Nat->Prop}(a:Fz B g h s q k st m D aJ c n)(x:Mod b h d)(hX: ∀c,b c->k c=0/\g.size<=c)(e: ¬b s):Fz B g d s q k st m D aJ c n:=⟨a.db.beside x hX,x.af a.cell e,a.kz,a.base,a.fuel,a.ct⟩
theorem Fz.put {d b:Nat}(a:Fz B g h s q k st m D aJ c n)(e:aJ<=d)(f:c<=b)(i:b<=B.C):Fz B g h s q k st m D d b n:=⟨a.db.put e f i,a.cell,a.kz,a.base,a.fuel,a.ct⟩
theorem Fz.lt(a:Fz B g h s q k st m D aJ c n):s<h.size:=Af a.cell
theorem Fz.step {b:aa}{d:Hp}{k':Nat->Nat}{f:Db}{e:Bx}{i:Bg}{j l:Nat}(a:Fz B g h s q k st m D aJ c n)(p:Bn B g b d k' f e i j l)(hd:d.d=q.d)(r:e.fuel= -1)(t:Mod (λc=>k c≠0) h b)(u: ∀c,k' c≠0->k c≠0\/h.size<=c):Fz B g b s d k' f e i j l n:=by
 refine⟨p,by rw[hd];exact t.af a.cell (by rw[a.kz];simp),Decidable.byContradiction λv=>?_,a.base,r,a.ct⟩;have:=a.lt;rcases u s v with o|o
 ·exact o a.kz
 ·omega
theorem rn {key:A2P}(b:Fz B g h s q k st m D aJ c n)(d:key.size<=1099511627776)(e: ∀a,Ext h a->R (J1 #[J7 (JV (CY st) key).1,J3 (JV (CY st) key).2,J6 J9 0]) a):AA A P FI #[Az s,J7 key] h R:=by refine ZC ?_;unfold SB;refine ae.no rfl (aF (Ab.mk (AL b.cell rfl) ?_));obtain⟨i,f,j,l⟩:=b.db.cP;exact zA b.db.mem f d λa x=>⟨_,_,_,rfl,e a x⟩
theorem AOI {p:A2P}(Q:p.size<=1099511627776)(t: ∀u,Ext h u->R (J7 (Pz p)) u):AA A P UZ #[J7 p] h R:=by
 refine AGS ?_;unfold tT;have y:J8 J9 ((p.size:Int)-(1:Int))=(p.size:Int)-1:=wrap_i64 (by omega) (by omega);rw[y];have S:p.data.toList.length=p.size:=by rw[DQ];rfl
 refine Loop.rule (λv x f=> ∃b:Nat,x=((b:Int)-1,())/\v=b/\f=h/\b<=p.size/\ ∀x∈p.data.toList.drop b,¬x<255) ?_ ⟨p.size,rfl,rfl,rfl,A0 _,λx e=>by rw[HA (by omega)] at e;cases e⟩;rintro K v _ f ⟨b,rfl,T,rfl,U,o⟩ z;dsimp only;refine ae.intro (λr=>?_) (λr=>?_)
 ·have V:1<=b:=by have:=of_decide_eq_true r;omega
  obtain⟨i,rfl⟩: ∃i,b=i+1:=⟨b-1,by omega⟩;have C:((i+1:Nat):Int)-1=(i:Int):=by omega
  rw[C];refine⟨by omega,?_⟩;have ag:p.data.toList[i]? =some (p.data.toList[i]'(by omega)):=A2 _;generalize F:p.data.toList[i]'(by omega)=a at*
  have G:dk p (i:Int)=(a.toNat:Int):=by
   unfold dk;have:p[i]? =some a:=by rw[show p[i]? =p.data[i]? from rfl,<-LS];exact ag
   rw[show((i:Int).toNat)=i from rfl,this];rfl
  rw[G];have H:p.data.toList.drop i=a::p.data.toList.drop (i+1):=by rw[Fk (by omega),F]
  refine ae.intro (λd=>?_) (λd=>?_)
  ·have d:a<255:=by rw[UInt8.lt_iff_toNat_lt];have:=of_decide_eq_true d;show a.toNat<255;omega
   have W:a.toNat<255:=UInt8.lt_iff_toNat_lt.1 d;refine⟨by omega,⟨by omega,?_⟩⟩;have I:J8 .u8 ((a.toNat:Int)+(1:Int))=((a+1).toNat:Int):=by
    rw[show(a.toNat:Int)+1=((a.toNat+1:Nat):Int) from by omega,wrap_u8];have j:(a+1).toNat=a.toNat+1:=by rw[UInt8.toNat_add];show(a.toNat+1) % 256=_;omega
    rw[j];omega
   rw[I];refine al.mk λw _ J L X=>?_
   have v2:View Fy w ⟨some ⟨f.size,0,none⟩,1,1⟩ [a+1]:=(Own.lit (E:=Fy) (l:= [a+1]) J rfl (by simp[maxLen])).view;refine KS (s:=⟨some ⟨f.size,0,none⟩,1,1⟩) ZJ kq Kj v2 ⟨_,rfl,?_⟩;have M:(AX [a+1]).size=1:=AP _;have Y:(p.extract 0 i).size<=p.size:=by rw[RR];omega
   refine⟨by rw[show(i:Int).toNat=i from rfl,M];show(((p.extract 0 i).size+1:Nat):Int)<=9223372036854775807;omega,?_⟩;have:=t w L;have N:Pz p=p.extract 0 i++AX [a+1]:=by unfold Pz;rw[w7 ag d o];apply SR;rw[Kp,SU];apply NX;rw[N4,SW];show p.data.toList.take i++ [a+1]=_++(AX [a+1]).data.toList;rw[show(AX [a+1]).data.toList= [a+1] from Cc _];simp
   rw[N] at this;exact this
  ·have d: ¬a<255:=λh=>by
    have:=UInt8.lt_iff_toNat_lt.1 h;have j:(255:UInt8).toNat=255:=rfl;have:=of_decide_eq_false d;omega
   rw[show J8 J9 ((i:Int)-(1:Int))=(i:Int)-1 from wrap_i64 (by omega) (by omega)];refine z i _ _ (by omega) ⟨i,rfl,rfl,rfl,by omega,λx e=>?_⟩;rw[H] at e;rcases List.mem_cons.1 e with rfl|e
   ·exact d
   ·exact o x e
 ·have O:b=0:=by have:=of_decide_eq_false r;omega
  subst O;have:=t f Mod.refl;have j:Pz p=⟨#[]⟩:=by unfold Pz;rw[qD (by simpa using o)];rfl
  rw[j] at this;exact this
theorem AOM {p f:A2P}{e:Int}(b:Fz B g h s q k st m D aJ c n)(l:p.size<=1099511627776)(o: ∀sl d,Own BR AU d sl (kD (CY st) p f e)->(∀ c,sl.af=some c->h.size<=c)->Ext h d->R (J1 #[J4 sl.p sl.len sl.cap,J6 J9 0]) d):AA A P JU #[Az s,J7 p,J7 f,J6 J9 e] h R:=by
 refine YG ?_;unfold QW;refine ae.no rfl (aF (Ab.mk (AL b.cell rfl) ?_));refine AOI l λC a=>⟨_,rfl,⟨a.ag (AL b.cell rfl),?_⟩⟩
 have i:=b.on a;obtain⟨r,t,u,E⟩:=i.db.cP;have v:(if(!aQ p f)=true then p else f)=fV p f:=by unfold fV;cases aQ p f<;>rfl
 rw[v];refine AQa i.db.mem r t u λsl w j x y=>⟨sl,_,rfl,?_⟩
 rw[AOQ] at j;exact o sl w j (λc z=>by have:=x c z;have:=a.size;omega) (a.trans y)
theorem yU {conds sl:Sl}{d l:List Pr}(aC:cp g)(r:Fz B g h s q k st m D aJ c n)(hA:aJ+3<=B.A)(aD:c+64<=B.C)(aE:n+1<=1000000)(vc:View BR h conds d)(v:View BR h sl l)(aG:l≠ []-> ∀b,sl.af=some b->b<h.size/\k b=0)(aH: ∀x∈d,x.key.size<=1099511627776)
  (z:dE (CY st) d l≠0-> ∀t,Ext h t->R (J6 J9 (dE (CY st) d l)) t)
  (H:dE (CY st) d l=0-> ∀t I U V aI aK,I.d=q.d->I.b=q.b->Fz B g t s I U V aI aK (aJ+3) (c+64) (n+1)->CY V=dc (CY st) l->Mod (λc=>k c≠0\/h.size<=c\/c=s) h t->(∀ c,U c≠0->k c≠0\/h.size<=c)->R (J6 J9 0) t):
  AA A P Ff #[Az s,J4 conds.p conds.len conds.cap,J4 sl.p sl.len sl.cap] h R:=by
 refine ABN ?_;unfold Tv;refine ae.no rfl ?_;rw[vc.len];refine ae.intro (λf=>?_) (λf=>?_)
 ·have C:d.length>64:=by have:=of_decide_eq_true f;omega
  have j:dE (CY st) d l=2:=by unfold dE;rw[if_pos C]
  have:=z (by rw[j];decide) h Mod.refl;rwa [j] at this
 have C: ¬d.length>64:=by have:=of_decide_eq_false f;omega
 refine yH (s:=sl) v λo W=>⟨_,rfl,?_⟩
 refine ae.intro (λJ=>?_) (λJ=>?_)
 ·have u:Eb l≠0:=by simpa using J
  have j:dE (CY st) d l=Eb l:=by unfold dE;rw[if_neg C,if_pos u]
  have:=z (by rw[j];exact u) o W;rwa [j] at this
 have u:Eb l=0:=by simpa using J
 have j:dE (CY st) d l=if d.all (CK (CY st)) then 0 else 100:=by unfold dE;rw[if_neg C,if_neg (by rw[u];simp)]
 rw[j] at z H;refine Loop.rule (λX x p=> ∃i:Nat,x=((i:Int),())/\X=d.length-i/\i<=d.length/\Ext h p/\(d.take i).all (CK (CY st))=true) ?_ ⟨0,rfl,rfl,AG _,W,rfl⟩;rintro K X _ p ⟨i,rfl,rfl,aW,w,L⟩ aL;have E:=r.on w;dsimp only;refine ae.intro (λf=>?_) (λf=>?_)
 ·have y:i<d.length:=by have:=of_decide_eq_true f;omega
  have ag:d[i]? =some d[i]:=A2 y;have aM:=aH d[i] (AT y);have aN:d[i]∈d:=AT y;have aP:d.take (i+1)=d.take i++ [d[i]]:=by rw[AD,ag];rfl
  generalize d[i]=x at*
  rw[<- vc.len];refine(vc.ext w).idx ag λa _ M=>?_
  obtain⟨M,aQ,aR⟩:=M.pair;refine AJ.mk M (AJ.mk aQ (Ac.mk aR (al.pair λb N aX Y Z aY=>?_)));have O:=E.on Z;refine aF (Ab.mk (AL O.cell rfl) (AJ.mk (AL Y rfl) ?_));obtain⟨aZ,aS,a0,a1⟩:=O.db.cP;refine zA O.db.mem aS aM λQ aa=>⟨_,_,_,rfl,ae.no rfl ?_⟩
  have ac:=Aj aa Y;have ad:=(w.trans Z).trans aa;refine ah.mk λaf ai=>?_
  have p:=AHn (m:=CY st) (c:=x);have aj:CK (CY st) x=false->af (true,()) Q:=λS=>ai _ _ (ae.yes rfl (by
   have T: ¬d.all (CK (CY st))=true:=λh=>by
    have:=List.all_eq_true.1 h x aN;rw[S] at this;cases this
   rw[if_neg T] at z;exact z (by decide) Q ad))
  have aO:CK (CY st) x=true->af (false,()) Q:=λS=>ai _ _ (ae.no rfl (by
   rw[AZ (by omega)];refine aL (d.length-(i+1)) _ _ (by omega) ⟨i+1,rfl,rfl,y,ad,?_⟩;rw[aP,T4,L];simp[S]))
  refine Ac.mk (AB ac rfl) (ae.intro (λo=>?_) (λo=>?_))
  ·exact aj (by rw[p,o];rfl)
  ·refine ae.intro (λF=>?_) (λF=>?_)
   ·refine AJ.mk (AB ac rfl) ?_;cases N:bM (JV (CY st) x.key).1 x.val with
    |true=>exact aO (by rw[p,o,F,N];rfl)
    |false=>exact aj (by rw[p,o,F,N];rfl)
   ·exact aO (by rw[p,o,F];rfl)
 ·have y:i=d.length:=by have:=of_decide_eq_false f;omega
  subst y;rw[C5] at L;rw[if_pos L] at H;have a2:=w.size;refine aF (Ab.mk (AL E.cell rfl) ?_);refine AJC (B:=B) (s:=sl) aC E.db r.fuel hA (v.ext w) (λT b ak=>by have:=aG T b ak;exact⟨by omega,this.2⟩) aD λa3 am an ao ap aq ar aT au av aw a4 ax ay=>⟨_,rfl,?_⟩
  rw[if_pos u] at aw;have G:=E.step au ar av ax ay;rw[u];refine ae.no rfl (aF (AC.mk (AB G.cell rfl) (aF ?_)));rw[AZ (by have:=r.ct;omega)];simp only[BZ,AK];refine ab.mk G.cell (by simp) λaz aU aA a5=>?_
  have aV:Fz B g az s am an ao ap aq (aJ+3) (c+64) (n+1):=⟨au.beside aA (λc e=>by subst e;exact⟨G.kz,r.base⟩),by simpa using aU,G.kz,r.base,av,aE⟩;have ak:=r.base;refine H rfl az am an ao ap aq ar aT aV aw (((w.ai λc _ e=>e.elim).trans (ax.ai λc _ e=> .inl e)).trans (aA.ai λc _ e=> .inr (.inr e))) λc e=>?_
  rcases ay c e with h|h
  ·exact .inl h
  ·exact .inr (by omega)
end
section
variable {A : ak} {h : aa} {R : A2O}
end
section
variable {A : ak} {B : cJ} {g h : aa} {m : Bx} {D : Bg} {aJ c : Nat} {R : A2O}
theorem AMr {b:Nat}{Sb:Nat->Prop}(o:cp g)(p:Cf h b Sb m)(q:Ext g h)(r: ∀c,Sb c->g.size<=c)(hd:m.down=false)(t:m.fuel= -1)(u: ∀a,ff m (aC nl a)=none)(v: ∀a,ff m (aC nn a)=none)(w: ∀x,ff m x≠none->(bl x).head? ≠some 116)(hA:1<=B.A)(y:bd m.files<=B.W0)
  (z: ∀d s i j k C E,i.b=b->Fz B g d s i j k C E 1 0 0->CY k= []->Mod (λc=>Sb c\/h.size<=c) h d->(∀ c,j c≠0->Sb c\/h.size<=c)->h.size<=s->R (J1 #[Az s,J6 J9 0]) d):AA A P Rz #[Az b] h R:=by
 refine AID ?_;unfold tH;refine AOY (B:=B) o p q r hd t u v w hA y λF G H I J K L e M N _ l O=>⟨_,_,rfl,ae.no rfl (al.mk λQ _ S n U=>?_)⟩
 have T:=e.mem.ext.size;exact z Q F.size G H I J K L ⟨e.on n,S,e.free (A0 _),T,M,AG _⟩ N ((l.ai λc _ f=> .inl f).trans (n.ai λc _ f=>f.elim)) O l.size
end
structure ATh where
 kind:Int
 cs:Sl
 bs:Sl
 key:A2P
 aU:A2P
 most:Int
 all:Bool
structure ATs (N:Nat) (h:aa) (x:ATh) (cl l:List Pr):Prop where
 cs:View BR h x.cs cl
 bs:View BR h x.bs l
 keys: ∀c∈cl,c.key.size<=N
 key:x.key.size<=N
section
variable {A : ak} {h : aa} {R : A2O}
end
theorem ZN {f:Pr->Bool}{m:List Pr}{i:Nat}{x:Pr}(a:m[i]? =some x)(b:f x=true):(m.filter f)[((m.take i).filter f).length]? =some x:=by
 obtain⟨c,rfl⟩:=List.getElem?_eq_some_iff.1 a;have d:m=m.take i++m[i]::m.drop (i+1):=by rw[<- Fk c,DG]
 have e:m.filter f=(m.take i).filter f++m[i]::(m.drop (i+1)).filter f:=by
  generalize m[i]=g at*
  conv=>lhs;rw[d]
  rw[P0,AW,if_pos b]
 rw[e,DE (A0 _),IS];rfl
theorem lW:P.underlying FV=some (.map BN BN):=by kernel_rfl
theorem lX:P.underlying EU=some (.map BN Yh):=by kernel_rfl
theorem gV:P.underlying BN=some (.int J9):=by kernel_rfl
theorem oz:(zeroValue BN).calc P=some (J6 J9 0):=by kernel_rfl
theorem oA:(zeroValue Yh).calc P=some (.int .u64 0):=by kernel_rfl
def dC(f:Nat->Nat)(a b:Nat):Nat->Nat:=λm=>if m=a then b else f m
structure Dp (g h:aa) (k:Nat->Nat) (s p bh bu:Nat) (name:A2P) (aI:Nat) (f u:Nat->Nat) (N:Nat):Prop where
 cell:h[p]? =some (J2 #[Az s,J7 name,J6 J9 (aI:Int),.map (some bh),.map (some bu)] RZ (0,0))
 held: ∃hm,Su J9 h bh hm/\hm.length<=N/\ ∀n:Nat,(La n hm).getD (J6 J9 0)=J6 J9 (f n:Int)
 used: ∃um,Su J9 h bu um/\um.length<=N/\ ∀n:Nat,(La n um).getD (.int .u64 0)= .int .u64 (u n:Int)
 bN: ∀c,c=p\/c=bh\/c=bu->k c=0/\g.size<=c/\c≠s
 ne:bh≠bu
 named:Ai name=true
 sh:1<=aI/\aI<=16
 ct:N<=1000000
def Ew(d:List Pr)(e a:Nat)(b:A2P):Prop:=(a=0/\b=⟨#[]⟩/\(JV d (CJ e)).2=false)\/(1<=a/\a<=2147483647/\Ai b=true/\JV d (CJ e)=(Jc a b,true))
section
variable {A : ak} {B : cJ} {g h : aa} {s p bh bu : Nat} {q : Hp} {k : Nat -> Nat} {st : Db} {m : Bx} {D : Bg} {aJ c nn N : Nat} {name : A2P} {aI : Nat} {f u : Nat -> Nat} {R : A2O}
theorem Dp.lt(a:Dp g h k s p bh bu name aI f u N): ∀c,c=p\/c=bh\/c=bu->c<h.size:=by
 obtain⟨e,b,_⟩:=a.held;obtain⟨i,d,_⟩:=a.used;rintro c (rfl|rfl|rfl)
 ·exact Af a.cell
 ·exact b.lt
 ·exact d.lt
theorem Dp.mE(a:Dp g h k s p bh bu name aI f u N):p≠bh/\p≠bu:=by
 obtain⟨i,⟨_,_,b,_⟩,_⟩:=a.held;obtain⟨j,⟨_,_,d,_⟩,_⟩:=a.used;have e:=a.cell;constructor
 ·rintro rfl;rw[e] at b;cases b
 ·rintro rfl;rw[e] at d;cases d
theorem Dp.beside {d:aa}{e:Nat->Nat}{i:Nat->Prop}(a:Dp g h k s p bh bu name aI f u N)(b:Mod i h d)(hX: ∀c,c=p\/c=bh\/c=bu-> ¬i c)(l: ∀c,c=p\/c=bh\/c=bu->e c=0):Dp g d e s p bh bu name aI f u N:=by obtain⟨n,o,r,t⟩:=a.held;obtain⟨v,w,x,y⟩:=a.used;exact⟨b.af a.cell (hX p (.inl rfl)),⟨n,o.mod b (hX bh (.inr (.inl rfl))),r,t⟩,⟨v,w.mod b (hX bu (.inr (.inr rfl))),x,y⟩,λc j=>⟨l c j,(a.bN c j).2⟩,a.ne,a.named,a.sh,a.ct⟩
theorem Dp.on {a:aa}(b:Dp g h k s p bh bu name aI f u N)(x:Ext h a):Dp g a k s p bh bu name aI f u N:=b.beside x (λ_ _ h=>h) λc d=>(b.bN c d).1
theorem Dp.more {b:Nat}(a:Dp g h k s p bh bu name aI f u N)(r:N<=b)(d:b<=1000000):Dp g h k s p bh bu name aI f u b:=by obtain⟨e,i,t,j⟩:=a.held;obtain⟨l,n,v,o⟩:=a.used;exact⟨a.cell,⟨e,i,by omega,j⟩,⟨l,n,by omega,o⟩,a.bN,a.ne,a.named,a.sh,d⟩
theorem Dp.step {e:aa}{k':Nat->Nat}{i:Nat->Prop}(b:Dp g h k s p bh bu name aI f u N)(j:Mod i h e)(l: ∀c,i c->k c≠0\/h.size<=c\/c=s\/ ¬(c=p\/c=bh\/c=bu))(n: ∀c,k' c≠0->k c≠0\/h.size<=c):Dp g e k' s p bh bu name aI f u N:=by
 refine b.beside j (λc a o=>?_) λc a=>Decidable.byContradiction λr=>?_
 ·have d:=b.bN c a;have t:=b.lt c a;rcases l c o with h|h|h|h
  ·exact h d.1
  ·omega
  ·exact d.2.2 h
  ·exact h a
 ·have d:=b.bN c a;have t:=b.lt c a;rcases n c r with h|h
  ·exact h d.1
  ·omega
theorem AQ1 {s:Nat}(b:Fz B g h s q k st m D aJ c nn)(j:Ai name=true)(o:1<=aI/\aI<=16)
  (r: ∀a p bh bu,Dp g a k s p bh bu name aI (λ_=>0) (λ_=>0) 0->(∀ c,c=p\/c=bh\/c=bu->h.size<=c/\c<a.size)->Ext h a->R (J1 #[Az p,J6 J9 0]) a):AA A P PY #[Az s,J7 name,J6 J9 (aI:Int)] h R:=by
 refine AF6 ?_;unfold tJ;refine ah.mk λK t=>ae.no rfl (Fb ⟨_,rfl,ae.no (by rw[j];rfl) (ae.no (decide_eq_false (by omega)) (t _ _ (ae.no (decide_eq_false (by omega)) ?_)))⟩)
 refine al.mk λl _ v w H=>al.mk λx _ y n I=>al.mk λd _ z e J=>?_
 have C:=(w.trans n).trans e;have L:=b.db.mem.ext.size;have M:=b.lt;have E:d[h.size]? =some (.map #[] 0):=e.af (n.af v (λh=>h)) (λh=>h);have F:d[l.size]? =some (.map #[] 0):=e.af y (λh=>h);refine r d x.size h.size l.size ⟨z,⟨[],Su.empty E,A0 _,λG=>rfl⟩,⟨[],Su.empty F,A0 _,λG=>rfl⟩,λc i=>?_,by omega,j,o,by omega⟩ (λc i=>?_) C
 ·have:h.size<=c:=by rcases i with rfl|rfl|rfl<;>omega
  exact⟨b.db.free this,by omega,by omega⟩
 ·rcases i with rfl|rfl|rfl<;>omega
theorem ZY {a:Nat}(b:Dp g h k s p bh bu name aI f u N)(d:R (J6 J9 (f a:Int)) h):AA A P ED #[Az p,J6 J9 (a:Int)] h R:=by obtain⟨j,e,l,i⟩:=b.held;refine VK ?_;unfold OT;exact ae.no rfl (aF (FP.mk (AB b.cell rfl) (L8 lW gV oz e ⟨_,i a,d⟩)))
theorem APF {b:List (Int×J0)}{a d:Nat}(h: ∀m:Nat,(La m b).getD (J6 J9 0)=J6 J9 (f m:Int))(m:Nat):(La m (TG a (J6 J9 (d:Int)) b)).getD (J6 J9 0)=J6 J9 (dC f a d m:Int):=by
 rw[Za];unfold dC;by_cases e:m=a
 ·subst e;rw[if_pos rfl,if_pos rfl];rfl
 ·rw[if_neg (by omega),if_neg e];exact h m
theorem yW {b:List (Int×J0)}{a r:Nat}(h: ∀m:Nat,(La m b).getD (.int .u64 0)= .int .u64 (f m:Int))(m:Nat):(La m (TG a (.int .u64 (r:Int)) b)).getD (.int .u64 0)= .int .u64 (dC f a r m:Int):=by
 rw[Za];unfold dC;by_cases d:m=a
 ·subst d;rw[if_pos rfl,if_pos rfl];rfl
 ·rw[if_neg (by omega),if_neg d];exact h m
theorem Dp.strike {d:Nat}{j:Q7}{K:A2O}(a:Dp g h k s p bh bu name aI f u N)(l: ∀b,Dp g b k s p bh bu name aI (dC f d 0) u N->Mod (λc=>c=bh) h b->K (J1 #[]) b):BB A P (Builtin.delete_ #[FV,BN] j #[.map (some bh),J6 J9 (d:Int)]) h K:=by
 obtain⟨z,n,o,r⟩:=a.held;obtain⟨t,v,w,x⟩:=a.used;refine AJt lW gV n λb y e C=>l b ⟨e.af a.cell a.mE.1,⟨_,y,A5 APO o,λm=>?_⟩,⟨t,v.mod e a.ne.symm,w,x⟩,a.bN,a.ne,a.named,a.sh,a.ct⟩ e
 rw[w8];unfold dC;by_cases i:m=d
 ·subst i;rw[if_pos rfl,if_pos rfl];rfl
 ·rw[if_neg (by omega),if_neg i];exact r m
theorem yX {b j:Nat}{l:A2P}(w:Fz B g h s q k st m D aJ c nn)(a:Dp g h k s p bh bu name aI f u N)(E:b<aI)(L:Ew (CY st) b j l)(n: ∀o,Ext h o->R (J1 #[J6 J9 (j:Int),J7 l,J6 J9 0]) o):AA A P Ij #[Az p,J6 J9 (b:Int)] h R:=by
 have F:=a.sh;refine WS ?_;unfold PM;refine ah.mk λK x=>ae.no rfl (ae.no (decide_eq_false (by omega)) (aF (AC.mk (AB a.cell rfl) (x _ _ (ae.no (decide_eq_false (by omega)) ?_)))))
 refine aF (Ab.mk (AL a.cell rfl) (TE (by omega) λr d=>⟨_,rfl,⟨AL (Aj d a.cell) rfl,?_⟩⟩));refine rn (w.on d) (by rw[KO];omega) λt y=>⟨_,_,_,rfl,?_⟩
 have v:=d.trans y;refine ah.mk λG z=>ae.no rfl (z _ _ ?_)
 rcases L with⟨rfl,rfl,e⟩|⟨r,t,i,e⟩
 ·rw[e];exact ae.yes rfl (n _ v)
 ·rw[e];exact ae.no rfl (AMy r t i λi C=>⟨_,_,_,rfl,n i (v.trans C)⟩)
theorem ASg {k v:A2P}(a:k≠⟨#[]⟩)(d:k.size<=64)(e:v.size<=8192):Eb [⟨k,v,false⟩]=0:=by
 have b:Am ⟨k,v,false⟩=0:=by unfold Am;rw[if_neg (by simp[a]),if_neg (by simp;omega)]
 unfold Eb;rw[if_neg (by simp),if_neg (by simp)];unfold F6;rw[if_neg (by rw[b];decide)];rfl
theorem AI2 {d r:Nat}{av:A2P}(E:cp g)(T:Fz B g h s q k st m D aJ c nn)(n:Dp g h k s p bh bu name aI f u N)(aR:d<aI)(L:Ew (CY st) d r av)(aw:r+1<=2147483647)(hA:aJ+3<=B.A)(aS:c+64<=B.C)(aT:nn+1<=1000000)(aU:N+1<=1000000)
  (aV: ∀U af k' ax aW aX,af.d=q.d->af.b=q.b->Fz B g U s af k' ax aW aX (aJ+3) (c+64) (nn+1)->CY ax=dc (CY st) [⟨CJ d,Jc (r+1) name,false⟩]->Dp g U k' s p bh bu name aI (dC f d (r+1)) (dC u d 0) (N+1)->
   Mod (λc=>k c≠0\/h.size<=c\/c=s\/c=bh\/c=bu) h U->(∀ c,k' c≠0->k c≠0\/h.size<=c)->R (J1 #[J6 J9 ((r+1:Nat):Int),J6 J9 0]) U):
  AA A P Es #[Az p,J6 J9 (d:Int)] h R:=by
 have bN:=n.sh;refine Sq ?_;unfold ML;refine yX T n aR L λM aY=>⟨_,_,_,rfl,ae.no rfl ?_⟩
 refine TE (by omega) λai aZ=>⟨_,rfl,?_⟩
 have ay:=aY.trans aZ;refine al.pair λb V bO az a0 bP=>?_
 have aA:=ay.trans a0;have bQ:=ay.size;have bR:=T.db.mem.ext.size;refine ah.mk λK a1=>?_
 have aC: ∀W y z,Ext h W->W[b]? =some (J2 #[J7 (CJ d),J7 y,J3 z] AU (0,0))->CK (CY st) ⟨CJ d,y,z⟩=true->K () W:=by
  intro W y z aj a2 a3;refine a1 _ _ ?_;have bS:=T.on aj;have a4:=n.on aj;refine aF (AJ.mk (AB a4.cell rfl) ?_);rw[AZ (by omega)];refine oy (by omega) aw n.named λX aD=>⟨_,_,rfl,?_⟩
  have ak:=aj.trans aD;refine ae.no rfl (ah.mk λa5 a6=>?_);have aE:=T.on ak;have am:=n.on ak;have I:=Aj aD a2;have an: ∀e O C,Ext X e->e[O]? =some (J2 #[J7 (CJ d),J7 y,J3 z] AU (0,0))->e[C]? =some (J2 #[J7 (CJ d),J7 (Jc (r+1) name),J3 false] AU (0,0))->X.size<=C->
    AA A P Ff #[Az s,J4 (some (⟨O,0,none⟩:Q6)) 1 1,J4 (some (⟨C,0,none⟩:Q6)) 1 1] e λa7 ao=> ∃aG:Int,a7=J6 J9 aG/\a5 (aG,()) ao:=by
   intro e O C w a8 aH a9;have ba:=aE.on w;have bb:=am.on w;have aK:=ak.trans w;have vc:View BR e ⟨some ⟨O,0,none⟩,1,1⟩ [⟨CJ d,y,z⟩]:=(Own.lit (E:=BR) (l:= [⟨CJ d,y,z⟩]) a8 rfl (by simp[maxLen])).view;have bc:View BR e ⟨some ⟨C,0,none⟩,1,1⟩ [⟨CJ d,Jc (r+1) name,false⟩]:=(Own.lit (E:=BR) (l:= [⟨CJ d,Jc (r+1) name,false⟩]) aH rfl (by simp[maxLen])).view;have bd:=ASg (AMT d) (show(CJ d).size<=64 by rw[KO];omega) (AKO aw n.named);have be:dE (CY st) [⟨CJ d,y,z⟩] [⟨CJ d,Jc (r+1) name,false⟩]=0:=by unfold dE;rw[if_neg (by simp),if_neg (by rw[bd];decide),if_pos (by simp[a3])]
   have bf:k C=0:=aE.db.free a9;refine yU (B:=B) (conds:=⟨some ⟨O,0,none⟩,1,1⟩) (sl:=⟨some ⟨C,0,none⟩,1,1⟩) E ba hA aS aT vc bc (λ_ bg Y=>by
    have o:C=bg:=by simpa [Sl.af] using Y
    subst o;exact⟨Af aH,bf⟩) (λx e=>by rw[List.mem_singleton.1 e];show(CJ d).size<=_;rw[KO];omega) (λbi=>absurd be bi) λ_ ao bj Z bk bm bn bo bp bq br aL aM=>⟨_,rfl,a6 _ _ (ae.no rfl ?_)⟩
   have bT:=aK.size;have i:=bb.step (k':=Z) aL (λc a=>by
    rcases a with h|h|h
    ·exact .inl h
    ·exact .inr (.inl h)
    ·exact .inr (.inr (.inl h))) aM
   have bs:Mod (λc=>k c≠0\/h.size<=c\/c=s\/c=bh\/c=bu) h ao:=(aK.ai λc _ a=>a.elim).trans (aL.ai λc _ a=>by
    rcases a with h|h|h
    ·exact .inl h
    ·exact .inr (.inl (by omega))
    ·exact .inr (.inr (.inl h)))
   obtain⟨bU,bt,bV,bv⟩:=i.held;refine aF (FP.mk (AB i.cell rfl) (aF (FP.mk (AB i.cell rfl) ?_)));refine w9 lW gV oz (v:=J6 J9 ((r+1:Nat):Int)) bt (by have:=i.ct;simp only[maxLen];omega) λbW bw ac bX=>?_
   obtain⟨bY,bx,bZ,bz⟩:=i.used;have bA:=bx.mod ac n.ne.symm;refine w9 lX gV oA (v:= .int .u64 0) bA (by have:=i.ct;simp only[maxLen];omega) λbB bC ad b0=>?_
   have bD: ∀c,c=bh->Z c=0/\g.size<=c:=λc a=>⟨(i.bN c (.inr (.inl a))).1,(i.bN c (.inr (.inl a))).2.1⟩
   have bE: ∀c,c=bu->Z c=0/\g.size<=c:=λc a=>⟨(i.bN c (.inr (.inr a))).1,(i.bN c (.inr (.inr a))).2.1⟩
   have bF:=(bq.beside ac bD λo=>(i.bN s (.inr (.inl o))).2.2 rfl).beside ad bE λo=>(i.bN s (.inr (.inr o))).2.2 rfl
   refine aV bB bj Z bk bm bn bo bp bF br ⟨ad.af (ac.af i.cell n.mE.1) n.mE.2,⟨_,bw.mod ad n.ne,A5 Xf (by omega),λm=>APF bv m⟩,⟨_,bC,A5 Xf (by omega),λm=>yW (r:=0) bz m⟩,i.bN,i.ne,i.named,i.sh,aU⟩ ((bs.trans (ac.ai λc _ a=> .inr (.inr (.inr (.inl a))))).trans (ad.ai λc _ a=> .inr (.inr (.inr (.inr a))))) λc a=>?_
   rcases aM c a with h|h
   ·exact .inl h
   ·exact .inr (by omega)
  have F: ∀ {e:aa},Ext X e->ag e ⟨p,0,none⟩=some (Az s):=λw=>AL (Aj w am.cell) rfl
  have Q: ∀ {e:aa},Ext X e->ag e (⟨b,0,none⟩:Q6)=some (J7 (CJ d))/\ag e ((⟨b,0,none⟩:Q6).add 1)=some (J7 y)/\ag e ((⟨b,0,none⟩:Q6).add 2)=some (J3 z):=λw=>⟨AL (Aj w I) rfl,AB (Aj w I) rfl,AB (Aj w I) rfl⟩
  refine aF (Ab.mk (AL am.cell rfl) (AJ.mk (AL I rfl) (AJ.mk (AB I rfl) (Ac.mk (AB I rfl) ?_))));refine⟨?_,?_⟩
  ·refine al.mk λbG _ bH G b1=>⟨F G,?_⟩
   refine TE (by omega) λY J=>⟨_,rfl,?_⟩
   have j:=G.trans J;refine⟨Q j,⟨F j,?_⟩⟩;refine al.mk λa _ S H aN=>?_
   have t:=j.trans H;exact⟨Q t,⟨F t,an a _ _ t (Aj H (Aj J bH)) S j.size⟩⟩
  ·refine TE (by omega) λbG G=>⟨_,rfl,⟨Q G,⟨F G,⟨?_,?_⟩⟩⟩⟩
   ·refine al.mk λY _ ap J bI=>?_
    have j:=G.trans J;refine⟨F j,al.mk λa _ S H aN=>?_⟩;have t:=j.trans H;exact⟨Q t,⟨F t,an a _ _ t (Aj H ap) S j.size⟩⟩
   ·refine al.mk λY _ ap J bI=>?_
    have j:=G.trans J;refine⟨Q j,⟨F j,al.mk λa _ S H aN=>?_⟩⟩;have t:=j.trans H;exact⟨F t,an a _ _ t S (Aj H ap) G.size⟩
 refine ae.intro (λaq=>?_) (λaq=>?_)
 ·have bJ:0<r:=by have:=of_decide_eq_true aq;omega
  rcases L with⟨M,_⟩|⟨M,ai,V,o⟩
  ·omega
  simp only[BZ,AK];refine ab.mk az (by simp) λaO ar bK b2=>?_
  have ar:aO[b]? =some (J2 #[J7 (CJ d),J7 ⟨#[]⟩,J3 false] AU (0,0)):=by simpa using ar
  refine oy M ai V λb3 aP=>⟨_,_,rfl,?_⟩
  refine ab.mk (Aj aP ar) (by simp) λaQ au bL b4=>?_
  have au:aQ[b]? =some (J2 #[J7 (CJ d),J7 (Jc r av),J3 false] AU (0,0)):=by simpa using au
  have bM:Ext h aO:=aA.then (bK.ai λc _ a=> .inr (by omega));refine aC aQ _ _ ((bM.trans aP).then (bL.ai λc _ a=> .inr (by omega))) au ?_;unfold CK;rw[o];simp
 ·have bJ:r=0:=by have:=of_decide_eq_false aq;omega
  rcases L with⟨M,_,o⟩|⟨M,ai,V,o⟩
  ·refine aC V _ _ aA az ?_;unfold CK;rw[o];simp
  ·omega
end
section
variable {A : ak} {B : cJ} {g h : aa} {s p bh bu : Nat} {q : Hp} {k : Nat -> Nat} {st : Db} {m : Bx} {D : Bg} {aJ c nn N : Nat} {name : A2P} {aI : Nat} {f u : Nat -> Nat} {R : A2O}
def Fx(a b:Nat)(name:A2P):Pr:=⟨CJ a,Jc b name,false⟩
theorem QQ {mp:List Pr}{n r:Nat}{name:A2P}:CK mp (Fx n r name)=((JV mp (CJ n)).2&&decide ((JV mp (CJ n)).1=Jc r name)):=rfl
theorem ASS {n:Nat}{conds sl:Sl}{e l:List Pr}(E:cp g)(y:Fz B g h s q k st m D aJ c nn)(j:Dp g h k s p bh bu name aI f u N)(am:n<256)(an:f n<=2147483647)(hA:aJ+3<=B.A)(ao:c+64<=B.C)(ap:nn+1<=1000000)(vc:View BR h conds e)(a9:e.length<=1000000)(v:View BR h sl l)(aq:l≠ []-> ∀b,sl.af=some b->b<h.size/\k b=0/\b≠bh)(ar: ∀x∈e,x.key.size<=1099511627776)
  (au:f n=0->R (J6 J9 170) h)
  (av:f n≠0->CK (CY st) (Fx n (f n) name)=false-> ∀d,Fz B g d s q k st m D aJ c nn->Dp g d k s p bh bu name aI (dC f n 0) u N->Mod (λc=>h.size<=c\/c=bh) h d->R (J6 J9 170) d)
  (aw:f n≠0->CK (CY st) (Fx n (f n) name)=true->dE (CY st) (Fx n (f n) name::e) l≠0-> ∀d,Ext h d->R (J6 J9 (dE (CY st) (Fx n (f n) name::e) l)) d)
  (ax:f n≠0->CK (CY st) (Fx n (f n) name)=true->dE (CY st) (Fx n (f n) name::e) l=0-> ∀d F k' W ay az,F.d=q.d->F.b=q.b->Fz B g d s F k' W ay az (aJ+3) (c+64) (nn+1)->CY W=dc (CY st) l->Dp g d k' s p bh bu name aI f u N->Mod (λc=>k c≠0\/h.size<=c\/c=s) h d->(∀ c,k' c≠0->k c≠0\/h.size<=c)->R (J6 J9 0) d):
  AA A P Hy #[Az p,J6 J9 (n:Int),J4 conds.p conds.len conds.cap,J4 sl.p sl.len sl.cap] h R:=by
 refine Zj ?_;unfold SG;refine ZY j ⟨_,rfl,ae.intro (λG=>?_) (λG=>?_)⟩
 ·exact au (by simpa using G)
 have H:f n≠0:=by simpa using G
 refine aF (AJ.mk (AB j.cell rfl) ?_);refine oy (by omega) an j.named λz aA=>⟨_,_,rfl,?_⟩
 refine TE am λba aC=>⟨_,rfl,?_⟩
 have aD:=aA.trans aC;refine al.pair λb bb bc X aE bd=>?_
 have I:=aD.trans aE;have aG:=j.on I;have aH:=y.on I;refine aF (Ab.mk (AL aG.cell rfl) (AJ.mk (AL X rfl) ?_));refine rn aH (by rw[KO];omega) λi Y=>⟨_,_,_,rfl,ae.no rfl ?_⟩
 have w:=I.trans Y;have o:=j.on w;have aK:=y.on w;have J:=Aj Y X;have be:=w.size;have bf:=y.db.mem.ext.size;refine ah.mk λK Z=>?_
 have L:=QQ (mp:=CY st) (n:=n) (r:=f n) (name:=name);have lost:CK (CY st) (Fx n (f n) name)=false->K (true,()) i:=λaL=>by
  refine Z _ _ (ae.yes rfl (aF (FP.mk (AB o.cell rfl) ?_)));refine o.strike λO aM aa=>⟨rfl,?_⟩
  have Q:=o.bN bh (.inr (.inl rfl));exact av H aL O (aK.beside aa (λc a=>by subst a;exact⟨Q.1,Q.2.1⟩) λS=>Q.2.2 S.symm) aM ((w.ai λc _ a=>a.elim).trans (aa.ai λc _ a=> .inr a))
 have aN:CK (CY st) (Fx n (f n) name)=true->K (false,()) i:=λab=>by
  refine Z _ _ (ae.no rfl (aF (Ab.mk (AL o.cell rfl) (AJ.mk (AL J rfl) (AJ.mk (AB J rfl) (Ac.mk (AB J rfl) ?_))))));refine al.mk λO _ aO T bg=>⟨AL (Aj T o.cell) rfl,?_⟩
  have aP:Own BR AU O ⟨some ⟨i.size,0,none⟩,1,1⟩ [Fx n (f n) name]:=Own.lit (E:=BR) (l:= [Fx n (f n) name]) aO rfl (by simp[maxLen]);have ac:=w.trans T;refine Gd (E:=BR) (s:=⟨some ⟨i.size,0,none⟩,1,1⟩) (src:=conds) M.Hz aP (vc.ext ac) (by simp only[A6,FG];omega) (by simp only[A6,FG,maxLen];omega) λaQ ad aR af bi _=>?_
  have t:Ext h ad:=ac.then (af.ai λc _ a=> .inr (by have:i.size=c:=(by simpa [Sl.af] using a);omega));have aS:Ext i ad:=T.then (af.ai λc _ a=> .inr (by have:i.size=c:=(by simpa [Sl.af] using a);omega));have aT:=y.on t;have aU:=j.on t;refine⟨AL (Aj aS o.cell) rfl,?_⟩;have bj:=t.size;have aV: ∀x∈ [Fx n (f n) name]++e,x.key.size<=1099511627776:=λx aW=>by
   rcases List.mem_append.1 aW with h|h
   ·rw[List.mem_singleton.1 h];show(CJ n).size<=_;rw[KO];omega
   ·exact ar x h
  refine yU (B:=B) (conds:=aQ) (sl:=sl) E aT hA ao ap aR.view (v.ext t) (λU aX aY=>by
   have:=aq U aX aY;exact⟨by omega,this.2.1⟩) aV (λU V aZ=>⟨_,rfl,aw H ab U V (t.trans aZ)⟩) λa0 V a1 ag a2 a3 a4 a5 a6 a7 a8 ai aj=>⟨_,rfl,?_⟩
  refine ax H ab a0 V a1 ag a2 a3 a4 a5 a6 a7 a8 (aU.step (k':=ag) ai (λc a=>by
   rcases a with h|h|h
   ·exact .inl h
   ·exact .inr (.inl h)
   ·exact .inr (.inr (.inl h))) aj) ((t.ai λc _ a=>a.elim).trans (ai.ai λc _ a=>by
   rcases a with h|h|h
   ·exact .inl h
   ·exact .inr (.inl (by omega))
   ·exact .inr (.inr h))) λc a=>?_
  rcases aj c a with h|h
  ·exact .inl h
  ·exact .inr (by omega)
 refine ae.intro (λz=>?_) (λz=>?_)
 ·refine lost ?_;have S:(JV (CY st) (CJ n)).2=false:=by simpa using z
  rw[L,S];rfl
 ·have ak:(JV (CY st) (CJ n)).2=true:=by simpa using z
  cases C:bM (JV (CY st) (CJ n)).1 (Jc (f n) name) with
  |true=>
   refine aN ?_;rw[CP] at C;rw[L,ak,C];rfl
  |false=>
   refine lost ?_;rw[CP] at C;rw[L,ak,C];rfl
theorem ATn {a:Nat}(h:a<=2147483647):J8 .u64 ((J8 .u64 (a:Int))*((2:Int)^(24:Nat)))=((a*16777216:Nat):Int):=by rw[Ba (by omega),show((a:Int)*(2:Int)^(24:Nat))=((a*16777216:Nat):Int) from by rw[show((2:Int)^(24:Nat))=((16777216:Nat):Int) from by decide];simp];exact Ba (by omega)
theorem qI {a b:Nat}(d:a<18446744073709551616)(e:b<18446744073709551616):dX .u64 (a:Int) (b:Int)=((a ||| b:Nat):Int):=by
 have h:a ||| b<2^64:=KB (by simpa using d) (by simpa using e);unfold dX;have i:(BitVec.ofInt (IntKind.bits .u64) (a:Int) ||| BitVec.ofInt (IntKind.bits .u64) (b:Int)).toNat=a ||| b:=by show(BitVec.ofInt 64 (a:Int) ||| BitVec.ofInt 64 (b:Int)).toNat=a ||| b;rw[BitVec.toNat_or,BitVec.ofInt_natCast,BitVec.ofInt_natCast,BitVec.toNat_ofNat,BitVec.toNat_ofNat,Ax (by simpa using d),Ax (by simpa using e)]
 rw[i];exact Ba (by simpa using h)
theorem AS3 {a x:Nat}(h:a<=2147483647)(d:x<16777216):dX .u64 ((a*16777216:Nat):Int) (x:Int)=((a*16777216+x:Nat):Int):=by rw[qI (by omega) (by omega)];congr 1;have:=A0P (i:=24) (b:=x) (by simpa using d) a;rw[show 2^24*a=a*16777216 from by rw[Ds]] at this;exact this.symm
theorem AKc {a:Nat}(b:Dp g h k s p bh bu name aI f u N)(v:f a<=2147483647)(z:u a+1<16777216)(C:N+1<=1000000)
  (E:f a=0->R (.int .u64 0) h)
  (F:f a≠0-> ∀e,Dp g e k s p bh bu name aI f (dC u a (u a+1)) (N+1)->Mod (λc=>c=bu) h e->R (.int .u64 ((f a*16777216+(u a+1):Nat):Int)) e):
  AA A P Gj #[Az p,J6 J9 (a:Int)] h R:=by
 refine Ub ?_;unfold NL;refine ZY b ⟨_,rfl,ae.intro (λi=>?_) (λi=>?_)⟩
 ·exact E (by simpa using i)
 have G:f a≠0:=by simpa using i
 obtain⟨H,w,M,x⟩:=b.used;obtain⟨I,J,O,j⟩:=b.held;refine aF (FP.mk (AB b.cell rfl) ?_);refine L8 lX gV oA w ⟨_,x a,?_⟩;rw[show((u a:Nat):Int)+(1:Int)=((u a+1:Nat):Int) from by omega,Ba (by omega)];refine AJ0 lX gV w (by have:=b.ct;simp only[maxLen];omega) λK l n Q=>?_
 have o:=J.mod n b.ne;have d:=n.af b.cell b.mE.2;have y: ∀m:Nat,(La m (TG a (.int .u64 ((u a+1:Nat):Int)) H)).getD (.int .u64 0)= .int .u64 (dC u a (u a+1) m:Int):=λm=>yW x m
 have L:dC u a (u a+1) a=u a+1:=by unfold dC;rw[if_pos rfl]
 have key:dX .u64 (J8 .u64 ((J8 .u64 (f a:Int))*((2:Int)^(24:Nat)))) ((u a+1:Nat):Int)=((f a*16777216+(u a+1):Nat):Int):=by rw[ATn v,AS3 v z]
 have r:=F G K ⟨d,⟨I,o,by omega,j⟩,⟨_,l,A5 Xf (by omega),y⟩,b.bN,b.ne,b.named,b.sh,C⟩ n;rw[<- key] at r;have t:=y a;rw[L] at t;refine aF (FP.mk (AB d rfl) (aF (FP.mk (AB d rfl) ⟨?_,?_⟩)))
 ·refine L8 lW gV oz o ⟨_,j a,⟨AB d rfl,?_⟩⟩;exact L8 lX gV oA l ⟨_,t,⟨AB d rfl,r⟩⟩
 ·refine L8 lX gV oA l ⟨_,t,⟨AB d rfl,?_⟩⟩;exact L8 lW gV oz o ⟨_,j a,⟨AB d rfl,r⟩⟩
theorem Ew.laid {b:List Pr}(e:Sorted b){d a:Nat}(i:1<=a)(j:a<=2147483647)(l:Ai name=true):Ew (dc b [⟨CJ d,Jc a name,false⟩]) d a name:=by refine .inr ⟨i,j,l,?_⟩;unfold JV;rw[show dc b [⟨CJ d,Jc a name,false⟩]=iU b ⟨CJ d,Jc a name,false⟩ from rfl,rk e,if_pos rfl,I9];rfl
theorem Ew.other {a:List Pr}(j:Sorted a){b e:Nat}{i key val:A2P}{d:Bool}(L:Ew a b e i)(l:key≠CJ b):Ew (dc a [⟨key,val,d⟩]) b e i:=by
 have n:JV (dc a [⟨key,val,d⟩]) (CJ b)=JV a (CJ b):=by unfold JV;rw[show dc a [⟨key,val,d⟩]=iU a ⟨key,val,d⟩ from rfl,rk j,if_neg l]
 unfold Ew;rw[n];exact L
theorem Ew.empty {a:Nat}:Ew [] a 0 ⟨#[]⟩:= .inl ⟨rfl,rfl,rfl⟩
theorem Ew.own {d:List Pr}{e i a:Nat}{j:A2P}(L:Ew d e i j)(o:1<=a)(l:a<=2147483647):CK d (Fx e a name)=true->a=i:=by
 rw[QQ];intro h;rcases L with⟨_,_,b⟩|⟨_,n,_,b⟩
 ·rw[b] at h;cases h
 ·rw[b] at h;simp only[DP,decide_eq_true_eq] at h;exact(ANF n l h).symm
theorem Ew.holds {b:List Pr}{d a:Nat}(L:Ew b d a name)(i:1<=a):CK b (Fx d a name)=true:=by
 rw[QQ];rcases L with⟨h,_,e⟩|⟨_,j,_,e⟩
 ·omega
 ·rw[e];simp
end
structure Hs where
 p:Nat
 bh:Nat
 bu:Nat
 name:A2P
 f:Nat->Nat
 u:Nat->Nat
def Hs.bN(x:Hs)(c:Nat):Prop:=c=x.p\/c=x.bh\/c=x.bu
structure iV (g h:aa) (k:Nat->Nat) (s sh N:Nat) (l:List Hs):Prop where
 host: ∀(i:Nat) x,l[i]? =some x->Dp g h k s x.p x.bh x.bu x.name sh x.f x.u N
 kO: ∀(i j:Nat) x y,l[i]? =some x->l[j]? =some y->i≠j-> ∀c,x.bN c-> ¬y.bN c
def LW(B:cJ)(g h:aa)(s a N sh:Nat)(l:List Hs)(mp:List Pr)(O:Nat->Prop):Prop:=
 ∃(d:Hp) (b:Nat->Nat) (st:Db) (m:Bx) (e:Bg) (nn:Nat),Fz B g h s d b st m e (1+3*a) (64*a) nn/\nn<=a/\CY st=mp/\iV g h b s sh N l/\N<=1000000/\ ∀c,O c->b c=0/\c<h.size/\g.size<=c/\c≠s/\ ∀x∈l,¬x.bN c
section
variable {A : ak} {B : cJ} {g h : aa} {s a N sh : Nat} {l : List Hs} {mp : List Pr} {O : Nat -> Prop} {R : A2O}
theorem iV.step {d:aa}{b k':Nat->Nat}{e:Nat->Prop}(f:iV g h b s sh N l)(k:Mod e h d)(m: ∀c,e c->b c≠0\/h.size<=c\/c=s\/ ∀x∈l,¬x.bN c)(n: ∀c,k' c≠0->b c≠0\/h.size<=c):iV g d k' s sh N l:=
 ⟨λi x j=>(f.host i x j).step k (λc o=>by
  rcases m c o with h|h|h|h
  ·exact .inl h
  ·exact .inr (.inl h)
  ·exact .inr (.inr (.inl h))
  ·exact .inr (.inr (.inr (h x (AF j))))) n,f.kO⟩
theorem iV.set {h':aa}{k m:Nat->Nat}{S:Nat->Prop}{i j:Nat}{x x':Hs}(n:iV g h k s sh N l)(o:l[i]? =some x)(v:Mod S h h')(w: ∀c,S c->k c≠0\/h.size<=c\/c=s\/x.bN c)(y: ∀c,m c≠0->k c≠0\/h.size<=c)(z:Dp g h' m s x'.p x'.bh x'.bu x'.name sh x'.f x'.u j)(same: ∀c,x'.bN c↔x.bN c)(q:N<=j/\j<=1000000):iV g h' m s sh j (l.set i x'):=by
 have r:=(List.getElem?_eq_some_iff.1 o).1;refine⟨λd e b=>?_,λC D P Q E F G c p=>?_⟩
 ·by_cases f:i=d
  ·subst f;rw[HJ r] at b;cases b;exact z
  ·rw[Kd f] at b;refine((n.host d e b).step v (λc p=>?_) y).more q.1 q.2;rcases w c p with h|h|h|h
   ·exact .inl h
   ·exact .inr (.inl h)
   ·exact .inr (.inr (.inl h))
   ·exact .inr (.inr (.inr (n.kO i d x e o b f c h)))
 ·have t: ∀ {d:Nat} {e:Hs},(l.set i x')[d]? =some e-> ∃u,l[d]? =some u/\ ∀c,e.bN c↔u.bN c:=λ{d e} b=>by
   by_cases f:i=d
   ·subst f;rw[HJ r] at b;cases b;exact⟨x,o,same⟩
   ·rw[Kd f] at b;exact⟨e,b,λ_=>DB⟩
  obtain⟨H,I,J⟩:=t E;obtain⟨K,L,M⟩:=t F;exact λh=>n.kO C D H K I L G c ((J c).1 p) ((M c).1 h)
theorem LW.ext(b:LW B g h s a N sh l mp O):Ext g h:=by obtain⟨d,e,st,m,f,nn,c,_⟩:=b;exact c.db.mem.ext
theorem LW.sorted(b:LW B g h s a N sh l mp O):Sorted mp:=by obtain⟨d,e,st,m,D,nn,c,_,rfl,_⟩:=b;exact c.db.sorted
theorem LW.len(b:LW B g h s a N sh l mp O):mp.length<=100000:=by obtain⟨d,e,st,m,f,nn,c,_,rfl,_⟩:=b;exact c.db.cP.2.2.2
theorem LW.own {e:aa}{O':Nat->Prop}(k:LW B g h s a N sh l mp O)(f:Mod O h e)(n: ∀c,O' c->O c\/(h.size<=c/\c<e.size)):LW B g e s a N sh l mp O':=by
 obtain⟨o,p,st,m,q,nn,d,r,t,j,u,out⟩:=k;have H:=d.db.mem.ext.size;have I:=f.size;have J:=d.lt;refine⟨o,p,st,m,q,nn,d.beside f (λc b=>⟨(out c b).1,(out c b).2.2.1⟩) (λh=>(out s h).2.2.2.1 rfl),r,t,j.step f (λc b=> .inr (.inr (.inr (out c b).2.2.2.2))) (λc b=> .inl b),u,λc b=>?_⟩;rcases n c b with h|⟨v,w⟩
 ·obtain⟨y,K,z,C,D⟩:=out c h;exact⟨y,by omega,z,C,D⟩
 ·refine⟨d.db.free v,w,by omega,by omega,λx E F=>?_⟩;obtain⟨i,G⟩:=Ge E;have:=(j.host i x G).lt c F;omega
theorem LW.on {b:aa}(d:LW B g h s a N sh l mp O)(x:Ext h b):LW B g b s a N sh l mp O:=d.own (x.ai λ_ _ h=>h.elim) λc e=> .inl e
theorem LW.less {O':Nat->Prop}(b:LW B g h s a N sh l mp O)(d: ∀c,O' c->O c):LW B g h s a N sh l mp O':=by obtain⟨e,f,st,m,i,nn,j,k,n,o,p,out⟩:=b;exact⟨e,f,st,m,i,nn,j,k,n,o,p,λc q=>out c (d c q)⟩
theorem LW.put {b c:Nat}(W:LW B g h s a N sh l mp O)(t:a<=b)(f:64*b<=B.C)(j:N<=c)(d:c<=1000000):LW B g h s b c sh l mp O:=by obtain⟨k,n,st,m,o,nn,p,u,q,e,v,out⟩:=W;exact⟨k,n,st,m,o,nn,p.put (by omega) (by omega) f,by omega,q,⟨λi x r=>(e.host i x r).more j d,e.kO⟩,d,out⟩
abbrev bW(g:aa)(O:Nat->Prop):Nat->Prop:=λc=>g.size<=c/\ ¬O c
theorem LW.dF {b:aa}{w:Nat->Prop}{i a' e nn o:Nat}{x x':Hs}{J y:Hp}{d f:Nat->Nat}{st p:Db}{m z:Bx}{K C:Bg}(j:Fz B g h s J d st m K (1+3*a) (64*a) nn)(D:iV g h d s sh N l)(out: ∀c,O c->d c=0/\c<h.size/\g.size<=c/\c≠s/\ ∀x∈l,¬x.bN c)
  (q:l[i]? =some x) (L:Fz B g b s y f p z C (1+3*a') (64*a') o) (M:o<=a') (r:Mod w h b) (t: ∀c,w c->d c≠0\/h.size<=c\/c=s\/x.bN c) (E: ∀c,f c≠0->d c≠0\/h.size<=c) (P:Dp g b f s x'.p x'.bh x'.bu x'.name sh x'.f x'.u e) (same: ∀c,x'.bN c↔x.bN c) (F:N<=e/\e<=1000000):
  LW B g b s a' e sh (l.set i x') (CY p) O/\Mod (bW g O) h b:=by
 have W:=j.db.mem.ext.size;have X:=j.lt;have Y:=r.size;have G:=AF q;refine⟨⟨y,f,p,z,C,o,L,M,rfl,D.set q r t E P same F,F.2,λc k=>?_⟩,r.ai λc Z k=>⟨?_,λQ=>?_⟩⟩
 ·obtain⟨u,S,H,v,n⟩:=out c k;refine⟨Decidable.byContradiction λT=>?_,by omega,H,v,λU V I=>?_⟩
  ·rcases E c T with h|h
   ·exact h u
   ·omega
  ·rcases Wf V with h|rfl
   ·exact n U h I
   ·exact n x G ((same c).1 I)
 ·rcases t c k with h|h|h|h
  ·exact(j.db.mem.own c h).1
  ·omega
  ·have:=j.base;omega
  ·exact((D.host i x q).bN c h).2.1
 ·obtain⟨u,S,H,v,n⟩:=out c Q;rcases t c k with h|h|h|h
  ·exact h u
  ·omega
  ·exact v h
  ·exact n x G h
theorem LW.start {b:Nat}{Sb:Nat->Prop}{m:Bx}(k:cp g)(n:Cf h b Sb m)(d:Ext g h)(o: ∀c,Sb c->g.size<=c)(hd:m.down=false)(p:m.fuel= -1)(q: ∀f,ff m (aC nl f)=none)(r: ∀f,ff m (aC nn f)=none)(t: ∀x,ff m x≠none->(bl x).head? ≠some 116)(hA:1<=B.A)(u:bd m.files<=B.W0)
  (v: ∀e s,LW B g e s 0 0 sh [] [] (λ_=>False)->Ext g e->h.size<=s->R (J1 #[Az s,J6 J9 0]) e):AA A P Rz #[Az b] h R:=
 AMr (B:=B) k n d o hd p q r t hA u λe s w y z C D G j mp H I E=>v e s ⟨w,y,z,C,D,0,j,A0 _,mp,⟨λi x d=>by simp at d,λi J x K d=>by simp at d⟩,by omega,λc F=>F.elim⟩ j.db.mem.ext E
theorem LW.host {name:A2P}(E:LW B g h s a N sh l mp O)(F:Ai name=true)(G:1<=sh/\sh<=16)
  (H: ∀j p k n,LW B g j s a N sh (l++ [⟨p,k,n,name,λ_=>0,λ_=>0⟩]) mp O->Ext h j->R (J1 #[Az p,J6 J9 0]) j):AA A P PY #[Az s,J7 name,J6 J9 (sh:Int)] h R:=by
 obtain⟨I,J,st,m,K,nn,v,L,M,o,w,out⟩:=E;refine AQ1 v F G λj p k n Q fresh x=>H j p k n ⟨I,J,st,m,K,nn,v.on x,L,M,⟨λi d b=>?_,λi e y z S T U c f t=>?_⟩,w,λc f=>?_⟩ x
 ·rw[List.getElem?_append] at b;split at b
  ·exact(o.host i d b).on x
  ·rw[A0X] at b;split at b
   ·cases b;exact Q.more (AG _) w
   ·cases b
 ·have C: ∀ {e:Nat} {d:Hs},(l++ [⟨p,k,n,name,λ_=>0,λ_=>0⟩])[e]? =some d->(e<l.length/\l[e]? =some d)\/(e=l.length/\ ∀c,d.bN c->h.size<=c):=λ{e d} b=>by
   rw[List.getElem?_append] at b;split at b
   ·rename_i D;exact .inl ⟨D,b⟩
   ·rename_i D;rw[A0X] at b;split at b
    ·rename_i ab;cases b;exact .inr ⟨by omega,λc f=>(fresh c f).1⟩
    ·cases b
  rcases C S with⟨V,q⟩|⟨V,q⟩<;>rcases C T with⟨W,r⟩|⟨W,r⟩
  ·exact o.kO i e y z q r U c f t
  ·have:=(o.host i y q).lt c f;have:=r c t;omega
  ·have:=(o.host e z r).lt c t;have:=q c f;omega
  ·omega
 ·obtain⟨X,ac,Y,Z,aa⟩:=out c f;have:=x.size;refine⟨X,by omega,Y,Z,λd b u=>?_⟩;rcases List.mem_append.1 b with h|h
  ·exact aa d h u
  ·rw[List.mem_singleton.1 h] at u;have:=(fresh c u).1;omega
def Hs.mg(x:Hs)(b c:Nat):Hs:= {x with f:=dC x.f b c,u:=dC x.u b 0}
def Hs.lost(x:Hs)(b:Nat):Hs:= {x with f:=dC x.f b 0}
def Hs.j7(x:Hs)(b:Nat):Hs:= {x with u:=dC x.u b (x.u b+1)}
theorem LW.holds {i b:Nat}{x:Hs}(c:LW B g h s a N sh l mp O)(d:l[i]? =some x)(e:R (J6 J9 (x.f b:Int)) h):AA A P ED #[Az x.p,J6 J9 (b:Int)] h R:=by obtain⟨j,k,st,m,n,nn,o,p,q,f,r,out⟩:=c;exact ZY (f.host i x d) e
theorem LW.look {i b c:Nat}{x:Hs}{d:A2P}(f:LW B g h s a N sh l mp O)(j:l[i]? =some x)(k:b<sh)(L:Ew mp b c d)(n: ∀e,Ext h e->R (J1 #[J6 J9 (c:Int),J7 d,J6 J9 0]) e):AA A P Ij #[Az x.p,J6 J9 (b:Int)] h R:=by obtain⟨q,r,st,m,t,nn,o,u,rfl,p,v,out⟩:=f;exact yX o (p.host i x j) k L n
theorem LW.acquire {i b r:Nat}{x:Hs}{nm:A2P}(n:cp g)(o:LW B g h s a N sh l mp O)(e:l[i]? =some x)(p:b<sh)(L:Ew mp b r nm)(q:r+1<=2147483647)(hA:4+3*a<=B.A)(E:64*a+64<=B.C)(F:a+1<=1000000)(f:N+1<=1000000)
  (t: ∀d,LW B g d s (a+1) (N+1) sh (l.set i (x.mg b (r+1))) (dc mp [⟨CJ b,Jc (r+1) x.name,false⟩]) O->Mod (bW g O) h d->R (J1 #[J6 J9 ((r+1:Nat):Int),J6 J9 0]) d):
  AA A P Es #[Az x.p,J6 J9 (b:Int)] h R:=by
 obtain⟨G,H,st,m,I,nn,j,J,rfl,k,K,out⟩:=o;have u:=k.host i x e;refine AI2 n j u p L q (by omega) (by omega) (by omega) f λd M Q S T U V W v w y z C=>?_
 have:=LW.dF (x':=x.mg b (r+1)) (a':=a+1) j k out e (v.put (by omega) (by omega) (by omega)) (by omega) z (λc D=>by
  rcases D with h|h|h|h|h
  ·exact .inl h
  ·exact .inr (.inl h)
  ·exact .inr (.inr (.inl h))
  ·exact .inr (.inr (.inr (.inr (.inl h))))
  ·exact .inr (.inr (.inr (.inr (.inr h))))) C y (λ_=>DB) ⟨BT _,f⟩
 rw[w] at this;exact t d this.1 this.2
theorem LW.number {i b:Nat}{x:Hs}(r:LW B g h s a N sh l mp O)(j:l[i]? =some x)(t:x.f b<=2147483647)(u:x.u b+1<16777216)(k:N+1<=1000000)
  (v:x.f b=0->R (.int .u64 0) h)
  (w:x.f b≠0-> ∀d,LW B g d s a (N+1) sh (l.set i (x.j7 b)) mp O->Mod (bW g O) h d->R (.int .u64 ((x.f b*16777216+(x.u b+1):Nat):Int)) d):
  AA A P Gj #[Az x.p,J6 J9 (b:Int)] h R:=by
 obtain⟨E,F,st,m,G,nn,n,y,rfl,o,H,out⟩:=r;have p:=o.host i x j;refine AKc p t u k v λz d C q=>?_
 have f:=p.bN x.bu (.inr (.inr rfl));have:=LW.dF (x':=x.j7 b) n o out j (n.beside q (λc e=>by subst e;exact⟨f.1,f.2.1⟩) λD=>f.2.2 D.symm) y q (λc e=> .inr (.inr (.inr (.inr (.inr e))))) (λc e=> .inl e) C (λ_=>DB) ⟨BT _,k⟩;exact w z d this.1 this.2
theorem LW.change {i d:Nat}{x:Hs}{conds sl:Sl}{f lp:List Pr}(z:cp g)(C:LW B g h s a N sh l mp O)(j:l[i]? =some x)(D:d<256)(E:x.f d<=2147483647)(hA:4+3*a<=B.A)(ab:64*a+64<=B.C)(ac:a+1<=1000000)(vc:View BR h conds f)(F:f.length<=1000000)(v:View BR h sl lp)(G:lp≠ []-> ∀b,sl.af=some b->b<g.size\/O b)(H: ∀x∈f,x.key.size<=1099511627776)
  (I:x.f d=0->R (J6 J9 170) h)
  (J:x.f d≠0->CK mp (Fx d (x.f d) x.name)=false-> ∀e,LW B g e s a N sh (l.set i (x.lost d)) mp O->Mod (bW g O) h e->R (J6 J9 170) e)
  (K:x.f d≠0->CK mp (Fx d (x.f d) x.name)=true->dE mp (Fx d (x.f d) x.name::f) lp≠0-> ∀e,Ext h e->R (J6 J9 (dE mp (Fx d (x.f d) x.name::f) lp)) e)
  (L:x.f d≠0->CK mp (Fx d (x.f d) x.name)=true->dE mp (Fx d (x.f d) x.name::f) lp=0-> ∀e,LW B g e s (a+1) N sh l (dc mp lp) O->Mod (bW g O) h e->R (J6 J9 0) e):
  AA A P Hy #[Az x.p,J6 J9 (d:Int),J4 conds.p conds.len conds.cap,J4 sl.p sl.len sl.cap] h R:=by
 obtain⟨ad,ae,st,m,af,nn,k,M,rfl,o,w,out⟩:=C;have y:=o.host i x j;have ag:=k.db.mem.ext.size;refine ASS z k y D E (by omega) (by omega) (by omega) vc F v (λQ b S=>?_) H I (λp T e q r t=>?_) K λp U V e ah ai aj ak al am an q W r t X=>?_
 ·rcases G Q b S with h|h
  ·refine⟨by omega,k.db.base h,?_⟩;have:=(y.bN x.bh (.inr (.inl rfl))).2.1;omega
  ·obtain⟨Y,Z,ao,ap,aa⟩:=out b h;exact⟨Z,Y,λu=>aa x (AF j) (.inr (.inl u))⟩
 ·have:=LW.dF (x':=x.lost d) k o out j q M t (λc n=>by
   rcases n with h|h
   ·exact .inr (.inl h)
   ·exact .inr (.inr (.inr (.inr (.inl h))))) (λc n=> .inl n) r (λ_=>DB) ⟨A0 _,w⟩
  exact J p T e this.1 this.2
 ·have:=LW.dF (x':=x) (a':=a+1) k o out j (q.put (by omega) (by omega) (by omega)) (by omega) t (λc n=>by
   rcases n with h|h|h
   ·exact .inl h
   ·exact .inr (.inl h)
   ·exact .inr (.inr (.inl h))) X r (λ_=>DB) ⟨A0 _,w⟩
  rw[W,show l.set i x=l from by
   obtain⟨aq,u⟩:=List.getElem?_eq_some_iff.1 j;rw[<- u,Pc]] at this
  exact L p U V e this.1 this.2
end
abbrev dd:=A2P->Option (List Ev)
abbrev du:=A2P->Option (List UInt8×Int×Int)
def Ca(l:List Ev):bj:=(Ep TS l).getD TS
structure UA (l:List Ev):Prop where
 ne:l≠ []
 len:l.length<=500
 ok:Ep TS l=some (Ca l)
 st:0<=(Ca l).status/\(Ca l).status<=4
theorem UA.next {l:List Ev}(b:UA l):(Ca l).next=l.length+1/\ ∀(i:Nat) (a:Ev),l[i]? =some a->a.id=i+1/\FQ a=true:=we b.ok b.ne
def SH(wid:A2P)(l:List Ev):List Pr:=l.map (O7 wid)
def TM(wid:A2P)(l:List Ev):Pr:=⟨Kz wid,QL (Ca l).status.toNat (Ca l).next.toNat false,false⟩
def YJ(a:A2P)(x:List UInt8×Int×Int):Pr:=⟨Mt a,iO x.1 x.2.1.toNat x.2.2.toNat,false⟩
structure Ka (mp:List Pr) (fl:dd) (an:du):Prop where
 cF: ∀wid,Ai wid=true-> ∀k,gS (WX wid) k=true->Ag k mp=Ag k (SH wid ((fl wid).getD []))
 gX: ∀wid,Ai wid=true->Ag (Kz wid) mp=(fl wid).map (TM wid)
 jF: ∀aW,Ai aW=true->Ag (Mt aW) mp=(an aW).map (YJ aW)
 eo: ∀wid l,fl wid=some l->UA l
 jG: ∀aW x,an aW=some x->(0<=x.2.1/\x.2.1<=4)/\(0<=x.2.2/\x.2.2<=501)/\x.1.length<=2000
theorem Dw {s:A2P}(a:Ai s=true):s.size<=16:=(FK.1 a).2.1
theorem Qx {wid:A2P}{l:List Ev}{i:Nat}{p:Pr}(b:(SH wid l)[i]? =some p): ∃a,l[i]? =some a/\p=O7 wid a:=by unfold SH at b;rw[Bk] at b;obtain⟨a,c,rfl⟩:=Option.map_eq_some_iff.1 b;exact⟨a,c,rfl⟩
theorem QJ {wid:A2P}{l:List Ev}(b: ∀(i:Nat) (a:Ev),l[i]? =some a->a.id=i+1/\FQ a=true){i:Nat}{a:Ev}(c:l[i]? =some a):(O7 wid a).key=dV wid (i+1):=by unfold O7;rw[(b i a c).1];rfl
theorem XM {wid:A2P}{l:List Ev}(j:l.length<=500)(c: ∀(i:Nat) (a:Ev),l[i]? =some a->a.id=i+1/\FQ a=true):Sorted (SH wid l):=by unfold Sorted;rw[List.pairwise_iff_getElem];intro i k d b m;obtain⟨a,e,f⟩:=Qx (A2 d);obtain⟨n,g,h⟩:=Qx (A2 b);rw[f,h,QJ c e,QJ c g];unfold SH at b;rw[BE] at b;exact lL (by omega) (by omega)
theorem mL {q:A2P->Bool}{a:A2P}: ∀ {l:List Pr},Ag a (l.filter λx=>q x.key)=if q a=true then Ag a l else none
 | []=>by simp[M.Ui]
 |x::l=>by
  rw[AW];by_cases b:x.key=a
  ·subst b;split
   ·rw[M.BA,M.BA,if_pos rfl,if_pos rfl]
   ·rename_i c;rw[mL,if_neg c]
  ·split
   ·rw[M.BA,if_neg b,mL,M.BA,if_neg b]
   ·rw[mL,M.BA,if_neg b]
theorem AMm {a:A2P}{b:Nat}{l:List Pr}(c: ∀x∈l.take b,x.key≠a):Ag a (l.drop b)=Ag a l:=by
 conv=>rhs;rw[<- DG b l]
 rw[M.Ns,M.EZ c,LO]
theorem APZ {k:List Pr}{p:dd}{u:du}{wid:A2P}{l:List Ev}{e:Nat}(s:Sorted k)(m:Ka k p u)(v:Ai wid=true)(n:p wid=some l)(A:e<=l.length):
  kD k (WX wid) (dV wid (e+1)) 32=((SH wid l).drop e).take 32:=by
 have h:=(m.eo wid l n).next.2;have w:=(m.eo wid l n).len;unfold kD;rw[show(32:Int).toNat=32 from rfl];congr 1;refine Sorted.ext (s.sublist Hc) ((XM w h).sublist (List.drop_sublist _ _)) λc=>?_
 rw[mL (q:=λc=>gS (WX wid) c&& !aQ c (dV wid (e+1)))];by_cases j:gS (WX wid) c=true
 ·rw[j,DP];have r:=m.cF wid v c j;rw[n,IN] at r;by_cases f:aQ c (dV wid (e+1))=true
  ·rw[f,if_neg (by simp)]
   symm
   refine M.EZ λx g b=>?_
   obtain⟨i,a⟩:=Ge g;rw[Bm] at a;obtain⟨t,d,rfl⟩:=Qx a;rw[QJ h d] at b;subst b;have y:=(List.getElem?_eq_some_iff.1 d).1;by_cases z:i=0
   ·subst z;rw[Gk,Bl] at f;cases f
   ·have:=OC f;rw[lL (by omega) (by omega)] at this;cases this
  ·have o:aQ c (dV wid (e+1))=false:=by simpa using f
   rw[o,if_pos (by rfl),r]
   symm
   refine AMm λx g b=>?_
   obtain⟨i,a⟩:=Ge g;rw[E0] at a;split at a
   ·rename_i B;obtain⟨t,d,rfl⟩:=Qx a;have y:=(List.getElem?_eq_some_iff.1 d).1;rw[QJ h d] at b;subst b;rw[lL (by omega) (by omega)] at o;cases o
   ·cases a
 ·rw[if_neg (by simp[j])]
  symm
  refine M.EZ λx g b=>?_
  obtain⟨i,a⟩:=Ge g;rw[Bm] at a;obtain⟨t,d,rfl⟩:=Qx a;rw[QJ h d] at b;subst b;exact j (wo wid _)
theorem Lm {a:A2P}{b m:List Pr}(s:Sorted m)(c: ∀d∈b,d.key≠a):Ag a (dc m b)=Ag a m:=by rw[Xy a s,M.EZ λx e=>c x (List.mem_reverse.1 e)]
theorem mM {b m:List Pr}(s:Sorted m){p:Pr}(d:p∈b)(e: ∀a∈b,a.key=p.key->a=p):Ag p.key (dc m b)=if p.gone then none else some p:=by
 rw[Xy p.key s];cases c:Ag p.key b.reverse with
 |none=>
  exfalso;unfold Ag at c;rw[HE] at c;have:=c p (List.mem_reverse.2 d);simp at this
 |some a=>
  obtain⟨f,g⟩:=M.OA c;obtain rfl:=e a (List.mem_reverse.1 g) f;show alive (some a)=_;rw[I9]
def dN {a:Type}(f:A2P->Option a)(c:A2P)(x:a):A2P->Option a:=λb=>if b=c then some x else f b
theorem Jq {a:Type}{f:A2P->Option a}{k:A2P}{x:a}:dN f k x k=some x:=if_pos rfl
theorem Q3 {b:Type}{f:A2P->Option b}{c a:A2P}{x:b}(d:a≠c):dN f c x a=f a:=if_neg d
def pb {a:Type}(f:A2P->Option a):Option (A2P×a)->A2P->Option a
 |none=>f
 |some (b,x)=>dN f b x
structure fw (b:List Pr) (o:Option (A2P×(List UInt8×Int×Int))):Prop where
 eZ: ∀p∈b,(CV p.key≠104/\CV p.key≠119/\CV p.key≠114)\/ ∃r x,o=some (r,x)/\p=YJ r x
 has: ∀r x,o=some (r,x)->YJ r x∈b/\Ai r=true/\(0<=x.2.1/\x.2.1<=4)/\(0<=x.2.2/\x.2.2<=501)/\x.1.length<=2000
theorem Ka.land {F b:List Pr}{h:dd}{A:du}{wid:A2P}{more:List Ev}{t:Option (A2P×(List UInt8×Int×Int))}(q:Ka F h A)(s:Sorted F)(G:Ai wid=true)
  (o:UA ((h wid).getD []++more)) (B:fw b t):
  Ka (dc F (more.map (O7 wid)++([TM wid ((h wid).getD []++more)]++b))) (dN h wid ((h wid).getD []++more)) (pb A t):=by
 have N:=o.next.2;have P:=o.len;have u: ∀p∈b,CV p.key≠104/\CV p.key≠119:=λp C=>by
  rcases B.eZ p C with a|⟨f,x,_,rfl⟩
  ·exact⟨a.1,a.2.1⟩
  ·exact⟨by show CV (Mt f)≠104;rw[Mi];decide,by show CV (Mt f)≠119;rw[Mi];decide⟩
 have rowAt: ∀e∈more,∃i:Nat,((h wid).getD []++more)[i]? =some e/\(O7 wid e).key=dV wid (i+1):=λe Q=>by
  obtain⟨i,v⟩:=Ge Q;have:((h wid).getD []++more)[((h wid).getD []).length+i]? =some e:=by rw[DE (by omega),Vc];exact v
  exact⟨_,this,QJ N this⟩
 refine⟨λd w D y=>?_,λd w=>?_,λf O=>?_,λd l E=>?_,λf x m=>?_⟩
 ·have k:=qE y;by_cases e:d=wid
  ·subst e;rw[Jq,IN];by_cases H: ∃p∈more.map (O7 d),p.key=D
   ·obtain⟨p,C,rfl⟩:=H;obtain⟨n,z,rfl⟩:=List.mem_map.1 C;obtain⟨i,v,R⟩:=rowAt n z;have S:O7 d n∈SH d ((h d).getD []++more):=List.mem_map.2 ⟨n,AF v,rfl⟩;rw[Sorted.find (XM P N) S,mM s (Fo _ C) (λg j c=>?_)]
    ·rfl
    ·rcases List.mem_append.1 j with a|a
     ·obtain⟨T,U,rfl⟩:=List.mem_map.1 a;obtain⟨V,I,W⟩:=rowAt T U;have Z:=(List.getElem?_eq_some_iff.1 v).1;have aa:=(List.getElem?_eq_some_iff.1 I).1;rw[R,W] at c;have:=(AP8 (Dw G) (Dw G) (by omega) (by omega) c).2;have:V=i:=by omega
      subst this;rw[v] at I;cases I;rfl
     ·rcases List.mem_append.1 a with a|a
      ·rw[List.mem_singleton.1 a] at c;rw[<- c] at k;rw[show CV (TM d ((h d).getD []++more)).key=119 from Gw d] at k;exact absurd k (by decide)
      ·exact absurd (by rw[c];exact k) (u g a).1
   ·rw[Lm s λg j c=>?_,q.cF d w D y]
    ·unfold SH;rw[Cd,M.Ns,M.EZ (l:=more.map (O7 d)) λx m X=>H ⟨x,m,X⟩];cases Ag D (List.map (O7 d) ((h d).getD []))<;>rfl
    ·rcases List.mem_append.1 j with a|a
     ·exact H ⟨g,a,c⟩
     ·rcases List.mem_append.1 a with a|a
      ·rw[List.mem_singleton.1 a] at c;rw[<- c] at k;rw[show CV (TM d ((h d).getD []++more)).key=119 from Gw d] at k;exact absurd k (by decide)
      ·exact absurd (by rw[c];exact k) (u g a).1
  ·rw[Q3 e,Lm s λg j c=>?_,q.cF d w D y];rcases List.mem_append.1 j with a|a
   ·obtain⟨n,z,rfl⟩:=List.mem_map.1 a;rw[<- c] at y;exact e (wq (Dw w) (Dw G) y)
   ·rcases List.mem_append.1 a with a|a
    ·rw[List.mem_singleton.1 a] at c;rw[<- c] at k;rw[show CV (TM wid ((h wid).getD []++more)).key=119 from Gw wid] at k;exact absurd k (by decide)
    ·exact absurd (by rw[c];exact k) (u g a).1
 ·by_cases e:d=wid
  ·subst e;rw[Jq];refine(mM (p:=TM d ((h d).getD []++more)) s (by simp) λg j c=>?_).trans rfl;rcases List.mem_append.1 j with a|a
   ·obtain⟨n,z,rfl⟩:=List.mem_map.1 a;have:=congrArg CV c;rw[show CV (O7 d n).key=104 from nJ _ _,show CV (TM d ((h d).getD []++more)).key=119 from Gw d] at this;exact absurd this (by decide)
   ·rcases List.mem_append.1 a with a|a
    ·exact List.mem_singleton.1 a
    ·exact absurd ((congrArg CV c).trans (Gw d)) (u g a).2
  ·rw[Q3 e,Lm s λg j c=>?_,q.gX d w];rcases List.mem_append.1 j with a|a
   ·obtain⟨n,z,rfl⟩:=List.mem_map.1 a;have:=congrArg CV c;rw[show CV (O7 wid n).key=104 from nJ _ _,Gw] at this;exact absurd this (by decide)
   ·rcases List.mem_append.1 a with a|a
    ·rw[List.mem_singleton.1 a] at c;exact e (ANB c).symm
    ·exact absurd ((congrArg CV c).trans (Gw d)) (u g a).2
 ·have no: ∀g∈more.map (O7 wid)++([TM wid ((h wid).getD []++more)]++b),g.key=Mt f-> ∃x,t=some (f,x)/\g=YJ f x:=λg j c=>by
   have o:=(congrArg CV c).trans (Mi f);rcases List.mem_append.1 j with a|a
   ·obtain⟨n,z,rfl⟩:=List.mem_map.1 a;rw[show CV (O7 wid n).key=104 from nJ _ _] at o;exact absurd o (by decide)
   ·rcases List.mem_append.1 a with a|a
    ·rw[List.mem_singleton.1 a,show CV (TM wid ((h wid).getD []++more)).key=119 from Gw wid] at o;exact absurd o (by decide)
    ·rcases B.eZ g a with a|⟨r,x,Y,rfl⟩
     ·exact absurd o a.2.2
     ·have:r=f:=wu c;subst this;exact⟨x,Y,rfl⟩
  cases t with
  |none=>
   rw[Lm s λg j c=>?_,q.jF f O]
   ·rfl
   ·obtain⟨x,m,_⟩:=no g j c;cases m
  |some J=>
   obtain⟨r,x⟩:=J;show _=(dN A r x f).map (YJ f);by_cases e:f=r
   ·subst e;rw[Jq];refine(mM (p:=YJ f x) s ?_ λg j c=>?_).trans rfl
    ·exact Hh _ (Hh _ (B.has f x rfl).1)
    ·obtain⟨K,L,rfl⟩:=no g j c;cases L;rfl
   ·rw[Q3 e,Lm s λg j c=>?_,q.jF f O];obtain⟨K,L,_⟩:=no g j c;cases L;exact e rfl
 ·by_cases e:d=wid
  ·subst e;rw[Jq] at E;cases E;exact o
  ·rw[Q3 e] at E;exact q.eo d l E
 ·cases t with
  |none=>exact q.jG f x m
  |some J=>
   obtain⟨r,K⟩:=J;have m:dN A r K f=some x:=m;by_cases e:f=r
   ·subst e;rw[Jq] at m;cases m;exact(B.has f x rfl).2.2
   ·rw[Q3 e] at m;exact q.jG f x m
theorem Ka.aM {g b:List Pr}{j:dd}{k:du}(a:Ka g j k)(s:Sorted g)(h: ∀p∈b,CV p.key≠104/\CV p.key≠119/\CV p.key≠114):Ka (dc g b) j k:=by
 refine⟨λf i n l=>?_,λf i=>?_,λm o=>?_,a.eo,a.jG⟩
 ·rw[Lm s λc d e=>(h c d).1 (by rw[e];exact qE l)];exact a.cF f i n l
 ·rw[Lm s λc d e=>(h c d).2.1 (by rw[e];exact Gw f)];exact a.gX f i
 ·rw[Lm s λc d e=>(h c d).2.2 (by rw[e];exact Mi m)];exact a.jF m o
theorem Ka.empty:Ka [] (λ_=>none) (λ_=>none):=
 ⟨λb _ d _=>rfl,λb _=>rfl,λc _=>rfl,λb l a=>(by cases a),λc x a=>(by cases a)⟩
theorem xP(a b:Nat):((a:Nat):Int).tmod ((b:Nat):Int)=((a % b:Nat):Int):=by rw[Int.tmod_eq_emod_of_nonneg (by omega)];rfl
theorem ANy(a b:Nat):((a:Nat):Int).tdiv ((b:Nat):Int)=((a / b:Nat):Int):=by rw[Int.tdiv_eq_ediv_of_nonneg (by omega)];rfl
theorem AQj {y:ak}{f:aa}{e:Nat}{r:A2O}(z:e<18446744073709551616)(A: ∀g,Ext f g->r (J7 (AX (BH e))) g):AA y P LF #[.int .u64 (e:Int)] f r:=by
 refine XD ?_;unfold PL;have t:=AV z;refine Loop.rule (λm x h=> ∃(a:Nat) (s:Sl) (c:List UInt8),x=((a:Int),s,())/\Own Fy DZ h s c/\Ext f h/\(∀ b,s.af=some b->f.size<=b)/\BH e=c++BH a/\m=a/\a<=e) ?_
  ⟨e,⟨none,0,0⟩,[],rfl,Own.nil,Mod.refl,λb i=>by simp[Sl.af] at i,rfl,rfl,A0 _⟩
 rintro K m _ h ⟨a,s,c,rfl,u,x,j,k,G,H⟩ B;have hd:c.length<=10:=by rw[k] at t;simp at t;omega
 refine ae.intro (λn=>?_) (λn=>?_)
 ·have o:a<128:=by simp at n;omega
  refine al.aZ (E:=Fy) (x:=CX a) (s:=s) (l:=c) (by dsimp only[Fy];rw[Df (show a<256 by omega),wrap_u8,Ax (show a<256 by omega)]) nW u (by simp;omega) (by simp[maxLen];omega) λv g p q w C=>?_
  refine KS ZJ kq Kj p.view ⟨_,rfl,?_⟩;have D:c++ [CX a]=BH e:=by rw[k,FN o]
  rw[D];exact A _ (x.more q j)
 ·have o: ¬a<128:=by simp at n;omega
  have F:J8 .u8 (J8 .u64 ((((a:Nat):Int).tmod (128:Int))+(128:Int)))=(((CX (a % 128+128)).toNat:Nat):Int):=by have d:=xP a 128;rw[show(((128:Nat):Int))=(128:Int) from rfl] at d;rw[d,show((a % 128:Nat):Int)+(128:Int)=((a % 128+128:Nat):Int) by simp,Ba (by omega),wrap_u8,Df (by omega),Ax (by omega)]
  refine al.aZ (E:=Fy) (x:=CX (a % 128+128)) (s:=s) (l:=c) (by dsimp only[Fy];rw[F]) nW u (by simp;omega) (by simp[maxLen];omega) λv g p q w C=>?_
  refine B (a / 128) _ _ (by omega) ⟨a / 128,v,c++ [CX (a % 128+128)],?_,p,x.more q j,λb i=>?_,?_,rfl,by omega⟩
  ·dsimp only;have d:=ANy a 128;rw[show(((128:Nat):Int))=(128:Int) from rfl] at d;rw[d,Ba (by omega)]
  ·rcases w b i with d|d
   ·exact j b d
   ·have:=x.size;omega
  ·rw[k,TW o];simp
theorem qU {A:ak}{h:aa}{n:Nat}{R:A2O}(e:n<=9223372036854775807)(b: ∀a,Ext h a->R (J7 (AX (BH n))) a):AA A P CO #[J6 J9 (n:Int)] h R:=by refine Wu ?_;unfold PO;rw[Ba (by omega)];exact AQj (by omega) λc d=>⟨_,rfl,b c d⟩
theorem xQ {A:ak}{h:aa}{l:List UInt8}{R:A2O}(d:l.length<=1099511627776)(b: ∀a,Ext h a->R (J7 (AX (BG l))) a):AA A P DN #[J7 (AX l)] h R:=by
 refine VS ?_;unfold Ot;rw[AP];have:=AV (n:=l.length) (by omega);refine qU (by omega) λe c=>⟨_,rfl,⟨by rw[AP,max_i64];omega,?_⟩⟩
 rw[Ae];exact b _ c
theorem Nv {w:ak}{a:aa}{s:A2P}{r:A2O}(D:s.size<=1099511627776)(b:r (J3 (Ai s)) a):AA w P CB #[J7 s] a r:=by
 refine TH ?_;unfold NH;refine Loop.rule (λm x g=> ∃i:Nat,x=((i:Int),())/\g=a/\m=s.size-i/\i<=s.size/\ ∀c∈(bl s).take i,33<=c.toNat/\c.toNat<=126) ?_ ⟨0,rfl,rfl,rfl,by omega,by simp⟩;rintro E m _ g ⟨i,rfl,e,rfl,F,j⟩ y;subst g;refine ae.intro (λk=>?_) (λk=>?_)
 ·have l:i<s.size:=by simpa using k
  obtain⟨c,n⟩: ∃c,(bl s)[i]? =some c:=⟨_,A2 (by rw[Av];exact l)⟩;have z:c∈bl s:=AF n;dsimp only;rw[Ng n];refine ah.mk λA B=>⟨⟨by omega,by omega⟩,?_⟩
  have t: ∀h:Bool,(h=true↔ ¬(33<=c.toNat/\c.toNat<=126))->A (h,()) a:=λh u=>by
   refine B _ _ ?_;refine ae.intro (λf=>?_) (λf=>?_)
   ·have e:Ai s=false:=by rw[I3];intro C;exact u.1 f ((FK.1 C).2.2 c z)
    rw[e] at b;exact b
   ·rw[AZ (by omega)];refine y (s.size-(i+1)) _ _ (by omega) ⟨i+1,rfl,rfl,rfl,l,λx d=>?_⟩;rw[AD,n,CN] at d;rcases List.mem_append.1 d with d|d
    ·exact j x d
    ·simp at d;subst d;have f:h=false:=f;exact Decidable.byContradiction λg=>by rw[u.2 g] at f;cases f
  refine ae.intro (λo=>t _ ⟨λ_=>by simp at o;omega,λ_=>rfl⟩) (λo=>⟨⟨by omega,by omega⟩,t _ ⟨λv=>by simp at v;omega,λv=>by simp at o;simp;omega⟩⟩)
 ·have l:i=s.size:=by simp at k;omega
  rw[AE (by rw[Av];omega)] at j;have e:Ai s=(decide (1<=s.size)&&decide (s.size<=16)):=by rw[Ek,FK];simp only[A3,decide_eq_true_eq];exact⟨λa=>⟨a.1,a.2.1⟩,λa=>⟨a.1,a.2,j⟩⟩
  rw[e] at b;refine ae.intro (λp=>?_) (λp=>?_)
  ·have q:1<=s.size:=by simp at p;omega
   rw[decide_eq_true q,DP] at b;have e:decide ((s.size:Int)<=(16:Int))=decide (s.size<=16):=by rw[decide_eq_decide];omega
   rw[e];exact b
  ·have q: ¬1<=s.size:=by simp at p;omega
   rw[decide_eq_false q,Ft] at b;exact b
theorem o0 {i:ak}{g:aa}{a c b:Int}{h:A2O}(d:h (J3 (bS a c b)) g):AA i P EE #[J6 J9 a,J6 J9 c,J6 J9 b] g h:=by
 refine YC ?_;unfold QF;refine ae.intro (λe=>?_) (λe=>?_)
 ·have f:bS a c b=decide (a<=b):=by simp at e;unfold bS;rw[decide_eq_decide];omega
  rw[f] at d;exact d
 ·have f:bS a c b=false:=by simp at e;unfold bS;simp;omega
  rw[f] at d;exact d
theorem ky(a:Int):(a==(0:Int))=decide (a=0):=by by_cases b:a=0<;>simp[b]
theorem ae.and {b:Bool}{a c:Prop}(d:b=true->a)(e:b=false->c):ae b a c:=ae.intro d e
theorem AOS {l:ak}{m:aa}{x:bP}{w:A2O}(y:x.name.size<=1099511627776)(C:x.aE.size<=1099511627776)(D: ∀z,Ext m z->w (J3 (KW x)) z):
  AA l P KG #[.agg #[J6 J9 x.kind,J7 x.name,J7 x.aE,J6 J9 x.tries,J6 J9 x.aq,J6 J9 x.wait]] m w:=by
 refine VL ?_;unfold Ov;refine al.mk λn _ b E _=>?_
 have a:=D n E;refine AC.mk (AL b rfl) ?_;unfold KW at a;refine ae.intro (λg=>?_) (λg=>?_)
 ·have g:x.kind=1:=by simpa using g
  rw[if_pos g] at a;refine ah.mk λK F=>?_
  have key: ∀o:Bool,o= !((decide (x.aE=Fg)&&decide (x.aq=0))||(Ai x.aE&&bS x.aq 1 5))->K (o,()) n:=λo G=>by
   refine F _ _ ?_;subst G;generalize ((decide (x.aE=Fg)&&decide (x.aq=0))||(Ai x.aE&&bS x.aq 1 5))=u at*
   cases u with
   |false=>exact ae.yes rfl (by simpa using a)
   |true=>
    refine ae.no rfl (AJ.mk (AB b rfl) (Nv y ⟨_,rfl,?_⟩));refine ae.intro (λc=>?_) (λc=>by rw[c] at a;simpa using a);refine AC.mk (AB b rfl) (o0 ⟨_,rfl,?_⟩);refine ae.intro (λd=>?_) (λd=>by rw[c,d] at a;simpa using a);refine AC.mk (AB b rfl) ?_;rw[c,d] at a;rw[ky];simpa using a
  have sub:x.aE≠Fg->AA l P CB #[J7 x.aE] n λv2 p=> ∃A:Bool,v2=J3 A/\(ae (!A) (K (true,()) p) (AC J9 p ((⟨m.size,0,none⟩:Q6).add 4) λH=>
    AA l P EE #[J6 J9 H,J6 J9 1,J6 J9 5] p λI J=> ∃B:Bool,I=J3 B/\(K ((!B),()) J))):=λe=>by
   have k:decide (x.aE=Fg)=false:=decide_eq_false e;refine Nv C ⟨_,rfl,?_⟩;refine ae.intro (λh=>key _ ?_) (λh=>?_)
   ·have h:Ai x.aE=false:=by simpa using h
    rw[k,h];rfl
   ·have h:Ai x.aE=true:=by simpa using h
    refine AC.mk (AB b rfl) (o0 ⟨_,rfl,key _ ?_⟩);rw[k,h];rfl
  refine AJ.mk (AB b rfl) ?_;rw[VZ];refine ae.intro (λe=>?_) (λe=>?_)
  ·have q:x.aE=Fg:=of_decide_eq_true e;have r:Ai x.aE=false:=by
    cases r:Ai x.aE with
    |false=>rfl
    |true=>exact absurd q (ANH r)
   refine AC.mk (AB b rfl) ?_;refine ae.intro (λs=>key _ ?_) (λs=>?_)
   ·have k:decide (x.aq=0)=false:=by simpa using s
    rw[e,k,r];rfl
   ·have k:decide (x.aq=0)=true:=by simpa using s
    refine AJ.mk (AB b rfl) ?_;rw[VZ,e];refine ae.no rfl (key _ ?_);rw[e,k];rfl
  ·have q:x.aE≠Fg:=of_decide_eq_false e;refine AJ.mk (AB b rfl) ?_;rw[VZ,e];exact ae.yes rfl (AJ.mk (AB b rfl) (sub q))
 ·have g:x.kind≠1:=by simpa using g
  rw[if_neg g] at a;refine ae.intro (λi=>?_) (λi=>?_)
  ·have i:x.kind=2:=by simpa using i
   rw[if_pos i] at a;refine AJ.mk (AB b rfl) ?_;rw[VZ];refine ae.intro (λc=>?_) (λc=>by rw[c] at a;simpa using a);refine AJ.mk (AB b rfl) ?_;rw[VZ];refine ae.intro (λd=>?_) (λd=>by rw[c,d] at a;simpa using a);refine AC.mk (AB b rfl) ?_;rw[ky];refine ae.intro (λf=>?_) (λf=>by rw[c,d,f] at a;simpa using a);refine AC.mk (AB b rfl) ?_;rw[ky];refine ae.intro (λt=>?_) (λt=>by rw[c,d,f,t] at a;simpa using a);refine AC.mk (AB b rfl) (o0 ⟨_,rfl,?_⟩);rw[c,d,f,t] at a;simpa using a
  ·have i:x.kind≠2:=by simpa using i
   rw[if_neg i] at a;refine ae.intro (λj=>?_) (λj=>?_)
   ·have j:x.kind=3:=by simpa using j
    rw[if_pos j] at a;refine AJ.mk (AB b rfl) (Nv y ⟨_,rfl,?_⟩);refine ae.intro (λv=>?_) (λv=>by rw[v] at a;simpa using a);rw[v] at a;refine AJ.mk (AB b rfl) ?_;rw[VZ];refine ae.intro (λc=>?_) (λc=>by rw[c] at a;simpa using a);refine AC.mk (AB b rfl) ?_;rw[ky];refine ae.intro (λd=>?_) (λd=>by rw[c,d] at a;simpa using a);refine AC.mk (AB b rfl) ?_;rw[ky];refine ae.intro (λf=>?_) (λf=>by rw[c,d,f] at a;simpa using a);refine AC.mk (AB b rfl) ?_;rw[ky];rw[c,d,f] at a;simpa using a
   ·have j:x.kind≠3:=by simpa using j
    rw[if_neg j] at a;exact a
theorem AM5 {G:ak}{e:aa}{s:Sl}{p:cj}{k:A2O}(v:View Lr e s p.steps)(U:p.steps.length<=1099511627776)(A: ∀x∈p.steps,x.name.size<=1099511627776/\x.aE.size<=1099511627776)(B: ∀d,Ext e d->k (J3 (EA p)) d):
  AA G P Jh #[.agg #[J4 s.p s.len s.cap,J6 J9 p.ar]] e k:=by
 refine TD ?_;unfold NM;refine al.mk λl _ n C _=>?_
 refine ah.mk λK H=>AY.mk (s:=s) (AL n rfl) ?_
 rw[v.len];have no: ∀d,Ext e d->EA p=false->k (J3 false) d:=λd x o=>by have:=B d x;rw[o] at this;exact this
 have key: ∀h:Bool,(h=true↔ ¬(p.steps.length<=16/\bS p.ar 0 16000=true))->K (h,()) l:=λh D=>by
  refine H _ _ ?_;refine ae.intro (λb=>no l C ?_) (λb=>?_)
  ·rw[I3];intro f;simp only[EA,A3,decide_eq_true_eq] at f;exact D.1 b f.1
  have I:p.steps.length<=16/\bS p.ar 0 16000=true:=Decidable.byContradiction λg=>by
   have b:h=false:=b;rw[D.2 g] at b;cases b
  refine Loop.rule (λm x g=> ∃i:Nat,x=((i:Int),())/\Ext l g/\m=p.steps.length-i/\i<=p.steps.length/\(p.steps.take i).all KW=true) ?_ ⟨0,rfl,Mod.refl,rfl,by omega,rfl⟩;rintro V m _ g ⟨i,rfl,q,rfl,W,r⟩ J;have E:=q.af n (λe=>e);have t:=C.trans q;refine AY.mk (s:=s) (AL E rfl) ?_;rw[v.len];refine ae.intro (λu=>?_) (λu=>?_)
  ·have w:i<p.steps.length:=by simpa using u
   obtain⟨x,y⟩: ∃x,p.steps[i]? =some x:=⟨_,A2 w⟩;have z:=AF y;refine AY.mk (s:=s) (AL E rfl) ?_;refine(v.ext t).idx y λa _ c=>?_
   obtain⟨L,M,N,O,Q,R⟩:=nX c;refine AC.mk L (AJ.mk M (AJ.mk N (AC.mk O (AC.mk Q (AC.mk R ?_)))));refine AOS (x:=x) (A x z).1 (A x z).2 λS F=>⟨_,rfl,?_⟩
   refine ae.intro (λj=>no S (t.trans F) ?_) (λj=>?_)
   ·rw[I3];intro f;simp only[EA,A3,decide_eq_true_eq,CC] at f;have:=f.2 x z;rw[this] at j;cases j
   ·dsimp only;rw[AZ (by omega)];refine J (p.steps.length-(i+1)) _ _ (by omega) ⟨i+1,rfl,q.trans F,rfl,w,?_⟩;rw[AD,y,CN,T4,r];simpa using j
  ·have w:i=p.steps.length:=by simp at u;omega
   rw[AE (by omega)] at r;have:=B g t;have o:EA p=true:=by simp only[EA,A3,decide_eq_true_eq];exact⟨I,r⟩
   rw[o] at this;exact this
 refine ae.intro (λb=>key _ ⟨λ_ X=>by simp at b;omega,λ_=>rfl⟩) (λb=>?_);refine AC.mk (AB n rfl) (o0 ⟨_,rfl,key _ ?_⟩);have T:p.steps.length<=16:=by simp at b;omega
 simp[T]
theorem Ug {A:ak}{h:aa}{s:A2P}{R:A2O}(b:s.size<=1099511627776)(c: ∀a,Ext h a->R (J7 (AX (BG (bl s)))) a):AA A P DN #[J7 s] h R:=by have:=xQ (A:=A) (h:=h) (l:=bl s) (R:=R) (by rw[Av];exact b) c;rwa [JR] at this
theorem Qi {A:ak}{h:aa}{n:Int}{R:A2O}(c:0<=n)(d:n<=9223372036854775807)(b: ∀a,Ext h a->R (J7 (AX (BH n.toNat))) a):AA A P CO #[J6 J9 n] h R:=by have:=qU (A:=A) (h:=h) (n:=n.toNat) (R:=R) (by omega) b;rwa [show((n.toNat:Nat):Int)=n by omega] at this
theorem F7 {s:A2P}(a:s.size<18446744073709551616):(BG (bl s)).length<=10+s.size:=by have:=AV a;simp only[BG,A1,Av];omega
theorem Wj {x:bP}(a:KW x=true):0<=x.kind/\x.kind<=3/\(x.kind=1\/x.kind=2\/x.kind=3)/\x.name.size<=16/\x.aE.size<=16/\0<=x.tries/\x.tries<=5/\0<=x.aq/\x.aq<=5/\0<=x.wait/\x.wait<=1000:=by
 have d: ∀ {s:A2P},Ai s=true->s.size<=16:=λa=>(FK.1 a).2.1
 have z:Fg.size=0:=rfl;unfold KW at a;split at a
 ·rename_i e;simp only[A3,Cp,decide_eq_true_eq,BX] at a;obtain⟨⟨⟨g,h⟩,l⟩,m⟩:=a;have:=d h;rcases g with⟨b,c⟩|⟨b,c⟩
  ·rw[b];omega
  ·have:=d b;omega
 ·split at a
  ·rename_i i e;simp only[A3,decide_eq_true_eq,BX] at a;obtain⟨⟨⟨⟨b,c⟩,j⟩,k⟩,f⟩:=a;rw[b,c];omega
  ·split at a
   ·rename_i i n e;simp only[A3,decide_eq_true_eq] at a;obtain⟨⟨⟨⟨b,c⟩,j⟩,k⟩,f⟩:=a;have:=d f;rw[b];omega
   ·cases a
theorem AJk {x:bP}(a:KW x=true):(EY x).length<=100:=by
 obtain⟨b,c,d,e,f,g,h,i,j,k,l⟩:=Wj a;have m:=AV (n:=x.kind.toNat) (by omega);have o:=AV (n:=x.tries.toNat) (by omega);have p:=AV (n:=x.aq.toNat) (by omega);have q:=AV (n:=x.wait.toNat) (by omega);have r:=F7 (s:=x.name) (by omega);have t:=F7 (s:=x.aE) (by omega);unfold EY;rw[A1];split
 ·simp only[A1];omega
 ·split<;>omega
theorem MX: ∀ {l:List bP},l.all KW=true->(l.flatMap EY).length<=l.length*100
 | [],_=>by simp
 |x::l,a=>by
  simp only[Kf,A3] at a;have b:=AJk a.1;have c:=MX a.2;simp only[AI,A1,A6];omega
def Nb(p:cj):J0:=J1 #[J7 (AX (if EA p then Bd p else [])),J6 J9 (if EA p then 0 else 130)]
theorem AGv {U:ak}{b:aa}{s:Sl}{p:cj}{u:A2O}(v:View Lr b s p.steps)(V:p.steps.length<=1099511627776)(W: ∀x∈p.steps,x.name.size<=1099511627776/\x.aE.size<=1099511627776)(H: ∀d,Ext b d->u (Nb p) d):
  AA U P I5 #[.agg #[J4 s.p s.len s.cap,J6 J9 p.ar]] b u:=by
 refine Sv ?_;unfold Ml;refine al.mk λaJ _ w k _=>?_
 refine AY.mk (s:=s) (AL w rfl) (AC.mk (AB w rfl) ?_);refine AM5 (p:=p) (v.ext k) V W λy o=>⟨_,rfl,?_⟩
 cases q:EA p with
 |false=>
  refine ae.yes rfl ?_;have:=H y (k.trans o);rw[Nb,q] at this;exact this
 |true=>
  refine ae.no rfl ?_;have X: ∀d,Ext y d->u (J1 #[J7 (AX (Bd p)),J6 J9 0]) d:=λd x=>by
   have:=H d ((k.trans o).trans x);rw[Nb,q] at this;exact this
  simp only[EA,A3,decide_eq_true_eq] at q;obtain⟨⟨aK,Y⟩,I⟩:=q;have aL:=BX.1 Y;have z:=o.af w (λb=>b);refine AC.mk (AB z rfl) (Qi (by omega) (by omega) λaM J=>⟨_,rfl,?_⟩);have L:=J.af z (λb=>b);refine AY.mk (s:=s) (AL L rfl) ⟨AL z rfl,?_⟩;rw[v.len];have aN:=AV (n:=p.ar.toNat) (by omega);have aO:=AV (n:=p.steps.length) (by omega);refine qU (by omega) λZ M=>⟨_,rfl,⟨by rw[AP,AP,max_i64];omega,?_⟩⟩
  have ac:=M.af L (λb=>b);rw[Ae];refine Loop.rule (λm x g=> ∃i:Nat,x=(AX ((BH p.ar.toNat++BH p.steps.length)++(p.steps.take i).flatMap EY),(i:Int),())/\Ext Z g/\m=p.steps.length-i/\i<=p.steps.length) ?_ ⟨0,by simp,Mod.refl,rfl,by omega⟩;rintro K m _ g ⟨i,rfl,A,rfl,aP⟩ ad;have N:=A.af ac (λb=>b);have O:Ext y g:=(J.trans M).trans A;have af:Ext b g:=(k.trans o).trans O;refine AY.mk (s:=s) (AL N rfl) ?_;rw[v.len];refine ae.intro (λB=>?_) (λB=>?_)
  ·have C:i<p.steps.length:=by simpa using B
   obtain⟨x,D⟩: ∃x,p.steps[i]? =some x:=⟨_,A2 C⟩;have ag:=AF D;have ai:=List.all_eq_true.1 I x ag;obtain⟨aQ,aR,aS,aT,aU,aV,aW,aX,aY,aZ,a0⟩:=Wj ai;have a1:((p.steps.take i).flatMap EY).length<=1600:=by
    have:=MX (l:=p.steps.take i) (List.all_eq_true.2 λaj am=>List.all_eq_true.1 I aj (DM am));have:(p.steps.take i).length<=16:=by simp;omega
    omega
   refine ah.mk λan ao=>?_
   have E: ∀d,Ext g d->an (AX (((BH p.ar.toNat++BH p.steps.length)++(p.steps.take i).flatMap EY)++EY x),()) d:=λd ap=>by
    refine ao _ _ ?_;dsimp only;rw[AZ (by omega)];refine ad (p.steps.length-(i+1)) _ _ (by omega) ⟨i+1,?_,A.trans ap,rfl,C⟩;rw[AD,D,CN,FF];simp[A4]
   generalize aq:(BH p.ar.toNat++BH p.steps.length)++(p.steps.take i).flatMap EY=ar at*
   have a2:ar.length<=2000:=by rw[<- aq];simp only[A1];omega
   refine AY.mk (s:=s) (AL N rfl) ?_;refine(v.ext af).idx D λa _ c=>?_
   obtain⟨au,av,aw,ax,ay,az⟩:=nX c;refine AC.mk au (AJ.mk av (AJ.mk aw (AC.mk ax (AC.mk ay (AC.mk az ?_)))));refine al.mk λa3 _ aA aC a4=>ab.mj aA λaD Q aE a5=>?_
   have aF:Ext g aD:=aC.more aE λc a6=>by omega
   refine AC.mk (AL Q rfl) (Qi (by omega) (by omega) λa7 R=>⟨_,rfl,?_⟩);have a8:=AV (n:=x.kind.toNat) (by omega);refine⟨by dsimp only;rw[AP,AP,max_i64];omega,?_⟩;have e:=R.af Q (λb=>b);have F:=aF.trans R;dsimp only;rw[Ae];refine AC.mk (AL e rfl) ?_;have a9:=AV (n:=x.tries.toNat) (by omega);have ba:=AV (n:=x.aq.toNat) (by omega);have bb:=AV (n:=x.wait.toNat) (by omega);have bc:=F7 (s:=x.name) (by omega);have bd:=F7 (s:=x.aE) (by omega);refine ae.intro (λf=>?_) (λf=>?_)
   ·have f:x.kind=1:=by simpa using f
    refine AJ.mk (AB e rfl) (Ug (by omega) λr j=>⟨_,rfl,?_⟩);have t:=j.af e (λb=>b);refine AC.mk (n:=x.tries) (AB t rfl) ⟨AB e rfl,?_⟩;refine Qi (by omega) (by omega) λbe S=>⟨_,rfl,⟨by rw[AP,AP,max_i64];omega,?_⟩⟩
    have G:=S.af t (λb=>b);refine AJ.mk (n:=x.aE) (AB G rfl) ⟨AB t rfl,AB e rfl,?_⟩;refine Ug (by omega) λbf T=>⟨_,rfl,⟨by rw[Ae,AP,AP,max_i64,A1];omega,?_⟩⟩
    have aG:=T.af G (λb=>b);refine AC.mk (n:=x.aq) (AB aG rfl) ⟨AB G rfl,AB t rfl,AB e rfl,?_⟩;refine Qi (by omega) (by omega) λaH aI=>⟨_,rfl,⟨?_,?_,?_⟩⟩
    ·rw[Ae,Ae,AP,AP,max_i64];simp only[A1];omega
    ·simp only[Ae,AP,max_i64,A1];omega
    ·have:=E aH ((((F.trans j).trans S).trans T).trans aI);simp only[EY] at this;rw[if_pos f] at this;simp only[Ae,A4] at this ⊢;exact this
   ·have f:x.kind≠1:=by simpa using f
    refine AC.mk (AL e rfl) ?_;refine ae.intro (λh=>?_) (λh=>?_)
    ·have h:x.kind=2:=by simpa using h
     refine AC.mk (AB e rfl) (Qi (by omega) (by omega) λr j=>⟨_,rfl,⟨by rw[AP,AP,max_i64,A1];omega,?_⟩⟩);have:=E r (F.trans j);simp only[EY] at this;rw[if_neg f,if_pos h] at this;simp only[Ae,A4] at this ⊢;exact this
    ·have h:x.kind≠2:=by simpa using h
     refine AJ.mk (AB e rfl) (Ug (by omega) λr j=>⟨_,rfl,⟨by rw[AP,AP,max_i64,A1];omega,?_⟩⟩);have:=E r (F.trans j);simp only[EY] at this;rw[if_neg f,if_neg h] at this;simp only[Ae,A4] at this ⊢;exact this
  ·have C:i=p.steps.length:=by simp at B;omega
   have:=X g O;dsimp only;rw[AE (by omega)];exact this
section
variable {A : ak} {h : aa} {R : A2O}
theorem AJs {l:List Ev}{sl:Sl}{t:bj}(v:View fT h sl l)(av:l.length<=500)(hd: ∀f∈l,f.data.size<1099511627776)(V:Ep TS l=some t)
  (W: ∀y a b c,Ext h y->Jk y t a b c->(∀ x,a.af=some x\/b.af=some x\/c.af=some x->h.size<=x)->R (J1 #[(t.V a b c).v,J6 J9 0,J6 J9 0]) y):
  AA A P Po #[J4 sl.p sl.len sl.cap] h R:=by
 refine ACU ?_;unfold Vr;refine al.mk λaw _ X Y E=>al.mk λax _ F G ay=>?_
 rw[E] at F;rw[E];have Z:=Y.trans G;have aa: ∀x,(⟨none,0,0⟩:Sl).af=some x\/(⟨none,0,0⟩:Sl).af=some x\/(⟨none,0,0⟩:Sl).af=some x->h.size+2<=x:=λx d=>by simp[Sl.af] at d
 refine Loop.rule (λm x k=> ∃(i:Nat) (s:bj) (a b c:Sl),x=((i:Int),())/\m=l.length-i/\i<=l.length/\Ext h k/\k[h.size]? =some (J2 bF.z.c Ap (0,0))/\k[h.size+1]? =some (J2 (s.V a b c).c Ap (0,0))/\
   Jk k s a b c/\(∀ x,a.af=some x\/b.af=some x\/c.af=some x->h.size+2<=x)/\ER s i/\Ep s (l.drop i)=some t) ?_
  ⟨0,TS,⟨none,0,0⟩,⟨none,0,0⟩,⟨none,0,0⟩,rfl,rfl,AG _,Z,G.af X (λh=>h),F,⟨View.nil,View.nil,View.nil⟩,aa,ER.zero,V⟩
 rintro K m _ H ⟨i,s,a,b,c,rfl,rfl,az,n,I,o,J,fr,L,g⟩ ab;have aA:=v.len;refine ae.intro (λz=>?_) (λz=>?_)
 ·have j:i<l.length:=by simp at z;omega
  obtain⟨f,p⟩: ∃f,l[i]? =some f:=⟨_,A2 j⟩;have ac:=AF p;have ad:l.drop i=f::l.drop (i+1):=by rw[Fk j];rw[A2 j] at p;cases p;rfl
  rw[ad,Ep] at g;split at g;rotate_left
  ·cases g
  rename_i M;refine(v.ext n).idx p λaC _ af=>MQ.mk f af ?_
  refine al.mk λN _ q ag ah=>aP.mk q (A0 8) λai O aj aD=>?_
  rw[pw] at O;have r:Ext H ai:=ag.more aj λc e=>by subst e;exact A0 _
  have aE:=Af o;refine Au.mk (s.V a b c) (Em (r.af o λh=>h)) (MQ.mk f (QO O) ?_);refine pD (J.ext r) L (by omega) (hd f ac) λaF ak am an ao ap u=>G8.mk _ ⟨_,rfl,?_⟩
  rw[M];have B:=r.trans ao;refine al.mk λaG _ aq C aH=>aP.mk aq (A0 12) λar Q S aI=>ae.no rfl ?_
  rw[Ow] at Q;have w:Ext H ar:=B.more (C.mod.trans S) λc e=>by subst e;exact B.size
  refine Au.mk _ (Em Q) (aP.mk (w.af o λh=>h) (A0 12) λaJ T D aK=>?_);rw[Ow] at T;dsimp only;rw[AZ (by omega)];have aL:=r.size;have aM:=C.size;have aN:=B.size;have aO:=w.size;have aQ:=n.size;refine ab (l.length-(i+1)) _ _ (by omega) ⟨i+1,_,ak,am,an,rfl,rfl,j,(n.trans w).more D λc e=>by subst e;omega,D.af (w.af I λh=>h) (by omega),T,?_,λx d=>?_,Ta L M,g⟩
  ·have au:=ap.ext (C.more S λc e=>by subst e;exact A0 _);exact au.mod D (λx d e=>by have:=u x (.inl d);omega) (λx d e=>by have:=u x (.inr (.inl d));omega) (λx d e=>by have:=u x (.inr (.inr d));omega)
  ·have:=u x d;omega
 ·have j:i=l.length:=by simp at z;omega
  subst j;rw[PA,Ep] at g;obtain rfl:s=t:=Bs g;refine Au.mk (s.V a b c) (Em o) (aP.mk I (A0 12) λN q U ah=>?_);rw[Ow] at q;refine Au.mk (s.V a b c) (Em q) (W N a b c (n.more U λc e=>by subst e;exact A0 _) (J.mod U (λx d e=>by have:=fr x (.inl d);omega) (λx d e=>by have:=fr x (.inr (.inl d));omega) (λx d e=>by have:=fr x (.inr (.inr d));omega)) λx d=>by have:=fr x d;omega)
theorem ARQ {wid:A2P}{l:List Ev}{sl:Sl}(s:Ai wid=true)(v:View fT h sl l)(S:l.length<=1000)(hd: ∀a∈l,FQ a=true/\a.data.size<1099511627776)
  (z: ∀d f,Own BR AU f d (l.map (O7 wid))->(∀ b,d.af=some b->h.size<=b)->Ext h f->R (J1 #[J4 d.p d.len d.cap,J6 J9 0]) f):
  AA A P PK #[J7 wid,J4 sl.p sl.len sl.cap] h R:=by
 refine AGa ?_;unfold tN;refine Fb ⟨_,rfl,?_⟩;rw[s];refine ae.no rfl ?_;refine Loop.rule (λm x t=> ∃(i:Nat) (e:Sl),x=(e,(i:Int),())/\m=l.length-i/\i<=l.length/\Ext h t/\Own BR AU t e ((l.take i).map (O7 wid))/\(∀ b,e.af=some b->h.size<=b)) ?_
  ⟨0,⟨none,0,0⟩,rfl,rfl,AG _,Mod.refl,Own.nil,λb k=>by simp[Sl.af] at k⟩
 rintro K m _ u ⟨i,e,rfl,rfl,T,g,n,fr⟩ B;dsimp only;have U:=v.len;refine ae.intro (λo=>?_) (λo=>?_)
 ·have j:i<l.length:=by simp at o;omega
  obtain⟨a,p⟩: ∃a,l[i]? =some a:=⟨_,A2 j⟩;obtain⟨ok,C⟩:=hd a (AF p);obtain⟨_,⟨V,W⟩,_⟩:=RU ok;refine(v.ext g).idx p λX _ D=>MQ.mk a D ?_
  refine al.mk λY _ F G Z=>aP.mk F (A0 8) λH q I aa=>?_
  rw[pw] at q;have J:Ext u H:=G.more I λc L=>by subst L;exact A0 _
  refine MQ.mk a (QO q) (AKe C λab w=>?_);unfold nZ;rw[ok];refine⟨_,_,rfl,ae.no rfl (AC.mk (AL (w.af q λh=>h) rfl) ?_)⟩;have ac:=Dw s;rw[show a.id=((a.id.toNat:Nat):Int) from by omega];refine sT (by omega) (by omega) λad M=>⟨_,rfl,?_⟩
  have r:=(J.trans w).trans M;refine al.aZ (E:=BR) (x:=O7 wid a) rfl Hz (n.ext r) (by simp only[BE,AH];omega) (by simp only[BE,AH,maxLen];omega) λd f N O Q af=>?_
  rw[AZ (by omega)];refine B (l.length-(i+1)) _ _ (by omega) ⟨i+1,d,rfl,rfl,j,(g.trans r).more O fr,?_,λb k=>?_⟩
  ·rw[AD,p,CN,Cd];exact N
  ·rcases Q b k with y|y
   ·exact fr b y
   ·have:=(g.trans r).size;omega
 ·have j:i=l.length:=by simp at o;omega
  rw[j,C5] at n;exact z e u n fr g
theorem AQe {t:cI}(o: ∀d,Ext h d->R (J1 #[J7 (if KQ ⟨t.kind,t.ref,t.turn⟩ t.wid then jC ⟨t.kind,t.ref,t.turn⟩ t.wid else⟨#[]⟩),J6 J9 (if KQ ⟨t.kind,t.ref,t.turn⟩ t.wid then 0 else 1)]) d):AA A P UQ #[t.v] h R:=by
 refine AGC ?_;unfold tU;refine al.mk λf _ a p _=>?_
 refine ah.mk λK y=>?_
 have key: ∀k:Bool,k= !KQ ⟨t.kind,t.ref,t.turn⟩ t.wid->K (k,()) f:=λk g=>by
  refine y _ _ ?_;cases b:KQ ⟨t.kind,t.ref,t.turn⟩ t.wid with
  |false=>
   have:=o f p;rw[b] at this g;exact ae.yes g this
  |true=>
   rw[b] at g;refine ae.no g ?_;have z: ∀d,Ext f d->R (J1 #[J7 (jC ⟨t.kind,t.ref,t.turn⟩ t.wid),J6 J9 0]) d:=λd x=>by
    have:=o d (p.trans x);rw[b] at this;exact this
   unfold KQ at b;simp only[A3,BX] at b;obtain⟨⟨⟨⟨Q,S⟩,l⟩,T,U⟩,V,W⟩:=b;have X:=Dw l;have Y:=AV (n:=t.kind.toNat) (by omega);have Z:=AV (n:=t.ref.toNat) (by omega);have aa:=AV (n:=t.turn.toNat) (by omega);have ab:=F7 (s:=t.wid) (by omega);refine AC.mk (AL a rfl) ?_;rw[OP (n:=t.kind) (by omega) (by omega)];refine CR (by omega) λac q=>⟨_,rfl,?_⟩
   have i:=q.af a λh=>h
   refine AJ.mk (n:=t.wid) (AB i rfl) ⟨AB a rfl,Lp (by omega) λad r=>⟨_,rfl,⟨by rw[AP,AP,max_i64];omega,?_⟩⟩⟩;have m:=r.af i λh=>h
   refine AC.mk (n:=t.ref) (AB m rfl) ⟨AB i rfl,AB a rfl,?_⟩;rw[OP (n:=t.ref) (by omega) (by omega)];refine CR (by omega) λaf u=>⟨_,rfl,⟨by rw[Ae,AP,AP,max_i64,A1];omega,?_⟩⟩
   have B:=u.af m λh=>h
   refine AC.mk (n:=t.turn) (AB B rfl) ⟨AB m rfl,AB i rfl,AB a rfl,?_⟩;rw[OP (n:=t.turn) (by omega) (by omega)];refine CR (by omega) λj C=>⟨_,rfl,⟨by rw[Ae,Ae,AP,AP,max_i64,A1,A1];omega,?_⟩⟩
   rw[Ae,Ae,Ae,A4,A4];exact z j (((q.trans r).trans u).trans C)
 have no: ∀ {P:Prop},¬P->(KQ ⟨t.kind,t.ref,t.turn⟩ t.wid=true->P)->K (true,()) f:=λD E=>key true (by
  cases b:KQ ⟨t.kind,t.ref,t.turn⟩ t.wid with
  |false=>rfl
  |true=>exact absurd (E b) D)
 have e:KQ ⟨t.kind,t.ref,t.turn⟩ t.wid=true->(1<=t.kind/\t.kind<=7)/\Ai t.wid=true/\(0<=t.ref/\t.ref<=500)/\0<=t.turn/\t.turn<=5:=λb=>by
  unfold KQ at b;simp only[A3,BX] at b;obtain⟨⟨⟨F,l⟩,G⟩,H⟩:=b;exact⟨F,l,G,H⟩
 refine AC.mk (AL a rfl) (ae.intro (λc=>no (P:=1<=t.kind) (by simp at c;omega) λh=>(e h).1.1) λI=>?_);refine AC.mk (AL a rfl) (ae.intro (λc=>no (P:=t.kind<=7) (by simp at c;omega) λh=>(e h).1.2) λJ=>?_);refine AJ.mk (n:=t.wid) (AB a rfl) (Fb ⟨_,rfl,ae.intro (λc=>no (P:=Ai t.wid=true) (by simp at c;simp[c]) λh=>(e h).2.1) λv=>?_⟩);refine AC.mk (n:=t.ref) (AB a rfl) (ae.intro (λc=>no (P:=0<=t.ref) (by simp at c;omega) λh=>(e h).2.2.1.1) λL=>?_);refine AC.mk (n:=t.ref) (AB a rfl) (ae.intro (λc=>no (P:=t.ref<=500) (by simp at c;omega) λh=>(e h).2.2.1.2) λM=>?_);refine AC.mk (n:=t.turn) (AB a rfl) (ae.intro (λc=>no (P:=0<=t.turn) (by simp at c;omega) λh=>(e h).2.2.2.1) λw=>?_);refine AC.mk (n:=t.turn) (AB a rfl) (key _ ?_);unfold KQ;simp at I J v L M w;have N:bS t.kind 1 7=true:=BX.2 (by omega);have O:bS t.ref 0 500=true:=BX.2 (by omega);rw[N,O,v];show _= !(bS t.turn 0 5);unfold bS;by_cases j:t.turn<=5
 ·simp[j,w]
 ·simp[j];omega
theorem ACM {s:Sl}{p:cj}(v:View Lr h s p.steps)(V:p.steps.length<=1099511627776)(H: ∀b,Ext h b->R (Nb p) b):
  AA A P MH #[.agg #[J4 s.p s.len s.cap,J6 J9 p.ar]] h R:=by
 refine ACI ?_;unfold Vm;refine al.mk λaE _ u k _=>?_
 refine AY.mk (s:=s) (AL u rfl) (AC.mk (AB u rfl) ?_);refine xI (p:=p) (v.ext k) V λw o=>⟨_,rfl,?_⟩
 cases q:EA p with
 |false=>
  refine ae.yes rfl ?_;have:=H w (k.trans o);rw[Nb,q] at this;exact this
 |true=>
  refine ae.no rfl ?_;have W: ∀b,Ext w b->R (J1 #[J7 (AX (Bd p)),J6 J9 0]) b:=λb x=>by
   have:=H b ((k.trans o).trans x);rw[Nb,q] at this;exact this
  simp only[EA,A3,decide_eq_true_eq] at q;obtain⟨⟨aF,X⟩,I⟩:=q;have aG:=BX.1 X;have y:=o.af u (λh=>h);refine AC.mk (n:=p.ar) (AB y rfl) ?_;rw[OP (n:=p.ar) (by omega) (by omega)];refine CR (by omega) λaH J=>⟨_,rfl,?_⟩
  have L:=J.af y (λh=>h);refine AY.mk (s:=s) (AL L rfl) ⟨AL y rfl,?_⟩;rw[v.len,Ba (by omega)];have aI:=AV (n:=p.ar.toNat) (by omega);have aJ:=AV (n:=p.steps.length) (by omega);refine CR (by omega) λY M=>⟨_,rfl,⟨by rw[AP,AP,max_i64];omega,?_⟩⟩
  have Z:=M.af L (λh=>h);rw[Ae];refine AY.mk (s:=s) (AL Z rfl) ?_;refine Loop.rule (λm x f=> ∃i:Nat,x=(AX ((BH p.ar.toNat++BH p.steps.length)++(p.steps.take i).flatMap EY),(i:Int),())/\Ext Y f/\m=p.steps.length-i/\i<=p.steps.length) ?_ ⟨0,by simp,Mod.refl,rfl,by omega⟩;rintro K m _ f ⟨i,rfl,N,rfl,aK⟩ aa;have O:Ext w f:=(J.trans M).trans N;have ac:Ext h f:=(k.trans o).trans O;dsimp only;have aL:=v.len;refine ae.intro (λz=>?_) (λz=>?_)
  ·have B:i<p.steps.length:=by simp at z;omega
   obtain⟨x,C⟩: ∃x,p.steps[i]? =some x:=⟨_,A2 B⟩;have ad:=AF C;have af:=List.all_eq_true.1 I x ad;obtain⟨aM,aN,aO,aP,aQ,aR,aS,aT,aU,aV,aW⟩:=Wj af;have aX:((p.steps.take i).flatMap EY).length<=1600:=by
    have:=MX (l:=p.steps.take i) (List.all_eq_true.2 λag ai=>List.all_eq_true.1 I ag (DM ai));have:(p.steps.take i).length<=16:=by simp;omega
    omega
   have D: ∀b,Ext f b->K (AX (((BH p.ar.toNat++BH p.steps.length)++(p.steps.take i).flatMap EY)++EY x),J8 J9 ((i:Int)+1),()) b:=λb aj=>by
    rw[AZ (by omega)];refine aa (p.steps.length-(i+1)) _ _ (by omega) ⟨i+1,?_,N.trans aj,rfl,B⟩;rw[AD,C,CN,FF];simp[A4]
   generalize ak:(BH p.ar.toNat++BH p.steps.length)++(p.steps.take i).flatMap EY=am at*
   have aY:am.length<=2000:=by rw[<- ak];simp only[A1];omega
   refine(v.ext ac).idx C λa _ c=>?_
   obtain⟨an,ao,ap,aq,ar,au⟩:=nX c;refine AC.mk an (AJ.mk ao (AJ.mk ap (AC.mk aq (AC.mk ar (AC.mk au ?_)))));refine al.mk λaZ _ av aw a0=>ab.mj av λax Q ay a1=>?_
   have az:Ext f ax:=aw.more ay λc a2=>by omega
   refine AC.mk (n:=x.kind) (AL Q rfl) ?_;rw[OP (n:=x.kind) (by omega) (by omega)];refine CR (by omega) λa3 S=>⟨_,rfl,?_⟩
   have a4:=AV (n:=x.kind.toNat) (by omega);refine⟨by rw[AP,AP,max_i64];omega,?_⟩;have d:=S.af Q (λh=>h);have E:=az.trans S;rw[Ae];refine AC.mk (n:=x.kind) (AL d rfl) ?_;have a5:=AV (n:=x.tries.toNat) (by omega);have a6:=AV (n:=x.aq.toNat) (by omega);have a7:=AV (n:=x.wait.toNat) (by omega);have a8:=F7 (s:=x.name) (by omega);have a9:=F7 (s:=x.aE) (by omega);refine ah.mk λba F=>?_
   refine ae.intro (λe=>?_) (λe=>?_)
   ·have e:x.kind=1:=by simpa using e
    refine AJ.mk (n:=x.name) (AB d rfl) (Lp (by omega) λr j=>⟨_,rfl,?_⟩);have t:=j.af d (λh=>h);refine AC.mk (n:=x.tries) (AB t rfl) ⟨AB d rfl,?_⟩;rw[OP (n:=x.tries) (by omega) (by omega)];refine CR (by omega) λbb T=>⟨_,rfl,⟨by rw[AP,AP,max_i64];omega,?_⟩⟩
    have G:=T.af t (λh=>h);refine AJ.mk (n:=x.aE) (AB G rfl) ⟨AB t rfl,AB d rfl,?_⟩;refine Lp (by omega) λbc U=>⟨_,rfl,⟨by rw[Ae,AP,AP,max_i64,A1];omega,?_⟩⟩
    have aA:=U.af G (λh=>h);refine AC.mk (n:=x.aq) (AB aA rfl) ⟨AB G rfl,AB t rfl,AB d rfl,?_⟩;rw[OP (n:=x.aq) (by omega) (by omega)];refine CR (by omega) λaC aD=>⟨_,rfl,⟨?_,?_,F _ _ ?_⟩⟩
    ·rw[Ae,Ae,AP,AP,max_i64];simp only[A1];omega
    ·simp only[Ae,AP,max_i64,A1];omega
    ·have:=D aC ((((E.trans j).trans T).trans U).trans aD);simp only[EY] at this;rw[if_pos e] at this;simp only[Ae,A4] at this ⊢;exact this
   ·have e:x.kind≠1:=by simpa using e
    refine ae.intro (λg=>?_) (λg=>?_)
    ·have g:x.kind=2:=by simpa using g
     refine AC.mk (n:=x.wait) (AB d rfl) ?_;rw[OP (n:=x.wait) (by omega) (by omega)];refine CR (by omega) λr j=>⟨_,rfl,⟨by rw[AP,AP,max_i64,A1];omega,F _ _ ?_⟩⟩
     have:=D r (E.trans j);simp only[EY] at this;rw[if_neg e,if_pos g] at this;simp only[Ae,A4] at this ⊢;exact this
    ·have g:x.kind≠2:=by simpa using g
     refine ae.yes (by simp;omega) (AJ.mk (n:=x.name) (AB d rfl) (Lp (by omega) λr j=>⟨_,rfl,⟨by rw[AP,AP,max_i64,A1];omega,F _ _ ?_⟩⟩));have:=D r (E.trans j);simp only[EY] at this;rw[if_neg e,if_neg g] at this;simp only[Ae,A4] at this ⊢;exact this
  ·have B:i=p.steps.length:=by simp at z;omega
   have:=W f O;rw[AE (by omega)];exact this
end
end Go.Lf.G
namespace Go.Lf
open G
open Go
open M (Sorted Ag Cs BC Ah Aw Be Am bH BK aV BU)
theorem View.dy {c:Type}{d:cy c}{e:Nat->Prop}{h f:aa}{s:Sl}{l:List c}(v:View d h s l)(m:Mod e h f)(j:l≠ []-> ∀b,s.af=some b-> ¬e b):View d f s l:=by
 cases l with
 |nil=>exact⟨v.len,v.cap,λi x k=>by simp at k⟩
 |cons x l=>exact v.mod m (j (by simp))
end Go.Lf
namespace Go.Lf.G
open Go
open M (Sorted Ag Cs BC Ah Aw Be Am bH BK aV BU)
end Go.Lf.G
namespace Go.Lf
open G
open Go
open M (Sorted Ag Cs BC Ah Aw Be Am bH BK aV BU)
theorem View.oG {f:Type}{d:cy f}{h:aa}{s:Sl}{l:List f}(v:View d h s l)(j:l≠ []){b:Nat}(e:s.af=some b):b<h.size:=by
 cases l with
 |nil=>exact absurd rfl j
 |cons x l=>
  obtain⟨a,k,c⟩:=v.cells 0 x rfl;have m:0<(d.enc x).length:=by rw[d.len];exact d.pos
  have:=Ur (c 0 _ (A2 m));rw[aN,aN] at this;unfold Sl.af at e;rw[k] at e;cases e;exact this
end Go.Lf
namespace Go.Lf.G
open Go
open M (Sorted Ag Cs BC Ah Aw Be Am bH BK aV BU)
theorem ab.mo {h:aa}{b d:Nat}{v:J0}{l l':List J0}{T:Q7}{K:aa->Prop}(e:h[b]? =some (J2 ⟨l⟩ T (0,0)))(f:d<l.length)(j:l.set d v=l')
  (k: ∀c,c[b]? =some (J2 ⟨l'⟩ T (0,0))->Mod (· =b) h c->c.size=h.size->K c):ab h ((⟨b,0,none⟩:Q6).add d) v K:=
 ab.bQ e f (WD l d v) λc m=>k c (by rw[<- j];exact m)
theorem Cg {h:aa}{b j:Nat}{l:List J0}{T:Q7}{fr:Nat×Nat}{v:J0}(c:h[b]? =some (J2 ⟨l⟩ T fr))(d:l[j]? =some v):ag h ((⟨b,0,none⟩:Q6).add j)=some v:=
 AB c (by rw[<- LS];exact d)
theorem CG {h:aa}{b i c:Nat}{l:List J0}{T:Q7}{fr:Nat×Nat}{v:J0}(d:h[b]? =some (J2 ⟨l⟩ T fr))(e:l[i+c]? =some v):ag h (((⟨b,0,none⟩:Q6).add i).add c)=some v:=by rw[add_add];exact Cg d e
theorem AQt {h:aa}{b i c d:Nat}{l:List J0}{T:Q7}{fr:Nat×Nat}{v:J0}(e:h[b]? =some (J2 ⟨l⟩ T fr))(f:l[i+(c+d)]? =some v):ag h ((((⟨b,0,none⟩:Q6).add i).add c).add d)=some v:=by rw[add_add];exact CG e f
structure eW where
 hp:Nat
 ev:Sl
 fs:bF
 a:Sl
 b:Sl
 c:Sl
 more:Sl
 au:Sl
 conds:Sl
abbrev eW.l(x:eW)(C:bD):List J0:= [Az x.hp,J7 C.wid,J6 J9 (C.ao:Int),J6 J9 C.cD,J6 J9 C.cq,J3 C.kept,J4 x.ev.p x.ev.len x.ev.cap,
 J4 x.fs.steps.p x.fs.steps.len x.fs.steps.cap,J6 J9 x.fs.ar,J6 J9 x.fs.status,J6 J9 x.fs.next,J6 J9 x.fs.ba,J6 J9 x.fs.asked,J6 J9 x.fs.taken,J3 x.fs.fresh,J4 x.fs.aw.p x.fs.aw.len x.fs.aw.cap,J4 x.fs.aj.p x.fs.aj.len x.fs.aj.cap,J3 x.fs.cancel,J3 x.fs.aS,
 J4 x.a.p x.a.len x.a.cap,J6 J9 C.st.prog.ar,J6 J9 C.st.status,J6 J9 C.st.next,J6 J9 C.st.ba,J6 J9 C.st.asked,J6 J9 C.st.taken,J3 C.st.fresh,J4 x.b.p x.b.len x.b.cap,J4 x.c.p x.c.len x.c.cap,J3 C.st.cancel,J3 C.st.aS,
 J4 x.more.p x.more.len x.more.cap,J4 x.au.p x.au.len x.au.cap,J4 x.conds.p x.conds.len x.conds.cap,J6 J9 C.err,J6 J9 C.now]
structure FU (h:aa) (cb:Nat) (z:Nat->Nat) (x:eW) (C:bD):Prop where
 af:h[cb]? =some (J2 ⟨x.l C⟩ Mm (0,0))
 zc:z cb=1
 st:Jk h C.st x.a x.b x.c
 zs: ∀y,(C.st.prog.steps≠ []/\x.a.af=some y)\/(C.st.aw≠ []/\x.b.af=some y)\/(C.st.aj≠ []/\x.c.af=some y)->z y=5
 more:Own fT A7 h x.more C.more
 zm: ∀y,x.more.af=some y->z y=2
 au:Own BR AU h x.au C.au
 zp: ∀y,x.au.af=some y->z y=3
 conds:Own BR AU h x.conds C.conds
 zq: ∀y,x.conds.af=some y->z y=4
theorem Jk.dy {k:Nat->Prop}{h n:aa}{s:bj}{a b c:Sl}(f:Jk h s a b c)(m:Mod k h n)(j: ∀y,(s.prog.steps≠ []/\a.af=some y)\/(s.aw≠ []/\b.af=some y)\/(s.aj≠ []/\c.af=some y)-> ¬k y):Jk n s a b c:=
 ⟨f.steps.dy m λd y e=>j y (.inl ⟨d,e⟩),f.aw.dy m λd y e=>j y (.inr (.inl ⟨d,e⟩)),f.aj.dy m λd y e=>j y (.inr (.inr ⟨d,e⟩))⟩
section
variable {A : ak} {B : cJ} {g h : aa} {s a N sh cb : Nat} {l : List Hs} {mp : List Pr} {O : Nat -> Prop} {i : Nat} {y : Hs} {z : Nat -> Nat} {x : eW} {C : bD} {R : A2O}
theorem FU.mod {f:Nat->Prop}{j:aa}(b:FU h cb z x C)(m:Mod f h j)(e: ∀c,z c≠0-> ¬f c):FU j cb z x C:=
 ⟨m.af b.af (e cb (by rw[b.zc];decide)),b.zc,b.st.dy m λy d=>e y (by rw[b.zs y d];decide),b.zs,b.more.mod m λy d=>e y (by rw[b.zm y d];decide),b.zm,b.au.mod m λy d=>e y (by rw[b.zp y d];decide),b.zp,b.conds.mod m λy d=>e y (by rw[b.zq y d];decide),b.zq⟩
theorem FU.on {b:aa}(c:FU h cb z x C)(m:Ext h b):FU b cb z x C:=c.mod m λ_ _ h=>h
theorem FU.cell {d:aa}(b:FU h cb z x C){f:Int}(m:Mod (· =cb) h d)(k:d[cb]? =some (J2 ⟨x.l {C with err:=f}⟩ Mm (0,0))):FU d cb z x {C with err:=f}:=by
 have ne: ∀y e,z y=e->e≠1-> ¬y=cb:=λy e j n o=>by subst o;rw[b.zc] at j;exact n j.symm
 exact⟨k,b.zc,b.st.dy m λy c=>ne y 5 (b.zs y c) (by decide),b.zs,b.more.mod m λy c=>ne y 2 (b.zm y c) (by decide),b.zm,b.au.mod m λy c=>ne y 3 (b.zp y c) (by decide),b.zp,b.conds.mod m λy c=>ne y 4 (b.zq y c) (by decide),b.zq⟩
theorem FU.err(c:FU h cb z x C){d:Int}{K:aa->Prop}(e: ∀b,FU b cb z x {C with err:=d}->Mod (· =cb) h b->b.size=h.size->K b):ab h ((⟨cb,0,none⟩:Q6).add 34) (J6 J9 d) K:=
 ab.mo c.af (of_decide_eq_true rfl) rfl λb f m j=>e b (c.cell m f) m j
def gw(z:Nat->Nat)(s:Sl)(b:Nat):Nat->Nat:=λc=>if s.af=some c then b else z c
theorem pE {s:Sl}{b c:Nat}(h:s.af=some c):gw z s b c=b:=if_pos h
theorem pF {f j:Sl}{k:Nat}(n: ∀c,z c≠0->c<h.size)(o: ∀y,f.af=some y->z y=k)(p: ∀b,j.af=some b->f.af=some b\/h.size<=b){c d:Nat}(e:z c=d)(q:d≠0):gw z j k c=d:=by
 unfold gw;split
 ·rename_i r;rcases p c r with m|m
  ·rw[<- e,o c m]
  ·have:=n c (by rw[e];exact q);omega
 ·exact e
theorem pG {k d:Sl}{e:Nat}{m:aa}(o: ∀y,k.af=some y->z y=e)(p:e≠0)(q: ∀b,d.af=some b->k.af=some b\/h.size<=b)(r: ∀b,d.af=some b->b<m.size){c:Nat}(f:gw z d e c≠0):z c≠0\/(h.size<=c/\c<m.size):=by
 unfold gw at f;split at f
 ·rename_i n;rcases q c n with j|j
  ·exact .inl (by rw[o c j];exact p)
  ·exact .inr ⟨j,r c n⟩
 ·exact .inl f
theorem FU.kG(d:FU h cb z x C)(I: ∀c,z c≠0->c<h.size){src:Sl}{f:Ev}(v:View fT h src [f])(W:C.more.length<1000){K:aa->Prop}
  (Q: ∀u j J,FU u cb J {x with more:=j} {C with more:=C.more++ [f]}->Mod (λc=>z c≠0) h u->(∀ c,J c≠0->z c≠0\/(h.size<=c/\c<u.size))->K u):
  BB A P (Builtin.append_ #[Dq,Dq] Dq #[J4 x.more.p x.more.len x.more.cap,J4 src.p src.len src.cap]) h λv n=> ∃t:Sl,v=J4 t.p t.len t.cap/\ab n ((⟨cb,0,none⟩:Q6).add 31) (J4 t.p t.len t.cap) K:=by
 refine Gd (E:=fT) (s:=x.more) (src:=src) xN d.more v (by simp only[Dd];omega) (by simp only[Dd,maxLen];omega) λj n L o D _=>?_
 have w: ∀c k,z c=k->k≠2-> ¬x.more.af=some c:=λc k p F f=>by rw[d.zm c f] at p;exact F p.symm
 have S:=o.af d.af (w cb 1 d.zc (by decide));refine ab.mo S (of_decide_eq_true rfl) (l':=({x with more:=j}:eW).l {C with more:=C.more++ [f]}) rfl λF T q X=>?_
 have G: ∀c k,z c=k->k≠1-> ¬c=cb:=λc k p n f=>by subst f;rw[d.zc] at p;exact n p.symm
 have Y:=I cb (by rw[d.zc];decide);have U: ∀b,j.af=some b->b<n.size:=λb r=>L.lt r
 have aM: ∀ {c H:Nat},z c=H->H≠0->gw z j 2 c=H:=λm V=>pF I d.zm D m V
 refine Q F j (gw z j 2) ⟨T,aM d.zc (by decide),?_,λy e=>aM (d.zs y e) (by decide),?_,λy e=>pE e,?_,λy e=>aM (d.zp y e) (by decide),?_,λy e=>aM (d.zq y e) (by decide)⟩ ?_ λc m=>?_
 ·exact(d.st.dy o λy e=>w y 5 (d.zs y e) (by decide)).dy q λy e=>G y 5 (d.zs y e) (by decide)
 ·refine L.mod q λb r f=>?_
  subst f;rcases D b r with M|M
  ·have:=d.zm b M;rw[d.zc] at this;cases this
  ·omega
 ·exact(d.au.mod o λy e=>w y 3 (d.zp y e) (by decide)).mod q λy e=>G y 3 (d.zp y e) (by decide)
 ·exact(d.conds.mod o λy e=>w y 4 (d.zq y e) (by decide)).mod q λy e=>G y 4 (d.zq y e) (by decide)
 ·exact(o.ai λc _ m=>by rw[d.zm c m];decide).trans (q.ai λc _ m=>by subst m;rw[d.zc];decide)
 ·exact pG d.zm (by decide) D (λb r=>by have:=U b r;omega) m
theorem FU.fC(d:FU h cb z x C)(J: ∀c,z c≠0->c<h.size){p:Pr}(X:C.au.length<1000){K:aa->Prop}
  (S: ∀D f L,FU D cb L {x with au:=f} {C with au:=C.au++ [p]}->Mod (λc=>z c≠0) h D->(∀ c,L c≠0->z c≠0\/(h.size<=c/\c<D.size))->K D):
  al h (J2 #[J7 p.key,J7 p.val,J3 p.gone] AU) λb m=>BB A P (Builtin.append_ #[AQ,AQ] AQ #[J4 x.au.p x.au.len x.au.cap,J4 (some (⟨b,0,none⟩:Q6)) 1 1]) m λv n=> ∃t:Sl,v=J4 t.p t.len t.cap/\ab n ((⟨cb,0,none⟩:Q6).add 32) (J4 t.p t.len t.cap) K:=by
 refine al.aZ (E:=BR) (x:=p) (s:=x.au) (l:=C.au) rfl Hz d.au (by omega) (by simp only[maxLen];omega) λf m M o G _=>?_
 have F: ∀c j,z c=j->j≠3-> ¬x.au.af=some c:=λc j q n r=>by rw[d.zp c r] at q;exact n q.symm
 have T:=o.af d.af (F cb 1 d.zc (by decide));refine ab.mo T (of_decide_eq_true rfl) (l':=({x with au:=f}:eW).l {C with au:=C.au++ [p]}) rfl λn U u Y=>?_
 have H: ∀c j,z c=j->j≠1-> ¬c=cb:=λc j q m r=>by subst r;rw[d.zc] at q;exact m q.symm
 have Z:=J cb (by rw[d.zc];decide);have V: ∀b,f.af=some b->b<m.size:=λb w=>M.lt w
 have aM: ∀ {c I:Nat},z c=I->I≠0->gw z f 3 c=I:=λk W=>pF J d.zp G k W
 refine S n f (gw z f 3) ⟨U,aM d.zc (by decide),?_,λy e=>aM (d.zs y e) (by decide),?_,λy e=>aM (d.zm y e) (by decide),?_,λy e=>pE e,?_,λy e=>aM (d.zq y e) (by decide)⟩ ?_ λc k=>?_
 ·exact(d.st.dy o λy e=>F y 5 (d.zs y e) (by decide)).dy u λy e=>H y 5 (d.zs y e) (by decide)
 ·exact(d.more.mod o λy e=>F y 2 (d.zm y e) (by decide)).mod u λy e=>H y 2 (d.zm y e) (by decide)
 ·refine M.mod u λb w r=>?_
  subst r;rcases G b w with Q|Q
  ·have:=d.zp b Q;rw[d.zc] at this;cases this
  ·omega
 ·exact(d.conds.mod o λy e=>F y 4 (d.zq y e) (by decide)).mod u λy e=>H y 4 (d.zq y e) (by decide)
 ·exact(o.ai λc _ k=>by rw[d.zp c k];decide).trans (u.ai λc _ k=>by subst k;rw[d.zc];decide)
 ·exact pG d.zp (by decide) G (λb w=>by have:=V b w;omega) k
theorem FU.gZ(d:FU h cb z x C)(J: ∀c,z c≠0->c<h.size){p:Pr}(X:C.conds.length<1000){K:aa->Prop}
  (S: ∀D f L,FU D cb L {x with conds:=f} {C with conds:=C.conds++ [p]}->Mod (λc=>z c≠0) h D->(∀ c,L c≠0->z c≠0\/(h.size<=c/\c<D.size))->K D):
  al h (J2 #[J7 p.key,J7 p.val,J3 p.gone] AU) λb m=>BB A P (Builtin.append_ #[AQ,AQ] AQ #[J4 x.conds.p x.conds.len x.conds.cap,J4 (some (⟨b,0,none⟩:Q6)) 1 1]) m λv n=> ∃t:Sl,v=J4 t.p t.len t.cap/\ab n ((⟨cb,0,none⟩:Q6).add 33) (J4 t.p t.len t.cap) K:=by
 refine al.aZ (E:=BR) (x:=p) (s:=x.conds) (l:=C.conds) rfl Hz d.conds (by omega) (by simp only[maxLen];omega) λf m M o G _=>?_
 have F: ∀c j,z c=j->j≠4-> ¬x.conds.af=some c:=λc j q n r=>by rw[d.zq c r] at q;exact n q.symm
 have T:=o.af d.af (F cb 1 d.zc (by decide));refine ab.mo T (of_decide_eq_true rfl) (l':=({x with conds:=f}:eW).l {C with conds:=C.conds++ [p]}) rfl λn U u Y=>?_
 have H: ∀c j,z c=j->j≠1-> ¬c=cb:=λc j q m r=>by subst r;rw[d.zc] at q;exact m q.symm
 have Z:=J cb (by rw[d.zc];decide);have V: ∀b,f.af=some b->b<m.size:=λb w=>M.lt w
 have aM: ∀ {c I:Nat},z c=I->I≠0->gw z f 4 c=I:=λk W=>pF J d.zq G k W
 refine S n f (gw z f 4) ⟨U,aM d.zc (by decide),?_,λy e=>aM (d.zs y e) (by decide),?_,λy e=>aM (d.zm y e) (by decide),?_,λy e=>aM (d.zp y e) (by decide),?_,λy e=>pE e⟩ ?_ λc k=>?_
 ·exact(d.st.dy o λy e=>F y 5 (d.zs y e) (by decide)).dy u λy e=>H y 5 (d.zs y e) (by decide)
 ·exact(d.more.mod o λy e=>F y 2 (d.zm y e) (by decide)).mod u λy e=>H y 2 (d.zm y e) (by decide)
 ·exact(d.au.mod o λy e=>F y 3 (d.zp y e) (by decide)).mod u λy e=>H y 3 (d.zp y e) (by decide)
 ·refine M.mod u λb w r=>?_
  subst r;rcases G b w with Q|Q
  ·have:=d.zq b Q;rw[d.zc] at this;cases this
  ·omega
 ·exact(o.ai λc _ k=>by rw[d.zq c k];decide).trans (u.ai λc _ k=>by subst k;rw[d.zc];decide)
 ·exact pG d.zq (by decide) G (λb w=>by have:=V b w;omega) k
def ij(t:bj)(a b c:Sl)(y:Nat):Prop:=(t.prog.steps≠ []/\a.af=some y)\/(t.aw≠ []/\b.af=some y)\/(t.aj≠ []/\c.af=some y)
open Classical in
noncomputable def iJ (z:Nat->Nat) (t:bj) (a b c:Sl):Nat->Nat:=λy=>if ij t a b c y then 5 else z y
theorem Jk.lt {t:bj}{a b c:Sl}(f:Jk h t a b c){y:Nat}(j:ij t a b c y):y<h.size:=by
 rcases j with⟨d,e⟩|⟨d,e⟩|⟨d,e⟩
 ·exact f.steps.oG d e
 ·exact f.aw.oG d e
 ·exact f.aj.oG d e
theorem FU.kH {o:aa}{t:bj}{j k m:Sl}(e:FU h cb z x C)(E: ∀c,z c≠0->c<h.size)(F:Ext h o)(G:Jk o t j k m)(fr: ∀y,j.af=some y\/k.af=some y\/m.af=some y->h.size<=y){K:aa->Prop}
  (J: ∀p H,FU p cb H {x with a:=j,b:=k,c:=m} {C with st:=t}->Mod (λc=>z c≠0) h p->Mod (· =cb) o p->(∀ c,H c≠0->z c≠0\/(h.size<=c/\c<p.size))->K p):
  aP o ((⟨cb,0,none⟩:Q6).add 19) (t.V j k m).l K:=by
 have q:=e.on F;have L:(⟨cb,0,none⟩:Q6).add 19=⟨cb,19,none⟩:=rfl;rw[L];refine aP.mk q.af (of_decide_eq_true rfl) λM P n S=>?_
 have T:=E cb (by rw[e.zc];decide);have u: ∀y,ij t j k m y->h.size<=y:=λy d=>fr y (by
  rcases d with⟨_,h⟩|⟨_,h⟩|⟨_,h⟩
  ·exact .inl h
  ·exact .inr (.inl h)
  ·exact .inr (.inr h))
 have v: ∀c w,z c=w->w≠1-> ¬c=cb:=λc w I o D=>by subst D;rw[e.zc] at I;exact o I.symm
 have aM: ∀ {c r:Nat},z c=r->r≠0->iJ z t j k m c=r:=λ{c r} f Q=>by
  unfold iJ;rw[if_neg λd=>by have:=u c d;have:=E c (by rw[f];exact Q);omega];exact f
 refine J M (iJ z t j k m) ⟨P,aM e.zc (by decide),?_,λy d=>if_pos d,q.more.mod n λy d=>v y 2 (e.zm y d) (by decide),λy d=>aM (e.zm y d) (by decide),q.au.mod n λy d=>v y 3 (e.zp y d) (by decide),λy d=>aM (e.zp y d) (by decide),q.conds.mod n λy d=>v y 4 (e.zq y d) (by decide),λy d=>aM (e.zq y d) (by decide)⟩ ?_ n λc f=>?_
 ·exact G.dy n λy d D=>by subst D;have:=u y d;omega
 ·exact F.mod.trans (n.ai λc _ f=>by subst f;rw[e.zc];decide)
 ·unfold iJ at f;split at f
  ·rename_i d;exact .inr ⟨u c d,by have:=G.lt d;have:=n.size;omega⟩
  ·exact .inl f
theorem FU.ld(b:FU h cb z x C):Cells h ((⟨cb,0,none⟩:Q6).add 19) (C.st.V x.a x.b x.c).l:=by have c:(⟨cb,0,none⟩:Q6).add 19=⟨cb,19,none⟩:=rfl;rw[c];exact DU b.af rfl
theorem LW.out(d:LW B g h s a N sh l mp O){c:Nat}(b:O c):c<h.size/\g.size<=c:=by obtain⟨e,f,st,m,j,nn,C,k,n,o,p,out⟩:=d;exact⟨(out c b).2.1,(out c b).2.2.1⟩
structure CW (B:cJ) (g h:aa) (s a N sh:Nat) (l:List Hs) (i:Nat) (y:Hs) (mp:List Pr) (O:Nat->Prop) (cb:Nat) (z:Nat->Nat) (x:eW) (C:bD):Prop where
 w:LW B g h s a N sh (l.set i y) mp (λc=>O c\/z c≠0)
 il:i<l.length
 no: ∀c,z c≠0-> ¬O c
 hp:x.hp=y.p
 bC:FU h cb z x C
theorem CW.gL(b:CW B g h s a N sh l i y mp O cb z x C): ∀c,z c≠0->c<h.size:=λc d=>(b.w.out (.inr d)).1
theorem CW.zL(b:CW B g h s a N sh l i y mp O cb z x C): ∀c,z c≠0->bW g O c:=λc d=>⟨(b.w.out (.inr d)).2,b.no c d⟩
theorem CW.frame {b:aa}(d:CW B g h s a N sh l i y mp O cb z x C)(m:Mod (λc=>z c≠0) h b):Mod (bW g O) h b:=m.ai λc _ e=>d.zL c e
theorem CW.step {e:aa}{f:Nat->Nat}{x':eW}{j:bD}(d:CW B g h s a N sh l i y mp O cb z x C)(m:Mod (λc=>z c≠0) h e)(k: ∀c,f c≠0->z c≠0\/(h.size<=c/\c<e.size))(o:x'.hp=x.hp)(p:FU e cb f x' j):CW B g e s a N sh l i y mp O cb f x' j:=
 ⟨d.w.own (m.ai λc _ b=> .inr b) λc b=>by
   rcases b with b|b
   ·exact .inl (.inl b)
   ·rcases k c b with h|h
    ·exact .inl (.inr h)
    ·exact .inr h,
  d.il,λc b n=>by
   rcases k c b with h|h
   ·exact d.no c h n
   ·have:=(d.w.out (.inl n)).1;omega,
  o.trans d.hp,p⟩
theorem CW.on {c:aa}(b:CW B g h s a N sh l i y mp O cb z x C)(m:Ext h c):CW B g c s a N sh l i y mp O cb z x C:=⟨b.w.on m,b.il,b.no,b.hp,b.bC.on m⟩
theorem CW.wider {e:aa}{O':Nat->Prop}(d:CW B g h s a N sh l i y mp O cb z x C)(m:Mod O h e)(j: ∀c,O' c->O c\/(h.size<=c/\c<e.size)):CW B g e s a N sh l i y mp O' cb z x C:=
 ⟨d.w.own (m.ai λc _ b=> .inl b) λc b=>by
   rcases b with b|b
   ·rcases j c b with h|h
    ·exact .inl (.inl h)
    ·exact .inr h
   ·exact .inl (.inr b),
  d.il,λc b f=>by
   rcases j c f with h|h
   ·exact d.no c b h
   ·have:=d.gL c b;omega,
  d.hp,d.bC.mod m λc b f=>d.no c b f⟩
end
end Go.Lf.G
