/-
 LIFT, part K: reasoning about heaps: what is kept, what lies where, slices that are read, slices that are owned.
-/
import Derived.Test.YtgpmoonnachoaaaGreatDoorLfAToN1
import Derived.Laws.FloatArith
import Derived.MapKept
import Derived.Maps.Own
import Derived.Lib.Bytealg
import Derived.Sort.KeysCollected
import Derived.StringKeys
import Derived.Laws.BytesString
import Derived.Laws.BytesArg
import Derived.Laws.StructEq
import Derived.ChangeKeysEq
set_option maxRecDepth 100000
set_option linter.unusedVariables false
set_option linter.unusedSimpArgs false
open Go.IntKind renaming i64→J9,wrap→J8
open Go.Value renaming string→J7,int→J6,pointer→J5,slice→J4,bool→J3,tuple→J1
open Go.Obj renaming cells→J2
open Go renaming Value→J0,Addr→Q6,TypeId→Q7,FuncId→Q8,Program→Q1
open Go.Addr renaming add→Q9,mk→Q5
namespace Go.Lf
theorem add_add(a:Q6)(m b:Nat):(a.add m).add b=a.add (m+b):=by
 unfold Addr.add;by_cases c:m=0
 ·subst c;simp
 ·by_cases d:b=0
  ·subst d;simp[c]
  ·have:m+b≠0:=by omega
   simp[c,d,HG]
theorem add_zero(a:Q6):a.add 0=a:=by simp[Addr.add]
theorem aU(a:Q6)(b:Nat):(a.add b).block=a.block:=by unfold Addr.add;split<;>rfl
theorem Be(b c a:Nat):(⟨b,c,none⟩:Q6).add a=⟨b,c+a,none⟩:=by unfold Addr.add;by_cases d:a=0<;>simp[d]
structure Mod (S:Nat->Prop) (h h':aa):Prop where
 size:h.size<=h'.size
 get: ∀b,b<h.size-> ¬S b->h'[b]? =h[b]?
abbrev Ext:=Mod (λ_=>False)
theorem Mod.refl {b:Nat->Prop}{a:aa}:Mod b a a:=⟨A0 _,λ_ _ _=>rfl⟩
theorem Mod.trans {d:Nat->Prop}{e f g:aa}(a:Mod d e f)(b:Mod d f g):Mod d e g:=
 ⟨AH a.size b.size,λc h i=>(b.get c (Fc h a.size) i).trans (a.get c h i)⟩
theorem Mod.aj {e S':Nat->Prop}{d f:aa}(a:Mod e d f)(h: ∀b,b<d.size->e b->S' b):Mod S' d f:=⟨a.size,λc g i=>a.get c g λd=>i (h c g d)⟩
theorem Ext.mod {d:Nat->Prop}{b c:aa}(a:Ext b c):Mod d b c:=a.aj λ_ _ b=>b.elim
theorem Mod.then {e:Nat->Prop}{d f g:aa}(a:Mod e d f)(b:Mod (λc=>e c\/d.size<=c) f g):Mod e d g:=
 ⟨AH a.size b.size,λc h i=>(b.get c (Fc h a.size) (λd=>d.elim i (λd=>by omega))).trans (a.get c h i)⟩
theorem Mod.push {d:Nat->Prop}(a:aa)(e:Obj):Mod d a (a.push e):=
 ⟨by simp,λb c _=>by rw[P2 c];simp[c]⟩
theorem Mod.ag {c:Nat->Prop}{d e:aa}(a:Mod c d e){b:Nat}{f:Obj}(g:d[b]? =some f)(h: ¬c b):e[b]? =some f:=
 (a.get b (Array.getElem?_eq_some_iff.1 g).1 h).trans g
theorem Ai {a:aa}{b:Nat}{c:Obj}(d:a[b]? =some c):b<a.size:=(Array.getElem?_eq_some_iff.1 d).1
theorem VN {b:aa}{a:Q6}{v:J0}(c:ah b a=some v):a.block<b.size:=by
 unfold ah at c;cases d:b[a.block]? with
 |none=>rw[d] at c;cases c
 |some e=>exact Ai d
theorem Qn {b c:aa}{a:Q6}(d:c[a.block]? =b[a.block]?):ah c a=ah b a:=by unfold ah;rw[d]
theorem Mod.ah {b:Nat->Prop}{c d:aa}(m:Mod b c d){a:Q6}{v:J0}(e:ah c a=some v)(f: ¬b a.block):Lf.ah d a=some v:=
 (Qn (m.get _ (VN e) f)).trans e
theorem Ext.ah {b c:aa}(m:Ext b c){a:Q6}{v:J0}(d:Lf.ah b a=some v):Lf.ah c a=some v:=Mod.ah m d (λb=>b)
theorem IG {a:aa}{b c:Nat}{d:Array J0}{T:Q7}{fr:Nat×Nat}(e:a[b]? =some (.cells d T fr)):ah a ⟨b,c,none⟩=d[c]? :=by simp[ah,e]
theorem PQ {a:aa}{b c:Nat}{d:Array J0}{T:Q7}(e:a[b]? =some (.cells d T (0,0))):fX a ⟨b,c,none⟩=false:=by simp[fX,e]
theorem vu {a:aa}{b c:Nat}{d:Array J0}{T:Q7}{fr:Nat×Nat}{v:J0}(e:a[b]? =some (.cells d T fr)):
  (dc a ⟨b,c,none⟩ v)[b]? =some (.cells (d.setIfInBounds c v) T fr):=by
 simp[dc,Gk,e]
theorem AK1 {b:aa}{a:Q6}{v:J0}{c:Nat}(d:c≠a.block):(dc b a v)[c]? =b[c]? :=by simp[dc,Gk,Ne.symm d]
theorem qH {b:aa}{a:Q6}{v:J0}:(dc b a v).size=b.size:=by simp[dc]
theorem Mod.set {S:Nat->Prop}{b:aa}{a:Q6}{v:J0}(c:S a.block):Mod S b (dc b a v):=
 ⟨by rw[qH];exact A0 _,λ_ _ d=>AK1 (λe=>d (e▸c))⟩
theorem ao.mk {a:aa}{c:Obj}{K:Nat->aa->Prop}(d: ∀b,b=a.push c->b[a.size]? =some c->Ext a b->b.size=a.size+1->K a.size b):ao a c K:=
 d _ rfl (by simp) (Mod.push a c) (by simp)
theorem ae.mk {a:aa}{b c:Nat}{v:J0}{d:Array J0}{T:Q7}{K:aa->Prop}(f:a[b]? =some (.cells d T (0,0)))(g:c<d.size)
  (h: ∀e,e[b]? =some (.cells (d.setIfInBounds c v) T (0,0))->Mod (· =b) a e->e.size=a.size->K e):ae a ⟨b,c,none⟩ v K:=
 ⟨⟨d[c],by rw[IG f];simp[g]⟩,PQ f,h _ (vu f) (Mod.set rfl) qH⟩
theorem af.intro {b:Bool}{a c:Prop}(d:b=true->a)(e:b=false->c):af b a c:=by
 cases b
 ·exact e rfl
 ·exact d rfl
theorem af.yes {b:Bool}{a c:Prop}(d:b=true)(e:a):af b a c:=by subst d;exact e
theorem af.no {b:Bool}{c a:Prop}(d:b=false)(e:a):af b c a:=by subst d;exact e
theorem bE.mk {p:Q2}{len:Nat}{a:Q6}{k:Nat}{K:Q6->Prop}(b:p=some a)(d:k<len)(c:K a):bE p len (k:Int) K:=
 ⟨a,b,⟨by omega,by omega⟩,c⟩
theorem ZZ.mk {b:Bool}{K:Prop}(a:b=true)(c:K):ZZ b K:=by subst a;exact c
theorem ai.mk {a:Type}{b:a->aa->Prop}{body:(a->aa->Prop)->Prop}(d: ∀K:a->aa->Prop,(∀ x c,b x c->K x c)->body K):ai b body:=d
theorem Eh.func {A:al}{P:Q1}{f:Q8}{first bV args:Array J0}{h:aa}{R:A2J}
  (c:(callFunc f (first++args++bV)).calc P=some (.enter f (first++args++bV))) (d:AA A P f (first++args++bV) h R):Eh A P (.func (.func f) first bV) args h R:=by
 intro a;have e:=Da c (A.at h a);have g:(do let b <-Deferred.ofValue (.func (.func f) first bV) args;invoke b.target b.args:Sem Next).run P (A.at h a)= .ok (.enter f (first++args++bV)) (A.at h a):=by simp only[Deferred.ofValue,Sem.run_bind,Sem.run_pure,Result.andThen_ok,invoke];exact e
 rw[g];exact d a
structure cE (α:Type) where
 enc:α->List J0
 w:Nat
 len: ∀x,(enc x).length=w
 pos:0<w
 one: ∀x v,v∈enc x->ML v=true
variable {α : Type}
def Cells(c:aa)(a:Q6)(d:List J0):Prop:= ∀b v,d[b]? =some v->ah c (a.add b)=some v
theorem Cells.mod {b:Nat->Prop}{d e:aa}{a:Q6}{f:List J0}(c:Cells d a f)(m:Mod b d e)(g: ¬b a.block):Cells e a f:=
 λh v i=>m.ah (c h v i) (by rw[aU];exact g)
structure View (E:cE α) (h:aa) (s:Sl) (l:List α):Prop where
 len:s.len=l.length
 cap:s.len<=s.cap
 cells: ∀i x,l[i]? =some x-> ∃a,s.p=some a/\Cells h (a.add (i*E.w)) (E.enc x)
def Sl.ag(s:Sl):Option Nat:=s.p.map (·.block)
theorem View.mod {c:cE α}{d:Nat->Prop}{e f:aa}{s:Sl}{l:List α}(v:View c e s l)(m:Mod d e f)(h: ∀b,s.ag=some b-> ¬d b):View c f s l:=
 ⟨v.len,v.cap,λi x j=>let ⟨a,g,k⟩:=v.cells i x j;⟨a,g,k.mod m (by rw[aU];exact h _ (by simp[Sl.ag,g]))⟩⟩
theorem View.ext {b:cE α}{a c:aa}{s:Sl}{l:List α}(v:View b a s l)(m:Ext a c):View b c s l:=v.mod m λ_ _ a=>a
theorem View.nil {b:cE α}{a:aa}:View b a ⟨none,0,0⟩ []:=⟨rfl,A0 _,λ_ _ a=>by simp at a⟩
structure Own (E:cE α) (T:Q7) (h:aa) (s:Sl) (l:List α):Prop where
 len:s.len=l.length
 row:(s=⟨none,0,0⟩/\l= [])\/ ∃g cur,s.p=some ⟨g,0,none⟩/\h[g]? =some (.cells cur T (0,0))/\s.len<=s.cap/\s.cap<=maxLen/\cur.size=s.cap*E.w/\cur.toList.take (s.len*E.w)=l.flatMap E.enc
theorem Own.nil {a:cE α}{T:Q7}{b:aa}:Own a T b ⟨none,0,0⟩ []:=⟨rfl,.inl ⟨rfl,rfl⟩⟩
theorem dA {E:cE α}: ∀ {l:List α} {i:Nat} {x:α},l[i]? =some x-> ∀a v,(E.enc x)[a]? =some v->(l.flatMap E.enc)[i*E.w+a]? =some v
 | [],i,x,b,_,_,_=>by simp at b
 |y::l,0,x,b,a,v,c=>by
  simp at b;subst b;rw[AF,HT,AI,Ge (List.getElem?_eq_some_iff.1 c).1];exact c
 |y::l,i+1,x,b,a,v,c=>by
  have d:=dA (E:=E) (l:=l) (i:=i) (by simpa using b) a v c;rw[AF,F2 (by rw[E.len,Bm];omega),E.len];rw[show(i+1)*E.w+a-E.w=i*E.w+a by rw[Bm];omega];exact d
theorem KF {E:cE α}: ∀ {l:List α},(l.flatMap E.enc).length=l.length*E.w
 | []=>by simp
 |x::l=>by rw[AF,A1,KF,E.len,A6,Bm];omega
theorem Own.view {E:cE α}{T:Q7}{a:aa}{s:Sl}{l:List α}(b:Own E T a s l):View E a s l:=by
 rcases b.row with⟨rfl,rfl⟩|⟨g,m,c,d,e,_,n,f⟩
 ·exact View.nil
 ·refine⟨b.len,e,λi x h=>⟨_,c,λj v k=>?_⟩⟩;have:=dA (E:=E) h j v k;rw[<- f,F0] at this;split at this
  ·rw[add_add,Be,IG d];simpa using this
  ·cases this
theorem Own.mod {a:cE α}{T:Q7}{c:Nat->Prop}{d e:aa}{s:Sl}{l:List α}(f:Own a T d s l)(m:Mod c d e)(i: ∀b,s.ag=some b-> ¬c b):Own a T e s l:=by
 refine⟨f.len,?_⟩;rcases f.row with j|⟨g,k,h,n,rest⟩
 ·exact .inl j
 ·exact .inr ⟨g,k,h,m.ag n (i g (by simp[Sl.ag,h])),rest⟩
theorem Own.ext {b:cE α}{T:Q7}{a c:aa}{s:Sl}{l:List α}(d:Own b T a s l)(m:Ext a c):Own b T c s l:=d.mod m λ_ _ a=>a
theorem Own.lit {E:cE α}{T:Q7}{c:aa}{b:Nat}{l:List α}{a:Array J0}(e:c[b]? =some (.cells a T (0,0)))(d:a.toList=l.flatMap E.enc)(f:l.length<=maxLen):
  Own E T c ⟨some ⟨b,0,none⟩,l.length,l.length⟩ l:=by
 have g:a.size=l.length*E.w:=by rw[<- DP,d,KF]
 exact⟨rfl,.inr ⟨b,a,rfl,e,A0 _,f,g,by rw[d];exact Ax (by rw[KF];exact A0 _)⟩⟩
def QP(P:Q1)(t T:Q7)(a b:Nat):Bool:=
 match P.underlying t with
 |some (.slice c)=>Nat.beq c T&&match P.info? T with
  |some i=>Nat.beq i.size a&&Nat.beq i.bytes b&&match i.zero with
   |some z=>Nat.beq z.cells.size a
   |none=>false
  |none=>false
 |_=>false
theorem qI {P:Q1}{t T:Q7}{b c:Nat}(a:QP P t T b c=true):
  P.underlying t=some (.slice T)/\ ∃i z,P.info? T=some i/\i.zero=some z/\i.size=b/\i.bytes=c/\z.cells.size=b:=by
 unfold QP at a;split at a
 ·rename_i h d;split at a
  ·rename_i i e;split at a
   ·rename_i z f;simp only[A3,Nat.beq_eq] at a;obtain⟨rfl,⟨rfl,rfl⟩,g⟩:=a;exact⟨d,i,z,e,f,rfl,rfl,g⟩
   ·simp at a
  ·simp at a
 ·simp at a
theorem vv {A:al}{b a:World}{h:aa}{n:Nat}(c:b=A.at h n)(d:a.os=b.os)(e:a.tape=b.tape)(f:a.output=b.output):a=A.at a.heap a.drawn:=by
 subst c;cases a;simp only[al.at] at*
 simp[d,e,f]
theorem Pb {v:J0}(a:ML v=true):v.oneCell'=true:=by cases v<;>first|rfl|(simp[ML] at a)
theorem Own.lA {a:cE α}{T:Q7}{A:al}{b:aa}{s:Sl}{l:List α}{n:Nat}(c:Own a T b s l):(A.at b n).ownsRow 0 T a.w (.slice s.p s.len s.cap) s.len (l.flatMap a.enc):=by
 refine⟨by rw[KF,c.len],?_⟩;rcases c.row with⟨rfl,rfl⟩|⟨g,d,e,f,h,i,j,k⟩
 ·exact .inl ⟨rfl,rfl⟩
 ·exact .inr ⟨g,s.cap,d,by rw[e],A5 _,f,h,i,j,k⟩
theorem AH5 {a:cE α}{T:Q7}{c:World}{v:J0}{b:Nat}{l:List α}(d:c.ownsRow 0 T a.w v b (l.flatMap a.enc))(e:b=l.length):
  ∃s:Sl,v= .slice s.p s.len s.cap/\Own a T c.heap s l/\(v= .slice none 0 0->s=⟨none,0,0⟩):=by
 rcases d.2 with⟨rfl,p⟩|⟨g,f,h,rfl,_,i,j,k,m,n⟩
 ·have:l= []:=CT (by omega);subst this;exact⟨⟨none,0,0⟩,rfl,Own.nil,λ_=>rfl⟩
 ·refine⟨⟨some ⟨g,0,none⟩,b,f⟩,rfl,⟨e,.inr ⟨g,h,rfl,i,j,k,m,n⟩⟩,λo=>by cases o⟩
theorem GG {A:al}{P:Q1}{E:cE α}{t p T:Q7}{M:Nat}(am:QP P t T E.w M=true){d:aa}{s src:Sl}{l m:List α}{K:Sl->aa->Prop}
  (h:Own E T d s l) (N:View E d src m) (j:(l.length+m.length)*M<=140737488355328) (W:l.length+m.length<=maxLen)
  (X: ∀f B,Own E T B f (l++m)->Mod (λb=>s.ag=some b) d B->(∀ b,f.ag=some b->s.ag=some b\/d.size<=b)->(f.p=none↔s.p=none/\m= [])->K f B):
  BD A P (Builtin.append_ #[t,t] p #[.slice s.p s.len s.cap,.slice src.p src.len src.cap]) d λv B=> ∃f:Sl,v= .slice f.p f.len f.cap/\K f B:=by
 obtain⟨q,i,z,r,O,G,hB,an⟩:=qI am;intro n;have Q:=N.len;by_cases R:m= []
 ·subst R;simp only[GB,AM,FG] at*
  have ao:(Builtin.append_ #[t,t] p #[.slice s.p s.len s.cap,.slice src.p src.len src.cap]).run P (A.at d n)= .ok (.slice s.p s.len s.cap) (A.at d n):=by
   have S:s.len<=s.cap:=h.view.cap;have w: ∀U:World,(Builtin.firstCells i.size 0 (.slice src.p 0 src.cap)).run P U= .ok #[] U:=by intro U;cases src.p<;>simp[Builtin.firstCells,loadCells,loadCellsFrom]
   cases o:s.p with
   |none=>simp[Builtin.append_,BL q,run_sizeOf r,Builtin.lenOf,Q,S,w]
   |some a=>simp[Builtin.append_,BL q,run_sizeOf r,Builtin.lenOf,Q,S,w,storeCells]
  exact⟨_,d,n,ao,s,rfl,X s d h Mod.refl (λb j=> .inl j) (by simp)⟩
 ·have Y:0<m.length:=List.length_pos_iff.2 R;obtain⟨a,Z,_⟩:=N.cells 0 m[0] (by simp[Y]);have H: ∀e u,(m.flatMap E.enc)[e]? =some u->(A.at d n).cell? (a.add e)=some u:=by
   intro e u ab;have ap:e<m.length*E.w:=by rw[<- KF (E:=E)];exact(List.getElem?_eq_some_iff.1 ab).1
   have aq:e / E.w<m.length:=Nat.div_lt_of_lt_mul (by rw[CM];exact ap);have k:e % E.w<E.w:=Cp _ E.pos;have I:m[e / E.w]? =some m[e / E.w]:=by simp[aq]
   have ac:e % E.w<(E.enc m[e / E.w]).length:=by rw[E.len];exact k
   have w:=dA (E:=E) I (e % E.w) _ (A2 ac);have ad:e / E.w*E.w+e % E.w=e:=Nat.div_add_mod' e E.w;rw[ad,ab] at w;obtain⟨aF,ae,ar⟩:=N.cells _ _ I;rw[Z] at ae;cases ae;have:=ar (e % E.w) _ (A2 ac);rw[add_add,ad] at this;rw[BE] at w;rw[w];exact this
  have J: ∀u∈m.flatMap E.enc,u.oneCell'=true:=by intro u au;obtain⟨x,_,I⟩:=List.mem_flatMap.1 au;exact Pb (E.one x u I)
  obtain⟨af,y,k,ag,C,aG⟩:=run_append_own (P:=P) (A.at d n) 0 t p T i z E.w M q r O G hB an E.pos (.slice s.p s.len s.cap) s.len (l.flatMap E.enc) h.lA a m.length src.cap (m.flatMap E.enc)
   (by rw[KF]) H J (by rw[h.len];exact W) (by rw[h.len];exact j) (A5 _)
  rw[<- Fm] at ag;obtain⟨f,V,av,aH⟩:=AH5 ag (by rw[h.len,A1]);have aw:y=A.at y.heap y.drawn:=vv rfl C.os C.tape C.output;have L:(m.flatMap E.enc).length=m.length*i.size:=by rw[KF,G]
  have ah:((s.len+m.length:Nat):Int)<=9223372036854775807:=by have:=W;simp only[maxLen] at this;rw[h.len];omega
  have ai:(s.len+m.length)*i.bytes<=140737488355328:=by rw[h.len,hB];exact j
  have ax: ∃g c,af= .slice (some ⟨g,0,none⟩) (s.len+m.length) c/\(s.ag=some g\/g=d.size):=by
   rcases h.row with⟨rfl,rfl⟩|⟨g,ay,o,az,S,aI,aA,aJ⟩
   ·have D:=run_append_nil (P:=P) (A.at d n) t p T i z q r O a m.length src.cap (m.flatMap E.enc) L H Y (by simpa using ah) (by have:=ai;simp only[AI] at this;omega);rw[D] at k;cases k;exact⟨d.size,_,by rw[AI];rfl,.inr rfl⟩
   ·by_cases aj:s.len+m.length<=s.cap
    ·have D:=run_append_room (P:=P) (A.at d n) t p T i q r g s.len s.cap ay az a m.length src.cap (m.flatMap E.enc) L H J aj (by rw[L,aA,<-G,<-Bm];exact AN _ aj);rw[o,D] at k;cases k;exact⟨g,_,rfl,.inl (by simp[Sl.ag,o])⟩
    ·have D:=run_append_grow (P:=P) (A.at d n) t p T i z q r O ⟨g,0,none⟩ s.len s.cap (l.flatMap E.enc) (by rw[KF,h.len,G])
      (h.lA (A:=A) (n:=n) |>.cells (g:=g) (by simp[Value.ownBlock,o])) a m.length src.cap (m.flatMap E.enc) L H (by omega) ah (growslice_fits (by omega) ai)
     rw[o,D] at k;cases k;exact⟨d.size,_,rfl,.inr rfl⟩
  obtain⟨g,c,aC,aD⟩:=ax;have ak:f.p=some ⟨g,0,none⟩:=by rw[aC] at V;injection V with J _ _;exact J.symm
  refine⟨af,y.heap,y.drawn,?_,f,V,X f y.heap av ⟨C.size,?_⟩ ?_ ?_⟩
  ·rw[Z,Q,<-aw];exact k
  ·intro b j aE;refine C.block b j ?_;intro F;apply aE;unfold Sl.ag;cases o:s.p with
   |none=>rw[o] at F;simp[Value.ownBlock] at F
   |some a=>rw[o] at F;simp[Value.ownBlock] at F;simp[F]
  ·intro b j;simp[Sl.ag,ak] at j;subst j;rcases aD with d|d
   ·exact .inl d
   ·exact .inr (by omega)
  ·rw[ak];simp[R]
theorem Loop.rule {b:Type}{g:(b->aa->Prop)->b->aa->Prop}(d:Nat->b->aa->Prop)
  (step: ∀K m x a,d m x a->(∀ c e f,c<m->d c e f->K e f)->g K x a) {m:Nat} {x:b} {a:aa} (h:d m x a):Loop g x a:=by
 intro K i
 induction m using Nat.strongRecOn generalizing x a with
 |_ m j=>exact i _ _ (step K m x a h λc e f k l=>j c k l)
theorem Eb {a:Nat}(c:a<=9223372036854775807):J8 J9 (a:Int)=(a:Int):=by
 simp only[J8,IntKind.bits,IntKind.signed];have b:((a:Int)) % ((2:Int)^64)=a:=by omega
 have d: ¬((a:Int)>=(2:Int)^(64-1)):=by omega
 simp only[b];simp;omega
theorem Ab {a:Nat}(b:a<9223372036854775807):J8 J9 ((a:Int)+(1:Int))=((a+1:Nat):Int):=by rw[show((a:Int)+1)=((a+1:Nat):Int) by omega];exact Eb b
theorem Sk.mk {b:aa}{a:Q6}{K:J0->Prop}{v:J0}(c:ah b a=some v)(d:K v):Sk b a K:=⟨v,c,d⟩
theorem AC.mk {b:aa}{a:Q6}{k:IntKind}{K:Int->Prop}{n:Int}(c:ah b a=some (.int k n))(d:K n):AC k b a K:=⟨n,c,d⟩
theorem AZ.mk {b:aa}{a:Q6}{K:Bool->Prop}{n:Bool}(c:ah b a=some (J3 n))(d:K n):AZ b a K:=⟨n,c,d⟩
theorem AJ.mk {b:aa}{a:Q6}{K:A2K->Prop}{n:A2K}(c:ah b a=some (J7 n))(d:K n):AJ b a K:=⟨n,c,d⟩
theorem AX.mk {b:aa}{a:Q6}{K:Q2->Prop}{n:Q2}(c:ah b a=some (J5 n))(d:K n):AX b a K:=⟨n,c,d⟩
theorem Aa.mk {b:aa}{a:Q6}{K:Sl->Prop}{s:Sl}(c:ah b a=some (J4 s.p s.len s.cap))(d:K s):Aa b a K:=⟨s,c,d⟩
theorem AL {a:aa}{b c:Nat}{d:Array J0}{T:Q7}{fr:Nat×Nat}{v:J0}(e:a[b]? =some (J2 d T fr))(f:d[c]? =some v):ah a ⟨b,c,none⟩=some v:=by rw[IG e];exact f
theorem AB {a:aa}{b c:Nat}{d:Array J0}{T:Q7}{fr:Nat×Nat}{v:J0}(e:a[b]? =some (J2 d T fr))(f:d[c]? =some v):ah a ((⟨b,0,none⟩:Q6).add c)=some v:=by rw[Be,AI];exact AL e f
structure Pr where
 key:A2K
 val:A2K
 gone:Bool
deriving DecidableEq
def Pr.agg(x:Pr):J0:= .agg #[J7 x.key,J7 x.val,J3 x.gone]
def Pr.cells(x:Pr):Array J0:= #[J7 x.key,J7 x.val,J3 x.gone]
def BM:cE Pr where
 enc x:= [J7 x.key,J7 x.val,J3 x.gone]
 w:=3
 len _:=rfl
 pos:=by omega
 one x v a:=by simp at a;rcases a with rfl|rfl|rfl<;>rfl
def ig:cE Sl where
 enc s:= [J4 s.p s.len s.cap]
 w:=1
 len _:=rfl
 pos:=by omega
 one x v a:=by simp at a;subst a;rfl
structure ij where
 v:J0
 one:ML v=true
def jS:cE ij where
 enc s:= [s.v]
 w:=1
 len _:=rfl
 pos:=by omega
 one x v a:=by simp at a;subst a;exact x.one
theorem View.idx {b:Type}{c:cE b}{d:aa}{s:Sl}{l:List b}(v:View c d s l){i:Nat}{x:b}(e:l[i]? =some x){K:Q6->Prop}
  (g: ∀a,s.p=some a->Cells d (a.add (i*c.w)) (c.enc x)->K a):bE s.p s.len ((i:Nat):Int) K:=by
 obtain⟨a,f,h⟩:=v.cells i x e;have:i<s.len:=by rw[v.len];exact(List.getElem?_eq_some_iff.1 e).1
 exact bE.mk f this (g a f h)
theorem Cells.pair {b:aa}{a:Q6}{x:Pr}(c:Cells b a (BM.enc x)):ah b a=some (J7 x.key)/\ah b (a.add 1)=some (J7 x.val)/\ah b (a.add 2)=some (J3 x.gone):=by have d:=c 0 _ rfl;rw[add_zero] at d;exact⟨d,c 1 _ rfl,c 2 _ rfl⟩
theorem Cells.sl {b:aa}{a:Q6}{x:Sl}(c:Cells b a (ig.enc x)):ah b a=some (J4 x.p x.len x.cap):=by have d:=c 0 _ rfl;rwa [add_zero] at d
theorem Cells.val {b:aa}{a:Q6}{x:ij}(c:Cells b a (jS.enc x)):ah b a=some x.v:=by have d:=c 0 _ rfl;rwa [add_zero] at d
theorem ao.pair {a:aa}{T:Q7}{j k:A2K}{l:Bool}{d v:A2K}{g:Bool}{K:Nat->aa->Prop}
  (n: ∀b c,b=a.size->c[b]? =some (J2 #[J7 d,J7 v,J3 g] T (0,0))->Ext a c->c.size=a.size+1->K b c):
  ao a (J2 #[J7 j,J7 k,J3 l] T) λb e=>ae e ⟨b,0,none⟩ (J7 d) λf=>ae f ((⟨b,0,none⟩:Q6).add 1) (J7 v) λh=>ae h ((⟨b,0,none⟩:Q6).add 2) (J3 g) λi=>K b i:=by
 refine ao.mk λe _ o p y=>?_
 refine ae.mk o (by simp) λf q r z=>?_
 rw[Be,Be];refine ae.mk q (by simp) λh s t A=>?_
 refine ae.mk s (by simp) λi u w B=>?_
 refine n _ _ rfl (by simpa using u) ?_ (by omega);have m:=(r.trans t).trans w;exact⟨by omega,λb x _=>(m.get b (by omega) (by omega)).trans (p.get b x (by simp))⟩
theorem ao.aZ {k:al}{P:Q1}{t m T:Q7}{g:Nat}{e:Type}{E:cE e}{x:e}{h:Array J0}(n:h.toList=E.enc x)(o:QP P t T E.w g=true){d:aa}{s:Sl}{l:List e}{K:Sl->aa->Prop}
  (p:Own E T d s l) (q:(l.length+1)*g<=140737488355328) (r:l.length+1<=maxLen)
  (u: ∀a c,Own E T c a (l++ [x])->Mod (λb=>s.ag=some b) d c->(∀ b,a.ag=some b->s.ag=some b\/d.size<=b)->a.p≠none->K a c):
  ao d (J2 h T) λb f=>BD k P (Builtin.append_ #[t,t] m #[J4 s.p s.len s.cap,J4 (some ⟨b,0,none⟩) 1 1]) f λv c=> ∃a:Sl,v=J4 a.p a.len a.cap/\K a c:=by
 refine ao.mk λf _ w i G=>?_
 have y:Own E T f ⟨some ⟨d.size,0,none⟩,1,1⟩ [x]:=Own.lit (E:=E) (l:= [x]) w (by simp[n]) (by simp[maxLen]);refine GG (s:=s) (src:=⟨some ⟨d.size,0,none⟩,1,1⟩) o (p.ext i) y.view (by simpa using q) (by simpa using r) λa c z A B C=>?_
 refine u a c z ?_ ?_ ?_
 ·exact i.mod.trans A
 ·intro b D;rcases B b D with j|j
  ·exact .inl j
  ·exact .inr (by omega)
 ·intro F;have:=(C.1 F).2;simp at this
theorem View.sub {d:Type}{b:cE d}{e:aa}{s:Sl}{l:List d}(v:View b e s l){lo hi:Nat}(h:lo<=hi)(j:hi<=l.length):
  View b e ⟨Az s.p s.cap lo b.w,hi-lo,s.cap-lo⟩ ((l.take hi).drop lo):=by
 have k:=v.cap;have m:=v.len;refine⟨by simp;omega,by simp;omega,λi x c=>?_⟩;rw[BY,F0] at c;split at c
 ·rename_i n;obtain⟨a,f,g⟩:=v.cells _ _ c;refine⟨a.add (lo*b.w),?_,?_⟩
  ·unfold Az;simp only[f];rw[if_neg (by omega)];rfl
  ·rw[add_add,<-Bm];exact g
 ·cases c
theorem qJ {p:Q2}{e f g:Nat}{b:Nat}{len c:Nat}(d:Sl.ag ⟨Az p e f g,len,c⟩=some b):p.map (·.block)=some b:=by
 unfold Sl.ag Az at d;simp only at d;split at d
 ·exact d
 ·cases p with
  |none=>simp at d
  |some a=>simp[aU] at d;simp[d]
def Yields(f:al)(P:Q1)(h:J0)(l:List Pr)(d:Nat->Bool->(Nat->Prop)->aa->Prop):Prop:=
 ∀i x c a,l[i]? =some x->d i true c a->Eh f P h #[x.agg] a λv e=> ∃g O',v=J3 g/\(∀ b,O' b->c b\/a.size<=b)/\Mod c a e/\d (i+1) g O' e
structure Body (h:aa) (J:Nat->Bool->(Nat->Prop)->aa->Prop):Prop where
 wf: ∀i g O hh,J i g O hh-> ∀b,O b->b<hh.size
 bj: ∀i g O hh h',J i g O hh->Mod (λb=>¬O b/\h.size<=b) hh h'->J i g O h'
def ES(k:al)(P:Q1)(fv:J0)(j:Nat->Prop)(m:aa)(l:List Pr):Prop:=
 (∀ b,j b->b<m.size)/\ ∃f d,fv= .func (.func f) #[] d/\(∀ a,(callFunc f (#[]++ #[a]++d)).calc P=some (.enter f (#[]++ #[a]++d)))/\
  ∀(c:aa),(∀ b,j b->c[b]? =m[b]?)-> ∀a e h,ML a=true->(∀ b,j b-> ¬h b)->Body c e->Yields k P a l e->e 0 true h c->
   AA k P f (#[]++ #[a]++d) c λv n=>v=J1 #[]/\ ∃i g O',Mod h c n/\(∀ b,O' b->h b\/c.size<=b)/\e i g O' n/\(g=true->i=l.length)/\i<=l.length
theorem ES.aj {e:al}{P:Q1}{fv:J0}{c S':Nat->Prop}{g d:aa}{l:List Pr}(i:ES e P fv c g l)(h: ∀b,c b->S' b)(j: ∀b,S' b->b<d.size)(k: ∀b,c b->d[b]? =g[b]?):ES e P fv S' d l:=by obtain⟨_,f,m,n,o,p⟩:=i;refine⟨j,f,m,n,o,λq r s t u v hd=>p q (λb a=>(r b (h b a)).trans (k b a)) s t u v λb a=>hd b (h b a)⟩
theorem ES.one {a:al}{P:Q1}{fv:J0}{b:Nat->Prop}{c:aa}{l:List Pr}(d:ES a P fv b c l):ML fv=true/\jJ fv/\XR fv=false:=by obtain⟨_,f,e,rfl,_⟩:=d;exact⟨rfl,by simp[jJ],rfl⟩
def vx(x:Pr):iL [.agg [.str,.str,.bool]]:=((x.key,x.val,x.gone,()),())
def vA(l:Nat)(rec:Go.Loop)(c:aa)(d:Nat->Prop)(e:(Nat->Prop)->aa->Prop)(a:aa):Prop:=
 ∃O',(∀ b,O' b->d b\/c.size<=b)/\Mod (λb=>d b\/b=l) c a/\a[l]? =some (.loop {rec with state:= .busy})/\e O' a
theorem Mod.setObj {S:Nat->Prop}{a:aa}{l:Nat}{c:Obj}(d:S l):Mod S a (a.setIfInBounds l c):=
 ⟨by simp,λb _ e=>by rw[DH];intro f;exact e (f▸d)⟩
theorem Cg {a:aa}{l:Nat}{b:Obj}(c:l<a.size):(a.setIfInBounds l b)[l]? =some b:=by simp[c]
theorem Xd {O:al}{P:Q1}{fv:J0}{E:Nat->Prop}{Q a:aa}{l:List Pr}(ah:ES O P fv E Q l)(R: ∀b,E b->a[b]? =Q[b]?)
  (Inv:Nat->Option (Option Nat)->(Nat->Prop)->aa->Prop) (n:Nat->Prop) (hd: ∀b,E b-> ¬n b)
  {body:iL [.agg [.str,.str,.bool]]->Nat->aa->(aa->Prop)->(Option Nat->aa->Prop)->Prop} {S:aa->Prop} {T:Option Nat->aa->Prop}
  (G: ∀i c n j,Inv i c n j-> ∀b,n b->b<j.size)
  (y: ∀i c n j k,Inv i c n j->Mod (λb=>¬n b/\a.size<=b) j k->Inv i c n k)
  (U:Inv 0 none n a)
  (round: ∀i x m j rec V W,l[i]? =some x->Inv i none m j-> ¬m (a.size+1)->a.size+1<j.size->j[a.size+1]? =some (.loop rec)->rec.state= .ready->
   (∀ k,vA (a.size+1) rec j m (Inv (i+1) none) k->V k)->(∀ o k,vA (a.size+1) rec j m (Inv (i+1) (some o)) k->W o k)->body (vx x) (a.size+1) j V W)
  (ai: ∀O' k,Inv l.length none O' k->Mod n a k-> ¬O' a.size->(∀ b,O' b->n b\/a.size<=b)->k[a.size]? =some (.deferred (some []))->S k)
  (aj: ∀i o O' k,Inv i (some o) O' k->i<=l.length->Mod n a k-> ¬O' a.size->(∀ b,O' b->n b\/a.size<=b)->k[a.size]? =some (.deferred (some []))->T o k):
  XN O P fv [.agg [.str,.str,.bool]] body a S T:=by
 intro rec F H az ak;obtain⟨am,f,X,rfl,an,ao⟩:=ah;have Y: ∀b,n b->b<a.size:=G _ _ _ _ U;have Z: ∀b,E b->b<a.size:=λb e=>by
  have:=R b e;rw[Fo (am b e)] at this;exact Ai this
 have I:Ext a ((a.push (.deferred (some []))).push (.loop rec)):=(Mod.push a _).trans (Mod.push _ _);have aA:((a.push (.deferred (some []))).push (.loop rec)).size=a.size+2:=by simp
 refine⟨f,_,?_,AA.mono (ao ((a.push (.deferred (some []))).push (.loop rec)) (λb e=>(I.get b (Z b e) (by simp)).trans (R b e)) (.func (.yield (a.size+1)) #[] #[])
  (λi g C j=> ∃m:Nat->Prop,(∀ b,C b↔m b\/b=a.size\/b=a.size+1)/\ ¬m a.size/\ ¬m (a.size+1)/\(∀ b,m b->n b\/a.size<=b)/\a.size+2<=j.size/\j[a.size]? =some (.deferred (some []))/\
   match g with
   |true=>j[a.size+1]? =some (.loop rec)/\Inv i none m j
   |false=> ∃o w,j[a.size+1]? =some (.loop w)/\w.state≠ .busy/\w.pending=some (kO o)/\Inv i (some o) m j)
  (λb=>n b\/b=a.size\/b=a.size+1) rfl ?_ ?_ ?_ ?_) ?_⟩
 ·have ap:(do let ab <-Deferred.ofValue (.func (.func f) #[] X) #[.func (.yield (a.size+1)) #[] #[]];invoke ab.target ab.args:Sem Next).calc P=(callFunc f (#[]++ #[.func (.yield (a.size+1)) #[] #[]]++X)).calc P:=rfl;unfold Sr;rw[ap,an]
 ·intro b e d;have:=Z b e;rcases d with d|d|d
  ·exact hd b e d
  ·omega
  ·omega
 ·constructor
  ·rintro i g C j ⟨m,p,_,_,_,J,_,s⟩ b e;rcases(p b).1 e with d|d|d
   ·cases g
    ·obtain⟨o,w,_,_,_,z⟩:=s;exact G _ _ _ _ z b d
    ·exact G _ _ _ _ s.2 b d
   ·omega
   ·omega
  ·rintro i g C j k ⟨m,p,u,t,A,J,B,s⟩ q;have ac:Mod (λb=>¬m b/\a.size<=b) j k:=q.aj λb _ e=>⟨λd=>e.1 ((p b).2 (.inl d)),by omega⟩
   have aq:k[a.size]? =j[a.size]? :=q.get _ (by omega) λe=>e.1 ((p _).2 (.inr (.inl rfl)))
   have ad:k[a.size+1]? =j[a.size+1]? :=q.get _ (by omega) λe=>e.1 ((p _).2 (.inr (.inr rfl)))
   refine⟨m,p,u,t,A,by have:=q.size;omega,aq.trans B,?_⟩;cases g
   ·obtain⟨o,w,d,h,K,z⟩:=s;exact⟨o,w,ad.trans d,h,K,y _ _ _ _ _ z ac⟩
   ·exact⟨ad.trans s.1,y _ _ _ _ _ s.2 ac⟩
 ·rintro i x C j ar ⟨m,p,u,t,A,J,B,ae,z⟩;refine ak (vx x) j _ ae (round i x m j rec _ _ ar z t (by omega) ae F ?_ ?_)
  ·rintro k ⟨O',r,q,L,M⟩;have N:a.size+1<k.size:=by have:=q.size;omega
   refine⟨_,L,true,λb=>O' b\/b=a.size\/b=a.size+1,rfl,?_,?_,O',λ_=>CI,?_,?_,?_,?_,?_,?_,?_⟩
   ·rintro b (e|e)
    ·rcases r b e with d|d
     ·exact .inl ((p b).2 (.inl d))
     ·exact .inr d
    ·exact .inl ((p b).2 (.inr e))
   ·refine(q.trans (Mod.setObj (.inr rfl))).aj λb _ e=>(p b).2 (e.elim .inl λd=> .inr (.inr d))
   ·intro d;rcases r _ d with h|h
    ·exact u h
    ·omega
   ·intro d;rcases r _ d with h|h
    ·exact t h
    ·omega
   ·intro b e;rcases r _ e with h|h
    ·exact A _ h
    ·exact .inr (by omega)
   ·simp;omega
   ·rw[DH (by omega)];exact(q.get _ (by omega) (by rintro(d|d);exact u d;omega)).trans B
   ·rw[Cg N];cases rec;simp at F H;simp[F,H]
   ·refine y _ _ _ _ _ M (Mod.setObj ⟨?_,by omega⟩);intro d;rcases r _ d with h|h
    ·exact t h
    ·omega
  ·rintro o k ⟨O',r,q,L,M⟩;have N:a.size+1<k.size:=by have:=q.size;omega
   refine⟨_,L,false,λb=>O' b\/b=a.size\/b=a.size+1,rfl,?_,?_,O',λ_=>CI,?_,?_,?_,?_,?_,o,{rec with state:= .done,pending:=some (kO o)},?_,?_,rfl,?_⟩
   ·rintro b (e|e)
    ·rcases r b e with d|d
     ·exact .inl ((p b).2 (.inl d))
     ·exact .inr d
    ·exact .inl ((p b).2 (.inr e))
   ·refine(q.trans (Mod.setObj (.inr rfl))).aj λb _ e=>(p b).2 (e.elim .inl λd=> .inr (.inr d))
   ·intro d;rcases r _ d with h|h
    ·exact u h
    ·omega
   ·intro d;rcases r _ d with h|h
    ·exact t h
    ·omega
   ·intro b e;rcases r _ e with h|h
    ·exact A _ h
    ·exact .inr (by omega)
   ·simp;omega
   ·rw[DH (by omega)];exact(q.get _ (by omega) (by rintro(d|d);exact u d;omega)).trans B
   ·exact Cg N
   ·simp
   ·refine y _ _ _ _ _ M (Mod.setObj ⟨?_,by omega⟩);intro d;rcases r _ d with h|h
    ·exact t h
    ·omega
 ·refine⟨n,λ_=>CI,λd=>?_,λd=>?_,λb e=> .inl e,by omega,?_,?_⟩;rotate_left 2
  ·rw[P2 (by simp)];simp
  ·exact⟨by have au:a.size+1=(a.push (.deferred (some []))).size:=(by simp);rw[au];exact P3,y _ _ _ _ _ U I.mod⟩
  ·have:=Y _ d;omega
  ·have:=Y _ d;omega
 ·rintro v h ⟨_,i,g,C,q,aC,⟨m,p,u,t,A,J,B,s⟩,av,aw⟩;have af: ∀D,Mod n a (h.setIfInBounds (a.size+1) (.loop D)):=λD=>by
   refine⟨by simp;omega,λb e ax=>?_⟩;rw[DH (by omega)];exact(q.get b (by omega) (by rintro(d|d|d);exact ax d;omega;omega)).trans (I.get b e (by simp))
  have ag: ∀D,(h.setIfInBounds (a.size+1) (.loop D))[a.size]? =some (.deferred (some [])):=λD=>by
   rw[DH (by omega)];exact B
  cases g
  ·obtain⟨o,w,d,K,ay,z⟩:=s;exact⟨w,d,K,.inr ⟨o,ay,aj i o m _ (y _ _ _ _ _ z (Mod.setObj ⟨t,by omega⟩)) aw (af _) u A (ag _)⟩⟩
  ·refine⟨rec,s.1,by simp[F],.inl ⟨H,ai m _ ?_ (af _) u A (ag _)⟩⟩;have:=av rfl;subst this;exact y _ _ _ _ _ s.2 (Mod.setObj ⟨t,by omega⟩)
open Go Ieee
abbrev fD:Format:=Ieee.double
theorem AK2(s:Bool)(m u v:Nat):signed s m (u+v)=signed s m u*(2:Int)^v:=by
 unfold signed;rw[Nd,Nd,GP,<-FA];split
 ·push_cast;rw[Int.neg_mul]
 ·push_cast;rfl
def DV(b:Datum)(c:Int):Prop:= ∃s m,∃a:Nat,b= .number s m (-(a:Int))/\signed s m 0=c*(2:Int)^a
def VR(b:Nat)(a:Int):Prop:=DV (fD.read b) a
theorem OT(s:Bool)(m u:Nat):signed s m u=signed s m 0*(2:Int)^u:=by have:=AK2 s m 0 u;rwa [AI] at this
theorem pow_pos(a:Nat):(0:Int)<(2:Int)^a:=Int.pow_pos (by decide)
theorem AHn(a b:Int)(c:Nat):compare (a*(2:Int)^c) (b*(2:Int)^c)=compare a b:=by have d:=pow_pos c;simp only[compare,compareOfLessAndEq];have e:(a*2^c<b*2^c)↔a<b:=Int.mul_lt_mul_right d;have f:(a*2^c=b*2^c)↔a=b:=Int.mul_eq_mul_right_iff (by omega);by_cases c1:a<b<;>by_cases c2:a=b<;>simp[e,f,c1,c2]
theorem DV.order {x d:Datum}{e m:Int}(f:DV x e)(h:DV d m):x.order d=some (compare e m):=by
 obtain⟨s,a,c,rfl,i⟩:=f;obtain⟨t,b,l,rfl,g⟩:=h;simp only[Datum.order];congr 1;have j:(-(c:Int)-min (-(c:Int)) (-(l:Int))).toNat=max c l-c:=by omega
 have k:(-(l:Int)-min (-(c:Int)) (-(l:Int))).toNat=max c l-l:=by omega
 rw[j,k,OT s,OT t,i,g,It,It,<-Iv,<-Iv,show c+(max c l-c)=max c l by omega,show l+(max c l-l)=max c l by omega,AHn]
theorem VR.order {x a:Nat}{b m:Int}(c:VR x b)(d:VR a m):fD.order x a=some (compare b m):=DV.order c d
theorem cmp_eq {a m:Int}:(compare a m= .eq)↔a=m:=by simp only[compare,compareOfLessAndEq];by_cases c1:a<m<;>by_cases c2:a=m<;>simp[c1,c2]<;>omega
theorem xM(b:Bool){a:Nat}(c:a<fD.signWeight):
  fD.read (fD.word b a)=if a<fD.binade then .number b a fD.leastPlace else if a<fD.infRung then .number b (fD.binade+a % fD.binade) (fD.leastPlace+(a / fD.binade-1:Nat)) else if a=fD.infRung then .infinity b else .nan b (a-fD.infRung):=by
 have d:0<fD.signWeight:=HC _;have e:(fD.word b a / fD.signWeight % 2==1)=b:=by
  unfold Format.word;cases b
  ·simp[Nat.div_eq_of_lt c]
  ·simp[Nat.add_div_left _ d,Nat.div_eq_of_lt c]
 have f:fD.word b a % fD.signWeight=a:=by
  unfold Format.word;cases b
  ·simp[AE c]
  ·simp[AE c]
 unfold Format.read;simp only[e,f]
theorem xN(s:Bool)(u:Nat):signed s 0 u=0:=by cases s<;>simp[signed]
theorem oK:fD.binade=4503599627370496:=by decide
theorem rD:fD.infRung=9218868437227405312:=by decide
theorem xO:fD.signWeight=9223372036854775808:=by decide
theorem mC:fD.leastPlace= -1074:=by decide
theorem ATn:fD.fractionBits=52:=rfl
theorem ARJ(a:Bool):VR (fD.word a 0) 0:=by refine⟨a,0,1074,?_,by rw[xN,Int.zero_mul]⟩;rw[xM a (by rw[xO];decide),if_pos (by rw[oK];decide),mC];rfl
theorem YH {v:Nat}(f:0<v)(K:Nat):(v*2^K).log2=v.log2+K:=by
 have a:v≠0:=by omega
 have c:0<2^K:=HC K;have b:v*2^K≠0:=Nat.mul_ne_zero a (by omega);have d:2^v.log2<=v:=(RC a).1 (A0 _);have e:v<2^(v.log2+1):=(No a).1 (Hh _);have g:v.log2+K<=(v*2^K).log2:=by rw[RC b,GP];exact AN _ d
 have h:(v*2^K).log2<v.log2+1+K:=by rw[No b,GP];exact RE e c
 omega
theorem AP2(b:Bool)(a:Nat):Toward.even.cut b a 0=a:=by simp[Toward.cut,Nat.mod_one]
theorem ANI(b:Toward)(c:Bool){M a:Nat}(d:0<M):b.cut c (M*2^a) a=M:=by
 unfold Toward.cut;have hd:min a ((M*2^a).log2+2)=a:=by rw[YH d];omega
 have e:0<2^a:=HC a;simp only[hd,Nat.one_shiftLeft,Nat.mul_mod_left,Nat.mul_div_cancel _ e];cases b
 ·have f: ¬(2^a=0):=by omega
  simp[f]
 all_goals simp
theorem APS {L M:Nat}(a:L<=52)(b:M<9007199254740992):min ((L+1022)*4503599627370496+M) 9218868437227405312=(L+1022)*4503599627370496+M:=by omega
theorem ASZ {L M:Nat}(a:4503599627370496<=M): ¬(L+1022)*4503599627370496+M<4503599627370496:=by omega
theorem ASk {L M:Nat}(a:L<=52)(b:M<9007199254740992):(L+1022)*4503599627370496+M<9218868437227405312:=by omega
theorem xP {L M:Nat}(a:4503599627370496<=M)(b:M<9007199254740992):((L+1022)*4503599627370496+M) % 4503599627370496=M-4503599627370496/\((L+1022)*4503599627370496+M) / 4503599627370496=L+1023:=by omega
theorem ASd {M:Nat}(a:4503599627370496<=M):4503599627370496+(M-4503599627370496)=M:=by omega
theorem ASq {L:Nat}(a:L<=52):(-1074:Int)+((L+1023-1:Nat):Int)=(L:Int)-52:=by omega
theorem ATH {L:Nat}(a:L<=52):(L:Int)-52= -((52-L:Nat):Int):=by omega
theorem ASs {L M:Nat}(a:L<=52)(b:M<9007199254740992):(L+1022)*4503599627370496+M<9223372036854775808:=by omega
theorem AEr(a:Bool){v K:Nat}(i:0<v)(j:v<9007199254740992):VR (fD.nearest a (v*2^K) (-(K:Int))) (if a then -(v:Int) else v):=by
 have e:v≠0:=by omega
 have k:=YH i K;have b:v.log2<=52:=by have:v.log2<53:=(No e).2 (by simpa using j);omega
 have l:2^v.log2<=v:=(RC e).1 (A0 _);have m:v<2^(v.log2+1):=(No e).1 (Hh _);have n: ¬v*2^K=0:=Nat.mul_ne_zero e (by have:=HC K;omega);generalize u:v.log2=L at*
 have f:4503599627370496<=v*2^(52-L):=by have c:2^L*2^(52-L)<=v*2^(52-L):=AN _ l;rw[<- GP,show L+(52-L)=52 by omega] at c;exact c
 have d:v*2^(52-L)<9007199254740992:=by have c:v*2^(52-L)<2^(L+1)*2^(52-L):=RE m (HC _);rw[<- GP,show L+1+(52-L)=53 by omega] at c;exact c
 have o:fD.nearest a (v*2^K) (-(K:Int))=fD.word a ((L+1022)*4503599627370496+v*2^(52-L)):=by
  unfold Format.nearest;rw[if_neg n];have p:max (-(K:Int)+((v*2^K).log2:Nat)-(fD.fractionBits:Nat)) fD.leastPlace=(L:Int)-52:=by rw[k,mC,ATn];push_cast;omega
  simp only[p];have q:Toward.even.cut a ((v*2^K) <<< (-(K:Int)-((L:Int)-52)).toNat) (((L:Int)-52)- -(K:Int)).toNat=v*2^(52-L):=by
   by_cases w:K+L<=52
   ·have g:(((L:Int)-52)- -(K:Int)).toNat=0:=by omega
    have h:(-(K:Int)-((L:Int)-52)).toNat=52-L-K:=by omega
    rw[g,h,AP2,Nd,FA,<-GP];congr 2;omega
   ·have g:(((L:Int)-52)- -(K:Int)).toNat=L+K-52:=by omega
    have h:(-(K:Int)-((L:Int)-52)).toNat=0:=by omega
    have r:v*2^K=(v*2^(52-L))*2^(L+K-52):=by rw[FA,<-GP];congr 2;omega
    rw[g,h,Kp,r,ANI _ _ (by omega)]
  have s:(((L:Int)-52)-fD.leastPlace).toNat=L+1022:=by rw[mC];omega
  rw[q,s,oK,rD,APS b d]
 rw[o];have t:(L+1022)*4503599627370496+v*2^(52-L)<fD.signWeight:=by rw[xO];exact ASs b d
 refine⟨a,v*2^(52-L),52-L,?_,?_⟩
 ·rw[xM a t,oK,rD,mC,if_neg (ASZ f),if_pos (ASk b d),(xP f d).1,(xP f d).2,ASd f,ASq b,ATH b]
 ·unfold signed;rw[Kp];cases a
  ·simp
  ·simp[Int.neg_mul]
theorem APn {s:Bool}{a:Nat}{K:Nat}{b:Int}(c:signed s a 0=b*(2:Int)^K)(j:b.natAbs<9007199254740992):VR (fD.write (.number s a (-(K:Int)))) b:=by
 show VR (fD.nearest s a (-(K:Int))) b;have h:=pow_pos K;have k:(2:Int)^K=((2^K:Nat):Int):=by push_cast;rfl
 by_cases l:b=0
 ·subst l;have e:a=0:=by unfold signed at c;rw[Kp,Int.zero_mul] at c;split at c<;>omega
  subst e;have f:fD.nearest s 0 (-(K:Int))=fD.word s 0:=by unfold Format.nearest;rw[if_pos rfl]
  rw[f];exact ARJ s
 ·have e:a=b.natAbs*2^K/\(if s then -(b.natAbs:Int) else b.natAbs)=b:=by
   unfold signed at c;rw[Kp] at c;have i:(a:Int).natAbs=(b*2^K).natAbs:=by rw[<- c];split<;>simp
   have f:(b*2^K).natAbs=b.natAbs*2^K:=by rw[Int.natAbs_mul,k,Nx]
   refine⟨by rw[f] at i;simpa using i,?_⟩;split at c
   ·rename_i g;rw[if_pos g];have:b*(2:Int)^K<=0:=by omega
    have:b<=0:=by
     rcases Int.lt_or_le 0 b with d|d
     ·have:=Int.mul_pos d h;omega
     ·exact d
    omega
   ·rename_i g;rw[if_neg g];have:0<=b*(2:Int)^K:=by omega
    have:0<=b:=by
     rcases Int.lt_or_le b 0 with d|d
     ·have:=Int.mul_neg_of_neg_of_pos d h;omega
     ·exact d
    omega
  rw[e.1];have:=AEr s (v:=b.natAbs) (K:=K) (by omega) j;rw[e.2] at this;exact this
theorem AIj(t:Int):signed (decide (t<0)) t.natAbs 0=t:=by
 unfold signed;rw[Kp];split
 ·rename_i a;simp at a;omega
 ·rename_i a;simp at a;omega
theorem DV.sum {x e:Datum}{d m:Int}(i:DV x d)(j:DV e m)(k:(d+m).natAbs<9007199254740992): ∃f,x.sum e=some f/\VR (fD.write f) (d+m):=by
 obtain⟨s,a,c,rfl,n⟩:=i;obtain⟨t,b,l,rfl,g⟩:=j;refine⟨_,rfl,?_⟩;have o:min (-(c:Int)) (-(l:Int))= -((max c l:Nat):Int):=by omega
 have p:(-(c:Int)-min (-(c:Int)) (-(l:Int))).toNat=max c l-c:=by omega
 have q:(-(l:Int)-min (-(c:Int)) (-(l:Int))).toNat=max c l-l:=by omega
 have r:signed s a (-(c:Int)-min (-(c:Int)) (-(l:Int))).toNat+signed t b (-(l:Int)-min (-(c:Int)) (-(l:Int))).toNat=(d+m)*(2:Int)^(max c l):=by rw[p,q,OT s,OT t,n,g,It,It,<-Iv,<-Iv,show c+(max c l-c)=max c l by omega,show l+(max c l-l)=max c l by omega,Int.add_mul]
 simp only[r];rw[o];generalize u:(d+m)*(2:Int)^(max c l)=T at*
 refine APn ?_ k;rw[u];split
 ·rename_i h;rw[h];exact(xN _ _).trans (by rw[<- h])
 ·exact(AIj T)
theorem ANW {b:Nat}{s:Bool}{m:Nat}{i:Int}(a:fD.read b= .number s m i):i<=0\/4503599627370496<=m:=by
 unfold Format.read at a;simp only[oK,rD,mC] at a;split at a
 ·injection a with _ _ c;exact .inl (by omega)
 ·split at a
  ·injection a with _ d _;exact .inr (by omega)
  ·split at a<;>cases a
theorem AKW(s:Bool)(m u:Nat):(signed s m u).natAbs=m*2^u:=by
 unfold signed;rw[Nd];split
 ·rw[Int.natAbs_neg,Nx]
 ·rw[Nx]
theorem VR.of_eq {x k:Nat}{m:Int}(o:VR k m)(v:m.natAbs<4503599627370496)(c:fD.order x k=some .eq):VR x m:=by
 obtain⟨t,b,l,p,g⟩:=o;unfold Format.order at c;rw[p] at c;unfold VR;cases e:fD.read x with
 |nan s f=>rw[e] at c;simp[Datum.order] at c
 |infinity s=>rw[e] at c;cases s<;>simp[Datum.order] at c
 |number s a i=>
  rw[e] at c;simp only[Datum.order,BE] at c;rw[cmp_eq] at c;by_cases q:i<=0
  ·refine⟨s,a,(-i).toNat,by rw[show -(((-i).toNat:Nat):Int)=i by omega],?_⟩;generalize w:(-i).toNat=d;have h:(i-min i (-(l:Int))).toNat=max d l-d:=by omega
   have j:(-(l:Int)-min i (-(l:Int))).toNat=max d l-l:=by omega
   rw[h,j,OT s,OT t,g,It,<-Iv,show l+(max d l-l)=max d l by omega] at c;refine Int.eq_of_mul_eq_mul_right (a:=(2:Int)^(max d l-d)) (by have:=pow_pos (max d l-d);omega) ?_;rw[c,It,<-Iv,show d+(max d l-d)=max d l by omega]
  ·exfalso;have y:=(ANW e).resolve_left q;have h:(i-min i (-(l:Int))).toNat=i.toNat+l:=by omega
   have j:(-(l:Int)-min i (-(l:Int))).toNat=0:=by omega
   rw[h,j,g] at c;have n:=congrArg Int.natAbs c;have r:(2:Int)^l=((2^l:Nat):Int):=by push_cast;rfl
   rw[AKW,Int.natAbs_mul,r,Nx,GP,<-FA] at n;have z:a*2^i.toNat=m.natAbs:=Nat.eq_of_mul_eq_mul_right (HC l) n;have u:1<=2^i.toNat:=HC _;have A:a*1<=a*2^i.toNat:=Nat.mul_le_mul_left _ u;omega
theorem BD.run {A:al}{P:Q1}{s:Sem J0}{h:aa}{K:A2J}{v:J0}(b: ∀a,s.run P a= .ok v a)(c:K v h):BD A P s h K:=λd=>⟨v,h,d,b _,c⟩
section
variable {A : al} {P : Q1} {t : Q7} {o1 o2 : Operand} {x y : Nat} {h : aa} {K : A2J}
end
open Go
theorem toList_inj {a b:A2K}:(a.toList==b.toList)=decide (a=b):=by rw[ByteArray.toList_eq,ByteArray.toList_eq];rw[G0];simp[LS,<-Array.toList_inj]
theorem Cn {a b:A2K}:bQ a b=decide (a=b):=toList_inj
theorem Qy: ∀(a:List UInt8),Op.bytesLess a a=false
 | []=>rfl
 |a::x=>by simp[Op.bytesLess,Qy x]
theorem mg: ∀(a b:List UInt8),Op.bytesLess a b=false->Op.bytesLess b a=false->a=b
 | [],[],_,_=>rfl
 | [],_::_,c,_=>by simp[Op.bytesLess] at c
 |_::_,[],_,c=>by simp[Op.bytesLess] at c
 |a::x,b::f,d,e=>by
  simp only[Op.bytesLess,GC,A01,decide_eq_false_iff_not,beq_eq_false_iff_ne] at d e;have g:a=b:=by have h:=d.1;have i:=e.1;exact UInt8.le_antisymm (UInt8.not_lt.1 i) (UInt8.not_lt.1 h)
  subst g;rw[mg x f (d.2.resolve_left (by simp)) (e.2.resolve_left (by simp))]
theorem Tm: ∀(a b c:List UInt8),Op.bytesLess a b=true->Op.bytesLess b c=true->Op.bytesLess a c=true
 |_,[],_,f,_=>by simp[Op.bytesLess] at f
 |_,_::_,[],_,f=>by simp[Op.bytesLess] at f
 | [],_::_,_::_,_,_=>by simp[Op.bytesLess]
 |a::x,b::g,c::z,e,d=>by
  simp only[Op.bytesLess,Ds,A3,decide_eq_true_eq,beq_iff_eq] at e d ⊢;rcases e with e|⟨rfl,e⟩
  ·rcases d with d|⟨rfl,d⟩
   ·exact .inl (UInt8.lt_trans e d)
   ·exact .inl e
  ·rcases d with d|⟨rfl,d⟩
   ·exact .inl d
   ·exact .inr ⟨rfl,Tm x g z e d⟩
theorem CX(a:A2K):aN a a=false:=Qy _
theorem DX {a b c:A2K}(d:aN a b=true)(e:aN b c=true):aN a c=true:=Tm _ _ _ d e
theorem OD {a b:A2K}(d:aN a b=false)(e:aN b a=false):a=b:=by
 have:=mg _ _ d e;have c:bQ a b=true:=by simp[bQ,this]
 rw[Cn] at c;simpa using c
theorem OZ {a b:A2K}(c:aN a b=true):aN b a=false:=by
 cases d:aN b a
 ·rfl
 ·have:=DX c d;rw[CX] at this;cases this
theorem Nl {a b:A2K}(c:aN a b=true):a≠b:=by rintro rfl;rw[CX] at c;cases c
theorem nX {a b c:A2K}(d:aN a b=true)(f:aN c b=false):aN a c=true:=by
 cases e:aN b c
 ·rw[OD f e];exact d
 ·exact DX d e
theorem Zv {a b c:A2K}(e:aN b a=false)(d:aN c b=false):aN c a=false:=by
 cases f:aN c a
 ·rfl
 ·have:=nX f e;rw[this] at d;cases d
theorem vU: ∀(a b:List UInt8),Op.bytesLess a b=decide (a<b)
 | [],[]=>by simp[Op.bytesLess]
 | [],_::_=>by simp[Op.bytesLess]
 |_::_,[]=>by simp[Op.bytesLess]
 |a::x,b::c=>by
  simp only[Op.bytesLess,vU x c,A0a];by_cases d:a<b<;>by_cases e:a=b<;>simp[d,e]
theorem ZY(a b:A2K):aN a b=decide (a.data.toList<b.data.toList):=by simp[aN,ByteArray.toList_eq,vU]
def Ik:cE A2K where
 enc x:= [.string x]
 w:=1
 len _:=rfl
 pos:=by omega
 one x v a:=by simp at a;subst a;rfl
def IY:cE Int where
 enc x:= [.int J9 x]
 w:=1
 len _:=rfl
 pos:=by omega
 one x v a:=by simp at a;subst a;rfl
theorem Cells.str {b:aa}{a:Q6}{x:A2K}(c:Cells b a (Ik.enc x)):ah b a=some (.string x):=by have d:=c 0 _ rfl;rwa [add_zero] at d
theorem Cells.int {b:aa}{a:Q6}{x:Int}(c:Cells b a (IY.enc x)):ah b a=some (.int J9 x):=by have d:=c 0 _ rfl;rwa [add_zero] at d
theorem Own.lt {c:Type}{e:cE c}{T:Q7}{d:aa}{s:Sl}{l:List c}(f:Own e T d s l){b:Nat}(a:s.ag=some b):b<d.size:=by
 rcases f.row with⟨rfl,_⟩|⟨g,j,h,i,_⟩
 ·simp[Sl.ag] at a
 ·simp[Sl.ag,h] at a;subst a;exact Ai i
def ga(a:A2K)(v:J0):List (A2K×J0)->List (A2K×J0)
 | []=> [(a,v)]
 |p::m=>if p.1=a then(a,v)::m else p::ga a v m
def UW(a:A2K)(m:List (A2K×J0)):Option J0:=(m.find? λp=>decide (p.1=a)).map (·.2)
def iM(a:A2K)(m:List (A2K×J0)):List (A2K×J0):=m.filter λp=> !decide (p.1=a)
theorem Oe(a:A2K)(p:A2K×J0)(m:List (A2K×J0)):UW a (p::m)=if p.1=a then some p.2 else UW a m:=by unfold UW;rw[DS];by_cases b:p.1=a<;>simp[b]
structure dT (es:Array MapEntry) (clock:Nat) (m:List (A2K×J0)):Prop where
 same:es.toList.map (λe=>(e.key,e.val))=m.map λp=>(Value.string p.1,p.2)
 stamped:MapKept.Stamped es clock
 size:es.size<=maxLen
 keys: ∀p∈m,p.1.size<=maxLen
def Vh(d:aa)(b:Nat)(m:List (A2K×J0)):Prop:= ∃a c,d[b]? =some (.map a c)/\dT a c m
theorem Vh.mod {a c:aa}{b:Nat}{m:List (A2K×J0)}{d:Nat->Prop}(M:Vh a b m)(x:Mod d a c)(e: ¬d b):Vh c b m:=by obtain⟨f,g,h,i⟩:=M;exact⟨f,g,x.ag h e,i⟩
theorem Vh.lt {a:aa}{b:Nat}{m:List (A2K×J0)}(M:Vh a b m):b<a.size:=by obtain⟨d,e,c,f⟩:=M;exact Ai c
theorem Vh.empty {a:aa}{b c:Nat}(d:a[b]? =some (.map #[] c)):Vh a b []:=⟨#[],c,d,rfl,MapKept.stamped_empty c,by simp,by simp⟩
theorem dT.len {a:Array MapEntry}{b:Nat}{m:List (A2K×J0)}(M:dT a b m):a.size=m.length:=by rw[<- DP];have:=congrArg List.length M.same;simpa using this
theorem dT.keysOf {a:Array MapEntry}{b:Nat}{m:List (A2K×J0)}(M:dT a b m):a.toList.map (·.key)=m.map λp=>Value.string p.1:=by have:=congrArg (List.map Prod.fst) M.same;simpa [AT,FF] using this
theorem dT.nodup {b:Array MapEntry}{c:Nat}{m:List (A2K×J0)}(M:dT b c m):(m.map (·.1)).Nodup:=by
 have a:=M.stamped.2.2;rw[M.keysOf] at a;have d:(m.map λp=>Value.string p.1)=(m.map (·.1)).map Value.string:=by simp
 rw[d] at a;exact(List.pairwise_map.1 a).imp λe f=>e (congrArg _ f)
theorem VX(a:A2K)(v:J0): ∀(c:List MapEntry) (m:List (A2K×J0)) (i:Nat),(c.map λe=>(e.key,e.val))=(m.map λp=>(Value.string p.1,p.2))->
  (Instr.findNow .string (.string a) c i=some none/\UW a m=none/\ga a v m=m++ [(a,v)]/\iM a m=m/\ ∀e∈c,e.key≠ .string a)\/
  ∃d u,Instr.findNow .string (.string a) c i=some (some (i+d,u))/\UW a m=some u/\(∃ e,c[d]? =some e/\e.key= .string a)/\((c.modify d λe=> {e with key:= .string a,val:=v}).map λe=>(e.key,e.val))=(ga a v m).map (λp=>(Value.string p.1,p.2))/\
   ((m.map (·.1)).Nodup->((c.eraseIdx d).map λe=>(e.key,e.val))=(iM a m).map λp=>(Value.string p.1,p.2))
 | [],[],i,_=> .inl ⟨rfl,rfl,rfl,rfl,by simp⟩
 | [],_::_,_,h=>by simp at h
 |_::_,[],_,h=>by simp at h
 |e::c,p::m,i,h=>by
  simp only[BT,Hc,LL] at h;obtain⟨⟨j,l⟩,n⟩:=h;have o:Instr.sameNow .string (.string a) e.key=some (decide (a=p.1)):=by rw[j];show some (a==p.1)=_;congr 1;rw[G0,MapKept.bytes_beq];simp
  by_cases b:p.1=a
  ·refine .inr ⟨0,e.val,?_,?_,⟨e,rfl,by rw[j,b]⟩,?_,?_⟩
   ·unfold Instr.findNow;rw[o,decide_eq_true b.symm];rfl
   ·rw[Oe,if_pos b,l]
   ·unfold ga;rw[if_pos b];simp[n]
   ·intro g;have g:=List.nodup_cons.1 g;simp only[List.eraseIdx_zero,List.tail_cons];rw[n];congr 1;unfold iM;rw[AS];simp only[b,decide_true,Lk,Cd,if_false];refine(List.filter_eq_self.2 λC w=>?_).symm;simp only[CD,decide_eq_false_iff_not];rintro rfl;exact g.1 (by show p.1∈_;rw[b];exact MT (f:=Prod.fst) w)
  ·rcases VX a v c m (i+1) n with⟨q,r,s,k,y⟩|⟨d,u,q,r,⟨z,s,A⟩,B,k⟩
   ·refine .inl ⟨?_,?_,?_,?_,?_⟩
    ·unfold Instr.findNow;rw[o,decide_eq_false (λe=>b e.symm)];exact q
    ·rw[Oe,if_neg b];exact r
    ·unfold ga;rw[if_neg b,s];rfl
    ·unfold iM at k ⊢;rw[AS];simp[b];simpa using k
    ·intro x t;rcases List.mem_cons.1 t with rfl|t
     ·rw[j];intro e;injection e with e;exact b e
     ·exact y x t
   ·refine .inr ⟨d+1,u,?_,?_,⟨z,by simpa using s,A⟩,?_,?_⟩
    ·unfold Instr.findNow;rw[o,decide_eq_false (λe=>b e.symm)];rw[show i+(d+1)=i+1+d by omega];exact q
    ·rw[Oe,if_neg b];exact r
    ·unfold ga;rw[if_neg b];simp[j,l,B]
    ·intro g;have g:=List.nodup_cons.1 g;have:=k g.2;unfold iM at this ⊢;rw[AS];simp[b,j,l];simpa using this
section
variable {P : Q1}
theorem Jh {a:Q7}(c:P.underlying a=some .string)(d:Bool)(e:Nat)(f:A2K)(b:World):(Instr.checkKey d (e+1) a (.string f)).run P b= .ok () b:=by simp[Instr.checkKey,BL c]
theorem RG {g:al}{t h i:Q7}{z:J0}(j:P.underlying t=some (.map h i))(c:P.underlying h=some .string)(n:(zeroValue i).calc P=some z){a:aa}{b:Nat}{m:List (A2K×J0)}{d:A2K}{K:A2J}
  (M:Vh a b m) (o:K ((UW d m).getD z) a):BD g P (Instr.lookup t (.map (some b)) (.string d) false) a K:=by
 intro k;refine⟨_,a,k,?_,o⟩;obtain⟨p,v,q,s⟩:=M;have l:=MapKept.run_getObj_map (P:=P) (w:=g.at a k) (r:=b) q;rcases VX d z p.toList m 0 s.same with⟨e,f,_⟩|⟨x,u,e,f,_,_⟩
 ·simp[Instr.lookup,BL j,l,Jh c,Instr.findKey,BL c,e,f,Result.andThen,Da n]
 ·simp[Instr.lookup,BL j,l,Jh c,Instr.findKey,BL c,e,f,Result.andThen]
theorem vV {b:A2K}{v:J0}: ∀ {m:List (A2K×J0)} {p:A2K×J0},p∈ga b v m->p.1=b\/p∈m
 | [],p,a=>by simp[ga] at a;exact .inl (by rw[a])
 |q::m,p,a=>by
  unfold ga at a;split at a
  ·rcases List.mem_cons.1 a with rfl|a
   ·exact .inl rfl
   ·exact .inr (AG _ a)
  ·rcases List.mem_cons.1 a with rfl|a
   ·exact .inr CC
   ·exact(vV a).imp id (AG _)
theorem AM2 {g:al}{t s I:Q7}(y:P.underlying t=some (.map s I))(h:P.underlying s=some .string){d:aa}{b:Nat}{m:List (A2K×J0)}{a:A2K}{v:J0}{K:aa->Prop}
  (M:Vh d b m) (J:a.size<=maxLen) (U:m.length<maxLen) (z: ∀i,Vh i b (ga a v m)->Mod (λc=>c=b) d i->i.size=d.size->K i):gN g P (Instr.mapUpdate t (.map (some b)) (.string a) v) d K:=by
 intro f;obtain⟨j,l,n,e⟩:=M;have A:=Ai n;have B:=MapKept.run_getObj_map (P:=P) (w:=g.at d f) (r:=b) n;have C: ∀k,(setObj b k).run P (g.at d f)= .ok () (g.at (d.setIfInBounds b k) f):=λk=>MapKept.run_setObj_map (P:=P) (w:=g.at d f) k n
 have D: ∀p∈ga a v m,p.1.size<=maxLen:=λp L=>(vV L).elim (λd=>by rw[d];exact J) (e.keys p)
 have V:=e.len;rcases VX a v j.toList m 0 e.same with⟨o,N,q,_,O⟩|⟨E,u,o,N,⟨Q,q,F⟩,R,_⟩
 ·refine⟨d.setIfInBounds b (.map (j.push {key:= .string a,val:=v,born:=l}) (l+1)),f,?_,z _ ⟨_,_,Cg A,?_,MapKept.stamped_push e.stamped O,by simp;omega,D⟩ (Mod.setObj rfl) (by simp)⟩
  ·simp[Instr.mapUpdate,BL y,B,Jh h,Instr.findKey,BL h,o,Result.andThen,C]
  ·rw[q];simp[e.same]
 ·have G:j[E]? =some Q:=by simpa using q
  refine⟨d.setIfInBounds b (.map (j.modify E λe=> {e with key:= .string a,val:=v}) l),f,?_,z _ ⟨_,_,Cg A,?_,MapKept.stamped_modify e.stamped _ _ (λ_ _=>rfl) (λx _ H=>?_),by simpa using e.size,D⟩ (Mod.setObj rfl) (by simp)⟩
  ·have S: ∀w,(Instr.keyThatStays (.string a) (.string a)).run P w= .ok (.string a) w:=λw=>by
    have T:(a==a)=true:=(MapKept.bytes_beq a a).2 rfl;simp[Instr.keyThatStays,Instr.sameBits,T]
   simp[Instr.mapUpdate,BL y,B,Jh h,Instr.findKey,BL h,o,G,F,S,Result.andThen,C]
  ·rw[Hj];exact R
  ·rw[G] at H;cases H;exact F.symm
theorem AMa {g:al}{t l D E:Q7}(v:P.underlying t=some (.map l D))(h:P.underlying l=some .string){a:aa}{b:Nat}{m:List (A2K×J0)}{i:A2K}{K:A2J}
  (M:Vh a b m) (x: ∀j,Vh j b (iM i m)->Mod (λc=>c=b) a j->j.size=a.size->K (.tuple #[]) j):BD g P (Builtin.delete_ #[t,l] E #[.map (some b),.string i]) a K:=by
 intro e;obtain⟨f,y,n,d⟩:=M;have z:=Ai n;have A:=MapKept.run_getObj_map (P:=P) (w:=g.at a e) (r:=b) n;have B: ∀k,(setObj b k).run P (g.at a e)= .ok () (g.at (a.setIfInBounds b k) e):=λk=>MapKept.run_setObj_map (P:=P) (w:=g.at a e) k n
 have C: ∀p∈iM i m,p.1.size<=maxLen:=λp F=>d.keys p (List.mem_filter.1 F).1
 rcases VX i (.bool true) f.toList m 0 d.same with⟨o,G,_,q,_⟩|⟨s,u,o,G,⟨H,I,N⟩,_,q⟩
 ·refine⟨_,a.setIfInBounds b (.map f y),e,?_,x _ ⟨_,_,Cg z,by rw[q];exact d.same,d.stamped,d.size,C⟩ (Mod.setObj rfl) (by simp)⟩;simp[Builtin.delete_,BL v,A,Jh h,Instr.findKey,BL h,o,Result.andThen,B]
 ·have J:f[s]? =some H:=by simpa using I
  refine⟨_,a.setIfInBounds b (.map (f.eraseIdxIfInBounds s) y),e,?_,x _ ⟨_,_,Cg z,?_,MapKept.stamped_erase d.stamped _,?_,C⟩ (Mod.setObj rfl) (by simp)⟩
  ·simp[Builtin.delete_,BL v,A,Jh h,Instr.findKey,BL h,o,Result.andThen,B]
  ·have L:=(Array.getElem?_eq_some_iff.1 J).1;rw[Array.eraseIdxIfInBounds,dif_pos L,A0d];exact q d.nodup
  ·have:(f.eraseIdxIfInBounds s).size<=f.size:=by unfold Array.eraseIdxIfInBounds;split<;>simp
   have:=d.size;omega
end
def kT(_:J0):Option (DataW Unit×List MemPlace):=some (.nil,[])
theorem vW {a:Type}(x:Lit×DataW a): ∀l:List (Lit×DataW a),(DataW.insert x l).Perm (x::l)
 | []=>by simp[DataW.insert]
 |y::b=>by
  unfold DataW.insert;split
  ·exact ID _
  ·exact((vW x b).cons y).trans (List.Perm.swap x y b)
theorem sorted_perm {a:Type}: ∀l:List (Lit×DataW a),(l.foldr DataW.insert []).Perm l
 | []=>ID _
 |x::b=>(vW x _).trans ((sorted_perm b).cons x)
theorem AKi {P:Q1}{kt:Q7}(j:P.underlying kt=some .string){w:World}{b:Nat}{m:List (A2K×J0)}(M:Vh w.heap b m):
  ∃e:DataW Unit,w.ownsMap P kt kT b m.length e/\(strKeys e).Perm (m.map λp=>p.1.data.toList)/\Maps.size e=m.length:=by
 obtain⟨c,k,l,a⟩:=M;have h: ∀x∈c.toList,∃s:A2K,x.key= .string s/\WideElems.rd P kt kT x=some (.string s.data.toList,.nil):=by
  intro x d;have:x.key∈m.map λp=>Value.string p.1:=by rw[<- a.keysOf];exact MT d
  obtain⟨p,n,i⟩:=List.mem_map.1 this;refine⟨p.1,i.symm,?_⟩;simp[WideElems.rd,<-i,Go.WideMaps.keyOf_string_mk j (a.keys p n),kT]
 refine⟨_,⟨c,k,l,⟨a.size,a.stamped,λx d=>?_⟩,by rw[a.len];exact A0 _,rfl⟩,?_,?_⟩
 ·obtain⟨s,_,f⟩:=h x d;exact⟨_,f⟩
 ·show((c.toList.map (WideElems.rg P kt kT)).foldr DataW.insert [] |>.map λp=>strOf p.1).Perm _;refine((sorted_perm _).map _).trans ?_;have g:(c.toList.map (WideElems.rg P kt kT)).map (λp=>strOf p.1)=(c.toList.map (·.key)).map λv=>match v with| .string s=>s.data.toList|_=> []:=by
   rw[AT,AT];refine CH λx d=>?_
   obtain⟨s,g,f⟩:=h x d;simp[Function.comp,WideElems.rg,f,g,strOf]
  rw[g,a.keysOf,AT];exact List.Perm.of_eq (CH λx _=>rfl)
 ·show((c.toList.map (WideElems.rg P kt kT)).foldr DataW.insert []).length=_;rw[(sorted_perm _).length_eq];simp[a.len]
def om(l:List A2K):Prop:=l.Pairwise λa b=>aN a b=true
theorem AJg {d:List (List UInt8)}{l:List A2K}(e:om l)(f:d.Perm (l.map λx=>x.data.toList)):(d.mergeSort λx g=>decide (x<=g))=l.map λx=>x.data.toList:=by
 have h:=mergeSort_of_perm f;have i:(l.map λx=>x.data.toList).mergeSort leB=l.map λx=>x.data.toList:=by refine List.mergeSort_of_pairwise ?_;refine List.pairwise_map.2 (e.imp λ{a b} c=>?_);rw[ZY] at c;simp only[decide_eq_true_eq] at c ⊢;exact List.le_of_lt c
 exact h.trans i
theorem AMn(l:List A2K):(l.map λx=>x.data.toList).map Proofs.encStr=l.flatMap Ik.enc:=by
 induction l with
 |nil=>rfl
 |cons x b a=>rw[BT,BT,a,AF];rfl
theorem wrap_u32(a:Nat):J8 .u32 (a:Int)=((a % 4294967296:Nat):Int):=by simp[J8,IntKind.bits,IntKind.signed]
theorem wrap_u64(a:Nat):J8 .u64 (a:Int)=((a % 18446744073709551616:Nat):Int):=by simp[J8,IntKind.bits,IntKind.signed]
theorem VM {a b:Nat}(c:a<4294967296)(d:b<4294967296):Zu .u32 (a:Int) (b:Int)=((a ^^^ b:Nat):Int):=by
 have e:a ^^^ b<2^32:=Ks (by simpa using c) (by simpa using d);unfold Zu;have f:(BitVec.ofInt (IntKind.bits .u32) (a:Int) ^^^ BitVec.ofInt (IntKind.bits .u32) (b:Int)).toNat=a ^^^ b:=by show(BitVec.ofInt 32 (a:Int) ^^^ BitVec.ofInt 32 (b:Int)).toNat=a ^^^ b;rw[BitVec.ofInt_natCast,BitVec.ofInt_natCast,BitVec.toNat_xor,BitVec.toNat_ofNat,BitVec.toNat_ofNat,AE (by simpa using c),AE (by simpa using d)]
 rw[f,wrap_u32,AE (by simpa using e)]
theorem ASM {a b:Nat}(c:a<4294967296)(d:b<4294967296):dS .u32 (a:Int) (b:Int)=((a ||| b:Nat):Int):=by
 have e:a ||| b<2^32:=JT (by simpa using c) (by simpa using d);unfold dS;have f:(BitVec.ofInt (IntKind.bits .u32) (a:Int) ||| BitVec.ofInt (IntKind.bits .u32) (b:Int)).toNat=a ||| b:=by show(BitVec.ofInt 32 (a:Int) ||| BitVec.ofInt 32 (b:Int)).toNat=a ||| b;rw[BitVec.ofInt_natCast,BitVec.ofInt_natCast,BitVec.toNat_or,BitVec.toNat_ofNat,BitVec.toNat_ofNat,AE (by simpa using c),AE (by simpa using d)]
 rw[f,wrap_u32,AE (by simpa using e)]
theorem rE {a b:Nat}(c:a<18446744073709551616)(d:b<18446744073709551616):dS .u64 (a:Int) (b:Int)=((a ||| b:Nat):Int):=by
 have e:a ||| b<2^64:=JT (by simpa using c) (by simpa using d);unfold dS;have f:(BitVec.ofInt (IntKind.bits .u64) (a:Int) ||| BitVec.ofInt (IntKind.bits .u64) (b:Int)).toNat=a ||| b:=by show(BitVec.ofInt 64 (a:Int) ||| BitVec.ofInt 64 (b:Int)).toNat=a ||| b;rw[BitVec.ofInt_natCast,BitVec.ofInt_natCast,BitVec.toNat_or,BitVec.toNat_ofNat,BitVec.toNat_ofNat,AE (by simpa using c),AE (by simpa using d)]
 rw[f,wrap_u64,AE (by simpa using e)]
theorem rF(a b:Nat):((a:Nat):Int)*((b:Nat):Int)=((a*b:Nat):Int):=(Int.natCast_mul a b).symm
def hA(a c:Nat):Nat:=((a ^^^ c)*16777619) % 4294967296
def hX(b c:Nat):Nat:=((b+c) % 4294967296*2246822507) % 4294967296
def hB(b c:Nat):Nat:=hX b c ^^^ (hX b c / 8192)
def Ud(l:List UInt8):Nat×Nat:=l.foldl (λs c=>(hA s.1 c.toNat,hB s.2 c.toNat)) (2166136261,2538058380)
def mD(a:A2K):Nat:=(Ud a.data.toList).1
def oL(a:A2K):Nat:=(Ud a.data.toList).2 ||| 1
theorem ATo(a c:Nat):hA a c<4294967296:=Cp _ (by decide)
theorem xQ(b c:Nat):hX b c<4294967296:=Cp _ (by decide)
theorem ATW(b c:Nat):hB b c<4294967296:=by have a:=xQ b c;have:hB b c<2^32:=Ks (by simpa using a) (by have:hX b c / 8192<=hX b c:=R1 _ _;omega);simpa using this
theorem xR(l:List UInt8)(c:UInt8):Ud (l++ [c])=(hA (Ud l).1 c.toNat,hB (Ud l).2 c.toNat):=by simp[Ud]
theorem xS(l:List UInt8):(Ud l).1<4294967296/\(Ud l).2<4294967296:=by
 rw[<- List.reverse_reverse l];cases l.reverse with
 |nil=>decide
 |cons c a=>rw[RK,xR];exact⟨ATo _ _,ATW _ _⟩
theorem xT(a:A2K):mD a<4294967296:=(xS _).1
theorem tG {a c:Nat}(b:a<4294967296)(d:c<256):J8 .u32 ((Zu .u32 (a:Int) (J8 .u32 (c:Int)))*(16777619:Int))=((hA a c:Nat):Int):=by rw[wrap_u32,AE (by omega),VM b (by omega),show((a ^^^ c:Nat):Int)*(16777619:Int)=(((a ^^^ c)*16777619:Nat):Int) from rF _ 16777619,wrap_u32];rfl
theorem ATP {b c:Nat}(a:b<4294967296)(d:c<256):J8 .u32 ((J8 .u32 ((b:Int)+(J8 .u32 (c:Int))))*(2246822507:Int))=((hX b c:Nat):Int):=by rw[wrap_u32 c,AE (by omega),show((b:Int)+(c:Int))=((b+c:Nat):Int) by push_cast;rfl,wrap_u32,show(((b+c) % 4294967296:Nat):Int)*(2246822507:Int)=(((b+c) % 4294967296*2246822507:Nat):Int) from rF _ 2246822507,wrap_u32];rfl
theorem Qm(n a:Nat):((n:Nat):Int).fdiv ((2:Int)^a)=((n / 2^a:Nat):Int):=by
 rw[Tl _ (by have:=Int.pow_pos (n:=2) (m:=a) (by decide);omega)]
 push_cast;rfl
theorem ATk {b c:Nat}(a:b<4294967296)(d:c<256):Zu .u32 (J8 .u32 ((J8 .u32 ((b:Int)+(J8 .u32 (c:Int))))*(2246822507:Int))) ((J8 .u32 ((J8 .u32 ((b:Int)+(J8 .u32 (c:Int))))*(2246822507:Int))).fdiv ((2:Int)^(13:Nat)))=((hB b c:Nat):Int):=by have e:=xQ b c;have f:hX b c / 2^13<=hX b c:=R1 _ _;rw[ATP a d,Qm,VM e (by omega)];rfl
theorem N8 {s:A2K}{i:Nat}{c:UInt8}(a:s.data.toList[i]? =some c):dq s ((i:Nat):Int)=((c.toNat:Nat):Int):=by
 have b:i<s.data.toList.length:=(List.getElem?_eq_some_iff.1 a).1;have d:i<s.size:=by simpa using b
 unfold dq;have e:((i:Nat):Int).toNat=i:=by omega
 rw[e];have f:s[i]? =some c:=by rw[getElem?_pos s i d];congr 1;have g:=(List.getElem?_eq_some_iff.1 a).2;rw[<- g];rw[Array.getElem_toList];rfl
 rw[f];rfl
def AY(l:List UInt8):A2K:=⟨l.toArray⟩
theorem Bl(l:List UInt8):(AY l).data.toList=l:=by simp[AY]
theorem EC(s:A2K):AY s.data.toList=s:=by simp[AY]
theorem AP(l:List UInt8):(AY l).size=l.length:=by simp[AY,ByteArray.size]
theorem K9 {a b:List UInt8}:AY a=AY b↔a=b:=⟨λc=>by simpa [AY] using congrArg (λs:A2K=>s.data.toList) c,λc=>by rw[c]⟩
def Bn(a:Nat):UInt8:=UInt8.ofNat a
theorem Dr {a:Nat}(b:a<256):(Bn a).toNat=a:=by simp[Bn,UInt8.toNat_ofNat'];omega
theorem xU(c:UInt8):Bn c.toNat=c:=by simp[Bn]
def BU(a:Nat):List UInt8:=if a<128 then [Bn a] else Bn (a % 128+128)::BU (a / 128)
termination_by a
decreasing_by omega
theorem Fb {n:Nat}(a:n<128):BU n= [Bn n]:=by rw[BU,if_pos a]
theorem YB {n:Nat}(a: ¬n<128):BU n=Bn (n % 128+128)::BU (n / 128):=by rw[BU,if_neg a]
def MK:Nat->Nat->List UInt8->Option (Nat×List UInt8)
 |_,_,[]=>none
 |i,a,c::t=>
  if 10<=i\/(i=9/\1<c.toNat)\/(0<i/\c.toNat=0) then none
  else if c.toNat<128 then some (a+c.toNat*128^i,t) else MK (i+1) (a+c.toNat % 128*128^i) t
theorem MQ {i a:Nat}(b:i<=a):128^i<=128^a:=PF (by decide) b
theorem iP(t:List UInt8): ∀(b i a:Nat),b*128^i<18446744073709551616->(i=0\/0<b)->MK i a (BU b++t)=some (a+b*128^i,t):=by
 intro b
 induction b using Nat.strongRecOn with
 |ind b k=>
  intro i a h m;have n:0<128^i:=Nat.pos_of_ne_zero (Nat.pos_iff_ne_zero.1 (RM (by decide)));by_cases e:b<128
  ·rw[Fb e];simp only[DG,DA,MK,Dr (show b<256 by omega)];rw[if_neg,if_pos e];rintro(c|⟨c,f⟩|⟨c,f⟩)
   ·have g:=MQ c;have j:1*128^i<=b*128^i:=AN _ (by omega);have d:(128:Nat)^10=1180591620717411303424:=by decide
    omega
   ·subst c;have d:(128:Nat)^9=9223372036854775808:=by decide
    rw[d] at h;omega
   ·omega
  ·rw[YB e];have hd:b / 128<b:=by omega
   simp only[DG,MK,Dr (show b % 128+128<256 by omega)];rw[if_neg,if_neg (by omega),k (b / 128) hd]
   ·have l:(b % 128+128) % 128=b % 128:=by omega
    rw[l,DM,HG,show b % 128*128^i+b / 128*(128^i*128)=(b % 128+128*(b / 128))*128^i by
     rw[Bm,CM (128^i) 128,<-FA,CM (b / 128) 128],Nat.mod_add_div]
   ·have g:b / 128*128<=b:=Nat.div_mul_le_self _ _;have j:b / 128*128*128^i<=b*128^i:=AN _ g;rw[DM,CM (128^i) 128,<-FA];omega
   ·omega
   ·rintro(c|⟨c,f⟩|⟨c,f⟩)
    ·have g:=MQ c;have j:128*128^i<=b*128^i:=AN _ (by omega);have d:(128:Nat)^10=1180591620717411303424:=by decide
     omega
    ·subst c;have d:(128:Nat)^9=9223372036854775808:=by decide
     rw[d] at h;omega
    ·omega
theorem xV: ∀(l:List UInt8) (i a n:Nat) (t:List UInt8),MK i a l=some (n,t)-> ∃m,n=a+m*128^i/\l=BU m++t/\m*128^i<18446744073709551616/\(i=0\/0<m)
 | [],i,a,n,t,b=>by simp[MK] at b
 |c::l,i,a,n,t,b=>by
  simp only[MK] at b;split at b
  ·cases b
  ·rename_i v;have w:c.toNat<256:=c.toNat_lt;split at b
   ·rename_i e;obtain⟨rfl,rfl⟩:=b;refine⟨c.toNat,rfl,by rw[Fb e,xU];rfl,?_,by omega⟩;have x:i<=9:=by omega
    by_cases h:i=9
    ·subst h;have d:(128:Nat)^9=9223372036854775808:=by decide
     rw[d];omega
    ·have j:=MQ (show i<=8 by omega);have d:(128:Nat)^8=72057594037927936:=by decide
     have k:c.toNat*128^i<=127*128^i:=AN _ (by omega);omega
   ·rename_i e;obtain⟨m,o,rfl,f,y⟩:=xV l (i+1) _ n t b;have p:0<m:=by omega
    refine⟨c.toNat % 128+128*m,?_,?_,?_,by omega⟩
    ·rw[o,DM,Bm,HG,CM (128^i) 128,<-FA,CM m 128]
    ·rw[YB (n:=c.toNat % 128+128*m) (by omega),show(c.toNat % 128+128*m) % 128+128=c.toNat by omega,show(c.toNat % 128+128*m) / 128=m by omega,xU];rfl
    ·rw[DM,CM (128^i) 128,<-FA] at f;have z:(18446744073709551616:Nat)=144115188075855872*128:=by decide
     have A:i<=8:=by
      refine RR λq=>?_
      have j:=MQ (show 9<=i from q);have d:(128:Nat)^9=9223372036854775808:=by decide
      have k:1*128*128^i<=m*128*128^i:=AN _ (AN _ p);omega
     have g:(18446744073709551616:Nat)=128^(i+1)*(18446744073709551616 / 128^(i+1)):=by
      have:i=0\/i=1\/i=2\/i=3\/i=4\/i=5\/i=6\/i=7\/i=8:=by omega
      rcases this with rfl|rfl|rfl|rfl|rfl|rfl|rfl|rfl|rfl<;>decide
     have r:0<128^i:=Nat.pos_of_ne_zero (Nat.pos_iff_ne_zero.1 (RM (by decide)));have s:m<18446744073709551616 / 128^(i+1):=by refine Nat.lt_of_mul_lt_mul_left (a:=128^(i+1)) ?_;rw[<- g,DM,CM,CM (128^i) 128,<-FA];exact f
     have u:128^(i+1)*(m+1)<=128^(i+1)*(18446744073709551616 / 128^(i+1)):=Nat.mul_le_mul_left _ s;rw[<- g,DM] at u;have B:(c.toNat % 128+128*m)*128^i<128*(m+1)*128^i:=RE (by omega) r;have C:128*(m+1)*128^i=128^i*128*(m+1):=by rw[CM,<-FA]
     omega
theorem xW: ∀(b a:Nat),a<128^(b+1)->(BU a).length<=b+1:=by
 intro b
 induction b with
 |zero=>intro a c;rw[Fb (by simpa using c)];simp
 |succ b e=>
  intro a c;by_cases d:a<128
  ·rw[Fb d];simp
  ·rw[YB d];have:=e (a / 128) (by rw[Nat.div_lt_iff_lt_mul (by decide),<-DM];exact c);simp;omega
theorem AV {n:Nat}(a:n<18446744073709551616):(BU n).length<=10:=by refine xW 9 n (Fc a ?_);decide
theorem kZ {l:List UInt8}{a:Nat}{t:List UInt8}(d:MK 0 0 l=some (a,t)):l=BU a++t/\a<18446744073709551616:=by obtain⟨m,b,e,c,_⟩:=xV l 0 0 a t d;simp at b c;subst b;exact⟨e,c⟩
theorem OW {a:Nat}(b:a<18446744073709551616)(t:List UInt8):MK 0 0 (BU a++t)=some (a,t):=by rw[iP t a 0 0 (by simpa using b) (.inl rfl)];simp
theorem ANu {b m:Nat}{s t:List UInt8}(c:b<18446744073709551616)(d:m<18446744073709551616)(e:BU b++s=BU m++t):b=m/\s=t:=by have a:=OW c s;rw[e,OW d t] at a;simp at a;exact⟨a.1.symm,a.2.symm⟩
def mE(c:Nat):Nat:=if c % 2=1 then c / 2 ^^^ 3988292384 else c / 2
def oM:Nat->Nat->Nat
 |0,c=>c
 |k+1,c=>mE (oM k c)
def oN(c:Nat)(b:UInt8):Nat:=oM 8 (c ^^^ b.toNat)
def iQ(l:List UInt8):Nat:=l.foldl oN 4294967295
def jf(l:List UInt8):Nat:=4294967295-iQ l
theorem AMp {c:Nat}(a:c<4294967296):mE c<4294967296:=by
 unfold mE;split
 ·exact Ks (n:=32) (by omega) (by decide)
 ·omega
theorem rG {c:Nat}(a:c<4294967296): ∀k,oM k c<4294967296
 |0=>a
 |k+1=>AMp (rG a k)
theorem ARm {c:Nat}(a:c<4294967296)(b:UInt8):oN c b<4294967296:=by have d:b.toNat<256:=b.toNat_lt;exact rG (Ks (n:=32) a (by omega)) 8
theorem ANe(l:List UInt8)(b:UInt8):iQ (l++ [b])=oN (iQ l) b:=by simp[iQ]
theorem xX(l:List UInt8):iQ l<4294967296:=by
 unfold iQ
 suffices ∀(l:List UInt8) (c:Nat),c<4294967296->l.foldl oN c<4294967296 from this l _ (by decide)
 intro l
 induction l with
 |nil=>exact λc a=>a
 |cons x l b=>exact λc a=>b _ (ARm a x)
def RI(a:Nat):List UInt8:= [Bn (a / 16777216 % 256),Bn (a / 65536 % 256),Bn (a / 256 % 256),Bn (a % 256)]
theorem Jj(a:Nat):(RI a).length=4:=rfl
def CY(l:List UInt8):List UInt8:=BU l.length++RI (jf l)++l
def Dc(l:List UInt8):Nat×List UInt8×List UInt8:=
 match MK 0 0 l with
 |none=>if l.length<10/\ ∀c∈l,128<=c.toNat then(20,[],[]) else(21,[],[])
 |some (a,b)=>
  if 1048576<a then(21,[],[]) else if b.length<4+a then(20,[],[])
  else if b.take 4=RI (jf ((b.drop 4).take a)) then(0,(b.drop 4).take a,b.drop (4+a)) else(21,[],[])
theorem rH {l:List UInt8}(d:l.length<=1048576)(t:List UInt8):Dc (CY l++t)=(0,l,t):=by
 unfold Dc CY;rw[A4,A4,OW (by omega)];dsimp only;rw[if_neg (by omega),if_neg (by simp[Jj])];have b:(RI (jf l)++(l++t)).take 4=RI (jf l):=by rw[N5 (by simp[Jj])];exact Ax (by simp[Jj])
 have a:(RI (jf l)++(l++t)).drop 4=l++t:=by rw[A0l (by simp[Jj])];simp[RI]
 have c:(l++t).take l.length=l:=by simp
 rw[b,a,c,if_pos rfl,<-HW,a];simp
structure Rd where
 rest:List UInt8
 bad:Bool
def Rd.fail:Rd:=⟨[],true⟩
def H7(a:Rd):Nat×Rd:=if a.bad then(0,a) else match MK 0 0 a.rest with|none=>(0,Rd.fail)|some (b,t)=>(b,⟨t,false⟩)
def CB(b:Nat)(a:Rd):Nat×Rd:=if(H7 a).2.bad then(0,(H7 a).2) else if b<(H7 a).1 then(0,Rd.fail) else H7 a
def Kh(b:Nat)(a:Rd):List UInt8×Rd:=if a.bad then([],a) else if a.rest.length<b then([],Rd.fail) else(a.rest.take b,⟨a.rest.drop b,false⟩)
def FE(a:Rd):List UInt8×Rd:=if(H7 a).2.bad then([],(H7 a).2) else Kh (H7 a).1 (H7 a).2
def SK(a:Rd):Bool:= !a.bad&&a.rest.isEmpty
def BF(l:List UInt8):List UInt8:=BU l.length++l
theorem xY {a:Nat}(b:a<18446744073709551616)(t:List UInt8):H7 ⟨BU a++t,false⟩=(a,⟨t,false⟩):=by simp[H7,OW b]
theorem Co {n most:Nat}(a:n<18446744073709551616)(b:n<=most)(t:List UInt8):CB most ⟨BU n++t,false⟩=(n,⟨t,false⟩):=by simp only[CB,xY a];simp;omega
theorem xZ(l t:List UInt8):Kh l.length ⟨l++t,false⟩=(l,⟨t,false⟩):=by simp[Kh];omega
theorem Ih {l:List UInt8}(a:l.length<18446744073709551616)(t:List UInt8):FE ⟨BF l++t,false⟩=(l,⟨t,false⟩):=by simp only[FE,BF,A4,xY a,xZ];simp
theorem AOF {a:Rd}(b:a.bad=true):H7 a=(0,a):=by simp[H7,b]
theorem y4 {r:Rd}(a:(H7 r).2.bad=false):r.bad=false/\r.rest=BU (H7 r).1++(H7 r).2.rest/\(H7 r).1<18446744073709551616:=by
 unfold H7 at a ⊢;split at a
 ·rename_i b;rw[a] at b;cases b
 ·rename_i b;cases c:MK 0 0 r.rest with
  |none=>rw[c] at a;cases a
  |some p=>
   obtain⟨f,t⟩:=p;obtain⟨d,e⟩:=kZ c;simp only[b];exact⟨by simp,d,e⟩
theorem F4 {a:Rd}{m:Nat}(b:(CB m a).2.bad=false):a.bad=false/\a.rest=BU (CB m a).1++(CB m a).2.rest/\(CB m a).1<=m:=by
 unfold CB at b ⊢;split at b
 ·rename_i c;rw[b] at c;cases c
 ·split at b
  ·cases b
  ·rename_i c d;rw[if_neg c,if_neg d];obtain⟨e,f,_⟩:=y4 b;exact⟨e,f,by omega⟩
theorem AKt {a:Rd}{b:Nat}(c:(Kh b a).2.bad=false):a.bad=false/\a.rest=(Kh b a).1++(Kh b a).2.rest/\(Kh b a).1.length=b:=by
 unfold Kh at c ⊢;split at c
 ·rename_i d;rw[c] at d;cases d
 ·split at c
  ·cases c
  ·rename_i d e;rw[if_neg d,if_neg e];exact⟨by simpa using d,by simp,by simp;omega⟩
theorem Rp {r:Rd}(b:(FE r).2.bad=false):r.bad=false/\r.rest=BF (FE r).1++(FE r).2.rest:=by
 unfold FE at b ⊢;split at b
 ·rename_i a;rw[b] at a;cases a
 ·rename_i a;rw[if_neg a];obtain⟨c,d,_⟩:=y4 (r:=r) (by simpa using a);obtain⟨_,e,f⟩:=AKt b;refine⟨c,?_⟩;rw[d,e,BF,A4];rw[f]
theorem UE(a:Rd):(H7 a).2.rest.length<=a.rest.length:=by
 unfold H7;split
 ·exact A0 _
 ·split
  ·simp[Rd.fail]
  ·rename_i d t b;obtain⟨c,_⟩:=kZ b;rw[c];simp
theorem Ht(m:Nat)(a:Rd):(CB m a).2.rest.length<=a.rest.length:=by
 unfold CB;split
 ·exact UE a
 ·split
  ·simp[Rd.fail]
  ·exact UE a
theorem AMt(b:Nat)(a:Rd):(Kh b a).2.rest.length<=a.rest.length/\(Kh b a).1.length<=a.rest.length:=by
 unfold Kh;split
 ·simp
 ·split
  ·simp[Rd.fail]
  ·simp;omega
theorem Qs(a:Rd):(FE a).2.rest.length<=a.rest.length/\(FE a).1.length<=a.rest.length:=by
 unfold FE;split
 ·exact⟨UE a,by simp⟩
 ·have:=AMt (H7 a).1 (H7 a).2;have:=UE a;omega
def Ho:cE UInt8 where
 enc x:= [.int .u8 (x.toNat:Int)]
 w:=1
 len _:=rfl
 pos:=by omega
 one x v a:=by simp at a;subst a;rfl
theorem Cells.byte {b:aa}{a:Q6}{x:UInt8}(c:Cells b a (Ho.enc x)):ah b a=some (.int .u8 (x.toNat:Int)):=by have d:=c 0 _ rfl;rwa [add_zero] at d
theorem y5: ∀(l:List UInt8) (s:A2K),(l.map λc=>(c.toNat:Int)).foldl (λa b=>a.push (UInt8.ofNat b.toNat)) s=⟨s.data++l.toArray⟩
 | [],s=>by simp
 |c::l,s=>by
  simp only[BT,I3];rw[y5 l];simp[ByteArray.push,Array.append_assoc]
theorem Km {e:al}{P:Q1}{g h i:Q7}(m:P.underlying g=some (.slice i))(n:P.underlying i=some (.int .u8))(hd:P.underlying h=some .string){b:aa}{s:Sl}{l:List UInt8}{K:A2J}
  (v:View Ho b s l) (o:K (.string (AY l)) b):BD e P (convert g h (.slice s.p s.len s.cap)) b K:=by
 have p:=v.len;refine λf=>⟨_,b,f,?_,o⟩
 rw[run_convert_bytes_string _ g h i _ s.len s.cap m n hd];cases j:s.p with
 |none=>
  have q:l= []:=by
   cases l with
   |nil=>rfl
   |cons c l=>
    obtain⟨a,d,_⟩:=v.cells 0 c rfl;rw[j] at d;cases d
  subst q;simp[Conv.bytesToString,AY];rfl
 |some a=>
  have r:(loadCells a s.len).run P (e.at b f)= .ok ((l.map λc=>(c.toNat:Int)).map (Value.int .u8)).toArray (e.at b f):=by
   have:=run_loadCells_list (P:=P) (w:=e.at b f) a ((l.map λc=>(c.toNat:Int)).map (Value.int .u8)) (λt u k=>by
    simp only[C5,Option.map_map,Option.map_eq_some_iff] at k;obtain⟨c,x,rfl⟩:=k;obtain⟨z,d,y⟩:=v.cells t c x;rw[j] at d;cases d;have:=Cells.byte y;simp only[Ho,Bs] at this;exact this)
   simpa [p] using this
  rw[run_bytesToString _ a s.len s.cap _ r,y5];simp[AY,ByteArray.empty,ByteArray.emptyWithCapacity];rfl
theorem dU(s:A2K)(i a:Nat):s.extract i a=AY ((s.data.toList.take a).drop i):=by apply NO;rw[RT,AY];apply Array.toList_inj.1;simp[RW,List.extract_eq_take_drop,List.drop_take]
theorem y6(s:A2K):s.data.toList.length=s.size:=by rw[DP];rfl
theorem rI(s:A2K)(i:Nat):s.extract i s.size=AY (s.data.toList.drop i):=by rw[dU,Ax (by rw[y6];exact A0 _)]
theorem AOE(s:A2K)(i:Nat):s.extract 0 i=AY (s.data.toList.take i):=by rw[dU];simp
theorem wrap_u8(a:Nat):J8 .u8 (a:Int)=((a % 256:Nat):Int):=by simp[J8,IntKind.bits,IntKind.signed]
theorem y7 {a b:Nat}(c:a<256)(d:b<256):dS .u8 (a:Int) (b:Int)=((a ||| b:Nat):Int):=by
 have e:a ||| b<2^8:=JT (by simpa using c) (by simpa using d);unfold dS;have f:(BitVec.ofInt (IntKind.bits .u8) (a:Int) ||| BitVec.ofInt (IntKind.bits .u8) (b:Int)).toNat=a ||| b:=by show(BitVec.ofInt 8 (a:Int) ||| BitVec.ofInt 8 (b:Int)).toNat=a ||| b;rw[BitVec.ofInt_natCast,BitVec.ofInt_natCast,BitVec.toNat_or,BitVec.toNat_ofNat,BitVec.toNat_ofNat,AE (by simpa using c),AE (by simpa using d)]
 rw[f,wrap_u8,AE (by simpa using e)]
theorem y9 {a b:Nat}(c:a<256)(d:b<256):Gm .u8 (a:Int) (b:Int)=((a &&& b:Nat):Int):=by
 have e:a &&& b<2^8:=R0 Nat.and_le_left (by simpa using c);unfold Gm;have f:(BitVec.ofInt (IntKind.bits .u8) (a:Int) &&& BitVec.ofInt (IntKind.bits .u8) (b:Int)).toNat=a &&& b:=by show(BitVec.ofInt 8 (a:Int) &&& BitVec.ofInt 8 (b:Int)).toNat=a &&& b;rw[BitVec.ofInt_natCast,BitVec.ofInt_natCast,BitVec.toNat_and,BitVec.toNat_ofNat,BitVec.toNat_ofNat,AE (by simpa using c),AE (by simpa using d)]
 rw[f,wrap_u8,AE (by simpa using e)]
theorem ARR {a b:Nat}(c:a<4294967296)(d:b<4294967296):Gm .u32 (a:Int) (b:Int)=((a &&& b:Nat):Int):=by
 have e:a &&& b<2^32:=R0 Nat.and_le_left (by simpa using c);unfold Gm;have f:(BitVec.ofInt (IntKind.bits .u32) (a:Int) &&& BitVec.ofInt (IntKind.bits .u32) (b:Int)).toNat=a &&& b:=by show(BitVec.ofInt 32 (a:Int) &&& BitVec.ofInt 32 (b:Int)).toNat=a &&& b;rw[BitVec.ofInt_natCast,BitVec.ofInt_natCast,BitVec.toNat_and,BitVec.toNat_ofNat,BitVec.toNat_ofNat,AE (by simpa using c),AE (by simpa using d)]
 rw[f,wrap_u32,AE (by simpa using e)]
theorem AT7: ∀x,x<256->x ||| 128=x % 128+128:=by decide +kernel
theorem ASo: ∀x,x<256->x &&& 127=x % 128:=by decide +kernel
theorem AQG(c:Nat):dS .u8 (J8 .u8 (c:Int)) (128:Int)=(((Bn (c % 128+128)).toNat:Nat):Int):=by have d:=y7 (a:=c % 256) (b:=128) (Cp _ (by decide)) (by decide);rw[wrap_u8];rw[show(128:Int)=((128:Nat):Int) from rfl,d,AT7 _ (Cp _ (by decide)),Dr (by omega)];congr 1;omega
theorem rJ(i:Nat):2^(7*i)=128^i:=by rw[Nat.pow_mul]
theorem AQ4 {a x i:Nat}(d:i<=9)(e:a<128^i)(f:x<128):dS .u64 (a:Int) (((x*128^i % 18446744073709551616:Nat)):Int)=((a+x*128^i % 18446744073709551616:Nat):Int):=by
 have g:0<128^i:=RM (by decide);have h:=MQ d;have j:(128:Nat)^9=9223372036854775808:=by decide
 rw[rE (by omega) (Cp _ (by decide))];congr 1;have b: ∃c,(18446744073709551616:Nat)=128^i*c:=by
  have:i=0\/i=1\/i=2\/i=3\/i=4\/i=5\/i=6\/i=7\/i=8\/i=9:=by omega
  refine⟨18446744073709551616 / 128^i,?_⟩;rcases this with rfl|rfl|rfl|rfl|rfl|rfl|rfl|rfl|rfl|rfl<;>decide
 obtain⟨c,b⟩:=b;rw[b,CM x,Nat.mul_mod_mul_left,<-rJ,Nat.or_comm,Nat.add_comm];exact(A0C (by rw[rJ];exact e) _).symm
theorem ATB {x i:Nat}(b:i<=9)(c:x<128):J8 .u64 (((x:Nat):Int)*((2:Int)^(min ((7*i:Nat):Int).toNat (IntKind.bits .u64))))=((x*128^i % 18446744073709551616:Nat):Int):=by
 have a:min ((7*i:Nat):Int).toNat (IntKind.bits .u64)=7*i:=by have:IntKind.bits .u64=64:=rfl;omega
 rw[a,show((2:Int)^(7*i))=((2^(7*i):Nat):Int) by simp,rF,wrap_u64,rJ]
theorem Mod.more {a d e:aa}{f:Nat->Prop}(x:Ext a d)(m:Mod f d e)(g: ∀b,f b->a.size<=b):Ext a e:=
 Mod.then x (m.aj λc _ h=> .inr (g c h))
abbrev bl(s:A2K):List UInt8:=s.data.toList
theorem A8(s:A2K):(bl s).length=s.size:=y6 s
theorem EF(l:List UInt8):bl (AY l)=l:=Bl l
theorem LP(s:A2K):AY (bl s)=s:=EC s
def Ag(s:A2K):Bool:=decide (1<=s.size/\s.size<=16/\ ∀c∈bl s,33<=c.toNat/\c.toNat<=126)
theorem Gi {s:A2K}:Ag s=true↔1<=s.size/\s.size<=16/\ ∀c∈bl s,33<=c.toNat/\c.toNat<=126:=by simp[Ag]
structure bP where
 kind:Int
 name:A2K
 aK:A2K
 tries:Int
 aA:Int
 wait:Int
def bP.cells(x:bP):Array J0:= #[J6 J9 x.kind,J7 x.name,J7 x.aK,J6 J9 x.tries,J6 J9 x.aA,J6 J9 x.wait]
def Qb:cE bP where
 enc x:= [J6 J9 x.kind,J7 x.name,J7 x.aK,J6 J9 x.tries,J6 J9 x.aA,J6 J9 x.wait]
 w:=6
 len _:=rfl
 pos:=by omega
 one x v a:=by simp at a;rcases a with rfl|rfl|rfl|rfl|rfl|rfl<;>rfl
abbrev G9:A2K:=⟨#[]⟩
def bU(a b c:Int):Bool:=decide (b<=a/\a<=c)
theorem Bc {a b c:Int}:bU a b c=true↔b<=a/\a<=c:=by simp[bU]
def NH(x:bP):Bool:=
 if x.kind=1 then((decide (x.aK=G9)&&decide (x.aA=0))||(Ag x.aK&&bU x.aA 1 5))&&Ag x.name&&bU x.tries 1 5&&decide (x.wait=0)
 else if x.kind=2 then decide (x.name=G9)&&decide (x.aK=G9)&&decide (x.tries=0)&&decide (x.aA=0)&&bU x.wait 1 1000
 else if x.kind=3 then decide (x.aK=G9)&&decide (x.tries=0)&&decide (x.aA=0)&&decide (x.wait=0)&&Ag x.name
 else false
structure cu where
 steps:List bP
 az:Int
def GI(p:cu):Bool:=decide (p.steps.length<=16)&&bU p.az 0 16000&&p.steps.all NH
def Hl(x:bP):List UInt8:=BU x.kind.toNat++
 (if x.kind=1 then BF (bl x.name)++BU x.tries.toNat++BF (bl x.aK)++BU x.aA.toNat else if x.kind=2 then BU x.wait.toNat else BF (bl x.name))
def Cq(p:cu):List UInt8:=BU p.az.toNat++BU p.steps.length++p.steps.flatMap Hl
def Ml(g e h:Nat)(i:Bool)(j:Rd):bP×Rd:=
 let d:=CB g j
 if d.1=1 then
  let a:=FE d.2
  let b:=CB e a.2
  let c:=FE b.2
  let f:=CB e c.2
  (⟨1,AY a.1,AY c.1,b.1,f.1,0⟩,f.2)
 else if d.1=2 then
  let a:=CB h d.2
  (⟨2,G9,G9,0,0,a.1⟩,a.2)
 else if d.1=3\/i=true then
  let a:=FE d.2
  (⟨d.1,AY a.1,G9,0,0,0⟩,a.2)
 else(⟨d.1,G9,G9,0,0,0⟩,d.2)
def II(b c d:Nat)(e:Bool):Nat->Rd->List bP×Rd
 |0,a=>([],a)
 |n+1,a=>let x:=Ml b c d e a;let f:=II b c d e n x.2;(x.1::f.1,f.2)
def ZC(c d e f:Nat)(g:Bool)(l:List UInt8):cu×Rd:=
 let a:=CB c ⟨l,false⟩
 let b:=CB 16 a.2
 let s:=II d e f g b.1 b.2
 (⟨s.1,a.1⟩,s.2)
def JW(l:List UInt8):Option cu:=let x:=ZC 16000 3 5 1000 false l;if SK x.2&&GI x.1 then some x.1 else none
theorem vX {a:Rd}:SK a=true↔a=⟨[],false⟩:=by obtain⟨l,b⟩:=a;cases b<;>cases l<;>simp[SK]
theorem APD {a b c:Int}(d:bU a b c=true)(e:0<=b):((a.toNat:Nat):Int)=a:=by rw[Bc] at d;omega
theorem AMs {c f h:Nat}{p:Bool}(q:3<=c)(F:5<=f)(G:1000<=h){x:bP}(a:NH x=true)(t:List UInt8):Ml c f h p ⟨Hl x++t,false⟩=(x,⟨t,false⟩):=by
 obtain⟨H,name,o,r,i,u⟩:=x;have j: ∀ {s:A2K},s.size<=16->(bl s).length<18446744073709551616:=λg=>by rw[A8];omega
 have k: ∀ {s:A2K},Ag s=true->s.size<=16:=λg=>(Gi.1 g).2.1
 unfold NH at a;split at a
 ·rename_i b;simp only at b;subst b;simp only[A3,Ds,decide_eq_true_eq] at a;obtain⟨⟨⟨v,m⟩,w⟩,rfl⟩:=a;have y:o.size<=16/\0<=i/\i<=5:=by
   rcases v with⟨rfl,rfl⟩|⟨g,z⟩
   ·exact⟨by decide,by omega,by omega⟩
   ·rw[Bc] at z;exact⟨k g,by omega,by omega⟩
  rw[Bc] at w;have d:=Co (n:=(1:Int).toNat) (most:=c) (by decide) (by simpa using(by omega:1<=c));have e:=Ih (l:=bl name) (j (k m));have A:=Co (n:=r.toNat) (most:=f) (by omega) (by omega);have B:=Ih (l:=bl o) (j y.1);have C:=Co (n:=i.toNat) (most:=f) (by omega) (by omega);simp only[Ml,Hl,if_true,A4,d,e,A,B,C];rw[if_pos (by decide)];simp[EC];omega
 ·split at a
  ·rename_i D b;simp only at b;subst b;simp only[A3,decide_eq_true_eq] at a;obtain⟨⟨⟨⟨rfl,rfl⟩,rfl⟩,rfl⟩,E⟩:=a;rw[Bc] at E;have d:=Co (n:=(2:Int).toNat) (most:=c) (by decide) (by simpa using(by omega:2<=c));have e:=Co (n:=u.toNat) (most:=h) (by omega) (by omega);simp only[Ml,Hl,if_true,A4,d];rw[if_neg (by decide),if_pos (by decide),if_neg (by decide),e];simp;omega
  ·split at a
   ·rename_i D I b;simp only at b;subst b;simp only[A3,decide_eq_true_eq] at a;obtain⟨⟨⟨⟨rfl,rfl⟩,rfl⟩,rfl⟩,m⟩:=a;have d:=Co (n:=(3:Int).toNat) (most:=c) (by decide) (by simpa using q);have e:=Ih (l:=bl name) (j (k m));simp only[Ml,Hl,if_true,A4,d];rw[if_neg (by decide),if_neg (by decide),if_pos (.inl (by decide)),if_neg (by decide),if_neg (by decide),e];simp[EC]
   ·cases a
theorem vY {b c d:Nat}{all:Bool}(e:3<=b)(f:5<=c)(g:1000<=d)(t:List UInt8): ∀ {l:List bP},l.all NH=true->II b c d all l.length ⟨l.flatMap Hl++t,false⟩=(l,⟨t,false⟩)
 | [],_=>rfl
 |x::l,a=>by
  simp only[Hi,A3] at a;simp only[A6,II,AF,A4,AMs e f g a.1,vY e f g t a.2]
theorem AMW {a b c d:Nat}{all:Bool}(s:16000<=a)(h:3<=b)(i:5<=c)(j:1000<=d){p:cu}(e:GI p=true):ZC a b c d all (Cq p)=(p,⟨[],false⟩):=by obtain⟨l,k⟩:=p;simp only[GI,A3,decide_eq_true_eq] at e;obtain⟨⟨m,f⟩,o⟩:=e;have t:=Bc.1 f;have q:=Co (n:=k.toNat) (most:=a) (by omega) (by omega);have r:=Co (n:=l.length) (most:=16) (by omega) m;have g:=vY (all:=all) h i j [] o;rw[AM] at g;simp only[ZC,Cq,A4,q,r,g,APD f (by decide)]
theorem vZ {p:cu}(a:GI p=true):JW (Cq p)=some p:=by simp only[JW,AMW (A0 _) (A0 _) (A0 _) (A0 _) a,a];rfl
theorem AKm {j k l:Nat}{m:Bool}{e:Rd}(a:(Ml j k l m e).2.bad=false):e.bad=false/\(NH (Ml j k l m e).1=true->e.rest=Hl (Ml j k l m e).1++(Ml j k l m e).2.rest):=by
 unfold Ml at a ⊢;simp only at a ⊢;split at a
 ·rename_i b;obtain⟨o,p,_⟩:=F4 a;obtain⟨c1,c2⟩:=Rp o;obtain⟨q,r,_⟩:=F4 c1;obtain⟨g,h⟩:=Rp q;obtain⟨c,f,_⟩:=F4 g;refine⟨c,λ_=>?_⟩;rw[if_pos b];simp only[Hl,if_true,EF,An];rw[f,b,h,r,c2,p];simp[A4]
 ·split at a
  ·rename_i i b;obtain⟨g,h,_⟩:=F4 a;obtain⟨c,f,_⟩:=F4 g;refine⟨c,λ_=>?_⟩;rw[if_neg i,if_pos b];simp only[Hl,An];rw[if_neg (by decide),if_pos trivial,f,b,h];simp[A4]
  ·split at a
   ·rename_i i n b;obtain⟨g,h⟩:=Rp a;obtain⟨c,f,_⟩:=F4 g;refine⟨c,λd=>?_⟩;rw[if_neg i,if_neg n,if_pos b] at d ⊢;simp only[Hl,EF,An];rw[if_neg (by omega),if_neg (by omega),f,h];simp[A4]
   ·rename_i i n b;obtain⟨c,f,_⟩:=F4 a;refine⟨c,λd=>?_⟩;rw[if_neg i,if_neg n,if_neg b] at d;exfalso;unfold NH at d;simp only at d;rw[if_neg (by omega),if_neg (by omega),if_neg (by omega)] at d;cases d
theorem w6 {b c d:Nat}{e:Bool}: ∀(n:Nat) {a:Rd},(II b c d e n a).2.bad=false->a.bad=false/\(II b c d e n a).1.length=n/\((II b c d e n a).1.all NH=true->a.rest=(II b c d e n a).1.flatMap Hl++(II b c d e n a).2.rest)
 |0,a,f=>⟨f,rfl,λ_=>rfl⟩
 |n+1,a,f=>by
  simp only[II] at f ⊢;obtain⟨h,i,j⟩:=w6 n f;obtain⟨k,l⟩:=AKm h;refine⟨k,by simp[i],λg=>?_⟩;simp only[Hi,A3] at g;rw[l g.1,j g.2];simp[A4]
theorem w7 {l:List UInt8}{p:cu}(a:JW l=some p):GI p=true/\Cq p=l:=by
 unfold JW at a;simp only at a;split at a
 ·rename_i e;simp only[A3] at e;obtain⟨d,b⟩:=e;obtain rfl:=By a;refine⟨b,?_⟩;rw[vX] at d;have f:(ZC 16000 3 5 1000 false l).2.bad=false:=by rw[d]
  have g:(ZC 16000 3 5 1000 false l).2.rest= []:=by rw[d]
  simp only[ZC] at f g b ⊢;obtain⟨h,i,c⟩:=w6 _ f;obtain⟨j,k,_⟩:=F4 h;obtain⟨c1,c2,_⟩:=F4 j;simp only[GI,A3] at b;have c:=c b.2;rw[g,AM] at c;simp only[Cq,An,i];have c2:l=BU (CB 16000 ⟨l,false⟩).1++(CB 16000 ⟨l,false⟩).2.rest:=c2;rw[<- c,A4,<-k,<-c2]
 ·cases a
inductive Fv where
 |i (n:Int)
 |s (x:A2K)
 |b (x:Bool)
 deriving DecidableEq
def Fv.v:Fv->J0
 | .i a=>J6 J9 a
 | .s x=>J7 x
 | .b x=>J3 x
def Fv.ok(P:Q1)(t:Q7):Fv->Bool
 | .i _=>match P.underlying t with|some (.int J9)=>true|_=>false
 | .s _=>match P.underlying t with|some .string=>true|_=>false
 | .b _=>match P.underlying t with|some .bool=>true|_=>false
def qV:Fv->Fv->Bool
 | .i _,.i _=>true
 | .s _,.s _=>true
 | .b _,.b _=>true
 |_,_=>false
def kU(P:Q1):Nat->List Field->List Fv->Bool
 |_,[],[]=>true
 |i,f::a,x::b=> !(f.name==String.ofList [Char.ofNat 95])&&Nat.beq f.offset i&&x.ok P f.type&&kU P (i+1) a b
 |_,_,_=>false
def cL:List Fv->List Fv->Bool
 | [],[]=>true
 |x::a,b::c=>qV x b&&cL a c
 |_,_=>false
theorem ARO {P:Q1}{e:Nat}{t:Q7}{x f:Fv}(g:x.ok P t=true)(h:qV x f=true)(c:World):(Op.equalIn (e+1) t x.v f.v).run P c= .ok (decide (x=f)) c:=by
 cases x<;>cases f<;>simp only[qV,Cd] at h<;>simp only[Fv.ok] at g<;>split at g<;>(try cases g)
 ·rename_i i m _ d;simp only[Fv.v];rw[run_equalIn_int c e t J9 J9 i m d];simp only[Fv.i.injEq];rfl
 ·rename_i a b _ d;simp only[Fv.v];rw[run_equalIn_string c e t a b d,toList_inj];simp only[Fv.s.injEq]
 ·rename_i a b _ d;simp only[Fv.v];rw[run_equalIn_bool' c e t a b d];simp only[Fv.b.injEq];cases a<;>cases b<;>rfl
theorem Fv.plain {P:Q1}{t:Q7}{x:Fv}(a:x.ok P t=true):P.plainKey t=true:=by cases x<;>simp only[Fv.ok] at a<;>split at a<;>(try cases a)<;>(rename_i b;simp[Program.plainKey,b])
theorem w8 {P:Q1}{t:Nat}(e g:List Fv)(c:World): ∀(h:List Field) (a b:List Fv) (i:Nat),e.drop i=a->g.drop i=b->kU P i h a=true->cL a b=true->
  (Op.eqFields (t+1) (e.map Fv.v).toArray (g.map Fv.v).toArray h).run P c= .ok (decide (a=b)) c:=by
 intro h
 induction h with
 |nil=>
  intro a b i m n j d;cases a with
  |nil=>
   cases b with
   |nil=>simp[Op.eqFields]
   |cons k b=>simp[cL] at d
  |cons x a=>simp[kU] at j
 |cons f h u=>
  intro a b i m n j d;cases a with
  |nil=>simp[kU] at j
  |cons x a=>
   cases b with
   |nil=>simp[cL] at d
   |cons k b=>
    simp only[kU,cL,A3,Nat.beq_eq] at j d;obtain⟨⟨⟨p,q⟩,o⟩,v⟩:=j;have w:e[i]? =some x:=by have:=congrArg (λl:List Fv=>l[0]?) m;simpa [BY] using this
    have y:g[i]? =some k:=by have:=congrArg (λl:List Fv=>l[0]?) n;simpa [BY] using this
    have z:e.drop (i+1)=a:=by rw[<- HW,m];rfl
    have A:g.drop (i+1)=b:=by rw[<- HW,n];rfl
    have B:(part f.type (e.map Fv.v).toArray f.offset).run P c= .ok x.v c:=run_part_plain c (Fv.plain o) (by rw[q];simp[w]);have C:(part f.type (g.map Fv.v).toArray f.offset).run P c= .ok k.v c:=run_part_plain c (Fv.plain o) (by rw[q];simp[y]);have D:=u a b (i+1) z A v d.2
    have E : String.ofList [Char.ofNat 95] = "_" := by decide
    rw[E] at p
    have r : (f.name == "_") = false := by simpa using p
    simp only[Op.eqFields,r,Sem.run_bind,Sem.run_ite,B,C,Result.andThen_ok,ARO o d.1];by_cases s:x=k
    ·simp[s,D,Result.andThen]
    ·have F : f.name ≠ "_" := by simpa using r
     simp[s,Result.andThen,F]
def kV(P:Q1)(t:Q7)(a:List Fv):Bool:= !P.stoodInHeld t&& !P.eqGuardType P.depth t&&kU P 0 (P.fieldsOf t).toList a
theorem qW {e:al}{P:Q1}{t:Q7}{f g:Operand}{xs ys:List Fv}(h:P.underlying t=some (.struct (P.fieldsOf t)))(a:kV P t xs=true)(i:cL xs ys=true){b c:Array J0}
  (j:b=(xs.map Fv.v).toArray) (k:c=(ys.map Fv.v).toArray) {d:aa} {K:A2J} (l:K (J3 (decide (xs=ys))) d):
  BD e P (do eqGuard .eql t f g (.agg b) (.agg c);binOp .eql t (.agg b) (.agg c)) d K:=by
 simp only[kV,A3,CD] at a;subst j;subst k;refine λm=>⟨_,d,m,?_,l⟩
 rw[Sem.run_bind,run_eqGuard_agg _ _ _ _ _ _ _ a.1.2,Result.andThen_ok,run_eql_struct,run_equalIn_agg _ _ _ _ _ h a.1.1,w8 xs ys _ _ xs ys 0 rfl rfl a.2 i];rfl
theorem ARp {e:al}{P:Q1}{t:Q7}{f g:Operand}{xs ys:List Fv}(h:P.underlying t=some (.struct (P.fieldsOf t)))(a:kV P t xs=true)(i:cL xs ys=true){b c:Array J0}
  (j:b=(xs.map Fv.v).toArray) (k:c=(ys.map Fv.v).toArray) {d:aa} {K:A2J} (l:K (J3 (!decide (xs=ys))) d):
  BD e P (do eqGuard .neq t f g (.agg b) (.agg c);binOp .neq t (.agg b) (.agg c)) d K:=by
 simp only[kV,A3,CD] at a;subst j;subst k;refine λm=>⟨_,d,m,?_,l⟩
 rw[Sem.run_bind,run_eqGuard_agg _ _ _ _ _ _ _ a.1.2,Result.andThen_ok,run_neq_struct,run_equalIn_agg _ _ _ _ _ h a.1.1,w8 xs ys _ _ xs ys 0 rfl rfl a.2 i];rfl
theorem ae.two {a:aa}{b:Nat}{T:Q7}{f g d v1:J0}{K:aa->Prop}(h:a[b]? =some (J2 #[f,g] T (0,0)))
  (i: ∀c,c[b]? =some (J2 #[d,v1] T (0,0))->Mod (· =b) a c->c.size=a.size->K c):
  ae a ⟨b,0,none⟩ d λe=>ae e ((⟨b,0,none⟩:Q6).add 1) v1 K:=by
 refine ae.mk h (by simp) λe j k o=>?_
 rw[Be];refine ae.mk j (by simp) λl m n p=>i l (by simpa using m) (k.trans n) (by omega)
theorem ae.pg {a:aa}{b:Nat}{T:Q7}{m n o p q r d v1 v2 e f g:J0}{K:aa->Prop}(s:a[b]? =some (J2 #[m,n,o,p,q,r] T (0,0)))
  (t: ∀c,c[b]? =some (J2 #[d,v1,v2,e,f,g] T (0,0))->Mod (· =b) a c->c.size=a.size->K c):
  ae a ⟨b,0,none⟩ d λh=>ae h ((⟨b,0,none⟩:Q6).add 1) v1 λi=>ae i ((⟨b,0,none⟩:Q6).add 2) v2 λj=>ae j ((⟨b,0,none⟩:Q6).add 3) e λk=>ae k ((⟨b,0,none⟩:Q6).add 4) f λl=>
   ae l ((⟨b,0,none⟩:Q6).add 5) g K:=by
 refine ae.mk s (by simp) λh u v H=>?_
 rw[Be,Be,Be,Be,Be];refine ae.mk u (by simp) λi w x I=>?_
 refine ae.mk w (by simp) λj y z J=>?_
 refine ae.mk y (by simp) λk A B L=>?_
 refine ae.mk A (by simp) λl C D M=>?_
 refine ae.mk C (by simp) λE F G N=>t E (by simpa using F) (((((v.trans x).trans z).trans B).trans D).trans G) (by omega)
theorem ae.eight {a:aa}{b:Nat}{T:Q7}{q r s t u v w x d v1 v2 e f g h i:J0}{K:aa->Prop}(y:a[b]? =some (J2 #[q,r,s,t,u,v,w,x] T (0,0)))
  (z: ∀c,c[b]? =some (J2 #[d,v1,v2,e,f,g,h,i] T (0,0))->Mod (· =b) a c->c.size=a.size->K c):
  ae a ⟨b,0,none⟩ d λj=>ae j ((⟨b,0,none⟩:Q6).add 1) v1 λk=>ae k ((⟨b,0,none⟩:Q6).add 2) v2 λl=>ae l ((⟨b,0,none⟩:Q6).add 3) e λm=>ae m ((⟨b,0,none⟩:Q6).add 4) f λn=>
   ae n ((⟨b,0,none⟩:Q6).add 5) g λo=>ae o ((⟨b,0,none⟩:Q6).add 6) h λp=>ae p ((⟨b,0,none⟩:Q6).add 7) i K:=by
 refine ae.mk y (by simp) λj A B S=>?_
 rw[Be,Be,Be,Be,Be,Be,Be];refine ae.mk A (by simp) λk C D U=>?_
 refine ae.mk C (by simp) λl E F V=>?_
 refine ae.mk E (by simp) λm G H W=>?_
 refine ae.mk G (by simp) λn I J X=>?_
 refine ae.mk I (by simp) λo L M Y=>?_
 refine ae.mk L (by simp) λp N O Z=>?_
 refine ae.mk N (by simp) λP Q R ab=>z P (by simpa using Q) (((((((B.trans D).trans F).trans H).trans J).trans M).trans O).trans R) (by omega)
theorem ae.bJ {a:aa}{b j:Nat}{v:J0}{d dH:Array J0}{T:Q7}{K:aa->Prop}(e:a[b]? =some (J2 d T (0,0)))(f:j<d.size)(g:d.setIfInBounds j v=dH)
  (h: ∀c,c[b]? =some (J2 dH T (0,0))->Mod (· =b) a c->c.size=a.size->K c):ae a ((⟨b,0,none⟩:Q6).add j) v K:=by
 rw[Be,AI];exact ae.mk e f λi k=>h i (by rw[<- g];exact k)
structure Ev where
 id:Int
 kind:Int
 tick:Int
 ref:Int
 step:Int
 turn:Int
 aK:Bool
 data:A2K
def cG:cE Ev where
 enc x:= [J6 J9 x.id,J6 J9 x.kind,J6 J9 x.tick,J6 J9 x.ref,J6 J9 x.step,J6 J9 x.turn,J3 x.aK,J7 x.data]
 w:=8
 len _:=rfl
 pos:=by omega
 one x v a:=by simp at a;rcases a with rfl|rfl|rfl|rfl|rfl|rfl|rfl|rfl<;>rfl
def Ev.fv(x:Ev):List Fv:= [.i x.id,.i x.kind,.i x.tick,.i x.ref,.i x.step,.i x.turn,.b x.aK,.s x.data]
theorem Ev.fy {x a:Ev}:x.fv=a.fv↔x=a:=by cases x;cases a;simp[Ev.fv]
instance:DecidableEq Ev:=λx y=>decidable_of_iff (x.fv=y.fv) Ev.fy
def cU(a:Int):Bool:=decide (a=3\/a=4\/a=5\/a=11\/a=7\/a=8\/a=9)
def dp(a:Int):Bool:=decide (a=6\/a=10)
def dB(a:Int):Bool:=decide (a=7\/a=8\/a=9)
def dJ(a:Int):Bool:=decide (a=6)
def dK(a:Int):Bool:=decide (a=1\/a=12)
def cV(f:Bool)(a b c:Int):Bool:=if f then bU a b c else decide (a=0)
def Ei(a:Ev):Bool:=bU a.kind 1 18&&bU a.id 1 500&&bU a.tick 0 1099511627776&&cV (cU a.kind) a.ref 1 (a.id-1)&&cV (dp a.kind) a.step 0 15&&cV (dB a.kind) a.turn 1 5&&
 (!a.aK||dJ a.kind)&&(decide (a.data=G9)||dK a.kind)
def KV(a:Ev):Bool:=if a.kind=1 then(JW (bl a.data)).isSome else if a.kind=12 then Ag a.data else true
def Di(a:Ev):Bool:=Ei a&&KV a
def TR(f:Bool)(a:Int):List UInt8:=if f then BU a.toNat else []
def gS(f:Bool)(s:A2K):List UInt8:=if f then BF (bl s) else []
def EH(a:Ev):List UInt8:=BU a.id.toNat++(BU a.kind.toNat++(BU a.tick.toNat++(TR (cU a.kind) a.ref++(TR (dp a.kind) a.step++(TR (dB a.kind) a.turn++(TR (dJ a.kind) (if a.aK then 1 else 0)++gS (dK a.kind) a.data))))))
structure jV where
 id:Nat
 kind:Nat
 tick:Nat
 ref:Nat
 step:Nat
 turn:Nat
def jV.wide(b:jV):Prop:=500<=b.id/\18<=b.kind/\1099511627776<=b.tick/\500<=b.ref/\15<=b.step/\5<=b.turn
def fE:jV:=⟨500,18,1099511627776,500,15,5⟩
def Eo(f:Bool)(m:Nat)(a:Rd):Nat×Rd:=if f then CB m a else(0,a)
def UG(f:Bool)(a:Rd):List UInt8×Rd:=if f then FE a else([],a)
def QD(b:jV)(f:Rd):Ev×Rd:=
 let i:=CB b.id f
 let c:=CB b.kind i.2
 let t:=CB b.tick c.2
 let a:=Eo (cU c.1) b.ref t.2
 let s:=Eo (dp c.1) b.step a.2
 let d:=Eo (dB c.1) b.turn s.2
 let u:=Eo (dJ c.1) 1 d.2
 let e:=UG (dK c.1) u.2
 (⟨i.1,c.1,t.1,a.1,s.1,d.1,decide (u.1=1),AY e.1⟩,e.2)
def Vv(l:List UInt8):Option Ev:=let x:=QD fE ⟨l,false⟩;if SK x.2&&Di x.1 then some x.1 else none
theorem Yh {f:Bool}{n:Int}{m:Nat}(a:cV f n 0 m=true)(b:m<18446744073709551616)(t:List UInt8):Eo f m ⟨TR f n++t,false⟩=(n.toNat,⟨t,false⟩):=by
 cases f with
 |false=>simp[cV] at a;subst a;rfl
 |true=>
  simp only[cV,if_true,Bc] at a;simp only[Eo,TR,if_true];exact Co (by omega) (by omega) t
theorem qX {f:Bool}{a b c d e:Int}(g:cV f a b c=true)(h:d<=b)(i:c<=e):cV f a d e=true:=by
 cases f with
 |false=>exact g
 |true=>simp only[cV,if_true,Bc] at g ⊢;omega
theorem qY {f:Bool}{a c d:Int}(b:cV f a c d=true)(e:0<=c):((a.toNat:Nat):Int)=a:=by
 cases f with
 |false=>simp[cV] at b;subst b;rfl
 |true=>simp only[cV,if_true,Bc] at b;omega
theorem APf {f:Bool}{s:A2K}(a:(decide (s=G9)||f)=true)(b:s.size<18446744073709551616)(t:List UInt8):UG f ⟨gS f s++t,false⟩=(bl s,⟨t,false⟩):=by
 cases f with
 |false=>simp at a;subst a;rfl
 |true=>
  simp only[UG,gS,if_true];exact Ih (by rw[A8];exact b) t
theorem GU {a:Ev}(b:Di a=true):Ei a=true:=by simp only[Di,A3] at b;exact b.1
theorem AP7 {b:jV}(l:b.wide)(e:b.ref<18446744073709551616/\b.step<18446744073709551616/\b.turn<18446744073709551616){c:Ev}(g:Ei c=true)(hd:c.data.size<18446744073709551616)(t:List UInt8):QD b ⟨EH c++t,false⟩=(c,⟨t,false⟩):=by
 obtain⟨id,a,tick,o,step,turn,d,p⟩:=c;simp only[Ei,A3] at g;obtain⟨⟨⟨⟨⟨⟨⟨q,r⟩,u⟩,h⟩,i⟩,j⟩,k⟩,v⟩:=g;obtain⟨M,N,O,P,Q,R⟩:=l;have S:=Bc.1 q;have T:=Bc.1 r;have U:=Bc.1 u;have w:=Co (n:=id.toNat) (most:=b.id) (by omega) (by omega);have x:=Co (n:=a.toNat) (most:=b.kind) (by omega) (by omega);have y:=Co (n:=tick.toNat) (most:=b.tick) (by omega) (by omega);have z:((a.toNat:Nat):Int)=a:=by omega
 have A:=Yh (f:=cU a) (n:=o) (m:=b.ref) (qX h (by omega) (by omega)) e.1;have B:=Yh (f:=dp a) (n:=step) (m:=b.step) (qX i (by omega) (by omega)) e.2.1;have C:=Yh (f:=dB a) (n:=turn) (m:=b.turn) (qX j (by omega) (by omega)) e.2.2;have D:=Yh (f:=dJ a) (n:=if d then 1 else 0) (m:=1) (by
  cases E:dJ a with
  |true=>simp only[cV,if_true,Bc];split<;>omega
  |false=>rw[E] at k;cases d<;>simp[cV] at k ⊢) (by decide)
 have F:=APf (f:=dK a) (s:=p) v hd;simp only[QD,EH,A4,w,x,y,z,A,B,C,D,F];have G:decide ((if d=true then(1:Int) else 0).toNat=1)=d:=by cases d<;>rfl
 have H:=qY h (by decide);have I:=qY i (by decide);have J:=qY j (by decide);have K:((id.toNat:Nat):Int)=id:=by omega
 have L:((tick.toNat:Nat):Int)=tick:=by omega
 rw[G,H,I,J,K,L,EC]
theorem VJ {f:Bool}{m:Nat}{a:Rd}(b:(Eo f m a).2.bad=false):a.bad=false/\a.rest=TR f (Eo f m a).1++(Eo f m a).2.rest/\(Eo f m a).1<=m:=by
 cases f with
 |false=>exact⟨b,rfl,A5 _⟩
 |true=>
  simp only[Eo,TR,if_true,An] at b ⊢;exact F4 b
theorem ANg {f:Bool}{a:Rd}(b:(UG f a).2.bad=false):a.bad=false/\a.rest=gS f (AY (UG f a).1)++(UG f a).2.rest:=by
 cases f with
 |false=>exact⟨b,rfl⟩
 |true=>
  simp only[UG,gS,if_true,EF] at b ⊢;exact Rp b
theorem AMc {b:jV}{r:Rd}(c:(QD b r).2.bad=false):r.bad=false/\r.rest=EH (QD b r).1++(QD b r).2.rest:=by
 simp only[QD] at c ⊢;obtain⟨d,e⟩:=ANg c;obtain⟨f,g,h⟩:=VJ d;obtain⟨i,j,_⟩:=VJ f;obtain⟨k,l,_⟩:=VJ i;obtain⟨m,n,_⟩:=VJ k;obtain⟨o,p,_⟩:=F4 m;obtain⟨q,s,_⟩:=F4 o;obtain⟨t,u,_⟩:=F4 q;refine⟨t,?_⟩;simp only[EH,A4,An];rw[<- e];have v: ∀a:Nat,a<=1->(if decide (a=1)=true then(1:Int) else 0)=(a:Int):=λa w=>by
  have:a=0\/a=1:=by omega
  rcases this with rfl|rfl<;>rfl
 rw[v _ h,<-g,<-j,<-l,<-n,<-p,<-s,<-u]
theorem AJa {l:List UInt8}{c:Ev}(a:Vv l=some c):Di c=true/\EH c=l:=by
 unfold Vv at a;simp only at a;split at a
 ·rename_i e;simp only[A3] at e;obtain⟨d,g⟩:=e;obtain rfl:=By a;refine⟨g,?_⟩;rw[vX] at d;obtain⟨_,f⟩:=AMc (b:=fE) (r:=⟨l,false⟩) (by rw[d]);rw[d] at f;simpa using f.symm
 ·cases a
theorem AON:fE.wide:=⟨A0 _,A0 _,A0 _,A0 _,A0 _,A0 _⟩
theorem AKO {a:Ev}(c:Ei a=true):a.data.size<=(EH a).length:=by
 simp only[Ei,A3] at c;have b:=c.2;cases d:dK a.kind with
 |false=>
  rw[d] at b;simp at b;rw[b];exact A5 _
 |true=>
  simp only[EH,gS,d,if_true,BF,A1,A8];omega
theorem w9 {l:List UInt8}{a:Ev}(e:l.length<18446744073709551616):Vv l=some a↔Di a=true/\EH a=l:=by refine⟨AJa,λ⟨b,c⟩=>?_⟩;have d:=AKO (GU b);have:=AP7 AON ⟨by decide,by decide,by decide⟩ (GU b) (by rw[c] at d;omega) [];rw[AM,c] at this;unfold Vv;simp only[this,b];rfl
def Nc(l:List Ev):List UInt8:=BU l.length++l.flatMap λa=>BF (EH a)
def EJ(l:List Ev):Nat×List UInt8:=if 500<l.length then(2,[]) else if l.all Di then(0,Nc l) else(120,[])
def WC:Nat->Rd->Option (List Ev×Rd)
 |0,a=>some ([],a)
 |n+1,a=>match Vv (FE a).1 with
  |none=>none
  |some b=>match WC n (FE a).2 with
   |none=>none
   |some (l,c)=>some (b::l,c)
def LZ(l:List UInt8):Option (List Ev):=
 let a:=CB 500 ⟨l,false⟩
 match WC a.1 a.2 with
 |none=>none
 |some (b,c)=>if SK c then some b else none
theorem wc(t:List UInt8): ∀ {l:List Ev},l.all Di=true->(∀ e∈l,(EH e).length<18446744073709551616)->WC l.length ⟨(l.flatMap λe=>BF (EH e))++t,false⟩=some (l,⟨t,false⟩)
 | [],_,_=>rfl
 |e::l,a,b=>by
  simp only[Hi,A3] at a;have c:=b e (by simp);have d:=Ih (l:=EH e) c;have f:=(w9 c).2 ⟨a.1,rfl⟩;have g:=wc t a.2 λx h=>b x (AG _ h)
  simp only[A6,WC,AF,A4,d,f,g]
theorem fg {l:List Ev}(b:l.length<=500)(c:l.all Di=true)(d: ∀e∈l,(EH e).length<18446744073709551616):LZ (Nc l)=some l:=by have f:=Co (n:=l.length) (most:=500) (by omega) b;have a:=wc [] c d;rw[AM] at a;simp only[LZ,Nc,f,a];rfl
structure Jb where
 id:Int
 step:Int
 aK:Bool
 turn:Int
def fj:cE Jb where
 enc x:= [J6 J9 x.id,J6 J9 x.step,J3 x.aK,J6 J9 x.turn]
 w:=4
 len _:=rfl
 pos:=by omega
 one x v a:=by simp at a;rcases a with rfl|rfl|rfl|rfl<;>rfl
structure Ck where
 id:Int
 step:Int
 tick:Int
def gb:cE Ck where
 enc x:= [J6 J9 x.id,J6 J9 x.step,J6 J9 x.tick]
 w:=3
 len _:=rfl
 pos:=by omega
 one x v a:=by simp at a;rcases a with rfl|rfl|rfl<;>rfl
structure bg where
 prog:cu
 status:Int
 next:Int
 bd:Int
 asked:Int
 taken:Int
 fresh:Bool
 au:List Jb
 ak:List Ck
 cancel:Bool
 aP:Bool
def Tx:bg:=⟨⟨[],0⟩,0,0,0,0,0,false,[],[],false,false⟩
def stepOf(p:cu)(a b:Int):Option bP:=if 0<=a then(p.steps[a.toNat]?).bind λx=>if x.kind=b then some x else none else none
def Je(p:cu)(a:Jb):Int:=match stepOf p a.step 1 with
 |none=>0
 |some x=>if a.aK then x.aA else x.tries
def mw(s:bg)(b turn:Int):Option Nat:=s.au.findIdx? λa=>decide (a.id=b)&&decide (a.turn=turn)
def Dq(s:bg)(a:Ev):Option bg:=
 if a.kind=2 then(if s.asked=0/\s.taken=0/\s.fresh=true then some {s with asked:=a.id} else none)
 else if a.kind=3 then(if s.asked=a.ref then some {s with asked:=0,taken:=a.id,fresh:=false} else none)
 else if a.kind=4 then(if s.taken=a.ref then some {s with taken:=0} else none)
 else(if s.taken=a.ref then some {s with taken:=0,fresh:=true} else none)
def L6(s:bg)(a:Ev):Option bg:=
 if a.kind=6 then(stepOf s.prog a.step 1).bind λx=>if a.aK=true/\x.aK=G9 then none else some {s with au:=s.au++ [⟨a.id,a.step,a.aK,1⟩]}
 else(mw s a.ref a.turn).bind λi=>(s.au[i]?).bind λb=>
  if a.kind=8 then(if a.turn=Je s.prog b then none else some {s with au:=s.au.set i {b with turn:=b.turn+1}})
  else if a.kind=7\/a.turn=Je s.prog b then some {s with au:=s.au.eraseIdx i,fresh:=true} else none
def KU(s:bg)(a:Ev):Option bg:=
 if a.kind=10 then(stepOf s.prog a.step 2).map λx=> {s with ak:=s.ak++ [⟨a.id,a.step,a.tick+x.wait⟩]}
 else(s.ak.findIdx? λc=>decide (c.id=a.ref)&&decide (c.tick<=a.tick)).map λi=> {s with ak:=s.ak.eraseIdx i,fresh:=true}
def Zh(s:bg)(status:Int):bg:= {s with status:=status,asked:=0,taken:=0,fresh:=false,au:= [],ak:= []}
def PI(s:bg):Prop:=s.asked=0/\s.taken=0/\s.au= []
instance (s:bg):Decidable (PI s):=decidable_of_iff (s.asked=0/\s.taken=0/\s.au.length=0) (by simp[PI])
def KE(s:bg)(a:Ev):Option bg:=
 if a.kind=12 then some {s with fresh:=true}
 else if a.kind=13 then(if s.cancel=true then none else some {s with cancel:=true,fresh:=true})
 else if a.kind=14 then(if s.aP=true\/s.prog.az=0\/a.tick<s.bd+s.prog.az then none else some {s with aP:=true,fresh:=true})
 else if a.kind=18 then some (Zh s 4)
 else if a.kind=15 then(if PI s then some (Zh s 1) else none)
 else if a.kind=16 then(if PI s then some (Zh s 2) else none)
 else if a.kind=17 then(if PI s then some (Zh s 3) else none)
 else none
def O7(s:bg)(a:Ev):Option bg:=
 (if 2<=a.kind/\a.kind<=5 then Dq s a else if 6<=a.kind/\a.kind<=9 then L6 s a else if a.kind=10\/a.kind=11 then KU s a else KE s a).map λt=> {t with next:=s.next+1}
def XX(a:Ev):bg:=⟨(JW (bl a.data)).getD ⟨[],0⟩,0,2,a.tick,0,0,true,[],[],false,false⟩
def Bh(s:bg)(a:Ev):Int×bg:=
 if Di a=false then(120,Tx)
 else if s.next=0 then(if a.kind=1/\a.id=1 then(0,XX a) else(120,Tx))
 else if s.status≠0 then(182,Tx)
 else if a.id≠s.next then(120,Tx)
 else match O7 s a with
  |none=>(120,Tx)
  |some t=>(0,t)
def FM(s:bg):List Ev->Option bg
 | []=>some s
 |e::l=>if(Bh s e).1=0 then FM (Bh s e).2 l else none
theorem AEW {a b:List Ev}: ∀ {s:bg},FM s (a++b)=(FM s a).bind λt=>FM t b:=by
 induction a with
 |nil=>intro s;rfl
 |cons d l c=>
  intro s;rw[DG,FM,FM];split
  ·exact c
  ·rfl
theorem AIF {s t:bg}{l:List Ev}{a:Ev}(b:FM s l=some t)(c:(Bh t a).1=0):FM s (l++ [a])=some (Bh t a).2:=by rw[AEW,b];show FM t [a]=_;rw[FM,if_pos c,FM]
theorem Qo {s:bg}{b:Ev}(a:(Bh s b).1=0):Di b=true:=by
 unfold Bh at a;split at a
 ·cases a
 ·rename_i c;simpa using c
theorem xl {s:bg}{b:Ev}(a:(Bh s b).1=0):(s.next=0->b.id=1/\(Bh s b).2.next=2)/\(s.next≠0->b.id=s.next/\(Bh s b).2.next=s.next+1):=by
 unfold Bh at a ⊢;split at a
 ·cases a
 ·rename_i g;rw[if_neg g];split at a
  ·rename_i c;rw[if_pos c];split at a
   ·rename_i d;rw[if_pos d];exact⟨λ_=>⟨d.2,rfl⟩,λa=>absurd c a⟩
   ·cases a
  ·rename_i c;rw[if_neg c];split at a
   ·cases a
   ·rename_i d;rw[if_neg d];split at a
    ·cases a
    ·rename_i f;rw[if_neg f];cases e:O7 s b with
     |none=>rw[e] at a;cases a
     |some t=>
      refine⟨λa=>absurd a c,λ_=>⟨by simpa using f,?_⟩⟩;unfold O7 at e;obtain⟨h,-,rfl⟩:=Option.map_eq_some_iff.1 e;rfl
theorem AIB: ∀ {l:List Ev} {s t:bg},FM s l=some t->1<=s.next->t.next=s.next+l.length/\ ∀(i:Nat) (b:Ev),l[i]? =some b->b.id=s.next+i/\Di b=true:=by
 intro l
 induction l with
 |nil=>intro s t a e;cases a;exact⟨by simp,λi b f=>by simp at f⟩
 |cons b l g=>
  intro s t a e;rw[FM] at a;split at a
  ·rename_i d;have h:=(xl d).2 (by omega);obtain⟨j,k⟩:=g a (by omega);refine⟨by rw[j,h.2,A6];omega,λi x c=>?_⟩;cases i with
   |zero=>simp at c;subst c;exact⟨by omega,Qo d⟩
   |succ i=>
    have:=k i x (by simpa using c);exact⟨by omega,this.2⟩
  ·cases a
theorem xn {l:List Ev}{t:bg}(a:FM Tx l=some t)(e:l≠ []):t.next=l.length+1/\ ∀(i:Nat) (b:Ev),l[i]? =some b->b.id=i+1/\Di b=true:=by
 cases l with
 |nil=>exact absurd rfl e
 |cons b l=>
  rw[FM] at a;split at a
  ·rename_i d;have f:=(xl d).1 rfl;obtain⟨g,h⟩:=AIB a (by omega);refine⟨by rw[g,f.2,A6];omega,λi x c=>?_⟩;cases i with
   |zero=>simp at c;subst c;exact⟨by omega,Qo d⟩
   |succ i=>
    have:=h i x (by simpa using c);exact⟨by omega,this.2⟩
  ·cases a
def eQ:List UInt8->Option (List UInt8)
 | []=>none
 |a::p=>match eQ p with
  |some b=>some (a::b)
  |none=>if a<255 then some [a+1] else none
theorem wX {a b:UInt8}(c:a<255):b<a+1↔ ¬a<b:=by
 have e:a.toNat<255:=UInt8.lt_iff_toNat_lt.1 c;have d:(a+1).toNat=a.toNat+1:=by rw[UInt8.toNat_add];show(a.toNat+1) % 256=_;omega
 rw[UInt8.lt_iff_toNat_lt,UInt8.lt_iff_toNat_lt,d];omega
theorem AS5 {a b:UInt8}(c: ¬a<255): ¬a<b:=λd=>by
 rw[UInt8.lt_iff_toNat_lt] at c d;have:b.toNat<256:=b.toNat_lt;have e:(255:UInt8).toNat=255:=rfl;omega
theorem wY: ∀(p j:List UInt8),(¬ j<p/\(∀ h,eQ p=some h->j<h))↔p <+: j
 | [],j=>by simp[eQ]
 |a::p,[]=>by
  constructor
  ·rintro⟨c,_⟩;exact absurd (List.nil_lt_cons a p) c
  ·intro c;exact absurd (List.prefix_nil.1 c) (by simp)
 |a::p,b::j=>by
  have s:=wY p j;have e: ∀ {x q:UInt8} {l m:List UInt8},x::l<q::m↔x<q\/x=q/\l<m:=A0a;rw[List.cons_prefix_cons,<-s];constructor
  ·rintro⟨o,f⟩;have r: ¬b<a:=λc=>o (e.2 (.inl c))
   have t: ¬a<b:=λc=>by
    unfold eQ at f;cases k:eQ p with
    |some h=>
     rw[k] at f;rcases e.1 (f _ rfl) with d|⟨d,_⟩
     ·exact r d
     ·subst d;exact UInt8.lt_irrefl _ c
    |none=>
     rw[k] at f;by_cases i:a<255
     ·have:=f [a+1] (by simp[i]);rcases e.1 this with d|⟨_,d⟩
      ·exact(wX i).1 d c
      ·exact absurd d (by simp)
     ·exact AS5 i c
   have n:a=b:=by
    by_cases n:a=b
    ·exact n
    ·rcases UInt8.lt_or_lt_of_ne n with c|c
     ·exact absurd c t
     ·exact absurd c r
   subst n;refine⟨rfl,λc=>o (e.2 (.inr ⟨rfl,c⟩)),λh g=>?_⟩;have:=f (a::h) (by unfold eQ;rw[g]);rcases e.1 this with d|⟨_,d⟩
   ·exact absurd d (UInt8.lt_irrefl _)
   ·exact d
  ·rintro⟨rfl,o,f⟩;refine⟨λc=>?_,λh g=>?_⟩
   ·rcases e.1 c with d|⟨_,d⟩
    ·exact absurd d (UInt8.lt_irrefl _)
    ·exact o d
   ·unfold eQ at g;cases k:eQ p with
    |some u=>
     rw[k] at g;obtain rfl:=By g;exact e.2 (.inr ⟨rfl,f u k⟩)
    |none=>
     rw[k] at g;by_cases i:a<255
     ·have n:h= [a+1]:=by simpa [i] using g.symm
      subst n;exact e.2 (.inl ((wX i).2 (UInt8.lt_irrefl _)))
     ·simp[i] at g
theorem ru: ∀ {p:List UInt8},(∀ x∈p,¬x<255)->eQ p=none
 | [],_=>rfl
 |a::p,b=>by
  unfold eQ;rw[ru λx c=>b x (AG _ c)];simp[b a CC]
theorem wZ: ∀ {p:List UInt8} {i:Nat} {a:UInt8},p[i]? =some a->a<255->(∀ x∈p.drop (i+1),¬x<255)->eQ p=some (p.take i++ [a+1])
 | [],i,a,c,_,_=>by simp at c
 |b::p,0,a,c,d,hd=>by
  simp at c;subst c;unfold eQ;rw[ru (by simpa using hd)];simp[d]
 |b::p,i+1,a,c,d,hd=>by
  unfold eQ;rw[wZ (p:=p) (i:=i) (a:=a) (by simpa using c) d (by simpa using hd)];simp
def PU(p a:A2K):Bool:=(p.data.toList).isPrefixOf a.data.toList
theorem Om(p a:A2K):PU p a=true↔p.data.toList <+: a.data.toList:=by unfold PU;rw[List.isPrefixOf_iff_prefix]
def Kv:Nat->Nat->List UInt8
 |0,_=> []
 |k+1,a=>Kv k (a / 256)++ [Bn a]
theorem Og: ∀(k a:Nat),(Kv k a).length=k
 |0,_=>rfl
 |k+1,a=>by rw[Kv,A1,Og k];rfl
theorem ry(a:Nat):Bn a=Bn (a % 256):=by apply UInt8.toNat_inj.1;simp[Bn,UInt8.toNat_ofNat']
theorem rz {a b:Nat}(c:a<256)(d:b<256)(e:Bn a=Bn b):a=b:=by have:=congrArg UInt8.toNat e;rwa [Dr c,Dr d] at this
theorem xo(a:Nat):Kv 4 a= [Bn (a / 256 / 256 / 256),Bn (a / 256 / 256),Bn (a / 256),Bn a]:=rfl
theorem AQe {a b:Nat}(i:b<65536)(j:a<b):Kv 4 a<Kv 4 b:=by
 rw[xo,xo];have d:a / 256 / 256=0:=by omega
 have e:b / 256 / 256=0:=by omega
 rw[d,e];have lt: ∀ {x c:Nat},c<256->x<c->Bn x<Bn c:=λ{x c} f g=>by
  rw[UInt8.lt_iff_toNat_lt,Dr f,Dr (by omega)];exact g
 refine List.Lex.cons (List.Lex.cons ?_);by_cases h:a / 256=b / 256
 ·rw[h];refine List.Lex.cons (List.Lex.rel ?_);rw[ry a,ry b];exact lt (by omega) (by omega)
 ·exact List.Lex.rel (lt (by omega) (by omega))
theorem ATE(p:List UInt8){a b:List UInt8}(d:a<b):p++a<p++b:=by
 induction p with
 |nil=>exact d
 |cons c p e=>exact List.Lex.cons e
def kE:UInt8:=104
def kX(wid:A2K):List UInt8:=kE::BF (bl wid)
def Ro(wid:A2K):A2K:=AY (kX wid)
def dY(wid:A2K)(id:Nat):A2K:=AY (kX wid++Kv 4 id)
def Gt(wid:A2K):A2K:=AY (119::bl wid)
def JI(a:A2K):A2K:=AY (114::bl a)
def Rv(a id:Nat):A2K:=AY (116::Bn a::Kv 8 id)
def JV(a b id:Nat):A2K:=AY (109::Bn a::(Kv 8 b++Kv 8 id))
theorem xp {s:A2K}(a:s.size<=16):BF (bl s)=Bn s.size::bl s:=by unfold BF;rw[A8,Fb (by omega)];rfl
theorem Rn {wid:A2K}(a:wid.size<=16):kX wid=104::Bn wid.size::bl wid:=by unfold kX;rw[xp a];rfl
theorem AO8 {wid:A2K}(a:wid.size<=16)(id:Nat):(dY wid id).size<=22:=by unfold dY;rw[AP,A1,Og,Rn a];simp only[A6,A8];omega
theorem xq {wid:A2K}(a:wid.size<=16):(Ro wid).size<=18:=by unfold Ro;rw[AP,Rn a];simp only[A6,A8];omega
theorem Oz(wid:A2K):(Gt wid).size=wid.size+1:=by unfold Gt;rw[AP,A6,A8]
theorem VW(a:A2K):(JI a).size=a.size+1:=by unfold JI;rw[AP,A6,A8]
theorem xt(a id:Nat):(Rv a id).size=10:=by unfold Rv;rw[AP];rfl
theorem Ms(b a id:Nat):(JV b a id).size=18:=by unfold JV;rw[AP];rfl
theorem my {wid:A2K}{i a:Nat}(b:a<65536)(c:i<a):aN (dY wid i) (dY wid a)=true:=by rw[ZY,decide_eq_true_eq];unfold dY;rw[Bl,Bl];exact ATE _ (AQe b c)
theorem xu(wid:A2K)(id:Nat):PU (Ro wid) (dY wid id)=true:=by rw[Om];unfold Ro dY;rw[Bl,Bl];exact List.prefix_append _ _
theorem xw {wid a:A2K}(d:wid.size<=16)(e:a.size<=16){id:Nat}(b:PU (Ro wid) (dY a id)=true):wid=a:=by rw[Om] at b;unfold Ro dY at b;rw[Bl,Bl,Rn d,Rn e] at b;obtain⟨t,c⟩:=b;simp only[DG,Hc,true_and] at c;have f:=rz (by omega) (by omega) c.1;have:=(List.append_inj c.2 (by rw[A8,A8];exact f)).1;rw[<- EC wid,<-EC a];exact congrArg AY this
theorem AQU {wid b:A2K}(e:wid.size<=16)(f:b.size<=16){i c:Nat}(g:i<65536)(h:c<65536)(d:dY wid i=dY b c):wid=b/\i=c:=by
 have j:wid=b:=xw e f (by rw[<- d];exact xu wid i);subst j;refine⟨rfl,?_⟩;rcases IS i c with a|a|a
 ·exact absurd d (Nl (my h a))
 ·exact a
 ·exact absurd d.symm (Nl (my g a))
theorem ANa {a b:A2K}(c:Gt a=Gt b):a=b:=by have:=K9.1 c;simp only[Hc,true_and] at this;rw[<- EC a,<-EC b];exact congrArg AY this
theorem xy {a b:A2K}(c:JI a=JI b):a=b:=by have:=K9.1 c;simp only[Hc,true_and] at this;rw[<- EC a,<-EC b];exact congrArg AY this
def BP(a:A2K):UInt8:=(bl a).headD 0
theorem SS(wid:A2K)(id:Nat):BP (dY wid id)=104:=by unfold BP dY;rw[EF];rfl
theorem FV(wid:A2K):BP (Gt wid)=119:=by unfold BP Gt;rw[EF];rfl
theorem JS(wid:A2K):BP (JI wid)=114:=by unfold BP JI;rw[EF];rfl
theorem xA(a id:Nat):BP (Rv a id)=116:=by unfold BP Rv;rw[EF];rfl
theorem AJx(b a id:Nat):BP (JV b a id)=109:=by unfold BP JV;rw[EF];rfl
theorem rA {wid a:A2K}(b:PU (Ro wid) a=true):BP a=104:=by rw[Om] at b;obtain⟨t,c⟩:=b;unfold BP;show(a.data.toList).headD 0=104;rw[<- c];unfold Ro;rw[Bl];rfl
def Lu(status next:Nat)(a:Bool):A2K:=AY (BU status++(BU next++BU (if a then 1 else 0)))
def iO(a:List UInt8)(status next:Nat):A2K:=AY (BF a++(BU status++BU next))
def rB(a:Nat)(wid:A2K)(b turn:Nat):A2K:=AY (BU a++(BF (bl wid)++(BU b++BU turn)))
theorem Gy {n:Nat}(a:n<16384):(BU n).length<=2:=xW 1 n (by omega)
theorem AJ3 {kind ref turn:Nat}{wid:A2K}(a:kind<128)(b:wid.size<=16)(c:ref<=500)(d:turn<=5):(rB kind wid ref turn).size<=22:=by unfold rB;have:=Gy (n:=ref) (by omega);rw[AP,Fb a,xp b,Fb (n:=turn) (by omega)];simp only[A1,A6,A8,GB];omega
theorem AKU {status next:Nat}{kept:Bool}(a:status<128)(b:next<=501):(Lu status next kept).size<=4:=by unfold Lu;have:=Gy (n:=next) (by omega);rw[AP,Fb a,Fb (n:=if kept then 1 else 0) (by split<;>omega)];simp only[A1,A6,GB];omega
structure bA where
 wid:A2K
 aq:Nat
 cA:Int
 bZ:Int
 kept:Bool
 st:bg
 more:List Ev
 ar:List Pr
 conds:List Pr
 err:Int
 now:Int
def jb(s:bg):Bool:=decide (s.next<=497)
def PD(wid:A2K)(b:Nat)(cA c:Int)(d:Bool)(st:bg)(a:Int):bA:=
 ⟨wid,b,cA,c,d,st,[],[],[],if a<0\/1099511611776<a then 1 else 0,a⟩
def Ce(a:bA)(b:Ev):Ev:= {b with id:=if 1>a.st.next then 1 else a.st.next,tick:=a.now}
def EA(a:bA)(b:Ev):bA:=
 if a.err≠0 then a
 else if a.more= []/\jb a.st=false/\b.kind≠18 then {a with err:=2}
 else if(Bh a.st (Ce a b)).1≠0 then {a with err:=(Bh a.st (Ce a b)).1}
 else {a with st:=(Bh a.st (Ce a b)).2,more:=a.more++ [Ce a b]}
def WS(a:bA):Int:=a.st.next-1
structure gl where
 kind:Int
 ref:Int
 turn:Int
def KH(t:gl)(wid:A2K):Bool:=bU t.kind 1 7&&Ag wid&&bU t.ref 0 500&&bU t.turn 0 5
def Xc(t:gl)(wid:A2K):A2K:=rB t.kind.toNat wid t.ref.toNat t.turn.toNat
def LK(a:Nat)(tick:Int)(b:Nat):A2K:=if tick<0 then Rv a b else JV a tick.toNat b
def EP(a:bA)(t:gl)(tick:Int)(b:Nat):bA:=
 if a.err≠0 then a
 else if KH t a.wid=false then {a with err:=1}
 else {a with ar:=a.ar++ [⟨LK a.aq tick b,Xc t a.wid,false⟩]}
def oE(a:bA)(key val:A2K):bA:= {a with conds:=a.conds++ [⟨key,⟨#[]⟩,true⟩],ar:=a.ar++ [⟨key,val,false⟩]}
def Dk(a:bA):Bool:=decide (a.more≠ [])&&(decide (a.st.status=0)&&(a.st.fresh&&(decide (a.st.asked=0)&&decide (a.st.taken=0))))
def De(a:bA):Int×Int:=(a.st.status,if Dk a then a.st.next+1 else a.st.next)
def bD(a:bA):Pr:=if 0<a.bZ then⟨Gt a.wid,Lu a.cA.toNat a.bZ.toNat a.kept,false⟩ else⟨Gt a.wid,⟨#[]⟩,true⟩
def NS(wid:A2K)(a:Ev):Pr:=⟨dY wid a.id.toNat,AY (EH a),false⟩
def Ej(a:bA):List Pr:=a.more.map (NS a.wid)++(if a.more= [] then [] else [⟨Gt a.wid,Lu a.st.status.toNat a.st.next.toNat false,false⟩])
structure bA.a0y (C:bA):Prop where
 pos:C.err=0-> ∀e∈C.more,Di e=true
 err0:0<=C.err
theorem OQ(a:bA)(b:Ev):(EA a b).wid=a.wid/\(EA a b).aq=a.aq/\(EA a b).cA=a.cA/\(EA a b).bZ=a.bZ/\(EA a b).kept=a.kept/\(EA a b).ar=a.ar/\(EA a b).conds=a.conds/\(EA a b).now=a.now:=by
 unfold EA;split
 ·simp
 ·split
  ·simp
  ·split<;>simp
theorem oF {a:bA}{e:Ev}(d:a.err=0)(f:a.more≠ []\/a.st.next<=497\/e.kind=18)(g:(Bh a.st (Ce a e)).1=0):
  EA a e= {a with st:=(Bh a.st (Ce a e)).2,more:=a.more++ [Ce a e]}:=by
 unfold EA;rw[if_neg (by simp[d]),if_neg (by
  rintro⟨h,c,i⟩;rcases f with b|b|b
  ·exact b h
  ·unfold jb at c;simp at c;omega
  ·exact i b),if_neg (by simp[g])]
def rC(a:Q6):aa->Nat->List J0->(aa->Prop)->Prop
 |h,_,[],K=>K h
 |h,i,v::b,K=>ae h (a.add i) v λc=>rC a c (i+1) b K
def aL(b:aa)(a:Q6)(c:List J0)(K:aa->Prop):Prop:=rC a b 0 c K
def gq(a:Array J0)(b:Nat)(c:List J0):Array J0:=⟨a.toList.take b++(c++a.toList.drop (b+c.length))⟩
theorem ANU {c:Array J0}{a:Nat}{v:J0}{b:List J0}(d:a<c.size):gq (c.setIfInBounds a v) (a+1) b=gq c a (v::b):=by
 obtain⟨l⟩:=c;have d:a<l.length:=d;unfold gq;apply congrArg Array.mk;simp only[TO,A6];have e:l.set a v=l.take a++v::l.drop (a+1):=by rw[Zs,if_pos d]
 rw[e,Kf,P4,As,Fk (by omega)];rw[show a+1-a=1 from by omega,Rr,OK (by omega),show a+1+b.length-a=b.length+1 from by omega];rw[HA (l:=l.take a) (by rw[As];omega)];simp only[I0,Is,DA,HU,HW,A4,DG];rw[show a+1+b.length=a+(b.length+1) from by omega]
theorem APw {a:Array J0}{b:Nat}:gq a b []=a:=by obtain⟨l⟩:=a;unfold gq;simp
theorem xD {b c:Nat}{T:Q7}{K:aa->Prop}: ∀(d:List J0) (i:Nat) {a:aa} {e:Array J0},a[b]? =some (J2 e T (0,0))->c+i+d.length<=e.size->
  (∀ f,f[b]? =some (J2 (gq e (c+i) d) T (0,0))->Mod (· =b) a f->f.size=a.size->K f)->rC ⟨b,c,none⟩ a i d K
 | [],i,a,e,g,_,h=>h a (by rw[APw];exact g) ⟨A0 _,λ_ _ _=>rfl⟩ rfl
 |v::d,i,a,e,g,k,h=>by
  rw[A6] at k;show ae a (Addr.add ⟨b,c,none⟩ i) v _;rw[Be];refine ae.mk g (by omega) λp l m q=>?_
  refine xD d (i+1) l (by simp;omega) λn j o r=>h n ?_ (m.trans o) (by omega)
  rw[show c+(i+1)=c+i+1 from by omega,ANU (by omega)] at j;exact j
theorem aL.mk {b e:Nat}{T:Q7}{K:aa->Prop}{a:List J0}{c:aa}{f:Array J0}(g:c[b]? =some (J2 f T (0,0)))(h:e+a.length<=f.size)
  (i: ∀d,d[b]? =some (J2 (gq f e a) T (0,0))->Mod (· =b) c d->d.size=c.size->K d):aL c ⟨b,e,none⟩ a K:=xD a 0 g h i
theorem Dw {c:aa}{b d:Nat}{e:Array J0}{T:Q7}{fr:Nat×Nat}{l:List J0}(f:c[b]? =some (J2 e T fr))(g:(e.toList.drop d).take l.length=l):Cells c ⟨b,d,none⟩ l:=λh v a=>by
 rw[Be];refine AL f ?_;rw[<- A0o,<-BY];have i:=(List.getElem?_eq_some_iff.1 a).1;rw[<- g,F0,if_pos (by omega)] at a;exact a
abbrev Ev.l(x:Ev):List J0:= [J6 J9 x.id,J6 J9 x.kind,J6 J9 x.tick,J6 J9 x.ref,J6 J9 x.step,J6 J9 x.turn,J3 x.aK,J7 x.data]
abbrev Ev.c(x:Ev):Array J0:= #[J6 J9 x.id,J6 J9 x.kind,J6 J9 x.tick,J6 J9 x.ref,J6 J9 x.step,J6 J9 x.turn,J3 x.aK,J7 x.data]
abbrev Ev.v(x:Ev):J0:= .agg #[J6 J9 x.id,J6 J9 x.kind,J6 J9 x.tick,J6 J9 x.ref,J6 J9 x.step,J6 J9 x.turn,J3 x.aK,J7 x.data]
abbrev Ev.z:Ev:=⟨0,0,0,0,0,0,false,⟨#[]⟩⟩
abbrev Ev.s:List Sc:= [.int J9,.int J9,.int J9,.int J9,.int J9,.int J9,.bool,.str]
abbrev Ev.T:Type:=Int×Int×Int×Int×Int×Int×Bool×A2K×Unit
abbrev Ev.t(x:Ev):Ev.T:=(x.id,x.kind,x.tick,x.ref,x.step,x.turn,x.aK,x.data,())
def oG(K:Ev->Prop):Prop:= ∃a:Int,∃b:Int,∃c:Int,∃d:Int,∃e:Int,∃f:Int,∃g:Bool,∃h:A2K,K ⟨a,b,c,d,e,f,g,h⟩
theorem oG.mk {K:Ev->Prop}(x:Ev)(a:K x):oG K:=⟨x.id,x.kind,x.tick,x.ref,x.step,x.turn,x.aK,x.data,a⟩
def Mj(b:aa)(a:Q6)(K:Ev->Prop):Prop:=
 AC J9 b a λc=>
 AC J9 b (a.add 1) λd=>
 AC J9 b (a.add 2) λe=>
 AC J9 b (a.add 3) λf=>
 AC J9 b (a.add 4) λg=>
 AC J9 b (a.add 5) λh=>
 AZ b (a.add 6) λi=>
 AJ b (a.add 7) λj=>
 K ⟨c,d,e,f,g,h,i,j⟩
theorem Mj.mk {b:aa}{a:Q6}{K:Ev->Prop}(x:Ev)(c:Cells b a x.l)(d:K x):Mj b a K:=
 ⟨_,by have:=c 0 _ rfl;rwa [add_zero] at this,_,c 1 _ rfl,_,c 2 _ rfl,_,c 3 _ rfl,_,c 4 _ rfl,_,c 5 _ rfl,_,c 6 _ rfl,_,c 7 _ rfl,d⟩
abbrev Jb.l(x:Jb):List J0:= [J6 J9 x.id,J6 J9 x.step,J3 x.aK,J6 J9 x.turn]
abbrev Jb.c(x:Jb):Array J0:= #[J6 J9 x.id,J6 J9 x.step,J3 x.aK,J6 J9 x.turn]
abbrev Jb.v(x:Jb):J0:= .agg #[J6 J9 x.id,J6 J9 x.step,J3 x.aK,J6 J9 x.turn]
abbrev Jb.z:Jb:=⟨0,0,false,0⟩
abbrev Jb.s:List Sc:= [.int J9,.int J9,.bool,.int J9]
abbrev Jb.T:Type:=Int×Int×Bool×Int×Unit
abbrev Jb.t(x:Jb):Jb.T:=(x.id,x.step,x.aK,x.turn,())
def kY(b:aa)(a:Q6)(K:Jb->Prop):Prop:=
 AC J9 b a λc=>
 AC J9 b (a.add 1) λd=>
 AZ b (a.add 2) λe=>
 AC J9 b (a.add 3) λf=>
 K ⟨c,d,e,f⟩
theorem kY.mk {b:aa}{a:Q6}{K:Jb->Prop}(x:Jb)(c:Cells b a x.l)(d:K x):kY b a K:=
 ⟨_,by have:=c 0 _ rfl;rwa [add_zero] at this,_,c 1 _ rfl,_,c 2 _ rfl,_,c 3 _ rfl,d⟩
abbrev Ck.l(x:Ck):List J0:= [J6 J9 x.id,J6 J9 x.step,J6 J9 x.tick]
abbrev Ck.c(x:Ck):Array J0:= #[J6 J9 x.id,J6 J9 x.step,J6 J9 x.tick]
abbrev Ck.v(x:Ck):J0:= .agg #[J6 J9 x.id,J6 J9 x.step,J6 J9 x.tick]
abbrev Ck.z:Ck:=⟨0,0,0⟩
abbrev Ck.s:List Sc:= [.int J9,.int J9,.int J9]
abbrev Ck.T:Type:=Int×Int×Int×Unit
abbrev Ck.t(x:Ck):Ck.T:=(x.id,x.step,x.tick,())
def oH(b:aa)(a:Q6)(K:Ck->Prop):Prop:=
 AC J9 b a λc=>
 AC J9 b (a.add 1) λd=>
 AC J9 b (a.add 2) λe=>
 K ⟨c,d,e⟩
theorem oH.mk {b:aa}{a:Q6}{K:Ck->Prop}(x:Ck)(c:Cells b a x.l)(d:K x):oH b a K:=
 ⟨_,by have:=c 0 _ rfl;rwa [add_zero] at this,_,c 1 _ rfl,_,c 2 _ rfl,d⟩
abbrev bP.l(x:bP):List J0:= [J6 J9 x.kind,J7 x.name,J7 x.aK,J6 J9 x.tries,J6 J9 x.aA,J6 J9 x.wait]
abbrev bP.c(x:bP):Array J0:= #[J6 J9 x.kind,J7 x.name,J7 x.aK,J6 J9 x.tries,J6 J9 x.aA,J6 J9 x.wait]
abbrev bP.v(x:bP):J0:= .agg #[J6 J9 x.kind,J7 x.name,J7 x.aK,J6 J9 x.tries,J6 J9 x.aA,J6 J9 x.wait]
abbrev bP.z:bP:=⟨0,⟨#[]⟩,⟨#[]⟩,0,0,0⟩
abbrev bP.s:List Sc:= [.int J9,.str,.str,.int J9,.int J9,.int J9]
abbrev bP.T:Type:=Int×A2K×A2K×Int×Int×Int×Unit
abbrev bP.t(x:bP):bP.T:=(x.kind,x.name,x.aK,x.tries,x.aA,x.wait,())
def jc(K:bP->Prop):Prop:= ∃a:Int,∃b:A2K,∃c:A2K,∃d:Int,∃e:Int,∃f:Int,K ⟨a,b,c,d,e,f⟩
theorem jc.mk {K:bP->Prop}(x:bP)(a:K x):jc K:=⟨x.kind,x.name,x.aK,x.tries,x.aA,x.wait,a⟩
def jd(b:aa)(a:Q6)(K:bP->Prop):Prop:=
 AC J9 b a λc=>
 AJ b (a.add 1) λd=>
 AJ b (a.add 2) λe=>
 AC J9 b (a.add 3) λf=>
 AC J9 b (a.add 4) λg=>
 AC J9 b (a.add 5) λh=>
 K ⟨c,d,e,f,g,h⟩
theorem jd.mk {b:aa}{a:Q6}{K:bP->Prop}(x:bP)(c:Cells b a x.l)(d:K x):jd b a K:=
 ⟨_,by have:=c 0 _ rfl;rwa [add_zero] at this,_,c 1 _ rfl,_,c 2 _ rfl,_,c 3 _ rfl,_,c 4 _ rfl,_,c 5 _ rfl,d⟩
structure bG where
 steps:Sl
 az:Int
 status:Int
 next:Int
 bd:Int
 asked:Int
 taken:Int
 fresh:Bool
 au:Sl
 ak:Sl
 cancel:Bool
 aP:Bool
abbrev bG.l(x:bG):List J0:= [J4 x.steps.p x.steps.len x.steps.cap,J6 J9 x.az,J6 J9 x.status,J6 J9 x.next,J6 J9 x.bd,J6 J9 x.asked,J6 J9 x.taken,J3 x.fresh,J4 x.au.p x.au.len x.au.cap,J4 x.ak.p x.ak.len x.ak.cap,J3 x.cancel,J3 x.aP]
abbrev bG.c(x:bG):Array J0:= #[J4 x.steps.p x.steps.len x.steps.cap,J6 J9 x.az,J6 J9 x.status,J6 J9 x.next,J6 J9 x.bd,J6 J9 x.asked,J6 J9 x.taken,J3 x.fresh,J4 x.au.p x.au.len x.au.cap,J4 x.ak.p x.ak.len x.ak.cap,J3 x.cancel,J3 x.aP]
abbrev bG.v(x:bG):J0:= .agg #[J4 x.steps.p x.steps.len x.steps.cap,J6 J9 x.az,J6 J9 x.status,J6 J9 x.next,J6 J9 x.bd,J6 J9 x.asked,J6 J9 x.taken,J3 x.fresh,J4 x.au.p x.au.len x.au.cap,J4 x.ak.p x.ak.len x.ak.cap,J3 x.cancel,J3 x.aP]
abbrev bG.z:bG:=⟨⟨none,0,0⟩,0,0,0,0,0,0,false,⟨none,0,0⟩,⟨none,0,0⟩,false,false⟩
abbrev bG.s:List Sc:= [.sl,.int J9,.int J9,.int J9,.int J9,.int J9,.int J9,.bool,.sl,.sl,.bool,.bool]
abbrev bG.T:Type:=Sl×Int×Int×Int×Int×Int×Int×Bool×Sl×Sl×Bool×Bool×Unit
abbrev bG.t(x:bG):bG.T:=(x.steps,x.az,x.status,x.next,x.bd,x.asked,x.taken,x.fresh,x.au,x.ak,x.cancel,x.aP,())
def IB(K:bG->Prop):Prop:= ∃a:Sl,∃b:Int,∃c:Int,∃d:Int,∃e:Int,∃f:Int,∃g:Int,∃h:Bool,∃i:Sl,∃j:Sl,∃k:Bool,∃l:Bool,K ⟨a,b,c,d,e,f,g,h,i,j,k,l⟩
theorem IB.mk {K:bG->Prop}(x:bG)(a:K x):IB K:=⟨x.steps,x.az,x.status,x.next,x.bd,x.asked,x.taken,x.fresh,x.au,x.ak,x.cancel,x.aP,a⟩
def Ay(b:aa)(a:Q6)(K:bG->Prop):Prop:=
 Aa b a λc=>
 AC J9 b (a.add 1) λd=>
 AC J9 b (a.add 2) λe=>
 AC J9 b (a.add 3) λf=>
 AC J9 b (a.add 4) λg=>
 AC J9 b (a.add 5) λh=>
 AC J9 b (a.add 6) λi=>
 AZ b (a.add 7) λj=>
 Aa b (a.add 8) λk=>
 Aa b (a.add 9) λl=>
 AZ b (a.add 10) λm=>
 AZ b (a.add 11) λn=>
 K ⟨c,d,e,f,g,h,i,j,k,l,m,n⟩
theorem Ay.mk {b:aa}{a:Q6}{K:bG->Prop}(x:bG)(c:Cells b a x.l)(d:K x):Ay b a K:=
 ⟨_,by have:=c 0 _ rfl;rwa [add_zero] at this,_,c 1 _ rfl,_,c 2 _ rfl,_,c 3 _ rfl,_,c 4 _ rfl,_,c 5 _ rfl,_,c 6 _ rfl,_,c 7 _ rfl,_,c 8 _ rfl,_,c 9 _ rfl,_,c 10 _ rfl,_,c 11 _ rfl,d⟩
structure cM where
 status:Int
 next:Int
 kept:Bool
abbrev cM.l(x:cM):List J0:= [J6 J9 x.status,J6 J9 x.next,J3 x.kept]
abbrev cM.c(x:cM):Array J0:= #[J6 J9 x.status,J6 J9 x.next,J3 x.kept]
abbrev cM.v(x:cM):J0:= .agg #[J6 J9 x.status,J6 J9 x.next,J3 x.kept]
abbrev cM.z:cM:=⟨0,0,false⟩
abbrev cM.s:List Sc:= [.int J9,.int J9,.bool]
abbrev cM.T:Type:=Int×Int×Bool×Unit
abbrev cM.t(x:cM):cM.T:=(x.status,x.next,x.kept,())
def oI(K:cM->Prop):Prop:= ∃a:Int,∃b:Int,∃c:Bool,K ⟨a,b,c⟩
theorem oI.mk {K:cM->Prop}(x:cM)(a:K x):oI K:=⟨x.status,x.next,x.kept,a⟩
def KD(b:aa)(a:Q6)(K:cM->Prop):Prop:=
 AC J9 b a λc=>
 AC J9 b (a.add 1) λd=>
 AZ b (a.add 2) λe=>
 K ⟨c,d,e⟩
theorem KD.mk {b:aa}{a:Q6}{K:cM->Prop}(x:cM)(c:Cells b a x.l)(d:K x):KD b a K:=
 ⟨_,by have:=c 0 _ rfl;rwa [add_zero] at this,_,c 1 _ rfl,_,c 2 _ rfl,d⟩
structure ck where
 wid:A2K
 aq:Int
 me:cM
 cJ:Sl
 st:bG
abbrev ck.l(x:ck):List J0:= [J7 x.wid,J6 J9 x.aq,J6 J9 x.me.status,J6 J9 x.me.next,J3 x.me.kept,J4 x.cJ.p x.cJ.len x.cJ.cap,J4 x.st.steps.p x.st.steps.len x.st.steps.cap,J6 J9 x.st.az,J6 J9 x.st.status,J6 J9 x.st.next,J6 J9 x.st.bd,J6 J9 x.st.asked,J6 J9 x.st.taken,J3 x.st.fresh,J4 x.st.au.p x.st.au.len x.st.au.cap,J4 x.st.ak.p x.st.ak.len x.st.ak.cap,J3 x.st.cancel,J3 x.st.aP]
abbrev ck.c(x:ck):Array J0:= #[J7 x.wid,J6 J9 x.aq,J6 J9 x.me.status,J6 J9 x.me.next,J3 x.me.kept,J4 x.cJ.p x.cJ.len x.cJ.cap,J4 x.st.steps.p x.st.steps.len x.st.steps.cap,J6 J9 x.st.az,J6 J9 x.st.status,J6 J9 x.st.next,J6 J9 x.st.bd,J6 J9 x.st.asked,J6 J9 x.st.taken,J3 x.st.fresh,J4 x.st.au.p x.st.au.len x.st.au.cap,J4 x.st.ak.p x.st.ak.len x.st.ak.cap,J3 x.st.cancel,J3 x.st.aP]
abbrev ck.v(x:ck):J0:= .agg #[J7 x.wid,J6 J9 x.aq,J6 J9 x.me.status,J6 J9 x.me.next,J3 x.me.kept,J4 x.cJ.p x.cJ.len x.cJ.cap,J4 x.st.steps.p x.st.steps.len x.st.steps.cap,J6 J9 x.st.az,J6 J9 x.st.status,J6 J9 x.st.next,J6 J9 x.st.bd,J6 J9 x.st.asked,J6 J9 x.st.taken,J3 x.st.fresh,J4 x.st.au.p x.st.au.len x.st.au.cap,J4 x.st.ak.p x.st.ak.len x.st.ak.cap,J3 x.st.cancel,J3 x.st.aP]
abbrev ck.z:ck:=⟨⟨#[]⟩,0,⟨0,0,false⟩,⟨none,0,0⟩,⟨⟨none,0,0⟩,0,0,0,0,0,0,false,⟨none,0,0⟩,⟨none,0,0⟩,false,false⟩⟩
abbrev ck.s:List Sc:= [.str,.int J9,.int J9,.int J9,.bool,.sl,.sl,.int J9,.int J9,.int J9,.int J9,.int J9,.int J9,.bool,.sl,.sl,.bool,.bool]
abbrev ck.T:Type:=A2K×Int×Int×Int×Bool×Sl×Sl×Int×Int×Int×Int×Int×Int×Bool×Sl×Sl×Bool×Bool×Unit
abbrev ck.t(x:ck):ck.T:=(x.wid,x.aq,x.me.status,x.me.next,x.me.kept,x.cJ,x.st.steps,x.st.az,x.st.status,x.st.next,x.st.bd,x.st.asked,x.st.taken,x.st.fresh,x.st.au,x.st.ak,x.st.cancel,x.st.aP,())
def Oi(K:ck->Prop):Prop:= ∃a:A2K,∃b:Int,∃c:Int,∃d:Int,∃e:Bool,∃f:Sl,∃g:Sl,∃h:Int,∃i:Int,∃j:Int,∃k:Int,∃l:Int,∃m:Int,∃n:Bool,∃o:Sl,∃p:Sl,∃q:Bool,∃r:Bool,K ⟨a,b,⟨c,d,e⟩,f,⟨g,h,i,j,k,l,m,n,o,p,q,r⟩⟩
theorem Oi.mk {K:ck->Prop}(x:ck)(a:K x):Oi K:=⟨x.wid,x.aq,x.me.status,x.me.next,x.me.kept,x.cJ,x.st.steps,x.st.az,x.st.status,x.st.next,x.st.bd,x.st.asked,x.st.taken,x.st.fresh,x.st.au,x.st.ak,x.st.cancel,x.st.aP,a⟩
def Jt(b:aa)(a:Q6)(K:ck->Prop):Prop:=
 AJ b a λc=>
 AC J9 b (a.add 1) λd=>
 AC J9 b (a.add 2) λe=>
 AC J9 b (a.add 3) λf=>
 AZ b (a.add 4) λg=>
 Aa b (a.add 5) λh=>
 Aa b (a.add 6) λi=>
 AC J9 b (a.add 7) λj=>
 AC J9 b (a.add 8) λk=>
 AC J9 b (a.add 9) λl=>
 AC J9 b (a.add 10) λm=>
 AC J9 b (a.add 11) λn=>
 AC J9 b (a.add 12) λo=>
 AZ b (a.add 13) λp=>
 Aa b (a.add 14) λq=>
 Aa b (a.add 15) λr=>
 AZ b (a.add 16) λs=>
 AZ b (a.add 17) λt=>
 K ⟨c,d,⟨e,f,g⟩,h,⟨i,j,k,l,m,n,o,p,q,r,s,t⟩⟩
theorem Jt.mk {b:aa}{a:Q6}{K:ck->Prop}(x:ck)(c:Cells b a x.l)(d:K x):Jt b a K:=
 ⟨_,by have:=c 0 _ rfl;rwa [add_zero] at this,_,c 1 _ rfl,_,c 2 _ rfl,_,c 3 _ rfl,_,c 4 _ rfl,_,c 5 _ rfl,_,c 6 _ rfl,_,c 7 _ rfl,_,c 8 _ rfl,_,c 9 _ rfl,_,c 10 _ rfl,_,c 11 _ rfl,_,c 12 _ rfl,_,c 13 _ rfl,_,c 14 _ rfl,_,c 15 _ rfl,_,c 16 _ rfl,_,c 17 _ rfl,d⟩
structure du where
 kind:Int
 wid:A2K
 ref:Int
 turn:Int
abbrev du.l(x:du):List J0:= [J6 J9 x.kind,J7 x.wid,J6 J9 x.ref,J6 J9 x.turn]
abbrev du.c(x:du):Array J0:= #[J6 J9 x.kind,J7 x.wid,J6 J9 x.ref,J6 J9 x.turn]
abbrev du.v(x:du):J0:= .agg #[J6 J9 x.kind,J7 x.wid,J6 J9 x.ref,J6 J9 x.turn]
abbrev du.z:du:=⟨0,⟨#[]⟩,0,0⟩
abbrev du.s:List Sc:= [.int J9,.str,.int J9,.int J9]
abbrev du.T:Type:=Int×A2K×Int×Int×Unit
abbrev du.t(x:du):du.T:=(x.kind,x.wid,x.ref,x.turn,())
def je(b:aa)(a:Q6)(K:du->Prop):Prop:=
 AC J9 b a λc=>
 AJ b (a.add 1) λd=>
 AC J9 b (a.add 2) λe=>
 AC J9 b (a.add 3) λf=>
 K ⟨c,d,e,f⟩
theorem je.mk {b:aa}{a:Q6}{K:du->Prop}(x:du)(c:Cells b a x.l)(d:K x):je b a K:=
 ⟨_,by have:=c 0 _ rfl;rwa [add_zero] at this,_,c 1 _ rfl,_,c 2 _ rfl,_,c 3 _ rfl,d⟩
structure bY where
 kind:Int
 aV:A2K
 wid:A2K
 name:A2K
 steps:Sl
 az:Int
 cI:Sl
 ref:Int
 turn:Int
 aW:Int
 aq:Int
 aQ:Bool
abbrev bY.l(x:bY):List J0:= [J6 J9 x.kind,J7 x.aV,J7 x.wid,J7 x.name,J4 x.steps.p x.steps.len x.steps.cap,J6 J9 x.az,J4 x.cI.p x.cI.len x.cI.cap,J6 J9 x.ref,J6 J9 x.turn,J6 J9 x.aW,J6 J9 x.aq,J3 x.aQ]
abbrev bY.c(x:bY):Array J0:= #[J6 J9 x.kind,J7 x.aV,J7 x.wid,J7 x.name,J4 x.steps.p x.steps.len x.steps.cap,J6 J9 x.az,J4 x.cI.p x.cI.len x.cI.cap,J6 J9 x.ref,J6 J9 x.turn,J6 J9 x.aW,J6 J9 x.aq,J3 x.aQ]
abbrev bY.v(x:bY):J0:= .agg #[J6 J9 x.kind,J7 x.aV,J7 x.wid,J7 x.name,J4 x.steps.p x.steps.len x.steps.cap,J6 J9 x.az,J4 x.cI.p x.cI.len x.cI.cap,J6 J9 x.ref,J6 J9 x.turn,J6 J9 x.aW,J6 J9 x.aq,J3 x.aQ]
abbrev bY.z:bY:=⟨0,⟨#[]⟩,⟨#[]⟩,⟨#[]⟩,⟨none,0,0⟩,0,⟨none,0,0⟩,0,0,0,0,false⟩
abbrev bY.s:List Sc:= [.int J9,.str,.str,.str,.sl,.int J9,.sl,.int J9,.int J9,.int J9,.int J9,.bool]
abbrev bY.T:Type:=Int×A2K×A2K×A2K×Sl×Int×Sl×Int×Int×Int×Int×Bool×Unit
abbrev bY.t(x:bY):bY.T:=(x.kind,x.aV,x.wid,x.name,x.steps,x.az,x.cI,x.ref,x.turn,x.aW,x.aq,x.aQ,())
def oJ(b:aa)(a:Q6)(K:bY->Prop):Prop:=
 AC J9 b a λc=>
 AJ b (a.add 1) λd=>
 AJ b (a.add 2) λe=>
 AJ b (a.add 3) λf=>
 Aa b (a.add 4) λg=>
 AC J9 b (a.add 5) λh=>
 Aa b (a.add 6) λi=>
 AC J9 b (a.add 7) λj=>
 AC J9 b (a.add 8) λk=>
 AC J9 b (a.add 9) λl=>
 AC J9 b (a.add 10) λm=>
 AZ b (a.add 11) λn=>
 K ⟨c,d,e,f,g,h,i,j,k,l,m,n⟩
theorem oJ.mk {b:aa}{a:Q6}{K:bY->Prop}(x:bY)(c:Cells b a x.l)(d:K x):oJ b a K:=
 ⟨_,by have:=c 0 _ rfl;rwa [add_zero] at this,_,c 1 _ rfl,_,c 2 _ rfl,_,c 3 _ rfl,_,c 4 _ rfl,_,c 5 _ rfl,_,c 6 _ rfl,_,c 7 _ rfl,_,c 8 _ rfl,_,c 9 _ rfl,_,c 10 _ rfl,_,c 11 _ rfl,d⟩
structure bS where
 err:Int
 status:Int
 next:Int
 task:du
 name:A2K
 cJ:Sl
abbrev bS.l(x:bS):List J0:= [J6 J9 x.err,J6 J9 x.status,J6 J9 x.next,J6 J9 x.task.kind,J7 x.task.wid,J6 J9 x.task.ref,J6 J9 x.task.turn,J7 x.name,J4 x.cJ.p x.cJ.len x.cJ.cap]
abbrev bS.c(x:bS):Array J0:= #[J6 J9 x.err,J6 J9 x.status,J6 J9 x.next,J6 J9 x.task.kind,J7 x.task.wid,J6 J9 x.task.ref,J6 J9 x.task.turn,J7 x.name,J4 x.cJ.p x.cJ.len x.cJ.cap]
abbrev bS.v(x:bS):J0:= .agg #[J6 J9 x.err,J6 J9 x.status,J6 J9 x.next,J6 J9 x.task.kind,J7 x.task.wid,J6 J9 x.task.ref,J6 J9 x.task.turn,J7 x.name,J4 x.cJ.p x.cJ.len x.cJ.cap]
abbrev bS.z:bS:=⟨0,0,0,⟨0,⟨#[]⟩,0,0⟩,⟨#[]⟩,⟨none,0,0⟩⟩
abbrev bS.s:List Sc:= [.int J9,.int J9,.int J9,.int J9,.str,.int J9,.int J9,.str,.sl]
abbrev bS.T:Type:=Int×Int×Int×Int×A2K×Int×Int×A2K×Sl×Unit
abbrev bS.t(x:bS):bS.T:=(x.err,x.status,x.next,x.task.kind,x.task.wid,x.task.ref,x.task.turn,x.name,x.cJ,())
def Ia(K:bS->Prop):Prop:= ∃a:Int,∃b:Int,∃c:Int,∃d:Int,∃e:A2K,∃f:Int,∃g:Int,∃h:A2K,∃i:Sl,K ⟨a,b,c,⟨d,e,f,g⟩,h,i⟩
theorem Ia.mk {K:bS->Prop}(x:bS)(a:K x):Ia K:=⟨x.err,x.status,x.next,x.task.kind,x.task.wid,x.task.ref,x.task.turn,x.name,x.cJ,a⟩
def GM(b:aa)(a:Q6)(K:bS->Prop):Prop:=
 AC J9 b a λc=>
 AC J9 b (a.add 1) λd=>
 AC J9 b (a.add 2) λe=>
 AC J9 b (a.add 3) λf=>
 AJ b (a.add 4) λg=>
 AC J9 b (a.add 5) λh=>
 AC J9 b (a.add 6) λi=>
 AJ b (a.add 7) λj=>
 Aa b (a.add 8) λk=>
 K ⟨c,d,e,⟨f,g,h,i⟩,j,k⟩
theorem GM.mk {b:aa}{a:Q6}{K:bS->Prop}(x:bS)(c:Cells b a x.l)(d:K x):GM b a K:=
 ⟨_,by have:=c 0 _ rfl;rwa [add_zero] at this,_,c 1 _ rfl,_,c 2 _ rfl,_,c 3 _ rfl,_,c 4 _ rfl,_,c 5 _ rfl,_,c 6 _ rfl,_,c 7 _ rfl,_,c 8 _ rfl,d⟩
structure gf where
 wait:Int
 q:bY
 take:Bool
 iE:Bool
abbrev gf.l(x:gf):List J0:= [J6 J9 x.wait,J6 J9 x.q.kind,J7 x.q.aV,J7 x.q.wid,J7 x.q.name,J4 x.q.steps.p x.q.steps.len x.q.steps.cap,J6 J9 x.q.az,J4 x.q.cI.p x.q.cI.len x.q.cI.cap,J6 J9 x.q.ref,J6 J9 x.q.turn,J6 J9 x.q.aW,J6 J9 x.q.aq,J3 x.q.aQ,J3 x.take,J3 x.iE]
abbrev gf.c(x:gf):Array J0:= #[J6 J9 x.wait,J6 J9 x.q.kind,J7 x.q.aV,J7 x.q.wid,J7 x.q.name,J4 x.q.steps.p x.q.steps.len x.q.steps.cap,J6 J9 x.q.az,J4 x.q.cI.p x.q.cI.len x.q.cI.cap,J6 J9 x.q.ref,J6 J9 x.q.turn,J6 J9 x.q.aW,J6 J9 x.q.aq,J3 x.q.aQ,J3 x.take,J3 x.iE]
abbrev gf.v(x:gf):J0:= .agg #[J6 J9 x.wait,J6 J9 x.q.kind,J7 x.q.aV,J7 x.q.wid,J7 x.q.name,J4 x.q.steps.p x.q.steps.len x.q.steps.cap,J6 J9 x.q.az,J4 x.q.cI.p x.q.cI.len x.q.cI.cap,J6 J9 x.q.ref,J6 J9 x.q.turn,J6 J9 x.q.aW,J6 J9 x.q.aq,J3 x.q.aQ,J3 x.take,J3 x.iE]
abbrev gf.z:gf:=⟨0,⟨0,⟨#[]⟩,⟨#[]⟩,⟨#[]⟩,⟨none,0,0⟩,0,⟨none,0,0⟩,0,0,0,0,false⟩,false,false⟩
abbrev gf.s:List Sc:= [.int J9,.int J9,.str,.str,.str,.sl,.int J9,.sl,.int J9,.int J9,.int J9,.int J9,.bool,.bool,.bool]
abbrev gf.T:Type:=Int×Int×A2K×A2K×A2K×Sl×Int×Sl×Int×Int×Int×Int×Bool×Bool×Bool×Unit
abbrev gf.t(x:gf):gf.T:=(x.wait,x.q.kind,x.q.aV,x.q.wid,x.q.name,x.q.steps,x.q.az,x.q.cI,x.q.ref,x.q.turn,x.q.aW,x.q.aq,x.q.aQ,x.take,x.iE,())
structure gg where
 key:A2K
 val:A2K
 ref:Int
 turn:Int
 aQ:Bool
abbrev gg.l(x:gg):List J0:= [J7 x.key,J7 x.val,J6 J9 x.ref,J6 J9 x.turn,J3 x.aQ]
abbrev gg.c(x:gg):Array J0:= #[J7 x.key,J7 x.val,J6 J9 x.ref,J6 J9 x.turn,J3 x.aQ]
abbrev gg.v(x:gg):J0:= .agg #[J7 x.key,J7 x.val,J6 J9 x.ref,J6 J9 x.turn,J3 x.aQ]
abbrev gg.z:gg:=⟨⟨#[]⟩,⟨#[]⟩,0,0,false⟩
abbrev gg.s:List Sc:= [.str,.str,.int J9,.int J9,.bool]
abbrev gg.T:Type:=A2K×A2K×Int×Int×Bool×Unit
abbrev gg.t(x:gg):gg.T:=(x.key,x.val,x.ref,x.turn,x.aQ,())
end Go.Lf
namespace Go.Lf.G
abbrev AU:bT:= .none
abbrev AO(a b:bT):bT:= .seq a b
def CQ:Nat->bT->bT
 |0,x=>x
 |n+1,x=> .seq .none (CQ n x)
abbrev Bp:bT:=AO AU AU
abbrev EI:bT:= .cond Bp AU
abbrev Fx:bT:= .cond AU AU
abbrev Ct:bT:=AO AU EI
abbrev Fy:bT:=AO AU Fx
abbrev FO:bT:=CQ 2 AU
abbrev iJ:bT:=AO Ct Bp
abbrev QH:bT:=AO AU iJ
abbrev MG:bT:=CQ 2 EI
abbrev kK:bT:=AO AU (AO Fx (AO (.block MG) AU))
abbrev j6:bT:=AO AU (AO Fx (AO (.block Bp) AU))
abbrev nN:bT:=AO AU (.cond AU Fy)
abbrev lV:bT:=AO AU (.cond AU nN)
abbrev nP:bT:=AO Ct AU
abbrev nQ:bT:=AO AU (AO Fx (AO (.block (CQ 2 nP)) AU))
abbrev qx:bT:=AO AU (AO (AO AU (.block (.loop [(8,.one (.int J9))] [0,1,7] kK))) Bp)
abbrev gj:bT:=CQ 3 AU
abbrev qy:bT:= .cond gj AU
abbrev uv:bT:=CQ 3 (AO Ct (AO AU (AO Ct (AO (AO AU (.cond (CQ 4 AU) AU)) (AO AU (AO (AO AU qy) gj))))))
abbrev nR:bT:=AO AU (AO Fx (AO (.block FO) AU))
abbrev qz:bT:=AO AU (.cond Bp Ct)
abbrev qA:bT:= .block (AO AU (.cond Bp qz))
abbrev nS:bT:= .block AU
abbrev qB:bT:=AO AU (AO Fx (AO nS AU))
abbrev kL:bT:=AO Ct FO
abbrev lW:bT:= .cond FO AU
abbrev uw:bT:=AO AU (AO Fx (AO (.block (CQ 3 EI)) AU))
abbrev qC:bT:=AO AU (AO Ct iJ)
abbrev kN:bT:=CQ 2 Fx
abbrev ux:bT:=AO (.bz [(13,.one .bool)] [0,1]) EI
abbrev uy:bT:=AO (.bz [(16,.one .bool)] [0,1]) EI
abbrev uz:bT:=AO (.bz [(19,.one .bool)] [0,1]) EI
abbrev nT:bT:=AO AU nP
abbrev uA:bT:=AO Fy (AO (.block Ct) AU)
abbrev uB:bT:=CQ 2 (AO Ct (CQ 4 AU))
abbrev uC:bT:=AO AU (AO Ct gj)
theorem Ac {a:al}{f:Q8}{args:List J0}{b:aa}{c:A2J}{d:Prop}(e:bT)(g:d=qG a P f e args b c)(h:d):AA a P f args.toArray b c:=AHF mixed (g▸h)
end Go.Lf.G
