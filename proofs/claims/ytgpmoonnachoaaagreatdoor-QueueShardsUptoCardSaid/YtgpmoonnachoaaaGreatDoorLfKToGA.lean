/-
 LIFT, part K: reasoning about heaps: what is kept, what lies where, slices that are read, slices that are owned.
-/
import Derived.Test.YtgpmoonnachoaaaGreatDoorLfAToN1
import Derived.Laws.FloatArith
import Derived.MapKept
import Derived.Maps.Own
import Derived.Lib.Bytealg
import Derived.Sort.KeysCollected
import Derived.StringKeys
import Derived.Laws.BytesString
import Derived.Laws.BytesArg
import Derived.Laws.StructEq
import Derived.ChangeKeysEq
set_option maxRecDepth 100000
set_option linter.unusedVariables false
set_option linter.unusedSimpArgs false
open Go.IntKind renaming i64→J9,wrap→J8
open Go.Value renaming string→J7,int→J6,pointer→J5,slice→J4,bool→J3,tuple→J1
open Go.Obj renaming cells→J2
open Go renaming Value→J0,Addr→Q6,TypeId→Q7,FuncId→Q8,Program→Q1
open Go.Addr renaming add→Q9,mk→Q5
namespace Go.Lf
theorem add_add(a:Q6)(m b:Nat):(a.add m).add b=a.add (m+b):=by
 unfold Addr.add;by_cases c:m=0
 ·subst c;simp
 ·by_cases d:b=0
  ·subst d;simp[c]
  ·have:m+b≠0:=by omega
   simp[c,d,HJ]
theorem add_zero(a:Q6):a.add 0=a:=by simp[Addr.add]
theorem aV(a:Q6)(b:Nat):(a.add b).block=a.block:=by unfold Addr.add;split<;>rfl
theorem Bf(b c a:Nat):(⟨b,c,none⟩:Q6).add a=⟨b,c+a,none⟩:=by unfold Addr.add;by_cases d:a=0<;>simp[d]
structure Mod (S:Nat->Prop) (h h':aa):Prop where
 size:h.size<=h'.size
 get: ∀b,b<h.size-> ¬S b->h'[b]? =h[b]?
abbrev Ext:=Mod (λ_=>False)
theorem Mod.refl {b:Nat->Prop}{a:aa}:Mod b a a:=⟨A0 _,λ_ _ _=>rfl⟩
theorem Mod.trans {d:Nat->Prop}{e f g:aa}(a:Mod d e f)(b:Mod d f g):Mod d e g:=
 ⟨AE a.size b.size,λc h i=>(b.get c (F2 h a.size) i).trans (a.get c h i)⟩
theorem Mod.ak {e S':Nat->Prop}{d f:aa}(a:Mod e d f)(h: ∀b,b<d.size->e b->S' b):Mod S' d f:=⟨a.size,λc g i=>a.get c g λd=>i (h c g d)⟩
theorem Ext.mod {d:Nat->Prop}{b c:aa}(a:Ext b c):Mod d b c:=a.ak λ_ _ b=>b.elim
theorem Mod.then {e:Nat->Prop}{d f g:aa}(a:Mod e d f)(b:Mod (λc=>e c\/d.size<=c) f g):Mod e d g:=
 ⟨AE a.size b.size,λc h i=>(b.get c (F2 h a.size) (λd=>d.elim i (λd=>by omega))).trans (a.get c h i)⟩
theorem Mod.push {d:Nat->Prop}(a:aa)(e:Obj):Mod d a (a.push e):=
 ⟨by simp,λb c _=>by rw[PC c];simp[c]⟩
theorem Mod.ai {c:Nat->Prop}{d e:aa}(a:Mod c d e){b:Nat}{f:Obj}(g:d[b]? =some f)(h: ¬c b):e[b]? =some f:=
 (a.get b (Array.getElem?_eq_some_iff.1 g).1 h).trans g
theorem Ah {a:aa}{b:Nat}{c:Obj}(d:a[b]? =some c):b<a.size:=(Array.getElem?_eq_some_iff.1 d).1
theorem VD {b:aa}{a:Q6}{v:J0}(c:ah b a=some v):a.block<b.size:=by
 unfold ah at c;cases d:b[a.block]? with
 |none=>rw[d] at c;cases c
 |some e=>exact Ah d
theorem Qa {b c:aa}{a:Q6}(d:c[a.block]? =b[a.block]?):ah c a=ah b a:=by unfold ah;rw[d]
theorem Mod.ah {b:Nat->Prop}{c d:aa}(m:Mod b c d){a:Q6}{v:J0}(e:ah c a=some v)(f: ¬b a.block):Lf.ah d a=some v:=
 (Qa (m.get _ (VD e) f)).trans e
theorem Ext.ah {b c:aa}(m:Ext b c){a:Q6}{v:J0}(d:Lf.ah b a=some v):Lf.ah c a=some v:=Mod.ah m d (λb=>b)
theorem Hr {a:aa}{b c:Nat}{d:Array J0}{T:Q7}{fr:Nat×Nat}(e:a[b]? =some (.cells d T fr)):ah a ⟨b,c,none⟩=d[c]? :=by simp[ah,e]
theorem PI {a:aa}{b c:Nat}{d:Array J0}{T:Q7}(e:a[b]? =some (.cells d T (0,0))):fZ a ⟨b,c,none⟩=false:=by simp[fZ,e]
theorem vx {a:aa}{b c:Nat}{d:Array J0}{T:Q7}{fr:Nat×Nat}{v:J0}(e:a[b]? =some (.cells d T fr)):
  (dh a ⟨b,c,none⟩ v)[b]? =some (.cells (d.setIfInBounds c v) T fr):=by
 simp[dh,GF,e]
theorem AK4 {b:aa}{a:Q6}{v:J0}{c:Nat}(d:c≠a.block):(dh b a v)[c]? =b[c]? :=by simp[dh,GF,Ne.symm d]
theorem Zi {b:aa}{a:Q6}{v:J0}:(dh b a v).size=b.size:=by simp[dh]
theorem Mod.set {S:Nat->Prop}{b:aa}{a:Q6}{v:J0}(c:S a.block):Mod S b (dh b a v):=
 ⟨by rw[Zi];exact A0 _,λ_ _ d=>AK4 (λe=>d (e▸c))⟩
theorem ao.mk {a:aa}{c:Obj}{K:Nat->aa->Prop}(d: ∀b,b=a.push c->b[a.size]? =some c->Ext a b->b.size=a.size+1->K a.size b):ao a c K:=
 d _ rfl (by simp) (Mod.push a c) (by simp)
theorem af.mk {a:aa}{b c:Nat}{v:J0}{d:Array J0}{T:Q7}{K:aa->Prop}(f:a[b]? =some (.cells d T (0,0)))(g:c<d.size)
  (h: ∀e,e[b]? =some (.cells (d.setIfInBounds c v) T (0,0))->Mod (· =b) a e->e.size=a.size->K e):af a ⟨b,c,none⟩ v K:=
 ⟨⟨d[c],by rw[Hr f];simp[g]⟩,PI f,h _ (vx f) (Mod.set rfl) Zi⟩
theorem ag.intro {b:Bool}{a c:Prop}(d:b=true->a)(e:b=false->c):ag b a c:=by
 cases b
 ·exact e rfl
 ·exact d rfl
theorem ag.yes {b:Bool}{a c:Prop}(d:b=true)(e:a):ag b a c:=by subst d;exact e
theorem ag.no {b:Bool}{c a:Prop}(d:b=false)(e:a):ag b c a:=by subst d;exact e
theorem bJ.mk {p:Q2}{len:Nat}{a:Q6}{k:Nat}{K:Q6->Prop}(b:p=some a)(d:k<len)(c:K a):bJ p len (k:Int) K:=
 ⟨a,b,⟨by omega,by omega⟩,c⟩
theorem Yx.mk {b:Bool}{K:Prop}(a:b=true)(c:K):Yx b K:=by subst a;exact c
theorem aj.mk {a:Type}{b:a->aa->Prop}{body:(a->aa->Prop)->Prop}(d: ∀K:a->aa->Prop,(∀ x c,b x c->K x c)->body K):aj b body:=d
theorem Eb.func {A:ar}{P:Q1}{f:Q8}{first bU args:Array J0}{h:aa}{R:A2O}
  (c:(callFunc f (first++args++bU)).calc P=some (.enter f (first++args++bU))) (d:AA A P f (first++args++bU) h R):Eb A P (.func (.func f) first bU) args h R:=by
 intro a;have e:=Df c (A.at h a);have g:(do let b <-Deferred.ofValue (.func (.func f) first bU) args;invoke b.target b.args:Sem Next).run P (A.at h a)= .ok (.enter f (first++args++bU)) (A.at h a):=by simp only[Deferred.ofValue,Sem.run_bind,Sem.run_pure,Result.andThen_ok,invoke];exact e
 rw[g];exact d a
structure cF (α:Type) where
 enc:α->List J0
 w:Nat
 len: ∀x,(enc x).length=w
 pos:0<w
 one: ∀x v,v∈enc x->MC v=true
variable {α : Type}
def Cells(c:aa)(a:Q6)(d:List J0):Prop:= ∀b v,d[b]? =some v->ah c (a.add b)=some v
theorem Cells.mod {b:Nat->Prop}{d e:aa}{a:Q6}{f:List J0}(c:Cells d a f)(m:Mod b d e)(g: ¬b a.block):Cells e a f:=
 λh v i=>m.ah (c h v i) (by rw[aV];exact g)
structure View (E:cF α) (h:aa) (s:Sl) (l:List α):Prop where
 len:s.len=l.length
 cap:s.len<=s.cap
 cells: ∀i x,l[i]? =some x-> ∃a,s.p=some a/\Cells h (a.add (i*E.w)) (E.enc x)
def Sl.ai(s:Sl):Option Nat:=s.p.map (·.block)
theorem View.mod {c:cF α}{d:Nat->Prop}{e f:aa}{s:Sl}{l:List α}(v:View c e s l)(m:Mod d e f)(h: ∀b,s.ai=some b-> ¬d b):View c f s l:=
 ⟨v.len,v.cap,λi x j=>let ⟨a,g,k⟩:=v.cells i x j;⟨a,g,k.mod m (by rw[aV];exact h _ (by simp[Sl.ai,g]))⟩⟩
theorem View.ext {b:cF α}{a c:aa}{s:Sl}{l:List α}(v:View b a s l)(m:Ext a c):View b c s l:=v.mod m λ_ _ a=>a
theorem View.nil {b:cF α}{a:aa}:View b a ⟨none,0,0⟩ []:=⟨rfl,A0 _,λ_ _ a=>by simp at a⟩
structure Own (E:cF α) (T:Q7) (h:aa) (s:Sl) (l:List α):Prop where
 len:s.len=l.length
 row:(s=⟨none,0,0⟩/\l= [])\/ ∃g cur,s.p=some ⟨g,0,none⟩/\h[g]? =some (.cells cur T (0,0))/\s.len<=s.cap/\s.cap<=maxLen/\cur.size=s.cap*E.w/\cur.toList.take (s.len*E.w)=l.flatMap E.enc
theorem Own.nil {a:cF α}{T:Q7}{b:aa}:Own a T b ⟨none,0,0⟩ []:=⟨rfl,.inl ⟨rfl,rfl⟩⟩
theorem dC {E:cF α}: ∀ {l:List α} {i:Nat} {x:α},l[i]? =some x-> ∀a v,(E.enc x)[a]? =some v->(l.flatMap E.enc)[i*E.w+a]? =some v
 | [],i,x,b,_,_,_=>by simp at b
 |y::l,0,x,b,a,v,c=>by
  simp at b;subst b;rw[AH,HT,AI,GC (List.getElem?_eq_some_iff.1 c).1];exact c
 |y::l,i+1,x,b,a,v,c=>by
  have d:=dC (E:=E) (l:=l) (i:=i) (by simpa using b) a v c;rw[AH,F0 (by rw[E.len,By];omega),E.len];rw[show(i+1)*E.w+a-E.w=i*E.w+a by rw[By];omega];exact d
theorem Jm {E:cF α}: ∀ {l:List α},(l.flatMap E.enc).length=l.length*E.w
 | []=>by simp
 |x::l=>by rw[AH,A1,Jm,E.len,A5,By];omega
theorem Own.view {E:cF α}{T:Q7}{a:aa}{s:Sl}{l:List α}(b:Own E T a s l):View E a s l:=by
 rcases b.row with⟨rfl,rfl⟩|⟨g,m,c,d,e,_,n,f⟩
 ·exact View.nil
 ·refine⟨b.len,e,λi x h=>⟨_,c,λj v k=>?_⟩⟩;have:=dC (E:=E) h j v k;rw[<- f,Ek] at this;split at this
  ·rw[add_add,Bf,Hr d];simpa using this
  ·cases this
theorem Own.mod {a:cF α}{T:Q7}{c:Nat->Prop}{d e:aa}{s:Sl}{l:List α}(f:Own a T d s l)(m:Mod c d e)(i: ∀b,s.ai=some b-> ¬c b):Own a T e s l:=by
 refine⟨f.len,?_⟩;rcases f.row with j|⟨g,k,h,n,rest⟩
 ·exact .inl j
 ·exact .inr ⟨g,k,h,m.ai n (i g (by simp[Sl.ai,h])),rest⟩
theorem Own.ext {b:cF α}{T:Q7}{a c:aa}{s:Sl}{l:List α}(d:Own b T a s l)(m:Ext a c):Own b T c s l:=d.mod m λ_ _ a=>a
theorem Own.lit {E:cF α}{T:Q7}{c:aa}{b:Nat}{l:List α}{a:Array J0}(e:c[b]? =some (.cells a T (0,0)))(d:a.toList=l.flatMap E.enc)(f:l.length<=maxLen):
  Own E T c ⟨some ⟨b,0,none⟩,l.length,l.length⟩ l:=by
 have g:a.size=l.length*E.w:=by rw[<- DQ,d,Jm]
 exact⟨rfl,.inr ⟨b,a,rfl,e,A0 _,f,g,by rw[d];exact AG (by rw[Jm];exact A0 _)⟩⟩
def QE(P:Q1)(t T:Q7)(a b:Nat):Bool:=
 match P.underlying t with
 |some (.slice c)=>Nat.beq c T&&match P.info? T with
  |some i=>Nat.beq i.size a&&Nat.beq i.bytes b&&match i.zero with
   |some z=>Nat.beq z.cells.size a
   |none=>false
  |none=>false
 |_=>false
theorem qC {P:Q1}{t T:Q7}{b c:Nat}(a:QE P t T b c=true):
  P.underlying t=some (.slice T)/\ ∃i z,P.info? T=some i/\i.zero=some z/\i.size=b/\i.bytes=c/\z.cells.size=b:=by
 unfold QE at a;split at a
 ·rename_i h d;split at a
  ·rename_i i e;split at a
   ·rename_i z f;simp only[A4,Nat.beq_eq] at a;obtain⟨rfl,⟨rfl,rfl⟩,g⟩:=a;exact⟨d,i,z,e,f,rfl,rfl,g⟩
   ·simp at a
  ·simp at a
 ·simp at a
theorem vA {A:ar}{b a:World}{h:aa}{n:Nat}(c:b=A.at h n)(d:a.os=b.os)(e:a.tape=b.tape)(f:a.output=b.output):a=A.at a.heap a.drawn:=by
 subst c;cases a;simp only[ar.at] at*
 simp[d,e,f]
theorem PS {v:J0}(a:MC v=true):v.oneCell'=true:=by cases v<;>first|rfl|(simp[MC] at a)
theorem Own.lu {a:cF α}{T:Q7}{A:ar}{b:aa}{s:Sl}{l:List α}{n:Nat}(c:Own a T b s l):(A.at b n).ownsRow 0 T a.w (.slice s.p s.len s.cap) s.len (l.flatMap a.enc):=by
 refine⟨by rw[Jm,c.len],?_⟩;rcases c.row with⟨rfl,rfl⟩|⟨g,d,e,f,h,i,j,k⟩
 ·exact .inl ⟨rfl,rfl⟩
 ·exact .inr ⟨g,s.cap,d,by rw[e],An _,f,h,i,j,k⟩
theorem AIC {a:cF α}{T:Q7}{c:World}{v:J0}{b:Nat}{l:List α}(d:c.ownsRow 0 T a.w v b (l.flatMap a.enc))(e:b=l.length):
  ∃s:Sl,v= .slice s.p s.len s.cap/\Own a T c.heap s l/\(v= .slice none 0 0->s=⟨none,0,0⟩):=by
 rcases d.2 with⟨rfl,p⟩|⟨g,f,h,rfl,_,i,j,k,m,n⟩
 ·have:l= []:=CC (by omega);subst this;exact⟨⟨none,0,0⟩,rfl,Own.nil,λ_=>rfl⟩
 ·refine⟨⟨some ⟨g,0,none⟩,b,f⟩,rfl,⟨e,.inr ⟨g,h,rfl,i,j,k,m,n⟩⟩,λo=>by cases o⟩
theorem Fx {A:ar}{P:Q1}{E:cF α}{t p T:Q7}{M:Nat}(al:QE P t T E.w M=true){d:aa}{s src:Sl}{l m:List α}{K:Sl->aa->Prop}
  (h:Own E T d s l) (N:View E d src m) (j:(l.length+m.length)*M<=140737488355328) (W:l.length+m.length<=maxLen)
  (X: ∀f B,Own E T B f (l++m)->Mod (λb=>s.ai=some b) d B->(∀ b,f.ai=some b->s.ai=some b\/d.size<=b)->(f.p=none↔s.p=none/\m= [])->K f B):
  BI A P (Builtin.append_ #[t,t] p #[.slice s.p s.len s.cap,.slice src.p src.len src.cap]) d λv B=> ∃f:Sl,v= .slice f.p f.len f.cap/\K f B:=by
 obtain⟨q,i,z,r,O,G,hB,am⟩:=qC al;intro n;have Q:=N.len;by_cases R:m= []
 ·subst R;simp only[GO,AK,G0] at*
  have an:(Builtin.append_ #[t,t] p #[.slice s.p s.len s.cap,.slice src.p src.len src.cap]).run P (A.at d n)= .ok (.slice s.p s.len s.cap) (A.at d n):=by
   have S:s.len<=s.cap:=h.view.cap;have w: ∀U:World,(Builtin.firstCells i.size 0 (.slice src.p 0 src.cap)).run P U= .ok #[] U:=by intro U;cases src.p<;>simp[Builtin.firstCells,loadCells,loadCellsFrom]
   cases o:s.p with
   |none=>simp[Builtin.append_,BM q,run_sizeOf r,Builtin.lenOf,Q,S,w]
   |some a=>simp[Builtin.append_,BM q,run_sizeOf r,Builtin.lenOf,Q,S,w,storeCells]
  exact⟨_,d,n,an,s,rfl,X s d h Mod.refl (λb j=> .inl j) (by simp)⟩
 ·have Y:0<m.length:=List.length_pos_iff.2 R;obtain⟨a,Z,_⟩:=N.cells 0 m[0] (by simp[Y]);have H: ∀e u,(m.flatMap E.enc)[e]? =some u->(A.at d n).cell? (a.add e)=some u:=by
   intro e u ab;have ao:e<m.length*E.w:=by rw[<- Jm (E:=E)];exact(List.getElem?_eq_some_iff.1 ab).1
   have ap:e / E.w<m.length:=Nat.div_lt_of_lt_mul (by rw[CH];exact ao);have k:e % E.w<E.w:=CA _ E.pos;have I:m[e / E.w]? =some m[e / E.w]:=by simp[ap]
   have ac:e % E.w<(E.enc m[e / E.w]).length:=by rw[E.len];exact k
   have w:=dC (E:=E) I (e % E.w) _ (A2 ac);have ad:e / E.w*E.w+e % E.w=e:=Nat.div_add_mod' e E.w;rw[ad,ab] at w;obtain⟨aF,ae,aq⟩:=N.cells _ _ I;rw[Z] at ae;cases ae;have:=aq (e % E.w) _ (A2 ac);rw[add_add,ad] at this;rw[BE] at w;rw[w];exact this
  have J: ∀u∈m.flatMap E.enc,u.oneCell'=true:=by intro u au;obtain⟨x,_,I⟩:=List.mem_flatMap.1 au;exact PS (E.one x u I)
  obtain⟨af,y,k,ag,C,aG⟩:=run_append_own (P:=P) (A.at d n) 0 t p T i z E.w M q r O G hB am E.pos (.slice s.p s.len s.cap) s.len (l.flatMap E.enc) h.lu a m.length src.cap (m.flatMap E.enc)
   (by rw[Jm]) H J (by rw[h.len];exact W) (by rw[h.len];exact j) (An _)
  rw[<- Ge] at ag;obtain⟨f,V,av,aH⟩:=AIC ag (by rw[h.len,A1]);have aw:y=A.at y.heap y.drawn:=vA rfl C.os C.tape C.output;have L:(m.flatMap E.enc).length=m.length*i.size:=by rw[Jm,G]
  have ah:((s.len+m.length:Nat):Int)<=9223372036854775807:=by have:=W;simp only[maxLen] at this;rw[h.len];omega
  have ai:(s.len+m.length)*i.bytes<=140737488355328:=by rw[h.len,hB];exact j
  have ax: ∃g c,af= .slice (some ⟨g,0,none⟩) (s.len+m.length) c/\(s.ai=some g\/g=d.size):=by
   rcases h.row with⟨rfl,rfl⟩|⟨g,ay,o,az,S,aI,aA,aJ⟩
   ·have D:=run_append_nil (P:=P) (A.at d n) t p T i z q r O a m.length src.cap (m.flatMap E.enc) L H Y (by simpa using ah) (by have:=ai;simp only[AI] at this;omega);rw[D] at k;cases k;exact⟨d.size,_,by rw[AI];rfl,.inr rfl⟩
   ·by_cases aj:s.len+m.length<=s.cap
    ·have D:=run_append_room (P:=P) (A.at d n) t p T i q r g s.len s.cap ay az a m.length src.cap (m.flatMap E.enc) L H J aj (by rw[L,aA,<-G,<-By];exact AN _ aj);rw[o,D] at k;cases k;exact⟨g,_,rfl,.inl (by simp[Sl.ai,o])⟩
    ·have D:=run_append_grow (P:=P) (A.at d n) t p T i z q r O ⟨g,0,none⟩ s.len s.cap (l.flatMap E.enc) (by rw[Jm,h.len,G])
      (h.lu (A:=A) (n:=n) |>.cells (g:=g) (by simp[Value.ownBlock,o])) a m.length src.cap (m.flatMap E.enc) L H (by omega) ah (growslice_fits (by omega) ai)
     rw[o,D] at k;cases k;exact⟨d.size,_,rfl,.inr rfl⟩
  obtain⟨g,c,aC,aD⟩:=ax;have ak:f.p=some ⟨g,0,none⟩:=by rw[aC] at V;injection V with J _ _;exact J.symm
  refine⟨af,y.heap,y.drawn,?_,f,V,X f y.heap av ⟨C.size,?_⟩ ?_ ?_⟩
  ·rw[Z,Q,<-aw];exact k
  ·intro b j aE;refine C.block b j ?_;intro F;apply aE;unfold Sl.ai;cases o:s.p with
   |none=>rw[o] at F;simp[Value.ownBlock] at F
   |some a=>rw[o] at F;simp[Value.ownBlock] at F;simp[F]
  ·intro b j;simp[Sl.ai,ak] at j;subst j;rcases aD with d|d
   ·exact .inl d
   ·exact .inr (by omega)
  ·rw[ak];simp[R]
theorem Loop.rule {b:Type}{g:(b->aa->Prop)->b->aa->Prop}(d:Nat->b->aa->Prop)
  (step: ∀K m x a,d m x a->(∀ c e f,c<m->d c e f->K e f)->g K x a) {m:Nat} {x:b} {a:aa} (h:d m x a):Loop g x a:=by
 intro K i
 induction m using Nat.strongRecOn generalizing x a with
 |_ m j=>exact i _ _ (step K m x a h λc e f k l=>j c k l)
theorem Fa {a:Nat}(c:a<=9223372036854775807):J8 J9 (a:Int)=(a:Int):=by
 simp only[J8,IntKind.bits,IntKind.signed];have b:((a:Int)) % ((2:Int)^64)=a:=by omega
 have d: ¬((a:Int)>=(2:Int)^(64-1)):=by omega
 simp only[b];simp;omega
theorem Aa {a:Nat}(b:a<9223372036854775807):J8 J9 ((a:Int)+(1:Int))=((a+1:Nat):Int):=by rw[show((a:Int)+1)=((a+1:Nat):Int) by omega];exact Fa b
theorem SI.mk {b:aa}{a:Q6}{K:J0->Prop}{v:J0}(c:ah b a=some v)(d:K v):SI b a K:=⟨v,c,d⟩
theorem AC.mk {b:aa}{a:Q6}{k:IntKind}{K:Int->Prop}{n:Int}(c:ah b a=some (.int k n))(d:K n):AC k b a K:=⟨n,c,d⟩
theorem Ac.mk {b:aa}{a:Q6}{K:Bool->Prop}{n:Bool}(c:ah b a=some (J3 n))(d:K n):Ac b a K:=⟨n,c,d⟩
theorem AJ.mk {b:aa}{a:Q6}{K:A2P->Prop}{n:A2P}(c:ah b a=some (J7 n))(d:K n):AJ b a K:=⟨n,c,d⟩
theorem AY.mk {b:aa}{a:Q6}{K:Q2->Prop}{n:Q2}(c:ah b a=some (J5 n))(d:K n):AY b a K:=⟨n,c,d⟩
theorem AZ.mk {b:aa}{a:Q6}{K:Sl->Prop}{s:Sl}(c:ah b a=some (J4 s.p s.len s.cap))(d:K s):AZ b a K:=⟨s,c,d⟩
theorem AO {a:aa}{b c:Nat}{d:Array J0}{T:Q7}{fr:Nat×Nat}{v:J0}(e:a[b]? =some (J2 d T fr))(f:d[c]? =some v):ah a ⟨b,c,none⟩=some v:=by rw[Hr e];exact f
theorem AB {a:aa}{b j:Nat}{c:Array J0}{T:Q7}{fr:Nat×Nat}{v:J0}(d:a[b]? =some (J2 c T fr))(e:c[j]? =some v):ah a ((⟨b,0,none⟩:Q6).add j)=some v:=by rw[Bf,AI];exact AO d e
structure Pr where
 key:A2P
 val:A2P
 gone:Bool
deriving DecidableEq
def Pr.agg(x:Pr):J0:= .agg #[J7 x.key,J7 x.val,J3 x.gone]
def Pr.cells(x:Pr):Array J0:= #[J7 x.key,J7 x.val,J3 x.gone]
def BQ:cF Pr where
 enc x:= [J7 x.key,J7 x.val,J3 x.gone]
 w:=3
 len _:=rfl
 pos:=by omega
 one x v a:=by simp at a;rcases a with rfl|rfl|rfl<;>rfl
def ie:cF Sl where
 enc s:= [J4 s.p s.len s.cap]
 w:=1
 len _:=rfl
 pos:=by omega
 one x v a:=by simp at a;subst a;rfl
structure ig where
 v:J0
 one:MC v=true
def jY:cF ig where
 enc s:= [s.v]
 w:=1
 len _:=rfl
 pos:=by omega
 one x v a:=by simp at a;subst a;exact x.one
theorem View.idx {b:Type}{c:cF b}{d:aa}{s:Sl}{l:List b}(v:View c d s l){i:Nat}{x:b}(e:l[i]? =some x){K:Q6->Prop}
  (g: ∀a,s.p=some a->Cells d (a.add (i*c.w)) (c.enc x)->K a):bJ s.p s.len ((i:Nat):Int) K:=by
 obtain⟨a,f,h⟩:=v.cells i x e;have:i<s.len:=by rw[v.len];exact(List.getElem?_eq_some_iff.1 e).1
 exact bJ.mk f this (g a f h)
theorem Cells.pair {b:aa}{a:Q6}{x:Pr}(c:Cells b a (BQ.enc x)):ah b a=some (J7 x.key)/\ah b (a.add 1)=some (J7 x.val)/\ah b (a.add 2)=some (J3 x.gone):=by have d:=c 0 _ rfl;rw[add_zero] at d;exact⟨d,c 1 _ rfl,c 2 _ rfl⟩
theorem Cells.sl {b:aa}{a:Q6}{x:Sl}(c:Cells b a (ie.enc x)):ah b a=some (J4 x.p x.len x.cap):=by have d:=c 0 _ rfl;rwa [add_zero] at d
theorem Cells.val {b:aa}{a:Q6}{x:ig}(c:Cells b a (jY.enc x)):ah b a=some x.v:=by have d:=c 0 _ rfl;rwa [add_zero] at d
theorem ao.pair {a:aa}{T:Q7}{j k:A2P}{l:Bool}{d v:A2P}{g:Bool}{K:Nat->aa->Prop}
  (n: ∀b c,b=a.size->c[b]? =some (J2 #[J7 d,J7 v,J3 g] T (0,0))->Ext a c->c.size=a.size+1->K b c):
  ao a (J2 #[J7 j,J7 k,J3 l] T) λb e=>af e ⟨b,0,none⟩ (J7 d) λf=>af f ((⟨b,0,none⟩:Q6).add 1) (J7 v) λh=>af h ((⟨b,0,none⟩:Q6).add 2) (J3 g) λi=>K b i:=by
 refine ao.mk λe _ o p y=>?_
 refine af.mk o (by simp) λf q r z=>?_
 rw[Bf,Bf];refine af.mk q (by simp) λh s t A=>?_
 refine af.mk s (by simp) λi u w B=>?_
 refine n _ _ rfl (by simpa using u) ?_ (by omega);have m:=(r.trans t).trans w;exact⟨by omega,λb x _=>(m.get b (by omega) (by omega)).trans (p.get b x (by simp))⟩
theorem ao.aZ {k:ar}{P:Q1}{t m T:Q7}{g:Nat}{e:Type}{E:cF e}{x:e}{h:Array J0}(n:h.toList=E.enc x)(o:QE P t T E.w g=true){d:aa}{s:Sl}{l:List e}{K:Sl->aa->Prop}
  (p:Own E T d s l) (q:(l.length+1)*g<=140737488355328) (r:l.length+1<=maxLen)
  (u: ∀a c,Own E T c a (l++ [x])->Mod (λb=>s.ai=some b) d c->(∀ b,a.ai=some b->s.ai=some b\/d.size<=b)->a.p≠none->K a c):
  ao d (J2 h T) λb f=>BI k P (Builtin.append_ #[t,t] m #[J4 s.p s.len s.cap,J4 (some ⟨b,0,none⟩) 1 1]) f λv c=> ∃a:Sl,v=J4 a.p a.len a.cap/\K a c:=by
 refine ao.mk λf _ w i G=>?_
 have y:Own E T f ⟨some ⟨d.size,0,none⟩,1,1⟩ [x]:=Own.lit (E:=E) (l:= [x]) w (by simp[n]) (by simp[maxLen]);refine Fx (s:=s) (src:=⟨some ⟨d.size,0,none⟩,1,1⟩) o (p.ext i) y.view (by simpa using q) (by simpa using r) λa c z A B C=>?_
 refine u a c z ?_ ?_ ?_
 ·exact i.mod.trans A
 ·intro b D;rcases B b D with j|j
  ·exact .inl j
  ·exact .inr (by omega)
 ·intro F;have:=(C.1 F).2;simp at this
theorem View.sub {d:Type}{b:cF d}{e:aa}{s:Sl}{l:List d}(v:View b e s l){lo hi:Nat}(h:lo<=hi)(j:hi<=l.length):
  View b e ⟨BB s.p s.cap lo b.w,hi-lo,s.cap-lo⟩ ((l.take hi).drop lo):=by
 have k:=v.cap;have m:=v.len;refine⟨by simp;omega,by simp;omega,λi x c=>?_⟩;rw[C5,Ek] at c;split at c
 ·rename_i n;obtain⟨a,f,g⟩:=v.cells _ _ c;refine⟨a.add (lo*b.w),?_,?_⟩
  ·unfold BB;simp only[f];rw[if_neg (by omega)];rfl
  ·rw[add_add,<-By];exact g
 ·cases c
theorem Zt {p:Q2}{e f g:Nat}{b:Nat}{len c:Nat}(d:Sl.ai ⟨BB p e f g,len,c⟩=some b):p.map (·.block)=some b:=by
 unfold Sl.ai BB at d;simp only at d;split at d
 ·exact d
 ·cases p with
  |none=>simp at d
  |some a=>simp[aV] at d;simp[d]
def Yields(f:ar)(P:Q1)(h:J0)(l:List Pr)(d:Nat->Bool->(Nat->Prop)->aa->Prop):Prop:=
 ∀i x c a,l[i]? =some x->d i true c a->Eb f P h #[x.agg] a λv e=> ∃g O',v=J3 g/\(∀ b,O' b->c b\/a.size<=b)/\Mod c a e/\d (i+1) g O' e
structure Body (h:aa) (J:Nat->Bool->(Nat->Prop)->aa->Prop):Prop where
 wf: ∀i g O hh,J i g O hh-> ∀b,O b->b<hh.size
 bd: ∀i g O hh h',J i g O hh->Mod (λb=>¬O b/\h.size<=b) hh h'->J i g O h'
def EQ(k:ar)(P:Q1)(fv:J0)(j:Nat->Prop)(m:aa)(l:List Pr):Prop:=
 (∀ b,j b->b<m.size)/\ ∃f d,fv= .func (.func f) #[] d/\(∀ a,(callFunc f (#[]++ #[a]++d)).calc P=some (.enter f (#[]++ #[a]++d)))/\
  ∀(c:aa),(∀ b,j b->c[b]? =m[b]?)-> ∀a e h,MC a=true->(∀ b,j b-> ¬h b)->Body c e->Yields k P a l e->e 0 true h c->
   AA k P f (#[]++ #[a]++d) c λv n=>v=J1 #[]/\ ∃i g O',Mod h c n/\(∀ b,O' b->h b\/c.size<=b)/\e i g O' n/\(g=true->i=l.length)/\i<=l.length
theorem EQ.ak {e:ar}{P:Q1}{fv:J0}{c S':Nat->Prop}{g d:aa}{l:List Pr}(i:EQ e P fv c g l)(h: ∀b,c b->S' b)(j: ∀b,S' b->b<d.size)(k: ∀b,c b->d[b]? =g[b]?):EQ e P fv S' d l:=by obtain⟨_,f,m,n,o,p⟩:=i;refine⟨j,f,m,n,o,λq r s t u v hd=>p q (λb a=>(r b (h b a)).trans (k b a)) s t u v λb a=>hd b (h b a)⟩
theorem EQ.one {a:ar}{P:Q1}{fv:J0}{b:Nat->Prop}{c:aa}{l:List Pr}(d:EQ a P fv b c l):MC fv=true/\jN fv/\XH fv=false:=by obtain⟨_,f,e,rfl,_⟩:=d;exact⟨rfl,by simp[jN],rfl⟩
def vB(x:Pr):iK [.agg [.str,.str,.bool]]:=((x.key,x.val,x.gone,()),())
def vC(l:Nat)(rec:Go.Loop)(c:aa)(d:Nat->Prop)(e:(Nat->Prop)->aa->Prop)(a:aa):Prop:=
 ∃O',(∀ b,O' b->d b\/c.size<=b)/\Mod (λb=>d b\/b=l) c a/\a[l]? =some (.loop {rec with state:= .busy})/\e O' a
theorem Mod.setObj {S:Nat->Prop}{a:aa}{l:Nat}{c:Obj}(d:S l):Mod S a (a.setIfInBounds l c):=
 ⟨by simp,λb _ e=>by rw[DO];intro f;exact e (f▸d)⟩
theorem Cb {a:aa}{l:Nat}{b:Obj}(c:l<a.size):(a.setIfInBounds l b)[l]? =some b:=by simp[c]
theorem XP {O:ar}{P:Q1}{fv:J0}{E:Nat->Prop}{Q a:aa}{l:List Pr}(ah:EQ O P fv E Q l)(R: ∀b,E b->a[b]? =Q[b]?)
  (Inv:Nat->Option (Option Nat)->(Nat->Prop)->aa->Prop) (n:Nat->Prop) (hd: ∀b,E b-> ¬n b)
  {body:iK [.agg [.str,.str,.bool]]->Nat->aa->(aa->Prop)->(Option Nat->aa->Prop)->Prop} {S:aa->Prop} {T:Option Nat->aa->Prop}
  (G: ∀i c n j,Inv i c n j-> ∀b,n b->b<j.size)
  (y: ∀i c n j k,Inv i c n j->Mod (λb=>¬n b/\a.size<=b) j k->Inv i c n k)
  (U:Inv 0 none n a)
  (round: ∀i x m j rec V W,l[i]? =some x->Inv i none m j-> ¬m (a.size+1)->a.size+1<j.size->j[a.size+1]? =some (.loop rec)->rec.state= .ready->
   (∀ k,vC (a.size+1) rec j m (Inv (i+1) none) k->V k)->(∀ o k,vC (a.size+1) rec j m (Inv (i+1) (some o)) k->W o k)->body (vB x) (a.size+1) j V W)
  (fin: ∀O' k,Inv l.length none O' k->Mod n a k-> ¬O' a.size->(∀ b,O' b->n b\/a.size<=b)->k[a.size]? =some (.deferred (some []))->S k)
  (ai: ∀i o O' k,Inv i (some o) O' k->i<=l.length->Mod n a k-> ¬O' a.size->(∀ b,O' b->n b\/a.size<=b)->k[a.size]? =some (.deferred (some []))->T o k):
  XD O P fv [.agg [.str,.str,.bool]] body a S T:=by
 intro rec F H ay aj;obtain⟨ak,f,X,rfl,al,am⟩:=ah;have Y: ∀b,n b->b<a.size:=G _ _ _ _ U;have Z: ∀b,E b->b<a.size:=λb e=>by
  have:=R b e;rw[Fm (ak b e)] at this;exact Ah this
 have I:Ext a ((a.push (.deferred (some []))).push (.loop rec)):=(Mod.push a _).trans (Mod.push _ _);have az:((a.push (.deferred (some []))).push (.loop rec)).size=a.size+2:=by simp
 refine⟨f,_,?_,AA.mono (am ((a.push (.deferred (some []))).push (.loop rec)) (λb e=>(I.get b (Z b e) (by simp)).trans (R b e)) (.func (.yield (a.size+1)) #[] #[])
  (λi g C j=> ∃m:Nat->Prop,(∀ b,C b↔m b\/b=a.size\/b=a.size+1)/\ ¬m a.size/\ ¬m (a.size+1)/\(∀ b,m b->n b\/a.size<=b)/\a.size+2<=j.size/\j[a.size]? =some (.deferred (some []))/\
   match g with
   |true=>j[a.size+1]? =some (.loop rec)/\Inv i none m j
   |false=> ∃o w,j[a.size+1]? =some (.loop w)/\w.state≠ .busy/\w.pending=some (Zh o)/\Inv i (some o) m j)
  (λb=>n b\/b=a.size\/b=a.size+1) rfl ?_ ?_ ?_ ?_) ?_⟩
 ·have an:(do let ab <-Deferred.ofValue (.func (.func f) #[] X) #[.func (.yield (a.size+1)) #[] #[]];invoke ab.target ab.args:Sem Next).calc P=(callFunc f (#[]++ #[.func (.yield (a.size+1)) #[] #[]]++X)).calc P:=rfl;unfold SV;rw[an,al]
 ·intro b e d;have:=Z b e;rcases d with d|d|d
  ·exact hd b e d
  ·omega
  ·omega
 ·constructor
  ·rintro i g C j ⟨m,p,_,_,_,J,_,s⟩ b e;rcases(p b).1 e with d|d|d
   ·cases g
    ·obtain⟨o,w,_,_,_,z⟩:=s;exact G _ _ _ _ z b d
    ·exact G _ _ _ _ s.2 b d
   ·omega
   ·omega
  ·rintro i g C j k ⟨m,p,u,t,A,J,B,s⟩ q;have ac:Mod (λb=>¬m b/\a.size<=b) j k:=q.ak λb _ e=>⟨λd=>e.1 ((p b).2 (.inl d)),by omega⟩
   have ao:k[a.size]? =j[a.size]? :=q.get _ (by omega) λe=>e.1 ((p _).2 (.inr (.inl rfl)))
   have ad:k[a.size+1]? =j[a.size+1]? :=q.get _ (by omega) λe=>e.1 ((p _).2 (.inr (.inr rfl)))
   refine⟨m,p,u,t,A,by have:=q.size;omega,ao.trans B,?_⟩;cases g
   ·obtain⟨o,w,d,h,K,z⟩:=s;exact⟨o,w,ad.trans d,h,K,y _ _ _ _ _ z ac⟩
   ·exact⟨ad.trans s.1,y _ _ _ _ _ s.2 ac⟩
 ·rintro i x C j ap ⟨m,p,u,t,A,J,B,ae,z⟩;refine aj (vB x) j _ ae (round i x m j rec _ _ ap z t (by omega) ae F ?_ ?_)
  ·rintro k ⟨O',r,q,L,M⟩;have N:a.size+1<k.size:=by have:=q.size;omega
   refine⟨_,L,true,λb=>O' b\/b=a.size\/b=a.size+1,rfl,?_,?_,O',λ_=>CM,?_,?_,?_,?_,?_,?_,?_⟩
   ·rintro b (e|e)
    ·rcases r b e with d|d
     ·exact .inl ((p b).2 (.inl d))
     ·exact .inr d
    ·exact .inl ((p b).2 (.inr e))
   ·refine(q.trans (Mod.setObj (.inr rfl))).ak λb _ e=>(p b).2 (e.elim .inl λd=> .inr (.inr d))
   ·intro d;rcases r _ d with h|h
    ·exact u h
    ·omega
   ·intro d;rcases r _ d with h|h
    ·exact t h
    ·omega
   ·intro b e;rcases r _ e with h|h
    ·exact A _ h
    ·exact .inr (by omega)
   ·simp;omega
   ·rw[DO (by omega)];exact(q.get _ (by omega) (by rintro(d|d);exact u d;omega)).trans B
   ·rw[Cb N];cases rec;simp at F H;simp[F,H]
   ·refine y _ _ _ _ _ M (Mod.setObj ⟨?_,by omega⟩);intro d;rcases r _ d with h|h
    ·exact t h
    ·omega
  ·rintro o k ⟨O',r,q,L,M⟩;have N:a.size+1<k.size:=by have:=q.size;omega
   refine⟨_,L,false,λb=>O' b\/b=a.size\/b=a.size+1,rfl,?_,?_,O',λ_=>CM,?_,?_,?_,?_,?_,o,{rec with state:= .done,pending:=some (Zh o)},?_,?_,rfl,?_⟩
   ·rintro b (e|e)
    ·rcases r b e with d|d
     ·exact .inl ((p b).2 (.inl d))
     ·exact .inr d
    ·exact .inl ((p b).2 (.inr e))
   ·refine(q.trans (Mod.setObj (.inr rfl))).ak λb _ e=>(p b).2 (e.elim .inl λd=> .inr (.inr d))
   ·intro d;rcases r _ d with h|h
    ·exact u h
    ·omega
   ·intro d;rcases r _ d with h|h
    ·exact t h
    ·omega
   ·intro b e;rcases r _ e with h|h
    ·exact A _ h
    ·exact .inr (by omega)
   ·simp;omega
   ·rw[DO (by omega)];exact(q.get _ (by omega) (by rintro(d|d);exact u d;omega)).trans B
   ·exact Cb N
   ·simp
   ·refine y _ _ _ _ _ M (Mod.setObj ⟨?_,by omega⟩);intro d;rcases r _ d with h|h
    ·exact t h
    ·omega
 ·refine⟨n,λ_=>CM,λd=>?_,λd=>?_,λb e=> .inl e,by omega,?_,?_⟩;rotate_left 2
  ·rw[PC (by simp)];simp
  ·exact⟨by have aq:a.size+1=(a.push (.deferred (some []))).size:=(by simp);rw[aq];exact PF,y _ _ _ _ _ U I.mod⟩
  ·have:=Y _ d;omega
  ·have:=Y _ d;omega
 ·rintro v h ⟨_,i,g,C,q,aA,⟨m,p,u,t,A,J,B,s⟩,au,av⟩;have af: ∀D,Mod n a (h.setIfInBounds (a.size+1) (.loop D)):=λD=>by
   refine⟨by simp;omega,λb e aw=>?_⟩;rw[DO (by omega)];exact(q.get b (by omega) (by rintro(d|d|d);exact aw d;omega;omega)).trans (I.get b e (by simp))
  have ag: ∀D,(h.setIfInBounds (a.size+1) (.loop D))[a.size]? =some (.deferred (some [])):=λD=>by
   rw[DO (by omega)];exact B
  cases g
  ·obtain⟨o,w,d,K,ax,z⟩:=s;exact⟨w,d,K,.inr ⟨o,ax,ai i o m _ (y _ _ _ _ _ z (Mod.setObj ⟨t,by omega⟩)) av (af _) u A (ag _)⟩⟩
  ·refine⟨rec,s.1,by simp[F],.inl ⟨H,fin m _ ?_ (af _) u A (ag _)⟩⟩;have:=au rfl;subst this;exact y _ _ _ _ _ s.2 (Mod.setObj ⟨t,by omega⟩)
open Go Ieee
abbrev fD:Format:=Ieee.double
theorem AK5(s:Bool)(m u v:Nat):signed s m (u+v)=signed s m u*(2:Int)^v:=by
 unfold signed;rw[NX,NX,GW,<-Ft];split
 ·push_cast;rw[Int.neg_mul]
 ·push_cast;rfl
def DV(b:Datum)(c:Int):Prop:= ∃s m,∃a:Nat,b= .number s m (-(a:Int))/\signed s m 0=c*(2:Int)^a
def VR(b:Nat)(a:Int):Prop:=DV (fD.read b) a
theorem OI(s:Bool)(m u:Nat):signed s m u=signed s m 0*(2:Int)^u:=by have:=AK5 s m 0 u;rwa [AI] at this
theorem pow_pos(a:Nat):(0:Int)<(2:Int)^a:=Int.pow_pos (by decide)
theorem AHs(a b:Int)(c:Nat):compare (a*(2:Int)^c) (b*(2:Int)^c)=compare a b:=by have d:=pow_pos c;simp only[compare,compareOfLessAndEq];have e:(a*2^c<b*2^c)↔a<b:=Int.mul_lt_mul_right d;have f:(a*2^c=b*2^c)↔a=b:=Int.mul_eq_mul_right_iff (by omega);by_cases g:a<b<;>by_cases c2:a=b<;>simp[e,f,g,c2]
theorem DV.order {x d:Datum}{e m:Int}(f:DV x e)(h:DV d m):x.order d=some (compare e m):=by
 obtain⟨s,a,c,rfl,i⟩:=f;obtain⟨t,b,l,rfl,g⟩:=h;simp only[Datum.order];congr 1;have j:(-(c:Int)-min (-(c:Int)) (-(l:Int))).toNat=max c l-c:=by omega
 have k:(-(l:Int)-min (-(c:Int)) (-(l:Int))).toNat=max c l-l:=by omega
 rw[j,k,OI s,OI t,i,g,Is,Is,<-It,<-It,show c+(max c l-c)=max c l by omega,show l+(max c l-l)=max c l by omega,AHs]
theorem VR.order {x a:Nat}{b m:Int}(c:VR x b)(d:VR a m):fD.order x a=some (compare b m):=DV.order c d
theorem cmp_eq {a m:Int}:(compare a m= .eq)↔a=m:=by simp only[compare,compareOfLessAndEq];by_cases b:a<m<;>by_cases c2:a=m<;>simp[b,c2]<;>omega
theorem xL(b:Bool){a:Nat}(c:a<fD.signWeight):
  fD.read (fD.word b a)=if a<fD.binade then .number b a fD.leastPlace else if a<fD.infRung then .number b (fD.binade+a % fD.binade) (fD.leastPlace+(a / fD.binade-1:Nat)) else if a=fD.infRung then .infinity b else .nan b (a-fD.infRung):=by
 have d:0<fD.signWeight:=HE _;have e:(fD.word b a / fD.signWeight % 2==1)=b:=by
  unfold Format.word;cases b
  ·simp[Nat.div_eq_of_lt c]
  ·simp[Nat.add_div_left _ d,Nat.div_eq_of_lt c]
 have f:fD.word b a % fD.signWeight=a:=by
  unfold Format.word;cases b
  ·simp[As c]
  ·simp[As c]
 unfold Format.read;simp only[e,f]
theorem xM(s:Bool)(u:Nat):signed s 0 u=0:=by cases s<;>simp[signed]
theorem oB:fD.binade=4503599627370496:=by decide
theorem rf:fD.infRung=9218868437227405312:=by decide
theorem xN:fD.signWeight=9223372036854775808:=by decide
theorem mw:fD.leastPlace= -1074:=by decide
theorem ATZ:fD.fractionBits=52:=rfl
theorem ARA(a:Bool):VR (fD.word a 0) 0:=by refine⟨a,0,1074,?_,by rw[xM,Int.zero_mul]⟩;rw[xL a (by rw[xN];decide),if_pos (by rw[oB];decide),mw];rfl
theorem Xw {v:Nat}(f:0<v)(K:Nat):(v*2^K).log2=v.log2+K:=by
 have a:v≠0:=by omega
 have c:0<2^K:=HE K;have b:v*2^K≠0:=Nat.mul_ne_zero a (by omega);have d:2^v.log2<=v:=(Sf a).1 (A0 _);have e:v<2^(v.log2+1):=(Of a).1 (Hj _);have g:v.log2+K<=(v*2^K).log2:=by rw[Sf b,GW];exact AN _ d
 have h:(v*2^K).log2<v.log2+1+K:=by rw[Of b,GW];exact Sh e c
 omega
theorem AP7(b:Bool)(a:Nat):Toward.even.cut b a 0=a:=by simp[Toward.cut,Nat.mod_one]
theorem ANU(b:Toward)(c:Bool){M a:Nat}(d:0<M):b.cut c (M*2^a) a=M:=by
 unfold Toward.cut;have hd:min a ((M*2^a).log2+2)=a:=by rw[Xw d];omega
 have e:0<2^a:=HE a;simp only[hd,Nat.one_shiftLeft,Nat.mul_mod_left,Nat.mul_div_cancel _ e];cases b
 ·have f: ¬(2^a=0):=by omega
  simp[f]
 all_goals simp
theorem APW {L M:Nat}(a:L<=52)(b:M<9007199254740992):min ((L+1022)*4503599627370496+M) 9218868437227405312=(L+1022)*4503599627370496+M:=by omega
theorem ASP {L M:Nat}(a:4503599627370496<=M): ¬(L+1022)*4503599627370496+M<4503599627370496:=by omega
theorem ASd {L M:Nat}(a:L<=52)(b:M<9007199254740992):(L+1022)*4503599627370496+M<9218868437227405312:=by omega
theorem xO {L M:Nat}(a:4503599627370496<=M)(b:M<9007199254740992):((L+1022)*4503599627370496+M) % 4503599627370496=M-4503599627370496/\((L+1022)*4503599627370496+M) / 4503599627370496=L+1023:=by omega
theorem ASU {M:Nat}(a:4503599627370496<=M):4503599627370496+(M-4503599627370496)=M:=by omega
theorem ASl {L:Nat}(a:L<=52):(-1074:Int)+((L+1023-1:Nat):Int)=(L:Int)-52:=by omega
theorem AS7 {L:Nat}(a:L<=52):(L:Int)-52= -((52-L:Nat):Int):=by omega
theorem ASn {L M:Nat}(a:L<=52)(b:M<9007199254740992):(L+1022)*4503599627370496+M<9223372036854775808:=by omega
theorem AEj(a:Bool){v K:Nat}(i:0<v)(j:v<9007199254740992):VR (fD.nearest a (v*2^K) (-(K:Int))) (if a then -(v:Int) else v):=by
 have e:v≠0:=by omega
 have k:=Xw i K;have b:v.log2<=52:=by have:v.log2<53:=(Of e).2 (by simpa using j);omega
 have l:2^v.log2<=v:=(Sf e).1 (A0 _);have m:v<2^(v.log2+1):=(Of e).1 (Hj _);have n: ¬v*2^K=0:=Nat.mul_ne_zero e (by have:=HE K;omega);generalize u:v.log2=L at*
 have f:4503599627370496<=v*2^(52-L):=by have c:2^L*2^(52-L)<=v*2^(52-L):=AN _ l;rw[<- GW,show L+(52-L)=52 by omega] at c;exact c
 have d:v*2^(52-L)<9007199254740992:=by have c:v*2^(52-L)<2^(L+1)*2^(52-L):=Sh m (HE _);rw[<- GW,show L+1+(52-L)=53 by omega] at c;exact c
 have o:fD.nearest a (v*2^K) (-(K:Int))=fD.word a ((L+1022)*4503599627370496+v*2^(52-L)):=by
  unfold Format.nearest;rw[if_neg n];have p:max (-(K:Int)+((v*2^K).log2:Nat)-(fD.fractionBits:Nat)) fD.leastPlace=(L:Int)-52:=by rw[k,mw,ATZ];push_cast;omega
  simp only[p];have q:Toward.even.cut a ((v*2^K) <<< (-(K:Int)-((L:Int)-52)).toNat) (((L:Int)-52)- -(K:Int)).toNat=v*2^(52-L):=by
   by_cases w:K+L<=52
   ·have g:(((L:Int)-52)- -(K:Int)).toNat=0:=by omega
    have h:(-(K:Int)-((L:Int)-52)).toNat=52-L-K:=by omega
    rw[g,h,AP7,NX,Ft,<-GW];congr 2;omega
   ·have g:(((L:Int)-52)- -(K:Int)).toNat=L+K-52:=by omega
    have h:(-(K:Int)-((L:Int)-52)).toNat=0:=by omega
    have r:v*2^K=(v*2^(52-L))*2^(L+K-52):=by rw[Ft,<-GW];congr 2;omega
    rw[g,h,KB,r,ANU _ _ (by omega)]
  have s:(((L:Int)-52)-fD.leastPlace).toNat=L+1022:=by rw[mw];omega
  rw[q,s,oB,rf,APW b d]
 rw[o];have t:(L+1022)*4503599627370496+v*2^(52-L)<fD.signWeight:=by rw[xN];exact ASn b d
 refine⟨a,v*2^(52-L),52-L,?_,?_⟩
 ·rw[xL a t,oB,rf,mw,if_neg (ASP f),if_pos (ASd b d),(xO f d).1,(xO f d).2,ASU f,ASl b,AS7 b]
 ·unfold signed;rw[KB];cases a
  ·simp
  ·simp[Int.neg_mul]
theorem APs {s:Bool}{a:Nat}{K:Nat}{b:Int}(c:signed s a 0=b*(2:Int)^K)(j:b.natAbs<9007199254740992):VR (fD.write (.number s a (-(K:Int)))) b:=by
 show VR (fD.nearest s a (-(K:Int))) b;have h:=pow_pos K;have k:(2:Int)^K=((2^K:Nat):Int):=by push_cast;rfl
 by_cases l:b=0
 ·subst l;have e:a=0:=by unfold signed at c;rw[KB,Int.zero_mul] at c;split at c<;>omega
  subst e;have f:fD.nearest s 0 (-(K:Int))=fD.word s 0:=by unfold Format.nearest;rw[if_pos rfl]
  rw[f];exact ARA s
 ·have e:a=b.natAbs*2^K/\(if s then -(b.natAbs:Int) else b.natAbs)=b:=by
   unfold signed at c;rw[KB] at c;have i:(a:Int).natAbs=(b*2^K).natAbs:=by rw[<- c];split<;>simp
   have f:(b*2^K).natAbs=b.natAbs*2^K:=by rw[Int.natAbs_mul,k,On]
   refine⟨by rw[f] at i;simpa using i,?_⟩;split at c
   ·rename_i g;rw[if_pos g];have:b*(2:Int)^K<=0:=by omega
    have:b<=0:=by
     rcases Int.lt_or_le 0 b with d|d
     ·have:=Int.mul_pos d h;omega
     ·exact d
    omega
   ·rename_i g;rw[if_neg g];have:0<=b*(2:Int)^K:=by omega
    have:0<=b:=by
     rcases Int.lt_or_le b 0 with d|d
     ·have:=Int.mul_neg_of_neg_of_pos d h;omega
     ·exact d
    omega
  rw[e.1];have:=AEj s (v:=b.natAbs) (K:=K) (by omega) j;rw[e.2] at this;exact this
theorem AIs(t:Int):signed (decide (t<0)) t.natAbs 0=t:=by
 unfold signed;rw[KB];split
 ·rename_i a;simp at a;omega
 ·rename_i a;simp at a;omega
theorem DV.sum {x e:Datum}{d m:Int}(i:DV x d)(j:DV e m)(k:(d+m).natAbs<9007199254740992): ∃f,x.sum e=some f/\VR (fD.write f) (d+m):=by
 obtain⟨s,a,c,rfl,n⟩:=i;obtain⟨t,b,l,rfl,g⟩:=j;refine⟨_,rfl,?_⟩;have o:min (-(c:Int)) (-(l:Int))= -((max c l:Nat):Int):=by omega
 have p:(-(c:Int)-min (-(c:Int)) (-(l:Int))).toNat=max c l-c:=by omega
 have q:(-(l:Int)-min (-(c:Int)) (-(l:Int))).toNat=max c l-l:=by omega
 have r:signed s a (-(c:Int)-min (-(c:Int)) (-(l:Int))).toNat+signed t b (-(l:Int)-min (-(c:Int)) (-(l:Int))).toNat=(d+m)*(2:Int)^(max c l):=by rw[p,q,OI s,OI t,n,g,Is,Is,<-It,<-It,show c+(max c l-c)=max c l by omega,show l+(max c l-l)=max c l by omega,Int.add_mul]
 simp only[r];rw[o];generalize u:(d+m)*(2:Int)^(max c l)=T at*
 refine APs ?_ k;rw[u];split
 ·rename_i h;rw[h];exact(xM _ _).trans (by rw[<- h])
 ·exact(AIs T)
theorem ANg {b:Nat}{s:Bool}{m:Nat}{i:Int}(a:fD.read b= .number s m i):i<=0\/4503599627370496<=m:=by
 unfold Format.read at a;simp only[oB,rf,mw] at a;split at a
 ·injection a with _ _ c;exact .inl (by omega)
 ·split at a
  ·injection a with _ d _;exact .inr (by omega)
  ·split at a<;>cases a
theorem AKY(s:Bool)(m u:Nat):(signed s m u).natAbs=m*2^u:=by
 unfold signed;rw[NX];split
 ·rw[Int.natAbs_neg,On]
 ·rw[On]
theorem VR.of_eq {x k:Nat}{m:Int}(o:VR k m)(v:m.natAbs<4503599627370496)(c:fD.order x k=some .eq):VR x m:=by
 obtain⟨t,b,l,p,g⟩:=o;unfold Format.order at c;rw[p] at c;unfold VR;cases e:fD.read x with
 |nan s f=>rw[e] at c;simp[Datum.order] at c
 |infinity s=>rw[e] at c;cases s<;>simp[Datum.order] at c
 |number s a i=>
  rw[e] at c;simp only[Datum.order,BE] at c;rw[cmp_eq] at c;by_cases q:i<=0
  ·refine⟨s,a,(-i).toNat,by rw[show -(((-i).toNat:Nat):Int)=i by omega],?_⟩;generalize w:(-i).toNat=d;have h:(i-min i (-(l:Int))).toNat=max d l-d:=by omega
   have j:(-(l:Int)-min i (-(l:Int))).toNat=max d l-l:=by omega
   rw[h,j,OI s,OI t,g,Is,<-It,show l+(max d l-l)=max d l by omega] at c;refine Int.eq_of_mul_eq_mul_right (a:=(2:Int)^(max d l-d)) (by have:=pow_pos (max d l-d);omega) ?_;rw[c,Is,<-It,show d+(max d l-d)=max d l by omega]
  ·exfalso;have y:=(ANg e).resolve_left q;have h:(i-min i (-(l:Int))).toNat=i.toNat+l:=by omega
   have j:(-(l:Int)-min i (-(l:Int))).toNat=0:=by omega
   rw[h,j,g] at c;have n:=congrArg Int.natAbs c;have r:(2:Int)^l=((2^l:Nat):Int):=by push_cast;rfl
   rw[AKY,Int.natAbs_mul,r,On,GW,<-Ft] at n;have z:a*2^i.toNat=m.natAbs:=Nat.eq_of_mul_eq_mul_right (HE l) n;have u:1<=2^i.toNat:=HE _;have A:a*1<=a*2^i.toNat:=Nat.mul_le_mul_left _ u;omega
theorem BI.run {A:ar}{P:Q1}{s:Sem J0}{h:aa}{K:A2O}{v:J0}(b: ∀a,s.run P a= .ok v a)(c:K v h):BI A P s h K:=λd=>⟨v,h,d,b _,c⟩
section
variable {A : ar} {P : Q1} {t : Q7} {o1 o2 : Operand} {x y : Nat} {h : aa} {K : A2O}
end
open Go
theorem toList_inj {a b:A2P}:(a.toList==b.toList)=decide (a=b):=by rw[ByteArray.toList_eq,ByteArray.toList_eq];rw[Fc];simp[My,<-Array.toList_inj]
theorem Ca {a b:A2P}:bR a b=decide (a=b):=toList_inj
theorem Qp: ∀(a:List UInt8),Op.bytesLess a a=false
 | []=>rfl
 |a::x=>by simp[Op.bytesLess,Qp x]
theorem lW: ∀(a b:List UInt8),Op.bytesLess a b=false->Op.bytesLess b a=false->a=b
 | [],[],_,_=>rfl
 | [],_::_,c,_=>by simp[Op.bytesLess] at c
 |_::_,[],_,c=>by simp[Op.bytesLess] at c
 |a::x,b::f,d,e=>by
  simp only[Op.bytesLess,Hk,A07,decide_eq_false_iff_not,beq_eq_false_iff_ne] at d e;have g:a=b:=by have h:=d.1;have i:=e.1;exact UInt8.le_antisymm (UInt8.not_lt.1 i) (UInt8.not_lt.1 h)
  subst g;rw[lW x f (d.2.resolve_left (by simp)) (e.2.resolve_left (by simp))]
theorem TY: ∀(a b c:List UInt8),Op.bytesLess a b=true->Op.bytesLess b c=true->Op.bytesLess a c=true
 |_,[],_,f,_=>by simp[Op.bytesLess] at f
 |_,_::_,[],_,f=>by simp[Op.bytesLess] at f
 | [],_::_,_::_,_,_=>by simp[Op.bytesLess]
 |a::x,b::g,c::z,e,d=>by
  simp only[Op.bytesLess,DA,A4,decide_eq_true_eq,beq_iff_eq] at e d ⊢;rcases e with e|⟨rfl,e⟩
  ·rcases d with d|⟨rfl,d⟩
   ·exact .inl (UInt8.lt_trans e d)
   ·exact .inl e
  ·rcases d with d|⟨rfl,d⟩
   ·exact .inl d
   ·exact .inr ⟨rfl,TY x g z e d⟩
theorem CZ(a:A2P):aO a a=false:=Qp _
theorem Da {a b c:A2P}(d:aO a b=true)(e:aO b c=true):aO a c=true:=TY _ _ _ d e
theorem Ny {a b:A2P}(d:aO a b=false)(e:aO b a=false):a=b:=by
 have:=lW _ _ d e;have c:bR a b=true:=by simp[bR,this]
 rw[Ca] at c;simpa using c
theorem OQ {a b:A2P}(c:aO a b=true):aO b a=false:=by
 cases d:aO b a
 ·rfl
 ·have:=Da c d;rw[CZ] at this;cases this
theorem Lj {a b:A2P}(c:aO a b=true):a≠b:=by rintro rfl;rw[CZ] at c;cases c
theorem nR {a b c:A2P}(d:aO a b=true)(f:aO c b=false):aO a c=true:=by
 cases e:aO b c
 ·rw[Ny f e];exact d
 ·exact Da d e
theorem ZT {a b c:A2P}(e:aO b a=false)(d:aO c b=false):aO c a=false:=by
 cases f:aO c a
 ·rfl
 ·have:=nR f e;rw[this] at d;cases d
theorem vX: ∀(a b:List UInt8),Op.bytesLess a b=decide (a<b)
 | [],[]=>by simp[Op.bytesLess]
 | [],_::_=>by simp[Op.bytesLess]
 |_::_,[]=>by simp[Op.bytesLess]
 |a::x,b::c=>by
  simp only[Op.bytesLess,vX x c,A0f];by_cases d:a<b<;>by_cases e:a=b<;>simp[d,e]
theorem VT(a b:A2P):aO a b=decide (a.data.toList<b.data.toList):=by simp[aO,ByteArray.toList_eq,vX]
def IW:cF A2P where
 enc x:= [.string x]
 w:=1
 len _:=rfl
 pos:=by omega
 one x v a:=by simp at a;subst a;rfl
def IJ:cF Int where
 enc x:= [.int J9 x]
 w:=1
 len _:=rfl
 pos:=by omega
 one x v a:=by simp at a;subst a;rfl
theorem Cells.str {b:aa}{a:Q6}{x:A2P}(c:Cells b a (IW.enc x)):ah b a=some (.string x):=by have d:=c 0 _ rfl;rwa [add_zero] at d
theorem Cells.int {b:aa}{a:Q6}{x:Int}(c:Cells b a (IJ.enc x)):ah b a=some (.int J9 x):=by have d:=c 0 _ rfl;rwa [add_zero] at d
theorem Own.lt {c:Type}{e:cF c}{T:Q7}{d:aa}{s:Sl}{l:List c}(f:Own e T d s l){b:Nat}(a:s.ai=some b):b<d.size:=by
 rcases f.row with⟨rfl,_⟩|⟨g,j,h,i,_⟩
 ·simp[Sl.ai] at a
 ·simp[Sl.ai,h] at a;subst a;exact Ah i
def Rw(a:A2P)(v:J0):List (A2P×J0)->List (A2P×J0)
 | []=> [(a,v)]
 |p::m=>if p.1=a then(a,v)::m else p::Rw a v m
def Mx(a:A2P)(m:List (A2P×J0)):Option J0:=(m.find? λp=>decide (p.1=a)).map (·.2)
def gT(a:A2P)(m:List (A2P×J0)):List (A2P×J0):=m.filter λp=> !decide (p.1=a)
theorem GY(a:A2P)(p:A2P×J0)(m:List (A2P×J0)):Mx a (p::m)=if p.1=a then some p.2 else Mx a m:=by unfold Mx;rw[DE];by_cases b:p.1=a<;>simp[b]
theorem vY(a:A2P)(v:J0)(c:A2P): ∀m,Mx c (Rw a v m)=if a=c then some v else Mx c m
 | []=>by unfold Rw;rw[GY]
 |p::m=>by
  unfold Rw;split
  ·rename_i d;rw[GY,GY];by_cases b:a=c<;>simp[d,b]
  ·rename_i d;rw[GY,GY,vY a v c m];by_cases b:a=c
   ·subst b;simp[d]
   ·simp[b]
structure dT (es:Array MapEntry) (clock:Nat) (m:List (A2P×J0)):Prop where
 same:es.toList.map (λe=>(e.key,e.val))=m.map λp=>(Value.string p.1,p.2)
 stamped:MapKept.Stamped es clock
 size:es.size<=maxLen
 keys: ∀p∈m,p.1.size<=maxLen
def PK(d:aa)(b:Nat)(m:List (A2P×J0)):Prop:= ∃a c,d[b]? =some (.map a c)/\dT a c m
theorem PK.mod {a c:aa}{b:Nat}{m:List (A2P×J0)}{d:Nat->Prop}(M:PK a b m)(x:Mod d a c)(e: ¬d b):PK c b m:=by obtain⟨f,g,h,i⟩:=M;exact⟨f,g,x.ai h e,i⟩
theorem PK.lt {a:aa}{b:Nat}{m:List (A2P×J0)}(M:PK a b m):b<a.size:=by obtain⟨d,e,c,f⟩:=M;exact Ah c
theorem PK.empty {a:aa}{b c:Nat}(d:a[b]? =some (.map #[] c)):PK a b []:=⟨#[],c,d,rfl,MapKept.stamped_empty c,by simp,by simp⟩
theorem dT.len {a:Array MapEntry}{b:Nat}{m:List (A2P×J0)}(M:dT a b m):a.size=m.length:=by rw[<- DQ];have:=congrArg List.length M.same;simpa using this
theorem dT.keysOf {a:Array MapEntry}{b:Nat}{m:List (A2P×J0)}(M:dT a b m):a.toList.map (·.key)=m.map λp=>Value.string p.1:=by have:=congrArg (List.map Prod.fst) M.same;simpa [AT,FA] using this
theorem dT.nodup {b:Array MapEntry}{c:Nat}{m:List (A2P×J0)}(M:dT b c m):(m.map (·.1)).Nodup:=by
 have a:=M.stamped.2.2;rw[M.keysOf] at a;have d:(m.map λp=>Value.string p.1)=(m.map (·.1)).map Value.string:=by simp
 rw[d] at a;exact(List.pairwise_map.1 a).imp λe f=>e (congrArg _ f)
theorem VO(a:A2P)(v:J0): ∀(c:List MapEntry) (m:List (A2P×J0)) (i:Nat),(c.map λe=>(e.key,e.val))=(m.map λp=>(Value.string p.1,p.2))->
  (Instr.findNow .string (.string a) c i=some none/\Mx a m=none/\Rw a v m=m++ [(a,v)]/\gT a m=m/\ ∀e∈c,e.key≠ .string a)\/
  ∃d u,Instr.findNow .string (.string a) c i=some (some (i+d,u))/\Mx a m=some u/\(∃ e,c[d]? =some e/\e.key= .string a)/\((c.modify d λe=> {e with key:= .string a,val:=v}).map λe=>(e.key,e.val))=(Rw a v m).map (λp=>(Value.string p.1,p.2))/\
   ((m.map (·.1)).Nodup->((c.eraseIdx d).map λe=>(e.key,e.val))=(gT a m).map λp=>(Value.string p.1,p.2))
 | [],[],i,_=> .inl ⟨rfl,rfl,rfl,rfl,by simp⟩
 | [],_::_,_,h=>by simp at h
 |_::_,[],_,h=>by simp at h
 |e::c,p::m,i,h=>by
  simp only[B9,G3,LO] at h;obtain⟨⟨j,l⟩,n⟩:=h;have o:Instr.sameNow .string (.string a) e.key=some (decide (a=p.1)):=by rw[j];show some (a==p.1)=_;congr 1;rw[Fc,MapKept.bytes_beq];simp
  by_cases b:p.1=a
  ·refine .inr ⟨0,e.val,?_,?_,⟨e,rfl,by rw[j,b]⟩,?_,?_⟩
   ·unfold Instr.findNow;rw[o,decide_eq_true b.symm];rfl
   ·rw[GY,if_pos b,l]
   ·unfold Rw;rw[if_pos b];simp[n]
   ·intro g;have g:=List.nodup_cons.1 g;simp only[List.eraseIdx_zero,List.tail_cons];rw[n];congr 1;unfold gT;rw[AS];simp only[b,decide_true,Lq,Cp,if_false];refine(List.filter_eq_self.2 λC w=>?_).symm;simp only[CI,decide_eq_false_iff_not];rintro rfl;exact g.1 (by show p.1∈_;rw[b];exact IN (f:=Prod.fst) w)
  ·rcases VO a v c m (i+1) n with⟨q,r,s,k,y⟩|⟨d,u,q,r,⟨z,s,A⟩,B,k⟩
   ·refine .inl ⟨?_,?_,?_,?_,?_⟩
    ·unfold Instr.findNow;rw[o,decide_eq_false (λe=>b e.symm)];exact q
    ·rw[GY,if_neg b];exact r
    ·unfold Rw;rw[if_neg b,s];rfl
    ·unfold gT at k ⊢;rw[AS];simp[b];simpa using k
    ·intro x t;rcases List.mem_cons.1 t with rfl|t
     ·rw[j];intro e;injection e with e;exact b e
     ·exact y x t
   ·refine .inr ⟨d+1,u,?_,?_,⟨z,by simpa using s,A⟩,?_,?_⟩
    ·unfold Instr.findNow;rw[o,decide_eq_false (λe=>b e.symm)];rw[show i+(d+1)=i+1+d by omega];exact q
    ·rw[GY,if_neg b];exact r
    ·unfold Rw;rw[if_neg b];simp[j,l,B]
    ·intro g;have g:=List.nodup_cons.1 g;have:=k g.2;unfold gT at this ⊢;rw[AS];simp[b,j,l];simpa using this
section
variable {P : Q1}
theorem JS {a:Q7}(c:P.underlying a=some .string)(d:Bool)(e:Nat)(f:A2P)(b:World):(Instr.checkKey d (e+1) a (.string f)).run P b= .ok () b:=by simp[Instr.checkKey,BM c]
theorem OO {g:ar}{t h i:Q7}{z:J0}(j:P.underlying t=some (.map h i))(c:P.underlying h=some .string)(n:(zeroValue i).calc P=some z){a:aa}{b:Nat}{m:List (A2P×J0)}{d:A2P}{K:A2O}
  (M:PK a b m) (o:K ((Mx d m).getD z) a):BI g P (Instr.lookup t (.map (some b)) (.string d) false) a K:=by
 intro k;refine⟨_,a,k,?_,o⟩;obtain⟨p,v,q,s⟩:=M;have l:=MapKept.run_getObj_map (P:=P) (w:=g.at a k) (r:=b) q;rcases VO d z p.toList m 0 s.same with⟨e,f,_⟩|⟨x,u,e,f,_,_⟩
 ·simp[Instr.lookup,BM j,l,JS c,Instr.findKey,BM c,e,f,Result.andThen,Df n]
 ·simp[Instr.lookup,BM j,l,JS c,Instr.findKey,BM c,e,f,Result.andThen]
theorem vZ {b:A2P}{v:J0}: ∀ {m:List (A2P×J0)} {p:A2P×J0},p∈Rw b v m->p.1=b\/p∈m
 | [],p,a=>by simp[Rw] at a;exact .inl (by rw[a])
 |q::m,p,a=>by
  unfold Rw at a;split at a
  ·rcases List.mem_cons.1 a with rfl|a
   ·exact .inl rfl
   ·exact .inr (AF _ a)
  ·rcases List.mem_cons.1 a with rfl|a
   ·exact .inr Cl
   ·exact(vZ a).imp id (AF _)
theorem w6 {g:ar}{t s I:Q7}(y:P.underlying t=some (.map s I))(h:P.underlying s=some .string){d:aa}{b:Nat}{m:List (A2P×J0)}{a:A2P}{v:J0}{K:aa->Prop}
  (M:PK d b m) (J:a.size<=maxLen) (U:m.length<maxLen) (z: ∀i,PK i b (Rw a v m)->Mod (λc=>c=b) d i->i.size=d.size->K i):gq g P (Instr.mapUpdate t (.map (some b)) (.string a) v) d K:=by
 intro f;obtain⟨j,l,n,e⟩:=M;have A:=Ah n;have B:=MapKept.run_getObj_map (P:=P) (w:=g.at d f) (r:=b) n;have C: ∀k,(setObj b k).run P (g.at d f)= .ok () (g.at (d.setIfInBounds b k) f):=λk=>MapKept.run_setObj_map (P:=P) (w:=g.at d f) k n
 have D: ∀p∈Rw a v m,p.1.size<=maxLen:=λp L=>(vZ L).elim (λd=>by rw[d];exact J) (e.keys p)
 have V:=e.len;rcases VO a v j.toList m 0 e.same with⟨o,N,q,_,O⟩|⟨E,u,o,N,⟨Q,q,F⟩,R,_⟩
 ·refine⟨d.setIfInBounds b (.map (j.push {key:= .string a,val:=v,born:=l}) (l+1)),f,?_,z _ ⟨_,_,Cb A,?_,MapKept.stamped_push e.stamped O,by simp;omega,D⟩ (Mod.setObj rfl) (by simp)⟩
  ·simp[Instr.mapUpdate,BM y,B,JS h,Instr.findKey,BM h,o,Result.andThen,C]
  ·rw[q];simp[e.same]
 ·have G:j[E]? =some Q:=by simpa using q
  refine⟨d.setIfInBounds b (.map (j.modify E λe=> {e with key:= .string a,val:=v}) l),f,?_,z _ ⟨_,_,Cb A,?_,MapKept.stamped_modify e.stamped _ _ (λ_ _=>rfl) (λx _ H=>?_),by simpa using e.size,D⟩ (Mod.setObj rfl) (by simp)⟩
  ·have S: ∀w,(Instr.keyThatStays (.string a) (.string a)).run P w= .ok (.string a) w:=λw=>by
    have T:(a==a)=true:=(MapKept.bytes_beq a a).2 rfl;simp[Instr.keyThatStays,Instr.sameBits,T]
   simp[Instr.mapUpdate,BM y,B,JS h,Instr.findKey,BM h,o,G,F,S,Result.andThen,C]
  ·rw[Hn];exact R
  ·rw[G] at H;cases H;exact F.symm
theorem w7 {g:ar}{t l D E:Q7}(v:P.underlying t=some (.map l D))(h:P.underlying l=some .string){a:aa}{b:Nat}{m:List (A2P×J0)}{i:A2P}{K:A2O}
  (M:PK a b m) (x: ∀j,PK j b (gT i m)->Mod (λc=>c=b) a j->j.size=a.size->K (.tuple #[]) j):BI g P (Builtin.delete_ #[t,l] E #[.map (some b),.string i]) a K:=by
 intro e;obtain⟨f,y,n,d⟩:=M;have z:=Ah n;have A:=MapKept.run_getObj_map (P:=P) (w:=g.at a e) (r:=b) n;have B: ∀k,(setObj b k).run P (g.at a e)= .ok () (g.at (a.setIfInBounds b k) e):=λk=>MapKept.run_setObj_map (P:=P) (w:=g.at a e) k n
 have C: ∀p∈gT i m,p.1.size<=maxLen:=λp F=>d.keys p (List.mem_filter.1 F).1
 rcases VO i (.bool true) f.toList m 0 d.same with⟨o,G,_,q,_⟩|⟨s,u,o,G,⟨H,I,N⟩,_,q⟩
 ·refine⟨_,a.setIfInBounds b (.map f y),e,?_,x _ ⟨_,_,Cb z,by rw[q];exact d.same,d.stamped,d.size,C⟩ (Mod.setObj rfl) (by simp)⟩;simp[Builtin.delete_,BM v,A,JS h,Instr.findKey,BM h,o,Result.andThen,B]
 ·have J:f[s]? =some H:=by simpa using I
  refine⟨_,a.setIfInBounds b (.map (f.eraseIdxIfInBounds s) y),e,?_,x _ ⟨_,_,Cb z,?_,MapKept.stamped_erase d.stamped _,?_,C⟩ (Mod.setObj rfl) (by simp)⟩
  ·simp[Builtin.delete_,BM v,A,JS h,Instr.findKey,BM h,o,Result.andThen,B]
  ·have L:=(Array.getElem?_eq_some_iff.1 J).1;rw[Array.eraseIdxIfInBounds,dif_pos L,A0i];exact q d.nodup
  ·have:(f.eraseIdxIfInBounds s).size<=f.size:=by unfold Array.eraseIdxIfInBounds;split<;>simp
   have:=d.size;omega
end
def kS(_:J0):Option (DataW Unit×List MemPlace):=some (.nil,[])
theorem w8 {a:Type}(x:Lit×DataW a): ∀l:List (Lit×DataW a),(DataW.insert x l).Perm (x::l)
 | []=>by simp[DataW.insert]
 |y::b=>by
  unfold DataW.insert;split
  ·exact FF _
  ·exact((w8 x b).cons y).trans (List.Perm.swap x y b)
theorem sorted_perm {a:Type}: ∀l:List (Lit×DataW a),(l.foldr DataW.insert []).Perm l
 | []=>FF _
 |x::b=>(w8 x _).trans ((sorted_perm b).cons x)
theorem AKh {P:Q1}{kt:Q7}(j:P.underlying kt=some .string){w:World}{b:Nat}{m:List (A2P×J0)}(M:PK w.heap b m):
  ∃e:DataW Unit,w.ownsMap P kt kS b m.length e/\(strKeys e).Perm (m.map λp=>p.1.data.toList)/\Maps.size e=m.length:=by
 obtain⟨c,k,l,a⟩:=M;have h: ∀x∈c.toList,∃s:A2P,x.key= .string s/\WideElems.rd P kt kS x=some (.string s.data.toList,.nil):=by
  intro x d;have:x.key∈m.map λp=>Value.string p.1:=by rw[<- a.keysOf];exact IN d
  obtain⟨p,n,i⟩:=List.mem_map.1 this;refine⟨p.1,i.symm,?_⟩;simp[WideElems.rd,<-i,Go.WideMaps.keyOf_string_mk j (a.keys p n),kS]
 refine⟨_,⟨c,k,l,⟨a.size,a.stamped,λx d=>?_⟩,by rw[a.len];exact A0 _,rfl⟩,?_,?_⟩
 ·obtain⟨s,_,f⟩:=h x d;exact⟨_,f⟩
 ·show((c.toList.map (WideElems.rg P kt kS)).foldr DataW.insert [] |>.map λp=>strOf p.1).Perm _;refine((sorted_perm _).map _).trans ?_;have g:(c.toList.map (WideElems.rg P kt kS)).map (λp=>strOf p.1)=(c.toList.map (·.key)).map λv=>match v with| .string s=>s.data.toList|_=> []:=by
   rw[AT,AT];refine CD λx d=>?_
   obtain⟨s,g,f⟩:=h x d;simp[Function.comp,WideElems.rg,f,g,strOf]
  rw[g,a.keysOf,AT];exact List.Perm.of_eq (CD λx _=>rfl)
 ·show((c.toList.map (WideElems.rg P kt kS)).foldr DataW.insert []).length=_;rw[(sorted_perm _).length_eq];simp[a.len]
def nW(l:List A2P):Prop:=l.Pairwise λa b=>aO a b=true
theorem AJo {d:List (List UInt8)}{l:List A2P}(e:nW l)(f:d.Perm (l.map λx=>x.data.toList)):(d.mergeSort λx g=>decide (x<=g))=l.map λx=>x.data.toList:=by
 have h:=mergeSort_of_perm f;have i:(l.map λx=>x.data.toList).mergeSort leB=l.map λx=>x.data.toList:=by refine List.mergeSort_of_pairwise ?_;refine List.pairwise_map.2 (e.imp λ{a b} c=>?_);rw[VT] at c;simp only[decide_eq_true_eq] at c ⊢;exact List.le_of_lt c
 exact h.trans i
theorem AMv(l:List A2P):(l.map λx=>x.data.toList).map Proofs.encStr=l.flatMap IW.enc:=by
 induction l with
 |nil=>rfl
 |cons x b a=>rw[B9,B9,a,AH];rfl
theorem wrap_u32(a:Nat):J8 .u32 (a:Int)=((a % 4294967296:Nat):Int):=by simp[J8,IntKind.bits,IntKind.signed]
theorem wrap_u64(a:Nat):J8 .u64 (a:Int)=((a % 18446744073709551616:Nat):Int):=by simp[J8,IntKind.bits,IntKind.signed]
theorem VC {a b:Nat}(c:a<4294967296)(d:b<4294967296):ZR .u32 (a:Int) (b:Int)=((a ^^^ b:Nat):Int):=by
 have e:a ^^^ b<2^32:=KK (by simpa using c) (by simpa using d);unfold ZR;have f:(BitVec.ofInt (IntKind.bits .u32) (a:Int) ^^^ BitVec.ofInt (IntKind.bits .u32) (b:Int)).toNat=a ^^^ b:=by show(BitVec.ofInt 32 (a:Int) ^^^ BitVec.ofInt 32 (b:Int)).toNat=a ^^^ b;rw[BitVec.ofInt_natCast,BitVec.ofInt_natCast,BitVec.toNat_xor,BitVec.toNat_ofNat,BitVec.toNat_ofNat,As (by simpa using c),As (by simpa using d)]
 rw[f,wrap_u32,As (by simpa using e)]
theorem ASD {a b:Nat}(c:a<4294967296)(d:b<4294967296):eA .u32 (a:Int) (b:Int)=((a ||| b:Nat):Int):=by
 have e:a ||| b<2^32:=Kp (by simpa using c) (by simpa using d);unfold eA;have f:(BitVec.ofInt (IntKind.bits .u32) (a:Int) ||| BitVec.ofInt (IntKind.bits .u32) (b:Int)).toNat=a ||| b:=by show(BitVec.ofInt 32 (a:Int) ||| BitVec.ofInt 32 (b:Int)).toNat=a ||| b;rw[BitVec.ofInt_natCast,BitVec.ofInt_natCast,BitVec.toNat_or,BitVec.toNat_ofNat,BitVec.toNat_ofNat,As (by simpa using c),As (by simpa using d)]
 rw[f,wrap_u32,As (by simpa using e)]
theorem rh {a b:Nat}(c:a<18446744073709551616)(d:b<18446744073709551616):eA .u64 (a:Int) (b:Int)=((a ||| b:Nat):Int):=by
 have e:a ||| b<2^64:=Kp (by simpa using c) (by simpa using d);unfold eA;have f:(BitVec.ofInt (IntKind.bits .u64) (a:Int) ||| BitVec.ofInt (IntKind.bits .u64) (b:Int)).toNat=a ||| b:=by show(BitVec.ofInt 64 (a:Int) ||| BitVec.ofInt 64 (b:Int)).toNat=a ||| b;rw[BitVec.ofInt_natCast,BitVec.ofInt_natCast,BitVec.toNat_or,BitVec.toNat_ofNat,BitVec.toNat_ofNat,As (by simpa using c),As (by simpa using d)]
 rw[f,wrap_u64,As (by simpa using e)]
theorem ri(a b:Nat):((a:Nat):Int)*((b:Nat):Int)=((a*b:Nat):Int):=(Int.natCast_mul a b).symm
def hA(a c:Nat):Nat:=((a ^^^ c)*16777619) % 4294967296
def hX(b c:Nat):Nat:=((b+c) % 4294967296*2246822507) % 4294967296
def hB(b c:Nat):Nat:=hX b c ^^^ (hX b c / 8192)
def UR(l:List UInt8):Nat×Nat:=l.foldl (λs c=>(hA s.1 c.toNat,hB s.2 c.toNat)) (2166136261,2538058380)
def my(a:A2P):Nat:=(UR a.data.toList).1
def oC(a:A2P):Nat:=(UR a.data.toList).2 ||| 1
theorem ATa(a c:Nat):hA a c<4294967296:=CA _ (by decide)
theorem xP(b c:Nat):hX b c<4294967296:=CA _ (by decide)
theorem ATL(b c:Nat):hB b c<4294967296:=by have a:=xP b c;have:hB b c<2^32:=KK (by simpa using a) (by have:hX b c / 8192<=hX b c:=RR _ _;omega);simpa using this
theorem xQ(l:List UInt8)(c:UInt8):UR (l++ [c])=(hA (UR l).1 c.toNat,hB (UR l).2 c.toNat):=by simp[UR]
theorem xR(l:List UInt8):(UR l).1<4294967296/\(UR l).2<4294967296:=by
 rw[<- List.reverse_reverse l];cases l.reverse with
 |nil=>decide
 |cons c a=>rw[Sp,xQ];exact⟨ATa _ _,ATL _ _⟩
theorem xS(a:A2P):my a<4294967296:=(xR _).1
theorem jP {a c:Nat}(b:a<4294967296)(d:c<256):J8 .u32 ((ZR .u32 (a:Int) (J8 .u32 (c:Int)))*(16777619:Int))=((hA a c:Nat):Int):=by rw[wrap_u32,As (by omega),VC b (by omega),show((a ^^^ c:Nat):Int)*(16777619:Int)=(((a ^^^ c)*16777619:Nat):Int) from ri _ 16777619,wrap_u32];rfl
theorem ATG {b c:Nat}(a:b<4294967296)(d:c<256):J8 .u32 ((J8 .u32 ((b:Int)+(J8 .u32 (c:Int))))*(2246822507:Int))=((hX b c:Nat):Int):=by rw[wrap_u32 c,As (by omega),show((b:Int)+(c:Int))=((b+c:Nat):Int) by push_cast;rfl,wrap_u32,show(((b+c) % 4294967296:Nat):Int)*(2246822507:Int)=(((b+c) % 4294967296*2246822507:Nat):Int) from ri _ 2246822507,wrap_u32];rfl
theorem QZ(n a:Nat):((n:Nat):Int).fdiv ((2:Int)^a)=((n / 2^a:Nat):Int):=by
 rw[Vc _ (by have:=Int.pow_pos (n:=2) (m:=a) (by decide);omega)]
 push_cast;rfl
theorem ATX {b c:Nat}(a:b<4294967296)(d:c<256):ZR .u32 (J8 .u32 ((J8 .u32 ((b:Int)+(J8 .u32 (c:Int))))*(2246822507:Int))) ((J8 .u32 ((J8 .u32 ((b:Int)+(J8 .u32 (c:Int))))*(2246822507:Int))).fdiv ((2:Int)^(13:Nat)))=((hB b c:Nat):Int):=by have e:=xP b c;have f:hX b c / 2^13<=hX b c:=RR _ _;rw[ATG a d,QZ,VC e (by omega)];rfl
theorem Pd {s:A2P}{i:Nat}{c:UInt8}(a:s.data.toList[i]? =some c):dE s ((i:Nat):Int)=((c.toNat:Nat):Int):=by
 have b:i<s.data.toList.length:=(List.getElem?_eq_some_iff.1 a).1;have d:i<s.size:=by simpa using b
 unfold dE;have e:((i:Nat):Int).toNat=i:=by omega
 rw[e];have f:s[i]? =some c:=by rw[getElem?_pos s i d];congr 1;have g:=(List.getElem?_eq_some_iff.1 a).2;rw[<- g];rw[Array.getElem_toList];rfl
 rw[f];rfl
def AX(l:List UInt8):A2P:=⟨l.toArray⟩
theorem Bh(l:List UInt8):(AX l).data.toList=l:=by simp[AX]
theorem EE(s:A2P):AX s.data.toList=s:=by simp[AX]
theorem AP(l:List UInt8):(AX l).size=l.length:=by simp[AX,ByteArray.size]
theorem Mj {a b:List UInt8}:AX a=AX b↔a=b:=⟨λc=>by simpa [AX] using congrArg (λs:A2P=>s.data.toList) c,λc=>by rw[c]⟩
def Bq(a:Nat):UInt8:=UInt8.ofNat a
theorem DR {a:Nat}(b:a<256):(Bq a).toNat=a:=by simp[Bq,UInt8.toNat_ofNat'];omega
theorem xT(c:UInt8):Bq c.toNat=c:=by simp[Bq]
def Bc(a:Nat):List UInt8:=if a<128 then [Bq a] else Bq (a % 128+128)::Bc (a / 128)
termination_by a
decreasing_by omega
theorem FR {n:Nat}(a:n<128):Bc n= [Bq n]:=by rw[Bc,if_pos a]
theorem Xp {n:Nat}(a: ¬n<128):Bc n=Bq (n % 128+128)::Bc (n / 128):=by rw[Bc,if_neg a]
def Mg:Nat->Nat->List UInt8->Option (Nat×List UInt8)
 |_,_,[]=>none
 |i,a,c::t=>
  if 10<=i\/(i=9/\1<c.toNat)\/(0<i/\c.toNat=0) then none
  else if c.toNat<128 then some (a+c.toNat*128^i,t) else Mg (i+1) (a+c.toNat % 128*128^i) t
theorem MK {i a:Nat}(b:i<=a):128^i<=128^a:=RE (by decide) b
theorem iN(t:List UInt8): ∀(b i a:Nat),b*128^i<18446744073709551616->(i=0\/0<b)->Mg i a (Bc b++t)=some (a+b*128^i,t):=by
 intro b
 induction b using Nat.strongRecOn with
 |ind b k=>
  intro i a h m;have n:0<128^i:=Nat.pos_of_ne_zero (Nat.pos_iff_ne_zero.1 (Ss (by decide)));by_cases e:b<128
  ·rw[FR e];simp only[Dd,CT,Mg,DR (show b<256 by omega)];rw[if_neg,if_pos e];rintro(c|⟨c,f⟩|⟨c,f⟩)
   ·have g:=MK c;have j:1*128^i<=b*128^i:=AN _ (by omega);have d:(128:Nat)^10=1180591620717411303424:=by decide
    omega
   ·subst c;have d:(128:Nat)^9=9223372036854775808:=by decide
    rw[d] at h;omega
   ·omega
  ·rw[Xp e];have hd:b / 128<b:=by omega
   simp only[Dd,Mg,DR (show b % 128+128<256 by omega)];rw[if_neg,if_neg (by omega),k (b / 128) hd]
   ·have l:(b % 128+128) % 128=b % 128:=by omega
    rw[l,DH,HJ,show b % 128*128^i+b / 128*(128^i*128)=(b % 128+128*(b / 128))*128^i by
     rw[By,CH (128^i) 128,<-Ft,CH (b / 128) 128],Nat.mod_add_div]
   ·have g:b / 128*128<=b:=Nat.div_mul_le_self _ _;have j:b / 128*128*128^i<=b*128^i:=AN _ g;rw[DH,CH (128^i) 128,<-Ft];omega
   ·omega
   ·rintro(c|⟨c,f⟩|⟨c,f⟩)
    ·have g:=MK c;have j:128*128^i<=b*128^i:=AN _ (by omega);have d:(128:Nat)^10=1180591620717411303424:=by decide
     omega
    ·subst c;have d:(128:Nat)^9=9223372036854775808:=by decide
     rw[d] at h;omega
    ·omega
theorem xU: ∀(l:List UInt8) (i a n:Nat) (t:List UInt8),Mg i a l=some (n,t)-> ∃m,n=a+m*128^i/\l=Bc m++t/\m*128^i<18446744073709551616/\(i=0\/0<m)
 | [],i,a,n,t,b=>by simp[Mg] at b
 |c::l,i,a,n,t,b=>by
  simp only[Mg] at b;split at b
  ·cases b
  ·rename_i v;have w:c.toNat<256:=c.toNat_lt;split at b
   ·rename_i e;obtain⟨rfl,rfl⟩:=b;refine⟨c.toNat,rfl,by rw[FR e,xT];rfl,?_,by omega⟩;have x:i<=9:=by omega
    by_cases h:i=9
    ·subst h;have d:(128:Nat)^9=9223372036854775808:=by decide
     rw[d];omega
    ·have j:=MK (show i<=8 by omega);have d:(128:Nat)^8=72057594037927936:=by decide
     have k:c.toNat*128^i<=127*128^i:=AN _ (by omega);omega
   ·rename_i e;obtain⟨m,o,rfl,f,y⟩:=xU l (i+1) _ n t b;have p:0<m:=by omega
    refine⟨c.toNat % 128+128*m,?_,?_,?_,by omega⟩
    ·rw[o,DH,By,HJ,CH (128^i) 128,<-Ft,CH m 128]
    ·rw[Xp (n:=c.toNat % 128+128*m) (by omega),show(c.toNat % 128+128*m) % 128+128=c.toNat by omega,show(c.toNat % 128+128*m) / 128=m by omega,xT];rfl
    ·rw[DH,CH (128^i) 128,<-Ft] at f;have z:(18446744073709551616:Nat)=144115188075855872*128:=by decide
     have A:i<=8:=by
      refine SD λq=>?_
      have j:=MK (show 9<=i from q);have d:(128:Nat)^9=9223372036854775808:=by decide
      have k:1*128*128^i<=m*128*128^i:=AN _ (AN _ p);omega
     have g:(18446744073709551616:Nat)=128^(i+1)*(18446744073709551616 / 128^(i+1)):=by
      have:i=0\/i=1\/i=2\/i=3\/i=4\/i=5\/i=6\/i=7\/i=8:=by omega
      rcases this with rfl|rfl|rfl|rfl|rfl|rfl|rfl|rfl|rfl<;>decide
     have r:0<128^i:=Nat.pos_of_ne_zero (Nat.pos_iff_ne_zero.1 (Ss (by decide)));have s:m<18446744073709551616 / 128^(i+1):=by refine Nat.lt_of_mul_lt_mul_left (a:=128^(i+1)) ?_;rw[<- g,DH,CH,CH (128^i) 128,<-Ft];exact f
     have u:128^(i+1)*(m+1)<=128^(i+1)*(18446744073709551616 / 128^(i+1)):=Nat.mul_le_mul_left _ s;rw[<- g,DH] at u;have B:(c.toNat % 128+128*m)*128^i<128*(m+1)*128^i:=Sh (by omega) r;have C:128*(m+1)*128^i=128^i*128*(m+1):=by rw[CH,<-Ft]
     omega
theorem xV: ∀(b a:Nat),a<128^(b+1)->(Bc a).length<=b+1:=by
 intro b
 induction b with
 |zero=>intro a c;rw[FR (by simpa using c)];simp
 |succ b e=>
  intro a c;by_cases d:a<128
  ·rw[FR d];simp
  ·rw[Xp d];have:=e (a / 128) (by rw[Nat.div_lt_iff_lt_mul (by decide),<-DH];exact c);simp;omega
theorem AV {n:Nat}(a:n<18446744073709551616):(Bc n).length<=10:=by refine xV 9 n (F2 a ?_);decide
theorem mz {l:List UInt8}{a:Nat}{t:List UInt8}(d:Mg 0 0 l=some (a,t)):l=Bc a++t/\a<18446744073709551616:=by obtain⟨m,b,e,c,_⟩:=xU l 0 0 a t d;simp at b c;subst b;exact⟨e,c⟩
theorem VI {a:Nat}(b:a<18446744073709551616)(t:List UInt8):Mg 0 0 (Bc a++t)=some (a,t):=by rw[iN t a 0 0 (by simpa using b) (.inl rfl)];simp
def mB(c:Nat):Nat:=if c % 2=1 then c / 2 ^^^ 3988292384 else c / 2
def oD:Nat->Nat->Nat
 |0,c=>c
 |k+1,c=>mB (oD k c)
def oE(c:Nat)(b:UInt8):Nat:=oD 8 (c ^^^ b.toNat)
def iO(l:List UInt8):Nat:=l.foldl oE 4294967295
def je(l:List UInt8):Nat:=4294967295-iO l
theorem AMw {c:Nat}(a:c<4294967296):mB c<4294967296:=by
 unfold mB;split
 ·exact KK (n:=32) (by omega) (by decide)
 ·omega
theorem rj {c:Nat}(a:c<4294967296): ∀k,oD k c<4294967296
 |0=>a
 |k+1=>AMw (rj a k)
theorem ARi {c:Nat}(a:c<4294967296)(b:UInt8):oE c b<4294967296:=by have d:b.toNat<256:=b.toNat_lt;exact rj (KK (n:=32) a (by omega)) 8
theorem ANl(l:List UInt8)(b:UInt8):iO (l++ [b])=oE (iO l) b:=by simp[iO]
theorem xW(l:List UInt8):iO l<4294967296:=by
 unfold iO
 suffices ∀(l:List UInt8) (c:Nat),c<4294967296->l.foldl oE c<4294967296 from this l _ (by decide)
 intro l
 induction l with
 |nil=>exact λc a=>a
 |cons x l b=>exact λc a=>b _ (ARi a x)
def Qu(a:Nat):List UInt8:= [Bq (a / 16777216 % 256),Bq (a / 65536 % 256),Bq (a / 256 % 256),Bq (a % 256)]
theorem KV(a:Nat):(Qu a).length=4:=rfl
def Ct(l:List UInt8):List UInt8:=Bc l.length++Qu (je l)++l
def Gu(l:List UInt8):Nat×List UInt8×List UInt8:=
 match Mg 0 0 l with
 |none=>if l.length<10/\ ∀c∈l,128<=c.toNat then(20,[],[]) else(21,[],[])
 |some (a,b)=>
  if 1048576<a then(21,[],[]) else if b.length<4+a then(20,[],[])
  else if b.take 4=Qu (je ((b.drop 4).take a)) then(0,(b.drop 4).take a,b.drop (4+a)) else(21,[],[])
theorem xX {l:List UInt8}(d:l.length<=1048576)(t:List UInt8):Gu (Ct l++t)=(0,l,t):=by
 unfold Gu Ct;rw[A3,A3,VI (by omega)];dsimp only;rw[if_neg (by omega),if_neg (by simp[KV])];have b:(Qu (je l)++(l++t)).take 4=Qu (je l):=by rw[Nx (by simp[KV])];exact AG (by simp[KV])
 have a:(Qu (je l)++(l++t)).drop 4=l++t:=by rw[A0r (by simp[KV])];simp[Qu]
 have c:(l++t).take l.length=l:=by simp
 rw[b,a,c,if_pos rfl,<-HW,a];simp
structure Rd where
 rest:List UInt8
 bad:Bool
def Rd.fail:Rd:=⟨[],true⟩
def Ha(a:Rd):Nat×Rd:=if a.bad then(0,a) else match Mg 0 0 a.rest with|none=>(0,Rd.fail)|some (b,t)=>(b,⟨t,false⟩)
def CQ(b:Nat)(a:Rd):Nat×Rd:=if(Ha a).2.bad then(0,(Ha a).2) else if b<(Ha a).1 then(0,Rd.fail) else Ha a
def KP(b:Nat)(a:Rd):List UInt8×Rd:=if a.bad then([],a) else if a.rest.length<b then([],Rd.fail) else(a.rest.take b,⟨a.rest.drop b,false⟩)
def GV(a:Rd):List UInt8×Rd:=if(Ha a).2.bad then([],(Ha a).2) else KP (Ha a).1 (Ha a).2
def Yb(a:Rd):Bool:= !a.bad&&a.rest.isEmpty
def BR(l:List UInt8):List UInt8:=Bc l.length++l
theorem xY {a:Nat}(b:a<18446744073709551616)(t:List UInt8):Ha ⟨Bc a++t,false⟩=(a,⟨t,false⟩):=by simp[Ha,VI b]
theorem CP {n most:Nat}(a:n<18446744073709551616)(b:n<=most)(t:List UInt8):CQ most ⟨Bc n++t,false⟩=(n,⟨t,false⟩):=by simp only[CQ,xY a];simp;omega
theorem xZ(l t:List UInt8):KP l.length ⟨l++t,false⟩=(l,⟨t,false⟩):=by simp[KP];omega
theorem IR {l:List UInt8}(a:l.length<18446744073709551616)(t:List UInt8):GV ⟨BR l++t,false⟩=(l,⟨t,false⟩):=by simp only[GV,BR,A3,xY a,xZ];simp
theorem AOJ {a:Rd}(b:a.bad=true):Ha a=(0,a):=by simp[Ha,b]
theorem y4 {r:Rd}(a:(Ha r).2.bad=false):r.bad=false/\r.rest=Bc (Ha r).1++(Ha r).2.rest/\(Ha r).1<18446744073709551616:=by
 unfold Ha at a ⊢;split at a
 ·rename_i b;rw[a] at b;cases b
 ·rename_i b;cases c:Mg 0 0 r.rest with
  |none=>rw[c] at a;cases a
  |some p=>
   obtain⟨f,t⟩:=p;obtain⟨d,e⟩:=mz c;simp only[b];exact⟨by simp,d,e⟩
theorem Fj {a:Rd}{m:Nat}(b:(CQ m a).2.bad=false):a.bad=false/\a.rest=Bc (CQ m a).1++(CQ m a).2.rest/\(CQ m a).1<=m:=by
 unfold CQ at b ⊢;split at b
 ·rename_i c;rw[b] at c;cases c
 ·split at b
  ·cases b
  ·rename_i c d;rw[if_neg c,if_neg d];obtain⟨e,f,_⟩:=y4 b;exact⟨e,f,by omega⟩
theorem AKu {a:Rd}{b:Nat}(c:(KP b a).2.bad=false):a.bad=false/\a.rest=(KP b a).1++(KP b a).2.rest/\(KP b a).1.length=b:=by
 unfold KP at c ⊢;split at c
 ·rename_i d;rw[c] at d;cases d
 ·split at c
  ·cases c
  ·rename_i d e;rw[if_neg d,if_neg e];exact⟨by simpa using d,by simp,by simp;omega⟩
theorem RV {r:Rd}(b:(GV r).2.bad=false):r.bad=false/\r.rest=BR (GV r).1++(GV r).2.rest:=by
 unfold GV at b ⊢;split at b
 ·rename_i a;rw[b] at a;cases a
 ·rename_i a;rw[if_neg a];obtain⟨c,d,_⟩:=y4 (r:=r) (by simpa using a);obtain⟨_,e,f⟩:=AKu b;refine⟨c,?_⟩;rw[d,e,BR,A3];rw[f]
theorem Tj(a:Rd):(Ha a).2.rest.length<=a.rest.length:=by
 unfold Ha;split
 ·exact A0 _
 ·split
  ·simp[Rd.fail]
  ·rename_i d t b;obtain⟨c,_⟩:=mz b;rw[c];simp
theorem II(m:Nat)(a:Rd):(CQ m a).2.rest.length<=a.rest.length:=by
 unfold CQ;split
 ·exact Tj a
 ·split
  ·simp[Rd.fail]
  ·exact Tj a
theorem AM2(b:Nat)(a:Rd):(KP b a).2.rest.length<=a.rest.length/\(KP b a).1.length<=a.rest.length:=by
 unfold KP;split
 ·simp
 ·split
  ·simp[Rd.fail]
  ·simp;omega
theorem VF(a:Rd):(GV a).2.rest.length<=a.rest.length/\(GV a).1.length<=a.rest.length:=by
 unfold GV;split
 ·exact⟨Tj a,by simp⟩
 ·have:=AM2 (Ha a).1 (Ha a).2;have:=Tj a;omega
def GL:cF UInt8 where
 enc x:= [.int .u8 (x.toNat:Int)]
 w:=1
 len _:=rfl
 pos:=by omega
 one x v a:=by simp at a;subst a;rfl
theorem Cells.byte {b:aa}{a:Q6}{x:UInt8}(c:Cells b a (GL.enc x)):ah b a=some (.int .u8 (x.toNat:Int)):=by have d:=c 0 _ rfl;rwa [add_zero] at d
theorem y5: ∀(l:List UInt8) (s:A2P),(l.map λc=>(c.toNat:Int)).foldl (λa b=>a.push (UInt8.ofNat b.toNat)) s=⟨s.data++l.toArray⟩
 | [],s=>by simp
 |c::l,s=>by
  simp only[B9,I2];rw[y5 l];simp[ByteArray.push,Array.append_assoc]
theorem JQ {e:ar}{P:Q1}{g h i:Q7}(m:P.underlying g=some (.slice i))(n:P.underlying i=some (.int .u8))(hd:P.underlying h=some .string){b:aa}{s:Sl}{l:List UInt8}{K:A2O}
  (v:View GL b s l) (o:K (.string (AX l)) b):BI e P (convert g h (.slice s.p s.len s.cap)) b K:=by
 have p:=v.len;refine λf=>⟨_,b,f,?_,o⟩
 rw[run_convert_bytes_string _ g h i _ s.len s.cap m n hd];cases j:s.p with
 |none=>
  have q:l= []:=by
   cases l with
   |nil=>rfl
   |cons c l=>
    obtain⟨a,d,_⟩:=v.cells 0 c rfl;rw[j] at d;cases d
  subst q;simp[Conv.bytesToString,AX];rfl
 |some a=>
  have r:(loadCells a s.len).run P (e.at b f)= .ok ((l.map λc=>(c.toNat:Int)).map (Value.int .u8)).toArray (e.at b f):=by
   have:=run_loadCells_list (P:=P) (w:=e.at b f) a ((l.map λc=>(c.toNat:Int)).map (Value.int .u8)) (λt u k=>by
    simp only[C2,Option.map_map,Option.map_eq_some_iff] at k;obtain⟨c,x,rfl⟩:=k;obtain⟨z,d,y⟩:=v.cells t c x;rw[j] at d;cases d;have:=Cells.byte y;simp only[GL,Bk] at this;exact this)
   simpa [p] using this
  rw[run_bytesToString _ a s.len s.cap _ r,y5];simp[AX,ByteArray.empty,ByteArray.emptyWithCapacity];rfl
theorem dW(s:A2P)(i a:Nat):s.extract i a=AX ((s.data.toList.take a).drop i):=by apply SJ;rw[SM,AX];apply Array.toList_inj.1;simp[SO,List.extract_eq_take_drop,List.drop_take]
theorem y6(s:A2P):s.data.toList.length=s.size:=by rw[DQ];rfl
theorem rk(s:A2P)(i:Nat):s.extract i s.size=AX (s.data.toList.drop i):=by rw[dW,AG (by rw[y6];exact A0 _)]
theorem AOI(s:A2P)(i:Nat):s.extract 0 i=AX (s.data.toList.take i):=by rw[dW];simp
theorem wrap_u8(a:Nat):J8 .u8 (a:Int)=((a % 256:Nat):Int):=by simp[J8,IntKind.bits,IntKind.signed]
theorem y7 {a b:Nat}(c:a<256)(d:b<256):eA .u8 (a:Int) (b:Int)=((a ||| b:Nat):Int):=by
 have e:a ||| b<2^8:=Kp (by simpa using c) (by simpa using d);unfold eA;have f:(BitVec.ofInt (IntKind.bits .u8) (a:Int) ||| BitVec.ofInt (IntKind.bits .u8) (b:Int)).toNat=a ||| b:=by show(BitVec.ofInt 8 (a:Int) ||| BitVec.ofInt 8 (b:Int)).toNat=a ||| b;rw[BitVec.ofInt_natCast,BitVec.ofInt_natCast,BitVec.toNat_or,BitVec.toNat_ofNat,BitVec.toNat_ofNat,As (by simpa using c),As (by simpa using d)]
 rw[f,wrap_u8,As (by simpa using e)]
theorem y8 {a b:Nat}(c:a<256)(d:b<256):Gd .u8 (a:Int) (b:Int)=((a &&& b:Nat):Int):=by
 have e:a &&& b<2^8:=RM Nat.and_le_left (by simpa using c);unfold Gd;have f:(BitVec.ofInt (IntKind.bits .u8) (a:Int) &&& BitVec.ofInt (IntKind.bits .u8) (b:Int)).toNat=a &&& b:=by show(BitVec.ofInt 8 (a:Int) &&& BitVec.ofInt 8 (b:Int)).toNat=a &&& b;rw[BitVec.ofInt_natCast,BitVec.ofInt_natCast,BitVec.toNat_and,BitVec.toNat_ofNat,BitVec.toNat_ofNat,As (by simpa using c),As (by simpa using d)]
 rw[f,wrap_u8,As (by simpa using e)]
theorem ARJ {a b:Nat}(c:a<4294967296)(d:b<4294967296):Gd .u32 (a:Int) (b:Int)=((a &&& b:Nat):Int):=by
 have e:a &&& b<2^32:=RM Nat.and_le_left (by simpa using c);unfold Gd;have f:(BitVec.ofInt (IntKind.bits .u32) (a:Int) &&& BitVec.ofInt (IntKind.bits .u32) (b:Int)).toNat=a &&& b:=by show(BitVec.ofInt 32 (a:Int) &&& BitVec.ofInt 32 (b:Int)).toNat=a &&& b;rw[BitVec.ofInt_natCast,BitVec.ofInt_natCast,BitVec.toNat_and,BitVec.toNat_ofNat,BitVec.toNat_ofNat,As (by simpa using c),As (by simpa using d)]
 rw[f,wrap_u32,As (by simpa using e)]
theorem ATs: ∀x,x<256->x ||| 128=x % 128+128:=by decide +kernel
theorem ASj: ∀x,x<256->x &&& 127=x % 128:=by decide +kernel
theorem AQN(c:Nat):eA .u8 (J8 .u8 (c:Int)) (128:Int)=(((Bq (c % 128+128)).toNat:Nat):Int):=by have d:=y7 (a:=c % 256) (b:=128) (CA _ (by decide)) (by decide);rw[wrap_u8];rw[show(128:Int)=((128:Nat):Int) from rfl,d,ATs _ (CA _ (by decide)),DR (by omega)];congr 1;omega
theorem rm(i:Nat):2^(7*i)=128^i:=by rw[Nat.pow_mul]
theorem AQy {a x i:Nat}(d:i<=9)(e:a<128^i)(f:x<128):eA .u64 (a:Int) (((x*128^i % 18446744073709551616:Nat)):Int)=((a+x*128^i % 18446744073709551616:Nat):Int):=by
 have g:0<128^i:=Ss (by decide);have h:=MK d;have j:(128:Nat)^9=9223372036854775808:=by decide
 rw[rh (by omega) (CA _ (by decide))];congr 1;have b: ∃c,(18446744073709551616:Nat)=128^i*c:=by
  have:i=0\/i=1\/i=2\/i=3\/i=4\/i=5\/i=6\/i=7\/i=8\/i=9:=by omega
  refine⟨18446744073709551616 / 128^i,?_⟩;rcases this with rfl|rfl|rfl|rfl|rfl|rfl|rfl|rfl|rfl|rfl<;>decide
 obtain⟨c,b⟩:=b;rw[b,CH x,Nat.mul_mod_mul_left,<-rm,Nat.or_comm,Nat.add_comm];exact(A0I (by rw[rm];exact e) _).symm
theorem AS4 {x i:Nat}(b:i<=9)(c:x<128):J8 .u64 (((x:Nat):Int)*((2:Int)^(min ((7*i:Nat):Int).toNat (IntKind.bits .u64))))=((x*128^i % 18446744073709551616:Nat):Int):=by
 have a:min ((7*i:Nat):Int).toNat (IntKind.bits .u64)=7*i:=by have:IntKind.bits .u64=64:=rfl;omega
 rw[a,show((2:Int)^(7*i))=((2^(7*i):Nat):Int) by simp,ri,wrap_u64,rm]
theorem Mod.more {a d e:aa}{f:Nat->Prop}(x:Ext a d)(m:Mod f d e)(g: ∀b,f b->a.size<=b):Ext a e:=
 Mod.then x (m.ak λc _ h=> .inr (g c h))
abbrev bl(s:A2P):List UInt8:=s.data.toList
theorem A7(s:A2P):(bl s).length=s.size:=y6 s
theorem EN(l:List UInt8):bl (AX l)=l:=Bh l
theorem Kv(s:A2P):AX (bl s)=s:=EE s
def Ak(s:A2P):Bool:=decide (1<=s.size/\s.size<=16/\ ∀c∈bl s,33<=c.toNat/\c.toNat<=126)
theorem Ga {s:A2P}:Ak s=true↔1<=s.size/\s.size<=16/\ ∀c∈bl s,33<=c.toNat/\c.toNat<=126:=by simp[Ak]
structure bP where
 kind:Int
 name:A2P
 aM:A2P
 tries:Int
 aC:Int
 wait:Int
def bP.cells(x:bP):Array J0:= #[J6 J9 x.kind,J7 x.name,J7 x.aM,J6 J9 x.tries,J6 J9 x.aC,J6 J9 x.wait]
def QP:cF bP where
 enc x:= [J6 J9 x.kind,J7 x.name,J7 x.aM,J6 J9 x.tries,J6 J9 x.aC,J6 J9 x.wait]
 w:=6
 len _:=rfl
 pos:=by omega
 one x v a:=by simp at a;rcases a with rfl|rfl|rfl|rfl|rfl|rfl<;>rfl
abbrev Ho:A2P:=⟨#[]⟩
def bW(a b c:Int):Bool:=decide (b<=a/\a<=c)
theorem Ba {a b c:Int}:bW a b c=true↔b<=a/\a<=c:=by simp[bW]
def NF(x:bP):Bool:=
 if x.kind=1 then((decide (x.aM=Ho)&&decide (x.aC=0))||(Ak x.aM&&bW x.aC 1 5))&&Ak x.name&&bW x.tries 1 5&&decide (x.wait=0)
 else if x.kind=2 then decide (x.name=Ho)&&decide (x.aM=Ho)&&decide (x.tries=0)&&decide (x.aC=0)&&bW x.wait 1 1000
 else if x.kind=3 then decide (x.aM=Ho)&&decide (x.tries=0)&&decide (x.aC=0)&&decide (x.wait=0)&&Ak x.name
 else false
structure ck where
 steps:List bP
 aA:Int
def Fz(p:ck):Bool:=decide (p.steps.length<=16)&&bW p.aA 0 16000&&p.steps.all NF
def G8(x:bP):List UInt8:=Bc x.kind.toNat++
 (if x.kind=1 then BR (bl x.name)++Bc x.tries.toNat++BR (bl x.aM)++Bc x.aC.toNat else if x.kind=2 then Bc x.wait.toNat else BR (bl x.name))
def Ci(p:ck):List UInt8:=Bc p.aA.toNat++Bc p.steps.length++p.steps.flatMap G8
def Mi(g e h:Nat)(i:Bool)(j:Rd):bP×Rd:=
 let d:=CQ g j
 if d.1=1 then
  let a:=GV d.2
  let b:=CQ e a.2
  let c:=GV b.2
  let f:=CQ e c.2
  (⟨1,AX a.1,AX c.1,b.1,f.1,0⟩,f.2)
 else if d.1=2 then
  let a:=CQ h d.2
  (⟨2,Ho,Ho,0,0,a.1⟩,a.2)
 else if d.1=3\/i=true then
  let a:=GV d.2
  (⟨d.1,AX a.1,Ho,0,0,0⟩,a.2)
 else(⟨d.1,Ho,Ho,0,0,0⟩,d.2)
def Ht(b c d:Nat)(e:Bool):Nat->Rd->List bP×Rd
 |0,a=>([],a)
 |n+1,a=>let x:=Mi b c d e a;let f:=Ht b c d e n x.2;(x.1::f.1,f.2)
def Yg(c d e f:Nat)(g:Bool)(l:List UInt8):ck×Rd:=
 let a:=CQ c ⟨l,false⟩
 let b:=CQ 16 a.2
 let s:=Ht d e f g b.1 b.2
 (⟨s.1,a.1⟩,s.2)
def JG(l:List UInt8):Option ck:=let x:=Yg 16000 3 5 1000 false l;if Yb x.2&&Fz x.1 then some x.1 else none
theorem w9 {a:Rd}:Yb a=true↔a=⟨[],false⟩:=by obtain⟨l,b⟩:=a;cases b<;>cases l<;>simp[Yb]
theorem APG {a b c:Int}(d:bW a b c=true)(e:0<=b):((a.toNat:Nat):Int)=a:=by rw[Ba] at d;omega
theorem AM1 {c f h:Nat}{p:Bool}(q:3<=c)(F:5<=f)(G:1000<=h){x:bP}(a:NF x=true)(t:List UInt8):Mi c f h p ⟨G8 x++t,false⟩=(x,⟨t,false⟩):=by
 obtain⟨H,name,o,r,i,u⟩:=x;have j: ∀ {s:A2P},s.size<=16->(bl s).length<18446744073709551616:=λg=>by rw[A7];omega
 have k: ∀ {s:A2P},Ak s=true->s.size<=16:=λg=>(Ga.1 g).2.1
 unfold NF at a;split at a
 ·rename_i b;simp only at b;subst b;simp only[A4,DA,decide_eq_true_eq] at a;obtain⟨⟨⟨v,m⟩,w⟩,rfl⟩:=a;have y:o.size<=16/\0<=i/\i<=5:=by
   rcases v with⟨rfl,rfl⟩|⟨g,z⟩
   ·exact⟨by decide,by omega,by omega⟩
   ·rw[Ba] at z;exact⟨k g,by omega,by omega⟩
  rw[Ba] at w;have d:=CP (n:=(1:Int).toNat) (most:=c) (by decide) (by simpa using(by omega:1<=c));have e:=IR (l:=bl name) (j (k m));have A:=CP (n:=r.toNat) (most:=f) (by omega) (by omega);have B:=IR (l:=bl o) (j y.1);have C:=CP (n:=i.toNat) (most:=f) (by omega) (by omega);simp only[Mi,G8,if_true,A3,d,e,A,B,C];rw[if_pos (by decide)];simp[EE];omega
 ·split at a
  ·rename_i D b;simp only at b;subst b;simp only[A4,decide_eq_true_eq] at a;obtain⟨⟨⟨⟨rfl,rfl⟩,rfl⟩,rfl⟩,E⟩:=a;rw[Ba] at E;have d:=CP (n:=(2:Int).toNat) (most:=c) (by decide) (by simpa using(by omega:2<=c));have e:=CP (n:=u.toNat) (most:=h) (by omega) (by omega);simp only[Mi,G8,if_true,A3,d];rw[if_neg (by decide),if_pos (by decide),if_neg (by decide),e];simp;omega
  ·split at a
   ·rename_i D I b;simp only at b;subst b;simp only[A4,decide_eq_true_eq] at a;obtain⟨⟨⟨⟨rfl,rfl⟩,rfl⟩,rfl⟩,m⟩:=a;have d:=CP (n:=(3:Int).toNat) (most:=c) (by decide) (by simpa using q);have e:=IR (l:=bl name) (j (k m));simp only[Mi,G8,if_true,A3,d];rw[if_neg (by decide),if_neg (by decide),if_pos (.inl (by decide)),if_neg (by decide),if_neg (by decide),e];simp[EE]
   ·cases a
theorem wc {b c d:Nat}{all:Bool}(e:3<=b)(f:5<=c)(g:1000<=d)(t:List UInt8): ∀ {l:List bP},l.all NF=true->Ht b c d all l.length ⟨l.flatMap G8++t,false⟩=(l,⟨t,false⟩)
 | [],_=>rfl
 |x::l,a=>by
  simp only[N4,A4] at a;simp only[A5,Ht,AH,A3,AM1 e f g a.1,wc e f g t a.2]
theorem AMh {a b c d:Nat}{all:Bool}(s:16000<=a)(h:3<=b)(i:5<=c)(j:1000<=d){p:ck}(e:Fz p=true):Yg a b c d all (Ci p)=(p,⟨[],false⟩):=by obtain⟨l,k⟩:=p;simp only[Fz,A4,decide_eq_true_eq] at e;obtain⟨⟨m,f⟩,o⟩:=e;have t:=Ba.1 f;have q:=CP (n:=k.toNat) (most:=a) (by omega) (by omega);have r:=CP (n:=l.length) (most:=16) (by omega) m;have g:=wc (all:=all) h i j [] o;rw[AK] at g;simp only[Yg,Ci,A3,q,r,g,APG f (by decide)]
theorem we {p:ck}(a:Fz p=true):JG (Ci p)=some p:=by simp only[JG,AMh (A0 _) (A0 _) (A0 _) (A0 _) a,a];rfl
theorem AKm {j k l:Nat}{m:Bool}{e:Rd}(a:(Mi j k l m e).2.bad=false):e.bad=false/\(NF (Mi j k l m e).1=true->e.rest=G8 (Mi j k l m e).1++(Mi j k l m e).2.rest):=by
 unfold Mi at a ⊢;simp only at a ⊢;split at a
 ·rename_i b;obtain⟨o,p,_⟩:=Fj a;obtain⟨q,c2⟩:=RV o;obtain⟨r,s,_⟩:=Fj q;obtain⟨g,h⟩:=RV r;obtain⟨c,f,_⟩:=Fj g;refine⟨c,λ_=>?_⟩;rw[if_pos b];simp only[G8,if_true,EN,A6];rw[f,b,h,s,c2,p];simp[A3]
 ·split at a
  ·rename_i i b;obtain⟨g,h,_⟩:=Fj a;obtain⟨c,f,_⟩:=Fj g;refine⟨c,λ_=>?_⟩;rw[if_neg i,if_pos b];simp only[G8,A6];rw[if_neg (by decide),if_pos trivial,f,b,h];simp[A3]
  ·split at a
   ·rename_i i n b;obtain⟨g,h⟩:=RV a;obtain⟨c,f,_⟩:=Fj g;refine⟨c,λd=>?_⟩;rw[if_neg i,if_neg n,if_pos b] at d ⊢;simp only[G8,EN,A6];rw[if_neg (by omega),if_neg (by omega),f,h];simp[A3]
   ·rename_i i n b;obtain⟨c,f,_⟩:=Fj a;refine⟨c,λd=>?_⟩;rw[if_neg i,if_neg n,if_neg b] at d;exfalso;unfold NF at d;simp only at d;rw[if_neg (by omega),if_neg (by omega),if_neg (by omega)] at d;cases d
theorem wg {b c d:Nat}{e:Bool}: ∀(n:Nat) {a:Rd},(Ht b c d e n a).2.bad=false->a.bad=false/\(Ht b c d e n a).1.length=n/\((Ht b c d e n a).1.all NF=true->a.rest=(Ht b c d e n a).1.flatMap G8++(Ht b c d e n a).2.rest)
 |0,a,f=>⟨f,rfl,λ_=>rfl⟩
 |n+1,a,f=>by
  simp only[Ht] at f ⊢;obtain⟨h,i,j⟩:=wg n f;obtain⟨k,l⟩:=AKm h;refine⟨k,by simp[i],λg=>?_⟩;simp only[N4,A4] at g;rw[l g.1,j g.2];simp[A3]
theorem wh {l:List UInt8}{p:ck}(a:JG l=some p):Fz p=true/\Ci p=l:=by
 unfold JG at a;simp only at a;split at a
 ·rename_i e;simp only[A4] at e;obtain⟨d,b⟩:=e;obtain rfl:=BY a;refine⟨b,?_⟩;rw[w9] at d;have f:(Yg 16000 3 5 1000 false l).2.bad=false:=by rw[d]
  have g:(Yg 16000 3 5 1000 false l).2.rest= []:=by rw[d]
  simp only[Yg] at f g b ⊢;obtain⟨h,i,c⟩:=wg _ f;obtain⟨j,k,_⟩:=Fj h;obtain⟨m,c2,_⟩:=Fj j;simp only[Fz,A4] at b;have c:=c b.2;rw[g,AK] at c;simp only[Ci,A6,i];have c2:l=Bc (CQ 16000 ⟨l,false⟩).1++(CQ 16000 ⟨l,false⟩).2.rest:=c2;rw[<- c,A3,<-k,<-c2]
 ·cases a
inductive Fv where
 |i (n:Int)
 |s (x:A2P)
 |b (x:Bool)
 deriving DecidableEq
def Fv.v:Fv->J0
 | .i a=>J6 J9 a
 | .s x=>J7 x
 | .b x=>J3 x
def Fv.ok(P:Q1)(t:Q7):Fv->Bool
 | .i _=>match P.underlying t with|some (.int J9)=>true|_=>false
 | .s _=>match P.underlying t with|some .string=>true|_=>false
 | .b _=>match P.underlying t with|some .bool=>true|_=>false
def qK:Fv->Fv->Bool
 | .i _,.i _=>true
 | .s _,.s _=>true
 | .b _,.b _=>true
 |_,_=>false
def kT(P:Q1):Nat->List Field->List Fv->Bool
 |_,[],[]=>true
 |i,f::a,x::b=> !(f.name==String.ofList [Char.ofNat 95])&&Nat.beq f.offset i&&x.ok P f.type&&kT P (i+1) a b
 |_,_,_=>false
def cY:List Fv->List Fv->Bool
 | [],[]=>true
 |x::a,b::c=>qK x b&&cY a c
 |_,_=>false
theorem ARF {P:Q1}{e:Nat}{t:Q7}{x f:Fv}(g:x.ok P t=true)(h:qK x f=true)(c:World):(Op.equalIn (e+1) t x.v f.v).run P c= .ok (decide (x=f)) c:=by
 cases x<;>cases f<;>simp only[qK,Cp] at h<;>simp only[Fv.ok] at g<;>split at g<;>(try cases g)
 ·rename_i i m _ d;simp only[Fv.v];rw[run_equalIn_int c e t J9 J9 i m d];simp only[Fv.i.injEq];rfl
 ·rename_i a b _ d;simp only[Fv.v];rw[run_equalIn_string c e t a b d,toList_inj];simp only[Fv.s.injEq]
 ·rename_i a b _ d;simp only[Fv.v];rw[run_equalIn_bool' c e t a b d];simp only[Fv.b.injEq];cases a<;>cases b<;>rfl
theorem Fv.plain {P:Q1}{t:Q7}{x:Fv}(a:x.ok P t=true):P.plainKey t=true:=by cases x<;>simp only[Fv.ok] at a<;>split at a<;>(try cases a)<;>(rename_i b;simp[Program.plainKey,b])
theorem AQ3 {P:Q1}{t:Nat}(e g:List Fv)(c:World): ∀(h:List Field) (a b:List Fv) (i:Nat),e.drop i=a->g.drop i=b->kT P i h a=true->cY a b=true->
  (Op.eqFields (t+1) (e.map Fv.v).toArray (g.map Fv.v).toArray h).run P c= .ok (decide (a=b)) c:=by
 intro h
 induction h with
 |nil=>
  intro a b i m n j d;cases a with
  |nil=>
   cases b with
   |nil=>simp[Op.eqFields]
   |cons k b=>simp[cY] at d
  |cons x a=>simp[kT] at j
 |cons f h u=>
  intro a b i m n j d;cases a with
  |nil=>simp[kT] at j
  |cons x a=>
   cases b with
   |nil=>simp[cY] at d
   |cons k b=>
    simp only[kT,cY,A4,Nat.beq_eq] at j d;obtain⟨⟨⟨p,q⟩,o⟩,v⟩:=j;have w:e[i]? =some x:=by have:=congrArg (λl:List Fv=>l[0]?) m;simpa [C5] using this
    have y:g[i]? =some k:=by have:=congrArg (λl:List Fv=>l[0]?) n;simpa [C5] using this
    have z:e.drop (i+1)=a:=by rw[<- HW,m];rfl
    have A:g.drop (i+1)=b:=by rw[<- HW,n];rfl
    have B:(part f.type (e.map Fv.v).toArray f.offset).run P c= .ok x.v c:=run_part_plain c (Fv.plain o) (by rw[q];simp[w]);have C:(part f.type (g.map Fv.v).toArray f.offset).run P c= .ok k.v c:=run_part_plain c (Fv.plain o) (by rw[q];simp[y]);have D:=u a b (i+1) z A v d.2
    have E : String.ofList [Char.ofNat 95] = "_" := by decide
    rw[E] at p
    have r : (f.name == "_") = false := by simpa using p
    simp only[Op.eqFields,r,Sem.run_bind,Sem.run_ite,B,C,Result.andThen_ok,ARF o d.1];by_cases s:x=k
    ·simp[s,D,Result.andThen]
    ·have F : f.name ≠ "_" := by simpa using r
     simp[s,Result.andThen,F]
def qL(P:Q1)(t:Q7)(a:List Fv):Bool:= !P.stoodInHeld t&& !P.eqGuardType P.depth t&&kT P 0 (P.fieldsOf t).toList a
theorem wk {e:ar}{P:Q1}{t:Q7}{f g:Operand}{xs ys:List Fv}(h:P.underlying t=some (.struct (P.fieldsOf t)))(a:qL P t xs=true)(i:cY xs ys=true){b c:Array J0}
  (j:b=(xs.map Fv.v).toArray) (k:c=(ys.map Fv.v).toArray) {d:aa} {K:A2O} (l:K (J3 (decide (xs=ys))) d):
  BI e P (do eqGuard .eql t f g (.agg b) (.agg c);binOp .eql t (.agg b) (.agg c)) d K:=by
 simp only[qL,A4,CI] at a;subst j;subst k;refine λm=>⟨_,d,m,?_,l⟩
 rw[Sem.run_bind,run_eqGuard_agg _ _ _ _ _ _ _ a.1.2,Result.andThen_ok,run_eql_struct,run_equalIn_agg _ _ _ _ _ h a.1.1,AQ3 xs ys _ _ xs ys 0 rfl rfl a.2 i];rfl
theorem af.two {a:aa}{b:Nat}{T:Q7}{f g d v1:J0}{K:aa->Prop}(h:a[b]? =some (J2 #[f,g] T (0,0)))
  (i: ∀c,c[b]? =some (J2 #[d,v1] T (0,0))->Mod (· =b) a c->c.size=a.size->K c):
  af a ⟨b,0,none⟩ d λe=>af e ((⟨b,0,none⟩:Q6).add 1) v1 K:=by
 refine af.mk h (by simp) λe j k o=>?_
 rw[Bf];refine af.mk j (by simp) λl m n p=>i l (by simpa using m) (k.trans n) (by omega)
theorem af.oX {a:aa}{b:Nat}{T:Q7}{m n o p q r d v1 v2 e f g:J0}{K:aa->Prop}(s:a[b]? =some (J2 #[m,n,o,p,q,r] T (0,0)))
  (t: ∀c,c[b]? =some (J2 #[d,v1,v2,e,f,g] T (0,0))->Mod (· =b) a c->c.size=a.size->K c):
  af a ⟨b,0,none⟩ d λh=>af h ((⟨b,0,none⟩:Q6).add 1) v1 λi=>af i ((⟨b,0,none⟩:Q6).add 2) v2 λj=>af j ((⟨b,0,none⟩:Q6).add 3) e λk=>af k ((⟨b,0,none⟩:Q6).add 4) f λl=>
   af l ((⟨b,0,none⟩:Q6).add 5) g K:=by
 refine af.mk s (by simp) λh u v H=>?_
 rw[Bf,Bf,Bf,Bf,Bf];refine af.mk u (by simp) λi w x I=>?_
 refine af.mk w (by simp) λj y z J=>?_
 refine af.mk y (by simp) λk A B L=>?_
 refine af.mk A (by simp) λl C D M=>?_
 refine af.mk C (by simp) λE F G N=>t E (by simpa using F) (((((v.trans x).trans z).trans B).trans D).trans G) (by omega)
theorem af.eight {a:aa}{b:Nat}{T:Q7}{q r s t u v w x d v1 v2 e f g h i:J0}{K:aa->Prop}(y:a[b]? =some (J2 #[q,r,s,t,u,v,w,x] T (0,0)))
  (z: ∀c,c[b]? =some (J2 #[d,v1,v2,e,f,g,h,i] T (0,0))->Mod (· =b) a c->c.size=a.size->K c):
  af a ⟨b,0,none⟩ d λj=>af j ((⟨b,0,none⟩:Q6).add 1) v1 λk=>af k ((⟨b,0,none⟩:Q6).add 2) v2 λl=>af l ((⟨b,0,none⟩:Q6).add 3) e λm=>af m ((⟨b,0,none⟩:Q6).add 4) f λn=>
   af n ((⟨b,0,none⟩:Q6).add 5) g λo=>af o ((⟨b,0,none⟩:Q6).add 6) h λp=>af p ((⟨b,0,none⟩:Q6).add 7) i K:=by
 refine af.mk y (by simp) λj A B S=>?_
 rw[Bf,Bf,Bf,Bf,Bf,Bf,Bf];refine af.mk A (by simp) λk C D U=>?_
 refine af.mk C (by simp) λl E F V=>?_
 refine af.mk E (by simp) λm G H W=>?_
 refine af.mk G (by simp) λn I J X=>?_
 refine af.mk I (by simp) λo L M Y=>?_
 refine af.mk L (by simp) λp N O Z=>?_
 refine af.mk N (by simp) λP Q R ab=>z P (by simpa using Q) (((((((B.trans D).trans F).trans H).trans J).trans M).trans O).trans R) (by omega)
theorem af.bM {a:aa}{b j:Nat}{v:J0}{d dJ:Array J0}{T:Q7}{K:aa->Prop}(e:a[b]? =some (J2 d T (0,0)))(f:j<d.size)(g:d.setIfInBounds j v=dJ)
  (h: ∀c,c[b]? =some (J2 dJ T (0,0))->Mod (· =b) a c->c.size=a.size->K c):af a ((⟨b,0,none⟩:Q6).add j) v K:=by
 rw[Bf,AI];exact af.mk e f λi k=>h i (by rw[<- g];exact k)
structure Ev where
 id:Int
 kind:Int
 tick:Int
 ref:Int
 step:Int
 turn:Int
 aM:Bool
 data:A2P
def dU:cF Ev where
 enc x:= [J6 J9 x.id,J6 J9 x.kind,J6 J9 x.tick,J6 J9 x.ref,J6 J9 x.step,J6 J9 x.turn,J3 x.aM,J7 x.data]
 w:=8
 len _:=rfl
 pos:=by omega
 one x v a:=by simp at a;rcases a with rfl|rfl|rfl|rfl|rfl|rfl|rfl|rfl<;>rfl
def Ev.fv(x:Ev):List Fv:= [.i x.id,.i x.kind,.i x.tick,.i x.ref,.i x.step,.i x.turn,.b x.aM,.s x.data]
theorem Ev.jy {x a:Ev}:x.fv=a.fv↔x=a:=by cases x;cases a;simp[Ev.fv]
instance:DecidableEq Ev:=λx y=>decidable_of_iff (x.fv=y.fv) Ev.jy
def cZ(a:Int):Bool:=decide (a=3\/a=4\/a=5\/a=11\/a=7\/a=8\/a=9)
def dr(a:Int):Bool:=decide (a=6\/a=10)
def dG(a:Int):Bool:=decide (a=7\/a=8\/a=9)
def dV(a:Int):Bool:=decide (a=6)
def eg(a:Int):Bool:=decide (a=1\/a=12)
def da(f:Bool)(a b c:Int):Bool:=if f then bW a b c else decide (a=0)
def Ed(a:Ev):Bool:=bW a.kind 1 18&&bW a.id 1 500&&bW a.tick 0 1099511627776&&da (cZ a.kind) a.ref 1 (a.id-1)&&da (dr a.kind) a.step 0 15&&da (dG a.kind) a.turn 1 5&&
 (!a.aM||dV a.kind)&&(decide (a.data=Ho)||eg a.kind)
def KC(a:Ev):Bool:=if a.kind=1 then(JG (bl a.data)).isSome else if a.kind=12 then Ak a.data else true
def Ej(a:Ev):Bool:=Ed a&&KC a
def TH(f:Bool)(a:Int):List UInt8:=if f then Bc a.toNat else []
def gU(f:Bool)(s:A2P):List UInt8:=if f then BR (bl s) else []
def Nf(a:Ev):List UInt8:=Bc a.id.toNat++(Bc a.kind.toNat++(Bc a.tick.toNat++(TH (cZ a.kind) a.ref++(TH (dr a.kind) a.step++(TH (dG a.kind) a.turn++(TH (dV a.kind) (if a.aM then 1 else 0)++gU (eg a.kind) a.data))))))
structure kg where
 id:Nat
 kind:Nat
 tick:Nat
 ref:Nat
 step:Nat
 turn:Nat
def kg.wide(b:kg):Prop:=500<=b.id/\18<=b.kind/\1099511627776<=b.tick/\500<=b.ref/\15<=b.step/\5<=b.turn
def fH:kg:=⟨500,18,1099511627776,500,15,5⟩
def Ei(f:Bool)(m:Nat)(a:Rd):Nat×Rd:=if f then CQ m a else(0,a)
def Tn(f:Bool)(a:Rd):List UInt8×Rd:=if f then GV a else([],a)
def P7(b:kg)(f:Rd):Ev×Rd:=
 let i:=CQ b.id f
 let c:=CQ b.kind i.2
 let t:=CQ b.tick c.2
 let a:=Ei (cZ c.1) b.ref t.2
 let s:=Ei (dr c.1) b.step a.2
 let d:=Ei (dG c.1) b.turn s.2
 let u:=Ei (dV c.1) 1 d.2
 let e:=Tn (eg c.1) u.2
 (⟨i.1,c.1,t.1,a.1,s.1,d.1,decide (u.1=1),AX e.1⟩,e.2)
def kh(l:List UInt8):Option Ev:=let x:=P7 fH ⟨l,false⟩;if Yb x.2&&Ej x.1 then some x.1 else none
theorem YN {f:Bool}{n:Int}{m:Nat}(a:da f n 0 m=true)(b:m<18446744073709551616)(t:List UInt8):Ei f m ⟨TH f n++t,false⟩=(n.toNat,⟨t,false⟩):=by
 cases f with
 |false=>simp[da] at a;subst a;rfl
 |true=>
  simp only[da,if_true,Ba] at a;simp only[Ei,TH,if_true];exact CP (by omega) (by omega) t
theorem qM {f:Bool}{a b c d e:Int}(g:da f a b c=true)(h:d<=b)(i:c<=e):da f a d e=true:=by
 cases f with
 |false=>exact g
 |true=>simp only[da,if_true,Ba] at g ⊢;omega
theorem qN {f:Bool}{a c d:Int}(b:da f a c d=true)(e:0<=c):((a.toNat:Nat):Int)=a:=by
 cases f with
 |false=>simp[da] at b;subst b;rfl
 |true=>simp only[da,if_true,Ba] at b;omega
theorem APl {f:Bool}{s:A2P}(a:(decide (s=Ho)||f)=true)(b:s.size<18446744073709551616)(t:List UInt8):Tn f ⟨gU f s++t,false⟩=(bl s,⟨t,false⟩):=by
 cases f with
 |false=>simp at a;subst a;rfl
 |true=>
  simp only[Tn,gU,if_true];exact IR (by rw[A7];exact b) t
theorem ME {a:Ev}(b:Ej a=true):Ed a=true:=by simp only[Ej,A4] at b;exact b.1
theorem AQC {b:kg}(l:b.wide)(e:b.ref<18446744073709551616/\b.step<18446744073709551616/\b.turn<18446744073709551616){c:Ev}(g:Ed c=true)(hd:c.data.size<18446744073709551616)(t:List UInt8):P7 b ⟨Nf c++t,false⟩=(c,⟨t,false⟩):=by
 obtain⟨id,a,tick,o,step,turn,d,p⟩:=c;simp only[Ed,A4] at g;obtain⟨⟨⟨⟨⟨⟨⟨q,r⟩,u⟩,h⟩,i⟩,j⟩,k⟩,v⟩:=g;obtain⟨M,N,O,P,Q,R⟩:=l;have S:=Ba.1 q;have T:=Ba.1 r;have U:=Ba.1 u;have w:=CP (n:=id.toNat) (most:=b.id) (by omega) (by omega);have x:=CP (n:=a.toNat) (most:=b.kind) (by omega) (by omega);have y:=CP (n:=tick.toNat) (most:=b.tick) (by omega) (by omega);have z:((a.toNat:Nat):Int)=a:=by omega
 have A:=YN (f:=cZ a) (n:=o) (m:=b.ref) (qM h (by omega) (by omega)) e.1;have B:=YN (f:=dr a) (n:=step) (m:=b.step) (qM i (by omega) (by omega)) e.2.1;have C:=YN (f:=dG a) (n:=turn) (m:=b.turn) (qM j (by omega) (by omega)) e.2.2;have D:=YN (f:=dV a) (n:=if d then 1 else 0) (m:=1) (by
  cases E:dV a with
  |true=>simp only[da,if_true,Ba];split<;>omega
  |false=>rw[E] at k;cases d<;>simp[da] at k ⊢) (by decide)
 have F:=APl (f:=eg a) (s:=p) v hd;simp only[P7,Nf,A3,w,x,y,z,A,B,C,D,F];have G:decide ((if d=true then(1:Int) else 0).toNat=1)=d:=by cases d<;>rfl
 have H:=qN h (by decide);have I:=qN i (by decide);have J:=qN j (by decide);have K:((id.toNat:Nat):Int)=id:=by omega
 have L:((tick.toNat:Nat):Int)=tick:=by omega
 rw[G,H,I,J,K,L,EE]
theorem VB {f:Bool}{m:Nat}{a:Rd}(b:(Ei f m a).2.bad=false):a.bad=false/\a.rest=TH f (Ei f m a).1++(Ei f m a).2.rest/\(Ei f m a).1<=m:=by
 cases f with
 |false=>exact⟨b,rfl,An _⟩
 |true=>
  simp only[Ei,TH,if_true,A6] at b ⊢;exact Fj b
theorem ANn {f:Bool}{a:Rd}(b:(Tn f a).2.bad=false):a.bad=false/\a.rest=gU f (AX (Tn f a).1)++(Tn f a).2.rest:=by
 cases f with
 |false=>exact⟨b,rfl⟩
 |true=>
  simp only[Tn,gU,if_true,EN] at b ⊢;exact RV b
theorem AMm {b:kg}{r:Rd}(c:(P7 b r).2.bad=false):r.bad=false/\r.rest=Nf (P7 b r).1++(P7 b r).2.rest:=by
 simp only[P7] at c ⊢;obtain⟨d,e⟩:=ANn c;obtain⟨f,g,h⟩:=VB d;obtain⟨i,j,_⟩:=VB f;obtain⟨k,l,_⟩:=VB i;obtain⟨m,n,_⟩:=VB k;obtain⟨o,p,_⟩:=Fj m;obtain⟨q,s,_⟩:=Fj o;obtain⟨t,u,_⟩:=Fj q;refine⟨t,?_⟩;simp only[Nf,A3,A6];rw[<- e];have v: ∀a:Nat,a<=1->(if decide (a=1)=true then(1:Int) else 0)=(a:Int):=λa w=>by
  have:a=0\/a=1:=by omega
  rcases this with rfl|rfl<;>rfl
 rw[v _ h,<-g,<-j,<-l,<-n,<-p,<-s,<-u]
theorem AJj {l:List UInt8}{c:Ev}(a:kh l=some c):Ej c=true/\Nf c=l:=by
 unfold kh at a;simp only at a;split at a
 ·rename_i e;simp only[A4] at e;obtain⟨d,g⟩:=e;obtain rfl:=BY a;refine⟨g,?_⟩;rw[w9] at d;obtain⟨_,f⟩:=AMm (b:=fH) (r:=⟨l,false⟩) (by rw[d]);rw[d] at f;simpa using f.symm
 ·cases a
theorem AOS:fH.wide:=⟨A0 _,A0 _,A0 _,A0 _,A0 _,A0 _⟩
theorem AKP {a:Ev}(c:Ed a=true):a.data.size<=(Nf a).length:=by
 simp only[Ed,A4] at c;have b:=c.2;cases d:eg a.kind with
 |false=>
  rw[d] at b;simp at b;rw[b];exact An _
 |true=>
  simp only[Nf,gU,d,if_true,BR,A1,A7];omega
theorem AM0 {l:List UInt8}{a:Ev}(e:l.length<18446744073709551616):kh l=some a↔Ej a=true/\Nf a=l:=by refine⟨AJj,λ⟨b,c⟩=>?_⟩;have d:=AKP (ME b);have:=AQC AOS ⟨by decide,by decide,by decide⟩ (ME b) (by rw[c] at d;omega) [];rw[AK,c] at this;unfold kh;simp only[this,b];rfl
structure Jb where
 id:Int
 step:Int
 aM:Bool
 turn:Int
def fq:cF Jb where
 enc x:= [J6 J9 x.id,J6 J9 x.step,J3 x.aM,J6 J9 x.turn]
 w:=4
 len _:=rfl
 pos:=by omega
 one x v a:=by simp at a;rcases a with rfl|rfl|rfl|rfl<;>rfl
structure Ck where
 id:Int
 step:Int
 tick:Int
def gg:cF Ck where
 enc x:= [J6 J9 x.id,J6 J9 x.step,J6 J9 x.tick]
 w:=3
 len _:=rfl
 pos:=by omega
 one x v a:=by simp at a;rcases a with rfl|rfl|rfl<;>rfl
structure bg where
 prog:ck
 status:Int
 next:Int
 ba:Int
 asked:Int
 taken:Int
 fresh:Bool
 aw:List Jb
 al:List Ck
 cancel:Bool
 aS:Bool
def Sy:bg:=⟨⟨[],0⟩,0,0,0,0,0,false,[],[],false,false⟩
def stepOf(p:ck)(a b:Int):Option bP:=if 0<=a then(p.steps[a.toNat]?).bind λx=>if x.kind=b then some x else none else none
def JO(p:ck)(a:Jb):Int:=match stepOf p a.step 1 with
 |none=>0
 |some x=>if a.aM then x.aC else x.tries
def mj(s:bg)(b turn:Int):Option Nat:=s.aw.findIdx? λa=>decide (a.id=b)&&decide (a.turn=turn)
def Dv(s:bg)(a:Ev):Option bg:=
 if a.kind=2 then(if s.asked=0/\s.taken=0/\s.fresh=true then some {s with asked:=a.id} else none)
 else if a.kind=3 then(if s.asked=a.ref then some {s with asked:=0,taken:=a.id,fresh:=false} else none)
 else if a.kind=4 then(if s.taken=a.ref then some {s with taken:=0} else none)
 else(if s.taken=a.ref then some {s with taken:=0,fresh:=true} else none)
def Li(s:bg)(a:Ev):Option bg:=
 if a.kind=6 then(stepOf s.prog a.step 1).bind λx=>if a.aM=true/\x.aM=Ho then none else some {s with aw:=s.aw++ [⟨a.id,a.step,a.aM,1⟩]}
 else(mj s a.ref a.turn).bind λi=>(s.aw[i]?).bind λb=>
  if a.kind=8 then(if a.turn=JO s.prog b then none else some {s with aw:=s.aw.set i {b with turn:=b.turn+1}})
  else if a.kind=7\/a.turn=JO s.prog b then some {s with aw:=s.aw.eraseIdx i,fresh:=true} else none
def KA(s:bg)(a:Ev):Option bg:=
 if a.kind=10 then(stepOf s.prog a.step 2).map λx=> {s with al:=s.al++ [⟨a.id,a.step,a.tick+x.wait⟩]}
 else(s.al.findIdx? λc=>decide (c.id=a.ref)&&decide (c.tick<=a.tick)).map λi=> {s with al:=s.al.eraseIdx i,fresh:=true}
def ik(s:bg)(status:Int):bg:= {s with status:=status,asked:=0,taken:=0,fresh:=false,aw:= [],al:= []}
def O6(s:bg):Prop:=s.asked=0/\s.taken=0/\s.aw= []
instance (s:bg):Decidable (O6 s):=decidable_of_iff (s.asked=0/\s.taken=0/\s.aw.length=0) (by simp[O6])
def KO(s:bg)(a:Ev):Option bg:=
 if a.kind=12 then some {s with fresh:=true}
 else if a.kind=13 then(if s.cancel=true then none else some {s with cancel:=true,fresh:=true})
 else if a.kind=14 then(if s.aS=true\/s.prog.aA=0\/a.tick<s.ba+s.prog.aA then none else some {s with aS:=true,fresh:=true})
 else if a.kind=18 then some (ik s 4)
 else if a.kind=15 then(if O6 s then some (ik s 1) else none)
 else if a.kind=16 then(if O6 s then some (ik s 2) else none)
 else if a.kind=17 then(if O6 s then some (ik s 3) else none)
 else none
def Pi(s:bg)(a:Ev):Option bg:=
 (if 2<=a.kind/\a.kind<=5 then Dv s a else if 6<=a.kind/\a.kind<=9 then Li s a else if a.kind=10\/a.kind=11 then KA s a else KO s a).map λt=> {t with next:=s.next+1}
def XL(a:Ev):bg:=⟨(JG (bl a.data)).getD ⟨[],0⟩,0,2,a.tick,0,0,true,[],[],false,false⟩
def Bo(s:bg)(a:Ev):Int×bg:=
 if Ej a=false then(120,Sy)
 else if s.next=0 then(if a.kind=1/\a.id=1 then(0,XL a) else(120,Sy))
 else if s.status≠0 then(182,Sy)
 else if a.id≠s.next then(120,Sy)
 else match Pi s a with
  |none=>(120,Sy)
  |some t=>(0,t)
def El(s:bg):List Ev->Option bg
 | []=>some s
 |e::l=>if(Bo s e).1=0 then El (Bo s e).2 l else none
theorem AEP {a b:List Ev}: ∀ {s:bg},El s (a++b)=(El s a).bind λt=>El t b:=by
 induction a with
 |nil=>intro s;rfl
 |cons d l c=>
  intro s;rw[Dd,El,El];split
  ·exact c
  ·rfl
theorem AIN {s t:bg}{l:List Ev}{a:Ev}(b:El s l=some t)(c:(Bo t a).1=0):El s (l++ [a])=some (Bo t a).2:=by rw[AEP,b];show El t [a]=_;rw[El,if_pos c,El]
theorem Qc {s:bg}{b:Ev}(a:(Bo s b).1=0):Ej b=true:=by
 unfold Bo at a;split at a
 ·cases a
 ·rename_i c;simpa using c
theorem xk {s:bg}{b:Ev}(a:(Bo s b).1=0):(s.next=0->b.id=1/\(Bo s b).2.next=2)/\(s.next≠0->b.id=s.next/\(Bo s b).2.next=s.next+1):=by
 unfold Bo at a ⊢;split at a
 ·cases a
 ·rename_i g;rw[if_neg g];split at a
  ·rename_i c;rw[if_pos c];split at a
   ·rename_i d;rw[if_pos d];exact⟨λ_=>⟨d.2,rfl⟩,λa=>absurd c a⟩
   ·cases a
  ·rename_i c;rw[if_neg c];split at a
   ·cases a
   ·rename_i d;rw[if_neg d];split at a
    ·cases a
    ·rename_i f;rw[if_neg f];cases e:Pi s b with
     |none=>rw[e] at a;cases a
     |some t=>
      refine⟨λa=>absurd a c,λ_=>⟨by simpa using f,?_⟩⟩;unfold Pi at e;obtain⟨h,-,rfl⟩:=Option.map_eq_some_iff.1 e;rfl
theorem AII: ∀ {l:List Ev} {s t:bg},El s l=some t->1<=s.next->t.next=s.next+l.length/\ ∀(i:Nat) (b:Ev),l[i]? =some b->b.id=s.next+i/\Ej b=true:=by
 intro l
 induction l with
 |nil=>intro s t a e;cases a;exact⟨by simp,λi b f=>by simp at f⟩
 |cons b l g=>
  intro s t a e;rw[El] at a;split at a
  ·rename_i d;have h:=(xk d).2 (by omega);obtain⟨j,k⟩:=g a (by omega);refine⟨by rw[j,h.2,A5];omega,λi x c=>?_⟩;cases i with
   |zero=>simp at c;subst c;exact⟨by omega,Qc d⟩
   |succ i=>
    have:=k i x (by simpa using c);exact⟨by omega,this.2⟩
  ·cases a
theorem xl {l:List Ev}{t:bg}(a:El Sy l=some t)(e:l≠ []):t.next=l.length+1/\ ∀(i:Nat) (b:Ev),l[i]? =some b->b.id=i+1/\Ej b=true:=by
 cases l with
 |nil=>exact absurd rfl e
 |cons b l=>
  rw[El] at a;split at a
  ·rename_i d;have f:=(xk d).1 rfl;obtain⟨g,h⟩:=AII a (by omega);refine⟨by rw[g,f.2,A5];omega,λi x c=>?_⟩;cases i with
   |zero=>simp at c;subst c;exact⟨by omega,Qc d⟩
   |succ i=>
    have:=h i x (by simpa using c);exact⟨by omega,this.2⟩
  ·cases a
def eQ:List UInt8->Option (List UInt8)
 | []=>none
 |a::p=>match eQ p with
  |some b=>some (a::b)
  |none=>if a<255 then some [a+1] else none
theorem wW {a b:UInt8}(c:a<255):b<a+1↔ ¬a<b:=by
 have e:a.toNat<255:=UInt8.lt_iff_toNat_lt.1 c;have d:(a+1).toNat=a.toNat+1:=by rw[UInt8.toNat_add];show(a.toNat+1) % 256=_;omega
 rw[UInt8.lt_iff_toNat_lt,UInt8.lt_iff_toNat_lt,d];omega
theorem ASy {a b:UInt8}(c: ¬a<255): ¬a<b:=λd=>by
 rw[UInt8.lt_iff_toNat_lt] at c d;have:b.toNat<256:=b.toNat_lt;have e:(255:UInt8).toNat=255:=rfl;omega
theorem wX: ∀(p j:List UInt8),(¬ j<p/\(∀ h,eQ p=some h->j<h))↔p <+: j
 | [],j=>by simp[eQ]
 |a::p,[]=>by
  constructor
  ·rintro⟨c,_⟩;exact absurd (List.nil_lt_cons a p) c
  ·intro c;exact absurd (List.prefix_nil.1 c) (by simp)
 |a::p,b::j=>by
  have s:=wX p j;have e: ∀ {x q:UInt8} {l m:List UInt8},x::l<q::m↔x<q\/x=q/\l<m:=A0f;rw[List.cons_prefix_cons,<-s];constructor
  ·rintro⟨o,f⟩;have r: ¬b<a:=λc=>o (e.2 (.inl c))
   have t: ¬a<b:=λc=>by
    unfold eQ at f;cases k:eQ p with
    |some h=>
     rw[k] at f;rcases e.1 (f _ rfl) with d|⟨d,_⟩
     ·exact r d
     ·subst d;exact UInt8.lt_irrefl _ c
    |none=>
     rw[k] at f;by_cases i:a<255
     ·have:=f [a+1] (by simp[i]);rcases e.1 this with d|⟨_,d⟩
      ·exact(wW i).1 d c
      ·exact absurd d (by simp)
     ·exact ASy i c
   have n:a=b:=by
    by_cases n:a=b
    ·exact n
    ·rcases UInt8.lt_or_lt_of_ne n with c|c
     ·exact absurd c t
     ·exact absurd c r
   subst n;refine⟨rfl,λc=>o (e.2 (.inr ⟨rfl,c⟩)),λh g=>?_⟩;have:=f (a::h) (by unfold eQ;rw[g]);rcases e.1 this with d|⟨_,d⟩
   ·exact absurd d (UInt8.lt_irrefl _)
   ·exact d
  ·rintro⟨rfl,o,f⟩;refine⟨λc=>?_,λh g=>?_⟩
   ·rcases e.1 c with d|⟨_,d⟩
    ·exact absurd d (UInt8.lt_irrefl _)
    ·exact o d
   ·unfold eQ at g;cases k:eQ p with
    |some u=>
     rw[k] at g;obtain rfl:=BY g;exact e.2 (.inr ⟨rfl,f u k⟩)
    |none=>
     rw[k] at g;by_cases i:a<255
     ·have n:h= [a+1]:=by simpa [i] using g.symm
      subst n;exact e.2 (.inl ((wW i).2 (UInt8.lt_irrefl _)))
     ·simp[i] at g
theorem qY: ∀ {p:List UInt8},(∀ x∈p,¬x<255)->eQ p=none
 | [],_=>rfl
 |a::p,b=>by
  unfold eQ;rw[qY λx c=>b x (AF _ c)];simp[b a Cl]
theorem wY: ∀ {p:List UInt8} {i:Nat} {a:UInt8},p[i]? =some a->a<255->(∀ x∈p.drop (i+1),¬x<255)->eQ p=some (p.take i++ [a+1])
 | [],i,a,c,_,_=>by simp at c
 |b::p,0,a,c,d,hd=>by
  simp at c;subst c;unfold eQ;rw[qY (by simpa using hd)];simp[d]
 |b::p,i+1,a,c,d,hd=>by
  unfold eQ;rw[wY (p:=p) (i:=i) (a:=a) (by simpa using c) d (by simpa using hd)];simp
def Kb(p a:A2P):Bool:=(p.data.toList).isPrefixOf a.data.toList
theorem Oe(p a:A2P):Kb p a=true↔p.data.toList <+: a.data.toList:=by unfold Kb;rw[List.isPrefixOf_iff_prefix]
def IY:Nat->Nat->List UInt8
 |0,_=> []
 |k+1,a=>IY k (a / 256)++ [Bq a]
theorem Kh: ∀(k a:Nat),(IY k a).length=k
 |0,_=>rfl
 |k+1,a=>by rw[IY,A1,Kh k];rfl
theorem Qk(a:Nat):Bq a=Bq (a % 256):=by apply UInt8.toNat_inj.1;simp[Bq,UInt8.toNat_ofNat']
theorem VA {a b:Nat}(c:a<256)(d:b<256)(e:Bq a=Bq b):a=b:=by have:=congrArg UInt8.toNat e;rwa [DR c,DR d] at this
theorem xn(a:Nat):IY 4 a= [Bq (a / 256 / 256 / 256),Bq (a / 256 / 256),Bq (a / 256),Bq a]:=rfl
theorem AQd {a b:Nat}(i:b<65536)(j:a<b):IY 4 a<IY 4 b:=by
 rw[xn,xn];have d:a / 256 / 256=0:=by omega
 have e:b / 256 / 256=0:=by omega
 rw[d,e];have lt: ∀ {x c:Nat},c<256->x<c->Bq x<Bq c:=λ{x c} f g=>by
  rw[UInt8.lt_iff_toNat_lt,DR f,DR (by omega)];exact g
 refine List.Lex.cons (List.Lex.cons ?_);by_cases h:a / 256=b / 256
 ·rw[h];refine List.Lex.cons (List.Lex.rel ?_);rw[Qk a,Qk b];exact lt (by omega) (by omega)
 ·exact List.Lex.rel (lt (by omega) (by omega))
theorem xo(p:List UInt8){a b:List UInt8}(d:a<b):p++a<p++b:=by
 induction p with
 |nil=>exact d
 |cons c p e=>exact List.Lex.cons e
def kE:UInt8:=104
def kW(wid:A2P):List UInt8:=kE::BR (bl wid)
def Ww(wid:A2P):A2P:=AX (kW wid)
def eo(wid:A2P)(id:Nat):A2P:=AX (kW wid++IY 4 id)
def KY(wid:A2P):A2P:=AX (119::bl wid)
def Ka(a:A2P):A2P:=AX (114::bl a)
def DF(a id:Nat):A2P:=AX (116::Bq a::IY 8 id)
def R4(a b id:Nat):A2P:=AX (109::Bq a::(IY 8 b++IY 8 id))
theorem xp {s:A2P}(a:s.size<=16):BR (bl s)=Bq s.size::bl s:=by unfold BR;rw[A7,FR (by omega)];rfl
theorem RU {wid:A2P}(a:wid.size<=16):kW wid=104::Bq wid.size::bl wid:=by unfold kW;rw[xp a];rfl
theorem APB {wid:A2P}(a:wid.size<=16)(id:Nat):(eo wid id).size<=22:=by unfold eo;rw[AP,A1,Kh,RU a];simp only[A5,A7];omega
theorem ANG {wid:A2P}(a:wid.size<=16):(Ww wid).size<=18:=by unfold Ww;rw[AP,RU a];simp only[A5,A7];omega
theorem Rn(wid:A2P):(KY wid).size=wid.size+1:=by unfold KY;rw[AP,A5,A7]
theorem VN(a:A2P):(Ka a).size=a.size+1:=by unfold Ka;rw[AP,A5,A7]
theorem Ms(a id:Nat):(DF a id).size=10:=by unfold DF;rw[AP];rfl
theorem xq(b a id:Nat):(R4 b a id).size=18:=by unfold R4;rw[AP];rfl
theorem mo {wid:A2P}{i a:Nat}(b:a<65536)(c:i<a):aO (eo wid i) (eo wid a)=true:=by rw[VT,decide_eq_true_eq];unfold eo;rw[Bh,Bh];exact xo _ (AQd b c)
theorem xt(wid:A2P)(id:Nat):Kb (Ww wid) (eo wid id)=true:=by rw[Oe];unfold Ww eo;rw[Bh,Bh];exact List.prefix_append _ _
theorem xu {wid a:A2P}(d:wid.size<=16)(e:a.size<=16){id:Nat}(b:Kb (Ww wid) (eo a id)=true):wid=a:=by rw[Oe] at b;unfold Ww eo at b;rw[Bh,Bh,RU d,RU e] at b;obtain⟨t,c⟩:=b;simp only[Dd,G3,true_and] at c;have f:=VA (by omega) (by omega) c.1;have:=(List.append_inj c.2 (by rw[A7,A7];exact f)).1;rw[<- EE wid,<-EE a];exact congrArg AX this
theorem AQV {wid b:A2P}(e:wid.size<=16)(f:b.size<=16){i c:Nat}(g:i<65536)(h:c<65536)(d:eo wid i=eo b c):wid=b/\i=c:=by
 have j:wid=b:=xu e f (by rw[<- d];exact xt wid i);subst j;refine⟨rfl,?_⟩;rcases HK i c with a|a|a
 ·exact absurd d (Lj (mo h a))
 ·exact a
 ·exact absurd d.symm (Lj (mo g a))
theorem ANi {a b:A2P}(c:KY a=KY b):a=b:=by have:=Mj.1 c;simp only[G3,true_and] at this;rw[<- EE a,<-EE b];exact congrArg AX this
theorem xw {a b:A2P}(c:Ka a=Ka b):a=b:=by have:=Mj.1 c;simp only[G3,true_and] at this;rw[<- EE a,<-EE b];exact congrArg AX this
def BL(a:A2P):UInt8:=(bl a).headD 0
theorem Ym(wid:A2P)(id:Nat):BL (eo wid id)=104:=by unfold BL eo;rw[EN];rfl
theorem GG(wid:A2P):BL (KY wid)=119:=by unfold BL KY;rw[EN];rfl
theorem LH(wid:A2P):BL (Ka wid)=114:=by unfold BL Ka;rw[EN];rfl
theorem R5(a id:Nat):BL (DF a id)=116:=by unfold BL DF;rw[EN];rfl
theorem xy(b a id:Nat):BL (R4 b a id)=109:=by unfold BL R4;rw[EN];rfl
theorem qZ {wid a:A2P}(b:Kb (Ww wid) a=true):BL a=104:=by rw[Oe] at b;obtain⟨t,c⟩:=b;unfold BL;show(a.data.toList).headD 0=104;rw[<- c];unfold Ww;rw[Bh];rfl
def QS(status next:Nat)(a:Bool):A2P:=AX (Bc status++(Bc next++Bc (if a then 1 else 0)))
def iL(a:List UInt8)(status next:Nat):A2P:=AX (BR a++(Bc status++Bc next))
def mq(a:Nat)(wid:A2P)(b turn:Nat):A2P:=AX (Bc a++(BR (bl wid)++(Bc b++Bc turn)))
theorem Fb {n:Nat}(a:n<16384):(Bc n).length<=2:=xV 1 n (by omega)
theorem xA {kind ref turn:Nat}{wid:A2P}(a:kind<128)(b:wid.size<=16)(c:ref<=500)(d:turn<=5):(mq kind wid ref turn).size<=22:=by unfold mq;have:=Fb (n:=ref) (by omega);rw[AP,FR a,xp b,FR (n:=turn) (by omega)];simp only[A1,A5,A7,GO];omega
theorem AKV {status next:Nat}{kept:Bool}(a:status<128)(b:next<=501):(QS status next kept).size<=4:=by unfold QS;have:=Fb (n:=next) (by omega);rw[AP,FR a,FR (n:=if kept then 1 else 0) (by split<;>omega)];simp only[A1,A5,GO];omega
structure bz where
 wid:A2P
 aq:Nat
 cu:Int
 bX:Int
 kept:Bool
 st:bg
 more:List Ev
 au:List Pr
 conds:List Pr
 err:Int
 now:Int
def jc(s:bg):Bool:=decide (s.next<=497)
def Hy(wid:A2P)(b:Nat)(c d:Int)(e:Bool)(st:bg)(a:Int):bz:=
 ⟨wid,b,c,d,e,st,[],[],[],if a<0\/1099511611776<a then 1 else 0,a⟩
def Cq(a:bz)(b:Ev):Ev:= {b with id:=if 1>a.st.next then 1 else a.st.next,tick:=a.now}
def Dn(a:bz)(b:Ev):bz:=
 if a.err≠0 then a
 else if a.more= []/\jc a.st=false/\b.kind≠18 then {a with err:=2}
 else if(Bo a.st (Cq a b)).1≠0 then {a with err:=(Bo a.st (Cq a b)).1}
 else {a with st:=(Bo a.st (Cq a b)).2,more:=a.more++ [Cq a b]}
def Sa(a:bz):Int:=a.st.next-1
structure fO where
 kind:Int
 ref:Int
 turn:Int
def Gx(t:fO)(wid:A2P):Bool:=bW t.kind 1 7&&Ak wid&&bW t.ref 0 500&&bW t.turn 0 5
def Zy(t:fO)(wid:A2P):A2P:=mq t.kind.toNat wid t.ref.toNat t.turn.toNat
def MF(a:Nat)(tick:Int)(b:Nat):A2P:=if tick<0 then DF a b else R4 a tick.toNat b
def Du(a:bz)(t:fO)(tick:Int)(b:Nat):bz:=
 if a.err≠0 then a
 else if Gx t a.wid=false then {a with err:=1}
 else {a with au:=a.au++ [⟨MF a.aq tick b,Zy t a.wid,false⟩]}
def iM(a:bz)(key val:A2P):bz:= {a with conds:=a.conds++ [⟨key,val,false⟩],au:=a.au++ [⟨key,⟨#[]⟩,true⟩]}
def om(a:bz)(key val:A2P):bz:= {a with conds:=a.conds++ [⟨key,⟨#[]⟩,true⟩],au:=a.au++ [⟨key,val,false⟩]}
def EG(a:bz):Bool:=decide (a.more≠ [])&&(decide (a.st.status=0)&&(a.st.fresh&&(decide (a.st.asked=0)&&decide (a.st.taken=0))))
def Dh(a:bz):Int×Int:=(a.st.status,if EG a then a.st.next+1 else a.st.next)
def bD(a:bz):Pr:=if 0<a.bX then⟨KY a.wid,QS a.cu.toNat a.bX.toNat a.kept,false⟩ else⟨KY a.wid,⟨#[]⟩,true⟩
def Ol(wid:A2P)(a:Ev):Pr:=⟨eo wid a.id.toNat,AX (Nf a),false⟩
def EA(a:bz):List Pr:=a.more.map (Ol a.wid)++(if a.more= [] then [] else [⟨KY a.wid,QS a.st.status.toNat a.st.next.toNat false,false⟩])
structure bz.a0n (C:bz):Prop where
 pos:C.err=0-> ∀e∈C.more,Ej e=true
 err0:0<=C.err
theorem OH(a:bz)(b:Ev):(Dn a b).wid=a.wid/\(Dn a b).aq=a.aq/\(Dn a b).cu=a.cu/\(Dn a b).bX=a.bX/\(Dn a b).kept=a.kept/\(Dn a b).au=a.au/\(Dn a b).conds=a.conds/\(Dn a b).now=a.now:=by
 unfold Dn;split
 ·simp
 ·split
  ·simp
  ·split<;>simp
theorem ra {a:bz}{e:Ev}(d:a.err=0)(f:a.more≠ []\/a.st.next<=497\/e.kind=18)(g:(Bo a.st (Cq a e)).1=0):
  Dn a e= {a with st:=(Bo a.st (Cq a e)).2,more:=a.more++ [Cq a e]}:=by
 unfold Dn;rw[if_neg (by simp[d]),if_neg (by
  rintro⟨h,c,i⟩;rcases f with b|b|b
  ·exact b h
  ·unfold jc at c;simp at c;omega
  ·exact i b),if_neg (by simp[g])]
def re(a:Q6):aa->Nat->List J0->(aa->Prop)->Prop
 |h,_,[],K=>K h
 |h,i,v::b,K=>af h (a.add i) v λc=>re a c (i+1) b K
def aF(b:aa)(a:Q6)(c:List J0)(K:aa->Prop):Prop:=re a b 0 c K
def gv(a:Array J0)(b:Nat)(c:List J0):Array J0:=⟨a.toList.take b++(c++a.toList.drop (b+c.length))⟩
theorem ANd {c:Array J0}{a:Nat}{v:J0}{b:List J0}(d:a<c.size):gv (c.setIfInBounds a v) (a+1) b=gv c a (v::b):=by
 obtain⟨l⟩:=c;have d:a<l.length:=d;unfold gv;apply congrArg Array.mk;simp only[Wa,A5];have e:l.set a v=l.take a++v::l.drop (a+1):=by rw[A03,if_pos d]
 rw[e,Kx,PJ,Ax,Fk (by omega)];rw[show a+1-a=1 from by omega,Se,LS (by omega),show a+1+b.length-a=b.length+1 from by omega];rw[HD (l:=l.take a) (by rw[Ax];omega)];simp only[I0,I3,CT,HU,HW,A3,Dd];rw[show a+1+b.length=a+(b.length+1) from by omega]
theorem AP3 {a:Array J0}{b:Nat}:gv a b []=a:=by obtain⟨l⟩:=a;unfold gv;simp
theorem xD {b c:Nat}{T:Q7}{K:aa->Prop}: ∀(d:List J0) (i:Nat) {a:aa} {e:Array J0},a[b]? =some (J2 e T (0,0))->c+i+d.length<=e.size->
  (∀ f,f[b]? =some (J2 (gv e (c+i) d) T (0,0))->Mod (· =b) a f->f.size=a.size->K f)->re ⟨b,c,none⟩ a i d K
 | [],i,a,e,g,_,h=>h a (by rw[AP3];exact g) ⟨A0 _,λ_ _ _=>rfl⟩ rfl
 |v::d,i,a,e,g,k,h=>by
  rw[A5] at k;show af a (Addr.add ⟨b,c,none⟩ i) v _;rw[Bf];refine af.mk g (by omega) λp l m q=>?_
  refine xD d (i+1) l (by simp;omega) λn j o r=>h n ?_ (m.trans o) (by omega)
  rw[show c+(i+1)=c+i+1 from by omega,ANd (by omega)] at j;exact j
theorem aF.mk {b e:Nat}{T:Q7}{K:aa->Prop}{a:List J0}{c:aa}{f:Array J0}(g:c[b]? =some (J2 f T (0,0)))(h:e+a.length<=f.size)
  (i: ∀d,d[b]? =some (J2 (gv f e a) T (0,0))->Mod (· =b) c d->d.size=c.size->K d):aF c ⟨b,e,none⟩ a K:=xD a 0 g h i
theorem Cr {c:aa}{b o:Nat}{d:Array J0}{T:Q7}{fr:Nat×Nat}{l:List J0}(e:c[b]? =some (J2 d T fr))(f:(d.toList.drop o).take l.length=l):Cells c ⟨b,o,none⟩ l:=λg v a=>by
 rw[Bf];refine AO e ?_;rw[<- A0u,<-C5];have h:=(List.getElem?_eq_some_iff.1 a).1;rw[<- f,Ek,if_pos (by omega)] at a;exact a
abbrev Ev.l(x:Ev):List J0:= [J6 J9 x.id,J6 J9 x.kind,J6 J9 x.tick,J6 J9 x.ref,J6 J9 x.step,J6 J9 x.turn,J3 x.aM,J7 x.data]
abbrev Ev.c(x:Ev):Array J0:= #[J6 J9 x.id,J6 J9 x.kind,J6 J9 x.tick,J6 J9 x.ref,J6 J9 x.step,J6 J9 x.turn,J3 x.aM,J7 x.data]
abbrev Ev.v(x:Ev):J0:= .agg #[J6 J9 x.id,J6 J9 x.kind,J6 J9 x.tick,J6 J9 x.ref,J6 J9 x.step,J6 J9 x.turn,J3 x.aM,J7 x.data]
abbrev Ev.z:Ev:=⟨0,0,0,0,0,0,false,⟨#[]⟩⟩
abbrev Ev.s:List Sc:= [.int J9,.int J9,.int J9,.int J9,.int J9,.int J9,.bool,.str]
abbrev Ev.T:Type:=Int×Int×Int×Int×Int×Int×Bool×A2P×Unit
abbrev Ev.t(x:Ev):Ev.T:=(x.id,x.kind,x.tick,x.ref,x.step,x.turn,x.aM,x.data,())
def ox(K:Ev->Prop):Prop:= ∃a:Int,∃b:Int,∃c:Int,∃d:Int,∃e:Int,∃f:Int,∃g:Bool,∃h:A2P,K ⟨a,b,c,d,e,f,g,h⟩
theorem ox.mk {K:Ev->Prop}(x:Ev)(a:K x):ox K:=⟨x.id,x.kind,x.tick,x.ref,x.step,x.turn,x.aM,x.data,a⟩
def Np(b:aa)(a:Q6)(K:Ev->Prop):Prop:=
 AC J9 b a λc=>
 AC J9 b (a.add 1) λd=>
 AC J9 b (a.add 2) λe=>
 AC J9 b (a.add 3) λf=>
 AC J9 b (a.add 4) λg=>
 AC J9 b (a.add 5) λh=>
 Ac b (a.add 6) λi=>
 AJ b (a.add 7) λj=>
 K ⟨c,d,e,f,g,h,i,j⟩
theorem Np.mk {b:aa}{a:Q6}{K:Ev->Prop}(x:Ev)(c:Cells b a x.l)(d:K x):Np b a K:=
 ⟨_,by have:=c 0 _ rfl;rwa [add_zero] at this,_,c 1 _ rfl,_,c 2 _ rfl,_,c 3 _ rfl,_,c 4 _ rfl,_,c 5 _ rfl,_,c 6 _ rfl,_,c 7 _ rfl,d⟩
abbrev Jb.l(x:Jb):List J0:= [J6 J9 x.id,J6 J9 x.step,J3 x.aM,J6 J9 x.turn]
abbrev Jb.c(x:Jb):Array J0:= #[J6 J9 x.id,J6 J9 x.step,J3 x.aM,J6 J9 x.turn]
abbrev Jb.v(x:Jb):J0:= .agg #[J6 J9 x.id,J6 J9 x.step,J3 x.aM,J6 J9 x.turn]
abbrev Jb.z:Jb:=⟨0,0,false,0⟩
abbrev Jb.s:List Sc:= [.int J9,.int J9,.bool,.int J9]
abbrev Jb.T:Type:=Int×Int×Bool×Int×Unit
abbrev Jb.t(x:Jb):Jb.T:=(x.id,x.step,x.aM,x.turn,())
def kX(b:aa)(a:Q6)(K:Jb->Prop):Prop:=
 AC J9 b a λc=>
 AC J9 b (a.add 1) λd=>
 Ac b (a.add 2) λe=>
 AC J9 b (a.add 3) λf=>
 K ⟨c,d,e,f⟩
theorem kX.mk {b:aa}{a:Q6}{K:Jb->Prop}(x:Jb)(c:Cells b a x.l)(d:K x):kX b a K:=
 ⟨_,by have:=c 0 _ rfl;rwa [add_zero] at this,_,c 1 _ rfl,_,c 2 _ rfl,_,c 3 _ rfl,d⟩
abbrev Ck.l(x:Ck):List J0:= [J6 J9 x.id,J6 J9 x.step,J6 J9 x.tick]
abbrev Ck.c(x:Ck):Array J0:= #[J6 J9 x.id,J6 J9 x.step,J6 J9 x.tick]
abbrev Ck.v(x:Ck):J0:= .agg #[J6 J9 x.id,J6 J9 x.step,J6 J9 x.tick]
abbrev Ck.z:Ck:=⟨0,0,0⟩
abbrev Ck.s:List Sc:= [.int J9,.int J9,.int J9]
abbrev Ck.T:Type:=Int×Int×Int×Unit
abbrev Ck.t(x:Ck):Ck.T:=(x.id,x.step,x.tick,())
def oy(b:aa)(a:Q6)(K:Ck->Prop):Prop:=
 AC J9 b a λc=>
 AC J9 b (a.add 1) λd=>
 AC J9 b (a.add 2) λe=>
 K ⟨c,d,e⟩
theorem oy.mk {b:aa}{a:Q6}{K:Ck->Prop}(x:Ck)(c:Cells b a x.l)(d:K x):oy b a K:=
 ⟨_,by have:=c 0 _ rfl;rwa [add_zero] at this,_,c 1 _ rfl,_,c 2 _ rfl,d⟩
abbrev bP.l(x:bP):List J0:= [J6 J9 x.kind,J7 x.name,J7 x.aM,J6 J9 x.tries,J6 J9 x.aC,J6 J9 x.wait]
abbrev bP.c(x:bP):Array J0:= #[J6 J9 x.kind,J7 x.name,J7 x.aM,J6 J9 x.tries,J6 J9 x.aC,J6 J9 x.wait]
abbrev bP.v(x:bP):J0:= .agg #[J6 J9 x.kind,J7 x.name,J7 x.aM,J6 J9 x.tries,J6 J9 x.aC,J6 J9 x.wait]
abbrev bP.z:bP:=⟨0,⟨#[]⟩,⟨#[]⟩,0,0,0⟩
abbrev bP.s:List Sc:= [.int J9,.str,.str,.int J9,.int J9,.int J9]
abbrev bP.T:Type:=Int×A2P×A2P×Int×Int×Int×Unit
abbrev bP.t(x:bP):bP.T:=(x.kind,x.name,x.aM,x.tries,x.aC,x.wait,())
def jd(K:bP->Prop):Prop:= ∃a:Int,∃b:A2P,∃c:A2P,∃d:Int,∃e:Int,∃f:Int,K ⟨a,b,c,d,e,f⟩
theorem jd.mk {K:bP->Prop}(x:bP)(a:K x):jd K:=⟨x.kind,x.name,x.aM,x.tries,x.aC,x.wait,a⟩
def Xt(b:aa)(a:Q6)(K:bP->Prop):Prop:=
 AC J9 b a λc=>
 AJ b (a.add 1) λd=>
 AJ b (a.add 2) λe=>
 AC J9 b (a.add 3) λf=>
 AC J9 b (a.add 4) λg=>
 AC J9 b (a.add 5) λh=>
 K ⟨c,d,e,f,g,h⟩
theorem Xt.mk {b:aa}{a:Q6}{K:bP->Prop}(x:bP)(c:Cells b a x.l)(d:K x):Xt b a K:=
 ⟨_,by have:=c 0 _ rfl;rwa [add_zero] at this,_,c 1 _ rfl,_,c 2 _ rfl,_,c 3 _ rfl,_,c 4 _ rfl,_,c 5 _ rfl,d⟩
structure bH where
 steps:Sl
 aA:Int
 status:Int
 next:Int
 ba:Int
 asked:Int
 taken:Int
 fresh:Bool
 aw:Sl
 al:Sl
 cancel:Bool
 aS:Bool
abbrev bH.l(x:bH):List J0:= [J4 x.steps.p x.steps.len x.steps.cap,J6 J9 x.aA,J6 J9 x.status,J6 J9 x.next,J6 J9 x.ba,J6 J9 x.asked,J6 J9 x.taken,J3 x.fresh,J4 x.aw.p x.aw.len x.aw.cap,J4 x.al.p x.al.len x.al.cap,J3 x.cancel,J3 x.aS]
abbrev bH.c(x:bH):Array J0:= #[J4 x.steps.p x.steps.len x.steps.cap,J6 J9 x.aA,J6 J9 x.status,J6 J9 x.next,J6 J9 x.ba,J6 J9 x.asked,J6 J9 x.taken,J3 x.fresh,J4 x.aw.p x.aw.len x.aw.cap,J4 x.al.p x.al.len x.al.cap,J3 x.cancel,J3 x.aS]
abbrev bH.v(x:bH):J0:= .agg #[J4 x.steps.p x.steps.len x.steps.cap,J6 J9 x.aA,J6 J9 x.status,J6 J9 x.next,J6 J9 x.ba,J6 J9 x.asked,J6 J9 x.taken,J3 x.fresh,J4 x.aw.p x.aw.len x.aw.cap,J4 x.al.p x.al.len x.al.cap,J3 x.cancel,J3 x.aS]
abbrev bH.z:bH:=⟨⟨none,0,0⟩,0,0,0,0,0,0,false,⟨none,0,0⟩,⟨none,0,0⟩,false,false⟩
abbrev bH.s:List Sc:= [.sl,.int J9,.int J9,.int J9,.int J9,.int J9,.int J9,.bool,.sl,.sl,.bool,.bool]
abbrev bH.T:Type:=Sl×Int×Int×Int×Int×Int×Int×Bool×Sl×Sl×Bool×Bool×Unit
abbrev bH.t(x:bH):bH.T:=(x.steps,x.aA,x.status,x.next,x.ba,x.asked,x.taken,x.fresh,x.aw,x.al,x.cancel,x.aS,())
def Gl(K:bH->Prop):Prop:= ∃a:Sl,∃b:Int,∃c:Int,∃d:Int,∃e:Int,∃f:Int,∃g:Int,∃h:Bool,∃i:Sl,∃j:Sl,∃k:Bool,∃l:Bool,K ⟨a,b,c,d,e,f,g,h,i,j,k,l⟩
theorem Gl.mk {K:bH->Prop}(x:bH)(a:K x):Gl K:=⟨x.steps,x.aA,x.status,x.next,x.ba,x.asked,x.taken,x.fresh,x.aw,x.al,x.cancel,x.aS,a⟩
def Az(b:aa)(a:Q6)(K:bH->Prop):Prop:=
 AZ b a λc=>
 AC J9 b (a.add 1) λd=>
 AC J9 b (a.add 2) λe=>
 AC J9 b (a.add 3) λf=>
 AC J9 b (a.add 4) λg=>
 AC J9 b (a.add 5) λh=>
 AC J9 b (a.add 6) λi=>
 Ac b (a.add 7) λj=>
 AZ b (a.add 8) λk=>
 AZ b (a.add 9) λl=>
 Ac b (a.add 10) λm=>
 Ac b (a.add 11) λn=>
 K ⟨c,d,e,f,g,h,i,j,k,l,m,n⟩
theorem Az.mk {b:aa}{a:Q6}{K:bH->Prop}(x:bH)(c:Cells b a x.l)(d:K x):Az b a K:=
 ⟨_,by have:=c 0 _ rfl;rwa [add_zero] at this,_,c 1 _ rfl,_,c 2 _ rfl,_,c 3 _ rfl,_,c 4 _ rfl,_,c 5 _ rfl,_,c 6 _ rfl,_,c 7 _ rfl,_,c 8 _ rfl,_,c 9 _ rfl,_,c 10 _ rfl,_,c 11 _ rfl,d⟩
structure cR where
 status:Int
 next:Int
 kept:Bool
abbrev cR.l(x:cR):List J0:= [J6 J9 x.status,J6 J9 x.next,J3 x.kept]
abbrev cR.c(x:cR):Array J0:= #[J6 J9 x.status,J6 J9 x.next,J3 x.kept]
abbrev cR.v(x:cR):J0:= .agg #[J6 J9 x.status,J6 J9 x.next,J3 x.kept]
abbrev cR.z:cR:=⟨0,0,false⟩
abbrev cR.s:List Sc:= [.int J9,.int J9,.bool]
abbrev cR.T:Type:=Int×Int×Bool×Unit
abbrev cR.t(x:cR):cR.T:=(x.status,x.next,x.kept,())
def oz(K:cR->Prop):Prop:= ∃a:Int,∃b:Int,∃c:Bool,K ⟨a,b,c⟩
theorem oz.mk {K:cR->Prop}(x:cR)(a:K x):oz K:=⟨x.status,x.next,x.kept,a⟩
def OU(b:aa)(a:Q6)(K:cR->Prop):Prop:=
 AC J9 b a λc=>
 AC J9 b (a.add 1) λd=>
 Ac b (a.add 2) λe=>
 K ⟨c,d,e⟩
theorem OU.mk {b:aa}{a:Q6}{K:cR->Prop}(x:cR)(c:Cells b a x.l)(d:K x):OU b a K:=
 ⟨_,by have:=c 0 _ rfl;rwa [add_zero] at this,_,c 1 _ rfl,_,c 2 _ rfl,d⟩
structure bT where
 wid:A2P
 aq:Int
 me:cR
 cJ:Sl
 st:bH
abbrev bT.l(x:bT):List J0:= [J7 x.wid,J6 J9 x.aq,J6 J9 x.me.status,J6 J9 x.me.next,J3 x.me.kept,J4 x.cJ.p x.cJ.len x.cJ.cap,J4 x.st.steps.p x.st.steps.len x.st.steps.cap,J6 J9 x.st.aA,J6 J9 x.st.status,J6 J9 x.st.next,J6 J9 x.st.ba,J6 J9 x.st.asked,J6 J9 x.st.taken,J3 x.st.fresh,J4 x.st.aw.p x.st.aw.len x.st.aw.cap,J4 x.st.al.p x.st.al.len x.st.al.cap,J3 x.st.cancel,J3 x.st.aS]
abbrev bT.c(x:bT):Array J0:= #[J7 x.wid,J6 J9 x.aq,J6 J9 x.me.status,J6 J9 x.me.next,J3 x.me.kept,J4 x.cJ.p x.cJ.len x.cJ.cap,J4 x.st.steps.p x.st.steps.len x.st.steps.cap,J6 J9 x.st.aA,J6 J9 x.st.status,J6 J9 x.st.next,J6 J9 x.st.ba,J6 J9 x.st.asked,J6 J9 x.st.taken,J3 x.st.fresh,J4 x.st.aw.p x.st.aw.len x.st.aw.cap,J4 x.st.al.p x.st.al.len x.st.al.cap,J3 x.st.cancel,J3 x.st.aS]
abbrev bT.v(x:bT):J0:= .agg #[J7 x.wid,J6 J9 x.aq,J6 J9 x.me.status,J6 J9 x.me.next,J3 x.me.kept,J4 x.cJ.p x.cJ.len x.cJ.cap,J4 x.st.steps.p x.st.steps.len x.st.steps.cap,J6 J9 x.st.aA,J6 J9 x.st.status,J6 J9 x.st.next,J6 J9 x.st.ba,J6 J9 x.st.asked,J6 J9 x.st.taken,J3 x.st.fresh,J4 x.st.aw.p x.st.aw.len x.st.aw.cap,J4 x.st.al.p x.st.al.len x.st.al.cap,J3 x.st.cancel,J3 x.st.aS]
abbrev bT.z:bT:=⟨⟨#[]⟩,0,⟨0,0,false⟩,⟨none,0,0⟩,⟨⟨none,0,0⟩,0,0,0,0,0,0,false,⟨none,0,0⟩,⟨none,0,0⟩,false,false⟩⟩
abbrev bT.s:List Sc:= [.str,.int J9,.int J9,.int J9,.bool,.sl,.sl,.int J9,.int J9,.int J9,.int J9,.int J9,.int J9,.bool,.sl,.sl,.bool,.bool]
abbrev bT.T:Type:=A2P×Int×Int×Int×Bool×Sl×Sl×Int×Int×Int×Int×Int×Int×Bool×Sl×Sl×Bool×Bool×Unit
abbrev bT.t(x:bT):bT.T:=(x.wid,x.aq,x.me.status,x.me.next,x.me.kept,x.cJ,x.st.steps,x.st.aA,x.st.status,x.st.next,x.st.ba,x.st.asked,x.st.taken,x.st.fresh,x.st.aw,x.st.al,x.st.cancel,x.st.aS,())
def SS(K:bT->Prop):Prop:= ∃a:A2P,∃b:Int,∃c:Int,∃d:Int,∃e:Bool,∃f:Sl,∃g:Sl,∃h:Int,∃i:Int,∃j:Int,∃k:Int,∃l:Int,∃m:Int,∃n:Bool,∃o:Sl,∃p:Sl,∃q:Bool,∃r:Bool,K ⟨a,b,⟨c,d,e⟩,f,⟨g,h,i,j,k,l,m,n,o,p,q,r⟩⟩
theorem SS.mk {K:bT->Prop}(x:bT)(a:K x):SS K:=⟨x.wid,x.aq,x.me.status,x.me.next,x.me.kept,x.cJ,x.st.steps,x.st.aA,x.st.status,x.st.next,x.st.ba,x.st.asked,x.st.taken,x.st.fresh,x.st.aw,x.st.al,x.st.cancel,x.st.aS,a⟩
def F5(b:aa)(a:Q6)(K:bT->Prop):Prop:=
 AJ b a λc=>
 AC J9 b (a.add 1) λd=>
 AC J9 b (a.add 2) λe=>
 AC J9 b (a.add 3) λf=>
 Ac b (a.add 4) λg=>
 AZ b (a.add 5) λh=>
 AZ b (a.add 6) λi=>
 AC J9 b (a.add 7) λj=>
 AC J9 b (a.add 8) λk=>
 AC J9 b (a.add 9) λl=>
 AC J9 b (a.add 10) λm=>
 AC J9 b (a.add 11) λn=>
 AC J9 b (a.add 12) λo=>
 Ac b (a.add 13) λp=>
 AZ b (a.add 14) λq=>
 AZ b (a.add 15) λr=>
 Ac b (a.add 16) λs=>
 Ac b (a.add 17) λt=>
 K ⟨c,d,⟨e,f,g⟩,h,⟨i,j,k,l,m,n,o,p,q,r,s,t⟩⟩
theorem F5.mk {b:aa}{a:Q6}{K:bT->Prop}(x:bT)(c:Cells b a x.l)(d:K x):F5 b a K:=
 ⟨_,by have:=c 0 _ rfl;rwa [add_zero] at this,_,c 1 _ rfl,_,c 2 _ rfl,_,c 3 _ rfl,_,c 4 _ rfl,_,c 5 _ rfl,_,c 6 _ rfl,_,c 7 _ rfl,_,c 8 _ rfl,_,c 9 _ rfl,_,c 10 _ rfl,_,c 11 _ rfl,_,c 12 _ rfl,_,c 13 _ rfl,_,c 14 _ rfl,_,c 15 _ rfl,_,c 16 _ rfl,_,c 17 _ rfl,d⟩
structure cn where
 kind:Int
 wid:A2P
 ref:Int
 turn:Int
abbrev cn.l(x:cn):List J0:= [J6 J9 x.kind,J7 x.wid,J6 J9 x.ref,J6 J9 x.turn]
abbrev cn.c(x:cn):Array J0:= #[J6 J9 x.kind,J7 x.wid,J6 J9 x.ref,J6 J9 x.turn]
abbrev cn.v(x:cn):J0:= .agg #[J6 J9 x.kind,J7 x.wid,J6 J9 x.ref,J6 J9 x.turn]
abbrev cn.z:cn:=⟨0,⟨#[]⟩,0,0⟩
abbrev cn.s:List Sc:= [.int J9,.str,.int J9,.int J9]
abbrev cn.T:Type:=Int×A2P×Int×Int×Unit
abbrev cn.t(x:cn):cn.T:=(x.kind,x.wid,x.ref,x.turn,())
def kY(K:cn->Prop):Prop:= ∃a:Int,∃b:A2P,∃c:Int,∃d:Int,K ⟨a,b,c,d⟩
theorem kY.mk {K:cn->Prop}(x:cn)(a:K x):kY K:=⟨x.kind,x.wid,x.ref,x.turn,a⟩
def JC(b:aa)(a:Q6)(K:cn->Prop):Prop:=
 AC J9 b a λc=>
 AJ b (a.add 1) λd=>
 AC J9 b (a.add 2) λe=>
 AC J9 b (a.add 3) λf=>
 K ⟨c,d,e,f⟩
theorem JC.mk {b:aa}{a:Q6}{K:cn->Prop}(x:cn)(c:Cells b a x.l)(d:K x):JC b a K:=
 ⟨_,by have:=c 0 _ rfl;rwa [add_zero] at this,_,c 1 _ rfl,_,c 2 _ rfl,_,c 3 _ rfl,d⟩
structure ct where
 kind:Int
 bA:A2P
 wid:A2P
 name:A2P
 steps:Sl
 aA:Int
 cH:Sl
 ref:Int
 turn:Int
 aW:Int
 aq:Int
 aT:Bool
abbrev ct.l(x:ct):List J0:= [J6 J9 x.kind,J7 x.bA,J7 x.wid,J7 x.name,J4 x.steps.p x.steps.len x.steps.cap,J6 J9 x.aA,J4 x.cH.p x.cH.len x.cH.cap,J6 J9 x.ref,J6 J9 x.turn,J6 J9 x.aW,J6 J9 x.aq,J3 x.aT]
abbrev ct.c(x:ct):Array J0:= #[J6 J9 x.kind,J7 x.bA,J7 x.wid,J7 x.name,J4 x.steps.p x.steps.len x.steps.cap,J6 J9 x.aA,J4 x.cH.p x.cH.len x.cH.cap,J6 J9 x.ref,J6 J9 x.turn,J6 J9 x.aW,J6 J9 x.aq,J3 x.aT]
abbrev ct.v(x:ct):J0:= .agg #[J6 J9 x.kind,J7 x.bA,J7 x.wid,J7 x.name,J4 x.steps.p x.steps.len x.steps.cap,J6 J9 x.aA,J4 x.cH.p x.cH.len x.cH.cap,J6 J9 x.ref,J6 J9 x.turn,J6 J9 x.aW,J6 J9 x.aq,J3 x.aT]
abbrev ct.z:ct:=⟨0,⟨#[]⟩,⟨#[]⟩,⟨#[]⟩,⟨none,0,0⟩,0,⟨none,0,0⟩,0,0,0,0,false⟩
abbrev ct.s:List Sc:= [.int J9,.str,.str,.str,.sl,.int J9,.sl,.int J9,.int J9,.int J9,.int J9,.bool]
abbrev ct.T:Type:=Int×A2P×A2P×A2P×Sl×Int×Sl×Int×Int×Int×Int×Bool×Unit
abbrev ct.t(x:ct):ct.T:=(x.kind,x.bA,x.wid,x.name,x.steps,x.aA,x.cH,x.ref,x.turn,x.aW,x.aq,x.aT,())
def oA(b:aa)(a:Q6)(K:ct->Prop):Prop:=
 AC J9 b a λc=>
 AJ b (a.add 1) λd=>
 AJ b (a.add 2) λe=>
 AJ b (a.add 3) λf=>
 AZ b (a.add 4) λg=>
 AC J9 b (a.add 5) λh=>
 AZ b (a.add 6) λi=>
 AC J9 b (a.add 7) λj=>
 AC J9 b (a.add 8) λk=>
 AC J9 b (a.add 9) λl=>
 AC J9 b (a.add 10) λm=>
 Ac b (a.add 11) λn=>
 K ⟨c,d,e,f,g,h,i,j,k,l,m,n⟩
theorem oA.mk {b:aa}{a:Q6}{K:ct->Prop}(x:ct)(c:Cells b a x.l)(d:K x):oA b a K:=
 ⟨_,by have:=c 0 _ rfl;rwa [add_zero] at this,_,c 1 _ rfl,_,c 2 _ rfl,_,c 3 _ rfl,_,c 4 _ rfl,_,c 5 _ rfl,_,c 6 _ rfl,_,c 7 _ rfl,_,c 8 _ rfl,_,c 9 _ rfl,_,c 10 _ rfl,_,c 11 _ rfl,d⟩
structure bo where
 err:Int
 status:Int
 next:Int
 task:cn
 name:A2P
 cJ:Sl
abbrev bo.l(x:bo):List J0:= [J6 J9 x.err,J6 J9 x.status,J6 J9 x.next,J6 J9 x.task.kind,J7 x.task.wid,J6 J9 x.task.ref,J6 J9 x.task.turn,J7 x.name,J4 x.cJ.p x.cJ.len x.cJ.cap]
abbrev bo.c(x:bo):Array J0:= #[J6 J9 x.err,J6 J9 x.status,J6 J9 x.next,J6 J9 x.task.kind,J7 x.task.wid,J6 J9 x.task.ref,J6 J9 x.task.turn,J7 x.name,J4 x.cJ.p x.cJ.len x.cJ.cap]
abbrev bo.v(x:bo):J0:= .agg #[J6 J9 x.err,J6 J9 x.status,J6 J9 x.next,J6 J9 x.task.kind,J7 x.task.wid,J6 J9 x.task.ref,J6 J9 x.task.turn,J7 x.name,J4 x.cJ.p x.cJ.len x.cJ.cap]
abbrev bo.z:bo:=⟨0,0,0,⟨0,⟨#[]⟩,0,0⟩,⟨#[]⟩,⟨none,0,0⟩⟩
abbrev bo.s:List Sc:= [.int J9,.int J9,.int J9,.int J9,.str,.int J9,.int J9,.str,.sl]
abbrev bo.T:Type:=Int×Int×Int×Int×A2P×Int×Int×A2P×Sl×Unit
abbrev bo.t(x:bo):bo.T:=(x.err,x.status,x.next,x.task.kind,x.task.wid,x.task.ref,x.task.turn,x.name,x.cJ,())
def EC(K:bo->Prop):Prop:= ∃a:Int,∃b:Int,∃c:Int,∃d:Int,∃e:A2P,∃f:Int,∃g:Int,∃h:A2P,∃i:Sl,K ⟨a,b,c,⟨d,e,f,g⟩,h,i⟩
theorem EC.mk {K:bo->Prop}(x:bo)(a:K x):EC K:=⟨x.err,x.status,x.next,x.task.kind,x.task.wid,x.task.ref,x.task.turn,x.name,x.cJ,a⟩
def Dr(b:aa)(a:Q6)(K:bo->Prop):Prop:=
 AC J9 b a λc=>
 AC J9 b (a.add 1) λd=>
 AC J9 b (a.add 2) λe=>
 AC J9 b (a.add 3) λf=>
 AJ b (a.add 4) λg=>
 AC J9 b (a.add 5) λh=>
 AC J9 b (a.add 6) λi=>
 AJ b (a.add 7) λj=>
 AZ b (a.add 8) λk=>
 K ⟨c,d,e,⟨f,g,h,i⟩,j,k⟩
theorem Dr.mk {b:aa}{a:Q6}{K:bo->Prop}(x:bo)(c:Cells b a x.l)(d:K x):Dr b a K:=
 ⟨_,by have:=c 0 _ rfl;rwa [add_zero] at this,_,c 1 _ rfl,_,c 2 _ rfl,_,c 3 _ rfl,_,c 4 _ rfl,_,c 5 _ rfl,_,c 6 _ rfl,_,c 7 _ rfl,_,c 8 _ rfl,d⟩
structure gi where
 wait:Int
 q:ct
 take:Bool
 iC:Bool
abbrev gi.l(x:gi):List J0:= [J6 J9 x.wait,J6 J9 x.q.kind,J7 x.q.bA,J7 x.q.wid,J7 x.q.name,J4 x.q.steps.p x.q.steps.len x.q.steps.cap,J6 J9 x.q.aA,J4 x.q.cH.p x.q.cH.len x.q.cH.cap,J6 J9 x.q.ref,J6 J9 x.q.turn,J6 J9 x.q.aW,J6 J9 x.q.aq,J3 x.q.aT,J3 x.take,J3 x.iC]
abbrev gi.c(x:gi):Array J0:= #[J6 J9 x.wait,J6 J9 x.q.kind,J7 x.q.bA,J7 x.q.wid,J7 x.q.name,J4 x.q.steps.p x.q.steps.len x.q.steps.cap,J6 J9 x.q.aA,J4 x.q.cH.p x.q.cH.len x.q.cH.cap,J6 J9 x.q.ref,J6 J9 x.q.turn,J6 J9 x.q.aW,J6 J9 x.q.aq,J3 x.q.aT,J3 x.take,J3 x.iC]
abbrev gi.v(x:gi):J0:= .agg #[J6 J9 x.wait,J6 J9 x.q.kind,J7 x.q.bA,J7 x.q.wid,J7 x.q.name,J4 x.q.steps.p x.q.steps.len x.q.steps.cap,J6 J9 x.q.aA,J4 x.q.cH.p x.q.cH.len x.q.cH.cap,J6 J9 x.q.ref,J6 J9 x.q.turn,J6 J9 x.q.aW,J6 J9 x.q.aq,J3 x.q.aT,J3 x.take,J3 x.iC]
abbrev gi.z:gi:=⟨0,⟨0,⟨#[]⟩,⟨#[]⟩,⟨#[]⟩,⟨none,0,0⟩,0,⟨none,0,0⟩,0,0,0,0,false⟩,false,false⟩
abbrev gi.s:List Sc:= [.int J9,.int J9,.str,.str,.str,.sl,.int J9,.sl,.int J9,.int J9,.int J9,.int J9,.bool,.bool,.bool]
abbrev gi.T:Type:=Int×Int×A2P×A2P×A2P×Sl×Int×Sl×Int×Int×Int×Int×Bool×Bool×Bool×Unit
abbrev gi.t(x:gi):gi.T:=(x.wait,x.q.kind,x.q.bA,x.q.wid,x.q.name,x.q.steps,x.q.aA,x.q.cH,x.q.ref,x.q.turn,x.q.aW,x.q.aq,x.q.aT,x.take,x.iC,())
structure gj where
 key:A2P
 val:A2P
 ref:Int
 turn:Int
 aT:Bool
abbrev gj.l(x:gj):List J0:= [J7 x.key,J7 x.val,J6 J9 x.ref,J6 J9 x.turn,J3 x.aT]
abbrev gj.c(x:gj):Array J0:= #[J7 x.key,J7 x.val,J6 J9 x.ref,J6 J9 x.turn,J3 x.aT]
abbrev gj.v(x:gj):J0:= .agg #[J7 x.key,J7 x.val,J6 J9 x.ref,J6 J9 x.turn,J3 x.aT]
abbrev gj.z:gj:=⟨⟨#[]⟩,⟨#[]⟩,0,0,false⟩
abbrev gj.s:List Sc:= [.str,.str,.int J9,.int J9,.bool]
abbrev gj.T:Type:=A2P×A2P×Int×Int×Bool×Unit
abbrev gj.t(x:gj):gj.T:=(x.key,x.val,x.ref,x.turn,x.aT,())
end Go.Lf
namespace Go.Lf.G
abbrev AU:bV:= .none
abbrev AL(a b:bV):bV:= .seq a b
def CX:Nat->bV->bV
 |0,x=>x
 |n+1,x=> .seq .none (CX n x)
abbrev Bl:bV:=AL AU AU
abbrev EH:bV:= .cond Bl AU
abbrev FJ:bV:= .cond AU AU
abbrev Cz:bV:=AL AU EH
abbrev Fs:bV:=AL AU FJ
abbrev Ex:bV:=CX 2 AU
abbrev j7:bV:=AL Cz Bl
abbrev Qi:bV:=AL AU j7
abbrev Lx:bV:=CX 2 EH
abbrev nI:bV:=AL AU (AL FJ (AL (.block Lx) AU))
abbrev qm:bV:=AL AU (AL (AL AU (.block (.loop [(8,.one (.int J9))] [0,1,7] nI))) Bl)
abbrev kL:bV:=AL AU (AL FJ (AL (.block Bl) AU))
abbrev lQ:bV:=AL AU (AL FJ (AL (.block (CX 3 EH)) AU))
abbrev nJ:bV:=AL AU (.cond AU Fs)
abbrev lR:bV:=AL AU (.cond AU nJ)
abbrev gr:bV:=CX 3 AU
abbrev qn:bV:= .cond gr AU
abbrev uA:bV:=CX 3 (AL Cz (AL AU (AL Cz (AL (AL AU (.cond (CX 4 AU) AU)) (AL AU (AL (AL AU qn) gr))))))
abbrev nK:bV:=AL AU (AL FJ (AL (.block Ex) AU))
abbrev qo:bV:=AL Cz AU
abbrev qp:bV:=AL AU (AL FJ (AL (.block (CX 2 qo)) AU))
abbrev qs:bV:=AL AU (.cond Bl Cz)
abbrev qt:bV:= .block (AL AU (.cond Bl qs))
abbrev nL:bV:= .block AU
abbrev qv:bV:=AL AU (AL FJ (AL nL AU))
abbrev nM:bV:= .cond Ex AU
abbrev kN:bV:=AL Cz Ex
abbrev jV:bV:=CX 2 FJ
abbrev uB:bV:=AL (.bB [(13,.one .bool)] [0,1]) EH
abbrev uC:bV:=AL (.bB [(19,.one .bool)] [0,1]) EH
abbrev uD:bV:=CX 2 (AL Cz (CX 4 AU))
abbrev qw:bV:=AL AU qo
abbrev qx:bV:=AL AU nM
abbrev uE:bV:=AL AU (AL Cz Qi)
theorem Ae {a:ar}{f:Q8}{args:List J0}{b:aa}{c:A2O}{d:Prop}(e:bV)(g:d=qB a P f e args b c)(h:d):AA a P f args.toArray b c:=AHE mixed (g▸h)
end Go.Lf.G
