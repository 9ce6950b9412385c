/-
 LIFT, part K: reasoning about heaps: what is kept, what lies where, slices that are read, slices that are owned.
-/
import Derived.Test.YtgpmoonnachoaaaGreatDoorLfAToN1
import Derived.Laws.FloatArith
import Derived.MapKept
import Derived.Maps.Own
import Derived.Lib.Bytealg
import Derived.Sort.KeysCollected
import Derived.StringKeys
import Derived.Laws.BytesString
import Derived.Laws.BytesArg
import Derived.Laws.StructEq
import Derived.ChangeKeysEq
set_option maxRecDepth 100000
set_option linter.unusedVariables false
set_option linter.unusedSimpArgs false
open Go.IntKind renaming i64→J9,wrap→J8
open Go.Value renaming string→J7,int→J6,pointer→J5,slice→J4,bool→J3,tuple→J1
open Go.Obj renaming cells→J2
open Go renaming Value→J0,Addr→Q6,TypeId→Q7,FuncId→Q8,Program→Q1
open Go.Addr renaming add→Q9,mk→Q5
namespace Go.Lf
theorem add_add(a:Q6)(m b:Nat):(a.add m).add b=a.add (m+b):=by
 unfold Addr.add;by_cases c:m=0
 ·subst c;simp
 ·by_cases d:b=0
  ·subst d;simp[c]
  ·have:m+b≠0:=by omega
   simp[c,d,HK]
theorem add_zero(a:Q6):a.add 0=a:=by simp[Addr.add]
theorem aU(a:Q6)(b:Nat):(a.add b).block=a.block:=by unfold Addr.add;split<;>rfl
theorem Bf(b c a:Nat):(⟨b,c,none⟩:Q6).add a=⟨b,c+a,none⟩:=by unfold Addr.add;by_cases d:a=0<;>simp[d]
structure Mod (S:Nat->Prop) (h h':aa):Prop where
 size:h.size<=h'.size
 get: ∀b,b<h.size-> ¬S b->h'[b]? =h[b]?
abbrev Ext:=Mod (λ_=>False)
theorem Mod.refl {b:Nat->Prop}{a:aa}:Mod b a a:=⟨A0 _,λ_ _ _=>rfl⟩
theorem Mod.trans {d:Nat->Prop}{e f g:aa}(a:Mod d e f)(b:Mod d f g):Mod d e g:=
 ⟨AG a.size b.size,λc h i=>(b.get c (Fl h a.size) i).trans (a.get c h i)⟩
theorem Mod.aj {e S':Nat->Prop}{d f:aa}(a:Mod e d f)(h: ∀b,b<d.size->e b->S' b):Mod S' d f:=⟨a.size,λc g i=>a.get c g λd=>i (h c g d)⟩
theorem Ext.mod {d:Nat->Prop}{b c:aa}(a:Ext b c):Mod d b c:=a.aj λ_ _ b=>b.elim
theorem Mod.then {e:Nat->Prop}{d f g:aa}(a:Mod e d f)(b:Mod (λc=>e c\/d.size<=c) f g):Mod e d g:=
 ⟨AG a.size b.size,λc h i=>(b.get c (Fl h a.size) (λd=>d.elim i (λd=>by omega))).trans (a.get c h i)⟩
theorem Mod.push {d:Nat->Prop}(a:aa)(e:Obj):Mod d a (a.push e):=
 ⟨by simp,λb c _=>by rw[Pc c];simp[c]⟩
theorem Mod.ag {c:Nat->Prop}{d e:aa}(a:Mod c d e){b:Nat}{f:Obj}(g:d[b]? =some f)(h: ¬c b):e[b]? =some f:=
 (a.get b (Array.getElem?_eq_some_iff.1 g).1 h).trans g
theorem Aj {a:aa}{b:Nat}{c:Obj}(d:a[b]? =some c):b<a.size:=(Array.getElem?_eq_some_iff.1 d).1
theorem Vb {b:aa}{a:Q6}{v:J0}(c:ah b a=some v):a.block<b.size:=by
 unfold ah at c;cases d:b[a.block]? with
 |none=>rw[d] at c;cases c
 |some e=>exact Aj d
theorem Qw {b c:aa}{a:Q6}(d:c[a.block]? =b[a.block]?):ah c a=ah b a:=by unfold ah;rw[d]
theorem Mod.ah {b:Nat->Prop}{c d:aa}(m:Mod b c d){a:Q6}{v:J0}(e:ah c a=some v)(f: ¬b a.block):Lf.ah d a=some v:=
 (Qw (m.get _ (Vb e) f)).trans e
theorem Ext.ah {b c:aa}(m:Ext b c){a:Q6}{v:J0}(d:Lf.ah b a=some v):Lf.ah c a=some v:=Mod.ah m d (λb=>b)
theorem IJ {a:aa}{b c:Nat}{d:Array J0}{T:Q7}{fr:Nat×Nat}(e:a[b]? =some (.cells d T fr)):ah a ⟨b,c,none⟩=d[c]? :=by simp[ah,e]
theorem Pe {a:aa}{b c:Nat}{d:Array J0}{T:Q7}(e:a[b]? =some (.cells d T (0,0))):gh a ⟨b,c,none⟩=false:=by simp[gh,e]
theorem vR {a:aa}{b c:Nat}{d:Array J0}{T:Q7}{fr:Nat×Nat}{v:J0}(e:a[b]? =some (.cells d T fr)):
  (dk a ⟨b,c,none⟩ v)[b]? =some (.cells (d.setIfInBounds c v) T fr):=by
 simp[dk,GO,e]
theorem ALP {b:aa}{a:Q6}{v:J0}{c:Nat}(d:c≠a.block):(dk b a v)[c]? =b[c]? :=by simp[dk,GO,Ne.symm d]
theorem qQ {b:aa}{a:Q6}{v:J0}:(dk b a v).size=b.size:=by simp[dk]
theorem Mod.set {S:Nat->Prop}{b:aa}{a:Q6}{v:J0}(c:S a.block):Mod S b (dk b a v):=
 ⟨by rw[qQ];exact A0 _,λ_ _ d=>ALP (λe=>d (e▸c))⟩
theorem ao.mk {a:aa}{c:Obj}{K:Nat->aa->Prop}(d: ∀b,b=a.push c->b[a.size]? =some c->Ext a b->b.size=a.size+1->K a.size b):ao a c K:=
 d _ rfl (by simp) (Mod.push a c) (by simp)
theorem ae.mk {a:aa}{b c:Nat}{v:J0}{d:Array J0}{T:Q7}{K:aa->Prop}(f:a[b]? =some (.cells d T (0,0)))(g:c<d.size)
  (h: ∀e,e[b]? =some (.cells (d.setIfInBounds c v) T (0,0))->Mod (· =b) a e->e.size=a.size->K e):ae a ⟨b,c,none⟩ v K:=
 ⟨⟨d[c],by rw[IJ f];simp[g]⟩,Pe f,h _ (vR f) (Mod.set rfl) qQ⟩
theorem af.intro {b:Bool}{a c:Prop}(d:b=true->a)(e:b=false->c):af b a c:=by
 cases b
 ·exact e rfl
 ·exact d rfl
theorem af.yes {b:Bool}{a c:Prop}(d:b=true)(e:a):af b a c:=by subst d;exact e
theorem af.no {b:Bool}{c a:Prop}(d:b=false)(e:a):af b c a:=by subst d;exact e
theorem bE.mk {p:Q2}{len:Nat}{a:Q6}{k:Nat}{K:Q6->Prop}(b:p=some a)(d:k<len)(c:K a):bE p len (k:Int) K:=
 ⟨a,b,⟨by omega,by omega⟩,c⟩
theorem Ze.mk {b:Bool}{K:Prop}(a:b=true)(c:K):Ze b K:=by subst a;exact c
theorem ai.mk {a:Type}{b:a->aa->Prop}{body:(a->aa->Prop)->Prop}(d: ∀K:a->aa->Prop,(∀ x c,b x c->K x c)->body K):ai b body:=d
theorem Em.func {A:al}{P:Q1}{f:Q8}{first bW args:Array J0}{h:aa}{R:A2L}
  (c:(callFunc f (first++args++bW)).calc P=some (.enter f (first++args++bW))) (d:AA A P f (first++args++bW) h R):Em A P (.func (.func f) first bW) args h R:=by
 intro a;have e:=DN c (A.at h a);have g:(do let b <-Deferred.ofValue (.func (.func f) first bW) args;invoke b.target b.args:Sem Next).run P (A.at h a)= .ok (.enter f (first++args++bW)) (A.at h a):=by simp only[Deferred.ofValue,Sem.run_bind,Sem.run_pure,Result.andThen_ok,invoke];exact e
 rw[g];exact d a
theorem lR.mk {a:al}{P:Q1}{f:Q8}{c:J0}{name:String}{args cT:Array J0}{b:aa}{d:A2L}
  (e:(callMethod c name args).calc P=some (.enter f cT)) (g:AA a P f cT b d):lR a P c name args b d:=by
 intro n;rw[DN e (a.at b n)];exact g n
structure cJ (α:Type) where
 enc:α->List J0
 w:Nat
 len: ∀x,(enc x).length=w
 pos:0<w
 one: ∀x v,v∈enc x->MS v=true
variable {α : Type}
def Cells(c:aa)(a:Q6)(d:List J0):Prop:= ∀b v,d[b]? =some v->ah c (a.add b)=some v
theorem Cells.mod {b:Nat->Prop}{d e:aa}{a:Q6}{f:List J0}(c:Cells d a f)(m:Mod b d e)(g: ¬b a.block):Cells e a f:=
 λh v i=>m.ah (c h v i) (by rw[aU];exact g)
structure View (E:cJ α) (h:aa) (s:Sl) (l:List α):Prop where
 len:s.len=l.length
 cap:s.len<=s.cap
 cells: ∀i x,l[i]? =some x-> ∃a,s.p=some a/\Cells h (a.add (i*E.w)) (E.enc x)
def Sl.ag(s:Sl):Option Nat:=s.p.map (·.block)
theorem View.mod {c:cJ α}{d:Nat->Prop}{e f:aa}{s:Sl}{l:List α}(v:View c e s l)(m:Mod d e f)(h: ∀b,s.ag=some b-> ¬d b):View c f s l:=
 ⟨v.len,v.cap,λi x j=>let ⟨a,g,k⟩:=v.cells i x j;⟨a,g,k.mod m (by rw[aU];exact h _ (by simp[Sl.ag,g]))⟩⟩
theorem View.ext {b:cJ α}{a c:aa}{s:Sl}{l:List α}(v:View b a s l)(m:Ext a c):View b c s l:=v.mod m λ_ _ a=>a
theorem View.nil {b:cJ α}{a:aa}:View b a ⟨none,0,0⟩ []:=⟨rfl,A0 _,λ_ _ a=>by simp at a⟩
structure Own (E:cJ α) (T:Q7) (h:aa) (s:Sl) (l:List α):Prop where
 len:s.len=l.length
 row:(s=⟨none,0,0⟩/\l= [])\/ ∃g cur,s.p=some ⟨g,0,none⟩/\h[g]? =some (.cells cur T (0,0))/\s.len<=s.cap/\s.cap<=maxLen/\cur.size=s.cap*E.w/\cur.toList.take (s.len*E.w)=l.flatMap E.enc
theorem Own.nil {a:cJ α}{T:Q7}{b:aa}:Own a T b ⟨none,0,0⟩ []:=⟨rfl,.inl ⟨rfl,rfl⟩⟩
theorem dE {E:cJ α}: ∀ {l:List α} {i:Nat} {x:α},l[i]? =some x-> ∀a v,(E.enc x)[a]? =some v->(l.flatMap E.enc)[i*E.w+a]? =some v
 | [],i,x,b,_,_,_=>by simp at b
 |y::l,0,x,b,a,v,c=>by
  simp at b;subst b;rw[AF,HX,AI,GF (List.getElem?_eq_some_iff.1 c).1];exact c
 |y::l,i+1,x,b,a,v,c=>by
  have d:=dE (E:=E) (l:=l) (i:=i) (by simpa using b) a v c;rw[AF,Fk (by rw[E.len,Bs];omega),E.len];rw[show(i+1)*E.w+a-E.w=i*E.w+a by rw[Bs];omega];exact d
theorem KM {E:cJ α}: ∀ {l:List α},(l.flatMap E.enc).length=l.length*E.w
 | []=>by simp
 |x::l=>by rw[AF,A1,KM,E.len,A6,Bs];omega
theorem Own.view {E:cJ α}{T:Q7}{a:aa}{s:Sl}{l:List α}(b:Own E T a s l):View E a s l:=by
 rcases b.row with⟨rfl,rfl⟩|⟨g,m,c,d,e,_,n,f⟩
 ·exact View.nil
 ·refine⟨b.len,e,λi x h=>⟨_,c,λj v k=>?_⟩⟩;have:=dE (E:=E) h j v k;rw[<- f,Fc] at this;split at this
  ·rw[add_add,Bf,IJ d];simpa using this
  ·cases this
theorem Own.mod {a:cJ α}{T:Q7}{c:Nat->Prop}{d e:aa}{s:Sl}{l:List α}(f:Own a T d s l)(m:Mod c d e)(i: ∀b,s.ag=some b-> ¬c b):Own a T e s l:=by
 refine⟨f.len,?_⟩;rcases f.row with j|⟨g,k,h,n,rest⟩
 ·exact .inl j
 ·exact .inr ⟨g,k,h,m.ag n (i g (by simp[Sl.ag,h])),rest⟩
theorem Own.ext {b:cJ α}{T:Q7}{a c:aa}{s:Sl}{l:List α}(d:Own b T a s l)(m:Ext a c):Own b T c s l:=d.mod m λ_ _ a=>a
theorem Own.lit {E:cJ α}{T:Q7}{c:aa}{b:Nat}{l:List α}{a:Array J0}(e:c[b]? =some (.cells a T (0,0)))(d:a.toList=l.flatMap E.enc)(f:l.length<=maxLen):
  Own E T c ⟨some ⟨b,0,none⟩,l.length,l.length⟩ l:=by
 have g:a.size=l.length*E.w:=by rw[<- Ek,d,KM]
 exact⟨rfl,.inr ⟨b,a,rfl,e,A0 _,f,g,by rw[d];exact Ax (by rw[KM];exact A0 _)⟩⟩
def QZ(P:Q1)(t T:Q7)(a b:Nat):Bool:=
 match P.underlying t with
 |some (.slice c)=>Nat.beq c T&&match P.info? T with
  |some i=>Nat.beq i.size a&&Nat.beq i.bytes b&&match i.zero with
   |some z=>Nat.beq z.cells.size a
   |none=>false
  |none=>false
 |_=>false
theorem qR {P:Q1}{t T:Q7}{b c:Nat}(a:QZ P t T b c=true):
  P.underlying t=some (.slice T)/\ ∃i z,P.info? T=some i/\i.zero=some z/\i.size=b/\i.bytes=c/\z.cells.size=b:=by
 unfold QZ at a;split at a
 ·rename_i h d;split at a
  ·rename_i i e;split at a
   ·rename_i z f;simp only[A3,Nat.beq_eq] at a;obtain⟨rfl,⟨rfl,rfl⟩,g⟩:=a;exact⟨d,i,z,e,f,rfl,rfl,g⟩
   ·simp at a
  ·simp at a
 ·simp at a
theorem vS {A:al}{b a:World}{h:aa}{n:Nat}(c:b=A.at h n)(d:a.os=b.os)(e:a.tape=b.tape)(f:a.output=b.output):a=A.at a.heap a.drawn:=by
 subst c;cases a;simp only[al.at] at*
 simp[d,e,f]
theorem Po {v:J0}(a:MS v=true):v.oneCell'=true:=by cases v<;>first|rfl|(simp[MS] at a)
theorem Own.lI {a:cJ α}{T:Q7}{A:al}{b:aa}{s:Sl}{l:List α}{n:Nat}(c:Own a T b s l):(A.at b n).ownsRow 0 T a.w (.slice s.p s.len s.cap) s.len (l.flatMap a.enc):=by
 refine⟨by rw[KM,c.len],?_⟩;rcases c.row with⟨rfl,rfl⟩|⟨g,d,e,f,h,i,j,k⟩
 ·exact .inl ⟨rfl,rfl⟩
 ·exact .inr ⟨g,s.cap,d,by rw[e],A5 _,f,h,i,j,k⟩
theorem AIR {a:cJ α}{T:Q7}{c:World}{v:J0}{b:Nat}{l:List α}(d:c.ownsRow 0 T a.w v b (l.flatMap a.enc))(e:b=l.length):
  ∃s:Sl,v= .slice s.p s.len s.cap/\Own a T c.heap s l/\(v= .slice none 0 0->s=⟨none,0,0⟩):=by
 rcases d.2 with⟨rfl,p⟩|⟨g,f,h,rfl,_,i,j,k,m,n⟩
 ·have:l= []:=DA (by omega);subst this;exact⟨⟨none,0,0⟩,rfl,Own.nil,λ_=>rfl⟩
 ·refine⟨⟨some ⟨g,0,none⟩,b,f⟩,rfl,⟨e,.inr ⟨g,h,rfl,i,j,k,m,n⟩⟩,λo=>by cases o⟩
theorem GJ {A:al}{P:Q1}{E:cJ α}{t p T:Q7}{M:Nat}(am:QZ P t T E.w M=true){d:aa}{s src:Sl}{l m:List α}{K:Sl->aa->Prop}
  (h:Own E T d s l) (N:View E d src m) (j:(l.length+m.length)*M<=140737488355328) (W:l.length+m.length<=maxLen)
  (X: ∀f B,Own E T B f (l++m)->Mod (λb=>s.ag=some b) d B->(∀ b,f.ag=some b->s.ag=some b\/d.size<=b)->(f.p=none↔s.p=none/\m= [])->K f B):
  BG A P (Builtin.append_ #[t,t] p #[.slice s.p s.len s.cap,.slice src.p src.len src.cap]) d λv B=> ∃f:Sl,v= .slice f.p f.len f.cap/\K f B:=by
 obtain⟨q,i,z,r,O,G,hB,an⟩:=qR am;intro n;have Q:=N.len;by_cases R:m= []
 ·subst R;simp only[GP,AK,G4] at*
  have ao:(Builtin.append_ #[t,t] p #[.slice s.p s.len s.cap,.slice src.p src.len src.cap]).run P (A.at d n)= .ok (.slice s.p s.len s.cap) (A.at d n):=by
   have S:s.len<=s.cap:=h.view.cap;have w: ∀U:World,(Builtin.firstCells i.size 0 (.slice src.p 0 src.cap)).run P U= .ok #[] U:=by intro U;cases src.p<;>simp[Builtin.firstCells,loadCells,loadCellsFrom]
   cases o:s.p with
   |none=>simp[Builtin.append_,BN q,run_sizeOf r,Builtin.lenOf,Q,S,w]
   |some a=>simp[Builtin.append_,BN q,run_sizeOf r,Builtin.lenOf,Q,S,w,storeCells]
  exact⟨_,d,n,ao,s,rfl,X s d h Mod.refl (λb j=> .inl j) (by simp)⟩
 ·have Y:0<m.length:=List.length_pos_iff.2 R;obtain⟨a,Z,_⟩:=N.cells 0 m[0] (by simp[Y]);have H: ∀e u,(m.flatMap E.enc)[e]? =some u->(A.at d n).cell? (a.add e)=some u:=by
   intro e u ab;have ap:e<m.length*E.w:=by rw[<- KM (E:=E)];exact(List.getElem?_eq_some_iff.1 ab).1
   have aq:e / E.w<m.length:=Nat.div_lt_of_lt_mul (by rw[CT];exact ap);have k:e % E.w<E.w:=CC _ E.pos;have I:m[e / E.w]? =some m[e / E.w]:=by simp[aq]
   have ac:e % E.w<(E.enc m[e / E.w]).length:=by rw[E.len];exact k
   have w:=dE (E:=E) I (e % E.w) _ (A2 ac);have ad:e / E.w*E.w+e % E.w=e:=Nat.div_add_mod' e E.w;rw[ad,ab] at w;obtain⟨aF,ae,ar⟩:=N.cells _ _ I;rw[Z] at ae;cases ae;have:=ar (e % E.w) _ (A2 ac);rw[add_add,ad] at this;rw[BT] at w;rw[w];exact this
  have J: ∀u∈m.flatMap E.enc,u.oneCell'=true:=by intro u au;obtain⟨x,_,I⟩:=List.mem_flatMap.1 au;exact Po (E.one x u I)
  obtain⟨af,y,k,ag,C,aG⟩:=run_append_own (P:=P) (A.at d n) 0 t p T i z E.w M q r O G hB an E.pos (.slice s.p s.len s.cap) s.len (l.flatMap E.enc) h.lI a m.length src.cap (m.flatMap E.enc)
   (by rw[KM]) H J (by rw[h.len];exact W) (by rw[h.len];exact j) (A5 _)
  rw[<- Ft] at ag;obtain⟨f,V,av,aH⟩:=AIR ag (by rw[h.len,A1]);have aw:y=A.at y.heap y.drawn:=vS rfl C.os C.tape C.output;have L:(m.flatMap E.enc).length=m.length*i.size:=by rw[KM,G]
  have ah:((s.len+m.length:Nat):Int)<=9223372036854775807:=by have:=W;simp only[maxLen] at this;rw[h.len];omega
  have ai:(s.len+m.length)*i.bytes<=140737488355328:=by rw[h.len,hB];exact j
  have ax: ∃g c,af= .slice (some ⟨g,0,none⟩) (s.len+m.length) c/\(s.ag=some g\/g=d.size):=by
   rcases h.row with⟨rfl,rfl⟩|⟨g,ay,o,az,S,aI,aA,aJ⟩
   ·have D:=run_append_nil (P:=P) (A.at d n) t p T i z q r O a m.length src.cap (m.flatMap E.enc) L H Y (by simpa using ah) (by have:=ai;simp only[AI] at this;omega);rw[D] at k;cases k;exact⟨d.size,_,by rw[AI];rfl,.inr rfl⟩
   ·by_cases aj:s.len+m.length<=s.cap
    ·have D:=run_append_room (P:=P) (A.at d n) t p T i q r g s.len s.cap ay az a m.length src.cap (m.flatMap E.enc) L H J aj (by rw[L,aA,<-G,<-Bs];exact AN _ aj);rw[o,D] at k;cases k;exact⟨g,_,rfl,.inl (by simp[Sl.ag,o])⟩
    ·have D:=run_append_grow (P:=P) (A.at d n) t p T i z q r O ⟨g,0,none⟩ s.len s.cap (l.flatMap E.enc) (by rw[KM,h.len,G])
      (h.lI (A:=A) (n:=n) |>.cells (g:=g) (by simp[Value.ownBlock,o])) a m.length src.cap (m.flatMap E.enc) L H (by omega) ah (growslice_fits (by omega) ai)
     rw[o,D] at k;cases k;exact⟨d.size,_,rfl,.inr rfl⟩
  obtain⟨g,c,aC,aD⟩:=ax;have ak:f.p=some ⟨g,0,none⟩:=by rw[aC] at V;injection V with J _ _;exact J.symm
  refine⟨af,y.heap,y.drawn,?_,f,V,X f y.heap av ⟨C.size,?_⟩ ?_ ?_⟩
  ·rw[Z,Q,<-aw];exact k
  ·intro b j aE;refine C.block b j ?_;intro F;apply aE;unfold Sl.ag;cases o:s.p with
   |none=>rw[o] at F;simp[Value.ownBlock] at F
   |some a=>rw[o] at F;simp[Value.ownBlock] at F;simp[F]
  ·intro b j;simp[Sl.ag,ak] at j;subst j;rcases aD with d|d
   ·exact .inl d
   ·exact .inr (by omega)
  ·rw[ak];simp[R]
theorem Loop.rule {b:Type}{g:(b->aa->Prop)->b->aa->Prop}(d:Nat->b->aa->Prop)
  (step: ∀K m x a,d m x a->(∀ c e f,c<m->d c e f->K e f)->g K x a) {m:Nat} {x:b} {a:aa} (h:d m x a):Loop g x a:=by
 intro K i
 induction m using Nat.strongRecOn generalizing x a with
 |_ m j=>exact i _ _ (step K m x a h λc e f k l=>j c k l)
theorem ED {a:Nat}(c:a<=9223372036854775807):J8 J9 (a:Int)=(a:Int):=by
 simp only[J8,IntKind.bits,IntKind.signed];have b:((a:Int)) % ((2:Int)^64)=a:=by omega
 have d: ¬((a:Int)>=(2:Int)^(64-1)):=by omega
 simp only[b];simp;omega
theorem Ab {a:Nat}(b:a<9223372036854775807):J8 J9 ((a:Int)+(1:Int))=((a+1:Nat):Int):=by rw[show((a:Int)+1)=((a+1:Nat):Int) by omega];exact ED b
theorem TA.mk {b:aa}{a:Q6}{K:J0->Prop}{v:J0}(c:ah b a=some v)(d:K v):TA b a K:=⟨v,c,d⟩
theorem AC.mk {b:aa}{a:Q6}{k:IntKind}{K:Int->Prop}{n:Int}(c:ah b a=some (.int k n))(d:K n):AC k b a K:=⟨n,c,d⟩
theorem AZ.mk {b:aa}{a:Q6}{K:Bool->Prop}{n:Bool}(c:ah b a=some (J3 n))(d:K n):AZ b a K:=⟨n,c,d⟩
theorem AJ.mk {b:aa}{a:Q6}{K:A2M->Prop}{n:A2M}(c:ah b a=some (J7 n))(d:K n):AJ b a K:=⟨n,c,d⟩
theorem AY.mk {b:aa}{a:Q6}{K:Q2->Prop}{n:Q2}(c:ah b a=some (J5 n))(d:K n):AY b a K:=⟨n,c,d⟩
theorem Aa.mk {b:aa}{a:Q6}{K:Sl->Prop}{s:Sl}(c:ah b a=some (J4 s.p s.len s.cap))(d:K s):Aa b a K:=⟨s,c,d⟩
theorem AL {a:aa}{b c:Nat}{d:Array J0}{T:Q7}{fr:Nat×Nat}{v:J0}(e:a[b]? =some (J2 d T fr))(f:d[c]? =some v):ah a ⟨b,c,none⟩=some v:=by rw[IJ e];exact f
theorem AB {a:aa}{b c:Nat}{d:Array J0}{T:Q7}{fr:Nat×Nat}{v:J0}(e:a[b]? =some (J2 d T fr))(f:d[c]? =some v):ah a ((⟨b,0,none⟩:Q6).add c)=some v:=by rw[Bf,AI];exact AL e f
structure Pr where
 key:A2M
 val:A2M
 gone:Bool
deriving DecidableEq
def Pr.agg(x:Pr):J0:= .agg #[J7 x.key,J7 x.val,J3 x.gone]
def Pr.cells(x:Pr):Array J0:= #[J7 x.key,J7 x.val,J3 x.gone]
def BO:cJ Pr where
 enc x:= [J7 x.key,J7 x.val,J3 x.gone]
 w:=3
 len _:=rfl
 pos:=by omega
 one x v a:=by simp at a;rcases a with rfl|rfl|rfl<;>rfl
def iu:cJ Sl where
 enc s:= [J4 s.p s.len s.cap]
 w:=1
 len _:=rfl
 pos:=by omega
 one x v a:=by simp at a;subst a;rfl
structure iv where
 v:J0
 one:MS v=true
def jZ:cJ iv where
 enc s:= [s.v]
 w:=1
 len _:=rfl
 pos:=by omega
 one x v a:=by simp at a;subst a;exact x.one
theorem View.idx {b:Type}{c:cJ b}{d:aa}{s:Sl}{l:List b}(v:View c d s l){i:Nat}{x:b}(e:l[i]? =some x){K:Q6->Prop}
  (g: ∀a,s.p=some a->Cells d (a.add (i*c.w)) (c.enc x)->K a):bE s.p s.len ((i:Nat):Int) K:=by
 obtain⟨a,f,h⟩:=v.cells i x e;have:i<s.len:=by rw[v.len];exact(List.getElem?_eq_some_iff.1 e).1
 exact bE.mk f this (g a f h)
theorem Cells.pair {b:aa}{a:Q6}{x:Pr}(c:Cells b a (BO.enc x)):ah b a=some (J7 x.key)/\ah b (a.add 1)=some (J7 x.val)/\ah b (a.add 2)=some (J3 x.gone):=by have d:=c 0 _ rfl;rw[add_zero] at d;exact⟨d,c 1 _ rfl,c 2 _ rfl⟩
theorem Cells.sl {b:aa}{a:Q6}{x:Sl}(c:Cells b a (iu.enc x)):ah b a=some (J4 x.p x.len x.cap):=by have d:=c 0 _ rfl;rwa [add_zero] at d
theorem Cells.val {b:aa}{a:Q6}{x:iv}(c:Cells b a (jZ.enc x)):ah b a=some x.v:=by have d:=c 0 _ rfl;rwa [add_zero] at d
theorem ao.pair {a:aa}{T:Q7}{j k:A2M}{l:Bool}{d v:A2M}{g:Bool}{K:Nat->aa->Prop}
  (n: ∀b c,b=a.size->c[b]? =some (J2 #[J7 d,J7 v,J3 g] T (0,0))->Ext a c->c.size=a.size+1->K b c):
  ao a (J2 #[J7 j,J7 k,J3 l] T) λb e=>ae e ⟨b,0,none⟩ (J7 d) λf=>ae f ((⟨b,0,none⟩:Q6).add 1) (J7 v) λh=>ae h ((⟨b,0,none⟩:Q6).add 2) (J3 g) λi=>K b i:=by
 refine ao.mk λe _ o p y=>?_
 refine ae.mk o (by simp) λf q r z=>?_
 rw[Bf,Bf];refine ae.mk q (by simp) λh s t A=>?_
 refine ae.mk s (by simp) λi u w B=>?_
 refine n _ _ rfl (by simpa using u) ?_ (by omega);have m:=(r.trans t).trans w;exact⟨by omega,λb x _=>(m.get b (by omega) (by omega)).trans (p.get b x (by simp))⟩
theorem ao.aZ {k:al}{P:Q1}{t m T:Q7}{g:Nat}{e:Type}{E:cJ e}{x:e}{h:Array J0}(n:h.toList=E.enc x)(o:QZ P t T E.w g=true){d:aa}{s:Sl}{l:List e}{K:Sl->aa->Prop}
  (p:Own E T d s l) (q:(l.length+1)*g<=140737488355328) (r:l.length+1<=maxLen)
  (u: ∀a c,Own E T c a (l++ [x])->Mod (λb=>s.ag=some b) d c->(∀ b,a.ag=some b->s.ag=some b\/d.size<=b)->a.p≠none->K a c):
  ao d (J2 h T) λb f=>BG k P (Builtin.append_ #[t,t] m #[J4 s.p s.len s.cap,J4 (some ⟨b,0,none⟩) 1 1]) f λv c=> ∃a:Sl,v=J4 a.p a.len a.cap/\K a c:=by
 refine ao.mk λf _ w i G=>?_
 have y:Own E T f ⟨some ⟨d.size,0,none⟩,1,1⟩ [x]:=Own.lit (E:=E) (l:= [x]) w (by simp[n]) (by simp[maxLen]);refine GJ (s:=s) (src:=⟨some ⟨d.size,0,none⟩,1,1⟩) o (p.ext i) y.view (by simpa using q) (by simpa using r) λa c z A B C=>?_
 refine u a c z ?_ ?_ ?_
 ·exact i.mod.trans A
 ·intro b D;rcases B b D with j|j
  ·exact .inl j
  ·exact .inr (by omega)
 ·intro F;have:=(C.1 F).2;simp at this
theorem View.sub {d:Type}{b:cJ d}{e:aa}{s:Sl}{l:List d}(v:View b e s l){lo hi:Nat}(h:lo<=hi)(j:hi<=l.length):
  View b e ⟨A7 s.p s.cap lo b.w,hi-lo,s.cap-lo⟩ ((l.take hi).drop lo):=by
 have k:=v.cap;have m:=v.len;refine⟨by simp;omega,by simp;omega,λi x c=>?_⟩;rw[C5,Fc] at c;split at c
 ·rename_i n;obtain⟨a,f,g⟩:=v.cells _ _ c;refine⟨a.add (lo*b.w),?_,?_⟩
  ·unfold A7;simp only[f];rw[if_neg (by omega)];rfl
  ·rw[add_add,<-Bs];exact g
 ·cases c
theorem qS {p:Q2}{e f g:Nat}{b:Nat}{len c:Nat}(d:Sl.ag ⟨A7 p e f g,len,c⟩=some b):p.map (·.block)=some b:=by
 unfold Sl.ag A7 at d;simp only at d;split at d
 ·exact d
 ·cases p with
  |none=>simp at d
  |some a=>simp[aU] at d;simp[d]
def Yields(f:al)(P:Q1)(h:J0)(l:List Pr)(d:Nat->Bool->(Nat->Prop)->aa->Prop):Prop:=
 ∀i x c a,l[i]? =some x->d i true c a->Em f P h #[x.agg] a λv e=> ∃g O',v=J3 g/\(∀ b,O' b->c b\/a.size<=b)/\Mod c a e/\d (i+1) g O' e
structure Body (h:aa) (J:Nat->Bool->(Nat->Prop)->aa->Prop):Prop where
 wf: ∀i g O hh,J i g O hh-> ∀b,O b->b<hh.size
 bj: ∀i g O hh h',J i g O hh->Mod (λb=>¬O b/\h.size<=b) hh h'->J i g O h'
def EY(k:al)(P:Q1)(fv:J0)(j:Nat->Prop)(m:aa)(l:List Pr):Prop:=
 (∀ b,j b->b<m.size)/\ ∃f d,fv= .func (.func f) #[] d/\(∀ a,(callFunc f (#[]++ #[a]++d)).calc P=some (.enter f (#[]++ #[a]++d)))/\
  ∀(c:aa),(∀ b,j b->c[b]? =m[b]?)-> ∀a e h,MS a=true->(∀ b,j b-> ¬h b)->Body c e->Yields k P a l e->e 0 true h c->
   AA k P f (#[]++ #[a]++d) c λv n=>v=J1 #[]/\ ∃i g O',Mod h c n/\(∀ b,O' b->h b\/c.size<=b)/\e i g O' n/\(g=true->i=l.length)/\i<=l.length
theorem EY.aj {e:al}{P:Q1}{fv:J0}{c S':Nat->Prop}{g d:aa}{l:List Pr}(i:EY e P fv c g l)(h: ∀b,c b->S' b)(j: ∀b,S' b->b<d.size)(k: ∀b,c b->d[b]? =g[b]?):EY e P fv S' d l:=by obtain⟨_,f,m,n,o,p⟩:=i;refine⟨j,f,m,n,o,λq r s t u v hd=>p q (λb a=>(r b (h b a)).trans (k b a)) s t u v λb a=>hd b (h b a)⟩
theorem EY.one {a:al}{P:Q1}{fv:J0}{b:Nat->Prop}{c:aa}{l:List Pr}(d:EY a P fv b c l):MS fv=true/\jO fv/\Xh fv=false:=by obtain⟨_,f,e,rfl,_⟩:=d;exact⟨rfl,by simp[jO],rfl⟩
def vT(x:Pr):iQ [.agg [.str,.str,.bool]]:=((x.key,x.val,x.gone,()),())
def vU(l:Nat)(rec:Go.Loop)(c:aa)(d:Nat->Prop)(e:(Nat->Prop)->aa->Prop)(a:aa):Prop:=
 ∃O',(∀ b,O' b->d b\/c.size<=b)/\Mod (λb=>d b\/b=l) c a/\a[l]? =some (.loop {rec with state:= .busy})/\e O' a
theorem Mod.setObj {S:Nat->Prop}{a:aa}{l:Nat}{c:Obj}(d:S l):Mod S a (a.setIfInBounds l c):=
 ⟨by simp,λb _ e=>by rw[DQ];intro f;exact e (f▸d)⟩
theorem Cf {a:aa}{l:Nat}{b:Obj}(c:l<a.size):(a.setIfInBounds l b)[l]? =some b:=by simp[c]
theorem Xr {O:al}{P:Q1}{fv:J0}{E:Nat->Prop}{Q a:aa}{l:List Pr}(ah:EY O P fv E Q l)(R: ∀b,E b->a[b]? =Q[b]?)
  (Inv:Nat->Option (Option Nat)->(Nat->Prop)->aa->Prop) (n:Nat->Prop) (hd: ∀b,E b-> ¬n b)
  {body:iQ [.agg [.str,.str,.bool]]->Nat->aa->(aa->Prop)->(Option Nat->aa->Prop)->Prop} {S:aa->Prop} {T:Option Nat->aa->Prop}
  (G: ∀i c n j,Inv i c n j-> ∀b,n b->b<j.size)
  (y: ∀i c n j k,Inv i c n j->Mod (λb=>¬n b/\a.size<=b) j k->Inv i c n k)
  (U:Inv 0 none n a)
  (round: ∀i x m j rec V W,l[i]? =some x->Inv i none m j-> ¬m (a.size+1)->a.size+1<j.size->j[a.size+1]? =some (.loop rec)->rec.state= .ready->
   (∀ k,vU (a.size+1) rec j m (Inv (i+1) none) k->V k)->(∀ o k,vU (a.size+1) rec j m (Inv (i+1) (some o)) k->W o k)->body (vT x) (a.size+1) j V W)
  (ai: ∀O' k,Inv l.length none O' k->Mod n a k-> ¬O' a.size->(∀ b,O' b->n b\/a.size<=b)->k[a.size]? =some (.deferred (some []))->S k)
  (aj: ∀i o O' k,Inv i (some o) O' k->i<=l.length->Mod n a k-> ¬O' a.size->(∀ b,O' b->n b\/a.size<=b)->k[a.size]? =some (.deferred (some []))->T o k):
  Xc O P fv [.agg [.str,.str,.bool]] body a S T:=by
 intro rec F H az ak;obtain⟨am,f,X,rfl,an,ao⟩:=ah;have Y: ∀b,n b->b<a.size:=G _ _ _ _ U;have Z: ∀b,E b->b<a.size:=λb e=>by
  have:=R b e;rw[FA (am b e)] at this;exact Aj this
 have I:Ext a ((a.push (.deferred (some []))).push (.loop rec)):=(Mod.push a _).trans (Mod.push _ _);have aA:((a.push (.deferred (some []))).push (.loop rec)).size=a.size+2:=by simp
 refine⟨f,_,?_,AA.mono (ao ((a.push (.deferred (some []))).push (.loop rec)) (λb e=>(I.get b (Z b e) (by simp)).trans (R b e)) (.func (.yield (a.size+1)) #[] #[])
  (λi g C j=> ∃m:Nat->Prop,(∀ b,C b↔m b\/b=a.size\/b=a.size+1)/\ ¬m a.size/\ ¬m (a.size+1)/\(∀ b,m b->n b\/a.size<=b)/\a.size+2<=j.size/\j[a.size]? =some (.deferred (some []))/\
   match g with
   |true=>j[a.size+1]? =some (.loop rec)/\Inv i none m j
   |false=> ∃o w,j[a.size+1]? =some (.loop w)/\w.state≠ .busy/\w.pending=some (kW o)/\Inv i (some o) m j)
  (λb=>n b\/b=a.size\/b=a.size+1) rfl ?_ ?_ ?_ ?_) ?_⟩
 ·have ap:(do let ab <-Deferred.ofValue (.func (.func f) #[] X) #[.func (.yield (a.size+1)) #[] #[]];invoke ab.target ab.args:Sem Next).calc P=(callFunc f (#[]++ #[.func (.yield (a.size+1)) #[] #[]]++X)).calc P:=rfl;unfold TG;rw[ap,an]
 ·intro b e d;have:=Z b e;rcases d with d|d|d
  ·exact hd b e d
  ·omega
  ·omega
 ·constructor
  ·rintro i g C j ⟨m,p,_,_,_,J,_,s⟩ b e;rcases(p b).1 e with d|d|d
   ·cases g
    ·obtain⟨o,w,_,_,_,z⟩:=s;exact G _ _ _ _ z b d
    ·exact G _ _ _ _ s.2 b d
   ·omega
   ·omega
  ·rintro i g C j k ⟨m,p,u,t,A,J,B,s⟩ q;have ac:Mod (λb=>¬m b/\a.size<=b) j k:=q.aj λb _ e=>⟨λd=>e.1 ((p b).2 (.inl d)),by omega⟩
   have aq:k[a.size]? =j[a.size]? :=q.get _ (by omega) λe=>e.1 ((p _).2 (.inr (.inl rfl)))
   have ad:k[a.size+1]? =j[a.size+1]? :=q.get _ (by omega) λe=>e.1 ((p _).2 (.inr (.inr rfl)))
   refine⟨m,p,u,t,A,by have:=q.size;omega,aq.trans B,?_⟩;cases g
   ·obtain⟨o,w,d,h,K,z⟩:=s;exact⟨o,w,ad.trans d,h,K,y _ _ _ _ _ z ac⟩
   ·exact⟨ad.trans s.1,y _ _ _ _ _ s.2 ac⟩
 ·rintro i x C j ar ⟨m,p,u,t,A,J,B,ae,z⟩;refine ak (vT x) j _ ae (round i x m j rec _ _ ar z t (by omega) ae F ?_ ?_)
  ·rintro k ⟨O',r,q,L,M⟩;have N:a.size+1<k.size:=by have:=q.size;omega
   refine⟨_,L,true,λb=>O' b\/b=a.size\/b=a.size+1,rfl,?_,?_,O',λ_=>Dd,?_,?_,?_,?_,?_,?_,?_⟩
   ·rintro b (e|e)
    ·rcases r b e with d|d
     ·exact .inl ((p b).2 (.inl d))
     ·exact .inr d
    ·exact .inl ((p b).2 (.inr e))
   ·refine(q.trans (Mod.setObj (.inr rfl))).aj λb _ e=>(p b).2 (e.elim .inl λd=> .inr (.inr d))
   ·intro d;rcases r _ d with h|h
    ·exact u h
    ·omega
   ·intro d;rcases r _ d with h|h
    ·exact t h
    ·omega
   ·intro b e;rcases r _ e with h|h
    ·exact A _ h
    ·exact .inr (by omega)
   ·simp;omega
   ·rw[DQ (by omega)];exact(q.get _ (by omega) (by rintro(d|d);exact u d;omega)).trans B
   ·rw[Cf N];cases rec;simp at F H;simp[F,H]
   ·refine y _ _ _ _ _ M (Mod.setObj ⟨?_,by omega⟩);intro d;rcases r _ d with h|h
    ·exact t h
    ·omega
  ·rintro o k ⟨O',r,q,L,M⟩;have N:a.size+1<k.size:=by have:=q.size;omega
   refine⟨_,L,false,λb=>O' b\/b=a.size\/b=a.size+1,rfl,?_,?_,O',λ_=>Dd,?_,?_,?_,?_,?_,o,{rec with state:= .done,pending:=some (kW o)},?_,?_,rfl,?_⟩
   ·rintro b (e|e)
    ·rcases r b e with d|d
     ·exact .inl ((p b).2 (.inl d))
     ·exact .inr d
    ·exact .inl ((p b).2 (.inr e))
   ·refine(q.trans (Mod.setObj (.inr rfl))).aj λb _ e=>(p b).2 (e.elim .inl λd=> .inr (.inr d))
   ·intro d;rcases r _ d with h|h
    ·exact u h
    ·omega
   ·intro d;rcases r _ d with h|h
    ·exact t h
    ·omega
   ·intro b e;rcases r _ e with h|h
    ·exact A _ h
    ·exact .inr (by omega)
   ·simp;omega
   ·rw[DQ (by omega)];exact(q.get _ (by omega) (by rintro(d|d);exact u d;omega)).trans B
   ·exact Cf N
   ·simp
   ·refine y _ _ _ _ _ M (Mod.setObj ⟨?_,by omega⟩);intro d;rcases r _ d with h|h
    ·exact t h
    ·omega
 ·refine⟨n,λ_=>Dd,λd=>?_,λd=>?_,λb e=> .inl e,by omega,?_,?_⟩;rotate_left 2
  ·rw[Pc (by simp)];simp
  ·exact⟨by have au:a.size+1=(a.push (.deferred (some []))).size:=(by simp);rw[au];exact Pl,y _ _ _ _ _ U I.mod⟩
  ·have:=Y _ d;omega
  ·have:=Y _ d;omega
 ·rintro v h ⟨_,i,g,C,q,aC,⟨m,p,u,t,A,J,B,s⟩,av,aw⟩;have af: ∀D,Mod n a (h.setIfInBounds (a.size+1) (.loop D)):=λD=>by
   refine⟨by simp;omega,λb e ax=>?_⟩;rw[DQ (by omega)];exact(q.get b (by omega) (by rintro(d|d|d);exact ax d;omega;omega)).trans (I.get b e (by simp))
  have ag: ∀D,(h.setIfInBounds (a.size+1) (.loop D))[a.size]? =some (.deferred (some [])):=λD=>by
   rw[DQ (by omega)];exact B
  cases g
  ·obtain⟨o,w,d,K,ay,z⟩:=s;exact⟨w,d,K,.inr ⟨o,ay,aj i o m _ (y _ _ _ _ _ z (Mod.setObj ⟨t,by omega⟩)) aw (af _) u A (ag _)⟩⟩
  ·refine⟨rec,s.1,by simp[F],.inl ⟨H,ai m _ ?_ (af _) u A (ag _)⟩⟩;have:=av rfl;subst this;exact y _ _ _ _ _ s.2 (Mod.setObj ⟨t,by omega⟩)
open Go Ieee
abbrev fD:Format:=Ieee.double
theorem ALQ(s:Bool)(m u v:Nat):signed s m (u+v)=signed s m u*(2:Int)^v:=by
 unfold signed;rw[NO,NO,Hc,<-FG];split
 ·push_cast;rw[Int.neg_mul]
 ·push_cast;rfl
def DV(b:Datum)(c:Int):Prop:= ∃s m,∃a:Nat,b= .number s m (-(a:Int))/\signed s m 0=c*(2:Int)^a
def VR(b:Nat)(a:Int):Prop:=DV (fD.read b) a
theorem Oe(s:Bool)(m u:Nat):signed s m u=signed s m 0*(2:Int)^u:=by have:=ALQ s m 0 u;rwa [AI] at this
theorem pow_pos(a:Nat):(0:Int)<(2:Int)^a:=Int.pow_pos (by decide)
theorem AH7(a b:Int)(c:Nat):compare (a*(2:Int)^c) (b*(2:Int)^c)=compare a b:=by have d:=pow_pos c;simp only[compare,compareOfLessAndEq];have e:(a*2^c<b*2^c)↔a<b:=Int.mul_lt_mul_right d;have f:(a*2^c=b*2^c)↔a=b:=Int.mul_eq_mul_right_iff (by omega);by_cases c1:a<b<;>by_cases c2:a=b<;>simp[e,f,c1,c2]
theorem DV.order {x d:Datum}{e m:Int}(f:DV x e)(h:DV d m):x.order d=some (compare e m):=by
 obtain⟨s,a,c,rfl,i⟩:=f;obtain⟨t,b,l,rfl,g⟩:=h;simp only[Datum.order];congr 1;have j:(-(c:Int)-min (-(c:Int)) (-(l:Int))).toNat=max c l-c:=by omega
 have k:(-(l:Int)-min (-(c:Int)) (-(l:Int))).toNat=max c l-l:=by omega
 rw[j,k,Oe s,Oe t,i,g,Iv,Iv,<-Ix,<-Ix,show c+(max c l-c)=max c l by omega,show l+(max c l-l)=max c l by omega,AH7]
theorem VR.order {x a:Nat}{b m:Int}(c:VR x b)(d:VR a m):fD.order x a=some (compare b m):=DV.order c d
theorem cmp_eq {a m:Int}:(compare a m= .eq)↔a=m:=by simp only[compare,compareOfLessAndEq];by_cases c1:a<m<;>by_cases c2:a=m<;>simp[c1,c2]<;>omega
theorem ya(b:Bool){a:Nat}(c:a<fD.signWeight):
  fD.read (fD.word b a)=if a<fD.binade then .number b a fD.leastPlace else if a<fD.infRung then .number b (fD.binade+a % fD.binade) (fD.leastPlace+(a / fD.binade-1:Nat)) else if a=fD.infRung then .infinity b else .nan b (a-fD.infRung):=by
 have d:0<fD.signWeight:=HG _;have e:(fD.word b a / fD.signWeight % 2==1)=b:=by
  unfold Format.word;cases b
  ·simp[Nat.div_eq_of_lt c]
  ·simp[Nat.add_div_left _ d,Nat.div_eq_of_lt c]
 have f:fD.word b a % fD.signWeight=a:=by
  unfold Format.word;cases b
  ·simp[AE c]
  ·simp[AE c]
 unfold Format.read;simp only[e,f]
theorem yb(s:Bool)(u:Nat):signed s 0 u=0:=by cases s<;>simp[signed]
theorem oV:fD.binade=4503599627370496:=by decide
theorem rM:fD.infRung=9218868437227405312:=by decide
theorem yc:fD.signWeight=9223372036854775808:=by decide
theorem mP:fD.leastPlace= -1074:=by decide
theorem AT3:fD.fractionBits=52:=rfl
theorem ARc(a:Bool):VR (fD.word a 0) 0:=by refine⟨a,0,1074,?_,by rw[yb,Int.zero_mul]⟩;rw[ya a (by rw[yc];decide),if_pos (by rw[oV];decide),mP];rfl
theorem YP {v:Nat}(f:0<v)(K:Nat):(v*2^K).log2=v.log2+K:=by
 have a:v≠0:=by omega
 have c:0<2^K:=HG K;have b:v*2^K≠0:=Nat.mul_ne_zero a (by omega);have d:2^v.log2<=v:=(RR a).1 (A0 _);have e:v<2^(v.log2+1):=(NX a).1 (Hn _);have g:v.log2+K<=(v*2^K).log2:=by rw[RR b,Hc];exact AN _ d
 have h:(v*2^K).log2<v.log2+1+K:=by rw[NX b,Hc];exact RT e c
 omega
theorem AQL(b:Bool)(a:Nat):Toward.even.cut b a 0=a:=by simp[Toward.cut,Nat.mod_one]
theorem ANh(b:Toward)(c:Bool){M a:Nat}(d:0<M):b.cut c (M*2^a) a=M:=by
 unfold Toward.cut;have hd:min a ((M*2^a).log2+2)=a:=by rw[YP d];omega
 have e:0<2^a:=HG a;simp only[hd,Nat.one_shiftLeft,Nat.mul_mod_left,Nat.mul_div_cancel _ e];cases b
 ·have f: ¬(2^a=0):=by omega
  simp[f]
 all_goals simp
theorem APi {L M:Nat}(a:L<=52)(b:M<9007199254740992):min ((L+1022)*4503599627370496+M) 9218868437227405312=(L+1022)*4503599627370496+M:=by omega
theorem ASr {L M:Nat}(a:4503599627370496<=M): ¬(L+1022)*4503599627370496+M<4503599627370496:=by omega
theorem AS3 {L M:Nat}(a:L<=52)(b:M<9007199254740992):(L+1022)*4503599627370496+M<9218868437227405312:=by omega
theorem yd {L M:Nat}(a:4503599627370496<=M)(b:M<9007199254740992):((L+1022)*4503599627370496+M) % 4503599627370496=M-4503599627370496/\((L+1022)*4503599627370496+M) / 4503599627370496=L+1023:=by omega
theorem ASv {M:Nat}(a:4503599627370496<=M):4503599627370496+(M-4503599627370496)=M:=by omega
theorem AS9 {L:Nat}(a:L<=52):(-1074:Int)+((L+1023-1:Nat):Int)=(L:Int)-52:=by omega
theorem ATY {L:Nat}(a:L<=52):(L:Int)-52= -((52-L:Nat):Int):=by omega
theorem ATB {L M:Nat}(a:L<=52)(b:M<9007199254740992):(L+1022)*4503599627370496+M<9223372036854775808:=by omega
theorem AE4(a:Bool){v K:Nat}(i:0<v)(j:v<9007199254740992):VR (fD.nearest a (v*2^K) (-(K:Int))) (if a then -(v:Int) else v):=by
 have e:v≠0:=by omega
 have k:=YP i K;have b:v.log2<=52:=by have:v.log2<53:=(NX e).2 (by simpa using j);omega
 have l:2^v.log2<=v:=(RR e).1 (A0 _);have m:v<2^(v.log2+1):=(NX e).1 (Hn _);have n: ¬v*2^K=0:=Nat.mul_ne_zero e (by have:=HG K;omega);generalize u:v.log2=L at*
 have f:4503599627370496<=v*2^(52-L):=by have c:2^L*2^(52-L)<=v*2^(52-L):=AN _ l;rw[<- Hc,show L+(52-L)=52 by omega] at c;exact c
 have d:v*2^(52-L)<9007199254740992:=by have c:v*2^(52-L)<2^(L+1)*2^(52-L):=RT m (HG _);rw[<- Hc,show L+1+(52-L)=53 by omega] at c;exact c
 have o:fD.nearest a (v*2^K) (-(K:Int))=fD.word a ((L+1022)*4503599627370496+v*2^(52-L)):=by
  unfold Format.nearest;rw[if_neg n];have p:max (-(K:Int)+((v*2^K).log2:Nat)-(fD.fractionBits:Nat)) fD.leastPlace=(L:Int)-52:=by rw[k,mP,AT3];push_cast;omega
  simp only[p];have q:Toward.even.cut a ((v*2^K) <<< (-(K:Int)-((L:Int)-52)).toNat) (((L:Int)-52)- -(K:Int)).toNat=v*2^(52-L):=by
   by_cases w:K+L<=52
   ·have g:(((L:Int)-52)- -(K:Int)).toNat=0:=by omega
    have h:(-(K:Int)-((L:Int)-52)).toNat=52-L-K:=by omega
    rw[g,h,AQL,NO,FG,<-Hc];congr 2;omega
   ·have g:(((L:Int)-52)- -(K:Int)).toNat=L+K-52:=by omega
    have h:(-(K:Int)-((L:Int)-52)).toNat=0:=by omega
    have r:v*2^K=(v*2^(52-L))*2^(L+K-52):=by rw[FG,<-Hc];congr 2;omega
    rw[g,h,Kx,r,ANh _ _ (by omega)]
  have s:(((L:Int)-52)-fD.leastPlace).toNat=L+1022:=by rw[mP];omega
  rw[q,s,oV,rM,APi b d]
 rw[o];have t:(L+1022)*4503599627370496+v*2^(52-L)<fD.signWeight:=by rw[yc];exact ATB b d
 refine⟨a,v*2^(52-L),52-L,?_,?_⟩
 ·rw[ya a t,oV,rM,mP,if_neg (ASr f),if_pos (AS3 b d),(yd f d).1,(yd f d).2,ASv f,AS9 b,ATY b]
 ·unfold signed;rw[Kx];cases a
  ·simp
  ·simp[Int.neg_mul]
theorem AP6 {s:Bool}{a:Nat}{K:Nat}{b:Int}(c:signed s a 0=b*(2:Int)^K)(j:b.natAbs<9007199254740992):VR (fD.write (.number s a (-(K:Int)))) b:=by
 show VR (fD.nearest s a (-(K:Int))) b;have h:=pow_pos K;have k:(2:Int)^K=((2^K:Nat):Int):=by push_cast;rfl
 by_cases l:b=0
 ·subst l;have e:a=0:=by unfold signed at c;rw[Kx,Int.zero_mul] at c;split at c<;>omega
  subst e;have f:fD.nearest s 0 (-(K:Int))=fD.word s 0:=by unfold Format.nearest;rw[if_pos rfl]
  rw[f];exact ARc s
 ·have e:a=b.natAbs*2^K/\(if s then -(b.natAbs:Int) else b.natAbs)=b:=by
   unfold signed at c;rw[Kx] at c;have i:(a:Int).natAbs=(b*2^K).natAbs:=by rw[<- c];split<;>simp
   have f:(b*2^K).natAbs=b.natAbs*2^K:=by rw[Int.natAbs_mul,k,Of]
   refine⟨by rw[f] at i;simpa using i,?_⟩;split at c
   ·rename_i g;rw[if_pos g];have:b*(2:Int)^K<=0:=by omega
    have:b<=0:=by
     rcases Int.lt_or_le 0 b with d|d
     ·have:=Int.mul_pos d h;omega
     ·exact d
    omega
   ·rename_i g;rw[if_neg g];have:0<=b*(2:Int)^K:=by omega
    have:0<=b:=by
     rcases Int.lt_or_le b 0 with d|d
     ·have:=Int.mul_neg_of_neg_of_pos d h;omega
     ·exact d
    omega
  rw[e.1];have:=AE4 s (v:=b.natAbs) (K:=K) (by omega) j;rw[e.2] at this;exact this
theorem AI9(t:Int):signed (decide (t<0)) t.natAbs 0=t:=by
 unfold signed;rw[Kx];split
 ·rename_i a;simp at a;omega
 ·rename_i a;simp at a;omega
theorem DV.sum {x e:Datum}{d m:Int}(i:DV x d)(j:DV e m)(k:(d+m).natAbs<9007199254740992): ∃f,x.sum e=some f/\VR (fD.write f) (d+m):=by
 obtain⟨s,a,c,rfl,n⟩:=i;obtain⟨t,b,l,rfl,g⟩:=j;refine⟨_,rfl,?_⟩;have o:min (-(c:Int)) (-(l:Int))= -((max c l:Nat):Int):=by omega
 have p:(-(c:Int)-min (-(c:Int)) (-(l:Int))).toNat=max c l-c:=by omega
 have q:(-(l:Int)-min (-(c:Int)) (-(l:Int))).toNat=max c l-l:=by omega
 have r:signed s a (-(c:Int)-min (-(c:Int)) (-(l:Int))).toNat+signed t b (-(l:Int)-min (-(c:Int)) (-(l:Int))).toNat=(d+m)*(2:Int)^(max c l):=by rw[p,q,Oe s,Oe t,n,g,Iv,Iv,<-Ix,<-Ix,show c+(max c l-c)=max c l by omega,show l+(max c l-l)=max c l by omega,Int.add_mul]
 simp only[r];rw[o];generalize u:(d+m)*(2:Int)^(max c l)=T at*
 refine AP6 ?_ k;rw[u];split
 ·rename_i h;rw[h];exact(yb _ _).trans (by rw[<- h])
 ·exact(AI9 T)
theorem ANt {b:Nat}{s:Bool}{m:Nat}{i:Int}(a:fD.read b= .number s m i):i<=0\/4503599627370496<=m:=by
 unfold Format.read at a;simp only[oV,rM,mP] at a;split at a
 ·injection a with _ _ c;exact .inl (by omega)
 ·split at a
  ·injection a with _ d _;exact .inr (by omega)
  ·split at a<;>cases a
theorem AKt(s:Bool)(m u:Nat):(signed s m u).natAbs=m*2^u:=by
 unfold signed;rw[NO];split
 ·rw[Int.natAbs_neg,Of]
 ·rw[Of]
theorem VR.of_eq {x k:Nat}{m:Int}(o:VR k m)(v:m.natAbs<4503599627370496)(c:fD.order x k=some .eq):VR x m:=by
 obtain⟨t,b,l,p,g⟩:=o;unfold Format.order at c;rw[p] at c;unfold VR;cases e:fD.read x with
 |nan s f=>rw[e] at c;simp[Datum.order] at c
 |infinity s=>rw[e] at c;cases s<;>simp[Datum.order] at c
 |number s a i=>
  rw[e] at c;simp only[Datum.order,BT] at c;rw[cmp_eq] at c;by_cases q:i<=0
  ·refine⟨s,a,(-i).toNat,by rw[show -(((-i).toNat:Nat):Int)=i by omega],?_⟩;generalize w:(-i).toNat=d;have h:(i-min i (-(l:Int))).toNat=max d l-d:=by omega
   have j:(-(l:Int)-min i (-(l:Int))).toNat=max d l-l:=by omega
   rw[h,j,Oe s,Oe t,g,Iv,<-Ix,show l+(max d l-l)=max d l by omega] at c;refine Int.eq_of_mul_eq_mul_right (a:=(2:Int)^(max d l-d)) (by have:=pow_pos (max d l-d);omega) ?_;rw[c,Iv,<-Ix,show d+(max d l-d)=max d l by omega]
  ·exfalso;have y:=(ANt e).resolve_left q;have h:(i-min i (-(l:Int))).toNat=i.toNat+l:=by omega
   have j:(-(l:Int)-min i (-(l:Int))).toNat=0:=by omega
   rw[h,j,g] at c;have n:=congrArg Int.natAbs c;have r:(2:Int)^l=((2^l:Nat):Int):=by push_cast;rfl
   rw[AKt,Int.natAbs_mul,r,Of,Hc,<-FG] at n;have z:a*2^i.toNat=m.natAbs:=Nat.eq_of_mul_eq_mul_right (HG l) n;have u:1<=2^i.toNat:=HG _;have A:a*1<=a*2^i.toNat:=Nat.mul_le_mul_left _ u;omega
theorem BG.run {A:al}{P:Q1}{s:Sem J0}{h:aa}{K:A2L}{v:J0}(b: ∀a,s.run P a= .ok v a)(c:K v h):BG A P s h K:=λd=>⟨v,h,d,b _,c⟩
section
variable {A : al} {P : Q1} {t : Q7} {o1 o2 : Operand} {x y : Nat} {h : aa} {K : A2L}
end
open Go
theorem toList_inj {a b:A2M}:(a.toList==b.toList)=decide (a=b):=by rw[ByteArray.toList_eq,ByteArray.toList_eq];rw[DS];simp[Mu,<-Array.toList_inj]
theorem Cn {a b:A2M}:bR a b=decide (a=b):=toList_inj
theorem RJ: ∀(a:List UInt8),Op.bytesLess a a=false
 | []=>rfl
 |a::x=>by simp[Op.bytesLess,RJ x]
theorem mG: ∀(a b:List UInt8),Op.bytesLess a b=false->Op.bytesLess b a=false->a=b
 | [],[],_,_=>rfl
 | [],_::_,c,_=>by simp[Op.bytesLess] at c
 |_::_,[],_,c=>by simp[Op.bytesLess] at c
 |a::x,b::f,d,e=>by
  simp only[Op.bytesLess,GS,A03,decide_eq_false_iff_not,beq_eq_false_iff_ne] at d e;have g:a=b:=by have h:=d.1;have i:=e.1;exact UInt8.le_antisymm (UInt8.not_lt.1 i) (UInt8.not_lt.1 h)
  subst g;rw[mG x f (d.2.resolve_left (by simp)) (e.2.resolve_left (by simp))]
theorem UA: ∀(a b c:List UInt8),Op.bytesLess a b=true->Op.bytesLess b c=true->Op.bytesLess a c=true
 |_,[],_,f,_=>by simp[Op.bytesLess] at f
 |_,_::_,[],_,f=>by simp[Op.bytesLess] at f
 | [],_::_,_::_,_,_=>by simp[Op.bytesLess]
 |a::x,b::g,c::z,e,d=>by
  simp only[Op.bytesLess,DG,A3,decide_eq_true_eq,beq_iff_eq] at e d ⊢;rcases e with e|⟨rfl,e⟩
  ·rcases d with d|⟨rfl,d⟩
   ·exact .inl (UInt8.lt_trans e d)
   ·exact .inl e
  ·rcases d with d|⟨rfl,d⟩
   ·exact .inl d
   ·exact .inr ⟨rfl,UA x g z e d⟩
theorem CY(a:A2M):aO a a=false:=RJ _
theorem Da {a b c:A2M}(d:aO a b=true)(e:aO b c=true):aO a c=true:=UA _ _ _ d e
theorem OP {a b:A2M}(d:aO a b=false)(e:aO b a=false):a=b:=by
 have:=mG _ _ d e;have c:bR a b=true:=by simp[bR,this]
 rw[Cn] at c;simpa using c
theorem Oj {a b:A2M}(c:aO a b=true):aO b a=false:=by
 cases d:aO b a
 ·rfl
 ·have:=Da c d;rw[CY] at this;cases this
theorem NI {a b:A2M}(c:aO a b=true):a≠b:=by rintro rfl;rw[CY] at c;cases c
theorem oF {a b c:A2M}(d:aO a b=true)(f:aO c b=false):aO a c=true:=by
 cases e:aO b c
 ·rw[OP f e];exact d
 ·exact Da d e
theorem Zz {a b c:A2M}(e:aO b a=false)(d:aO c b=false):aO c a=false:=by
 cases f:aO c a
 ·rfl
 ·have:=oF f e;rw[this] at d;cases d
theorem wy: ∀(a b:List UInt8),Op.bytesLess a b=decide (a<b)
 | [],[]=>by simp[Op.bytesLess]
 | [],_::_=>by simp[Op.bytesLess]
 |_::_,[]=>by simp[Op.bytesLess]
 |a::x,b::c=>by
  simp only[Op.bytesLess,wy x c,A0b];by_cases d:a<b<;>by_cases e:a=b<;>simp[d,e]
theorem Vr(a b:A2M):aO a b=decide (a.data.toList<b.data.toList):=by simp[aO,ByteArray.toList_eq,wy]
def Im:cJ A2M where
 enc x:= [.string x]
 w:=1
 len _:=rfl
 pos:=by omega
 one x v a:=by simp at a;subst a;rfl
def Ib:cJ Int where
 enc x:= [.int J9 x]
 w:=1
 len _:=rfl
 pos:=by omega
 one x v a:=by simp at a;subst a;rfl
theorem Cells.str {b:aa}{a:Q6}{x:A2M}(c:Cells b a (Im.enc x)):ah b a=some (.string x):=by have d:=c 0 _ rfl;rwa [add_zero] at d
theorem Cells.int {b:aa}{a:Q6}{x:Int}(c:Cells b a (Ib.enc x)):ah b a=some (.int J9 x):=by have d:=c 0 _ rfl;rwa [add_zero] at d
theorem Own.lt {c:Type}{e:cJ c}{T:Q7}{d:aa}{s:Sl}{l:List c}(f:Own e T d s l){b:Nat}(a:s.ag=some b):b<d.size:=by
 rcases f.row with⟨rfl,_⟩|⟨g,j,h,i,_⟩
 ·simp[Sl.ag] at a
 ·simp[Sl.ag,h] at a;subst a;exact Aj i
def gl(a:A2M)(v:J0):List (A2M×J0)->List (A2M×J0)
 | []=> [(a,v)]
 |p::m=>if p.1=a then(a,v)::m else p::gl a v m
def Ui(a:A2M)(m:List (A2M×J0)):Option J0:=(m.find? λp=>decide (p.1=a)).map (·.2)
def iR(a:A2M)(m:List (A2M×J0)):List (A2M×J0):=m.filter λp=> !decide (p.1=a)
theorem Ou(a:A2M)(p:A2M×J0)(m:List (A2M×J0)):Ui a (p::m)=if p.1=a then some p.2 else Ui a m:=by unfold Ui;rw[F2];by_cases b:p.1=a<;>simp[b]
structure dY (es:Array MapEntry) (clock:Nat) (m:List (A2M×J0)):Prop where
 same:es.toList.map (λe=>(e.key,e.val))=m.map λp=>(Value.string p.1,p.2)
 stamped:MapKept.Stamped es clock
 size:es.size<=maxLen
 keys: ∀p∈m,p.1.size<=maxLen
def Vx(d:aa)(b:Nat)(m:List (A2M×J0)):Prop:= ∃a c,d[b]? =some (.map a c)/\dY a c m
theorem Vx.mod {a c:aa}{b:Nat}{m:List (A2M×J0)}{d:Nat->Prop}(M:Vx a b m)(x:Mod d a c)(e: ¬d b):Vx c b m:=by obtain⟨f,g,h,i⟩:=M;exact⟨f,g,x.ag h e,i⟩
theorem Vx.lt {a:aa}{b:Nat}{m:List (A2M×J0)}(M:Vx a b m):b<a.size:=by obtain⟨d,e,c,f⟩:=M;exact Aj c
theorem Vx.empty {a:aa}{b c:Nat}(d:a[b]? =some (.map #[] c)):Vx a b []:=⟨#[],c,d,rfl,MapKept.stamped_empty c,by simp,by simp⟩
theorem dY.len {a:Array MapEntry}{b:Nat}{m:List (A2M×J0)}(M:dY a b m):a.size=m.length:=by rw[<- Ek];have:=congrArg List.length M.same;simpa using this
theorem dY.keysOf {a:Array MapEntry}{b:Nat}{m:List (A2M×J0)}(M:dY a b m):a.toList.map (·.key)=m.map λp=>Value.string p.1:=by have:=congrArg (List.map Prod.fst) M.same;simpa [AW,G0] using this
theorem dY.nodup {b:Array MapEntry}{c:Nat}{m:List (A2M×J0)}(M:dY b c m):(m.map (·.1)).Nodup:=by
 have a:=M.stamped.2.2;rw[M.keysOf] at a;have d:(m.map λp=>Value.string p.1)=(m.map (·.1)).map Value.string:=by simp
 rw[d] at a;exact(List.pairwise_map.1 a).imp λe f=>e (congrArg _ f)
theorem Vn(a:A2M)(v:J0): ∀(c:List MapEntry) (m:List (A2M×J0)) (i:Nat),(c.map λe=>(e.key,e.val))=(m.map λp=>(Value.string p.1,p.2))->
  (Instr.findNow .string (.string a) c i=some none/\Ui a m=none/\gl a v m=m++ [(a,v)]/\iR a m=m/\ ∀e∈c,e.key≠ .string a)\/
  ∃d u,Instr.findNow .string (.string a) c i=some (some (i+d,u))/\Ui a m=some u/\(∃ e,c[d]? =some e/\e.key= .string a)/\((c.modify d λe=> {e with key:= .string a,val:=v}).map λe=>(e.key,e.val))=(gl a v m).map (λp=>(Value.string p.1,p.2))/\
   ((m.map (·.1)).Nodup->((c.eraseIdx d).map λe=>(e.key,e.val))=(iR a m).map λp=>(Value.string p.1,p.2))
 | [],[],i,_=> .inl ⟨rfl,rfl,rfl,rfl,by simp⟩
 | [],_::_,_,h=>by simp at h
 |_::_,[],_,h=>by simp at h
 |e::c,p::m,i,h=>by
  simp only[BW,GC,LR] at h;obtain⟨⟨j,l⟩,n⟩:=h;have o:Instr.sameNow .string (.string a) e.key=some (decide (a=p.1)):=by rw[j];show some (a==p.1)=_;congr 1;rw[DS,MapKept.bytes_beq];simp
  by_cases b:p.1=a
  ·refine .inr ⟨0,e.val,?_,?_,⟨e,rfl,by rw[j,b]⟩,?_,?_⟩
   ·unfold Instr.findNow;rw[o,decide_eq_true b.symm];rfl
   ·rw[Ou,if_pos b,l]
   ·unfold gl;rw[if_pos b];simp[n]
   ·intro g;have g:=List.nodup_cons.1 g;simp only[List.eraseIdx_zero,List.tail_cons];rw[n];congr 1;unfold iR;rw[AT];simp only[b,decide_true,Lo,CA,if_false];refine(List.filter_eq_self.2 λC w=>?_).symm;simp only[CI,decide_eq_false_iff_not];rintro rfl;exact g.1 (by show p.1∈_;rw[b];exact N3 (f:=Prod.fst) w)
  ·rcases Vn a v c m (i+1) n with⟨q,r,s,k,y⟩|⟨d,u,q,r,⟨z,s,A⟩,B,k⟩
   ·refine .inl ⟨?_,?_,?_,?_,?_⟩
    ·unfold Instr.findNow;rw[o,decide_eq_false (λe=>b e.symm)];exact q
    ·rw[Ou,if_neg b];exact r
    ·unfold gl;rw[if_neg b,s];rfl
    ·unfold iR at k ⊢;rw[AT];simp[b];simpa using k
    ·intro x t;rcases List.mem_cons.1 t with rfl|t
     ·rw[j];intro e;injection e with e;exact b e
     ·exact y x t
   ·refine .inr ⟨d+1,u,?_,?_,⟨z,by simpa using s,A⟩,?_,?_⟩
    ·unfold Instr.findNow;rw[o,decide_eq_false (λe=>b e.symm)];rw[show i+(d+1)=i+1+d by omega];exact q
    ·rw[Ou,if_neg b];exact r
    ·unfold gl;rw[if_neg b];simp[j,l,B]
    ·intro g;have g:=List.nodup_cons.1 g;have:=k g.2;unfold iR at this ⊢;rw[AT];simp[b,j,l];simpa using this
section
variable {P : Q1}
theorem Jn {a:Q7}(c:P.underlying a=some .string)(d:Bool)(e:Nat)(f:A2M)(b:World):(Instr.checkKey d (e+1) a (.string f)).run P b= .ok () b:=by simp[Instr.checkKey,BN c]
theorem RV {g:al}{t h i:Q7}{z:J0}(j:P.underlying t=some (.map h i))(c:P.underlying h=some .string)(n:(zeroValue i).calc P=some z){a:aa}{b:Nat}{m:List (A2M×J0)}{d:A2M}{K:A2L}
  (M:Vx a b m) (o:K ((Ui d m).getD z) a):BG g P (Instr.lookup t (.map (some b)) (.string d) false) a K:=by
 intro k;refine⟨_,a,k,?_,o⟩;obtain⟨p,v,q,s⟩:=M;have l:=MapKept.run_getObj_map (P:=P) (w:=g.at a k) (r:=b) q;rcases Vn d z p.toList m 0 s.same with⟨e,f,_⟩|⟨x,u,e,f,_,_⟩
 ·simp[Instr.lookup,BN j,l,Jn c,Instr.findKey,BN c,e,f,Result.andThen,DN n]
 ·simp[Instr.lookup,BN j,l,Jn c,Instr.findKey,BN c,e,f,Result.andThen]
theorem wz {b:A2M}{v:J0}: ∀ {m:List (A2M×J0)} {p:A2M×J0},p∈gl b v m->p.1=b\/p∈m
 | [],p,a=>by simp[gl] at a;exact .inl (by rw[a])
 |q::m,p,a=>by
  unfold gl at a;split at a
  ·rcases List.mem_cons.1 a with rfl|a
   ·exact .inl rfl
   ·exact .inr (AH _ a)
  ·rcases List.mem_cons.1 a with rfl|a
   ·exact .inr CH
   ·exact(wz a).imp id (AH _)
theorem ANP {g:al}{t s I:Q7}(y:P.underlying t=some (.map s I))(h:P.underlying s=some .string){d:aa}{b:Nat}{m:List (A2M×J0)}{a:A2M}{v:J0}{K:aa->Prop}
  (M:Vx d b m) (J:a.size<=maxLen) (U:m.length<maxLen) (z: ∀i,Vx i b (gl a v m)->Mod (λc=>c=b) d i->i.size=d.size->K i):gT g P (Instr.mapUpdate t (.map (some b)) (.string a) v) d K:=by
 intro f;obtain⟨j,l,n,e⟩:=M;have A:=Aj n;have B:=MapKept.run_getObj_map (P:=P) (w:=g.at d f) (r:=b) n;have C: ∀k,(setObj b k).run P (g.at d f)= .ok () (g.at (d.setIfInBounds b k) f):=λk=>MapKept.run_setObj_map (P:=P) (w:=g.at d f) k n
 have D: ∀p∈gl a v m,p.1.size<=maxLen:=λp L=>(wz L).elim (λd=>by rw[d];exact J) (e.keys p)
 have V:=e.len;rcases Vn a v j.toList m 0 e.same with⟨o,N,q,_,O⟩|⟨E,u,o,N,⟨Q,q,F⟩,R,_⟩
 ·refine⟨d.setIfInBounds b (.map (j.push {key:= .string a,val:=v,born:=l}) (l+1)),f,?_,z _ ⟨_,_,Cf A,?_,MapKept.stamped_push e.stamped O,by simp;omega,D⟩ (Mod.setObj rfl) (by simp)⟩
  ·simp[Instr.mapUpdate,BN y,B,Jn h,Instr.findKey,BN h,o,Result.andThen,C]
  ·rw[q];simp[e.same]
 ·have G:j[E]? =some Q:=by simpa using q
  refine⟨d.setIfInBounds b (.map (j.modify E λe=> {e with key:= .string a,val:=v}) l),f,?_,z _ ⟨_,_,Cf A,?_,MapKept.stamped_modify e.stamped _ _ (λ_ _=>rfl) (λx _ H=>?_),by simpa using e.size,D⟩ (Mod.setObj rfl) (by simp)⟩
  ·have S: ∀w,(Instr.keyThatStays (.string a) (.string a)).run P w= .ok (.string a) w:=λw=>by
    have T:(a==a)=true:=(MapKept.bytes_beq a a).2 rfl;simp[Instr.keyThatStays,Instr.sameBits,T]
   simp[Instr.mapUpdate,BN y,B,Jn h,Instr.findKey,BN h,o,G,F,S,Result.andThen,C]
  ·rw[Hv];exact R
  ·rw[G] at H;cases H;exact F.symm
theorem AMy {g:al}{t l D E:Q7}(v:P.underlying t=some (.map l D))(h:P.underlying l=some .string){a:aa}{b:Nat}{m:List (A2M×J0)}{i:A2M}{K:A2L}
  (M:Vx a b m) (x: ∀j,Vx j b (iR i m)->Mod (λc=>c=b) a j->j.size=a.size->K (.tuple #[]) j):BG g P (Builtin.delete_ #[t,l] E #[.map (some b),.string i]) a K:=by
 intro e;obtain⟨f,y,n,d⟩:=M;have z:=Aj n;have A:=MapKept.run_getObj_map (P:=P) (w:=g.at a e) (r:=b) n;have B: ∀k,(setObj b k).run P (g.at a e)= .ok () (g.at (a.setIfInBounds b k) e):=λk=>MapKept.run_setObj_map (P:=P) (w:=g.at a e) k n
 have C: ∀p∈iR i m,p.1.size<=maxLen:=λp F=>d.keys p (List.mem_filter.1 F).1
 rcases Vn i (.bool true) f.toList m 0 d.same with⟨o,G,_,q,_⟩|⟨s,u,o,G,⟨H,I,N⟩,_,q⟩
 ·refine⟨_,a.setIfInBounds b (.map f y),e,?_,x _ ⟨_,_,Cf z,by rw[q];exact d.same,d.stamped,d.size,C⟩ (Mod.setObj rfl) (by simp)⟩;simp[Builtin.delete_,BN v,A,Jn h,Instr.findKey,BN h,o,Result.andThen,B]
 ·have J:f[s]? =some H:=by simpa using I
  refine⟨_,a.setIfInBounds b (.map (f.eraseIdxIfInBounds s) y),e,?_,x _ ⟨_,_,Cf z,?_,MapKept.stamped_erase d.stamped _,?_,C⟩ (Mod.setObj rfl) (by simp)⟩
  ·simp[Builtin.delete_,BN v,A,Jn h,Instr.findKey,BN h,o,Result.andThen,B]
  ·have L:=(Array.getElem?_eq_some_iff.1 J).1;rw[Array.eraseIdxIfInBounds,dif_pos L,A0e];exact q d.nodup
  ·have:(f.eraseIdxIfInBounds s).size<=f.size:=by unfold Array.eraseIdxIfInBounds;split<;>simp
   have:=d.size;omega
end
def lh(_:J0):Option (DataW Unit×List MemPlace):=some (.nil,[])
theorem wA {a:Type}(x:Lit×DataW a): ∀l:List (Lit×DataW a),(DataW.insert x l).Perm (x::l)
 | []=>by simp[DataW.insert]
 |y::b=>by
  unfold DataW.insert;split
  ·exact IF _
  ·exact((wA x b).cons y).trans (List.Perm.swap x y b)
theorem sorted_perm {a:Type}: ∀l:List (Lit×DataW a),(l.foldr DataW.insert []).Perm l
 | []=>IF _
 |x::b=>(wA x _).trans ((sorted_perm b).cons x)
theorem AK5 {P:Q1}{kt:Q7}(j:P.underlying kt=some .string){w:World}{b:Nat}{m:List (A2M×J0)}(M:Vx w.heap b m):
  ∃e:DataW Unit,w.ownsMap P kt lh b m.length e/\(strKeys e).Perm (m.map λp=>p.1.data.toList)/\Maps.size e=m.length:=by
 obtain⟨c,k,l,a⟩:=M;have h: ∀x∈c.toList,∃s:A2M,x.key= .string s/\WideElems.rd P kt lh x=some (.string s.data.toList,.nil):=by
  intro x d;have:x.key∈m.map λp=>Value.string p.1:=by rw[<- a.keysOf];exact N3 d
  obtain⟨p,n,i⟩:=List.mem_map.1 this;refine⟨p.1,i.symm,?_⟩;simp[WideElems.rd,<-i,Go.WideMaps.keyOf_string_mk j (a.keys p n),lh]
 refine⟨_,⟨c,k,l,⟨a.size,a.stamped,λx d=>?_⟩,by rw[a.len];exact A0 _,rfl⟩,?_,?_⟩
 ·obtain⟨s,_,f⟩:=h x d;exact⟨_,f⟩
 ·show((c.toList.map (WideElems.rg P kt lh)).foldr DataW.insert [] |>.map λp=>strOf p.1).Perm _;refine((sorted_perm _).map _).trans ?_;have g:(c.toList.map (WideElems.rg P kt lh)).map (λp=>strOf p.1)=(c.toList.map (·.key)).map λv=>match v with| .string s=>s.data.toList|_=> []:=by
   rw[AW,AW];refine CM λx d=>?_
   obtain⟨s,g,f⟩:=h x d;simp[Function.comp,WideElems.rg,f,g,strOf]
  rw[g,a.keysOf,AW];exact List.Perm.of_eq (CM λx _=>rfl)
 ·show((c.toList.map (WideElems.rg P kt lh)).foldr DataW.insert []).length=_;rw[(sorted_perm _).length_eq];simp[a.len]
def oK(l:List A2M):Prop:=l.Pairwise λa b=>aO a b=true
theorem AJ6 {d:List (List UInt8)}{l:List A2M}(e:oK l)(f:d.Perm (l.map λx=>x.data.toList)):(d.mergeSort λx g=>decide (x<=g))=l.map λx=>x.data.toList:=by
 have h:=mergeSort_of_perm f;have i:(l.map λx=>x.data.toList).mergeSort leB=l.map λx=>x.data.toList:=by refine List.mergeSort_of_pairwise ?_;refine List.pairwise_map.2 (e.imp λ{a b} c=>?_);rw[Vr] at c;simp only[decide_eq_true_eq] at c ⊢;exact List.le_of_lt c
 exact h.trans i
theorem ANA(l:List A2M):(l.map λx=>x.data.toList).map Proofs.encStr=l.flatMap Im.enc:=by
 induction l with
 |nil=>rfl
 |cons x b a=>rw[BW,BW,a,AF];rfl
theorem wrap_u32(a:Nat):J8 .u32 (a:Int)=((a % 4294967296:Nat):Int):=by simp[J8,IntKind.bits,IntKind.signed]
theorem wrap_u64(a:Nat):J8 .u64 (a:Int)=((a % 18446744073709551616:Nat):Int):=by simp[J8,IntKind.bits,IntKind.signed]
theorem Va {a b:Nat}(c:a<4294967296)(d:b<4294967296):Zy .u32 (a:Int) (b:Int)=((a ^^^ b:Nat):Int):=by
 have e:a ^^^ b<2^32:=KB (by simpa using c) (by simpa using d);unfold Zy;have f:(BitVec.ofInt (IntKind.bits .u32) (a:Int) ^^^ BitVec.ofInt (IntKind.bits .u32) (b:Int)).toNat=a ^^^ b:=by show(BitVec.ofInt 32 (a:Int) ^^^ BitVec.ofInt 32 (b:Int)).toNat=a ^^^ b;rw[BitVec.ofInt_natCast,BitVec.ofInt_natCast,BitVec.toNat_xor,BitVec.toNat_ofNat,BitVec.toNat_ofNat,AE (by simpa using c),AE (by simpa using d)]
 rw[f,wrap_u32,AE (by simpa using e)]
theorem ASe {a b:Nat}(c:a<4294967296)(d:b<4294967296):dX .u32 (a:Int) (b:Int)=((a ||| b:Nat):Int):=by
 have e:a ||| b<2^32:=Kf (by simpa using c) (by simpa using d);unfold dX;have f:(BitVec.ofInt (IntKind.bits .u32) (a:Int) ||| BitVec.ofInt (IntKind.bits .u32) (b:Int)).toNat=a ||| b:=by show(BitVec.ofInt 32 (a:Int) ||| BitVec.ofInt 32 (b:Int)).toNat=a ||| b;rw[BitVec.ofInt_natCast,BitVec.ofInt_natCast,BitVec.toNat_or,BitVec.toNat_ofNat,BitVec.toNat_ofNat,AE (by simpa using c),AE (by simpa using d)]
 rw[f,wrap_u32,AE (by simpa using e)]
theorem rN {a b:Nat}(c:a<18446744073709551616)(d:b<18446744073709551616):dX .u64 (a:Int) (b:Int)=((a ||| b:Nat):Int):=by
 have e:a ||| b<2^64:=Kf (by simpa using c) (by simpa using d);unfold dX;have f:(BitVec.ofInt (IntKind.bits .u64) (a:Int) ||| BitVec.ofInt (IntKind.bits .u64) (b:Int)).toNat=a ||| b:=by show(BitVec.ofInt 64 (a:Int) ||| BitVec.ofInt 64 (b:Int)).toNat=a ||| b;rw[BitVec.ofInt_natCast,BitVec.ofInt_natCast,BitVec.toNat_or,BitVec.toNat_ofNat,BitVec.toNat_ofNat,AE (by simpa using c),AE (by simpa using d)]
 rw[f,wrap_u64,AE (by simpa using e)]
theorem rO(a b:Nat):((a:Nat):Int)*((b:Nat):Int)=((a*b:Nat):Int):=(Int.natCast_mul a b).symm
def hA(a c:Nat):Nat:=((a ^^^ c)*16777619) % 4294967296
def hX(b c:Nat):Nat:=((b+c) % 4294967296*2246822507) % 4294967296
def hB(b c:Nat):Nat:=hX b c ^^^ (hX b c / 8192)
def Ur(l:List UInt8):Nat×Nat:=l.foldl (λs c=>(hA s.1 c.toNat,hB s.2 c.toNat)) (2166136261,2538058380)
def mQ(a:A2M):Nat:=(Ur a.data.toList).1
def oW(a:A2M):Nat:=(Ur a.data.toList).2 ||| 1
theorem AT4(a c:Nat):hA a c<4294967296:=CC _ (by decide)
theorem ye(b c:Nat):hX b c<4294967296:=CC _ (by decide)
theorem ATn(b c:Nat):hB b c<4294967296:=by have a:=ye b c;have:hB b c<2^32:=KB (by simpa using a) (by have:hX b c / 8192<=hX b c:=RE _ _;omega);simpa using this
theorem yf(l:List UInt8)(c:UInt8):Ur (l++ [c])=(hA (Ur l).1 c.toNat,hB (Ur l).2 c.toNat):=by simp[Ur]
theorem yg(l:List UInt8):(Ur l).1<4294967296/\(Ur l).2<4294967296:=by
 rw[<- List.reverse_reverse l];cases l.reverse with
 |nil=>decide
 |cons c a=>rw[RW,yf];exact⟨AT4 _ _,ATn _ _⟩
theorem yh(a:A2M):mQ a<4294967296:=(yg _).1
theorem tV {a c:Nat}(b:a<4294967296)(d:c<256):J8 .u32 ((Zy .u32 (a:Int) (J8 .u32 (c:Int)))*(16777619:Int))=((hA a c:Nat):Int):=by rw[wrap_u32,AE (by omega),Va b (by omega),show((a ^^^ c:Nat):Int)*(16777619:Int)=(((a ^^^ c)*16777619:Nat):Int) from rO _ 16777619,wrap_u32];rfl
theorem ATg {b c:Nat}(a:b<4294967296)(d:c<256):J8 .u32 ((J8 .u32 ((b:Int)+(J8 .u32 (c:Int))))*(2246822507:Int))=((hX b c:Nat):Int):=by rw[wrap_u32 c,AE (by omega),show((b:Int)+(c:Int))=((b+c:Nat):Int) by push_cast;rfl,wrap_u32,show(((b+c) % 4294967296:Nat):Int)*(2246822507:Int)=(((b+c) % 4294967296*2246822507:Nat):Int) from rO _ 2246822507,wrap_u32];rfl
theorem Qu(n a:Nat):((n:Nat):Int).fdiv ((2:Int)^a)=((n / 2^a:Nat):Int):=by
 rw[TO _ (by have:=Int.pow_pos (n:=2) (m:=a) (by decide);omega)]
 push_cast;rfl
theorem AT0 {b c:Nat}(a:b<4294967296)(d:c<256):Zy .u32 (J8 .u32 ((J8 .u32 ((b:Int)+(J8 .u32 (c:Int))))*(2246822507:Int))) ((J8 .u32 ((J8 .u32 ((b:Int)+(J8 .u32 (c:Int))))*(2246822507:Int))).fdiv ((2:Int)^(13:Nat)))=((hB b c:Nat):Int):=by have e:=ye b c;have f:hX b c / 2^13<=hX b c:=RE _ _;rw[ATg a d,Qu,Va e (by omega)];rfl
theorem OH {s:A2M}{i:Nat}{c:UInt8}(a:s.data.toList[i]? =some c):du s ((i:Nat):Int)=((c.toNat:Nat):Int):=by
 have b:i<s.data.toList.length:=(List.getElem?_eq_some_iff.1 a).1;have d:i<s.size:=by simpa using b
 unfold du;have e:((i:Nat):Int).toNat=i:=by omega
 rw[e];have f:s[i]? =some c:=by rw[getElem?_pos s i d];congr 1;have g:=(List.getElem?_eq_some_iff.1 a).2;rw[<- g];rw[Array.getElem_toList];rfl
 rw[f];rfl
def AX(l:List UInt8):A2M:=⟨l.toArray⟩
theorem BX(l:List UInt8):(AX l).data.toList=l:=by simp[AX]
theorem EG(s:A2M):AX s.data.toList=s:=by simp[AX]
theorem AP(l:List UInt8):(AX l).size=l.length:=by simp[AX,ByteArray.size]
theorem Mx {a b:List UInt8}:AX a=AX b↔a=b:=⟨λc=>by simpa [AX] using congrArg (λs:A2M=>s.data.toList) c,λc=>by rw[c]⟩
def Bl(a:Nat):UInt8:=UInt8.ofNat a
theorem Dc {a:Nat}(b:a<256):(Bl a).toNat=a:=by simp[Bl,UInt8.toNat_ofNat'];omega
theorem yi(c:UInt8):Bl c.toNat=c:=by simp[Bl]
def Bb(a:Nat):List UInt8:=if a<128 then [Bl a] else Bl (a % 128+128)::Bb (a / 128)
termination_by a
decreasing_by omega
theorem Fp {n:Nat}(a:n<128):Bb n= [Bl n]:=by rw[Bb,if_pos a]
theorem YL {n:Nat}(a: ¬n<128):Bb n=Bl (n % 128+128)::Bb (n / 128):=by rw[Bb,if_neg a]
def MR:Nat->Nat->List UInt8->Option (Nat×List UInt8)
 |_,_,[]=>none
 |i,a,c::t=>
  if 10<=i\/(i=9/\1<c.toNat)\/(0<i/\c.toNat=0) then none
  else if c.toNat<128 then some (a+c.toNat*128^i,t) else MR (i+1) (a+c.toNat % 128*128^i) t
theorem Ma {i a:Nat}(b:i<=a):128^i<=128^a:=Rg (by decide) b
theorem iU(t:List UInt8): ∀(b i a:Nat),b*128^i<18446744073709551616->(i=0\/0<b)->MR i a (Bb b++t)=some (a+b*128^i,t):=by
 intro b
 induction b using Nat.strongRecOn with
 |ind b k=>
  intro i a h m;have n:0<128^i:=Nat.pos_of_ne_zero (Nat.pos_iff_ne_zero.1 (Se (by decide)));by_cases e:b<128
  ·rw[Fp e];simp only[DH,CN,MR,Dc (show b<256 by omega)];rw[if_neg,if_pos e];rintro(c|⟨c,f⟩|⟨c,f⟩)
   ·have g:=Ma c;have j:1*128^i<=b*128^i:=AN _ (by omega);have d:(128:Nat)^10=1180591620717411303424:=by decide
    omega
   ·subst c;have d:(128:Nat)^9=9223372036854775808:=by decide
    rw[d] at h;omega
   ·omega
  ·rw[YL e];have hd:b / 128<b:=by omega
   simp only[DH,MR,Dc (show b % 128+128<256 by omega)];rw[if_neg,if_neg (by omega),k (b / 128) hd]
   ·have l:(b % 128+128) % 128=b % 128:=by omega
    rw[l,DP,HK,show b % 128*128^i+b / 128*(128^i*128)=(b % 128+128*(b / 128))*128^i by
     rw[Bs,CT (128^i) 128,<-FG,CT (b / 128) 128],Nat.mod_add_div]
   ·have g:b / 128*128<=b:=Nat.div_mul_le_self _ _;have j:b / 128*128*128^i<=b*128^i:=AN _ g;rw[DP,CT (128^i) 128,<-FG];omega
   ·omega
   ·rintro(c|⟨c,f⟩|⟨c,f⟩)
    ·have g:=Ma c;have j:128*128^i<=b*128^i:=AN _ (by omega);have d:(128:Nat)^10=1180591620717411303424:=by decide
     omega
    ·subst c;have d:(128:Nat)^9=9223372036854775808:=by decide
     rw[d] at h;omega
    ·omega
theorem yj: ∀(l:List UInt8) (i a n:Nat) (t:List UInt8),MR i a l=some (n,t)-> ∃m,n=a+m*128^i/\l=Bb m++t/\m*128^i<18446744073709551616/\(i=0\/0<m)
 | [],i,a,n,t,b=>by simp[MR] at b
 |c::l,i,a,n,t,b=>by
  simp only[MR] at b;split at b
  ·cases b
  ·rename_i v;have w:c.toNat<256:=c.toNat_lt;split at b
   ·rename_i e;obtain⟨rfl,rfl⟩:=b;refine⟨c.toNat,rfl,by rw[Fp e,yi];rfl,?_,by omega⟩;have x:i<=9:=by omega
    by_cases h:i=9
    ·subst h;have d:(128:Nat)^9=9223372036854775808:=by decide
     rw[d];omega
    ·have j:=Ma (show i<=8 by omega);have d:(128:Nat)^8=72057594037927936:=by decide
     have k:c.toNat*128^i<=127*128^i:=AN _ (by omega);omega
   ·rename_i e;obtain⟨m,o,rfl,f,y⟩:=yj l (i+1) _ n t b;have p:0<m:=by omega
    refine⟨c.toNat % 128+128*m,?_,?_,?_,by omega⟩
    ·rw[o,DP,Bs,HK,CT (128^i) 128,<-FG,CT m 128]
    ·rw[YL (n:=c.toNat % 128+128*m) (by omega),show(c.toNat % 128+128*m) % 128+128=c.toNat by omega,show(c.toNat % 128+128*m) / 128=m by omega,yi];rfl
    ·rw[DP,CT (128^i) 128,<-FG] at f;have z:(18446744073709551616:Nat)=144115188075855872*128:=by decide
     have A:i<=8:=by
      refine Sf λq=>?_
      have j:=Ma (show 9<=i from q);have d:(128:Nat)^9=9223372036854775808:=by decide
      have k:1*128*128^i<=m*128*128^i:=AN _ (AN _ p);omega
     have g:(18446744073709551616:Nat)=128^(i+1)*(18446744073709551616 / 128^(i+1)):=by
      have:i=0\/i=1\/i=2\/i=3\/i=4\/i=5\/i=6\/i=7\/i=8:=by omega
      rcases this with rfl|rfl|rfl|rfl|rfl|rfl|rfl|rfl|rfl<;>decide
     have r:0<128^i:=Nat.pos_of_ne_zero (Nat.pos_iff_ne_zero.1 (Se (by decide)));have s:m<18446744073709551616 / 128^(i+1):=by refine Nat.lt_of_mul_lt_mul_left (a:=128^(i+1)) ?_;rw[<- g,DP,CT,CT (128^i) 128,<-FG];exact f
     have u:128^(i+1)*(m+1)<=128^(i+1)*(18446744073709551616 / 128^(i+1)):=Nat.mul_le_mul_left _ s;rw[<- g,DP] at u;have B:(c.toNat % 128+128*m)*128^i<128*(m+1)*128^i:=RT (by omega) r;have C:128*(m+1)*128^i=128^i*128*(m+1):=by rw[CT,<-FG]
     omega
theorem yk: ∀(b a:Nat),a<128^(b+1)->(Bb a).length<=b+1:=by
 intro b
 induction b with
 |zero=>intro a c;rw[Fp (by simpa using c)];simp
 |succ b e=>
  intro a c;by_cases d:a<128
  ·rw[Fp d];simp
  ·rw[YL d];have:=e (a / 128) (by rw[Nat.div_lt_iff_lt_mul (by decide),<-DP];exact c);simp;omega
theorem AV {n:Nat}(a:n<18446744073709551616):(Bb n).length<=10:=by refine yk 9 n (Fl a ?_);decide
theorem ly {l:List UInt8}{a:Nat}{t:List UInt8}(d:MR 0 0 l=some (a,t)):l=Bb a++t/\a<18446744073709551616:=by obtain⟨m,b,e,c,_⟩:=yj l 0 0 a t d;simp at b c;subst b;exact⟨e,c⟩
theorem Vh {a:Nat}(b:a<18446744073709551616)(t:List UInt8):MR 0 0 (Bb a++t)=some (a,t):=by rw[iU t a 0 0 (by simpa using b) (.inl rfl)];simp
def mR(c:Nat):Nat:=if c % 2=1 then c / 2 ^^^ 3988292384 else c / 2
def oX:Nat->Nat->Nat
 |0,c=>c
 |k+1,c=>mR (oX k c)
def oY(c:Nat)(b:UInt8):Nat:=oX 8 (c ^^^ b.toNat)
def iV(l:List UInt8):Nat:=l.foldl oY 4294967295
def jl(l:List UInt8):Nat:=4294967295-iV l
theorem ANB {c:Nat}(a:c<4294967296):mR c<4294967296:=by
 unfold mR;split
 ·exact KB (n:=32) (by omega) (by decide)
 ·omega
theorem rP {c:Nat}(a:c<4294967296): ∀k,oX k c<4294967296
 |0=>a
 |k+1=>ANB (rP a k)
theorem AR7 {c:Nat}(a:c<4294967296)(b:UInt8):oY c b<4294967296:=by have d:b.toNat<256:=b.toNat_lt;exact rP (KB (n:=32) a (by omega)) 8
theorem ANz(l:List UInt8)(b:UInt8):iV (l++ [b])=oY (iV l) b:=by simp[iV]
theorem yl(l:List UInt8):iV l<4294967296:=by
 unfold iV
 suffices ∀(l:List UInt8) (c:Nat),c<4294967296->l.foldl oY c<4294967296 from this l _ (by decide)
 intro l
 induction l with
 |nil=>exact λc a=>a
 |cons x l b=>exact λc a=>b _ (AR7 a x)
def RY(a:Nat):List UInt8:= [Bl (a / 16777216 % 256),Bl (a / 65536 % 256),Bl (a / 256 % 256),Bl (a % 256)]
theorem Jp(a:Nat):(RY a).length=4:=rfl
def Ca(l:List UInt8):List UInt8:=Bb l.length++RY (jl l)++l
def Dh(l:List UInt8):Nat×List UInt8×List UInt8:=
 match MR 0 0 l with
 |none=>if l.length<10/\ ∀c∈l,128<=c.toNat then(20,[],[]) else(21,[],[])
 |some (a,b)=>
  if 1048576<a then(21,[],[]) else if b.length<4+a then(20,[],[])
  else if b.take 4=RY (jl ((b.drop 4).take a)) then(0,(b.drop 4).take a,b.drop (4+a)) else(21,[],[])
theorem rQ {l:List UInt8}(d:l.length<=1048576)(t:List UInt8):Dh (Ca l++t)=(0,l,t):=by
 unfold Dh Ca;rw[A4,A4,Vh (by omega)];dsimp only;rw[if_neg (by omega),if_neg (by simp[Jp])];have b:(RY (jl l)++(l++t)).take 4=RY (jl l):=by rw[No (by simp[Jp])];exact Ax (by simp[Jp])
 have a:(RY (jl l)++(l++t)).drop 4=l++t:=by rw[A0m (by simp[Jp])];simp[RY]
 have c:(l++t).take l.length=l:=by simp
 rw[b,a,c,if_pos rfl,<-Hk,a];simp
structure Rd where
 rest:List UInt8
 bad:Bool
def Rd.fail:Rd:=⟨[],true⟩
def IB(a:Rd):Nat×Rd:=if a.bad then(0,a) else match MR 0 0 a.rest with|none=>(0,Rd.fail)|some (b,t)=>(b,⟨t,false⟩)
def CE(b:Nat)(a:Rd):Nat×Rd:=if(IB a).2.bad then(0,(IB a).2) else if b<(IB a).1 then(0,Rd.fail) else IB a
def Ky(b:Nat)(a:Rd):List UInt8×Rd:=if a.bad then([],a) else if a.rest.length<b then([],Rd.fail) else(a.rest.take b,⟨a.rest.drop b,false⟩)
def FL(a:Rd):List UInt8×Rd:=if(IB a).2.bad then([],(IB a).2) else Ky (IB a).1 (IB a).2
def Sg(a:Rd):Bool:= !a.bad&&a.rest.isEmpty
def BI(l:List UInt8):List UInt8:=Bb l.length++l
theorem yn {a:Nat}(b:a<18446744073709551616)(t:List UInt8):IB ⟨Bb a++t,false⟩=(a,⟨t,false⟩):=by simp[IB,Vh b]
theorem Co {n most:Nat}(a:n<18446744073709551616)(b:n<=most)(t:List UInt8):CE most ⟨Bb n++t,false⟩=(n,⟨t,false⟩):=by simp only[CE,yn a];simp;omega
theorem yo(l t:List UInt8):Ky l.length ⟨l++t,false⟩=(l,⟨t,false⟩):=by simp[Ky];omega
theorem Ij {l:List UInt8}(a:l.length<18446744073709551616)(t:List UInt8):FL ⟨BI l++t,false⟩=(l,⟨t,false⟩):=by simp only[FL,BI,A4,yn a,yo];simp
theorem AOX {a:Rd}(b:a.bad=true):IB a=(0,a):=by simp[IB,b]
theorem yp {r:Rd}(a:(IB r).2.bad=false):r.bad=false/\r.rest=Bb (IB r).1++(IB r).2.rest/\(IB r).1<18446744073709551616:=by
 unfold IB at a ⊢;split at a
 ·rename_i b;rw[a] at b;cases b
 ·rename_i b;cases c:MR 0 0 r.rest with
  |none=>rw[c] at a;cases a
  |some p=>
   obtain⟨f,t⟩:=p;obtain⟨d,e⟩:=ly c;simp only[b];exact⟨by simp,d,e⟩
theorem F8 {a:Rd}{m:Nat}(b:(CE m a).2.bad=false):a.bad=false/\a.rest=Bb (CE m a).1++(CE m a).2.rest/\(CE m a).1<=m:=by
 unfold CE at b ⊢;split at b
 ·rename_i c;rw[b] at c;cases c
 ·split at b
  ·cases b
  ·rename_i c d;rw[if_neg c,if_neg d];obtain⟨e,f,_⟩:=yp b;exact⟨e,f,by omega⟩
theorem ALG {a:Rd}{b:Nat}(c:(Ky b a).2.bad=false):a.bad=false/\a.rest=(Ky b a).1++(Ky b a).2.rest/\(Ky b a).1.length=b:=by
 unfold Ky at c ⊢;split at c
 ·rename_i d;rw[c] at d;cases d
 ·split at c
  ·cases c
  ·rename_i d e;rw[if_neg d,if_neg e];exact⟨by simpa using d,by simp,by simp;omega⟩
theorem R3 {r:Rd}(b:(FL r).2.bad=false):r.bad=false/\r.rest=BI (FL r).1++(FL r).2.rest:=by
 unfold FL at b ⊢;split at b
 ·rename_i a;rw[b] at a;cases a
 ·rename_i a;rw[if_neg a];obtain⟨c,d,_⟩:=yp (r:=r) (by simpa using a);obtain⟨_,e,f⟩:=ALG b;refine⟨c,?_⟩;rw[d,e,BI,A4];rw[f]
theorem UQ(a:Rd):(IB a).2.rest.length<=a.rest.length:=by
 unfold IB;split
 ·exact A0 _
 ·split
  ·simp[Rd.fail]
  ·rename_i d t b;obtain⟨c,_⟩:=ly b;rw[c];simp
theorem Hu(m:Nat)(a:Rd):(CE m a).2.rest.length<=a.rest.length:=by
 unfold CE;split
 ·exact UQ a
 ·split
  ·simp[Rd.fail]
  ·exact UQ a
theorem ANG(b:Nat)(a:Rd):(Ky b a).2.rest.length<=a.rest.length/\(Ky b a).1.length<=a.rest.length:=by
 unfold Ky;split
 ·simp
 ·split
  ·simp[Rd.fail]
  ·simp;omega
theorem Q4(a:Rd):(FL a).2.rest.length<=a.rest.length/\(FL a).1.length<=a.rest.length:=by
 unfold FL;split
 ·exact⟨UQ a,by simp⟩
 ·have:=ANG (IB a).1 (IB a).2;have:=UQ a;omega
def Hr:cJ UInt8 where
 enc x:= [.int .u8 (x.toNat:Int)]
 w:=1
 len _:=rfl
 pos:=by omega
 one x v a:=by simp at a;subst a;rfl
theorem Cells.byte {b:aa}{a:Q6}{x:UInt8}(c:Cells b a (Hr.enc x)):ah b a=some (.int .u8 (x.toNat:Int)):=by have d:=c 0 _ rfl;rwa [add_zero] at d
theorem yq: ∀(l:List UInt8) (s:A2M),(l.map λc=>(c.toNat:Int)).foldl (λa b=>a.push (UInt8.ofNat b.toNat)) s=⟨s.data++l.toArray⟩
 | [],s=>by simp
 |c::l,s=>by
  simp only[BW,Is];rw[yq l];simp[ByteArray.push,Array.append_assoc]
theorem LA {e:al}{P:Q1}{g h i:Q7}(m:P.underlying g=some (.slice i))(n:P.underlying i=some (.int .u8))(hd:P.underlying h=some .string){b:aa}{s:Sl}{l:List UInt8}{K:A2L}
  (v:View Hr b s l) (o:K (.string (AX l)) b):BG e P (convert g h (.slice s.p s.len s.cap)) b K:=by
 have p:=v.len;refine λf=>⟨_,b,f,?_,o⟩
 rw[run_convert_bytes_string _ g h i _ s.len s.cap m n hd];cases j:s.p with
 |none=>
  have q:l= []:=by
   cases l with
   |nil=>rfl
   |cons c l=>
    obtain⟨a,d,_⟩:=v.cells 0 c rfl;rw[j] at d;cases d
  subst q;simp[Conv.bytesToString,AX];rfl
 |some a=>
  have r:(loadCells a s.len).run P (e.at b f)= .ok ((l.map λc=>(c.toNat:Int)).map (Value.int .u8)).toArray (e.at b f):=by
   have:=run_loadCells_list (P:=P) (w:=e.at b f) a ((l.map λc=>(c.toNat:Int)).map (Value.int .u8)) (λt u k=>by
    simp only[Cl,Option.map_map,Option.map_eq_some_iff] at k;obtain⟨c,x,rfl⟩:=k;obtain⟨z,d,y⟩:=v.cells t c x;rw[j] at d;cases d;have:=Cells.byte y;simp only[Hr,By] at this;exact this)
   simpa [p] using this
  rw[run_bytesToString _ a s.len s.cap _ r,yq];simp[AX,ByteArray.empty,ByteArray.emptyWithCapacity];rfl
theorem dZ(s:A2M)(i a:Nat):s.extract i a=AX ((s.data.toList.take a).drop i):=by apply On;rw[Sh,AX];apply Array.toList_inj.1;simp[Sp,List.extract_eq_take_drop,List.drop_take]
theorem yt(s:A2M):s.data.toList.length=s.size:=by rw[Ek];rfl
theorem rR(s:A2M)(i:Nat):s.extract i s.size=AX (s.data.toList.drop i):=by rw[dZ,Ax (by rw[yt];exact A0 _)]
theorem AOW(s:A2M)(i:Nat):s.extract 0 i=AX (s.data.toList.take i):=by rw[dZ];simp
theorem wrap_u8(a:Nat):J8 .u8 (a:Int)=((a % 256:Nat):Int):=by simp[J8,IntKind.bits,IntKind.signed]
theorem yu {a b:Nat}(c:a<256)(d:b<256):dX .u8 (a:Int) (b:Int)=((a ||| b:Nat):Int):=by
 have e:a ||| b<2^8:=Kf (by simpa using c) (by simpa using d);unfold dX;have f:(BitVec.ofInt (IntKind.bits .u8) (a:Int) ||| BitVec.ofInt (IntKind.bits .u8) (b:Int)).toNat=a ||| b:=by show(BitVec.ofInt 8 (a:Int) ||| BitVec.ofInt 8 (b:Int)).toNat=a ||| b;rw[BitVec.ofInt_natCast,BitVec.ofInt_natCast,BitVec.toNat_or,BitVec.toNat_ofNat,BitVec.toNat_ofNat,AE (by simpa using c),AE (by simpa using d)]
 rw[f,wrap_u8,AE (by simpa using e)]
theorem yw {a b:Nat}(c:a<256)(d:b<256):Gr .u8 (a:Int) (b:Int)=((a &&& b:Nat):Int):=by
 have e:a &&& b<2^8:=RC Nat.and_le_left (by simpa using c);unfold Gr;have f:(BitVec.ofInt (IntKind.bits .u8) (a:Int) &&& BitVec.ofInt (IntKind.bits .u8) (b:Int)).toNat=a &&& b:=by show(BitVec.ofInt 8 (a:Int) &&& BitVec.ofInt 8 (b:Int)).toNat=a &&& b;rw[BitVec.ofInt_natCast,BitVec.ofInt_natCast,BitVec.toNat_and,BitVec.toNat_ofNat,BitVec.toNat_ofNat,AE (by simpa using c),AE (by simpa using d)]
 rw[f,wrap_u8,AE (by simpa using e)]
theorem ARl {a b:Nat}(c:a<4294967296)(d:b<4294967296):Gr .u32 (a:Int) (b:Int)=((a &&& b:Nat):Int):=by
 have e:a &&& b<2^32:=RC Nat.and_le_left (by simpa using c);unfold Gr;have f:(BitVec.ofInt (IntKind.bits .u32) (a:Int) &&& BitVec.ofInt (IntKind.bits .u32) (b:Int)).toNat=a &&& b:=by show(BitVec.ofInt 32 (a:Int) &&& BitVec.ofInt 32 (b:Int)).toNat=a &&& b;rw[BitVec.ofInt_natCast,BitVec.ofInt_natCast,BitVec.toNat_and,BitVec.toNat_ofNat,BitVec.toNat_ofNat,AE (by simpa using c),AE (by simpa using d)]
 rw[f,wrap_u32,AE (by simpa using e)]
theorem AUO: ∀x,x<256->x ||| 128=x % 128+128:=by decide +kernel
theorem AS7: ∀x,x<256->x &&& 127=x % 128:=by decide +kernel
theorem AQb(c:Nat):dX .u8 (J8 .u8 (c:Int)) (128:Int)=(((Bl (c % 128+128)).toNat:Nat):Int):=by have d:=yu (a:=c % 256) (b:=128) (CC _ (by decide)) (by decide);rw[wrap_u8];rw[show(128:Int)=((128:Nat):Int) from rfl,d,AUO _ (CC _ (by decide)),Dc (by omega)];congr 1;omega
theorem rS(i:Nat):2^(7*i)=128^i:=by rw[Nat.pow_mul]
theorem ARQ {a x i:Nat}(d:i<=9)(e:a<128^i)(f:x<128):dX .u64 (a:Int) (((x*128^i % 18446744073709551616:Nat)):Int)=((a+x*128^i % 18446744073709551616:Nat):Int):=by
 have g:0<128^i:=Se (by decide);have h:=Ma d;have j:(128:Nat)^9=9223372036854775808:=by decide
 rw[rN (by omega) (CC _ (by decide))];congr 1;have b: ∃c,(18446744073709551616:Nat)=128^i*c:=by
  have:i=0\/i=1\/i=2\/i=3\/i=4\/i=5\/i=6\/i=7\/i=8\/i=9:=by omega
  refine⟨18446744073709551616 / 128^i,?_⟩;rcases this with rfl|rfl|rfl|rfl|rfl|rfl|rfl|rfl|rfl|rfl<;>decide
 obtain⟨c,b⟩:=b;rw[b,CT x,Nat.mul_mod_mul_left,<-rS,Nat.or_comm,Nat.add_comm];exact(A0D (by rw[rS];exact e) _).symm
theorem ATT {x i:Nat}(b:i<=9)(c:x<128):J8 .u64 (((x:Nat):Int)*((2:Int)^(min ((7*i:Nat):Int).toNat (IntKind.bits .u64))))=((x*128^i % 18446744073709551616:Nat):Int):=by
 have a:min ((7*i:Nat):Int).toNat (IntKind.bits .u64)=7*i:=by have:IntKind.bits .u64=64:=rfl;omega
 rw[a,show((2:Int)^(7*i))=((2^(7*i):Nat):Int) by simp,rO,wrap_u64,rS]
theorem Mod.more {a d e:aa}{f:Nat->Prop}(x:Ext a d)(m:Mod f d e)(g: ∀b,f b->a.size<=b):Ext a e:=
 Mod.then x (m.aj λc _ h=> .inr (g c h))
abbrev bl(s:A2M):List UInt8:=s.data.toList
theorem BB(s:A2M):(bl s).length=s.size:=yt s
theorem EJ(l:List UInt8):bl (AX l)=l:=BX l
theorem Le(s:A2M):AX (bl s)=s:=EG s
def Ak(s:A2M):Bool:=decide (1<=s.size/\s.size<=16/\ ∀c∈bl s,33<=c.toNat/\c.toNat<=126)
theorem Gn {s:A2M}:Ak s=true↔1<=s.size/\s.size<=16/\ ∀c∈bl s,33<=c.toNat/\c.toNat<=126:=by simp[Ak]
structure bQ where
 kind:Int
 name:A2M
 aK:A2M
 tries:Int
 aA:Int
 wait:Int
def bQ.cells(x:bQ):Array J0:= #[J6 J9 x.kind,J7 x.name,J7 x.aK,J6 J9 x.tries,J6 J9 x.aA,J6 J9 x.wait]
def Ql:cJ bQ where
 enc x:= [J6 J9 x.kind,J7 x.name,J7 x.aK,J6 J9 x.tries,J6 J9 x.aA,J6 J9 x.wait]
 w:=6
 len _:=rfl
 pos:=by omega
 one x v a:=by simp at a;rcases a with rfl|rfl|rfl|rfl|rfl|rfl<;>rfl
abbrev HZ:A2M:=⟨#[]⟩
def bU(a b c:Int):Bool:=decide (b<=a/\a<=c)
theorem Bd {a b c:Int}:bU a b c=true↔b<=a/\a<=c:=by simp[bU]
def NR(x:bQ):Bool:=
 if x.kind=1 then((decide (x.aK=HZ)&&decide (x.aA=0))||(Ak x.aK&&bU x.aA 1 5))&&Ak x.name&&bU x.tries 1 5&&decide (x.wait=0)
 else if x.kind=2 then decide (x.name=HZ)&&decide (x.aK=HZ)&&decide (x.tries=0)&&decide (x.aA=0)&&bU x.wait 1 1000
 else if x.kind=3 then decide (x.aK=HZ)&&decide (x.tries=0)&&decide (x.aA=0)&&decide (x.wait=0)&&Ak x.name
 else false
structure cn where
 steps:List bQ
 az:Int
def GL(p:cn):Bool:=decide (p.steps.length<=16)&&bU p.az 0 16000&&p.steps.all NR
def Ho(x:bQ):List UInt8:=Bb x.kind.toNat++
 (if x.kind=1 then BI (bl x.name)++Bb x.tries.toNat++BI (bl x.aK)++Bb x.aA.toNat else if x.kind=2 then Bb x.wait.toNat else BI (bl x.name))
def Cq(p:cn):List UInt8:=Bb p.az.toNat++Bb p.steps.length++p.steps.flatMap Ho
def Mw(g e h:Nat)(i:Bool)(j:Rd):bQ×Rd:=
 let d:=CE g j
 if d.1=1 then
  let a:=FL d.2
  let b:=CE e a.2
  let c:=FL b.2
  let f:=CE e c.2
  (⟨1,AX a.1,AX c.1,b.1,f.1,0⟩,f.2)
 else if d.1=2 then
  let a:=CE h d.2
  (⟨2,HZ,HZ,0,0,a.1⟩,a.2)
 else if d.1=3\/i=true then
  let a:=FL d.2
  (⟨d.1,AX a.1,HZ,0,0,0⟩,a.2)
 else(⟨d.1,HZ,HZ,0,0,0⟩,d.2)
def IK(b c d:Nat)(e:Bool):Nat->Rd->List bQ×Rd
 |0,a=>([],a)
 |n+1,a=>let x:=Mw b c d e a;let f:=IK b c d e n x.2;(x.1::f.1,f.2)
def ZL(c d e f:Nat)(g:Bool)(l:List UInt8):cn×Rd:=
 let a:=CE c ⟨l,false⟩
 let b:=CE 16 a.2
 let s:=IK d e f g b.1 b.2
 (⟨s.1,a.1⟩,s.2)
def Jc(l:List UInt8):Option cn:=let x:=ZL 16000 3 5 1000 false l;if Sg x.2&&GL x.1 then some x.1 else none
theorem wB {a:Rd}:Sg a=true↔a=⟨[],false⟩:=by obtain⟨l,b⟩:=a;cases b<;>cases l<;>simp[Sg]
theorem APT {a b c:Int}(d:bU a b c=true)(e:0<=b):((a.toNat:Nat):Int)=a:=by rw[Bd] at d;omega
theorem ANF {c f h:Nat}{p:Bool}(q:3<=c)(F:5<=f)(G:1000<=h){x:bQ}(a:NR x=true)(t:List UInt8):Mw c f h p ⟨Ho x++t,false⟩=(x,⟨t,false⟩):=by
 obtain⟨H,name,o,r,i,u⟩:=x;have j: ∀ {s:A2M},s.size<=16->(bl s).length<18446744073709551616:=λg=>by rw[BB];omega
 have k: ∀ {s:A2M},Ak s=true->s.size<=16:=λg=>(Gn.1 g).2.1
 unfold NR at a;split at a
 ·rename_i b;simp only at b;subst b;simp only[A3,DG,decide_eq_true_eq] at a;obtain⟨⟨⟨v,m⟩,w⟩,rfl⟩:=a;have y:o.size<=16/\0<=i/\i<=5:=by
   rcases v with⟨rfl,rfl⟩|⟨g,z⟩
   ·exact⟨by decide,by omega,by omega⟩
   ·rw[Bd] at z;exact⟨k g,by omega,by omega⟩
  rw[Bd] at w;have d:=Co (n:=(1:Int).toNat) (most:=c) (by decide) (by simpa using(by omega:1<=c));have e:=Ij (l:=bl name) (j (k m));have A:=Co (n:=r.toNat) (most:=f) (by omega) (by omega);have B:=Ij (l:=bl o) (j y.1);have C:=Co (n:=i.toNat) (most:=f) (by omega) (by omega);simp only[Mw,Ho,if_true,A4,d,e,A,B,C];rw[if_pos (by decide)];simp[EG];omega
 ·split at a
  ·rename_i D b;simp only at b;subst b;simp only[A3,decide_eq_true_eq] at a;obtain⟨⟨⟨⟨rfl,rfl⟩,rfl⟩,rfl⟩,E⟩:=a;rw[Bd] at E;have d:=Co (n:=(2:Int).toNat) (most:=c) (by decide) (by simpa using(by omega:2<=c));have e:=Co (n:=u.toNat) (most:=h) (by omega) (by omega);simp only[Mw,Ho,if_true,A4,d];rw[if_neg (by decide),if_pos (by decide),if_neg (by decide),e];simp;omega
  ·split at a
   ·rename_i D I b;simp only at b;subst b;simp only[A3,decide_eq_true_eq] at a;obtain⟨⟨⟨⟨rfl,rfl⟩,rfl⟩,rfl⟩,m⟩:=a;have d:=Co (n:=(3:Int).toNat) (most:=c) (by decide) (by simpa using q);have e:=Ij (l:=bl name) (j (k m));simp only[Mw,Ho,if_true,A4,d];rw[if_neg (by decide),if_neg (by decide),if_pos (.inl (by decide)),if_neg (by decide),if_neg (by decide),e];simp[EG]
   ·cases a
theorem wC {b c d:Nat}{all:Bool}(e:3<=b)(f:5<=c)(g:1000<=d)(t:List UInt8): ∀ {l:List bQ},l.all NR=true->IK b c d all l.length ⟨l.flatMap Ho++t,false⟩=(l,⟨t,false⟩)
 | [],_=>rfl
 |x::l,a=>by
  simp only[DM,A3] at a;simp only[A6,IK,AF,A4,ANF e f g a.1,wC e f g t a.2]
theorem AMt {a b c d:Nat}{all:Bool}(s:16000<=a)(h:3<=b)(i:5<=c)(j:1000<=d){p:cn}(e:GL p=true):ZL a b c d all (Cq p)=(p,⟨[],false⟩):=by obtain⟨l,k⟩:=p;simp only[GL,A3,decide_eq_true_eq] at e;obtain⟨⟨m,f⟩,o⟩:=e;have t:=Bd.1 f;have q:=Co (n:=k.toNat) (most:=a) (by omega) (by omega);have r:=Co (n:=l.length) (most:=16) (by omega) m;have g:=wC (all:=all) h i j [] o;rw[AK] at g;simp only[ZL,Cq,A4,q,r,g,APT f (by decide)]
theorem wE {p:cn}(a:GL p=true):Jc (Cq p)=some p:=by simp only[Jc,AMt (A0 _) (A0 _) (A0 _) (A0 _) a,a];rfl
theorem AK9 {j k l:Nat}{m:Bool}{e:Rd}(a:(Mw j k l m e).2.bad=false):e.bad=false/\(NR (Mw j k l m e).1=true->e.rest=Ho (Mw j k l m e).1++(Mw j k l m e).2.rest):=by
 unfold Mw at a ⊢;simp only at a ⊢;split at a
 ·rename_i b;obtain⟨o,p,_⟩:=F8 a;obtain⟨c1,c2⟩:=R3 o;obtain⟨q,r,_⟩:=F8 c1;obtain⟨g,h⟩:=R3 q;obtain⟨c,f,_⟩:=F8 g;refine⟨c,λ_=>?_⟩;rw[if_pos b];simp only[Ho,if_true,EJ,As];rw[f,b,h,r,c2,p];simp[A4]
 ·split at a
  ·rename_i i b;obtain⟨g,h,_⟩:=F8 a;obtain⟨c,f,_⟩:=F8 g;refine⟨c,λ_=>?_⟩;rw[if_neg i,if_pos b];simp only[Ho,As];rw[if_neg (by decide),if_pos trivial,f,b,h];simp[A4]
  ·split at a
   ·rename_i i n b;obtain⟨g,h⟩:=R3 a;obtain⟨c,f,_⟩:=F8 g;refine⟨c,λd=>?_⟩;rw[if_neg i,if_neg n,if_pos b] at d ⊢;simp only[Ho,EJ,As];rw[if_neg (by omega),if_neg (by omega),f,h];simp[A4]
   ·rename_i i n b;obtain⟨c,f,_⟩:=F8 a;refine⟨c,λd=>?_⟩;rw[if_neg i,if_neg n,if_neg b] at d;exfalso;unfold NR at d;simp only at d;rw[if_neg (by omega),if_neg (by omega),if_neg (by omega)] at d;cases d
theorem wF {b c d:Nat}{e:Bool}: ∀(n:Nat) {a:Rd},(IK b c d e n a).2.bad=false->a.bad=false/\(IK b c d e n a).1.length=n/\((IK b c d e n a).1.all NR=true->a.rest=(IK b c d e n a).1.flatMap Ho++(IK b c d e n a).2.rest)
 |0,a,f=>⟨f,rfl,λ_=>rfl⟩
 |n+1,a,f=>by
  simp only[IK] at f ⊢;obtain⟨h,i,j⟩:=wF n f;obtain⟨k,l⟩:=AK9 h;refine⟨k,by simp[i],λg=>?_⟩;simp only[DM,A3] at g;rw[l g.1,j g.2];simp[A4]
theorem wG {l:List UInt8}{p:cn}(a:Jc l=some p):GL p=true/\Cq p=l:=by
 unfold Jc at a;simp only at a;split at a
 ·rename_i e;simp only[A3] at e;obtain⟨d,b⟩:=e;obtain rfl:=BE a;refine⟨b,?_⟩;rw[wB] at d;have f:(ZL 16000 3 5 1000 false l).2.bad=false:=by rw[d]
  have g:(ZL 16000 3 5 1000 false l).2.rest= []:=by rw[d]
  simp only[ZL] at f g b ⊢;obtain⟨h,i,c⟩:=wF _ f;obtain⟨j,k,_⟩:=F8 h;obtain⟨c1,c2,_⟩:=F8 j;simp only[GL,A3] at b;have c:=c b.2;rw[g,AK] at c;simp only[Cq,As,i];have c2:l=Bb (CE 16000 ⟨l,false⟩).1++(CE 16000 ⟨l,false⟩).2.rest:=c2;rw[<- c,A4,<-k,<-c2]
 ·cases a
inductive Fv where
 |i (n:Int)
 |s (x:A2M)
 |b (x:Bool)
 deriving DecidableEq
def Fv.v:Fv->J0
 | .i a=>J6 J9 a
 | .s x=>J7 x
 | .b x=>J3 x
def Fv.ok(P:Q1)(t:Q7):Fv->Bool
 | .i _=>match P.underlying t with|some (.int J9)=>true|_=>false
 | .s _=>match P.underlying t with|some .string=>true|_=>false
 | .b _=>match P.underlying t with|some .bool=>true|_=>false
def ri:Fv->Fv->Bool
 | .i _,.i _=>true
 | .s _,.s _=>true
 | .b _,.b _=>true
 |_,_=>false
def lj(P:Q1):Nat->List Field->List Fv->Bool
 |_,[],[]=>true
 |i,f::a,x::b=> !(f.name==String.ofList [Char.ofNat 95])&&Nat.beq f.offset i&&x.ok P f.type&&lj P (i+1) a b
 |_,_,_=>false
def cP:List Fv->List Fv->Bool
 | [],[]=>true
 |x::a,b::c=>ri x b&&cP a c
 |_,_=>false
theorem ARi {P:Q1}{e:Nat}{t:Q7}{x f:Fv}(g:x.ok P t=true)(h:ri x f=true)(c:World):(Op.equalIn (e+1) t x.v f.v).run P c= .ok (decide (x=f)) c:=by
 cases x<;>cases f<;>simp only[ri,CA] at h<;>simp only[Fv.ok] at g<;>split at g<;>(try cases g)
 ·rename_i i m _ d;simp only[Fv.v];rw[run_equalIn_int c e t J9 J9 i m d];simp only[Fv.i.injEq];rfl
 ·rename_i a b _ d;simp only[Fv.v];rw[run_equalIn_string c e t a b d,toList_inj];simp only[Fv.s.injEq]
 ·rename_i a b _ d;simp only[Fv.v];rw[run_equalIn_bool' c e t a b d];simp only[Fv.b.injEq];cases a<;>cases b<;>rfl
theorem Fv.plain {P:Q1}{t:Q7}{x:Fv}(a:x.ok P t=true):P.plainKey t=true:=by cases x<;>simp only[Fv.ok] at a<;>split at a<;>(try cases a)<;>(rename_i b;simp[Program.plainKey,b])
theorem wH {P:Q1}{t:Nat}(e g:List Fv)(c:World): ∀(h:List Field) (a b:List Fv) (i:Nat),e.drop i=a->g.drop i=b->lj P i h a=true->cP a b=true->
  (Op.eqFields (t+1) (e.map Fv.v).toArray (g.map Fv.v).toArray h).run P c= .ok (decide (a=b)) c:=by
 intro h
 induction h with
 |nil=>
  intro a b i m n j d;cases a with
  |nil=>
   cases b with
   |nil=>simp[Op.eqFields]
   |cons k b=>simp[cP] at d
  |cons x a=>simp[lj] at j
 |cons f h u=>
  intro a b i m n j d;cases a with
  |nil=>simp[lj] at j
  |cons x a=>
   cases b with
   |nil=>simp[cP] at d
   |cons k b=>
    simp only[lj,cP,A3,Nat.beq_eq] at j d;obtain⟨⟨⟨p,q⟩,o⟩,v⟩:=j;have w:e[i]? =some x:=by have:=congrArg (λl:List Fv=>l[0]?) m;simpa [C5] using this
    have y:g[i]? =some k:=by have:=congrArg (λl:List Fv=>l[0]?) n;simpa [C5] using this
    have z:e.drop (i+1)=a:=by rw[<- Hk,m];rfl
    have A:g.drop (i+1)=b:=by rw[<- Hk,n];rfl
    have B:(part f.type (e.map Fv.v).toArray f.offset).run P c= .ok x.v c:=run_part_plain c (Fv.plain o) (by rw[q];simp[w]);have C:(part f.type (g.map Fv.v).toArray f.offset).run P c= .ok k.v c:=run_part_plain c (Fv.plain o) (by rw[q];simp[y]);have D:=u a b (i+1) z A v d.2
    have E : String.ofList [Char.ofNat 95] = "_" := by decide
    rw[E] at p
    have r : (f.name == "_") = false := by simpa using p
    simp only[Op.eqFields,r,Sem.run_bind,Sem.run_ite,B,C,Result.andThen_ok,ARi o d.1];by_cases s:x=k
    ·simp[s,D,Result.andThen]
    ·have F : f.name ≠ "_" := by simpa using r
     simp[s,Result.andThen,F]
def ll(P:Q1)(t:Q7)(a:List Fv):Bool:= !P.stoodInHeld t&& !P.eqGuardType P.depth t&&lj P 0 (P.fieldsOf t).toList a
theorem rj {e:al}{P:Q1}{t:Q7}{f g:Operand}{xs ys:List Fv}(h:P.underlying t=some (.struct (P.fieldsOf t)))(a:ll P t xs=true)(i:cP xs ys=true){b c:Array J0}
  (j:b=(xs.map Fv.v).toArray) (k:c=(ys.map Fv.v).toArray) {d:aa} {K:A2L} (l:K (J3 (decide (xs=ys))) d):
  BG e P (do eqGuard .eql t f g (.agg b) (.agg c);binOp .eql t (.agg b) (.agg c)) d K:=by
 simp only[ll,A3,CI] at a;subst j;subst k;refine λm=>⟨_,d,m,?_,l⟩
 rw[Sem.run_bind,run_eqGuard_agg _ _ _ _ _ _ _ a.1.2,Result.andThen_ok,run_eql_struct,run_equalIn_agg _ _ _ _ _ h a.1.1,wH xs ys _ _ xs ys 0 rfl rfl a.2 i];rfl
theorem AR9 {e:al}{P:Q1}{t:Q7}{f g:Operand}{xs ys:List Fv}(h:P.underlying t=some (.struct (P.fieldsOf t)))(a:ll P t xs=true)(i:cP xs ys=true){b c:Array J0}
  (j:b=(xs.map Fv.v).toArray) (k:c=(ys.map Fv.v).toArray) {d:aa} {K:A2L} (l:K (J3 (!decide (xs=ys))) d):
  BG e P (do eqGuard .neq t f g (.agg b) (.agg c);binOp .neq t (.agg b) (.agg c)) d K:=by
 simp only[ll,A3,CI] at a;subst j;subst k;refine λm=>⟨_,d,m,?_,l⟩
 rw[Sem.run_bind,run_eqGuard_agg _ _ _ _ _ _ _ a.1.2,Result.andThen_ok,run_neq_struct,run_equalIn_agg _ _ _ _ _ h a.1.1,wH xs ys _ _ xs ys 0 rfl rfl a.2 i];rfl
theorem ae.two {a:aa}{b:Nat}{T:Q7}{f g d v1:J0}{K:aa->Prop}(h:a[b]? =some (J2 #[f,g] T (0,0)))
  (i: ∀c,c[b]? =some (J2 #[d,v1] T (0,0))->Mod (· =b) a c->c.size=a.size->K c):
  ae a ⟨b,0,none⟩ d λe=>ae e ((⟨b,0,none⟩:Q6).add 1) v1 K:=by
 refine ae.mk h (by simp) λe j k o=>?_
 rw[Bf];refine ae.mk j (by simp) λl m n p=>i l (by simpa using m) (k.trans n) (by omega)
theorem ae.pB {a:aa}{b:Nat}{T:Q7}{m n o p q r d v1 v2 e f g:J0}{K:aa->Prop}(s:a[b]? =some (J2 #[m,n,o,p,q,r] T (0,0)))
  (t: ∀c,c[b]? =some (J2 #[d,v1,v2,e,f,g] T (0,0))->Mod (· =b) a c->c.size=a.size->K c):
  ae a ⟨b,0,none⟩ d λh=>ae h ((⟨b,0,none⟩:Q6).add 1) v1 λi=>ae i ((⟨b,0,none⟩:Q6).add 2) v2 λj=>ae j ((⟨b,0,none⟩:Q6).add 3) e λk=>ae k ((⟨b,0,none⟩:Q6).add 4) f λl=>
   ae l ((⟨b,0,none⟩:Q6).add 5) g K:=by
 refine ae.mk s (by simp) λh u v H=>?_
 rw[Bf,Bf,Bf,Bf,Bf];refine ae.mk u (by simp) λi w x I=>?_
 refine ae.mk w (by simp) λj y z J=>?_
 refine ae.mk y (by simp) λk A B L=>?_
 refine ae.mk A (by simp) λl C D M=>?_
 refine ae.mk C (by simp) λE F G N=>t E (by simpa using F) (((((v.trans x).trans z).trans B).trans D).trans G) (by omega)
theorem ae.eight {a:aa}{b:Nat}{T:Q7}{q r s t u v w x d v1 v2 e f g h i:J0}{K:aa->Prop}(y:a[b]? =some (J2 #[q,r,s,t,u,v,w,x] T (0,0)))
  (z: ∀c,c[b]? =some (J2 #[d,v1,v2,e,f,g,h,i] T (0,0))->Mod (· =b) a c->c.size=a.size->K c):
  ae a ⟨b,0,none⟩ d λj=>ae j ((⟨b,0,none⟩:Q6).add 1) v1 λk=>ae k ((⟨b,0,none⟩:Q6).add 2) v2 λl=>ae l ((⟨b,0,none⟩:Q6).add 3) e λm=>ae m ((⟨b,0,none⟩:Q6).add 4) f λn=>
   ae n ((⟨b,0,none⟩:Q6).add 5) g λo=>ae o ((⟨b,0,none⟩:Q6).add 6) h λp=>ae p ((⟨b,0,none⟩:Q6).add 7) i K:=by
 refine ae.mk y (by simp) λj A B S=>?_
 rw[Bf,Bf,Bf,Bf,Bf,Bf,Bf];refine ae.mk A (by simp) λk C D U=>?_
 refine ae.mk C (by simp) λl E F V=>?_
 refine ae.mk E (by simp) λm G H W=>?_
 refine ae.mk G (by simp) λn I J X=>?_
 refine ae.mk I (by simp) λo L M Y=>?_
 refine ae.mk L (by simp) λp N O Z=>?_
 refine ae.mk N (by simp) λP Q R ab=>z P (by simpa using Q) (((((((B.trans D).trans F).trans H).trans J).trans M).trans O).trans R) (by omega)
theorem ae.bJ {a:aa}{b j:Nat}{v:J0}{d dK:Array J0}{T:Q7}{K:aa->Prop}(e:a[b]? =some (J2 d T (0,0)))(f:j<d.size)(g:d.setIfInBounds j v=dK)
  (h: ∀c,c[b]? =some (J2 dK T (0,0))->Mod (· =b) a c->c.size=a.size->K c):ae a ((⟨b,0,none⟩:Q6).add j) v K:=by
 rw[Bf,AI];exact ae.mk e f λi k=>h i (by rw[<- g];exact k)
structure Ev where
 id:Int
 kind:Int
 tick:Int
 ref:Int
 step:Int
 turn:Int
 aK:Bool
 data:A2M
def cw:cJ Ev where
 enc x:= [J6 J9 x.id,J6 J9 x.kind,J6 J9 x.tick,J6 J9 x.ref,J6 J9 x.step,J6 J9 x.turn,J3 x.aK,J7 x.data]
 w:=8
 len _:=rfl
 pos:=by omega
 one x v a:=by simp at a;rcases a with rfl|rfl|rfl|rfl|rfl|rfl|rfl|rfl<;>rfl
def Ev.fv(x:Ev):List Fv:= [.i x.id,.i x.kind,.i x.tick,.i x.ref,.i x.step,.i x.turn,.b x.aK,.s x.data]
theorem Ev.fI {x a:Ev}:x.fv=a.fv↔x=a:=by cases x;cases a;simp[Ev.fv]
instance:DecidableEq Ev:=λx y=>decidable_of_iff (x.fv=y.fv) Ev.fI
def da(a:Int):Bool:=decide (a=3\/a=4\/a=5\/a=11\/a=7\/a=8\/a=9)
def dr(a:Int):Bool:=decide (a=6\/a=10)
def dF(a:Int):Bool:=decide (a=7\/a=8\/a=9)
def dO(a:Int):Bool:=decide (a=6)
def dP(a:Int):Bool:=decide (a=1\/a=12)
def dc(f:Bool)(a b c:Int):Bool:=if f then bU a b c else decide (a=0)
def En(a:Ev):Bool:=bU a.kind 1 18&&bU a.id 1 500&&bU a.tick 0 1099511627776&&dc (da a.kind) a.ref 1 (a.id-1)&&dc (dr a.kind) a.step 0 15&&dc (dF a.kind) a.turn 1 5&&
 (!a.aK||dO a.kind)&&(decide (a.data=HZ)||dP a.kind)
def Ki(a:Ev):Bool:=if a.kind=1 then(Jc (bl a.data)).isSome else if a.kind=12 then Ak a.data else true
def Dl(a:Ev):Bool:=En a&&Ki a
def Td(f:Bool)(a:Int):List UInt8:=if f then Bb a.toNat else []
def gY(f:Bool)(s:A2M):List UInt8:=if f then BI (bl s) else []
def EL(a:Ev):List UInt8:=Bb a.id.toNat++(Bb a.kind.toNat++(Bb a.tick.toNat++(Td (da a.kind) a.ref++(Td (dr a.kind) a.step++(Td (dF a.kind) a.turn++(Td (dO a.kind) (if a.aK then 1 else 0)++gY (dP a.kind) a.data))))))
structure kh where
 id:Nat
 kind:Nat
 tick:Nat
 ref:Nat
 step:Nat
 turn:Nat
def kh.wide(b:kh):Prop:=500<=b.id/\18<=b.kind/\1099511627776<=b.tick/\500<=b.ref/\15<=b.step/\5<=b.turn
def fM:kh:=⟨500,18,1099511627776,500,15,5⟩
def Ex(f:Bool)(m:Nat)(a:Rd):Nat×Rd:=if f then CE m a else(0,a)
def UT(f:Bool)(a:Rd):List UInt8×Rd:=if f then FL a else([],a)
def QN(b:kh)(f:Rd):Ev×Rd:=
 let i:=CE b.id f
 let c:=CE b.kind i.2
 let t:=CE b.tick c.2
 let a:=Ex (da c.1) b.ref t.2
 let s:=Ex (dr c.1) b.step a.2
 let d:=Ex (dF c.1) b.turn s.2
 let u:=Ex (dO c.1) 1 d.2
 let e:=UT (dP c.1) u.2
 (⟨i.1,c.1,t.1,a.1,s.1,d.1,decide (u.1=1),AX e.1⟩,e.2)
def WK(l:List UInt8):Option Ev:=let x:=QN fM ⟨l,false⟩;if Sg x.2&&Dl x.1 then some x.1 else none
theorem Yp {f:Bool}{n:Int}{m:Nat}(a:dc f n 0 m=true)(b:m<18446744073709551616)(t:List UInt8):Ex f m ⟨Td f n++t,false⟩=(n.toNat,⟨t,false⟩):=by
 cases f with
 |false=>simp[dc] at a;subst a;rfl
 |true=>
  simp only[dc,if_true,Bd] at a;simp only[Ex,Td,if_true];exact Co (by omega) (by omega) t
theorem rk {f:Bool}{a b c d e:Int}(g:dc f a b c=true)(h:d<=b)(i:c<=e):dc f a d e=true:=by
 cases f with
 |false=>exact g
 |true=>simp only[dc,if_true,Bd] at g ⊢;omega
theorem rm {f:Bool}{a c d:Int}(b:dc f a c d=true)(e:0<=c):((a.toNat:Nat):Int)=a:=by
 cases f with
 |false=>simp[dc] at b;subst b;rfl
 |true=>simp only[dc,if_true,Bd] at b;omega
theorem APw {f:Bool}{s:A2M}(a:(decide (s=HZ)||f)=true)(b:s.size<18446744073709551616)(t:List UInt8):UT f ⟨gY f s++t,false⟩=(bl s,⟨t,false⟩):=by
 cases f with
 |false=>simp at a;subst a;rfl
 |true=>
  simp only[UT,gY,if_true];exact Ij (by rw[BB];exact b) t
theorem GY {a:Ev}(b:Dl a=true):En a=true:=by simp only[Dl,A3] at b;exact b.1
theorem AQR {b:kh}(l:b.wide)(e:b.ref<18446744073709551616/\b.step<18446744073709551616/\b.turn<18446744073709551616){c:Ev}(g:En c=true)(hd:c.data.size<18446744073709551616)(t:List UInt8):QN b ⟨EL c++t,false⟩=(c,⟨t,false⟩):=by
 obtain⟨id,a,tick,o,step,turn,d,p⟩:=c;simp only[En,A3] at g;obtain⟨⟨⟨⟨⟨⟨⟨q,r⟩,u⟩,h⟩,i⟩,j⟩,k⟩,v⟩:=g;obtain⟨M,N,O,P,Q,R⟩:=l;have S:=Bd.1 q;have T:=Bd.1 r;have U:=Bd.1 u;have w:=Co (n:=id.toNat) (most:=b.id) (by omega) (by omega);have x:=Co (n:=a.toNat) (most:=b.kind) (by omega) (by omega);have y:=Co (n:=tick.toNat) (most:=b.tick) (by omega) (by omega);have z:((a.toNat:Nat):Int)=a:=by omega
 have A:=Yp (f:=da a) (n:=o) (m:=b.ref) (rk h (by omega) (by omega)) e.1;have B:=Yp (f:=dr a) (n:=step) (m:=b.step) (rk i (by omega) (by omega)) e.2.1;have C:=Yp (f:=dF a) (n:=turn) (m:=b.turn) (rk j (by omega) (by omega)) e.2.2;have D:=Yp (f:=dO a) (n:=if d then 1 else 0) (m:=1) (by
  cases E:dO a with
  |true=>simp only[dc,if_true,Bd];split<;>omega
  |false=>rw[E] at k;cases d<;>simp[dc] at k ⊢) (by decide)
 have F:=APw (f:=dP a) (s:=p) v hd;simp only[QN,EL,A4,w,x,y,z,A,B,C,D,F];have G:decide ((if d=true then(1:Int) else 0).toNat=1)=d:=by cases d<;>rfl
 have H:=rm h (by decide);have I:=rm i (by decide);have J:=rm j (by decide);have K:((id.toNat:Nat):Int)=id:=by omega
 have L:((tick.toNat:Nat):Int)=tick:=by omega
 rw[G,H,I,J,K,L,EG]
theorem VX {f:Bool}{m:Nat}{a:Rd}(b:(Ex f m a).2.bad=false):a.bad=false/\a.rest=Td f (Ex f m a).1++(Ex f m a).2.rest/\(Ex f m a).1<=m:=by
 cases f with
 |false=>exact⟨b,rfl,A5 _⟩
 |true=>
  simp only[Ex,Td,if_true,As] at b ⊢;exact F8 b
theorem AN1 {f:Bool}{a:Rd}(b:(UT f a).2.bad=false):a.bad=false/\a.rest=gY f (AX (UT f a).1)++(UT f a).2.rest:=by
 cases f with
 |false=>exact⟨b,rfl⟩
 |true=>
  simp only[UT,gY,if_true,EJ] at b ⊢;exact R3 b
theorem AM0 {b:kh}{r:Rd}(c:(QN b r).2.bad=false):r.bad=false/\r.rest=EL (QN b r).1++(QN b r).2.rest:=by
 simp only[QN] at c ⊢;obtain⟨d,e⟩:=AN1 c;obtain⟨f,g,h⟩:=VX d;obtain⟨i,j,_⟩:=VX f;obtain⟨k,l,_⟩:=VX i;obtain⟨m,n,_⟩:=VX k;obtain⟨o,p,_⟩:=F8 m;obtain⟨q,s,_⟩:=F8 o;obtain⟨t,u,_⟩:=F8 q;refine⟨t,?_⟩;simp only[EL,A4,As];rw[<- e];have v: ∀a:Nat,a<=1->(if decide (a=1)=true then(1:Int) else 0)=(a:Int):=λa w=>by
  have:a=0\/a=1:=by omega
  rcases this with rfl|rfl<;>rfl
 rw[v _ h,<-g,<-j,<-l,<-n,<-p,<-s,<-u]
theorem AJ0 {l:List UInt8}{c:Ev}(a:WK l=some c):Dl c=true/\EL c=l:=by
 unfold WK at a;simp only at a;split at a
 ·rename_i e;simp only[A3] at e;obtain⟨d,g⟩:=e;obtain rfl:=BE a;refine⟨g,?_⟩;rw[wB] at d;obtain⟨_,f⟩:=AM0 (b:=fM) (r:=⟨l,false⟩) (by rw[d]);rw[d] at f;simpa using f.symm
 ·cases a
theorem AOf:fM.wide:=⟨A0 _,A0 _,A0 _,A0 _,A0 _,A0 _⟩
theorem AKl {a:Ev}(c:En a=true):a.data.size<=(EL a).length:=by
 simp only[En,A3] at c;have b:=c.2;cases d:dP a.kind with
 |false=>
  rw[d] at b;simp at b;rw[b];exact A5 _
 |true=>
  simp only[EL,gY,d,if_true,BI,A1,BB];omega
theorem wI {l:List UInt8}{a:Ev}(e:l.length<18446744073709551616):WK l=some a↔Dl a=true/\EL a=l:=by refine⟨AJ0,λ⟨b,c⟩=>?_⟩;have d:=AKl (GY b);have:=AQR AOf ⟨by decide,by decide,by decide⟩ (GY b) (by rw[c] at d;omega) [];rw[AK,c] at this;unfold WK;simp only[this,b];rfl
def Nl(l:List Ev):List UInt8:=Bb l.length++l.flatMap λa=>BI (EL a)
def EM(l:List Ev):Nat×List UInt8:=if 500<l.length then(2,[]) else if l.all Dl then(0,Nl l) else(120,[])
def WT:Nat->Rd->Option (List Ev×Rd)
 |0,a=>some ([],a)
 |n+1,a=>match WK (FL a).1 with
  |none=>none
  |some b=>match WT n (FL a).2 with
   |none=>none
   |some (l,c)=>some (b::l,c)
def Lp(l:List UInt8):Option (List Ev):=
 let a:=CE 500 ⟨l,false⟩
 match WT a.1 a.2 with
 |none=>none
 |some (b,c)=>if Sg c then some b else none
theorem wJ(t:List UInt8): ∀ {l:List Ev},l.all Dl=true->(∀ e∈l,(EL e).length<18446744073709551616)->WT l.length ⟨(l.flatMap λe=>BI (EL e))++t,false⟩=some (l,⟨t,false⟩)
 | [],_,_=>rfl
 |e::l,a,b=>by
  simp only[DM,A3] at a;have c:=b e (by simp);have d:=Ij (l:=EL e) c;have f:=(wI c).2 ⟨a.1,rfl⟩;have g:=wJ t a.2 λx h=>b x (AH _ h)
  simp only[A6,WT,AF,A4,d,f,g]
theorem fy {l:List Ev}(b:l.length<=500)(c:l.all Dl=true)(d: ∀e∈l,(EL e).length<18446744073709551616):Lp (Nl l)=some l:=by have f:=Co (n:=l.length) (most:=500) (by omega) b;have a:=wJ [] c d;rw[AK] at a;simp only[Lp,Nl,f,a];rfl
structure Jb where
 id:Int
 step:Int
 aK:Bool
 turn:Int
def fB:cJ Jb where
 enc x:= [J6 J9 x.id,J6 J9 x.step,J3 x.aK,J6 J9 x.turn]
 w:=4
 len _:=rfl
 pos:=by omega
 one x v a:=by simp at a;rcases a with rfl|rfl|rfl|rfl<;>rfl
structure Ck where
 id:Int
 step:Int
 tick:Int
def gq:cJ Ck where
 enc x:= [J6 J9 x.id,J6 J9 x.step,J6 J9 x.tick]
 w:=3
 len _:=rfl
 pos:=by omega
 one x v a:=by simp at a;rcases a with rfl|rfl|rfl<;>rfl
structure bg where
 prog:cn
 status:Int
 next:Int
 bd:Int
 asked:Int
 taken:Int
 fresh:Bool
 au:List Jb
 ak:List Ck
 cancel:Bool
 aQ:Bool
def UI:bg:=⟨⟨[],0⟩,0,0,0,0,0,false,[],[],false,false⟩
def stepOf(p:cn)(a b:Int):Option bQ:=if 0<=a then(p.steps[a.toNat]?).bind λx=>if x.kind=b then some x else none else none
def Jj(p:cn)(a:Jb):Int:=match stepOf p a.step 1 with
 |none=>0
 |some x=>if a.aK then x.aA else x.tries
def mL(s:bg)(b turn:Int):Option Nat:=s.au.findIdx? λa=>decide (a.id=b)&&decide (a.turn=turn)
def Dv(s:bg)(a:Ev):Option bg:=
 if a.kind=2 then(if s.asked=0/\s.taken=0/\s.fresh=true then some {s with asked:=a.id} else none)
 else if a.kind=3 then(if s.asked=a.ref then some {s with asked:=0,taken:=a.id,fresh:=false} else none)
 else if a.kind=4 then(if s.taken=a.ref then some {s with taken:=0} else none)
 else(if s.taken=a.ref then some {s with taken:=0,fresh:=true} else none)
def MJ(s:bg)(a:Ev):Option bg:=
 if a.kind=6 then(stepOf s.prog a.step 1).bind λx=>if a.aK=true/\x.aK=HZ then none else some {s with au:=s.au++ [⟨a.id,a.step,a.aK,1⟩]}
 else(mL s a.ref a.turn).bind λi=>(s.au[i]?).bind λb=>
  if a.kind=8 then(if a.turn=Jj s.prog b then none else some {s with au:=s.au.set i {b with turn:=b.turn+1}})
  else if a.kind=7\/a.turn=Jj s.prog b then some {s with au:=s.au.eraseIdx i,fresh:=true} else none
def Kh(s:bg)(a:Ev):Option bg:=
 if a.kind=10 then(stepOf s.prog a.step 2).map λx=> {s with ak:=s.ak++ [⟨a.id,a.step,a.tick+x.wait⟩]}
 else(s.ak.findIdx? λc=>decide (c.id=a.ref)&&decide (c.tick<=a.tick)).map λi=> {s with ak:=s.ak.eraseIdx i,fresh:=true}
def Zk(s:bg)(status:Int):bg:= {s with status:=status,asked:=0,taken:=0,fresh:=false,au:= [],ak:= []}
def PU(s:bg):Prop:=s.asked=0/\s.taken=0/\s.au= []
instance (s:bg):Decidable (PU s):=decidable_of_iff (s.asked=0/\s.taken=0/\s.au.length=0) (by simp[PU])
def KL(s:bg)(a:Ev):Option bg:=
 if a.kind=12 then some {s with fresh:=true}
 else if a.kind=13 then(if s.cancel=true then none else some {s with cancel:=true,fresh:=true})
 else if a.kind=14 then(if s.aQ=true\/s.prog.az=0\/a.tick<s.bd+s.prog.az then none else some {s with aQ:=true,fresh:=true})
 else if a.kind=18 then some (Zk s 4)
 else if a.kind=15 then(if PU s then some (Zk s 1) else none)
 else if a.kind=16 then(if PU s then some (Zk s 2) else none)
 else if a.kind=17 then(if PU s then some (Zk s 3) else none)
 else none
def PM(s:bg)(a:Ev):Option bg:=
 (if 2<=a.kind/\a.kind<=5 then Dv s a else if 6<=a.kind/\a.kind<=9 then MJ s a else if a.kind=10\/a.kind=11 then Kh s a else KL s a).map λt=> {t with next:=s.next+1}
def Xm(a:Ev):bg:=⟨(Jc (bl a.data)).getD ⟨[],0⟩,0,2,a.tick,0,0,true,[],[],false,false⟩
def Bh(s:bg)(a:Ev):Int×bg:=
 if Dl a=false then(120,UI)
 else if s.next=0 then(if a.kind=1/\a.id=1 then(0,Xm a) else(120,UI))
 else if s.status≠0 then(182,UI)
 else if a.id≠s.next then(120,UI)
 else match PM s a with
  |none=>(120,UI)
  |some t=>(0,t)
def FR(s:bg):List Ev->Option bg
 | []=>some s
 |e::l=>if(Bh s e).1=0 then FR (Bh s e).2 l else none
theorem AEj {a b:List Ev}: ∀ {s:bg},FR s (a++b)=(FR s a).bind λt=>FR t b:=by
 induction a with
 |nil=>intro s;rfl
 |cons d l c=>
  intro s;rw[DH,FR,FR];split
  ·exact c
  ·rfl
theorem AIb {s t:bg}{l:List Ev}{a:Ev}(b:FR s l=some t)(c:(Bh t a).1=0):FR s (l++ [a])=some (Bh t a).2:=by rw[AEj,b];show FR t [a]=_;rw[FR,if_pos c,FR]
theorem Qx {s:bg}{b:Ev}(a:(Bh s b).1=0):Dl b=true:=by
 unfold Bh at a;split at a
 ·cases a
 ·rename_i c;simpa using c
theorem xO {s:bg}{b:Ev}(a:(Bh s b).1=0):(s.next=0->b.id=1/\(Bh s b).2.next=2)/\(s.next≠0->b.id=s.next/\(Bh s b).2.next=s.next+1):=by
 unfold Bh at a ⊢;split at a
 ·cases a
 ·rename_i g;rw[if_neg g];split at a
  ·rename_i c;rw[if_pos c];split at a
   ·rename_i d;rw[if_pos d];exact⟨λ_=>⟨d.2,rfl⟩,λa=>absurd c a⟩
   ·cases a
  ·rename_i c;rw[if_neg c];split at a
   ·cases a
   ·rename_i d;rw[if_neg d];split at a
    ·cases a
    ·rename_i f;rw[if_neg f];cases e:PM s b with
     |none=>rw[e] at a;cases a
     |some t=>
      refine⟨λa=>absurd a c,λ_=>⟨by simpa using f,?_⟩⟩;unfold PM at e;obtain⟨h,-,rfl⟩:=Option.map_eq_some_iff.1 e;rfl
theorem AIX: ∀ {l:List Ev} {s t:bg},FR s l=some t->1<=s.next->t.next=s.next+l.length/\ ∀(i:Nat) (b:Ev),l[i]? =some b->b.id=s.next+i/\Dl b=true:=by
 intro l
 induction l with
 |nil=>intro s t a e;cases a;exact⟨by simp,λi b f=>by simp at f⟩
 |cons b l g=>
  intro s t a e;rw[FR] at a;split at a
  ·rename_i d;have h:=(xO d).2 (by omega);obtain⟨j,k⟩:=g a (by omega);refine⟨by rw[j,h.2,A6];omega,λi x c=>?_⟩;cases i with
   |zero=>simp at c;subst c;exact⟨by omega,Qx d⟩
   |succ i=>
    have:=k i x (by simpa using c);exact⟨by omega,this.2⟩
  ·cases a
theorem xP {l:List Ev}{t:bg}(a:FR UI l=some t)(e:l≠ []):t.next=l.length+1/\ ∀(i:Nat) (b:Ev),l[i]? =some b->b.id=i+1/\Dl b=true:=by
 cases l with
 |nil=>exact absurd rfl e
 |cons b l=>
  rw[FR] at a;split at a
  ·rename_i d;have f:=(xO d).1 rfl;obtain⟨g,h⟩:=AIX a (by omega);refine⟨by rw[g,f.2,A6];omega,λi x c=>?_⟩;cases i with
   |zero=>simp at c;subst c;exact⟨by omega,Qx d⟩
   |succ i=>
    have:=h i x (by simpa using c);exact⟨by omega,this.2⟩
  ·cases a
def eW:List UInt8->Option (List UInt8)
 | []=>none
 |a::p=>match eW p with
  |some b=>some (a::b)
  |none=>if a<255 then some [a+1] else none
theorem xI {a b:UInt8}(c:a<255):b<a+1↔ ¬a<b:=by
 have e:a.toNat<255:=UInt8.lt_iff_toNat_lt.1 c;have d:(a+1).toNat=a.toNat+1:=by rw[UInt8.toNat_add];show(a.toNat+1) % 256=_;omega
 rw[UInt8.lt_iff_toNat_lt,UInt8.lt_iff_toNat_lt,d];omega
theorem ATN {a b:UInt8}(c: ¬a<255): ¬a<b:=λd=>by
 rw[UInt8.lt_iff_toNat_lt] at c d;have:b.toNat<256:=b.toNat_lt;have e:(255:UInt8).toNat=255:=rfl;omega
theorem xJ: ∀(p j:List UInt8),(¬ j<p/\(∀ h,eW p=some h->j<h))↔p <+: j
 | [],j=>by simp[eW]
 |a::p,[]=>by
  constructor
  ·rintro⟨c,_⟩;exact absurd (List.nil_lt_cons a p) c
  ·intro c;exact absurd (List.prefix_nil.1 c) (by simp)
 |a::p,b::j=>by
  have s:=xJ p j;have e: ∀ {x q:UInt8} {l m:List UInt8},x::l<q::m↔x<q\/x=q/\l<m:=A0b;rw[List.cons_prefix_cons,<-s];constructor
  ·rintro⟨o,f⟩;have r: ¬b<a:=λc=>o (e.2 (.inl c))
   have t: ¬a<b:=λc=>by
    unfold eW at f;cases k:eW p with
    |some h=>
     rw[k] at f;rcases e.1 (f _ rfl) with d|⟨d,_⟩
     ·exact r d
     ·subst d;exact UInt8.lt_irrefl _ c
    |none=>
     rw[k] at f;by_cases i:a<255
     ·have:=f [a+1] (by simp[i]);rcases e.1 this with d|⟨_,d⟩
      ·exact(xI i).1 d c
      ·exact absurd d (by simp)
     ·exact ATN i c
   have n:a=b:=by
    by_cases n:a=b
    ·exact n
    ·rcases UInt8.lt_or_lt_of_ne n with c|c
     ·exact absurd c t
     ·exact absurd c r
   subst n;refine⟨rfl,λc=>o (e.2 (.inr ⟨rfl,c⟩)),λh g=>?_⟩;have:=f (a::h) (by unfold eW;rw[g]);rcases e.1 this with d|⟨_,d⟩
   ·exact absurd d (UInt8.lt_irrefl _)
   ·exact d
  ·rintro⟨rfl,o,f⟩;refine⟨λc=>?_,λh g=>?_⟩
   ·rcases e.1 c with d|⟨_,d⟩
    ·exact absurd d (UInt8.lt_irrefl _)
    ·exact o d
   ·unfold eW at g;cases k:eW p with
    |some u=>
     rw[k] at g;obtain rfl:=BE g;exact e.2 (.inr ⟨rfl,f u k⟩)
    |none=>
     rw[k] at g;by_cases i:a<255
     ·have n:h= [a+1]:=by simpa [i] using g.symm
      subst n;exact e.2 (.inl ((xI i).2 (UInt8.lt_irrefl _)))
     ·simp[i] at g
theorem rG: ∀ {p:List UInt8},(∀ x∈p,¬x<255)->eW p=none
 | [],_=>rfl
 |a::p,b=>by
  unfold eW;rw[rG λx c=>b x (AH _ c)];simp[b a CH]
theorem xL: ∀ {p:List UInt8} {i:Nat} {a:UInt8},p[i]? =some a->a<255->(∀ x∈p.drop (i+1),¬x<255)->eW p=some (p.take i++ [a+1])
 | [],i,a,c,_,_=>by simp at c
 |b::p,0,a,c,d,hd=>by
  simp at c;subst c;unfold eW;rw[rG (by simpa using hd)];simp[d]
 |b::p,i+1,a,c,d,hd=>by
  unfold eW;rw[xL (p:=p) (i:=i) (a:=a) (by simpa using c) d (by simpa using hd)];simp
def Md(p a:A2M):Bool:=(p.data.toList).isPrefixOf a.data.toList
theorem LV(p a:A2M):Md p a=true↔p.data.toList <+: a.data.toList:=by unfold Md;rw[List.isPrefixOf_iff_prefix]
def Jm:Nat->Nat->List UInt8
 |0,_=> []
 |k+1,a=>Jm k (a / 256)++ [Bl a]
theorem LM: ∀(k a:Nat),(Jm k a).length=k
 |0,_=>rfl
 |k+1,a=>by rw[Jm,A1,LM k];rfl
theorem RD(a:Nat):Bl a=Bl (a % 256):=by apply UInt8.toNat_inj.1;simp[Bl,UInt8.toNat_ofNat']
theorem VV {a b:Nat}(c:a<256)(d:b<256)(e:Bl a=Bl b):a=b:=by have:=congrArg UInt8.toNat e;rwa [Dc c,Dc d] at this
theorem xQ(a:Nat):Jm 4 a= [Bl (a / 256 / 256 / 256),Bl (a / 256 / 256),Bl (a / 256),Bl a]:=rfl
theorem AQx {a b:Nat}(i:b<65536)(j:a<b):Jm 4 a<Jm 4 b:=by
 rw[xQ,xQ];have d:a / 256 / 256=0:=by omega
 have e:b / 256 / 256=0:=by omega
 rw[d,e];have lt: ∀ {x c:Nat},c<256->x<c->Bl x<Bl c:=λ{x c} f g=>by
  rw[UInt8.lt_iff_toNat_lt,Dc f,Dc (by omega)];exact g
 refine List.Lex.cons (List.Lex.cons ?_);by_cases h:a / 256=b / 256
 ·rw[h];refine List.Lex.cons (List.Lex.rel ?_);rw[RD a,RD b];exact lt (by omega) (by omega)
 ·exact List.Lex.rel (lt (by omega) (by omega))
theorem xR(p:List UInt8){a b:List UInt8}(d:a<b):p++a<p++b:=by
 induction p with
 |nil=>exact d
 |cons c p e=>exact List.Lex.cons e
def kE:UInt8:=104
def lr(wid:A2M):List UInt8:=kE::BI (bl wid)
def Gb(wid:A2M):A2M:=AX (lr wid)
def eA(wid:A2M)(id:Nat):A2M:=AX (lr wid++Jm 4 id)
def Es(wid:A2M):A2M:=AX (119::bl wid)
def JO(a:A2M):A2M:=AX (114::bl a)
def Ko(a id:Nat):A2M:=AX (116::Bl a::Jm 8 id)
def CZ(a b id:Nat):A2M:=AX (109::Bl a::(Jm 8 b++Jm 8 id))
theorem xS {s:A2M}(a:s.size<=16):BI (bl s)=Bl s.size::bl s:=by unfold BI;rw[BB,Fp (by omega)];rfl
theorem Rz {wid:A2M}(a:wid.size<=16):lr wid=104::Bl wid.size::bl wid:=by unfold lr;rw[xS a];rfl
theorem APO {wid:A2M}(a:wid.size<=16)(id:Nat):(eA wid id).size<=22:=by unfold eA;rw[AP,A1,LM,Rz a];simp only[A6,BB];omega
theorem rI {wid:A2M}(a:wid.size<=16):(Gb wid).size<=18:=by unfold Gb;rw[AP,Rz a];simp only[A6,BB];omega
theorem MV(wid:A2M):(Es wid).size=wid.size+1:=by unfold Es;rw[AP,A6,BB]
theorem Vl(a:A2M):(JO a).size=a.size+1:=by unfold JO;rw[AP,A6,BB]
theorem xT(a id:Nat):(Ko a id).size=10:=by unfold Ko;rw[AP];rfl
theorem JN(b a id:Nat):(CZ b a id).size=18:=by unfold CZ;rw[AP];rfl
theorem mM {wid:A2M}{i a:Nat}(b:a<65536)(c:i<a):aO (eA wid i) (eA wid a)=true:=by rw[Vr,decide_eq_true_eq];unfold eA;rw[BX,BX];exact xR _ (AQx b c)
theorem rJ(wid:A2M)(id:Nat):Md (Gb wid) (eA wid id)=true:=by rw[LV];unfold Gb eA;rw[BX,BX];exact List.prefix_append _ _
theorem xU {wid a:A2M}(d:wid.size<=16)(e:a.size<=16){id:Nat}(b:Md (Gb wid) (eA a id)=true):wid=a:=by rw[LV] at b;unfold Gb eA at b;rw[BX,BX,Rz d,Rz e] at b;obtain⟨t,c⟩:=b;simp only[DH,GC,true_and] at c;have f:=VV (by omega) (by omega) c.1;have:=(List.append_inj c.2 (by rw[BB,BB];exact f)).1;rw[<- EG wid,<-EG a];exact congrArg AX this
theorem AQp {wid b:A2M}(e:wid.size<=16)(f:b.size<=16){i c:Nat}(g:i<65536)(h:c<65536)(d:eA wid i=eA b c):wid=b/\i=c:=by
 have j:wid=b:=xU e f (by rw[<- d];exact rJ wid i);subst j;refine⟨rfl,?_⟩;rcases Jx i c with a|a|a
 ·exact absurd d (NI (mM h a))
 ·exact a
 ·exact absurd d.symm (NI (mM g a))
theorem ANw {a b:A2M}(c:Es a=Es b):a=b:=by have:=Mx.1 c;simp only[GC,true_and] at this;rw[<- EG a,<-EG b];exact congrArg AX this
theorem xV {a b:A2M}(c:JO a=JO b):a=b:=by have:=Mx.1 c;simp only[GC,true_and] at this;rw[<- EG a,<-EG b];exact congrArg AX this
def BH(a:A2M):UInt8:=(bl a).headD 0
theorem Sn(wid:A2M)(id:Nat):BH (eA wid id)=104:=by unfold BH eA;rw[EJ];rfl
theorem Dw(wid:A2M):BH (Es wid)=119:=by unfold BH Es;rw[EJ];rfl
theorem JY(wid:A2M):BH (JO wid)=114:=by unfold BH JO;rw[EJ];rfl
theorem Xq(a id:Nat):BH (Ko a id)=116:=by unfold BH Ko;rw[EJ];rfl
theorem O0(b a id:Nat):BH (CZ b a id)=109:=by unfold BH CZ;rw[EJ];rfl
theorem ZU {wid a:A2M}(b:Md (Gb wid) a=true):BH a=104:=by rw[LV] at b;obtain⟨t,c⟩:=b;unfold BH;show(a.data.toList).headD 0=104;rw[<- c];unfold Gb;rw[BX];rfl
def I1(status next:Nat)(a:Bool):A2M:=AX (Bb status++(Bb next++Bb (if a then 1 else 0)))
def iT(a:List UInt8)(status next:Nat):A2M:=AX (BI a++(Bb status++Bb next))
def rK(a:Nat)(wid:A2M)(b turn:Nat):A2M:=AX (Bb a++(BI (bl wid)++(Bb b++Bb turn)))
theorem G6 {n:Nat}(a:n<16384):(Bb n).length<=2:=yk 1 n (by omega)
theorem AKR {kind ref turn:Nat}{wid:A2M}(a:kind<128)(b:wid.size<=16)(c:ref<=500)(d:turn<=5):(rK kind wid ref turn).size<=22:=by unfold rK;have:=G6 (n:=ref) (by omega);rw[AP,Fp a,xS b,Fp (n:=turn) (by omega)];simp only[A1,A6,BB,GP];omega
theorem AKr {status next:Nat}{kept:Bool}(a:status<128)(b:next<=501):(I1 status next kept).size<=4:=by unfold I1;have:=G6 (n:=next) (by omega);rw[AP,Fp a,Fp (n:=if kept then 1 else 0) (by split<;>omega)];simp only[A1,A6,GP];omega
structure bA where
 wid:A2M
 aq:Nat
 cE:Int
 cj:Int
 kept:Bool
 st:bg
 more:List Ev
 ar:List Pr
 conds:List Pr
 err:Int
 now:Int
def jh(s:bg):Bool:=decide (s.next<=497)
def PP(wid:A2M)(b:Nat)(c d:Int)(e:Bool)(st:bg)(a:Int):bA:=
 ⟨wid,b,c,d,e,st,[],[],[],if a<0\/1099511611776<a then 1 else 0,a⟩
def Cc(a:bA)(b:Ev):Ev:= {b with id:=if 1>a.st.next then 1 else a.st.next,tick:=a.now}
def EF(a:bA)(b:Ev):bA:=
 if a.err≠0 then a
 else if a.more= []/\jh a.st=false/\b.kind≠18 then {a with err:=2}
 else if(Bh a.st (Cc a b)).1≠0 then {a with err:=(Bh a.st (Cc a b)).1}
 else {a with st:=(Bh a.st (Cc a b)).2,more:=a.more++ [Cc a b]}
def Wo(a:bA):Int:=a.st.next-1
structure gA where
 kind:Int
 ref:Int
 turn:Int
def KN(t:gA)(wid:A2M):Bool:=bU t.kind 1 7&&Ak wid&&bU t.ref 0 500&&bU t.turn 0 5
def OX(t:gA)(wid:A2M):A2M:=rK t.kind.toNat wid t.ref.toNat t.turn.toNat
def La(a:Nat)(tick:Int)(b:Nat):A2M:=if tick<0 then Ko a b else CZ a tick.toNat b
def ET(a:bA)(t:gA)(tick:Int)(b:Nat):bA:=
 if a.err≠0 then a
 else if KN t a.wid=false then {a with err:=1}
 else {a with ar:=a.ar++ [⟨La a.aq tick b,OX t a.wid,false⟩]}
def oQ(a:bA)(key val:A2M):bA:= {a with conds:=a.conds++ [⟨key,⟨#[]⟩,true⟩],ar:=a.ar++ [⟨key,val,false⟩]}
def Dp(a:bA):Bool:=decide (a.more≠ [])&&(decide (a.st.status=0)&&(a.st.fresh&&(decide (a.st.asked=0)&&decide (a.st.taken=0))))
def Di(a:bA):Int×Int:=(a.st.status,if Dp a then a.st.next+1 else a.st.next)
def bD(a:bA):Pr:=if 0<a.cj then⟨Es a.wid,I1 a.cE.toNat a.cj.toNat a.kept,false⟩ else⟨Es a.wid,⟨#[]⟩,true⟩
def Nc(wid:A2M)(a:Ev):Pr:=⟨eA wid a.id.toNat,AX (EL a),false⟩
def Er(a:bA):List Pr:=a.more.map (Nc a.wid)++(if a.more= [] then [] else [⟨Es a.wid,I1 a.st.status.toNat a.st.next.toNat false,false⟩])
structure bA.a0R (C:bA):Prop where
 pos:C.err=0-> ∀e∈C.more,Dl e=true
 err0:0<=C.err
theorem Od(a:bA)(b:Ev):(EF a b).wid=a.wid/\(EF a b).aq=a.aq/\(EF a b).cE=a.cE/\(EF a b).cj=a.cj/\(EF a b).kept=a.kept/\(EF a b).ar=a.ar/\(EF a b).conds=a.conds/\(EF a b).now=a.now:=by
 unfold EF;split
 ·simp
 ·split
  ·simp
  ·split<;>simp
theorem oR {a:bA}{e:Ev}(d:a.err=0)(f:a.more≠ []\/a.st.next<=497\/e.kind=18)(g:(Bh a.st (Cc a e)).1=0):
  EF a e= {a with st:=(Bh a.st (Cc a e)).2,more:=a.more++ [Cc a e]}:=by
 unfold EF;rw[if_neg (by simp[d]),if_neg (by
  rintro⟨h,c,i⟩;rcases f with b|b|b
  ·exact b h
  ·unfold jh at c;simp at c;omega
  ·exact i b),if_neg (by simp[g])]
def rL(a:Q6):aa->Nat->List J0->(aa->Prop)->Prop
 |h,_,[],K=>K h
 |h,i,v::b,K=>ae h (a.add i) v λc=>rL a c (i+1) b K
def aL(b:aa)(a:Q6)(c:List J0)(K:aa->Prop):Prop:=rL a b 0 c K
def gB(a:Array J0)(b:Nat)(c:List J0):Array J0:=⟨a.toList.take b++(c++a.toList.drop (b+c.length))⟩
theorem ANq {c:Array J0}{a:Nat}{v:J0}{b:List J0}(d:a<c.size):gB (c.setIfInBounds a v) (a+1) b=gB c a (v::b):=by
 obtain⟨l⟩:=c;have d:a<l.length:=d;unfold gB;apply congrArg Array.mk;simp only[UP,A6];have e:l.set a v=l.take a++v::l.drop (a+1):=by rw[ZS,if_pos d]
 rw[e,Ks,PB,An,Fm (by omega)];rw[show a+1-a=1 from by omega,Mn,OS (by omega),show a+1+b.length-a=b.length+1 from by omega];rw[HE (l:=l.take a) (by rw[An];omega)];simp only[I2,It,CN,I0,Hk,A4,DH];rw[show a+1+b.length=a+(b.length+1) from by omega]
theorem AQF {a:Array J0}{b:Nat}:gB a b []=a:=by obtain⟨l⟩:=a;unfold gB;simp
theorem xX {b c:Nat}{T:Q7}{K:aa->Prop}: ∀(d:List J0) (i:Nat) {a:aa} {e:Array J0},a[b]? =some (J2 e T (0,0))->c+i+d.length<=e.size->
  (∀ f,f[b]? =some (J2 (gB e (c+i) d) T (0,0))->Mod (· =b) a f->f.size=a.size->K f)->rL ⟨b,c,none⟩ a i d K
 | [],i,a,e,g,_,h=>h a (by rw[AQF];exact g) ⟨A0 _,λ_ _ _=>rfl⟩ rfl
 |v::d,i,a,e,g,k,h=>by
  rw[A6] at k;show ae a (Addr.add ⟨b,c,none⟩ i) v _;rw[Bf];refine ae.mk g (by omega) λp l m q=>?_
  refine xX d (i+1) l (by simp;omega) λn j o r=>h n ?_ (m.trans o) (by omega)
  rw[show c+(i+1)=c+i+1 from by omega,ANq (by omega)] at j;exact j
theorem aL.mk {b e:Nat}{T:Q7}{K:aa->Prop}{a:List J0}{c:aa}{f:Array J0}(g:c[b]? =some (J2 f T (0,0)))(h:e+a.length<=f.size)
  (i: ∀d,d[b]? =some (J2 (gB f e a) T (0,0))->Mod (· =b) c d->d.size=c.size->K d):aL c ⟨b,e,none⟩ a K:=xX a 0 g h i
theorem Dn {c:aa}{b d:Nat}{e:Array J0}{T:Q7}{fr:Nat×Nat}{l:List J0}(f:c[b]? =some (J2 e T fr))(g:(e.toList.drop d).take l.length=l):Cells c ⟨b,d,none⟩ l:=λh v a=>by
 rw[Bf];refine AL f ?_;rw[<- A0p,<-C5];have i:=(List.getElem?_eq_some_iff.1 a).1;rw[<- g,Fc,if_pos (by omega)] at a;exact a
abbrev Ev.l(x:Ev):List J0:= [J6 J9 x.id,J6 J9 x.kind,J6 J9 x.tick,J6 J9 x.ref,J6 J9 x.step,J6 J9 x.turn,J3 x.aK,J7 x.data]
abbrev Ev.c(x:Ev):Array J0:= #[J6 J9 x.id,J6 J9 x.kind,J6 J9 x.tick,J6 J9 x.ref,J6 J9 x.step,J6 J9 x.turn,J3 x.aK,J7 x.data]
abbrev Ev.v(x:Ev):J0:= .agg #[J6 J9 x.id,J6 J9 x.kind,J6 J9 x.tick,J6 J9 x.ref,J6 J9 x.step,J6 J9 x.turn,J3 x.aK,J7 x.data]
abbrev Ev.z:Ev:=⟨0,0,0,0,0,0,false,⟨#[]⟩⟩
abbrev Ev.s:List Sc:= [.int J9,.int J9,.int J9,.int J9,.int J9,.int J9,.bool,.str]
abbrev Ev.T:Type:=Int×Int×Int×Int×Int×Int×Bool×A2M×Unit
abbrev Ev.t(x:Ev):Ev.T:=(x.id,x.kind,x.tick,x.ref,x.step,x.turn,x.aK,x.data,())
def oS(K:Ev->Prop):Prop:= ∃a:Int,∃b:Int,∃c:Int,∃d:Int,∃e:Int,∃f:Int,∃g:Bool,∃h:A2M,K ⟨a,b,c,d,e,f,g,h⟩
theorem oS.mk {K:Ev->Prop}(x:Ev)(a:K x):oS K:=⟨x.id,x.kind,x.tick,x.ref,x.step,x.turn,x.aK,x.data,a⟩
def Mt(b:aa)(a:Q6)(K:Ev->Prop):Prop:=
 AC J9 b a λc=>
 AC J9 b (a.add 1) λd=>
 AC J9 b (a.add 2) λe=>
 AC J9 b (a.add 3) λf=>
 AC J9 b (a.add 4) λg=>
 AC J9 b (a.add 5) λh=>
 AZ b (a.add 6) λi=>
 AJ b (a.add 7) λj=>
 K ⟨c,d,e,f,g,h,i,j⟩
theorem Mt.mk {b:aa}{a:Q6}{K:Ev->Prop}(x:Ev)(c:Cells b a x.l)(d:K x):Mt b a K:=
 ⟨_,by have:=c 0 _ rfl;rwa [add_zero] at this,_,c 1 _ rfl,_,c 2 _ rfl,_,c 3 _ rfl,_,c 4 _ rfl,_,c 5 _ rfl,_,c 6 _ rfl,_,c 7 _ rfl,d⟩
abbrev Jb.l(x:Jb):List J0:= [J6 J9 x.id,J6 J9 x.step,J3 x.aK,J6 J9 x.turn]
abbrev Jb.c(x:Jb):Array J0:= #[J6 J9 x.id,J6 J9 x.step,J3 x.aK,J6 J9 x.turn]
abbrev Jb.v(x:Jb):J0:= .agg #[J6 J9 x.id,J6 J9 x.step,J3 x.aK,J6 J9 x.turn]
abbrev Jb.z:Jb:=⟨0,0,false,0⟩
abbrev Jb.s:List Sc:= [.int J9,.int J9,.bool,.int J9]
abbrev Jb.T:Type:=Int×Int×Bool×Int×Unit
abbrev Jb.t(x:Jb):Jb.T:=(x.id,x.step,x.aK,x.turn,())
def lu(b:aa)(a:Q6)(K:Jb->Prop):Prop:=
 AC J9 b a λc=>
 AC J9 b (a.add 1) λd=>
 AZ b (a.add 2) λe=>
 AC J9 b (a.add 3) λf=>
 K ⟨c,d,e,f⟩
theorem lu.mk {b:aa}{a:Q6}{K:Jb->Prop}(x:Jb)(c:Cells b a x.l)(d:K x):lu b a K:=
 ⟨_,by have:=c 0 _ rfl;rwa [add_zero] at this,_,c 1 _ rfl,_,c 2 _ rfl,_,c 3 _ rfl,d⟩
abbrev Ck.l(x:Ck):List J0:= [J6 J9 x.id,J6 J9 x.step,J6 J9 x.tick]
abbrev Ck.c(x:Ck):Array J0:= #[J6 J9 x.id,J6 J9 x.step,J6 J9 x.tick]
abbrev Ck.v(x:Ck):J0:= .agg #[J6 J9 x.id,J6 J9 x.step,J6 J9 x.tick]
abbrev Ck.z:Ck:=⟨0,0,0⟩
abbrev Ck.s:List Sc:= [.int J9,.int J9,.int J9]
abbrev Ck.T:Type:=Int×Int×Int×Unit
abbrev Ck.t(x:Ck):Ck.T:=(x.id,x.step,x.tick,())
def oT(b:aa)(a:Q6)(K:Ck->Prop):Prop:=
 AC J9 b a λc=>
 AC J9 b (a.add 1) λd=>
 AC J9 b (a.add 2) λe=>
 K ⟨c,d,e⟩
theorem oT.mk {b:aa}{a:Q6}{K:Ck->Prop}(x:Ck)(c:Cells b a x.l)(d:K x):oT b a K:=
 ⟨_,by have:=c 0 _ rfl;rwa [add_zero] at this,_,c 1 _ rfl,_,c 2 _ rfl,d⟩
abbrev bQ.l(x:bQ):List J0:= [J6 J9 x.kind,J7 x.name,J7 x.aK,J6 J9 x.tries,J6 J9 x.aA,J6 J9 x.wait]
abbrev bQ.c(x:bQ):Array J0:= #[J6 J9 x.kind,J7 x.name,J7 x.aK,J6 J9 x.tries,J6 J9 x.aA,J6 J9 x.wait]
abbrev bQ.v(x:bQ):J0:= .agg #[J6 J9 x.kind,J7 x.name,J7 x.aK,J6 J9 x.tries,J6 J9 x.aA,J6 J9 x.wait]
abbrev bQ.z:bQ:=⟨0,⟨#[]⟩,⟨#[]⟩,0,0,0⟩
abbrev bQ.s:List Sc:= [.int J9,.str,.str,.int J9,.int J9,.int J9]
abbrev bQ.T:Type:=Int×A2M×A2M×Int×Int×Int×Unit
abbrev bQ.t(x:bQ):bQ.T:=(x.kind,x.name,x.aK,x.tries,x.aA,x.wait,())
def ji(K:bQ->Prop):Prop:= ∃a:Int,∃b:A2M,∃c:A2M,∃d:Int,∃e:Int,∃f:Int,K ⟨a,b,c,d,e,f⟩
theorem ji.mk {K:bQ->Prop}(x:bQ)(a:K x):ji K:=⟨x.kind,x.name,x.aK,x.tries,x.aA,x.wait,a⟩
def jj(b:aa)(a:Q6)(K:bQ->Prop):Prop:=
 AC J9 b a λc=>
 AJ b (a.add 1) λd=>
 AJ b (a.add 2) λe=>
 AC J9 b (a.add 3) λf=>
 AC J9 b (a.add 4) λg=>
 AC J9 b (a.add 5) λh=>
 K ⟨c,d,e,f,g,h⟩
theorem jj.mk {b:aa}{a:Q6}{K:bQ->Prop}(x:bQ)(c:Cells b a x.l)(d:K x):jj b a K:=
 ⟨_,by have:=c 0 _ rfl;rwa [add_zero] at this,_,c 1 _ rfl,_,c 2 _ rfl,_,c 3 _ rfl,_,c 4 _ rfl,_,c 5 _ rfl,d⟩
structure bF where
 steps:Sl
 az:Int
 status:Int
 next:Int
 bd:Int
 asked:Int
 taken:Int
 fresh:Bool
 au:Sl
 ak:Sl
 cancel:Bool
 aQ:Bool
abbrev bF.l(x:bF):List J0:= [J4 x.steps.p x.steps.len x.steps.cap,J6 J9 x.az,J6 J9 x.status,J6 J9 x.next,J6 J9 x.bd,J6 J9 x.asked,J6 J9 x.taken,J3 x.fresh,J4 x.au.p x.au.len x.au.cap,J4 x.ak.p x.ak.len x.ak.cap,J3 x.cancel,J3 x.aQ]
abbrev bF.c(x:bF):Array J0:= #[J4 x.steps.p x.steps.len x.steps.cap,J6 J9 x.az,J6 J9 x.status,J6 J9 x.next,J6 J9 x.bd,J6 J9 x.asked,J6 J9 x.taken,J3 x.fresh,J4 x.au.p x.au.len x.au.cap,J4 x.ak.p x.ak.len x.ak.cap,J3 x.cancel,J3 x.aQ]
abbrev bF.v(x:bF):J0:= .agg #[J4 x.steps.p x.steps.len x.steps.cap,J6 J9 x.az,J6 J9 x.status,J6 J9 x.next,J6 J9 x.bd,J6 J9 x.asked,J6 J9 x.taken,J3 x.fresh,J4 x.au.p x.au.len x.au.cap,J4 x.ak.p x.ak.len x.ak.cap,J3 x.cancel,J3 x.aQ]
abbrev bF.z:bF:=⟨⟨none,0,0⟩,0,0,0,0,0,0,false,⟨none,0,0⟩,⟨none,0,0⟩,false,false⟩
abbrev bF.s:List Sc:= [.sl,.int J9,.int J9,.int J9,.int J9,.int J9,.int J9,.bool,.sl,.sl,.bool,.bool]
abbrev bF.T:Type:=Sl×Int×Int×Int×Int×Int×Int×Bool×Sl×Sl×Bool×Bool×Unit
abbrev bF.t(x:bF):bF.T:=(x.steps,x.az,x.status,x.next,x.bd,x.asked,x.taken,x.fresh,x.au,x.ak,x.cancel,x.aQ,())
def Hw(K:bF->Prop):Prop:= ∃a:Sl,∃b:Int,∃c:Int,∃d:Int,∃e:Int,∃f:Int,∃g:Int,∃h:Bool,∃i:Sl,∃j:Sl,∃k:Bool,∃l:Bool,K ⟨a,b,c,d,e,f,g,h,i,j,k,l⟩
theorem Hw.mk {K:bF->Prop}(x:bF)(a:K x):Hw K:=⟨x.steps,x.az,x.status,x.next,x.bd,x.asked,x.taken,x.fresh,x.au,x.ak,x.cancel,x.aQ,a⟩
def Az(b:aa)(a:Q6)(K:bF->Prop):Prop:=
 Aa b a λc=>
 AC J9 b (a.add 1) λd=>
 AC J9 b (a.add 2) λe=>
 AC J9 b (a.add 3) λf=>
 AC J9 b (a.add 4) λg=>
 AC J9 b (a.add 5) λh=>
 AC J9 b (a.add 6) λi=>
 AZ b (a.add 7) λj=>
 Aa b (a.add 8) λk=>
 Aa b (a.add 9) λl=>
 AZ b (a.add 10) λm=>
 AZ b (a.add 11) λn=>
 K ⟨c,d,e,f,g,h,i,j,k,l,m,n⟩
theorem Az.mk {b:aa}{a:Q6}{K:bF->Prop}(x:bF)(c:Cells b a x.l)(d:K x):Az b a K:=
 ⟨_,by have:=c 0 _ rfl;rwa [add_zero] at this,_,c 1 _ rfl,_,c 2 _ rfl,_,c 3 _ rfl,_,c 4 _ rfl,_,c 5 _ rfl,_,c 6 _ rfl,_,c 7 _ rfl,_,c 8 _ rfl,_,c 9 _ rfl,_,c 10 _ rfl,_,c 11 _ rfl,d⟩
structure cQ where
 status:Int
 next:Int
 kept:Bool
abbrev cQ.l(x:cQ):List J0:= [J6 J9 x.status,J6 J9 x.next,J3 x.kept]
abbrev cQ.c(x:cQ):Array J0:= #[J6 J9 x.status,J6 J9 x.next,J3 x.kept]
abbrev cQ.v(x:cQ):J0:= .agg #[J6 J9 x.status,J6 J9 x.next,J3 x.kept]
abbrev cQ.z:cQ:=⟨0,0,false⟩
abbrev cQ.s:List Sc:= [.int J9,.int J9,.bool]
abbrev cQ.T:Type:=Int×Int×Bool×Unit
abbrev cQ.t(x:cQ):cQ.T:=(x.status,x.next,x.kept,())
def mN(K:cQ->Prop):Prop:= ∃a:Int,∃b:Int,∃c:Bool,K ⟨a,b,c⟩
theorem mN.mk {K:cQ->Prop}(x:cQ)(a:K x):mN K:=⟨x.status,x.next,x.kept,a⟩
def Jz(b:aa)(a:Q6)(K:cQ->Prop):Prop:=
 AC J9 b a λc=>
 AC J9 b (a.add 1) λd=>
 AZ b (a.add 2) λe=>
 K ⟨c,d,e⟩
theorem Jz.mk {b:aa}{a:Q6}{K:cQ->Prop}(x:cQ)(c:Cells b a x.l)(d:K x):Jz b a K:=
 ⟨_,by have:=c 0 _ rfl;rwa [add_zero] at this,_,c 1 _ rfl,_,c 2 _ rfl,d⟩
structure bX where
 wid:A2M
 aq:Int
 me:cQ
 cF:Sl
 st:bF
abbrev bX.l(x:bX):List J0:= [J7 x.wid,J6 J9 x.aq,J6 J9 x.me.status,J6 J9 x.me.next,J3 x.me.kept,J4 x.cF.p x.cF.len x.cF.cap,J4 x.st.steps.p x.st.steps.len x.st.steps.cap,J6 J9 x.st.az,J6 J9 x.st.status,J6 J9 x.st.next,J6 J9 x.st.bd,J6 J9 x.st.asked,J6 J9 x.st.taken,J3 x.st.fresh,J4 x.st.au.p x.st.au.len x.st.au.cap,J4 x.st.ak.p x.st.ak.len x.st.ak.cap,J3 x.st.cancel,J3 x.st.aQ]
abbrev bX.c(x:bX):Array J0:= #[J7 x.wid,J6 J9 x.aq,J6 J9 x.me.status,J6 J9 x.me.next,J3 x.me.kept,J4 x.cF.p x.cF.len x.cF.cap,J4 x.st.steps.p x.st.steps.len x.st.steps.cap,J6 J9 x.st.az,J6 J9 x.st.status,J6 J9 x.st.next,J6 J9 x.st.bd,J6 J9 x.st.asked,J6 J9 x.st.taken,J3 x.st.fresh,J4 x.st.au.p x.st.au.len x.st.au.cap,J4 x.st.ak.p x.st.ak.len x.st.ak.cap,J3 x.st.cancel,J3 x.st.aQ]
abbrev bX.v(x:bX):J0:= .agg #[J7 x.wid,J6 J9 x.aq,J6 J9 x.me.status,J6 J9 x.me.next,J3 x.me.kept,J4 x.cF.p x.cF.len x.cF.cap,J4 x.st.steps.p x.st.steps.len x.st.steps.cap,J6 J9 x.st.az,J6 J9 x.st.status,J6 J9 x.st.next,J6 J9 x.st.bd,J6 J9 x.st.asked,J6 J9 x.st.taken,J3 x.st.fresh,J4 x.st.au.p x.st.au.len x.st.au.cap,J4 x.st.ak.p x.st.ak.len x.st.ak.cap,J3 x.st.cancel,J3 x.st.aQ]
abbrev bX.z:bX:=⟨⟨#[]⟩,0,⟨0,0,false⟩,⟨none,0,0⟩,⟨⟨none,0,0⟩,0,0,0,0,0,0,false,⟨none,0,0⟩,⟨none,0,0⟩,false,false⟩⟩
abbrev bX.s:List Sc:= [.str,.int J9,.int J9,.int J9,.bool,.sl,.sl,.int J9,.int J9,.int J9,.int J9,.int J9,.int J9,.bool,.sl,.sl,.bool,.bool]
abbrev bX.T:Type:=A2M×Int×Int×Int×Bool×Sl×Sl×Int×Int×Int×Int×Int×Int×Bool×Sl×Sl×Bool×Bool×Unit
abbrev bX.t(x:bX):bX.T:=(x.wid,x.aq,x.me.status,x.me.next,x.me.kept,x.cF,x.st.steps,x.st.az,x.st.status,x.st.next,x.st.bd,x.st.asked,x.st.taken,x.st.fresh,x.st.au,x.st.ak,x.st.cancel,x.st.aQ,())
def Qo(K:bX->Prop):Prop:= ∃a:A2M,∃b:Int,∃c:Int,∃d:Int,∃e:Bool,∃f:Sl,∃g:Sl,∃h:Int,∃i:Int,∃j:Int,∃k:Int,∃l:Int,∃m:Int,∃n:Bool,∃o:Sl,∃p:Sl,∃q:Bool,∃r:Bool,K ⟨a,b,⟨c,d,e⟩,f,⟨g,h,i,j,k,l,m,n,o,p,q,r⟩⟩
theorem Qo.mk {K:bX->Prop}(x:bX)(a:K x):Qo K:=⟨x.wid,x.aq,x.me.status,x.me.next,x.me.kept,x.cF,x.st.steps,x.st.az,x.st.status,x.st.next,x.st.bd,x.st.asked,x.st.taken,x.st.fresh,x.st.au,x.st.ak,x.st.cancel,x.st.aQ,a⟩
def I7(b:aa)(a:Q6)(K:bX->Prop):Prop:=
 AJ b a λc=>
 AC J9 b (a.add 1) λd=>
 AC J9 b (a.add 2) λe=>
 AC J9 b (a.add 3) λf=>
 AZ b (a.add 4) λg=>
 Aa b (a.add 5) λh=>
 Aa b (a.add 6) λi=>
 AC J9 b (a.add 7) λj=>
 AC J9 b (a.add 8) λk=>
 AC J9 b (a.add 9) λl=>
 AC J9 b (a.add 10) λm=>
 AC J9 b (a.add 11) λn=>
 AC J9 b (a.add 12) λo=>
 AZ b (a.add 13) λp=>
 Aa b (a.add 14) λq=>
 Aa b (a.add 15) λr=>
 AZ b (a.add 16) λs=>
 AZ b (a.add 17) λt=>
 K ⟨c,d,⟨e,f,g⟩,h,⟨i,j,k,l,m,n,o,p,q,r,s,t⟩⟩
theorem I7.mk {b:aa}{a:Q6}{K:bX->Prop}(x:bX)(c:Cells b a x.l)(d:K x):I7 b a K:=
 ⟨_,by have:=c 0 _ rfl;rwa [add_zero] at this,_,c 1 _ rfl,_,c 2 _ rfl,_,c 3 _ rfl,_,c 4 _ rfl,_,c 5 _ rfl,_,c 6 _ rfl,_,c 7 _ rfl,_,c 8 _ rfl,_,c 9 _ rfl,_,c 10 _ rfl,_,c 11 _ rfl,_,c 12 _ rfl,_,c 13 _ rfl,_,c 14 _ rfl,_,c 15 _ rfl,_,c 16 _ rfl,_,c 17 _ rfl,d⟩
structure dx where
 kind:Int
 wid:A2M
 ref:Int
 turn:Int
abbrev dx.l(x:dx):List J0:= [J6 J9 x.kind,J7 x.wid,J6 J9 x.ref,J6 J9 x.turn]
abbrev dx.c(x:dx):Array J0:= #[J6 J9 x.kind,J7 x.wid,J6 J9 x.ref,J6 J9 x.turn]
abbrev dx.v(x:dx):J0:= .agg #[J6 J9 x.kind,J7 x.wid,J6 J9 x.ref,J6 J9 x.turn]
abbrev dx.z:dx:=⟨0,⟨#[]⟩,0,0⟩
abbrev dx.s:List Sc:= [.int J9,.str,.int J9,.int J9]
abbrev dx.T:Type:=Int×A2M×Int×Int×Unit
abbrev dx.t(x:dx):dx.T:=(x.kind,x.wid,x.ref,x.turn,())
def jk(b:aa)(a:Q6)(K:dx->Prop):Prop:=
 AC J9 b a λc=>
 AJ b (a.add 1) λd=>
 AC J9 b (a.add 2) λe=>
 AC J9 b (a.add 3) λf=>
 K ⟨c,d,e,f⟩
theorem jk.mk {b:aa}{a:Q6}{K:dx->Prop}(x:dx)(c:Cells b a x.l)(d:K x):jk b a K:=
 ⟨_,by have:=c 0 _ rfl;rwa [add_zero] at this,_,c 1 _ rfl,_,c 2 _ rfl,_,c 3 _ rfl,d⟩
structure cp where
 kind:Int
 aV:A2M
 wid:A2M
 name:A2M
 steps:Sl
 az:Int
 cM:Sl
 ref:Int
 turn:Int
 aW:Int
 aq:Int
 aR:Bool
abbrev cp.l(x:cp):List J0:= [J6 J9 x.kind,J7 x.aV,J7 x.wid,J7 x.name,J4 x.steps.p x.steps.len x.steps.cap,J6 J9 x.az,J4 x.cM.p x.cM.len x.cM.cap,J6 J9 x.ref,J6 J9 x.turn,J6 J9 x.aW,J6 J9 x.aq,J3 x.aR]
abbrev cp.c(x:cp):Array J0:= #[J6 J9 x.kind,J7 x.aV,J7 x.wid,J7 x.name,J4 x.steps.p x.steps.len x.steps.cap,J6 J9 x.az,J4 x.cM.p x.cM.len x.cM.cap,J6 J9 x.ref,J6 J9 x.turn,J6 J9 x.aW,J6 J9 x.aq,J3 x.aR]
abbrev cp.v(x:cp):J0:= .agg #[J6 J9 x.kind,J7 x.aV,J7 x.wid,J7 x.name,J4 x.steps.p x.steps.len x.steps.cap,J6 J9 x.az,J4 x.cM.p x.cM.len x.cM.cap,J6 J9 x.ref,J6 J9 x.turn,J6 J9 x.aW,J6 J9 x.aq,J3 x.aR]
abbrev cp.z:cp:=⟨0,⟨#[]⟩,⟨#[]⟩,⟨#[]⟩,⟨none,0,0⟩,0,⟨none,0,0⟩,0,0,0,0,false⟩
abbrev cp.s:List Sc:= [.int J9,.str,.str,.str,.sl,.int J9,.sl,.int J9,.int J9,.int J9,.int J9,.bool]
abbrev cp.T:Type:=Int×A2M×A2M×A2M×Sl×Int×Sl×Int×Int×Int×Int×Bool×Unit
abbrev cp.t(x:cp):cp.T:=(x.kind,x.aV,x.wid,x.name,x.steps,x.az,x.cM,x.ref,x.turn,x.aW,x.aq,x.aR,())
def oU(b:aa)(a:Q6)(K:cp->Prop):Prop:=
 AC J9 b a λc=>
 AJ b (a.add 1) λd=>
 AJ b (a.add 2) λe=>
 AJ b (a.add 3) λf=>
 Aa b (a.add 4) λg=>
 AC J9 b (a.add 5) λh=>
 Aa b (a.add 6) λi=>
 AC J9 b (a.add 7) λj=>
 AC J9 b (a.add 8) λk=>
 AC J9 b (a.add 9) λl=>
 AC J9 b (a.add 10) λm=>
 AZ b (a.add 11) λn=>
 K ⟨c,d,e,f,g,h,i,j,k,l,m,n⟩
theorem oU.mk {b:aa}{a:Q6}{K:cp->Prop}(x:cp)(c:Cells b a x.l)(d:K x):oU b a K:=
 ⟨_,by have:=c 0 _ rfl;rwa [add_zero] at this,_,c 1 _ rfl,_,c 2 _ rfl,_,c 3 _ rfl,_,c 4 _ rfl,_,c 5 _ rfl,_,c 6 _ rfl,_,c 7 _ rfl,_,c 8 _ rfl,_,c 9 _ rfl,_,c 10 _ rfl,_,c 11 _ rfl,d⟩
structure bV where
 err:Int
 status:Int
 next:Int
 task:dx
 name:A2M
 cF:Sl
abbrev bV.l(x:bV):List J0:= [J6 J9 x.err,J6 J9 x.status,J6 J9 x.next,J6 J9 x.task.kind,J7 x.task.wid,J6 J9 x.task.ref,J6 J9 x.task.turn,J7 x.name,J4 x.cF.p x.cF.len x.cF.cap]
abbrev bV.c(x:bV):Array J0:= #[J6 J9 x.err,J6 J9 x.status,J6 J9 x.next,J6 J9 x.task.kind,J7 x.task.wid,J6 J9 x.task.ref,J6 J9 x.task.turn,J7 x.name,J4 x.cF.p x.cF.len x.cF.cap]
abbrev bV.v(x:bV):J0:= .agg #[J6 J9 x.err,J6 J9 x.status,J6 J9 x.next,J6 J9 x.task.kind,J7 x.task.wid,J6 J9 x.task.ref,J6 J9 x.task.turn,J7 x.name,J4 x.cF.p x.cF.len x.cF.cap]
abbrev bV.z:bV:=⟨0,0,0,⟨0,⟨#[]⟩,0,0⟩,⟨#[]⟩,⟨none,0,0⟩⟩
abbrev bV.s:List Sc:= [.int J9,.int J9,.int J9,.int J9,.str,.int J9,.int J9,.str,.sl]
abbrev bV.T:Type:=Int×Int×Int×Int×A2M×Int×Int×A2M×Sl×Unit
abbrev bV.t(x:bV):bV.T:=(x.err,x.status,x.next,x.task.kind,x.task.wid,x.task.ref,x.task.turn,x.name,x.cF,())
def KZ(K:bV->Prop):Prop:= ∃a:Int,∃b:Int,∃c:Int,∃d:Int,∃e:A2M,∃f:Int,∃g:Int,∃h:A2M,∃i:Sl,K ⟨a,b,c,⟨d,e,f,g⟩,h,i⟩
theorem KZ.mk {K:bV->Prop}(x:bV)(a:K x):KZ K:=⟨x.err,x.status,x.next,x.task.kind,x.task.wid,x.task.ref,x.task.turn,x.name,x.cF,a⟩
def GR(b:aa)(a:Q6)(K:bV->Prop):Prop:=
 AC J9 b a λc=>
 AC J9 b (a.add 1) λd=>
 AC J9 b (a.add 2) λe=>
 AC J9 b (a.add 3) λf=>
 AJ b (a.add 4) λg=>
 AC J9 b (a.add 5) λh=>
 AC J9 b (a.add 6) λi=>
 AJ b (a.add 7) λj=>
 Aa b (a.add 8) λk=>
 K ⟨c,d,e,⟨f,g,h,i⟩,j,k⟩
theorem GR.mk {b:aa}{a:Q6}{K:bV->Prop}(x:bV)(c:Cells b a x.l)(d:K x):GR b a K:=
 ⟨_,by have:=c 0 _ rfl;rwa [add_zero] at this,_,c 1 _ rfl,_,c 2 _ rfl,_,c 3 _ rfl,_,c 4 _ rfl,_,c 5 _ rfl,_,c 6 _ rfl,_,c 7 _ rfl,_,c 8 _ rfl,d⟩
structure gr where
 wait:Int
 q:cp
 take:Bool
 iJ:Bool
abbrev gr.l(x:gr):List J0:= [J6 J9 x.wait,J6 J9 x.q.kind,J7 x.q.aV,J7 x.q.wid,J7 x.q.name,J4 x.q.steps.p x.q.steps.len x.q.steps.cap,J6 J9 x.q.az,J4 x.q.cM.p x.q.cM.len x.q.cM.cap,J6 J9 x.q.ref,J6 J9 x.q.turn,J6 J9 x.q.aW,J6 J9 x.q.aq,J3 x.q.aR,J3 x.take,J3 x.iJ]
abbrev gr.c(x:gr):Array J0:= #[J6 J9 x.wait,J6 J9 x.q.kind,J7 x.q.aV,J7 x.q.wid,J7 x.q.name,J4 x.q.steps.p x.q.steps.len x.q.steps.cap,J6 J9 x.q.az,J4 x.q.cM.p x.q.cM.len x.q.cM.cap,J6 J9 x.q.ref,J6 J9 x.q.turn,J6 J9 x.q.aW,J6 J9 x.q.aq,J3 x.q.aR,J3 x.take,J3 x.iJ]
abbrev gr.v(x:gr):J0:= .agg #[J6 J9 x.wait,J6 J9 x.q.kind,J7 x.q.aV,J7 x.q.wid,J7 x.q.name,J4 x.q.steps.p x.q.steps.len x.q.steps.cap,J6 J9 x.q.az,J4 x.q.cM.p x.q.cM.len x.q.cM.cap,J6 J9 x.q.ref,J6 J9 x.q.turn,J6 J9 x.q.aW,J6 J9 x.q.aq,J3 x.q.aR,J3 x.take,J3 x.iJ]
abbrev gr.z:gr:=⟨0,⟨0,⟨#[]⟩,⟨#[]⟩,⟨#[]⟩,⟨none,0,0⟩,0,⟨none,0,0⟩,0,0,0,0,false⟩,false,false⟩
abbrev gr.s:List Sc:= [.int J9,.int J9,.str,.str,.str,.sl,.int J9,.sl,.int J9,.int J9,.int J9,.int J9,.bool,.bool,.bool]
abbrev gr.T:Type:=Int×Int×A2M×A2M×A2M×Sl×Int×Sl×Int×Int×Int×Int×Bool×Bool×Bool×Unit
abbrev gr.t(x:gr):gr.T:=(x.wait,x.q.kind,x.q.aV,x.q.wid,x.q.name,x.q.steps,x.q.az,x.q.cM,x.q.ref,x.q.turn,x.q.aW,x.q.aq,x.q.aR,x.take,x.iJ,())
structure gu where
 key:A2M
 val:A2M
 ref:Int
 turn:Int
 aR:Bool
abbrev gu.l(x:gu):List J0:= [J7 x.key,J7 x.val,J6 J9 x.ref,J6 J9 x.turn,J3 x.aR]
abbrev gu.c(x:gu):Array J0:= #[J7 x.key,J7 x.val,J6 J9 x.ref,J6 J9 x.turn,J3 x.aR]
abbrev gu.v(x:gu):J0:= .agg #[J7 x.key,J7 x.val,J6 J9 x.ref,J6 J9 x.turn,J3 x.aR]
abbrev gu.z:gu:=⟨⟨#[]⟩,⟨#[]⟩,0,0,false⟩
abbrev gu.s:List Sc:= [.str,.str,.int J9,.int J9,.bool]
abbrev gu.T:Type:=A2M×A2M×Int×Int×Bool×Unit
abbrev gu.t(x:gu):gu.T:=(x.key,x.val,x.ref,x.turn,x.aR,())
end Go.Lf
namespace Go.Lf.G
abbrev AU:bT:= .none
abbrev AO(a b:bT):bT:= .seq a b
def CX:Nat->bT->bT
 |0,x=>x
 |n+1,x=> .seq .none (CX n x)
abbrev Bo:bT:=AO AU AU
abbrev EH:bT:= .cond Bo AU
abbrev F6:bT:= .cond AU AU
abbrev Ct:bT:=AO AU EH
abbrev Fz:bT:=AO AU F6
abbrev FN:bT:=CX 2 AU
abbrev iO:bT:=AO Ct Bo
abbrev RB:bT:=AO AU iO
abbrev MF:bT:=CX 2 EH
abbrev kU:bT:=AO AU (AO F6 (AO (.block MF) AU))
abbrev jd:bT:=AO AU (AO F6 (AO (.block Bo) AU))
abbrev od:bT:=AO AU (.cond AU Fz)
abbrev mu:bT:=AO AU (.cond AU od)
abbrev og:bT:=AO Ct AU
abbrev om:bT:=AO AU (AO F6 (AO (.block (CX 2 og)) AU))
abbrev qG:bT:=AO AU (AO (AO AU (.block (.loop [(8,.one (.int J9))] [0,1,7] kU))) Bo)
abbrev gy:bT:=CX 3 AU
abbrev mw:bT:=CX 4 AU
abbrev qH:bT:= .cond gy AU
abbrev uQ:bT:=CX 3 (AO Ct (AO AU (AO Ct (AO (AO AU (.cond mw AU)) (AO AU (AO (AO AU qH) gy))))))
abbrev oy:bT:=AO AU (AO F6 (AO (.block FN) AU))
abbrev qI:bT:=AO AU (.cond Bo Ct)
abbrev qJ:bT:= .block (AO AU (.cond Bo qI))
abbrev oA:bT:= .block AU
abbrev qK:bT:=AO AU (AO F6 (AO oA AU))
abbrev my:bT:= .cond FN AU
abbrev uR:bT:=AO AU (AO F6 (AO (.block (CX 3 EH)) AU))
abbrev mB:bT:=AO Ct FN
abbrev qL:bT:=AO AU (AO Ct iO)
abbrev kV:bT:=CX 2 F6
abbrev uS:bT:=AO (.bB [(13,.one .bool)] [0,1]) EH
abbrev uT:bT:=AO (.bB [(16,.one .bool)] [0,1]) EH
abbrev uU:bT:=AO (.bB [(19,.one .bool)] [0,1]) EH
abbrev oB:bT:=AO AU og
abbrev uV:bT:=AO Fz (AO (.block Ct) AU)
abbrev uW:bT:=AO AU (AO Ct gy)
theorem Ac {a:al}{f:Q8}{args:List J0}{b:aa}{c:A2L}{d:Prop}(e:bT)(g:d=qP a P f e args b c)(h:d):AA a P f args.toArray b c:=AHX mixed (g▸h)
end Go.Lf.G
