/-
 LIFT, part K: reasoning about heaps: what is kept, what lies where, slices that are read, slices that are owned.
-/
import Derived.Test.YtgpmoonnachoaaaGreatDoorLfAToN1
import Derived.Laws.FloatArith
import Derived.MapKept
import Derived.Maps.Own
import Derived.Lib.Bytealg
import Derived.Sort.KeysCollected
import Derived.StringKeys
import Derived.Laws.BytesString
import Derived.Laws.BytesArg
import Derived.Laws.StructEq
import Derived.ChangeKeysEq
set_option maxRecDepth 100000
set_option linter.unusedVariables false
set_option linter.unusedSimpArgs false
open Go.IntKind renaming i64→J9,wrap→J8
open Go.Value renaming string→J7,int→J6,pointer→J5,slice→J4,bool→J3,tuple→J1
open Go.Obj renaming cells→J2
open Go renaming Value→J0,Addr→Q6,TypeId→Q7,FuncId→Q8,Program→Q1
open Go.Addr renaming add→Q9,mk→Q5
namespace Go.Lf
theorem add_add(a:Q6)(m b:Nat):(a.add m).add b=a.add (m+b):=by
 unfold Addr.add;by_cases c:m=0
 ·subst c;simp
 ·by_cases d:b=0
  ·subst d;simp[c]
  ·have:m+b≠0:=by omega
   simp[c,d,HJ]
theorem add_zero(a:Q6):a.add 0=a:=by simp[Addr.add]
theorem aU(a:Q6)(b:Nat):(a.add b).block=a.block:=by unfold Addr.add;split<;>rfl
theorem Bq(b c a:Nat):(⟨b,c,none⟩:Q6).add a=⟨b,c+a,none⟩:=by unfold Addr.add;by_cases d:a=0<;>simp[d]
structure Mod (S:Nat->Prop) (h h':aa):Prop where
 size:h.size<=h'.size
 get: ∀b,b<h.size-> ¬S b->h'[b]? =h[b]?
abbrev Ext:=Mod (λ_=>False)
theorem Mod.refl {b:Nat->Prop}{a:aa}:Mod b a a:=⟨A0 _,λ_ _ _=>rfl⟩
theorem Mod.trans {d:Nat->Prop}{e f g:aa}(a:Mod d e f)(b:Mod d f g):Mod d e g:=
 ⟨As a.size b.size,λc h i=>(b.get c (F0 h a.size) i).trans (a.get c h i)⟩
theorem Mod.aj {e S':Nat->Prop}{d f:aa}(a:Mod e d f)(h: ∀b,b<d.size->e b->S' b):Mod S' d f:=⟨a.size,λc g i=>a.get c g λd=>i (h c g d)⟩
theorem Ext.mod {d:Nat->Prop}{b c:aa}(a:Ext b c):Mod d b c:=a.aj λ_ _ b=>b.elim
theorem Mod.then {e:Nat->Prop}{d f g:aa}(a:Mod e d f)(b:Mod (λc=>e c\/d.size<=c) f g):Mod e d g:=
 ⟨As a.size b.size,λc h i=>(b.get c (F0 h a.size) (λd=>d.elim i (λd=>by omega))).trans (a.get c h i)⟩
theorem Mod.push {d:Nat->Prop}(a:aa)(e:Obj):Mod d a (a.push e):=
 ⟨by simp,λb c _=>by rw[P3 c];simp[c]⟩
theorem Mod.ag {c:Nat->Prop}{d e:aa}(a:Mod c d e){b:Nat}{f:Obj}(g:d[b]? =some f)(h: ¬c b):e[b]? =some f:=
 (a.get b (Array.getElem?_eq_some_iff.1 g).1 h).trans g
theorem Ag {a:aa}{b:Nat}{c:Obj}(d:a[b]? =some c):b<a.size:=(Array.getElem?_eq_some_iff.1 d).1
theorem Vk {b:aa}{a:Q6}{v:J0}(c:ah b a=some v):a.block<b.size:=by
 unfold ah at c;cases d:b[a.block]? with
 |none=>rw[d] at c;cases c
 |some e=>exact Ag d
theorem Qy {b c:aa}{a:Q6}(d:c[a.block]? =b[a.block]?):ah c a=ah b a:=by unfold ah;rw[d]
theorem Mod.ah {b:Nat->Prop}{c d:aa}(m:Mod b c d){a:Q6}{v:J0}(e:ah c a=some v)(f: ¬b a.block):Lf.ah d a=some v:=
 (Qy (m.get _ (Vk e) f)).trans e
theorem Ext.ah {b c:aa}(m:Ext b c){a:Q6}{v:J0}(d:Lf.ah b a=some v):Lf.ah c a=some v:=Mod.ah m d (λb=>b)
theorem KZ {a:aa}{b c:Nat}{d:Array J0}{T:Q7}{fr:Nat×Nat}(e:a[b]? =some (.cells d T fr)):ah a ⟨b,c,none⟩=d[c]? :=by simp[ah,e]
theorem TE {a:aa}{b c:Nat}{d:Array J0}{T:Q7}(e:a[b]? =some (.cells d T (0,0))):gw a ⟨b,c,none⟩=false:=by simp[gw,e]
theorem wg {a:aa}{b c:Nat}{d:Array J0}{T:Q7}{fr:Nat×Nat}{v:J0}(e:a[b]? =some (.cells d T fr)):
  (dx a ⟨b,c,none⟩ v)[b]? =some (.cells (d.setIfInBounds c v) T fr):=by
 simp[dx,HS,e]
theorem AK5 {b:aa}{a:Q6}{v:J0}{c:Nat}(d:c≠a.block):(dx b a v)[c]? =b[c]? :=by simp[dx,HS,Ne.symm d]
theorem ra {b:aa}{a:Q6}{v:J0}:(dx b a v).size=b.size:=by simp[dx]
theorem Mod.set {S:Nat->Prop}{b:aa}{a:Q6}{v:J0}(c:S a.block):Mod S b (dx b a v):=
 ⟨by rw[ra];exact A0 _,λ_ _ d=>AK5 (λe=>d (e▸c))⟩
theorem ao.mk {a:aa}{c:Obj}{K:Nat->aa->Prop}(d: ∀b,b=a.push c->b[a.size]? =some c->Ext a b->b.size=a.size+1->K a.size b):ao a c K:=
 d _ rfl (by simp) (Mod.push a c) (by simp)
theorem ae.mk {a:aa}{b c:Nat}{v:J0}{d:Array J0}{T:Q7}{K:aa->Prop}(f:a[b]? =some (.cells d T (0,0)))(g:c<d.size)
  (h: ∀e,e[b]? =some (.cells (d.setIfInBounds c v) T (0,0))->Mod (· =b) a e->e.size=a.size->K e):ae a ⟨b,c,none⟩ v K:=
 ⟨⟨d[c],by rw[KZ f];simp[g]⟩,TE f,h _ (wg f) (Mod.set rfl) ra⟩
theorem af.intro {b:Bool}{a c:Prop}(d:b=true->a)(e:b=false->c):af b a c:=by
 cases b
 ·exact e rfl
 ·exact d rfl
theorem af.yes {b:Bool}{a c:Prop}(d:b=true)(e:a):af b a c:=by subst d;exact e
theorem af.no {b:Bool}{c a:Prop}(d:b=false)(e:a):af b c a:=by subst d;exact e
theorem bJ.mk {p:Q2}{len:Nat}{a:Q6}{k:Nat}{K:Q6->Prop}(b:p=some a)(d:k<len)(c:K a):bJ p len (k:Int) K:=
 ⟨a,b,⟨by omega,by omega⟩,c⟩
theorem Zl.mk {b:Bool}{K:Prop}(a:b=true)(c:K):Zl b K:=by subst a;exact c
theorem ai.mk {a:Type}{b:a->aa->Prop}{body:(a->aa->Prop)->Prop}(d: ∀K:a->aa->Prop,(∀ x c,b x c->K x c)->body K):ai b body:=d
theorem F4.func {A:ak}{P:Q1}{f:Q8}{first cp args:Array J0}{h:aa}{R:A2H}
  (c:(callFunc f (first++args++cp)).calc P=some (.enter f (first++args++cp))) (d:AA A P f (first++args++cp) h R):F4 A P (.func (.func f) first cp) args h R:=by
 intro a;have e:=Da c (A.at h a);have g:(do let b <-Deferred.ofValue (.func (.func f) first cp) args;invoke b.target b.args:Sem Next).run P (A.at h a)= .ok (.enter f (first++args++cp)) (A.at h a):=by simp only[Deferred.ofValue,Sem.run_bind,Sem.run_pure,Result.andThen_ok,invoke];exact e
 rw[g];exact d a
theorem mu.mk {a:ak}{P:Q1}{f:Q8}{c:J0}{name:String}{args cX:Array J0}{b:aa}{d:A2H}
  (e:(callMethod c name args).calc P=some (.enter f cX)) (g:AA a P f cX b d):mu a P c name args b d:=by
 intro n;rw[Da e (a.at b n)];exact g n
structure cL (α:Type) where
 enc:α->List J0
 w:Nat
 len: ∀x,(enc x).length=w
 pos:0<w
 one: ∀x v,v∈enc x->NW v=true
variable {α : Type}
def Cells(c:aa)(a:Q6)(d:List J0):Prop:= ∀b v,d[b]? =some v->ah c (a.add b)=some v
theorem Cells.mod {b:Nat->Prop}{d e:aa}{a:Q6}{f:List J0}(c:Cells d a f)(m:Mod b d e)(g: ¬b a.block):Cells e a f:=
 λh v i=>m.ah (c h v i) (by rw[aU];exact g)
structure View (E:cL α) (h:aa) (s:Sl) (l:List α):Prop where
 len:s.len=l.length
 cap:s.len<=s.cap
 cells: ∀i x,l[i]? =some x-> ∃a,s.p=some a/\Cells h (a.add (i*E.w)) (E.enc x)
def Sl.ag(s:Sl):Option Nat:=s.p.map (·.block)
theorem View.mod {c:cL α}{d:Nat->Prop}{e f:aa}{s:Sl}{l:List α}(v:View c e s l)(m:Mod d e f)(h: ∀b,s.ag=some b-> ¬d b):View c f s l:=
 ⟨v.len,v.cap,λi x j=>let ⟨a,g,k⟩:=v.cells i x j;⟨a,g,k.mod m (by rw[aU];exact h _ (by simp[Sl.ag,g]))⟩⟩
theorem View.ext {b:cL α}{a c:aa}{s:Sl}{l:List α}(v:View b a s l)(m:Ext a c):View b c s l:=v.mod m λ_ _ a=>a
theorem View.nil {b:cL α}{a:aa}:View b a ⟨none,0,0⟩ []:=⟨rfl,A0 _,λ_ _ a=>by simp at a⟩
structure Own (E:cL α) (T:Q7) (h:aa) (s:Sl) (l:List α):Prop where
 len:s.len=l.length
 row:(s=⟨none,0,0⟩/\l= [])\/ ∃g cur,s.p=some ⟨g,0,none⟩/\h[g]? =some (.cells cur T (0,0))/\s.len<=s.cap/\s.cap<=maxLen/\cur.size=s.cap*E.w/\cur.toList.take (s.len*E.w)=l.flatMap E.enc
theorem Own.nil {a:cL α}{T:Q7}{b:aa}:Own a T b ⟨none,0,0⟩ []:=⟨rfl,.inl ⟨rfl,rfl⟩⟩
theorem dL {E:cL α}: ∀ {l:List α} {i:Nat} {x:α},l[i]? =some x-> ∀a v,(E.enc x)[a]? =some v->(l.flatMap E.enc)[i*E.w+a]? =some v
 | [],i,x,b,_,_,_=>by simp at b
 |y::l,0,x,b,a,v,c=>by
  simp at b;subst b;rw[AH,HT,AI,G3 (List.getElem?_eq_some_iff.1 c).1];exact c
 |y::l,i+1,x,b,a,v,c=>by
  have d:=dL (E:=E) (l:=l) (i:=i) (by simpa using b) a v c;rw[AH,Ek (by rw[E.len,Dd];omega),E.len];rw[show(i+1)*E.w+a-E.w=i*E.w+a by rw[Dd];omega];exact d
theorem Kz {E:cL α}: ∀ {l:List α},(l.flatMap E.enc).length=l.length*E.w
 | []=>by simp
 |x::l=>by rw[AH,A1,Kz,E.len,A6,Dd];omega
theorem Own.view {E:cL α}{T:Q7}{a:aa}{s:Sl}{l:List α}(b:Own E T a s l):View E a s l:=by
 rcases b.row with⟨rfl,rfl⟩|⟨g,m,c,d,e,_,n,f⟩
 ·exact View.nil
 ·refine⟨b.len,e,λi x h=>⟨_,c,λj v k=>?_⟩⟩;have:=dL (E:=E) h j v k;rw[<- f,Fm] at this;split at this
  ·rw[add_add,Bq,KZ d];simpa using this
  ·cases this
theorem Own.mod {a:cL α}{T:Q7}{c:Nat->Prop}{d e:aa}{s:Sl}{l:List α}(f:Own a T d s l)(m:Mod c d e)(i: ∀b,s.ag=some b-> ¬c b):Own a T e s l:=by
 refine⟨f.len,?_⟩;rcases f.row with j|⟨g,k,h,n,rest⟩
 ·exact .inl j
 ·exact .inr ⟨g,k,h,m.ag n (i g (by simp[Sl.ag,h])),rest⟩
theorem Own.ext {b:cL α}{T:Q7}{a c:aa}{s:Sl}{l:List α}(d:Own b T a s l)(m:Ext a c):Own b T c s l:=d.mod m λ_ _ a=>a
theorem Own.lit {E:cL α}{T:Q7}{c:aa}{b:Nat}{l:List α}{a:Array J0}(e:c[b]? =some (.cells a T (0,0)))(d:a.toList=l.flatMap E.enc)(f:l.length<=maxLen):
  Own E T c ⟨some ⟨b,0,none⟩,l.length,l.length⟩ l:=by
 have g:a.size=l.length*E.w:=by rw[<- Hk,d,Kz]
 exact⟨rfl,.inr ⟨b,a,rfl,e,A0 _,f,g,by rw[d];exact AE (by rw[Kz];exact A0 _)⟩⟩
def Ra(P:Q1)(t T:Q7)(a b:Nat):Bool:=
 match P.underlying t with
 |some (.slice c)=>Nat.beq c T&&match P.info? T with
  |some i=>Nat.beq i.size a&&Nat.beq i.bytes b&&match i.zero with
   |some z=>Nat.beq z.cells.size a
   |none=>false
  |none=>false
 |_=>false
theorem wh {P:Q1}{t T:Q7}{b c:Nat}(a:Ra P t T b c=true):
  P.underlying t=some (.slice T)/\ ∃i z,P.info? T=some i/\i.zero=some z/\i.size=b/\i.bytes=c/\z.cells.size=b:=by
 unfold Ra at a;split at a
 ·rename_i h d;split at a
  ·rename_i i e;split at a
   ·rename_i z f;simp only[A3,Nat.beq_eq] at a;obtain⟨rfl,⟨rfl,rfl⟩,g⟩:=a;exact⟨d,i,z,e,f,rfl,rfl,g⟩
   ·simp at a
  ·simp at a
 ·simp at a
theorem wk {A:ak}{b a:World}{h:aa}{n:Nat}(c:b=A.at h n)(d:a.os=b.os)(e:a.tape=b.tape)(f:a.output=b.output):a=A.at a.heap a.drawn:=by
 subst c;cases a;simp only[ak.at] at*
 simp[d,e,f]
theorem wm {v:J0}(a:NW v=true):v.oneCell'=true:=by cases v<;>first|rfl|(simp[NW] at a)
theorem Own.lW {a:cL α}{T:Q7}{A:ak}{b:aa}{s:Sl}{l:List α}{n:Nat}(c:Own a T b s l):(A.at b n).ownsRow 0 T a.w (.slice s.p s.len s.cap) s.len (l.flatMap a.enc):=by
 refine⟨by rw[Kz,c.len],?_⟩;rcases c.row with⟨rfl,rfl⟩|⟨g,d,e,f,h,i,j,k⟩
 ·exact .inl ⟨rfl,rfl⟩
 ·exact .inr ⟨g,s.cap,d,by rw[e],A5 _,f,h,i,j,k⟩
theorem AIE {a:cL α}{T:Q7}{c:World}{v:J0}{b:Nat}{l:List α}(d:c.ownsRow 0 T a.w v b (l.flatMap a.enc))(e:b=l.length):
  ∃s:Sl,v= .slice s.p s.len s.cap/\Own a T c.heap s l/\(v= .slice none 0 0->s=⟨none,0,0⟩):=by
 rcases d.2 with⟨rfl,p⟩|⟨g,f,h,rfl,_,i,j,k,m,n⟩
 ·have:l= []:=DA (by omega);subst this;exact⟨⟨none,0,0⟩,rfl,Own.nil,λ_=>rfl⟩
 ·refine⟨⟨some ⟨g,0,none⟩,b,f⟩,rfl,⟨e,.inr ⟨g,h,rfl,i,j,k,m,n⟩⟩,λo=>by cases o⟩
theorem GK {A:ak}{P:Q1}{E:cL α}{t p T:Q7}{M:Nat}(an:Ra P t T E.w M=true){d:aa}{s src:Sl}{l m:List α}{K:Sl->aa->Prop}
  (h:Own E T d s l) (N:View E d src m) (j:(l.length+m.length)*M<=140737488355328) (W:l.length+m.length<=maxLen)
  (X: ∀f B,Own E T B f (l++m)->Mod (λb=>s.ag=some b) d B->(∀ b,f.ag=some b->s.ag=some b\/d.size<=b)->(f.p=none↔s.p=none/\m= [])->K f B):
  BK A P (Builtin.append_ #[t,t] p #[.slice s.p s.len s.cap,.slice src.p src.len src.cap]) d λv B=> ∃f:Sl,v= .slice f.p f.len f.cap/\K f B:=by
 obtain⟨q,i,z,r,O,G,hB,ao⟩:=wh an;intro n;have Q:=N.len;by_cases R:m= []
 ·subst R;simp only[G4,AN,G0] at*
  have ap:(Builtin.append_ #[t,t] p #[.slice s.p s.len s.cap,.slice src.p src.len src.cap]).run P (A.at d n)= .ok (.slice s.p s.len s.cap) (A.at d n):=by
   have S:s.len<=s.cap:=h.view.cap;have w: ∀U:World,(Builtin.firstCells i.size 0 (.slice src.p 0 src.cap)).run P U= .ok #[] U:=by intro U;cases src.p<;>simp[Builtin.firstCells,loadCells,loadCellsFrom]
   cases o:s.p with
   |none=>simp[Builtin.append_,BL q,run_sizeOf r,Builtin.lenOf,Q,S,w]
   |some a=>simp[Builtin.append_,BL q,run_sizeOf r,Builtin.lenOf,Q,S,w,storeCells]
  exact⟨_,d,n,ap,s,rfl,X s d h Mod.refl (λb j=> .inl j) (by simp)⟩
 ·have Y:0<m.length:=List.length_pos_iff.2 R;obtain⟨a,Z,_⟩:=N.cells 0 m[0] (by simp[Y]);have H: ∀e u,(m.flatMap E.enc)[e]? =some u->(A.at d n).cell? (a.add e)=some u:=by
   intro e u ab;have aq:e<m.length*E.w:=by rw[<- Kz (E:=E)];exact(List.getElem?_eq_some_iff.1 ab).1
   have ar:e / E.w<m.length:=Nat.div_lt_of_lt_mul (by rw[CM];exact aq);have k:e % E.w<E.w:=Cp _ E.pos;have I:m[e / E.w]? =some m[e / E.w]:=by simp[ar]
   have ac:e % E.w<(E.enc m[e / E.w]).length:=by rw[E.len];exact k
   have w:=dL (E:=E) I (e % E.w) _ (A2 ac);have ae:e / E.w*E.w+e % E.w=e:=Nat.div_add_mod' e E.w;rw[ae,ab] at w;obtain⟨aG,af,au⟩:=N.cells _ _ I;rw[Z] at af;cases af;have:=au (e % E.w) _ (A2 ac);rw[add_add,ae] at this;rw[BT] at w;rw[w];exact this
  have J: ∀u∈m.flatMap E.enc,u.oneCell'=true:=by intro u av;obtain⟨x,_,I⟩:=List.mem_flatMap.1 av;exact wm (E.one x u I)
  obtain⟨ag,y,k,ah,C,aH⟩:=run_append_own (P:=P) (A.at d n) 0 t p T i z E.w M q r O G hB ao E.pos (.slice s.p s.len s.cap) s.len (l.flatMap E.enc) h.lW a m.length src.cap (m.flatMap E.enc)
   (by rw[Kz]) H J (by rw[h.len];exact W) (by rw[h.len];exact j) (A5 _)
  rw[<- Fo] at ah;obtain⟨f,V,aw,aI⟩:=AIE ah (by rw[h.len,A1]);have ax:y=A.at y.heap y.drawn:=wk rfl C.os C.tape C.output;have L:(m.flatMap E.enc).length=m.length*i.size:=by rw[Kz,G]
  have ai:((s.len+m.length:Nat):Int)<=9223372036854775807:=by have:=W;simp only[maxLen] at this;rw[h.len];omega
  have aj:(s.len+m.length)*i.bytes<=140737488355328:=by rw[h.len,hB];exact j
  have ay: ∃g c,ag= .slice (some ⟨g,0,none⟩) (s.len+m.length) c/\(s.ag=some g\/g=d.size):=by
   rcases h.row with⟨rfl,rfl⟩|⟨g,az,o,aA,S,aJ,aC,aK⟩
   ·have D:=run_append_nil (P:=P) (A.at d n) t p T i z q r O a m.length src.cap (m.flatMap E.enc) L H Y (by simpa using ai) (by have:=aj;simp only[AI] at this;omega);rw[D] at k;cases k;exact⟨d.size,_,by rw[AI];rfl,.inr rfl⟩
   ·by_cases al:s.len+m.length<=s.cap
    ·have D:=run_append_room (P:=P) (A.at d n) t p T i q r g s.len s.cap az aA a m.length src.cap (m.flatMap E.enc) L H J al (by rw[L,aC,<-G,<-Dd];exact AK _ al);rw[o,D] at k;cases k;exact⟨g,_,rfl,.inl (by simp[Sl.ag,o])⟩
    ·have D:=run_append_grow (P:=P) (A.at d n) t p T i z q r O ⟨g,0,none⟩ s.len s.cap (l.flatMap E.enc) (by rw[Kz,h.len,G])
      (h.lW (A:=A) (n:=n) |>.cells (g:=g) (by simp[Value.ownBlock,o])) a m.length src.cap (m.flatMap E.enc) L H (by omega) ai (growslice_fits (by omega) aj)
     rw[o,D] at k;cases k;exact⟨d.size,_,rfl,.inr rfl⟩
  obtain⟨g,c,aD,aE⟩:=ay;have am:f.p=some ⟨g,0,none⟩:=by rw[aD] at V;injection V with J _ _;exact J.symm
  refine⟨ag,y.heap,y.drawn,?_,f,V,X f y.heap aw ⟨C.size,?_⟩ ?_ ?_⟩
  ·rw[Z,Q,<-ax];exact k
  ·intro b j aF;refine C.block b j ?_;intro F;apply aF;unfold Sl.ag;cases o:s.p with
   |none=>rw[o] at F;simp[Value.ownBlock] at F
   |some a=>rw[o] at F;simp[Value.ownBlock] at F;simp[F]
  ·intro b j;simp[Sl.ag,am] at j;subst j;rcases aE with d|d
   ·exact .inl d
   ·exact .inr (by omega)
  ·rw[am];simp[R]
theorem Loop.rule {b:Type}{g:(b->aa->Prop)->b->aa->Prop}(d:Nat->b->aa->Prop)
  (step: ∀K m x a,d m x a->(∀ c e f,c<m->d c e f->K e f)->g K x a) {m:Nat} {x:b} {a:aa} (h:d m x a):Loop g x a:=by
 intro K i
 induction m using Nat.strongRecOn generalizing x a with
 |_ m j=>exact i _ _ (step K m x a h λc e f k l=>j c k l)
theorem El {a:Nat}(c:a<=9223372036854775807):J8 J9 (a:Int)=(a:Int):=by
 simp only[J8,IntKind.bits,IntKind.signed];have b:((a:Int)) % ((2:Int)^64)=a:=by omega
 have d: ¬((a:Int)>=(2:Int)^(64-1)):=by omega
 simp only[b];simp;omega
theorem Aa {a:Nat}(b:a<9223372036854775807):J8 J9 ((a:Int)+(1:Int))=((a+1:Nat):Int):=by rw[show((a:Int)+1)=((a+1:Nat):Int) by omega];exact El b
theorem TH.mk {b:aa}{a:Q6}{K:J0->Prop}{v:J0}(c:ah b a=some v)(d:K v):TH b a K:=⟨v,c,d⟩
theorem AC.mk {b:aa}{a:Q6}{k:IntKind}{K:Int->Prop}{n:Int}(c:ah b a=some (.int k n))(d:K n):AC k b a K:=⟨n,c,d⟩
theorem AZ.mk {b:aa}{a:Q6}{K:Bool->Prop}{n:Bool}(c:ah b a=some (J3 n))(d:K n):AZ b a K:=⟨n,c,d⟩
theorem AJ.mk {b:aa}{a:Q6}{K:A2I->Prop}{n:A2I}(c:ah b a=some (J7 n))(d:K n):AJ b a K:=⟨n,c,d⟩
theorem AY.mk {b:aa}{a:Q6}{K:Q2->Prop}{n:Q2}(c:ah b a=some (J5 n))(d:K n):AY b a K:=⟨n,c,d⟩
theorem Ad.mk {b:aa}{a:Q6}{K:Sl->Prop}{s:Sl}(c:ah b a=some (J4 s.p s.len s.cap))(d:K s):Ad b a K:=⟨s,c,d⟩
theorem AL {a:aa}{b c:Nat}{d:Array J0}{T:Q7}{fr:Nat×Nat}{v:J0}(e:a[b]? =some (J2 d T fr))(f:d[c]? =some v):ah a ⟨b,c,none⟩=some v:=by rw[KZ e];exact f
theorem AB {a:aa}{b c:Nat}{d:Array J0}{T:Q7}{fr:Nat×Nat}{v:J0}(e:a[b]? =some (J2 d T fr))(f:d[c]? =some v):ah a ((⟨b,0,none⟩:Q6).add c)=some v:=by rw[Bq,AI];exact AL e f
structure Pr where
 key:A2I
 val:A2I
 gone:Bool
deriving DecidableEq
def Pr.agg(x:Pr):J0:= .agg #[J7 x.key,J7 x.val,J3 x.gone]
def Pr.cells(x:Pr):Array J0:= #[J7 x.key,J7 x.val,J3 x.gone]
def BO:cL Pr where
 enc x:= [J7 x.key,J7 x.val,J3 x.gone]
 w:=3
 len _:=rfl
 pos:=by omega
 one x v a:=by simp at a;rcases a with rfl|rfl|rfl<;>rfl
def iG:cL Sl where
 enc s:= [J4 s.p s.len s.cap]
 w:=1
 len _:=rfl
 pos:=by omega
 one x v a:=by simp at a;subst a;rfl
structure iH where
 v:J0
 one:NW v=true
def kG:cL iH where
 enc s:= [s.v]
 w:=1
 len _:=rfl
 pos:=by omega
 one x v a:=by simp at a;subst a;exact x.one
theorem View.idx {b:Type}{c:cL b}{d:aa}{s:Sl}{l:List b}(v:View c d s l){i:Nat}{x:b}(e:l[i]? =some x){K:Q6->Prop}
  (g: ∀a,s.p=some a->Cells d (a.add (i*c.w)) (c.enc x)->K a):bJ s.p s.len ((i:Nat):Int) K:=by
 obtain⟨a,f,h⟩:=v.cells i x e;have:i<s.len:=by rw[v.len];exact(List.getElem?_eq_some_iff.1 e).1
 exact bJ.mk f this (g a f h)
theorem Cells.pair {b:aa}{a:Q6}{x:Pr}(c:Cells b a (BO.enc x)):ah b a=some (J7 x.key)/\ah b (a.add 1)=some (J7 x.val)/\ah b (a.add 2)=some (J3 x.gone):=by have d:=c 0 _ rfl;rw[add_zero] at d;exact⟨d,c 1 _ rfl,c 2 _ rfl⟩
theorem Cells.sl {b:aa}{a:Q6}{x:Sl}(c:Cells b a (iG.enc x)):ah b a=some (J4 x.p x.len x.cap):=by have d:=c 0 _ rfl;rwa [add_zero] at d
theorem Cells.val {b:aa}{a:Q6}{x:iH}(c:Cells b a (kG.enc x)):ah b a=some x.v:=by have d:=c 0 _ rfl;rwa [add_zero] at d
theorem ao.pair {a:aa}{T:Q7}{j k:A2I}{l:Bool}{d v:A2I}{g:Bool}{K:Nat->aa->Prop}
  (n: ∀b c,b=a.size->c[b]? =some (J2 #[J7 d,J7 v,J3 g] T (0,0))->Ext a c->c.size=a.size+1->K b c):
  ao a (J2 #[J7 j,J7 k,J3 l] T) λb e=>ae e ⟨b,0,none⟩ (J7 d) λf=>ae f ((⟨b,0,none⟩:Q6).add 1) (J7 v) λh=>ae h ((⟨b,0,none⟩:Q6).add 2) (J3 g) λi=>K b i:=by
 refine ao.mk λe _ o p y=>?_
 refine ae.mk o (by simp) λf q r z=>?_
 rw[Bq,Bq];refine ae.mk q (by simp) λh s t A=>?_
 refine ae.mk s (by simp) λi u w B=>?_
 refine n _ _ rfl (by simpa using u) ?_ (by omega);have m:=(r.trans t).trans w;exact⟨by omega,λb x _=>(m.get b (by omega) (by omega)).trans (p.get b x (by simp))⟩
theorem ao.bq {k:ak}{P:Q1}{t m T:Q7}{g:Nat}{e:Type}{E:cL e}{x:e}{h:Array J0}(n:h.toList=E.enc x)(o:Ra P t T E.w g=true){d:aa}{s:Sl}{l:List e}{K:Sl->aa->Prop}
  (p:Own E T d s l) (q:(l.length+1)*g<=140737488355328) (r:l.length+1<=maxLen)
  (u: ∀a c,Own E T c a (l++ [x])->Mod (λb=>s.ag=some b) d c->(∀ b,a.ag=some b->s.ag=some b\/d.size<=b)->a.p≠none->K a c):
  ao d (J2 h T) λb f=>BK k P (Builtin.append_ #[t,t] m #[J4 s.p s.len s.cap,J4 (some ⟨b,0,none⟩) 1 1]) f λv c=> ∃a:Sl,v=J4 a.p a.len a.cap/\K a c:=by
 refine ao.mk λf _ w i G=>?_
 have y:Own E T f ⟨some ⟨d.size,0,none⟩,1,1⟩ [x]:=Own.lit (E:=E) (l:= [x]) w (by simp[n]) (by simp[maxLen]);refine GK (s:=s) (src:=⟨some ⟨d.size,0,none⟩,1,1⟩) o (p.ext i) y.view (by simpa using q) (by simpa using r) λa c z A B C=>?_
 refine u a c z ?_ ?_ ?_
 ·exact i.mod.trans A
 ·intro b D;rcases B b D with j|j
  ·exact .inl j
  ·exact .inr (by omega)
 ·intro F;have:=(C.1 F).2;simp at this
theorem View.sub {d:Type}{b:cL d}{e:aa}{s:Sl}{l:List d}(v:View b e s l){lo hi:Nat}(h:lo<=hi)(j:hi<=l.length):
  View b e ⟨BI s.p s.cap lo b.w,hi-lo,s.cap-lo⟩ ((l.take hi).drop lo):=by
 have k:=v.cap;have m:=v.len;refine⟨by simp;omega,by simp;omega,λi x c=>?_⟩;rw[C5,Fm] at c;split at c
 ·rename_i n;obtain⟨a,f,g⟩:=v.cells _ _ c;refine⟨a.add (lo*b.w),?_,?_⟩
  ·unfold BI;simp only[f];rw[if_neg (by omega)];rfl
  ·rw[add_add,<-Dd];exact g
 ·cases c
theorem re {p:Q2}{e f g:Nat}{b:Nat}{len c:Nat}(d:Sl.ag ⟨BI p e f g,len,c⟩=some b):p.map (·.block)=some b:=by
 unfold Sl.ag BI at d;simp only at d;split at d
 ·exact d
 ·cases p with
  |none=>simp at d
  |some a=>simp[aU] at d;simp[d]
def Yields(f:ak)(P:Q1)(h:J0)(l:List Pr)(d:Nat->Bool->(Nat->Prop)->aa->Prop):Prop:=
 ∀i x c a,l[i]? =some x->d i true c a->F4 f P h #[x.agg] a λv e=> ∃g O',v=J3 g/\(∀ b,O' b->c b\/a.size<=b)/\Mod c a e/\d (i+1) g O' e
structure Body (h:aa) (J:Nat->Bool->(Nat->Prop)->aa->Prop):Prop where
 wf: ∀i g O hh,J i g O hh-> ∀b,O b->b<hh.size
 br: ∀i g O hh h',J i g O hh->Mod (λb=>¬O b/\h.size<=b) hh h'->J i g O h'
def EY(k:ak)(P:Q1)(fv:J0)(j:Nat->Prop)(m:aa)(l:List Pr):Prop:=
 (∀ b,j b->b<m.size)/\ ∃f d,fv= .func (.func f) #[] d/\(∀ a,(callFunc f (#[]++ #[a]++d)).calc P=some (.enter f (#[]++ #[a]++d)))/\
  ∀(c:aa),(∀ b,j b->c[b]? =m[b]?)-> ∀a e h,NW a=true->(∀ b,j b-> ¬h b)->Body c e->Yields k P a l e->e 0 true h c->
   AA k P f (#[]++ #[a]++d) c λv n=>v=J1 #[]/\ ∃i g O',Mod h c n/\(∀ b,O' b->h b\/c.size<=b)/\e i g O' n/\(g=true->i=l.length)/\i<=l.length
theorem EY.aj {e:ak}{P:Q1}{fv:J0}{c S':Nat->Prop}{g d:aa}{l:List Pr}(i:EY e P fv c g l)(h: ∀b,c b->S' b)(j: ∀b,S' b->b<d.size)(k: ∀b,c b->d[b]? =g[b]?):EY e P fv S' d l:=by obtain⟨_,f,m,n,o,p⟩:=i;refine⟨j,f,m,n,o,λq r s t u v hd=>p q (λb a=>(r b (h b a)).trans (k b a)) s t u v λb a=>hd b (h b a)⟩
theorem EY.one {a:ak}{P:Q1}{fv:J0}{b:Nat->Prop}{c:aa}{l:List Pr}(d:EY a P fv b c l):NW fv=true/\jZ fv/\Xk fv=false:=by obtain⟨_,f,e,rfl,_⟩:=d;exact⟨rfl,by simp[jZ],rfl⟩
def wo(x:Pr):j6 [.agg [.str,.str,.bool]]:=((x.key,x.val,x.gone,()),())
def wq(l:Nat)(rec:Go.Loop)(c:aa)(d:Nat->Prop)(e:(Nat->Prop)->aa->Prop)(a:aa):Prop:=
 ∃O',(∀ b,O' b->d b\/c.size<=b)/\Mod (λb=>d b\/b=l) c a/\a[l]? =some (.loop {rec with state:= .busy})/\e O' a
theorem Mod.setObj {S:Nat->Prop}{a:aa}{l:Nat}{c:Obj}(d:S l):Mod S a (a.setIfInBounds l c):=
 ⟨by simp,λb _ e=>by rw[DM];intro f;exact e (f▸d)⟩
theorem Ci {a:aa}{l:Nat}{b:Obj}(c:l<a.size):(a.setIfInBounds l b)[l]? =some b:=by simp[c]
theorem Xu {O:ak}{P:Q1}{fv:J0}{E:Nat->Prop}{Q a:aa}{l:List Pr}(ai:EY O P fv E Q l)(R: ∀b,E b->a[b]? =Q[b]?)
  (Inv:Nat->Option (Option Nat)->(Nat->Prop)->aa->Prop) (n:Nat->Prop) (hd: ∀b,E b-> ¬n b)
  {body:j6 [.agg [.str,.str,.bool]]->Nat->aa->(aa->Prop)->(Option Nat->aa->Prop)->Prop} {S:aa->Prop} {T:Option Nat->aa->Prop}
  (G: ∀i c n j,Inv i c n j-> ∀b,n b->b<j.size)
  (y: ∀i c n j k,Inv i c n j->Mod (λb=>¬n b/\a.size<=b) j k->Inv i c n k)
  (U:Inv 0 none n a)
  (round: ∀i x m j rec V W,l[i]? =some x->Inv i none m j-> ¬m (a.size+1)->a.size+1<j.size->j[a.size+1]? =some (.loop rec)->rec.state= .ready->
   (∀ k,wq (a.size+1) rec j m (Inv (i+1) none) k->V k)->(∀ o k,wq (a.size+1) rec j m (Inv (i+1) (some o)) k->W o k)->body (wo x) (a.size+1) j V W)
  (aj: ∀O' k,Inv l.length none O' k->Mod n a k-> ¬O' a.size->(∀ b,O' b->n b\/a.size<=b)->k[a.size]? =some (.deferred (some []))->S k)
  (al: ∀i o O' k,Inv i (some o) O' k->i<=l.length->Mod n a k-> ¬O' a.size->(∀ b,O' b->n b\/a.size<=b)->k[a.size]? =some (.deferred (some []))->T o k):
  Xe O P fv [.agg [.str,.str,.bool]] body a S T:=by
 intro rec F H aA am;obtain⟨an,f,X,rfl,ao,ap⟩:=ai;have Y: ∀b,n b->b<a.size:=G _ _ _ _ U;have Z: ∀b,E b->b<a.size:=λb e=>by
  have:=R b e;rw[Ft (an b e)] at this;exact Ag this
 have I:Ext a ((a.push (.deferred (some []))).push (.loop rec)):=(Mod.push a _).trans (Mod.push _ _);have aC:((a.push (.deferred (some []))).push (.loop rec)).size=a.size+2:=by simp
 refine⟨f,_,?_,AA.mono (ap ((a.push (.deferred (some []))).push (.loop rec)) (λb e=>(I.get b (Z b e) (by simp)).trans (R b e)) (.func (.yield (a.size+1)) #[] #[])
  (λi g C j=> ∃m:Nat->Prop,(∀ b,C b↔m b\/b=a.size\/b=a.size+1)/\ ¬m a.size/\ ¬m (a.size+1)/\(∀ b,m b->n b\/a.size<=b)/\a.size+2<=j.size/\j[a.size]? =some (.deferred (some []))/\
   match g with
   |true=>j[a.size+1]? =some (.loop rec)/\Inv i none m j
   |false=> ∃o w,j[a.size+1]? =some (.loop w)/\w.state≠ .busy/\w.pending=some (lB o)/\Inv i (some o) m j)
  (λb=>n b\/b=a.size\/b=a.size+1) rfl ?_ ?_ ?_ ?_) ?_⟩
 ·have aq:(do let ab <-Deferred.ofValue (.func (.func f) #[] X) #[.func (.yield (a.size+1)) #[] #[]];invoke ab.target ab.args:Sem Next).calc P=(callFunc f (#[]++ #[.func (.yield (a.size+1)) #[] #[]]++X)).calc P:=rfl;unfold TL;rw[aq,ao]
 ·intro b e d;have:=Z b e;rcases d with d|d|d
  ·exact hd b e d
  ·omega
  ·omega
 ·constructor
  ·rintro i g C j ⟨m,p,_,_,_,J,_,s⟩ b e;rcases(p b).1 e with d|d|d
   ·cases g
    ·obtain⟨o,w,_,_,_,z⟩:=s;exact G _ _ _ _ z b d
    ·exact G _ _ _ _ s.2 b d
   ·omega
   ·omega
  ·rintro i g C j k ⟨m,p,u,t,A,J,B,s⟩ q;have ac:Mod (λb=>¬m b/\a.size<=b) j k:=q.aj λb _ e=>⟨λd=>e.1 ((p b).2 (.inl d)),by omega⟩
   have ar:k[a.size]? =j[a.size]? :=q.get _ (by omega) λe=>e.1 ((p _).2 (.inr (.inl rfl)))
   have ae:k[a.size+1]? =j[a.size+1]? :=q.get _ (by omega) λe=>e.1 ((p _).2 (.inr (.inr rfl)))
   refine⟨m,p,u,t,A,by have:=q.size;omega,ar.trans B,?_⟩;cases g
   ·obtain⟨o,w,d,h,K,z⟩:=s;exact⟨o,w,ae.trans d,h,K,y _ _ _ _ _ z ac⟩
   ·exact⟨ae.trans s.1,y _ _ _ _ _ s.2 ac⟩
 ·rintro i x C j au ⟨m,p,u,t,A,J,B,af,z⟩;refine am (wo x) j _ af (round i x m j rec _ _ au z t (by omega) af F ?_ ?_)
  ·rintro k ⟨O',r,q,L,M⟩;have N:a.size+1<k.size:=by have:=q.size;omega
   refine⟨_,L,true,λb=>O' b\/b=a.size\/b=a.size+1,rfl,?_,?_,O',λ_=>CH,?_,?_,?_,?_,?_,?_,?_⟩
   ·rintro b (e|e)
    ·rcases r b e with d|d
     ·exact .inl ((p b).2 (.inl d))
     ·exact .inr d
    ·exact .inl ((p b).2 (.inr e))
   ·refine(q.trans (Mod.setObj (.inr rfl))).aj λb _ e=>(p b).2 (e.elim .inl λd=> .inr (.inr d))
   ·intro d;rcases r _ d with h|h
    ·exact u h
    ·omega
   ·intro d;rcases r _ d with h|h
    ·exact t h
    ·omega
   ·intro b e;rcases r _ e with h|h
    ·exact A _ h
    ·exact .inr (by omega)
   ·simp;omega
   ·rw[DM (by omega)];exact(q.get _ (by omega) (by rintro(d|d);exact u d;omega)).trans B
   ·rw[Ci N];cases rec;simp at F H;simp[F,H]
   ·refine y _ _ _ _ _ M (Mod.setObj ⟨?_,by omega⟩);intro d;rcases r _ d with h|h
    ·exact t h
    ·omega
  ·rintro o k ⟨O',r,q,L,M⟩;have N:a.size+1<k.size:=by have:=q.size;omega
   refine⟨_,L,false,λb=>O' b\/b=a.size\/b=a.size+1,rfl,?_,?_,O',λ_=>CH,?_,?_,?_,?_,?_,o,{rec with state:= .done,pending:=some (lB o)},?_,?_,rfl,?_⟩
   ·rintro b (e|e)
    ·rcases r b e with d|d
     ·exact .inl ((p b).2 (.inl d))
     ·exact .inr d
    ·exact .inl ((p b).2 (.inr e))
   ·refine(q.trans (Mod.setObj (.inr rfl))).aj λb _ e=>(p b).2 (e.elim .inl λd=> .inr (.inr d))
   ·intro d;rcases r _ d with h|h
    ·exact u h
    ·omega
   ·intro d;rcases r _ d with h|h
    ·exact t h
    ·omega
   ·intro b e;rcases r _ e with h|h
    ·exact A _ h
    ·exact .inr (by omega)
   ·simp;omega
   ·rw[DM (by omega)];exact(q.get _ (by omega) (by rintro(d|d);exact u d;omega)).trans B
   ·exact Ci N
   ·simp
   ·refine y _ _ _ _ _ M (Mod.setObj ⟨?_,by omega⟩);intro d;rcases r _ d with h|h
    ·exact t h
    ·omega
 ·refine⟨n,λ_=>CH,λd=>?_,λd=>?_,λb e=> .inl e,by omega,?_,?_⟩;rotate_left 2
  ·rw[P3 (by simp)];simp
  ·exact⟨by have av:a.size+1=(a.push (.deferred (some []))).size:=(by simp);rw[av];exact P4,y _ _ _ _ _ U I.mod⟩
  ·have:=Y _ d;omega
  ·have:=Y _ d;omega
 ·rintro v h ⟨_,i,g,C,q,aD,⟨m,p,u,t,A,J,B,s⟩,aw,ax⟩;have ag: ∀D,Mod n a (h.setIfInBounds (a.size+1) (.loop D)):=λD=>by
   refine⟨by simp;omega,λb e ay=>?_⟩;rw[DM (by omega)];exact(q.get b (by omega) (by rintro(d|d|d);exact ay d;omega;omega)).trans (I.get b e (by simp))
  have ah: ∀D,(h.setIfInBounds (a.size+1) (.loop D))[a.size]? =some (.deferred (some [])):=λD=>by
   rw[DM (by omega)];exact B
  cases g
  ·obtain⟨o,w,d,K,az,z⟩:=s;exact⟨w,d,K,.inr ⟨o,az,al i o m _ (y _ _ _ _ _ z (Mod.setObj ⟨t,by omega⟩)) ax (ag _) u A (ah _)⟩⟩
  ·refine⟨rec,s.1,by simp[F],.inl ⟨H,aj m _ ?_ (ag _) u A (ah _)⟩⟩;have:=aw rfl;subst this;exact y _ _ _ _ _ s.2 (Mod.setObj ⟨t,by omega⟩)
open Go Ieee
abbrev fD:Format:=Ieee.double
theorem AK6(s:Bool)(m u v:Nat):signed s m (u+v)=signed s m u*(2:Int)^v:=by
 unfold signed;rw[Nd,Nd,GF,<-Fk];split
 ·push_cast;rw[Int.neg_mul]
 ·push_cast;rfl
def DV(b:Datum)(c:Int):Prop:= ∃s m,∃a:Nat,b= .number s m (-(a:Int))/\signed s m 0=c*(2:Int)^a
def VR(b:Nat)(a:Int):Prop:=DV (fD.read b) a
theorem Oh(s:Bool)(m u:Nat):signed s m u=signed s m 0*(2:Int)^u:=by have:=AK6 s m 0 u;rwa [AI] at this
theorem pow_pos(a:Nat):(0:Int)<(2:Int)^a:=Int.pow_pos (by decide)
theorem AHu(a b:Int)(c:Nat):compare (a*(2:Int)^c) (b*(2:Int)^c)=compare a b:=by have d:=pow_pos c;simp only[compare,compareOfLessAndEq];have e:(a*2^c<b*2^c)↔a<b:=Int.mul_lt_mul_right d;have f:(a*2^c=b*2^c)↔a=b:=Int.mul_eq_mul_right_iff (by omega);by_cases c1:a<b<;>by_cases c2:a=b<;>simp[e,f,c1,c2]
theorem DV.order {x d:Datum}{e m:Int}(f:DV x e)(h:DV d m):x.order d=some (compare e m):=by
 obtain⟨s,a,c,rfl,i⟩:=f;obtain⟨t,b,l,rfl,g⟩:=h;simp only[Datum.order];congr 1;have j:(-(c:Int)-min (-(c:Int)) (-(l:Int))).toNat=max c l-c:=by omega
 have k:(-(l:Int)-min (-(c:Int)) (-(l:Int))).toNat=max c l-l:=by omega
 rw[j,k,Oh s,Oh t,i,g,I2,I2,<-I3,<-I3,show c+(max c l-c)=max c l by omega,show l+(max c l-l)=max c l by omega,AHu]
theorem VR.order {x a:Nat}{b m:Int}(c:VR x b)(d:VR a m):fD.order x a=some (compare b m):=DV.order c d
theorem cmp_eq {a m:Int}:(compare a m= .eq)↔a=m:=by simp only[compare,compareOfLessAndEq];by_cases c1:a<m<;>by_cases c2:a=m<;>simp[c1,c2]<;>omega
theorem yB(b:Bool){a:Nat}(c:a<fD.signWeight):
  fD.read (fD.word b a)=if a<fD.binade then .number b a fD.leastPlace else if a<fD.infRung then .number b (fD.binade+a % fD.binade) (fD.leastPlace+(a / fD.binade-1:Nat)) else if a=fD.infRung then .infinity b else .nan b (a-fD.infRung):=by
 have d:0<fD.signWeight:=HC _;have e:(fD.word b a / fD.signWeight % 2==1)=b:=by
  unfold Format.word;cases b
  ·simp[Nat.div_eq_of_lt c]
  ·simp[Nat.add_div_left _ d,Nat.div_eq_of_lt c]
 have f:fD.word b a % fD.signWeight=a:=by
  unfold Format.word;cases b
  ·simp[AD c]
  ·simp[AD c]
 unfold Format.read;simp only[e,f]
theorem yC(s:Bool)(u:Nat):signed s 0 u=0:=by cases s<;>simp[signed]
theorem pq:fD.binade=4503599627370496:=by decide
theorem si:fD.infRung=9218868437227405312:=by decide
theorem yD:fD.signWeight=9223372036854775808:=by decide
theorem nf:fD.leastPlace= -1074:=by decide
theorem ATo:fD.fractionBits=52:=rfl
theorem ARP(a:Bool):VR (fD.word a 0) 0:=by refine⟨a,0,1074,?_,by rw[yC,Int.zero_mul]⟩;rw[yB a (by rw[yD];decide),if_pos (by rw[pq];decide),nf];rfl
theorem YT {v:Nat}(f:0<v)(K:Nat):(v*2^K).log2=v.log2+K:=by
 have a:v≠0:=by omega
 have c:0<2^K:=HC K;have b:v*2^K≠0:=Nat.mul_ne_zero a (by omega);have d:2^v.log2<=v:=(RE a).1 (A0 _);have e:v<2^(v.log2+1):=(No a).1 (Hj _);have g:v.log2+K<=(v*2^K).log2:=by rw[RE b,GF];exact AK _ d
 have h:(v*2^K).log2<v.log2+1+K:=by rw[No b,GF];exact RK e c
 omega
theorem AQE(b:Bool)(a:Nat):Toward.even.cut b a 0=a:=by simp[Toward.cut,Nat.mod_one]
theorem ANT(b:Toward)(c:Bool){M a:Nat}(d:0<M):b.cut c (M*2^a) a=M:=by
 unfold Toward.cut;have hd:min a ((M*2^a).log2+2)=a:=by rw[YT d];omega
 have e:0<2^a:=HC a;simp only[hd,Nat.one_shiftLeft,Nat.mul_mod_left,Nat.mul_div_cancel _ e];cases b
 ·have f: ¬(2^a=0):=by omega
  simp[f]
 all_goals simp
theorem APc {L M:Nat}(a:L<=52)(b:M<9007199254740992):min ((L+1022)*4503599627370496+M) 9218868437227405312=(L+1022)*4503599627370496+M:=by omega
theorem ASc {L M:Nat}(a:4503599627370496<=M): ¬(L+1022)*4503599627370496+M<4503599627370496:=by omega
theorem ASs {L M:Nat}(a:L<=52)(b:M<9007199254740992):(L+1022)*4503599627370496+M<9218868437227405312:=by omega
theorem yE {L M:Nat}(a:4503599627370496<=M)(b:M<9007199254740992):((L+1022)*4503599627370496+M) % 4503599627370496=M-4503599627370496/\((L+1022)*4503599627370496+M) / 4503599627370496=L+1023:=by omega
theorem ASj {M:Nat}(a:4503599627370496<=M):4503599627370496+(M-4503599627370496)=M:=by omega
theorem ASy {L:Nat}(a:L<=52):(-1074:Int)+((L+1023-1:Nat):Int)=(L:Int)-52:=by omega
theorem ATL {L:Nat}(a:L<=52):(L:Int)-52= -((52-L:Nat):Int):=by omega
theorem AS0 {L M:Nat}(a:L<=52)(b:M<9007199254740992):(L+1022)*4503599627370496+M<9223372036854775808:=by omega
theorem AEs(a:Bool){v K:Nat}(i:0<v)(j:v<9007199254740992):VR (fD.nearest a (v*2^K) (-(K:Int))) (if a then -(v:Int) else v):=by
 have e:v≠0:=by omega
 have k:=YT i K;have b:v.log2<=52:=by have:v.log2<53:=(No e).2 (by simpa using j);omega
 have l:2^v.log2<=v:=(RE e).1 (A0 _);have m:v<2^(v.log2+1):=(No e).1 (Hj _);have n: ¬v*2^K=0:=Nat.mul_ne_zero e (by have:=HC K;omega);generalize u:v.log2=L at*
 have f:4503599627370496<=v*2^(52-L):=by have c:2^L*2^(52-L)<=v*2^(52-L):=AK _ l;rw[<- GF,show L+(52-L)=52 by omega] at c;exact c
 have d:v*2^(52-L)<9007199254740992:=by have c:v*2^(52-L)<2^(L+1)*2^(52-L):=RK m (HC _);rw[<- GF,show L+1+(52-L)=53 by omega] at c;exact c
 have o:fD.nearest a (v*2^K) (-(K:Int))=fD.word a ((L+1022)*4503599627370496+v*2^(52-L)):=by
  unfold Format.nearest;rw[if_neg n];have p:max (-(K:Int)+((v*2^K).log2:Nat)-(fD.fractionBits:Nat)) fD.leastPlace=(L:Int)-52:=by rw[k,nf,ATo];push_cast;omega
  simp only[p];have q:Toward.even.cut a ((v*2^K) <<< (-(K:Int)-((L:Int)-52)).toNat) (((L:Int)-52)- -(K:Int)).toNat=v*2^(52-L):=by
   by_cases w:K+L<=52
   ·have g:(((L:Int)-52)- -(K:Int)).toNat=0:=by omega
    have h:(-(K:Int)-((L:Int)-52)).toNat=52-L-K:=by omega
    rw[g,h,AQE,Nd,Fk,<-GF];congr 2;omega
   ·have g:(((L:Int)-52)- -(K:Int)).toNat=L+K-52:=by omega
    have h:(-(K:Int)-((L:Int)-52)).toNat=0:=by omega
    have r:v*2^K=(v*2^(52-L))*2^(L+K-52):=by rw[Fk,<-GF];congr 2;omega
    rw[g,h,Kf,r,ANT _ _ (by omega)]
  have s:(((L:Int)-52)-fD.leastPlace).toNat=L+1022:=by rw[nf];omega
  rw[q,s,pq,si,APc b d]
 rw[o];have t:(L+1022)*4503599627370496+v*2^(52-L)<fD.signWeight:=by rw[yD];exact AS0 b d
 refine⟨a,v*2^(52-L),52-L,?_,?_⟩
 ·rw[yB a t,pq,si,nf,if_neg (ASc f),if_pos (ASs b d),(yE f d).1,(yE f d).2,ASj f,ASy b,ATL b]
 ·unfold signed;rw[Kf];cases a
  ·simp
  ·simp[Int.neg_mul]
theorem APz {s:Bool}{a:Nat}{K:Nat}{b:Int}(c:signed s a 0=b*(2:Int)^K)(j:b.natAbs<9007199254740992):VR (fD.write (.number s a (-(K:Int)))) b:=by
 show VR (fD.nearest s a (-(K:Int))) b;have h:=pow_pos K;have k:(2:Int)^K=((2^K:Nat):Int):=by push_cast;rfl
 by_cases l:b=0
 ·subst l;have e:a=0:=by unfold signed at c;rw[Kf,Int.zero_mul] at c;split at c<;>omega
  subst e;have f:fD.nearest s 0 (-(K:Int))=fD.word s 0:=by unfold Format.nearest;rw[if_pos rfl]
  rw[f];exact ARP s
 ·have e:a=b.natAbs*2^K/\(if s then -(b.natAbs:Int) else b.natAbs)=b:=by
   unfold signed at c;rw[Kf] at c;have i:(a:Int).natAbs=(b*2^K).natAbs:=by rw[<- c];split<;>simp
   have f:(b*2^K).natAbs=b.natAbs*2^K:=by rw[Int.natAbs_mul,k,Nx]
   refine⟨by rw[f] at i;simpa using i,?_⟩;split at c
   ·rename_i g;rw[if_pos g];have:b*(2:Int)^K<=0:=by omega
    have:b<=0:=by
     rcases Int.lt_or_le 0 b with d|d
     ·have:=Int.mul_pos d h;omega
     ·exact d
    omega
   ·rename_i g;rw[if_neg g];have:0<=b*(2:Int)^K:=by omega
    have:0<=b:=by
     rcases Int.lt_or_le b 0 with d|d
     ·have:=Int.mul_neg_of_neg_of_pos d h;omega
     ·exact d
    omega
  rw[e.1];have:=AEs s (v:=b.natAbs) (K:=K) (by omega) j;rw[e.2] at this;exact this
theorem AIr(t:Int):signed (decide (t<0)) t.natAbs 0=t:=by
 unfold signed;rw[Kf];split
 ·rename_i a;simp at a;omega
 ·rename_i a;simp at a;omega
theorem DV.sum {x e:Datum}{d m:Int}(i:DV x d)(j:DV e m)(k:(d+m).natAbs<9007199254740992): ∃f,x.sum e=some f/\VR (fD.write f) (d+m):=by
 obtain⟨s,a,c,rfl,n⟩:=i;obtain⟨t,b,l,rfl,g⟩:=j;refine⟨_,rfl,?_⟩;have o:min (-(c:Int)) (-(l:Int))= -((max c l:Nat):Int):=by omega
 have p:(-(c:Int)-min (-(c:Int)) (-(l:Int))).toNat=max c l-c:=by omega
 have q:(-(l:Int)-min (-(c:Int)) (-(l:Int))).toNat=max c l-l:=by omega
 have r:signed s a (-(c:Int)-min (-(c:Int)) (-(l:Int))).toNat+signed t b (-(l:Int)-min (-(c:Int)) (-(l:Int))).toNat=(d+m)*(2:Int)^(max c l):=by rw[p,q,Oh s,Oh t,n,g,I2,I2,<-I3,<-I3,show c+(max c l-c)=max c l by omega,show l+(max c l-l)=max c l by omega,Int.add_mul]
 simp only[r];rw[o];generalize u:(d+m)*(2:Int)^(max c l)=T at*
 refine APz ?_ k;rw[u];split
 ·rename_i h;rw[h];exact(yC _ _).trans (by rw[<- h])
 ·exact(AIr T)
theorem ANg {b:Nat}{s:Bool}{m:Nat}{i:Int}(a:fD.read b= .number s m i):i<=0\/4503599627370496<=m:=by
 unfold Format.read at a;simp only[pq,si,nf] at a;split at a
 ·injection a with _ _ c;exact .inl (by omega)
 ·split at a
  ·injection a with _ d _;exact .inr (by omega)
  ·split at a<;>cases a
theorem AKZ(s:Bool)(m u:Nat):(signed s m u).natAbs=m*2^u:=by
 unfold signed;rw[Nd];split
 ·rw[Int.natAbs_neg,Nx]
 ·rw[Nx]
theorem VR.of_eq {x k:Nat}{m:Int}(o:VR k m)(v:m.natAbs<4503599627370496)(c:fD.order x k=some .eq):VR x m:=by
 obtain⟨t,b,l,p,g⟩:=o;unfold Format.order at c;rw[p] at c;unfold VR;cases e:fD.read x with
 |nan s f=>rw[e] at c;simp[Datum.order] at c
 |infinity s=>rw[e] at c;cases s<;>simp[Datum.order] at c
 |number s a i=>
  rw[e] at c;simp only[Datum.order,BT] at c;rw[cmp_eq] at c;by_cases q:i<=0
  ·refine⟨s,a,(-i).toNat,by rw[show -(((-i).toNat:Nat):Int)=i by omega],?_⟩;generalize w:(-i).toNat=d;have h:(i-min i (-(l:Int))).toNat=max d l-d:=by omega
   have j:(-(l:Int)-min i (-(l:Int))).toNat=max d l-l:=by omega
   rw[h,j,Oh s,Oh t,g,I2,<-I3,show l+(max d l-l)=max d l by omega] at c;refine Int.eq_of_mul_eq_mul_right (a:=(2:Int)^(max d l-d)) (by have:=pow_pos (max d l-d);omega) ?_;rw[c,I2,<-I3,show d+(max d l-d)=max d l by omega]
  ·exfalso;have y:=(ANg e).resolve_left q;have h:(i-min i (-(l:Int))).toNat=i.toNat+l:=by omega
   have j:(-(l:Int)-min i (-(l:Int))).toNat=0:=by omega
   rw[h,j,g] at c;have n:=congrArg Int.natAbs c;have r:(2:Int)^l=((2^l:Nat):Int):=by push_cast;rfl
   rw[AKZ,Int.natAbs_mul,r,Nx,GF,<-Fk] at n;have z:a*2^i.toNat=m.natAbs:=Nat.eq_of_mul_eq_mul_right (HC l) n;have u:1<=2^i.toNat:=HC _;have A:a*1<=a*2^i.toNat:=Nat.mul_le_mul_left _ u;omega
theorem BK.run {A:ak}{P:Q1}{s:Sem J0}{h:aa}{K:A2H}{v:J0}(b: ∀a,s.run P a= .ok v a)(c:K v h):BK A P s h K:=λd=>⟨v,h,d,b _,c⟩
section
variable {A : ak} {P : Q1} {t : Q7} {o1 o2 : Operand} {x y : Nat} {h : aa} {K : A2H}
end
open Go
theorem toList_inj {a b:A2I}:(a.toList==b.toList)=decide (a=b):=by rw[ByteArray.toList_eq,ByteArray.toList_eq];rw[Ge];simp[LR,<-Array.toList_inj]
theorem CZ {a b:A2I}:bU a b=decide (a=b):=toList_inj
theorem RP: ∀(a:List UInt8),Op.bytesLess a a=false
 | []=>rfl
 |a::x=>by simp[Op.bytesLess,RP x]
theorem mR: ∀(a b:List UInt8),Op.bytesLess a b=false->Op.bytesLess b a=false->a=b
 | [],[],_,_=>rfl
 | [],_::_,c,_=>by simp[Op.bytesLess] at c
 |_::_,[],_,c=>by simp[Op.bytesLess] at c
 |a::x,b::f,d,e=>by
  simp only[Op.bytesLess,Gk,A04,decide_eq_false_iff_not,beq_eq_false_iff_ne] at d e;have g:a=b:=by have h:=d.1;have i:=e.1;exact UInt8.le_antisymm (UInt8.not_lt.1 i) (UInt8.not_lt.1 h)
  subst g;rw[mR x f (d.2.resolve_left (by simp)) (e.2.resolve_left (by simp))]
theorem UG: ∀(a b c:List UInt8),Op.bytesLess a b=true->Op.bytesLess b c=true->Op.bytesLess a c=true
 |_,[],_,f,_=>by simp[Op.bytesLess] at f
 |_,_::_,[],_,f=>by simp[Op.bytesLess] at f
 | [],_::_,_::_,_,_=>by simp[Op.bytesLess]
 |a::x,b::g,c::z,e,d=>by
  simp only[Op.bytesLess,DE,A3,decide_eq_true_eq,beq_iff_eq] at e d ⊢;rcases e with e|⟨rfl,e⟩
  ·rcases d with d|⟨rfl,d⟩
   ·exact .inl (UInt8.lt_trans e d)
   ·exact .inl e
  ·rcases d with d|⟨rfl,d⟩
   ·exact .inl d
   ·exact .inr ⟨rfl,UG x g z e d⟩
theorem Cf(a:A2I):aR a a=false:=RP _
theorem DY {a b c:A2I}(d:aR a b=true)(e:aR b c=true):aR a c=true:=UG _ _ _ d e
theorem OQ {a b:A2I}(d:aR a b=false)(e:aR b a=false):a=b:=by
 have:=mR _ _ d e;have c:bU a b=true:=by simp[bU,this]
 rw[CZ] at c;simpa using c
theorem Om {a b:A2I}(c:aR a b=true):aR b a=false:=by
 cases d:aR b a
 ·rfl
 ·have:=DY c d;rw[Cf] at this;cases this
theorem Lx {a b:A2I}(c:aR a b=true):a≠b:=by rintro rfl;rw[Cf] at c;cases c
theorem oQ {a b c:A2I}(d:aR a b=true)(f:aR c b=false):aR a c=true:=by
 cases e:aR b c
 ·rw[OQ f e];exact d
 ·exact DY d e
theorem rj {a b c:A2I}(e:aR b a=false)(d:aR c b=false):aR c a=false:=by
 cases f:aR c a
 ·rfl
 ·have:=oQ f e;rw[this] at d;cases d
theorem wY: ∀(a b:List UInt8),Op.bytesLess a b=decide (a<b)
 | [],[]=>by simp[Op.bytesLess]
 | [],_::_=>by simp[Op.bytesLess]
 |_::_,[]=>by simp[Op.bytesLess]
 |a::x,b::c=>by
  simp only[Op.bytesLess,wY x c,A0d];by_cases d:a<b<;>by_cases e:a=b<;>simp[d,e]
theorem Zk(a b:A2I):aR a b=decide (a.data.toList<b.data.toList):=by simp[aR,ByteArray.toList_eq,wY]
def IR:cL A2I where
 enc x:= [.string x]
 w:=1
 len _:=rfl
 pos:=by omega
 one x v a:=by simp at a;subst a;rfl
def GV:cL Int where
 enc x:= [.int J9 x]
 w:=1
 len _:=rfl
 pos:=by omega
 one x v a:=by simp at a;subst a;rfl
theorem Cells.str {b:aa}{a:Q6}{x:A2I}(c:Cells b a (IR.enc x)):ah b a=some (.string x):=by have d:=c 0 _ rfl;rwa [add_zero] at d
theorem Cells.int {b:aa}{a:Q6}{x:Int}(c:Cells b a (GV.enc x)):ah b a=some (.int J9 x):=by have d:=c 0 _ rfl;rwa [add_zero] at d
theorem Own.lt {c:Type}{e:cL c}{T:Q7}{d:aa}{s:Sl}{l:List c}(f:Own e T d s l){b:Nat}(a:s.ag=some b):b<d.size:=by
 rcases f.row with⟨rfl,_⟩|⟨g,j,h,i,_⟩
 ·simp[Sl.ag] at a
 ·simp[Sl.ag,h] at a;subst a;exact Ag i
def gC(a:A2I)(v:J0):List (A2I×J0)->List (A2I×J0)
 | []=> [(a,v)]
 |p::m=>if p.1=a then(a,v)::m else p::gC a v m
def TR(a:A2I)(m:List (A2I×J0)):Option J0:=(m.find? λp=>decide (p.1=a)).map (·.2)
def j7(a:A2I)(m:List (A2I×J0)):List (A2I×J0):=m.filter λp=> !decide (p.1=a)
theorem Oy(a:A2I)(p:A2I×J0)(m:List (A2I×J0)):TR a (p::m)=if p.1=a then some p.2 else TR a m:=by unfold TR;rw[E0];by_cases b:p.1=a<;>simp[b]
structure eG (es:Array MapEntry) (clock:Nat) (m:List (A2I×J0)):Prop where
 same:es.toList.map (λe=>(e.key,e.val))=m.map λp=>(Value.string p.1,p.2)
 stamped:MapKept.Stamped es clock
 size:es.size<=maxLen
 keys: ∀p∈m,p.1.size<=maxLen
def UA(d:aa)(b:Nat)(m:List (A2I×J0)):Prop:= ∃a c,d[b]? =some (.map a c)/\eG a c m
theorem UA.mod {a c:aa}{b:Nat}{m:List (A2I×J0)}{d:Nat->Prop}(M:UA a b m)(x:Mod d a c)(e: ¬d b):UA c b m:=by obtain⟨f,g,h,i⟩:=M;exact⟨f,g,x.ag h e,i⟩
theorem UA.lt {a:aa}{b:Nat}{m:List (A2I×J0)}(M:UA a b m):b<a.size:=by obtain⟨d,e,c,f⟩:=M;exact Ag c
theorem UA.empty {a:aa}{b c:Nat}(d:a[b]? =some (.map #[] c)):UA a b []:=⟨#[],c,d,rfl,MapKept.stamped_empty c,by simp,by simp⟩
theorem eG.len {a:Array MapEntry}{b:Nat}{m:List (A2I×J0)}(M:eG a b m):a.size=m.length:=by rw[<- Hk];have:=congrArg List.length M.same;simpa using this
theorem eG.keysOf {a:Array MapEntry}{b:Nat}{m:List (A2I×J0)}(M:eG a b m):a.toList.map (·.key)=m.map λp=>Value.string p.1:=by have:=congrArg (List.map Prod.fst) M.same;simpa [B9,Fl] using this
theorem eG.nodup {b:Array MapEntry}{c:Nat}{m:List (A2I×J0)}(M:eG b c m):(m.map (·.1)).Nodup:=by
 have a:=M.stamped.2.2;rw[M.keysOf] at a;have d:(m.map λp=>Value.string p.1)=(m.map (·.1)).map Value.string:=by simp
 rw[d] at a;exact(List.pairwise_map.1 a).imp λe f=>e (congrArg _ f)
theorem Vt(a:A2I)(v:J0): ∀(c:List MapEntry) (m:List (A2I×J0)) (i:Nat),(c.map λe=>(e.key,e.val))=(m.map λp=>(Value.string p.1,p.2))->
  (Instr.findNow .string (.string a) c i=some none/\TR a m=none/\gC a v m=m++ [(a,v)]/\j7 a m=m/\ ∀e∈c,e.key≠ .string a)\/
  ∃d u,Instr.findNow .string (.string a) c i=some (some (i+d,u))/\TR a m=some u/\(∃ e,c[d]? =some e/\e.key= .string a)/\((c.modify d λe=> {e with key:= .string a,val:=v}).map λe=>(e.key,e.val))=(gC a v m).map (λp=>(Value.string p.1,p.2))/\
   ((m.map (·.1)).Nodup->((c.eraseIdx d).map λe=>(e.key,e.val))=(j7 a m).map λp=>(Value.string p.1,p.2))
 | [],[],i,_=> .inl ⟨rfl,rfl,rfl,rfl,by simp⟩
 | [],_::_,_,h=>by simp at h
 |_::_,[],_,h=>by simp at h
 |e::c,p::m,i,h=>by
  simp only[BW,GW,Lq] at h;obtain⟨⟨j,l⟩,n⟩:=h;have o:Instr.sameNow .string (.string a) e.key=some (decide (a=p.1)):=by rw[j];show some (a==p.1)=_;congr 1;rw[Ge,MapKept.bytes_beq];simp
  by_cases b:p.1=a
  ·refine .inr ⟨0,e.val,?_,?_,⟨e,rfl,by rw[j,b]⟩,?_,?_⟩
   ·unfold Instr.findNow;rw[o,decide_eq_true b.symm];rfl
   ·rw[Oy,if_pos b,l]
   ·unfold gC;rw[if_pos b];simp[n]
   ·intro g;have g:=List.nodup_cons.1 g;simp only[List.eraseIdx_zero,List.tail_cons];rw[n];congr 1;unfold j7;rw[AT];simp only[b,decide_true,KB,Cl,if_false];refine(List.filter_eq_self.2 λC w=>?_).symm;simp only[CA,decide_eq_false_iff_not];rintro rfl;exact g.1 (by show p.1∈_;rw[b];exact MA (f:=Prod.fst) w)
  ·rcases Vt a v c m (i+1) n with⟨q,r,s,k,y⟩|⟨d,u,q,r,⟨z,s,A⟩,B,k⟩
   ·refine .inl ⟨?_,?_,?_,?_,?_⟩
    ·unfold Instr.findNow;rw[o,decide_eq_false (λe=>b e.symm)];exact q
    ·rw[Oy,if_neg b];exact r
    ·unfold gC;rw[if_neg b,s];rfl
    ·unfold j7 at k ⊢;rw[AT];simp[b];simpa using k
    ·intro x t;rcases List.mem_cons.1 t with rfl|t
     ·rw[j];intro e;injection e with e;exact b e
     ·exact y x t
   ·refine .inr ⟨d+1,u,?_,?_,⟨z,by simpa using s,A⟩,?_,?_⟩
    ·unfold Instr.findNow;rw[o,decide_eq_false (λe=>b e.symm)];rw[show i+(d+1)=i+1+d by omega];exact q
    ·rw[Oy,if_neg b];exact r
    ·unfold gC;rw[if_neg b];simp[j,l,B]
    ·intro g;have g:=List.nodup_cons.1 g;have:=k g.2;unfold j7 at this ⊢;rw[AT];simp[b,j,l];simpa using this
section
variable {P : Q1}
theorem Jj {a:Q7}(c:P.underlying a=some .string)(d:Bool)(e:Nat)(f:A2I)(b:World):(Instr.checkKey d (e+1) a (.string f)).run P b= .ok () b:=by simp[Instr.checkKey,BL c]
theorem Oj {g:ak}{t h i:Q7}{z:J0}(j:P.underlying t=some (.map h i))(c:P.underlying h=some .string)(n:(zeroValue i).calc P=some z){a:aa}{b:Nat}{m:List (A2I×J0)}{d:A2I}{K:A2H}
  (M:UA a b m) (o:K ((TR d m).getD z) a):BK g P (Instr.lookup t (.map (some b)) (.string d) false) a K:=by
 intro k;refine⟨_,a,k,?_,o⟩;obtain⟨p,v,q,s⟩:=M;have l:=MapKept.run_getObj_map (P:=P) (w:=g.at a k) (r:=b) q;rcases Vt d z p.toList m 0 s.same with⟨e,f,_⟩|⟨x,u,e,f,_,_⟩
 ·simp[Instr.lookup,BL j,l,Jj c,Instr.findKey,BL c,e,f,Result.andThen,Da n]
 ·simp[Instr.lookup,BL j,l,Jj c,Instr.findKey,BL c,e,f,Result.andThen]
theorem wZ {b:A2I}{v:J0}: ∀ {m:List (A2I×J0)} {p:A2I×J0},p∈gC b v m->p.1=b\/p∈m
 | [],p,a=>by simp[gC] at a;exact .inl (by rw[a])
 |q::m,p,a=>by
  unfold gC at a;split at a
  ·rcases List.mem_cons.1 a with rfl|a
   ·exact .inl rfl
   ·exact .inr (AG _ a)
  ·rcases List.mem_cons.1 a with rfl|a
   ·exact .inr Cd
   ·exact(wZ a).imp id (AG _)
theorem xf {g:ak}{t s I:Q7}(y:P.underlying t=some (.map s I))(h:P.underlying s=some .string){d:aa}{b:Nat}{m:List (A2I×J0)}{a:A2I}{v:J0}{K:aa->Prop}
  (M:UA d b m) (J:a.size<=maxLen) (U:m.length<maxLen) (z: ∀i,UA i b (gC a v m)->Mod (λc=>c=b) d i->i.size=d.size->K i):gJ g P (Instr.mapUpdate t (.map (some b)) (.string a) v) d K:=by
 intro f;obtain⟨j,l,n,e⟩:=M;have A:=Ag n;have B:=MapKept.run_getObj_map (P:=P) (w:=g.at d f) (r:=b) n;have C: ∀k,(setObj b k).run P (g.at d f)= .ok () (g.at (d.setIfInBounds b k) f):=λk=>MapKept.run_setObj_map (P:=P) (w:=g.at d f) k n
 have D: ∀p∈gC a v m,p.1.size<=maxLen:=λp L=>(wZ L).elim (λd=>by rw[d];exact J) (e.keys p)
 have V:=e.len;rcases Vt a v j.toList m 0 e.same with⟨o,N,q,_,O⟩|⟨E,u,o,N,⟨Q,q,F⟩,R,_⟩
 ·refine⟨d.setIfInBounds b (.map (j.push {key:= .string a,val:=v,born:=l}) (l+1)),f,?_,z _ ⟨_,_,Ci A,?_,MapKept.stamped_push e.stamped O,by simp;omega,D⟩ (Mod.setObj rfl) (by simp)⟩
  ·simp[Instr.mapUpdate,BL y,B,Jj h,Instr.findKey,BL h,o,Result.andThen,C]
  ·rw[q];simp[e.same]
 ·have G:j[E]? =some Q:=by simpa using q
  refine⟨d.setIfInBounds b (.map (j.modify E λe=> {e with key:= .string a,val:=v}) l),f,?_,z _ ⟨_,_,Ci A,?_,MapKept.stamped_modify e.stamped _ _ (λ_ _=>rfl) (λx _ H=>?_),by simpa using e.size,D⟩ (Mod.setObj rfl) (by simp)⟩
  ·have S: ∀w,(Instr.keyThatStays (.string a) (.string a)).run P w= .ok (.string a) w:=λw=>by
    have T:(a==a)=true:=(MapKept.bytes_beq a a).2 rfl;simp[Instr.keyThatStays,Instr.sameBits,T]
   simp[Instr.mapUpdate,BL y,B,Jj h,Instr.findKey,BL h,o,G,F,S,Result.andThen,C]
  ·rw[Hn];exact R
  ·rw[G] at H;cases H;exact F.symm
theorem AMk {g:ak}{t l D E:Q7}(v:P.underlying t=some (.map l D))(h:P.underlying l=some .string){a:aa}{b:Nat}{m:List (A2I×J0)}{i:A2I}{K:A2H}
  (M:UA a b m) (x: ∀j,UA j b (j7 i m)->Mod (λc=>c=b) a j->j.size=a.size->K (.tuple #[]) j):BK g P (Builtin.delete_ #[t,l] E #[.map (some b),.string i]) a K:=by
 intro e;obtain⟨f,y,n,d⟩:=M;have z:=Ag n;have A:=MapKept.run_getObj_map (P:=P) (w:=g.at a e) (r:=b) n;have B: ∀k,(setObj b k).run P (g.at a e)= .ok () (g.at (a.setIfInBounds b k) e):=λk=>MapKept.run_setObj_map (P:=P) (w:=g.at a e) k n
 have C: ∀p∈j7 i m,p.1.size<=maxLen:=λp F=>d.keys p (List.mem_filter.1 F).1
 rcases Vt i (.bool true) f.toList m 0 d.same with⟨o,G,_,q,_⟩|⟨s,u,o,G,⟨H,I,N⟩,_,q⟩
 ·refine⟨_,a.setIfInBounds b (.map f y),e,?_,x _ ⟨_,_,Ci z,by rw[q];exact d.same,d.stamped,d.size,C⟩ (Mod.setObj rfl) (by simp)⟩;simp[Builtin.delete_,BL v,A,Jj h,Instr.findKey,BL h,o,Result.andThen,B]
 ·have J:f[s]? =some H:=by simpa using I
  refine⟨_,a.setIfInBounds b (.map (f.eraseIdxIfInBounds s) y),e,?_,x _ ⟨_,_,Ci z,?_,MapKept.stamped_erase d.stamped _,?_,C⟩ (Mod.setObj rfl) (by simp)⟩
  ·simp[Builtin.delete_,BL v,A,Jj h,Instr.findKey,BL h,o,Result.andThen,B]
  ·have L:=(Array.getElem?_eq_some_iff.1 J).1;rw[Array.eraseIdxIfInBounds,dif_pos L,A0g];exact q d.nodup
  ·have:(f.eraseIdxIfInBounds s).size<=f.size:=by unfold Array.eraseIdxIfInBounds;split<;>simp
   have:=d.size;omega
end
def lG(_:J0):Option (DataW Unit×List MemPlace):=some (.nil,[])
theorem xk {a:Type}(x:Lit×DataW a): ∀l:List (Lit×DataW a),(DataW.insert x l).Perm (x::l)
 | []=>by simp[DataW.insert]
 |y::b=>by
  unfold DataW.insert;split
  ·exact Is _
  ·exact((xk x b).cons y).trans (List.Perm.swap x y b)
theorem sorted_perm {a:Type}: ∀l:List (Lit×DataW a),(l.foldr DataW.insert []).Perm l
 | []=>Is _
 |x::b=>(xk x _).trans ((sorted_perm b).cons x)
theorem AKm {P:Q1}{kt:Q7}(j:P.underlying kt=some .string){w:World}{b:Nat}{m:List (A2I×J0)}(M:UA w.heap b m):
  ∃e:DataW Unit,w.ownsMap P kt lG b m.length e/\(strKeys e).Perm (m.map λp=>p.1.data.toList)/\Maps.size e=m.length:=by
 obtain⟨c,k,l,a⟩:=M;have h: ∀x∈c.toList,∃s:A2I,x.key= .string s/\WideElems.rd P kt lG x=some (.string s.data.toList,.nil):=by
  intro x d;have:x.key∈m.map λp=>Value.string p.1:=by rw[<- a.keysOf];exact MA d
  obtain⟨p,n,i⟩:=List.mem_map.1 this;refine⟨p.1,i.symm,?_⟩;simp[WideElems.rd,<-i,Go.WideMaps.keyOf_string_mk j (a.keys p n),lG]
 refine⟨_,⟨c,k,l,⟨a.size,a.stamped,λx d=>?_⟩,by rw[a.len];exact A0 _,rfl⟩,?_,?_⟩
 ·obtain⟨s,_,f⟩:=h x d;exact⟨_,f⟩
 ·show((c.toList.map (WideElems.rg P kt lG)).foldr DataW.insert [] |>.map λp=>strOf p.1).Perm _;refine((sorted_perm _).map _).trans ?_;have g:(c.toList.map (WideElems.rg P kt lG)).map (λp=>strOf p.1)=(c.toList.map (·.key)).map λv=>match v with| .string s=>s.data.toList|_=> []:=by
   rw[B9,B9];refine CD λx d=>?_
   obtain⟨s,g,f⟩:=h x d;simp[Function.comp,WideElems.rg,f,g,strOf]
  rw[g,a.keysOf,B9];exact List.Perm.of_eq (CD λx _=>rfl)
 ·show((c.toList.map (WideElems.rg P kt lG)).foldr DataW.insert []).length=_;rw[(sorted_perm _).length_eq];simp[a.len]
def oW(l:List A2I):Prop:=l.Pairwise λa b=>aR a b=true
theorem AJo {d:List (List UInt8)}{l:List A2I}(e:oW l)(f:d.Perm (l.map λx=>x.data.toList)):(d.mergeSort λx g=>decide (x<=g))=l.map λx=>x.data.toList:=by
 have h:=mergeSort_of_perm f;have i:(l.map λx=>x.data.toList).mergeSort leB=l.map λx=>x.data.toList:=by refine List.mergeSort_of_pairwise ?_;refine List.pairwise_map.2 (e.imp λ{a b} c=>?_);rw[Zk] at c;simp only[decide_eq_true_eq] at c ⊢;exact List.le_of_lt c
 exact h.trans i
theorem AMx(l:List A2I):(l.map λx=>x.data.toList).map Proofs.encStr=l.flatMap IR.enc:=by
 induction l with
 |nil=>rfl
 |cons x b a=>rw[BW,BW,a,AH];rfl
theorem wrap_u32(a:Nat):J8 .u32 (a:Int)=((a % 4294967296:Nat):Int):=by simp[J8,IntKind.bits,IntKind.signed]
theorem wrap_u64(a:Nat):J8 .u64 (a:Int)=((a % 18446744073709551616:Nat):Int):=by simp[J8,IntKind.bits,IntKind.signed]
theorem Vj {a b:Nat}(c:a<4294967296)(d:b<4294967296):gz .u32 (a:Int) (b:Int)=((a ^^^ b:Nat):Int):=by
 have e:a ^^^ b<2^32:=Kp (by simpa using c) (by simpa using d);unfold gz;have f:(BitVec.ofInt (IntKind.bits .u32) (a:Int) ^^^ BitVec.ofInt (IntKind.bits .u32) (b:Int)).toNat=a ^^^ b:=by show(BitVec.ofInt 32 (a:Int) ^^^ BitVec.ofInt 32 (b:Int)).toNat=a ^^^ b;rw[BitVec.ofInt_natCast,BitVec.ofInt_natCast,BitVec.toNat_xor,BitVec.toNat_ofNat,BitVec.toNat_ofNat,AD (by simpa using c),AD (by simpa using d)]
 rw[f,wrap_u32,AD (by simpa using e)]
theorem ASQ {a b:Nat}(c:a<4294967296)(d:b<4294967296):eF .u32 (a:Int) (b:Int)=((a ||| b:Nat):Int):=by
 have e:a ||| b<2^32:=IT (by simpa using c) (by simpa using d);unfold eF;have f:(BitVec.ofInt (IntKind.bits .u32) (a:Int) ||| BitVec.ofInt (IntKind.bits .u32) (b:Int)).toNat=a ||| b:=by show(BitVec.ofInt 32 (a:Int) ||| BitVec.ofInt 32 (b:Int)).toNat=a ||| b;rw[BitVec.ofInt_natCast,BitVec.ofInt_natCast,BitVec.toNat_or,BitVec.toNat_ofNat,BitVec.toNat_ofNat,AD (by simpa using c),AD (by simpa using d)]
 rw[f,wrap_u32,AD (by simpa using e)]
theorem sj {a b:Nat}(c:a<18446744073709551616)(d:b<18446744073709551616):eF .u64 (a:Int) (b:Int)=((a ||| b:Nat):Int):=by
 have e:a ||| b<2^64:=IT (by simpa using c) (by simpa using d);unfold eF;have f:(BitVec.ofInt (IntKind.bits .u64) (a:Int) ||| BitVec.ofInt (IntKind.bits .u64) (b:Int)).toNat=a ||| b:=by show(BitVec.ofInt 64 (a:Int) ||| BitVec.ofInt 64 (b:Int)).toNat=a ||| b;rw[BitVec.ofInt_natCast,BitVec.ofInt_natCast,BitVec.toNat_or,BitVec.toNat_ofNat,BitVec.toNat_ofNat,AD (by simpa using c),AD (by simpa using d)]
 rw[f,wrap_u64,AD (by simpa using e)]
theorem sk(a b:Nat):((a:Nat):Int)*((b:Nat):Int)=((a*b:Nat):Int):=(Int.natCast_mul a b).symm
def hA(a c:Nat):Nat:=((a ^^^ c)*16777619) % 4294967296
def hX(b c:Nat):Nat:=((b+c) % 4294967296*2246822507) % 4294967296
def hB(b c:Nat):Nat:=hX b c ^^^ (hX b c / 8192)
def Ux(l:List UInt8):Nat×Nat:=l.foldl (λs c=>(hA s.1 c.toNat,hB s.2 c.toNat)) (2166136261,2538058380)
def ng(a:A2I):Nat:=(Ux a.data.toList).1
def pw(a:A2I):Nat:=(Ux a.data.toList).2 ||| 1
theorem ATp(a c:Nat):hA a c<4294967296:=Cp _ (by decide)
theorem yF(b c:Nat):hX b c<4294967296:=Cp _ (by decide)
theorem ATY(b c:Nat):hB b c<4294967296:=by have a:=yF b c;have:hB b c<2^32:=Kp (by simpa using a) (by have:hX b c / 8192<=hX b c:=Rg _ _;omega);simpa using this
theorem yG(l:List UInt8)(c:UInt8):Ux (l++ [c])=(hA (Ux l).1 c.toNat,hB (Ux l).2 c.toNat):=by simp[Ux]
theorem yH(l:List UInt8):(Ux l).1<4294967296/\(Ux l).2<4294967296:=by
 rw[<- List.reverse_reverse l];cases l.reverse with
 |nil=>decide
 |cons c a=>rw[RM,yG];exact⟨ATp _ _,ATY _ _⟩
theorem yI(a:A2I):ng a<4294967296:=(yH _).1
theorem uj {a c:Nat}(b:a<4294967296)(d:c<256):J8 .u32 ((gz .u32 (a:Int) (J8 .u32 (c:Int)))*(16777619:Int))=((hA a c:Nat):Int):=by rw[wrap_u32,AD (by omega),Vj b (by omega),show((a ^^^ c:Nat):Int)*(16777619:Int)=(((a ^^^ c)*16777619:Nat):Int) from sk _ 16777619,wrap_u32];rfl
theorem ATS {b c:Nat}(a:b<4294967296)(d:c<256):J8 .u32 ((J8 .u32 ((b:Int)+(J8 .u32 (c:Int))))*(2246822507:Int))=((hX b c:Nat):Int):=by rw[wrap_u32 c,AD (by omega),show((b:Int)+(c:Int))=((b+c:Nat):Int) by push_cast;rfl,wrap_u32,show(((b+c) % 4294967296:Nat):Int)*(2246822507:Int)=(((b+c) % 4294967296*2246822507:Nat):Int) from sk _ 2246822507,wrap_u32];rfl
theorem Qx(n a:Nat):((n:Nat):Int).fdiv ((2:Int)^a)=((n / 2^a:Nat):Int):=by
 rw[T6 _ (by have:=Int.pow_pos (n:=2) (m:=a) (by decide);omega)]
 push_cast;rfl
theorem ATm {b c:Nat}(a:b<4294967296)(d:c<256):gz .u32 (J8 .u32 ((J8 .u32 ((b:Int)+(J8 .u32 (c:Int))))*(2246822507:Int))) ((J8 .u32 ((J8 .u32 ((b:Int)+(J8 .u32 (c:Int))))*(2246822507:Int))).fdiv ((2:Int)^(13:Nat)))=((hB b c:Nat):Int):=by have e:=yF b c;have f:hX b c / 2^13<=hX b c:=Rg _ _;rw[ATS a d,Qx,Vj e (by omega)];rfl
theorem OI {s:A2I}{i:Nat}{c:UInt8}(a:s.data.toList[i]? =some c):dD s ((i:Nat):Int)=((c.toNat:Nat):Int):=by
 have b:i<s.data.toList.length:=(List.getElem?_eq_some_iff.1 a).1;have d:i<s.size:=by simpa using b
 unfold dD;have e:((i:Nat):Int).toNat=i:=by omega
 rw[e];have f:s[i]? =some c:=by rw[getElem?_pos s i d];congr 1;have g:=(List.getElem?_eq_some_iff.1 a).2;rw[<- g];rw[Array.getElem_toList];rfl
 rw[f];rfl
def AX(l:List UInt8):A2I:=⟨l.toArray⟩
theorem Be(l:List UInt8):(AX l).data.toList=l:=by simp[AX]
theorem ED(s:A2I):AX s.data.toList=s:=by simp[AX]
theorem AP(l:List UInt8):(AX l).size=l.length:=by simp[AX,ByteArray.size]
theorem Mq {a b:List UInt8}:AX a=AX b↔a=b:=⟨λc=>by simpa [AX] using congrArg (λs:A2I=>s.data.toList) c,λc=>by rw[c]⟩
def Bu(a:Nat):UInt8:=UInt8.ofNat a
theorem Dt {a:Nat}(b:a<256):(Bu a).toNat=a:=by simp[Bu,UInt8.toNat_ofNat'];omega
theorem yJ(c:UInt8):Bu c.toNat=c:=by simp[Bu]
def BX(a:Nat):List UInt8:=if a<128 then [Bu a] else Bu (a % 128+128)::BX (a / 128)
termination_by a
decreasing_by omega
theorem Ff {n:Nat}(a:n<128):BX n= [Bu n]:=by rw[BX,if_pos a]
theorem YO {n:Nat}(a: ¬n<128):BX n=Bu (n % 128+128)::BX (n / 128):=by rw[BX,if_neg a]
def MJ:Nat->Nat->List UInt8->Option (Nat×List UInt8)
 |_,_,[]=>none
 |i,a,c::t=>
  if 10<=i\/(i=9/\1<c.toNat)\/(0<i/\c.toNat=0) then none
  else if c.toNat<128 then some (a+c.toNat*128^i,t) else MJ (i+1) (a+c.toNat % 128*128^i) t
theorem MR {i a:Nat}(b:i<=a):128^i<=128^a:=R0 (by decide) b
theorem ja(t:List UInt8): ∀(b i a:Nat),b*128^i<18446744073709551616->(i=0\/0<b)->MJ i a (BX b++t)=some (a+b*128^i,t):=by
 intro b
 induction b using Nat.strongRecOn with
 |ind b k=>
  intro i a h m;have n:0<128^i:=Nat.pos_of_ne_zero (Nat.pos_iff_ne_zero.1 (RR (by decide)));by_cases e:b<128
  ·rw[Ff e];simp only[DO,CT,MJ,Dt (show b<256 by omega)];rw[if_neg,if_pos e];rintro(c|⟨c,f⟩|⟨c,f⟩)
   ·have g:=MR c;have j:1*128^i<=b*128^i:=AK _ (by omega);have d:(128:Nat)^10=1180591620717411303424:=by decide
    omega
   ·subst c;have d:(128:Nat)^9=9223372036854775808:=by decide
    rw[d] at h;omega
   ·omega
  ·rw[YO e];have hd:b / 128<b:=by omega
   simp only[DO,MJ,Dt (show b % 128+128<256 by omega)];rw[if_neg,if_neg (by omega),k (b / 128) hd]
   ·have l:(b % 128+128) % 128=b % 128:=by omega
    rw[l,DP,HJ,show b % 128*128^i+b / 128*(128^i*128)=(b % 128+128*(b / 128))*128^i by
     rw[Dd,CM (128^i) 128,<-Fk,CM (b / 128) 128],Nat.mod_add_div]
   ·have g:b / 128*128<=b:=Nat.div_mul_le_self _ _;have j:b / 128*128*128^i<=b*128^i:=AK _ g;rw[DP,CM (128^i) 128,<-Fk];omega
   ·omega
   ·rintro(c|⟨c,f⟩|⟨c,f⟩)
    ·have g:=MR c;have j:128*128^i<=b*128^i:=AK _ (by omega);have d:(128:Nat)^10=1180591620717411303424:=by decide
     omega
    ·subst c;have d:(128:Nat)^9=9223372036854775808:=by decide
     rw[d] at h;omega
    ·omega
theorem yK: ∀(l:List UInt8) (i a n:Nat) (t:List UInt8),MJ i a l=some (n,t)-> ∃m,n=a+m*128^i/\l=BX m++t/\m*128^i<18446744073709551616/\(i=0\/0<m)
 | [],i,a,n,t,b=>by simp[MJ] at b
 |c::l,i,a,n,t,b=>by
  simp only[MJ] at b;split at b
  ·cases b
  ·rename_i v;have w:c.toNat<256:=c.toNat_lt;split at b
   ·rename_i e;obtain⟨rfl,rfl⟩:=b;refine⟨c.toNat,rfl,by rw[Ff e,yJ];rfl,?_,by omega⟩;have x:i<=9:=by omega
    by_cases h:i=9
    ·subst h;have d:(128:Nat)^9=9223372036854775808:=by decide
     rw[d];omega
    ·have j:=MR (show i<=8 by omega);have d:(128:Nat)^8=72057594037927936:=by decide
     have k:c.toNat*128^i<=127*128^i:=AK _ (by omega);omega
   ·rename_i e;obtain⟨m,o,rfl,f,y⟩:=yK l (i+1) _ n t b;have p:0<m:=by omega
    refine⟨c.toNat % 128+128*m,?_,?_,?_,by omega⟩
    ·rw[o,DP,Dd,HJ,CM (128^i) 128,<-Fk,CM m 128]
    ·rw[YO (n:=c.toNat % 128+128*m) (by omega),show(c.toNat % 128+128*m) % 128+128=c.toNat by omega,show(c.toNat % 128+128*m) / 128=m by omega,yJ];rfl
    ·rw[DP,CM (128^i) 128,<-Fk] at f;have z:(18446744073709551616:Nat)=144115188075855872*128:=by decide
     have A:i<=8:=by
      refine RT λq=>?_
      have j:=MR (show 9<=i from q);have d:(128:Nat)^9=9223372036854775808:=by decide
      have k:1*128*128^i<=m*128*128^i:=AK _ (AK _ p);omega
     have g:(18446744073709551616:Nat)=128^(i+1)*(18446744073709551616 / 128^(i+1)):=by
      have:i=0\/i=1\/i=2\/i=3\/i=4\/i=5\/i=6\/i=7\/i=8:=by omega
      rcases this with rfl|rfl|rfl|rfl|rfl|rfl|rfl|rfl|rfl<;>decide
     have r:0<128^i:=Nat.pos_of_ne_zero (Nat.pos_iff_ne_zero.1 (RR (by decide)));have s:m<18446744073709551616 / 128^(i+1):=by refine Nat.lt_of_mul_lt_mul_left (a:=128^(i+1)) ?_;rw[<- g,DP,CM,CM (128^i) 128,<-Fk];exact f
     have u:128^(i+1)*(m+1)<=128^(i+1)*(18446744073709551616 / 128^(i+1)):=Nat.mul_le_mul_left _ s;rw[<- g,DP] at u;have B:(c.toNat % 128+128*m)*128^i<128*(m+1)*128^i:=RK (by omega) r;have C:128*(m+1)*128^i=128^i*128*(m+1):=by rw[CM,<-Fk]
     omega
theorem yL: ∀(b a:Nat),a<128^(b+1)->(BX a).length<=b+1:=by
 intro b
 induction b with
 |zero=>intro a c;rw[Ff (by simpa using c)];simp
 |succ b e=>
  intro a c;by_cases d:a<128
  ·rw[Ff d];simp
  ·rw[YO d];have:=e (a / 128) (by rw[Nat.div_lt_iff_lt_mul (by decide),<-DP];exact c);simp;omega
theorem AV {n:Nat}(a:n<18446744073709551616):(BX n).length<=10:=by refine yL 9 n (F0 a ?_);decide
theorem lL {l:List UInt8}{a:Nat}{t:List UInt8}(d:MJ 0 0 l=some (a,t)):l=BX a++t/\a<18446744073709551616:=by obtain⟨m,b,e,c,_⟩:=yK l 0 0 a t d;simp at b c;subst b;exact⟨e,c⟩
theorem Vo {a:Nat}(b:a<18446744073709551616)(t:List UInt8):MJ 0 0 (BX a++t)=some (a,t):=by rw[ja t a 0 0 (by simpa using b) (.inl rfl)];simp
def nh(c:Nat):Nat:=if c % 2=1 then c / 2 ^^^ 3988292384 else c / 2
def px:Nat->Nat->Nat
 |0,c=>c
 |k+1,c=>nh (px k c)
def py(c:Nat)(b:UInt8):Nat:=px 8 (c ^^^ b.toNat)
def jb(l:List UInt8):Nat:=l.foldl py 4294967295
def jw(l:List UInt8):Nat:=4294967295-jb l
theorem AMy {c:Nat}(a:c<4294967296):nh c<4294967296:=by
 unfold nh;split
 ·exact Kp (n:=32) (by omega) (by decide)
 ·omega
theorem sn {c:Nat}(a:c<4294967296): ∀k,px k c<4294967296
 |0=>a
 |k+1=>AMy (sn a k)
theorem ARs {c:Nat}(a:c<4294967296)(b:UInt8):py c b<4294967296:=by have d:b.toNat<256:=b.toNat_lt;exact sn (Kp (n:=32) a (by omega)) 8
theorem ANm(l:List UInt8)(b:UInt8):jb (l++ [b])=py (jb l) b:=by simp[jb]
theorem yM(l:List UInt8):jb l<4294967296:=by
 unfold jb
 suffices ∀(l:List UInt8) (c:Nat),c<4294967296->l.foldl py c<4294967296 from this l _ (by decide)
 intro l
 induction l with
 |nil=>exact λc a=>a
 |cons x l b=>exact λc a=>b _ (ARs a x)
def Rh(a:Nat):List UInt8:= [Bu (a / 16777216 % 256),Bu (a / 65536 % 256),Bu (a / 256 % 256),Bu (a % 256)]
theorem Jl(a:Nat):(Rh a).length=4:=rfl
def Cg(l:List UInt8):List UInt8:=BX l.length++Rh (jw l)++l
def De(l:List UInt8):Nat×List UInt8×List UInt8:=
 match MJ 0 0 l with
 |none=>if l.length<10/\ ∀c∈l,128<=c.toNat then(20,[],[]) else(21,[],[])
 |some (a,b)=>
  if 1048576<a then(21,[],[]) else if b.length<4+a then(20,[],[])
  else if b.take 4=Rh (jw ((b.drop 4).take a)) then(0,(b.drop 4).take a,b.drop (4+a)) else(21,[],[])
theorem sq {l:List UInt8}(d:l.length<=1048576)(t:List UInt8):De (Cg l++t)=(0,l,t):=by
 unfold De Cg;rw[A4,A4,Vo (by omega)];dsimp only;rw[if_neg (by omega),if_neg (by simp[Jl])];have b:(Rh (jw l)++(l++t)).take 4=Rh (jw l):=by rw[N4 (by simp[Jl])];exact AE (by simp[Jl])
 have a:(Rh (jw l)++(l++t)).drop 4=l++t:=by rw[A0n (by simp[Jl])];simp[Rh]
 have c:(l++t).take l.length=l:=by simp
 rw[b,a,c,if_pos rfl,<-Hh,a];simp
structure Rd where
 rest:List UInt8
 bad:Bool
def Rd.fail:Rd:=⟨[],true⟩
def Hw(a:Rd):Nat×Rd:=if a.bad then(0,a) else match MJ 0 0 a.rest with|none=>(0,Rd.fail)|some (b,t)=>(b,⟨t,false⟩)
def CQ(b:Nat)(a:Rd):Nat×Rd:=if(Hw a).2.bad then(0,(Hw a).2) else if b<(Hw a).1 then(0,Rd.fail) else Hw a
def Kk(b:Nat)(a:Rd):List UInt8×Rd:=if a.bad then([],a) else if a.rest.length<b then([],Rd.fail) else(a.rest.take b,⟨a.rest.drop b,false⟩)
def FO(a:Rd):List UInt8×Rd:=if(Hw a).2.bad then([],(Hw a).2) else Kk (Hw a).1 (Hw a).2
def Su(a:Rd):Bool:= !a.bad&&a.rest.isEmpty
def BG(l:List UInt8):List UInt8:=BX l.length++l
theorem yN {a:Nat}(b:a<18446744073709551616)(t:List UInt8):Hw ⟨BX a++t,false⟩=(a,⟨t,false⟩):=by simp[Hw,Vo b]
theorem Cr {n most:Nat}(a:n<18446744073709551616)(b:n<=most)(t:List UInt8):CQ most ⟨BX n++t,false⟩=(n,⟨t,false⟩):=by simp only[CQ,yN a];simp;omega
theorem yO(l t:List UInt8):Kk l.length ⟨l++t,false⟩=(l,⟨t,false⟩):=by simp[Kk];omega
theorem Ik {l:List UInt8}(a:l.length<18446744073709551616)(t:List UInt8):FO ⟨BG l++t,false⟩=(l,⟨t,false⟩):=by simp only[FO,BG,A4,yN a,yO];simp
theorem AON {a:Rd}(b:a.bad=true):Hw a=(0,a):=by simp[Hw,b]
theorem yP {r:Rd}(a:(Hw r).2.bad=false):r.bad=false/\r.rest=BX (Hw r).1++(Hw r).2.rest/\(Hw r).1<18446744073709551616:=by
 unfold Hw at a ⊢;split at a
 ·rename_i b;rw[a] at b;cases b
 ·rename_i b;cases c:MJ 0 0 r.rest with
  |none=>rw[c] at a;cases a
  |some p=>
   obtain⟨f,t⟩:=p;obtain⟨d,e⟩:=lL c;simp only[b];exact⟨by simp,d,e⟩
theorem F8 {a:Rd}{m:Nat}(b:(CQ m a).2.bad=false):a.bad=false/\a.rest=BX (CQ m a).1++(CQ m a).2.rest/\(CQ m a).1<=m:=by
 unfold CQ at b ⊢;split at b
 ·rename_i c;rw[b] at c;cases c
 ·split at b
  ·cases b
  ·rename_i c d;rw[if_neg c,if_neg d];obtain⟨e,f,_⟩:=yP b;exact⟨e,f,by omega⟩
theorem AKx {a:Rd}{b:Nat}(c:(Kk b a).2.bad=false):a.bad=false/\a.rest=(Kk b a).1++(Kk b a).2.rest/\(Kk b a).1.length=b:=by
 unfold Kk at c ⊢;split at c
 ·rename_i d;rw[c] at d;cases d
 ·split at c
  ·cases c
  ·rename_i d e;rw[if_neg d,if_neg e];exact⟨by simpa using d,by simp,by simp;omega⟩
theorem SC {r:Rd}(b:(FO r).2.bad=false):r.bad=false/\r.rest=BG (FO r).1++(FO r).2.rest:=by
 unfold FO at b ⊢;split at b
 ·rename_i a;rw[b] at a;cases a
 ·rename_i a;rw[if_neg a];obtain⟨c,d,_⟩:=yP (r:=r) (by simpa using a);obtain⟨_,e,f⟩:=AKx b;refine⟨c,?_⟩;rw[d,e,BG,A4];rw[f]
theorem UW(a:Rd):(Hw a).2.rest.length<=a.rest.length:=by
 unfold Hw;split
 ·exact A0 _
 ·split
  ·simp[Rd.fail]
  ·rename_i d t b;obtain⟨c,_⟩:=lL b;rw[c];simp
theorem Hq(m:Nat)(a:Rd):(CQ m a).2.rest.length<=a.rest.length:=by
 unfold CQ;split
 ·exact UW a
 ·split
  ·simp[Rd.fail]
  ·exact UW a
theorem AM2(b:Nat)(a:Rd):(Kk b a).2.rest.length<=a.rest.length/\(Kk b a).1.length<=a.rest.length:=by
 unfold Kk;split
 ·simp
 ·split
  ·simp[Rd.fail]
  ·simp;omega
theorem RF(a:Rd):(FO a).2.rest.length<=a.rest.length/\(FO a).1.length<=a.rest.length:=by
 unfold FO;split
 ·exact⟨UW a,by simp⟩
 ·have:=AM2 (Hw a).1 (Hw a).2;have:=UW a;omega
def Ho:cL UInt8 where
 enc x:= [.int .u8 (x.toNat:Int)]
 w:=1
 len _:=rfl
 pos:=by omega
 one x v a:=by simp at a;subst a;rfl
theorem Cells.byte {b:aa}{a:Q6}{x:UInt8}(c:Cells b a (Ho.enc x)):ah b a=some (.int .u8 (x.toNat:Int)):=by have d:=c 0 _ rfl;rwa [add_zero] at d
theorem yQ: ∀(l:List UInt8) (s:A2I),(l.map λc=>(c.toNat:Int)).foldl (λa b=>a.push (UInt8.ofNat b.toNat)) s=⟨s.data++l.toArray⟩
 | [],s=>by simp
 |c::l,s=>by
  simp only[BW,HX];rw[yQ l];simp[ByteArray.push,Array.append_assoc]
theorem Kn {e:ak}{P:Q1}{g h i:Q7}(m:P.underlying g=some (.slice i))(n:P.underlying i=some (.int .u8))(hd:P.underlying h=some .string){b:aa}{s:Sl}{l:List UInt8}{K:A2H}
  (v:View Ho b s l) (o:K (.string (AX l)) b):BK e P (convert g h (.slice s.p s.len s.cap)) b K:=by
 have p:=v.len;refine λf=>⟨_,b,f,?_,o⟩
 rw[run_convert_bytes_string _ g h i _ s.len s.cap m n hd];cases j:s.p with
 |none=>
  have q:l= []:=by
   cases l with
   |nil=>rfl
   |cons c l=>
    obtain⟨a,d,_⟩:=v.cells 0 c rfl;rw[j] at d;cases d
  subst q;simp[Conv.bytesToString,AX];rfl
 |some a=>
  have r:(loadCells a s.len).run P (e.at b f)= .ok ((l.map λc=>(c.toNat:Int)).map (Value.int .u8)).toArray (e.at b f):=by
   have:=run_loadCells_list (P:=P) (w:=e.at b f) a ((l.map λc=>(c.toNat:Int)).map (Value.int .u8)) (λt u k=>by
    simp only[BE,Option.map_map,A09] at k;obtain⟨c,x,rfl⟩:=k;obtain⟨z,d,y⟩:=v.cells t c x;rw[j] at d;cases d;have:=Cells.byte y;simp only[Ho,Bs] at this;exact this)
   simpa [p] using this
  rw[run_bytesToString _ a s.len s.cap _ r,yQ];simp[AX,ByteArray.empty,ByteArray.emptyWithCapacity];rfl
theorem eI(s:A2I)(i a:Nat):s.extract i a=AX ((s.data.toList.take a).drop i):=by apply NO;rw[RW,AX];apply Array.toList_inj.1;simp[Se,List.extract_eq_take_drop,List.drop_take]
theorem yR(s:A2I):s.data.toList.length=s.size:=by rw[Hk];rfl
theorem sr(s:A2I)(i:Nat):s.extract i s.size=AX (s.data.toList.drop i):=by rw[eI,AE (by rw[yR];exact A0 _)]
theorem AOM(s:A2I)(i:Nat):s.extract 0 i=AX (s.data.toList.take i):=by rw[eI];simp
theorem wrap_u8(a:Nat):J8 .u8 (a:Int)=((a % 256:Nat):Int):=by simp[J8,IntKind.bits,IntKind.signed]
theorem yS {a b:Nat}(c:a<256)(d:b<256):eF .u8 (a:Int) (b:Int)=((a ||| b:Nat):Int):=by
 have e:a ||| b<2^8:=IT (by simpa using c) (by simpa using d);unfold eF;have f:(BitVec.ofInt (IntKind.bits .u8) (a:Int) ||| BitVec.ofInt (IntKind.bits .u8) (b:Int)).toNat=a ||| b:=by show(BitVec.ofInt 8 (a:Int) ||| BitVec.ofInt 8 (b:Int)).toNat=a ||| b;rw[BitVec.ofInt_natCast,BitVec.ofInt_natCast,BitVec.toNat_or,BitVec.toNat_ofNat,BitVec.toNat_ofNat,AD (by simpa using c),AD (by simpa using d)]
 rw[f,wrap_u8,AD (by simpa using e)]
theorem yT {a b:Nat}(c:a<256)(d:b<256):Gn .u8 (a:Int) (b:Int)=((a &&& b:Nat):Int):=by
 have e:a &&& b<2^8:=R2 Nat.and_le_left (by simpa using c);unfold Gn;have f:(BitVec.ofInt (IntKind.bits .u8) (a:Int) &&& BitVec.ofInt (IntKind.bits .u8) (b:Int)).toNat=a &&& b:=by show(BitVec.ofInt 8 (a:Int) &&& BitVec.ofInt 8 (b:Int)).toNat=a &&& b;rw[BitVec.ofInt_natCast,BitVec.ofInt_natCast,BitVec.toNat_and,BitVec.toNat_ofNat,BitVec.toNat_ofNat,AD (by simpa using c),AD (by simpa using d)]
 rw[f,wrap_u8,AD (by simpa using e)]
theorem ARW {a b:Nat}(c:a<4294967296)(d:b<4294967296):Gn .u32 (a:Int) (b:Int)=((a &&& b:Nat):Int):=by
 have e:a &&& b<2^32:=R2 Nat.and_le_left (by simpa using c);unfold Gn;have f:(BitVec.ofInt (IntKind.bits .u32) (a:Int) &&& BitVec.ofInt (IntKind.bits .u32) (b:Int)).toNat=a &&& b:=by show(BitVec.ofInt 32 (a:Int) &&& BitVec.ofInt 32 (b:Int)).toNat=a &&& b;rw[BitVec.ofInt_natCast,BitVec.ofInt_natCast,BitVec.toNat_and,BitVec.toNat_ofNat,BitVec.toNat_ofNat,AD (by simpa using c),AD (by simpa using d)]
 rw[f,wrap_u32,AD (by simpa using e)]
theorem AUB: ∀x,x<256->x ||| 128=x % 128+128:=by decide +kernel
theorem ASw: ∀x,x<256->x &&& 127=x % 128:=by decide +kernel
theorem AQQ(c:Nat):eF .u8 (J8 .u8 (c:Int)) (128:Int)=(((Bu (c % 128+128)).toNat:Nat):Int):=by have d:=yS (a:=c % 256) (b:=128) (Cp _ (by decide)) (by decide);rw[wrap_u8];rw[show(128:Int)=((128:Nat):Int) from rfl,d,AUB _ (Cp _ (by decide)),Dt (by omega)];congr 1;omega
theorem su(i:Nat):2^(7*i)=128^i:=by rw[Nat.pow_mul]
theorem ARD {a x i:Nat}(d:i<=9)(e:a<128^i)(f:x<128):eF .u64 (a:Int) (((x*128^i % 18446744073709551616:Nat)):Int)=((a+x*128^i % 18446744073709551616:Nat):Int):=by
 have g:0<128^i:=RR (by decide);have h:=MR d;have j:(128:Nat)^9=9223372036854775808:=by decide
 rw[sj (by omega) (Cp _ (by decide))];congr 1;have b: ∃c,(18446744073709551616:Nat)=128^i*c:=by
  have:i=0\/i=1\/i=2\/i=3\/i=4\/i=5\/i=6\/i=7\/i=8\/i=9:=by omega
  refine⟨18446744073709551616 / 128^i,?_⟩;rcases this with rfl|rfl|rfl|rfl|rfl|rfl|rfl|rfl|rfl|rfl<;>decide
 obtain⟨c,b⟩:=b;rw[b,CM x,Nat.mul_mod_mul_left,<-su,Nat.or_comm,Nat.add_comm];exact(A0C (by rw[su];exact e) _).symm
theorem ATH {x i:Nat}(b:i<=9)(c:x<128):J8 .u64 (((x:Nat):Int)*((2:Int)^(min ((7*i:Nat):Int).toNat (IntKind.bits .u64))))=((x*128^i % 18446744073709551616:Nat):Int):=by
 have a:min ((7*i:Nat):Int).toNat (IntKind.bits .u64)=7*i:=by have:IntKind.bits .u64=64:=rfl;omega
 rw[a,show((2:Int)^(7*i))=((2^(7*i):Nat):Int) by simp,sk,wrap_u64,su]
theorem Mod.more {a d e:aa}{f:Nat->Prop}(x:Ext a d)(m:Mod f d e)(g: ∀b,f b->a.size<=b):Ext a e:=
 Mod.then x (m.aj λc _ h=> .inr (g c h))
abbrev bl(s:A2I):List UInt8:=s.data.toList
theorem A7(s:A2I):(bl s).length=s.size:=yR s
theorem EF(l:List UInt8):bl (AX l)=l:=Be l
theorem KQ(s:A2I):AX (bl s)=s:=ED s
def Aj(s:A2I):Bool:=decide (1<=s.size/\s.size<=16/\ ∀c∈bl s,33<=c.toNat/\c.toNat<=126)
theorem Gj {s:A2I}:Aj s=true↔1<=s.size/\s.size<=16/\ ∀c∈bl s,33<=c.toNat/\c.toNat<=126:=by simp[Aj]
structure cD where
 kind:Int
 name:A2I
 aV:A2I
 tries:Int
 aF:Int
 wait:Int
def cD.cells(x:cD):Array J0:= #[J6 J9 x.kind,J7 x.name,J7 x.aV,J6 J9 x.tries,J6 J9 x.aF,J6 J9 x.wait]
def TZ:cL cD where
 enc x:= [J6 J9 x.kind,J7 x.name,J7 x.aV,J6 J9 x.tries,J6 J9 x.aF,J6 J9 x.wait]
 w:=6
 len _:=rfl
 pos:=by omega
 one x v a:=by simp at a;rcases a with rfl|rfl|rfl|rfl|rfl|rfl<;>rfl
abbrev Hu:A2I:=⟨#[]⟩
def bX(a b c:Int):Bool:=decide (b<=a/\a<=c)
theorem Bc {a b c:Int}:bX a b c=true↔b<=a/\a<=c:=by simp[bX]
def NK(x:cD):Bool:=
 if x.kind=1 then((decide (x.aV=Hu)&&decide (x.aF=0))||(Aj x.aV&&bX x.aF 1 5))&&Aj x.name&&bX x.tries 1 5&&decide (x.wait=0)
 else if x.kind=2 then decide (x.name=Hu)&&decide (x.aV=Hu)&&decide (x.tries=0)&&decide (x.aF=0)&&bX x.wait 1 1000
 else if x.kind=3 then decide (x.aV=Hu)&&decide (x.tries=0)&&decide (x.aF=0)&&decide (x.wait=0)&&Aj x.name
 else false
structure cA where
 steps:List cD
 aG:Int
def GL(p:cA):Bool:=decide (p.steps.length<=16)&&bX p.aG 0 16000&&p.steps.all NK
def Hm(x:cD):List UInt8:=BX x.kind.toNat++
 (if x.kind=1 then BG (bl x.name)++BX x.tries.toNat++BG (bl x.aV)++BX x.aF.toNat else if x.kind=2 then BX x.wait.toNat else BG (bl x.name))
def Cs(p:cA):List UInt8:=BX p.aG.toNat++BX p.steps.length++p.steps.flatMap Hm
def Mo(g e h:Nat)(i:Bool)(j:Rd):cD×Rd:=
 let d:=CQ g j
 if d.1=1 then
  let a:=FO d.2
  let b:=CQ e a.2
  let c:=FO b.2
  let f:=CQ e c.2
  (⟨1,AX a.1,AX c.1,b.1,f.1,0⟩,f.2)
 else if d.1=2 then
  let a:=CQ h d.2
  (⟨2,Hu,Hu,0,0,a.1⟩,a.2)
 else if d.1=3\/i=true then
  let a:=FO d.2
  (⟨d.1,AX a.1,Hu,0,0,0⟩,a.2)
 else(⟨d.1,Hu,Hu,0,0,0⟩,d.2)
def IC(b c d:Nat)(e:Bool):Nat->Rd->List cD×Rd
 |0,a=>([],a)
 |n+1,a=>let x:=Mo b c d e a;let f:=IC b c d e n x.2;(x.1::f.1,f.2)
def ZP(c d e f:Nat)(g:Bool)(l:List UInt8):cA×Rd:=
 let a:=CQ c ⟨l,false⟩
 let b:=CQ 16 a.2
 let s:=IC d e f g b.1 b.2
 (⟨s.1,a.1⟩,s.2)
def Ja(l:List UInt8):Option cA:=let x:=ZP 16000 3 5 1000 false l;if Su x.2&&GL x.1 then some x.1 else none
theorem xl {a:Rd}:Su a=true↔a=⟨[],false⟩:=by obtain⟨l,b⟩:=a;cases b<;>cases l<;>simp[Su]
theorem APL {a b c:Int}(d:bX a b c=true)(e:0<=b):((a.toNat:Nat):Int)=a:=by rw[Bc] at d;omega
theorem AM1 {c f h:Nat}{p:Bool}(q:3<=c)(F:5<=f)(G:1000<=h){x:cD}(a:NK x=true)(t:List UInt8):Mo c f h p ⟨Hm x++t,false⟩=(x,⟨t,false⟩):=by
 obtain⟨H,name,o,r,i,u⟩:=x;have j: ∀ {s:A2I},s.size<=16->(bl s).length<18446744073709551616:=λg=>by rw[A7];omega
 have k: ∀ {s:A2I},Aj s=true->s.size<=16:=λg=>(Gj.1 g).2.1
 unfold NK at a;split at a
 ·rename_i b;simp only at b;subst b;simp only[A3,DE,decide_eq_true_eq] at a;obtain⟨⟨⟨v,m⟩,w⟩,rfl⟩:=a;have y:o.size<=16/\0<=i/\i<=5:=by
   rcases v with⟨rfl,rfl⟩|⟨g,z⟩
   ·exact⟨by decide,by omega,by omega⟩
   ·rw[Bc] at z;exact⟨k g,by omega,by omega⟩
  rw[Bc] at w;have d:=Cr (n:=(1:Int).toNat) (most:=c) (by decide) (by simpa using(by omega:1<=c));have e:=Ik (l:=bl name) (j (k m));have A:=Cr (n:=r.toNat) (most:=f) (by omega) (by omega);have B:=Ik (l:=bl o) (j y.1);have C:=Cr (n:=i.toNat) (most:=f) (by omega) (by omega);simp only[Mo,Hm,if_true,A4,d,e,A,B,C];rw[if_pos (by decide)];simp[ED];omega
 ·split at a
  ·rename_i D b;simp only at b;subst b;simp only[A3,decide_eq_true_eq] at a;obtain⟨⟨⟨⟨rfl,rfl⟩,rfl⟩,rfl⟩,E⟩:=a;rw[Bc] at E;have d:=Cr (n:=(2:Int).toNat) (most:=c) (by decide) (by simpa using(by omega:2<=c));have e:=Cr (n:=u.toNat) (most:=h) (by omega) (by omega);simp only[Mo,Hm,if_true,A4,d];rw[if_neg (by decide),if_pos (by decide),if_neg (by decide),e];simp;omega
  ·split at a
   ·rename_i D I b;simp only at b;subst b;simp only[A3,decide_eq_true_eq] at a;obtain⟨⟨⟨⟨rfl,rfl⟩,rfl⟩,rfl⟩,m⟩:=a;have d:=Cr (n:=(3:Int).toNat) (most:=c) (by decide) (by simpa using q);have e:=Ik (l:=bl name) (j (k m));simp only[Mo,Hm,if_true,A4,d];rw[if_neg (by decide),if_neg (by decide),if_pos (.inl (by decide)),if_neg (by decide),if_neg (by decide),e];simp[ED]
   ·cases a
theorem xn {b c d:Nat}{all:Bool}(e:3<=b)(f:5<=c)(g:1000<=d)(t:List UInt8): ∀ {l:List cD},l.all NK=true->IC b c d all l.length ⟨l.flatMap Hm++t,false⟩=(l,⟨t,false⟩)
 | [],_=>rfl
 |x::l,a=>by
  simp only[DG,A3] at a;simp only[A6,IC,AH,A4,AM1 e f g a.1,xn e f g t a.2]
theorem AMf {a b c d:Nat}{all:Bool}(s:16000<=a)(h:3<=b)(i:5<=c)(j:1000<=d){p:cA}(e:GL p=true):ZP a b c d all (Cs p)=(p,⟨[],false⟩):=by obtain⟨l,k⟩:=p;simp only[GL,A3,decide_eq_true_eq] at e;obtain⟨⟨m,f⟩,o⟩:=e;have t:=Bc.1 f;have q:=Cr (n:=k.toNat) (most:=a) (by omega) (by omega);have r:=Cr (n:=l.length) (most:=16) (by omega) m;have g:=xn (all:=all) h i j [] o;rw[AN] at g;simp only[ZP,Cs,A4,q,r,g,APL f (by decide)]
theorem xo {p:cA}(a:GL p=true):Ja (Cs p)=some p:=by simp only[Ja,AMf (A0 _) (A0 _) (A0 _) (A0 _) a,a];rfl
theorem AKq {j k l:Nat}{m:Bool}{e:Rd}(a:(Mo j k l m e).2.bad=false):e.bad=false/\(NK (Mo j k l m e).1=true->e.rest=Hm (Mo j k l m e).1++(Mo j k l m e).2.rest):=by
 unfold Mo at a ⊢;simp only at a ⊢;split at a
 ·rename_i b;obtain⟨o,p,_⟩:=F8 a;obtain⟨c1,c2⟩:=SC o;obtain⟨q,r,_⟩:=F8 c1;obtain⟨g,h⟩:=SC q;obtain⟨c,f,_⟩:=F8 g;refine⟨c,λ_=>?_⟩;rw[if_pos b];simp only[Hm,if_true,EF,AF];rw[f,b,h,r,c2,p];simp[A4]
 ·split at a
  ·rename_i i b;obtain⟨g,h,_⟩:=F8 a;obtain⟨c,f,_⟩:=F8 g;refine⟨c,λ_=>?_⟩;rw[if_neg i,if_pos b];simp only[Hm,AF];rw[if_neg (by decide),if_pos trivial,f,b,h];simp[A4]
  ·split at a
   ·rename_i i n b;obtain⟨g,h⟩:=SC a;obtain⟨c,f,_⟩:=F8 g;refine⟨c,λd=>?_⟩;rw[if_neg i,if_neg n,if_pos b] at d ⊢;simp only[Hm,EF,AF];rw[if_neg (by omega),if_neg (by omega),f,h];simp[A4]
   ·rename_i i n b;obtain⟨c,f,_⟩:=F8 a;refine⟨c,λd=>?_⟩;rw[if_neg i,if_neg n,if_neg b] at d;exfalso;unfold NK at d;simp only at d;rw[if_neg (by omega),if_neg (by omega),if_neg (by omega)] at d;cases d
theorem xp {b c d:Nat}{e:Bool}: ∀(n:Nat) {a:Rd},(IC b c d e n a).2.bad=false->a.bad=false/\(IC b c d e n a).1.length=n/\((IC b c d e n a).1.all NK=true->a.rest=(IC b c d e n a).1.flatMap Hm++(IC b c d e n a).2.rest)
 |0,a,f=>⟨f,rfl,λ_=>rfl⟩
 |n+1,a,f=>by
  simp only[IC] at f ⊢;obtain⟨h,i,j⟩:=xp n f;obtain⟨k,l⟩:=AKq h;refine⟨k,by simp[i],λg=>?_⟩;simp only[DG,A3] at g;rw[l g.1,j g.2];simp[A4]
theorem xq {l:List UInt8}{p:cA}(a:Ja l=some p):GL p=true/\Cs p=l:=by
 unfold Ja at a;simp only at a;split at a
 ·rename_i e;simp only[A3] at e;obtain⟨d,b⟩:=e;obtain rfl:=Bm a;refine⟨b,?_⟩;rw[xl] at d;have f:(ZP 16000 3 5 1000 false l).2.bad=false:=by rw[d]
  have g:(ZP 16000 3 5 1000 false l).2.rest= []:=by rw[d]
  simp only[ZP] at f g b ⊢;obtain⟨h,i,c⟩:=xp _ f;obtain⟨j,k,_⟩:=F8 h;obtain⟨c1,c2,_⟩:=F8 j;simp only[GL,A3] at b;have c:=c b.2;rw[g,AN] at c;simp only[Cs,AF,i];have c2:l=BX (CQ 16000 ⟨l,false⟩).1++(CQ 16000 ⟨l,false⟩).2.rest:=c2;rw[<- c,A4,<-k,<-c2]
 ·cases a
inductive Fv where
 |i (n:Int)
 |s (x:A2I)
 |b (x:Bool)
 deriving DecidableEq
def Fv.v:Fv->J0
 | .i a=>J6 J9 a
 | .s x=>J7 x
 | .b x=>J3 x
def Fv.ok(P:Q1)(t:Q7):Fv->Bool
 | .i _=>match P.underlying t with|some (.int J9)=>true|_=>false
 | .s _=>match P.underlying t with|some .string=>true|_=>false
 | .b _=>match P.underlying t with|some .bool=>true|_=>false
def rC:Fv->Fv->Bool
 | .i _,.i _=>true
 | .s _,.s _=>true
 | .b _,.b _=>true
 |_,_=>false
def lH(P:Q1):Nat->List Field->List Fv->Bool
 |_,[],[]=>true
 |i,f::a,x::b=> !(f.name==String.ofList [Char.ofNat 95])&&Nat.beq f.offset i&&x.ok P f.type&&lH P (i+1) a b
 |_,_,_=>false
def cT:List Fv->List Fv->Bool
 | [],[]=>true
 |x::a,b::c=>rC x b&&cT a c
 |_,_=>false
theorem ARU {P:Q1}{e:Nat}{t:Q7}{x f:Fv}(g:x.ok P t=true)(h:rC x f=true)(c:World):(Op.equalIn (e+1) t x.v f.v).run P c= .ok (decide (x=f)) c:=by
 cases x<;>cases f<;>simp only[rC,Cl] at h<;>simp only[Fv.ok] at g<;>split at g<;>(try cases g)
 ·rename_i i m _ d;simp only[Fv.v];rw[run_equalIn_int c e t J9 J9 i m d];simp only[Fv.i.injEq];rfl
 ·rename_i a b _ d;simp only[Fv.v];rw[run_equalIn_string c e t a b d,toList_inj];simp only[Fv.s.injEq]
 ·rename_i a b _ d;simp only[Fv.v];rw[run_equalIn_bool' c e t a b d];simp only[Fv.b.injEq];cases a<;>cases b<;>rfl
theorem Fv.plain {P:Q1}{t:Q7}{x:Fv}(a:x.ok P t=true):P.plainKey t=true:=by cases x<;>simp only[Fv.ok] at a<;>split at a<;>(try cases a)<;>(rename_i b;simp[Program.plainKey,b])
theorem xt {P:Q1}{t:Nat}(e g:List Fv)(c:World): ∀(h:List Field) (a b:List Fv) (i:Nat),e.drop i=a->g.drop i=b->lH P i h a=true->cT a b=true->
  (Op.eqFields (t+1) (e.map Fv.v).toArray (g.map Fv.v).toArray h).run P c= .ok (decide (a=b)) c:=by
 intro h
 induction h with
 |nil=>
  intro a b i m n j d;cases a with
  |nil=>
   cases b with
   |nil=>simp[Op.eqFields]
   |cons k b=>simp[cT] at d
  |cons x a=>simp[lH] at j
 |cons f h u=>
  intro a b i m n j d;cases a with
  |nil=>simp[lH] at j
  |cons x a=>
   cases b with
   |nil=>simp[cT] at d
   |cons k b=>
    simp only[lH,cT,A3,Nat.beq_eq] at j d;obtain⟨⟨⟨p,q⟩,o⟩,v⟩:=j;have w:e[i]? =some x:=by have:=congrArg (λl:List Fv=>l[0]?) m;simpa [C5] using this
    have y:g[i]? =some k:=by have:=congrArg (λl:List Fv=>l[0]?) n;simpa [C5] using this
    have z:e.drop (i+1)=a:=by rw[<- Hh,m];rfl
    have A:g.drop (i+1)=b:=by rw[<- Hh,n];rfl
    have B:(part f.type (e.map Fv.v).toArray f.offset).run P c= .ok x.v c:=run_part_plain c (Fv.plain o) (by rw[q];simp[w]);have C:(part f.type (g.map Fv.v).toArray f.offset).run P c= .ok k.v c:=run_part_plain c (Fv.plain o) (by rw[q];simp[y]);have D:=u a b (i+1) z A v d.2
    have E : String.ofList [Char.ofNat 95] = "_" := by decide
    rw[E] at p
    have r : (f.name == "_") = false := by simpa using p
    simp only[Op.eqFields,r,Sem.run_bind,Sem.run_ite,B,C,Result.andThen_ok,ARU o d.1];by_cases s:x=k
    ·simp[s,D,Result.andThen]
    ·have F : f.name ≠ "_" := by simpa using r
     simp[s,Result.andThen,F]
def lI(P:Q1)(t:Q7)(a:List Fv):Bool:= !P.stoodInHeld t&& !P.eqGuardType P.depth t&&lH P 0 (P.fieldsOf t).toList a
theorem rD {e:ak}{P:Q1}{t:Q7}{f g:Operand}{xs ys:List Fv}(h:P.underlying t=some (.struct (P.fieldsOf t)))(a:lI P t xs=true)(i:cT xs ys=true){b c:Array J0}
  (j:b=(xs.map Fv.v).toArray) (k:c=(ys.map Fv.v).toArray) {d:aa} {K:A2H} (l:K (J3 (decide (xs=ys))) d):
  BK e P (do eqGuard .eql t f g (.agg b) (.agg c);binOp .eql t (.agg b) (.agg c)) d K:=by
 simp only[lI,A3,CA] at a;subst j;subst k;refine λm=>⟨_,d,m,?_,l⟩
 rw[Sem.run_bind,run_eqGuard_agg _ _ _ _ _ _ _ a.1.2,Result.andThen_ok,run_eql_struct,run_equalIn_agg _ _ _ _ _ h a.1.1,xt xs ys _ _ xs ys 0 rfl rfl a.2 i];rfl
theorem ARv {e:ak}{P:Q1}{t:Q7}{f g:Operand}{xs ys:List Fv}(h:P.underlying t=some (.struct (P.fieldsOf t)))(a:lI P t xs=true)(i:cT xs ys=true){b c:Array J0}
  (j:b=(xs.map Fv.v).toArray) (k:c=(ys.map Fv.v).toArray) {d:aa} {K:A2H} (l:K (J3 (!decide (xs=ys))) d):
  BK e P (do eqGuard .neq t f g (.agg b) (.agg c);binOp .neq t (.agg b) (.agg c)) d K:=by
 simp only[lI,A3,CA] at a;subst j;subst k;refine λm=>⟨_,d,m,?_,l⟩
 rw[Sem.run_bind,run_eqGuard_agg _ _ _ _ _ _ _ a.1.2,Result.andThen_ok,run_neq_struct,run_equalIn_agg _ _ _ _ _ h a.1.1,xt xs ys _ _ xs ys 0 rfl rfl a.2 i];rfl
theorem ae.two {a:aa}{b:Nat}{T:Q7}{f g d v1:J0}{K:aa->Prop}(h:a[b]? =some (J2 #[f,g] T (0,0)))
  (i: ∀c,c[b]? =some (J2 #[d,v1] T (0,0))->Mod (· =b) a c->c.size=a.size->K c):
  ae a ⟨b,0,none⟩ d λe=>ae e ((⟨b,0,none⟩:Q6).add 1) v1 K:=by
 refine ae.mk h (by simp) λe j k o=>?_
 rw[Bq];refine ae.mk j (by simp) λl m n p=>i l (by simpa using m) (k.trans n) (by omega)
theorem ae.pP {a:aa}{b:Nat}{T:Q7}{m n o p q r d v1 v2 e f g:J0}{K:aa->Prop}(s:a[b]? =some (J2 #[m,n,o,p,q,r] T (0,0)))
  (t: ∀c,c[b]? =some (J2 #[d,v1,v2,e,f,g] T (0,0))->Mod (· =b) a c->c.size=a.size->K c):
  ae a ⟨b,0,none⟩ d λh=>ae h ((⟨b,0,none⟩:Q6).add 1) v1 λi=>ae i ((⟨b,0,none⟩:Q6).add 2) v2 λj=>ae j ((⟨b,0,none⟩:Q6).add 3) e λk=>ae k ((⟨b,0,none⟩:Q6).add 4) f λl=>
   ae l ((⟨b,0,none⟩:Q6).add 5) g K:=by
 refine ae.mk s (by simp) λh u v H=>?_
 rw[Bq,Bq,Bq,Bq,Bq];refine ae.mk u (by simp) λi w x I=>?_
 refine ae.mk w (by simp) λj y z J=>?_
 refine ae.mk y (by simp) λk A B L=>?_
 refine ae.mk A (by simp) λl C D M=>?_
 refine ae.mk C (by simp) λE F G N=>t E (by simpa using F) (((((v.trans x).trans z).trans B).trans D).trans G) (by omega)
theorem ae.eight {a:aa}{b:Nat}{T:Q7}{q r s t u v w x d v1 v2 e f g h i:J0}{K:aa->Prop}(y:a[b]? =some (J2 #[q,r,s,t,u,v,w,x] T (0,0)))
  (z: ∀c,c[b]? =some (J2 #[d,v1,v2,e,f,g,h,i] T (0,0))->Mod (· =b) a c->c.size=a.size->K c):
  ae a ⟨b,0,none⟩ d λj=>ae j ((⟨b,0,none⟩:Q6).add 1) v1 λk=>ae k ((⟨b,0,none⟩:Q6).add 2) v2 λl=>ae l ((⟨b,0,none⟩:Q6).add 3) e λm=>ae m ((⟨b,0,none⟩:Q6).add 4) f λn=>
   ae n ((⟨b,0,none⟩:Q6).add 5) g λo=>ae o ((⟨b,0,none⟩:Q6).add 6) h λp=>ae p ((⟨b,0,none⟩:Q6).add 7) i K:=by
 refine ae.mk y (by simp) λj A B S=>?_
 rw[Bq,Bq,Bq,Bq,Bq,Bq,Bq];refine ae.mk A (by simp) λk C D U=>?_
 refine ae.mk C (by simp) λl E F V=>?_
 refine ae.mk E (by simp) λm G H W=>?_
 refine ae.mk G (by simp) λn I J X=>?_
 refine ae.mk I (by simp) λo L M Y=>?_
 refine ae.mk L (by simp) λp N O Z=>?_
 refine ae.mk N (by simp) λP Q R ab=>z P (by simpa using Q) (((((((B.trans D).trans F).trans H).trans J).trans M).trans O).trans R) (by omega)
theorem ae.cN {a:aa}{b j:Nat}{v:J0}{d eY:Array J0}{T:Q7}{K:aa->Prop}(e:a[b]? =some (J2 d T (0,0)))(f:j<d.size)(g:d.setIfInBounds j v=eY)
  (h: ∀c,c[b]? =some (J2 eY T (0,0))->Mod (· =b) a c->c.size=a.size->K c):ae a ((⟨b,0,none⟩:Q6).add j) v K:=by
 rw[Bq,AI];exact ae.mk e f λi k=>h i (by rw[<- g];exact k)
structure Ev where
 id:Int
 kind:Int
 tick:Int
 ref:Int
 step:Int
 turn:Int
 aV:Bool
 data:A2I
def ct:cL Ev where
 enc x:= [J6 J9 x.id,J6 J9 x.kind,J6 J9 x.tick,J6 J9 x.ref,J6 J9 x.step,J6 J9 x.turn,J3 x.aV,J7 x.data]
 w:=8
 len _:=rfl
 pos:=by omega
 one x v a:=by simp at a;rcases a with rfl|rfl|rfl|rfl|rfl|rfl|rfl|rfl<;>rfl
def Ev.fv(x:Ev):List Fv:= [.i x.id,.i x.kind,.i x.tick,.i x.ref,.i x.step,.i x.turn,.b x.aV,.s x.data]
theorem Ev.fO {x a:Ev}:x.fv=a.fv↔x=a:=by cases x;cases a;simp[Ev.fv]
instance:DecidableEq Ev:=λx y=>decidable_of_iff (x.fv=y.fv) Ev.fO
def dr(a:Int):Bool:=decide (a=3\/a=4\/a=5\/a=11\/a=7\/a=8\/a=9)
def dC(a:Int):Bool:=decide (a=6\/a=10)
def dM(a:Int):Bool:=decide (a=7\/a=8\/a=9)
def dV(a:Int):Bool:=decide (a=6)
def dW(a:Int):Bool:=decide (a=1\/a=12)
def dv(f:Bool)(a b c:Int):Bool:=if f then bX a b c else decide (a=0)
def FC(a:Ev):Bool:=bX a.kind 1 18&&bX a.id 1 500&&bX a.tick 0 1099511627776&&dv (dr a.kind) a.ref 1 (a.id-1)&&dv (dC a.kind) a.step 0 15&&dv (dM a.kind) a.turn 1 5&&
 (!a.aV||dV a.kind)&&(decide (a.data=Hu)||dW a.kind)
def KV(a:Ev):Bool:=if a.kind=1 then(Ja (bl a.data)).isSome else if a.kind=12 then Aj a.data else true
def Dk(a:Ev):Bool:=FC a&&KV a
def Tj(f:Bool)(a:Int):List UInt8:=if f then BX a.toNat else []
def ig(f:Bool)(s:A2I):List UInt8:=if f then BG (bl s) else []
def EH(a:Ev):List UInt8:=BX a.id.toNat++(BX a.kind.toNat++(BX a.tick.toNat++(Tj (dr a.kind) a.ref++(Tj (dC a.kind) a.step++(Tj (dM a.kind) a.turn++(Tj (dV a.kind) (if a.aV then 1 else 0)++ig (dW a.kind) a.data))))))
structure kJ where
 id:Nat
 kind:Nat
 tick:Nat
 ref:Nat
 step:Nat
 turn:Nat
def kJ.wide(b:kJ):Prop:=500<=b.id/\18<=b.kind/\1099511627776<=b.tick/\500<=b.ref/\15<=b.step/\5<=b.turn
def fT:kJ:=⟨500,18,1099511627776,500,15,5⟩
def FB(f:Bool)(m:Nat)(a:Rd):Nat×Rd:=if f then CQ m a else(0,a)
def UY(f:Bool)(a:Rd):List UInt8×Rd:=if f then FO a else([],a)
def QT(b:kJ)(f:Rd):Ev×Rd:=
 let i:=CQ b.id f
 let c:=CQ b.kind i.2
 let t:=CQ b.tick c.2
 let a:=FB (dr c.1) b.ref t.2
 let s:=FB (dC c.1) b.step a.2
 let d:=FB (dM c.1) b.turn s.2
 let u:=FB (dV c.1) 1 d.2
 let e:=UY (dW c.1) u.2
 (⟨i.1,c.1,t.1,a.1,s.1,d.1,decide (u.1=1),AX e.1⟩,e.2)
def WO(l:List UInt8):Option Ev:=let x:=QT fT ⟨l,false⟩;if Su x.2&&Dk x.1 then some x.1 else none
theorem Yr {f:Bool}{n:Int}{m:Nat}(a:dv f n 0 m=true)(b:m<18446744073709551616)(t:List UInt8):FB f m ⟨Tj f n++t,false⟩=(n.toNat,⟨t,false⟩):=by
 cases f with
 |false=>simp[dv] at a;subst a;rfl
 |true=>
  simp only[dv,if_true,Bc] at a;simp only[FB,Tj,if_true];exact Cr (by omega) (by omega) t
theorem rE {f:Bool}{a b c d e:Int}(g:dv f a b c=true)(h:d<=b)(i:c<=e):dv f a d e=true:=by
 cases f with
 |false=>exact g
 |true=>simp only[dv,if_true,Bc] at g ⊢;omega
theorem rF {f:Bool}{a c d:Int}(b:dv f a c d=true)(e:0<=c):((a.toNat:Nat):Int)=a:=by
 cases f with
 |false=>simp[dv] at b;subst b;rfl
 |true=>simp only[dv,if_true,Bc] at b;omega
theorem APp {f:Bool}{s:A2I}(a:(decide (s=Hu)||f)=true)(b:s.size<18446744073709551616)(t:List UInt8):UY f ⟨ig f s++t,false⟩=(bl s,⟨t,false⟩):=by
 cases f with
 |false=>simp at a;subst a;rfl
 |true=>
  simp only[UY,ig,if_true];exact Ik (by rw[A7];exact b) t
theorem Ha {a:Ev}(b:Dk a=true):FC a=true:=by simp only[Dk,A3] at b;exact b.1
theorem AQI {b:kJ}(l:b.wide)(e:b.ref<18446744073709551616/\b.step<18446744073709551616/\b.turn<18446744073709551616){c:Ev}(g:FC c=true)(hd:c.data.size<18446744073709551616)(t:List UInt8):QT b ⟨EH c++t,false⟩=(c,⟨t,false⟩):=by
 obtain⟨id,a,tick,o,step,turn,d,p⟩:=c;simp only[FC,A3] at g;obtain⟨⟨⟨⟨⟨⟨⟨q,r⟩,u⟩,h⟩,i⟩,j⟩,k⟩,v⟩:=g;obtain⟨M,N,O,P,Q,R⟩:=l;have S:=Bc.1 q;have T:=Bc.1 r;have U:=Bc.1 u;have w:=Cr (n:=id.toNat) (most:=b.id) (by omega) (by omega);have x:=Cr (n:=a.toNat) (most:=b.kind) (by omega) (by omega);have y:=Cr (n:=tick.toNat) (most:=b.tick) (by omega) (by omega);have z:((a.toNat:Nat):Int)=a:=by omega
 have A:=Yr (f:=dr a) (n:=o) (m:=b.ref) (rE h (by omega) (by omega)) e.1;have B:=Yr (f:=dC a) (n:=step) (m:=b.step) (rE i (by omega) (by omega)) e.2.1;have C:=Yr (f:=dM a) (n:=turn) (m:=b.turn) (rE j (by omega) (by omega)) e.2.2;have D:=Yr (f:=dV a) (n:=if d then 1 else 0) (m:=1) (by
  cases E:dV a with
  |true=>simp only[dv,if_true,Bc];split<;>omega
  |false=>rw[E] at k;cases d<;>simp[dv] at k ⊢) (by decide)
 have F:=APp (f:=dW a) (s:=p) v hd;simp only[QT,EH,A4,w,x,y,z,A,B,C,D,F];have G:decide ((if d=true then(1:Int) else 0).toNat=1)=d:=by cases d<;>rfl
 have H:=rF h (by decide);have I:=rF i (by decide);have J:=rF j (by decide);have K:((id.toNat:Nat):Int)=id:=by omega
 have L:((tick.toNat:Nat):Int)=tick:=by omega
 rw[G,H,I,J,K,L,ED]
theorem Vf {f:Bool}{m:Nat}{a:Rd}(b:(FB f m a).2.bad=false):a.bad=false/\a.rest=Tj f (FB f m a).1++(FB f m a).2.rest/\(FB f m a).1<=m:=by
 cases f with
 |false=>exact⟨b,rfl,A5 _⟩
 |true=>
  simp only[FB,Tj,if_true,AF] at b ⊢;exact F8 b
theorem ANo {f:Bool}{a:Rd}(b:(UY f a).2.bad=false):a.bad=false/\a.rest=ig f (AX (UY f a).1)++(UY f a).2.rest:=by
 cases f with
 |false=>exact⟨b,rfl⟩
 |true=>
  simp only[UY,ig,if_true,EF] at b ⊢;exact SC b
theorem AMm {b:kJ}{r:Rd}(c:(QT b r).2.bad=false):r.bad=false/\r.rest=EH (QT b r).1++(QT b r).2.rest:=by
 simp only[QT] at c ⊢;obtain⟨d,e⟩:=ANo c;obtain⟨f,g,h⟩:=Vf d;obtain⟨i,j,_⟩:=Vf f;obtain⟨k,l,_⟩:=Vf i;obtain⟨m,n,_⟩:=Vf k;obtain⟨o,p,_⟩:=F8 m;obtain⟨q,s,_⟩:=F8 o;obtain⟨t,u,_⟩:=F8 q;refine⟨t,?_⟩;simp only[EH,A4,AF];rw[<- e];have v: ∀a:Nat,a<=1->(if decide (a=1)=true then(1:Int) else 0)=(a:Int):=λa w=>by
  have:a=0\/a=1:=by omega
  rcases this with rfl|rfl<;>rfl
 rw[v _ h,<-g,<-j,<-l,<-n,<-p,<-s,<-u]
theorem AJi {l:List UInt8}{c:Ev}(a:WO l=some c):Dk c=true/\EH c=l:=by
 unfold WO at a;simp only at a;split at a
 ·rename_i e;simp only[A3] at e;obtain⟨d,g⟩:=e;obtain rfl:=Bm a;refine⟨g,?_⟩;rw[xl] at d;obtain⟨_,f⟩:=AMm (b:=fT) (r:=⟨l,false⟩) (by rw[d]);rw[d] at f;simpa using f.symm
 ·cases a
theorem AOV:fT.wide:=⟨A0 _,A0 _,A0 _,A0 _,A0 _,A0 _⟩
theorem AKR {a:Ev}(c:FC a=true):a.data.size<=(EH a).length:=by
 simp only[FC,A3] at c;have b:=c.2;cases d:dW a.kind with
 |false=>
  rw[d] at b;simp at b;rw[b];exact A5 _
 |true=>
  simp only[EH,ig,d,if_true,BG,A1,A7];omega
theorem xu {l:List UInt8}{a:Ev}(e:l.length<18446744073709551616):WO l=some a↔Dk a=true/\EH a=l:=by refine⟨AJi,λ⟨b,c⟩=>?_⟩;have d:=AKR (Ha b);have:=AQI AOV ⟨by decide,by decide,by decide⟩ (Ha b) (by rw[c] at d;omega) [];rw[AN,c] at this;unfold WO;simp only[this,b];rfl
def Ni(l:List Ev):List UInt8:=BX l.length++l.flatMap λa=>BG (EH a)
def Dv(l:List Ev):Nat×List UInt8:=if 500<l.length then(2,[]) else if l.all Dk then(0,Ni l) else(120,[])
def WU:Nat->Rd->Option (List Ev×Rd)
 |0,a=>some ([],a)
 |n+1,a=>match WO (FO a).1 with
  |none=>none
  |some b=>match WU n (FO a).2 with
   |none=>none
   |some (l,c)=>some (b::l,c)
def LZ(l:List UInt8):Option (List Ev):=
 let a:=CQ 500 ⟨l,false⟩
 match WU a.1 a.2 with
 |none=>none
 |some (b,c)=>if Su c then some b else none
theorem xw(t:List UInt8): ∀ {l:List Ev},l.all Dk=true->(∀ e∈l,(EH e).length<18446744073709551616)->WU l.length ⟨(l.flatMap λe=>BG (EH e))++t,false⟩=some (l,⟨t,false⟩)
 | [],_,_=>rfl
 |e::l,a,b=>by
  simp only[DG,A3] at a;have c:=b e (by simp);have d:=Ik (l:=EH e) c;have f:=(xu c).2 ⟨a.1,rfl⟩;have g:=xw t a.2 λx h=>b x (AG _ h)
  simp only[A6,WU,AH,A4,d,f,g]
theorem fJ {l:List Ev}(b:l.length<=500)(c:l.all Dk=true)(d: ∀e∈l,(EH e).length<18446744073709551616):LZ (Ni l)=some l:=by have f:=Cr (n:=l.length) (most:=500) (by omega) b;have a:=xw [] c d;rw[AN] at a;simp only[LZ,Ni,f,a];rfl
structure Jb where
 id:Int
 step:Int
 aV:Bool
 turn:Int
def pa:cL Jb where
 enc x:= [J6 J9 x.id,J6 J9 x.step,J3 x.aV,J6 J9 x.turn]
 w:=4
 len _:=rfl
 pos:=by omega
 one x v a:=by simp at a;rcases a with rfl|rfl|rfl|rfl<;>rfl
structure Ck where
 id:Int
 step:Int
 tick:Int
def pd:cL Ck where
 enc x:= [J6 J9 x.id,J6 J9 x.step,J6 J9 x.tick]
 w:=3
 len _:=rfl
 pos:=by omega
 one x v a:=by simp at a;rcases a with rfl|rfl|rfl<;>rfl
structure bF where
 prog:cA
 status:Int
 next:Int
 bA:Int
 asked:Int
 taken:Int
 fresh:Bool
 aK:List Jb
 ar:List Ck
 cancel:Bool
 bj:Bool
def UO:bF:=⟨⟨[],0⟩,0,0,0,0,0,false,[],[],false,false⟩
def stepOf(p:cA)(a b:Int):Option cD:=if 0<=a then(p.steps[a.toNat]?).bind λx=>if x.kind=b then some x else none else none
def ye(p:cA)(a:Jb):Int:=match stepOf p a.step 1 with
 |none=>0
 |some x=>if a.aV then x.aF else x.tries
def ATc(s:bF)(b turn:Int):Option Nat:=s.aK.findIdx? λa=>decide (a.id=b)&&decide (a.turn=turn)
def Ii(s:bF)(a:Ev):Option bF:=
 if a.kind=2 then(if s.asked=0/\s.taken=0/\s.fresh=true then some {s with asked:=a.id} else none)
 else if a.kind=3 then(if s.asked=a.ref then some {s with asked:=0,taken:=a.id,fresh:=false} else none)
 else if a.kind=4 then(if s.taken=a.ref then some {s with taken:=0} else none)
 else(if s.taken=a.ref then some {s with taken:=0,fresh:=true} else none)
def rV(s:bF)(a:Ev):Option bF:=
 if a.kind=6 then(stepOf s.prog a.step 1).bind λx=>if a.aV=true/\x.aV=Hu then none else some {s with aK:=s.aK++ [⟨a.id,a.step,a.aV,1⟩]}
 else(ATc s a.ref a.turn).bind λi=>(s.aK[i]?).bind λb=>
  if a.kind=8 then(if a.turn=ye s.prog b then none else some {s with aK:=s.aK.set i {b with turn:=b.turn+1}})
  else if a.kind=7\/a.turn=ye s.prog b then some {s with aK:=s.aK.eraseIdx i,fresh:=true} else none
def rW(s:bF)(a:Ev):Option bF:=
 if a.kind=10 then(stepOf s.prog a.step 2).map λx=> {s with ar:=s.ar++ [⟨a.id,a.step,a.tick+x.wait⟩]}
 else(s.ar.findIdx? λc=>decide (c.id=a.ref)&&decide (c.tick<=a.tick)).map λi=> {s with ar:=s.ar.eraseIdx i,fresh:=true}
def ir(s:bF)(status:Int):bF:= {s with status:=status,asked:=0,taken:=0,fresh:=false,aK:= [],ar:= []}
def mY(s:bF):Prop:=s.asked=0/\s.taken=0/\s.aK= []
instance (s:bF):Decidable (mY s):=decidable_of_iff (s.asked=0/\s.taken=0/\s.aK.length=0) (by simp[mY])
def Ow(s:bF)(a:Ev):Option bF:=
 if a.kind=12 then some {s with fresh:=true}
 else if a.kind=13 then(if s.cancel=true then none else some {s with cancel:=true,fresh:=true})
 else if a.kind=14 then(if s.bj=true\/s.prog.aG=0\/a.tick<s.bA+s.prog.aG then none else some {s with bj:=true,fresh:=true})
 else if a.kind=18 then some (ir s 4)
 else if a.kind=15 then(if mY s then some (ir s 1) else none)
 else if a.kind=16 then(if mY s then some (ir s 2) else none)
 else if a.kind=17 then(if mY s then some (ir s 3) else none)
 else none
def RX(s:bF)(a:Ev):Option bF:=
 (if 2<=a.kind/\a.kind<=5 then Ii s a else if 6<=a.kind/\a.kind<=9 then rV s a else if a.kind=10\/a.kind=11 then rW s a else Ow s a).map λt=> {t with next:=s.next+1}
def Xq(a:Ev):bF:=⟨(Ja (bl a.data)).getD ⟨[],0⟩,0,2,a.tick,0,0,true,[],[],false,false⟩
def Bj(s:bF)(a:Ev):Int×bF:=
 if Dk a=false then(120,UO)
 else if s.next=0 then(if a.kind=1/\a.id=1 then(0,Xq a) else(120,UO))
 else if s.status≠0 then(182,UO)
 else if a.id≠s.next then(120,UO)
 else match RX s a with
  |none=>(120,UO)
  |some t=>(0,t)
def FU(s:bF):List Ev->Option bF
 | []=>some s
 |e::l=>if(Bj s e).1=0 then FU (Bj s e).2 l else none
theorem AEY {a b:List Ev}: ∀ {s:bF},FU s (a++b)=(FU s a).bind λt=>FU t b:=by
 induction a with
 |nil=>intro s;rfl
 |cons d l c=>
  intro s;rw[DO,FU,FU];split
  ·exact c
  ·rfl
theorem AIN {s t:bF}{l:List Ev}{a:Ev}(b:FU s l=some t)(c:(Bj t a).1=0):FU s (l++ [a])=some (Bj t a).2:=by rw[AEY,b];show FU t [a]=_;rw[FU,if_pos c,FU]
theorem Qz {s:bF}{b:Ev}(a:(Bj s b).1=0):Dk b=true:=by
 unfold Bj at a;split at a
 ·cases a
 ·rename_i c;simpa using c
theorem yf {s:bF}{b:Ev}(a:(Bj s b).1=0):(s.next=0->b.id=1/\(Bj s b).2.next=2)/\(s.next≠0->b.id=s.next/\(Bj s b).2.next=s.next+1):=by
 unfold Bj at a ⊢;split at a
 ·cases a
 ·rename_i g;rw[if_neg g];split at a
  ·rename_i c;rw[if_pos c];split at a
   ·rename_i d;rw[if_pos d];exact⟨λ_=>⟨d.2,rfl⟩,λa=>absurd c a⟩
   ·cases a
  ·rename_i c;rw[if_neg c];split at a
   ·cases a
   ·rename_i d;rw[if_neg d];split at a
    ·cases a
    ·rename_i f;rw[if_neg f];cases e:RX s b with
     |none=>rw[e] at a;cases a
     |some t=>
      refine⟨λa=>absurd a c,λ_=>⟨by simpa using f,?_⟩⟩;unfold RX at e;obtain⟨h,-,rfl⟩:=Option.map_eq_some_iff.1 e;rfl
theorem AIJ: ∀ {l:List Ev} {s t:bF},FU s l=some t->1<=s.next->t.next=s.next+l.length/\ ∀(i:Nat) (b:Ev),l[i]? =some b->b.id=s.next+i/\Dk b=true:=by
 intro l
 induction l with
 |nil=>intro s t a e;cases a;exact⟨by simp,λi b f=>by simp at f⟩
 |cons b l g=>
  intro s t a e;rw[FU] at a;split at a
  ·rename_i d;have h:=(yf d).2 (by omega);obtain⟨j,k⟩:=g a (by omega);refine⟨by rw[j,h.2,A6];omega,λi x c=>?_⟩;cases i with
   |zero=>simp at c;subst c;exact⟨by omega,Qz d⟩
   |succ i=>
    have:=k i x (by simpa using c);exact⟨by omega,this.2⟩
  ·cases a
theorem yg {l:List Ev}{t:bF}(a:FU UO l=some t)(e:l≠ []):t.next=l.length+1/\ ∀(i:Nat) (b:Ev),l[i]? =some b->b.id=i+1/\Dk b=true:=by
 cases l with
 |nil=>exact absurd rfl e
 |cons b l=>
  rw[FU] at a;split at a
  ·rename_i d;have f:=(yf d).1 rfl;obtain⟨g,h⟩:=AIJ a (by omega);refine⟨by rw[g,f.2,A6];omega,λi x c=>?_⟩;cases i with
   |zero=>simp at c;subst c;exact⟨by omega,Qz d⟩
   |succ i=>
    have:=h i x (by simpa using c);exact⟨by omega,this.2⟩
  ·cases a
def fA:List UInt8->Option (List UInt8)
 | []=>none
 |a::p=>match fA p with
  |some b=>some (a::b)
  |none=>if a<255 then some [a+1] else none
theorem y9 {a b:UInt8}(c:a<255):b<a+1↔ ¬a<b:=by
 have e:a.toNat<255:=UInt8.lt_iff_toNat_lt.1 c;have d:(a+1).toNat=a.toNat+1:=by rw[UInt8.toNat_add];show(a.toNat+1) % 256=_;omega
 rw[UInt8.lt_iff_toNat_lt,UInt8.lt_iff_toNat_lt,d];omega
theorem ATC {a b:UInt8}(c: ¬a<255): ¬a<b:=λd=>by
 rw[UInt8.lt_iff_toNat_lt] at c d;have:b.toNat<256:=b.toNat_lt;have e:(255:UInt8).toNat=255:=rfl;omega
theorem ya: ∀(p j:List UInt8),(¬ j<p/\(∀ h,fA p=some h->j<h))↔p <+: j
 | [],j=>by simp[fA]
 |a::p,[]=>by
  constructor
  ·rintro⟨c,_⟩;exact absurd (List.nil_lt_cons a p) c
  ·intro c;exact absurd (List.prefix_nil.1 c) (by simp)
 |a::p,b::j=>by
  have s:=ya p j;have e: ∀ {x q:UInt8} {l m:List UInt8},x::l<q::m↔x<q\/x=q/\l<m:=A0d;rw[List.cons_prefix_cons,<-s];constructor
  ·rintro⟨o,f⟩;have r: ¬b<a:=λc=>o (e.2 (.inl c))
   have t: ¬a<b:=λc=>by
    unfold fA at f;cases k:fA p with
    |some h=>
     rw[k] at f;rcases e.1 (f _ rfl) with d|⟨d,_⟩
     ·exact r d
     ·subst d;exact UInt8.lt_irrefl _ c
    |none=>
     rw[k] at f;by_cases i:a<255
     ·have:=f [a+1] (by simp[i]);rcases e.1 this with d|⟨_,d⟩
      ·exact(y9 i).1 d c
      ·exact absurd d (by simp)
     ·exact ATC i c
   have n:a=b:=by
    by_cases n:a=b
    ·exact n
    ·rcases UInt8.lt_or_lt_of_ne n with c|c
     ·exact absurd c t
     ·exact absurd c r
   subst n;refine⟨rfl,λc=>o (e.2 (.inr ⟨rfl,c⟩)),λh g=>?_⟩;have:=f (a::h) (by unfold fA;rw[g]);rcases e.1 this with d|⟨_,d⟩
   ·exact absurd d (UInt8.lt_irrefl _)
   ·exact d
  ·rintro⟨rfl,o,f⟩;refine⟨λc=>?_,λh g=>?_⟩
   ·rcases e.1 c with d|⟨_,d⟩
    ·exact absurd d (UInt8.lt_irrefl _)
    ·exact o d
   ·unfold fA at g;cases k:fA p with
    |some u=>
     rw[k] at g;obtain rfl:=Bm g;exact e.2 (.inr ⟨rfl,f u k⟩)
    |none=>
     rw[k] at g;by_cases i:a<255
     ·have n:h= [a+1]:=by simpa [i] using g.symm
      subst n;exact e.2 (.inl ((y9 i).2 (UInt8.lt_irrefl _)))
     ·simp[i] at g
theorem rT: ∀ {p:List UInt8},(∀ x∈p,¬x<255)->fA p=none
 | [],_=>rfl
 |a::p,b=>by
  unfold fA;rw[rT λx c=>b x (AG _ c)];simp[b a Cd]
theorem yb: ∀ {p:List UInt8} {i:Nat} {a:UInt8},p[i]? =some a->a<255->(∀ x∈p.drop (i+1),¬x<255)->fA p=some (p.take i++ [a+1])
 | [],i,a,c,_,_=>by simp at c
 |b::p,0,a,c,d,hd=>by
  simp at c;subst c;unfold fA;rw[rT (by simpa using hd)];simp[d]
 |b::p,i+1,a,c,d,hd=>by
  unfold fA;rw[yb (p:=p) (i:=i) (a:=a) (by simpa using c) d (by simpa using hd)];simp
def Nj(p a:A2I):Bool:=(p.data.toList).isPrefixOf a.data.toList
theorem Mw(p a:A2I):Nj p a=true↔p.data.toList <+: a.data.toList:=by unfold Nj;rw[List.isPrefixOf_iff_prefix]
def Kw:Nat->Nat->List UInt8
 |0,_=> []
 |k+1,a=>Kw k (a / 256)++ [Bu a]
theorem O0: ∀(k a:Nat),(Kw k a).length=k
 |0,_=>rfl
 |k+1,a=>by rw[Kw,A1,O0 k];rfl
theorem rX(a:Nat):Bu a=Bu (a % 256):=by apply UInt8.toNat_inj.1;simp[Bu,UInt8.toNat_ofNat']
theorem rY {a b:Nat}(c:a<256)(d:b<256)(e:Bu a=Bu b):a=b:=by have:=congrArg UInt8.toNat e;rwa [Dt c,Dt d] at this
theorem yh(a:Nat):Kw 4 a= [Bu (a / 256 / 256 / 256),Bu (a / 256 / 256),Bu (a / 256),Bu a]:=rfl
theorem AQk {a b:Nat}(i:b<65536)(j:a<b):Kw 4 a<Kw 4 b:=by
 rw[yh,yh];have d:a / 256 / 256=0:=by omega
 have e:b / 256 / 256=0:=by omega
 rw[d,e];have lt: ∀ {x c:Nat},c<256->x<c->Bu x<Bu c:=λ{x c} f g=>by
  rw[UInt8.lt_iff_toNat_lt,Dt f,Dt (by omega)];exact g
 refine List.Lex.cons (List.Lex.cons ?_);by_cases h:a / 256=b / 256
 ·rw[h];refine List.Lex.cons (List.Lex.rel ?_);rw[rX a,rX b];exact lt (by omega) (by omega)
 ·exact List.Lex.rel (lt (by omega) (by omega))
theorem ATJ(p:List UInt8){a b:List UInt8}(d:a<b):p++a<p++b:=by
 induction p with
 |nil=>exact d
 |cons c p e=>exact List.Lex.cons e
def kE:UInt8:=104
def lK(wid:A2I):List UInt8:=kE::BG (bl wid)
def GQ(wid:A2I):A2I:=AX (lK wid)
def eM(wid:A2I)(id:Nat):A2I:=AX (lK wid++Kw 4 id)
def Eu(wid:A2I):A2I:=AX (119::bl wid)
def JM(a:A2I):A2I:=AX (114::bl a)
def SK(a id:Nat):A2I:=AX (116::Bu a::Kw 8 id)
def CF(a b id:Nat):A2I:=AX (109::Bu a::(Kw 8 b++Kw 8 id))
theorem yi {s:A2I}(a:s.size<=16):BG (bl s)=Bu s.size::bl s:=by unfold BG;rw[A7,Ff (by omega)];rfl
theorem SB {wid:A2I}(a:wid.size<=16):lK wid=104::Bu wid.size::bl wid:=by unfold lK;rw[yi a];rfl
theorem APF {wid:A2I}(a:wid.size<=16)(id:Nat):(eM wid id).size<=22:=by unfold eM;rw[AP,A1,O0,SB a];simp only[A6,A7];omega
theorem yj {wid:A2I}(a:wid.size<=16):(GQ wid).size<=18:=by unfold GQ;rw[AP,SB a];simp only[A6,A7];omega
theorem MN(wid:A2I):(Eu wid).size=wid.size+1:=by unfold Eu;rw[AP,A6,A7]
theorem Vs(a:A2I):(JM a).size=a.size+1:=by unfold JM;rw[AP,A6,A7]
theorem yk(a id:Nat):(SK a id).size=10:=by unfold SK;rw[AP];rfl
theorem JL(b a id:Nat):(CF b a id).size=18:=by unfold CF;rw[AP];rfl
theorem mZ {wid:A2I}{i a:Nat}(b:a<65536)(c:i<a):aR (eM wid i) (eM wid a)=true:=by rw[Zk,decide_eq_true_eq];unfold eM;rw[Be,Be];exact ATJ _ (AQk b c)
theorem rZ(wid:A2I)(id:Nat):Nj (GQ wid) (eM wid id)=true:=by rw[Mw];unfold GQ eM;rw[Be,Be];exact List.prefix_append _ _
theorem yl {wid a:A2I}(d:wid.size<=16)(e:a.size<=16){id:Nat}(b:Nj (GQ wid) (eM a id)=true):wid=a:=by rw[Mw] at b;unfold GQ eM at b;rw[Be,Be,SB d,SB e] at b;obtain⟨t,c⟩:=b;simp only[DO,GW,true_and] at c;have f:=rY (by omega) (by omega) c.1;have:=(List.append_inj c.2 (by rw[A7,A7];exact f)).1;rw[<- ED wid,<-ED a];exact congrArg AX this
theorem AQd {wid b:A2I}(e:wid.size<=16)(f:b.size<=16){i c:Nat}(g:i<65536)(h:c<65536)(d:eM wid i=eM b c):wid=b/\i=c:=by
 have j:wid=b:=yl e f (by rw[<- d];exact rZ wid i);subst j;refine⟨rfl,?_⟩;rcases IH i c with a|a|a
 ·exact absurd d (Lx (mZ h a))
 ·exact a
 ·exact absurd d.symm (Lx (mZ g a))
theorem ANj {a b:A2I}(c:Eu a=Eu b):a=b:=by have:=Mq.1 c;simp only[GW,true_and] at this;rw[<- ED a,<-ED b];exact congrArg AX this
theorem yn {a b:A2I}(c:JM a=JM b):a=b:=by have:=Mq.1 c;simp only[GW,true_and] at this;rw[<- ED a,<-ED b];exact congrArg AX this
def BC(a:A2I):UInt8:=(bl a).headD 0
theorem Sy(wid:A2I)(id:Nat):BC (eM wid id)=104:=by unfold BC eM;rw[EF];rfl
theorem Dh(wid:A2I):BC (Eu wid)=119:=by unfold BC Eu;rw[EF];rfl
theorem JX(wid:A2I):BC (JM wid)=114:=by unfold BC JM;rw[EF];rfl
theorem yo(a id:Nat):BC (SK a id)=116:=by unfold BC SK;rw[EF];rfl
theorem PG(b a id:Nat):BC (CF b a id)=109:=by unfold BC CF;rw[EF];rfl
theorem Za {wid a:A2I}(b:Nj (GQ wid) a=true):BC a=104:=by rw[Mw] at b;obtain⟨t,c⟩:=b;unfold BC;show(a.data.toList).headD 0=104;rw[<- c];unfold GQ;rw[Be];rfl
def I1(status next:Nat)(a:Bool):A2I:=AX (BX status++(BX next++BX (if a then 1 else 0)))
def j8(a:List UInt8)(status next:Nat):A2I:=AX (BG a++(BX status++BX next))
def sd(a:Nat)(wid:A2I)(b turn:Nat):A2I:=AX (BX a++(BG (bl wid)++(BX b++BX turn)))
theorem Gy {n:Nat}(a:n<16384):(BX n).length<=2:=yL 1 n (by omega)
theorem AJ7 {kind ref turn:Nat}{wid:A2I}(a:kind<128)(b:wid.size<=16)(c:ref<=500)(d:turn<=5):(sd kind wid ref turn).size<=22:=by unfold sd;have:=Gy (n:=ref) (by omega);rw[AP,Ff a,yi b,Ff (n:=turn) (by omega)];simp only[A1,A6,A7,G4];omega
theorem AKX {status next:Nat}{kept:Bool}(a:status<128)(b:next<=501):(I1 status next kept).size<=4:=by unfold I1;have:=Gy (n:=next) (by omega);rw[AP,Ff a,Ff (n:=if kept then 1 else 0) (by split<;>omega)];simp only[A1,A6,G4];omega
structure bC where
 wid:A2I
 aq:Nat
 cJ:Int
 cq:Int
 kept:Bool
 st:bF
 more:List Ev
 au:List Pr
 conds:List Pr
 err:Int
 now:Int
def ju(s:bF):Bool:=decide (s.next<=497)
def PW(wid:A2I)(b:Nat)(c d:Int)(e:Bool)(st:bF)(a:Int):bC:=
 ⟨wid,b,c,d,e,st,[],[],[],if a<0\/1099511611776<a then 1 else 0,a⟩
def Ce(a:bC)(b:Ev):Ev:= {b with id:=if 1>a.st.next then 1 else a.st.next,tick:=a.now}
def EC(a:bC)(b:Ev):bC:=
 if a.err≠0 then a
 else if a.more= []/\ju a.st=false/\b.kind≠18 then {a with err:=2}
 else if(Bj a.st (Ce a b)).1≠0 then {a with err:=(Bj a.st (Ce a b)).1}
 else {a with st:=(Bj a.st (Ce a b)).2,more:=a.more++ [Ce a b]}
def Wp(a:bC):Int:=a.st.next-1
structure gL where
 kind:Int
 ref:Int
 turn:Int
def KF(t:gL)(wid:A2I):Bool:=bX t.kind 1 7&&Aj wid&&bX t.ref 0 500&&bX t.turn 0 5
def MU(t:gL)(wid:A2I):A2I:=sd t.kind.toNat wid t.ref.toNat t.turn.toNat
def LJ(a:Nat)(tick:Int)(b:Nat):A2I:=if tick<0 then SK a b else CF a tick.toNat b
def ER(a:bC)(t:gL)(tick:Int)(b:Nat):bC:=
 if a.err≠0 then a
 else if KF t a.wid=false then {a with err:=1}
 else {a with au:=a.au++ [⟨LJ a.aq tick b,MU t a.wid,false⟩]}
def pg(a:bC)(key val:A2I):bC:= {a with conds:=a.conds++ [⟨key,⟨#[]⟩,true⟩],au:=a.au++ [⟨key,val,false⟩]}
def Dl(a:bC):Bool:=decide (a.more≠ [])&&(decide (a.st.status=0)&&(a.st.fresh&&(decide (a.st.asked=0)&&decide (a.st.taken=0))))
def Df(a:bC):Int×Int:=(a.st.status,if Dl a then a.st.next+1 else a.st.next)
def bG(a:bC):Pr:=if 0<a.cq then⟨Eu a.wid,I1 a.cJ.toNat a.cq.toNat a.kept,false⟩ else⟨Eu a.wid,⟨#[]⟩,true⟩
def NZ(wid:A2I)(a:Ev):Pr:=⟨eM wid a.id.toNat,AX (EH a),false⟩
def Et(a:bC):List Pr:=a.more.map (NZ a.wid)++(if a.more= [] then [] else [⟨Eu a.wid,I1 a.st.status.toNat a.st.next.toNat false,false⟩])
structure bC.a1q (C:bC):Prop where
 pos:C.err=0-> ∀e∈C.more,Dk e=true
 err0:0<=C.err
theorem Og(a:bC)(b:Ev):(EC a b).wid=a.wid/\(EC a b).aq=a.aq/\(EC a b).cJ=a.cJ/\(EC a b).cq=a.cq/\(EC a b).kept=a.kept/\(EC a b).au=a.au/\(EC a b).conds=a.conds/\(EC a b).now=a.now:=by
 unfold EC;split
 ·simp
 ·split
  ·simp
  ·split<;>simp
theorem ph {a:bC}{e:Ev}(d:a.err=0)(f:a.more≠ []\/a.st.next<=497\/e.kind=18)(g:(Bj a.st (Ce a e)).1=0):
  EC a e= {a with st:=(Bj a.st (Ce a e)).2,more:=a.more++ [Ce a e]}:=by
 unfold EC;rw[if_neg (by simp[d]),if_neg (by
  rintro⟨h,c,i⟩;rcases f with b|b|b
  ·exact b h
  ·unfold ju at c;simp at c;omega
  ·exact i b),if_neg (by simp[g])]
def se(a:Q6):aa->Nat->List J0->(aa->Prop)->Prop
 |h,_,[],K=>K h
 |h,i,v::b,K=>ae h (a.add i) v λc=>se a c (i+1) b K
def aW(b:aa)(a:Q6)(c:List J0)(K:aa->Prop):Prop:=se a b 0 c K
def iu(a:Array J0)(b:Nat)(c:List J0):Array J0:=⟨a.toList.take b++(c++a.toList.drop (b+c.length))⟩
theorem ANd {c:Array J0}{a:Nat}{v:J0}{b:List J0}(d:a<c.size):iu (c.setIfInBounds a v) (a+1) b=iu c a (v::b):=by
 obtain⟨l⟩:=c;have d:a<l.length:=d;unfold iu;apply congrArg Array.mk;simp only[TX,A6];have e:l.set a v=l.take a++v::l.drop (a+1):=by rw[A01,if_pos d]
 rw[e,List.take_append,List.drop_append,An,GS (by omega)];rw[show a+1-a=1 from by omega,List.take_take,ON (by omega),show a+1+b.length-a=b.length+1 from by omega];rw[I0 (l:=l.take a) (by rw[An];omega)];simp only[HU,N3,CT,IF,Hh,A4,DO];rw[show a+1+b.length=a+(b.length+1) from by omega]
theorem AP8 {a:Array J0}{b:Nat}:iu a b []=a:=by obtain⟨l⟩:=a;unfold iu;simp
theorem yx {b c:Nat}{T:Q7}{K:aa->Prop}: ∀(d:List J0) (i:Nat) {a:aa} {e:Array J0},a[b]? =some (J2 e T (0,0))->c+i+d.length<=e.size->
  (∀ f,f[b]? =some (J2 (iu e (c+i) d) T (0,0))->Mod (· =b) a f->f.size=a.size->K f)->se ⟨b,c,none⟩ a i d K
 | [],i,a,e,g,_,h=>h a (by rw[AP8];exact g) ⟨A0 _,λ_ _ _=>rfl⟩ rfl
 |v::d,i,a,e,g,k,h=>by
  rw[A6] at k;show ae a (Addr.add ⟨b,c,none⟩ i) v _;rw[Bq];refine ae.mk g (by omega) λp l m q=>?_
  refine yx d (i+1) l (by simp;omega) λn j o r=>h n ?_ (m.trans o) (by omega)
  rw[show c+(i+1)=c+i+1 from by omega,ANd (by omega)] at j;exact j
theorem aW.mk {b e:Nat}{T:Q7}{K:aa->Prop}{a:List J0}{c:aa}{f:Array J0}(g:c[b]? =some (J2 f T (0,0)))(h:e+a.length<=f.size)
  (i: ∀d,d[b]? =some (J2 (iu f e a) T (0,0))->Mod (· =b) c d->d.size=c.size->K d):aW c ⟨b,e,none⟩ a K:=yx a 0 g h i
theorem EN {c:aa}{b d:Nat}{e:Array J0}{T:Q7}{fr:Nat×Nat}{l:List J0}(f:c[b]? =some (J2 e T fr))(g:(e.toList.drop d).take l.length=l):Cells c ⟨b,d,none⟩ l:=λh v a=>by
 rw[Bq];refine AL f ?_;rw[<- PJ,<-C5];have i:=(List.getElem?_eq_some_iff.1 a).1;rw[<- g,Fm,if_pos (by omega)] at a;exact a
abbrev Ev.l(x:Ev):List J0:= [J6 J9 x.id,J6 J9 x.kind,J6 J9 x.tick,J6 J9 x.ref,J6 J9 x.step,J6 J9 x.turn,J3 x.aV,J7 x.data]
abbrev Ev.c(x:Ev):Array J0:= #[J6 J9 x.id,J6 J9 x.kind,J6 J9 x.tick,J6 J9 x.ref,J6 J9 x.step,J6 J9 x.turn,J3 x.aV,J7 x.data]
abbrev Ev.v(x:Ev):J0:= .agg #[J6 J9 x.id,J6 J9 x.kind,J6 J9 x.tick,J6 J9 x.ref,J6 J9 x.step,J6 J9 x.turn,J3 x.aV,J7 x.data]
abbrev Ev.z:Ev:=⟨0,0,0,0,0,0,false,⟨#[]⟩⟩
abbrev Ev.s:List Sc:= [.int J9,.int J9,.int J9,.int J9,.int J9,.int J9,.bool,.str]
abbrev Ev.T:Type:=Int×Int×Int×Int×Int×Int×Bool×A2I×Unit
abbrev Ev.t(x:Ev):Ev.T:=(x.id,x.kind,x.tick,x.ref,x.step,x.turn,x.aV,x.data,())
def pj(K:Ev->Prop):Prop:= ∃a:Int,∃b:Int,∃c:Int,∃d:Int,∃e:Int,∃f:Int,∃g:Bool,∃h:A2I,K ⟨a,b,c,d,e,f,g,h⟩
theorem pj.mk {K:Ev->Prop}(x:Ev)(a:K x):pj K:=⟨x.id,x.kind,x.tick,x.ref,x.step,x.turn,x.aV,x.data,a⟩
def NS(b:aa)(a:Q6)(K:Ev->Prop):Prop:=
 AC J9 b a λc=>
 AC J9 b (a.add 1) λd=>
 AC J9 b (a.add 2) λe=>
 AC J9 b (a.add 3) λf=>
 AC J9 b (a.add 4) λg=>
 AC J9 b (a.add 5) λh=>
 AZ b (a.add 6) λi=>
 AJ b (a.add 7) λj=>
 K ⟨c,d,e,f,g,h,i,j⟩
theorem NS.mk {b:aa}{a:Q6}{K:Ev->Prop}(x:Ev)(c:Cells b a x.l)(d:K x):NS b a K:=
 ⟨_,by have:=c 0 _ rfl;rwa [add_zero] at this,_,c 1 _ rfl,_,c 2 _ rfl,_,c 3 _ rfl,_,c 4 _ rfl,_,c 5 _ rfl,_,c 6 _ rfl,_,c 7 _ rfl,d⟩
abbrev Jb.l(x:Jb):List J0:= [J6 J9 x.id,J6 J9 x.step,J3 x.aV,J6 J9 x.turn]
abbrev Jb.c(x:Jb):Array J0:= #[J6 J9 x.id,J6 J9 x.step,J3 x.aV,J6 J9 x.turn]
abbrev Jb.v(x:Jb):J0:= .agg #[J6 J9 x.id,J6 J9 x.step,J3 x.aV,J6 J9 x.turn]
abbrev Jb.z:Jb:=⟨0,0,false,0⟩
abbrev Jb.s:List Sc:= [.int J9,.int J9,.bool,.int J9]
abbrev Jb.T:Type:=Int×Int×Bool×Int×Unit
abbrev Jb.t(x:Jb):Jb.T:=(x.id,x.step,x.aV,x.turn,())
abbrev Ck.l(x:Ck):List J0:= [J6 J9 x.id,J6 J9 x.step,J6 J9 x.tick]
abbrev Ck.c(x:Ck):Array J0:= #[J6 J9 x.id,J6 J9 x.step,J6 J9 x.tick]
abbrev Ck.v(x:Ck):J0:= .agg #[J6 J9 x.id,J6 J9 x.step,J6 J9 x.tick]
abbrev Ck.z:Ck:=⟨0,0,0⟩
abbrev Ck.s:List Sc:= [.int J9,.int J9,.int J9]
abbrev Ck.T:Type:=Int×Int×Int×Unit
abbrev Ck.t(x:Ck):Ck.T:=(x.id,x.step,x.tick,())
abbrev cD.l(x:cD):List J0:= [J6 J9 x.kind,J7 x.name,J7 x.aV,J6 J9 x.tries,J6 J9 x.aF,J6 J9 x.wait]
abbrev cD.c(x:cD):Array J0:= #[J6 J9 x.kind,J7 x.name,J7 x.aV,J6 J9 x.tries,J6 J9 x.aF,J6 J9 x.wait]
abbrev cD.v(x:cD):J0:= .agg #[J6 J9 x.kind,J7 x.name,J7 x.aV,J6 J9 x.tries,J6 J9 x.aF,J6 J9 x.wait]
abbrev cD.z:cD:=⟨0,⟨#[]⟩,⟨#[]⟩,0,0,0⟩
abbrev cD.s:List Sc:= [.int J9,.str,.str,.int J9,.int J9,.int J9]
abbrev cD.T:Type:=Int×A2I×A2I×Int×Int×Int×Unit
abbrev cD.t(x:cD):cD.T:=(x.kind,x.name,x.aV,x.tries,x.aF,x.wait,())
structure bR where
 steps:Sl
 aG:Int
 status:Int
 next:Int
 bA:Int
 asked:Int
 taken:Int
 fresh:Bool
 aK:Sl
 ar:Sl
 cancel:Bool
 bj:Bool
abbrev bR.l(x:bR):List J0:= [J4 x.steps.p x.steps.len x.steps.cap,J6 J9 x.aG,J6 J9 x.status,J6 J9 x.next,J6 J9 x.bA,J6 J9 x.asked,J6 J9 x.taken,J3 x.fresh,J4 x.aK.p x.aK.len x.aK.cap,J4 x.ar.p x.ar.len x.ar.cap,J3 x.cancel,J3 x.bj]
abbrev bR.c(x:bR):Array J0:= #[J4 x.steps.p x.steps.len x.steps.cap,J6 J9 x.aG,J6 J9 x.status,J6 J9 x.next,J6 J9 x.bA,J6 J9 x.asked,J6 J9 x.taken,J3 x.fresh,J4 x.aK.p x.aK.len x.aK.cap,J4 x.ar.p x.ar.len x.ar.cap,J3 x.cancel,J3 x.bj]
abbrev bR.v(x:bR):J0:= .agg #[J4 x.steps.p x.steps.len x.steps.cap,J6 J9 x.aG,J6 J9 x.status,J6 J9 x.next,J6 J9 x.bA,J6 J9 x.asked,J6 J9 x.taken,J3 x.fresh,J4 x.aK.p x.aK.len x.aK.cap,J4 x.ar.p x.ar.len x.ar.cap,J3 x.cancel,J3 x.bj]
abbrev bR.z:bR:=⟨⟨none,0,0⟩,0,0,0,0,0,0,false,⟨none,0,0⟩,⟨none,0,0⟩,false,false⟩
abbrev bR.s:List Sc:= [.sl,.int J9,.int J9,.int J9,.int J9,.int J9,.int J9,.bool,.sl,.sl,.bool,.bool]
abbrev bR.T:Type:=Sl×Int×Int×Int×Int×Int×Int×Bool×Sl×Sl×Bool×Bool×Unit
abbrev bR.t(x:bR):bR.T:=(x.steps,x.aG,x.status,x.next,x.bA,x.asked,x.taken,x.fresh,x.aK,x.ar,x.cancel,x.bj,())
def Ju(K:bR->Prop):Prop:= ∃a:Sl,∃b:Int,∃c:Int,∃d:Int,∃e:Int,∃f:Int,∃g:Int,∃h:Bool,∃i:Sl,∃j:Sl,∃k:Bool,∃l:Bool,K ⟨a,b,c,d,e,f,g,h,i,j,k,l⟩
theorem Ju.mk {K:bR->Prop}(x:bR)(a:K x):Ju K:=⟨x.steps,x.aG,x.status,x.next,x.bA,x.asked,x.taken,x.fresh,x.aK,x.ar,x.cancel,x.bj,a⟩
def Bo(b:aa)(a:Q6)(K:bR->Prop):Prop:=
 Ad b a λc=>
 AC J9 b (a.add 1) λd=>
 AC J9 b (a.add 2) λe=>
 AC J9 b (a.add 3) λf=>
 AC J9 b (a.add 4) λg=>
 AC J9 b (a.add 5) λh=>
 AC J9 b (a.add 6) λi=>
 AZ b (a.add 7) λj=>
 Ad b (a.add 8) λk=>
 Ad b (a.add 9) λl=>
 AZ b (a.add 10) λm=>
 AZ b (a.add 11) λn=>
 K ⟨c,d,e,f,g,h,i,j,k,l,m,n⟩
theorem Bo.mk {b:aa}{a:Q6}{K:bR->Prop}(x:bR)(c:Cells b a x.l)(d:K x):Bo b a K:=
 ⟨_,by have:=c 0 _ rfl;rwa [add_zero] at this,_,c 1 _ rfl,_,c 2 _ rfl,_,c 3 _ rfl,_,c 4 _ rfl,_,c 5 _ rfl,_,c 6 _ rfl,_,c 7 _ rfl,_,c 8 _ rfl,_,c 9 _ rfl,_,c 10 _ rfl,_,c 11 _ rfl,d⟩
structure cV where
 status:Int
 next:Int
 kept:Bool
abbrev cV.l(x:cV):List J0:= [J6 J9 x.status,J6 J9 x.next,J3 x.kept]
abbrev cV.c(x:cV):Array J0:= #[J6 J9 x.status,J6 J9 x.next,J3 x.kept]
abbrev cV.v(x:cV):J0:= .agg #[J6 J9 x.status,J6 J9 x.next,J3 x.kept]
abbrev cV.z:cV:=⟨0,0,false⟩
abbrev cV.s:List Sc:= [.int J9,.int J9,.bool]
abbrev cV.T:Type:=Int×Int×Bool×Unit
abbrev cV.t(x:cV):cV.T:=(x.status,x.next,x.kept,())
def na(K:cV->Prop):Prop:= ∃a:Int,∃b:Int,∃c:Bool,K ⟨a,b,c⟩
theorem na.mk {K:cV->Prop}(x:cV)(a:K x):na K:=⟨x.status,x.next,x.kept,a⟩
def Jt(b:aa)(a:Q6)(K:cV->Prop):Prop:=
 AC J9 b a λc=>
 AC J9 b (a.add 1) λd=>
 AZ b (a.add 2) λe=>
 K ⟨c,d,e⟩
theorem Jt.mk {b:aa}{a:Q6}{K:cV->Prop}(x:cV)(c:Cells b a x.l)(d:K x):Jt b a K:=
 ⟨_,by have:=c 0 _ rfl;rwa [add_zero] at this,_,c 1 _ rfl,_,c 2 _ rfl,d⟩
structure bZ where
 wid:A2I
 aq:Int
 me:cV
 cK:Sl
 st:bR
abbrev bZ.l(x:bZ):List J0:= [J7 x.wid,J6 J9 x.aq,J6 J9 x.me.status,J6 J9 x.me.next,J3 x.me.kept,J4 x.cK.p x.cK.len x.cK.cap,J4 x.st.steps.p x.st.steps.len x.st.steps.cap,J6 J9 x.st.aG,J6 J9 x.st.status,J6 J9 x.st.next,J6 J9 x.st.bA,J6 J9 x.st.asked,J6 J9 x.st.taken,J3 x.st.fresh,J4 x.st.aK.p x.st.aK.len x.st.aK.cap,J4 x.st.ar.p x.st.ar.len x.st.ar.cap,J3 x.st.cancel,J3 x.st.bj]
abbrev bZ.c(x:bZ):Array J0:= #[J7 x.wid,J6 J9 x.aq,J6 J9 x.me.status,J6 J9 x.me.next,J3 x.me.kept,J4 x.cK.p x.cK.len x.cK.cap,J4 x.st.steps.p x.st.steps.len x.st.steps.cap,J6 J9 x.st.aG,J6 J9 x.st.status,J6 J9 x.st.next,J6 J9 x.st.bA,J6 J9 x.st.asked,J6 J9 x.st.taken,J3 x.st.fresh,J4 x.st.aK.p x.st.aK.len x.st.aK.cap,J4 x.st.ar.p x.st.ar.len x.st.ar.cap,J3 x.st.cancel,J3 x.st.bj]
abbrev bZ.v(x:bZ):J0:= .agg #[J7 x.wid,J6 J9 x.aq,J6 J9 x.me.status,J6 J9 x.me.next,J3 x.me.kept,J4 x.cK.p x.cK.len x.cK.cap,J4 x.st.steps.p x.st.steps.len x.st.steps.cap,J6 J9 x.st.aG,J6 J9 x.st.status,J6 J9 x.st.next,J6 J9 x.st.bA,J6 J9 x.st.asked,J6 J9 x.st.taken,J3 x.st.fresh,J4 x.st.aK.p x.st.aK.len x.st.aK.cap,J4 x.st.ar.p x.st.ar.len x.st.ar.cap,J3 x.st.cancel,J3 x.st.bj]
abbrev bZ.z:bZ:=⟨⟨#[]⟩,0,⟨0,0,false⟩,⟨none,0,0⟩,⟨⟨none,0,0⟩,0,0,0,0,0,0,false,⟨none,0,0⟩,⟨none,0,0⟩,false,false⟩⟩
abbrev bZ.s:List Sc:= [.str,.int J9,.int J9,.int J9,.bool,.sl,.sl,.int J9,.int J9,.int J9,.int J9,.int J9,.int J9,.bool,.sl,.sl,.bool,.bool]
abbrev bZ.T:Type:=A2I×Int×Int×Int×Bool×Sl×Sl×Int×Int×Int×Int×Int×Int×Bool×Sl×Sl×Bool×Bool×Unit
abbrev bZ.t(x:bZ):bZ.T:=(x.wid,x.aq,x.me.status,x.me.next,x.me.kept,x.cK,x.st.steps,x.st.aG,x.st.status,x.st.next,x.st.bA,x.st.asked,x.st.taken,x.st.fresh,x.st.aK,x.st.ar,x.st.cancel,x.st.bj,())
def O9(K:bZ->Prop):Prop:= ∃a:A2I,∃b:Int,∃c:Int,∃d:Int,∃e:Bool,∃f:Sl,∃g:Sl,∃h:Int,∃i:Int,∃j:Int,∃k:Int,∃l:Int,∃m:Int,∃n:Bool,∃o:Sl,∃p:Sl,∃q:Bool,∃r:Bool,K ⟨a,b,⟨c,d,e⟩,f,⟨g,h,i,j,k,l,m,n,o,p,q,r⟩⟩
theorem O9.mk {K:bZ->Prop}(x:bZ)(a:K x):O9 K:=⟨x.wid,x.aq,x.me.status,x.me.next,x.me.kept,x.cK,x.st.steps,x.st.aG,x.st.status,x.st.next,x.st.bA,x.st.asked,x.st.taken,x.st.fresh,x.st.aK,x.st.ar,x.st.cancel,x.st.bj,a⟩
def I7(b:aa)(a:Q6)(K:bZ->Prop):Prop:=
 AJ b a λc=>
 AC J9 b (a.add 1) λd=>
 AC J9 b (a.add 2) λe=>
 AC J9 b (a.add 3) λf=>
 AZ b (a.add 4) λg=>
 Ad b (a.add 5) λh=>
 Ad b (a.add 6) λi=>
 AC J9 b (a.add 7) λj=>
 AC J9 b (a.add 8) λk=>
 AC J9 b (a.add 9) λl=>
 AC J9 b (a.add 10) λm=>
 AC J9 b (a.add 11) λn=>
 AC J9 b (a.add 12) λo=>
 AZ b (a.add 13) λp=>
 Ad b (a.add 14) λq=>
 Ad b (a.add 15) λr=>
 AZ b (a.add 16) λs=>
 AZ b (a.add 17) λt=>
 K ⟨c,d,⟨e,f,g⟩,h,⟨i,j,k,l,m,n,o,p,q,r,s,t⟩⟩
theorem I7.mk {b:aa}{a:Q6}{K:bZ->Prop}(x:bZ)(c:Cells b a x.l)(d:K x):I7 b a K:=
 ⟨_,by have:=c 0 _ rfl;rwa [add_zero] at this,_,c 1 _ rfl,_,c 2 _ rfl,_,c 3 _ rfl,_,c 4 _ rfl,_,c 5 _ rfl,_,c 6 _ rfl,_,c 7 _ rfl,_,c 8 _ rfl,_,c 9 _ rfl,_,c 10 _ rfl,_,c 11 _ rfl,_,c 12 _ rfl,_,c 13 _ rfl,_,c 14 _ rfl,_,c 15 _ rfl,_,c 16 _ rfl,_,c 17 _ rfl,d⟩
structure dF where
 kind:Int
 wid:A2I
 ref:Int
 turn:Int
abbrev dF.l(x:dF):List J0:= [J6 J9 x.kind,J7 x.wid,J6 J9 x.ref,J6 J9 x.turn]
abbrev dF.c(x:dF):Array J0:= #[J6 J9 x.kind,J7 x.wid,J6 J9 x.ref,J6 J9 x.turn]
abbrev dF.v(x:dF):J0:= .agg #[J6 J9 x.kind,J7 x.wid,J6 J9 x.ref,J6 J9 x.turn]
abbrev dF.z:dF:=⟨0,⟨#[]⟩,0,0⟩
abbrev dF.s:List Sc:= [.int J9,.str,.int J9,.int J9]
abbrev dF.T:Type:=Int×A2I×Int×Int×Unit
abbrev dF.t(x:dF):dF.T:=(x.kind,x.wid,x.ref,x.turn,())
def jv(b:aa)(a:Q6)(K:dF->Prop):Prop:=
 AC J9 b a λc=>
 AJ b (a.add 1) λd=>
 AC J9 b (a.add 2) λe=>
 AC J9 b (a.add 3) λf=>
 K ⟨c,d,e,f⟩
theorem jv.mk {b:aa}{a:Q6}{K:dF->Prop}(x:dF)(c:Cells b a x.l)(d:K x):jv b a K:=
 ⟨_,by have:=c 0 _ rfl;rwa [add_zero] at this,_,c 1 _ rfl,_,c 2 _ rfl,_,c 3 _ rfl,d⟩
structure cC where
 kind:Int
 aX:A2I
 wid:A2I
 name:A2I
 steps:Sl
 aG:Int
 cR:Sl
 ref:Int
 turn:Int
 aZ:Int
 aq:Int
 aO:Bool
abbrev cC.l(x:cC):List J0:= [J6 J9 x.kind,J7 x.aX,J7 x.wid,J7 x.name,J4 x.steps.p x.steps.len x.steps.cap,J6 J9 x.aG,J4 x.cR.p x.cR.len x.cR.cap,J6 J9 x.ref,J6 J9 x.turn,J6 J9 x.aZ,J6 J9 x.aq,J3 x.aO]
abbrev cC.c(x:cC):Array J0:= #[J6 J9 x.kind,J7 x.aX,J7 x.wid,J7 x.name,J4 x.steps.p x.steps.len x.steps.cap,J6 J9 x.aG,J4 x.cR.p x.cR.len x.cR.cap,J6 J9 x.ref,J6 J9 x.turn,J6 J9 x.aZ,J6 J9 x.aq,J3 x.aO]
abbrev cC.v(x:cC):J0:= .agg #[J6 J9 x.kind,J7 x.aX,J7 x.wid,J7 x.name,J4 x.steps.p x.steps.len x.steps.cap,J6 J9 x.aG,J4 x.cR.p x.cR.len x.cR.cap,J6 J9 x.ref,J6 J9 x.turn,J6 J9 x.aZ,J6 J9 x.aq,J3 x.aO]
abbrev cC.z:cC:=⟨0,⟨#[]⟩,⟨#[]⟩,⟨#[]⟩,⟨none,0,0⟩,0,⟨none,0,0⟩,0,0,0,0,false⟩
abbrev cC.s:List Sc:= [.int J9,.str,.str,.str,.sl,.int J9,.sl,.int J9,.int J9,.int J9,.int J9,.bool]
abbrev cC.T:Type:=Int×A2I×A2I×A2I×Sl×Int×Sl×Int×Int×Int×Int×Bool×Unit
abbrev cC.t(x:cC):cC.T:=(x.kind,x.aX,x.wid,x.name,x.steps,x.aG,x.cR,x.ref,x.turn,x.aZ,x.aq,x.aO,())
def pn(b:aa)(a:Q6)(K:cC->Prop):Prop:=
 AC J9 b a λc=>
 AJ b (a.add 1) λd=>
 AJ b (a.add 2) λe=>
 AJ b (a.add 3) λf=>
 Ad b (a.add 4) λg=>
 AC J9 b (a.add 5) λh=>
 Ad b (a.add 6) λi=>
 AC J9 b (a.add 7) λj=>
 AC J9 b (a.add 8) λk=>
 AC J9 b (a.add 9) λl=>
 AC J9 b (a.add 10) λm=>
 AZ b (a.add 11) λn=>
 K ⟨c,d,e,f,g,h,i,j,k,l,m,n⟩
theorem pn.mk {b:aa}{a:Q6}{K:cC->Prop}(x:cC)(c:Cells b a x.l)(d:K x):pn b a K:=
 ⟨_,by have:=c 0 _ rfl;rwa [add_zero] at this,_,c 1 _ rfl,_,c 2 _ rfl,_,c 3 _ rfl,_,c 4 _ rfl,_,c 5 _ rfl,_,c 6 _ rfl,_,c 7 _ rfl,_,c 8 _ rfl,_,c 9 _ rfl,_,c 10 _ rfl,_,c 11 _ rfl,d⟩
structure bY where
 err:Int
 status:Int
 next:Int
 task:dF
 name:A2I
 cK:Sl
abbrev bY.l(x:bY):List J0:= [J6 J9 x.err,J6 J9 x.status,J6 J9 x.next,J6 J9 x.task.kind,J7 x.task.wid,J6 J9 x.task.ref,J6 J9 x.task.turn,J7 x.name,J4 x.cK.p x.cK.len x.cK.cap]
abbrev bY.c(x:bY):Array J0:= #[J6 J9 x.err,J6 J9 x.status,J6 J9 x.next,J6 J9 x.task.kind,J7 x.task.wid,J6 J9 x.task.ref,J6 J9 x.task.turn,J7 x.name,J4 x.cK.p x.cK.len x.cK.cap]
abbrev bY.v(x:bY):J0:= .agg #[J6 J9 x.err,J6 J9 x.status,J6 J9 x.next,J6 J9 x.task.kind,J7 x.task.wid,J6 J9 x.task.ref,J6 J9 x.task.turn,J7 x.name,J4 x.cK.p x.cK.len x.cK.cap]
abbrev bY.z:bY:=⟨0,0,0,⟨0,⟨#[]⟩,0,0⟩,⟨#[]⟩,⟨none,0,0⟩⟩
abbrev bY.s:List Sc:= [.int J9,.int J9,.int J9,.int J9,.str,.int J9,.int J9,.str,.sl]
abbrev bY.T:Type:=Int×Int×Int×Int×A2I×Int×Int×A2I×Sl×Unit
abbrev bY.t(x:bY):bY.T:=(x.err,x.status,x.next,x.task.kind,x.task.wid,x.task.ref,x.task.turn,x.name,x.cK,())
def KO(K:bY->Prop):Prop:= ∃a:Int,∃b:Int,∃c:Int,∃d:Int,∃e:A2I,∃f:Int,∃g:Int,∃h:A2I,∃i:Sl,K ⟨a,b,c,⟨d,e,f,g⟩,h,i⟩
theorem KO.mk {K:bY->Prop}(x:bY)(a:K x):KO K:=⟨x.err,x.status,x.next,x.task.kind,x.task.wid,x.task.ref,x.task.turn,x.name,x.cK,a⟩
def GR(b:aa)(a:Q6)(K:bY->Prop):Prop:=
 AC J9 b a λc=>
 AC J9 b (a.add 1) λd=>
 AC J9 b (a.add 2) λe=>
 AC J9 b (a.add 3) λf=>
 AJ b (a.add 4) λg=>
 AC J9 b (a.add 5) λh=>
 AC J9 b (a.add 6) λi=>
 AJ b (a.add 7) λj=>
 Ad b (a.add 8) λk=>
 K ⟨c,d,e,⟨f,g,h,i⟩,j,k⟩
theorem GR.mk {b:aa}{a:Q6}{K:bY->Prop}(x:bY)(c:Cells b a x.l)(d:K x):GR b a K:=
 ⟨_,by have:=c 0 _ rfl;rwa [add_zero] at this,_,c 1 _ rfl,_,c 2 _ rfl,_,c 3 _ rfl,_,c 4 _ rfl,_,c 5 _ rfl,_,c 6 _ rfl,_,c 7 _ rfl,_,c 8 _ rfl,d⟩
structure gD where
 wait:Int
 q:cC
 take:Bool
 iU:Bool
abbrev gD.l(x:gD):List J0:= [J6 J9 x.wait,J6 J9 x.q.kind,J7 x.q.aX,J7 x.q.wid,J7 x.q.name,J4 x.q.steps.p x.q.steps.len x.q.steps.cap,J6 J9 x.q.aG,J4 x.q.cR.p x.q.cR.len x.q.cR.cap,J6 J9 x.q.ref,J6 J9 x.q.turn,J6 J9 x.q.aZ,J6 J9 x.q.aq,J3 x.q.aO,J3 x.take,J3 x.iU]
abbrev gD.c(x:gD):Array J0:= #[J6 J9 x.wait,J6 J9 x.q.kind,J7 x.q.aX,J7 x.q.wid,J7 x.q.name,J4 x.q.steps.p x.q.steps.len x.q.steps.cap,J6 J9 x.q.aG,J4 x.q.cR.p x.q.cR.len x.q.cR.cap,J6 J9 x.q.ref,J6 J9 x.q.turn,J6 J9 x.q.aZ,J6 J9 x.q.aq,J3 x.q.aO,J3 x.take,J3 x.iU]
abbrev gD.v(x:gD):J0:= .agg #[J6 J9 x.wait,J6 J9 x.q.kind,J7 x.q.aX,J7 x.q.wid,J7 x.q.name,J4 x.q.steps.p x.q.steps.len x.q.steps.cap,J6 J9 x.q.aG,J4 x.q.cR.p x.q.cR.len x.q.cR.cap,J6 J9 x.q.ref,J6 J9 x.q.turn,J6 J9 x.q.aZ,J6 J9 x.q.aq,J3 x.q.aO,J3 x.take,J3 x.iU]
abbrev gD.z:gD:=⟨0,⟨0,⟨#[]⟩,⟨#[]⟩,⟨#[]⟩,⟨none,0,0⟩,0,⟨none,0,0⟩,0,0,0,0,false⟩,false,false⟩
abbrev gD.s:List Sc:= [.int J9,.int J9,.str,.str,.str,.sl,.int J9,.sl,.int J9,.int J9,.int J9,.int J9,.bool,.bool,.bool]
abbrev gD.T:Type:=Int×Int×A2I×A2I×A2I×Sl×Int×Sl×Int×Int×Int×Int×Bool×Bool×Bool×Unit
abbrev gD.t(x:gD):gD.T:=(x.wait,x.q.kind,x.q.aX,x.q.wid,x.q.name,x.q.steps,x.q.aG,x.q.cR,x.q.ref,x.q.turn,x.q.aZ,x.q.aq,x.q.aO,x.take,x.iU,())
structure gE where
 key:A2I
 val:A2I
 ref:Int
 turn:Int
 aO:Bool
abbrev gE.l(x:gE):List J0:= [J7 x.key,J7 x.val,J6 J9 x.ref,J6 J9 x.turn,J3 x.aO]
abbrev gE.c(x:gE):Array J0:= #[J7 x.key,J7 x.val,J6 J9 x.ref,J6 J9 x.turn,J3 x.aO]
abbrev gE.v(x:gE):J0:= .agg #[J7 x.key,J7 x.val,J6 J9 x.ref,J6 J9 x.turn,J3 x.aO]
abbrev gE.z:gE:=⟨⟨#[]⟩,⟨#[]⟩,0,0,false⟩
abbrev gE.s:List Sc:= [.str,.str,.int J9,.int J9,.bool]
abbrev gE.T:Type:=A2I×A2I×Int×Int×Bool×Unit
abbrev gE.t(x:gE):gE.T:=(x.key,x.val,x.ref,x.turn,x.aO,())
abbrev ad(b:Nat):Q6:=⟨b,0,none⟩
end Go.Lf
namespace Go.Lf.G
abbrev AU:cn:= .none
abbrev AO(a b:cn):cn:= .seq a b
def Cc:Nat->cn->cn
 |0,x=>x
 |n+1,x=> .seq .none (Cc n x)
abbrev CK:cn:=AO AU AU
abbrev EI:cn:= .cond CK AU
abbrev Fg:cn:= .cond AU AU
abbrev Cv:cn:=AO AU EI
abbrev Fy:cn:=AO AU Fg
abbrev F6:cn:=Cc 2 AU
abbrev iZ:cn:=AO Cv CK
abbrev RH:cn:=AO AU iZ
abbrev jo:cn:=AO AU (AO Fg (AO (.block CK) AU))
abbrev Ls:cn:=Cc 2 EI
abbrev lz:cn:=AO AU (AO Fg (AO (.block Ls) AU))
abbrev oH:cn:=AO AU (.cond AU Fy)
abbrev mK:cn:=AO AU (.cond AU oH)
abbrev oI:cn:=AO Cv AU
abbrev oJ:cn:=AO AU (AO Fg (AO (.block (Cc 2 oI)) AU))
abbrev gy:cn:=Cc 3 AU
abbrev vu:cn:=Cc 3 (AO Cv (AO AU (AO Cv (AO (AO AU (.cond (Cc 4 AU) AU)) (AO AU (AO (AO AU (.cond gy AU)) gy))))))
abbrev oK:cn:=AO AU (AO Fg (AO (.block F6) AU))
abbrev qS:cn:= .cond CK Cv
abbrev qT:cn:= .block (AO AU (.cond CK (AO AU qS)))
abbrev oL:cn:= .block AU
abbrev qU:cn:=AO AU (AO Fg (AO oL AU))
abbrev mL:cn:= .cond F6 AU
abbrev vv:cn:=AO AU (AO Fg (AO (.block (Cc 3 EI)) AU))
abbrev mM:cn:=AO Cv F6
abbrev qV:cn:=AO AU (AO Cv iZ)
abbrev lA:cn:=Cc 2 Fg
abbrev vx:cn:=AO (.bD [(13,.one .bool)] [0,1]) EI
abbrev vA:cn:=AO (.bD [(16,.one .bool)] [0,1]) EI
abbrev vB:cn:=AO (.bD [(19,.one .bool)] [0,1]) EI
abbrev oM:cn:=AO AU oI
abbrev vC:cn:=AO Fy (AO (.block Cv) AU)
theorem Ae {a:ak}{f:Q8}{args:List J0}{b:aa}{c:A2H}{d:Prop}(e:cn)(g:d=qZ a P f e args b c)(h:d):AA a P f args.toArray b c:=AHH mixed (g▸h)
end Go.Lf.G
