/-
 LIFT, part K: reasoning about heaps: what is kept, what lies where, slices that are read, slices that are owned.
-/
import Derived.Test.YtfiljlifdlfkkaaGreatDoorLfAToN1
import Derived.Laws.FloatArith
import Derived.MapKept
import Derived.Maps.Own
import Derived.Lib.Bytealg
import Derived.Sort.KeysCollected
import Derived.StringKeys
import Derived.Laws.BytesString
import Derived.Laws.BytesArg
import Derived.Laws.StructEq
import Derived.ChangeKeysEq
set_option maxRecDepth 100000
set_option linter.unusedVariables false
set_option linter.unusedSimpArgs false
open Go.IntKind renaming i64→J9,wrap→J8
open Go.Value renaming string→J7,int→J6,pointer→J5,slice→J4,bool→J3,tuple→J1
open Go.Obj renaming cells→J2
open Go renaming Value→J0,Addr→Q6,TypeId→Q7,FuncId→Q8,Program→Q1
open Go.Addr renaming add→Q9,mk→Q5
namespace Go.Lf
theorem add_add(a:Q6)(m b:Nat):(a.add m).add b=a.add (m+b):=by
 unfold Addr.add;by_cases c:m=0
 ·subst c;simp
 ·by_cases d:b=0
  ·subst d;simp[c]
  ·have:m+b≠0:=by omega
   simp[c,d,IF]
theorem add_zero(a:Q6):a.add 0=a:=by simp[Addr.add]
theorem aP(a:Q6)(b:Nat):(a.add b).block=a.block:=by unfold Addr.add;split<;>rfl
theorem Bp(b c a:Nat):(⟨b,c,none⟩:Q6).add a=⟨b,c+a,none⟩:=by unfold Addr.add;by_cases d:a=0<;>simp[d]
structure Mod (S:Nat->Prop) (h h':aa):Prop where
 size:h.size<=h'.size
 get: ∀b,b<h.size-> ¬S b->h'[b]? =h[b]?
abbrev Ext:=Mod (λ_=>False)
theorem Mod.refl {b:Nat->Prop}{a:aa}:Mod b a a:=⟨A0 _,λ_ _ _=>rfl⟩
theorem Mod.trans {d:Nat->Prop}{e f g:aa}(a:Mod d e f)(b:Mod d f g):Mod d e g:=
 ⟨AK a.size b.size,λc h i=>(b.get c (Fc h a.size) i).trans (a.get c h i)⟩
theorem Mod.ak {e S':Nat->Prop}{d f:aa}(a:Mod e d f)(h: ∀b,b<d.size->e b->S' b):Mod S' d f:=⟨a.size,λc g i=>a.get c g λd=>i (h c g d)⟩
theorem Ext.mod {d:Nat->Prop}{b c:aa}(a:Ext b c):Mod d b c:=a.ak λ_ _ b=>b.elim
theorem Mod.then {e:Nat->Prop}{d f g:aa}(a:Mod e d f)(b:Mod (λc=>e c\/d.size<=c) f g):Mod e d g:=
 ⟨AK a.size b.size,λc h i=>(b.get c (Fc h a.size) (λd=>d.elim i (λd=>by omega))).trans (a.get c h i)⟩
theorem Mod.push {d:Nat->Prop}(a:aa)(e:Obj):Mod d a (a.push e):=
 ⟨by simp,λb c _=>by rw[R1 c];simp[c]⟩
theorem Mod.ag {c:Nat->Prop}{d e:aa}(a:Mod c d e){b:Nat}{f:Obj}(g:d[b]? =some f)(h: ¬c b):e[b]? =some f:=
 (a.get b (Array.getElem?_eq_some_iff.1 g).1 h).trans g
theorem Ai {a:aa}{b:Nat}{c:Obj}(d:a[b]? =some c):b<a.size:=(Array.getElem?_eq_some_iff.1 d).1
theorem Zt {b:aa}{a:Q6}{v:J0}(c:af b a=some v):a.block<b.size:=by
 unfold af at c;cases d:b[a.block]? with
 |none=>rw[d] at c;cases c
 |some e=>exact Ai d
theorem SE {b c:aa}{a:Q6}(d:c[a.block]? =b[a.block]?):af c a=af b a:=by unfold af;rw[d]
theorem Mod.af {b:Nat->Prop}{c d:aa}(m:Mod b c d){a:Q6}{v:J0}(e:af c a=some v)(f: ¬b a.block):Lf.af d a=some v:=
 (SE (m.get _ (Zt e) f)).trans e
theorem Ext.af {b c:aa}(m:Ext b c){a:Q6}{v:J0}(d:Lf.af b a=some v):Lf.af c a=some v:=Mod.af m d (λb=>b)
theorem Gs {a:aa}{b c:Nat}{d:Array J0}{T:Q7}{fr:Nat×Nat}(e:a[b]? =some (.cells d T fr)):af a ⟨b,c,none⟩=d[c]? :=by simp[af,e]
theorem NR {a:aa}{b c:Nat}{d:Array J0}{T:Q7}(e:a[b]? =some (.cells d T (0,0))):fO a ⟨b,c,none⟩=false:=by simp[fO,e]
theorem xN {a:aa}{b c:Nat}{d:Array J0}{T:Q7}{fr:Nat×Nat}{v:J0}(e:a[b]? =some (.cells d T fr)):
  (cT a ⟨b,c,none⟩ v)[b]? =some (.cells (d.setIfInBounds c v) T fr):=by
 simp[cT,Hi,e]
theorem ANM {b:aa}{a:Q6}{v:J0}{c:Nat}(d:c≠a.block):(cT b a v)[c]? =b[c]? :=by simp[cT,Hi,Ne.symm d]
theorem ra {b:aa}{a:Q6}{v:J0}:(cT b a v).size=b.size:=by simp[cT]
theorem Mod.set {S:Nat->Prop}{b:aa}{a:Q6}{v:J0}(c:S a.block):Mod S b (cT b a v):=
 ⟨by rw[ra];exact A0 _,λ_ _ d=>ANM (λe=>d (e▸c))⟩
theorem ai.mk {a:aa}{c:Obj}{K:Nat->aa->Prop}(d: ∀b,b=a.push c->b[a.size]? =some c->Ext a b->b.size=a.size+1->K a.size b):ai a c K:=
 d _ rfl (by simp) (Mod.push a c) (by simp)
theorem ae.mk {a:aa}{b c:Nat}{v:J0}{d:Array J0}{T:Q7}{K:aa->Prop}(f:a[b]? =some (.cells d T (0,0)))(g:c<d.size)
  (h: ∀e,e[b]? =some (.cells (d.setIfInBounds c v) T (0,0))->Mod (· =b) a e->e.size=a.size->K e):ae a ⟨b,c,none⟩ v K:=
 ⟨⟨d[c],by rw[Gs f];simp[g]⟩,NR f,h _ (xN f) (Mod.set rfl) ra⟩
theorem ab.intro {b:Bool}{a c:Prop}(d:b=true->a)(e:b=false->c):ab b a c:=by
 cases b
 ·exact e rfl
 ·exact d rfl
theorem ab.yes {b:Bool}{a c:Prop}(d:b=true)(e:a):ab b a c:=by subst d;exact e
theorem ab.no {b:Bool}{c a:Prop}(d:b=false)(e:a):ab b c a:=by subst d;exact e
theorem aY.mk {p:Q2}{len:Nat}{a:Q6}{k:Nat}{K:Q6->Prop}(b:p=some a)(d:k<len)(c:K a):aY p len (k:Int) K:=
 ⟨a,b,⟨by omega,by omega⟩,c⟩
theorem Yz.mk {b:Bool}{K:Prop}(a:b=true)(c:K):Yz b K:=by subst a;exact c
theorem ah.mk {a:Type}{b:a->aa->Prop}{body:(a->aa->Prop)->Prop}(d: ∀K:a->aa->Prop,(∀ x c,b x c->K x c)->body K):ah b body:=d
theorem EM.func {A:ao}{P:Q1}{f:Q8}{first bM args:Array J0}{h:aa}{R:A2X}
  (c:(callFunc f (first++args++bM)).calc P=some (.enter f (first++args++bM))) (d:AA A P f (first++args++bM) h R):EM A P (.func (.func f) first bM) args h R:=by
 intro a;have e:=DZ c (A.at h a);have g:(do let b <-Deferred.ofValue (.func (.func f) first bM) args;invoke b.target b.args:Sem Next).run P (A.at h a)= .ok (.enter f (first++args++bM)) (A.at h a):=by simp only[Deferred.ofValue,Sem.run_bind,Sem.run_pure,Result.andThen_ok,invoke];exact e
 rw[g];exact d a
structure cr (α:Type) where
 enc:α->List J0
 w:Nat
 len: ∀x,(enc x).length=w
 pos:0<w
 one: ∀x v,v∈enc x->MH v=true
variable {α : Type}
def Cells(c:aa)(a:Q6)(d:List J0):Prop:= ∀b v,d[b]? =some v->af c (a.add b)=some v
theorem Cells.mod {b:Nat->Prop}{d e:aa}{a:Q6}{f:List J0}(c:Cells d a f)(m:Mod b d e)(g: ¬b a.block):Cells e a f:=
 λh v i=>m.af (c h v i) (by rw[aP];exact g)
structure View (E:cr α) (h:aa) (s:Sl) (l:List α):Prop where
 len:s.len=l.length
 cap:s.len<=s.cap
 cells: ∀i x,l[i]? =some x-> ∃a,s.p=some a/\Cells h (a.add (i*E.w)) (E.enc x)
def Sl.ag(s:Sl):Option Nat:=s.p.map (·.block)
theorem View.mod {c:cr α}{d:Nat->Prop}{e f:aa}{s:Sl}{l:List α}(v:View c e s l)(m:Mod d e f)(h: ∀b,s.ag=some b-> ¬d b):View c f s l:=
 ⟨v.len,v.cap,λi x hi=>let ⟨a,g,j⟩:=v.cells i x hi;⟨a,g,j.mod m (by rw[aP];exact h _ (by simp[Sl.ag,g]))⟩⟩
theorem View.ext {b:cr α}{a c:aa}{s:Sl}{l:List α}(v:View b a s l)(m:Ext a c):View b c s l:=v.mod m λ_ _ a=>a
theorem View.nil {b:cr α}{a:aa}:View b a ⟨none,0,0⟩ []:=⟨rfl,A0 _,λ_ _ a=>by simp at a⟩
structure Own (E:cr α) (T:Q7) (h:aa) (s:Sl) (l:List α):Prop where
 len:s.len=l.length
 row:(s=⟨none,0,0⟩/\l= [])\/ ∃g cur,s.p=some ⟨g,0,none⟩/\h[g]? =some (.cells cur T (0,0))/\s.len<=s.cap/\s.cap<=maxLen/\cur.size=s.cap*E.w/\cur.toList.take (s.len*E.w)=l.flatMap E.enc
theorem Own.nil {a:cr α}{T:Q7}{b:aa}:Own a T b ⟨none,0,0⟩ []:=⟨rfl,.inl ⟨rfl,rfl⟩⟩
theorem dk {E:cr α}: ∀ {l:List α} {i:Nat} {x:α},l[i]? =some x-> ∀a v,(E.enc x)[a]? =some v->(l.flatMap E.enc)[i*E.w+a]? =some v
 | [],i,x,b,_,_,_=>by simp at b
 |y::l,0,x,b,a,v,c=>by
  simp at b;subst b;rw[AM,HT,AF,Hc (List.getElem?_eq_some_iff.1 c).1];exact c
 |y::l,i+1,x,b,a,v,c=>by
  have d:=dk (E:=E) (l:=l) (i:=i) (by simpa using b) a v c;rw[AM,Fo (by rw[E.len,Bm];omega),E.len];rw[show(i+1)*E.w+a-E.w=i*E.w+a by rw[Bm];omega];exact d
theorem KS {E:cr α}: ∀ {l:List α},(l.flatMap E.enc).length=l.length*E.w
 | []=>by simp
 |x::l=>by rw[AM,A1,KS,E.len,An,Bm];omega
theorem Own.view {E:cr α}{T:Q7}{a:aa}{s:Sl}{l:List α}(b:Own E T a s l):View E a s l:=by
 rcases b.row with⟨rfl,rfl⟩|⟨g,k,c,d,e,_,m,f⟩
 ·exact View.nil
 ·refine⟨b.len,e,λi x hi=>⟨_,c,λh v j=>?_⟩⟩;have:=dk (E:=E) hi h v j;rw[<- f,F1] at this;split at this
  ·rw[add_add,Bp,Gs d];simpa using this
  ·cases this
theorem Own.mod {a:cr α}{T:Q7}{c:Nat->Prop}{d e:aa}{s:Sl}{l:List α}(f:Own a T d s l)(m:Mod c d e)(i: ∀b,s.ag=some b-> ¬c b):Own a T e s l:=by
 refine⟨f.len,?_⟩;rcases f.row with j|⟨g,k,h,n,rest⟩
 ·exact .inl j
 ·exact .inr ⟨g,k,h,m.ag n (i g (by simp[Sl.ag,h])),rest⟩
theorem Own.ext {b:cr α}{T:Q7}{a c:aa}{s:Sl}{l:List α}(d:Own b T a s l)(m:Ext a c):Own b T c s l:=d.mod m λ_ _ a=>a
theorem Own.lit {E:cr α}{T:Q7}{c:aa}{b:Nat}{l:List α}{a:Array J0}(e:c[b]? =some (.cells a T (0,0)))(d:a.toList=l.flatMap E.enc)(f:l.length<=maxLen):
  Own E T c ⟨some ⟨b,0,none⟩,l.length,l.length⟩ l:=by
 have g:a.size=l.length*E.w:=by rw[<- Ds,d,KS]
 exact⟨rfl,.inr ⟨b,a,rfl,e,A0 _,f,g,by rw[d];exact AD (by rw[KS];exact A0 _)⟩⟩
def Rj(P:Q1)(t T:Q7)(a b:Nat):Bool:=
 match P.underlying t with
 |some (.slice c)=>Nat.beq c T&&match P.info? T with
  |some i=>Nat.beq i.size a&&Nat.beq i.bytes b&&match i.zero with
   |some z=>Nat.beq z.cells.size a
   |none=>false
  |none=>false
 |_=>false
theorem re {P:Q1}{t T:Q7}{b c:Nat}(a:Rj P t T b c=true):
  P.underlying t=some (.slice T)/\ ∃i z,P.info? T=some i/\i.zero=some z/\i.size=b/\i.bytes=c/\z.cells.size=b:=by
 unfold Rj at a;split at a
 ·rename_i g d;split at a
  ·rename_i i hi;split at a
   ·rename_i z e;simp only[A3,Nat.beq_eq] at a;obtain⟨rfl,⟨rfl,rfl⟩,f⟩:=a;exact⟨d,i,z,hi,e,rfl,rfl,f⟩
   ·simp at a
  ·simp at a
 ·simp at a
theorem xO {A:ao}{b a:World}{h:aa}{n:Nat}(c:b=A.at h n)(d:a.os=b.os)(e:a.tape=b.tape)(f:a.output=b.output):a=A.at a.heap a.drawn:=by
 subst c;cases a;simp only[ao.at] at*
 simp[d,e,f]
theorem Nk {v:J0}(a:MH v=true):v.oneCell'=true:=by cases v<;>first|rfl|(simp[MH] at a)
theorem Own.kU {a:cr α}{T:Q7}{A:ao}{b:aa}{s:Sl}{l:List α}{n:Nat}(c:Own a T b s l):(A.at b n).ownsRow 0 T a.w (.slice s.p s.len s.cap) s.len (l.flatMap a.enc):=by
 refine⟨by rw[KS,c.len],?_⟩;rcases c.row with⟨rfl,rfl⟩|⟨g,d,e,f,h,i,j,k⟩
 ·exact .inl ⟨rfl,rfl⟩
 ·exact .inr ⟨g,s.cap,d,by rw[e],A5 _,f,h,i,j,k⟩
theorem AKZ {a:cr α}{T:Q7}{c:World}{v:J0}{b:Nat}{l:List α}(d:c.ownsRow 0 T a.w v b (l.flatMap a.enc))(e:b=l.length):
  ∃s:Sl,v= .slice s.p s.len s.cap/\Own a T c.heap s l/\(v= .slice none 0 0->s=⟨none,0,0⟩):=by
 rcases d.2 with⟨rfl,p⟩|⟨g,f,h,rfl,_,i,j,k,m,n⟩
 ·have:l= []:=CN (by omega);subst this;exact⟨⟨none,0,0⟩,rfl,Own.nil,λ_=>rfl⟩
 ·refine⟨⟨some ⟨g,0,none⟩,b,f⟩,rfl,⟨e,.inr ⟨g,h,rfl,i,j,k,m,n⟩⟩,λo=>by cases o⟩
theorem IZ {A:ao}{P:Q1}{E:cr α}{t p T:Q7}{L:Nat}(al:Rj P t T E.w L=true){d:aa}{s src:Sl}{l m:List α}{K:Sl->aa->Prop}
  (h:Own E T d s l) (M:View E d src m) (j:(l.length+m.length)*L<=140737488355328) (V:l.length+m.length<=maxLen)
  (W: ∀f y,Own E T y f (l++m)->Mod (λb=>s.ag=some b) d y->(∀ b,f.ag=some b->s.ag=some b\/d.size<=b)->(f.p=none↔s.p=none/\m= [])->K f y):
  Ad A P (Builtin.append_ #[t,t] p #[.slice s.p s.len s.cap,.slice src.p src.len src.cap]) d λv y=> ∃f:Sl,v= .slice f.p f.len f.cap/\K f y:=by
 obtain⟨q,i,z,hi,N,F,hB,am⟩:=re al;intro n;have O:=M.len;by_cases Q:m= []
 ·subst Q;simp only[HU,AI,DB] at*
  have an:(Builtin.append_ #[t,t] p #[.slice s.p s.len s.cap,.slice src.p src.len src.cap]).run P (A.at d n)= .ok (.slice s.p s.len s.cap) (A.at d n):=by
   have R:s.len<=s.cap:=h.view.cap;have r: ∀S:World,(Builtin.firstCells i.size 0 (.slice src.p 0 src.cap)).run P S= .ok #[] S:=by intro S;cases src.p<;>simp[Builtin.firstCells,loadCells,loadCellsFrom]
   cases o:s.p with
   |none=>simp[Builtin.append_,BO q,run_sizeOf hi,Builtin.lenOf,O,R,r]
   |some a=>simp[Builtin.append_,BO q,run_sizeOf hi,Builtin.lenOf,O,R,r,storeCells]
  exact⟨_,d,n,an,s,rfl,W s d h Mod.refl (λb j=> .inl j) (by simp)⟩
 ·have X:0<m.length:=List.length_pos_iff.2 Q;obtain⟨a,Y,_⟩:=M.cells 0 m[0] (by simp[X]);have G: ∀e u,(m.flatMap E.enc)[e]? =some u->(A.at d n).cell? (a.add e)=some u:=by
   intro e u Z;have ap:e<m.length*E.w:=by rw[<- KS (E:=E)];exact(List.getElem?_eq_some_iff.1 Z).1
   have aq:e / E.w<m.length:=Nat.div_lt_of_lt_mul (by rw[Cp];exact ap);have k:e % E.w<E.w:=BY _ E.pos;have H:m[e / E.w]? =some m[e / E.w]:=by simp[aq]
   have ab:e % E.w<(E.enc m[e / E.w]).length:=by rw[E.len];exact k
   have r:=dk (E:=E) H (e % E.w) _ (A2 ab);have ac:e / E.w*E.w+e % E.w=e:=Nat.div_add_mod' e E.w;rw[ac,Z] at r;obtain⟨aF,ae,ar⟩:=M.cells _ _ H;rw[Y] at ae;cases ae;have:=ar (e % E.w) _ (A2 ab);rw[add_add,ac] at this;rw[Bs] at r;rw[r];exact this
  have I: ∀u∈m.flatMap E.enc,u.oneCell'=true:=by intro u au;obtain⟨x,_,H⟩:=List.mem_flatMap.1 au;exact Nk (E.one x u H)
  obtain⟨af,w,k,ag,B,aG⟩:=run_append_own (P:=P) (A.at d n) 0 t p T i z E.w L q hi N F hB am E.pos (.slice s.p s.len s.cap) s.len (l.flatMap E.enc) h.kU a m.length src.cap (m.flatMap E.enc)
   (by rw[KS]) G I (by rw[h.len];exact V) (by rw[h.len];exact j) (A5 _)
  rw[<- JT] at ag;obtain⟨f,U,av,aH⟩:=AKZ ag (by rw[h.len,A1]);have aw:w=A.at w.heap w.drawn:=xO rfl B.os B.tape B.output;have J:(m.flatMap E.enc).length=m.length*i.size:=by rw[KS,F]
  have ah:((s.len+m.length:Nat):Int)<=9223372036854775807:=by have:=V;simp only[maxLen] at this;rw[h.len];omega
  have ai:(s.len+m.length)*i.bytes<=140737488355328:=by rw[h.len,hB];exact j
  have ax: ∃g c,af= .slice (some ⟨g,0,none⟩) (s.len+m.length) c/\(s.ag=some g\/g=d.size):=by
   rcases h.row with⟨rfl,rfl⟩|⟨g,ay,o,az,R,aI,aA,aJ⟩
   ·have C:=run_append_nil (P:=P) (A.at d n) t p T i z q hi N a m.length src.cap (m.flatMap E.enc) J G X (by simpa using ah) (by have:=ai;simp only[AF] at this;omega);rw[C] at k;cases k;exact⟨d.size,_,by rw[AF];rfl,.inr rfl⟩
   ·by_cases aj:s.len+m.length<=s.cap
    ·have C:=run_append_room (P:=P) (A.at d n) t p T i q hi g s.len s.cap ay az a m.length src.cap (m.flatMap E.enc) J G I aj (by rw[J,aA,<-F,<-Bm];exact AW _ aj);rw[o,C] at k;cases k;exact⟨g,_,rfl,.inl (by simp[Sl.ag,o])⟩
    ·have C:=run_append_grow (P:=P) (A.at d n) t p T i z q hi N ⟨g,0,none⟩ s.len s.cap (l.flatMap E.enc) (by rw[KS,h.len,F])
      (h.kU (A:=A) (n:=n) |>.cells (g:=g) (by simp[Value.ownBlock,o])) a m.length src.cap (m.flatMap E.enc) J G (by omega) ah (growslice_fits (by omega) ai)
     rw[o,C] at k;cases k;exact⟨d.size,_,rfl,.inr rfl⟩
  obtain⟨g,c,aC,aD⟩:=ax;have ak:f.p=some ⟨g,0,none⟩:=by rw[aC] at U;injection U with I _ _;exact I.symm
  refine⟨af,w.heap,w.drawn,?_,f,U,W f w.heap av ⟨B.size,?_⟩ ?_ ?_⟩
  ·rw[Y,O,<-aw];exact k
  ·intro b j aE;refine B.block b j ?_;intro D;apply aE;unfold Sl.ag;cases o:s.p with
   |none=>rw[o] at D;simp[Value.ownBlock] at D
   |some a=>rw[o] at D;simp[Value.ownBlock] at D;simp[D]
  ·intro b j;simp[Sl.ag,ak] at j;subst j;rcases aD with d|d
   ·exact .inl d
   ·exact .inr (by omega)
  ·rw[ak];simp[Q]
theorem Loop.rule {b:Type}{g:(b->aa->Prop)->b->aa->Prop}(d:Nat->b->aa->Prop)
  (step: ∀K m x a,d m x a->(∀ c e f,c<m->d c e f->K e f)->g K x a) {m:Nat} {x:b} {a:aa} (h:d m x a):Loop g x a:=by
 intro K i
 induction m using Nat.strongRecOn generalizing x a with
 |_ m j=>exact i _ _ (step K m x a h λc e f k l=>j c k l)
theorem Fz {a:Nat}(c:a<=9223372036854775807):J8 J9 (a:Int)=(a:Int):=by
 simp only[J8,IntKind.bits,IntKind.signed];have b:((a:Int)) % ((2:Int)^64)=a:=by omega
 have d: ¬((a:Int)>=(2:Int)^(64-1)):=by omega
 simp only[b];simp;omega
theorem Ac {a:Nat}(b:a<9223372036854775807):J8 J9 ((a:Int)+(1:Int))=((a+1:Nat):Int):=by rw[show((a:Int)+1)=((a+1:Nat):Int) by omega];exact Fz b
theorem UM.mk {b:aa}{a:Q6}{K:J0->Prop}{v:J0}(c:af b a=some v)(d:K v):UM b a K:=⟨v,c,d⟩
theorem AC.mk {b:aa}{a:Q6}{k:IntKind}{K:Int->Prop}{n:Int}(c:af b a=some (.int k n))(d:K n):AC k b a K:=⟨n,c,d⟩
theorem Aa.mk {b:aa}{a:Q6}{K:Bool->Prop}{n:Bool}(c:af b a=some (J3 n))(d:K n):Aa b a K:=⟨n,c,d⟩
theorem AL.mk {b:aa}{a:Q6}{K:A2Y->Prop}{n:A2Y}(c:af b a=some (J7 n))(d:K n):AL b a K:=⟨n,c,d⟩
theorem AY.mk {b:aa}{a:Q6}{K:Q2->Prop}{n:Q2}(c:af b a=some (J5 n))(d:K n):AY b a K:=⟨n,c,d⟩
theorem AV.mk {b:aa}{a:Q6}{K:Sl->Prop}{s:Sl}(c:af b a=some (J4 s.p s.len s.cap))(d:K s):AV b a K:=⟨s,c,d⟩
theorem AO {a:aa}{b c:Nat}{d:Array J0}{T:Q7}{fr:Nat×Nat}{v:J0}(e:a[b]? =some (J2 d T fr))(f:d[c]? =some v):af a ⟨b,c,none⟩=some v:=by rw[Gs e];exact f
theorem AB {a:aa}{b c:Nat}{d:Array J0}{T:Q7}{fr:Nat×Nat}{v:J0}(e:a[b]? =some (J2 d T fr))(f:d[c]? =some v):af a ((⟨b,0,none⟩:Q6).add c)=some v:=by rw[Bp,AF];exact AO e f
structure Pr where
 key:A2Y
 val:A2Y
 gone:Bool
deriving DecidableEq
def Pr.agg(x:Pr):J0:= .agg #[J7 x.key,J7 x.val,J3 x.gone]
def Pr.cells(x:Pr):Array J0:= #[J7 x.key,J7 x.val,J3 x.gone]
def Bg:cr Pr where
 enc x:= [J7 x.key,J7 x.val,J3 x.gone]
 w:=3
 len _:=rfl
 pos:=by omega
 one x v a:=by simp at a;rcases a with rfl|rfl|rfl<;>rfl
def gW:cr Sl where
 enc s:= [J4 s.p s.len s.cap]
 w:=1
 len _:=rfl
 pos:=by omega
 one x v a:=by simp at a;subst a;rfl
structure gX where
 v:J0
 one:MH v=true
def jK:cr gX where
 enc s:= [s.v]
 w:=1
 len _:=rfl
 pos:=by omega
 one x v a:=by simp at a;subst a;exact x.one
theorem View.idx {b:Type}{c:cr b}{d:aa}{s:Sl}{l:List b}(v:View c d s l){i:Nat}{x:b}(hi:l[i]? =some x){K:Q6->Prop}
  (f: ∀a,s.p=some a->Cells d (a.add (i*c.w)) (c.enc x)->K a):aY s.p s.len ((i:Nat):Int) K:=by
 obtain⟨a,e,g⟩:=v.cells i x hi;have:i<s.len:=by rw[v.len];exact(List.getElem?_eq_some_iff.1 hi).1
 exact aY.mk e this (f a e g)
theorem Cells.pair {b:aa}{a:Q6}{x:Pr}(c:Cells b a (Bg.enc x)):af b a=some (J7 x.key)/\af b (a.add 1)=some (J7 x.val)/\af b (a.add 2)=some (J3 x.gone):=by have d:=c 0 _ rfl;rw[add_zero] at d;exact⟨d,c 1 _ rfl,c 2 _ rfl⟩
theorem Cells.sl {b:aa}{a:Q6}{x:Sl}(c:Cells b a (gW.enc x)):af b a=some (J4 x.p x.len x.cap):=by have d:=c 0 _ rfl;rwa [add_zero] at d
theorem Cells.val {b:aa}{a:Q6}{x:gX}(c:Cells b a (jK.enc x)):af b a=some x.v:=by have d:=c 0 _ rfl;rwa [add_zero] at d
theorem ai.pair {a:aa}{T:Q7}{j k:A2Y}{l:Bool}{d v:A2Y}{g:Bool}{K:Nat->aa->Prop}
  (n: ∀b c,b=a.size->c[b]? =some (J2 #[J7 d,J7 v,J3 g] T (0,0))->Ext a c->c.size=a.size+1->K b c):
  ai a (J2 #[J7 j,J7 k,J3 l] T) λb e=>ae e ⟨b,0,none⟩ (J7 d) λf=>ae f ((⟨b,0,none⟩:Q6).add 1) (J7 v) λh=>ae h ((⟨b,0,none⟩:Q6).add 2) (J3 g) λi=>K b i:=by
 refine ai.mk λe _ o p y=>?_
 refine ae.mk o (by simp) λf q r z=>?_
 rw[Bp,Bp];refine ae.mk q (by simp) λh s t A=>?_
 refine ae.mk s (by simp) λi u w B=>?_
 refine n _ _ rfl (by simpa using u) ?_ (by omega);have m:=(r.trans t).trans w;exact⟨by omega,λb x _=>(m.get b (by omega) (by omega)).trans (p.get b x (by simp))⟩
theorem ai.aV {k:ao}{P:Q1}{t m T:Q7}{g:Nat}{e:Type}{E:cr e}{x:e}{h:Array J0}(n:h.toList=E.enc x)(o:Rj P t T E.w g=true){d:aa}{s:Sl}{l:List e}{K:Sl->aa->Prop}
  (p:Own E T d s l) (q:(l.length+1)*g<=140737488355328) (r:l.length+1<=maxLen)
  (u: ∀a c,Own E T c a (l++ [x])->Mod (λb=>s.ag=some b) d c->(∀ b,a.ag=some b->s.ag=some b\/d.size<=b)->a.p≠none->K a c):
  ai d (J2 h T) λb f=>Ad k P (Builtin.append_ #[t,t] m #[J4 s.p s.len s.cap,J4 (some ⟨b,0,none⟩) 1 1]) f λv c=> ∃a:Sl,v=J4 a.p a.len a.cap/\K a c:=by
 refine ai.mk λf _ w i G=>?_
 have y:Own E T f ⟨some ⟨d.size,0,none⟩,1,1⟩ [x]:=Own.lit (E:=E) (l:= [x]) w (by simp[n]) (by simp[maxLen]);refine IZ (s:=s) (src:=⟨some ⟨d.size,0,none⟩,1,1⟩) o (p.ext i) y.view (by simpa using q) (by simpa using r) λa c z A B C=>?_
 refine u a c z ?_ ?_ ?_
 ·exact i.mod.trans A
 ·intro b D;rcases B b D with j|j
  ·exact .inl j
  ·exact .inr (by omega)
 ·intro F;have:=(C.1 F).2;simp at this
theorem View.sub {d:Type}{b:cr d}{e:aa}{s:Sl}{l:List d}(v:View b e s l){lo hi:Nat}(h:lo<=hi)(j:hi<=l.length):
  View b e ⟨BC s.p s.cap lo b.w,hi-lo,s.cap-lo⟩ ((l.take hi).drop lo):=by
 have k:=v.cap;have m:=v.len;refine⟨by simp;omega,by simp;omega,λi x c=>?_⟩;rw[By,F1] at c;split at c
 ·rename_i n;obtain⟨a,f,g⟩:=v.cells _ _ c;refine⟨a.add (lo*b.w),?_,?_⟩
  ·unfold BC;simp only[f];rw[if_neg (by omega)];rfl
  ·rw[add_add,<-Bm];exact g
 ·cases c
theorem rf {p:Q2}{e lo f:Nat}{b:Nat}{len c:Nat}(d:Sl.ag ⟨BC p e lo f,len,c⟩=some b):p.map (·.block)=some b:=by
 unfold Sl.ag BC at d;simp only at d;split at d
 ·exact d
 ·cases p with
  |none=>simp at d
  |some a=>simp[aP] at d;simp[d]
def Yields(f:ao)(P:Q1)(h:J0)(l:List Pr)(d:Nat->Bool->(Nat->Prop)->aa->Prop):Prop:=
 ∀i x c a,l[i]? =some x->d i true c a->EM f P h #[x.agg] a λv e=> ∃g O',v=J3 g/\(∀ b,O' b->c b\/a.size<=b)/\Mod c a e/\d (i+1) g O' e
structure Body (h:aa) (J:Nat->Bool->(Nat->Prop)->aa->Prop):Prop where
 wf: ∀i g O hh,J i g O hh-> ∀b,O b->b<hh.size
 aX: ∀i g O hh h',J i g O hh->Mod (λb=>¬O b/\h.size<=b) hh h'->J i g O h'
def Ee(k:ao)(P:Q1)(fv:J0)(j:Nat->Prop)(m:aa)(l:List Pr):Prop:=
 (∀ b,j b->b<m.size)/\ ∃f d,fv= .func (.func f) #[] d/\(∀ a,(callFunc f (#[]++ #[a]++d)).calc P=some (.enter f (#[]++ #[a]++d)))/\
  ∀(c:aa),(∀ b,j b->c[b]? =m[b]?)-> ∀a e h,MH a=true->(∀ b,j b-> ¬h b)->Body c e->Yields k P a l e->e 0 true h c->
   AA k P f (#[]++ #[a]++d) c λv n=>v=J1 #[]/\ ∃i g O',Mod h c n/\(∀ b,O' b->h b\/c.size<=b)/\e i g O' n/\(g=true->i=l.length)/\i<=l.length
theorem Ee.ak {e:ao}{P:Q1}{fv:J0}{c S':Nat->Prop}{g d:aa}{l:List Pr}(i:Ee e P fv c g l)(h: ∀b,c b->S' b)(j: ∀b,S' b->b<d.size)(k: ∀b,c b->d[b]? =g[b]?):Ee e P fv S' d l:=by obtain⟨_,f,m,n,o,p⟩:=i;refine⟨j,f,m,n,o,λq r s t u v hd=>p q (λb a=>(r b (h b a)).trans (k b a)) s t u v λb a=>hd b (h b a)⟩
theorem Ee.one {a:ao}{P:Q1}{fv:J0}{b:Nat->Prop}{c:aa}{l:List Pr}(d:Ee a P fv b c l):MH fv=true/\jD fv/\Yn fv=false:=by obtain⟨_,f,e,rfl,_⟩:=d;exact⟨rfl,by simp[jD],rfl⟩
def xP(x:Pr):iv [.agg [.str,.str,.bool]]:=((x.key,x.val,x.gone,()),())
def xQ(l:Nat)(rec:Go.Loop)(c:aa)(d:Nat->Prop)(e:(Nat->Prop)->aa->Prop)(a:aa):Prop:=
 ∃O',(∀ b,O' b->d b\/c.size<=b)/\Mod (λb=>d b\/b=l) c a/\a[l]? =some (.loop {rec with state:= .busy})/\e O' a
theorem Mod.setObj {S:Nat->Prop}{a:aa}{l:Nat}{c:Obj}(d:S l):Mod S a (a.setIfInBounds l c):=
 ⟨by simp,λb _ e=>by rw[DA];intro f;exact e (f▸d)⟩
theorem Ci {a:aa}{l:Nat}{b:Obj}(c:l<a.size):(a.setIfInBounds l b)[l]? =some b:=by simp[c]
theorem Yy {O:ao}{P:Q1}{fv:J0}{E:Nat->Prop}{Q a:aa}{l:List Pr}(ai:Ee O P fv E Q l)(R: ∀b,E b->a[b]? =Q[b]?)
  (Inv:Nat->Option (Option Nat)->(Nat->Prop)->aa->Prop) (n:Nat->Prop) (hd: ∀b,E b-> ¬n b)
  {body:iv [.agg [.str,.str,.bool]]->Nat->aa->(aa->Prop)->(Option Nat->aa->Prop)->Prop} {S:aa->Prop} {T:Option Nat->aa->Prop}
  (G: ∀i c n j,Inv i c n j-> ∀b,n b->b<j.size)
  (y: ∀i c n j k,Inv i c n j->Mod (λb=>¬n b/\a.size<=b) j k->Inv i c n k)
  (U:Inv 0 none n a)
  (round: ∀i x m j rec V W,l[i]? =some x->Inv i none m j-> ¬m (a.size+1)->a.size+1<j.size->j[a.size+1]? =some (.loop rec)->rec.state= .ready->
   (∀ k,xQ (a.size+1) rec j m (Inv (i+1) none) k->V k)->(∀ o k,xQ (a.size+1) rec j m (Inv (i+1) (some o)) k->W o k)->body (xP x) (a.size+1) j V W)
  (fin: ∀O' k,Inv l.length none O' k->Mod n a k-> ¬O' a.size->(∀ b,O' b->n b\/a.size<=b)->k[a.size]? =some (.deferred (some []))->S k)
  (aj: ∀i o O' k,Inv i (some o) O' k->i<=l.length->Mod n a k-> ¬O' a.size->(∀ b,O' b->n b\/a.size<=b)->k[a.size]? =some (.deferred (some []))->T o k):
  Yl O P fv [.agg [.str,.str,.bool]] body a S T:=by
 intro rec F H ay ak;obtain⟨al,f,X,rfl,am,an⟩:=ai;have Y: ∀b,n b->b<a.size:=G _ _ _ _ U;have Z: ∀b,E b->b<a.size:=λb e=>by
  have:=R b e;rw[DP (al b e)] at this;exact Ai this
 have I:Ext a ((a.push (.deferred (some []))).push (.loop rec)):=(Mod.push a _).trans (Mod.push _ _);have az:((a.push (.deferred (some []))).push (.loop rec)).size=a.size+2:=by simp
 refine⟨f,_,?_,AA.mono (an ((a.push (.deferred (some []))).push (.loop rec)) (λb e=>(I.get b (Z b e) (by simp)).trans (R b e)) (.func (.yield (a.size+1)) #[] #[])
  (λi g C j=> ∃m:Nat->Prop,(∀ b,C b↔m b\/b=a.size\/b=a.size+1)/\ ¬m a.size/\ ¬m (a.size+1)/\(∀ b,m b->n b\/a.size<=b)/\a.size+2<=j.size/\j[a.size]? =some (.deferred (some []))/\
   match g with
   |true=>j[a.size+1]? =some (.loop rec)/\Inv i none m j
   |false=> ∃o w,j[a.size+1]? =some (.loop w)/\w.state≠ .busy/\w.pending=some (kC o)/\Inv i (some o) m j)
  (λb=>n b\/b=a.size\/b=a.size+1) rfl ?_ ?_ ?_ ?_) ?_⟩
 ·have ap:(do let ab <-Deferred.ofValue (.func (.func f) #[] X) #[.func (.yield (a.size+1)) #[] #[]];invoke ab.target ab.args:Sem Next).calc P=(callFunc f (#[]++ #[.func (.yield (a.size+1)) #[] #[]]++X)).calc P:=rfl;unfold Oh;rw[ap,am]
 ·intro b e d;have:=Z b e;rcases d with d|d|d
  ·exact hd b e d
  ·omega
  ·omega
 ·constructor
  ·rintro i g C j ⟨m,p,_,_,_,J,_,s⟩ b e;rcases(p b).1 e with d|d|d
   ·cases g
    ·obtain⟨o,w,_,_,_,z⟩:=s;exact G _ _ _ _ z b d
    ·exact G _ _ _ _ s.2 b d
   ·omega
   ·omega
  ·rintro i g C j k ⟨m,p,u,t,A,J,B,s⟩ q;have ac:Mod (λb=>¬m b/\a.size<=b) j k:=q.ak λb _ e=>⟨λd=>e.1 ((p b).2 (.inl d)),by omega⟩
   have aq:k[a.size]? =j[a.size]? :=q.get _ (by omega) λe=>e.1 ((p _).2 (.inr (.inl rfl)))
   have ae:k[a.size+1]? =j[a.size+1]? :=q.get _ (by omega) λe=>e.1 ((p _).2 (.inr (.inr rfl)))
   refine⟨m,p,u,t,A,by have:=q.size;omega,aq.trans B,?_⟩;cases g
   ·obtain⟨o,w,d,h,K,z⟩:=s;exact⟨o,w,ae.trans d,h,K,y _ _ _ _ _ z ac⟩
   ·exact⟨ae.trans s.1,y _ _ _ _ _ s.2 ac⟩
 ·rintro i x C j hi ⟨m,p,u,t,A,J,B,af,z⟩;refine ak (xP x) j _ af (round i x m j rec _ _ hi z t (by omega) af F ?_ ?_)
  ·rintro k ⟨O',r,q,L,M⟩;have N:a.size+1<k.size:=by have:=q.size;omega
   refine⟨_,L,true,λb=>O' b\/b=a.size\/b=a.size+1,rfl,?_,?_,O',λ_=>CC,?_,?_,?_,?_,?_,?_,?_⟩
   ·rintro b (e|e)
    ·rcases r b e with d|d
     ·exact .inl ((p b).2 (.inl d))
     ·exact .inr d
    ·exact .inl ((p b).2 (.inr e))
   ·refine(q.trans (Mod.setObj (.inr rfl))).ak λb _ e=>(p b).2 (e.elim .inl λd=> .inr (.inr d))
   ·intro d;rcases r _ d with h|h
    ·exact u h
    ·omega
   ·intro d;rcases r _ d with h|h
    ·exact t h
    ·omega
   ·intro b e;rcases r _ e with h|h
    ·exact A _ h
    ·exact .inr (by omega)
   ·simp;omega
   ·rw[DA (by omega)];exact(q.get _ (by omega) (by rintro(d|d);exact u d;omega)).trans B
   ·rw[Ci N];cases rec;simp at F H;simp[F,H]
   ·refine y _ _ _ _ _ M (Mod.setObj ⟨?_,by omega⟩);intro d;rcases r _ d with h|h
    ·exact t h
    ·omega
  ·rintro o k ⟨O',r,q,L,M⟩;have N:a.size+1<k.size:=by have:=q.size;omega
   refine⟨_,L,false,λb=>O' b\/b=a.size\/b=a.size+1,rfl,?_,?_,O',λ_=>CC,?_,?_,?_,?_,?_,o,{rec with state:= .done,pending:=some (kC o)},?_,?_,rfl,?_⟩
   ·rintro b (e|e)
    ·rcases r b e with d|d
     ·exact .inl ((p b).2 (.inl d))
     ·exact .inr d
    ·exact .inl ((p b).2 (.inr e))
   ·refine(q.trans (Mod.setObj (.inr rfl))).ak λb _ e=>(p b).2 (e.elim .inl λd=> .inr (.inr d))
   ·intro d;rcases r _ d with h|h
    ·exact u h
    ·omega
   ·intro d;rcases r _ d with h|h
    ·exact t h
    ·omega
   ·intro b e;rcases r _ e with h|h
    ·exact A _ h
    ·exact .inr (by omega)
   ·simp;omega
   ·rw[DA (by omega)];exact(q.get _ (by omega) (by rintro(d|d);exact u d;omega)).trans B
   ·exact Ci N
   ·simp
   ·refine y _ _ _ _ _ M (Mod.setObj ⟨?_,by omega⟩);intro d;rcases r _ d with h|h
    ·exact t h
    ·omega
 ·refine⟨n,λ_=>CC,λd=>?_,λd=>?_,λb e=> .inl e,by omega,?_,?_⟩;rotate_left 2
  ·rw[R1 (by simp)];simp
  ·exact⟨by have ar:a.size+1=(a.push (.deferred (some []))).size:=(by simp);rw[ar];exact Rg,y _ _ _ _ _ U I.mod⟩
  ·have:=Y _ d;omega
  ·have:=Y _ d;omega
 ·rintro v h ⟨_,i,g,C,q,aA,⟨m,p,u,t,A,J,B,s⟩,au,av⟩;have ag: ∀D,Mod n a (h.setIfInBounds (a.size+1) (.loop D)):=λD=>by
   refine⟨by simp;omega,λb e aw=>?_⟩;rw[DA (by omega)];exact(q.get b (by omega) (by rintro(d|d|d);exact aw d;omega;omega)).trans (I.get b e (by simp))
  have ah: ∀D,(h.setIfInBounds (a.size+1) (.loop D))[a.size]? =some (.deferred (some [])):=λD=>by
   rw[DA (by omega)];exact B
  cases g
  ·obtain⟨o,w,d,K,ax,z⟩:=s;exact⟨w,d,K,.inr ⟨o,ax,aj i o m _ (y _ _ _ _ _ z (Mod.setObj ⟨t,by omega⟩)) av (ag _) u A (ah _)⟩⟩
  ·refine⟨rec,s.1,by simp[F],.inl ⟨H,fin m _ ?_ (ag _) u A (ah _)⟩⟩;have:=au rfl;subst this;exact y _ _ _ _ _ s.2 (Mod.setObj ⟨t,by omega⟩)
open Go Ieee
abbrev fD:Format:=Ieee.double
theorem ANN(s:Bool)(m u v:Nat):signed s m (u+v)=signed s m u*(2:Int)^v:=by
 unfold signed;rw[NX,NX,GB,<-Fl];split
 ·push_cast;rw[Ln]
 ·push_cast;rfl
def DV(b:Datum)(c:Int):Prop:= ∃s m,∃a:Nat,b= .number s m (-(a:Int))/\signed s m 0=c*(2:Int)^a
def VR(b:Nat)(a:Int):Prop:=DV (fD.read b) a
theorem PT(s:Bool)(m u:Nat):signed s m u=signed s m 0*(2:Int)^u:=by have:=ANN s m 0 u;rwa [AF] at this
theorem pow_pos(a:Nat):(0:Int)<(2:Int)^a:=Int.pow_pos (by decide)
theorem AKC(a b:Int)(c:Nat):compare (a*(2:Int)^c) (b*(2:Int)^c)=compare a b:=by have d:=pow_pos c;simp only[compare,compareOfLessAndEq];have e:(a*2^c<b*2^c)↔a<b:=Int.mul_lt_mul_right d;have f:(a*2^c=b*2^c)↔a=b:=Int.mul_eq_mul_right_iff (by omega);by_cases g:a<b<;>by_cases h:a=b<;>simp[e,f,g,h]
theorem DV.order {x d:Datum}{e m:Int}(f:DV x e)(h:DV d m):x.order d=some (compare e m):=by
 obtain⟨s,a,c,rfl,i⟩:=f;obtain⟨t,b,l,rfl,g⟩:=h;simp only[Datum.order];congr 1;have j:(-(c:Int)-min (-(c:Int)) (-(l:Int))).toNat=max c l-c:=by omega
 have k:(-(l:Int)-min (-(c:Int)) (-(l:Int))).toNat=max c l-l:=by omega
 rw[j,k,PT s,PT t,i,g,HE,HE,<-HG,<-HG,show c+(max c l-c)=max c l by omega,show l+(max c l-l)=max c l by omega,AKC]
theorem VR.order {x a:Nat}{b m:Int}(c:VR x b)(d:VR a m):fD.order x a=some (compare b m):=DV.order c d
theorem cmp_eq {a m:Int}:(compare a m= .eq)↔a=m:=by simp only[compare,compareOfLessAndEq];by_cases b:a<m<;>by_cases c:a=m<;>simp[b,c]<;>omega
theorem si {a m:Int}:(compare a m= .lt)↔a<m:=by simp only[compare,compareOfLessAndEq];by_cases b:a<m<;>by_cases c:a=m<;>simp[b,c]
theorem lZ {a m:Int}:(compare a m= .gt)↔m<a:=by simp only[compare,compareOfLessAndEq];by_cases b:a<m<;>by_cases c:a=m<;>simp[b,c]<;>omega
theorem zY(neg:Bool){a:Nat}(b:a<fD.signWeight):
  fD.read (fD.word neg a)=if a<fD.binade then .number neg a fD.leastPlace else if a<fD.infRung then .number neg (fD.binade+a % fD.binade) (fD.leastPlace+(a / fD.binade-1:Nat)) else if a=fD.infRung then .infinity neg else .nan neg (a-fD.infRung):=by
 have c:0<fD.signWeight:=GC _;have d:(fD.word neg a / fD.signWeight % 2==1)=neg:=by
  unfold Format.word;cases neg
  ·simp[Nat.div_eq_of_lt b]
  ·simp[Nat.add_div_left _ c,Nat.div_eq_of_lt b]
 have e:fD.word neg a % fD.signWeight=a:=by
  unfold Format.word;cases neg
  ·simp[As b]
  ·simp[As b]
 unfold Format.read;simp only[d,e]
theorem Vo(s:Bool)(u:Nat):signed s 0 u=0:=by cases s<;>simp[signed]
theorem oR:fD.binade=4503599627370496:=by decide
theorem sj:fD.infRung=9218868437227405312:=by decide
theorem zZ:fD.signWeight=9223372036854775808:=by decide
theorem mf:fD.leastPlace= -1074:=by decide
theorem AXC:fD.fractionBits=52:=rfl
theorem AOU(neg:Bool):VR (fD.word neg 0) 0:=by refine⟨neg,0,1074,?_,by rw[Vo,SD]⟩;rw[zY neg (by rw[zZ];decide),if_pos (by rw[oR];decide),mf];rfl
theorem Zh {v:Nat}(f:0<v)(K:Nat):(v*2^K).log2=v.log2+K:=by
 have a:v≠0:=by omega
 have c:0<2^K:=GC K;have b:v*2^K≠0:=Nat.mul_ne_zero a (by omega);have d:2^v.log2<=v:=(SJ a).1 (A0 _);have e:v<2^(v.log2+1):=(Of a).1 (Kd _);have g:v.log2+K<=(v*2^K).log2:=by rw[SJ b,GB];exact AW _ d
 have h:(v*2^K).log2<v.log2+1+K:=by rw[Of b,GB];exact SM e c
 omega
theorem AS7(neg:Bool)(a:Nat):Toward.even.cut neg a 0=a:=by simp[Toward.cut,Nat.mod_one]
theorem AHn(b:Toward)(neg:Bool){M a:Nat}(c:0<M):b.cut neg (M*2^a) a=M:=by
 unfold Toward.cut;have hd:min a ((M*2^a).log2+2)=a:=by rw[Zh c];omega
 have d:0<2^a:=GC a;simp only[hd,Nat.one_shiftLeft,Nat.mul_mod_left,Nat.mul_div_cancel _ d];cases b
 ·have e: ¬(2^a=0):=by omega
  simp[e]
 all_goals simp
theorem ASO {a M:Nat}(b:a<=52)(c:M<9007199254740992):min ((a+1022)*4503599627370496+M) 9218868437227405312=(a+1022)*4503599627370496+M:=by omega
theorem AVl {a M:Nat}(b:4503599627370496<=M): ¬(a+1022)*4503599627370496+M<4503599627370496:=by omega
theorem AV2 {a M:Nat}(b:a<=52)(c:M<9007199254740992):(a+1022)*4503599627370496+M<9218868437227405312:=by omega
theorem AQq {a M:Nat}(b:4503599627370496<=M)(c:M<9007199254740992):((a+1022)*4503599627370496+M) % 4503599627370496=M-4503599627370496/\((a+1022)*4503599627370496+M) / 4503599627370496=a+1023:=by omega
theorem AVp {M:Nat}(a:4503599627370496<=M):4503599627370496+(M-4503599627370496)=M:=by omega
theorem AV9 {a:Nat}(b:a<=52):(-1074:Int)+((a+1023-1:Nat):Int)=(a:Int)-52:=by omega
theorem AWa {a:Nat}(b:a<=52):(a:Int)-52= -((52-a:Nat):Int):=by omega
theorem AWA {a M:Nat}(b:a<=52)(c:M<9007199254740992):(a+1022)*4503599627370496+M<9223372036854775808:=by omega
theorem AGm(neg:Bool){v K:Nat}(i:0<v)(j:v<9007199254740992):VR (fD.nearest neg (v*2^K) (-(K:Int))) (if neg then -(v:Int) else v):=by
 have e:v≠0:=by omega
 have k:=Zh i K;have b:v.log2<=52:=by have:v.log2<53:=(Of e).2 (by simpa using j);omega
 have l:2^v.log2<=v:=(SJ e).1 (A0 _);have m:v<2^(v.log2+1):=(Of e).1 (Kd _);have n: ¬v*2^K=0:=Nat.mul_ne_zero e (by have:=GC K;omega);generalize u:v.log2=a at*
 have f:4503599627370496<=v*2^(52-a):=by have c:2^a*2^(52-a)<=v*2^(52-a):=AW _ l;rw[<- GB,show a+(52-a)=52 by omega] at c;exact c
 have d:v*2^(52-a)<9007199254740992:=by have c:v*2^(52-a)<2^(a+1)*2^(52-a):=SM m (GC _);rw[<- GB,show a+1+(52-a)=53 by omega] at c;exact c
 have o:fD.nearest neg (v*2^K) (-(K:Int))=fD.word neg ((a+1022)*4503599627370496+v*2^(52-a)):=by
  unfold Format.nearest;rw[if_neg n];have p:max (-(K:Int)+((v*2^K).log2:Nat)-(fD.fractionBits:Nat)) fD.leastPlace=(a:Int)-52:=by rw[k,mf,AXC];push_cast;omega
  simp only[p];have q:Toward.even.cut neg ((v*2^K) <<< (-(K:Int)-((a:Int)-52)).toNat) (((a:Int)-52)- -(K:Int)).toNat=v*2^(52-a):=by
   by_cases w:K+a<=52
   ·have g:(((a:Int)-52)- -(K:Int)).toNat=0:=by omega
    have h:(-(K:Int)-((a:Int)-52)).toNat=52-a-K:=by omega
    rw[g,h,AS7,NX,Fl,<-GB];congr 2;omega
   ·have g:(((a:Int)-52)- -(K:Int)).toNat=a+K-52:=by omega
    have h:(-(K:Int)-((a:Int)-52)).toNat=0:=by omega
    have r:v*2^K=(v*2^(52-a))*2^(a+K-52):=by rw[Fl,<-GB];congr 2;omega
    rw[g,h,DS,r,AHn _ _ (by omega)]
  have s:(((a:Int)-52)-fD.leastPlace).toNat=a+1022:=by rw[mf];omega
  rw[q,s,oR,sj,ASO b d]
 rw[o];have t:(a+1022)*4503599627370496+v*2^(52-a)<fD.signWeight:=by rw[zZ];exact AWA b d
 refine⟨neg,v*2^(52-a),52-a,?_,?_⟩
 ·rw[zY neg t,oR,sj,mf,if_neg (AVl f),if_pos (AV2 b d),(AQq f d).1,(AQq f d).2,AVp f,AV9 b,AWa b]
 ·unfold signed;rw[DS];cases neg
  ·simp
  ·simp[Ln]
theorem sk {s:Bool}{a:Nat}{K:Nat}{n:Int}(b:signed s a 0=n*(2:Int)^K)(i:n.natAbs<9007199254740992):VR (fD.write (.number s a (-(K:Int)))) n:=by
 show VR (fD.nearest s a (-(K:Int))) n;have g:=pow_pos K;have j:(2:Int)^K=((2^K:Nat):Int):=by push_cast;rfl
 by_cases k:n=0
 ·subst k;have d:a=0:=by unfold signed at b;rw[DS,SD] at b;split at b<;>omega
  subst d;have e:fD.nearest s 0 (-(K:Int))=fD.word s 0:=by unfold Format.nearest;rw[if_pos rfl]
  rw[e];exact AOU s
 ·have d:a=n.natAbs*2^K/\(if s then -(n.natAbs:Int) else n.natAbs)=n:=by
   unfold signed at b;rw[DS] at b;have h:(a:Int).natAbs=(n*2^K).natAbs:=by rw[<- b];split<;>simp
   have e:(n*2^K).natAbs=n.natAbs*2^K:=by rw[SO,j,Lo]
   refine⟨by rw[e] at h;simpa using h,?_⟩;split at b
   ·rename_i f;rw[if_pos f];have:n*(2:Int)^K<=0:=by omega
    have:n<=0:=by
     rcases Int.lt_or_le 0 n with c|c
     ·have:=Int.mul_pos c g;omega
     ·exact c
    omega
   ·rename_i f;rw[if_neg f];have:0<=n*(2:Int)^K:=by omega
    have:0<=n:=by
     rcases Int.lt_or_le n 0 with c|c
     ·have:=Int.mul_neg_of_neg_of_pos c g;omega
     ·exact c
    omega
  rw[d.1];have:=AGm s (v:=n.natAbs) (K:=K) (by omega) i;rw[d.2] at this;exact this
theorem WE {n:Int}(c:n.natAbs<9007199254740992):VR (floatOfInt .f64 n) n:=by
 show VR (fD.write (.number (n<0) n.natAbs 0)) n;have:=sk (s:=decide (n<0)) (a:=n.natAbs) (K:=0) (n:=n) (by
  unfold signed;rw[DS];split
  ·rename_i b;simp at b;simp;omega
  ·rename_i b;simp at b;simp;omega) c
 simpa using this
theorem ALC(t:Int):signed (decide (t<0)) t.natAbs 0=t:=by
 unfold signed;rw[DS];split
 ·rename_i a;simp at a;omega
 ·rename_i a;simp at a;omega
theorem DV.sum {x e:Datum}{d m:Int}(i:DV x d)(j:DV e m)(k:(d+m).natAbs<9007199254740992): ∃f,x.sum e=some f/\VR (fD.write f) (d+m):=by
 obtain⟨s,a,c,rfl,n⟩:=i;obtain⟨t,b,l,rfl,g⟩:=j;refine⟨_,rfl,?_⟩;have o:min (-(c:Int)) (-(l:Int))= -((max c l:Nat):Int):=by omega
 have p:(-(c:Int)-min (-(c:Int)) (-(l:Int))).toNat=max c l-c:=by omega
 have q:(-(l:Int)-min (-(c:Int)) (-(l:Int))).toNat=max c l-l:=by omega
 have r:signed s a (-(c:Int)-min (-(c:Int)) (-(l:Int))).toNat+signed t b (-(l:Int)-min (-(c:Int)) (-(l:Int))).toNat=(d+m)*(2:Int)^(max c l):=by rw[p,q,PT s,PT t,n,g,HE,HE,<-HG,<-HG,show c+(max c l-c)=max c l by omega,show l+(max c l-l)=max c l by omega,Int.add_mul]
 simp only[r];rw[o];generalize u:(d+m)*(2:Int)^(max c l)=T at*
 refine sk ?_ k;rw[u];split
 ·rename_i h;rw[h];exact(Vo _ _).trans (by rw[<- h])
 ·exact(ALC T)
theorem DV.opposite {x:Datum}{b:Int}(c:DV x b):DV x.opposite (-b):=by obtain⟨s,a,d,rfl,e⟩:=c;refine⟨!s,a,d,rfl,?_⟩;rw[Ln,<-e];unfold signed;cases s<;>simp
theorem VR.add {x b:Nat}{a m:Int}(d:VR x a)(e:VR b m)(f:(a+m).natAbs<9007199254740992): ∃c,fD.add x b=some c/\VR c (a+m):=by obtain⟨i,g,h⟩:=DV.sum d e f;unfold Format.add;rw[g];exact⟨_,rfl,h⟩
theorem VR.sub {x b:Nat}{a m:Int}(d:VR x a)(e:VR b m)(f:(a-m).natAbs<9007199254740992): ∃c,fD.sub x b=some c/\VR c (a-m):=by obtain⟨i,g,h⟩:=DV.sum d (DV.opposite e) (by rw[<- Int.sub_eq_add_neg];exact f);unfold Format.sub;rw[g];exact⟨_,rfl,by rw[Int.sub_eq_add_neg];exact h⟩
theorem VR.mul {x d:Nat}{c m:Int}(h:VR x c)(i:VR d m)(j:(c*m).natAbs<9007199254740992): ∃e,fD.mul x d=some e/\VR e (c*m):=by
 obtain⟨s,a,f,k,n⟩:=h;obtain⟨t,b,l,o,g⟩:=i;unfold Format.mul;rw[k,o];simp only[Datum.product,Hh];refine⟨_,rfl,?_⟩;have p: -(f:Int)+ -(l:Int)= -((f+l:Nat):Int):=by omega
 rw[p];refine sk ?_ j;have:signed (s ^^ t) (a*b) 0=signed s a 0*signed t b 0:=by unfold signed;simp only[DS];cases s<;>cases t<;>simp[Ln,Int.mul_neg]
 rw[this,n,g,HG];simp only[HE,Int.mul_comm,Int.mul_left_comm]
theorem ARZ(b:Nat):fD.read (Op.negFloat .f64 b)=(fD.read b).opposite:=by
 have a:Op.negFloat .f64 b=b ^^^ 2^63:=rfl;have c:fD.signWeight=2^63:=by decide
 have d:(b ^^^ 2^63) % 2^63=b % 2^63:=by rw[Nat.xor_mod_two_pow];simp
 have e:((b ^^^ 2^63) / 2^63 % 2==1)= !(b / 2^63 % 2==1):=by
  rw[Nat.xor_div_two_pow,Nat.div_self (GC _)];have f:((b / 2^63) ^^^ 1) % 2=1↔ ¬(b / 2^63) % 2=1:=by rw[Nat.xor_mod_two_eq_one];simp
  rw[DH];simp only[beq_iff_eq,Cd,beq_eq_false_iff_ne];exact f
 rw[a];unfold Format.read;rw[c,d,e];simp only;split
 ·rfl
 ·split
  ·rfl
  ·split<;>rfl
theorem VR.neg {x:Nat}{a:Int}(b:VR x a):VR (Op.negFloat .f64 x) (-a):=by unfold VR;rw[ARZ];exact DV.opposite b
theorem DV.toInt {x:Datum}{c:Int}(h:DV x c)(f:Toward):x.toInt f=some c:=by
 obtain⟨s,a,b,rfl,d⟩:=h;have o:=pow_pos b;unfold Datum.toInt Datum.integral;have i:(-(b:Int)).toNat=0:=by omega
 have j:(-(-(b:Int))).toNat=b:=by omega
 simp only[i,j,DS];by_cases k:c=0
 ·subst k;have e:a=0:=by unfold signed at d;rw[DS,SD] at d;split at d<;>omega
  subst e;have:f.cut s 0 b=0:=by
   unfold Toward.cut;cases f<;>simp
   all_goals (rcases CD b 2 with l|l)
   all_goals simp[Nat.one_shiftLeft]
  rw[this,Vo]
 ·have e:a=c.natAbs*2^b:=by
   have m:(2:Int)^b=((2^b:Nat):Int):=by push_cast;rfl
   unfold signed at d;rw[DS] at d;have g:(a:Int).natAbs=(c*2^b).natAbs:=by rw[<- d];split<;>simp
   have n:(c*2^b).natAbs=c.natAbs*2^b:=by rw[SO,m,Lo]
   rw[n] at g;simpa using g
  rw[e,AHn _ _ (by omega)];congr 1;have:signed s a 0=signed s c.natAbs 0*(2:Int)^b:=by
   rw[e];unfold signed;simp only[DS];split
   ·push_cast;rw[Ln]
   ·push_cast;rfl
  rw[this] at d;exact A0A (by omega) d
theorem VR.toInt {x:Nat}{a:Int}(b:VR x a)(f:a.natAbs<9007199254740992):floatToIntVal .f64 x J9=some a:=by
 have:=DV.toInt b .zero;unfold floatToIntVal;have c:(FloatKind.f64.decode x).toInt .zero=some a:=this;rw[c];have d:IntKind.i64.min= -9223372036854775808:=by simp[IntKind.min,IntKind.bits,IntKind.signed]
 have e:IntKind.i64.max=9223372036854775807:=by simp[IntKind.max,IntKind.bits,IntKind.signed]
 simp only[d,e];rw[if_pos (by omega)]
theorem AQF {b:Nat}{s:Bool}{m:Nat}{i:Int}(a:fD.read b= .number s m i):i<=0\/4503599627370496<=m:=by
 unfold Format.read at a;simp only[oR,sj,mf] at a;split at a
 ·injection a with _ _ c;exact .inl (by omega)
 ·split at a
  ·injection a with _ d _;exact .inr (by omega)
  ·split at a<;>cases a
theorem AMm(s:Bool)(m u:Nat):(signed s m u).natAbs=m*2^u:=by
 unfold signed;rw[NX];split
 ·rw[Int.natAbs_neg,Lo]
 ·rw[Lo]
theorem VR.of_eq {x k:Nat}{m:Int}(o:VR k m)(u:m.natAbs<4503599627370496)(c:fD.order x k=some .eq):VR x m:=by
 obtain⟨t,b,l,p,g⟩:=o;unfold Format.order at c;rw[p] at c;unfold VR;cases e:fD.read x with
 |nan s f=>rw[e] at c;simp[Datum.order] at c
 |infinity s=>rw[e] at c;cases s<;>simp[Datum.order] at c
 |number s a i=>
  rw[e] at c;simp only[Datum.order,Bs] at c;rw[cmp_eq] at c;by_cases hi:i<=0
  ·refine⟨s,a,(-i).toNat,by rw[show -(((-i).toNat:Nat):Int)=i by omega],?_⟩;generalize v:(-i).toNat=d;have h:(i-min i (-(l:Int))).toNat=max d l-d:=by omega
   have j:(-(l:Int)-min i (-(l:Int))).toNat=max d l-l:=by omega
   rw[h,j,PT s,PT t,g,HE,<-HG,show l+(max d l-l)=max d l by omega] at c;refine A0A (a:=(2:Int)^(max d l-d)) (by have:=pow_pos (max d l-d);omega) ?_;rw[c,HE,<-HG,show d+(max d l-d)=max d l by omega]
  ·exfalso;have w:=(AQF e).resolve_left hi;have h:(i-min i (-(l:Int))).toNat=i.toNat+l:=by omega
   have j:(-(l:Int)-min i (-(l:Int))).toNat=0:=by omega
   rw[h,j,g] at c;have n:=congrArg Int.natAbs c;have q:(2:Int)^l=((2^l:Nat):Int):=by push_cast;rfl
   rw[AMm,SO,q,Lo,GB,<-Fl] at n;have y:a*2^i.toNat=m.natAbs:=Nat.eq_of_mul_eq_mul_right (GC l) n;have r:1<=2^i.toNat:=GC _;have z:a*1<=a*2^i.toNat:=Nat.mul_le_mul_left _ r;omega
theorem Ad.calc {A:ao}{P:Q1}{s:Sem J0}{h:aa}{K:A2X}{v:J0}(a:s.calc P=some v)(b:K v h):Ad A P s h K:=λc=>⟨v,h,c,DZ a _,b⟩
theorem Ad.run {A:ao}{P:Q1}{s:Sem J0}{h:aa}{K:A2X}{v:J0}(b: ∀a,s.run P a= .ok v a)(c:K v h):Ad A P s h K:=λd=>⟨v,h,d,b _,c⟩
section
variable {A : ao} {P : Q1} {t : Q7} {o1 o2 : Operand} {x y : Nat} {h : aa} {K : A2X}
abbrev jS(a:BinOp)(t:Q7)(o1 o2:Operand)(x y:Nat):Sem J0:=do eqGuard a t o1 o2 (.float .f64 x) (.float .f64 y);binOp a t (.float .f64 x) (.float .f64 y)
theorem sn(a:K (J3 (fD.order x y==some .gt||fD.order x y==some .eq)) h):Ad A P (jS .geq t o1 o2 x y) h K:=Ad.calc rfl a
theorem ANb(a:K (J3 (fD.order x y==some .lt||fD.order x y==some .eq)) h):Ad A P (jS .leq t o1 o2 x y) h K:=Ad.calc rfl a
theorem ATa(a:K (J3 (fD.order x y==some .gt)) h):Ad A P (jS .gtr t o1 o2 x y) h K:=Ad.calc rfl a
theorem ATe(a:K (J3 (fD.order x y==some .eq)) h):Ad A P (jS .eql t o1 o2 x y) h K:=Ad.calc rfl a
theorem AOg(a:K (J3 (fD.order x y != some .eq)) h):Ad A P (jS .neq t o1 o2 x y) h K:=Ad.calc rfl a
theorem ATo {a:Nat}(c:fD.add x y=some a)(d:K (.float .f64 a) h):Ad A P (jS .add t o1 o2 x y) h K:=by refine Ad.run (λb=>?_) d;have:=run_float_arith (P:=P) b .add t .f64 x y a c;simp only[jS,Sem.run_bind];have e:(eqGuard .add t o1 o2 (.float .f64 x) (.float .f64 y)).run P b= .ok () b:=rfl;rw[e,Result.andThen_ok,this]
theorem PY {op:BinOp}{b:Nat}(a:floatBits op .f64 x y=some b)(c:World):(Op.Complex.arith op .f64 x y).run P c= .ok b c:=by
 unfold floatBits at a;unfold Op.Complex.arith;cases op<;>simp only at a<;>first|(cases a;done)|skip
 all_goals
  have e: ∀d,FloatKind.f64.format=d->True:=λ_ _=>trivial
  simp[Op.floatArith,a]
abbrev sq(d:BinOp)(t:Q7)(o1 o2:Operand)(a b c e:Nat):Sem J0:=do eqGuard d t o1 o2 (.complex .f64 a b) (.complex .f64 c e);binOp d t (.complex .f64 a b) (.complex .f64 c e)
theorem AT4 {a b c d g i l j k f:Nat}(m:fD.mul a c=some g)(n:fD.mul b d=some i)(o:fD.sub g i=some l)(p:fD.mul a d=some j)(q:fD.mul b c=some k)(r:fD.add j k=some f)
  (s:K (.complex .f64 l f) h):Ad A P (sq .mul t o1 o2 a b c d) h K:=by
 refine Ad.run (λe=>?_) s;have u:=PY (P:=P) (op:= .mul) (x:=a) (y:=c) m e;have v:=PY (P:=P) (op:= .mul) (x:=b) (y:=d) n e;have w:=PY (P:=P) (op:= .sub) (x:=g) (y:=i) o e;have z:=PY (P:=P) (op:= .mul) (x:=a) (y:=d) p e;have B:=PY (P:=P) (op:= .mul) (x:=b) (y:=c) q e;have C:=PY (P:=P) (op:= .add) (x:=j) (y:=k) r e;simp only[sq,Sem.run_bind];have D:(eqGuard .mul t o1 o2 (.complex .f64 a b) (.complex .f64 c d)).run P e= .ok () e:=rfl;rw[D,Result.andThen_ok];have E:binOp .mul t (.complex .f64 a b) (.complex .f64 c d)=Op.complexOp .mul .f64 a b c d:=by simp[binOp]
 rw[E];simp[Op.complexOp,Op.Complex.conv,Op.Complex.product,Op.Complex.mul,Op.Complex.sub,Op.Complex.add,Sem.run_bind,u,v,w,z,B,C]
theorem AOl {c:Array Q7}{d:Q7}{a b:Nat}(e:K (.float .f64 a) h):Ad A P (Builtin.real_ c d #[.complex .f64 a b]) h K:=Ad.calc rfl e
theorem sr {c:Array Q7}{d:Q7}{a b:Nat}(e:K (.float .f64 b) h):Ad A P (Builtin.imag_ c d #[.complex .f64 a b]) h K:=Ad.calc rfl e
theorem ANF {c:Array Q7}{d:Q7}{a b:Nat}(e:K (.complex .f64 a b) h):Ad A P (Builtin.complex_ c d #[.float .f64 a,.float .f64 b]) h K:=Ad.calc rfl e
theorem su {a c:Q7}{b:Nat}{d:Int}(e:P.underlying a=some (.float .f64))(hd:P.underlying c=some (.int J9))(f:floatToIntVal .f64 b J9=some d)(g:K (J6 J9 d) h):Ad A P (convert a c (.float .f64 b)) h K:=
 Ad.run (λi=>run_convert_float_int i a c .f64 J9 b d (by rw[e];rfl) hd f) g
theorem oS {b c:Q7}{a:Int}(d:P.underlying b=some (.int J9))(hd:P.underlying c=some (.float .f64))(e:K (.float .f64 (floatOfInt .f64 a)) h):Ad A P (convert b c (J6 J9 a)) h K:=by refine Ad.run (λg=>?_) e;have f:FloatKind.f64.nearest a=floatOfInt .f64 a:=rfl;simp[convert,BO d,BO hd,Conv.intToFloat,f]
theorem ATH {j:Array Q7}{k:Q7}{a m:Int}(e:VR x a)(f:VR y m)(c: ∀g,VR g (max a m)->K (.float .f64 g) h):Ad A P (Builtin.max_ j k #[.float .f64 x,.float .f64 y]) h K:=by
 have l:=VR.order e f;have d:FloatKind.f64.format.order x y=some (compare a m):=l;by_cases n:a<m
 ·have b:compare a m= .lt:=si.2 n;refine Ad.run (v:= .float .f64 y) (λi=>?_) (c y (by rw[show max a m=m by omega];exact f));simp[Builtin.max_,Builtin.max2,d,b]
 ·by_cases o:m<a
  ·have b:compare a m= .gt:=lZ.2 o;refine Ad.run (v:= .float .f64 x) (λi=>?_) (c x (by rw[show max a m=a by omega];exact e));simp[Builtin.max_,Builtin.max2,d,b]
  ·have p:a=m:=by omega
   subst p;have b:compare a a= .eq:=cmp_eq.2 rfl;refine Ad.run (v:= .float .f64 (if(FloatKind.f64.decode x).neg then y else x)) (λi=>?_) (c _ (by rw[show max a a=a by omega];split<;>assumption));simp[Builtin.max_,Builtin.max2,d,b]
end
open Go
theorem toList_inj {a b:A2Y}:(a.toList==b.toList)=decide (a=b):=by rw[ByteArray.toList_eq,ByteArray.toList_eq];rw[DH];simp[MA,<-Array.toList_inj]
theorem Bl {a b:A2Y}:bB a b=decide (a=b):=toList_inj
theorem Sd: ∀(a:List UInt8),Op.bytesLess a a=false
 | []=>rfl
 |a::x=>by simp[Op.bytesLess,Sd x]
theorem lI: ∀(a b:List UInt8),Op.bytesLess a b=false->Op.bytesLess b a=false->a=b
 | [],[],_,_=>rfl
 | [],_::_,c,_=>by simp[Op.bytesLess] at c
 |_::_,[],_,c=>by simp[Op.bytesLess] at c
 |a::x,b::f,d,e=>by
  simp only[Op.bytesLess,Ge,RE,decide_eq_false_iff_not,beq_eq_false_iff_ne] at d e;have g:a=b:=by have h:=d.1;have i:=e.1;exact UInt8.le_antisymm (UInt8.not_lt.1 i) (UInt8.not_lt.1 h)
  subst g;rw[lI x f (d.2.resolve_left (by simp)) (e.2.resolve_left (by simp))]
theorem VJ: ∀(a b c:List UInt8),Op.bytesLess a b=true->Op.bytesLess b c=true->Op.bytesLess a c=true
 |_,[],_,f,_=>by simp[Op.bytesLess] at f
 |_,_::_,[],_,f=>by simp[Op.bytesLess] at f
 | [],_::_,_::_,_,_=>by simp[Op.bytesLess]
 |a::x,b::g,c::z,e,d=>by
  simp only[Op.bytesLess,CI,A3,decide_eq_true_eq,beq_iff_eq] at e d ⊢;rcases e with e|⟨rfl,e⟩
  ·rcases d with d|⟨rfl,d⟩
   ·exact .inl (UInt8.lt_trans e d)
   ·exact .inl e
  ·rcases d with d|⟨rfl,d⟩
   ·exact .inl d
   ·exact .inr ⟨rfl,VJ x g z e d⟩
theorem CV(a:A2Y):aI a a=false:=Sd _
theorem DW {a b c:A2Y}(d:aI a b=true)(e:aI b c=true):aI a c=true:=VJ _ _ _ d e
theorem NW {a b:A2Y}(d:aI a b=false)(e:aI b a=false):a=b:=by
 have:=lI _ _ d e;have c:bB a b=true:=by simp[bB,this]
 rw[Bl] at c;simpa using c
theorem PX {a b:A2Y}(c:aI a b=true):aI b a=false:=by
 cases d:aI b a
 ·rfl
 ·have:=DW c d;rw[CV] at this;cases this
theorem Mk {a b:A2Y}(c:aI a b=true):a≠b:=by rintro rfl;rw[CV] at c;cases c
theorem nT {a b c:A2Y}(d:aI a b=true)(f:aI c b=false):aI a c=true:=by
 cases e:aI b c
 ·rw[NW f e];exact d
 ·exact DW d e
theorem rk {a b c:A2Y}(e:aI b a=false)(d:aI c b=false):aI c a=false:=by
 cases f:aI c a
 ·rfl
 ·have:=nT f e;rw[this] at d;cases d
theorem yD: ∀(a b:List UInt8),Op.bytesLess a b=decide (a<b)
 | [],[]=>by simp[Op.bytesLess]
 | [],_::_=>by simp[Op.bytesLess]
 |_::_,[]=>by simp[Op.bytesLess]
 |a::x,b::c=>by
  simp only[Op.bytesLess,yD x c,A0f];by_cases d:a<b<;>by_cases e:a=b<;>simp[d,e]
theorem XG(a b:A2Y):aI a b=decide (a.data.toList<b.data.toList):=by simp[aI,ByteArray.toList_eq,yD]
def Jn:cr A2Y where
 enc x:= [.string x]
 w:=1
 len _:=rfl
 pos:=by omega
 one x v a:=by simp at a;subst a;rfl
def Jh:cr Int where
 enc x:= [.int J9 x]
 w:=1
 len _:=rfl
 pos:=by omega
 one x v a:=by simp at a;subst a;rfl
theorem Cells.str {b:aa}{a:Q6}{x:A2Y}(c:Cells b a (Jn.enc x)):af b a=some (.string x):=by have d:=c 0 _ rfl;rwa [add_zero] at d
theorem Cells.int {b:aa}{a:Q6}{x:Int}(c:Cells b a (Jh.enc x)):af b a=some (.int J9 x):=by have d:=c 0 _ rfl;rwa [add_zero] at d
theorem Own.lt {c:Type}{e:cr c}{T:Q7}{d:aa}{s:Sl}{l:List c}(f:Own e T d s l){b:Nat}(a:s.ag=some b):b<d.size:=by
 rcases f.row with⟨rfl,_⟩|⟨g,j,h,i,_⟩
 ·simp[Sl.ag] at a
 ·simp[Sl.ag,h] at a;subst a;exact Ai i
def fS(a:A2Y)(v:J0):List (A2Y×J0)->List (A2Y×J0)
 | []=> [(a,v)]
 |p::m=>if p.1=a then(a,v)::m else p::fS a v m
def Vp(a:A2Y)(m:List (A2Y×J0)):Option J0:=(m.find? λp=>decide (p.1=a)).map (·.2)
def iy(a:A2Y)(m:List (A2Y×J0)):List (A2Y×J0):=m.filter λp=> !decide (p.1=a)
theorem Pg(a:A2Y)(p:A2Y×J0)(m:List (A2Y×J0)):Vp a (p::m)=if p.1=a then some p.2 else Vp a m:=by unfold Vp;rw[E0];by_cases b:p.1=a<;>simp[b]
structure dI (es:Array MapEntry) (clock:Nat) (m:List (A2Y×J0)):Prop where
 same:es.toList.map (λe=>(e.key,e.val))=m.map λp=>(Value.string p.1,p.2)
 stamped:MapKept.Stamped es clock
 size:es.size<=maxLen
 keys: ∀p∈m,p.1.size<=maxLen
def XO(d:aa)(b:Nat)(m:List (A2Y×J0)):Prop:= ∃a c,d[b]? =some (.map a c)/\dI a c m
theorem XO.mod {a c:aa}{b:Nat}{m:List (A2Y×J0)}{d:Nat->Prop}(M:XO a b m)(x:Mod d a c)(e: ¬d b):XO c b m:=by obtain⟨f,g,h,i⟩:=M;exact⟨f,g,x.ag h e,i⟩
theorem XO.lt {a:aa}{b:Nat}{m:List (A2Y×J0)}(M:XO a b m):b<a.size:=by obtain⟨d,e,c,f⟩:=M;exact Ai c
theorem XO.empty {a:aa}{b c:Nat}(d:a[b]? =some (.map #[] c)):XO a b []:=⟨#[],c,d,rfl,MapKept.stamped_empty c,by simp,by simp⟩
theorem dI.len {a:Array MapEntry}{b:Nat}{m:List (A2Y×J0)}(M:dI a b m):a.size=m.length:=by rw[<- Ds];have:=congrArg List.length M.same;simpa using this
theorem dI.keysOf {a:Array MapEntry}{b:Nat}{m:List (A2Y×J0)}(M:dI a b m):a.toList.map (·.key)=m.map λp=>Value.string p.1:=by have:=congrArg (List.map Prod.fst) M.same;simpa [CA,GF] using this
theorem dI.nodup {b:Array MapEntry}{c:Nat}{m:List (A2Y×J0)}(M:dI b c m):(m.map (·.1)).Nodup:=by
 have a:=M.stamped.2.2;rw[M.keysOf] at a;have d:(m.map λp=>Value.string p.1)=(m.map (·.1)).map Value.string:=by simp
 rw[d] at a;exact(List.pairwise_map.1 a).imp λe f=>e (congrArg _ f)
theorem XA(a:A2Y)(v:J0): ∀(c:List MapEntry) (m:List (A2Y×J0)) (i:Nat),(c.map λe=>(e.key,e.val))=(m.map λp=>(Value.string p.1,p.2))->
  (Instr.findNow .string (.string a) c i=some none/\Vp a m=none/\fS a v m=m++ [(a,v)]/\iy a m=m/\ ∀e∈c,e.key≠ .string a)\/
  ∃d u,Instr.findNow .string (.string a) c i=some (some (i+d,u))/\Vp a m=some u/\(∃ e,c[d]? =some e/\e.key= .string a)/\((c.modify d λe=> {e with key:= .string a,val:=v}).map λe=>(e.key,e.val))=(fS a v m).map (λp=>(Value.string p.1,p.2))/\
   ((m.map (·.1)).Nodup->((c.eraseIdx d).map λe=>(e.key,e.val))=(iy a m).map λp=>(Value.string p.1,p.2))
 | [],[],i,_=> .inl ⟨rfl,rfl,rfl,rfl,by simp⟩
 | [],_::_,_,h=>by simp at h
 |_::_,[],_,h=>by simp at h
 |e::c,p::m,i,h=>by
  simp only[C5,G0,Mb] at h;obtain⟨⟨j,l⟩,n⟩:=h;have o:Instr.sameNow .string (.string a) e.key=some (decide (a=p.1)):=by rw[j];show some (a==p.1)=_;congr 1;rw[DH,MapKept.bytes_beq];simp
  by_cases b:p.1=a
  ·refine .inr ⟨0,e.val,?_,?_,⟨e,rfl,by rw[j,b]⟩,?_,?_⟩
   ·unfold Instr.findNow;rw[o,decide_eq_true b.symm];rfl
   ·rw[Pg,if_pos b,l]
   ·unfold fS;rw[if_pos b];simp[n]
   ·intro g;have g:=List.nodup_cons.1 g;simp only[List.eraseIdx_zero,List.tail_cons];rw[n];congr 1;unfold iy;rw[AS];simp only[b,decide_true,LI,BW,if_false];refine(List.filter_eq_self.2 λq y=>?_).symm;simp only[Cd,decide_eq_false_iff_not];rintro rfl;exact g.1 (by show p.1∈_;rw[b];exact IS (f:=Prod.fst) y)
  ·rcases XA a v c m (i+1) n with⟨r,s,t,k,z⟩|⟨d,u,r,s,⟨A,t,B⟩,C,k⟩
   ·refine .inl ⟨?_,?_,?_,?_,?_⟩
    ·unfold Instr.findNow;rw[o,decide_eq_false (λe=>b e.symm)];exact r
    ·rw[Pg,if_neg b];exact s
    ·unfold fS;rw[if_neg b,t];rfl
    ·unfold iy at k ⊢;rw[AS];simp[b];simpa using k
    ·intro x w;rcases List.mem_cons.1 w with rfl|w
     ·rw[j];intro e;injection e with e;exact b e
     ·exact z x w
   ·refine .inr ⟨d+1,u,?_,?_,⟨A,by simpa using t,B⟩,?_,?_⟩
    ·unfold Instr.findNow;rw[o,decide_eq_false (λe=>b e.symm)];rw[show i+(d+1)=i+1+d by omega];exact r
    ·rw[Pg,if_neg b];exact s
    ·unfold fS;rw[if_neg b];simp[j,l,C]
    ·intro g;have g:=List.nodup_cons.1 g;have:=k g.2;unfold iy at this ⊢;rw[AS];simp[b,j,l];simpa using this
section
variable {P : Q1}
theorem Jr {a:Q7}(c:P.underlying a=some .string)(d:Bool)(e:Nat)(f:A2Y)(b:World):(Instr.checkKey d (e+1) a (.string f)).run P b= .ok () b:=by simp[Instr.checkKey,BO c]
theorem Sk {g:ao}{t h i:Q7}{z:J0}(j:P.underlying t=some (.map h i))(c:P.underlying h=some .string)(n:(zeroValue i).calc P=some z){a:aa}{b:Nat}{m:List (A2Y×J0)}{d:A2Y}{K:A2X}
  (M:XO a b m) (o:K ((Vp d m).getD z) a):Ad g P (Instr.lookup t (.map (some b)) (.string d) false) a K:=by
 intro k;refine⟨_,a,k,?_,o⟩;obtain⟨p,v,q,s⟩:=M;have l:=MapKept.run_getObj_map (P:=P) (w:=g.at a k) (r:=b) q;rcases XA d z p.toList m 0 s.same with⟨e,f,_⟩|⟨x,u,e,f,_,_⟩
 ·simp[Instr.lookup,BO j,l,Jr c,Instr.findKey,BO c,e,f,Result.andThen,DZ n]
 ·simp[Instr.lookup,BO j,l,Jr c,Instr.findKey,BO c,e,f,Result.andThen]
theorem yE {b:A2Y}{v:J0}: ∀ {m:List (A2Y×J0)} {p:A2Y×J0},p∈fS b v m->p.1=b\/p∈m
 | [],p,a=>by simp[fS] at a;exact .inl (by rw[a])
 |q::m,p,a=>by
  unfold fS at a;split at a
  ·rcases List.mem_cons.1 a with rfl|a
   ·exact .inl rfl
   ·exact .inr (AH _ a)
  ·rcases List.mem_cons.1 a with rfl|a
   ·exact .inr B8
   ·exact(yE a).imp id (AH _)
theorem APg {g:ao}{t s I:Q7}(y:P.underlying t=some (.map s I))(h:P.underlying s=some .string){d:aa}{b:Nat}{m:List (A2Y×J0)}{a:A2Y}{v:J0}{K:aa->Prop}
  (M:XO d b m) (J:a.size<=maxLen) (U:m.length<maxLen) (z: ∀i,XO i b (fS a v m)->Mod (λc=>c=b) d i->i.size=d.size->K i):Yx g P (Instr.mapUpdate t (.map (some b)) (.string a) v) d K:=by
 intro f;obtain⟨j,l,n,e⟩:=M;have A:=Ai n;have B:=MapKept.run_getObj_map (P:=P) (w:=g.at d f) (r:=b) n;have C: ∀k,(setObj b k).run P (g.at d f)= .ok () (g.at (d.setIfInBounds b k) f):=λk=>MapKept.run_setObj_map (P:=P) (w:=g.at d f) k n
 have D: ∀p∈fS a v m,p.1.size<=maxLen:=λp L=>(yE L).elim (λd=>by rw[d];exact J) (e.keys p)
 have V:=e.len;rcases XA a v j.toList m 0 e.same with⟨o,N,q,_,O⟩|⟨E,u,o,N,⟨Q,q,F⟩,R,_⟩
 ·refine⟨d.setIfInBounds b (.map (j.push {key:= .string a,val:=v,born:=l}) (l+1)),f,?_,z _ ⟨_,_,Ci A,?_,MapKept.stamped_push e.stamped O,by simp;omega,D⟩ (Mod.setObj rfl) (by simp)⟩
  ·simp[Instr.mapUpdate,BO y,B,Jr h,Instr.findKey,BO h,o,Result.andThen,C]
  ·rw[q];simp[e.same]
 ·have G:j[E]? =some Q:=by simpa using q
  refine⟨d.setIfInBounds b (.map (j.modify E λe=> {e with key:= .string a,val:=v}) l),f,?_,z _ ⟨_,_,Ci A,?_,MapKept.stamped_modify e.stamped _ _ (λ_ _=>rfl) (λx _ H=>?_),by simpa using e.size,D⟩ (Mod.setObj rfl) (by simp)⟩
  ·have S: ∀w,(Instr.keyThatStays (.string a) (.string a)).run P w= .ok (.string a) w:=λw=>by
    have T:(a==a)=true:=(MapKept.bytes_beq a a).2 rfl;simp[Instr.keyThatStays,Instr.sameBits,T]
   simp[Instr.mapUpdate,BO y,B,Jr h,Instr.findKey,BO h,o,G,F,S,Result.andThen,C]
  ·rw[Hn];exact R
  ·rw[G] at H;cases H;exact F.symm
theorem APB {g:ao}{t l D E:Q7}(v:P.underlying t=some (.map l D))(h:P.underlying l=some .string){a:aa}{b:Nat}{m:List (A2Y×J0)}{i:A2Y}{K:A2X}
  (M:XO a b m) (x: ∀j,XO j b (iy i m)->Mod (λc=>c=b) a j->j.size=a.size->K (.tuple #[]) j):Ad g P (Builtin.delete_ #[t,l] E #[.map (some b),.string i]) a K:=by
 intro e;obtain⟨f,y,n,d⟩:=M;have z:=Ai n;have A:=MapKept.run_getObj_map (P:=P) (w:=g.at a e) (r:=b) n;have B: ∀k,(setObj b k).run P (g.at a e)= .ok () (g.at (a.setIfInBounds b k) e):=λk=>MapKept.run_setObj_map (P:=P) (w:=g.at a e) k n
 have C: ∀p∈iy i m,p.1.size<=maxLen:=λp F=>d.keys p (List.mem_filter.1 F).1
 rcases XA i (.bool true) f.toList m 0 d.same with⟨o,G,_,q,_⟩|⟨s,u,o,G,⟨H,I,N⟩,_,q⟩
 ·refine⟨_,a.setIfInBounds b (.map f y),e,?_,x _ ⟨_,_,Ci z,by rw[q];exact d.same,d.stamped,d.size,C⟩ (Mod.setObj rfl) (by simp)⟩;simp[Builtin.delete_,BO v,A,Jr h,Instr.findKey,BO h,o,Result.andThen,B]
 ·have J:f[s]? =some H:=by simpa using I
  refine⟨_,a.setIfInBounds b (.map (f.eraseIdxIfInBounds s) y),e,?_,x _ ⟨_,_,Ci z,?_,MapKept.stamped_erase d.stamped _,?_,C⟩ (Mod.setObj rfl) (by simp)⟩
  ·simp[Builtin.delete_,BO v,A,Jr h,Instr.findKey,BO h,o,Result.andThen,B]
  ·have L:=(Array.getElem?_eq_some_iff.1 J).1;rw[Array.eraseIdxIfInBounds,dif_pos L,A0i];exact q d.nodup
  ·have:(f.eraseIdxIfInBounds s).size<=f.size:=by unfold Array.eraseIdxIfInBounds;split<;>simp
   have:=d.size;omega
end
def kJ(_:J0):Option (DataW Unit×List MemPlace):=some (.nil,[])
theorem yF {a:Type}(x:Lit×DataW a): ∀l:List (Lit×DataW a),(DataW.insert x l).Perm (x::l)
 | []=>by simp[DataW.insert]
 |y::b=>by
  unfold DataW.insert;split
  ·exact HJ _
  ·exact((yF x b).cons y).trans (List.Perm.swap x y b)
theorem sorted_perm {a:Type}: ∀l:List (Lit×DataW a),(l.foldr DataW.insert []).Perm l
 | []=>HJ _
 |x::b=>(yF x _).trans ((sorted_perm b).cons x)
theorem AMy {P:Q1}{kt:Q7}(j:P.underlying kt=some .string){w:World}{b:Nat}{m:List (A2Y×J0)}(M:XO w.heap b m):
  ∃e:DataW Unit,w.ownsMap P kt kJ b m.length e/\(strKeys e).Perm (m.map λp=>p.1.data.toList)/\Maps.size e=m.length:=by
 obtain⟨c,k,l,a⟩:=M;have h: ∀x∈c.toList,∃s:A2Y,x.key= .string s/\WideElems.rd P kt kJ x=some (.string s.data.toList,.nil):=by
  intro x d;have:x.key∈m.map λp=>Value.string p.1:=by rw[<- a.keysOf];exact IS d
  obtain⟨p,n,i⟩:=List.mem_map.1 this;refine⟨p.1,i.symm,?_⟩;simp[WideElems.rd,<-i,Go.WideMaps.keyOf_string_mk j (a.keys p n),kJ]
 refine⟨_,⟨c,k,l,⟨a.size,a.stamped,λx d=>?_⟩,by rw[a.len];exact A0 _,rfl⟩,?_,?_⟩
 ·obtain⟨s,_,f⟩:=h x d;exact⟨_,f⟩
 ·show((c.toList.map (WideElems.rg P kt kJ)).foldr DataW.insert [] |>.map λp=>strOf p.1).Perm _;refine((sorted_perm _).map _).trans ?_;have g:(c.toList.map (WideElems.rg P kt kJ)).map (λp=>strOf p.1)=(c.toList.map (·.key)).map λv=>match v with| .string s=>s.data.toList|_=> []:=by
   rw[CA,CA];refine GO λx d=>?_
   obtain⟨s,g,f⟩:=h x d;simp[Function.comp,WideElems.rg,f,g,strOf]
  rw[g,a.keysOf,CA];exact List.Perm.of_eq (GO λx _=>rfl)
 ·show((c.toList.map (WideElems.rg P kt kJ)).foldr DataW.insert []).length=_;rw[(sorted_perm _).length_eq];simp[a.len]
def oz(l:List A2Y):Prop:=l.Pairwise λa b=>aI a b=true
theorem AL4 {d:List (List UInt8)}{l:List A2Y}(e:oz l)(f:d.Perm (l.map λx=>x.data.toList)):(d.mergeSort λx g=>decide (x<=g))=l.map λx=>x.data.toList:=by
 have h:=mergeSort_of_perm f;have i:(l.map λx=>x.data.toList).mergeSort leB=l.map λx=>x.data.toList:=by refine List.mergeSort_of_pairwise ?_;refine List.pairwise_map.2 (e.imp λ{a b} c=>?_);rw[XG] at c;simp only[decide_eq_true_eq] at c ⊢;exact List.le_of_lt c
 exact h.trans i
theorem APP(l:List A2Y):(l.map λx=>x.data.toList).map Proofs.encStr=l.flatMap Jn.enc:=by
 induction l with
 |nil=>rfl
 |cons x b a=>rw[C5,C5,a,AM];rfl
theorem wrap_u32(a:Nat):J8 .u32 (a:Int)=((a % 4294967296:Nat):Int):=by simp[J8,IntKind.bits,IntKind.signed]
theorem wrap_u64(a:Nat):J8 .u64 (a:Int)=((a % 18446744073709551616:Nat):Int):=by simp[J8,IntKind.bits,IntKind.signed]
theorem Td {a b:Nat}(c:a<4294967296)(d:b<4294967296):Uk .u32 (a:Int) (b:Int)=((a ^^^ b:Nat):Int):=by
 have e:a ^^^ b<2^32:=Lq (by simpa using c) (by simpa using d);unfold Uk;have f:(BitVec.ofInt (IntKind.bits .u32) (a:Int) ^^^ BitVec.ofInt (IntKind.bits .u32) (b:Int)).toNat=a ^^^ b:=by show(BitVec.ofInt 32 (a:Int) ^^^ BitVec.ofInt 32 (b:Int)).toNat=a ^^^ b;rw[BitVec.ofInt_natCast,BitVec.ofInt_natCast,BitVec.toNat_xor,BitVec.toNat_ofNat,BitVec.toNat_ofNat,As (by simpa using c),As (by simpa using d)]
 rw[f,wrap_u32,As (by simpa using e)]
theorem AVY {a b:Nat}(c:a<4294967296)(d:b<4294967296):dS .u32 (a:Int) (b:Int)=((a ||| b:Nat):Int):=by
 have e:a ||| b<2^32:=I2 (by simpa using c) (by simpa using d);unfold dS;have f:(BitVec.ofInt (IntKind.bits .u32) (a:Int) ||| BitVec.ofInt (IntKind.bits .u32) (b:Int)).toNat=a ||| b:=by show(BitVec.ofInt 32 (a:Int) ||| BitVec.ofInt 32 (b:Int)).toNat=a ||| b;rw[BitVec.ofInt_natCast,BitVec.ofInt_natCast,BitVec.toNat_or,BitVec.toNat_ofNat,BitVec.toNat_ofNat,As (by simpa using c),As (by simpa using d)]
 rw[f,wrap_u32,As (by simpa using e)]
theorem sv {a b:Nat}(c:a<18446744073709551616)(d:b<18446744073709551616):dS .u64 (a:Int) (b:Int)=((a ||| b:Nat):Int):=by
 have e:a ||| b<2^64:=I2 (by simpa using c) (by simpa using d);unfold dS;have f:(BitVec.ofInt (IntKind.bits .u64) (a:Int) ||| BitVec.ofInt (IntKind.bits .u64) (b:Int)).toNat=a ||| b:=by show(BitVec.ofInt 64 (a:Int) ||| BitVec.ofInt 64 (b:Int)).toNat=a ||| b;rw[BitVec.ofInt_natCast,BitVec.ofInt_natCast,BitVec.toNat_or,BitVec.toNat_ofNat,BitVec.toNat_ofNat,As (by simpa using c),As (by simpa using d)]
 rw[f,wrap_u64,As (by simpa using e)]
theorem sw(a b:Nat):((a:Nat):Int)*((b:Nat):Int)=((a*b:Nat):Int):=(Int.natCast_mul a b).symm
def hA(a c:Nat):Nat:=((a ^^^ c)*16777619) % 4294967296
def hX(b c:Nat):Nat:=((b+c) % 4294967296*2246822507) % 4294967296
def hB(b c:Nat):Nat:=hX b c ^^^ (hX b c / 8192)
def Vx(l:List UInt8):Nat×Nat:=l.foldl (λs c=>(hA s.1 c.toNat,hB s.2 c.toNat)) (2166136261,2538058380)
def Xo(a:A2Y):Nat:=(Vx a.data.toList).1
def R8(a:A2Y):Nat:=(Vx a.data.toList).2 ||| 1
theorem AXD(a c:Nat):hA a c<4294967296:=BY _ (by decide)
theorem AVI(b c:Nat):hX b c<4294967296:=BY _ (by decide)
theorem AWm(b c:Nat):hB b c<4294967296:=by have a:=AVI b c;have:hB b c<2^32:=Lq (by simpa using a) (by have:hX b c / 8192<=hX b c:=LN _ _;omega);simpa using this
theorem AEF(l:List UInt8)(c:UInt8):Vx (l++ [c])=(hA (Vx l).1 c.toNat,hB (Vx l).2 c.toNat):=by simp[Vx]
theorem sx(l:List UInt8):(Vx l).1<4294967296/\(Vx l).2<4294967296:=by
 rw[<- List.reverse_reverse l];cases l.reverse with
 |nil=>decide
 |cons c a=>rw[SP,AEF];exact⟨AXD _ _,AWm _ _⟩
theorem ASw(a:A2Y):R8 a<4294967296:=by have:R8 a<2^32:=I2 (by have:=(sx a.data.toList).2;simpa using this) (by decide);simpa using this
theorem sy(a:A2Y):Xo a<4294967296:=(sx _).1
theorem uK {a c:Nat}(b:a<4294967296)(d:c<256):J8 .u32 ((Uk .u32 (a:Int) (J8 .u32 (c:Int)))*(16777619:Int))=((hA a c:Nat):Int):=by rw[wrap_u32,As (by omega),Td b (by omega),show((a ^^^ c:Nat):Int)*(16777619:Int)=(((a ^^^ c)*16777619:Nat):Int) from sw _ 16777619,wrap_u32];rfl
theorem AWh {b c:Nat}(a:b<4294967296)(d:c<256):J8 .u32 ((J8 .u32 ((b:Int)+(J8 .u32 (c:Int))))*(2246822507:Int))=((hX b c:Nat):Int):=by rw[wrap_u32 c,As (by omega),show((b:Int)+(c:Int))=((b+c:Nat):Int) by push_cast;rfl,wrap_u32,show(((b+c) % 4294967296:Nat):Int)*(2246822507:Int)=(((b+c) % 4294967296*2246822507:Nat):Int) from sw _ 2246822507,wrap_u32];rfl
theorem Px(n a:Nat):((n:Nat):Int).fdiv ((2:Int)^a)=((n / 2^a:Nat):Int):=by
 rw[US _ (by have:=Int.pow_pos (n:=2) (m:=a) (by decide);omega)]
 push_cast;rfl
theorem AW7 {b c:Nat}(a:b<4294967296)(d:c<256):Uk .u32 (J8 .u32 ((J8 .u32 ((b:Int)+(J8 .u32 (c:Int))))*(2246822507:Int))) ((J8 .u32 ((J8 .u32 ((b:Int)+(J8 .u32 (c:Int))))*(2246822507:Int))).fdiv ((2:Int)^(13:Nat)))=((hB b c:Nat):Int):=by have e:=AVI b c;have f:hX b c / 2^13<=hX b c:=LN _ _;rw[AWh a d,Px,Td e (by omega)];rfl
theorem Ws {s:A2Y}{i:Nat}{c:UInt8}(a:s.data.toList[i]? =some c):dC s ((i:Nat):Int)=((c.toNat:Nat):Int):=by
 have hi:i<s.data.toList.length:=(List.getElem?_eq_some_iff.1 a).1;have b:i<s.size:=by simpa using hi
 unfold dC;have d:((i:Nat):Int).toNat=i:=by omega
 rw[d];have e:s[i]? =some c:=by rw[getElem?_pos s i b];congr 1;have f:=(List.getElem?_eq_some_iff.1 a).2;rw[<- f];rw[Array.getElem_toList];rfl
 rw[e];rfl
def Tp(a:A2Y):Nat:=(Xo a ^^^ (R8 a / 128)) % 4096
theorem AO8(a:A2Y):Tp a<4096:=BY _ (by decide)
def px(t:Nat):Int:=if t<1024 then 1024-(t:Int) else if t<2048 then 1024-(t:Int) else if t<3072 then(t:Int)-3072 else(t:Int)-3072
def py(t:Nat):Int:=if t<1024 then(t:Int) else if t<2048 then 2048-(t:Int) else if t<3072 then 2048-(t:Int) else(t:Int)-4096
theorem APY {t:Nat}(a:t<4096):max (px t) (-(px t))+max (py t) (-(py t))=1024:=by unfold px py;split<;>(try split)<;>(try split)<;>omega
theorem sA {t:Nat}(a:t<4096): -1024<=px t/\px t<=1024/\ -1024<=py t/\py t<=1024:=by unfold px py;split<;>(try split)<;>(try split)<;>omega
theorem AK5 {t:Nat}(a:t<3072):px (t+1024)= -(py t)/\py (t+1024)=px t:=by unfold px py;(repeat' split)<;>omega
theorem AL9 {t:Nat}(a:t<4096):(px t>0/\py t>=0)↔t<1024:=by unfold px py;(repeat' split)<;>omega
theorem AB1 {t:Nat}(a:t<1024):py t=t/\px t=1024-t:=by unfold px py;rw[if_pos a,if_pos a];exact⟨rfl,rfl⟩
def CP(p:Nat×Nat)(t:Nat):Prop:=t<4096/\VR p.1 (px t)/\VR p.2 (py t)
def sB(s t:Nat):Nat:=(t+4096-s) % 4096
def Lg(key a:A2Y):Nat:=sB (Tp key) (Tp a)
def dc(key a b:A2Y):Bool:=decide (Lg key a<Lg key b)||(decide (Lg key a=Lg key b)&&aI a b)
def mg(key:A2Y):List A2Y->A2Y
 | []=>⟨#[]⟩
 |x::l=>l.foldl (λm a=>if dc key a m then a else m) x
theorem ADt(key a:A2Y):dc key a a=false:=by simp[dc,CV]
theorem AHk {key a b c:A2Y}(e:dc key a b=true)(d:dc key b c=true):dc key a c=true:=by
 simp only[dc,CI,A3,decide_eq_true_eq] at*
 rcases e with e|⟨e,g⟩
 ·rcases d with d|⟨d,f⟩
  ·exact .inl (by omega)
  ·exact .inl (by omega)
 ·rcases d with d|⟨d,f⟩
  ·exact .inl (by omega)
  ·exact .inr ⟨by omega,DW g f⟩
theorem AUL {key a b:A2Y}(c:dc key a b=false)(d:dc key b a=false):a=b:=by
 simp only[dc,Ge,RE,decide_eq_false_iff_not] at*
 have e:Lg key a=Lg key b:=by omega
 exact NW (c.2.resolve_left (by omega)) (d.2.resolve_left (by omega))
theorem Vm(key:A2Y): ∀(l:List A2Y) (x:A2Y),(l.foldl (λm c=>if dc key c m then c else m) x=x\/l.foldl (λm c=>if dc key c m then c else m) x∈l)/\
  dc key x (l.foldl (λm c=>if dc key c m then c else m) x)=false/\ ∀c∈l,dc key c (l.foldl (λm c=>if dc key c m then c else m) x)=false
 | [],x=>⟨.inl rfl,ADt key x,by simp⟩
 |z::l,x=>by
  rw[Hk];obtain⟨g,f,j⟩:=Vm key l (if dc key z x then z else x);generalize l.foldl (λm c=>if dc key c m then c else m) (if dc key z x then z else x)=i at*
  have k: ∀ {p q:A2Y},dc key p q=false->dc key q i=false->dc key p i=false:=λ{p q} a b=>by
   cases d:dc key p i
   ·rfl
   ·cases n:dc key q p
    ·have:=AUL a n;subst this;rw[b] at d;cases d
    ·have:=AHk n d;rw[b] at this;cases this
  by_cases h:dc key z x=true
  ·rw[if_pos h] at g f;refine⟨.inr (g.elim (λo=>by rw[o];exact B8) (AH _)),?_,λc e=>?_⟩
   ·refine k (q:=z) ?_ f;cases d:dc key x z
    ·rfl
    ·have:=AHk h d;rw[ADt] at this;cases this
   ·rcases List.mem_cons.1 e with rfl|e
    ·exact f
    ·exact j c e
  ·rw[if_neg h] at g f;refine⟨g.elim .inl λd=> .inr (AH _ d),f,λc e=>?_⟩;rcases List.mem_cons.1 e with rfl|e
   ·exact k (by simpa using h) f
   ·exact j c e
theorem AJ4 {key:A2Y}{l:List A2Y}(c:l≠ []):mg key l∈l/\ ∀a∈l,dc key a (mg key l)=false:=by
 cases l with
 |nil=>exact absurd rfl c
 |cons x l=>
  obtain⟨d,e,f⟩:=Vm key l x;refine⟨d.elim (λg=>?_) λh=>AH _ h,λa b=>?_⟩
  ·show l.foldl _ x∈x::l;rw[g];exact B8
  ·rcases List.mem_cons.1 b with rfl|b
   ·exact e
   ·exact f a b
def Ae(l:List UInt8):A2Y:=⟨l.toArray⟩
theorem CE(l:List UInt8):(Ae l).data.toList=l:=by simp[Ae]
theorem Eh(s:A2Y):Ae s.data.toList=s:=by simp[Ae]
theorem AP(l:List UInt8):(Ae l).size=l.length:=by simp[Ae,ByteArray.size]
theorem Pm {a b:List UInt8}:Ae a=Ae b↔a=b:=⟨λc=>by simpa [Ae] using congrArg (λs:A2Y=>s.data.toList) c,λc=>by rw[c]⟩
def Cu(a:Nat):UInt8:=UInt8.ofNat a
theorem Dv {a:Nat}(b:a<256):(Cu a).toNat=a:=by simp[Cu,UInt8.toNat_ofNat'];omega
theorem AKu(c:UInt8):Cu c.toNat=c:=by simp[Cu]
def Bt(a:Nat):List UInt8:=if a<128 then [Cu a] else Cu (a % 128+128)::Bt (a / 128)
termination_by a
decreasing_by omega
theorem Fq {n:Nat}(a:n<128):Bt n= [Cu n]:=by rw[Bt,if_pos a]
theorem ZZ {n:Nat}(a: ¬n<128):Bt n=Cu (n % 128+128)::Bt (n / 128):=by rw[Bt,if_neg a]
def Qa:Nat->Nat->List UInt8->Option (Nat×List UInt8)
 |_,_,[]=>none
 |i,a,c::t=>
  if 10<=i\/(i=9/\1<c.toNat)\/(0<i/\c.toNat=0) then none
  else if c.toNat<128 then some (a+c.toNat*128^i,t) else Qa (i+1) (a+c.toNat % 128*128^i) t
theorem NJ {i a:Nat}(b:i<=a):128^i<=128^a:=Se (by decide) b
theorem iE(t:List UInt8): ∀(b i a:Nat),b*128^i<18446744073709551616->(i=0\/0<b)->Qa i a (Bt b++t)=some (a+b*128^i,t):=by
 intro b
 induction b using Nat.strongRecOn with
 |ind b k=>
  intro i a h m;have n:0<128^i:=Nat.pos_of_ne_zero (Nat.pos_iff_ne_zero.1 (SR (by decide)));by_cases e:b<128
  ·rw[Fq e];simp only[Dd,CT,Qa,Dv (show b<256 by omega)];rw[if_neg,if_pos e];rintro(c|⟨c,f⟩|⟨c,f⟩)
   ·have g:=NJ c;have j:1*128^i<=b*128^i:=AW _ (by omega);have d:(128:Nat)^10=1180591620717411303424:=by decide
    omega
   ·subst c;have d:(128:Nat)^9=9223372036854775808:=by decide
    rw[d] at h;omega
   ·omega
  ·rw[ZZ e];have hd:b / 128<b:=by omega
   simp only[Dd,Qa,Dv (show b % 128+128<256 by omega)];rw[if_neg,if_neg (by omega),k (b / 128) hd]
   ·have l:(b % 128+128) % 128=b % 128:=by omega
    rw[l,D0,IF,show b % 128*128^i+b / 128*(128^i*128)=(b % 128+128*(b / 128))*128^i by
     rw[Bm,Cp (128^i) 128,<-Fl,Cp (b / 128) 128],Nat.mod_add_div]
   ·have g:b / 128*128<=b:=Nat.div_mul_le_self _ _;have j:b / 128*128*128^i<=b*128^i:=AW _ g;rw[D0,Cp (128^i) 128,<-Fl];omega
   ·omega
   ·rintro(c|⟨c,f⟩|⟨c,f⟩)
    ·have g:=NJ c;have j:128*128^i<=b*128^i:=AW _ (by omega);have d:(128:Nat)^10=1180591620717411303424:=by decide
     omega
    ·subst c;have d:(128:Nat)^9=9223372036854775808:=by decide
     rw[d] at h;omega
    ·omega
theorem AKo: ∀(l:List UInt8) (i a n:Nat) (t:List UInt8),Qa i a l=some (n,t)-> ∃m,n=a+m*128^i/\l=Bt m++t/\m*128^i<18446744073709551616/\(i=0\/0<m)
 | [],i,a,n,t,b=>by simp[Qa] at b
 |c::l,i,a,n,t,b=>by
  simp only[Qa] at b;split at b
  ·cases b
  ·rename_i v;have w:c.toNat<256:=c.toNat_lt;split at b
   ·rename_i e;obtain⟨rfl,rfl⟩:=b;refine⟨c.toNat,rfl,by rw[Fq e,AKu];rfl,?_,by omega⟩;have hi:i<=9:=by omega
    by_cases h:i=9
    ·subst h;have d:(128:Nat)^9=9223372036854775808:=by decide
     rw[d];omega
    ·have j:=NJ (show i<=8 by omega);have d:(128:Nat)^8=72057594037927936:=by decide
     have k:c.toNat*128^i<=127*128^i:=AW _ (by omega);omega
   ·rename_i e;obtain⟨m,o,rfl,f,x⟩:=AKo l (i+1) _ n t b;have p:0<m:=by omega
    refine⟨c.toNat % 128+128*m,?_,?_,?_,by omega⟩
    ·rw[o,D0,Bm,IF,Cp (128^i) 128,<-Fl,Cp m 128]
    ·rw[ZZ (n:=c.toNat % 128+128*m) (by omega),show(c.toNat % 128+128*m) % 128+128=c.toNat by omega,show(c.toNat % 128+128*m) / 128=m by omega,AKu];rfl
    ·rw[D0,Cp (128^i) 128,<-Fl] at f;have y:(18446744073709551616:Nat)=144115188075855872*128:=by decide
     have z:i<=8:=by
      refine N6 λq=>?_
      have j:=NJ (show 9<=i from q);have d:(128:Nat)^9=9223372036854775808:=by decide
      have k:1*128*128^i<=m*128*128^i:=AW _ (AW _ p);omega
     have g:(18446744073709551616:Nat)=128^(i+1)*(18446744073709551616 / 128^(i+1)):=by
      have:i=0\/i=1\/i=2\/i=3\/i=4\/i=5\/i=6\/i=7\/i=8:=by omega
      rcases this with rfl|rfl|rfl|rfl|rfl|rfl|rfl|rfl|rfl<;>decide
     have r:0<128^i:=Nat.pos_of_ne_zero (Nat.pos_iff_ne_zero.1 (SR (by decide)));have s:m<18446744073709551616 / 128^(i+1):=by refine Nat.lt_of_mul_lt_mul_left (a:=128^(i+1)) ?_;rw[<- g,D0,Cp,Cp (128^i) 128,<-Fl];exact f
     have u:128^(i+1)*(m+1)<=128^(i+1)*(18446744073709551616 / 128^(i+1)):=Nat.mul_le_mul_left _ s;rw[<- g,D0] at u;have A:(c.toNat % 128+128*m)*128^i<128*(m+1)*128^i:=SM (by omega) r;have B:128*(m+1)*128^i=128^i*128*(m+1):=by rw[Cp,<-Fl]
     omega
theorem AKW: ∀(b a:Nat),a<128^(b+1)->(Bt a).length<=b+1:=by
 intro b
 induction b with
 |zero=>intro a c;rw[Fq (by simpa using c)];simp
 |succ b e=>
  intro a c;by_cases d:a<128
  ·rw[Fq d];simp
  ·rw[ZZ d];have:=e (a / 128) (by rw[Nat.div_lt_iff_lt_mul (by decide),<-D0];exact c);simp;omega
theorem AZ {n:Nat}(a:n<18446744073709551616):(Bt n).length<=10:=by refine AKW 9 n (Fc a ?_);decide
theorem sC {l:List UInt8}{a:Nat}{t:List UInt8}(d:Qa 0 0 l=some (a,t)):l=Bt a++t/\a<18446744073709551616:=by obtain⟨m,b,e,c,_⟩:=AKo l 0 0 a t d;simp at b c;subst b;exact⟨e,c⟩
theorem AHj {a:Nat}(b:a<18446744073709551616)(t:List UInt8):Qa 0 0 (Bt a++t)=some (a,t):=by rw[iE t a 0 0 (by simpa using b) (.inl rfl)];simp
def mo(c:Nat):Nat:=if c % 2=1 then c / 2 ^^^ 3988292384 else c / 2
def oT:Nat->Nat->Nat
 |0,c=>c
 |k+1,c=>mo (oT k c)
def oU(c:Nat)(b:UInt8):Nat:=oT 8 (c ^^^ b.toNat)
def iF(l:List UInt8):Nat:=l.foldl oU 4294967295
def jT(l:List UInt8):Nat:=4294967295-iF l
theorem APR {c:Nat}(a:c<4294967296):mo c<4294967296:=by
 unfold mo;split
 ·exact Lq (n:=32) (by omega) (by decide)
 ·omega
theorem sD {c:Nat}(a:c<4294967296): ∀k,oT k c<4294967296
 |0=>a
 |k+1=>APR (sD a k)
theorem AUo {c:Nat}(a:c<4294967296)(b:UInt8):oU c b<4294967296:=by have d:b.toNat<256:=b.toNat_lt;exact sD (Lq (n:=32) a (by omega)) 8
theorem AQJ(l:List UInt8)(b:UInt8):iF (l++ [b])=oU (iF l) b:=by simp[iF]
theorem AOJ(l:List UInt8):iF l<4294967296:=by
 unfold iF
 suffices ∀(l:List UInt8) (c:Nat),c<4294967296->l.foldl oU c<4294967296 from this l _ (by decide)
 intro l
 induction l with
 |nil=>exact λc a=>a
 |cons x l b=>exact λc a=>b _ (AUo a x)
def Ue(a:Nat):List UInt8:= [Cu (a / 16777216 % 256),Cu (a / 65536 % 256),Cu (a / 256 % 256),Cu (a % 256)]
theorem NF(a:Nat):(Ue a).length=4:=rfl
def Iq(l:List UInt8):List UInt8:=Bt l.length++Ue (jT l)++l
def Qf(l:List UInt8):Nat×List UInt8×List UInt8:=
 match Qa 0 0 l with
 |none=>if l.length<10/\ ∀c∈l,128<=c.toNat then(20,[],[]) else(21,[],[])
 |some (a,b)=>
  if 1048576<a then(21,[],[]) else if b.length<4+a then(20,[],[])
  else if b.take 4=Ue (jT ((b.drop 4).take a)) then(0,(b.drop 4).take a,b.drop (4+a)) else(21,[],[])
theorem APQ {l:List UInt8}(d:l.length<=1048576)(t:List UInt8):Qf (Iq l++t)=(0,l,t):=by
 unfold Qf Iq;rw[A4,A4,AHj (by omega)];dsimp only;rw[if_neg (by omega),if_neg (by simp[NF])];have b:(Ue (jT l)++(l++t)).take 4=Ue (jT l):=by rw[Nx (by simp[NF])];exact AD (by simp[NF])
 have a:(Ue (jT l)++(l++t)).drop 4=l++t:=by rw[A0p (by simp[NF])];simp[Ue]
 have c:(l++t).take l.length=l:=by simp
 rw[b,a,c,if_pos rfl,<-HX,a];simp
structure Rd where
 rest:List UInt8
 bad:Bool
def Rd.fail:Rd:=⟨[],true⟩
def II(a:Rd):Nat×Rd:=if a.bad then(0,a) else match Qa 0 0 a.rest with|none=>(0,Rd.fail)|some (b,t)=>(b,⟨t,false⟩)
def CZ(b:Nat)(a:Rd):Nat×Rd:=if(II a).2.bad then(0,(II a).2) else if b<(II a).1 then(0,Rd.fail) else II a
def LP(b:Nat)(a:Rd):List UInt8×Rd:=if a.bad then([],a) else if a.rest.length<b then([],Rd.fail) else(a.rest.take b,⟨a.rest.drop b,false⟩)
def Gq(a:Rd):List UInt8×Rd:=if(II a).2.bad then([],(II a).2) else LP (II a).1 (II a).2
def fY(a:Rd):Bool:= !a.bad&&a.rest.isEmpty
def BX(l:List UInt8):List UInt8:=Bt l.length++l
theorem AKJ {a:Nat}(b:a<18446744073709551616)(t:List UInt8):II ⟨Bt a++t,false⟩=(a,⟨t,false⟩):=by simp[II,AHj b]
theorem De {n most:Nat}(a:n<18446744073709551616)(b:n<=most)(t:List UInt8):CZ most ⟨Bt n++t,false⟩=(n,⟨t,false⟩):=by simp only[CZ,AKJ a];simp;omega
theorem AG7(l t:List UInt8):LP l.length ⟨l++t,false⟩=(l,⟨t,false⟩):=by simp[LP];omega
theorem Iz {l:List UInt8}(a:l.length<18446744073709551616)(t:List UInt8):Gq ⟨BX l++t,false⟩=(l,⟨t,false⟩):=by simp only[Gq,BX,A4,AKJ a,AG7];simp
theorem AQp {a:Rd}(b:a.bad=true):II a=(0,a):=by simp[II,b]
theorem AG9 {r:Rd}(a:(II r).2.bad=false):r.bad=false/\r.rest=Bt (II r).1++(II r).2.rest/\(II r).1<18446744073709551616:=by
 unfold II at a ⊢;split at a
 ·rename_i b;rw[a] at b;cases b
 ·rename_i b;cases c:Qa 0 0 r.rest with
  |none=>rw[c] at a;cases a
  |some p=>
   obtain⟨f,t⟩:=p;obtain⟨d,e⟩:=sC c;simp only[b];exact⟨by simp,d,e⟩
theorem GD {a:Rd}{m:Nat}(b:(CZ m a).2.bad=false):a.bad=false/\a.rest=Bt (CZ m a).1++(CZ m a).2.rest/\(CZ m a).1<=m:=by
 unfold CZ at b ⊢;split at b
 ·rename_i c;rw[b] at c;cases c
 ·split at b
  ·cases b
  ·rename_i c d;rw[if_neg c,if_neg d];obtain⟨e,f,_⟩:=AG9 b;exact⟨e,f,by omega⟩
theorem AM9 {a:Rd}{b:Nat}(c:(LP b a).2.bad=false):a.bad=false/\a.rest=(LP b a).1++(LP b a).2.rest/\(LP b a).1.length=b:=by
 unfold LP at c ⊢;split at c
 ·rename_i d;rw[c] at d;cases d
 ·split at c
  ·cases c
  ·rename_i d e;rw[if_neg d,if_neg e];exact⟨by simpa using d,by simp,by simp;omega⟩
theorem TU {r:Rd}(b:(Gq r).2.bad=false):r.bad=false/\r.rest=BX (Gq r).1++(Gq r).2.rest:=by
 unfold Gq at b ⊢;split at b
 ·rename_i a;rw[b] at a;cases a
 ·rename_i a;rw[if_neg a];obtain⟨c,d,_⟩:=AG9 (r:=r) (by simpa using a);obtain⟨_,e,f⟩:=AM9 b;refine⟨c,?_⟩;rw[d,e,BX,A4];rw[f]
theorem VW(a:Rd):(II a).2.rest.length<=a.rest.length:=by
 unfold II;split
 ·exact A0 _
 ·split
  ·simp[Rd.fail]
  ·rename_i d t b;obtain⟨c,_⟩:=sC b;rw[c];simp
theorem Io(m:Nat)(a:Rd):(CZ m a).2.rest.length<=a.rest.length:=by
 unfold CZ;split
 ·exact VW a
 ·split
  ·simp[Rd.fail]
  ·exact VW a
theorem APW(b:Nat)(a:Rd):(LP b a).2.rest.length<=a.rest.length/\(LP b a).1.length<=a.rest.length:=by
 unfold LP;split
 ·simp
 ·split
  ·simp[Rd.fail]
  ·simp;omega
theorem Wu(a:Rd):(Gq a).2.rest.length<=a.rest.length/\(Gq a).1.length<=a.rest.length:=by
 unfold Gq;split
 ·exact⟨VW a,by simp⟩
 ·have:=APW (II a).1 (II a).2;have:=VW a;omega
def Ik:cr UInt8 where
 enc x:= [.int .u8 (x.toNat:Int)]
 w:=1
 len _:=rfl
 pos:=by omega
 one x v a:=by simp at a;subst a;rfl
theorem Cells.byte {b:aa}{a:Q6}{x:UInt8}(c:Cells b a (Ik.enc x)):af b a=some (.int .u8 (x.toNat:Int)):=by have d:=c 0 _ rfl;rwa [add_zero] at d
theorem AHF: ∀(l:List UInt8) (s:A2Y),(l.map λc=>(c.toNat:Int)).foldl (λa b=>a.push (UInt8.ofNat b.toNat)) s=⟨s.data++l.toArray⟩
 | [],s=>by simp
 |c::l,s=>by
  simp only[C5,Hk];rw[AHF l];simp[ByteArray.push,Array.append_assoc]
theorem NC {e:ao}{P:Q1}{g h i:Q7}(m:P.underlying g=some (.slice i))(n:P.underlying i=some (.int .u8))(hd:P.underlying h=some .string){b:aa}{s:Sl}{l:List UInt8}{K:A2X}
  (v:View Ik b s l) (o:K (.string (Ae l)) b):Ad e P (convert g h (.slice s.p s.len s.cap)) b K:=by
 have p:=v.len;refine λf=>⟨_,b,f,?_,o⟩
 rw[run_convert_bytes_string _ g h i _ s.len s.cap m n hd];cases j:s.p with
 |none=>
  have q:l= []:=by
   cases l with
   |nil=>rfl
   |cons c l=>
    obtain⟨a,d,_⟩:=v.cells 0 c rfl;rw[j] at d;cases d
  subst q;simp[Conv.bytesToString,Ae];rfl
 |some a=>
  have r:(loadCells a s.len).run P (e.at b f)= .ok ((l.map λc=>(c.toNat:Int)).map (Value.int .u8)).toArray (e.at b f):=by
   have:=run_loadCells_list (P:=P) (w:=e.at b f) a ((l.map λc=>(c.toNat:Int)).map (Value.int .u8)) (λt u k=>by
    simp only[B9,Option.map_map,A09] at k;obtain⟨c,x,rfl⟩:=k;obtain⟨z,d,y⟩:=v.cells t c x;rw[j] at d;cases d;have:=Cells.byte y;simp only[Ik,AN] at this;exact this)
   simpa [p] using this
  rw[run_bytesToString _ a s.len s.cap _ r,AHF];simp[Ae,ByteArray.empty,ByteArray.emptyWithCapacity];rfl
theorem dK(s:A2Y)(i a:Nat):s.extract i a=Ae ((s.data.toList.take a).drop i):=by apply Nd;rw[A0D,Ae];apply Array.toList_inj.1;simp[Array.toList_extract,List.extract_eq_take_drop,List.drop_take]
theorem AH8(s:A2Y):s.data.toList.length=s.size:=by rw[Ds];rfl
theorem AKV(s:A2Y)(i:Nat):s.extract i s.size=Ae (s.data.toList.drop i):=by rw[dK,AD (by rw[AH8];exact A0 _)]
theorem AQn(s:A2Y)(i:Nat):s.extract 0 i=Ae (s.data.toList.take i):=by rw[dK];simp
theorem wrap_u8(a:Nat):J8 .u8 (a:Int)=((a % 256:Nat):Int):=by simp[J8,IntKind.bits,IntKind.signed]
theorem AU9 {a b:Nat}(c:a<256)(d:b<256):dS .u8 (a:Int) (b:Int)=((a ||| b:Nat):Int):=by
 have e:a ||| b<2^8:=I2 (by simpa using c) (by simpa using d);unfold dS;have f:(BitVec.ofInt (IntKind.bits .u8) (a:Int) ||| BitVec.ofInt (IntKind.bits .u8) (b:Int)).toNat=a ||| b:=by show(BitVec.ofInt 8 (a:Int) ||| BitVec.ofInt 8 (b:Int)).toNat=a ||| b;rw[BitVec.ofInt_natCast,BitVec.ofInt_natCast,BitVec.toNat_or,BitVec.toNat_ofNat,BitVec.toNat_ofNat,As (by simpa using c),As (by simpa using d)]
 rw[f,wrap_u8,As (by simpa using e)]
theorem ASI {a b:Nat}(c:a<256)(d:b<256):Gw .u8 (a:Int) (b:Int)=((a &&& b:Nat):Int):=by
 have e:a &&& b<2^8:=Sf Nat.and_le_left (by simpa using c);unfold Gw;have f:(BitVec.ofInt (IntKind.bits .u8) (a:Int) &&& BitVec.ofInt (IntKind.bits .u8) (b:Int)).toNat=a &&& b:=by show(BitVec.ofInt 8 (a:Int) &&& BitVec.ofInt 8 (b:Int)).toNat=a &&& b;rw[BitVec.ofInt_natCast,BitVec.ofInt_natCast,BitVec.toNat_and,BitVec.toNat_ofNat,BitVec.toNat_ofNat,As (by simpa using c),As (by simpa using d)]
 rw[f,wrap_u8,As (by simpa using e)]
theorem AUR {a b:Nat}(c:a<4294967296)(d:b<4294967296):Gw .u32 (a:Int) (b:Int)=((a &&& b:Nat):Int):=by
 have e:a &&& b<2^32:=Sf Nat.and_le_left (by simpa using c);unfold Gw;have f:(BitVec.ofInt (IntKind.bits .u32) (a:Int) &&& BitVec.ofInt (IntKind.bits .u32) (b:Int)).toNat=a &&& b:=by show(BitVec.ofInt 32 (a:Int) &&& BitVec.ofInt 32 (b:Int)).toNat=a &&& b;rw[BitVec.ofInt_natCast,BitVec.ofInt_natCast,BitVec.toNat_and,BitVec.toNat_ofNat,BitVec.toNat_ofNat,As (by simpa using c),As (by simpa using d)]
 rw[f,wrap_u32,As (by simpa using e)]
theorem AXU: ∀x,x<256->x ||| 128=x % 128+128:=by decide +kernel
theorem AV7: ∀x,x<256->x &&& 127=x % 128:=by decide +kernel
theorem ATP(c:Nat):dS .u8 (J8 .u8 (c:Int)) (128:Int)=(((Cu (c % 128+128)).toNat:Nat):Int):=by have d:=AU9 (a:=c % 256) (b:=128) (BY _ (by decide)) (by decide);rw[wrap_u8];rw[show(128:Int)=((128:Nat):Int) from rfl,d,AXU _ (BY _ (by decide)),Dv (by omega)];congr 1;omega
theorem sE(i:Nat):2^(7*i)=128^i:=by rw[Nat.pow_mul]
theorem AT6 {a x i:Nat}(hi:i<=9)(c:a<128^i)(d:x<128):dS .u64 (a:Int) (((x*128^i % 18446744073709551616:Nat)):Int)=((a+x*128^i % 18446744073709551616:Nat):Int):=by
 have e:0<128^i:=SR (by decide);have f:=NJ hi;have g:(128:Nat)^9=9223372036854775808:=by decide
 rw[sv (by omega) (BY _ (by decide))];congr 1;have b: ∃q,(18446744073709551616:Nat)=128^i*q:=by
  have:i=0\/i=1\/i=2\/i=3\/i=4\/i=5\/i=6\/i=7\/i=8\/i=9:=by omega
  refine⟨18446744073709551616 / 128^i,?_⟩;rcases this with rfl|rfl|rfl|rfl|rfl|rfl|rfl|rfl|rfl|rfl<;>decide
 obtain⟨q,b⟩:=b;rw[b,Cp x,Nat.mul_mod_mul_left,<-sE,Nat.or_comm,Nat.add_comm];exact(A0H (by rw[sE];exact c) _).symm
theorem AWX {x i:Nat}(hi:i<=9)(b:x<128):J8 .u64 (((x:Nat):Int)*((2:Int)^(min ((7*i:Nat):Int).toNat (IntKind.bits .u64))))=((x*128^i % 18446744073709551616:Nat):Int):=by
 have a:min ((7*i:Nat):Int).toNat (IntKind.bits .u64)=7*i:=by have:IntKind.bits .u64=64:=rfl;omega
 rw[a,show((2:Int)^(7*i))=((2^(7*i):Nat):Int) by simp,sw,wrap_u64,sE]
theorem Mod.more {a d e:aa}{f:Nat->Prop}(x:Ext a d)(m:Mod f d e)(g: ∀b,f b->a.size<=b):Ext a e:=
 Mod.then x (m.ak λc _ h=> .inr (g c h))
abbrev bl(s:A2Y):List UInt8:=s.data.toList
theorem BF(s:A2Y):(bl s).length=s.size:=AH8 s
theorem Fg(l:List UInt8):bl (Ae l)=l:=CE l
theorem Qs(s:A2Y):Ae (bl s)=s:=Eh s
def Am(s:A2Y):Bool:=decide (1<=s.size/\s.size<=16/\ ∀c∈bl s,33<=c.toNat/\c.toNat<=126)
theorem Gt {s:A2Y}:Am s=true↔1<=s.size/\s.size<=16/\ ∀c∈bl s,33<=c.toNat/\c.toNat<=126:=by simp[Am]
structure bI where
 kind:Int
 name:A2Y
 aG:A2Y
 tries:Int
 az:Int
 wait:Int
def bI.cells(x:bI):Array J0:= #[J6 J9 x.kind,J7 x.name,J7 x.aG,J6 J9 x.tries,J6 J9 x.az,J6 J9 x.wait]
def TF:cr bI where
 enc x:= [J6 J9 x.kind,J7 x.name,J7 x.aG,J6 J9 x.tries,J6 J9 x.az,J6 J9 x.wait]
 w:=6
 len _:=rfl
 pos:=by omega
 one x v a:=by simp at a;rcases a with rfl|rfl|rfl|rfl|rfl|rfl<;>rfl
abbrev IQ:A2Y:=⟨#[]⟩
def bQ(a lo hi:Int):Bool:=decide (lo<=a/\a<=hi)
theorem Ba {a lo hi:Int}:bQ a lo hi=true↔lo<=a/\a<=hi:=by simp[bQ]
def OA(x:bI):Bool:=
 if x.kind=1 then((decide (x.aG=IQ)&&decide (x.az=0))||(Am x.aG&&bQ x.az 1 5))&&Am x.name&&bQ x.tries 1 5&&decide (x.wait=0)
 else if x.kind=2 then decide (x.name=IQ)&&decide (x.aG=IQ)&&decide (x.tries=0)&&decide (x.az=0)&&bQ x.wait 1 1000
 else if x.kind=3 then decide (x.aG=IQ)&&decide (x.tries=0)&&decide (x.az=0)&&decide (x.wait=0)&&Am x.name
 else false
structure bL where
 steps:List bI
 au:Int
def GJ(p:bL):Bool:=decide (p.steps.length<=16)&&bQ p.au 0 16000&&p.steps.all OA
def Hy(x:bI):List UInt8:=Bt x.kind.toNat++
 (if x.kind=1 then BX (bl x.name)++Bt x.tries.toNat++BX (bl x.aG)++Bt x.az.toNat else if x.kind=2 then Bt x.wait.toNat else BX (bl x.name))
def Ce(p:bL):List UInt8:=Bt p.au.toNat++Bt p.steps.length++p.steps.flatMap Hy
def Nj(g e h:Nat)(all:Bool)(i:Rd):bI×Rd:=
 let d:=CZ g i
 if d.1=1 then
  let a:=Gq d.2
  let b:=CZ e a.2
  let c:=Gq b.2
  let f:=CZ e c.2
  (⟨1,Ae a.1,Ae c.1,b.1,f.1,0⟩,f.2)
 else if d.1=2 then
  let a:=CZ h d.2
  (⟨2,IQ,IQ,0,0,a.1⟩,a.2)
 else if d.1=3\/all=true then
  let a:=Gq d.2
  (⟨d.1,Ae a.1,IQ,0,0,0⟩,a.2)
 else(⟨d.1,IQ,IQ,0,0,0⟩,d.2)
def IV(b c d:Nat)(all:Bool):Nat->Rd->List bI×Rd
 |0,a=>([],a)
 |n+1,a=>let x:=Nj b c d all a;let e:=IV b c d all n x.2;(x.1::e.1,e.2)
def iz(c d e f:Nat)(all:Bool)(l:List UInt8):bL×Rd:=
 let a:=CZ c ⟨l,false⟩
 let b:=CZ 16 a.2
 let s:=IV d e f all b.1 b.2
 (⟨s.1,a.1⟩,s.2)
def Ji(l:List UInt8):Option bL:=let x:=iz 16000 3 5 1000 false l;if fY x.2&&GJ x.1 then some x.1 else none
theorem yG {a:Rd}:fY a=true↔a=⟨[],false⟩:=by obtain⟨l,b⟩:=a;cases b<;>cases l<;>simp[fY]
theorem AR8 {a lo hi:Int}(b:bQ a lo hi=true)(c:0<=lo):((a.toNat:Nat):Int)=a:=by rw[Ba] at b;omega
theorem APV {c f h:Nat}{all:Bool}(p:3<=c)(E:5<=f)(F:1000<=h){x:bI}(a:OA x=true)(t:List UInt8):Nj c f h all ⟨Hy x++t,false⟩=(x,⟨t,false⟩):=by
 obtain⟨G,name,o,q,i,r⟩:=x;have j: ∀ {s:A2Y},s.size<=16->(bl s).length<18446744073709551616:=λg=>by rw[BF];omega
 have k: ∀ {s:A2Y},Am s=true->s.size<=16:=λg=>(Gt.1 g).2.1
 unfold OA at a;split at a
 ·rename_i b;simp only at b;subst b;simp only[A3,CI,decide_eq_true_eq] at a;obtain⟨⟨⟨u,m⟩,v⟩,rfl⟩:=a;have w:o.size<=16/\0<=i/\i<=5:=by
   rcases u with⟨rfl,rfl⟩|⟨g,y⟩
   ·exact⟨by decide,by omega,by omega⟩
   ·rw[Ba] at y;exact⟨k g,by omega,by omega⟩
  rw[Ba] at v;have d:=De (n:=(1:Int).toNat) (most:=c) (by decide) (by simpa using(by omega:1<=c));have e:=Iz (l:=bl name) (j (k m));have z:=De (n:=q.toNat) (most:=f) (by omega) (by omega);have A:=Iz (l:=bl o) (j w.1);have B:=De (n:=i.toNat) (most:=f) (by omega) (by omega);simp only[Nj,Hy,if_true,A4,d,e,z,A,B];rw[if_pos (by decide)];simp[Eh];omega
 ·split at a
  ·rename_i C b;simp only at b;subst b;simp only[A3,decide_eq_true_eq] at a;obtain⟨⟨⟨⟨rfl,rfl⟩,rfl⟩,rfl⟩,D⟩:=a;rw[Ba] at D;have d:=De (n:=(2:Int).toNat) (most:=c) (by decide) (by simpa using(by omega:2<=c));have e:=De (n:=r.toNat) (most:=h) (by omega) (by omega);simp only[Nj,Hy,if_true,A4,d];rw[if_neg (by decide),if_pos (by decide),if_neg (by decide),e];simp;omega
  ·split at a
   ·rename_i C H b;simp only at b;subst b;simp only[A3,decide_eq_true_eq] at a;obtain⟨⟨⟨⟨rfl,rfl⟩,rfl⟩,rfl⟩,m⟩:=a;have d:=De (n:=(3:Int).toNat) (most:=c) (by decide) (by simpa using p);have e:=Iz (l:=bl name) (j (k m));simp only[Nj,Hy,if_true,A4,d];rw[if_neg (by decide),if_neg (by decide),if_pos (.inl (by decide)),if_neg (by decide),if_neg (by decide),e];simp[Eh]
   ·cases a
theorem yH {b c d:Nat}{all:Bool}(e:3<=b)(f:5<=c)(g:1000<=d)(t:List UInt8): ∀ {l:List bI},l.all OA=true->IV b c d all l.length ⟨l.flatMap Hy++t,false⟩=(l,⟨t,false⟩)
 | [],_=>rfl
 |x::l,a=>by
  simp only[N5,A3] at a;simp only[An,IV,AM,A4,APV e f g a.1,yH e f g t a.2]
theorem AO6 {a b c d:Nat}{all:Bool}(s:16000<=a)(h:3<=b)(i:5<=c)(j:1000<=d){p:bL}(e:GJ p=true):iz a b c d all (Ce p)=(p,⟨[],false⟩):=by obtain⟨l,k⟩:=p;simp only[GJ,A3,decide_eq_true_eq] at e;obtain⟨⟨m,f⟩,o⟩:=e;have t:=Ba.1 f;have q:=De (n:=k.toNat) (most:=a) (by omega) (by omega);have r:=De (n:=l.length) (most:=16) (by omega) m;have g:=yH (all:=all) h i j [] o;rw[AI] at g;simp only[iz,Ce,A4,q,r,g,AR8 f (by decide)]
theorem yI {p:bL}(a:GJ p=true):Ji (Ce p)=some p:=by simp only[Ji,AO6 (A0 _) (A0 _) (A0 _) (A0 _) a,a];rfl
theorem AM2 {j k l:Nat}{all:Bool}{e:Rd}(a:(Nj j k l all e).2.bad=false):e.bad=false/\(OA (Nj j k l all e).1=true->e.rest=Hy (Nj j k l all e).1++(Nj j k l all e).2.rest):=by
 unfold Nj at a ⊢;simp only at a ⊢;split at a
 ·rename_i b;obtain⟨n,o,_⟩:=GD a;obtain⟨p,q⟩:=TU n;obtain⟨r,s,_⟩:=GD p;obtain⟨g,h⟩:=TU r;obtain⟨c,f,_⟩:=GD g;refine⟨c,λ_=>?_⟩;rw[if_pos b];simp only[Hy,if_true,Fg,A6];rw[f,b,h,s,q,o];simp[A4]
 ·split at a
  ·rename_i i b;obtain⟨g,h,_⟩:=GD a;obtain⟨c,f,_⟩:=GD g;refine⟨c,λ_=>?_⟩;rw[if_neg i,if_pos b];simp only[Hy,A6];rw[if_neg (by decide),if_pos trivial,f,b,h];simp[A4]
  ·split at a
   ·rename_i i m b;obtain⟨g,h⟩:=TU a;obtain⟨c,f,_⟩:=GD g;refine⟨c,λd=>?_⟩;rw[if_neg i,if_neg m,if_pos b] at d ⊢;simp only[Hy,Fg,A6];rw[if_neg (by omega),if_neg (by omega),f,h];simp[A4]
   ·rename_i i m b;obtain⟨c,f,_⟩:=GD a;refine⟨c,λd=>?_⟩;rw[if_neg i,if_neg m,if_neg b] at d;exfalso;unfold OA at d;simp only at d;rw[if_neg (by omega),if_neg (by omega),if_neg (by omega)] at d;cases d
theorem yJ {b c d:Nat}{all:Bool}: ∀(n:Nat) {a:Rd},(IV b c d all n a).2.bad=false->a.bad=false/\(IV b c d all n a).1.length=n/\((IV b c d all n a).1.all OA=true->a.rest=(IV b c d all n a).1.flatMap Hy++(IV b c d all n a).2.rest)
 |0,a,e=>⟨e,rfl,λ_=>rfl⟩
 |n+1,a,e=>by
  simp only[IV] at e ⊢;obtain⟨g,h,i⟩:=yJ n e;obtain⟨j,k⟩:=AM2 g;refine⟨j,by simp[h],λf=>?_⟩;simp only[N5,A3] at f;rw[k f.1,i f.2];simp[A4]
theorem yK {l:List UInt8}{p:bL}(a:Ji l=some p):GJ p=true/\Ce p=l:=by
 unfold Ji at a;simp only at a;split at a
 ·rename_i f;simp only[A3] at f;obtain⟨d,b⟩:=f;obtain rfl:=Bk a;refine⟨b,?_⟩;rw[yG] at d;have g:(iz 16000 3 5 1000 false l).2.bad=false:=by rw[d]
  have h:(iz 16000 3 5 1000 false l).2.rest= []:=by rw[d]
  simp only[iz] at g h b ⊢;obtain⟨i,j,c⟩:=yJ _ g;obtain⟨k,m,_⟩:=GD i;obtain⟨n,e,_⟩:=GD k;simp only[GJ,A3] at b;have c:=c b.2;rw[h,AI] at c;simp only[Ce,A6,j];have e:l=Bt (CZ 16000 ⟨l,false⟩).1++(CZ 16000 ⟨l,false⟩).2.rest:=e;rw[<- c,A4,<-m,<-e]
 ·cases a
inductive Fv where
 |i (n:Int)
 |s (x:A2Y)
 |b (x:Bool)
 deriving DecidableEq
def Fv.v:Fv->J0
 | .i a=>J6 J9 a
 | .s x=>J7 x
 | .b x=>J3 x
def Fv.ok(P:Q1)(t:Q7):Fv->Bool
 | .i _=>match P.underlying t with|some (.int J9)=>true|_=>false
 | .s _=>match P.underlying t with|some .string=>true|_=>false
 | .b _=>match P.underlying t with|some .bool=>true|_=>false
def rF:Fv->Fv->Bool
 | .i _,.i _=>true
 | .s _,.s _=>true
 | .b _,.b _=>true
 |_,_=>false
def kK(P:Q1):Nat->List Field->List Fv->Bool
 |_,[],[]=>true
 |i,f::a,x::b=> !(f.name==String.ofList [Char.ofNat 95])&&Nat.beq f.offset i&&x.ok P f.type&&kK P (i+1) a b
 |_,_,_=>false
def cD:List Fv->List Fv->Bool
 | [],[]=>true
 |x::a,b::c=>rF x b&&cD a c
 |_,_=>false
theorem AUN {P:Q1}{e:Nat}{t:Q7}{x f:Fv}(g:x.ok P t=true)(h:rF x f=true)(c:World):(Op.equalIn (e+1) t x.v f.v).run P c= .ok (decide (x=f)) c:=by
 cases x<;>cases f<;>simp only[rF,BW] at h<;>simp only[Fv.ok] at g<;>split at g<;>(try cases g)
 ·rename_i i m _ d;simp only[Fv.v];rw[run_equalIn_int c e t J9 J9 i m d];simp only[Fv.i.injEq];rfl
 ·rename_i a b _ d;simp only[Fv.v];rw[run_equalIn_string c e t a b d,toList_inj];simp only[Fv.s.injEq]
 ·rename_i a b _ d;simp only[Fv.v];rw[run_equalIn_bool' c e t a b d];simp only[Fv.b.injEq];cases a<;>cases b<;>rfl
theorem Fv.plain {P:Q1}{t:Q7}{x:Fv}(a:x.ok P t=true):P.plainKey t=true:=by cases x<;>simp only[Fv.ok] at a<;>split at a<;>(try cases a)<;>(rename_i b;simp[Program.plainKey,b])
theorem yL {P:Q1}{t:Nat}(e g:List Fv)(c:World): ∀(h:List Field) (a b:List Fv) (i:Nat),e.drop i=a->g.drop i=b->kK P i h a=true->cD a b=true->
  (Op.eqFields (t+1) (e.map Fv.v).toArray (g.map Fv.v).toArray h).run P c= .ok (decide (a=b)) c:=by
 intro h
 induction h with
 |nil=>
  intro a b i m n j d;cases a with
  |nil=>
   cases b with
   |nil=>simp[Op.eqFields]
   |cons k b=>simp[cD] at d
  |cons x a=>simp[kK] at j
 |cons f h u=>
  intro a b i m n j d;cases a with
  |nil=>simp[kK] at j
  |cons x a=>
   cases b with
   |nil=>simp[cD] at d
   |cons k b=>
    simp only[kK,cD,A3,Nat.beq_eq] at j d;obtain⟨⟨⟨p,q⟩,o⟩,v⟩:=j;have w:e[i]? =some x:=by have:=congrArg (λl:List Fv=>l[0]?) m;simpa [By] using this
    have y:g[i]? =some k:=by have:=congrArg (λl:List Fv=>l[0]?) n;simpa [By] using this
    have z:e.drop (i+1)=a:=by rw[<- HX,m];rfl
    have A:g.drop (i+1)=b:=by rw[<- HX,n];rfl
    have B:(part f.type (e.map Fv.v).toArray f.offset).run P c= .ok x.v c:=run_part_plain c (Fv.plain o) (by rw[q];simp[w]);have C:(part f.type (g.map Fv.v).toArray f.offset).run P c= .ok k.v c:=run_part_plain c (Fv.plain o) (by rw[q];simp[y]);have D:=u a b (i+1) z A v d.2
    have E : String.ofList [Char.ofNat 95] = "_" := by decide
    rw[E] at p
    have r : (f.name == "_") = false := by simpa using p
    simp only[Op.eqFields,r,Sem.run_bind,Sem.run_ite,B,C,Result.andThen_ok,AUN o d.1];by_cases s:x=k
    ·simp[s,D,Result.andThen]
    ·have F : f.name ≠ "_" := by simpa using r
     simp[s,Result.andThen,F]
def kL(P:Q1)(t:Q7)(a:List Fv):Bool:= !P.stoodInHeld t&& !P.eqGuardType P.depth t&&kK P 0 (P.fieldsOf t).toList a
theorem yM {e:ao}{P:Q1}{t:Q7}{f g:Operand}{xs ys:List Fv}(h:P.underlying t=some (.struct (P.fieldsOf t)))(a:kL P t xs=true)(i:cD xs ys=true){b c:Array J0}
  (j:b=(xs.map Fv.v).toArray) (k:c=(ys.map Fv.v).toArray) {d:aa} {K:A2X} (l:K (J3 (decide (xs=ys))) d):
  Ad e P (do eqGuard .eql t f g (.agg b) (.agg c);binOp .eql t (.agg b) (.agg c)) d K:=by
 simp only[kL,A3,Cd] at a;subst j;subst k;refine λm=>⟨_,d,m,?_,l⟩
 rw[Sem.run_bind,run_eqGuard_agg _ _ _ _ _ _ _ a.1.2,Result.andThen_ok,run_eql_struct,run_equalIn_agg _ _ _ _ _ h a.1.1,yL xs ys _ _ xs ys 0 rfl rfl a.2 i];rfl
theorem AUs {e:ao}{P:Q1}{t:Q7}{f g:Operand}{xs ys:List Fv}(h:P.underlying t=some (.struct (P.fieldsOf t)))(a:kL P t xs=true)(i:cD xs ys=true){b c:Array J0}
  (j:b=(xs.map Fv.v).toArray) (k:c=(ys.map Fv.v).toArray) {d:aa} {K:A2X} (l:K (J3 (!decide (xs=ys))) d):
  Ad e P (do eqGuard .neq t f g (.agg b) (.agg c);binOp .neq t (.agg b) (.agg c)) d K:=by
 simp only[kL,A3,Cd] at a;subst j;subst k;refine λm=>⟨_,d,m,?_,l⟩
 rw[Sem.run_bind,run_eqGuard_agg _ _ _ _ _ _ _ a.1.2,Result.andThen_ok,run_neq_struct,run_equalIn_agg _ _ _ _ _ h a.1.1,yL xs ys _ _ xs ys 0 rfl rfl a.2 i];rfl
theorem ae.two {a:aa}{b:Nat}{T:Q7}{f g d v1:J0}{K:aa->Prop}(h:a[b]? =some (J2 #[f,g] T (0,0)))
  (i: ∀c,c[b]? =some (J2 #[d,v1] T (0,0))->Mod (· =b) a c->c.size=a.size->K c):
  ae a ⟨b,0,none⟩ d λe=>ae e ((⟨b,0,none⟩:Q6).add 1) v1 K:=by
 refine ae.mk h (by simp) λe j k o=>?_
 rw[Bp];refine ae.mk j (by simp) λl m n p=>i l (by simpa using m) (k.trans n) (by omega)
theorem ae.pw {a:aa}{b:Nat}{T:Q7}{m n o p q r d v1 v2 e f g:J0}{K:aa->Prop}(s:a[b]? =some (J2 #[m,n,o,p,q,r] T (0,0)))
  (t: ∀c,c[b]? =some (J2 #[d,v1,v2,e,f,g] T (0,0))->Mod (· =b) a c->c.size=a.size->K c):
  ae a ⟨b,0,none⟩ d λh=>ae h ((⟨b,0,none⟩:Q6).add 1) v1 λi=>ae i ((⟨b,0,none⟩:Q6).add 2) v2 λj=>ae j ((⟨b,0,none⟩:Q6).add 3) e λk=>ae k ((⟨b,0,none⟩:Q6).add 4) f λl=>
   ae l ((⟨b,0,none⟩:Q6).add 5) g K:=by
 refine ae.mk s (by simp) λh u v H=>?_
 rw[Bp,Bp,Bp,Bp,Bp];refine ae.mk u (by simp) λi w x I=>?_
 refine ae.mk w (by simp) λj y z J=>?_
 refine ae.mk y (by simp) λk A B L=>?_
 refine ae.mk A (by simp) λl C D M=>?_
 refine ae.mk C (by simp) λE F G N=>t E (by simpa using F) (((((v.trans x).trans z).trans B).trans D).trans G) (by omega)
theorem ae.eight {a:aa}{b:Nat}{T:Q7}{q r s t u v w x d v1 v2 e f g h i:J0}{K:aa->Prop}(y:a[b]? =some (J2 #[q,r,s,t,u,v,w,x] T (0,0)))
  (z: ∀c,c[b]? =some (J2 #[d,v1,v2,e,f,g,h,i] T (0,0))->Mod (· =b) a c->c.size=a.size->K c):
  ae a ⟨b,0,none⟩ d λj=>ae j ((⟨b,0,none⟩:Q6).add 1) v1 λk=>ae k ((⟨b,0,none⟩:Q6).add 2) v2 λl=>ae l ((⟨b,0,none⟩:Q6).add 3) e λm=>ae m ((⟨b,0,none⟩:Q6).add 4) f λn=>
   ae n ((⟨b,0,none⟩:Q6).add 5) g λo=>ae o ((⟨b,0,none⟩:Q6).add 6) h λp=>ae p ((⟨b,0,none⟩:Q6).add 7) i K:=by
 refine ae.mk y (by simp) λj A B S=>?_
 rw[Bp,Bp,Bp,Bp,Bp,Bp,Bp];refine ae.mk A (by simp) λk C D U=>?_
 refine ae.mk C (by simp) λl E F V=>?_
 refine ae.mk E (by simp) λm G H W=>?_
 refine ae.mk G (by simp) λn I J X=>?_
 refine ae.mk I (by simp) λo L M Y=>?_
 refine ae.mk L (by simp) λp N O Z=>?_
 refine ae.mk N (by simp) λP Q R ab=>z P (by simpa using Q) (((((((B.trans D).trans F).trans H).trans J).trans M).trans O).trans R) (by omega)
theorem ae.bE {a:aa}{b j:Nat}{v:J0}{d dm:Array J0}{T:Q7}{K:aa->Prop}(e:a[b]? =some (J2 d T (0,0)))(f:j<d.size)(g:d.setIfInBounds j v=dm)
  (h: ∀c,c[b]? =some (J2 dm T (0,0))->Mod (· =b) a c->c.size=a.size->K c):ae a ((⟨b,0,none⟩:Q6).add j) v K:=by
 rw[Bp,AF];exact ae.mk e f λi k=>h i (by rw[<- g];exact k)
structure Ev where
 id:Int
 kind:Int
 tick:Int
 ref:Int
 step:Int
 turn:Int
 aG:Bool
 data:A2Y
def dd:cr Ev where
 enc x:= [J6 J9 x.id,J6 J9 x.kind,J6 J9 x.tick,J6 J9 x.ref,J6 J9 x.step,J6 J9 x.turn,J3 x.aG,J7 x.data]
 w:=8
 len _:=rfl
 pos:=by omega
 one x v a:=by simp at a;rcases a with rfl|rfl|rfl|rfl|rfl|rfl|rfl|rfl<;>rfl
def Ev.fv(x:Ev):List Fv:= [.i x.id,.i x.kind,.i x.tick,.i x.ref,.i x.step,.i x.turn,.b x.aG,.s x.data]
theorem Ev.js {x a:Ev}:x.fv=a.fv↔x=a:=by cases x;cases a;simp[Ev.fv]
instance:DecidableEq Ev:=λx y=>decidable_of_iff (x.fv=y.fv) Ev.js
def cP(a:Int):Bool:=decide (a=3\/a=4\/a=5\/a=11\/a=7\/a=8\/a=9)
def da(a:Int):Bool:=decide (a=6\/a=10)
def dq(a:Int):Bool:=decide (a=7\/a=8\/a=9)
def dJ(a:Int):Bool:=decide (a=6)
def dO(a:Int):Bool:=decide (a=1\/a=12)
def cQ(f:Bool)(a lo hi:Int):Bool:=if f then bQ a lo hi else decide (a=0)
def Eu(a:Ev):Bool:=bQ a.kind 1 18&&bQ a.id 1 500&&bQ a.tick 0 1099511627776&&cQ (cP a.kind) a.ref 1 (a.id-1)&&cQ (da a.kind) a.step 0 15&&cQ (dq a.kind) a.turn 1 5&&
 (!a.aG||dJ a.kind)&&(decide (a.data=IQ)||dO a.kind)
def Kr(a:Ev):Bool:=if a.kind=1 then(Ji (bl a.data)).isSome else if a.kind=12 then Am a.data else true
def Er(a:Ev):Bool:=Eu a&&Kr a
def Ur(f:Bool)(a:Int):List UInt8:=if f then Bt a.toNat else []
def gM(f:Bool)(s:A2Y):List UInt8:=if f then BX (bl s) else []
def Om(a:Ev):List UInt8:=Bt a.id.toNat++(Bt a.kind.toNat++(Bt a.tick.toNat++(Ur (cP a.kind) a.ref++(Ur (da a.kind) a.step++(Ur (dq a.kind) a.turn++(Ur (dJ a.kind) (if a.aG then 1 else 0)++gM (dO a.kind) a.data))))))
structure jN where
 id:Nat
 kind:Nat
 tick:Nat
 ref:Nat
 step:Nat
 turn:Nat
def jN.wide(b:jN):Prop:=500<=b.id/\18<=b.kind/\1099511627776<=b.tick/\500<=b.ref/\15<=b.step/\5<=b.turn
def fi:jN:=⟨500,18,1099511627776,500,15,5⟩
def FD(f:Bool)(m:Nat)(a:Rd):Nat×Rd:=if f then CZ m a else(0,a)
def VY(f:Bool)(a:Rd):List UInt8×Rd:=if f then Gq a else([],a)
def Ra(b:jN)(f:Rd):Ev×Rd:=
 let i:=CZ b.id f
 let c:=CZ b.kind i.2
 let t:=CZ b.tick c.2
 let a:=FD (cP c.1) b.ref t.2
 let s:=FD (da c.1) b.step a.2
 let d:=FD (dq c.1) b.turn s.2
 let u:=FD (dJ c.1) 1 d.2
 let e:=VY (dO c.1) u.2
 (⟨i.1,c.1,t.1,a.1,s.1,d.1,decide (u.1=1),Ae e.1⟩,e.2)
def jO(l:List UInt8):Option Ev:=let x:=Ra fi ⟨l,false⟩;if fY x.2&&Er x.1 then some x.1 else none
theorem oA {f:Bool}{n:Int}{m:Nat}(a:cQ f n 0 m=true)(b:m<18446744073709551616)(t:List UInt8):FD f m ⟨Ur f n++t,false⟩=(n.toNat,⟨t,false⟩):=by
 cases f with
 |false=>simp[cQ] at a;subst a;rfl
 |true=>
  simp only[cQ,if_true,Ba] at a;simp only[FD,Ur,if_true];exact De (by omega) (by omega) t
theorem rG {f:Bool}{a lo hi b c:Int}(d:cQ f a lo hi=true)(e:b<=lo)(g:hi<=c):cQ f a b c=true:=by
 cases f with
 |false=>exact d
 |true=>simp only[cQ,if_true,Ba] at d ⊢;omega
theorem rH {f:Bool}{a lo hi:Int}(b:cQ f a lo hi=true)(c:0<=lo):((a.toNat:Nat):Int)=a:=by
 cases f with
 |false=>simp[cQ] at b;subst b;rfl
 |true=>simp only[cQ,if_true,Ba] at b;omega
theorem ASd {f:Bool}{s:A2Y}(a:(decide (s=IQ)||f)=true)(b:s.size<18446744073709551616)(t:List UInt8):VY f ⟨gM f s++t,false⟩=(bl s,⟨t,false⟩):=by
 cases f with
 |false=>simp at a;subst a;rfl
 |true=>
  simp only[VY,gM,if_true];exact Iz (by rw[BF];exact b) t
theorem NB {a:Ev}(b:Er a=true):Eu a=true:=by simp only[Er,A3] at b;exact b.1
theorem ATC {b:jN}(k:b.wide)(hi:b.ref<18446744073709551616/\b.step<18446744073709551616/\b.turn<18446744073709551616){c:Ev}(e:Eu c=true)(hd:c.data.size<18446744073709551616)(t:List UInt8):Ra b ⟨Om c++t,false⟩=(c,⟨t,false⟩):=by
 obtain⟨id,a,tick,l,step,turn,d,o⟩:=c;simp only[Eu,A3] at e;obtain⟨⟨⟨⟨⟨⟨⟨p,q⟩,r⟩,g⟩,h⟩,i⟩,j⟩,u⟩:=e;obtain⟨L,M,N,O,P,Q⟩:=k;have R:=Ba.1 p;have S:=Ba.1 q;have T:=Ba.1 r;have v:=De (n:=id.toNat) (most:=b.id) (by omega) (by omega);have w:=De (n:=a.toNat) (most:=b.kind) (by omega) (by omega);have x:=De (n:=tick.toNat) (most:=b.tick) (by omega) (by omega);have y:((a.toNat:Nat):Int)=a:=by omega
 have z:=oA (f:=cP a) (n:=l) (m:=b.ref) (rG g (by omega) (by omega)) hi.1;have A:=oA (f:=da a) (n:=step) (m:=b.step) (rG h (by omega) (by omega)) hi.2.1;have B:=oA (f:=dq a) (n:=turn) (m:=b.turn) (rG i (by omega) (by omega)) hi.2.2;have C:=oA (f:=dJ a) (n:=if d then 1 else 0) (m:=1) (by
  cases D:dJ a with
  |true=>simp only[cQ,if_true,Ba];split<;>omega
  |false=>rw[D] at j;cases d<;>simp[cQ] at j ⊢) (by decide)
 have E:=ASd (f:=dO a) (s:=o) u hd;simp only[Ra,Om,A4,v,w,x,y,z,A,B,C,E];have F:decide ((if d=true then(1:Int) else 0).toNat=1)=d:=by cases d<;>rfl
 have G:=rH g (by decide);have H:=rH h (by decide);have I:=rH i (by decide);have J:((id.toNat:Nat):Int)=id:=by omega
 have K:((tick.toNat:Nat):Int)=tick:=by omega
 rw[F,G,H,I,J,K,Eh]
theorem Wm {f:Bool}{m:Nat}{a:Rd}(b:(FD f m a).2.bad=false):a.bad=false/\a.rest=Ur f (FD f m a).1++(FD f m a).2.rest/\(FD f m a).1<=m:=by
 cases f with
 |false=>exact⟨b,rfl,A5 _⟩
 |true=>
  simp only[FD,Ur,if_true,A6] at b ⊢;exact GD b
theorem AQL {f:Bool}{a:Rd}(b:(VY f a).2.bad=false):a.bad=false/\a.rest=gM f (Ae (VY f a).1)++(VY f a).2.rest:=by
 cases f with
 |false=>exact⟨b,rfl⟩
 |true=>
  simp only[VY,gM,if_true,Fg] at b ⊢;exact TU b
theorem APD {b:jN}{r:Rd}(c:(Ra b r).2.bad=false):r.bad=false/\r.rest=Om (Ra b r).1++(Ra b r).2.rest:=by
 simp only[Ra] at c ⊢;obtain⟨d,e⟩:=AQL c;obtain⟨f,g,h⟩:=Wm d;obtain⟨i,j,_⟩:=Wm f;obtain⟨k,l,_⟩:=Wm i;obtain⟨m,n,_⟩:=Wm k;obtain⟨o,p,_⟩:=GD m;obtain⟨q,s,_⟩:=GD o;obtain⟨t,u,_⟩:=GD q;refine⟨t,?_⟩;simp only[Om,A4,A6];rw[<- e];have v: ∀a:Nat,a<=1->(if decide (a=1)=true then(1:Int) else 0)=(a:Int):=λa w=>by
  have:a=0\/a=1:=by omega
  rcases this with rfl|rfl<;>rfl
 rw[v _ h,<-g,<-j,<-l,<-n,<-p,<-s,<-u]
theorem ALy {l:List UInt8}{c:Ev}(a:jO l=some c):Er c=true/\Om c=l:=by
 unfold jO at a;simp only at a;split at a
 ·rename_i e;simp only[A3] at e;obtain⟨d,g⟩:=e;obtain rfl:=Bk a;refine⟨g,?_⟩;rw[yG] at d;obtain⟨_,f⟩:=APD (b:=fi) (r:=⟨l,false⟩) (by rw[d]);rw[d] at f;simpa using f.symm
 ·cases a
theorem AQy:fi.wide:=⟨A0 _,A0 _,A0 _,A0 _,A0 _,A0 _⟩
theorem AMe {a:Ev}(c:Eu a=true):a.data.size<=(Om a).length:=by
 simp only[Eu,A3] at c;have b:=c.2;cases d:dO a.kind with
 |false=>
  rw[d] at b;simp at b;rw[b];exact A5 _
 |true=>
  simp only[Om,gM,d,if_true,BX,A1,BF];omega
theorem APU {l:List UInt8}{a:Ev}(e:l.length<18446744073709551616):jO l=some a↔Er a=true/\Om a=l:=by refine⟨ALy,λ⟨b,c⟩=>?_⟩;have d:=AMe (NB b);have:=ATC AQy ⟨by decide,by decide,by decide⟩ (NB b) (by rw[c] at d;omega) [];rw[AI,c] at this;unfold jO;simp only[this,b];rfl
structure Jb where
 id:Int
 step:Int
 aG:Bool
 turn:Int
def eT:cr Jb where
 enc x:= [J6 J9 x.id,J6 J9 x.step,J3 x.aG,J6 J9 x.turn]
 w:=4
 len _:=rfl
 pos:=by omega
 one x v a:=by simp at a;rcases a with rfl|rfl|rfl|rfl<;>rfl
structure Ck where
 id:Int
 step:Int
 tick:Int
def fU:cr Ck where
 enc x:= [J6 J9 x.id,J6 J9 x.step,J6 J9 x.tick]
 w:=3
 len _:=rfl
 pos:=by omega
 one x v a:=by simp at a;rcases a with rfl|rfl|rfl<;>rfl
structure aW where
 prog:bL
 status:Int
 next:Int
 aO:Int
 asked:Int
 taken:Int
 fresh:Bool
 aw:List Jb
 aq:List Ck
 cancel:Bool
 aL:Bool
def TM:aW:=⟨⟨[],0⟩,0,0,0,0,0,false,[],[],false,false⟩
def stepOf(p:bL)(a b:Int):Option bI:=if 0<=a then(p.steps[a.toNat]?).bind λx=>if x.kind=b then some x else none else none
def Jq(p:bL)(a:Jb):Int:=match stepOf p a.step 1 with
 |none=>0
 |some x=>if a.aG then x.az else x.tries
def lU(s:aW)(b turn:Int):Option Nat:=s.aw.findIdx? λa=>decide (a.id=b)&&decide (a.turn=turn)
def EC(s:aW)(a:Ev):Option aW:=
 if a.kind=2 then(if s.asked=0/\s.taken=0/\s.fresh=true then some {s with asked:=a.id} else none)
 else if a.kind=3 then(if s.asked=a.ref then some {s with asked:=0,taken:=a.id,fresh:=false} else none)
 else if a.kind=4 then(if s.taken=a.ref then some {s with taken:=0} else none)
 else(if s.taken=a.ref then some {s with taken:=0,fresh:=true} else none)
def Mj(s:aW)(a:Ev):Option aW:=
 if a.kind=6 then(stepOf s.prog a.step 1).bind λx=>if a.aG=true/\x.aG=IQ then none else some {s with aw:=s.aw++ [⟨a.id,a.step,a.aG,1⟩]}
 else(lU s a.ref a.turn).bind λi=>(s.aw[i]?).bind λb=>
  if a.kind=8 then(if a.turn=Jq s.prog b then none else some {s with aw:=s.aw.set i {b with turn:=b.turn+1}})
  else if a.kind=7\/a.turn=Jq s.prog b then some {s with aw:=s.aw.eraseIdx i,fresh:=true} else none
def Kq(s:aW)(a:Ev):Option aW:=
 if a.kind=10 then(stepOf s.prog a.step 2).map λx=> {s with aq:=s.aq++ [⟨a.id,a.step,a.tick+x.wait⟩]}
 else(s.aq.findIdx? λc=>decide (c.id=a.ref)&&decide (c.tick<=a.tick)).map λi=> {s with aq:=s.aq.eraseIdx i,fresh:=true}
def hF(s:aW)(status:Int):aW:= {s with status:=status,asked:=0,taken:=0,fresh:=false,aw:= [],aq:= []}
def QP(s:aW):Prop:=s.asked=0/\s.taken=0/\s.aw= []
instance (s:aW):Decidable (QP s):=decidable_of_iff (s.asked=0/\s.taken=0/\s.aw.length=0) (by simp[QP])
def LM(s:aW)(a:Ev):Option aW:=
 if a.kind=12 then some {s with fresh:=true}
 else if a.kind=13 then(if s.cancel=true then none else some {s with cancel:=true,fresh:=true})
 else if a.kind=14 then(if s.aL=true\/s.prog.au=0\/a.tick<s.aO+s.prog.au then none else some {s with aL:=true,fresh:=true})
 else if a.kind=18 then some (hF s 4)
 else if a.kind=15 then(if QP s then some (hF s 1) else none)
 else if a.kind=16 then(if QP s then some (hF s 2) else none)
 else if a.kind=17 then(if QP s then some (hF s 3) else none)
 else none
def Qx(s:aW)(a:Ev):Option aW:=
 (if 2<=a.kind/\a.kind<=5 then EC s a else if 6<=a.kind/\a.kind<=9 then Mj s a else if a.kind=10\/a.kind=11 then Kq s a else LM s a).map λt=> {t with next:=s.next+1}
def Yt(a:Ev):aW:=⟨(Ji (bl a.data)).getD ⟨[],0⟩,0,2,a.tick,0,0,true,[],[],false,false⟩
def Bh(s:aW)(a:Ev):Int×aW:=
 if Er a=false then(120,TM)
 else if s.next=0 then(if a.kind=1/\a.id=1 then(0,Yt a) else(120,TM))
 else if s.status≠0 then(182,TM)
 else if a.id≠s.next then(120,TM)
 else match Qx s a with
  |none=>(120,TM)
  |some t=>(0,t)
def Ew(s:aW):List Ev->Option aW
 | []=>some s
 |e::l=>if(Bh s e).1=0 then Ew (Bh s e).2 l else none
theorem AGO {a b:List Ev}: ∀ {s:aW},Ew s (a++b)=(Ew s a).bind λt=>Ew t b:=by
 induction a with
 |nil=>intro s;rfl
 |cons d l c=>
  intro s;rw[Dd,Ew,Ew];split
  ·exact c
  ·rfl
theorem zD {s t:aW}{l:List Ev}{e:Ev}(a:Ew s l=some t)(b:(Bh t e).1=0):Ew s (l++ [e])=some (Bh t e).2:=by rw[AGO,a];show Ew t [e]=_;rw[Ew,if_pos b,Ew]
theorem SG {s:aW}{b:Ev}(a:(Bh s b).1=0):Er b=true:=by
 unfold Bh at a;split at a
 ·cases a
 ·rename_i c;simpa using c
theorem zE {s:aW}{b:Ev}(a:(Bh s b).1=0):(s.next=0->b.id=1/\(Bh s b).2.next=2)/\(s.next≠0->b.id=s.next/\(Bh s b).2.next=s.next+1):=by
 unfold Bh at a ⊢;split at a
 ·cases a
 ·rename_i g;rw[if_neg g];split at a
  ·rename_i c;rw[if_pos c];split at a
   ·rename_i d;rw[if_pos d];exact⟨λ_=>⟨d.2,rfl⟩,λa=>absurd c a⟩
   ·cases a
  ·rename_i c;rw[if_neg c];split at a
   ·cases a
   ·rename_i d;rw[if_neg d];split at a
    ·cases a
    ·rename_i f;rw[if_neg f];cases e:Qx s b with
     |none=>rw[e] at a;cases a
     |some t=>
      refine⟨λa=>absurd a c,λ_=>⟨by simpa using f,?_⟩⟩;unfold Qx at e;obtain⟨h,-,rfl⟩:=Option.map_eq_some_iff.1 e;rfl
theorem AKg: ∀ {l:List Ev} {s t:aW},Ew s l=some t->1<=s.next->t.next=s.next+l.length/\ ∀(i:Nat) (b:Ev),l[i]? =some b->b.id=s.next+i/\Er b=true:=by
 intro l
 induction l with
 |nil=>intro s t a e;cases a;exact⟨by simp,λi b f=>by simp at f⟩
 |cons b l g=>
  intro s t a e;rw[Ew] at a;split at a
  ·rename_i d;have h:=(zE d).2 (by omega);obtain⟨j,k⟩:=g a (by omega);refine⟨by rw[j,h.2,An];omega,λi x c=>?_⟩;cases i with
   |zero=>simp at c;subst c;exact⟨by omega,SG d⟩
   |succ i=>
    have:=k i x (by simpa using c);exact⟨by omega,this.2⟩
  ·cases a
theorem zF {l:List Ev}{t:aW}(a:Ew TM l=some t)(e:l≠ []):t.next=l.length+1/\ ∀(i:Nat) (b:Ev),l[i]? =some b->b.id=i+1/\Er b=true:=by
 cases l with
 |nil=>exact absurd rfl e
 |cons b l=>
  rw[Ew] at a;split at a
  ·rename_i d;have f:=(zE d).1 rfl;obtain⟨g,h⟩:=AKg a (by omega);refine⟨by rw[g,f.2,An];omega,λi x c=>?_⟩;cases i with
   |zero=>simp at c;subst c;exact⟨by omega,SG d⟩
   |succ i=>
    have:=h i x (by simpa using c);exact⟨by omega,this.2⟩
  ·cases a
def eE:List UInt8->Option (List UInt8)
 | []=>none
 |a::p=>match eE p with
  |some q=>some (a::q)
  |none=>if a<255 then some [a+1] else none
theorem zy {a b:UInt8}(c:a<255):b<a+1↔ ¬a<b:=by
 have e:a.toNat<255:=UInt8.lt_iff_toNat_lt.1 c;have d:(a+1).toNat=a.toNat+1:=by rw[UInt8.toNat_add];show(a.toNat+1) % 256=_;omega
 rw[UInt8.lt_iff_toNat_lt,UInt8.lt_iff_toNat_lt,d];omega
theorem AWM {a b:UInt8}(c: ¬a<255): ¬a<b:=λd=>by
 rw[UInt8.lt_iff_toNat_lt] at c d;have:b.toNat<256:=b.toNat_lt;have e:(255:UInt8).toNat=255:=rfl;omega
theorem zz: ∀(p i:List UInt8),(¬ i<p/\(∀ q,eE p=some q->i<q))↔p <+: i
 | [],i=>by simp[eE]
 |a::p,[]=>by
  constructor
  ·rintro⟨c,_⟩;exact absurd (List.nil_lt_cons a p) c
  ·intro c;exact absurd (List.prefix_nil.1 c) (by simp)
 |a::p,b::i=>by
  have s:=zz p i;have e: ∀ {x o:UInt8} {l m:List UInt8},x::l<o::m↔x<o\/x=o/\l<m:=A0f;rw[List.cons_prefix_cons,<-s];constructor
  ·rintro⟨n,f⟩;have r: ¬b<a:=λc=>n (e.2 (.inl c))
   have t: ¬a<b:=λc=>by
    unfold eE at f;cases j:eE p with
    |some q=>
     rw[j] at f;rcases e.1 (f _ rfl) with d|⟨d,_⟩
     ·exact r d
     ·subst d;exact UInt8.lt_irrefl _ c
    |none=>
     rw[j] at f;by_cases h:a<255
     ·have:=f [a+1] (by simp[h]);rcases e.1 this with d|⟨_,d⟩
      ·exact(zy h).1 d c
      ·exact absurd d (by simp)
     ·exact AWM h c
   have k:a=b:=by
    by_cases k:a=b
    ·exact k
    ·rcases UInt8.lt_or_lt_of_ne k with c|c
     ·exact absurd c t
     ·exact absurd c r
   subst k;refine⟨rfl,λc=>n (e.2 (.inr ⟨rfl,c⟩)),λq g=>?_⟩;have:=f (a::q) (by unfold eE;rw[g]);rcases e.1 this with d|⟨_,d⟩
   ·exact absurd d (UInt8.lt_irrefl _)
   ·exact d
  ·rintro⟨rfl,n,f⟩;refine⟨λc=>?_,λq g=>?_⟩
   ·rcases e.1 c with d|⟨_,d⟩
    ·exact absurd d (UInt8.lt_irrefl _)
    ·exact n d
   ·unfold eE at g;cases j:eE p with
    |some u=>
     rw[j] at g;obtain rfl:=Bk g;exact e.2 (.inr ⟨rfl,f u j⟩)
    |none=>
     rw[j] at g;by_cases h:a<255
     ·have k:q= [a+1]:=by simpa [h] using g.symm
      subst k;exact e.2 (.inl ((zy h).2 (UInt8.lt_irrefl _)))
     ·simp[h] at g
theorem rY: ∀ {p:List UInt8},(∀ x∈p,¬x<255)->eE p=none
 | [],_=>rfl
 |a::p,b=>by
  unfold eE;rw[rY λx c=>b x (AH _ c)];simp[b a B8]
theorem zA: ∀ {p:List UInt8} {i:Nat} {a:UInt8},p[i]? =some a->a<255->(∀ x∈p.drop (i+1),¬x<255)->eE p=some (p.take i++ [a+1])
 | [],i,a,c,_,_=>by simp at c
 |b::p,0,a,c,d,hd=>by
  simp at c;subst c;unfold eE;rw[rY (by simpa using hd)];simp[d]
 |b::p,i+1,a,c,d,hd=>by
  unfold eE;rw[zA (p:=p) (i:=i) (a:=a) (by simpa using c) d (by simpa using hd)];simp
def Lt(p a:A2Y):Bool:=(p.data.toList).isPrefixOf a.data.toList
theorem Pq(p a:A2Y):Lt p a=true↔p.data.toList <+: a.data.toList:=by unfold Lt;rw[List.isPrefixOf_iff_prefix]
def I8:Nat->Nat->List UInt8
 |0,_=> []
 |k+1,a=>I8 k (a / 256)++ [Cu a]
theorem Lx: ∀(k a:Nat),(I8 k a).length=k
 |0,_=>rfl
 |k+1,a=>by rw[I8,A1,Lx k];rfl
theorem SS(a:Nat):Cu a=Cu (a % 256):=by apply UInt8.toNat_inj.1;simp[Cu,UInt8.toNat_ofNat']
theorem sd {a b:Nat}(c:a<256)(d:b<256)(e:Cu a=Cu b):a=b:=by have:=congrArg UInt8.toNat e;rwa [Dv c,Dv d] at this
theorem zG(a:Nat):I8 4 a= [Cu (a / 256 / 256 / 256),Cu (a / 256 / 256),Cu (a / 256),Cu a]:=rfl
theorem ATj {a b:Nat}(i:b<65536)(j:a<b):I8 4 a<I8 4 b:=by
 rw[zG,zG];have d:a / 256 / 256=0:=by omega
 have e:b / 256 / 256=0:=by omega
 rw[d,e];have lt: ∀ {x c:Nat},c<256->x<c->Cu x<Cu c:=λ{x c} f g=>by
  rw[UInt8.lt_iff_toNat_lt,Dv f,Dv (by omega)];exact g
 refine List.Lex.cons (List.Lex.cons ?_);by_cases h:a / 256=b / 256
 ·rw[h];refine List.Lex.cons (List.Lex.rel ?_);rw[SS a,SS b];exact lt (by omega) (by omega)
 ·exact List.Lex.rel (lt (by omega) (by omega))
theorem zH(p:List UInt8){a b:List UInt8}(d:a<b):p++a<p++b:=by
 induction p with
 |nil=>exact d
 |cons c p e=>exact List.Lex.cons e
def kE:UInt8:=104
def kM(wid:A2Y):List UInt8:=kE::BX (bl wid)
def Yd(wid:A2Y):A2Y:=Ae (kM wid)
def dP(wid:A2Y)(id:Nat):A2Y:=Ae (kM wid++I8 4 id)
def Kg(wid:A2Y):A2Y:=Ae (119::bl wid)
def LA(a:A2Y):A2Y:=Ae (114::bl a)
def DD(a id:Nat):A2Y:=Ae (116::Cu a::I8 8 id)
def UD(a b id:Nat):A2Y:=Ae (109::Cu a::(I8 8 b++I8 8 id))
theorem zI {s:A2Y}(a:s.size<=16):BX (bl s)=Cu s.size::bl s:=by unfold BX;rw[BF,Fq (by omega)];rfl
theorem TS {wid:A2Y}(a:wid.size<=16):kM wid=104::Cu wid.size::bl wid:=by unfold kM;rw[zI a];rfl
theorem ARy {wid:A2Y}(a:wid.size<=16)(id:Nat):(dP wid id).size<=22:=by unfold dP;rw[AP,A1,Lx,TS a];simp only[An,BF];omega
theorem APk {wid:A2Y}(a:wid.size<=16):(Yd wid).size<=18:=by unfold Yd;rw[AP,TS a];simp only[An,BF];omega
theorem Tn(wid:A2Y):(Kg wid).size=wid.size+1:=by unfold Kg;rw[AP,An,BF]
theorem Wz(a:A2Y):(LA a).size=a.size+1:=by unfold LA;rw[AP,An,BF]
theorem Nv(a id:Nat):(DD a id).size=10:=by unfold DD;rw[AP];rfl
theorem zJ(b a id:Nat):(UD b a id).size=18:=by unfold UD;rw[AP];rfl
theorem lV {wid:A2Y}{i a:Nat}(b:a<65536)(c:i<a):aI (dP wid i) (dP wid a)=true:=by rw[XG,decide_eq_true_eq];unfold dP;rw[CE,CE];exact zH _ (ATj b c)
theorem zK(wid:A2Y)(id:Nat):Lt (Yd wid) (dP wid id)=true:=by rw[Pq];unfold Yd dP;rw[CE,CE];exact List.prefix_append _ _
theorem zL {wid a:A2Y}(d:wid.size<=16)(e:a.size<=16){id:Nat}(b:Lt (Yd wid) (dP a id)=true):wid=a:=by rw[Pq] at b;unfold Yd dP at b;rw[CE,CE,TS d,TS e] at b;obtain⟨t,c⟩:=b;simp only[Dd,G0,true_and] at c;have f:=sd (by omega) (by omega) c.1;have:=(List.append_inj c.2 (by rw[BF,BF];exact f)).1;rw[<- Eh wid,<-Eh a];exact congrArg Ae this
theorem ATZ {wid b:A2Y}(e:wid.size<=16)(f:b.size<=16){i c:Nat}(hi:i<65536)(g:c<65536)(d:dP wid i=dP b c):wid=b/\i=c:=by
 have h:wid=b:=zL e f (by rw[<- d];exact zK wid i);subst h;refine⟨rfl,?_⟩;rcases HN i c with a|a|a
 ·exact absurd d (Mk (lV g a))
 ·exact a
 ·exact absurd d.symm (Mk (lV hi a))
theorem AQH {a b:A2Y}(c:Kg a=Kg b):a=b:=by have:=Pm.1 c;simp only[G0,true_and] at this;rw[<- Eh a,<-Eh b];exact congrArg Ae this
theorem zM {a b:A2Y}(c:LA a=LA b):a=b:=by have:=Pm.1 c;simp only[G0,true_and] at this;rw[<- Eh a,<-Eh b];exact congrArg Ae this
def BL(a:A2Y):UInt8:=(bl a).headD 0
theorem XB(wid:A2Y)(id:Nat):BL (dP wid id)=104:=by unfold BL dP;rw[Fg];rfl
theorem F8(wid:A2Y):BL (Kg wid)=119:=by unfold BL Kg;rw[Fg];rfl
theorem KY(wid:A2Y):BL (LA wid)=114:=by unfold BL LA;rw[Fg];rfl
theorem QT(a id:Nat):BL (DD a id)=116:=by unfold BL DD;rw[Fg];rfl
theorem zN(b a id:Nat):BL (UD b a id)=109:=by unfold BL UD;rw[Fg];rfl
theorem se {wid a:A2Y}(b:Lt (Yd wid) a=true):BL a=104:=by rw[Pq] at b;obtain⟨t,c⟩:=b;unfold BL;show(a.data.toList).headD 0=104;rw[<- c];unfold Yd;rw[CE];rfl
def R4(status next:Nat)(a:Bool):A2Y:=Ae (Bt status++(Bt next++Bt (if a then 1 else 0)))
def iC(a:List UInt8)(status next:Nat):A2Y:=Ae (BX a++(Bt status++Bt next))
def lW(a:Nat)(wid:A2Y)(b turn:Nat):A2Y:=Ae (Bt a++(BX (bl wid)++(Bt b++Bt turn)))
theorem F3 {n:Nat}(a:n<16384):(Bt n).length<=2:=AKW 1 n (by omega)
theorem zP {kind ref turn:Nat}{wid:A2Y}(a:kind<128)(b:wid.size<=16)(c:ref<=500)(d:turn<=5):(lW kind wid ref turn).size<=22:=by unfold lW;have:=F3 (n:=ref) (by omega);rw[AP,Fq a,zI b,Fq (n:=turn) (by omega)];simp only[A1,An,BF,HU];omega
theorem AMj {status next:Nat}{kept:Bool}(a:status<128)(b:next<=501):(R4 status next kept).size<=4:=by unfold R4;have:=F3 (n:=next) (by omega);rw[AP,Fq a,Fq (n:=if kept then 1 else 0) (by split<;>omega)];simp only[A1,An,HU];omega
structure bd where
 wid:A2Y
 aj:Nat
 bW:Int
 bP:Int
 kept:Bool
 st:aW
 more:List Ev
 ar:List Pr
 conds:List Pr
 err:Int
 now:Int
def j8(s:aW):Bool:=decide (s.next<=497)
def Gy(wid:A2Y)(a:Nat)(b c:Int)(d:Bool)(st:aW)(now:Int):bd:=
 ⟨wid,a,b,c,d,st,[],[],[],if now<0\/1099511611776<now then 1 else 0,now⟩
def CU(a:bd)(b:Ev):Ev:= {b with id:=if 1>a.st.next then 1 else a.st.next,tick:=a.now}
def Di(a:bd)(b:Ev):bd:=
 if a.err≠0 then a
 else if a.more= []/\j8 a.st=false/\b.kind≠18 then {a with err:=2}
 else if(Bh a.st (CU a b)).1≠0 then {a with err:=(Bh a.st (CU a b)).1}
 else {a with st:=(Bh a.st (CU a b)).2,more:=a.more++ [CU a b]}
def UW(a:bd):Int:=a.st.next-1
structure fE where
 kind:Int
 ref:Int
 turn:Int
def Hq(t:fE)(wid:A2Y):Bool:=bQ t.kind 1 7&&Am wid&&bQ t.ref 0 500&&bQ t.turn 0 5
def fV(t:fE)(wid:A2Y):A2Y:=lW t.kind.toNat wid t.ref.toNat t.turn.toNat
def ND(a:Nat)(tick:Int)(b:Nat):A2Y:=if tick<0 then DD a b else UD a tick.toNat b
def EB(a:bd)(t:fE)(tick:Int)(b:Nat):bd:=
 if a.err≠0 then a
 else if Hq t a.wid=false then {a with err:=1}
 else {a with ar:=a.ar++ [⟨ND a.aj tick b,fV t a.wid,false⟩]}
def iD(a:bd)(key val:A2Y):bd:= {a with conds:=a.conds++ [⟨key,val,false⟩],ar:=a.ar++ [⟨key,⟨#[]⟩,true⟩]}
def oN(a:bd)(key val:A2Y):bd:= {a with conds:=a.conds++ [⟨key,⟨#[]⟩,true⟩],ar:=a.ar++ [⟨key,val,false⟩]}
def EN(a:bd):Bool:=decide (a.more≠ [])&&(decide (a.st.status=0)&&(a.st.fresh&&(decide (a.st.asked=0)&&decide (a.st.taken=0))))
def DF(a:bd):Int×Int:=(a.st.status,if EN a then a.st.next+1 else a.st.next)
def bo(a:bd):Pr:=if 0<a.bP then⟨Kg a.wid,R4 a.bW.toNat a.bP.toNat a.kept,false⟩ else⟨Kg a.wid,⟨#[]⟩,true⟩
def O6(wid:A2Y)(a:Ev):Pr:=⟨dP wid a.id.toNat,Ae (Om a),false⟩
def Dh(a:bd):List Pr:=a.more.map (O6 a.wid)++(if a.more= [] then [] else [⟨Kg a.wid,R4 a.st.status.toNat a.st.next.toNat false,false⟩])
structure bd.a2k (C:bd):Prop where
 pos:C.err=0-> ∀e∈C.more,Er e=true
 err0:0<=C.err
theorem PS(a:bd)(b:Ev):(Di a b).wid=a.wid/\(Di a b).aj=a.aj/\(Di a b).bW=a.bW/\(Di a b).bP=a.bP/\(Di a b).kept=a.kept/\(Di a b).ar=a.ar/\(Di a b).conds=a.conds/\(Di a b).now=a.now:=by
 unfold Di;split
 ·simp
 ·split
  ·simp
  ·split<;>simp
theorem lX {a:bd}{e:Ev}(d:a.err=0)(f:a.more≠ []\/a.st.next<=497\/e.kind=18)(g:(Bh a.st (CU a e)).1=0):
  Di a e= {a with st:=(Bh a.st (CU a e)).2,more:=a.more++ [CU a e]}:=by
 unfold Di;rw[if_neg (by simp[d]),if_neg (by
  rintro⟨h,c,i⟩;rcases f with b|b|b
  ·exact b h
  ·unfold j8 at c;simp at c;omega
  ·exact i b),if_neg (by simp[g])]
def sg(a:Q6):aa->Nat->List J0->(aa->Prop)->Prop
 |h,_,[],K=>K h
 |h,i,v::b,K=>ae h (a.add i) v λc=>sg a c (i+1) b K
def aD(b:aa)(a:Q6)(c:List J0)(K:aa->Prop):Prop:=sg a b 0 c K
def gf(a:Array J0)(b:Nat)(c:List J0):Array J0:=⟨a.toList.take b++(c++a.toList.drop (b+c.length))⟩
theorem AQB {c:Array J0}{a:Nat}{v:J0}{b:List J0}(d:a<c.size):gf (c.setIfInBounds a v) (a+1) b=gf c a (v::b):=by
 obtain⟨l⟩:=c;have d:a<l.length:=d;unfold gf;apply congrArg Array.mk;simp only[Vc,An];have e:l.set a v=l.take a++v::l.drop (a+1):=by rw[A02,if_pos d]
 rw[e,Lk,Rr,Ax,DO (by omega)];rw[show a+1-a=1 from by omega,Ss,Mu (by omega),show a+1+b.length-a=b.length+1 from by omega];rw[HD (l:=l.take a) (by rw[Ax];omega)];simp only[I0,I3,CT,HW,HX,A4,Dd];rw[show a+1+b.length=a+(b.length+1) from by omega]
theorem AS1 {a:Array J0}{b:Nat}:gf a b []=a:=by obtain⟨l⟩:=a;unfold gf;simp
theorem zR {b c:Nat}{T:Q7}{K:aa->Prop}: ∀(d:List J0) (i:Nat) {a:aa} {e:Array J0},a[b]? =some (J2 e T (0,0))->c+i+d.length<=e.size->
  (∀ f,f[b]? =some (J2 (gf e (c+i) d) T (0,0))->Mod (· =b) a f->f.size=a.size->K f)->sg ⟨b,c,none⟩ a i d K
 | [],i,a,e,g,_,h=>h a (by rw[AS1];exact g) ⟨A0 _,λ_ _ _=>rfl⟩ rfl
 |v::d,i,a,e,g,k,h=>by
  rw[An] at k;show ae a (Addr.add ⟨b,c,none⟩ i) v _;rw[Bp];refine ae.mk g (by omega) λp l m q=>?_
  refine zR d (i+1) l (by simp;omega) λn j o r=>h n ?_ (m.trans o) (by omega)
  rw[show c+(i+1)=c+i+1 from by omega,AQB (by omega)] at j;exact j
theorem aD.mk {b e:Nat}{T:Q7}{K:aa->Prop}{a:List J0}{c:aa}{f:Array J0}(g:c[b]? =some (J2 f T (0,0)))(h:e+a.length<=f.size)
  (i: ∀d,d[b]? =some (J2 (gf f e a) T (0,0))->Mod (· =b) c d->d.size=c.size->K d):aD c ⟨b,e,none⟩ a K:=zR a 0 g h i
theorem Bz {c:aa}{b o:Nat}{d:Array J0}{T:Q7}{fr:Nat×Nat}{l:List J0}(e:c[b]? =some (J2 d T fr))(f:(d.toList.drop o).take l.length=l):Cells c ⟨b,o,none⟩ l:=λg v a=>by
 rw[Bp];refine AO e ?_;rw[<- RR,<-By];have h:=(List.getElem?_eq_some_iff.1 a).1;rw[<- f,F1,if_pos (by omega)] at a;exact a
abbrev Ev.l(x:Ev):List J0:= [J6 J9 x.id,J6 J9 x.kind,J6 J9 x.tick,J6 J9 x.ref,J6 J9 x.step,J6 J9 x.turn,J3 x.aG,J7 x.data]
abbrev Ev.c(x:Ev):Array J0:= #[J6 J9 x.id,J6 J9 x.kind,J6 J9 x.tick,J6 J9 x.ref,J6 J9 x.step,J6 J9 x.turn,J3 x.aG,J7 x.data]
abbrev Ev.v(x:Ev):J0:= .agg #[J6 J9 x.id,J6 J9 x.kind,J6 J9 x.tick,J6 J9 x.ref,J6 J9 x.step,J6 J9 x.turn,J3 x.aG,J7 x.data]
abbrev Ev.z:Ev:=⟨0,0,0,0,0,0,false,⟨#[]⟩⟩
abbrev Ev.s:List Sc:= [.int J9,.int J9,.int J9,.int J9,.int J9,.int J9,.bool,.str]
abbrev Ev.T:Type:=Int×Int×Int×Int×Int×Int×Bool×A2Y×Unit
abbrev Ev.t(x:Ev):Ev.T:=(x.id,x.kind,x.tick,x.ref,x.step,x.turn,x.aG,x.data,())
def oO(K:Ev->Prop):Prop:= ∃a:Int,∃b:Int,∃c:Int,∃d:Int,∃e:Int,∃f:Int,∃g:Bool,∃h:A2Y,K ⟨a,b,c,d,e,f,g,h⟩
theorem oO.mk {K:Ev->Prop}(x:Ev)(a:K x):oO K:=⟨x.id,x.kind,x.tick,x.ref,x.step,x.turn,x.aG,x.data,a⟩
def Nh(b:aa)(a:Q6)(K:Ev->Prop):Prop:=
 AC J9 b a λc=>
 AC J9 b (a.add 1) λd=>
 AC J9 b (a.add 2) λe=>
 AC J9 b (a.add 3) λf=>
 AC J9 b (a.add 4) λg=>
 AC J9 b (a.add 5) λh=>
 Aa b (a.add 6) λi=>
 AL b (a.add 7) λj=>
 K ⟨c,d,e,f,g,h,i,j⟩
theorem Nh.mk {b:aa}{a:Q6}{K:Ev->Prop}(x:Ev)(c:Cells b a x.l)(d:K x):Nh b a K:=
 ⟨_,by have:=c 0 _ rfl;rwa [add_zero] at this,_,c 1 _ rfl,_,c 2 _ rfl,_,c 3 _ rfl,_,c 4 _ rfl,_,c 5 _ rfl,_,c 6 _ rfl,_,c 7 _ rfl,d⟩
abbrev Jb.l(x:Jb):List J0:= [J6 J9 x.id,J6 J9 x.step,J3 x.aG,J6 J9 x.turn]
abbrev Jb.c(x:Jb):Array J0:= #[J6 J9 x.id,J6 J9 x.step,J3 x.aG,J6 J9 x.turn]
abbrev Jb.v(x:Jb):J0:= .agg #[J6 J9 x.id,J6 J9 x.step,J3 x.aG,J6 J9 x.turn]
abbrev Jb.z:Jb:=⟨0,0,false,0⟩
abbrev Jb.s:List Sc:= [.int J9,.int J9,.bool,.int J9]
abbrev Jb.T:Type:=Int×Int×Bool×Int×Unit
abbrev Jb.t(x:Jb):Jb.T:=(x.id,x.step,x.aG,x.turn,())
def kN(b:aa)(a:Q6)(K:Jb->Prop):Prop:=
 AC J9 b a λc=>
 AC J9 b (a.add 1) λd=>
 Aa b (a.add 2) λe=>
 AC J9 b (a.add 3) λf=>
 K ⟨c,d,e,f⟩
theorem kN.mk {b:aa}{a:Q6}{K:Jb->Prop}(x:Jb)(c:Cells b a x.l)(d:K x):kN b a K:=
 ⟨_,by have:=c 0 _ rfl;rwa [add_zero] at this,_,c 1 _ rfl,_,c 2 _ rfl,_,c 3 _ rfl,d⟩
abbrev Ck.l(x:Ck):List J0:= [J6 J9 x.id,J6 J9 x.step,J6 J9 x.tick]
abbrev Ck.c(x:Ck):Array J0:= #[J6 J9 x.id,J6 J9 x.step,J6 J9 x.tick]
abbrev Ck.v(x:Ck):J0:= .agg #[J6 J9 x.id,J6 J9 x.step,J6 J9 x.tick]
abbrev Ck.z:Ck:=⟨0,0,0⟩
abbrev Ck.s:List Sc:= [.int J9,.int J9,.int J9]
abbrev Ck.T:Type:=Int×Int×Int×Unit
abbrev Ck.t(x:Ck):Ck.T:=(x.id,x.step,x.tick,())
def oP(b:aa)(a:Q6)(K:Ck->Prop):Prop:=
 AC J9 b a λc=>
 AC J9 b (a.add 1) λd=>
 AC J9 b (a.add 2) λe=>
 K ⟨c,d,e⟩
theorem oP.mk {b:aa}{a:Q6}{K:Ck->Prop}(x:Ck)(c:Cells b a x.l)(d:K x):oP b a K:=
 ⟨_,by have:=c 0 _ rfl;rwa [add_zero] at this,_,c 1 _ rfl,_,c 2 _ rfl,d⟩
abbrev bI.l(x:bI):List J0:= [J6 J9 x.kind,J7 x.name,J7 x.aG,J6 J9 x.tries,J6 J9 x.az,J6 J9 x.wait]
abbrev bI.c(x:bI):Array J0:= #[J6 J9 x.kind,J7 x.name,J7 x.aG,J6 J9 x.tries,J6 J9 x.az,J6 J9 x.wait]
abbrev bI.v(x:bI):J0:= .agg #[J6 J9 x.kind,J7 x.name,J7 x.aG,J6 J9 x.tries,J6 J9 x.az,J6 J9 x.wait]
abbrev bI.z:bI:=⟨0,⟨#[]⟩,⟨#[]⟩,0,0,0⟩
abbrev bI.s:List Sc:= [.int J9,.str,.str,.int J9,.int J9,.int J9]
abbrev bI.T:Type:=Int×A2Y×A2Y×Int×Int×Int×Unit
abbrev bI.t(x:bI):bI.T:=(x.kind,x.name,x.aG,x.tries,x.az,x.wait,())
def j9(K:bI->Prop):Prop:= ∃a:Int,∃b:A2Y,∃c:A2Y,∃d:Int,∃e:Int,∃f:Int,K ⟨a,b,c,d,e,f⟩
theorem j9.mk {K:bI->Prop}(x:bI)(a:K x):j9 K:=⟨x.kind,x.name,x.aG,x.tries,x.az,x.wait,a⟩
def Xz(b:aa)(a:Q6)(K:bI->Prop):Prop:=
 AC J9 b a λc=>
 AL b (a.add 1) λd=>
 AL b (a.add 2) λe=>
 AC J9 b (a.add 3) λf=>
 AC J9 b (a.add 4) λg=>
 AC J9 b (a.add 5) λh=>
 K ⟨c,d,e,f,g,h⟩
theorem Xz.mk {b:aa}{a:Q6}{K:bI->Prop}(x:bI)(c:Cells b a x.l)(d:K x):Xz b a K:=
 ⟨_,by have:=c 0 _ rfl;rwa [add_zero] at this,_,c 1 _ rfl,_,c 2 _ rfl,_,c 3 _ rfl,_,c 4 _ rfl,_,c 5 _ rfl,d⟩
structure bz where
 steps:Sl
 au:Int
 status:Int
 next:Int
 aO:Int
 asked:Int
 taken:Int
 fresh:Bool
 aw:Sl
 aq:Sl
 cancel:Bool
 aL:Bool
abbrev bz.l(x:bz):List J0:= [J4 x.steps.p x.steps.len x.steps.cap,J6 J9 x.au,J6 J9 x.status,J6 J9 x.next,J6 J9 x.aO,J6 J9 x.asked,J6 J9 x.taken,J3 x.fresh,J4 x.aw.p x.aw.len x.aw.cap,J4 x.aq.p x.aq.len x.aq.cap,J3 x.cancel,J3 x.aL]
abbrev bz.c(x:bz):Array J0:= #[J4 x.steps.p x.steps.len x.steps.cap,J6 J9 x.au,J6 J9 x.status,J6 J9 x.next,J6 J9 x.aO,J6 J9 x.asked,J6 J9 x.taken,J3 x.fresh,J4 x.aw.p x.aw.len x.aw.cap,J4 x.aq.p x.aq.len x.aq.cap,J3 x.cancel,J3 x.aL]
abbrev bz.v(x:bz):J0:= .agg #[J4 x.steps.p x.steps.len x.steps.cap,J6 J9 x.au,J6 J9 x.status,J6 J9 x.next,J6 J9 x.aO,J6 J9 x.asked,J6 J9 x.taken,J3 x.fresh,J4 x.aw.p x.aw.len x.aw.cap,J4 x.aq.p x.aq.len x.aq.cap,J3 x.cancel,J3 x.aL]
abbrev bz.z:bz:=⟨⟨none,0,0⟩,0,0,0,0,0,0,false,⟨none,0,0⟩,⟨none,0,0⟩,false,false⟩
abbrev bz.s:List Sc:= [.sl,.int J9,.int J9,.int J9,.int J9,.int J9,.int J9,.bool,.sl,.sl,.bool,.bool]
abbrev bz.T:Type:=Sl×Int×Int×Int×Int×Int×Int×Bool×Sl×Sl×Bool×Bool×Unit
abbrev bz.t(x:bz):bz.T:=(x.steps,x.au,x.status,x.next,x.aO,x.asked,x.taken,x.fresh,x.aw,x.aq,x.cancel,x.aL,())
def GV(K:bz->Prop):Prop:= ∃a:Sl,∃b:Int,∃c:Int,∃d:Int,∃e:Int,∃f:Int,∃g:Int,∃h:Bool,∃i:Sl,∃j:Sl,∃k:Bool,∃l:Bool,K ⟨a,b,c,d,e,f,g,h,i,j,k,l⟩
theorem GV.mk {K:bz->Prop}(x:bz)(a:K x):GV K:=⟨x.steps,x.au,x.status,x.next,x.aO,x.asked,x.taken,x.fresh,x.aw,x.aq,x.cancel,x.aL,a⟩
def A9(b:aa)(a:Q6)(K:bz->Prop):Prop:=
 AV b a λc=>
 AC J9 b (a.add 1) λd=>
 AC J9 b (a.add 2) λe=>
 AC J9 b (a.add 3) λf=>
 AC J9 b (a.add 4) λg=>
 AC J9 b (a.add 5) λh=>
 AC J9 b (a.add 6) λi=>
 Aa b (a.add 7) λj=>
 AV b (a.add 8) λk=>
 AV b (a.add 9) λl=>
 Aa b (a.add 10) λm=>
 Aa b (a.add 11) λn=>
 K ⟨c,d,e,f,g,h,i,j,k,l,m,n⟩
theorem A9.mk {b:aa}{a:Q6}{K:bz->Prop}(x:bz)(c:Cells b a x.l)(d:K x):A9 b a K:=
 ⟨_,by have:=c 0 _ rfl;rwa [add_zero] at this,_,c 1 _ rfl,_,c 2 _ rfl,_,c 3 _ rfl,_,c 4 _ rfl,_,c 5 _ rfl,_,c 6 _ rfl,_,c 7 _ rfl,_,c 8 _ rfl,_,c 9 _ rfl,_,c 10 _ rfl,_,c 11 _ rfl,d⟩
structure cJ where
 status:Int
 next:Int
 kept:Bool
abbrev cJ.l(x:cJ):List J0:= [J6 J9 x.status,J6 J9 x.next,J3 x.kept]
abbrev cJ.c(x:cJ):Array J0:= #[J6 J9 x.status,J6 J9 x.next,J3 x.kept]
abbrev cJ.v(x:cJ):J0:= .agg #[J6 J9 x.status,J6 J9 x.next,J3 x.kept]
abbrev cJ.z:cJ:=⟨0,0,false⟩
abbrev cJ.s:List Sc:= [.int J9,.int J9,.bool]
abbrev cJ.T:Type:=Int×Int×Bool×Unit
abbrev cJ.t(x:cJ):cJ.T:=(x.status,x.next,x.kept,())
def oQ(K:cJ->Prop):Prop:= ∃a:Int,∃b:Int,∃c:Bool,K ⟨a,b,c⟩
theorem oQ.mk {K:cJ->Prop}(x:cJ)(a:K x):oQ K:=⟨x.status,x.next,x.kept,a⟩
def Pb(b:aa)(a:Q6)(K:cJ->Prop):Prop:=
 AC J9 b a λc=>
 AC J9 b (a.add 1) λd=>
 Aa b (a.add 2) λe=>
 K ⟨c,d,e⟩
theorem Pb.mk {b:aa}{a:Q6}{K:cJ->Prop}(x:cJ)(c:Cells b a x.l)(d:K x):Pb b a K:=
 ⟨_,by have:=c 0 _ rfl;rwa [add_zero] at this,_,c 1 _ rfl,_,c 2 _ rfl,d⟩
structure bH where
 wid:A2Y
 aj:Int
 me:cJ
 cy:Sl
 st:bz
abbrev bH.l(x:bH):List J0:= [J7 x.wid,J6 J9 x.aj,J6 J9 x.me.status,J6 J9 x.me.next,J3 x.me.kept,J4 x.cy.p x.cy.len x.cy.cap,J4 x.st.steps.p x.st.steps.len x.st.steps.cap,J6 J9 x.st.au,J6 J9 x.st.status,J6 J9 x.st.next,J6 J9 x.st.aO,J6 J9 x.st.asked,J6 J9 x.st.taken,J3 x.st.fresh,J4 x.st.aw.p x.st.aw.len x.st.aw.cap,J4 x.st.aq.p x.st.aq.len x.st.aq.cap,J3 x.st.cancel,J3 x.st.aL]
abbrev bH.c(x:bH):Array J0:= #[J7 x.wid,J6 J9 x.aj,J6 J9 x.me.status,J6 J9 x.me.next,J3 x.me.kept,J4 x.cy.p x.cy.len x.cy.cap,J4 x.st.steps.p x.st.steps.len x.st.steps.cap,J6 J9 x.st.au,J6 J9 x.st.status,J6 J9 x.st.next,J6 J9 x.st.aO,J6 J9 x.st.asked,J6 J9 x.st.taken,J3 x.st.fresh,J4 x.st.aw.p x.st.aw.len x.st.aw.cap,J4 x.st.aq.p x.st.aq.len x.st.aq.cap,J3 x.st.cancel,J3 x.st.aL]
abbrev bH.v(x:bH):J0:= .agg #[J7 x.wid,J6 J9 x.aj,J6 J9 x.me.status,J6 J9 x.me.next,J3 x.me.kept,J4 x.cy.p x.cy.len x.cy.cap,J4 x.st.steps.p x.st.steps.len x.st.steps.cap,J6 J9 x.st.au,J6 J9 x.st.status,J6 J9 x.st.next,J6 J9 x.st.aO,J6 J9 x.st.asked,J6 J9 x.st.taken,J3 x.st.fresh,J4 x.st.aw.p x.st.aw.len x.st.aw.cap,J4 x.st.aq.p x.st.aq.len x.st.aq.cap,J3 x.st.cancel,J3 x.st.aL]
abbrev bH.z:bH:=⟨⟨#[]⟩,0,⟨0,0,false⟩,⟨none,0,0⟩,⟨⟨none,0,0⟩,0,0,0,0,0,0,false,⟨none,0,0⟩,⟨none,0,0⟩,false,false⟩⟩
abbrev bH.s:List Sc:= [.str,.int J9,.int J9,.int J9,.bool,.sl,.sl,.int J9,.int J9,.int J9,.int J9,.int J9,.int J9,.bool,.sl,.sl,.bool,.bool]
abbrev bH.T:Type:=A2Y×Int×Int×Int×Bool×Sl×Sl×Int×Int×Int×Int×Int×Int×Bool×Sl×Sl×Bool×Bool×Unit
abbrev bH.t(x:bH):bH.T:=(x.wid,x.aj,x.me.status,x.me.next,x.me.kept,x.cy,x.st.steps,x.st.au,x.st.status,x.st.next,x.st.aO,x.st.asked,x.st.taken,x.st.fresh,x.st.aw,x.st.aq,x.st.cancel,x.st.aL,())
def MG(K:bH->Prop):Prop:= ∃a:A2Y,∃b:Int,∃c:Int,∃d:Int,∃e:Bool,∃f:Sl,∃g:Sl,∃h:Int,∃i:Int,∃j:Int,∃k:Int,∃l:Int,∃m:Int,∃n:Bool,∃o:Sl,∃p:Sl,∃q:Bool,∃r:Bool,K ⟨a,b,⟨c,d,e⟩,f,⟨g,h,i,j,k,l,m,n,o,p,q,r⟩⟩
theorem MG.mk {K:bH->Prop}(x:bH)(a:K x):MG K:=⟨x.wid,x.aj,x.me.status,x.me.next,x.me.kept,x.cy,x.st.steps,x.st.au,x.st.status,x.st.next,x.st.aO,x.st.asked,x.st.taken,x.st.fresh,x.st.aw,x.st.aq,x.st.cancel,x.st.aL,a⟩
def EL(b:aa)(a:Q6)(K:bH->Prop):Prop:=
 AL b a λc=>
 AC J9 b (a.add 1) λd=>
 AC J9 b (a.add 2) λe=>
 AC J9 b (a.add 3) λf=>
 Aa b (a.add 4) λg=>
 AV b (a.add 5) λh=>
 AV b (a.add 6) λi=>
 AC J9 b (a.add 7) λj=>
 AC J9 b (a.add 8) λk=>
 AC J9 b (a.add 9) λl=>
 AC J9 b (a.add 10) λm=>
 AC J9 b (a.add 11) λn=>
 AC J9 b (a.add 12) λo=>
 Aa b (a.add 13) λp=>
 AV b (a.add 14) λq=>
 AV b (a.add 15) λr=>
 Aa b (a.add 16) λs=>
 Aa b (a.add 17) λt=>
 K ⟨c,d,⟨e,f,g⟩,h,⟨i,j,k,l,m,n,o,p,q,r,s,t⟩⟩
theorem EL.mk {b:aa}{a:Q6}{K:bH->Prop}(x:bH)(c:Cells b a x.l)(d:K x):EL b a K:=
 ⟨_,by have:=c 0 _ rfl;rwa [add_zero] at this,_,c 1 _ rfl,_,c 2 _ rfl,_,c 3 _ rfl,_,c 4 _ rfl,_,c 5 _ rfl,_,c 6 _ rfl,_,c 7 _ rfl,_,c 8 _ rfl,_,c 9 _ rfl,_,c 10 _ rfl,_,c 11 _ rfl,_,c 12 _ rfl,_,c 13 _ rfl,_,c 14 _ rfl,_,c 15 _ rfl,_,c 16 _ rfl,_,c 17 _ rfl,d⟩
structure bS where
 kind:Int
 wid:A2Y
 ref:Int
 turn:Int
abbrev bS.l(x:bS):List J0:= [J6 J9 x.kind,J7 x.wid,J6 J9 x.ref,J6 J9 x.turn]
abbrev bS.c(x:bS):Array J0:= #[J6 J9 x.kind,J7 x.wid,J6 J9 x.ref,J6 J9 x.turn]
abbrev bS.v(x:bS):J0:= .agg #[J6 J9 x.kind,J7 x.wid,J6 J9 x.ref,J6 J9 x.turn]
abbrev bS.z:bS:=⟨0,⟨#[]⟩,0,0⟩
abbrev bS.s:List Sc:= [.int J9,.str,.int J9,.int J9]
abbrev bS.T:Type:=Int×A2Y×Int×Int×Unit
abbrev bS.t(x:bS):bS.T:=(x.kind,x.wid,x.ref,x.turn,())
def jR(K:bS->Prop):Prop:= ∃a:Int,∃b:A2Y,∃c:Int,∃d:Int,K ⟨a,b,c,d⟩
theorem jR.mk {K:bS->Prop}(x:bS)(a:K x):jR K:=⟨x.kind,x.wid,x.ref,x.turn,a⟩
def JH(b:aa)(a:Q6)(K:bS->Prop):Prop:=
 AC J9 b a λc=>
 AL b (a.add 1) λd=>
 AC J9 b (a.add 2) λe=>
 AC J9 b (a.add 3) λf=>
 K ⟨c,d,e,f⟩
theorem JH.mk {b:aa}{a:Q6}{K:bS->Prop}(x:bS)(c:Cells b a x.l)(d:K x):JH b a K:=
 ⟨_,by have:=c 0 _ rfl;rwa [add_zero] at this,_,c 1 _ rfl,_,c 2 _ rfl,_,c 3 _ rfl,d⟩
structure bN where
 kind:Int
 bj:A2Y
 wid:A2Y
 name:A2Y
 steps:Sl
 au:Int
 bT:Sl
 ref:Int
 turn:Int
 bV:Int
 aj:Int
 aJ:Bool
abbrev bN.l(x:bN):List J0:= [J6 J9 x.kind,J7 x.bj,J7 x.wid,J7 x.name,J4 x.steps.p x.steps.len x.steps.cap,J6 J9 x.au,J4 x.bT.p x.bT.len x.bT.cap,J6 J9 x.ref,J6 J9 x.turn,J6 J9 x.bV,J6 J9 x.aj,J3 x.aJ]
abbrev bN.c(x:bN):Array J0:= #[J6 J9 x.kind,J7 x.bj,J7 x.wid,J7 x.name,J4 x.steps.p x.steps.len x.steps.cap,J6 J9 x.au,J4 x.bT.p x.bT.len x.bT.cap,J6 J9 x.ref,J6 J9 x.turn,J6 J9 x.bV,J6 J9 x.aj,J3 x.aJ]
abbrev bN.v(x:bN):J0:= .agg #[J6 J9 x.kind,J7 x.bj,J7 x.wid,J7 x.name,J4 x.steps.p x.steps.len x.steps.cap,J6 J9 x.au,J4 x.bT.p x.bT.len x.bT.cap,J6 J9 x.ref,J6 J9 x.turn,J6 J9 x.bV,J6 J9 x.aj,J3 x.aJ]
abbrev bN.z:bN:=⟨0,⟨#[]⟩,⟨#[]⟩,⟨#[]⟩,⟨none,0,0⟩,0,⟨none,0,0⟩,0,0,0,0,false⟩
abbrev bN.s:List Sc:= [.int J9,.str,.str,.str,.sl,.int J9,.sl,.int J9,.int J9,.int J9,.int J9,.bool]
abbrev bN.T:Type:=Int×A2Y×A2Y×A2Y×Sl×Int×Sl×Int×Int×Int×Int×Bool×Unit
abbrev bN.t(x:bN):bN.T:=(x.kind,x.bj,x.wid,x.name,x.steps,x.au,x.bT,x.ref,x.turn,x.bV,x.aj,x.aJ,())
def AW9(K:bN->Prop):Prop:= ∃a:Int,∃b:A2Y,∃c:A2Y,∃d:A2Y,∃e:Sl,∃f:Int,∃g:Sl,∃h:Int,∃i:Int,∃j:Int,∃k:Int,∃l:Bool,K ⟨a,b,c,d,e,f,g,h,i,j,k,l⟩
def MB(b:aa)(a:Q6)(K:bN->Prop):Prop:=
 AC J9 b a λc=>
 AL b (a.add 1) λd=>
 AL b (a.add 2) λe=>
 AL b (a.add 3) λf=>
 AV b (a.add 4) λg=>
 AC J9 b (a.add 5) λh=>
 AV b (a.add 6) λi=>
 AC J9 b (a.add 7) λj=>
 AC J9 b (a.add 8) λk=>
 AC J9 b (a.add 9) λl=>
 AC J9 b (a.add 10) λm=>
 Aa b (a.add 11) λn=>
 K ⟨c,d,e,f,g,h,i,j,k,l,m,n⟩
theorem MB.mk {b:aa}{a:Q6}{K:bN->Prop}(x:bN)(c:Cells b a x.l)(d:K x):MB b a K:=
 ⟨_,by have:=c 0 _ rfl;rwa [add_zero] at this,_,c 1 _ rfl,_,c 2 _ rfl,_,c 3 _ rfl,_,c 4 _ rfl,_,c 5 _ rfl,_,c 6 _ rfl,_,c 7 _ rfl,_,c 8 _ rfl,_,c 9 _ rfl,_,c 10 _ rfl,_,c 11 _ rfl,d⟩
structure aS where
 err:Int
 status:Int
 next:Int
 task:bS
 name:A2Y
 cy:Sl
abbrev aS.l(x:aS):List J0:= [J6 J9 x.err,J6 J9 x.status,J6 J9 x.next,J6 J9 x.task.kind,J7 x.task.wid,J6 J9 x.task.ref,J6 J9 x.task.turn,J7 x.name,J4 x.cy.p x.cy.len x.cy.cap]
abbrev aS.c(x:aS):Array J0:= #[J6 J9 x.err,J6 J9 x.status,J6 J9 x.next,J6 J9 x.task.kind,J7 x.task.wid,J6 J9 x.task.ref,J6 J9 x.task.turn,J7 x.name,J4 x.cy.p x.cy.len x.cy.cap]
abbrev aS.v(x:aS):J0:= .agg #[J6 J9 x.err,J6 J9 x.status,J6 J9 x.next,J6 J9 x.task.kind,J7 x.task.wid,J6 J9 x.task.ref,J6 J9 x.task.turn,J7 x.name,J4 x.cy.p x.cy.len x.cy.cap]
abbrev aS.z:aS:=⟨0,0,0,⟨0,⟨#[]⟩,0,0⟩,⟨#[]⟩,⟨none,0,0⟩⟩
abbrev aS.s:List Sc:= [.int J9,.int J9,.int J9,.int J9,.str,.int J9,.int J9,.str,.sl]
abbrev aS.T:Type:=Int×Int×Int×Int×A2Y×Int×Int×A2Y×Sl×Unit
abbrev aS.t(x:aS):aS.T:=(x.err,x.status,x.next,x.task.kind,x.task.wid,x.task.ref,x.task.turn,x.name,x.cy,())
def DX(K:aS->Prop):Prop:= ∃a:Int,∃b:Int,∃c:Int,∃d:Int,∃e:A2Y,∃f:Int,∃g:Int,∃h:A2Y,∃i:Sl,K ⟨a,b,c,⟨d,e,f,g⟩,h,i⟩
theorem DX.mk {K:aS->Prop}(x:aS)(a:K x):DX K:=⟨x.err,x.status,x.next,x.task.kind,x.task.wid,x.task.ref,x.task.turn,x.name,x.cy,a⟩
def Bb(b:aa)(a:Q6)(K:aS->Prop):Prop:=
 AC J9 b a λc=>
 AC J9 b (a.add 1) λd=>
 AC J9 b (a.add 2) λe=>
 AC J9 b (a.add 3) λf=>
 AL b (a.add 4) λg=>
 AC J9 b (a.add 5) λh=>
 AC J9 b (a.add 6) λi=>
 AL b (a.add 7) λj=>
 AV b (a.add 8) λk=>
 K ⟨c,d,e,⟨f,g,h,i⟩,j,k⟩
theorem Bb.mk {b:aa}{a:Q6}{K:aS->Prop}(x:aS)(c:Cells b a x.l)(d:K x):Bb b a K:=
 ⟨_,by have:=c 0 _ rfl;rwa [add_zero] at this,_,c 1 _ rfl,_,c 2 _ rfl,_,c 3 _ rfl,_,c 4 _ rfl,_,c 5 _ rfl,_,c 6 _ rfl,_,c 7 _ rfl,_,c 8 _ rfl,d⟩
structure fW where
 wait:Int
 q:bN
 take:Bool
 ik:Bool
abbrev fW.l(x:fW):List J0:= [J6 J9 x.wait,J6 J9 x.q.kind,J7 x.q.bj,J7 x.q.wid,J7 x.q.name,J4 x.q.steps.p x.q.steps.len x.q.steps.cap,J6 J9 x.q.au,J4 x.q.bT.p x.q.bT.len x.q.bT.cap,J6 J9 x.q.ref,J6 J9 x.q.turn,J6 J9 x.q.bV,J6 J9 x.q.aj,J3 x.q.aJ,J3 x.take,J3 x.ik]
abbrev fW.c(x:fW):Array J0:= #[J6 J9 x.wait,J6 J9 x.q.kind,J7 x.q.bj,J7 x.q.wid,J7 x.q.name,J4 x.q.steps.p x.q.steps.len x.q.steps.cap,J6 J9 x.q.au,J4 x.q.bT.p x.q.bT.len x.q.bT.cap,J6 J9 x.q.ref,J6 J9 x.q.turn,J6 J9 x.q.bV,J6 J9 x.q.aj,J3 x.q.aJ,J3 x.take,J3 x.ik]
abbrev fW.v(x:fW):J0:= .agg #[J6 J9 x.wait,J6 J9 x.q.kind,J7 x.q.bj,J7 x.q.wid,J7 x.q.name,J4 x.q.steps.p x.q.steps.len x.q.steps.cap,J6 J9 x.q.au,J4 x.q.bT.p x.q.bT.len x.q.bT.cap,J6 J9 x.q.ref,J6 J9 x.q.turn,J6 J9 x.q.bV,J6 J9 x.q.aj,J3 x.q.aJ,J3 x.take,J3 x.ik]
abbrev fW.z:fW:=⟨0,⟨0,⟨#[]⟩,⟨#[]⟩,⟨#[]⟩,⟨none,0,0⟩,0,⟨none,0,0⟩,0,0,0,0,false⟩,false,false⟩
abbrev fW.s:List Sc:= [.int J9,.int J9,.str,.str,.str,.sl,.int J9,.sl,.int J9,.int J9,.int J9,.int J9,.bool,.bool,.bool]
abbrev fW.T:Type:=Int×Int×A2Y×A2Y×A2Y×Sl×Int×Sl×Int×Int×Int×Int×Bool×Bool×Bool×Unit
abbrev fW.t(x:fW):fW.T:=(x.wait,x.q.kind,x.q.bj,x.q.wid,x.q.name,x.q.steps,x.q.au,x.q.bT,x.q.ref,x.q.turn,x.q.bV,x.q.aj,x.q.aJ,x.take,x.ik,())
structure fX where
 key:A2Y
 val:A2Y
 ref:Int
 turn:Int
 aJ:Bool
abbrev fX.l(x:fX):List J0:= [J7 x.key,J7 x.val,J6 J9 x.ref,J6 J9 x.turn,J3 x.aJ]
abbrev fX.c(x:fX):Array J0:= #[J7 x.key,J7 x.val,J6 J9 x.ref,J6 J9 x.turn,J3 x.aJ]
abbrev fX.v(x:fX):J0:= .agg #[J7 x.key,J7 x.val,J6 J9 x.ref,J6 J9 x.turn,J3 x.aJ]
abbrev fX.z:fX:=⟨⟨#[]⟩,⟨#[]⟩,0,0,false⟩
abbrev fX.s:List Sc:= [.str,.str,.int J9,.int J9,.bool]
abbrev fX.T:Type:=A2Y×A2Y×Int×Int×Bool×Unit
abbrev fX.t(x:fX):fX.T:=(x.key,x.val,x.ref,x.turn,x.aJ,())
abbrev ad(b:Nat):Q6:=⟨b,0,none⟩
end Go.Lf
namespace Go.Lf.G
abbrev AQ:bG:= .none
abbrev AJ(a b:bG):bG:= .seq a b
def Bj:Nat->bG->bG
 |0,x=>x
 |n+1,x=> .seq .none (Bj n x)
abbrev BQ:bG:=AJ AQ AQ
abbrev DT:bG:= .cond BQ AQ
abbrev Ea:bG:= .cond AQ AQ
abbrev CX:bG:=AJ AQ DT
abbrev Ej:bG:=AJ AQ Ea
abbrev EK:bG:=Bj 2 AQ
abbrev gG:bG:=AJ CX BQ
abbrev O7:bG:=AJ AQ gG
abbrev MM:bG:=Bj 2 DT
abbrev iU:bG:=AJ AQ (AJ Ea (AJ (.block MM) AQ))
abbrev nH:bG:=AJ AQ (.cond AQ Ej)
abbrev ku:bG:=AJ AQ (.cond AQ nH)
abbrev nI:bG:= .block BQ
abbrev ky:bG:=AJ AQ (AJ Ea (AJ nI AQ))
abbrev fP:bG:=Bj 3 AQ
abbrev qK:bG:=AJ AQ (AJ (AJ AQ (.block (.loop [(8,.one (.int J9))] [0,1,7] iU))) BQ)
abbrev qL:bG:= .cond fP AQ
abbrev wc:bG:=Bj 3 (AJ CX (AJ AQ (AJ CX (AJ (AJ AQ (.cond (Bj 4 AQ) AQ)) (AJ AQ (AJ (AJ AQ qL) fP))))))
abbrev lD:bG:= .block AQ
abbrev nJ:bG:=AJ AQ (AJ Ea (AJ lD AQ))
abbrev nK:bG:=AJ AQ (AJ Ea (AJ (.block EK) AQ))
abbrev qM:bG:=AJ CX AQ
abbrev qN:bG:=AJ AQ (AJ Ea (AJ (.block (Bj 2 qM)) AQ))
abbrev nL:bG:= .cond EK AQ
abbrev kA:bG:=AJ AQ nL
abbrev qO:bG:= .cond BQ CX
abbrev nM:bG:=AJ AQ qO
abbrev kB:bG:=AJ CX EK
abbrev qP:bG:=AJ CX gG
abbrev we:bG:=Bj 3 (AJ (AJ AQ (.cond gG AQ)) (AJ CX qP))
abbrev iV:bG:=Bj 2 Ea
abbrev qQ:bG:= .block (AJ AQ (.cond BQ nM))
abbrev wg:bG:=AJ AQ (AJ (AJ (.aU [(12,.one .bool)] [0,1]) DT) BQ)
abbrev wh:bG:=AJ AQ (AJ Ea (AJ (.block (Bj 3 DT)) AQ))
abbrev wk:bG:=AJ (.aU [(20,.one .bool)] [0,1]) DT
abbrev wm:bG:=AJ (.aU [(19,.one .bool)] [0,1]) DT
abbrev wq:bG:=AJ (.aU [(13,.one .bool)] [0,1]) DT
abbrev wu:bG:=Bj 2 (AJ CX (Bj 4 AQ))
abbrev qR:bG:=AJ CX fP
abbrev qS:bG:=AJ MM AQ
abbrev qT:bG:=AJ CX O7
abbrev qU:bG:=AJ AQ kB
abbrev wv:bG:=AJ AQ (.cond CX AQ)
abbrev qV:bG:=AJ AQ qM
theorem AX {a:ao}{f:Q8}{args:List J0}{b:aa}{c:A2X}{d:Prop}(e:bG)(g:d=qZ a P f e args b c)(h:d):AA a P f args.toArray b c:=AJY mixed (g▸h)
end Go.Lf.G
