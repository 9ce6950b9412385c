/-
 LIFT, part K: reasoning about heaps: what is kept, what lies where, slices that are read, slices that are owned.
-/
import Derived.Test.YtfiljlifdlfkkaaGreatDoorLfAToN1
import Derived.Laws.FloatArith
import Derived.MapKept
import Derived.Maps.Own
import Derived.Lib.Bytealg
import Derived.Sort.KeysCollected
import Derived.StringKeys
import Derived.Laws.BytesString
import Derived.Laws.BytesArg
import Derived.Laws.StructEq
import Derived.ChangeKeysEq
set_option maxRecDepth 100000
set_option linter.unusedVariables false
set_option linter.unusedSimpArgs false
open Go.IntKind renaming i64→J9,wrap→J8
open Go.Value renaming string→J7,int→J6,pointer→J5,slice→J4,bool→J3,tuple→J1
open Go.Obj renaming cells→J2
open Go renaming Value→J0,Addr→Q6,TypeId→Q7,FuncId→Q8,Program→Q1
open Go.Addr renaming add→Q9,mk→Q5
namespace Go.Lf
theorem add_add(a:Q6)(m b:Nat):(a.add m).add b=a.add (m+b):=by
 unfold Addr.add;by_cases c:m=0
 ·subst c;simp
 ·by_cases d:b=0
  ·subst d;simp[c]
  ·have:m+b≠0:=by omega
   simp[c,d,Jx]
theorem add_zero(a:Q6):a.add 0=a:=by simp[Addr.add]
theorem aQ(a:Q6)(b:Nat):(a.add b).block=a.block:=by unfold Addr.add;split<;>rfl
theorem CE(b c a:Nat):(⟨b,c,none⟩:Q6).add a=⟨b,c+a,none⟩:=by unfold Addr.add;by_cases d:a=0<;>simp[d]
structure Mod (S:Nat->Prop) (h h':aa):Prop where
 size:h.size<=h'.size
 get: ∀b,b<h.size-> ¬S b->h'[b]? =h[b]?
abbrev Ext:=Mod (λ_=>False)
theorem Mod.refl {b:Nat->Prop}{a:aa}:Mod b a a:=⟨A0 _,λ_ _ _=>rfl⟩
theorem Mod.trans {d:Nat->Prop}{e f g:aa}(a:Mod d e f)(b:Mod d f g):Mod d e g:=
 ⟨AK a.size b.size,λc h i=>(b.get c (Fc h a.size) i).trans (a.get c h i)⟩
theorem Mod.ak {e S':Nat->Prop}{d f:aa}(a:Mod e d f)(h: ∀b,b<d.size->e b->S' b):Mod S' d f:=⟨a.size,λc g i=>a.get c g λd=>i (h c g d)⟩
theorem Ext.mod {d:Nat->Prop}{b c:aa}(a:Ext b c):Mod d b c:=a.ak λ_ _ b=>b.elim
theorem Mod.then {e:Nat->Prop}{d f g:aa}(a:Mod e d f)(b:Mod (λc=>e c\/d.size<=c) f g):Mod e d g:=
 ⟨AK a.size b.size,λc h i=>(b.get c (Fc h a.size) (λd=>d.elim i (λd=>by omega))).trans (a.get c h i)⟩
theorem Mod.push {d:Nat->Prop}(a:aa)(e:Obj):Mod d a (a.push e):=
 ⟨by simp,λb c _=>by rw[R1 c];simp[c]⟩
theorem Mod.ag {c:Nat->Prop}{d e:aa}(a:Mod c d e){b:Nat}{f:Obj}(g:d[b]? =some f)(h: ¬c b):e[b]? =some f:=
 (a.get b (Array.getElem?_eq_some_iff.1 g).1 h).trans g
theorem Aj {a:aa}{b:Nat}{c:Obj}(d:a[b]? =some c):b<a.size:=(Array.getElem?_eq_some_iff.1 d).1
theorem ZH {b:aa}{a:Q6}{v:J0}(c:af b a=some v):a.block<b.size:=by
 unfold af at c;cases d:b[a.block]? with
 |none=>rw[d] at c;cases c
 |some e=>exact Aj d
theorem RP {b c:aa}{a:Q6}(d:c[a.block]? =b[a.block]?):af c a=af b a:=by unfold af;rw[d]
theorem Mod.af {b:Nat->Prop}{c d:aa}(m:Mod b c d){a:Q6}{v:J0}(e:af c a=some v)(f: ¬b a.block):Lf.af d a=some v:=
 (RP (m.get _ (ZH e) f)).trans e
theorem Ext.af {b c:aa}(m:Ext b c){a:Q6}{v:J0}(d:Lf.af b a=some v):Lf.af c a=some v:=Mod.af m d (λb=>b)
theorem JE {a:aa}{b c:Nat}{d:Array J0}{T:Q7}{fr:Nat×Nat}(e:a[b]? =some (.cells d T fr)):af a ⟨b,c,none⟩=d[c]? :=by simp[af,e]
theorem Po {a:aa}{b c:Nat}{d:Array J0}{T:Q7}(e:a[b]? =some (.cells d T (0,0))):fL a ⟨b,c,none⟩=false:=by simp[fL,e]
theorem wM {a:aa}{b c:Nat}{d:Array J0}{T:Q7}{fr:Nat×Nat}{v:J0}(e:a[b]? =some (.cells d T fr)):
  (cS a ⟨b,c,none⟩ v)[b]? =some (.cells (d.setIfInBounds c v) T fr):=by
 simp[cS,KB,e]
theorem AMF {b:aa}{a:Q6}{v:J0}{c:Nat}(d:c≠a.block):(cS b a v)[c]? =b[c]? :=by simp[cS,KB,Ne.symm d]
theorem qz {b:aa}{a:Q6}{v:J0}:(cS b a v).size=b.size:=by simp[cS]
theorem Mod.set {S:Nat->Prop}{b:aa}{a:Q6}{v:J0}(c:S a.block):Mod S b (cS b a v):=
 ⟨by rw[qz];exact A0 _,λ_ _ d=>AMF (λe=>d (e▸c))⟩
theorem aj.mk {a:aa}{c:Obj}{K:Nat->aa->Prop}(d: ∀b,b=a.push c->b[a.size]? =some c->Ext a b->b.size=a.size+1->K a.size b):aj a c K:=
 d _ rfl (by simp) (Mod.push a c) (by simp)
theorem ab.mk {a:aa}{b c:Nat}{v:J0}{d:Array J0}{T:Q7}{K:aa->Prop}(f:a[b]? =some (.cells d T (0,0)))(g:c<d.size)
  (h: ∀e,e[b]? =some (.cells (d.setIfInBounds c v) T (0,0))->Mod (· =b) a e->e.size=a.size->K e):ab a ⟨b,c,none⟩ v K:=
 ⟨⟨d[c],by rw[JE f];simp[g]⟩,Po f,h _ (wM f) (Mod.set rfl) qz⟩
theorem ae.intro {b:Bool}{a c:Prop}(d:b=true->a)(e:b=false->c):ae b a c:=by
 cases b
 ·exact e rfl
 ·exact d rfl
theorem ae.yes {b:Bool}{a c:Prop}(d:b=true)(e:a):ae b a c:=by subst d;exact e
theorem ae.no {b:Bool}{c a:Prop}(d:b=false)(e:a):ae b c a:=by subst d;exact e
theorem aS.mk {p:Q2}{len:Nat}{a:Q6}{k:Nat}{K:Q6->Prop}(b:p=some a)(d:k<len)(c:K a):aS p len (k:Int) K:=
 ⟨a,b,⟨by omega,by omega⟩,c⟩
theorem YP.mk {b:Bool}{K:Prop}(a:b=true)(c:K):YP b K:=by subst a;exact c
theorem ah.mk {a:Type}{b:a->aa->Prop}{body:(a->aa->Prop)->Prop}(d: ∀K:a->aa->Prop,(∀ x c,b x c->K x c)->body K):ah b body:=d
theorem Er.func {A:ao}{P:Q1}{f:Q8}{first bN args:Array J0}{h:aa}{R:A30}
  (c:(callFunc f (first++args++bN)).calc P=some (.enter f (first++args++bN))) (d:AA A P f (first++args++bN) h R):Er A P (.func (.func f) first bN) args h R:=by
 intro a;have e:=De c (A.at h a);have g:(do let b <-Deferred.ofValue (.func (.func f) first bN) args;invoke b.target b.args:Sem Next).run P (A.at h a)= .ok (.enter f (first++args++bN)) (A.at h a):=by simp only[Deferred.ofValue,Sem.run_bind,Sem.run_pure,Result.andThen_ok,invoke];exact e
 rw[g];exact d a
structure cr (α:Type) where
 enc:α->List J0
 w:Nat
 len: ∀x,(enc x).length=w
 pos:0<w
 one: ∀x v,v∈enc x->MH v=true
variable {α : Type}
def Cells(c:aa)(a:Q6)(d:List J0):Prop:= ∀b v,d[b]? =some v->af c (a.add b)=some v
theorem Cells.mod {b:Nat->Prop}{d e:aa}{a:Q6}{f:List J0}(c:Cells d a f)(m:Mod b d e)(g: ¬b a.block):Cells e a f:=
 λh v i=>m.af (c h v i) (by rw[aQ];exact g)
structure View (E:cr α) (h:aa) (s:Sl) (l:List α):Prop where
 len:s.len=l.length
 cap:s.len<=s.cap
 cells: ∀i x,l[i]? =some x-> ∃a,s.p=some a/\Cells h (a.add (i*E.w)) (E.enc x)
def Sl.ag(s:Sl):Option Nat:=s.p.map (·.block)
theorem View.mod {c:cr α}{d:Nat->Prop}{e f:aa}{s:Sl}{l:List α}(v:View c e s l)(m:Mod d e f)(h: ∀b,s.ag=some b-> ¬d b):View c f s l:=
 ⟨v.len,v.cap,λi x hi=>let ⟨a,g,j⟩:=v.cells i x hi;⟨a,g,j.mod m (by rw[aQ];exact h _ (by simp[Sl.ag,g]))⟩⟩
theorem View.ext {b:cr α}{a c:aa}{s:Sl}{l:List α}(v:View b a s l)(m:Ext a c):View b c s l:=v.mod m λ_ _ a=>a
theorem View.nil {b:cr α}{a:aa}:View b a ⟨none,0,0⟩ []:=⟨rfl,A0 _,λ_ _ a=>by simp at a⟩
structure Own (E:cr α) (T:Q7) (h:aa) (s:Sl) (l:List α):Prop where
 len:s.len=l.length
 row:(s=⟨none,0,0⟩/\l= [])\/ ∃g cur,s.p=some ⟨g,0,none⟩/\h[g]? =some (.cells cur T (0,0))/\s.len<=s.cap/\s.cap<=maxLen/\cur.size=s.cap*E.w/\cur.toList.take (s.len*E.w)=l.flatMap E.enc
theorem Own.nil {a:cr α}{T:Q7}{b:aa}:Own a T b ⟨none,0,0⟩ []:=⟨rfl,.inl ⟨rfl,rfl⟩⟩
theorem dk {E:cr α}: ∀ {l:List α} {i:Nat} {x:α},l[i]? =some x-> ∀a v,(E.enc x)[a]? =some v->(l.flatMap E.enc)[i*E.w+a]? =some v
 | [],i,x,b,_,_,_=>by simp at b
 |y::l,0,x,b,a,v,c=>by
  simp at b;subst b;rw[AW,HX,AH,FF (List.getElem?_eq_some_iff.1 c).1];exact c
 |y::l,i+1,x,b,a,v,c=>by
  have d:=dk (E:=E) (l:=l) (i:=i) (by simpa using b) a v c;rw[AW,DE (by rw[E.len,CN];omega),E.len];rw[show(i+1)*E.w+a-E.w=i*E.w+a by rw[CN];omega];exact d
theorem LA {E:cr α}: ∀ {l:List α},(l.flatMap E.enc).length=l.length*E.w
 | []=>by simp
 |x::l=>by rw[AW,A1,LA,E.len,Ax,CN];omega
theorem Own.view {E:cr α}{T:Q7}{a:aa}{s:Sl}{l:List α}(b:Own E T a s l):View E a s l:=by
 rcases b.row with⟨rfl,rfl⟩|⟨g,k,c,d,e,_,m,f⟩
 ·exact View.nil
 ·refine⟨b.len,e,λi x hi=>⟨_,c,λh v j=>?_⟩⟩;have:=dk (E:=E) hi h v j;rw[<- f,Fo] at this;split at this
  ·rw[add_add,CE,JE d];simpa using this
  ·cases this
theorem Own.mod {a:cr α}{T:Q7}{c:Nat->Prop}{d e:aa}{s:Sl}{l:List α}(f:Own a T d s l)(m:Mod c d e)(i: ∀b,s.ag=some b-> ¬c b):Own a T e s l:=by
 refine⟨f.len,?_⟩;rcases f.row with j|⟨g,k,h,n,rest⟩
 ·exact .inl j
 ·exact .inr ⟨g,k,h,m.ag n (i g (by simp[Sl.ag,h])),rest⟩
theorem Own.ext {b:cr α}{T:Q7}{a c:aa}{s:Sl}{l:List α}(d:Own b T a s l)(m:Ext a c):Own b T c s l:=d.mod m λ_ _ a=>a
theorem Own.lit {E:cr α}{T:Q7}{c:aa}{b:Nat}{l:List α}{a:Array J0}(e:c[b]? =some (.cells a T (0,0)))(d:a.toList=l.flatMap E.enc)(f:l.length<=maxLen):
  Own E T c ⟨some ⟨b,0,none⟩,l.length,l.length⟩ l:=by
 have g:a.size=l.length*E.w:=by rw[<- FG,d,LA]
 exact⟨rfl,.inr ⟨b,a,rfl,e,A0 _,f,g,by rw[d];exact As (by rw[LA];exact A0 _)⟩⟩
def Qr(P:Q1)(t T:Q7)(a b:Nat):Bool:=
 match P.underlying t with
 |some (.slice c)=>Nat.beq c T&&match P.info? T with
  |some i=>Nat.beq i.size a&&Nat.beq i.bytes b&&match i.zero with
   |some z=>Nat.beq z.cells.size a
   |none=>false
  |none=>false
 |_=>false
theorem wN {P:Q1}{t T:Q7}{b c:Nat}(a:Qr P t T b c=true):
  P.underlying t=some (.slice T)/\ ∃i z,P.info? T=some i/\i.zero=some z/\i.size=b/\i.bytes=c/\z.cells.size=b:=by
 unfold Qr at a;split at a
 ·rename_i g d;split at a
  ·rename_i i hi;split at a
   ·rename_i z e;simp only[A3,Nat.beq_eq] at a;obtain⟨rfl,⟨rfl,rfl⟩,f⟩:=a;exact⟨d,i,z,hi,e,rfl,rfl,f⟩
   ·simp at a
  ·simp at a
 ·simp at a
theorem wO {A:ao}{b a:World}{h:aa}{n:Nat}(c:b=A.at h n)(d:a.os=b.os)(e:a.tape=b.tape)(f:a.output=b.output):a=A.at a.heap a.drawn:=by
 subst c;cases a;simp only[ao.at] at*
 simp[d,e,f]
theorem Uc {v:J0}(a:MH v=true):v.oneCell'=true:=by cases v<;>first|rfl|(simp[MH] at a)
theorem Own.kM {a:cr α}{T:Q7}{A:ao}{b:aa}{s:Sl}{l:List α}{n:Nat}(c:Own a T b s l):(A.at b n).ownsRow 0 T a.w (.slice s.p s.len s.cap) s.len (l.flatMap a.enc):=by
 refine⟨by rw[LA,c.len],?_⟩;rcases c.row with⟨rfl,rfl⟩|⟨g,d,e,f,h,i,j,k⟩
 ·exact .inl ⟨rfl,rfl⟩
 ·exact .inr ⟨g,s.cap,d,by rw[e],A6 _,f,h,i,j,k⟩
theorem AJW {a:cr α}{T:Q7}{c:World}{v:J0}{b:Nat}{l:List α}(d:c.ownsRow 0 T a.w v b (l.flatMap a.enc))(e:b=l.length):
  ∃s:Sl,v= .slice s.p s.len s.cap/\Own a T c.heap s l/\(v= .slice none 0 0->s=⟨none,0,0⟩):=by
 rcases d.2 with⟨rfl,p⟩|⟨g,f,h,rfl,_,i,j,k,m,n⟩
 ·have:l= []:=CM (by omega);subst this;exact⟨⟨none,0,0⟩,rfl,Own.nil,λ_=>rfl⟩
 ·refine⟨⟨some ⟨g,0,none⟩,b,f⟩,rfl,⟨e,.inr ⟨g,h,rfl,i,j,k,m,n⟩⟩,λo=>by cases o⟩
theorem II {A:ao}{P:Q1}{E:cr α}{t p T:Q7}{L:Nat}(al:Qr P t T E.w L=true){d:aa}{s src:Sl}{l m:List α}{K:Sl->aa->Prop}
  (h:Own E T d s l) (M:View E d src m) (j:(l.length+m.length)*L<=140737488355328) (V:l.length+m.length<=maxLen)
  (W: ∀f y,Own E T y f (l++m)->Mod (λb=>s.ag=some b) d y->(∀ b,f.ag=some b->s.ag=some b\/d.size<=b)->(f.p=none↔s.p=none/\m= [])->K f y):
  Af A P (Builtin.append_ #[t,t] p #[.slice s.p s.len s.cap,.slice src.p src.len src.cap]) d λv y=> ∃f:Sl,v= .slice f.p f.len f.cap/\K f y:=by
 obtain⟨q,i,z,hi,N,F,hB,am⟩:=wN al;intro n;have O:=M.len;by_cases Q:m= []
 ·subst Q;simp only[Hc,AS,CT] at*
  have an:(Builtin.append_ #[t,t] p #[.slice s.p s.len s.cap,.slice src.p src.len src.cap]).run P (A.at d n)= .ok (.slice s.p s.len s.cap) (A.at d n):=by
   have R:s.len<=s.cap:=h.view.cap;have r: ∀S:World,(Builtin.firstCells i.size 0 (.slice src.p 0 src.cap)).run P S= .ok #[] S:=by intro S;cases src.p<;>simp[Builtin.firstCells,loadCells,loadCellsFrom]
   cases o:s.p with
   |none=>simp[Builtin.append_,BK q,run_sizeOf hi,Builtin.lenOf,O,R,r]
   |some a=>simp[Builtin.append_,BK q,run_sizeOf hi,Builtin.lenOf,O,R,r,storeCells]
  exact⟨_,d,n,an,s,rfl,W s d h Mod.refl (λb j=> .inl j) (by simp)⟩
 ·have X:0<m.length:=List.length_pos_iff.2 Q;obtain⟨a,Y,_⟩:=M.cells 0 m[0] (by simp[X]);have G: ∀e u,(m.flatMap E.enc)[e]? =some u->(A.at d n).cell? (a.add e)=some u:=by
   intro e u Z;have ap:e<m.length*E.w:=by rw[<- LA (E:=E)];exact(List.getElem?_eq_some_iff.1 Z).1
   have aq:e / E.w<m.length:=Nat.div_lt_of_lt_mul (by rw[Cl];exact ap);have k:e % E.w<E.w:=By _ E.pos;have H:m[e / E.w]? =some m[e / E.w]:=by simp[aq]
   have ab:e % E.w<(E.enc m[e / E.w]).length:=by rw[E.len];exact k
   have r:=dk (E:=E) H (e % E.w) _ (A2 ab);have ac:e / E.w*E.w+e % E.w=e:=Nat.div_add_mod' e E.w;rw[ac,Z] at r;obtain⟨aF,ae,ar⟩:=M.cells _ _ H;rw[Y] at ae;cases ae;have:=ar (e % E.w) _ (A2 ab);rw[add_add,ac] at this;rw[Bk] at r;rw[r];exact this
  have I: ∀u∈m.flatMap E.enc,u.oneCell'=true:=by intro u au;obtain⟨x,_,H⟩:=List.mem_flatMap.1 au;exact Uc (E.one x u H)
  obtain⟨af,w,k,ag,B,aG⟩:=run_append_own (P:=P) (A.at d n) 0 t p T i z E.w L q hi N F hB am E.pos (.slice s.p s.len s.cap) s.len (l.flatMap E.enc) h.kM a m.length src.cap (m.flatMap E.enc)
   (by rw[LA]) G I (by rw[h.len];exact V) (by rw[h.len];exact j) (A6 _)
  rw[<- Mz] at ag;obtain⟨f,U,av,aH⟩:=AJW ag (by rw[h.len,A1]);have aw:w=A.at w.heap w.drawn:=wO rfl B.os B.tape B.output;have J:(m.flatMap E.enc).length=m.length*i.size:=by rw[LA,F]
  have ah:((s.len+m.length:Nat):Int)<=9223372036854775807:=by have:=V;simp only[maxLen] at this;rw[h.len];omega
  have ai:(s.len+m.length)*i.bytes<=140737488355328:=by rw[h.len,hB];exact j
  have ax: ∃g c,af= .slice (some ⟨g,0,none⟩) (s.len+m.length) c/\(s.ag=some g\/g=d.size):=by
   rcases h.row with⟨rfl,rfl⟩|⟨g,ay,o,az,R,aI,aA,aJ⟩
   ·have C:=run_append_nil (P:=P) (A.at d n) t p T i z q hi N a m.length src.cap (m.flatMap E.enc) J G X (by simpa using ah) (by have:=ai;simp only[AH] at this;omega);rw[C] at k;cases k;exact⟨d.size,_,by rw[AH];rfl,.inr rfl⟩
   ·by_cases aj:s.len+m.length<=s.cap
    ·have C:=run_append_room (P:=P) (A.at d n) t p T i q hi g s.len s.cap ay az a m.length src.cap (m.flatMap E.enc) J G I aj (by rw[J,aA,<-F,<-CN];exact Bm _ aj);rw[o,C] at k;cases k;exact⟨g,_,rfl,.inl (by simp[Sl.ag,o])⟩
    ·have C:=run_append_grow (P:=P) (A.at d n) t p T i z q hi N ⟨g,0,none⟩ s.len s.cap (l.flatMap E.enc) (by rw[LA,h.len,F])
      (h.kM (A:=A) (n:=n) |>.cells (g:=g) (by simp[Value.ownBlock,o])) a m.length src.cap (m.flatMap E.enc) J G (by omega) ah (growslice_fits (by omega) ai)
     rw[o,C] at k;cases k;exact⟨d.size,_,rfl,.inr rfl⟩
  obtain⟨g,c,aC,aD⟩:=ax;have ak:f.p=some ⟨g,0,none⟩:=by rw[aC] at U;injection U with I _ _;exact I.symm
  refine⟨af,w.heap,w.drawn,?_,f,U,W f w.heap av ⟨B.size,?_⟩ ?_ ?_⟩
  ·rw[Y,O,<-aw];exact k
  ·intro b j aE;refine B.block b j ?_;intro D;apply aE;unfold Sl.ag;cases o:s.p with
   |none=>rw[o] at D;simp[Value.ownBlock] at D
   |some a=>rw[o] at D;simp[Value.ownBlock] at D;simp[D]
  ·intro b j;simp[Sl.ag,ak] at j;subst j;rcases aD with d|d
   ·exact .inl d
   ·exact .inr (by omega)
  ·rw[ak];simp[Q]
theorem Loop.rule {b:Type}{g:(b->aa->Prop)->b->aa->Prop}(d:Nat->b->aa->Prop)
  (step: ∀K m x a,d m x a->(∀ c e f,c<m->d c e f->K e f)->g K x a) {m:Nat} {x:b} {a:aa} (h:d m x a):Loop g x a:=by
 intro K i
 induction m using Nat.strongRecOn generalizing x a with
 |_ m j=>exact i _ _ (step K m x a h λc e f k l=>j c k l)
theorem FD {a:Nat}(c:a<=9223372036854775807):J8 J9 (a:Int)=(a:Int):=by
 simp only[J8,IntKind.bits,IntKind.signed];have b:((a:Int)) % ((2:Int)^64)=a:=by omega
 have d: ¬((a:Int)>=(2:Int)^(64-1)):=by omega
 simp only[b];simp;omega
theorem Ab {a:Nat}(b:a<9223372036854775807):J8 J9 ((a:Int)+(1:Int))=((a+1:Nat):Int):=by rw[show((a:Int)+1)=((a+1:Nat):Int) by omega];exact FD b
theorem TL.mk {b:aa}{a:Q6}{K:J0->Prop}{v:J0}(c:af b a=some v)(d:K v):TL b a K:=⟨v,c,d⟩
theorem AC.mk {b:aa}{a:Q6}{k:IntKind}{K:Int->Prop}{n:Int}(c:af b a=some (.int k n))(d:K n):AC k b a K:=⟨n,c,d⟩
theorem Aa.mk {b:aa}{a:Q6}{K:Bool->Prop}{n:Bool}(c:af b a=some (J3 n))(d:K n):Aa b a K:=⟨n,c,d⟩
theorem AL.mk {b:aa}{a:Q6}{K:A31->Prop}{n:A31}(c:af b a=some (J7 n))(d:K n):AL b a K:=⟨n,c,d⟩
theorem AY.mk {b:aa}{a:Q6}{K:Q2->Prop}{n:Q2}(c:af b a=some (J5 n))(d:K n):AY b a K:=⟨n,c,d⟩
theorem AV.mk {b:aa}{a:Q6}{K:Sl->Prop}{s:Sl}(c:af b a=some (J4 s.p s.len s.cap))(d:K s):AV b a K:=⟨s,c,d⟩
theorem AO {a:aa}{b c:Nat}{d:Array J0}{T:Q7}{fr:Nat×Nat}{v:J0}(e:a[b]? =some (J2 d T fr))(f:d[c]? =some v):af a ⟨b,c,none⟩=some v:=by rw[JE e];exact f
theorem AB {a:aa}{b c:Nat}{d:Array J0}{T:Q7}{fr:Nat×Nat}{v:J0}(e:a[b]? =some (J2 d T fr))(f:d[c]? =some v):af a ((⟨b,0,none⟩:Q6).add c)=some v:=by rw[CE,AH];exact AO e f
structure Pr where
 key:A31
 val:A31
 gone:Bool
deriving DecidableEq
def Pr.agg(x:Pr):J0:= .agg #[J7 x.key,J7 x.val,J3 x.gone]
def Pr.cells(x:Pr):Array J0:= #[J7 x.key,J7 x.val,J3 x.gone]
def Be:cr Pr where
 enc x:= [J7 x.key,J7 x.val,J3 x.gone]
 w:=3
 len _:=rfl
 pos:=by omega
 one x v a:=by simp at a;rcases a with rfl|rfl|rfl<;>rfl
def gR:cr Sl where
 enc s:= [J4 s.p s.len s.cap]
 w:=1
 len _:=rfl
 pos:=by omega
 one x v a:=by simp at a;subst a;rfl
structure gS where
 v:J0
 one:MH v=true
def jE:cr gS where
 enc s:= [s.v]
 w:=1
 len _:=rfl
 pos:=by omega
 one x v a:=by simp at a;subst a;exact x.one
theorem View.idx {b:Type}{c:cr b}{d:aa}{s:Sl}{l:List b}(v:View c d s l){i:Nat}{x:b}(hi:l[i]? =some x){K:Q6->Prop}
  (f: ∀a,s.p=some a->Cells d (a.add (i*c.w)) (c.enc x)->K a):aS s.p s.len ((i:Nat):Int) K:=by
 obtain⟨a,e,g⟩:=v.cells i x hi;have:i<s.len:=by rw[v.len];exact(List.getElem?_eq_some_iff.1 hi).1
 exact aS.mk e this (f a e g)
theorem Cells.pair {b:aa}{a:Q6}{x:Pr}(c:Cells b a (Be.enc x)):af b a=some (J7 x.key)/\af b (a.add 1)=some (J7 x.val)/\af b (a.add 2)=some (J3 x.gone):=by have d:=c 0 _ rfl;rw[add_zero] at d;exact⟨d,c 1 _ rfl,c 2 _ rfl⟩
theorem Cells.sl {b:aa}{a:Q6}{x:Sl}(c:Cells b a (gR.enc x)):af b a=some (J4 x.p x.len x.cap):=by have d:=c 0 _ rfl;rwa [add_zero] at d
theorem Cells.val {b:aa}{a:Q6}{x:gS}(c:Cells b a (jE.enc x)):af b a=some x.v:=by have d:=c 0 _ rfl;rwa [add_zero] at d
theorem aj.pair {a:aa}{T:Q7}{j k:A31}{l:Bool}{d v:A31}{g:Bool}{K:Nat->aa->Prop}
  (n: ∀b c,b=a.size->c[b]? =some (J2 #[J7 d,J7 v,J3 g] T (0,0))->Ext a c->c.size=a.size+1->K b c):
  aj a (J2 #[J7 j,J7 k,J3 l] T) λb e=>ab e ⟨b,0,none⟩ (J7 d) λf=>ab f ((⟨b,0,none⟩:Q6).add 1) (J7 v) λh=>ab h ((⟨b,0,none⟩:Q6).add 2) (J3 g) λi=>K b i:=by
 refine aj.mk λe _ o p y=>?_
 refine ab.mk o (by simp) λf q r z=>?_
 rw[CE,CE];refine ab.mk q (by simp) λh s t A=>?_
 refine ab.mk s (by simp) λi u w B=>?_
 refine n _ _ rfl (by simpa using u) ?_ (by omega);have m:=(r.trans t).trans w;exact⟨by omega,λb x _=>(m.get b (by omega) (by omega)).trans (p.get b x (by simp))⟩
theorem aj.aU {k:ao}{P:Q1}{t m T:Q7}{g:Nat}{e:Type}{E:cr e}{x:e}{h:Array J0}(n:h.toList=E.enc x)(o:Qr P t T E.w g=true){d:aa}{s:Sl}{l:List e}{K:Sl->aa->Prop}
  (p:Own E T d s l) (q:(l.length+1)*g<=140737488355328) (r:l.length+1<=maxLen)
  (u: ∀a c,Own E T c a (l++ [x])->Mod (λb=>s.ag=some b) d c->(∀ b,a.ag=some b->s.ag=some b\/d.size<=b)->a.p≠none->K a c):
  aj d (J2 h T) λb f=>Af k P (Builtin.append_ #[t,t] m #[J4 s.p s.len s.cap,J4 (some ⟨b,0,none⟩) 1 1]) f λv c=> ∃a:Sl,v=J4 a.p a.len a.cap/\K a c:=by
 refine aj.mk λf _ w i G=>?_
 have y:Own E T f ⟨some ⟨d.size,0,none⟩,1,1⟩ [x]:=Own.lit (E:=E) (l:= [x]) w (by simp[n]) (by simp[maxLen]);refine II (s:=s) (src:=⟨some ⟨d.size,0,none⟩,1,1⟩) o (p.ext i) y.view (by simpa using q) (by simpa using r) λa c z A B C=>?_
 refine u a c z ?_ ?_ ?_
 ·exact i.mod.trans A
 ·intro b D;rcases B b D with j|j
  ·exact .inl j
  ·exact .inr (by omega)
 ·intro F;have:=(C.1 F).2;simp at this
theorem View.sub {d:Type}{b:cr d}{e:aa}{s:Sl}{l:List d}(v:View b e s l){lo hi:Nat}(h:lo<=hi)(j:hi<=l.length):
  View b e ⟨BJ s.p s.cap lo b.w,hi-lo,s.cap-lo⟩ ((l.take hi).drop lo):=by
 have k:=v.cap;have m:=v.len;refine⟨by simp;omega,by simp;omega,λi x c=>?_⟩;rw[C5,Fo] at c;split at c
 ·rename_i n;obtain⟨a,f,g⟩:=v.cells _ _ c;refine⟨a.add (lo*b.w),?_,?_⟩
  ·unfold BJ;simp only[f];rw[if_neg (by omega)];rfl
  ·rw[add_add,<-CN];exact g
 ·cases c
theorem qA {p:Q2}{e lo f:Nat}{b:Nat}{len c:Nat}(d:Sl.ag ⟨BJ p e lo f,len,c⟩=some b):p.map (·.block)=some b:=by
 unfold Sl.ag BJ at d;simp only at d;split at d
 ·exact d
 ·cases p with
  |none=>simp at d
  |some a=>simp[aQ] at d;simp[d]
def Yields(f:ao)(P:Q1)(h:J0)(l:List Pr)(d:Nat->Bool->(Nat->Prop)->aa->Prop):Prop:=
 ∀i x c a,l[i]? =some x->d i true c a->Er f P h #[x.agg] a λv e=> ∃g O',v=J3 g/\(∀ b,O' b->c b\/a.size<=b)/\Mod c a e/\d (i+1) g O' e
structure Body (h:aa) (J:Nat->Bool->(Nat->Prop)->aa->Prop):Prop where
 wf: ∀i g O hh,J i g O hh-> ∀b,O b->b<hh.size
 aW: ∀i g O hh h',J i g O hh->Mod (λb=>¬O b/\h.size<=b) hh h'->J i g O h'
def EO(k:ao)(P:Q1)(fv:J0)(j:Nat->Prop)(m:aa)(l:List Pr):Prop:=
 (∀ b,j b->b<m.size)/\ ∃f d,fv= .func (.func f) #[] d/\(∀ a,(callFunc f (#[]++ #[a]++d)).calc P=some (.enter f (#[]++ #[a]++d)))/\
  ∀(c:aa),(∀ b,j b->c[b]? =m[b]?)-> ∀a e h,MH a=true->(∀ b,j b-> ¬h b)->Body c e->Yields k P a l e->e 0 true h c->
   AA k P f (#[]++ #[a]++d) c λv n=>v=J1 #[]/\ ∃i g O',Mod h c n/\(∀ b,O' b->h b\/c.size<=b)/\e i g O' n/\(g=true->i=l.length)/\i<=l.length
theorem EO.ak {e:ao}{P:Q1}{fv:J0}{c S':Nat->Prop}{g d:aa}{l:List Pr}(i:EO e P fv c g l)(h: ∀b,c b->S' b)(j: ∀b,S' b->b<d.size)(k: ∀b,c b->d[b]? =g[b]?):EO e P fv S' d l:=by obtain⟨_,f,m,n,o,p⟩:=i;refine⟨j,f,m,n,o,λq r s t u v hd=>p q (λb a=>(r b (h b a)).trans (k b a)) s t u v λb a=>hd b (h b a)⟩
theorem EO.one {a:ao}{P:Q1}{fv:J0}{b:Nat->Prop}{c:aa}{l:List Pr}(d:EO a P fv b c l):MH fv=true/\jv fv/\YE fv=false:=by obtain⟨_,f,e,rfl,_⟩:=d;exact⟨rfl,by simp[jv],rfl⟩
def wP(x:Pr):ir [.agg [.str,.str,.bool]]:=((x.key,x.val,x.gone,()),())
def wQ(l:Nat)(rec:Go.Loop)(c:aa)(d:Nat->Prop)(e:(Nat->Prop)->aa->Prop)(a:aa):Prop:=
 ∃O',(∀ b,O' b->d b\/c.size<=b)/\Mod (λb=>d b\/b=l) c a/\a[l]? =some (.loop {rec with state:= .busy})/\e O' a
theorem Mod.setObj {S:Nat->Prop}{a:aa}{l:Nat}{c:Obj}(d:S l):Mod S a (a.setIfInBounds l c):=
 ⟨by simp,λb _ e=>by rw[Ds];intro f;exact e (f▸d)⟩
theorem Ce {a:aa}{l:Nat}{b:Obj}(c:l<a.size):(a.setIfInBounds l b)[l]? =some b:=by simp[c]
theorem YO {O:ao}{P:Q1}{fv:J0}{E:Nat->Prop}{Q a:aa}{l:List Pr}(ai:EO O P fv E Q l)(R: ∀b,E b->a[b]? =Q[b]?)
  (Inv:Nat->Option (Option Nat)->(Nat->Prop)->aa->Prop) (n:Nat->Prop) (hd: ∀b,E b-> ¬n b)
  {body:ir [.agg [.str,.str,.bool]]->Nat->aa->(aa->Prop)->(Option Nat->aa->Prop)->Prop} {S:aa->Prop} {T:Option Nat->aa->Prop}
  (G: ∀i c n j,Inv i c n j-> ∀b,n b->b<j.size)
  (y: ∀i c n j k,Inv i c n j->Mod (λb=>¬n b/\a.size<=b) j k->Inv i c n k)
  (U:Inv 0 none n a)
  (round: ∀i x m j rec V W,l[i]? =some x->Inv i none m j-> ¬m (a.size+1)->a.size+1<j.size->j[a.size+1]? =some (.loop rec)->rec.state= .ready->
   (∀ k,wQ (a.size+1) rec j m (Inv (i+1) none) k->V k)->(∀ o k,wQ (a.size+1) rec j m (Inv (i+1) (some o)) k->W o k)->body (wP x) (a.size+1) j V W)
  (fin: ∀O' k,Inv l.length none O' k->Mod n a k-> ¬O' a.size->(∀ b,O' b->n b\/a.size<=b)->k[a.size]? =some (.deferred (some []))->S k)
  (aj: ∀i o O' k,Inv i (some o) O' k->i<=l.length->Mod n a k-> ¬O' a.size->(∀ b,O' b->n b\/a.size<=b)->k[a.size]? =some (.deferred (some []))->T o k):
  YB O P fv [.agg [.str,.str,.bool]] body a S T:=by
 intro rec F H ay ak;obtain⟨al,f,X,rfl,am,an⟩:=ai;have Y: ∀b,n b->b<a.size:=G _ _ _ _ U;have Z: ∀b,E b->b<a.size:=λb e=>by
  have:=R b e;rw[Fl (al b e)] at this;exact Aj this
 have I:Ext a ((a.push (.deferred (some []))).push (.loop rec)):=(Mod.push a _).trans (Mod.push _ _);have az:((a.push (.deferred (some []))).push (.loop rec)).size=a.size+2:=by simp
 refine⟨f,_,?_,AA.mono (an ((a.push (.deferred (some []))).push (.loop rec)) (λb e=>(I.get b (Z b e) (by simp)).trans (R b e)) (.func (.yield (a.size+1)) #[] #[])
  (λi g C j=> ∃m:Nat->Prop,(∀ b,C b↔m b\/b=a.size\/b=a.size+1)/\ ¬m a.size/\ ¬m (a.size+1)/\(∀ b,m b->n b\/a.size<=b)/\a.size+2<=j.size/\j[a.size]? =some (.deferred (some []))/\
   match g with
   |true=>j[a.size+1]? =some (.loop rec)/\Inv i none m j
   |false=> ∃o w,j[a.size+1]? =some (.loop w)/\w.state≠ .busy/\w.pending=some (kp o)/\Inv i (some o) m j)
  (λb=>n b\/b=a.size\/b=a.size+1) rfl ?_ ?_ ?_ ?_) ?_⟩
 ·have ap:(do let ab <-Deferred.ofValue (.func (.func f) #[] X) #[.func (.yield (a.size+1)) #[] #[]];invoke ab.target ab.args:Sem Next).calc P=(callFunc f (#[]++ #[.func (.yield (a.size+1)) #[] #[]]++X)).calc P:=rfl;unfold Nr;rw[ap,am]
 ·intro b e d;have:=Z b e;rcases d with d|d|d
  ·exact hd b e d
  ·omega
  ·omega
 ·constructor
  ·rintro i g C j ⟨m,p,_,_,_,J,_,s⟩ b e;rcases(p b).1 e with d|d|d
   ·cases g
    ·obtain⟨o,w,_,_,_,z⟩:=s;exact G _ _ _ _ z b d
    ·exact G _ _ _ _ s.2 b d
   ·omega
   ·omega
  ·rintro i g C j k ⟨m,p,u,t,A,J,B,s⟩ q;have ac:Mod (λb=>¬m b/\a.size<=b) j k:=q.ak λb _ e=>⟨λd=>e.1 ((p b).2 (.inl d)),by omega⟩
   have aq:k[a.size]? =j[a.size]? :=q.get _ (by omega) λe=>e.1 ((p _).2 (.inr (.inl rfl)))
   have ae:k[a.size+1]? =j[a.size+1]? :=q.get _ (by omega) λe=>e.1 ((p _).2 (.inr (.inr rfl)))
   refine⟨m,p,u,t,A,by have:=q.size;omega,aq.trans B,?_⟩;cases g
   ·obtain⟨o,w,d,h,K,z⟩:=s;exact⟨o,w,ae.trans d,h,K,y _ _ _ _ _ z ac⟩
   ·exact⟨ae.trans s.1,y _ _ _ _ _ s.2 ac⟩
 ·rintro i x C j hi ⟨m,p,u,t,A,J,B,af,z⟩;refine ak (wP x) j _ af (round i x m j rec _ _ hi z t (by omega) af F ?_ ?_)
  ·rintro k ⟨O',r,q,L,M⟩;have N:a.size+1<k.size:=by have:=q.size;omega
   refine⟨_,L,true,λb=>O' b\/b=a.size\/b=a.size+1,rfl,?_,?_,O',λ_=>CA,?_,?_,?_,?_,?_,?_,?_⟩
   ·rintro b (e|e)
    ·rcases r b e with d|d
     ·exact .inl ((p b).2 (.inl d))
     ·exact .inr d
    ·exact .inl ((p b).2 (.inr e))
   ·refine(q.trans (Mod.setObj (.inr rfl))).ak λb _ e=>(p b).2 (e.elim .inl λd=> .inr (.inr d))
   ·intro d;rcases r _ d with h|h
    ·exact u h
    ·omega
   ·intro d;rcases r _ d with h|h
    ·exact t h
    ·omega
   ·intro b e;rcases r _ e with h|h
    ·exact A _ h
    ·exact .inr (by omega)
   ·simp;omega
   ·rw[Ds (by omega)];exact(q.get _ (by omega) (by rintro(d|d);exact u d;omega)).trans B
   ·rw[Ce N];cases rec;simp at F H;simp[F,H]
   ·refine y _ _ _ _ _ M (Mod.setObj ⟨?_,by omega⟩);intro d;rcases r _ d with h|h
    ·exact t h
    ·omega
  ·rintro o k ⟨O',r,q,L,M⟩;have N:a.size+1<k.size:=by have:=q.size;omega
   refine⟨_,L,false,λb=>O' b\/b=a.size\/b=a.size+1,rfl,?_,?_,O',λ_=>CA,?_,?_,?_,?_,?_,o,{rec with state:= .done,pending:=some (kp o)},?_,?_,rfl,?_⟩
   ·rintro b (e|e)
    ·rcases r b e with d|d
     ·exact .inl ((p b).2 (.inl d))
     ·exact .inr d
    ·exact .inl ((p b).2 (.inr e))
   ·refine(q.trans (Mod.setObj (.inr rfl))).ak λb _ e=>(p b).2 (e.elim .inl λd=> .inr (.inr d))
   ·intro d;rcases r _ d with h|h
    ·exact u h
    ·omega
   ·intro d;rcases r _ d with h|h
    ·exact t h
    ·omega
   ·intro b e;rcases r _ e with h|h
    ·exact A _ h
    ·exact .inr (by omega)
   ·simp;omega
   ·rw[Ds (by omega)];exact(q.get _ (by omega) (by rintro(d|d);exact u d;omega)).trans B
   ·exact Ce N
   ·simp
   ·refine y _ _ _ _ _ M (Mod.setObj ⟨?_,by omega⟩);intro d;rcases r _ d with h|h
    ·exact t h
    ·omega
 ·refine⟨n,λ_=>CA,λd=>?_,λd=>?_,λb e=> .inl e,by omega,?_,?_⟩;rotate_left 2
  ·rw[R1 (by simp)];simp
  ·exact⟨by have ar:a.size+1=(a.push (.deferred (some []))).size:=(by simp);rw[ar];exact Rg,y _ _ _ _ _ U I.mod⟩
  ·have:=Y _ d;omega
  ·have:=Y _ d;omega
 ·rintro v h ⟨_,i,g,C,q,aA,⟨m,p,u,t,A,J,B,s⟩,au,av⟩;have ag: ∀D,Mod n a (h.setIfInBounds (a.size+1) (.loop D)):=λD=>by
   refine⟨by simp;omega,λb e aw=>?_⟩;rw[Ds (by omega)];exact(q.get b (by omega) (by rintro(d|d|d);exact aw d;omega;omega)).trans (I.get b e (by simp))
  have ah: ∀D,(h.setIfInBounds (a.size+1) (.loop D))[a.size]? =some (.deferred (some [])):=λD=>by
   rw[Ds (by omega)];exact B
  cases g
  ·obtain⟨o,w,d,K,ax,z⟩:=s;exact⟨w,d,K,.inr ⟨o,ax,aj i o m _ (y _ _ _ _ _ z (Mod.setObj ⟨t,by omega⟩)) av (ag _) u A (ah _)⟩⟩
  ·refine⟨rec,s.1,by simp[F],.inl ⟨H,fin m _ ?_ (ag _) u A (ah _)⟩⟩;have:=au rfl;subst this;exact y _ _ _ _ _ s.2 (Mod.setObj ⟨t,by omega⟩)
open Go Ieee
abbrev fD:Format:=Ieee.double
theorem AMG(s:Bool)(m u v:Nat):signed s m (u+v)=signed s m u*(2:Int)^v:=by
 unfold signed;rw[NX,NX,GF,<-Fm];split
 ·push_cast;rw[Lq]
 ·push_cast;rfl
def DV(b:Datum)(c:Int):Prop:= ∃s m,∃a:Nat,b= .number s m (-(a:Int))/\signed s m 0=c*(2:Int)^a
def VR(b:Nat)(a:Int):Prop:=DV (fD.read b) a
theorem Oe(s:Bool)(m u:Nat):signed s m u=signed s m 0*(2:Int)^u:=by have:=AMG s m 0 u;rwa [AH] at this
theorem pow_pos(a:Nat):(0:Int)<(2:Int)^a:=Int.pow_pos (by decide)
theorem AI9(a b:Int)(c:Nat):compare (a*(2:Int)^c) (b*(2:Int)^c)=compare a b:=by have d:=pow_pos c;simp only[compare,compareOfLessAndEq];have e:(a*2^c<b*2^c)↔a<b:=Int.mul_lt_mul_right d;have f:(a*2^c=b*2^c)↔a=b:=Int.mul_eq_mul_right_iff (by omega);by_cases g:a<b<;>by_cases h:a=b<;>simp[e,f,g,h]
theorem DV.order {x d:Datum}{e m:Int}(f:DV x e)(h:DV d m):x.order d=some (compare e m):=by
 obtain⟨s,a,c,rfl,i⟩:=f;obtain⟨t,b,l,rfl,g⟩:=h;simp only[Datum.order];congr 1;have j:(-(c:Int)-min (-(c:Int)) (-(l:Int))).toNat=max c l-c:=by omega
 have k:(-(l:Int)-min (-(c:Int)) (-(l:Int))).toNat=max c l-l:=by omega
 rw[j,k,Oe s,Oe t,i,g,HG,HG,<-HI,<-HI,show c+(max c l-c)=max c l by omega,show l+(max c l-l)=max c l by omega,AI9]
theorem VR.order {x a:Nat}{b m:Int}(c:VR x b)(d:VR a m):fD.order x a=some (compare b m):=DV.order c d
theorem cmp_eq {a m:Int}:(compare a m= .eq)↔a=m:=by simp only[compare,compareOfLessAndEq];by_cases b:a<m<;>by_cases c:a=m<;>simp[b,c]<;>omega
theorem rG {a m:Int}:(compare a m= .lt)↔a<m:=by simp only[compare,compareOfLessAndEq];by_cases b:a<m<;>by_cases c:a=m<;>simp[b,c]
theorem lN {a m:Int}:(compare a m= .gt)↔m<a:=by simp only[compare,compareOfLessAndEq];by_cases b:a<m<;>by_cases c:a=m<;>simp[b,c]<;>omega
theorem za(neg:Bool){a:Nat}(b:a<fD.signWeight):
  fD.read (fD.word neg a)=if a<fD.binade then .number neg a fD.leastPlace else if a<fD.infRung then .number neg (fD.binade+a % fD.binade) (fD.leastPlace+(a / fD.binade-1:Nat)) else if a=fD.infRung then .infinity neg else .nan neg (a-fD.infRung):=by
 have c:0<fD.signWeight:=GO _;have d:(fD.word neg a / fD.signWeight % 2==1)=neg:=by
  unfold Format.word;cases neg
  ·simp[Nat.div_eq_of_lt b]
  ·simp[Nat.add_div_left _ c,Nat.div_eq_of_lt b]
 have e:fD.word neg a % fD.signWeight=a:=by
  unfold Format.word;cases neg
  ·simp[A5 b]
  ·simp[A5 b]
 unfold Format.read;simp only[d,e]
theorem VA(s:Bool)(u:Nat):signed s 0 u=0:=by cases s<;>simp[signed]
theorem og:fD.binade=4503599627370496:=by decide
theorem rH:fD.infRung=9218868437227405312:=by decide
theorem zd:fD.signWeight=9223372036854775808:=by decide
theorem lO:fD.leastPlace= -1074:=by decide
theorem AVZ:fD.fractionBits=52:=rfl
theorem ze(neg:Bool):VR (fD.word neg 0) 0:=by refine⟨neg,0,1074,?_,by rw[VA,Sh]⟩;rw[za neg (by rw[zd];decide),if_pos (by rw[og];decide),lO];rfl
theorem Yz {v:Nat}(f:0<v)(K:Nat):(v*2^K).log2=v.log2+K:=by
 have a:v≠0:=by omega
 have c:0<2^K:=GO K;have b:v*2^K≠0:=Nat.mul_ne_zero a (by omega);have d:2^v.log2<=v:=(Ss a).1 (A0 _);have e:v<2^(v.log2+1):=(Of a).1 (Ks _);have g:v.log2+K<=(v*2^K).log2:=by rw[Ss b,GF];exact Bm _ d
 have h:(v*2^K).log2<v.log2+1+K:=by rw[Of b,GF];exact SD e c
 omega
theorem ARv(neg:Bool)(a:Nat):Toward.even.cut neg a 0=a:=by simp[Toward.cut,Nat.mod_one]
theorem zf(b:Toward)(neg:Bool){M a:Nat}(c:0<M):b.cut neg (M*2^a) a=M:=by
 unfold Toward.cut;have hd:min a ((M*2^a).log2+2)=a:=by rw[Yz c];omega
 have d:0<2^a:=GO a;simp only[hd,Nat.one_shiftLeft,Nat.mul_mod_left,Nat.mul_div_cancel _ d];cases b
 ·have e: ¬(2^a=0):=by omega
  simp[e]
 all_goals simp
theorem AQ7 {a M:Nat}(b:a<=52)(c:M<9007199254740992):min ((a+1022)*4503599627370496+M) 9218868437227405312=(a+1022)*4503599627370496+M:=by omega
theorem AUN {a M:Nat}(b:4503599627370496<=M): ¬(a+1022)*4503599627370496+M<4503599627370496:=by omega
theorem AUa {a M:Nat}(b:a<=52)(c:M<9007199254740992):(a+1022)*4503599627370496+M<9218868437227405312:=by omega
theorem zg {a M:Nat}(b:4503599627370496<=M)(c:M<9007199254740992):((a+1022)*4503599627370496+M) % 4503599627370496=M-4503599627370496/\((a+1022)*4503599627370496+M) / 4503599627370496=a+1023:=by omega
theorem AUR {M:Nat}(a:4503599627370496<=M):4503599627370496+(M-4503599627370496)=M:=by omega
theorem AUg {a:Nat}(b:a<=52):(-1074:Int)+((a+1023-1:Nat):Int)=(a:Int)-52:=by omega
theorem AU8 {a:Nat}(b:a<=52):(a:Int)-52= -((52-a:Nat):Int):=by omega
theorem AUh {a M:Nat}(b:a<=52)(c:M<9007199254740992):(a+1022)*4503599627370496+M<9223372036854775808:=by omega
theorem AFv(neg:Bool){v K:Nat}(i:0<v)(j:v<9007199254740992):VR (fD.nearest neg (v*2^K) (-(K:Int))) (if neg then -(v:Int) else v):=by
 have e:v≠0:=by omega
 have k:=Yz i K;have b:v.log2<=52:=by have:v.log2<53:=(Of e).2 (by simpa using j);omega
 have l:2^v.log2<=v:=(Ss e).1 (A0 _);have m:v<2^(v.log2+1):=(Of e).1 (Ks _);have n: ¬v*2^K=0:=Nat.mul_ne_zero e (by have:=GO K;omega);generalize u:v.log2=a at*
 have f:4503599627370496<=v*2^(52-a):=by have c:2^a*2^(52-a)<=v*2^(52-a):=Bm _ l;rw[<- GF,show a+(52-a)=52 by omega] at c;exact c
 have d:v*2^(52-a)<9007199254740992:=by have c:v*2^(52-a)<2^(a+1)*2^(52-a):=SD m (GO _);rw[<- GF,show a+1+(52-a)=53 by omega] at c;exact c
 have o:fD.nearest neg (v*2^K) (-(K:Int))=fD.word neg ((a+1022)*4503599627370496+v*2^(52-a)):=by
  unfold Format.nearest;rw[if_neg n];have p:max (-(K:Int)+((v*2^K).log2:Nat)-(fD.fractionBits:Nat)) fD.leastPlace=(a:Int)-52:=by rw[k,lO,AVZ];push_cast;omega
  simp only[p];have q:Toward.even.cut neg ((v*2^K) <<< (-(K:Int)-((a:Int)-52)).toNat) (((a:Int)-52)- -(K:Int)).toNat=v*2^(52-a):=by
   by_cases w:K+a<=52
   ·have g:(((a:Int)-52)- -(K:Int)).toNat=0:=by omega
    have h:(-(K:Int)-((a:Int)-52)).toNat=52-a-K:=by omega
    rw[g,h,ARv,NX,Fm,<-GF];congr 2;omega
   ·have g:(((a:Int)-52)- -(K:Int)).toNat=a+K-52:=by omega
    have h:(-(K:Int)-((a:Int)-52)).toNat=0:=by omega
    have r:v*2^K=(v*2^(52-a))*2^(a+K-52):=by rw[Fm,<-GF];congr 2;omega
    rw[g,h,DQ,r,zf _ _ (by omega)]
  have s:(((a:Int)-52)-fD.leastPlace).toNat=a+1022:=by rw[lO];omega
  rw[q,s,og,rH,AQ7 b d]
 rw[o];have t:(a+1022)*4503599627370496+v*2^(52-a)<fD.signWeight:=by rw[zd];exact AUh b d
 refine⟨neg,v*2^(52-a),52-a,?_,?_⟩
 ·rw[za neg t,og,rH,lO,if_neg (AUN f),if_pos (AUa b d),(zg f d).1,(zg f d).2,AUR f,AUg b,AU8 b]
 ·unfold signed;rw[DQ];cases neg
  ·simp
  ·simp[Lq]
theorem rI {s:Bool}{a:Nat}{K:Nat}{n:Int}(b:signed s a 0=n*(2:Int)^K)(i:n.natAbs<9007199254740992):VR (fD.write (.number s a (-(K:Int)))) n:=by
 show VR (fD.nearest s a (-(K:Int))) n;have g:=pow_pos K;have j:(2:Int)^K=((2^K:Nat):Int):=by push_cast;rfl
 by_cases k:n=0
 ·subst k;have d:a=0:=by unfold signed at b;rw[DQ,Sh] at b;split at b<;>omega
  subst d;have e:fD.nearest s 0 (-(K:Int))=fD.word s 0:=by unfold Format.nearest;rw[if_pos rfl]
  rw[e];exact ze s
 ·have d:a=n.natAbs*2^K/\(if s then -(n.natAbs:Int) else n.natAbs)=n:=by
   unfold signed at b;rw[DQ] at b;have h:(a:Int).natAbs=(n*2^K).natAbs:=by rw[<- b];split<;>simp
   have e:(n*2^K).natAbs=n.natAbs*2^K:=by rw[SJ,j,Ly]
   refine⟨by rw[e] at h;simpa using h,?_⟩;split at b
   ·rename_i f;rw[if_pos f];have:n*(2:Int)^K<=0:=by omega
    have:n<=0:=by
     rcases Int.lt_or_le 0 n with c|c
     ·have:=Int.mul_pos c g;omega
     ·exact c
    omega
   ·rename_i f;rw[if_neg f];have:0<=n*(2:Int)^K:=by omega
    have:0<=n:=by
     rcases Int.lt_or_le n 0 with c|c
     ·have:=Int.mul_neg_of_neg_of_pos c g;omega
     ·exact c
    omega
  rw[d.1];have:=AFv s (v:=n.natAbs) (K:=K) (by omega) i;rw[d.2] at this;exact this
theorem VW {n:Int}(c:n.natAbs<9007199254740992):VR (floatOfInt .f64 n) n:=by
 show VR (fD.write (.number (n<0) n.natAbs 0)) n;have:=rI (s:=decide (n<0)) (a:=n.natAbs) (K:=0) (n:=n) (by
  unfold signed;rw[DQ];split
  ·rename_i b;simp at b;simp;omega
  ·rename_i b;simp at b;simp;omega) c
 simpa using this
theorem AJ9(t:Int):signed (decide (t<0)) t.natAbs 0=t:=by
 unfold signed;rw[DQ];split
 ·rename_i a;simp at a;omega
 ·rename_i a;simp at a;omega
theorem DV.sum {x e:Datum}{d m:Int}(i:DV x d)(j:DV e m)(k:(d+m).natAbs<9007199254740992): ∃f,x.sum e=some f/\VR (fD.write f) (d+m):=by
 obtain⟨s,a,c,rfl,n⟩:=i;obtain⟨t,b,l,rfl,g⟩:=j;refine⟨_,rfl,?_⟩;have o:min (-(c:Int)) (-(l:Int))= -((max c l:Nat):Int):=by omega
 have p:(-(c:Int)-min (-(c:Int)) (-(l:Int))).toNat=max c l-c:=by omega
 have q:(-(l:Int)-min (-(c:Int)) (-(l:Int))).toNat=max c l-l:=by omega
 have r:signed s a (-(c:Int)-min (-(c:Int)) (-(l:Int))).toNat+signed t b (-(l:Int)-min (-(c:Int)) (-(l:Int))).toNat=(d+m)*(2:Int)^(max c l):=by rw[p,q,Oe s,Oe t,n,g,HG,HG,<-HI,<-HI,show c+(max c l-c)=max c l by omega,show l+(max c l-l)=max c l by omega,Int.add_mul]
 simp only[r];rw[o];generalize u:(d+m)*(2:Int)^(max c l)=T at*
 refine rI ?_ k;rw[u];split
 ·rename_i h;rw[h];exact(VA _ _).trans (by rw[<- h])
 ·exact(AJ9 T)
theorem DV.opposite {x:Datum}{b:Int}(c:DV x b):DV x.opposite (-b):=by obtain⟨s,a,d,rfl,e⟩:=c;refine⟨!s,a,d,rfl,?_⟩;rw[Lq,<-e];unfold signed;cases s<;>simp
theorem VR.add {x b:Nat}{a m:Int}(d:VR x a)(e:VR b m)(f:(a+m).natAbs<9007199254740992): ∃c,fD.add x b=some c/\VR c (a+m):=by obtain⟨i,g,h⟩:=DV.sum d e f;unfold Format.add;rw[g];exact⟨_,rfl,h⟩
theorem VR.sub {x b:Nat}{a m:Int}(d:VR x a)(e:VR b m)(f:(a-m).natAbs<9007199254740992): ∃c,fD.sub x b=some c/\VR c (a-m):=by obtain⟨i,g,h⟩:=DV.sum d (DV.opposite e) (by rw[<- Int.sub_eq_add_neg];exact f);unfold Format.sub;rw[g];exact⟨_,rfl,by rw[Int.sub_eq_add_neg];exact h⟩
theorem VR.mul {x d:Nat}{c m:Int}(h:VR x c)(i:VR d m)(j:(c*m).natAbs<9007199254740992): ∃e,fD.mul x d=some e/\VR e (c*m):=by
 obtain⟨s,a,f,k,n⟩:=h;obtain⟨t,b,l,o,g⟩:=i;unfold Format.mul;rw[k,o];simp only[Datum.product,Hk];refine⟨_,rfl,?_⟩;have p: -(f:Int)+ -(l:Int)= -((f+l:Nat):Int):=by omega
 rw[p];refine rI ?_ j;have:signed (s ^^ t) (a*b) 0=signed s a 0*signed t b 0:=by unfold signed;simp only[DQ];cases s<;>cases t<;>simp[Lq,Int.mul_neg]
 rw[this,n,g,HI];simp only[HG,Int.mul_comm,Int.mul_left_comm]
theorem AQJ(b:Nat):fD.read (Op.negFloat .f64 b)=(fD.read b).opposite:=by
 have a:Op.negFloat .f64 b=b ^^^ 2^63:=rfl;have c:fD.signWeight=2^63:=by decide
 have d:(b ^^^ 2^63) % 2^63=b % 2^63:=by rw[Nat.xor_mod_two_pow];simp
 have e:((b ^^^ 2^63) / 2^63 % 2==1)= !(b / 2^63 % 2==1):=by
  rw[Nat.xor_div_two_pow,Nat.div_self (GO _)];have f:((b / 2^63) ^^^ 1) % 2=1↔ ¬(b / 2^63) % 2=1:=by rw[Nat.xor_mod_two_eq_one];simp
  rw[DH];simp only[beq_iff_eq,Cd,beq_eq_false_iff_ne];exact f
 rw[a];unfold Format.read;rw[c,d,e];simp only;split
 ·rfl
 ·split
  ·rfl
  ·split<;>rfl
theorem VR.neg {x:Nat}{a:Int}(b:VR x a):VR (Op.negFloat .f64 x) (-a):=by unfold VR;rw[AQJ];exact DV.opposite b
theorem DV.toInt {x:Datum}{c:Int}(h:DV x c)(f:Toward):x.toInt f=some c:=by
 obtain⟨s,a,b,rfl,d⟩:=h;have o:=pow_pos b;unfold Datum.toInt Datum.integral;have i:(-(b:Int)).toNat=0:=by omega
 have j:(-(-(b:Int))).toNat=b:=by omega
 simp only[i,j,DQ];by_cases k:c=0
 ·subst k;have e:a=0:=by unfold signed at d;rw[DQ,Sh] at d;split at d<;>omega
  subst e;have:f.cut s 0 b=0:=by
   unfold Toward.cut;cases f<;>simp
   all_goals (rcases CC b 2 with l|l)
   all_goals simp[Nat.one_shiftLeft]
  rw[this,VA]
 ·have e:a=c.natAbs*2^b:=by
   have m:(2:Int)^b=((2^b:Nat):Int):=by push_cast;rfl
   unfold signed at d;rw[DQ] at d;have g:(a:Int).natAbs=(c*2^b).natAbs:=by rw[<- d];split<;>simp
   have n:(c*2^b).natAbs=c.natAbs*2^b:=by rw[SJ,m,Ly]
   rw[n] at g;simpa using g
  rw[e,zf _ _ (by omega)];congr 1;have:signed s a 0=signed s c.natAbs 0*(2:Int)^b:=by
   rw[e];unfold signed;simp only[DQ];split
   ·push_cast;rw[Lq]
   ·push_cast;rfl
  rw[this] at d;exact A0z (by omega) d
theorem VR.toInt {x:Nat}{a:Int}(b:VR x a)(f:a.natAbs<9007199254740992):floatToIntVal .f64 x J9=some a:=by
 have:=DV.toInt b .zero;unfold floatToIntVal;have c:(FloatKind.f64.decode x).toInt .zero=some a:=this;rw[c];have d:IntKind.i64.min= -9223372036854775808:=by simp[IntKind.min,IntKind.bits,IntKind.signed]
 have e:IntKind.i64.max=9223372036854775807:=by simp[IntKind.max,IntKind.bits,IntKind.signed]
 simp only[d,e];rw[if_pos (by omega)]
theorem APA {b:Nat}{s:Bool}{m:Nat}{i:Int}(a:fD.read b= .number s m i):i<=0\/4503599627370496<=m:=by
 unfold Format.read at a;simp only[og,rH,lO] at a;split at a
 ·injection a with _ _ c;exact .inl (by omega)
 ·split at a
  ·injection a with _ d _;exact .inr (by omega)
  ·split at a<;>cases a
theorem ALf(s:Bool)(m u:Nat):(signed s m u).natAbs=m*2^u:=by
 unfold signed;rw[NX];split
 ·rw[Int.natAbs_neg,Ly]
 ·rw[Ly]
theorem VR.of_eq {x k:Nat}{m:Int}(o:VR k m)(u:m.natAbs<4503599627370496)(c:fD.order x k=some .eq):VR x m:=by
 obtain⟨t,b,l,p,g⟩:=o;unfold Format.order at c;rw[p] at c;unfold VR;cases e:fD.read x with
 |nan s f=>rw[e] at c;simp[Datum.order] at c
 |infinity s=>rw[e] at c;cases s<;>simp[Datum.order] at c
 |number s a i=>
  rw[e] at c;simp only[Datum.order,Bk] at c;rw[cmp_eq] at c;by_cases hi:i<=0
  ·refine⟨s,a,(-i).toNat,by rw[show -(((-i).toNat:Nat):Int)=i by omega],?_⟩;generalize v:(-i).toNat=d;have h:(i-min i (-(l:Int))).toNat=max d l-d:=by omega
   have j:(-(l:Int)-min i (-(l:Int))).toNat=max d l-l:=by omega
   rw[h,j,Oe s,Oe t,g,HG,<-HI,show l+(max d l-l)=max d l by omega] at c;refine A0z (a:=(2:Int)^(max d l-d)) (by have:=pow_pos (max d l-d);omega) ?_;rw[c,HG,<-HI,show d+(max d l-d)=max d l by omega]
  ·exfalso;have w:=(APA e).resolve_left hi;have h:(i-min i (-(l:Int))).toNat=i.toNat+l:=by omega
   have j:(-(l:Int)-min i (-(l:Int))).toNat=0:=by omega
   rw[h,j,g] at c;have n:=congrArg Int.natAbs c;have q:(2:Int)^l=((2^l:Nat):Int):=by push_cast;rfl
   rw[ALf,SJ,q,Ly,GF,<-Fm] at n;have y:a*2^i.toNat=m.natAbs:=Nat.eq_of_mul_eq_mul_right (GO l) n;have r:1<=2^i.toNat:=GO _;have z:a*1<=a*2^i.toNat:=Nat.mul_le_mul_left _ r;omega
theorem Af.calc {A:ao}{P:Q1}{s:Sem J0}{h:aa}{K:A30}{v:J0}(a:s.calc P=some v)(b:K v h):Af A P s h K:=λc=>⟨v,h,c,De a _,b⟩
theorem Af.run {A:ao}{P:Q1}{s:Sem J0}{h:aa}{K:A30}{v:J0}(b: ∀a,s.run P a= .ok v a)(c:K v h):Af A P s h K:=λd=>⟨v,h,d,b _,c⟩
section
variable {A : ao} {P : Q1} {t : Q7} {o1 o2 : Operand} {x y : Nat} {h : aa} {K : A30}
abbrev jO(a:BinOp)(t:Q7)(o1 o2:Operand)(x y:Nat):Sem J0:=do eqGuard a t o1 o2 (.float .f64 x) (.float .f64 y);binOp a t (.float .f64 x) (.float .f64 y)
theorem rJ(a:K (J3 (fD.order x y==some .gt||fD.order x y==some .eq)) h):Af A P (jO .geq t o1 o2 x y) h K:=Af.calc rfl a
theorem zi(a:K (J3 (fD.order x y==some .lt||fD.order x y==some .eq)) h):Af A P (jO .leq t o1 o2 x y) h K:=Af.calc rfl a
theorem ASN(a:K (J3 (fD.order x y==some .gt)) h):Af A P (jO .gtr t o1 o2 x y) h K:=Af.calc rfl a
theorem ASS(a:K (J3 (fD.order x y==some .eq)) h):Af A P (jO .eql t o1 o2 x y) h K:=Af.calc rfl a
theorem zj(a:K (J3 (fD.order x y != some .eq)) h):Af A P (jO .neq t o1 o2 x y) h K:=Af.calc rfl a
theorem ASb {a:Nat}(c:fD.add x y=some a)(d:K (.float .f64 a) h):Af A P (jO .add t o1 o2 x y) h K:=by refine Af.run (λb=>?_) d;have:=run_float_arith (P:=P) b .add t .f64 x y a c;simp only[jO,Sem.run_bind];have e:(eqGuard .add t o1 o2 (.float .f64 x) (.float .f64 y)).run P b= .ok () b:=rfl;rw[e,Result.andThen_ok,this]
theorem Oj {op:BinOp}{b:Nat}(a:floatBits op .f64 x y=some b)(c:World):(Op.Complex.arith op .f64 x y).run P c= .ok b c:=by
 unfold floatBits at a;unfold Op.Complex.arith;cases op<;>simp only at a<;>first|(cases a;done)|skip
 all_goals
  have e: ∀d,FloatKind.f64.format=d->True:=λ_ _=>trivial
  simp[Op.floatArith,a]
abbrev rK(d:BinOp)(t:Q7)(o1 o2:Operand)(a b c e:Nat):Sem J0:=do eqGuard d t o1 o2 (.complex .f64 a b) (.complex .f64 c e);binOp d t (.complex .f64 a b) (.complex .f64 c e)
theorem ASr {a b c d g i l j k f:Nat}(m:fD.mul a c=some g)(n:fD.mul b d=some i)(o:fD.sub g i=some l)(p:fD.mul a d=some j)(q:fD.mul b c=some k)(r:fD.add j k=some f)
  (s:K (.complex .f64 l f) h):Af A P (rK .mul t o1 o2 a b c d) h K:=by
 refine Af.run (λe=>?_) s;have u:=Oj (P:=P) (op:= .mul) (x:=a) (y:=c) m e;have v:=Oj (P:=P) (op:= .mul) (x:=b) (y:=d) n e;have w:=Oj (P:=P) (op:= .sub) (x:=g) (y:=i) o e;have z:=Oj (P:=P) (op:= .mul) (x:=a) (y:=d) p e;have B:=Oj (P:=P) (op:= .mul) (x:=b) (y:=c) q e;have C:=Oj (P:=P) (op:= .add) (x:=j) (y:=k) r e;simp only[rK,Sem.run_bind];have D:(eqGuard .mul t o1 o2 (.complex .f64 a b) (.complex .f64 c d)).run P e= .ok () e:=rfl;rw[D,Result.andThen_ok];have E:binOp .mul t (.complex .f64 a b) (.complex .f64 c d)=Op.complexOp .mul .f64 a b c d:=by simp[binOp]
 rw[E];simp[Op.complexOp,Op.Complex.conv,Op.Complex.product,Op.Complex.mul,Op.Complex.sub,Op.Complex.add,Sem.run_bind,u,v,w,z,B,C]
theorem zk {c:Array Q7}{d:Q7}{a b:Nat}(e:K (.float .f64 a) h):Af A P (Builtin.real_ c d #[.complex .f64 a b]) h K:=Af.calc rfl e
theorem rL {c:Array Q7}{d:Q7}{a b:Nat}(e:K (.float .f64 b) h):Af A P (Builtin.imag_ c d #[.complex .f64 a b]) h K:=Af.calc rfl e
theorem AL8 {c:Array Q7}{d:Q7}{a b:Nat}(e:K (.complex .f64 a b) h):Af A P (Builtin.complex_ c d #[.float .f64 a,.float .f64 b]) h K:=Af.calc rfl e
theorem rM {a c:Q7}{b:Nat}{d:Int}(e:P.underlying a=some (.float .f64))(hd:P.underlying c=some (.int J9))(f:floatToIntVal .f64 b J9=some d)(g:K (J6 J9 d) h):Af A P (convert a c (.float .f64 b)) h K:=
 Af.run (λi=>run_convert_float_int i a c .f64 J9 b d (by rw[e];rfl) hd f) g
theorem om {b c:Q7}{a:Int}(d:P.underlying b=some (.int J9))(hd:P.underlying c=some (.float .f64))(e:K (.float .f64 (floatOfInt .f64 a)) h):Af A P (convert b c (J6 J9 a)) h K:=by refine Af.run (λg=>?_) e;have f:FloatKind.f64.nearest a=floatOfInt .f64 a:=rfl;simp[convert,BK d,BK hd,Conv.intToFloat,f]
theorem zl {j:Array Q7}{k:Q7}{a m:Int}(e:VR x a)(f:VR y m)(c: ∀g,VR g (max a m)->K (.float .f64 g) h):Af A P (Builtin.max_ j k #[.float .f64 x,.float .f64 y]) h K:=by
 have l:=VR.order e f;have d:FloatKind.f64.format.order x y=some (compare a m):=l;by_cases n:a<m
 ·have b:compare a m= .lt:=rG.2 n;refine Af.run (v:= .float .f64 y) (λi=>?_) (c y (by rw[show max a m=m by omega];exact f));simp[Builtin.max_,Builtin.max2,d,b]
 ·by_cases o:m<a
  ·have b:compare a m= .gt:=lN.2 o;refine Af.run (v:= .float .f64 x) (λi=>?_) (c x (by rw[show max a m=a by omega];exact e));simp[Builtin.max_,Builtin.max2,d,b]
  ·have p:a=m:=by omega
   subst p;have b:compare a a= .eq:=cmp_eq.2 rfl;refine Af.run (v:= .float .f64 (if(FloatKind.f64.decode x).neg then y else x)) (λi=>?_) (c _ (by rw[show max a a=a by omega];split<;>assumption));simp[Builtin.max_,Builtin.max2,d,b]
end
open Go
theorem toList_inj {a b:A31}:(a.toList==b.toList)=decide (a=b):=by rw[ByteArray.toList_eq,ByteArray.toList_eq];rw[DH];simp[MD,<-Array.toList_inj]
theorem Bj {a b:A31}:bD a b=decide (a=b):=toList_inj
theorem Rj: ∀(a:List UInt8),Op.bytesLess a a=false
 | []=>rfl
 |a::x=>by simp[Op.bytesLess,Rj x]
theorem lA: ∀(a b:List UInt8),Op.bytesLess a b=false->Op.bytesLess b a=false->a=b
 | [],[],_,_=>rfl
 | [],_::_,c,_=>by simp[Op.bytesLess] at c
 |_::_,[],_,c=>by simp[Op.bytesLess] at c
 |a::x,b::f,d,e=>by
  simp only[Op.bytesLess,GC,RE,decide_eq_false_iff_not,beq_eq_false_iff_ne] at d e;have g:a=b:=by have h:=d.1;have i:=e.1;exact UInt8.le_antisymm (UInt8.not_lt.1 i) (UInt8.not_lt.1 h)
  subst g;rw[lA x f (d.2.resolve_left (by simp)) (e.2.resolve_left (by simp))]
theorem UW: ∀(a b c:List UInt8),Op.bytesLess a b=true->Op.bytesLess b c=true->Op.bytesLess a c=true
 |_,[],_,f,_=>by simp[Op.bytesLess] at f
 |_,_::_,[],_,f=>by simp[Op.bytesLess] at f
 | [],_::_,_::_,_,_=>by simp[Op.bytesLess]
 |a::x,b::g,c::z,e,d=>by
  simp only[Op.bytesLess,CH,A3,decide_eq_true_eq,beq_iff_eq] at e d ⊢;rcases e with e|⟨rfl,e⟩
  ·rcases d with d|⟨rfl,d⟩
   ·exact .inl (UInt8.lt_trans e d)
   ·exact .inl e
  ·rcases d with d|⟨rfl,d⟩
   ·exact .inl d
   ·exact .inr ⟨rfl,UW x g z e d⟩
theorem CS(a:A31):aG a a=false:=Rj _
theorem DK {a b c:A31}(d:aG a b=true)(e:aG b c=true):aG a c=true:=UW _ _ _ d e
theorem Mf {a b:A31}(d:aG a b=false)(e:aG b a=false):a=b:=by
 have:=lA _ _ d e;have c:bD a b=true:=by simp[bD,this]
 rw[Bj] at c;simpa using c
theorem Oi {a b:A31}(c:aG a b=true):aG b a=false:=by
 cases d:aG b a
 ·rfl
 ·have:=DK c d;rw[CS] at this;cases this
theorem Lu {a b:A31}(c:aG a b=true):a≠b:=by rintro rfl;rw[CS] at c;cases c
theorem nB {a b c:A31}(d:aG a b=true)(f:aG c b=false):aG a c=true:=by
 cases e:aG b c
 ·rw[Mf f e];exact d
 ·exact DK d e
theorem qE {a b c:A31}(e:aG b a=false)(d:aG c b=false):aG c a=false:=by
 cases f:aG c a
 ·rfl
 ·have:=nB f e;rw[this] at d;cases d
theorem xR: ∀(a b:List UInt8),Op.bytesLess a b=decide (a<b)
 | [],[]=>by simp[Op.bytesLess]
 | [],_::_=>by simp[Op.bytesLess]
 |_::_,[]=>by simp[Op.bytesLess]
 |a::x,b::c=>by
  simp only[Op.bytesLess,xR x c,A0f];by_cases d:a<b<;>by_cases e:a=b<;>simp[d,e]
theorem WL(a b:A31):aG a b=decide (a.data.toList<b.data.toList):=by simp[aG,ByteArray.toList_eq,xR]
def Ih:cr A31 where
 enc x:= [.string x]
 w:=1
 len _:=rfl
 pos:=by omega
 one x v a:=by simp at a;subst a;rfl
def GI:cr Int where
 enc x:= [.int J9 x]
 w:=1
 len _:=rfl
 pos:=by omega
 one x v a:=by simp at a;subst a;rfl
theorem Cells.str {b:aa}{a:Q6}{x:A31}(c:Cells b a (Ih.enc x)):af b a=some (.string x):=by have d:=c 0 _ rfl;rwa [add_zero] at d
theorem Cells.int {b:aa}{a:Q6}{x:Int}(c:Cells b a (GI.enc x)):af b a=some (.int J9 x):=by have d:=c 0 _ rfl;rwa [add_zero] at d
theorem Own.lt {c:Type}{e:cr c}{T:Q7}{d:aa}{s:Sl}{l:List c}(f:Own e T d s l){b:Nat}(a:s.ag=some b):b<d.size:=by
 rcases f.row with⟨rfl,_⟩|⟨g,j,h,i,_⟩
 ·simp[Sl.ag] at a
 ·simp[Sl.ag,h] at a;subst a;exact Aj i
def fQ(a:A31)(v:J0):List (A31×J0)->List (A31×J0)
 | []=> [(a,v)]
 |p::m=>if p.1=a then(a,v)::m else p::fQ a v m
def VB(a:A31)(m:List (A31×J0)):Option J0:=(m.find? λp=>decide (p.1=a)).map (·.2)
def iu(a:A31)(m:List (A31×J0)):List (A31×J0):=m.filter λp=> !decide (p.1=a)
theorem Ov(a:A31)(p:A31×J0)(m:List (A31×J0)):VB a (p::m)=if p.1=a then some p.2 else VB a m:=by unfold VB;rw[DS];by_cases b:p.1=a<;>simp[b]
structure dM (es:Array MapEntry) (clock:Nat) (m:List (A31×J0)):Prop where
 same:es.toList.map (λe=>(e.key,e.val))=m.map λp=>(Value.string p.1,p.2)
 stamped:MapKept.Stamped es clock
 size:es.size<=maxLen
 keys: ∀p∈m,p.1.size<=maxLen
def WX(d:aa)(b:Nat)(m:List (A31×J0)):Prop:= ∃a c,d[b]? =some (.map a c)/\dM a c m
theorem WX.mod {a c:aa}{b:Nat}{m:List (A31×J0)}{d:Nat->Prop}(M:WX a b m)(x:Mod d a c)(e: ¬d b):WX c b m:=by obtain⟨f,g,h,i⟩:=M;exact⟨f,g,x.ag h e,i⟩
theorem WX.lt {a:aa}{b:Nat}{m:List (A31×J0)}(M:WX a b m):b<a.size:=by obtain⟨d,e,c,f⟩:=M;exact Aj c
theorem WX.empty {a:aa}{b c:Nat}(d:a[b]? =some (.map #[] c)):WX a b []:=⟨#[],c,d,rfl,MapKept.stamped_empty c,by simp,by simp⟩
theorem dM.len {a:Array MapEntry}{b:Nat}{m:List (A31×J0)}(M:dM a b m):a.size=m.length:=by rw[<- FG];have:=congrArg List.length M.same;simpa using this
theorem dM.keysOf {a:Array MapEntry}{b:Nat}{m:List (A31×J0)}(M:dM a b m):a.toList.map (·.key)=m.map λp=>Value.string p.1:=by have:=congrArg (List.map Prod.fst) M.same;simpa [Cp,GP] using this
theorem dM.nodup {b:Array MapEntry}{c:Nat}{m:List (A31×J0)}(M:dM b c m):(m.map (·.1)).Nodup:=by
 have a:=M.stamped.2.2;rw[M.keysOf] at a;have d:(m.map λp=>Value.string p.1)=(m.map (·.1)).map Value.string:=by simp
 rw[d] at a;exact(List.pairwise_map.1 a).imp λe f=>e (congrArg _ f)
theorem WF(a:A31)(v:J0): ∀(c:List MapEntry) (m:List (A31×J0)) (i:Nat),(c.map λe=>(e.key,e.val))=(m.map λp=>(Value.string p.1,p.2))->
  (Instr.findNow .string (.string a) c i=some none/\VB a m=none/\fQ a v m=m++ [(a,v)]/\iu a m=m/\ ∀e∈c,e.key≠ .string a)\/
  ∃d u,Instr.findNow .string (.string a) c i=some (some (i+d,u))/\VB a m=some u/\(∃ e,c[d]? =some e/\e.key= .string a)/\((c.modify d λe=> {e with key:= .string a,val:=v}).map λe=>(e.key,e.val))=(fQ a v m).map (λp=>(Value.string p.1,p.2))/\
   ((m.map (·.1)).Nodup->((c.eraseIdx d).map λe=>(e.key,e.val))=(iu a m).map λp=>(Value.string p.1,p.2))
 | [],[],i,_=> .inl ⟨rfl,rfl,rfl,rfl,by simp⟩
 | [],_::_,_,h=>by simp at h
 |_::_,[],_,h=>by simp at h
 |e::c,p::m,i,h=>by
  simp only[BY,Gk,Mn] at h;obtain⟨⟨j,l⟩,n⟩:=h;have o:Instr.sameNow .string (.string a) e.key=some (decide (a=p.1)):=by rw[j];show some (a==p.1)=_;congr 1;rw[DH,MapKept.bytes_beq];simp
  by_cases b:p.1=a
  ·refine .inr ⟨0,e.val,?_,?_,⟨e,rfl,by rw[j,b]⟩,?_,?_⟩
   ·unfold Instr.findNow;rw[o,decide_eq_true b.symm];rfl
   ·rw[Ov,if_pos b,l]
   ·unfold fQ;rw[if_pos b];simp[n]
   ·intro g;have g:=List.nodup_cons.1 g;simp only[List.eraseIdx_zero,List.tail_cons];rw[n];congr 1;unfold iu;rw[AT];simp only[b,decide_true,LN,BW,if_false];refine(List.filter_eq_self.2 λq y=>?_).symm;simp only[Cd,decide_eq_false_iff_not];rintro rfl;exact g.1 (by show p.1∈_;rw[b];exact Kf (f:=Prod.fst) y)
  ·rcases WF a v c m (i+1) n with⟨r,s,t,k,z⟩|⟨d,u,r,s,⟨A,t,B⟩,C,k⟩
   ·refine .inl ⟨?_,?_,?_,?_,?_⟩
    ·unfold Instr.findNow;rw[o,decide_eq_false (λe=>b e.symm)];exact r
    ·rw[Ov,if_neg b];exact s
    ·unfold fQ;rw[if_neg b,t];rfl
    ·unfold iu at k ⊢;rw[AT];simp[b];simpa using k
    ·intro x w;rcases List.mem_cons.1 w with rfl|w
     ·rw[j];intro e;injection e with e;exact b e
     ·exact z x w
   ·refine .inr ⟨d+1,u,?_,?_,⟨A,by simpa using t,B⟩,?_,?_⟩
    ·unfold Instr.findNow;rw[o,decide_eq_false (λe=>b e.symm)];rw[show i+(d+1)=i+1+d by omega];exact r
    ·rw[Ov,if_neg b];exact s
    ·unfold fQ;rw[if_neg b];simp[j,l,C]
    ·intro g;have g:=List.nodup_cons.1 g;have:=k g.2;unfold iu at this ⊢;rw[AT];simp[b,j,l];simpa using this
section
variable {P : Q1}
theorem JX {a:Q7}(c:P.underlying a=some .string)(d:Bool)(e:Nat)(f:A31)(b:World):(Instr.checkKey d (e+1) a (.string f)).run P b= .ok () b:=by simp[Instr.checkKey,BK c]
theorem Rm {g:ao}{t h i:Q7}{z:J0}(j:P.underlying t=some (.map h i))(c:P.underlying h=some .string)(n:(zeroValue i).calc P=some z){a:aa}{b:Nat}{m:List (A31×J0)}{d:A31}{K:A30}
  (M:WX a b m) (o:K ((VB d m).getD z) a):Af g P (Instr.lookup t (.map (some b)) (.string d) false) a K:=by
 intro k;refine⟨_,a,k,?_,o⟩;obtain⟨p,v,q,s⟩:=M;have l:=MapKept.run_getObj_map (P:=P) (w:=g.at a k) (r:=b) q;rcases WF d z p.toList m 0 s.same with⟨e,f,_⟩|⟨x,u,e,f,_,_⟩
 ·simp[Instr.lookup,BK j,l,JX c,Instr.findKey,BK c,e,f,Result.andThen,De n]
 ·simp[Instr.lookup,BK j,l,JX c,Instr.findKey,BK c,e,f,Result.andThen]
theorem xS {b:A31}{v:J0}: ∀ {m:List (A31×J0)} {p:A31×J0},p∈fQ b v m->p.1=b\/p∈m
 | [],p,a=>by simp[fQ] at a;exact .inl (by rw[a])
 |q::m,p,a=>by
  unfold fQ at a;split at a
  ·rcases List.mem_cons.1 a with rfl|a
   ·exact .inl rfl
   ·exact .inr (AI _ a)
  ·rcases List.mem_cons.1 a with rfl|a
   ·exact .inr B8
   ·exact(xS a).imp id (AI _)
theorem AOf {g:ao}{t s I:Q7}(y:P.underlying t=some (.map s I))(h:P.underlying s=some .string){d:aa}{b:Nat}{m:List (A31×J0)}{a:A31}{v:J0}{K:aa->Prop}
  (M:WX d b m) (J:a.size<=maxLen) (U:m.length<maxLen) (z: ∀i,WX i b (fQ a v m)->Mod (λc=>c=b) d i->i.size=d.size->K i):YN g P (Instr.mapUpdate t (.map (some b)) (.string a) v) d K:=by
 intro f;obtain⟨j,l,n,e⟩:=M;have A:=Aj n;have B:=MapKept.run_getObj_map (P:=P) (w:=g.at d f) (r:=b) n;have C: ∀k,(setObj b k).run P (g.at d f)= .ok () (g.at (d.setIfInBounds b k) f):=λk=>MapKept.run_setObj_map (P:=P) (w:=g.at d f) k n
 have D: ∀p∈fQ a v m,p.1.size<=maxLen:=λp L=>(xS L).elim (λd=>by rw[d];exact J) (e.keys p)
 have V:=e.len;rcases WF a v j.toList m 0 e.same with⟨o,N,q,_,O⟩|⟨E,u,o,N,⟨Q,q,F⟩,R,_⟩
 ·refine⟨d.setIfInBounds b (.map (j.push {key:= .string a,val:=v,born:=l}) (l+1)),f,?_,z _ ⟨_,_,Ce A,?_,MapKept.stamped_push e.stamped O,by simp;omega,D⟩ (Mod.setObj rfl) (by simp)⟩
  ·simp[Instr.mapUpdate,BK y,B,JX h,Instr.findKey,BK h,o,Result.andThen,C]
  ·rw[q];simp[e.same]
 ·have G:j[E]? =some Q:=by simpa using q
  refine⟨d.setIfInBounds b (.map (j.modify E λe=> {e with key:= .string a,val:=v}) l),f,?_,z _ ⟨_,_,Ce A,?_,MapKept.stamped_modify e.stamped _ _ (λ_ _=>rfl) (λx _ H=>?_),by simpa using e.size,D⟩ (Mod.setObj rfl) (by simp)⟩
  ·have S: ∀w,(Instr.keyThatStays (.string a) (.string a)).run P w= .ok (.string a) w:=λw=>by
    have T:(a==a)=true:=(MapKept.bytes_beq a a).2 rfl;simp[Instr.keyThatStays,Instr.sameBits,T]
   simp[Instr.mapUpdate,BK y,B,JX h,Instr.findKey,BK h,o,G,F,S,Result.andThen,C]
  ·rw[HA];exact R
  ·rw[G] at H;cases H;exact F.symm
theorem AN7 {g:ao}{t l D E:Q7}(v:P.underlying t=some (.map l D))(h:P.underlying l=some .string){a:aa}{b:Nat}{m:List (A31×J0)}{i:A31}{K:A30}
  (M:WX a b m) (x: ∀j,WX j b (iu i m)->Mod (λc=>c=b) a j->j.size=a.size->K (.tuple #[]) j):Af g P (Builtin.delete_ #[t,l] E #[.map (some b),.string i]) a K:=by
 intro e;obtain⟨f,y,n,d⟩:=M;have z:=Aj n;have A:=MapKept.run_getObj_map (P:=P) (w:=g.at a e) (r:=b) n;have B: ∀k,(setObj b k).run P (g.at a e)= .ok () (g.at (a.setIfInBounds b k) e):=λk=>MapKept.run_setObj_map (P:=P) (w:=g.at a e) k n
 have C: ∀p∈iu i m,p.1.size<=maxLen:=λp F=>d.keys p (List.mem_filter.1 F).1
 rcases WF i (.bool true) f.toList m 0 d.same with⟨o,G,_,q,_⟩|⟨s,u,o,G,⟨H,I,N⟩,_,q⟩
 ·refine⟨_,a.setIfInBounds b (.map f y),e,?_,x _ ⟨_,_,Ce z,by rw[q];exact d.same,d.stamped,d.size,C⟩ (Mod.setObj rfl) (by simp)⟩;simp[Builtin.delete_,BK v,A,JX h,Instr.findKey,BK h,o,Result.andThen,B]
 ·have J:f[s]? =some H:=by simpa using I
  refine⟨_,a.setIfInBounds b (.map (f.eraseIdxIfInBounds s) y),e,?_,x _ ⟨_,_,Ce z,?_,MapKept.stamped_erase d.stamped _,?_,C⟩ (Mod.setObj rfl) (by simp)⟩
  ·simp[Builtin.delete_,BK v,A,JX h,Instr.findKey,BK h,o,Result.andThen,B]
  ·have L:=(Array.getElem?_eq_some_iff.1 J).1;rw[Array.eraseIdxIfInBounds,dif_pos L,A0i];exact q d.nodup
  ·have:(f.eraseIdxIfInBounds s).size<=f.size:=by unfold Array.eraseIdxIfInBounds;split<;>simp
   have:=d.size;omega
end
def kC(_:J0):Option (DataW Unit×List MemPlace):=some (.nil,[])
theorem xT {a:Type}(x:Lit×DataW a): ∀l:List (Lit×DataW a),(DataW.insert x l).Perm (x::l)
 | []=>by simp[DataW.insert]
 |y::b=>by
  unfold DataW.insert;split
  ·exact HM _
  ·exact((xT x b).cons y).trans (List.Perm.swap x y b)
theorem sorted_perm {a:Type}: ∀l:List (Lit×DataW a),(l.foldr DataW.insert []).Perm l
 | []=>HM _
 |x::b=>(xT x _).trans ((sorted_perm b).cons x)
theorem ALr {P:Q1}{kt:Q7}(j:P.underlying kt=some .string){w:World}{b:Nat}{m:List (A31×J0)}(M:WX w.heap b m):
  ∃e:DataW Unit,w.ownsMap P kt kC b m.length e/\(strKeys e).Perm (m.map λp=>p.1.data.toList)/\Maps.size e=m.length:=by
 obtain⟨c,k,l,a⟩:=M;have h: ∀x∈c.toList,∃s:A31,x.key= .string s/\WideElems.rd P kt kC x=some (.string s.data.toList,.nil):=by
  intro x d;have:x.key∈m.map λp=>Value.string p.1:=by rw[<- a.keysOf];exact Kf d
  obtain⟨p,n,i⟩:=List.mem_map.1 this;refine⟨p.1,i.symm,?_⟩;simp[WideElems.rd,<-i,Go.WideMaps.keyOf_string_mk j (a.keys p n),kC]
 refine⟨_,⟨c,k,l,⟨a.size,a.stamped,λx d=>?_⟩,by rw[a.len];exact A0 _,rfl⟩,?_,?_⟩
 ·obtain⟨s,_,f⟩:=h x d;exact⟨_,f⟩
 ·show((c.toList.map (WideElems.rg P kt kC)).foldr DataW.insert [] |>.map λp=>strOf p.1).Perm _;refine((sorted_perm _).map _).trans ?_;have g:(c.toList.map (WideElems.rg P kt kC)).map (λp=>strOf p.1)=(c.toList.map (·.key)).map λv=>match v with| .string s=>s.data.toList|_=> []:=by
   rw[Cp,Cp];refine GS λx d=>?_
   obtain⟨s,g,f⟩:=h x d;simp[Function.comp,WideElems.rg,f,g,strOf]
  rw[g,a.keysOf,Cp];exact List.Perm.of_eq (GS λx _=>rfl)
 ·show((c.toList.map (WideElems.rg P kt kC)).foldr DataW.insert []).length=_;rw[(sorted_perm _).length_eq];simp[a.len]
def nK(l:List A31):Prop:=l.Pairwise λa b=>aG a b=true
theorem AKz {d:List (List UInt8)}{l:List A31}(e:nK l)(f:d.Perm (l.map λx=>x.data.toList)):(d.mergeSort λx g=>decide (x<=g))=l.map λx=>x.data.toList:=by
 have h:=mergeSort_of_perm f;have i:(l.map λx=>x.data.toList).mergeSort leB=l.map λx=>x.data.toList:=by refine List.mergeSort_of_pairwise ?_;refine List.pairwise_map.2 (e.imp λ{a b} c=>?_);rw[WL] at c;simp only[decide_eq_true_eq] at c ⊢;exact List.le_of_lt c
 exact h.trans i
theorem AOM(l:List A31):(l.map λx=>x.data.toList).map Proofs.encStr=l.flatMap Ih.enc:=by
 induction l with
 |nil=>rfl
 |cons x b a=>rw[BY,BY,a,AW];rfl
theorem wrap_u32(a:Nat):J8 .u32 (a:Int)=((a % 4294967296:Nat):Int):=by simp[J8,IntKind.bits,IntKind.signed]
theorem wrap_u64(a:Nat):J8 .u64 (a:Int)=((a % 18446744073709551616:Nat):Int):=by simp[J8,IntKind.bits,IntKind.signed]
theorem QF {a b:Nat}(c:a<4294967296)(d:b<4294967296):Mr .u32 (a:Int) (b:Int)=((a ^^^ b:Nat):Int):=by
 have e:a ^^^ b<2^32:=HJ (by simpa using c) (by simpa using d);unfold Mr;have f:(BitVec.ofInt (IntKind.bits .u32) (a:Int) ^^^ BitVec.ofInt (IntKind.bits .u32) (b:Int)).toNat=a ^^^ b:=by show(BitVec.ofInt 32 (a:Int) ^^^ BitVec.ofInt 32 (b:Int)).toNat=a ^^^ b;rw[BitVec.ofInt_natCast,BitVec.ofInt_natCast,BitVec.toNat_xor,BitVec.toNat_ofNat,BitVec.toNat_ofNat,A5 (by simpa using c),A5 (by simpa using d)]
 rw[f,wrap_u32,A5 (by simpa using e)]
theorem AUB {a b:Nat}(c:a<4294967296)(d:b<4294967296):dK .u32 (a:Int) (b:Int)=((a ||| b:Nat):Int):=by
 have e:a ||| b<2^32:=ID (by simpa using c) (by simpa using d);unfold dK;have f:(BitVec.ofInt (IntKind.bits .u32) (a:Int) ||| BitVec.ofInt (IntKind.bits .u32) (b:Int)).toNat=a ||| b:=by show(BitVec.ofInt 32 (a:Int) ||| BitVec.ofInt 32 (b:Int)).toNat=a ||| b;rw[BitVec.ofInt_natCast,BitVec.ofInt_natCast,BitVec.toNat_or,BitVec.toNat_ofNat,BitVec.toNat_ofNat,A5 (by simpa using c),A5 (by simpa using d)]
 rw[f,wrap_u32,A5 (by simpa using e)]
theorem zn {a b:Nat}(c:a<18446744073709551616)(d:b<18446744073709551616):Mr .u64 (a:Int) (b:Int)=((a ^^^ b:Nat):Int):=by
 have e:a ^^^ b<2^64:=HJ (by simpa using c) (by simpa using d);unfold Mr;have f:(BitVec.ofInt (IntKind.bits .u64) (a:Int) ^^^ BitVec.ofInt (IntKind.bits .u64) (b:Int)).toNat=a ^^^ b:=by show(BitVec.ofInt 64 (a:Int) ^^^ BitVec.ofInt 64 (b:Int)).toNat=a ^^^ b;rw[BitVec.ofInt_natCast,BitVec.ofInt_natCast,BitVec.toNat_xor,BitVec.toNat_ofNat,BitVec.toNat_ofNat,A5 (by simpa using c),A5 (by simpa using d)]
 rw[f,wrap_u64,A5 (by simpa using e)]
theorem ox {a b:Nat}(c:a<18446744073709551616)(d:b<18446744073709551616):dK .u64 (a:Int) (b:Int)=((a ||| b:Nat):Int):=by
 have e:a ||| b<2^64:=ID (by simpa using c) (by simpa using d);unfold dK;have f:(BitVec.ofInt (IntKind.bits .u64) (a:Int) ||| BitVec.ofInt (IntKind.bits .u64) (b:Int)).toNat=a ||| b:=by show(BitVec.ofInt 64 (a:Int) ||| BitVec.ofInt 64 (b:Int)).toNat=a ||| b;rw[BitVec.ofInt_natCast,BitVec.ofInt_natCast,BitVec.toNat_or,BitVec.toNat_ofNat,BitVec.toNat_ofNat,A5 (by simpa using c),A5 (by simpa using d)]
 rw[f,wrap_u64,A5 (by simpa using e)]
theorem rN {a:Nat}(b:a<18446744073709551616):Ec .u64 (a:Int) (4294967295:Int)=((a % 4294967296:Nat):Int):=by
 unfold Ec;have c:(BitVec.ofInt (IntKind.bits .u64) (a:Int) &&& BitVec.ofInt (IntKind.bits .u64) (4294967295:Int)).toNat=a % 4294967296:=by show(BitVec.ofInt 64 (a:Int) &&& BitVec.ofInt 64 ((4294967295:Nat):Int)).toNat=a % 4294967296;rw[BitVec.ofInt_natCast,BitVec.ofInt_natCast,BitVec.toNat_and,BitVec.toNat_ofNat,BitVec.toNat_ofNat,A5 (by simpa using b)];have:=Nat.and_two_pow_sub_one_eq_mod a 32;simpa using this
 rw[c,wrap_u64,A5 (by omega)]
theorem lP(a b:Nat):((a:Nat):Int)*((b:Nat):Int)=((a*b:Nat):Int):=(Int.natCast_mul a b).symm
def hA(a c:Nat):Nat:=((a ^^^ c)*16777619) % 4294967296
def hX(b c:Nat):Nat:=((b+c) % 4294967296*2246822507) % 4294967296
def hB(b c:Nat):Nat:=hX b c ^^^ (hX b c / 8192)
def QT(l:List UInt8):Nat×Nat:=l.foldl (λs c=>(hA s.1 c.toNat,hB s.2 c.toNat)) (2166136261,2538058380)
def RD(a:A31):Nat:=(QT a.data.toList).1
def Jr(a:A31):Nat:=(QT a.data.toList).2 ||| 1
theorem AVa(a c:Nat):hA a c<4294967296:=By _ (by decide)
theorem rO(b c:Nat):hX b c<4294967296:=By _ (by decide)
theorem AVJ(b c:Nat):hB b c<4294967296:=by have a:=rO b c;have:hB b c<2^32:=HJ (by simpa using a) (by have:hX b c / 8192<=hX b c:=HN _ _;omega);simpa using this
theorem Xt(l:List UInt8)(c:UInt8):QT (l++ [c])=(hA (QT l).1 c.toNat,hB (QT l).2 c.toNat):=by simp[QT]
theorem Ze(l:List UInt8):(QT l).1<4294967296/\(QT l).2<4294967296:=by
 rw[<- List.reverse_reverse l];cases l.reverse with
 |nil=>decide
 |cons c a=>rw[SM,Xt];exact⟨AVa _ _,AVJ _ _⟩
theorem rP(a:A31):Jr a<4294967296:=by have:Jr a<2^32:=ID (by have:=(Ze a.data.toList).2;simpa using this) (by decide);simpa using this
theorem YT(a:A31):RD a<4294967296:=(Ze _).1
theorem uq {a c:Nat}(b:a<4294967296)(d:c<256):J8 .u32 ((Mr .u32 (a:Int) (J8 .u32 (c:Int)))*(16777619:Int))=((hA a c:Nat):Int):=by rw[wrap_u32,A5 (by omega),QF b (by omega),show((a ^^^ c:Nat):Int)*(16777619:Int)=(((a ^^^ c)*16777619:Nat):Int) from lP _ 16777619,wrap_u32];rfl
theorem AVF {b c:Nat}(a:b<4294967296)(d:c<256):J8 .u32 ((J8 .u32 ((b:Int)+(J8 .u32 (c:Int))))*(2246822507:Int))=((hX b c:Nat):Int):=by rw[wrap_u32 c,A5 (by omega),show((b:Int)+(c:Int))=((b+c:Nat):Int) by push_cast;rfl,wrap_u32,show(((b+c) % 4294967296:Nat):Int)*(2246822507:Int)=(((b+c) % 4294967296*2246822507:Nat):Int) from lP _ 2246822507,wrap_u32];rfl
theorem PG(n a:Nat):((n:Nat):Int).fdiv ((2:Int)^a)=((n / 2^a:Nat):Int):=by
 rw[UP _ (by have:=Int.pow_pos (n:=2) (m:=a) (by decide);omega)]
 push_cast;rfl
theorem AVX {b c:Nat}(a:b<4294967296)(d:c<256):Mr .u32 (J8 .u32 ((J8 .u32 ((b:Int)+(J8 .u32 (c:Int))))*(2246822507:Int))) ((J8 .u32 ((J8 .u32 ((b:Int)+(J8 .u32 (c:Int))))*(2246822507:Int))).fdiv ((2:Int)^(13:Nat)))=((hB b c:Nat):Int):=by have e:=rO b c;have f:hX b c / 2^13<=hX b c:=HN _ _;rw[AVF a d,PG,QF e (by omega)];rfl
theorem AT8 {a c:Nat}(b:a<4294967296)(d:c<256):Ec .u64 (J8 .u64 ((Mr .u64 (a:Int) (J8 .u64 (c:Int)))*(16777619:Int))) (4294967295:Int)=((hA a c:Nat):Int):=by have e:a ^^^ c<2^32:=HJ (by simpa using b) (by omega);rw[wrap_u64 c,A5 (by omega),zn (by omega) (by omega),show((a ^^^ c:Nat):Int)*(16777619:Int)=(((a ^^^ c)*16777619:Nat):Int) from lP _ 16777619,wrap_u64,A5 (by omega),rN (by omega)];rfl
theorem AUv {b c:Nat}(a:b<4294967296)(d:c<256):Ec .u64 (J8 .u64 ((Ec .u64 (J8 .u64 ((b:Int)+(J8 .u64 (c:Int)))) (4294967295:Int))*(2246822507:Int))) (4294967295:Int)=((hX b c:Nat):Int):=by rw[wrap_u64 c,A5 (by omega),show((b:Int)+(c:Int))=((b+c:Nat):Int) by push_cast;rfl,wrap_u64,A5 (by omega),rN (by omega),show(((b+c) % 4294967296:Nat):Int)*(2246822507:Int)=(((b+c) % 4294967296*2246822507:Nat):Int) from lP _ 2246822507,wrap_u64,A5 (by omega),rN (by omega)];rfl
theorem AU5 {b c:Nat}(a:b<4294967296)(d:c<256):Mr .u64 (Ec .u64 (J8 .u64 ((Ec .u64 (J8 .u64 ((b:Int)+(J8 .u64 (c:Int)))) (4294967295:Int))*(2246822507:Int))) (4294967295:Int)) (J8 .u64 ((Ec .u64 (J8 .u64 ((Ec .u64 (J8 .u64 ((b:Int)+(J8 .u64 (c:Int)))) (4294967295:Int))*(2246822507:Int))) (4294967295:Int)).tdiv (8192:Int)))=((hB b c:Nat):Int):=by have e:=rO b c;have f:hX b c / 8192<=hX b c:=HN _ _;rw[AUv a d,show((hX b c:Nat):Int).tdiv (8192:Int)=((hX b c / 8192:Nat):Int) from(LO (hX b c) 8192).symm,wrap_u64,A5 (by omega),zn (by omega) (by omega)];rfl
theorem Sg {s:A31}{i:Nat}{c:UInt8}(a:s.data.toList[i]? =some c):du s ((i:Nat):Int)=((c.toNat:Nat):Int):=by
 have hi:i<s.data.toList.length:=(List.getElem?_eq_some_iff.1 a).1;have b:i<s.size:=by simpa using hi
 unfold du;have d:((i:Nat):Int).toNat=i:=by omega
 rw[d];have e:s[i]? =some c:=by rw[getElem?_pos s i b];congr 1;have f:=(List.getElem?_eq_some_iff.1 a).2;rw[<- f];rw[Array.getElem_toList];rfl
 rw[e];rfl
def Hl(a:A31):Nat:=(RD a ^^^ (Jr a / 128)) % 4096
theorem Vr(a:A31):Hl a<4096:=By _ (by decide)
def px(t:Nat):Int:=if t<1024 then 1024-(t:Int) else if t<2048 then 1024-(t:Int) else if t<3072 then(t:Int)-3072 else(t:Int)-3072
def py(t:Nat):Int:=if t<1024 then(t:Int) else if t<2048 then 2048-(t:Int) else if t<3072 then 2048-(t:Int) else(t:Int)-4096
theorem AOW {t:Nat}(a:t<4096):max (px t) (-(px t))+max (py t) (-(py t))=1024:=by unfold px py;split<;>(try split)<;>(try split)<;>omega
theorem rQ {t:Nat}(a:t<4096): -1024<=px t/\px t<=1024/\ -1024<=py t/\py t<=1024:=by unfold px py;split<;>(try split)<;>(try split)<;>omega
theorem zo {t:Nat}(a:t<3072):px (t+1024)= -(py t)/\py (t+1024)=px t:=by unfold px py;(repeat' split)<;>omega
theorem AK4 {t:Nat}(a:t<4096):(px t>0/\py t>=0)↔t<1024:=by unfold px py;(repeat' split)<;>omega
theorem zr {t:Nat}(a:t<1024):py t=t/\px t=1024-t:=by unfold px py;rw[if_pos a,if_pos a];exact⟨rfl,rfl⟩
def CP(p:Nat×Nat)(t:Nat):Prop:=t<4096/\VR p.1 (px t)/\VR p.2 (py t)
def oy(s t:Nat):Nat:=(t+4096-s) % 4096
theorem AQc(s t:Nat):oy s t<4096:=By _ (by decide)
def FX(key a:A31):Nat:=oy (Hl key) (Hl a)
def cF(key a b:A31):Bool:=decide (FX key a<FX key b)||(decide (FX key a=FX key b)&&aG a b)
def LH(key:A31):List A31->A31
 | []=>⟨#[]⟩
 |x::l=>l.foldl (λm a=>if cF key a m then a else m) x
theorem zt(key a:A31):cF key a a=false:=by simp[cF,CS]
theorem zu {key a b c:A31}(e:cF key a b=true)(d:cF key b c=true):cF key a c=true:=by
 simp only[cF,CH,A3,decide_eq_true_eq] at*
 rcases e with e|⟨e,g⟩
 ·rcases d with d|⟨d,f⟩
  ·exact .inl (by omega)
  ·exact .inl (by omega)
 ·rcases d with d|⟨d,f⟩
  ·exact .inl (by omega)
  ·exact .inr ⟨by omega,DK g f⟩
theorem AS2 {key a b:A31}(c:cF key a b=false)(d:cF key b a=false):a=b:=by
 simp only[cF,GC,RE,decide_eq_false_iff_not] at*
 have e:FX key a=FX key b:=by omega
 exact Mf (c.2.resolve_left (by omega)) (d.2.resolve_left (by omega))
theorem Uz(key:A31): ∀(l:List A31) (x:A31),(l.foldl (λm c=>if cF key c m then c else m) x=x\/l.foldl (λm c=>if cF key c m then c else m) x∈l)/\
  cF key x (l.foldl (λm c=>if cF key c m then c else m) x)=false/\ ∀c∈l,cF key c (l.foldl (λm c=>if cF key c m then c else m) x)=false
 | [],x=>⟨.inl rfl,zt key x,by simp⟩
 |z::l,x=>by
  rw[Hv];obtain⟨g,f,j⟩:=Uz key l (if cF key z x then z else x);generalize l.foldl (λm c=>if cF key c m then c else m) (if cF key z x then z else x)=i at*
  have k: ∀ {p q:A31},cF key p q=false->cF key q i=false->cF key p i=false:=λ{p q} a b=>by
   cases d:cF key p i
   ·rfl
   ·cases n:cF key q p
    ·have:=AS2 a n;subst this;rw[b] at d;cases d
    ·have:=zu n d;rw[b] at this;cases this
  by_cases h:cF key z x=true
  ·rw[if_pos h] at g f;refine⟨.inr (g.elim (λo=>by rw[o];exact B8) (AI _)),?_,λc e=>?_⟩
   ·refine k (q:=z) ?_ f;cases d:cF key x z
    ·rfl
    ·have:=zu h d;rw[zt] at this;cases this
   ·rcases List.mem_cons.1 e with rfl|e
    ·exact f
    ·exact j c e
  ·rw[if_neg h] at g f;refine⟨g.elim .inl λd=> .inr (AI _ d),f,λc e=>?_⟩;rcases List.mem_cons.1 e with rfl|e
   ·exact k (by simpa using h) f
   ·exact j c e
theorem AI2 {key:A31}{l:List A31}(c:l≠ []):LH key l∈l/\ ∀a∈l,cF key a (LH key l)=false:=by
 cases l with
 |nil=>exact absurd rfl c
 |cons x l=>
  obtain⟨d,e,f⟩:=Uz key l x;refine⟨d.elim (λg=>?_) λh=>AI _ h,λa b=>?_⟩
  ·show l.foldl _ x∈x::l;rw[g];exact B8
  ·rcases List.mem_cons.1 b with rfl|b
   ·exact e
   ·exact f a b
def Ad(l:List UInt8):A31:=⟨l.toArray⟩
theorem Bw(l:List UInt8):(Ad l).data.toList=l:=by simp[Ad]
theorem EP(s:A31):Ad s.data.toList=s:=by simp[Ad]
theorem AP(l:List UInt8):(Ad l).size=l.length:=by simp[Ad,ByteArray.size]
theorem Oy {a b:List UInt8}:Ad a=Ad b↔a=b:=⟨λc=>by simpa [Ad] using congrArg (λs:A31=>s.data.toList) c,λc=>by rw[c]⟩
def Cq(a:Nat):UInt8:=UInt8.ofNat a
theorem Dk {a:Nat}(b:a<256):(Cq a).toNat=a:=by simp[Cq,UInt8.toNat_ofNat'];omega
theorem zw(c:UInt8):Cq c.toNat=c:=by simp[Cq]
def Bp(a:Nat):List UInt8:=if a<128 then [Cq a] else Cq (a % 128+128)::Bp (a / 128)
termination_by a
decreasing_by omega
theorem FU {n:Nat}(a:n<128):Bp n= [Cq n]:=by rw[Bp,if_pos a]
theorem Yq {n:Nat}(a: ¬n<128):Bp n=Cq (n % 128+128)::Bp (n / 128):=by rw[Bp,if_neg a]
def Pp:Nat->Nat->List UInt8->Option (Nat×List UInt8)
 |_,_,[]=>none
 |i,a,c::t=>
  if 10<=i\/(i=9/\1<c.toNat)\/(0<i/\c.toNat=0) then none
  else if c.toNat<128 then some (a+c.toNat*128^i,t) else Pp (i+1) (a+c.toNat % 128*128^i) t
theorem MS {i a:Nat}(b:i<=a):128^i<=128^a:=S7 (by decide) b
theorem iA(t:List UInt8): ∀(b i a:Nat),b*128^i<18446744073709551616->(i=0\/0<b)->Pp i a (Bp b++t)=some (a+b*128^i,t):=by
 intro b
 induction b using Nat.strongRecOn with
 |ind b k=>
  intro i a h m;have n:0<128^i:=Nat.pos_of_ne_zero (Nat.pos_iff_ne_zero.1 (SO (by decide)));by_cases e:b<128
  ·rw[FU e];simp only[Dd,DG,Pp,Dk (show b<256 by omega)];rw[if_neg,if_pos e];rintro(c|⟨c,f⟩|⟨c,f⟩)
   ·have g:=MS c;have j:1*128^i<=b*128^i:=Bm _ (by omega);have d:(128:Nat)^10=1180591620717411303424:=by decide
    omega
   ·subst c;have d:(128:Nat)^9=9223372036854775808:=by decide
    rw[d] at h;omega
   ·omega
  ·rw[Yq e];have hd:b / 128<b:=by omega
   simp only[Dd,Pp,Dk (show b % 128+128<256 by omega)];rw[if_neg,if_neg (by omega),k (b / 128) hd]
   ·have l:(b % 128+128) % 128=b % 128:=by omega
    rw[l,D0,Jx,show b % 128*128^i+b / 128*(128^i*128)=(b % 128+128*(b / 128))*128^i by
     rw[CN,Cl (128^i) 128,<-Fm,Cl (b / 128) 128],Nat.mod_add_div]
   ·have g:b / 128*128<=b:=Nat.div_mul_le_self _ _;have j:b / 128*128*128^i<=b*128^i:=Bm _ g;rw[D0,Cl (128^i) 128,<-Fm];omega
   ·omega
   ·rintro(c|⟨c,f⟩|⟨c,f⟩)
    ·have g:=MS c;have j:128*128^i<=b*128^i:=Bm _ (by omega);have d:(128:Nat)^10=1180591620717411303424:=by decide
     omega
    ·subst c;have d:(128:Nat)^9=9223372036854775808:=by decide
     rw[d] at h;omega
    ·omega
theorem zx: ∀(l:List UInt8) (i a n:Nat) (t:List UInt8),Pp i a l=some (n,t)-> ∃m,n=a+m*128^i/\l=Bp m++t/\m*128^i<18446744073709551616/\(i=0\/0<m)
 | [],i,a,n,t,b=>by simp[Pp] at b
 |c::l,i,a,n,t,b=>by
  simp only[Pp] at b;split at b
  ·cases b
  ·rename_i v;have w:c.toNat<256:=c.toNat_lt;split at b
   ·rename_i e;obtain⟨rfl,rfl⟩:=b;refine⟨c.toNat,rfl,by rw[FU e,zw];rfl,?_,by omega⟩;have hi:i<=9:=by omega
    by_cases h:i=9
    ·subst h;have d:(128:Nat)^9=9223372036854775808:=by decide
     rw[d];omega
    ·have j:=MS (show i<=8 by omega);have d:(128:Nat)^8=72057594037927936:=by decide
     have k:c.toNat*128^i<=127*128^i:=Bm _ (by omega);omega
   ·rename_i e;obtain⟨m,o,rfl,f,x⟩:=zx l (i+1) _ n t b;have p:0<m:=by omega
    refine⟨c.toNat % 128+128*m,?_,?_,?_,by omega⟩
    ·rw[o,D0,CN,Jx,Cl (128^i) 128,<-Fm,Cl m 128]
    ·rw[Yq (n:=c.toNat % 128+128*m) (by omega),show(c.toNat % 128+128*m) % 128+128=c.toNat by omega,show(c.toNat % 128+128*m) / 128=m by omega,zw];rfl
    ·rw[D0,Cl (128^i) 128,<-Fm] at f;have y:(18446744073709551616:Nat)=144115188075855872*128:=by decide
     have z:i<=8:=by
      refine N6 λq=>?_
      have j:=MS (show 9<=i from q);have d:(128:Nat)^9=9223372036854775808:=by decide
      have k:1*128*128^i<=m*128*128^i:=Bm _ (Bm _ p);omega
     have g:(18446744073709551616:Nat)=128^(i+1)*(18446744073709551616 / 128^(i+1)):=by
      have:i=0\/i=1\/i=2\/i=3\/i=4\/i=5\/i=6\/i=7\/i=8:=by omega
      rcases this with rfl|rfl|rfl|rfl|rfl|rfl|rfl|rfl|rfl<;>decide
     have r:0<128^i:=Nat.pos_of_ne_zero (Nat.pos_iff_ne_zero.1 (SO (by decide)));have s:m<18446744073709551616 / 128^(i+1):=by refine Nat.lt_of_mul_lt_mul_left (a:=128^(i+1)) ?_;rw[<- g,D0,Cl,Cl (128^i) 128,<-Fm];exact f
     have u:128^(i+1)*(m+1)<=128^(i+1)*(18446744073709551616 / 128^(i+1)):=Nat.mul_le_mul_left _ s;rw[<- g,D0] at u;have A:(c.toNat % 128+128*m)*128^i<128*(m+1)*128^i:=SD (by omega) r;have B:128*(m+1)*128^i=128^i*128*(m+1):=by rw[Cl,<-Fm]
     omega
theorem zy: ∀(b a:Nat),a<128^(b+1)->(Bp a).length<=b+1:=by
 intro b
 induction b with
 |zero=>intro a c;rw[FU (by simpa using c)];simp
 |succ b e=>
  intro a c;by_cases d:a<128
  ·rw[FU d];simp
  ·rw[Yq d];have:=e (a / 128) (by rw[Nat.div_lt_iff_lt_mul (by decide),<-D0];exact c);simp;omega
theorem AX {n:Nat}(a:n<18446744073709551616):(Bp n).length<=10:=by refine zy 9 n (Fc a ?_);decide
theorem rR {l:List UInt8}{a:Nat}{t:List UInt8}(d:Pp 0 0 l=some (a,t)):l=Bp a++t/\a<18446744073709551616:=by obtain⟨m,b,e,c,_⟩:=zx l 0 0 a t d;simp at b c;subst b;exact⟨e,c⟩
theorem zz {a:Nat}(b:a<18446744073709551616)(t:List UInt8):Pp 0 0 (Bp a++t)=some (a,t):=by rw[iA t a 0 0 (by simpa using b) (.inl rfl)];simp
def lQ(c:Nat):Nat:=if c % 2=1 then c / 2 ^^^ 3988292384 else c / 2
def oz:Nat->Nat->Nat
 |0,c=>c
 |k+1,c=>lQ (oz k c)
def oA(c:Nat)(b:UInt8):Nat:=oz 8 (c ^^^ b.toNat)
def iB(l:List UInt8):Nat:=l.foldl oA 4294967295
def jP(l:List UInt8):Nat:=4294967295-iB l
theorem AOO {c:Nat}(a:c<4294967296):lQ c<4294967296:=by
 unfold lQ;split
 ·exact HJ (n:=32) (by omega) (by decide)
 ·omega
theorem rS {c:Nat}(a:c<4294967296): ∀k,oz k c<4294967296
 |0=>a
 |k+1=>AOO (rS a k)
theorem ATS {c:Nat}(a:c<4294967296)(b:UInt8):oA c b<4294967296:=by have d:b.toNat<256:=b.toNat_lt;exact rS (HJ (n:=32) a (by omega)) 8
theorem APD(l:List UInt8)(b:UInt8):iB (l++ [b])=oA (iB l) b:=by simp[iB]
theorem zA(l:List UInt8):iB l<4294967296:=by
 unfold iB
 suffices ∀(l:List UInt8) (c:Nat),c<4294967296->l.foldl oA c<4294967296 from this l _ (by decide)
 intro l
 induction l with
 |nil=>exact λc a=>a
 |cons x l b=>exact λc a=>b _ (ATS a x)
def Te(a:Nat):List UInt8:= [Cq (a / 16777216 % 256),Cq (a / 65536 % 256),Cq (a / 256 % 256),Cq (a % 256)]
theorem MN(a:Nat):(Te a).length=4:=rfl
def IZ(l:List UInt8):List UInt8:=Bp l.length++Te (jP l)++l
def Pv(l:List UInt8):Nat×List UInt8×List UInt8:=
 match Pp 0 0 l with
 |none=>if l.length<10/\ ∀c∈l,128<=c.toNat then(20,[],[]) else(21,[],[])
 |some (a,b)=>
  if 1048576<a then(21,[],[]) else if b.length<4+a then(20,[],[])
  else if b.take 4=Te (jP ((b.drop 4).take a)) then(0,(b.drop 4).take a,b.drop (4+a)) else(21,[],[])
theorem AON {l:List UInt8}(d:l.length<=1048576)(t:List UInt8):Pv (IZ l++t)=(0,l,t):=by
 unfold Pv IZ;rw[A4,A4,zz (by omega)];dsimp only;rw[if_neg (by omega),if_neg (by simp[MN])];have b:(Te (jP l)++(l++t)).take 4=Te (jP l):=by rw[Nx (by simp[MN])];exact As (by simp[MN])
 have a:(Te (jP l)++(l++t)).drop 4=l++t:=by rw[A0o (by simp[MN])];simp[Te]
 have c:(l++t).take l.length=l:=by simp
 rw[b,a,c,if_pos rfl,<-I0,a];simp
structure Rd where
 rest:List UInt8
 bad:Bool
def Rd.fail:Rd:=⟨[],true⟩
def Ht(a:Rd):Nat×Rd:=if a.bad then(0,a) else match Pp 0 0 a.rest with|none=>(0,Rd.fail)|some (b,t)=>(b,⟨t,false⟩)
def CX(b:Nat)(a:Rd):Nat×Rd:=if(Ht a).2.bad then(0,(Ht a).2) else if b<(Ht a).1 then(0,Rd.fail) else Ht a
def Kb(b:Nat)(a:Rd):List UInt8×Rd:=if a.bad then([],a) else if a.rest.length<b then([],Rd.fail) else(a.rest.take b,⟨a.rest.drop b,false⟩)
def GZ(a:Rd):List UInt8×Rd:=if(Ht a).2.bad then([],(Ht a).2) else Kb (Ht a).1 (Ht a).2
def fU(a:Rd):Bool:= !a.bad&&a.rest.isEmpty
def BU(l:List UInt8):List UInt8:=Bp l.length++l
theorem zB {a:Nat}(b:a<18446744073709551616)(t:List UInt8):Ht ⟨Bp a++t,false⟩=(a,⟨t,false⟩):=by simp[Ht,zz b]
theorem DR {n most:Nat}(a:n<18446744073709551616)(b:n<=most)(t:List UInt8):CX most ⟨Bp n++t,false⟩=(n,⟨t,false⟩):=by simp only[CX,zB a];simp;omega
theorem zC(l t:List UInt8):Kb l.length ⟨l++t,false⟩=(l,⟨t,false⟩):=by simp[Kb];omega
theorem Ie {l:List UInt8}(a:l.length<18446744073709551616)(t:List UInt8):GZ ⟨BU l++t,false⟩=(l,⟨t,false⟩):=by simp only[GZ,BU,A4,zB a,zC];simp
theorem APg {a:Rd}(b:a.bad=true):Ht a=(0,a):=by simp[Ht,b]
theorem zD {r:Rd}(a:(Ht r).2.bad=false):r.bad=false/\r.rest=Bp (Ht r).1++(Ht r).2.rest/\(Ht r).1<18446744073709551616:=by
 unfold Ht at a ⊢;split at a
 ·rename_i b;rw[a] at b;cases b
 ·rename_i b;cases c:Pp 0 0 r.rest with
  |none=>rw[c] at a;cases a
  |some p=>
   obtain⟨f,t⟩:=p;obtain⟨d,e⟩:=rR c;simp only[b];exact⟨by simp,d,e⟩
theorem Fp {a:Rd}{m:Nat}(b:(CX m a).2.bad=false):a.bad=false/\a.rest=Bp (CX m a).1++(CX m a).2.rest/\(CX m a).1<=m:=by
 unfold CX at b ⊢;split at b
 ·rename_i c;rw[b] at c;cases c
 ·split at b
  ·cases b
  ·rename_i c d;rw[if_neg c,if_neg d];obtain⟨e,f,_⟩:=zD b;exact⟨e,f,by omega⟩
theorem AL2 {a:Rd}{b:Nat}(c:(Kb b a).2.bad=false):a.bad=false/\a.rest=(Kb b a).1++(Kb b a).2.rest/\(Kb b a).1.length=b:=by
 unfold Kb at c ⊢;split at c
 ·rename_i d;rw[c] at d;cases d
 ·split at c
  ·cases c
  ·rename_i d e;rw[if_neg d,if_neg e];exact⟨by simpa using d,by simp,by simp;omega⟩
theorem SI {r:Rd}(b:(GZ r).2.bad=false):r.bad=false/\r.rest=BU (GZ r).1++(GZ r).2.rest:=by
 unfold GZ at b ⊢;split at b
 ·rename_i a;rw[b] at a;cases a
 ·rename_i a;rw[if_neg a];obtain⟨c,d,_⟩:=zD (r:=r) (by simpa using a);obtain⟨_,e,f⟩:=AL2 b;refine⟨c,?_⟩;rw[d,e,BU,A4];rw[f]
theorem Ui(a:Rd):(Ht a).2.rest.length<=a.rest.length:=by
 unfold Ht;split
 ·exact A0 _
 ·split
  ·simp[Rd.fail]
  ·rename_i d t b;obtain⟨c,_⟩:=rR b;rw[c];simp
theorem IX(m:Nat)(a:Rd):(CX m a).2.rest.length<=a.rest.length:=by
 unfold CX;split
 ·exact Ui a
 ·split
  ·simp[Rd.fail]
  ·exact Ui a
theorem AOU(b:Nat)(a:Rd):(Kb b a).2.rest.length<=a.rest.length/\(Kb b a).1.length<=a.rest.length:=by
 unfold Kb;split
 ·simp
 ·split
  ·simp[Rd.fail]
  ·simp;omega
theorem V8(a:Rd):(GZ a).2.rest.length<=a.rest.length/\(GZ a).1.length<=a.rest.length:=by
 unfold GZ;split
 ·exact⟨Ui a,by simp⟩
 ·have:=AOU (Ht a).1 (Ht a).2;have:=Ui a;omega
def IU:cr UInt8 where
 enc x:= [.int .u8 (x.toNat:Int)]
 w:=1
 len _:=rfl
 pos:=by omega
 one x v a:=by simp at a;subst a;rfl
theorem Cells.byte {b:aa}{a:Q6}{x:UInt8}(c:Cells b a (IU.enc x)):af b a=some (.int .u8 (x.toNat:Int)):=by have d:=c 0 _ rfl;rwa [add_zero] at d
theorem zE: ∀(l:List UInt8) (s:A31),(l.map λc=>(c.toNat:Int)).foldl (λa b=>a.push (UInt8.ofNat b.toNat)) s=⟨s.data++l.toArray⟩
 | [],s=>by simp
 |c::l,s=>by
  simp only[BY,Hv];rw[zE l];simp[ByteArray.push,Array.append_assoc]
theorem MK {e:ao}{P:Q1}{g h i:Q7}(m:P.underlying g=some (.slice i))(n:P.underlying i=some (.int .u8))(hd:P.underlying h=some .string){b:aa}{s:Sl}{l:List UInt8}{K:A30}
  (v:View IU b s l) (o:K (.string (Ad l)) b):Af e P (convert g h (.slice s.p s.len s.cap)) b K:=by
 have p:=v.len;refine λf=>⟨_,b,f,?_,o⟩
 rw[run_convert_bytes_string _ g h i _ s.len s.cap m n hd];cases j:s.p with
 |none=>
  have q:l= []:=by
   cases l with
   |nil=>rfl
   |cons c l=>
    obtain⟨a,d,_⟩:=v.cells 0 c rfl;rw[j] at d;cases d
  subst q;simp[Conv.bytesToString,Ad];rfl
 |some a=>
  have r:(loadCells a s.len).run P (e.at b f)= .ok ((l.map λc=>(c.toNat:Int)).map (Value.int .u8)).toArray (e.at b f):=by
   have:=run_loadCells_list (P:=P) (w:=e.at b f) a ((l.map λc=>(c.toNat:Int)).map (Value.int .u8)) (λt u k=>by
    simp only[AN,Option.map_map,Option.map_eq_some_iff] at k;obtain⟨c,x,rfl⟩:=k;obtain⟨z,d,y⟩:=v.cells t c x;rw[j] at d;cases d;have:=Cells.byte y;simp only[IU,AM] at this;exact this)
   simpa [p] using this
  rw[run_bytesToString _ a s.len s.cap _ r,zE];simp[Ad,ByteArray.empty,ByteArray.emptyWithCapacity];rfl
theorem dO(s:A31)(i a:Nat):s.extract i a=Ad ((s.data.toList.take a).drop i):=by apply SP;rw[A0C,Ad];apply Array.toList_inj.1;simp[Array.toList_extract,List.extract_eq_take_drop,List.drop_take]
theorem zF(s:A31):s.data.toList.length=s.size:=by rw[FG];rfl
theorem zG(s:A31)(i:Nat):s.extract i s.size=Ad (s.data.toList.drop i):=by rw[dO,As (by rw[zF];exact A0 _)]
theorem APf(s:A31)(i:Nat):s.extract 0 i=Ad (s.data.toList.take i):=by rw[dO];simp
theorem wrap_u8(a:Nat):J8 .u8 (a:Int)=((a % 256:Nat):Int):=by simp[J8,IntKind.bits,IntKind.signed]
theorem zH {a b:Nat}(c:a<256)(d:b<256):dK .u8 (a:Int) (b:Int)=((a ||| b:Nat):Int):=by
 have e:a ||| b<2^8:=ID (by simpa using c) (by simpa using d);unfold dK;have f:(BitVec.ofInt (IntKind.bits .u8) (a:Int) ||| BitVec.ofInt (IntKind.bits .u8) (b:Int)).toNat=a ||| b:=by show(BitVec.ofInt 8 (a:Int) ||| BitVec.ofInt 8 (b:Int)).toNat=a ||| b;rw[BitVec.ofInt_natCast,BitVec.ofInt_natCast,BitVec.toNat_or,BitVec.toNat_ofNat,BitVec.toNat_ofNat,A5 (by simpa using c),A5 (by simpa using d)]
 rw[f,wrap_u8,A5 (by simpa using e)]
theorem zI {a b:Nat}(c:a<256)(d:b<256):Ec .u8 (a:Int) (b:Int)=((a &&& b:Nat):Int):=by
 have e:a &&& b<2^8:=Se Nat.and_le_left (by simpa using c);unfold Ec;have f:(BitVec.ofInt (IntKind.bits .u8) (a:Int) &&& BitVec.ofInt (IntKind.bits .u8) (b:Int)).toNat=a &&& b:=by show(BitVec.ofInt 8 (a:Int) &&& BitVec.ofInt 8 (b:Int)).toNat=a &&& b;rw[BitVec.ofInt_natCast,BitVec.ofInt_natCast,BitVec.toNat_and,BitVec.toNat_ofNat,BitVec.toNat_ofNat,A5 (by simpa using c),A5 (by simpa using d)]
 rw[f,wrap_u8,A5 (by simpa using e)]
theorem AS7 {a b:Nat}(c:a<4294967296)(d:b<4294967296):Ec .u32 (a:Int) (b:Int)=((a &&& b:Nat):Int):=by
 have e:a &&& b<2^32:=Se Nat.and_le_left (by simpa using c);unfold Ec;have f:(BitVec.ofInt (IntKind.bits .u32) (a:Int) &&& BitVec.ofInt (IntKind.bits .u32) (b:Int)).toNat=a &&& b:=by show(BitVec.ofInt 32 (a:Int) &&& BitVec.ofInt 32 (b:Int)).toNat=a &&& b;rw[BitVec.ofInt_natCast,BitVec.ofInt_natCast,BitVec.toNat_and,BitVec.toNat_ofNat,BitVec.toNat_ofNat,A5 (by simpa using c),A5 (by simpa using d)]
 rw[f,wrap_u32,A5 (by simpa using e)]
theorem AVr: ∀x,x<256->x ||| 128=x % 128+128:=by decide +kernel
theorem AUf: ∀x,x<256->x &&& 127=x % 128:=by decide +kernel
theorem ASC(c:Nat):dK .u8 (J8 .u8 (c:Int)) (128:Int)=(((Cq (c % 128+128)).toNat:Nat):Int):=by have d:=zH (a:=c % 256) (b:=128) (By _ (by decide)) (by decide);rw[wrap_u8];rw[show(128:Int)=((128:Nat):Int) from rfl,d,AVr _ (By _ (by decide)),Dk (by omega)];congr 1;omega
theorem rT(i:Nat):2^(7*i)=128^i:=by rw[Nat.pow_mul]
theorem ASs {a x i:Nat}(hi:i<=9)(c:a<128^i)(d:x<128):dK .u64 (a:Int) (((x*128^i % 18446744073709551616:Nat)):Int)=((a+x*128^i % 18446744073709551616:Nat):Int):=by
 have e:0<128^i:=SO (by decide);have f:=MS hi;have g:(128:Nat)^9=9223372036854775808:=by decide
 rw[ox (by omega) (By _ (by decide))];congr 1;have b: ∃q,(18446744073709551616:Nat)=128^i*q:=by
  have:i=0\/i=1\/i=2\/i=3\/i=4\/i=5\/i=6\/i=7\/i=8\/i=9:=by omega
  refine⟨18446744073709551616 / 128^i,?_⟩;rcases this with rfl|rfl|rfl|rfl|rfl|rfl|rfl|rfl|rfl|rfl<;>decide
 obtain⟨q,b⟩:=b;rw[b,Cl x,Nat.mul_mod_mul_left,<-rT,Nat.or_comm,Nat.add_comm];exact(A0G (by rw[rT];exact c) _).symm
theorem AU4 {x i:Nat}(hi:i<=9)(b:x<128):J8 .u64 (((x:Nat):Int)*((2:Int)^(min ((7*i:Nat):Int).toNat (IntKind.bits .u64))))=((x*128^i % 18446744073709551616:Nat):Int):=by
 have a:min ((7*i:Nat):Int).toNat (IntKind.bits .u64)=7*i:=by have:IntKind.bits .u64=64:=rfl;omega
 rw[a,show((2:Int)^(7*i))=((2^(7*i):Nat):Int) by simp,lP,wrap_u64,rT]
theorem Mod.more {a d e:aa}{f:Nat->Prop}(x:Ext a d)(m:Mod f d e)(g: ∀b,f b->a.size<=b):Ext a e:=
 Mod.then x (m.ak λc _ h=> .inr (g c h))
abbrev bl(s:A31):List UInt8:=s.data.toList
theorem BA(s:A31):(bl s).length=s.size:=zF s
theorem FO(l:List UInt8):bl (Ad l)=l:=Bw l
theorem QJ(s:A31):Ad (bl s)=s:=EP s
def Am(s:A31):Bool:=decide (1<=s.size/\s.size<=16/\ ∀c∈bl s,33<=c.toNat/\c.toNat<=126)
theorem Gb {s:A31}:Am s=true↔1<=s.size/\s.size<=16/\ ∀c∈bl s,33<=c.toNat/\c.toNat<=126:=by simp[Am]
structure bR where
 kind:Int
 name:A31
 aK:A31
 tries:Int
 az:Int
 wait:Int
def bR.cells(x:bR):Array J0:= #[J6 J9 x.kind,J7 x.name,J7 x.aK,J6 J9 x.tries,J6 J9 x.az,J6 J9 x.wait]
def UT:cr bR where
 enc x:= [J6 J9 x.kind,J7 x.name,J7 x.aK,J6 J9 x.tries,J6 J9 x.az,J6 J9 x.wait]
 w:=6
 len _:=rfl
 pos:=by omega
 one x v a:=by simp at a;rcases a with rfl|rfl|rfl|rfl|rfl|rfl<;>rfl
abbrev IQ:A31:=⟨#[]⟩
def bP(a lo hi:Int):Bool:=decide (lo<=a/\a<=hi)
theorem Bb {a lo hi:Int}:bP a lo hi=true↔lo<=a/\a<=hi:=by simp[bP]
def NL(x:bR):Bool:=
 if x.kind=1 then((decide (x.aK=IQ)&&decide (x.az=0))||(Am x.aK&&bP x.az 1 5))&&Am x.name&&bP x.tries 1 5&&decide (x.wait=0)
 else if x.kind=2 then decide (x.name=IQ)&&decide (x.aK=IQ)&&decide (x.tries=0)&&decide (x.az=0)&&bP x.wait 1 1000
 else if x.kind=3 then decide (x.aK=IQ)&&decide (x.tries=0)&&decide (x.az=0)&&decide (x.wait=0)&&Am x.name
 else false
structure bK where
 steps:List bR
 aw:Int
def F3(p:bK):Bool:=decide (p.steps.length<=16)&&bP p.aw 0 16000&&p.steps.all NL
def HZ(x:bR):List UInt8:=Bp x.kind.toNat++
 (if x.kind=1 then BU (bl x.name)++Bp x.tries.toNat++BU (bl x.aK)++Bp x.az.toNat else if x.kind=2 then Bp x.wait.toNat else BU (bl x.name))
def Ca(p:bK):List UInt8:=Bp p.aw.toNat++Bp p.steps.length++p.steps.flatMap HZ
def Ms(g e h:Nat)(all:Bool)(i:Rd):bR×Rd:=
 let d:=CX g i
 if d.1=1 then
  let a:=GZ d.2
  let b:=CX e a.2
  let c:=GZ b.2
  let f:=CX e c.2
  (⟨1,Ad a.1,Ad c.1,b.1,f.1,0⟩,f.2)
 else if d.1=2 then
  let a:=CX h d.2
  (⟨2,IQ,IQ,0,0,a.1⟩,a.2)
 else if d.1=3\/all=true then
  let a:=GZ d.2
  (⟨d.1,Ad a.1,IQ,0,0,0⟩,a.2)
 else(⟨d.1,IQ,IQ,0,0,0⟩,d.2)
def IB(b c d:Nat)(all:Bool):Nat->Rd->List bR×Rd
 |0,a=>([],a)
 |n+1,a=>let x:=Ms b c d all a;let e:=IB b c d all n x.2;(x.1::e.1,e.2)
def Zv(c d e f:Nat)(all:Bool)(l:List UInt8):bK×Rd:=
 let a:=CX c ⟨l,false⟩
 let b:=CX 16 a.2
 let s:=IB d e f all b.1 b.2
 (⟨s.1,a.1⟩,s.2)
def JO(l:List UInt8):Option bK:=let x:=Zv 16000 3 5 1000 false l;if fU x.2&&F3 x.1 then some x.1 else none
theorem xU {a:Rd}:fU a=true↔a=⟨[],false⟩:=by obtain⟨l,b⟩:=a;cases b<;>cases l<;>simp[fU]
theorem AQs {a lo hi:Int}(b:bP a lo hi=true)(c:0<=lo):((a.toNat:Nat):Int)=a:=by rw[Bb] at b;omega
theorem AOT {c f h:Nat}{all:Bool}(p:3<=c)(E:5<=f)(F:1000<=h){x:bR}(a:NL x=true)(t:List UInt8):Ms c f h all ⟨HZ x++t,false⟩=(x,⟨t,false⟩):=by
 obtain⟨G,name,o,q,i,r⟩:=x;have j: ∀ {s:A31},s.size<=16->(bl s).length<18446744073709551616:=λg=>by rw[BA];omega
 have k: ∀ {s:A31},Am s=true->s.size<=16:=λg=>(Gb.1 g).2.1
 unfold NL at a;split at a
 ·rename_i b;simp only at b;subst b;simp only[A3,CH,decide_eq_true_eq] at a;obtain⟨⟨⟨u,m⟩,v⟩,rfl⟩:=a;have w:o.size<=16/\0<=i/\i<=5:=by
   rcases u with⟨rfl,rfl⟩|⟨g,y⟩
   ·exact⟨by decide,by omega,by omega⟩
   ·rw[Bb] at y;exact⟨k g,by omega,by omega⟩
  rw[Bb] at v;have d:=DR (n:=(1:Int).toNat) (most:=c) (by decide) (by simpa using(by omega:1<=c));have e:=Ie (l:=bl name) (j (k m));have z:=DR (n:=q.toNat) (most:=f) (by omega) (by omega);have A:=Ie (l:=bl o) (j w.1);have B:=DR (n:=i.toNat) (most:=f) (by omega) (by omega);simp only[Ms,HZ,if_true,A4,d,e,z,A,B];rw[if_pos (by decide)];simp[EP];omega
 ·split at a
  ·rename_i C b;simp only at b;subst b;simp only[A3,decide_eq_true_eq] at a;obtain⟨⟨⟨⟨rfl,rfl⟩,rfl⟩,rfl⟩,D⟩:=a;rw[Bb] at D;have d:=DR (n:=(2:Int).toNat) (most:=c) (by decide) (by simpa using(by omega:2<=c));have e:=DR (n:=r.toNat) (most:=h) (by omega) (by omega);simp only[Ms,HZ,if_true,A4,d];rw[if_neg (by decide),if_pos (by decide),if_neg (by decide),e];simp;omega
  ·split at a
   ·rename_i C H b;simp only at b;subst b;simp only[A3,decide_eq_true_eq] at a;obtain⟨⟨⟨⟨rfl,rfl⟩,rfl⟩,rfl⟩,m⟩:=a;have d:=DR (n:=(3:Int).toNat) (most:=c) (by decide) (by simpa using p);have e:=Ie (l:=bl name) (j (k m));simp only[Ms,HZ,if_true,A4,d];rw[if_neg (by decide),if_neg (by decide),if_pos (.inl (by decide)),if_neg (by decide),if_neg (by decide),e];simp[EP]
   ·cases a
theorem xV {b c d:Nat}{all:Bool}(e:3<=b)(f:5<=c)(g:1000<=d)(t:List UInt8): ∀ {l:List bR},l.all NL=true->IB b c d all l.length ⟨l.flatMap HZ++t,false⟩=(l,⟨t,false⟩)
 | [],_=>rfl
 |x::l,a=>by
  simp only[N4,A3] at a;simp only[Ax,IB,AW,A4,AOT e f g a.1,xV e f g t a.2]
theorem AN3 {a b c d:Nat}{all:Bool}(s:16000<=a)(h:3<=b)(i:5<=c)(j:1000<=d){p:bK}(e:F3 p=true):Zv a b c d all (Ca p)=(p,⟨[],false⟩):=by obtain⟨l,k⟩:=p;simp only[F3,A3,decide_eq_true_eq] at e;obtain⟨⟨m,f⟩,o⟩:=e;have t:=Bb.1 f;have q:=DR (n:=k.toNat) (most:=a) (by omega) (by omega);have r:=DR (n:=l.length) (most:=16) (by omega) m;have g:=xV (all:=all) h i j [] o;rw[AS] at g;simp only[Zv,Ca,A4,q,r,g,AQs f (by decide)]
theorem xW {p:bK}(a:F3 p=true):JO (Ca p)=some p:=by simp only[JO,AN3 (A0 _) (A0 _) (A0 _) (A0 _) a,a];rfl
theorem ALv {j k l:Nat}{all:Bool}{e:Rd}(a:(Ms j k l all e).2.bad=false):e.bad=false/\(NL (Ms j k l all e).1=true->e.rest=HZ (Ms j k l all e).1++(Ms j k l all e).2.rest):=by
 unfold Ms at a ⊢;simp only at a ⊢;split at a
 ·rename_i b;obtain⟨n,o,_⟩:=Fp a;obtain⟨p,q⟩:=SI n;obtain⟨r,s,_⟩:=Fp p;obtain⟨g,h⟩:=SI r;obtain⟨c,f,_⟩:=Fp g;refine⟨c,λ_=>?_⟩;rw[if_pos b];simp only[HZ,if_true,FO,An];rw[f,b,h,s,q,o];simp[A4]
 ·split at a
  ·rename_i i b;obtain⟨g,h,_⟩:=Fp a;obtain⟨c,f,_⟩:=Fp g;refine⟨c,λ_=>?_⟩;rw[if_neg i,if_pos b];simp only[HZ,An];rw[if_neg (by decide),if_pos trivial,f,b,h];simp[A4]
  ·split at a
   ·rename_i i m b;obtain⟨g,h⟩:=SI a;obtain⟨c,f,_⟩:=Fp g;refine⟨c,λd=>?_⟩;rw[if_neg i,if_neg m,if_pos b] at d ⊢;simp only[HZ,FO,An];rw[if_neg (by omega),if_neg (by omega),f,h];simp[A4]
   ·rename_i i m b;obtain⟨c,f,_⟩:=Fp a;refine⟨c,λd=>?_⟩;rw[if_neg i,if_neg m,if_neg b] at d;exfalso;unfold NL at d;simp only at d;rw[if_neg (by omega),if_neg (by omega),if_neg (by omega)] at d;cases d
theorem xX {b c d:Nat}{all:Bool}: ∀(n:Nat) {a:Rd},(IB b c d all n a).2.bad=false->a.bad=false/\(IB b c d all n a).1.length=n/\((IB b c d all n a).1.all NL=true->a.rest=(IB b c d all n a).1.flatMap HZ++(IB b c d all n a).2.rest)
 |0,a,e=>⟨e,rfl,λ_=>rfl⟩
 |n+1,a,e=>by
  simp only[IB] at e ⊢;obtain⟨g,h,i⟩:=xX n e;obtain⟨j,k⟩:=ALv g;refine⟨j,by simp[h],λf=>?_⟩;simp only[N4,A3] at f;rw[k f.1,i f.2];simp[A4]
theorem xY {l:List UInt8}{p:bK}(a:JO l=some p):F3 p=true/\Ca p=l:=by
 unfold JO at a;simp only at a;split at a
 ·rename_i f;simp only[A3] at f;obtain⟨d,b⟩:=f;obtain rfl:=B9 a;refine⟨b,?_⟩;rw[xU] at d;have g:(Zv 16000 3 5 1000 false l).2.bad=false:=by rw[d]
  have h:(Zv 16000 3 5 1000 false l).2.rest= []:=by rw[d]
  simp only[Zv] at g h b ⊢;obtain⟨i,j,c⟩:=xX _ g;obtain⟨k,m,_⟩:=Fp i;obtain⟨n,e,_⟩:=Fp k;simp only[F3,A3] at b;have c:=c b.2;rw[h,AS] at c;simp only[Ca,An,j];have e:l=Bp (CX 16000 ⟨l,false⟩).1++(CX 16000 ⟨l,false⟩).2.rest:=e;rw[<- c,A4,<-m,<-e]
 ·cases a
inductive Fv where
 |i (n:Int)
 |s (x:A31)
 |b (x:Bool)
 deriving DecidableEq
def Fv.v:Fv->J0
 | .i a=>J6 J9 a
 | .s x=>J7 x
 | .b x=>J3 x
def Fv.ok(P:Q1)(t:Q7):Fv->Bool
 | .i _=>match P.underlying t with|some (.int J9)=>true|_=>false
 | .s _=>match P.underlying t with|some .string=>true|_=>false
 | .b _=>match P.underlying t with|some .bool=>true|_=>false
def qY:Fv->Fv->Bool
 | .i _,.i _=>true
 | .s _,.s _=>true
 | .b _,.b _=>true
 |_,_=>false
def kD(P:Q1):Nat->List Field->List Fv->Bool
 |_,[],[]=>true
 |i,f::a,x::b=> !(f.name==String.ofList [Char.ofNat 95])&&Nat.beq f.offset i&&x.ok P f.type&&kD P (i+1) a b
 |_,_,_=>false
def cC:List Fv->List Fv->Bool
 | [],[]=>true
 |x::a,b::c=>qY x b&&cC a c
 |_,_=>false
theorem AS4 {P:Q1}{e:Nat}{t:Q7}{x f:Fv}(g:x.ok P t=true)(h:qY x f=true)(c:World):(Op.equalIn (e+1) t x.v f.v).run P c= .ok (decide (x=f)) c:=by
 cases x<;>cases f<;>simp only[qY,BW] at h<;>simp only[Fv.ok] at g<;>split at g<;>(try cases g)
 ·rename_i i m _ d;simp only[Fv.v];rw[run_equalIn_int c e t J9 J9 i m d];simp only[Fv.i.injEq];rfl
 ·rename_i a b _ d;simp only[Fv.v];rw[run_equalIn_string c e t a b d,toList_inj];simp only[Fv.s.injEq]
 ·rename_i a b _ d;simp only[Fv.v];rw[run_equalIn_bool' c e t a b d];simp only[Fv.b.injEq];cases a<;>cases b<;>rfl
theorem Fv.plain {P:Q1}{t:Q7}{x:Fv}(a:x.ok P t=true):P.plainKey t=true:=by cases x<;>simp only[Fv.ok] at a<;>split at a<;>(try cases a)<;>(rename_i b;simp[Program.plainKey,b])
theorem xZ {P:Q1}{t:Nat}(e g:List Fv)(c:World): ∀(h:List Field) (a b:List Fv) (i:Nat),e.drop i=a->g.drop i=b->kD P i h a=true->cC a b=true->
  (Op.eqFields (t+1) (e.map Fv.v).toArray (g.map Fv.v).toArray h).run P c= .ok (decide (a=b)) c:=by
 intro h
 induction h with
 |nil=>
  intro a b i m n j d;cases a with
  |nil=>
   cases b with
   |nil=>simp[Op.eqFields]
   |cons k b=>simp[cC] at d
  |cons x a=>simp[kD] at j
 |cons f h u=>
  intro a b i m n j d;cases a with
  |nil=>simp[kD] at j
  |cons x a=>
   cases b with
   |nil=>simp[cC] at d
   |cons k b=>
    simp only[kD,cC,A3,Nat.beq_eq] at j d;obtain⟨⟨⟨p,q⟩,o⟩,v⟩:=j;have w:e[i]? =some x:=by have:=congrArg (λl:List Fv=>l[0]?) m;simpa [C5] using this
    have y:g[i]? =some k:=by have:=congrArg (λl:List Fv=>l[0]?) n;simpa [C5] using this
    have z:e.drop (i+1)=a:=by rw[<- I0,m];rfl
    have A:g.drop (i+1)=b:=by rw[<- I0,n];rfl
    have B:(part f.type (e.map Fv.v).toArray f.offset).run P c= .ok x.v c:=run_part_plain c (Fv.plain o) (by rw[q];simp[w]);have C:(part f.type (g.map Fv.v).toArray f.offset).run P c= .ok k.v c:=run_part_plain c (Fv.plain o) (by rw[q];simp[y]);have D:=u a b (i+1) z A v d.2
    have E : String.ofList [Char.ofNat 95] = "_" := by decide
    rw[E] at p
    have r : (f.name == "_") = false := by simpa using p
    simp only[Op.eqFields,r,Sem.run_bind,Sem.run_ite,B,C,Result.andThen_ok,AS4 o d.1];by_cases s:x=k
    ·simp[s,D,Result.andThen]
    ·have F : f.name ≠ "_" := by simpa using r
     simp[s,Result.andThen,F]
def kF(P:Q1)(t:Q7)(a:List Fv):Bool:= !P.stoodInHeld t&& !P.eqGuardType P.depth t&&kD P 0 (P.fieldsOf t).toList a
theorem y5 {e:ao}{P:Q1}{t:Q7}{f g:Operand}{xs ys:List Fv}(h:P.underlying t=some (.struct (P.fieldsOf t)))(a:kF P t xs=true)(i:cC xs ys=true){b c:Array J0}
  (j:b=(xs.map Fv.v).toArray) (k:c=(ys.map Fv.v).toArray) {d:aa} {K:A30} (l:K (J3 (decide (xs=ys))) d):
  Af e P (do eqGuard .eql t f g (.agg b) (.agg c);binOp .eql t (.agg b) (.agg c)) d K:=by
 simp only[kF,A3,Cd] at a;subst j;subst k;refine λm=>⟨_,d,m,?_,l⟩
 rw[Sem.run_bind,run_eqGuard_agg _ _ _ _ _ _ _ a.1.2,Result.andThen_ok,run_eql_struct,run_equalIn_agg _ _ _ _ _ h a.1.1,xZ xs ys _ _ xs ys 0 rfl rfl a.2 i];rfl
theorem ATW {e:ao}{P:Q1}{t:Q7}{f g:Operand}{xs ys:List Fv}(h:P.underlying t=some (.struct (P.fieldsOf t)))(a:kF P t xs=true)(i:cC xs ys=true){b c:Array J0}
  (j:b=(xs.map Fv.v).toArray) (k:c=(ys.map Fv.v).toArray) {d:aa} {K:A30} (l:K (J3 (!decide (xs=ys))) d):
  Af e P (do eqGuard .neq t f g (.agg b) (.agg c);binOp .neq t (.agg b) (.agg c)) d K:=by
 simp only[kF,A3,Cd] at a;subst j;subst k;refine λm=>⟨_,d,m,?_,l⟩
 rw[Sem.run_bind,run_eqGuard_agg _ _ _ _ _ _ _ a.1.2,Result.andThen_ok,run_neq_struct,run_equalIn_agg _ _ _ _ _ h a.1.1,xZ xs ys _ _ xs ys 0 rfl rfl a.2 i];rfl
theorem ab.two {a:aa}{b:Nat}{T:Q7}{f g d v1:J0}{K:aa->Prop}(h:a[b]? =some (J2 #[f,g] T (0,0)))
  (i: ∀c,c[b]? =some (J2 #[d,v1] T (0,0))->Mod (· =b) a c->c.size=a.size->K c):
  ab a ⟨b,0,none⟩ d λe=>ab e ((⟨b,0,none⟩:Q6).add 1) v1 K:=by
 refine ab.mk h (by simp) λe j k o=>?_
 rw[CE];refine ab.mk j (by simp) λl m n p=>i l (by simpa using m) (k.trans n) (by omega)
theorem ab.oR {a:aa}{b:Nat}{T:Q7}{m n o p q r d v1 v2 e f g:J0}{K:aa->Prop}(s:a[b]? =some (J2 #[m,n,o,p,q,r] T (0,0)))
  (t: ∀c,c[b]? =some (J2 #[d,v1,v2,e,f,g] T (0,0))->Mod (· =b) a c->c.size=a.size->K c):
  ab a ⟨b,0,none⟩ d λh=>ab h ((⟨b,0,none⟩:Q6).add 1) v1 λi=>ab i ((⟨b,0,none⟩:Q6).add 2) v2 λj=>ab j ((⟨b,0,none⟩:Q6).add 3) e λk=>ab k ((⟨b,0,none⟩:Q6).add 4) f λl=>
   ab l ((⟨b,0,none⟩:Q6).add 5) g K:=by
 refine ab.mk s (by simp) λh u v H=>?_
 rw[CE,CE,CE,CE,CE];refine ab.mk u (by simp) λi w x I=>?_
 refine ab.mk w (by simp) λj y z J=>?_
 refine ab.mk y (by simp) λk A B L=>?_
 refine ab.mk A (by simp) λl C D M=>?_
 refine ab.mk C (by simp) λE F G N=>t E (by simpa using F) (((((v.trans x).trans z).trans B).trans D).trans G) (by omega)
theorem ab.eight {a:aa}{b:Nat}{T:Q7}{q r s t u v w x d v1 v2 e f g h i:J0}{K:aa->Prop}(y:a[b]? =some (J2 #[q,r,s,t,u,v,w,x] T (0,0)))
  (z: ∀c,c[b]? =some (J2 #[d,v1,v2,e,f,g,h,i] T (0,0))->Mod (· =b) a c->c.size=a.size->K c):
  ab a ⟨b,0,none⟩ d λj=>ab j ((⟨b,0,none⟩:Q6).add 1) v1 λk=>ab k ((⟨b,0,none⟩:Q6).add 2) v2 λl=>ab l ((⟨b,0,none⟩:Q6).add 3) e λm=>ab m ((⟨b,0,none⟩:Q6).add 4) f λn=>
   ab n ((⟨b,0,none⟩:Q6).add 5) g λo=>ab o ((⟨b,0,none⟩:Q6).add 6) h λp=>ab p ((⟨b,0,none⟩:Q6).add 7) i K:=by
 refine ab.mk y (by simp) λj A B S=>?_
 rw[CE,CE,CE,CE,CE,CE,CE];refine ab.mk A (by simp) λk C D U=>?_
 refine ab.mk C (by simp) λl E F V=>?_
 refine ab.mk E (by simp) λm G H W=>?_
 refine ab.mk G (by simp) λn I J X=>?_
 refine ab.mk I (by simp) λo L M Y=>?_
 refine ab.mk L (by simp) λp N O Z=>?_
 refine ab.mk N (by simp) λP Q R ac=>z P (by simpa using Q) (((((((B.trans D).trans F).trans H).trans J).trans M).trans O).trans R) (by omega)
theorem ab.bT {a:aa}{b j:Nat}{v:J0}{d dT:Array J0}{T:Q7}{K:aa->Prop}(e:a[b]? =some (J2 d T (0,0)))(f:j<d.size)(g:d.setIfInBounds j v=dT)
  (h: ∀c,c[b]? =some (J2 dT T (0,0))->Mod (· =b) a c->c.size=a.size->K c):ab a ((⟨b,0,none⟩:Q6).add j) v K:=by
 rw[CE,AH];exact ab.mk e f λi k=>h i (by rw[<- g];exact k)
structure Ev where
 id:Int
 kind:Int
 tick:Int
 ref:Int
 step:Int
 turn:Int
 aK:Bool
 data:A31
def de:cr Ev where
 enc x:= [J6 J9 x.id,J6 J9 x.kind,J6 J9 x.tick,J6 J9 x.ref,J6 J9 x.step,J6 J9 x.turn,J3 x.aK,J7 x.data]
 w:=8
 len _:=rfl
 pos:=by omega
 one x v a:=by simp at a;rcases a with rfl|rfl|rfl|rfl|rfl|rfl|rfl|rfl<;>rfl
def Ev.fv(x:Ev):List Fv:= [.i x.id,.i x.kind,.i x.tick,.i x.ref,.i x.step,.i x.turn,.b x.aK,.s x.data]
theorem Ev.jj {x a:Ev}:x.fv=a.fv↔x=a:=by cases x;cases a;simp[Ev.fv]
instance:DecidableEq Ev:=λx y=>decidable_of_iff (x.fv=y.fv) Ev.jj
def cQ(a:Int):Bool:=decide (a=3\/a=4\/a=5\/a=11\/a=7\/a=8\/a=9)
def dd(a:Int):Bool:=decide (a=6\/a=10)
def dq(a:Int):Bool:=decide (a=7\/a=8\/a=9)
def dN(a:Int):Bool:=decide (a=6)
def dQ(a:Int):Bool:=decide (a=1\/a=12)
def cU(f:Bool)(a lo hi:Int):Bool:=if f then bP a lo hi else decide (a=0)
def Ej(a:Ev):Bool:=bP a.kind 1 18&&bP a.id 1 500&&bP a.tick 0 1099511627776&&cU (cQ a.kind) a.ref 1 (a.id-1)&&cU (dd a.kind) a.step 0 15&&cU (dq a.kind) a.turn 1 5&&
 (!a.aK||dN a.kind)&&(decide (a.data=IQ)||dQ a.kind)
def KN(a:Ev):Bool:=if a.kind=1 then(JO (bl a.data)).isSome else if a.kind=12 then Am a.data else true
def Ea(a:Ev):Bool:=Ej a&&KN a
def Tz(f:Bool)(a:Int):List UInt8:=if f then Bp a.toNat else []
def gG(f:Bool)(s:A31):List UInt8:=if f then BU (bl s) else []
def Nv(a:Ev):List UInt8:=Bp a.id.toNat++(Bp a.kind.toNat++(Bp a.tick.toNat++(Tz (cQ a.kind) a.ref++(Tz (dd a.kind) a.step++(Tz (dq a.kind) a.turn++(Tz (dN a.kind) (if a.aK then 1 else 0)++gG (dQ a.kind) a.data))))))
structure jJ where
 id:Nat
 kind:Nat
 tick:Nat
 ref:Nat
 step:Nat
 turn:Nat
def jJ.wide(b:jJ):Prop:=500<=b.id/\18<=b.kind/\1099511627776<=b.tick/\500<=b.ref/\15<=b.step/\5<=b.turn
def eZ:jJ:=⟨500,18,1099511627776,500,15,5⟩
def Ei(f:Bool)(m:Nat)(a:Rd):Nat×Rd:=if f then CX m a else(0,a)
def Uk(f:Bool)(a:Rd):List UInt8×Rd:=if f then GZ a else([],a)
def Qk(b:jJ)(f:Rd):Ev×Rd:=
 let i:=CX b.id f
 let c:=CX b.kind i.2
 let t:=CX b.tick c.2
 let a:=Ei (cQ c.1) b.ref t.2
 let s:=Ei (dd c.1) b.step a.2
 let d:=Ei (dq c.1) b.turn s.2
 let u:=Ei (dN c.1) 1 d.2
 let e:=Uk (dQ c.1) u.2
 (⟨i.1,c.1,t.1,a.1,s.1,d.1,decide (u.1=1),Ad e.1⟩,e.2)
def jK(l:List UInt8):Option Ev:=let x:=Qk eZ ⟨l,false⟩;if fU x.2&&Ea x.1 then some x.1 else none
theorem ZZ {f:Bool}{n:Int}{m:Nat}(a:cU f n 0 m=true)(b:m<18446744073709551616)(t:List UInt8):Ei f m ⟨Tz f n++t,false⟩=(n.toNat,⟨t,false⟩):=by
 cases f with
 |false=>simp[cU] at a;subst a;rfl
 |true=>
  simp only[cU,if_true,Bb] at a;simp only[Ei,Tz,if_true];exact DR (by omega) (by omega) t
theorem qZ {f:Bool}{a lo hi b c:Int}(d:cU f a lo hi=true)(e:b<=lo)(g:hi<=c):cU f a b c=true:=by
 cases f with
 |false=>exact d
 |true=>simp only[cU,if_true,Bb] at d ⊢;omega
theorem ra {f:Bool}{a lo hi:Int}(b:cU f a lo hi=true)(c:0<=lo):((a.toNat:Nat):Int)=a:=by
 cases f with
 |false=>simp[cU] at b;subst b;rfl
 |true=>simp only[cU,if_true,Bb] at b;omega
theorem ARQ {f:Bool}{s:A31}(a:(decide (s=IQ)||f)=true)(b:s.size<18446744073709551616)(t:List UInt8):Uk f ⟨gG f s++t,false⟩=(bl s,⟨t,false⟩):=by
 cases f with
 |false=>simp at a;subst a;rfl
 |true=>
  simp only[Uk,gG,if_true];exact Ie (by rw[BA];exact b) t
theorem Od {a:Ev}(b:Ea a=true):Ej a=true:=by simp only[Ea,A3] at b;exact b.1
theorem ARz {b:jJ}(k:b.wide)(hi:b.ref<18446744073709551616/\b.step<18446744073709551616/\b.turn<18446744073709551616){c:Ev}(e:Ej c=true)(hd:c.data.size<18446744073709551616)(t:List UInt8):Qk b ⟨Nv c++t,false⟩=(c,⟨t,false⟩):=by
 obtain⟨id,a,tick,l,step,turn,d,o⟩:=c;simp only[Ej,A3] at e;obtain⟨⟨⟨⟨⟨⟨⟨p,q⟩,r⟩,g⟩,h⟩,i⟩,j⟩,u⟩:=e;obtain⟨L,M,N,O,P,Q⟩:=k;have R:=Bb.1 p;have S:=Bb.1 q;have T:=Bb.1 r;have v:=DR (n:=id.toNat) (most:=b.id) (by omega) (by omega);have w:=DR (n:=a.toNat) (most:=b.kind) (by omega) (by omega);have x:=DR (n:=tick.toNat) (most:=b.tick) (by omega) (by omega);have y:((a.toNat:Nat):Int)=a:=by omega
 have z:=ZZ (f:=cQ a) (n:=l) (m:=b.ref) (qZ g (by omega) (by omega)) hi.1;have A:=ZZ (f:=dd a) (n:=step) (m:=b.step) (qZ h (by omega) (by omega)) hi.2.1;have B:=ZZ (f:=dq a) (n:=turn) (m:=b.turn) (qZ i (by omega) (by omega)) hi.2.2;have C:=ZZ (f:=dN a) (n:=if d then 1 else 0) (m:=1) (by
  cases D:dN a with
  |true=>simp only[cU,if_true,Bb];split<;>omega
  |false=>rw[D] at j;cases d<;>simp[cU] at j ⊢) (by decide)
 have E:=ARQ (f:=dQ a) (s:=o) u hd;simp only[Qk,Nv,A4,v,w,x,y,z,A,B,C,E];have F:decide ((if d=true then(1:Int) else 0).toNat=1)=d:=by cases d<;>rfl
 have G:=ra g (by decide);have H:=ra h (by decide);have I:=ra i (by decide);have J:((id.toNat:Nat):Int)=id:=by omega
 have K:((tick.toNat:Nat):Int)=tick:=by omega
 rw[F,G,H,I,J,K,EP]
theorem Vw {f:Bool}{m:Nat}{a:Rd}(b:(Ei f m a).2.bad=false):a.bad=false/\a.rest=Tz f (Ei f m a).1++(Ei f m a).2.rest/\(Ei f m a).1<=m:=by
 cases f with
 |false=>exact⟨b,rfl,A6 _⟩
 |true=>
  simp only[Ei,Tz,if_true,An] at b ⊢;exact Fp b
theorem APF {f:Bool}{a:Rd}(b:(Uk f a).2.bad=false):a.bad=false/\a.rest=gG f (Ad (Uk f a).1)++(Uk f a).2.rest:=by
 cases f with
 |false=>exact⟨b,rfl⟩
 |true=>
  simp only[Uk,gG,if_true,FO] at b ⊢;exact SI b
theorem AN9 {b:jJ}{r:Rd}(c:(Qk b r).2.bad=false):r.bad=false/\r.rest=Nv (Qk b r).1++(Qk b r).2.rest:=by
 simp only[Qk] at c ⊢;obtain⟨d,e⟩:=APF c;obtain⟨f,g,h⟩:=Vw d;obtain⟨i,j,_⟩:=Vw f;obtain⟨k,l,_⟩:=Vw i;obtain⟨m,n,_⟩:=Vw k;obtain⟨o,p,_⟩:=Fp m;obtain⟨q,s,_⟩:=Fp o;obtain⟨t,u,_⟩:=Fp q;refine⟨t,?_⟩;simp only[Nv,A4,An];rw[<- e];have v: ∀a:Nat,a<=1->(if decide (a=1)=true then(1:Int) else 0)=(a:Int):=λa w=>by
  have:a=0\/a=1:=by omega
  rcases this with rfl|rfl<;>rfl
 rw[v _ h,<-g,<-j,<-l,<-n,<-p,<-s,<-u]
theorem AKt {l:List UInt8}{c:Ev}(a:jK l=some c):Ea c=true/\Nv c=l:=by
 unfold jK at a;simp only at a;split at a
 ·rename_i e;simp only[A3] at e;obtain⟨d,g⟩:=e;obtain rfl:=B9 a;refine⟨g,?_⟩;rw[xU] at d;obtain⟨_,f⟩:=AN9 (b:=eZ) (r:=⟨l,false⟩) (by rw[d]);rw[d] at f;simpa using f.symm
 ·cases a
theorem APp:eZ.wide:=⟨A0 _,A0 _,A0 _,A0 _,A0 _,A0 _⟩
theorem ALX {a:Ev}(c:Ej a=true):a.data.size<=(Nv a).length:=by
 simp only[Ej,A3] at c;have b:=c.2;cases d:dQ a.kind with
 |false=>
  rw[d] at b;simp at b;rw[b];exact A6 _
 |true=>
  simp only[Nv,gG,d,if_true,BU,A1,BA];omega
theorem AOS {l:List UInt8}{a:Ev}(e:l.length<18446744073709551616):jK l=some a↔Ea a=true/\Nv a=l:=by refine⟨AKt,λ⟨b,c⟩=>?_⟩;have d:=ALX (Od b);have:=ARz APp ⟨by decide,by decide,by decide⟩ (Od b) (by rw[c] at d;omega) [];rw[AS,c] at this;unfold jK;simp only[this,b];rfl
structure Jb where
 id:Int
 step:Int
 aK:Bool
 turn:Int
def nX:cr Jb where
 enc x:= [J6 J9 x.id,J6 J9 x.step,J3 x.aK,J6 J9 x.turn]
 w:=4
 len _:=rfl
 pos:=by omega
 one x v a:=by simp at a;rcases a with rfl|rfl|rfl|rfl<;>rfl
structure Ck where
 id:Int
 step:Int
 tick:Int
def nY:cr Ck where
 enc x:= [J6 J9 x.id,J6 J9 x.step,J6 J9 x.tick]
 w:=3
 len _:=rfl
 pos:=by omega
 one x v a:=by simp at a;rcases a with rfl|rfl|rfl<;>rfl
structure bj where
 prog:bK
 status:Int
 next:Int
 aP:Int
 asked:Int
 taken:Int
 fresh:Bool
 aC:List Jb
 ar:List Ck
 cancel:Bool
 aI:Bool
def SC:bj:=⟨⟨[],0⟩,0,0,0,0,0,false,[],[],false,false⟩
def stepOf(p:bK)(a b:Int):Option bR:=if 0<=a then(p.steps[a.toNat]?).bind λx=>if x.kind=b then some x else none else none
def yI(p:bK)(a:Jb):Int:=match stepOf p a.step 1 with
 |none=>0
 |some x=>if a.aK then x.az else x.tries
def AVO(s:bj)(b turn:Int):Option Nat:=s.aC.findIdx? λa=>decide (a.id=b)&&decide (a.turn=turn)
def Dr(s:bj)(a:Ev):Option bj:=
 if a.kind=2 then(if s.asked=0/\s.taken=0/\s.fresh=true then some {s with asked:=a.id} else none)
 else if a.kind=3 then(if s.asked=a.ref then some {s with asked:=0,taken:=a.id,fresh:=false} else none)
 else if a.kind=4 then(if s.taken=a.ref then some {s with taken:=0} else none)
 else(if s.taken=a.ref then some {s with taken:=0,fresh:=true} else none)
def rB(s:bj)(a:Ev):Option bj:=
 if a.kind=6 then(stepOf s.prog a.step 1).bind λx=>if a.aK=true/\x.aK=IQ then none else some {s with aC:=s.aC++ [⟨a.id,a.step,a.aK,1⟩]}
 else(AVO s a.ref a.turn).bind λi=>(s.aC[i]?).bind λb=>
  if a.kind=8 then(if a.turn=yI s.prog b then none else some {s with aC:=s.aC.set i {b with turn:=b.turn+1}})
  else if a.kind=7\/a.turn=yI s.prog b then some {s with aC:=s.aC.eraseIdx i,fresh:=true} else none
def rC(s:bj)(a:Ev):Option bj:=
 if a.kind=10 then(stepOf s.prog a.step 2).map λx=> {s with ar:=s.ar++ [⟨a.id,a.step,a.tick+x.wait⟩]}
 else(s.ar.findIdx? λc=>decide (c.id=a.ref)&&decide (c.tick<=a.tick)).map λi=> {s with ar:=s.ar.eraseIdx i,fresh:=true}
def gY(s:bj)(status:Int):bj:= {s with status:=status,asked:=0,taken:=0,fresh:=false,aC:= [],ar:= []}
def Pb(s:bj):Prop:=s.asked=0/\s.taken=0/\s.aC= []
instance (s:bj):Decidable (Pb s):=decidable_of_iff (s.asked=0/\s.taken=0/\s.aC.length=0) (by simp[Pb])
def Ka(s:bj)(a:Ev):Option bj:=
 if a.kind=12 then some {s with fresh:=true}
 else if a.kind=13 then(if s.cancel=true then none else some {s with cancel:=true,fresh:=true})
 else if a.kind=14 then(if s.aI=true\/s.prog.aw=0\/a.tick<s.aP+s.prog.aw then none else some {s with aI:=true,fresh:=true})
 else if a.kind=18 then some (gY s 4)
 else if a.kind=15 then(if Pb s then some (gY s 1) else none)
 else if a.kind=16 then(if Pb s then some (gY s 2) else none)
 else if a.kind=17 then(if Pb s then some (gY s 3) else none)
 else none
def Ta(s:bj)(a:Ev):Option bj:=
 (if 2<=a.kind/\a.kind<=5 then Dr s a else if 6<=a.kind/\a.kind<=9 then rB s a else if a.kind=10\/a.kind=11 then rC s a else Ka s a).map λt=> {t with next:=s.next+1}
def YJ(a:Ev):bj:=⟨(JO (bl a.data)).getD ⟨[],0⟩,0,2,a.tick,0,0,true,[],[],false,false⟩
def Bf(s:bj)(a:Ev):Int×bj:=
 if Ea a=false then(120,SC)
 else if s.next=0 then(if a.kind=1/\a.id=1 then(0,YJ a) else(120,SC))
 else if s.status≠0 then(182,SC)
 else if a.id≠s.next then(120,SC)
 else match Ta s a with
  |none=>(120,SC)
  |some t=>(0,t)
def Eb(s:bj):List Ev->Option bj
 | []=>some s
 |e::l=>if(Bf s e).1=0 then Eb (Bf s e).2 l else none
theorem AFY {a b:List Ev}: ∀ {s:bj},Eb s (a++b)=(Eb s a).bind λt=>Eb t b:=by
 induction a with
 |nil=>intro s;rfl
 |cons d l c=>
  intro s;rw[Dd,Eb,Eb];split
  ·exact c
  ·rfl
theorem yJ {s t:bj}{l:List Ev}{e:Ev}(a:Eb s l=some t)(b:(Bf t e).1=0):Eb s (l++ [e])=some (Bf t e).2:=by rw[AFY,a];show Eb t [e]=_;rw[Eb,if_pos b,Eb]
theorem RS {s:bj}{b:Ev}(a:(Bf s b).1=0):Ea b=true:=by
 unfold Bf at a;split at a
 ·cases a
 ·rename_i c;simpa using c
theorem yK {s:bj}{b:Ev}(a:(Bf s b).1=0):(s.next=0->b.id=1/\(Bf s b).2.next=2)/\(s.next≠0->b.id=s.next/\(Bf s b).2.next=s.next+1):=by
 unfold Bf at a ⊢;split at a
 ·cases a
 ·rename_i g;rw[if_neg g];split at a
  ·rename_i c;rw[if_pos c];split at a
   ·rename_i d;rw[if_pos d];exact⟨λ_=>⟨d.2,rfl⟩,λa=>absurd c a⟩
   ·cases a
  ·rename_i c;rw[if_neg c];split at a
   ·cases a
   ·rename_i d;rw[if_neg d];split at a
    ·cases a
    ·rename_i f;rw[if_neg f];cases e:Ta s b with
     |none=>rw[e] at a;cases a
     |some t=>
      refine⟨λa=>absurd a c,λ_=>⟨by simpa using f,?_⟩⟩;unfold Ta at e;obtain⟨h,-,rfl⟩:=Option.map_eq_some_iff.1 e;rfl
theorem AJd: ∀ {l:List Ev} {s t:bj},Eb s l=some t->1<=s.next->t.next=s.next+l.length/\ ∀(i:Nat) (b:Ev),l[i]? =some b->b.id=s.next+i/\Ea b=true:=by
 intro l
 induction l with
 |nil=>intro s t a e;cases a;exact⟨by simp,λi b f=>by simp at f⟩
 |cons b l g=>
  intro s t a e;rw[Eb] at a;split at a
  ·rename_i d;have h:=(yK d).2 (by omega);obtain⟨j,k⟩:=g a (by omega);refine⟨by rw[j,h.2,Ax];omega,λi x c=>?_⟩;cases i with
   |zero=>simp at c;subst c;exact⟨by omega,RS d⟩
   |succ i=>
    have:=k i x (by simpa using c);exact⟨by omega,this.2⟩
  ·cases a
theorem yL {l:List Ev}{t:bj}(a:Eb SC l=some t)(e:l≠ []):t.next=l.length+1/\ ∀(i:Nat) (b:Ev),l[i]? =some b->b.id=i+1/\Ea b=true:=by
 cases l with
 |nil=>exact absurd rfl e
 |cons b l=>
  rw[Eb] at a;split at a
  ·rename_i d;have f:=(yK d).1 rfl;obtain⟨g,h⟩:=AJd a (by omega);refine⟨by rw[g,f.2,Ax];omega,λi x c=>?_⟩;cases i with
   |zero=>simp at c;subst c;exact⟨by omega,RS d⟩
   |succ i=>
    have:=h i x (by simpa using c);exact⟨by omega,this.2⟩
  ·cases a
def eE:List UInt8->Option (List UInt8)
 | []=>none
 |a::p=>match eE p with
  |some q=>some (a::q)
  |none=>if a<255 then some [a+1] else none
theorem yD {a b:UInt8}(c:a<255):b<a+1↔ ¬a<b:=by
 have e:a.toNat<255:=UInt8.lt_iff_toNat_lt.1 c;have d:(a+1).toNat=a.toNat+1:=by rw[UInt8.toNat_add];show(a.toNat+1) % 256=_;omega
 rw[UInt8.lt_iff_toNat_lt,UInt8.lt_iff_toNat_lt,d];omega
theorem AUw {a b:UInt8}(c: ¬a<255): ¬a<b:=λd=>by
 rw[UInt8.lt_iff_toNat_lt] at c d;have:b.toNat<256:=b.toNat_lt;have e:(255:UInt8).toNat=255:=rfl;omega
theorem yE: ∀(p i:List UInt8),(¬ i<p/\(∀ q,eE p=some q->i<q))↔p <+: i
 | [],i=>by simp[eE]
 |a::p,[]=>by
  constructor
  ·rintro⟨c,_⟩;exact absurd (List.nil_lt_cons a p) c
  ·intro c;exact absurd (List.prefix_nil.1 c) (by simp)
 |a::p,b::i=>by
  have s:=yE p i;have e: ∀ {x o:UInt8} {l m:List UInt8},x::l<o::m↔x<o\/x=o/\l<m:=A0f;rw[List.cons_prefix_cons,<-s];constructor
  ·rintro⟨n,f⟩;have r: ¬b<a:=λc=>n (e.2 (.inl c))
   have t: ¬a<b:=λc=>by
    unfold eE at f;cases j:eE p with
    |some q=>
     rw[j] at f;rcases e.1 (f _ rfl) with d|⟨d,_⟩
     ·exact r d
     ·subst d;exact UInt8.lt_irrefl _ c
    |none=>
     rw[j] at f;by_cases h:a<255
     ·have:=f [a+1] (by simp[h]);rcases e.1 this with d|⟨_,d⟩
      ·exact(yD h).1 d c
      ·exact absurd d (by simp)
     ·exact AUw h c
   have k:a=b:=by
    by_cases k:a=b
    ·exact k
    ·rcases UInt8.lt_or_lt_of_ne k with c|c
     ·exact absurd c t
     ·exact absurd c r
   subst k;refine⟨rfl,λc=>n (e.2 (.inr ⟨rfl,c⟩)),λq g=>?_⟩;have:=f (a::q) (by unfold eE;rw[g]);rcases e.1 this with d|⟨_,d⟩
   ·exact absurd d (UInt8.lt_irrefl _)
   ·exact d
  ·rintro⟨rfl,n,f⟩;refine⟨λc=>?_,λq g=>?_⟩
   ·rcases e.1 c with d|⟨_,d⟩
    ·exact absurd d (UInt8.lt_irrefl _)
    ·exact n d
   ·unfold eE at g;cases j:eE p with
    |some u=>
     rw[j] at g;obtain rfl:=B9 g;exact e.2 (.inr ⟨rfl,f u j⟩)
    |none=>
     rw[j] at g;by_cases h:a<255
     ·have k:q= [a+1]:=by simpa [h] using g.symm
      subst k;exact e.2 (.inl ((yD h).2 (UInt8.lt_irrefl _)))
     ·simp[h] at g
theorem rz: ∀ {p:List UInt8},(∀ x∈p,¬x<255)->eE p=none
 | [],_=>rfl
 |a::p,b=>by
  unfold eE;rw[rz λx c=>b x (AI _ c)];simp[b a B8]
theorem yF: ∀ {p:List UInt8} {i:Nat} {a:UInt8},p[i]? =some a->a<255->(∀ x∈p.drop (i+1),¬x<255)->eE p=some (p.take i++ [a+1])
 | [],i,a,c,_,_=>by simp at c
 |b::p,0,a,c,d,hd=>by
  simp at c;subst c;unfold eE;rw[rz (by simpa using hd)];simp[d]
 |b::p,i+1,a,c,d,hd=>by
  unfold eE;rw[yF (p:=p) (i:=i) (a:=a) (by simpa using c) d (by simpa using hd)];simp
def Ky(p a:A31):Bool:=(p.data.toList).isPrefixOf a.data.toList
theorem O7(p a:A31):Ky p a=true↔p.data.toList <+: a.data.toList:=by unfold Ky;rw[List.isPrefixOf_iff_prefix]
def Ij:Nat->Nat->List UInt8
 |0,_=> []
 |k+1,a=>Ij k (a / 256)++ [Cq a]
theorem LB: ∀(k a:Nat),(Ij k a).length=k
 |0,_=>rfl
 |k+1,a=>by rw[Ij,A1,LB k];rfl
theorem Rc(a:Nat):Cq a=Cq (a % 256):=by apply UInt8.toNat_inj.1;simp[Cq,UInt8.toNat_ofNat']
theorem rD {a b:Nat}(c:a<256)(d:b<256)(e:Cq a=Cq b):a=b:=by have:=congrArg UInt8.toNat e;rwa [Dk c,Dk d] at this
theorem yM(a:Nat):Ij 4 a= [Cq (a / 256 / 256 / 256),Cq (a / 256 / 256),Cq (a / 256),Cq a]:=rfl
theorem ASY {a b:Nat}(i:b<65536)(j:a<b):Ij 4 a<Ij 4 b:=by
 rw[yM,yM];have d:a / 256 / 256=0:=by omega
 have e:b / 256 / 256=0:=by omega
 rw[d,e];have lt: ∀ {x c:Nat},c<256->x<c->Cq x<Cq c:=λ{x c} f g=>by
  rw[UInt8.lt_iff_toNat_lt,Dk f,Dk (by omega)];exact g
 refine List.Lex.cons (List.Lex.cons ?_);by_cases h:a / 256=b / 256
 ·rw[h];refine List.Lex.cons (List.Lex.rel ?_);rw[Rc a,Rc b];exact lt (by omega) (by omega)
 ·exact List.Lex.rel (lt (by omega) (by omega))
theorem yN(p:List UInt8){a b:List UInt8}(d:a<b):p++a<p++b:=by
 induction p with
 |nil=>exact d
 |cons c p e=>exact List.Lex.cons e
def kE:UInt8:=104
def kG(wid:A31):List UInt8:=kE::BU (bl wid)
def Xx(wid:A31):A31:=Ad (kG wid)
def dR(wid:A31)(id:Nat):A31:=Ad (kG wid++Ij 4 id)
def KD(wid:A31):A31:=Ad (119::bl wid)
def KS(a:A31):A31:=Ad (114::bl a)
def Cw(a id:Nat):A31:=Ad (116::Cq a::Ij 8 id)
def TD(a b id:Nat):A31:=Ad (109::Cq a::(Ij 8 b++Ij 8 id))
theorem yO {s:A31}(a:s.size<=16):BU (bl s)=Cq s.size::bl s:=by unfold BU;rw[BA,FU (by omega)];rfl
theorem SH {wid:A31}(a:wid.size<=16):kG wid=104::Cq wid.size::bl wid:=by unfold kG;rw[yO a];rfl
theorem AQh {wid:A31}(a:wid.size<=16)(id:Nat):(dR wid id).size<=22:=by unfold dR;rw[AP,A1,LB,SH a];simp only[Ax,BA];omega
theorem AOj {wid:A31}(a:wid.size<=16):(Xx wid).size<=18:=by unfold Xx;rw[AP,SH a];simp only[Ax,BA];omega
theorem Sn(wid:A31):(KD wid).size=wid.size+1:=by unfold KD;rw[AP,Ax,BA]
theorem WE(a:A31):(KS a).size=a.size+1:=by unfold KS;rw[AP,Ax,BA]
theorem ND(a id:Nat):(Cw a id).size=10:=by unfold Cw;rw[AP];rfl
theorem yP(b a id:Nat):(TD b a id).size=18:=by unfold TD;rw[AP];rfl
theorem lK {wid:A31}{i a:Nat}(b:a<65536)(c:i<a):aG (dR wid i) (dR wid a)=true:=by rw[WL,decide_eq_true_eq];unfold dR;rw[Bw,Bw];exact yN _ (ASY b c)
theorem yQ(wid:A31)(id:Nat):Ky (Xx wid) (dR wid id)=true:=by rw[O7];unfold Xx dR;rw[Bw,Bw];exact List.prefix_append _ _
theorem yR {wid a:A31}(d:wid.size<=16)(e:a.size<=16){id:Nat}(b:Ky (Xx wid) (dR a id)=true):wid=a:=by rw[O7] at b;unfold Xx dR at b;rw[Bw,Bw,SH d,SH e] at b;obtain⟨t,c⟩:=b;simp only[Dd,Gk,true_and] at c;have f:=rD (by omega) (by omega) c.1;have:=(List.append_inj c.2 (by rw[BA,BA];exact f)).1;rw[<- EP wid,<-EP a];exact congrArg Ad this
theorem ASM {wid b:A31}(e:wid.size<=16)(f:b.size<=16){i c:Nat}(hi:i<65536)(g:c<65536)(d:dR wid i=dR b c):wid=b/\i=c:=by
 have h:wid=b:=yR e f (by rw[<- d];exact yQ wid i);subst h;refine⟨rfl,?_⟩;rcases HT i c with a|a|a
 ·exact absurd d (Lu (lK g a))
 ·exact a
 ·exact absurd d.symm (Lu (lK hi a))
theorem APB {a b:A31}(c:KD a=KD b):a=b:=by have:=Oy.1 c;simp only[Gk,true_and] at this;rw[<- EP a,<-EP b];exact congrArg Ad this
theorem yS {a b:A31}(c:KS a=KS b):a=b:=by have:=Oy.1 c;simp only[Gk,true_and] at this;rw[<- EP a,<-EP b];exact congrArg Ad this
def BG(a:A31):UInt8:=(bl a).headD 0
theorem WG(wid:A31)(id:Nat):BG (dR wid id)=104:=by unfold BG dR;rw[FO];rfl
theorem Fh(wid:A31):BG (KD wid)=119:=by unfold BG KD;rw[FO];rfl
theorem Jw(wid:A31):BG (KS wid)=114:=by unfold BG KS;rw[FO];rfl
theorem Pj(a id:Nat):BG (Cw a id)=116:=by unfold BG Cw;rw[FO];rfl
theorem yT(b a id:Nat):BG (TD b a id)=109:=by unfold BG TD;rw[FO];rfl
theorem rE {wid a:A31}(b:Ky (Xx wid) a=true):BG a=104:=by rw[O7] at b;obtain⟨t,c⟩:=b;unfold BG;show(a.data.toList).headD 0=104;rw[<- c];unfold Xx;rw[Bw];rfl
def RG(status next:Nat)(a:Bool):A31:=Ad (Bp status++(Bp next++Bp (if a then 1 else 0)))
def iy(a:List UInt8)(status next:Nat):A31:=Ad (BU a++(Bp status++Bp next))
def lL(a:Nat)(wid:A31)(b turn:Nat):A31:=Ad (Bp a++(BU (bl wid)++(Bp b++Bp turn)))
theorem Fa {n:Nat}(a:n<16384):(Bp n).length<=2:=zy 1 n (by omega)
theorem yU {kind ref turn:Nat}{wid:A31}(a:kind<128)(b:wid.size<=16)(c:ref<=500)(d:turn<=5):(lL kind wid ref turn).size<=22:=by unfold lL;have:=Fa (n:=ref) (by omega);rw[AP,FU a,yO b,FU (n:=turn) (by omega)];simp only[A1,Ax,BA,Hc];omega
theorem ALc {status next:Nat}{kept:Bool}(a:status<128)(b:next<=501):(RG status next kept).size<=4:=by unfold RG;have:=Fa (n:=next) (by omega);rw[AP,FU a,FU (n:=if kept then 1 else 0) (by split<;>omega)];simp only[A1,Ax,Hc];omega
structure ba where
 wid:A31
 ai:Nat
 bW:Int
 bO:Int
 kept:Bool
 st:bj
 more:List Ev
 aq:List Pr
 conds:List Pr
 err:Int
 now:Int
def iX(s:bj):Bool:=decide (s.next<=497)
def Gh(wid:A31)(b:Nat)(c d:Int)(e:Bool)(st:bj)(a:Int):ba:=
 ⟨wid,b,c,d,e,st,[],[],[],if a<0\/1099511611776<a then 1 else 0,a⟩
def CG(a:ba)(b:Ev):Ev:= {b with id:=if 1>a.st.next then 1 else a.st.next,tick:=a.now}
def DX(a:ba)(b:Ev):ba:=
 if a.err≠0 then a
 else if a.more= []/\iX a.st=false/\b.kind≠18 then {a with err:=2}
 else if(Bf a.st (CG a b)).1≠0 then {a with err:=(Bf a.st (CG a b)).1}
 else {a with st:=(Bf a.st (CG a b)).2,more:=a.more++ [CG a b]}
def TU(a:ba):Int:=a.st.next-1
structure fA where
 kind:Int
 ref:Int
 turn:Int
def G9(t:fA)(wid:A31):Bool:=bP t.kind 1 7&&Am wid&&bP t.ref 0 500&&bP t.turn 0 5
def fR(t:fA)(wid:A31):A31:=lL t.kind.toNat wid t.ref.toNat t.turn.toNat
def ML(a:Nat)(tick:Int)(b:Nat):A31:=if tick<0 then Cw a b else TD a tick.toNat b
def Dq(a:ba)(t:fA)(tick:Int)(b:Nat):ba:=
 if a.err≠0 then a
 else if G9 t a.wid=false then {a with err:=1}
 else {a with aq:=a.aq++ [⟨ML a.ai tick b,fR t a.wid,false⟩]}
def iz(a:ba)(key val:A31):ba:= {a with conds:=a.conds++ [⟨key,val,false⟩],aq:=a.aq++ [⟨key,⟨#[]⟩,true⟩]}
def nZ(a:ba)(key val:A31):ba:= {a with conds:=a.conds++ [⟨key,⟨#[]⟩,true⟩],aq:=a.aq++ [⟨key,val,false⟩]}
def ED(a:ba):Bool:=decide (a.more≠ [])&&(decide (a.st.status=0)&&(a.st.fresh&&(decide (a.st.asked=0)&&decide (a.st.taken=0))))
def Cy(a:ba):Int×Int:=(a.st.status,if ED a then a.st.next+1 else a.st.next)
def bo(a:ba):Pr:=if 0<a.bO then⟨KD a.wid,RG a.bW.toNat a.bO.toNat a.kept,false⟩ else⟨KD a.wid,⟨#[]⟩,true⟩
def OI(wid:A31)(a:Ev):Pr:=⟨dR wid a.id.toNat,Ad (Nv a),false⟩
def DW(a:ba):List Pr:=a.more.map (OI a.wid)++(if a.more= [] then [] else [⟨KD a.wid,RG a.st.status.toNat a.st.next.toNat false,false⟩])
structure ba.a1v (C:ba):Prop where
 pos:C.err=0-> ∀e∈C.more,Ea e=true
 err0:0<=C.err
theorem Oc(a:ba)(b:Ev):(DX a b).wid=a.wid/\(DX a b).ai=a.ai/\(DX a b).bW=a.bW/\(DX a b).bO=a.bO/\(DX a b).kept=a.kept/\(DX a b).aq=a.aq/\(DX a b).conds=a.conds/\(DX a b).now=a.now:=by
 unfold DX;split
 ·simp
 ·split
  ·simp
  ·split<;>simp
theorem Z0 {a:ba}{e:Ev}(d:a.err=0)(f:a.more≠ []\/a.st.next<=497\/e.kind=18)(g:(Bf a.st (CG a e)).1=0):
  DX a e= {a with st:=(Bf a.st (CG a e)).2,more:=a.more++ [CG a e]}:=by
 unfold DX;rw[if_neg (by simp[d]),if_neg (by
  rintro⟨h,c,i⟩;rcases f with b|b|b
  ·exact b h
  ·unfold iX at c;simp at c;omega
  ·exact i b),if_neg (by simp[g])]
def rF(a:Q6):aa->Nat->List J0->(aa->Prop)->Prop
 |h,_,[],K=>K h
 |h,i,v::b,K=>ab h (a.add i) v λc=>rF a c (i+1) b K
def aD(b:aa)(a:Q6)(c:List J0)(K:aa->Prop):Prop:=rF a b 0 c K
def gK(a:Array J0)(b:Nat)(c:List J0):Array J0:=⟨a.toList.take b++(c++a.toList.drop (b+c.length))⟩
theorem AO7 {c:Array J0}{a:Nat}{v:J0}{b:List J0}(d:a<c.size):gK (c.setIfInBounds a v) (a+1) b=gK c a (v::b):=by
 obtain⟨l⟩:=c;have d:a<l.length:=d;unfold gK;apply congrArg Array.mk;simp only[V0,Ax];have e:l.set a v=l.take a++v::l.drop (a+1):=by rw[A03,if_pos d]
 rw[e,List.take_append,List.drop_append,AD,Ft (by omega)];rw[show a+1-a=1 from by omega,List.take_take,Mu (by omega),show a+1+b.length-a=b.length+1 from by omega];rw[IF (l:=l.take a) (by rw[AD];omega)];simp only[Ln,No,DG,KK,I0,A4,Dd];rw[show a+1+b.length=a+(b.length+1) from by omega]
theorem ARp {a:Array J0}{b:Nat}:gK a b []=a:=by obtain⟨l⟩:=a;unfold gK;simp
theorem yW {b c:Nat}{T:Q7}{K:aa->Prop}: ∀(d:List J0) (i:Nat) {a:aa} {e:Array J0},a[b]? =some (J2 e T (0,0))->c+i+d.length<=e.size->
  (∀ f,f[b]? =some (J2 (gK e (c+i) d) T (0,0))->Mod (· =b) a f->f.size=a.size->K f)->rF ⟨b,c,none⟩ a i d K
 | [],i,a,e,g,_,h=>h a (by rw[ARp];exact g) ⟨A0 _,λ_ _ _=>rfl⟩ rfl
 |v::d,i,a,e,g,k,h=>by
  rw[Ax] at k;show ab a (Addr.add ⟨b,c,none⟩ i) v _;rw[CE];refine ab.mk g (by omega) λp l m q=>?_
  refine yW d (i+1) l (by simp;omega) λn j o r=>h n ?_ (m.trans o) (by omega)
  rw[show c+(i+1)=c+i+1 from by omega,AO7 (by omega)] at j;exact j
theorem aD.mk {b e:Nat}{T:Q7}{K:aa->Prop}{a:List J0}{c:aa}{f:Array J0}(g:c[b]? =some (J2 f T (0,0)))(h:e+a.length<=f.size)
  (i: ∀d,d[b]? =some (J2 (gK f e a) T (0,0))->Mod (· =b) c d->d.size=c.size->K d):aD c ⟨b,e,none⟩ a K:=yW a 0 g h i
theorem Cr {c:aa}{b o:Nat}{d:Array J0}{T:Q7}{fr:Nat×Nat}{l:List J0}(e:c[b]? =some (J2 d T fr))(f:(d.toList.drop o).take l.length=l):Cells c ⟨b,o,none⟩ l:=λg v a=>by
 rw[CE];refine AO e ?_;rw[<- A0r,<-C5];have h:=(List.getElem?_eq_some_iff.1 a).1;rw[<- f,Fo,if_pos (by omega)] at a;exact a
abbrev Ev.l(x:Ev):List J0:= [J6 J9 x.id,J6 J9 x.kind,J6 J9 x.tick,J6 J9 x.ref,J6 J9 x.step,J6 J9 x.turn,J3 x.aK,J7 x.data]
abbrev Ev.c(x:Ev):Array J0:= #[J6 J9 x.id,J6 J9 x.kind,J6 J9 x.tick,J6 J9 x.ref,J6 J9 x.step,J6 J9 x.turn,J3 x.aK,J7 x.data]
abbrev Ev.v(x:Ev):J0:= .agg #[J6 J9 x.id,J6 J9 x.kind,J6 J9 x.tick,J6 J9 x.ref,J6 J9 x.step,J6 J9 x.turn,J3 x.aK,J7 x.data]
abbrev Ev.z:Ev:=⟨0,0,0,0,0,0,false,⟨#[]⟩⟩
abbrev Ev.s:List Sc:= [.int J9,.int J9,.int J9,.int J9,.int J9,.int J9,.bool,.str]
abbrev Ev.T:Type:=Int×Int×Int×Int×Int×Int×Bool×A31×Unit
abbrev Ev.t(x:Ev):Ev.T:=(x.id,x.kind,x.tick,x.ref,x.step,x.turn,x.aK,x.data,())
def o0(K:Ev->Prop):Prop:= ∃a:Int,∃b:Int,∃c:Int,∃d:Int,∃e:Int,∃f:Int,∃g:Bool,∃h:A31,K ⟨a,b,c,d,e,f,g,h⟩
theorem o0.mk {K:Ev->Prop}(x:Ev)(a:K x):o0 K:=⟨x.id,x.kind,x.tick,x.ref,x.step,x.turn,x.aK,x.data,a⟩
def NV(b:aa)(a:Q6)(K:Ev->Prop):Prop:=
 AC J9 b a λc=>
 AC J9 b (a.add 1) λd=>
 AC J9 b (a.add 2) λe=>
 AC J9 b (a.add 3) λf=>
 AC J9 b (a.add 4) λg=>
 AC J9 b (a.add 5) λh=>
 Aa b (a.add 6) λi=>
 AL b (a.add 7) λj=>
 K ⟨c,d,e,f,g,h,i,j⟩
theorem NV.mk {b:aa}{a:Q6}{K:Ev->Prop}(x:Ev)(c:Cells b a x.l)(d:K x):NV b a K:=
 ⟨_,by have:=c 0 _ rfl;rwa [add_zero] at this,_,c 1 _ rfl,_,c 2 _ rfl,_,c 3 _ rfl,_,c 4 _ rfl,_,c 5 _ rfl,_,c 6 _ rfl,_,c 7 _ rfl,d⟩
abbrev Jb.l(x:Jb):List J0:= [J6 J9 x.id,J6 J9 x.step,J3 x.aK,J6 J9 x.turn]
abbrev Jb.c(x:Jb):Array J0:= #[J6 J9 x.id,J6 J9 x.step,J3 x.aK,J6 J9 x.turn]
abbrev Jb.v(x:Jb):J0:= .agg #[J6 J9 x.id,J6 J9 x.step,J3 x.aK,J6 J9 x.turn]
abbrev Jb.z:Jb:=⟨0,0,false,0⟩
abbrev Jb.s:List Sc:= [.int J9,.int J9,.bool,.int J9]
abbrev Jb.T:Type:=Int×Int×Bool×Int×Unit
abbrev Jb.t(x:Jb):Jb.T:=(x.id,x.step,x.aK,x.turn,())
abbrev Ck.l(x:Ck):List J0:= [J6 J9 x.id,J6 J9 x.step,J6 J9 x.tick]
abbrev Ck.c(x:Ck):Array J0:= #[J6 J9 x.id,J6 J9 x.step,J6 J9 x.tick]
abbrev Ck.v(x:Ck):J0:= .agg #[J6 J9 x.id,J6 J9 x.step,J6 J9 x.tick]
abbrev Ck.z:Ck:=⟨0,0,0⟩
abbrev Ck.s:List Sc:= [.int J9,.int J9,.int J9]
abbrev Ck.T:Type:=Int×Int×Int×Unit
abbrev Ck.t(x:Ck):Ck.T:=(x.id,x.step,x.tick,())
abbrev bR.l(x:bR):List J0:= [J6 J9 x.kind,J7 x.name,J7 x.aK,J6 J9 x.tries,J6 J9 x.az,J6 J9 x.wait]
abbrev bR.c(x:bR):Array J0:= #[J6 J9 x.kind,J7 x.name,J7 x.aK,J6 J9 x.tries,J6 J9 x.az,J6 J9 x.wait]
abbrev bR.v(x:bR):J0:= .agg #[J6 J9 x.kind,J7 x.name,J7 x.aK,J6 J9 x.tries,J6 J9 x.az,J6 J9 x.wait]
abbrev bR.z:bR:=⟨0,⟨#[]⟩,⟨#[]⟩,0,0,0⟩
abbrev bR.s:List Sc:= [.int J9,.str,.str,.int J9,.int J9,.int J9]
abbrev bR.T:Type:=Int×A31×A31×Int×Int×Int×Unit
abbrev bR.t(x:bR):bR.T:=(x.kind,x.name,x.aK,x.tries,x.az,x.wait,())
def yX(b:aa)(a:Q6)(K:bR->Prop):Prop:=
 AC J9 b a λc=>
 AL b (a.add 1) λd=>
 AL b (a.add 2) λe=>
 AC J9 b (a.add 3) λf=>
 AC J9 b (a.add 4) λg=>
 AC J9 b (a.add 5) λh=>
 K ⟨c,d,e,f,g,h⟩
structure bE where
 steps:Sl
 aw:Int
 status:Int
 next:Int
 aP:Int
 asked:Int
 taken:Int
 fresh:Bool
 aC:Sl
 ar:Sl
 cancel:Bool
 aI:Bool
abbrev bE.l(x:bE):List J0:= [J4 x.steps.p x.steps.len x.steps.cap,J6 J9 x.aw,J6 J9 x.status,J6 J9 x.next,J6 J9 x.aP,J6 J9 x.asked,J6 J9 x.taken,J3 x.fresh,J4 x.aC.p x.aC.len x.aC.cap,J4 x.ar.p x.ar.len x.ar.cap,J3 x.cancel,J3 x.aI]
abbrev bE.c(x:bE):Array J0:= #[J4 x.steps.p x.steps.len x.steps.cap,J6 J9 x.aw,J6 J9 x.status,J6 J9 x.next,J6 J9 x.aP,J6 J9 x.asked,J6 J9 x.taken,J3 x.fresh,J4 x.aC.p x.aC.len x.aC.cap,J4 x.ar.p x.ar.len x.ar.cap,J3 x.cancel,J3 x.aI]
abbrev bE.v(x:bE):J0:= .agg #[J4 x.steps.p x.steps.len x.steps.cap,J6 J9 x.aw,J6 J9 x.status,J6 J9 x.next,J6 J9 x.aP,J6 J9 x.asked,J6 J9 x.taken,J3 x.fresh,J4 x.aC.p x.aC.len x.aC.cap,J4 x.ar.p x.ar.len x.ar.cap,J3 x.cancel,J3 x.aI]
abbrev bE.z:bE:=⟨⟨none,0,0⟩,0,0,0,0,0,0,false,⟨none,0,0⟩,⟨none,0,0⟩,false,false⟩
abbrev bE.s:List Sc:= [.sl,.int J9,.int J9,.int J9,.int J9,.int J9,.int J9,.bool,.sl,.sl,.bool,.bool]
abbrev bE.T:Type:=Sl×Int×Int×Int×Int×Int×Int×Bool×Sl×Sl×Bool×Bool×Unit
abbrev bE.t(x:bE):bE.T:=(x.steps,x.aw,x.status,x.next,x.aP,x.asked,x.taken,x.fresh,x.aC,x.ar,x.cancel,x.aI,())
def Gn(K:bE->Prop):Prop:= ∃a:Sl,∃b:Int,∃c:Int,∃d:Int,∃e:Int,∃f:Int,∃g:Int,∃h:Bool,∃i:Sl,∃j:Sl,∃k:Bool,∃l:Bool,K ⟨a,b,c,d,e,f,g,h,i,j,k,l⟩
theorem Gn.mk {K:bE->Prop}(x:bE)(a:K x):Gn K:=⟨x.steps,x.aw,x.status,x.next,x.aP,x.asked,x.taken,x.fresh,x.aC,x.ar,x.cancel,x.aI,a⟩
def Bg(b:aa)(a:Q6)(K:bE->Prop):Prop:=
 AV b a λc=>
 AC J9 b (a.add 1) λd=>
 AC J9 b (a.add 2) λe=>
 AC J9 b (a.add 3) λf=>
 AC J9 b (a.add 4) λg=>
 AC J9 b (a.add 5) λh=>
 AC J9 b (a.add 6) λi=>
 Aa b (a.add 7) λj=>
 AV b (a.add 8) λk=>
 AV b (a.add 9) λl=>
 Aa b (a.add 10) λm=>
 Aa b (a.add 11) λn=>
 K ⟨c,d,e,f,g,h,i,j,k,l,m,n⟩
theorem Bg.mk {b:aa}{a:Q6}{K:bE->Prop}(x:bE)(c:Cells b a x.l)(d:K x):Bg b a K:=
 ⟨_,by have:=c 0 _ rfl;rwa [add_zero] at this,_,c 1 _ rfl,_,c 2 _ rfl,_,c 3 _ rfl,_,c 4 _ rfl,_,c 5 _ rfl,_,c 6 _ rfl,_,c 7 _ rfl,_,c 8 _ rfl,_,c 9 _ rfl,_,c 10 _ rfl,_,c 11 _ rfl,d⟩
structure cI where
 status:Int
 next:Int
 kept:Bool
abbrev cI.l(x:cI):List J0:= [J6 J9 x.status,J6 J9 x.next,J3 x.kept]
abbrev cI.c(x:cI):Array J0:= #[J6 J9 x.status,J6 J9 x.next,J3 x.kept]
abbrev cI.v(x:cI):J0:= .agg #[J6 J9 x.status,J6 J9 x.next,J3 x.kept]
abbrev cI.z:cI:=⟨0,0,false⟩
abbrev cI.s:List Sc:= [.int J9,.int J9,.bool]
abbrev cI.T:Type:=Int×Int×Bool×Unit
abbrev cI.t(x:cI):cI.T:=(x.status,x.next,x.kept,())
def od(K:cI->Prop):Prop:= ∃a:Int,∃b:Int,∃c:Bool,K ⟨a,b,c⟩
theorem od.mk {K:cI->Prop}(x:cI)(a:K x):od K:=⟨x.status,x.next,x.kept,a⟩
def Om(b:aa)(a:Q6)(K:cI->Prop):Prop:=
 AC J9 b a λc=>
 AC J9 b (a.add 1) λd=>
 Aa b (a.add 2) λe=>
 K ⟨c,d,e⟩
theorem Om.mk {b:aa}{a:Q6}{K:cI->Prop}(x:cI)(c:Cells b a x.l)(d:K x):Om b a K:=
 ⟨_,by have:=c 0 _ rfl;rwa [add_zero] at this,_,c 1 _ rfl,_,c 2 _ rfl,d⟩
structure bG where
 wid:A31
 ai:Int
 me:cI
 cw:Sl
 st:bE
abbrev bG.l(x:bG):List J0:= [J7 x.wid,J6 J9 x.ai,J6 J9 x.me.status,J6 J9 x.me.next,J3 x.me.kept,J4 x.cw.p x.cw.len x.cw.cap,J4 x.st.steps.p x.st.steps.len x.st.steps.cap,J6 J9 x.st.aw,J6 J9 x.st.status,J6 J9 x.st.next,J6 J9 x.st.aP,J6 J9 x.st.asked,J6 J9 x.st.taken,J3 x.st.fresh,J4 x.st.aC.p x.st.aC.len x.st.aC.cap,J4 x.st.ar.p x.st.ar.len x.st.ar.cap,J3 x.st.cancel,J3 x.st.aI]
abbrev bG.c(x:bG):Array J0:= #[J7 x.wid,J6 J9 x.ai,J6 J9 x.me.status,J6 J9 x.me.next,J3 x.me.kept,J4 x.cw.p x.cw.len x.cw.cap,J4 x.st.steps.p x.st.steps.len x.st.steps.cap,J6 J9 x.st.aw,J6 J9 x.st.status,J6 J9 x.st.next,J6 J9 x.st.aP,J6 J9 x.st.asked,J6 J9 x.st.taken,J3 x.st.fresh,J4 x.st.aC.p x.st.aC.len x.st.aC.cap,J4 x.st.ar.p x.st.ar.len x.st.ar.cap,J3 x.st.cancel,J3 x.st.aI]
abbrev bG.v(x:bG):J0:= .agg #[J7 x.wid,J6 J9 x.ai,J6 J9 x.me.status,J6 J9 x.me.next,J3 x.me.kept,J4 x.cw.p x.cw.len x.cw.cap,J4 x.st.steps.p x.st.steps.len x.st.steps.cap,J6 J9 x.st.aw,J6 J9 x.st.status,J6 J9 x.st.next,J6 J9 x.st.aP,J6 J9 x.st.asked,J6 J9 x.st.taken,J3 x.st.fresh,J4 x.st.aC.p x.st.aC.len x.st.aC.cap,J4 x.st.ar.p x.st.ar.len x.st.ar.cap,J3 x.st.cancel,J3 x.st.aI]
abbrev bG.z:bG:=⟨⟨#[]⟩,0,⟨0,0,false⟩,⟨none,0,0⟩,⟨⟨none,0,0⟩,0,0,0,0,0,0,false,⟨none,0,0⟩,⟨none,0,0⟩,false,false⟩⟩
abbrev bG.s:List Sc:= [.str,.int J9,.int J9,.int J9,.bool,.sl,.sl,.int J9,.int J9,.int J9,.int J9,.int J9,.int J9,.bool,.sl,.sl,.bool,.bool]
abbrev bG.T:Type:=A31×Int×Int×Int×Bool×Sl×Sl×Int×Int×Int×Int×Int×Int×Bool×Sl×Sl×Bool×Bool×Unit
abbrev bG.t(x:bG):bG.T:=(x.wid,x.ai,x.me.status,x.me.next,x.me.kept,x.cw,x.st.steps,x.st.aw,x.st.status,x.st.next,x.st.aP,x.st.asked,x.st.taken,x.st.fresh,x.st.aC,x.st.ar,x.st.cancel,x.st.aI,())
def LJ(K:bG->Prop):Prop:= ∃a:A31,∃b:Int,∃c:Int,∃d:Int,∃e:Bool,∃f:Sl,∃g:Sl,∃h:Int,∃i:Int,∃j:Int,∃k:Int,∃l:Int,∃m:Int,∃n:Bool,∃o:Sl,∃p:Sl,∃q:Bool,∃r:Bool,K ⟨a,b,⟨c,d,e⟩,f,⟨g,h,i,j,k,l,m,n,o,p,q,r⟩⟩
theorem LJ.mk {K:bG->Prop}(x:bG)(a:K x):LJ K:=⟨x.wid,x.ai,x.me.status,x.me.next,x.me.kept,x.cw,x.st.steps,x.st.aw,x.st.status,x.st.next,x.st.aP,x.st.asked,x.st.taken,x.st.fresh,x.st.aC,x.st.ar,x.st.cancel,x.st.aI,a⟩
def EC(b:aa)(a:Q6)(K:bG->Prop):Prop:=
 AL b a λc=>
 AC J9 b (a.add 1) λd=>
 AC J9 b (a.add 2) λe=>
 AC J9 b (a.add 3) λf=>
 Aa b (a.add 4) λg=>
 AV b (a.add 5) λh=>
 AV b (a.add 6) λi=>
 AC J9 b (a.add 7) λj=>
 AC J9 b (a.add 8) λk=>
 AC J9 b (a.add 9) λl=>
 AC J9 b (a.add 10) λm=>
 AC J9 b (a.add 11) λn=>
 AC J9 b (a.add 12) λo=>
 Aa b (a.add 13) λp=>
 AV b (a.add 14) λq=>
 AV b (a.add 15) λr=>
 Aa b (a.add 16) λs=>
 Aa b (a.add 17) λt=>
 K ⟨c,d,⟨e,f,g⟩,h,⟨i,j,k,l,m,n,o,p,q,r,s,t⟩⟩
theorem EC.mk {b:aa}{a:Q6}{K:bG->Prop}(x:bG)(c:Cells b a x.l)(d:K x):EC b a K:=
 ⟨_,by have:=c 0 _ rfl;rwa [add_zero] at this,_,c 1 _ rfl,_,c 2 _ rfl,_,c 3 _ rfl,_,c 4 _ rfl,_,c 5 _ rfl,_,c 6 _ rfl,_,c 7 _ rfl,_,c 8 _ rfl,_,c 9 _ rfl,_,c 10 _ rfl,_,c 11 _ rfl,_,c 12 _ rfl,_,c 13 _ rfl,_,c 14 _ rfl,_,c 15 _ rfl,_,c 16 _ rfl,_,c 17 _ rfl,d⟩
structure bQ where
 kind:Int
 wid:A31
 ref:Int
 turn:Int
abbrev bQ.l(x:bQ):List J0:= [J6 J9 x.kind,J7 x.wid,J6 J9 x.ref,J6 J9 x.turn]
abbrev bQ.c(x:bQ):Array J0:= #[J6 J9 x.kind,J7 x.wid,J6 J9 x.ref,J6 J9 x.turn]
abbrev bQ.v(x:bQ):J0:= .agg #[J6 J9 x.kind,J7 x.wid,J6 J9 x.ref,J6 J9 x.turn]
abbrev bQ.z:bQ:=⟨0,⟨#[]⟩,0,0⟩
abbrev bQ.s:List Sc:= [.int J9,.str,.int J9,.int J9]
abbrev bQ.T:Type:=Int×A31×Int×Int×Unit
abbrev bQ.t(x:bQ):bQ.T:=(x.kind,x.wid,x.ref,x.turn,())
def jN(K:bQ->Prop):Prop:= ∃a:Int,∃b:A31,∃c:Int,∃d:Int,K ⟨a,b,c,d⟩
theorem jN.mk {K:bQ->Prop}(x:bQ)(a:K x):jN K:=⟨x.kind,x.wid,x.ref,x.turn,a⟩
def Ir(b:aa)(a:Q6)(K:bQ->Prop):Prop:=
 AC J9 b a λc=>
 AL b (a.add 1) λd=>
 AC J9 b (a.add 2) λe=>
 AC J9 b (a.add 3) λf=>
 K ⟨c,d,e,f⟩
theorem Ir.mk {b:aa}{a:Q6}{K:bQ->Prop}(x:bQ)(c:Cells b a x.l)(d:K x):Ir b a K:=
 ⟨_,by have:=c 0 _ rfl;rwa [add_zero] at this,_,c 1 _ rfl,_,c 2 _ rfl,_,c 3 _ rfl,d⟩
structure bU where
 kind:Int
 bg:A31
 wid:A31
 name:A31
 steps:Sl
 aw:Int
 cj:Sl
 ref:Int
 turn:Int
 bV:Int
 ai:Int
 aL:Bool
abbrev bU.l(x:bU):List J0:= [J6 J9 x.kind,J7 x.bg,J7 x.wid,J7 x.name,J4 x.steps.p x.steps.len x.steps.cap,J6 J9 x.aw,J4 x.cj.p x.cj.len x.cj.cap,J6 J9 x.ref,J6 J9 x.turn,J6 J9 x.bV,J6 J9 x.ai,J3 x.aL]
abbrev bU.c(x:bU):Array J0:= #[J6 J9 x.kind,J7 x.bg,J7 x.wid,J7 x.name,J4 x.steps.p x.steps.len x.steps.cap,J6 J9 x.aw,J4 x.cj.p x.cj.len x.cj.cap,J6 J9 x.ref,J6 J9 x.turn,J6 J9 x.bV,J6 J9 x.ai,J3 x.aL]
abbrev bU.v(x:bU):J0:= .agg #[J6 J9 x.kind,J7 x.bg,J7 x.wid,J7 x.name,J4 x.steps.p x.steps.len x.steps.cap,J6 J9 x.aw,J4 x.cj.p x.cj.len x.cj.cap,J6 J9 x.ref,J6 J9 x.turn,J6 J9 x.bV,J6 J9 x.ai,J3 x.aL]
abbrev bU.z:bU:=⟨0,⟨#[]⟩,⟨#[]⟩,⟨#[]⟩,⟨none,0,0⟩,0,⟨none,0,0⟩,0,0,0,0,false⟩
abbrev bU.s:List Sc:= [.int J9,.str,.str,.str,.sl,.int J9,.sl,.int J9,.int J9,.int J9,.int J9,.bool]
abbrev bU.T:Type:=Int×A31×A31×A31×Sl×Int×Sl×Int×Int×Int×Int×Bool×Unit
abbrev bU.t(x:bU):bU.T:=(x.kind,x.bg,x.wid,x.name,x.steps,x.aw,x.cj,x.ref,x.turn,x.bV,x.ai,x.aL,())
def UU(b:aa)(a:Q6)(K:bU->Prop):Prop:=
 AC J9 b a λc=>
 AL b (a.add 1) λd=>
 AL b (a.add 2) λe=>
 AL b (a.add 3) λf=>
 AV b (a.add 4) λg=>
 AC J9 b (a.add 5) λh=>
 AV b (a.add 6) λi=>
 AC J9 b (a.add 7) λj=>
 AC J9 b (a.add 8) λk=>
 AC J9 b (a.add 9) λl=>
 AC J9 b (a.add 10) λm=>
 Aa b (a.add 11) λn=>
 K ⟨c,d,e,f,g,h,i,j,k,l,m,n⟩
theorem UU.mk {b:aa}{a:Q6}{K:bU->Prop}(x:bU)(c:Cells b a x.l)(d:K x):UU b a K:=
 ⟨_,by have:=c 0 _ rfl;rwa [add_zero] at this,_,c 1 _ rfl,_,c 2 _ rfl,_,c 3 _ rfl,_,c 4 _ rfl,_,c 5 _ rfl,_,c 6 _ rfl,_,c 7 _ rfl,_,c 8 _ rfl,_,c 9 _ rfl,_,c 10 _ rfl,_,c 11 _ rfl,d⟩
structure aZ where
 err:Int
 status:Int
 next:Int
 task:bQ
 name:A31
 cw:Sl
abbrev aZ.l(x:aZ):List J0:= [J6 J9 x.err,J6 J9 x.status,J6 J9 x.next,J6 J9 x.task.kind,J7 x.task.wid,J6 J9 x.task.ref,J6 J9 x.task.turn,J7 x.name,J4 x.cw.p x.cw.len x.cw.cap]
abbrev aZ.c(x:aZ):Array J0:= #[J6 J9 x.err,J6 J9 x.status,J6 J9 x.next,J6 J9 x.task.kind,J7 x.task.wid,J6 J9 x.task.ref,J6 J9 x.task.turn,J7 x.name,J4 x.cw.p x.cw.len x.cw.cap]
abbrev aZ.v(x:aZ):J0:= .agg #[J6 J9 x.err,J6 J9 x.status,J6 J9 x.next,J6 J9 x.task.kind,J7 x.task.wid,J6 J9 x.task.ref,J6 J9 x.task.turn,J7 x.name,J4 x.cw.p x.cw.len x.cw.cap]
abbrev aZ.z:aZ:=⟨0,0,0,⟨0,⟨#[]⟩,0,0⟩,⟨#[]⟩,⟨none,0,0⟩⟩
abbrev aZ.s:List Sc:= [.int J9,.int J9,.int J9,.int J9,.str,.int J9,.int J9,.str,.sl]
abbrev aZ.T:Type:=Int×Int×Int×Int×A31×Int×Int×A31×Sl×Unit
abbrev aZ.t(x:aZ):aZ.T:=(x.err,x.status,x.next,x.task.kind,x.task.wid,x.task.ref,x.task.turn,x.name,x.cw,())
def Ez(K:aZ->Prop):Prop:= ∃a:Int,∃b:Int,∃c:Int,∃d:Int,∃e:A31,∃f:Int,∃g:Int,∃h:A31,∃i:Sl,K ⟨a,b,c,⟨d,e,f,g⟩,h,i⟩
theorem Ez.mk {K:aZ->Prop}(x:aZ)(a:K x):Ez K:=⟨x.err,x.status,x.next,x.task.kind,x.task.wid,x.task.ref,x.task.turn,x.name,x.cw,a⟩
def Bu(b:aa)(a:Q6)(K:aZ->Prop):Prop:=
 AC J9 b a λc=>
 AC J9 b (a.add 1) λd=>
 AC J9 b (a.add 2) λe=>
 AC J9 b (a.add 3) λf=>
 AL b (a.add 4) λg=>
 AC J9 b (a.add 5) λh=>
 AC J9 b (a.add 6) λi=>
 AL b (a.add 7) λj=>
 AV b (a.add 8) λk=>
 K ⟨c,d,e,⟨f,g,h,i⟩,j,k⟩
theorem Bu.mk {b:aa}{a:Q6}{K:aZ->Prop}(x:aZ)(c:Cells b a x.l)(d:K x):Bu b a K:=
 ⟨_,by have:=c 0 _ rfl;rwa [add_zero] at this,_,c 1 _ rfl,_,c 2 _ rfl,_,c 3 _ rfl,_,c 4 _ rfl,_,c 5 _ rfl,_,c 6 _ rfl,_,c 7 _ rfl,_,c 8 _ rfl,d⟩
structure fS where
 wait:Int
 q:bU
 take:Bool
 ig:Bool
abbrev fS.l(x:fS):List J0:= [J6 J9 x.wait,J6 J9 x.q.kind,J7 x.q.bg,J7 x.q.wid,J7 x.q.name,J4 x.q.steps.p x.q.steps.len x.q.steps.cap,J6 J9 x.q.aw,J4 x.q.cj.p x.q.cj.len x.q.cj.cap,J6 J9 x.q.ref,J6 J9 x.q.turn,J6 J9 x.q.bV,J6 J9 x.q.ai,J3 x.q.aL,J3 x.take,J3 x.ig]
abbrev fS.c(x:fS):Array J0:= #[J6 J9 x.wait,J6 J9 x.q.kind,J7 x.q.bg,J7 x.q.wid,J7 x.q.name,J4 x.q.steps.p x.q.steps.len x.q.steps.cap,J6 J9 x.q.aw,J4 x.q.cj.p x.q.cj.len x.q.cj.cap,J6 J9 x.q.ref,J6 J9 x.q.turn,J6 J9 x.q.bV,J6 J9 x.q.ai,J3 x.q.aL,J3 x.take,J3 x.ig]
abbrev fS.v(x:fS):J0:= .agg #[J6 J9 x.wait,J6 J9 x.q.kind,J7 x.q.bg,J7 x.q.wid,J7 x.q.name,J4 x.q.steps.p x.q.steps.len x.q.steps.cap,J6 J9 x.q.aw,J4 x.q.cj.p x.q.cj.len x.q.cj.cap,J6 J9 x.q.ref,J6 J9 x.q.turn,J6 J9 x.q.bV,J6 J9 x.q.ai,J3 x.q.aL,J3 x.take,J3 x.ig]
abbrev fS.z:fS:=⟨0,⟨0,⟨#[]⟩,⟨#[]⟩,⟨#[]⟩,⟨none,0,0⟩,0,⟨none,0,0⟩,0,0,0,0,false⟩,false,false⟩
abbrev fS.s:List Sc:= [.int J9,.int J9,.str,.str,.str,.sl,.int J9,.sl,.int J9,.int J9,.int J9,.int J9,.bool,.bool,.bool]
abbrev fS.T:Type:=Int×Int×A31×A31×A31×Sl×Int×Sl×Int×Int×Int×Int×Bool×Bool×Bool×Unit
abbrev fS.t(x:fS):fS.T:=(x.wait,x.q.kind,x.q.bg,x.q.wid,x.q.name,x.q.steps,x.q.aw,x.q.cj,x.q.ref,x.q.turn,x.q.bV,x.q.ai,x.q.aL,x.take,x.ig,())
structure fT where
 key:A31
 val:A31
 ref:Int
 turn:Int
 aL:Bool
abbrev fT.l(x:fT):List J0:= [J7 x.key,J7 x.val,J6 J9 x.ref,J6 J9 x.turn,J3 x.aL]
abbrev fT.c(x:fT):Array J0:= #[J7 x.key,J7 x.val,J6 J9 x.ref,J6 J9 x.turn,J3 x.aL]
abbrev fT.v(x:fT):J0:= .agg #[J7 x.key,J7 x.val,J6 J9 x.ref,J6 J9 x.turn,J3 x.aL]
abbrev fT.z:fT:=⟨⟨#[]⟩,⟨#[]⟩,0,0,false⟩
abbrev fT.s:List Sc:= [.str,.str,.int J9,.int J9,.bool]
abbrev fT.T:Type:=A31×A31×Int×Int×Bool×Unit
abbrev fT.t(x:fT):fT.T:=(x.key,x.val,x.ref,x.turn,x.aL,())
abbrev ad(b:Nat):Q6:=⟨b,0,none⟩
end Go.Lf
namespace Go.Lf.G
abbrev AQ:bJ:= .none
abbrev AJ(a b:bJ):bJ:= .seq a b
def Bh:Nat->bJ->bJ
 |0,x=>x
 |n+1,x=> .seq .none (Bh n x)
abbrev BP:bJ:=AJ AQ AQ
abbrev DY:bJ:= .cond BP AQ
abbrev Dv:bJ:= .cond AQ AQ
abbrev CL:bJ:=AJ AQ DY
abbrev EI:bJ:=AJ AQ Dv
abbrev ES:bJ:=Bh 2 AQ
abbrev gB:bJ:=AJ CL BP
abbrev RZ:bJ:=AJ AQ gB
abbrev LG:bJ:=Bh 2 DY
abbrev jC:bJ:=AJ AQ (AJ Dv (AJ (.block LG) AQ))
abbrev nc:bJ:=AJ AQ (.cond AQ EI)
abbrev kg:bJ:=AJ AQ (.cond AQ nc)
abbrev nf:bJ:= .block BP
abbrev kh:bJ:=AJ AQ (AJ Dv (AJ nf AQ))
abbrev VC:bJ:=Bh 3 AQ
abbrev vI:bJ:=Bh 3 (AJ CL (AJ AQ (AJ CL (AJ (AJ AQ (.cond (Bh 4 AQ) AQ)) (AJ AQ (AJ (AJ AQ (.cond VC AQ)) VC))))))
abbrev lj:bJ:= .block AQ
abbrev ni:bJ:=AJ AQ (AJ Dv (AJ lj AQ))
abbrev nj:bJ:=AJ AQ (AJ Dv (AJ (.block ES) AQ))
abbrev qi:bJ:=AJ CL AQ
abbrev qj:bJ:=AJ AQ (AJ Dv (AJ (.block (Bh 2 qi)) AQ))
abbrev nq:bJ:= .cond ES AQ
abbrev km:bJ:=AJ AQ nq
abbrev qk:bJ:= .cond BP CL
abbrev ql:bJ:=AJ AQ qk
abbrev qm:bJ:= .block (AJ AQ (.cond BP ql))
abbrev qn:bJ:=AJ CL gB
abbrev vJ:bJ:=Bh 3 (AJ (AJ AQ (.cond gB AQ)) (AJ CL qn))
abbrev iP:bJ:=Bh 2 Dv
abbrev ko:bJ:=AJ CL ES
abbrev vK:bJ:=AJ AQ (AJ Dv (AJ (.block (Bh 3 DY)) AQ))
abbrev vL:bJ:=AJ (.aV [(20,.one .bool)] [0,1]) DY
abbrev vM:bJ:=AJ (.aV [(31,.one .bool)] [0,1]) DY
abbrev vN:bJ:=AJ (.aV [(19,.one .bool)] [0,1]) DY
abbrev vO:bJ:=AJ (.aV [(13,.one .bool)] [0,1]) DY
abbrev qo:bJ:=AJ LG AQ
abbrev qp:bJ:=AJ CL RZ
abbrev vP:bJ:=AJ AQ (.cond CL AQ)
abbrev qt:bJ:=AJ AQ qi
theorem AZ {a:ao}{f:Q8}{args:List J0}{b:aa}{c:A30}{d:Prop}(e:bJ)(g:d=qy a P f e args b c)(h:d):AA a P f args.toArray b c:=AIW mixed (g▸h)
end Go.Lf.G
