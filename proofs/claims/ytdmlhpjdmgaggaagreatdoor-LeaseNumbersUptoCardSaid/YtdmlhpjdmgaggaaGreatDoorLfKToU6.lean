/-
 LIFT, part K: reasoning about heaps: what is kept, what lies where, slices that are read, slices that are owned.
-/
import Derived.Test.YtdmlhpjdmgaggaaGreatDoorLfIToN1
import Derived.Laws.FloatArith
set_option linter.unusedVariables false
set_option linter.unusedSimpArgs false
namespace Go.Lf
theorem add_add(a:Addr)(m n:Nat):(a.add m).add n=a.add (m+n):=by
 unfold Addr.add
 by_cases hm:m=0
 ·subst hm;simp
 ·by_cases hn:n=0
  ·subst hn;simp[hm]
  ·have:m+n≠0:=by omega
   simp[hm,hn,Nat.add_assoc]
theorem add_zero(a:Addr):a.add 0=a:=by simp[Addr.add]
theorem add_block(a:Addr)(n:Nat):(a.add n).block=a.block:=by unfold Addr.add;split<;>rfl
theorem Bg(b o n:Nat):(⟨b,o,none⟩:Addr).add n=⟨b,o+n,none⟩:=by
 unfold Addr.add;by_cases h:n=0<;>simp[h]
structure Mod (S:Nat→Prop) (h h':Heap):Prop where
 size:h.size≤h'.size
 get: ∀b,b<h.size→ ¬S b→h'[b]? =h[b]?
abbrev Ext:=Mod (fun _=>False)
theorem Mod.refl {S:Nat→Prop}{h:Heap}:Mod S h h:=⟨Nat.le_refl _,fun _ _ _=>rfl⟩
theorem Mod.trans {S:Nat→Prop}{h h1 h2:Heap}(a:Mod S h h1)(b:Mod S h1 h2):Mod S h h2:=
 ⟨Nat.le_trans a.size b.size,fun c hc hs=>(b.get c (Nat.lt_of_lt_of_le hc a.size) hs).trans (a.get c hc hs)⟩
theorem Mod.weak {S S':Nat→Prop}{h h1:Heap}(a:Mod S h h1)(hs: ∀b,b<h.size→S b→S' b):Mod S' h h1:=⟨a.size,fun c hc hn=>a.get c hc fun h=>hn (hs c hc h)⟩
theorem Ext.mod {S:Nat→Prop}{h h1:Heap}(a:Ext h h1):Mod S h h1:=a.weak fun _ _ h=>h.elim
theorem Mod.then {S:Nat→Prop}{h h1 h2:Heap}(a:Mod S h h1)(b:Mod (fun c=>S c∨h.size≤c) h1 h2):Mod S h h2:=
 ⟨Nat.le_trans a.size b.size,fun c hc hs=>(b.get c (Nat.lt_of_lt_of_le hc a.size) (fun h=>h.elim hs (fun h=>by omega))).trans (a.get c hc hs)⟩
theorem Mod.push {S:Nat→Prop}(h:Heap)(o:Obj):Mod S h (h.push o):=
 ⟨by simp,fun b hb _=>by rw[Array.getElem?_push_lt hb];simp[hb]⟩
theorem Mod.blk {S:Nat→Prop}{h h':Heap}(a:Mod S h h'){b:Nat}{o:Obj}(hb:h[b]? =some o)(hs: ¬S b):h'[b]? =some o:=
 (a.get b (Array.getElem?_eq_some_iff.1 hb).1 hs).trans hb
theorem Ah {h:Heap}{b:Nat}{o:Obj}(hb:h[b]? =some o):b<h.size:=(Array.getElem?_eq_some_iff.1 hb).1
theorem UU {h:Heap}{a:Addr}{v:Value}(hv:hget h a=some v):a.block<h.size:=by
 unfold hget at hv
 cases hb:h[a.block]? with
 |none=>rw[hb] at hv;cases hv
 |some o=>exact Ah hb
theorem MC {h h':Heap}{a:Addr}(hb:h'[a.block]? =h[a.block]?):hget h' a=hget h a:=by unfold hget;rw[hb]
theorem Mod.hget {S:Nat→Prop}{h h':Heap}(m:Mod S h h'){a:Addr}{v:Value}(hv:hget h a=some v)(hs: ¬S a.block):Lf.hget h' a=some v:=
 (MC (m.get _ (UU hv) hs)).trans hv
theorem Ext.hget {h h':Heap}(m:Ext h h'){a:Addr}{v:Value}(hv:Lf.hget h a=some v):Lf.hget h' a=some v:=Mod.hget m hv (fun h=>h)
theorem Il {h:Heap}{b j:Nat}{cs:Array Value}{T:TypeId}{fr:Nat×Nat}(hb:h[b]? =some (.cells cs T fr)):hget h ⟨b,j,none⟩=cs[j]? :=by
 simp[hget,hb]
theorem Oc {h:Heap}{b j:Nat}{cs:Array Value}{T:TypeId}(hb:h[b]? =some (.cells cs T (0,0))):hfro h ⟨b,j,none⟩=false:=by
 simp[hfro,hb]
theorem ABu {h:Heap}{b j:Nat}{cs:Array Value}{T:TypeId}{fr:Nat×Nat}{v:Value}(hb:h[b]? =some (.cells cs T fr)):
  (hset h ⟨b,j,none⟩ v)[b]? =some (.cells (cs.setIfInBounds j v) T fr):=by
 simp[hset,Array.getElem?_modify,hb]
theorem AFv {h:Heap}{a:Addr}{v:Value}{c:Nat}(hc:c≠a.block):(hset h a v)[c]? =h[c]? :=by
 simp[hset,Array.getElem?_modify,Ne.symm hc]
theorem WQ {h:Heap}{a:Addr}{v:Value}:(hset h a v).size=h.size:=by simp[hset]
theorem Mod.set {S:Nat→Prop}{h:Heap}{a:Addr}{v:Value}(hs:S a.block):Mod S h (hset h a v):=
 ⟨by rw[WQ];exact Nat.le_refl _,fun _ _ hn=>AFv (fun e=>hn (e▸hs))⟩
theorem New.mk {h:Heap}{o:Obj}{K:Nat→Heap→Prop}(H: ∀h',h'=h.push o→h'[h.size]? =some o→Ext h h'→h'.size=h.size+1→K h.size h'):New h o K:=
 H _ rfl (by simp) (Mod.push h o) (by simp)
theorem Store.mk {h:Heap}{b j:Nat}{v:Value}{cs:Array Value}{T:TypeId}{K:Heap→Prop}(hb:h[b]? =some (.cells cs T (0,0)))(hj:j<cs.size)
  (H: ∀h',h'[b]? =some (.cells (cs.setIfInBounds j v) T (0,0))→Mod (· =b) h h'→h'.size=h.size→K h'):Store h ⟨b,j,none⟩ v K:=
 ⟨⟨cs[j],by rw[Il hb];simp[hj]⟩,Oc hb,H _ (ABu hb) (Mod.set rfl) WQ⟩
theorem PIf.intro {b:Bool}{X Y:Prop}(h1:b=true→X)(h2:b=false→Y):PIf b X Y:=by
 cases b
 ·exact h2 rfl
 ·exact h1 rfl
theorem PIf.yes {b:Bool}{X Y:Prop}(hb:b=true)(h:X):PIf b X Y:=by subst hb;exact h
theorem PIf.no {b:Bool}{X Y:Prop}(hb:b=false)(h:Y):PIf b X Y:=by subst hb;exact h
theorem Idx.mk {p:Option Addr}{len:Nat}{a:Addr}{k:Nat}{K:Addr→Prop}(hp:p=some a)(hk:k<len)(H:K a):Idx p len (k:Int) K:=
 ⟨a,hp,⟨by omega,by omega⟩,H⟩
theorem T9.mk {b:Bool}{K:Prop}(hb:b=true)(h:K):T9 b K:=by subst hb;exact h
theorem Join.mk {σ:Type}{K0:σ→Heap→Prop}{body:(σ→Heap→Prop)→Prop}(H: ∀K:σ→Heap→Prop,(∀ x h,K0 x h→K x h)→body K):Join K0 body:=H
theorem FE.func {A:Amb}{P:Program}{f:FuncId}{first caps args:Array Value}{h:Heap}{R:Value→Heap→Prop}
  (hf:(callFunc f (first++args++caps)).calc P=some (.enter f (first++args++caps))) (H:AA A P f (first++args++caps) h R):FE A P (.func (.func f) first caps) args h R:=by
 intro n
 have h1:=Jg hf (A.at h n)
 have h2:(do let d ←Deferred.ofValue (.func (.func f) first caps) args;invoke d.target d.args:Sem Next).run P (A.at h n)= .ok (.enter f (first++args++caps)) (A.at h n):=by
  simp only[Deferred.ofValue,Sem.run_bind,Sem.run_pure,Result.andThen_ok,invoke]
  exact h1
 rw[h2]
 exact H n
structure Enc (α:Type) where
 enc:α→List Value
 w:Nat
 len: ∀x,(enc x).length=w
 pos:0<w
 one: ∀x v,v∈enc x→Jj v=true
variable {α : Type}
def Cells(h:Heap)(a:Addr)(vs:List Value):Prop:= ∀j v,vs[j]? =some v→hget h (a.add j)=some v
theorem Cells.mod {S:Nat→Prop}{h h':Heap}{a:Addr}{vs:List Value}(c:Cells h a vs)(m:Mod S h h')(hs: ¬S a.block):Cells h' a vs:=
 fun j v hj=>m.hget (c j v hj) (by rw[add_block];exact hs)
structure View (E:Enc α) (h:Heap) (s:Sl) (l:List α):Prop where
 len:s.len=l.length
 cap:s.len≤s.cap
 cells: ∀i x,l[i]? =some x→ ∃a,s.p=some a∧Cells h (a.add (i*E.w)) (E.enc x)
def Sl.blk(s:Sl):Option Nat:=s.p.map (·.block)
theorem View.mod {E:Enc α}{S:Nat→Prop}{h h':Heap}{s:Sl}{l:List α}(v:View E h s l)(m:Mod S h h')(hs: ∀b,s.blk=some b→ ¬S b):View E h' s l:=
 ⟨v.len,v.cap,fun i x hi=>let ⟨a,ha,hc⟩:=v.cells i x hi;⟨a,ha,hc.mod m (by rw[add_block];exact hs _ (by simp[Sl.blk,ha]))⟩⟩
theorem View.ext {E:Enc α}{h h':Heap}{s:Sl}{l:List α}(v:View E h s l)(m:Ext h h'):View E h' s l:=v.mod m fun _ _ h=>h
theorem View.nil {E:Enc α}{h:Heap}:View E h ⟨none,0,0⟩ []:=⟨rfl,Nat.le_refl _,fun _ _ h=>by simp at h⟩
theorem View.at {E:Enc α}{h:Heap}{s:Sl}{l:List α}(v:View E h s l){i:Nat}(hi:i<l.length):
  ∃a,s.p=some a∧i<s.len∧ ∀j u,(E.enc l[i])[j]? =some u→hget h ((a.add (i*E.w)).add j)=some u:=
 let ⟨a,ha,hc⟩:=v.cells i l[i] (by simp[hi])
 ⟨a,ha,by rw[v.len];exact hi,fun j u hj=>hc j u hj⟩
structure Own (E:Enc α) (T:TypeId) (h:Heap) (s:Sl) (l:List α):Prop where
 len:s.len=l.length
 row:(s=⟨none,0,0⟩∧l= [])∨ ∃g cur,s.p=some ⟨g,0,none⟩∧h[g]? =some (.cells cur T (0,0))∧s.len≤s.cap∧s.cap≤maxLen∧cur.size=s.cap*E.w∧cur.toList.take (s.len*E.w)=l.flatMap E.enc
theorem Own.nil {E:Enc α}{T:TypeId}{h:Heap}:Own E T h ⟨none,0,0⟩ []:=⟨rfl,.inl ⟨rfl,rfl⟩⟩
theorem flat_get {E:Enc α}: ∀ {l:List α} {i:Nat} {x:α},l[i]? =some x→ ∀j v,(E.enc x)[j]? =some v→(l.flatMap E.enc)[i*E.w+j]? =some v
 | [],i,x,h,_,_,_=>by simp at h
 |y::l,0,x,h,j,v,hj=>by
  simp at h;subst h
  rw[List.flatMap_cons,Nat.zero_mul,Nat.zero_add,List.getElem?_append_left (List.getElem?_eq_some_iff.1 hj).1]
  exact hj
 |y::l,i+1,x,h,j,v,hj=>by
  have ih:=flat_get (E:=E) (l:=l) (i:=i) (by simpa using h) j v hj
  rw[List.flatMap_cons,List.getElem?_append_right (by rw[E.len,Nat.add_mul];omega),E.len]
  rw[show(i+1)*E.w+j-E.w=i*E.w+j by rw[Nat.add_mul];omega]
  exact ih
theorem Iw {E:Enc α}: ∀ {l:List α},(l.flatMap E.enc).length=l.length*E.w
 | []=>by simp
 |x::l=>by rw[List.flatMap_cons,List.length_append,Iw,E.len,List.length_cons,Nat.add_mul];omega
theorem Own.view {E:Enc α}{T:TypeId}{h:Heap}{s:Sl}{l:List α}(o:Own E T h s l):View E h s l:=by
 rcases o.row with⟨rfl,rfl⟩|⟨g,cur,hp,hg,hc,_,hs,ht⟩
 ·exact View.nil
 ·refine⟨o.len,hc,fun i x hi=>⟨_,hp,fun j v hj=>?_⟩⟩
  have:=flat_get (E:=E) hi j v hj
  rw[← ht,List.getElem?_take] at this
  split at this
  ·rw [add_add,Bg,Il hg]
   simpa using this
  ·cases this
theorem Own.mod {E:Enc α}{T:TypeId}{S:Nat→Prop}{h h':Heap}{s:Sl}{l:List α}(o:Own E T h s l)(m:Mod S h h')(hs: ∀b,s.blk=some b→ ¬S b):Own E T h' s l:=by
 refine⟨o.len,?_⟩
 rcases o.row with h0|⟨g,cur,hp,hg,rest⟩
 ·exact .inl h0
 ·exact .inr ⟨g,cur,hp,m.blk hg (hs g (by simp[Sl.blk,hp])),rest⟩
theorem Own.ext {E:Enc α}{T:TypeId}{h h':Heap}{s:Sl}{l:List α}(o:Own E T h s l)(m:Ext h h'):Own E T h' s l:=o.mod m fun _ _ h=>h
theorem Own.lit {E:Enc α}{T:TypeId}{h:Heap}{b:Nat}{l:List α}{cs:Array Value}(hb:h[b]? =some (.cells cs T (0,0)))(hc:cs.toList=l.flatMap E.enc)(hm:l.length≤maxLen):
  Own E T h ⟨some ⟨b,0,none⟩,l.length,l.length⟩ l:=by
 have hsz:cs.size=l.length*E.w:=by rw[← Array.length_toList,hc,Iw]
 exact⟨rfl,.inr ⟨b,cs,rfl,hb,Nat.le_refl _,hm,hsz,by rw[hc];exact List.take_of_length_le (by rw[Iw];exact Nat.le_refl _)⟩⟩
def TN(P:Program)(t T:TypeId)(w B:Nat):Bool:=
 match P.underlying t with
 |some (.slice e)=>Nat.beq e T&&match P.info? T with
  |some i=>Nat.beq i.size w&&Nat.beq i.bytes B&&match i.zero with
   |some z=>Nat.beq z.cells.size w
   |none=>false
  |none=>false
 |_=>false
theorem ABb {P:Program}{t T:TypeId}{w B:Nat}(h:TN P t T w B=true):
  P.underlying t=some (.slice T)∧ ∃i z,P.info? T=some i∧i.zero=some z∧i.size=w∧i.bytes=B∧z.cells.size=w:=by
 unfold TN at h
 split at h
 ·rename_i e ht
  split at h
  ·rename_i i hi
   split at h
   ·rename_i z hz
    simp only[Bool.and_eq_true,Nat.beq_eq] at h
    obtain⟨rfl,⟨rfl,rfl⟩,hzw⟩:=h
    exact⟨ht,i,z,hi,hz,rfl,rfl,hzw⟩
   ·simp at h
  ·simp at h
 ·simp at h
theorem AMA {A:Amb}{w w':World}{h:Heap}{n:Nat}(hw:w=A.at h n)(ho:w'.os=w.os)(ht:w'.tape=w.tape)(hp:w'.output=w.output):w'=A.at w'.heap w'.drawn:=by
 subst hw
 cases w'
 simp only[Amb.at] at*
 simp[ho,ht,hp]
theorem Wj {v:Value}(h:Jj v=true):v.oneCell'=true:=by cases v<;>first|rfl|(simp [Jj] at h)
theorem Own.row' {E:Enc α}{T:TypeId}{A:Amb}{h:Heap}{s:Sl}{l:List α}{n:Nat}(o:Own E T h s l):(A.at h n).ownsRow 0 T E.w (.slice s.p s.len s.cap) s.len (l.flatMap E.enc):=by
 refine⟨by rw[Iw,o.len],?_⟩
 rcases o.row with⟨rfl,rfl⟩|⟨g,cur,hp,hg,hc,hm,hs,ht⟩
 ·exact .inl ⟨rfl,rfl⟩
 ·exact .inr ⟨g,s.cap,cur,by rw[hp],Nat.zero_le _,hg,hc,hm,hs,ht⟩
theorem ADw {E:Enc α}{T:TypeId}{w:World}{v:Value}{n:Nat}{l:List α}(o:w.ownsRow 0 T E.w v n (l.flatMap E.enc))(hn:n=l.length):
  ∃s:Sl,v= .slice s.p s.len s.cap∧Own E T w.heap s l∧(v= .slice none 0 0→s=⟨none,0,0⟩):=by
 rcases o.2 with⟨rfl,h0⟩|⟨g,cap,cur,rfl,_,hg,hc,hm,hs,ht⟩
 ·have:l= []:=List.eq_nil_of_length_eq_zero (by omega)
  subst this
  exact⟨⟨none,0,0⟩,rfl,Own.nil,fun _=>rfl⟩
 ·refine⟨⟨some ⟨g,0,none⟩,n,cap⟩,rfl,⟨hn,.inr ⟨g,cur,rfl,hg,hc,hm,hs,ht⟩⟩,fun h=>by cases h⟩
theorem Gx {A:Amb}{P:Program}{E:Enc α}{t ty T:TypeId}{B:Nat}(hT:TN P t T E.w B=true){h:Heap}{s src:Sl}{l m:List α}{K:Sl→Heap→Prop}
  (ho:Own E T h s l) (hv:View E h src m) (hb:(l.length+m.length)*B≤140737488355328) (hl:l.length+m.length≤maxLen)
  (H: ∀s' h',Own E T h' s' (l++m)→Mod (fun b=>s.blk=some b) h h'→(∀ b,s'.blk=some b→s.blk=some b∨h.size≤b)→(s'.p=none↔s.p=none∧m= [])→K s' h'):
  BK A P (Builtin.append_ #[t,t] ty #[.slice s.p s.len s.cap,.slice src.p src.len src.cap]) h fun v h'=> ∃s':Sl,v= .slice s'.p s'.len s'.cap∧K s' h':=by
 obtain⟨ht,i,z,hi,hz,hw,hB,hzs⟩:=ABb hT
 intro n
 have hmlen:=hv.len
 by_cases hm:m= []
 ·subst hm
  simp only[List.length_nil,List.append_nil,Nat.add_zero] at*
  have hrun:(Builtin.append_ #[t,t] ty #[.slice s.p s.len s.cap,.slice src.p src.len src.cap]).run P (A.at h n)= .ok (.slice s.p s.len s.cap) (A.at h n):=by
   have hlc:s.len≤s.cap:=ho.view.cap
   have hf: ∀w:World,(Builtin.firstCells i.size 0 (.slice src.p 0 src.cap)).run P w= .ok #[] w:=by
    intro w
    cases src.p<;>simp[Builtin.firstCells,loadCells,loadCellsFrom]
   cases hp:s.p with
   |none=>simp[Builtin.append_,Av ht,run_sizeOf hi,Builtin.lenOf,hmlen,hlc,hf]
   |some a=>simp[Builtin.append_,Av ht,run_sizeOf hi,Builtin.lenOf,hmlen,hlc,hf,storeCells]
  exact⟨_,h,n,hrun,s,rfl,H s h ho Mod.refl (fun b hb=> .inl hb) (by simp)⟩
 ·have hm0:0<m.length:=List.length_pos_iff.2 hm
  obtain⟨a,ha,_⟩:=hv.cells 0 m[0] (by simp[hm0])
  have hnews: ∀j u,(m.flatMap E.enc)[j]? =some u→(A.at h n).cell? (a.add j)=some u:=by
   intro j u hj
   have hjl:j<m.length*E.w:=by rw[← Iw (E:=E)];exact(List.getElem?_eq_some_iff.1 hj).1
   have hq:j / E.w<m.length:=Nat.div_lt_of_lt_mul (by rw[Nat.mul_comm];exact hjl)
   have hr:j % E.w<E.w:=Nat.mod_lt _ E.pos
   have hx:m[j / E.w]? =some m[j / E.w]:=by simp[hq]
   have hj2:j % E.w<(E.enc m[j / E.w]).length:=by rw[E.len];exact hr
   have hf:=flat_get (E:=E) hx (j % E.w) _ (List.getElem?_eq_getElem hj2)
   have hdm:j / E.w*E.w+j % E.w=j:=Nat.div_add_mod' j E.w
   rw[hdm,hj] at hf
   obtain⟨a',ha',hc⟩:=hv.cells _ _ hx
   rw[ha] at ha'
   cases ha'
   have:=hc (j % E.w) _ (List.getElem?_eq_getElem hj2)
   rw[add_add,hdm] at this
   rw[Option.some.injEq] at hf
   rw[hf]
   exact this
  have h1: ∀u∈m.flatMap E.enc,u.oneCell'=true:=by
   intro u hu
   obtain⟨x,_,hx⟩:=List.mem_flatMap.1 hu
   exact Wj (E.one x u hx)
  obtain⟨v',w',hr,hown,hg,hnil⟩:=run_append_own (P:=P) (A.at h n) 0 t ty T i z E.w B ht hi hz hw hB hzs E.pos (.slice s.p s.len s.cap) s.len (l.flatMap E.enc) ho.row' a m.length src.cap (m.flatMap E.enc)
   (by rw[Iw]) hnews h1 (by rw[ho.len];exact hl) (by rw[ho.len];exact hb) (Nat.zero_le _)
  rw[← List.flatMap_append] at hown
  obtain⟨s',hv',hown',hn'⟩:=ADw hown (by rw[ho.len,List.length_append])
  have hw':w'=A.at w'.heap w'.drawn:=AMA rfl hg.os hg.tape hg.output
  have hnl:(m.flatMap E.enc).length=m.length*i.size:=by rw[Iw,hw]
  have h63:((s.len+m.length:Nat):Int)≤9223372036854775807:=by
   have:=hl;simp only[maxLen] at this;rw[ho.len];omega
  have hby:(s.len+m.length)*i.bytes≤140737488355328:=by rw[ho.len,hB];exact hb
  have hval: ∃g c,v'= .slice (some ⟨g,0,none⟩) (s.len+m.length) c∧(s.blk=some g∨g=h.size):=by
   rcases ho.row with⟨rfl,rfl⟩|⟨g,cur,hp,hgc,hlc,hcm,hcs,htk⟩
   ·have hr2:=run_append_nil (P:=P) (A.at h n) t ty T i z ht hi hz a m.length src.cap (m.flatMap E.enc) hnl hnews hm0 (by simpa using h63) (by have:=hby;simp only[Nat.zero_add] at this;omega)
    rw[hr2] at hr
    cases hr
    exact⟨h.size,_,by rw[Nat.zero_add];rfl,.inr rfl⟩
   ·by_cases hroom:s.len+m.length≤s.cap
    ·have hr2:=run_append_room (P:=P) (A.at h n) t ty T i ht hi g s.len s.cap cur hgc a m.length src.cap (m.flatMap E.enc) hnl hnews h1 hroom (by rw[hnl,hcs,←hw,←Nat.add_mul];exact Nat.mul_le_mul_right _ hroom)
     rw[hp,hr2] at hr
     cases hr
     exact⟨g,_,rfl,.inl (by simp[Sl.blk,hp])⟩
    ·have hr2:=run_append_grow (P:=P) (A.at h n) t ty T i z ht hi hz ⟨g,0,none⟩ s.len s.cap (l.flatMap E.enc) (by rw[Iw,ho.len,hw])
      (ho.row' (A:=A) (n:=n) |>.cells (g:=g) (by simp[Value.ownBlock,hp])) a m.length src.cap (m.flatMap E.enc) hnl hnews (by omega) h63 (growslice_fits (by omega) hby)
     rw[hp,hr2] at hr
     cases hr
     exact⟨h.size,_,rfl,.inr rfl⟩
  obtain⟨g,c,hvv,hgb⟩:=hval
  have hs'p:s'.p=some ⟨g,0,none⟩:=by rw[hvv] at hv';injection hv' with h1 _ _;exact h1.symm
  refine⟨v',w'.heap,w'.drawn,?_,s',hv',H s' w'.heap hown' ⟨hg.size,?_⟩ ?_ ?_⟩
  ·rw [ha,hmlen,←hw'];exact hr
  ·intro b hb hs
   refine hg.block b hb ?_
   intro e
   apply hs
   unfold Sl.blk
   cases hp:s.p with
   |none=>rw[hp] at e;simp[Value.ownBlock] at e
   |some a=>rw[hp] at e;simp[Value.ownBlock] at e;simp[e]
  ·intro b hb
   simp[Sl.blk,hs'p] at hb
   subst hb
   rcases hgb with h|h
   ·exact .inl h
   ·exact .inr (by omega)
  ·rw [hs'p];simp[hm]
end Go.Lf

/-
 LIFT, part L: rules for loops, for values of struct{string, string, bool}, and for ranges over functions.
-/
namespace Go.Lf
theorem Loop.rule {σ:Type}{F:(σ→Heap→Prop)→σ→Heap→Prop}(I:Nat→σ→Heap→Prop)
  (step: ∀K m x h,I m x h→(∀ m' x' h',m'<m→I m' x' h'→K x' h')→F K x h) {m:Nat} {x:σ} {h:Heap} (h0:I m x h):Loop F x h:=by
 intro K hK
 induction m using Nat.strongRecOn generalizing x h with
 |_ m ih=>exact hK _ _ (step K m x h h0 fun m' x' h' hm hI=>ih m' hm hI)
theorem Fy {n:Nat}(h:n≤9223372036854775807):IntKind.wrap .i64 (n:Int)=(n:Int):=by
 simp only[IntKind.wrap,IntKind.bits,IntKind.signed]
 have h2:((n:Int)) % ((2:Int)^64)=n:=by omega
 have h3: ¬((n:Int)≥(2:Int)^(64-1)):=by omega
 simp only[h2]
 simp
 omega
theorem AR {n:Nat}(h:n<9223372036854775807):IntKind.wrap .i64 ((n:Int)+(1:Int))=((n+1:Nat):Int):=by
 rw[show((n:Int)+1)=((n+1:Nat):Int) by omega];exact Fy h
theorem PP.mk {h:Heap}{a:Addr}{K:Value→Prop}{v:Value}(hv:hget h a=some v)(H:K v):PP h a K:=⟨v,hv,H⟩
theorem Aa.mk {h:Heap}{a:Addr}{k:IntKind}{K:Int→Prop}{n:Int}(hv:hget h a=some (.int k n))(H:K n):Aa k h a K:=⟨n,hv,H⟩
theorem Ab.mk {h:Heap}{a:Addr}{K:Bool→Prop}{n:Bool}(hv:hget h a=some (.bool n))(H:K n):Ab h a K:=⟨n,hv,H⟩
theorem AL.mk {h:Heap}{a:Addr}{K:ByteArray→Prop}{n:ByteArray}(hv:hget h a=some (.string n))(H:K n):AL h a K:=⟨n,hv,H⟩
theorem AP.mk {h:Heap}{a:Addr}{K:Option Addr→Prop}{n:Option Addr}(hv:hget h a=some (.pointer n))(H:K n):AP h a K:=⟨n,hv,H⟩
theorem AZ.mk {h:Heap}{a:Addr}{K:Sl→Prop}{s:Sl}(hv:hget h a=some (.slice s.p s.len s.cap))(H:K s):AZ h a K:=⟨s,hv,H⟩
theorem AC {h:Heap}{b j:Nat}{cs:Array Value}{T:TypeId}{fr:Nat×Nat}{v:Value}(hb:h[b]? =some (.cells cs T fr))(hv:cs[j]? =some v):hget h ⟨b,j,none⟩=some v:=by
 rw[Il hb];exact hv
theorem AB {h:Heap}{b j:Nat}{cs:Array Value}{T:TypeId}{fr:Nat×Nat}{v:Value}(hb:h[b]? =some (.cells cs T fr))(hv:cs[j]? =some v):hget h ((⟨b,0,none⟩:Addr).add j)=some v:=by
 rw[Bg,Nat.zero_add];exact AC hb hv
structure Pr where
 key:ByteArray
 val:ByteArray
 gone:Bool
deriving DecidableEq
def Pr.agg(x:Pr):Value:= .agg #[.string x.key,.string x.val,.bool x.gone]
def Pr.cells(x:Pr):Array Value:= #[.string x.key,.string x.val,.bool x.gone]
def Ak:Enc Pr where
 enc x:= [.string x.key,.string x.val,.bool x.gone]
 w:=3
 len _:=rfl
 pos:=by omega
 one x v hv:=by simp at hv;rcases hv with rfl|rfl|rfl<;>rfl
def SlE:Enc Sl where
 enc s:= [.slice s.p s.len s.cap]
 w:=1
 len _:=rfl
 pos:=by omega
 one x v hv:=by simp at hv;subst hv;rfl
structure AAZ where
 v:Value
 one:Jj v=true
def AGZ:Enc AAZ where
 enc s:= [s.v]
 w:=1
 len _:=rfl
 pos:=by omega
 one x v hv:=by simp at hv;subst hv;exact x.one
theorem View.idx {α:Type}{E:Enc α}{h:Heap}{s:Sl}{l:List α}(v:View E h s l){i:Nat}{x:α}(hi:l[i]? =some x){K:Addr→Prop}
  (H: ∀a,s.p=some a→Cells h (a.add (i*E.w)) (E.enc x)→K a):Idx s.p s.len ((i:Nat):Int) K:=by
 obtain⟨a,ha,hc⟩:=v.cells i x hi
 have:i<s.len:=by rw[v.len];exact(List.getElem?_eq_some_iff.1 hi).1
 exact Idx.mk ha this (H a ha hc)
theorem Cells.pair {h:Heap}{a:Addr}{x:Pr}(c:Cells h a (Ak.enc x)):hget h a=some (.string x.key)∧hget h (a.add 1)=some (.string x.val)∧hget h (a.add 2)=some (.bool x.gone):=by
 have h0:=c 0 _ rfl
 rw[add_zero] at h0
 exact⟨h0,c 1 _ rfl,c 2 _ rfl⟩
theorem Cells.sl {h:Heap}{a:Addr}{x:Sl}(c:Cells h a (SlE.enc x)):hget h a=some (.slice x.p x.len x.cap):=by
 have h0:=c 0 _ rfl
 rwa [add_zero] at h0
theorem Cells.val {h:Heap}{a:Addr}{x:AAZ}(c:Cells h a (AGZ.enc x)):hget h a=some x.v:=by
 have h0:=c 0 _ rfl
 rwa [add_zero] at h0
theorem New.pair {h:Heap}{T:TypeId}{e1 e2:ByteArray}{e3:Bool}{k v:ByteArray}{g:Bool}{K:Nat→Heap→Prop}
  (H: ∀b h',b=h.size→h'[b]? =some (.cells #[.string k,.string v,.bool g] T (0,0))→Ext h h'→h'.size=h.size+1→K b h'):
  New h (.cells #[.string e1,.string e2,.bool e3] T) fun b h1=>Store h1 ⟨b,0,none⟩ (.string k) fun h2=>Store h2 ((⟨b,0,none⟩:Addr).add 1) (.string v) fun h3=>Store h3 ((⟨b,0,none⟩:Addr).add 2) (.bool g) fun h4=>K b h4:=by
 refine New.mk fun h1 _ hb hx hsz=>?_
 refine Store.mk hb (by simp) fun h2 hb2 m2 hs2=>?_
 rw[Bg,Bg]
 refine Store.mk hb2 (by simp) fun h3 hb3 m3 hs3=>?_
 refine Store.mk hb3 (by simp) fun h4 hb4 m4 hs4=>?_
 refine H _ _ rfl (by simpa using hb4) ?_ (by omega)
 have m:=(m2.trans m3).trans m4
 exact⟨by omega,fun b hlt _=>(m.get b (by omega) (by omega)).trans (hx.get b hlt (by simp))⟩
theorem New.append1 {A:Amb}{P:Program}{t ty T:TypeId}{B:Nat}{α:Type}{E:Enc α}{x:α}{cs:Array Value}(hcs:cs.toList=E.enc x)(hT:TN P t T E.w B=true){h:Heap}{s:Sl}{l:List α}{K:Sl→Heap→Prop}
  (ho:Own E T h s l) (hb:(l.length+1)*B≤140737488355328) (hl:l.length+1≤maxLen)
  (H: ∀s' h',Own E T h' s' (l++ [x])→Mod (fun b=>s.blk=some b) h h'→(∀ b,s'.blk=some b→s.blk=some b∨h.size≤b)→s'.p≠none→K s' h'):
  New h (.cells cs T) fun b h1=>BK A P (Builtin.append_ #[t,t] ty #[.slice s.p s.len s.cap,.slice (some ⟨b,0,none⟩) 1 1]) h1 fun v h'=> ∃s':Sl,v= .slice s'.p s'.len s'.cap∧K s' h':=by
 refine New.mk fun h1 _ hb1 hx hsz=>?_
 have ho1:Own E T h1 ⟨some ⟨h.size,0,none⟩,1,1⟩ [x]:=Own.lit (E:=E) (l:= [x]) hb1 (by simp[hcs]) (by simp[maxLen])
 refine Gx (s:=s) (src:=⟨some ⟨h.size,0,none⟩,1,1⟩) hT (ho.ext hx) ho1.view (by simpa using hb) (by simpa using hl) fun s' h' hs' hm hbl hn=>?_
 refine H s' h' hs' ?_ ?_ ?_
 ·exact hx.mod.trans hm
 ·intro b hb2
  rcases hbl b hb2 with h3|h3
  ·exact .inl h3
  ·exact .inr (by omega)
 ·intro hp;have:=(hn.1 hp).2;simp at this
theorem View.sub {α:Type}{E:Enc α}{h:Heap}{s:Sl}{l:List α}(v:View E h s l){lo hi:Nat}(h1:lo≤hi)(h2:hi≤l.length):
  View E h ⟨Ao s.p s.cap lo E.w,hi-lo,s.cap-lo⟩ ((l.take hi).drop lo):=by
 have hc:=v.cap
 have hl:=v.len
 refine⟨by simp;omega,by simp;omega,fun i x hx=>?_⟩
 rw[List.getElem?_drop,List.getElem?_take] at hx
 split at hx
 ·rename_i hlt
  obtain⟨a,ha,hcs⟩:=v.cells _ _ hx
  refine⟨a.add (lo*E.w),?_,?_⟩
  ·unfold Ao
   simp only[ha]
   rw[if_neg (by omega)]
   rfl
  ·rw [add_add,←Nat.add_mul];exact hcs
 ·cases hx
theorem RO {p:Option Addr}{cap lo w:Nat}{b:Nat}{len c:Nat}(h:Sl.blk ⟨Ao p cap lo w,len,c⟩=some b):p.map (·.block)=some b:=by
 unfold Sl.blk Ao at h
 simp only at h
 split at h
 ·exact h
 ·cases p with
  |none=>simp at h
  |some a=>simp[add_block] at h;simp[h]
def Yields(A:Amb)(P:Program)(yv:Value)(l:List Pr)(J:Nat→Bool→(Nat→Prop)→Heap→Prop):Prop:=
 ∀i x O hh,l[i]? =some x→J i true O hh→FE A P yv #[x.agg] hh fun v h'=> ∃g O',v= .bool g∧(∀ b,O' b→O b∨hh.size≤b)∧Mod O hh h'∧J (i+1) g O' h'
structure Body (h:Heap) (J:Nat→Bool→(Nat→Prop)→Heap→Prop):Prop where
 wf: ∀i g O hh,J i g O hh→ ∀b,O b→b<hh.size
 stable: ∀i g O hh h',J i g O hh→Mod (fun b=>¬O b∧h.size≤b) hh h'→J i g O h'
def DF(A:Amb)(P:Program)(fv:Value)(S:Nat→Prop)(h0:Heap)(l:List Pr):Prop:=
 (∀ b,S b→b<h0.size)∧ ∃f caps,fv= .func (.func f) #[] caps∧(∀ yv,(callFunc f (#[]++ #[yv]++caps)).calc P=some (.enter f (#[]++ #[yv]++caps)))∧
  ∀(h:Heap),(∀ b,S b→h[b]? =h0[b]?)→ ∀yv J O,Jj yv=true→(∀ b,S b→ ¬O b)→Body h J→Yields A P yv l J→J 0 true O h→
   AA A P f (#[]++ #[yv]++caps) h fun v h'=>v= .tuple #[]∧ ∃i g O',Mod O h h'∧(∀ b,O' b→O b∨h.size≤b)∧J i g O' h'∧(g=true→i=l.length)∧i≤l.length
theorem DF.weak {A:Amb}{P:Program}{fv:Value}{S S':Nat→Prop}{h0 h1:Heap}{l:List Pr}(it:DF A P fv S h0 l)(hS: ∀b,S b→S' b)(hl: ∀b,S' b→b<h1.size)(hh: ∀b,S b→h1[b]? =h0[b]?):DF A P fv S' h1 l:=by
 obtain⟨_,f,caps,e,hc,H⟩:=it
 refine⟨hl,f,caps,e,hc,fun h hS' yv J O hy hd=>H h (fun b hb=>(hS' b (hS b hb)).trans (hh b hb)) yv J O hy fun b hb=>hd b (hS b hb)⟩
theorem DF.one {A:Amb}{P:Program}{fv:Value}{S:Nat→Prop}{h0:Heap}{l:List Pr}(it:DF A P fv S h0 l):Jj fv=true∧ACQ fv∧P7 fv=false:=by
 obtain⟨_,f,caps,rfl,_⟩:=it
 exact⟨rfl,by simp[ACQ],rfl⟩
def ANP(x:Pr):TyA [.agg [.str,.str,.bool]]:=((x.key,x.val,x.gone,()),())
def AEf(l:Nat)(rec:Go.Loop)(hh:Heap)(O:Nat→Prop)(I:(Nat→Prop)→Heap→Prop)(h':Heap):Prop:=
 ∃O',(∀ b,O' b→O b∨hh.size≤b)∧Mod (fun b=>O b∨b=l) hh h'∧h'[l]? =some (.loop {rec with state:= .busy})∧I O' h'
theorem Mod.setObj {S:Nat→Prop}{h:Heap}{l:Nat}{o:Obj}(hs:S l):Mod S h (h.setIfInBounds l o):=
 ⟨by simp,fun b _ hn=>by rw[Array.getElem?_setIfInBounds_ne];intro e;exact hn (e▸hs)⟩
theorem Bt {h:Heap}{l:Nat}{o:Obj}(hl:l<h.size):(h.setIfInBounds l o)[l]? =some o:=by simp[hl]
theorem Sg {A:Amb}{P:Program}{fv:Value}{S:Nat→Prop}{h0 h:Heap}{l:List Pr}(it:DF A P fv S h0 l)(hS: ∀b,S b→h[b]? =h0[b]?)
  (Inv:Nat→Option (Option Nat)→(Nat→Prop)→Heap→Prop) (O:Nat→Prop) (hd: ∀b,S b→ ¬O b)
  {body:TyA [.agg [.str,.str,.bool]]→Nat→Heap→(Heap→Prop)→(Option Nat→Heap→Prop)→Prop} {kn:Heap→Prop} {kj:Option Nat→Heap→Prop}
  (wf: ∀i c O hh,Inv i c O hh→ ∀b,O b→b<hh.size)
  (stable: ∀i c O hh h',Inv i c O hh→Mod (fun b=>¬O b∧h.size≤b) hh h'→Inv i c O h')
  (init:Inv 0 none O h)
  (round: ∀i x O1 hh rec kn' kj',l[i]? =some x→Inv i none O1 hh→ ¬O1 (h.size+1)→h.size+1<hh.size→hh[h.size+1]? =some (.loop rec)→rec.state= .ready→
   (∀ h',AEf (h.size+1) rec hh O1 (Inv (i+1) none) h'→kn' h')→(∀ j h',AEf (h.size+1) rec hh O1 (Inv (i+1) (some j)) h'→kj' j h')→body (ANP x) (h.size+1) hh kn' kj')
  (fin: ∀O' h',Inv l.length none O' h'→Mod O h h'→ ¬O' h.size→(∀ b,O' b→O b∨h.size≤b)→h'[h.size]? =some (.deferred (some []))→kn h')
  (finj: ∀i j O' h',Inv i (some j) O' h'→i≤l.length→Mod O h h'→ ¬O' h.size→(∀ b,O' b→O b∨h.size≤b)→h'[h.size]? =some (.deferred (some []))→kj j h'):
  TT A P fv [.agg [.str,.str,.bool]] body h kn kj:=by
 intro rec hst hpd hsz hy
 obtain⟨hlt,f,caps,rfl,hc,H⟩:=it
 have hOlt: ∀b,O b→b<h.size:=wf _ _ _ _ init
 have hSlt: ∀b,S b→b<h.size:=fun b hb=>by
  have:=hS b hb
  rw[Array.getElem?_eq_getElem (hlt b hb)] at this
  exact Ah this
 have hext:Ext h ((h.push (.deferred (some []))).push (.loop rec)):=(Mod.push h _).trans (Mod.push _ _)
 have hsz2:((h.push (.deferred (some []))).push (.loop rec)).size=h.size+2:=by simp
 refine⟨f,_,?_,AA.mono (H ((h.push (.deferred (some []))).push (.loop rec)) (fun b hb=>(hext.get b (hSlt b hb) (by simp)).trans (hS b hb)) (.func (.yield (h.size+1)) #[] #[])
  (fun i g OJ hh=> ∃O1:Nat→Prop,(∀ b,OJ b↔O1 b∨b=h.size∨b=h.size+1)∧ ¬O1 h.size∧ ¬O1 (h.size+1)∧(∀ b,O1 b→O b∨h.size≤b)∧h.size+2≤hh.size∧hh[h.size]? =some (.deferred (some []))∧
   match g with
   |true=>hh[h.size+1]? =some (.loop rec)∧Inv i none O1 hh
   |false=> ∃j rec',hh[h.size+1]? =some (.loop rec')∧rec'.state≠ .busy∧rec'.pending=some (VP j)∧Inv i (some j) O1 hh)
  (fun b=>O b∨b=h.size∨b=h.size+1) rfl ?_ ?_ ?_ ?_) ?_⟩
 ·have hcv:(do let d ←Deferred.ofValue (.func (.func f) #[] caps) #[.func (.yield (h.size+1)) #[] #[]];invoke d.target d.args:Sem Next).calc P=(callFunc f (#[]++ #[.func (.yield (h.size+1)) #[] #[]]++caps)).calc P:=rfl
  unfold Rz
  rw[hcv,hc]
 ·intro b hb h1
  have:=hSlt b hb
  rcases h1 with h1|h1|h1
  ·exact hd b hb h1
  ·omega
  ·omega
 ·constructor
  ·rintro i g OJ hh ⟨O1,e,_,_,_,hs,_,hm⟩ b hb
   rcases(e b).1 hb with h1|h1|h1
   ·cases g
    ·obtain⟨j,rec',_,_,_,hI⟩:=hm
     exact wf _ _ _ _ hI b h1
    ·exact wf _ _ _ _ hm.2 b h1
   ·omega
   ·omega
  ·rintro i g OJ hh h' ⟨O1,e,n1,n2,hsub,hs,hdf,hm⟩ md
   have md':Mod (fun b=>¬O1 b∧h.size≤b) hh h':=md.weak fun b _ hb=>⟨fun h1=>hb.1 ((e b).2 (.inl h1)),by omega⟩
   have k1:h'[h.size]? =hh[h.size]? :=md.get _ (by omega) fun hb=>hb.1 ((e _).2 (.inr (.inl rfl)))
   have k2:h'[h.size+1]? =hh[h.size+1]? :=md.get _ (by omega) fun hb=>hb.1 ((e _).2 (.inr (.inr rfl)))
   refine⟨O1,e,n1,n2,hsub,by have:=md.size;omega,k1.trans hdf,?_⟩
   cases g
   ·obtain⟨j,rec',h1,h2,h3,hI⟩:=hm
    exact⟨j,rec',k2.trans h1,h2,h3,stable _ _ _ _ _ hI md'⟩
   ·exact⟨k2.trans hm.1,stable _ _ _ _ _ hm.2 md'⟩
 ·rintro i x OJ hh hi ⟨O1,e,n1,n2,hsub,hs,hdf,hl,hI⟩
  refine hy (ANP x) hh _ hl (round i x O1 hh rec _ _ hi hI n2 (by omega) hl hst ?_ ?_)
  ·rintro h' ⟨O',hO',md,hl',hI'⟩
   have hl1:h.size+1<h'.size:=by have:=md.size;omega
   refine⟨_,hl',true,fun b=>O' b∨b=h.size∨b=h.size+1,rfl,?_,?_,O',fun _=>Iff.rfl,?_,?_,?_,?_,?_,?_,?_⟩
   ·rintro b (hb|hb)
    ·rcases hO' b hb with h1|h1
     ·exact .inl ((e b).2 (.inl h1))
     ·exact .inr h1
    ·exact .inl ((e b).2 (.inr hb))
   ·refine(md.trans (Mod.setObj (.inr rfl))).weak fun b _ hb=>(e b).2 (hb.elim .inl fun h1=> .inr (.inr h1))
   ·intro h1;rcases hO' _ h1 with h2|h2
    ·exact n1 h2
    ·omega
   ·intro h1;rcases hO' _ h1 with h2|h2
    ·exact n2 h2
    ·omega
   ·intro b hb;rcases hO' _ hb with h2|h2
    ·exact hsub _ h2
    ·exact .inr (by omega)
   ·simp;omega
   ·rw [Array.getElem?_setIfInBounds_ne (by omega)]
    exact(md.get _ (by omega) (by rintro(h1|h1);exact n1 h1;omega)).trans hdf
   ·rw [Bt hl1];cases rec;simp at hst hpd;simp[hst,hpd]
   ·refine stable _ _ _ _ _ hI' (Mod.setObj ⟨?_,by omega⟩)
    intro h1;rcases hO' _ h1 with h2|h2
    ·exact n2 h2
    ·omega
  ·rintro j h' ⟨O',hO',md,hl',hI'⟩
   have hl1:h.size+1<h'.size:=by have:=md.size;omega
   refine⟨_,hl',false,fun b=>O' b∨b=h.size∨b=h.size+1,rfl,?_,?_,O',fun _=>Iff.rfl,?_,?_,?_,?_,?_,j,{rec with state:= .done,pending:=some (VP j)},?_,?_,rfl,?_⟩
   ·rintro b (hb|hb)
    ·rcases hO' b hb with h1|h1
     ·exact .inl ((e b).2 (.inl h1))
     ·exact .inr h1
    ·exact .inl ((e b).2 (.inr hb))
   ·refine(md.trans (Mod.setObj (.inr rfl))).weak fun b _ hb=>(e b).2 (hb.elim .inl fun h1=> .inr (.inr h1))
   ·intro h1;rcases hO' _ h1 with h2|h2
    ·exact n1 h2
    ·omega
   ·intro h1;rcases hO' _ h1 with h2|h2
    ·exact n2 h2
    ·omega
   ·intro b hb;rcases hO' _ hb with h2|h2
    ·exact hsub _ h2
    ·exact .inr (by omega)
   ·simp;omega
   ·rw [Array.getElem?_setIfInBounds_ne (by omega)]
    exact(md.get _ (by omega) (by rintro(h1|h1);exact n1 h1;omega)).trans hdf
   ·exact Bt hl1
   ·simp
   ·refine stable _ _ _ _ _ hI' (Mod.setObj ⟨?_,by omega⟩)
    intro h1;rcases hO' _ h1 with h2|h2
    ·exact n2 h2
    ·omega
 ·refine⟨O,fun _=>Iff.rfl,fun h1=>?_,fun h1=>?_,fun b hb=> .inl hb,by omega,?_,?_⟩
  rotate_left 2
  ·rw [Array.getElem?_push_lt (by simp)];simp
  ·exact⟨by have h9:h.size+1=(h.push (.deferred (some []))).size:=(by simp);rw[h9];exact Array.getElem?_push_size,stable _ _ _ _ _ init hext.mod⟩
  ·have:=hOlt _ h1;omega
  ·have:=hOlt _ h1;omega
 ·rintro v h2 ⟨_,i,g,OJ,md,hsb,⟨O1,e,n1,n2,hsub,hs,hdf,hm⟩,hg,hil⟩
  have mdall: ∀rec2,Mod O h (h2.setIfInBounds (h.size+1) (.loop rec2)):=fun rec2=>by
   refine⟨by simp;omega,fun b hb hn=>?_⟩
   rw[Array.getElem?_setIfInBounds_ne (by omega)]
   exact(md.get b (by omega) (by rintro(h1|h1|h1);exact hn h1;omega;omega)).trans (hext.get b hb (by simp))
  have hdf2: ∀rec2,(h2.setIfInBounds (h.size+1) (.loop rec2))[h.size]? =some (.deferred (some [])):=fun rec2=>by
   rw[Array.getElem?_setIfInBounds_ne (by omega)];exact hdf
  cases g
  ·obtain⟨j,rec',h1,h3,h4,hI⟩:=hm
   exact⟨rec',h1,h3,.inr ⟨j,h4,finj i j O1 _ (stable _ _ _ _ _ hI (Mod.setObj ⟨n2,by omega⟩)) hil (mdall _) n1 hsub (hdf2 _)⟩⟩
  ·refine⟨rec,hm.1,by simp[hst],.inl ⟨hpd,fin O1 _ ?_ (mdall _) n1 hsub (hdf2 _)⟩⟩
   have:=hg rfl
   subst this
   exact stable _ _ _ _ _ hm.2 (Mod.setObj ⟨n2,by omega⟩)
end Go.Lf

/-
 LIFT, part U5: floats that are whole numbers: what they stand for; order, sums, products, back to integers.
-/
set_option maxRecDepth 100000
namespace Go.Lf
open Go Ieee
abbrev fD:Format:=Ieee.double
theorem AGA(s:Bool)(m u v:Nat):signed s m (u+v)=signed s m u*(2:Int)^v:=by
 unfold signed
 rw[Nat.shiftLeft_eq,Nat.shiftLeft_eq,Nat.pow_add,←Nat.mul_assoc]
 split
 ·push_cast;rw[Int.neg_mul]
 ·push_cast;rfl
def DV(d:Datum)(n:Int):Prop:= ∃s m,∃k:Nat,d= .number s m (-(k:Int))∧signed s m 0=n*(2:Int)^k
def VR(b:Nat)(n:Int):Prop:=DV (fD.read b) n
theorem LY(s:Bool)(m u:Nat):signed s m u=signed s m 0*(2:Int)^u:=by
 have:=AGA s m 0 u
 rwa [Nat.zero_add] at this
theorem pow_pos(k:Nat):(0:Int)<(2:Int)^k:=Int.pow_pos (by decide)
theorem AEN(a b:Int)(k:Nat):compare (a*(2:Int)^k) (b*(2:Int)^k)=compare a b:=by
 have hk:=pow_pos k
 simp only[compare,compareOfLessAndEq]
 have h1:(a*2^k<b*2^k)↔a<b:=Int.mul_lt_mul_right hk
 have h2:(a*2^k=b*2^k)↔a=b:=Int.mul_eq_mul_right_iff (by omega)
 by_cases c1:a<b<;>by_cases c2:a=b<;>simp[h1,h2,c1,c2]
theorem DV.order {x y:Datum}{n m:Int}(hx:DV x n)(hy:DV y m):x.order y=some (compare n m):=by
 obtain⟨s,a,k,rfl,h⟩:=hx
 obtain⟨t,b,l,rfl,g⟩:=hy
 simp only[Datum.order]
 congr 1
 have e1:(-(k:Int)-min (-(k:Int)) (-(l:Int))).toNat=max k l-k:=by omega
 have e2:(-(l:Int)-min (-(k:Int)) (-(l:Int))).toNat=max k l-l:=by omega
 rw[e1,e2,LY s,LY t,h,g,Int.mul_assoc,Int.mul_assoc,←Int.pow_add,←Int.pow_add,show k+(max k l-k)=max k l by omega,show l+(max k l-l)=max k l by omega,AEN]
theorem VR.order {x y:Nat}{n m:Int}(hx:VR x n)(hy:VR y m):fD.order x y=some (compare n m):=DV.order hx hy
theorem cmp_eq {n m:Int}:(compare n m= .eq)↔n=m:=by
 simp only[compare,compareOfLessAndEq]
 by_cases c1:n<m<;>by_cases c2:n=m<;>simp[c1,c2]<;>omega
theorem ABf(neg:Bool){rung:Nat}(h:rung<fD.signWeight):
  fD.read (fD.word neg rung)=if rung<fD.binade then .number neg rung fD.leastPlace else if rung<fD.infRung then .number neg (fD.binade+rung % fD.binade) (fD.leastPlace+(rung / fD.binade-1:Nat)) else if rung=fD.infRung then .infinity neg else .nan neg (rung-fD.infRung):=by
 have hs:0<fD.signWeight:=Nat.two_pow_pos _
 have e1:(fD.word neg rung / fD.signWeight % 2==1)=neg:=by
  unfold Format.word
  cases neg
  ·simp [Nat.div_eq_of_lt h]
  ·simp [Nat.add_div_left _ hs,Nat.div_eq_of_lt h]
 have e2:fD.word neg rung % fD.signWeight=rung:=by
  unfold Format.word
  cases neg
  ·simp [Nat.mod_eq_of_lt h]
  ·simp [Nat.mod_eq_of_lt h]
 unfold Format.read
 simp only[e1,e2]
theorem Ww(s:Bool)(u:Nat):signed s 0 u=0:=by cases s<;>simp[signed]
theorem ALB:fD.binade=4503599627370496:=by decide
theorem AMO:fD.infRung=9218868437227405312:=by decide
theorem ANV:fD.signWeight=9223372036854775808:=by decide
theorem Zl:fD.leastPlace= -1074:=by decide
theorem ANL:fD.fractionBits=52:=rfl
theorem AK8(neg:Bool):VR (fD.word neg 0) 0:=by
 refine⟨neg,0,1074,?_,by rw[Ww,Int.zero_mul]⟩
 rw[ABf neg (by rw[ANV];decide),if_pos (by rw[ALB];decide),Zl];rfl
theorem UV {v:Nat}(hv:0<v)(K:Nat):(v*2^K).log2=v.log2+K:=by
 have h0:v≠0:=by omega
 have hp:0<2^K:=Nat.two_pow_pos K
 have hne:v*2^K≠0:=Nat.mul_ne_zero h0 (by omega)
 have h1:2^v.log2≤v:=(Nat.le_log2 h0).1 (Nat.le_refl _)
 have h2:v<2^(v.log2+1):=(Nat.log2_lt h0).1 (Nat.lt_succ_self _)
 have h3:v.log2+K≤(v*2^K).log2:=by
  rw[Nat.le_log2 hne,Nat.pow_add]
  exact Nat.mul_le_mul_right _ h1
 have h4:(v*2^K).log2<v.log2+1+K:=by
  rw[Nat.log2_lt hne,Nat.pow_add]
  exact Nat.mul_lt_mul_of_pos_right h2 hp
 omega
theorem AJ6(neg:Bool)(n:Nat):Toward.even.cut neg n 0=n:=by
 simp[Toward.cut,Nat.mod_one]
theorem AIU(way:Toward)(neg:Bool){M d:Nat}(hM:0<M):way.cut neg (M*2^d) d=M:=by
 unfold Toward.cut
 have hd:min d ((M*2^d).log2+2)=d:=by rw[UV hM];omega
 have hp:0<2^d:=Nat.two_pow_pos d
 simp only[hd,Nat.one_shiftLeft,Nat.mul_mod_left,Nat.mul_div_cancel _ hp]
 cases way
 ·have h1: ¬(2^d=0):=by omega
  simp[h1]
 all_goals simp
theorem AKB {L M:Nat}(hl:L≤52)(h2:M<9007199254740992):min ((L+1022)*4503599627370496+M) 9218868437227405312=(L+1022)*4503599627370496+M:=by omega
theorem AMV {L M:Nat}(h1:4503599627370496≤M): ¬(L+1022)*4503599627370496+M<4503599627370496:=by omega
theorem AMy {L M:Nat}(hl:L≤52)(h2:M<9007199254740992):(L+1022)*4503599627370496+M<9218868437227405312:=by omega
theorem AI8 {L M:Nat}(h1:4503599627370496≤M)(h2:M<9007199254740992):((L+1022)*4503599627370496+M) % 4503599627370496=M-4503599627370496∧((L+1022)*4503599627370496+M) / 4503599627370496=L+1023:=by omega
theorem AMs {M:Nat}(h1:4503599627370496≤M):4503599627370496+(M-4503599627370496)=M:=by omega
theorem AMi {L:Nat}(hl:L≤52):(-1074:Int)+((L+1023-1:Nat):Int)=(L:Int)-52:=by omega
theorem AMN {L:Nat}(hl:L≤52):(L:Int)-52= -((52-L:Nat):Int):=by omega
theorem AMD {L M:Nat}(hl:L≤52)(h2:M<9007199254740992):(L+1022)*4503599627370496+M<9223372036854775808:=by omega
theorem AAv(neg:Bool){v K:Nat}(hv:0<v)(h53:v<9007199254740992):VR (fD.nearest neg (v*2^K) (-(K:Int))) (if neg then -(v:Int) else v):=by
 have h0:v≠0:=by omega
 have hlog:=UV hv K
 have hl:v.log2≤52:=by
  have:v.log2<53:=(Nat.log2_lt h0).2 (by simpa using h53)
  omega
 have hv1:2^v.log2≤v:=(Nat.le_log2 h0).1 (Nat.le_refl _)
 have hv2:v<2^(v.log2+1):=(Nat.log2_lt h0).1 (Nat.lt_succ_self _)
 have hne: ¬v*2^K=0:=Nat.mul_ne_zero h0 (by have:=Nat.two_pow_pos K;omega)
 generalize hL:v.log2=L at*
 have hM1:4503599627370496≤v*2^(52-L):=by
  have h1:2^L*2^(52-L)≤v*2^(52-L):=Nat.mul_le_mul_right _ hv1
  rw[← Nat.pow_add,show L+(52-L)=52 by omega] at h1
  exact h1
 have hM2:v*2^(52-L)<9007199254740992:=by
  have h1:v*2^(52-L)<2^(L+1)*2^(52-L):=Nat.mul_lt_mul_of_pos_right hv2 (Nat.two_pow_pos _)
  rw[← Nat.pow_add,show L+1+(52-L)=53 by omega] at h1
  exact h1
 have hn:fD.nearest neg (v*2^K) (-(K:Int))=fD.word neg ((L+1022)*4503599627370496+v*2^(52-L)):=by
  unfold Format.nearest
  rw[if_neg hne]
  have hmax:max (-(K:Int)+((v*2^K).log2:Nat)-(fD.fractionBits:Nat)) fD.leastPlace=(L:Int)-52:=by
   rw[hlog,Zl,ANL];push_cast;omega
  simp only[hmax]
  have hcut:Toward.even.cut neg ((v*2^K) <<< (-(K:Int)-((L:Int)-52)).toNat) (((L:Int)-52)- -(K:Int)).toNat=v*2^(52-L):=by
   by_cases hc:K+L≤52
   ·have e1:(((L:Int)-52)- -(K:Int)).toNat=0:=by omega
    have e2:(-(K:Int)-((L:Int)-52)).toNat=52-L-K:=by omega
    rw[e1,e2,AJ6,Nat.shiftLeft_eq,Nat.mul_assoc,←Nat.pow_add]
    congr 2;omega
   ·have e1:(((L:Int)-52)- -(K:Int)).toNat=L+K-52:=by omega
    have e2:(-(K:Int)-((L:Int)-52)).toNat=0:=by omega
    have e3:v*2^K=(v*2^(52-L))*2^(L+K-52):=by
     rw[Nat.mul_assoc,←Nat.pow_add];congr 2;omega
    rw[e1,e2,Nat.shiftLeft_zero,e3,AIU _ _ (by omega)]
  have hpl:(((L:Int)-52)-fD.leastPlace).toNat=L+1022:=by rw[Zl];omega
  rw[hcut,hpl,ALB,AMO,AKB hl hM2]
 rw[hn]
 have hr:(L+1022)*4503599627370496+v*2^(52-L)<fD.signWeight:=by rw[ANV];exact AMD hl hM2
 refine⟨neg,v*2^(52-L),52-L,?_,?_⟩
 ·rw [ABf neg hr,ALB,AMO,Zl,if_neg (AMV hM1),if_pos (AMy hl hM2),(AI8 hM1 hM2).1,(AI8 hM1 hM2).2,AMs hM1,AMi hl,AMN hl]
 ·unfold signed
  rw[Nat.shiftLeft_zero]
  cases neg
  ·simp
  ·simp [Int.neg_mul]
theorem AI7 {s:Bool}{a:Nat}{K:Nat}{n:Int}(h:signed s a 0=n*(2:Int)^K)(hn:n.natAbs<9007199254740992):VR (fD.write (.number s a (-(K:Int)))) n:=by
 show VR (fD.nearest s a (-(K:Int))) n
 have hp:=pow_pos K
 have h2:(2:Int)^K=((2^K:Nat):Int):=by push_cast;rfl
 by_cases h0:n=0
 ·subst h0
  have ha:a=0:=by
   unfold signed at h
   rw[Nat.shiftLeft_zero,Int.zero_mul] at h
   split at h<;>omega
  subst ha
  have e:fD.nearest s 0 (-(K:Int))=fD.word s 0:=by unfold Format.nearest;rw[if_pos rfl]
  rw[e];exact AK8 s
 ·have ha:a=n.natAbs*2^K∧(if s then -(n.natAbs:Int) else n.natAbs)=n:=by
   unfold signed at h
   rw[Nat.shiftLeft_zero] at h
   have hnat:(a:Int).natAbs=(n*2^K).natAbs:=by
    rw[← h];split<;>simp
   have e:(n*2^K).natAbs=n.natAbs*2^K:=by
    rw[Int.natAbs_mul,h2,Int.natAbs_natCast]
   refine⟨by rw[e] at hnat;simpa using hnat,?_⟩
   split at h
   ·rename_i hs
    rw[if_pos hs]
    have:n*(2:Int)^K≤0:=by omega
    have:n≤0:=by
     rcases Int.lt_or_le 0 n with h3|h3
     ·have:=Int.mul_pos h3 hp;omega
     ·exact h3
    omega
   ·rename_i hs
    rw[if_neg hs]
    have:0≤n*(2:Int)^K:=by omega
    have:0≤n:=by
     rcases Int.lt_or_le n 0 with h3|h3
     ·have:=Int.mul_neg_of_neg_of_pos h3 hp;omega
     ·exact h3
    omega
  rw[ha.1]
  have:=AAv s (v:=n.natAbs) (K:=K) (by omega) hn
  rw[ha.2] at this
  exact this
theorem AFF(t:Int):signed (decide (t<0)) t.natAbs 0=t:=by
 unfold signed
 rw[Nat.shiftLeft_zero]
 split
 ·rename_i h;simp at h;omega
 ·rename_i h;simp at h;omega
theorem DV.sum {x y:Datum}{n m:Int}(hx:DV x n)(hy:DV y m)(hn:(n+m).natAbs<9007199254740992): ∃d,x.sum y=some d∧VR (fD.write d) (n+m):=by
 obtain⟨s,a,k,rfl,h⟩:=hx
 obtain⟨t,b,l,rfl,g⟩:=hy
 refine⟨_,rfl,?_⟩
 have e0:min (-(k:Int)) (-(l:Int))= -((max k l:Nat):Int):=by omega
 have e1:(-(k:Int)-min (-(k:Int)) (-(l:Int))).toNat=max k l-k:=by omega
 have e2:(-(l:Int)-min (-(k:Int)) (-(l:Int))).toNat=max k l-l:=by omega
 have et:signed s a (-(k:Int)-min (-(k:Int)) (-(l:Int))).toNat+signed t b (-(l:Int)-min (-(k:Int)) (-(l:Int))).toNat=(n+m)*(2:Int)^(max k l):=by
  rw[e1,e2,LY s,LY t,h,g,Int.mul_assoc,Int.mul_assoc,←Int.pow_add,←Int.pow_add,show k+(max k l-k)=max k l by omega,show l+(max k l-l)=max k l by omega,Int.add_mul]
 simp only[et]
 rw[e0]
 generalize hT:(n+m)*(2:Int)^(max k l)=T at*
 refine AI7 ?_ hn
 rw[hT]
 split
 ·rename_i h0
  rw[h0];exact(Ww _ _).trans (by rw[← h0])
 ·exact(AFF T)
theorem DV.opposite {x:Datum}{n:Int}(hx:DV x n):DV x.opposite (-n):=by
 obtain⟨s,a,k,rfl,h⟩:=hx
 refine⟨!s,a,k,rfl,?_⟩
 rw[Int.neg_mul,←h]
 unfold signed
 cases s<;>simp
theorem VR.add {x y:Nat}{n m:Int}(hx:VR x n)(hy:VR y m)(hn:(n+m).natAbs<9007199254740992): ∃r,fD.add x y=some r∧VR r (n+m):=by
 obtain⟨d,h1,h2⟩:=DV.sum hx hy hn
 unfold Format.add
 rw[h1];exact⟨_,rfl,h2⟩
theorem VR.sub {x y:Nat}{n m:Int}(hx:VR x n)(hy:VR y m)(hn:(n-m).natAbs<9007199254740992): ∃r,fD.sub x y=some r∧VR r (n-m):=by
 obtain⟨d,h1,h2⟩:=DV.sum hx (DV.opposite hy) (by rw[← Int.sub_eq_add_neg];exact hn)
 unfold Format.sub
 rw[h1];exact⟨_,rfl,by rw[Int.sub_eq_add_neg];exact h2⟩
theorem AIc {b:Nat}{s:Bool}{m:Nat}{i:Int}(h:fD.read b= .number s m i):i≤0∨4503599627370496≤m:=by
 unfold Format.read at h
 simp only[ALB,AMO,Zl] at h
 split at h
 ·injection h with _ _ h3;exact .inl (by omega)
 ·split at h
  ·injection h with _ h2 _;exact .inr (by omega)
  ·split at h<;>cases h
theorem AGe(s:Bool)(m u:Nat):(signed s m u).natAbs=m*2^u:=by
 unfold signed
 rw[Nat.shiftLeft_eq]
 split
 ·rw [Int.natAbs_neg,Int.natAbs_natCast]
 ·rw [Int.natAbs_natCast]
theorem VR.of_eq {x y:Nat}{m:Int}(hy:VR y m)(hm:m.natAbs<4503599627370496)(h:fD.order x y=some .eq):VR x m:=by
 obtain⟨t,b,l,hq,g⟩:=hy
 unfold Format.order at h
 rw[hq] at h
 unfold VR
 cases hr:fD.read x with
 |nan s f=>rw[hr] at h;simp[Datum.order] at h
 |infinity s=>rw[hr] at h;cases s<;>simp[Datum.order] at h
 |number s a i=>
  rw[hr] at h
  simp only[Datum.order,Option.some.injEq] at h
  rw[cmp_eq] at h
  by_cases hi:i≤0
  ·refine⟨s,a,(-i).toNat,by rw[show -(((-i).toNat:Nat):Int)=i by omega],?_⟩
   generalize hk:(-i).toNat=k
   have e1:(i-min i (-(l:Int))).toNat=max k l-k:=by omega
   have e2:(-(l:Int)-min i (-(l:Int))).toNat=max k l-l:=by omega
   rw[e1,e2,LY s,LY t,g,Int.mul_assoc,←Int.pow_add,show l+(max k l-l)=max k l by omega] at h
   refine Int.eq_of_mul_eq_mul_right (a:=(2:Int)^(max k l-k)) (by have:=pow_pos (max k l-k);omega) ?_
   rw[h,Int.mul_assoc,←Int.pow_add,show k+(max k l-k)=max k l by omega]
  ·exfalso
   have ha:=(AIc hr).resolve_left hi
   have e1:(i-min i (-(l:Int))).toNat=i.toNat+l:=by omega
   have e2:(-(l:Int)-min i (-(l:Int))).toNat=0:=by omega
   rw[e1,e2,g] at h
   have h1:=congrArg Int.natAbs h
   have h2:(2:Int)^l=((2^l:Nat):Int):=by push_cast;rfl
   rw[AGe,Int.natAbs_mul,h2,Int.natAbs_natCast,Nat.pow_add,←Nat.mul_assoc] at h1
   have h3:a*2^i.toNat=m.natAbs:=Nat.eq_of_mul_eq_mul_right (Nat.two_pow_pos l) h1
   have h4:1≤2^i.toNat:=Nat.two_pow_pos _
   have h5:a*1≤a*2^i.toNat:=Nat.mul_le_mul_left _ h4
   omega
theorem VR.inj {x:Nat}{n m:Int}(h:VR x n)(g:VR x m):n=m:=by
 have h1:=VR.order h g
 have h2:=VR.order g g
 rw[h1] at h2
 have e:compare m m= .eq:=cmp_eq.2 rfl
 rw[e] at h2
 exact cmp_eq.1 (Option.some.inj h2)
end Go.Lf

/-
 LIFT, part U6: what is reckoned of floats and complex numbers, as rules.
-/
set_option maxRecDepth 100000
set_option linter.unusedVariables false
namespace Go.Lf
open Go Ieee
theorem BK.calc {A:Amb}{P:Program}{s:Sem Value}{h:Heap}{K:Value→Heap→Prop}{v:Value}(hc:s.calc P=some v)(H:K v h):BK A P s h K:=fun n=>⟨v,h,n,Jg hc _,H⟩
theorem BK.run {A:Amb}{P:Program}{s:Sem Value}{h:Heap}{K:Value→Heap→Prop}{v:Value}(hc: ∀w,s.run P w= .ok v w)(H:K v h):BK A P s h K:=fun n=>⟨v,h,n,hc _,H⟩
section
variable {A : Amb} {P : Program} {t : TypeId} {o1 o2 : Operand} {x y : Nat} {h : Heap} {K : Value → Heap → Prop}
end
end Go.Lf

