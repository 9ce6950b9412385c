/-
 LIFT, part G: operations that write, make memory or call; a region's formula and what it stands for.
-/
import Derived.Test.YtdmlhpjdmgaggaaGreatDoorLfFToT
set_option linter.unusedVariables false
set_option linter.unusedSimpArgs false
namespace Go.Lf
inductive Cls where
 |pure|load|eff
def cls(P:Program)(o:Oper):Cls:=
 match o.op with
 | .load _ _=> .load
 | .binOp op t x y _=>match QA P op t x y with| .no=> .eff|_=> .pure
 | .convert s d _=>match P.underlying s with
  |some (.int _)=>(match P.underlying d with|some (.int _)=> .pure|_=> .eff)
  |some .string=>(match P.underlying d with|some .string=> .pure|_=> .eff)
  |_=> .eff
 | .call c=>match c.callee with
  | .builtin .min=>(match c.argTypes[0]? with
   |some t=>(match P.underlying t with|some (.float _)=> .eff|_=> .pure)
   |none=> .pure)
  | .builtin .max=>(match c.argTypes[0]? with
   |some t=>(match P.underlying t with|some (.float _)=> .eff|_=> .pure)
   |none=> .pure)
  | .builtin .cap=> .pure
  | .builtin .len=>(match c.argTypes[0]? with
   |some t=>(match P.underlying t with|some (.map _ _)=> .eff|_=> .pure)
   |none=> .eff)
  |_=> .eff
 | .move _| .assign _| .pick .. | .build .. | .nilCheck _| .unOp .. | .makeInterface .. | .makeFunc .. | .fieldAddr .. | .field .. | .indexAddr .. | .index .. | .slice .. | .extract .. => .pure
 |_=> .eff
def WB(A:Amb)(P:Program)(m:Sem Unit)(h:Heap)(K:Heap→Prop):Prop:= ∀n,∃h' n',m.run P (A.at h n)= .ok () (A.at h' n')∧K h'
def Ic(e:Env)(l:Array Operand):Array Value:=(l.toList.map (ρof e)).toArray
def ALl(P:Program)(f:FuncId):Bool:=match P.funcs[f]? with|some fn=>(match fn.body with|none=>true|some _=>false)|none=>false
def ALe(A:Amb)(P:Program)(f:FuncId)(args:Array Value)(h:Heap)(K:Value→Heap→Prop):Prop:= ∀n,∃v h' n',(callFunc f args).run P (A.at h n)= .ok (.value v) (A.at h' n')∧K v h'
def AKn(A:Amb)(P:Program)(o:Oper)(c:Call)(e:Env)(h:Heap)(K:Value→Heap→Prop):Prop:=
 match c.callee with
 | .value (.func f)=>known e c.args.toList (match ALl P f with
  |true=>ALe A P f (Ic e c.args) h fun v h'=>NJ P o.type v fun v=>K v h'
  |false=>Rz P (callFunc f (Ic e c.args)) fun x=>match x with
   | .enter f' args'=>AA A P f' args' h fun v h'=>NJ P o.type v fun v=>K v h'
   |_=>False)
 | .value x=>rd e x fun fv=>known e c.args.toList (FE A P fv (Ic e c.args) h fun v h'=>NJ P o.type v fun v=>K v h')
 | .builtin b=>known e c.args.toList (match b with
  | .append=>BK A P (Builtin.append_ c.argTypes o.type (Ic e c.args)) h fun v h'=>NJ P o.type v fun v=>K v h'
  | .copy=>BK A P (Builtin.copy_ c.argTypes o.type (Ic e c.args)) h fun v h'=>NJ P o.type v fun v=>K v h'
  | .delete=>BK A P (Builtin.delete_ c.argTypes o.type (Ic e c.args)) h fun v h'=>NJ P o.type v fun v=>K v h'
  | .clear=>BK A P (Builtin.clear_ c.argTypes o.type (Ic e c.args)) h fun v h'=>NJ P o.type v fun v=>K v h'
  | .len=>BK A P (Builtin.len_ c.argTypes o.type (Ic e c.args)) h fun v h'=>NJ P o.type v fun v=>K v h'
  | .real=>BK A P (Builtin.real_ c.argTypes o.type (Ic e c.args)) h fun v h'=>NJ P o.type v fun v=>K v h'
  | .imag=>BK A P (Builtin.imag_ c.argTypes o.type (Ic e c.args)) h fun v h'=>NJ P o.type v fun v=>K v h'
  | .complex=>BK A P (Builtin.complex_ c.argTypes o.type (Ic e c.args)) h fun v h'=>NJ P o.type v fun v=>K v h'
  | .min=>BK A P (Builtin.min_ c.argTypes o.type (Ic e c.args)) h fun v h'=>NJ P o.type v fun v=>K v h'
  | .max=>BK A P (Builtin.max_ c.argTypes o.type (Ic e c.args)) h fun v h'=>NJ P o.type v fun v=>K v h'
  |_=>False)
 |_=>False
def Q6(a:Addr):Heap→Nat→List Value→(Heap→Prop)→Prop
 |h,_,[],K=>K h
 |h,i,v::vs,K=>T9 (Jj v) (Store h (a.add i) v fun h'=>Q6 a h' (i+1) vs K)
def AF6(P:Program)(t:TypeId)(av v:Value)(h:Heap)(K:Heap→Prop):Prop:=
 match av with
 | .pointer p=>At p fun a=>match P.info? t with
  |some i=>ZQ P t v fun cs=>match Nat.beq cs.size i.size with
   |true=>Q6 a h 0 cs.toList K
   |false=>False
  |none=>False
 |_=>False
def ANm(P:Program)(t:TypeId)(v:Value)(h:Heap)(K:Value→Heap→Prop):Prop:=
 ZQ P t v fun cs=>New h (.cells cs t) fun b h'=>K (.pointer (some ⟨b,0,none⟩)) h'
def rowOf(P:Program)(el:TypeId)(len:Nat)(parts:List (Nat×Array Value)):Option (Array Value):=
 match P.info? el with
 |some ei=>match ei.zero with
  |some z=>match Nat.ble (len*ei.size) (2^24) with
   |true=>AB1 (fun i=>some (i*ei.size,ei.size)) ((Array.range (len*ei.size)).map (z.cells[· % z.cells.size]!)) parts
   |false=>none
  |none=>none
 |none=>none
def WZ(P:Program)(t:TypeId)(len:Nat)(parts:Array (Nat×Operand))(e:Env)(h:Heap)(K:Value→Heap→Prop):Prop:=
 match P.underlying t with
 |some (.slice el)=>Xw P t e parts.toList fun l=>match rowOf P el len l with
  |some cells=>New h (.cells cells el) fun b h'=>K (.slice (some ⟨b,0,none⟩) len len) h'
  |none=>False
 |_=>False
def Oo(ops:List Oper)(d:Option Tmp)(j:Nat):Option TypeId:=
 match d with
 |none=>none
 |some t=>match ops with
  | []=>none
  |o::r=>match o.op with
   | .extract (.tmp t') j'=>(match Nat.beq t' t with|true=>(match Nat.beq j' j with|true=>some o.type|false=>Oo r (some t) j)|false=>Oo r (some t) j)
   |_=>Oo r (some t) j
def AF0(P:Program)(t:Option TypeId)(v:Value)(K:Value→Prop):Prop:=
 match t with
 |none=>K v
 |some t=>NJ P t v K
theorem Jk {P:Program}{t:Option TypeId}{v:Value}{K:Value→Prop}(h:AF0 P t v K):K v:=by
 cases t with
 |none=>exact h
 |some t=>exact Lx h
def AGa(A:Amb)(P:Program)(ops:Array Oper)(o:Oper)(e:Env)(h:Heap)(K:Value→Heap→Prop):Prop:=
 match o.op with
 | .call c=>AKn A P o c e h K
 | .makeSlice t l c=>rd e l fun l=>rd e c fun c=>BK A P (Instr.makeSlice t l c) h fun v h'=>NJ P o.type v fun v=>K v h'
 | .lookup t x i ok=>rd e x fun x=>rd e i fun i=>BK A P (Instr.lookup t x i ok) h fun v h'=>NJ P o.type v fun v=>K v h'
 | .mapUpdate t m k x=>rd e m fun m=>rd e k fun k=>rd e x fun x=>WB A P (Instr.mapUpdate t m k x) h fun h'=>K undef h'
 | .mapEntry t m k=>rd e m fun m=>rd e k fun k=>BK A P (Instr.mapEntry t m k) h fun v h'=> ∃k u:Value,v= .tuple #[k,u]∧AF0 P (Oo ops.toList o.dst 0) k fun k=>AF0 P (Oo ops.toList o.dst 1) u fun u=>K (.tuple #[k,u]) h'
 | .entryStore t m s x=>rd e m fun m=>rd e s fun s=>rd e x fun x=>WB A P (Instr.entryStore t m s x) h fun h'=>K undef h'
 | .convert s d x=>rd e x fun x=>BK A P (convert s d x) h fun v h'=>NJ P o.type v fun v=>K v h'
 | .binOp op t x y _=>rd e x fun v=>rd e y fun u=>BK A P (do eqGuard op t x y v u;binOp op t v u) h fun v h'=>NJ P o.type v fun v=>K v h'
 | .typeAssert x t u ok=>rd e x fun x=>BK A P (Instr.typeAssert x t u ok) h fun v h'=>NJ P o.type v fun v=>K v h'
 | .store t x y=>rd e x fun av=>rd e y fun v=>AF6 P t av v h fun h'=>K undef h'
 | .box t x=>rd e x fun v=>ANm P t v h K
 | .buildSlice t len parts=>WZ P t len parts e h K
 | .range t x=>rd e x fun x=>BK A P (Instr.range t x) h fun v h'=> ∃b:Nat,v= .pointer (some ⟨b,0,none⟩)∧K (.pointer (some ⟨b,0,none⟩)) h'
 | .next x s=>rd e x fun x=>BK A P (Instr.next x s o.type) h fun v h'=>(v= .tuple #[.bool false]∧K (.tuple #[.bool false]) h')∨(∃ k u:Value,v= .tuple #[.bool true,k,u]∧AF0 P (Oo ops.toList o.dst 1) k fun k=>AF0 P (Oo ops.toList o.dst 2) u fun u=>K (.tuple #[.bool true,k,u]) h')
 | .entry x=>rd e x fun x=>BK A P (Instr.entry x) h fun v h'=> ∃k u:Value,v= .tuple #[k,u]∧AF0 P (Oo ops.toList o.dst 0) k fun k=>AF0 P (Oo ops.toList o.dst 1) u fun u=>K (.tuple #[k,u]) h'
 | .alloc .. | .makeMap .. =>known e o.op.operands.toList (Sem.vc P (execOp (ρof e) o) h fun x h'=>match x with
  | .value v=>K v h'
  | .skip=>K undef h'
  |_=>False)
 |_=>False
theorem Vx {N:Nat}{a:Act}{e:Env}(_H:Fits N a e){l:Array Operand}(h: ∀x∈l.toList,ρof e x=a.eval x):Ic e l=l.map a.eval:=by
 unfold Ic
 rw[List.map_congr_left h]
 apply Array.toList_inj.1
 rw[Array.toList_map]
section
variable {P : Program} {A : Amb}
theorem Fs {o:Oper}{ρ:Operand→Value}{s:Sem Value}{h:Heap}{K:Value→Heap→Prop}(he:execOp ρ o=do pure (.value (← s)))
  (hk:BK A P s h fun v h'=>NJ P o.type v fun v=>K v h'): ∀n,EV P o ρ (A.at h n) fun v w'=> ∃h' n',w'=A.at h' n'∧K v h':=by
 intro n
 obtain⟨v,h',n',hr,hd⟩:=hk n
 unfold EV
 rw[he,YP hr]
 exact⟨h',n',rfl,Lx hd⟩
theorem Uf {o:Oper}{ρ:Operand→Value}{s:Sem Value}{h:Heap}{K Q:Value→Heap→Prop}(he:execOp ρ o=do pure (.value (← s)))
  (hk:BK A P s h Q) (hq: ∀v h',Q v h'→K v h'): ∀n,EV P o ρ (A.at h n) fun v w'=> ∃h' n',w'=A.at h' n'∧K v h':=by
 intro n
 obtain⟨v,h',n',hr,hd⟩:=hk n
 unfold EV
 rw[he,YP hr]
 exact⟨h',n',rfl,hq _ _ hd⟩
theorem YV {o:Oper}{ρ:Operand→Value}{s:Sem Unit}{h:Heap}{K:Value→Heap→Prop}(he:execOp ρ o=do s;pure .skip)
  (hk:WB A P s h fun h'=>K undef h'): ∀n,EV P o ρ (A.at h n) fun v w'=> ∃h' n',w'=A.at h' n'∧K v h':=by
 intro n
 obtain⟨h',n',hr,hd⟩:=hk n
 unfold EV
 rw[he,ANK hr]
 exact⟨h',n',rfl,hd⟩
theorem AF2 {N:Nat}{a:Act}{e:Env}(H:Fits N a e){o:Oper}{c:Call}(ho:o.op= .call c){h:Heap}{K:Value→Heap→Prop}(hk:AKn A P o c e h K):
  ∀n,EV P o a.eval (A.at h n) fun v w'=> ∃h' n',w'=A.at h' n'∧K v h':=by
 have hcv: ∀ {fv:Value} {R:Value→Heap→Prop} {x:Operand},c.callee= .value x→a.eval x=fv→FE A P fv (c.args.map a.eval) h R→
   ∀n,EV P o a.eval (A.at h n) fun v w'=> ∃h' n',w'=A.at h' n'∧R v h':=by
  intro fv R x hc hx hcall n
  have:=hcall n
  unfold EV
  have he:execOp a.eval o=(do let d ←Deferred.ofValue fv (c.args.map a.eval);invoke d.target d.args:Sem Next):=by
   simp only[execOp,ho,resolve,hc,hx]
  rw[he]
  exact this
 unfold AKn at hk
 split at hk
 ·rename_i f hc
  obtain⟨h1,hk⟩:=Ip H hk
  rw[Vx H h1] at hk
  split at hk
  ·intro n
   obtain⟨v,h',n',hr,hd⟩:=hk n
   have he:(execOp a.eval o).run P (A.at h n)= .ok (.value v) (A.at h' n'):=by
    simp only[execOp,ho,resolve,hc,Act.eval,Deferred.ofValue]
    simp only[Sem.run_bind,Sem.run_pure,Result.andThen_ok,invoke]
    simpa using hr
   unfold EV
   rw[he]
   exact⟨h',n',rfl,Lx hd⟩
  ·obtain⟨x,hx,hk⟩:=KG hk
   split at hk
   ·rename_i f' args'
    intro n
    have he:(execOp a.eval o).run P (A.at h n)= .ok (.enter f' args') (A.at h n):=by
     simp only[execOp,ho,resolve,hc,Act.eval,Deferred.ofValue]
     simp only[Sem.run_bind,Sem.run_pure,Result.andThen_ok,invoke]
     have:=hx (A.at h n)
     simpa using this
    unfold EV
    rw[he]
    refine Calls.mono (hk n) ?_
    rintro e' w' ⟨v,rfl,h',n',rfl,hd⟩
    exact⟨v,rfl,h',n',rfl,Lx hd⟩
   ·exact hk.elim
 ·rename_i x hc
  have hk:=BB H hk
  obtain⟨h1,hk⟩:=Ip H hk
  rw[Vx H h1] at hk
  intro n
  refine EV.mono (hcv hc rfl hk n) ?_
  rintro v w' ⟨h',n',rfl,hd⟩
  exact⟨h',n',rfl,Lx hd⟩
 ·rename_i b hc
  obtain⟨h1,hk⟩:=Ip H hk
  rw[Vx H h1] at hk
  split at hk
  ·exact Fs (by simp only[execOp,ho,resolve,hc];rfl) hk
  ·exact Fs (by simp only[execOp,ho,resolve,hc];rfl) hk
  ·exact Fs (by simp only[execOp,ho,resolve,hc];rfl) hk
  ·exact Fs (by simp only[execOp,ho,resolve,hc];rfl) hk
  ·exact Fs (by simp only[execOp,ho,resolve,hc];rfl) hk
  ·exact Fs (by simp only[execOp,ho,resolve,hc];rfl) hk
  ·exact Fs (by simp only[execOp,ho,resolve,hc];rfl) hk
  ·exact Fs (by simp only[execOp,ho,resolve,hc];rfl) hk
  ·exact Fs (by simp only[execOp,ho,resolve,hc];rfl) hk
  ·exact Fs (by simp only[execOp,ho,resolve,hc];rfl) hk
  ·exact hk.elim
 ·exact hk.elim
theorem Uo {A:Amb}{a:Addr}: ∀ {l:List Value} {h:Heap} {i:Nat} {K:Heap→Prop},Q6 a h i l K→ ∀n,∃h',(storeCells a l i).run P (A.at h n)= .ok () (A.at h' n)∧K h'
 | [],h,i,K,hk,n=>⟨h,rfl,hk⟩
 |v::vs,h,i,K,hk,n=>by
  unfold Q6 at hk
  cases ho:Jj v with
  |false=>rw[ho] at hk;exact hk.elim
  |true=>
   rw[ho] at hk
   obtain⟨⟨u,hu⟩,hf,hk2⟩:=hk
   obtain⟨h',hr,hk3⟩:=Uo hk2 n
   refine⟨h',?_,hk3⟩
   have h1:=YJ (A:=A) (P:=P) (m:= .plain) (f:=(.pure ():Sem Unit)) (n:=n) ho hu hf
   simp only[storeCells,Sem.run_bind]
   have h2:(store (a.add i) v).run P (A.at h n)= .ok () (A.at (hset h (a.add i) v) n):=h1
   rw[h2]
   exact hr
theorem AEd {A:Amb}{t:TypeId}{av v:Value}{h:Heap}{K:Heap→Prop}(hk:AF6 P t av v h K):WB A P (Instr.storeAt t av v) h K:=by
 intro n
 unfold AF6 at hk
 split at hk
 ·rename_i p
  obtain⟨a,rfl,hk1⟩:=At.mk hk
  split at hk1
  ·rename_i ei hi
   have hk2:=PE hk1
   split at hk2
   ·rename_i hb
    have hb:=Nat.eq_of_beq_eq_true hb
    obtain⟨h',hr,hk3⟩:=Uo (P:=P) (A:=A) hk2 n
    refine⟨h',n,?_,hk3⟩
    simp[Instr.storeAt,Instr.sureAddr,storeVar,run_sizeOf hi,hb,hr]
   ·exact hk2.elim
  ·exact hk1.elim
 ·exact hk.elim
theorem AK5 {A:Amb}{t:TypeId}{v:Value}{h:Heap}{n:Nat}:(Instr.box t v).run P (A.at h n)= .ok (.pointer (some ⟨h.size,0,none⟩)) (A.at (h.push (.cells v.cells t)) n):=rfl
theorem ALq {A:Amb}{t el:TypeId}(ht:P.underlying t=some (.slice el)){len:Nat}{parts:Array (Nat×Value)}{cells:Array Value}{h:Heap}{n:Nat}
  (hr:rowOf P el len (parts.toList.map fun p=>(p.1,p.2.cells))=some cells):
  (Instr.buildSlice t len parts).run P (A.at h n)= .ok (.slice (some ⟨h.size,0,none⟩) len len) (A.at (h.push (.cells cells el)) n):=by
 unfold rowOf at hr
 split at hr
 ·rename_i ei hei
  split at hr
  ·rename_i z hz
   split at hr
   ·rename_i hle
    have hle:=Nat.le_of_ble_eq_true hle
    rw[← Xf] at hr
    have hn: ¬(len*ei.size>2^24):=by omega
    unfold Instr.buildSlice
    simp only[Sem.run_bind,Av ht,Result.andThen_ok,run_sizeOf hei,if_neg hn]
    by_cases h0:len*ei.size=0
    ·have hr0:Instr.fill (fun i=>some (i*ei.size,ei.size)) ((Array.range (len*ei.size)).map ((#[]:Array Value)[· % (#[]:Array Value).size]!)) parts.toList=some cells:=by
      rw[← hr];congr 1;simp[h0]
     rw[if_pos h0]
     simp only[Sem.run_bind,Sem.run_pure,Result.andThen_ok,hr0]
     rfl
    ·rw [if_neg h0]
     have hzv:(zeroValue el).run P (A.at h n)= .ok z (A.at h n):=by simp[zeroValue,AEi hei,hz]
     simp only[Sem.run_bind,hzv,Sem.run_pure,Result.andThen_ok,hr]
     rfl
   ·cases hr
  ·cases hr
 ·cases hr
theorem Vz {N:Nat}{a:Act}{e:Env}(H:Fits N a e){ops:Array Oper}{o:Oper}{h:Heap}{K:Value→Heap→Prop}(hk:AGa A P ops o e h K):
  ∀n,EV P o a.eval (A.at h n) fun v w'=> ∃h' n',w'=A.at h' n'∧K v h':=by
 have hvc:Dx o→known e o.op.operands.toList (Sem.vc P (execOp (ρof e) o) h fun x h'=>match x with
   | .value v=>K v h'
   | .skip=>K undef h'
   |_=>False)→ ∀n,EV P o a.eval (A.at h n) fun v w'=> ∃h' n',w'=A.at h' n'∧K v h':=by
  intro hs hk n
  obtain⟨h1,hk⟩:=Ip H hk
  obtain⟨x,h',n',hr,hk⟩:=AJ8 (A:=A) hk n
  rw[execOp_congr o hs (fun x hx=>h1 x (by simpa using hx))] at hr
  unfold EV
  rw[hr]
  split at hk
  ·exact⟨h',n',rfl,hk⟩
  ·exact⟨h',n',rfl,hk⟩
  ·exact hk.elim
 unfold AGa at hk
 split at hk
 ·rename_i c ho
  exact AF2 H ho hk
 ·rename_i t l c ho
  exact Fs (by simp only[execOp,ho]) (BB H (BB H hk))
 ·rename_i t x i ok ho
  exact Fs (by simp only[execOp,ho]) (BB H (BB H hk))
 ·rename_i t m k x ho
  exact YV (by simp only[execOp,ho]) (BB H (BB H (BB H hk)))
 ·rename_i t m k ho
  refine Uf (by simp only[execOp,ho]) (BB H (BB H hk)) ?_
  rintro v h' ⟨k,u,rfl,h⟩
  exact Jk (Jk h)
 ·rename_i t m s x ho
  exact YV (by simp only[execOp,ho]) (BB H (BB H (BB H hk)))
 ·rename_i s d x ho
  exact Fs (by simp only[execOp,ho]) (BB H hk)
 ·rename_i op t x y _ ho
  exact Fs (by simp only[execOp,ho]) (BB H (BB H hk))
 ·rename_i x t u ok ho
  exact Fs (by simp only[execOp,ho]) (BB H hk)
 ·rename_i t x y ho
  exact YV (by simp only[execOp,ho]) (AEd (BB H (BB H hk)))
 ·rename_i t x ho
  intro n
  have hk2:=PE (BB H hk)
  unfold EV
  simp only[execOp,ho]
  rw[YP AK5]
  exact⟨_,_,rfl,hk2⟩
 ·rename_i t len parts ho
  intro n
  unfold WZ at hk
  split at hk
  ·rename_i el ht
   have hk2:=Ol H hk
   split at hk2
   ·rename_i cells hc
    unfold EV
    simp only[execOp,ho]
    rw[YP (ALq (A:=A) (n:=n) (h:=h) ht (cells:=cells) (by rw[← hc];congr 1;simp))]
    exact⟨_,_,rfl,hk2⟩
   ·exact hk2.elim
  ·exact hk.elim
 ·rename_i t x ho
  refine Uf (by simp only[execOp,ho]) (BB H hk) ?_
  rintro v h' ⟨b,rfl,h⟩
  exact h
 ·rename_i x s ho
  refine Uf (by simp only[execOp,ho]) (BB H hk) ?_
  rintro v h' (⟨rfl,h⟩|⟨k,u,rfl,h⟩)
  ·exact h
  ·exact Jk (Jk h)
 ·rename_i x ho
  refine Uf (by simp only[execOp,ho]) (BB H hk) ?_
  rintro v h' ⟨k,u,rfl,h⟩
  exact Jk (Jk h)
 ·rename_i ho;exact hvc (fun cs b hc=>by rw[ho] at hc;cases hc) hk
 ·rename_i ho;exact hvc (fun cs b hc=>by rw[ho] at hc;cases hc) hk
 ·exact hk.elim
end
def obl:List Prop→Prop→Prop
 | [],K=>K
 |p::l,K=>p∧obl l K
theorem Jn: ∀ {l:List Prop} {K:Prop},obl l K→(∀ p∈l,p)∧K
 | [],_,h=>⟨fun _ hp=>(by cases hp),h⟩
 |p::l,_,⟨hp,h⟩=>by
  obtain⟨h1,h2⟩:=Jn h
  refine⟨fun q hq=>?_,h2⟩
  rcases List.mem_cons.1 hq with rfl|hq
  ·exact hp
  ·exact h1 q hq
def AJa(ord:Nat→Nat→Bool)(fl:Bool)(i:Nat)(st:Heap→Prop)(pres:List (Nat×Heap)):List Prop:=
 match fl with|true=>(pres.filter fun p=>un ord i p.1).map fun p=>st p.2|false=> []
def AHI(ord:Nat→Nat→Bool)(fl:Bool)(i:Nat)(h:Heap)(pend:List (Nat×(Heap→Prop))):List Prop:=
 match fl with|true=>(pend.filter fun p=>un ord i p.1).map fun p=>p.2 h|false=> []
def ADB(ops:Array Oper)(o:Oper)(e:Env)(X Y:Env→Prop):Prop:=
 match o.guard with
 |none=>X e
 |some (j,want)=>match ops[j]? with
  |some oj=>match oj.dst with
   |some d=>match e.get d with
    |some (.bool g)=>match want with
     |true=>PIf g (X (e.set d (.bool true))) (Y (e.set d (.bool false)))
     |false=>PIf g (Y (e.set d (.bool true))) (X (e.set d (.bool false)))
    |some _=>Y e
    |none=>False
   |none=>False
  |none=>False
def Lp(A:Amb)(P:Program)(N:Nat)(ops:Array Oper)(ord:Nat→Nat→Bool)(fl:Bool):
  List Oper→Nat→Env→Heap→List (Nat×(Heap→Prop))→List (Nat×Heap)→(Env→Heap→Prop)→Prop
 | [],_,e,h,_,_,k=>k e h
 |o::rest,i,e,h,pend,pres,k=>
  match AG3 N o.dst with
  |false=>False
  |true=>ADB ops o e
   (fun e=>match cls P o with
    | .pure=>AG2 P o e fun v=>Lp A P N ops ord fl rest (i+1) (e.put o.dst v) h pend pres k
    | .load=>AG9 P o e h fun v st=>obl (AJa ord fl i st pres) (Lp A P N ops ord fl rest (i+1) (e.put o.dst v) h (match fl with|true=>(i,st)::pend|false=>pend) pres k)
    | .eff=>AGa A P ops o e h fun v h'=>obl (AHI ord fl i h' pend) (Lp A P N ops ord fl rest (i+1) (e.put o.dst v) h' pend (match fl with|true=>(i,h)::pres|false=>pres) k))
   (fun e=>Lp A P N ops ord fl rest (i+1) (e.put o.dst undef) h pend pres k)
theorem Qj {ops:Array Oper}{o:Oper}{N:Nat}{a:Act}{e:Env}(H:Fits N a e){X Y:Env→Prop}(h:ADB ops o e X Y):
  (Region.wanted o (yielded ops a.tmps)=true∧ ∃e',Fits N a e'∧X e')∨(Region.wanted o (yielded ops a.tmps)=false∧ ∃e',Fits N a e'∧Y e'):=by
 unfold ADB at h
 split at h
 ·rename_i hg
  exact .inl ⟨by simp[Region.wanted,hg],e,H,h⟩
 ·rename_i j want hg
  split at h
  ·rename_i oj hoj
   split at h
   ·rename_i d hd
    split at h
    ·rename_i g hgv
     have hv:=H.get d _ hgv
     have hy:yielded ops a.tmps j=some g:=by simp[yielded,hoj,hd,hv]
     have hkn:Fits N a (e.set d (.bool g)):=H.know hv
     split at h
     ·obtain⟨h1,h2⟩:=PIf.mk h
      cases g with
      |true=>exact .inl ⟨by simp[Region.wanted,hg,hy],_,hkn,h1 rfl⟩
      |false=>exact .inr ⟨by simp[Region.wanted,hg,hy],_,hkn,h2 rfl⟩
     ·obtain⟨h1,h2⟩:=PIf.mk h
      cases g with
      |true=>exact .inr ⟨by simp[Region.wanted,hg,hy],_,hkn,h1 rfl⟩
      |false=>exact .inl ⟨by simp[Region.wanted,hg,hy],_,hkn,h2 rfl⟩
    ·rename_i v hne hgv
     have hv:=H.get d _ hgv
     refine .inr ⟨?_,e,H,h⟩
     have hy:yielded ops a.tmps j=none:=by
      simp only[yielded,hoj,hd,hv,Option.bind_some]
      cases v<;>first|rfl|exact absurd rfl (hne _)
     simp[Region.wanted,hg,hy]
    ·exact h.elim
   ·exact h.elim
  ·exact h.elim
structure Jr (W:List Nat) (a a':Act):Prop where
 get: ∀t,t∉W→a'.tmps[t]? =a.tmps[t]?
 ds:a'.defers=a.defers
theorem Jr.refl(W:List Nat)(a:Act):Jr W a a:=⟨fun _ _=>rfl,rfl⟩
theorem Jr.put {W:List Nat}{a a':Act}(h:Jr W a a'){d:Option Tmp}{v:Value}(hd: ∀t,d=some t→t∈W):Jr W a (a'.put d v):=by
 cases d with
 |none=>exact h
 |some d=>
  refine⟨fun t ht=>?_,h.ds⟩
  have:d≠t:=fun e=>ht (e▸hd d rfl)
  simp only[Act.put]
  rw[Array.getElem?_setIfInBounds_ne this]
  exact h.get t ht
def dstsOf(l:List Oper):List Nat:=l.filterMap (·.dst)
theorem AC2 {l:List Oper}{o:Oper}(h:o∈l){d:Nat}(hd:o.dst=some d):d∈dstsOf l:=List.mem_filterMap.2 ⟨o,h,hd⟩
section
variable {P : Program} {A : Amb} {r : Option Nat} {m N : Nat} {ops : Array Oper} {ord : Nat → Nat → Bool}
theorem Ms {o:Oper}(h:cls P o≠ .eff):Dx o:=fun cs b hc=>h (by simp[cls,hc])
theorem Un {o:Oper}(h:cls P o≠ .eff):F7 o=true:=by
 unfold F7
 split
 ·rename_i hc;exact absurd (by simp[cls,hc]) h
 ·rename_i hc;exact absurd (by simp[cls,hc]) h
 ·rfl
theorem AC3 {ops:Array Oper}{o:Oper}{e:Env}{h:Heap}{K:Value→Heap→Prop}(hk:AGa A P ops o e h K):F7 o=true:=by
 unfold F7
 split
 ·rename_i hc;simp[AGa,hc] at hk
 ·rename_i hc;simp[AGa,hc] at hk
 ·rfl
theorem Wm {k:Env→Heap→Prop}{Q:Exit→Act→World→Prop}: ∀(l:List Oper) (i:Nat) (e:Env) (h:Heap) (a:Act) (n:Nat),Lp A P N ops ord false l i e h [] [] k→Fits N a e→
  (∀ a' e' h' n',Fits N a' e'→Jr (dstsOf l) a a'→k e' h'→Q .normal a' (A.at h' n'))→wpListIn (Fw r) m P ops Q l a (A.at h n)
 | [],_,e,h,a,n,hk,H,hQ=>hQ a e h n H (Jr.refl _ _) hk
 |o::rest,i,e,h,a,n,hk,H,hQ=>by
  unfold Lp at hk
  split at hk
  ·exact hk.elim
  ·rename_i hd
   have next: ∀(v:Value) (e':Env) (h':Heap) (n':Nat),Fits N a e'→Lp A P N ops ord false rest (i+1) (e'.put o.dst v) h' [] [] k→wpListIn (Fw r) m P ops Q rest (a.put o.dst v) (A.at h' n'):=by
    intro v e' h' n' H' hs
    refine Wm rest (i+1) _ h' _ n' hs (H'.put hd) ?_
    intro a2 e2 h2 n2 H2 hkp hk2
    refine hQ a2 e2 h2 n2 H2 ⟨fun t ht=>?_,hkp.ds.trans ?_⟩ hk2
    ·have h1:t∉dstsOf rest:=fun hm=>ht (by simp only[dstsOf,List.filterMap_cons];split<;>simp_all [dstsOf])
     rw[hkp.get t h1]
     exact(Jr.put (W:=dstsOf (o::rest)) (Jr.refl _ a) (fun t ht=>AC2 List.mem_cons_self ht)).get t ht
    ·cases o.dst<;>rfl
   unfold wpListIn
   rcases Qj H hk with⟨hw,e',H',hk⟩|⟨hw,e',H',hk⟩
   ·rw [if_pos hw]
    split at hk
    ·rename_i hc
     have hs:Dx o:=Ms (P:=P) (by rw[hc];intro x;cases x)
     obtain⟨v,hv,hk⟩:=Sw H' hs hk
     refine EV.wpIn (Un (P:=P) (by rw[hc];intro x;cases x)) ?_
     unfold EV
     rw[hv]
     exact next v e' h n H' hk
    ·rename_i hc
     obtain⟨v,st,hv,hst,hk⟩:=load_sound (A:=A) H' hk
     refine EV.wpIn (Un (P:=P) (by rw[hc];intro x;cases x)) ?_
     unfold EV
     rw[hv h hst n]
     exact next v e' h n H' (Jn hk).2
    ·refine EV.wpIn (AC3 hk) ((Vz H' hk n).mono ?_)
     rintro v w' ⟨h',n',rfl,hk⟩
     exact next v e' h' n' H' (Jn hk).2
   ·rw [if_neg (by rw[hw];simp)]
    exact⟨fun _ _=>trivial,next undef e' h n H' hk⟩
def Nf(P:Program)(o:Oper):Bool:=match cls P o with| .eff=>false|_=>true
theorem NZ {k:Env→Heap→Prop}{a0:Act}{Q:Act→Heap→Prop}(hQ: ∀a' e' h',Fits N a' e'→Jr (dstsOf ops.toList) a0 a'→k e' h'→Q a' h'):
  ∀(l:List Oper) (i:Nat) (e:Env) (h:Heap) (a:Act) (pend:List (Nat×(Heap→Prop))) (pres:List (Nat×Heap)) (pend':List (Nat×(Heap→Prop))),
   (∀ j,l[j]? =ops[i+j]?)→Lp A P N ops ord true l i e h pend pres k→Fits N a e→Jr (dstsOf ops.toList) a0 a→
   (∀ p'∈pend',(∀ h,p'.2 h)∨ ∃p∈pend,p.1=p'.1∧ ∀h,p.2 h→p'.2 h)→FA P A ops (Nf P) ord Q (List.range' i l.length) a h pend' pres
 | [],_,e,h,a,pend,pres,pend',_,hk,H,hkp,_=>hQ a e h H hkp hk
 |o::rest,i,e,h,a,pend,pres,pend',hl,hk,H,hkp,hpp=>by
  have ho:ops[i]? =some o:=by simpa using(hl 0).symm
  have hl': ∀j,rest[j]? =ops[i+1+j]? :=fun j=>by have:=hl (j+1);simpa [Nat.add_assoc,Nat.add_comm 1 j] using this
  have hmem:o∈ops.toList:=by rw[Array.mem_toList_iff];exact Array.mem_of_getElem? ho
  unfold Lp at hk
  split at hk
  ·exact hk.elim
  ·rename_i hd
   have hkp': ∀v,Jr (dstsOf ops.toList) a0 (a.put o.dst v):=fun v=>hkp.put (fun t ht=>AC2 hmem ht)
   rw[List.length_cons,List.range'_succ]
   unfold FA
   rw[ho]
   simp only
   rcases Qj H hk with⟨hw,e',H',hk⟩|⟨hw,e',H',hk⟩
   ·rw [if_pos hw]
    split at hk
    ·rename_i hc
     have hq:Nf P o=true:=by simp[Nf,hc]
     rw[if_pos hq]
     have hs:Dx o:=Ms (P:=P) (by rw[hc];intro x;cases x)
     obtain⟨v,hv,hk⟩:=Sw H' hs hk
     refine⟨v,fun n=>hv _,fun _ _ _ n=>hv _,?_⟩
     refine NZ hQ rest (i+1) _ h _ pend pres _ hl' hk (H'.put hd) (hkp' v) ?_
     intro p' hp'
     rcases List.mem_cons.1 hp' with rfl|hp'
     ·exact .inl fun h n=>hv _
     ·exact hpp p' hp'
    ·rename_i hc
     have hq:Nf P o=true:=by simp[Nf,hc]
     rw[if_pos hq]
     obtain⟨v,st,hv,hst,hk⟩:=load_sound (A:=A) H' hk
     obtain⟨hob,hk⟩:=Jn hk
     refine⟨v,hv h hst,fun p hp hu=>hv p.2 (hob _ (List.mem_map.2 ⟨p,List.mem_filter.2 ⟨hp,hu⟩,rfl⟩)),?_⟩
     refine NZ hQ rest (i+1) _ h _ ((i,st)::pend) pres _ hl' hk (H'.put hd) (hkp' v) ?_
     intro p' hp'
     rcases List.mem_cons.1 hp' with rfl|hp'
     ·exact .inr ⟨(i,st),List.mem_cons_self,rfl,hv⟩
     ·rcases hpp p' hp' with h1|⟨p,hp,h1,h2⟩
      ·exact .inl h1
      ·exact .inr ⟨p,List.mem_cons_of_mem _ hp,h1,h2⟩
    ·rename_i hc
     have hq: ¬Nf P o=true:=by simp[Nf,hc]
     rw[if_neg hq]
     intro n
     refine(Vz H' hk n).mono ?_
     rintro v w' ⟨h',n',rfl,hk⟩
     obtain⟨hob,hk⟩:=Jn hk
     refine⟨h',n',rfl,?_,?_⟩
     ·intro p' hp' hu
      rcases hpp p' hp' with h1|⟨p,hp,h1,h2⟩
      ·exact h1 h'
      ·exact h2 h' (hob _ (List.mem_map.2 ⟨p,List.mem_filter.2 ⟨hp,by rw[h1];exact hu⟩,rfl⟩))
     ·exact NZ hQ rest (i+1) _ h' _ pend _ _ hl' hk (H'.put hd) (hkp' v) hpp
   ·rw [if_neg (by rw[hw];simp)]
    exact NZ hQ rest (i+1) _ h _ pend pres _ hl' hk (H'.put hd) (hkp' undef) hpp
abbrev Ke:=Env→Heap→List (Nat×(Heap→Prop))→List (Nat×Heap)→Prop
def AC6(A:Amb)(P:Program)(N:Nat)(ops:Array Oper)(ord:Nat→Nat→Bool)(i:Nat)(K:Ke):Ke:=fun e h pend pres=>
 match ops[i]? with
 |none=>False
 |some o=>match AG3 N o.dst with
  |false=>False
  |true=>ADB ops o e
   (fun e=>match cls P o with
    | .pure=>AG2 P o e fun v=>K (e.put o.dst v) h pend pres
    | .load=>AG9 P o e h fun v st=>obl (AJa ord true i st pres) (K (e.put o.dst v) h ((i,st)::pend) pres)
    | .eff=>AGa A P ops o e h fun v h'=>obl (AHI ord true i h' pend) (K (e.put o.dst v) h' pend ((i,h)::pres)))
   (fun e=>K (e.put o.dst undef) h pend pres)
def AKA(X:Nat→Prop):List Nat→Prop
 | []=>True
 | [i]=>X i
 |i::l=>X i∧AKA X l
theorem ABy {X:Nat→Prop}: ∀ {l:List Nat},AKA X l→ ∀i∈l,X i
 | [],_,_,h=>by cases h
 | [j],h,i,hi=>by
  have:i=j:=by simpa using hi
  subst this;exact h
 |j::x::l,h,i,hi=>by
  rcases List.mem_cons.1 hi with rfl|hi
  ·exact h.1
  ·exact ABy h.2 i hi
def AGx(A:Amb)(P:Program)(N:Nat)(ops:Array Oper)(ord:Nat→Nat→Bool)(k:Env→Heap→Prop):Nat→List Nat→Ke
 |_,[]=>fun e h _ _=>k e h
 |0,_::_=>fun _ _ _ _=>False
 |f+1,x::l=>fun e h pend pres=>
  match ABH ops (Nf P) ord (x::l) with
  |some i=>AC6 A P N ops ord i (AGx A P N ops ord k f ((x::l).erase i)) e h pend pres
  |none=>AKA (fun i=>AC6 A P N ops ord i (AGx A P N ops ord k f ((x::l).erase i)) e h pend pres) ((x::l).filter (Ng ord (x::l)))
def AJu(pend pend':List (Nat×(Heap→Prop))):Prop:= ∀p'∈pend',(∀ h,p'.2 h)∨ ∃p∈pend,p.1=p'.1∧ ∀h,p.2 h→p'.2 h
theorem UX {a0:Act}{i:Nat}{K:Ke}{K':Kt}
  (hK: ∀e h a pend pres pend',K e h pend pres→Fits N a e→Jr (dstsOf ops.toList) a0 a→AJu pend pend'→K' a h pend' pres)
  {e:Env} {h:Heap} {a:Act} {pend:List (Nat×(Heap→Prop))} {pres:List (Nat×Heap)} {pend':List (Nat×(Heap→Prop))}
  (hk:AC6 A P N ops ord i K e h pend pres) (H:Fits N a e) (hkp:Jr (dstsOf ops.toList) a0 a) (hpp:AJu pend pend'):Dj P A ops (Nf P) ord i K' a h pend' pres:=by
 unfold AC6 at hk
 unfold Dj
 split at hk
 ·exact hk.elim
 ·rename_i o ho
  have hmem:o∈ops.toList:=by rw[Array.mem_toList_iff];exact Array.mem_of_getElem? ho
  rw[ho]
  simp only
  split at hk
  ·exact hk.elim
  ·rename_i hd
   have hkp': ∀v,Jr (dstsOf ops.toList) a0 (a.put o.dst v):=fun v=>hkp.put (fun t ht=>AC2 hmem ht)
   rcases Qj H hk with⟨hw,e',H',hk⟩|⟨hw,e',H',hk⟩
   ·rw [if_pos hw]
    split at hk
    ·rename_i hc
     have hq:Nf P o=true:=by simp[Nf,hc]
     rw[if_pos hq]
     have hs:Dx o:=Ms (P:=P) (by rw[hc];intro x;cases x)
     obtain⟨v,hv,hk⟩:=Sw H' hs hk
     refine⟨v,fun n=>hv _,fun _ _ _ n=>hv _,?_⟩
     refine hK _ _ _ _ _ _ hk (H'.put hd) (hkp' v) ?_
     intro p' hp'
     rcases List.mem_cons.1 hp' with rfl|hp'
     ·exact .inl fun h n=>hv _
     ·exact hpp p' hp'
    ·rename_i hc
     have hq:Nf P o=true:=by simp[Nf,hc]
     rw[if_pos hq]
     obtain⟨v,st,hv,hst,hk⟩:=load_sound (A:=A) H' hk
     obtain⟨hob,hk⟩:=Jn hk
     refine⟨v,hv h hst,fun p hp hu=>hv p.2 (hob _ (List.mem_map.2 ⟨p,List.mem_filter.2 ⟨hp,hu⟩,rfl⟩)),?_⟩
     refine hK _ _ _ _ _ _ hk (H'.put hd) (hkp' v) ?_
     intro p' hp'
     rcases List.mem_cons.1 hp' with rfl|hp'
     ·exact .inr ⟨(i,st),List.mem_cons_self,rfl,hv⟩
     ·rcases hpp p' hp' with h1|⟨p,hp,h1,h2⟩
      ·exact .inl h1
      ·exact .inr ⟨p,List.mem_cons_of_mem _ hp,h1,h2⟩
    ·rename_i hc
     have hq: ¬Nf P o=true:=by simp[Nf,hc]
     rw[if_neg hq]
     intro n
     refine(Vz H' hk n).mono ?_
     rintro v w' ⟨h',n',rfl,hk⟩
     obtain⟨hob,hk⟩:=Jn hk
     refine⟨h',n',rfl,?_,?_⟩
     ·intro p' hp' hu
      rcases hpp p' hp' with h1|⟨p,hp,h1,h2⟩
      ·exact h1 h'
      ·exact h2 h' (hob _ (List.mem_map.2 ⟨p,List.mem_filter.2 ⟨hp,by rw[h1];exact hu⟩,rfl⟩))
     ·exact hK _ _ _ _ _ _ hk (H'.put hd) (hkp' v) hpp
   ·rw [if_neg (by rw[hw];simp)]
    exact hK _ _ _ _ _ _ hk (H'.put hd) (hkp' undef) hpp
theorem ADE {k:Env→Heap→Prop}{a0:Act}{Q:Act→Heap→Prop}(hQ: ∀a' e' h',Fits N a' e'→Jr (dstsOf ops.toList) a0 a'→k e' h'→Q a' h'):
  ∀(f:Nat) (l:List Nat) (e:Env) (h:Heap) (a:Act) (pend:List (Nat×(Heap→Prop))) (pres:List (Nat×Heap)) (pend':List (Nat×(Heap→Prop))),
   AGx A P N ops ord k f l e h pend pres→Fits N a e→Jr (dstsOf ops.toList) a0 a→AJu pend pend'→FT P A ops (Nf P) ord Q f l a h pend' pres
 |_,[],e,h,a,pend,pres,pend',hk,H,hkp,_=>by
  unfold AGx at hk
  unfold FT
  exact hQ a e h H hkp hk
 |0,_::_,e,h,a,pend,pres,pend',hk,_,_,_=>by
  unfold AGx at hk
  exact hk.elim
 |f+1,x::l,e,h,a,pend,pres,pend',hk,H,hkp,hpp=>by
  unfold AGx at hk
  unfold FT
  split
  ·rename_i i hi
   rw[hi] at hk
   exact UX (fun e h a pend pres pend' hk H hkp hpp=>ADE hQ f _ e h a pend pres pend' hk H hkp hpp) hk H hkp hpp
  ·rename_i hi
   rw[hi] at hk
   intro i hm hn
   exact UX (fun e h a pend pres pend' hk H hkp hpp=>ADE hQ f _ e h a pend pres pend' hk H hkp hpp) (ABy hk i (List.mem_filter.2 ⟨hm,hn⟩)) H hkp hpp
def Xp(A:Amb)(P:Program)(N:Nat)(ops:Array Oper)(draw:Bool)(e:Env)(h:Heap)(k:Env→Heap→Prop):Prop:=
 match draw with
 |false=>Lp A P N ops (fun _ _=>false) false ops.toList 0 e h [] [] k
 |true=>match Zb ops (Nf P) (ABZ ops) with
  |true=>Lp A P N ops (ABZ ops) true ops.toList 0 e h [] [] k
  |false=>match ACt ops (Nf P) (ABZ ops) with
   |true=>AGx A P N ops (ABZ ops) k ops.size (List.range ops.size) e h [] []
   |false=>False
theorem ADC {id:Nat}{draw:Bool}{e:Env}{h:Heap}{k:Env→Heap→Prop}{a:Act}{n:Nat}{Q:Exit→Act→World→Prop}(hm:P.follows .mixedOrders=true)
  (hk:Xp A P N ops draw e h k) (H:Fits N a e) (hQ: ∀a' e' h' n',Fits N a' e'→Jr (dstsOf ops.toList) a a'→k e' h'→Q .normal a' (A.at h' n')):
  (Code.region id ops draw).wpIn (Fw r) m P Q a (A.at h n):=by
 unfold Xp at hk
 cases draw with
 |false=>exact wpIn_region_list (Wm _ _ _ _ _ _ hk H hQ)
 |true=>
  simp only[] at hk
  split at hk
  ·rename_i hfl
   refine UQ (qb:=Nf P) (ord:=ABZ ops) (Q:=fun a' h'=> ∃e',Fits N a' e'∧Jr (dstsOf ops.toList) a a'∧k e' h') ?_ hm hfl ?_
   ·rintro a' h' n' ⟨e',h1,h2,h3⟩
    exact hQ a' e' h' n' h1 h2 h3
   ·have:=NZ (Q:=fun a' h'=> ∃e',Fits N a' e'∧Jr (dstsOf ops.toList) a a'∧k e' h') (a0:=a) (fun a' e' h' h1 h2 h3=>⟨e',h1,h2,h3⟩) ops.toList 0 e h a [] [] []
     (fun j=>by simp) hk H (Jr.refl _ _) (fun _ hp=>by cases hp)
    rw[List.range_eq_range']
    simpa using this
  ·split at hk
   ·rename_i hfl
    refine Vg (qb:=Nf P) (ord:=ABZ ops) (Q:=fun a' h'=> ∃e',Fits N a' e'∧Jr (dstsOf ops.toList) a a'∧k e' h') ?_ hm hfl ?_
    ·rintro a' h' n' ⟨e',h1,h2,h3⟩
     exact hQ a' e' h' n' h1 h2 h3
    ·exact ADE (Q:=fun a' h'=> ∃e',Fits N a' e'∧Jr (dstsOf ops.toList) a a'∧k e' h') (a0:=a) (fun a' e' h' h1 h2 h3=>⟨e',h1,h2,h3⟩) _ _ e h a [] [] []
      hk H (Jr.refl _ _) (fun _ hp=>by cases hp)
   ·exact hk.elim
end
end Go.Lf

/-
 LIFT, part H: a function's formula, and that it gives the function's contract.
-/
namespace Go.Lf
inductive Lv where
 |one (s:Sc)
 |agg (l:List Sc)
def Tys:List Sc→Type
 | []=>Unit
 |s::l=>s.Ty×Tys l
def vals:(l:List Sc)→Tys l→List Value
 | [],_=> []
 |s::l,x=>s.val x.1::vals l x.2
def Lv.Ty:Lv→Type
 | .one s=>s.Ty
 | .agg l=>Tys l
def Lv.val:(v:Lv)→v.Ty→Value
 | .one s,x=>s.val x
 | .agg l,x=> .agg (vals l x).toArray
def Sc.un(v:Value):(s:Sc)→(s.Ty→Prop)→Prop
 | .int k,K=>match v with| .int k' n=>(match decide (k'=k) with|true=>K n|false=>False)|_=>False
 | .bool,K=>match v with| .bool b=>K b|_=>False
 | .str,K=>match v with| .string s=>K s|_=>False
 | .ptr,K=>match v with| .pointer p=>K p|_=>False
 | .sl,K=>match v with| .slice p l c=>K ⟨p,l,c⟩|_=>False
 | .map,K=>match v with| .map r=>K r|_=>False
 | .any,K=>K v
 | .flt k,K=>match v with| .float k' n=>(match decide (k'=k) with|true=>K n|false=>False)|_=>False
 | .cpx k,K=>match v with| .complex k' n m=>(match decide (k'=k) with|true=>K (n,m)|false=>False)|_=>False
theorem Sc.un_sound {v:Value}: ∀ {s:Sc} {K:s.Ty→Prop},s.un v K→ ∃x,v=s.val x∧K x
 | .int k,K,h=>by
  cases v<;>simp only[Sc.un] at h
  rename_i k' n
  split at h
  ·rename_i hd
   have hd:=of_decide_eq_true hd
   subst hd
   exact⟨n,rfl,h⟩
  ·exact h.elim
 | .bool,K,h=>by cases v<;>simp only[Sc.un] at h;exact⟨_,rfl,h⟩
 | .str,K,h=>by cases v<;>simp only[Sc.un] at h;exact⟨_,rfl,h⟩
 | .ptr,K,h=>by cases v<;>simp only[Sc.un] at h;exact⟨_,rfl,h⟩
 | .sl,K,h=>by cases v<;>simp only[Sc.un] at h;exact⟨_,rfl,h⟩
 | .map,K,h=>by cases v<;>simp only[Sc.un] at h;exact⟨_,rfl,h⟩
 | .any,K,h=>⟨v,rfl,h⟩
 | .flt k,K,h=>by
  cases v<;>simp only[Sc.un] at h
  rename_i k' n
  split at h
  ·rename_i hd
   have hd:=of_decide_eq_true hd
   subst hd
   exact⟨n,rfl,h⟩
  ·exact h.elim
 | .cpx k,K,h=>by
  cases v<;>simp only[Sc.un] at h
  rename_i k' n m
  split at h
  ·rename_i hd
   have hd:=of_decide_eq_true hd
   subst hd
   exact⟨(n,m),rfl,h⟩
  ·exact h.elim
def AKJ:(l:List Sc)→List Value→(Tys l→Prop)→Prop
 | [],[],K=>K ()
 |s::l,v::vs,K=>s.un v fun x=>AKJ l vs fun xs=>K (x,xs)
 | [],_::_,_=>False
 |_::_,[],_=>False
theorem Wd: ∀ {l:List Sc} {vs:List Value} {K:Tys l→Prop},AKJ l vs K→ ∃xs,vs=vals l xs∧K xs
 | [],[],_,h=>⟨(),rfl,h⟩
 |s::l,v::vs,K,h=>by
  obtain⟨x,hx,h1⟩:=Sc.un_sound h
  obtain⟨xs,hxs,h2⟩:=Wd h1
  exact⟨(x,xs),by rw[hx,hxs];rfl,h2⟩
 | [],_::_,_,h=>h.elim
 |_::_,[],_,h=>h.elim
def Lv.un(v:Value):(lv:Lv)→(lv.Ty→Prop)→Prop
 | .one s,K=>s.un v K
 | .agg l,K=>match v with| .agg cs=>AKJ l cs.toList K|_=>False
theorem Lv.un_sound {v:Value}: ∀ {lv:Lv} {K:lv.Ty→Prop},lv.un v K→ ∃x,v=lv.val x∧K x
 | .one s,K,h=>Sc.un_sound h
 | .agg l,K,h=>by
  cases v<;>simp only[Lv.un] at h
  rename_i cs
  obtain⟨xs,hx,h⟩:=Wd h
  refine⟨xs,?_,h⟩
  simp only[Lv.val]
  rw[← hx]
abbrev Live:=List (Nat×Lv)
def TyL:Live→Type
 | []=>Unit
 |x::r=>x.2.Ty×TyL r
def Kb:(L:Live)→Env→(TyL L→Prop)→Prop
 | [],_,K=>K ()
 |x::r,e,K=>match e.get x.1 with|some v=>x.2.un v fun y=>Kb r e fun ys=>K (y,ys)|none=>False
def JQ:(L:Live)→TyL L→Nat→Option Value
 | [],_,_=>none
 |x::r,xs,t=>bif Nat.beq t x.1 then some (x.2.val xs.1) else JQ r xs.2 t
def ADk(t:Nat):List Nat→Bool
 | []=>false
 |x::r=>bif Nat.beq t x then true else ADk t r
def Ev(L:Live)(kept:List Nat)(e:Env)(xs:TyL L):Env:=
 {get:=fun t=>match JQ L xs t with|some v=>some v|none=>bif ADk t kept then e.get t else none,ds:=e.ds}
def KV(kept W:List Nat):Bool:=match kept with| []=>true|x::r=>bif ADk x W then false else KV r W
theorem UY {t:Nat}: ∀ {l:List Nat},ADk t l=true↔t∈l
 | []=>by simp[ADk]
 |x::r=>by
  unfold ADk
  by_cases h:t=x
  ·subst h;simp
  ·rw [Qs h];simp only[cond_false,List.mem_cons,h,false_or];exact UY
theorem Py {W:List Nat}: ∀ {kept:List Nat},KV kept W=true→ ∀t∈kept,t∉W
 | [],_,_,h=>by cases h
 |x::r,hk,t,ht=>by
  unfold KV at hk
  cases hm:ADk x W with
  |true=>rw[hm] at hk;cases hk
  |false=>
   rw[hm] at hk
   rcases List.mem_cons.1 ht with rfl|ht
   ·intro hw;rw[UY.2 hw] at hm;cases hm
   ·exact Py hk t ht
theorem Gy {e:Env}: ∀ {L:Live} {K:TyL L→Prop},Kb L e K→ ∃xs,(∀ t v,JQ L xs t=some v→e.get t=some v)∧K xs
 | [],K,h=>⟨(),fun _ _ hj=>(by cases hj),h⟩
 |(t0,lv)::r,K,h=>by
  unfold Kb at h
  split at h
  ·rename_i v hv
   obtain⟨x,hx,h0⟩:=Lv.un_sound h
   obtain⟨xs,h1,h2⟩:=Gy h0
   refine⟨(x,xs),fun t v hj=>?_,h2⟩
   change (bif Nat.beq t t0 then some (lv.val x) else JQ r xs t)=some v at hj
   by_cases ht:t=t0
   ·subst ht
    have hb:Nat.beq t t=true:=by simp
    rw[hb] at hj
    rw[← hj,cond_true,←hx]
    exact hv
   ·rw [Qs ht] at hj
    exact h1 t v hj
  ·exact h.elim
theorem AFQ {L:Live}{kept:List Nat}{e:Env}{xs:TyL L}{t:Nat}{v:Value}(h:(Ev L kept e xs).get t=some v):
  JQ L xs t=some v∨(JQ L xs t=none∧t∈kept∧e.get t=some v):=by
 unfold Ev at h
 simp only at h
 split at h
 ·rename_i u hu;rw[hu];exact .inl h
 ·rename_i hu
  cases hm:ADk t kept with
  |false=>rw[hm] at h;cases h
  |true=>rw[hm] at h;exact .inr ⟨hu,UY.1 hm,h⟩
theorem ADA {L:Live}{xs ys:TyL L}{t:Nat}(h:JQ L xs t=none):JQ L ys t=none:=by
 induction L with
 |nil=>rfl
 |cons x r ih=>
  unfold JQ at h ⊢
  by_cases ht:t=x.1
  ·subst ht;simp at h
  ·rw [Qs ht] at h ⊢;exact ih h
structure EG (W:List Nat) (nd:Bool) (a a':Act):Prop where
 get: ∀t,t∉W→a'.tmps[t]? =a.tmps[t]?
 ds:nd=true→a'.defers=a.defers
theorem EG.refl {W:List Nat}{nd:Bool}{a:Act}:EG W nd a a:=⟨fun _ _=>rfl,fun _=>rfl⟩
theorem EG.trans {W W' V:List Nat}{nd nd' md:Bool}{a b c:Act}(h:EG W nd a b)(h':EG W' nd' b c)(h1: ∀t∈W,t∈V)(h2: ∀t∈W',t∈V)(h3:md=true→nd=true∧nd'=true):EG V md a c:=
 ⟨fun t ht=>(h'.get t fun hm=>ht (h2 t hm)).trans (h.get t fun hm=>ht (h1 t hm)),fun hm=>(h'.ds (h3 hm).2).trans (h.ds (h3 hm).1)⟩
theorem EG.weak {W V:List Nat}{nd md:Bool}{a b:Act}(h:EG W nd a b)(h1: ∀t∈W,t∈V)(h3:md=true→nd=true):EG V md a b:=
 ⟨fun t ht=>h.get t fun hm=>ht (h1 t hm),fun hm=>h.ds (h3 hm)⟩
theorem Fits.join {N:Nat}{a a':Act}{e e':Env}(H:Fits N a e)(H':Fits N a' e'){W:List Nat}{nd:Bool}(hnd:nd=true)(hkp:EG W nd a a'){L:Live}{kept:List Nat}(hk:KV kept W=true){xs:TyL L}
  (hx: ∀t v,JQ L xs t=some v→e'.get t=some v):Fits N a' (Ev L kept e xs):=by
 refine⟨H'.size,fun t v hv=>?_,(hkp.ds hnd).trans H.ds⟩
 rcases AFQ hv with h|⟨_,hm,h⟩
 ·exact H'.get t v (hx t v h)
 ·rw [hkp.get t (Py hk t hm)]
  exact H.get t v h
theorem Fits.again {N:Nat}{a a':Act}{e e':Env}{L:Live}{kept:List Nat}{xs ys:TyL L}(H:Fits N a (Ev L kept e xs))(H':Fits N a' e'){W:List Nat}{nd:Bool}(hnd:nd=true)(hkp:EG W nd a a')
  (hk:KV kept W=true) (hy: ∀t v,JQ L ys t=some v→e'.get t=some v):Fits N a' (Ev L kept e ys):=by
 refine⟨H'.size,fun t v hv=>?_,(hkp.ds hnd).trans H.ds⟩
 rcases AFQ hv with h|⟨hn,hm,h⟩
 ·exact H'.get t v (hy t v h)
 ·rw [hkp.get t (Py hk t hm)]
  refine H.get t v ?_
  unfold Ev
  simp only
  rw[ADA hn,UY.2 hm]
  exact h
inductive Ann where
 |none
 |reg (L:Live) (kept:List Nat)
 |seq (x y:Ann)
 |seqJ (L:Live) (kept:List Nat) (x y:Ann)
 |cond (x y:Ann)
 |block (x:Ann)
 |blockJ (L:Live) (kept:List Nat) (x:Ann)
 |loop (L:Live) (kept:List Nat) (x:Ann)
 |range (ps:List Lv) (x y:Ann)
 |scope (L:Live) (kept:List Nat) (x y z:Ann)
def writes:Code→List Nat
 | .region _ ops _=>dstsOf ops.toList
 | .seq a b=>writes a++writes b
 | .cond _ a b=>writes a++writes b
 | .block _ a=>writes a
 | .loop a=>writes a
 | .scope a=>writes a
 |_=> []
def Ei:Code→Bool
 | .rangeFunc .. =>false
 | .seq a b=>Ei a&&Ei b
 | .cond _ a b=>Ei a&&Ei b
 | .block _ a=>Ei a
 | .loop a=>Ei a
 | .scope a=>Ei a
 |_=>true
inductive Jmp where
 |blk (i:Nat)
 |lab (l:Nat)
def VP:Option Nat→Code
 |none=> .ret
 |some id=> .exit id
def TyA:List Lv→Type
 | []=>Unit
 |lv::l=>lv.Ty×TyA l
def ABq:(l:List Lv)→TyA l→List Value
 | [],_=> []
 |lv::l,x=>lv.val x.1::ABq l x.2
theorem UZ: ∀(l:List Lv) (x:TyA l),(ABq l x).length=l.length
 | [],_=>rfl
 |_::l,x=>by simp[ABq,UZ l x.2]
def Za:Env→List Tmp→List Value→Env
 |e,p::ps,v::vs=>Za (e.set p v) ps vs
 |e,_,_=>e
def TT(A:Amb)(P:Program)(fv:Value)(lvs:List Lv)(body:TyA lvs→Nat→Heap→(Heap→Prop)→(Option Nat→Heap→Prop)→Prop)(h:Heap)(kn:Heap→Prop)(kj:Option Nat→Heap→Prop):Prop:=
 ∀(rec:Go.Loop),rec.state= .ready→rec.pending=none→rec.params.size=lvs.length→
  (∀ (x:TyA lvs) (hh:Heap) (R:Value→Heap→Prop),hh[h.size+1]? =some (.loop rec)→
   body x (h.size+1) hh
    (fun h'=> ∃rec',h'[h.size+1]? =some (.loop rec')∧R (.bool true) (h'.setIfInBounds (h.size+1) (.loop {rec' with state:= .ready,pending:=none})))
    (fun j h'=> ∃rec',h'[h.size+1]? =some (.loop rec')∧R (.bool false) (h'.setIfInBounds (h.size+1) (.loop {rec' with state:= .done,pending:=some (VP j)})))→
   FE A P (.func (.yield (h.size+1)) #[] #[]) (ABq lvs x).toArray hh R)→
  ∃f args',Rz P (do let d ←Deferred.ofValue fv #[.func (.yield (h.size+1)) #[] #[]];invoke d.target d.args:Sem Next) (fun x=>x= .enter f args')∧
   AA A P f args' ((h.push (.deferred (some []))).push (.loop rec)) fun _ h2=>
    ∃rec2,h2[h.size+1]? =some (.loop rec2)∧rec2.state≠ .busy∧
     ((rec2.pending=none∧kn (h2.setIfInBounds (h.size+1) (.loop {rec2 with state:= .exhausted})))∨
     ∃j,rec2.pending=some (VP j)∧kj j (h2.setIfInBounds (h.size+1) (.loop {rec2 with state:= .exhausted})))
def EQ(A:Amb)(P:Program)(N:Nat)(inR:Bool):Code→Ann→Env→Heap→(Env→Heap→Prop)→(Jmp→Env→Heap→Prop)→(Env→Heap→Prop)→Prop
 | .skip,_,e,h,kn,_,_=>kn e h
 | .exit id,_,e,h,_,kb,_=>kb (.blk id) e h
 | .ret,_,e,h,_,_,kr=>kr e h
 | .label _,_,e,h,kn,_,_=>kn e h
 | .goto l,_,e,h,_,kb,_=>kb (.lab l) e h
 | .region _ ops d,ann,e,h,kn,_,_=>match ann with
  | .reg L kept=>match KV kept (dstsOf ops.toList) with
   |true=>Join (fun xs h=>kn (Ev L kept e xs) h) fun K=>Xp A P N ops d e h fun e' h'=>Kb L e' fun xs=>K xs h'
   |false=>False
  |_=>Xp A P N ops d e h kn
 | .seq a b,ann,e,h,kn,kb,kr=>match ann with
  | .seq x y=>EQ A P N inR a x e h (fun e h=>EQ A P N inR b y e h kn kb kr) kb kr
  | .seqJ L kept x y=>match KV kept (writes a)&&Ei a with
   |true=>Join (fun xs h=>EQ A P N inR b y (Ev L kept e xs) h kn kb kr) fun K=>EQ A P N inR a x e h (fun e' h'=>Kb L e' fun xs=>K xs h') kb kr
   |false=>False
  |_=>False
 | .cond c p q,ann,e,h,kn,kb,kr=>match ann with
  | .cond x y=>rd e c fun v=>match v with| .bool b=>PIf b (EQ A P N inR p x e h kn kb kr) (EQ A P N inR q y e h kn kb kr)|_=>False
  |_=>False
 | .block id c,ann,e,h,kn,kb,kr=>match ann with
  | .block x=>EQ A P N inR c x e h kn (fun j e' h'=>match j with| .blk i=>(match Nat.beq i id with|true=>kn e' h'|false=>kb (.blk i) e' h')| .lab l=>kb (.lab l) e' h') kr
  | .blockJ L kept x=>match KV kept (writes c)&&Ei c with
   |true=>Join (fun xs h=>kn (Ev L kept e xs) h) fun K=>
     EQ A P N inR c x e h (fun e' h'=>Kb L e' fun xs=>K xs h') (fun j e' h'=>match j with| .blk i=>(match Nat.beq i id with|true=>Kb L e' fun xs=>K xs h'|false=>kb (.blk i) e' h')| .lab l=>kb (.lab l) e' h') kr
   |false=>False
  |_=>False
 | .loop c,ann,e,h,_,kb,kr=>match ann with
  | .loop L kept x=>match KV kept (writes c)&&Ei c with
   |true=>Kb L e fun xs=>Loop (fun K xs h=>EQ A P N inR c x (Ev L kept e xs) h (fun e' h'=>Kb L e' fun xs=>K xs h') kb kr) xs h
   |false=>False
  |_=>False
 | .rangeFunc f ps asg c,ann,e,h,kn,kb,kr=>match ann with
  | .range lvs x y=>match (!inR)&&Nat.beq lvs.length ps.size&&ps.toList.all fun p=>Nat.blt p N with
   |true=>rd e f fun fv=>TT A P fv lvs
     (fun args l hh kn' kj'=>EQ A P N true asg x (Za {get:=e.get,ds:= []} ps.toList (ABq lvs args)) hh
      (fun e' h'=> ∃rec1,h'[l]? =some (.loop rec1)∧rec1.state= .ready∧
       EQ A P N true c y e' (h'.setIfInBounds l (.loop {rec1 with state:= .busy})) (fun _ h2=>kn' h2) (fun j _ h2=>match j with| .blk i=>kj' (some i) h2| .lab _=>False) (fun _ h2=>kj' none h2))
      (fun _ _ _=>False) (fun _ _=>False))
     h
     (fun h'=>kn {get:=e.get,ds:=h.size::e.ds} h')
     (fun j h'=>match j with|none=>kr {get:=e.get,ds:=h.size::e.ds} h'|some i=>kb (.blk i) {get:=e.get,ds:=h.size::e.ds} h')
   |false=>False
  |_=>False
 | .scope (.seq b (.seq c (.seq (.label l) d))),ann,e,h,kn,kb,kr=>match ann with
  | .scope L kept x0 x y=>match ((findLabel b l).isNone&&(findLabel c l).isNone)&&(KV kept (writes c++writes d)&&(Ei b&&(Ei c&&Ei d))) with
   |true=>EQ A P N inR b x0 e h (fun e h=>EQ A P N inR c x e h
     (fun e' h'=>Kb L e' fun xs=>Loop (fun K xs h=>EQ A P N inR d y (Ev L kept e xs) h kn
      (fun j e' h'=>match j with| .blk i=>kb (.blk i) e' h'| .lab l'=>match Nat.beq l' l with|true=>Kb L e' fun xs=>K xs h'|false=>False) kr) xs h')
     (fun j e' h'=>match j with| .blk i=>kb (.blk i) e' h'| .lab _=>False) kr) (fun j e' h'=>match j with| .blk i=>kb (.blk i) e' h'| .lab _=>False) kr
   |false=>False
  |_=>False
 |_,_,_,_,_,_,_=>False
def Post(A:Amb)(N:Nat)(W:List Nat)(nd:Bool)(a0:Act)(kn:Env→Heap→Prop)(kb:Jmp→Env→Heap→Prop)(kr:Env→Heap→Prop):Exit→Act→World→Prop:=
 fun x a w=> ∃e h n,w=A.at h n∧Fits N a e∧EG W nd a0 a∧(match x with
  | .normal=>kn e h
  | .exit id=>kb (.blk id) e h
  | .goto l=>kb (.lab l) e h
  | .ret=>kr e h
  |_=>False)
theorem Post.mono {A:Amb}{N:Nat}{W V:List Nat}{nd md:Bool}{a0:Act}{kn kn':Env→Heap→Prop}{kb kb':Jmp→Env→Heap→Prop}{kr kr':Env→Heap→Prop}
  (h1: ∀t∈W,t∈V) (h2:md=true→nd=true) (hn: ∀e h,kn e h→kn' e h) (hb: ∀i e h,kb i e h→kb' i e h) (hr: ∀e h,kr e h→kr' e h) {x:Exit} {a:Act} {w:World}
  (H:Post A N W nd a0 kn kb kr x a w):Post A N V md a0 kn' kb' kr' x a w:=by
 obtain⟨e,h,n,hw,hf,hk,hx⟩:=H
 refine⟨e,h,n,hw,hf,hk.weak h1 h2,?_⟩
 cases x<;>simp only at hx ⊢
 ·exact hn _ _ hx
 ·exact hb _ _ _ hx
 ·exact hb _ _ _ hx
 ·exact hr _ _ hx
end Go.Lf

