/-
 LIFT, part A: worlds as heaps beside a fixed rest; one operation's outcome at the level of values; a region that draws its order, walked in the text's order.
-/
import Derived.WalkKit
import Derived.OrdersIn
import Derived.RangeFuncIn
import Derived.RangeFuncLeaves
import Derived.RangeFuncCalls
import Derived.TacticsInMore
set_option linter.unusedVariables false
set_option linter.unusedSimpArgs false
namespace Go.Lf
structure Amb where
 tape:Nat→Question→Nat
 os:Os
 output:Array (Nat×ByteArray)
abbrev Heap:=Array Obj
def Amb.at(A:Amb)(h:Heap)(n:Nat):World:= {heap:=h,tape:=A.tape,drawn:=n,os:=A.os,output:=A.output}
abbrev Fw(r:Option Nat):Fence:= {fn:=fun _=>True,depth:=none,alive:=false,round:=r}
theorem AHQ(r:Option Nat)(n:Nat):(Fw r).room n:=fun _ h=>by simp at h
theorem Sv {r:Option Nat}{n:Nat}{P:Program}{f:FuncId}{args:Array Value}{w:World}{R:Ending→World→Prop}:
  CallsIn (Fw r) n P f args w R↔Calls P f args w R:=callsIn_wide
def Zm(P:Program)(l:Nat)(f:FuncId)(tmps:Array Value)(assign body:Code)(w:World)(R:Value→World→Prop):Prop:=
 RoundIn (Fw none) 0 P l f tmps assign body w (fun e w'=> ∃v,e= .returned v∧R v w')
theorem Zm.mono {P:Program}{l:Nat}{f:FuncId}{tmps:Array Value}{assign body:Code}{w:World}{R R':Value→World→Prop}
  (h:Zm P l f tmps assign body w R) (hr: ∀v w',R v w'→R' v w'):Zm P l f tmps assign body w R':=
 RoundIn.mono h fun _ _ ⟨v,he,hv⟩=>⟨v,he,hr _ _ hv⟩
theorem AGH {r:Option Nat}{n:Nat}{P:Program}{l:Nat}{f:FuncId}{tmps:Array Value}{assign body:Code}{w:World}{R:Ending→World→Prop}
  (h:RoundIn (Fw none) 0 P l f tmps assign body w R):RoundIn (Fw r) n P l f tmps assign body w R:=
 ⟨trivial,fun c cs _=>h.2 c cs (AHQ none _)⟩
def Next.out(P:Program)(K:Value→World→Prop):Result Next→Prop
 | .ok (.value v) w'=>K v w'
 | .ok .skip w'=>K undef w'
 | .ok (.enter f args) w'=>Calls P f args w' (fun e w''=> ∃v,e= .returned v∧K v w'')
 | .ok (.round l f tmps assign body) w'=>Zm P l f tmps assign body w' K
 |_=>False
def EV(P:Program)(o:Oper)(ρ:Operand→Value)(w:World)(K:Value→World→Prop):Prop:=Next.out P K ((execOp ρ o).run P w)
theorem Next.out_mono {P:Program}{K K':Value→World→Prop}(hk: ∀v w,K v w→K' v w){x:Result Next}(h:Next.out P K x):Next.out P K' x:=by
 cases x with
 |ok y w=>
  cases y<;>simp only[Next.out] at h ⊢ <;>
   first
    |exact hk _ _ h
    |exact Calls.mono h fun _ _ ⟨v,he,hv⟩=>⟨v,he,hk _ _ hv⟩
    |exact Zm.mono h hk
 |halt x w=>simp only[Next.out] at h
theorem EV.mono {P:Program}{o:Oper}{ρ:Operand→Value}{w:World}{K K':Value→World→Prop}(h:EV P o ρ w K)(hk: ∀v w,K v w→K' v w):EV P o ρ w K':=Next.out_mono hk h
theorem Calls.some {P:Program}{f:FuncId}{args:Array Value}{w:World}{R:Ending→World→Prop}(h:Calls P f args w R): ∃e w',R e w':=
 let ⟨e,w',_,r,_⟩:=h [];⟨e,w',r⟩
theorem EV.some {P:Program}{o:Oper}{ρ:Operand→Value}{w:World}{K:Value→World→Prop}(h:EV P o ρ w K): ∃v w',K v w':=by
 unfold EV at h
 cases hx:(execOp ρ o).run P w with
 |ok y w'=>
  rw[hx] at h
  cases y<;>simp only[Next.out] at h
  case value v=>exact⟨_,_,h⟩
  case skip=>exact⟨_,_,h⟩
  case enter f args=>obtain⟨e,w'',v,_,hv⟩:=Calls.some h;exact⟨v,w'',hv⟩
  case round l f tmps assign body=>
   obtain⟨e,w'',⟨v,_,hv⟩,_⟩:=h.2 default [] (AHQ none _)
   exact⟨v,w'',hv⟩
 |halt y w'=>rw[hx] at h;simp only[Next.out] at h
def F7(o:Oper):Bool:=match o.op with| .defer _=>false| .select .. =>false|_=>true
theorem EV.wpIn {r:Option Nat}{m:Nat}{P:Program}{o:Oper}{a:Act}{w:World}{K:Act→World→Prop}{Q:Exit→Act→World→Prop}
  (hd:F7 o=true) (h:EV P o a.eval w fun v w'=>K (a.put o.dst v) w'):o.wpIn (Fw r) m P a w K Q:=by
 refine⟨fun _ _=>trivial,?_⟩
 have hs:Oper.semAt r a.eval o=execOp a.eval o:=Oper.semAt_eq r a.eval o (fun c hc=>by simp[F7,hc] at hd)
 show o.uponIn (Fw r) m P a K Q ((Oper.semAt r a.eval o).run P w)
 rw[hs]
 unfold EV at h
 generalize (execOp a.eval o).run P w=x at h
 cases x with
 |ok y w'=>
  cases y<;>simp only[Next.out] at h<;>simp only[Oper.uponIn]
  case value v=>exact h
  case skip=>exact h
  case enter f args=>
   refine⟨fun hn=>by simp at hn,Sv.2 (Calls.mono h ?_)⟩
   rintro e w'' ⟨v,rfl,hv⟩
   exact hv
  case round l f tmps assign body=>
   refine⟨fun hn=>by simp at hn,AGH (RoundIn.mono h ?_)⟩
   rintro e w'' ⟨v,rfl,hv⟩
   exact hv
 |halt y w'=>simp only[Next.out] at h
section
variable {P : Program} {A : Amb} {r : Option Nat} {ops : Array Oper}
def exq(P:Program)(A:Amb)(o:Oper)(ρ:Operand→Value)(v:Value)(h:Heap):Prop:= ∀n,(execOp ρ o).run P (A.at h n)= .ok (.value v) (A.at h n)
def un(ord:Nat→Nat→Bool)(i j:Nat):Bool:= !(ord (max i j) (min i j))
def FA(P:Program)(A:Amb)(ops:Array Oper)(qb:Oper→Bool)(ord:Nat→Nat→Bool)(Q:Act→Heap→Prop):
  List Nat→Act→Heap→List (Nat×(Heap→Prop))→List (Nat×Heap)→Prop
 | [],a,h,_,_=>Q a h
 |i::rest,a,h,pend,pres=>
  match ops[i]? with
  |none=>False
  |some o=>
   if Region.wanted o (yielded ops a.tmps)=true then
    if qb o=true then
     ∃v,exq P A o a.eval v h∧(∀ p∈pres,un ord i p.1=true→exq P A o a.eval v p.2)∧FA P A ops qb ord Q rest (a.put o.dst v) h ((i,exq P A o a.eval v)::pend) pres
    else
     ∀n,EV P o a.eval (A.at h n) fun v w'=> ∃h' n',w'=A.at h' n'∧(∀ p∈pend,un ord i p.1=true→p.2 h')∧FA P A ops qb ord Q rest (a.put o.dst v) h' pend ((i,h)::pres)
   else FA P A ops qb ord Q rest (a.put o.dst undef) h pend pres
variable {qb : Oper → Bool} {ord : Nat → Nat → Bool} {Q : Act → Heap → Prop}
theorem FA.sub: ∀ {l:List Nat} {a:Act} {h:Heap} {pend pend':List (Nat×(Heap→Prop))} {pres pres':List (Nat×Heap)},FA P A ops qb ord Q l a h pend pres→
  (∀ p∈pend',p∈pend)→(∀ p∈pres',p∈pres)→FA P A ops qb ord Q l a h pend' pres':=by
 intro l
 induction l with
 |nil=>intro a h _ _ _ _ H _ _;exact H
 |cons i rest ih=>
  intro a h pend pend' pres pres' H h1 h2
  unfold FA at H ⊢
  cases ho:ops[i]? with
  |none=>rw[ho] at H;exact H
  |some o=>
   rw[ho] at H
   simp only at H ⊢
   split
   ·rename_i hw
    rw[if_pos hw] at H
    split
    ·rename_i hq
     rw[if_pos hq] at H
     obtain⟨v,hv,hp,hr⟩:=H
     refine⟨v,hv,fun p hp'=>hp p (h2 p hp'),ih hr (fun p hp'=>?_) h2⟩
     rcases List.mem_cons.1 hp' with rfl|hp'
     ·exact List.mem_cons_self
     ·exact List.mem_cons_of_mem _ (h1 p hp')
    ·rename_i hq
     rw[if_neg hq] at H
     intro n
     refine(H n).mono ?_
     rintro v w' ⟨h',n',hw',hp,hr⟩
     refine⟨h',n',hw',fun p hp'=>hp p (h1 p hp'),ih hr h1 (fun p hp'=>?_)⟩
     rcases List.mem_cons.1 hp' with rfl|hp'
     ·exact List.mem_cons_self
     ·exact List.mem_cons_of_mem _ (h2 p hp')
   ·rename_i hw
    rw[if_neg hw] at H
    exact ih H h1 h2
def Dx(o:Oper):Prop:= ∀cs b,o.op≠ .select cs b
theorem FA.swap {i j:Nat}{oi oj:Oper}(hi:ops[i]? =some oi)(hj:ops[j]? =some oj)(hap:oi.apart ops oj=true)(hsi:Dx oi)(hsj:Dx oj)
  (hun:un ord i j=true) (heff:qb oi=true∨qb oj=true) {l:List Nat} {a:Act} {h:Heap} {pend:List (Nat×(Heap→Prop))} {pres:List (Nat×Heap)}
  (H:FA P A ops qb ord Q (j::i::l) a h pend pres):FA P A ops qb ord Q (i::j::l) a h pend pres:=by
 obtain⟨h1,h2,h3⟩:=Oper.apart_spec hap
 have hun':un ord j i=true:=by unfold un at *;rwa [Nat.max_comm,Nat.min_comm]
 have ei: ∀u,execOp (a.put oj.dst u).eval oi=execOp a.eval oi:=fun u=>execOp_put oi hsi a oj.dst u h3
 have ej: ∀u,execOp (a.put oi.dst u).eval oj=execOp a.eval oj:=fun u=>execOp_put oj hsj a oi.dst u h1
 have wi: ∀u,Region.wanted oi (yielded ops (a.put oj.dst u).tmps)=Region.wanted oi (yielded ops a.tmps):=fun u=>wanted_put oi a oj.dst u h3
 have wj: ∀u,Region.wanted oj (yielded ops (a.put oi.dst u).tmps)=Region.wanted oj (yielded ops a.tmps):=fun u=>wanted_put oj a oi.dst u h1
 have xi: ∀u,exq P A oi (a.put oj.dst u).eval=exq P A oi a.eval:=fun u=>by funext v h;unfold exq;rw[ei]
 have xj: ∀u,exq P A oj (a.put oi.dst u).eval=exq P A oj a.eval:=fun u=>by funext v h;unfold exq;rw[ej]
 have pc: ∀v u,(a.put oi.dst v).put oj.dst u=(a.put oj.dst u).put oi.dst v:=fun v u=>Act.put_comm a v u h2
 unfold FA at H ⊢
 rw[hj] at H
 rw[hi]
 simp only at H ⊢
 by_cases hwj:Region.wanted oj (yielded ops a.tmps)=true
 ·rw [if_pos hwj] at H
  by_cases hqj:qb oj=true
  ·rw [if_pos hqj] at H
   obtain⟨vj,hvj,hpj,H⟩:=H
   unfold FA at H
   rw[hi] at H
   simp only[wi,xi] at H
   by_cases hwi:Region.wanted oi (yielded ops a.tmps)=true
   ·rw [if_pos hwi] at H ⊢
    by_cases hqi:qb oi=true
    ·rw [if_pos hqi] at H ⊢
     obtain⟨vi,hvi,hpi,H⟩:=H
     refine⟨vi,hvi,hpi,?_⟩
     unfold FA
     rw[hj]
     simp only[wj,xj]
     rw[if_pos hwj,if_pos hqj]
     refine⟨vj,hvj,hpj,?_⟩
     rw[pc]
     exact H.sub (fun p hp=>by simp only[List.mem_cons] at hp ⊢;rcases hp with h|h|h<;>simp[h]) (fun _ h=>h)
    ·rw [if_neg hqi] at H ⊢
     intro n
     have:=H n
     unfold EV at this
     rw[ei] at this
     refine EV.mono this ?_
     rintro vi w' ⟨h',n',hw',hp,H⟩
     refine⟨h',n',hw',fun p hp'=>hp p (List.mem_cons_of_mem _ hp'),?_⟩
     unfold FA
     rw[hj]
     simp only[wj,xj]
     rw[if_pos hwj,if_pos hqj]
     refine⟨vj,hp _ List.mem_cons_self hun,?_,?_⟩
     ·intro p hp' hu
      rcases List.mem_cons.1 hp' with rfl|hp'
      ·exact hvj
      ·exact hpj p hp' hu
     ·rw [pc];exact H
   ·rw [if_neg hwi] at H ⊢
    unfold FA
    rw[hj]
    simp only[wj,xj]
    rw[if_pos hwj,if_pos hqj]
    exact⟨vj,hvj,hpj,by rw[pc];exact H⟩
  ·rw [if_neg hqj] at H
   have hqi:qb oi=true:=heff.resolve_right hqj
   by_cases hwi:Region.wanted oi (yielded ops a.tmps)=true
   ·rw [if_pos hwi,if_pos hqi]
    have key: ∀n,EV P oj a.eval (A.at h n) fun v w'=> ∃h' n',w'=A.at h' n'∧(∀ p∈pend,un ord j p.1=true→p.2 h')∧
      ∃vi,exq P A oi a.eval vi h'∧(∀ p∈(j,h)::pres,un ord i p.1=true→exq P A oi a.eval vi p.2)∧
       FA P A ops qb ord Q l ((a.put oj.dst v).put oi.dst vi) h' ((i,exq P A oi a.eval vi)::pend) ((j,h)::pres):=by
     intro n
     refine(H n).mono ?_
     rintro v w' ⟨h',n',hw',hp,H⟩
     unfold FA at H
     rw[hi] at H
     simp only[wi,xi] at H
     rw[if_pos hwi,if_pos hqi] at H
     exact⟨h',n',hw',hp,H⟩
    obtain⟨v0,w0,h0,n0,_,_,vi,_,hpi,_⟩:=(key 0).some
    have hvi:exq P A oi a.eval vi h:=hpi (j,h) List.mem_cons_self hun
    refine⟨vi,hvi,fun p hp hu=>hpi p (List.mem_cons_of_mem _ hp) hu,?_⟩
    unfold FA
    rw[hj]
    simp only[wj]
    rw[if_pos hwj,if_neg hqj]
    intro n
    have:=key n
    unfold EV at this ⊢
    rw[ej]
    refine Next.out_mono ?_ this
    rintro v w' ⟨h',n',hw',hp,vi',hvi',hpi',H⟩
    have hv2:exq P A oi a.eval vi' h:=hpi' (j,h) List.mem_cons_self hun
    have e:vi'=vi:=by
     have e1:=hvi 0
     have e2:=hv2 0
     rw[e1] at e2
     injection e2 with e2 _
     injection e2 with e2
     exact e2.symm
    subst e
    refine⟨h',n',hw',?_,?_⟩
    ·intro p hp' hu
     rcases List.mem_cons.1 hp' with rfl|hp'
     ·exact hvi'
     ·exact hp p hp' hu
    ·rw [pc];exact H
   ·rw [if_neg hwi]
    unfold FA
    rw[hj]
    simp only[wj]
    rw[if_pos hwj,if_neg hqj]
    intro n
    have:=H n
    unfold EV at this ⊢
    rw[ej]
    refine Next.out_mono ?_ this
    rintro v w' ⟨h',n',hw',hp,H⟩
    unfold FA at H
    rw[hi] at H
    simp only[wi] at H
    rw[if_neg hwi] at H
    exact⟨h',n',hw',hp,by rw[pc];exact H⟩
 ·rw [if_neg hwj] at H
  unfold FA at H
  rw[hi] at H
  simp only[wi,xi] at H
  by_cases hwi:Region.wanted oi (yielded ops a.tmps)=true
  ·rw [if_pos hwi] at H ⊢
   by_cases hqi:qb oi=true
   ·rw [if_pos hqi] at H ⊢
    obtain⟨vi,hvi,hpi,H⟩:=H
    refine⟨vi,hvi,hpi,?_⟩
    unfold FA
    rw[hj]
    simp only[wj]
    rw[if_neg hwj,pc]
    exact H
   ·rw [if_neg hqi] at H ⊢
    intro n
    have:=H n
    unfold EV at this ⊢
    rw[ei] at this
    refine Next.out_mono ?_ this
    rintro v w' ⟨h',n',hw',hp,H⟩
    refine⟨h',n',hw',hp,?_⟩
    unfold FA
    rw[hj]
    simp only[wj]
    rw[if_neg hwj,pc]
    exact H
  ·rw [if_neg hwi] at H ⊢
   unfold FA
   rw[hj]
   simp only[wj]
   rw[if_neg hwj,pc]
   exact H
theorem FA.mono_head {i:Nat}{l l':List Nat}(hl: ∀a h pend pres,FA P A ops qb ord Q l a h pend pres→FA P A ops qb ord Q l' a h pend pres){a:Act}{h:Heap}
  {pend:List (Nat×(Heap→Prop))} {pres:List (Nat×Heap)} (H:FA P A ops qb ord Q (i::l) a h pend pres):FA P A ops qb ord Q (i::l') a h pend pres:=by
 unfold FA at H ⊢
 cases ho:ops[i]? with
 |none=>rw[ho] at H;exact H
 |some o=>
  rw[ho] at H
  simp only at H ⊢
  split
  ·rename_i hw
   rw[if_pos hw] at H
   split
   ·rename_i hq
    rw[if_pos hq] at H
    obtain⟨v,hv,hp,hr⟩:=H
    exact⟨v,hv,hp,hl _ _ _ _ hr⟩
   ·rename_i hq
    rw[if_neg hq] at H
    intro n
    refine(H n).mono ?_
    rintro v w' ⟨h',n',hw',hp,hr⟩
    exact⟨h',n',hw',hp,hl _ _ _ _ hr⟩
  ·rename_i hw
   rw[if_neg hw] at H
   exact hl _ _ _ _ H
theorem FA.front {i:Nat}{post:List Nat}: ∀(pre:List Nat),
  (∀ j∈pre,∃oi oj,ops[i]? =some oi∧ops[j]? =some oj∧oi.apart ops oj=true∧Dx oi∧Dx oj∧un ord i j=true∧(qb oi=true∨qb oj=true))→
  ∀(a:Act) (h:Heap) (pend:List (Nat×(Heap→Prop))) (pres:List (Nat×Heap)),FA P A ops qb ord Q (pre++i::post) a h pend pres→
   FA P A ops qb ord Q (i::(pre++post)) a h pend pres
 | [],_,_,_,_,_,H=>H
 |j::pre,hall,a,h,pend,pres,H=>by
  obtain⟨oi,oj,hi,hj,hap,hsi,hsj,hun,heff⟩:=hall j List.mem_cons_self
  have H2:FA P A ops qb ord Q (j::i::(pre++post)) a h pend pres:=
   FA.mono_head (fun a h pend pres=>FA.front pre (fun k hk=>hall k (List.mem_cons_of_mem _ hk)) a h pend pres) H
  exact FA.swap hi hj hap hsi hsj hun heff H2
def ABZ(ops:Array Oper):Nat→Nat→Bool:=
 let b:=Region.before ops
 fun i j=>(b.getD i 0).testBit j
def Zb(ops:Array Oper)(qb:Oper→Bool)(ord:Nat→Nat→Bool):Bool:=
 (ops.toList.all fun o=>F7 o)&&
 (List.range ops.size).all fun i=>
  match ops[i]? with
  |none=>false
  |some oi=>
   (oi.after.toList.all fun e=> !Region.binds .any e||decide (e.on<i))&&
   (List.range i).all fun j=>
    match ops[j]? with
    |none=>false
    |some oj=>
     if ord i j then oi.after.toList.any fun e=>Region.binds .any e&&(e.on==j||(decide (j<e.on)&&ord e.on j))
     else oi.apart ops oj&&(qb oi||qb oj)
def rem(n:Nat)(listed:Array Bool):List Nat:=(List.range n).filter fun i=> !listed.getD i true
end
end Go.Lf

/-
 LIFT, part B: the text's order serves every order: from FA to the region's wp.
-/
namespace Go.Lf
section
variable {P : Program} {A : Amb} {r : Option Nat} {ops : Array Oper} {qb : Oper → Bool} {ord : Nat → Nat → Bool}
def left(n:Nat)(listed:Array Bool):List Nat:=(List.range n).filter fun i=> !listed.getD i false
theorem mem_left {n:Nat}{listed:Array Bool}{i:Nat}:i∈left n listed↔i<n∧listed.getD i false=false:=by
 simp[left]
theorem range_split {n i:Nat}(h:i<n):List.range n=List.range i++i::(List.range' (i+1) (n-i-1)):=by
 rw[List.range_eq_range',List.range_eq_range']
 have h1:List.range' 0 n=List.range' 0 i++List.range' i (n-i):=by
  have:=List.range'_append_1 (s:=0) (m:=i) (n:=n-i)
  rw[Nat.zero_add] at this
  rw[this]
  congr 1
  omega
 rw[h1]
 congr 1
 have h2:n-i=(n-i-1)+1:=by omega
 rw[h2,List.range'_succ]
 simp
theorem Xy {n i:Nat}{listed:Array Bool}(hi:i<n)(hs:listed.size=n)(hl:listed.getD i false=false):
  ∃pre post,left n listed=pre++i::post∧left n (listed.setIfInBounds i true)=pre++post∧ ∀j∈pre,j<i∧listed.getD j false=false:=by
 refine⟨(List.range i).filter fun j=> !listed.getD j false,(List.range' (i+1) (n-i-1)).filter fun j=> !listed.getD j false,?_,?_,?_⟩
 ·unfold left
  rw[range_split hi,List.filter_append,List.filter_cons]
  simp only[hl,Bool.not_false,if_true]
 ·unfold left
  have ht:(listed.setIfInBounds i true).getD i false=true:=by
   have:i<listed.size:=by omega
   simp[this]
  rw[range_split hi,List.filter_append,List.filter_cons]
  simp only[ht,Bool.not_true,Bool.false_eq_true,if_false]
  congr 1
  ·refine List.filter_congr fun j hj=>?_
   have:=List.mem_range.1 hj
   rw[getD_set_ne false (by omega)]
  ·refine List.filter_congr fun j hj=>?_
   have:=(List.mem_range'_1.1 hj).1
   rw[getD_set_ne false (by omega)]
 ·intro j hj
  simp only[List.mem_filter,List.mem_range,Bool.not_eq_true'] at hj
  exact hj
def Closed(ord:Nat→Nat→Bool)(listed:Array Bool):Prop:= ∀k j,listed.getD k false=true→j<k→ord k j=true→listed.getD j false=true
theorem AEW(h:Zb ops qb ord=true):(∀ (i:Nat) (o:Oper),ops[i]? =some o→F7 o=true)∧
  (∀ (i:Nat) (o:Oper),ops[i]? =some o→ ∀e∈o.after,Region.binds .any e=true→e.on<i)∧
  (∀ (i j:Nat) (oi oj:Oper),ops[i]? =some oi→ops[j]? =some oj→j<i→
   (ord i j=true∧ ∃e∈oi.after,Region.binds .any e=true∧(e.on=j∨(j<e.on∧ord e.on j=true)))∨(ord i j=false∧oi.apart ops oj=true∧(qb oi=true∨qb oj=true))):=by
 unfold Zb at h
 simp only[Bool.and_eq_true,List.all_eq_true,List.mem_range] at h
 obtain⟨h1,h2⟩:=h
 refine⟨fun i o ho=>h1 o (by rw[Array.mem_toList_iff];exact Array.mem_of_getElem? ho),fun i o ho e he hb=>?_,fun i j oi oj hi hj hji=>?_⟩
 ·have hlt:i<ops.size:=(Array.getElem?_eq_some_iff.1 ho).1
  have:=h2 i hlt
  rw[ho] at this
  simp only[Bool.and_eq_true,List.all_eq_true,Bool.or_eq_true,Bool.not_eq_true',decide_eq_true_eq] at this
  exact(this.1 e (by simpa using he)).resolve_left (by simp[hb])
 ·have hlt:i<ops.size:=(Array.getElem?_eq_some_iff.1 hi).1
  have:=h2 i hlt
  rw[hi] at this
  simp only[Bool.and_eq_true,List.all_eq_true,List.mem_range] at this
  have:=this.2 j hji
  rw[hj] at this
  simp only at this
  cases ho:ord i j with
  |true=>
   rw[ho] at this
   simp only[if_true,List.any_eq_true,Bool.and_eq_true,Bool.or_eq_true,beq_iff_eq,decide_eq_true_eq] at this
   obtain⟨e,he,hb,hx⟩:=this
   exact .inl ⟨rfl,e,by simpa using he,hb,hx⟩
  |false=>
   rw[ho] at this
   simp only[Bool.false_eq_true,if_false,Bool.and_eq_true,Bool.or_eq_true] at this
   exact .inr ⟨rfl,this.1,this.2⟩
theorem RP {listed:Array Bool}{i:Nat}(h:i<listed.size):listed.getD i true=listed.getD i false:=by simp[h]
theorem LD {o:Oper}(h:F7 o=true):Dx o:=fun cs b hc=>by simp[F7,hc] at h
theorem FA.any {m:Nat}{Q:Act→Heap→Prop}{Qe:Exit→Act→World→Prop}(hQ: ∀a h n,Q a h→Qe .normal a (A.at h n))(hfl:Zb ops qb ord=true):
  ∀(fuel:Nat) (listed:Array Bool) (a:Act) (h:Heap) (pend:List (Nat×(Heap→Prop))) (pres:List (Nat×Heap)),(left ops.size listed).length=fuel→listed.size=ops.size→
   Closed ord listed→FA P A ops qb ord Q (left ops.size listed) a h pend pres→ ∀n,wpAnyIn (Fw r) m P .any ops Qe fuel listed a (A.at h n):=by
 obtain⟨hnd,hback,hpair⟩:=AEW hfl
 intro fuel
 induction fuel with
 |zero=>
  intro listed a h pend pres hl hs _ H n
  have he:left ops.size listed= []:=List.eq_nil_of_length_eq_zero hl
  refine⟨?_,?_⟩
  ·rcases hr:Region.ready .any ops listed with _|⟨i,t⟩
   ·rfl
   ·exfalso
    have hi:i∈Region.ready .any ops listed:=by rw[hr];exact List.mem_cons_self
    obtain⟨h0,o,ho,_⟩:=mem_ready.1 hi
    have hlt:i<ops.size:=(Array.getElem?_eq_some_iff.1 ho).1
    have:i∈left ops.size listed:=mem_left.2 ⟨hlt,by rw[← RP (by omega)];exact h0⟩
    rw[he] at this
    cases this
  ·rw [he] at H
   exact hQ _ _ _ H
 |succ fuel ih=>
  intro listed a h pend pres hl hs hcl H n
  refine⟨fun hr=>?_,fun i hi=>?_⟩
  ·exfalso
   have hex: ∀k i,i<k→i∈left ops.size listed→False:=by
    intro k
    induction k with
    |zero=>intro i hi;omega
    |succ k ihk=>
     intro i _ hi
     obtain⟨hlt,h0⟩:=mem_left.1 hi
     have ho:ops[i]? =some ops[i]:=Array.getElem?_eq_getElem hlt
     by_cases hall: ∀e∈ops[i].after,Region.binds .any e=true→listed.getD e.on false=true
     ·have:i∈Region.ready .any ops listed:=mem_ready.2 ⟨by rw[RP (by omega)];exact h0,_,ho,hall⟩
      rw[hr] at this
      cases this
     ·simp only[Classical.not_forall] at hall
      obtain⟨e,he,hb,hne⟩:=hall
      have hlt':=hback i _ ho e he hb
      exact ihk e.on (by omega) (mem_left.2 ⟨by omega,by simpa using hne⟩)
   have hne:left ops.size listed≠ []:=by intro e;rw[e] at hl;simp at hl
   obtain⟨i,hi⟩:=List.exists_mem_of_ne_nil _ hne
   exact hex (i+1) i (by omega) hi
  ·obtain⟨h0,oi,hoi,hall⟩:=mem_ready.1 hi
   have hlt:i<ops.size:=(Array.getElem?_eq_some_iff.1 hoi).1
   have h0':listed.getD i false=false:=by rw[← RP (by omega)];exact h0
   obtain⟨pre,post,e1,e2,hpre⟩:=Xy hlt hs h0'
   rw[e1] at H
   have hord: ∀j,j<i→listed.getD j false=false→ord i j=false:=by
    intro j hj hlj
    have hj':ops[j]? =some ops[j]:=Array.getElem?_eq_getElem (by omega)
    rcases hpair i j oi _ hoi hj' hj with⟨_,e,he,hb,hx⟩|⟨hx,_⟩
    ·exfalso
     have hle:=hall e he hb
     rcases hx with rfl|⟨hlt2,ho2⟩
     ·rw [hle] at hlj;cases hlj
     ·have:=hcl e.on j hle hlt2 ho2
      rw[this] at hlj;cases hlj
    ·exact hx
   have H2:=FA.front (Q:=Q) (qb:=qb) (ord:=ord) (P:=P) (A:=A) (ops:=ops) pre (fun j hj=>by
    obtain⟨hj1,hj2⟩:=hpre j hj
    have hj':ops[j]? =some ops[j]:=Array.getElem?_eq_getElem (by omega)
    have ho:=hord j hj1 hj2
    rcases hpair i j oi _ hoi hj' hj1 with⟨hx,_⟩|⟨_,hap,hef⟩
    ·rw [ho] at hx;cases hx
    ·refine⟨oi,_,hoi,hj',hap,LD (hnd i oi hoi),LD (hnd j _ hj'),?_,hef⟩
     unfold un
     rw[Nat.max_eq_left (by omega),Nat.min_eq_right (by omega),ho]
     rfl) a h pend pres H
   have hcl':Closed ord (listed.setIfInBounds i true):=by
    intro k j hk hjk ho
    by_cases hji:j=i
    ·subst hji;have:j<listed.size:=by omega
     simp[this]
    ·rw [getD_set_ne false (Ne.symm hji)]
     by_cases hki:k=i
     ·subst hki
      cases hlj:listed.getD j false with
      |true=>rfl
      |false=>rw[hord j hjk hlj] at ho;cases ho
     ·rw [getD_set_ne false (Ne.symm hki)] at hk
      exact hcl k j hk hjk ho
   have hlen:(left ops.size (listed.setIfInBounds i true)).length=fuel:=by
    rw[e2];rw[e1] at hl;simp only[List.length_append,List.length_cons] at hl ⊢;omega
   have hs':(listed.setIfInBounds i true).size=ops.size:=by simp[hs]
   rw[← e2] at H2
   unfold FA at H2
   rw[hoi] at H2
   unfold wpOpIn
   simp only[hoi]
   split
   ·rename_i hw
    simp only[hw,if_true] at H2
    by_cases hq:qb oi=true
    ·rw [if_pos hq] at H2
     obtain⟨v,hv,_,H2⟩:=H2
     refine EV.wpIn (hnd i oi hoi) ?_
     unfold EV
     rw[hv n]
     exact ih _ _ _ _ _ hlen hs' hcl' H2 n
    ·rw [if_neg hq] at H2
     refine EV.wpIn (hnd i oi hoi) ((H2 n).mono ?_)
     rintro v w' ⟨h',n',rfl,_,H3⟩
     exact ih _ _ _ _ _ hlen hs' hcl' H3 n'
   ·rename_i hw
    simp only at H2
    rw[if_neg hw] at H2
    exact⟨fun _ _=>trivial,ih _ _ _ _ _ hlen hs' hcl' H2 n⟩
theorem AEc(n:Nat):left n (Array.replicate n false)=List.range n:=by
 unfold left
 rw[List.filter_eq_self]
 intro i _
 by_cases h:i<n<;>simp[h]
theorem UQ {id m:Nat}{Q:Act→Heap→Prop}{Qe:Exit→Act→World→Prop}(hQ: ∀a h n,Q a h→Qe .normal a (A.at h n))(hm:P.follows .mixedOrders=true)
  (hfl:Zb ops qb ord=true) {a:Act} {h:Heap} {n:Nat} (H:FA P A ops qb ord Q (List.range ops.size) a h [] []):(Code.region id ops true).wpIn (Fw r) m P Qe a (A.at h n):=by
 refine wpIn_region_any hm ?_
 have hl:=AEc ops.size
 refine FA.any (Q:=Q) (ord:=ord) (qb:=qb) (pend:= []) (pres:= []) hQ hfl _ _ _ h (by rw[hl];simp) (by simp) ?_ (by rw[hl];exact H) (n+1)
 intro k j hk
 exfalso
 by_cases h:k<ops.size<;>simp[h] at hk
end
end Go.Lf

/-
 LIFT, part C: the words of a formula; one operation's formula and what it stands for.
-/
namespace Go.Lf
def hget(h:Heap)(a:Addr):Option Value:=
 match h[a.block]? with
 |some (.cells c _ _)=>if a.spot.isSome then none else c[a.off]?
 |_=>none
def hfro(h:Heap)(a:Addr):Bool:=
 match h[a.block]? with
 |some (.cells _ _ (lo,hi))=>lo≤a.off&&a.off<hi
 |_=>false
def hset(h:Heap)(a:Addr)(v:Value):Heap:=
 h.modify a.block fun
  | .cells c elem frozen=> .cells (if a.spot.isSome then c else c.setIfInBounds a.off v) elem frozen
  |o=>o
theorem ALu(A:Amb)(h:Heap)(n:Nat)(a:Addr):(A.at h n).cell? a=hget h a:=rfl
theorem setCell_at(A:Amb)(h:Heap)(n:Nat)(a:Addr)(v:Value):(A.at h n).setCell a v=A.at (hset h a v) n:=rfl
def At(p:Option Addr)(K:Addr→Prop):Prop:=match p with|some a=>K a|none=>False
def PIf(b:Bool)(X Y:Prop):Prop:=match b with|true=>X|false=>Y
def New(h:Heap)(o:Obj)(K:Nat→Heap→Prop):Prop:=K h.size (h.push o)
def PP(h:Heap)(a:Addr)(K:Value→Prop):Prop:= ∃v,hget h a=some v∧K v
def Aa(k:IntKind)(h:Heap)(a:Addr)(K:Int→Prop):Prop:= ∃n,hget h a=some (.int k n)∧K n
def Ab(h:Heap)(a:Addr)(K:Bool→Prop):Prop:= ∃b,hget h a=some (.bool b)∧K b
def AL(h:Heap)(a:Addr)(K:ByteArray→Prop):Prop:= ∃s,hget h a=some (.string s)∧K s
def AP(h:Heap)(a:Addr)(K:Option Addr→Prop):Prop:= ∃p,hget h a=some (.pointer p)∧K p
structure Sl where
 p:Option Addr
 len:Nat
 cap:Nat
def Sl.v(s:Sl):Value:= .slice s.p s.len s.cap
def AZ(h:Heap)(a:Addr)(K:Sl→Prop):Prop:= ∃s:Sl,hget h a=some (.slice s.p s.len s.cap)∧K s
def ANU(k:FloatKind)(h:Heap)(a:Addr)(K:Nat→Prop):Prop:= ∃n,hget h a=some (.float k n)∧K n
def ANI(k:FloatKind)(h:Heap)(a:Addr)(K:Nat×Nat→Prop):Prop:= ∃n:Nat×Nat,hget h a=some (.complex k n.1 n.2)∧K n
def DC(h:Heap)(a:Addr)(K:Option Nat→Prop):Prop:= ∃r,hget h a=some (.map r)∧K r
def Store(h:Heap)(a:Addr)(v:Value)(K:Heap→Prop):Prop:=(∃ u,hget h a=some u)∧hfro h a=false∧K (hset h a v)
def Idx(p:Option Addr)(len:Nat)(i:Int)(K:Addr→Prop):Prop:= ∃a,p=some a∧(0≤i∧i<len)∧K a
def Chk(c K:Prop):Prop:=c∧K
def Join {σ:Type}(K0:σ→Heap→Prop)(body:(σ→Heap→Prop)→Prop):Prop:= ∀K:σ→Heap→Prop,(∀ x h,K0 x h→K x h)→body K
def Loop {σ:Type}(F:(σ→Heap→Prop)→σ→Heap→Prop)(x:σ)(h:Heap):Prop:= ∀K:σ→Heap→Prop,(∀ x h,F K x h→K x h)→K x h
def BK(A:Amb)(P:Program)(m:Sem Value)(h:Heap)(K:Value→Heap→Prop):Prop:= ∀n,∃v h' n',m.run P (A.at h n)= .ok v (A.at h' n')∧K v h'
def AA(A:Amb)(P:Program)(f:FuncId)(args:Array Value)(h:Heap)(R:Value→Heap→Prop):Prop:=
 ∀n,Calls P f args (A.at h n) fun e w'=> ∃v,e= .returned v∧ ∃h' n',w'=A.at h' n'∧R v h'
theorem AA.mono {A:Amb}{P:Program}{f:FuncId}{args:Array Value}{h:Heap}{R R':Value→Heap→Prop}(H:AA A P f args h R)(hr: ∀v h,R v h→R' v h):AA A P f args h R':=
 fun n=>Calls.mono (H n) fun _ _ ⟨v,he,h',n',hw,hR⟩=>⟨v,he,h',n',hw,hr _ _ hR⟩
def FE(A:Amb)(P:Program)(fv:Value)(args:Array Value)(h:Heap)(R:Value→Heap→Prop):Prop:=
 ∀n,Next.out P (fun v w'=> ∃h' n',w'=A.at h' n'∧R v h') ((do let d ←Deferred.ofValue fv args;invoke d.target d.args:Sem Next).run P (A.at h n))
theorem FE.mono {A:Amb}{P:Program}{fv:Value}{args:Array Value}{h:Heap}{R R':Value→Heap→Prop}(H:FE A P fv args h R)(hr: ∀v h,R v h→R' v h):FE A P fv args h R':=
 fun n=>Next.out_mono (fun _ _ ⟨h',n',hw,hR⟩=>⟨h',n',hw,hr _ _ hR⟩) (H n)
theorem Qs {a b:Nat}(h:a≠b):Nat.beq a b=false:=by
 cases hb:Nat.beq a b with
 |false=>rfl
 |true=>exact absurd (Nat.eq_of_beq_eq_true hb) h
structure Env where
 get:Nat→Option Value
 ds:List Nat
def V8(r:Nat):Deferred:= {target:= .collected r,args:= #[]}
structure Fits (N:Nat) (a:Act) (e:Env):Prop where
 size:a.tmps.size=N
 get: ∀t v,e.get t=some v→a.tmps[t]? =some v
 ds:a.defers=e.ds.map V8
def Env.set(e:Env)(d:Nat)(v:Value):Env:= {get:=fun t=>bif Nat.beq t d then some v else e.get t,ds:=e.ds}
def Env.put(e:Env)(d:Option Tmp)(v:Value):Env:=match d with|none=>e|some d=>e.set d v
def AG3(N:Nat)(d:Option Tmp):Bool:=match d with|none=>true|some d=>Nat.blt d N
theorem Fits.set {N:Nat}{a:Act}{e:Env}(H:Fits N a e){d:Nat}{v:Value}(hd:d<N):Fits N (a.put (some d) v) (e.set d v):=by
 refine⟨by simp[Act.put,H.size],?_,H.ds⟩
 intro t u hu
 unfold Env.set at hu
 simp only at hu
 by_cases htd:t=d
 ·subst htd
  have:Nat.beq t t=true:=by simp
  rw[this] at hu
  simp only[cond_true,Option.some.injEq] at hu
  subst hu
  simp[Act.put,H.size,hd]
 ·have:Nat.beq t d=false:=Qs htd
  rw[this] at hu
  simp only[cond_false] at hu
  have:=H.get t u hu
  simp only[Act.put]
  rw[Array.getElem?_setIfInBounds_ne (Ne.symm htd)]
  exact this
theorem Fits.put {N:Nat}{a:Act}{e:Env}(H:Fits N a e){d:Option Tmp}{v:Value}(hd:AG3 N d=true):Fits N (a.put d v) (e.put d v):=by
 cases d with
 |none=>exact H
 |some d=>exact H.set (by simpa [AG3] using hd)
theorem Fits.know {N:Nat}{a:Act}{e:Env}(H:Fits N a e){d:Nat}{v:Value}(hv:a.tmps[d]? =some v):Fits N a (e.set d v):=by
 refine⟨H.size,?_,H.ds⟩
 intro t u hu
 unfold Env.set at hu
 simp only at hu
 by_cases htd:t=d
 ·subst htd
  have:Nat.beq t t=true:=by simp
  rw[this] at hu
  simp only[cond_true,Option.some.injEq] at hu
  rw[← hu];exact hv
 ·have:Nat.beq t d=false:=Qs htd
  rw[this] at hu
  exact H.get t u hu
def rdv(e:Env)(x:Operand):Option Value:=
 match x with
 | .tmp t=>e.get t
 | .const v=>some v
 | .global g=>some (.pointer (some ⟨g,0,none⟩))
 | .func f=>some (.func (.func f) #[] #[])
theorem Fits.rdv {N:Nat}{a:Act}{e:Env}(H:Fits N a e){x:Operand}{v:Value}(hv:rdv e x=some v):a.eval x=v:=by
 cases x with
 |tmp t=>
  have:=H.get t v hv
  simp only[Act.eval]
  simp[this]
 |const u=>simpa [Lf.rdv,Act.eval] using hv
 |global g=>simpa [Lf.rdv,Act.eval] using hv
 |func f=>simpa [Lf.rdv,Act.eval] using hv
def rd(e:Env)(x:Operand)(K:Value→Prop):Prop:=match rdv e x with|some v=>K v|none=>False
theorem BB {N:Nat}{a:Act}{e:Env}(H:Fits N a e){x:Operand}{K:Value→Prop}(h:rd e x K):K (a.eval x):=by
 unfold rd at h
 cases hx:rdv e x with
 |none=>rw[hx] at h;exact h.elim
 |some v=>rw[hx] at h;rw[H.rdv hx];exact h
def ρof(e:Env)(x:Operand):Value:=match rdv e x with|some v=>v|none=>undef
def known(e:Env)(l:List Operand)(K:Prop):Prop:=match l with| []=>K|x::r=>(match rdv e x with|some _=>known e r K|none=>False)
theorem Ip {N:Nat}{a:Act}{e:Env}(H:Fits N a e){K:Prop}: ∀ {l:List Operand},known e l K→(∀ x∈l,ρof e x=a.eval x)∧K
 | [],h=>⟨fun _ h=>(by cases h),h⟩
 |x::r,h=>by
  unfold known at h
  cases hx:rdv e x with
  |none=>rw[hx] at h;exact h.elim
  |some v=>
   rw[hx] at h
   obtain⟨h1,h2⟩:=Ip H h
   refine⟨fun y hy=>?_,h2⟩
   rcases List.mem_cons.1 hy with rfl|hy
   ·unfold ρof;rw[hx,H.rdv hx]
   ·exact h1 y hy
end Go.Lf
namespace Go
open Lf
def Sem.calc {α:Type}(P:Program):Sem α→Option α
 | .pure a=>some a
 | .program f=>(f P).calc P
 |_=>none
end Go
namespace Go.Lf
theorem Jg {α:Type}{P:Program}{s:Sem α}: ∀ {a:α},s.calc P=some a→ ∀w,s.run P w= .ok a w:=by
 induction s with
 |pure a=>intro b h w;simp only[Sem.calc,Option.some.injEq] at h;subst h;rfl
 |program f ih=>intro b h w;exact ih P h w
 |_=>intro b h;simp only[Sem.calc] at h;cases h
def Rz {α:Type}(P:Program)(s:Sem α)(K:α→Prop):Prop:=match s.calc P with|some a=>K a|none=>False
theorem KG {α:Type}{P:Program}{s:Sem α}{K:α→Prop}(h:Rz P s K): ∃a,(∀ w,s.run P w= .ok a w)∧K a:=by
 unfold Rz at h
 cases hs:s.calc P with
 |none=>rw[hs] at h;exact h.elim
 |some a=>rw[hs] at h;exact⟨a,Jg hs,h⟩
def Jj:Value→Bool
 | .agg _| .tuple _=>false
 |_=>true
end Go.Lf
namespace Go
open Lf
def Sem.vc {α:Type}(P:Program):Sem α→Heap→(α→Heap→Prop)→Prop
 | .pure a,h,K=>K a h
 | .program f,h,K=>(f P).vc P h K
 | .new o f,h,K=>New h o fun b h'=>(f b).vc P h' K
 | .load _ a f,h,K=>PP h a fun v=>(f v).vc P h K
 | .store _ a v f,h,K=>match Jj v with|true=>Store h a v fun h'=>f.vc P h' K|false=>False
 | .mark _ f,h,K=>f.vc P h K
 |_,_,_=>False
end Go
namespace Go.Lf
theorem YJ {α:Type}{A:Amb}{P:Program}{m:Mode}{a:Addr}{v u:Value}{f:Sem α}{h:Heap}{n:Nat}(ho:Jj v=true)(hu:hget h a=some u)(hf:hfro h a=false):
  (Sem.store m a v f).run P (A.at h n)=f.run P (A.at (hset h a v) n):=by
 have h1:(A.at h n).cell? a=some u:=hu
 have h2:(A.at h n).frozen? a=false:=hf
 cases v<;>first|(simp [Jj] at ho;done)|(simp [Sem.run,h1,h2,setCell_at])
theorem AJ8 {α:Type}{A:Amb}{P:Program}{s:Sem α}: ∀ {h:Heap} {K:α→Heap→Prop},s.vc P h K→ ∀n,∃v h' n',s.run P (A.at h n)= .ok v (A.at h' n')∧K v h':=by
 induction s with
 |pure a=>intro h K hk n;exact⟨a,h,n,rfl,hk⟩
 |program f ih=>intro h K hk n;exact ih P hk n
 |mark m f ih=>intro h K hk n;exact ih hk n
 |new o f ih=>intro h K hk n;exact ih _ hk n
 |load m a f ih=>
  intro h K hk n
  obtain⟨v,hv,hk⟩:=hk
  obtain⟨v',h',n',hr,hk'⟩:=ih v hk n
  refine⟨v',h',n',?_,hk'⟩
  simp only[Sem.run,ALu,hv]
  exact hr
 |store m a v f ih=>
  intro h K hk n
  unfold Sem.vc at hk
  cases ho:Jj v with
  |false=>rw[ho] at hk;exact hk.elim
  |true=>
   rw[ho] at hk
   obtain⟨⟨u,hu⟩,hf,hk⟩:=hk
   obtain⟨v',h',n',hr,hk'⟩:=ih hk n
   refine⟨v',h',n',?_,hk'⟩
   rw[YJ ho hu hf]
   exact hr
 |shape r f _=>intro h K hk;exact hk.elim
 |freeze a n f _=>intro h K hk;exact hk.elim
 |frozen a f _=>intro h K hk;exact hk.elim
 |getObj r f _=>intro h K hk;exact hk.elim
 |setObj r o f _=>intro h K hk;exact hk.elim
 |choose q f _=>intro h K hk;exact hk.elim
 |sys c f _=>intro h K hk;exact hk.elim
 |halt x=>intro h K hk;exact hk.elim
inductive Sc where
 |int (k:IntKind)|bool|str|ptr|sl|map|any|flt (k:FloatKind)|cpx (k:FloatKind)
def Sc.Ty:Sc→Type
 | .int _=>Int
 | .bool=>Bool
 | .str=>ByteArray
 | .ptr=>Option Addr
 | .sl=>Sl
 | .map=>Option Nat
 | .any=>Value
 | .flt _=>Nat
 | .cpx _=>Nat×Nat
def Sc.val:(s:Sc)→s.Ty→Value
 | .int k,(n:Int)=> .int k n
 | .bool,(b:Bool)=> .bool b
 | .str,(s:ByteArray)=> .string s
 | .ptr,(p:Option Addr)=> .pointer p
 | .sl,(s:Sl)=> .slice s.p s.len s.cap
 | .map,(r:Option Nat)=> .map r
 | .any,(v:Value)=>v
 | .flt k,(n:Nat)=> .float k n
 | .cpx k,(n:Nat×Nat)=> .complex k n.1 n.2
def Sc.load(h:Heap)(a:Addr):(s:Sc)→(s.Ty→Prop)→Prop
 | .int k,K=>Aa k h a K
 | .bool,K=>Ab h a K
 | .str,K=>AL h a K
 | .ptr,K=>AP h a K
 | .sl,K=>AZ h a K
 | .map,K=>DC h a K
 | .any,K=>PP h a K
 | .flt k,K=>ANU k h a K
 | .cpx k,K=>ANI k h a K
theorem Sc.load_sound {h:Heap}{a:Addr}: ∀ {s:Sc} {K:s.Ty→Prop},s.load h a K→ ∃x,hget h a=some (s.val x)∧K x
 | .int _,_,hk=>hk
 | .bool,_,hk=>hk
 | .str,_,hk=>hk
 | .ptr,_,hk=>hk
 | .sl,_,hk=>hk
 | .map,_,hk=>hk
 | .any,_,hk=>hk
 | .flt _,_,hk=>hk
 | .cpx _,_,hk=>hk
def ADc(h:Heap)(a:Addr):Nat→List Sc→(List Value→Prop)→Prop
 |_,[],K=>K []
 |i,s::l,K=>s.load h (a.add i) fun x=>ADc h a (i+1) l fun vs=>K (s.val x::vs)
def AKe:List Sc→(List Value→Prop)→Prop
 | [],K=>K []
 |s::l,K=> ∃x:s.Ty,AKe l fun vs=>K (s.val x::vs)
theorem Wt: ∀ {l:List Sc} {K:List Value→Prop},AKe l K→ ∃vs,K vs
 | [],_,h=>⟨[],h⟩
 |_::_,_,⟨_,h⟩=>let ⟨vs,hv⟩:=Wt h;⟨_,hv⟩
def YT(P:Program):Nat→TypeId→List Sc
 |0,_=> []
 |d+1,t=>
  match P.underlying t with
  |some .bool=> [.bool]
  |some (.int k)=> [.int k]
  |some (.float k)=> [.flt k]
  |some (.complex k)=> [.cpx k]
  |some .string=> [.str]
  |some (.pointer _)=> [.ptr]
  |some (.slice _)=> [.sl]
  |some (.map _ _)=> [.map]
  |some (.struct fs)=>fs.toList.flatMap fun f=>YT P d f.type
  |some (.array n e)=>(List.replicate n (YT P d e)).flatten
  |_=> [.any]
def SY(P:Program)(t:TypeId):Bool:=match P.underlying t with|some (.struct _)=>true|some (.array _ _)=>true|_=>false
mutual
def exT(P:Program):Nat→TypeId→(Value→Prop)→Prop
 |0,_,K=> ∃v,K v
 |d+1,t,K=>
  match P.underlying t with
  |some (.tuple ts)=>AK9 P d ts.toList fun us=>K (.tuple us.toArray)
  |_=>match SY P t with
   |true=>AKe (YT P 20 t) fun us=>K (.agg us.toArray)
   |false=>match YT P 20 t with
    | [s]=> ∃x:s.Ty,K (s.val x)
    |_=>False
def AK9(P:Program):Nat→List TypeId→(List Value→Prop)→Prop
 |_,[],K=>K []
 |0,_::_,_=>False
 |d+1,t::ts,K=>exT P d t fun u=>AK9 P d ts fun us=>K (u::us)
end
theorem AKF(P:Program): ∀d,(∀ (t:TypeId) (K:Value→Prop),exT P d t K→ ∃v,K v)∧(∀ (ts:List TypeId) (K:List Value→Prop),AK9 P d ts K→ ∃vs,K vs):=by
 intro d
 induction d with
 |zero=>
  refine⟨fun t K h=>h,fun ts K h=>?_⟩
  cases ts with
  |nil=>exact⟨[],h⟩
  |cons t ts=>exact h.elim
 |succ d ih=>
  refine⟨fun t K h=>?_,fun ts K h=>?_⟩
  ·unfold exT at h
   split at h
   ·exact let ⟨us,hu⟩:=ih.2 _ _ h;⟨_,hu⟩
   ·split at h
    ·exact let ⟨us,hu⟩:=Wt h;⟨_,hu⟩
    ·split at h
     ·exact let ⟨x,hx⟩:=h;⟨_,hx⟩
     ·exact h.elim
  ·cases ts with
   |nil=>exact⟨[],h⟩
   |cons t ts=>
    unfold AK9 at h
    obtain⟨u,h⟩:=ih.1 _ _ h
    obtain⟨us,h⟩:=ih.2 _ _ h
    exact⟨_,h⟩
def NJ(P:Program)(t:TypeId)(v:Value)(K:Value→Prop):Prop:=exT P 8 t fun u=>v=u∧K u
theorem Lx {P:Program}{t:TypeId}{v:Value}{K:Value→Prop}(h:NJ P t v K):K v:=by
 obtain⟨u,rfl,h⟩:=(AKF P 8).1 _ _ h
 exact h
end Go.Lf

/-
 LIFT, part D: one operation's formula.
-/
namespace Go.Lf
def sEq(a b:ByteArray):Bool:=a.toList==b.toList
def sLt(a b:ByteArray):Bool:=Op.bytesLess a.toList b.toList
def sAt(s:ByteArray)(i:Int):Int:=((s[i.toNat]?).getD 0).toNat
def RJ(P:Program)(t:TypeId)(y:Operand):Bool:=
 match P.underlying t with
 |some (.pointer _)=>match y with| .const (.pointer none)=>true|_=>false
 |some (.slice _)=>match y with| .const (.slice none 0 0)=>true|_=>false
 |some (.map _ _)=>match y with| .const (.map none)=>true|_=>false
 |some (.func _ _ _)=>match y with| .const .nilFunc=>true|_=>false
 |some (.interface _)=>match y with| .const .nilIface=>true|_=>false
 |_=>false
def ACQ:Value→Prop
 | .func .. =>True
 | .nilFunc=>True
 |_=>False
def P7:Value→Bool
 | .nilFunc=>true
 |_=>false
def ALJ:Value→Prop
 | .iface .. =>True
 | .nilIface=>True
 |_=>False
def Xv:Value→Bool
 | .nilIface=>true
 |_=>false
def AJh(P:Program)(t:TypeId)(v:Value)(K:Bool→Prop):Prop:=
 match P.underlying t with
 |some (.pointer _)=>match v with| .pointer p=>K p.isNone|_=>False
 |some (.slice _)=>match v with| .slice p _ _=>K p.isNone|_=>False
 |some (.map _ _)=>match v with| .map r=>K r.isNone|_=>False
 |some (.func _ _ _)=>Chk (ACQ v) (K (P7 v))
 |some (.interface _)=>Chk (ALJ v) (K (Xv v))
 |_=>False
def R5(op:BinOp)(b:Bool):Value:=match op with| .eql=> .bool b|_=> .bool !b
def AMF(op:BinOp)(v u:Value)(K:Value→Prop):Prop:=
 match v,u with
 | .int k a,.int k' b=>
  match decide (k=k') with
  |true=>match op with
   | .quo=>Chk (b≠0) (K (.int k (k.wrap (a.tdiv b))))
   | .rem=>Chk (b≠0) (K (.int k (a.tmod b)))
   |_=>False
  |false=>False
 |_,_=>False
def shK(op:BinOp)(v u:Value)(K:Value→Prop):Prop:=
 match v,u with
 | .int k a,.int _ b=>
  match op with
  | .shl=>Chk (0≤b) (K (.int k (k.wrap (a*2^(min b.toNat k.bits)))))
  | .shr=>Chk (0≤b) (K (.int k (a.fdiv (2^(min b.toNat k.bits)))))
  |_=>False
 |_,_=>False
def AMq(v u:Value)(K:Value→Prop):Prop:=
 match v,u with
 | .string a,.string b=>Chk (((a.size+b.size:Nat):Int)≤IntKind.i64.max) (K (.string (a++b)))
 |_,_=>False
inductive AMz where
 |reck|div|shift|cat|nilY|nilX|no
def isConst:Operand→Bool
 | .const _=>true
 |_=>false
def QA(P:Program)(op:BinOp)(t:TypeId)(x y:Operand):AMz:=
 match op with
 | .quo| .rem=>match P.underlying t with|some (.int _)=>(match isConst y with|true=> .reck|false=> .div)|_=> .no
 | .shl| .shr=>match isConst y with|true=> .reck|false=> .shift
 | .add=>match P.underlying t with|some .string=> .cat|some (.int _)=> .reck|_=> .no
 | .eql| .neq=>
  match P.underlying t with
  |some (.int _)=> .reck
  |some .string=> .reck
  |some .bool=> .reck
  |some (.pointer _)|some (.slice _)|some (.map _ _)|some (.func _ _ _)|some (.interface _)=>(match RJ P t y with|true=> .nilY|false=>match RJ P t x with|true=> .nilX|false=> .no)
  |_=> .no
 |_=>match P.underlying t with|some (.int _)=> .reck|some .string=> .reck|_=> .no
def AMP(P:Program)(op:BinOp)(t:TypeId)(x y:Operand)(v u:Value)(K:Value→Prop):Prop:=
 match QA P op t x y with
 | .reck=>Rz P (do eqGuard op t x y v u;binOp op t v u) K
 | .div=>AMF op v u K
 | .shift=>shK op v u K
 | .cat=>AMq v u K
 | .nilY=>AJh P t v fun b=>K (R5 op b)
 | .nilX=>AJh P t u fun b=>K (R5 op b)
 | .no=>False
def Xx(P:Program)(t:TypeId)(v i:Value)(K:Value→Prop):Prop:=
 match P.underlying t with
 |some (.slice el)=>match v,i,P.info? el with
  | .slice p len _,.int _ n,some ei=>Idx p len n fun a=>K (.pointer (some (a.add (n.toNat*ei.size))))
  |_,_,_=>False
 |some (.array len el)=>match v,i,P.info? el with
  | .pointer p,.int _ n,some ei=>At p fun a=>Chk (0≤n∧n<(len:Int)) (K (.pointer (some (a.add (n.toNat*ei.size)))))
  |_,_,_=>False
 |_=>False
def AFq(P:Program)(t:TypeId)(v i:Value)(K:Value→Prop):Prop:=
 match P.underlying t with
 |some .string=>match v,i with
  | .string s,.int _ n=>Chk (0≤n∧n<(s.size:Int)) (K (.int .u8 (sAt s n)))
  |_,_=>False
 |some (.array _ _)=>Rz P (Instr.index t v i) K
 |_=>False
def YW(x:Option Value)(d max:Nat)(K:Nat→Prop):Prop:=
 match x with
 |some (.int _ n)=>Chk (0≤n∧n≤(max:Int)) (K n.toNat)
 |none=>K d
 |_=>False
def Ao(p:Option Addr)(cap l size:Nat):Option Addr:=if cap=l then p else p.map (·.add (l*size))
def AGG(P:Program)(t:TypeId)(v:Value)(lo hi:Option Value)(K:Value→Prop):Prop:=
 match P.underlying t with
 |some .string=>match v with
  | .string s=>YW hi s.size s.size fun h=>YW lo 0 h fun l=>K (.string (s.extract l h))
  |_=>False
 |some (.slice el)=>match v,P.info? el with
  | .slice p len cap,some ei=>YW hi len cap fun h=>YW lo 0 h fun l=>K (.slice (Ao p cap l ei.size) (h-l) (cap-l))
  |_,_=>False
 |some (.array n el)=>match v,P.info? el with
  | .pointer p,some ei=>At p fun a=>YW hi n n fun h=>YW lo 0 h fun l=>K (.slice (some (if n=l then a else a.add (l*ei.size))) (h-l) (n-l))
  |_,_=>False
 |_=>False
def ACI(P:Program)(t:TypeId)(v:Value)(lo hi:Option Value)(mx:Value)(K:Value→Prop):Prop:=
 match P.underlying t with
 |some (.slice el)=>match v,P.info? el,hi,mx with
  | .slice p _ cap,some ei,some (.int _ hn),.int _ mn=>Chk (0≤mn∧mn≤(cap:Int)) (Chk (0≤hn∧hn≤(mn.toNat:Int)) (YW lo 0 hn.toNat fun l=>K (.slice (Ao p mn.toNat l ei.size) (hn.toNat-l) (mn.toNat-l))))
  |_,_,_,_=>False
 |_=>False
def AJr(c:Bool)(a b:Option Value)(K:Value→Prop):Prop:=
 match a,b with
 |some (.bool x),some (.bool y)=>K (.bool (cond c x y))
 |some x,some y=>PIf c (K x) (K y)
 |some x,none=>PIf c (K x) False
 |none,some y=>PIf c False (K y)
 |none,none=>False
def AHn(v:Value)(K:Value→Prop):Prop:=
 match v with
 | .pointer p=>At p fun a=>K (.pointer (some a))
 |_=>False
def AJ3(e:Env)(x:Option Operand)(K:Option Value→Prop):Prop:=match x with|none=>K none|some x=>rd e x fun v=>K (some v)
def T9(b:Bool)(K:Prop):Prop:=match b with|true=>K|false=>False
def ZQ(P:Program)(t:TypeId)(v:Value)(K:Array Value→Prop):Prop:=
 match SY P t with
 |true=>K v.cells
 |false=>T9 (Jj v) (K #[v])
theorem AF8 {v:Value}(h:Jj v=true):v.cells= #[v]:=by cases v<;>first|rfl|(simp [Jj] at h)
theorem PE {P:Program}{t:TypeId}{v:Value}{K:Array Value→Prop}(h:ZQ P t v K):K v.cells:=by
 unfold ZQ at h
 split at h
 ·exact h
 ·cases ho:Jj v with
  |false=>rw[ho] at h;exact h.elim
  |true=>rw[ho] at h;rw[AF8 ho];exact h
def AB1(place:Nat→Option (Nat×Nat))(cells:Array Value):List (Nat×Array Value)→Option (Array Value)
 | []=>some cells
 |(i,cs)::rest=>
  match place i with
  |none=>none
  |some (off,size)=>
   if cs.size≠size||off+cs.size>cells.size then none
   else AB1 place (cs.zipIdx.foldl (fun xs (c,j)=>xs.setIfInBounds (off+j) c) cells) rest
theorem Xf(place:Nat→Option (Nat×Nat)): ∀(l:List (Nat×Value)) (cells:Array Value),Instr.fill place cells l=AB1 place cells (l.map fun p=>(p.1,p.2.cells))
 | [],cells=>rfl
 |(i,v)::rest,cells=>by
  simp only[Instr.fill,List.map_cons,AB1]
  cases place i with
  |none=>rfl
  |some p=>obtain⟨off,size⟩:=p;simp only[];split<;>first|rfl|exact Xf place rest _
def AMY(P:Program)(t:TypeId)(i:Nat):Option TypeId:=
 match P.underlying t with
 |some (.struct fs)=>(fs[i]?).map (·.type)
 |some (.array _ e)=>some e
 |some (.slice e)=>some e
 |_=>none
def Xw(P:Program)(t:TypeId)(e:Env):List (Nat×Operand)→(List (Nat×Array Value)→Prop)→Prop
 | [],K=>K []
 |(i,x)::r,K=>match AMY P t i with
  |some ft=>rd e x fun v=>ZQ P ft v fun cs=>Xw P t e r fun l=>K ((i,cs)::l)
  |none=>False
def placesOf(P:Program):List Field→Option (List (Nat×Nat))
 | []=>some []
 |f::r=>match P.info? f.type with
  |some i=>match placesOf P r with
   |some l=>some ((f.offset,i.size)::l)
   |none=>none
  |none=>none
def AFj(P:Program)(t:TypeId)(parts:List (Nat×Array Value)):Option (Array Value):=
 match P.info? t with
 |some i=>match i.zero with
  |some z=>match P.underlying t with
   |some (.struct fs)=>match placesOf P fs.toList with
    |some l=>AB1 (l.toArray[·]?) z.cells parts
    |none=>none
   |some (.array _ el)=>match P.info? el with
    |some ei=>AB1 (fun j=>some (j*ei.size,ei.size)) z.cells parts
    |none=>none
   |_=>none
  |none=>none
 |none=>none
def AMW(P:Program)(t:TypeId)(parts:Array (Nat×Operand))(e:Env)(K:Value→Prop):Prop:=
 Xw P t e parts.toList fun l=>match AFj P t l with|some cells=>K (.agg cells)|none=>False
def AG2(P:Program)(o:Oper)(e:Env)(K:Value→Prop):Prop:=
 match o.op with
 | .nilCheck x=>rd e x fun v=>AHn v K
 | .binOp op t x y _=>rd e x fun v=>rd e y fun u=>AMP P op t x y v u K
 | .indexAddr t x i=>rd e x fun v=>rd e i fun u=>Xx P t v u K
 | .index t x i=>rd e x fun v=>rd e i fun u=>AFq P t v u K
 | .slice t x lo hi mx=>match mx with
  |none=>rd e x fun v=>AJ3 e lo fun l=>AJ3 e hi fun h=>AGG P t v l h K
  |some m=>rd e x fun v=>AJ3 e lo fun l=>AJ3 e hi fun h=>rd e m fun mv=>ACI P t v l h mv K
 | .pick c a b=>rd e c fun v=>match v with| .bool c=>AJr c (rdv e a) (rdv e b) K|_=>False
 | .build t parts=>AMW P t parts e K
 |_=>known e o.op.operands.toList (Rz P (execOp (ρof e) o) fun x=>match x with| .value v=>K v|_=>False)
theorem At.mk {p:Option Addr}{K:Addr→Prop}(h:At p K): ∃a,p=some a∧K a:=by
 cases p with
 |none=>exact h.elim
 |some a=>exact⟨a,rfl,h⟩
theorem YP {P:Program}{s:Sem Value}{v:Value}{w w':World}(h:s.run P w= .ok v w'):(do pure (.value (← s)):Sem Next).run P w= .ok (.value v) w':=by
 rw[Sem.run_bind,h];rfl
theorem ANK {P:Program}{s:Sem Unit}{w w':World}(h:s.run P w= .ok () w'):(do s;pure .skip:Sem Next).run P w= .ok .skip w':=by
 rw[Sem.run_bind,h];rfl
section
variable {P : Program} {w : World}
theorem Av {t:TypeId}{d:TypeDesc}(h:P.underlying t=some d):(underlying t).run P w= .ok d w:=run_underlying h w
theorem AEi {t:TypeId}{i:TypeInfo}(h:P.info? t=some i):(typeInfo t).run P w= .ok i w:=by simp[typeInfo,h]
theorem run_sizeOf {t:TypeId}{i:TypeInfo}(h:P.info? t=some i):(sizeOf t).run P w= .ok i.size w:=by simp[sizeOf,AEi h]
def QP(P:Program)(t:TypeId):Option Value:=
 match P.underlying t with
 |some (.pointer _)=>some (.pointer none)
 |some (.slice _)=>some (.slice none 0 0)
 |some (.map _ _)=>some (.map none)
 |some (.func _ _ _)=>some .nilFunc
 |some (.interface _)=>some .nilIface
 |_=>none
theorem UO {t:TypeId}{y:Operand}(h:RJ P t y=true): ∃u,y= .const u∧QP P t=some u:=by
 unfold RJ at h
 unfold QP
 split at h<;>first|(cases h;done)|(split at h<;>first|(cases h;done)|exact⟨_,rfl,rfl⟩)
theorem ACn(d:Nat){t:TypeId}{v u:Value}{K:Bool→Prop}(h:AJh P t v K)(hu:QP P t=some u):
  ∃b,(∀ w,(Op.equalIn (d+1) t v u).run P w= .ok b w)∧(∀ w,(Op.equalIn (d+1) t u v).run P w= .ok b w)∧K b:=by
 unfold AJh at h
 unfold QP at hu
 cases ht:P.underlying t with
 |none=>rw[ht] at h;exact h.elim
 |some ty=>
  rw[ht] at h hu
  cases ty<;>simp only[] at h hu<;>try exact h.elim
  case pointer el=>
   simp only[Option.some.injEq] at hu
   subst hu
   cases v<;>simp only[] at h<;>try exact h.elim
   case pointer p=>
    refine⟨_,fun w=>?_,fun w=>?_,h⟩
    ·cases p<;>simp[Op.equalIn,Av ht]
    ·cases p<;>simp[Op.equalIn,Av ht]
  case slice el=>
   simp only[Option.some.injEq] at hu
   subst hu
   cases v<;>simp only[] at h<;>try exact h.elim
   case slice p a b=>
    refine⟨_,fun w=>?_,fun w=>?_,h⟩
    ·cases p<;>simp[Op.equalIn,Av ht]
    ·cases p<;>simp[Op.equalIn,Av ht]
  case map k el=>
   simp only[Option.some.injEq] at hu
   subst hu
   cases v<;>simp only[] at h<;>try exact h.elim
   case map p=>
    refine⟨_,fun w=>?_,fun w=>?_,h⟩
    ·cases p<;>simp[Op.equalIn,Av ht]
    ·cases p<;>simp[Op.equalIn,Av ht]
  case func ps rs vr=>
   simp only[Option.some.injEq] at hu
   subst hu
   obtain⟨hf,h⟩:=h
   cases v<;>simp only[ACQ] at hf
   ·refine⟨_,fun w=>?_,fun w=>?_,h⟩<;>simp[Op.equalIn,Av ht,P7]
   ·refine⟨_,fun w=>?_,fun w=>?_,h⟩<;>simp[Op.equalIn,Av ht,P7]
  case interface ms=>
   simp only[Option.some.injEq] at hu
   subst hu
   obtain⟨hf,h⟩:=h
   cases v<;>simp only[ALJ] at hf
   ·refine⟨_,fun w=>?_,fun w=>?_,h⟩<;>simp[Op.equalIn,Av ht,Xv]
   ·refine⟨_,fun w=>?_,fun w=>?_,h⟩<;>simp[Op.equalIn,Av ht,Xv]
end
end Go.Lf

/-
 LIFT, part E: what the formula of an operation stands for: operations that read no memory.
-/
namespace Go.Lf
section
variable {P : Program}
def PR(P:Program)(s:Sem Value)(K:Value→Prop):Prop:= ∃v,(∀ w,s.run P w= .ok v w)∧K v
theorem AAt {N:Nat}{a:Act}{e:Env}(H:Fits N a e){o:Oper}{K:Value→Prop}(hs:Dx o)
  (h:known e o.op.operands.toList (Rz P (execOp (ρof e) o) fun x=>match x with| .value v=>K v|_=>False)):
  ∃v,(∀ w,(execOp a.eval o).run P w= .ok (.value v) w)∧K v:=by
 obtain⟨h1,h2⟩:=Ip H h
 obtain⟨x,hx,hK⟩:=KG h2
 rw[execOp_congr o hs (fun x hx=>h1 x (by simpa using hx))] at hx
 cases x<;>simp only[] at hK
 exact⟨_,hx,hK⟩
theorem AH2 {op:BinOp}{t:TypeId}{x y:Operand}{v u:Value}{K:Value→Prop}(hop:op= .quo∨op= .rem)(h:AMF op v u K):PR P (do eqGuard op t x y v u;binOp op t v u) K:=by
 unfold AMF at h
 cases v<;>cases u<;>simp only[] at h<;>try exact h.elim
 rename_i k a k' b
 by_cases hk:k=k'
 ·subst hk
  rcases hop with rfl|rfl
  ·simp only[decide_true] at h
   obtain⟨hb,h⟩:=h
   exact⟨_,fun w=>by simp[eqGuard,binOp,Op.intDiv,hb],h⟩
  ·simp only[decide_true] at h
   obtain⟨hb,h⟩:=h
   exact⟨_,fun w=>by simp[eqGuard,binOp,Op.intDiv,hb],h⟩
 ·rw [decide_eq_false hk] at h
  exact h.elim
theorem AJS {op:BinOp}{t:TypeId}{x y:Operand}{v u:Value}{K:Value→Prop}(hop:op= .shl∨op= .shr)(h:shK op v u K):PR P (do eqGuard op t x y v u;binOp op t v u) K:=by
 unfold shK at h
 cases v<;>cases u<;>simp only[] at h<;>try exact h.elim
 rcases hop with rfl|rfl
 ·simp only[] at h
  obtain⟨hb,h⟩:=h
  exact⟨_,fun w=>by simp[eqGuard,binOp,Op.shift,Int.not_lt.2 hb],h⟩
 ·simp only[] at h
  obtain⟨hb,h⟩:=h
  exact⟨_,fun w=>by simp[eqGuard,binOp,Op.shift,Int.not_lt.2 hb],h⟩
theorem AIq {t:TypeId}{x y:Operand}{v u:Value}{K:Value→Prop}(h:AMq v u K):PR P (do eqGuard .add t x y v u;binOp .add t v u) K:=by
 unfold AMq at h
 cases v<;>cases u<;>simp only[] at h<;>try exact h.elim
 obtain⟨hb,h⟩:=h
 refine⟨_,fun w=>?_,h⟩
 have hb': ¬(((_:ByteArray).size+(_:ByteArray).size:Nat):Int)>IntKind.i64.max:=Int.not_lt.2 hb
 simp only[eqGuard,binOp,Op.stringOp,if_neg hb']
 rfl
theorem AHZ {t:TypeId}{v u:Value}{K:Bool→Prop}(h:AJh P t v K)(hu:QP P t=some u):
  ∃b,(∀ w,(Op.equal t v u).run P w= .ok b w)∧(∀ w,(Op.equal t u v).run P w= .ok b w)∧K b:=ACn 9999 h hu
theorem binOp_eql {op:BinOp}{t:TypeId}{v u:Value}{b:Bool}(hop:op= .eql∨op= .neq)(hu:QP P t=some u){w:World}(h:(Op.equal t v u).run P w= .ok b w):
  (binOp op t v u).run P w= .ok (R5 op b) w∧True:=by
 have hn:u= .pointer none∨u= .slice none 0 0∨u= .map none∨u= .nilFunc∨u= .nilIface:=by
  unfold QP at hu
  split at hu<;>simp at hu<;>subst hu<;>simp
 refine⟨?_,trivial⟩
 rcases hop with rfl|rfl
 ·rcases hn with rfl|rfl|rfl|rfl|rfl<;>cases v<;>simp[binOp,h,R5]
 ·rcases hn with rfl|rfl|rfl|rfl|rfl<;>cases v<;>simp[binOp,h,R5]
theorem AFf {op:BinOp}{t:TypeId}{v u:Value}{b:Bool}(hop:op= .eql∨op= .neq)(hu:QP P t=some u){w:World}(h:(Op.equal t u v).run P w= .ok b w):
  (binOp op t u v).run P w= .ok (R5 op b) w∧True:=by
 have hn:u= .pointer none∨u= .slice none 0 0∨u= .map none∨u= .nilFunc∨u= .nilIface:=by
  unfold QP at hu
  split at hu<;>simp at hu<;>subst hu<;>simp
 refine⟨?_,trivial⟩
 rcases hop with rfl|rfl
 ·rcases hn with rfl|rfl|rfl|rfl|rfl<;>cases v<;>simp[binOp,h,R5]
 ·rcases hn with rfl|rfl|rfl|rfl|rfl<;>cases v<;>simp[binOp,h,R5]
theorem Wo {op:BinOp}{t:TypeId}{x y:Operand}{v u:Value}{w:World}(hop:op= .eql∨op= .neq)(hu:QP P t=some u)(hc:(∃ c,x= .const c)∨(∃ c,y= .const c)):
  (eqGuard op t x y v u).run P w= .ok () w∧(eqGuard op t x y u v).run P w= .ok () w:=by
 have hn:u= .pointer none∨u= .slice none 0 0∨u= .map none∨u= .nilFunc∨u= .nilIface:=by
  unfold QP at hu
  split at hu<;>simp at hu<;>subst hu<;>simp
 clear hu
 rcases hop with rfl|rfl<;>rcases hc with⟨c,rfl⟩|⟨c,rfl⟩<;>rcases hn with rfl|rfl|rfl|rfl|rfl<;>cases v<;>exact⟨by simp[eqGuard],by simp[eqGuard]⟩
theorem AH9 {op:BinOp}{t:TypeId}{x y:Operand}{v u:Value}{K:Value→Prop}(hx: ∀c,x= .const c→v=c)(hy: ∀c,y= .const c→u=c)(h:AMP P op t x y v u K):
  PR P (do eqGuard op t x y v u;binOp op t v u) K:=by
 unfold AMP at h
 cases hc:QA P op t x y with
 |reck=>rw[hc] at h;exact KG h
 |no=>rw[hc] at h;exact h.elim
 |div=>
  rw[hc] at h
  refine AH2 ?_ h
  unfold QA at hc
  cases op<;>simp only[] at hc<;>first|exact .inl rfl|exact .inr rfl|(exfalso;split at hc<;>first|(cases hc;done)|(split at hc<;>first|(cases hc;done)|(split at hc<;>cases hc)))
 |shift=>
  rw[hc] at h
  refine AJS ?_ h
  unfold QA at hc
  cases op<;>simp only[] at hc<;>first|exact .inl rfl|exact .inr rfl|(exfalso;split at hc<;>first|(cases hc;done)|(split at hc<;>first|(cases hc;done)|(split at hc<;>cases hc)))
 |cat=>
  rw[hc] at h
  have:op= .add:=by
   unfold QA at hc
   cases op<;>simp only[] at hc<;>first|rfl|(exfalso;split at hc<;>first|(cases hc;done)|(split at hc<;>first|(cases hc;done)|(split at hc<;>cases hc)))
  subst this
  exact AIq h
 |nilY=>
  rw[hc] at h
  have hop:(op= .eql∨op= .neq)∧RJ P t y=true:=by
   unfold QA at hc
   cases op<;>simp only[] at hc<;>first
    |(refine⟨.inl rfl,?_⟩;split at hc<;>first|(cases hc;done)|(split at hc<;>first|assumption|(split at hc<;>cases hc)))
    |(refine⟨.inr rfl,?_⟩;split at hc<;>first|(cases hc;done)|(split at hc<;>first|assumption|(split at hc<;>cases hc)))
    |(exfalso;split at hc<;>first|(cases hc;done)|(split at hc<;>first|(cases hc;done)|(split at hc<;>cases hc)))
  obtain⟨hop,hn⟩:=hop
  obtain⟨c,hyc,hnc⟩:=UO hn
  have:=hy c hyc
  subst this
  obtain⟨b,h1,_,h3⟩:=AHZ h hnc
  refine⟨R5 op b,fun w=>?_,h3⟩
  rw[Sem.run_bind,(Wo hop hnc (.inr ⟨_,hyc⟩)).1]
  exact(binOp_eql hop hnc (h1 w)).1
 |nilX=>
  rw[hc] at h
  have hop:(op= .eql∨op= .neq)∧RJ P t x=true:=by
   unfold QA at hc
   cases op<;>simp only[] at hc<;>first
    |(refine⟨.inl rfl,?_⟩;split at hc<;>first|(cases hc;done)|(split at hc<;>first|(cases hc;done)|(split at hc<;>first|assumption|(cases hc;done))))
    |(refine⟨.inr rfl,?_⟩;split at hc<;>first|(cases hc;done)|(split at hc<;>first|(cases hc;done)|(split at hc<;>first|assumption|(cases hc;done))))
    |(exfalso;split at hc<;>first|(cases hc;done)|(split at hc<;>first|(cases hc;done)|(split at hc<;>cases hc)))
  obtain⟨hop,hn⟩:=hop
  obtain⟨c,hxc,hnc⟩:=UO hn
  have:=hx c hxc
  subst this
  obtain⟨b,_,h2,h3⟩:=AHZ h hnc
  refine⟨R5 op b,fun w=>?_,h3⟩
  rw[Sem.run_bind,(Wo hop hnc (.inl ⟨_,hxc⟩)).2]
  exact(AFf hop hnc (h2 w)).1
end
end Go.Lf

