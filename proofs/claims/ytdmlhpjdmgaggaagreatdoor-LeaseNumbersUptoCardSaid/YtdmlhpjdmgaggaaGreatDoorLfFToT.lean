/-
 LIFT, part F: what a formula stands for: addresses, slices, the whole of an operation that reads no memory; loads.
-/
import Derived.Test.YtdmlhpjdmgaggaaGreatDoorLfAToE
set_option linter.unusedVariables false
set_option linter.unusedSimpArgs false
namespace Go.Lf
section
variable {P : Program}
theorem AAT {t:TypeId}{v i:Value}{K:Value→Prop}(h:Xx P t v i K):PR P (Instr.indexAt t v i) K:=by
 unfold Xx at h
 split at h
 ·rename_i el ht
  split at h
  ·rename_i p len c k n ei hei
   obtain⟨a,rfl,⟨h0,h1⟩,h⟩:=h
   refine⟨_,fun w=>?_,h⟩
   simp[Instr.indexAt,asIntOf,Av ht,run_sizeOf hei,h0,h1]
  ·exact h.elim
 ·rename_i len el ht
  split at h
  ·rename_i p k n ei hei
   obtain⟨a,rfl,h⟩:=At.mk h
   obtain⟨⟨h0,h1⟩,h⟩:=h
   refine⟨_,fun w=>?_,h⟩
   simp[Instr.indexAt,asIntOf,Av ht,run_sizeOf hei,h0,h1,Instr.sureAddr]
  ·exact h.elim
 ·exact h.elim
theorem AEE {t:TypeId}{v i:Value}{K:Value→Prop}(h:AFq P t v i K):PR P (Instr.index t v i) K:=by
 unfold AFq at h
 split at h
 ·rename_i ht
  split at h
  ·rename_i s k n
   obtain⟨⟨h0,h1⟩,h⟩:=h
   refine⟨_,fun w=>?_,h⟩
   have hlt:n.toNat<s.size:=by omega
   have hs:s[n.toNat]? =some s[n.toNat]:=by simp[hlt]
   simp[Instr.index,asIntOf,Av ht,h0,hs,sAt]
  ·exact h.elim
 ·exact KG h
 ·exact h.elim
theorem Q4 {x:Option Value}{d max:Nat}{K:Nat→Prop}(h:YW x d max K):
  (x=none∧K d)∨ ∃k n,x=some (.int k n)∧0≤n∧n≤(max:Int)∧K n.toNat:=by
 unfold YW at h
 split at h
 ·rename_i k n
  obtain⟨⟨h0,h1⟩,h⟩:=h
  exact .inr ⟨k,n,rfl,h0,h1,h⟩
 ·exact .inl ⟨rfl,h⟩
 ·exact h.elim
theorem run_sliceBound {k:IntKind}{n:Int}{y:Nat}{code:BoundsCode}(h0:0≤n)(h1:n≤(y:Int))(w:World):
  (Instr.sliceBound (.int k n) y code).run P w= .ok n.toNat w:=by
 simp[Instr.sliceBound,asIntOf,h0,h1]
theorem Kg {b:Bool}{len cap:Nat}{lo hi:Option Value}{K:Nat→Nat→Prop}
  (hb:YW hi len cap fun h=>YW lo 0 h fun l=>K l h): ∃l h,(∀ w,(Instr.sliceBounds b len cap lo hi none).run P w= .ok (l,h,cap) w)∧K l h:=by
 obtain⟨e1,k1⟩|⟨k,n,e1,h0,h1,k1⟩:=Q4 hb
 ·obtain⟨e2,k2⟩|⟨k',n',e2,h0',h1',k2⟩:=Q4 k1
  ·exact⟨_,_,fun w=>by simp[Instr.sliceBounds,e1,e2],k2⟩
  ·exact⟨_,_,fun w=>by simp[Instr.sliceBounds,e1,e2,run_sliceBound h0' h1'],k2⟩
 ·obtain⟨e2,k2⟩|⟨k',n',e2,h0',h1',k2⟩:=Q4 k1
  ·exact⟨_,_,fun w=>by simp[Instr.sliceBounds,e1,e2,run_sliceBound h0 h1],k2⟩
  ·exact⟨_,_,fun w=>by simp[Instr.sliceBounds,e1,e2,run_sliceBound h0 h1,run_sliceBound h0' h1'],k2⟩
theorem AEg {t:TypeId}{v:Value}{lo hi:Option Value}{K:Value→Prop}(h:AGG P t v lo hi K):PR P (Instr.sliceAt t v lo hi none) K:=by
 unfold AGG at h
 split at h
 ·rename_i ht
  split at h
  ·rename_i s
   obtain⟨l,hh,hr,h⟩:=Kg (P:=P) (b:=false) h
   refine⟨_,fun w=>?_,h⟩
   simp[Instr.sliceAt,Instr.slice,Av ht,hr]
  ·exact h.elim
 ·rename_i el ht
  split at h
  ·rename_i p len cap ei hei
   obtain⟨l,hh,hr,h⟩:=Kg (P:=P) (b:=true) h
   refine⟨_,fun w=>?_,h⟩
   simp[Instr.sliceAt,Instr.slice,Av ht,hr,run_sizeOf hei,Ao]
  ·exact h.elim
 ·rename_i n el ht
  split at h
  ·rename_i p ei hei
   obtain⟨a,rfl,hk⟩:=At.mk h
   obtain⟨l,hh,hr,h⟩:=Kg (P:=P) (b:=false) hk
   refine⟨_,fun w=>?_,h⟩
   simp[Instr.sliceAt,Av ht,hr,run_sizeOf hei,Instr.sureAddr]
  ·exact h.elim
 ·exact h.elim
theorem ACa {t:TypeId}{v mx:Value}{lo hi:Option Value}{K:Value→Prop}(h:ACI P t v lo hi mx K):PR P (Instr.sliceAt t v lo hi (some mx)) K:=by
 unfold ACI at h
 split at h
 ·rename_i el ht
  split at h
  ·rename_i p len cap ei k hn k2 mn hei
   obtain⟨⟨m0,m1⟩,⟨h0,h1⟩,h⟩:=h
   obtain⟨e2,k2⟩|⟨k',n',e2,h0',h1',k2⟩:=Q4 h
   ·refine⟨_,fun w=>?_,k2⟩
    simp[Instr.sliceAt,Instr.slice,Instr.sliceBounds,Av ht,run_sizeOf hei,Ao,e2,run_sliceBound m0 m1,run_sliceBound h0 h1]
   ·refine⟨_,fun w=>?_,k2⟩
    simp[Instr.sliceAt,Instr.slice,Instr.sliceBounds,Av ht,run_sizeOf hei,Ao,e2,run_sliceBound m0 m1,run_sliceBound h0 h1,run_sliceBound h0' h1']
  ·exact h.elim
 ·exact h.elim
theorem PIf.mk {b:Bool}{X Y:Prop}(h:PIf b X Y):(b=true→X)∧(b=false→Y):=by
 cases b
 ·exact⟨fun h=>(by cases h),fun _=>h⟩
 ·exact⟨fun _=>h,fun h=>(by cases h)⟩
theorem AFx {c:Bool}{a b:Option Value}{va vb:Value}(ha: ∀v,a=some v→va=v)(hb: ∀v,b=some v→vb=v){K:Value→Prop}(h:AJr c a b K):
  K (if c then va else vb):=by
 unfold AJr at h
 split at h
 ·rename_i x y
  rw[ha _ rfl,hb _ rfl]
  cases c<;>exact h
 ·rename_i x y _
  rw[ha _ rfl,hb _ rfl]
  cases c<;>exact h
 ·rename_i x
  rw[ha _ rfl]
  cases c
  ·exact h.elim
  ·exact h
 ·rename_i y
  rw[hb _ rfl]
  cases c
  ·exact h
  ·exact h.elim
 ·exact h.elim
theorem OT {N:Nat}{a:Act}{e:Env}(H:Fits N a e){x:Option Operand}{K:Option Value→Prop}(h:AJ3 e x K):K (x.map a.eval):=by
 cases x with
 |none=>exact h
 |some x=>exact BB H h
theorem Ol {N:Nat}{a:Act}{e:Env}(H:Fits N a e){t:TypeId}: ∀ {l:List (Nat×Operand)} {K:List (Nat×Array Value)→Prop},Xw P t e l K→K (l.map fun p=>(p.1,(a.eval p.2).cells))
 | [],K,h=>h
 |(i,x)::r,K,h=>by
  unfold Xw at h
  split at h
  ·have h2:=PE (BB H h)
   have h3:=Ol H h2
   exact h3
  ·exact h.elim
theorem Wu: ∀(fs:List Field),placesOf P fs=fs.mapM (fun f=>(P.info? f.type).map fun i=>(f.offset,i.size))
 | []=>rfl
 |f::r=>by
  simp only[placesOf,List.mapM_cons,Option.bind_eq_bind,Option.pure_def,Wu r]
  cases P.info? f.type with
  |none=>rfl
  |some i=>simp only[Option.map_some,Option.bind_some];cases r.mapM (fun f=>(P.info? f.type).map fun i=>(f.offset,i.size))<;>rfl
theorem AGB {t:TypeId}{parts:Array (Nat×Value)}{cells:Array Value}(h:AFj P t (parts.toList.map fun p=>(p.1,p.2.cells))=some cells)(w:World):
  (Instr.build t parts).run P w= .ok (.agg cells) w:=by
 unfold AFj at h
 split at h
 ·rename_i it hit
  split at h
  ·rename_i z hz
   split at h
   ·rename_i fs hu
    split at h
    ·rename_i l hl
     rw[← Xf] at h
     rw[Wu] at hl
     have h':Instr.fill (fun x=>l[x]?) z.cells parts.toList=some cells:=by simpa using h
     simp[Instr.build,run_underlying hu,typeInfo,zeroValue,hit,hz,Array.mapM_eq_mapM_toList,run_places w _ _ hl,h']
    ·cases h
   ·rename_i n el hu
    split at h
    ·rename_i ei hie
     rw[← Xf] at h
     simp[Instr.build,run_underlying hu,sizeOf,typeInfo,zeroValue,hit,hz,hie,h]
    ·cases h
   ·cases h
  ·cases h
 ·cases h
theorem Sw {N:Nat}{a:Act}{e:Env}(H:Fits N a e){o:Oper}{K:Value→Prop}(hs:Dx o)(h:AG2 P o e K):
  ∃v,(∀ w,(execOp a.eval o).run P w= .ok (.value v) w)∧K v:=by
 have lift: ∀ {s:Sem Value},PR P s K→(execOp a.eval o=do pure (.value (← s)))→ ∃v,(∀ w,(execOp a.eval o).run P w= .ok (.value v) w)∧K v:=by
  intro s ⟨v,hv,hK⟩ he
  exact⟨v,fun w=>by rw[he];exact YP (hv w),hK⟩
 have dflt:=AAt (P:=P) H (o:=o) (K:=K) hs
 unfold AG2 at h
 cases ho:o.op
 case nilCheck x=>
  rw[ho] at h
  have h:=BB H h
  unfold AHn at h
  cases hx:a.eval x<;>rw[hx] at h<;>simp only[] at h
  rename_i p
  obtain⟨b,rfl,h⟩:=At.mk h
  exact⟨_,fun w=>by simp[execOp,ho,hx],h⟩
 case binOp op t x y t'=>
  rw[ho] at h
  have h:=BB H (BB H h)
  refine lift (AH9 (fun c hc=>by subst hc;rfl) (fun c hc=>by subst hc;rfl) h) ?_
  simp[execOp,ho]
 case indexAddr t x i=>
  rw[ho] at h
  have h:=BB H (BB H h)
  refine lift (AAT h) ?_
  simp[execOp,ho]
 case index t x i=>
  rw[ho] at h
  have h:=BB H (BB H h)
  refine lift (AEE h) ?_
  simp[execOp,ho]
 case slice t x lo hi mx=>
  rw[ho] at h
  cases mx with
  |some m=>
   have h:=BB H (OT H (OT H (BB H h)))
   refine lift (ACa h) ?_
   simp[execOp,ho]
  |none=>
   have h:=OT H (OT H (BB H h))
   refine lift (AEg h) ?_
   simp[execOp,ho]
 case build t parts=>
  rw[ho] at h
  have h:=Ol H h
  split at h
  ·rename_i cells hc
   refine⟨_,fun w=>?_,h⟩
   simp only[execOp,ho]
   refine YP (AGB ?_ w)
   rw[← hc]
   congr 1
   simp
  ·exact h.elim
 case pick c x y=>
  rw[ho] at h
  have h:=BB H h
  cases hc:a.eval c<;>rw[hc] at h<;>simp only[] at h
  rename_i b
  have h:=AFx (va:=a.eval x) (vb:=a.eval y) (fun v hv=>H.rdv hv) (fun v hv=>H.rdv hv) h
  exact⟨_,fun w=>by simp[execOp,ho,hc,asBool],h⟩
 all_goals (rw [ho] at h;simp only[] at h;rw[← ho] at h;exact dflt h)
def KE(h:Heap)(a:Addr):Nat→List Value→Prop
 |_,[]=>True
 |i,[v]=>hget h (a.add i)=some v
 |i,v::vs=>hget h (a.add i)=some v∧KE h a (i+1) vs
def loadT(P:Program)(t:TypeId)(h:Heap)(a:Addr)(K:Value→(Heap→Prop)→Prop):Prop:=
 match SY P t with
 |true=>match P.info? t with
  |some i=>match Nat.beq (YT P 20 t).length i.size with
   |true=>ADc h a 0 (YT P 20 t) fun vs=>K (.agg vs.toArray) (fun h'=>KE h' a 0 vs)
   |false=>False
  |none=>False
 |false=>match P.underlying t with
  |some _=>match YT P 20 t with
   | [s]=>s.load h a fun x=>K (s.val x) (fun h'=>hget h' a=some (s.val x))
   |_=>False
  |none=>False
def AG9(P:Program)(o:Oper)(e:Env)(h:Heap)(K:Value→(Heap→Prop)→Prop):Prop:=
 match o.op with
 | .load t x=>rd e x fun v=>match v with
  | .pointer p=>At p fun a=>loadT P t h a K
  |_=>False
 |_=>False
theorem R7 {h:Heap}{a:Addr}{i:Nat}{v:Value}{vs:List Value}:KE h a i (v::vs)↔hget h (a.add i)=some v∧KE h a (i+1) vs:=by
 cases vs with
 |nil=>simp[KE]
 |cons u us=>simp[KE]
theorem Rw {h:Heap}{a:Addr}: ∀ {l:List Sc} {i:Nat} {K:List Value→Prop},ADc h a i l K→ ∃vs,vs.length=l.length∧KE h a i vs∧K vs
 | [],_,_,hk=>⟨[],rfl,trivial,hk⟩
 |s::l,i,K,hk=>by
  obtain⟨x,hx,hk⟩:=Sc.load_sound hk
  obtain⟨vs,hl,hc,hk⟩:=Rw hk
  exact⟨s.val x::vs,by simp[hl],R7.2 ⟨hx,hc⟩,hk⟩
theorem run_loadCellsFrom {A:Amb}{h:Heap}{a:Addr}{n:Nat}: ∀ {vs:List Value} {i:Nat} {acc:Array Value},KE h a i vs→
  (loadCellsFrom a i vs.length acc).run P (A.at h n)= .ok (acc++vs.toArray) (A.at h n)
 | [],_,acc,_=>by simp[loadCellsFrom]
 |v::vs,i,acc,hc=>by
  obtain⟨h1,h2⟩:=R7.1 hc
  have ih:=run_loadCellsFrom (A:=A) (n:=n) (acc:=acc.push v) h2
  have hl:(load (a.add i)).run P (A.at h n)= .ok v (A.at h n):=by
   have h1':(A.at h n).cell? (a.add i)=some v:=h1
   simp[load,Sem.run,h1']
  simp only[List.length_cons,loadCellsFrom,Sem.run_bind,hl,Result.andThen_ok,ih]
  simp
theorem ABh {t:TypeId}{w:World}(hu: ∃d,P.underlying t=some d):(isAgg t).run P w= .ok (SY P t) w:=by
 obtain⟨d,hd⟩:=hu
 unfold isAgg SY
 rw[hd]
 cases d<;>simp[Av hd]
theorem WY {A:Amb}{t:TypeId}{h:Heap}{a:Addr}{K:Value→(Heap→Prop)→Prop}(hk:loadT P t h a K):
  ∃v st,(∀ hp,st hp→ ∀n,(loadVar t a).run P (A.at hp n)= .ok v (A.at hp n))∧st h∧K v st:=by
 unfold loadT at hk
 cases hb:SY P t with
 |true=>
  rw[hb] at hk
  simp only[] at hk
  have hu: ∃d,P.underlying t=some d:=by
   cases hu:P.underlying t with
   |none=>simp[SY,hu] at hb
   |some d=>exact⟨d,rfl⟩
  split at hk
  ·rename_i ei hei
   split at hk
   ·rename_i hl
    have hl:=Nat.eq_of_beq_eq_true hl
    obtain⟨vs,hvl,hc,hk⟩:=Rw hk
    refine⟨_,_,fun hp hst n=>?_,hc,hk⟩
    have hr:=run_loadCellsFrom (P:=P) (A:=A) (n:=n) (acc:= #[]) hst
    simp only[loadVar,Sem.run_bind,ABh hu,hb,Result.andThen_ok,if_true,run_sizeOf hei]
    rw[← hl,←hvl]
    simp only[loadCells,hr,Result.andThen_ok]
    simp
   ·exact hk.elim
  ·exact hk.elim
 |false=>
  rw[hb] at hk
  simp only[] at hk
  split at hk
  ·rename_i d hd
   split at hk
   ·rename_i s _
    obtain⟨x,hx,hk⟩:=Sc.load_sound hk
    refine⟨_,_,fun hp hst n=>?_,hx,hk⟩
    have h1':(A.at hp n).cell? a=some (s.val x):=hst
    simp[loadVar,ABh ⟨d,hd⟩,hb,load,Sem.run,h1']
   ·exact hk.elim
  ·exact hk.elim
theorem load_sound {A:Amb}{N:Nat}{a:Act}{e:Env}(H:Fits N a e){o:Oper}{h:Heap}{K:Value→(Heap→Prop)→Prop}(hk:AG9 P o e h K):
  ∃v st,(∀ hp,st hp→exq P A o a.eval v hp)∧st h∧K v st:=by
 unfold AG9 at hk
 split at hk
 ·rename_i t x ho
  have hk:=BB H hk
  split at hk
  ·rename_i p hp
   obtain⟨b,rfl,hk⟩:=At.mk hk
   obtain⟨v,st,hr,hst,hk⟩:=WY (A:=A) hk
   refine⟨v,st,fun hp' hst' n=>?_,hst,hk⟩
   have:=hr hp' hst' n
   simp only[execOp,ho,hp]
   refine YP ?_
   simp only[Instr.loadAt,Instr.sureAddr,Sem.run_bind,Sem.run_pure,Result.andThen_ok]
   exact this
  ·exact hk.elim
 ·exact hk.elim
end
end Go.Lf

/-
 LIFT, part T: a region in which effects have no order between them: a tree of the orders in which they may come.
-/
namespace Go.Lf
section
variable {P : Program} {A : Amb} {r : Option Nat} {ops : Array Oper} {qb : Oper → Bool} {ord : Nat → Nat → Bool}
abbrev Kt:=Act→Heap→List (Nat×(Heap→Prop))→List (Nat×Heap)→Prop
def Dj(P:Program)(A:Amb)(ops:Array Oper)(qb:Oper→Bool)(ord:Nat→Nat→Bool)(i:Nat)(K:Kt):Kt:=fun a h pend pres=>
 match ops[i]? with
 |none=>False
 |some o=>
  if Region.wanted o (yielded ops a.tmps)=true then
   if qb o=true then
    ∃v,exq P A o a.eval v h∧(∀ p∈pres,un ord i p.1=true→exq P A o a.eval v p.2)∧K (a.put o.dst v) h ((i,exq P A o a.eval v)::pend) pres
   else
    ∀n,EV P o a.eval (A.at h n) fun v w'=> ∃h' n',w'=A.at h' n'∧(∀ p∈pend,un ord i p.1=true→p.2 h')∧K (a.put o.dst v) h' pend ((i,h)::pres)
  else K (a.put o.dst undef) h pend pres
def AEI(K:Kt):Prop:= ∀a h pend pend' pres pres',K a h pend pres→(∀ p∈pend',p∈pend)→(∀ p∈pres',p∈pres)→K a h pend' pres'
theorem Dj.mono {i:Nat}{K K':Kt}(hk: ∀a h pend pres,K a h pend pres→K' a h pend pres){a:Act}{h:Heap}{pend:List (Nat×(Heap→Prop))}{pres:List (Nat×Heap)}
  (H:Dj P A ops qb ord i K a h pend pres):Dj P A ops qb ord i K' a h pend pres:=by
 unfold Dj at H ⊢
 cases ho:ops[i]? with
 |none=>rw[ho] at H;exact H
 |some o=>
  rw[ho] at H
  simp only at H ⊢
  split
  ·rename_i hw
   rw[if_pos hw] at H
   split
   ·rename_i hq
    rw[if_pos hq] at H
    obtain⟨v,hv,hp,hr⟩:=H
    exact⟨v,hv,hp,hk _ _ _ _ hr⟩
   ·rename_i hq
    rw[if_neg hq] at H
    intro n
    refine(H n).mono ?_
    rintro v w' ⟨h',n',hw',hp,hr⟩
    exact⟨h',n',hw',hp,hk _ _ _ _ hr⟩
  ·rename_i hw
   rw[if_neg hw] at H
   exact hk _ _ _ _ H
theorem Dj.anti {i:Nat}{K:Kt}(hK:AEI K):AEI (Dj P A ops qb ord i K):=by
 intro a h pend pend' pres pres' H h1 h2
 unfold Dj at H ⊢
 cases ho:ops[i]? with
 |none=>rw[ho] at H;exact H
 |some o=>
  rw[ho] at H
  simp only at H ⊢
  split
  ·rename_i hw
   rw[if_pos hw] at H
   split
   ·rename_i hq
    rw[if_pos hq] at H
    obtain⟨v,hv,hp,hr⟩:=H
    refine⟨v,hv,fun p hp'=>hp p (h2 p hp'),hK _ _ _ _ _ _ hr (fun p hp'=>?_) h2⟩
    rcases List.mem_cons.1 hp' with rfl|hp'
    ·exact List.mem_cons_self
    ·exact List.mem_cons_of_mem _ (h1 p hp')
   ·rename_i hq
    rw[if_neg hq] at H
    intro n
    refine(H n).mono ?_
    rintro v w' ⟨h',n',hw',hp,hr⟩
    refine⟨h',n',hw',fun p hp'=>hp p (h1 p hp'),hK _ _ _ _ _ _ hr h1 (fun p hp'=>?_)⟩
    rcases List.mem_cons.1 hp' with rfl|hp'
    ·exact List.mem_cons_self
    ·exact List.mem_cons_of_mem _ (h2 p hp')
  ·rename_i hw
   rw[if_neg hw] at H
   exact hK _ _ _ _ _ _ H h1 h2
theorem Dj.swap {i j:Nat}{oi oj:Oper}(hi:ops[i]? =some oi)(hj:ops[j]? =some oj)(hap:oi.apart ops oj=true)(hsi:Dx oi)(hsj:Dx oj)
  (hun:un ord i j=true) (heff:qb oi=true∨qb oj=true) {K:Kt} (hK:AEI K) {a:Act} {h:Heap} {pend:List (Nat×(Heap→Prop))} {pres:List (Nat×Heap)}
  (H:Dj P A ops qb ord j (Dj P A ops qb ord i K) a h pend pres):Dj P A ops qb ord i (Dj P A ops qb ord j K) a h pend pres:=by
 obtain⟨h1,h2,h3⟩:=Oper.apart_spec hap
 have hun':un ord j i=true:=by unfold un at *;rwa [Nat.max_comm,Nat.min_comm]
 have ei: ∀u,execOp (a.put oj.dst u).eval oi=execOp a.eval oi:=fun u=>execOp_put oi hsi a oj.dst u h3
 have ej: ∀u,execOp (a.put oi.dst u).eval oj=execOp a.eval oj:=fun u=>execOp_put oj hsj a oi.dst u h1
 have wi: ∀u,Region.wanted oi (yielded ops (a.put oj.dst u).tmps)=Region.wanted oi (yielded ops a.tmps):=fun u=>wanted_put oi a oj.dst u h3
 have wj: ∀u,Region.wanted oj (yielded ops (a.put oi.dst u).tmps)=Region.wanted oj (yielded ops a.tmps):=fun u=>wanted_put oj a oi.dst u h1
 have xi: ∀u,exq P A oi (a.put oj.dst u).eval=exq P A oi a.eval:=fun u=>by funext v h;unfold exq;rw[ei]
 have xj: ∀u,exq P A oj (a.put oi.dst u).eval=exq P A oj a.eval:=fun u=>by funext v h;unfold exq;rw[ej]
 have pc: ∀v u,(a.put oi.dst v).put oj.dst u=(a.put oj.dst u).put oi.dst v:=fun v u=>Act.put_comm a v u h2
 unfold Dj at H ⊢
 rw[hj] at H
 rw[hi]
 simp only at H ⊢
 by_cases hwj:Region.wanted oj (yielded ops a.tmps)=true
 ·rw [if_pos hwj] at H
  by_cases hqj:qb oj=true
  ·rw [if_pos hqj] at H
   obtain⟨vj,hvj,hpj,H⟩:=H
   rw[hi] at H
   simp only[wi,xi] at H
   by_cases hwi:Region.wanted oi (yielded ops a.tmps)=true
   ·rw [if_pos hwi] at H ⊢
    by_cases hqi:qb oi=true
    ·rw [if_pos hqi] at H ⊢
     obtain⟨vi,hvi,hpi,H⟩:=H
     refine⟨vi,hvi,hpi,?_⟩
     rw[hj]
     simp only[wj,xj]
     rw[if_pos hwj,if_pos hqj]
     refine⟨vj,hvj,hpj,?_⟩
     rw[pc]
     exact hK _ _ _ _ _ _ H (fun p hp=>by simp only[List.mem_cons] at hp ⊢;rcases hp with h|h|h<;>simp[h]) (fun _ h=>h)
    ·rw [if_neg hqi] at H ⊢
     intro n
     have:=H n
     unfold EV at this
     rw[ei] at this
     refine EV.mono this ?_
     rintro vi w' ⟨h',n',hw',hp,H⟩
     refine⟨h',n',hw',fun p hp'=>hp p (List.mem_cons_of_mem _ hp'),?_⟩
     rw[hj]
     simp only[wj,xj]
     rw[if_pos hwj,if_pos hqj]
     refine⟨vj,hp _ List.mem_cons_self hun,?_,?_⟩
     ·intro p hp' hu
      rcases List.mem_cons.1 hp' with rfl|hp'
      ·exact hvj
      ·exact hpj p hp' hu
     ·rw [pc];exact H
   ·rw [if_neg hwi] at H ⊢
    rw[hj]
    simp only[wj,xj]
    rw[if_pos hwj,if_pos hqj]
    exact⟨vj,hvj,hpj,by rw[pc];exact H⟩
  ·rw [if_neg hqj] at H
   have hqi:qb oi=true:=heff.resolve_right hqj
   by_cases hwi:Region.wanted oi (yielded ops a.tmps)=true
   ·rw [if_pos hwi,if_pos hqi]
    have key: ∀n,EV P oj a.eval (A.at h n) fun v w'=> ∃h' n',w'=A.at h' n'∧(∀ p∈pend,un ord j p.1=true→p.2 h')∧
      ∃vi,exq P A oi a.eval vi h'∧(∀ p∈(j,h)::pres,un ord i p.1=true→exq P A oi a.eval vi p.2)∧
       K ((a.put oj.dst v).put oi.dst vi) h' ((i,exq P A oi a.eval vi)::pend) ((j,h)::pres):=by
     intro n
     refine(H n).mono ?_
     rintro v w' ⟨h',n',hw',hp,H⟩
     rw[hi] at H
     simp only[wi,xi] at H
     rw[if_pos hwi,if_pos hqi] at H
     exact⟨h',n',hw',hp,H⟩
    obtain⟨v0,w0,h0,n0,_,_,vi,_,hpi,_⟩:=(key 0).some
    have hvi:exq P A oi a.eval vi h:=hpi (j,h) List.mem_cons_self hun
    refine⟨vi,hvi,fun p hp hu=>hpi p (List.mem_cons_of_mem _ hp) hu,?_⟩
    rw[hj]
    simp only[wj]
    rw[if_pos hwj,if_neg hqj]
    intro n
    have:=key n
    unfold EV at this ⊢
    rw[ej]
    refine Next.out_mono ?_ this
    rintro v w' ⟨h',n',hw',hp,vi',hvi',hpi',H⟩
    have hv2:exq P A oi a.eval vi' h:=hpi' (j,h) List.mem_cons_self hun
    have e:vi'=vi:=by
     have e1:=hvi 0
     have e2:=hv2 0
     rw[e1] at e2
     injection e2 with e2 _
     injection e2 with e2
     exact e2.symm
    subst e
    refine⟨h',n',hw',?_,?_⟩
    ·intro p hp' hu
     rcases List.mem_cons.1 hp' with rfl|hp'
     ·exact hvi'
     ·exact hp p hp' hu
    ·rw [pc];exact H
   ·rw [if_neg hwi]
    rw[hj]
    simp only[wj]
    rw[if_pos hwj,if_neg hqj]
    intro n
    have:=H n
    unfold EV at this ⊢
    rw[ej]
    refine Next.out_mono ?_ this
    rintro v w' ⟨h',n',hw',hp,H⟩
    rw[hi] at H
    simp only[wi] at H
    rw[if_neg hwi] at H
    exact⟨h',n',hw',hp,by rw[pc];exact H⟩
 ·rw [if_neg hwj] at H
  rw[hi] at H
  simp only[wi,xi] at H
  by_cases hwi:Region.wanted oi (yielded ops a.tmps)=true
  ·rw [if_pos hwi] at H ⊢
   by_cases hqi:qb oi=true
   ·rw [if_pos hqi] at H ⊢
    obtain⟨vi,hvi,hpi,H⟩:=H
    refine⟨vi,hvi,hpi,?_⟩
    rw[hj]
    simp only[wj]
    rw[if_neg hwj,pc]
    exact H
   ·rw [if_neg hqi] at H ⊢
    intro n
    have:=H n
    unfold EV at this ⊢
    rw[ei] at this
    refine Next.out_mono ?_ this
    rintro v w' ⟨h',n',hw',hp,H⟩
    refine⟨h',n',hw',hp,?_⟩
    rw[hj]
    simp only[wj]
    rw[if_neg hwj,pc]
    exact H
  ·rw [if_neg hwi] at H ⊢
   rw[hj]
   simp only[wj]
   rw[if_neg hwj,pc]
   exact H
def Ng(ord:Nat→Nat→Bool)(l:List Nat)(i:Nat):Bool:=l.all fun j=> !ord i j
def TE(ops:Array Oper)(qb:Oper→Bool)(i:Nat):Bool:=match ops[i]? with|some o=>qb o|none=>false
def ABH(ops:Array Oper)(qb:Oper→Bool)(ord:Nat→Nat→Bool)(l:List Nat):Option Nat:=l.find? fun i=>TE ops qb i&&Ng ord l i
def FT(P:Program)(A:Amb)(ops:Array Oper)(qb:Oper→Bool)(ord:Nat→Nat→Bool)(Q:Act→Heap→Prop):Nat→List Nat→Kt
 |_,[]=>fun a h _ _=>Q a h
 |0,_::_=>fun _ _ _ _=>False
 |k+1,x::l=>fun a h pend pres=>
  match ABH ops qb ord (x::l) with
  |some i=>Dj P A ops qb ord i (FT P A ops qb ord Q k ((x::l).erase i)) a h pend pres
  |none=> ∀i∈x::l,Ng ord (x::l) i=true→Dj P A ops qb ord i (FT P A ops qb ord Q k ((x::l).erase i)) a h pend pres
variable {Q : Act → Heap → Prop}
theorem FT.anti: ∀(k:Nat) (l:List Nat),AEI (FT P A ops qb ord Q k l)
 |_,[]=>by intro a h _ _ _ _ H _ _;unfold FT at H ⊢;exact H
 |0,_::_=>by intro a h _ _ _ _ H _ _;unfold FT at H;exact H.elim
 |k+1,x::l=>by
  intro a h pend pend' pres pres' H h1 h2
  unfold FT at H ⊢
  split
  ·rename_i i hi
   rw[hi] at H
   exact Dj.anti (FT.anti k _) _ _ _ _ _ _ H h1 h2
  ·rename_i hi
   rw[hi] at H
   exact fun i hm hn=>Dj.anti (FT.anti k _) _ _ _ _ _ _ (H i hm hn) h1 h2
def ACt(ops:Array Oper)(qb:Oper→Bool)(ord:Nat→Nat→Bool):Bool:=
 (ops.toList.all fun o=>F7 o)&&
 (List.range ops.size).all fun i=>
  match ops[i]? with
  |none=>false
  |some oi=>
   (oi.after.toList.all fun e=> !Region.binds .any e||decide (e.on<i))&&
   (List.range ops.size).all fun j=>
    match ops[j]? with
    |none=>false
    |some oj=>
     if decide (j<i) then
      if ord i j then oi.after.toList.any fun e=>Region.binds .any e&&(e.on==j||(decide (j<e.on)&&ord e.on j))
      else(!(qb oi||qb oj))||(oi.apart ops oj&&oj.apart ops oi)
     else !ord i j
structure FlT (ops:Array Oper) (qb:Oper→Bool) (ord:Nat→Nat→Bool):Prop where
 nd: ∀(i:Nat) (o:Oper),ops[i]? =some o→F7 o=true
 back: ∀(i:Nat) (o:Oper),ops[i]? =some o→ ∀e∈o.after,Region.binds .any e=true→e.on<i
 low: ∀i j,i<ops.size→j<ops.size→ord i j=true→j<i
 pair: ∀(i j:Nat) (oi oj:Oper),ops[i]? =some oi→ops[j]? =some oj→j<i→
   (ord i j=true∧ ∃e∈oi.after,Region.binds .any e=true∧(e.on=j∨(j<e.on∧ord e.on j=true)))∨
   (ord i j=false∧(qb oi=true∨qb oj=true→oi.apart ops oj=true∧oj.apart ops oi=true))
theorem AFY(h:ACt ops qb ord=true):FlT ops qb ord:=by
 unfold ACt at h
 simp only[Bool.and_eq_true,List.all_eq_true,List.mem_range] at h
 obtain⟨h1,h2⟩:=h
 refine⟨fun i o ho=>h1 o (by rw[Array.mem_toList_iff];exact Array.mem_of_getElem? ho),fun i o ho e he hb=>?_,fun i j hi hj ho=>?_,fun i j oi oj hi hj hji=>?_⟩
 ·have hlt:i<ops.size:=(Array.getElem?_eq_some_iff.1 ho).1
  have:=h2 i hlt
  rw[ho] at this
  simp only[Bool.and_eq_true,List.all_eq_true,Bool.or_eq_true,Bool.not_eq_true',decide_eq_true_eq] at this
  exact(this.1 e (by simpa using he)).resolve_left (by simp[hb])
 ·have hi':ops[i]? =some ops[i]:=Array.getElem?_eq_getElem hi
  have hj':ops[j]? =some ops[j]:=Array.getElem?_eq_getElem hj
  have:=h2 i hi
  rw[hi'] at this
  simp only[Bool.and_eq_true,List.all_eq_true,List.mem_range] at this
  have:=this.2 j hj
  rw[hj'] at this
  simp only at this
  by_cases hlt:j<i
  ·exact hlt
  ·rw [if_neg (by simpa using hlt),ho] at this
   cases this
 ·have hlt:i<ops.size:=(Array.getElem?_eq_some_iff.1 hi).1
  have hltj:j<ops.size:=(Array.getElem?_eq_some_iff.1 hj).1
  have:=h2 i hlt
  rw[hi] at this
  simp only[Bool.and_eq_true,List.all_eq_true,List.mem_range] at this
  have:=this.2 j hltj
  rw[hj] at this
  simp only at this
  rw[if_pos (by simpa using hji)] at this
  cases ho:ord i j with
  |true=>
   rw[ho] at this
   simp only[if_true,List.any_eq_true,Bool.and_eq_true,Bool.or_eq_true,beq_iff_eq,decide_eq_true_eq] at this
   obtain⟨e,he,hb,hx⟩:=this
   exact .inl ⟨rfl,e,by simpa using he,hb,hx⟩
  |false=>
   rw[ho] at this
   simp only[Bool.false_eq_true,if_false,Bool.and_eq_true,Bool.or_eq_true,Bool.not_eq_true',Bool.or_eq_false_iff] at this
   refine .inr ⟨rfl,fun hq=>?_⟩
   rcases this with h|h
   ·rcases hq with hq|hq
    ·rw [h.1] at hq;cases hq
    ·rw [h.2] at hq;cases hq
   ·exact h
theorem Ui {l:List Nat}{i j:Nat}(h:Ng ord l i=true)(hj:j∈l):ord i j=false:=by
 unfold Ng at h
 simp only[List.all_eq_true,Bool.not_eq_true'] at h
 exact h j hj
theorem Ot {l:List Nat}{i j:Nat}(h:Ng ord l i=true):Ng ord (l.erase j) i=true:=by
 unfold Ng at h ⊢
 simp only[List.all_eq_true] at h ⊢
 exact fun x hx=>h x (List.mem_of_mem_erase hx)
theorem OW {l:List Nat}{q:Nat}(h:ABH ops qb ord l=some q):q∈l∧TE ops qb q=true∧Ng ord l q=true:=by
 unfold ABH at h
 have h1:=List.mem_of_find?_eq_some h
 have h2:=List.find?_some h
 simp only[Bool.and_eq_true] at h2
 exact⟨h1,h2.1,h2.2⟩
theorem AFt {l:List Nat}(h:ABH ops qb ord l=none){q:Nat}(hq:q∈l)(hk:TE ops qb q=true):Ng ord l q=false:=by
 unfold ABH at h
 have:=List.find?_eq_none.1 h q hq
 simp only[hk,Bool.true_and] at this
 simpa using this
theorem AFu {i:Nat}(h:TE ops qb i=true): ∃o,ops[i]? =some o∧qb o=true:=by
 unfold TE at h
 cases ho:ops[i]? with
 |none=>rw[ho] at h;cases h
 |some o=>rw[ho] at h;exact⟨o,rfl,h⟩
theorem FlT.swap(F:FlT ops qb ord){i q:Nat}(hne:i≠q)(hi:i<ops.size)(hq:TE ops qb q=true)(h1:ord i q=false)(h2:ord q i=false){K:Kt}(hK:AEI K){a:Act}{h:Heap}
  {pend:List (Nat×(Heap→Prop))} {pres:List (Nat×Heap)}:
  (Dj P A ops qb ord q (Dj P A ops qb ord i K) a h pend pres→Dj P A ops qb ord i (Dj P A ops qb ord q K) a h pend pres)∧
  (Dj P A ops qb ord i (Dj P A ops qb ord q K) a h pend pres→Dj P A ops qb ord q (Dj P A ops qb ord i K) a h pend pres):=by
 obtain⟨oq,hoq,hqq⟩:=AFu hq
 have hoi:ops[i]? =some ops[i]:=Array.getElem?_eq_getElem hi
 have nsi:=LD (F.nd _ _ hoi)
 have nsq:=LD (F.nd _ _ hoq)
 have hap:(ops[i]).apart ops oq=true∧oq.apart ops (ops[i])=true:=by
  rcases Nat.lt_or_gt_of_ne hne with hlt|hlt
  ·rcases F.pair q i oq _ hoq hoi hlt with⟨hx,_⟩|⟨_,hx⟩
   ·rw [h2] at hx;cases hx
   ·exact(hx (.inl hqq)).symm
  ·rcases F.pair i q _ oq hoi hoq hlt with⟨hx,_⟩|⟨_,hx⟩
   ·rw [h1] at hx;cases hx
   ·exact hx (.inr hqq)
 have hun:un ord i q=true:=by
  unfold un
  rcases Nat.lt_or_gt_of_ne hne with hlt|hlt
  ·rw [Nat.max_eq_right (by omega),Nat.min_eq_left (by omega),h2];rfl
  ·rw [Nat.max_eq_left (by omega),Nat.min_eq_right (by omega),h1];rfl
 have hun':un ord q i=true:=by unfold un at *;rwa [Nat.max_comm,Nat.min_comm]
 exact⟨Dj.swap hoi hoq hap.1 nsi nsq hun (.inr hqq) hK,Dj.swap hoq hoi hap.2 nsq nsi hun' (.inl hqq) hK⟩
theorem FT.both(F:FlT ops qb ord): ∀(k:Nat) (l:List Nat),l.length=k+1→(∀ i∈l,i<ops.size)→ ∀(i:Nat),i∈l→Ng ord l i=true→
  (∀ a h pend pres,FT P A ops qb ord Q (k+1) l a h pend pres→Dj P A ops qb ord i (FT P A ops qb ord Q k (l.erase i)) a h pend pres)∧
  (TE ops qb i=true→ ∀a h pend pres,Dj P A ops qb ord i (FT P A ops qb ord Q k (l.erase i)) a h pend pres→FT P A ops qb ord Q (k+1) l a h pend pres):=by
 intro k
 induction k with
 |zero=>
  intro l hl hlt i hi hm
  obtain⟨x,rfl⟩:=List.length_eq_one_iff.1 hl
  have:i=x:=by simpa using hi
  subst this
  constructor
  ·intro a h pend pres H
   unfold FT at H
   split at H
   ·rename_i q hq
    have:=(OW hq).1
    have:q=i:=by simpa using this
    subst this
    exact H
   ·exact H i (by simp) hm
  ·intro hq a h pend pres H
   unfold FT
   split
   ·rename_i q hq'
    have:=(OW hq').1
    have:q=i:=by simpa using this
    subst this
    exact H
   ·intro j hj _
    have:j=i:=by simpa using hj
    subst this
    exact H
 |succ k ih=>
  intro l hl hlt i hi hm
  obtain⟨x,l',rfl⟩: ∃x l',l=x::l':=by cases l with|nil=>cases hl|cons x l'=>exact⟨x,l',rfl⟩
  have hle: ∀ {q},q∈x::l'→((x::l').erase q).length=k+1:=fun hq=>by rw[List.length_erase_of_mem hq,hl];rfl
  have hlts: ∀ {q},∀i∈(x::l').erase q,i<ops.size:=fun i hi=>hlt i (List.mem_of_mem_erase hi)
  have hmem: ∀ {p q},p∈x::l'→p≠q→p∈(x::l').erase q:=fun hp hne=>(List.mem_erase_of_ne hne).2 hp
  constructor
  ·intro a h pend pres H
   unfold FT at H
   split at H
   ·rename_i q hq
    obtain⟨hq1,hq2,hq3⟩:=OW hq
    by_cases hqi:q=i
    ·subst hqi;exact H
    ·have H1:=Dj.mono (fun a h pend pres=>(ih ((x::l').erase q) (hle hq1) hlts i (hmem hi (Ne.symm hqi)) (Ot hm)).1 a h pend pres) H
     have H2:=(F.swap (Ne.symm hqi) (hlt i hi) hq2 (Ui hm hq1) (Ui hq3 hi) (FT.anti _ _)).1 H1
     rw[List.erase_comm] at H2
     exact Dj.mono (fun a h pend pres=>(ih ((x::l').erase i) (hle hi) hlts q (hmem hq1 hqi) (Ot hq3)).2 hq2 a h pend pres) H2
   ·exact H i hi hm
  ·intro hq a h pend pres H
   unfold FT
   split
   ·rename_i q hq'
    obtain⟨hq1,hq2,hq3⟩:=OW hq'
    by_cases hqi:q=i
    ·subst hqi;exact H
    ·have H1:=Dj.mono (fun a h pend pres=>(ih ((x::l').erase i) (hle hi) hlts q (hmem hq1 hqi) (Ot hq3)).1 a h pend pres) H
     have H2:=(F.swap (Ne.symm hqi) (hlt i hi) hq2 (Ui hm hq1) (Ui hq3 hi) (FT.anti _ _)).2 H1
     rw[List.erase_comm] at H2
     exact Dj.mono (fun a h pend pres=>(ih ((x::l').erase q) (hle hq1) hlts i (hmem hi (Ne.symm hqi)) (Ot hm)).2 hq a h pend pres) H2
   ·rename_i hn
    have:=AFt hn hi hq
    rw[hm] at this
    cases this
theorem AF4 {n i:Nat}{listed:Array Bool}(hi:i<n)(hs:listed.size=n)(hl:listed.getD i false=false):left n (listed.setIfInBounds i true)=(left n listed).erase i:=by
 obtain⟨pre,post,e1,e2,hpre⟩:=Xy hi hs hl
 rw[e2,e1,List.erase_append_right _ (fun hm=>by have:=(hpre i hm).1;omega)]
 simp
theorem FT.any {m:Nat}{Qe:Exit→Act→World→Prop}(hQ: ∀a h n,Q a h→Qe .normal a (A.at h n))(F:FlT ops qb ord):
  ∀(fuel:Nat) (listed:Array Bool) (a:Act) (h:Heap) (pend:List (Nat×(Heap→Prop))) (pres:List (Nat×Heap)),(left ops.size listed).length=fuel→listed.size=ops.size→
   Closed ord listed→FT P A ops qb ord Q fuel (left ops.size listed) a h pend pres→ ∀n,wpAnyIn (Fw r) m P .any ops Qe fuel listed a (A.at h n):=by
 intro fuel
 induction fuel with
 |zero=>
  intro listed a h pend pres hl hs _ H n
  have he:left ops.size listed= []:=List.eq_nil_of_length_eq_zero hl
  refine⟨?_,?_⟩
  ·rcases hr:Region.ready .any ops listed with _|⟨i,t⟩
   ·rfl
   ·exfalso
    have hi:i∈Region.ready .any ops listed:=by rw[hr];exact List.mem_cons_self
    obtain⟨h0,o,ho,_⟩:=mem_ready.1 hi
    have hlt:i<ops.size:=(Array.getElem?_eq_some_iff.1 ho).1
    have:i∈left ops.size listed:=mem_left.2 ⟨hlt,by rw[← RP (by omega)];exact h0⟩
    rw[he] at this
    cases this
  ·rw [he] at H
   unfold FT at H
   exact hQ _ _ _ H
 |succ fuel ih=>
  intro listed a h pend pres hl hs hcl H n
  refine⟨fun hr=>?_,fun i hi=>?_⟩
  ·exfalso
   have hex: ∀k i,i<k→i∈left ops.size listed→False:=by
    intro k
    induction k with
    |zero=>intro i hi;omega
    |succ k ihk=>
     intro i _ hi
     obtain⟨hlt,h0⟩:=mem_left.1 hi
     have ho:ops[i]? =some ops[i]:=Array.getElem?_eq_getElem hlt
     by_cases hall: ∀e∈ops[i].after,Region.binds .any e=true→listed.getD e.on false=true
     ·have:i∈Region.ready .any ops listed:=mem_ready.2 ⟨by rw[RP (by omega)];exact h0,_,ho,hall⟩
      rw[hr] at this
      cases this
     ·simp only[Classical.not_forall] at hall
      obtain⟨e,he,hb,hne⟩:=hall
      have hlt':=F.back i _ ho e he hb
      exact ihk e.on (by omega) (mem_left.2 ⟨by omega,by simpa using hne⟩)
   have hne:left ops.size listed≠ []:=by intro e;rw[e] at hl;simp at hl
   obtain⟨i,hi⟩:=List.exists_mem_of_ne_nil _ hne
   exact hex (i+1) i (by omega) hi
  ·obtain⟨h0,oi,hoi,hall⟩:=mem_ready.1 hi
   have hlt:i<ops.size:=(Array.getElem?_eq_some_iff.1 hoi).1
   have h0':listed.getD i false=false:=by rw[← RP (by omega)];exact h0
   have hord: ∀j,j<i→listed.getD j false=false→ord i j=false:=by
    intro j hj hlj
    have hj':ops[j]? =some ops[j]:=Array.getElem?_eq_getElem (by omega)
    rcases F.pair i j oi _ hoi hj' hj with⟨_,e,he,hb,hx⟩|⟨hx,_⟩
    ·exfalso
     have hle:=hall e he hb
     rcases hx with rfl|⟨hlt2,ho2⟩
     ·rw [hle] at hlj;cases hlj
     ·have:=hcl e.on j hle hlt2 ho2
      rw[this] at hlj;cases hlj
    ·exact hx
   have hmem:i∈left ops.size listed:=mem_left.2 ⟨hlt,h0'⟩
   have hmini:Ng ord (left ops.size listed) i=true:=by
    unfold Ng
    simp only[List.all_eq_true,Bool.not_eq_true']
    intro j hj
    obtain⟨hj1,hj2⟩:=mem_left.1 hj
    cases hb:ord i j with
    |false=>rfl
    |true=>rw[hord j (F.low i j hlt hj1 hb) hj2] at hb;cases hb
   have H2:=(FT.both (Q:=Q) (P:=P) (A:=A) F fuel _ hl (fun j hj=>(mem_left.1 hj).1) i hmem hmini).1 a h pend pres H
   have hcl':Closed ord (listed.setIfInBounds i true):=by
    intro k j hk hjk ho
    by_cases hji:j=i
    ·subst hji;have:j<listed.size:=by omega
     simp[this]
    ·rw [getD_set_ne false (Ne.symm hji)]
     by_cases hki:k=i
     ·subst hki
      cases hlj:listed.getD j false with
      |true=>rfl
      |false=>rw[hord j hjk hlj] at ho;cases ho
     ·rw [getD_set_ne false (Ne.symm hki)] at hk
      exact hcl k j hk hjk ho
   have e2:=AF4 hlt hs h0'
   have hlen:(left ops.size (listed.setIfInBounds i true)).length=fuel:=by
    rw[e2,List.length_erase_of_mem hmem];omega
   have hs':(listed.setIfInBounds i true).size=ops.size:=by simp[hs]
   rw[← e2] at H2
   unfold Dj at H2
   rw[hoi] at H2
   unfold wpOpIn
   simp only[hoi]
   split
   ·rename_i hw
    simp only[hw,if_true] at H2
    by_cases hq:qb oi=true
    ·rw [if_pos hq] at H2
     obtain⟨v,hv,_,H2⟩:=H2
     refine EV.wpIn (F.nd i oi hoi) ?_
     unfold EV
     rw[hv n]
     exact ih _ _ _ _ _ hlen hs' hcl' H2 n
    ·rw [if_neg hq] at H2
     refine EV.wpIn (F.nd i oi hoi) ((H2 n).mono ?_)
     rintro v w' ⟨h',n',rfl,_,H3⟩
     exact ih _ _ _ _ _ hlen hs' hcl' H3 n'
   ·rename_i hw
    simp only at H2
    rw[if_neg hw] at H2
    exact⟨fun _ _=>trivial,ih _ _ _ _ _ hlen hs' hcl' H2 n⟩
theorem Vg {id m:Nat}{Qe:Exit→Act→World→Prop}(hQ: ∀a h n,Q a h→Qe .normal a (A.at h n))(hm:P.follows .mixedOrders=true)
  (hfl:ACt ops qb ord=true) {a:Act} {h:Heap} {n:Nat} (H:FT P A ops qb ord Q ops.size (List.range ops.size) a h [] []):(Code.region id ops true).wpIn (Fw r) m P Qe a (A.at h n):=by
 refine wpIn_region_any hm ?_
 have hl:=AEc ops.size
 refine FT.any (Q:=Q) (ord:=ord) (qb:=qb) (pend:= []) (pres:= []) hQ (AFY hfl) _ _ _ h (by rw[hl];simp) (by simp) ?_ (by rw[hl];exact H) (n+1)
 intro k j hk
 exfalso
 by_cases h:k<ops.size<;>simp[h] at hk
end
end Go.Lf

