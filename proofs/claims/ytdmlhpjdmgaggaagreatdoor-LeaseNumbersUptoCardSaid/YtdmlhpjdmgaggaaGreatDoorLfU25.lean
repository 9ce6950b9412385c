/-
 Maps of whole numbers: to look up, to lay, to strike (as U1 has them of strings).
-/
import Derived.Test.YtdmlhpjdmgaggaaGreatDoorLfU1ToU4
set_option linter.unusedVariables false
set_option linter.unusedSimpArgs false
set_option maxRecDepth 100000
set_option linter.unusedVariables false
set_option linter.unusedSimpArgs false
namespace Go.Lf
open Go
def QM(k:Int)(v:Value):List (Int×Value)→List (Int×Value)
 | []=> [(k,v)]
 |p::m=>if p.1=k then(k,v)::m else p::QM k v m
def I8(k:Int)(m:List (Int×Value)):Option Value:=(m.find? fun p=>decide (p.1=k)).map (·.2)
def AAY(k:Int)(m:List (Int×Value)):List (Int×Value):=m.filter fun p=> !decide (p.1=k)
theorem FB(k:Int)(p:Int×Value)(m:List (Int×Value)):I8 k (p::m)=if p.1=k then some p.2 else I8 k m:=by
 unfold I8;rw[List.find?_cons];by_cases h:p.1=k<;>simp[h]
theorem RQ(k:Int)(v:Value)(c:Int): ∀m,I8 c (QM k v m)=if k=c then some v else I8 c m
 | []=>by unfold QM;rw[FB]
 |p::m=>by
  unfold QM
  split
  ·rename_i h
   rw[FB,FB]
   by_cases h2:k=c<;>simp[h,h2]
  ·rename_i h
   rw[FB,FB,RQ k v c m]
   by_cases h2:k=c
   ·subst h2;simp[h]
   ·simp [h2]
structure TF (kd:IntKind) (es:Array MapEntry) (clock:Nat) (m:List (Int×Value)):Prop where
 same:es.toList.map (fun e=>(e.key,e.val))=m.map fun p=>(Value.int kd p.1,p.2)
 stamped:MapKept.Stamped es clock
 size:es.size≤maxLen
def OE(kd:IntKind)(h:Heap)(b:Nat)(m:List (Int×Value)):Prop:= ∃es clock,h[b]? =some (.map es clock)∧TF kd es clock m
theorem OE.mod {kd:IntKind}{h h':Heap}{b:Nat}{m:List (Int×Value)}{S:Nat→Prop}(M:OE kd h b m)(x:Mod S h h')(hS: ¬S b):OE kd h' b m:=by
 obtain⟨es,clock,hb,e⟩:=M
 exact⟨es,clock,x.blk hb hS,e⟩
theorem OE.lt {kd:IntKind}{h:Heap}{b:Nat}{m:List (Int×Value)}(M:OE kd h b m):b<h.size:=by
 obtain⟨es,clock,hb,e⟩:=M;exact Ah hb
theorem OE.empty {kd:IntKind}{h:Heap}{b c:Nat}(hb:h[b]? =some (.map #[] c)):OE kd h b []:=⟨#[],c,hb,rfl,MapKept.stamped_empty c,by simp⟩
theorem TF.len {kd:IntKind}{es:Array MapEntry}{clock:Nat}{m:List (Int×Value)}(M:TF kd es clock m):es.size=m.length:=by
 rw[← Array.length_toList];have:=congrArg List.length M.same;simpa using this
theorem TF.keysOf {kd:IntKind}{es:Array MapEntry}{clock:Nat}{m:List (Int×Value)}(M:TF kd es clock m):es.toList.map (·.key)=m.map fun p=>Value.int kd p.1:=by
 have:=congrArg (List.map Prod.fst) M.same
 simpa [List.map_map,Function.comp_def] using this
theorem TF.nodup {kd:IntKind}{es:Array MapEntry}{clock:Nat}{m:List (Int×Value)}(M:TF kd es clock m):(m.map (·.1)).Nodup:=by
 have h1:=M.stamped.2.2
 rw[M.keysOf] at h1
 have h2:(m.map fun p=>Value.int kd p.1)=(m.map (·.1)).map (Value.int kd):=by simp
 rw[h2] at h1
 exact(List.pairwise_map.1 h1).imp fun hne e=>hne (by rw[e])
theorem L8 {kd:IntKind}(k:Int)(v:Value): ∀(es:List MapEntry) (m:List (Int×Value)) (i:Nat),(es.map fun e=>(e.key,e.val))=(m.map fun p=>(Value.int kd p.1,p.2))→
  (Instr.findNow (.int kd) (.int kd k) es i=some none∧I8 k m=none∧QM k v m=m++ [(k,v)]∧AAY k m=m∧ ∀e∈es,e.key≠ .int kd k)∨
  ∃j u,Instr.findNow (.int kd) (.int kd k) es i=some (some (i+j,u))∧I8 k m=some u∧(∃ e,es[j]? =some e∧e.key= .int kd k)∧((es.modify j fun e=> {e with key:= .int kd k,val:=v}).map fun e=>(e.key,e.val))=(QM k v m).map (fun p=>(Value.int kd p.1,p.2))∧
   ((m.map (·.1)).Nodup→((es.eraseIdx j).map fun e=>(e.key,e.val))=(AAY k m).map fun p=>(Value.int kd p.1,p.2))
 | [],[],i,_=> .inl ⟨rfl,rfl,rfl,rfl,by simp⟩
 | [],_::_,_,h=>by simp at h
 |_::_,[],_,h=>by simp at h
 |e::es,p::m,i,h=>by
  simp only[List.map_cons,List.cons.injEq,Prod.mk.injEq] at h
  obtain⟨⟨h1,h2⟩,h3⟩:=h
  have hs:Instr.sameNow (.int kd) (.int kd k) e.key=some (decide (k=p.1)):=by
   rw[h1]
   show(if kd=kd then some (k==p.1) else none)=_
   rw[if_pos rfl]
   congr 1
  by_cases hk:p.1=k
  ·refine .inr ⟨0,e.val,?_,?_,⟨e,rfl,by rw[h1,hk]⟩,?_,?_⟩
   ·unfold Instr.findNow;rw[hs,decide_eq_true hk.symm];rfl
   ·rw [FB,if_pos hk,h2]
   ·unfold QM;rw[if_pos hk];simp[h3]
   ·intro hnd
    have hnd:=List.nodup_cons.1 hnd
    simp only[List.eraseIdx_zero,List.tail_cons]
    rw[h3]
    congr 1
    unfold AAY
    rw[List.filter_cons]
    simp only[hk,decide_true,Bool.not_true,Bool.false_eq_true,if_false]
    refine(List.filter_eq_self.2 fun q hq=>?_).symm
    simp only[Bool.not_eq_true',decide_eq_false_iff_not]
    rintro rfl
    exact hnd.1 (by show p.1∈_;rw[hk];exact List.mem_map_of_mem (f:=Prod.fst) hq)
  ·rcases L8 k v es m (i+1) h3 with⟨a1,a2,a3,a6,a7⟩|⟨j,u,a1,a2,⟨e',a3,a4⟩,a5,a6⟩
   ·refine .inl ⟨?_,?_,?_,?_,?_⟩
    ·unfold Instr.findNow;rw[hs,decide_eq_false (fun e=>hk e.symm)];exact a1
    ·rw [FB,if_neg hk];exact a2
    ·unfold QM;rw[if_neg hk,a3];rfl
    ·unfold AAY at a6 ⊢;rw[List.filter_cons];simp[hk];simpa using a6
    ·intro x hx
     rcases List.mem_cons.1 hx with rfl|hx
     ·rw [h1];intro e;injection e with _ e;exact hk e
     ·exact a7 x hx
   ·refine .inr ⟨j+1,u,?_,?_,⟨e',by simpa using a3,a4⟩,?_,?_⟩
    ·unfold Instr.findNow;rw[hs,decide_eq_false (fun e=>hk e.symm)];rw[show i+(j+1)=i+1+j by omega];exact a1
    ·rw [FB,if_neg hk];exact a2
    ·unfold QM;rw[if_neg hk];simp[h1,h2,a5]
    ·intro hnd
     have hnd:=List.nodup_cons.1 hnd
     have:=a6 hnd.2
     unfold AAY at this ⊢
     rw[List.filter_cons]
     simp[hk,h1,h2]
     simpa using this
section
variable {P : Program} {kd : IntKind}
theorem Ex {kt:TypeId}(hk:P.underlying kt=some (.int kd))(e:Bool)(n:Nat)(k:Int)(w:World):(Instr.checkKey e (n+1) kt (.int kd k)).run P w= .ok () w:=by
 simp[Instr.checkKey,Av hk]
theorem Ih {A:Amb}{t kt et:TypeId}{z:Value}(ht:P.underlying t=some (.map kt et))(hk:P.underlying kt=some (.int kd))(hz:(zeroValue et).calc P=some z){h:Heap}{b:Nat}{m:List (Int×Value)}{k:Int}{K:Value→Heap→Prop}
  (M:OE kd h b m) (H:K ((I8 k m).getD z) h):BK A P (Instr.lookup t (.map (some b)) (.int kd k) false) h K:=by
 intro n
 refine⟨_,h,n,?_,H⟩
 obtain⟨es,clock,hb,e⟩:=M
 have hg:=MapKept.run_getObj_map (P:=P) (w:=A.at h n) (r:=b) hb
 rcases L8 k z es.toList m 0 e.same with⟨a1,a2,_⟩|⟨j,u,a1,a2,_,_⟩
 ·simp [Instr.lookup,Av ht,hg,Ex hk,Instr.findKey,Av hk,a1,a2,Result.andThen,Jg hz]
 ·simp [Instr.lookup,Av ht,hg,Ex hk,Instr.findKey,Av hk,a1,a2,Result.andThen]
theorem Y9 {A:Amb}{t kt et:TypeId}(ht:P.underlying t=some (.map kt et))(hk:P.underlying kt=some (.int kd)){h:Heap}{b:Nat}{m:List (Int×Value)}{k:Int}{v:Value}{K:Heap→Prop}
  (M:OE kd h b m) (hml:m.length<maxLen) (H: ∀h',OE kd h' b (QM k v m)→Mod (fun c=>c=b) h h'→h'.size=h.size→K h'):WB A P (Instr.mapUpdate t (.map (some b)) (.int kd k) v) h K:=by
 intro n
 obtain⟨es,clock,hb,e⟩:=M
 have hlt:=Ah hb
 have hg:=MapKept.run_getObj_map (P:=P) (w:=A.at h n) (r:=b) hb
 have hst: ∀o,(setObj b o).run P (A.at h n)= .ok () (A.at (h.setIfInBounds b o) n):=fun o=>MapKept.run_setObj_map (P:=P) (w:=A.at h n) o hb
 have hlen:=e.len
 rcases L8 k v es.toList m 0 e.same with⟨a1,a2,a3,_,a7⟩|⟨j,u,a1,a2,⟨e',a3,a4⟩,a5,_⟩
 ·refine⟨h.setIfInBounds b (.map (es.push {key:= .int kd k,val:=v,born:=clock}) (clock+1)),n,?_,H _ ⟨_,_,Bt hlt,?_,MapKept.stamped_push e.stamped a7,by simp;omega⟩ (Mod.setObj rfl) (by simp)⟩
  ·simp [Instr.mapUpdate,Av ht,hg,Ex hk,Instr.findKey,Av hk,a1,Result.andThen,hst]
  ·rw [a3];simp[e.same]
 ·have hj:es[j]? =some e':=by simpa using a3
  refine⟨h.setIfInBounds b (.map (es.modify j fun e=> {e with key:= .int kd k,val:=v}) clock),n,?_,H _ ⟨_,_,Bt hlt,?_,MapKept.stamped_modify e.stamped _ _ (fun _ _=>rfl) (fun x _ hx=>?_),by simpa using e.size⟩ (Mod.setObj rfl) (by simp)⟩
  ·have hstay: ∀w,(Instr.keyThatStays (.int kd k) (.int kd k)).run P w= .ok (.int kd k) w:=fun w=>by
    simp[Instr.keyThatStays,Instr.sameBits]
   simp[Instr.mapUpdate,Av ht,hg,Ex hk,Instr.findKey,Av hk,a1,hj,a4,hstay,Result.andThen,hst]
  ·rw [Array.toList_modify];exact a5
  ·rw [hj] at hx;cases hx;exact a4.symm
theorem AGC {A:Amb}{t kt et ty:TypeId}(ht:P.underlying t=some (.map kt et))(hk:P.underlying kt=some (.int kd)){h:Heap}{b:Nat}{m:List (Int×Value)}{k:Int}{K:Value→Heap→Prop}
  (M:OE kd h b m) (H: ∀h',OE kd h' b (AAY k m)→Mod (fun c=>c=b) h h'→h'.size=h.size→K (.tuple #[]) h'):BK A P (Builtin.delete_ #[t,kt] ty #[.map (some b),.int kd k]) h K:=by
 intro n
 obtain⟨es,clock,hb,e⟩:=M
 have hlt:=Ah hb
 have hg:=MapKept.run_getObj_map (P:=P) (w:=A.at h n) (r:=b) hb
 have hst: ∀o,(setObj b o).run P (A.at h n)= .ok () (A.at (h.setIfInBounds b o) n):=fun o=>MapKept.run_setObj_map (P:=P) (w:=A.at h n) o hb
 rcases L8 k (.bool true) es.toList m 0 e.same with⟨a1,a2,_,a6,_⟩|⟨j,u,a1,a2,⟨e',a3,a4⟩,_,a6⟩
 ·refine⟨_,h.setIfInBounds b (.map es clock),n,?_,H _ ⟨_,_,Bt hlt,by rw[a6];exact e.same,e.stamped,e.size⟩ (Mod.setObj rfl) (by simp)⟩
  simp[Builtin.delete_,Av ht,hg,Ex hk,Instr.findKey,Av hk,a1,Result.andThen,hst]
 ·have hj:es[j]? =some e':=by simpa using a3
  refine⟨_,h.setIfInBounds b (.map (es.eraseIdxIfInBounds j) clock),n,?_,H _ ⟨_,_,Bt hlt,?_,MapKept.stamped_erase e.stamped _,?_⟩ (Mod.setObj rfl) (by simp)⟩
  ·simp [Builtin.delete_,Av ht,hg,Ex hk,Instr.findKey,Av hk,a1,Result.andThen,hst]
  ·have hjl:=(Array.getElem?_eq_some_iff.1 hj).1
   rw[Array.eraseIdxIfInBounds,dif_pos hjl,Array.toList_eraseIdx]
   exact a6 e.nodup
  ·have:(es.eraseIdxIfInBounds j).size≤es.size:=by
    unfold Array.eraseIdxIfInBounds;split<;>simp
   have:=e.size;omega
end
end Go.Lf

