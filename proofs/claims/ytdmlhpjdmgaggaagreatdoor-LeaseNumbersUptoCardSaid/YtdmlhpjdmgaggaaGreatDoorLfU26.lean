/-
 Maps of whole numbers: an entry, laid out first and stored behind; more of to strike.
-/
import Derived.Test.YtdmlhpjdmgaggaaGreatDoorLfU25
import Derived.WideKeyEntry
set_option linter.unusedVariables false
set_option linter.unusedSimpArgs false
set_option maxRecDepth 100000
set_option linter.unusedVariables false
set_option linter.unusedSimpArgs false
namespace Go.Lf
open Go
theorem ABo(k c:Int): ∀m:List (Int×Value),I8 c (AAY k m)=if k=c then none else I8 c m
 | []=>by simp[I8,AAY]
 |p::m=>by
  have ih:=ABo k c m
  unfold AAY at ih ⊢
  rw[List.filter_cons,FB]
  by_cases h1:p.1=k
  ·rw [if_neg (by simp[h1]),ih]
   by_cases h2:k=c
   ·rw [if_pos h2,if_pos h2]
   ·rw [if_neg h2,if_neg h2,if_neg (fun e=>h2 (h1.symm.trans e))]
  ·rw [if_pos (by simp[h1]),FB,ih]
   by_cases h2:p.1=c
   ·rw [if_pos h2,if_pos h2,if_neg (fun e=>h1 (h2.trans e.symm))]
   ·rw [if_neg h2,if_neg h2]
theorem AJz {k:Int}{m:List (Int×Value)}:(AAY k m).length≤m.length:=List.length_filter_le _ _
theorem QD {k:Int}{v:Value}: ∀ {m:List (Int×Value)},(QM k v m).length≤m.length+1
 | []=>by simp[QM]
 |p::m=>by
  unfold QM
  split
  ·simp
  ·have:=QD (k:=k) (v:=v) (m:=m)
   simp only[List.length_cons];omega
section
variable {P : Program} {kd : IntKind}
theorem AHe {A:Amb}{t kt et:TypeId}{z:Value}(ht:P.underlying t=some (.map kt et))(hk:P.underlying kt=some (.int kd))(hz:(zeroValue et).calc P=some z){h:Heap}{b:Nat}{m:List (Int×Value)}{k:Int}{v:Value}{K:Heap→Prop}
  (M:OE kd h b m) (hml:m.length<maxLen) (H: ∀h',OE kd h' b (QM k v m)→Mod (fun c=>c=b) h h'→h'.size=h.size→K h'):
  BK A P (Instr.mapEntry t (.map (some b)) (.int kd k)) h fun w h1=> ∃x u:Value,w= .tuple #[x,u]∧ ∃st:Int,u= .int .i64 st∧(WB A P (Instr.entryStore t (.map (some b)) (.int .i64 st) v) h1 fun h2=>K h2):=by
 intro n
 obtain⟨es,clock,hb,e⟩:=M
 have hlt:=Ah hb
 have hg:=MapKept.run_getObj_map (P:=P) (w:=A.at h n) (r:=b) hb
 have hst: ∀o,(setObj b o).run P (A.at h n)= .ok () (A.at (h.setIfInBounds b o) n):=fun o=>MapKept.run_setObj_map (P:=P) (w:=A.at h n) o hb
 have hlen:=e.len
 obtain⟨s1,s2,_⟩:=e.stamped
 rcases L8 k v es.toList m 0 e.same with⟨a1,a2,a3,_,a7⟩|⟨j,u,a1,a2,⟨e',a3,a4⟩,a5,_⟩
 ·refine⟨.tuple #[z,goInt clock],h.setIfInBounds b (.map (es.push ⟨.int kd k,z,clock⟩) (clock+1)),n,?_,z,goInt clock,rfl,(clock:Int),rfl,fun n2=>?_⟩
  ·simp [Instr.mapEntry,Av ht,hg,Ex hk,Instr.findKey,Av hk,a1,Result.andThen,Jg hz,hst]
  have hb2:(h.setIfInBounds b (.map (es.push ⟨.int kd k,z,clock⟩) (clock+1)))[b]? =some (.map (es.push ⟨.int kd k,z,clock⟩) (clock+1)):=Bt hlt
  have md:Mod (fun c=>c=b) h (h.setIfInBounds b (.map (es.push ⟨.int kd k,z,clock⟩) (clock+1))):=Mod.setObj rfl
  have sz:(h.setIfInBounds b (.map (es.push ⟨.int kd k,z,clock⟩) (clock+1))).size=h.size:=by simp
  generalize h.setIfInBounds b (.map (es.push ⟨.int kd k,z,clock⟩) (clock+1))=h1 at*
  have hlt2:=Ah hb2
  have hg2:=MapKept.run_getObj_map (P:=P) (w:=A.at h1 n2) (r:=b) hb2
  have hst2: ∀o,(setObj b o).run P (A.at h1 n2)= .ok () (A.at (h1.setIfInBounds b o) n2):=fun o=>MapKept.run_setObj_map (P:=P) (w:=A.at h1 n2) o hb2
  have hidx:(es.push ⟨.int kd k,z,clock⟩).findIdx? (fun e=>((e.born:Nat):Int)==((clock:Nat):Int))=some es.size:=by
   rw[WideElems.findIdx_arr]
   exact WideElems.findIdx_born (l:=(es.push ⟨.int kd k,z,clock⟩).toList) (j:=es.size) (e0:=⟨.int kd k,z,clock⟩) (by
    simp only[Array.toList_push,List.map_append,List.map_cons,List.map_nil]
    refine List.nodup_append.2 ⟨s2,by simp,fun a ha c hc e1=>?_⟩
    simp only[List.mem_singleton] at hc
    obtain⟨x,hx,rfl⟩:=List.mem_map.1 ha
    have:=s1 x hx
    omega) (by simp)
  have hmod:(es.push ⟨.int kd k,z,clock⟩).modify es.size (fun e=> {e with val:=v})=es.push ⟨.int kd k,v,clock⟩:=by
   apply Array.ext'
   rw[Array.toList_modify,Array.toList_push,Array.toList_push,←Array.length_toList,WideElems.modify_last]
  refine⟨h1.setIfInBounds b (.map (es.push ⟨.int kd k,v,clock⟩) (clock+1)),n2,?_,H _ ⟨_,_,Bt hlt2,?_,MapKept.stamped_push e.stamped a7,by simp;omega⟩ (md.trans (Mod.setObj rfl)) (by simp;omega)⟩
  ·simp [Instr.entryStore,hg2,asInt,asIntOf,goInt,hidx,hmod,hst2,Result.andThen]
  ·rw [a3];simp[e.same]
 ·have hj:es[j]? =some e':=by simpa using a3
  have hsame:es.modify j (fun e=> {e with key:= .int kd k})=es:=by
   apply Array.ext'
   rw[Array.toList_modify,ChangeMaps.modify_eq_set _ _ _ _ a3]
   have:({e' with key:= .int kd k}:MapEntry)=e':=by rw[← a4]
   rw[this]
   exact WideElems.set_self _ _ _ a3
  have hstay: ∀w,(Instr.keyThatStays (.int kd k) (.int kd k)).run P w= .ok (.int kd k) w:=fun w=>by
   simp[Instr.keyThatStays,Instr.sameBits]
  refine⟨.tuple #[u,goInt e'.born],h.setIfInBounds b (.map es clock),n,?_,u,goInt e'.born,rfl,(e'.born:Int),rfl,fun n2=>?_⟩
  ·simp [Instr.mapEntry,Av ht,hg,Ex hk,Instr.findKey,Av hk,a1,hj,a4,hstay,hsame,Result.andThen,hst]
  have hb2:(h.setIfInBounds b (.map es clock))[b]? =some (.map es clock):=Bt hlt
  have md:Mod (fun c=>c=b) h (h.setIfInBounds b (.map es clock)):=Mod.setObj rfl
  have sz:(h.setIfInBounds b (.map es clock)).size=h.size:=by simp
  generalize h.setIfInBounds b (.map es clock)=h1 at*
  have hlt2:=Ah hb2
  have hg2:=MapKept.run_getObj_map (P:=P) (w:=A.at h1 n2) (r:=b) hb2
  have hst2: ∀o,(setObj b o).run P (A.at h1 n2)= .ok () (A.at (h1.setIfInBounds b o) n2):=fun o=>MapKept.run_setObj_map (P:=P) (w:=A.at h1 n2) o hb2
  have hidx:es.findIdx? (fun e=>((e.born:Nat):Int)==((e'.born:Nat):Int))=some j:=by
   rw[WideElems.findIdx_arr]
   exact WideElems.findIdx_born s2 a3
  have hmod:es.modify j (fun e=> {e with val:=v})=es.modify j (fun e=> {e with key:= .int kd k,val:=v}):=by
   apply Array.ext'
   rw[Array.toList_modify,Array.toList_modify,ChangeMaps.modify_eq_set _ _ _ _ a3,ChangeMaps.modify_eq_set _ _ _ _ a3,←a4]
  refine⟨h1.setIfInBounds b (.map (es.modify j fun e=> {e with key:= .int kd k,val:=v}) clock),n2,?_,H _ ⟨_,_,Bt hlt2,?_,MapKept.stamped_modify e.stamped _ _ (fun _ _=>rfl) (fun x _ hx=>?_),by simpa using e.size⟩ (md.trans (Mod.setObj rfl)) (by simp;omega)⟩
  ·simp [Instr.entryStore,hg2,asInt,asIntOf,goInt,hidx,hmod,hst2,Result.andThen]
  ·rw [Array.toList_modify];exact a5
  ·rw [hj] at hx;cases hx;exact a4.symm
end
end Go.Lf

