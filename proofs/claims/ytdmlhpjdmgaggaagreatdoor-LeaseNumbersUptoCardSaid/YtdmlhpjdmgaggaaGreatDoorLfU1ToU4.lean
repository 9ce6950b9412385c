/-
 LIFT, part U1: strings in order; lists of strings; maps of strings, with their stamps.
-/
import Derived.Test.YtdmlhpjdmgaggaaGreatDoorLfKToU6
import Derived.MapKept
import Derived.Maps.Own
import Derived.Lib.Bytealg
import Derived.Sort.KeysCollected
import Derived.StringKeys
import Derived.Laws.BytesString
import Derived.Laws.BytesArg
set_option linter.unusedVariables false
set_option linter.unusedSimpArgs false
set_option maxRecDepth 100000
namespace Go.Lf
open Go
theorem toList_inj {a b:ByteArray}:(a.toList==b.toList)=decide (a=b):=by
 rw[ByteArray.toList_eq,ByteArray.toList_eq]
 rw[Bool.eq_iff_iff]
 simp[ByteArray.ext_iff,←Array.toList_inj]
theorem BZ {a b:ByteArray}:sEq a b=decide (a=b):=toList_inj
theorem Ns: ∀(a:List UInt8),Op.bytesLess a a=false
 | []=>rfl
 |a::x=>by simp[Op.bytesLess,Ns x]
theorem Yv: ∀(a b:List UInt8),Op.bytesLess a b=false→Op.bytesLess b a=false→a=b
 | [],[],_,_=>rfl
 | [],_::_,h,_=>by simp[Op.bytesLess] at h
 |_::_,[],_,h=>by simp[Op.bytesLess] at h
 |a::x,b::y,h1,h2=>by
  simp only[Op.bytesLess,Bool.or_eq_false_iff,Bool.and_eq_false_iff,decide_eq_false_iff_not,beq_eq_false_iff_ne] at h1 h2
  have hab:a=b:=by
   have h3:=h1.1;have h4:=h2.1
   exact UInt8.le_antisymm (UInt8.not_lt.1 h4) (UInt8.not_lt.1 h3)
  subst hab
  rw[Yv x y (h1.2.resolve_left (by simp)) (h2.2.resolve_left (by simp))]
theorem QH: ∀(a b c:List UInt8),Op.bytesLess a b=true→Op.bytesLess b c=true→Op.bytesLess a c=true
 |_,[],_,h,_=>by simp[Op.bytesLess] at h
 |_,_::_,[],_,h=>by simp[Op.bytesLess] at h
 | [],_::_,_::_,_,_=>by simp[Op.bytesLess]
 |a::x,b::y,c::z,h1,h2=>by
  simp only[Op.bytesLess,Bool.or_eq_true,Bool.and_eq_true,decide_eq_true_eq,beq_iff_eq] at h1 h2 ⊢
  rcases h1 with h1|⟨rfl,h1⟩
  ·rcases h2 with h2|⟨rfl,h2⟩
   ·exact .inl (UInt8.lt_trans h1 h2)
   ·exact .inl h1
  ·rcases h2 with h2|⟨rfl,h2⟩
   ·exact .inl h2
   ·exact .inr ⟨rfl,QH x y z h1 h2⟩
theorem Bb(a:ByteArray):sLt a a=false:=Ns _
theorem CZ {a b c:ByteArray}(h1:sLt a b=true)(h2:sLt b c=true):sLt a c=true:=QH _ _ _ h1 h2
theorem K9 {a b:ByteArray}(h1:sLt a b=false)(h2:sLt b a=false):a=b:=by
 have:=Yv _ _ h1 h2
 have h3:sEq a b=true:=by simp[sEq,this]
 rw[BZ] at h3
 simpa using h3
theorem Nl {a b:ByteArray}(h1:sLt a b=true):sLt b a=false:=by
 cases h:sLt b a
 ·rfl
 ·have:=CZ h1 h;rw[Bb] at this;cases this
theorem Ko {a b:ByteArray}(h:sLt a b=true):a≠b:=by rintro rfl;rw[Bb] at h;cases h
theorem ADb {a b c:ByteArray}(h1:sLt a b=true)(h2:sLt c b=false):sLt a c=true:=by
 cases h:sLt b c
 ·rw [K9 h2 h];exact h1
 ·exact CZ h1 h
theorem VO {a b c:ByteArray}(h1:sLt b a=false)(h2:sLt c b=false):sLt c a=false:=by
 cases h:sLt c a
 ·rfl
 ·have:=ADb h h1;rw[this] at h2;cases h2
theorem AJH: ∀(a b:List UInt8),Op.bytesLess a b=decide (a<b)
 | [],[]=>by simp[Op.bytesLess]
 | [],_::_=>by simp[Op.bytesLess]
 |_::_,[]=>by simp[Op.bytesLess]
 |a::x,b::y=>by
  simp only[Op.bytesLess,AJH x y,List.cons_lt_cons_iff]
  by_cases h1:a<b<;>by_cases h2:a=b<;>simp[h1,h2]
theorem Xa(a b:ByteArray):sLt a b=decide (a.data.toList<b.data.toList):=by simp[sLt,ByteArray.toList_eq,AJH]
def F9:Enc ByteArray where
 enc x:= [.string x]
 w:=1
 len _:=rfl
 pos:=by omega
 one x v hv:=by simp at hv;subst hv;rfl
def Eg:Enc Int where
 enc x:= [.int .i64 x]
 w:=1
 len _:=rfl
 pos:=by omega
 one x v hv:=by simp at hv;subst hv;rfl
theorem Cells.str {h:Heap}{a:Addr}{x:ByteArray}(c:Cells h a (F9.enc x)):hget h a=some (.string x):=by
 have h0:=c 0 _ rfl
 rwa [add_zero] at h0
theorem Cells.int {h:Heap}{a:Addr}{x:Int}(c:Cells h a (Eg.enc x)):hget h a=some (.int .i64 x):=by
 have h0:=c 0 _ rfl
 rwa [add_zero] at h0
theorem Own.lt {α:Type}{E:Enc α}{T:TypeId}{h:Heap}{s:Sl}{l:List α}(o:Own E T h s l){b:Nat}(hb:s.blk=some b):b<h.size:=by
 rcases o.row with⟨rfl,_⟩|⟨g,cur,hp,hg,_⟩
 ·simp [Sl.blk] at hb
 ·simp [Sl.blk,hp] at hb;subst hb;exact Ah hg
def V6(k:ByteArray)(v:Value):List (ByteArray×Value)→List (ByteArray×Value)
 | []=> [(k,v)]
 |p::m=>if p.1=k then(k,v)::m else p::V6 k v m
def PO(k:ByteArray)(m:List (ByteArray×Value)):Option Value:=(m.find? fun p=>decide (p.1=k)).map (·.2)
def ACH(k:ByteArray)(m:List (ByteArray×Value)):List (ByteArray×Value):=m.filter fun p=> !decide (p.1=k)
theorem MO(k:ByteArray)(p:ByteArray×Value)(m:List (ByteArray×Value)):PO k (p::m)=if p.1=k then some p.2 else PO k m:=by
 unfold PO;rw[List.find?_cons];by_cases h:p.1=k<;>simp[h]
structure MapOf (es:Array MapEntry) (clock:Nat) (m:List (ByteArray×Value)):Prop where
 same:es.toList.map (fun e=>(e.key,e.val))=m.map fun p=>(Value.string p.1,p.2)
 stamped:MapKept.Stamped es clock
 size:es.size≤maxLen
 keys: ∀p∈m,p.1.size≤maxLen
def Qy(h:Heap)(b:Nat)(m:List (ByteArray×Value)):Prop:= ∃es clock,h[b]? =some (.map es clock)∧MapOf es clock m
theorem Qy.mod {h h':Heap}{b:Nat}{m:List (ByteArray×Value)}{S:Nat→Prop}(M:Qy h b m)(x:Mod S h h')(hS: ¬S b):Qy h' b m:=by
 obtain⟨es,clock,hb,e⟩:=M
 exact⟨es,clock,x.blk hb hS,e⟩
theorem Qy.lt {h:Heap}{b:Nat}{m:List (ByteArray×Value)}(M:Qy h b m):b<h.size:=by
 obtain⟨es,clock,hb,e⟩:=M;exact Ah hb
theorem Qy.empty {h:Heap}{b c:Nat}(hb:h[b]? =some (.map #[] c)):Qy h b []:=⟨#[],c,hb,rfl,MapKept.stamped_empty c,by simp,by simp⟩
theorem MapOf.len {es:Array MapEntry}{clock:Nat}{m:List (ByteArray×Value)}(M:MapOf es clock m):es.size=m.length:=by
 rw[← Array.length_toList];have:=congrArg List.length M.same;simpa using this
theorem MapOf.keysOf {es:Array MapEntry}{clock:Nat}{m:List (ByteArray×Value)}(M:MapOf es clock m):es.toList.map (·.key)=m.map fun p=>Value.string p.1:=by
 have:=congrArg (List.map Prod.fst) M.same
 simpa [List.map_map,Function.comp_def] using this
theorem MapOf.nodup {es:Array MapEntry}{clock:Nat}{m:List (ByteArray×Value)}(M:MapOf es clock m):(m.map (·.1)).Nodup:=by
 have h1:=M.stamped.2.2
 rw[M.keysOf] at h1
 have h2:(m.map fun p=>Value.string p.1)=(m.map (·.1)).map Value.string:=by simp
 rw[h2] at h1
 exact(List.pairwise_map.1 h1).imp fun hne e=>hne (congrArg _ e)
theorem RG(k:ByteArray)(v:Value): ∀(es:List MapEntry) (m:List (ByteArray×Value)) (i:Nat),(es.map fun e=>(e.key,e.val))=(m.map fun p=>(Value.string p.1,p.2))→
  (Instr.findNow .string (.string k) es i=some none∧PO k m=none∧V6 k v m=m++ [(k,v)]∧ACH k m=m∧ ∀e∈es,e.key≠ .string k)∨
  ∃j u,Instr.findNow .string (.string k) es i=some (some (i+j,u))∧PO k m=some u∧(∃ e,es[j]? =some e∧e.key= .string k)∧((es.modify j fun e=> {e with key:= .string k,val:=v}).map fun e=>(e.key,e.val))=(V6 k v m).map (fun p=>(Value.string p.1,p.2))∧
   ((m.map (·.1)).Nodup→((es.eraseIdx j).map fun e=>(e.key,e.val))=(ACH k m).map fun p=>(Value.string p.1,p.2))
 | [],[],i,_=> .inl ⟨rfl,rfl,rfl,rfl,by simp⟩
 | [],_::_,_,h=>by simp at h
 |_::_,[],_,h=>by simp at h
 |e::es,p::m,i,h=>by
  simp only[List.map_cons,List.cons.injEq,Prod.mk.injEq] at h
  obtain⟨⟨h1,h2⟩,h3⟩:=h
  have hs:Instr.sameNow .string (.string k) e.key=some (decide (k=p.1)):=by
   rw[h1]
   show some (k==p.1)=_
   congr 1
   rw[Bool.eq_iff_iff,MapKept.bytes_beq];simp
  by_cases hk:p.1=k
  ·refine .inr ⟨0,e.val,?_,?_,⟨e,rfl,by rw[h1,hk]⟩,?_,?_⟩
   ·unfold Instr.findNow;rw[hs,decide_eq_true hk.symm];rfl
   ·rw [MO,if_pos hk,h2]
   ·unfold V6;rw[if_pos hk];simp[h3]
   ·intro hnd
    have hnd:=List.nodup_cons.1 hnd
    simp only[List.eraseIdx_zero,List.tail_cons]
    rw[h3]
    congr 1
    unfold ACH
    rw[List.filter_cons]
    simp only[hk,decide_true,Bool.not_true,Bool.false_eq_true,if_false]
    refine(List.filter_eq_self.2 fun q hq=>?_).symm
    simp only[Bool.not_eq_true',decide_eq_false_iff_not]
    rintro rfl
    exact hnd.1 (by show p.1∈_;rw[hk];exact List.mem_map_of_mem (f:=Prod.fst) hq)
  ·rcases RG k v es m (i+1) h3 with⟨a1,a2,a3,a6,a7⟩|⟨j,u,a1,a2,⟨e',a3,a4⟩,a5,a6⟩
   ·refine .inl ⟨?_,?_,?_,?_,?_⟩
    ·unfold Instr.findNow;rw[hs,decide_eq_false (fun e=>hk e.symm)];exact a1
    ·rw [MO,if_neg hk];exact a2
    ·unfold V6;rw[if_neg hk,a3];rfl
    ·unfold ACH at a6 ⊢;rw[List.filter_cons];simp[hk];simpa using a6
    ·intro x hx
     rcases List.mem_cons.1 hx with rfl|hx
     ·rw [h1];intro e;injection e with e;exact hk e
     ·exact a7 x hx
   ·refine .inr ⟨j+1,u,?_,?_,⟨e',by simpa using a3,a4⟩,?_,?_⟩
    ·unfold Instr.findNow;rw[hs,decide_eq_false (fun e=>hk e.symm)];rw[show i+(j+1)=i+1+j by omega];exact a1
    ·rw [MO,if_neg hk];exact a2
    ·unfold V6;rw[if_neg hk];simp[h1,h2,a5]
    ·intro hnd
     have hnd:=List.nodup_cons.1 hnd
     have:=a6 hnd.2
     unfold ACH at this ⊢
     rw[List.filter_cons]
     simp[hk,h1,h2]
     simpa using this
section
variable {P : Program}
theorem Hy {kt:TypeId}(hk:P.underlying kt=some .string)(e:Bool)(n:Nat)(k:ByteArray)(w:World):(Instr.checkKey e (n+1) kt (.string k)).run P w= .ok () w:=by
 simp[Instr.checkKey,Av hk]
theorem LQ {A:Amb}{t kt et:TypeId}{z:Value}(ht:P.underlying t=some (.map kt et))(hk:P.underlying kt=some .string)(hz:(zeroValue et).calc P=some z){h:Heap}{b:Nat}{m:List (ByteArray×Value)}{k:ByteArray}{K:Value→Heap→Prop}
  (M:Qy h b m) (H:K ((PO k m).getD z) h):BK A P (Instr.lookup t (.map (some b)) (.string k) false) h K:=by
 intro n
 refine⟨_,h,n,?_,H⟩
 obtain⟨es,clock,hb,e⟩:=M
 have hg:=MapKept.run_getObj_map (P:=P) (w:=A.at h n) (r:=b) hb
 rcases RG k z es.toList m 0 e.same with⟨a1,a2,_⟩|⟨j,u,a1,a2,_,_⟩
 ·simp [Instr.lookup,Av ht,hg,Hy hk,Instr.findKey,Av hk,a1,a2,Result.andThen,Jg hz]
 ·simp [Instr.lookup,Av ht,hg,Hy hk,Instr.findKey,Av hk,a1,a2,Result.andThen]
theorem ABw {k:ByteArray}{v:Value}: ∀ {m:List (ByteArray×Value)} {p:ByteArray×Value},p∈V6 k v m→p.1=k∨p∈m
 | [],p,h=>by simp[V6] at h;exact .inl (by rw[h])
 |q::m,p,h=>by
  unfold V6 at h
  split at h
  ·rcases List.mem_cons.1 h with rfl|h
   ·exact .inl rfl
   ·exact .inr (List.mem_cons_of_mem _ h)
  ·rcases List.mem_cons.1 h with rfl|h
   ·exact .inr List.mem_cons_self
   ·exact(ABw h).imp id (List.mem_cons_of_mem _)
theorem ABd {A:Amb}{t kt et:TypeId}(ht:P.underlying t=some (.map kt et))(hk:P.underlying kt=some .string){h:Heap}{b:Nat}{m:List (ByteArray×Value)}{k:ByteArray}{v:Value}{K:Heap→Prop}
  (M:Qy h b m) (hks:k.size≤maxLen) (hml:m.length<maxLen) (H: ∀h',Qy h' b (V6 k v m)→Mod (fun c=>c=b) h h'→h'.size=h.size→K h'):WB A P (Instr.mapUpdate t (.map (some b)) (.string k) v) h K:=by
 intro n
 obtain⟨es,clock,hb,e⟩:=M
 have hlt:=Ah hb
 have hg:=MapKept.run_getObj_map (P:=P) (w:=A.at h n) (r:=b) hb
 have hst: ∀o,(setObj b o).run P (A.at h n)= .ok () (A.at (h.setIfInBounds b o) n):=fun o=>MapKept.run_setObj_map (P:=P) (w:=A.at h n) o hb
 have hkeys: ∀p∈V6 k v m,p.1.size≤maxLen:=fun p hp=>(ABw hp).elim (fun h=>by rw[h];exact hks) (e.keys p)
 have hlen:=e.len
 rcases RG k v es.toList m 0 e.same with⟨a1,a2,a3,_,a7⟩|⟨j,u,a1,a2,⟨e',a3,a4⟩,a5,_⟩
 ·refine⟨h.setIfInBounds b (.map (es.push {key:= .string k,val:=v,born:=clock}) (clock+1)),n,?_,H _ ⟨_,_,Bt hlt,?_,MapKept.stamped_push e.stamped a7,by simp;omega,hkeys⟩ (Mod.setObj rfl) (by simp)⟩
  ·simp [Instr.mapUpdate,Av ht,hg,Hy hk,Instr.findKey,Av hk,a1,Result.andThen,hst]
  ·rw [a3];simp[e.same]
 ·have hj:es[j]? =some e':=by simpa using a3
  refine⟨h.setIfInBounds b (.map (es.modify j fun e=> {e with key:= .string k,val:=v}) clock),n,?_,H _ ⟨_,_,Bt hlt,?_,MapKept.stamped_modify e.stamped _ _ (fun _ _=>rfl) (fun x _ hx=>?_),by simpa using e.size,hkeys⟩ (Mod.setObj rfl) (by simp)⟩
  ·have hstay: ∀w,(Instr.keyThatStays (.string k) (.string k)).run P w= .ok (.string k) w:=fun w=>by
    have hkk:(k==k)=true:=(MapKept.bytes_beq k k).2 rfl
    simp[Instr.keyThatStays,Instr.sameBits,hkk]
   simp[Instr.mapUpdate,Av ht,hg,Hy hk,Instr.findKey,Av hk,a1,hj,a4,hstay,Result.andThen,hst]
  ·rw [Array.toList_modify];exact a5
  ·rw [hj] at hx;cases hx;exact a4.symm
theorem AH4 {A:Amb}{t kt et ty:TypeId}(ht:P.underlying t=some (.map kt et))(hk:P.underlying kt=some .string){h:Heap}{b:Nat}{m:List (ByteArray×Value)}{k:ByteArray}{K:Value→Heap→Prop}
  (M:Qy h b m) (H: ∀h',Qy h' b (ACH k m)→Mod (fun c=>c=b) h h'→h'.size=h.size→K (.tuple #[]) h'):BK A P (Builtin.delete_ #[t,kt] ty #[.map (some b),.string k]) h K:=by
 intro n
 obtain⟨es,clock,hb,e⟩:=M
 have hlt:=Ah hb
 have hg:=MapKept.run_getObj_map (P:=P) (w:=A.at h n) (r:=b) hb
 have hst: ∀o,(setObj b o).run P (A.at h n)= .ok () (A.at (h.setIfInBounds b o) n):=fun o=>MapKept.run_setObj_map (P:=P) (w:=A.at h n) o hb
 have hkeys: ∀p∈ACH k m,p.1.size≤maxLen:=fun p hp=>e.keys p (List.mem_filter.1 hp).1
 rcases RG k (.bool true) es.toList m 0 e.same with⟨a1,a2,_,a6,_⟩|⟨j,u,a1,a2,⟨e',a3,a4⟩,_,a6⟩
 ·refine⟨_,h.setIfInBounds b (.map es clock),n,?_,H _ ⟨_,_,Bt hlt,by rw[a6];exact e.same,e.stamped,e.size,hkeys⟩ (Mod.setObj rfl) (by simp)⟩
  simp[Builtin.delete_,Av ht,hg,Hy hk,Instr.findKey,Av hk,a1,Result.andThen,hst]
 ·have hj:es[j]? =some e':=by simpa using a3
  refine⟨_,h.setIfInBounds b (.map (es.eraseIdxIfInBounds j) clock),n,?_,H _ ⟨_,_,Bt hlt,?_,MapKept.stamped_erase e.stamped _,?_,hkeys⟩ (Mod.setObj rfl) (by simp)⟩
  ·simp [Builtin.delete_,Av ht,hg,Hy hk,Instr.findKey,Av hk,a1,Result.andThen,hst]
  ·have hjl:=(Array.getElem?_eq_some_iff.1 hj).1
   rw[Array.eraseIdxIfInBounds,dif_pos hjl,Array.toList_eraseIdx]
   exact a6 e.nodup
  ·have:(es.eraseIdxIfInBounds j).size≤es.size:=by
    unfold Array.eraseIdxIfInBounds;split<;>simp
   have:=e.size;omega
end
def AMh(_:Value):Option (DataW Unit×List MemPlace):=some (.nil,[])
theorem AEp {H:Type}(x:Lit×DataW H): ∀l:List (Lit×DataW H),(DataW.insert x l).Perm (x::l)
 | []=>by simp[DataW.insert]
 |y::r=>by
  unfold DataW.insert
  split
  ·exact List.Perm.refl _
  ·exact((AEp x r).cons y).trans (List.Perm.swap x y r)
theorem sorted_perm {H:Type}: ∀l:List (Lit×DataW H),(l.foldr DataW.insert []).Perm l
 | []=>List.Perm.refl _
 |x::r=>(AEp x _).trans ((sorted_perm r).cons x)
theorem AGU {P:Program}{kt:TypeId}(hk:P.underlying kt=some .string){w:World}{b:Nat}{m:List (ByteArray×Value)}(M:Qy w.heap b m):
  ∃D:DataW Unit,w.ownsMap P kt AMh b m.length D∧(strKeys D).Perm (m.map fun p=>p.1.data.toList)∧Maps.size D=m.length:=by
 obtain⟨es,clock,hb,e⟩:=M
 have hrd: ∀x∈es.toList,∃s:ByteArray,x.key= .string s∧WideElems.rd P kt AMh x=some (.string s.data.toList,.nil):=by
  intro x hx
  have:x.key∈m.map fun p=>Value.string p.1:=by rw[← e.keysOf];exact List.mem_map_of_mem hx
  obtain⟨p,hp,hpx⟩:=List.mem_map.1 this
  refine⟨p.1,hpx.symm,?_⟩
  simp[WideElems.rd,←hpx,Go.WideMaps.keyOf_string_mk hk (e.keys p hp),AMh]
 refine⟨_,⟨es,clock,hb,⟨e.size,e.stamped,fun x hx=>?_⟩,by rw[e.len];exact Nat.le_refl _,rfl⟩,?_,?_⟩
 ·obtain⟨s,_,h2⟩:=hrd x hx;exact⟨_,h2⟩
 ·show((es.toList.map (WideElems.rg P kt AMh)).foldr DataW.insert [] |>.map fun p=>strOf p.1).Perm _
  refine((sorted_perm _).map _).trans ?_
  have h1:(es.toList.map (WideElems.rg P kt AMh)).map (fun p=>strOf p.1)=(es.toList.map (·.key)).map fun v=>match v with| .string s=>s.data.toList|_=> []:=by
   rw[List.map_map,List.map_map]
   refine List.map_congr_left fun x hx=>?_
   obtain⟨s,h1,h2⟩:=hrd x hx
   simp[Function.comp,WideElems.rg,h2,h1,strOf]
  rw[h1,e.keysOf,List.map_map]
  exact List.Perm.of_eq (List.map_congr_left fun x _=>rfl)
 ·show((es.toList.map (WideElems.rg P kt AMh)).foldr DataW.insert []).length=_
  rw[(sorted_perm _).length_eq];simp[e.len]
def Xi(l:List ByteArray):Prop:=l.Pairwise fun a b=>sLt a b=true
theorem AGV {ss:List (List UInt8)}{l:List ByteArray}(hs:Xi l)(hp:ss.Perm (l.map fun x=>x.data.toList)):(ss.mergeSort fun x y=>decide (x≤y))=l.map fun x=>x.data.toList:=by
 have e:=mergeSort_of_perm hp
 have h2:(l.map fun x=>x.data.toList).mergeSort leB=l.map fun x=>x.data.toList:=by
  refine List.mergeSort_of_pairwise ?_
  refine List.pairwise_map.2 (hs.imp fun {a b} hab=>?_)
  rw[Xa] at hab
  simp only[decide_eq_true_eq] at hab ⊢
  exact List.le_of_lt hab
 exact e.trans h2
theorem AIh(l:List ByteArray):(l.map fun x=>x.data.toList).map Proofs.encStr=l.flatMap F9.enc:=by
 induction l with
 |nil=>rfl
 |cons x r ih=>rw[List.map_cons,List.map_cons,ih,List.flatMap_cons];rfl
end Go.Lf

/-
 Plain law: a key's hash; places on a ring; the least of hosts (chapters 6 and 11).
-/
set_option maxRecDepth 100000
set_option linter.unusedVariables false
set_option linter.unusedSimpArgs false
namespace Go.Lf
open Go
theorem wrap_u32(n:Nat):IntKind.wrap .u32 (n:Int)=((n % 4294967296:Nat):Int):=by
 simp[IntKind.wrap,IntKind.bits,IntKind.signed]
theorem wrap_u64(n:Nat):IntKind.wrap .u64 (n:Int)=((n % 18446744073709551616:Nat):Int):=by
 simp[IntKind.wrap,IntKind.bits,IntKind.signed]
theorem RS {a b:Nat}(ha:a<4294967296)(hb:b<4294967296):Vq .u32 (a:Int) (b:Int)=((a ^^^ b:Nat):Int):=by
 have h:a ^^^ b<2^32:=Nat.xor_lt_two_pow (by simpa using ha) (by simpa using hb)
 unfold Vq
 have e:(BitVec.ofInt (IntKind.bits .u32) (a:Int) ^^^ BitVec.ofInt (IntKind.bits .u32) (b:Int)).toNat=a ^^^ b:=by
  show(BitVec.ofInt 32 (a:Int) ^^^ BitVec.ofInt 32 (b:Int)).toNat=a ^^^ b
  rw[BitVec.ofInt_natCast,BitVec.ofInt_natCast,BitVec.toNat_xor,BitVec.toNat_ofNat,BitVec.toNat_ofNat,Nat.mod_eq_of_lt (by simpa using ha),Nat.mod_eq_of_lt (by simpa using hb)]
 rw[e,wrap_u32,Nat.mod_eq_of_lt (by simpa using h)]
theorem AMX {a b:Nat}(ha:a<4294967296)(hb:b<4294967296):bOr .u32 (a:Int) (b:Int)=((a ||| b:Nat):Int):=by
 have h:a ||| b<2^32:=Nat.or_lt_two_pow (by simpa using ha) (by simpa using hb)
 unfold bOr
 have e:(BitVec.ofInt (IntKind.bits .u32) (a:Int) ||| BitVec.ofInt (IntKind.bits .u32) (b:Int)).toNat=a ||| b:=by
  show(BitVec.ofInt 32 (a:Int) ||| BitVec.ofInt 32 (b:Int)).toNat=a ||| b
  rw[BitVec.ofInt_natCast,BitVec.ofInt_natCast,BitVec.toNat_or,BitVec.toNat_ofNat,BitVec.toNat_ofNat,Nat.mod_eq_of_lt (by simpa using ha),Nat.mod_eq_of_lt (by simpa using hb)]
 rw[e,wrap_u32,Nat.mod_eq_of_lt (by simpa using h)]
theorem AGq {a b:Nat}(ha:a<18446744073709551616)(hb:b<18446744073709551616):bOr .u64 (a:Int) (b:Int)=((a ||| b:Nat):Int):=by
 have h:a ||| b<2^64:=Nat.or_lt_two_pow (by simpa using ha) (by simpa using hb)
 unfold bOr
 have e:(BitVec.ofInt (IntKind.bits .u64) (a:Int) ||| BitVec.ofInt (IntKind.bits .u64) (b:Int)).toNat=a ||| b:=by
  show(BitVec.ofInt 64 (a:Int) ||| BitVec.ofInt 64 (b:Int)).toNat=a ||| b
  rw[BitVec.ofInt_natCast,BitVec.ofInt_natCast,BitVec.toNat_or,BitVec.toNat_ofNat,BitVec.toNat_ofNat,Nat.mod_eq_of_lt (by simpa using ha),Nat.mod_eq_of_lt (by simpa using hb)]
 rw[e,wrap_u64,Nat.mod_eq_of_lt (by simpa using h)]
theorem AMl(n k:Nat):((n:Nat):Int)*((k:Nat):Int)=((n*k:Nat):Int):=(Int.natCast_mul n k).symm
def hA(a c:Nat):Nat:=((a ^^^ c)*16777619) % 4294967296
def hX(b c:Nat):Nat:=((b+c) % 4294967296*2246822507) % 4294967296
def hB(b c:Nat):Nat:=hX b c ^^^ (hX b c / 8192)
def QF(l:List UInt8):Nat×Nat:=l.foldl (fun s c=>(hA s.1 c.toNat,hB s.2 c.toNat)) (2166136261,2538058380)
def AHq(k:ByteArray):Nat:=(QF k.data.toList).1
def AHS(k:ByteArray):Nat:=(QF k.data.toList).2 ||| 1
theorem ANW(a c:Nat):hA a c<4294967296:=Nat.mod_lt _ (by decide)
theorem AMB(b c:Nat):hX b c<4294967296:=Nat.mod_lt _ (by decide)
theorem ANA(b c:Nat):hB b c<4294967296:=by
 have h1:=AMB b c
 have:hB b c<2^32:=Nat.xor_lt_two_pow (by simpa using h1) (by have:hX b c / 8192≤hX b c:=Nat.div_le_self _ _;omega)
 simpa using this
theorem Zf(l:List UInt8)(c:UInt8):QF (l++ [c])=(hA (QF l).1 c.toNat,hB (QF l).2 c.toNat):=by simp[QF]
theorem ADx(l:List UInt8):(QF l).1<4294967296∧(QF l).2<4294967296:=by
 rw[← List.reverse_reverse l]
 cases l.reverse with
 |nil=>decide
 |cons c r=>rw[List.reverse_cons,Zf];exact⟨ANW _ _,ANA _ _⟩
theorem AJl(k:ByteArray):AHq k<4294967296:=(ADx _).1
theorem ANF {a c:Nat}(ha:a<4294967296)(hc:c<256):IntKind.wrap .u32 ((Vq .u32 (a:Int) (IntKind.wrap .u32 (c:Int)))*(16777619:Int))=((hA a c:Nat):Int):=by
 rw[wrap_u32,Nat.mod_eq_of_lt (by omega),RS ha (by omega),show((a ^^^ c:Nat):Int)*(16777619:Int)=(((a ^^^ c)*16777619:Nat):Int) from AMl _ 16777619,wrap_u32];rfl
theorem ANd {b c:Nat}(hb:b<4294967296)(hc:c<256):IntKind.wrap .u32 ((IntKind.wrap .u32 ((b:Int)+(IntKind.wrap .u32 (c:Int))))*(2246822507:Int))=((hX b c:Nat):Int):=by
 rw[wrap_u32 c,Nat.mod_eq_of_lt (by omega),show((b:Int)+(c:Int))=((b+c:Nat):Int) by push_cast;rfl,wrap_u32,show(((b+c) % 4294967296:Nat):Int)*(2246822507:Int)=(((b+c) % 4294967296*2246822507:Nat):Int) from AMl _ 2246822507,wrap_u32];rfl
theorem Nh(n k:Nat):((n:Nat):Int).fdiv ((2:Int)^k)=((n / 2^k:Nat):Int):=by
 rw[Int.fdiv_eq_ediv_of_nonneg _ (by have:=Int.pow_pos (n:=2) (m:=k) (by decide);omega)]
 push_cast;rfl
theorem ANG {b c:Nat}(hb:b<4294967296)(hc:c<256):Vq .u32 (IntKind.wrap .u32 ((IntKind.wrap .u32 ((b:Int)+(IntKind.wrap .u32 (c:Int))))*(2246822507:Int))) ((IntKind.wrap .u32 ((IntKind.wrap .u32 ((b:Int)+(IntKind.wrap .u32 (c:Int))))*(2246822507:Int))).fdiv ((2:Int)^(13:Nat)))=((hB b c:Nat):Int):=by
 have h1:=AMB b c
 have h2:hX b c / 2^13≤hX b c:=Nat.div_le_self _ _
 rw[ANd hb hc,Nh,RS h1 (by omega)];rfl
theorem Mk {s:ByteArray}{i:Nat}{c:UInt8}(hc:s.data.toList[i]? =some c):sAt s ((i:Nat):Int)=((c.toNat:Nat):Int):=by
 have hi:i<s.data.toList.length:=(List.getElem?_eq_some_iff.1 hc).1
 have hi2:i<s.size:=by simpa using hi
 unfold sAt
 have e:((i:Nat):Int).toNat=i:=by omega
 rw[e]
 have h2:s[i]? =some c:=by
  rw[getElem?_pos s i hi2]
  congr 1
  have h3:=(List.getElem?_eq_some_iff.1 hc).2
  rw[← h3]
  rw[Array.getElem_toList]
  rfl
 rw[h2];rfl
end Go.Lf

/-
 Plain law, no program in sight: numbers as bytes, seven bits each; readers of bytes; check sums; frames.
-/
set_option maxRecDepth 100000
set_option linter.unusedVariables false
set_option linter.unusedSimpArgs false
namespace Go.Lf
open Go
def AY(l:List UInt8):ByteArray:=⟨l.toArray⟩
theorem Cz(l:List UInt8):(AY l).data.toList=l:=by simp[AY]
theorem Gd(s:ByteArray):AY s.data.toList=s:=by simp[AY]
theorem AQ(l:List UInt8):(AY l).size=l.length:=by simp[AY,ByteArray.size]
theorem Ni {a b:List UInt8}:AY a=AY b↔a=b:=⟨fun h=>by simpa [AY] using congrArg (fun s:ByteArray=>s.data.toList) h,fun h=>by rw[h]⟩
def DU(n:Nat):UInt8:=UInt8.ofNat n
theorem ET {n:Nat}(h:n<256):(DU n).toNat=n:=by simp[DU,UInt8.toNat_ofNat'];omega
theorem AFL(c:UInt8):DU c.toNat=c:=by simp[DU]
def CK(n:Nat):List UInt8:=if n<128 then [DU n] else DU (n % 128+128)::CK (n / 128)
termination_by n
decreasing_by omega
theorem Ja {n:Nat}(h:n<128):CK n= [DU n]:=by rw[CK,if_pos h]
theorem UB {n:Nat}(h: ¬n<128):CK n=DU (n % 128+128)::CK (n / 128):=by rw[CK,if_neg h]
def Kc:Nat→Nat→List UInt8→Option (Nat×List UInt8)
 |_,_,[]=>none
 |i,a,c::t=>
  if 10≤i∨(i=9∧1<c.toNat)∨(0<i∧c.toNat=0) then none
  else if c.toNat<128 then some (a+c.toNat*128^i,t) else Kc (i+1) (a+c.toNat % 128*128^i) t
theorem Jh {i j:Nat}(h:i≤j):128^i≤128^j:=Nat.pow_le_pow_right (by decide) h
theorem get_put(t:List UInt8): ∀(n i a:Nat),n*128^i<18446744073709551616→(i=0∨0<n)→Kc i a (CK n++t)=some (a+n*128^i,t):=by
 intro n
 induction n using Nat.strongRecOn with
 |ind n ih=>
  intro i a hb h0
  have hp:0<128^i:=Nat.pos_of_ne_zero (Nat.pos_iff_ne_zero.1 (Nat.pow_pos (by decide)))
  by_cases hn:n<128
  ·rw [Ja hn]
   simp only[List.cons_append,List.nil_append,Kc,ET (show n<256 by omega)]
   rw[if_neg,if_pos hn]
   rintro(h|⟨h,h1⟩|⟨h,h1⟩)
   ·have h2:=Jh h
    have h3:1*128^i≤n*128^i:=Nat.mul_le_mul_right _ (by omega)
    have h4:(128:Nat)^10=1180591620717411303424:=by decide
    omega
   ·subst h
    have h4:(128:Nat)^9=9223372036854775808:=by decide
    rw[h4] at hb
    omega
   ·omega
  ·rw [UB hn]
   have hd:n / 128<n:=by omega
   simp only[List.cons_append,Kc,ET (show n % 128+128<256 by omega)]
   rw[if_neg,if_neg (by omega),ih (n / 128) hd]
   ·have e1:(n % 128+128) % 128=n % 128:=by omega
    rw[e1,Nat.pow_succ,Nat.add_assoc,show n % 128*128^i+n / 128*(128^i*128)=(n % 128+128*(n / 128))*128^i by
     rw[Nat.add_mul,Nat.mul_comm (128^i) 128,←Nat.mul_assoc,Nat.mul_comm (n / 128) 128],Nat.mod_add_div]
   ·have h2:n / 128*128≤n:=Nat.div_mul_le_self _ _
    have h3:n / 128*128*128^i≤n*128^i:=Nat.mul_le_mul_right _ h2
    rw[Nat.pow_succ,Nat.mul_comm (128^i) 128,←Nat.mul_assoc]
    omega
   ·omega
   ·rintro(h|⟨h,h1⟩|⟨h,h1⟩)
    ·have h2:=Jh h
     have h3:128*128^i≤n*128^i:=Nat.mul_le_mul_right _ (by omega)
     have h4:(128:Nat)^10=1180591620717411303424:=by decide
     omega
    ·subst h
     have h4:(128:Nat)^9=9223372036854775808:=by decide
     rw[h4] at hb
     omega
    ·omega
theorem AD5: ∀(l:List UInt8) (i a n:Nat) (t:List UInt8),Kc i a l=some (n,t)→ ∃m,n=a+m*128^i∧l=CK m++t∧m*128^i<18446744073709551616∧(i=0∨0<m)
 | [],i,a,n,t,h=>by simp[Kc] at h
 |c::l,i,a,n,t,h=>by
  simp only[Kc] at h
  split at h
  ·cases h
  ·rename_i hc
   have hc256:c.toNat<256:=c.toNat_lt
   split at h
   ·rename_i h128
    obtain⟨rfl,rfl⟩:=h
    refine⟨c.toNat,rfl,by rw[Ja h128,AFL];rfl,?_,by omega⟩
    have hi:i≤9:=by omega
    by_cases h9:i=9
    ·subst h9
     have h4:(128:Nat)^9=9223372036854775808:=by decide
     rw[h4];omega
    ·have h2:=Jh (show i≤8 by omega)
     have h4:(128:Nat)^8=72057594037927936:=by decide
     have h3:c.toNat*128^i≤127*128^i:=Nat.mul_le_mul_right _ (by omega)
     omega
   ·rename_i h128
    obtain⟨m,e,rfl,hb,hm⟩:=AD5 l (i+1) _ n t h
    have hm0:0<m:=by omega
    refine⟨c.toNat % 128+128*m,?_,?_,?_,by omega⟩
    ·rw [e,Nat.pow_succ,Nat.add_mul,Nat.add_assoc,Nat.mul_comm (128^i) 128,←Nat.mul_assoc,Nat.mul_comm m 128]
    ·rw [UB (n:=c.toNat % 128+128*m) (by omega),show(c.toNat % 128+128*m) % 128+128=c.toNat by omega,show(c.toNat % 128+128*m) / 128=m by omega,AFL];rfl
    ·rw [Nat.pow_succ,Nat.mul_comm (128^i) 128,←Nat.mul_assoc] at hb
     have h128p:(18446744073709551616:Nat)=144115188075855872*128:=by decide
     have hi8:i≤8:=by
      refine Nat.le_of_not_lt fun hh=>?_
      have h2:=Jh (show 9≤i from hh)
      have h4:(128:Nat)^9=9223372036854775808:=by decide
      have h3:1*128*128^i≤m*128*128^i:=Nat.mul_le_mul_right _ (Nat.mul_le_mul_right _ hm0)
      omega
     have e2:(18446744073709551616:Nat)=128^(i+1)*(18446744073709551616 / 128^(i+1)):=by
      have:i=0∨i=1∨i=2∨i=3∨i=4∨i=5∨i=6∨i=7∨i=8:=by omega
      rcases this with rfl|rfl|rfl|rfl|rfl|rfl|rfl|rfl|rfl<;>decide
     have hp:0<128^i:=Nat.pos_of_ne_zero (Nat.pos_iff_ne_zero.1 (Nat.pow_pos (by decide)))
     have hlt:m<18446744073709551616 / 128^(i+1):=by
      refine Nat.lt_of_mul_lt_mul_left (a:=128^(i+1)) ?_
      rw[← e2,Nat.pow_succ,Nat.mul_comm,Nat.mul_comm (128^i) 128,←Nat.mul_assoc]
      exact hb
     have h5:128^(i+1)*(m+1)≤128^(i+1)*(18446744073709551616 / 128^(i+1)):=Nat.mul_le_mul_left _ hlt
     rw[← e2,Nat.pow_succ] at h5
     have h6:(c.toNat % 128+128*m)*128^i<128*(m+1)*128^i:=Nat.mul_lt_mul_of_pos_right (by omega) hp
     have h7:128*(m+1)*128^i=128^i*128*(m+1):=by rw[Nat.mul_comm,←Nat.mul_assoc]
     omega
theorem AJb: ∀(k n:Nat),n<128^(k+1)→(CK n).length≤k+1:=by
 intro k
 induction k with
 |zero=>intro n h;rw[Ja (by simpa using h)];simp
 |succ k ih=>
  intro n h
  by_cases hn:n<128
  ·rw [Ja hn];simp
  ·rw [UB hn]
   have:=ih (n / 128) (by rw[Nat.div_lt_iff_lt_mul (by decide),←Nat.pow_succ];exact h)
   simp;omega
theorem Af {n:Nat}(h:n<18446744073709551616):(CK n).length≤10:=by
 refine AJb 9 n (Nat.lt_of_lt_of_le h ?_)
 decide
theorem AHM {l:List UInt8}{n:Nat}{t:List UInt8}(h:Kc 0 0 l=some (n,t)):l=CK n++t∧n<18446744073709551616:=by
 obtain⟨m,e,h1,h2,_⟩:=AD5 l 0 0 n t h
 simp at e h2
 subst e
 exact⟨h1,h2⟩
theorem LU {n:Nat}(h:n<18446744073709551616)(t:List UInt8):Kc 0 0 (CK n++t)=some (n,t):=by
 rw[get_put t n 0 0 (by simpa using h) (.inl rfl)];simp
theorem AJB {n m:Nat}{s t:List UInt8}(hn:n<18446744073709551616)(hm:m<18446744073709551616)(h:CK n++s=CK m++t):n=m∧s=t:=by
 have h1:=LU hn s
 rw[h,LU hm t] at h1
 simp at h1
 exact⟨h1.1.symm,h1.2.symm⟩
def ZA(c:Nat):Nat:=if c % 2=1 then c / 2 ^^^ 3988292384 else c / 2
def AHf:Nat→Nat→Nat
 |0,c=>c
 |k+1,c=>ZA (AHf k c)
def ALk(c:Nat)(b:UInt8):Nat:=AHf 8 (c ^^^ b.toNat)
def AB6(l:List UInt8):Nat:=l.foldl ALk 4294967295
def AEV(l:List UInt8):Nat:=4294967295-AB6 l
theorem AIC {c:Nat}(h:c<4294967296):ZA c<4294967296:=by
 unfold ZA
 split
 ·exact Nat.xor_lt_two_pow (n:=32) (by omega) (by decide)
 ·omega
theorem Xo {c:Nat}(h:c<4294967296): ∀k,AHf k c<4294967296
 |0=>h
 |k+1=>AIC (Xo h k)
theorem ALN {c:Nat}(h:c<4294967296)(b:UInt8):ALk c b<4294967296:=by
 have hb:b.toNat<256:=b.toNat_lt
 exact Xo (Nat.xor_lt_two_pow (n:=32) h (by omega)) 8
theorem AIy(l:List UInt8)(b:UInt8):AB6 (l++ [b])=ALk (AB6 l) b:=by simp[AB6]
theorem AHr(l:List UInt8):AB6 l<4294967296:=by
 unfold AB6
 suffices ∀(l:List UInt8) (c:Nat),c<4294967296→l.foldl ALk c<4294967296 from this l _ (by decide)
 intro l
 induction l with
 |nil=>exact fun c h=>h
 |cons x l ih=>exact fun c h=>ih _ (ALN h x)
def OC(n:Nat):List UInt8:= [DU (n / 16777216 % 256),DU (n / 65536 % 256),DU (n / 256 % 256),DU (n % 256)]
theorem Iq(n:Nat):(OC n).length=4:=rfl
def CE(l:List UInt8):List UInt8:=CK l.length++OC (AEV l)++l
def FM(l:List UInt8):Nat×List UInt8×List UInt8:=
 match Kc 0 0 l with
 |none=>if l.length<10∧ ∀c∈l,128≤c.toNat then(20,[],[]) else(21,[],[])
 |some (n,r)=>
  if 1048576<n then(21,[],[]) else if r.length<4+n then(20,[],[])
  else if r.take 4=OC (AEV ((r.drop 4).take n)) then(0,(r.drop 4).take n,r.drop (4+n)) else(21,[],[])
theorem ABB {l:List UInt8}(h:l.length≤1048576)(t:List UInt8):FM (CE l++t)=(0,l,t):=by
 unfold FM CE
 rw[List.append_assoc,List.append_assoc,LU (by omega)]
 dsimp only
 rw[if_neg (by omega),if_neg (by simp[Iq])]
 have e1:(OC (AEV l)++(l++t)).take 4=OC (AEV l):=by rw[List.take_append_of_le_length (by simp[Iq])];exact List.take_of_length_le (by simp[Iq])
 have e2:(OC (AEV l)++(l++t)).drop 4=l++t:=by rw[List.drop_append_of_le_length (by simp[Iq])];simp[OC]
 have e3:(l++t).take l.length=l:=by simp
 rw[e1,e2,e3,if_pos rfl,←List.drop_drop,e2]
 simp
structure Rd where
 rest:List UInt8
 bad:Bool
def Rd.fail:Rd:=⟨[],true⟩
def IJ(r:Rd):Nat×Rd:=if r.bad then(0,r) else match Kc 0 0 r.rest with|none=>(0,Rd.fail)|some (n,t)=>(n,⟨t,false⟩)
def ADi(most:Nat)(r:Rd):Nat×Rd:=if(IJ r).2.bad then(0,(IJ r).2) else if most<(IJ r).1 then(0,Rd.fail) else IJ r
def PT(n:Nat)(r:Rd):List UInt8×Rd:=if r.bad then([],r) else if r.rest.length<n then([],Rd.fail) else(r.rest.take n,⟨r.rest.drop n,false⟩)
def YS(r:Rd):List UInt8×Rd:=if(IJ r).2.bad then([],(IJ r).2) else PT (IJ r).1 (IJ r).2
def ALf(r:Rd):Bool:= !r.bad&&r.rest.isEmpty
def Cb(l:List UInt8):List UInt8:=CK l.length++l
theorem AEj {n:Nat}(h:n<18446744073709551616)(t:List UInt8):IJ ⟨CK n++t,false⟩=(n,⟨t,false⟩):=by simp[IJ,LU h]
theorem IQ {n most:Nat}(h:n<18446744073709551616)(hm:n≤most)(t:List UInt8):ADi most ⟨CK n++t,false⟩=(n,⟨t,false⟩):=by
 simp only[ADi,AEj h];simp;omega
theorem ABJ(l t:List UInt8):PT l.length ⟨l++t,false⟩=(l,⟨t,false⟩):=by simp[PT];omega
theorem Q7 {l:List UInt8}(h:l.length<18446744073709551616)(t:List UInt8):YS ⟨Cb l++t,false⟩=(l,⟨t,false⟩):=by
 simp only[YS,Cb,List.append_assoc,AEj h,ABJ];simp
theorem AKk {r:Rd}(h:r.bad=true):IJ r=(0,r):=by simp[IJ,h]
theorem AJW(r:Rd):(IJ r).2.rest.length≤r.rest.length:=by
 unfold IJ
 split
 ·exact Nat.le_refl _
 ·split
  ·simp [Rd.fail]
  ·rename_i n t hg
   obtain⟨e,_⟩:=AHM hg
   rw[e];simp
end Go.Lf

/-
 Bytes in memory: slices of bytes, and strings made of them; bits of numbers.
-/
set_option maxRecDepth 100000
set_option linter.unusedVariables false
set_option linter.unusedSimpArgs false
namespace Go.Lf
open Go
def Gc:Enc UInt8 where
 enc x:= [.int .u8 (x.toNat:Int)]
 w:=1
 len _:=rfl
 pos:=by omega
 one x v hv:=by simp at hv;subst hv;rfl
theorem Cells.byte {h:Heap}{a:Addr}{x:UInt8}(c:Cells h a (Gc.enc x)):hget h a=some (.int .u8 (x.toNat:Int)):=by
 have h0:=c 0 _ rfl
 rwa [add_zero] at h0
theorem ABQ: ∀(l:List UInt8) (s:ByteArray),(l.map fun c=>(c.toNat:Int)).foldl (fun r n=>r.push (UInt8.ofNat n.toNat)) s=⟨s.data++l.toArray⟩
 | [],s=>by simp
 |c::l,s=>by
  simp only[List.map_cons,List.foldl_cons]
  rw[ABQ l]
  simp[ByteArray.push,Array.append_assoc]
theorem Jf {A:Amb}{P:Program}{src dst e:TypeId}(hs:P.underlying src=some (.slice e))(he:P.underlying e=some (.int .u8))(hd:P.underlying dst=some .string){h:Heap}{s:Sl}{l:List UInt8}{K:Value→Heap→Prop}
  (v:View Gc h s l) (H:K (.string (AY l)) h):BK A P (convert src dst (.slice s.p s.len s.cap)) h K:=by
 have hl:=v.len
 refine fun n=>⟨_,h,n,?_,H⟩
 rw[run_convert_bytes_string _ src dst e _ s.len s.cap hs he hd]
 cases hp:s.p with
 |none=>
  have hl0:l= []:=by
   cases l with
   |nil=>rfl
   |cons c l=>
    obtain⟨a,ha,_⟩:=v.cells 0 c rfl
    rw[hp] at ha;cases ha
  subst hl0
  simp[Conv.bytesToString,AY]
  rfl
 |some a=>
  have h1:(loadCells a s.len).run P (A.at h n)= .ok ((l.map fun c=>(c.toNat:Int)).map (Value.int .u8)).toArray (A.at h n):=by
   have:=run_loadCells_list (P:=P) (w:=A.at h n) a ((l.map fun c=>(c.toNat:Int)).map (Value.int .u8)) (fun j u hj=>by
    simp only[List.getElem?_map,Option.map_map,Option.map_eq_some_iff] at hj
    obtain⟨c,hc,rfl⟩:=hj
    obtain⟨a',ha,hcc⟩:=v.cells j c hc
    rw[hp] at ha
    cases ha
    have:=Cells.byte hcc
    simp only[Gc,Nat.mul_one] at this
    exact this)
   simpa [hl] using this
  rw[run_bytesToString _ a s.len s.cap _ h1,ABQ]
  simp[AY,ByteArray.empty,ByteArray.emptyWithCapacity]
  rfl
theorem ext_list(s:ByteArray)(i j:Nat):s.extract i j=AY ((s.data.toList.take j).drop i):=by
 apply ByteArray.ext
 rw[ByteArray.data_extract,AY]
 apply Array.toList_inj.1
 simp[Array.toList_extract,List.extract_eq_take_drop,List.drop_take]
theorem ABl(s:ByteArray):s.data.toList.length=s.size:=by rw[Array.length_toList];rfl
theorem ZC(s:ByteArray)(i:Nat):s.extract i s.size=AY (s.data.toList.drop i):=by
 rw[ext_list,List.take_of_length_le (by rw[ABl];exact Nat.le_refl _)]
theorem AI2(s:ByteArray)(i:Nat):s.extract 0 i=AY (s.data.toList.take i):=by
 rw[ext_list];simp
theorem wrap_u8(n:Nat):IntKind.wrap .u8 (n:Int)=((n % 256:Nat):Int):=by
 simp[IntKind.wrap,IntKind.bits,IntKind.signed]
theorem AL5 {a b:Nat}(ha:a<256)(hb:b<256):bOr .u8 (a:Int) (b:Int)=((a ||| b:Nat):Int):=by
 have h:a ||| b<2^8:=Nat.or_lt_two_pow (by simpa using ha) (by simpa using hb)
 unfold bOr
 have e:(BitVec.ofInt (IntKind.bits .u8) (a:Int) ||| BitVec.ofInt (IntKind.bits .u8) (b:Int)).toNat=a ||| b:=by
  show(BitVec.ofInt 8 (a:Int) ||| BitVec.ofInt 8 (b:Int)).toNat=a ||| b
  rw[BitVec.ofInt_natCast,BitVec.ofInt_natCast,BitVec.toNat_or,BitVec.toNat_ofNat,BitVec.toNat_ofNat,Nat.mod_eq_of_lt (by simpa using ha),Nat.mod_eq_of_lt (by simpa using hb)]
 rw[e,wrap_u8,Nat.mod_eq_of_lt (by simpa using h)]
theorem AI4 {a b:Nat}(ha:a<256)(hb:b<256):Pb .u8 (a:Int) (b:Int)=((a &&& b:Nat):Int):=by
 have h:a &&& b<2^8:=Nat.lt_of_le_of_lt Nat.and_le_left (by simpa using ha)
 unfold Pb
 have e:(BitVec.ofInt (IntKind.bits .u8) (a:Int) &&& BitVec.ofInt (IntKind.bits .u8) (b:Int)).toNat=a &&& b:=by
  show(BitVec.ofInt 8 (a:Int) &&& BitVec.ofInt 8 (b:Int)).toNat=a &&& b
  rw[BitVec.ofInt_natCast,BitVec.ofInt_natCast,BitVec.toNat_and,BitVec.toNat_ofNat,BitVec.toNat_ofNat,Nat.mod_eq_of_lt (by simpa using ha),Nat.mod_eq_of_lt (by simpa using hb)]
 rw[e,wrap_u8,Nat.mod_eq_of_lt (by simpa using h)]
theorem ALS {a b:Nat}(ha:a<4294967296)(hb:b<4294967296):Pb .u32 (a:Int) (b:Int)=((a &&& b:Nat):Int):=by
 have h:a &&& b<2^32:=Nat.lt_of_le_of_lt Nat.and_le_left (by simpa using ha)
 unfold Pb
 have e:(BitVec.ofInt (IntKind.bits .u32) (a:Int) &&& BitVec.ofInt (IntKind.bits .u32) (b:Int)).toNat=a &&& b:=by
  show(BitVec.ofInt 32 (a:Int) &&& BitVec.ofInt 32 (b:Int)).toNat=a &&& b
  rw[BitVec.ofInt_natCast,BitVec.ofInt_natCast,BitVec.toNat_and,BitVec.toNat_ofNat,BitVec.toNat_ofNat,Nat.mod_eq_of_lt (by simpa using ha),Nat.mod_eq_of_lt (by simpa using hb)]
 rw[e,wrap_u32,Nat.mod_eq_of_lt (by simpa using h)]
theorem AM8: ∀x,x<256→x ||| 128=x % 128+128:=by decide +kernel
theorem AMj: ∀x,x<256→x &&& 127=x % 128:=by decide +kernel
theorem AJ1(n:Nat):bOr .u8 (IntKind.wrap .u8 (n:Int)) (128:Int)=(((DU (n % 128+128)).toNat:Nat):Int):=by
 have h:=AL5 (a:=n % 256) (b:=128) (Nat.mod_lt _ (by decide)) (by decide)
 rw[wrap_u8]
 rw[show(128:Int)=((128:Nat):Int) from rfl,h,AM8 _ (Nat.mod_lt _ (by decide)),ET (by omega)]
 congr 1
 omega
theorem AME(i:Nat):2^(7*i)=128^i:=by rw[Nat.pow_mul]
theorem AKv {a x i:Nat}(hi:i≤9)(ha:a<128^i)(hx:x<128):bOr .u64 (a:Int) (((x*128^i % 18446744073709551616:Nat)):Int)=((a+x*128^i % 18446744073709551616:Nat):Int):=by
 have hp:0<128^i:=Nat.pow_pos (by decide)
 have h9:=Jh hi
 have e9:(128:Nat)^9=9223372036854775808:=by decide
 rw[AGq (by omega) (Nat.mod_lt _ (by decide))]
 congr 1
 have e2: ∃q,(18446744073709551616:Nat)=128^i*q:=by
  have:i=0∨i=1∨i=2∨i=3∨i=4∨i=5∨i=6∨i=7∨i=8∨i=9:=by omega
  refine⟨18446744073709551616 / 128^i,?_⟩
  rcases this with rfl|rfl|rfl|rfl|rfl|rfl|rfl|rfl|rfl|rfl<;>decide
 obtain⟨q,e2⟩:=e2
 rw[e2,Nat.mul_comm x,Nat.mul_mod_mul_left,←AME,Nat.or_comm,Nat.add_comm]
 exact(Nat.two_pow_add_eq_or_of_lt (by rw[AME];exact ha) _).symm
theorem AMm {x i:Nat}(hi:i≤9)(hx:x<128):IntKind.wrap .u64 (((x:Nat):Int)*((2:Int)^(min ((7*i:Nat):Int).toNat (IntKind.bits .u64))))=((x*128^i % 18446744073709551616:Nat):Int):=by
 have e:min ((7*i:Nat):Int).toNat (IntKind.bits .u64)=7*i:=by
  have:IntKind.bits .u64=64:=rfl
  omega
 rw[e,show((2:Int)^(7*i))=((2^(7*i):Nat):Int) by simp,AMl,wrap_u64,AME]
theorem Mod.more {h h1 h2:Heap}{S:Nat→Prop}(x:Ext h h1)(m:Mod S h1 h2)(hS: ∀b,S b→h.size≤b):Ext h h2:=
 Mod.then x (m.weak fun c _ hc=> .inr (hS c hc))
end Go.Lf

/-
 Plain law: a box of files (chapter 3).
-/
set_option maxRecDepth 100000
namespace Go.Lf
open Go
abbrev bs0:ByteArray:=⟨#[]⟩
theorem sz0:ByteArray.size ⟨#[]⟩=0:=rfl
structure Fi where
 name:ByteArray
 firm:ByteArray
 soft:ByteArray
deriving DecidableEq
def Dn(l:List Fi):Prop:=l.Pairwise fun a b=>sLt a.name b.name=true
def BR(k:ByteArray)(l:List Fi):Option Fi:=l.find? fun f=>decide (f.name=k)
def NA(k:ByteArray)(g:Fi→Fi)(l:List Fi):List Fi:=l.map fun f=>if f.name=k then g f else f
def NE(k:ByteArray)(l:List Fi):List Fi:=l.filter fun f=> !decide (f.name=k)
def Zp(x:Fi):List Fi→List Fi
 | []=> [x]
 |q::l=>if sLt q.name x.name then q::Zp x l else x::q::l
def wtF(l:List Fi):Nat:=(l.map fun f=>f.firm.size+f.soft.size+1).sum
theorem Dg(k:ByteArray)(x:Fi)(l:List Fi):BR k (x::l)=if x.name=k then some x else BR k l:=by
 unfold BR;rw[List.find?_cons];by_cases h:x.name=k<;>simp[h]
theorem Gz {k:ByteArray}{l:List Fi}{x:Fi}(h:BR k l=some x):x.name=k∧x∈l:=by
 unfold BR at h
 exact⟨by simpa using List.find?_some h,List.mem_of_find?_eq_some h⟩
theorem ME {k:ByteArray}{l:List Fi}(h:BR k l=none): ∀x∈l,x.name≠k:=by
 unfold BR at h;rw[List.find?_eq_none] at h;simpa using h
theorem QX {k:ByteArray}{l:List Fi}(h: ∀x∈l,x.name≠k):BR k l=none:=by
 unfold BR;rw[List.find?_eq_none];simpa using h
theorem Dn.find {l:List Fi}(s:Dn l){x:Fi}(hx:x∈l):BR x.name l=some x:=by
 induction l with
 |nil=>cases hx
 |cons y l ih=>
  rw[Dg]
  have s':=List.pairwise_cons.1 s
  rcases List.mem_cons.1 hx with rfl|hx
  ·simp
  ·rw [if_neg (Ko (s'.1 x hx))];exact ih s'.2 hx
theorem LX(x:Fi): ∀l,(Zp x l).Perm (x::l)
 | []=>List.Perm.refl _
 |q::l=>by
  unfold Zp
  split
  ·exact((LX x l).cons q).trans (List.Perm.swap x q l)
  ·exact List.Perm.refl _
theorem P6 {x:Fi}: ∀ {l:List Fi},Dn l→(∀ y∈l,y.name≠x.name)→Dn (Zp x l)
 | [],_,_=>List.pairwise_singleton _ _
 |q::l,s,hn=>by
  have s':=List.pairwise_cons.1 s
  unfold Zp
  split
  ·rename_i h
   refine List.pairwise_cons.2 ⟨fun y hy=>?_,P6 s'.2 fun y hy=>hn y (List.mem_cons_of_mem _ hy)⟩
   rcases List.mem_cons.1 ((LX x l).subset hy) with rfl|hy
   ·exact h
   ·exact s'.1 y hy
  ·rename_i h
   have hlt:sLt x.name q.name=true:=by
    cases h2:sLt x.name q.name
    ·exact absurd (K9 (by simpa using h) h2) (hn q List.mem_cons_self)
    ·rfl
   refine List.pairwise_cons.2 ⟨fun y hy=>?_,s⟩
   rcases List.mem_cons.1 hy with rfl|hy
   ·exact hlt
   ·exact CZ hlt (s'.1 y hy)
theorem AGR {k:ByteArray}{g:Fi→Fi}(hg: ∀f,(g f).name=f.name)(l:List Fi):(NA k g l).map (·.name)=l.map (·.name):=by
 unfold NA
 rw[List.map_map]
 refine List.map_congr_left fun f _=>?_
 simp only[Function.comp]
 split<;>simp[hg]
theorem QQ {l:List Fi}:Dn l↔Xi (l.map (·.name)):=by unfold Dn Xi;rw[List.pairwise_map]
theorem Wp {k:ByteArray}{g:Fi→Fi}(hg: ∀f,(g f).name=f.name){l:List Fi}(s:Dn l):Dn (NA k g l):=by
 rw[QQ,AGR hg];exact QQ.1 s
theorem AFI {k:ByteArray}{l:List Fi}(s:Dn l):Dn (NE k l):=s.sublist List.filter_sublist
theorem WK {k c:ByteArray}{g:Fi→Fi}(hg: ∀f,(g f).name=f.name): ∀l:List Fi,BR c (NA k g l)=(BR c l).map fun f=>if f.name=k then g f else f
 | []=>rfl
 |x::l=>by
  show BR c ((if x.name=k then g x else x)::NA k g l)=_
  rw[Dg,Dg,WK hg l]
  have:(if x.name=k then g x else x).name=x.name:=by split<;>simp[hg]
  rw[this]
  by_cases h:x.name=c<;>simp[h]
theorem VL {k c:ByteArray}: ∀l:List Fi,BR c (NE k l)=if c=k then none else BR c l
 | []=>by simp[NE,BR]
 |x::l=>by
  have ih:=VL (k:=k) (c:=c) l
  unfold NE at ih ⊢
  rw[List.filter_cons,Dg]
  by_cases h1:x.name=k
  ·simp only[h1,decide_true,Bool.not_true,Bool.false_eq_true,if_false]
   rw[ih]
   by_cases h2:c=k
   ·simp [h2]
   ·simp [h2,Ne.symm h2]
  ·simp only[h1,decide_false,Bool.not_false,if_true]
   rw[Dg,ih]
   by_cases h2:c=k
   ·subst h2;simp[h1]
   ·simp [h2]
theorem AA6 {x:Fi}{c:ByteArray}: ∀ {l:List Fi},(∀ y∈l,y.name≠x.name)→BR c (Zp x l)=if x.name=c then some x else BR c l
 | [],_=>by show BR c [x]=_;rw[Dg]
 |q::l,hn=>by
  unfold Zp
  split
  ·rw [Dg,AA6 fun y hy=>hn y (List.mem_cons_of_mem _ hy),Dg]
   by_cases h1:q.name=c
   ·simp [h1]
    intro h2
    exact absurd (h1.trans h2.symm) (hn q List.mem_cons_self)
   ·simp [h1]
  ·rw [Dg]
theorem Fz(x:Fi)(l:List Fi):wtF (x::l)=x.firm.size+x.soft.size+1+wtF l:=by simp[wtF]
theorem AJU {l m:List Fi}(h:l.Perm m):wtF l=wtF m:=(h.map _).sum_nat
theorem AGz(x:Fi)(l:List Fi):wtF (Zp x l)=x.firm.size+x.soft.size+1+wtF l:=by rw[AJU (LX x l),Fz]
theorem Ou: ∀l:List Fi,l.length≤wtF l
 | []=>by simp[wtF]
 |x::l=>by rw[Fz,List.length_cons];have:=Ou l;omega
theorem Tv {x:Fi}: ∀ {l:List Fi},x∈l→x.firm.size+x.soft.size≤wtF l
 | [],h=>by cases h
 |y::l,h=>by
  rw[Fz]
  rcases List.mem_cons.1 h with rfl|h
  ·omega
  ·have:=Tv h;omega
theorem ADH {k:ByteArray}: ∀l:List Fi,wtF (NE k l)≤wtF l
 | []=>by simp[NE,wtF]
 |x::l=>by
  have:=ADH (k:=k) l
  unfold NE at this ⊢
  rw[List.filter_cons]
  split
  ·rw [Fz,Fz];omega
  ·rw [Fz];omega
theorem UD {k:ByteArray}{g:Fi→Fi}{d:Nat}(hg: ∀f,(g f).firm.size+(g f).soft.size≤f.firm.size+f.soft.size+d): ∀ {l:List Fi},Dn l→wtF (NA k g l)≤wtF l+d
 | [],_=>by simp[NA,wtF]
 |x::l,s=>by
  have s':=List.pairwise_cons.1 s
  show wtF ((if x.name=k then g x else x)::NA k g l)≤_
  rw[Fz,Fz]
  split
  ·rename_i h
   have:NA k g l=l:=by
    unfold NA
    rw[List.map_congr_left (g:=id) fun y hy=>?_,List.map_id]
    have:=Ko (s'.1 y hy)
    rw[if_neg (fun e=>this (h.trans e.symm))];rfl
   rw[this]
   have:=hg x
   omega
  ·have:=UD hg (k:=k) s'.2
   omega
structure Bx where
 files:List Fi
 fuel:Int
 down:Bool
def AGW:Bx:=⟨[],-1,false⟩
def JP(n:ByteArray):Bool:=decide (n=bs0)||decide (n.size>32)
def FX(m:Bx):Bx:=if m.fuel>0 then {m with fuel:=m.fuel-1} else m
def JU(m:Bx):Bx:= {m with down:=true}
def QC(name:ByteArray)(l:List Fi):List Fi:=if(BR name l).isSome then l else Zp ⟨name,bs0,bs0⟩ l
def OZ(data:ByteArray)(f:Fi):Fi:= {f with soft:=f.soft++data}
def PQ(f:Fi):Fi:=⟨f.name,f.firm++f.soft,bs0⟩
def Cm(m:Bx)(name data:ByteArray):Int×Bx:=
 if m.down then(30,m) else if JP name then(1,m) else if m.fuel=0 then(30,JU m) else(0,{FX m with files:=NA name (OZ data) (QC name m.files)})
def Eu(m:Bx)(name:ByteArray):Int×Bx:=
 if m.down then(30,m) else if(BR name m.files).isNone then(31,m) else if m.fuel=0 then(30,JU m) else(0,{FX m with files:=NA name PQ m.files})
def FI(m:Bx)(name:ByteArray):Int×Bx:=
 if m.down then(30,m) else if(BR name m.files).isNone then(31,m) else if m.fuel=0 then(30,JU m) else(0,{FX m with files:=NE name m.files})
def Qz(m:Bx)(name:ByteArray):ByteArray×Int:=
 if m.down then(bs0,30) else match BR name m.files with|none=>(bs0,31)|some f=>(f.firm++f.soft,0)
def Wx(m:Bx)(n:Int):Bx:= {m with fuel:=if(-1:Int)>n then -1 else n}
def Nc(keep:List Int)(k:Nat)(f:Fi):ByteArray:=
 if f.soft=bs0 then f.firm else match keep[k]? with|some n=>f.firm++f.soft.extract 0 (min n.toNat f.soft.size)|none=>f.firm
def Mg(k:Nat)(f:Fi):Nat:=if f.soft=bs0 then k else k+1
def AAU(keep:List Int)(k:Nat)(f:Fi):List Fi:=if Nc keep k f=bs0 then [] else [⟨f.name,Nc keep k f,bs0⟩]
def Ct(keep:List Int):Nat→List Fi→List Fi
 |_,[]=> []
 |k,f::l=>AAU keep k f++Ct keep (Mg k f) l
def TD(m:Bx)(keep:List Int):Bx:=⟨Ct keep 0 m.files,-1,false⟩
structure DY (m:Bx):Prop where
 sorted:Dn m.files
 names: ∀f∈m.files,f.name.size≤32
 lo: -1≤m.fuel
 hi:m.fuel≤9223372036854775807
 wt:wtF m.files≤8796093022208
theorem AFV(a b:ByteArray):(a++b).size=a.size+b.size:=ByteArray.size_append
theorem Od(a:ByteArray):a++bs0=a:=by simp[ByteArray.ext_iff,bs0]
theorem OO(a:ByteArray):bs0++a=a:=by simp[ByteArray.ext_iff,bs0]
theorem AIN:DY AGW:=⟨List.Pairwise.nil,by simp[AGW],by simp[AGW],by simp[AGW],by simp[AGW,wtF]⟩
theorem DY.tick {m:Bx}(g:DY m)(l:List Fi)(h1:Dn l)(h2: ∀f∈l,f.name.size≤32)(h3:wtF l≤8796093022208):DY {FX m with files:=l}:=by
 have:=g.lo;have:=g.hi
 refine⟨h1,h2,?_,?_,h3⟩
 ·show -1≤(FX m).fuel
  unfold FX;split<;>(try simp only[])<;>omega
 ·show(FX m).fuel≤_
  unfold FX;split<;>(try simp only[])<;>omega
theorem DY.off {m:Bx}(g:DY m):DY (JU m):=⟨g.sorted,g.names,g.lo,g.hi,g.wt⟩
theorem Yt {name:ByteArray}{l:List Fi}(s:Dn l):Dn (QC name l)∧wtF (QC name l)≤wtF l+1∧(∀ f∈QC name l,f∈l∨f.name=name):=by
 unfold QC
 split
 ·exact⟨s,by omega,fun f hf=> .inl hf⟩
 ·rename_i h
  have hn:=ME (by simpa using h)
  refine⟨P6 s hn,by rw[AGz];simp[sz0];omega,fun f hf=>?_⟩
  rcases List.mem_cons.1 ((LX _ l).subset hf) with rfl|hf
  ·exact .inr rfl
  ·exact .inl hf
theorem ADp {k:ByteArray}{g:Fi→Fi}(hg: ∀f,(g f).name=f.name){l:List Fi}{f:Fi}(hf:f∈NA k g l): ∃f'∈l,f'.name=f.name:=by
 unfold NA at hf
 obtain⟨f',h1,rfl⟩:=List.mem_map.1 hf
 exact⟨f',h1,by split<;>simp[hg]⟩
theorem DY.append {m:Bx}(g:DY m){name data:ByteArray}(hw:wtF m.files+data.size+1≤8796093022208):DY (Cm m name data).2:=by
 unfold Cm
 split
 ·exact g
 ·split
  ·exact g
  ·rename_i hb
   split
   ·exact g.off
   ·obtain⟨h1,h2,h3⟩:=Yt (name:=name) g.sorted
    refine g.tick _ (Wp (k:=name) (g:=OZ data) (fun _=>rfl) h1) (fun f hf=>?_) ?_
    ·obtain⟨f',h4,h5⟩:=ADp (g:=OZ data) (fun _=>rfl) hf
     rw[← h5]
     rcases h3 f' h4 with h|h
     ·exact g.names f' h
     ·rw [h];simp[JP] at hb;omega
    ·have:=UD (k:=name) (g:=OZ data) (d:=data.size) (fun f=>by simp[OZ];omega) h1
     omega
theorem DY.sync {m:Bx}(g:DY m){name:ByteArray}:DY (Eu m name).2:=by
 unfold Eu
 split
 ·exact g
 ·split
  ·exact g
  ·split
   ·exact g.off
   ·refine g.tick _ (Wp (k:=name) (g:=PQ) (fun _=>rfl) g.sorted) (fun f hf=>?_) ?_
    ·obtain⟨f',h4,h5⟩:=ADp (g:=PQ) (fun _=>rfl) hf
     rw[← h5];exact g.names f' h4
    ·have:=UD (k:=name) (g:=PQ) (d:=0) (fun f=>by simp[PQ,sz0]) g.sorted
     have:=g.wt;omega
theorem DY.delete {m:Bx}(g:DY m){name:ByteArray}:DY (FI m name).2:=by
 unfold FI
 split
 ·exact g
 ·split
  ·exact g
  ·split
   ·exact g.off
   ·exact g.tick _ (AFI g.sorted) (fun f hf=>g.names f (List.mem_filter.1 hf).1) (Nat.le_trans (ADH _) g.wt)
theorem DY.fuel {m:Bx}(g:DY m){n:Int}(hn:n≤9223372036854775807):DY (Wx m n):=by
 refine⟨g.sorted,g.names,?_,?_,g.wt⟩<;>(simp only[Wx];split<;>omega)
theorem MH {keep:List Int}: ∀ {l:List Fi} {k:Nat} {f:Fi},f∈Ct keep k l→ ∃f'∈l,f'.name=f.name
 | [],_,_,h=>by simp[Ct] at h
 |x::l,k,f,h=>by
  unfold Ct at h
  rcases List.mem_append.1 h with h|h
  ·unfold AAU at h
   split at h
   ·cases h
   ·simp at h;exact⟨x,List.mem_cons_self,by rw[h]⟩
  ·obtain⟨f',h1,h2⟩:=MH h
   exact⟨f',List.mem_cons_of_mem _ h1,h2⟩
theorem Ry {keep:List Int}: ∀ {l:List Fi} {k:Nat},Dn l→Dn (Ct keep k l)
 | [],_,_=>List.Pairwise.nil
 |x::l,k,s=>by
  have s':=List.pairwise_cons.1 s
  unfold Ct
  refine List.pairwise_append.2 ⟨?_,Ry s'.2,?_⟩
  ·unfold AAU;split
   ·exact List.Pairwise.nil
   ·exact List.pairwise_singleton _ _
  ·intro a ha b hb
   have:a.name=x.name:=by
    unfold AAU at ha;split at ha
    ·cases ha
    ·simp at ha;rw[ha]
   obtain⟨f',h1,h2⟩:=MH hb
   rw[this,←h2];exact s'.1 f' h1
theorem AH3(keep:List Int)(k:Nat)(f:Fi):(Nc keep k f).size≤f.firm.size+f.soft.size:=by
 unfold Nc
 split
 ·omega
 ·split
  ·rw [AFV,ByteArray.size_extract];omega
  ·omega
theorem Vt {keep:List Int}: ∀ {l:List Fi} {k:Nat},wtF (Ct keep k l)≤wtF l
 | [],_=>by simp[Ct]
 |x::l,k=>by
  unfold Ct
  have:=Vt (keep:=keep) (l:=l) (k:=Mg k x)
  have:=AH3 keep k x
  unfold AAU
  rw[Fz]
  split
  ·simp;omega
  ·rw [List.singleton_append,Fz];simp[sz0];omega
theorem DY.crash {m:Bx}(g:DY m){keep:List Int}:DY (TD m keep):=
 ⟨Ry g.sorted,fun f hf=>by obtain⟨f',h1,h2⟩:=MH hf;rw[← h2];exact g.names f' h1,by simp[TD],by simp[TD],Nat.le_trans Vt g.wt⟩
theorem RA {m:Bx}(g:DY m)(name data:ByteArray):wtF (Cm m name data).2.files≤wtF m.files+data.size+1:=by
 unfold Cm
 split
 ·simp;omega
 ·split
  ·simp;omega
  ·split
   ·simp [JU];omega
   ·obtain⟨h1,h2,_⟩:=Yt (name:=name) g.sorted
    have:=UD (k:=name) (g:=OZ data) (d:=data.size) (fun f=>by simp[OZ];omega) h1
    simp;omega
theorem VC {m:Bx}(g:DY m)(name:ByteArray):wtF (Eu m name).2.files≤wtF m.files:=by
 unfold Eu
 split
 ·simp
 ·split
  ·simp
  ·split
   ·simp [JU]
   ·have:=UD (k:=name) (g:=PQ) (d:=0) (fun f=>by simp[PQ,sz0]) g.sorted
    simpa using this
theorem Vb {m:Bx}(name:ByteArray):wtF (FI m name).2.files≤wtF m.files:=by
 unfold FI
 split
 ·simp
 ·split
  ·simp
  ·split
   ·simp [JU]
   ·exact ADH _
theorem AJ4 {m:Bx}{keep:List Int}:wtF (TD m keep).files≤wtF m.files:=Vt
end Go.Lf

/-
 LIFT, part U3: an owned slice's element is written; more words.
-/
set_option maxRecDepth 100000
namespace Go.Lf
open Go
theorem AE7 {α:Type}{E:Enc α}{x x':α}{j:Nat}{v:Value}(hx:E.enc x'=(E.enc x).set j v)(hj:j<E.w): ∀ {l:List α} {i:Nat},l[i]? =some x→(l.set i x').flatMap E.enc=(l.flatMap E.enc).set (i*E.w+j) v
 | [],_,h=>by simp at h
 |y::l,0,h=>by
  simp at h;subst h
  rw[List.set_cons_zero,List.flatMap_cons,List.flatMap_cons,hx,Nat.zero_mul,Nat.zero_add,List.set_append_left _ _ (by rw[E.len];exact hj)]
 |y::l,i+1,h=>by
  rw[List.set_cons_succ,List.flatMap_cons,List.flatMap_cons,AE7 hx hj (l:=l) (i:=i) (by simpa using h),List.set_append_right _ _ (by rw[E.len,Nat.add_mul];omega),E.len]
  rw[show(i+1)*E.w+j-E.w=i*E.w+j by rw[Nat.add_mul];omega]
theorem Own.store {α:Type}{E:Enc α}{T:TypeId}{h:Heap}{s:Sl}{l:List α}{i j:Nat}{x x':α}{v:Value}{K:Heap→Prop}(o:Own E T h s l)(hi:l[i]? =some x)(hx:E.enc x'=(E.enc x).set j v)(hj:j<E.w)
  (H: ∀h',Own E T h' s (l.set i x')→Mod (fun c=>s.blk=some c) h h'→h'.size=h.size→K h'): ∀a,s.p=some a→Store h ((a.add (i*E.w)).add j) v K:=by
 intro a ha
 rcases o.row with⟨rfl,rfl⟩|⟨g,cur,hp,hg,hc,hm,hs,ht⟩
 ·simp at hi
 ·rw [hp] at ha;cases ha
  rw[add_add,Bg,Nat.zero_add]
  have hil:i<l.length:=(List.getElem?_eq_some_iff.1 hi).1
  have hlt:i*E.w+j<s.len*E.w:=by
   have:(i+1)*E.w≤s.len*E.w:=Nat.mul_le_mul_right _ (by rw[o.len];exact hil)
   rw[Nat.add_mul] at this;omega
  have hcap:s.len*E.w≤cur.size:=by rw[hs];exact Nat.mul_le_mul_right _ hc
  refine Store.mk hg (by omega) fun h' hg' m hsz=>H h' ⟨by rw[List.length_set];exact o.len,.inr ⟨g,_,hp,hg',hc,hm,by simpa using hs,?_⟩⟩ (m.weak fun c _ hcc=>by simp[Sl.blk,hp,hcc]) hsz
  rw[Array.toList_setIfInBounds,List.take_set,ht,AE7 hx hj hi]
theorem Own.ne {α:Type}{E:Enc α}{T T':TypeId}{h:Heap}{s:Sl}{l:List α}(o:Own E T h s l){b:Nat}{cs:Array Value}{fr:Nat×Nat}(hb:h[b]? =some (.cells cs T' fr))(hT:T≠T'):s.blk≠some b:=by
 intro e
 rcases o.row with⟨rfl,_⟩|⟨g,cur,hp,hg,_⟩
 ·simp [Sl.blk] at e
 ·simp [Sl.blk,hp] at e;subst e
  rw[hg] at hb
  injection hb with hb
  injection hb with _ h2 _
  exact hT h2
theorem max_i64:IntKind.max .i64=9223372036854775807:=by simp[IntKind.max,IntKind.bits,IntKind.signed]
def cntF(k:Nat)(l:List Fi):Nat:=l.foldl Mg k
theorem Z0(keep:List Int): ∀(l1 l2:List Fi) (k:Nat),Ct keep k (l1++l2)=Ct keep k l1++Ct keep (cntF k l1) l2
 | [],_,_=>rfl
 |x::l1,l2,k=>by
  show AAU keep k x++Ct keep (Mg k x) (l1++l2)=_
  rw[Z0 keep l1 l2,←List.append_assoc];rfl
theorem Zy {keep:List Int}: ∀ {l:List Fi} {k:Nat},(Ct keep k l).length≤l.length
 | [],_=>by simp[Ct]
 |x::l,k=>by
  have:=Zy (keep:=keep) (l:=l) (k:=Mg k x)
  unfold Ct AAU
  split<;>simp<;>omega
theorem AEw: ∀(n:Nat) (l:List Fi),wtF (l.take n)≤wtF l
 |0,l=>by simp[wtF]
 |n+1,[]=>by simp
 |n+1,x::l=>by rw[List.take_succ_cons,Fz,Fz];have:=AEw n l;omega
theorem Mod.weak' {S S':Nat→Prop}{h h1:Heap}(a:Mod S h h1)(hs: ∀b,b<h.size→ ¬S b):Mod S' h h1:=a.weak fun b hb h=>(hs b hb h).elim
theorem AIO(k:Nat)(l:List Fi)(x:Fi):cntF k (l++ [x])=Mg (cntF k l) x:=by simp[cntF]
theorem AHk: ∀(l:List Fi) (k:Nat),cntF k l≤k+l.length
 | [],k=>by simp[cntF]
 |x::l,k=>by
  show cntF (Mg k x) l≤_
  have:=AHk l (Mg k x)
  have:Mg k x≤k+1:=by unfold Mg;split<;>omega
  rw[List.length_cons];omega
theorem AEK(keep:List Int)(l:List Fi)(x:Fi):Ct keep 0 (l++ [x])=Ct keep 0 l++AAU keep (cntF 0 l) x:=by
 rw[Z0];simp[Ct]
end Go.Lf

/-
 LIFT, part U4: a new variable whose cells are stored one by one.
-/
set_option maxRecDepth 100000
namespace Go.Lf
open Go
theorem New.copy2 {h:Heap}{T:TypeId}{z0 z1 v0 v1:Value}{K:Nat→Heap→Prop}
  (H: ∀b h',b=h.size→h'[b]? =some (.cells #[v0,v1] T (0,0))→Ext h h'→h'.size=h.size+1→K b h'):
  New h (.cells #[z0,z1] T) fun b h1=>Store h1 ⟨b,0,none⟩ v0 fun h2=>Store h2 ((⟨b,0,none⟩:Addr).add 1) v1 fun h3=>K b h3:=by
 refine New.mk fun h1 _ hb1 x1 hs1=>?_
 simp only[Bg,Nat.zero_add]
 refine Store.mk hb1 (by simp) fun h2 hb2 m2 hs2=>?_
 refine Store.mk hb2 (by simp) fun h3 hb3 m3 hs3=>?_
 refine H _ _ rfl (by simpa using hb3) ?_ (by omega)
 have m:=(m2.trans m3)
 exact⟨by omega,fun b hlt _=>(m.get b (by omega) (by omega)).trans (x1.get b hlt (by simp))⟩
theorem New.copy7 {h:Heap}{T:TypeId}{z0 z1 z2 z3 z4 z5 z6 v0 v1 v2 v3 v4 v5 v6:Value}{K:Nat→Heap→Prop}
  (H: ∀b h',b=h.size→h'[b]? =some (.cells #[v0,v1,v2,v3,v4,v5,v6] T (0,0))→Ext h h'→h'.size=h.size+1→K b h'):
  New h (.cells #[z0,z1,z2,z3,z4,z5,z6] T) fun b h1=>Store h1 ⟨b,0,none⟩ v0 fun h2=>Store h2 ((⟨b,0,none⟩:Addr).add 1) v1 fun h3=>Store h3 ((⟨b,0,none⟩:Addr).add 2) v2 fun h4=>Store h4 ((⟨b,0,none⟩:Addr).add 3) v3 fun h5=>Store h5 ((⟨b,0,none⟩:Addr).add 4) v4 fun h6=>Store h6 ((⟨b,0,none⟩:Addr).add 5) v5 fun h7=>Store h7 ((⟨b,0,none⟩:Addr).add 6) v6 fun h8=>K b h8:=by
 refine New.mk fun h1 _ hb1 x1 hs1=>?_
 simp only[Bg,Nat.zero_add]
 refine Store.mk hb1 (by simp) fun h2 hb2 m2 hs2=>?_
 refine Store.mk hb2 (by simp) fun h3 hb3 m3 hs3=>?_
 refine Store.mk hb3 (by simp) fun h4 hb4 m4 hs4=>?_
 refine Store.mk hb4 (by simp) fun h5 hb5 m5 hs5=>?_
 refine Store.mk hb5 (by simp) fun h6 hb6 m6 hs6=>?_
 refine Store.mk hb6 (by simp) fun h7 hb7 m7 hs7=>?_
 refine Store.mk hb7 (by simp) fun h8 hb8 m8 hs8=>?_
 refine H _ _ rfl (by simpa using hb8) ?_ (by omega)
 have m:=((((((m2.trans m3).trans m4).trans m5).trans m6).trans m7).trans m8)
 exact⟨by omega,fun b hlt _=>(m.get b (by omega) (by omega)).trans (x1.get b hlt (by simp))⟩
end Go.Lf

