/-
 Contracts: a key's hash; filters (chapter 6).
-/
import Derived.Test.YtdmlhpjdmgaggaaGreatDoorLfV1ToB1
import Derived.Test.YtdmlhpjdmgaggaaGreatDoorLfU1ToU4
import Derived.Test.YtdmlhpjdmgaggaaGreatDoorLfS1aToU20
import Derived.Test.YtdmlhpjdmgaggaaGreatDoorLfKToU6
set_option linter.unusedVariables false
set_option linter.unusedSimpArgs false
set_option maxRecDepth 100000
set_option linter.unusedVariables false
set_option linter.unusedSimpArgs false
namespace Go.Lf.G
open Go
theorem AIR {k:ByteArray}{i:Nat}(hi:i<k.size): ∃c,k.data.toList[i]? =some c:=by
 have:i<k.data.toList.length:=by simpa using hi
 exact⟨_,List.getElem?_eq_getElem this⟩
theorem AHJ {A:Amb}{h:Heap}{key:ByteArray}{R:Value→Heap→Prop}(hk:key.size≤1099511627776)(H:R (.tuple #[.int .u32 (AHq key:Int),.int .u32 (AHS key:Int)]) h):AA A P JD #[.string key] h R:=by
 refine AAq ?_
 unfold O9
 refine Loop.rule (fun m x hh=> ∃i:Nat,x=(((QF (key.data.toList.take i)).1:Int),((QF (key.data.toList.take i)).2:Int),(i:Int),())∧hh=h∧m=key.size-i∧i≤key.size) ?_ ⟨0,rfl,rfl,rfl,by omega⟩
 rintro K m _ hh ⟨i,rfl,e,rfl,hi⟩ hK
 subst e
 obtain⟨l1,l2⟩:=ADx (key.data.toList.take i)
 refine PIf.intro (fun hq=>?_) (fun hq=>?_)
 ·have hil:i<key.size:=by simpa using hq
  obtain⟨c,hc⟩:=AIR hil
  have hc256:c.toNat<256:=c.toNat_lt
  refine⟨⟨by dsimp only;omega,by dsimp only;omega⟩,⟨by dsimp only;omega,by dsimp only;omega⟩,?_⟩
  dsimp only
  rw[Mk hc,ANF l1 hc256,ANG l2 hc256,AR (by omega)]
  refine hK (key.size-(i+1)) _ _ (by omega) ⟨i+1,?_,rfl,rfl,hil⟩
  rw[List.take_add_one,hc,Option.toList_some,Zf]
 ·have hil:i=key.size:=by simp at hq;omega
  have e:key.data.toList.take i=key.data.toList:=List.take_of_length_le (by simp[hil])
  dsimp only
  rw[e] at l1 l2 ⊢
  have:bOr .u32 (((QF key.data.toList).2:Nat):Int) (1:Int)=((AHS key:Nat):Int):=AMX l2 (b:=1) (by decide)
  rw[this]
  exact H
theorem UT {f:ByteArray}:sEq f (⟨#[]⟩:ByteArray)=decide (bl f= []):=by
 rw[Bool.eq_iff_iff,BZ]
 constructor
 ·intro h
  have h:=of_decide_eq_true h
  subst h;rfl
 ·intro h
  have h:=of_decide_eq_true h
  cases f with
  |mk d=>
   have:d= #[]:=by apply Array.toList_inj.1;exact h
   rw[this];rfl
theorem AMI {f:ByteArray}{i:Nat}{c:UInt8}(h:(bl f)[i]? =some c):f.data.toList[i]? =some c:=h
theorem AKY {A:Amb}{h:Heap}{f key:ByteArray}{R:Value→Heap→Prop}(hk:key.size≤1099511627776)(H:R (.bool (X0 (bl f) key)) h):AA A P KL #[.string f,.string key] h R:=by
 refine ACu ?_
 unfold Pz
 refine Join.mk fun K hK=>?_
 have hsz:=Be f
 refine PIf.intro (fun hq=>?_) (fun hq=>?_)
 ·refine hK _ _ (PIf.yes rfl ?_)
  rw[UT,decide_eq_true_iff] at hq
  rw[hq] at H
  exact H
 ·refine hK _ _ ?_
  rw[UT,decide_eq_false_iff_not] at hq
  refine PIf.intro (fun hl=>?_) (fun hl=>?_)
  ·have hl': ¬(bl f).length≤8192:=by simp at hl;omega
   have:X0 (bl f) key=false:=by unfold X0;rw[decide_eq_false hl',Bool.and_false,Bool.false_and]
   rw[this] at H
   exact H
  ·have hl':f.size≤8192:=by simp at hl;omega
   have hpos:1≤f.size:=by
    rw[← hsz]
    exact List.length_pos_iff.2 hq
   refine AHJ hk ⟨_,_,rfl,?_⟩
   refine Loop.rule (fun m x hh=> ∃i:Nat,x=(((xK key i:Nat):Int),(i:Int),())∧hh=h∧m=4-i∧i≤4∧ ∀j,j<i→PW (bl f) (prb key f.size j)=true) ?_ ⟨0,by rw[AHX];rfl,rfl,rfl,by omega,fun j hj=>by omega⟩
   rintro K1 m _ hh ⟨i,rfl,e,rfl,hi,hall⟩ hK1
   subst e
   dsimp only
   refine PIf.intro (fun hq1=>?_) (fun hq1=>?_)
   ·have hi4:i<4:=by simp at hq1;omega
    have hlt:prb key f.size i<8*f.size:=AGd hpos
    have hx:=ANa key i
    rw[ABD hl',AGn]
    have hp:xK key i % (8*f.size)=prb key f.size i:=rfl
    rw[hp,AHD,AHF,AFD,wrap_u32,Nat.mod_eq_of_lt (show prb key f.size i / 8<4294967296 by omega)]
    have hb8:prb key f.size i / 8<(bl f).length:=by rw[hsz];omega
    have hc:(bl f)[prb key f.size i / 8]? =some (bl f)[prb key f.size i / 8]:=List.getElem?_eq_getElem hb8
    obtain⟨c,hc⟩: ∃c,(bl f)[prb key f.size i / 8]? =some c:=⟨_,hc⟩
    rw[Mk (AMI hc),ALx c.toNat_lt]
    have hbit:PW (bl f) (prb key f.size i)=c.toNat.testBit (prb key f.size i % 8):=by unfold PW;rw[hc];rfl
    refine⟨by omega,⟨by omega,by omega⟩,by omega,?_⟩
    rw[← hbit]
    refine PIf.intro (fun hb=>?_) (fun hb=>?_)
    ·have hb:PW (bl f) (prb key f.size i)=false:=by simpa using hb
     have:X0 (bl f) key=false:=by
      unfold X0 ALD
      rw[hsz]
      have:((List.range 4).all fun i=>PW (bl f) (prb key f.size i))=false:=by
       rw[List.all_eq_false]
       exact⟨i,List.mem_range.2 hi4,by simp[hb]⟩
      simp[this]
     rw[this] at H
     exact H
    ·have hb:PW (bl f) (prb key f.size i)=true:=by simpa using hb
     rw[AHA,AR (by omega)]
     refine hK1 (4-(i+1)) _ _ (by omega) ⟨i+1,rfl,rfl,rfl,hi4,fun j hj=>?_⟩
     by_cases hji:j=i
     ·subst hji;exact hb
     ·exact hall j (by omega)
   ·have hi4:i=4:=by simp at hq1;omega
    have:X0 (bl f) key=true:=by
     unfold X0 ALD
     rw[hsz,Bool.and_eq_true,Bool.and_eq_true,decide_eq_true_iff,decide_eq_true_iff,List.all_eq_true]
     exact⟨⟨hq,hl'⟩,fun j hj=>hall j (by rw[hi4];exact List.mem_range.1 hj)⟩
    rw[this] at H
    exact H
theorem AK0:(P.info? Ci).map (fun i=>(i.zero,i.size,i.bytes))=some (some (.int .u8 0),1,1):=by kernel_rfl
theorem ABX:P.underlying CO=some (.slice Ci):=by kernel_rfl
theorem AMG:P.underlying Ci=some (.int .u8):=by kernel_rfl
theorem ALW:P.underlying Ad=some .string:=by kernel_rfl
theorem AKw {A:Amb}{h:Heap}{s:Sl}{ks:List ByteArray}{m:Nat}{R:Value→Heap→Prop}(hv:View F9 h s ks)(hkl: ∀k∈ks,k.size≤1099511627776)(hm:1≤m)(h8:m≤8192)(hkm:ks.length≤1099511627776)(hb: ∀b,s.blk=some b→b<h.size)
  (H: ∀h',Ext h h'→R (.tuple #[.string (AY (Ym ks m)),.int .i64 0]) h'):AA A P Iy #[.slice s.p s.len s.cap,.int .i64 (m:Int)] h R:=by
 refine AAd ?_
 unfold O8
 refine Join.mk fun K hK=>?_
 refine PIf.no (by simp;omega) ?_
 refine hK _ _ (PIf.no (by simp;omega) ?_)
 refine ALQ (E:=Gc) (x0:=0) (v:= .int .u8 0) ABX AK0 rfl rfl rfl (by omega) (by simp only[maxLen];omega) fun h1 o1 x1 hs1=>?_
 have hrep:List.replicate m (0:UInt8)=KS m:=rfl
 rw[hrep] at o1
 dsimp only
 refine Loop.rule (fun n x hh=> ∃i:Nat,x=((i:Int),())∧n=ks.length-i∧i≤ks.length∧Mod (fun c=>c=h.size) h1 hh∧Own Gc Ci hh ⟨some ⟨h.size,0,none⟩,m,m⟩ ((ks.take i).foldl (Uh m) (KS m))) ?_ ⟨0,rfl,rfl,by omega,Mod.refl,o1⟩
 rintro K1 n _ hh ⟨i,rfl,rfl,hi,mm,oo⟩ hK1
 have hv1:View F9 hh s ks:=(hv.ext x1).mod mm fun b hbb=>by have:=hb b hbb;omega
 dsimp only
 refine PIf.intro (fun hq=>?_) (fun hq=>?_)
 ·have hil:i<ks.length:=by rw[hv.len] at hq;simp at hq;omega
  have hki:ks[i]? =some ks[i]:=List.getElem?_eq_getElem hil
  refine hv1.idx hki fun a ha hc=>?_
  refine AL.mk hc.str ?_
  refine AHJ (hkl _ (List.getElem_mem hil)) ⟨_,_,rfl,?_⟩
  have htake:ks.take (i+1)=ks.take i++ [ks[i]]:=by rw[List.take_add_one,hki];rfl
  generalize ks[i]=k at hki htake
  have hlen:((ks.take i).foldl (Uh m) (KS m)).length=m:=(RL hm (ks.take i) (KS m) (by simp[KS])).1
  generalize hf0:(ks.take i).foldl (Uh m) (KS m)=f0 at oo hlen
  refine Loop.rule (fun n x h5=> ∃j:Nat,x=(((xK k j:Nat):Int),(j:Int),())∧n=4-j∧j≤4∧Mod (fun c=>c=h.size) h1 h5∧Own Gc Ci h5 ⟨some ⟨h.size,0,none⟩,m,m⟩ ((List.range j).foldl (fun f i=>XZ f (prb k m i)) f0)) ?_ ⟨0,by rw[AHX];rfl,rfl,by omega,mm,oo⟩
  rintro K2 n _ h5 ⟨j,rfl,rfl,hj,m5,o5⟩ hK2
  dsimp only
  refine PIf.intro (fun hq1=>?_) (fun hq1=>?_)
  ·have hj4:j<4:=by simp at hq1;omega
   have hlt:prb k m j<8*m:=AGd hm
   have hp:xK k j % (8*m)=prb k m j:=rfl
   rw[ABD h8,AGn,hp,AHD,AHF,AFD,wrap_u32,Nat.mod_eq_of_lt (show prb k m j / 8<4294967296 by omega)]
   have hfl:((List.range j).foldl (fun f i=>XZ f (prb k m i)) f0).length=m:=(QK hm _ f0 hlen).1
   generalize hf1:(List.range j).foldl (fun f i=>XZ f (prb k m i)) f0=f1 at o5 hfl
   have hget:f1[prb k m j / 8]? =some f1[prb k m j / 8]:=List.getElem?_eq_getElem (by omega)
   obtain⟨c,hc⟩: ∃c,f1[prb k m j / 8]? =some c:=⟨_,hget⟩
   refine⟨by omega,?_⟩
   refine o5.view.idx hc fun a1 ha1 hc1=>?_
   rw[Int.toNat_natCast]
   refine Aa.mk hc1.byte ⟨by omega,?_⟩
   refine o5.view.idx hc fun a2 ha2 hc2=>?_
   have hor:=AM5 c.toNat_lt (show prb k m j % 8<8 by omega)
   rw[hor]
   have hlt2:=AL9 c.toNat_lt (show prb k m j % 8<8 by omega)
   rw[AHA,AR (by omega),←add_zero (a2.add (prb k m j / 8*1))]
   refine Own.store (E:=Gc) (i:=prb k m j / 8) (j:=0) (x:=c) (x':=DU (c.toNat ||| 2^(prb k m j % 8))) (v:= .int .u8 ((c.toNat ||| 2^(prb k m j % 8):Nat):Int)) o5 hc (by show [Value.int .u8 _]=_;rw[ET hlt2];rfl) (by decide) (fun h6 o6 m6 hs6=>?_) a2 ha2
   refine hK2 (4-(j+1)) _ _ (by omega) ⟨j+1,rfl,rfl,hj4,m5.trans (m6.weak fun b _ hb=>?_),?_⟩
   ·simp [Sl.blk] at hb;exact hb.symm
   ·rw [List.range_succ,List.foldl_append,hf1,List.foldl_cons,List.foldl_nil]
    unfold XZ
    rw[hc]
    exact o6
  ·have hj4:j=4:=by simp at hq1;omega
   subst hj4
   rw[AR (by omega)]
   refine hK1 (ks.length-(i+1)) _ _ (by omega) ⟨i+1,rfl,rfl,hil,m5,?_⟩
   rw[htake,List.foldl_append,hf0]
   exact o5
 ·have hil:i=ks.length:=by rw[hv.len] at hq;simp at hq;omega
  have e:ks.take i=ks:=by rw[hil];simp
  rw[e] at oo
  have hfin:((ks.foldl (Uh m) (KS m)))=Ym ks m:=rfl
  rw[hfin] at oo
  refine Jf ABX AMG ALW (s:=⟨some ⟨h.size,0,none⟩,m,m⟩) (l:=Ym ks m) oo.view ⟨_,rfl,?_⟩
  exact H hh ⟨by have:=x1.size;have:=mm.size;omega,fun b hb _=>(mm.get b (by have:=x1.size;omega) (by omega)).trans (x1.get b hb (by simp))⟩
end Go.Lf.G

/-
 Pairs as bytes, blocks of pairs, a table's bytes (chapter 7): plain law.
-/
set_option maxRecDepth 100000
set_option linter.unusedVariables false
set_option linter.unusedSimpArgs false
namespace Go.Lf
open Go
structure JW (p:Pr):Prop where
 key:p.key.size≠0
 keyMost:p.key.size≤64
 valMost:p.val.size≤8192
 gone:p.gone=true→p.val.size=0
def Gi(p:Pr):Nat:=if p.gone then 0 else p.val.size+1
def Gl(p:Pr):List UInt8:=Cb (bl p.key)++(CK (Gi p)++bl p.val)
abbrev Aw(l:List Pr):List UInt8:=l.flatMap Gl
theorem OG {s:ByteArray}(h:s.size=0):bl s= []:=List.eq_nil_of_length_eq_zero (by rw[Be];exact h)
theorem ABN {p:Pr}(h:JW p)(t:List UInt8):YS ⟨Gl p++t,false⟩=(bl p.key,⟨CK (Gi p)++bl p.val++t,false⟩):=by
 have h1:=h.keyMost
 have e:Gl p++t=Cb (bl p.key)++(CK (Gi p)++bl p.val++t):=by simp[Gl,List.append_assoc]
 rw[e]
 exact Q7 (by rw[Be];omega) _
theorem Um {p:Pr}(h:JW p):Gi p≤8193:=by
 have:=h.valMost
 unfold Gi;split<;>omega
theorem AET {p:Pr}(h:JW p)(t:List UInt8):ADi 8193 ⟨CK (Gi p)++bl p.val++t,false⟩=(Gi p,⟨bl p.val++t,false⟩):=by
 rw[List.append_assoc]
 have:=Um h
 exact IQ (by omega) this _
theorem ABR {p:Pr}(h:JW p)(t:List UInt8):PT (Gi p-1) ⟨bl p.val++t,false⟩=(bl p.val,⟨t,false⟩):=by
 have e:Gi p-1=(bl p.val).length:=by
  rw[Be]
  unfold Gi
  split
  ·rename_i hg;rw[h.gone hg]
  ·omega
 rw[e]
 exact ABJ _ _
theorem OB {p:Pr}(h:JW p):1≤(Gl p).length∧(Gl p).length≤p.key.size+p.val.size+20:=by
 have h1:=h.keyMost
 have h2:=h.valMost
 have h3:=Af (n:=(bl p.key).length) (by rw[Be];omega)
 have h4:=Um h
 have h5:=Af (n:=Gi p) (by omega)
 have h6:=h.key
 have e1:=Be p.key
 have e2:=Be p.val
 simp only[Gl,Cb,List.length_append]
 omega
end Go.Lf

/-
 Contracts: pairs as bytes; batches.
-/
set_option maxRecDepth 100000
set_option linter.unusedVariables false
set_option linter.unusedSimpArgs false
namespace Go.Lf.G
open Go
theorem JE:TN P AV AO Ak.w 40=true:=by kernel_rfl
theorem ALp {A:Amb}{h:Heap}{b:Nat}{r:Rd}{R:Value→Heap→Prop}(hb:KH h b r)(H:R (.bool r.bad) h):AA A P Gh #[Aq b] h R:=by
 refine TL ?_
 unfold JM
 refine PIf.no rfl (atI ?_)
 exact Ab.mk (AB hb rfl) H
theorem RB {A:Amb}{h:Heap}{s:ByteArray}{R:Value→Heap→Prop}(hl:s.size≤1099511627776)(H: ∀h',Ext h h'→R (.string (AY (Cb (bl s)))) h'):AA A P Dt #[.string s] h R:=by
 have:=YY (A:=A) (h:=h) (l:=bl s) (R:=R) (by rw[Be];exact hl) H
 rwa [Gd] at this
theorem AG1 {n:Nat}(h:n≤1099511627776):IntKind.wrap .u64 ((IntKind.wrap .u64 (n:Int))+(1:Int))=((n+1:Nat):Int):=by
 rw[CU (by omega),show((n:Int)+1)=((n+1:Nat):Int) by omega,CU (by omega)]
theorem Vw {s:ByteArray}(h:s.size=0):s=⟨#[]⟩:=by
 have:=Gd s
 rw[← this,show s.data.toList= [] from OG h];rfl
theorem AU {h h':Heap}{b:Nat}{cs:Array Value}{T:TypeId}(x:Ext h h')(hb:h[b]? =some (.cells cs T (0,0))):h'[b]? =some (.cells cs T (0,0)):=x.blk hb (fun h=>h)
theorem AJe {A:Amb}{h:Heap}{x:Pr}{R:Value→Heap→Prop}(ho:JW x)(H: ∀h',Ext h h'→R (.string (AY (Gl x))) h'):AA A P Iz #[x.agg] h R:=by
 obtain⟨k,v,g⟩:=x
 have hk:=ho.keyMost
 have hv:=ho.valMost
 have hg:=ho.gone
 dsimp only at hk hv hg
 show AA A P Iz #[.agg #[.string k,.string v,.bool g]] h R
 refine AAX ?_
 unfold Oq
 refine New.mk fun h1 _ hb1 x1 hs1=>?_
 refine Ab.mk (AB hb1 rfl) ?_
 have l1:=Af (n:=(bl k).length) (by rw[Be];omega)
 have lk:=Be k
 have lv:=Be v
 refine PIf.intro (fun hq=>?_) (fun hq=>?_)
 ·subst hq
  refine AL.mk (AC hb1 rfl) ?_
  refine RB (by omega) fun h2 x2=>⟨_,rfl,?_⟩
  refine Fu (n:=0) (by omega) fun h3 x3=>⟨_,rfl,?_⟩
  have l2:=Af (n:=0) (by omega)
  refine⟨by rw[AQ,AQ,max_i64];simp only[Cb,List.length_append];omega,?_⟩
  rw[CF]
  have e:Gl ⟨k,v,true⟩=Cb (bl k)++CK 0:=by
   unfold Gl Gi
   rw[OG (hg rfl)]
   simp
  rw[← e]
  exact H _ ((x1.trans x2).trans x3)
 ·subst hq
  refine AL.mk (AC hb1 rfl) ?_
  refine RB (by omega) fun h2 x2=>⟨_,rfl,?_⟩
  have hb2:=AU x2 hb1
  refine AL.mk (AB hb2 rfl) ⟨AB hb1 rfl,?_⟩
  rw[AG1 (by omega)]
  refine Fu (by omega) fun h3 x3=>⟨_,rfl,?_⟩
  have hb3:=AU x3 hb2
  have l2:=Af (n:=v.size+1) (by omega)
  refine⟨by rw[AQ,AQ,max_i64];simp only[Cb,List.length_append];omega,?_⟩
  refine AL.mk (AB hb3 rfl) ⟨AB hb2 rfl,AB hb1 rfl,?_,?_⟩
  ·rw [CF,AQ,max_i64];simp only[Cb,List.length_append];omega
  ·rw [CF]
   have e:AY (Cb (bl k)++CK (v.size+1))++v=AY (Gl ⟨k,v,false⟩):=by
    have:v=AY (bl v):=(Gd v).symm
    conv=>lhs;arg 2;rw[this]
    rw[CF]
    unfold Gl Gi
    simp[List.append_assoc]
   rw[e]
   exact H _ ((x1.trans x2).trans x3)
theorem AI5 {s:ByteArray}(h:s.size≠0):sEq s (⟨#[]⟩:ByteArray)=false:=by
 rw[UT,decide_eq_false_iff_not]
 intro e
 have:=Be s
 rw[e] at this
 exact h this.symm
theorem AE1 {n:Nat}(h:n≤100000):(if((IntKind.wrap .i64 (((n:Nat):Int)-(1:Int))):Int)>0 then(IntKind.wrap .i64 (((n:Nat):Int)-(1:Int))) else 0)=((n-1:Nat):Int):=by
 rw[wrap_i64 (by omega) (by omega)]
 split<;>omega
theorem Vv {l:List Pr}(h: ∀x∈l,JW x):l.length≤(Aw l).length:=by
 induction l with
 |nil=>simp
 |cons x l ih=>
  have:=(OB (h x List.mem_cons_self)).1
  have:=ih fun y hy=>h y (List.mem_cons_of_mem _ hy)
  simp only[Aw,List.flatMap_cons,List.length_append,List.length_cons] at this ⊢
  omega
theorem Zo {A:Amb}{h:Heap}{l:List Pr}{R:Value→Heap→Prop}(ho: ∀x∈l,JW x)(hl:(Aw l).length<1099511627776)
  (H: ∀s h',Own Ak AO h' s l→Ext h h'→(∀ b,s.blk=some b→h.size≤b)→R (.tuple #[.slice s.p s.len s.cap,.bool true]) h'):AA A P GJ #[.string (AY (Aw l))] h R:=by
 refine ZL ?_
 unfold NL
 refine P8 fun h1 r1 x1=>⟨_,rfl,?_⟩
 have hpl:=Vv ho
 refine Loop.rule (fun m x hh=> ∃(i:Nat) (s:Sl),x=(s,())∧m=l.length-i∧i≤l.length∧KH hh h.size ⟨Aw (l.drop i),false⟩∧Ext h hh∧Own Ak AO hh s (l.take i)∧ ∀b,s.blk=some b→h.size≤b) ?_ ⟨0,⟨none,0,0⟩,rfl,rfl,by omega,r1,x1,Own.nil,fun b hb=>by simp[Sl.blk] at hb⟩
 rintro K m _ hh ⟨i,s,rfl,rfl,hi,rd,xx,oo,hs⟩ hK
 dsimp only
 refine VE rd ⟨_,rfl,?_⟩
 by_cases hil:i<l.length
 ·have hx:l[i]? =some l[i]:=List.getElem?_eq_getElem hil
  have hmem:l[i]∈l:=List.getElem_mem hil
  have hd:l.drop i=l[i]::l.drop (i+1):=List.drop_eq_getElem_cons hil
  have ht:l.take (i+1)=l.take i++ [l[i]]:=by rw[List.take_add_one,hx];rfl
  generalize l[i]=x at hx hmem hd ht
  have hox:=ho x hmem
  have hp:Aw (l.drop i)=Gl x++Aw (l.drop (i+1)):=by rw[hd];rfl
  have hlen:(Gl x++Aw (l.drop (i+1))).length<1099511627776:=by
   have e:Aw l=Aw (l.take i)++Aw (l.drop i):=by rw[← List.flatMap_append,List.take_append_drop]
   have:=congrArg List.length e
   rw[hp,List.length_append] at this
   omega
  have hlx:=OB hox
  rw[hp] at rd ⊢
  refine PIf.yes ?_ ?_
  ·unfold ALf
   have:(Gl x++Aw (l.drop (i+1)))≠ []:=by
    intro e
    have:=congrArg List.length e
    simp only[List.length_append,List.length_nil] at this
    omega
   simp only[Bool.not_false,Bool.true_and,Bool.not_eq_true',List.isEmpty_eq_false_iff]
   exact this
  ·refine Nq rd hlen fun h2 r2 m2=>⟨_,rfl,?_⟩
   rw[ABN hox] at r2 ⊢
   dsimp only at r2 ⊢
   rw[Gd]
   refine New.mk fun h5 _ hb5 x5 hs5=>?_
   refine Store.mk hb5 (by simp) fun h6 hb6 m6 hs6=>?_
   rw[Bg,Bg]
   refine Store.mk hb6 (by simp) fun h7 hb7 m7 hs7=>?_
   refine Store.mk hb7 (by simp) fun h8 hb8 m8 hs8=>?_
   have hbb:h.size<h2.size:=by have:=Ah r2;exact this
   have hne:h.size≠h2.size:=by omega
   have r8:KH h8 h.size ⟨CK (Gi x)++bl x.val++Aw (l.drop (i+1)),false⟩:=m8.blk (m7.blk (m6.blk (x5.blk r2 (fun h=>h)) hne) hne) hne
   have hrl:(CK (Gi x)++bl x.val++Aw (l.drop (i+1))).length≤1099511627776:=by
    simp only[Gl,List.length_append] at hlen ⊢;omega
   refine JL (most:=8193) r8 hrl (by decide) fun h9 r9 m9=>⟨_,rfl,?_⟩
   rw[AET hox] at r9 ⊢
   dsimp only at r9 ⊢
   have hb9:h9[h2.size]? =some (.cells #[.string x.key,.string ⟨#[]⟩,.bool false] AO (0,0)):=m9.blk (by simpa using hb8) (Ne.symm hne)
   refine Join.mk fun K1 hK1=>?_
   have hgn:=Um hox
   have key: ∀h10,KH h10 h.size ⟨bl x.val++Aw (l.drop (i+1)),false⟩→h10[h2.size]? =some (.cells #[.string x.key,.string ⟨#[]⟩,.bool x.gone] AO (0,0))→Mod (fun b=>b=h.size∨b=h2.size) h2 h10→K1 () h10:=by
    intro h10 r10 hb10 m10
    refine hK1 () h10 ?_
    rw[AE1 (by omega)]
    refine Zu r10 fun h11 r11 m11=>⟨_,rfl,?_⟩
    rw[ABR hox] at r11 ⊢
    dsimp only at r11 ⊢
    rw[Gd]
    have hb11:=m11.blk hb10 (Ne.symm hne)
    refine Store.mk hb11 (by simp) fun h12 hb12 m12 hs12=>?_
    have r12:KH h12 h.size ⟨Aw (l.drop (i+1)),false⟩:=m12.blk r11 hne
    have hb12:h12[h2.size]? =some (.cells #[.string x.key,.string x.val,.bool x.gone] AO (0,0)):=by simpa using hb12
    refine Join.mk fun K2 hK2=>?_
    refine ALp r12 ⟨_,rfl,?_⟩
    refine PIf.no rfl ?_
    refine AL.mk (AC hb12 rfl) ?_
    refine PIf.no (AI5 hox.key) ?_
    refine AL.mk (AC hb12 rfl) ?_
    have hkm:=hox.keyMost
    refine hK2 _ _ (PIf.no (by simp;omega) ?_)
    refine AL.mk (AC hb12 rfl) ?_
    refine AL.mk (AC hb12 rfl) ?_
    refine Ab.mk (AC hb12 rfl) ?_
    have mA:Mod (fun b=>b=h.size∨b=h2.size) hh h12:=by
     have a1:Mod (fun b=>b=h.size∨b=h2.size) hh h2:=m2.weak fun b _ hb=> .inl hb
     exact((a1.trans m10).trans (m11.weak fun b _ hb=> .inl hb)).trans (m12.weak fun b _ hb=> .inr hb)
    have hss: ∀b,s.blk=some b→ ¬(b=h.size∨b=h2.size):=by
     intro b hb
     have hlt:=oo.lt hb
     have h2le:=m2.size
     rintro(rfl|rfl)
     ·exact oo.ne rd (by decide) hb
     ·omega
    refine New.append1 (E:=Ak) (x:=x) rfl JE (oo.mod mA hss) ?_ ?_ fun s' h15 o15 m15 hn15 hp15=>?_
    ·rw [List.length_take];omega
    ·simp only[maxLen];rw[List.length_take];omega
    ·rw [← ht] at o15
     have hxx:Ext h h12:=by
      refine⟨by have:=xx.size;have:=mA.size;omega,fun b hb _=>?_⟩
      have h2le:=m2.size
      have:=xx.size
      exact(mA.get b (by omega) (by omega)).trans (xx.get b hb (fun h=>h))
     refine hK (l.length-(i+1)) _ _ (by omega) ⟨i+1,s',rfl,rfl,hil,?_,?_,o15,?_⟩
     ·refine m15.blk r12 fun e=>?_
      have:Own Ak AO h12 s (l.take i):=oo.mod mA hss
      exact this.ne r12 (by decide) e
     ·refine⟨by have:=hxx.size;have:=m15.size;omega,fun b hb _=>?_⟩
      have:=hxx.size
      exact(m15.get b (by omega) (fun e=>by have:=hs b e;omega)).trans (hxx.get b hb (fun h=>h))
     ·intro b hb
      rcases hn15 b hb with e|e
      ·exact hs b e
      ·have:=hxx.size;omega
   have m29:Mod (fun b=>b=h.size∨b=h2.size) h2 h9:=by
    have a1:Mod (fun b=>b=h.size∨b=h2.size) h2 h5:=x5.mod
    exact(((a1.trans (m6.weak fun b _ hb=> .inr hb)).trans (m7.weak fun b _ hb=> .inr hb)).trans (m8.weak fun b _ hb=> .inr hb)).trans (m9.weak fun b _ hb=> .inl hb)
   refine PIf.intro (fun hq=>?_) (fun hq=>?_)
   ·have hg:x.gone=true:=by
     unfold Gi at hq
     split at hq
     ·rename_i hg;exact hg
     ·simp at hq;omega
    refine Store.mk hb9 (by simp) fun h17 hb17 m17 hs17=>?_
    refine key h17 (m17.blk r9 hne) (by rw[hg];simpa using hb17) (m29.trans (m17.weak fun b _ hb=> .inr hb))
   ·have hg:x.gone=false:=by
     cases hg:x.gone with
     |false=>rfl
     |true=>unfold Gi at hq;rw[hg] at hq;simp at hq
    exact key h9 r9 (by rw[hg];exact hb9) m29
 ·have hil:i=l.length:=by omega
  have e1:l.drop i= []:=by rw[hil];simp
  have e2:l.take i=l:=by rw[hil];simp
  rw[e1]
  rw[e2] at oo
  exact PIf.no rfl (H s hh oo xx hs)
end Go.Lf.G

/-
 Contracts: batches of changes as bytes.
-/
set_option maxRecDepth 100000
set_option linter.unusedVariables false
set_option linter.unusedSimpArgs false
namespace Go.Lf.G
open Go
def A8(seg:Nat)(l:List Pr):List UInt8:=CK seg++CK l.length++Aw l
theorem Jm {l:List Pr}(h: ∀x∈l,JW x):(Aw l).length≤l.length*8276:=by
 induction l with
 |nil=>simp
 |cons x l ih=>
  have h0:=h x List.mem_cons_self
  have h1:=(OB h0).2
  have h2:=h0.keyMost
  have h3:=h0.valMost
  have:=ih fun y hy=>h y (List.mem_cons_of_mem _ hy)
  simp only[Aw,List.flatMap_cons,List.length_append,List.length_cons] at this ⊢
  omega
theorem ALr {l:List Pr}(h: ∀x∈l,JW x)(i:Nat): ∀x∈l.take i,JW x:=fun x hx=>h x (List.mem_of_mem_take hx)
theorem AJM {A:Amb}{h:Heap}{s:Sl}{l:List Pr}{seg:Nat}{R:Value→Heap→Prop}(hseg:seg≤99999999)(hn:l.length≤64)(ho: ∀x∈l,JW x)(hv:View Ak h s l)(hb: ∀b,s.blk=some b→b<h.size)
  (H: ∀h',Ext h h'→R (.string (AY (A8 seg l))) h'):AA A P Mm #[.int .i64 (seg:Int),.slice s.p s.len s.cap] h R:=by
 refine ACi ?_
 unfold Qd
 rw[CU (by omega)]
 refine Fu (by omega) fun h1 x1=>⟨_,rfl,?_⟩
 rw[hv.len,CU (by omega)]
 refine Fu (by omega) fun h2 x2=>⟨_,rfl,?_⟩
 have l1:=Af (n:=seg) (by omega)
 have l2:=Af (n:=l.length) (by omega)
 refine⟨by rw[AQ,AQ,max_i64];omega,?_⟩
 rw[CF]
 refine Loop.rule (fun m x hh=> ∃i:Nat,x=(AY (CK seg++CK l.length++Aw (l.take i)),(i:Int),())∧m=l.length-i∧i≤l.length∧Ext h hh) ?_ ⟨0,by simp,rfl,by omega,x1.trans x2⟩
 rintro K m _ hh ⟨i,rfl,rfl,hi,xx⟩ hK
 dsimp only
 refine PIf.intro (fun hq=>?_) (fun hq=>?_)
 ·have hil:i<l.length:=by simp at hq;omega
  have hx:l[i]? =some l[i]:=List.getElem?_eq_getElem hil
  have ht:l.take (i+1)=l.take i++ [l[i]]:=by rw[List.take_add_one,hx];rfl
  have hox:=ho _ (List.getElem_mem hil)
  generalize l[i]=x at hx ht hox
  have hk:=hox.keyMost
  have hvm:=hox.valMost
  have hg:=hox.gone
  have lt:=Jm (ALr ho i)
  rw[List.length_take] at lt
  have lk1:=Af (n:=(bl x.key).length) (by rw[Be];omega)
  have lk:=Be x.key
  have lv:=Be x.val
  refine Join.mk fun K1 hK1=>?_
  obtain⟨a,ha,hc⟩:=(hv.ext xx).cells i x hx
  refine Idx.mk ha hil ?_
  obtain⟨c0,c1,c2⟩:=hc.pair
  rw[Int.toNat_natCast]
  refine AL.mk c0 (AL.mk c1 (Ab.mk c2 ?_))
  refine New.pair fun b h5 hbe hb5 x5 hs5=>?_
  refine AL.mk (AC hb5 rfl) ?_
  refine RB (by omega) fun h9 x9=>⟨_,rfl,⟨by rw[AQ,AQ,max_i64];simp only[Cb,List.length_append];omega,?_⟩⟩
  have hb9:=AU x9 hb5
  refine Ab.mk (AB hb9 rfl) ?_
  rw[CF]
  have fin: ∀h',Ext h9 h'→K1 (AY (CK seg++CK l.length++Aw (l.take (i+1))),()) h':=by
   intro h' x'
   refine hK1 _ _ ?_
   dsimp only
   rw[AR (by omega)]
   exact hK (l.length-(i+1)) _ _ (by omega) ⟨i+1,rfl,rfl,hil,((xx.trans x5).trans x9).trans x'⟩
  have hpl:Aw (l.take (i+1))=Aw (l.take i)++Gl x:=by rw[ht];simp[Aw]
  refine PIf.intro (fun hq1=>?_) (fun hq1=>?_)
  ·refine Fu (n:=0) (by omega) fun h10 x10=>⟨_,rfl,?_⟩
   have l3:=Af (n:=0) (by omega)
   refine⟨by rw[AQ,AQ,max_i64];simp only[Cb,List.length_append];omega,?_⟩
   rw[CF]
   have e:Gl x=Cb (bl x.key)++CK 0:=by
    unfold Gl Gi
    rw[hq1,OG (hg hq1)]
    simp
   have:=fin h10 x10
   rw[hpl,e] at this
   simpa only[List.append_assoc] using this
  ·refine AL.mk (AB hb9 rfl) ?_
   rw[AG1 (by omega)]
   refine Fu (by omega) fun h11 x11=>⟨_,rfl,?_⟩
   have l3:=Af (n:=x.val.size+1) (by omega)
   refine AL.mk (AB (AU x11 hb9) rfl) ⟨AB hb9 rfl,?_,?_,?_⟩
   ·rw [AQ,max_i64];omega
   ·have e0:x.val=AY (bl x.val):=(Gd _).symm
    rw[ByteArray.size_append,AQ,AQ,max_i64];simp only[Cb,List.length_append];omega
   ·have e:AY (CK (x.val.size+1))++x.val=AY (CK (Gi x)++bl x.val):=by
     conv=>lhs;arg 2;rw[(Gd x.val).symm]
     rw[CF]
     unfold Gi
     rw[hq1]
     rfl
    rw[e,CF]
    have:=fin h11 x11
    rw[hpl] at this
    unfold Gl at this
    simpa only[List.append_assoc] using this
 ·have hil:i=l.length:=by simp at hq;omega
  have e:l.take i=l:=by rw[hil];simp
  rw[e]
  exact H hh xx
theorem AF5 {A:Amb}{h:Heap}{l:List Pr}{seg:Nat}{R:Value→Heap→Prop}(hseg:seg≤99999999)(hn:l.length≤64)(ho: ∀x∈l,JW x)
  (H: ∀s h',Own Ak AO h' s l→Ext h h'→(∀ b,s.blk=some b→h.size≤b)→R (.tuple #[.int .i64 (seg:Int),.slice s.p s.len s.cap,.bool true]) h'):AA A P J4 #[.string (AY (A8 seg l))] h R:=by
 refine ZN ?_
 unfold Mw
 have l1:=Af (n:=seg) (by omega)
 have l2:=Af (n:=l.length) (by omega)
 have lm:=Jm ho
 refine P8 fun h1 r1 x1=>⟨_,rfl,?_⟩
 have e1:A8 seg l=CK seg++(CK l.length++Aw l):=by simp[A8,List.append_assoc]
 rw[e1] at r1
 refine JL (most:=99999999) r1 (by simp only[List.length_append];omega) (by decide) fun h2 r2 m2=>⟨_,rfl,?_⟩
 rw[IQ (by omega) (by omega)] at r2 ⊢
 dsimp only at r2 ⊢
 refine JL (most:=64) r2 (by simp only[List.length_append];omega) (by decide) fun h3 r3 m3=>⟨_,rfl,?_⟩
 rw[IQ (by omega) (by omega)] at r3 ⊢
 dsimp only at r3 ⊢
 have x3:Ext h h3:=by
  refine⟨by have:=x1.size;have:=m2.size;have:=m3.size;omega,fun b hb _=>?_⟩
  have:=x1.size
  have:=m2.size
  exact((m3.get b (by omega) (by omega)).trans (m2.get b (by omega) (by omega))).trans (x1.get b hb (fun h=>h))
 refine Loop.rule (fun m x hh=> ∃(i:Nat) (s:Sl),x=(s,(i:Int),())∧m=l.length-i∧i≤l.length∧KH hh h.size ⟨Aw (l.drop i),false⟩∧Ext h hh∧Own Ak AO hh s (l.take i)∧ ∀b,s.blk=some b→h.size≤b) ?_ ⟨0,⟨none,0,0⟩,rfl,rfl,by omega,r3,x3,Own.nil,fun b hb=>by simp[Sl.blk] at hb⟩
 rintro K m _ hh ⟨i,s,rfl,rfl,hi,rd,xx,oo,hs⟩ hK
 dsimp only
 refine PIf.intro (fun hq=>?_) (fun hq=>?_)
 ·have hil:i<l.length:=by simp at hq;omega
  have hx:l[i]? =some l[i]:=List.getElem?_eq_getElem hil
  have hmem:l[i]∈l:=List.getElem_mem hil
  have hd:l.drop i=l[i]::l.drop (i+1):=List.drop_eq_getElem_cons hil
  have ht:l.take (i+1)=l.take i++ [l[i]]:=by rw[List.take_add_one,hx];rfl
  generalize l[i]=x at hx hmem hd ht
  have hox:=ho x hmem
  have hp:Aw (l.drop i)=Gl x++Aw (l.drop (i+1)):=by rw[hd];rfl
  have hlen:(Gl x++Aw (l.drop (i+1))).length<1099511627776:=by
   have e:Aw l=Aw (l.take i)++Aw (l.drop i):=by rw[← List.flatMap_append,List.take_append_drop]
   have:=congrArg List.length e
   rw[hp,List.length_append] at this
   omega
  rw[hp] at rd
  refine Nq rd hlen fun h2 r2 m2=>⟨_,rfl,?_⟩
  rw[ABN hox] at r2 ⊢
  dsimp only at r2 ⊢
  rw[Gd]
  refine New.mk fun h5 _ hb5 x5 hs5=>?_
  refine Store.mk hb5 (by simp) fun h6 hb6 m6 hs6=>?_
  rw[Bg,Bg]
  refine Store.mk hb6 (by simp) fun h7 hb7 m7 hs7=>?_
  refine Store.mk hb7 (by simp) fun h8 hb8 m8 hs8=>?_
  have hbb:h.size<h2.size:=by have:=Ah r2;exact this
  have hne:h.size≠h2.size:=by omega
  have r8:KH h8 h.size ⟨CK (Gi x)++bl x.val++Aw (l.drop (i+1)),false⟩:=m8.blk (m7.blk (m6.blk (x5.blk r2 (fun h=>h)) hne) hne) hne
  have hrl:(CK (Gi x)++bl x.val++Aw (l.drop (i+1))).length≤1099511627776:=by
   simp only[Gl,List.length_append] at hlen ⊢;omega
  refine JL (most:=8193) r8 hrl (by decide) fun h9 r9 m9=>⟨_,rfl,?_⟩
  rw[AET hox] at r9 ⊢
  dsimp only at r9 ⊢
  have hb9:h9[h2.size]? =some (.cells #[.string x.key,.string ⟨#[]⟩,.bool false] AO (0,0)):=m9.blk (by simpa using hb8) (Ne.symm hne)
  have hgn:=Um hox
  have hg:(((Gi x:Nat):Int)==(0:Int))=x.gone:=by
   unfold Gi
   cases x.gone
   ·simp;omega
   ·simp
  rw[hg]
  refine Store.mk hb9 (by simp) fun h10 hb10 m10 hs10=>?_
  rw[AE1 (by omega)]
  have r10:KH h10 h.size ⟨bl x.val++Aw (l.drop (i+1)),false⟩:=m10.blk r9 hne
  refine Zu r10 fun h11 r11 m11=>⟨_,rfl,?_⟩
  rw[ABR hox] at r11 ⊢
  dsimp only at r11 ⊢
  rw[Gd]
  have hb11:=m11.blk hb10 (Ne.symm hne)
  refine Store.mk hb11 (by simp) fun h12 hb12 m12 hs12=>?_
  have r12:KH h12 h.size ⟨Aw (l.drop (i+1)),false⟩:=m12.blk r11 hne
  have hb12:h12[h2.size]? =some (.cells #[.string x.key,.string x.val,.bool x.gone] AO (0,0)):=by simpa using hb12
  refine AL.mk (AC hb12 rfl) ?_
  refine AL.mk (AC hb12 rfl) ?_
  refine Ab.mk (AC hb12 rfl) ?_
  have mA:Mod (fun b=>b=h.size∨b=h2.size) hh h12:=by
   have a1:Mod (fun b=>b=h.size∨b=h2.size) hh h2:=m2.weak fun b _ hb=> .inl hb
   have a2:Mod (fun b=>b=h.size∨b=h2.size) h2 h5:=x5.mod
   exact((((((((a1.trans a2).trans (m6.weak fun b _ hb=> .inr hb)).trans (m7.weak fun b _ hb=> .inr hb)).trans (m8.weak fun b _ hb=> .inr hb)).trans (m9.weak fun b _ hb=> .inl hb)).trans (m10.weak fun b _ hb=> .inr hb)).trans (m11.weak fun b _ hb=> .inl hb))).trans (m12.weak fun b _ hb=> .inr hb)
  have hss: ∀b,s.blk=some b→ ¬(b=h.size∨b=h2.size):=by
   intro b hb
   have hlt:=oo.lt hb
   have h2le:=m2.size
   rintro(rfl|rfl)
   ·exact oo.ne rd (by decide) hb
   ·omega
  refine New.append1 (E:=Ak) (x:=x) rfl JE (oo.mod mA hss) ?_ ?_ fun s' h15 o15 m15 hn15 hp15=>?_
  ·rw [List.length_take];omega
  ·simp only[maxLen];rw[List.length_take];omega
  ·rw [← ht] at o15
   have hxx:Ext h h12:=by
    refine⟨by have:=xx.size;have:=mA.size;omega,fun b hb _=>?_⟩
    have h2le:=m2.size
    have:=xx.size
    exact(mA.get b (by omega) (by omega)).trans (xx.get b hb (fun h=>h))
   rw[AR (by omega)]
   refine hK (l.length-(i+1)) _ _ (by omega) ⟨i+1,s',rfl,rfl,hil,?_,?_,o15,?_⟩
   ·refine m15.blk r12 fun e=>?_
    have:Own Ak AO h12 s (l.take i):=oo.mod mA hss
    exact this.ne r12 (by decide) e
   ·refine⟨by have:=hxx.size;have:=m15.size;omega,fun b hb _=>?_⟩
    have:=hxx.size
    exact(m15.get b (by omega) (fun e=>by have:=hs b e;omega)).trans (hxx.get b hb (fun h=>h))
   ·intro b hb
    rcases hn15 b hb with e|e
    ·exact hs b e
    ·have:=hxx.size;omega
 ·have hil:i=l.length:=by simp at hq;omega
  have e1:l.drop i= []:=by rw[hil];simp
  have e2:l.take i=l:=by rw[hil];simp
  rw[e1] at rd
  rw[e2] at oo
  refine VE rd ⟨_,rfl,?_⟩
  exact H s hh oo xx hs
end Go.Lf.G

/-
 A table's bytes (chapter 7): plain law: blocks of eight pairs, the foot.
-/
set_option maxRecDepth 100000
set_option linter.unusedVariables false
set_option linter.unusedSimpArgs false
namespace Go.Lf
open Go
def BV(l:List Pr)(i:Nat):List Pr:=(l.drop (8*i)).take 8
def BP(l:List Pr):Nat:=(l.length+7) / 8
def Ir(l:List Pr):List (List Pr):=(List.range (BP l)).map (BV l)
def Gf(l:List Pr)(i:Nat):ByteArray:=match l[i]? with|some p=>p.key|none=>⟨#[]⟩
def Bo(l:List Pr):List ByteArray:=(List.range (BP l)).map fun i=>Gf l (8*i)
def SA(l:List Pr)(f:List UInt8):List UInt8:=CK (BP l)++((Bo l).flatMap fun k=>Cb (bl k))++(CK l.length++Cb f)
def framesT(l:List Pr)(f:List UInt8):List (List UInt8):=(Ir l).map Aw++ [SA l f]
theorem OA {l:List Pr}{i:Nat}(h:i<BP l):1≤(BV l i).length∧(BV l i).length≤8∧(i+1<BP l→(BV l i).length=8):=by
 unfold BV BP at*
 rw[List.length_take,List.length_drop]
 omega
theorem Nn {l:List Pr}{i j:Nat}(hj:j<8):(BV l i)[j]? =l[8*i+j]? :=by
 unfold BV
 rw[List.getElem?_take,if_pos hj,List.getElem?_drop]
theorem ADv {l:List Pr}: ∀i,l.take (8*i)++BV l i=l.take (8*(i+1)):=fun i=>by
 unfold BV
 rw[show 8*(i+1)=8*i+8 by omega,List.take_add]
theorem ABz(l:List Pr): ∀n,((List.range n).map (BV l)).flatten=l.take (8*n)
 |0=>by simp
 |n+1=>by rw[List.range_succ,List.map_append,List.flatten_append,ABz l n];simpa using ADv n
theorem AIL(l:List Pr):(Ir l).flatten=l:=by
 unfold Ir
 rw[ABz,List.take_of_length_le]
 unfold BP;omega
theorem FW(l:List Pr):(Ir l).length=BP l:=by simp[Ir]
theorem Fx(l:List Pr):(Bo l).length=BP l:=by simp[Bo]
theorem AFE {l:List Pr}(h:l≠ []):1≤BP l:=by
 have:=List.length_pos_iff.2 h
 unfold BP;omega
structure YD (s:List UInt8) (l:List Pr) (f:List UInt8):Prop where
 bytes:s=wraps (framesT l f)
 ne:l≠ []
 ok: ∀p∈l,JW p
 inc:l.Pairwise fun p q=>sLt p.key q.key=true
 flen:1≤f.length∧f.length≤8192
 has: ∀p∈l,X0 f p.key=true
 many:l.length≤100000
theorem Vv {l:List Pr}(h: ∀p∈l,JW p):(Aw l).length≤l.length*8276:=by
 induction l with
 |nil=>simp
 |cons p l ih=>
  have h1:=(OB (h p (by simp))).2
  have h2:=ih fun q hq=>h q (List.mem_cons_of_mem _ hq)
  have h3:=(h p (by simp)).keyMost
  have h4:=(h p (by simp)).valMost
  simp only[Aw,List.flatMap_cons,List.length_append,List.length_cons] at h2 ⊢
  omega
theorem Mh {l:List Pr}{i:Nat}{p:Pr}(h:p∈BV l i):p∈l:=List.mem_of_mem_drop (List.mem_of_mem_take h)
theorem Tp {s:List UInt8}{l:List Pr}{f:List UInt8}(T:YD s l f):(SA l f).length≤1048576:=by
 have hm:=T.many
 have hf:=T.flen.2
 have h1:=Af (n:=BP l) (by unfold BP;omega)
 have h2:=Af (n:=l.length) (by omega)
 have h3:=Af (n:=f.length) (by omega)
 have hk: ∀k∈Bo l,k.size≤64:=fun k hk=>by
  obtain⟨i,_,rfl⟩:=List.mem_map.1 hk
  unfold Gf
  split
  ·rename_i p hp
   exact(T.ok p (List.mem_of_getElem? hp)).keyMost
  ·exact Nat.zero_le _
 have h4: ∀ks:List ByteArray,(∀ k∈ks,k.size≤64)→(ks.flatMap fun k=>Cb (bl k)).length≤ks.length*65:=by
  intro ks
  induction ks with
  |nil=>intro _;simp
  |cons k ks ih=>
   intro h
   have h5:=ih fun x hx=>h x (List.mem_cons_of_mem _ hx)
   have h6:=h k (by simp)
   have h7:(CK k.size).length=1:=by rw[Ja (by omega)];rfl
   have h8:(Cb (bl k)).length=1+k.size:=by
    simp only[Cb,List.length_append,Be,h7]
   simp only[List.flatMap_cons,List.length_append,List.length_cons,h8] at h5 ⊢
   omega
 have h9:=h4 (Bo l) hk
 rw[Fx] at h9
 have h10:BP l≤12501:=by unfold BP;omega
 have h11:(Cb f).length=(CK f.length).length+f.length:=by simp[Cb]
 simp only[SA,List.length_append]
 omega
theorem Kq {s:List UInt8}{l:List Pr}{f:List UInt8}(T:YD s l f): ∀r∈framesT l f,r.length≤1048576:=fun r hr=>by
 rcases List.mem_append.1 hr with hr|hr
 ·obtain⟨b,hb,rfl⟩:=List.mem_map.1 hr
  obtain⟨i,hi,rfl⟩:=List.mem_map.1 hb
  have h1:=Vv (l:=BV l i) fun p hp=>T.ok p (Mh hp)
  have h2:=(OA (List.mem_range.1 hi)).2.1
  have:(BV l i).length*8276≤8*8276:=Nat.mul_le_mul_right _ h2
  omega
 ·rw [List.mem_singleton.1 hr];exact Tp T
end Go.Lf

/-
 Functions that yield slices, ranged over (as L.lean has it of pairs).
-/
set_option maxRecDepth 100000
set_option linter.unusedVariables false
set_option linter.unusedSimpArgs false
namespace Go.Lf
open Go
def slV(s:Sl):Value:= .slice s.p s.len s.cap
def ALj(A:Amb)(P:Program)(yv:Value)(l:List Sl)(J:Nat→Bool→(Nat→Prop)→Heap→Prop):Prop:=
 ∀i x O hh,l[i]? =some x→J i true O hh→FE A P yv #[slV x] hh fun v h'=> ∃g O',v= .bool g∧(∀ b,O' b→O b∨hh.size≤b)∧Mod O hh h'∧J (i+1) g O' h'
def AEH(A:Amb)(P:Program)(fv:Value)(S:Nat→Prop)(h0:Heap)(l:List Sl):Prop:=
 (∀ b,S b→b<h0.size)∧ ∃f caps,fv= .func (.func f) #[] caps∧(∀ yv,(callFunc f (#[]++ #[yv]++caps)).calc P=some (.enter f (#[]++ #[yv]++caps)))∧
  ∀(h:Heap),(∀ b,S b→h[b]? =h0[b]?)→ ∀yv J O,Jj yv=true→(∀ b,S b→ ¬O b)→Body h J→ALj A P yv l J→J 0 true O h→
   AA A P f (#[]++ #[yv]++caps) h fun v h'=>v= .tuple #[]∧ ∃i g O',Mod O h h'∧(∀ b,O' b→O b∨h.size≤b)∧J i g O' h'∧(g=true→i=l.length)∧i≤l.length
theorem AEH.weak {A:Amb}{P:Program}{fv:Value}{S S':Nat→Prop}{h0 h1:Heap}{l:List Sl}(it:AEH A P fv S h0 l)(hS: ∀b,S b→S' b)(hl: ∀b,S' b→b<h1.size)(hh: ∀b,S b→h1[b]? =h0[b]?):AEH A P fv S' h1 l:=by
 obtain⟨_,f,caps,e,hc,H⟩:=it
 refine⟨hl,f,caps,e,hc,fun h hS' yv J O hy hd=>H h (fun b hb=>(hS' b (hS b hb)).trans (hh b hb)) yv J O hy fun b hb=>hd b (hS b hb)⟩
theorem AEH.one {A:Amb}{P:Program}{fv:Value}{S:Nat→Prop}{h0:Heap}{l:List Sl}(it:AEH A P fv S h0 l):Jj fv=true∧ACQ fv∧P7 fv=false:=by
 obtain⟨_,f,caps,rfl,_⟩:=it
 exact⟨rfl,by simp[ACQ],rfl⟩
def AMg(x:Sl):TyA [.one .sl]:=(x,())
end Go.Lf

/-
 Functions that yield slices and touch nothing else, ranged over.
-/
set_option maxRecDepth 100000
set_option linter.unusedVariables false
set_option linter.unusedSimpArgs false
namespace Go.Lf
open Go
def AMC(A:Amb)(P:Program)(fv:Value)(S:Nat→Prop)(h0:Heap)(l:List Sl):Prop:=
 ∃f caps,fv= .func (.func f) #[] caps∧(∀ yv,(callFunc f (#[]++ #[yv]++caps)).calc P=some (.enter f (#[]++ #[yv]++caps)))∧
  ∀(h:Heap) (yv:Value) (J:Nat→Bool→Heap→Prop),Jj yv=true→(∀ i g hh,J i g hh→ ∀b,S b→hh[b]? =h0[b]?)→
   (∀ i x hh,l[i]? =some x→J i true hh→FE A P yv #[slV x] hh fun v h'=> ∃g,v= .bool g∧J (i+1) g h')→J 0 true h→
   AA A P f (#[]++ #[yv]++caps) h fun v h'=>v= .tuple #[]∧ ∃i g,J i g h'∧(g=true→i=l.length)∧i≤l.length
theorem AMx {A:Amb}{P:Program}{fv:Value}{S:Nat→Prop}{h0 h:Heap}{l:List Sl}(it:AMC A P fv S h0 l)
  (Inv:Nat→Heap→Prop) {body:TyA [.one .sl]→Nat→Heap→(Heap→Prop)→(Option Nat→Heap→Prop)→Prop} {kn:Heap→Prop} {kj:Option Nat→Heap→Prop}
  (hS: ∀i hh,Inv i hh→ ∀b,S b→hh[b]? =h0[b]?)
  (stable: ∀i hh o,Inv i hh→hh[h.size]? =some (.deferred (some []))→(∃ o',hh[h.size+1]? =some (.loop o'))→Inv i (hh.setIfInBounds (h.size+1) (.loop o)))
  (init: ∀rec,Inv 0 ((h.push (.deferred (some []))).push (.loop rec)))
  (round: ∀i x hh rec kn' kj',l[i]? =some x→Inv i hh→hh[h.size]? =some (.deferred (some []))→hh[h.size+1]? =some (.loop rec)→rec.state= .ready→
   (∀ h',Inv (i+1) h'→h'[h.size]? =some (.deferred (some []))→h'[h.size+1]? =some (.loop {rec with state:= .busy})→kn' h')→body (AMg x) (h.size+1) hh kn' kj')
  (fin: ∀h',Inv l.length h'→h'[h.size]? =some (.deferred (some []))→kn h'):TT A P fv [.one .sl] body h kn kj:=by
 intro rec hst hpd hsz hy
 obtain⟨f,caps,rfl,hc,H⟩:=it
 refine⟨f,_,?_,AA.mono (H ((h.push (.deferred (some []))).push (.loop rec)) (.func (.yield (h.size+1)) #[] #[])
  (fun i g hh=>Inv i hh∧g=true∧hh[h.size]? =some (.deferred (some []))∧hh[h.size+1]? =some (.loop rec)) rfl (fun i g hh hj=>hS i hh hj.1) ?_ ?_) ?_⟩
 ·have hcv:(do let d ←Deferred.ofValue (.func (.func f) #[] caps) #[.func (.yield (h.size+1)) #[] #[]];invoke d.target d.args:Sem Next).calc P=(callFunc f (#[]++ #[.func (.yield (h.size+1)) #[] #[]]++caps)).calc P:=rfl
  unfold Rz
  rw[hcv,hc]
 ·rintro i x hh hi ⟨hI,_,hdf,hl⟩
  refine hy (AMg x) hh _ hl (round i x hh rec _ _ hi hI hdf hl hst ?_)
  intro h' hI' hdf' hl'
  have hlt:h.size+1<h'.size:=Ah hl'
  refine⟨_,hl',true,rfl,stable _ _ _ hI' hdf' ⟨_,hl'⟩,rfl,?_,?_⟩
  ·rw [Array.getElem?_setIfInBounds_ne (by omega)];exact hdf'
  ·rw [Bt hlt];cases rec;simp at hst hpd;simp[hst,hpd]
 ·refine⟨init rec,rfl,?_,?_⟩
  ·rw [Array.getElem?_push_lt (by simp)];simp
  ·have h9:h.size+1=(h.push (.deferred (some []))).size:=by simp
   rw[h9];exact Array.getElem?_push_size
 ·rintro v h2 ⟨_,i,g,⟨hI,rfl,hdf,hl⟩,hg,hil⟩
  refine⟨rec,hl,by simp[hst],.inl ⟨hpd,fin _ ?_ ?_⟩⟩
  ·have:=hg rfl
   subst this
   exact stable _ _ _ hI hdf ⟨_,hl⟩
  ·rw [Array.getElem?_setIfInBounds_ne (by omega)];exact hdf
end Go.Lf

/-
 Contracts: strings.Builder; slices.Chunk.
-/
set_option maxRecDepth 100000
set_option linter.unusedVariables false
set_option linter.unusedSimpArgs false
namespace Go.Lf.G
open Go
def U8(h:Heap)(c:Nat):Prop:= ∃cs fz,h[c]? =some (.cells cs Ci fz)
def Bld(B:Nat)(h:Heap)(b:Nat)(l:List UInt8):Prop:= ∀(A:Amb) (n:Nat),Lib.IsBuilderF Cn Ci B b (Lib.byteCells l) (A.at h n)
theorem AHP {A:Amb}{n B b:Nat}{h:Heap}{l:List UInt8}(H:Lib.IsBuilderF Cn Ci B b (Lib.byteCells l) (A.at h n)):Bld B h b l:=fun _ _=>H
theorem R6 {A:Amb}{h:Heap}{n B b:Nat}{w:World}(hB:B≤h.size)(hb:RowKit.Below B (A.at h n) w)(ho:Lib.OthersKept Ci (some b) (A.at h n) w):
  w=A.at w.heap w.drawn∧Mod (fun c=>c=b∨(B≤c∧U8 h c)) h w.heap:=by
 obtain⟨h1,h2,h3,h4,h5⟩:=hb
 refine⟨?_,⟨h4,fun c hc hs=>?_⟩⟩
 ·cases w
  simp only[Amb.at] at h1 h2 h3 ⊢
  subst h1 h2 h3
  rfl
 ·by_cases hcB:c<B
  ·exact h5 c hcB
  ·have hg:h[c]? =some h[c]:=Array.getElem?_eq_getElem hc
   have h1:=ho c h[c] hg (by intro e;exact hs (.inl (Option.some.inj e))) (fun cs fz e=>hs (.inr ⟨by omega,cs,fz,by rw[hg,e]⟩))
   rw[h1];exact hg.symm
theorem Bld.mod {B b:Nat}{h h':Heap}{l:List UInt8}{S:Nat→Prop}(H:Bld B h b l)(m:Mod S h h')(hb: ¬S b)(hu: ∀c,B≤c→U8 h c→ ¬S c):Bld B h' b l:=by
 intro A n
 have at_p: ∀p,Lib.BuilderAtF Cn Ci B b p (Lib.byteCells l) (A.at h n)→Lib.BuilderAtF Cn Ci B b p (Lib.byteCells l) (A.at h' n):=by
  rintro p ⟨h1,v,h2,⟨h3,h4⟩,h5⟩
  refine⟨h1,v,m.blk h2 hb,⟨h3,?_⟩,h5⟩
  rcases h4 with h4|⟨g,cap,cur,fz,e,hg,hgb,rest⟩
  ·exact .inl h4
  ·exact .inr ⟨g,cap,cur,fz,e,hg,m.blk hgb (hu g hg ⟨cur,fz,hgb⟩),rest⟩
 rcases H A n with h1|h1
 ·exact .inl (at_p _ h1)
 ·exact .inr (at_p _ h1)
theorem Bld.ext {B b:Nat}{h h':Heap}{l:List UInt8}(H:Bld B h b l)(m:Ext h h'):Bld B h' b l:=H.mod m (fun h=>h) (fun _ _ _ h=>h)
theorem Bld.cell {B b:Nat}{h:Heap}{l:List UInt8}(H:Bld B h b l)(A:Amb): ∃cs,h[b]? =some (.cells cs Cn (0,0))∧B≤b:=by
 rcases H A 0 with⟨h1,v,h2,_⟩|⟨h1,v,h2,_⟩<;>exact⟨_,h2,h1⟩
theorem ALb {B b:Nat}{h:Heap}(hb:h[b]? =some (.cells #[.pointer none,.slice none 0 0] Cn (0,0)))(hB:B≤b):Bld B h b []:=by
 intro A n
 exact .inl ⟨hB,_,hb,⟨rfl,.inl ⟨rfl,rfl⟩⟩,by simp[Value.ownBlock]⟩
theorem QR {A:Amb}{h:Heap}{B b:Nat}{l:List UInt8}{s:ByteArray}{R:Value→Heap→Prop}(hb:Bld B h b l)(hB:B≤h.size)(hl:l.length+s.size≤1099511627776)
  (H: ∀h',Bld B h' b (l++bl s)→Mod (fun c=>c=b∨(B≤c∧U8 h c)) h h'→R (.tuple #[.int .i64 s.size,.nilIface]) h'):AA A P Cr #[Aq b,.string s] h R:=by
 intro n
 refine Calls.mono (Proofs.Any.Builder_WriteString_k Proofs.Tryz.lays166 Proofs.Tryz.extra105 B b (Lib.byteCells l) s (A.at h n) (hb A n) (by rw[Lib.byteCells_length];omega) hB) ?_
 rintro e w' ⟨rfl,h1,h2,h3⟩
 obtain⟨e1,m⟩:=R6 hB h2 h3
 refine⟨_,rfl,w'.heap,w'.drawn,e1,H _ ?_ m⟩
 rw[Lib.strCells_eq,←Lib.byteCells_append,e1] at h1
 exact AHP (A:=A) (n:=w'.drawn) (.inr h1)
theorem AF1 {A:Amb}{h:Heap}{B b:Nat}{l:List UInt8}{R:Value→Heap→Prop}(hb:Bld B h b l)(hB:B≤h.size)
  (H: ∀h',Bld B h' b l→Mod (fun c=>c=b∨(B≤c∧U8 h c)) h h'→R (.string (AY l)) h'):AA A P E9 #[Aq b] h R:=by
 intro n
 refine Calls.mono (Proofs.Any.Builder_String_any_k Proofs.Tryz.lays169 Proofs.Tryz.extra105 B b l (A.at h n) (hb A n) hB) ?_
 rintro e w' ⟨rfl,h1,h2,h3⟩
 obtain⟨e1,m⟩:=R6 hB h2 h3
 refine⟨_,rfl,w'.heap,w'.drawn,e1,H _ ?_ m⟩
 rw[e1] at h1
 exact AHP (A:=A) (n:=w'.drawn) h1
def NS(s:Sl)(i:Nat):Sl:=⟨Ao s.p (min (8*i+8) s.len) (8*i) 3,min (8*i+8) s.len-8*i,min (8*i+8) s.len-8*i⟩
def chunks(s:Sl):List Sl:=(List.range ((s.len+7) / 8)).map (NS s)
theorem PH(s:Sl):(chunks s).length=(s.len+7) / 8:=by simp[chunks]
theorem YQ {s:Sl}{i:Nat}(h:i<(s.len+7) / 8):(chunks s)[i]? =some (NS s i):=by simp[chunks,h]
theorem View.chunk {h:Heap}{s:Sl}{l:List Pr}(v:View Ak h s l){i:Nat}(hi:i<BP l):View Ak h (NS s i) (BV l i):=by
 have hl:=v.len
 unfold BP at hi
 refine⟨?_,Nat.le_refl _,fun j x hx=>?_⟩
 ·show min (8*i+8) s.len-8*i=(BV l i).length
  unfold BV
  rw[List.length_take,List.length_drop,hl]
  omega
 ·have hj:j<8:=by
   have:=(List.getElem?_eq_some_iff.1 hx).1
   unfold BV at this
   rw[List.length_take] at this
   omega
  rw[Nn hj] at hx
  obtain⟨a,ha,hc⟩:=v.cells _ _ hx
  have hjl:=(List.getElem?_eq_some_iff.1 hx).1
  refine⟨a.add (8*i*3),?_,?_⟩
  ·unfold NS Ao
   simp only[ha]
   rw[if_neg (by omega)]
   rfl
  ·rw [add_add]
   have e:8*i*3+j*Ak.w=(8*i+j)*Ak.w:=by
    show 8*i*3+j*3=(8*i+j)*3
    omega
   rw[e];exact hc
theorem AIw {n i:Nat}(hn:n≤1099511627776)(h:8*i<n):IntKind.wrap .i64 (((8*i:Nat):Int)+(if((((n-((8*i:Nat):Int).toNat):Nat):Int):Int)<(8:Int) then(((n-((8*i:Nat):Int).toNat):Nat):Int) else(8:Int)))=((min (8*i+8) n:Nat):Int):=by
 rw[Int.toNat_natCast]
 split
 ·rw [wrap_i64 (by omega) (by omega)];omega
 ·rw [wrap_i64 (by omega) (by omega)];omega
abbrev AJ2:FuncId:=Bl
theorem AJ9 {A:Amb}{h:Heap}{s:Sl}{R:Value→Heap→Prop}(hc:s.len≤s.cap)(hn:s.len≤1099511627776)
  (H: ∀fv h',Ext h h'→h'.size=h.size+2→h'[h.size]? =some (.cells #[.slice s.p s.len s.cap] AV (0,0))→h'[h.size+1]? =some (.cells #[.int .i64 8] BL (0,0))→
   AMC A P fv (fun c=>c=h.size∨c=h.size+1) h' (chunks s)→R fv h'):AA A P CB #[.slice s.p s.len s.cap,.int .i64 8] h R:=by
 refine HV ?_
 unfold Cj
 refine New.mk fun h1 _ hb1 x1 hs1=>?_
 refine New.mk fun h2 _ hb2 x2 hs2=>?_
 refine Join.mk fun K hK=>?_
 refine Aa.mk (AC hb2 rfl) ?_
 refine PIf.no rfl (hK _ _ ?_)
 have hb1':=AU x2 hb1
 rw[hs1] at hb2 ⊢
 refine H _ h2 (x1.trans x2) (by omega) hb1' hb2 ⟨AJ2,#[Aq h.size,Aq (h.size+1)],rfl,fun yv=>by kernel_rfl,?_⟩
 intro h0 yv J hy hJ hyield j0
 refine GU ?_
 unfold CY
 refine Loop.rule (fun m x hh=> ∃i:Nat,x=(((8*i:Nat):Int),())∧m=(s.len+7) / 8-i∧i≤(s.len+7) / 8∧J i true hh) ?_ ⟨0,rfl,rfl,by omega,j0⟩
 rintro K m _ hh ⟨i,rfl,rfl,hi,hj⟩ hK
 have hA:hh[h.size]? =some (.cells #[.slice s.p s.len s.cap] AV (0,0)):=(hJ _ _ _ hj _ (.inl rfl)).trans hb1'
 have hB:hh[h.size+1]? =some (.cells #[.int .i64 8] BL (0,0)):=(hJ _ _ _ hj _ (.inr rfl)).trans hb2
 refine atI (AZ.mk (AC hA rfl) ?_)
 dsimp only
 refine PIf.intro (fun hq=>?_) (fun hq=>?_)
 ·have hil:8*i<s.len:=by simp at hq;omega
  refine atI (Aa.mk (AC hB rfl) ?_)
  refine atI (AZ.mk (AC hA rfl) ⟨by omega,?_⟩)
  refine atI (AZ.mk (AC hA rfl) ?_)
  rw[AIw hn hil,Int.toNat_natCast,Int.toNat_natCast]
  refine⟨by omega,by omega,by omega,?_⟩
  have hc:=YQ (s:=s) (i:=i) (by omega)
  have hy1:=hyield i _ hh hc hj
  simp only[slV,NS] at hy1
  refine FE.mono hy1 ?_
  rintro v h' ⟨g,rfl,hj'⟩
  refine⟨g,rfl,?_⟩
  cases g with
  |false=>exact PIf.yes rfl ⟨rfl,i+1,false,hj',(fun h=>by cases h),by rw[PH];omega⟩
  |true=>
   refine PIf.no rfl (atI ?_)
   have hB':h'[h.size+1]? =some (.cells #[.int .i64 8] BL (0,0)):=(hJ _ _ _ hj' _ (.inr rfl)).trans hb2
   refine Aa.mk (AC hB' rfl) ?_
   have e:IntKind.wrap .i64 (((8*i:Nat):Int)+(8:Int))=((8*(i+1):Nat):Int):=by
    rw[wrap_i64 (by omega) (by omega)];omega
   rw[e]
   exact hK ((s.len+7) / 8-(i+1)) _ _ (by omega) ⟨i+1,rfl,rfl,by omega,hj'⟩
 ·have hil:s.len≤8*i:=by simp at hq;omega
  have:i=(s.len+7) / 8:=by omega
  exact⟨rfl,i,true,hj,fun _=>by rw[PH];exact this,by rw[PH];omega⟩
end Go.Lf.G

/-
 Contract: a table is built.
-/
set_option maxRecDepth 100000
set_option linter.unusedVariables false
set_option linter.unusedSimpArgs false
namespace Go.Lf.G
open Go
theorem X9:TN P Bf Ad F9.w 16=true:=by kernel_rfl
structure BS (h1:Heap) (B:Nat) (E:Nat→Obj→Prop) (out:List UInt8) (kl:List ByteArray) (ix:List UInt8) (n:Nat) (hh:Heap):Prop where
 bld:Bld B hh B out
 keys: ∃ks:Sl,hh[B+1]? =some (.cells #[.slice ks.p ks.len ks.cap] Bf (0,0))∧Own F9 Ad hh ks kl∧ ∀c,ks.blk=some c→B+3<c
 ix:hh[B+2]? =some (.cells #[.string (AY ix)] Ad (0,0))
 cnt:hh[B+3]? =some (.cells #[.int .i64 (n:Int)] BL (0,0))
 fix: ∀c o,E c o→hh[c]? =some o
 old:Mod (fun c=>B≤c) h1 hh
structure EOk (B:Nat) (E:Nat→Obj→Prop):Prop where
 u8: ∀c o,E c o→ ∀cs fz,o≠ .cells cs Ci fz
 str: ∀c o,E c o→ ∀cs fz,o≠ .cells cs Ad fz
 lt: ∀c o,E c o→B+3<c
theorem AEB {h:Heap}{c:Nat}{o:Obj}(hc:h[c]? =some o)(ho: ∀cs fz,o≠ .cells cs Ci fz): ¬U8 h c:=by
 rintro⟨cs,fz,e⟩
 rw[hc] at e
 exact ho cs fz (Option.some.inj e)
theorem J9 {cs:Array Value}{T T':TypeId}{fr:Nat×Nat}(h:T≠T'): ∀cs' fz,(Obj.cells cs T fr)≠ .cells cs' T' fz:=fun cs' fz e=>by injection e with _ e _;exact h e
theorem AG0 {h:Heap}{ks:Sl}{kl:List ByteArray}(o:Own F9 Ad h ks kl){c:Nat}(hu:U8 h c):ks.blk≠some c:=by
 obtain⟨cs,fz,e⟩:=hu
 exact o.ne e (by decide)
theorem BS.ext {h1 hh h':Heap}{B:Nat}{E:Nat→Obj→Prop}{out:List UInt8}{kl:List ByteArray}{ix:List UInt8}{n:Nat}(b:BS h1 B E out kl ix n hh)(x:Ext hh h'):BS h1 B E out kl ix n h':=by
 obtain⟨ks,e1,e2,e3⟩:=b.keys
 exact⟨b.bld.ext x,⟨ks,AU x e1,e2.ext x,e3⟩,AU x b.ix,AU x b.cnt,fun c o hc=>x.blk (b.fix c o hc) (fun h=>h),b.old.trans x.mod⟩
theorem BS.write {h1 hh h':Heap}{B:Nat}{E:Nat→Obj→Prop}{out out':List UInt8}{kl:List ByteArray}{ix:List UInt8}{n:Nat}(ok:EOk B E)(b:BS h1 B E out kl ix n hh)(hb:Bld B h' B out')
  (m:Mod (fun c=>c=B∨(B≤c∧U8 hh c)) hh h'):BS h1 B E out' kl ix n h':=by
 obtain⟨ks,e1,e2,e3⟩:=b.keys
 have keep: ∀ {c:Nat} {o:Obj},hh[c]? =some o→c≠B→(∀ cs fz,o≠ .cells cs Ci fz)→h'[c]? =some o:=fun hc hne ho=>m.blk hc (fun h=>h.elim hne (fun h=>AEB hc ho h.2))
 refine⟨hb,⟨ks,keep e1 (by omega) (J9 (by decide)),e2.mod m (fun c hc h=>?_),e3⟩,keep b.ix (by omega) (J9 (by decide)),keep b.cnt (by omega) (J9 (by decide)),fun c o hc=>keep (b.fix c o hc) (by have:=ok.lt c o hc;omega) (ok.u8 c o hc),b.old.trans (m.weak fun c _ hc=>by rcases hc with h|h<;>omega)⟩
 rcases h with h|h
 ·have:=e3 c hc;omega
 ·exact AG0 e2 h.2 hc
theorem BS.key {h1 hh h':Heap}{B:Nat}{E:Nat→Obj→Prop}{out:List UInt8}{kl kl':List ByteArray}{ix:List UInt8}{n:Nat}(ok:EOk B E)(b:BS h1 B E out kl ix n hh){ks ks':Sl}(e1:hh[B+1]? =some (.cells #[.slice ks.p ks.len ks.cap] Bf (0,0)))
  (e2:Own F9 Ad hh ks kl) (e3: ∀c,ks.blk=some c→B+3<c) (m:Mod (fun c=>ks.blk=some c∨c=B+1) hh h') (e1':h'[B+1]? =some (.cells #[.slice ks'.p ks'.len ks'.cap] Bf (0,0)))
  (e2':Own F9 Ad h' ks' kl') (e3': ∀c,ks'.blk=some c→B+3<c):BS h1 B E out kl' ix n h':=by
 have hB: ∀c,ks.blk=some c∨c=B+1→B+1≤c:=fun c hc=>by
  rcases hc with h|h
  ·have:=e3 c h;omega
  ·omega
 refine⟨b.bld.mod m (fun h=>by have:=hB _ h;omega) (fun c hc hu h=>?_),⟨ks',e1',e2',e3'⟩,m.blk b.ix (fun h=>?_),m.blk b.cnt (fun h=>?_),fun c o hc=>m.blk (b.fix c o hc) (fun h=>?_),b.old.trans (m.weak fun c _ hc=>by have:=hB _ hc;omega)⟩
 ·rcases h with h|h
  ·exact AG0 e2 hu h
  ·subst h
   exact AEB e1 (J9 (by decide)) hu
 ·rcases h with h|h
  ·have:=e3 _ h;omega
  ·omega
 ·rcases h with h|h
  ·have:=e3 _ h;omega
  ·omega
 ·rcases h with h|h
  ·rcases e2.row with⟨rfl,_⟩|⟨g,cur,hp,hg,_⟩
   ·simp [Sl.blk] at h
   ·simp [Sl.blk,hp] at h
    subst h
    rw[b.fix _ o hc] at hg
    exact ok.str _ o hc cur (0,0) (Option.some.inj hg)
  ·have:=ok.lt c o hc;omega
theorem BS.ixs {h1 hh h':Heap}{B:Nat}{E:Nat→Obj→Prop}{out:List UInt8}{kl:List ByteArray}{ix ix':List UInt8}{n:Nat}(ok:EOk B E)(b:BS h1 B E out kl ix n hh)(m:Mod (fun c=>c=B+2) hh h')(e:h'[B+2]? =some (.cells #[.string (AY ix')] Ad (0,0))):BS h1 B E out kl ix' n h':=by
 obtain⟨ks,e1,e2,e3⟩:=b.keys
 exact⟨b.bld.mod m (fun h=>by omega) (fun c hc hu h=>by subst h;exact AEB b.ix (J9 (by decide)) hu),⟨ks,m.blk e1 (by omega),e2.mod m (fun c hc h=>by have:=e3 c hc;omega),e3⟩,e,m.blk b.cnt (by omega),
  fun c o hc=>m.blk (b.fix c o hc) (by have:=ok.lt c o hc;omega),b.old.trans (m.weak fun c _ hc=>by omega)⟩
theorem BS.cnts {h1 hh h':Heap}{B:Nat}{E:Nat→Obj→Prop}{out:List UInt8}{kl:List ByteArray}{ix:List UInt8}{n n':Nat}(ok:EOk B E)(b:BS h1 B E out kl ix n hh)(m:Mod (fun c=>c=B+3) hh h')(e:h'[B+3]? =some (.cells #[.int .i64 (n':Int)] BL (0,0))):BS h1 B E out kl ix n' h':=by
 obtain⟨ks,e1,e2,e3⟩:=b.keys
 exact⟨b.bld.mod m (fun h=>by omega) (fun c hc hu h=>by subst h;exact AEB b.cnt (J9 (by decide)) hu),⟨ks,m.blk e1 (by omega),e2.mod m (fun c hc h=>by have:=e3 c hc;omega),e3⟩,m.blk b.ix (by omega),e,
  fun c o hc=>m.blk (b.fix c o hc) (by have:=ok.lt c o hc;omega),b.old.trans (m.weak fun c _ hc=>by omega)⟩
theorem BS.lp {h1 hh:Heap}{B d:Nat}{E:Nat→Obj→Prop}{out:List UInt8}{kl:List ByteArray}{ix:List UInt8}{n:Nat}(b:BS h1 B E out kl ix n hh)(hd:B+3<d)(hne: ∀o,¬E d o){o':Go.Loop}(hl:hh[d]? =some (.loop o'))(o:Go.Loop):BS h1 B E out kl ix n (hh.setIfInBounds d (.loop o)):=by
 obtain⟨ks,e1,e2,e3⟩:=b.keys
 have m:Mod (fun c=>c=d) hh (hh.setIfInBounds d (.loop o)):=Mod.setObj rfl
 refine⟨b.bld.mod m (fun h=>by omega) (fun c hc hu h=>by subst h;exact AEB hl (fun _ _ e=>by cases e) hu),⟨ks,m.blk e1 (by omega),e2.mod m (fun c hc h=>?_),e3⟩,m.blk b.ix (by omega),m.blk b.cnt (by omega),
  fun c o hc=>m.blk (b.fix c o hc) (fun h=>by subst h;exact hne _ hc),b.old.trans (m.weak fun c _ hc=>by omega)⟩
 subst h
 rcases e2.row with⟨rfl,_⟩|⟨g,cur,hp,hg,_⟩
 ·simp [Sl.blk] at hc
 ·simp [Sl.blk,hp] at hc
  subst hc
  rw[hl] at hg
  cases hg
end Go.Lf.G

