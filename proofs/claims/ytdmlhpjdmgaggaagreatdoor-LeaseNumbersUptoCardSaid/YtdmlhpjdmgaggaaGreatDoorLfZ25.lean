/-
 Contracts: names of hosts; the row of a shard's lease (chapters 12, 17).
-/
import Derived.Test.YtdmlhpjdmgaggaaGreatDoorLfV1ToB1
import Derived.Test.YtdmlhpjdmgaggaaGreatDoorLfU11
import Derived.Test.YtdmlhpjdmgaggaaGreatDoorLfU26
import Derived.Test.YtdmlhpjdmgaggaaGreatDoorLfG4
set_option linter.unusedVariables false
set_option linter.unusedSimpArgs false
set_option maxRecDepth 100000
set_option linter.unusedVariables false
set_option linter.unusedSimpArgs false
namespace Go.Lf.G
open Go
theorem AM7 {s:ByteArray}:sEq s (⟨#[]⟩:ByteArray)=decide (s=ANi):=BZ
theorem AHE {s:ByteArray}:s=ANi↔s.size=0:=by
 constructor
 ·rintro rfl;rfl
 ·intro h
  have:bl s= []:=List.eq_nil_of_length_eq_zero (by rw[Be];exact h)
  rw[← Gd s]
  show AY (bl s)=_
  rw[this];rfl
theorem ABU {A:Amb}{h:Heap}{s:ByteArray}{R:Value→Heap→Prop}(H:R (.bool (GV s)) h):AA A P JN #[.string s] h R:=by
 refine AAw ?_
 unfold PL
 rw[AM7]
 refine Join.mk fun K hK=>?_
 have key: ∀bb:Bool,(bb=true↔s.size=0∨16<s.size)→K (bb,()) h:=fun bb hbb=>by
  refine hK _ _ ?_
  refine PIf.intro (fun hq=>?_) (fun hq=>?_)
  ·have e:GV s=false:=by
    rw[Bool.eq_false_iff]
    intro hn
    have:=IZ.1 hn
    have:=hbb.1 hq
    omega
   rw[e] at H;exact H
  have hsz: ¬(s.size=0∨16<s.size):=fun hh=>by have hq:bb=false:=hq;rw[hbb.2 hh] at hq;cases hq
  refine Loop.rule (fun m x hh=> ∃i:Nat,x=((i:Int),())∧hh=h∧m=s.size-i∧i≤s.size∧ ∀c∈(bl s).take i,33≤c.toNat∧c.toNat≤126) ?_ ⟨0,rfl,rfl,rfl,by omega,by simp⟩
  rintro K1 m _ hh ⟨i,rfl,e,rfl,hi,hall⟩ hK1
  subst hh
  refine PIf.intro (fun hq2=>?_) (fun hq2=>?_)
  ·have hil:i<s.size:=by simpa using hq2
   obtain⟨c,hc⟩: ∃c,(bl s)[i]? =some c:=⟨_,List.getElem?_eq_getElem (by rw[Be];exact hil)⟩
   have hmem:c∈bl s:=List.mem_of_getElem? hc
   dsimp only
   rw[Mk hc]
   refine Join.mk fun K2 hK2=>⟨⟨by omega,by omega⟩,?_⟩
   have key2: ∀b2:Bool,(b2=true↔ ¬(33≤c.toNat∧c.toNat≤126))→K2 (b2,()) h:=fun b2 hb2=>by
    refine hK2 _ _ ?_
    refine PIf.intro (fun hq=>?_) (fun hq=>?_)
    ·have e:GV s=false:=by
      rw[Bool.eq_false_iff]
      intro hn
      exact hb2.1 hq ((IZ.1 hn).2.2 c hmem)
     rw[e] at H;exact H
    ·rw [AR (by omega)]
     refine hK1 (s.size-(i+1)) _ _ (by omega) ⟨i+1,rfl,rfl,rfl,hil,fun x hx=>?_⟩
     rw[List.take_add_one,hc,Option.toList_some] at hx
     rcases List.mem_append.1 hx with hx|hx
     ·exact hall x hx
     ·simp at hx;subst hx
      have hq:b2=false:=hq
      exact Decidable.byContradiction fun hh=>by rw[hb2.2 hh] at hq;cases hq
   refine PIf.intro (fun hq3=>key2 _ ⟨fun _=>by simp at hq3;omega,fun _=>rfl⟩) (fun hq3=>⟨⟨by omega,by omega⟩,key2 _ ⟨fun h4=>by simp at h4;omega,fun h4=>by simp at hq3;simp;omega⟩⟩)
  ·have hil:i=s.size:=by simp at hq2;omega
   have e:GV s=true:=by
    rw[IZ]
    refine⟨by omega,by omega,fun c hc=>hall c ?_⟩
    rw[List.take_of_length_le (by rw[Be];omega)]
    exact hc
   rw[e] at H;exact H
 refine PIf.intro (fun hq=>key _ ⟨fun _=> .inl (by simpa [AHE] using hq),fun _=>rfl⟩) (fun hq=>key _ ⟨fun h4=>by simp at h4;omega,fun h4=>?_⟩)
 have hq: ¬s.size=0:=fun hz=>by rw[decide_eq_false_iff_not] at hq;exact hq (AHE.2 hz)
 rw[decide_eq_true_eq]
 omega
def Bu(n:Nat):ByteArray:=AY [DU 108,DU n]
def Fe(r:Nat)(name:ByteArray):ByteArray:=AY (CK r++Cb (bl name))
theorem Io(n:Nat):(Bu n).size=2:=rfl
theorem AIk(n:Nat):Bu n≠⟨#[]⟩:=fun e=>by have:=congrArg ByteArray.size e;rw[Io] at this;cases this
theorem AFc {m n:Nat}(hm:m<256)(hn:n<256)(h:Bu m=Bu n):m=n:=by
 have h1:=Ni.1 h
 simp only[List.cons.injEq,and_true,true_and] at h1
 have:=congrArg UInt8.toNat h1
 rwa [ET hm,ET hn] at this
theorem AGg {r:Nat}{name:ByteArray}(h2:r≤2147483647)(hn:GV name=true):(Fe r name).size≤8192:=by
 have h3:=(IZ.1 hn).2.1
 have h4:=Af (n:=r) (by omega)
 have h5:=Af (n:=(bl name).length) (by rw[Be];omega)
 unfold Fe Cb
 rw[AQ,List.length_append,List.length_append,Be]
 rw[Be] at h5
 omega
theorem AIZ {r r':Nat}{n n':ByteArray}(h1:r≤2147483647)(h2:r'≤2147483647)(h:Fe r n=Fe r' n'):r=r':=(AJB (by omega) (by omega) (Ni.1 h)).1
section
variable {A : Amb} {h : Heap} {R : Value → Heap → Prop}
theorem Qc {n:Nat}(hn:n<256)(H: ∀h',Ext h h'→R (.string (Bu n)) h'):AA A P Ep #[.int .i64 (n:Int)] h R:=by
 refine AAK ?_
 unfold Oy
 refine AAF ?_
 unfold OQ
 refine New.mk fun h1 _ hb1 x1 s1=>?_
 have v1:View Gc h1 ⟨some ⟨h.size,0,none⟩,1,1⟩ [DU n]:=(Own.lit (E:=Gc) (l:= [DU n]) hb1 (by simp[Gc,ET hn,wrap_u8,Nat.mod_eq_of_lt hn]) (by simp[maxLen])).view
 refine Jf (s:=⟨some ⟨h.size,0,none⟩,1,1⟩) Ve AIG JY v1 ⟨_,rfl,⟨_,rfl,⟨by rw[AQ,max_i64,show(⟨#[108]⟩:ByteArray).size=1 from rfl];simp,?_⟩⟩⟩
 have e:(⟨#[108]⟩:ByteArray)++AY [DU n]=Bu n:=by
  rw[show(⟨#[108]⟩:ByteArray)=AY [DU 108] from rfl,CF];rfl
 rw[e]
 exact H h1 x1
theorem Xh {r:Nat}{name:ByteArray}(h1:1≤r)(h2:r≤2147483647)(hn:GV name=true)(H: ∀h',Ext h h'→R (.tuple #[.string (Fe r name),.int .i64 0]) h'):AA A P G9 #[.int .i64 (r:Int),.string name] h R:=by
 obtain⟨l,rfl⟩: ∃l,name=AY l:=⟨_,(Gd name).symm⟩
 have h3:=(IZ.1 hn).2.1
 rw[AQ] at h3
 refine ACS ?_
 unfold Qo
 refine Join.mk fun K hK=>PIf.no (decide_eq_false (by omega)) (PIf.no (decide_eq_false (by omega)) (ABU ⟨_,rfl,hK _ _ (PIf.no (by rw[hn];rfl) ?_)⟩))
 rw[CU (by omega)]
 have h4:=Af (n:=r) (by omega)
 have h5:=Af (n:=l.length) (by omega)
 refine Fu (by omega) fun h3 x3=>⟨_,rfl,?_⟩
 refine YY (l:=l) (by omega) fun h4 x4=>⟨_,rfl,⟨?_,?_⟩⟩
 ·rw [AQ,AQ,max_i64]
  unfold Cb
  rw[List.length_append];omega
 ·rw [CF]
  have:=H h4 (x3.trans x4)
  unfold Fe at this
  rwa [show bl (AY l)=l from Cz l] at this
theorem AIV {r:Nat}{name:ByteArray}(h1:1≤r)(h2:r≤2147483647)(hn:GV name=true)(H: ∀h',Ext h h'→R (.tuple #[.int .i64 (r:Int),.string name,.int .i64 0]) h'):AA A P J3 #[.string (Fe r name)] h R:=by
 have hn0:=hn
 obtain⟨l,rfl⟩: ∃l,name=AY l:=⟨_,(Gd name).symm⟩
 have h3:=(IZ.1 hn).2.1
 rw[AQ] at h3
 have h4:=Af (n:=r) (by omega)
 have h5:=Af (n:=l.length) (by omega)
 have hlen:(Cb l).length≤26:=by unfold Cb;rw[List.length_append];omega
 refine YC ?_
 unfold NG Fe
 rw[show bl (AY l)=l from Cz l]
 refine P8 (l:=CK r++Cb l) fun ha hba xa=>⟨_,rfl,?_⟩
 refine JL (most:=2147483647) hba (by simp only[List.length_append];omega) (by decide) fun hb hbb mb=>⟨_,rfl,?_⟩
 rw[IQ (by omega) h2] at hbb ⊢
 refine Nq hbb (by dsimp only;omega) fun hc hbc mc=>⟨_,rfl,?_⟩
 have e:=Q7 (l:=l) (by omega) []
 rw[List.append_nil] at e
 rw[e] at hbc ⊢
 refine Xh h1 h2 hn0 fun hd xd=>⟨_,_,rfl,?_⟩
 refine Join.mk fun K hK=>PIf.no rfl (VE (r:=⟨[],false⟩) (xd.blk hbc fun h=>h) ⟨_,rfl,hK _ _ (PIf.no rfl ?_)⟩)
 exact H hd ((xa.then ((mb.trans mc).weak fun c _ hc=> .inr (by omega))).trans xd)
end
end Go.Lf.G

