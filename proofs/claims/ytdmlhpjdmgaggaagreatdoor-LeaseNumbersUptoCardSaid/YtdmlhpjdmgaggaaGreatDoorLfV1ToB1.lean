/-
 Contracts: numbers and texts as bytes (chapter 1), and what reads them.
-/
import Derived.Test.YtdmlhpjdmgaggaaGreatDoorLfG1
import Derived.Test.YtdmlhpjdmgaggaaGreatDoorLfU1ToU4
set_option linter.unusedVariables false
set_option linter.unusedSimpArgs false
set_option maxRecDepth 100000
set_option linter.unusedVariables false
set_option linter.unusedSimpArgs false
namespace Go.Lf.G
open Go
theorem JY:P.underlying Ad=some .string:=by kernel_rfl
theorem AIG:P.underlying Ci=some (.int .u8):=by kernel_rfl
theorem Ve:P.underlying CO=some (.slice Ci):=by kernel_rfl
theorem AJI:TN P CO Ci Gc.w 1=true:=by kernel_rfl
theorem Fu {A:Amb}{h:Heap}{n:Nat}{R:Value→Heap→Prop}(hn:n<18446744073709551616)(H: ∀h',Ext h h'→R (.string (AY (CK n))) h'):AA A P CG #[.int .u64 (n:Int)] h R:=by
 refine AFH ?_
 unfold Sj
 have hl10:=Af hn
 refine Loop.rule (fun m x hh=> ∃(k:Nat) (s:Sl) (d:List UInt8),x=((k:Int),s,())∧Own Gc Ci hh s d∧Ext h hh∧(∀ b,s.blk=some b→h.size≤b)∧CK n=d++CK k∧m=k) ?_
  ⟨n,⟨none,0,0⟩,[],rfl,Own.nil,Mod.refl,fun b hb=>by simp[Sl.blk] at hb,rfl,rfl⟩
 rintro K m _ hh ⟨k,s,d,rfl,o,x,hs,e,hm⟩ hK
 have hd:d.length≤10:=by rw[e] at hl10;simp at hl10;omega
 refine PIf.intro (fun hq=>?_) (fun hq=>?_)
 ·have hk: ¬k<128:=by simp at hq;omega
  refine New.append1 (E:=Gc) (x:=DU (k % 128+128)) (s:=s) (l:=d) (by dsimp only[Gc];rw[AJ1]) AJI o (by simp;omega) (by simp[maxLen];omega) fun s' h' o' m' hb' hn'=>?_
  refine hK (k / 128) _ _ (by omega) ⟨k / 128,s',d++ [DU (k % 128+128)],?_,o',x.more m' hs,fun b hb=>?_,?_,rfl⟩
  ·dsimp only
   rw[Nh k 7]
  ·rcases hb' b hb with h1|h1
   ·exact hs b h1
   ·have:=x.size;omega
  ·rw [e,UB hk];simp
 ·have hk:k<128:=by simp at hq;omega
  refine New.append1 (E:=Gc) (x:=DU k) (s:=s) (l:=d) (by dsimp only[Gc];rw[ET (show k<256 by omega),wrap_u8,Nat.mod_eq_of_lt (show k<256 by omega)]) AJI o (by simp;omega) (by simp[maxLen];omega) fun s' h' o' m' hb' hn'=>?_
  refine Jf Ve AIG JY o'.view ⟨_,rfl,?_⟩
  have e2:d++ [DU k]=CK n:=by rw[e,Ja hk]
  rw[e2]
  exact H _ (x.more m' hs)
theorem AJc(n:Nat):(if(10:Int)<(n:Int) then(10:Int) else(n:Int))=((min n 10:Nat):Int):=by split<;>omega
theorem AHz {A:Amb}{h:Heap}{s:ByteArray}{R:Value→Heap→Prop}(hs:s.size≤8796093022208)
  (H0:Kc 0 0 s.data.toList=none→R (.tuple #[.int .u64 0,.string ⟨#[]⟩,.bool false]) h)
  (H1: ∀n t,Kc 0 0 s.data.toList=some (n,t)→R (.tuple #[.int .u64 (n:Int),.string (AY t),.bool true]) h):AA A P Li #[.string s] h R:=by
 refine ADq ?_
 unfold TG
 have hls:s.data.toList.length=s.size:=by rw[Array.length_toList];rfl
 refine Loop.rule (fun m x hh=> ∃(i a:Nat),x=((a:Int),(i:Int),())∧hh=h∧i≤s.size∧i≤10∧a<128^i∧Kc 0 0 s.data.toList=Kc i a (s.data.toList.drop i)∧m=10-i) ?_
  ⟨0,0,rfl,rfl,by omega,by omega,by simp,rfl,rfl⟩
 rintro K m _ hh ⟨i,a,rfl,e,hi,h10,ha,hg,hm⟩ hK
 subst hh
 dsimp only
 rw[AJc]
 refine PIf.intro (fun hq=>?_) (fun hq=>?_)
 ·have hi1:i<s.size∧i<10:=by simp at hq;omega
  have hil:i<s.data.toList.length:=by omega
  refine⟨⟨by omega,by omega⟩,?_⟩
  obtain⟨c,hc⟩: ∃c,s.data.toList[i]? =some c:=⟨_,List.getElem?_eq_getElem hil⟩
  have hdrop:s.data.toList.drop i=c::s.data.toList.drop (i+1):=by
   rw[List.drop_eq_getElem_cons hil]
   rw[List.getElem?_eq_getElem hil] at hc
   rw[Option.some.inj hc]
  have hc256:c.toNat<256:=c.toNat_lt
  rw[Mk hc]
  have hbad:((i=9∧1<c.toNat)∨(0<i∧c.toNat=0))→Kc 0 0 s.data.toList=none:=fun hb=>by
   rw[hg,hdrop,Kc,if_pos (.inr hb)]
  have hgo: ¬((i=9∧1<c.toNat)∨(0<i∧c.toNat=0))→Kc 0 0 s.data.toList=if c.toNat<128 then some (a+c.toNat*128^i,s.data.toList.drop (i+1)) else Kc (i+1) (a+c.toNat % 128*128^i) (s.data.toList.drop (i+1)):=fun hb=>by
   rw[hg,hdrop,Kc,if_neg (fun h=>h.elim (by omega) hb)]
  refine Join.mk fun K1 hK1=>?_
  have key: ∀(b:Bool),(b=true↔((i=9∧1<c.toNat)∨(0<i∧c.toNat=0)))→K1 (b,()) h:=fun b hb=>by
   refine hK1 _ _ ?_
   refine PIf.intro (fun hb1=>H0 (hbad (hb.1 hb1))) (fun hb0=>?_)
   have hnb: ¬((i=9∧1<c.toNat)∨(0<i∧c.toNat=0)):=fun h=>by rw[hb.2 h] at hb0;cases hb0
   have hg2:=hgo hnb
   have e7:IntKind.wrap .i64 ((7:Int)*(i:Int))=((7*i:Nat):Int):=by rw[show(7:Int)*(i:Int)=((7*i:Nat):Int) by simp];exact Fy (by omega)
   have e127:Pb .u8 (c.toNat:Int) (127:Int)=((c.toNat % 128:Nat):Int):=by
    have:=AI4 (a:=c.toNat) (b:=127) hc256 (by decide)
    rw[AMj _ hc256] at this
    exact this
   have ew:IntKind.wrap .u64 ((c.toNat % 128:Nat):Int)=((c.toNat % 128:Nat):Int):=by rw[wrap_u64,Nat.mod_eq_of_lt (by omega)]
   rw[e7,e127,ew,AMm (by omega) (Nat.mod_lt _ (by decide)),AKv (by omega) ha (Nat.mod_lt _ (by decide)),AR (by omega)]
   have h9:=Jh (show i≤9 by omega)
   have e9:(128:Nat)^9=9223372036854775808:=by decide
   have hmod:c.toNat % 128*128^i % 18446744073709551616=c.toNat % 128*128^i:=by
    refine Nat.mod_eq_of_lt ?_
    by_cases hi9:i=9
    ·subst hi9
     have:c.toNat≤1:=by omega
     rw[e9];omega
    ·have h8:=Jh (show i≤8 by omega)
     have e8:(128:Nat)^8=72057594037927936:=by decide
     have:c.toNat % 128*128^i≤127*128^i:=Nat.mul_le_mul_right _ (by omega)
     omega
   rw[hmod]
   refine⟨by omega,?_⟩
   refine PIf.intro (fun hq=>?_) (fun hq=>?_)
   ·have hlow:c.toNat<128:=by simp at hq;omega
    rw[if_pos hlow] at hg2
    refine⟨⟨by omega,by omega⟩,?_⟩
    have:=H1 _ _ hg2
    rw[Nat.mod_eq_of_lt hlow]
    have e:s.extract ((i+1:Nat):Int).toNat s.size=AY (s.data.toList.drop (i+1)):=ZC _ _
    rw[e]
    exact this
   ·have hlow: ¬c.toNat<128:=by simp at hq;omega
    rw[if_neg hlow] at hg2
    refine hK (10-(i+1)) _ _ (by omega) ⟨i+1,a+c.toNat % 128*128^i,rfl,rfl,by omega,by omega,?_,hg2,rfl⟩
    have:(c.toNat % 128+1)*128^i≤128*128^i:=Nat.mul_le_mul_right _ (by omega)
    rw[Nat.add_mul] at this
    rw[Nat.pow_succ,Nat.mul_comm (128^i)]
    omega
  refine PIf.intro (fun hq=>?_) (fun hq=>?_)
  ·have hi9:i=9:=by simp at hq;omega
   refine PIf.intro (fun hq2=>key _ ⟨fun _=> .inl ⟨hi9,by simp at hq2;omega⟩,fun _=>rfl⟩) (fun hq2=>?_)
   refine PIf.intro (fun hq3=>key _ ⟨fun hz=> .inr ⟨by omega,by simp at hz;omega⟩,fun hz=>by simp at hq2 ⊢;omega⟩) (fun hq3=>?_)
   simp at hq3;omega
  ·have hi9:i≠9:=by simp at hq;omega
   refine PIf.intro (fun hq3=>key _ ⟨fun hz=> .inr ⟨by simp at hq3;omega,by simp at hz;omega⟩,fun hz=>(by simp;omega)⟩) (fun hq3=>key _ ⟨(fun hz=>(by cases hz)),fun hz=>(by simp at hq3;omega)⟩)
 ·have hi1:s.size=i∨i=10:=by simp at hq;omega
  refine H0 ?_
  rw[hg]
  rcases hi1 with h1|h1
  ·rw [List.drop_of_length_le (by omega)];rfl
  ·cases hd:s.data.toList.drop i with
   |nil=>rfl
   |cons c t=>rw[Kc,if_pos (.inl (by omega))]
end Go.Lf.G

/-
 Contracts: readers of bytes (chapter 1), sums and frames (chapter 2).
-/
set_option maxRecDepth 100000
set_option linter.unusedVariables false
set_option linter.unusedSimpArgs false
namespace Go.Lf.G
open Go
theorem atI {a:Addr}{K:Addr→Prop}(h:K a):At (some a) K:=h
theorem Store.mk1 {h:Heap}{b j:Nat}{v:Value}{cs:Array Value}{T:TypeId}{K:Heap→Prop}(hb:h[b]? =some (.cells cs T (0,0)))(hj:j<cs.size)
  (H: ∀h',h'[b]? =some (.cells (cs.setIfInBounds j v) T (0,0))→Mod (· =b) h h'→h'.size=h.size→K h'):Store h ((⟨b,0,none⟩:Addr).add j) v K:=by
 rw[Bg,Nat.zero_add];exact Store.mk hb hj H
theorem max_i64:IntKind.max .i64=9223372036854775807:=by simp[IntKind.max,IntKind.bits,IntKind.signed]
theorem wrap_i64 {n:Int}(h1: -9223372036854775808≤n)(h2:n≤9223372036854775807):IntKind.wrap .i64 n=n:=by
 simp only[IntKind.wrap,IntKind.bits,IntKind.signed]
 simp
 omega
theorem CU {n:Nat}(h:n<18446744073709551616):IntKind.wrap .u64 (n:Int)=(n:Int):=by rw[wrap_u64,Nat.mod_eq_of_lt h]
abbrev Aq(b:Nat):Value:= .pointer (some ⟨b,0,none⟩)
def KH(h:Heap)(b:Nat)(r:Rd):Prop:=h[b]? =some (.cells #[.string (AY r.rest),.bool r.bad] Rx (0,0))
theorem AER:AY []=⟨#[]⟩:=rfl
theorem ABA(l:List UInt8)(n:Nat):(AY l).extract 0 n=AY (l.take n):=by rw[AI2,Cz]
theorem ABC(l:List UInt8)(n:Nat):(AY l).extract n (AY l).size=AY (l.drop n):=by rw[ZC,Cz]
theorem AJC(l:List UInt8)(i j:Nat):(AY l).extract i j=AY ((l.take j).drop i):=by rw[ext_list,Cz]
theorem CF(a b:List UInt8):AY a++AY b=AY (a++b):=by
 apply ByteArray.ext
 simp[AY,ByteArray.data_append]
theorem YY {A:Amb}{h:Heap}{l:List UInt8}{R:Value→Heap→Prop}(hl:l.length≤1099511627776)(H: ∀h',Ext h h'→R (.string (AY (Cb l))) h'):AA A P Dt #[.string (AY l)] h R:=by
 refine AC7 ?_
 unfold QT
 rw[AQ,CU (by omega)]
 have:=Af (n:=l.length) (by omega)
 refine Fu (by omega) fun h1 x1=>⟨_,rfl,⟨by rw[AQ,max_i64];omega,?_⟩⟩
 rw[CF]
 exact H _ x1
theorem P8 {A:Amb}{h:Heap}{l:List UInt8}{R:Value→Heap→Prop}(H: ∀h',KH h' h.size ⟨l,false⟩→Ext h h'→R (Aq h.size) h'):AA A P Ff #[.string (AY l)] h R:=by
 refine ACC ?_
 unfold Q3
 exact New.mk fun h1 _ hb x _=>H h1 hb x
theorem AG7 {A:Amb}{h:Heap}{b:Nat}{r:Rd}{R:Value→Heap→Prop}(hb:KH h b r)(hl:r.rest.length≤1099511627776)
  (H: ∀h',KH h' b (IJ r).2→Mod (· =b) h h'→R (.int .u64 ((IJ r).1:Int)) h'):AA A P Eo #[Aq b] h R:=by
 refine TM ?_
 unfold I4
 refine Join.mk fun K hK=>PIf.no rfl (atI (Ab.mk (AB hb rfl) (hK _ _ ?_)))
 refine PIf.intro (fun hq=>?_) (fun hq=>?_)
 ·have:=H h
  rw[AKk hq] at this
  exact this hb Mod.refl
 ·refine atI (AL.mk (AC hb rfl) ?_)
  have hq:r.bad=false:=hq
  refine AHz (by rw[AQ];exact Nat.le_trans hl (by decide)) (fun hn=>⟨_,_,_,rfl,?_⟩) (fun n t hn=>⟨_,_,_,rfl,?_⟩)
  all_goals
   rw[Cz] at hn
   refine atI (Store.mk hb (by simp) fun h1 hb1 m1 hs1=>atI (Store.mk1 hb1 (by simp) fun h2 hb2 m2 hs2=>?_))
   have:=H h2
   simp only[IJ,hq,hn] at this
   exact this hb2 (m1.trans m2)
theorem AIF {m:Nat}(h:m≤9223372036854775807):IntKind.wrap .u64 (m:Int)=(m:Int):=CU (by omega)
theorem JL {A:Amb}{h:Heap}{b:Nat}{r:Rd}{most:Nat}{R:Value→Heap→Prop}(hb:KH h b r)(hl:r.rest.length≤1099511627776)(hm:most≤9223372036854775807)
  (H: ∀h',KH h' b (ADi most r).2→Mod (· =b) h h'→R (.int .i64 ((ADi most r).1:Int)) h'):AA A P BI #[Aq b,.int .i64 (most:Int)] h R:=by
 refine SB ?_
 unfold JO
 refine AG7 hb hl fun h1 hb1 m1=>⟨_,rfl,?_⟩
 refine Join.mk fun K hK=>PIf.no rfl (atI (Ab.mk (AB hb1 rfl) (hK _ _ ?_)))
 refine PIf.intro (fun hq=>?_) (fun hq=>?_)
 ·have:=H h1
  have hq:(IJ r).2.bad=true:=hq
  simp only[ADi,hq,if_true] at this
  exact this hb1 m1
 ·have hq:(IJ r).2.bad=false:=hq
  refine Join.mk fun K1 hK1=>PIf.no (by simp) (hK1 _ _ ?_)
  rw[AIF hm]
  refine PIf.intro (fun hq2=>?_) (fun hq2=>?_)
  ·refine atI (Store.mk hb1 (by simp) fun h2 hb2 m2 hs2=>atI (Store.mk1 hb2 (by simp) fun h3 hb3 m3 hs3=>?_))
   have:=H h3
   simp only[ADi,hq] at this
   rw[if_neg (by simp),if_pos (by simp at hq2;omega)] at this
   exact this hb3 ((m1.trans m2).trans m3)
  ·have:=H h1
   simp at hq2
   simp only[ADi,hq] at this
   rw[if_neg (by simp),if_neg (by omega)] at this
   rw[Fy (by omega)]
   exact this hb1 m1
theorem Zu {A:Amb}{h:Heap}{b n:Nat}{r:Rd}{R:Value→Heap→Prop}(hb:KH h b r)
  (H: ∀h',KH h' b (PT n r).2→Mod (· =b) h h'→R (.string (AY (PT n r).1)) h'):AA A P De #[Aq b,.int .i64 (n:Int)] h R:=by
 refine RU ?_
 unfold Im
 refine Join.mk fun K hK=>PIf.no rfl (atI (Ab.mk (AB hb rfl) (hK _ _ ?_)))
 refine PIf.intro (fun hq=>?_) (fun hq=>?_)
 ·have:=H h
  have hq:r.bad=true:=hq
  simp only[PT,hq,if_true] at this
  exact this hb Mod.refl
 ·have hq:r.bad=false:=hq
  refine Join.mk fun K1 hK1=>PIf.no (by simp) (atI (AL.mk (AC hb rfl) (hK1 _ _ ?_)))
  rw[AQ]
  refine PIf.intro (fun hq2=>?_) (fun hq2=>?_)
  ·refine atI (Store.mk hb (by simp) fun h2 hb2 m2 hs2=>atI (Store.mk1 hb2 (by simp) fun h3 hb3 m3 hs3=>?_))
   have:=H h3
   simp only[PT,hq] at this
   rw[if_neg (by simp),if_pos (by simp at hq2;omega)] at this
   exact this hb3 (m2.trans m3)
  ·simp at hq2
   refine atI (AL.mk (AC hb rfl) ⟨⟨by omega,by rw[AQ];omega⟩,atI (AL.mk (AC hb rfl) ⟨⟨by omega,by rw[AQ];omega⟩,atI (Store.mk hb (by simp) fun h2 hb2 m2 hs2=>?_)⟩)⟩)
   have:=H h2
   simp only[PT,hq] at this
   rw[if_neg (by simp),if_neg (by omega)] at this
   simp only[Int.toNat_natCast,ABA,ABC] at hb2 ⊢
   rw[hq] at hb2
   exact this hb2 m2
theorem Nq {A:Amb}{h:Heap}{b:Nat}{r:Rd}{R:Value→Heap→Prop}(hb:KH h b r)(hl:r.rest.length<1099511627776)
  (H: ∀h',KH h' b (YS r).2→Mod (· =b) h h'→R (.string (AY (YS r).1)) h'):AA A P Cc #[Aq b] h R:=by
 refine RZ ?_
 unfold IY
 refine AG7 hb (by omega) fun h1 hb1 m1=>⟨_,rfl,?_⟩
 have hln:=AJW r
 refine Join.mk fun K hK=>PIf.no rfl (atI (Ab.mk (AB hb1 rfl) (hK _ _ ?_)))
 refine PIf.intro (fun hq=>?_) (fun hq=>?_)
 ·have:=H h1
  have hq:(IJ r).2.bad=true:=hq
  simp only[YS,hq,if_true] at this
  exact this hb1 m1
 ·have hq:(IJ r).2.bad=false:=hq
  have e:IntKind.wrap .i64 (if(1099511627776:Int)<((IJ r).1:Int) then 1099511627776 else((IJ r).1:Int))=((min (IJ r).1 1099511627776:Nat):Int):=by
   rw[wrap_i64 (by split<;>omega) (by split<;>omega)]
   split<;>omega
  rw[e]
  refine Zu hb1 fun h2 hb2 m2=>⟨_,rfl,?_⟩
  have:=H h2
  simp only[YS,hq] at this
  rw[if_neg (by simp)] at this
  have e2:PT (min (IJ r).1 1099511627776) (IJ r).2=PT (IJ r).1 (IJ r).2:=by
   by_cases hle:(IJ r).1≤1099511627776
   ·rw [Nat.min_eq_left hle]
   ·have q1:(IJ r).2.rest.length<min (IJ r).1 1099511627776:=by omega
    have q2:(IJ r).2.rest.length<(IJ r).1:=by omega
    simp only[PT,hq,Bool.false_eq_true,if_false,if_pos q1,if_pos q2]
  rw[e2] at hb2 ⊢
  exact this hb2 (m1.trans m2)
theorem VE {A:Amb}{h:Heap}{b:Nat}{r:Rd}{R:Value→Heap→Prop}(hb:KH h b r)(H:R (.bool (ALf r)) h):AA A P Cq #[Aq b] h R:=by
 refine TW ?_
 unfold JC
 refine PIf.yes rfl (atI (Ab.mk (AB hb rfl) ?_))
 unfold ALf at H
 refine PIf.intro (fun hq=>?_) (fun hq=>?_)
 ·refine atI (AL.mk (AC hb rfl) ?_)
  rw[hq] at H
  have e:sEq (AY r.rest) (⟨#[]⟩:ByteArray)=r.rest.isEmpty:=by
   rw[BZ,←AER]
   cases hr:r.rest with
   |nil=>simp
   |cons c t=>simp[Ni]
  rw[e];simpa using H
 ·rw [hq] at H;exact H
theorem AJy {c:Nat}(hc:c<4294967296):Vq .u32 ((c:Int).fdiv ((2:Int)^(1:Nat))) (Pb .u32 (3988292384:Int) (IntKind.wrap .u32 (0-(Pb .u32 (c:Int) (1:Int)))))=((ZA c:Nat):Int):=by
 have h1:Pb .u32 (c:Int) (1:Int)=((c % 2:Nat):Int):=by
  have:=ALS (a:=c) (b:=1) hc (by decide)
  rw[Nat.and_one_is_mod] at this
  exact this
 rw[Nh c 1,h1]
 unfold ZA
 have hd:c / 2^1<4294967296:=by omega
 by_cases ho:c % 2=1
 ·rw [if_pos ho,ho]
  have e:IntKind.wrap .u32 (0-((1:Nat):Int))=((4294967295:Nat):Int):=by decide
  have e2:Pb .u32 (3988292384:Int) ((4294967295:Nat):Int)=((3988292384:Nat):Int):=by decide
  rw[e,e2,RS hd (by decide)]
 ·rw [if_neg ho,show c % 2=0 by omega]
  have e:IntKind.wrap .u32 (0-((0:Nat):Int))=((0:Nat):Int):=by decide
  have e2:Pb .u32 (3988292384:Int) ((0:Nat):Int)=((0:Nat):Int):=by decide
  rw[e,e2,RS hd (by decide)]
  simp
theorem ALT {c:Nat}(hc:c<4294967296):Vq .u32 (if IntKind.signed .u32 then -1 else IntKind.max .u32) (c:Int)=((4294967295-c:Nat):Int):=by
 have e:(if IntKind.signed .u32 then -1 else IntKind.max .u32)=((4294967295:Nat):Int):=by decide
 rw[e,RS (by decide) hc]
 congr 1
 have e1:4294967295-c=2^32-(c+1):=by omega
 have e2:(4294967295:Nat)=2^32-1:=by decide
 have hc':c<2^32:=by omega
 rw[e1,e2]
 apply Nat.eq_of_testBit_eq
 intro i
 rw[Nat.testBit_xor,Nat.testBit_two_pow_sub_one,Nat.testBit_two_pow_sub_succ hc']
 by_cases hi:i<32
 ·simp [hi]
 ·have:c.testBit i=false:=Nat.testBit_lt_two_pow (Nat.lt_of_lt_of_le hc' (Nat.pow_le_pow_right (by decide) (by omega)))
  simp[hi,this]
theorem AHw {A:Amb}{h:Heap}{l:List UInt8}{R:Value→Heap→Prop}(hl:l.length≤1099511627776)(H:R (.int .u32 (AEV l:Int)) h):AA A P KI #[.string (AY l)] h R:=by
 refine AC0 ?_
 unfold Ql
 rw[AQ]
 refine Loop.rule (fun m x hh=> ∃i:Nat,x=((AB6 (l.take i):Int),(i:Int),())∧hh=h∧m=l.length-i∧i≤l.length) ?_ ⟨0,rfl,rfl,rfl,by omega⟩
 rintro K m _ hh ⟨i,rfl,e,rfl,hi⟩ hK
 subst hh
 refine PIf.intro (fun hq=>?_) (fun hq=>?_)
 ·have hil:i<l.length:=by simpa using hq
  obtain⟨c,hc⟩: ∃c,l[i]? =some c:=⟨_,List.getElem?_eq_getElem hil⟩
  have hc256:c.toNat<256:=c.toNat_lt
  refine⟨⟨by dsimp only;omega,by dsimp only;omega⟩,?_⟩
  have hlt:=AHr (l.take i)
  dsimp only
  rw[Mk (c:=c) (by rw[Cz];exact hc),wrap_u32,Nat.mod_eq_of_lt (show c.toNat<4294967296 by omega),RS hlt (by omega)]
  have hx:AB6 (l.take i) ^^^ c.toNat<4294967296:=Nat.xor_lt_two_pow (n:=32) hlt (by omega)
  refine Loop.rule (fun m x hh=> ∃k:Nat,x=((AHf k (AB6 (l.take i) ^^^ c.toNat):Int),(k:Int),())∧hh=h∧m=8-k∧k≤8) ?_ ⟨0,rfl,rfl,rfl,by omega⟩
  rintro K1 m1 _ hh ⟨k,rfl,e,rfl,hk⟩ hK1
  subst hh
  refine PIf.intro (fun hq2=>?_) (fun hq2=>?_)
  ·have hk8:k<8:=by simp at hq2;omega
   dsimp only
   rw[AJy (Xo hx k),AR (by omega)]
   exact hK1 (8-(k+1)) _ _ (by omega) ⟨k+1,rfl,rfl,rfl,hk8⟩
  ·have hk8:k=8:=by simp at hq2;omega
   subst hk8
   dsimp only
   rw[AR (by omega)]
   refine hK (l.length-(i+1)) _ _ (by omega) ⟨i+1,?_,rfl,rfl,hil⟩
   rw[List.take_add_one,hc,Option.toList_some,AIy]
   rfl
 ·have hil:i=l.length:=by simp at hq;omega
  have e:l.take i=l:=List.take_of_length_le (by omega)
  dsimp only
  rw[e,ALT (AHr l)]
  exact H
theorem WE(n k:Nat):IntKind.wrap .u8 ((n:Int).fdiv ((2:Int)^k))=(((DU (n / 2^k % 256)).toNat:Nat):Int):=by
 rw[Nh,wrap_u8,ET (Nat.mod_lt _ (by decide))]
theorem AEL {A:Amb}{h:Heap}{n:Nat}{R:Value→Heap→Prop}(H: ∀h',Ext h h'→R (.string (AY (OC n))) h'):AA A P JH #[.int .u32 (n:Int)] h R:=by
 refine AAG ?_
 unfold O6
 refine New.mk fun h1 _ hb x _=>?_
 have e0:IntKind.wrap .u8 (n:Int)=(((DU (n % 256)).toNat:Nat):Int):=by rw[wrap_u8,ET (Nat.mod_lt _ (by decide))]
 rw[WE,WE,WE,e0] at hb
 have o:Own Gc Ci h1 ⟨some ⟨h.size,0,none⟩,4,4⟩ (OC n):=Own.lit (E:=Gc) (l:=OC n) hb rfl (by simp[maxLen,OC])
 exact Jf (s:=⟨some ⟨h.size,0,none⟩,4,4⟩) Ve AIG JY o.view ⟨_,rfl,H _ x⟩
theorem Yd {A:Amb}{h:Heap}{l:List UInt8}{R:Value→Heap→Prop}(hl:l.length≤1099511627776)(H1:1048576<l.length→R (.tuple #[.string ⟨#[]⟩,.int .i64 2]) h)
  (H:l.length≤1048576→ ∀h',Ext h h'→R (.tuple #[.string (AY (CE l)),.int .i64 0]) h'):AA A P Es #[.string (AY l)] h R:=by
 refine AAN ?_
 unfold Ov
 rw[AQ]
 refine PIf.intro (fun hq=>H1 (by simp at hq;omega)) (fun hq=>?_)
 have hlen:l.length≤1048576:=by simp at hq;omega
 have:=Af (n:=l.length) (by omega)
 rw[CU (by omega)]
 refine Fu (by omega) fun h1 x1=>⟨_,rfl,?_⟩
 refine AHw hl ⟨_,rfl,?_⟩
 refine AEL fun h2 x2=>⟨_,rfl,⟨?_,?_,?_⟩⟩
 ·rw [AQ,AQ,max_i64,Iq];omega
 ·rw [CF,AQ,max_i64,List.length_append,Iq];omega
 ·rw [CF,CF]
  exact H hlen _ (x1.trans x2)
theorem AFT {A:Amb}{h:Heap}{l:List UInt8}{R:Value→Heap→Prop}(hl:l.length≤8796093022208)
  (H: ∀h',Ext h h'→R (.tuple #[.string (AY (FM l).2.1),.string (AY (FM l).2.2),.int .i64 ((FM l).1:Int)]) h'):AA A P Ky #[.string (AY l)] h R:=by
 refine AAP ?_
 unfold OM
 rw[AQ]
 have H0:=H h Mod.refl
 refine AHz (by rw[AQ];exact hl) (fun hn=>⟨_,_,_,rfl,?_⟩) (fun n t hn=>⟨_,_,_,rfl,?_⟩)<;>rw[Cz] at hn
 ·have hnx:FM l=if l.length<10∧ ∀c∈l,128≤c.toNat then(20,[],[]) else(21,[],[]):=by unfold FM;rw[hn]
  rw[hnx] at H0
  refine Join.mk fun K hK=>PIf.yes rfl (hK _ _ ?_)
  refine PIf.intro (fun hq=>?_) (fun hq=>?_)
  ·have h10:l.length<10:=by simp at hq;omega
   refine Loop.rule (fun m x hh=> ∃i:Nat,x=((i:Int),())∧hh=h∧m=l.length-i∧i≤l.length∧ ∀c∈l.take i,128≤c.toNat) ?_ ⟨0,rfl,rfl,rfl,by omega,by simp⟩
   rintro K1 m _ hh ⟨i,rfl,e,rfl,hi,hall⟩ hK1
   subst hh
   refine PIf.intro (fun hq2=>?_) (fun hq2=>?_)
   ·have hil:i<l.length:=by simpa using hq2
    obtain⟨c,hc⟩: ∃c,l[i]? =some c:=⟨_,List.getElem?_eq_getElem hil⟩
    refine⟨⟨by dsimp only;omega,by dsimp only;omega⟩,?_⟩
    dsimp only
    rw[Mk (c:=c) (by rw[Cz];exact hc)]
    refine PIf.intro (fun hq3=>?_) (fun hq3=>?_)
    ·rw [if_neg] at H0
     ·exact H0
     ·rintro⟨_,h2⟩
      have:=h2 c (List.mem_of_getElem? hc)
      simp at hq3;omega
    ·rw [AR (by omega)]
     refine hK1 (l.length-(i+1)) _ _ (by omega) ⟨i+1,rfl,rfl,rfl,hil,fun x hx=>?_⟩
     rw[List.take_add_one,hc,Option.toList_some] at hx
     rcases List.mem_append.1 hx with hx|hx
     ·exact hall x hx
     ·simp at hx;subst hx;simp at hq3;omega
   ·have hil:i=l.length:=by simp at hq2;omega
    rw[List.take_of_length_le (by omega)] at hall
    rw[if_pos ⟨h10,hall⟩] at H0
    exact H0
  ·have h10: ¬l.length<10:=by simp at hq;omega
   rw[if_neg (fun hh=>h10 hh.1)] at H0
   refine Join.mk fun K2 hK2=>PIf.yes rfl (hK2 _ _ (PIf.yes rfl H0))
 ·obtain⟨el,hn64⟩:=AHM hn
  have htl:t.length≤8796093022208:=by rw[el] at hl;simp at hl;omega
  have hnx:FM l=if 1048576<n then(21,[],[]) else if t.length<4+n then(20,[],[])
    else if t.take 4=OC (AEV ((t.drop 4).take n)) then(0,(t.drop 4).take n,t.drop (4+n)) else(21,[],[]):=by unfold FM;rw[hn]
  rw[hnx] at H0 H
  refine Join.mk fun K hK=>PIf.no rfl (hK _ _ (PIf.no rfl ?_))
  refine Join.mk fun K2 hK2=>PIf.no rfl (hK2 _ _ ?_)
  refine PIf.intro (fun hq=>?_) (fun hq=>?_)
  ·have h1:1048576<n:=by simp at hq;omega
   rw[if_pos h1] at H0
   exact H0
  have h1: ¬1048576<n:=by simp at hq;omega
  rw[if_neg h1] at H0 H
  rw[AQ]
  refine Join.mk fun K3 hK3=>?_
  have key: ∀bb:Bool,(bb=true↔t.length<4+n)→K3 (bb,()) h:=fun bb hbb=>by
   refine hK3 _ _ ?_
   refine PIf.intro (fun hq=>?_) (fun hq=>?_)
   ·rw [if_pos (hbb.1 hq)] at H0
    exact H0
   have h2: ¬t.length<4+n:=fun hh=>by have hq:bb=false:=hq;rw[hbb.2 hh] at hq;cases hq
   rw[if_neg h2] at H0 H
   have e4:IntKind.wrap .u64 ((4:Int)+(n:Int))=((4+n:Nat):Int):=by rw[show(4:Int)+(n:Int)=((4+n:Nat):Int) by simp];exact CU (by omega)
   rw[e4]
   refine⟨⟨by omega,by omega⟩,⟨by omega,by omega⟩,⟨by omega,by omega⟩,?_⟩
   have eb:(AY t).extract (4:Int).toNat ((4+n:Nat):Int).toNat=AY ((t.drop 4).take n):=by
    rw[show(4:Int).toNat=4 from rfl,Int.toNat_natCast,AJC,List.drop_take];congr 2;omega
   have em:(AY t).extract 0 (4:Int).toNat=AY (t.take 4):=ABA _ _
   have er:(AY t).extract ((4+n:Nat):Int).toNat (AY t).size=AY (t.drop (4+n)):=by rw[Int.toNat_natCast,ABC]
   rw[AQ] at er
   rw[eb,em,er]
   refine AHw (by simp;omega) ⟨_,rfl,?_⟩
   refine AEL fun h2 x2=>⟨_,rfl,?_⟩
   have H2:=H h2 x2
   rw[BZ]
   refine PIf.intro (fun hq=>?_) (fun hq=>?_)
   ·rw [if_neg (by simp[Ni] at hq;exact hq)] at H2
    exact H2
   ·rw [if_pos (by simp[Ni] at hq;exact hq)] at H2
    exact⟨⟨by omega,by omega⟩,H2⟩
  refine PIf.intro (fun hq=>key _ ⟨fun _=>by simp at hq;omega,fun _=>rfl⟩) (fun hq=>key _ ?_)
  have h4:4≤t.length:=by simp at hq;omega
  have e1:IntKind.wrap .u64 (IntKind.wrap .i64 ((t.length:Int)-(4:Int)))=((t.length-4:Nat):Int):=by
   rw[show(t.length:Int)-(4:Int)=((t.length-4:Nat):Int) by omega,Fy (by omega),CU (by omega)]
  rw[e1]
  simp
  omega
end Go.Lf.G

/-
 Contracts: the box (chapter 3): its state in memory; its small methods; Append, Sync, Read, Delete.
-/
set_option maxRecDepth 100000
set_option linter.unusedVariables false
set_option linter.unusedSimpArgs false
namespace Go.Lf.G
open Go
theorem DC.mk {h:Heap}{a:Addr}{K:Option Nat→Prop}{n:Option Nat}(hv:hget h a=some (.map n))(H:K n):DC h a K:=⟨n,hv,H⟩
theorem VA:P.underlying BH=some (.map Ad ADZ):=by kernel_rfl
theorem AA7:(zeroValue ADZ).calc P=some (.pointer none):=by kernel_rfl
abbrev kvM(kv:List (Fi×Nat)):List (ByteArray×Value):=kv.map fun p=>(p.1.name,Aq p.2)
structure Cy (h:Heap) (b r:Nat) (kv:List (Fi×Nat)) (m:Bx):Prop where
 head:h[b]? =some (.cells #[.map (some r),.int .i64 m.fuel,.bool m.down] WT (0,0))
 map:Qy h r (kvM kv)
 cells: ∀p∈kv,h[p.2]? =some (.cells #[.string p.1.firm,.string p.1.soft] Lu (0,0))
 perm:(kv.map (·.1)).Perm m.files
 nodup:(kv.map (·.2)).Nodup
 good:DY m
def FH(b r:Nat)(kv:List (Fi×Nat))(c:Nat):Prop:=c=b∨c=r∨ ∃p∈kv,p.2=c
def BU(h:Heap)(b:Nat)(S:Nat→Prop)(m:Bx):Prop:= ∃r kv,Cy h b r kv m∧ ∀c,S c↔FH b r kv c
theorem Cy.ne_br {h:Heap}{b r:Nat}{kv:List (Fi×Nat)}{m:Bx}(B:Cy h b r kv m):r≠b:=by
 rintro rfl
 obtain⟨es,cl,hr,_⟩:=B.map
 rw[B.head] at hr;cases hr
theorem Cy.ne_pb {h:Heap}{b r:Nat}{kv:List (Fi×Nat)}{m:Bx}(B:Cy h b r kv m){p:Fi×Nat}(hp:p∈kv):p.2≠b∧p.2≠r:=by
 have h1:=B.cells p hp
 constructor
 ·intro e;rw[e,B.head] at h1;cases h1
 ·intro e
  obtain⟨es,cl,hr,_⟩:=B.map
  rw[e,hr] at h1;cases h1
theorem Cy.lt {h:Heap}{b r:Nat}{kv:List (Fi×Nat)}{m:Bx}(B:Cy h b r kv m){c:Nat}(hc:FH b r kv c):c<h.size:=by
 rcases hc with rfl|rfl|⟨p,hp,rfl⟩
 ·exact Ah B.head
 ·exact B.map.lt
 ·exact Ah (B.cells p hp)
theorem BU.lt {h:Heap}{b:Nat}{S:Nat→Prop}{m:Bx}(B:BU h b S m){c:Nat}(hc:S c):c<h.size:=by
 obtain⟨r,kv,B,hS⟩:=B
 exact B.lt ((hS c).1 hc)
theorem BU.good {h:Heap}{b:Nat}{S:Nat→Prop}{m:Bx}(B:BU h b S m):DY m:=by
 obtain⟨r,kv,B,hS⟩:=B;exact B.good
theorem Cy.mod {h h':Heap}{b r:Nat}{kv:List (Fi×Nat)}{m:Bx}{T:Nat→Prop}(B:Cy h b r kv m)(x:Mod T h h')(hT: ∀c,FH b r kv c→ ¬T c):Cy h' b r kv m:=
 ⟨x.blk B.head (hT _ (.inl rfl)),B.map.mod x (hT _ (.inr (.inl rfl))),fun p hp=>x.blk (B.cells p hp) (hT _ (.inr (.inr ⟨p,hp,rfl⟩))),B.perm,B.nodup,B.good⟩
theorem BU.mod {h h':Heap}{b:Nat}{S T:Nat→Prop}{m:Bx}(B:BU h b S m)(x:Mod T h h')(hT: ∀c,S c→ ¬T c):BU h' b S m:=by
 obtain⟨r,kv,B,hS⟩:=B
 exact⟨r,kv,B.mod x fun c hc=>hT c ((hS c).2 hc),hS⟩
theorem BU.ext {h h':Heap}{b:Nat}{S:Nat→Prop}{m:Bx}(B:BU h b S m)(x:Ext h h'):BU h' b S m:=B.mod x fun _ _ h=>h
theorem Cy.hd {h h':Heap}{b r:Nat}{kv:List (Fi×Nat)}{m m':Bx}(B:Cy h b r kv m)(hb:h'[b]? =some (.cells #[.map (some r),.int .i64 m'.fuel,.bool m'.down] WT (0,0)))(x:Mod (· =b) h h')(hf:m'.files=m.files)(g:DY m'):Cy h' b r kv m':=
 ⟨hb,B.map.mod x B.ne_br,fun p hp=>x.blk (B.cells p hp) (B.ne_pb hp).1,by rw[hf];exact B.perm,B.nodup,g⟩
theorem AHb(k:ByteArray): ∀kv:List (Fi×Nat),PO k (kvM kv)=(kv.find? fun p=>decide (p.1.name=k)).map fun p=>Aq p.2
 | []=>rfl
 |p::kv=>by
  show PO k ((p.1.name,Aq p.2)::kvM kv)=_
  rw[MO,AHb k kv,List.find?_cons]
  by_cases h:p.1.name=k<;>simp[h]
theorem Cy.mem {h:Heap}{b r:Nat}{kv:List (Fi×Nat)}{m:Bx}(B:Cy h b r kv m){f:Fi}:f∈m.files↔ ∃c,(f,c)∈kv:=by
 rw[← B.perm.mem_iff]
 constructor
 ·intro h;obtain⟨p,hp,rfl⟩:=List.mem_map.1 h;exact⟨p.2,hp⟩
 ·rintro⟨c,hc⟩;exact List.mem_map.2 ⟨_,hc,rfl⟩
theorem Cy.look {h:Heap}{b r:Nat}{kv:List (Fi×Nat)}{m:Bx}(B:Cy h b r kv m)(k:ByteArray):
  (PO k (kvM kv)=none∧BR k m.files=none)∨ ∃p∈kv,PO k (kvM kv)=some (Aq p.2)∧BR k m.files=some p.1∧p.1.name=k:=by
 rw[AHb]
 cases hf:kv.find? fun p=>decide (p.1.name=k) with
 |none=>
  refine .inl ⟨rfl,QX fun f hm=>?_⟩
  obtain⟨c,hc⟩:=B.mem.1 hm
  rw[List.find?_eq_none] at hf
  simpa using hf _ hc
 |some p=>
  have h1:p.1.name=k:=by simpa using List.find?_some hf
  have h2:=List.mem_of_find?_eq_some hf
  refine .inr ⟨p,h2,rfl,?_,h1⟩
  rw[← h1]
  exact B.good.sorted.find (B.mem.2 ⟨p.2,h2⟩)
theorem Dn.uniq {l:List Fi}(s:Dn l){x y:Fi}(hx:x∈l)(hy:y∈l)(h:x.name=y.name):x=y:=by
 have h1:=s.find hx
 rw[h,s.find hy] at h1
 exact(Option.some.inj h1).symm
theorem ADd {kv:List (Fi×Nat)}{l:List Fi}(p:(kv.map (·.1)).Perm l)(s:Dn l):(kv.map fun q=>q.1.name).Nodup:=by
 have h1:(l.map (·.name)).Nodup:=by
  refine List.pairwise_map.2 (s.imp fun h=>Ko h)
 have h2:(kv.map fun q=>q.1.name).Perm (l.map (·.name)):=by
  have:=p.map (·.name)
  simpa [List.map_map,Function.comp_def] using this
 exact(h2.nodup_iff).2 h1
theorem Cy.inj {h:Heap}{b r:Nat}{kv:List (Fi×Nat)}{m:Bx}(B:Cy h b r kv m){p q:Fi×Nat}(hp:p∈kv)(hq:q∈kv)(e:p.1.name=q.1.name):p=q:=by
 have hn:=ADd B.perm B.good.sorted
 obtain⟨i,hi,rfl⟩:=List.getElem_of_mem hp
 obtain⟨j,hj,rfl⟩:=List.getElem_of_mem hq
 have:i=j:=by
  have hi':i<(kv.map fun q=>q.1.name).length:=by simpa using hi
  have hj':j<(kv.map fun q=>q.1.name).length:=by simpa using hj
  refine(List.getElem_inj (h₀:=hi') (h₁:=hj') hn).1 ?_
  simpa using e
 subst this;rfl
theorem Cy.set {h h':Heap}{b r:Nat}{kv:List (Fi×Nat)}{m:Bx}(B:Cy h b r kv m){p:Fi×Nat}(hp:p∈kv){g:Fi→Fi}(hg: ∀f,(g f).name=f.name)
  (hc:h'[p.2]? =some (.cells #[.string (g p.1).firm,.string (g p.1).soft] Lu (0,0))) (x:Mod (· =p.2) h h') (gd:DY {m with files:=NA p.1.name g m.files}):
  Cy h' b r (kv.map fun q=>(if q.1.name=p.1.name then g q.1 else q.1,q.2)) {m with files:=NA p.1.name g m.files}:=by
 refine⟨x.blk B.head (B.ne_pb hp).1.symm,?_,?_,?_,?_,gd⟩
 ·have e:kvM (kv.map fun q=>(if q.1.name=p.1.name then g q.1 else q.1,q.2))=kvM kv:=by
   simp only[kvM,List.map_map]
   refine List.map_congr_left fun q _=>?_
   simp only[Function.comp]
   split<;>simp[hg]
  rw[e]
  exact B.map.mod x (B.ne_pb hp).2.symm
 ·intro q hq
  obtain⟨q',hq',rfl⟩:=List.mem_map.1 hq
  simp only
  by_cases e:q'.1.name=p.1.name
  ·rw [if_pos e]
   have:=B.inj hq' hp e
   subst this
   exact hc
  ·rw [if_neg e]
   refine x.blk (B.cells q' hq') fun e2=>e ?_
   have hn:=B.nodup
   obtain⟨i,hi,rfl⟩:=List.getElem_of_mem hp
   obtain⟨j,hj,rfl⟩:=List.getElem_of_mem hq'
   have:j=i:=by
    have hi':i<(kv.map (·.2)).length:=by simpa using hi
    have hj':j<(kv.map (·.2)).length:=by simpa using hj
    refine(List.getElem_inj (h₀:=hj') (h₁:=hi') hn).1 ?_
    simpa using e2
   subst this;rfl
 ·have h1:=B.perm.map fun f=>if f.name=p.1.name then g f else f
  simpa [NA,List.map_map,Function.comp_def] using h1
 ·simpa [List.map_map,Function.comp_def] using B.nodup
theorem AEv {b r:Nat}{kv:List (Fi×Nat)}{g:Fi×Nat→Fi}(c:Nat):FH b r (kv.map fun q=>(g q,q.2)) c↔FH b r kv c:=by
 unfold FH
 constructor
 ·rintro(h|h|⟨p,hp,rfl⟩)
  ·exact .inl h
  ·exact .inr (.inl h)
  ·obtain⟨q,hq,rfl⟩:=List.mem_map.1 hp
   exact .inr (.inr ⟨q,hq,rfl⟩)
 ·rintro(h|h|⟨p,hp,rfl⟩)
  ·exact .inl h
  ·exact .inr (.inl h)
  ·exact .inr (.inr ⟨_,List.mem_map.2 ⟨p,hp,rfl⟩,rfl⟩)
theorem YH {k:ByteArray}{v:Value}: ∀ {m:List (ByteArray×Value)},PO k m=none→V6 k v m=m++ [(k,v)]
 | [],_=>rfl
 |p::m,h=>by
  rw[MO] at h
  split at h
  ·cases h
  ·rename_i hk
   unfold V6
   rw[if_neg hk,YH h];rfl
theorem ZG {A:Amb}{h:Heap}{b:Nat}{c0 c1:Value}{down:Bool}{T:TypeId}{R:Value→Heap→Prop}(hb:h[b]? =some (.cells #[c0,c1,.bool down] T (0,0)))(H:R (.bool down) h):
  AA A P EP #[Aq b] h R:=by
 refine Ze ?_
 unfold NI
 exact PIf.no rfl (atI (Ab.mk (AB hb rfl) H))
theorem AKI {A:Amb}{h:Heap}{name:ByteArray}{R:Value→Heap→Prop}(H:R (.bool (JP name)) h):AA A P Mj #[.string name] h R:=by
 refine ADV ?_
 unfold Qt
 unfold JP at H
 rw[BZ]
 refine PIf.intro (fun hq=>?_) (fun hq=>?_)
 ·rw [hq] at H;exact H
 ·rw [hq] at H
  have e:decide ((name.size:Int)>(32:Int))=decide (name.size>32):=by rw[decide_eq_decide];omega
  rw[e];simpa using H
def AHl(fuel:Int):Int:=if fuel>0 then fuel-1 else fuel
theorem ALF {A:Amb}{h:Heap}{b:Nat}{c0:Value}{fuel:Int}{down:Bool}{T:TypeId}{R:Value→Heap→Prop}(hb:h[b]? =some (.cells #[c0,.int .i64 fuel,.bool down] T (0,0)))(lo: -1≤fuel)(hi:fuel≤9223372036854775807)
  (H1:fuel=0→ ∀h',h'[b]? =some (.cells #[c0,.int .i64 fuel,.bool true] T (0,0))→Mod (· =b) h h'→h'.size=h.size→R (.bool false) h')
  (H2:fuel≠0→ ∀h',h'[b]? =some (.cells #[c0,.int .i64 (AHl fuel),.bool down] T (0,0))→Mod (· =b) h h'→h'.size=h.size→R (.bool true) h'):AA A P EX #[Aq b] h R:=by
 refine XE ?_
 unfold MN
 refine atI (Aa.mk (AB hb rfl) ?_)
 refine PIf.intro (fun hq=>?_) (fun hq=>?_)
 ·refine atI (Store.mk1 hb (by simp) fun h1 hb1 m1 hs1=>?_)
  exact H1 (by simpa using hq) h1 (by simpa using hb1) m1 hs1
 ·have hq:fuel≠0:=by simpa using hq
  have H2:=H2 hq
  unfold AHl at H2
  refine Join.mk fun K hK=>?_
  refine atI (Aa.mk (AB hb rfl) ?_)
  refine PIf.intro (fun hq=>?_) (fun hq=>?_)
  ·have hp:fuel>0:=by simpa using hq
   rw[if_pos hp] at H2
   refine atI (Aa.mk (AB hb rfl) (atI (Store.mk1 hb (by simp) fun h1 hb1 m1 hs1=>hK _ _ ?_)))
   rw[wrap_i64 (by omega) (by omega)] at hb1
   exact H2 h1 (by simpa using hb1) m1 hs1
  ·have hp: ¬fuel>0:=by simpa using hq
   rw[if_neg hp] at H2
   exact hK _ _ (H2 h hb Mod.refl rfl)
theorem IC(m:Bx):(FX m).fuel=AHl m.fuel∧(FX m).down=m.down∧(FX m).files=m.files:=by
 unfold FX AHl;split<;>simp
theorem AGD {m:Bx}(g:DY m):DY (FX m):=by
 have:=g.tick m.files g.sorted g.names g.wt
 rwa [← (IC m).2.2] at this
theorem Cy.burn {A:Amb}{h:Heap}{b r:Nat}{kv:List (Fi×Nat)}{m:Bx}(B:Cy h b r kv m){R:Value→Heap→Prop}
  (H1:m.fuel=0→ ∀h',Cy h' b r kv (JU m)→Mod (FH b r kv) h h'→R (.bool false) h')
  (H2:m.fuel≠0→ ∀h',Cy h' b r kv (FX m)→Mod (FH b r kv) h h'→h'.size=h.size→R (.bool true) h'):AA A P EX #[Aq b] h R:=by
 refine ALF B.head B.good.lo B.good.hi (fun hz h1 hb1 m1 hs1=>?_) (fun hz h1 hb1 m1 hs1=>?_)
 ·exact H1 hz h1 (B.hd hb1 m1 rfl B.good.off) (m1.weak fun c _ hc=> .inl hc)
 ·obtain⟨e1,e2,e3⟩:=IC m
  refine H2 hz h1 (B.hd ?_ m1 e3 (AGD B.good)) (m1.weak fun c _ hc=> .inl hc) hs1
  rw[e1,e2];exact hb1
theorem Cy.putSoft {h:Heap}{b r:Nat}{kv:List (Fi×Nat)}{m:Bx}(B:Cy h b r kv m){p:Fi×Nat}(hp:p∈kv){data:ByteArray}(gd:DY {m with files:=NA p.1.name (OZ data) m.files}){K:Heap→Prop}
  (H: ∀h' kv',Cy h' b r kv' {m with files:=NA p.1.name (OZ data) m.files}→Mod (FH b r kv) h h'→(∀ c,FH b r kv' c↔FH b r kv c)→K h'):
  At (some ⟨p.2,0,none⟩) fun a1=>AL h (a1.add 1) fun t=>Chk (((t.size+data.size:Nat):Int)≤IntKind.i64.max)<|At (some ⟨p.2,0,none⟩) fun a2=>Store h (a2.add 1) (.string (t++data)) K:=by
 have hc:=B.cells p hp
 refine atI (AL.mk (AB hc rfl) ⟨?_,atI (Store.mk1 hc (by simp) fun h1 hb1 m1 hs1=>?_)⟩)
 ·have h1:wtF (NA p.1.name (OZ data) m.files)≤8796093022208:=gd.wt
  have h2:OZ data p.1∈NA p.1.name (OZ data) m.files:=by
   refine List.mem_map.2 ⟨p.1,B.mem.2 ⟨p.2,hp⟩,by simp⟩
  have h3:=Tv h2
  simp only[OZ,AFV] at h3
  simp[IntKind.max,IntKind.bits,IntKind.signed]
  omega
 ·exact H h1 _ (B.set hp (g:=OZ data) (fun _=>rfl) (by simpa [OZ] using hb1) m1 gd) (m1.weak fun c _ hc=> .inr (.inr ⟨p,hp,hc.symm⟩)) (fun c=>AEv (g:=fun q=>if q.1.name=p.1.name then OZ data q.1 else q.1) c)
theorem Zz {A:Amb}{h:Heap}{b:Nat}{S:Nat→Prop}{m:Bx}{name data:ByteArray}{R:Value→Heap→Prop}(B:BU h b S m)(hw:wtF m.files+data.size+1≤8796093022208)
  (H: ∀h' S',BU h' b S' (Cm m name data).2→Mod S h h'→(∀ c,S' c→S c∨h.size≤c)→R (.int .i64 (Cm m name data).1) h'):AA A P Fa #[Aq b,.string name,.string data] h R:=by
 have hgood:=B.good.append (name:=name) (data:=data) hw
 obtain⟨r,kv,B,hS⟩:=B
 refine VB ?_
 unfold Jo
 refine ZG B.head ⟨_,rfl,?_⟩
 unfold Cm at H hgood
 refine PIf.intro (fun hd=>?_) (fun hd=>?_)
 ·rw [if_pos hd] at H;exact H h S ⟨r,kv,B,hS⟩ Mod.refl (fun c hc=> .inl hc)
 rw[if_neg (by simp[hd])] at H hgood
 refine AKI ⟨_,rfl,?_⟩
 refine PIf.intro (fun hn=>?_) (fun hn=>?_)
 ·rw [if_pos hn] at H;exact H h S ⟨r,kv,B,hS⟩ Mod.refl (fun c hc=> .inl hc)
 rw[if_neg (by simp[hn])] at H hgood
 have hmS: ∀ {h1:Heap},Mod (FH b r kv) h h1→Mod S h h1:=fun m1=>m1.weak fun c _ hc=>(hS c).2 hc
 refine B.burn (fun hz h1 B1 m1=>⟨_,rfl,?_⟩) (fun hz h1 B1 m1 hs1=>⟨_,rfl,?_⟩)
 ·rw [if_pos hz] at H
  exact PIf.yes rfl (H h1 S ⟨r,kv,B1,hS⟩ (hmS m1) (fun c hc=> .inl hc))
 rw[if_neg hz] at H hgood
 refine PIf.no rfl ?_
 refine atI (DC.mk (AC B1.head rfl) (LQ VA JY AA7 B1.map ?_))
 rcases B1.look name with⟨k1,k2⟩|⟨p,hp,k1,k2,k3⟩
 ·
  rw[k1]
  refine⟨none,rfl,Join.mk fun K hK=>PIf.yes rfl ?_⟩
  refine New.mk fun h2 _ hb2 x2 hs2=>?_
  have B2:=B1.mod x2 (fun _ _ h=>h)
  refine atI (DC.mk (AC B2.head rfl) ?_)
  have hsz:name.size≤32:=by simp[JP] at hn;omega
  have hlen:=Ou (FX m).files
  have hkl:kv.length=(FX m).files.length:=by rw[← B1.perm.length_eq];simp
  rw[(IC m).2.2] at hkl
  have hl2:=Ou m.files
  refine ABd VA JY B2.map (by simp[maxLen];omega) (by simp[kvM,maxLen];omega) fun h3 M3 m3 hs3=>?_
  rw[YH k1] at M3
  have hb3:=m3.blk hb2 (by have:=B1.map.lt;omega)
  have kf:=k2
  rw[(IC m).2.2] at kf
  have hhave:QC name m.files=Zp ⟨name,bs0,bs0⟩ m.files:=by unfold QC;rw[kf];rfl
  have hn2:=ME kf
  have hws:=AGz ⟨name,bs0,bs0⟩ m.files
  simp only[sz0] at hws
  have B3:Cy h3 b r (kv++ [(⟨name,bs0,bs0⟩,h1.size)]) {FX m with files:=Zp ⟨name,bs0,bs0⟩ m.files}:=by
   refine⟨m3.blk B2.head B2.ne_br.symm,?_,?_,?_,?_,?_⟩
   ·rw [kvM,List.map_append];exact M3
   ·intro p hp
    rcases List.mem_append.1 hp with hp|hp
    ·exact m3.blk (B2.cells p hp) (B2.ne_pb hp).2
    ·simp at hp;subst hp;exact hb3
   ·rw [List.map_append]
    refine(List.perm_append_singleton _ _).trans (((B1.perm.trans (List.Perm.of_eq (IC m).2.2)).cons _).trans (LX _ _).symm)
   ·rw [List.map_append]
    refine List.nodup_append.2 ⟨B1.nodup,by simp,?_⟩
    intro a ha c hc
    obtain⟨p,hp,rfl⟩:=List.mem_map.1 ha
    simp at hc;subst hc
    have:=Ah (B1.cells p hp);omega
   ·refine B.good.tick _ (P6 B.good.sorted hn2) (fun f hf=>?_) (by omega)
    rcases List.mem_cons.1 ((LX _ _).subset hf) with rfl|hf
    ·exact hsz
    ·exact B.good.names f hf
  refine hK _ _ ?_
  rw[hhave] at H hgood
  refine B3.putSoft (p:=(⟨name,bs0,bs0⟩,h1.size)) (by simp) (data:=data) hgood fun h4 kv4 B4 m4 e4=>?_
  have hf4: ∀c,FH b r kv4 c→FH b r kv c∨h.size≤c:=fun c hc=>by
   rcases(e4 c).1 hc with h|h|⟨p,hp,rfl⟩
   ·exact .inl (.inl h)
   ·exact .inl (.inr (.inl h))
   ·rcases List.mem_append.1 hp with hp|hp
    ·exact .inl (.inr (.inr ⟨p,hp,rfl⟩))
    ·simp at hp;subst hp;exact .inr (by have:=m1.size;simpa using this)
  refine H h4 (FH b r kv4) ⟨r,kv4,B4,fun _=>Iff.rfl⟩ ?_ (fun c hc=>(hf4 c hc).imp (hS c).2 id)
  have m13:Mod (FH b r kv) h1 h3:=x2.mod.trans (m3.weak fun c _ hc=> .inr (.inl hc))
  refine hmS ((m1.trans m13).then (m4.weak fun c _ hc=>hf4 c ((e4 c).2 hc)))
 ·
  rw[k1]
  refine⟨some ⟨p.2,0,none⟩,rfl,Join.mk fun K hK=>PIf.no rfl (hK _ _ ?_)⟩
  have kf:=k2
  rw[(IC m).2.2] at kf
  have hhave:QC name m.files=m.files:=by unfold QC;rw[kf];rfl
  rw[hhave] at H hgood
  subst k3
  have e3:=(IC m).2.2
  refine B1.putSoft hp (data:=data) (by rw[e3];exact hgood) fun h4 kv4 B4 m4 e4=>?_
  refine H h4 S ⟨r,kv4,by rw[e3] at B4;exact B4,fun c=>(hS c).trans (e4 c).symm⟩ (hmS (m1.trans m4)) (fun c hc=> .inl hc)
theorem AE9 {A:Amb}{h:Heap}{b:Nat}{S:Nat→Prop}{m:Bx}{name:ByteArray}{R:Value→Heap→Prop}(B:BU h b S m)
  (H: ∀h',BU h' b S (Eu m name).2→Mod S h h'→R (.int .i64 (Eu m name).1) h'):AA A P Gr #[Aq b,.string name] h R:=by
 have hgood:=B.good.sync (name:=name)
 obtain⟨r,kv,B,hS⟩:=B
 refine XU ?_
 unfold MI
 refine ZG B.head ⟨_,rfl,?_⟩
 unfold Eu at H hgood
 have hmS: ∀ {h1:Heap},Mod (FH b r kv) h h1→Mod S h h1:=fun m1=>m1.weak fun c _ hc=>(hS c).2 hc
 refine PIf.intro (fun hd=>?_) (fun hd=>?_)
 ·rw [if_pos hd] at H;exact H h ⟨r,kv,B,hS⟩ Mod.refl
 rw[if_neg (by simp[hd])] at H hgood
 refine atI (DC.mk (AC B.head rfl) (LQ VA JY AA7 B.map ?_))
 rcases B.look name with⟨k1,k2⟩|⟨p,hp,k1,k2,k3⟩
 ·rw [k1]
  rw[k2] at H
  exact⟨none,rfl,PIf.yes rfl (H h ⟨r,kv,B,hS⟩ Mod.refl)⟩
 rw[k1]
 rw[k2,if_neg (by simp)] at H hgood
 refine⟨some ⟨p.2,0,none⟩,rfl,PIf.no rfl ?_⟩
 refine B.burn (fun hz h1 B1 m1=>⟨_,rfl,?_⟩) (fun hz h1 B1 m1 hs1=>⟨_,rfl,?_⟩)
 ·rw [if_pos hz] at H
  exact PIf.yes rfl (H h1 ⟨r,kv,B1,hS⟩ (hmS m1))
 rw[if_neg hz] at H hgood
 refine PIf.no rfl ?_
 refine atI (DC.mk (AC B1.head rfl) (LQ VA JY AA7 B1.map ?_))
 rw[k1]
 refine⟨some ⟨p.2,0,none⟩,rfl,?_⟩
 have hc:=B1.cells p hp
 refine atI (AL.mk (AC hc rfl) (atI (AL.mk (AB hc rfl) ⟨?_,?_⟩)))
 ·have h3:=Tv (Gz k2).2
  have:=B.good.wt
  simp[IntKind.max,IntKind.bits,IntKind.signed];omega
 refine atI (Store.mk hc (by simp) fun h2 hb2 m2 hs2=>atI (Store.mk1 hb2 (by simp) fun h3 hb3 m3 hs3=>?_))
 subst k3
 have e3:=(IC m).2.2
 have B3:=B1.set hp (h':=h3) (g:=PQ) (fun _=>rfl) (by simpa [PQ] using hb3) (m2.trans m3) (by rw[e3];exact hgood)
 rw[e3] at B3
 refine H h3 ⟨r,_,B3,fun c=>(hS c).trans (AEv (g:=fun q=>if q.1.name=p.1.name then PQ q.1 else q.1) c).symm⟩ (hmS (m1.trans ((m2.trans m3).weak fun c _ hc=> .inr (.inr ⟨p,hp,hc.symm⟩))))
theorem YF {A:Amb}{h:Heap}{b:Nat}{S:Nat→Prop}{m:Bx}{name:ByteArray}{R:Value→Heap→Prop}(B:BU h b S m)
  (H:R (.tuple #[.string (Qz m name).1,.int .i64 (Qz m name).2]) h):AA A P FV #[Aq b,.string name] h R:=by
 obtain⟨r,kv,B,hS⟩:=B
 refine XL ?_
 unfold MK
 refine ZG B.head ⟨_,rfl,?_⟩
 unfold Qz at H
 refine PIf.intro (fun hd=>?_) (fun hd=>?_)
 ·rw [if_pos hd] at H;exact H
 rw[if_neg (by simp[hd])] at H
 refine atI (DC.mk (AC B.head rfl) (LQ VA JY AA7 B.map ?_))
 rcases B.look name with⟨k1,k2⟩|⟨p,hp,k1,k2,k3⟩
 ·rw [k1]
  rw[k2] at H
  exact⟨none,rfl,PIf.yes rfl H⟩
 rw[k1]
 rw[k2] at H
 refine⟨some ⟨p.2,0,none⟩,rfl,PIf.no rfl ?_⟩
 have hc:=B.cells p hp
 refine atI (AL.mk (AC hc rfl) (atI (AL.mk (AB hc rfl) ⟨?_,H⟩)))
 have h3:=Tv (Gz k2).2
 have:=B.good.wt
 simp[IntKind.max,IntKind.bits,IntKind.signed];omega
theorem ALo(k:ByteArray)(kv:List (Fi×Nat)):ACH k (kvM kv)=kvM (kv.filter fun p=> !decide (p.1.name=k)):=by
 unfold ACH kvM
 rw[List.filter_map];rfl
theorem Sq {A:Amb}{h:Heap}{b:Nat}{S:Nat→Prop}{m:Bx}{name:ByteArray}{R:Value→Heap→Prop}(B:BU h b S m)
  (H: ∀h' S',BU h' b S' (FI m name).2→Mod S h h'→(∀ c,S' c→S c)→R (.int .i64 (FI m name).1) h'):AA A P EU #[Aq b,.string name] h R:=by
 have hgood:=B.good.delete (name:=name)
 obtain⟨r,kv,B,hS⟩:=B
 refine UN ?_
 unfold Jl
 refine ZG B.head ⟨_,rfl,?_⟩
 unfold FI at H hgood
 have hmS: ∀ {h1:Heap},Mod (FH b r kv) h h1→Mod S h h1:=fun m1=>m1.weak fun c _ hc=>(hS c).2 hc
 refine PIf.intro (fun hd=>?_) (fun hd=>?_)
 ·rw [if_pos hd] at H;exact H h S ⟨r,kv,B,hS⟩ Mod.refl (fun _ h=>h)
 rw[if_neg (by simp[hd])] at H hgood
 refine atI (DC.mk (AC B.head rfl) (LQ VA JY AA7 B.map ?_))
 rcases B.look name with⟨k1,k2⟩|⟨p,hp,k1,k2,k3⟩
 ·rw [k1]
  rw[k2] at H
  exact⟨none,rfl,PIf.yes rfl (H h S ⟨r,kv,B,hS⟩ Mod.refl (fun _ h=>h))⟩
 rw[k1]
 rw[k2,if_neg (by simp)] at H hgood
 refine⟨some ⟨p.2,0,none⟩,rfl,PIf.no rfl ?_⟩
 refine B.burn (fun hz h1 B1 m1=>⟨_,rfl,?_⟩) (fun hz h1 B1 m1 hs1=>⟨_,rfl,?_⟩)
 ·rw [if_pos hz] at H
  exact PIf.yes rfl (H h1 S ⟨r,kv,B1,hS⟩ (hmS m1) (fun _ h=>h))
 rw[if_neg hz] at H hgood
 refine PIf.no rfl ?_
 refine atI (DC.mk (AC B1.head rfl) (AH4 VA JY B1.map fun h2 M2 m2 hs2=>⟨rfl,?_⟩))
 rw[ALo] at M2
 have e3:=(IC m).2.2
 have B2:Cy h2 b r (kv.filter fun p=> !decide (p.1.name=name)) {FX m with files:=NE name m.files}:=by
  refine⟨m2.blk B1.head B1.ne_br.symm,M2,fun q hq=>?_,?_,?_,hgood⟩
  ·have hq:=(List.mem_filter.1 hq).1
   exact m2.blk (B1.cells q hq) (B1.ne_pb hq).2
  ·have h1:=B.perm.filter fun f=> !decide (f.name=name)
   rw[List.filter_map] at h1
   exact h1
  ·exact(List.filter_sublist.map _).nodup B.nodup
 refine H h2 (FH b r _) ⟨r,_,B2,fun _=>Iff.rfl⟩ (hmS (m1.trans (m2.weak fun c _ hc=> .inr (.inl hc)))) (fun c hc=>(hS c).2 ?_)
 rcases hc with h|h|⟨p,hp,rfl⟩
 ·exact .inl h
 ·exact .inr (.inl h)
 ·exact .inr (.inr ⟨p,(List.mem_filter.1 hp).1,rfl⟩)
theorem OU {A:Amb}{h:Heap}{R:Value→Heap→Prop}(H: ∀b h' S,BU h' b S AGW→Ext h h'→(∀ c,S c→h.size≤c)→R (Aq b) h'):AA A P GK #[] h R:=by
 refine AGf ?_
 unfold V3
 refine New.mk fun h1 _ hb1 x1 hs1=>New.mk fun h2 _ hb2 x2 hs2=>?_
 refine H _ h2 (FH h1.size h.size []) ⟨_,[],⟨hb2,Qy.empty (x2.blk hb1 (by simp)),by simp,List.Perm.refl _,by simp,AIN⟩,fun _=>Iff.rfl⟩ (x1.trans x2) ?_
 rintro c (rfl|rfl|⟨p,hp,_⟩)
 ·omega
 ·exact Nat.le_refl _
 ·cases hp
end Go.Lf.G

