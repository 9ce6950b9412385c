/-
 The law LeaseFences as a formula.
-/
import Derived.Test.YtdmlhpjdmgaggaaGreatDoorLfG1
set_option linter.unusedVariables false
set_option linter.unusedSimpArgs false
set_option linter.unusedVariables false
set_option maxRecDepth 100000
namespace Go.Lf.G
open Go
def El(A:Amb)(order:Sl)(shard:Int)(h:Heap)(R:Value→Heap→Prop):Prop:=
 AA A P DN #[] h fun v h1=> ∃t18:Bool,v= .bool t18∧(
 PIf (!t18) (
 R (.bool false) h1) (
 PIf (decide (((order.len:Nat):Int)>(60:Int))) (
 R (.bool true) h1) (
 AA A P GK #[] h1 fun v1 h2=> ∃t28:Option Addr,v1= .pointer t28∧(
 AA A P EE #[.pointer t28] h2 fun v2 h3=> ∃t29a:Option Addr,∃t29b:Int,v2= .tuple #[.pointer t29a,.int .i64 t29b]∧(
 New h3 (.cells #[.pointer none,.pointer none,.pointer none,.pointer none] Dh) fun b h4=>
 Loop (fun K (s:Int×Unit) h5=>
 PIf (decide (s.1<(4:Int))) (
 New h5 (.cells #[.int .u8 (IntKind.wrap .u8 (IntKind.wrap .i64 ((48:Int)+s.1)))] Ci) fun b1 h6=>
 BK A P (convert CO Ad (.slice (some (⟨b1,0,none⟩:Addr)) 1 1)) h6 fun v3 h7=> ∃t42:ByteArray,v3= .string t42∧(
 Chk ((((⟨#[104]⟩:ByteArray).size+t42.size:Nat):Int)≤IntKind.i64.max)<|
 AA A P Dr #[.pointer t29a,.string ((⟨#[104]⟩:ByteArray)++t42),.int .i64 4] h7 fun v4 h8=> ∃t44a:Option Addr,∃t44b:Int,v4= .tuple #[.pointer t44a,.int .i64 t44b]∧(
 Chk ((0:Int)≤s.1∧s.1<(4:Int))<|
 Store h8 ((⟨b,0,none⟩:Addr).add ((s.1:Int).toNat*1)) (.pointer t44a) fun h9=>
 K ((IntKind.wrap .i64 (s.1+(1:Int))),()) h9))) (
 Loop (fun K1 (s1:Int×Int×Unit) h10=>
 PIf (decide (s1.2.1<((order.len:Nat):Int))) (
 Idx order.p order.len s1.2.1 fun a=>
 Aa .i64 h10 (a.add (s1.2.1.toNat*1)) fun t55=>
 Join (fun(s2:Int×Unit) h11=>
 Loop (fun K3 (s3:Int×Unit) h12=>
 PIf (decide (s3.1<(4:Int))) (
 New h12 (.cells #[.int .u8 (IntKind.wrap .u8 s3.1)] Ci) fun b2 h13=>
 BK A P (convert CO Ad (.slice (some (⟨b2,0,none⟩:Addr)) 1 1)) h13 fun v5 h14=> ∃t81:ByteArray,v5= .string t81∧(
 Chk ((((⟨#[107]⟩:ByteArray).size+t81.size:Nat):Int)≤IntKind.i64.max)<|
 Chk ((0:Int)≤s3.1∧s3.1<(4:Int))<|
 AP h14 ((⟨b,0,none⟩:Addr).add ((s3.1:Int).toNat*1)) fun t85=>
 New h14 (.cells #[.int .u8 (IntKind.wrap .u8 s1.2.1)] Ci) fun b3 h15=>
 And (hget h15 ((⟨b,0,none⟩:Addr).add ((s3.1:Int).toNat*1))=some (.pointer t85))<|
 BK A P (convert CO Ad (.slice (some (⟨b3,0,none⟩:Addr)) 1 1)) h15 fun v6 h16=> ∃t91:ByteArray,v6= .string t91∧(
 And (hget h16 ((⟨b,0,none⟩:Addr).add ((s3.1:Int).toNat*1))=some (.pointer t85))<|
 New h16 (.cells #[.string ((⟨#[107]⟩:ByteArray)++t81),.string t91,.bool false] AO) fun b4 h17=>
 And (hget h17 ((⟨b,0,none⟩:Addr).add ((s3.1:Int).toNat*1))=some (.pointer t85))<|
 AA A P ED #[.pointer t85,.int .i64 ((IntKind.wrap .i64 ((shard.tmod (4:Int))+(4:Int))).tmod (4:Int)),.slice none 0 0,.slice (some (⟨b4,0,none⟩:Addr)) 1 1] h17 fun v7 h18=> ∃t94:Int,v7= .int .i64 t94∧(
 Join (fun(r:Bool×Unit) h19=>
 PIf r.1 (
 R (.bool false) h19) (
 K3 ((IntKind.wrap .i64 (s3.1+(1:Int))),()) h19)) fun K4=>
 PIf (!((t94==(0:Int))==(s3.1==s2.1))) (
 K4 (true,()) h18) (
 PIf (t94 != (0:Int)) (
 PIf (t94 != (170:Int)) (
 K4 (true,()) h18) (
 Chk ((0:Int)≤s3.1∧s3.1<(4:Int))<|
 AP h18 ((⟨b,0,none⟩:Addr).add ((s3.1:Int).toNat*1)) fun t112=>
 AA A P BF #[.pointer t112,.int .i64 ((IntKind.wrap .i64 ((shard.tmod (4:Int))+(4:Int))).tmod (4:Int))] h18 fun v8 h20=> ∃t114:Int,v8= .int .i64 t114∧(
 K4 ((!((decide (t114>(0:Int)))==(s3.1==s2.1))),()) h20))) (
 Chk ((0:Int)≤s3.1∧s3.1<(4:Int))<|
 AP h18 ((⟨b,0,none⟩:Addr).add ((s3.1:Int).toNat*1)) fun t112_1=>
 AA A P BF #[.pointer t112_1,.int .i64 ((IntKind.wrap .i64 ((shard.tmod (4:Int))+(4:Int))).tmod (4:Int))] h18 fun v9 h21=> ∃t114_1:Int,v9= .int .i64 t114_1∧(
 K4 ((!((decide (t114_1>(0:Int)))==(s3.1==s2.1))),()) h21))))))) (
 K1 (s2.1,(IntKind.wrap .i64 (s1.2.1+(1:Int))),()) h12)) (0,()) h11) fun K2=>
 PIf (((IntKind.wrap .i64 (t55.tdiv (4:Int))).tmod (2:Int))==(0:Int)) (
 Chk ((0:Int)≤((IntKind.wrap .i64 ((t55.tmod (4:Int))+(4:Int))).tmod (4:Int))∧((IntKind.wrap .i64 ((t55.tmod (4:Int))+(4:Int))).tmod (4:Int))<(4:Int))<|
 AP h10 ((⟨b,0,none⟩:Addr).add ((((IntKind.wrap .i64 ((t55.tmod (4:Int))+(4:Int))).tmod (4:Int)):Int).toNat*1)) fun t67=>
 AA A P Bw #[.pointer t67,.int .i64 ((IntKind.wrap .i64 ((shard.tmod (4:Int))+(4:Int))).tmod (4:Int))] h10 fun v10 h22=> ∃t69a:Int,∃t69b:Int,v10= .tuple #[.int .i64 t69a,.int .i64 t69b]∧(
 PIf (t69b != (0:Int)) (
 R (.bool false) h22) (
 K2 (((IntKind.wrap .i64 ((t55.tmod (4:Int))+(4:Int))).tmod (4:Int)),()) h22))) (
 K2 (s1.1,()) h10)) (
 R (.bool true) h10)) ((-1),0,()) h5)) (0,()) h4)))))
def MZ:Ann:= .seq .none (.seq (.seq .none (.cond (.seq .none .none) .none)) (.seq (.seq .none (.cond (.seq .none .none) .none)) (.seq .none (.seq .none (.seq .none (.seq (.seq .none (.block (.loop [(32,.one (.int .i64))] [0,1,5,7] (.seq .none (.seq (.cond .none .none) (.seq (.block (.seq .none .none)) .none)))))) (.seq .none (.seq (.seq .none (.block (.loop [(9,.one (.int .i64)),(51,.one (.int .i64))] [1,7,49,50] (.seq .none (.seq (.cond .none .none) (.seq (.block (.seq .none (.seq .none (.seqJ [(9,.one (.int .i64))] [1,7,10,49,50,51] (.seq .none (.cond (.seq (.seq .none (.seq .none (.cond (.seq .none .none) .none))) .none) .none)) (.seq .none (.block (.loop [(75,.one (.int .i64))] [1,7,9,10,49,50,51] (.seq .none (.seq (.cond .none .none) (.seq (.block (.seq .none (.seq .none (.seq .none (.seq (.reg [(120,.one .bool)] [1,7,9,10,49,50,51,75]) (.cond (.seq .none .none) .none)))))) .none)))))))))) .none)))))) (.seq .none .none)))))))))
theorem MW(A:Amb)(order:Sl)(shard:Int)(h:Heap)(R:Value→Heap→Prop):El A order shard h R=AX A P Ej MZ [.slice order.p order.len order.cap,.int .i64 shard] h R:=by kernel_rfl
theorem MP {A:Amb}{order:Sl}{shard:Int}{h:Heap}{R:Value→Heap→Prop}(H:El A order shard h R):AA A P Ej #[.slice order.p order.len order.cap,.int .i64 shard] h R:=
 AJ mixed (MW A order shard h R▸H)
end Go.Lf.G

