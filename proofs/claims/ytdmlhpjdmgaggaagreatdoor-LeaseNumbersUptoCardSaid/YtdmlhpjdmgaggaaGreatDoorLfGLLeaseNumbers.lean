/-
 The law LeaseNumbers as a formula.
-/
import Derived.Test.YtdmlhpjdmgaggaaGreatDoorLfG1
set_option linter.unusedVariables false
set_option linter.unusedSimpArgs false
set_option linter.unusedVariables false
set_option maxRecDepth 100000
namespace Go.Lf.G
open Go
def Ed(A:Amb)(order:Sl)(h:Heap)(R:Value→Heap→Prop):Prop:=
 AA A P DN #[] h fun v h1=> ∃t15:Bool,v= .bool t15∧(
 PIf (!t15) (
 R (.bool false) h1) (
 PIf (decide (((order.len:Nat):Int)>(200:Int))) (
 R (.bool true) h1) (
 AA A P GK #[] h1 fun v1 h2=> ∃t21:Option Addr,v1= .pointer t21∧(
 AA A P EE #[.pointer t21] h2 fun v2 h3=> ∃t22a:Option Addr,∃t22b:Int,v2= .tuple #[.pointer t22a,.int .i64 t22b]∧(
 AA A P Dr #[.pointer t22a,.string (⟨#[97]⟩:ByteArray),.int .i64 1] h3 fun v3 h4=> ∃t27a:Option Addr,∃t27b:Int,v3= .tuple #[.pointer t27a,.int .i64 t27b]∧(
 AA A P Dr #[.pointer t22a,.string (⟨#[98]⟩:ByteArray),.int .i64 1] h4 fun v4 h5=> ∃t32a:Option Addr,∃t32b:Int,v4= .tuple #[.pointer t32a,.int .i64 t32b]∧(
 New h5 (.cells #[.pointer t27a,.pointer t32a] DL) fun b h6=>
 New h6 (.map #[] 0) fun b1 h7=>
 Loop (fun K (s:Int×Unit) h8=>
 PIf (decide (s.1<((order.len:Nat):Int))) (
 Join (fun(s1:Unit) h9=>
 K ((IntKind.wrap .i64 (s.1+(1:Int))),()) h9) fun K1=>
 Idx order.p order.len s.1 fun a=>
 Aa .i64 h8 (a.add (s.1.toNat*1)) fun t44=>
 Idx (some (⟨b,0,none⟩:Addr)) 2 ((IntKind.wrap .i64 ((t44.tmod (2:Int))+(2:Int))).tmod (2:Int)) fun a1=>
 AP h8 (a1.add (((IntKind.wrap .i64 ((t44.tmod (2:Int))+(2:Int))).tmod (2:Int)).toNat*1)) fun t51=>
 Join (fun(s2:Unit) h10=>
 AA A P EH #[.pointer t51,.int .i64 0] h10 fun v5 h11=> ∃t58:Int,v5= .int .u64 t58∧(
 PIf (t58==(0:Int)) (
 AA A P BF #[.pointer t51,.int .i64 0] h11 fun v6 h12=> ∃t62:Int,v6= .int .i64 t62∧(
 PIf (t62 != (0:Int)) (
 R (.bool false) h12) (
 K1 () h12))) (
 BK A P (Instr.lookup JA (.map (some b1)) (.int .u64 t58) false) h11 fun v7 h13=> ∃t66:Bool,v7= .bool t66∧(
 PIf t66 (
 R (.bool false) h13) (
 WB A P (Instr.mapUpdate JA (.map (some b1)) (.int .u64 t58) (.bool true)) h13 fun h14=>(
 K1 () h14)))))) fun K2=>
 PIf ((t44.tmod (3:Int))==(0:Int)) (
 AA A P Bw #[.pointer t51,.int .i64 0] h8 fun v8 h15=> ∃t56a:Int,∃t56b:Int,v8= .tuple #[.int .i64 t56a,.int .i64 t56b]∧(
 K2 () h15)) (
 K2 () h8)) (
 R (.bool true) h8)) (0,()) h7)))))))
def Lc:Ann:= .seq .none (.seq (.seq .none (.cond (.seq .none .none) .none)) (.seq (.seq .none (.cond (.seq .none .none) .none)) (.seq .none (.seq .none (.seq .none (.seq .none (.seq .none (.seq (.seq .none (.block (.loop [(41,.one (.int .i64))] [9,10,39,40] (.seq .none (.seq (.cond .none .none) (.seq (.blockJ [] [9,10,39,40,41] (.seq .none (.seq .none (.seqJ [] [9,10,13,39,40,41] (.seq .none (.cond .none .none)) (.seq .none (.seq (.seq .none (.cond (.seq (.seq .none (.cond (.seq .none .none) .none)) .none) .none)) (.seq (.seq .none (.cond (.seq .none .none) .none)) .none))))))) .none)))))) (.seq .none .none)))))))))
theorem Lj(A:Amb)(order:Sl)(h:Heap)(R:Value→Heap→Prop):Ed A order h R=AX A P Eb Lc [.slice order.p order.len order.cap] h R:=by kernel_rfl
theorem LP {A:Amb}{order:Sl}{h:Heap}{R:Value→Heap→Prop}(H:Ed A order h R):AA A P Eb #[.slice order.p order.len order.cap] h R:=
 AJ mixed (Lj A order h R▸H)
end Go.Lf.G

