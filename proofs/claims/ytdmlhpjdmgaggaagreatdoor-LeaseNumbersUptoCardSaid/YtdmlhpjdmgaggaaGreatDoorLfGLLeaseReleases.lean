/-
 The law LeaseReleases as a formula.
-/
import Derived.Test.YtdmlhpjdmgaggaaGreatDoorLfG1
set_option linter.unusedVariables false
set_option linter.unusedSimpArgs false
set_option linter.unusedVariables false
set_option maxRecDepth 100000
namespace Go.Lf.G
open Go
def EK(A:Amb)(order:Sl)(h:Heap)(R:Value→Heap→Prop):Prop:=
 AA A P DN #[] h fun v h1=> ∃t20:Bool,v= .bool t20∧(
 PIf (!t20) (
 R (.bool false) h1) (
 PIf (decide (((order.len:Nat):Int)>(100:Int))) (
 R (.bool true) h1) (
 AA A P GK #[] h1 fun v1 h2=> ∃t26:Option Addr,v1= .pointer t26∧(
 AA A P EE #[.pointer t26] h2 fun v2 h3=> ∃t27a:Option Addr,∃t27b:Int,v2= .tuple #[.pointer t27a,.int .i64 t27b]∧(
 AA A P Dr #[.pointer t27a,.string (⟨#[97]⟩:ByteArray),.int .i64 2] h3 fun v3 h4=> ∃t32a:Option Addr,∃t32b:Int,v3= .tuple #[.pointer t32a,.int .i64 t32b]∧(
 AA A P Dr #[.pointer t27a,.string (⟨#[98]⟩:ByteArray),.int .i64 2] h4 fun v4 h5=> ∃t37a:Option Addr,∃t37b:Int,v4= .tuple #[.pointer t37a,.int .i64 t37b]∧(
 New h5 (.cells #[.pointer t32a,.pointer t37a] DL) fun b h6=>
 New h6 (.cells #[.int .i64 0,.int .i64 0] ACw) fun b1 h7=>
 Loop (fun K (s:Int×Unit) h8=>
 PIf (decide (s.1<((order.len:Nat):Int))) (
 Join (fun(s1:Unit) h9=>
 K ((IntKind.wrap .i64 (s.1+(1:Int))),()) h9) fun K1=>
 Idx order.p order.len s.1 fun a=>
 Aa .i64 h8 (a.add (s.1.toNat*1)) fun t48=>
 Idx (some (⟨b,0,none⟩:Addr)) 2 ((IntKind.wrap .i64 ((t48.tmod (2:Int))+(2:Int))).tmod (2:Int)) fun a1=>
 AP h8 (a1.add (((IntKind.wrap .i64 ((t48.tmod (2:Int))+(2:Int))).tmod (2:Int)).toNat*1)) fun t55=>
 PIf (((IntKind.wrap .i64 (t48.tdiv (4:Int))).tmod (3:Int))==(0:Int)) (
 AA A P Dq #[.pointer t55,.int .i64 ((IntKind.wrap .i64 (((IntKind.wrap .i64 (t48.tdiv (2:Int))).tmod (2:Int))+(2:Int))).tmod (2:Int))] h8 fun v5 h10=>v5= .tuple #[]∧(
 AA A P BF #[.pointer t55,.int .i64 ((IntKind.wrap .i64 (((IntKind.wrap .i64 (t48.tdiv (2:Int))).tmod (2:Int))+(2:Int))).tmod (2:Int))] h10 fun v6 h11=> ∃t70:Int,v6= .int .i64 t70∧(
 PIf (t70 != (0:Int)) (
 R (.bool false) h11) (
 K1 () h11)))) (
 AA A P Bw #[.pointer t55,.int .i64 ((IntKind.wrap .i64 (((IntKind.wrap .i64 (t48.tdiv (2:Int))).tmod (2:Int))+(2:Int))).tmod (2:Int))] h8 fun v7 h12=> ∃t75a:Int,∃t75b:Int,v7= .tuple #[.int .i64 t75a,.int .i64 t75b]∧(
 Join (fun(r:Bool×Unit) h13=>
 PIf r.1 (
 R (.bool false) h13) (
 Chk ((0:Int)≤((IntKind.wrap .i64 (((IntKind.wrap .i64 (t48.tdiv (2:Int))).tmod (2:Int))+(2:Int))).tmod (2:Int))∧((IntKind.wrap .i64 (((IntKind.wrap .i64 (t48.tdiv (2:Int))).tmod (2:Int))+(2:Int))).tmod (2:Int))<(2:Int))<|
 Store h13 ((⟨b1,0,none⟩:Addr).add ((((IntKind.wrap .i64 (((IntKind.wrap .i64 (t48.tdiv (2:Int))).tmod (2:Int))+(2:Int))).tmod (2:Int)):Int).toNat*1)) (.int .i64 t75a) fun h14=>
 Idx (some (⟨b,0,none⟩:Addr)) 2 0 fun a2=>
 AP h14 (a2.add ((0:Int).toNat*1)) fun t101=>
 AA A P Dz #[.pointer t101,.int .i64 ((IntKind.wrap .i64 (((IntKind.wrap .i64 (t48.tdiv (2:Int))).tmod (2:Int))+(2:Int))).tmod (2:Int))] h14 fun v8 h15=> ∃t103a:Int,∃t103b:ByteArray,∃t103c:Int,v8= .tuple #[.int .i64 t103a,.string t103b,.int .i64 t103c]∧(
 Join (fun(r1:Bool×Unit) h16=>
 PIf r1.1 (
 R (.bool false) h16) (
 K1 () h16)) fun K3=>
 PIf (t103c != (0:Int)) (
 K3 (true,()) h15) (
 K3 ((t103a != t75a),()) h15)))) fun K2=>
 PIf (t75b != (0:Int)) (
 K2 (true,()) h12) (
 Chk ((0:Int)≤((IntKind.wrap .i64 (((IntKind.wrap .i64 (t48.tdiv (2:Int))).tmod (2:Int))+(2:Int))).tmod (2:Int))∧((IntKind.wrap .i64 (((IntKind.wrap .i64 (t48.tdiv (2:Int))).tmod (2:Int))+(2:Int))).tmod (2:Int))<(2:Int))<|
 Aa .i64 h12 ((⟨b1,0,none⟩:Addr).add ((((IntKind.wrap .i64 (((IntKind.wrap .i64 (t48.tdiv (2:Int))).tmod (2:Int))+(2:Int))).tmod (2:Int)):Int).toNat*1)) fun t84=>
 PIf (t75a != (IntKind.wrap .i64 (t84+(1:Int)))) (
 K2 (true,()) h12) (
 AA A P BF #[.pointer t55,.int .i64 ((IntKind.wrap .i64 (((IntKind.wrap .i64 (t48.tdiv (2:Int))).tmod (2:Int))+(2:Int))).tmod (2:Int))] h12 fun v9 h17=> ∃t91:Int,v9= .int .i64 t91∧(
 K2 ((t91 != t75a),()) h17)))))) (
 R (.bool true) h8)) (0,()) h7)))))))
def Kz:Ann:= .seq .none (.seq (.seq .none (.cond (.seq .none .none) .none)) (.seq (.seq .none (.cond (.seq .none .none) .none)) (.seq .none (.seq .none (.seq .none (.seq .none (.seq .none (.seq (.seq .none (.block (.loop [(45,.one (.int .i64))] [9,10,43,44] (.seq .none (.seq (.cond .none .none) (.seq (.blockJ [] [9,10,43,44,45] (.seq .none (.seq .none (.seq (.seq .none (.cond (.seq .none (.seq (.seq .none (.cond (.seq .none .none) .none)) .none)) .none)) (.seq .none (.seq (.seq (.reg [(94,.one .bool)] [9,10,14,15,43,44,45]) (.cond (.seq .none .none) .none)) (.seq .none (.seq .none (.seq (.reg [(113,.one .bool)] [9,10,43,44,45]) (.cond (.seq .none .none) .none)))))))))) .none)))))) (.seq .none .none)))))))))
theorem LJ(A:Amb)(order:Sl)(h:Heap)(R:Value→Heap→Prop):EK A order h R=AX A P EL Kz [.slice order.p order.len order.cap] h R:=by kernel_rfl
theorem KX {A:Amb}{order:Sl}{h:Heap}{R:Value→Heap→Prop}(H:EK A order h R):AA A P EL #[.slice order.p order.len order.cap] h R:=
 AJ mixed (LJ A order h R▸H)
end Go.Lf.G

