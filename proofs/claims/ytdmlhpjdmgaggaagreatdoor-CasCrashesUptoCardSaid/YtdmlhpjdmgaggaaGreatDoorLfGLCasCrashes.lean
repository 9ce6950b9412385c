/-
 The law CasCrashes as a formula.
-/
import Derived.Test.YtdmlhpjdmgaggaaGreatDoorLfG1
set_option linter.unusedVariables false
set_option linter.unusedSimpArgs false
set_option linter.unusedVariables false
set_option maxRecDepth 100000
namespace Go.Lf.G
open Go
def FD(A:Amb)(calls:Sl)(fuel:Int)(keep:Sl)(h:Heap)(R:Value→Heap→Prop):Prop:=
 AA A P FL #[] h fun v h1=> ∃t19:Bool,v= .bool t19∧(
 PIf (!t19) (
 R (.bool false) h1) (
 PIf (decide (((calls.len:Nat):Int)>(100:Int))) (
 R (.bool true) h1) (
 AA A P GK #[] h1 fun v1 h2=> ∃t24:Option Addr,v1= .pointer t24∧(
 AA A P EE #[.pointer t24] h2 fun v2 h3=> ∃t27a:Option Addr,∃t27b:Int,v2= .tuple #[.pointer t27a,.int .i64 t27b]∧(
 PIf (t27b != (0:Int)) (
 R (.bool false) h3) (
 AA A P JR #[.pointer t24,.int .i64 (if(0:Int)>fuel then 0 else fuel)] h3 fun v3 h4=>v3= .tuple #[]∧(
 New h4 (.cells #[.slice none 0 0,.int .i64 0] BG) fun b h5=>
 AZ h5 (⟨b,0,none⟩:Addr) fun t36_0=>
 Aa .i64 h5 ((⟨b,0,none⟩:Addr).add 1) fun t36_1=>
 New h5 (.cells #[.slice none 0 0,.int .i64 0] BG) fun b1 h6=>
 Store h6 (⟨b1,0,none⟩:Addr) (.slice t36_0.p t36_0.len t36_0.cap) fun h7=>
 Store h7 ((⟨b1,0,none⟩:Addr).add 1) (.int .i64 t36_1) fun h8=>
 Join (fun(s:Unit) h9=>
 AA A P IV #[.pointer t24,.slice keep.p keep.len keep.cap] h9 fun v4 h10=> ∃t84:Option Addr,v4= .pointer t84∧(
 AA A P EE #[.pointer t84] h10 fun v5 h11=> ∃t85a:Option Addr,∃t85b:Int,v5= .tuple #[.pointer t85a,.int .i64 t85b]∧(
 AA A P Ht #[.pointer t85a,.string (⟨#[]⟩:ByteArray),.string (⟨#[]⟩:ByteArray),.int .i64 1048576] h11 fun v6 h12=> ∃t90a:Sl,∃t90b:Int,v6= .tuple #[.slice t90a.p t90a.len t90a.cap,.int .i64 t90b]∧(
 PIf (t85b==(0:Int)) (
 PIf (t90b==(0:Int)) (
 AZ h12 (⟨b,0,none⟩:Addr) fun t103=>
 AA A P EW #[.slice t90a.p t90a.len t90a.cap,.slice t103.p t103.len t103.cap] h12 fun v7 h13=> ∃t104:Bool,v7= .bool t104∧(
 PIf t104 (
 R (.bool true) h13) (
 AZ h13 (⟨b1,0,none⟩:Addr) fun t109=>
 AA A P EW #[.slice t90a.p t90a.len t90a.cap,.slice t109.p t109.len t109.cap] h13 fun v8 h14=> ∃t110:Bool,v8= .bool t110∧(
 R (.bool t110) h14)))) (
 R (.bool false) h12)) (
 R (.bool false) h12))))) fun K=>
 Loop (fun K1 (s1:Int×Unit) h15=>
 PIf (decide (s1.1<((calls.len:Nat):Int))) (
 Join (fun(s2:Unit) h16=>
 K1 ((IntKind.wrap .i64 (s1.1+(1:Int))),()) h16) fun K2=>
 Idx calls.p calls.len s1.1 fun a=>
 Aa .i64 h15 (a.add (s1.1.toNat*7)) fun t42_0=>
 AZ h15 ((a.add (s1.1.toNat*7)).add 1) fun t42_1=>
 AZ h15 ((a.add (s1.1.toNat*7)).add 2) fun t42_2=>
 AL h15 ((a.add (s1.1.toNat*7)).add 3) fun t42_3=>
 AL h15 ((a.add (s1.1.toNat*7)).add 4) fun t42_4=>
 Aa .i64 h15 ((a.add (s1.1.toNat*7)).add 5) fun t42_5=>
 Ab h15 ((a.add (s1.1.toNat*7)).add 6) fun t42_6=>
 New h15 (.cells #[.int .i64 0,.slice none 0 0,.slice none 0 0,.string (⟨#[]⟩:ByteArray),.string (⟨#[]⟩:ByteArray),.int .i64 0,.bool false] Ea) fun b2 h17=>
 Store h17 (⟨b2,0,none⟩:Addr) (.int .i64 t42_0) fun h18=>
 Store h18 ((⟨b2,0,none⟩:Addr).add 1) (.slice t42_1.p t42_1.len t42_1.cap) fun h19=>
 Store h19 ((⟨b2,0,none⟩:Addr).add 2) (.slice t42_2.p t42_2.len t42_2.cap) fun h20=>
 Store h20 ((⟨b2,0,none⟩:Addr).add 3) (.string t42_3) fun h21=>
 Store h21 ((⟨b2,0,none⟩:Addr).add 4) (.string t42_4) fun h22=>
 Store h22 ((⟨b2,0,none⟩:Addr).add 5) (.int .i64 t42_5) fun h23=>
 Store h23 ((⟨b2,0,none⟩:Addr).add 6) (.bool t42_6) fun h24=>
 Join (fun(s3:Unit) h25=>
 Aa .i64 h25 (⟨b2,0,none⟩:Addr) fun t52=>
 PIf (t52 != (0:Int)) (
 K2 () h25) (
 AZ h25 (⟨b,0,none⟩:Addr) fun t55_0=>
 Aa .i64 h25 ((⟨b,0,none⟩:Addr).add 1) fun t55_1=>
 AZ h25 ((⟨b2,0,none⟩:Addr).add 1) fun t57=>
 AZ h25 ((⟨b2,0,none⟩:Addr).add 2) fun t59=>
 AA A P EN #[.agg #[.slice t55_0.p t55_0.len t55_0.cap,.int .i64 t55_1],.slice t57.p t57.len t57.cap,.slice t59.p t59.len t59.cap] h25 fun v9 h26=> ∃t60a_0:Sl,∃t60a_1:Int,∃t60b:Int,v9= .tuple #[.agg #[.slice t60a_0.p t60a_0.len t60a_0.cap,.int .i64 t60a_1],.int .i64 t60b]∧(
 New h26 (.cells #[.slice none 0 0,.int .i64 0] BG) fun b3 h27=>
 Store h27 (⟨b3,0,none⟩:Addr) (.slice t60a_0.p t60a_0.len t60a_0.cap) fun h28=>
 Store h28 ((⟨b3,0,none⟩:Addr).add 1) (.int .i64 t60a_1) fun h29=>
 AZ h29 ((⟨b2,0,none⟩:Addr).add 1) fun t65=>
 AZ h29 ((⟨b2,0,none⟩:Addr).add 2) fun t67=>
 AA A P CP #[.pointer t27a,.slice t65.p t65.len t65.cap,.slice t67.p t67.len t67.cap] h29 fun v10 h30=> ∃t68:Int,v10= .int .i64 t68∧(
 PIf (t68==(30:Int)) (
 AZ h30 (⟨b,0,none⟩:Addr) fun t71_0=>
 Aa .i64 h30 ((⟨b,0,none⟩:Addr).add 1) fun t71_1=>
 Store h30 (⟨b1,0,none⟩:Addr) (.slice t71_0.p t71_0.len t71_0.cap) fun h31=>
 Store h31 ((⟨b1,0,none⟩:Addr).add 1) (.int .i64 t71_1) fun h32=>
 Join (fun(s4:Unit) h33=>
 K () h33) fun K4=>
 PIf (t60b==(0:Int)) (
 AZ h32 (⟨b3,0,none⟩:Addr) fun t74_0=>
 Aa .i64 h32 ((⟨b3,0,none⟩:Addr).add 1) fun t74_1=>
 Store h32 (⟨b1,0,none⟩:Addr) (.slice t74_0.p t74_0.len t74_0.cap) fun h34=>
 Store h34 ((⟨b1,0,none⟩:Addr).add 1) (.int .i64 t74_1) fun h35=>
 K4 () h35) (
 K4 () h32)) (
 PIf (t68 != t60b) (
 R (.bool false) h30) (
 AZ h30 (⟨b3,0,none⟩:Addr) fun t78_0=>
 Aa .i64 h30 ((⟨b3,0,none⟩:Addr).add 1) fun t78_1=>
 Store h30 (⟨b,0,none⟩:Addr) (.slice t78_0.p t78_0.len t78_0.cap) fun h36=>
 Store h36 ((⟨b,0,none⟩:Addr).add 1) (.int .i64 t78_1) fun h37=>
 AZ h37 (⟨b,0,none⟩:Addr) fun t79_0=>
 Aa .i64 h37 ((⟨b,0,none⟩:Addr).add 1) fun t79_1=>
 Store h37 (⟨b1,0,none⟩:Addr) (.slice t79_0.p t79_0.len t79_0.cap) fun h38=>
 Store h38 ((⟨b1,0,none⟩:Addr).add 1) (.int .i64 t79_1) fun h39=>
 K2 () h39)))))) fun K3=>
 Aa .i64 h24 (⟨b2,0,none⟩:Addr) fun t44=>
 PIf (t44==(3:Int)) (
 Ab h24 ((⟨b2,0,none⟩:Addr).add 6) fun t48=>
 AA A P IE #[.pointer t27a,.bool t48] h24 fun v11 h40=> ∃t49:Int,v11= .int .i64 t49∧(
 PIf (t49 != (0:Int)) (
 K () h40) (
 K3 () h40))) (
 K3 () h24)) (
 K () h15)) (0,()) h8)))))))
def NN:Ann:= .seq .none (.seq (.seq .none (.cond (.seq .none .none) .none)) (.seq (.seq .none (.cond (.seq .none .none) .none)) (.seq .none (.seq .none (.seq (.seq .none (.cond (.seq .none .none) .none)) (.seq .none (.seq .none (.seq .none (.seq (.seq .none (.blockJ [] [2,7,10,11] (.loop [(39,.one (.int .i64))] [2,7,8,10,11,37,38] (.seq .none (.seq (.cond .none .none) (.seq (.blockJ [] [2,7,8,10,11,37,38,39] (.seq .none (.seqJ [] [2,7,8,10,11,13,37,38,39] (.seq .none (.cond (.seq .none (.cond .none .none)) .none)) (.seq (.seq .none (.cond .none .none)) (.seq .none (.seq .none (.seq (.seq .none (.cond (.seq .none (.seqJ [] [2,7,10,11] (.seq .none (.cond .none .none)) .none)) .none)) (.seq (.seq .none (.cond (.seq .none .none) .none)) (.seq .none .none))))))))) .none)))))) (.seq .none (.seq .none (.seq .none .none))))))))))))
theorem NM(A:Amb)(calls:Sl)(fuel:Int)(keep:Sl)(h:Heap)(R:Value→Heap→Prop):FD A calls fuel keep h R=AX A P Ez NN [.slice calls.p calls.len calls.cap,.int .i64 fuel,.slice keep.p keep.len keep.cap] h R:=by kernel_rfl
theorem MU {A:Amb}{calls:Sl}{fuel:Int}{keep:Sl}{h:Heap}{R:Value→Heap→Prop}(H:FD A calls fuel keep h R):AA A P Ez #[.slice calls.p calls.len calls.cap,.int .i64 fuel,.slice keep.p keep.len keep.cap] h R:=
 AJ mixed (NM A calls fuel keep h R▸H)
end Go.Lf.G

