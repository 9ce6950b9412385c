/-
 The formulas of functions, printed by lift.py; each with the theorem that it is what the lift reckons of the program.
-/
import Derived.Test.YtdmlhpjdmgaggaaGreatDoorLfIToN1
set_option linter.unusedVariables false
set_option linter.unusedSimpArgs false
set_option linter.unusedVariables false
set_option maxRecDepth 100000
namespace Go.Lf.G
def HY(A:Amb)(h1:Option Addr)(n:Int)(h:Heap)(R:Value→Heap→Prop):Prop:=
 AA A P Dz #[.pointer h1,.int .i64 n] h fun v h2=> ∃t15a:Int,∃t15b:ByteArray,∃t15c:Int,v= .tuple #[.int .i64 t15a,.string t15b,.int .i64 t15c]∧(
 PIf (t15c != (0:Int)) (
  R (.tuple #[.int .i64 0,.int .i64 t15c]) h2) (
  AA A P Ep #[.int .i64 n] h2 fun v1 h3=> ∃t23:ByteArray,v1= .string t23∧(
  New h3 (.cells #[.string (⟨#[]⟩:ByteArray),.string (⟨#[]⟩:ByteArray),.bool false] AO) fun b h4=>
  Store h4 (⟨b,0,none⟩:Addr) (.string t23) fun h5=>
  Store h5 ((⟨b,0,none⟩:Addr).add 1) (.string (⟨#[]⟩:ByteArray)) fun h6=>
  Store h6 ((⟨b,0,none⟩:Addr).add 2) (.bool true) fun h7=>
  Join (fun(s:Unit) h8=>
    At h1 fun a=>
    AL h8 (a.add 1) fun t41=>
    AA A P G9 #[.int .i64 (IntKind.wrap .i64 (t15a+(1:Int))),.string t41] h8 fun v2 h9=> ∃t42a:ByteArray,∃t42b:Int,v2= .tuple #[.string t42a,.int .i64 t42b]∧(
    PIf (t42b != (0:Int)) (
     R (.tuple #[.int .i64 0,.int .i64 t42b]) h9) (
     Join (fun(r:Int×Unit) h10=>
       PIf (r.1 != (0:Int)) (
        R (.tuple #[.int .i64 0,.int .i64 r.1]) h10) (
        At h1 fun a1=>
        DC h10 (a1.add 3) fun t66=>
        At h1 fun a2=>
        DC h10 (a2.add 4) fun t71=>
        BK A P (Instr.mapEntry Dl (.map t66) (.int .i64 n)) h10 fun v3 h11=> ∃k u:Value,v3= .tuple #[k,u]∧ ∃t75_1:Int,u= .int .i64 t75_1∧(
        WB A P (Instr.entryStore Dl (.map t66) (.int .i64 t75_1) (.int .i64 (IntKind.wrap .i64 (t15a+(1:Int))))) h11 fun h12=>(
        BK A P (Instr.mapEntry DZ (.map t71) (.int .i64 n)) h12 fun v4 h13=> ∃k1 u1:Value,v4= .tuple #[k1,u1]∧ ∃t77_1:Int,u1= .int .i64 t77_1∧(
        WB A P (Instr.entryStore DZ (.map t71) (.int .i64 t77_1) (.int .u64 0)) h13 fun h14=>(
        R (.tuple #[.int .i64 (IntKind.wrap .i64 (t15a+(1:Int))),.int .i64 0]) h14)))))) fun K1=>
      At h1 fun a3=>
      AP h9 a3 fun t51=>
      AL h9 (⟨b,0,none⟩:Addr) fun t52_0=>
      AL h9 ((⟨b,0,none⟩:Addr).add 1) fun t52_1=>
      Ab h9 ((⟨b,0,none⟩:Addr).add 2) fun t52_2=>
      And (
       New h9 (.cells #[.string t52_0,.string t52_1,.bool t52_2] AO) fun b1 h15=>
       And (hget h15 a3=some (.pointer t51))<|
       AA A P Ep #[.int .i64 n] h15 fun v5 h16=> ∃t55:ByteArray,v5= .string t55∧(
       And (hget h16 (⟨b,0,none⟩:Addr)=some (.string t52_0)∧hget h16 ((⟨b,0,none⟩:Addr).add 1)=some (.string t52_1)∧hget h16 ((⟨b,0,none⟩:Addr).add 2)=some (.bool t52_2))<|
       And (hget h16 a3=some (.pointer t51))<|
       New h16 (.cells #[.string t55,.string t42a,.bool false] AO) fun b2 h17=>
       And (hget h17 (⟨b,0,none⟩:Addr)=some (.string t52_0)∧hget h17 ((⟨b,0,none⟩:Addr).add 1)=some (.string t52_1)∧hget h17 ((⟨b,0,none⟩:Addr).add 2)=some (.bool t52_2))<|
       And (hget h17 a3=some (.pointer t51))<|
       AA A P CP #[.pointer t51,.slice (some (⟨b1,0,none⟩:Addr)) 1 1,.slice (some (⟨b2,0,none⟩:Addr)) 1 1] h17 fun v6 h18=> ∃t59:Int,v6= .int .i64 t59∧(
       K1 (t59,()) h18)))<|
       AA A P Ep #[.int .i64 n] h9 fun v7 h19=> ∃t55_1:ByteArray,v7= .string t55_1∧(
       And (hget h19 (⟨b,0,none⟩:Addr)=some (.string t52_0)∧hget h19 ((⟨b,0,none⟩:Addr).add 1)=some (.string t52_1)∧hget h19 ((⟨b,0,none⟩:Addr).add 2)=some (.bool t52_2))<|
       And (hget h19 a3=some (.pointer t51))<|
       And (
        New h19 (.cells #[.string t52_0,.string t52_1,.bool t52_2] AO) fun b3 h20=>
        And (hget h20 a3=some (.pointer t51))<|
        New h20 (.cells #[.string t55_1,.string t42a,.bool false] AO) fun b4 h21=>
        And (hget h21 (⟨b,0,none⟩:Addr)=some (.string t52_0)∧hget h21 ((⟨b,0,none⟩:Addr).add 1)=some (.string t52_1)∧hget h21 ((⟨b,0,none⟩:Addr).add 2)=some (.bool t52_2))<|
        And (hget h21 a3=some (.pointer t51))<|
        AA A P CP #[.pointer t51,.slice (some (⟨b3,0,none⟩:Addr)) 1 1,.slice (some (⟨b4,0,none⟩:Addr)) 1 1] h21 fun v8 h22=> ∃t59_1:Int,v8= .int .i64 t59_1∧(
        K1 (t59_1,()) h22))<|
        New h19 (.cells #[.string t55_1,.string t42a,.bool false] AO) fun b5 h23=>
        And (hget h23 (⟨b,0,none⟩:Addr)=some (.string t52_0)∧hget h23 ((⟨b,0,none⟩:Addr).add 1)=some (.string t52_1)∧hget h23 ((⟨b,0,none⟩:Addr).add 2)=some (.bool t52_2))<|
        And (hget h23 a3=some (.pointer t51))<|
        New h23 (.cells #[.string t52_0,.string t52_1,.bool t52_2] AO) fun b6 h24=>
        And (hget h24 a3=some (.pointer t51))<|
        AA A P CP #[.pointer t51,.slice (some (⟨b6,0,none⟩:Addr)) 1 1,.slice (some (⟨b5,0,none⟩:Addr)) 1 1] h24 fun v9 h25=> ∃t59_2:Int,v9= .int .i64 t59_2∧(
        K1 (t59_2,()) h25))))) fun K=>
   PIf (decide (t15a>(0:Int))) (
    Store h7 ((⟨b,0,none⟩:Addr).add 2) (.bool false) fun h26=>
    AA A P G9 #[.int .i64 t15a,.string t15b] h26 fun v10 h27=> ∃t31a:ByteArray,∃t31b:Int,v10= .tuple #[.string t31a,.int .i64 t31b]∧(
    Store h27 ((⟨b,0,none⟩:Addr).add 1) (.string t31a) fun h28=>
    K () h28)) (
    K () h7))))
def Qk:Ann:= .seq .none (.seq .none (.seq (.seq .none (.cond (.seq .none .none) .none)) (.seq .none (.seqJ [] [0,1,6,9] (.seq .none (.cond (.seq .none .none) .none)) (.seq .none (.seq (.seq .none (.cond (.seq .none .none) .none)) (.seq (.seq (.reg [(11,.one (.int .i64))] [0,1,6]) (.seq .none (.cond (.seq .none .none) .none))) (.seq .none (.seq .none .none)))))))))
theorem QW(A:Amb)(h1:Option Addr)(n:Int)(h:Heap)(R:Value→Heap→Prop):HY A h1 n h R=AX A P Bw Qk [.pointer h1,.int .i64 n] h R:=by kernel_rfl
theorem Pn {A:Amb}{h1:Option Addr}{n:Int}{h:Heap}{R:Value→Heap→Prop}(H:HY A h1 n h R):AA A P Bw #[.pointer h1,.int .i64 n] h R:=
 AJ mixed (QW A h1 n h R▸H)
end Go.Lf.G

