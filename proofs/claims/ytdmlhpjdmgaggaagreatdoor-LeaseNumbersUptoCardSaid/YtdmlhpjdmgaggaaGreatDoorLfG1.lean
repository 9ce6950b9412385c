/-
 The formulas of functions, printed by lift.py; each with the theorem that it is what the lift reckons of the program.
-/
import Derived.Test.YtdmlhpjdmgaggaaGreatDoorLfIToN1
set_option linter.unusedVariables false
set_option linter.unusedSimpArgs false
set_option linter.unusedVariables false
set_option maxRecDepth 100000
namespace Go.Lf.G
def IK(A:Amb)(h:Heap)(R:Value→Heap→Prop):Prop:=
 AA A P GK #[] h fun v h1=> ∃t6:Option Addr,v= .pointer t6∧(
 AA A P EE #[.pointer t6] h1 fun v1 h2=> ∃t7a:Option Addr,∃t7b:Int,v1= .tuple #[.pointer t7a,.int .i64 t7b]∧(
 New h2 (.cells #[.string (⟨#[97]⟩:ByteArray),.string (⟨#[]⟩:ByteArray),.bool true] AO) fun b h3=>
 New h3 (.cells #[.string (⟨#[97]⟩:ByteArray),.string (⟨#[49]⟩:ByteArray),.bool false] AO) fun b1 h4=>
 PIf (t7b==(0:Int)) (
 AA A P CP #[.pointer t7a,.slice (some (⟨b,0,none⟩:Addr)) 1 1,.slice (some (⟨b1,0,none⟩:Addr)) 1 1] h4 fun v2 h5=> ∃t20:Int,v2= .int .i64 t20∧(
 PIf (t20==(0:Int)) (
 AA A P CP #[.pointer t7a,.slice (some (⟨b,0,none⟩:Addr)) 1 1,.slice (some (⟨b1,0,none⟩:Addr)) 1 1] h5 fun v3 h6=> ∃t27:Int,v3= .int .i64 t27∧(
 PIf (t27==(100:Int)) (
 AA A P Gj #[.pointer t7a] h6 fun v4 h7=> ∃t32:Int,v4= .int .i64 t32∧(
 R (.bool (t32==(1:Int))) h7)) (
 R (.bool false) h6))) (
 R (.bool false) h5))) (
 R (.bool false) h4)))
def Rs:Ann:= .seq .none (.seq .none (.seq .none (.seq .none .none)))
theorem Rf(A:Amb)(h:Heap)(R:Value→Heap→Prop):IK A h R=AX A P FL Rs [] h R:=by kernel_rfl
theorem Qg {A:Amb}{h:Heap}{R:Value→Heap→Prop}(H:IK A h R):AA A P FL #[] h R:=
 AJ mixed (Rf A h R▸H)
def OX(A:Amb)(b:Option Addr)(h:Heap)(R:Value→Heap→Prop):Prop:=
 AA A P Jw #[.pointer b] h fun v h1=> ∃t8a:Option Addr,∃t8b:Int,v= .tuple #[.pointer t8a,.int .i64 t8b]∧(
 PIf (t8b != (0:Int)) (
 R (.tuple #[.pointer none,.int .i64 t8b]) h1) (
 New h1 (.cells #[.pointer t8a,.int .i64 0] Qu) fun b1 h2=>
 R (.tuple #[.pointer (some (⟨b1,0,none⟩:Addr)),.int .i64 0]) h2))
def AGv:Ann:= .seq .none (.seq .none (.seq (.seq .none (.cond (.seq .none .none) .none)) (.seq .none .none)))
theorem AFl(A:Amb)(b:Option Addr)(h:Heap)(R:Value→Heap→Prop):OX A b h R=AX A P EE AGv [.pointer b] h R:=by kernel_rfl
theorem Wq {A:Amb}{b:Option Addr}{h:Heap}{R:Value→Heap→Prop}(H:OX A b h R):AA A P EE #[.pointer b] h R:=
 AJ mixed (AFl A b h R▸H)
def V3(A:Amb)(h:Heap)(R:Value→Heap→Prop):Prop:=
 New h (.map #[] 0) fun b h1=>
 New h1 (.cells #[.map (some b),.int .i64 (-1),.bool false] WT) fun b1 h2=>
 R (.pointer (some (⟨b1,0,none⟩:Addr))) h2
def AIE:Ann:= .seq .none (.seq .none .none)
theorem AIu(A:Amb)(h:Heap)(R:Value→Heap→Prop):V3 A h R=AX A P GK AIE [] h R:=by kernel_rfl
theorem AGf {A:Amb}{h:Heap}{R:Value→Heap→Prop}(H:V3 A h R):AA A P GK #[] h R:=
 AJ mixed (AIu A h R▸H)
def I1(A:Amb)(s:Option Addr)(conds:Sl)(changes:Sl)(h:Heap)(R:Value→Heap→Prop):Prop:=
 PIf (s.isNone) (
 R (.int .i64 30) h) (
 PIf (decide (((conds.len:Nat):Int)>(64:Int))) (
 R (.int .i64 2) h) (
 AA A P KM #[.slice changes.p changes.len changes.cap] h fun v h1=> ∃t20:Int,v= .int .i64 t20∧(
 PIf (t20 != (0:Int)) (
 R (.int .i64 t20) h1) (
 Loop (fun K (s1:Int×Unit) h2=>
 PIf (decide (s1.1<((conds.len:Nat):Int))) (
 Idx conds.p conds.len s1.1 fun a=>
 AL h2 (a.add (s1.1.toNat*3)) fun t29_0=>
 AL h2 ((a.add (s1.1.toNat*3)).add 1) fun t29_1=>
 Ab h2 ((a.add (s1.1.toNat*3)).add 2) fun t29_2=>
 New h2 (.cells #[.string (⟨#[]⟩:ByteArray),.string (⟨#[]⟩:ByteArray),.bool false] AO) fun b h3=>
 Store h3 (⟨b,0,none⟩:Addr) (.string t29_0) fun h4=>
 Store h4 ((⟨b,0,none⟩:Addr).add 1) (.string t29_1) fun h5=>
 Store h5 ((⟨b,0,none⟩:Addr).add 2) (.bool t29_2) fun h6=>
 At s fun a1=>
 AP h6 a1 fun t34=>
 AL h6 (⟨b,0,none⟩:Addr) fun t36=>
 AA A P Hg #[.pointer t34,.string t36] h6 fun v1 h7=> ∃t37a:ByteArray,∃t37b:Bool,∃t37c:Int,v1= .tuple #[.string t37a,.bool t37b,.int .i64 t37c]∧(
 PIf (t37c != (0:Int)) (
 R (.int .i64 t37c) h7) (
 Join (fun(r:Bool×Unit) h8=>
 PIf r.1 (
 R (.int .i64 100) h8) (
 K ((IntKind.wrap .i64 (s1.1+(1:Int))),()) h8)) fun K1=>
 Ab h7 ((⟨b,0,none⟩:Addr).add 2) fun t46=>
 PIf (t37b==t46) (
 K1 (true,()) h7) (
 PIf t37b (
 AL h7 ((⟨b,0,none⟩:Addr).add 1) fun t53=>
 K1 ((!sEq t37a t53),()) h7) (
 K1 (false,()) h7))))) (
 At s fun a2=>
 AP h2 a2 fun t61=>
 AA A P FO #[.pointer t61,.slice changes.p changes.len changes.cap] h2 fun v2 h9=> ∃t63:Int,v2= .int .i64 t63∧(
 PIf (t63 != (0:Int)) (
 R (.int .i64 t63) h9) (
 At s fun a3=>
 Aa .i64 h9 (a3.add 1) fun t70=>
 At s fun a4=>
 Store h9 (a4.add 1) (.int .i64 (IntKind.wrap .i64 (t70+(1:Int)))) fun h10=>
 R (.int .i64 0) h10)))) (0,()) h1))))
def YB:Ann:= .seq .none (.seq (.seq .none (.cond (.seq .none .none) .none)) (.seq (.seq .none (.cond (.seq .none .none) .none)) (.seq (.seq .none (.seq .none (.cond (.seq .none .none) .none))) (.seq (.seq .none (.block (.loop [(26,.one (.int .i64))] [0,2,24,25] (.seq .none (.seq (.cond .none .none) (.seq (.block (.seq .none (.seq .none (.seq (.seq .none (.cond (.seq .none .none) .none)) (.seq (.reg [(56,.one .bool)] [0,2,24,25,26]) (.cond (.seq .none .none) .none)))))) .none)))))) (.seq (.seq .none (.seq .none (.cond (.seq .none .none) .none))) (.seq .none (.seq .none .none)))))))
theorem YE(A:Amb)(s:Option Addr)(conds:Sl)(changes:Sl)(h:Heap)(R:Value→Heap→Prop):I1 A s conds changes h R=AX A P CP YB [.pointer s,.slice conds.p conds.len conds.cap,.slice changes.p changes.len changes.cap] h R:=by kernel_rfl
theorem PV {A:Amb}{s:Option Addr}{conds:Sl}{changes:Sl}{h:Heap}{R:Value→Heap→Prop}(H:I1 A s conds changes h R):AA A P CP #[.pointer s,.slice conds.p conds.len conds.cap,.slice changes.p changes.len changes.cap] h R:=
 AJ mixed (YE A s conds changes h R▸H)
def Fj(A:Amb)(s_0:Sl)(s_1:Int)(conds:Sl)(changes:Sl)(h:Heap)(R:Value→Heap→Prop):Prop:=
 New h (.cells #[.slice s_0.p s_0.len s_0.cap,.int .i64 s_1] BG) fun b h1=>
 New h1 (.cells #[.slice none 0 0,.int .i64 0] BG) fun b1 h2=>
 PIf (decide (((conds.len:Nat):Int)>(64:Int))) (
 AZ h2 (⟨b,0,none⟩:Addr) fun t13_0=>
 Aa .i64 h2 ((⟨b,0,none⟩:Addr).add 1) fun t13_1=>
 Store h2 (⟨b1,0,none⟩:Addr) (.slice t13_0.p t13_0.len t13_0.cap) fun h3=>
 Store h3 ((⟨b1,0,none⟩:Addr).add 1) (.int .i64 t13_1) fun h4=>
 AZ h4 (⟨b1,0,none⟩:Addr) fun res_0=>
 Aa .i64 h4 ((⟨b1,0,none⟩:Addr).add 1) fun res_1=>
 R (.tuple #[.agg #[.slice res_0.p res_0.len res_0.cap,.int .i64 res_1],.int .i64 2]) h4) (
 AA A P FK #[.slice changes.p changes.len changes.cap] h2 fun v h5=> ∃t15:Int,v= .int .i64 t15∧(
 PIf (t15 != (0:Int)) (
 AZ h5 (⟨b,0,none⟩:Addr) fun t18_0=>
 Aa .i64 h5 ((⟨b,0,none⟩:Addr).add 1) fun t18_1=>
 Store h5 (⟨b1,0,none⟩:Addr) (.slice t18_0.p t18_0.len t18_0.cap) fun h6=>
 Store h6 ((⟨b1,0,none⟩:Addr).add 1) (.int .i64 t18_1) fun h7=>
 AZ h7 (⟨b1,0,none⟩:Addr) fun res_0_1=>
 Aa .i64 h7 ((⟨b1,0,none⟩:Addr).add 1) fun res_1_1=>
 R (.tuple #[.agg #[.slice res_0_1.p res_0_1.len res_0_1.cap,.int .i64 res_1_1],.int .i64 t15]) h7) (
 Loop (fun K (s:Int×Unit) h8=>
 PIf (decide (s.1<((conds.len:Nat):Int))) (
 AZ h8 (⟨b,0,none⟩:Addr) fun t26_0=>
 Aa .i64 h8 ((⟨b,0,none⟩:Addr).add 1) fun t26_1=>
 Idx conds.p conds.len s.1 fun a=>
 AL h8 (a.add (s.1.toNat*3)) fun t30_0=>
 AL h8 ((a.add (s.1.toNat*3)).add 1) fun t30_1=>
 Ab h8 ((a.add (s.1.toNat*3)).add 2) fun t30_2=>
 AA A P DX #[.agg #[.slice t26_0.p t26_0.len t26_0.cap,.int .i64 t26_1],.agg #[.string t30_0,.string t30_1,.bool t30_2]] h8 fun v1 h9=> ∃t31:Bool,v1= .bool t31∧(
 PIf (!t31) (
 AZ h9 (⟨b,0,none⟩:Addr) fun t33_0=>
 Aa .i64 h9 ((⟨b,0,none⟩:Addr).add 1) fun t33_1=>
 Store h9 (⟨b1,0,none⟩:Addr) (.slice t33_0.p t33_0.len t33_0.cap) fun h10=>
 Store h10 ((⟨b1,0,none⟩:Addr).add 1) (.int .i64 t33_1) fun h11=>
 AZ h11 (⟨b1,0,none⟩:Addr) fun res_0_2=>
 Aa .i64 h11 ((⟨b1,0,none⟩:Addr).add 1) fun res_1_2=>
 R (.tuple #[.agg #[.slice res_0_2.p res_0_2.len res_0_2.cap,.int .i64 res_1_2],.int .i64 100]) h11) (
 K ((IntKind.wrap .i64 (s.1+(1:Int))),()) h9))) (
 AZ h8 (⟨b,0,none⟩:Addr) fun t35_0=>
 AA A P Dw #[.agg #[.slice t35_0.p t35_0.len t35_0.cap],.slice changes.p changes.len changes.cap] h8 fun v2 h12=> ∃t37_0:Sl,v2= .agg #[.slice t37_0.p t37_0.len t37_0.cap]∧(
 Aa .i64 h12 ((⟨b,0,none⟩:Addr).add 1) fun t39=>
 And (hget h8 ((⟨b,0,none⟩:Addr).add 1)=some (.int .i64 t39))<|
 Store h12 (⟨b1,0,none⟩:Addr) (.slice t37_0.p t37_0.len t37_0.cap) fun h13=>
 Store h13 ((⟨b1,0,none⟩:Addr).add 1) (.int .i64 (IntKind.wrap .i64 (t39+(1:Int)))) fun h14=>
 AZ h14 (⟨b1,0,none⟩:Addr) fun res_0_3=>
 Aa .i64 h14 ((⟨b1,0,none⟩:Addr).add 1) fun res_1_3=>
 R (.tuple #[.agg #[.slice res_0_3.p res_0_3.len res_0_3.cap,.int .i64 res_1_3],.int .i64 0]) h14))) (0,()) h5)))
def Oa:Ann:= .seq .none (.seq (.seq .none (.cond (.seq .none .none) .none)) (.seq .none (.seq (.seq .none (.cond (.seq .none .none) .none)) (.seq (.seq .none (.block (.loop [(9,.one (.int .i64))] [1,2,3,6] (.seq (.seq .none (.cond .none .none)) (.seq (.block (.seq .none (.cond (.seq .none .none) .none))) .none))))) (.seq .none .none)))))
theorem OV(A:Amb)(s_0:Sl)(s_1:Int)(conds:Sl)(changes:Sl)(h:Heap)(R:Value→Heap→Prop):Fj A s_0 s_1 conds changes h R=AX A P EN Oa [.agg #[.slice s_0.p s_0.len s_0.cap,.int .i64 s_1],.slice conds.p conds.len conds.cap,.slice changes.p changes.len changes.cap] h R:=by kernel_rfl
theorem NU {A:Amb}{s_0:Sl}{s_1:Int}{conds:Sl}{changes:Sl}{h:Heap}{R:Value→Heap→Prop}(H:Fj A s_0 s_1 conds changes h R):AA A P EN #[.agg #[.slice s_0.p s_0.len s_0.cap,.int .i64 s_1],.slice conds.p conds.len conds.cap,.slice changes.p changes.len changes.cap] h R:=
 AJ mixed (OV A s_0 s_1 conds changes h R▸H)
def GM(A:Amb)(m_0:Sl)(key:ByteArray)(h:Heap)(R:Value→Heap→Prop):Prop:=
 New h (.cells #[.slice m_0.p m_0.len m_0.cap] Co) fun b h1=>
 AZ h1 (⟨b,0,none⟩:Addr) fun t9_0=>
 AA A P Dp #[.agg #[.slice t9_0.p t9_0.len t9_0.cap],.string key] h1 fun v h2=> ∃t11a:Int,∃t11b:Bool,v= .tuple #[.int .i64 t11a,.bool t11b]∧(
 PIf (!t11b) (
 R (.tuple #[.string (⟨#[]⟩:ByteArray),.bool false]) h2) (
 AZ h2 (⟨b,0,none⟩:Addr) fun t17=>
 Idx t17.p t17.len t11a fun a=>
 AL h2 ((a.add (t11a.toNat*3)).add 1) fun t21=>
 R (.tuple #[.string t21,.bool true]) h2))
def Pf:Ann:= .seq .none (.seq .none (.seq (.seq .none (.cond (.seq .none .none) .none)) (.seq .none .none)))
theorem PY(A:Amb)(m_0:Sl)(key:ByteArray)(h:Heap)(R:Value→Heap→Prop):GM A m_0 key h R=AX A P Ee Pf [.agg #[.slice m_0.p m_0.len m_0.cap],.string key] h R:=by kernel_rfl
theorem O7 {A:Amb}{m_0:Sl}{key:ByteArray}{h:Heap}{R:Value→Heap→Prop}(H:GM A m_0 key h R):AA A P Ee #[.agg #[.slice m_0.p m_0.len m_0.cap],.string key] h R:=
 AJ mixed (PY A m_0 key h R▸H)
def Jp(A:Amb)(s:Option Addr)(vprefix:ByteArray)(vfrom:ByteArray)(most:Int)(h:Heap)(R:Value→Heap→Prop):Prop:=
 PIf (s.isNone) (
 R (.tuple #[.slice none 0 0,.int .i64 30]) h) (
 At s fun a=>
 AP h a fun t15=>
 AA A P Mc #[.string vprefix] h fun v h1=> ∃t20:ByteArray,v= .string t20∧(
 And (hget h1 a=some (.pointer t15))<|
 AA A P Jy #[.pointer t15,.string (if(!sLt vprefix vfrom)=true then vprefix else vfrom),.string t20,.int .i64 most] h1 fun v1 h2=> ∃t22a:Sl,∃t22b:Int,v1= .tuple #[.slice t22a.p t22a.len t22a.cap,.int .i64 t22b]∧(
 R (.tuple #[.slice t22a.p t22a.len t22a.cap,.int .i64 t22b]) h2)))
def Vl:Ann:= .seq .none (.seq (.seq .none (.cond (.seq .none .none) .none)) (.seq .none .none))
theorem Vr(A:Amb)(s:Option Addr)(vprefix:ByteArray)(vfrom:ByteArray)(most:Int)(h:Heap)(R:Value→Heap→Prop):Jp A s vprefix vfrom most h R=AX A P Ht Vl [.pointer s,.string vprefix,.string vfrom,.int .i64 most] h R:=by kernel_rfl
theorem Ue {A:Amb}{s:Option Addr}{vprefix:ByteArray}{vfrom:ByteArray}{most:Int}{h:Heap}{R:Value→Heap→Prop}(H:Jp A s vprefix vfrom most h R):AA A P Ht #[.pointer s,.string vprefix,.string vfrom,.int .i64 most] h R:=
 AJ mixed (Vr A s vprefix vfrom most h R▸H)
def Ii(A:Amb)(a:Sl)(b:Sl)(h:Heap)(R:Value→Heap→Prop):Prop:=
 PIf (((a.len:Nat):Int) != ((b.len:Nat):Int)) (
 R (.bool false) h) (
 Loop (fun K (s:Int×Unit) h1=>
 PIf (decide (s.1<((a.len:Nat):Int))) (
 Idx a.p a.len s.1 fun a1=>
 AL h1 (a1.add (s.1.toNat*3)) fun t20_0=>
 AL h1 ((a1.add (s.1.toNat*3)).add 1) fun t20_1=>
 Ab h1 ((a1.add (s.1.toNat*3)).add 2) fun t20_2=>
 Idx b.p b.len s.1 fun a2=>
 AL h1 (a2.add (s.1.toNat*3)) fun t24_0=>
 AL h1 ((a2.add (s.1.toNat*3)).add 1) fun t24_1=>
 Ab h1 ((a2.add (s.1.toNat*3)).add 2) fun t24_2=>
 BK A P (do eqGuard .neq AO (.tmp 20) (.tmp 24) (.agg #[.string t20_0,.string t20_1,.bool t20_2]) (.agg #[.string t24_0,.string t24_1,.bool t24_2]);binOp .neq AO (.agg #[.string t20_0,.string t20_1,.bool t20_2]) (.agg #[.string t24_0,.string t24_1,.bool t24_2])) h1 fun v h2=> ∃t25:Bool,v= .bool t25∧(
 PIf t25 (
 R (.bool false) h2) (
 K ((IntKind.wrap .i64 (s.1+(1:Int))),()) h2))) (
 R (.bool true) h1)) (0,()) h)
def TZ:Ann:= .seq .none (.seq (.seq .none (.cond (.seq .none .none) .none)) (.seq (.seq .none (.block (.loop [(5,.one (.int .i64))] [0,1] (.seq (.seq .none (.cond .none .none)) (.seq (.block (.seq .none (.cond (.seq .none .none) .none))) .none))))) (.seq .none .none)))
theorem SE(A:Amb)(a:Sl)(b:Sl)(h:Heap)(R:Value→Heap→Prop):Ii A a b h R=AX A P EW TZ [.slice a.p a.len a.cap,.slice b.p b.len b.cap] h R:=by kernel_rfl
theorem Ru {A:Amb}{a:Sl}{b:Sl}{h:Heap}{R:Value→Heap→Prop}(H:Ii A a b h R):AA A P EW #[.slice a.p a.len a.cap,.slice b.p b.len b.cap] h R:=
 AJ mixed (SE A a b h R▸H)
def KZ(A:Amb)(s:Option Addr)(key:ByteArray)(h:Heap)(R:Value→Heap→Prop):Prop:=
 PIf (s.isNone) (
 R (.tuple #[.string (⟨#[]⟩:ByteArray),.bool false,.int .i64 30]) h) (
 At s fun a=>
 AP h a fun t12=>
 AA A P Hg #[.pointer t12,.string key] h fun v h1=> ∃t14a:ByteArray,∃t14b:Bool,∃t14c:Int,v= .tuple #[.string t14a,.bool t14b,.int .i64 t14c]∧(
 R (.tuple #[.string t14a,.bool t14b,.int .i64 t14c]) h1))
def XT:Ann:= .seq .none (.seq (.seq .none (.cond (.seq .none .none) .none)) (.seq .none .none))
theorem XB(A:Amb)(s:Option Addr)(key:ByteArray)(h:Heap)(R:Value→Heap→Prop):KZ A s key h R=AX A P F4 XT [.pointer s,.string key] h R:=by kernel_rfl
theorem VX {A:Amb}{s:Option Addr}{key:ByteArray}{h:Heap}{R:Value→Heap→Prop}(H:KZ A s key h R):AA A P F4 #[.pointer s,.string key] h R:=
 AJ mixed (XB A s key h R▸H)
def Jq(A:Amb)(s:Option Addr)(all:Bool)(h:Heap)(R:Value→Heap→Prop):Prop:=
 PIf (s.isNone) (
 R (.int .i64 30) h) (
 At s fun a=>
 AP h a fun t11=>
 AA A P FZ #[.pointer t11] h fun v h1=> ∃t12:Int,v= .int .i64 t12∧(
 Join (fun(r:Bool×Unit) h2=>
 PIf r.1 (
 R (.int .i64 t12) h2) (
 At s fun a1=>
 AP h2 a1 fun t23=>
 AA A P Df #[.pointer t23] h2 fun v1 h3=> ∃t24:Int,v1= .int .i64 t24∧(
 R (.int .i64 t24) h3))) fun K=>
 PIf (t12 != (0:Int)) (
 K (true,()) h1) (
 K ((!all),()) h1)))
def Vn:Ann:= .seq .none (.seq (.seq .none (.cond (.seq .none .none) .none)) (.seq (.seq .none (.seq (.reg [(18,.one .bool)] [0,5]) (.cond (.seq .none .none) .none))) (.seq .none .none)))
theorem Vs(A:Amb)(s:Option Addr)(all:Bool)(h:Heap)(R:Value→Heap→Prop):Jq A s all h R=AX A P IE Vn [.pointer s,.bool all] h R:=by kernel_rfl
theorem Uy {A:Amb}{s:Option Addr}{all:Bool}{h:Heap}{R:Value→Heap→Prop}(H:Jq A s all h R):AA A P IE #[.pointer s,.bool all] h R:=
 AJ mixed (Vs A s all h R▸H)
def JS(A:Amb)(s:Option Addr)(h:Heap)(R:Value→Heap→Prop):Prop:=
 PIf (s.isNone) (
 R (.int .i64 0) h) (
 At s fun a=>
 Aa .i64 h (a.add 1) fun t8=>
 R (.int .i64 t8) h)
def UI:Ann:= .seq .none (.seq (.seq .none (.cond (.seq .none .none) .none)) (.seq .none .none))
theorem UG(A:Amb)(s:Option Addr)(h:Heap)(R:Value→Heap→Prop):JS A s h R=AX A P Gj UI [.pointer s] h R:=by kernel_rfl
theorem SQ {A:Amb}{s:Option Addr}{h:Heap}{R:Value→Heap→Prop}(H:JS A s h R):AA A P Gj #[.pointer s] h R:=
 AJ mixed (UG A s h R▸H)
def Lg(A:Amb)(b:Option Addr)(n:Int)(h:Heap)(R:Value→Heap→Prop):Prop:=
 PIf (!b.isNone) (
 At b fun a=>
 Store h (a.add 1) (.int .i64 (if((-1):Int)>n then(-1) else n)) fun h1=>
 R (.tuple #[]) h1) (
 R (.tuple #[]) h)
def Zd:Ann:= .seq .none (.cond .none .none)
theorem ZU(A:Amb)(b:Option Addr)(n:Int)(h:Heap)(R:Value→Heap→Prop):Lg A b n h R=AX A P JR Zd [.pointer b,.int .i64 n] h R:=by kernel_rfl
theorem XH {A:Amb}{b:Option Addr}{n:Int}{h:Heap}{R:Value→Heap→Prop}(H:Lg A b n h R):AA A P JR #[.pointer b,.int .i64 n] h R:=
 AJ mixed (ZU A b n h R▸H)
def KR(A:Amb)(b:Option Addr)(keep:Sl)(h:Heap)(R:Value→Heap→Prop):Prop:=
 PIf (b.isNone) (
 R (.pointer none) h) (
 AA A P GK #[] h fun v h1=> ∃t13:Option Addr,v= .pointer t13∧(
 At b fun a=>
 DC h1 a fun t17=>
 AA A P Az #[.map t17] h1 fun v1 h2=> ∃t18:Value,v1=t18∧(
 AA A P DW #[t18] h2 fun v2 h3=> ∃t19:Sl,v2= .slice t19.p t19.len t19.cap∧(
 Loop (fun K (s:Int×Int×Unit) h4=>
 PIf (decide (s.2.1<((t19.len:Nat):Int))) (
 Join (fun(s1:Int×Unit) h5=>
 K (s1.1,(IntKind.wrap .i64 (s.2.1+(1:Int))),()) h5) fun K1=>
 Idx t19.p t19.len s.2.1 fun a1=>
 AL h4 (a1.add (s.2.1.toNat*1)) fun t24=>
 At b fun a2=>
 DC h4 a2 fun t28=>
 BK A P (Instr.lookup BH (.map t28) (.string t24) false) h4 fun v3 h6=> ∃t30:Option Addr,v3= .pointer t30∧(
 At t30 fun a3=>
 AL h6 a3 fun t34=>
 Join (fun(s2:Int×ByteArray×Unit) h7=>
 PIf (!sEq s2.2.1 (⟨#[]⟩:ByteArray)) (
 At t13 fun a4=>
 DC h7 a4 fun t69=>
 New h7 (.cells #[.string s2.2.1,.string (⟨#[]⟩:ByteArray)] Lu) fun b1 h8=>
 WB A P (Instr.mapUpdate BH (.map t69) (.string t24) (.pointer (some (⟨b1,0,none⟩:Addr)))) h8 fun h9=>(
 K1 (s2.1,()) h9)) (
 K1 (s2.1,()) h7)) fun K2=>
 At t30 fun a5=>
 AL h6 (a5.add 1) fun t38=>
 PIf (!sEq t38 (⟨#[]⟩:ByteArray)) (
 Join (fun(s3:ByteArray×Unit) h10=>
 K2 ((IntKind.wrap .i64 (s.1+(1:Int))),s3.1,()) h10) fun K3=>
 PIf (decide (s.1<((keep.len:Nat):Int))) (
 At t30 fun a6=>
 AL h6 (a6.add 1) fun t48=>
 Idx keep.p keep.len s.1 fun a7=>
 Aa .i64 h6 (a7.add (s.1.toNat*1)) fun t52=>
 At t30 fun a8=>
 AL h6 (a8.add 1) fun t56=>
 Chk ((0:Int)≤(if((if((t56.size:Int):Int)<t52 then(t56.size:Int) else t52):Int)>0 then(if((t56.size:Int):Int)<t52 then(t56.size:Int) else t52) else 0)∧(if((if((t56.size:Int):Int)<t52 then(t56.size:Int) else t52):Int)>0 then(if((t56.size:Int):Int)<t52 then(t56.size:Int) else t52) else 0)≤((t48.size:Nat):Int))<|
 Chk (((t34.size+(t48.extract 0 ((if((if((t56.size:Int):Int)<t52 then(t56.size:Int) else t52):Int)>0 then(if((t56.size:Int):Int)<t52 then(t56.size:Int) else t52) else 0).toNat)).size:Nat):Int)≤IntKind.i64.max)<|
 K3 ((t34++(t48.extract 0 ((if((if((t56.size:Int):Int)<t52 then(t56.size:Int) else t52):Int)>0 then(if((t56.size:Int):Int)<t52 then(t56.size:Int) else t52) else 0).toNat))),()) h6) (
 K3 (t34,()) h6)) (
 K2 (s.1,t34,()) h6))) (
 At b fun a9=>
 Store h4 (a9.add 2) (.bool true) fun h11=>
 R (.pointer t13) h11)) (0,0,()) h3))))
def XD:Ann:= .seq .none (.seq (.seq .none (.cond (.seq .none .none) .none)) (.seq .none (.seq .none (.seq (.seq .none (.block (.loop [(6,.one (.int .i64)),(21,.one (.int .i64))] [0,1,5,19,20] (.seq .none (.seq (.cond .none .none) (.seq (.blockJ [(6,.one (.int .i64))] [0,1,5,19,20,21] (.seq .none (.seq .none (.seq .none (.seqJ [(6,.one (.int .i64)),(10,.one .str)] [0,1,5,8,19,20,21] (.seq .none (.cond (.seqJ [(10,.one .str)] [0,1,5,6,8,19,20,21] (.seq .none (.cond .none .none)) .none) .none)) (.seq .none (.cond .none .none))))))) .none)))))) (.seq .none (.seq .none .none))))))
theorem XN(A:Amb)(b:Option Addr)(keep:Sl)(h:Heap)(R:Value→Heap→Prop):KR A b keep h R=AX A P IV XD [.pointer b,.slice keep.p keep.len keep.cap] h R:=by kernel_rfl
theorem Vm {A:Amb}{b:Option Addr}{keep:Sl}{h:Heap}{R:Value→Heap→Prop}(H:KR A b keep h R):AA A P IV #[.pointer b,.slice keep.p keep.len keep.cap] h R:=
 AJ mixed (XN A b keep h R▸H)
def IG(A:Amb)(h:Heap)(R:Value→Heap→Prop):Prop:=
 AA A P GK #[] h fun v h1=> ∃t13:Option Addr,v= .pointer t13∧(
 AA A P EE #[.pointer t13] h1 fun v1 h2=> ∃t14a:Option Addr,∃t14b:Int,v1= .tuple #[.pointer t14a,.int .i64 t14b]∧(
 AA A P Dr #[.pointer t14a,.string (⟨#[97]⟩:ByteArray),.int .i64 2] h2 fun v2 h3=> ∃t19a:Option Addr,∃t19b:Int,v2= .tuple #[.pointer t19a,.int .i64 t19b]∧(
 AA A P Dr #[.pointer t14a,.string (⟨#[98]⟩:ByteArray),.int .i64 2] h3 fun v3 h4=> ∃t24a:Option Addr,∃t24b:Int,v3= .tuple #[.pointer t24a,.int .i64 t24b]∧(
 AA A P Bw #[.pointer t19a,.int .i64 0] h4 fun v4 h5=> ∃t29a:Int,∃t29b:Int,v4= .tuple #[.int .i64 t29a,.int .i64 t29b]∧(
 AA A P Bw #[.pointer t24a,.int .i64 0] h5 fun v5 h6=> ∃t34a:Int,∃t34b:Int,v5= .tuple #[.int .i64 t34a,.int .i64 t34b]∧(
 New h6 (.cells #[.string (⟨#[120]⟩:ByteArray),.string (⟨#[49]⟩:ByteArray),.bool false] AO) fun b h7=>
 PIf (t19b==(0:Int)) (
 PIf (t24b==(0:Int)) (
 PIf (t29b==(0:Int)) (
 PIf (t34b==(0:Int)) (
 PIf (t29a==(1:Int)) (
 PIf (t34a==(2:Int)) (
 AA A P ED #[.pointer t19a,.int .i64 0,.slice none 0 0,.slice (some (⟨b,0,none⟩:Addr)) 1 1] h7 fun v6 h8=> ∃t64:Int,v6= .int .i64 t64∧(
 PIf (t64==(170:Int)) (
 AA A P BF #[.pointer t19a,.int .i64 0] h8 fun v7 h9=> ∃t69:Int,v7= .int .i64 t69∧(
 PIf (t69==(0:Int)) (
 AA A P ED #[.pointer t24a,.int .i64 0,.slice none 0 0,.slice (some (⟨b,0,none⟩:Addr)) 1 1] h9 fun v8 h10=> ∃t75:Int,v8= .int .i64 t75∧(
 R (.bool (t75==(0:Int))) h10)) (
 R (.bool false) h9))) (
 R (.bool false) h8))) (
 R (.bool false) h7)) (
 R (.bool false) h7)) (
 R (.bool false) h7)) (
 R (.bool false) h7)) (
 R (.bool false) h7)) (
 R (.bool false) h7)))))))
def Rh:Ann:= .seq .none (.seq .none (.seq .none (.seq .none (.seq .none (.seq .none (.seq .none (.seq .none .none)))))))
theorem Ri(A:Amb)(h:Heap)(R:Value→Heap→Prop):IG A h R=AX A P DN Rh [] h R:=by kernel_rfl
theorem QL {A:Amb}{h:Heap}{R:Value→Heap→Prop}(H:IG A h R):AA A P DN #[] h R:=
 AJ mixed (Ri A h R▸H)
def Qn(A:Amb)(s:Option Addr)(name:ByteArray)(shards:Int)(h:Heap)(R:Value→Heap→Prop):Prop:=
 Join (fun(r:Bool×Unit) h1=>
 PIf r.1 (
 R (.tuple #[.pointer none,.int .i64 1]) h1) (
 New h1 (.map #[] 0) fun b h2=>
 New h2 (.map #[] 0) fun b1 h3=>
 New h3 (.cells #[.pointer s,.string name,.int .i64 shards,.map (some b),.map (some b1)] UC) fun b2 h4=>
 R (.tuple #[.pointer (some (⟨b2,0,none⟩:Addr)),.int .i64 0]) h4)) fun K=>
 PIf (s.isNone) (
 K (true,()) h) (
 AA A P JN #[.string name] h fun v h5=> ∃t12:Bool,v= .bool t12∧(
 PIf (!t12) (
 K (true,()) h5) (
 PIf (decide (shards<(1:Int))) (
 K (true,()) h5) (
 K ((decide (shards>(16:Int))),()) h5))))
def AD2:Ann:= .seq .none (.seq (.seq (.reg [(22,.one .bool)] [0,1,2]) (.cond (.seq .none .none) .none)) (.seq .none .none))
theorem AFC(A:Amb)(s:Option Addr)(name:ByteArray)(shards:Int)(h:Heap)(R:Value→Heap→Prop):Qn A s name shards h R=AX A P Dr AD2 [.pointer s,.string name,.int .i64 shards] h R:=by kernel_rfl
theorem ACF {A:Amb}{s:Option Addr}{name:ByteArray}{shards:Int}{h:Heap}{R:Value→Heap→Prop}(H:Qn A s name shards h R):AA A P Dr #[.pointer s,.string name,.int .i64 shards] h R:=
 AJ mixed (AFC A s name shards h R▸H)
def KP(A:Amb)(h1:Option Addr)(n:Int)(conds:Sl)(changes:Sl)(h:Heap)(R:Value→Heap→Prop):Prop:=
 AA A P BF #[.pointer h1,.int .i64 n] h fun v h2=> ∃t18:Int,v= .int .i64 t18∧(
 PIf (t18==(0:Int)) (
 R (.int .i64 170) h2) (
 At h1 fun a=>
 AL h2 (a.add 1) fun t26=>
 AA A P G9 #[.int .i64 t18,.string t26] h2 fun v1 h3=> ∃t27a:ByteArray,∃t27b:Int,v1= .tuple #[.string t27a,.int .i64 t27b]∧(
 AA A P Ep #[.int .i64 n] h3 fun v2 h4=> ∃t31:ByteArray,v2= .string t31∧(
 New h4 (.cells #[.string (⟨#[]⟩:ByteArray),.string (⟨#[]⟩:ByteArray),.bool false] AO) fun b h5=>
 Store h5 (⟨b,0,none⟩:Addr) (.string t31) fun h6=>
 Store h6 ((⟨b,0,none⟩:Addr).add 1) (.string t27a) fun h7=>
 Store h7 ((⟨b,0,none⟩:Addr).add 2) (.bool false) fun h8=>
 At h1 fun a1=>
 AP h8 a1 fun t38=>
 AL h8 (⟨b,0,none⟩:Addr) fun t40=>
 AA A P F4 #[.pointer t38,.string t40] h8 fun v3 h9=> ∃t41a:ByteArray,∃t41b:Bool,∃t41c:Int,v3= .tuple #[.string t41a,.bool t41b,.int .i64 t41c]∧(
 PIf (t41c != (0:Int)) (
 R (.int .i64 t41c) h9) (
 Join (fun(r:Bool×Unit) h10=>
 PIf r.1 (
 At h1 fun a2=>
 DC h10 (a2.add 3) fun t58=>
 BK A P (Builtin.delete_ #[Dl,BL] t_ #[.map t58,.int .i64 n]) h10 fun v4 h11=>v4= .tuple #[]∧(
 R (.int .i64 170) h11)) (
 At h1 fun a3=>
 AP h10 a3 fun t63=>
 AL h10 (⟨b,0,none⟩:Addr) fun t64_0=>
 AL h10 ((⟨b,0,none⟩:Addr).add 1) fun t64_1=>
 Ab h10 ((⟨b,0,none⟩:Addr).add 2) fun t64_2=>
 New h10 (.cells #[.string t64_0,.string t64_1,.bool t64_2] AO) fun b1 h12=>
 And (hget h12 a3=some (.pointer t63))<|
 BK A P (Builtin.append_ #[AV,AV] AV #[.slice (some (⟨b1,0,none⟩:Addr)) 1 1,.slice conds.p conds.len conds.cap]) h12 fun v5 h13=> ∃t67:Sl,v5= .slice t67.p t67.len t67.cap∧(
 And (hget h13 a3=some (.pointer t63))<|
 AA A P CP #[.pointer t63,.slice t67.p t67.len t67.cap,.slice changes.p changes.len changes.cap] h13 fun v6 h14=> ∃t69:Int,v6= .int .i64 t69∧(
 R (.int .i64 t69) h14)))) fun K=>
 PIf (!t41b) (
 K (true,()) h9) (
 K ((!sEq t41a t27a),()) h9)))))))
def XX:Ann:= .seq .none (.seq .none (.seq (.seq .none (.cond (.seq .none .none) .none)) (.seq .none (.seq .none (.seq .none (.seq (.seq .none (.cond (.seq .none .none) .none)) (.seq (.seq (.reg [(54,.one .bool)] [0,1,2,3,12]) (.cond (.seq .none (.seq .none .none)) .none)) (.seq .none .none))))))))
theorem XI(A:Amb)(h1:Option Addr)(n:Int)(conds:Sl)(changes:Sl)(h:Heap)(R:Value→Heap→Prop):KP A h1 n conds changes h R=AX A P ED XX [.pointer h1,.int .i64 n,.slice conds.p conds.len conds.cap,.slice changes.p changes.len changes.cap] h R:=by kernel_rfl
theorem WI {A:Amb}{h1:Option Addr}{n:Int}{conds:Sl}{changes:Sl}{h:Heap}{R:Value→Heap→Prop}(H:KP A h1 n conds changes h R):AA A P ED #[.pointer h1,.int .i64 n,.slice conds.p conds.len conds.cap,.slice changes.p changes.len changes.cap] h R:=
 AJ mixed (XI A h1 n conds changes h R▸H)
def Ig(A:Amb)(h1:Option Addr)(n:Int)(h:Heap)(R:Value→Heap→Prop):Prop:=
 PIf (h1.isNone) (
 R (.int .i64 0) h) (
 At h1 fun a=>
 DC h (a.add 3) fun t10=>
 BK A P (Instr.lookup Dl (.map t10) (.int .i64 n) false) h fun v h2=> ∃t12:Int,v= .int .i64 t12∧(
 R (.int .i64 t12) h2))
def TY:Ann:= .seq .none (.seq (.seq .none (.cond (.seq .none .none) .none)) (.seq .none .none))
theorem TQ(A:Amb)(h1:Option Addr)(n:Int)(h:Heap)(R:Value→Heap→Prop):Ig A h1 n h R=AX A P BF TY [.pointer h1,.int .i64 n] h R:=by kernel_rfl
theorem Rj {A:Amb}{h1:Option Addr}{n:Int}{h:Heap}{R:Value→Heap→Prop}(H:Ig A h1 n h R):AA A P BF #[.pointer h1,.int .i64 n] h R:=
 AJ mixed (TQ A h1 n h R▸H)
def Gv(A:Amb)(h1:Option Addr)(n:Int)(h:Heap)(R:Value→Heap→Prop):Prop:=
 PIf (!h1.isNone) (
 At h1 fun a=>
 DC h (a.add 3) fun t9=>
 BK A P (Builtin.delete_ #[Dl,BL] t_ #[.map t9,.int .i64 n]) h fun v h2=>v= .tuple #[]∧(
 R (.tuple #[]) h2)) (
 R (.tuple #[]) h)
def QS:Ann:= .seq .none (.cond .none .none)
theorem P9(A:Amb)(h1:Option Addr)(n:Int)(h:Heap)(R:Value→Heap→Prop):Gv A h1 n h R=AX A P Dq QS [.pointer h1,.int .i64 n] h R:=by kernel_rfl
theorem PX {A:Amb}{h1:Option Addr}{n:Int}{h:Heap}{R:Value→Heap→Prop}(H:Gv A h1 n h R):AA A P Dq #[.pointer h1,.int .i64 n] h R:=
 AJ mixed (P9 A h1 n h R▸H)
def JJ(A:Amb)(h1:Option Addr)(n:Int)(h:Heap)(R:Value→Heap→Prop):Prop:=
 Join (fun(r:Bool×Unit) h2=>
 PIf r.1 (
 R (.tuple #[.int .i64 0,.string (⟨#[]⟩:ByteArray),.int .i64 1]) h2) (
 At h1 fun a=>
 AP h2 a fun t28=>
 AA A P Ep #[.int .i64 n] h2 fun v h3=> ∃t30:ByteArray,v= .string t30∧(
 And (hget h3 a=some (.pointer t28))<|
 AA A P F4 #[.pointer t28,.string t30] h3 fun v1 h4=> ∃t31a:ByteArray,∃t31b:Bool,∃t31c:Int,v1= .tuple #[.string t31a,.bool t31b,.int .i64 t31c]∧(
 Join (fun(r1:Bool×Unit) h5=>
 PIf r1.1 (
 R (.tuple #[.int .i64 0,.string (⟨#[]⟩:ByteArray),.int .i64 t31c]) h5) (
 AA A P J3 #[.string t31a] h5 fun v2 h6=> ∃t43a:Int,∃t43b:ByteArray,∃t43c:Int,v2= .tuple #[.int .i64 t43a,.string t43b,.int .i64 t43c]∧(
 R (.tuple #[.int .i64 t43a,.string t43b,.int .i64 t43c]) h6))) fun K1=>
 PIf (t31c != (0:Int)) (
 K1 (true,()) h4) (
 K1 ((!t31b),()) h4))))) fun K=>
 PIf (h1.isNone) (
 K (true,()) h) (
 PIf (decide (n<(0:Int))) (
 K (true,()) h) (
 At h1 fun a1=>
 Aa .i64 h (a1.add 2) fun t21=>
 K ((decide (n≥t21)),()) h))
def VI:Ann:= .seq .none (.seq (.seq (.reg [(23,.one .bool)] [0,1]) (.cond (.seq .none .none) .none)) (.seq .none (.seq (.seq (.reg [(40,.one .bool)] [7,9]) (.cond (.seq .none .none) .none)) (.seq .none .none))))
theorem Tm(A:Amb)(h1:Option Addr)(n:Int)(h:Heap)(R:Value→Heap→Prop):JJ A h1 n h R=AX A P Dz VI [.pointer h1,.int .i64 n] h R:=by kernel_rfl
theorem TU {A:Amb}{h1:Option Addr}{n:Int}{h:Heap}{R:Value→Heap→Prop}(H:JJ A h1 n h R):AA A P Dz #[.pointer h1,.int .i64 n] h R:=
 AJ mixed (Tm A h1 n h R▸H)
def IL(A:Amb)(h1:Option Addr)(n:Int)(h:Heap)(R:Value→Heap→Prop):Prop:=
 AA A P BF #[.pointer h1,.int .i64 n] h fun v h2=> ∃t7:Int,v= .int .i64 t7∧(
 PIf (t7==(0:Int)) (
 R (.int .u64 0) h2) (
 At h1 fun a=>
 DC h2 (a.add 4) fun t12=>
 BK A P (Instr.lookup DZ (.map t12) (.int .i64 n) false) h2 fun v1 h3=> ∃t14:Int,v1= .int .u64 t14∧(
 WB A P (Instr.mapUpdate DZ (.map t12) (.int .i64 n) (.int .u64 (IntKind.wrap .u64 (t14+(1:Int))))) h3 fun h4=>(
 At h1 fun a1=>
 DC h4 (a1.add 3) fun t19=>
 At h1 fun a2=>
 DC h4 (a2.add 4) fun t27=>
 And (
 BK A P (Instr.lookup Dl (.map t19) (.int .i64 n) false) h4 fun v2 h5=> ∃t21:Int,v2= .int .i64 t21∧(
 And (hget h5 (a2.add 4)=some (.map t27))<|
 BK A P (Instr.lookup DZ (.map t27) (.int .i64 n) false) h5 fun v3 h6=> ∃t29:Int,v3= .int .u64 t29∧(
 And (hget h6 (a1.add 3)=some (.map t19))<|
 R (.int .u64 (bOr .u64 (IntKind.wrap .u64 ((IntKind.wrap .u64 t21)*((2:Int)^(24:Nat)))) t29)) h6)))<|
 BK A P (Instr.lookup DZ (.map t27) (.int .i64 n) false) h4 fun v4 h7=> ∃t29_1:Int,v4= .int .u64 t29_1∧(
 And (hget h7 (a1.add 3)=some (.map t19))<|
 BK A P (Instr.lookup Dl (.map t19) (.int .i64 n) false) h7 fun v5 h8=> ∃t21_1:Int,v5= .int .i64 t21_1∧(
 And (hget h8 (a2.add 4)=some (.map t27))<|
 R (.int .u64 (bOr .u64 (IntKind.wrap .u64 ((IntKind.wrap .u64 t21_1)*((2:Int)^(24:Nat)))) t29_1)) h8))))))
def RY:Ann:= .seq .none (.seq (.seq .none (.cond (.seq .none .none) .none)) (.seq .none (.seq .none .none)))
theorem Rn(A:Amb)(h1:Option Addr)(n:Int)(h:Heap)(R:Value→Heap→Prop):IL A h1 n h R=AX A P EH RY [.pointer h1,.int .i64 n] h R:=by kernel_rfl
theorem QY {A:Amb}{h1:Option Addr}{n:Int}{h:Heap}{R:Value→Heap→Prop}(H:IL A h1 n h R):AA A P EH #[.pointer h1,.int .i64 n] h R:=
 AJ mixed (Rn A h1 n h R▸H)
def Ti(A:Amb)(b:Option Addr)(h:Heap)(R:Value→Heap→Prop):Prop:=
 AA A P MB #[.pointer b,.string (⟨#[110]⟩:ByteArray)] h fun v h1=> ∃t27a:Option Addr,∃t27b:Sl,∃t27c:Int,v= .tuple #[.pointer t27a,.slice t27b.p t27b.len t27b.cap,.int .i64 t27c]∧(
 PIf (t27c != (0:Int)) (
 R (.tuple #[.pointer none,.int .i64 t27c]) h1) (
 AA A P LZ #[] h1 fun v1 h2=> ∃t36:Option Addr,v1= .pointer t36∧(
 New h2 (.cells #[.pointer b,.pointer none,.pointer t27a,.pointer t36,.slice none 0 0,.slice none 0 0,.int .i64 1,.int .i64 1,.bool false] Du) fun b1 h3=>
 Join (fun(s:Unit) h4=>
 AZ h4 ((⟨b1,0,none⟩:Addr).add 5) fun t81=>
 Loop (fun K1 (s1:Int×Unit) h5=>
 PIf (decide (s1.1<((t81.len:Nat):Int))) (
 Idx t81.p t81.len s1.1 fun a=>
 Aa .i64 h5 (a.add (s1.1.toNat*1)) fun t86=>
 AA A P Fp #[.int .i64 t86] h5 fun v2 h6=> ∃t90:ByteArray,v2= .string t90∧(
 AA A P FV #[.pointer b,.string t90] h6 fun v3 h7=> ∃t91a:ByteArray,∃t91b:Int,v3= .tuple #[.string t91a,.int .i64 t91b]∧(
 PIf (t91b != (0:Int)) (
 R (.tuple #[.pointer none,.int .i64 t91b]) h7) (
 AA A P I7 #[.string t91a] h7 fun v4 h8=> ∃t99a:Option Addr,∃t99b:Int,v4= .tuple #[.pointer t99a,.int .i64 t99b]∧(
 PIf (t99b != (0:Int)) (
 R (.tuple #[.pointer none,.int .i64 t99b]) h8) (
 AZ h8 ((⟨b1,0,none⟩:Addr).add 4) fun t109=>
 New h8 (.cells #[.pointer t99a] Au) fun b2 h9=>
 BK A P (Builtin.append_ #[Ae,Ae] Ae #[.slice t109.p t109.len t109.cap,.slice (some (⟨b2,0,none⟩:Addr)) 1 1]) h9 fun v5 h10=> ∃t112:Sl,v5= .slice t112.p t112.len t112.cap∧(
 Store h10 ((⟨b1,0,none⟩:Addr).add 4) (.slice t112.p t112.len t112.cap) fun h11=>
 K1 ((IntKind.wrap .i64 (s1.1+(1:Int))),()) h11))))))) (
 AA A P MB #[.pointer b,.string (⟨#[108]⟩:ByteArray)] h5 fun v6 h12=> ∃t118a:Option Addr,∃t118b:Sl,∃t118c:Int,v6= .tuple #[.pointer t118a,.slice t118b.p t118b.len t118b.cap,.int .i64 t118c]∧(
 PIf (t118c != (0:Int)) (
 R (.tuple #[.pointer none,.int .i64 t118c]) h12) (
 Store h12 ((⟨b1,0,none⟩:Addr).add 1) (.pointer t118a) fun h13=>
 Loop (fun K2 (s2:Unit) h14=>
 AP h14 ((⟨b1,0,none⟩:Addr).add 1) fun t132=>
 AA A P Et #[.pointer t132] h14 fun v7 h15=> ∃t133:Int,v7= .int .i64 t133∧(
 Aa .i64 h15 ((⟨b1,0,none⟩:Addr).add 7) fun t137=>
 And (hget h14 ((⟨b1,0,none⟩:Addr).add 7)=some (.int .i64 t137))<|
 PIf (decide (t133<t137)) (
 AP h15 ((⟨b1,0,none⟩:Addr).add 1) fun t143=>
 AA A P ER #[.pointer t143] h15 fun v8 h16=> ∃t144a:Int,∃t144b:Int,v8= .tuple #[.int .i64 t144a,.int .i64 t144b]∧(
 PIf (t144b != (0:Int)) (
 R (.tuple #[.pointer none,.int .i64 t144b]) h16) (
 K2 () h16))) (
 Loop (fun K3 (s3:Int×Unit) h17=>
 PIf (decide (s3.1<((t118b.len:Nat):Int))) (
 Join (fun(s4:Unit) h18=>
 K3 ((IntKind.wrap .i64 (s3.1+(1:Int))),()) h18) fun K4=>
 Idx t118b.p t118b.len s3.1 fun a1=>
 AL h17 (a1.add (s3.1.toNat*1)) fun t155=>
 AA A P J4 #[.string t155] h17 fun v9 h19=> ∃t158a:Int,∃t158b:Sl,∃t158c:Bool,v9= .tuple #[.int .i64 t158a,.slice t158b.p t158b.len t158b.cap,.bool t158c]∧(
 PIf (!t158c) (
 R (.tuple #[.pointer none,.int .i64 60]) h19) (
 Aa .i64 h19 ((⟨b1,0,none⟩:Addr).add 7) fun t168=>
 PIf (decide (t158a<t168)) (
 K4 () h19) (
 Loop (fun K5 (s5:Int×Unit) h20=>
 PIf (decide (s5.1<((t158b.len:Nat):Int))) (
 Idx t158b.p t158b.len s5.1 fun a2=>
 AL h20 (a2.add (s5.1.toNat*3)) fun t175_0=>
 AL h20 ((a2.add (s5.1.toNat*3)).add 1) fun t175_1=>
 Ab h20 ((a2.add (s5.1.toNat*3)).add 2) fun t175_2=>
 New h20 (.cells #[.string (⟨#[]⟩:ByteArray),.string (⟨#[]⟩:ByteArray),.bool false] AO) fun b3 h21=>
 Store h21 (⟨b3,0,none⟩:Addr) (.string t175_0) fun h22=>
 Store h22 ((⟨b3,0,none⟩:Addr).add 1) (.string t175_1) fun h23=>
 Store h23 ((⟨b3,0,none⟩:Addr).add 2) (.bool t175_2) fun h24=>
 AP h24 ((⟨b1,0,none⟩:Addr).add 3) fun t179=>
 AL h24 (⟨b3,0,none⟩:Addr) fun t180_0=>
 AL h24 ((⟨b3,0,none⟩:Addr).add 1) fun t180_1=>
 Ab h24 ((⟨b3,0,none⟩:Addr).add 2) fun t180_2=>
 AA A P GG #[.pointer t179,.agg #[.string t180_0,.string t180_1,.bool t180_2]] h24 fun v10 h25=> ∃t181:Int,v10= .int .i64 t181∧(
 K5 ((IntKind.wrap .i64 (s5.1+(1:Int))),()) h25)) (
 K4 () h20)) (0,()) h19)))) (
 AA A P JK #[.pointer (some (⟨b1,0,none⟩:Addr))] h17 fun v11 h26=> ∃t186:Int,v11= .int .i64 t186∧(
 R (.tuple #[.pointer (some (⟨b1,0,none⟩:Addr)),.int .i64 t186]) h26))) (0,()) h15))) () h13)))) (0,()) h4) fun K=>
 PIf (decide (((t27b.len:Nat):Int)>(0:Int))) (
 Idx t27b.p t27b.len (IntKind.wrap .i64 (((t27b.len:Nat):Int)-(1:Int))) fun a3=>
 AL h3 (a3.add ((IntKind.wrap .i64 (((t27b.len:Nat):Int)-(1:Int))).toNat*1)) fun t47=>
 AA A P Ff #[.string t47] h3 fun v12 h27=> ∃t48:Option Addr,v12= .pointer t48∧(
 AA A P BI #[.pointer t48,.int .i64 2147483647] h27 fun v13 h28=> ∃t52:Int,v13= .int .i64 t52∧(
 AA A P BI #[.pointer t48,.int .i64 99999999] h28 fun v14 h29=> ∃t54:Int,v14= .int .i64 t54∧(
 Store h29 ((⟨b1,0,none⟩:Addr).add 6) (.int .i64 t52) fun h30=>
 Store h30 ((⟨b1,0,none⟩:Addr).add 7) (.int .i64 t54) fun h31=>
 AA A P BI #[.pointer t48,.int .i64 65536] h31 fun v15 h32=> ∃t60:Int,v15= .int .i64 t60∧(
 Loop (fun K6 (s6:Int×Unit) h33=>
 PIf (decide (s6.1<t60)) (
 AZ h33 ((⟨b1,0,none⟩:Addr).add 5) fun t67=>
 AA A P BI #[.pointer t48,.int .i64 2147483647] h33 fun v16 h34=> ∃t69:Int,v16= .int .i64 t69∧(
 And (hget h34 ((⟨b1,0,none⟩:Addr).add 5)=some (.slice t67.p t67.len t67.cap))<|
 New h34 (.cells #[.int .i64 t69] BL) fun b4 h35=>
 And (hget h35 ((⟨b1,0,none⟩:Addr).add 5)=some (.slice t67.p t67.len t67.cap))<|
 BK A P (Builtin.append_ #[Bv,Bv] Bv #[.slice t67.p t67.len t67.cap,.slice (some (⟨b4,0,none⟩:Addr)) 1 1]) h35 fun v17 h36=> ∃t71:Sl,v17= .slice t71.p t71.len t71.cap∧(
 Store h36 ((⟨b1,0,none⟩:Addr).add 5) (.slice t71.p t71.len t71.cap) fun h37=>
 K6 ((IntKind.wrap .i64 (s6.1+(1:Int))),()) h37))) (
 AA A P Cq #[.pointer t48] h33 fun v18 h38=> ∃t76:Bool,v18= .bool t76∧(
 PIf (!t76) (
 R (.tuple #[.pointer none,.int .i64 60]) h38) (
 K () h38)))) (0,()) h32))))) (
 K () h3))))
def AFy:Ann:= .seq .none (.seq .none (.seq (.seq .none (.cond (.seq .none .none) .none)) (.seq .none (.seqJ [] [0,7] (.seq .none (.cond (.seq .none (.seq .none (.seq (.seq .none (.block (.loop [(61,.one (.int .i64))] [0,7,8,60] (.seq .none (.seq (.cond .none .none) (.seq (.block .none) .none)))))) (.seq .none (.cond (.seq .none .none) .none))))) .none)) (.seq (.seq .none (.block (.loop [(83,.one (.int .i64))] [0,7,81,82] (.seq .none (.seq (.cond .none .none) (.seq (.block (.seq .none (.seq .none (.seq (.seq .none (.cond (.seq .none .none) .none)) (.seq .none (.seq (.seq .none (.cond (.seq .none .none) .none)) .none)))))) .none)))))) (.seq .none (.seq (.seq .none (.cond (.seq .none .none) .none)) (.seq .none (.seq (.block (.loop [] [7,15] (.seq (.seq .none (.cond .none .none)) (.block (.seq .none (.seq .none (.cond (.seq .none .none) .none))))))) (.seq (.seq .none (.block (.loop [(152,.one (.int .i64))] [7,150,151] (.seq .none (.seq (.cond .none .none) (.seq (.blockJ [] [7,150,151,152] (.seq .none (.seq .none (.seq (.seq .none (.cond (.seq .none .none) .none)) (.seq (.seq .none (.cond .none .none)) (.seq .none (.block (.loop [(172,.one (.int .i64))] [7,150,151,152,170,171] (.seq .none (.seq (.cond .none .none) (.seq (.block (.seq .none .none)) .none))))))))))) .none)))))) (.seq .none .none)))))))))))
theorem AFr(A:Amb)(b:Option Addr)(h:Heap)(R:Value→Heap→Prop):Ti A b h R=AX A P Jw AFy [.pointer b] h R:=by kernel_rfl
theorem AEe {A:Amb}{b:Option Addr}{h:Heap}{R:Value→Heap→Prop}(H:Ti A b h R):AA A P Jw #[.pointer b] h R:=
 AJ mixed (AFr A b h R▸H)
def Pq(A:Amb)(l:Sl)(h:Heap)(R:Value→Heap→Prop):Prop:=
 PIf (((l.len:Nat):Int)==(0:Int)) (
 R (.int .i64 1) h) (
 PIf (decide (((l.len:Nat):Int)>(64:Int))) (
 R (.int .i64 2) h) (
 Loop (fun K (s:Int×Unit) h1=>
 PIf (decide (s.1<((l.len:Nat):Int))) (
 Idx l.p l.len s.1 fun a=>
 AL h1 (a.add (s.1.toNat*3)) fun t16_0=>
 AL h1 ((a.add (s.1.toNat*3)).add 1) fun t16_1=>
 Ab h1 ((a.add (s.1.toNat*3)).add 2) fun t16_2=>
 New h1 (.cells #[.string (⟨#[]⟩:ByteArray),.string (⟨#[]⟩:ByteArray),.bool false] AO) fun b h2=>
 Store h2 (⟨b,0,none⟩:Addr) (.string t16_0) fun h3=>
 Store h3 ((⟨b,0,none⟩:Addr).add 1) (.string t16_1) fun h4=>
 Store h4 ((⟨b,0,none⟩:Addr).add 2) (.bool t16_2) fun h5=>
 Join (fun(r:Bool×Unit) h6=>
 PIf r.1 (
 R (.int .i64 1) h6) (
 Join (fun(r1:Bool×Unit) h7=>
 PIf r1.1 (
 R (.int .i64 2) h7) (
 K ((IntKind.wrap .i64 (s.1+(1:Int))),()) h7)) fun K2=>
 AL h6 (⟨b,0,none⟩:Addr) fun t32=>
 PIf (decide ((t32.size:Int)>(64:Int))) (
 K2 (true,()) h6) (
 AL h6 ((⟨b,0,none⟩:Addr).add 1) fun t37=>
 K2 ((decide ((t37.size:Int)>(8192:Int))),()) h6))) fun K1=>
 AL h5 (⟨b,0,none⟩:Addr) fun t19=>
 PIf (sEq t19 (⟨#[]⟩:ByteArray)) (
 K1 (true,()) h5) (
 Ab h5 ((⟨b,0,none⟩:Addr).add 2) fun t23=>
 PIf t23 (
 AL h5 ((⟨b,0,none⟩:Addr).add 1) fun t26=>
 K1 ((!sEq t26 (⟨#[]⟩:ByteArray)),()) h5) (
 K1 (false,()) h5))) (
 R (.int .i64 0) h1)) (0,()) h))
def AEP:Ann:= .seq .none (.seq (.seq .none (.cond (.seq .none .none) .none)) (.seq (.seq .none (.cond (.seq .none .none) .none)) (.seq (.seq .none (.block (.loop [(13,.one (.int .i64))] [11,12] (.seq .none (.seq (.cond .none .none) (.seq (.block (.seq .none (.block (.seq (.reg [(17,.one .bool)] [4,11,12,13]) (.cond (.seq .none .none) (.seq (.reg [(30,.one .bool)] [11,12,13]) (.cond (.seq .none .none) .none))))))) .none)))))) (.seq .none .none))))
theorem AEt(A:Amb)(l:Sl)(h:Heap)(R:Value→Heap→Prop):Pq A l h R=AX A P KM AEP [.slice l.p l.len l.cap] h R:=by kernel_rfl
theorem ADQ {A:Amb}{l:Sl}{h:Heap}{R:Value→Heap→Prop}(H:Pq A l h R):AA A P KM #[.slice l.p l.len l.cap] h R:=
 AJ mixed (AEt A l h R▸H)
def Ku(A:Amb)(d:Option Addr)(key:ByteArray)(h:Heap)(R:Value→Heap→Prop):Prop:=
 Join (fun(r:Bool×Unit) h1=>
 PIf r.1 (
 R (.tuple #[.string (⟨#[]⟩:ByteArray),.bool false,.int .i64 30]) h1) (
 At d fun a=>
 AP h1 (a.add 3) fun t25=>
 AA A P IR #[.pointer t25,.string key] h1 fun v h2=> ∃t27a_0:ByteArray,∃t27a_1:ByteArray,∃t27a_2:Bool,∃t27b:Bool,v= .tuple #[.agg #[.string t27a_0,.string t27a_1,.bool t27a_2],.bool t27b]∧(
 New h2 (.cells #[.string (⟨#[]⟩:ByteArray),.string (⟨#[]⟩:ByteArray),.bool false] AO) fun b h3=>
 Store h3 (⟨b,0,none⟩:Addr) (.string t27a_0) fun h4=>
 Store h4 ((⟨b,0,none⟩:Addr).add 1) (.string t27a_1) fun h5=>
 Store h5 ((⟨b,0,none⟩:Addr).add 2) (.bool t27a_2) fun h6=>
 PIf t27b (
 AL h6 ((⟨b,0,none⟩:Addr).add 1) fun t32=>
 Ab h6 ((⟨b,0,none⟩:Addr).add 2) fun t34=>
 R (.tuple #[.string t32,.bool (!t34),.int .i64 0]) h6) (
 At d fun a1=>
 AZ h6 (a1.add 4) fun t39=>
 Loop (fun K1 (s:Int×Unit) h7=>
 PIf (decide (s.1<((t39.len:Nat):Int))) (
 Idx t39.p t39.len s.1 fun a2=>
 AP h7 (a2.add (s.1.toNat*1)) fun t44=>
 AA A P Gb #[.pointer t44,.string key] h7 fun v1 h8=> ∃t48a_0:ByteArray,∃t48a_1:ByteArray,∃t48a_2:Bool,∃t48b:Bool,v1= .tuple #[.agg #[.string t48a_0,.string t48a_1,.bool t48a_2],.bool t48b]∧(
 New h8 (.cells #[.string (⟨#[]⟩:ByteArray),.string (⟨#[]⟩:ByteArray),.bool false] AO) fun b1 h9=>
 Store h9 (⟨b1,0,none⟩:Addr) (.string t48a_0) fun h10=>
 Store h10 ((⟨b1,0,none⟩:Addr).add 1) (.string t48a_1) fun h11=>
 Store h11 ((⟨b1,0,none⟩:Addr).add 2) (.bool t48a_2) fun h12=>
 PIf t48b (
 AL h12 ((⟨b1,0,none⟩:Addr).add 1) fun t53=>
 Ab h12 ((⟨b1,0,none⟩:Addr).add 2) fun t55=>
 R (.tuple #[.string t53,.bool (!t55),.int .i64 0]) h12) (
 K1 ((IntKind.wrap .i64 (s.1+(1:Int))),()) h12))) (
 R (.tuple #[.string (⟨#[]⟩:ByteArray),.bool false,.int .i64 0]) h7)) (0,()) h6)))) fun K=>
 PIf (d.isNone) (
 K (true,()) h) (
 At d fun a3=>
 Ab h (a3.add 8) fun t19=>
 K (t19,()) h)
def ADG:Ann:= .seq .none (.seq (.seq (.reg [(20,.one .bool)] [0,1]) (.cond (.seq .none .none) .none)) (.seq (.seq .none (.seq .none (.cond (.seq .none .none) .none))) (.seq (.seq .none (.block (.loop [(41,.one (.int .i64))] [1,39,40] (.seq .none (.seq (.cond .none .none) (.seq (.block (.seq .none (.seq .none (.seq .none (.cond (.seq .none .none) .none))))) .none)))))) (.seq .none .none))))
theorem ADT(A:Amb)(d:Option Addr)(key:ByteArray)(h:Heap)(R:Value→Heap→Prop):Ku A d key h R=AX A P Hg ADG [.pointer d,.string key] h R:=by kernel_rfl
theorem R8 {A:Amb}{d:Option Addr}{key:ByteArray}{h:Heap}{R:Value→Heap→Prop}(H:Ku A d key h R):AA A P Hg #[.pointer d,.string key] h R:=
 AJ mixed (ADT A d key h R▸H)
def JB(A:Amb)(d:Option Addr)(l:Sl)(h:Heap)(R:Value→Heap→Prop):Prop:=
 Join (fun(r:Bool×Unit) h1=>
 PIf r.1 (
 R (.int .i64 30) h1) (
 AA A P KM #[.slice l.p l.len l.cap] h1 fun v h2=> ∃t21:Int,v= .int .i64 t21∧(
 PIf (t21 != (0:Int)) (
 R (.int .i64 t21) h2) (
 At d fun a=>
 AP h2 (a.add 1) fun t28=>
 At d fun a1=>
 AP h2 (a1.add 1) fun t32=>
 AA A P Et #[.pointer t32] h2 fun v1 h3=> ∃t33:Int,v1= .int .i64 t33∧(
 And (hget h3 (a.add 1)=some (.pointer t28))<|
 AA A P Mm #[.int .i64 t33,.slice l.p l.len l.cap] h3 fun v2 h4=> ∃t35:ByteArray,v2= .string t35∧(
 And (hget h4 (a.add 1)=some (.pointer t28))<|
 AA A P ES #[.pointer t28,.string t35] h4 fun v3 h5=> ∃t36:Int,v3= .int .i64 t36∧(
 PIf (t36 != (0:Int)) (
 AA A P Bj #[.pointer d,.int .i64 t36] h5 fun v4 h6=> ∃t41:Int,v4= .int .i64 t41∧(
 R (.int .i64 t41) h6)) (
 At d fun a2=>
 AP h5 (a2.add 1) fun t45=>
 AA A P Fb #[.pointer t45] h5 fun v5 h7=> ∃t46:Int,v5= .int .i64 t46∧(
 PIf (t46 != (0:Int)) (
 AA A P Bj #[.pointer d,.int .i64 t46] h7 fun v6 h8=> ∃t51:Int,v6= .int .i64 t51∧(
 R (.int .i64 t51) h8)) (
 Loop (fun K1 (s:Int×Unit) h9=>
 PIf (decide (s.1<((l.len:Nat):Int))) (
 Idx l.p l.len s.1 fun a3=>
 AL h9 (a3.add (s.1.toNat*3)) fun t57_0=>
 AL h9 ((a3.add (s.1.toNat*3)).add 1) fun t57_1=>
 Ab h9 ((a3.add (s.1.toNat*3)).add 2) fun t57_2=>
 New h9 (.cells #[.string (⟨#[]⟩:ByteArray),.string (⟨#[]⟩:ByteArray),.bool false] AO) fun b h10=>
 Store h10 (⟨b,0,none⟩:Addr) (.string t57_0) fun h11=>
 Store h11 ((⟨b,0,none⟩:Addr).add 1) (.string t57_1) fun h12=>
 Store h12 ((⟨b,0,none⟩:Addr).add 2) (.bool t57_2) fun h13=>
 At d fun a4=>
 AP h13 (a4.add 3) fun t61=>
 AL h13 (⟨b,0,none⟩:Addr) fun t62_0=>
 AL h13 ((⟨b,0,none⟩:Addr).add 1) fun t62_1=>
 Ab h13 ((⟨b,0,none⟩:Addr).add 2) fun t62_2=>
 AA A P GG #[.pointer t61,.agg #[.string t62_0,.string t62_1,.bool t62_2]] h13 fun v7 h14=> ∃t63:Int,v7= .int .i64 t63∧(
 K1 ((IntKind.wrap .i64 (s.1+(1:Int))),()) h14)) (
 Join (fun(s1:Unit) h15=>
 R (.int .i64 0) h15) fun K2=>
 At d fun a5=>
 AP h9 (a5.add 3) fun t69=>
 AA A P GD #[.pointer t69] h9 fun v8 h16=> ∃t70a:Int,∃t70b:Int,v8= .tuple #[.int .i64 t70a,.int .i64 t70b]∧(
 PIf (decide (t70b≥(4096:Int))) (
 AA A P FZ #[.pointer d] h16 fun v9 h17=> ∃t76:Int,v9= .int .i64 t76∧(
 K2 () h17)) (
 K2 () h16)))) (0,()) h7)))))))))) fun K=>
 PIf (d.isNone) (
 K (true,()) h) (
 At d fun a6=>
 Ab h (a6.add 8) fun t18=>
 K (t18,()) h)
def YI:Ann:= .seq .none (.seq (.seq (.reg [(19,.one .bool)] [0,1]) (.cond (.seq .none .none) .none)) (.seq (.seq .none (.seq .none (.cond (.seq .none .none) .none))) (.seq (.seq .none (.seq .none (.cond (.seq .none .none) .none))) (.seq (.seq .none (.seq .none (.cond (.seq .none .none) .none))) (.seq (.seq .none (.block (.loop [(54,.one (.int .i64))] [0,52,53] (.seq .none (.seq (.cond .none .none) (.seq (.block (.seq .none .none)) .none)))))) (.seqJ [] [] (.seq .none (.seq .none (.cond .none .none))) (.seq .none .none)))))))
theorem Zh(A:Amb)(d:Option Addr)(l:Sl)(h:Heap)(R:Value→Heap→Prop):JB A d l h R=AX A P FO YI [.pointer d,.slice l.p l.len l.cap] h R:=by kernel_rfl
theorem PN {A:Amb}{d:Option Addr}{l:Sl}{h:Heap}{R:Value→Heap→Prop}(H:JB A d l h R):AA A P FO #[.pointer d,.slice l.p l.len l.cap] h R:=
 AJ mixed (Zh A d l h R▸H)
def II(A:Amb)(l:Sl)(h:Heap)(R:Value→Heap→Prop):Prop:=
 PIf (((l.len:Nat):Int)==(0:Int)) (
 R (.int .i64 1) h) (
 PIf (decide (((l.len:Nat):Int)>(64:Int))) (
 R (.int .i64 2) h) (
 Loop (fun K (s:Int×Unit) h1=>
 PIf (decide (s.1<((l.len:Nat):Int))) (
 Idx l.p l.len s.1 fun a=>
 AL h1 (a.add (s.1.toNat*3)) fun t20_0=>
 AL h1 ((a.add (s.1.toNat*3)).add 1) fun t20_1=>
 Ab h1 ((a.add (s.1.toNat*3)).add 2) fun t20_2=>
 AA A P FJ #[.agg #[.string t20_0,.string t20_1,.bool t20_2]] h1 fun v h2=> ∃t21:Int,v= .int .i64 t21∧(
 PIf (t21 != (0:Int)) (
 R (.int .i64 t21) h2) (
 K ((IntKind.wrap .i64 (s.1+(1:Int))),()) h2))) (
 R (.int .i64 0) h1)) (0,()) h))
def Rq:Ann:= .seq .none (.seq (.seq .none (.cond (.seq .none .none) .none)) (.seq (.seq .none (.cond (.seq .none .none) .none)) (.seq (.seq .none (.block (.loop [(3,.one (.int .i64))] [0] (.seq (.seq .none (.cond .none .none)) (.seq (.block (.seq .none (.seq .none (.cond (.seq .none .none) .none)))) .none))))) (.seq .none .none))))
theorem Rp(A:Amb)(l:Sl)(h:Heap)(R:Value→Heap→Prop):II A l h R=AX A P FK Rq [.slice l.p l.len l.cap] h R:=by kernel_rfl
theorem QB {A:Amb}{l:Sl}{h:Heap}{R:Value→Heap→Prop}(H:II A l h R):AA A P FK #[.slice l.p l.len l.cap] h R:=
 AJ mixed (Rp A l h R▸H)
def Em(A:Amb)(s_0:Sl)(s_1:Int)(c_0:ByteArray)(c_1:ByteArray)(c_2:Bool)(h:Heap)(R:Value→Heap→Prop):Prop:=
 New h (.cells #[.slice s_0.p s_0.len s_0.cap,.int .i64 s_1] BG) fun b h1=>
 New h1 (.cells #[.string c_0,.string c_1,.bool c_2] AO) fun b1 h2=>
 AZ h2 (⟨b,0,none⟩:Addr) fun t9_0=>
 AL h2 (⟨b1,0,none⟩:Addr) fun t11=>
 AA A P Ee #[.agg #[.slice t9_0.p t9_0.len t9_0.cap],.string t11] h2 fun v h3=> ∃t12a:ByteArray,∃t12b:Bool,v= .tuple #[.string t12a,.bool t12b]∧(
 Ab h3 ((⟨b1,0,none⟩:Addr).add 2) fun t16=>
 PIf t16 (
 R (.bool (!t12b)) h3) (
 PIf t12b (
 AL h3 ((⟨b1,0,none⟩:Addr).add 1) fun t23=>
 R (.bool (sEq t12a t23)) h3) (
 R (.bool false) h3)))
def Ma:Ann:= .seq .none (.seq .none (.seq (.seq .none (.cond (.seq .none .none) .none)) (.seq .none .none)))
theorem MS(A:Amb)(s_0:Sl)(s_1:Int)(c_0:ByteArray)(c_1:ByteArray)(c_2:Bool)(h:Heap)(R:Value→Heap→Prop):Em A s_0 s_1 c_0 c_1 c_2 h R=AX A P DX Ma [.agg #[.slice s_0.p s_0.len s_0.cap,.int .i64 s_1],.agg #[.string c_0,.string c_1,.bool c_2]] h R:=by kernel_rfl
theorem Lr {A:Amb}{s_0:Sl}{s_1:Int}{c_0:ByteArray}{c_1:ByteArray}{c_2:Bool}{h:Heap}{R:Value→Heap→Prop}(H:Em A s_0 s_1 c_0 c_1 c_2 h R):AA A P DX #[.agg #[.slice s_0.p s_0.len s_0.cap,.int .i64 s_1],.agg #[.string c_0,.string c_1,.bool c_2]] h R:=
 AJ mixed (MS A s_0 s_1 c_0 c_1 c_2 h R▸H)
def FY(A:Amb)(m_0:Sl)(l:Sl)(h:Heap)(R:Value→Heap→Prop):Prop:=
 New h (.cells #[.slice m_0.p m_0.len m_0.cap] Co) fun b h1=>
 New h1 (.cells #[.slice none 0 0] Co) fun b1 h2=>
 Loop (fun K (s:Int×Unit) h3=>
 PIf (decide (s.1<((l.len:Nat):Int))) (
 AZ h3 (⟨b,0,none⟩:Addr) fun t16_0=>
 Idx l.p l.len s.1 fun a=>
 AL h3 (a.add (s.1.toNat*3)) fun t21=>
 AA A P Dp #[.agg #[.slice t16_0.p t16_0.len t16_0.cap],.string t21] h3 fun v h4=> ∃t22a:Int,∃t22b:Bool,v= .tuple #[.int .i64 t22a,.bool t22b]∧(
 AZ h4 (⟨b,0,none⟩:Addr) fun t26=>
 Chk ((0:Int)≤t22a∧t22a≤((t26.cap:Nat):Int))<|
 BK A P (Builtin.append_ #[AV,AV] AV #[.slice none 0 0,.slice (Ao t26.p t26.cap 0 3) (t22a.toNat-0) (t26.cap-0)]) h4 fun v1 h5=> ∃t29:Sl,v1= .slice t29.p t29.len t29.cap∧(
 Join (fun(s1:Sl×Unit) h6=>
 Join (fun(s2:Int×Unit) h7=>
 AZ h7 (⟨b,0,none⟩:Addr) fun t48=>
 Chk ((0:Int)≤s2.1∧s2.1≤((t48.len:Nat):Int))<|
 BK A P (Builtin.append_ #[AV,AV] AV #[.slice s1.1.p s1.1.len s1.1.cap,.slice (Ao t48.p t48.cap s2.1.toNat 3) (t48.len-s2.1.toNat) (t48.cap-s2.1.toNat)]) h7 fun v2 h8=> ∃t51:Sl,v2= .slice t51.p t51.len t51.cap∧(
 Store h8 (⟨b,0,none⟩:Addr) (.slice t51.p t51.len t51.cap) fun h9=>
 K ((IntKind.wrap .i64 (s.1+(1:Int))),()) h9)) fun K2=>
 PIf t22b (
 K2 ((IntKind.wrap .i64 (t22a+(1:Int))),()) h6) (
 K2 (t22a,()) h6)) fun K1=>
 Idx l.p l.len s.1 fun a1=>
 Ab h5 ((a1.add (s.1.toNat*3)).add 2) fun t34=>
 PIf (!t34) (
 Idx l.p l.len s.1 fun a2=>
 AL h5 (a2.add (s.1.toNat*3)) fun t40_0=>
 AL h5 ((a2.add (s.1.toNat*3)).add 1) fun t40_1=>
 Ab h5 ((a2.add (s.1.toNat*3)).add 2) fun t40_2=>
 New h5 (.cells #[.string t40_0,.string t40_1,.bool t40_2] AO) fun b2 h10=>
 BK A P (Builtin.append_ #[AV,AV] AV #[.slice t29.p t29.len t29.cap,.slice (some (⟨b2,0,none⟩:Addr)) 1 1]) h10 fun v3 h11=> ∃t42:Sl,v3= .slice t42.p t42.len t42.cap∧(
 K1 ((⟨t42.p,t42.len,t42.cap⟩:Sl),()) h11)) (
 K1 ((⟨t29.p,t29.len,t29.cap⟩:Sl),()) h5)))) (
 AZ h3 (⟨b,0,none⟩:Addr) fun t53_0=>
 Store h3 (⟨b1,0,none⟩:Addr) (.slice t53_0.p t53_0.len t53_0.cap) fun h12=>
 AZ h12 (⟨b1,0,none⟩:Addr) fun res_0=>
 R (.agg #[.slice res_0.p res_0.len res_0.cap]) h12)) (0,()) h2
def Ny:Ann:= .seq .none (.seq (.seq .none (.block (.loop [(5,.one (.int .i64))] [1,2,4] (.seq (.seq .none (.cond .none .none)) (.seq (.block (.seq .none (.seq .none (.seqJ [(8,.one .sl)] [1,2,4,5,6,7] (.seq .none (.cond .none .none)) (.seqJ [(6,.one (.int .i64))] [1,2,4,5,8] (.seq .none (.cond .none .none)) .none))))) .none))))) (.seq .none .none))
theorem Nu(A:Amb)(m_0:Sl)(l:Sl)(h:Heap)(R:Value→Heap→Prop):FY A m_0 l h R=AX A P Dw Ny [.agg #[.slice m_0.p m_0.len m_0.cap],.slice l.p l.len l.cap] h R:=by kernel_rfl
theorem NQ {A:Amb}{m_0:Sl}{l:Sl}{h:Heap}{R:Value→Heap→Prop}(H:FY A m_0 l h R):AA A P Dw #[.agg #[.slice m_0.p m_0.len m_0.cap],.slice l.p l.len l.cap] h R:=
 AJ mixed (Nu A m_0 l h R▸H)
def Gu(A:Amb)(m_0:Sl)(key:ByteArray)(h:Heap)(R:Value→Heap→Prop):Prop:=
 New h (.cells #[.slice m_0.p m_0.len m_0.cap] Co) fun b h1=>
 Loop (fun K (s:Int×Unit) h2=>
 Join (fun(r:Bool×Unit) h3=>
 PIf r.1 (
 K ((IntKind.wrap .i64 (s.1+(1:Int))),()) h3) (
 AZ h3 (⟨b,0,none⟩:Addr) fun t27=>
 PIf (decide (s.1<((t27.len:Nat):Int))) (
 AZ h3 (⟨b,0,none⟩:Addr) fun t32=>
 Idx t32.p t32.len s.1 fun a=>
 AL h3 (a.add (s.1.toNat*3)) fun t36=>
 R (.tuple #[.int .i64 s.1,.bool (sEq t36 key)]) h3) (
 R (.tuple #[.int .i64 s.1,.bool false]) h3))) fun K1=>
 AZ h2 (⟨b,0,none⟩:Addr) fun t9=>
 PIf (decide (s.1<((t9.len:Nat):Int))) (
 AZ h2 (⟨b,0,none⟩:Addr) fun t14=>
 Idx t14.p t14.len s.1 fun a1=>
 AL h2 (a1.add (s.1.toNat*3)) fun t18=>
 K1 ((sLt t18 key),()) h2) (
 K1 (false,()) h2)) (0,()) h1
def Qf:Ann:= .seq .none (.seq .none (.seq (.block (.loop [(6,.one (.int .i64))] [1,2] (.seq (.seq (.reg [(21,.one .bool)] [1,2,6]) (.cond .none .none)) (.block .none)))) (.seq .none .none)))
theorem Qa(A:Amb)(m_0:Sl)(key:ByteArray)(h:Heap)(R:Value→Heap→Prop):Gu A m_0 key h R=AX A P Dp Qf [.agg #[.slice m_0.p m_0.len m_0.cap],.string key] h R:=by kernel_rfl
theorem Pj {A:Amb}{m_0:Sl}{key:ByteArray}{h:Heap}{R:Value→Heap→Prop}(H:Gu A m_0 key h R):AA A P Dp #[.agg #[.slice m_0.p m_0.len m_0.cap],.string key] h R:=
 AJ mixed (Qa A m_0 key h R▸H)
def Mv(A:Amb)(d:Option Addr)(vfrom:ByteArray)(vto:ByteArray)(most:Int)(h:Heap)(R:Value→Heap→Prop):Prop:=
 Join (fun(r:Bool×Unit) h1=>
 PIf r.1 (
 R (.tuple #[.slice none 0 0,.int .i64 30]) h1) (
 AA A P Kw #[.pointer d,.string vfrom,.string vto] h1 fun v h2=> ∃t21:Value,v=t21∧(
 AA A P I9 #[t21] h2 fun v1 h3=> ∃t22:Value,v1=t22∧(
 AA A P Ha #[t22,.string vto,.int .i64 most] h3 fun v2 h4=> ∃t25:Sl,v2= .slice t25.p t25.len t25.cap∧(
 R (.tuple #[.slice t25.p t25.len t25.cap,.int .i64 0]) h4))))) fun K=>
 PIf (d.isNone) (
 K (true,()) h) (
 At d fun a=>
 Ab h (a.add 8) fun t16=>
 K (t16,()) h)
def AA1:Ann:= .seq .none (.seq (.seq (.reg [(17,.one .bool)] [0,1,2,3]) (.cond (.seq .none .none) .none)) (.seq .none .none))
theorem AAx(A:Amb)(d:Option Addr)(vfrom:ByteArray)(vto:ByteArray)(most:Int)(h:Heap)(R:Value→Heap→Prop):Mv A d vfrom vto most h R=AX A P Jy AA1 [.pointer d,.string vfrom,.string vto,.int .i64 most] h R:=by kernel_rfl
theorem ZV {A:Amb}{d:Option Addr}{vfrom:ByteArray}{vto:ByteArray}{most:Int}{h:Heap}{R:Value→Heap→Prop}(H:Mv A d vfrom vto most h R):AA A P Jy #[.pointer d,.string vfrom,.string vto,.int .i64 most] h R:=
 AJ mixed (AAx A d vfrom vto most h R▸H)
def QN(A:Amb)(vprefix:ByteArray)(h:Heap)(R:Value→Heap→Prop):Prop:=
 Loop (fun K (s:Int×Unit) h1=>
 PIf (decide (s.1≥(0:Int))) (
 Chk ((0:Int)≤s.1∧s.1<(vprefix.size:Int))<|
 PIf (decide ((sAt vprefix s.1)<(255:Int))) (
 Chk ((0:Int)≤s.1∧s.1≤((vprefix.size:Nat):Int))<|
 Chk ((0:Int)≤s.1∧s.1<(vprefix.size:Int))<|
 New h1 (.cells #[.int .u8 (IntKind.wrap .u8 ((sAt vprefix s.1)+(1:Int)))] Ci) fun b h2=>
 BK A P (convert CO Ad (.slice (some (⟨b,0,none⟩:Addr)) 1 1)) h2 fun v h3=> ∃t23:ByteArray,v= .string t23∧(
 Chk ((((vprefix.extract 0 s.1.toNat).size+t23.size:Nat):Int)≤IntKind.i64.max)<|
 R (.string ((vprefix.extract 0 s.1.toNat)++t23)) h3)) (
 K ((IntKind.wrap .i64 (s.1-(1:Int))),()) h1)) (
 R (.string (⟨#[]⟩:ByteArray)) h1)) ((IntKind.wrap .i64 ((vprefix.size:Int)-(1:Int))),()) h
def AEQ:Ann:= .seq .none (.seq (.seq .none (.block (.loop [(3,.one (.int .i64))] [0] (.seq (.seq .none (.cond .none .none)) (.seq (.block (.seq .none (.cond (.seq .none .none) .none))) .none))))) (.seq .none .none))
theorem AFA(A:Amb)(vprefix:ByteArray)(h:Heap)(R:Value→Heap→Prop):QN A vprefix h R=AX A P Mc AEQ [.string vprefix] h R:=by kernel_rfl
theorem ACh {A:Amb}{vprefix:ByteArray}{h:Heap}{R:Value→Heap→Prop}(H:QN A vprefix h R):AA A P Mc #[.string vprefix] h R:=
 AJ mixed (AFA A vprefix h R▸H)
def I5(A:Amb)(d:Option Addr)(h:Heap)(R:Value→Heap→Prop):Prop:=
 Join (fun(r:Bool×Unit) h1=>
 PIf r.1 (
 R (.int .i64 30) h1) (
 At d fun a=>
 AP h1 (a.add 3) fun t22=>
 AA A P GD #[.pointer t22] h1 fun v h2=> ∃t23a:Int,∃t23b:Int,v= .tuple #[.int .i64 t23a,.int .i64 t23b]∧(
 PIf (t23a==(0:Int)) (
 R (.int .i64 0) h2) (
 At d fun a1=>
 Aa .i64 h2 (a1.add 6) fun t33=>
 At d fun a2=>
 AP h2 (a2.add 3) fun t37=>
 AA A P FN #[.pointer t37,.string (⟨#[]⟩:ByteArray)] h2 fun v1 h3=> ∃t38:Value,v1=t38∧(
 And (hget h3 (a1.add 6)=some (.int .i64 t33))<|
 AA A P Br #[t38] h3 fun v2 h4=> ∃t39:Sl,v2= .slice t39.p t39.len t39.cap∧(
 And (hget h4 (a1.add 6)=some (.int .i64 t33))<|
 AA A P JF #[.pointer d,.int .i64 t33,.slice t39.p t39.len t39.cap] h4 fun v3 h5=> ∃t40a:Option Addr,∃t40b:Int,v3= .tuple #[.pointer t40a,.int .i64 t40b]∧(
 PIf (t40b != (0:Int)) (
 AA A P Bj #[.pointer d,.int .i64 t40b] h5 fun v4 h6=> ∃t47:Int,v4= .int .i64 t47∧(
 R (.int .i64 t47) h6)) (
 At d fun a3=>
 AP h5 (a3.add 1) fun t52=>
 AA A P ER #[.pointer t52] h5 fun v5 h7=> ∃t53a:Int,∃t53b:Int,v5= .tuple #[.int .i64 t53a,.int .i64 t53b]∧(
 PIf (t53b != (0:Int)) (
 AA A P Bj #[.pointer d,.int .i64 t53b] h7 fun v6 h8=> ∃t60:Int,v6= .int .i64 t60∧(
 R (.int .i64 t60) h8)) (
 Join (fun(r1:Unit) h9=>
 At d fun a4=>
 Aa .i64 h9 (a4.add 6) fun t89=>
 At d fun a5=>
 Store h9 (a5.add 6) (.int .i64 (IntKind.wrap .i64 (t89+(1:Int)))) fun h10=>
 At d fun a6=>
 Store h10 (a6.add 7) (.int .i64 (IntKind.wrap .i64 (t53a+(1:Int)))) fun h11=>
 AA A P GI #[.pointer d] h11 fun v7 h12=> ∃t98:Int,v7= .int .i64 t98∧(
 PIf (t98 != (0:Int)) (
 AA A P Bj #[.pointer d,.int .i64 t98] h12 fun v8 h13=> ∃t103:Int,v8= .int .i64 t103∧(
 R (.int .i64 t103) h13)) (
 AA A P LZ #[] h12 fun v9 h14=> ∃t105:Option Addr,v9= .pointer t105∧(
 At d fun a7=>
 Store h14 (a7.add 3) (.pointer t105) fun h15=>
 At d fun a8=>
 AP h15 (a8.add 1) fun t111=>
 AA A P FP #[.pointer t111,.int .i64 t53a] h15 fun v10 h16=> ∃t113:Int,v10= .int .i64 t113∧(
 PIf (t113 != (0:Int)) (
 AA A P Bj #[.pointer d,.int .i64 t113] h16 fun v11 h17=> ∃t118:Int,v11= .int .i64 t118∧(
 R (.int .i64 t118) h17)) (
 At d fun a9=>
 AZ h16 (a9.add 4) fun t122=>
 PIf (decide (((t122.len:Nat):Int)≥(4:Int))) (
 AA A P Df #[.pointer d] h16 fun v12 h18=> ∃t126:Int,v12= .int .i64 t126∧(
 R (.int .i64 t126) h18)) (
 R (.int .i64 0) h16))))))) fun K1=>
 At d fun a10=>
 AZ h7 (a10.add 4) fun t66=>
 At d fun a11=>
 AZ h7 (a11.add 5) fun t73=>
 At d fun a12=>
 Aa .i64 h7 (a12.add 6) fun t77=>
 And (
 New h7 (.cells #[.pointer t40a] Au) fun b h19=>
 And (hget h19 (a12.add 6)=some (.int .i64 t77))<|
 And (hget h19 (a11.add 5)=some (.slice t73.p t73.len t73.cap))<|
 And (hget h19 (a10.add 4)=some (.slice t66.p t66.len t66.cap))<|
 And (
 AA A P Aj #[.slice t66.p t66.len t66.cap,.int .i64 0,.slice (some (⟨b,0,none⟩:Addr)) 1 1] h19 fun v13 h20=> ∃t69:Sl,v13= .slice t69.p t69.len t69.cap∧(
 And (hget h20 (a12.add 6)=some (.int .i64 t77))<|
 And (hget h20 (a11.add 5)=some (.slice t73.p t73.len t73.cap))<|
 New h20 (.cells #[.int .i64 t77] BL) fun b1 h21=>
 And (hget h21 (a11.add 5)=some (.slice t73.p t73.len t73.cap))<|
 And (hget h21 (a10.add 4)=some (.slice t66.p t66.len t66.cap))<|
 AA A P Bq #[.slice t73.p t73.len t73.cap,.int .i64 0,.slice (some (⟨b1,0,none⟩:Addr)) 1 1] h21 fun v14 h22=> ∃t79:Sl,v14= .slice t79.p t79.len t79.cap∧(
 At d fun a13=>
 Store h22 (a13.add 4) (.slice t69.p t69.len t69.cap) fun h23=>
 At d fun a14=>
 Store h23 (a14.add 5) (.slice t79.p t79.len t79.cap) fun h24=>
 K1 () h24)))<|
 New h19 (.cells #[.int .i64 t77] BL) fun b2 h25=>
 And (hget h25 (a11.add 5)=some (.slice t73.p t73.len t73.cap))<|
 And (hget h25 (a10.add 4)=some (.slice t66.p t66.len t66.cap))<|
 AA A P Aj #[.slice t66.p t66.len t66.cap,.int .i64 0,.slice (some (⟨b,0,none⟩:Addr)) 1 1] h25 fun v15 h26=> ∃t69_1:Sl,v15= .slice t69_1.p t69_1.len t69_1.cap∧(
 And (hget h26 (a12.add 6)=some (.int .i64 t77))<|
 And (hget h26 (a11.add 5)=some (.slice t73.p t73.len t73.cap))<|
 AA A P Bq #[.slice t73.p t73.len t73.cap,.int .i64 0,.slice (some (⟨b2,0,none⟩:Addr)) 1 1] h26 fun v16 h27=> ∃t79_1:Sl,v16= .slice t79_1.p t79_1.len t79_1.cap∧(
 At d fun a15=>
 Store h27 (a15.add 4) (.slice t69_1.p t69_1.len t69_1.cap) fun h28=>
 At d fun a16=>
 Store h28 (a16.add 5) (.slice t79_1.p t79_1.len t79_1.cap) fun h29=>
 K1 () h29)))<|
 New h7 (.cells #[.int .i64 t77] BL) fun b3 h30=>
 And (hget h30 (a11.add 5)=some (.slice t73.p t73.len t73.cap))<|
 And (hget h30 (a10.add 4)=some (.slice t66.p t66.len t66.cap))<|
 New h30 (.cells #[.pointer t40a] Au) fun b4 h31=>
 And (hget h31 (a12.add 6)=some (.int .i64 t77))<|
 And (hget h31 (a11.add 5)=some (.slice t73.p t73.len t73.cap))<|
 And (hget h31 (a10.add 4)=some (.slice t66.p t66.len t66.cap))<|
 AA A P Aj #[.slice t66.p t66.len t66.cap,.int .i64 0,.slice (some (⟨b4,0,none⟩:Addr)) 1 1] h31 fun v17 h32=> ∃t69_2:Sl,v17= .slice t69_2.p t69_2.len t69_2.cap∧(
 And (hget h32 (a12.add 6)=some (.int .i64 t77))<|
 And (hget h32 (a11.add 5)=some (.slice t73.p t73.len t73.cap))<|
 AA A P Bq #[.slice t73.p t73.len t73.cap,.int .i64 0,.slice (some (⟨b3,0,none⟩:Addr)) 1 1] h32 fun v18 h33=> ∃t79_2:Sl,v18= .slice t79_2.p t79_2.len t79_2.cap∧(
 At d fun a17=>
 Store h33 (a17.add 4) (.slice t69_2.p t69_2.len t69_2.cap) fun h34=>
 At d fun a18=>
 Store h34 (a18.add 5) (.slice t79_2.p t79_2.len t79_2.cap) fun h35=>
 K1 () h35)))))))))))) fun K=>
 PIf (d.isNone) (
 K (true,()) h) (
 At d fun a19=>
 Ab h (a19.add 8) fun t16=>
 K (t16,()) h)
def ZK:Ann:= .seq .none (.seq (.seq (.reg [(17,.one .bool)] [0]) (.cond (.seq .none .none) .none)) (.seq (.seq .none (.seq .none (.cond (.seq .none .none) .none))) (.seq .none (.seq (.seq .none (.cond (.seq .none .none) .none)) (.seq .none (.seq (.seq .none (.cond (.seq .none .none) .none)) (.seq (.reg [] [0,7]) (.seq .none (.seq (.seq .none (.seq .none (.cond (.seq .none .none) .none))) (.seq .none (.seq (.seq .none (.seq .none (.cond (.seq .none .none) .none))) (.seq (.seq .none (.cond (.seq .none .none) .none)) (.seq .none .none)))))))))))))
theorem Yf(A:Amb)(d:Option Addr)(h:Heap)(R:Value→Heap→Prop):I5 A d h R=AX A P FZ ZK [.pointer d] h R:=by kernel_rfl
theorem PU {A:Amb}{d:Option Addr}{h:Heap}{R:Value→Heap→Prop}(H:I5 A d h R):AA A P FZ #[.pointer d] h R:=
 AJ mixed (Yf A d h R▸H)
def IA(A:Amb)(d:Option Addr)(h:Heap)(R:Value→Heap→Prop):Prop:=
 Join (fun(r:Bool×Unit) h1=>
 PIf r.1 (
 R (.int .i64 30) h1) (
 At d fun a=>
 AZ h1 (a.add 4) fun t25=>
 PIf (decide (((t25.len:Nat):Int)<(2:Int))) (
 R (.int .i64 0) h1) (
 At d fun a1=>
 AZ h1 (a1.add 4) fun t31=>
 Loop (fun K1 (s:Sl×Int×Unit) h2=>
 PIf (decide (s.2.1<((t31.len:Nat):Int))) (
 Idx t31.p t31.len s.2.1 fun a2=>
 AP h2 (a2.add (s.2.1.toNat*1)) fun t36=>
 AA A P EY #[.pointer t36,.string (⟨#[]⟩:ByteArray)] h2 fun v h3=> ∃t39:Value,v=t39∧(
 T9 (Jj t39)<|
 New h3 (.cells #[t39] BN) fun b h4=>
 BK A P (Builtin.append_ #[Am,Am] Am #[.slice s.1.p s.1.len s.1.cap,.slice (some (⟨b,0,none⟩:Addr)) 1 1]) h4 fun v1 h5=> ∃t41:Sl,v1= .slice t41.p t41.len t41.cap∧(
 K1 ((⟨t41.p,t41.len,t41.cap⟩:Sl),(IntKind.wrap .i64 (s.2.1+(1:Int))),()) h5))) (
 AA A P KA #[.slice s.1.p s.1.len s.1.cap] h2 fun v2 h6=> ∃t44:Value,v2=t44∧(
 AA A P I9 #[t44] h6 fun v3 h7=> ∃t45:Value,v3=t45∧(
 AA A P Br #[t45] h7 fun v4 h8=> ∃t46:Sl,v4= .slice t46.p t46.len t46.cap∧(
 At d fun a3=>
 AZ h8 (a3.add 5) fun t50=>
 At d fun a4=>
 Store h8 (a4.add 5) (.slice none 0 0) fun h9=>
 At d fun a5=>
 Store h9 (a5.add 4) (.slice none 0 0) fun h10=>
 Join (fun(s1:Unit) h11=>
 AA A P GI #[.pointer d] h11 fun v5 h12=> ∃t96:Int,v5= .int .i64 t96∧(
 PIf (t96 != (0:Int)) (
 AA A P Bj #[.pointer d,.int .i64 t96] h12 fun v6 h13=> ∃t101:Int,v6= .int .i64 t101∧(
 R (.int .i64 t101) h13)) (
 Loop (fun K3 (s2:Int×Unit) h14=>
 PIf (decide (s2.1<((t50.len:Nat):Int))) (
 Idx t50.p t50.len s2.1 fun a6=>
 Aa .i64 h14 (a6.add (s2.1.toNat*1)) fun t107=>
 At d fun a7=>
 AP h14 a7 fun t111=>
 AA A P Fp #[.int .i64 t107] h14 fun v7 h15=> ∃t113:ByteArray,v7= .string t113∧(
 And (hget h15 a7=some (.pointer t111))<|
 AA A P EU #[.pointer t111,.string t113] h15 fun v8 h16=> ∃t114:Int,v8= .int .i64 t114∧(
 PIf (t114 != (0:Int)) (
 AA A P Bj #[.pointer d,.int .i64 t114] h16 fun v9 h17=> ∃t119:Int,v9= .int .i64 t119∧(
 R (.int .i64 t119) h17)) (
 K3 ((IntKind.wrap .i64 (s2.1+(1:Int))),()) h16)))) (
 R (.int .i64 0) h14)) (0,()) h12))) fun K2=>
 PIf (decide (((t46.len:Nat):Int)>(0:Int))) (
 At d fun a8=>
 Aa .i64 h10 (a8.add 6) fun t65=>
 AA A P JF #[.pointer d,.int .i64 t65,.slice t46.p t46.len t46.cap] h10 fun v10 h18=> ∃t67a:Option Addr,∃t67b:Int,v10= .tuple #[.pointer t67a,.int .i64 t67b]∧(
 PIf (t67b != (0:Int)) (
 AA A P Bj #[.pointer d,.int .i64 t67b] h18 fun v11 h19=> ∃t74:Int,v11= .int .i64 t74∧(
 R (.int .i64 t74) h19)) (
 New h18 (.cells #[.pointer t67a] Au) fun b1 h20=>
 At d fun a9=>
 Aa .i64 h20 (a9.add 6) fun t82=>
 New h20 (.cells #[.int .i64 t82] BL) fun b2 h21=>
 At d fun a10=>
 Store h21 (a10.add 4) (.slice (some (⟨b1,0,none⟩:Addr)) 1 1) fun h22=>
 At d fun a11=>
 Store h22 (a11.add 5) (.slice (some (⟨b2,0,none⟩:Addr)) 1 1) fun h23=>
 At d fun a12=>
 Aa .i64 h23 (a12.add 6) fun t91=>
 At d fun a13=>
 Store h23 (a13.add 6) (.int .i64 (IntKind.wrap .i64 (t91+(1:Int)))) fun h24=>
 K2 () h24))) (
 K2 () h10)))))) ((⟨none,0,0⟩:Sl),0,()) h1))) fun K=>
 PIf (d.isNone) (
 K (true,()) h) (
 At d fun a14=>
 Ab h (a14.add 8) fun t20=>
 K (t20,()) h)
def WL:Ann:= .seq .none (.seq (.seq (.reg [(21,.one .bool)] [0]) (.cond (.seq .none .none) .none)) (.seq (.seq .none (.cond (.seq .none .none) .none)) (.seq .none (.seq (.seq .none (.block (.loop [(3,.one .sl),(33,.one (.int .i64))] [0,31,32] (.seq .none (.seq (.cond .none .none) (.seq (.block (.seq .none .none)) .none)))))) (.seq .none (.seq .none (.seq .none (.seqJ [] [0,7] (.seq .none (.cond (.seq .none (.seq (.seq .none (.cond (.seq .none .none) .none)) (.seq .none .none))) .none)) (.seq (.seq .none (.seq .none (.cond (.seq .none .none) .none))) (.seq (.seq .none (.block (.loop [(104,.one (.int .i64))] [0,102,103] (.seq .none (.seq (.cond .none .none) (.seq (.block (.seq .none (.seq .none (.seq .none (.cond (.seq .none .none) .none))))) .none)))))) (.seq .none .none)))))))))))
theorem Vu(A:Amb)(d:Option Addr)(h:Heap)(R:Value→Heap→Prop):IA A d h R=AX A P Df WL [.pointer d] h R:=by kernel_rfl
theorem Mi {A:Amb}{d:Option Addr}{h:Heap}{R:Value→Heap→Prop}(H:IA A d h R):AA A P Df #[.pointer d] h R:=
 AJ mixed (Vu A d h R▸H)
def PL(A:Amb)(s:ByteArray)(h:Heap)(R:Value→Heap→Prop):Prop:=
 Join (fun(r:Bool×Unit) h1=>
 PIf r.1 (
 R (.bool false) h1) (
 Loop (fun K1 (s1:Int×Unit) h2=>
 PIf (decide (s1.1<(s.size:Int))) (
 Join (fun(r1:Bool×Unit) h3=>
 PIf r1.1 (
 R (.bool false) h3) (
 K1 ((IntKind.wrap .i64 (s1.1+(1:Int))),()) h3)) fun K2=>
 Chk ((0:Int)≤s1.1∧s1.1<(s.size:Int))<|
 PIf (decide ((sAt s s1.1)≤(32:Int))) (
 K2 (true,()) h2) (
 Chk ((0:Int)≤s1.1∧s1.1<(s.size:Int))<|
 K2 ((decide ((sAt s s1.1)>(126:Int))),()) h2)) (
 R (.bool true) h2)) (0,()) h1)) fun K=>
 PIf (sEq s (⟨#[]⟩:ByteArray)) (
 K (true,()) h) (
 K ((decide ((s.size:Int)>(16:Int))),()) h)
def AC8:Ann:= .seq .none (.seq (.seq (.reg [(10,.one .bool)] [0]) (.cond (.seq .none .none) .none)) (.seq (.seq .none (.block (.loop [(13,.one (.int .i64))] [0,12] (.seq .none (.seq (.cond .none .none) (.seq (.block (.seq .none (.seq (.reg [(25,.one .bool)] [0,12,13]) (.cond (.seq .none .none) .none)))) .none)))))) (.seq .none .none)))
theorem ACZ(A:Amb)(s:ByteArray)(h:Heap)(R:Value→Heap→Prop):PL A s h R=AX A P JN AC8 [.string s] h R:=by kernel_rfl
theorem AAw {A:Amb}{s:ByteArray}{h:Heap}{R:Value→Heap→Prop}(H:PL A s h R):AA A P JN #[.string s] h R:=
 AJ mixed (ACZ A s h R▸H)
def Oy(A:Amb)(n:Int)(h:Heap)(R:Value→Heap→Prop):Prop:=
 AA A P Ox #[.int .i64 n] h fun v h1=> ∃t4:ByteArray,v= .string t4∧(
 Chk ((((⟨#[108]⟩:ByteArray).size+t4.size:Nat):Int)≤IntKind.i64.max)<|
 R (.string ((⟨#[108]⟩:ByteArray)++t4)) h1)
def ADI:Ann:= .seq .none (.seq .none .none)
theorem ACP(A:Amb)(n:Int)(h:Heap)(R:Value→Heap→Prop):Oy A n h R=AX A P Ep ADI [.int .i64 n] h R:=by kernel_rfl
theorem AAK {A:Amb}{n:Int}{h:Heap}{R:Value→Heap→Prop}(H:Oy A n h R):AA A P Ep #[.int .i64 n] h R:=
 AJ mixed (ACP A n h R▸H)
def Qo(A:Amb)(n:Int)(host:ByteArray)(h:Heap)(R:Value→Heap→Prop):Prop:=
 Join (fun(r:Bool×Unit) h1=>
 PIf r.1 (
 R (.tuple #[.string (⟨#[]⟩:ByteArray),.int .i64 1]) h1) (
 AA A P CG #[.int .u64 (IntKind.wrap .u64 n)] h1 fun v h2=> ∃t19:ByteArray,v= .string t19∧(
 AA A P Dt #[.string host] h2 fun v1 h3=> ∃t21:ByteArray,v1= .string t21∧(
 Chk (((t19.size+t21.size:Nat):Int)≤IntKind.i64.max)<|
 R (.tuple #[.string (t19++t21),.int .i64 0]) h3)))) fun K=>
 PIf (decide (n<(1:Int))) (
 K (true,()) h) (
 PIf (decide (n>(2147483647:Int))) (
 K (true,()) h) (
 AA A P JN #[.string host] h fun v2 h4=> ∃t14:Bool,v2= .bool t14∧(
 K ((!t14),()) h4)))
def AD4:Ann:= .seq .none (.seq (.seq (.reg [(16,.one .bool)] [0,1]) (.cond (.seq .none .none) .none)) (.seq .none .none))
theorem ADf(A:Amb)(n:Int)(host:ByteArray)(h:Heap)(R:Value→Heap→Prop):Qo A n host h R=AX A P G9 AD4 [.int .i64 n,.string host] h R:=by kernel_rfl
theorem ACS {A:Amb}{n:Int}{host:ByteArray}{h:Heap}{R:Value→Heap→Prop}(H:Qo A n host h R):AA A P G9 #[.int .i64 n,.string host] h R:=
 AJ mixed (ADf A n host h R▸H)
def NG(A:Amb)(s:ByteArray)(h:Heap)(R:Value→Heap→Prop):Prop:=
 AA A P Ff #[.string s] h fun v h1=> ∃t11:Option Addr,v= .pointer t11∧(
 AA A P BI #[.pointer t11,.int .i64 2147483647] h1 fun v1 h2=> ∃t13:Int,v1= .int .i64 t13∧(
 AA A P Cc #[.pointer t11] h2 fun v2 h3=> ∃t15:ByteArray,v2= .string t15∧(
 AA A P G9 #[.int .i64 t13,.string t15] h3 fun v3 h4=> ∃t19a:ByteArray,∃t19b:Int,v3= .tuple #[.string t19a,.int .i64 t19b]∧(
 Join (fun(r:Bool×Unit) h5=>
 PIf r.1 (
 R (.tuple #[.int .i64 0,.string (⟨#[]⟩:ByteArray),.int .i64 60]) h5) (
 R (.tuple #[.int .i64 t13,.string t15,.int .i64 0]) h5)) fun K=>
 PIf (t19b != (0:Int)) (
 K (true,()) h4) (
 AA A P Cq #[.pointer t11] h4 fun v4 h6=> ∃t26:Bool,v4= .bool t26∧(
 K ((!t26),()) h6))))))
def AAJ:Ann:= .seq .none (.seq .none (.seq .none (.seq (.seq .none (.seq (.reg [(28,.one .bool)] [6,7]) (.cond (.seq .none .none) .none))) (.seq .none .none))))
theorem AAh(A:Amb)(s:ByteArray)(h:Heap)(R:Value→Heap→Prop):NG A s h R=AX A P J3 AAJ [.string s] h R:=by kernel_rfl
theorem YC {A:Amb}{s:ByteArray}{h:Heap}{R:Value→Heap→Prop}(H:NG A s h R):AA A P J3 #[.string s] h R:=
 AJ mixed (AAh A s h R▸H)
def TP(A:Amb)(b:Option Addr)(name:ByteArray)(h:Heap)(R:Value→Heap→Prop):Prop:=
 PIf (b.isNone) (
 R (.tuple #[.pointer none,.slice none 0 0,.int .i64 30]) h) (
 Join (fun(r:Bool×Unit) h1=>
 PIf r.1 (
 R (.tuple #[.pointer none,.slice none 0 0,.int .i64 1]) h1) (
 AA A P HZ #[.pointer b,.string name] h1 fun v h2=> ∃t29a:Sl,∃t29b:Int,v= .tuple #[.slice t29a.p t29a.len t29a.cap,.int .i64 t29b]∧(
 PIf (t29b != (0:Int)) (
 R (.tuple #[.pointer none,.slice none 0 0,.int .i64 t29b]) h2) (
 Loop (fun K1 (s:Sl×Int×Int×Unit) h3=>
 PIf (decide (s.2.2.1<((t29a.len:Nat):Int))) (
 Idx t29a.p t29a.len s.2.2.1 fun a=>
 Aa .i64 h3 (a.add (s.2.2.1.toNat*1)) fun t40=>
 AA A P Gt #[.string name,.int .i64 t40] h3 fun v1 h4=> ∃t45:ByteArray,v1= .string t45∧(
 AA A P FV #[.pointer b,.string t45] h4 fun v2 h5=> ∃t46a:ByteArray,∃t46b:Int,v2= .tuple #[.string t46a,.int .i64 t46b]∧(
 PIf (t46b != (0:Int)) (
 R (.tuple #[.pointer none,.slice none 0 0,.int .i64 t46b]) h5) (
 AA A P Hw #[.string t46a] h5 fun v3 h6=> ∃t54a:Sl,∃t54b:Int,v3= .tuple #[.slice t54a.p t54a.len t54a.cap,.int .i64 t54b]∧(
 BK A P (Builtin.append_ #[Bf,Bf] Bf #[.slice s.1.p s.1.len s.1.cap,.slice t54a.p t54a.len t54a.cap]) h6 fun v4 h7=> ∃t59:Sl,v4= .slice t59.p t59.len t59.cap∧(
 K1 ((⟨t59.p,t59.len,t59.cap⟩:Sl),t40,(IntKind.wrap .i64 (s.2.2.1+(1:Int))),()) h7)))))) (
 PIf (s.2.1==(99999999:Int)) (
 R (.tuple #[.pointer none,.slice none 0 0,.int .i64 2]) h3) (
 New h3 (.cells #[.pointer b,.string name,.int .i64 (IntKind.wrap .i64 (s.2.1+(1:Int))),.bool false] WR) fun b1 h8=>
 R (.tuple #[.pointer (some (⟨b1,0,none⟩:Addr)),.slice s.1.p s.1.len s.1.cap,.int .i64 0]) h8))) ((⟨none,0,0⟩:Sl),0,0,()) h2)))) fun K=>
 PIf (sEq name (⟨#[]⟩:ByteArray)) (
 K (true,()) h) (
 K ((decide ((name.size:Int)>(8:Int))),()) h))
def AGY:Ann:= .seq .none (.seq (.seq .none (.cond (.seq .none .none) .none)) (.seq (.seq (.reg [(25,.one .bool)] [0,1]) (.cond (.seq .none .none) .none)) (.seq .none (.seq (.seq .none (.cond (.seq .none .none) .none)) (.seq .none (.seq .none (.seq (.seq .none (.block (.loop [(9,.one .sl),(10,.one (.int .i64)),(37,.one (.int .i64))] [0,1,35,36] (.seq .none (.seq (.cond .none .none) (.seq (.block (.seq .none (.seq .none (.seq (.seq .none (.cond (.seq .none .none) .none)) (.seq .none (.seq .none .none)))))) .none)))))) (.seq (.seq .none (.cond (.seq .none .none) .none)) (.seq .none .none)))))))))
theorem AGb(A:Amb)(b:Option Addr)(name:ByteArray)(h:Heap)(R:Value→Heap→Prop):TP A b name h R=AX A P MB AGY [.pointer b,.string name] h R:=by kernel_rfl
theorem AES {A:Amb}{b:Option Addr}{name:ByteArray}{h:Heap}{R:Value→Heap→Prop}(H:TP A b name h R):AA A P MB #[.pointer b,.string name] h R:=
 AJ mixed (AGb A b name h R▸H)
def WJ(A:Amb)(h:Heap)(R:Value→Heap→Prop):Prop:=
 New h (.cells #[.string (⟨#[]⟩:ByteArray),.string (⟨#[]⟩:ByteArray),.bool false,.pointer none,.pointer none,.pointer none,.pointer none,.pointer none,.pointer none,.pointer none,.pointer none,.pointer none,.pointer none,.pointer none,.pointer none,.int .i64 0,.int .i64 0] Wv) fun b h1=>
 R (.pointer (some (⟨b,0,none⟩:Addr))) h1
def AID:Ann:= .seq .none (.seq .none .none)
theorem AIJ(A:Amb)(h:Heap)(R:Value→Heap→Prop):WJ A h R=AX A P LZ AID [] h R:=by kernel_rfl
theorem AF9 {A:Amb}{h:Heap}{R:Value→Heap→Prop}(H:WJ A h R):AA A P LZ #[] h R:=
 AJ mixed (AIJ A h R▸H)
def Q3(A:Amb)(s:ByteArray)(h:Heap)(R:Value→Heap→Prop):Prop:=
 New h (.cells #[.string s,.bool false] Rx) fun b h1=>
 R (.pointer (some (⟨b,0,none⟩:Addr))) h1
def AE2:Ann:= .seq .none (.seq .none .none)
theorem ADu(A:Amb)(s:ByteArray)(h:Heap)(R:Value→Heap→Prop):Q3 A s h R=AX A P Ff AE2 [.string s] h R:=by kernel_rfl
theorem ACC {A:Amb}{s:ByteArray}{h:Heap}{R:Value→Heap→Prop}(H:Q3 A s h R):AA A P Ff #[.string s] h R:=
 AJ mixed (ADu A s h R▸H)
def JO(A:Amb)(r:Option Addr)(most:Int)(h:Heap)(R:Value→Heap→Prop):Prop:=
 AA A P Eo #[.pointer r] h fun v h1=> ∃t7:Int,v= .int .u64 t7∧(
 Join (fun(r1:Bool×Unit) h2=>
 PIf r1.1 (
 R (.int .i64 0) h2) (
 Join (fun(r2:Bool×Unit) h3=>
 PIf r2.1 (
 At r fun a=>
 Store h3 a (.string (⟨#[]⟩:ByteArray)) fun h4=>
 At r fun a1=>
 Store h4 (a1.add 1) (.bool true) fun h5=>
 R (.int .i64 0) h5) (
 R (.int .i64 (IntKind.wrap .i64 t7)) h3)) fun K1=>
 PIf (decide (most<(0:Int))) (
 K1 (true,()) h2) (
 K1 ((decide (t7>(IntKind.wrap .u64 most))),()) h2))) fun K=>
 PIf (r.isNone) (
 K (true,()) h1) (
 At r fun a2=>
 Ab h1 (a2.add 1) fun t14=>
 K (t14,()) h1))
def UF:Ann:= .seq .none (.seq .none (.seq (.seq (.reg [(15,.one .bool)] [0,1,5]) (.cond (.seq .none .none) .none)) (.seq (.seq (.reg [(23,.one .bool)] [0,5]) (.cond (.seq .none (.seq .none .none)) .none)) (.seq .none .none))))
theorem Uk(A:Amb)(r:Option Addr)(most:Int)(h:Heap)(R:Value→Heap→Prop):JO A r most h R=AX A P BI UF [.pointer r,.int .i64 most] h R:=by kernel_rfl
theorem SB {A:Amb}{r:Option Addr}{most:Int}{h:Heap}{R:Value→Heap→Prop}(H:JO A r most h R):AA A P BI #[.pointer r,.int .i64 most] h R:=
 AJ mixed (Uk A r most h R▸H)
def JC(A:Amb)(r:Option Addr)(h:Heap)(R:Value→Heap→Prop):Prop:=
 PIf (!r.isNone) (
 At r fun a=>
 Ab h (a.add 1) fun t9=>
 PIf (!t9) (
 At r fun a1=>
 AL h a1 fun t16=>
 R (.bool (sEq t16 (⟨#[]⟩:ByteArray))) h) (
 R (.bool false) h)) (
 R (.bool false) h)
def UA:Ann:= .seq .none (.seq .none .none)
theorem Uj(A:Amb)(r:Option Addr)(h:Heap)(R:Value→Heap→Prop):JC A r h R=AX A P Cq UA [.pointer r] h R:=by kernel_rfl
theorem TW {A:Amb}{r:Option Addr}{h:Heap}{R:Value→Heap→Prop}(H:JC A r h R):AA A P Cq #[.pointer r] h R:=
 AJ mixed (Uj A r h R▸H)
def MK(A:Amb)(b:Option Addr)(name:ByteArray)(h:Heap)(R:Value→Heap→Prop):Prop:=
 AA A P EP #[.pointer b] h fun v h1=> ∃t8:Bool,v= .bool t8∧(
 PIf t8 (
 R (.tuple #[.string (⟨#[]⟩:ByteArray),.int .i64 30]) h1) (
 At b fun a=>
 DC h1 a fun t12=>
 BK A P (Instr.lookup BH (.map t12) (.string name) false) h1 fun v1 h2=> ∃t14:Option Addr,v1= .pointer t14∧(
 PIf (t14.isNone) (
 R (.tuple #[.string (⟨#[]⟩:ByteArray),.int .i64 31]) h2) (
 At t14 fun a1=>
 AL h2 a1 fun t20=>
 At t14 fun a2=>
 AL h2 (a2.add 1) fun t24=>
 Chk (((t20.size+t24.size:Nat):Int)≤IntKind.i64.max)<|
 R (.tuple #[.string (t20++t24),.int .i64 0]) h2))))
def Yp:Ann:= .seq .none (.seq (.seq .none (.cond (.seq .none .none) .none)) (.seq .none (.seq (.seq .none (.cond (.seq .none .none) .none)) (.seq .none .none))))
theorem Zc(A:Amb)(b:Option Addr)(name:ByteArray)(h:Heap)(R:Value→Heap→Prop):MK A b name h R=AX A P FV Yp [.pointer b,.string name] h R:=by kernel_rfl
theorem XL {A:Amb}{b:Option Addr}{name:ByteArray}{h:Heap}{R:Value→Heap→Prop}(H:MK A b name h R):AA A P FV #[.pointer b,.string name] h R:=
 AJ mixed (Zc A b name h R▸H)
def TJ(A:Amb)(n:Int)(h:Heap)(R:Value→Heap→Prop):Prop:=
 AA A P MQ #[.int .i64 n] h fun v h1=> ∃t4:ByteArray,v= .string t4∧(
 Chk ((((⟨#[116]⟩:ByteArray).size+t4.size:Nat):Int)≤IntKind.i64.max)<|
 R (.string ((⟨#[116]⟩:ByteArray)++t4)) h1)
def AFh:Ann:= .seq .none (.seq .none .none)
theorem AFg(A:Amb)(n:Int)(h:Heap)(R:Value→Heap→Prop):TJ A n h R=AX A P Fp AFh [.int .i64 n] h R:=by kernel_rfl
theorem ADj {A:Amb}{n:Int}{h:Heap}{R:Value→Heap→Prop}(H:TJ A n h R):AA A P Fp #[.int .i64 n] h R:=
 AJ mixed (AFg A n h R▸H)
def PK(A:Amb)(s:ByteArray)(h:Heap)(R:Value→Heap→Prop):Prop:=
 AA A P Hw #[.string s] h fun v h1=> ∃t19a:Sl,∃t19b:Int,v= .tuple #[.slice t19a.p t19a.len t19a.cap,.int .i64 t19b]∧(
 Join (fun(r:Bool×Unit) h2=>
 PIf r.1 (
 R (.tuple #[.pointer none,.int .i64 60]) h2) (
 Chk ((0:Int)≤(IntKind.wrap .i64 (((t19a.len:Nat):Int)-(1:Int)))∧(IntKind.wrap .i64 (((t19a.len:Nat):Int)-(1:Int)))≤((t19a.cap:Nat):Int))<|
 Idx t19a.p t19a.len (IntKind.wrap .i64 (((t19a.len:Nat):Int)-(1:Int))) fun a=>
 AL h2 (a.add ((IntKind.wrap .i64 (((t19a.len:Nat):Int)-(1:Int))).toNat*1)) fun t41=>
 AA A P Ff #[.string t41] h2 fun v1 h3=> ∃t42:Option Addr,v1= .pointer t42∧(
 New h3 (.cells #[.slice none 0 0,.slice (Ao t19a.p t19a.cap 0 1) (((IntKind.wrap .i64 (((t19a.len:Nat):Int)-(1:Int))).toNat)-0) (t19a.cap-0),.string (⟨#[]⟩:ByteArray),.int .i64 0] J7) fun b h4=>
 AA A P BI #[.pointer t42,.int .i64 (((((IntKind.wrap .i64 (((t19a.len:Nat):Int)-(1:Int))).toNat)-0):Nat):Int)] h4 fun v2 h5=> ∃t49:Int,v2= .int .i64 t49∧(
 PIf (t49 != (((((IntKind.wrap .i64 (((t19a.len:Nat):Int)-(1:Int))).toNat)-0):Nat):Int)) (
 R (.tuple #[.pointer none,.int .i64 60]) h5) (
 Loop (fun K1 (s1:Int×Unit) h6=>
 PIf (decide (s1.1<(((((IntKind.wrap .i64 (((t19a.len:Nat):Int)-(1:Int))).toNat)-0):Nat):Int))) (
 AZ h6 (⟨b,0,none⟩:Addr) fun t61=>
 AA A P Cc #[.pointer t42] h6 fun v3 h7=> ∃t63:ByteArray,v3= .string t63∧(
 And (hget h7 (⟨b,0,none⟩:Addr)=some (.slice t61.p t61.len t61.cap))<|
 New h7 (.cells #[.string t63] Ad) fun b1 h8=>
 And (hget h8 (⟨b,0,none⟩:Addr)=some (.slice t61.p t61.len t61.cap))<|
 BK A P (Builtin.append_ #[Bf,Bf] Bf #[.slice t61.p t61.len t61.cap,.slice (some (⟨b1,0,none⟩:Addr)) 1 1]) h8 fun v4 h9=> ∃t65:Sl,v4= .slice t65.p t65.len t65.cap∧(
 Store h9 (⟨b,0,none⟩:Addr) (.slice t65.p t65.len t65.cap) fun h10=>
 K1 ((IntKind.wrap .i64 (s1.1+(1:Int))),()) h10))) (
 AA A P BI #[.pointer t42,.int .i64 (IntKind.wrap .i64 ((((((IntKind.wrap .i64 (((t19a.len:Nat):Int)-(1:Int))).toNat)-0):Nat):Int)*(8:Int)))] h6 fun v5 h11=> ∃t74:Int,v5= .int .i64 t74∧(
 Store h11 ((⟨b,0,none⟩:Addr).add 3) (.int .i64 t74) fun h12=>
 AA A P Cc #[.pointer t42] h12 fun v6 h13=> ∃t79:ByteArray,v6= .string t79∧(
 Store h13 ((⟨b,0,none⟩:Addr).add 2) (.string t79) fun h14=>
 Join (fun(r1:Bool×Unit) h15=>
 PIf r1.1 (
 R (.tuple #[.pointer none,.int .i64 60]) h15) (
 Loop (fun K3 (s2:ByteArray×Int×Int×Unit) h16=>
 PIf (decide (s2.2.2.1<(((((IntKind.wrap .i64 (((t19a.len:Nat):Int)-(1:Int))).toNat)-0):Nat):Int))) (
 Idx (Ao t19a.p t19a.cap 0 1) (((IntKind.wrap .i64 (((t19a.len:Nat):Int)-(1:Int))).toNat)-0) s2.2.2.1 fun a1=>
 AL h16 (a1.add (s2.2.2.1.toNat*1)) fun t106=>
 AA A P GJ #[.string t106] h16 fun v7 h17=> ∃t109a:Sl,∃t109b:Bool,v7= .tuple #[.slice t109a.p t109a.len t109a.cap,.bool t109b]∧(
 Join (fun(r2:Bool×Unit) h18=>
 PIf r2.1 (
 R (.tuple #[.pointer none,.int .i64 60]) h18) (
 Loop (fun K5 (s3:ByteArray×Int×Int×Unit) h19=>
 PIf (decide (s3.2.2.1<((t109a.len:Nat):Int))) (
 Idx t109a.p t109a.len s3.2.2.1 fun a2=>
 AL h19 (a2.add (s3.2.2.1.toNat*3)) fun t155_0=>
 AL h19 ((a2.add (s3.2.2.1.toNat*3)).add 1) fun t155_1=>
 Ab h19 ((a2.add (s3.2.2.1.toNat*3)).add 2) fun t155_2=>
 New h19 (.cells #[.string (⟨#[]⟩:ByteArray),.string (⟨#[]⟩:ByteArray),.bool false] AO) fun b2 h20=>
 Store h20 (⟨b2,0,none⟩:Addr) (.string t155_0) fun h21=>
 Store h21 ((⟨b2,0,none⟩:Addr).add 1) (.string t155_1) fun h22=>
 Store h22 ((⟨b2,0,none⟩:Addr).add 2) (.bool t155_2) fun h23=>
 Join (fun(r3:Bool×Unit) h24=>
 PIf r3.1 (
 R (.tuple #[.pointer none,.int .i64 60]) h24) (
 AL h24 (⟨b2,0,none⟩:Addr) fun t171=>
 K5 (t171,(IntKind.wrap .i64 (s3.2.1+(1:Int))),(IntKind.wrap .i64 (s3.2.2.1+(1:Int))),()) h24)) fun K6=>
 AL h23 (⟨b2,0,none⟩:Addr) fun t157=>
 PIf (sLt t157 s3.1||sEq t157 s3.1) (
 K6 (true,()) h23) (
 AL h23 ((⟨b,0,none⟩:Addr).add 2) fun t164=>
 AL h23 (⟨b2,0,none⟩:Addr) fun t166=>
 AA A P KL #[.string t164,.string t166] h23 fun v8 h25=> ∃t167:Bool,v8= .bool t167∧(
 K6 ((!t167),()) h25))) (
 K3 (s3.1,s3.2.1,(IntKind.wrap .i64 (s2.2.2.1+(1:Int))),()) h19)) (s2.1,s2.2.1,0,()) h18)) fun K4=>
 PIf (!t109b) (
 K4 (true,()) h17) (
 PIf (((t109a.len:Nat):Int)==(0:Int)) (
 K4 (true,()) h17) (
 PIf (decide (((t109a.len:Nat):Int)>(8:Int))) (
 K4 (true,()) h17) (
 PIf (decide ((IntKind.wrap .i64 (s2.2.2.1+(1:Int)))<(((((IntKind.wrap .i64 (((t19a.len:Nat):Int)-(1:Int))).toNat)-0):Nat):Int))) (
 PIf (((t109a.len:Nat):Int) != (8:Int)) (
 K4 (true,()) h17) (
 Idx t109a.p t109a.len 0 fun a3=>
 AL h17 (a3.add ((0:Int).toNat*3)) fun t140=>
 AZ h17 (⟨b,0,none⟩:Addr) fun t144=>
 Idx t144.p t144.len s2.2.2.1 fun a4=>
 AL h17 (a4.add (s2.2.2.1.toNat*1)) fun t147=>
 K4 ((!sEq t140 t147),()) h17)) (
 Idx t109a.p t109a.len 0 fun a5=>
 AL h17 (a5.add ((0:Int).toNat*3)) fun t140_1=>
 AZ h17 (⟨b,0,none⟩:Addr) fun t144_1=>
 Idx t144_1.p t144_1.len s2.2.2.1 fun a6=>
 AL h17 (a6.add (s2.2.2.1.toNat*1)) fun t147_1=>
 K4 ((!sEq t140_1 t147_1),()) h17)))))) (
 Aa .i64 h16 ((⟨b,0,none⟩:Addr).add 3) fun t180=>
 PIf (s2.2.1 != t180) (
 R (.tuple #[.pointer none,.int .i64 60]) h16) (
 R (.tuple #[.pointer (some (⟨b,0,none⟩:Addr)),.int .i64 0]) h16))) ((⟨#[]⟩:ByteArray),0,0,()) h15)) fun K2=>
 AA A P Cq #[.pointer t42] h14 fun v9 h26=> ∃t83:Bool,v9= .bool t83∧(
 PIf (!t83) (
 K2 (true,()) h26) (
 AL h26 ((⟨b,0,none⟩:Addr).add 2) fun t89=>
 PIf (sEq t89 (⟨#[]⟩:ByteArray)) (
 K2 (true,()) h26) (
 AL h26 ((⟨b,0,none⟩:Addr).add 2) fun t96=>
 K2 ((decide ((t96.size:Int)>(8192:Int))),()) h26))))))) (0,()) h5))))) fun K=>
 PIf (t19b != (s.size:Int)) (
 K (true,()) h1) (
 K ((decide (((t19a.len:Nat):Int)<(2:Int))),()) h1))
def ACc:Ann:= .seq .none (.seq .none (.seq (.seq (.reg [(30,.one .bool)] [4]) (.cond (.seq .none .none) .none)) (.seq .none (.seq .none (.seq (.seq .none (.cond (.seq .none .none) .none)) (.seq (.seq .none (.block (.loop [(55,.one (.int .i64))] [6,7,8,54] (.seq .none (.seq (.cond .none .none) (.seq (.block .none) .none)))))) (.seq .none (.seq .none (.seq (.seq (.reg [(99,.one .bool)] [6,8]) (.cond (.seq .none .none) .none)) (.seq .none (.seq (.seq .none (.block (.loop [(9,.one .str),(10,.one (.int .i64)),(102,.one (.int .i64))] [6,8,100,101] (.seq .none (.seq (.cond .none .none) (.seq (.block (.seq .none (.seq .none (.seq (.seq (.reg [(149,.one .bool)] [6,8,9,10,13,100,101,102]) (.cond (.seq .none .none) .none)) (.seq .none (.block (.loop [(9,.one .str),(10,.one (.int .i64)),(152,.one (.int .i64))] [6,8,100,101,102,150,151] (.seq .none (.seq (.cond .none .none) (.seq (.block (.seq .none (.seq (.seq (.reg [(169,.one .bool)] [6,8,10,16,100,101,102,150,151,152]) (.cond (.seq .none .none) .none)) (.seq .none .none)))) .none)))))))))) .none)))))) (.seq (.seq .none (.cond (.seq .none .none) .none)) (.seq .none .none)))))))))))))
theorem ACK(A:Amb)(s:ByteArray)(h:Heap)(R:Value→Heap→Prop):PK A s h R=AX A P I7 ACc [.string s] h R:=by kernel_rfl
theorem AAR {A:Amb}{s:ByteArray}{h:Heap}{R:Value→Heap→Prop}(H:PK A s h R):AA A P I7 #[.string s] h R:=
 AJ mixed (ACK A s h R▸H)
def GY(A:Amb)(l:Option Addr)(h:Heap)(R:Value→Heap→Prop):Prop:=
 PIf (l.isNone) (
 R (.int .i64 0) h) (
 At l fun a=>
 Aa .i64 h (a.add 2) fun t8=>
 R (.int .i64 t8) h)
def UK:Ann:= .seq .none (.seq (.seq .none (.cond (.seq .none .none) .none)) (.seq .none .none))
theorem VH(A:Amb)(l:Option Addr)(h:Heap)(R:Value→Heap→Prop):GY A l h R=AX A P Et UK [.pointer l] h R:=by kernel_rfl
theorem Lb {A:Amb}{l:Option Addr}{h:Heap}{R:Value→Heap→Prop}(H:GY A l h R):AA A P Et #[.pointer l] h R:=
 AJ mixed (VH A l h R▸H)
def Jv(A:Amb)(l:Option Addr)(h:Heap)(R:Value→Heap→Prop):Prop:=
 PIf (l.isNone) (
 R (.tuple #[.int .i64 0,.int .i64 1]) h) (
 At l fun a=>
 Aa .i64 h (a.add 2) fun t10=>
 PIf (t10==(99999999:Int)) (
 R (.tuple #[.int .i64 0,.int .i64 2]) h) (
 AA A P Fb #[.pointer l] h fun v h1=> ∃t13:Int,v= .int .i64 t13∧(
 PIf (t13 != (0:Int)) (
 R (.tuple #[.int .i64 0,.int .i64 t13]) h1) (
 At l fun a1=>
 Aa .i64 h1 (a1.add 2) fun t20=>
 At l fun a2=>
 Store h1 (a2.add 2) (.int .i64 (IntKind.wrap .i64 (t20+(1:Int)))) fun h2=>
 At l fun a3=>
 Store h2 (a3.add 3) (.bool false) fun h3=>
 At l fun a4=>
 Aa .i64 h3 (a4.add 2) fun t30=>
 R (.tuple #[.int .i64 (IntKind.wrap .i64 (t30-(1:Int))),.int .i64 0]) h3))))
def VQ:Ann:= .seq .none (.seq (.seq .none (.cond (.seq .none .none) .none)) (.seq (.seq .none (.cond (.seq .none .none) .none)) (.seq (.seq .none (.seq .none (.cond (.seq .none .none) .none))) (.seq .none (.seq .none (.seq .none .none))))))
theorem WS(A:Amb)(l:Option Addr)(h:Heap)(R:Value→Heap→Prop):Jv A l h R=AX A P ER VQ [.pointer l] h R:=by kernel_rfl
theorem UL {A:Amb}{l:Option Addr}{h:Heap}{R:Value→Heap→Prop}(H:Jv A l h R):AA A P ER #[.pointer l] h R:=
 AJ mixed (WS A l h R▸H)
def Mw(A:Amb)(s:ByteArray)(h:Heap)(R:Value→Heap→Prop):Prop:=
 AA A P Ff #[.string s] h fun v h1=> ∃t12:Option Addr,v= .pointer t12∧(
 AA A P BI #[.pointer t12,.int .i64 99999999] h1 fun v1 h2=> ∃t14:Int,v1= .int .i64 t14∧(
 AA A P BI #[.pointer t12,.int .i64 64] h2 fun v2 h3=> ∃t16:Int,v2= .int .i64 t16∧(
 Loop (fun K (s1:Sl×Int×Unit) h4=>
 PIf (decide (s1.2.1<t16)) (
 AA A P Cc #[.pointer t12] h4 fun v3 h5=> ∃t21:ByteArray,v3= .string t21∧(
 New h5 (.cells #[.string (⟨#[]⟩:ByteArray),.string (⟨#[]⟩:ByteArray),.bool false] AO) fun b h6=>
 Store h6 (⟨b,0,none⟩:Addr) (.string t21) fun h7=>
 Store h7 ((⟨b,0,none⟩:Addr).add 1) (.string (⟨#[]⟩:ByteArray)) fun h8=>
 Store h8 ((⟨b,0,none⟩:Addr).add 2) (.bool false) fun h9=>
 AA A P BI #[.pointer t12,.int .i64 8193] h9 fun v4 h10=> ∃t24:Int,v4= .int .i64 t24∧(
 Store h10 ((⟨b,0,none⟩:Addr).add 2) (.bool (t24==(0:Int))) fun h11=>
 AA A P De #[.pointer t12,.int .i64 (if((IntKind.wrap .i64 (t24-(1:Int))):Int)>0 then(IntKind.wrap .i64 (t24-(1:Int))) else 0)] h11 fun v5 h12=> ∃t32:ByteArray,v5= .string t32∧(
 Store h12 ((⟨b,0,none⟩:Addr).add 1) (.string t32) fun h13=>
 AL h13 (⟨b,0,none⟩:Addr) fun t35_0=>
 AL h13 ((⟨b,0,none⟩:Addr).add 1) fun t35_1=>
 Ab h13 ((⟨b,0,none⟩:Addr).add 2) fun t35_2=>
 New h13 (.cells #[.string t35_0,.string t35_1,.bool t35_2] AO) fun b1 h14=>
 BK A P (Builtin.append_ #[AV,AV] AV #[.slice s1.1.p s1.1.len s1.1.cap,.slice (some (⟨b1,0,none⟩:Addr)) 1 1]) h14 fun v6 h15=> ∃t37:Sl,v6= .slice t37.p t37.len t37.cap∧(
 K ((⟨t37.p,t37.len,t37.cap⟩:Sl),(IntKind.wrap .i64 (s1.2.1+(1:Int))),()) h15))))) (
 AA A P Cq #[.pointer t12] h4 fun v7 h16=> ∃t42:Bool,v7= .bool t42∧(
 R (.tuple #[.int .i64 t14,.slice s1.1.p s1.1.len s1.1.cap,.bool t42]) h16))) ((⟨none,0,0⟩:Sl),0,()) h3)))
def AAH:Ann:= .seq .none (.seq .none (.seq .none (.seq .none (.seq (.seq .none (.block (.loop [(8,.one .sl),(18,.one (.int .i64))] [5,6,17] (.seq .none (.seq (.cond .none .none) (.seq (.block (.seq .none (.seq .none (.seq .none (.seq .none .none))))) .none)))))) (.seq .none .none)))))
theorem AAc(A:Amb)(s:ByteArray)(h:Heap)(R:Value→Heap→Prop):Mw A s h R=AX A P J4 AAH [.string s] h R:=by kernel_rfl
theorem ZN {A:Amb}{s:ByteArray}{h:Heap}{R:Value→Heap→Prop}(H:Mw A s h R):AA A P J4 #[.string s] h R:=
 AJ mixed (AAc A s h R▸H)
def KT(A:Amb)(t:Option Addr)(p_0:ByteArray)(p_1:ByteArray)(p_2:Bool)(h:Heap)(R:Value→Heap→Prop):Prop:=
 New h (.cells #[.string p_0,.string p_1,.bool p_2] AO) fun b h1=>
 Join (fun(r:Bool×Unit) h2=>
 PIf r.1 (
 R (.int .i64 1) h2) (
 Join (fun(r1:Bool×Unit) h3=>
 PIf r1.1 (
 R (.int .i64 2) h3) (
 AL h3 (⟨b,0,none⟩:Addr) fun t37=>
 AA A P Dc #[.pointer t,.string t37] h3 fun v h4=> ∃t38_0:Option Addr,∃t38_1:Option Addr,∃t38_2:Option Addr,∃t38_3:Option Addr,∃t38_4:Option Addr,∃t38_5:Option Addr,∃t38_6:Option Addr,∃t38_7:Option Addr,∃t38_8:Option Addr,∃t38_9:Option Addr,∃t38_10:Option Addr,∃t38_11:Option Addr,v= .agg #[.pointer t38_0,.pointer t38_1,.pointer t38_2,.pointer t38_3,.pointer t38_4,.pointer t38_5,.pointer t38_6,.pointer t38_7,.pointer t38_8,.pointer t38_9,.pointer t38_10,.pointer t38_11]∧(
 New h4 (.cells #[.pointer none,.pointer none,.pointer none,.pointer none,.pointer none,.pointer none,.pointer none,.pointer none,.pointer none,.pointer none,.pointer none,.pointer none] Cu) fun b1 h5=>
 Store h5 (⟨b1,0,none⟩:Addr) (.pointer t38_0) fun h6=>
 Store h6 ((⟨b1,0,none⟩:Addr).add 1) (.pointer t38_1) fun h7=>
 Store h7 ((⟨b1,0,none⟩:Addr).add 2) (.pointer t38_2) fun h8=>
 Store h8 ((⟨b1,0,none⟩:Addr).add 3) (.pointer t38_3) fun h9=>
 Store h9 ((⟨b1,0,none⟩:Addr).add 4) (.pointer t38_4) fun h10=>
 Store h10 ((⟨b1,0,none⟩:Addr).add 5) (.pointer t38_5) fun h11=>
 Store h11 ((⟨b1,0,none⟩:Addr).add 6) (.pointer t38_6) fun h12=>
 Store h12 ((⟨b1,0,none⟩:Addr).add 7) (.pointer t38_7) fun h13=>
 Store h13 ((⟨b1,0,none⟩:Addr).add 8) (.pointer t38_8) fun h14=>
 Store h14 ((⟨b1,0,none⟩:Addr).add 9) (.pointer t38_9) fun h15=>
 Store h15 ((⟨b1,0,none⟩:Addr).add 10) (.pointer t38_10) fun h16=>
 Store h16 ((⟨b1,0,none⟩:Addr).add 11) (.pointer t38_11) fun h17=>
 Chk ((0:Int)≤0∧0<(12:Int))<|
 AP h17 ((⟨b1,0,none⟩:Addr).add ((0:Int).toNat*1)) fun t40=>
 At t40 fun a=>
 Chk ((0:Int)≤0∧0<(12:Int))<|
 AP h17 ((a.add 3).add ((0:Int).toNat*1)) fun t44=>
 Join (fun(r2:Bool×Unit) h18=>
 PIf r2.1 (
 At t fun a1=>
 Aa .i64 h18 (a1.add 16) fun t60=>
 AL h18 ((⟨b,0,none⟩:Addr).add 1) fun t62=>
 At t44 fun a2=>
 AL h18 (a2.add 1) fun t68=>
 At t fun a3=>
 Store h18 (a3.add 16) (.int .i64 (IntKind.wrap .i64 (t60+(IntKind.wrap .i64 ((t62.size:Int)-(t68.size:Int)))))) fun h19=>
 AL h19 (⟨b,0,none⟩:Addr) fun t75_0=>
 AL h19 ((⟨b,0,none⟩:Addr).add 1) fun t75_1=>
 Ab h19 ((⟨b,0,none⟩:Addr).add 2) fun t75_2=>
 At t44 fun a4=>
 Store h19 a4 (.string t75_0) fun h20=>
 Store h20 (a4.add 1) (.string t75_1) fun h21=>
 Store h21 (a4.add 2) (.bool t75_2) fun h22=>
 R (.int .i64 0) h22) (
 AL h18 (⟨b,0,none⟩:Addr) fun t78_0=>
 AL h18 ((⟨b,0,none⟩:Addr).add 1) fun t78_1=>
 Ab h18 ((⟨b,0,none⟩:Addr).add 2) fun t78_2=>
 New h18 (.cells #[.string t78_0,.string t78_1,.bool t78_2,.pointer none,.pointer none,.pointer none,.pointer none,.pointer none,.pointer none,.pointer none,.pointer none,.pointer none,.pointer none,.pointer none,.pointer none] Ow) fun b2 h23=>
 AL h23 (⟨b,0,none⟩:Addr) fun t82=>
 AA A P LF #[.string t82] h23 fun v1 h24=> ∃t83:Int,v1= .int .i64 t83∧(
 Loop (fun K3 (s:Int×Unit) h25=>
 PIf (decide (s.1<t83)) (
 Chk ((0:Int)≤s.1∧s.1<(12:Int))<|
 AP h25 ((⟨b1,0,none⟩:Addr).add ((s.1:Int).toNat*1)) fun t91=>
 At t91 fun a5=>
 Chk ((0:Int)≤s.1∧s.1<(12:Int))<|
 AP h25 ((a5.add 3).add ((s.1:Int).toNat*1)) fun t96=>
 Chk ((0:Int)≤s.1∧s.1<(12:Int))<|
 Store h25 (((⟨b2,0,none⟩:Addr).add 3).add ((s.1:Int).toNat*1)) (.pointer t96) fun h26=>
 Chk ((0:Int)≤s.1∧s.1<(12:Int))<|
 AP h26 ((⟨b1,0,none⟩:Addr).add ((s.1:Int).toNat*1)) fun t102=>
 At t102 fun a6=>
 Chk ((0:Int)≤s.1∧s.1<(12:Int))<|
 Store h26 ((a6.add 3).add ((s.1:Int).toNat*1)) (.pointer (some (⟨b2,0,none⟩:Addr))) fun h27=>
 K3 ((IntKind.wrap .i64 (s.1+(1:Int))),()) h27) (
 At t fun a7=>
 Aa .i64 h25 (a7.add 15) fun t112=>
 At t fun a8=>
 Store h25 (a8.add 15) (.int .i64 (IntKind.wrap .i64 (t112+(1:Int)))) fun h28=>
 At t fun a9=>
 Aa .i64 h28 (a9.add 16) fun t119=>
 AL h28 (⟨b,0,none⟩:Addr) fun t121=>
 AL h28 ((⟨b,0,none⟩:Addr).add 1) fun t124=>
 At t fun a10=>
 Store h28 (a10.add 16) (.int .i64 (IntKind.wrap .i64 (t119+(IntKind.wrap .i64 ((t121.size:Int)+(t124.size:Int)))))) fun h29=>
 R (.int .i64 0) h29)) (0,()) h24))) fun K2=>
 PIf (!t44.isNone) (
 At t44 fun a11=>
 AL h17 a11 fun t52=>
 AL h17 (⟨b,0,none⟩:Addr) fun t54=>
 K2 ((sEq t52 t54),()) h17) (
 K2 (false,()) h17)))) fun K1=>
 AL h2 (⟨b,0,none⟩:Addr) fun t26=>
 PIf (decide ((t26.size:Int)>(64:Int))) (
 K1 (true,()) h2) (
 AL h2 ((⟨b,0,none⟩:Addr).add 1) fun t31=>
 K1 ((decide ((t31.size:Int)>(8192:Int))),()) h2))) fun K=>
 PIf (t.isNone) (
 K (true,()) h1) (
 AL h1 (⟨b,0,none⟩:Addr) fun t13=>
 PIf (sEq t13 (⟨#[]⟩:ByteArray)) (
 K (true,()) h1) (
 Ab h1 ((⟨b,0,none⟩:Addr).add 2) fun t18=>
 PIf t18 (
 AL h1 ((⟨b,0,none⟩:Addr).add 1) fun t21=>
 K ((!sEq t21 (⟨#[]⟩:ByteArray)),()) h1) (
 K (false,()) h1)))
def XF:Ann:= .seq .none (.seq (.seq (.reg [(24,.one .bool)] [0,3]) (.cond (.seq .none .none) .none)) (.seq (.seq (.reg [(34,.one .bool)] [0,3]) (.cond (.seq .none .none) .none)) (.seq .none (.seq (.seq .none (.seq (.reg [(56,.one .bool)] [0,3,5,6]) (.cond (.seq .none (.seq .none (.seq .none .none))) .none))) (.seq .none (.seq (.seq .none (.block (.loop [(84,.one (.int .i64))] [0,3,5,7,83] (.seq .none (.seq (.cond .none .none) (.seq (.block (.seq .none (.seq .none .none))) .none)))))) (.seq .none (.seq .none (.seq .none .none)))))))))
theorem XW(A:Amb)(t:Option Addr)(p_0:ByteArray)(p_1:ByteArray)(p_2:Bool)(h:Heap)(R:Value→Heap→Prop):KT A t p_0 p_1 p_2 h R=AX A P GG XF [.pointer t,.agg #[.string p_0,.string p_1,.bool p_2]] h R:=by kernel_rfl
theorem V9 {A:Amb}{t:Option Addr}{p_0:ByteArray}{p_1:ByteArray}{p_2:Bool}{h:Heap}{R:Value→Heap→Prop}(H:KT A t p_0 p_1 p_2 h R):AA A P GG #[.pointer t,.agg #[.string p_0,.string p_1,.bool p_2]] h R:=
 AJ mixed (XW A t p_0 p_1 p_2 h R▸H)
def La(A:Amb)(d:Option Addr)(h:Heap)(R:Value→Heap→Prop):Prop:=
 At d fun a=>
 AP h a fun t14=>
 AA A P G5 #[.pointer t14] h fun v h1=> ∃t15a:Sl,∃t15b:Int,v= .tuple #[.slice t15a.p t15a.len t15a.cap,.int .i64 t15b]∧(
 PIf (t15b != (0:Int)) (
 R (.int .i64 t15b) h1) (
 Loop (fun K (s:Int×Unit) h2=>
 PIf (decide (s.1<((t15a.len:Nat):Int))) (
 Join (fun(s1:Unit) h3=>
 K ((IntKind.wrap .i64 (s.1+(1:Int))),()) h3) fun K1=>
 Idx t15a.p t15a.len s.1 fun a1=>
 AL h2 (a1.add (s.1.toNat*1)) fun t26=>
 Join (fun(r:Bool×Unit) h4=>
 PIf r.1 (
 K1 () h4) (
 Chk ((0:Int)≤1∧1≤((t26.size:Nat):Int))<|
 AA A P Qx #[.string (t26.extract ((1:Int).toNat) t26.size)] h4 fun v1 h5=> ∃t38a:Int,∃t38b:Value,v1= .tuple #[.int .i64 t38a,t38b]∧(
 Join (fun(r1:Bool×Unit) h6=>
 PIf r1.1 (
 At d fun a2=>
 AP h6 a2 fun t61=>
 AA A P EU #[.pointer t61,.string t26] h6 fun v2 h7=> ∃t63:Int,v2= .int .i64 t63∧(
 PIf (t63 != (0:Int)) (
 R (.int .i64 t63) h7) (
 At d fun a3=>
 Aa .i64 h7 (a3.add 6) fun t71=>
 At d fun a4=>
 Store h7 (a4.add 6) (.int .i64 (if((IntKind.wrap .i64 (t38a+(1:Int))):Int)>t71 then(IntKind.wrap .i64 (t38a+(1:Int))) else t71)) fun h8=>
 K1 () h8))) (
 K1 () h6)) fun K3=>
 Chk (ALJ t38b)<|
 PIf ((Xv t38b)) (
 AA A P Fp #[.int .i64 t38a] h5 fun v3 h9=> ∃t45:ByteArray,v3= .string t45∧(
 PIf (sEq t45 t26) (
 At d fun a5=>
 AZ h9 (a5.add 5) fun t53=>
 AA A P Cf #[.slice t53.p t53.len t53.cap,.int .i64 t38a] h9 fun v4 h10=> ∃t55:Bool,v4= .bool t55∧(
 K3 ((!t55),()) h10)) (
 K3 (false,()) h9))) (
 K3 (false,()) h5)))) fun K2=>
 PIf (decide ((t26.size:Int)<(2:Int))) (
 K2 (true,()) h2) (
 Chk ((0:Int)≤0∧0<(t26.size:Int))<|
 K2 (((sAt t26 0) != (116:Int)),()) h2)) (
 R (.int .i64 0) h2)) (0,()) h1))
def ZE:Ann:= .seq .none (.seq .none (.seq (.seq .none (.cond (.seq .none .none) .none)) (.seq (.seq .none (.block (.loop [(23,.one (.int .i64))] [0,21,22] (.seq .none (.seq (.cond .none .none) (.seq (.blockJ [] [0,21,22,23] (.seq .none (.seq (.seq (.reg [(34,.one .bool)] [0,6,21,22,23]) (.cond .none .none)) (.seq .none (.seq (.reg [(57,.one .bool)] [0,6,7,21,22,23]) (.cond (.seq (.seq .none (.seq .none (.cond (.seq .none .none) .none))) .none) .none)))))) .none)))))) (.seq .none .none))))
theorem Xu(A:Amb)(d:Option Addr)(h:Heap)(R:Value→Heap→Prop):La A d h R=AX A P JK ZE [.pointer d] h R:=by kernel_rfl
theorem XY {A:Amb}{d:Option Addr}{h:Heap}{R:Value→Heap→Prop}(H:La A d h R):AA A P JK #[.pointer d] h R:=
 AJ mixed (Xu A d h R▸H)
def KW(A:Amb)(t:Option Addr)(key:ByteArray)(h:Heap)(R:Value→Heap→Prop):Prop:=
 New h (.cells #[.string (⟨#[]⟩:ByteArray),.string (⟨#[]⟩:ByteArray),.bool false] AO) fun b h1=>
 PIf (t.isNone) (
 Store h1 (⟨b,0,none⟩:Addr) (.string (⟨#[]⟩:ByteArray)) fun h2=>
 Store h2 ((⟨b,0,none⟩:Addr).add 1) (.string (⟨#[]⟩:ByteArray)) fun h3=>
 Store h3 ((⟨b,0,none⟩:Addr).add 2) (.bool false) fun h4=>
 AL h4 (⟨b,0,none⟩:Addr) fun res_0=>
 AL h4 ((⟨b,0,none⟩:Addr).add 1) fun res_1=>
 Ab h4 ((⟨b,0,none⟩:Addr).add 2) fun res_2=>
 R (.tuple #[.agg #[.string res_0,.string res_1,.bool res_2],.bool false]) h4) (
 AA A P Dc #[.pointer t,.string key] h1 fun v h5=> ∃t12_0:Option Addr,∃t12_1:Option Addr,∃t12_2:Option Addr,∃t12_3:Option Addr,∃t12_4:Option Addr,∃t12_5:Option Addr,∃t12_6:Option Addr,∃t12_7:Option Addr,∃t12_8:Option Addr,∃t12_9:Option Addr,∃t12_10:Option Addr,∃t12_11:Option Addr,v= .agg #[.pointer t12_0,.pointer t12_1,.pointer t12_2,.pointer t12_3,.pointer t12_4,.pointer t12_5,.pointer t12_6,.pointer t12_7,.pointer t12_8,.pointer t12_9,.pointer t12_10,.pointer t12_11]∧(
 At t12_0 fun a=>
 Chk ((0:Int)≤0∧0<(12:Int))<|
 AP h5 ((a.add 3).add ((0:Int).toNat*1)) fun t17=>
 Join (fun(r:Bool×Unit) h6=>
 PIf r.1 (
 At t17 fun a1=>
 AL h6 a1 fun t32_0=>
 AL h6 (a1.add 1) fun t32_1=>
 Ab h6 (a1.add 2) fun t32_2=>
 Store h6 (⟨b,0,none⟩:Addr) (.string t32_0) fun h7=>
 Store h7 ((⟨b,0,none⟩:Addr).add 1) (.string t32_1) fun h8=>
 Store h8 ((⟨b,0,none⟩:Addr).add 2) (.bool t32_2) fun h9=>
 AL h9 (⟨b,0,none⟩:Addr) fun res_0_1=>
 AL h9 ((⟨b,0,none⟩:Addr).add 1) fun res_1_1=>
 Ab h9 ((⟨b,0,none⟩:Addr).add 2) fun res_2_1=>
 R (.tuple #[.agg #[.string res_0_1,.string res_1_1,.bool res_2_1],.bool true]) h9) (
 Store h6 (⟨b,0,none⟩:Addr) (.string (⟨#[]⟩:ByteArray)) fun h10=>
 Store h10 ((⟨b,0,none⟩:Addr).add 1) (.string (⟨#[]⟩:ByteArray)) fun h11=>
 Store h11 ((⟨b,0,none⟩:Addr).add 2) (.bool false) fun h12=>
 AL h12 (⟨b,0,none⟩:Addr) fun res_0_2=>
 AL h12 ((⟨b,0,none⟩:Addr).add 1) fun res_1_2=>
 Ab h12 ((⟨b,0,none⟩:Addr).add 2) fun res_2_2=>
 R (.tuple #[.agg #[.string res_0_2,.string res_1_2,.bool res_2_2],.bool false]) h12)) fun K=>
 PIf (!t17.isNone) (
 At t17 fun a2=>
 AL h5 a2 fun t25=>
 K ((sEq t25 key),()) h5) (
 K (false,()) h5)))
def XC:Ann:= .seq .none (.seq (.seq .none (.cond (.seq .none .none) .none)) (.seq (.seq .none (.seq (.reg [(28,.one .bool)] [4,6]) (.cond (.seq .none .none) .none))) (.seq .none .none)))
theorem XO(A:Amb)(t:Option Addr)(key:ByteArray)(h:Heap)(R:Value→Heap→Prop):KW A t key h R=AX A P IR XC [.pointer t,.string key] h R:=by kernel_rfl
theorem VV {A:Amb}{t:Option Addr}{key:ByteArray}{h:Heap}{R:Value→Heap→Prop}(H:KW A t key h R):AA A P IR #[.pointer t,.string key] h R:=
 AJ mixed (XO A t key h R▸H)
def JG(A:Amb)(t:Option Addr)(key:ByteArray)(h:Heap)(R:Value→Heap→Prop):Prop:=
 New h (.cells #[.string (⟨#[]⟩:ByteArray),.string (⟨#[]⟩:ByteArray),.bool false] AO) fun b h1=>
 Join (fun(r:Bool×Unit) h2=>
 PIf r.1 (
 Store h2 (⟨b,0,none⟩:Addr) (.string (⟨#[]⟩:ByteArray)) fun h3=>
 Store h3 ((⟨b,0,none⟩:Addr).add 1) (.string (⟨#[]⟩:ByteArray)) fun h4=>
 Store h4 ((⟨b,0,none⟩:Addr).add 2) (.bool false) fun h5=>
 AL h5 (⟨b,0,none⟩:Addr) fun res_0=>
 AL h5 ((⟨b,0,none⟩:Addr).add 1) fun res_1=>
 Ab h5 ((⟨b,0,none⟩:Addr).add 2) fun res_2=>
 R (.tuple #[.agg #[.string res_0,.string res_1,.bool res_2],.bool false]) h5) (
 At t fun a=>
 AZ h2 (a.add 1) fun t26=>
 AA A P EJ #[.pointer t,.string key] h2 fun v h6=> ∃t29:Int,v= .int .i64 t29∧(
 And (hget h6 (a.add 1)=some (.slice t26.p t26.len t26.cap))<|
 Idx t26.p t26.len t29 fun a1=>
 AL h6 (a1.add (t29.toNat*1)) fun t31=>
 AA A P GJ #[.string t31] h6 fun v1 h7=> ∃t32a:Sl,∃t32b:Bool,v1= .tuple #[.slice t32a.p t32a.len t32a.cap,.bool t32b]∧(
 Loop (fun K1 (s:Int×Unit) h8=>
 PIf (decide (s.1<((t32a.len:Nat):Int))) (
 Idx t32a.p t32a.len s.1 fun a2=>
 AL h8 (a2.add (s.1.toNat*3)) fun t40_0=>
 AL h8 ((a2.add (s.1.toNat*3)).add 1) fun t40_1=>
 Ab h8 ((a2.add (s.1.toNat*3)).add 2) fun t40_2=>
 New h8 (.cells #[.string (⟨#[]⟩:ByteArray),.string (⟨#[]⟩:ByteArray),.bool false] AO) fun b1 h9=>
 Store h9 (⟨b1,0,none⟩:Addr) (.string t40_0) fun h10=>
 Store h10 ((⟨b1,0,none⟩:Addr).add 1) (.string t40_1) fun h11=>
 Store h11 ((⟨b1,0,none⟩:Addr).add 2) (.bool t40_2) fun h12=>
 AL h12 (⟨b1,0,none⟩:Addr) fun t42=>
 PIf (sEq t42 key) (
 AL h12 (⟨b1,0,none⟩:Addr) fun t45_0=>
 AL h12 ((⟨b1,0,none⟩:Addr).add 1) fun t45_1=>
 Ab h12 ((⟨b1,0,none⟩:Addr).add 2) fun t45_2=>
 Store h12 (⟨b,0,none⟩:Addr) (.string t45_0) fun h13=>
 Store h13 ((⟨b,0,none⟩:Addr).add 1) (.string t45_1) fun h14=>
 Store h14 ((⟨b,0,none⟩:Addr).add 2) (.bool t45_2) fun h15=>
 AL h15 (⟨b,0,none⟩:Addr) fun res_0_1=>
 AL h15 ((⟨b,0,none⟩:Addr).add 1) fun res_1_1=>
 Ab h15 ((⟨b,0,none⟩:Addr).add 2) fun res_2_1=>
 R (.tuple #[.agg #[.string res_0_1,.string res_1_1,.bool res_2_1],.bool true]) h15) (
 K1 ((IntKind.wrap .i64 (s.1+(1:Int))),()) h12)) (
 Store h8 (⟨b,0,none⟩:Addr) (.string (⟨#[]⟩:ByteArray)) fun h16=>
 Store h16 ((⟨b,0,none⟩:Addr).add 1) (.string (⟨#[]⟩:ByteArray)) fun h17=>
 Store h17 ((⟨b,0,none⟩:Addr).add 2) (.bool false) fun h18=>
 AL h18 (⟨b,0,none⟩:Addr) fun res_0_2=>
 AL h18 ((⟨b,0,none⟩:Addr).add 1) fun res_1_2=>
 Ab h18 ((⟨b,0,none⟩:Addr).add 2) fun res_2_2=>
 R (.tuple #[.agg #[.string res_0_2,.string res_1_2,.bool res_2_2],.bool false]) h18)) (0,()) h7)))) fun K=>
 PIf (t.isNone) (
 K (true,()) h1) (
 At t fun a3=>
 AL h1 (a3.add 2) fun t16=>
 AA A P KL #[.string t16,.string key] h1 fun v2 h19=> ∃t18:Bool,v2= .bool t18∧(
 K ((!t18),()) h19))
def Ut:Ann:= .seq .none (.seq (.seq (.reg [(20,.one .bool)] [0,1,4]) (.cond (.seq .none .none) .none)) (.seq .none (.seq (.seq .none (.block (.loop [(37,.one (.int .i64))] [1,4,35,36] (.seq .none (.seq (.cond .none .none) (.seq (.block (.seq .none (.seq .none (.cond (.seq .none .none) .none)))) .none)))))) (.seq .none .none))))
theorem Ua(A:Amb)(t:Option Addr)(key:ByteArray)(h:Heap)(R:Value→Heap→Prop):JG A t key h R=AX A P Gb Ut [.pointer t,.string key] h R:=by kernel_rfl
theorem Sy {A:Amb}{t:Option Addr}{key:ByteArray}{h:Heap}{R:Value→Heap→Prop}(H:JG A t key h R):AA A P Gb #[.pointer t,.string key] h R:=
 AJ mixed (Ua A t key h R▸H)
def Jb(A:Amb)(l:Option Addr)(vrec:ByteArray)(h:Heap)(R:Value→Heap→Prop):Prop:=
 PIf (l.isNone) (
 R (.int .i64 1) h) (
 AA A P Es #[.string vrec] h fun v h1=> ∃t12a:ByteArray,∃t12b:Int,v= .tuple #[.string t12a,.int .i64 t12b]∧(
 PIf (t12b != (0:Int)) (
 R (.int .i64 t12b) h1) (
 At l fun a=>
 AP h1 a fun t21=>
 At l fun a1=>
 AL h1 (a1.add 1) fun t25=>
 At l fun a2=>
 Aa .i64 h1 (a2.add 2) fun t29=>
 AA A P Gt #[.string t25,.int .i64 t29] h1 fun v1 h2=> ∃t30:ByteArray,v1= .string t30∧(
 And (hget h2 a=some (.pointer t21))<|
 AA A P Fa #[.pointer t21,.string t30,.string t12a] h2 fun v2 h3=> ∃t32:Int,v2= .int .i64 t32∧(
 PIf (t32 != (0:Int)) (
 R (.int .i64 t32) h3) (
 At l fun a3=>
 Store h3 (a3.add 3) (.bool true) fun h4=>
 R (.int .i64 0) h4))))))
def WN:Ann:= .seq .none (.seq (.seq .none (.cond (.seq .none .none) .none)) (.seq .none (.seq (.seq .none (.cond (.seq .none .none) .none)) (.seq (.seq .none (.seq .none (.cond (.seq .none .none) .none))) (.seq .none (.seq .none .none))))))
theorem Va(A:Amb)(l:Option Addr)(vrec:ByteArray)(h:Heap)(R:Value→Heap→Prop):Jb A l vrec h R=AX A P ES WN [.pointer l,.string vrec] h R:=by kernel_rfl
theorem VJ {A:Amb}{l:Option Addr}{vrec:ByteArray}{h:Heap}{R:Value→Heap→Prop}(H:Jb A l vrec h R):AA A P ES #[.pointer l,.string vrec] h R:=
 AJ mixed (Va A l vrec h R▸H)
def Qd(A:Amb)(seg:Int)(l:Sl)(h:Heap)(R:Value→Heap→Prop):Prop:=
 AA A P CG #[.int .u64 (IntKind.wrap .u64 seg)] h fun v h1=> ∃t10:ByteArray,v= .string t10∧(
 AA A P CG #[.int .u64 (IntKind.wrap .u64 ((l.len:Nat):Int))] h1 fun v1 h2=> ∃t14:ByteArray,v1= .string t14∧(
 Chk (((t10.size+t14.size:Nat):Int)≤IntKind.i64.max)<|
 Loop (fun K (s:ByteArray×Int×Unit) h3=>
 PIf (decide (s.2.1<((l.len:Nat):Int))) (
 Join (fun(s1:ByteArray×Unit) h4=>
 K (s1.1,(IntKind.wrap .i64 (s.2.1+(1:Int))),()) h4) fun K1=>
 Idx l.p l.len s.2.1 fun a=>
 AL h3 (a.add (s.2.1.toNat*3)) fun t21_0=>
 AL h3 ((a.add (s.2.1.toNat*3)).add 1) fun t21_1=>
 Ab h3 ((a.add (s.2.1.toNat*3)).add 2) fun t21_2=>
 New h3 (.cells #[.string (⟨#[]⟩:ByteArray),.string (⟨#[]⟩:ByteArray),.bool false] AO) fun b h5=>
 Store h5 (⟨b,0,none⟩:Addr) (.string t21_0) fun h6=>
 Store h6 ((⟨b,0,none⟩:Addr).add 1) (.string t21_1) fun h7=>
 Store h7 ((⟨b,0,none⟩:Addr).add 2) (.bool t21_2) fun h8=>
 AL h8 (⟨b,0,none⟩:Addr) fun t24=>
 AA A P Dt #[.string t24] h8 fun v2 h9=> ∃t25:ByteArray,v2= .string t25∧(
 Chk (((s.1.size+t25.size:Nat):Int)≤IntKind.i64.max)<|
 Ab h9 ((⟨b,0,none⟩:Addr).add 2) fun t28=>
 PIf t28 (
 AA A P CG #[.int .u64 0] h9 fun v3 h10=> ∃t30:ByteArray,v3= .string t30∧(
 Chk ((((s.1++t25).size+t30.size:Nat):Int)≤IntKind.i64.max)<|
 K1 (((s.1++t25)++t30),()) h10)) (
 AL h9 ((⟨b,0,none⟩:Addr).add 1) fun t34=>
 AA A P CG #[.int .u64 (IntKind.wrap .u64 ((IntKind.wrap .u64 (t34.size:Int))+(1:Int)))] h9 fun v4 h11=> ∃t38:ByteArray,v4= .string t38∧(
 AL h11 ((⟨b,0,none⟩:Addr).add 1) fun t40=>
 And (hget h9 ((⟨b,0,none⟩:Addr).add 1)=some (.string t40))<|
 Chk (((t38.size+t40.size:Nat):Int)≤IntKind.i64.max)<|
 Chk ((((s.1++t25).size+(t38++t40).size:Nat):Int)≤IntKind.i64.max)<|
 K1 (((s.1++t25)++(t38++t40)),()) h11)))) (
 R (.string s.1) h3)) ((t10++t14),0,()) h2))
def AEr:Ann:= .seq .none (.seq .none (.seq (.seq .none (.block (.loop [(5,.one .str),(18,.one (.int .i64))] [16,17] (.seq .none (.seq (.cond .none .none) (.seq (.blockJ [(5,.one .str)] [16,17,18] (.seq .none (.seq .none (.seq .none (.cond .none .none))))) .none)))))) (.seq .none .none)))
theorem ADt(A:Amb)(seg:Int)(l:Sl)(h:Heap)(R:Value→Heap→Prop):Qd A seg l h R=AX A P Mm AEr [.int .i64 seg,.slice l.p l.len l.cap] h R:=by kernel_rfl
theorem ACi {A:Amb}{seg:Int}{l:Sl}{h:Heap}{R:Value→Heap→Prop}(H:Qd A seg l h R):AA A P Mm #[.int .i64 seg,.slice l.p l.len l.cap] h R:=
 AJ mixed (ADt A seg l h R▸H)
def NK(A:Amb)(d:Option Addr)(e:Int)(h:Heap)(R:Value→Heap→Prop):Prop:=
 Join (fun(s:Unit) h1=>
 R (.int .i64 e) h1) fun K=>
 PIf (e==(30:Int)) (
 At d fun a=>
 Store h (a.add 8) (.bool true) fun h2=>
 K () h2) (
 K () h)
def AAi:Ann:= .seq .none (.seqJ [] [1] (.seq .none (.cond .none .none)) (.seq .none .none))
theorem AAp(A:Amb)(d:Option Addr)(e:Int)(h:Heap)(R:Value→Heap→Prop):NK A d e h R=AX A P Bj AAi [.pointer d,.int .i64 e] h R:=by kernel_rfl
theorem Zq {A:Amb}{d:Option Addr}{e:Int}{h:Heap}{R:Value→Heap→Prop}(H:NK A d e h R):AA A P Bj #[.pointer d,.int .i64 e] h R:=
 AJ mixed (AAp A d e h R▸H)
def ML(A:Amb)(l:Option Addr)(h:Heap)(R:Value→Heap→Prop):Prop:=
 PIf (l.isNone) (
 R (.int .i64 1) h) (
 At l fun a=>
 Ab h (a.add 3) fun t8=>
 PIf (!t8) (
 R (.int .i64 0) h) (
 At l fun a1=>
 AP h a1 fun t13=>
 At l fun a2=>
 AL h (a2.add 1) fun t17=>
 At l fun a3=>
 Aa .i64 h (a3.add 2) fun t21=>
 AA A P Gt #[.string t17,.int .i64 t21] h fun v h1=> ∃t22:ByteArray,v= .string t22∧(
 And (hget h1 a1=some (.pointer t13))<|
 AA A P Gr #[.pointer t13,.string t22] h1 fun v1 h2=> ∃t23:Int,v1= .int .i64 t23∧(
 R (.int .i64 t23) h2))))
def Zg:Ann:= .seq .none (.seq (.seq .none (.cond (.seq .none .none) .none)) (.seq (.seq .none (.cond (.seq .none .none) .none)) (.seq .none .none)))
theorem YL(A:Amb)(l:Option Addr)(h:Heap)(R:Value→Heap→Prop):ML A l h R=AX A P Fb Zg [.pointer l] h R:=by kernel_rfl
theorem Wz {A:Amb}{l:Option Addr}{h:Heap}{R:Value→Heap→Prop}(H:ML A l h R):AA A P Fb #[.pointer l] h R:=
 AJ mixed (YL A l h R▸H)
def KU(A:Amb)(t:Option Addr)(h:Heap)(R:Value→Heap→Prop):Prop:=
 PIf (t.isNone) (
 R (.tuple #[.int .i64 0,.int .i64 0]) h) (
 At t fun a=>
 Aa .i64 h (a.add 15) fun t9=>
 At t fun a1=>
 Aa .i64 h (a1.add 16) fun t13=>
 R (.tuple #[.int .i64 t9,.int .i64 t13]) h)
def XK:Ann:= .seq .none (.seq (.seq .none (.cond (.seq .none .none) .none)) (.seq .none .none))
theorem XR(A:Amb)(t:Option Addr)(h:Heap)(R:Value→Heap→Prop):KU A t h R=AX A P GD XK [.pointer t] h R:=by kernel_rfl
theorem WF {A:Amb}{t:Option Addr}{h:Heap}{R:Value→Heap→Prop}(H:KU A t h R):AA A P GD #[.pointer t] h R:=
 AJ mixed (XR A t h R▸H)
def IP(A:Amb)(p_0:ByteArray)(p_1:ByteArray)(p_2:Bool)(h:Heap)(R:Value→Heap→Prop):Prop:=
 New h (.cells #[.string p_0,.string p_1,.bool p_2] AO) fun b h1=>
 Join (fun(r:Bool×Unit) h2=>
 PIf r.1 (
 R (.int .i64 1) h2) (
 Join (fun(r1:Bool×Unit) h3=>
 PIf r1.1 (
 R (.int .i64 2) h3) (
 R (.int .i64 0) h3)) fun K1=>
 AL h2 (⟨b,0,none⟩:Addr) fun t16=>
 PIf (decide ((t16.size:Int)>(64:Int))) (
 K1 (true,()) h2) (
 AL h2 ((⟨b,0,none⟩:Addr).add 1) fun t21=>
 K1 ((decide ((t21.size:Int)>(8192:Int))),()) h2))) fun K=>
 AL h1 (⟨b,0,none⟩:Addr) fun t4=>
 PIf (sEq t4 (⟨#[]⟩:ByteArray)) (
 K (true,()) h1) (
 Ab h1 ((⟨b,0,none⟩:Addr).add 2) fun t8=>
 PIf t8 (
 AL h1 ((⟨b,0,none⟩:Addr).add 1) fun t11=>
 K ((!sEq t11 (⟨#[]⟩:ByteArray)),()) h1) (
 K (false,()) h1))
def Rt:Ann:= .seq .none (.seq (.seq (.reg [(14,.one .bool)] [1]) (.cond (.seq .none .none) .none)) (.seq (.seq (.reg [(24,.one .bool)] []) (.cond (.seq .none .none) .none)) (.seq .none .none)))
theorem Re(A:Amb)(p_0:ByteArray)(p_1:ByteArray)(p_2:Bool)(h:Heap)(R:Value→Heap→Prop):IP A p_0 p_1 p_2 h R=AX A P FJ Rt [.agg #[.string p_0,.string p_1,.bool p_2]] h R:=by kernel_rfl
theorem Pv {A:Amb}{p_0:ByteArray}{p_1:ByteArray}{p_2:Bool}{h:Heap}{R:Value→Heap→Prop}(H:IP A p_0 p_1 p_2 h R):AA A P FJ #[.agg #[.string p_0,.string p_1,.bool p_2]] h R:=
 AJ mixed (Re A p_0 p_1 p_2 h R▸H)
def PD(A:Amb)(s:Value)(vto:ByteArray)(most:Int)(h:Heap)(R:Value→Heap→Prop):Prop:=
 New h (.cells #[.string vto] Ad) fun b h1=>
 New h1 (.cells #[.int .i64 most] BL) fun b1 h2=>
 New h2 (.cells #[.slice none 0 0] AV) fun b2 h3=>
 Join (fun(r:Bool×Unit) h4=>
 PIf r.1 (
 R (.slice none 0 0) h4) (
 TT A P s [.agg [.str,.str,.bool]] (fun(args:(ByteArray×ByteArray×Bool×Unit)×Unit) l h5 kn kj=>
 New h5 (.cells #[.string (⟨#[]⟩:ByteArray),.string (⟨#[]⟩:ByteArray),.bool false] AO) fun b3 h7=>
 Store h7 (⟨b3,0,none⟩:Addr) (.string args.1.1) fun h8=>
 Store h8 ((⟨b3,0,none⟩:Addr).add 1) (.string args.1.2.1) fun h9=>
 Store h9 ((⟨b3,0,none⟩:Addr).add 2) (.bool args.1.2.2.1) fun h10=>
 ∃vrec:Go.Loop,h10[l]? =some (.loop vrec)∧vrec.state= .ready∧(
 Join (fun(r1:Bool×Unit) h11=>
 PIf r1.1 (
 kj (some 0) h11) (
 AZ h11 (⟨b2,0,none⟩:Addr) fun t25=>
 AL h11 (⟨b3,0,none⟩:Addr) fun t26_0=>
 AL h11 ((⟨b3,0,none⟩:Addr).add 1) fun t26_1=>
 Ab h11 ((⟨b3,0,none⟩:Addr).add 2) fun t26_2=>
 New h11 (.cells #[.string t26_0,.string t26_1,.bool t26_2] AO) fun b4 h12=>
 BK A P (Builtin.append_ #[AV,AV] AV #[.slice t25.p t25.len t25.cap,.slice (some (⟨b4,0,none⟩:Addr)) 1 1]) h12 fun v h13=> ∃t28:Sl,v= .slice t28.p t28.len t28.cap∧(
 Store h13 (⟨b2,0,none⟩:Addr) (.slice t28.p t28.len t28.cap) fun h14=>
 AZ h14 (⟨b2,0,none⟩:Addr) fun t29=>
 Aa .i64 h14 (⟨b1,0,none⟩:Addr) fun t31=>
 PIf (((t29.len:Nat):Int)==t31) (
 kj (some 0) h14) (
 kn h14)))) fun K1=>
 AL (h10.setIfInBounds l (.loop {vrec with state:= .busy})) (⟨b,0,none⟩:Addr) fun t17=>
 PIf (!sEq t17 (⟨#[]⟩:ByteArray)) (
 AL (h10.setIfInBounds l (.loop {vrec with state:= .busy})) (⟨b3,0,none⟩:Addr) fun t21=>
 AL (h10.setIfInBounds l (.loop {vrec with state:= .busy})) (⟨b,0,none⟩:Addr) fun t22=>
 K1 ((!sLt t21 t22),()) (h10.setIfInBounds l (.loop {vrec with state:= .busy}))) (
 K1 (false,()) (h10.setIfInBounds l (.loop {vrec with state:= .busy}))))) h4 (fun h15=>
 AZ h15 (⟨b2,0,none⟩:Addr) fun t33=>
 h15[h4.size]? =some (.deferred (some []))∧(
 R (.slice t33.p t33.len t33.cap) (h15.setIfInBounds h4.size (.deferred none)))) (fun j h16=>
 (match j with
 |none=>(
 h16[h4.size]? =some (.deferred (some []))∧(
 R (.slice none 0 0) (h16.setIfInBounds h4.size (.deferred none))))
 |some i=>(match Nat.beq i 0 with
 |true=>(
 AZ h16 (⟨b2,0,none⟩:Addr) fun t33_1=>
 h16[h4.size]? =some (.deferred (some []))∧(
 R (.slice t33_1.p t33_1.len t33_1.cap) (h16.setIfInBounds h4.size (.deferred none))))
 |false=>False))))) fun K=>
 Chk (ACQ s)<|
 PIf ((P7 s)) (
 K (true,()) h3) (
 Aa .i64 h3 (⟨b1,0,none⟩:Addr) fun t12=>
 K ((decide (t12≤(0:Int))),()) h3)
def ACq:Ann:= .seq .none (.seq .none (.seq (.seq (.reg [(14,.one .bool)] [0,4,5,6,7]) (.cond (.seq .none .none) .none)) (.seq (.seq .none (.block (.range [.agg [.str,.str,.bool]] .none (.block (.seq (.seq (.reg [(24,.one .bool)] [5,7,8]) (.cond .none .none)) (.seq .none (.seq .none (.cond .none .none)))))))) (.seq .none .none))))
theorem ADS(A:Amb)(s:Value)(vto:ByteArray)(most:Int)(h:Heap)(R:Value→Heap→Prop):PD A s vto most h R=AX A P Ha ACq [s,.string vto,.int .i64 most] h R:=by kernel_rfl
theorem AA2 {A:Amb}{s:Value}{vto:ByteArray}{most:Int}{h:Heap}{R:Value→Heap→Prop}(H:PD A s vto most h R):AA A P Ha #[s,.string vto,.int .i64 most] h R:=
 AJ mixed (ADS A s vto most h R▸H)
def Oz(A:Amb)(s:Value)(h:Heap)(R:Value→Heap→Prop):Prop:=
 T9 (Jj s)<|
 New h (.cells #[s] BN) fun b h1=>
 R ((.func (.func JI) #[] #[.pointer (some (⟨b,0,none⟩:Addr))])) h1
def ADJ:Ann:= .seq .none (.seq .none .none)
theorem ACz(A:Amb)(s:Value)(h:Heap)(R:Value→Heap→Prop):Oz A s h R=AX A P I9 ADJ [s] h R:=by kernel_rfl
theorem AA3 {A:Amb}{s:Value}{h:Heap}{R:Value→Heap→Prop}(H:Oz A s h R):AA A P I9 #[s] h R:=
 AJ mixed (ACz A s h R▸H)
def PG(A:Amb)(d:Option Addr)(vfrom:ByteArray)(vto:ByteArray)(h:Heap)(R:Value→Heap→Prop):Prop:=
 At d fun a=>
 AP h (a.add 3) fun t13=>
 AA A P FN #[.pointer t13,.string vfrom] h fun v h1=> ∃t15:Value,v=t15∧(
 AA A P Ha #[t15,.string vto,.int .i64 1099511627776] h1 fun v1 h2=> ∃t17:Sl,v1= .slice t17.p t17.len t17.cap∧(
 AA A P BM #[.slice t17.p t17.len t17.cap] h2 fun v2 h3=> ∃t18:Value,v2=t18∧(
 T9 (Jj t18)<|
 New h3 (.cells #[t18] BN) fun b h4=>
 At d fun a1=>
 AZ h4 (a1.add 4) fun t23=>
 Loop (fun K (s:Sl×Int×Unit) h5=>
 PIf (decide (s.2.1<((t23.len:Nat):Int))) (
 Idx t23.p t23.len s.2.1 fun a2=>
 AP h5 (a2.add (s.2.1.toNat*1)) fun t28=>
 AA A P EY #[.pointer t28,.string vfrom] h5 fun v3 h6=> ∃t32:Value,v3=t32∧(
 AA A P Ha #[t32,.string vto,.int .i64 1099511627776] h6 fun v4 h7=> ∃t34:Sl,v4= .slice t34.p t34.len t34.cap∧(
 AA A P BM #[.slice t34.p t34.len t34.cap] h7 fun v5 h8=> ∃t35:Value,v5=t35∧(
 T9 (Jj t35)<|
 New h8 (.cells #[t35] BN) fun b1 h9=>
 BK A P (Builtin.append_ #[Am,Am] Am #[.slice s.1.p s.1.len s.1.cap,.slice (some (⟨b1,0,none⟩:Addr)) 1 1]) h9 fun v6 h10=> ∃t37:Sl,v6= .slice t37.p t37.len t37.cap∧(
 K ((⟨t37.p,t37.len,t37.cap⟩:Sl),(IntKind.wrap .i64 (s.2.1+(1:Int))),()) h10))))) (
 AA A P KA #[.slice s.1.p s.1.len s.1.cap] h5 fun v7 h11=> ∃t40:Value,v7=t40∧(
 R (t40) h11))) ((⟨(some (⟨b,0,none⟩:Addr)),1,1⟩:Sl),0,()) h4)))
def ACX:Ann:= .seq .none (.seq .none (.seq (.seq .none (.block (.loop [(7,.one .sl),(25,.one (.int .i64))] [1,2,23,24] (.seq .none (.seq (.cond .none .none) (.seq (.block (.seq .none .none)) .none)))))) (.seq .none .none)))
theorem ACM(A:Amb)(d:Option Addr)(vfrom:ByteArray)(vto:ByteArray)(h:Heap)(R:Value→Heap→Prop):PG A d vfrom vto h R=AX A P Kw ACX [.pointer d,.string vfrom,.string vto] h R:=by kernel_rfl
theorem AAl {A:Amb}{d:Option Addr}{vfrom:ByteArray}{vto:ByteArray}{h:Heap}{R:Value→Heap→Prop}(H:PG A d vfrom vto h R):AA A P Kw #[.pointer d,.string vfrom,.string vto] h R:=
 AJ mixed (ACM A d vfrom vto h R▸H)
def PM(A:Amb)(d:Option Addr)(n:Int)(l:Sl)(h:Heap)(R:Value→Heap→Prop):Prop:=
 AA A P Jz #[.slice l.p l.len l.cap] h fun v h1=> ∃t15a:ByteArray,∃t15b:Int,v= .tuple #[.string t15a,.int .i64 t15b]∧(
 PIf (t15b != (0:Int)) (
 R (.tuple #[.pointer none,.int .i64 t15b]) h1) (
 At d fun a=>
 AP h1 a fun t24=>
 AA A P Fp #[.int .i64 n] h1 fun v1 h2=> ∃t26:ByteArray,v1= .string t26∧(
 And (hget h2 a=some (.pointer t24))<|
 AA A P Fa #[.pointer t24,.string t26,.string t15a] h2 fun v2 h3=> ∃t28:Int,v2= .int .i64 t28∧(
 PIf (t28 != (0:Int)) (
 R (.tuple #[.pointer none,.int .i64 t28]) h3) (
 At d fun a1=>
 AP h3 a1 fun t35=>
 AA A P Fp #[.int .i64 n] h3 fun v3 h4=> ∃t37:ByteArray,v3= .string t37∧(
 And (hget h4 a1=some (.pointer t35))<|
 AA A P Gr #[.pointer t35,.string t37] h4 fun v4 h5=> ∃t38:Int,v4= .int .i64 t38∧(
 PIf (t38 != (0:Int)) (
 R (.tuple #[.pointer none,.int .i64 t38]) h5) (
 At d fun a2=>
 AP h5 a2 fun t46=>
 AA A P Fp #[.int .i64 n] h5 fun v5 h6=> ∃t48:ByteArray,v5= .string t48∧(
 And (hget h6 a2=some (.pointer t46))<|
 AA A P FV #[.pointer t46,.string t48] h6 fun v6 h7=> ∃t49a:ByteArray,∃t49b:Int,v6= .tuple #[.string t49a,.int .i64 t49b]∧(
 PIf (t49b != (0:Int)) (
 R (.tuple #[.pointer none,.int .i64 t49b]) h7) (
 AA A P I7 #[.string t49a] h7 fun v7 h8=> ∃t56a:Option Addr,∃t56b:Int,v7= .tuple #[.pointer t56a,.int .i64 t56b]∧(
 R (.tuple #[.pointer t56a,.int .i64 t56b]) h8))))))))))))
def ADU:Ann:= .seq .none (.seq .none (.seq (.seq .none (.cond (.seq .none .none) .none)) (.seq (.seq .none (.seq .none (.cond (.seq .none .none) .none))) (.seq (.seq .none (.seq .none (.cond (.seq .none .none) .none))) (.seq .none (.seq (.seq .none (.cond (.seq .none .none) .none)) (.seq .none .none)))))))
theorem ACO(A:Amb)(d:Option Addr)(n:Int)(l:Sl)(h:Heap)(R:Value→Heap→Prop):PM A d n l h R=AX A P JF ADU [.pointer d,.int .i64 n,.slice l.p l.len l.cap] h R:=by kernel_rfl
theorem AAI {A:Amb}{d:Option Addr}{n:Int}{l:Sl}{h:Heap}{R:Value→Heap→Prop}(H:PM A d n l h R):AA A P JF #[.pointer d,.int .i64 n,.slice l.p l.len l.cap] h R:=
 AJ mixed (ACO A d n l h R▸H)
def EA(A:Amb)(seq:Value)(h:Heap)(R:Value→Heap→Prop):Prop:=
 AA A P BX #[.slice none 0 0,seq] h fun v h1=> ∃t4:Sl,v= .slice t4.p t4.len t4.cap∧(
 R (.slice t4.p t4.len t4.cap) h1)
def Ki:Ann:= .seq .none (.seq .none .none)
theorem KO(A:Amb)(seq:Value)(h:Heap)(R:Value→Heap→Prop):EA A seq h R=AX A P Br Ki [seq] h R:=by kernel_rfl
theorem J8 {A:Amb}{seq:Value}{h:Heap}{R:Value→Heap→Prop}(H:EA A seq h R):AA A P Br #[seq] h R:=
 AJ mixed (KO A seq h R▸H)
def Ji(A:Amb)(t:Option Addr)(key:ByteArray)(h:Heap)(R:Value→Heap→Prop):Prop:=
 New h (.cells #[.pointer t] AAL) fun b h1=>
 New h1 (.cells #[.string key] Ad) fun b1 h2=>
 R ((.func (.func Fh) #[] #[.pointer (some (⟨b,0,none⟩:Addr)),.pointer (some (⟨b1,0,none⟩:Addr))])) h2
def Vd:Ann:= .seq .none (.seq .none .none)
theorem VY(A:Amb)(t:Option Addr)(key:ByteArray)(h:Heap)(R:Value→Heap→Prop):Ji A t key h R=AX A P FN Vd [.pointer t,.string key] h R:=by kernel_rfl
theorem Ul {A:Amb}{t:Option Addr}{key:ByteArray}{h:Heap}{R:Value→Heap→Prop}(H:Ji A t key h R):AA A P FN #[.pointer t,.string key] h R:=
 AJ mixed (VY A t key h R▸H)
def Bz(A:Amb)(s:Sl)(i:Int)(v:Sl)(h:Heap)(R:Value→Heap→Prop):Prop:=
 Chk ((0:Int)≤i∧i≤((s.len:Nat):Int))<|
 PIf (((v.len:Nat):Int)==(0:Int)) (
 R (.slice s.p s.len s.cap) h) (
 PIf (i==((s.len:Nat):Int)) (
 BK A P (Builtin.append_ #[Ae,Ae] Ae #[.slice s.p s.len s.cap,.slice v.p v.len v.cap]) h fun v1 h1=> ∃t25:Sl,v1= .slice t25.p t25.len t25.cap∧(
 R (.slice t25.p t25.len t25.cap) h1)) (
 PIf (decide ((IntKind.wrap .i64 (((s.len:Nat):Int)+((v.len:Nat):Int)))>((s.cap:Nat):Int))) (
 Chk ((0:Int)≤i∧i≤((s.cap:Nat):Int))<|
 BK A P (Builtin.append_ #[Ae,BL] Ae #[.slice (Ao s.p s.cap 0 1) (i.toNat-0) (s.cap-0),.int .i64 (IntKind.wrap .i64 ((IntKind.wrap .i64 (((s.len:Nat):Int)+((v.len:Nat):Int)))-i))]) h fun v2 h2=> ∃t40:Sl,v2= .slice t40.p t40.len t40.cap∧(
 Chk ((0:Int)≤i∧i≤((t40.len:Nat):Int))<|
 BK A P (Builtin.copy_ #[Ae,Ae] BL #[.slice (Ao t40.p t40.cap i.toNat 1) (t40.len-i.toNat) (t40.cap-i.toNat),.slice v.p v.len v.cap]) h2 fun v3 h3=> ∃t45:Int,v3= .int .i64 t45∧(
 Chk ((0:Int)≤(IntKind.wrap .i64 (i+((v.len:Nat):Int)))∧(IntKind.wrap .i64 (i+((v.len:Nat):Int)))≤((t40.len:Nat):Int))<|
 Chk ((0:Int)≤i∧i≤((s.len:Nat):Int))<|
 BK A P (Builtin.copy_ #[Ae,Ae] BL #[.slice (Ao t40.p t40.cap ((IntKind.wrap .i64 (i+((v.len:Nat):Int))).toNat) 1) (t40.len-((IntKind.wrap .i64 (i+((v.len:Nat):Int))).toNat)) (t40.cap-((IntKind.wrap .i64 (i+((v.len:Nat):Int))).toNat)),.slice (Ao s.p s.cap i.toNat 1) (s.len-i.toNat) (s.cap-i.toNat)]) h3 fun v4 h4=> ∃t54:Int,v4= .int .i64 t54∧(
 R (.slice t40.p t40.len t40.cap) h4)))) (
 Chk ((0:Int)≤(IntKind.wrap .i64 (((s.len:Nat):Int)+((v.len:Nat):Int)))∧(IntKind.wrap .i64 (((s.len:Nat):Int)+((v.len:Nat):Int)))≤((s.cap:Nat):Int))<|
 Chk ((0:Int)≤(IntKind.wrap .i64 (i+((v.len:Nat):Int)))∧(IntKind.wrap .i64 (i+((v.len:Nat):Int)))≤(((((IntKind.wrap .i64 (((s.len:Nat):Int)+((v.len:Nat):Int))).toNat)-0):Nat):Int))<|
 ALe A P DD #[.slice v.p v.len v.cap,.slice (Ao (Ao s.p s.cap 0 1) (s.cap-0) ((IntKind.wrap .i64 (i+((v.len:Nat):Int))).toNat) 1) ((((IntKind.wrap .i64 (((s.len:Nat):Int)+((v.len:Nat):Int))).toNat)-0)-((IntKind.wrap .i64 (i+((v.len:Nat):Int))).toNat)) ((s.cap-0)-((IntKind.wrap .i64 (i+((v.len:Nat):Int))).toNat))] h fun v5 h5=> ∃t67:Bool,v5= .bool t67∧(
 PIf (!t67) (
 Chk ((0:Int)≤(IntKind.wrap .i64 (i+((v.len:Nat):Int)))∧(IntKind.wrap .i64 (i+((v.len:Nat):Int)))≤(((((IntKind.wrap .i64 (((s.len:Nat):Int)+((v.len:Nat):Int))).toNat)-0):Nat):Int))<|
 Chk ((0:Int)≤i∧i≤(((((IntKind.wrap .i64 (((s.len:Nat):Int)+((v.len:Nat):Int))).toNat)-0):Nat):Int))<|
 BK A P (Builtin.copy_ #[Ae,Ae] BL #[.slice (Ao (Ao s.p s.cap 0 1) (s.cap-0) ((IntKind.wrap .i64 (i+((v.len:Nat):Int))).toNat) 1) ((((IntKind.wrap .i64 (((s.len:Nat):Int)+((v.len:Nat):Int))).toNat)-0)-((IntKind.wrap .i64 (i+((v.len:Nat):Int))).toNat)) ((s.cap-0)-((IntKind.wrap .i64 (i+((v.len:Nat):Int))).toNat)),.slice (Ao (Ao s.p s.cap 0 1) (s.cap-0) i.toNat 1) ((((IntKind.wrap .i64 (((s.len:Nat):Int)+((v.len:Nat):Int))).toNat)-0)-i.toNat) ((s.cap-0)-i.toNat)]) h5 fun v6 h6=> ∃t77:Int,v6= .int .i64 t77∧(
 Chk ((0:Int)≤i∧i≤(((((IntKind.wrap .i64 (((s.len:Nat):Int)+((v.len:Nat):Int))).toNat)-0):Nat):Int))<|
 BK A P (Builtin.copy_ #[Ae,Ae] BL #[.slice (Ao (Ao s.p s.cap 0 1) (s.cap-0) i.toNat 1) ((((IntKind.wrap .i64 (((s.len:Nat):Int)+((v.len:Nat):Int))).toNat)-0)-i.toNat) ((s.cap-0)-i.toNat),.slice v.p v.len v.cap]) h6 fun v7 h7=> ∃t82:Int,v7= .int .i64 t82∧(
 R (.slice (Ao s.p s.cap 0 1) (((IntKind.wrap .i64 (((s.len:Nat):Int)+((v.len:Nat):Int))).toNat)-0) (s.cap-0)) h7))) (
 Chk ((0:Int)≤((s.len:Nat):Int)∧((s.len:Nat):Int)≤(((((IntKind.wrap .i64 (((s.len:Nat):Int)+((v.len:Nat):Int))).toNat)-0):Nat):Int))<|
 BK A P (Builtin.copy_ #[Ae,Ae] BL #[.slice (Ao (Ao s.p s.cap 0 1) (s.cap-0) (((s.len:Nat):Int).toNat) 1) ((((IntKind.wrap .i64 (((s.len:Nat):Int)+((v.len:Nat):Int))).toNat)-0)-(((s.len:Nat):Int).toNat)) ((s.cap-0)-(((s.len:Nat):Int).toNat)),.slice v.p v.len v.cap]) h5 fun v8 h8=> ∃t88:Int,v8= .int .i64 t88∧(
 Chk ((0:Int)≤i∧i≤(((((IntKind.wrap .i64 (((s.len:Nat):Int)+((v.len:Nat):Int))).toNat)-0):Nat):Int))<|
 AA A P EI #[.slice (Ao (Ao s.p s.cap 0 1) (s.cap-0) i.toNat 1) ((((IntKind.wrap .i64 (((s.len:Nat):Int)+((v.len:Nat):Int))).toNat)-0)-i.toNat) ((s.cap-0)-i.toNat),.int .i64 ((v.len:Nat):Int)] h8 fun v9 h9=>v9= .tuple #[]∧(
 R (.slice (Ao s.p s.cap 0 1) (((IntKind.wrap .i64 (((s.len:Nat):Int)+((v.len:Nat):Int))).toNat)-0) (s.cap-0)) h9)))))))
def E8:Ann:= .seq .none (.seq .none (.seq .none (.seq (.seq .none (.cond (.seq .none .none) .none)) (.seq .none (.seq (.seq .none (.cond (.seq .none .none) .none)) (.seq (.seq .none (.cond (.seq .none (.seq .none (.seq .none (.seq .none .none)))) .none)) (.seq .none (.seq (.seq .none (.cond (.seq .none (.seq .none (.seq .none .none))) .none)) (.seq .none (.seq .none (.seq .none .none)))))))))))
theorem E5(A:Amb)(s:Sl)(i:Int)(v:Sl)(h:Heap)(R:Value→Heap→Prop):Bz A s i v h R=AX A P Aj E8 [.slice s.p s.len s.cap,.int .i64 i,.slice v.p v.len v.cap] h R:=by kernel_rfl
theorem Ew {A:Amb}{s:Sl}{i:Int}{v:Sl}{h:Heap}{R:Value→Heap→Prop}(H:Bz A s i v h R):AA A P Aj #[.slice s.p s.len s.cap,.int .i64 i,.slice v.p v.len v.cap] h R:=
 AJ mixed (E5 A s i v h R▸H)
def Mx(A:Amb)(d:Option Addr)(h:Heap)(R:Value→Heap→Prop):Prop:=
 At d fun a=>
 AP h (a.add 2) fun t9=>
 AA A P J5 #[.pointer d] h fun v h1=> ∃t11:ByteArray,v= .string t11∧(
 And (hget h1 (a.add 2)=some (.pointer t9))<|
 AA A P ES #[.pointer t9,.string t11] h1 fun v1 h2=> ∃t12:Int,v1= .int .i64 t12∧(
 PIf (t12 != (0:Int)) (
 R (.int .i64 t12) h2) (
 At d fun a1=>
 AP h2 (a1.add 2) fun t20=>
 AA A P ER #[.pointer t20] h2 fun v2 h3=> ∃t21a:Int,∃t21b:Int,v2= .tuple #[.int .i64 t21a,.int .i64 t21b]∧(
 PIf (t21b != (0:Int)) (
 R (.int .i64 t21b) h3) (
 At d fun a2=>
 AP h3 (a2.add 2) fun t30=>
 AA A P FP #[.pointer t30,.int .i64 (IntKind.wrap .i64 (t21a-(1:Int)))] h3 fun v3 h4=> ∃t33:Int,v3= .int .i64 t33∧(
 R (.int .i64 t33) h4))))))
def AAy:Ann:= .seq .none (.seq (.seq .none (.seq .none (.cond (.seq .none .none) .none))) (.seq .none (.seq (.seq .none (.cond (.seq .none .none) .none)) (.seq .none .none))))
theorem AAV(A:Amb)(d:Option Addr)(h:Heap)(R:Value→Heap→Prop):Mx A d h R=AX A P GI AAy [.pointer d] h R:=by kernel_rfl
theorem ZJ {A:Amb}{d:Option Addr}{h:Heap}{R:Value→Heap→Prop}(H:Mx A d h R):AA A P GI #[.pointer d] h R:=
 AJ mixed (AAV A d h R▸H)
def MG(A:Amb)(l:Option Addr)(upto:Int)(h:Heap)(R:Value→Heap→Prop):Prop:=
 Join (fun(r:Bool×Unit) h1=>
 PIf r.1 (
 R (.int .i64 1) h1) (
 At l fun a=>
 AP h1 a fun t24=>
 At l fun a1=>
 AL h1 (a1.add 1) fun t28=>
 AA A P HZ #[.pointer t24,.string t28] h1 fun v h2=> ∃t29a:Sl,∃t29b:Int,v= .tuple #[.slice t29a.p t29a.len t29a.cap,.int .i64 t29b]∧(
 PIf (t29b != (0:Int)) (
 R (.int .i64 t29b) h2) (
 Loop (fun K1 (s:Int×Unit) h3=>
 PIf (decide (s.1<((t29a.len:Nat):Int))) (
 Join (fun(s1:Unit) h4=>
 K1 ((IntKind.wrap .i64 (s.1+(1:Int))),()) h4) fun K2=>
 Idx t29a.p t29a.len s.1 fun a2=>
 Aa .i64 h3 (a2.add (s.1.toNat*1)) fun t40=>
 PIf (decide (t40≤upto)) (
 At l fun a3=>
 AP h3 a3 fun t47=>
 At l fun a4=>
 AL h3 (a4.add 1) fun t51=>
 AA A P Gt #[.string t51,.int .i64 t40] h3 fun v1 h5=> ∃t53:ByteArray,v1= .string t53∧(
 And (hget h5 a3=some (.pointer t47))<|
 AA A P EU #[.pointer t47,.string t53] h5 fun v2 h6=> ∃t54:Int,v2= .int .i64 t54∧(
 PIf (t54 != (0:Int)) (
 R (.int .i64 t54) h6) (
 K2 () h6)))) (
 K2 () h3)) (
 R (.int .i64 0) h3)) (0,()) h2)))) fun K=>
 PIf (l.isNone) (
 K (true,()) h) (
 At l fun a5=>
 Aa .i64 h (a5.add 2) fun t17=>
 K ((decide (upto≥t17)),()) h)
def Yi:Ann:= .seq .none (.seq (.seq (.reg [(19,.one .bool)] [0,1]) (.cond (.seq .none .none) .none)) (.seq .none (.seq (.seq .none (.cond (.seq .none .none) .none)) (.seq (.seq .none (.block (.loop [(37,.one (.int .i64))] [0,1,35,36] (.seq .none (.seq (.cond .none .none) (.seq (.blockJ [] [0,1,35,36,37] (.seq .none (.seq .none (.cond (.seq .none (.seq .none (.cond (.seq .none .none) .none))) .none)))) .none)))))) (.seq .none .none)))))
theorem YO(A:Amb)(l:Option Addr)(upto:Int)(h:Heap)(R:Value→Heap→Prop):MG A l upto h R=AX A P FP Yi [.pointer l,.int .i64 upto] h R:=by kernel_rfl
theorem XJ {A:Amb}{l:Option Addr}{upto:Int}{h:Heap}{R:Value→Heap→Prop}(H:MG A l upto h R):AA A P FP #[.pointer l,.int .i64 upto] h R:=
 AJ mixed (YO A l upto h R▸H)
def Ik(A:Amb)(t:Option Addr)(key:ByteArray)(h:Heap)(R:Value→Heap→Prop):Prop:=
 New h (.cells #[.pointer t] Au) fun b h1=>
 New h1 (.cells #[.string key] Ad) fun b1 h2=>
 R ((.func (.func En) #[] #[.pointer (some (⟨b,0,none⟩:Addr)),.pointer (some (⟨b1,0,none⟩:Addr))])) h2
def Sk:Ann:= .seq .none (.seq .none .none)
theorem SK(A:Amb)(t:Option Addr)(key:ByteArray)(h:Heap)(R:Value→Heap→Prop):Ik A t key h R=AX A P EY Sk [.pointer t,.string key] h R:=by kernel_rfl
theorem Ra {A:Amb}{t:Option Addr}{key:ByteArray}{h:Heap}{R:Value→Heap→Prop}(H:Ik A t key h R):AA A P EY #[.pointer t,.string key] h R:=
 AJ mixed (SK A t key h R▸H)
def Ps(A:Amb)(l:Sl)(h:Heap)(R:Value→Heap→Prop):Prop:=
 New h (.cells #[.slice l.p l.len l.cap] Am) fun b h1=>
 R ((.func (.func J2) #[] #[.pointer (some (⟨b,0,none⟩:Addr))])) h1
def AE8:Ann:= .seq .none (.seq .none .none)
theorem AEb(A:Amb)(l:Sl)(h:Heap)(R:Value→Heap→Prop):Ps A l h R=AX A P KA AE8 [.slice l.p l.len l.cap] h R:=by kernel_rfl
theorem ACx {A:Amb}{l:Sl}{h:Heap}{R:Value→Heap→Prop}(H:Ps A l h R):AA A P KA #[.slice l.p l.len l.cap] h R:=
 AJ mixed (AEb A l h R▸H)
def Jl(A:Amb)(b:Option Addr)(name:ByteArray)(h:Heap)(R:Value→Heap→Prop):Prop:=
 AA A P EP #[.pointer b] h fun v h1=> ∃t7:Bool,v= .bool t7∧(
 PIf t7 (
 R (.int .i64 30) h1) (
 At b fun a=>
 DC h1 a fun t12=>
 BK A P (Instr.lookup BH (.map t12) (.string name) false) h1 fun v1 h2=> ∃t14:Option Addr,v1= .pointer t14∧(
 PIf (t14.isNone) (
 R (.int .i64 31) h2) (
 AA A P EX #[.pointer b] h2 fun v2 h3=> ∃t18:Bool,v2= .bool t18∧(
 PIf (!t18) (
 R (.int .i64 30) h3) (
 At b fun a1=>
 DC h3 a1 fun t23=>
 BK A P (Builtin.delete_ #[BH,Ad] t_ #[.map t23,.string name]) h3 fun v3 h4=>v3= .tuple #[]∧(
 R (.int .i64 0) h4)))))))
def WO:Ann:= .seq .none (.seq (.block (.seq .none (.cond (.seq .none .none) (.seq .none (.cond (.seq .none .none) (.seq .none (.cond (.seq .none .none) .none))))))) (.seq .none (.seq .none .none)))
theorem VK(A:Amb)(b:Option Addr)(name:ByteArray)(h:Heap)(R:Value→Heap→Prop):Jl A b name h R=AX A P EU WO [.pointer b,.string name] h R:=by kernel_rfl
theorem UN {A:Amb}{b:Option Addr}{name:ByteArray}{h:Heap}{R:Value→Heap→Prop}(H:Jl A b name h R):AA A P EU #[.pointer b,.string name] h R:=
 AJ mixed (VK A b name h R▸H)
def OQ(A:Amb)(n:Int)(h:Heap)(R:Value→Heap→Prop):Prop:=
 New h (.cells #[.int .u8 (IntKind.wrap .u8 n)] Ci) fun b h1=>
 BK A P (convert CO Ad (.slice (some (⟨b,0,none⟩:Addr)) 1 1)) h1 fun v h2=> ∃t6:ByteArray,v= .string t6∧(
 R (.string t6) h2)
def AB9:Ann:= .seq .none (.seq .none .none)
theorem ACT(A:Amb)(n:Int)(h:Heap)(R:Value→Heap→Prop):OQ A n h R=AX A P Ox AB9 [.int .i64 n] h R:=by kernel_rfl
theorem AAF {A:Amb}{n:Int}{h:Heap}{R:Value→Heap→Prop}(H:OQ A n h R):AA A P Ox #[.int .i64 n] h R:=
 AJ mixed (ACT A n h R▸H)
def Sj(A:Amb)(n:Int)(h:Heap)(R:Value→Heap→Prop):Prop:=
 Loop (fun K (s:Int×Sl×Unit) h1=>
 PIf (decide (s.1≥(128:Int))) (
 New h1 (.cells #[.int .u8 (bOr .u8 (IntKind.wrap .u8 s.1) (128:Int))] Ci) fun b h2=>
 BK A P (Builtin.append_ #[CO,CO] CO #[.slice s.2.1.p s.2.1.len s.2.1.cap,.slice (some (⟨b,0,none⟩:Addr)) 1 1]) h2 fun v h3=> ∃t11:Sl,v= .slice t11.p t11.len t11.cap∧(
 K ((s.1.fdiv ((2:Int)^(7:Nat))),(⟨t11.p,t11.len,t11.cap⟩:Sl),()) h3)) (
 New h1 (.cells #[.int .u8 (IntKind.wrap .u8 s.1)] Ci) fun b1 h4=>
 BK A P (Builtin.append_ #[CO,CO] CO #[.slice s.2.1.p s.2.1.len s.2.1.cap,.slice (some (⟨b1,0,none⟩:Addr)) 1 1]) h4 fun v1 h5=> ∃t18:Sl,v1= .slice t18.p t18.len t18.cap∧(
 BK A P (convert CO Ad (.slice t18.p t18.len t18.cap)) h5 fun v2 h6=> ∃t19:ByteArray,v2= .string t19∧(
 R (.string t19) h6)))) (n,(⟨none,0,0⟩:Sl),()) h
def AF7:Ann:= .seq .none (.seq .none (.seq (.block (.loop [(0,.one (.int .u64)),(3,.one .sl)] [] (.seq (.seq .none (.cond .none .none)) (.block (.seq .none .none))))) (.seq .none .none)))
theorem AGp(A:Amb)(n:Int)(h:Heap)(R:Value→Heap→Prop):Sj A n h R=AX A P CG AF7 [.int .u64 n] h R:=by kernel_rfl
theorem AFH {A:Amb}{n:Int}{h:Heap}{R:Value→Heap→Prop}(H:Sj A n h R):AA A P CG #[.int .u64 n] h R:=
 AJ mixed (AGp A n h R▸H)
def QT(A:Amb)(s:ByteArray)(h:Heap)(R:Value→Heap→Prop):Prop:=
 AA A P CG #[.int .u64 (IntKind.wrap .u64 (s.size:Int))] h fun v h1=> ∃t6:ByteArray,v= .string t6∧(
 Chk (((t6.size+s.size:Nat):Int)≤IntKind.i64.max)<|
 R (.string (t6++s)) h1)
def AED:Ann:= .seq .none (.seq .none .none)
theorem AEk(A:Amb)(s:ByteArray)(h:Heap)(R:Value→Heap→Prop):QT A s h R=AX A P Dt AED [.string s] h R:=by kernel_rfl
theorem AC7 {A:Amb}{s:ByteArray}{h:Heap}{R:Value→Heap→Prop}(H:QT A s h R):AA A P Dt #[.string s] h R:=
 AJ mixed (AEk A s h R▸H)
def IY(A:Amb)(r:Option Addr)(h:Heap)(R:Value→Heap→Prop):Prop:=
 AA A P Eo #[.pointer r] h fun v h1=> ∃t5:Int,v= .int .u64 t5∧(
 Join (fun(r1:Bool×Unit) h2=>
 PIf r1.1 (
 R (.string (⟨#[]⟩:ByteArray)) h2) (
 AA A P De #[.pointer r,.int .i64 (IntKind.wrap .i64 (if(1099511627776:Int)<t5 then 1099511627776 else t5))] h2 fun v1 h3=> ∃t18:ByteArray,v1= .string t18∧(
 R (.string t18) h3))) fun K=>
 PIf (r.isNone) (
 K (true,()) h1) (
 At r fun a=>
 Ab h1 (a.add 1) fun t12=>
 K (t12,()) h1))
def TI:Ann:= .seq .none (.seq .none (.seq (.seq (.reg [(13,.one .bool)] [0,3]) (.cond (.seq .none .none) .none)) (.seq .none .none)))
theorem Tc(A:Amb)(r:Option Addr)(h:Heap)(R:Value→Heap→Prop):IY A r h R=AX A P Cc TI [.pointer r] h R:=by kernel_rfl
theorem RZ {A:Amb}{r:Option Addr}{h:Heap}{R:Value→Heap→Prop}(H:IY A r h R):AA A P Cc #[.pointer r] h R:=
 AJ mixed (Tc A r h R▸H)
def MF(A:Amb)(b:Option Addr)(name:ByteArray)(h:Heap)(R:Value→Heap→Prop):Prop:=
 AA A P G5 #[.pointer b] h fun v h1=> ∃t14a:Sl,∃t14b:Int,v= .tuple #[.slice t14a.p t14a.len t14a.cap,.int .i64 t14b]∧(
 PIf (t14b != (0:Int)) (
 R (.tuple #[.slice none 0 0,.int .i64 t14b]) h1) (
 Loop (fun K (s:Sl×Int×Unit) h2=>
 PIf (decide (s.2.1<((t14a.len:Nat):Int))) (
 Join (fun(s1:Sl×Unit) h3=>
 K ((⟨s1.1.p,s1.1.len,s1.1.cap⟩:Sl),(IntKind.wrap .i64 (s.2.1+(1:Int))),()) h3) fun K1=>
 Idx t14a.p t14a.len s.2.1 fun a=>
 AL h2 (a.add (s.2.1.toNat*1)) fun t25=>
 AA A P LM #[.string name,.string t25] h2 fun v1 h4=> ∃t28:Int,v1= .int .i64 t28∧(
 PIf (decide (t28>(0:Int))) (
 New h4 (.cells #[.int .i64 t28] BL) fun b1 h5=>
 BK A P (Builtin.append_ #[Bv,Bv] Bv #[.slice s.1.p s.1.len s.1.cap,.slice (some (⟨b1,0,none⟩:Addr)) 1 1]) h5 fun v2 h6=> ∃t34:Sl,v2= .slice t34.p t34.len t34.cap∧(
 K1 ((⟨t34.p,t34.len,t34.cap⟩:Sl),()) h6)) (
 K1 ((⟨s.1.p,s.1.len,s.1.cap⟩:Sl),()) h4))) (
 AA A P Gq #[.slice s.1.p s.1.len s.1.cap] h2 fun v3 h7=>v3= .tuple #[]∧(
 R (.tuple #[.slice s.1.p s.1.len s.1.cap,.int .i64 0]) h7))) ((⟨none,0,0⟩:Sl),0,()) h1))
def ZT:Ann:= .seq .none (.seq .none (.seq (.seq .none (.cond (.seq .none .none) .none)) (.seq .none (.seq (.seq .none (.block (.loop [(8,.one .sl),(22,.one (.int .i64))] [1,20,21] (.seq .none (.seq (.cond .none .none) (.seq (.blockJ [(8,.one .sl)] [1,20,21,22] (.seq .none (.seq .none (.seq .none (.cond .none .none))))) .none)))))) (.seq .none (.seq .none .none))))))
theorem Zv(A:Amb)(b:Option Addr)(name:ByteArray)(h:Heap)(R:Value→Heap→Prop):MF A b name h R=AX A P HZ ZT [.pointer b,.string name] h R:=by kernel_rfl
theorem XQ {A:Amb}{b:Option Addr}{name:ByteArray}{h:Heap}{R:Value→Heap→Prop}(H:MF A b name h R):AA A P HZ #[.pointer b,.string name] h R:=
 AJ mixed (Zv A b name h R▸H)
def SX(A:Amb)(name:ByteArray)(seg:Int)(h:Heap)(R:Value→Heap→Prop):Prop:=
 AA A P MQ #[.int .i64 seg] h fun v h1=> ∃t7:ByteArray,v= .string t7∧(
 AA A P NW #[.string (⟨#[48]⟩:ByteArray),.int .i64 (if((IntKind.wrap .i64 ((8:Int)-(t7.size:Int))):Int)>0 then(IntKind.wrap .i64 ((8:Int)-(t7.size:Int))) else 0)] h1 fun v1 h2=> ∃t13:ByteArray,v1= .string t13∧(
 Chk (((name.size+t13.size:Nat):Int)≤IntKind.i64.max)<|
 Chk ((((name++t13).size+t7.size:Nat):Int)≤IntKind.i64.max)<|
 R (.string ((name++t13)++t7)) h2))
def AGF:Ann:= .seq .none (.seq .none (.seq .none .none))
theorem AGr(A:Amb)(name:ByteArray)(seg:Int)(h:Heap)(R:Value→Heap→Prop):SX A name seg h R=AX A P Gt AGF [.string name,.int .i64 seg] h R:=by kernel_rfl
theorem AE0 {A:Amb}{name:ByteArray}{seg:Int}{h:Heap}{R:Value→Heap→Prop}(H:SX A name seg h R):AA A P Gt #[.string name,.int .i64 seg] h R:=
 AJ mixed (AGr A name seg h R▸H)
def LG(A:Amb)(s:ByteArray)(h:Heap)(R:Value→Heap→Prop):Prop:=
 Loop (fun K (s1:Sl×ByteArray×Unit) h1=>
 AA A P Ky #[.string s1.2.1] h1 fun v h2=> ∃t12a:ByteArray,∃t12b:ByteArray,∃t12c:Int,v= .tuple #[.string t12a,.string t12b,.int .i64 t12c]∧(
 PIf (t12c==(0:Int)) (
 New h2 (.cells #[.string t12a] Ad) fun b h3=>
 BK A P (Builtin.append_ #[Bf,Bf] Bf #[.slice s1.1.p s1.1.len s1.1.cap,.slice (some (⟨b,0,none⟩:Addr)) 1 1]) h3 fun v1 h4=> ∃t21:Sl,v1= .slice t21.p t21.len t21.cap∧(
 K ((⟨t21.p,t21.len,t21.cap⟩:Sl),t12b,()) h4)) (
 R (.tuple #[.slice s1.1.p s1.1.len s1.1.cap,.int .i64 (IntKind.wrap .i64 ((s.size:Int)-(s1.2.1.size:Int)))]) h2))) ((⟨none,0,0⟩:Sl),s,()) h
def ACV:Ann:= .seq .none (.scope [(4,.one .sl),(5,.one .str)] [0] .none .none (.seq .none (.seq (.seq .none (.cond (.seq .none (.seq .none .none)) .none)) (.seq .none .none))))
theorem ACf(A:Amb)(s:ByteArray)(h:Heap)(R:Value→Heap→Prop):LG A s h R=AX A P Hw ACV [.string s] h R:=by kernel_rfl
theorem R4 {A:Amb}{s:ByteArray}{h:Heap}{R:Value→Heap→Prop}(H:LG A s h R):AA A P Hw #[.string s] h R:=
 AJ mixed (ACf A s h R▸H)
def I4(A:Amb)(r:Option Addr)(h:Heap)(R:Value→Heap→Prop):Prop:=
 Join (fun(r1:Bool×Unit) h1=>
 PIf r1.1 (
 R (.int .u64 0) h1) (
 At r fun a=>
 AL h1 a fun t18=>
 AA A P Li #[.string t18] h1 fun v h2=> ∃t19a:Int,∃t19b:ByteArray,∃t19c:Bool,v= .tuple #[.int .u64 t19a,.string t19b,.bool t19c]∧(
 At r fun a1=>
 Store h2 a1 (.string t19b) fun h3=>
 At r fun a2=>
 Store h3 (a2.add 1) (.bool (!t19c)) fun h4=>
 R (.int .u64 t19a) h4))) fun K=>
 PIf (r.isNone) (
 K (true,()) h) (
 At r fun a3=>
 Ab h (a3.add 1) fun t12=>
 K (t12,()) h)
def VD:Ann:= .seq .none (.seq (.seq (.reg [(13,.one .bool)] [0]) (.cond (.seq .none .none) .none)) (.seq .none (.seq .none (.seq .none .none))))
theorem UE(A:Amb)(r:Option Addr)(h:Heap)(R:Value→Heap→Prop):I4 A r h R=AX A P Eo VD [.pointer r] h R:=by kernel_rfl
theorem TM {A:Amb}{r:Option Addr}{h:Heap}{R:Value→Heap→Prop}(H:I4 A r h R):AA A P Eo #[.pointer r] h R:=
 AJ mixed (UE A r h R▸H)
def NI(A:Amb)(b:Option Addr)(h:Heap)(R:Value→Heap→Prop):Prop:=
 PIf (b.isNone) (
 R (.bool true) h) (
 At b fun a=>
 Ab h (a.add 2) fun t9=>
 R (.bool t9) h)
def AAj:Ann:= .seq .none (.seq .none .none)
theorem AAS(A:Amb)(b:Option Addr)(h:Heap)(R:Value→Heap→Prop):NI A b h R=AX A P EP AAj [.pointer b] h R:=by kernel_rfl
theorem Ze {A:Amb}{b:Option Addr}{h:Heap}{R:Value→Heap→Prop}(H:NI A b h R):AA A P EP #[.pointer b] h R:=
 AJ mixed (AAS A b h R▸H)
def NL(A:Amb)(block:ByteArray)(h:Heap)(R:Value→Heap→Prop):Prop:=
 AA A P Ff #[.string block] h fun v h1=> ∃t9:Option Addr,v= .pointer t9∧(
 Loop (fun K (s:Sl×Unit) h2=>
 AA A P Cq #[.pointer t9] h2 fun v1 h3=> ∃t11:Bool,v1= .bool t11∧(
 PIf (!t11) (
 AA A P Cc #[.pointer t9] h3 fun v2 h4=> ∃t14:ByteArray,v2= .string t14∧(
 New h4 (.cells #[.string (⟨#[]⟩:ByteArray),.string (⟨#[]⟩:ByteArray),.bool false] AO) fun b h5=>
 Store h5 (⟨b,0,none⟩:Addr) (.string t14) fun h6=>
 Store h6 ((⟨b,0,none⟩:Addr).add 1) (.string (⟨#[]⟩:ByteArray)) fun h7=>
 Store h7 ((⟨b,0,none⟩:Addr).add 2) (.bool false) fun h8=>
 AA A P BI #[.pointer t9,.int .i64 8193] h8 fun v3 h9=> ∃t17:Int,v3= .int .i64 t17∧(
 Join (fun(s1:Unit) h10=>
 AA A P De #[.pointer t9,.int .i64 (if((IntKind.wrap .i64 (t17-(1:Int))):Int)>0 then(IntKind.wrap .i64 (t17-(1:Int))) else 0)] h10 fun v4 h11=> ∃t25:ByteArray,v4= .string t25∧(
 Store h11 ((⟨b,0,none⟩:Addr).add 1) (.string t25) fun h12=>
 Join (fun(r:Bool×Unit) h13=>
 PIf r.1 (
 R (.tuple #[.slice none 0 0,.bool false]) h13) (
 AL h13 (⟨b,0,none⟩:Addr) fun t41_0=>
 AL h13 ((⟨b,0,none⟩:Addr).add 1) fun t41_1=>
 Ab h13 ((⟨b,0,none⟩:Addr).add 2) fun t41_2=>
 New h13 (.cells #[.string t41_0,.string t41_1,.bool t41_2] AO) fun b1 h14=>
 BK A P (Builtin.append_ #[AV,AV] AV #[.slice s.1.p s.1.len s.1.cap,.slice (some (⟨b1,0,none⟩:Addr)) 1 1]) h14 fun v5 h15=> ∃t43:Sl,v5= .slice t43.p t43.len t43.cap∧(
 K ((⟨t43.p,t43.len,t43.cap⟩:Sl),()) h15))) fun K2=>
 AA A P Gh #[.pointer t9] h12 fun v6 h16=> ∃t28:Bool,v6= .bool t28∧(
 PIf t28 (
 K2 (true,()) h16) (
 AL h16 (⟨b,0,none⟩:Addr) fun t31=>
 PIf (sEq t31 (⟨#[]⟩:ByteArray)) (
 K2 (true,()) h16) (
 AL h16 (⟨b,0,none⟩:Addr) fun t36=>
 K2 ((decide ((t36.size:Int)>(64:Int))),()) h16))))) fun K1=>
 PIf (t17==(0:Int)) (
 Store h9 ((⟨b,0,none⟩:Addr).add 2) (.bool true) fun h17=>
 K1 () h17) (
 K1 () h9)))) (
 R (.tuple #[.slice s.1.p s.1.len s.1.cap,.bool true]) h3))) ((⟨none,0,0⟩:Sl),()) h1)
def AAa:Ann:= .seq .none (.seq .none (.seq .none (.seq (.block (.loop [(5,.one .sl)] [4] (.seq (.seq .none (.cond .none .none)) (.block (.seq .none (.seq .none (.seqJ [] [4,5,6,7] (.seq .none (.cond .none .none)) (.seq .none (.seq (.seq (.reg [(39,.one .bool)] [4,5,6]) (.cond (.seq .none .none) .none)) .none))))))))) (.seq .none .none))))
theorem AA0(A:Amb)(block:ByteArray)(h:Heap)(R:Value→Heap→Prop):NL A block h R=AX A P GJ AAa [.string block] h R:=by kernel_rfl
theorem ZL {A:Amb}{block:ByteArray}{h:Heap}{R:Value→Heap→Prop}(H:NL A block h R):AA A P GJ #[.string block] h R:=
 AJ mixed (AA0 A block h R▸H)
def Pz(A:Amb)(filter:ByteArray)(key:ByteArray)(h:Heap)(R:Value→Heap→Prop):Prop:=
 Join (fun(r:Bool×Unit) h1=>
 PIf r.1 (
 R (.bool false) h1) (
 AA A P JD #[.string key] h1 fun v h2=> ∃t17a:Int,∃t17b:Int,v= .tuple #[.int .u32 t17a,.int .u32 t17b]∧(
 Loop (fun K1 (s:Int×Int×Unit) h3=>
 PIf (decide (s.2.1<(4:Int))) (
 Chk ((IntKind.wrap .u32 (IntKind.wrap .i64 ((8:Int)*(filter.size:Int))))≠0)<|
 Chk ((0:Int)≤(IntKind.wrap .u32 ((s.1.tmod (IntKind.wrap .u32 (IntKind.wrap .i64 ((8:Int)*(filter.size:Int))))).tdiv (8:Int)))∧(IntKind.wrap .u32 ((s.1.tmod (IntKind.wrap .u32 (IntKind.wrap .i64 ((8:Int)*(filter.size:Int))))).tdiv (8:Int)))<(filter.size:Int))<|
 Chk ((0:Int)≤((s.1.tmod (IntKind.wrap .u32 (IntKind.wrap .i64 ((8:Int)*(filter.size:Int))))).tmod (8:Int)))<|
 PIf ((Pb .u8 ((sAt filter (IntKind.wrap .u32 ((s.1.tmod (IntKind.wrap .u32 (IntKind.wrap .i64 ((8:Int)*(filter.size:Int))))).tdiv (8:Int)))).fdiv ((2:Int)^(min ((s.1.tmod (IntKind.wrap .u32 (IntKind.wrap .i64 ((8:Int)*(filter.size:Int))))).tmod (8:Int)).toNat (IntKind.bits .u8)))) (1:Int))==(0:Int)) (
 R (.bool false) h3) (
 K1 ((IntKind.wrap .u32 (s.1+t17b)),(IntKind.wrap .i64 (s.2.1+(1:Int))),()) h3)) (
 R (.bool true) h3)) (t17a,0,()) h2))) fun K=>
 PIf (sEq filter (⟨#[]⟩:ByteArray)) (
 K (true,()) h) (
 K ((decide ((filter.size:Int)>(8192:Int))),()) h)
def AFN:Ann:= .seq .none (.seq (.seq (.reg [(14,.one .bool)] [0,1]) (.cond (.seq .none .none) .none)) (.seq .none (.seq (.seq .none (.block (.loop [(5,.one (.int .u32)),(20,.one (.int .i64))] [0,6] (.seq .none (.seq (.cond .none .none) (.seq (.block (.seq .none (.seq (.seq .none (.cond (.seq .none .none) .none)) .none))) .none)))))) (.seq .none .none))))
theorem AEZ(A:Amb)(filter:ByteArray)(key:ByteArray)(h:Heap)(R:Value→Heap→Prop):Pz A filter key h R=AX A P KL AFN [.string filter,.string key] h R:=by kernel_rfl
theorem ACu {A:Amb}{filter:ByteArray}{key:ByteArray}{h:Heap}{R:Value→Heap→Prop}(H:Pz A filter key h R):AA A P KL #[.string filter,.string key] h R:=
 AJ mixed (AEZ A filter key h R▸H)
def Im(A:Amb)(r:Option Addr)(n:Int)(h:Heap)(R:Value→Heap→Prop):Prop:=
 Join (fun(r1:Bool×Unit) h1=>
 PIf r1.1 (
 R (.string (⟨#[]⟩:ByteArray)) h1) (
 Join (fun(r2:Bool×Unit) h2=>
 PIf r2.1 (
 At r fun a=>
 Store h2 a (.string (⟨#[]⟩:ByteArray)) fun h3=>
 At r fun a1=>
 Store h3 (a1.add 1) (.bool true) fun h4=>
 R (.string (⟨#[]⟩:ByteArray)) h4) (
 At r fun a2=>
 AL h2 a2 fun t34=>
 Chk ((0:Int)≤n∧n≤((t34.size:Nat):Int))<|
 At r fun a3=>
 AL h2 a3 fun t41=>
 Chk ((0:Int)≤n∧n≤((t41.size:Nat):Int))<|
 At r fun a4=>
 Store h2 a4 (.string (t41.extract n.toNat t41.size)) fun h5=>
 R (.string (t34.extract 0 n.toNat)) h5)) fun K1=>
 PIf (decide (n<(0:Int))) (
 K1 (true,()) h1) (
 At r fun a5=>
 AL h1 a5 fun t21=>
 K1 ((decide (n>(t21.size:Int))),()) h1))) fun K=>
 PIf (r.isNone) (
 K (true,()) h) (
 At r fun a6=>
 Ab h (a6.add 1) fun t12=>
 K (t12,()) h)
def SG:Ann:= .seq .none (.seq (.seq (.reg [(13,.one .bool)] [0,1]) (.cond (.seq .none .none) .none)) (.seq (.seq (.reg [(24,.one .bool)] [0,1]) (.cond (.seq .none (.seq .none .none)) .none)) (.seq .none (.seq .none (.seq .none .none)))))
theorem Td(A:Amb)(r:Option Addr)(n:Int)(h:Heap)(R:Value→Heap→Prop):Im A r n h R=AX A P De SG [.pointer r,.int .i64 n] h R:=by kernel_rfl
theorem RU {A:Amb}{r:Option Addr}{n:Int}{h:Heap}{R:Value→Heap→Prop}(H:Im A r n h R):AA A P De #[.pointer r,.int .i64 n] h R:=
 AJ mixed (Td A r n h R▸H)
def Ie(A:Amb)(t:Option Addr)(key:ByteArray)(h:Heap)(R:Value→Heap→Prop):Prop:=
 New h (.cells #[.pointer none,.pointer none,.pointer none,.pointer none,.pointer none,.pointer none,.pointer none,.pointer none,.pointer none,.pointer none,.pointer none,.pointer none] Cu) fun b h1=>
 New h1 (.cells #[.pointer none,.pointer none,.pointer none,.pointer none,.pointer none,.pointer none,.pointer none,.pointer none,.pointer none,.pointer none,.pointer none,.pointer none] Cu) fun b1 h2=>
 At t fun a=>
 Loop (fun K (s:(Option Addr)×Int×Unit) h3=>
 PIf (decide (s.2.1≥(0:Int))) (
 Loop (fun K1 (s1:(Option Addr)×Unit) h4=>
 Join (fun(r:Bool×Unit) h5=>
 PIf r.1 (
 At s1.1 fun a1=>
 Chk ((0:Int)≤s.2.1∧s.2.1<(12:Int))<|
 AP h5 ((a1.add 3).add ((s.2.1:Int).toNat*1)) fun t41=>
 K1 (t41,()) h5) (
 Chk ((0:Int)≤s.2.1∧s.2.1<(12:Int))<|
 Store h5 ((⟨b1,0,none⟩:Addr).add ((s.2.1:Int).toNat*1)) (.pointer s1.1) fun h6=>
 K (s1.1,(IntKind.wrap .i64 (s.2.1-(1:Int))),()) h6)) fun K2=>
 At s1.1 fun a2=>
 Chk ((0:Int)≤s.2.1∧s.2.1<(12:Int))<|
 AP h4 ((a2.add 3).add ((s.2.1:Int).toNat*1)) fun t20=>
 PIf (!t20.isNone) (
 At s1.1 fun a3=>
 Chk ((0:Int)≤s.2.1∧s.2.1<(12:Int))<|
 AP h4 ((a3.add 3).add ((s.2.1:Int).toNat*1)) fun t28=>
 At t28 fun a4=>
 AL h4 a4 fun t32=>
 K2 ((sLt t32 key),()) h4) (
 K2 (false,()) h4)) (s.1,()) h3) (
 AP h3 (⟨b1,0,none⟩:Addr) fun t45_0=>
 AP h3 ((⟨b1,0,none⟩:Addr).add 1) fun t45_1=>
 AP h3 ((⟨b1,0,none⟩:Addr).add 2) fun t45_2=>
 AP h3 ((⟨b1,0,none⟩:Addr).add 3) fun t45_3=>
 AP h3 ((⟨b1,0,none⟩:Addr).add 4) fun t45_4=>
 AP h3 ((⟨b1,0,none⟩:Addr).add 5) fun t45_5=>
 AP h3 ((⟨b1,0,none⟩:Addr).add 6) fun t45_6=>
 AP h3 ((⟨b1,0,none⟩:Addr).add 7) fun t45_7=>
 AP h3 ((⟨b1,0,none⟩:Addr).add 8) fun t45_8=>
 AP h3 ((⟨b1,0,none⟩:Addr).add 9) fun t45_9=>
 AP h3 ((⟨b1,0,none⟩:Addr).add 10) fun t45_10=>
 AP h3 ((⟨b1,0,none⟩:Addr).add 11) fun t45_11=>
 Store h3 (⟨b,0,none⟩:Addr) (.pointer t45_0) fun h7=>
 Store h7 ((⟨b,0,none⟩:Addr).add 1) (.pointer t45_1) fun h8=>
 Store h8 ((⟨b,0,none⟩:Addr).add 2) (.pointer t45_2) fun h9=>
 Store h9 ((⟨b,0,none⟩:Addr).add 3) (.pointer t45_3) fun h10=>
 Store h10 ((⟨b,0,none⟩:Addr).add 4) (.pointer t45_4) fun h11=>
 Store h11 ((⟨b,0,none⟩:Addr).add 5) (.pointer t45_5) fun h12=>
 Store h12 ((⟨b,0,none⟩:Addr).add 6) (.pointer t45_6) fun h13=>
 Store h13 ((⟨b,0,none⟩:Addr).add 7) (.pointer t45_7) fun h14=>
 Store h14 ((⟨b,0,none⟩:Addr).add 8) (.pointer t45_8) fun h15=>
 Store h15 ((⟨b,0,none⟩:Addr).add 9) (.pointer t45_9) fun h16=>
 Store h16 ((⟨b,0,none⟩:Addr).add 10) (.pointer t45_10) fun h17=>
 Store h17 ((⟨b,0,none⟩:Addr).add 11) (.pointer t45_11) fun h18=>
 AP h18 (⟨b,0,none⟩:Addr) fun res_0=>
 AP h18 ((⟨b,0,none⟩:Addr).add 1) fun res_1=>
 AP h18 ((⟨b,0,none⟩:Addr).add 2) fun res_2=>
 AP h18 ((⟨b,0,none⟩:Addr).add 3) fun res_3=>
 AP h18 ((⟨b,0,none⟩:Addr).add 4) fun res_4=>
 AP h18 ((⟨b,0,none⟩:Addr).add 5) fun res_5=>
 AP h18 ((⟨b,0,none⟩:Addr).add 6) fun res_6=>
 AP h18 ((⟨b,0,none⟩:Addr).add 7) fun res_7=>
 AP h18 ((⟨b,0,none⟩:Addr).add 8) fun res_8=>
 AP h18 ((⟨b,0,none⟩:Addr).add 9) fun res_9=>
 AP h18 ((⟨b,0,none⟩:Addr).add 10) fun res_10=>
 AP h18 ((⟨b,0,none⟩:Addr).add 11) fun res_11=>
 R (.agg #[.pointer res_0,.pointer res_1,.pointer res_2,.pointer res_3,.pointer res_4,.pointer res_5,.pointer res_6,.pointer res_7,.pointer res_8,.pointer res_9,.pointer res_10,.pointer res_11]) h18)) ((some a),11,()) h2
def Sd:Ann:= .seq .none (.seq .none (.seq .none (.seq (.seq .none (.block (.loop [(6,.one .ptr),(7,.one (.int .i64))] [1,4,5] (.seq (.seq .none (.cond .none .none)) (.seq (.block (.seq (.block (.loop [(6,.one .ptr)] [1,4,5,7] (.seq (.seq (.reg [(35,.one .bool)] [1,4,5,6,7]) (.cond .none .none)) (.block .none)))) .none)) .none))))) (.seq .none .none))))
theorem Sa(A:Amb)(t:Option Addr)(key:ByteArray)(h:Heap)(R:Value→Heap→Prop):Ie A t key h R=AX A P Dc Sd [.pointer t,.string key] h R:=by kernel_rfl
theorem Rv {A:Amb}{t:Option Addr}{key:ByteArray}{h:Heap}{R:Value→Heap→Prop}(H:Ie A t key h R):AA A P Dc #[.pointer t,.string key] h R:=
 AJ mixed (Sa A t key h R▸H)
def Om(A:Amb)(key:ByteArray)(h:Heap)(R:Value→Heap→Prop):Prop:=
 Loop (fun K (s:Int×Int×Unit) h1=>
 PIf (decide (s.2.1<(key.size:Int))) (
 Chk ((0:Int)≤s.2.1∧s.2.1<(key.size:Int))<|
 K ((IntKind.wrap .u32 ((Vq .u32 s.1 (IntKind.wrap .u32 (sAt key s.2.1)))*(16777619:Int))),(IntKind.wrap .i64 (s.2.1+(1:Int))),()) h1) (
 Loop (fun K1 (s1:Int×Int×Unit) h2=>
 Join (fun(r:Bool×Unit) h3=>
 PIf r.1 (
 K1 ((s1.1.fdiv ((2:Int)^(2:Nat))),(IntKind.wrap .i64 (s1.2.1+(1:Int))),()) h3) (
 R (.int .i64 s1.2.1) h3)) fun K2=>
 PIf (decide (s1.2.1<(12:Int))) (
 K2 (((Pb .u32 s1.1 (3:Int))==(0:Int)),()) h2) (
 K2 (false,()) h2)) ((Vq .u32 s.1 (s.1.fdiv ((2:Int)^(15:Nat)))),1,()) h1)) (2166136261,0,()) h
def ACo:Ann:= .seq .none (.seq .none (.seq (.seq .none (.block (.loop [(3,.one (.int .u32)),(8,.one (.int .i64))] [0,7] (.seq .none (.seq (.cond .none .none) (.seq (.block (.seq .none .none)) .none)))))) (.seq .none (.seq .none (.seq (.block (.loop [(3,.one (.int .u32)),(5,.one (.int .i64))] [] (.seq (.seq (.reg [(29,.one .bool)] [3,5]) (.cond .none .none)) (.block (.seq .none .none))))) (.seq .none .none))))))
theorem ACe(A:Amb)(key:ByteArray)(h:Heap)(R:Value→Heap→Prop):Om A key h R=AX A P LF ACo [.string key] h R:=by kernel_rfl
theorem AAE {A:Amb}{key:ByteArray}{h:Heap}{R:Value→Heap→Prop}(H:Om A key h R):AA A P LF #[.string key] h R:=
 AJ mixed (ACe A key h R▸H)
def Ls(A:Amb)(b:Option Addr)(h:Heap)(R:Value→Heap→Prop):Prop:=
 AA A P EP #[.pointer b] h fun v h1=> ∃t5:Bool,v= .bool t5∧(
 PIf t5 (
 R (.tuple #[.slice none 0 0,.int .i64 30]) h1) (
 At b fun a=>
 DC h1 a fun t9=>
 AA A P Az #[.map t9] h1 fun v1 h2=> ∃t10:Value,v1=t10∧(
 AA A P DW #[t10] h2 fun v2 h3=> ∃t11:Sl,v2= .slice t11.p t11.len t11.cap∧(
 R (.tuple #[.slice t11.p t11.len t11.cap,.int .i64 0]) h3))))
def Yx:Ann:= .seq .none (.seq (.seq .none (.cond (.seq .none .none) .none)) (.seq .none .none))
theorem ZX(A:Amb)(b:Option Addr)(h:Heap)(R:Value→Heap→Prop):Ls A b h R=AX A P G5 Yx [.pointer b] h R:=by kernel_rfl
theorem XG {A:Amb}{b:Option Addr}{h:Heap}{R:Value→Heap→Prop}(H:Ls A b h R):AA A P G5 #[.pointer b] h R:=
 AJ mixed (ZX A b h R▸H)
def IM(A:Amb)(t:Option Addr)(key:ByteArray)(h:Heap)(R:Value→Heap→Prop):Prop:=
 New h (.cells #[.pointer t] Au) fun b h1=>
 New h1 (.cells #[.string key] Ad) fun b1 h2=>
 AP h2 (⟨b,0,none⟩:Addr) fun t5=>
 At t5 fun a=>
 AZ h2 a fun t8=>
 AA A P J6 #[.int .i64 ((t8.len:Nat):Int),(.func (.func Ef) #[] #[.pointer (some (⟨b,0,none⟩:Addr)),.pointer (some (⟨b1,0,none⟩:Addr))])] h2 fun v h3=> ∃t11:Int,v= .int .i64 t11∧(
 R (.int .i64 (if((IntKind.wrap .i64 (t11-(1:Int))):Int)>0 then(IntKind.wrap .i64 (t11-(1:Int))) else 0)) h3)
def RV:Ann:= .seq .none (.seq .none .none)
theorem Rm(A:Amb)(t:Option Addr)(key:ByteArray)(h:Heap)(R:Value→Heap→Prop):IM A t key h R=AX A P EJ RV [.pointer t,.string key] h R:=by kernel_rfl
theorem Qq {A:Amb}{t:Option Addr}{key:ByteArray}{h:Heap}{R:Value→Heap→Prop}(H:IM A t key h R):AA A P EJ #[.pointer t,.string key] h R:=
 AJ mixed (Rm A t key h R▸H)
def Ov(A:Amb)(s:ByteArray)(h:Heap)(R:Value→Heap→Prop):Prop:=
 PIf (decide ((s.size:Int)>(1048576:Int))) (
 R (.tuple #[.string (⟨#[]⟩:ByteArray),.int .i64 2]) h) (
 AA A P CG #[.int .u64 (IntKind.wrap .u64 (s.size:Int))] h fun v h1=> ∃t10:ByteArray,v= .string t10∧(
 AA A P KI #[.string s] h1 fun v1 h2=> ∃t12:Int,v1= .int .u32 t12∧(
 AA A P JH #[.int .u32 t12] h2 fun v2 h3=> ∃t13:ByteArray,v2= .string t13∧(
 Chk (((t10.size+t13.size:Nat):Int)≤IntKind.i64.max)<|
 Chk ((((t10++t13).size+s.size:Nat):Int)≤IntKind.i64.max)<|
 R (.tuple #[.string ((t10++t13)++s),.int .i64 0]) h3))))
def ACB:Ann:= .seq .none (.seq (.seq .none (.cond (.seq .none .none) .none)) (.seq .none .none))
theorem ADR(A:Amb)(s:ByteArray)(h:Heap)(R:Value→Heap→Prop):Ov A s h R=AX A P Es ACB [.string s] h R:=by kernel_rfl
theorem AAN {A:Amb}{s:ByteArray}{h:Heap}{R:Value→Heap→Prop}(H:Ov A s h R):AA A P Es #[.string s] h R:=
 AJ mixed (ADR A s h R▸H)
def Jo(A:Amb)(b:Option Addr)(name:ByteArray)(data:ByteArray)(h:Heap)(R:Value→Heap→Prop):Prop:=
 AA A P EP #[.pointer b] h fun v h1=> ∃t10:Bool,v= .bool t10∧(
 PIf t10 (
 R (.int .i64 30) h1) (
 AA A P Mj #[.string name] h1 fun v1 h2=> ∃t13:Bool,v1= .bool t13∧(
 PIf t13 (
 R (.int .i64 1) h2) (
 AA A P EX #[.pointer b] h2 fun v2 h3=> ∃t16:Bool,v2= .bool t16∧(
 PIf (!t16) (
 R (.int .i64 30) h3) (
 At b fun a=>
 DC h3 a fun t21=>
 BK A P (Instr.lookup BH (.map t21) (.string name) false) h3 fun v3 h4=> ∃t23:Option Addr,v3= .pointer t23∧(
 Join (fun(s:(Option Addr)×Unit) h5=>
 At s.1 fun a1=>
 AL h5 (a1.add 1) fun t37=>
 Chk (((t37.size+data.size:Nat):Int)≤IntKind.i64.max)<|
 At s.1 fun a2=>
 Store h5 (a2.add 1) (.string (t37++data)) fun h6=>
 R (.int .i64 0) h6) fun K=>
 PIf (t23.isNone) (
 New h4 (.cells #[.string (⟨#[]⟩:ByteArray),.string (⟨#[]⟩:ByteArray)] Lu) fun b1 h7=>
 At b fun a3=>
 DC h7 a3 fun t31=>
 WB A P (Instr.mapUpdate BH (.map t31) (.string name) (.pointer (some (⟨b1,0,none⟩:Addr)))) h7 fun h8=>(
 K ((some (⟨b1,0,none⟩:Addr)),()) h8)) (
 K (t23,()) h4))))))))
def VU:Ann:= .seq .none (.seq (.block (.seq .none (.cond (.seq .none .none) (.seq .none (.cond (.seq .none .none) (.seq .none (.cond (.seq .none .none) .none))))))) (.seq .none (.seqJ [(7,.one .ptr)] [2] (.seq .none (.cond (.seq .none .none) .none)) (.seq .none (.seq .none .none)))))
theorem WG(A:Amb)(b:Option Addr)(name:ByteArray)(data:ByteArray)(h:Heap)(R:Value→Heap→Prop):Jo A b name data h R=AX A P Fa VU [.pointer b,.string name,.string data] h R:=by kernel_rfl
theorem VB {A:Amb}{b:Option Addr}{name:ByteArray}{data:ByteArray}{h:Heap}{R:Value→Heap→Prop}(H:Jo A b name data h R):AA A P Fa #[.pointer b,.string name,.string data] h R:=
 AJ mixed (WG A b name data h R▸H)
def MI(A:Amb)(b:Option Addr)(name:ByteArray)(h:Heap)(R:Value→Heap→Prop):Prop:=
 AA A P EP #[.pointer b] h fun v h1=> ∃t8:Bool,v= .bool t8∧(
 PIf t8 (
 R (.int .i64 30) h1) (
 At b fun a=>
 DC h1 a fun t13=>
 BK A P (Instr.lookup BH (.map t13) (.string name) false) h1 fun v1 h2=> ∃t15:Option Addr,v1= .pointer t15∧(
 PIf (t15.isNone) (
 R (.int .i64 31) h2) (
 AA A P EX #[.pointer b] h2 fun v2 h3=> ∃t19:Bool,v2= .bool t19∧(
 PIf (!t19) (
 R (.int .i64 30) h3) (
 At b fun a1=>
 DC h3 a1 fun t24=>
 BK A P (Instr.lookup BH (.map t24) (.string name) false) h3 fun v3 h4=> ∃t26:Option Addr,v3= .pointer t26∧(
 At t26 fun a2=>
 AL h4 a2 fun t32=>
 At t26 fun a3=>
 AL h4 (a3.add 1) fun t36=>
 Chk (((t32.size+t36.size:Nat):Int)≤IntKind.i64.max)<|
 At t26 fun a4=>
 Store h4 a4 (.string (t32++t36)) fun h5=>
 At t26 fun a5=>
 Store h5 (a5.add 1) (.string (⟨#[]⟩:ByteArray)) fun h6=>
 R (.int .i64 0) h6)))))))
def ZR:Ann:= .seq .none (.seq (.block (.seq .none (.cond (.seq .none .none) (.seq .none (.cond (.seq .none .none) (.seq .none (.cond (.seq .none .none) .none))))))) (.seq .none (.seq .none (.seq .none .none))))
theorem Zx(A:Amb)(b:Option Addr)(name:ByteArray)(h:Heap)(R:Value→Heap→Prop):MI A b name h R=AX A P Gr ZR [.pointer b,.string name] h R:=by kernel_rfl
theorem XU {A:Amb}{b:Option Addr}{name:ByteArray}{h:Heap}{R:Value→Heap→Prop}(H:MI A b name h R):AA A P Gr #[.pointer b,.string name] h R:=
 AJ mixed (Zx A b name h R▸H)
def MM(A:Amb)(yield:Value)(c0:Option Addr)(h:Heap)(R:Value→Heap→Prop):Prop:=
 T9 (Jj yield)<|
 New h (.cells #[yield] KJ) fun b h1=>
 At c0 fun a=>
 PP h1 a fun t4=>
 Chk (ACQ t4)<|
 PIf ((P7 t4)) (
 R (.tuple #[]) h1) (
 At c0 fun a1=>
 PP h1 a1 fun t6=>
 TT A P t6 [.agg [.str,.str,.bool]] (fun(args:(ByteArray×ByteArray×Bool×Unit)×Unit) l h2 kn kj=>
 New h2 (.cells #[.string (⟨#[]⟩:ByteArray),.string (⟨#[]⟩:ByteArray),.bool false] AO) fun b1 h4=>
 Store h4 (⟨b1,0,none⟩:Addr) (.string args.1.1) fun h5=>
 Store h5 ((⟨b1,0,none⟩:Addr).add 1) (.string args.1.2.1) fun h6=>
 Store h6 ((⟨b1,0,none⟩:Addr).add 2) (.bool args.1.2.2.1) fun h7=>
 ∃vrec:Go.Loop,h7[l]? =some (.loop vrec)∧vrec.state= .ready∧(
 Join (fun(r:Bool×Unit) h8=>
 PIf r.1 (
 kj none h8) (
 kn h8)) fun K=>
 Ab (h7.setIfInBounds l (.loop {vrec with state:= .busy})) ((⟨b1,0,none⟩:Addr).add 2) fun t9=>
 PIf (!t9) (
 PP (h7.setIfInBounds l (.loop {vrec with state:= .busy})) (⟨b,0,none⟩:Addr) fun t12=>
 AL (h7.setIfInBounds l (.loop {vrec with state:= .busy})) (⟨b1,0,none⟩:Addr) fun t13_0=>
 AL (h7.setIfInBounds l (.loop {vrec with state:= .busy})) ((⟨b1,0,none⟩:Addr).add 1) fun t13_1=>
 Ab (h7.setIfInBounds l (.loop {vrec with state:= .busy})) ((⟨b1,0,none⟩:Addr).add 2) fun t13_2=>
 FE A P t12 #[.agg #[.string t13_0,.string t13_1,.bool t13_2]] (h7.setIfInBounds l (.loop {vrec with state:= .busy})) fun v h9=> ∃t14:Bool,v= .bool t14∧(
 K ((!t14),()) h9)) (
 K (false,()) (h7.setIfInBounds l (.loop {vrec with state:= .busy}))))) h1 (fun h10=>
 h10[h1.size]? =some (.deferred (some []))∧(
 R (.tuple #[]) (h10.setIfInBounds h1.size (.deferred none)))) (fun j h11=>
 (match j with
 |none=>(
 h11[h1.size]? =some (.deferred (some []))∧(
 R (.tuple #[]) (h11.setIfInBounds h1.size (.deferred none))))
 |some i=>(match Nat.beq i 0 with
 |true=>(
 h11[h1.size]? =some (.deferred (some []))∧(
 R (.tuple #[]) (h11.setIfInBounds h1.size (.deferred none))))
 |false=>False))))
def Ya:Ann:= .seq .none (.seq (.seq .none (.cond .none .none)) (.seq .none (.block (.range [.agg [.str,.str,.bool]] .none (.block (.seq (.reg [(16,.one .bool)] []) (.cond .none .none)))))))
theorem YA(A:Amb)(yield:Value)(c0:Option Addr)(h:Heap)(R:Value→Heap→Prop):MM A yield c0 h R=AX A P JI Ya [yield,.pointer c0] h R:=by kernel_rfl
theorem XP {A:Amb}{yield:Value}{c0:Option Addr}{h:Heap}{R:Value→Heap→Prop}(H:MM A yield c0 h R):AA A P JI #[yield,.pointer c0] h R:=
 AJ mixed (YA A yield c0 h R▸H)
def Ce(A:Amb)(s:Sl)(h:Heap)(R:Value→Heap→Prop):Prop:=
 New h (.cells #[.slice s.p s.len s.cap] AV) fun b h1=>
 R ((.func (.func Bd) #[] #[.pointer (some (⟨b,0,none⟩:Addr))])) h1
def G8:Ann:= .seq .none (.seq .none .none)
theorem Gs(A:Amb)(s:Sl)(h:Heap)(R:Value→Heap→Prop):Ce A s h R=AX A P BM G8 [.slice s.p s.len s.cap] h R:=by kernel_rfl
theorem Gm {A:Amb}{s:Sl}{h:Heap}{R:Value→Heap→Prop}(H:Ce A s h R):AA A P BM #[.slice s.p s.len s.cap] h R:=
 AJ mixed (Gs A s h R▸H)
def NT(A:Amb)(l:Sl)(h:Heap)(R:Value→Heap→Prop):Prop:=
 PIf (((l.len:Nat):Int)==(0:Int)) (
 R (.tuple #[.string (⟨#[]⟩:ByteArray),.int .i64 1]) h) (
 Loop (fun K (s:ByteArray×Int×Int×Unit) h1=>
 PIf (decide (s.2.2.1<((l.len:Nat):Int))) (
 Idx l.p l.len s.2.2.1 fun a=>
 AL h1 (a.add (s.2.2.1.toNat*3)) fun t30_0=>
 AL h1 ((a.add (s.2.2.1.toNat*3)).add 1) fun t30_1=>
 Ab h1 ((a.add (s.2.2.1.toNat*3)).add 2) fun t30_2=>
 New h1 (.cells #[.string (⟨#[]⟩:ByteArray),.string (⟨#[]⟩:ByteArray),.bool false] AO) fun b h2=>
 Store h2 (⟨b,0,none⟩:Addr) (.string t30_0) fun h3=>
 Store h3 ((⟨b,0,none⟩:Addr).add 1) (.string t30_1) fun h4=>
 Store h4 ((⟨b,0,none⟩:Addr).add 2) (.bool t30_2) fun h5=>
 Join (fun(r:Bool×Unit) h6=>
 PIf r.1 (
 R (.tuple #[.string (⟨#[]⟩:ByteArray),.int .i64 1]) h6) (
 Join (fun(r1:Bool×Unit) h7=>
 PIf r1.1 (
 R (.tuple #[.string (⟨#[]⟩:ByteArray),.int .i64 2]) h7) (
 K (s.1,s.2.1,(IntKind.wrap .i64 (s.2.2.1+(1:Int))),()) h7)) fun K2=>
 AL h6 (⟨b,0,none⟩:Addr) fun t61=>
 PIf (decide ((t61.size:Int)>(64:Int))) (
 K2 (true,()) h6) (
 AL h6 ((⟨b,0,none⟩:Addr).add 1) fun t66=>
 K2 ((decide ((t66.size:Int)>(8192:Int))),()) h6))) fun K1=>
 AL h5 (⟨b,0,none⟩:Addr) fun t33=>
 PIf (sEq t33 (⟨#[]⟩:ByteArray)) (
 K1 (true,()) h5) (
 Ab h5 ((⟨b,0,none⟩:Addr).add 2) fun t37=>
 PIf t37 (
 AL h5 ((⟨b,0,none⟩:Addr).add 1) fun t40=>
 PIf (!sEq t40 (⟨#[]⟩:ByteArray)) (
 K1 (true,()) h5) (
 PIf (decide (s.2.2.1>(0:Int))) (
 AL h5 (⟨b,0,none⟩:Addr) fun t49=>
 Idx l.p l.len (IntKind.wrap .i64 (s.2.2.1-(1:Int))) fun a1=>
 AL h5 (a1.add ((IntKind.wrap .i64 (s.2.2.1-(1:Int))).toNat*3)) fun t55=>
 K1 ((sLt t49 t55||sEq t49 t55),()) h5) (
 K1 (false,()) h5))) (
 PIf (decide (s.2.2.1>(0:Int))) (
 AL h5 (⟨b,0,none⟩:Addr) fun t49_1=>
 Idx l.p l.len (IntKind.wrap .i64 (s.2.2.1-(1:Int))) fun a2=>
 AL h5 (a2.add ((IntKind.wrap .i64 (s.2.2.1-(1:Int))).toNat*3)) fun t55_1=>
 K1 ((sLt t49_1 t55_1||sEq t49_1 t55_1),()) h5) (
 K1 (false,()) h5)))) (
 New h1 (.cells #[.pointer none,.slice none 0 0] Cn) fun b1 h8=>
 New h8 (.cells #[.slice none 0 0] Bf) fun b2 h9=>
 New h9 (.cells #[.string (⟨#[]⟩:ByteArray)] Ad) fun b3 h10=>
 Store h10 (⟨b3,0,none⟩:Addr) (.string (⟨#[]⟩:ByteArray)) fun h11=>
 New h11 (.cells #[.int .i64 0] BL) fun b4 h12=>
 Store h12 (⟨b4,0,none⟩:Addr) (.int .i64 0) fun h13=>
 AA A P CB #[.slice l.p l.len l.cap,.int .i64 8] h13 fun v h14=> ∃t72:Value,v=t72∧(
 TT A P t72 [.one .sl] (fun(args:Sl×Unit) l1 h15 kn kj=>
 ∃vrec:Go.Loop,h15[l1]? =some (.loop vrec)∧vrec.state= .ready∧(
 Loop (fun K3 (s1:ByteArray×Int×Unit) h17=>
 PIf (decide (s1.2.1<((args.1.len:Nat):Int))) (
 Idx args.1.p args.1.len s1.2.1 fun a3=>
 AL h17 (a3.add (s1.2.1.toNat*3)) fun t79_0=>
 AL h17 ((a3.add (s1.2.1.toNat*3)).add 1) fun t79_1=>
 Ab h17 ((a3.add (s1.2.1.toNat*3)).add 2) fun t79_2=>
 New h17 (.cells #[.string (⟨#[]⟩:ByteArray),.string (⟨#[]⟩:ByteArray),.bool false] AO) fun b5 h18=>
 Store h18 (⟨b5,0,none⟩:Addr) (.string t79_0) fun h19=>
 Store h19 ((⟨b5,0,none⟩:Addr).add 1) (.string t79_1) fun h20=>
 Store h20 ((⟨b5,0,none⟩:Addr).add 2) (.bool t79_2) fun h21=>
 AZ h21 (⟨b2,0,none⟩:Addr) fun t80=>
 AL h21 (⟨b5,0,none⟩:Addr) fun t82=>
 New h21 (.cells #[.string t82] Ad) fun b6 h22=>
 BK A P (Builtin.append_ #[Bf,Bf] Bf #[.slice t80.p t80.len t80.cap,.slice (some (⟨b6,0,none⟩:Addr)) 1 1]) h22 fun v1 h23=> ∃t84:Sl,v1= .slice t84.p t84.len t84.cap∧(
 Store h23 (⟨b2,0,none⟩:Addr) (.slice t84.p t84.len t84.cap) fun h24=>
 AL h24 (⟨b5,0,none⟩:Addr) fun t86_0=>
 AL h24 ((⟨b5,0,none⟩:Addr).add 1) fun t86_1=>
 Ab h24 ((⟨b5,0,none⟩:Addr).add 2) fun t86_2=>
 AA A P Iz #[.agg #[.string t86_0,.string t86_1,.bool t86_2]] h24 fun v2 h25=> ∃t87:ByteArray,v2= .string t87∧(
 Chk (((s1.1.size+t87.size:Nat):Int)≤IntKind.i64.max)<|
 K3 ((s1.1++t87),(IntKind.wrap .i64 (s1.2.1+(1:Int))),()) h25))) (
 AA A P Es #[.string s1.1] h17 fun v3 h26=> ∃t92a:ByteArray,∃t92b:Int,v3= .tuple #[.string t92a,.int .i64 t92b]∧(
 AA A P Cr #[.pointer (some (⟨b1,0,none⟩:Addr)),.string t92a] h26 fun v4 h27=> ∃t96a:Int,∃t96b:Value,v4= .tuple #[.int .i64 t96a,t96b]∧(
 AL h27 (⟨b3,0,none⟩:Addr) fun t97=>
 Idx args.1.p args.1.len 0 fun a4=>
 AL h27 (a4.add ((0:Int).toNat*3)) fun t101=>
 AA A P Dt #[.string t101] h27 fun v5 h28=> ∃t102:ByteArray,v5= .string t102∧(
 And (hget h28 (⟨b3,0,none⟩:Addr)=some (.string t97))<|
 Chk (((t97.size+t102.size:Nat):Int)≤IntKind.i64.max)<|
 Store h28 (⟨b3,0,none⟩:Addr) (.string (t97++t102)) fun h29=>
 Aa .i64 h29 (⟨b4,0,none⟩:Addr) fun t104=>
 Store h29 (⟨b4,0,none⟩:Addr) (.int .i64 (IntKind.wrap .i64 (t104+(1:Int)))) fun h30=>
 kn h30))))) ((⟨#[]⟩:ByteArray),0,()) (h15.setIfInBounds l1 (.loop {vrec with state:= .busy})))) h14 (fun h31=>
 AZ h31 (⟨b2,0,none⟩:Addr) fun t107=>
 AZ h31 (⟨b2,0,none⟩:Addr) fun t108=>
 AA A P Iy #[.slice t107.p t107.len t107.cap,.int .i64 (if(8192:Int)<(IntKind.wrap .i64 (((t108.len:Nat):Int)+(8:Int))) then 8192 else(IntKind.wrap .i64 (((t108.len:Nat):Int)+(8:Int))))] h31 fun v6 h33=> ∃t112a:ByteArray,∃t112b:Int,v6= .tuple #[.string t112a,.int .i64 t112b]∧(
 Aa .i64 h33 (⟨b4,0,none⟩:Addr) fun t115=>
 AA A P CG #[.int .u64 (IntKind.wrap .u64 t115)] h33 fun v7 h34=> ∃t117:ByteArray,v7= .string t117∧(
 AL h34 (⟨b3,0,none⟩:Addr) fun t118=>
 And (hget h33 (⟨b3,0,none⟩:Addr)=some (.string t118))<|
 Chk (((t117.size+t118.size:Nat):Int)≤IntKind.i64.max)<|
 AA A P CG #[.int .u64 (IntKind.wrap .u64 ((l.len:Nat):Int))] h34 fun v8 h35=> ∃t123:ByteArray,v8= .string t123∧(
 And (hget h35 (⟨b3,0,none⟩:Addr)=some (.string t118))<|
 Chk ((((t117++t118).size+t123.size:Nat):Int)≤IntKind.i64.max)<|
 AA A P Dt #[.string t112a] h35 fun v9 h36=> ∃t126:ByteArray,v9= .string t126∧(
 And (hget h36 (⟨b3,0,none⟩:Addr)=some (.string t118))<|
 Chk (((((t117++t118)++t123).size+t126.size:Nat):Int)≤IntKind.i64.max)<|
 AA A P Es #[.string (((t117++t118)++t123)++t126)] h36 fun v10 h37=> ∃t130a:ByteArray,∃t130b:Int,v10= .tuple #[.string t130a,.int .i64 t130b]∧(
 PIf (t130b != (0:Int)) (
 h37[h14.size]? =some (.deferred (some []))∧(
 R (.tuple #[.string (⟨#[]⟩:ByteArray),.int .i64 t130b]) (h37.setIfInBounds h14.size (.deferred none)))) (
 AA A P Cr #[.pointer (some (⟨b1,0,none⟩:Addr)),.string t130a] h37 fun v11 h38=> ∃t137a:Int,∃t137b:Value,v11= .tuple #[.int .i64 t137a,t137b]∧(
 AA A P E9 #[.pointer (some (⟨b1,0,none⟩:Addr))] h38 fun v12 h39=> ∃t138:ByteArray,v12= .string t138∧(
 h39[h14.size]? =some (.deferred (some []))∧(
 R (.tuple #[.string t138,.int .i64 0]) (h39.setIfInBounds h14.size (.deferred none)))))))))))) (fun j h32=>
 (match j with
 |none=>(
 h32[h14.size]? =some (.deferred (some []))∧(
 R (.tuple #[.string s.1,.int .i64 s.2.1]) (h32.setIfInBounds h14.size (.deferred none))))
 |some i=>(match Nat.beq i 3 with
 |true=>(
 AZ h32 (⟨b2,0,none⟩:Addr) fun t107_1=>
 AZ h32 (⟨b2,0,none⟩:Addr) fun t108_1=>
 AA A P Iy #[.slice t107_1.p t107_1.len t107_1.cap,.int .i64 (if(8192:Int)<(IntKind.wrap .i64 (((t108_1.len:Nat):Int)+(8:Int))) then 8192 else(IntKind.wrap .i64 (((t108_1.len:Nat):Int)+(8:Int))))] h32 fun v13 h40=> ∃t112a1:ByteArray,∃t112b1:Int,v13= .tuple #[.string t112a1,.int .i64 t112b1]∧(
 Aa .i64 h40 (⟨b4,0,none⟩:Addr) fun t115_1=>
 AA A P CG #[.int .u64 (IntKind.wrap .u64 t115_1)] h40 fun v14 h41=> ∃t117_1:ByteArray,v14= .string t117_1∧(
 AL h41 (⟨b3,0,none⟩:Addr) fun t118_1=>
 And (hget h40 (⟨b3,0,none⟩:Addr)=some (.string t118_1))<|
 Chk (((t117_1.size+t118_1.size:Nat):Int)≤IntKind.i64.max)<|
 AA A P CG #[.int .u64 (IntKind.wrap .u64 ((l.len:Nat):Int))] h41 fun v15 h42=> ∃t123_1:ByteArray,v15= .string t123_1∧(
 And (hget h42 (⟨b3,0,none⟩:Addr)=some (.string t118_1))<|
 Chk ((((t117_1++t118_1).size+t123_1.size:Nat):Int)≤IntKind.i64.max)<|
 AA A P Dt #[.string t112a1] h42 fun v16 h43=> ∃t126_1:ByteArray,v16= .string t126_1∧(
 And (hget h43 (⟨b3,0,none⟩:Addr)=some (.string t118_1))<|
 Chk (((((t117_1++t118_1)++t123_1).size+t126_1.size:Nat):Int)≤IntKind.i64.max)<|
 AA A P Es #[.string (((t117_1++t118_1)++t123_1)++t126_1)] h43 fun v17 h44=> ∃t130a1:ByteArray,∃t130b1:Int,v17= .tuple #[.string t130a1,.int .i64 t130b1]∧(
 PIf (t130b1 != (0:Int)) (
 h44[h14.size]? =some (.deferred (some []))∧(
 R (.tuple #[.string (⟨#[]⟩:ByteArray),.int .i64 t130b1]) (h44.setIfInBounds h14.size (.deferred none)))) (
 AA A P Cr #[.pointer (some (⟨b1,0,none⟩:Addr)),.string t130a1] h44 fun v18 h45=> ∃t137a1:Int,∃t137b1:Value,v18= .tuple #[.int .i64 t137a1,t137b1]∧(
 AA A P E9 #[.pointer (some (⟨b1,0,none⟩:Addr))] h45 fun v19 h46=> ∃t138_1:ByteArray,v19= .string t138_1∧(
 h46[h14.size]? =some (.deferred (some []))∧(
 R (.tuple #[.string t138_1,.int .i64 0]) (h46.setIfInBounds h14.size (.deferred none))))))))))))
 |false=>False)))))) ((⟨#[]⟩:ByteArray),0,0,()) h)
def AAn:Ann:= .seq .none (.seq (.seq .none (.cond (.seq .none .none) .none)) (.seq (.seq .none (.block (.loop [(2,.one .str),(3,.one (.int .i64)),(26,.one (.int .i64))] [0,24,25] (.seq .none (.seq (.cond .none .none) (.seq (.block (.seq .none (.block (.seq (.reg [(31,.one .bool)] [0,2,3,5,24,25,26]) (.cond (.seq .none .none) (.seq (.reg [(59,.one .bool)] [0,2,3,24,25,26]) (.cond (.seq .none .none) .none))))))) .none)))))) (.seq .none (.seq .none (.seq .none (.seq .none (.seq (.seq .none (.block (.range [.one .sl] .none (.block (.seq .none (.seq (.seq .none (.block (.loop [(11,.one .str),(76,.one (.int .i64))] [6,7,8,9,10,74,75] (.seq .none (.seq (.cond .none .none) (.seq (.block (.seq .none (.seq .none .none))) .none)))))) (.seq .none (.seq .none (.seq .none .none))))))))) (.seq .none (.seq .none (.seq .none (.seq (.seq .none (.cond (.seq .none .none) .none)) (.seq .none (.seq .none .none)))))))))))))
theorem AAr(A:Amb)(l:Sl)(h:Heap)(R:Value→Heap→Prop):NT A l h R=AX A P Jz AAn [.slice l.p l.len l.cap] h R:=by kernel_rfl
theorem Yn {A:Amb}{l:Sl}{h:Heap}{R:Value→Heap→Prop}(H:NT A l h R):AA A P Jz #[.slice l.p l.len l.cap] h R:=
 AJ mixed (AAr A l h R▸H)
def CR(A:Amb)(s:Sl)(seq:Value)(h:Heap)(R:Value→Heap→Prop):Prop:=
 New h (.cells #[.slice s.p s.len s.cap] AV) fun b h1=>
 TT A P seq [.agg [.str,.str,.bool]] (fun(args:(ByteArray×ByteArray×Bool×Unit)×Unit) l h2 kn kj=>
 New h2 (.cells #[.string (⟨#[]⟩:ByteArray),.string (⟨#[]⟩:ByteArray),.bool false] AO) fun b1 h4=>
 Store h4 (⟨b1,0,none⟩:Addr) (.string args.1.1) fun h5=>
 Store h5 ((⟨b1,0,none⟩:Addr).add 1) (.string args.1.2.1) fun h6=>
 Store h6 ((⟨b1,0,none⟩:Addr).add 2) (.bool args.1.2.2.1) fun h7=>
 ∃vrec:Go.Loop,h7[l]? =some (.loop vrec)∧vrec.state= .ready∧(
 AZ (h7.setIfInBounds l (.loop {vrec with state:= .busy})) (⟨b,0,none⟩:Addr) fun t8=>
 AL (h7.setIfInBounds l (.loop {vrec with state:= .busy})) (⟨b1,0,none⟩:Addr) fun t9_0=>
 AL (h7.setIfInBounds l (.loop {vrec with state:= .busy})) ((⟨b1,0,none⟩:Addr).add 1) fun t9_1=>
 Ab (h7.setIfInBounds l (.loop {vrec with state:= .busy})) ((⟨b1,0,none⟩:Addr).add 2) fun t9_2=>
 New (h7.setIfInBounds l (.loop {vrec with state:= .busy})) (.cells #[.string t9_0,.string t9_1,.bool t9_2] AO) fun b2 h8=>
 BK A P (Builtin.append_ #[AV,AV] AV #[.slice t8.p t8.len t8.cap,.slice (some (⟨b2,0,none⟩:Addr)) 1 1]) h8 fun v h9=> ∃t11:Sl,v= .slice t11.p t11.len t11.cap∧(
 Store h9 (⟨b,0,none⟩:Addr) (.slice t11.p t11.len t11.cap) fun h10=>
 kn h10))) h1 (fun h11=>
 AZ h11 (⟨b,0,none⟩:Addr) fun t12=>
 h11[h1.size]? =some (.deferred (some []))∧(
 R (.slice t12.p t12.len t12.cap) (h11.setIfInBounds h1.size (.deferred none)))) (fun j h12=>
 (match j with
 |none=>(
 h12[h1.size]? =some (.deferred (some []))∧(
 R (.slice none 0 0) (h12.setIfInBounds h1.size (.deferred none))))
 |some i=>(match Nat.beq i 0 with
 |true=>(
 AZ h12 (⟨b,0,none⟩:Addr) fun t12_1=>
 h12[h1.size]? =some (.deferred (some []))∧(
 R (.slice t12_1.p t12_1.len t12_1.cap) (h12.setIfInBounds h1.size (.deferred none))))
 |false=>False)))
def GA:Ann:= .seq .none (.seq (.seq .none (.block (.range [.agg [.str,.str,.bool]] .none (.block .none)))) (.seq .none .none))
theorem F8(A:Amb)(s:Sl)(seq:Value)(h:Heap)(R:Value→Heap→Prop):CR A s seq h R=AX A P BX GA [.slice s.p s.len s.cap,seq] h R:=by kernel_rfl
theorem Fq {A:Amb}{s:Sl}{seq:Value}{h:Heap}{R:Value→Heap→Prop}(H:CR A s seq h R):AA A P BX #[.slice s.p s.len s.cap,seq] h R:=
 AJ mixed (F8 A s seq h R▸H)
def IX(A:Amb)(yield:Value)(c0:Option Addr)(c1:Option Addr)(h:Heap)(R:Value→Heap→Prop):Prop:=
 At c0 fun a=>
 AP h a fun t5=>
 PIf (t5.isNone) (
 R (.tuple #[]) h) (
 At c0 fun a1=>
 AP h a1 fun t7=>
 At c1 fun a2=>
 AL h a2 fun t8=>
 AA A P Dc #[.pointer t7,.string t8] h fun v h1=> ∃t9_0:Option Addr,∃t9_1:Option Addr,∃t9_2:Option Addr,∃t9_3:Option Addr,∃t9_4:Option Addr,∃t9_5:Option Addr,∃t9_6:Option Addr,∃t9_7:Option Addr,∃t9_8:Option Addr,∃t9_9:Option Addr,∃t9_10:Option Addr,∃t9_11:Option Addr,v= .agg #[.pointer t9_0,.pointer t9_1,.pointer t9_2,.pointer t9_3,.pointer t9_4,.pointer t9_5,.pointer t9_6,.pointer t9_7,.pointer t9_8,.pointer t9_9,.pointer t9_10,.pointer t9_11]∧(
 At t9_0 fun a3=>
 Chk ((0:Int)≤0∧0<(12:Int))<|
 AP h1 ((a3.add 3).add ((0:Int).toNat*1)) fun t14=>
 Loop (fun K (s:(Option Addr)×Unit) h2=>
 PIf (!s.1.isNone) (
 At s.1 fun a4=>
 AL h2 a4 fun t26_0=>
 AL h2 (a4.add 1) fun t26_1=>
 Ab h2 (a4.add 2) fun t26_2=>
 FE A P yield #[.agg #[.string t26_0,.string t26_1,.bool t26_2]] h2 fun v1 h3=> ∃t27:Bool,v1= .bool t27∧(
 PIf (!t27) (
 R (.tuple #[]) h3) (
 At s.1 fun a5=>
 Chk ((0:Int)≤0∧0<(12:Int))<|
 AP h3 ((a5.add 3).add ((0:Int).toNat*1)) fun t21=>
 K (t21,()) h3))) (
 R (.tuple #[]) h2)) (t14,()) h1))
def TH:Ann:= .seq (.seq .none (.cond .none .none)) (.seq .none (.block (.loop [(4,.one .ptr)] [0] (.seq (.seq .none (.cond .none .none)) (.seq (.block (.seq .none (.cond .none .none))) .none)))))
theorem SN(A:Amb)(yield:Value)(c0:Option Addr)(c1:Option Addr)(h:Heap)(R:Value→Heap→Prop):IX A yield c0 c1 h R=AX A P Fh TH [yield,.pointer c0,.pointer c1] h R:=by kernel_rfl
theorem Rb {A:Amb}{yield:Value}{c0:Option Addr}{c1:Option Addr}{h:Heap}{R:Value→Heap→Prop}(H:IX A yield c0 c1 h R):AA A P Fh #[yield,.pointer c0,.pointer c1] h R:=
 AJ mixed (SN A yield c0 c1 h R▸H)
def NF(A:Amb)(d:Option Addr)(h:Heap)(R:Value→Heap→Prop):Prop:=
 At d fun a=>
 Aa .i64 h (a.add 6) fun t9=>
 AA A P CG #[.int .u64 (IntKind.wrap .u64 t9)] h fun v h1=> ∃t11:ByteArray,v= .string t11∧(
 At d fun a1=>
 Aa .i64 h1 (a1.add 7) fun t15=>
 And (hget h (a1.add 7)=some (.int .i64 t15))<|
 AA A P CG #[.int .u64 (IntKind.wrap .u64 t15)] h1 fun v1 h2=> ∃t17:ByteArray,v1= .string t17∧(
 Chk (((t11.size+t17.size:Nat):Int)≤IntKind.i64.max)<|
 At d fun a2=>
 AZ h2 (a2.add 5) fun t22=>
 And (hget h1 (a2.add 5)=some (.slice t22.p t22.len t22.cap))<|
 And (hget h (a2.add 5)=some (.slice t22.p t22.len t22.cap))<|
 AA A P CG #[.int .u64 (IntKind.wrap .u64 ((t22.len:Nat):Int))] h2 fun v2 h3=> ∃t25:ByteArray,v2= .string t25∧(
 Chk ((((t11++t17).size+t25.size:Nat):Int)≤IntKind.i64.max)<|
 At d fun a3=>
 AZ h3 (a3.add 5) fun t30=>
 Loop (fun K (s:ByteArray×Int×Unit) h4=>
 PIf (decide (s.2.1<((t30.len:Nat):Int))) (
 Idx t30.p t30.len s.2.1 fun a4=>
 Aa .i64 h4 (a4.add (s.2.1.toNat*1)) fun t35=>
 AA A P CG #[.int .u64 (IntKind.wrap .u64 t35)] h4 fun v3 h5=> ∃t39:ByteArray,v3= .string t39∧(
 Chk (((s.1.size+t39.size:Nat):Int)≤IntKind.i64.max)<|
 K ((s.1++t39),(IntKind.wrap .i64 (s.2.1+(1:Int))),()) h5)) (
 R (.string s.1) h4)) (((t11++t17)++t25),0,()) h3)))
def AAg:Ann:= .seq .none (.seq .none (.seq (.seq .none (.block (.loop [(3,.one .str),(32,.one (.int .i64))] [30,31] (.seq .none (.seq (.cond .none .none) (.seq (.block (.seq .none .none)) .none)))))) (.seq .none .none)))
theorem AAk(A:Amb)(d:Option Addr)(h:Heap)(R:Value→Heap→Prop):NF A d h R=AX A P J5 AAg [.pointer d] h R:=by kernel_rfl
theorem Yk {A:Amb}{d:Option Addr}{h:Heap}{R:Value→Heap→Prop}(H:NF A d h R):AA A P J5 #[.pointer d] h R:=
 AJ mixed (AAk A d h R▸H)
def G7(A:Amb)(yield:Value)(c0:Option Addr)(c1:Option Addr)(h:Heap)(R:Value→Heap→Prop):Prop:=
 At c0 fun a=>
 AP h a fun t10=>
 PIf (t10.isNone) (
 R (.tuple #[]) h) (
 At c0 fun a1=>
 AP h a1 fun t12=>
 At t12 fun a2=>
 AZ h (a2.add 1) fun t15=>
 At c0 fun a3=>
 AP h a3 fun t16=>
 At c1 fun a4=>
 AL h a4 fun t17=>
 AA A P EJ #[.pointer t16,.string t17] h fun v h1=> ∃t18:Int,v= .int .i64 t18∧(
 And (hget h1 (a2.add 1)=some (.slice t15.p t15.len t15.cap))<|
 And (hget h1 a1=some (.pointer t12))<|
 Chk ((0:Int)≤t18∧t18≤((t15.len:Nat):Int))<|
 Loop (fun K (s:Int×Unit) h2=>
 PIf (decide (s.1<(((t15.len-t18.toNat):Nat):Int))) (
 Idx (Ao t15.p t15.cap t18.toNat 1) (t15.len-t18.toNat) s.1 fun a5=>
 AL h2 (a5.add (s.1.toNat*1)) fun t24=>
 AA A P GJ #[.string t24] h2 fun v1 h3=> ∃t27a:Sl,∃t27b:Bool,v1= .tuple #[.slice t27a.p t27a.len t27a.cap,.bool t27b]∧(
 Loop (fun K1 (s1:Int×Unit) h4=>
 PIf (decide (s1.1<((t27a.len:Nat):Int))) (
 Idx t27a.p t27a.len s1.1 fun a6=>
 AL h4 (a6.add (s1.1.toNat*3)) fun t35_0=>
 AL h4 ((a6.add (s1.1.toNat*3)).add 1) fun t35_1=>
 Ab h4 ((a6.add (s1.1.toNat*3)).add 2) fun t35_2=>
 New h4 (.cells #[.string (⟨#[]⟩:ByteArray),.string (⟨#[]⟩:ByteArray),.bool false] AO) fun b h5=>
 Store h5 (⟨b,0,none⟩:Addr) (.string t35_0) fun h6=>
 Store h6 ((⟨b,0,none⟩:Addr).add 1) (.string t35_1) fun h7=>
 Store h7 ((⟨b,0,none⟩:Addr).add 2) (.bool t35_2) fun h8=>
 Join (fun(r:Bool×Unit) h9=>
 PIf r.1 (
 R (.tuple #[]) h9) (
 K1 ((IntKind.wrap .i64 (s1.1+(1:Int))),()) h9)) fun K2=>
 AL h8 (⟨b,0,none⟩:Addr) fun t37=>
 At c1 fun a7=>
 AL h8 a7 fun t38=>
 PIf (!sLt t37 t38) (
 AL h8 (⟨b,0,none⟩:Addr) fun t42_0=>
 AL h8 ((⟨b,0,none⟩:Addr).add 1) fun t42_1=>
 Ab h8 ((⟨b,0,none⟩:Addr).add 2) fun t42_2=>
 FE A P yield #[.agg #[.string t42_0,.string t42_1,.bool t42_2]] h8 fun v2 h10=> ∃t43:Bool,v2= .bool t43∧(
 K2 ((!t43),()) h10)) (
 K2 (false,()) h8)) (
 K ((IntKind.wrap .i64 (s.1+(1:Int))),()) h4)) (0,()) h3)) (
 R (.tuple #[]) h2)) (0,()) h1))
def QJ:Ann:= .seq (.seq .none (.cond .none .none)) (.seq .none (.block (.loop [(21,.one (.int .i64))] [0,2,19,20] (.seq .none (.seq (.cond .none .none) (.seq (.block (.seq .none (.seq .none (.seq .none (.block (.loop [(32,.one (.int .i64))] [0,2,19,20,21,30,31] (.seq .none (.seq (.cond .none .none) (.seq (.block (.seq .none (.seq (.reg [(45,.one .bool)] [0,2,19,20,21,30,31,32]) (.cond .none .none)))) .none))))))))) .none))))))
theorem QG(A:Amb)(yield:Value)(c0:Option Addr)(c1:Option Addr)(h:Heap)(R:Value→Heap→Prop):G7 A yield c0 c1 h R=AX A P En QJ [yield,.pointer c0,.pointer c1] h R:=by kernel_rfl
theorem Po {A:Amb}{yield:Value}{c0:Option Addr}{c1:Option Addr}{h:Heap}{R:Value→Heap→Prop}(H:G7 A yield c0 c1 h R):AA A P En #[yield,.pointer c0,.pointer c1] h R:=
 AJ mixed (QG A yield c0 c1 h R▸H)
def Mq(A:Amb)(yield:Value)(c0:Option Addr)(h:Heap)(R:Value→Heap→Prop):Prop:=
 At c0 fun a=>
 AZ h a fun t12=>
 Loop (fun K (s:Sl×Int×Unit) h1=>
 PIf (decide (s.2.1<((t12.len:Nat):Int))) (
 Join (fun(s1:Sl×Unit) h2=>
 K ((⟨s1.1.p,s1.1.len,s1.1.cap⟩:Sl),(IntKind.wrap .i64 (s.2.1+(1:Int))),()) h2) fun K1=>
 Idx t12.p t12.len s.2.1 fun a1=>
 PP h1 (a1.add (s.2.1.toNat*1)) fun t17=>
 Chk (ACQ t17)<|
 PIf (!(P7 t17)) (
 AA A P Br #[t17] h1 fun v h3=> ∃t22:Sl,v= .slice t22.p t22.len t22.cap∧(
 New h3 (.cells #[.slice t22.p t22.len t22.cap] AV) fun b h4=>
 BK A P (Builtin.append_ #[Hl,Hl] Hl #[.slice s.1.p s.1.len s.1.cap,.slice (some (⟨b,0,none⟩:Addr)) 1 1]) h4 fun v1 h5=> ∃t24:Sl,v1= .slice t24.p t24.len t24.cap∧(
 K1 ((⟨t24.p,t24.len,t24.cap⟩:Sl),()) h5))) (
 K1 ((⟨s.1.p,s.1.len,s.1.cap⟩:Sl),()) h1)) (
 Loop (fun K2 (s2:Unit) h6=>
 Loop (fun K3 (s3:Int×Int×Unit) h7=>
 PIf (decide (s3.2.1<((s.1.len:Nat):Int))) (
 Join (fun(s4:Int×Unit) h8=>
 K3 (s4.1,(IntKind.wrap .i64 (s3.2.1+(1:Int))),()) h8) fun K4=>
 Idx s.1.p s.1.len s3.2.1 fun a2=>
 AZ h7 (a2.add (s3.2.1.toNat*1)) fun t32=>
 Join (fun(r:Bool×Unit) h9=>
 PIf r.1 (
 K4 (s3.2.1,()) h9) (
 K4 (s3.1,()) h9)) fun K5=>
 PIf (decide (((t32.len:Nat):Int)>(0:Int))) (
 PIf (decide (s3.1<(0:Int))) (
 K5 (true,()) h7) (
 Idx t32.p t32.len 0 fun a3=>
 AL h7 (a3.add ((0:Int).toNat*3)) fun t43=>
 Idx s.1.p s.1.len s3.1 fun a4=>
 AZ h7 (a4.add (s3.1.toNat*1)) fun t47=>
 Idx t47.p t47.len 0 fun a5=>
 AL h7 (a5.add ((0:Int).toNat*3)) fun t50=>
 K5 ((sLt t43 t50),()) h7)) (
 K5 (false,()) h7)) (
 PIf (decide (s3.1<(0:Int))) (
 R (.tuple #[]) h7) (
 Idx s.1.p s.1.len s3.1 fun a6=>
 AZ h7 (a6.add (s3.1.toNat*1)) fun t61=>
 Idx t61.p t61.len 0 fun a7=>
 AL h7 (a7.add ((0:Int).toNat*3)) fun t63_0=>
 AL h7 ((a7.add ((0:Int).toNat*3)).add 1) fun t63_1=>
 Ab h7 ((a7.add ((0:Int).toNat*3)).add 2) fun t63_2=>
 New h7 (.cells #[.string (⟨#[]⟩:ByteArray),.string (⟨#[]⟩:ByteArray),.bool false] AO) fun b1 h10=>
 Store h10 (⟨b1,0,none⟩:Addr) (.string t63_0) fun h11=>
 Store h11 ((⟨b1,0,none⟩:Addr).add 1) (.string t63_1) fun h12=>
 Store h12 ((⟨b1,0,none⟩:Addr).add 2) (.bool t63_2) fun h13=>
 Loop (fun K6 (s5:Int×Unit) h14=>
 PIf (decide (s5.1<((s.1.len:Nat):Int))) (
 Idx s.1.p s.1.len s5.1 fun a8=>
 AZ h14 (a8.add (s5.1.toNat*1)) fun t70=>
 Loop (fun K7 (s6:Sl×Unit) h15=>
 Join (fun(r1:Bool×Unit) h16=>
 PIf r1.1 (
 Chk ((0:Int)≤1∧1≤((s6.1.len:Nat):Int))<|
 K7 ((⟨(Ao s6.1.p s6.1.cap ((1:Int).toNat) 3),(s6.1.len-((1:Int).toNat)),(s6.1.cap-((1:Int).toNat))⟩:Sl),()) h16) (
 Idx s.1.p s.1.len s5.1 fun a9=>
 Store h16 (a9.add (s5.1.toNat*1)) (.slice s6.1.p s6.1.len s6.1.cap) fun h17=>
 K6 ((IntKind.wrap .i64 (s5.1+(1:Int))),()) h17)) fun K8=>
 PIf (decide (((s6.1.len:Nat):Int)>(0:Int))) (
 Idx s6.1.p s6.1.len 0 fun a10=>
 AL h15 (a10.add ((0:Int).toNat*3)) fun t78=>
 AL h15 (⟨b1,0,none⟩:Addr) fun t80=>
 K8 ((sLt t78 t80||sEq t78 t80),()) h15) (
 K8 (false,()) h15)) ((⟨t70.p,t70.len,t70.cap⟩:Sl),()) h14) (
 AL h14 (⟨b1,0,none⟩:Addr) fun t91_0=>
 AL h14 ((⟨b1,0,none⟩:Addr).add 1) fun t91_1=>
 Ab h14 ((⟨b1,0,none⟩:Addr).add 2) fun t91_2=>
 FE A P yield #[.agg #[.string t91_0,.string t91_1,.bool t91_2]] h14 fun v2 h18=> ∃t92:Bool,v2= .bool t92∧(
 PIf (!t92) (
 R (.tuple #[]) h18) (
 K2 () h18)))) (0,()) h13))) ((-1),0,()) h6) () h1)) ((⟨none,0,0⟩:Sl),0,()) h
def AA4:Ann:= .seq .none (.seq (.seq .none (.block (.loop [(3,.one .sl),(14,.one (.int .i64))] [0,12,13] (.seq .none (.seq (.cond .none .none) (.seq (.blockJ [(3,.one .sl)] [0,12,13,14] (.seq .none (.seq .none (.cond .none .none)))) .none)))))) (.block (.loop [] [0,3] (.block (.seq .none (.seq (.seq .none (.block (.loop [(6,.one (.int .i64)),(28,.one (.int .i64))] [0,3,26,27] (.seq .none (.seq (.cond .none .none) (.seq (.blockJ [(6,.one (.int .i64))] [0,3,26,27,28] (.seq .none (.seq (.reg [(53,.one .bool)] [0,3,6,7,26,27,28]) (.cond .none .none)))) .none)))))) (.seq (.seq .none (.cond .none .none)) (.seq .none (.seq (.seq .none (.block (.loop [(66,.one (.int .i64))] [0,3,9,64,65] (.seq .none (.seq (.cond .none .none) (.seq (.block (.seq .none (.seq (.block (.loop [(11,.one .sl)] [0,3,9,10,64,65,66] (.seq (.seq (.reg [(82,.one .bool)] [0,3,9,10,11,64,65,66]) (.cond .none .none)) (.block .none)))) .none))) .none)))))) (.seq .none (.cond .none .none)))))))))))
theorem AAe(A:Amb)(yield:Value)(c0:Option Addr)(h:Heap)(R:Value→Heap→Prop):Mq A yield c0 h R=AX A P J2 AA4 [yield,.pointer c0] h R:=by kernel_rfl
theorem ZF {A:Amb}{yield:Value}{c0:Option Addr}{h:Heap}{R:Value→Heap→Prop}(H:Mq A yield c0 h R):AA A P J2 #[yield,.pointer c0] h R:=
 AJ mixed (AAe A yield c0 h R▸H)
def MN(A:Amb)(b:Option Addr)(h:Heap)(R:Value→Heap→Prop):Prop:=
 At b fun a=>
 Aa .i64 h (a.add 1) fun t6=>
 PIf (t6==(0:Int)) (
 At b fun a1=>
 Store h (a1.add 2) (.bool true) fun h1=>
 R (.bool false) h1) (
 Join (fun(s:Unit) h2=>
 R (.bool true) h2) fun K=>
 At b fun a2=>
 Aa .i64 h (a2.add 1) fun t14=>
 PIf (decide (t14>(0:Int))) (
 At b fun a3=>
 Aa .i64 h (a3.add 1) fun t19=>
 At b fun a4=>
 Store h (a4.add 1) (.int .i64 (IntKind.wrap .i64 (t19-(1:Int)))) fun h3=>
 K () h3) (
 K () h))
def ZH:Ann:= .seq .none (.seq (.seq .none (.cond (.seq .none (.seq .none .none)) .none)) (.seqJ [] [] (.seq .none (.cond .none .none)) (.seq .none .none)))
theorem Yj(A:Amb)(b:Option Addr)(h:Heap)(R:Value→Heap→Prop):MN A b h R=AX A P EX ZH [.pointer b] h R:=by kernel_rfl
theorem XE {A:Amb}{b:Option Addr}{h:Heap}{R:Value→Heap→Prop}(H:MN A b h R):AA A P EX #[.pointer b] h R:=
 AJ mixed (Yj A b h R▸H)
def O4(A:Amb)(name:ByteArray)(s:ByteArray)(h:Heap)(R:Value→Heap→Prop):Prop:=
 AA A P Km #[.string s,.string name] h fun v h1=> ∃t12a:ByteArray,∃t12b:Bool,v= .tuple #[.string t12a,.bool t12b]∧(
 Join (fun(r:Bool×Unit) h2=>
 PIf r.1 (
 R (.int .i64 0) h2) (
 AA A P Kn #[.string t12a,.int .i64 10,.int .i64 32] h2 fun v1 h3=> ∃t24a:Int,∃t24b:Value,v1= .tuple #[.int .u64 t24a,t24b]∧(
 Join (fun(r1:Bool×Unit) h4=>
 PIf r1.1 (
 R (.int .i64 0) h4) (
 R (.int .i64 (IntKind.wrap .i64 t24a)) h4)) fun K1=>
 Chk (ALJ t24b)<|
 PIf (!(Xv t24b)) (
 K1 (true,()) h3) (
 AA A P Gt #[.string name,.int .i64 (IntKind.wrap .i64 t24a)] h3 fun v2 h5=> ∃t33:ByteArray,v2= .string t33∧(
 K1 ((!sEq t33 s),()) h5))))) fun K=>
 PIf (!t12b) (
 K (true,()) h1) (
 K (((t12a.size:Int) != (8:Int)),()) h1))
def ACN:Ann:= .seq .none (.seq .none (.seq (.seq (.reg [(21,.one .bool)] [0,1,5]) (.cond (.seq .none .none) .none)) (.seq .none (.seq (.seq (.reg [(36,.one .bool)] [7]) (.cond (.seq .none .none) .none)) (.seq .none .none)))))
theorem ADM(A:Amb)(name:ByteArray)(s:ByteArray)(h:Heap)(R:Value→Heap→Prop):O4 A name s h R=AX A P LM ACN [.string name,.string s] h R:=by kernel_rfl
theorem AA5 {A:Amb}{name:ByteArray}{s:ByteArray}{h:Heap}{R:Value→Heap→Prop}(H:O4 A name s h R):AA A P LM #[.string name,.string s] h R:=
 AJ mixed (ADM A name s h R▸H)
def OM(A:Amb)(s:ByteArray)(h:Heap)(R:Value→Heap→Prop):Prop:=
 AA A P Li #[.string s] h fun v h1=> ∃t12a:Int,∃t12b:ByteArray,∃t12c:Bool,v= .tuple #[.int .u64 t12a,.string t12b,.bool t12c]∧(
 Join (fun(r:Bool×Unit) h2=>
 PIf r.1 (
 Loop (fun K1 (s1:Int×Unit) h3=>
 PIf (decide (s1.1<(s.size:Int))) (
 Chk ((0:Int)≤s1.1∧s1.1<(s.size:Int))<|
 PIf (decide ((sAt s s1.1)<(128:Int))) (
 R (.tuple #[.string (⟨#[]⟩:ByteArray),.string (⟨#[]⟩:ByteArray),.int .i64 21]) h3) (
 K1 ((IntKind.wrap .i64 (s1.1+(1:Int))),()) h3)) (
 R (.tuple #[.string (⟨#[]⟩:ByteArray),.string (⟨#[]⟩:ByteArray),.int .i64 20]) h3)) (0,()) h2) (
 Join (fun(r1:Bool×Unit) h4=>
 PIf r1.1 (
 R (.tuple #[.string (⟨#[]⟩:ByteArray),.string (⟨#[]⟩:ByteArray),.int .i64 21]) h4) (
 Join (fun(r2:Bool×Unit) h5=>
 PIf r2.1 (
 R (.tuple #[.string (⟨#[]⟩:ByteArray),.string (⟨#[]⟩:ByteArray),.int .i64 20]) h5) (
 Chk ((0:Int)≤(IntKind.wrap .u64 ((4:Int)+t12a))∧(IntKind.wrap .u64 ((4:Int)+t12a))≤((t12b.size:Nat):Int))<|
 Chk ((0:Int)≤4∧4≤(((IntKind.wrap .u64 ((4:Int)+t12a)).toNat:Nat):Int))<|
 Chk ((0:Int)≤4∧4≤((t12b.size:Nat):Int))<|
 AA A P KI #[.string (t12b.extract ((4:Int).toNat) ((IntKind.wrap .u64 ((4:Int)+t12a)).toNat))] h5 fun v1 h6=> ∃t60:Int,v1= .int .u32 t60∧(
 AA A P JH #[.int .u32 t60] h6 fun v2 h7=> ∃t61:ByteArray,v2= .string t61∧(
 PIf (!sEq (t12b.extract 0 ((4:Int).toNat)) t61) (
 R (.tuple #[.string (⟨#[]⟩:ByteArray),.string (⟨#[]⟩:ByteArray),.int .i64 21]) h7) (
 Chk ((0:Int)≤(IntKind.wrap .u64 ((4:Int)+t12a))∧(IntKind.wrap .u64 ((4:Int)+t12a))≤((t12b.size:Nat):Int))<|
 R (.tuple #[.string (t12b.extract ((4:Int).toNat) ((IntKind.wrap .u64 ((4:Int)+t12a)).toNat)),.string (t12b.extract ((IntKind.wrap .u64 ((4:Int)+t12a)).toNat) t12b.size),.int .i64 0]) h7))))) fun K3=>
 PIf (decide ((t12b.size:Int)<(4:Int))) (
 K3 (true,()) h4) (
 K3 ((decide ((IntKind.wrap .u64 (IntKind.wrap .i64 ((t12b.size:Int)-(4:Int))))<t12a)),()) h4))) fun K2=>
 PIf (!t12c) (
 K2 (true,()) h2) (
 K2 ((decide (t12a>(1048576:Int))),()) h2))) fun K=>
 PIf (!t12c) (
 K ((decide ((s.size:Int)<(10:Int))),()) h1) (
 K (false,()) h1))
def ADK:Ann:= .seq .none (.seq .none (.seq (.block (.seq (.reg [(16,.one .bool)] [0,5,6,7]) (.cond (.seq (.seq .none (.block (.loop [(26,.one (.int .i64))] [0,25] (.seq .none (.seq (.cond .none .none) (.seq (.block (.seq .none (.seq .none (.cond (.seq .none .none) .none)))) .none)))))) (.seq .none .none)) (.seq (.reg [(34,.one .bool)] [5,6]) (.cond (.seq .none .none) (.seq (.reg [(41,.one .bool)] [5,6]) (.cond (.seq .none .none) .none))))))) (.seq .none (.seq (.seq .none (.cond (.seq .none .none) .none)) (.seq .none .none)))))
theorem ACY(A:Amb)(s:ByteArray)(h:Heap)(R:Value→Heap→Prop):OM A s h R=AX A P Ky ADK [.string s] h R:=by kernel_rfl
theorem AAP {A:Amb}{s:ByteArray}{h:Heap}{R:Value→Heap→Prop}(H:OM A s h R):AA A P Ky #[.string s] h R:=
 AJ mixed (ACY A s h R▸H)
def TG(A:Amb)(s:ByteArray)(h:Heap)(R:Value→Heap→Prop):Prop:=
 Loop (fun K (s1:Int×Int×Unit) h1=>
 PIf (decide (s1.2.1<(if(10:Int)<(s.size:Int) then 10 else(s.size:Int)))) (
 Chk ((0:Int)≤s1.2.1∧s1.2.1<(s.size:Int))<|
 Join (fun(r:Bool×Unit) h2=>
 PIf r.1 (
 R (.tuple #[.int .u64 0,.string (⟨#[]⟩:ByteArray),.bool false]) h2) (
 Chk ((0:Int)≤(IntKind.wrap .i64 ((7:Int)*s1.2.1)))<|
 PIf (decide ((sAt s s1.2.1)<(128:Int))) (
 Chk ((0:Int)≤(IntKind.wrap .i64 (s1.2.1+(1:Int)))∧(IntKind.wrap .i64 (s1.2.1+(1:Int)))≤((s.size:Nat):Int))<|
 R (.tuple #[.int .u64 (bOr .u64 s1.1 (IntKind.wrap .u64 ((IntKind.wrap .u64 (Pb .u8 (sAt s s1.2.1) (127:Int)))*((2:Int)^(min (IntKind.wrap .i64 ((7:Int)*s1.2.1)).toNat (IntKind.bits .u64)))))),.string (s.extract ((IntKind.wrap .i64 (s1.2.1+(1:Int))).toNat) s.size),.bool true]) h2) (
 K ((bOr .u64 s1.1 (IntKind.wrap .u64 ((IntKind.wrap .u64 (Pb .u8 (sAt s s1.2.1) (127:Int)))*((2:Int)^(min (IntKind.wrap .i64 ((7:Int)*s1.2.1)).toNat (IntKind.bits .u64)))))),(IntKind.wrap .i64 (s1.2.1+(1:Int))),()) h2))) fun K1=>
 PIf (s1.2.1==(9:Int)) (
 PIf (decide ((sAt s s1.2.1)>(1:Int))) (
 K1 (true,()) h1) (
 PIf (decide (s1.2.1>(0:Int))) (
 K1 (((sAt s s1.2.1)==(0:Int)),()) h1) (
 K1 (false,()) h1))) (
 PIf (decide (s1.2.1>(0:Int))) (
 K1 (((sAt s s1.2.1)==(0:Int)),()) h1) (
 K1 (false,()) h1))) (
 R (.tuple #[.int .u64 0,.string (⟨#[]⟩:ByteArray),.bool false]) h1)) (0,0,()) h
def AGX:Ann:= .seq .none (.seq .none (.seq (.seq .none (.block (.loop [(5,.one (.int .u64)),(11,.one (.int .i64))] [0,10] (.seq .none (.seq (.cond .none .none) (.seq (.block (.seq .none (.seq .none (.seq (.seq (.reg [(30,.one .bool)] [0,5,6,7,10,11]) (.cond (.seq .none .none) .none)) (.seq .none (.seq .none (.cond (.seq .none .none) .none))))))) .none)))))) (.seq .none .none)))
theorem AGi(A:Amb)(s:ByteArray)(h:Heap)(R:Value→Heap→Prop):TG A s h R=AX A P Li AGX [.string s] h R:=by kernel_rfl
theorem ADq {A:Amb}{s:ByteArray}{h:Heap}{R:Value→Heap→Prop}(H:TG A s h R):AA A P Li #[.string s] h R:=
 AJ mixed (AGi A s h R▸H)
def JM(A:Amb)(r:Option Addr)(h:Heap)(R:Value→Heap→Prop):Prop:=
 PIf (r.isNone) (
 R (.bool true) h) (
 At r fun a=>
 Ab h (a.add 1) fun t9=>
 R (.bool t9) h)
def Tw:Ann:= .seq .none (.seq .none .none)
theorem Uv(A:Amb)(r:Option Addr)(h:Heap)(R:Value→Heap→Prop):JM A r h R=AX A P Gh Tw [.pointer r] h R:=by kernel_rfl
theorem TL {A:Amb}{r:Option Addr}{h:Heap}{R:Value→Heap→Prop}(H:JM A r h R):AA A P Gh #[.pointer r] h R:=
 AJ mixed (Uv A r h R▸H)
def O9(A:Amb)(key:ByteArray)(h:Heap)(R:Value→Heap→Prop):Prop:=
 Loop (fun K (s:Int×Int×Int×Unit) h1=>
 PIf (decide (s.2.2.1<(key.size:Int))) (
 Chk ((0:Int)≤s.2.2.1∧s.2.2.1<(key.size:Int))<|
 Chk ((0:Int)≤s.2.2.1∧s.2.2.1<(key.size:Int))<|
 K ((IntKind.wrap .u32 ((Vq .u32 s.1 (IntKind.wrap .u32 (sAt key s.2.2.1)))*(16777619:Int))),(Vq .u32 (IntKind.wrap .u32 ((IntKind.wrap .u32 (s.2.1+(IntKind.wrap .u32 (sAt key s.2.2.1))))*(2246822507:Int))) ((IntKind.wrap .u32 ((IntKind.wrap .u32 (s.2.1+(IntKind.wrap .u32 (sAt key s.2.2.1))))*(2246822507:Int))).fdiv ((2:Int)^(13:Nat)))),(IntKind.wrap .i64 (s.2.2.1+(1:Int))),()) h1) (
 R (.tuple #[.int .u32 s.1,.int .u32 (bOr .u32 s.2.1 (1:Int))]) h1)) (2166136261,2538058380,0,()) h
def AC9:Ann:= .seq .none (.seq .none (.seq (.seq .none (.block (.loop [(4,.one (.int .u32)),(5,.one (.int .u32)),(9,.one (.int .i64))] [0,8] (.seq .none (.seq (.cond .none .none) (.seq (.block (.seq .none (.seq .none (.seq .none .none)))) .none)))))) (.seq .none .none)))
theorem ACk(A:Amb)(key:ByteArray)(h:Heap)(R:Value→Heap→Prop):O9 A key h R=AX A P JD AC9 [.string key] h R:=by kernel_rfl
theorem AAq {A:Amb}{key:ByteArray}{h:Heap}{R:Value→Heap→Prop}(H:O9 A key h R):AA A P JD #[.string key] h R:=
 AJ mixed (ACk A key h R▸H)
def GL(A:Amb)(i:Int)(c0:Option Addr)(c1:Option Addr)(h:Heap)(R:Value→Heap→Prop):Prop:=
 At c0 fun a=>
 AP h a fun t5=>
 At t5 fun a1=>
 AZ h a1 fun t8=>
 Idx t8.p t8.len i fun a2=>
 AL h (a2.add (i.toNat*1)) fun t11=>
 At c1 fun a3=>
 AL h a3 fun t12=>
 R (.bool (!(sLt t11 t12||sEq t11 t12))) h
def Pi:Ann:= .seq .none (.seq .none .none)
theorem PZ(A:Amb)(i:Int)(c0:Option Addr)(c1:Option Addr)(h:Heap)(R:Value→Heap→Prop):GL A i c0 c1 h R=AX A P Ef Pi [.int .i64 i,.pointer c0,.pointer c1] h R:=by kernel_rfl
theorem OP {A:Amb}{i:Int}{c0:Option Addr}{c1:Option Addr}{h:Heap}{R:Value→Heap→Prop}(H:GL A i c0 c1 h R):AA A P Ef #[.int .i64 i,.pointer c0,.pointer c1] h R:=
 AJ mixed (PZ A i c0 c1 h R▸H)
def O6(A:Amb)(n:Int)(h:Heap)(R:Value→Heap→Prop):Prop:=
 New h (.cells #[.int .u8 (IntKind.wrap .u8 (n.fdiv ((2:Int)^(24:Nat)))),.int .u8 (IntKind.wrap .u8 (n.fdiv ((2:Int)^(16:Nat)))),.int .u8 (IntKind.wrap .u8 (n.fdiv ((2:Int)^(8:Nat)))),.int .u8 (IntKind.wrap .u8 n)] Ci) fun b h1=>
 BK A P (convert CO Ad (.slice (some (⟨b,0,none⟩:Addr)) 4 4)) h1 fun v h2=> ∃t15:ByteArray,v= .string t15∧(
 R (.string t15) h2)
def AC4:Ann:= .seq .none (.seq .none .none)
theorem ACl(A:Amb)(n:Int)(h:Heap)(R:Value→Heap→Prop):O6 A n h R=AX A P JH AC4 [.int .u32 n] h R:=by kernel_rfl
theorem AAG {A:Amb}{n:Int}{h:Heap}{R:Value→Heap→Prop}(H:O6 A n h R):AA A P JH #[.int .u32 n] h R:=
 AJ mixed (ACl A n h R▸H)
def Ql(A:Amb)(s:ByteArray)(h:Heap)(R:Value→Heap→Prop):Prop:=
 Loop (fun K (s1:Int×Int×Unit) h1=>
 PIf (decide (s1.2.1<(s.size:Int))) (
 Chk ((0:Int)≤s1.2.1∧s1.2.1<(s.size:Int))<|
 Loop (fun K1 (s2:Int×Int×Unit) h2=>
 PIf (decide (s2.2.1<(8:Int))) (
 K1 ((Vq .u32 (s2.1.fdiv ((2:Int)^(1:Nat))) (Pb .u32 (3988292384:Int) (IntKind.wrap .u32 (0-(Pb .u32 s2.1 (1:Int)))))),(IntKind.wrap .i64 (s2.2.1+(1:Int))),()) h2) (
 K (s2.1,(IntKind.wrap .i64 (s1.2.1+(1:Int))),()) h2)) ((Vq .u32 s1.1 (IntKind.wrap .u32 (sAt s s1.2.1))),0,()) h1) (
 R (.int .u32 (Vq .u32 (if IntKind.signed .u32 then -1 else IntKind.max .u32) s1.1)) h1)) (4294967295,0,()) h
def AFX:Ann:= .seq .none (.seq .none (.seq (.seq .none (.block (.loop [(3,.one (.int .u32)),(7,.one (.int .i64))] [0,6] (.seq .none (.seq (.cond .none .none) (.seq (.block (.seq .none (.seq .none (.seq .none (.block (.loop [(3,.one (.int .u32)),(16,.one (.int .i64))] [0,6,7] (.seq .none (.seq (.cond .none .none) (.seq (.block .none) .none))))))))) .none)))))) (.seq .none .none)))
theorem AD6(A:Amb)(s:ByteArray)(h:Heap)(R:Value→Heap→Prop):Ql A s h R=AX A P KI AFX [.string s] h R:=by kernel_rfl
theorem AC0 {A:Amb}{s:ByteArray}{h:Heap}{R:Value→Heap→Prop}(H:Ql A s h R):AA A P KI #[.string s] h R:=
 AJ mixed (AD6 A s h R▸H)
def Qt(A:Amb)(name:ByteArray)(h:Heap)(R:Value→Heap→Prop):Prop:=
 PIf (sEq name (⟨#[]⟩:ByteArray)) (
 R (.bool true) h) (
 R (.bool (decide ((name.size:Int)>(32:Int)))) h)
def AEq:Ann:= .seq .none (.seq .none .none)
theorem AFG(A:Amb)(name:ByteArray)(h:Heap)(R:Value→Heap→Prop):Qt A name h R=AX A P Mj AEq [.string name] h R:=by kernel_rfl
theorem ADV {A:Amb}{name:ByteArray}{h:Heap}{R:Value→Heap→Prop}(H:Qt A name h R):AA A P Mj #[.string name] h R:=
 AJ mixed (AFG A name h R▸H)
def CW(A:Amb)(yield:Value)(c0:Option Addr)(h:Heap)(R:Value→Heap→Prop):Prop:=
 At c0 fun a=>
 AZ h a fun t5=>
 Loop (fun K (s:Int×Unit) h1=>
 PIf (decide (s.1<((t5.len:Nat):Int))) (
 Idx t5.p t5.len s.1 fun a1=>
 AL h1 (a1.add (s.1.toNat*3)) fun t10_0=>
 AL h1 ((a1.add (s.1.toNat*3)).add 1) fun t10_1=>
 Ab h1 ((a1.add (s.1.toNat*3)).add 2) fun t10_2=>
 New h1 (.cells #[.string (⟨#[]⟩:ByteArray),.string (⟨#[]⟩:ByteArray),.bool false] AO) fun b h2=>
 Store h2 (⟨b,0,none⟩:Addr) (.string t10_0) fun h3=>
 Store h3 ((⟨b,0,none⟩:Addr).add 1) (.string t10_1) fun h4=>
 Store h4 ((⟨b,0,none⟩:Addr).add 2) (.bool t10_2) fun h5=>
 AL h5 (⟨b,0,none⟩:Addr) fun t12_0=>
 AL h5 ((⟨b,0,none⟩:Addr).add 1) fun t12_1=>
 Ab h5 ((⟨b,0,none⟩:Addr).add 2) fun t12_2=>
 FE A P yield #[.agg #[.string t12_0,.string t12_1,.bool t12_2]] h5 fun v h6=> ∃t13:Bool,v= .bool t13∧(
 PIf (!t13) (
 R (.tuple #[]) h6) (
 K ((IntKind.wrap .i64 (s.1+(1:Int))),()) h6))) (
 R (.tuple #[]) h1)) (0,()) h
def GQ:Ann:= .seq .none (.block (.loop [(7,.one (.int .i64))] [0,5,6] (.seq .none (.seq (.cond .none .none) (.seq (.block (.seq .none (.seq .none (.cond .none .none)))) .none)))))
theorem GN(A:Amb)(yield:Value)(c0:Option Addr)(h:Heap)(R:Value→Heap→Prop):CW A yield c0 h R=AX A P Bd GQ [yield,.pointer c0] h R:=by kernel_rfl
theorem F5 {A:Amb}{yield:Value}{c0:Option Addr}{h:Heap}{R:Value→Heap→Prop}(H:CW A yield c0 h R):AA A P Bd #[yield,.pointer c0] h R:=
 AJ mixed (GN A yield c0 h R▸H)
def Cj(A:Amb)(s:Sl)(n:Int)(h:Heap)(R:Value→Heap→Prop):Prop:=
 New h (.cells #[.slice s.p s.len s.cap] AV) fun b h1=>
 New h1 (.cells #[.int .i64 n] BL) fun b1 h2=>
 Join (fun(s1:Unit) h3=>
 R ((.func (.func Bl) #[] #[.pointer (some (⟨b,0,none⟩:Addr)),.pointer (some (⟨b1,0,none⟩:Addr))])) h3) fun K=>
 Aa .i64 h2 (⟨b1,0,none⟩:Addr) fun t5=>
 PIf (decide (t5<(1:Int))) (
 False) (
 K () h2)
def Hu:Ann:= .seq .none (.seqJ [] [2,3] (.seq .none (.cond .none .none)) (.seq .none .none))
theorem IB(A:Amb)(s:Sl)(n:Int)(h:Heap)(R:Value→Heap→Prop):Cj A s n h R=AX A P CB Hu [.slice s.p s.len s.cap,.int .i64 n] h R:=by kernel_rfl
theorem HV {A:Amb}{s:Sl}{n:Int}{h:Heap}{R:Value→Heap→Prop}(H:Cj A s n h R):AA A P CB #[.slice s.p s.len s.cap,.int .i64 n] h R:=
 AJ mixed (IB A s n h R▸H)
def Oq(A:Amb)(p_0:ByteArray)(p_1:ByteArray)(p_2:Bool)(h:Heap)(R:Value→Heap→Prop):Prop:=
 New h (.cells #[.string p_0,.string p_1,.bool p_2] AO) fun b h1=>
 Ab h1 ((⟨b,0,none⟩:Addr).add 2) fun t4=>
 PIf t4 (
 AL h1 (⟨b,0,none⟩:Addr) fun t6=>
 AA A P Dt #[.string t6] h1 fun v h2=> ∃t7:ByteArray,v= .string t7∧(
 AA A P CG #[.int .u64 0] h2 fun v1 h3=> ∃t8:ByteArray,v1= .string t8∧(
 Chk (((t7.size+t8.size:Nat):Int)≤IntKind.i64.max)<|
 R (.string (t7++t8)) h3))) (
 AL h1 (⟨b,0,none⟩:Addr) fun t11=>
 AA A P Dt #[.string t11] h1 fun v2 h4=> ∃t12:ByteArray,v2= .string t12∧(
 AL h4 ((⟨b,0,none⟩:Addr).add 1) fun t14=>
 And (hget h1 ((⟨b,0,none⟩:Addr).add 1)=some (.string t14))<|
 AA A P CG #[.int .u64 (IntKind.wrap .u64 ((IntKind.wrap .u64 (t14.size:Int))+(1:Int)))] h4 fun v3 h5=> ∃t18:ByteArray,v3= .string t18∧(
 Chk (((t12.size+t18.size:Nat):Int)≤IntKind.i64.max)<|
 AL h5 ((⟨b,0,none⟩:Addr).add 1) fun t21=>
 And (hget h4 ((⟨b,0,none⟩:Addr).add 1)=some (.string t21))<|
 And (hget h1 ((⟨b,0,none⟩:Addr).add 1)=some (.string t21))<|
 Chk ((((t12++t18).size+t21.size:Nat):Int)≤IntKind.i64.max)<|
 R (.string ((t12++t18)++t21)) h5)))
def ACb:Ann:= .seq .none (.seq (.seq .none (.cond (.seq .none .none) .none)) (.seq .none .none))
theorem ACW(A:Amb)(p_0:ByteArray)(p_1:ByteArray)(p_2:Bool)(h:Heap)(R:Value→Heap→Prop):Oq A p_0 p_1 p_2 h R=AX A P Iz ACb [.agg #[.string p_0,.string p_1,.bool p_2]] h R:=by kernel_rfl
theorem AAX {A:Amb}{p_0:ByteArray}{p_1:ByteArray}{p_2:Bool}{h:Heap}{R:Value→Heap→Prop}(H:Oq A p_0 p_1 p_2 h R):AA A P Iz #[.agg #[.string p_0,.string p_1,.bool p_2]] h R:=
 AJ mixed (ACW A p_0 p_1 p_2 h R▸H)
def O8(A:Amb)(keys:Sl)(bytes:Int)(h:Heap)(R:Value→Heap→Prop):Prop:=
 Join (fun(r:Bool×Unit) h1=>
 PIf r.1 (
 R (.tuple #[.string (⟨#[]⟩:ByteArray),.int .i64 1]) h1) (
 BK A P (Instr.makeSlice CO (.int .i64 bytes) (.int .i64 bytes)) h1 fun v h2=> ∃t19:Sl,v= .slice t19.p t19.len t19.cap∧(
 Loop (fun K1 (s:Int×Unit) h3=>
 PIf (decide (s.1<((keys.len:Nat):Int))) (
 Idx keys.p keys.len s.1 fun a=>
 AL h3 (a.add (s.1.toNat*1)) fun t25=>
 AA A P JD #[.string t25] h3 fun v1 h4=> ∃t28a:Int,∃t28b:Int,v1= .tuple #[.int .u32 t28a,.int .u32 t28b]∧(
 Loop (fun K2 (s1:Int×Int×Unit) h5=>
 PIf (decide (s1.2.1<(4:Int))) (
 Chk ((IntKind.wrap .u32 (IntKind.wrap .i64 ((8:Int)*bytes)))≠0)<|
 Idx t19.p t19.len (IntKind.wrap .u32 ((s1.1.tmod (IntKind.wrap .u32 (IntKind.wrap .i64 ((8:Int)*bytes)))).tdiv (8:Int))) fun a1=>
 Aa .u8 h5 (a1.add ((IntKind.wrap .u32 ((s1.1.tmod (IntKind.wrap .u32 (IntKind.wrap .i64 ((8:Int)*bytes)))).tdiv (8:Int))).toNat*1)) fun t42=>
 Chk ((0:Int)≤((s1.1.tmod (IntKind.wrap .u32 (IntKind.wrap .i64 ((8:Int)*bytes)))).tmod (8:Int)))<|
 Idx t19.p t19.len (IntKind.wrap .u32 ((s1.1.tmod (IntKind.wrap .u32 (IntKind.wrap .i64 ((8:Int)*bytes)))).tdiv (8:Int))) fun a2=>
 Store h5 (a2.add ((IntKind.wrap .u32 ((s1.1.tmod (IntKind.wrap .u32 (IntKind.wrap .i64 ((8:Int)*bytes)))).tdiv (8:Int))).toNat*1)) (.int .u8 (bOr .u8 t42 (IntKind.wrap .u8 ((1:Int)*((2:Int)^(min ((s1.1.tmod (IntKind.wrap .u32 (IntKind.wrap .i64 ((8:Int)*bytes)))).tmod (8:Int)).toNat (IntKind.bits .u8))))))) fun h6=>
 K2 ((IntKind.wrap .u32 (s1.1+t28b)),(IntKind.wrap .i64 (s1.2.1+(1:Int))),()) h6) (
 K1 ((IntKind.wrap .i64 (s.1+(1:Int))),()) h5)) (t28a,0,()) h4)) (
 BK A P (convert CO Ad (.slice t19.p t19.len t19.cap)) h3 fun v2 h7=> ∃t54:ByteArray,v2= .string t54∧(
 R (.tuple #[.string t54,.int .i64 0]) h7))) (0,()) h2))) fun K=>
 PIf (decide (bytes<(1:Int))) (
 K (true,()) h) (
 K ((decide (bytes>(8192:Int))),()) h)
def ACs:Ann:= .seq .none (.seq (.seq (.reg [(17,.one .bool)] [0,1]) (.cond (.seq .none .none) .none)) (.seq .none (.seq (.seq .none (.block (.loop [(22,.one (.int .i64))] [1,6,20,21] (.seq .none (.seq (.cond .none .none) (.seq (.block (.seq .none (.seq .none (.seq .none (.block (.loop [(9,.one (.int .u32)),(31,.one (.int .i64))] [1,6,10,20,21,22] (.seq .none (.seq (.cond .none .none) (.seq (.block (.seq .none (.seq .none .none))) .none))))))))) .none)))))) (.seq .none .none))))
theorem ADF(A:Amb)(keys:Sl)(bytes:Int)(h:Heap)(R:Value→Heap→Prop):O8 A keys bytes h R=AX A P Iy ACs [.slice keys.p keys.len keys.cap,.int .i64 bytes] h R:=by kernel_rfl
theorem AAd {A:Amb}{keys:Sl}{bytes:Int}{h:Heap}{R:Value→Heap→Prop}(H:O8 A keys bytes h R):AA A P Iy #[.slice keys.p keys.len keys.cap,.int .i64 bytes] h R:=
 AJ mixed (ADF A keys bytes h R▸H)
def CY(A:Amb)(yield:Value)(c0:Option Addr)(c1:Option Addr)(h:Heap)(R:Value→Heap→Prop):Prop:=
 Loop (fun K (s:Int×Unit) h1=>
 At c0 fun a=>
 AZ h1 a fun t7=>
 PIf (decide (s.1<((t7.len:Nat):Int))) (
 At c1 fun a1=>
 Aa .i64 h1 a1 fun t13=>
 At c0 fun a2=>
 AZ h1 a2 fun t14=>
 Chk ((0:Int)≤s.1∧s.1≤((t14.len:Nat):Int))<|
 At c0 fun a3=>
 AZ h1 a3 fun t20=>
 Chk ((0:Int)≤(IntKind.wrap .i64 (s.1+(if((((t14.len-s.1.toNat):Nat):Int):Int)<t13 then(((t14.len-s.1.toNat):Nat):Int) else t13)))∧(IntKind.wrap .i64 (s.1+(if((((t14.len-s.1.toNat):Nat):Int):Int)<t13 then(((t14.len-s.1.toNat):Nat):Int) else t13)))≤((t20.cap:Nat):Int))<|
 Chk ((0:Int)≤(IntKind.wrap .i64 (s.1+(if((((t14.len-s.1.toNat):Nat):Int):Int)<t13 then(((t14.len-s.1.toNat):Nat):Int) else t13)))∧(IntKind.wrap .i64 (s.1+(if((((t14.len-s.1.toNat):Nat):Int):Int)<t13 then(((t14.len-s.1.toNat):Nat):Int) else t13)))≤((((IntKind.wrap .i64 (s.1+(if((((t14.len-s.1.toNat):Nat):Int):Int)<t13 then(((t14.len-s.1.toNat):Nat):Int) else t13))).toNat):Nat):Int))<|
 Chk ((0:Int)≤s.1∧s.1≤(((IntKind.wrap .i64 (s.1+(if((((t14.len-s.1.toNat):Nat):Int):Int)<t13 then(((t14.len-s.1.toNat):Nat):Int) else t13))).toNat:Nat):Int))<|
 FE A P yield #[.slice (Ao t20.p ((IntKind.wrap .i64 (s.1+(if((((t14.len-s.1.toNat):Nat):Int):Int)<t13 then(((t14.len-s.1.toNat):Nat):Int) else t13))).toNat) s.1.toNat 3) (((IntKind.wrap .i64 (s.1+(if((((t14.len-s.1.toNat):Nat):Int):Int)<t13 then(((t14.len-s.1.toNat):Nat):Int) else t13))).toNat)-s.1.toNat) (((IntKind.wrap .i64 (s.1+(if((((t14.len-s.1.toNat):Nat):Int):Int)<t13 then(((t14.len-s.1.toNat):Nat):Int) else t13))).toNat)-s.1.toNat)] h1 fun v h2=> ∃t29:Bool,v= .bool t29∧(
 PIf (!t29) (
 R (.tuple #[]) h2) (
 At c1 fun a4=>
 Aa .i64 h2 a4 fun t11=>
 K ((IntKind.wrap .i64 (s.1+t11)),()) h2))) (
 R (.tuple #[]) h1)) (0,()) h
def Gp:Ann:= .seq .none (.block (.loop [(4,.one (.int .i64))] [0,1,2] (.seq (.seq .none (.cond .none .none)) (.seq (.block (.seq .none (.seq .none (.cond .none .none)))) .none))))
theorem Gn(A:Amb)(yield:Value)(c0:Option Addr)(c1:Option Addr)(h:Heap)(R:Value→Heap→Prop):CY A yield c0 c1 h R=AX A P Bl Gp [yield,.pointer c0,.pointer c1] h R:=by kernel_rfl
theorem GU {A:Amb}{yield:Value}{c0:Option Addr}{c1:Option Addr}{h:Heap}{R:Value→Heap→Prop}(H:CY A yield c0 c1 h R):AA A P Bl #[yield,.pointer c0,.pointer c1] h R:=
 AJ mixed (Gn A yield c0 c1 h R▸H)
end Go.Lf.G

