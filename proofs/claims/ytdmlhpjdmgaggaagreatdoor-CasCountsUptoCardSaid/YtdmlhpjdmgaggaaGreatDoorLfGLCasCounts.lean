/-
 The law CasCounts as a formula.
-/
import Derived.Test.YtdmlhpjdmgaggaaGreatDoorLfG1
set_option linter.unusedVariables false
set_option linter.unusedSimpArgs false
set_option linter.unusedVariables false
set_option maxRecDepth 100000
namespace Go.Lf.G
open Go
def Em (A : Amb) (calls : Sl) (h : Heap) (R : Value → Heap → Prop) : Prop :=
 AA A P Dg #[] h fun v h1 => ∃ t8 : Bool, v = .bool t8 ∧ (
 PIf (!t8) (
 R (.bool false) h1) (
 PIf (decide (((calls.len : Nat) : Int) > (100 : Int))) (
 R (.bool true) h1) (
 AA A P IY #[] h1 fun v1 h2 => ∃ t14 : Option Addr, v1 = .pointer t14 ∧ (
 AA A P GK #[.pointer t14] h2 fun v2 h3 => ∃ t15a : Option Addr, ∃ t15b : Int, v2 = .tuple #[.pointer t15a, .int .i64 t15b] ∧ (
 PIf (t15b != (0 : Int)) (
 R (.bool false) h3) (
 Loop (fun K (s : Int × Int × Unit) h4 =>
 PIf (decide (s.2.1 < ((calls.len : Nat) : Int))) (
 Idx calls.p calls.len s.2.1 fun a =>
 Aa .i64 h4 (a.add (s.2.1.toNat * 7)) fun t25_0 =>
 AU h4 ((a.add (s.2.1.toNat * 7)).add 1) fun t25_1 =>
 AU h4 ((a.add (s.2.1.toNat * 7)).add 2) fun t25_2 =>
 AC h4 ((a.add (s.2.1.toNat * 7)).add 3) fun t25_3 =>
 AC h4 ((a.add (s.2.1.toNat * 7)).add 4) fun t25_4 =>
 Aa .i64 h4 ((a.add (s.2.1.toNat * 7)).add 5) fun t25_5 =>
 AZ h4 ((a.add (s.2.1.toNat * 7)).add 6) fun t25_6 =>
 New h4 (.cells #[.int .i64 0, .slice none 0 0, .slice none 0 0, .string (⟨#[]⟩ : ByteArray), .string (⟨#[]⟩ : ByteArray), .int .i64 0, .bool false] Cw) fun b h5 =>
 Store h5 (⟨b, 0, none⟩ : Addr) (.int .i64 t25_0) fun h6 =>
 Store h6 ((⟨b, 0, none⟩ : Addr).add 1) (.slice t25_1.p t25_1.len t25_1.cap) fun h7 =>
 Store h7 ((⟨b, 0, none⟩ : Addr).add 2) (.slice t25_2.p t25_2.len t25_2.cap) fun h8 =>
 Store h8 ((⟨b, 0, none⟩ : Addr).add 3) (.string t25_3) fun h9 =>
 Store h9 ((⟨b, 0, none⟩ : Addr).add 4) (.string t25_4) fun h10 =>
 Store h10 ((⟨b, 0, none⟩ : Addr).add 5) (.int .i64 t25_5) fun h11 =>
 Store h11 ((⟨b, 0, none⟩ : Addr).add 6) (.bool t25_6) fun h12 =>
 Aa .i64 h12 (⟨b, 0, none⟩ : Addr) fun t27 =>
 Join (fun (s1 : Int × Unit) h13 =>
 AA A P Da #[.pointer t15a] h13 fun v3 h14 => ∃ t62 : Int, v3 = .int .i64 t62 ∧ (
 PIf (t62 != s1.1) (
 R (.bool false) h14) (
 K (s1.1, (IntKind.wrap .i64 (s.2.1 + (1 : Int))), ()) h14))) fun K1 =>
 PIf (t27 == (0 : Int)) (
 AU h12 ((⟨b, 0, none⟩ : Addr).add 1) fun t32 =>
 AU h12 ((⟨b, 0, none⟩ : Addr).add 2) fun t34 =>
 AA A P D8 #[.pointer t15a, .slice t32.p t32.len t32.cap, .slice t34.p t34.len t34.cap] h12 fun v4 h15 => ∃ t35 : Int, v4 = .int .i64 t35 ∧ (
 PIf (t35 == (0 : Int)) (
 K1 ((IntKind.wrap .i64 (s.1 + (1 : Int))), ()) h15) (
 K1 (s.1, ()) h15))) (
 PIf (t27 == (1 : Int)) (
 AC h12 ((⟨b, 0, none⟩ : Addr).add 3) fun t43 =>
 AC h12 ((⟨b, 0, none⟩ : Addr).add 4) fun t45 =>
 Aa .i64 h12 ((⟨b, 0, none⟩ : Addr).add 5) fun t47 =>
 AA A P Dx #[.pointer t15a, .string t43, .string t45, .int .i64 t47] h12 fun v5 h16 => ∃ t48a : Sl, ∃ t48b : Int, v5 = .tuple #[.slice t48a.p t48a.len t48a.cap, .int .i64 t48b] ∧ (
 K1 (s.1, ()) h16)) (
 PIf (t27 == (2 : Int)) (
 AC h12 ((⟨b, 0, none⟩ : Addr).add 3) fun t53 =>
 AA A P FH #[.pointer t15a, .string t53] h12 fun v6 h17 => ∃ t54a : ByteArray, ∃ t54b : Bool, ∃ t54c : Int, v6 = .tuple #[.string t54a, .bool t54b, .int .i64 t54c] ∧ (
 K1 (s.1, ()) h17)) (
 PIf (t27 == (3 : Int)) (
 AZ h12 ((⟨b, 0, none⟩ : Addr).add 6) fun t59 =>
 AA A P Eu #[.pointer t15a, .bool t59] h12 fun v7 h18 => ∃ t60 : Int, v7 = .int .i64 t60 ∧ (
 K1 (s.1, ()) h18)) (
 K1 (s.1, ()) h12))))) (
 R (.bool true) h4)) (0, 0, ()) h3))))))
def MM : Ann := .seq .none (.seq (.seq .none (.cond (.seq .none .none) .none)) (.seq (.seq .none (.cond (.seq .none .none) .none)) (.seq .none (.seq (.seq .none (.cond (.seq .none .none) .none)) (.seq .none (.seq (.seq .none (.block (.loop [(5, .one (.int .i64)), (22, .one (.int .i64))] [3, 20, 21] (.seq .none (.seq (.cond .none .none) (.seq (.block (.seq .none (.seq (.seq .none (.blockJ [(5, .one (.int .i64))] [3, 20, 21, 22] (.seq .none (.cond (.seq .none (.cond .none .none)) (.seq .none (.cond .none (.seq .none (.cond .none (.seq .none (.cond .none .none)))))))))) (.seq .none (.cond (.seq .none .none) .none))))) .none)))))) (.seq .none .none)))))))
theorem Lx (A : Amb) (calls : Sl) (h : Heap) (R : Value → Heap → Prop) : Em A calls h R = AX A P Eg MM [.slice calls.p calls.len calls.cap] h R := by kernel_rfl
theorem LG {A : Amb} {calls : Sl} {h : Heap} {R : Value → Heap → Prop} (H : Em A calls h R) : AA A P Eg #[.slice calls.p calls.len calls.cap] h R :=
 AL mixed (Lx A calls h R ▸ H)
end Go.Lf.G

