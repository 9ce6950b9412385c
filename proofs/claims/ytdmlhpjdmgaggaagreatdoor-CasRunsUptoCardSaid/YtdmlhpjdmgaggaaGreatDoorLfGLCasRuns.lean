/-
 The law CasRuns as a formula.
-/
import Derived.Test.YtdmlhpjdmgaggaaGreatDoorLfG1
set_option linter.unusedVariables false
set_option linter.unusedSimpArgs false
set_option linter.unusedVariables false
set_option maxRecDepth 100000
namespace Go.Lf.G
open Go
def FX (A : Amb) (calls : Sl) (h : Heap) (R : Value → Heap → Prop) : Prop :=
 AA A P Dg #[] h fun v h1 => ∃ t19 : Bool, v = .bool t19 ∧ (
 PIf (!t19) (
 R (.bool false) h1) (
 PIf (decide (((calls.len : Nat) : Int) > (200 : Int))) (
 R (.bool true) h1) (
 AA A P IY #[] h1 fun v1 h2 => ∃ t24 : Option Addr, v1 = .pointer t24 ∧ (
 AA A P GK #[.pointer t24] h2 fun v2 h3 => ∃ t27a : Option Addr, ∃ t27b : Int, v2 = .tuple #[.pointer t27a, .int .i64 t27b] ∧ (
 PIf (t27b != (0 : Int)) (
 R (.bool false) h3) (
 New h3 (.cells #[.slice none 0 0, .int .i64 0] BR) fun b h4 =>
 Loop (fun K (s : (Option Addr) × (Option Addr) × Int × Unit) h5 =>
 PIf (decide (s.2.2.1 < ((calls.len : Nat) : Int))) (
 Idx calls.p calls.len s.2.2.1 fun a =>
 Aa .i64 h5 (a.add (s.2.2.1.toNat * 7)) fun t37_0 =>
 AU h5 ((a.add (s.2.2.1.toNat * 7)).add 1) fun t37_1 =>
 AU h5 ((a.add (s.2.2.1.toNat * 7)).add 2) fun t37_2 =>
 AC h5 ((a.add (s.2.2.1.toNat * 7)).add 3) fun t37_3 =>
 AC h5 ((a.add (s.2.2.1.toNat * 7)).add 4) fun t37_4 =>
 Aa .i64 h5 ((a.add (s.2.2.1.toNat * 7)).add 5) fun t37_5 =>
 AZ h5 ((a.add (s.2.2.1.toNat * 7)).add 6) fun t37_6 =>
 New h5 (.cells #[.int .i64 0, .slice none 0 0, .slice none 0 0, .string (⟨#[]⟩ : ByteArray), .string (⟨#[]⟩ : ByteArray), .int .i64 0, .bool false] Cw) fun b1 h6 =>
 Store h6 (⟨b1, 0, none⟩ : Addr) (.int .i64 t37_0) fun h7 =>
 Store h7 ((⟨b1, 0, none⟩ : Addr).add 1) (.slice t37_1.p t37_1.len t37_1.cap) fun h8 =>
 Store h8 ((⟨b1, 0, none⟩ : Addr).add 2) (.slice t37_2.p t37_2.len t37_2.cap) fun h9 =>
 Store h9 ((⟨b1, 0, none⟩ : Addr).add 3) (.string t37_3) fun h10 =>
 Store h10 ((⟨b1, 0, none⟩ : Addr).add 4) (.string t37_4) fun h11 =>
 Store h11 ((⟨b1, 0, none⟩ : Addr).add 5) (.int .i64 t37_5) fun h12 =>
 Store h12 ((⟨b1, 0, none⟩ : Addr).add 6) (.bool t37_6) fun h13 =>
 Aa .i64 h13 (⟨b1, 0, none⟩ : Addr) fun t39 =>
 Join (fun (s1 : (Option Addr) × (Option Addr) × Unit) h14 =>
 AA A P Da #[.pointer s1.2.1] h14 fun v3 h15 => ∃ t138 : Int, v3 = .int .i64 t138 ∧ (
 Aa .i64 h15 ((⟨b, 0, none⟩ : Addr).add 1) fun t140 =>
 And (hget h14 ((⟨b, 0, none⟩ : Addr).add 1) = some (.int .i64 t140)) <|
 PIf (t138 != t140) (
 R (.bool false) h15) (
 K (s1.1, s1.2.1, (IntKind.wrap .i64 (s.2.2.1 + (1 : Int))), ()) h15))) fun K1 =>
 PIf (t39 == (0 : Int)) (
 AU h13 (⟨b, 0, none⟩ : Addr) fun t43_0 =>
 Aa .i64 h13 ((⟨b, 0, none⟩ : Addr).add 1) fun t43_1 =>
 AU h13 ((⟨b1, 0, none⟩ : Addr).add 1) fun t45 =>
 AU h13 ((⟨b1, 0, none⟩ : Addr).add 2) fun t47 =>
 AA A P Dk #[.agg #[.slice t43_0.p t43_0.len t43_0.cap, .int .i64 t43_1], .slice t45.p t45.len t45.cap, .slice t47.p t47.len t47.cap] h13 fun v4 h16 => ∃ t48a_0 : Sl, ∃ t48a_1 : Int, ∃ t48b : Int, v4 = .tuple #[.agg #[.slice t48a_0.p t48a_0.len t48a_0.cap, .int .i64 t48a_1], .int .i64 t48b] ∧ (
 New h16 (.cells #[.slice none 0 0, .int .i64 0] BR) fun b2 h17 =>
 Store h17 (⟨b2, 0, none⟩ : Addr) (.slice t48a_0.p t48a_0.len t48a_0.cap) fun h18 =>
 Store h18 ((⟨b2, 0, none⟩ : Addr).add 1) (.int .i64 t48a_1) fun h19 =>
 AU h19 ((⟨b1, 0, none⟩ : Addr).add 1) fun t53 =>
 AU h19 ((⟨b1, 0, none⟩ : Addr).add 2) fun t55 =>
 AA A P D8 #[.pointer s.2.1, .slice t53.p t53.len t53.cap, .slice t55.p t55.len t55.cap] h19 fun v5 h20 => ∃ t56 : Int, v5 = .int .i64 t56 ∧ (
 PIf (t56 != t48b) (
 R (.bool false) h20) (
 AU h20 (⟨b2, 0, none⟩ : Addr) fun t59_0 =>
 Aa .i64 h20 ((⟨b2, 0, none⟩ : Addr).add 1) fun t59_1 =>
 Store h20 (⟨b, 0, none⟩ : Addr) (.slice t59_0.p t59_0.len t59_0.cap) fun h21 =>
 Store h21 ((⟨b, 0, none⟩ : Addr).add 1) (.int .i64 t59_1) fun h22 =>
 K1 (s.1, s.2.1, ()) h22)))) (
 PIf (t39 == (1 : Int)) (
 AC h13 ((⟨b1, 0, none⟩ : Addr).add 3) fun t65 =>
 AC h13 ((⟨b1, 0, none⟩ : Addr).add 4) fun t67 =>
 Aa .i64 h13 ((⟨b1, 0, none⟩ : Addr).add 5) fun t69 =>
 AA A P Dx #[.pointer s.2.1, .string t65, .string t67, .int .i64 t69] h13 fun v6 h23 => ∃ t70a : Sl, ∃ t70b : Int, v6 = .tuple #[.slice t70a.p t70a.len t70a.cap, .int .i64 t70b] ∧ (
 Join (fun (r : Bool × Unit) h24 =>
 PIf r.1 (
 R (.bool false) h24) (
 K1 (s.1, s.2.1, ()) h24)) fun K2 =>
 PIf (t70b != (0 : Int)) (
 K2 (true, ()) h23) (
 AU h23 (⟨b, 0, none⟩ : Addr) fun t77_0 =>
 Aa .i64 h23 ((⟨b, 0, none⟩ : Addr).add 1) fun t77_1 =>
 AC h23 ((⟨b1, 0, none⟩ : Addr).add 3) fun t79 =>
 AC h23 ((⟨b1, 0, none⟩ : Addr).add 4) fun t81 =>
 Aa .i64 h23 ((⟨b1, 0, none⟩ : Addr).add 5) fun t83 =>
 AA A P DL #[.agg #[.slice t77_0.p t77_0.len t77_0.cap, .int .i64 t77_1], .string t79, .string t81, .int .i64 t83] h23 fun v7 h25 => ∃ t84 : Sl, v7 = .slice t84.p t84.len t84.cap ∧ (
 AA A P Dy #[.slice t70a.p t70a.len t70a.cap, .slice t84.p t84.len t84.cap] h25 fun v8 h26 => ∃ t85 : Bool, v8 = .bool t85 ∧ (
 K2 ((!t85), ()) h26))))) (
 PIf (t39 == (2 : Int)) (
 AC h13 ((⟨b1, 0, none⟩ : Addr).add 3) fun t93 =>
 AA A P FH #[.pointer s.2.1, .string t93] h13 fun v9 h27 => ∃ t94a : ByteArray, ∃ t94b : Bool, ∃ t94c : Int, v9 = .tuple #[.string t94a, .bool t94b, .int .i64 t94c] ∧ (
 AU h27 (⟨b, 0, none⟩ : Addr) fun t100_0 =>
 AC h27 ((⟨b1, 0, none⟩ : Addr).add 3) fun t102 =>
 AA A P Cv #[.agg #[.slice t100_0.p t100_0.len t100_0.cap], .string t102] h27 fun v10 h28 => ∃ t103a : ByteArray, ∃ t103b : Bool, v10 = .tuple #[.string t103a, .bool t103b] ∧ (
 Join (fun (r1 : Bool × Unit) h29 =>
 PIf r1.1 (
 R (.bool false) h29) (
 K1 (s.1, s.2.1, ()) h29)) fun K3 =>
 PIf (t94c != (0 : Int)) (
 K3 (true, ()) h28) (
 PIf (!sEq t94a t103a) (
 K3 (true, ()) h28) (
 K3 ((!(t94b == t103b)), ()) h28))))) (
 PIf (t39 == (3 : Int)) (
 AZ h13 ((⟨b1, 0, none⟩ : Addr).add 6) fun t122 =>
 AA A P Eu #[.pointer s.2.1, .bool t122] h13 fun v11 h30 => ∃ t123 : Int, v11 = .int .i64 t123 ∧ (
 PIf (t123 != (0 : Int)) (
 R (.bool false) h30) (
 K1 (s.1, s.2.1, ()) h30))) (
 PIf (t39 == (4 : Int)) (
 AA A P Gr #[.pointer s.1, .slice none 0 0] h13 fun v12 h31 => ∃ t128 : Option Addr, v12 = .pointer t128 ∧ (
 AA A P GK #[.pointer t128] h31 fun v13 h32 => ∃ t131a : Option Addr, ∃ t131b : Int, v13 = .tuple #[.pointer t131a, .int .i64 t131b] ∧ (
 PIf (t131b != (0 : Int)) (
 R (.bool false) h32) (
 Store h32 ((⟨b, 0, none⟩ : Addr).add 1) (.int .i64 0) fun h33 =>
 K1 (t128, t131a, ()) h33)))) (
 K1 (s.1, s.2.1, ()) h13)))))) (
 AA A P Dx #[.pointer s.2.1, .string (⟨#[]⟩ : ByteArray), .string (⟨#[]⟩ : ByteArray), .int .i64 1048576] h5 fun v14 h34 => ∃ t145a : Sl, ∃ t145b : Int, v14 = .tuple #[.slice t145a.p t145a.len t145a.cap, .int .i64 t145b] ∧ (
 PIf (t145b == (0 : Int)) (
 AU h34 (⟨b, 0, none⟩ : Addr) fun t154 =>
 AA A P Dy #[.slice t145a.p t145a.len t145a.cap, .slice t154.p t154.len t154.cap] h34 fun v15 h35 => ∃ t155 : Bool, v15 = .bool t155 ∧ (
 R (.bool t155) h35)) (
 R (.bool false) h34)))) (t24, t27a, 0, ()) h4))))))
def Nj : Ann := .seq .none (.seq (.seq .none (.cond (.seq .none .none) .none)) (.seq (.seq .none (.cond (.seq .none .none) .none)) (.seq .none (.seq .none (.seq (.seq .none (.cond (.seq .none .none) .none)) (.seq .none (.seq (.seq .none (.block (.loop [(3, .one .ptr), (4, .one .ptr), (34, .one (.int .i64))] [6, 32, 33] (.seq .none (.seq (.cond .none .none) (.seq (.block (.seq .none (.seq (.seq .none (.blockJ [(3, .one .ptr), (4, .one .ptr)] [6, 32, 33, 34] (.seq .none (.cond (.seq .none (.seq (.seq .none (.cond (.seq .none .none) .none)) .none)) (.seq .none (.cond (.seq .none (.seq (.reg [(87, .one .bool)] [3, 4, 6, 32, 33, 34]) (.cond (.seq .none .none) .none))) (.seq .none (.cond (.seq .none (.seq .none (.seq (.reg [(117, .one .bool)] [3, 4, 6, 32, 33, 34]) (.cond (.seq .none .none) .none)))) (.seq .none (.cond (.seq .none (.cond (.seq .none .none) .none)) (.seq .none (.cond (.seq .none (.seq (.seq .none (.seq .none (.cond (.seq .none .none) .none))) .none)) .none)))))))))))) (.seq .none (.cond (.seq .none .none) .none))))) .none)))))) (.seq .none (.seq .none .none)))))))))
theorem Nk (A : Amb) (calls : Sl) (h : Heap) (R : Value → Heap → Prop) : FX A calls h R = AX A P FV Nj [.slice calls.p calls.len calls.cap] h R := by kernel_rfl
theorem NM {A : Amb} {calls : Sl} {h : Heap} {R : Value → Heap → Prop} (H : FX A calls h R) : AA A P FV #[.slice calls.p calls.len calls.cap] h R :=
 AL mixed (Nk A calls h R ▸ H)
end Go.Lf.G

