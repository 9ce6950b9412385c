/-
 The law CasRefused as a formula.
-/
import Derived.Test.YtdmlhpjdmgaggaaGreatDoorLfG1
set_option linter.unusedVariables false
set_option linter.unusedSimpArgs false
set_option linter.unusedVariables false
set_option maxRecDepth 100000
namespace Go.Lf.G
open Go
def EX (A : Amb) (x_0 : Sl) (x_1 : Sl) (x_2 : Sl) (x_3 : Int) (h : Heap) (R : Value → Heap → Prop) : Prop :=
 New h (.cells #[.slice x_0.p x_0.len x_0.cap, .slice x_1.p x_1.len x_1.cap, .slice x_2.p x_2.len x_2.cap, .int .i64 x_3] Cr) fun b h1 =>
 AQ h1 (⟨b, 0, none⟩ : Addr) fun t21 =>
 AQ h1 ((⟨b, 0, none⟩ : Addr).add 1) fun t23 =>
 AQ h1 ((⟨b, 0, none⟩ : Addr).add 2) fun t25 =>
 AZ .i64 h1 ((⟨b, 0, none⟩ : Addr).add 3) fun t27 =>
 AA A P Ca #[] h1 fun v h2 => ∃ t28 : Bool, v = .bool t28 ∧ (
 PIf (!t28) (
 R (.bool false) h2) (
 AA A P Gu #[] h2 fun v1 h3 => ∃ t31 : Option Addr, v1 = .pointer t31 ∧ (
 AA A P Eb #[.pointer t31] h3 fun v2 h4 => ∃ t32a : Option Addr, ∃ t32b : Int, v2 = .tuple #[.pointer t32a, .int .i64 t32b] ∧ (
 Join (fun (r : Bool × Unit) h5 =>
 PIf r.1 (
 R (.bool (t32b == (0 : Int))) h5) (
 New h5 (.cells #[.slice none 0 0, .int .i64 0] Ag) fun b1 h6 =>
 Join (fun (s : Unit) h7 =>
 AQ h7 (⟨b1, 0, none⟩ : Addr) fun t54_0 =>
 AZ .i64 h7 ((⟨b1, 0, none⟩ : Addr).add 1) fun t54_1 =>
 AA A P EW #[.agg #[.slice t54_0.p t54_0.len t54_0.cap, .int .i64 t54_1], .slice t23.p t23.len t23.cap] h7 fun v3 h8 => ∃ t56 : Sl, v3 = .slice t56.p t56.len t56.cap ∧ (
 Join (fun (s1 : Unit) h9 =>
 AQ h9 (⟨b1, 0, none⟩ : Addr) fun t115_0 =>
 AZ .i64 h9 ((⟨b1, 0, none⟩ : Addr).add 1) fun t115_1 =>
 AA A P Bj #[.agg #[.slice t115_0.p t115_0.len t115_0.cap, .int .i64 t115_1], .slice t56.p t56.len t56.cap, .slice t25.p t25.len t25.cap] h9 fun v4 h10 => ∃ t118a_0 : Sl, ∃ t118a_1 : Int, ∃ t118b : Int, v4 = .tuple #[.agg #[.slice t118a_0.p t118a_0.len t118a_0.cap, .int .i64 t118a_1], .int .i64 t118b] ∧ (
 New h10 (.cells #[.slice none 0 0, .int .i64 0] Ag) fun b2 h11 =>
 Store h11 (⟨b2, 0, none⟩ : Addr) (.slice t118a_0.p t118a_0.len t118a_0.cap) fun h12 =>
 Store h12 ((⟨b2, 0, none⟩ : Addr).add 1) (.int .i64 t118a_1) fun h13 =>
 AA A P BN #[.pointer t32a, .slice t56.p t56.len t56.cap, .slice t25.p t25.len t25.cap] h13 fun v5 h14 => ∃ t124 : Int, v5 = .int .i64 t124 ∧ (
 AA A P CY #[.pointer t32a, .string (⟨#[]⟩ : ByteArray), .string (⟨#[]⟩ : ByteArray), .int .i64 1000] h14 fun v6 h15 => ∃ t127a : Sl, ∃ t127b : Int, v6 = .tuple #[.slice t127a.p t127a.len t127a.cap, .int .i64 t127b] ∧ (
 PIf (t124 == t118b) (
 PIf (t127b == (0 : Int)) (
 AQ h15 (⟨b2, 0, none⟩ : Addr) fun t141 =>
 AA A P CR #[.slice t127a.p t127a.len t127a.cap, .slice t141.p t141.len t141.cap] h15 fun v7 h16 => ∃ t142 : Bool, v7 = .bool t142 ∧ (
 R (.bool t142) h16)) (
 R (.bool false) h15)) (
 R (.bool false) h15))))) fun K2 =>
 PIf (decide (((t56.len : Nat) : Int) > (0 : Int))) (
 Chk (((t56.len : Nat) : Int) ≠ 0) <|
 Chk (((t56.len : Nat) : Int) ≠ 0) <|
 Ba A P (Builtin.append_ #[AP, AP] AP #[.slice none 0 0, .slice t56.p t56.len t56.cap]) h8 fun v8 h17 => ∃ t71 : Sl, v8 = .slice t71.p t71.len t71.cap ∧ (
 Idx t71.p t71.len ((IntKind.wrap .i64 ((t27.tmod ((t56.len : Nat) : Int)) + ((t56.len : Nat) : Int))).tmod ((t56.len : Nat) : Int)) fun a =>
 AY h17 ((a.add (((IntKind.wrap .i64 ((t27.tmod ((t56.len : Nat) : Int)) + ((t56.len : Nat) : Int))).tmod ((t56.len : Nat) : Int)).toNat * 3)).add 2) fun t78 =>
 Idx t71.p t71.len ((IntKind.wrap .i64 ((t27.tmod ((t56.len : Nat) : Int)) + ((t56.len : Nat) : Int))).tmod ((t56.len : Nat) : Int)) fun a1 =>
 Store h17 ((a1.add (((IntKind.wrap .i64 ((t27.tmod ((t56.len : Nat) : Int)) + ((t56.len : Nat) : Int))).tmod ((t56.len : Nat) : Int)).toNat * 3)).add 2) (.bool (!t78)) fun h18 =>
 Join (fun (s2 : Unit) h19 =>
 AA A P BN #[.pointer t32a, .slice t71.p t71.len t71.cap, .slice t25.p t25.len t25.cap] h19 fun v9 h20 => ∃ t94 : Int, v9 = .int .i64 t94 ∧ (
 AA A P CY #[.pointer t32a, .string (⟨#[]⟩ : ByteArray), .string (⟨#[]⟩ : ByteArray), .int .i64 1000] h20 fun v10 h21 => ∃ t97a : Sl, ∃ t97b : Int, v10 = .tuple #[.slice t97a.p t97a.len t97a.cap, .int .i64 t97b] ∧ (
 Join (fun (r1 : Bool × Unit) h22 =>
 PIf r1.1 (
 R (.bool false) h22) (
 K2 () h22)) fun K4 =>
 PIf (t94 == (0 : Int)) (
 K4 (true, ()) h21) (
 PIf (t97b != (0 : Int)) (
 K4 (true, ()) h21) (
 AQ h21 (⟨b1, 0, none⟩ : Addr) fun t110 =>
 AA A P CR #[.slice t97a.p t97a.len t97a.cap, .slice t110.p t110.len t110.cap] h21 fun v11 h23 => ∃ t111 : Bool, v11 = .bool t111 ∧ (
 K4 ((!t111), ()) h23)))))) fun K3 =>
 Idx t71.p t71.len ((IntKind.wrap .i64 ((t27.tmod ((t56.len : Nat) : Int)) + ((t56.len : Nat) : Int))).tmod ((t56.len : Nat) : Int)) fun a2 =>
 AY h18 ((a2.add (((IntKind.wrap .i64 ((t27.tmod ((t56.len : Nat) : Int)) + ((t56.len : Nat) : Int))).tmod ((t56.len : Nat) : Int)).toNat * 3)).add 2) fun t86 =>
 PIf t86 (
 Idx t71.p t71.len ((IntKind.wrap .i64 ((t27.tmod ((t56.len : Nat) : Int)) + ((t56.len : Nat) : Int))).tmod ((t56.len : Nat) : Int)) fun a3 =>
 Store h18 ((a3.add (((IntKind.wrap .i64 ((t27.tmod ((t56.len : Nat) : Int)) + ((t56.len : Nat) : Int))).tmod ((t56.len : Nat) : Int)).toNat * 3)).add 1) (.string (⟨#[]⟩ : ByteArray)) fun h24 =>
 K3 () h24) (
 K3 () h18))) (
 K2 () h8))) fun K1 =>
 AA A P BN #[.pointer t32a, .slice none 0 0, .slice t21.p t21.len t21.cap] h6 fun v12 h25 => ∃ t46 : Int, v12 = .int .i64 t46 ∧ (
 PIf (t46 == (0 : Int)) (
 AQ h25 (⟨b1, 0, none⟩ : Addr) fun t49_0 =>
 AZ .i64 h25 ((⟨b1, 0, none⟩ : Addr).add 1) fun t49_1 =>
 AA A P Bj #[.agg #[.slice t49_0.p t49_0.len t49_0.cap, .int .i64 t49_1], .slice none 0 0, .slice t21.p t21.len t21.cap] h25 fun v13 h26 => ∃ t51a_0 : Sl, ∃ t51a_1 : Int, ∃ t51b : Int, v13 = .tuple #[.agg #[.slice t51a_0.p t51a_0.len t51a_0.cap, .int .i64 t51a_1], .int .i64 t51b] ∧ (
 Store h26 (⟨b1, 0, none⟩ : Addr) (.slice t51a_0.p t51a_0.len t51a_0.cap) fun h27 =>
 Store h27 ((⟨b1, 0, none⟩ : Addr).add 1) (.int .i64 t51a_1) fun h28 =>
 K1 () h28)) (
 K1 () h25)))) fun K =>
 PIf (t32b != (0 : Int)) (
 K (true, ()) h4) (
 K ((decide (((t23.len : Nat) : Int) > (60 : Int))), ()) h4)))))
def Lm : Ann := .seq .none (.seq .none (.seq (.seq .none (.cond (.seq .none .none) .none)) (.seq .none (.seq (.seq (.reg [(41, .one .bool)] [3, 4, 5, 6, 7, 8]) (.cond (.seq .none .none) .none)) (.seq .none (.seqJ [] [4, 5, 6, 7, 9] (.seq .none (.cond .none .none)) (.seq .none (.seqJ [] [5, 7, 9, 10] (.seq .none (.cond (.seq .none (.seq .none (.seq .none (.seqJ [] [5, 7, 9, 10, 12] (.seq .none (.cond .none .none)) (.seq .none (.seq .none (.seq (.reg [(113, .one .bool)] [5, 7, 9, 10]) (.cond (.seq .none .none) .none)))))))) .none)) (.seq .none (.seq .none (.seq .none (.seq .none .none))))))))))))
theorem L6 (A : Amb) (x_0 : Sl) (x_1 : Sl) (x_2 : Sl) (x_3 : Int) (h : Heap) (R : Value → Heap → Prop) : EX A x_0 x_1 x_2 x_3 h R = AX A P Dc Lm [.agg #[.slice x_0.p x_0.len x_0.cap, .slice x_1.p x_1.len x_1.cap, .slice x_2.p x_2.len x_2.cap, .int .i64 x_3]] h R := by kernel_rfl
theorem Kw {A : Amb} {x_0 : Sl} {x_1 : Sl} {x_2 : Sl} {x_3 : Int} {h : Heap} {R : Value → Heap → Prop} (H : EX A x_0 x_1 x_2 x_3 h R) : AA A P Dc #[.agg #[.slice x_0.p x_0.len x_0.cap, .slice x_1.p x_1.len x_1.cap, .slice x_2.p x_2.len x_2.cap, .int .i64 x_3]] h R :=
 AL mixed (L6 A x_0 x_1 x_2 x_3 h R ▸ H)
end Go.Lf.G

