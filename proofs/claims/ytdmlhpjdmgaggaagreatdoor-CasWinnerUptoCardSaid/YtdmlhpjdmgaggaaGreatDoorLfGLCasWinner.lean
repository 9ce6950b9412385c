/-
 The law CasWinner as a formula.
-/
import Derived.Test.YtdmlhpjdmgaggaaGreatDoorLfG1
set_option linter.unusedVariables false
set_option linter.unusedSimpArgs false
set_option linter.unusedVariables false
set_option maxRecDepth 100000
namespace Go.Lf.G
open Go
def E8 (A : Amb) (first : Sl) (keys : Sl) (vals : Sl) (h : Heap) (R : Value → Heap → Prop) : Prop :=
 AA A P Ca #[] h fun v h1 => ∃ t17 : Bool, v = .bool t17 ∧ (
 PIf (!t17) (
 R (.bool false) h1) (
 AA A P Gu #[] h1 fun v1 h2 => ∃ t20 : Option Addr, v1 = .pointer t20 ∧ (
 AA A P Eb #[.pointer t20] h2 fun v2 h3 => ∃ t21a : Option Addr, ∃ t21b : Int, v2 = .tuple #[.pointer t21a, .int .i64 t21b] ∧ (
 PIf (t21b != (0 : Int)) (
 R (.bool false) h3) (
 New h3 (.cells #[.slice none 0 0, .int .i64 0] Ag) fun b h4 =>
 Join (fun (s : Unit) h5 =>
 Join (fun (r : Bool × Unit) h6 =>
 PIf r.1 (
 R (.bool true) h6) (
 AQ h6 (⟨b, 0, none⟩ : Addr) fun t59_0 =>
 Idx keys.p keys.len 0 fun a =>
 AC h6 (a.add ((0 : Int).toNat * 1)) fun t62 =>
 AA A P Cf #[.agg #[.slice t59_0.p t59_0.len t59_0.cap], .string t62] h6 fun v3 h7 => ∃ t63a : ByteArray, ∃ t63b : Bool, v3 = .tuple #[.string t63a, .bool t63b] ∧ (
 AQ h7 (⟨b, 0, none⟩ : Addr) fun t66_0 =>
 AZ .i64 h7 ((⟨b, 0, none⟩ : Addr).add 1) fun t66_1 =>
 AA A P EW #[.agg #[.slice t66_0.p t66_0.len t66_0.cap, .int .i64 t66_1], .slice keys.p keys.len keys.cap] h7 fun v4 h8 => ∃ t68 : Sl, v4 = .slice t68.p t68.len t68.cap ∧ (
 Loop (fun K2 (s1 : Int × Int × Unit) h9 =>
 PIf (decide (s1.2.1 < ((vals.len : Nat) : Int))) (
 Join (fun (s2 : Int × Unit) h10 =>
 K2 (s2.1, (IntKind.wrap .i64 (s1.2.1 + (1 : Int))), ()) h10) fun K3 =>
 Idx vals.p vals.len s1.2.1 fun a1 =>
 AC h9 (a1.add (s1.2.1.toNat * 1)) fun t75 =>
 New h9 (.cells #[.int .u8 (IntKind.wrap .u8 s1.2.1), .int .u8 (IntKind.wrap .u8 (s1.2.1.fdiv ((2 : Int) ^ (8 : Nat))))] Cx) fun b1 h11 =>
 Ba A P (convert Cq Ad (.slice (some (⟨b1, 0, none⟩ : Addr)) 2 2)) h11 fun v5 h12 => ∃ t83 : ByteArray, v5 = .string t83 ∧ (
 Chk ((((⟨#[120]⟩ : ByteArray).size + t83.size : Nat) : Int) ≤ IntKind.i64.max) <|
 Chk (((t75.size + ((⟨#[120]⟩ : ByteArray) ++ t83).size : Nat) : Int) ≤ IntKind.i64.max) <|
 Join (fun (r1 : Bool × Unit) h13 =>
 PIf r1.1 (
 K3 (s1.1, ()) h13) (
 Idx keys.p keys.len 0 fun a2 =>
 AC h13 (a2.add ((0 : Int).toNat * 1)) fun t98 =>
 New h13 (.cells #[.string t98, .string (t75 ++ ((⟨#[120]⟩ : ByteArray) ++ t83)), .bool false] AO) fun b2 h14 =>
 AA A P BN #[.pointer t21a, .slice t68.p t68.len t68.cap, .slice (some (⟨b2, 0, none⟩ : Addr)) 1 1] h14 fun v6 h15 => ∃ t102 : Int, v6 = .int .i64 t102 ∧ (
 PIf (t102 == (0 : Int)) (
 K3 ((IntKind.wrap .i64 (s1.1 + (1 : Int))), ()) h15) (
 PIf (t102 != (100 : Int)) (
 R (.bool false) h15) (
 K3 (s1.1, ()) h15))))) fun K4 =>
 PIf (sEq (t75 ++ ((⟨#[120]⟩ : ByteArray) ++ t83)) t63a) (
 K4 (true, ()) h12) (
 K4 ((decide (((t75 ++ ((⟨#[120]⟩ : ByteArray) ++ t83)).size : Int) > (8192 : Int))), ()) h12))) (
 R (.bool (decide (s1.1 ≤ (1 : Int)))) h9)) (0, 0, ()) h8)))) fun K1 =>
 PIf (((keys.len : Nat) : Int) == (0 : Int)) (
 K1 (true, ()) h5) (
 PIf (decide (((keys.len : Nat) : Int) > (60 : Int))) (
 K1 (true, ()) h5) (
 Idx keys.p keys.len 0 fun a3 =>
 AC h5 (a3.add ((0 : Int).toNat * 1)) fun t47 =>
 PIf (sEq t47 (⟨#[]⟩ : ByteArray)) (
 K1 (true, ()) h5) (
 Idx keys.p keys.len 0 fun a4 =>
 AC h5 (a4.add ((0 : Int).toNat * 1)) fun t53 =>
 K1 ((decide ((t53.size : Int) > (64 : Int))), ()) h5)))) fun K =>
 AA A P BN #[.pointer t21a, .slice none 0 0, .slice first.p first.len first.cap] h4 fun v7 h16 => ∃ t28 : Int, v7 = .int .i64 t28 ∧ (
 PIf (t28 == (0 : Int)) (
 AQ h16 (⟨b, 0, none⟩ : Addr) fun t31_0 =>
 AZ .i64 h16 ((⟨b, 0, none⟩ : Addr).add 1) fun t31_1 =>
 AA A P Bj #[.agg #[.slice t31_0.p t31_0.len t31_0.cap, .int .i64 t31_1], .slice none 0 0, .slice first.p first.len first.cap] h16 fun v8 h17 => ∃ t33a_0 : Sl, ∃ t33a_1 : Int, ∃ t33b : Int, v8 = .tuple #[.agg #[.slice t33a_0.p t33a_0.len t33a_0.cap, .int .i64 t33a_1], .int .i64 t33b] ∧ (
 Store h17 (⟨b, 0, none⟩ : Addr) (.slice t33a_0.p t33a_0.len t33a_0.cap) fun h18 =>
 Store h18 ((⟨b, 0, none⟩ : Addr).add 1) (.int .i64 t33a_1) fun h19 =>
 K () h19)) (
 K () h16)))))))
def MF : Ann := .seq .none (.seq (.seq .none (.cond (.seq .none .none) .none)) (.seq .none (.seq (.seq .none (.cond (.seq .none .none) .none)) (.seq .none (.seqJ [] [1, 2, 7, 9] (.seq .none (.cond .none .none)) (.seq (.seq (.reg [(56, .one .bool)] [1, 2, 7, 9]) (.cond (.seq .none .none) .none)) (.seq .none (.seq .none (.seq .none (.seq (.seq .none (.block (.loop [(13, .one (.int .i64)), (71, .one (.int .i64))] [1, 7, 10, 12, 69, 70] (.seq .none (.seq (.cond .none .none) (.seq (.blockJ [(13, .one (.int .i64))] [1, 7, 10, 12, 69, 70, 71] (.seq .none (.seq .none (.seq (.seq (.reg [(93, .one .bool)] [1, 7, 10, 12, 13, 15, 69, 70, 71]) (.cond .none .none)) (.seq .none (.seq .none (.cond .none (.seq .none (.cond (.seq .none .none) .none))))))))) .none)))))) (.seq .none .none)))))))))))
theorem Mf (A : Amb) (first : Sl) (keys : Sl) (vals : Sl) (h : Heap) (R : Value → Heap → Prop) : E8 A first keys vals h R = AX A P E9 MF [.slice first.p first.len first.cap, .slice keys.p keys.len keys.cap, .slice vals.p vals.len vals.cap] h R := by kernel_rfl
theorem Li {A : Amb} {first : Sl} {keys : Sl} {vals : Sl} {h : Heap} {R : Value → Heap → Prop} (H : E8 A first keys vals h R) : AA A P E9 #[.slice first.p first.len first.cap, .slice keys.p keys.len keys.cap, .slice vals.p vals.len vals.cap] h R :=
 AL mixed (Mf A first keys vals h R ▸ H)
end Go.Lf.G

