/-
 The law CasScans as a formula.
-/
import Derived.Test.YtdmlhpjdmgaggaaGreatDoorLfG1
set_option linter.unusedVariables false
set_option linter.unusedSimpArgs false
set_option linter.unusedVariables false
set_option maxRecDepth 100000
namespace Go.Lf.G
open Go
def FD (A : Amb) (batch : Sl) (vprefix : ByteArray) (h : Heap) (R : Value → Heap → Prop) : Prop :=
 AA A P Ca #[] h fun v h1 => ∃ t13 : Bool, v = .bool t13 ∧ (
 PIf (!t13) (
 R (.bool false) h1) (
 AA A P Gu #[] h1 fun v1 h2 => ∃ t16 : Option Addr, v1 = .pointer t16 ∧ (
 AA A P Eb #[.pointer t16] h2 fun v2 h3 => ∃ t17a : Option Addr, ∃ t17b : Int, v2 = .tuple #[.pointer t17a, .int .i64 t17b] ∧ (
 PIf (t17b != (0 : Int)) (
 R (.bool false) h3) (
 AA A P BN #[.pointer t17a, .slice none 0 0, .slice batch.p batch.len batch.cap] h3 fun v3 h4 => ∃ t24 : Int, v3 = .int .i64 t24 ∧ (
 AA A P CY #[.pointer t17a, .string (⟨#[]⟩ : ByteArray), .string (⟨#[]⟩ : ByteArray), .int .i64 1000] h4 fun v4 h5 => ∃ t27a : Sl, ∃ t27b : Int, v4 = .tuple #[.slice t27a.p t27a.len t27a.cap, .int .i64 t27b] ∧ (
 AA A P CY #[.pointer t17a, .string vprefix, .string (⟨#[]⟩ : ByteArray), .int .i64 1000] h5 fun v5 h6 => ∃ t33a : Sl, ∃ t33b : Int, v5 = .tuple #[.slice t33a.p t33a.len t33a.cap, .int .i64 t33b] ∧ (
 Loop (fun K (s : Int × Int × Unit) h7 =>
 PIf (decide (s.2.1 < ((t27a.len : Nat) : Int))) (
 Join (fun (s1 : Int × Unit) h8 =>
 K (s1.1, (IntKind.wrap .i64 (s.2.1 + (1 : Int))), ()) h8) fun K1 =>
 Idx t27a.p t27a.len s.2.1 fun a =>
 AC h7 (a.add (s.2.1.toNat * 3)) fun t41_0 =>
 AC h7 ((a.add (s.2.1.toNat * 3)).add 1) fun t41_1 =>
 AY h7 ((a.add (s.2.1.toNat * 3)).add 2) fun t41_2 =>
 New h7 (.cells #[.string (⟨#[]⟩ : ByteArray), .string (⟨#[]⟩ : ByteArray), .bool false] AO) fun b h9 =>
 Store h9 (⟨b, 0, none⟩ : Addr) (.string t41_0) fun h10 =>
 Store h10 ((⟨b, 0, none⟩ : Addr).add 1) (.string t41_1) fun h11 =>
 Store h11 ((⟨b, 0, none⟩ : Addr).add 2) (.bool t41_2) fun h12 =>
 Join (fun (r : Bool × Unit) h13 =>
 PIf r.1 (
 Join (fun (r1 : Bool × Unit) h14 =>
 PIf r1.1 (
 R (.bool false) h14) (
 K1 ((IntKind.wrap .i64 (s.1 + (1 : Int))), ()) h14)) fun K3 =>
 PIf (decide (s.1 ≥ ((t33a.len : Nat) : Int))) (
 K3 (true, ()) h13) (
 Idx t33a.p t33a.len s.1 fun a1 =>
 AC h13 (a1.add (s.1.toNat * 3)) fun t65_0 =>
 AC h13 ((a1.add (s.1.toNat * 3)).add 1) fun t65_1 =>
 AY h13 ((a1.add (s.1.toNat * 3)).add 2) fun t65_2 =>
 AC h13 (⟨b, 0, none⟩ : Addr) fun t66_0 =>
 AC h13 ((⟨b, 0, none⟩ : Addr).add 1) fun t66_1 =>
 AY h13 ((⟨b, 0, none⟩ : Addr).add 2) fun t66_2 =>
 Ba A P (do eqGuard .neq AO (.tmp 65) (.tmp 66) (.agg #[.string t65_0, .string t65_1, .bool t65_2]) (.agg #[.string t66_0, .string t66_1, .bool t66_2]); binOp .neq AO (.agg #[.string t65_0, .string t65_1, .bool t65_2]) (.agg #[.string t66_0, .string t66_1, .bool t66_2])) h13 fun v6 h15 => ∃ t67 : Bool, v6 = .bool t67 ∧ (
 K3 (t67, ()) h15))) (
 K1 (s.1, ()) h13)) fun K2 =>
 AC h12 (⟨b, 0, none⟩ : Addr) fun t43 =>
 PIf (decide ((t43.size : Int) ≥ (vprefix.size : Int))) (
 AC h12 (⟨b, 0, none⟩ : Addr) fun t50 =>
 Chk ((0 : Int) ≤ (vprefix.size : Int) ∧ (vprefix.size : Int) ≤ ((t50.size : Nat) : Int)) <|
 K2 ((sEq (t50.extract 0 ((vprefix.size : Int).toNat)) vprefix), ()) h12) (
 K2 (false, ()) h12)) (
 PIf (t27b == (0 : Int)) (
 PIf (t33b == (0 : Int)) (
 R (.bool (s.1 == ((t33a.len : Nat) : Int))) h7) (
 R (.bool false) h7)) (
 R (.bool false) h7))) (0, 0, ()) h6))))))))
def NK : Ann := .seq .none (.seq (.seq .none (.cond (.seq .none .none) .none)) (.seq .none (.seq (.seq .none (.cond (.seq .none .none) .none)) (.seq .none (.seq .none (.seq .none (.seq .none (.seq (.seq .none (.block (.loop [(10, .one (.int .i64)), (38, .one (.int .i64))] [1, 6, 8, 9, 36, 37] (.seq .none (.seq (.cond .none .none) (.seq (.blockJ [(10, .one (.int .i64))] [1, 6, 8, 9, 36, 37, 38] (.seq .none (.seq (.reg [(56, .one .bool)] [1, 6, 8, 9, 10, 12, 36, 37, 38]) (.cond (.seq (.seq (.reg [(68, .one .bool)] [1, 6, 8, 9, 10, 36, 37, 38]) (.cond (.seq .none .none) .none)) .none) .none)))) .none)))))) (.seq .none .none)))))))))
theorem Nq (A : Amb) (batch : Sl) (vprefix : ByteArray) (h : Heap) (R : Value → Heap → Prop) : FD A batch vprefix h R = AX A P FL NK [.slice batch.p batch.len batch.cap, .string vprefix] h R := by kernel_rfl
theorem Mm {A : Amb} {batch : Sl} {vprefix : ByteArray} {h : Heap} {R : Value → Heap → Prop} (H : FD A batch vprefix h R) : AA A P FL #[.slice batch.p batch.len batch.cap, .string vprefix] h R :=
 AL mixed (Nq A batch vprefix h R ▸ H)
end Go.Lf.G

