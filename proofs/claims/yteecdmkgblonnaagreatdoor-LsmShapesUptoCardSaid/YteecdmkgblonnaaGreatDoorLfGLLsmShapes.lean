/-
 The law LsmShapes as a formula.
-/
import Derived.Test.YteecdmkgblonnaaGreatDoorLfG1
set_option linter.unusedVariables false
set_option linter.unusedSimpArgs false
set_option linter.unusedVariables false
set_option maxRecDepth 100000
namespace Go.Lf.G
open Go
def F_wherrylaw09_LsmShapes (A : Amb) (sizes : Sl) (h : Heap) (R : Value → Heap → Prop) : Prop :=
 HCalls A P f_wherrylaw09_awake #[] h fun v h1 => ∃ t14 : Bool, v = .bool t14 ∧ (
 PIf (!t14) (
 R (.bool false) h1) (
 PIf (decide (((sizes.len : Nat) : Int) > (100 : Int))) (
 R (.bool true) h1) (
 HCalls A P f_box_New #[] h1 fun v1 h2 => ∃ t20 : Option Addr, v1 = .pointer t20 ∧ (
 HCalls A P f_lsm_Open #[.pointer t20] h2 fun v2 h3 => ∃ t21a : Option Addr, ∃ t21b : Int, v2 = .tuple #[.pointer t21a, .int .i64 t21b] ∧ (
 PIf (t21b != (0 : Int)) (
 R (.bool false) h3) (
 New h3 (.map #[] 0) fun b h4 =>
 Loop (fun K (s : (Option Nat) × Int × Unit) h5 =>
 PIf (decide (s.2.1 < ((sizes.len : Nat) : Int))) (
 Idx sizes.p sizes.len s.2.1 fun a =>
 LoadI .i64 h5 (a.add (s.2.1.toNat * 1)) fun t33 =>
 New h5 (.cells #[.int .u8 (IntKind.wrap .u8 (s.2.1.tmod (50 : Int)))] t_uint8) fun b1 h6 =>
 RunK A P (convert t_sl_uint8 t_string (.slice (some (⟨b1, 0, none⟩ : Addr)) 1 1)) h6 fun v3 h7 => ∃ t42 : ByteArray, v3 = .string t42 ∧ (
 Chk ((((⟨#[107]⟩ : ByteArray).size + t42.size : Nat) : Int) ≤ IntKind.i64.max) <|
 RunK A P (Instr.makeSlice t_sl_uint8 (.int .i64 ((IntKind.wrap .i64 ((t33.tmod (3000 : Int)) + (3000 : Int))).tmod (3000 : Int))) (.int .i64 ((IntKind.wrap .i64 ((t33.tmod (3000 : Int)) + (3000 : Int))).tmod (3000 : Int)))) h7 fun v4 h8 => ∃ t47 : Sl, v4 = .slice t47.p t47.len t47.cap ∧ (
 RunK A P (convert t_sl_uint8 t_string (.slice t47.p t47.len t47.cap)) h8 fun v5 h9 => ∃ t48 : ByteArray, v5 = .string t48 ∧ (
 New h9 (.cells #[.string ((⟨#[107]⟩ : ByteArray) ++ t42), .string t48, .bool false] t_api_Pair) fun b2 h10 =>
 HCalls A P f_lsm_DB_Write #[.pointer t21a, .slice (some (⟨b2, 0, none⟩ : Addr)) 1 1] h10 fun v6 h11 => ∃ t51 : Int, v6 = .int .i64 t51 ∧ (
 PIf (t51 != (0 : Int)) (
 R (.bool false) h11) (
 RunU A P (Instr.mapUpdate t_map_string_int (.map s.1) (.string ((⟨#[107]⟩ : ByteArray) ++ t42)) (.int .i64 (IntKind.wrap .i64 ((((⟨#[107]⟩ : ByteArray) ++ t42).size : Int) + ((IntKind.wrap .i64 ((t33.tmod (3000 : Int)) + (3000 : Int))).tmod (3000 : Int)))))) h11 fun h12 => (
 RunK A P (Instr.range t_map_string_int (.map s.1)) h12 fun v7 h13 => ∃ b3 : Nat, v7 = .pointer (some (⟨b3, 0, none⟩ : Addr)) ∧ (
 Loop (fun K1 (s1 : Int × Unit) h14 =>
 RunK A P (Instr.next (.pointer (some (⟨b3, 0, none⟩ : Addr))) false t_) h14 fun v8 h15 => (v8 = .tuple #[.bool false] ∧ (
 Join (fun (s2 : (Option Nat) × Unit) h17 =>
 HCalls A P f_lsm_DB_Shape #[.pointer t21a] h17 fun v10 h18 => ∃ t73a : Int, ∃ t73b : Int, v10 = .tuple #[.int .i64 t73a, .int .i64 t73b] ∧ (
 Join (fun (r : Bool × Unit) h19 =>
 PIf r.1 (
 R (.bool false) h19) (
 K (s2.1, (IntKind.wrap .i64 (s.2.1 + (1 : Int))), ()) h19)) fun K3 =>
 RunK A P (Builtin.len_ #[t_map_string_int] t_int #[.map s2.1]) h18 fun v11 h20 => ∃ t78 : Int, v11 = .int .i64 t78 ∧ (
 PIf (t73a != t78) (
 K3 (true, ()) h20) (
 K3 ((decide (t73b > (3 : Int))), ()) h20)))) fun K2 =>
 PIf (decide (s1.1 ≥ (4096 : Int))) (
 New h15 (.map #[] 0) fun b4 h21 =>
 K2 ((some b4), ()) h21) (
 K2 (s.1, ()) h15))) ∨ (∃ k u : Value, v8 = .tuple #[.bool true, k, u] ∧ (
 RunK A P (Instr.entry (.pointer (some (⟨b3, 0, none⟩ : Addr)))) h15 fun v12 h22 => ∃ k2 u2 : Value, v12 = .tuple #[k2, u2] ∧ ∃ t63_1_1 : Int, u2 = .int .i64 t63_1_1 ∧ (
 K1 ((IntKind.wrap .i64 (s1.1 + t63_1_1)), ()) h22)))) (0, ()) h13)))))))) (
 R (.bool true) h5)) ((some b), 0, ()) h4))))))
def a_wherrylaw09_LsmShapes : Ann := .seq .none (.seq (.seq .none (.cond (.seq .none .none) .none)) (.seq (.seq .none (.cond (.seq .none .none) .none)) (.seq .none (.seq (.seq .none (.cond (.seq .none .none) .none)) (.seq .none (.seq (.seq .none (.block (.loop [(5, .one .map), (29, .one (.int .i64))] [3, 27, 28] (.seq .none (.seq (.cond .none .none) (.seq (.block (.seq .none (.seq .none (.seq .none (.seq (.seq .none (.cond (.seq .none .none) .none)) (.seq .none (.seq .none (.seq (.seq .none (.block (.loop [(9, .one (.int .i64))] [3, 5, 27, 28, 29, 60] (.seq .none (.seq (.cond .none .none) (.block (.seq .none .none))))))) (.seqJ [(5, .one .map)] [3, 27, 28, 29] (.seq .none (.cond .none .none)) (.seq .none (.seq (.reg [(83, .one .bool)] [3, 5, 27, 28, 29]) (.cond (.seq .none .none) .none)))))))))))) .none)))))) (.seq .none .none)))))))
theorem e_wherrylaw09_LsmShapes (A : Amb) (sizes : Sl) (h : Heap) (R : Value → Heap → Prop) : F_wherrylaw09_LsmShapes A sizes h R = semFun A P f_wherrylaw09_LsmShapes a_wherrylaw09_LsmShapes [.slice sizes.p sizes.len sizes.cap] h R := by kernel_rfl
theorem ok_wherrylaw09_LsmShapes {A : Amb} {sizes : Sl} {h : Heap} {R : Value → Heap → Prop} (H : F_wherrylaw09_LsmShapes A sizes h R) : HCalls A P f_wherrylaw09_LsmShapes #[.slice sizes.p sizes.len sizes.cap] h R :=
 semFun_sound mixed (e_wherrylaw09_LsmShapes A sizes h R ▸ H)
end Go.Lf.G

