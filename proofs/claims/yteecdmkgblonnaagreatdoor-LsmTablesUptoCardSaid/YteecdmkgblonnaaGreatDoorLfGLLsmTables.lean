/-
 The law LsmTables as a formula.
-/
import Derived.Test.YteecdmkgblonnaaGreatDoorLfG1
set_option linter.unusedVariables false
set_option linter.unusedSimpArgs false
set_option linter.unusedVariables false
set_option maxRecDepth 100000
namespace Go.Lf.G
open Go
def F_wherrylaw09_LsmTables (A : Amb) (calls : Sl) (other : ByteArray) (h : Heap) (R : Value → Heap → Prop) : Prop :=
 HCalls A P f_wherrylaw09_awake #[] h fun v h1 => ∃ t16 : Bool, v = .bool t16 ∧ (
 PIf (!t16) (
 R (.bool false) h1) (
 PIf (decide (((calls.len : Nat) : Int) > (100 : Int))) (
 R (.bool true) h1) (
 HCalls A P f_box_New #[] h1 fun v1 h2 => ∃ t21 : Option Addr, v1 = .pointer t21 ∧ (
 Join (fun (r : Bool × Unit) h3 =>
 PIf r.1 (
 R (.bool false) h3) (
 HCalls A P f_lsm_Open #[.pointer t21] h3 fun v2 h4 => ∃ t33a : Option Addr, ∃ t33b : Int, v2 = .tuple #[.pointer t33a, .int .i64 t33b] ∧ (
 PIf (t33b != (0 : Int)) (
 R (.bool false) h4) (
 Loop (fun K1 (s : Int × Unit) h5 =>
 PIf (decide (s.1 < ((calls.len : Nat) : Int))) (
 Join (fun (s1 : Unit) h6 =>
 K1 ((IntKind.wrap .i64 (s.1 + (1 : Int))), ()) h6) fun K2 =>
 Idx calls.p calls.len s.1 fun a =>
 LoadI .i64 h5 (a.add (s.1.toNat * 6)) fun t43_0 =>
 LoadL h5 ((a.add (s.1.toNat * 6)).add 1) fun t43_1 =>
 LoadS h5 ((a.add (s.1.toNat * 6)).add 2) fun t43_2 =>
 LoadS h5 ((a.add (s.1.toNat * 6)).add 3) fun t43_3 =>
 LoadI .i64 h5 ((a.add (s.1.toNat * 6)).add 4) fun t43_4 =>
 LoadL h5 ((a.add (s.1.toNat * 6)).add 5) fun t43_5 =>
 New h5 (.cells #[.int .i64 0, .slice none 0 0, .string (⟨#[]⟩ : ByteArray), .string (⟨#[]⟩ : ByteArray), .int .i64 0, .slice none 0 0] t_wherrylaw09_Call) fun b h7 =>
 Store h7 (⟨b, 0, none⟩ : Addr) (.int .i64 t43_0) fun h8 =>
 Store h8 ((⟨b, 0, none⟩ : Addr).add 1) (.slice t43_1.p t43_1.len t43_1.cap) fun h9 =>
 Store h9 ((⟨b, 0, none⟩ : Addr).add 2) (.string t43_2) fun h10 =>
 Store h10 ((⟨b, 0, none⟩ : Addr).add 3) (.string t43_3) fun h11 =>
 Store h11 ((⟨b, 0, none⟩ : Addr).add 4) (.int .i64 t43_4) fun h12 =>
 Store h12 ((⟨b, 0, none⟩ : Addr).add 5) (.slice t43_5.p t43_5.len t43_5.cap) fun h13 =>
 LoadI .i64 h13 (⟨b, 0, none⟩ : Addr) fun t45 =>
 PIf (t45 == (0 : Int)) (
 LoadL h13 ((⟨b, 0, none⟩ : Addr).add 1) fun t49 =>
 HCalls A P f_lsm_DB_Write #[.pointer t33a, .slice t49.p t49.len t49.cap] h13 fun v3 h14 => ∃ t50 : Int, v3 = .int .i64 t50 ∧ (
 K2 () h14)) (
 HCalls A P f_lsm_DB_Scan #[.pointer t33a, .string (⟨#[]⟩ : ByteArray), .string (⟨#[]⟩ : ByteArray), .int .i64 1048576] h13 fun v4 h15 => ∃ t53a : Sl, ∃ t53b : Int, v4 = .tuple #[.slice t53a.p t53a.len t53a.cap, .int .i64 t53b] ∧ (
 HCalls A P f_lsm_DB_Flush #[.pointer t33a] h15 fun v5 h16 => ∃ t57 : Int, v5 = .int .i64 t57 ∧ (
 Join (fun (s2 : Int × Unit) h17 =>
 HCalls A P f_lsm_DB_Scan #[.pointer t33a, .string (⟨#[]⟩ : ByteArray), .string (⟨#[]⟩ : ByteArray), .int .i64 1048576] h17 fun v6 h18 => ∃ t69a : Sl, ∃ t69b : Int, v6 = .tuple #[.slice t69a.p t69a.len t69a.cap, .int .i64 t69b] ∧ (
 Join (fun (r1 : Bool × Unit) h19 =>
 PIf r1.1 (
 R (.bool false) h19) (
 K2 () h19)) fun K4 =>
 PIf (t53b != (0 : Int)) (
 K4 (true, ()) h18) (
 PIf (s2.1 != (0 : Int)) (
 K4 (true, ()) h18) (
 PIf (t69b != (0 : Int)) (
 K4 (true, ()) h18) (
 HCalls A P f_wherryref05_Same #[.slice t53a.p t53a.len t53a.cap, .slice t69a.p t69a.len t69a.cap] h18 fun v7 h20 => ∃ t85 : Bool, v7 = .bool t85 ∧ (
 K4 ((!t85), ()) h20)))))) fun K3 =>
 Join (fun (r2 : Bool × Unit) h21 =>
 PIf r2.1 (
 HCalls A P f_lsm_DB_Compact #[.pointer t33a] h21 fun v8 h22 => ∃ t66 : Int, v8 = .int .i64 t66 ∧ (
 K3 (t66, ()) h22)) (
 K3 (t57, ()) h21)) fun K5 =>
 LoadI .i64 h16 (⟨b, 0, none⟩ : Addr) fun t59 =>
 PIf (t59 == (4 : Int)) (
 K5 ((t57 == (0 : Int)), ()) h16) (
 K5 (false, ()) h16))))) (
 HCalls A P f_box_Box_Read #[.pointer t21, .string (⟨#[122, 111, 116, 104, 101, 114]⟩ : ByteArray)] h5 fun v9 h23 => ∃ t91a : ByteArray, ∃ t91b : Int, v9 = .tuple #[.string t91a, .int .i64 t91b] ∧ (
 PIf (t91b == (0 : Int)) (
 R (.bool (sEq t91a other)) h23) (
 R (.bool false) h23)))) (0, ()) h4)))) fun K =>
 HCalls A P f_box_Box_Append #[.pointer t21, .string (⟨#[122, 111, 116, 104, 101, 114]⟩ : ByteArray), .string other] h2 fun v10 h24 => ∃ t24 : Int, v10 = .int .i64 t24 ∧ (
 PIf (t24 != (0 : Int)) (
 K (true, ()) h24) (
 HCalls A P f_box_Box_Sync #[.pointer t21, .string (⟨#[122, 111, 116, 104, 101, 114]⟩ : ByteArray)] h24 fun v11 h25 => ∃ t28 : Int, v11 = .int .i64 t28 ∧ (
 K ((t28 != (0 : Int)), ()) h25)))))))
def a_wherrylaw09_LsmTables : Ann := .seq .none (.seq (.seq .none (.cond (.seq .none .none) .none)) (.seq (.seq .none (.cond (.seq .none .none) .none)) (.seq .none (.seq (.seq (.reg [(30, .one .bool)] [0, 1, 5]) (.cond (.seq .none .none) .none)) (.seq .none (.seq (.seq .none (.cond (.seq .none .none) .none)) (.seq (.seq .none (.block (.loop [(40, .one (.int .i64))] [1, 5, 6, 38, 39] (.seq .none (.seq (.cond .none .none) (.seq (.blockJ [] [1, 5, 6, 38, 39, 40] (.seq .none (.seq (.seq .none (.cond (.seq .none .none) .none)) (.seq .none (.seq .none (.seqJ [(12, .one (.int .i64))] [1, 5, 6, 10, 11, 38, 39, 40] (.seq (.reg [(64, .one .bool)] [1, 5, 6, 10, 11, 12, 38, 39, 40]) (.cond .none .none)) (.seq .none (.seq (.reg [(87, .one .bool)] [1, 5, 6, 38, 39, 40]) (.cond (.seq .none .none) .none))))))))) .none)))))) (.seq .none (.seq .none .none)))))))))
theorem e_wherrylaw09_LsmTables (A : Amb) (calls : Sl) (other : ByteArray) (h : Heap) (R : Value → Heap → Prop) : F_wherrylaw09_LsmTables A calls other h R = semFun A P f_wherrylaw09_LsmTables a_wherrylaw09_LsmTables [.slice calls.p calls.len calls.cap, .string other] h R := by kernel_rfl
theorem ok_wherrylaw09_LsmTables {A : Amb} {calls : Sl} {other : ByteArray} {h : Heap} {R : Value → Heap → Prop} (H : F_wherrylaw09_LsmTables A calls other h R) : HCalls A P f_wherrylaw09_LsmTables #[.slice calls.p calls.len calls.cap, .string other] h R :=
 semFun_sound mixed (e_wherrylaw09_LsmTables A calls other h R ▸ H)
end Go.Lf.G

