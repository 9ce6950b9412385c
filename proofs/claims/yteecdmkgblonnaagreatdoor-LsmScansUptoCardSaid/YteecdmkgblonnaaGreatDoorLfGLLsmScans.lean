/-
 The law LsmScans as a formula.
-/
import Derived.Test.YteecdmkgblonnaaGreatDoorLfG1
set_option linter.unusedVariables false
set_option linter.unusedSimpArgs false
set_option linter.unusedVariables false
set_option maxRecDepth 100000
namespace Go.Lf.G
open Go
def F_wherrylaw09_LsmScans (A : Amb) (calls : Sl) (most : Int) (h : Heap) (R : Value → Heap → Prop) : Prop :=
 HCalls A P f_wherrylaw09_awake #[] h fun v h1 => ∃ t14 : Bool, v = .bool t14 ∧ (
 PIf (!t14) (
 R (.bool false) h1) (
 Join (fun (r : Bool × Unit) h2 =>
 PIf r.1 (
 R (.bool true) h2) (
 HCalls A P f_box_New #[] h2 fun v1 h3 => ∃ t24 : Option Addr, v1 = .pointer t24 ∧ (
 HCalls A P f_lsm_Open #[.pointer t24] h3 fun v2 h4 => ∃ t25a : Option Addr, ∃ t25b : Int, v2 = .tuple #[.pointer t25a, .int .i64 t25b] ∧ (
 PIf (t25b != (0 : Int)) (
 R (.bool false) h4) (
 Loop (fun K1 (s : Int × Unit) h5 =>
 PIf (decide (s.1 < ((calls.len : Nat) : Int))) (
 Idx calls.p calls.len s.1 fun a =>
 LoadI .i64 h5 (a.add (s.1.toNat * 6)) fun t35_0 =>
 LoadL h5 ((a.add (s.1.toNat * 6)).add 1) fun t35_1 =>
 LoadS h5 ((a.add (s.1.toNat * 6)).add 2) fun t35_2 =>
 LoadS h5 ((a.add (s.1.toNat * 6)).add 3) fun t35_3 =>
 LoadI .i64 h5 ((a.add (s.1.toNat * 6)).add 4) fun t35_4 =>
 LoadL h5 ((a.add (s.1.toNat * 6)).add 5) fun t35_5 =>
 New h5 (.cells #[.int .i64 0, .slice none 0 0, .string (⟨#[]⟩ : ByteArray), .string (⟨#[]⟩ : ByteArray), .int .i64 0, .slice none 0 0] t_wherrylaw09_Call) fun b h6 =>
 Store h6 (⟨b, 0, none⟩ : Addr) (.int .i64 t35_0) fun h7 =>
 Store h7 ((⟨b, 0, none⟩ : Addr).add 1) (.slice t35_1.p t35_1.len t35_1.cap) fun h8 =>
 Store h8 ((⟨b, 0, none⟩ : Addr).add 2) (.string t35_2) fun h9 =>
 Store h9 ((⟨b, 0, none⟩ : Addr).add 3) (.string t35_3) fun h10 =>
 Store h10 ((⟨b, 0, none⟩ : Addr).add 4) (.int .i64 t35_4) fun h11 =>
 Store h11 ((⟨b, 0, none⟩ : Addr).add 5) (.slice t35_5.p t35_5.len t35_5.cap) fun h12 =>
 LoadI .i64 h12 (⟨b, 0, none⟩ : Addr) fun t37 =>
 Join (fun (s1 : Unit) h13 =>
 K1 ((IntKind.wrap .i64 (s.1 + (1 : Int))), ()) h13) fun K2 =>
 PIf (t37 == (0 : Int)) (
 LoadL h12 ((⟨b, 0, none⟩ : Addr).add 1) fun t42 =>
 HCalls A P f_lsm_DB_Write #[.pointer t25a, .slice t42.p t42.len t42.cap] h12 fun v3 h14 => ∃ t43 : Int, v3 = .int .i64 t43 ∧ (
 K2 () h14)) (
 PIf (t37 == (3 : Int)) (
 HCalls A P f_lsm_DB_Flush #[.pointer t25a] h12 fun v4 h15 => ∃ t47 : Int, v4 = .int .i64 t47 ∧ (
 K2 () h15)) (
 PIf (t37 == (4 : Int)) (
 HCalls A P f_lsm_DB_Compact #[.pointer t25a] h12 fun v5 h16 => ∃ t51 : Int, v5 = .int .i64 t51 ∧ (
 K2 () h16)) (
 K2 () h12)))) (
 HCalls A P f_lsm_DB_Scan #[.pointer t25a, .string (⟨#[]⟩ : ByteArray), .string (⟨#[]⟩ : ByteArray), .int .i64 1048576] h5 fun v6 h17 => ∃ t55a : Sl, ∃ t55b : Int, v6 = .tuple #[.slice t55a.p t55a.len t55a.cap, .int .i64 t55b] ∧ (
 Loop (fun K3 (s2 : Sl × ByteArray × Unit) h18 =>
 HCalls A P f_lsm_DB_Scan #[.pointer t25a, .string s2.2.1, .string (⟨#[]⟩ : ByteArray), .int .i64 most] h18 fun v7 h19 => ∃ t62a : Sl, ∃ t62b : Int, v7 = .tuple #[.slice t62a.p t62a.len t62a.cap, .int .i64 t62b] ∧ (
 PIf (t62b != (0 : Int)) (
 R (.bool false) h19) (
 PIf (((t62a.len : Nat) : Int) == (0 : Int)) (
 PIf (t55b == (0 : Int)) (
 HCalls A P f_wherryref05_Same #[.slice s2.1.p s2.1.len s2.1.cap, .slice t55a.p t55a.len t55a.cap] h19 fun v8 h20 => ∃ t88 : Bool, v8 = .bool t88 ∧ (
 R (.bool t88) h20)) (
 R (.bool false) h19)) (
 RunK A P (Builtin.append_ #[t_sl_api_Pair, t_sl_api_Pair] t_sl_api_Pair #[.slice s2.1.p s2.1.len s2.1.cap, .slice t62a.p t62a.len t62a.cap]) h19 fun v9 h21 => ∃ t72 : Sl, v9 = .slice t72.p t72.len t72.cap ∧ (
 Idx t62a.p t62a.len (IntKind.wrap .i64 (((t62a.len : Nat) : Int) - (1 : Int))) fun a1 =>
 LoadS h21 (a1.add ((IntKind.wrap .i64 (((t62a.len : Nat) : Int) - (1 : Int))).toNat * 3)) fun t79 =>
 New h21 (.cells #[.int .u8 0] t_uint8) fun b1 h22 =>
 And (hget h22 (a1.add ((IntKind.wrap .i64 (((t62a.len : Nat) : Int) - (1 : Int))).toNat * 3)) = some (.string t79)) <|
 RunK A P (convert t_sl_uint8 t_string (.slice (some (⟨b1, 0, none⟩ : Addr)) 1 1)) h22 fun v10 h23 => ∃ t81 : ByteArray, v10 = .string t81 ∧ (
 And (hget h23 (a1.add ((IntKind.wrap .i64 (((t62a.len : Nat) : Int) - (1 : Int))).toNat * 3)) = some (.string t79)) <|
 Chk (((t79.size + t81.size : Nat) : Int) ≤ IntKind.i64.max) <|
 K3 ((⟨t72.p, t72.len, t72.cap⟩ : Sl), (t79 ++ t81), ()) h23)))))) ((⟨none, 0, 0⟩ : Sl), (⟨#[]⟩ : ByteArray), ()) h17))) (0, ()) h4))))) fun K =>
 PIf (decide (((calls.len : Nat) : Int) > (100 : Int))) (
 K (true, ()) h1) (
 K ((decide (most < (1 : Int))), ()) h1)))
def a_wherrylaw09_LsmScans : Ann := .seq .none (.seq (.seq .none (.cond (.seq .none .none) .none)) (.seq (.seq (.reg [(22, .one .bool)] [0, 1]) (.cond (.seq .none .none) .none)) (.seq .none (.seq (.seq .none (.cond (.seq .none .none) .none)) (.seq (.seq .none (.block (.loop [(32, .one (.int .i64))] [1, 5, 30, 31] (.seq .none (.seq (.cond .none .none) (.seq (.block (.seq .none (.seq .none (.blockJ [] [1, 5, 30, 31, 32] (.seq .none (.cond .none (.seq .none (.cond .none (.seq .none (.cond .none .none)))))))))) .none)))))) (.seq .none (.seq .none (.seq .none (.seq (.block (.loop [(10, .one .sl), (11, .one .str)] [1, 5, 6, 9] (.block (.seq .none (.seq (.seq .none (.cond (.seq .none .none) .none)) (.seq (.seq .none (.cond .none .none)) (.seq .none .none))))))) (.seq .none .none))))))))))
theorem e_wherrylaw09_LsmScans (A : Amb) (calls : Sl) (most : Int) (h : Heap) (R : Value → Heap → Prop) : F_wherrylaw09_LsmScans A calls most h R = semFun A P f_wherrylaw09_LsmScans a_wherrylaw09_LsmScans [.slice calls.p calls.len calls.cap, .int .i64 most] h R := by kernel_rfl
theorem ok_wherrylaw09_LsmScans {A : Amb} {calls : Sl} {most : Int} {h : Heap} {R : Value → Heap → Prop} (H : F_wherrylaw09_LsmScans A calls most h R) : HCalls A P f_wherrylaw09_LsmScans #[.slice calls.p calls.len calls.cap, .int .i64 most] h R :=
 semFun_sound mixed (e_wherrylaw09_LsmScans A calls most h R ▸ H)
end Go.Lf.G

