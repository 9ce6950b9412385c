/-
 The law LsmBatches as a formula.
-/
import Derived.Test.YteecdmkgblonnaaGreatDoorLfG1
set_option linter.unusedVariables false
set_option linter.unusedSimpArgs false
set_option linter.unusedVariables false
set_option maxRecDepth 100000
namespace Go.Lf.G
open Go
def F_wherrylaw09_LsmBatches (A : Amb) (first : Sl) (batch : Sl) (h : Heap) (R : Value → Heap → Prop) : Prop :=
 HCalls A P f_wherrylaw09_awake #[] h fun v h1 => ∃ t19 : Bool, v = .bool t19 ∧ (
 PIf (!t19) (
 R (.bool false) h1) (
 HCalls A P f_box_New #[] h1 fun v1 h2 => ∃ t22 : Option Addr, v1 = .pointer t22 ∧ (
 HCalls A P f_lsm_Open #[.pointer t22] h2 fun v2 h3 => ∃ t23a : Option Addr, ∃ t23b : Int, v2 = .tuple #[.pointer t23a, .int .i64 t23b] ∧ (
 PIf (t23b != (0 : Int)) (
 R (.bool false) h3) (
 HCalls A P f_lsm_DB_Write #[.pointer t23a, .slice first.p first.len first.cap] h3 fun v3 h4 => ∃ t30 : Int, v3 = .int .i64 t30 ∧ (
 HCalls A P f_lsm_DB_Scan #[.pointer t23a, .string (⟨#[]⟩ : ByteArray), .string (⟨#[]⟩ : ByteArray), .int .i64 1000] h4 fun v4 h5 => ∃ t33a : Sl, ∃ t33b : Int, v4 = .tuple #[.slice t33a.p t33a.len t33a.cap, .int .i64 t33b] ∧ (
 HCalls A P f_lsm_DB_Write #[.pointer t23a, .slice batch.p batch.len batch.cap] h5 fun v5 h6 => ∃ t38 : Int, v5 = .int .i64 t38 ∧ (
 HCalls A P f_lsm_DB_Scan #[.pointer t23a, .string (⟨#[]⟩ : ByteArray), .string (⟨#[]⟩ : ByteArray), .int .i64 1000] h6 fun v6 h7 => ∃ t41a : Sl, ∃ t41b : Int, v6 = .tuple #[.slice t41a.p t41a.len t41a.cap, .int .i64 t41b] ∧ (
 PIf (t41b != (0 : Int)) (
 R (.bool false) h7) (
 PIf (t38 != (0 : Int)) (
 HCalls A P f_wherryref05_Same #[.slice t33a.p t33a.len t33a.cap, .slice t41a.p t41a.len t41a.cap] h7 fun v7 h8 => ∃ t50 : Bool, v7 = .bool t50 ∧ (
 R (.bool t50) h8)) (
 New h7 (.map #[] 0) fun b h9 =>
 Loop (fun K (s : Int × Unit) h10 =>
 PIf (decide (s.1 < ((batch.len : Nat) : Int))) (
 Idx batch.p batch.len s.1 fun a =>
 LoadS h10 (a.add (s.1.toNat * 3)) fun t57_0 =>
 LoadS h10 ((a.add (s.1.toNat * 3)).add 1) fun t57_1 =>
 LoadB h10 ((a.add (s.1.toNat * 3)).add 2) fun t57_2 =>
 New h10 (.cells #[.string (⟨#[]⟩ : ByteArray), .string (⟨#[]⟩ : ByteArray), .bool false] t_api_Pair) fun b1 h11 =>
 Store h11 (⟨b1, 0, none⟩ : Addr) (.string t57_0) fun h12 =>
 Store h12 ((⟨b1, 0, none⟩ : Addr).add 1) (.string t57_1) fun h13 =>
 Store h13 ((⟨b1, 0, none⟩ : Addr).add 2) (.bool t57_2) fun h14 =>
 LoadS h14 (⟨b1, 0, none⟩ : Addr) fun t60 =>
 LoadS h14 (⟨b1, 0, none⟩ : Addr) fun t61_0 =>
 LoadS h14 ((⟨b1, 0, none⟩ : Addr).add 1) fun t61_1 =>
 LoadB h14 ((⟨b1, 0, none⟩ : Addr).add 2) fun t61_2 =>
 RunU A P (Instr.mapUpdate t_map_string_api_Pair (.map (some b)) (.string t60) (.agg #[.string t61_0, .string t61_1, .bool t61_2])) h14 fun h15 => (
 K ((IntKind.wrap .i64 (s.1 + (1 : Int))), ()) h15)) (
 RunK A P (Instr.range t_map_string_api_Pair (.map (some b))) h10 fun v8 h16 => ∃ b2 : Nat, v8 = .pointer (some (⟨b2, 0, none⟩ : Addr)) ∧ (
 Loop (fun K1 (s1 : Unit) h17 =>
 RunK A P (Instr.next (.pointer (some (⟨b2, 0, none⟩ : Addr))) false t_) h17 fun v9 h18 => (v9 = .tuple #[.bool false] ∧ (
 R (.bool true) h18)) ∨ (∃ k u : Value, v9 = .tuple #[.bool true, k, u] ∧ (
 RunK A P (Instr.entry (.pointer (some (⟨b2, 0, none⟩ : Addr)))) h18 fun v12 h26 => ∃ k2 u2 : Value, v12 = .tuple #[k2, u2] ∧ ∃ t67_0_1 : ByteArray, k2 = .string t67_0_1 ∧ ∃ t67_1_0_1 : ByteArray, ∃ t67_1_1_1 : ByteArray, ∃ t67_1_2_1 : Bool, u2 = .agg #[.string t67_1_0_1, .string t67_1_1_1, .bool t67_1_2_1] ∧ (
 New h26 (.cells #[.string (⟨#[]⟩ : ByteArray), .string (⟨#[]⟩ : ByteArray), .bool false] t_api_Pair) fun b4 h27 =>
 Store h27 (⟨b4, 0, none⟩ : Addr) (.string t67_1_0_1) fun h28 =>
 Store h28 ((⟨b4, 0, none⟩ : Addr).add 1) (.string t67_1_1_1) fun h29 =>
 Store h29 ((⟨b4, 0, none⟩ : Addr).add 2) (.bool t67_1_2_1) fun h30 =>
 HCalls A P f_lsm_DB_Get #[.pointer t23a, .string t67_0_1] h30 fun v13 h31 => ∃ t73a1 : ByteArray, ∃ t73b1 : Bool, ∃ t73c1 : Int, v13 = .tuple #[.string t73a1, .bool t73b1, .int .i64 t73c1] ∧ (
 Join (fun (r1 : Bool × Unit) h32 =>
 PIf r1.1 (
 R (.bool false) h32) (
 K1 () h32)) fun K3 =>
 PIf (t73c1 != (0 : Int)) (
 K3 (true, ()) h31) (
 LoadB h31 ((⟨b4, 0, none⟩ : Addr).add 2) fun t82_1 =>
 PIf (t73b1 == t82_1) (
 K3 (true, ()) h31) (
 LoadS h31 ((⟨b4, 0, none⟩ : Addr).add 1) fun t88_1 =>
 K3 ((!sEq t73a1 t88_1), ()) h31))))))) () h16))) (0, ()) h9)))))))))))
def a_wherrylaw09_LsmBatches : Ann := .seq .none (.seq (.seq .none (.cond (.seq .none .none) .none)) (.seq .none (.seq (.seq .none (.cond (.seq .none .none) .none)) (.seq .none (.seq .none (.seq .none (.seq .none (.seq (.seq .none (.cond (.seq .none .none) .none)) (.seq (.seq .none (.cond (.seq .none .none) .none)) (.seq .none (.seq (.seq .none (.block (.loop [(54, .one (.int .i64))] [5, 11, 52, 53] (.seq .none (.seq (.cond .none .none) (.seq (.block (.seq .none .none)) .none)))))) (.seq (.seq .none (.block (.loop [] [5, 64] (.seq .none (.seq (.cond .none .none) (.block (.seq .none (.seq .none (.seq (.reg [(90, .one .bool)] [5, 64]) (.cond (.seq .none .none) .none)))))))))) (.seq .none .none)))))))))))))
theorem e_wherrylaw09_LsmBatches (A : Amb) (first : Sl) (batch : Sl) (h : Heap) (R : Value → Heap → Prop) : F_wherrylaw09_LsmBatches A first batch h R = semFun A P f_wherrylaw09_LsmBatches a_wherrylaw09_LsmBatches [.slice first.p first.len first.cap, .slice batch.p batch.len batch.cap] h R := by kernel_rfl
theorem ok_wherrylaw09_LsmBatches {A : Amb} {first : Sl} {batch : Sl} {h : Heap} {R : Value → Heap → Prop} (H : F_wherrylaw09_LsmBatches A first batch h R) : HCalls A P f_wherrylaw09_LsmBatches #[.slice first.p first.len first.cap, .slice batch.p batch.len batch.cap] h R :=
 semFun_sound mixed (e_wherrylaw09_LsmBatches A first batch h R ▸ H)
end Go.Lf.G

