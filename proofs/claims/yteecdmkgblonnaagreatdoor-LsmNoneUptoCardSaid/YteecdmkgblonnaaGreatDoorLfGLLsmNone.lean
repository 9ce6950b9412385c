/-
 The law LsmNone as a formula.
-/
import Derived.Test.YteecdmkgblonnaaGreatDoorLfG1
set_option linter.unusedVariables false
set_option linter.unusedSimpArgs false
set_option linter.unusedVariables false
set_option maxRecDepth 100000
namespace Go.Lf.G
open Go
def F_wherrylaw09_LsmNone (A : Amb) (l : Sl) (key : ByteArray) (h : Heap) (R : Value → Heap → Prop) : Prop :=
 HCalls A P f_wherrylaw09_awake #[] h fun v h1 => ∃ t18 : Bool, v = .bool t18 ∧ (
 PIf (!t18) (
 R (.bool false) h1) (
 HCalls A P f_lsm_DB_Shape #[.pointer none] h1 fun v1 h2 => ∃ t22a : Int, ∃ t22b : Int, v1 = .tuple #[.int .i64 t22a, .int .i64 t22b] ∧ (
 HCalls A P f_lsm_DB_Get #[.pointer none, .string key] h2 fun v2 h3 => ∃ t28a : ByteArray, ∃ t28b : Bool, ∃ t28c : Int, v2 = .tuple #[.string t28a, .bool t28b, .int .i64 t28c] ∧ (
 HCalls A P f_lsm_DB_Scan #[.pointer none, .string key, .string (⟨#[]⟩ : ByteArray), .int .i64 5] h3 fun v3 h4 => ∃ t35a : Sl, ∃ t35b : Int, v3 = .tuple #[.slice t35a.p t35a.len t35a.cap, .int .i64 t35b] ∧ (
 HCalls A P f_lsm_Open #[.pointer none] h4 fun v4 h5 => ∃ t39a : Option Addr, ∃ t39b : Int, v4 = .tuple #[.pointer t39a, .int .i64 t39b] ∧ (
 HCalls A P f_box_New #[] h5 fun v5 h6 => ∃ t42 : Option Addr, v5 = .pointer t42 ∧ (
 HCalls A P f_box_Box_Crash #[.pointer t42, .slice none 0 0] h6 fun v6 h7 => ∃ t44 : Option Addr, v6 = .pointer t44 ∧ (
 HCalls A P f_lsm_Open #[.pointer t42] h7 fun v7 h8 => ∃ t47a : Option Addr, ∃ t47b : Int, v7 = .tuple #[.pointer t47a, .int .i64 t47b] ∧ (
 PIf (t22a == (0 : Int)) (
 PIf (t22b == (0 : Int)) (
 PIf (t28c == (30 : Int)) (
 PIf (t35b == (30 : Int)) (
 HCalls A P f_lsm_DB_Write #[.pointer none, .slice l.p l.len l.cap] h8 fun v8 h9 => ∃ t67 : Int, v8 = .int .i64 t67 ∧ (
 PIf (t67 == (30 : Int)) (
 HCalls A P f_lsm_DB_Flush #[.pointer none] h9 fun v9 h10 => ∃ t72 : Int, v9 = .int .i64 t72 ∧ (
 PIf (t72 == (30 : Int)) (
 HCalls A P f_lsm_DB_Compact #[.pointer none] h10 fun v10 h11 => ∃ t77 : Int, v10 = .int .i64 t77 ∧ (
 PIf (t77 == (30 : Int)) (
 PIf (t39b == (30 : Int)) (
 R (.bool (t47b == (30 : Int))) h11) (
 R (.bool false) h11)) (
 R (.bool false) h11))) (
 R (.bool false) h10))) (
 R (.bool false) h9))) (
 R (.bool false) h8)) (
 R (.bool false) h8)) (
 R (.bool false) h8)) (
 R (.bool false) h8))))))))))
def a_wherrylaw09_LsmNone : Ann := .seq .none (.seq (.seq .none (.cond (.seq .none .none) .none)) (.seq .none (.seq .none (.seq .none (.seq .none (.seq .none (.seq .none (.seq .none (.seq .none (.seq .none .none))))))))))
theorem e_wherrylaw09_LsmNone (A : Amb) (l : Sl) (key : ByteArray) (h : Heap) (R : Value → Heap → Prop) : F_wherrylaw09_LsmNone A l key h R = semFun A P f_wherrylaw09_LsmNone a_wherrylaw09_LsmNone [.slice l.p l.len l.cap, .string key] h R := by kernel_rfl
theorem ok_wherrylaw09_LsmNone {A : Amb} {l : Sl} {key : ByteArray} {h : Heap} {R : Value → Heap → Prop} (H : F_wherrylaw09_LsmNone A l key h R) : HCalls A P f_wherrylaw09_LsmNone #[.slice l.p l.len l.cap, .string key] h R :=
 semFun_sound mixed (e_wherrylaw09_LsmNone A l key h R ▸ H)
end Go.Lf.G

